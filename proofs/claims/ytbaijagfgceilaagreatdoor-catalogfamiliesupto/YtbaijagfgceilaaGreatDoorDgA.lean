/- A part of the proof of CatalogFamilies. -/
import Derived.Test.YtbaijagfgceilaaGreatDoorXxA
import Derived.Test.YtbaijagfgceilaaGreatDoorAmF
set_option maxRecDepth 100000
set_option maxHeartbeats 4000000
set_option synthInstance.maxSize 20000
set_option linter.unusedVariables false
namespace Go.Proofs.YtbaijagfgceilaaGreatDoor
open Go.Am
instance:Nonempty (T3 C):=⟨hC⟩
def estr.row (x:Str):Row:=[.str x]
def estr.rows (l:List Str):List Row:=l.map estr.row
theorem estr.rows_map (l:List Str):estr.rows l=l.map estr.row:=rfl
theorem estr.idx {l:List Str}{n:Int}{x:Str}(h:idx l n=some x):(estr.rows l)[n.toNat]?=some (estr.row x):=Eh estr.rows_map h
theorem estr.app (l m:List Str):estr.rows (l++m)=estr.rows l++estr.rows m:=Hk estr.rows_map l m
theorem estr.len (l:List Str):(estr.rows l).length=l.length:=Ik estr.rows_map l
theorem estr.lenA (l:List Str):A.d (.int .i64 ((estr.rows l).length:Nat))=A.d (.int .i64 (l.length:Nat)):=Jf estr.rows_map l
theorem estr.sz (l:List Str):∀ r∈estr.rows l,r.length=1:=En estr.rows_map (fun _=>rfl) l
def ei64.row (x:Int):Row:=[.int .i64 x]
def ei64.rows (l:List Int):List Row:=l.map ei64.row
theorem ei64.rows_map (l:List Int):ei64.rows l=l.map ei64.row:=rfl
theorem ei64.idx {l:List Int}{n:Int}{x:Int}(h:idx l n=some x):(ei64.rows l)[n.toNat]?=some (ei64.row x):=Eh ei64.rows_map h
theorem ei64.app (l m:List Int):ei64.rows (l++m)=ei64.rows l++ei64.rows m:=Hk ei64.rows_map l m
theorem ei64.len (l:List Int):(ei64.rows l).length=l.length:=Ik ei64.rows_map l
theorem ei64.lenA (l:List Int):A.d (.int .i64 ((ei64.rows l).length:Nat))=A.d (.int .i64 (l.length:Nat)):=Jf ei64.rows_map l
theorem ei64.sz (l:List Int):∀ r∈ei64.rows l,r.length=1:=En ei64.rows_map (fun _=>rfl) l
structure K0 where
 name:Str
 low:Int
 high:Int
 second:Option Nat
 text:Str
 known:Option Nat
def K0.zero:K0:=⟨[],0,0,none,[],none⟩
instance:Inhabited K0:=⟨K0.zero⟩
def K0.row (x:K0):Row:=[.str x.name,.int .i64 x.low,.int .i64 x.high,.fn x.second,.str x.text,.fn x.known]
def K0.rows (l:List K0):List Row:=l.map K0.row
theorem K0.rows_map (l:List K0):K0.rows l=l.map K0.row:=rfl
def K0.cells (x:K0):List A:=[.d (.str x.name),.d (.int .i64 x.low),.d (.int .i64 x.high),.d (.fn x.second),.d (.str x.text),.d (.fn x.known)]
theorem K0.idx {l:List K0}{n:Int}{x:K0}(h:idx l n=some x):(K0.rows l)[n.toNat]?=some (K0.row x):=Eh K0.rows_map h
theorem K0.lenA (l:List K0):A.d (.int .i64 ((K0.rows l).length:Nat))=A.d (.int .i64 (l.length:Nat)):=Jf K0.rows_map l
structure P1 where
 x0:Str
 x1:Str
def P1.zero:P1:=⟨[],[]⟩
instance:Inhabited P1:=⟨P1.zero⟩
def P1.row (x:P1):Row:=[.str x.x0,.str x.x1]
def P1.rows (l:List P1):List Row:=l.map P1.row
theorem P1.rows_map (l:List P1):P1.rows l=l.map P1.row:=rfl
theorem P1.idx {l:List P1}{n:Int}{x:P1}(h:idx l n=some x):(P1.rows l)[n.toNat]?=some (P1.row x):=Eh P1.rows_map h
theorem P1.lenA (l:List P1):A.d (.int .i64 ((P1.rows l).length:Nat))=A.d (.int .i64 (l.length:Nat)):=Jf P1.rows_map l
structure L0 where
 Kind:Int
 Low:Int
 High:Int
 Size:Int
 Name:Str
 Names:List Str
 Of:List L0
def L0.zero:L0:=⟨0,0,0,0,[],[],[]⟩
instance:Inhabited L0:=⟨L0.zero⟩
mutual
def L0.rowX:L0→Row
 | .mk y0 y1 y2 y3 y4 y5 y6=>[.int .i64 y0,.int .i64 y1,.int .i64 y2,.int .i64 y3,.str y4,.sl (estr.rows y5),.sl (L0.rowsX y6)]
def L0.rowsX:List L0→List Row
 | []=>[]
 | x::r=>L0.rowX x::L0.rowsX r
end
def L0.rows (l:List L0):List Row:=L0.rowsX l
def L0.row (x:L0):Row:=[.int .i64 x.Kind,.int .i64 x.Low,.int .i64 x.High,.int .i64 x.Size,.str x.Name,.sl (estr.rows x.Names),.sl (L0.rows x.Of)]
theorem L0.rows_map:∀ l,L0.rows l=l.map L0.row
 | []=>rfl
 | x::r=>by
  show L0.rowX x::L0.rows r=L0.row x::r.map L0.row
  rw [L0.rows_map r]
  cases x
  rfl
def L0.cells (x:L0):List A:=[.d (.int .i64 x.Kind),.d (.int .i64 x.Low),.d (.int .i64 x.High),.d (.int .i64 x.Size),.d (.str x.Name),.d (.sl (estr.rows x.Names)),.d (.sl (L0.rows x.Of))]
theorem L0.idx {l:List L0}{n:Int}{x:L0}(h:idx l n=some x):(L0.rows l)[n.toNat]?=some (L0.row x):=Eh L0.rows_map h
theorem L0.app (l m:List L0):L0.rows (l++m)=L0.rows l++L0.rows m:=Hk L0.rows_map l m
theorem L0.len (l:List L0):(L0.rows l).length=l.length:=Ik L0.rows_map l
theorem L0.lenA (l:List L0):A.d (.int .i64 ((L0.rows l).length:Nat))=A.d (.int .i64 (l.length:Nat)):=Jf L0.rows_map l
theorem L0.sz (l:List L0):∀ r∈L0.rows l,r.length=7:=En L0.rows_map (fun _=>rfl) l
structure B0 where
 Op:Int
 NV:Int
 Name:Str
 Kids:List B0
def B0.zero:B0:=⟨0,0,[],[]⟩
instance:Inhabited B0:=⟨B0.zero⟩
mutual
def B0.rowX:B0→Row
 | .mk y0 y1 y2 y3=>[.int .i64 y0,.int .i64 y1,.str y2,.sl (B0.rowsX y3)]
def B0.rowsX:List B0→List Row
 | []=>[]
 | x::r=>B0.rowX x::B0.rowsX r
end
def B0.rows (l:List B0):List Row:=B0.rowsX l
def B0.row (x:B0):Row:=[.int .i64 x.Op,.int .i64 x.NV,.str x.Name,.sl (B0.rows x.Kids)]
theorem B0.rows_map:∀ l,B0.rows l=l.map B0.row
 | []=>rfl
 | x::r=>by
  show B0.rowX x::B0.rows r=B0.row x::r.map B0.row
  rw [B0.rows_map r]
  cases x
  rfl
def B0.cells (x:B0):List A:=[.d (.int .i64 x.Op),.d (.int .i64 x.NV),.d (.str x.Name),.d (.sl (B0.rows x.Kids))]
theorem B0.idx {l:List B0}{n:Int}{x:B0}(h:idx l n=some x):(B0.rows l)[n.toNat]?=some (B0.row x):=Eh B0.rows_map h
theorem B0.app (l m:List B0):B0.rows (l++m)=B0.rows l++B0.rows m:=Hk B0.rows_map l m
theorem B0.len (l:List B0):(B0.rows l).length=l.length:=Ik B0.rows_map l
theorem B0.lenA (l:List B0):A.d (.int .i64 ((B0.rows l).length:Nat))=A.d (.int .i64 (l.length:Nat)):=Jf B0.rows_map l
theorem B0.sz (l:List B0):∀ r∈B0.rows l,r.length=4:=En B0.rows_map (fun _=>rfl) l
structure J0 where
 Verb:Int
 Place:B0
 Value:B0
 Name:Str
 Args:List B0
 NV:Int
 Low:Int
 High:Int
 Numbers:List Int
 Then:List J0
 Else:List J0
def J0.zero:J0:=⟨0,⟨0,0,[],[]⟩,⟨0,0,[],[]⟩,[],[],0,0,0,[],[],[]⟩
instance:Inhabited J0:=⟨J0.zero⟩
mutual
def J0.rowX:J0→Row
 | .mk y0 y1 y2 y3 y4 y5 y6 y7 y8 y9 y10=>[.int .i64 y0,.int .i64 y1.Op,.int .i64 y1.NV,.str y1.Name,.sl (B0.rows y1.Kids),.int .i64 y2.Op,.int .i64 y2.NV,.str y2.Name,.sl (B0.rows y2.Kids),.str y3,.sl (B0.rows y4),.int .i64 y5,.int .i64 y6,.int .i64 y7,.sl (ei64.rows y8),.sl (J0.rowsX y9),.sl (J0.rowsX y10)]
def J0.rowsX:List J0→List Row
 | []=>[]
 | x::r=>J0.rowX x::J0.rowsX r
end
def J0.rows (l:List J0):List Row:=J0.rowsX l
def J0.row (x:J0):Row:=[.int .i64 x.Verb,.int .i64 x.Place.Op,.int .i64 x.Place.NV,.str x.Place.Name,.sl (B0.rows x.Place.Kids),.int .i64 x.Value.Op,.int .i64 x.Value.NV,.str x.Value.Name,.sl (B0.rows x.Value.Kids),.str x.Name,.sl (B0.rows x.Args),.int .i64 x.NV,.int .i64 x.Low,.int .i64 x.High,.sl (ei64.rows x.Numbers),.sl (J0.rows x.Then),.sl (J0.rows x.Else)]
theorem J0.rows_map:∀ l,J0.rows l=l.map J0.row
 | []=>rfl
 | x::r=>by
  show J0.rowX x::J0.rows r=J0.row x::r.map J0.row
  rw [J0.rows_map r]
  cases x
  rfl
def J0.cells (x:J0):List A:=[.d (.int .i64 x.Verb),.d (.int .i64 x.Place.Op),.d (.int .i64 x.Place.NV),.d (.str x.Place.Name),.d (.sl (B0.rows x.Place.Kids)),.d (.int .i64 x.Value.Op),.d (.int .i64 x.Value.NV),.d (.str x.Value.Name),.d (.sl (B0.rows x.Value.Kids)),.d (.str x.Name),.d (.sl (B0.rows x.Args)),.d (.int .i64 x.NV),.d (.int .i64 x.Low),.d (.int .i64 x.High),.d (.sl (ei64.rows x.Numbers)),.d (.sl (J0.rows x.Then)),.d (.sl (J0.rows x.Else))]
theorem J0.idx {l:List J0}{n:Int}{x:J0}(h:idx l n=some x):(J0.rows l)[n.toNat]?=some (J0.row x):=Eh J0.rows_map h
theorem J0.app (l m:List J0):J0.rows (l++m)=J0.rows l++J0.rows m:=Hk J0.rows_map l m
theorem J0.len (l:List J0):(J0.rows l).length=l.length:=Ik J0.rows_map l
theorem J0.lenA (l:List J0):A.d (.int .i64 ((J0.rows l).length:Nat))=A.d (.int .i64 (l.length:Nat)):=Jf J0.rows_map l
theorem J0.sz (l:List J0):∀ r∈J0.rows l,r.length=17:=En J0.rows_map (fun _=>rfl) l
structure E0 where
 Kind:Int
 Name:Str
 TypeV:L0
 Init:Int
 Value:B0
 Params:List E0
 Vars:List E0
 Body:List J0
def E0.zero:E0:=⟨0,[],⟨0,0,0,0,[],[],[]⟩,0,⟨0,0,[],[]⟩,[],[],[]⟩
instance:Inhabited E0:=⟨E0.zero⟩
mutual
def E0.rowX:E0→Row
 | .mk y0 y1 y2 y3 y4 y5 y6 y7=>[.int .i64 y0,.str y1,.int .i64 y2.Kind,.int .i64 y2.Low,.int .i64 y2.High,.int .i64 y2.Size,.str y2.Name,.sl (estr.rows y2.Names),.sl (L0.rows y2.Of),.int .i64 y3,.int .i64 y4.Op,.int .i64 y4.NV,.str y4.Name,.sl (B0.rows y4.Kids),.sl (E0.rowsX y5),.sl (E0.rowsX y6),.sl (J0.rows y7)]
def E0.rowsX:List E0→List Row
 | []=>[]
 | x::r=>E0.rowX x::E0.rowsX r
end
def E0.rows (l:List E0):List Row:=E0.rowsX l
def E0.row (x:E0):Row:=[.int .i64 x.Kind,.str x.Name,.int .i64 x.TypeV.Kind,.int .i64 x.TypeV.Low,.int .i64 x.TypeV.High,.int .i64 x.TypeV.Size,.str x.TypeV.Name,.sl (estr.rows x.TypeV.Names),.sl (L0.rows x.TypeV.Of),.int .i64 x.Init,.int .i64 x.Value.Op,.int .i64 x.Value.NV,.str x.Value.Name,.sl (B0.rows x.Value.Kids),.sl (E0.rows x.Params),.sl (E0.rows x.Vars),.sl (J0.rows x.Body)]
theorem E0.rows_map:∀ l,E0.rows l=l.map E0.row
 | []=>rfl
 | x::r=>by
  show E0.rowX x::E0.rows r=E0.row x::r.map E0.row
  rw [E0.rows_map r]
  cases x
  rfl
def E0.cells (x:E0):List A:=[.d (.int .i64 x.Kind),.d (.str x.Name),.d (.int .i64 x.TypeV.Kind),.d (.int .i64 x.TypeV.Low),.d (.int .i64 x.TypeV.High),.d (.int .i64 x.TypeV.Size),.d (.str x.TypeV.Name),.d (.sl (estr.rows x.TypeV.Names)),.d (.sl (L0.rows x.TypeV.Of)),.d (.int .i64 x.Init),.d (.int .i64 x.Value.Op),.d (.int .i64 x.Value.NV),.d (.str x.Value.Name),.d (.sl (B0.rows x.Value.Kids)),.d (.sl (E0.rows x.Params)),.d (.sl (E0.rows x.Vars)),.d (.sl (J0.rows x.Body))]
theorem E0.idx {l:List E0}{n:Int}{x:E0}(h:idx l n=some x):(E0.rows l)[n.toNat]?=some (E0.row x):=Eh E0.rows_map h
theorem E0.app (l m:List E0):E0.rows (l++m)=E0.rows l++E0.rows m:=Hk E0.rows_map l m
theorem E0.len (l:List E0):(E0.rows l).length=l.length:=Ik E0.rows_map l
theorem E0.lenA (l:List E0):A.d (.int .i64 ((E0.rows l).length:Nat))=A.d (.int .i64 (l.length:Nat)):=Jf E0.rows_map l
theorem E0.sz (l:List E0):∀ r∈E0.rows l,r.length=17:=En E0.rows_map (fun _=>rfl) l
structure E1 where
 Decls:List E0
 Body:List J0
def E1.zero:E1:=⟨[],[]⟩
instance:Inhabited E1:=⟨E1.zero⟩
def E1.cells (x:E1):List A:=[.d (.sl (E0.rows x.Decls)),.d (.sl (J0.rows x.Body))]
structure X0 where
 Kind:Int
 Text:Str
 At:Int
def X0.zero:X0:=⟨0,[],0⟩
instance:Inhabited X0:=⟨X0.zero⟩
def X0.row (x:X0):Row:=[.int .i64 x.Kind,.str x.Text,.int .i64 x.At]
def X0.rows (l:List X0):List Row:=l.map X0.row
theorem X0.rows_map (l:List X0):X0.rows l=l.map X0.row:=rfl
def X0.cells (x:X0):List A:=[.d (.int .i64 x.Kind),.d (.str x.Text),.d (.int .i64 x.At)]
theorem X0.idx {l:List X0}{n:Int}{x:X0}(h:idx l n=some x):(X0.rows l)[n.toNat]?=some (X0.row x):=Eh X0.rows_map h
theorem X0.app (l m:List X0):X0.rows (l++m)=X0.rows l++X0.rows m:=Hk X0.rows_map l m
theorem X0.len (l:List X0):(X0.rows l).length=l.length:=Ik X0.rows_map l
theorem X0.lenA (l:List X0):A.d (.int .i64 ((X0.rows l).length:Nat))=A.d (.int .i64 (l.length:Nat)):=Jf X0.rows_map l
theorem X0.sz (l:List X0):∀ r∈X0.rows l,r.length=3:=En X0.rows_map (fun _=>rfl) l
structure A0 where
 tokens:List X0
 next:Int
 endV:Int
def A0.zero:A0:=⟨[],0,0⟩
instance:Inhabited A0:=⟨A0.zero⟩
def A0.cells (x:A0):List A:=[.d (.sl (X0.rows x.tokens)),.d (.int .i64 x.next),.d (.int .i64 x.endV)]
structure D0 where
 nodes:Int
 depth:Int
 badForm:Bool
 badName:Bool
 badNumber:Bool
def D0.zero:D0:=⟨0,0,false,false,false⟩
instance:Inhabited D0:=⟨D0.zero⟩
def D0.cells (x:D0):List A:=[.d (.int .i64 x.nodes),.d (.int .i64 x.depth),.d (.bool x.badForm),.d (.bool x.badName),.d (.bool x.badNumber)]
structure B2 where
 place:Bool
 value:Bool
 name:Bool
 args:Bool
 n:Bool
 bounds:Bool
 numbers:Bool
 thenV:Bool
 other:Bool
def B2.zero:B2:=⟨false,false,false,false,false,false,false,false,false⟩
instance:Inhabited B2:=⟨B2.zero⟩
def B2.cells (x:B2):List A:=[.d (.bool x.place),.d (.bool x.value),.d (.bool x.name),.d (.bool x.args),.d (.bool x.n),.d (.bool x.bounds),.d (.bool x.numbers),.d (.bool x.thenV),.d (.bool x.other)]
structure Hh where
 nodes:Int
 depth:Int
def Hh.zero:Hh:=⟨0,0⟩
instance:Inhabited Hh:=⟨Hh.zero⟩
theorem T17 {l:List Str}{s res:Str}(hh:C14 l s=some res):W0 C 30 [.d (.sl (estr.rows l)),.d (.str s)] [] (fun x H'=>H'=[]∧x = .d (.str res)):=by
 obtain ⟨⟨k1,k2⟩,hh⟩:=V4 hh
 cases hh
 refine W0.ofBelow (Dn Tryz.func30 rfl rfl) fun M G w vs hg hgl hl hr=>?_
 obtain ⟨h1,_⟩:=Qi hl hr (i:=1) rfl
 have hlt:0 < vs.size:=by rw [← hl]; exact Nat.zero_lt_succ _
 have h0:vs[0]?=some vs[0]:=Array.getElem?_eq_getElem hlt
 have hr0:=hr 0 _ _ rfl h0
 generalize vs[0]=v at h0 hr0
 obtain rfl:=J18 hl.symm h0 h1
 cases hr0
 rename_i hr0
 have e1:(l.map fun x=>(⟨x.toArray⟩:ByteArray)).map (·.data.toList)=l:=by rw [List.map_map]; exact List.map_id'' (fun x=>rfl) l
 have fin:∀ c:List UInt8,c=Lib.join l s→(∀ M G,O1 M G (.d (.str (Lib.join l s))) (.string ⟨c.toArray⟩)):=fun c hc M G=>by
  subst hc
  exact .d (.str (by unfold maxLen; omega))
 refine ⟨.string ⟨(Lib.join l s).toArray⟩,fin _ rfl,?_⟩
 have none:∀ (a:Option Addr) (c:Nat),l=[]→Calls C.P 30 #[.slice a 0 c,.string ⟨s.toArray⟩] w fun e w'=>e = .returned (.string ⟨(Lib.join l s).toArray⟩)∧Go.RowKit.Below w.heap.size w w':=fun a c hn=>by
  subst hn
  exact (Tryz.strings_Join_none a c ⟨s.toArray⟩ w).mono fun e w' ⟨he,hw⟩=>⟨he,hw ▸ Go.RowKit.Below.refl _ _⟩
 cases hl0:l with
 | nil=>
  obtain ⟨a,cap,rfl,_⟩:=S16 hr0
  have he:(estr.rows l).length=0:=by rw [estr.len,hl0]; rfl
  rw [he,← hl0]
  exact none _ _ hl0
 | cons x r=>
  rw [← hl0]
  have hpos:0 < l.length:=by rw [hl0]; exact Nat.zero_lt_succ _
  have hlen:=estr.len l
  have get:∀ (j:Nat) y,l[j]?=some y→(estr.rows l)[j]?=some [.str y]:=fun j y hy=>by
   show (l.map estr.row)[j]?=_
   rw [List.getElem?_map,hy]
   rfl
  generalize hR:estr.rows l=R at hr0 hlen get
  cases hr0 with
  | slnil=>exact absurd hlen (by rw [hl0]; simp)
  | sl sz A2 hl' hc hm hs hz g1 g2=>
   rename_i a len cap
   have hz1:sz=1:=by
    have:=hz 0 _ (get 0 x (by rw [hl0]; rfl))
    exact this.symm
   subst hz1
   have hsp:a.spot=Option.none:=by
    rcases hs with h | h
    ·omega
    ·exact h
   obtain ⟨bk,off,sp⟩:=a
   simp only at hsp
   subst hsp
   have hcell:∀ (j:Nat) y,l[j]?=some y→M ⟨bk,off+j,Option.none⟩=some (.string ⟨y.toArray⟩):=fun j y hy=>by
    have q1:=g1 j 0 _ _ (get j y hy) rfl
    have q2:=g2 j 0 _ _ (get j y hy) rfl
    generalize A2 j 0=u at q1 q2
    cases q2
    rwa [Bc,Nat.mul_one,Nat.add_zero] at q1
   have hc1:=hcell 0 x (by rw [hl0]; rfl)
   have key:=Tryz.strings_Join bk off cap (l.map fun x=>(⟨x.toArray⟩:ByteArray)) ⟨s.toArray⟩ w (fun j y hy=>by
    rw [List.getElem?_map] at hy
    cases hj:l[j]? with
    | none=>rw [hj] at hy; cases hy
    | some z=>
     rw [hj] at hy
     simp only [Option.map_some,Option.some.injEq] at hy
     subst hy
     exact hg.at (hcell j z hj) rfl) (hg.lt hc1) (by rw [List.length_map]; omega) (by rw [List.length_map]; omega) (by rw [e1]; show (Lib.join l s).length≤_; omega)
   rw [e1,List.length_map,show l.length=len by omega] at key
   exact key.mono fun e w' ⟨he,hb⟩=>⟨by simpa using he,hb⟩
def D7:Option (List K0):=
 some [(K0.mk [112,97,115,115,119,111,114,100] 2 64 (some 44) [115,101,99,114,101,116,32,112,105,110,58,32,105,110,116,91,48,46,46,60,65,62,93,59,10,112,117,98,108,105,99,32,103,117,101,115,115,58,32,105,110,116,91,48,46,46,60,65,62,93,59,10,98,101,103,105,110,32,111,117,116,112,117,116,32,112,105,110,32,61,61,32,103,117,101,115,115,59,32,101,110,100] (some 45)),(K0.mk [100,105,103,105,116,115] 1 4 (some 46) [115,101,99,114,101,116,32,112,105,110,58,32,97,114,114,97,121,32,60,97,62,32,111,102,32,105,110,116,91,48,46,46,60,66,62,93,59,10,112,117,98,108,105,99,32,103,117,101,115,115,58,32,97,114,114,97,121,32,60,97,62,32,111,102,32,105,110,116,91,48,46,46,60,66,62,93,59,10,118,97,114,32,105,58,32,105,110,116,91,48,46,46,60,97,62,93,59,10,118,97,114,32,111,107,58,32,98,111,111,108,32,61,32,116,114,117,101,59,10,98,101,103,105,110,32,119,104,105,108,101,32,111,107,32,38,38,32,105,32,60,32,60,97,62,32,108,105,109,105,116,32,60,97,62,32,123,32,105,102,32,112,105,110,91,105,93,32,61,61,32,103,117,101,115,115,91,105,93,32,123,32,105,32,61,32,105,32,43,32,49,59,32,125,32,101,108,115,101,32,123,32,111,107,32,61,32,102,97,108,115,101,59,32,125,32,125,32,111,117,116,112,117,116,32,111,107,59,32,101,110,100] (some 47)),(K0.mk [98,105,116,115] 1 8 (some 44) [115,101,99,114,101,116,32,115,58,32,97,114,114,97,121,32,60,97,62,32,111,102,32,98,111,111,108,59,10,98,101,103,105,110,32,102,111,114,32,105,32,61,32,48,32,116,111,32,60,65,62,32,123,32,111,117,116,112,117,116,32,115,91,105,93,59,32,125,32,101,110,100] (some 48)),(K0.mk [112,97,114,105,116,121] 2 64 (some 44) [115,101,99,114,101,116,32,115,58,32,105,110,116,91,48,46,46,60,65,62,93,59,10,98,101,103,105,110,32,111,117,116,112,117,116,32,115,32,37,32,50,59,32,101,110,100] (some 45)),(K0.mk [100,105,99,101] 1 3 (some 49) [115,101,99,114,101,116,32,100,58,32,97,114,114,97,121,32,60,97,62,32,111,102,32,105,110,116,91,49,46,46,60,98,62,93,59,10,118,97,114,32,116,58,32,105,110,116,91,48,46,46,60,84,62,93,59,10,98,101,103,105,110,32,102,111,114,32,105,32,61,32,48,32,116,111,32,60,65,62,32,123,32,116,32,61,32,116,32,43,32,100,91,105,93,59,32,125,32,111,117,116,112,117,116,32,116,59,32,101,110,100] (some 50)),(K0.mk [112,111,119,101,114] 1 6 (some 44) [115,101,99,114,101,116,32,101,58,32,97,114,114,97,121,32,60,97,62,32,111,102,32,98,111,111,108,59,10,118,97,114,32,120,58,32,105,110,116,91,48,46,46,49,50,93,32,61,32,49,59,10,98,101,103,105,110,32,102,111,114,32,105,32,61,32,48,32,116,111,32,60,65,62,32,123,32,120,32,61,32,120,32,42,32,120,32,37,32,49,51,59,32,105,102,32,101,91,105,93,32,123,32,120,32,61,32,120,32,42,32,50,32,37,32,49,51,59,32,125,32,125,32,101,110,100] (some 51)),(K0.mk [116,104,114,101,115,104,111,108,100] 2 64 (some 52) [115,101,99,114,101,116,32,115,58,32,105,110,116,91,48,46,46,60,65,62,93,59,10,98,101,103,105,110,32,111,117,116,112,117,116,32,115,32,62,61,32,60,98,62,59,32,101,110,100] (some 45)),(K0.mk [109,97,115,107,101,100] 1 16 (some 44) [115,101,99,114,101,116,32,115,58,32,105,110,116,91,48,46,46,60,65,62,93,59,10,114,97,110,100,111,109,32,114,58,32,105,110,116,91,48,46,46,60,65,62,93,59,10,98,101,103,105,110,32,111,117,116,112,117,116,32,40,115,32,43,32,114,41,32,37,32,60,97,62,59,32,101,110,100] (some 53)),(K0.mk [115,101,97,114,99,104] 1 64 (some 54) [115,101,99,114,101,116,32,115,58,32,105,110,116,91,48,46,46,60,65,62,93,59,10,118,97,114,32,105,58,32,105,110,116,91,48,46,46,60,97,62,93,59,10,98,101,103,105,110,32,119,104,105,108,101,32,105,32,60,32,115,32,108,105,109,105,116,32,60,97,62,32,123,32,105,32,61,32,105,32,43,32,49,59,32,125,32,115,101,116,116,108,101,32,60,78,62,59,32,101,110,100] (some 55))]
theorem Qm {res}(hh:D7=some res):W0 C 26 [] [] (Ret [] (.d (.sl (K0.rows res)))):=by
 unfold D7 at hh
 refine W0.intro hC Tryz.func26 rfl rfl rfl (t' rfl (p' 9 rfl ?_))
 refine C0.b hC (d:=some 10) (rs:=K0.rows [(K0.mk [112,97,115,115,119,111,114,100] 2 64 (some 44) [115,101,99,114,101,116,32,112,105,110,58,32,105,110,116,91,48,46,46,60,65,62,93,59,10,112,117,98,108,105,99,32,103,117,101,115,115,58,32,105,110,116,91,48,46,46,60,65,62,93,59,10,98,101,103,105,110,32,111,117,116,112,117,116,32,112,105,110,32,61,61,32,103,117,101,115,115,59,32,101,110,100] (some 45)),(K0.mk [100,105,103,105,116,115] 1 4 (some 46) [115,101,99,114,101,116,32,112,105,110,58,32,97,114,114,97,121,32,60,97,62,32,111,102,32,105,110,116,91,48,46,46,60,66,62,93,59,10,112,117,98,108,105,99,32,103,117,101,115,115,58,32,97,114,114,97,121,32,60,97,62,32,111,102,32,105,110,116,91,48,46,46,60,66,62,93,59,10,118,97,114,32,105,58,32,105,110,116,91,48,46,46,60,97,62,93,59,10,118,97,114,32,111,107,58,32,98,111,111,108,32,61,32,116,114,117,101,59,10,98,101,103,105,110,32,119,104,105,108,101,32,111,107,32,38,38,32,105,32,60,32,60,97,62,32,108,105,109,105,116,32,60,97,62,32,123,32,105,102,32,112,105,110,91,105,93,32,61,61,32,103,117,101,115,115,91,105,93,32,123,32,105,32,61,32,105,32,43,32,49,59,32,125,32,101,108,115,101,32,123,32,111,107,32,61,32,102,97,108,115,101,59,32,125,32,125,32,111,117,116,112,117,116,32,111,107,59,32,101,110,100] (some 47)),(K0.mk [98,105,116,115] 1 8 (some 44) [115,101,99,114,101,116,32,115,58,32,97,114,114,97,121,32,60,97,62,32,111,102,32,98,111,111,108,59,10,98,101,103,105,110,32,102,111,114,32,105,32,61,32,48,32,116,111,32,60,65,62,32,123,32,111,117,116,112,117,116,32,115,91,105,93,59,32,125,32,101,110,100] (some 48)),(K0.mk [112,97,114,105,116,121] 2 64 (some 44) [115,101,99,114,101,116,32,115,58,32,105,110,116,91,48,46,46,60,65,62,93,59,10,98,101,103,105,110,32,111,117,116,112,117,116,32,115,32,37,32,50,59,32,101,110,100] (some 45)),(K0.mk [100,105,99,101] 1 3 (some 49) [115,101,99,114,101,116,32,100,58,32,97,114,114,97,121,32,60,97,62,32,111,102,32,105,110,116,91,49,46,46,60,98,62,93,59,10,118,97,114,32,116,58,32,105,110,116,91,48,46,46,60,84,62,93,59,10,98,101,103,105,110,32,102,111,114,32,105,32,61,32,48,32,116,111,32,60,65,62,32,123,32,116,32,61,32,116,32,43,32,100,91,105,93,59,32,125,32,111,117,116,112,117,116,32,116,59,32,101,110,100] (some 50)),(K0.mk [112,111,119,101,114] 1 6 (some 44) [115,101,99,114,101,116,32,101,58,32,97,114,114,97,121,32,60,97,62,32,111,102,32,98,111,111,108,59,10,118,97,114,32,120,58,32,105,110,116,91,48,46,46,49,50,93,32,61,32,49,59,10,98,101,103,105,110,32,102,111,114,32,105,32,61,32,48,32,116,111,32,60,65,62,32,123,32,120,32,61,32,120,32,42,32,120,32,37,32,49,51,59,32,105,102,32,101,91,105,93,32,123,32,120,32,61,32,120,32,42,32,50,32,37,32,49,51,59,32,125,32,125,32,101,110,100] (some 51)),(K0.mk [116,104,114,101,115,104,111,108,100] 2 64 (some 52) [115,101,99,114,101,116,32,115,58,32,105,110,116,91,48,46,46,60,65,62,93,59,10,98,101,103,105,110,32,111,117,116,112,117,116,32,115,32,62,61,32,60,98,62,59,32,101,110,100] (some 45)),(K0.mk [109,97,115,107,101,100] 1 16 (some 44) [115,101,99,114,101,116,32,115,58,32,105,110,116,91,48,46,46,60,65,62,93,59,10,114,97,110,100,111,109,32,114,58,32,105,110,116,91,48,46,46,60,65,62,93,59,10,98,101,103,105,110,32,111,117,116,112,117,116,32,40,115,32,43,32,114,41,32,37,32,60,97,62,59,32,101,110,100] (some 53)),(K0.mk [115,101,97,114,99,104] 1 64 (some 54) [115,101,99,114,101,116,32,115,58,32,105,110,116,91,48,46,46,60,65,62,93,59,10,118,97,114,32,105,58,32,105,110,116,91,48,46,46,60,97,62,93,59,10,98,101,103,105,110,32,119,104,105,108,101,32,105,32,60,32,115,32,108,105,109,105,116,32,60,97,62,32,123,32,105,32,61,32,105,32,43,32,49,59,32,125,32,115,101,116,116,108,101,32,60,78,62,59,32,101,110,100] (some 55))]) (by kernel_rfl) ?_
 refine e' rfl (re' ?_)
 have hq:=oi' hh
 subst hq
 exact ⟨_,.d (.sl (K0.rows [(K0.mk [112,97,115,115,119,111,114,100] 2 64 (some 44) [115,101,99,114,101,116,32,112,105,110,58,32,105,110,116,91,48,46,46,60,65,62,93,59,10,112,117,98,108,105,99,32,103,117,101,115,115,58,32,105,110,116,91,48,46,46,60,65,62,93,59,10,98,101,103,105,110,32,111,117,116,112,117,116,32,112,105,110,32,61,61,32,103,117,101,115,115,59,32,101,110,100] (some 45)),(K0.mk [100,105,103,105,116,115] 1 4 (some 46) [115,101,99,114,101,116,32,112,105,110,58,32,97,114,114,97,121,32,60,97,62,32,111,102,32,105,110,116,91,48,46,46,60,66,62,93,59,10,112,117,98,108,105,99,32,103,117,101,115,115,58,32,97,114,114,97,121,32,60,97,62,32,111,102,32,105,110,116,91,48,46,46,60,66,62,93,59,10,118,97,114,32,105,58,32,105,110,116,91,48,46,46,60,97,62,93,59,10,118,97,114,32,111,107,58,32,98,111,111,108,32,61,32,116,114,117,101,59,10,98,101,103,105,110,32,119,104,105,108,101,32,111,107,32,38,38,32,105,32,60,32,60,97,62,32,108,105,109,105,116,32,60,97,62,32,123,32,105,102,32,112,105,110,91,105,93,32,61,61,32,103,117,101,115,115,91,105,93,32,123,32,105,32,61,32,105,32,43,32,49,59,32,125,32,101,108,115,101,32,123,32,111,107,32,61,32,102,97,108,115,101,59,32,125,32,125,32,111,117,116,112,117,116,32,111,107,59,32,101,110,100] (some 47)),(K0.mk [98,105,116,115] 1 8 (some 44) [115,101,99,114,101,116,32,115,58,32,97,114,114,97,121,32,60,97,62,32,111,102,32,98,111,111,108,59,10,98,101,103,105,110,32,102,111,114,32,105,32,61,32,48,32,116,111,32,60,65,62,32,123,32,111,117,116,112,117,116,32,115,91,105,93,59,32,125,32,101,110,100] (some 48)),(K0.mk [112,97,114,105,116,121] 2 64 (some 44) [115,101,99,114,101,116,32,115,58,32,105,110,116,91,48,46,46,60,65,62,93,59,10,98,101,103,105,110,32,111,117,116,112,117,116,32,115,32,37,32,50,59,32,101,110,100] (some 45)),(K0.mk [100,105,99,101] 1 3 (some 49) [115,101,99,114,101,116,32,100,58,32,97,114,114,97,121,32,60,97,62,32,111,102,32,105,110,116,91,49,46,46,60,98,62,93,59,10,118,97,114,32,116,58,32,105,110,116,91,48,46,46,60,84,62,93,59,10,98,101,103,105,110,32,102,111,114,32,105,32,61,32,48,32,116,111,32,60,65,62,32,123,32,116,32,61,32,116,32,43,32,100,91,105,93,59,32,125,32,111,117,116,112,117,116,32,116,59,32,101,110,100] (some 50)),(K0.mk [112,111,119,101,114] 1 6 (some 44) [115,101,99,114,101,116,32,101,58,32,97,114,114,97,121,32,60,97,62,32,111,102,32,98,111,111,108,59,10,118,97,114,32,120,58,32,105,110,116,91,48,46,46,49,50,93,32,61,32,49,59,10,98,101,103,105,110,32,102,111,114,32,105,32,61,32,48,32,116,111,32,60,65,62,32,123,32,120,32,61,32,120,32,42,32,120,32,37,32,49,51,59,32,105,102,32,101,91,105,93,32,123,32,120,32,61,32,120,32,42,32,50,32,37,32,49,51,59,32,125,32,125,32,101,110,100] (some 51)),(K0.mk [116,104,114,101,115,104,111,108,100] 2 64 (some 52) [115,101,99,114,101,116,32,115,58,32,105,110,116,91,48,46,46,60,65,62,93,59,10,98,101,103,105,110,32,111,117,116,112,117,116,32,115,32,62,61,32,60,98,62,59,32,101,110,100] (some 45)),(K0.mk [109,97,115,107,101,100] 1 16 (some 44) [115,101,99,114,101,116,32,115,58,32,105,110,116,91,48,46,46,60,65,62,93,59,10,114,97,110,100,111,109,32,114,58,32,105,110,116,91,48,46,46,60,65,62,93,59,10,98,101,103,105,110,32,111,117,116,112,117,116,32,40,115,32,43,32,114,41,32,37,32,60,97,62,59,32,101,110,100] (some 53)),(K0.mk [115,101,97,114,99,104] 1 64 (some 54) [115,101,99,114,101,116,32,115,58,32,105,110,116,91,48,46,46,60,65,62,93,59,10,118,97,114,32,105,58,32,105,110,116,91,48,46,46,60,97,62,93,59,10,98,101,103,105,110,32,119,104,105,108,101,32,105,32,60,32,115,32,108,105,109,105,116,32,60,97,62,32,123,32,105,32,61,32,105,32,43,32,49,59,32,125,32,115,101,116,116,108,101,32,60,78,62,59,32,101,110,100] (some 55))])),[],rfl,.full,trivial,rfl,rfl,rfl,rfl⟩
def Ce (f:K0)(s:Str):Option Bool:=
 some (f.name == s)
theorem Ay {f s res}(hh:Ce f s=some res):W0 C 29 [.agg (K0.cells f),.ref 0 0] [.row [.d (.str s)] 9] (Ret [.row [.d (.str s)] 9] (.d (.bool res))):=by
 unfold Ce at hh
 cases hh
 exact W0.intro hC Tryz.func29 rfl rfl rfl (s' rfl rfl (C0.n hC rfl (e' rfl (t' rfl (re' (rq rfl))))))
def J1 (s:List K0)(s1:Str)(v8:Int):Option Int:=
 if (decide (v8 < ((s).length:Int)))=true then
  idx s v8>>=fun x1=>
  Ce x1 s1>>=fun x2=>
  if x2=true then
   some v8
  else
   J1 s s1 (IntKind.i64.wrap (v8+1))
 else
  some (-1)
 partial_fixpoint
abbrev G6 (s:List K0)(s1:Str)(v8:Int)(res:Int):Prop:=LM C 19 1 Tryz.f28 [1,0,1,4] [(0,.d (.sl (K0.rows s))),(1,.clo 29 [.ref 0 0]),(7,.d (.int .i64 ((s).length:Int))),(8,.d (.int .i64 v8))] [.row [.d (.str s1)] 9] (Ret [.row [.d (.str s1)] 9] (.d (.int .i64 res)))
theorem Bd (s:List K0)(s1:Str):(∀ v8 res,J1 s s1 v8=some res→G6 s s1 v8 res):=by
 refine J1.partial_correctness s s1 _ ?_
 ·intro g0 ih0 v8 res hh
  refine F1.unroll (t' rfl (S' (ci' rfl hh (fun hh=>?_) (fun hh=>?_))))
  ·obtain ⟨x1,hx1,hh⟩:=bs' hh
   obtain ⟨x2,hx2,hh⟩:=bs' hh
   refine sk' (S' (bk' (t' rfl (p' 3 rfl (i' rfl (K3 hx1) (K0.idx hx1) rfl (q' rfl (gq [0] (Ay hx2) rfl (n' (ci' rfl hh (fun hh=>?_) (fun hh=>?_))))))))))
   ·cases hh
    exact t' rfl (re' (rq rfl))
   exact sk' (T' rfl (lq (ih0 _ _ hh) rfl))
  cases hh
  exact ex' (t' rfl (re' (rq rfl)))
theorem Kd {s s1 v8 res}(hh:J1 s s1 v8=some res):G6 s s1 v8 res:=(Bd s s1) _ _ hh
def T2 (s:List K0)(s1:Str):Option Int:=
 J1 s s1 0
theorem De {s s1 res}(hh:T2 s s1=some res):W0 C 28 [.d (.sl (K0.rows s)),.clo 29 [.ref 0 0]] [.row [.d (.str s1)] 9] (Ret [.row [.d (.str s1)] 9] (.d (.int .i64 res))):=by
 unfold T2 at hh
 exact W0.intro hC Tryz.func28 rfl rfl rfl (t' rfl (S' (p' 1 rfl (qe' rfl trivial (K0.lenA _) (e' rfl (bk' (fq (Kd hh) rfl)))))))
def Si (a:Int):Option (Int×Int):=
 some (0,0)
theorem G10 {a res}(hh:Si a=some res):W0 C 44 [.d (.int .i64 a)] [] (Ret [] (.tup [.d (.int .i64 res.1),.d (.int .i64 res.2)])):=by
 unfold Si at hh
 cases hh
 exact W0.intro hC Tryz.func44 rfl rfl rfl (t' rfl (t' rfl (re' (rq rfl))))
def Ec (a:Int):Option (Int×Int):=
 some (2,4)
theorem Tt {a res}(hh:Ec a=some res):W0 C 46 [.d (.int .i64 a)] [] (Ret [] (.tup [.d (.int .i64 res.1),.d (.int .i64 res.2)])):=by
 unfold Ec at hh
 cases hh
 exact W0.intro hC Tryz.func46 rfl rfl rfl (t' rfl (t' rfl (re' (rq rfl))))
def Fc (a:Int):Option (Int×Int):=
 some (2,6)
theorem Ut {a res}(hh:Fc a=some res):W0 C 49 [.d (.int .i64 a)] [] (Ret [] (.tup [.d (.int .i64 res.1),.d (.int .i64 res.2)])):=by
 unfold Fc at hh
 cases hh
 exact W0.intro hC Tryz.func49 rfl rfl rfl (t' rfl (t' rfl (re' (rq rfl))))
def Gc (a:Int):Option (Int×Int):=
 some (1,(IntKind.i64.wrap (a - 1)))
theorem Vt {a res}(hh:Gc a=some res):W0 C 52 [.d (.int .i64 a)] [] (Ret [] (.tup [.d (.int .i64 res.1),.d (.int .i64 res.2)])):=by
 unfold Gc at hh
 cases hh
 exact W0.intro hC Tryz.func52 rfl rfl rfl (t' rfl (t' rfl (re' (rq rfl))))
def Hc (a:Int):Option (Int×Int):=
 some (1,(min a 8))
theorem Wt {a res}(hh:Hc a=some res):W0 C 54 [.d (.int .i64 a)] [] (Ret [] (.tup [.d (.int .i64 res.1),.d (.int .i64 res.2)])):=by
 unfold Hc at hh
 cases hh
 exact W0.intro hC Tryz.func54 rfl rfl rfl (t' rfl (t' rfl (re' (rq rfl))))
def Do (f:Option Nat)(a0:Int):Option (Int×Int):=
 if (f == (some 44))=true then
  Si a0>>=fun x1=>
  some x1
 else
  if (f == (some 46))=true then
   Ec a0>>=fun x1=>
   some x1
  else
   if (f == (some 49))=true then
    Fc a0>>=fun x1=>
    some x1
   else
    if (f == (some 52))=true then
     Gc a0>>=fun x1=>
     some x1
    else
     if (f == (some 54))=true then
      Hc a0>>=fun x1=>
      some x1
     else
      none
theorem R18 {f a0 res}(hh:Do f a0=some res):∃ n,f=some n∧W0 C n [.d (.int .i64 a0)] [] (Ret [] (.tup [.d (.int .i64 res.1),.d (.int .i64 res.2)])):=by
 unfold Do at hh
 split at hh
 ·rename_i he
  obtain ⟨x1,hx1,hh⟩:=bs' hh
  cases hh
  exact ⟨_,eq_of_beq he,G10 hx1⟩
 split at hh
 ·rename_i he
  obtain ⟨x1,hx1,hh⟩:=bs' hh
  cases hh
  exact ⟨_,eq_of_beq he,Tt hx1⟩
 split at hh
 ·rename_i he
  obtain ⟨x1,hx1,hh⟩:=bs' hh
  cases hh
  exact ⟨_,eq_of_beq he,Ut hx1⟩
 split at hh
 ·rename_i he
  obtain ⟨x1,hx1,hh⟩:=bs' hh
  cases hh
  exact ⟨_,eq_of_beq he,Vt hx1⟩
 split at hh
 ·rename_i he
  obtain ⟨x1,hx1,hh⟩:=bs' hh
  cases hh
  exact ⟨_,eq_of_beq he,Wt hx1⟩
 cases hh
def E7 (name:Str)(a:Int)(b:Int):Option (K0×Int):=
 D7>>=fun x1=>
 T2 x1 name>>=fun x2=>
 if (decide (x2 < 0))=true then
  some ((K0.mk [] 0 0 none [] none),7)
 else
  idx x1 x2>>=fun x3=>
  if (bif (decide (a < x3.low)) then true else (decide (a > x3.high)))=true then
   some ((K0.mk [] 0 0 none [] none),3)
  else
   Do x3.second a>>=fun x4=>
   if (bif (decide (b < x4.1)) then true else (decide (b > x4.2)))=true then
    some ((K0.mk [] 0 0 none [] none),3)
   else
    some (x3,0)
theorem Gs {name a b res}(hh:E7 name a b=some res):W0 C 17 [.d (.str name),.d (.int .i64 a),.d (.int .i64 b)] [] (Ret [] (.tup [.agg (K0.cells res.1),.d (.int .i64 res.2)])):=by
 unfold E7 at hh
 obtain ⟨x1,hx1,hh⟩:=bs' hh
 obtain ⟨x2,hx2,hh⟩:=bs' hh
 refine W0.intro hC Tryz.func17 rfl rfl rfl (s' rfl rfl (C0.n hC rfl (C0.n hC rfl (e' rfl (s' rfl rfl (cq (Qm hx1) rfl (e' rfl (p' 2 rfl (gq [0] (De hx2) rfl (e' rfl (S' (t' rfl (ci' rfl hh (fun hh=>?_) (fun hh=>?_))))))))))))))
 ·refine p' 1 rfl (C0.s hC rfl (e' rfl (re' ?_)))
  have hq:=oi' hh
  subst hq
  exact ⟨_,.tup [.agg [.d (.str []),.d (.int .i64 0),.d (.int .i64 0),.d (.fn none),.d (.str []),.d (.fn none)],.d (.int .i64 7)],[],rfl,(.tupL ⟨(.aggL ⟨.rfl,.rfl,.rfl,.nfn,.rfl,.nfn,trivial⟩),.rfl,trivial⟩),trivial,rfl,rfl,rfl,rfl⟩
 obtain ⟨x3,hx3,hh⟩:=bs' hh
 refine sk' (p' 2 rfl (i' rfl (K3 hx3) (K0.idx hx3) rfl (q' rfl (C0.n hC rfl (C0.s hC rfl (n' (S' (sg' 10 rfl (G' 7 rfl (a1' rfl (a2' rfl (po' rfl (an' ?_)))))))))))))
 refine n' (ci' rfl hh (fun hh=>?_) (fun hh=>?_))
 ·refine p' 1 rfl (C0.s hC rfl (e' rfl (re' ?_)))
  have hq:=oi' hh
  subst hq
  exact ⟨_,.tup [.agg [.d (.str []),.d (.int .i64 0),.d (.int .i64 0),.d (.fn none),.d (.str []),.d (.fn none)],.d (.int .i64 3)],[],rfl,(.tupL ⟨(.aggL ⟨.rfl,.rfl,.rfl,.nfn,.rfl,.nfn,trivial⟩),.rfl,trivial⟩),trivial,rfl,rfl,rfl,rfl⟩
 obtain ⟨x4,hx4,hh⟩:=bs' hh
 refine sk' (S' (p' 3 rfl (C0.cf rfl (R18 hx4) rfl (e' rfl (sg' 8 rfl (G' 6 rfl (a2' rfl (po' rfl (an' (n' (ci' rfl hh (fun hh=>?_) (fun hh=>?_))))))))))))
 ·refine p' 1 rfl (C0.s hC rfl (e' rfl (re' ?_)))
  have hq:=oi' hh
  subst hq
  exact ⟨_,.tup [.agg [.d (.str []),.d (.int .i64 0),.d (.int .i64 0),.d (.fn none),.d (.str []),.d (.fn none)],.d (.int .i64 3)],[],rfl,(.tupL ⟨(.aggL ⟨.rfl,.rfl,.rfl,.nfn,.rfl,.nfn,trivial⟩),.rfl,trivial⟩),trivial,rfl,rfl,rfl,rfl⟩
 cases hh
 exact sk' (p' 1 rfl (C0.s hC rfl (e' rfl (re' (rq rfl)))))
def Xj (a:Int)(b:Int):Option (Int×Int):=
 some (2,2)
theorem J11 {a b res}(hh:Xj a b=some res):W0 C 45 [.d (.int .i64 a),.d (.int .i64 b)] [] (Ret [] (.tup [.d (.int .i64 res.1),.d (.int .i64 res.2)])):=by
 unfold Xj at hh
 cases hh
 exact W0.intro hC Tryz.func45 rfl rfl rfl (t' rfl (t' rfl (re' (rq rfl))))
def Ic (a:Int)(b:Int):Option (Int×Int):=
 some ((IntKind.i64.wrap (a+1)),2)
theorem Xt {a b res}(hh:Ic a b=some res):W0 C 47 [.d (.int .i64 a),.d (.int .i64 b)] [] (Ret [] (.tup [.d (.int .i64 res.1),.d (.int .i64 res.2)])):=by
 unfold Ic at hh
 cases hh
 exact W0.intro hC Tryz.func47 rfl rfl rfl (t' rfl (t' rfl (re' (rq rfl))))
def Jc (a:Int)(b:Int):Option (Int×Int):=
 if (decide (0≤a))=true then
  if (decide (0≤a))=true then
   some ((IntKind.i64.wrap (1 * 2 ^ (min a.toNat 64))),(IntKind.i64.wrap (1 * 2 ^ (min a.toNat 64))))
  else none
 else none
theorem Yt {a b res}(hh:Jc a b=some res):W0 C 48 [.d (.int .i64 a),.d (.int .i64 b)] [] (Ret [] (.tup [.d (.int .i64 res.1),.d (.int .i64 res.2)])):=by
 unfold Jc at hh
 obtain ⟨c5,hh⟩:=V4 hh
 obtain ⟨c6,hh⟩:=V4 hh
 cases hh
 exact W0.intro hC Tryz.func48 rfl rfl rfl (t' rfl (S' (AEx.draw hC 6 rfl rfl rfl (Q' rfl (AQ.q hC rfl c5 (Q' rfl (AQ.q hC rfl c6 (E' rfl (n' (re' (rq rfl)))))))))))
def Ti (a:Int)(b:Int):Option (Int×Int):=
 some ((IntKind.i64.wrap ((IntKind.i64.wrap (a * (IntKind.i64.wrap (b - 1))))+1)),(IntKind.i64.wrap ((IntKind.i64.wrap (a * (IntKind.i64.wrap (b - 1))))+1)))
theorem H10 {a b res}(hh:Ti a b=some res):W0 C 50 [.d (.int .i64 a),.d (.int .i64 b)] [] (Ret [] (.tup [.d (.int .i64 res.1),.d (.int .i64 res.2)])):=by
 unfold Ti at hh
 cases hh
 exact W0.intro hC Tryz.func50 rfl rfl rfl (t' rfl (t' rfl (t' rfl (re' (rq rfl)))))
def Kc (a:Int)(b:Int):Option (Int×Int):=
 some ((IntKind.i64.wrap (a+1)),1)
theorem Zt {a b res}(hh:Kc a b=some res):W0 C 51 [.d (.int .i64 a),.d (.int .i64 b)] [] (Ret [] (.tup [.d (.int .i64 res.1),.d (.int .i64 res.2)])):=by
 unfold Kc at hh
 cases hh
 exact W0.intro hC Tryz.func51 rfl rfl rfl (t' rfl (t' rfl (re' (rq rfl))))
def Lc (a:Int)(b:Int):Option (Int×Int):=
 some (a,a)
theorem Au {a b res}(hh:Lc a b=some res):W0 C 53 [.d (.int .i64 a),.d (.int .i64 b)] [] (Ret [] (.tup [.d (.int .i64 res.1),.d (.int .i64 res.2)])):=by
 unfold Lc at hh
 cases hh
 exact W0.intro hC Tryz.func53 rfl rfl rfl (t' rfl (t' rfl (re' (rq rfl))))
def Mc (a:Int)(b:Int):Option (Int×Int):=
 some (b,1)
theorem Bu {a b res}(hh:Mc a b=some res):W0 C 55 [.d (.int .i64 a),.d (.int .i64 b)] [] (Ret [] (.tup [.d (.int .i64 res.1),.d (.int .i64 res.2)])):=by
 unfold Mc at hh
 cases hh
 exact W0.intro hC Tryz.func55 rfl rfl rfl (t' rfl (t' rfl (re' (rq rfl))))
def Gv (f:Option Nat)(a0:Int)(a1:Int):Option (Int×Int):=
 if (f == (some 45))=true then
  Xj a0 a1>>=fun x1=>
  some x1
 else
  if (f == (some 47))=true then
   Ic a0 a1>>=fun x1=>
   some x1
  else
   if (f == (some 48))=true then
    Jc a0 a1>>=fun x1=>
    some x1
   else
    if (f == (some 50))=true then
     Ti a0 a1>>=fun x1=>
     some x1
    else
     if (f == (some 51))=true then
      Kc a0 a1>>=fun x1=>
      some x1
     else
      if (f == (some 53))=true then
       Lc a0 a1>>=fun x1=>
       some x1
      else
       if (f == (some 55))=true then
        Mc a0 a1>>=fun x1=>
        some x1
       else
        none
theorem S18 {f a0 a1 res}(hh:Gv f a0 a1=some res):∃ n,f=some n∧W0 C n [.d (.int .i64 a0),.d (.int .i64 a1)] [] (Ret [] (.tup [.d (.int .i64 res.1),.d (.int .i64 res.2)])):=by
 unfold Gv at hh
 split at hh
 ·rename_i he
  obtain ⟨x1,hx1,hh⟩:=bs' hh
  cases hh
  exact ⟨_,eq_of_beq he,J11 hx1⟩
 split at hh
 ·rename_i he
  obtain ⟨x1,hx1,hh⟩:=bs' hh
  cases hh
  exact ⟨_,eq_of_beq he,Xt hx1⟩
 split at hh
 ·rename_i he
  obtain ⟨x1,hx1,hh⟩:=bs' hh
  cases hh
  exact ⟨_,eq_of_beq he,Yt hx1⟩
 split at hh
 ·rename_i he
  obtain ⟨x1,hx1,hh⟩:=bs' hh
  cases hh
  exact ⟨_,eq_of_beq he,H10 hx1⟩
 split at hh
 ·rename_i he
  obtain ⟨x1,hx1,hh⟩:=bs' hh
  cases hh
  exact ⟨_,eq_of_beq he,Zt hx1⟩
 split at hh
 ·rename_i he
  obtain ⟨x1,hx1,hh⟩:=bs' hh
  cases hh
  exact ⟨_,eq_of_beq he,Au hx1⟩
 split at hh
 ·rename_i he
  obtain ⟨x1,hx1,hh⟩:=bs' hh
  cases hh
  exact ⟨_,eq_of_beq he,Bu hx1⟩
 cases hh
def B5 (family:Str)(a:Int)(b:Int):Option (Int×Int×Int):=
 E7 family a b>>=fun x1=>
 if (x1.2 != 0)=true then
  some (0,0,x1.2)
 else
  Gv x1.1.known a b>>=fun x2=>
  some (x2.1,x2.2,0)
theorem Kk {family a b res}(hh:B5 family a b=some res):W0 C 11 [.d (.str family),.d (.int .i64 a),.d (.int .i64 b)] [] (Ret [] (.tup [.d (.int .i64 res.1),.d (.int .i64 res.2.1),.d (.int .i64 res.2.2)])):=by
 unfold B5 at hh
 obtain ⟨x1,hx1,hh⟩:=bs' hh
 refine W0.intro hC Tryz.func11 rfl rfl rfl (t' rfl (p' 3 rfl (cq (Gs hx1) rfl (o' 3 rfl (C0.n hC rfl (C0.s hC rfl (e' rfl (S' (t' rfl (ci' rfl hh (fun hh=>?_) (fun hh=>?_)))))))))))
 ·cases hh
  exact t' rfl (re' (rq rfl))
 obtain ⟨x2,hx2,hh⟩:=bs' hh
 cases hh
 exact sk' (p' 4 rfl (C0.cf rfl (S18 hx2) rfl (e' rfl (t' rfl (re' (rq rfl))))))
def F7 (a:Int)(b:Int)(l:List Str)(j:Int):Option Str:=
 if (decide (j≤b))=true then
  if (decide (b≠0))=true then
   Vl (IntKind.i64.wrap ((IntKind.i64.wrap (4 * (IntKind.i64.wrap (Int.tdiv (IntKind.i64.wrap ((IntKind.i64.wrap ((IntKind.i64.wrap (j * a))+b)) - 1)) b)))) - 2))>>=fun x1=>
   if (decide ((l.length+1) * 17≤140737488355328))=true then
    F7 a b (l++[x1]) (IntKind.i64.wrap (j+1))
   else none
  else none
 else
  C14 l [44,32]>>=fun x2=>
  some x2
 partial_fixpoint
abbrev Wo (a:Int)(b:Int)(l:List Str)(j:Int)(res:Str):Prop:=LM C 28 0 Tryz.f18 [1,1,0,1,4] [(0,.d (.int .i64 a)),(1,.d (.int .i64 b)),(5,.osl 0 (estr.rows l)),(6,.d (.int .i64 j))] [.tok 9 1] (Ret [] (.d (.str res)))
theorem Hv (a:Int)(b:Int):(∀ l j res,F7 a b l j=some res→Wo a b l j res):=by
 refine F7.partial_correctness a b _ ?_
 ·intro g0 ih0 l j res hh
  refine F1.unroll (S' (t' rfl (ci' rfl hh (fun hh=>?_) (fun hh=>?_))))
  ·obtain ⟨c9,hh⟩:=V4 hh
   obtain ⟨x1,hx1,hh⟩:=bs' hh
   obtain ⟨c10,hh⟩:=V4 hh
   exact sk' (S' (bk' (P' 8 rfl (qc' rfl c9 (o' 2 rfl (cq (Zk hx1) rfl (C0.be hC rfl (estr.rows_map [x1]).symm (C0.ap hC rfl (rs:=estr.rows (l++[x1])) (estr.app l [x1]) (estr.sz l) (estr.sz [x1]) (V1 (estr.len l) (estr.len [x1]) c10) (e' rfl (T' rfl (lq (ih0 _ _ _ hh) rfl)))))))))))
  obtain ⟨x2,hx2,hh⟩:=bs' hh
  cases hh
  exact ex' (p' 1 rfl (C0.cl rfl (T17 hx2) ⟨.osl,.rfl,trivial⟩ rfl (e' rfl (re' (rq rfl)))))
theorem Tv {a b l j res}(hh:F7 a b l j=some res):Wo a b l j res:=(Hv a b) _ _ _ hh
def Ai (a:Int)(b:Int):Option Str:=
 F7 a b [] 1
theorem Xy {a b res}(hh:Ai a b=some res):W0 C 18 [.d (.int .i64 a),.d (.int .i64 b)] [] (Ret [] (.d (.str res))):=by
 unfold Ai at hh
 exact W0.intro hC Tryz.func18 rfl rfl rfl (t' rfl (p' 1 rfl (C0.tokE 5 9 1 rfl (n' (S' (t' rfl (bk' (fq (Tv hh) rfl))))))))
def Hb (c:Int):Option Bool:=
 some (bif (decide (c≥97)) then (decide (c≤122)) else false)
theorem Rj {c res}(hh:Hb c=some res):W0 C 152 [.d (.int .u8 c)] [] (Ret [] (.d (.bool res))):=by
 unfold Hb at hh
 cases hh
 exact W0.intro hC Tryz.func152 rfl rfl rfl (t' rfl (sg' 7 rfl (G' 4 rfl (a1' rfl (pa' rfl (a0' rfl (an' (n' (re' (rq rfl))))))))))
def Na (c:Int):Option Bool:=
 some (bif (decide (c≥48)) then (decide (c≤57)) else false)
theorem Ih {c res}(hh:Na c=some res):W0 C 155 [.d (.int .u8 c)] [] (Ret [] (.d (.bool res))):=by
 unfold Na at hh
 cases hh
 exact W0.intro hC Tryz.func155 rfl rfl rfl (t' rfl (sg' 7 rfl (G' 4 rfl (a1' rfl (pa' rfl (a0' rfl (an' (n' (re' (rq rfl))))))))))
def Nc (s:Str)(i1:Int):Option Int:=
 (if (decide (i1 < ((s).length:Int)))=true then idx s i1 else some default)>>=fun x1=>
 (if (decide (i1 < ((s).length:Int)))=true then Hb (x1.toNat:Int) else some default)>>=fun x2=>
 (if ((decide (i1 < ((s).length:Int)))&&(!x2))=true then idx s i1 else some default)>>=fun x3=>
 (if ((decide (i1 < ((s).length:Int)))&&(!x2))=true then Na (x3.toNat:Int) else some default)>>=fun x4=>
 if (bif (decide (i1 < ((s).length:Int))) then (bif x2 then true else x4) else false)=true then
  Nc s (IntKind.i64.wrap (i1+1))
 else
  some i1
 partial_fixpoint
abbrev Cu (s:Str)(i1:Int)(res:Int):Prop:=LM C 24 0 Tryz.f153 [1,0,4] [(0,.d (.str s)),(1,.d (.int .i64 i1))] [] (Ret [] (.d (.int .i64 res)))
theorem Yy (s:Str):(∀ i1 res,Nc s i1=some res→Cu s i1 res):=by
 refine Nc.partial_correctness s _ ?_
 ·intro g0 ih0 i1 res hh
  obtain ⟨x1,hx1,hh⟩:=bs' hh
  obtain ⟨x2,hx2,hh⟩:=bs' hh
  obtain ⟨x3,hx3,hh⟩:=bs' hh
  obtain ⟨x4,hx4,hh⟩:=bs' hh
  refine F1.unroll (S' (sg' 16 rfl (G' 7 rfl (AG.x hC rfl rfl (fun hg=>⟨hg,hg,trivial⟩) (fun hw=>⟨K3 (R9 hw hx1),Ef (R9 hw hx1)⟩) (AG.c rfl rfl (fun hg=>⟨hg,trivial⟩) (fun hw=>Rj (R9 hw hx2)) (a1' rfl (G' 2 rfl (AG.x hC rfl rfl (fun hg=>⟨hg,hg,trivial⟩) (fun hw=>⟨K3 (R9 hw hx3),Ef (R9 hw hx3)⟩) ?_))))))))
  refine AG.c rfl rfl (fun hg=>⟨hg,trivial⟩) (fun hw=>Ih (R9 hw hx4)) (pO' rfl (pa' rfl (an' (n' (ci' rfl hh (fun hh=>?_) (fun hh=>?_))))))
  ·exact sk' (bk' (T' rfl (lq (ih0 _ _ hh) rfl)))
  cases hh
  exact ex' (t' rfl (re' (rq rfl)))
theorem I10 {s i1 res}(hh:Nc s i1=some res):Cu s i1 res:=(Yy s) _ _ hh
def Al (s:Str)(i:Int):Option Int:=
 Nc s i
theorem Zw {s i res}(hh:Al s i=some res):W0 C 153 [.d (.str s),.d (.int .i64 i)] [] (Ret [] (.d (.int .i64 res))):=by
 unfold Al at hh
 exact W0.intro hC Tryz.func153 rfl rfl rfl (t' rfl (S' (bk' (fq (I10 hh) rfl))))
def Ee (word:Str):Option Bool:=
 (if (!(word == []))=true then Ul word [32] else some default)>>=fun x1=>
 if (!(bif (!(word == [])) then (!x1) else false)||(decide (1+word.length≤maxLen)))=true then
  if (!(bif (!(word == [])) then (!x1) else false)||(decide (([32]++word).length+1≤maxLen)))=true then
   (if (bif (!(word == [])) then (!x1) else false)=true then Ul [32,116,121,112,101,32,115,101,99,114,101,116,32,112,117,98,108,105,99,32,114,97,110,100,111,109,32,118,97,114,32,104,97,116,99,104,32,102,117,110,99,32,114,101,116,117,114,110,32,98,101,103,105,110,32,101,110,100,32,98,111,111,108,32,105,110,116,32,97,114,114,97,121,32,111,102,32,114,101,99,111,114,100,32,116,114,117,101,32,102,97,108,115,101,32,99,97,108,108,32,114,101,108,101,97,115,101,32,111,117,116,112,117,116,32,119,97,105,116,32,105,102,32,101,108,115,101,32,119,104,105,108,101,32,108,105,109,105,116,32,102,111,114,32,116,111,32,115,101,116,116,108,101,32,109,105,110,32,109,97,120,32] (([32]++word)++[32]) else some default)>>=fun x2=>
   some (bif (bif (!(word == [])) then (!x1) else false) then x2 else false)
  else none
 else none
theorem Tp {word res}(hh:Ee word=some res):W0 C 154 [.d (.str word)] [] (Ret [] (.d (.bool res))):=by
 unfold Ee at hh
 obtain ⟨x1,hx1,hh⟩:=bs' hh
 obtain ⟨c5,hh⟩:=I13 hh
 obtain ⟨c6,hh⟩:=I13 hh
 obtain ⟨x2,hx2,hh⟩:=bs' hh
 cases hh
 refine W0.intro hC Tryz.func154 rfl rfl rfl (t' rfl (sg' 14 rfl (G' 4 rfl (AG.c rfl rfl (fun hg=>⟨hg,trivial⟩) (fun hw=>Sv (R9 hw hx1)) (a1' rfl (pa' rfl (G' 2 rfl (ag' rfl (fun hg=>⟨⟨hg,trivial⟩,(c5 hg)⟩) (ag' rfl (fun hg=>⟨⟨hg,trivial⟩,(c6 hg)⟩) (AG.c rfl rfl (fun hg=>⟨hg,trivial⟩) (fun hw=>Sv (R9 hw hx2)) (pa' rfl (a0' rfl (an' ?_)))))))))))))
 exact n' (re' (rq rfl))
def V7 (s:Str)(n:Int)(v7:Int):Option Int:=
 if (decide (v7 < ((s).length:Int)))=true then
  idx s v7>>=fun x1=>
  Na (x1.toNat:Int)>>=fun x2=>
  if (!x2)=true then
   some 6
  else
   idx s v7>>=fun x3=>
   V7 s (min (IntKind.i64.wrap ((IntKind.i64.wrap (10 * n))+(IntKind.i64.wrap (IntKind.u8.wrap ((x3.toNat:Int) - 48))))) 1048577) (IntKind.i64.wrap (v7+1))
 else
  idx s 0>>=fun x4=>
  if (bif ((x4.toNat:Int) == 48) then (decide (((s).length:Int) > 1)) else false)=true then
   some 6
  else
   if (decide (n > 1048576))=true then
    some 3
   else
    some 0
 partial_fixpoint
abbrev Up (s:Str)(n:Int)(v7:Int)(res:Int):Prop:=LM C 37 0 Tryz.f156 [1,1,0,1,4] [(0,.d (.str s)),(3,.d (.int .i64 n)),(6,.d (.int .i64 ((s).length:Int))),(7,.d (.int .i64 v7))] [] (Ret [] (.d (.int .i64 res)))
theorem Uv (s:Str):(∀ n v7 res,V7 s n v7=some res→Up s n v7 res):=by
 refine V7.partial_correctness s _ ?_
 ·intro g0 ih0 n v7 res hh
  refine F1.unroll (t' rfl (S' (ci' rfl hh (fun hh=>?_) (fun hh=>?_))))
  ·obtain ⟨x1,hx1,hh⟩:=bs' hh
   obtain ⟨x2,hx2,hh⟩:=bs' hh
   refine sk' (S' (bk' (t' rfl (S' (p' 2 rfl (x' rfl (K3 hx1) (Ef hx1) (cq (Ih hx2) rfl (e' rfl (ci' rfl hh (fun hh=>?_) (fun hh=>?_))))))))))
   ·cases hh
    exact t' rfl (re' (rq rfl))
   obtain ⟨x3,hx3,hh⟩:=bs' hh
   exact sk' (P' 4 rfl (x' rfl (K3 hx3) (Ef hx3) (e' rfl (T' rfl (lq (ih0 _ _ _ hh) rfl)))))
  obtain ⟨x4,hx4,hh⟩:=bs' hh
  refine ex' (S' (bk' (sg' 9 rfl (a0' rfl (AG.x hC rfl rfl (fun _=>trivial) (fun hw=>⟨K3 hx4,Ef hx4⟩) (G' 3 rfl (a1' rfl (a1' rfl (pa' rfl (a0' rfl (an' (n' (ci' rfl hh (fun hh=>?_) (fun hh=>?_))))))))))))))
  ·cases hh
   exact t' rfl (re' (rq rfl))
  refine t' rfl (ci' rfl hh (fun hh=>?_) (fun hh=>?_))
  ·cases hh
   exact t' rfl (re' (rq rfl))
  cases hh
  exact sk' (t' rfl (re' (rq rfl)))
theorem Ax {s n v7 res}(hh:V7 s n v7=some res):Up s n v7 res:=(Uv s) _ _ _ hh
def Ui (s:Str):Option Int:=
 V7 s 0 0
theorem J10 {s res}(hh:Ui s=some res):W0 C 156 [.d (.str s)] [] (Ret [] (.d (.int .i64 res))):=by
 unfold Ui at hh
 exact W0.intro hC Tryz.func156 rfl rfl rfl (t' rfl (t' rfl (S' (t' rfl (bk' (fq (Ax hh) rfl))))))
def Ff (s:Str):Option Str:=
 idx s 0>>=fun x3=>
 Qs [59,58,44,46,61,43,45,42,47,37,60,62,33,63,40,41,91,93,123,125] (x3.toNat:Int)>>=fun x4=>
 if (decide (x4≥0))=true then
  slc s 0 1>>=fun x5=>
  some x5
 else
  some []
theorem Rq {s res}(hh:Ff s=some res):JM C 24 0 Tryz.f157 [1,1] [(0,.d (.str s))] [] (Ret [] (.d (.str res))):=by
 unfold Ff at hh
 obtain ⟨x3,hx3,hh⟩:=bs' hh
 obtain ⟨x4,hx4,hh⟩:=bs' hh
 refine S' (p' 1 rfl (x' rfl (K3 hx3) (Ef hx3) (cq (I11 hx4) rfl (e' rfl (ci' rfl hh (fun hh=>?_) (fun hh=>?_))))))
 ·obtain ⟨x5,hx5,hh⟩:=bs' hh
  cases hh
  exact p' 1 rfl (C0.lx hC rfl hx5 (e' rfl (re' (rq rfl))))
 cases hh
 exact sk' (t' rfl (re' (rq rfl)))
def Y5 (s:Str)(v8:Bool):Option Str:=
 if v8=true then
  slc s 0 2>>=fun x2=>
  some x2
 else
  Ff s
theorem Z8 {s v8 res}(hh:Y5 s v8=some res):JM C 24 0 Tryz.f157 [1,0,1,2,1,4,1] [(0,.d (.str s)),(8,.d (.bool v8))] [] (Ret [] (.d (.str res))):=by
 unfold Y5 at hh
 refine ci' rfl hh (fun hh=>?_) (fun hh=>?_)
 ·obtain ⟨x2,hx2,hh⟩:=bs' hh
  cases hh
  exact p' 1 rfl (C0.lx hC rfl hx2 (e' rfl (re' (rq rfl))))
 exact sk' (eq' (Rq hh) rfl)
def Wl (s:Str):Option Str:=
 if (decide (((s).length:Int)≥2))=true then
  slc s 0 2>>=fun x1=>
  if (x1 == [46,46])=true then
   Y5 s (x1 == [46,46])
  else
   if (x1 == [61,61])=true then
    Y5 s (x1 == [61,61])
   else
    if (x1 == [33,61])=true then
     Y5 s (x1 == [33,61])
    else
     if (x1 == [60,61])=true then
      Y5 s (x1 == [60,61])
     else
      if (x1 == [62,61])=true then
       Y5 s (x1 == [62,61])
      else
       if (x1 == [38,38])=true then
        Y5 s (x1 == [38,38])
       else
        Y5 s (x1 == [124,124])
 else
  Ff s
theorem L12 {s res}(hh:Wl s=some res):W0 C 157 [.d (.str s)] [] (Ret [] (.d (.str res))):=by
 unfold Wl at hh
 refine W0.intro hC Tryz.func157 rfl rfl rfl (t' rfl (S' (t' rfl (ci' rfl hh (fun hh=>?_) (fun hh=>?_)))))
 ·obtain ⟨x1,hx1,hh⟩:=bs' hh
  refine p' 1 rfl (C0.lx hC rfl hx1 (n' (bk' (S' (t' rfl (ci' rfl hh (fun hh=>?_) (fun hh=>?_)))))))
  ·exact sk' (eq' (Z8 hh) rfl)
  refine t' rfl (ci' rfl hh (fun hh=>?_) (fun hh=>?_))
  ·exact sk' (eq' (Z8 hh) rfl)
  refine t' rfl (ci' rfl hh (fun hh=>?_) (fun hh=>?_))
  ·exact sk' (eq' (Z8 hh) rfl)
  refine t' rfl (ci' rfl hh (fun hh=>?_) (fun hh=>?_))
  ·exact sk' (eq' (Z8 hh) rfl)
  refine t' rfl (ci' rfl hh (fun hh=>?_) (fun hh=>?_))
  ·exact sk' (eq' (Z8 hh) rfl)
  refine t' rfl (ci' rfl hh (fun hh=>?_) (fun hh=>?_))
  ·exact sk' (eq' (Z8 hh) rfl)
  exact T' rfl (eq' (Z8 hh) rfl)
 exact sk' (eq' (Rq hh) rfl)
def Xl (s:Str)(i:Int):Option (X0×Int):=
 idx s i>>=fun x1=>
 Hb (x1.toNat:Int)>>=fun x2=>
 if x2=true then
  Al s i>>=fun x3=>
  slc s i x3>>=fun x4=>
  Ee x4>>=fun x5=>
  if x5=true then
   some ((X0.mk 2 x4 i),0)
  else
   if (decide (((x4).length:Int) > 12))=true then
    some ((X0.mk 0 x4 i),7)
   else
    some ((X0.mk 0 x4 i),0)
 else
  Na (x1.toNat:Int)>>=fun x6=>
  if x6=true then
   Al s i>>=fun x7=>
   slc s i x7>>=fun x8=>
   Ui x8>>=fun x9=>
   some ((X0.mk 1 x8 i),x9)
  else
   slc s i ((s).length:Int)>>=fun x10=>
   Wl x10>>=fun x11=>
   if (x11 == [])=true then
    some ((X0.mk 3 x11 i),6)
   else
    some ((X0.mk 3 x11 i),0)
theorem M12 {s i res}(hh:Xl s i=some res):W0 C 96 [.d (.str s),.d (.int .i64 i)] [] (Ret [] (.tup [.agg (X0.cells res.1),.d (.int .i64 res.2)])):=by
 unfold Xl at hh
 obtain ⟨x1,hx1,hh⟩:=bs' hh
 obtain ⟨x2,hx2,hh⟩:=bs' hh
 refine W0.intro hC Tryz.func96 rfl rfl rfl (s' rfl rfl (C0.n hC rfl (e' rfl (p' 2 rfl (C0.n hC rfl (C0.s hC rfl (n' (S' (p' 2 rfl (x' rfl (K3 hx1) (Ef hx1) (e' rfl (bk' (p' 1 rfl ?_)))))))))))))
 refine cq (Rj hx2) rfl (e' rfl (ci' rfl hh (fun hh=>?_) (fun hh=>?_)))
 ·obtain ⟨x3,hx3,hh⟩:=bs' hh
  obtain ⟨x4,hx4,hh⟩:=bs' hh
  obtain ⟨x5,hx5,hh⟩:=bs' hh
  refine p' 4 rfl (cq (Zw hx3) rfl (C0.lx hC rfl hx4 (q' rfl (C0.s hC rfl (n' (p' 2 rfl (cq (Tp hx5) rfl (n' (ci' rfl hh (fun hh=>?_) (fun hh=>?_))))))))))
  ·cases hh
   exact P' 1 rfl (C0.s hC rfl (n' (p' 1 rfl (C0.s hC rfl (e' rfl (re' (rq rfl)))))))
  refine t' rfl (ci' rfl hh (fun hh=>?_) (fun hh=>?_))
  ·cases hh
   exact p' 1 rfl (C0.s hC rfl (e' rfl (re' (rq rfl))))
  cases hh
  exact sk' (p' 1 rfl (C0.s hC rfl (e' rfl (re' (rq rfl)))))
 obtain ⟨x6,hx6,hh⟩:=bs' hh
 refine p' 1 rfl (cq (Ih hx6) rfl (e' rfl (ci' rfl hh (fun hh=>?_) (fun hh=>?_))))
 ·obtain ⟨x7,hx7,hh⟩:=bs' hh
  obtain ⟨x8,hx8,hh⟩:=bs' hh
  obtain ⟨x9,hx9,hh⟩:=bs' hh
  cases hh
  refine p' 4 rfl (cq (Zw hx7) rfl (C0.lx hC rfl hx8 (q' rfl (C0.s hC rfl (q' rfl (C0.s hC rfl (n' (S' (AEx.draw hC 4 rfl rfl rfl (O' 3 rfl (Qc' (J10 hx9) rfl rfl (Qn' (C0.s hC rfl ?_)))))))))))))
  exact e' rfl (re' (rq rfl))
 obtain ⟨x10,hx10,hh⟩:=bs' hh
 obtain ⟨x11,hx11,hh⟩:=bs' hh
 refine p' 2 rfl (C0.lx hC rfl hx10 (cq (L12 hx11) rfl (q' rfl (C0.s hC rfl (q' rfl (C0.s hC rfl (n' (t' rfl (ci' rfl hh (fun hh=>?_) (fun hh=>?_))))))))))
 ·cases hh
  exact p' 1 rfl (C0.s hC rfl (e' rfl (re' (rq rfl))))
 cases hh
 exact sk' (p' 1 rfl (C0.s hC rfl (e' rfl (re' (rq rfl)))))
mutual
def G8 (s:Str)(out:List X0)(i:Int):Option (List X0×Int×Int):=
 if (decide (i < ((s).length:Int)))=true then
  idx s i>>=fun x1=>
  if ((x1.toNat:Int) == 32)=true then
   Bg s out i x1 ((x1.toNat:Int) == 32)
  else
   if ((x1.toNat:Int) == 9)=true then
    Bg s out i x1 ((x1.toNat:Int) == 9)
   else
    Bg s out i x1 ((x1.toNat:Int) == 10)
 else
  some (out,0,0)
 partial_fixpoint
def Bg (s:Str)(out1:List X0)(i1:Int)(x1:UInt8)(v19:Bool):Option (List X0×Int×Int):=
 if v19=true then
  G8 s out1 (IntKind.i64.wrap (i1+1))
 else
  if ((x1.toNat:Int) == 35)=true then
   Vi s out1 i1
  else
   Xl s i1>>=fun x2=>
   if (x2.2 != 0)=true then
    some ([],i1,x2.2)
   else
    if (decide ((out1.length+1) * 33≤140737488355328))=true then
     G8 s (out1++[x2.1]) (IntKind.i64.wrap (i1+((x2.1.Text).length:Int)))
    else none
 partial_fixpoint
def Vi (s:Str)(out2:List X0)(i2:Int):Option (List X0×Int×Int):=
 (if (decide (i2 < ((s).length:Int)))=true then idx s i2 else some default)>>=fun x3=>
 if (bif (decide (i2 < ((s).length:Int))) then ((x3.toNat:Int) != 10) else false)=true then
  Vi s out2 (IntKind.i64.wrap (i2+1))
 else
  G8 s out2 i2
 partial_fixpoint
end
abbrev Du (s:Str)(out:List X0)(i:Int)(res:List X0×Int×Int):Prop:=LM C 59 0 Tryz.f63 [1,1,1,0,1,4] [(0,.d (.str s)),(5,.osl 0 (X0.rows out)),(6,.d (.int .i64 i))] [.tok 123 3] (Ret [] (.tup [.d (.sl (X0.rows res.1)),.d (.int .i64 res.2.1),.d (.int .i64 res.2.2)]))
abbrev K11 (s:Str)(out1:List X0)(i1:Int)(x1:UInt8)(v19:Bool)(res:List X0×Int×Int):Prop:=JM C 59 0 Tryz.f63 [1,1,1,0,1,4,5,1,4,0,1,4,1] [(0,.d (.str s)),(5,.osl 0 (X0.rows out1)),(6,.d (.int .i64 i1)),(18,.d (.int .u8 (x1.toNat:Int))),(19,.d (.bool v19))] [.tok 123 3] (Ret [] (.tup [.d (.sl (X0.rows res.1)),.d (.int .i64 res.2.1),.d (.int .i64 res.2.2)]))
abbrev L11 (s:Str)(out2:List X0)(i2:Int)(res:List X0×Int×Int):Prop:=LM C 59 0 Tryz.f63 [1,1,1,0,1,4,5,1,4,0,1,4,1,3,1,2,0,4] [(0,.d (.str s)),(5,.osl 0 (X0.rows out2)),(6,.d (.int .i64 i2))] [.tok 123 3] (Ret [] (.tup [.d (.sl (X0.rows res.1)),.d (.int .i64 res.2.1),.d (.int .i64 res.2.2)]))
theorem Zy (s:Str):(∀ out i res,G8 s out i=some res→Du s out i res)∧(∀ out1 i1 x1 v19 res,Bg s out1 i1 x1 v19=some res→K11 s out1 i1 x1 v19 res)∧(∀ out2 i2 res,Vi s out2 i2=some res→L11 s out2 i2 res):=by
 refine G8.mutual_partial_correctness s _ _ _ ?_ ?_ ?_
 ·intro g1 ih1 out i res hh
  refine F1.unroll (S' (t' rfl (ci' rfl hh (fun hh=>?_) (fun hh=>?_))))
  ·obtain ⟨x1,hx1,hh⟩:=bs' hh
   refine sk' (bk' (S' (p' 2 rfl (x' rfl (K3 hx1) (Ef hx1) (n' (bk' (S' (t' rfl (ci' rfl hh (fun hh=>?_) (fun hh=>?_))))))))))
   ·exact sk' (eq' (ih1 _ _ _ _ _ hh) rfl)
   refine t' rfl (ci' rfl hh (fun hh=>?_) (fun hh=>?_))
   ·exact sk' (eq' (ih1 _ _ _ _ _ hh) rfl)
   exact T' rfl (eq' (ih1 _ _ _ _ _ hh) rfl)
  refine ex' (t' rfl (re' ?_))
  have hq:=oi' hh
  subst hq
  exact ⟨_,.tup [.d (.sl (X0.rows out)),.d (.int .i64 0),.d (.int .i64 0)],[],rfl,(.tupL ⟨.osl,.rfl,.rfl,trivial⟩),trivial,rfl,rfl,rfl,rfl⟩
 ·intro g0 g2 ih0 ih2 out1 i1 x1 v19 res hh
  refine ci' rfl hh (fun hh=>?_) (fun hh=>?_)
  ·exact t' rfl (ex' (lq (ih0 _ _ _ hh) rfl))
  refine t' rfl (ci' rfl hh (fun hh=>?_) (fun hh=>?_))
  ·exact S' (bk' (fq (ih2 _ _ _ hh) rfl))
  obtain ⟨x2,hx2,hh⟩:=bs' hh
  refine sk' (p' 2 rfl (cq (M12 hx2) rfl (o' 3 rfl (C0.n hC rfl (C0.s hC rfl (e' rfl (S' (t' rfl (ci' rfl hh (fun hh=>?_) (fun hh=>?_))))))))))
  ·refine t' rfl (re' ?_)
   have hq:=oi' hh
   subst hq
   exact ⟨_,.tup [.d (.sl (X0.rows [])),.d (.int .i64 i1),.d (.int .i64 x2.2)],[],rfl,(.tupL ⟨.full,.rfl,.rfl,trivial⟩),trivial,rfl,rfl,rfl,rfl⟩
  obtain ⟨c8,hh⟩:=V4 hh
  exact sk' (p' 2 rfl (C0.be hC rfl (X0.rows_map [x2.1]).symm (C0.ap hC rfl (rs:=X0.rows (out1++[x2.1])) (X0.app out1 [x2.1]) (X0.sz out1) (X0.sz [x2.1]) (V1 (X0.len out1) (X0.len [x2.1]) c8) (e' rfl (T' rfl (lq (ih0 _ _ _ hh) rfl))))))
 ·intro g0 g2 ih0 ih2 out2 i2 res hh
  obtain ⟨x3,hx3,hh⟩:=bs' hh
  refine F1.unroll (S' (sg' 10 rfl (G' 7 rfl (AG.x hC rfl rfl (fun hg=>⟨hg,hg,trivial⟩) (fun hw=>⟨K3 (R9 hw hx3),Ef (R9 hw hx3)⟩) (a1' rfl (pa' rfl (an' (n' (ci' rfl hh (fun hh=>?_) (fun hh=>?_))))))))))
  ·exact sk' (bk' (T' rfl (lq (ih2 _ _ _ hh) rfl)))
  exact ex' (ex' (lq (ih0 _ _ _ hh) rfl))
theorem K10 {s out i res}(hh:G8 s out i=some res):Du s out i res:=(Zy s).1 _ _ _ hh
def Xo (s:Str):Option (List X0×Int×Int):=
 if (decide (((s).length:Int) > 8192))=true then
  some ([],0,5)
 else
  G8 s [] 0
theorem E14 {s res}(hh:Xo s=some res):W0 C 63 [.d (.str s)] [] (Ret [] (.tup [.d (.sl (X0.rows res.1)),.d (.int .i64 res.2.1),.d (.int .i64 res.2.2)])):=by
 unfold Xo at hh
 refine W0.intro hC Tryz.func63 rfl rfl rfl (t' rfl (S' (t' rfl (ci' rfl hh (fun hh=>?_) (fun hh=>?_)))))
 ·refine t' rfl (re' ?_)
  have hq:=oi' hh
  subst hq
  exact ⟨_,.tup [.d (.sl (X0.rows [])),.d (.int .i64 0),.d (.int .i64 5)],[],rfl,(.tupL ⟨.full,.rfl,.rfl,trivial⟩),trivial,rfl,rfl,rfl,rfl⟩
 exact sk' (p' 1 rfl (C0.tokE 5 123 3 rfl (n' (S' (t' rfl (bk' (fq (K10 hh) rfl)))))))
def Ib (text:Str)(parserParser:A0):Option Bool:=
 if (decide (parserParser.next≥((parserParser.tokens).length:Int)))=true then
  some false
 else
  idx parserParser.tokens parserParser.next>>=fun x1=>
  some (bif (x1.Text == text) then (bif (x1.Kind == 2) then true else (x1.Kind == 3)) else false)
theorem Rm {text parserParser res}(hh:Ib text parserParser=some res):W0 C 158 [.ref 0 0,.d (.str text)] [.row (A0.cells parserParser) 112] (Ret [.row (A0.cells parserParser) 112] (.d (.bool res))):=by
 unfold Ib at hh
 refine W0.intro hC Tryz.func158 rfl rfl rfl (t' rfl (S' (S' (AEx.draw hC 10 rfl rfl rfl (O' 8 rfl (AQ.qe hC rfl trivial (X0.lenA _) (E' rfl (n' (ci' rfl hh (fun hh=>?_) (fun hh=>?_))))))))))
 ·cases hh
  exact t' rfl (re' (rq rfl))
 obtain ⟨x1,hx1,hh⟩:=bs' hh
 cases hh
 refine sk' (S' (AEx.drawL hC 11 [] [(10,1)] [[.row (A0.cells parserParser) 112,.row [.d (.int .i64 0),.d (.str []),.d (.int .i64 0)] 123]] rfl rfl rfl rfl rfl rfl rfl rfl rfl rfl (AS.q hC rfl rfl rfl rfl (AS.q hC rfl rfl rfl rfl (AS.q hC rfl rfl rfl rfl (AS.q hC rfl rfl rfl rfl (AS.q hC rfl rfl rfl rfl (AS.q hC rfl rfl rfl rfl (AS.q hC rfl rfl rfl rfl (AS.q hC rfl rfl rfl rfl ?_))))))))))
 refine AS.ix hC rfl (K3 hx1) (X0.idx hx1) rfl rfl rfl (AS.q hC rfl rfl rfl rfl (AS.n hC rfl rfl rfl rfl (AS.nil (C0.s hC rfl (n' (sg' 15 rfl (G' 6 rfl (a1' rfl (a1' rfl (a1' rfl (a0' rfl (a1' rfl (a1' rfl ?_)))))))))))))
 exact pO' rfl (pa' rfl (a0' rfl (an' (n' (re' (rq rfl))))))
def S0 (text:Str)(parserParser:A0):Option (Bool×A0):=
 Ib text parserParser>>=fun x1=>
 if (!x1)=true then
  some (false,parserParser)
 else
  some (true,(A0.mk parserParser.tokens (IntKind.i64.wrap (parserParser.next+1)) parserParser.endV))
theorem O0 {text parserParser res}(hh:S0 text parserParser=some res):W0 C 97 [.ref 0 0,.d (.str text)] [.row (A0.cells parserParser) 112] (Ret [.row (A0.cells res.2) 112] (.d (.bool res.1))):=by
 unfold S0 at hh
 obtain ⟨x1,hx1,hh⟩:=bs' hh
 refine W0.intro hC Tryz.func97 rfl rfl rfl (t' rfl (S' (p' 2 rfl (gq [0] (Rm hx1) rfl (e' rfl (ci' rfl hh (fun hh=>?_) (fun hh=>?_)))))))
 ·cases hh
  exact t' rfl (re' (rq rfl))
 cases hh
 exact sk' (p' 7 rfl (C0.s hC rfl (n' (t' rfl (re' (rq rfl))))))
def G7 (parserParser:A0):Option (Pn Unit):=
 if (decide (parserParser.next < ((parserParser.tokens).length:Int)))=true then
  idx parserParser.tokens parserParser.next>>=fun x1=>
  some (.pn x1.At)
 else
  some (.pn parserParser.endV)
theorem S6 {parserParser res}(hh:G7 parserParser=some res):I2 C 65 [.ref 0 0] [.row (A0.cells parserParser) 112] (P4 res (fun rr=>[.row (A0.cells parserParser) 112]) (fun rr=>.tup [])) (H4 res O3 [.row (A0.cells parserParser) 112]):=by
 unfold G7 at hh
 refine I2.intro hC Tryz.func65 rfl rfl rfl (t' rfl (S' (S' (AEx.draw hC 10 rfl rfl rfl (O' 8 rfl (AQ.qe hC rfl trivial (X0.lenA _) (E' rfl (n' (ci' rfl hh (fun hh=>?_) (fun hh=>?_))))))))))
 ·obtain ⟨x1,hx1,hh⟩:=bs' hh
  cases hh
  exact AEx.draw hC 12 rfl rfl rfl (O' 8 rfl (AQ.i hC rfl (K3 hx1) (X0.idx hx1) rfl (E' rfl (n' (P' 2 rfl (pn' hC rfl ((fun hi=>pe' rfl rfl hi))))))))
 cases hh
 exact sk' (P' 2 rfl (pn' hC rfl ((fun hi=>pe' rfl rfl hi))))
def T6 (parserParser:A0):Option (Pn (Str×A0)):=
 idx parserParser.tokens (IntKind.i64.wrap ((IntKind.i64.wrap (parserParser.next+1)) - 1))>>=fun x3=>
 some (.ok (x3.Text,(A0.mk parserParser.tokens (IntKind.i64.wrap (parserParser.next+1)) parserParser.endV)))
theorem Wi {parserParser res}(hh:T6 parserParser=some res):JMp C 51 1 Tryz.f159 [1,1] [(0,.ref 0 0)] [.row (A0.cells parserParser) 112] (P4 res (fun rr=>[.row (A0.cells rr.2) 112]) (fun rr=>.d (.str rr.1))) (H4 res O3 [.row (A0.cells parserParser) 112]):=by
 unfold T6 at hh
 obtain ⟨x3,hx3,hh⟩:=bs' hh
 cases hh
 exact p' 7 rfl (C0.s hC rfl (n' (S' (AEx.draw hC 13 rfl rfl rfl (O' 9 rfl (AQ.i hC rfl (K3 hx3) (X0.idx hx3) rfl (E' rfl (n' (re' (rq rfl))))))))))
def C9 (k:Int)(parserParser:A0):Option (Pn (Str×A0)):=
 (if (!(decide (parserParser.next≥((parserParser.tokens).length:Int))))=true then idx parserParser.tokens parserParser.next else some default)>>=fun x1=>
 if (bif (decide (parserParser.next≥((parserParser.tokens).length:Int))) then true else (x1.Kind != k))=true then
  G7 parserParser>>=fun x2=>match x2 with
  | .pn nn=>
  some (.pn nn)
  | .ok x2=>
  T6 parserParser
 else
  T6 parserParser
theorem Ed {k parserParser res}(hh:C9 k parserParser=some res):I2 C 159 [.ref 0 0,.d (.int .i64 k)] [.row (A0.cells parserParser) 112] (P4 res (fun rr=>[.row (A0.cells rr.2) 112]) (fun rr=>.d (.str rr.1))) (H4 res O3 [.row (A0.cells parserParser) 112]):=by
 unfold C9 at hh
 obtain ⟨x1,hx1,hh⟩:=bs' hh
 refine I2.intro hC Tryz.func159 rfl rfl rfl (t' rfl (S' (S' (AEx.drawG hC 25 rfl rfl rfl (G' 8 rfl (AG.qe hC rfl (fun hg=>⟨trivial,trivial⟩) (X0.lenA _) (G' 3 rfl (a1' rfl (a1' rfl (a1' rfl (a0' rfl (a1' rfl (a1' rfl ?_)))))))))))))
 refine a1' rfl (AG.i hC rfl rfl (fun hg=>⟨hg,hg,trivial⟩) (fun hw=>⟨K3 (R9 hw hx1),X0.idx (R9 hw hx1),rfl⟩) (a1' rfl (a1' rfl (a0' rfl (a2' rfl (po' rfl (an' (n' (ci' rfl hh (fun hh=>?_) (fun hh=>?_))))))))))
 ·refine P' 1 rfl ?_
  rcases bp' hh with ⟨nn,hx2,⟨⟩⟩ | ⟨x2,hx2,hh⟩
  ·exact gr [0] (S6 hx2) rfl (fun hi=>pe' rfl rfl hi)
  exact gq [0] ((S6 hx2).ok) rfl (n' (eq' (Wi hh) rfl))
 exact sk' (eq' (Wi hh) rfl)
def I3 (parserParser:A0):Option (Pn (Str×A0)):=
 C9 0 parserParser>>=fun x1=>match x1 with
 | .pn nn=>
 some (.pn nn)
 | .ok x1=>
 some (.ok (x1.1,x1.2))
theorem C1 {parserParser res}(hh:I3 parserParser=some res):I2 C 98 [.ref 0 0] [.row (A0.cells parserParser) 112] (P4 res (fun rr=>[.row (A0.cells rr.2) 112]) (fun rr=>.d (.str rr.1))) (H4 res O3 [.row (A0.cells parserParser) 112]):=by
 unfold I3 at hh
 refine I2.intro hC Tryz.func98 rfl rfl rfl (t' rfl (p' 1 rfl ?_))
 rcases bp' hh with ⟨nn,hx1,⟨⟩⟩ | ⟨x1,hx1,hh⟩
 ·exact gr [0] (Ed hx1) rfl (fun hi=>pe' rfl rfl hi)
 cases hh
 exact gq [0] ((Ed hx1).ok) rfl (e' rfl (re' (rq rfl)))
def U0 (text:Str)(parserParser:A0):Option (Pn A0):=
 S0 text parserParser>>=fun x1=>
 if (!x1.1)=true then
  G7 x1.2>>=fun x2=>match x2 with
  | .pn nn=>
  some (.pn nn)
  | .ok x2=>
  some (.ok x1.2)
 else
  some (.ok x1.2)
theorem F0 {text parserParser res}(hh:U0 text parserParser=some res):I2 C 67 [.ref 0 0,.d (.str text)] [.row (A0.cells parserParser) 112] (P4 res (fun rr=>[.row (A0.cells rr) 112]) (fun rr=>.tup [])) (H4 res O3 [.dead]):=by
 unfold U0 at hh
 obtain ⟨x1,hx1,hh⟩:=bs' hh
 refine I2.intro hC Tryz.func67 rfl rfl rfl (p' 2 rfl (gq [0] (O0 hx1) rfl (e' rfl (ci' rfl hh (fun hh=>?_) (fun hh=>?_)))))
 ·refine P' 1 rfl ?_
  rcases bp' hh with ⟨nn,hx2,⟨⟩⟩ | ⟨x2,hx2,hh⟩
  ·exact gr [0] (S6 hx2) rfl (peW ⟨trivial,trivial⟩ rfl)
  cases hh
  exact gq [0] ((S6 hx2).ok) rfl (n' (rn' rfl rfl rfl))
 cases hh
 exact sk' (rn' rfl rfl rfl)
def U5 (parserParser:A0):Option (Pn (Int×A0)):=
 C9 1 parserParser>>=fun x1=>match x1 with
 | .pn nn=>
 some (.pn nn)
 | .ok x1=>
 D14 x1.1>>=fun x2=>
 some (.ok (x2,x1.2))
theorem T5 {parserParser res}(hh:U5 parserParser=some res):I2 C 200 [.ref 0 0] [.row (A0.cells parserParser) 112] (P4 res (fun rr=>[.row (A0.cells rr.2) 112]) (fun rr=>.d (.int .i64 rr.1))) (H4 res O3 [.row (A0.cells parserParser) 112]):=by
 unfold U5 at hh
 refine I2.intro hC Tryz.func200 rfl rfl rfl (t' rfl (p' 1 rfl ?_))
 rcases bp' hh with ⟨nn,hx1,⟨⟩⟩ | ⟨x1,hx1,hh⟩
 ·exact gr [0] (Ed hx1) rfl (fun hi=>pe' rfl rfl hi)
 obtain ⟨x2,hx2,hh⟩:=bs' hh
 cases hh
 exact gq [0] ((Ed hx1).ok) rfl (cq (S17 hx2) rfl (e' rfl (t' rfl (re' (rq rfl)))))
def U2 (parserParser:A0):Option (Pn (Int×A0)):=
 S0 [45] parserParser>>=fun x1=>
 if x1.1=true then
  U5 x1.2>>=fun x2=>match x2 with
  | .pn nn=>
  some (.pn nn)
  | .ok x2=>
  some (.ok ((IntKind.i64.wrap (0 - x2.1)),x2.2))
 else
  U5 x1.2>>=fun x3=>match x3 with
  | .pn nn=>
  some (.pn nn)
  | .ok x3=>
  some (.ok (x3.1,x3.2))
theorem B1 {parserParser res}(hh:U2 parserParser=some res):I2 C 160 [.ref 0 0] [.row (A0.cells parserParser) 112] (P4 res (fun rr=>[.row (A0.cells rr.2) 112]) (fun rr=>.d (.int .i64 rr.1))) (H4 res O3 [.dead]):=by
 unfold U2 at hh
 obtain ⟨x1,hx1,hh⟩:=bs' hh
 refine I2.intro hC Tryz.func160 rfl rfl rfl (t' rfl (S' (p' 1 rfl (gq [0] (O0 hx1) rfl (n' (ci' rfl hh (fun hh=>?_) (fun hh=>?_)))))))
 ·refine p' 1 rfl ?_
  rcases bp' hh with ⟨nn,hx2,⟨⟩⟩ | ⟨x2,hx2,hh⟩
  ·exact gr [0] (T5 hx2) rfl (peW ⟨trivial,trivial⟩ rfl)
  cases hh
  exact gq [0] ((T5 hx2).ok) rfl (e' rfl (re' (rq rfl)))
 refine sk' (p' 1 rfl ?_)
 rcases bp' hh with ⟨nn,hx3,⟨⟩⟩ | ⟨x3,hx3,hh⟩
 ·exact gr [0] (T5 hx3) rfl (peW ⟨trivial,trivial⟩ rfl)
 cases hh
 exact gq [0] ((T5 hx3).ok) rfl (e' rfl (re' (rq rfl)))
mutual
def U4 (parserParser:A0):Option (Pn (L0×A0)):=
 S0 [98,111,111,108] parserParser>>=fun x1=>
 if x1.1=true then
  some (.ok ((L0.mk 0 0 0 0 [] [] []),x1.2))
 else
  S0 [105,110,116] x1.2>>=fun x2=>
  if x2.1=true then
   U0 [91] x2.2>>=fun x3=>match x3 with
   | .pn nn=>
   some (.pn nn)
   | .ok x3=>
   U2 x3>>=fun x4=>match x4 with
   | .pn nn=>
   some (.pn nn)
   | .ok x4=>
   U0 [46,46] x4.2>>=fun x5=>match x5 with
   | .pn nn=>
   some (.pn nn)
   | .ok x5=>
   U2 x5>>=fun x6=>match x6 with
   | .pn nn=>
   some (.pn nn)
   | .ok x6=>
   U0 [93] x6.2>>=fun x7=>match x7 with
   | .pn nn=>
   some (.pn nn)
   | .ok x7=>
   some (.ok ((L0.mk 1 x4.1 x6.1 0 [] [] []),x7))
  else
   S0 [97,114,114,97,121] x2.2>>=fun x8=>
   if x8.1=true then
    U2 x8.2>>=fun x9=>match x9 with
    | .pn nn=>
    some (.pn nn)
    | .ok x9=>
    U0 [111,102] x9.2>>=fun x10=>match x10 with
    | .pn nn=>
    some (.pn nn)
    | .ok x10=>
    U4 x10>>=fun x16=>match x16 with
    | .pn nn=>
    some (.pn nn)
    | .ok x16=>
    some (.ok ((L0.mk 2 0 0 x9.1 [] [] [x16.1]),x16.2))
   else
    S0 [114,101,99,111,114,100] x8.2>>=fun x11=>
    if x11.1=true then
     U0 [123] x11.2>>=fun x12=>match x12 with
     | .pn nn=>
     some (.pn nn)
     | .ok x12=>
     S9 x12 [] []
    else
     I3 x11.2>>=fun x13=>match x13 with
     | .pn nn=>
     some (.pn nn)
     | .ok x13=>
     some (.ok ((L0.mk 4 0 0 0 x13.1 [] []),x13.2))
 partial_fixpoint
def S9 (o0:A0)(o2_Names:List Str)(o2_Of:List L0):Option (Pn (L0×A0)):=
 I3 o0>>=fun x14=>match x14 with
 | .pn nn=>
 some (.pn nn)
 | .ok x14=>
 U0 [58] x14.2>>=fun x15=>match x15 with
 | .pn nn=>
 some (.pn nn)
 | .ok x15=>
 U4 x15>>=fun x17=>match x17 with
 | .pn nn=>
 some (.pn nn)
 | .ok x17=>
 if (decide ((o2_Names.length+1) * 17≤140737488355328))=true then
  if (decide ((o2_Of.length+1) * 97≤140737488355328))=true then
   S0 [44] x17.2>>=fun x18=>
   if (!x18.1)=true then
    U0 [125] x18.2>>=fun x19=>match x19 with
    | .pn nn=>
    some (.pn nn)
    | .ok x19=>
    some (.ok ((L0.mk 3 0 0 0 [] (o2_Names++[x14.1]) (o2_Of++[x17.1])),x19))
   else
    S9 x18.2 (o2_Names++[x14.1]) (o2_Of++[x17.1])
  else none
 else none
 partial_fixpoint
end
abbrev Sm (parserParser:A0)(res:Pn (L0×A0)):Prop:=I2 C 99 [.ref 0 0] [.row (A0.cells parserParser) 112] (P4 res (fun rr=>[.row (A0.cells rr.2) 112]) (fun rr=>.agg (L0.cells rr.1))) (H4 res O3 [.dead])
abbrev Rs (o0:A0)(o2_Names:List Str)(o2_Of:List L0)(res:Pn (L0×A0)):Prop:=LMp C 74 1 Tryz.f99 [1,0,4,1,3,1,3,1,3,1,2,1,1,0,4] [(0,.ref 0 0),(2,.ref 1 0),(6,.ref 2 0)] [.row (A0.cells o0) 112,.row [.d (.int .i64 0),.d (.int .i64 0),.d (.int .i64 0),.d (.int .i64 0),.d (.str []),.full (estr.rows []),.full (L0.rows [])] 76,.row [.d (.int .i64 3),.d (.int .i64 0),.d (.int .i64 0),.d (.int .i64 0),.d (.str []),.osl 3 (estr.rows o2_Names),.osl 4 (L0.rows o2_Of)] 76,.tok 9 1,.tok 76 7] (P4 res (fun rr=>[.row (A0.cells rr.2) 112]) (fun rr=>.agg (L0.cells rr.1))) (H4 res O3 [.dead])
theorem Eu:(∀ parserParser res,U4 parserParser=some res→Sm parserParser res)∧(∀ o0 o2_Names o2_Of res,S9 o0 o2_Names o2_Of=some res→Rs o0 o2_Names o2_Of res):=by
 refine U4.mutual_partial_correctness _ _ ?_ ?_
 ·intro g0 g1 ih0 ih1 parserParser res hh
  obtain ⟨x1,hx1,hh⟩:=bs' hh
  refine I2.intro hC Tryz.func99 rfl rfl rfl (s' rfl rfl (C0.nf hC rfl (n' (S' (bk' (p' 1 rfl (gq [0] (O0 hx1) rfl (e' rfl (ci' rfl hh (fun hh=>?_) (fun hh=>?_))))))))))
  ·refine s' rfl rfl (C0.bz hC rfl (C0.s hC rfl (n' (re' ?_))))
   have hq:=oi' hh
   subst hq
   exact ⟨_,.agg [.d (.int .i64 0),.d (.int .i64 0),.d (.int .i64 0),.d (.int .i64 0),.d (.str []),.d (.sl (estr.rows [])),.d (.sl (L0.rows []))],[.row (A0.cells x1.2) 112],rfl,(.aggL ⟨.rfl,.rfl,.rfl,.rfl,.rfl,.full,.full,trivial⟩),⟨⟨rfl,.refl _,rfl⟩,trivial⟩,rfl,rfl,rpq rfl rfl⟩
  obtain ⟨x2,hx2,hh⟩:=bs' hh
  refine p' 1 rfl (gq [0] (O0 hx2) rfl (e' rfl (ci' rfl hh (fun hh=>?_) (fun hh=>?_))))
  ·refine p' 1 rfl ?_
   rcases bp' hh with ⟨nn,hx3,⟨⟩⟩ | ⟨x3,hx3,hh⟩
   ·exact gr [0] (F0 hx3) rfl (peW ⟨trivial,trivial⟩ rfl)
   refine gq [0] ((F0 hx3).ok) rfl (n' (p' 1 rfl ?_))
   rcases bp' hh with ⟨nn,hx4,⟨⟩⟩ | ⟨x4,hx4,hh⟩
   ·exact gr [0] (B1 hx4) rfl (peW ⟨trivial,trivial⟩ rfl)
   refine gq [0] ((B1 hx4).ok) rfl (e' rfl (p' 1 rfl ?_))
   rcases bp' hh with ⟨nn,hx5,⟨⟩⟩ | ⟨x5,hx5,hh⟩
   ·exact gr [0] (F0 hx5) rfl (peW ⟨trivial,trivial⟩ rfl)
   refine gq [0] ((F0 hx5).ok) rfl (n' (p' 1 rfl ?_))
   rcases bp' hh with ⟨nn,hx6,⟨⟩⟩ | ⟨x6,hx6,hh⟩
   ·exact gr [0] (B1 hx6) rfl (peW ⟨trivial,trivial⟩ rfl)
   refine gq [0] ((B1 hx6).ok) rfl (e' rfl (p' 1 rfl ?_))
   rcases bp' hh with ⟨nn,hx7,⟨⟩⟩ | ⟨x7,hx7,hh⟩
   ·exact gr [0] (F0 hx7) rfl (peW ⟨trivial,trivial⟩ rfl)
   refine gq [0] ((F0 hx7).ok) rfl (n' (p' 2 rfl (C0.bz hC rfl (C0.s hC rfl (n' (re' ?_))))))
   have hq:=oi' hh
   subst hq
   exact ⟨_,.agg [.d (.int .i64 1),.d (.int .i64 x4.1),.d (.int .i64 x6.1),.d (.int .i64 0),.d (.str []),.d (.sl (estr.rows [])),.d (.sl (L0.rows []))],[.row (A0.cells x7) 112],rfl,(.aggL ⟨.rfl,.rfl,.rfl,.rfl,.rfl,.full,.full,trivial⟩),⟨⟨rfl,.refl _,rfl⟩,trivial⟩,rfl,rfl,rpq rfl rfl⟩
  obtain ⟨x8,hx8,hh⟩:=bs' hh
  refine p' 1 rfl (gq [0] (O0 hx8) rfl (e' rfl (ci' rfl hh (fun hh=>?_) (fun hh=>?_))))
  ·refine p' 1 rfl ?_
   rcases bp' hh with ⟨nn,hx9,⟨⟩⟩ | ⟨x9,hx9,hh⟩
   ·exact gr [0] (B1 hx9) rfl (peW ⟨trivial,trivial⟩ rfl)
   refine gq [0] ((B1 hx9).ok) rfl (e' rfl (p' 1 rfl ?_))
   rcases bp' hh with ⟨nn,hx10,⟨⟩⟩ | ⟨x10,hx10,hh⟩
   ·exact gr [0] (F0 hx10) rfl (peW ⟨trivial,trivial⟩ rfl)
   refine gq [0] ((F0 hx10).ok) rfl (n' (p' 2 rfl ?_))
   rcases bp' hh with ⟨nn,hx16,⟨⟩⟩ | ⟨x16,hx16,hh⟩
   ·exact gr [0] (ih0 _ _ hx16) rfl (peW ⟨trivial,trivial⟩ rfl)
   refine gq [0] ((ih0 _ _ hx16).ok) rfl (C0.be hC rfl (L0.rows_map [x16.1]).symm (C0.bz hC rfl (C0.s hC rfl (n' (re' ?_)))))
   have hq:=oi' hh
   subst hq
   exact ⟨_,.agg [.d (.int .i64 2),.d (.int .i64 0),.d (.int .i64 0),.d (.int .i64 x9.1),.d (.str []),.d (.sl (estr.rows [])),.d (.sl (L0.rows [x16.1]))],[.row (A0.cells x16.2) 112],rfl,(.aggL ⟨.rfl,.rfl,.rfl,.rfl,.rfl,.full,.full,trivial⟩),⟨⟨rfl,.refl _,rfl⟩,trivial⟩,rfl,rfl,rpq rfl rfl⟩
  obtain ⟨x11,hx11,hh⟩:=bs' hh
  refine p' 1 rfl (gq [0] (O0 hx11) rfl (e' rfl (ci' rfl hh (fun hh=>?_) (fun hh=>?_))))
  ·refine s' rfl rfl (C0.bz hC rfl (C0.nf hC rfl (C0.s hC rfl (C0.tokC 2 5 9 1 rfl rfl rfl rfl rfl (C0.tokC 2 6 76 7 rfl rfl rfl rfl rfl (n' (p' 1 rfl ?_)))))))
   rcases bp' hh with ⟨nn,hx12,⟨⟩⟩ | ⟨x12,hx12,hh⟩
   ·exact gr [0] (F0 hx12) rfl (peW ⟨trivial,trivial⟩ rfl)
   exact gq [0] ((F0 hx12).ok) rfl (n' (S' (bk' (fq (ih1 _ _ _ _ hh) rfl))))
  refine sk' (p' 1 rfl ?_)
  rcases bp' hh with ⟨nn,hx13,⟨⟩⟩ | ⟨x13,hx13,hh⟩
  ·exact gr [0] (C1 hx13) rfl (peW ⟨trivial,trivial⟩ rfl)
  refine gq [0] ((C1 hx13).ok) rfl (C0.bz hC rfl (C0.s hC rfl (n' (re' ?_))))
  have hq:=oi' hh
  subst hq
  exact ⟨_,.agg [.d (.int .i64 4),.d (.int .i64 0),.d (.int .i64 0),.d (.int .i64 0),.d (.str x13.1),.d (.sl (estr.rows [])),.d (.sl (L0.rows []))],[.row (A0.cells x13.2) 112],rfl,(.aggL ⟨.rfl,.rfl,.rfl,.rfl,.rfl,.full,.full,trivial⟩),⟨⟨rfl,.refl _,rfl⟩,trivial⟩,rfl,rfl,rpq rfl rfl⟩
 ·intro g0 g1 ih0 ih1 o0 o2_Names o2_Of res hh
  refine F1.unroll (bk' (p' 1 rfl ?_))
  rcases bp' hh with ⟨nn,hx14,⟨⟩⟩ | ⟨x14,hx14,hh⟩
  ·exact gr [0] (C1 hx14) rfl (peW ⟨trivial,trivial⟩ rfl)
  refine gq [0] ((C1 hx14).ok) rfl (e' rfl (p' 1 rfl ?_))
  rcases bp' hh with ⟨nn,hx15,⟨⟩⟩ | ⟨x15,hx15,hh⟩
  ·exact gr [0] (F0 hx15) rfl (peW ⟨trivial,trivial⟩ rfl)
  refine gq [0] ((F0 hx15).ok) rfl (n' (p' 1 rfl ?_))
  rcases bp' hh with ⟨nn,hx17,⟨⟩⟩ | ⟨x17,hx17,hh⟩
  ·exact gr [0] (ih0 _ _ hx17) rfl (peW ⟨trivial,trivial⟩ rfl)
  obtain ⟨c9,hh⟩:=V4 hh
  obtain ⟨c10,hh⟩:=V4 hh
  obtain ⟨x18,hx18,hh⟩:=bs' hh
  refine gq [0] ((ih0 _ _ hx17).ok) rfl (C0.nf hC rfl (C0.s hC rfl (n' (S' ?_))))
  refine AEx.drawL hC 11 [4,9] [] [[.row (A0.cells x17.2) 112,.row [.d (.int .i64 0),.d (.int .i64 0),.d (.int .i64 0),.d (.int .i64 0),.d (.str []),.full (estr.rows []),.full (L0.rows [])] 76,.row [.d (.int .i64 3),.d (.int .i64 0),.d (.int .i64 0),.d (.int .i64 0),.d (.str []),.osl 3 (estr.rows o2_Names),.osl 4 (L0.rows o2_Of)] 76,.tok 9 1,.tok 76 7,.row (L0.cells x17.1) 76],[.row (A0.cells x17.2) 112,.row [.d (.int .i64 0),.d (.int .i64 0),.d (.int .i64 0),.d (.int .i64 0),.d (.str []),.full (estr.rows []),.full (L0.rows [])] 76,.row [.d (.int .i64 3),.d (.int .i64 0),.d (.int .i64 0),.d (.int .i64 0),.d (.str []),.osl 3 (estr.rows o2_Names),.osl 4 (L0.rows o2_Of)] 76,.dead,.tok 76 7,.row (L0.cells x17.1) 76,.tok 9 1],[.row (A0.cells x17.2) 112,.row [.d (.int .i64 0),.d (.int .i64 0),.d (.int .i64 0),.d (.int .i64 0),.d (.str []),.full (estr.rows []),.full (L0.rows [])] 76,.row [.d (.int .i64 3),.d (.int .i64 0),.d (.int .i64 0),.d (.int .i64 0),.d (.str []),.osl 3 (estr.rows o2_Names),.osl 4 (L0.rows o2_Of)] 76,.dead,.dead,.row (L0.cells x17.1) 76,.tok 9 1,.tok 76 7]] rfl rfl rfl rfl rfl rfl rfl rfl rfl rfl ?_
  refine AS.q hC rfl rfl rfl rfl (AS.q hC rfl rfl rfl rfl (AS.q hC rfl rfl rfl rfl (AS.a rfl (fun H=>AQ.be hC rfl (estr.rows_map [x14.1]).symm (AQ.nil rfl)) rfl rfl (AS.am hC rfl rfl rfl rfl rfl (rs:=estr.rows (o2_Names++[x14.1])) (estr.app o2_Names [x14.1]) (estr.sz o2_Names) (estr.sz [x14.1]) (V1 (estr.len o2_Names) (estr.len [x14.1]) c9) rfl rfl (AS.q hC rfl rfl rfl rfl (AS.q hC rfl rfl rfl rfl ?_))))))
  refine AS.q hC rfl rfl rfl rfl (AS.a rfl (fun H=>AQ.be hC rfl (L0.rows_map [x17.1]).symm (AQ.nil rfl)) rfl rfl (AS.am hC rfl rfl rfl rfl rfl (rs:=L0.rows (o2_Of++[x17.1])) (L0.app o2_Of [x17.1]) (L0.sz o2_Of) (L0.sz [x17.1]) (V1 (L0.len o2_Of) (L0.len [x17.1]) c10) rfl rfl (AS.q hC rfl rfl rfl rfl (AS.nil (C0.s hC rfl (q' rfl (C0.s hC rfl (n' (p' 1 rfl ?_)))))))))
  refine gq [0] (O0 hx18) rfl (e' rfl (ci' rfl hh (fun hh=>?_) (fun hh=>?_)))
  ·refine ex' (p' 1 rfl ?_)
   rcases bp' hh with ⟨nn,hx19,⟨⟩⟩ | ⟨x19,hx19,hh⟩
   ·exact gr [0] (F0 hx19) rfl (peW ⟨trivial,trivial⟩ rfl)
   refine gq [0] ((F0 hx19).ok) rfl (n' (p' 1 rfl (C0.s hC rfl (n' (re' ?_)))))
   have hq:=oi' hh
   subst hq
   exact ⟨_,.agg [.d (.int .i64 3),.d (.int .i64 0),.d (.int .i64 0),.d (.int .i64 0),.d (.str []),.d (.sl (estr.rows (o2_Names++[x14.1]))),.d (.sl (L0.rows (o2_Of++[x17.1])))],[.row (A0.cells x19) 112],rfl,(.aggL ⟨.rfl,.rfl,.rfl,.rfl,.rfl,.osl,.osl,trivial⟩),⟨⟨rfl,.refl _,rfl⟩,trivial⟩,rfl,rfl,rpq rfl rfl⟩
  refine sk' ?_
  refine F1.rj (L:=[(0,.ref 0 0),(2,.ref 1 0),(6,.ref 2 0)]) (H2:=[.row (A0.cells x18.2) 112,.row [.d (.int .i64 0),.d (.int .i64 0),.d (.int .i64 0),.d (.int .i64 0),.d (.str []),.full (estr.rows []),.full (L0.rows [])] 76,.row [.d (.int .i64 3),.d (.int .i64 0),.d (.int .i64 0),.d (.int .i64 0),.d (.str []),.osl 3 (estr.rows (o2_Names++[x14.1])),.osl 4 (L0.rows (o2_Of++[x17.1]))] 76,.tok 9 1,.tok 76 7]) [0,1,2,6,7] ?_ rfl rfl rfl rfl
  exact lq (ih1 _ _ _ _ hh) rfl
theorem R7 {parserParser res}(hh:U4 parserParser=some res):Sm parserParser res:=(Eu).1 _ _ hh
def A4 (kind:Int)(parserParser:A0):Option (Pn (E0×A0)):=
 I3 parserParser>>=fun x1=>match x1 with
 | .pn nn=>
 some (.pn nn)
 | .ok x1=>
 U0 [58] x1.2>>=fun x2=>match x2 with
 | .pn nn=>
 some (.pn nn)
 | .ok x2=>
 U4 x2>>=fun x3=>match x3 with
 | .pn nn=>
 some (.pn nn)
 | .ok x3=>
 some (.ok ((E0.mk kind x1.1 x3.1 0 (B0.mk 0 0 [] []) [] [] []),x3.2))
theorem A1 {kind parserParser res}(hh:A4 kind parserParser=some res):I2 C 100 [.ref 0 0,.d (.int .i64 kind)] [.row (A0.cells parserParser) 112] (P4 res (fun rr=>[.row (A0.cells rr.2) 112]) (fun rr=>.agg (E0.cells rr.1))) (H4 res O3 [.dead]):=by
 unfold A4 at hh
 refine I2.intro hC Tryz.func100 rfl rfl rfl (s' rfl rfl (C0.nf hC rfl (n' (p' 1 rfl ?_))))
 rcases bp' hh with ⟨nn,hx1,⟨⟩⟩ | ⟨x1,hx1,hh⟩
 ·exact gr [0] (C1 hx1) rfl (peW ⟨trivial,trivial⟩ rfl)
 refine gq [0] ((C1 hx1).ok) rfl (e' rfl (p' 1 rfl ?_))
 rcases bp' hh with ⟨nn,hx2,⟨⟩⟩ | ⟨x2,hx2,hh⟩
 ·exact gr [0] (F0 hx2) rfl (peW ⟨trivial,trivial⟩ rfl)
 refine gq [0] ((F0 hx2).ok) rfl (n' (p' 3 rfl ?_))
 rcases bp' hh with ⟨nn,hx3,⟨⟩⟩ | ⟨x3,hx3,hh⟩
 ·exact gr [0] (R7 hx3) rfl (peW ⟨trivial,trivial⟩ rfl)
 cases hh
 exact gq [0] ((R7 hx3).ok) rfl (q' rfl (C0.s hC rfl (n' (re' (rq rfl)))))
def D6 (parserParser:A0):Option (Pn (E0×A0)):=
 A4 4 parserParser>>=fun x1=>match x1 with
 | .pn nn=>
 some (.pn nn)
 | .ok x1=>
 S0 [61] x1.2>>=fun x2=>
 if x2.1=true then
  S0 [116,114,117,101] x2.2>>=fun x3=>
  if x3.1=true then
   U0 [59] x3.2>>=fun x4=>match x4 with
   | .pn nn=>
   some (.pn nn)
   | .ok x4=>
   some (.ok ((E0.mk x1.1.Kind x1.1.Name x1.1.TypeV 1 x1.1.Value x1.1.Params x1.1.Vars x1.1.Body),x4))
  else
   S0 [102,97,108,115,101] x3.2>>=fun x5=>
   if x5.1=true then
    U0 [59] x5.2>>=fun x4=>match x4 with
    | .pn nn=>
    some (.pn nn)
    | .ok x4=>
    some (.ok (x1.1,x4))
   else
    U2 x5.2>>=fun x6=>match x6 with
    | .pn nn=>
    some (.pn nn)
    | .ok x6=>
    U0 [59] x6.2>>=fun x4=>match x4 with
    | .pn nn=>
    some (.pn nn)
    | .ok x4=>
    some (.ok ((E0.mk x1.1.Kind x1.1.Name x1.1.TypeV x6.1 x1.1.Value x1.1.Params x1.1.Vars x1.1.Body),x4))
 else
  U0 [59] x2.2>>=fun x4=>match x4 with
  | .pn nn=>
  some (.pn nn)
  | .ok x4=>
  some (.ok (x1.1,x4))
theorem E2 {parserParser res}(hh:D6 parserParser=some res):I2 C 101 [.ref 0 0] [.row (A0.cells parserParser) 112] (P4 res (fun rr=>[.row (A0.cells rr.2) 112]) (fun rr=>.agg (E0.cells rr.1))) (H4 res O3 [.dead]):=by
 unfold D6 at hh
 refine I2.intro hC Tryz.func101 rfl rfl rfl (s' rfl rfl (C0.nf hC rfl (n' (p' 1 rfl ?_))))
 rcases bp' hh with ⟨nn,hx1,⟨⟩⟩ | ⟨x1,hx1,hh⟩
 ·exact gr [0] (A1 hx1) rfl (peW ⟨trivial,trivial⟩ rfl)
 obtain ⟨x2,hx2,hh⟩:=bs' hh
 refine gq [0] ((A1 hx1).ok) rfl (C0.nf hC rfl (C0.s hC rfl (n' (S' (p' 1 rfl (gq [0] (O0 hx2) rfl (n' (ci' rfl hh (fun hh=>?_) (fun hh=>?_)))))))))
 ·obtain ⟨x3,hx3,hh⟩:=bs' hh
  refine bk' (p' 1 rfl (gq [0] (O0 hx3) rfl (e' rfl (ci' rfl hh (fun hh=>?_) (fun hh=>?_)))))
  ·refine P' 1 rfl (C0.s hC rfl (n' (p' 1 rfl ?_)))
   rcases bp' hh with ⟨nn,hx4,⟨⟩⟩ | ⟨x4,hx4,hh⟩
   ·exact gr [0] (F0 hx4) rfl (peW ⟨trivial,trivial⟩ rfl)
   cases hh
   exact gq [0] ((F0 hx4).ok) rfl (n' (p' 1 rfl (C0.s hC rfl (n' (re' (rq rfl))))))
  obtain ⟨x5,hx5,hh⟩:=bs' hh
  refine p' 1 rfl (gq [0] (O0 hx5) rfl (e' rfl (ci' rfl hh (fun hh=>?_) (fun hh=>?_))))
  ·refine sk' (p' 1 rfl ?_)
   rcases bp' hh with ⟨nn,hx4,⟨⟩⟩ | ⟨x4,hx4,hh⟩
   ·exact gr [0] (F0 hx4) rfl (peW ⟨trivial,trivial⟩ rfl)
   cases hh
   exact gq [0] ((F0 hx4).ok) rfl (n' (p' 1 rfl (C0.s hC rfl (n' (re' (rq rfl))))))
  refine P' 1 rfl ?_
  rcases bp' hh with ⟨nn,hx6,⟨⟩⟩ | ⟨x6,hx6,hh⟩
  ·exact gr [0] (B1 hx6) rfl (peW ⟨trivial,trivial⟩ rfl)
  refine gq [0] ((B1 hx6).ok) rfl (q' rfl (C0.s hC rfl (n' (p' 1 rfl ?_))))
  rcases bp' hh with ⟨nn,hx4,⟨⟩⟩ | ⟨x4,hx4,hh⟩
  ·exact gr [0] (F0 hx4) rfl (peW ⟨trivial,trivial⟩ rfl)
  cases hh
  exact gq [0] ((F0 hx4).ok) rfl (n' (p' 1 rfl (C0.s hC rfl (n' (re' (rq rfl))))))
 refine sk' (p' 1 rfl ?_)
 rcases bp' hh with ⟨nn,hx4,⟨⟩⟩ | ⟨x4,hx4,hh⟩
 ·exact gr [0] (F0 hx4) rfl (peW ⟨trivial,trivial⟩ rfl)
 cases hh
 exact gq [0] ((F0 hx4).ok) rfl (n' (p' 1 rfl (C0.s hC rfl (n' (re' (rq rfl))))))
def V5 (parserParser:A0):Option Bool:=
 (if (decide (parserParser.next < ((parserParser.tokens).length:Int)))=true then idx parserParser.tokens parserParser.next else some default)>>=fun x1=>
 some (bif (decide (parserParser.next < ((parserParser.tokens).length:Int))) then (x1.Kind == 0) else false)
theorem Ze {parserParser res}(hh:V5 parserParser=some res):W0 C 162 [.ref 0 0] [.row (A0.cells parserParser) 112] (Ret [.row (A0.cells parserParser) 112] (.d (.bool res))):=by
 unfold V5 at hh
 obtain ⟨x1,hx1,hh⟩:=bs' hh
 cases hh
 refine W0.intro hC Tryz.func162 rfl rfl rfl (t' rfl (S' (AEx.drawG hC 25 rfl rfl rfl (G' 8 rfl (AG.qe hC rfl (fun hg=>⟨trivial,trivial⟩) (X0.lenA _) (G' 3 rfl (a1' rfl (a1' rfl (a1' rfl (a0' rfl (a1' rfl (a1' rfl (a1' rfl ?_)))))))))))))
 exact AG.i hC rfl rfl (fun hg=>⟨hg,hg,trivial⟩) (fun hw=>⟨K3 (R9 hw hx1),X0.idx (R9 hw hx1),rfl⟩) (a1' rfl (a1' rfl (a1' rfl (pa' rfl (a0' rfl (an' (n' (re' (rq rfl)))))))))
def U7 (parserParser:A0):Option (Int×Bool×A0):=
 S0 [42] parserParser>>=fun x1=>
 if x1.1=true then
  some (10,true,x1.2)
 else
  S0 [47] x1.2>>=fun x2=>
  if x2.1=true then
   some (11,true,x2.2)
  else
   S0 [37] x2.2>>=fun x3=>
   some (12,x3.1,x3.2)
theorem Np {parserParser res}(hh:U7 parserParser=some res):W0 C 243 [.ref 0 0] [.row [.ref 1 0] 68,.row (A0.cells parserParser) 112] (Ret [.row [.ref 1 0] 68,.row (A0.cells res.2.2) 112] (.tup [.d (.int .i64 res.1),.d (.bool res.2.1)])):=by
 unfold U7 at hh
 obtain ⟨x1,hx1,hh⟩:=bs' hh
 refine W0.intro hC Tryz.func243 rfl rfl rfl (t' rfl (S' (bk' (p' 1 rfl (gq [1] (O0 hx1) rfl (e' rfl (ci' rfl hh (fun hh=>?_) (fun hh=>?_))))))))
 ·cases hh
  exact t' rfl (re' (rq rfl))
 obtain ⟨x2,hx2,hh⟩:=bs' hh
 refine p' 1 rfl (gq [1] (O0 hx2) rfl (e' rfl (ci' rfl hh (fun hh=>?_) (fun hh=>?_))))
 ·cases hh
  exact t' rfl (re' (rq rfl))
 obtain ⟨x3,hx3,hh⟩:=bs' hh
 cases hh
 exact sk' (p' 1 rfl (gq [1] (O0 hx3) rfl (e' rfl (re' (rq rfl)))))
def Xa (parserParser:A0):Option (Int×Bool×A0):=
 S0 [43] parserParser>>=fun x1=>
 if x1.1=true then
  some (8,true,x1.2)
 else
  S0 [45] x1.2>>=fun x2=>
  some (9,x2.1,x2.2)
theorem Ss {parserParser res}(hh:Xa parserParser=some res):W0 C 238 [.ref 0 0] [.row [.ref 1 0] 68,.row (A0.cells parserParser) 112] (Ret [.row [.ref 1 0] 68,.row (A0.cells res.2.2) 112] (.tup [.d (.int .i64 res.1),.d (.bool res.2.1)])):=by
 unfold Xa at hh
 obtain ⟨x1,hx1,hh⟩:=bs' hh
 refine W0.intro hC Tryz.func238 rfl rfl rfl (t' rfl (S' (p' 1 rfl (gq [1] (O0 hx1) rfl (n' (ci' rfl hh (fun hh=>?_) (fun hh=>?_)))))))
 ·cases hh
  exact t' rfl (re' (rq rfl))
 obtain ⟨x2,hx2,hh⟩:=bs' hh
 cases hh
 exact sk' (p' 1 rfl (gq [1] (O0 hx2) rfl (e' rfl (re' (rq rfl)))))
def Ya (parserParser:A0):Option (Int×Bool×A0):=
 S0 [38,38] parserParser>>=fun x1=>
 some (19,x1.1,x1.2)
theorem Ts {parserParser res}(hh:Ya parserParser=some res):W0 C 223 [.ref 0 0] [.row [.ref 1 0] 68,.row (A0.cells parserParser) 112] (Ret [.row [.ref 1 0] 68,.row (A0.cells res.2.2) 112] (.tup [.d (.int .i64 res.1),.d (.bool res.2.1)])):=by
 unfold Ya at hh
 obtain ⟨x1,hx1,hh⟩:=bs' hh
 cases hh
 exact W0.intro hC Tryz.func223 rfl rfl rfl (t' rfl (p' 1 rfl (gq [1] (O0 hx1) rfl (e' rfl (re' (rq rfl))))))
def Oc (parserParser:A0):Option (Int×Bool×A0):=
 S0 [124,124] parserParser>>=fun x1=>
 some (20,x1.1,x1.2)
theorem Fu {parserParser res}(hh:Oc parserParser=some res):W0 C 203 [.ref 0 0] [.row [.ref 1 0] 68,.row (A0.cells parserParser) 112] (Ret [.row [.ref 1 0] 68,.row (A0.cells res.2.2) 112] (.tup [.d (.int .i64 res.1),.d (.bool res.2.1)])):=by
 unfold Oc at hh
 obtain ⟨x1,hx1,hh⟩:=bs' hh
 cases hh
 exact W0.intro hC Tryz.func203 rfl rfl rfl (t' rfl (p' 1 rfl (gq [1] (O0 hx1) rfl (e' rfl (re' (rq rfl))))))
mutual
def T1 (parserParser:A0):Option (Pn (B0×A0)):=
 Jh parserParser>>=fun x1=>match x1 with
 | .pn nn=>
 some (.pn nn)
 | .ok x1=>
 S0 [63] x1.2>>=fun x2=>
 if (!x2.1)=true then
  some (.ok (x1.1,x2.2))
 else
  T1 x2.2>>=fun x3=>match x3 with
  | .pn nn=>
  some (.pn nn)
  | .ok x3=>
  U0 [58] x3.2>>=fun x4=>match x4 with
  | .pn nn=>
  some (.pn nn)
  | .ok x4=>
  T1 x4>>=fun x5=>match x5 with
  | .pn nn=>
  some (.pn nn)
  | .ok x5=>
  some (.ok ((B0.mk 23 0 [] [x1.1,x3.1,x5.1]),x5.2))
 partial_fixpoint
def Jh (parserParser:A0):Option (Pn (B0×A0)):=
 Ue parserParser>>=fun x1=>match x1 with
 | .pn nn=>
 some (.pn nn)
 | .ok x1=>
 some (.ok (x1.1,x1.2))
 partial_fixpoint
def Ue (parserParser:A0):Option (Pn (B0×A0)):=
 Nd parserParser>>=fun x1=>match x1 with
 | .pn nn=>
 some (.pn nn)
 | .ok x1=>
 H8 x1.2 x1.1
 partial_fixpoint
def H8 (o0:A0)(o3:B0):Option (Pn (B0×A0)):=
 Oc o0>>=fun x2=>
 if (!x2.2.1)=true then
  some (.ok (o3,x2.2.2))
 else
  Nd x2.2.2>>=fun x3=>match x3 with
  | .pn nn=>
  some (.pn nn)
  | .ok x3=>
  H8 x3.2 (B0.mk x2.1 0 [] [o3,x3.1])
 partial_fixpoint
def Nd (parserParser:A0):Option (Pn (B0×A0)):=
 Sb parserParser>>=fun x1=>match x1 with
 | .pn nn=>
 some (.pn nn)
 | .ok x1=>
 some (.ok (x1.1,x1.2))
 partial_fixpoint
def Sb (parserParser:A0):Option (Pn (B0×A0)):=
 H7 parserParser>>=fun x1=>match x1 with
 | .pn nn=>
 some (.pn nn)
 | .ok x1=>
 L6 x1.2 x1.1
 partial_fixpoint
def L6 (o0:A0)(o3:B0):Option (Pn (B0×A0)):=
 Ya o0>>=fun x2=>
 if (!x2.2.1)=true then
  some (.ok (o3,x2.2.2))
 else
  H7 x2.2.2>>=fun x3=>match x3 with
  | .pn nn=>
  some (.pn nn)
  | .ok x3=>
  L6 x3.2 (B0.mk x2.1 0 [] [o3,x3.1])
 partial_fixpoint
def H7 (parserParser:A0):Option (Pn (B0×A0)):=
 Od parserParser>>=fun x1=>match x1 with
 | .pn nn=>
 some (.pn nn)
 | .ok x1=>
 S0 [61,61] x1.2>>=fun x2=>
 if x2.1=true then
  J3 x2.2 x1 13
 else
  S0 [33,61] x2.2>>=fun x4=>
  if x4.1=true then
   J3 x4.2 x1 14
  else
   S0 [60] x4.2>>=fun x5=>
   if x5.1=true then
    J3 x5.2 x1 15
   else
    S0 [60,61] x5.2>>=fun x6=>
    if x6.1=true then
     J3 x6.2 x1 16
    else
     S0 [62] x6.2>>=fun x7=>
     if x7.1=true then
      J3 x7.2 x1 17
     else
      S0 [62,61] x7.2>>=fun x8=>
      if x8.1=true then
       J3 x8.2 x1 18
      else
       some (.ok (x1.1,x8.2))
 partial_fixpoint
def J3 (o0:A0)(x1:B0×A0)(op:Int):Option (Pn (B0×A0)):=
 Od o0>>=fun x3=>match x3 with
 | .pn nn=>
 some (.pn nn)
 | .ok x3=>
 some (.ok ((B0.mk op 0 [] [x1.1,x3.1]),x3.2))
 partial_fixpoint
def Od (parserParser:A0):Option (Pn (B0×A0)):=
 Tb parserParser>>=fun x1=>match x1 with
 | .pn nn=>
 some (.pn nn)
 | .ok x1=>
 some (.ok (x1.1,x1.2))
 partial_fixpoint
def Tb (parserParser:A0):Option (Pn (B0×A0)):=
 D9 parserParser>>=fun x1=>match x1 with
 | .pn nn=>
 some (.pn nn)
 | .ok x1=>
 M6 x1.2 x1.1
 partial_fixpoint
def M6 (o0:A0)(o3:B0):Option (Pn (B0×A0)):=
 Xa o0>>=fun x2=>
 if (!x2.2.1)=true then
  some (.ok (o3,x2.2.2))
 else
  D9 x2.2.2>>=fun x3=>match x3 with
  | .pn nn=>
  some (.pn nn)
  | .ok x3=>
  M6 x3.2 (B0.mk x2.1 0 [] [o3,x3.1])
 partial_fixpoint
def D9 (parserParser:A0):Option (Pn (B0×A0)):=
 Ub parserParser>>=fun x1=>match x1 with
 | .pn nn=>
 some (.pn nn)
 | .ok x1=>
 some (.ok (x1.1,x1.2))
 partial_fixpoint
def Ub (parserParser:A0):Option (Pn (B0×A0)):=
 I6 parserParser>>=fun x1=>match x1 with
 | .pn nn=>
 some (.pn nn)
 | .ok x1=>
 N6 x1.2 x1.1
 partial_fixpoint
def N6 (o0:A0)(o3:B0):Option (Pn (B0×A0)):=
 U7 o0>>=fun x2=>
 if (!x2.2.1)=true then
  some (.ok (o3,x2.2.2))
 else
  I6 x2.2.2>>=fun x3=>match x3 with
  | .pn nn=>
  some (.pn nn)
  | .ok x3=>
  N6 x3.2 (B0.mk x2.1 0 [] [o3,x3.1])
 partial_fixpoint
def I6 (parserParser:A0):Option (Pn (B0×A0)):=
 S0 [45] parserParser>>=fun x1=>
 if x1.1=true then
  I6 x1.2>>=fun x4=>match x4 with
  | .pn nn=>
  some (.pn nn)
  | .ok x4=>
  some (.ok ((B0.mk 6 0 [] [x4.1]),x4.2))
 else
  S0 [33] x1.2>>=fun x2=>
  if x2.1=true then
   I6 x2.2>>=fun x5=>match x5 with
   | .pn nn=>
   some (.pn nn)
   | .ok x5=>
   some (.ok ((B0.mk 7 0 [] [x5.1]),x5.2))
  else
   Fd x2.2>>=fun x3=>match x3 with
   | .pn nn=>
   some (.pn nn)
   | .ok x3=>
   some (.ok (x3.1,x3.2))
 partial_fixpoint
def Fd (parserParser:A0):Option (Pn (B0×A0)):=
 V5 parserParser>>=fun x1=>
 if x1=true then
  J6 parserParser>>=fun x2=>match x2 with
  | .pn nn=>
  some (.pn nn)
  | .ok x2=>
  some (.ok (x2.1,x2.2))
 else
  S0 [116,114,117,101] parserParser>>=fun x3=>
  if x3.1=true then
   some (.ok ((B0.mk 1 0 [] []),x3.2))
  else
   S0 [102,97,108,115,101] x3.2>>=fun x4=>
   if x4.1=true then
    some (.ok ((B0.mk 2 0 [] []),x4.2))
   else
    S0 [109,105,110] x4.2>>=fun x5=>
    if x5.1=true then
     Rc 21 x5.2>>=fun x11=>match x11 with
     | .pn nn=>
     some (.pn nn)
     | .ok x11=>
     some (.ok (x11.1,x11.2))
    else
     S0 [109,97,120] x5.2>>=fun x6=>
     if x6.1=true then
      Rc 22 x6.2>>=fun x12=>match x12 with
      | .pn nn=>
      some (.pn nn)
      | .ok x12=>
      some (.ok (x12.1,x12.2))
     else
      S0 [40] x6.2>>=fun x7=>
      if x7.1=true then
       T1 x7.2>>=fun x9=>match x9 with
       | .pn nn=>
       some (.pn nn)
       | .ok x9=>
       U0 [41] x9.2>>=fun x10=>match x10 with
       | .pn nn=>
       some (.pn nn)
       | .ok x10=>
       some (.ok (x9.1,x10))
      else
       U5 x7.2>>=fun x8=>match x8 with
       | .pn nn=>
       some (.pn nn)
       | .ok x8=>
       some (.ok ((B0.mk 0 x8.1 [] []),x8.2))
 partial_fixpoint
def Rc (op:Int)(parserParser:A0):Option (Pn (B0×A0)):=
 U0 [40] parserParser>>=fun x1=>match x1 with
 | .pn nn=>
 some (.pn nn)
 | .ok x1=>
 T1 x1>>=fun x2=>match x2 with
 | .pn nn=>
 some (.pn nn)
 | .ok x2=>
 U0 [44] x2.2>>=fun x3=>match x3 with
 | .pn nn=>
 some (.pn nn)
 | .ok x3=>
 T1 x3>>=fun x4=>match x4 with
 | .pn nn=>
 some (.pn nn)
 | .ok x4=>
 U0 [41] x4.2>>=fun x5=>match x5 with
 | .pn nn=>
 some (.pn nn)
 | .ok x5=>
 some (.ok ((B0.mk op 0 [] [x2.1,x4.1]),x5))
 partial_fixpoint
def J6 (parserParser:A0):Option (Pn (B0×A0)):=
 I3 parserParser>>=fun x1=>match x1 with
 | .pn nn=>
 some (.pn nn)
 | .ok x1=>
 E6 x1.2 3 x1.1 []
 partial_fixpoint
def E6 (o0:A0)(o2_Op:Int)(o2_Name:Str)(o2_Kids:List B0):Option (Pn (B0×A0)):=
 S0 [46] o0>>=fun x2=>
 if x2.1=true then
  I3 x2.2>>=fun x3=>match x3 with
  | .pn nn=>
  some (.pn nn)
  | .ok x3=>
  E6 x3.2 4 x3.1 [(B0.mk o2_Op 0 o2_Name o2_Kids)]
 else
  S0 [91] x2.2>>=fun x4=>
  if x4.1=true then
   T1 x4.2>>=fun x5=>match x5 with
   | .pn nn=>
   some (.pn nn)
   | .ok x5=>
   U0 [93] x5.2>>=fun x6=>match x6 with
   | .pn nn=>
   some (.pn nn)
   | .ok x6=>
   E6 x6 5 [] [(B0.mk o2_Op 0 o2_Name o2_Kids),x5.1]
  else
   some (.ok ((B0.mk o2_Op 0 o2_Name o2_Kids),x4.2))
 partial_fixpoint
end
abbrev Bi (parserParser:A0)(res:Pn (B0×A0)):Prop:=I2 C 102 [.ref 0 0] [.row (A0.cells parserParser) 112] (P4 res (fun rr=>[.row (A0.cells rr.2) 112]) (fun rr=>.agg (B0.cells rr.1))) (H4 res O3 [.dead])
abbrev Bx (parserParser:A0)(res:Pn (B0×A0)):Prop:=I2 C 161 [.ref 0 0] [.row (A0.cells parserParser) 112] (P4 res (fun rr=>[.row (A0.cells rr.2) 112]) (fun rr=>.agg (B0.cells rr.1))) (H4 res O3 [.dead])
abbrev Gu (parserParser:A0)(res:Pn (B0×A0)):Prop:=I2 C 201 [.ref 0 0,.bnd 202 [.ref 0 0],.clo 203 [.ref 1 0]] [.row (A0.cells parserParser) 112,.row [.ref 0 0] 68] (P4 res (fun rr=>[.row (A0.cells rr.2) 112,.row [.ref 0 0] 68]) (fun rr=>.agg (B0.cells rr.1))) (H4 res O3 [.dead,.row [.ref 0 0] 68])
abbrev Sq (o0:A0)(o3:B0)(res:Pn (B0×A0)):Prop:=LMp C 26 2 Tryz.f201 [1,1,4] [(1,.bnd 202 [.ref 0 0]),(2,.clo 203 [.ref 1 0]),(6,.ref 2 0),(7,.ref 3 0)] [.row (A0.cells o0) 112,.row [.ref 0 0] 68,.row [.d (.int .i64 0),.d (.int .i64 0),.d (.str []),.full (B0.rows [])] 80,.row (B0.cells o3) 80] (P4 res (fun rr=>[.row (A0.cells rr.2) 112,.row [.ref 0 0] 68]) (fun rr=>.agg (B0.cells rr.1))) (H4 res O3 [.dead,.row [.ref 0 0] 68])
abbrev Vv (parserParser:A0)(res:Pn (B0×A0)):Prop:=I2 C 202 [.ref 0 0] [.row (A0.cells parserParser) 112] (P4 res (fun rr=>[.row (A0.cells rr.2) 112]) (fun rr=>.agg (B0.cells rr.1))) (H4 res O3 [.dead])
abbrev Tq (parserParser:A0)(res:Pn (B0×A0)):Prop:=I2 C 201 [.ref 0 0,.bnd 222 [.ref 0 0],.clo 223 [.ref 1 0]] [.row (A0.cells parserParser) 112,.row [.ref 0 0] 68] (P4 res (fun rr=>[.row (A0.cells rr.2) 112,.row [.ref 0 0] 68]) (fun rr=>.agg (B0.cells rr.1))) (H4 res O3 [.dead,.row [.ref 0 0] 68])
abbrev Yo (o0:A0)(o3:B0)(res:Pn (B0×A0)):Prop:=LMp C 26 2 Tryz.f201 [1,1,4] [(1,.bnd 222 [.ref 0 0]),(2,.clo 223 [.ref 1 0]),(6,.ref 2 0),(7,.ref 3 0)] [.row (A0.cells o0) 112,.row [.ref 0 0] 68,.row [.d (.int .i64 0),.d (.int .i64 0),.d (.str []),.full (B0.rows [])] 80,.row (B0.cells o3) 80] (P4 res (fun rr=>[.row (A0.cells rr.2) 112,.row [.ref 0 0] 68]) (fun rr=>.agg (B0.cells rr.1))) (H4 res O3 [.dead,.row [.ref 0 0] 68])
abbrev Pp (parserParser:A0)(res:Pn (B0×A0)):Prop:=I2 C 222 [.ref 0 0] [.row (A0.cells parserParser) 112] (P4 res (fun rr=>[.row (A0.cells rr.2) 112]) (fun rr=>.agg (B0.cells rr.1))) (H4 res O3 [.dead])
abbrev Im (o0:A0)(x1:B0×A0)(op:Int)(res:Pn (B0×A0)):Prop:=JMp C 32 1 Tryz.f222 [1,1,1,1] [(0,.ref 0 0),(2,.ref 1 0),(3,.ref 2 0),(4,.d (.int .i64 op))] [.row (A0.cells o0) 112,.row [.d (.int .i64 0),.d (.int .i64 0),.d (.str []),.full (B0.rows [])] 80,.row (B0.cells x1.1) 80] (P4 res (fun rr=>[.row (A0.cells rr.2) 112]) (fun rr=>.agg (B0.cells rr.1))) (H4 res O3 [.dead])
abbrev Wv (parserParser:A0)(res:Pn (B0×A0)):Prop:=I2 C 229 [.ref 0 0] [.row (A0.cells parserParser) 112] (P4 res (fun rr=>[.row (A0.cells rr.2) 112]) (fun rr=>.agg (B0.cells rr.1))) (H4 res O3 [.dead])
abbrev Uq (parserParser:A0)(res:Pn (B0×A0)):Prop:=I2 C 201 [.ref 0 0,.bnd 237 [.ref 0 0],.clo 238 [.ref 1 0]] [.row (A0.cells parserParser) 112,.row [.ref 0 0] 68] (P4 res (fun rr=>[.row (A0.cells rr.2) 112,.row [.ref 0 0] 68]) (fun rr=>.agg (B0.cells rr.1))) (H4 res O3 [.dead,.row [.ref 0 0] 68])
abbrev Zo (o0:A0)(o3:B0)(res:Pn (B0×A0)):Prop:=LMp C 26 2 Tryz.f201 [1,1,4] [(1,.bnd 237 [.ref 0 0]),(2,.clo 238 [.ref 1 0]),(6,.ref 2 0),(7,.ref 3 0)] [.row (A0.cells o0) 112,.row [.ref 0 0] 68,.row [.d (.int .i64 0),.d (.int .i64 0),.d (.str []),.full (B0.rows [])] 80,.row (B0.cells o3) 80] (P4 res (fun rr=>[.row (A0.cells rr.2) 112,.row [.ref 0 0] 68]) (fun rr=>.agg (B0.cells rr.1))) (H4 res O3 [.dead,.row [.ref 0 0] 68])
abbrev Nr (parserParser:A0)(res:Pn (B0×A0)):Prop:=I2 C 237 [.ref 0 0] [.row (A0.cells parserParser) 112] (P4 res (fun rr=>[.row (A0.cells rr.2) 112]) (fun rr=>.agg (B0.cells rr.1))) (H4 res O3 [.dead])
abbrev Vq (parserParser:A0)(res:Pn (B0×A0)):Prop:=I2 C 201 [.ref 0 0,.bnd 242 [.ref 0 0],.clo 243 [.ref 1 0]] [.row (A0.cells parserParser) 112,.row [.ref 0 0] 68] (P4 res (fun rr=>[.row (A0.cells rr.2) 112,.row [.ref 0 0] 68]) (fun rr=>.agg (B0.cells rr.1))) (H4 res O3 [.dead,.row [.ref 0 0] 68])
abbrev Bp (o0:A0)(o3:B0)(res:Pn (B0×A0)):Prop:=LMp C 26 2 Tryz.f201 [1,1,4] [(1,.bnd 242 [.ref 0 0]),(2,.clo 243 [.ref 1 0]),(6,.ref 2 0),(7,.ref 3 0)] [.row (A0.cells o0) 112,.row [.ref 0 0] 68,.row [.d (.int .i64 0),.d (.int .i64 0),.d (.str []),.full (B0.rows [])] 80,.row (B0.cells o3) 80] (P4 res (fun rr=>[.row (A0.cells rr.2) 112,.row [.ref 0 0] 68]) (fun rr=>.agg (B0.cells rr.1))) (H4 res O3 [.dead,.row [.ref 0 0] 68])
abbrev Hu (parserParser:A0)(res:Pn (B0×A0)):Prop:=I2 C 242 [.ref 0 0] [.row (A0.cells parserParser) 112] (P4 res (fun rr=>[.row (A0.cells rr.2) 112]) (fun rr=>.agg (B0.cells rr.1))) (H4 res O3 [.dead])
abbrev Pr (parserParser:A0)(res:Pn (B0×A0)):Prop:=I2 C 246 [.ref 0 0] [.row (A0.cells parserParser) 112] (P4 res (fun rr=>[.row (A0.cells rr.2) 112]) (fun rr=>.agg (B0.cells rr.1))) (H4 res O3 [.dead])
abbrev Iv (op:Int)(parserParser:A0)(res:Pn (B0×A0)):Prop:=I2 C 247 [.ref 0 0,.d (.int .i64 op)] [.row (A0.cells parserParser) 112] (P4 res (fun rr=>[.row (A0.cells rr.2) 112]) (fun rr=>.agg (B0.cells rr.1))) (H4 res O3 [.dead])
abbrev Bl (parserParser:A0)(res:Pn (B0×A0)):Prop:=I2 C 204 [.ref 0 0] [.row (A0.cells parserParser) 112] (P4 res (fun rr=>[.row (A0.cells rr.2) 112]) (fun rr=>.agg (B0.cells rr.1))) (H4 res O3 [.dead])
abbrev Wq (o0:A0)(o2_Op:Int)(o2_Name:Str)(o2_Kids:List B0)(res:Pn (B0×A0)):Prop:=LMp C 28 1 Tryz.f204 [1,1,4] [(0,.ref 0 0),(2,.ref 1 0),(3,.ref 2 0)] [.row (A0.cells o0) 112,.row [.d (.int .i64 0),.d (.int .i64 0),.d (.str []),.full (B0.rows [])] 80,.row [.d (.int .i64 o2_Op),.d (.int .i64 0),.d (.str o2_Name),.d (.sl (B0.rows o2_Kids))] 80] (P4 res (fun rr=>[.row (A0.cells rr.2) 112]) (fun rr=>.agg (B0.cells rr.1))) (H4 res O3 [.dead])
theorem Cg:(∀ parserParser res,T1 parserParser=some res→Bi parserParser res)∧(∀ parserParser res,Jh parserParser=some res→Bx parserParser res)∧(∀ parserParser res,Ue parserParser=some res→Gu parserParser res)∧(∀ o0 o3 res,H8 o0 o3=some res→Sq o0 o3 res)∧(∀ parserParser res,Nd parserParser=some res→Vv parserParser res)∧(∀ parserParser res,Sb parserParser=some res→Tq parserParser res)∧(∀ o0 o3 res,L6 o0 o3=some res→Yo o0 o3 res)∧(∀ parserParser res,H7 parserParser=some res→Pp parserParser res)∧(∀ o0 x1 op res,J3 o0 x1 op=some res→Im o0 x1 op res)∧(∀ parserParser res,Od parserParser=some res→Wv parserParser res)∧(∀ parserParser res,Tb parserParser=some res→Uq parserParser res)∧(∀ o0 o3 res,M6 o0 o3=some res→Zo o0 o3 res)∧(∀ parserParser res,D9 parserParser=some res→Nr parserParser res)∧(∀ parserParser res,Ub parserParser=some res→Vq parserParser res)∧(∀ o0 o3 res,N6 o0 o3=some res→Bp o0 o3 res)∧(∀ parserParser res,I6 parserParser=some res→Hu parserParser res)∧(∀ parserParser res,Fd parserParser=some res→Pr parserParser res)∧(∀ op parserParser res,Rc op parserParser=some res→Iv op parserParser res)∧(∀ parserParser res,J6 parserParser=some res→Bl parserParser res)∧(∀ o0 o2_Op o2_Name o2_Kids res,E6 o0 o2_Op o2_Name o2_Kids=some res→Wq o0 o2_Op o2_Name o2_Kids res):=by
 refine T1.mutual_partial_correctness _ _ _ _ _ _ _ _ _ _ _ _ _ _ _ _ _ _ _ _ ?_ ?_ ?_ ?_ ?_ ?_ ?_ ?_ ?_ ?_ ?_ ?_ ?_ ?_ ?_ ?_ ?_ ?_ ?_ ?_
 ·intro g0 g1 ih0 ih1 parserParser res hh
  refine I2.intro hC Tryz.func102 rfl rfl rfl (s' rfl rfl (C0.nf hC rfl (n' (p' 1 rfl ?_))))
  rcases bp' hh with ⟨nn,hx1,⟨⟩⟩ | ⟨x1,hx1,hh⟩
  ·exact gr [0] (ih1 _ _ hx1) rfl (peW ⟨trivial,trivial⟩ rfl)
  obtain ⟨x2,hx2,hh⟩:=bs' hh
  refine gq [0] ((ih1 _ _ hx1).ok) rfl (C0.nf hC rfl (C0.s hC rfl (n' (S' (p' 1 rfl (gq [0] (O0 hx2) rfl (e' rfl (ci' rfl hh (fun hh=>?_) (fun hh=>?_)))))))))
  ·cases hh
   exact p' 1 rfl (C0.s hC rfl (n' (re' (rq rfl))))
  refine sk' (p' 1 rfl ?_)
  rcases bp' hh with ⟨nn,hx3,⟨⟩⟩ | ⟨x3,hx3,hh⟩
  ·exact gr [0] (ih0 _ _ hx3) rfl (peW ⟨trivial,trivial⟩ rfl)
  refine gq [0] ((ih0 _ _ hx3).ok) rfl (C0.nf hC rfl (C0.s hC rfl (n' (p' 1 rfl ?_))))
  rcases bp' hh with ⟨nn,hx4,⟨⟩⟩ | ⟨x4,hx4,hh⟩
  ·exact gr [0] (F0 hx4) rfl (peW ⟨trivial,trivial⟩ rfl)
  refine gq [0] ((F0 hx4).ok) rfl (n' (S' ?_))
  rcases bp' hh with ⟨nn,hx5,⟨⟩⟩ | ⟨x5,hx5,hh⟩
  ·refine AEx.drawE hC ?_
   refine V0.step rfl (j0:=0) (js:=[1,2]) (by kernel_rfl) ⟨⟨_,rfl,?_⟩,⟨_,rfl,?_⟩,⟨_,rfl,?_⟩,trivial⟩
   ·refine e' rfl ?_
    refine st2 1 2 rfl (by kernel_rfl) rfl rfl ?_ ?_
    ·refine e' rfl ?_
     refine st1 2 rfl (by kernel_rfl) rfl ?_
     refine e' rfl ?_
     refine st1 3 rfl (by kernel_rfl) rfl ?_
     exact gr [0] (ih0 _ _ hx5) rfl (peW ⟨trivial,trivial⟩ rfl)
    ·refine e' rfl ?_
     refine st2 1 3 rfl (by kernel_rfl) rfl rfl ?_ ?_
     ·refine e' rfl ?_
      refine st1 3 rfl (by kernel_rfl) rfl ?_
      exact gr [0] (ih0 _ _ hx5) rfl (peW ⟨trivial,trivial⟩ rfl)
     ·exact gr [0] (ih0 _ _ hx5) rfl (peW ⟨trivial,trivial⟩ rfl)
   ·refine e' rfl ?_
    refine st2 0 2 rfl (by kernel_rfl) rfl rfl ?_ ?_
    ·refine e' rfl ?_
     refine st1 2 rfl (by kernel_rfl) rfl ?_
     refine e' rfl ?_
     refine st1 3 rfl (by kernel_rfl) rfl ?_
     exact gr [0] (ih0 _ _ hx5) rfl (peW ⟨trivial,trivial⟩ rfl)
    ·refine e' rfl ?_
     refine st2 0 3 rfl (by kernel_rfl) rfl rfl ?_ ?_
     ·refine e' rfl ?_
      refine st1 3 rfl (by kernel_rfl) rfl ?_
      exact gr [0] (ih0 _ _ hx5) rfl (peW ⟨trivial,trivial⟩ rfl)
     ·exact gr [0] (ih0 _ _ hx5) rfl (peW ⟨trivial,trivial⟩ rfl)
   ·refine e' rfl ?_
    refine V0.step rfl (j0:=0) (js:=[1,3]) (by kernel_rfl) ⟨⟨_,rfl,?_⟩,⟨_,rfl,?_⟩,⟨_,rfl,?_⟩,trivial⟩
    ·refine e' rfl ?_
     refine st2 1 3 rfl (by kernel_rfl) rfl rfl ?_ ?_
     ·refine e' rfl ?_
      refine st1 3 rfl (by kernel_rfl) rfl ?_
      exact gr [0] (ih0 _ _ hx5) rfl (peW ⟨trivial,trivial⟩ rfl)
     ·exact gr [0] (ih0 _ _ hx5) rfl (peW ⟨trivial,trivial⟩ rfl)
    ·refine e' rfl ?_
     refine st2 0 3 rfl (by kernel_rfl) rfl rfl ?_ ?_
     ·refine e' rfl ?_
      refine st1 3 rfl (by kernel_rfl) rfl ?_
      exact gr [0] (ih0 _ _ hx5) rfl (peW ⟨trivial,trivial⟩ rfl)
     ·exact gr [0] (ih0 _ _ hx5) rfl (peW ⟨trivial,trivial⟩ rfl)
    ·exact gr [0] (ih0 _ _ hx5) rfl (peW ⟨trivial,trivial⟩ rfl)
  refine AEx.drawE hC ?_
  refine V0.step rfl (j0:=0) (js:=[1,2]) (by kernel_rfl) ⟨⟨_,rfl,?_⟩,⟨_,rfl,?_⟩,⟨_,rfl,?_⟩,trivial⟩
  ·refine e' rfl ?_
   refine st2 1 2 rfl (by kernel_rfl) rfl rfl ?_ ?_
   ·refine e' rfl ?_
    refine st1 2 rfl (by kernel_rfl) rfl ?_
    refine e' rfl ?_
    refine st1 3 rfl (by kernel_rfl) rfl ?_
    refine gq [0] ((ih0 _ _ hx5).ok) rfl (n' ?_)
    refine st1 4 rfl (by kernel_rfl) rfl ?_
    refine C0.be hC rfl (B0.rows_map [x1.1,x3.1,x5.1]).symm (n' ?_)
    refine st1 5 rfl (by kernel_rfl) rfl ?_
    refine e' rfl ?_
    refine st1 6 rfl (by kernel_rfl) rfl ?_
    refine C0.s hC rfl (n' (V0.nil (by kernel_rfl) (re' ?_)))
    have hq:=oi' hh
    subst hq
    exact ⟨_,.agg [.d (.int .i64 23),.d (.int .i64 0),.d (.str []),.d (.sl (B0.rows [x1.1,x3.1,x5.1]))],[.row (A0.cells x5.2) 112],rfl,(.aggL ⟨.rfl,.rfl,.rfl,.full,trivial⟩),⟨⟨rfl,.refl _,rfl⟩,trivial⟩,rfl,rfl,rpq rfl rfl⟩
   ·refine e' rfl ?_
    refine st2 1 3 rfl (by kernel_rfl) rfl rfl ?_ ?_
    ·refine e' rfl ?_
     refine st1 3 rfl (by kernel_rfl) rfl ?_
     refine gq [0] ((ih0 _ _ hx5).ok) rfl (n' ?_)
     refine st1 4 rfl (by kernel_rfl) rfl ?_
     refine C0.be hC rfl (B0.rows_map [x1.1,x3.1,x5.1]).symm (n' ?_)
     refine st1 5 rfl (by kernel_rfl) rfl ?_
     refine e' rfl ?_
     refine st1 6 rfl (by kernel_rfl) rfl ?_
     refine C0.s hC rfl (n' (V0.nil (by kernel_rfl) (re' ?_)))
     have hq:=oi' hh
     subst hq
     exact ⟨_,.agg [.d (.int .i64 23),.d (.int .i64 0),.d (.str []),.d (.sl (B0.rows [x1.1,x3.1,x5.1]))],[.row (A0.cells x5.2) 112],rfl,(.aggL ⟨.rfl,.rfl,.rfl,.full,trivial⟩),⟨⟨rfl,.refl _,rfl⟩,trivial⟩,rfl,rfl,rpq rfl rfl⟩
    ·refine gq [0] ((ih0 _ _ hx5).ok) rfl (n' ?_)
     refine st1 1 rfl (by kernel_rfl) rfl ?_
     refine e' rfl ?_
     refine st1 4 rfl (by kernel_rfl) rfl ?_
     refine C0.be hC rfl (B0.rows_map [x1.1,x3.1,x5.1]).symm (n' ?_)
     refine st1 5 rfl (by kernel_rfl) rfl ?_
     refine e' rfl ?_
     refine st1 6 rfl (by kernel_rfl) rfl ?_
     refine C0.s hC rfl (n' (V0.nil (by kernel_rfl) (re' ?_)))
     have hq:=oi' hh
     subst hq
     exact ⟨_,.agg [.d (.int .i64 23),.d (.int .i64 0),.d (.str []),.d (.sl (B0.rows [x1.1,x3.1,x5.1]))],[.row (A0.cells x5.2) 112],rfl,(.aggL ⟨.rfl,.rfl,.rfl,.full,trivial⟩),⟨⟨rfl,.refl _,rfl⟩,trivial⟩,rfl,rfl,rpq rfl rfl⟩
  ·refine e' rfl ?_
   refine st2 0 2 rfl (by kernel_rfl) rfl rfl ?_ ?_
   ·refine e' rfl ?_
    refine st1 2 rfl (by kernel_rfl) rfl ?_
    refine e' rfl ?_
    refine st1 3 rfl (by kernel_rfl) rfl ?_
    refine gq [0] ((ih0 _ _ hx5).ok) rfl (n' ?_)
    refine st1 4 rfl (by kernel_rfl) rfl ?_
    refine C0.be hC rfl (B0.rows_map [x1.1,x3.1,x5.1]).symm (n' ?_)
    refine st1 5 rfl (by kernel_rfl) rfl ?_
    refine e' rfl ?_
    refine st1 6 rfl (by kernel_rfl) rfl ?_
    refine C0.s hC rfl (n' (V0.nil (by kernel_rfl) (re' ?_)))
    have hq:=oi' hh
    subst hq
    exact ⟨_,.agg [.d (.int .i64 23),.d (.int .i64 0),.d (.str []),.d (.sl (B0.rows [x1.1,x3.1,x5.1]))],[.row (A0.cells x5.2) 112],rfl,(.aggL ⟨.rfl,.rfl,.rfl,.full,trivial⟩),⟨⟨rfl,.refl _,rfl⟩,trivial⟩,rfl,rfl,rpq rfl rfl⟩
   ·refine e' rfl ?_
    refine st2 0 3 rfl (by kernel_rfl) rfl rfl ?_ ?_
    ·refine e' rfl ?_
     refine st1 3 rfl (by kernel_rfl) rfl ?_
     refine gq [0] ((ih0 _ _ hx5).ok) rfl (n' ?_)
     refine st1 4 rfl (by kernel_rfl) rfl ?_
     refine C0.be hC rfl (B0.rows_map [x1.1,x3.1,x5.1]).symm (n' ?_)
     refine st1 5 rfl (by kernel_rfl) rfl ?_
     refine e' rfl ?_
     refine st1 6 rfl (by kernel_rfl) rfl ?_
     refine C0.s hC rfl (n' (V0.nil (by kernel_rfl) (re' ?_)))
     have hq:=oi' hh
     subst hq
     exact ⟨_,.agg [.d (.int .i64 23),.d (.int .i64 0),.d (.str []),.d (.sl (B0.rows [x1.1,x3.1,x5.1]))],[.row (A0.cells x5.2) 112],rfl,(.aggL ⟨.rfl,.rfl,.rfl,.full,trivial⟩),⟨⟨rfl,.refl _,rfl⟩,trivial⟩,rfl,rfl,rpq rfl rfl⟩
    ·refine gq [0] ((ih0 _ _ hx5).ok) rfl (n' ?_)
     refine st1 0 rfl (by kernel_rfl) rfl ?_
     refine e' rfl ?_
     refine st1 4 rfl (by kernel_rfl) rfl ?_
     refine C0.be hC rfl (B0.rows_map [x1.1,x3.1,x5.1]).symm (n' ?_)
     refine st1 5 rfl (by kernel_rfl) rfl ?_
     refine e' rfl ?_
     refine st1 6 rfl (by kernel_rfl) rfl ?_
     refine C0.s hC rfl (n' (V0.nil (by kernel_rfl) (re' ?_)))
     have hq:=oi' hh
     subst hq
     exact ⟨_,.agg [.d (.int .i64 23),.d (.int .i64 0),.d (.str []),.d (.sl (B0.rows [x1.1,x3.1,x5.1]))],[.row (A0.cells x5.2) 112],rfl,(.aggL ⟨.rfl,.rfl,.rfl,.full,trivial⟩),⟨⟨rfl,.refl _,rfl⟩,trivial⟩,rfl,rfl,rpq rfl rfl⟩
  ·refine e' rfl ?_
   refine V0.step rfl (j0:=0) (js:=[1,3]) (by kernel_rfl) ⟨⟨_,rfl,?_⟩,⟨_,rfl,?_⟩,⟨_,rfl,?_⟩,trivial⟩
   ·refine e' rfl ?_
    refine st2 1 3 rfl (by kernel_rfl) rfl rfl ?_ ?_
    ·refine e' rfl ?_
     refine st1 3 rfl (by kernel_rfl) rfl ?_
     refine gq [0] ((ih0 _ _ hx5).ok) rfl (n' ?_)
     refine st1 4 rfl (by kernel_rfl) rfl ?_
     refine C0.be hC rfl (B0.rows_map [x1.1,x3.1,x5.1]).symm (n' ?_)
     refine st1 5 rfl (by kernel_rfl) rfl ?_
     refine e' rfl ?_
     refine st1 6 rfl (by kernel_rfl) rfl ?_
     refine C0.s hC rfl (n' (V0.nil (by kernel_rfl) (re' ?_)))
     have hq:=oi' hh
     subst hq
     exact ⟨_,.agg [.d (.int .i64 23),.d (.int .i64 0),.d (.str []),.d (.sl (B0.rows [x1.1,x3.1,x5.1]))],[.row (A0.cells x5.2) 112],rfl,(.aggL ⟨.rfl,.rfl,.rfl,.full,trivial⟩),⟨⟨rfl,.refl _,rfl⟩,trivial⟩,rfl,rfl,rpq rfl rfl⟩
    ·refine gq [0] ((ih0 _ _ hx5).ok) rfl (n' ?_)
     refine st1 1 rfl (by kernel_rfl) rfl ?_
     refine e' rfl ?_
     refine st1 4 rfl (by kernel_rfl) rfl ?_
     refine C0.be hC rfl (B0.rows_map [x1.1,x3.1,x5.1]).symm (n' ?_)
     refine st1 5 rfl (by kernel_rfl) rfl ?_
     refine e' rfl ?_
     refine st1 6 rfl (by kernel_rfl) rfl ?_
     refine C0.s hC rfl (n' (V0.nil (by kernel_rfl) (re' ?_)))
     have hq:=oi' hh
     subst hq
     exact ⟨_,.agg [.d (.int .i64 23),.d (.int .i64 0),.d (.str []),.d (.sl (B0.rows [x1.1,x3.1,x5.1]))],[.row (A0.cells x5.2) 112],rfl,(.aggL ⟨.rfl,.rfl,.rfl,.full,trivial⟩),⟨⟨rfl,.refl _,rfl⟩,trivial⟩,rfl,rfl,rpq rfl rfl⟩
   ·refine e' rfl ?_
    refine st2 0 3 rfl (by kernel_rfl) rfl rfl ?_ ?_
    ·refine e' rfl ?_
     refine st1 3 rfl (by kernel_rfl) rfl ?_
     refine gq [0] ((ih0 _ _ hx5).ok) rfl (n' ?_)
     refine st1 4 rfl (by kernel_rfl) rfl ?_
     refine C0.be hC rfl (B0.rows_map [x1.1,x3.1,x5.1]).symm (n' ?_)
     refine st1 5 rfl (by kernel_rfl) rfl ?_
     refine e' rfl ?_
     refine st1 6 rfl (by kernel_rfl) rfl ?_
     refine C0.s hC rfl (n' (V0.nil (by kernel_rfl) (re' ?_)))
     have hq:=oi' hh
     subst hq
     exact ⟨_,.agg [.d (.int .i64 23),.d (.int .i64 0),.d (.str []),.d (.sl (B0.rows [x1.1,x3.1,x5.1]))],[.row (A0.cells x5.2) 112],rfl,(.aggL ⟨.rfl,.rfl,.rfl,.full,trivial⟩),⟨⟨rfl,.refl _,rfl⟩,trivial⟩,rfl,rfl,rpq rfl rfl⟩
    ·refine gq [0] ((ih0 _ _ hx5).ok) rfl (n' ?_)
     refine st1 0 rfl (by kernel_rfl) rfl ?_
     refine e' rfl ?_
     refine st1 4 rfl (by kernel_rfl) rfl ?_
     refine C0.be hC rfl (B0.rows_map [x1.1,x3.1,x5.1]).symm (n' ?_)
     refine st1 5 rfl (by kernel_rfl) rfl ?_
     refine e' rfl ?_
     refine st1 6 rfl (by kernel_rfl) rfl ?_
     refine C0.s hC rfl (n' (V0.nil (by kernel_rfl) (re' ?_)))
     have hq:=oi' hh
     subst hq
     exact ⟨_,.agg [.d (.int .i64 23),.d (.int .i64 0),.d (.str []),.d (.sl (B0.rows [x1.1,x3.1,x5.1]))],[.row (A0.cells x5.2) 112],rfl,(.aggL ⟨.rfl,.rfl,.rfl,.full,trivial⟩),⟨⟨rfl,.refl _,rfl⟩,trivial⟩,rfl,rfl,rpq rfl rfl⟩
   ·refine gq [0] ((ih0 _ _ hx5).ok) rfl (n' ?_)
    refine st2 0 1 rfl (by kernel_rfl) rfl rfl ?_ ?_
    ·refine e' rfl ?_
     refine st1 1 rfl (by kernel_rfl) rfl ?_
     refine e' rfl ?_
     refine st1 4 rfl (by kernel_rfl) rfl ?_
     refine C0.be hC rfl (B0.rows_map [x1.1,x3.1,x5.1]).symm (n' ?_)
     refine st1 5 rfl (by kernel_rfl) rfl ?_
     refine e' rfl ?_
     refine st1 6 rfl (by kernel_rfl) rfl ?_
     refine C0.s hC rfl (n' (V0.nil (by kernel_rfl) (re' ?_)))
     have hq:=oi' hh
     subst hq
     exact ⟨_,.agg [.d (.int .i64 23),.d (.int .i64 0),.d (.str []),.d (.sl (B0.rows [x1.1,x3.1,x5.1]))],[.row (A0.cells x5.2) 112],rfl,(.aggL ⟨.rfl,.rfl,.rfl,.full,trivial⟩),⟨⟨rfl,.refl _,rfl⟩,trivial⟩,rfl,rfl,rpq rfl rfl⟩
    ·refine e' rfl ?_
     refine st1 0 rfl (by kernel_rfl) rfl ?_
     refine e' rfl ?_
     refine st1 4 rfl (by kernel_rfl) rfl ?_
     refine C0.be hC rfl (B0.rows_map [x1.1,x3.1,x5.1]).symm (n' ?_)
     refine st1 5 rfl (by kernel_rfl) rfl ?_
     refine e' rfl ?_
     refine st1 6 rfl (by kernel_rfl) rfl ?_
     refine C0.s hC rfl (n' (V0.nil (by kernel_rfl) (re' ?_)))
     have hq:=oi' hh
     subst hq
     exact ⟨_,.agg [.d (.int .i64 23),.d (.int .i64 0),.d (.str []),.d (.sl (B0.rows [x1.1,x3.1,x5.1]))],[.row (A0.cells x5.2) 112],rfl,(.aggL ⟨.rfl,.rfl,.rfl,.full,trivial⟩),⟨⟨rfl,.refl _,rfl⟩,trivial⟩,rfl,rfl,rpq rfl rfl⟩
 ·intro g2 ih2 parserParser res hh
  refine I2.intro hC Tryz.func161 rfl rfl rfl (s' rfl rfl (C0.n hC rfl (C0.nf hC rfl (n' (p' 4 rfl ?_)))))
  rcases bp' hh with ⟨nn,hx1,⟨⟩⟩ | ⟨x1,hx1,hh⟩
  ·exact gr [0,1] (ih2 _ _ hx1) rfl (peW ⟨trivial,trivial⟩ rfl)
  cases hh
  exact gq [0,1] ((ih2 _ _ hx1).ok) rfl (C0.s hC rfl (n' (re' (rq rfl))))
 ·intro g3 g4 ih3 ih4 parserParser res hh
  refine I2.intro hC Tryz.func201 rfl rfl rfl (s' rfl rfl (C0.nf hC rfl (n' (p' 1 rfl ?_))))
  rcases bp' hh with ⟨nn,hx1,⟨⟩⟩ | ⟨x1,hx1,hh⟩
  ·exact gr [0] (ih4 _ _ hx1) rfl (fun hi=>peW ⟨trivial,⟨rfl,.refl _,rfl⟩,trivial⟩ rfl hi)
  exact gq [0] ((ih4 _ _ hx1).ok) rfl (C0.nf hC rfl (C0.s hC rfl (n' (bk' (fq (ih3 _ _ _ hh) rfl)))))
 ·intro g3 g4 ih3 ih4 o0 o3 res hh
  obtain ⟨x2,hx2,hh⟩:=bs' hh
  refine F1.unroll (bk' (p' 1 rfl (gq [1,0] (Fu hx2) rfl (e' rfl (S' (t' rfl (ci' rfl hh (fun hh=>?_) (fun hh=>?_))))))))
  ·cases hh
   exact p' 1 rfl (C0.s hC rfl (n' (re' (rq rfl))))
  refine sk' ?_
  rcases bp' hh with ⟨nn,hx3,⟨⟩⟩ | ⟨x3,hx3,hh⟩
  ·refine AEx.drawE hC ?_
   refine V0.step rfl (j0:=0) (js:=[1,2]) (by kernel_rfl) ⟨⟨_,rfl,?_⟩,⟨_,rfl,?_⟩,⟨_,rfl,?_⟩,trivial⟩
   ·refine e' rfl ?_
    refine st2 1 2 rfl (by kernel_rfl) rfl rfl ?_ ?_
    ·refine e' rfl ?_
     refine st1 2 rfl (by kernel_rfl) rfl ?_
     refine e' rfl ?_
     refine st1 3 rfl (by kernel_rfl) rfl ?_
     exact gr [0] (ih4 _ _ hx3) rfl (fun hi=>peW ⟨trivial,⟨rfl,.refl _,rfl⟩,trivial⟩ rfl hi)
    ·refine e' rfl ?_
     refine st2 1 3 rfl (by kernel_rfl) rfl rfl ?_ ?_
     ·refine e' rfl ?_
      refine st1 3 rfl (by kernel_rfl) rfl ?_
      exact gr [0] (ih4 _ _ hx3) rfl (fun hi=>peW ⟨trivial,⟨rfl,.refl _,rfl⟩,trivial⟩ rfl hi)
     ·exact gr [0] (ih4 _ _ hx3) rfl (fun hi=>peW ⟨trivial,⟨rfl,.refl _,rfl⟩,trivial⟩ rfl hi)
   ·refine e' rfl ?_
    refine st2 0 2 rfl (by kernel_rfl) rfl rfl ?_ ?_
    ·refine e' rfl ?_
     refine st1 2 rfl (by kernel_rfl) rfl ?_
     refine e' rfl ?_
     refine st1 3 rfl (by kernel_rfl) rfl ?_
     exact gr [0] (ih4 _ _ hx3) rfl (fun hi=>peW ⟨trivial,⟨rfl,.refl _,rfl⟩,trivial⟩ rfl hi)
    ·refine e' rfl ?_
     refine st2 0 3 rfl (by kernel_rfl) rfl rfl ?_ ?_
     ·refine e' rfl ?_
      refine st1 3 rfl (by kernel_rfl) rfl ?_
      exact gr [0] (ih4 _ _ hx3) rfl (fun hi=>peW ⟨trivial,⟨rfl,.refl _,rfl⟩,trivial⟩ rfl hi)
     ·exact gr [0] (ih4 _ _ hx3) rfl (fun hi=>peW ⟨trivial,⟨rfl,.refl _,rfl⟩,trivial⟩ rfl hi)
   ·refine e' rfl ?_
    refine V0.step rfl (j0:=0) (js:=[1,3]) (by kernel_rfl) ⟨⟨_,rfl,?_⟩,⟨_,rfl,?_⟩,⟨_,rfl,?_⟩,trivial⟩
    ·refine e' rfl ?_
     refine st2 1 3 rfl (by kernel_rfl) rfl rfl ?_ ?_
     ·refine e' rfl ?_
      refine st1 3 rfl (by kernel_rfl) rfl ?_
      exact gr [0] (ih4 _ _ hx3) rfl (fun hi=>peW ⟨trivial,⟨rfl,.refl _,rfl⟩,trivial⟩ rfl hi)
     ·exact gr [0] (ih4 _ _ hx3) rfl (fun hi=>peW ⟨trivial,⟨rfl,.refl _,rfl⟩,trivial⟩ rfl hi)
    ·refine e' rfl ?_
     refine st2 0 3 rfl (by kernel_rfl) rfl rfl ?_ ?_
     ·refine e' rfl ?_
      refine st1 3 rfl (by kernel_rfl) rfl ?_
      exact gr [0] (ih4 _ _ hx3) rfl (fun hi=>peW ⟨trivial,⟨rfl,.refl _,rfl⟩,trivial⟩ rfl hi)
     ·exact gr [0] (ih4 _ _ hx3) rfl (fun hi=>peW ⟨trivial,⟨rfl,.refl _,rfl⟩,trivial⟩ rfl hi)
    ·exact gr [0] (ih4 _ _ hx3) rfl (fun hi=>peW ⟨trivial,⟨rfl,.refl _,rfl⟩,trivial⟩ rfl hi)
  refine AEx.drawE hC ?_
  refine V0.step rfl (j0:=0) (js:=[1,2]) (by kernel_rfl) ⟨⟨_,rfl,?_⟩,⟨_,rfl,?_⟩,⟨_,rfl,?_⟩,trivial⟩
  ·refine e' rfl ?_
   refine st2 1 2 rfl (by kernel_rfl) rfl rfl ?_ ?_
   ·refine e' rfl ?_
    refine st1 2 rfl (by kernel_rfl) rfl ?_
    refine e' rfl ?_
    refine st1 3 rfl (by kernel_rfl) rfl ?_
    refine gq [0] ((ih4 _ _ hx3).ok) rfl (n' ?_)
    refine st1 4 rfl (by kernel_rfl) rfl ?_
    refine C0.be hC rfl (B0.rows_map [o3,x3.1]).symm (n' ?_)
    refine st1 5 rfl (by kernel_rfl) rfl ?_
    refine e' rfl ?_
    refine st1 6 rfl (by kernel_rfl) rfl ?_
    refine C0.s hC rfl (n' (V0.nil (by kernel_rfl) ?_))
    refine F1.wk ?_ (ih3 _ _ _ hh)
    exact ⟨⟨⟨.rfl,rfl⟩,⟨.rfl,rfl⟩,⟨.rfl,rfl⟩,⟨.rfl,rfl⟩,trivial⟩,⟨⟨rfl,.refl _,rfl⟩,⟨rfl,.refl _,rfl⟩,⟨rfl,.refl _,rfl⟩,⟨rfl,⟨.rfl,.rfl,.rfl,.full,trivial⟩,rfl⟩,trivial⟩,rfl⟩
   ·refine e' rfl ?_
    refine st2 1 3 rfl (by kernel_rfl) rfl rfl ?_ ?_
    ·refine e' rfl ?_
     refine st1 3 rfl (by kernel_rfl) rfl ?_
     refine gq [0] ((ih4 _ _ hx3).ok) rfl (n' ?_)
     refine st1 4 rfl (by kernel_rfl) rfl ?_
     refine C0.be hC rfl (B0.rows_map [o3,x3.1]).symm (n' ?_)
     refine st1 5 rfl (by kernel_rfl) rfl ?_
     refine e' rfl ?_
     refine st1 6 rfl (by kernel_rfl) rfl ?_
     refine C0.s hC rfl (n' (V0.nil (by kernel_rfl) ?_))
     refine F1.wk ?_ (ih3 _ _ _ hh)
     exact ⟨⟨⟨.rfl,rfl⟩,⟨.rfl,rfl⟩,⟨.rfl,rfl⟩,⟨.rfl,rfl⟩,trivial⟩,⟨⟨rfl,.refl _,rfl⟩,⟨rfl,.refl _,rfl⟩,⟨rfl,.refl _,rfl⟩,⟨rfl,⟨.rfl,.rfl,.rfl,.full,trivial⟩,rfl⟩,trivial⟩,rfl⟩
    ·refine gq [0] ((ih4 _ _ hx3).ok) rfl (n' ?_)
     refine st1 1 rfl (by kernel_rfl) rfl ?_
     refine e' rfl ?_
     refine st1 4 rfl (by kernel_rfl) rfl ?_
     refine C0.be hC rfl (B0.rows_map [o3,x3.1]).symm (n' ?_)
     refine st1 5 rfl (by kernel_rfl) rfl ?_
     refine e' rfl ?_
     refine st1 6 rfl (by kernel_rfl) rfl ?_
     refine C0.s hC rfl (n' (V0.nil (by kernel_rfl) ?_))
     refine F1.wk ?_ (ih3 _ _ _ hh)
     exact ⟨⟨⟨.rfl,rfl⟩,⟨.rfl,rfl⟩,⟨.rfl,rfl⟩,⟨.rfl,rfl⟩,trivial⟩,⟨⟨rfl,.refl _,rfl⟩,⟨rfl,.refl _,rfl⟩,⟨rfl,.refl _,rfl⟩,⟨rfl,⟨.rfl,.rfl,.rfl,.full,trivial⟩,rfl⟩,trivial⟩,rfl⟩
  ·refine e' rfl ?_
   refine st2 0 2 rfl (by kernel_rfl) rfl rfl ?_ ?_
   ·refine e' rfl ?_
    refine st1 2 rfl (by kernel_rfl) rfl ?_
    refine e' rfl ?_
    refine st1 3 rfl (by kernel_rfl) rfl ?_
    refine gq [0] ((ih4 _ _ hx3).ok) rfl (n' ?_)
    refine st1 4 rfl (by kernel_rfl) rfl ?_
    refine C0.be hC rfl (B0.rows_map [o3,x3.1]).symm (n' ?_)
    refine st1 5 rfl (by kernel_rfl) rfl ?_
    refine e' rfl ?_
    refine st1 6 rfl (by kernel_rfl) rfl ?_
    refine C0.s hC rfl (n' (V0.nil (by kernel_rfl) ?_))
    refine F1.wk ?_ (ih3 _ _ _ hh)
    exact ⟨⟨⟨.rfl,rfl⟩,⟨.rfl,rfl⟩,⟨.rfl,rfl⟩,⟨.rfl,rfl⟩,trivial⟩,⟨⟨rfl,.refl _,rfl⟩,⟨rfl,.refl _,rfl⟩,⟨rfl,.refl _,rfl⟩,⟨rfl,⟨.rfl,.rfl,.rfl,.full,trivial⟩,rfl⟩,trivial⟩,rfl⟩
   ·refine e' rfl ?_
    refine st2 0 3 rfl (by kernel_rfl) rfl rfl ?_ ?_
    ·refine e' rfl ?_
     refine st1 3 rfl (by kernel_rfl) rfl ?_
     refine gq [0] ((ih4 _ _ hx3).ok) rfl (n' ?_)
     refine st1 4 rfl (by kernel_rfl) rfl ?_
     refine C0.be hC rfl (B0.rows_map [o3,x3.1]).symm (n' ?_)
     refine st1 5 rfl (by kernel_rfl) rfl ?_
     refine e' rfl ?_
     refine st1 6 rfl (by kernel_rfl) rfl ?_
     refine C0.s hC rfl (n' (V0.nil (by kernel_rfl) ?_))
     refine F1.wk ?_ (ih3 _ _ _ hh)
     exact ⟨⟨⟨.rfl,rfl⟩,⟨.rfl,rfl⟩,⟨.rfl,rfl⟩,⟨.rfl,rfl⟩,trivial⟩,⟨⟨rfl,.refl _,rfl⟩,⟨rfl,.refl _,rfl⟩,⟨rfl,.refl _,rfl⟩,⟨rfl,⟨.rfl,.rfl,.rfl,.full,trivial⟩,rfl⟩,trivial⟩,rfl⟩
    ·refine gq [0] ((ih4 _ _ hx3).ok) rfl (n' ?_)
     refine st2 0 4 rfl (by kernel_rfl) rfl rfl ?_ ?_
     ·refine e' rfl ?_
      refine st1 4 rfl (by kernel_rfl) rfl ?_
      refine C0.be hC rfl (B0.rows_map [o3,x3.1]).symm (n' ?_)
      refine st1 5 rfl (by kernel_rfl) rfl ?_
      refine e' rfl ?_
      refine st1 6 rfl (by kernel_rfl) rfl ?_
      refine C0.s hC rfl (n' (V0.nil (by kernel_rfl) ?_))
      refine F1.wk ?_ (ih3 _ _ _ hh)
      exact ⟨⟨⟨.rfl,rfl⟩,⟨.rfl,rfl⟩,⟨.rfl,rfl⟩,⟨.rfl,rfl⟩,trivial⟩,⟨⟨rfl,.refl _,rfl⟩,⟨rfl,.refl _,rfl⟩,⟨rfl,.refl _,rfl⟩,⟨rfl,⟨.rfl,.rfl,.rfl,.full,trivial⟩,rfl⟩,trivial⟩,rfl⟩
     ·refine C0.be hC rfl (B0.rows_map [o3,x3.1]).symm (n' ?_)
      refine st1 0 rfl (by kernel_rfl) rfl ?_
      refine e' rfl ?_
      refine st1 5 rfl (by kernel_rfl) rfl ?_
      refine e' rfl ?_
      refine st1 6 rfl (by kernel_rfl) rfl ?_
      refine C0.s hC rfl (n' (V0.nil (by kernel_rfl) ?_))
      refine F1.wk ?_ (ih3 _ _ _ hh)
      exact ⟨⟨⟨.rfl,rfl⟩,⟨.rfl,rfl⟩,⟨.rfl,rfl⟩,⟨.rfl,rfl⟩,trivial⟩,⟨⟨rfl,.refl _,rfl⟩,⟨rfl,.refl _,rfl⟩,⟨rfl,.refl _,rfl⟩,⟨rfl,⟨.rfl,.rfl,.rfl,.full,trivial⟩,rfl⟩,trivial⟩,rfl⟩
  ·refine e' rfl ?_
   refine V0.step rfl (j0:=0) (js:=[1,3]) (by kernel_rfl) ⟨⟨_,rfl,?_⟩,⟨_,rfl,?_⟩,⟨_,rfl,?_⟩,trivial⟩
   ·refine e' rfl ?_
    refine st2 1 3 rfl (by kernel_rfl) rfl rfl ?_ ?_
    ·refine e' rfl ?_
     refine st1 3 rfl (by kernel_rfl) rfl ?_
     refine gq [0] ((ih4 _ _ hx3).ok) rfl (n' ?_)
     refine st1 4 rfl (by kernel_rfl) rfl ?_
     refine C0.be hC rfl (B0.rows_map [o3,x3.1]).symm (n' ?_)
     refine st1 5 rfl (by kernel_rfl) rfl ?_
     refine e' rfl ?_
     refine st1 6 rfl (by kernel_rfl) rfl ?_
     refine C0.s hC rfl (n' (V0.nil (by kernel_rfl) ?_))
     refine F1.wk ?_ (ih3 _ _ _ hh)
     exact ⟨⟨⟨.rfl,rfl⟩,⟨.rfl,rfl⟩,⟨.rfl,rfl⟩,⟨.rfl,rfl⟩,trivial⟩,⟨⟨rfl,.refl _,rfl⟩,⟨rfl,.refl _,rfl⟩,⟨rfl,.refl _,rfl⟩,⟨rfl,⟨.rfl,.rfl,.rfl,.full,trivial⟩,rfl⟩,trivial⟩,rfl⟩
    ·refine gq [0] ((ih4 _ _ hx3).ok) rfl (n' ?_)
     refine st1 1 rfl (by kernel_rfl) rfl ?_
     refine e' rfl ?_
     refine st1 4 rfl (by kernel_rfl) rfl ?_
     refine C0.be hC rfl (B0.rows_map [o3,x3.1]).symm (n' ?_)
     refine st1 5 rfl (by kernel_rfl) rfl ?_
     refine e' rfl ?_
     refine st1 6 rfl (by kernel_rfl) rfl ?_
     refine C0.s hC rfl (n' (V0.nil (by kernel_rfl) ?_))
     refine F1.wk ?_ (ih3 _ _ _ hh)
     exact ⟨⟨⟨.rfl,rfl⟩,⟨.rfl,rfl⟩,⟨.rfl,rfl⟩,⟨.rfl,rfl⟩,trivial⟩,⟨⟨rfl,.refl _,rfl⟩,⟨rfl,.refl _,rfl⟩,⟨rfl,.refl _,rfl⟩,⟨rfl,⟨.rfl,.rfl,.rfl,.full,trivial⟩,rfl⟩,trivial⟩,rfl⟩
   ·refine e' rfl ?_
    refine st2 0 3 rfl (by kernel_rfl) rfl rfl ?_ ?_
    ·refine e' rfl ?_
     refine st1 3 rfl (by kernel_rfl) rfl ?_
     refine gq [0] ((ih4 _ _ hx3).ok) rfl (n' ?_)
     refine st1 4 rfl (by kernel_rfl) rfl ?_
     refine C0.be hC rfl (B0.rows_map [o3,x3.1]).symm (n' ?_)
     refine st1 5 rfl (by kernel_rfl) rfl ?_
     refine e' rfl ?_
     refine st1 6 rfl (by kernel_rfl) rfl ?_
     refine C0.s hC rfl (n' (V0.nil (by kernel_rfl) ?_))
     refine F1.wk ?_ (ih3 _ _ _ hh)
     exact ⟨⟨⟨.rfl,rfl⟩,⟨.rfl,rfl⟩,⟨.rfl,rfl⟩,⟨.rfl,rfl⟩,trivial⟩,⟨⟨rfl,.refl _,rfl⟩,⟨rfl,.refl _,rfl⟩,⟨rfl,.refl _,rfl⟩,⟨rfl,⟨.rfl,.rfl,.rfl,.full,trivial⟩,rfl⟩,trivial⟩,rfl⟩
    ·refine gq [0] ((ih4 _ _ hx3).ok) rfl (n' ?_)
     refine st2 0 4 rfl (by kernel_rfl) rfl rfl ?_ ?_
     ·refine e' rfl ?_
      refine st1 4 rfl (by kernel_rfl) rfl ?_
      refine C0.be hC rfl (B0.rows_map [o3,x3.1]).symm (n' ?_)
      refine st1 5 rfl (by kernel_rfl) rfl ?_
      refine e' rfl ?_
      refine st1 6 rfl (by kernel_rfl) rfl ?_
      refine C0.s hC rfl (n' (V0.nil (by kernel_rfl) ?_))
      refine F1.wk ?_ (ih3 _ _ _ hh)
      exact ⟨⟨⟨.rfl,rfl⟩,⟨.rfl,rfl⟩,⟨.rfl,rfl⟩,⟨.rfl,rfl⟩,trivial⟩,⟨⟨rfl,.refl _,rfl⟩,⟨rfl,.refl _,rfl⟩,⟨rfl,.refl _,rfl⟩,⟨rfl,⟨.rfl,.rfl,.rfl,.full,trivial⟩,rfl⟩,trivial⟩,rfl⟩
     ·refine C0.be hC rfl (B0.rows_map [o3,x3.1]).symm (n' ?_)
      refine st1 0 rfl (by kernel_rfl) rfl ?_
      refine e' rfl ?_
      refine st1 5 rfl (by kernel_rfl) rfl ?_
      refine e' rfl ?_
      refine st1 6 rfl (by kernel_rfl) rfl ?_
      refine C0.s hC rfl (n' (V0.nil (by kernel_rfl) ?_))
      refine F1.wk ?_ (ih3 _ _ _ hh)
      exact ⟨⟨⟨.rfl,rfl⟩,⟨.rfl,rfl⟩,⟨.rfl,rfl⟩,⟨.rfl,rfl⟩,trivial⟩,⟨⟨rfl,.refl _,rfl⟩,⟨rfl,.refl _,rfl⟩,⟨rfl,.refl _,rfl⟩,⟨rfl,⟨.rfl,.rfl,.rfl,.full,trivial⟩,rfl⟩,trivial⟩,rfl⟩
   ·refine gq [0] ((ih4 _ _ hx3).ok) rfl (n' ?_)
    refine st2 0 1 rfl (by kernel_rfl) rfl rfl ?_ ?_
    ·refine e' rfl ?_
     refine st1 1 rfl (by kernel_rfl) rfl ?_
     refine e' rfl ?_
     refine st1 4 rfl (by kernel_rfl) rfl ?_
     refine C0.be hC rfl (B0.rows_map [o3,x3.1]).symm (n' ?_)
     refine st1 5 rfl (by kernel_rfl) rfl ?_
     refine e' rfl ?_
     refine st1 6 rfl (by kernel_rfl) rfl ?_
     refine C0.s hC rfl (n' (V0.nil (by kernel_rfl) ?_))
     refine F1.wk ?_ (ih3 _ _ _ hh)
     exact ⟨⟨⟨.rfl,rfl⟩,⟨.rfl,rfl⟩,⟨.rfl,rfl⟩,⟨.rfl,rfl⟩,trivial⟩,⟨⟨rfl,.refl _,rfl⟩,⟨rfl,.refl _,rfl⟩,⟨rfl,.refl _,rfl⟩,⟨rfl,⟨.rfl,.rfl,.rfl,.full,trivial⟩,rfl⟩,trivial⟩,rfl⟩
    ·refine e' rfl ?_
     refine st2 0 4 rfl (by kernel_rfl) rfl rfl ?_ ?_
     ·refine e' rfl ?_
      refine st1 4 rfl (by kernel_rfl) rfl ?_
      refine C0.be hC rfl (B0.rows_map [o3,x3.1]).symm (n' ?_)
      refine st1 5 rfl (by kernel_rfl) rfl ?_
      refine e' rfl ?_
      refine st1 6 rfl (by kernel_rfl) rfl ?_
      refine C0.s hC rfl (n' (V0.nil (by kernel_rfl) ?_))
      refine F1.wk ?_ (ih3 _ _ _ hh)
      exact ⟨⟨⟨.rfl,rfl⟩,⟨.rfl,rfl⟩,⟨.rfl,rfl⟩,⟨.rfl,rfl⟩,trivial⟩,⟨⟨rfl,.refl _,rfl⟩,⟨rfl,.refl _,rfl⟩,⟨rfl,.refl _,rfl⟩,⟨rfl,⟨.rfl,.rfl,.rfl,.full,trivial⟩,rfl⟩,trivial⟩,rfl⟩
     ·refine C0.be hC rfl (B0.rows_map [o3,x3.1]).symm (n' ?_)
      refine st1 0 rfl (by kernel_rfl) rfl ?_
      refine e' rfl ?_
      refine st1 5 rfl (by kernel_rfl) rfl ?_
      refine e' rfl ?_
      refine st1 6 rfl (by kernel_rfl) rfl ?_
      refine C0.s hC rfl (n' (V0.nil (by kernel_rfl) ?_))
      refine F1.wk ?_ (ih3 _ _ _ hh)
      exact ⟨⟨⟨.rfl,rfl⟩,⟨.rfl,rfl⟩,⟨.rfl,rfl⟩,⟨.rfl,rfl⟩,trivial⟩,⟨⟨rfl,.refl _,rfl⟩,⟨rfl,.refl _,rfl⟩,⟨rfl,.refl _,rfl⟩,⟨rfl,⟨.rfl,.rfl,.rfl,.full,trivial⟩,rfl⟩,trivial⟩,rfl⟩
 ·intro g5 ih5 parserParser res hh
  refine I2.intro hC Tryz.func202 rfl rfl rfl (s' rfl rfl (C0.n hC rfl (C0.nf hC rfl (n' (p' 4 rfl ?_)))))
  rcases bp' hh with ⟨nn,hx1,⟨⟩⟩ | ⟨x1,hx1,hh⟩
  ·exact gr [0,1] (ih5 _ _ hx1) rfl (peW ⟨trivial,trivial⟩ rfl)
  cases hh
  exact gq [0,1] ((ih5 _ _ hx1).ok) rfl (C0.s hC rfl (n' (re' (rq rfl))))
 ·intro g6 g7 ih6 ih7 parserParser res hh
  refine I2.intro hC Tryz.func201 rfl rfl rfl (s' rfl rfl (C0.nf hC rfl (n' (p' 1 rfl ?_))))
  rcases bp' hh with ⟨nn,hx1,⟨⟩⟩ | ⟨x1,hx1,hh⟩
  ·exact gr [0] (ih7 _ _ hx1) rfl (fun hi=>peW ⟨trivial,⟨rfl,.refl _,rfl⟩,trivial⟩ rfl hi)
  exact gq [0] ((ih7 _ _ hx1).ok) rfl (C0.nf hC rfl (C0.s hC rfl (n' (bk' (fq (ih6 _ _ _ hh) rfl)))))
 ·intro g6 g7 ih6 ih7 o0 o3 res hh
  obtain ⟨x2,hx2,hh⟩:=bs' hh
  refine F1.unroll (bk' (p' 1 rfl (gq [1,0] (Ts hx2) rfl (e' rfl (S' (t' rfl (ci' rfl hh (fun hh=>?_) (fun hh=>?_))))))))
  ·cases hh
   exact p' 1 rfl (C0.s hC rfl (n' (re' (rq rfl))))
  refine sk' ?_
  rcases bp' hh with ⟨nn,hx3,⟨⟩⟩ | ⟨x3,hx3,hh⟩
  ·refine AEx.drawE hC ?_
   refine V0.step rfl (j0:=0) (js:=[1,2]) (by kernel_rfl) ⟨⟨_,rfl,?_⟩,⟨_,rfl,?_⟩,⟨_,rfl,?_⟩,trivial⟩
   ·refine e' rfl ?_
    refine st2 1 2 rfl (by kernel_rfl) rfl rfl ?_ ?_
    ·refine e' rfl ?_
     refine st1 2 rfl (by kernel_rfl) rfl ?_
     refine e' rfl ?_
     refine st1 3 rfl (by kernel_rfl) rfl ?_
     exact gr [0] (ih7 _ _ hx3) rfl (fun hi=>peW ⟨trivial,⟨rfl,.refl _,rfl⟩,trivial⟩ rfl hi)
    ·refine e' rfl ?_
     refine st2 1 3 rfl (by kernel_rfl) rfl rfl ?_ ?_
     ·refine e' rfl ?_
      refine st1 3 rfl (by kernel_rfl) rfl ?_
      exact gr [0] (ih7 _ _ hx3) rfl (fun hi=>peW ⟨trivial,⟨rfl,.refl _,rfl⟩,trivial⟩ rfl hi)
     ·exact gr [0] (ih7 _ _ hx3) rfl (fun hi=>peW ⟨trivial,⟨rfl,.refl _,rfl⟩,trivial⟩ rfl hi)
   ·refine e' rfl ?_
    refine st2 0 2 rfl (by kernel_rfl) rfl rfl ?_ ?_
    ·refine e' rfl ?_
     refine st1 2 rfl (by kernel_rfl) rfl ?_
     refine e' rfl ?_
     refine st1 3 rfl (by kernel_rfl) rfl ?_
     exact gr [0] (ih7 _ _ hx3) rfl (fun hi=>peW ⟨trivial,⟨rfl,.refl _,rfl⟩,trivial⟩ rfl hi)
    ·refine e' rfl ?_
     refine st2 0 3 rfl (by kernel_rfl) rfl rfl ?_ ?_
     ·refine e' rfl ?_
      refine st1 3 rfl (by kernel_rfl) rfl ?_
      exact gr [0] (ih7 _ _ hx3) rfl (fun hi=>peW ⟨trivial,⟨rfl,.refl _,rfl⟩,trivial⟩ rfl hi)
     ·exact gr [0] (ih7 _ _ hx3) rfl (fun hi=>peW ⟨trivial,⟨rfl,.refl _,rfl⟩,trivial⟩ rfl hi)
   ·refine e' rfl ?_
    refine V0.step rfl (j0:=0) (js:=[1,3]) (by kernel_rfl) ⟨⟨_,rfl,?_⟩,⟨_,rfl,?_⟩,⟨_,rfl,?_⟩,trivial⟩
    ·refine e' rfl ?_
     refine st2 1 3 rfl (by kernel_rfl) rfl rfl ?_ ?_
     ·refine e' rfl ?_
      refine st1 3 rfl (by kernel_rfl) rfl ?_
      exact gr [0] (ih7 _ _ hx3) rfl (fun hi=>peW ⟨trivial,⟨rfl,.refl _,rfl⟩,trivial⟩ rfl hi)
     ·exact gr [0] (ih7 _ _ hx3) rfl (fun hi=>peW ⟨trivial,⟨rfl,.refl _,rfl⟩,trivial⟩ rfl hi)
    ·refine e' rfl ?_
     refine st2 0 3 rfl (by kernel_rfl) rfl rfl ?_ ?_
     ·refine e' rfl ?_
      refine st1 3 rfl (by kernel_rfl) rfl ?_
      exact gr [0] (ih7 _ _ hx3) rfl (fun hi=>peW ⟨trivial,⟨rfl,.refl _,rfl⟩,trivial⟩ rfl hi)
     ·exact gr [0] (ih7 _ _ hx3) rfl (fun hi=>peW ⟨trivial,⟨rfl,.refl _,rfl⟩,trivial⟩ rfl hi)
    ·exact gr [0] (ih7 _ _ hx3) rfl (fun hi=>peW ⟨trivial,⟨rfl,.refl _,rfl⟩,trivial⟩ rfl hi)
  refine AEx.drawE hC ?_
  refine V0.step rfl (j0:=0) (js:=[1,2]) (by kernel_rfl) ⟨⟨_,rfl,?_⟩,⟨_,rfl,?_⟩,⟨_,rfl,?_⟩,trivial⟩
  ·refine e' rfl ?_
   refine st2 1 2 rfl (by kernel_rfl) rfl rfl ?_ ?_
   ·refine e' rfl ?_
    refine st1 2 rfl (by kernel_rfl) rfl ?_
    refine e' rfl ?_
    refine st1 3 rfl (by kernel_rfl) rfl ?_
    refine gq [0] ((ih7 _ _ hx3).ok) rfl (n' ?_)
    refine st1 4 rfl (by kernel_rfl) rfl ?_
    refine C0.be hC rfl (B0.rows_map [o3,x3.1]).symm (n' ?_)
    refine st1 5 rfl (by kernel_rfl) rfl ?_
    refine e' rfl ?_
    refine st1 6 rfl (by kernel_rfl) rfl ?_
    refine C0.s hC rfl (n' (V0.nil (by kernel_rfl) ?_))
    refine F1.wk ?_ (ih6 _ _ _ hh)
    exact ⟨⟨⟨.rfl,rfl⟩,⟨.rfl,rfl⟩,⟨.rfl,rfl⟩,⟨.rfl,rfl⟩,trivial⟩,⟨⟨rfl,.refl _,rfl⟩,⟨rfl,.refl _,rfl⟩,⟨rfl,.refl _,rfl⟩,⟨rfl,⟨.rfl,.rfl,.rfl,.full,trivial⟩,rfl⟩,trivial⟩,rfl⟩
   ·refine e' rfl ?_
    refine st2 1 3 rfl (by kernel_rfl) rfl rfl ?_ ?_
    ·refine e' rfl ?_
     refine st1 3 rfl (by kernel_rfl) rfl ?_
     refine gq [0] ((ih7 _ _ hx3).ok) rfl (n' ?_)
     refine st1 4 rfl (by kernel_rfl) rfl ?_
     refine C0.be hC rfl (B0.rows_map [o3,x3.1]).symm (n' ?_)
     refine st1 5 rfl (by kernel_rfl) rfl ?_
     refine e' rfl ?_
     refine st1 6 rfl (by kernel_rfl) rfl ?_
     refine C0.s hC rfl (n' (V0.nil (by kernel_rfl) ?_))
     refine F1.wk ?_ (ih6 _ _ _ hh)
     exact ⟨⟨⟨.rfl,rfl⟩,⟨.rfl,rfl⟩,⟨.rfl,rfl⟩,⟨.rfl,rfl⟩,trivial⟩,⟨⟨rfl,.refl _,rfl⟩,⟨rfl,.refl _,rfl⟩,⟨rfl,.refl _,rfl⟩,⟨rfl,⟨.rfl,.rfl,.rfl,.full,trivial⟩,rfl⟩,trivial⟩,rfl⟩
    ·refine gq [0] ((ih7 _ _ hx3).ok) rfl (n' ?_)
     refine st1 1 rfl (by kernel_rfl) rfl ?_
     refine e' rfl ?_
     refine st1 4 rfl (by kernel_rfl) rfl ?_
     refine C0.be hC rfl (B0.rows_map [o3,x3.1]).symm (n' ?_)
     refine st1 5 rfl (by kernel_rfl) rfl ?_
     refine e' rfl ?_
     refine st1 6 rfl (by kernel_rfl) rfl ?_
     refine C0.s hC rfl (n' (V0.nil (by kernel_rfl) ?_))
     refine F1.wk ?_ (ih6 _ _ _ hh)
     exact ⟨⟨⟨.rfl,rfl⟩,⟨.rfl,rfl⟩,⟨.rfl,rfl⟩,⟨.rfl,rfl⟩,trivial⟩,⟨⟨rfl,.refl _,rfl⟩,⟨rfl,.refl _,rfl⟩,⟨rfl,.refl _,rfl⟩,⟨rfl,⟨.rfl,.rfl,.rfl,.full,trivial⟩,rfl⟩,trivial⟩,rfl⟩
  ·refine e' rfl ?_
   refine st2 0 2 rfl (by kernel_rfl) rfl rfl ?_ ?_
   ·refine e' rfl ?_
    refine st1 2 rfl (by kernel_rfl) rfl ?_
    refine e' rfl ?_
    refine st1 3 rfl (by kernel_rfl) rfl ?_
    refine gq [0] ((ih7 _ _ hx3).ok) rfl (n' ?_)
    refine st1 4 rfl (by kernel_rfl) rfl ?_
    refine C0.be hC rfl (B0.rows_map [o3,x3.1]).symm (n' ?_)
    refine st1 5 rfl (by kernel_rfl) rfl ?_
    refine e' rfl ?_
    refine st1 6 rfl (by kernel_rfl) rfl ?_
    refine C0.s hC rfl (n' (V0.nil (by kernel_rfl) ?_))
    refine F1.wk ?_ (ih6 _ _ _ hh)
    exact ⟨⟨⟨.rfl,rfl⟩,⟨.rfl,rfl⟩,⟨.rfl,rfl⟩,⟨.rfl,rfl⟩,trivial⟩,⟨⟨rfl,.refl _,rfl⟩,⟨rfl,.refl _,rfl⟩,⟨rfl,.refl _,rfl⟩,⟨rfl,⟨.rfl,.rfl,.rfl,.full,trivial⟩,rfl⟩,trivial⟩,rfl⟩
   ·refine e' rfl ?_
    refine st2 0 3 rfl (by kernel_rfl) rfl rfl ?_ ?_
    ·refine e' rfl ?_
     refine st1 3 rfl (by kernel_rfl) rfl ?_
     refine gq [0] ((ih7 _ _ hx3).ok) rfl (n' ?_)
     refine st1 4 rfl (by kernel_rfl) rfl ?_
     refine C0.be hC rfl (B0.rows_map [o3,x3.1]).symm (n' ?_)
     refine st1 5 rfl (by kernel_rfl) rfl ?_
     refine e' rfl ?_
     refine st1 6 rfl (by kernel_rfl) rfl ?_
     refine C0.s hC rfl (n' (V0.nil (by kernel_rfl) ?_))
     refine F1.wk ?_ (ih6 _ _ _ hh)
     exact ⟨⟨⟨.rfl,rfl⟩,⟨.rfl,rfl⟩,⟨.rfl,rfl⟩,⟨.rfl,rfl⟩,trivial⟩,⟨⟨rfl,.refl _,rfl⟩,⟨rfl,.refl _,rfl⟩,⟨rfl,.refl _,rfl⟩,⟨rfl,⟨.rfl,.rfl,.rfl,.full,trivial⟩,rfl⟩,trivial⟩,rfl⟩
    ·refine gq [0] ((ih7 _ _ hx3).ok) rfl (n' ?_)
     refine st2 0 4 rfl (by kernel_rfl) rfl rfl ?_ ?_
     ·refine e' rfl ?_
      refine st1 4 rfl (by kernel_rfl) rfl ?_
      refine C0.be hC rfl (B0.rows_map [o3,x3.1]).symm (n' ?_)
      refine st1 5 rfl (by kernel_rfl) rfl ?_
      refine e' rfl ?_
      refine st1 6 rfl (by kernel_rfl) rfl ?_
      refine C0.s hC rfl (n' (V0.nil (by kernel_rfl) ?_))
      refine F1.wk ?_ (ih6 _ _ _ hh)
      exact ⟨⟨⟨.rfl,rfl⟩,⟨.rfl,rfl⟩,⟨.rfl,rfl⟩,⟨.rfl,rfl⟩,trivial⟩,⟨⟨rfl,.refl _,rfl⟩,⟨rfl,.refl _,rfl⟩,⟨rfl,.refl _,rfl⟩,⟨rfl,⟨.rfl,.rfl,.rfl,.full,trivial⟩,rfl⟩,trivial⟩,rfl⟩
     ·refine C0.be hC rfl (B0.rows_map [o3,x3.1]).symm (n' ?_)
      refine st1 0 rfl (by kernel_rfl) rfl ?_
      refine e' rfl ?_
      refine st1 5 rfl (by kernel_rfl) rfl ?_
      refine e' rfl ?_
      refine st1 6 rfl (by kernel_rfl) rfl ?_
      refine C0.s hC rfl (n' (V0.nil (by kernel_rfl) ?_))
      refine F1.wk ?_ (ih6 _ _ _ hh)
      exact ⟨⟨⟨.rfl,rfl⟩,⟨.rfl,rfl⟩,⟨.rfl,rfl⟩,⟨.rfl,rfl⟩,trivial⟩,⟨⟨rfl,.refl _,rfl⟩,⟨rfl,.refl _,rfl⟩,⟨rfl,.refl _,rfl⟩,⟨rfl,⟨.rfl,.rfl,.rfl,.full,trivial⟩,rfl⟩,trivial⟩,rfl⟩
  ·refine e' rfl ?_
   refine V0.step rfl (j0:=0) (js:=[1,3]) (by kernel_rfl) ⟨⟨_,rfl,?_⟩,⟨_,rfl,?_⟩,⟨_,rfl,?_⟩,trivial⟩
   ·refine e' rfl ?_
    refine st2 1 3 rfl (by kernel_rfl) rfl rfl ?_ ?_
    ·refine e' rfl ?_
     refine st1 3 rfl (by kernel_rfl) rfl ?_
     refine gq [0] ((ih7 _ _ hx3).ok) rfl (n' ?_)
     refine st1 4 rfl (by kernel_rfl) rfl ?_
     refine C0.be hC rfl (B0.rows_map [o3,x3.1]).symm (n' ?_)
     refine st1 5 rfl (by kernel_rfl) rfl ?_
     refine e' rfl ?_
     refine st1 6 rfl (by kernel_rfl) rfl ?_
     refine C0.s hC rfl (n' (V0.nil (by kernel_rfl) ?_))
     refine F1.wk ?_ (ih6 _ _ _ hh)
     exact ⟨⟨⟨.rfl,rfl⟩,⟨.rfl,rfl⟩,⟨.rfl,rfl⟩,⟨.rfl,rfl⟩,trivial⟩,⟨⟨rfl,.refl _,rfl⟩,⟨rfl,.refl _,rfl⟩,⟨rfl,.refl _,rfl⟩,⟨rfl,⟨.rfl,.rfl,.rfl,.full,trivial⟩,rfl⟩,trivial⟩,rfl⟩
    ·refine gq [0] ((ih7 _ _ hx3).ok) rfl (n' ?_)
     refine st1 1 rfl (by kernel_rfl) rfl ?_
     refine e' rfl ?_
     refine st1 4 rfl (by kernel_rfl) rfl ?_
     refine C0.be hC rfl (B0.rows_map [o3,x3.1]).symm (n' ?_)
     refine st1 5 rfl (by kernel_rfl) rfl ?_
     refine e' rfl ?_
     refine st1 6 rfl (by kernel_rfl) rfl ?_
     refine C0.s hC rfl (n' (V0.nil (by kernel_rfl) ?_))
     refine F1.wk ?_ (ih6 _ _ _ hh)
     exact ⟨⟨⟨.rfl,rfl⟩,⟨.rfl,rfl⟩,⟨.rfl,rfl⟩,⟨.rfl,rfl⟩,trivial⟩,⟨⟨rfl,.refl _,rfl⟩,⟨rfl,.refl _,rfl⟩,⟨rfl,.refl _,rfl⟩,⟨rfl,⟨.rfl,.rfl,.rfl,.full,trivial⟩,rfl⟩,trivial⟩,rfl⟩
   ·refine e' rfl ?_
    refine st2 0 3 rfl (by kernel_rfl) rfl rfl ?_ ?_
    ·refine e' rfl ?_
     refine st1 3 rfl (by kernel_rfl) rfl ?_
     refine gq [0] ((ih7 _ _ hx3).ok) rfl (n' ?_)
     refine st1 4 rfl (by kernel_rfl) rfl ?_
     refine C0.be hC rfl (B0.rows_map [o3,x3.1]).symm (n' ?_)
     refine st1 5 rfl (by kernel_rfl) rfl ?_
     refine e' rfl ?_
     refine st1 6 rfl (by kernel_rfl) rfl ?_
     refine C0.s hC rfl (n' (V0.nil (by kernel_rfl) ?_))
     refine F1.wk ?_ (ih6 _ _ _ hh)
     exact ⟨⟨⟨.rfl,rfl⟩,⟨.rfl,rfl⟩,⟨.rfl,rfl⟩,⟨.rfl,rfl⟩,trivial⟩,⟨⟨rfl,.refl _,rfl⟩,⟨rfl,.refl _,rfl⟩,⟨rfl,.refl _,rfl⟩,⟨rfl,⟨.rfl,.rfl,.rfl,.full,trivial⟩,rfl⟩,trivial⟩,rfl⟩
    ·refine gq [0] ((ih7 _ _ hx3).ok) rfl (n' ?_)
     refine st2 0 4 rfl (by kernel_rfl) rfl rfl ?_ ?_
     ·refine e' rfl ?_
      refine st1 4 rfl (by kernel_rfl) rfl ?_
      refine C0.be hC rfl (B0.rows_map [o3,x3.1]).symm (n' ?_)
      refine st1 5 rfl (by kernel_rfl) rfl ?_
      refine e' rfl ?_
      refine st1 6 rfl (by kernel_rfl) rfl ?_
      refine C0.s hC rfl (n' (V0.nil (by kernel_rfl) ?_))
      refine F1.wk ?_ (ih6 _ _ _ hh)
      exact ⟨⟨⟨.rfl,rfl⟩,⟨.rfl,rfl⟩,⟨.rfl,rfl⟩,⟨.rfl,rfl⟩,trivial⟩,⟨⟨rfl,.refl _,rfl⟩,⟨rfl,.refl _,rfl⟩,⟨rfl,.refl _,rfl⟩,⟨rfl,⟨.rfl,.rfl,.rfl,.full,trivial⟩,rfl⟩,trivial⟩,rfl⟩
     ·refine C0.be hC rfl (B0.rows_map [o3,x3.1]).symm (n' ?_)
      refine st1 0 rfl (by kernel_rfl) rfl ?_
      refine e' rfl ?_
      refine st1 5 rfl (by kernel_rfl) rfl ?_
      refine e' rfl ?_
      refine st1 6 rfl (by kernel_rfl) rfl ?_
      refine C0.s hC rfl (n' (V0.nil (by kernel_rfl) ?_))
      refine F1.wk ?_ (ih6 _ _ _ hh)
      exact ⟨⟨⟨.rfl,rfl⟩,⟨.rfl,rfl⟩,⟨.rfl,rfl⟩,⟨.rfl,rfl⟩,trivial⟩,⟨⟨rfl,.refl _,rfl⟩,⟨rfl,.refl _,rfl⟩,⟨rfl,.refl _,rfl⟩,⟨rfl,⟨.rfl,.rfl,.rfl,.full,trivial⟩,rfl⟩,trivial⟩,rfl⟩
   ·refine gq [0] ((ih7 _ _ hx3).ok) rfl (n' ?_)
    refine st2 0 1 rfl (by kernel_rfl) rfl rfl ?_ ?_
    ·refine e' rfl ?_
     refine st1 1 rfl (by kernel_rfl) rfl ?_
     refine e' rfl ?_
     refine st1 4 rfl (by kernel_rfl) rfl ?_
     refine C0.be hC rfl (B0.rows_map [o3,x3.1]).symm (n' ?_)
     refine st1 5 rfl (by kernel_rfl) rfl ?_
     refine e' rfl ?_
     refine st1 6 rfl (by kernel_rfl) rfl ?_
     refine C0.s hC rfl (n' (V0.nil (by kernel_rfl) ?_))
     refine F1.wk ?_ (ih6 _ _ _ hh)
     exact ⟨⟨⟨.rfl,rfl⟩,⟨.rfl,rfl⟩,⟨.rfl,rfl⟩,⟨.rfl,rfl⟩,trivial⟩,⟨⟨rfl,.refl _,rfl⟩,⟨rfl,.refl _,rfl⟩,⟨rfl,.refl _,rfl⟩,⟨rfl,⟨.rfl,.rfl,.rfl,.full,trivial⟩,rfl⟩,trivial⟩,rfl⟩
    ·refine e' rfl ?_
     refine st2 0 4 rfl (by kernel_rfl) rfl rfl ?_ ?_
     ·refine e' rfl ?_
      refine st1 4 rfl (by kernel_rfl) rfl ?_
      refine C0.be hC rfl (B0.rows_map [o3,x3.1]).symm (n' ?_)
      refine st1 5 rfl (by kernel_rfl) rfl ?_
      refine e' rfl ?_
      refine st1 6 rfl (by kernel_rfl) rfl ?_
      refine C0.s hC rfl (n' (V0.nil (by kernel_rfl) ?_))
      refine F1.wk ?_ (ih6 _ _ _ hh)
      exact ⟨⟨⟨.rfl,rfl⟩,⟨.rfl,rfl⟩,⟨.rfl,rfl⟩,⟨.rfl,rfl⟩,trivial⟩,⟨⟨rfl,.refl _,rfl⟩,⟨rfl,.refl _,rfl⟩,⟨rfl,.refl _,rfl⟩,⟨rfl,⟨.rfl,.rfl,.rfl,.full,trivial⟩,rfl⟩,trivial⟩,rfl⟩
     ·refine C0.be hC rfl (B0.rows_map [o3,x3.1]).symm (n' ?_)
      refine st1 0 rfl (by kernel_rfl) rfl ?_
      refine e' rfl ?_
      refine st1 5 rfl (by kernel_rfl) rfl ?_
      refine e' rfl ?_
      refine st1 6 rfl (by kernel_rfl) rfl ?_
      refine C0.s hC rfl (n' (V0.nil (by kernel_rfl) ?_))
      refine F1.wk ?_ (ih6 _ _ _ hh)
      exact ⟨⟨⟨.rfl,rfl⟩,⟨.rfl,rfl⟩,⟨.rfl,rfl⟩,⟨.rfl,rfl⟩,trivial⟩,⟨⟨rfl,.refl _,rfl⟩,⟨rfl,.refl _,rfl⟩,⟨rfl,.refl _,rfl⟩,⟨rfl,⟨.rfl,.rfl,.rfl,.full,trivial⟩,rfl⟩,trivial⟩,rfl⟩
 ·intro g8 g9 ih8 ih9 parserParser res hh
  refine I2.intro hC Tryz.func222 rfl rfl rfl (s' rfl rfl (C0.nf hC rfl (n' (p' 1 rfl ?_))))
  rcases bp' hh with ⟨nn,hx1,⟨⟩⟩ | ⟨x1,hx1,hh⟩
  ·exact gr [0] (ih9 _ _ hx1) rfl (peW ⟨trivial,trivial⟩ rfl)
  obtain ⟨x2,hx2,hh⟩:=bs' hh
  refine gq [0] ((ih9 _ _ hx1).ok) rfl (C0.nf hC rfl (C0.s hC rfl (n' (t' rfl (S' (bk' (p' 1 rfl (gq [0] (O0 hx2) rfl (e' rfl (ci' rfl hh (fun hh=>?_) (fun hh=>?_)))))))))))
  ·exact sk' (eq' (ih8 _ _ _ _ hh) rfl)
  obtain ⟨x4,hx4,hh⟩:=bs' hh
  refine p' 1 rfl (gq [0] (O0 hx4) rfl (e' rfl (ci' rfl hh (fun hh=>?_) (fun hh=>?_))))
  ·exact T' rfl (eq' (ih8 _ _ _ _ hh) rfl)
  obtain ⟨x5,hx5,hh⟩:=bs' hh
  refine p' 1 rfl (gq [0] (O0 hx5) rfl (e' rfl (ci' rfl hh (fun hh=>?_) (fun hh=>?_))))
  ·exact T' rfl (eq' (ih8 _ _ _ _ hh) rfl)
  obtain ⟨x6,hx6,hh⟩:=bs' hh
  refine p' 1 rfl (gq [0] (O0 hx6) rfl (e' rfl (ci' rfl hh (fun hh=>?_) (fun hh=>?_))))
  ·exact T' rfl (eq' (ih8 _ _ _ _ hh) rfl)
  obtain ⟨x7,hx7,hh⟩:=bs' hh
  refine p' 1 rfl (gq [0] (O0 hx7) rfl (e' rfl (ci' rfl hh (fun hh=>?_) (fun hh=>?_))))
  ·exact T' rfl (eq' (ih8 _ _ _ _ hh) rfl)
  obtain ⟨x8,hx8,hh⟩:=bs' hh
  refine p' 1 rfl (gq [0] (O0 hx8) rfl (e' rfl (ci' rfl hh (fun hh=>?_) (fun hh=>?_))))
  ·exact T' rfl (eq' (ih8 _ _ _ _ hh) rfl)
  cases hh
  exact p' 1 rfl (C0.s hC rfl (n' (re' (rq rfl))))
 ·intro g9 ih9 o0 x1 op res hh
  refine S' ?_
  rcases bp' hh with ⟨nn,hx3,⟨⟩⟩ | ⟨x3,hx3,hh⟩
  ·refine AEx.drawE hC ?_
   refine V0.step rfl (j0:=0) (js:=[1,2]) (by kernel_rfl) ⟨⟨_,rfl,?_⟩,⟨_,rfl,?_⟩,⟨_,rfl,?_⟩,trivial⟩
   ·refine e' rfl ?_
    refine st2 1 2 rfl (by kernel_rfl) rfl rfl ?_ ?_
    ·refine e' rfl ?_
     refine st1 2 rfl (by kernel_rfl) rfl ?_
     refine e' rfl ?_
     refine st1 3 rfl (by kernel_rfl) rfl ?_
     exact gr [0] (ih9 _ _ hx3) rfl (peW ⟨trivial,trivial⟩ rfl)
    ·refine e' rfl ?_
     refine st2 1 3 rfl (by kernel_rfl) rfl rfl ?_ ?_
     ·refine e' rfl ?_
      refine st1 3 rfl (by kernel_rfl) rfl ?_
      exact gr [0] (ih9 _ _ hx3) rfl (peW ⟨trivial,trivial⟩ rfl)
     ·exact gr [0] (ih9 _ _ hx3) rfl (peW ⟨trivial,trivial⟩ rfl)
   ·refine e' rfl ?_
    refine st2 0 2 rfl (by kernel_rfl) rfl rfl ?_ ?_
    ·refine e' rfl ?_
     refine st1 2 rfl (by kernel_rfl) rfl ?_
     refine e' rfl ?_
     refine st1 3 rfl (by kernel_rfl) rfl ?_
     exact gr [0] (ih9 _ _ hx3) rfl (peW ⟨trivial,trivial⟩ rfl)
    ·refine e' rfl ?_
     refine st2 0 3 rfl (by kernel_rfl) rfl rfl ?_ ?_
     ·refine e' rfl ?_
      refine st1 3 rfl (by kernel_rfl) rfl ?_
      exact gr [0] (ih9 _ _ hx3) rfl (peW ⟨trivial,trivial⟩ rfl)
     ·exact gr [0] (ih9 _ _ hx3) rfl (peW ⟨trivial,trivial⟩ rfl)
   ·refine e' rfl ?_
    refine V0.step rfl (j0:=0) (js:=[1,3]) (by kernel_rfl) ⟨⟨_,rfl,?_⟩,⟨_,rfl,?_⟩,⟨_,rfl,?_⟩,trivial⟩
    ·refine e' rfl ?_
     refine st2 1 3 rfl (by kernel_rfl) rfl rfl ?_ ?_
     ·refine e' rfl ?_
      refine st1 3 rfl (by kernel_rfl) rfl ?_
      exact gr [0] (ih9 _ _ hx3) rfl (peW ⟨trivial,trivial⟩ rfl)
     ·exact gr [0] (ih9 _ _ hx3) rfl (peW ⟨trivial,trivial⟩ rfl)
    ·refine e' rfl ?_
     refine st2 0 3 rfl (by kernel_rfl) rfl rfl ?_ ?_
     ·refine e' rfl ?_
      refine st1 3 rfl (by kernel_rfl) rfl ?_
      exact gr [0] (ih9 _ _ hx3) rfl (peW ⟨trivial,trivial⟩ rfl)
     ·exact gr [0] (ih9 _ _ hx3) rfl (peW ⟨trivial,trivial⟩ rfl)
    ·exact gr [0] (ih9 _ _ hx3) rfl (peW ⟨trivial,trivial⟩ rfl)
  refine AEx.drawE hC ?_
  refine V0.step rfl (j0:=0) (js:=[1,2]) (by kernel_rfl) ⟨⟨_,rfl,?_⟩,⟨_,rfl,?_⟩,⟨_,rfl,?_⟩,trivial⟩
  ·refine e' rfl ?_
   refine st2 1 2 rfl (by kernel_rfl) rfl rfl ?_ ?_
   ·refine e' rfl ?_
    refine st1 2 rfl (by kernel_rfl) rfl ?_
    refine e' rfl ?_
    refine st1 3 rfl (by kernel_rfl) rfl ?_
    refine gq [0] ((ih9 _ _ hx3).ok) rfl (n' ?_)
    refine st1 4 rfl (by kernel_rfl) rfl ?_
    refine C0.be hC rfl (B0.rows_map [x1.1,x3.1]).symm (n' ?_)
    refine st1 5 rfl (by kernel_rfl) rfl ?_
    refine e' rfl ?_
    refine st1 6 rfl (by kernel_rfl) rfl ?_
    refine C0.s hC rfl (n' (V0.nil (by kernel_rfl) (re' ?_)))
    have hq:=oi' hh
    subst hq
    exact ⟨_,.agg [.d (.int .i64 op),.d (.int .i64 0),.d (.str []),.d (.sl (B0.rows [x1.1,x3.1]))],[.row (A0.cells x3.2) 112],rfl,(.aggL ⟨.rfl,.rfl,.rfl,.full,trivial⟩),⟨⟨rfl,.refl _,rfl⟩,trivial⟩,rfl,rfl,rpq rfl rfl⟩
   ·refine e' rfl ?_
    refine st2 1 3 rfl (by kernel_rfl) rfl rfl ?_ ?_
    ·refine e' rfl ?_
     refine st1 3 rfl (by kernel_rfl) rfl ?_
     refine gq [0] ((ih9 _ _ hx3).ok) rfl (n' ?_)
     refine st1 4 rfl (by kernel_rfl) rfl ?_
     refine C0.be hC rfl (B0.rows_map [x1.1,x3.1]).symm (n' ?_)
     refine st1 5 rfl (by kernel_rfl) rfl ?_
     refine e' rfl ?_
     refine st1 6 rfl (by kernel_rfl) rfl ?_
     refine C0.s hC rfl (n' (V0.nil (by kernel_rfl) (re' ?_)))
     have hq:=oi' hh
     subst hq
     exact ⟨_,.agg [.d (.int .i64 op),.d (.int .i64 0),.d (.str []),.d (.sl (B0.rows [x1.1,x3.1]))],[.row (A0.cells x3.2) 112],rfl,(.aggL ⟨.rfl,.rfl,.rfl,.full,trivial⟩),⟨⟨rfl,.refl _,rfl⟩,trivial⟩,rfl,rfl,rpq rfl rfl⟩
    ·refine gq [0] ((ih9 _ _ hx3).ok) rfl (n' ?_)
     refine st1 1 rfl (by kernel_rfl) rfl ?_
     refine e' rfl ?_
     refine st1 4 rfl (by kernel_rfl) rfl ?_
     refine C0.be hC rfl (B0.rows_map [x1.1,x3.1]).symm (n' ?_)
     refine st1 5 rfl (by kernel_rfl) rfl ?_
     refine e' rfl ?_
     refine st1 6 rfl (by kernel_rfl) rfl ?_
     refine C0.s hC rfl (n' (V0.nil (by kernel_rfl) (re' ?_)))
     have hq:=oi' hh
     subst hq
     exact ⟨_,.agg [.d (.int .i64 op),.d (.int .i64 0),.d (.str []),.d (.sl (B0.rows [x1.1,x3.1]))],[.row (A0.cells x3.2) 112],rfl,(.aggL ⟨.rfl,.rfl,.rfl,.full,trivial⟩),⟨⟨rfl,.refl _,rfl⟩,trivial⟩,rfl,rfl,rpq rfl rfl⟩
  ·refine e' rfl ?_
   refine st2 0 2 rfl (by kernel_rfl) rfl rfl ?_ ?_
   ·refine e' rfl ?_
    refine st1 2 rfl (by kernel_rfl) rfl ?_
    refine e' rfl ?_
    refine st1 3 rfl (by kernel_rfl) rfl ?_
    refine gq [0] ((ih9 _ _ hx3).ok) rfl (n' ?_)
    refine st1 4 rfl (by kernel_rfl) rfl ?_
    refine C0.be hC rfl (B0.rows_map [x1.1,x3.1]).symm (n' ?_)
    refine st1 5 rfl (by kernel_rfl) rfl ?_
    refine e' rfl ?_
    refine st1 6 rfl (by kernel_rfl) rfl ?_
    refine C0.s hC rfl (n' (V0.nil (by kernel_rfl) (re' ?_)))
    have hq:=oi' hh
    subst hq
    exact ⟨_,.agg [.d (.int .i64 op),.d (.int .i64 0),.d (.str []),.d (.sl (B0.rows [x1.1,x3.1]))],[.row (A0.cells x3.2) 112],rfl,(.aggL ⟨.rfl,.rfl,.rfl,.full,trivial⟩),⟨⟨rfl,.refl _,rfl⟩,trivial⟩,rfl,rfl,rpq rfl rfl⟩
   ·refine e' rfl ?_
    refine st2 0 3 rfl (by kernel_rfl) rfl rfl ?_ ?_
    ·refine e' rfl ?_
     refine st1 3 rfl (by kernel_rfl) rfl ?_
     refine gq [0] ((ih9 _ _ hx3).ok) rfl (n' ?_)
     refine st1 4 rfl (by kernel_rfl) rfl ?_
     refine C0.be hC rfl (B0.rows_map [x1.1,x3.1]).symm (n' ?_)
     refine st1 5 rfl (by kernel_rfl) rfl ?_
     refine e' rfl ?_
     refine st1 6 rfl (by kernel_rfl) rfl ?_
     refine C0.s hC rfl (n' (V0.nil (by kernel_rfl) (re' ?_)))
     have hq:=oi' hh
     subst hq
     exact ⟨_,.agg [.d (.int .i64 op),.d (.int .i64 0),.d (.str []),.d (.sl (B0.rows [x1.1,x3.1]))],[.row (A0.cells x3.2) 112],rfl,(.aggL ⟨.rfl,.rfl,.rfl,.full,trivial⟩),⟨⟨rfl,.refl _,rfl⟩,trivial⟩,rfl,rfl,rpq rfl rfl⟩
    ·refine gq [0] ((ih9 _ _ hx3).ok) rfl (n' ?_)
     refine st2 0 4 rfl (by kernel_rfl) rfl rfl ?_ ?_
     ·refine e' rfl ?_
      refine st1 4 rfl (by kernel_rfl) rfl ?_
      refine C0.be hC rfl (B0.rows_map [x1.1,x3.1]).symm (n' ?_)
      refine st1 5 rfl (by kernel_rfl) rfl ?_
      refine e' rfl ?_
      refine st1 6 rfl (by kernel_rfl) rfl ?_
      refine C0.s hC rfl (n' (V0.nil (by kernel_rfl) (re' ?_)))
      have hq:=oi' hh
      subst hq
      exact ⟨_,.agg [.d (.int .i64 op),.d (.int .i64 0),.d (.str []),.d (.sl (B0.rows [x1.1,x3.1]))],[.row (A0.cells x3.2) 112],rfl,(.aggL ⟨.rfl,.rfl,.rfl,.full,trivial⟩),⟨⟨rfl,.refl _,rfl⟩,trivial⟩,rfl,rfl,rpq rfl rfl⟩
     ·refine C0.be hC rfl (B0.rows_map [x1.1,x3.1]).symm (n' ?_)
      refine st1 0 rfl (by kernel_rfl) rfl ?_
      refine e' rfl ?_
      refine st1 5 rfl (by kernel_rfl) rfl ?_
      refine e' rfl ?_
      refine st1 6 rfl (by kernel_rfl) rfl ?_
      refine C0.s hC rfl (n' (V0.nil (by kernel_rfl) (re' ?_)))
      have hq:=oi' hh
      subst hq
      exact ⟨_,.agg [.d (.int .i64 op),.d (.int .i64 0),.d (.str []),.d (.sl (B0.rows [x1.1,x3.1]))],[.row (A0.cells x3.2) 112],rfl,(.aggL ⟨.rfl,.rfl,.rfl,.full,trivial⟩),⟨⟨rfl,.refl _,rfl⟩,trivial⟩,rfl,rfl,rpq rfl rfl⟩
  ·refine e' rfl ?_
   refine V0.step rfl (j0:=0) (js:=[1,3]) (by kernel_rfl) ⟨⟨_,rfl,?_⟩,⟨_,rfl,?_⟩,⟨_,rfl,?_⟩,trivial⟩
   ·refine e' rfl ?_
    refine st2 1 3 rfl (by kernel_rfl) rfl rfl ?_ ?_
    ·refine e' rfl ?_
     refine st1 3 rfl (by kernel_rfl) rfl ?_
     refine gq [0] ((ih9 _ _ hx3).ok) rfl (n' ?_)
     refine st1 4 rfl (by kernel_rfl) rfl ?_
     refine C0.be hC rfl (B0.rows_map [x1.1,x3.1]).symm (n' ?_)
     refine st1 5 rfl (by kernel_rfl) rfl ?_
     refine e' rfl ?_
     refine st1 6 rfl (by kernel_rfl) rfl ?_
     refine C0.s hC rfl (n' (V0.nil (by kernel_rfl) (re' ?_)))
     have hq:=oi' hh
     subst hq
     exact ⟨_,.agg [.d (.int .i64 op),.d (.int .i64 0),.d (.str []),.d (.sl (B0.rows [x1.1,x3.1]))],[.row (A0.cells x3.2) 112],rfl,(.aggL ⟨.rfl,.rfl,.rfl,.full,trivial⟩),⟨⟨rfl,.refl _,rfl⟩,trivial⟩,rfl,rfl,rpq rfl rfl⟩
    ·refine gq [0] ((ih9 _ _ hx3).ok) rfl (n' ?_)
     refine st1 1 rfl (by kernel_rfl) rfl ?_
     refine e' rfl ?_
     refine st1 4 rfl (by kernel_rfl) rfl ?_
     refine C0.be hC rfl (B0.rows_map [x1.1,x3.1]).symm (n' ?_)
     refine st1 5 rfl (by kernel_rfl) rfl ?_
     refine e' rfl ?_
     refine st1 6 rfl (by kernel_rfl) rfl ?_
     refine C0.s hC rfl (n' (V0.nil (by kernel_rfl) (re' ?_)))
     have hq:=oi' hh
     subst hq
     exact ⟨_,.agg [.d (.int .i64 op),.d (.int .i64 0),.d (.str []),.d (.sl (B0.rows [x1.1,x3.1]))],[.row (A0.cells x3.2) 112],rfl,(.aggL ⟨.rfl,.rfl,.rfl,.full,trivial⟩),⟨⟨rfl,.refl _,rfl⟩,trivial⟩,rfl,rfl,rpq rfl rfl⟩
   ·refine e' rfl ?_
    refine st2 0 3 rfl (by kernel_rfl) rfl rfl ?_ ?_
    ·refine e' rfl ?_
     refine st1 3 rfl (by kernel_rfl) rfl ?_
     refine gq [0] ((ih9 _ _ hx3).ok) rfl (n' ?_)
     refine st1 4 rfl (by kernel_rfl) rfl ?_
     refine C0.be hC rfl (B0.rows_map [x1.1,x3.1]).symm (n' ?_)
     refine st1 5 rfl (by kernel_rfl) rfl ?_
     refine e' rfl ?_
     refine st1 6 rfl (by kernel_rfl) rfl ?_
     refine C0.s hC rfl (n' (V0.nil (by kernel_rfl) (re' ?_)))
     have hq:=oi' hh
     subst hq
     exact ⟨_,.agg [.d (.int .i64 op),.d (.int .i64 0),.d (.str []),.d (.sl (B0.rows [x1.1,x3.1]))],[.row (A0.cells x3.2) 112],rfl,(.aggL ⟨.rfl,.rfl,.rfl,.full,trivial⟩),⟨⟨rfl,.refl _,rfl⟩,trivial⟩,rfl,rfl,rpq rfl rfl⟩
    ·refine gq [0] ((ih9 _ _ hx3).ok) rfl (n' ?_)
     refine st2 0 4 rfl (by kernel_rfl) rfl rfl ?_ ?_
     ·refine e' rfl ?_
      refine st1 4 rfl (by kernel_rfl) rfl ?_
      refine C0.be hC rfl (B0.rows_map [x1.1,x3.1]).symm (n' ?_)
      refine st1 5 rfl (by kernel_rfl) rfl ?_
      refine e' rfl ?_
      refine st1 6 rfl (by kernel_rfl) rfl ?_
      refine C0.s hC rfl (n' (V0.nil (by kernel_rfl) (re' ?_)))
      have hq:=oi' hh
      subst hq
      exact ⟨_,.agg [.d (.int .i64 op),.d (.int .i64 0),.d (.str []),.d (.sl (B0.rows [x1.1,x3.1]))],[.row (A0.cells x3.2) 112],rfl,(.aggL ⟨.rfl,.rfl,.rfl,.full,trivial⟩),⟨⟨rfl,.refl _,rfl⟩,trivial⟩,rfl,rfl,rpq rfl rfl⟩
     ·refine C0.be hC rfl (B0.rows_map [x1.1,x3.1]).symm (n' ?_)
      refine st1 0 rfl (by kernel_rfl) rfl ?_
      refine e' rfl ?_
      refine st1 5 rfl (by kernel_rfl) rfl ?_
      refine e' rfl ?_
      refine st1 6 rfl (by kernel_rfl) rfl ?_
      refine C0.s hC rfl (n' (V0.nil (by kernel_rfl) (re' ?_)))
      have hq:=oi' hh
      subst hq
      exact ⟨_,.agg [.d (.int .i64 op),.d (.int .i64 0),.d (.str []),.d (.sl (B0.rows [x1.1,x3.1]))],[.row (A0.cells x3.2) 112],rfl,(.aggL ⟨.rfl,.rfl,.rfl,.full,trivial⟩),⟨⟨rfl,.refl _,rfl⟩,trivial⟩,rfl,rfl,rpq rfl rfl⟩
   ·refine gq [0] ((ih9 _ _ hx3).ok) rfl (n' ?_)
    refine st2 0 1 rfl (by kernel_rfl) rfl rfl ?_ ?_
    ·refine e' rfl ?_
     refine st1 1 rfl (by kernel_rfl) rfl ?_
     refine e' rfl ?_
     refine st1 4 rfl (by kernel_rfl) rfl ?_
     refine C0.be hC rfl (B0.rows_map [x1.1,x3.1]).symm (n' ?_)
     refine st1 5 rfl (by kernel_rfl) rfl ?_
     refine e' rfl ?_
     refine st1 6 rfl (by kernel_rfl) rfl ?_
     refine C0.s hC rfl (n' (V0.nil (by kernel_rfl) (re' ?_)))
     have hq:=oi' hh
     subst hq
     exact ⟨_,.agg [.d (.int .i64 op),.d (.int .i64 0),.d (.str []),.d (.sl (B0.rows [x1.1,x3.1]))],[.row (A0.cells x3.2) 112],rfl,(.aggL ⟨.rfl,.rfl,.rfl,.full,trivial⟩),⟨⟨rfl,.refl _,rfl⟩,trivial⟩,rfl,rfl,rpq rfl rfl⟩
    ·refine e' rfl ?_
     refine st2 0 4 rfl (by kernel_rfl) rfl rfl ?_ ?_
     ·refine e' rfl ?_
      refine st1 4 rfl (by kernel_rfl) rfl ?_
      refine C0.be hC rfl (B0.rows_map [x1.1,x3.1]).symm (n' ?_)
      refine st1 5 rfl (by kernel_rfl) rfl ?_
      refine e' rfl ?_
      refine st1 6 rfl (by kernel_rfl) rfl ?_
      refine C0.s hC rfl (n' (V0.nil (by kernel_rfl) (re' ?_)))
      have hq:=oi' hh
      subst hq
      exact ⟨_,.agg [.d (.int .i64 op),.d (.int .i64 0),.d (.str []),.d (.sl (B0.rows [x1.1,x3.1]))],[.row (A0.cells x3.2) 112],rfl,(.aggL ⟨.rfl,.rfl,.rfl,.full,trivial⟩),⟨⟨rfl,.refl _,rfl⟩,trivial⟩,rfl,rfl,rpq rfl rfl⟩
     ·refine C0.be hC rfl (B0.rows_map [x1.1,x3.1]).symm (n' ?_)
      refine st1 0 rfl (by kernel_rfl) rfl ?_
      refine e' rfl ?_
      refine st1 5 rfl (by kernel_rfl) rfl ?_
      refine e' rfl ?_
      refine st1 6 rfl (by kernel_rfl) rfl ?_
      refine C0.s hC rfl (n' (V0.nil (by kernel_rfl) (re' ?_)))
      have hq:=oi' hh
      subst hq
      exact ⟨_,.agg [.d (.int .i64 op),.d (.int .i64 0),.d (.str []),.d (.sl (B0.rows [x1.1,x3.1]))],[.row (A0.cells x3.2) 112],rfl,(.aggL ⟨.rfl,.rfl,.rfl,.full,trivial⟩),⟨⟨rfl,.refl _,rfl⟩,trivial⟩,rfl,rfl,rpq rfl rfl⟩
 ·intro g10 ih10 parserParser res hh
  refine I2.intro hC Tryz.func229 rfl rfl rfl (s' rfl rfl (C0.n hC rfl (C0.nf hC rfl (n' (p' 4 rfl ?_)))))
  rcases bp' hh with ⟨nn,hx1,⟨⟩⟩ | ⟨x1,hx1,hh⟩
  ·exact gr [0,1] (ih10 _ _ hx1) rfl (peW ⟨trivial,trivial⟩ rfl)
  cases hh
  exact gq [0,1] ((ih10 _ _ hx1).ok) rfl (C0.s hC rfl (n' (re' (rq rfl))))
 ·intro g11 g12 ih11 ih12 parserParser res hh
  refine I2.intro hC Tryz.func201 rfl rfl rfl (s' rfl rfl (C0.nf hC rfl (n' (p' 1 rfl ?_))))
  rcases bp' hh with ⟨nn,hx1,⟨⟩⟩ | ⟨x1,hx1,hh⟩
  ·exact gr [0] (ih12 _ _ hx1) rfl (fun hi=>peW ⟨trivial,⟨rfl,.refl _,rfl⟩,trivial⟩ rfl hi)
  exact gq [0] ((ih12 _ _ hx1).ok) rfl (C0.nf hC rfl (C0.s hC rfl (n' (bk' (fq (ih11 _ _ _ hh) rfl)))))
 ·intro g11 g12 ih11 ih12 o0 o3 res hh
  obtain ⟨x2,hx2,hh⟩:=bs' hh
  refine F1.unroll (bk' (p' 1 rfl (gq [1,0] (Ss hx2) rfl (e' rfl (S' (t' rfl (ci' rfl hh (fun hh=>?_) (fun hh=>?_))))))))
  ·cases hh
   exact p' 1 rfl (C0.s hC rfl (n' (re' (rq rfl))))
  refine sk' ?_
  rcases bp' hh with ⟨nn,hx3,⟨⟩⟩ | ⟨x3,hx3,hh⟩
  ·refine AEx.drawE hC ?_
   refine V0.step rfl (j0:=0) (js:=[1,2]) (by kernel_rfl) ⟨⟨_,rfl,?_⟩,⟨_,rfl,?_⟩,⟨_,rfl,?_⟩,trivial⟩
   ·refine e' rfl ?_
    refine st2 1 2 rfl (by kernel_rfl) rfl rfl ?_ ?_
    ·refine e' rfl ?_
     refine st1 2 rfl (by kernel_rfl) rfl ?_
     refine e' rfl ?_
     refine st1 3 rfl (by kernel_rfl) rfl ?_
     exact gr [0] (ih12 _ _ hx3) rfl (fun hi=>peW ⟨trivial,⟨rfl,.refl _,rfl⟩,trivial⟩ rfl hi)
    ·refine e' rfl ?_
     refine st2 1 3 rfl (by kernel_rfl) rfl rfl ?_ ?_
     ·refine e' rfl ?_
      refine st1 3 rfl (by kernel_rfl) rfl ?_
      exact gr [0] (ih12 _ _ hx3) rfl (fun hi=>peW ⟨trivial,⟨rfl,.refl _,rfl⟩,trivial⟩ rfl hi)
     ·exact gr [0] (ih12 _ _ hx3) rfl (fun hi=>peW ⟨trivial,⟨rfl,.refl _,rfl⟩,trivial⟩ rfl hi)
   ·refine e' rfl ?_
    refine st2 0 2 rfl (by kernel_rfl) rfl rfl ?_ ?_
    ·refine e' rfl ?_
     refine st1 2 rfl (by kernel_rfl) rfl ?_
     refine e' rfl ?_
     refine st1 3 rfl (by kernel_rfl) rfl ?_
     exact gr [0] (ih12 _ _ hx3) rfl (fun hi=>peW ⟨trivial,⟨rfl,.refl _,rfl⟩,trivial⟩ rfl hi)
    ·refine e' rfl ?_
     refine st2 0 3 rfl (by kernel_rfl) rfl rfl ?_ ?_
     ·refine e' rfl ?_
      refine st1 3 rfl (by kernel_rfl) rfl ?_
      exact gr [0] (ih12 _ _ hx3) rfl (fun hi=>peW ⟨trivial,⟨rfl,.refl _,rfl⟩,trivial⟩ rfl hi)
     ·exact gr [0] (ih12 _ _ hx3) rfl (fun hi=>peW ⟨trivial,⟨rfl,.refl _,rfl⟩,trivial⟩ rfl hi)
   ·refine e' rfl ?_
    refine V0.step rfl (j0:=0) (js:=[1,3]) (by kernel_rfl) ⟨⟨_,rfl,?_⟩,⟨_,rfl,?_⟩,⟨_,rfl,?_⟩,trivial⟩
    ·refine e' rfl ?_
     refine st2 1 3 rfl (by kernel_rfl) rfl rfl ?_ ?_
     ·refine e' rfl ?_
      refine st1 3 rfl (by kernel_rfl) rfl ?_
      exact gr [0] (ih12 _ _ hx3) rfl (fun hi=>peW ⟨trivial,⟨rfl,.refl _,rfl⟩,trivial⟩ rfl hi)
     ·exact gr [0] (ih12 _ _ hx3) rfl (fun hi=>peW ⟨trivial,⟨rfl,.refl _,rfl⟩,trivial⟩ rfl hi)
    ·refine e' rfl ?_
     refine st2 0 3 rfl (by kernel_rfl) rfl rfl ?_ ?_
     ·refine e' rfl ?_
      refine st1 3 rfl (by kernel_rfl) rfl ?_
      exact gr [0] (ih12 _ _ hx3) rfl (fun hi=>peW ⟨trivial,⟨rfl,.refl _,rfl⟩,trivial⟩ rfl hi)
     ·exact gr [0] (ih12 _ _ hx3) rfl (fun hi=>peW ⟨trivial,⟨rfl,.refl _,rfl⟩,trivial⟩ rfl hi)
    ·exact gr [0] (ih12 _ _ hx3) rfl (fun hi=>peW ⟨trivial,⟨rfl,.refl _,rfl⟩,trivial⟩ rfl hi)
  refine AEx.drawE hC ?_
  refine V0.step rfl (j0:=0) (js:=[1,2]) (by kernel_rfl) ⟨⟨_,rfl,?_⟩,⟨_,rfl,?_⟩,⟨_,rfl,?_⟩,trivial⟩
  ·refine e' rfl ?_
   refine st2 1 2 rfl (by kernel_rfl) rfl rfl ?_ ?_
   ·refine e' rfl ?_
    refine st1 2 rfl (by kernel_rfl) rfl ?_
    refine e' rfl ?_
    refine st1 3 rfl (by kernel_rfl) rfl ?_
    refine gq [0] ((ih12 _ _ hx3).ok) rfl (n' ?_)
    refine st1 4 rfl (by kernel_rfl) rfl ?_
    refine C0.be hC rfl (B0.rows_map [o3,x3.1]).symm (n' ?_)
    refine st1 5 rfl (by kernel_rfl) rfl ?_
    refine e' rfl ?_
    refine st1 6 rfl (by kernel_rfl) rfl ?_
    refine C0.s hC rfl (n' (V0.nil (by kernel_rfl) ?_))
    refine F1.wk ?_ (ih11 _ _ _ hh)
    exact ⟨⟨⟨.rfl,rfl⟩,⟨.rfl,rfl⟩,⟨.rfl,rfl⟩,⟨.rfl,rfl⟩,trivial⟩,⟨⟨rfl,.refl _,rfl⟩,⟨rfl,.refl _,rfl⟩,⟨rfl,.refl _,rfl⟩,⟨rfl,⟨.rfl,.rfl,.rfl,.full,trivial⟩,rfl⟩,trivial⟩,rfl⟩
   ·refine e' rfl ?_
    refine st2 1 3 rfl (by kernel_rfl) rfl rfl ?_ ?_
    ·refine e' rfl ?_
     refine st1 3 rfl (by kernel_rfl) rfl ?_
     refine gq [0] ((ih12 _ _ hx3).ok) rfl (n' ?_)
     refine st1 4 rfl (by kernel_rfl) rfl ?_
     refine C0.be hC rfl (B0.rows_map [o3,x3.1]).symm (n' ?_)
     refine st1 5 rfl (by kernel_rfl) rfl ?_
     refine e' rfl ?_
     refine st1 6 rfl (by kernel_rfl) rfl ?_
     refine C0.s hC rfl (n' (V0.nil (by kernel_rfl) ?_))
     refine F1.wk ?_ (ih11 _ _ _ hh)
     exact ⟨⟨⟨.rfl,rfl⟩,⟨.rfl,rfl⟩,⟨.rfl,rfl⟩,⟨.rfl,rfl⟩,trivial⟩,⟨⟨rfl,.refl _,rfl⟩,⟨rfl,.refl _,rfl⟩,⟨rfl,.refl _,rfl⟩,⟨rfl,⟨.rfl,.rfl,.rfl,.full,trivial⟩,rfl⟩,trivial⟩,rfl⟩
    ·refine gq [0] ((ih12 _ _ hx3).ok) rfl (n' ?_)
     refine st1 1 rfl (by kernel_rfl) rfl ?_
     refine e' rfl ?_
     refine st1 4 rfl (by kernel_rfl) rfl ?_
     refine C0.be hC rfl (B0.rows_map [o3,x3.1]).symm (n' ?_)
     refine st1 5 rfl (by kernel_rfl) rfl ?_
     refine e' rfl ?_
     refine st1 6 rfl (by kernel_rfl) rfl ?_
     refine C0.s hC rfl (n' (V0.nil (by kernel_rfl) ?_))
     refine F1.wk ?_ (ih11 _ _ _ hh)
     exact ⟨⟨⟨.rfl,rfl⟩,⟨.rfl,rfl⟩,⟨.rfl,rfl⟩,⟨.rfl,rfl⟩,trivial⟩,⟨⟨rfl,.refl _,rfl⟩,⟨rfl,.refl _,rfl⟩,⟨rfl,.refl _,rfl⟩,⟨rfl,⟨.rfl,.rfl,.rfl,.full,trivial⟩,rfl⟩,trivial⟩,rfl⟩
  ·refine e' rfl ?_
   refine st2 0 2 rfl (by kernel_rfl) rfl rfl ?_ ?_
   ·refine e' rfl ?_
    refine st1 2 rfl (by kernel_rfl) rfl ?_
    refine e' rfl ?_
    refine st1 3 rfl (by kernel_rfl) rfl ?_
    refine gq [0] ((ih12 _ _ hx3).ok) rfl (n' ?_)
    refine st1 4 rfl (by kernel_rfl) rfl ?_
    refine C0.be hC rfl (B0.rows_map [o3,x3.1]).symm (n' ?_)
    refine st1 5 rfl (by kernel_rfl) rfl ?_
    refine e' rfl ?_
    refine st1 6 rfl (by kernel_rfl) rfl ?_
    refine C0.s hC rfl (n' (V0.nil (by kernel_rfl) ?_))
    refine F1.wk ?_ (ih11 _ _ _ hh)
    exact ⟨⟨⟨.rfl,rfl⟩,⟨.rfl,rfl⟩,⟨.rfl,rfl⟩,⟨.rfl,rfl⟩,trivial⟩,⟨⟨rfl,.refl _,rfl⟩,⟨rfl,.refl _,rfl⟩,⟨rfl,.refl _,rfl⟩,⟨rfl,⟨.rfl,.rfl,.rfl,.full,trivial⟩,rfl⟩,trivial⟩,rfl⟩
   ·refine e' rfl ?_
    refine st2 0 3 rfl (by kernel_rfl) rfl rfl ?_ ?_
    ·refine e' rfl ?_
     refine st1 3 rfl (by kernel_rfl) rfl ?_
     refine gq [0] ((ih12 _ _ hx3).ok) rfl (n' ?_)
     refine st1 4 rfl (by kernel_rfl) rfl ?_
     refine C0.be hC rfl (B0.rows_map [o3,x3.1]).symm (n' ?_)
     refine st1 5 rfl (by kernel_rfl) rfl ?_
     refine e' rfl ?_
     refine st1 6 rfl (by kernel_rfl) rfl ?_
     refine C0.s hC rfl (n' (V0.nil (by kernel_rfl) ?_))
     refine F1.wk ?_ (ih11 _ _ _ hh)
     exact ⟨⟨⟨.rfl,rfl⟩,⟨.rfl,rfl⟩,⟨.rfl,rfl⟩,⟨.rfl,rfl⟩,trivial⟩,⟨⟨rfl,.refl _,rfl⟩,⟨rfl,.refl _,rfl⟩,⟨rfl,.refl _,rfl⟩,⟨rfl,⟨.rfl,.rfl,.rfl,.full,trivial⟩,rfl⟩,trivial⟩,rfl⟩
    ·refine gq [0] ((ih12 _ _ hx3).ok) rfl (n' ?_)
     refine st2 0 4 rfl (by kernel_rfl) rfl rfl ?_ ?_
     ·refine e' rfl ?_
      refine st1 4 rfl (by kernel_rfl) rfl ?_
      refine C0.be hC rfl (B0.rows_map [o3,x3.1]).symm (n' ?_)
      refine st1 5 rfl (by kernel_rfl) rfl ?_
      refine e' rfl ?_
      refine st1 6 rfl (by kernel_rfl) rfl ?_
      refine C0.s hC rfl (n' (V0.nil (by kernel_rfl) ?_))
      refine F1.wk ?_ (ih11 _ _ _ hh)
      exact ⟨⟨⟨.rfl,rfl⟩,⟨.rfl,rfl⟩,⟨.rfl,rfl⟩,⟨.rfl,rfl⟩,trivial⟩,⟨⟨rfl,.refl _,rfl⟩,⟨rfl,.refl _,rfl⟩,⟨rfl,.refl _,rfl⟩,⟨rfl,⟨.rfl,.rfl,.rfl,.full,trivial⟩,rfl⟩,trivial⟩,rfl⟩
     ·refine C0.be hC rfl (B0.rows_map [o3,x3.1]).symm (n' ?_)
      refine st1 0 rfl (by kernel_rfl) rfl ?_
      refine e' rfl ?_
      refine st1 5 rfl (by kernel_rfl) rfl ?_
      refine e' rfl ?_
      refine st1 6 rfl (by kernel_rfl) rfl ?_
      refine C0.s hC rfl (n' (V0.nil (by kernel_rfl) ?_))
      refine F1.wk ?_ (ih11 _ _ _ hh)
      exact ⟨⟨⟨.rfl,rfl⟩,⟨.rfl,rfl⟩,⟨.rfl,rfl⟩,⟨.rfl,rfl⟩,trivial⟩,⟨⟨rfl,.refl _,rfl⟩,⟨rfl,.refl _,rfl⟩,⟨rfl,.refl _,rfl⟩,⟨rfl,⟨.rfl,.rfl,.rfl,.full,trivial⟩,rfl⟩,trivial⟩,rfl⟩
  ·refine e' rfl ?_
   refine V0.step rfl (j0:=0) (js:=[1,3]) (by kernel_rfl) ⟨⟨_,rfl,?_⟩,⟨_,rfl,?_⟩,⟨_,rfl,?_⟩,trivial⟩
   ·refine e' rfl ?_
    refine st2 1 3 rfl (by kernel_rfl) rfl rfl ?_ ?_
    ·refine e' rfl ?_
     refine st1 3 rfl (by kernel_rfl) rfl ?_
     refine gq [0] ((ih12 _ _ hx3).ok) rfl (n' ?_)
     refine st1 4 rfl (by kernel_rfl) rfl ?_
     refine C0.be hC rfl (B0.rows_map [o3,x3.1]).symm (n' ?_)
     refine st1 5 rfl (by kernel_rfl) rfl ?_
     refine e' rfl ?_
     refine st1 6 rfl (by kernel_rfl) rfl ?_
     refine C0.s hC rfl (n' (V0.nil (by kernel_rfl) ?_))
     refine F1.wk ?_ (ih11 _ _ _ hh)
     exact ⟨⟨⟨.rfl,rfl⟩,⟨.rfl,rfl⟩,⟨.rfl,rfl⟩,⟨.rfl,rfl⟩,trivial⟩,⟨⟨rfl,.refl _,rfl⟩,⟨rfl,.refl _,rfl⟩,⟨rfl,.refl _,rfl⟩,⟨rfl,⟨.rfl,.rfl,.rfl,.full,trivial⟩,rfl⟩,trivial⟩,rfl⟩
    ·refine gq [0] ((ih12 _ _ hx3).ok) rfl (n' ?_)
     refine st1 1 rfl (by kernel_rfl) rfl ?_
     refine e' rfl ?_
     refine st1 4 rfl (by kernel_rfl) rfl ?_
     refine C0.be hC rfl (B0.rows_map [o3,x3.1]).symm (n' ?_)
     refine st1 5 rfl (by kernel_rfl) rfl ?_
     refine e' rfl ?_
     refine st1 6 rfl (by kernel_rfl) rfl ?_
     refine C0.s hC rfl (n' (V0.nil (by kernel_rfl) ?_))
     refine F1.wk ?_ (ih11 _ _ _ hh)
     exact ⟨⟨⟨.rfl,rfl⟩,⟨.rfl,rfl⟩,⟨.rfl,rfl⟩,⟨.rfl,rfl⟩,trivial⟩,⟨⟨rfl,.refl _,rfl⟩,⟨rfl,.refl _,rfl⟩,⟨rfl,.refl _,rfl⟩,⟨rfl,⟨.rfl,.rfl,.rfl,.full,trivial⟩,rfl⟩,trivial⟩,rfl⟩
   ·refine e' rfl ?_
    refine st2 0 3 rfl (by kernel_rfl) rfl rfl ?_ ?_
    ·refine e' rfl ?_
     refine st1 3 rfl (by kernel_rfl) rfl ?_
     refine gq [0] ((ih12 _ _ hx3).ok) rfl (n' ?_)
     refine st1 4 rfl (by kernel_rfl) rfl ?_
     refine C0.be hC rfl (B0.rows_map [o3,x3.1]).symm (n' ?_)
     refine st1 5 rfl (by kernel_rfl) rfl ?_
     refine e' rfl ?_
     refine st1 6 rfl (by kernel_rfl) rfl ?_
     refine C0.s hC rfl (n' (V0.nil (by kernel_rfl) ?_))
     refine F1.wk ?_ (ih11 _ _ _ hh)
     exact ⟨⟨⟨.rfl,rfl⟩,⟨.rfl,rfl⟩,⟨.rfl,rfl⟩,⟨.rfl,rfl⟩,trivial⟩,⟨⟨rfl,.refl _,rfl⟩,⟨rfl,.refl _,rfl⟩,⟨rfl,.refl _,rfl⟩,⟨rfl,⟨.rfl,.rfl,.rfl,.full,trivial⟩,rfl⟩,trivial⟩,rfl⟩
    ·refine gq [0] ((ih12 _ _ hx3).ok) rfl (n' ?_)
     refine st2 0 4 rfl (by kernel_rfl) rfl rfl ?_ ?_
     ·refine e' rfl ?_
      refine st1 4 rfl (by kernel_rfl) rfl ?_
      refine C0.be hC rfl (B0.rows_map [o3,x3.1]).symm (n' ?_)
      refine st1 5 rfl (by kernel_rfl) rfl ?_
      refine e' rfl ?_
      refine st1 6 rfl (by kernel_rfl) rfl ?_
      refine C0.s hC rfl (n' (V0.nil (by kernel_rfl) ?_))
      refine F1.wk ?_ (ih11 _ _ _ hh)
      exact ⟨⟨⟨.rfl,rfl⟩,⟨.rfl,rfl⟩,⟨.rfl,rfl⟩,⟨.rfl,rfl⟩,trivial⟩,⟨⟨rfl,.refl _,rfl⟩,⟨rfl,.refl _,rfl⟩,⟨rfl,.refl _,rfl⟩,⟨rfl,⟨.rfl,.rfl,.rfl,.full,trivial⟩,rfl⟩,trivial⟩,rfl⟩
     ·refine C0.be hC rfl (B0.rows_map [o3,x3.1]).symm (n' ?_)
      refine st1 0 rfl (by kernel_rfl) rfl ?_
      refine e' rfl ?_
      refine st1 5 rfl (by kernel_rfl) rfl ?_
      refine e' rfl ?_
      refine st1 6 rfl (by kernel_rfl) rfl ?_
      refine C0.s hC rfl (n' (V0.nil (by kernel_rfl) ?_))
      refine F1.wk ?_ (ih11 _ _ _ hh)
      exact ⟨⟨⟨.rfl,rfl⟩,⟨.rfl,rfl⟩,⟨.rfl,rfl⟩,⟨.rfl,rfl⟩,trivial⟩,⟨⟨rfl,.refl _,rfl⟩,⟨rfl,.refl _,rfl⟩,⟨rfl,.refl _,rfl⟩,⟨rfl,⟨.rfl,.rfl,.rfl,.full,trivial⟩,rfl⟩,trivial⟩,rfl⟩
   ·refine gq [0] ((ih12 _ _ hx3).ok) rfl (n' ?_)
    refine st2 0 1 rfl (by kernel_rfl) rfl rfl ?_ ?_
    ·refine e' rfl ?_
     refine st1 1 rfl (by kernel_rfl) rfl ?_
     refine e' rfl ?_
     refine st1 4 rfl (by kernel_rfl) rfl ?_
     refine C0.be hC rfl (B0.rows_map [o3,x3.1]).symm (n' ?_)
     refine st1 5 rfl (by kernel_rfl) rfl ?_
     refine e' rfl ?_
     refine st1 6 rfl (by kernel_rfl) rfl ?_
     refine C0.s hC rfl (n' (V0.nil (by kernel_rfl) ?_))
     refine F1.wk ?_ (ih11 _ _ _ hh)
     exact ⟨⟨⟨.rfl,rfl⟩,⟨.rfl,rfl⟩,⟨.rfl,rfl⟩,⟨.rfl,rfl⟩,trivial⟩,⟨⟨rfl,.refl _,rfl⟩,⟨rfl,.refl _,rfl⟩,⟨rfl,.refl _,rfl⟩,⟨rfl,⟨.rfl,.rfl,.rfl,.full,trivial⟩,rfl⟩,trivial⟩,rfl⟩
    ·refine e' rfl ?_
     refine st2 0 4 rfl (by kernel_rfl) rfl rfl ?_ ?_
     ·refine e' rfl ?_
      refine st1 4 rfl (by kernel_rfl) rfl ?_
      refine C0.be hC rfl (B0.rows_map [o3,x3.1]).symm (n' ?_)
      refine st1 5 rfl (by kernel_rfl) rfl ?_
      refine e' rfl ?_
      refine st1 6 rfl (by kernel_rfl) rfl ?_
      refine C0.s hC rfl (n' (V0.nil (by kernel_rfl) ?_))
      refine F1.wk ?_ (ih11 _ _ _ hh)
      exact ⟨⟨⟨.rfl,rfl⟩,⟨.rfl,rfl⟩,⟨.rfl,rfl⟩,⟨.rfl,rfl⟩,trivial⟩,⟨⟨rfl,.refl _,rfl⟩,⟨rfl,.refl _,rfl⟩,⟨rfl,.refl _,rfl⟩,⟨rfl,⟨.rfl,.rfl,.rfl,.full,trivial⟩,rfl⟩,trivial⟩,rfl⟩
     ·refine C0.be hC rfl (B0.rows_map [o3,x3.1]).symm (n' ?_)
      refine st1 0 rfl (by kernel_rfl) rfl ?_
      refine e' rfl ?_
      refine st1 5 rfl (by kernel_rfl) rfl ?_
      refine e' rfl ?_
      refine st1 6 rfl (by kernel_rfl) rfl ?_
      refine C0.s hC rfl (n' (V0.nil (by kernel_rfl) ?_))
      refine F1.wk ?_ (ih11 _ _ _ hh)
      exact ⟨⟨⟨.rfl,rfl⟩,⟨.rfl,rfl⟩,⟨.rfl,rfl⟩,⟨.rfl,rfl⟩,trivial⟩,⟨⟨rfl,.refl _,rfl⟩,⟨rfl,.refl _,rfl⟩,⟨rfl,.refl _,rfl⟩,⟨rfl,⟨.rfl,.rfl,.rfl,.full,trivial⟩,rfl⟩,trivial⟩,rfl⟩
 ·intro g13 ih13 parserParser res hh
  refine I2.intro hC Tryz.func237 rfl rfl rfl (s' rfl rfl (C0.n hC rfl (C0.nf hC rfl (n' (p' 4 rfl ?_)))))
  rcases bp' hh with ⟨nn,hx1,⟨⟩⟩ | ⟨x1,hx1,hh⟩
  ·exact gr [0,1] (ih13 _ _ hx1) rfl (peW ⟨trivial,trivial⟩ rfl)
  cases hh
  exact gq [0,1] ((ih13 _ _ hx1).ok) rfl (C0.s hC rfl (n' (re' (rq rfl))))
 ·intro g14 g15 ih14 ih15 parserParser res hh
  refine I2.intro hC Tryz.func201 rfl rfl rfl (s' rfl rfl (C0.nf hC rfl (n' (p' 1 rfl ?_))))
  rcases bp' hh with ⟨nn,hx1,⟨⟩⟩ | ⟨x1,hx1,hh⟩
  ·exact gr [0] (ih15 _ _ hx1) rfl (fun hi=>peW ⟨trivial,⟨rfl,.refl _,rfl⟩,trivial⟩ rfl hi)
  exact gq [0] ((ih15 _ _ hx1).ok) rfl (C0.nf hC rfl (C0.s hC rfl (n' (bk' (fq (ih14 _ _ _ hh) rfl)))))
 ·intro g14 g15 ih14 ih15 o0 o3 res hh
  obtain ⟨x2,hx2,hh⟩:=bs' hh
  refine F1.unroll (bk' (p' 1 rfl (gq [1,0] (Np hx2) rfl (e' rfl (S' (t' rfl (ci' rfl hh (fun hh=>?_) (fun hh=>?_))))))))
  ·cases hh
   exact p' 1 rfl (C0.s hC rfl (n' (re' (rq rfl))))
  refine sk' ?_
  rcases bp' hh with ⟨nn,hx3,⟨⟩⟩ | ⟨x3,hx3,hh⟩
  ·refine AEx.drawE hC ?_
   refine V0.step rfl (j0:=0) (js:=[1,2]) (by kernel_rfl) ⟨⟨_,rfl,?_⟩,⟨_,rfl,?_⟩,⟨_,rfl,?_⟩,trivial⟩
   ·refine e' rfl ?_
    refine st2 1 2 rfl (by kernel_rfl) rfl rfl ?_ ?_
    ·refine e' rfl ?_
     refine st1 2 rfl (by kernel_rfl) rfl ?_
     refine e' rfl ?_
     refine st1 3 rfl (by kernel_rfl) rfl ?_
     exact gr [0] (ih15 _ _ hx3) rfl (fun hi=>peW ⟨trivial,⟨rfl,.refl _,rfl⟩,trivial⟩ rfl hi)
    ·refine e' rfl ?_
     refine st2 1 3 rfl (by kernel_rfl) rfl rfl ?_ ?_
     ·refine e' rfl ?_
      refine st1 3 rfl (by kernel_rfl) rfl ?_
      exact gr [0] (ih15 _ _ hx3) rfl (fun hi=>peW ⟨trivial,⟨rfl,.refl _,rfl⟩,trivial⟩ rfl hi)
     ·exact gr [0] (ih15 _ _ hx3) rfl (fun hi=>peW ⟨trivial,⟨rfl,.refl _,rfl⟩,trivial⟩ rfl hi)
   ·refine e' rfl ?_
    refine st2 0 2 rfl (by kernel_rfl) rfl rfl ?_ ?_
    ·refine e' rfl ?_
     refine st1 2 rfl (by kernel_rfl) rfl ?_
     refine e' rfl ?_
     refine st1 3 rfl (by kernel_rfl) rfl ?_
     exact gr [0] (ih15 _ _ hx3) rfl (fun hi=>peW ⟨trivial,⟨rfl,.refl _,rfl⟩,trivial⟩ rfl hi)
    ·refine e' rfl ?_
     refine st2 0 3 rfl (by kernel_rfl) rfl rfl ?_ ?_
     ·refine e' rfl ?_
      refine st1 3 rfl (by kernel_rfl) rfl ?_
      exact gr [0] (ih15 _ _ hx3) rfl (fun hi=>peW ⟨trivial,⟨rfl,.refl _,rfl⟩,trivial⟩ rfl hi)
     ·exact gr [0] (ih15 _ _ hx3) rfl (fun hi=>peW ⟨trivial,⟨rfl,.refl _,rfl⟩,trivial⟩ rfl hi)
   ·refine e' rfl ?_
    refine V0.step rfl (j0:=0) (js:=[1,3]) (by kernel_rfl) ⟨⟨_,rfl,?_⟩,⟨_,rfl,?_⟩,⟨_,rfl,?_⟩,trivial⟩
    ·refine e' rfl ?_
     refine st2 1 3 rfl (by kernel_rfl) rfl rfl ?_ ?_
     ·refine e' rfl ?_
      refine st1 3 rfl (by kernel_rfl) rfl ?_
      exact gr [0] (ih15 _ _ hx3) rfl (fun hi=>peW ⟨trivial,⟨rfl,.refl _,rfl⟩,trivial⟩ rfl hi)
     ·exact gr [0] (ih15 _ _ hx3) rfl (fun hi=>peW ⟨trivial,⟨rfl,.refl _,rfl⟩,trivial⟩ rfl hi)
    ·refine e' rfl ?_
     refine st2 0 3 rfl (by kernel_rfl) rfl rfl ?_ ?_
     ·refine e' rfl ?_
      refine st1 3 rfl (by kernel_rfl) rfl ?_
      exact gr [0] (ih15 _ _ hx3) rfl (fun hi=>peW ⟨trivial,⟨rfl,.refl _,rfl⟩,trivial⟩ rfl hi)
     ·exact gr [0] (ih15 _ _ hx3) rfl (fun hi=>peW ⟨trivial,⟨rfl,.refl _,rfl⟩,trivial⟩ rfl hi)
    ·exact gr [0] (ih15 _ _ hx3) rfl (fun hi=>peW ⟨trivial,⟨rfl,.refl _,rfl⟩,trivial⟩ rfl hi)
  refine AEx.drawE hC ?_
  refine V0.step rfl (j0:=0) (js:=[1,2]) (by kernel_rfl) ⟨⟨_,rfl,?_⟩,⟨_,rfl,?_⟩,⟨_,rfl,?_⟩,trivial⟩
  ·refine e' rfl ?_
   refine st2 1 2 rfl (by kernel_rfl) rfl rfl ?_ ?_
   ·refine e' rfl ?_
    refine st1 2 rfl (by kernel_rfl) rfl ?_
    refine e' rfl ?_
    refine st1 3 rfl (by kernel_rfl) rfl ?_
    refine gq [0] ((ih15 _ _ hx3).ok) rfl (n' ?_)
    refine st1 4 rfl (by kernel_rfl) rfl ?_
    refine C0.be hC rfl (B0.rows_map [o3,x3.1]).symm (n' ?_)
    refine st1 5 rfl (by kernel_rfl) rfl ?_
    refine e' rfl ?_
    refine st1 6 rfl (by kernel_rfl) rfl ?_
    refine C0.s hC rfl (n' (V0.nil (by kernel_rfl) ?_))
    refine F1.wk ?_ (ih14 _ _ _ hh)
    exact ⟨⟨⟨.rfl,rfl⟩,⟨.rfl,rfl⟩,⟨.rfl,rfl⟩,⟨.rfl,rfl⟩,trivial⟩,⟨⟨rfl,.refl _,rfl⟩,⟨rfl,.refl _,rfl⟩,⟨rfl,.refl _,rfl⟩,⟨rfl,⟨.rfl,.rfl,.rfl,.full,trivial⟩,rfl⟩,trivial⟩,rfl⟩
   ·refine e' rfl ?_
    refine st2 1 3 rfl (by kernel_rfl) rfl rfl ?_ ?_
    ·refine e' rfl ?_
     refine st1 3 rfl (by kernel_rfl) rfl ?_
     refine gq [0] ((ih15 _ _ hx3).ok) rfl (n' ?_)
     refine st1 4 rfl (by kernel_rfl) rfl ?_
     refine C0.be hC rfl (B0.rows_map [o3,x3.1]).symm (n' ?_)
     refine st1 5 rfl (by kernel_rfl) rfl ?_
     refine e' rfl ?_
     refine st1 6 rfl (by kernel_rfl) rfl ?_
     refine C0.s hC rfl (n' (V0.nil (by kernel_rfl) ?_))
     refine F1.wk ?_ (ih14 _ _ _ hh)
     exact ⟨⟨⟨.rfl,rfl⟩,⟨.rfl,rfl⟩,⟨.rfl,rfl⟩,⟨.rfl,rfl⟩,trivial⟩,⟨⟨rfl,.refl _,rfl⟩,⟨rfl,.refl _,rfl⟩,⟨rfl,.refl _,rfl⟩,⟨rfl,⟨.rfl,.rfl,.rfl,.full,trivial⟩,rfl⟩,trivial⟩,rfl⟩
    ·refine gq [0] ((ih15 _ _ hx3).ok) rfl (n' ?_)
     refine st1 1 rfl (by kernel_rfl) rfl ?_
     refine e' rfl ?_
     refine st1 4 rfl (by kernel_rfl) rfl ?_
     refine C0.be hC rfl (B0.rows_map [o3,x3.1]).symm (n' ?_)
     refine st1 5 rfl (by kernel_rfl) rfl ?_
     refine e' rfl ?_
     refine st1 6 rfl (by kernel_rfl) rfl ?_
     refine C0.s hC rfl (n' (V0.nil (by kernel_rfl) ?_))
     refine F1.wk ?_ (ih14 _ _ _ hh)
     exact ⟨⟨⟨.rfl,rfl⟩,⟨.rfl,rfl⟩,⟨.rfl,rfl⟩,⟨.rfl,rfl⟩,trivial⟩,⟨⟨rfl,.refl _,rfl⟩,⟨rfl,.refl _,rfl⟩,⟨rfl,.refl _,rfl⟩,⟨rfl,⟨.rfl,.rfl,.rfl,.full,trivial⟩,rfl⟩,trivial⟩,rfl⟩
  ·refine e' rfl ?_
   refine st2 0 2 rfl (by kernel_rfl) rfl rfl ?_ ?_
   ·refine e' rfl ?_
    refine st1 2 rfl (by kernel_rfl) rfl ?_
    refine e' rfl ?_
    refine st1 3 rfl (by kernel_rfl) rfl ?_
    refine gq [0] ((ih15 _ _ hx3).ok) rfl (n' ?_)
    refine st1 4 rfl (by kernel_rfl) rfl ?_
    refine C0.be hC rfl (B0.rows_map [o3,x3.1]).symm (n' ?_)
    refine st1 5 rfl (by kernel_rfl) rfl ?_
    refine e' rfl ?_
    refine st1 6 rfl (by kernel_rfl) rfl ?_
    refine C0.s hC rfl (n' (V0.nil (by kernel_rfl) ?_))
    refine F1.wk ?_ (ih14 _ _ _ hh)
    exact ⟨⟨⟨.rfl,rfl⟩,⟨.rfl,rfl⟩,⟨.rfl,rfl⟩,⟨.rfl,rfl⟩,trivial⟩,⟨⟨rfl,.refl _,rfl⟩,⟨rfl,.refl _,rfl⟩,⟨rfl,.refl _,rfl⟩,⟨rfl,⟨.rfl,.rfl,.rfl,.full,trivial⟩,rfl⟩,trivial⟩,rfl⟩
   ·refine e' rfl ?_
    refine st2 0 3 rfl (by kernel_rfl) rfl rfl ?_ ?_
    ·refine e' rfl ?_
     refine st1 3 rfl (by kernel_rfl) rfl ?_
     refine gq [0] ((ih15 _ _ hx3).ok) rfl (n' ?_)
     refine st1 4 rfl (by kernel_rfl) rfl ?_
     refine C0.be hC rfl (B0.rows_map [o3,x3.1]).symm (n' ?_)
     refine st1 5 rfl (by kernel_rfl) rfl ?_
     refine e' rfl ?_
     refine st1 6 rfl (by kernel_rfl) rfl ?_
     refine C0.s hC rfl (n' (V0.nil (by kernel_rfl) ?_))
     refine F1.wk ?_ (ih14 _ _ _ hh)
     exact ⟨⟨⟨.rfl,rfl⟩,⟨.rfl,rfl⟩,⟨.rfl,rfl⟩,⟨.rfl,rfl⟩,trivial⟩,⟨⟨rfl,.refl _,rfl⟩,⟨rfl,.refl _,rfl⟩,⟨rfl,.refl _,rfl⟩,⟨rfl,⟨.rfl,.rfl,.rfl,.full,trivial⟩,rfl⟩,trivial⟩,rfl⟩
    ·refine gq [0] ((ih15 _ _ hx3).ok) rfl (n' ?_)
     refine st2 0 4 rfl (by kernel_rfl) rfl rfl ?_ ?_
     ·refine e' rfl ?_
      refine st1 4 rfl (by kernel_rfl) rfl ?_
      refine C0.be hC rfl (B0.rows_map [o3,x3.1]).symm (n' ?_)
      refine st1 5 rfl (by kernel_rfl) rfl ?_
      refine e' rfl ?_
      refine st1 6 rfl (by kernel_rfl) rfl ?_
      refine C0.s hC rfl (n' (V0.nil (by kernel_rfl) ?_))
      refine F1.wk ?_ (ih14 _ _ _ hh)
      exact ⟨⟨⟨.rfl,rfl⟩,⟨.rfl,rfl⟩,⟨.rfl,rfl⟩,⟨.rfl,rfl⟩,trivial⟩,⟨⟨rfl,.refl _,rfl⟩,⟨rfl,.refl _,rfl⟩,⟨rfl,.refl _,rfl⟩,⟨rfl,⟨.rfl,.rfl,.rfl,.full,trivial⟩,rfl⟩,trivial⟩,rfl⟩
     ·refine C0.be hC rfl (B0.rows_map [o3,x3.1]).symm (n' ?_)
      refine st1 0 rfl (by kernel_rfl) rfl ?_
      refine e' rfl ?_
      refine st1 5 rfl (by kernel_rfl) rfl ?_
      refine e' rfl ?_
      refine st1 6 rfl (by kernel_rfl) rfl ?_
      refine C0.s hC rfl (n' (V0.nil (by kernel_rfl) ?_))
      refine F1.wk ?_ (ih14 _ _ _ hh)
      exact ⟨⟨⟨.rfl,rfl⟩,⟨.rfl,rfl⟩,⟨.rfl,rfl⟩,⟨.rfl,rfl⟩,trivial⟩,⟨⟨rfl,.refl _,rfl⟩,⟨rfl,.refl _,rfl⟩,⟨rfl,.refl _,rfl⟩,⟨rfl,⟨.rfl,.rfl,.rfl,.full,trivial⟩,rfl⟩,trivial⟩,rfl⟩
  ·refine e' rfl ?_
   refine V0.step rfl (j0:=0) (js:=[1,3]) (by kernel_rfl) ⟨⟨_,rfl,?_⟩,⟨_,rfl,?_⟩,⟨_,rfl,?_⟩,trivial⟩
   ·refine e' rfl ?_
    refine st2 1 3 rfl (by kernel_rfl) rfl rfl ?_ ?_
    ·refine e' rfl ?_
     refine st1 3 rfl (by kernel_rfl) rfl ?_
     refine gq [0] ((ih15 _ _ hx3).ok) rfl (n' ?_)
     refine st1 4 rfl (by kernel_rfl) rfl ?_
     refine C0.be hC rfl (B0.rows_map [o3,x3.1]).symm (n' ?_)
     refine st1 5 rfl (by kernel_rfl) rfl ?_
     refine e' rfl ?_
     refine st1 6 rfl (by kernel_rfl) rfl ?_
     refine C0.s hC rfl (n' (V0.nil (by kernel_rfl) ?_))
     refine F1.wk ?_ (ih14 _ _ _ hh)
     exact ⟨⟨⟨.rfl,rfl⟩,⟨.rfl,rfl⟩,⟨.rfl,rfl⟩,⟨.rfl,rfl⟩,trivial⟩,⟨⟨rfl,.refl _,rfl⟩,⟨rfl,.refl _,rfl⟩,⟨rfl,.refl _,rfl⟩,⟨rfl,⟨.rfl,.rfl,.rfl,.full,trivial⟩,rfl⟩,trivial⟩,rfl⟩
    ·refine gq [0] ((ih15 _ _ hx3).ok) rfl (n' ?_)
     refine st1 1 rfl (by kernel_rfl) rfl ?_
     refine e' rfl ?_
     refine st1 4 rfl (by kernel_rfl) rfl ?_
     refine C0.be hC rfl (B0.rows_map [o3,x3.1]).symm (n' ?_)
     refine st1 5 rfl (by kernel_rfl) rfl ?_
     refine e' rfl ?_
     refine st1 6 rfl (by kernel_rfl) rfl ?_
     refine C0.s hC rfl (n' (V0.nil (by kernel_rfl) ?_))
     refine F1.wk ?_ (ih14 _ _ _ hh)
     exact ⟨⟨⟨.rfl,rfl⟩,⟨.rfl,rfl⟩,⟨.rfl,rfl⟩,⟨.rfl,rfl⟩,trivial⟩,⟨⟨rfl,.refl _,rfl⟩,⟨rfl,.refl _,rfl⟩,⟨rfl,.refl _,rfl⟩,⟨rfl,⟨.rfl,.rfl,.rfl,.full,trivial⟩,rfl⟩,trivial⟩,rfl⟩
   ·refine e' rfl ?_
    refine st2 0 3 rfl (by kernel_rfl) rfl rfl ?_ ?_
    ·refine e' rfl ?_
     refine st1 3 rfl (by kernel_rfl) rfl ?_
     refine gq [0] ((ih15 _ _ hx3).ok) rfl (n' ?_)
     refine st1 4 rfl (by kernel_rfl) rfl ?_
     refine C0.be hC rfl (B0.rows_map [o3,x3.1]).symm (n' ?_)
     refine st1 5 rfl (by kernel_rfl) rfl ?_
     refine e' rfl ?_
     refine st1 6 rfl (by kernel_rfl) rfl ?_
     refine C0.s hC rfl (n' (V0.nil (by kernel_rfl) ?_))
     refine F1.wk ?_ (ih14 _ _ _ hh)
     exact ⟨⟨⟨.rfl,rfl⟩,⟨.rfl,rfl⟩,⟨.rfl,rfl⟩,⟨.rfl,rfl⟩,trivial⟩,⟨⟨rfl,.refl _,rfl⟩,⟨rfl,.refl _,rfl⟩,⟨rfl,.refl _,rfl⟩,⟨rfl,⟨.rfl,.rfl,.rfl,.full,trivial⟩,rfl⟩,trivial⟩,rfl⟩
    ·refine gq [0] ((ih15 _ _ hx3).ok) rfl (n' ?_)
     refine st2 0 4 rfl (by kernel_rfl) rfl rfl ?_ ?_
     ·refine e' rfl ?_
      refine st1 4 rfl (by kernel_rfl) rfl ?_
      refine C0.be hC rfl (B0.rows_map [o3,x3.1]).symm (n' ?_)
      refine st1 5 rfl (by kernel_rfl) rfl ?_
      refine e' rfl ?_
      refine st1 6 rfl (by kernel_rfl) rfl ?_
      refine C0.s hC rfl (n' (V0.nil (by kernel_rfl) ?_))
      refine F1.wk ?_ (ih14 _ _ _ hh)
      exact ⟨⟨⟨.rfl,rfl⟩,⟨.rfl,rfl⟩,⟨.rfl,rfl⟩,⟨.rfl,rfl⟩,trivial⟩,⟨⟨rfl,.refl _,rfl⟩,⟨rfl,.refl _,rfl⟩,⟨rfl,.refl _,rfl⟩,⟨rfl,⟨.rfl,.rfl,.rfl,.full,trivial⟩,rfl⟩,trivial⟩,rfl⟩
     ·refine C0.be hC rfl (B0.rows_map [o3,x3.1]).symm (n' ?_)
      refine st1 0 rfl (by kernel_rfl) rfl ?_
      refine e' rfl ?_
      refine st1 5 rfl (by kernel_rfl) rfl ?_
      refine e' rfl ?_
      refine st1 6 rfl (by kernel_rfl) rfl ?_
      refine C0.s hC rfl (n' (V0.nil (by kernel_rfl) ?_))
      refine F1.wk ?_ (ih14 _ _ _ hh)
      exact ⟨⟨⟨.rfl,rfl⟩,⟨.rfl,rfl⟩,⟨.rfl,rfl⟩,⟨.rfl,rfl⟩,trivial⟩,⟨⟨rfl,.refl _,rfl⟩,⟨rfl,.refl _,rfl⟩,⟨rfl,.refl _,rfl⟩,⟨rfl,⟨.rfl,.rfl,.rfl,.full,trivial⟩,rfl⟩,trivial⟩,rfl⟩
   ·refine gq [0] ((ih15 _ _ hx3).ok) rfl (n' ?_)
    refine st2 0 1 rfl (by kernel_rfl) rfl rfl ?_ ?_
    ·refine e' rfl ?_
     refine st1 1 rfl (by kernel_rfl) rfl ?_
     refine e' rfl ?_
     refine st1 4 rfl (by kernel_rfl) rfl ?_
     refine C0.be hC rfl (B0.rows_map [o3,x3.1]).symm (n' ?_)
     refine st1 5 rfl (by kernel_rfl) rfl ?_
     refine e' rfl ?_
     refine st1 6 rfl (by kernel_rfl) rfl ?_
     refine C0.s hC rfl (n' (V0.nil (by kernel_rfl) ?_))
     refine F1.wk ?_ (ih14 _ _ _ hh)
     exact ⟨⟨⟨.rfl,rfl⟩,⟨.rfl,rfl⟩,⟨.rfl,rfl⟩,⟨.rfl,rfl⟩,trivial⟩,⟨⟨rfl,.refl _,rfl⟩,⟨rfl,.refl _,rfl⟩,⟨rfl,.refl _,rfl⟩,⟨rfl,⟨.rfl,.rfl,.rfl,.full,trivial⟩,rfl⟩,trivial⟩,rfl⟩
    ·refine e' rfl ?_
     refine st2 0 4 rfl (by kernel_rfl) rfl rfl ?_ ?_
     ·refine e' rfl ?_
      refine st1 4 rfl (by kernel_rfl) rfl ?_
      refine C0.be hC rfl (B0.rows_map [o3,x3.1]).symm (n' ?_)
      refine st1 5 rfl (by kernel_rfl) rfl ?_
      refine e' rfl ?_
      refine st1 6 rfl (by kernel_rfl) rfl ?_
      refine C0.s hC rfl (n' (V0.nil (by kernel_rfl) ?_))
      refine F1.wk ?_ (ih14 _ _ _ hh)
      exact ⟨⟨⟨.rfl,rfl⟩,⟨.rfl,rfl⟩,⟨.rfl,rfl⟩,⟨.rfl,rfl⟩,trivial⟩,⟨⟨rfl,.refl _,rfl⟩,⟨rfl,.refl _,rfl⟩,⟨rfl,.refl _,rfl⟩,⟨rfl,⟨.rfl,.rfl,.rfl,.full,trivial⟩,rfl⟩,trivial⟩,rfl⟩
     ·refine C0.be hC rfl (B0.rows_map [o3,x3.1]).symm (n' ?_)
      refine st1 0 rfl (by kernel_rfl) rfl ?_
      refine e' rfl ?_
      refine st1 5 rfl (by kernel_rfl) rfl ?_
      refine e' rfl ?_
      refine st1 6 rfl (by kernel_rfl) rfl ?_
      refine C0.s hC rfl (n' (V0.nil (by kernel_rfl) ?_))
      refine F1.wk ?_ (ih14 _ _ _ hh)
      exact ⟨⟨⟨.rfl,rfl⟩,⟨.rfl,rfl⟩,⟨.rfl,rfl⟩,⟨.rfl,rfl⟩,trivial⟩,⟨⟨rfl,.refl _,rfl⟩,⟨rfl,.refl _,rfl⟩,⟨rfl,.refl _,rfl⟩,⟨rfl,⟨.rfl,.rfl,.rfl,.full,trivial⟩,rfl⟩,trivial⟩,rfl⟩
 ·intro g15 g16 ih15 ih16 parserParser res hh
  obtain ⟨x1,hx1,hh⟩:=bs' hh
  refine I2.intro hC Tryz.func242 rfl rfl rfl (s' rfl rfl (C0.nf hC rfl (n' (S' (bk' (p' 1 rfl (gq [0] (O0 hx1) rfl (e' rfl (ci' rfl hh (fun hh=>?_) (fun hh=>?_))))))))))
  ·refine p' 1 rfl ?_
   rcases bp' hh with ⟨nn,hx4,⟨⟩⟩ | ⟨x4,hx4,hh⟩
   ·exact gr [0] (ih15 _ _ hx4) rfl (peW ⟨trivial,trivial⟩ rfl)
   refine gq [0] ((ih15 _ _ hx4).ok) rfl (C0.be hC rfl (B0.rows_map [x4.1]).symm (q' rfl (C0.s hC rfl (n' (re' ?_)))))
   have hq:=oi' hh
   subst hq
   exact ⟨_,.agg [.d (.int .i64 6),.d (.int .i64 0),.d (.str []),.d (.sl (B0.rows [x4.1]))],[.row (A0.cells x4.2) 112],rfl,(.aggL ⟨.rfl,.rfl,.rfl,.full,trivial⟩),⟨⟨rfl,.refl _,rfl⟩,trivial⟩,rfl,rfl,rpq rfl rfl⟩
  obtain ⟨x2,hx2,hh⟩:=bs' hh
  refine p' 1 rfl (gq [0] (O0 hx2) rfl (e' rfl (ci' rfl hh (fun hh=>?_) (fun hh=>?_))))
  ·refine p' 1 rfl ?_
   rcases bp' hh with ⟨nn,hx5,⟨⟩⟩ | ⟨x5,hx5,hh⟩
   ·exact gr [0] (ih15 _ _ hx5) rfl (peW ⟨trivial,trivial⟩ rfl)
   refine gq [0] ((ih15 _ _ hx5).ok) rfl (C0.be hC rfl (B0.rows_map [x5.1]).symm (q' rfl (C0.s hC rfl (n' (re' ?_)))))
   have hq:=oi' hh
   subst hq
   exact ⟨_,.agg [.d (.int .i64 7),.d (.int .i64 0),.d (.str []),.d (.sl (B0.rows [x5.1]))],[.row (A0.cells x5.2) 112],rfl,(.aggL ⟨.rfl,.rfl,.rfl,.full,trivial⟩),⟨⟨rfl,.refl _,rfl⟩,trivial⟩,rfl,rfl,rpq rfl rfl⟩
  refine sk' (p' 1 rfl ?_)
  rcases bp' hh with ⟨nn,hx3,⟨⟩⟩ | ⟨x3,hx3,hh⟩
  ·exact gr [0] (ih16 _ _ hx3) rfl (peW ⟨trivial,trivial⟩ rfl)
  cases hh
  exact gq [0] ((ih16 _ _ hx3).ok) rfl (C0.s hC rfl (n' (re' (rq rfl))))
 ·intro g0 g17 g18 ih0 ih17 ih18 parserParser res hh
  obtain ⟨x1,hx1,hh⟩:=bs' hh
  refine I2.intro hC Tryz.func246 rfl rfl rfl (s' rfl rfl (C0.nf hC rfl (n' (S' (bk' (p' 1 rfl (gq [0] (Ze hx1) rfl (e' rfl (ci' rfl hh (fun hh=>?_) (fun hh=>?_))))))))))
  ·refine p' 1 rfl ?_
   rcases bp' hh with ⟨nn,hx2,⟨⟩⟩ | ⟨x2,hx2,hh⟩
   ·exact gr [0] (ih18 _ _ hx2) rfl (peW ⟨trivial,trivial⟩ rfl)
   cases hh
   exact gq [0] ((ih18 _ _ hx2).ok) rfl (C0.s hC rfl (n' (re' (rq rfl))))
  obtain ⟨x3,hx3,hh⟩:=bs' hh
  refine p' 1 rfl (gq [0] (O0 hx3) rfl (e' rfl (ci' rfl hh (fun hh=>?_) (fun hh=>?_))))
  ·cases hh
   exact p' 1 rfl (C0.s hC rfl (n' (re' (rq rfl))))
  obtain ⟨x4,hx4,hh⟩:=bs' hh
  refine p' 1 rfl (gq [0] (O0 hx4) rfl (e' rfl (ci' rfl hh (fun hh=>?_) (fun hh=>?_))))
  ·cases hh
   exact p' 1 rfl (C0.s hC rfl (n' (re' (rq rfl))))
  obtain ⟨x5,hx5,hh⟩:=bs' hh
  refine p' 1 rfl (gq [0] (O0 hx5) rfl (e' rfl (ci' rfl hh (fun hh=>?_) (fun hh=>?_))))
  ·refine p' 1 rfl ?_
   rcases bp' hh with ⟨nn,hx11,⟨⟩⟩ | ⟨x11,hx11,hh⟩
   ·exact gr [0] (ih17 _ _ _ hx11) rfl (peW ⟨trivial,trivial⟩ rfl)
   cases hh
   exact gq [0] ((ih17 _ _ _ hx11).ok) rfl (C0.s hC rfl (n' (re' (rq rfl))))
  obtain ⟨x6,hx6,hh⟩:=bs' hh
  refine p' 1 rfl (gq [0] (O0 hx6) rfl (e' rfl (ci' rfl hh (fun hh=>?_) (fun hh=>?_))))
  ·refine p' 1 rfl ?_
   rcases bp' hh with ⟨nn,hx12,⟨⟩⟩ | ⟨x12,hx12,hh⟩
   ·exact gr [0] (ih17 _ _ _ hx12) rfl (peW ⟨trivial,trivial⟩ rfl)
   cases hh
   exact gq [0] ((ih17 _ _ _ hx12).ok) rfl (C0.s hC rfl (n' (re' (rq rfl))))
  obtain ⟨x7,hx7,hh⟩:=bs' hh
  refine p' 1 rfl (gq [0] (O0 hx7) rfl (e' rfl (ci' rfl hh (fun hh=>?_) (fun hh=>?_))))
  ·refine p' 1 rfl ?_
   rcases bp' hh with ⟨nn,hx9,⟨⟩⟩ | ⟨x9,hx9,hh⟩
   ·exact gr [0] (ih0 _ _ hx9) rfl (peW ⟨trivial,trivial⟩ rfl)
   refine gq [0] ((ih0 _ _ hx9).ok) rfl (C0.nf hC rfl (C0.s hC rfl (n' (p' 1 rfl ?_))))
   rcases bp' hh with ⟨nn,hx10,⟨⟩⟩ | ⟨x10,hx10,hh⟩
   ·exact gr [0] (F0 hx10) rfl (peW ⟨trivial,trivial⟩ rfl)
   cases hh
   exact gq [0] ((F0 hx10).ok) rfl (n' (p' 1 rfl (C0.s hC rfl (n' (re' (rq rfl))))))
  refine sk' (p' 1 rfl ?_)
  rcases bp' hh with ⟨nn,hx8,⟨⟩⟩ | ⟨x8,hx8,hh⟩
  ·exact gr [0] (T5 hx8) rfl (peW ⟨trivial,trivial⟩ rfl)
  cases hh
  exact gq [0] ((T5 hx8).ok) rfl (q' rfl (C0.s hC rfl (n' (re' (rq rfl)))))
 ·intro g0 ih0 op parserParser res hh
  refine I2.intro hC Tryz.func247 rfl rfl rfl (s' rfl rfl (C0.nf hC rfl (n' (p' 1 rfl ?_))))
  rcases bp' hh with ⟨nn,hx1,⟨⟩⟩ | ⟨x1,hx1,hh⟩
  ·exact gr [0] (F0 hx1) rfl (peW ⟨trivial,trivial⟩ rfl)
  refine gq [0] ((F0 hx1).ok) rfl (n' (p' 1 rfl ?_))
  rcases bp' hh with ⟨nn,hx2,⟨⟩⟩ | ⟨x2,hx2,hh⟩
  ·exact gr [0] (ih0 _ _ hx2) rfl (peW ⟨trivial,trivial⟩ rfl)
  refine gq [0] ((ih0 _ _ hx2).ok) rfl (C0.nf hC rfl (C0.s hC rfl (n' (p' 1 rfl ?_))))
  rcases bp' hh with ⟨nn,hx3,⟨⟩⟩ | ⟨x3,hx3,hh⟩
  ·exact gr [0] (F0 hx3) rfl (peW ⟨trivial,trivial⟩ rfl)
  refine gq [0] ((F0 hx3).ok) rfl (n' (p' 1 rfl ?_))
  rcases bp' hh with ⟨nn,hx4,⟨⟩⟩ | ⟨x4,hx4,hh⟩
  ·exact gr [0] (ih0 _ _ hx4) rfl (peW ⟨trivial,trivial⟩ rfl)
  refine gq [0] ((ih0 _ _ hx4).ok) rfl (C0.nf hC rfl (C0.s hC rfl (n' (p' 1 rfl ?_))))
  rcases bp' hh with ⟨nn,hx5,⟨⟩⟩ | ⟨x5,hx5,hh⟩
  ·exact gr [0] (F0 hx5) rfl (peW ⟨trivial,trivial⟩ rfl)
  refine gq [0] ((F0 hx5).ok) rfl (n' (p' 3 rfl (C0.be hC rfl (B0.rows_map [x2.1,x4.1]).symm (q' rfl (C0.s hC rfl (n' (re' ?_)))))))
  have hq:=oi' hh
  subst hq
  exact ⟨_,.agg [.d (.int .i64 op),.d (.int .i64 0),.d (.str []),.d (.sl (B0.rows [x2.1,x4.1]))],[.row (A0.cells x5) 112],rfl,(.aggL ⟨.rfl,.rfl,.rfl,.full,trivial⟩),⟨⟨rfl,.refl _,rfl⟩,trivial⟩,rfl,rfl,rpq rfl rfl⟩
 ·intro g19 ih19 parserParser res hh
  refine I2.intro hC Tryz.func204 rfl rfl rfl (s' rfl rfl (C0.nf hC rfl (n' (p' 1 rfl ?_))))
  rcases bp' hh with ⟨nn,hx1,⟨⟩⟩ | ⟨x1,hx1,hh⟩
  ·exact gr [0] (C1 hx1) rfl (peW ⟨trivial,trivial⟩ rfl)
  exact gq [0] ((C1 hx1).ok) rfl (q' rfl (C0.nf hC rfl (C0.s hC rfl (n' (bk' (fq (ih19 _ _ _ _ _ hh) rfl))))))
 ·intro g0 g19 ih0 ih19 o0 o2_Op o2_Name o2_Kids res hh
  obtain ⟨x2,hx2,hh⟩:=bs' hh
  refine F1.unroll (bk' (bk' (p' 1 rfl (gq [0] (O0 hx2) rfl (e' rfl (ci' rfl hh (fun hh=>?_) (fun hh=>?_)))))))
  ·rcases bp' hh with ⟨nn,hx3,⟨⟩⟩ | ⟨x3,hx3,hh⟩
   ·refine AEx.drawE hC ?_
    refine st2 0 2 rfl (by kernel_rfl) rfl rfl ?_ ?_
    ·refine e' rfl ?_
     refine st2 1 2 rfl (by kernel_rfl) rfl rfl ?_ ?_
     ·exact gr [0] (C1 hx3) rfl (peW ⟨trivial,trivial⟩ rfl)
     ·refine e' rfl ?_
      refine st2 1 3 rfl (by kernel_rfl) rfl rfl ?_ ?_
      ·exact gr [0] (C1 hx3) rfl (peW ⟨trivial,trivial⟩ rfl)
      ·refine C0.be hC rfl (B0.rows_map [(B0.mk o2_Op 0 o2_Name o2_Kids)]).symm (n' ?_)
       refine st1 1 rfl (by kernel_rfl) rfl ?_
       exact gr [0] (C1 hx3) rfl (peW ⟨trivial,trivial⟩ rfl)
    ·refine e' rfl ?_
     refine st2 0 3 rfl (by kernel_rfl) rfl rfl ?_ ?_
     ·refine e' rfl ?_
      refine st2 1 3 rfl (by kernel_rfl) rfl rfl ?_ ?_
      ·exact gr [0] (C1 hx3) rfl (peW ⟨trivial,trivial⟩ rfl)
      ·refine C0.be hC rfl (B0.rows_map [(B0.mk o2_Op 0 o2_Name o2_Kids)]).symm (n' ?_)
       refine st1 1 rfl (by kernel_rfl) rfl ?_
       exact gr [0] (C1 hx3) rfl (peW ⟨trivial,trivial⟩ rfl)
     ·refine C0.be hC rfl (B0.rows_map [(B0.mk o2_Op 0 o2_Name o2_Kids)]).symm (n' ?_)
      refine st1 0 rfl (by kernel_rfl) rfl ?_
      refine e' rfl ?_
      refine st1 1 rfl (by kernel_rfl) rfl ?_
      exact gr [0] (C1 hx3) rfl (peW ⟨trivial,trivial⟩ rfl)
   refine AEx.drawE hC ?_
   refine st2 0 2 rfl (by kernel_rfl) rfl rfl ?_ ?_
   ·refine e' rfl ?_
    refine st2 1 2 rfl (by kernel_rfl) rfl rfl ?_ ?_
    ·refine gq [0] ((C1 hx3).ok) rfl (n' ?_)
     refine st1 2 rfl (by kernel_rfl) rfl ?_
     refine e' rfl ?_
     refine st1 3 rfl (by kernel_rfl) rfl ?_
     refine C0.be hC rfl (B0.rows_map [(B0.mk o2_Op 0 o2_Name o2_Kids)]).symm (n' ?_)
     refine st1 4 rfl (by kernel_rfl) rfl ?_
     refine e' rfl ?_
     refine st1 5 rfl (by kernel_rfl) rfl ?_
     refine C0.s hC rfl (n' (V0.nil (by kernel_rfl) ?_))
     refine F1.wk ?_ (ih19 _ _ _ _ _ hh)
     exact ⟨⟨⟨.rfl,rfl⟩,⟨.rfl,rfl⟩,⟨.rfl,rfl⟩,trivial⟩,⟨⟨rfl,.refl _,rfl⟩,⟨rfl,.refl _,rfl⟩,⟨rfl,⟨.rfl,.rfl,.rfl,.full,trivial⟩,rfl⟩,trivial⟩,rfl⟩
    ·refine e' rfl ?_
     refine st2 1 3 rfl (by kernel_rfl) rfl rfl ?_ ?_
     ·refine gq [0] ((C1 hx3).ok) rfl (n' ?_)
      refine st1 3 rfl (by kernel_rfl) rfl ?_
      refine C0.be hC rfl (B0.rows_map [(B0.mk o2_Op 0 o2_Name o2_Kids)]).symm (n' ?_)
      refine st1 4 rfl (by kernel_rfl) rfl ?_
      refine e' rfl ?_
      refine st1 5 rfl (by kernel_rfl) rfl ?_
      refine C0.s hC rfl (n' (V0.nil (by kernel_rfl) ?_))
      refine F1.wk ?_ (ih19 _ _ _ _ _ hh)
      exact ⟨⟨⟨.rfl,rfl⟩,⟨.rfl,rfl⟩,⟨.rfl,rfl⟩,trivial⟩,⟨⟨rfl,.refl _,rfl⟩,⟨rfl,.refl _,rfl⟩,⟨rfl,⟨.rfl,.rfl,.rfl,.full,trivial⟩,rfl⟩,trivial⟩,rfl⟩
     ·refine C0.be hC rfl (B0.rows_map [(B0.mk o2_Op 0 o2_Name o2_Kids)]).symm (n' ?_)
      refine st1 1 rfl (by kernel_rfl) rfl ?_
      refine gq [0] ((C1 hx3).ok) rfl (n' ?_)
      refine st1 4 rfl (by kernel_rfl) rfl ?_
      refine e' rfl ?_
      refine st1 5 rfl (by kernel_rfl) rfl ?_
      refine C0.s hC rfl (n' (V0.nil (by kernel_rfl) ?_))
      refine F1.wk ?_ (ih19 _ _ _ _ _ hh)
      exact ⟨⟨⟨.rfl,rfl⟩,⟨.rfl,rfl⟩,⟨.rfl,rfl⟩,trivial⟩,⟨⟨rfl,.refl _,rfl⟩,⟨rfl,.refl _,rfl⟩,⟨rfl,⟨.rfl,.rfl,.rfl,.full,trivial⟩,rfl⟩,trivial⟩,rfl⟩
   ·refine e' rfl ?_
    refine st2 0 3 rfl (by kernel_rfl) rfl rfl ?_ ?_
    ·refine e' rfl ?_
     refine st2 1 3 rfl (by kernel_rfl) rfl rfl ?_ ?_
     ·refine gq [0] ((C1 hx3).ok) rfl (n' ?_)
      refine st1 3 rfl (by kernel_rfl) rfl ?_
      refine C0.be hC rfl (B0.rows_map [(B0.mk o2_Op 0 o2_Name o2_Kids)]).symm (n' ?_)
      refine st1 4 rfl (by kernel_rfl) rfl ?_
      refine e' rfl ?_
      refine st1 5 rfl (by kernel_rfl) rfl ?_
      refine C0.s hC rfl (n' (V0.nil (by kernel_rfl) ?_))
      refine F1.wk ?_ (ih19 _ _ _ _ _ hh)
      exact ⟨⟨⟨.rfl,rfl⟩,⟨.rfl,rfl⟩,⟨.rfl,rfl⟩,trivial⟩,⟨⟨rfl,.refl _,rfl⟩,⟨rfl,.refl _,rfl⟩,⟨rfl,⟨.rfl,.rfl,.rfl,.full,trivial⟩,rfl⟩,trivial⟩,rfl⟩
     ·refine C0.be hC rfl (B0.rows_map [(B0.mk o2_Op 0 o2_Name o2_Kids)]).symm (n' ?_)
      refine st1 1 rfl (by kernel_rfl) rfl ?_
      refine gq [0] ((C1 hx3).ok) rfl (n' ?_)
      refine st1 4 rfl (by kernel_rfl) rfl ?_
      refine e' rfl ?_
      refine st1 5 rfl (by kernel_rfl) rfl ?_
      refine C0.s hC rfl (n' (V0.nil (by kernel_rfl) ?_))
      refine F1.wk ?_ (ih19 _ _ _ _ _ hh)
      exact ⟨⟨⟨.rfl,rfl⟩,⟨.rfl,rfl⟩,⟨.rfl,rfl⟩,trivial⟩,⟨⟨rfl,.refl _,rfl⟩,⟨rfl,.refl _,rfl⟩,⟨rfl,⟨.rfl,.rfl,.rfl,.full,trivial⟩,rfl⟩,trivial⟩,rfl⟩
    ·refine C0.be hC rfl (B0.rows_map [(B0.mk o2_Op 0 o2_Name o2_Kids)]).symm (n' ?_)
     refine st1 0 rfl (by kernel_rfl) rfl ?_
     refine e' rfl ?_
     refine st1 1 rfl (by kernel_rfl) rfl ?_
     refine gq [0] ((C1 hx3).ok) rfl (n' ?_)
     refine st1 4 rfl (by kernel_rfl) rfl ?_
     refine e' rfl ?_
     refine st1 5 rfl (by kernel_rfl) rfl ?_
     refine C0.s hC rfl (n' (V0.nil (by kernel_rfl) ?_))
     refine F1.wk ?_ (ih19 _ _ _ _ _ hh)
     exact ⟨⟨⟨.rfl,rfl⟩,⟨.rfl,rfl⟩,⟨.rfl,rfl⟩,trivial⟩,⟨⟨rfl,.refl _,rfl⟩,⟨rfl,.refl _,rfl⟩,⟨rfl,⟨.rfl,.rfl,.rfl,.full,trivial⟩,rfl⟩,trivial⟩,rfl⟩
  obtain ⟨x4,hx4,hh⟩:=bs' hh
  refine p' 1 rfl (gq [0] (O0 hx4) rfl (e' rfl (ci' rfl hh (fun hh=>?_) (fun hh=>?_))))
  ·refine p' 1 rfl ?_
   rcases bp' hh with ⟨nn,hx5,⟨⟩⟩ | ⟨x5,hx5,hh⟩
   ·exact gr [0] (ih0 _ _ hx5) rfl (peW ⟨trivial,trivial⟩ rfl)
   refine gq [0] ((ih0 _ _ hx5).ok) rfl (C0.nf hC rfl (C0.s hC rfl (n' (p' 1 rfl ?_))))
   rcases bp' hh with ⟨nn,hx6,⟨⟩⟩ | ⟨x6,hx6,hh⟩
   ·exact gr [0] (F0 hx6) rfl (peW ⟨trivial,trivial⟩ rfl)
   refine gq [0] ((F0 hx6).ok) rfl (n' (P' 2 rfl (C0.be hC rfl (B0.rows_map [(B0.mk o2_Op 0 o2_Name o2_Kids),x5.1]).symm (q' rfl (C0.s hC rfl (n' ?_))))))
   refine F1.wk ?_ (ih19 _ _ _ _ _ hh)
   exact ⟨⟨⟨.rfl,rfl⟩,⟨.rfl,rfl⟩,⟨.rfl,rfl⟩,trivial⟩,⟨⟨rfl,.refl _,rfl⟩,⟨rfl,.refl _,rfl⟩,⟨rfl,⟨.rfl,.rfl,.rfl,.full,trivial⟩,rfl⟩,trivial⟩,rfl⟩
  cases hh
  exact p' 1 rfl (C0.s hC rfl (n' (re' (rq rfl))))
theorem T0 {parserParser res}(hh:T1 parserParser=some res):Bi parserParser res:=(Cg).1 _ _ hh
theorem Yj {parserParser res}(hh:J6 parserParser=some res):Bl parserParser res:=(Cg).2.2.2.2.2.2.2.2.2.2.2.2.2.2.2.2.2.2.1 _ _ hh
def V3 (o0:A0)(x1:B0×A0)(x4:Str×A0)(o2_Args:List B0):Option (Pn (J0×A0)):=
 S0 [44] o0>>=fun x13=>
 if x13.1=true then
  T1 x13.2>>=fun x14=>match x14 with
  | .pn nn=>
  some (.pn nn)
  | .ok x14=>
  if (decide ((o2_Args.length+1) * 57≤140737488355328))=true then
   V3 x14.2 x1 x4 (o2_Args++[x14.1])
  else none
 else
  U0 [41] x13.2>>=fun x8=>match x8 with
  | .pn nn=>
  some (.pn nn)
  | .ok x8=>
  U0 [59] x8>>=fun x9=>match x9 with
  | .pn nn=>
  some (.pn nn)
  | .ok x9=>
  some (.ok ((J0.mk 1 x1.1 (B0.mk 0 0 [] []) x4.1 o2_Args 0 0 0 [] [] []),x9))
 partial_fixpoint
abbrev Sf (o0:A0)(x1:B0×A0)(x4:Str×A0)(o2_Args:List B0)(res:Pn (J0×A0)):Prop:=LMp C 52 1 Tryz.f163 [1,1,1,0,4,1,2,1,1,0,1,2,1,4] [(0,.ref 0 0),(2,.ref 1 0),(3,.ref 2 0)] [.row (A0.cells o0) 112,.row [.d (.int .i64 0),.d (.int .i64 0),.d (.int .i64 0),.d (.str []),.full (B0.rows []),.d (.int .i64 0),.d (.int .i64 0),.d (.str []),.full (B0.rows []),.d (.str []),.full (B0.rows []),.d (.int .i64 0),.d (.int .i64 0),.d (.int .i64 0),.full (ei64.rows []),.full (J0.rows []),.full (J0.rows [])] 88,.row [.d (.int .i64 1),.d (.int .i64 x1.1.Op),.d (.int .i64 x1.1.NV),.d (.str x1.1.Name),.d (.sl (B0.rows x1.1.Kids)),.d (.int .i64 0),.d (.int .i64 0),.d (.str []),.full (B0.rows []),.d (.str x4.1),.osl 3 (B0.rows o2_Args),.d (.int .i64 0),.d (.int .i64 0),.d (.int .i64 0),.full (ei64.rows []),.full (J0.rows []),.full (J0.rows [])] 88,.tok 80 4] (P4 res (fun rr=>[.row (A0.cells rr.2) 112]) (fun rr=>.agg (J0.cells rr.1))) (H4 res O3 [.dead])
theorem Hl (x1:B0×A0)(x4:Str×A0):(∀ o0 o2_Args res,V3 o0 x1 x4 o2_Args=some res→Sf o0 x1 x4 o2_Args res):=by
 refine V3.partial_correctness x1 x4 _ ?_
 ·intro g0 ih0 o0 o2_Args res hh
  obtain ⟨x13,hx13,hh⟩:=bs' hh
  refine F1.unroll (S' (p' 1 rfl (gq [0] (O0 hx13) rfl (n' (ci' rfl hh (fun hh=>?_) (fun hh=>?_))))))
  ·refine sk' (bk' ?_)
   rcases bp' hh with ⟨nn,hx14,⟨⟩⟩ | ⟨x14,hx14,hh⟩
   ·refine AEx.drawE hC ?_
    refine st2 0 2 rfl (by kernel_rfl) rfl rfl ?_ ?_
    ·refine e' rfl ?_
     refine st2 1 2 rfl (by kernel_rfl) rfl rfl ?_ ?_
     ·refine e' rfl ?_
      refine st1 2 rfl (by kernel_rfl) rfl ?_
      refine e' rfl ?_
      refine st1 3 rfl (by kernel_rfl) rfl ?_
      exact gr [0] (T0 hx14) rfl (peW ⟨trivial,trivial⟩ rfl)
     ·refine e' rfl ?_
      refine st2 1 3 rfl (by kernel_rfl) rfl rfl ?_ ?_
      ·refine e' rfl ?_
       refine st1 3 rfl (by kernel_rfl) rfl ?_
       exact gr [0] (T0 hx14) rfl (peW ⟨trivial,trivial⟩ rfl)
      ·exact gr [0] (T0 hx14) rfl (peW ⟨trivial,trivial⟩ rfl)
    ·refine e' rfl ?_
     refine st2 0 3 rfl (by kernel_rfl) rfl rfl ?_ ?_
     ·refine e' rfl ?_
      refine st2 1 3 rfl (by kernel_rfl) rfl rfl ?_ ?_
      ·refine e' rfl ?_
       refine st1 3 rfl (by kernel_rfl) rfl ?_
       exact gr [0] (T0 hx14) rfl (peW ⟨trivial,trivial⟩ rfl)
      ·exact gr [0] (T0 hx14) rfl (peW ⟨trivial,trivial⟩ rfl)
     ·exact gr [0] (T0 hx14) rfl (peW ⟨trivial,trivial⟩ rfl)
   obtain ⟨c9,hh⟩:=V4 hh
   refine AEx.drawE hC ?_
   refine st2 0 2 rfl (by kernel_rfl) rfl rfl ?_ ?_
   ·refine e' rfl ?_
    refine st2 1 2 rfl (by kernel_rfl) rfl rfl ?_ ?_
    ·refine e' rfl ?_
     refine st1 2 rfl (by kernel_rfl) rfl ?_
     refine e' rfl ?_
     refine st1 3 rfl (by kernel_rfl) rfl ?_
     refine gq [0] ((T0 hx14).ok) rfl (n' ?_)
     refine st1 4 rfl (by kernel_rfl) rfl ?_
     refine C0.be hC rfl (B0.rows_map [x14.1]).symm (n' ?_)
     refine st1 5 rfl (by kernel_rfl) rfl ?_
     refine C0.ap hC rfl (rs:=B0.rows (o2_Args++[x14.1])) (B0.app o2_Args [x14.1]) (B0.sz o2_Args) (B0.sz [x14.1]) (V1 (B0.len o2_Args) (B0.len [x14.1]) c9) (n' ?_)
     refine st1 6 rfl (by kernel_rfl) rfl ?_
     refine e' rfl ?_
     refine st1 7 rfl (by kernel_rfl) rfl ?_
     exact C0.s hC rfl (n' (V0.nil (by kernel_rfl) (lq (ih0 _ _ _ hh) rfl)))
    ·refine e' rfl ?_
     refine st2 1 3 rfl (by kernel_rfl) rfl rfl ?_ ?_
     ·refine e' rfl ?_
      refine st1 3 rfl (by kernel_rfl) rfl ?_
      refine gq [0] ((T0 hx14).ok) rfl (n' ?_)
      refine st1 4 rfl (by kernel_rfl) rfl ?_
      refine C0.be hC rfl (B0.rows_map [x14.1]).symm (n' ?_)
      refine st1 5 rfl (by kernel_rfl) rfl ?_
      refine C0.ap hC rfl (rs:=B0.rows (o2_Args++[x14.1])) (B0.app o2_Args [x14.1]) (B0.sz o2_Args) (B0.sz [x14.1]) (V1 (B0.len o2_Args) (B0.len [x14.1]) c9) (n' ?_)
      refine st1 6 rfl (by kernel_rfl) rfl ?_
      refine e' rfl ?_
      refine st1 7 rfl (by kernel_rfl) rfl ?_
      exact C0.s hC rfl (n' (V0.nil (by kernel_rfl) (lq (ih0 _ _ _ hh) rfl)))
     ·refine gq [0] ((T0 hx14).ok) rfl (n' ?_)
      refine st2 1 4 rfl (by kernel_rfl) rfl rfl ?_ ?_
      ·refine e' rfl ?_
       refine st1 4 rfl (by kernel_rfl) rfl ?_
       refine C0.be hC rfl (B0.rows_map [x14.1]).symm (n' ?_)
       refine st1 5 rfl (by kernel_rfl) rfl ?_
       refine C0.ap hC rfl (rs:=B0.rows (o2_Args++[x14.1])) (B0.app o2_Args [x14.1]) (B0.sz o2_Args) (B0.sz [x14.1]) (V1 (B0.len o2_Args) (B0.len [x14.1]) c9) (n' ?_)
       refine st1 6 rfl (by kernel_rfl) rfl ?_
       refine e' rfl ?_
       refine st1 7 rfl (by kernel_rfl) rfl ?_
       exact C0.s hC rfl (n' (V0.nil (by kernel_rfl) (lq (ih0 _ _ _ hh) rfl)))
      ·refine C0.be hC rfl (B0.rows_map [x14.1]).symm (n' ?_)
       refine st1 1 rfl (by kernel_rfl) rfl ?_
       refine e' rfl ?_
       refine st1 5 rfl (by kernel_rfl) rfl ?_
       refine C0.ap hC rfl (rs:=B0.rows (o2_Args++[x14.1])) (B0.app o2_Args [x14.1]) (B0.sz o2_Args) (B0.sz [x14.1]) (V1 (B0.len o2_Args) (B0.len [x14.1]) c9) (n' ?_)
       refine st1 6 rfl (by kernel_rfl) rfl ?_
       refine e' rfl ?_
       refine st1 7 rfl (by kernel_rfl) rfl ?_
       exact C0.s hC rfl (n' (V0.nil (by kernel_rfl) (lq (ih0 _ _ _ hh) rfl)))
   ·refine e' rfl ?_
    refine st2 0 3 rfl (by kernel_rfl) rfl rfl ?_ ?_
    ·refine e' rfl ?_
     refine st2 1 3 rfl (by kernel_rfl) rfl rfl ?_ ?_
     ·refine e' rfl ?_
      refine st1 3 rfl (by kernel_rfl) rfl ?_
      refine gq [0] ((T0 hx14).ok) rfl (n' ?_)
      refine st1 4 rfl (by kernel_rfl) rfl ?_
      refine C0.be hC rfl (B0.rows_map [x14.1]).symm (n' ?_)
      refine st1 5 rfl (by kernel_rfl) rfl ?_
      refine C0.ap hC rfl (rs:=B0.rows (o2_Args++[x14.1])) (B0.app o2_Args [x14.1]) (B0.sz o2_Args) (B0.sz [x14.1]) (V1 (B0.len o2_Args) (B0.len [x14.1]) c9) (n' ?_)
      refine st1 6 rfl (by kernel_rfl) rfl ?_
      refine e' rfl ?_
      refine st1 7 rfl (by kernel_rfl) rfl ?_
      exact C0.s hC rfl (n' (V0.nil (by kernel_rfl) (lq (ih0 _ _ _ hh) rfl)))
     ·refine gq [0] ((T0 hx14).ok) rfl (n' ?_)
      refine st2 1 4 rfl (by kernel_rfl) rfl rfl ?_ ?_
      ·refine e' rfl ?_
       refine st1 4 rfl (by kernel_rfl) rfl ?_
       refine C0.be hC rfl (B0.rows_map [x14.1]).symm (n' ?_)
       refine st1 5 rfl (by kernel_rfl) rfl ?_
       refine C0.ap hC rfl (rs:=B0.rows (o2_Args++[x14.1])) (B0.app o2_Args [x14.1]) (B0.sz o2_Args) (B0.sz [x14.1]) (V1 (B0.len o2_Args) (B0.len [x14.1]) c9) (n' ?_)
       refine st1 6 rfl (by kernel_rfl) rfl ?_
       refine e' rfl ?_
       refine st1 7 rfl (by kernel_rfl) rfl ?_
       exact C0.s hC rfl (n' (V0.nil (by kernel_rfl) (lq (ih0 _ _ _ hh) rfl)))
      ·refine C0.be hC rfl (B0.rows_map [x14.1]).symm (n' ?_)
       refine st1 1 rfl (by kernel_rfl) rfl ?_
       refine e' rfl ?_
       refine st1 5 rfl (by kernel_rfl) rfl ?_
       refine C0.ap hC rfl (rs:=B0.rows (o2_Args++[x14.1])) (B0.app o2_Args [x14.1]) (B0.sz o2_Args) (B0.sz [x14.1]) (V1 (B0.len o2_Args) (B0.len [x14.1]) c9) (n' ?_)
       refine st1 6 rfl (by kernel_rfl) rfl ?_
       refine e' rfl ?_
       refine st1 7 rfl (by kernel_rfl) rfl ?_
       exact C0.s hC rfl (n' (V0.nil (by kernel_rfl) (lq (ih0 _ _ _ hh) rfl)))
    ·refine gq [0] ((T0 hx14).ok) rfl (n' ?_)
     refine st2 0 4 rfl (by kernel_rfl) rfl rfl ?_ ?_
     ·refine e' rfl ?_
      refine st2 1 4 rfl (by kernel_rfl) rfl rfl ?_ ?_
      ·refine e' rfl ?_
       refine st1 4 rfl (by kernel_rfl) rfl ?_
       refine C0.be hC rfl (B0.rows_map [x14.1]).symm (n' ?_)
       refine st1 5 rfl (by kernel_rfl) rfl ?_
       refine C0.ap hC rfl (rs:=B0.rows (o2_Args++[x14.1])) (B0.app o2_Args [x14.1]) (B0.sz o2_Args) (B0.sz [x14.1]) (V1 (B0.len o2_Args) (B0.len [x14.1]) c9) (n' ?_)
       refine st1 6 rfl (by kernel_rfl) rfl ?_
       refine e' rfl ?_
       refine st1 7 rfl (by kernel_rfl) rfl ?_
       exact C0.s hC rfl (n' (V0.nil (by kernel_rfl) (lq (ih0 _ _ _ hh) rfl)))
      ·refine C0.be hC rfl (B0.rows_map [x14.1]).symm (n' ?_)
       refine st1 1 rfl (by kernel_rfl) rfl ?_
       refine e' rfl ?_
       refine st1 5 rfl (by kernel_rfl) rfl ?_
       refine C0.ap hC rfl (rs:=B0.rows (o2_Args++[x14.1])) (B0.app o2_Args [x14.1]) (B0.sz o2_Args) (B0.sz [x14.1]) (V1 (B0.len o2_Args) (B0.len [x14.1]) c9) (n' ?_)
       refine st1 6 rfl (by kernel_rfl) rfl ?_
       refine e' rfl ?_
       refine st1 7 rfl (by kernel_rfl) rfl ?_
       exact C0.s hC rfl (n' (V0.nil (by kernel_rfl) (lq (ih0 _ _ _ hh) rfl)))
     ·refine C0.be hC rfl (B0.rows_map [x14.1]).symm (n' ?_)
      refine st1 0 rfl (by kernel_rfl) rfl ?_
      refine e' rfl ?_
      refine st1 1 rfl (by kernel_rfl) rfl ?_
      refine e' rfl ?_
      refine st1 5 rfl (by kernel_rfl) rfl ?_
      refine C0.ap hC rfl (rs:=B0.rows (o2_Args++[x14.1])) (B0.app o2_Args [x14.1]) (B0.sz o2_Args) (B0.sz [x14.1]) (V1 (B0.len o2_Args) (B0.len [x14.1]) c9) (n' ?_)
      refine st1 6 rfl (by kernel_rfl) rfl ?_
      refine e' rfl ?_
      refine st1 7 rfl (by kernel_rfl) rfl ?_
      exact C0.s hC rfl (n' (V0.nil (by kernel_rfl) (lq (ih0 _ _ _ hh) rfl)))
  refine ex' (P' 1 rfl ?_)
  rcases bp' hh with ⟨nn,hx8,⟨⟩⟩ | ⟨x8,hx8,hh⟩
  ·exact gr [0] (F0 hx8) rfl (peW ⟨trivial,trivial⟩ rfl)
  refine gq [0] ((F0 hx8).ok) rfl (n' (p' 1 rfl ?_))
  rcases bp' hh with ⟨nn,hx9,⟨⟩⟩ | ⟨x9,hx9,hh⟩
  ·exact gr [0] (F0 hx9) rfl (peW ⟨trivial,trivial⟩ rfl)
  refine gq [0] ((F0 hx9).ok) rfl (n' (p' 1 rfl (C0.s hC rfl (n' (re' ?_)))))
  have hq:=oi' hh
  subst hq
  exact ⟨_,.agg [.d (.int .i64 1),.d (.int .i64 x1.1.Op),.d (.int .i64 x1.1.NV),.d (.str x1.1.Name),.d (.sl (B0.rows x1.1.Kids)),.d (.int .i64 0),.d (.int .i64 0),.d (.str []),.d (.sl (B0.rows [])),.d (.str x4.1),.d (.sl (B0.rows o2_Args)),.d (.int .i64 0),.d (.int .i64 0),.d (.int .i64 0),.d (.sl (ei64.rows [])),.d (.sl (J0.rows [])),.d (.sl (J0.rows []))],[.row (A0.cells x9) 112],rfl,(.aggL ⟨.rfl,.rfl,.rfl,.rfl,.rfl,.rfl,.rfl,.rfl,.full,.rfl,.osl,.rfl,.rfl,.rfl,.full,.full,.full,trivial⟩),⟨⟨rfl,.refl _,rfl⟩,trivial⟩,rfl,rfl,rpq rfl rfl⟩
theorem Yl {o0 x1 x4 o2_Args res}(hh:V3 o0 x1 x4 o2_Args=some res):Sf o0 x1 x4 o2_Args res:=(Hl x1 x4) _ _ _ hh
def P5 (x7:B0×A0)(x1:B0×A0)(x4:Str×A0):Option (Pn (J0×A0)):=
 V3 x7.2 x1 x4 [x7.1]
theorem Q2 {x7 x1 x4 res}(hh:P5 x7 x1 x4=some res):JMp C 52 1 Tryz.f163 [1,1,1,0,4,1,2,1,1,0,1,2,1] [(0,.ref 0 0),(2,.ref 1 0),(3,.ref 2 0)] [.row (A0.cells x7.2) 112,.row [.d (.int .i64 0),.d (.int .i64 0),.d (.int .i64 0),.d (.str []),.full (B0.rows []),.d (.int .i64 0),.d (.int .i64 0),.d (.str []),.full (B0.rows []),.d (.str []),.full (B0.rows []),.d (.int .i64 0),.d (.int .i64 0),.d (.int .i64 0),.full (ei64.rows []),.full (J0.rows []),.full (J0.rows [])] 88,.row [.d (.int .i64 1),.d (.int .i64 x1.1.Op),.d (.int .i64 x1.1.NV),.d (.str x1.1.Name),.d (.sl (B0.rows x1.1.Kids)),.d (.int .i64 0),.d (.int .i64 0),.d (.str []),.full (B0.rows []),.d (.str x4.1),.osl 3 (B0.rows [x7.1]),.d (.int .i64 0),.d (.int .i64 0),.d (.int .i64 0),.full (ei64.rows []),.full (J0.rows []),.full (J0.rows [])] 88,.tok 80 4] (P4 res (fun rr=>[.row (A0.cells rr.2) 112]) (fun rr=>.agg (J0.cells rr.1))) (H4 res O3 [.dead]):=by
 unfold P5 at hh
 exact bk' (fq (Yl hh) rfl)
def I7 (parserParser:A0):Option (Pn (J0×A0)):=
 J6 parserParser>>=fun x1=>match x1 with
 | .pn nn=>
 some (.pn nn)
 | .ok x1=>
 U0 [61] x1.2>>=fun x2=>match x2 with
 | .pn nn=>
 some (.pn nn)
 | .ok x2=>
 S0 [99,97,108,108] x2>>=fun x3=>
 if x3.1=true then
  I3 x3.2>>=fun x4=>match x4 with
  | .pn nn=>
  some (.pn nn)
  | .ok x4=>
  U0 [40] x4.2>>=fun x5=>match x5 with
  | .pn nn=>
  some (.pn nn)
  | .ok x5=>
  Ib [41] x5>>=fun x6=>
  if (!x6)=true then
   T1 x5>>=fun x7=>match x7 with
   | .pn nn=>
   some (.pn nn)
   | .ok x7=>
   if (decide ((0+1) * 57≤140737488355328))=true then
    P5 x7 x1 x4
   else none
  else
   U0 [41] x5>>=fun x8=>match x8 with
   | .pn nn=>
   some (.pn nn)
   | .ok x8=>
   U0 [59] x8>>=fun x9=>match x9 with
   | .pn nn=>
   some (.pn nn)
   | .ok x9=>
   some (.ok ((J0.mk 1 x1.1 (B0.mk 0 0 [] []) x4.1 [] 0 0 0 [] [] []),x9))
 else
  S0 [114,101,108,101,97,115,101] x3.2>>=fun x10=>
  if x10.1=true then
   I3 x10.2>>=fun x11=>match x11 with
   | .pn nn=>
   some (.pn nn)
   | .ok x11=>
   U0 [59] x11.2>>=fun x9=>match x9 with
   | .pn nn=>
   some (.pn nn)
   | .ok x9=>
   some (.ok ((J0.mk 2 x1.1 (B0.mk 0 0 [] []) x11.1 [] 0 0 0 [] [] []),x9))
  else
   T1 x10.2>>=fun x12=>match x12 with
   | .pn nn=>
   some (.pn nn)
   | .ok x12=>
   U0 [59] x12.2>>=fun x9=>match x9 with
   | .pn nn=>
   some (.pn nn)
   | .ok x9=>
   some (.ok ((J0.mk 0 x1.1 x12.1 [] [] 0 0 0 [] [] []),x9))
theorem Vg {parserParser res}(hh:I7 parserParser=some res):I2 C 163 [.ref 0 0] [.row (A0.cells parserParser) 112] (P4 res (fun rr=>[.row (A0.cells rr.2) 112]) (fun rr=>.agg (J0.cells rr.1))) (H4 res O3 [.dead]):=by
 unfold I7 at hh
 refine I2.intro hC Tryz.func163 rfl rfl rfl (s' rfl rfl (C0.nf hC rfl (n' (p' 1 rfl ?_))))
 rcases bp' hh with ⟨nn,hx1,⟨⟩⟩ | ⟨x1,hx1,hh⟩
 ·exact gr [0] (Yj hx1) rfl (peW ⟨trivial,trivial⟩ rfl)
 refine gq [0] ((Yj hx1).ok) rfl (C0.bz hC rfl (C0.nf hC rfl (C0.s hC rfl (n' (p' 1 rfl ?_)))))
 rcases bp' hh with ⟨nn,hx2,⟨⟩⟩ | ⟨x2,hx2,hh⟩
 ·exact gr [0] (F0 hx2) rfl (peW ⟨trivial,trivial⟩ rfl)
 obtain ⟨x3,hx3,hh⟩:=bs' hh
 refine gq [0] ((F0 hx2).ok) rfl (n' (S' (bk' (p' 1 rfl (gq [0] (O0 hx3) rfl (e' rfl (ci' rfl hh (fun hh=>?_) (fun hh=>?_))))))))
 ·refine p' 1 rfl ?_
  rcases bp' hh with ⟨nn,hx4,⟨⟩⟩ | ⟨x4,hx4,hh⟩
  ·exact gr [0] (C1 hx4) rfl (peW ⟨trivial,trivial⟩ rfl)
  refine gq [0] ((C1 hx4).ok) rfl (q' rfl (C0.s hC rfl (q' rfl (C0.s hC rfl (n' (p' 1 rfl ?_))))))
  rcases bp' hh with ⟨nn,hx5,⟨⟩⟩ | ⟨x5,hx5,hh⟩
  ·exact gr [0] (F0 hx5) rfl (peW ⟨trivial,trivial⟩ rfl)
  obtain ⟨x6,hx6,hh⟩:=bs' hh
  refine gq [0] ((F0 hx5).ok) rfl (n' (S' (p' 1 rfl (gq [0] (Rm hx6) rfl (e' rfl (ci' rfl hh (fun hh=>?_) (fun hh=>?_)))))))
  ·refine S' ?_
   rcases bp' hh with ⟨nn,hx7,⟨⟩⟩ | ⟨x7,hx7,hh⟩
   ·refine AEx.drawE hC ?_
    refine st2 0 2 rfl (by kernel_rfl) rfl rfl ?_ ?_
    ·refine e' rfl ?_
     refine st2 1 2 rfl (by kernel_rfl) rfl rfl ?_ ?_
     ·refine e' rfl ?_
      refine st1 2 rfl (by kernel_rfl) rfl ?_
      refine e' rfl ?_
      refine st1 3 rfl (by kernel_rfl) rfl ?_
      exact gr [0] (T0 hx7) rfl (peW ⟨trivial,trivial⟩ rfl)
     ·refine e' rfl ?_
      refine st2 1 3 rfl (by kernel_rfl) rfl rfl ?_ ?_
      ·refine e' rfl ?_
       refine st1 3 rfl (by kernel_rfl) rfl ?_
       exact gr [0] (T0 hx7) rfl (peW ⟨trivial,trivial⟩ rfl)
      ·exact gr [0] (T0 hx7) rfl (peW ⟨trivial,trivial⟩ rfl)
    ·refine e' rfl ?_
     refine st2 0 3 rfl (by kernel_rfl) rfl rfl ?_ ?_
     ·refine e' rfl ?_
      refine st2 1 3 rfl (by kernel_rfl) rfl rfl ?_ ?_
      ·refine e' rfl ?_
       refine st1 3 rfl (by kernel_rfl) rfl ?_
       exact gr [0] (T0 hx7) rfl (peW ⟨trivial,trivial⟩ rfl)
      ·exact gr [0] (T0 hx7) rfl (peW ⟨trivial,trivial⟩ rfl)
     ·exact gr [0] (T0 hx7) rfl (peW ⟨trivial,trivial⟩ rfl)
   obtain ⟨c8,hh⟩:=V4 hh
   refine AEx.drawE hC ?_
   refine st2 0 2 rfl (by kernel_rfl) rfl rfl ?_ ?_
   ·refine e' rfl ?_
    refine st2 1 2 rfl (by kernel_rfl) rfl rfl ?_ ?_
    ·refine e' rfl ?_
     refine st1 2 rfl (by kernel_rfl) rfl ?_
     refine e' rfl ?_
     refine st1 3 rfl (by kernel_rfl) rfl ?_
     refine gq [0] ((T0 hx7).ok) rfl (n' ?_)
     refine st1 4 rfl (by kernel_rfl) rfl ?_
     refine C0.be hC rfl (B0.rows_map [x7.1]).symm (n' ?_)
     refine st1 5 rfl (by kernel_rfl) rfl ?_
     refine C0.ap hC rfl (rs:=B0.rows [x7.1]) rfl (B0.sz []) (B0.sz [x7.1]) (V1 (B0.len []) (B0.len [x7.1]) c8) (n' ?_)
     refine st1 6 rfl (by kernel_rfl) rfl ?_
     refine e' rfl ?_
     refine st1 7 rfl (by kernel_rfl) rfl ?_
     exact C0.s hC rfl (n' (V0.nil (by kernel_rfl) (eq' (Q2 hh) rfl)))
    ·refine e' rfl ?_
     refine st2 1 3 rfl (by kernel_rfl) rfl rfl ?_ ?_
     ·refine e' rfl ?_
      refine st1 3 rfl (by kernel_rfl) rfl ?_
      refine gq [0] ((T0 hx7).ok) rfl (n' ?_)
      refine st1 4 rfl (by kernel_rfl) rfl ?_
      refine C0.be hC rfl (B0.rows_map [x7.1]).symm (n' ?_)
      refine st1 5 rfl (by kernel_rfl) rfl ?_
      refine C0.ap hC rfl (rs:=B0.rows [x7.1]) rfl (B0.sz []) (B0.sz [x7.1]) (V1 (B0.len []) (B0.len [x7.1]) c8) (n' ?_)
      refine st1 6 rfl (by kernel_rfl) rfl ?_
      refine e' rfl ?_
      refine st1 7 rfl (by kernel_rfl) rfl ?_
      exact C0.s hC rfl (n' (V0.nil (by kernel_rfl) (eq' (Q2 hh) rfl)))
     ·refine gq [0] ((T0 hx7).ok) rfl (n' ?_)
      refine st2 1 4 rfl (by kernel_rfl) rfl rfl ?_ ?_
      ·refine e' rfl ?_
       refine st1 4 rfl (by kernel_rfl) rfl ?_
       refine C0.be hC rfl (B0.rows_map [x7.1]).symm (n' ?_)
       refine st1 5 rfl (by kernel_rfl) rfl ?_
       refine C0.ap hC rfl (rs:=B0.rows [x7.1]) rfl (B0.sz []) (B0.sz [x7.1]) (V1 (B0.len []) (B0.len [x7.1]) c8) (n' ?_)
       refine st1 6 rfl (by kernel_rfl) rfl ?_
       refine e' rfl ?_
       refine st1 7 rfl (by kernel_rfl) rfl ?_
       exact C0.s hC rfl (n' (V0.nil (by kernel_rfl) (eq' (Q2 hh) rfl)))
      ·refine C0.be hC rfl (B0.rows_map [x7.1]).symm (n' ?_)
       refine st1 1 rfl (by kernel_rfl) rfl ?_
       refine e' rfl ?_
       refine st1 5 rfl (by kernel_rfl) rfl ?_
       refine C0.ap hC rfl (rs:=B0.rows [x7.1]) rfl (B0.sz []) (B0.sz [x7.1]) (V1 (B0.len []) (B0.len [x7.1]) c8) (n' ?_)
       refine st1 6 rfl (by kernel_rfl) rfl ?_
       refine e' rfl ?_
       refine st1 7 rfl (by kernel_rfl) rfl ?_
       exact C0.s hC rfl (n' (V0.nil (by kernel_rfl) (eq' (Q2 hh) rfl)))
   ·refine e' rfl ?_
    refine st2 0 3 rfl (by kernel_rfl) rfl rfl ?_ ?_
    ·refine e' rfl ?_
     refine st2 1 3 rfl (by kernel_rfl) rfl rfl ?_ ?_
     ·refine e' rfl ?_
      refine st1 3 rfl (by kernel_rfl) rfl ?_
      refine gq [0] ((T0 hx7).ok) rfl (n' ?_)
      refine st1 4 rfl (by kernel_rfl) rfl ?_
      refine C0.be hC rfl (B0.rows_map [x7.1]).symm (n' ?_)
      refine st1 5 rfl (by kernel_rfl) rfl ?_
      refine C0.ap hC rfl (rs:=B0.rows [x7.1]) rfl (B0.sz []) (B0.sz [x7.1]) (V1 (B0.len []) (B0.len [x7.1]) c8) (n' ?_)
      refine st1 6 rfl (by kernel_rfl) rfl ?_
      refine e' rfl ?_
      refine st1 7 rfl (by kernel_rfl) rfl ?_
      exact C0.s hC rfl (n' (V0.nil (by kernel_rfl) (eq' (Q2 hh) rfl)))
     ·refine gq [0] ((T0 hx7).ok) rfl (n' ?_)
      refine st2 1 4 rfl (by kernel_rfl) rfl rfl ?_ ?_
      ·refine e' rfl ?_
       refine st1 4 rfl (by kernel_rfl) rfl ?_
       refine C0.be hC rfl (B0.rows_map [x7.1]).symm (n' ?_)
       refine st1 5 rfl (by kernel_rfl) rfl ?_
       refine C0.ap hC rfl (rs:=B0.rows [x7.1]) rfl (B0.sz []) (B0.sz [x7.1]) (V1 (B0.len []) (B0.len [x7.1]) c8) (n' ?_)
       refine st1 6 rfl (by kernel_rfl) rfl ?_
       refine e' rfl ?_
       refine st1 7 rfl (by kernel_rfl) rfl ?_
       exact C0.s hC rfl (n' (V0.nil (by kernel_rfl) (eq' (Q2 hh) rfl)))
      ·refine C0.be hC rfl (B0.rows_map [x7.1]).symm (n' ?_)
       refine st1 1 rfl (by kernel_rfl) rfl ?_
       refine e' rfl ?_
       refine st1 5 rfl (by kernel_rfl) rfl ?_
       refine C0.ap hC rfl (rs:=B0.rows [x7.1]) rfl (B0.sz []) (B0.sz [x7.1]) (V1 (B0.len []) (B0.len [x7.1]) c8) (n' ?_)
       refine st1 6 rfl (by kernel_rfl) rfl ?_
       refine e' rfl ?_
       refine st1 7 rfl (by kernel_rfl) rfl ?_
       exact C0.s hC rfl (n' (V0.nil (by kernel_rfl) (eq' (Q2 hh) rfl)))
    ·refine gq [0] ((T0 hx7).ok) rfl (n' ?_)
     refine st2 0 4 rfl (by kernel_rfl) rfl rfl ?_ ?_
     ·refine e' rfl ?_
      refine st2 1 4 rfl (by kernel_rfl) rfl rfl ?_ ?_
      ·refine e' rfl ?_
       refine st1 4 rfl (by kernel_rfl) rfl ?_
       refine C0.be hC rfl (B0.rows_map [x7.1]).symm (n' ?_)
       refine st1 5 rfl (by kernel_rfl) rfl ?_
       refine C0.ap hC rfl (rs:=B0.rows [x7.1]) rfl (B0.sz []) (B0.sz [x7.1]) (V1 (B0.len []) (B0.len [x7.1]) c8) (n' ?_)
       refine st1 6 rfl (by kernel_rfl) rfl ?_
       refine e' rfl ?_
       refine st1 7 rfl (by kernel_rfl) rfl ?_
       exact C0.s hC rfl (n' (V0.nil (by kernel_rfl) (eq' (Q2 hh) rfl)))
      ·refine C0.be hC rfl (B0.rows_map [x7.1]).symm (n' ?_)
       refine st1 1 rfl (by kernel_rfl) rfl ?_
       refine e' rfl ?_
       refine st1 5 rfl (by kernel_rfl) rfl ?_
       refine C0.ap hC rfl (rs:=B0.rows [x7.1]) rfl (B0.sz []) (B0.sz [x7.1]) (V1 (B0.len []) (B0.len [x7.1]) c8) (n' ?_)
       refine st1 6 rfl (by kernel_rfl) rfl ?_
       refine e' rfl ?_
       refine st1 7 rfl (by kernel_rfl) rfl ?_
       exact C0.s hC rfl (n' (V0.nil (by kernel_rfl) (eq' (Q2 hh) rfl)))
     ·refine C0.be hC rfl (B0.rows_map [x7.1]).symm (n' ?_)
      refine st1 0 rfl (by kernel_rfl) rfl ?_
      refine e' rfl ?_
      refine st1 1 rfl (by kernel_rfl) rfl ?_
      refine e' rfl ?_
      refine st1 5 rfl (by kernel_rfl) rfl ?_
      refine C0.ap hC rfl (rs:=B0.rows [x7.1]) rfl (B0.sz []) (B0.sz [x7.1]) (V1 (B0.len []) (B0.len [x7.1]) c8) (n' ?_)
      refine st1 6 rfl (by kernel_rfl) rfl ?_
      refine e' rfl ?_
      refine st1 7 rfl (by kernel_rfl) rfl ?_
      exact C0.s hC rfl (n' (V0.nil (by kernel_rfl) (eq' (Q2 hh) rfl)))
  refine sk' (P' 1 rfl ?_)
  rcases bp' hh with ⟨nn,hx8,⟨⟩⟩ | ⟨x8,hx8,hh⟩
  ·exact gr [0] (F0 hx8) rfl (peW ⟨trivial,trivial⟩ rfl)
  refine gq [0] ((F0 hx8).ok) rfl (n' (p' 1 rfl ?_))
  rcases bp' hh with ⟨nn,hx9,⟨⟩⟩ | ⟨x9,hx9,hh⟩
  ·exact gr [0] (F0 hx9) rfl (peW ⟨trivial,trivial⟩ rfl)
  refine gq [0] ((F0 hx9).ok) rfl (n' (p' 1 rfl (C0.s hC rfl (n' (re' ?_)))))
  have hq:=oi' hh
  subst hq
  exact ⟨_,.agg [.d (.int .i64 1),.d (.int .i64 x1.1.Op),.d (.int .i64 x1.1.NV),.d (.str x1.1.Name),.d (.sl (B0.rows x1.1.Kids)),.d (.int .i64 0),.d (.int .i64 0),.d (.str []),.d (.sl (B0.rows [])),.d (.str x4.1),.d (.sl (B0.rows [])),.d (.int .i64 0),.d (.int .i64 0),.d (.int .i64 0),.d (.sl (ei64.rows [])),.d (.sl (J0.rows [])),.d (.sl (J0.rows []))],[.row (A0.cells x9) 112],rfl,(.aggL ⟨.rfl,.rfl,.rfl,.rfl,.rfl,.rfl,.rfl,.rfl,.full,.rfl,.full,.rfl,.rfl,.rfl,.full,.full,.full,trivial⟩),⟨⟨rfl,.refl _,rfl⟩,trivial⟩,rfl,rfl,rpq rfl rfl⟩
 obtain ⟨x10,hx10,hh⟩:=bs' hh
 refine p' 1 rfl (gq [0] (O0 hx10) rfl (e' rfl (ci' rfl hh (fun hh=>?_) (fun hh=>?_))))
 ·refine P' 1 rfl ?_
  rcases bp' hh with ⟨nn,hx11,⟨⟩⟩ | ⟨x11,hx11,hh⟩
  ·exact gr [0] (C1 hx11) rfl (peW ⟨trivial,trivial⟩ rfl)
  refine gq [0] ((C1 hx11).ok) rfl (q' rfl (C0.s hC rfl (q' rfl (C0.s hC rfl (n' (p' 1 rfl ?_))))))
  rcases bp' hh with ⟨nn,hx9,⟨⟩⟩ | ⟨x9,hx9,hh⟩
  ·exact gr [0] (F0 hx9) rfl (peW ⟨trivial,trivial⟩ rfl)
  refine gq [0] ((F0 hx9).ok) rfl (n' (p' 1 rfl (C0.s hC rfl (n' (re' ?_)))))
  have hq:=oi' hh
  subst hq
  exact ⟨_,.agg [.d (.int .i64 2),.d (.int .i64 x1.1.Op),.d (.int .i64 x1.1.NV),.d (.str x1.1.Name),.d (.sl (B0.rows x1.1.Kids)),.d (.int .i64 0),.d (.int .i64 0),.d (.str []),.d (.sl (B0.rows [])),.d (.str x11.1),.d (.sl (B0.rows [])),.d (.int .i64 0),.d (.int .i64 0),.d (.int .i64 0),.d (.sl (ei64.rows [])),.d (.sl (J0.rows [])),.d (.sl (J0.rows []))],[.row (A0.cells x9) 112],rfl,(.aggL ⟨.rfl,.rfl,.rfl,.rfl,.rfl,.rfl,.rfl,.rfl,.full,.rfl,.full,.rfl,.rfl,.rfl,.full,.full,.full,trivial⟩),⟨⟨rfl,.refl _,rfl⟩,trivial⟩,rfl,rfl,rpq rfl rfl⟩
 refine P' 1 rfl ?_
 rcases bp' hh with ⟨nn,hx12,⟨⟩⟩ | ⟨x12,hx12,hh⟩
 ·exact gr [0] (T0 hx12) rfl (peW ⟨trivial,trivial⟩ rfl)
 refine gq [0] ((T0 hx12).ok) rfl (q' rfl (C0.s hC rfl (n' (p' 1 rfl ?_))))
 rcases bp' hh with ⟨nn,hx9,⟨⟩⟩ | ⟨x9,hx9,hh⟩
 ·exact gr [0] (F0 hx9) rfl (peW ⟨trivial,trivial⟩ rfl)
 refine gq [0] ((F0 hx9).ok) rfl (n' (p' 1 rfl (C0.s hC rfl (n' (re' ?_)))))
 have hq:=oi' hh
 subst hq
 exact ⟨_,.agg [.d (.int .i64 0),.d (.int .i64 x1.1.Op),.d (.int .i64 x1.1.NV),.d (.str x1.1.Name),.d (.sl (B0.rows x1.1.Kids)),.d (.int .i64 x12.1.Op),.d (.int .i64 x12.1.NV),.d (.str x12.1.Name),.d (.sl (B0.rows x12.1.Kids)),.d (.str []),.d (.sl (B0.rows [])),.d (.int .i64 0),.d (.int .i64 0),.d (.int .i64 0),.d (.sl (ei64.rows [])),.d (.sl (J0.rows [])),.d (.sl (J0.rows []))],[.row (A0.cells x9) 112],rfl,(.aggL ⟨.rfl,.rfl,.rfl,.rfl,.rfl,.rfl,.rfl,.rfl,.rfl,.rfl,.full,.rfl,.rfl,.rfl,.full,.full,.full,trivial⟩),⟨⟨rfl,.refl _,rfl⟩,trivial⟩,rfl,rfl,rpq rfl rfl⟩
def Y3 (o0:A0)(o2_Numbers:List Int):Option (Pn (J0×Bool×A0)):=
 S0 [44] o0>>=fun x23=>
 if x23.1=true then
  U2 x23.2>>=fun x24=>match x24 with
  | .pn nn=>
  some (.pn nn)
  | .ok x24=>
  if (decide ((o2_Numbers.length+1) * 9≤140737488355328))=true then
   Y3 x24.2 (o2_Numbers++[x24.1])
  else none
 else
  U0 [59] x23.2>>=fun x25=>match x25 with
  | .pn nn=>
  some (.pn nn)
  | .ok x25=>
  some (.ok ((J0.mk 8 (B0.mk 0 0 [] []) (B0.mk 0 0 [] []) [] [] 0 0 0 o2_Numbers [] []),true,x25))
 partial_fixpoint
abbrev Dg (o0:A0)(o2_Numbers:List Int)(res:Pn (J0×Bool×A0)):Prop:=LMp C 93 1 Tryz.f104 [1,1,0,4,1,3,1,3,1,3,1,2,1,0,4] [(0,.ref 0 0),(2,.ref 1 0),(4,.ref 2 0)] [.row (A0.cells o0) 112,.row [.d (.int .i64 0),.d (.int .i64 0),.d (.int .i64 0),.d (.str []),.full (B0.rows []),.d (.int .i64 0),.d (.int .i64 0),.d (.str []),.full (B0.rows []),.d (.str []),.full (B0.rows []),.d (.int .i64 0),.d (.int .i64 0),.d (.int .i64 0),.full (ei64.rows []),.full (J0.rows []),.full (J0.rows [])] 88,.row [.d (.int .i64 8),.d (.int .i64 0),.d (.int .i64 0),.d (.str []),.d (.sl (B0.rows [])),.d (.int .i64 0),.d (.int .i64 0),.d (.str []),.d (.sl (B0.rows [])),.d (.str []),.d (.sl (B0.rows [])),.d (.int .i64 0),.d (.int .i64 0),.d (.int .i64 0),.osl 3 (ei64.rows o2_Numbers),.d (.sl (J0.rows [])),.d (.sl (J0.rows []))] 88,.tok 3 1] (P4 res (fun rr=>[.row (A0.cells rr.2.2) 112]) (fun rr=>.tup [.agg (J0.cells rr.1),.d (.bool rr.2.1)])) (H4 res O3 [.dead])
theorem Zl:(∀ o0 o2_Numbers res,Y3 o0 o2_Numbers=some res→Dg o0 o2_Numbers res):=by
 refine Y3.partial_correctness _ ?_
 ·intro g0 ih0 o0 o2_Numbers res hh
  obtain ⟨x23,hx23,hh⟩:=bs' hh
  refine F1.unroll (S' (p' 1 rfl (gq [0] (O0 hx23) rfl (n' (ci' rfl hh (fun hh=>?_) (fun hh=>?_))))))
  ·refine sk' (bk' ?_)
   rcases bp' hh with ⟨nn,hx24,⟨⟩⟩ | ⟨x24,hx24,hh⟩
   ·refine AEx.drawE hC ?_
    refine st2 0 2 rfl (by kernel_rfl) rfl rfl ?_ ?_
    ·refine e' rfl ?_
     refine st2 1 2 rfl (by kernel_rfl) rfl rfl ?_ ?_
     ·refine e' rfl ?_
      refine st1 2 rfl (by kernel_rfl) rfl ?_
      refine e' rfl ?_
      refine st1 3 rfl (by kernel_rfl) rfl ?_
      exact gr [0] (B1 hx24) rfl (peW ⟨trivial,trivial⟩ rfl)
     ·refine e' rfl ?_
      refine st2 1 3 rfl (by kernel_rfl) rfl rfl ?_ ?_
      ·refine e' rfl ?_
       refine st1 3 rfl (by kernel_rfl) rfl ?_
       exact gr [0] (B1 hx24) rfl (peW ⟨trivial,trivial⟩ rfl)
      ·exact gr [0] (B1 hx24) rfl (peW ⟨trivial,trivial⟩ rfl)
    ·refine e' rfl ?_
     refine st2 0 3 rfl (by kernel_rfl) rfl rfl ?_ ?_
     ·refine e' rfl ?_
      refine st2 1 3 rfl (by kernel_rfl) rfl rfl ?_ ?_
      ·refine e' rfl ?_
       refine st1 3 rfl (by kernel_rfl) rfl ?_
       exact gr [0] (B1 hx24) rfl (peW ⟨trivial,trivial⟩ rfl)
      ·exact gr [0] (B1 hx24) rfl (peW ⟨trivial,trivial⟩ rfl)
     ·exact gr [0] (B1 hx24) rfl (peW ⟨trivial,trivial⟩ rfl)
   obtain ⟨c5,hh⟩:=V4 hh
   refine AEx.drawE hC ?_
   refine st2 0 2 rfl (by kernel_rfl) rfl rfl ?_ ?_
   ·refine e' rfl ?_
    refine st2 1 2 rfl (by kernel_rfl) rfl rfl ?_ ?_
    ·refine e' rfl ?_
     refine st1 2 rfl (by kernel_rfl) rfl ?_
     refine e' rfl ?_
     refine st1 3 rfl (by kernel_rfl) rfl ?_
     refine gq [0] ((B1 hx24).ok) rfl (n' ?_)
     refine st1 4 rfl (by kernel_rfl) rfl ?_
     refine C0.be hC rfl (ei64.rows_map [x24.1]).symm (n' ?_)
     refine st1 5 rfl (by kernel_rfl) rfl ?_
     refine C0.ap hC rfl (rs:=ei64.rows (o2_Numbers++[x24.1])) (ei64.app o2_Numbers [x24.1]) (ei64.sz o2_Numbers) (ei64.sz [x24.1]) (V1 (ei64.len o2_Numbers) (ei64.len [x24.1]) c5) (n' ?_)
     refine st1 6 rfl (by kernel_rfl) rfl ?_
     refine e' rfl ?_
     refine st1 7 rfl (by kernel_rfl) rfl ?_
     exact C0.s hC rfl (n' (V0.nil (by kernel_rfl) (lq (ih0 _ _ _ hh) rfl)))
    ·refine e' rfl ?_
     refine st2 1 3 rfl (by kernel_rfl) rfl rfl ?_ ?_
     ·refine e' rfl ?_
      refine st1 3 rfl (by kernel_rfl) rfl ?_
      refine gq [0] ((B1 hx24).ok) rfl (n' ?_)
      refine st1 4 rfl (by kernel_rfl) rfl ?_
      refine C0.be hC rfl (ei64.rows_map [x24.1]).symm (n' ?_)
      refine st1 5 rfl (by kernel_rfl) rfl ?_
      refine C0.ap hC rfl (rs:=ei64.rows (o2_Numbers++[x24.1])) (ei64.app o2_Numbers [x24.1]) (ei64.sz o2_Numbers) (ei64.sz [x24.1]) (V1 (ei64.len o2_Numbers) (ei64.len [x24.1]) c5) (n' ?_)
      refine st1 6 rfl (by kernel_rfl) rfl ?_
      refine e' rfl ?_
      refine st1 7 rfl (by kernel_rfl) rfl ?_
      exact C0.s hC rfl (n' (V0.nil (by kernel_rfl) (lq (ih0 _ _ _ hh) rfl)))
     ·refine gq [0] ((B1 hx24).ok) rfl (n' ?_)
      refine st2 1 4 rfl (by kernel_rfl) rfl rfl ?_ ?_
      ·refine e' rfl ?_
       refine st1 4 rfl (by kernel_rfl) rfl ?_
       refine C0.be hC rfl (ei64.rows_map [x24.1]).symm (n' ?_)
       refine st1 5 rfl (by kernel_rfl) rfl ?_
       refine C0.ap hC rfl (rs:=ei64.rows (o2_Numbers++[x24.1])) (ei64.app o2_Numbers [x24.1]) (ei64.sz o2_Numbers) (ei64.sz [x24.1]) (V1 (ei64.len o2_Numbers) (ei64.len [x24.1]) c5) (n' ?_)
       refine st1 6 rfl (by kernel_rfl) rfl ?_
       refine e' rfl ?_
       refine st1 7 rfl (by kernel_rfl) rfl ?_
       exact C0.s hC rfl (n' (V0.nil (by kernel_rfl) (lq (ih0 _ _ _ hh) rfl)))
      ·refine C0.be hC rfl (ei64.rows_map [x24.1]).symm (n' ?_)
       refine st1 1 rfl (by kernel_rfl) rfl ?_
       refine e' rfl ?_
       refine st1 5 rfl (by kernel_rfl) rfl ?_
       refine C0.ap hC rfl (rs:=ei64.rows (o2_Numbers++[x24.1])) (ei64.app o2_Numbers [x24.1]) (ei64.sz o2_Numbers) (ei64.sz [x24.1]) (V1 (ei64.len o2_Numbers) (ei64.len [x24.1]) c5) (n' ?_)
       refine st1 6 rfl (by kernel_rfl) rfl ?_
       refine e' rfl ?_
       refine st1 7 rfl (by kernel_rfl) rfl ?_
       exact C0.s hC rfl (n' (V0.nil (by kernel_rfl) (lq (ih0 _ _ _ hh) rfl)))
   ·refine e' rfl ?_
    refine st2 0 3 rfl (by kernel_rfl) rfl rfl ?_ ?_
    ·refine e' rfl ?_
     refine st2 1 3 rfl (by kernel_rfl) rfl rfl ?_ ?_
     ·refine e' rfl ?_
      refine st1 3 rfl (by kernel_rfl) rfl ?_
      refine gq [0] ((B1 hx24).ok) rfl (n' ?_)
      refine st1 4 rfl (by kernel_rfl) rfl ?_
      refine C0.be hC rfl (ei64.rows_map [x24.1]).symm (n' ?_)
      refine st1 5 rfl (by kernel_rfl) rfl ?_
      refine C0.ap hC rfl (rs:=ei64.rows (o2_Numbers++[x24.1])) (ei64.app o2_Numbers [x24.1]) (ei64.sz o2_Numbers) (ei64.sz [x24.1]) (V1 (ei64.len o2_Numbers) (ei64.len [x24.1]) c5) (n' ?_)
      refine st1 6 rfl (by kernel_rfl) rfl ?_
      refine e' rfl ?_
      refine st1 7 rfl (by kernel_rfl) rfl ?_
      exact C0.s hC rfl (n' (V0.nil (by kernel_rfl) (lq (ih0 _ _ _ hh) rfl)))
     ·refine gq [0] ((B1 hx24).ok) rfl (n' ?_)
      refine st2 1 4 rfl (by kernel_rfl) rfl rfl ?_ ?_
      ·refine e' rfl ?_
       refine st1 4 rfl (by kernel_rfl) rfl ?_
       refine C0.be hC rfl (ei64.rows_map [x24.1]).symm (n' ?_)
       refine st1 5 rfl (by kernel_rfl) rfl ?_
       refine C0.ap hC rfl (rs:=ei64.rows (o2_Numbers++[x24.1])) (ei64.app o2_Numbers [x24.1]) (ei64.sz o2_Numbers) (ei64.sz [x24.1]) (V1 (ei64.len o2_Numbers) (ei64.len [x24.1]) c5) (n' ?_)
       refine st1 6 rfl (by kernel_rfl) rfl ?_
       refine e' rfl ?_
       refine st1 7 rfl (by kernel_rfl) rfl ?_
       exact C0.s hC rfl (n' (V0.nil (by kernel_rfl) (lq (ih0 _ _ _ hh) rfl)))
      ·refine C0.be hC rfl (ei64.rows_map [x24.1]).symm (n' ?_)
       refine st1 1 rfl (by kernel_rfl) rfl ?_
       refine e' rfl ?_
       refine st1 5 rfl (by kernel_rfl) rfl ?_
       refine C0.ap hC rfl (rs:=ei64.rows (o2_Numbers++[x24.1])) (ei64.app o2_Numbers [x24.1]) (ei64.sz o2_Numbers) (ei64.sz [x24.1]) (V1 (ei64.len o2_Numbers) (ei64.len [x24.1]) c5) (n' ?_)
       refine st1 6 rfl (by kernel_rfl) rfl ?_
       refine e' rfl ?_
       refine st1 7 rfl (by kernel_rfl) rfl ?_
       exact C0.s hC rfl (n' (V0.nil (by kernel_rfl) (lq (ih0 _ _ _ hh) rfl)))
    ·refine gq [0] ((B1 hx24).ok) rfl (n' ?_)
     refine st2 0 4 rfl (by kernel_rfl) rfl rfl ?_ ?_
     ·refine e' rfl ?_
      refine st2 1 4 rfl (by kernel_rfl) rfl rfl ?_ ?_
      ·refine e' rfl ?_
       refine st1 4 rfl (by kernel_rfl) rfl ?_
       refine C0.be hC rfl (ei64.rows_map [x24.1]).symm (n' ?_)
       refine st1 5 rfl (by kernel_rfl) rfl ?_
       refine C0.ap hC rfl (rs:=ei64.rows (o2_Numbers++[x24.1])) (ei64.app o2_Numbers [x24.1]) (ei64.sz o2_Numbers) (ei64.sz [x24.1]) (V1 (ei64.len o2_Numbers) (ei64.len [x24.1]) c5) (n' ?_)
       refine st1 6 rfl (by kernel_rfl) rfl ?_
       refine e' rfl ?_
       refine st1 7 rfl (by kernel_rfl) rfl ?_
       exact C0.s hC rfl (n' (V0.nil (by kernel_rfl) (lq (ih0 _ _ _ hh) rfl)))
      ·refine C0.be hC rfl (ei64.rows_map [x24.1]).symm (n' ?_)
       refine st1 1 rfl (by kernel_rfl) rfl ?_
       refine e' rfl ?_
       refine st1 5 rfl (by kernel_rfl) rfl ?_
       refine C0.ap hC rfl (rs:=ei64.rows (o2_Numbers++[x24.1])) (ei64.app o2_Numbers [x24.1]) (ei64.sz o2_Numbers) (ei64.sz [x24.1]) (V1 (ei64.len o2_Numbers) (ei64.len [x24.1]) c5) (n' ?_)
       refine st1 6 rfl (by kernel_rfl) rfl ?_
       refine e' rfl ?_
       refine st1 7 rfl (by kernel_rfl) rfl ?_
       exact C0.s hC rfl (n' (V0.nil (by kernel_rfl) (lq (ih0 _ _ _ hh) rfl)))
     ·refine C0.be hC rfl (ei64.rows_map [x24.1]).symm (n' ?_)
      refine st1 0 rfl (by kernel_rfl) rfl ?_
      refine e' rfl ?_
      refine st1 1 rfl (by kernel_rfl) rfl ?_
      refine e' rfl ?_
      refine st1 5 rfl (by kernel_rfl) rfl ?_
      refine C0.ap hC rfl (rs:=ei64.rows (o2_Numbers++[x24.1])) (ei64.app o2_Numbers [x24.1]) (ei64.sz o2_Numbers) (ei64.sz [x24.1]) (V1 (ei64.len o2_Numbers) (ei64.len [x24.1]) c5) (n' ?_)
      refine st1 6 rfl (by kernel_rfl) rfl ?_
      refine e' rfl ?_
      refine st1 7 rfl (by kernel_rfl) rfl ?_
      exact C0.s hC rfl (n' (V0.nil (by kernel_rfl) (lq (ih0 _ _ _ hh) rfl)))
  refine ex' (P' 1 rfl ?_)
  rcases bp' hh with ⟨nn,hx25,⟨⟩⟩ | ⟨x25,hx25,hh⟩
  ·exact gr [0] (F0 hx25) rfl (peW ⟨trivial,trivial⟩ rfl)
  refine gq [0] ((F0 hx25).ok) rfl (n' (p' 1 rfl (C0.s hC rfl (e' rfl (re' ?_)))))
  have hq:=oi' hh
  subst hq
  exact ⟨_,.tup [.agg [.d (.int .i64 8),.d (.int .i64 0),.d (.int .i64 0),.d (.str []),.d (.sl (B0.rows [])),.d (.int .i64 0),.d (.int .i64 0),.d (.str []),.d (.sl (B0.rows [])),.d (.str []),.d (.sl (B0.rows [])),.d (.int .i64 0),.d (.int .i64 0),.d (.int .i64 0),.d (.sl (ei64.rows o2_Numbers)),.d (.sl (J0.rows [])),.d (.sl (J0.rows []))],.d (.bool true)],[.row (A0.cells x25) 112],rfl,(.tupL ⟨(.aggL ⟨.rfl,.rfl,.rfl,.rfl,.rfl,.rfl,.rfl,.rfl,.rfl,.rfl,.rfl,.rfl,.rfl,.rfl,.osl,.rfl,.rfl,trivial⟩),.rfl,trivial⟩),⟨⟨rfl,.refl _,rfl⟩,trivial⟩,rfl,rfl,rpq rfl rfl⟩
theorem Jm {o0 o2_Numbers res}(hh:Y3 o0 o2_Numbers=some res):Dg o0 o2_Numbers res:=(Zl) _ _ _ hh
mutual
def X3 (parserParser:A0):Option (Pn (List J0×A0)):=
 Q5 parserParser []
 partial_fixpoint
def Q5 (o0:A0)(out:List J0):Option (Pn (List J0×A0)):=
 Qa o0>>=fun x1=>match x1 with
 | .pn nn=>
 some (.pn nn)
 | .ok x1=>
 if (!x1.2.1)=true then
  some (.ok (out,x1.2.2))
 else
  if (decide ((out.length+1) * 257≤140737488355328))=true then
   Q5 x1.2.2 (out++[x1.1])
  else none
 partial_fixpoint
def Qa (parserParser:A0):Option (Pn (J0×Bool×A0)):=
 V5 parserParser>>=fun x1=>
 if x1=true then
  I7 parserParser>>=fun x2=>match x2 with
  | .pn nn=>
  some (.pn nn)
  | .ok x2=>
  some (.ok (x2.1,true,x2.2))
 else
  S0 [111,117,116,112,117,116] parserParser>>=fun x3=>
  if x3.1=true then
   T1 x3.2>>=fun x4=>match x4 with
   | .pn nn=>
   some (.pn nn)
   | .ok x4=>
   U0 [59] x4.2>>=fun x5=>match x5 with
   | .pn nn=>
   some (.pn nn)
   | .ok x5=>
   some (.ok ((J0.mk 3 (B0.mk 0 0 [] []) x4.1 [] [] 0 0 0 [] [] []),true,x5))
  else
   S0 [119,97,105,116] x3.2>>=fun x6=>
   if x6.1=true then
    U2 x6.2>>=fun x7=>match x7 with
    | .pn nn=>
    some (.pn nn)
    | .ok x7=>
    U0 [59] x7.2>>=fun x8=>match x8 with
    | .pn nn=>
    some (.pn nn)
    | .ok x8=>
    some (.ok ((J0.mk 4 (B0.mk 0 0 [] []) (B0.mk 0 0 [] []) [] [] x7.1 0 0 [] [] []),true,x8))
   else
    S0 [115,101,116,116,108,101] x6.2>>=fun x9=>
    if x9.1=true then
     U2 x9.2>>=fun x10=>match x10 with
     | .pn nn=>
     some (.pn nn)
     | .ok x10=>
     Y3 x10.2 [x10.1]
    else
     S0 [105,102] x9.2>>=fun x11=>
     if x11.1=true then
      T1 x11.2>>=fun x12=>match x12 with
      | .pn nn=>
      some (.pn nn)
      | .ok x12=>
      K6 x12.2>>=fun x26=>match x26 with
      | .pn nn=>
      some (.pn nn)
      | .ok x26=>
      S0 [101,108,115,101] x26.2>>=fun x27=>
      if x27.1=true then
       K6 x27.2>>=fun x28=>match x28 with
       | .pn nn=>
       some (.pn nn)
       | .ok x28=>
       some (.ok ((J0.mk 5 (B0.mk 0 0 [] []) x12.1 [] [] 0 0 0 [] x26.1 x28.1),true,x28.2))
      else
       some (.ok ((J0.mk 5 (B0.mk 0 0 [] []) x12.1 [] [] 0 0 0 [] x26.1 []),true,x27.2))
     else
      S0 [119,104,105,108,101] x11.2>>=fun x13=>
      if x13.1=true then
       T1 x13.2>>=fun x14=>match x14 with
       | .pn nn=>
       some (.pn nn)
       | .ok x14=>
       U0 [108,105,109,105,116] x14.2>>=fun x15=>match x15 with
       | .pn nn=>
       some (.pn nn)
       | .ok x15=>
       U2 x15>>=fun x16=>match x16 with
       | .pn nn=>
       some (.pn nn)
       | .ok x16=>
       K6 x16.2>>=fun x29=>match x29 with
       | .pn nn=>
       some (.pn nn)
       | .ok x29=>
       some (.ok ((J0.mk 6 (B0.mk 0 0 [] []) x14.1 [] [] x16.1 0 0 [] x29.1 []),true,x29.2))
      else
       S0 [102,111,114] x13.2>>=fun x17=>
       if x17.1=true then
        I3 x17.2>>=fun x18=>match x18 with
        | .pn nn=>
        some (.pn nn)
        | .ok x18=>
        U0 [61] x18.2>>=fun x19=>match x19 with
        | .pn nn=>
        some (.pn nn)
        | .ok x19=>
        U2 x19>>=fun x20=>match x20 with
        | .pn nn=>
        some (.pn nn)
        | .ok x20=>
        U0 [116,111] x20.2>>=fun x21=>match x21 with
        | .pn nn=>
        some (.pn nn)
        | .ok x21=>
        U2 x21>>=fun x22=>match x22 with
        | .pn nn=>
        some (.pn nn)
        | .ok x22=>
        K6 x22.2>>=fun x30=>match x30 with
        | .pn nn=>
        some (.pn nn)
        | .ok x30=>
        some (.ok ((J0.mk 7 (B0.mk 0 0 [] []) (B0.mk 0 0 [] []) x18.1 [] 0 x20.1 x22.1 [] x30.1 []),true,x30.2))
       else
        some (.ok ((J0.mk 0 (B0.mk 0 0 [] []) (B0.mk 0 0 [] []) [] [] 0 0 0 [] [] []),false,x17.2))
 partial_fixpoint
def K6 (parserParser:A0):Option (Pn (List J0×A0)):=
 U0 [123] parserParser>>=fun x1=>match x1 with
 | .pn nn=>
 some (.pn nn)
 | .ok x1=>
 X3 x1>>=fun x2=>match x2 with
 | .pn nn=>
 some (.pn nn)
 | .ok x2=>
 U0 [125] x2.2>>=fun x3=>match x3 with
 | .pn nn=>
 some (.pn nn)
 | .ok x3=>
 some (.ok (x2.1,x3))
 partial_fixpoint
end
abbrev Ci (parserParser:A0)(res:Pn (List J0×A0)):Prop:=I2 C 68 [.ref 0 0] [.row (A0.cells parserParser) 112] (P4 res (fun rr=>[.row (A0.cells rr.2) 112]) (fun rr=>.d (.sl (J0.rows rr.1)))) (H4 res O3 [.dead])
abbrev Km (o0:A0)(out:List J0)(res:Pn (List J0×A0)):Prop:=LMp C 18 1 Tryz.f68 [1,1,4] [(0,.ref 0 0),(3,.osl 1 (J0.rows out))] [.row (A0.cells o0) 112,.tok 88 17] (P4 res (fun rr=>[.row (A0.cells rr.2) 112]) (fun rr=>.d (.sl (J0.rows rr.1)))) (H4 res O3 [.dead])
abbrev Hq (parserParser:A0)(res:Pn (J0×Bool×A0)):Prop:=I2 C 104 [.ref 0 0] [.row (A0.cells parserParser) 112] (P4 res (fun rr=>[.row (A0.cells rr.2.2) 112]) (fun rr=>.tup [.agg (J0.cells rr.1),.d (.bool rr.2.1)])) (H4 res O3 [.dead])
abbrev Iu (parserParser:A0)(res:Pn (List J0×A0)):Prop:=I2 C 164 [.ref 0 0] [.row (A0.cells parserParser) 112] (P4 res (fun rr=>[.row (A0.cells rr.2) 112]) (fun rr=>.d (.sl (J0.rows rr.1)))) (H4 res O3 [.dead])
theorem Fn:(∀ parserParser res,X3 parserParser=some res→Ci parserParser res)∧(∀ o0 out res,Q5 o0 out=some res→Km o0 out res)∧(∀ parserParser res,Qa parserParser=some res→Hq parserParser res)∧(∀ parserParser res,K6 parserParser=some res→Iu parserParser res):=by
 refine X3.mutual_partial_correctness _ _ _ _ ?_ ?_ ?_ ?_
 ·intro g1 ih1 parserParser res hh
  exact I2.intro hC Tryz.func68 rfl rfl rfl (t' rfl (p' 1 rfl (C0.tokE 3 88 17 rfl (n' (bk' (fq (ih1 _ _ _ hh) rfl))))))
 ·intro g1 g2 ih1 ih2 o0 out res hh
  refine F1.unroll (bk' (p' 1 rfl ?_))
  rcases bp' hh with ⟨nn,hx1,⟨⟩⟩ | ⟨x1,hx1,hh⟩
  ·exact gr [0] (ih2 _ _ hx1) rfl (peW ⟨trivial,trivial⟩ rfl)
  refine gq [0] ((ih2 _ _ hx1).ok) rfl (o' 3 rfl (C0.nf hC rfl (C0.s hC rfl (e' rfl (S' (t' rfl (ci' rfl hh (fun hh=>?_) (fun hh=>?_))))))))
  ·refine t' rfl (re' ?_)
   have hq:=oi' hh
   subst hq
   exact ⟨_,.d (.sl (J0.rows out)),[.row (A0.cells x1.2.2) 112],rfl,.osl,⟨⟨rfl,.refl _,rfl⟩,trivial⟩,rfl,rfl,rpq rfl rfl⟩
  obtain ⟨c5,hh⟩:=V4 hh
  exact sk' (P' 2 rfl (C0.be hC rfl (J0.rows_map [x1.1]).symm (C0.ap hC rfl (rs:=J0.rows (out++[x1.1])) (J0.app out [x1.1]) (J0.sz out) (J0.sz [x1.1]) (V1 (J0.len out) (J0.len [x1.1]) c5) (e' rfl (lq (ih1 _ _ _ hh) rfl)))))
 ·intro g3 ih3 parserParser res hh
  obtain ⟨x1,hx1,hh⟩:=bs' hh
  refine I2.intro hC Tryz.func104 rfl rfl rfl (s' rfl rfl (C0.nf hC rfl (e' rfl (s' rfl rfl (C0.nf hC rfl (n' (S' (bk' (p' 1 rfl (gq [0] (Ze hx1) rfl (e' rfl (ci' rfl hh (fun hh=>?_) (fun hh=>?_)))))))))))))
  ·refine p' 1 rfl ?_
   rcases bp' hh with ⟨nn,hx2,⟨⟩⟩ | ⟨x2,hx2,hh⟩
   ·exact gr [0] (Vg hx2) rfl (peW ⟨trivial,trivial⟩ rfl)
   cases hh
   exact gq [0] ((Vg hx2).ok) rfl (C0.s hC rfl (e' rfl (re' (rq rfl))))
  obtain ⟨x3,hx3,hh⟩:=bs' hh
  refine p' 1 rfl (gq [0] (O0 hx3) rfl (e' rfl (ci' rfl hh (fun hh=>?_) (fun hh=>?_))))
  ·refine p' 1 rfl ?_
   rcases bp' hh with ⟨nn,hx4,⟨⟩⟩ | ⟨x4,hx4,hh⟩
   ·exact gr [0] (T0 hx4) rfl (peW ⟨trivial,trivial⟩ rfl)
   refine gq [0] ((T0 hx4).ok) rfl (q' rfl (C0.s hC rfl (n' (P' 1 rfl ?_))))
   rcases bp' hh with ⟨nn,hx5,⟨⟩⟩ | ⟨x5,hx5,hh⟩
   ·exact gr [0] (F0 hx5) rfl (peW ⟨trivial,trivial⟩ rfl)
   cases hh
   exact gq [0] ((F0 hx5).ok) rfl (n' (p' 1 rfl (C0.s hC rfl (e' rfl (re' (rq rfl))))))
  obtain ⟨x6,hx6,hh⟩:=bs' hh
  refine p' 1 rfl (gq [0] (O0 hx6) rfl (e' rfl (ci' rfl hh (fun hh=>?_) (fun hh=>?_))))
  ·refine p' 1 rfl ?_
   rcases bp' hh with ⟨nn,hx7,⟨⟩⟩ | ⟨x7,hx7,hh⟩
   ·exact gr [0] (B1 hx7) rfl (peW ⟨trivial,trivial⟩ rfl)
   refine gq [0] ((B1 hx7).ok) rfl (q' rfl (C0.s hC rfl (n' (P' 1 rfl ?_))))
   rcases bp' hh with ⟨nn,hx8,⟨⟩⟩ | ⟨x8,hx8,hh⟩
   ·exact gr [0] (F0 hx8) rfl (peW ⟨trivial,trivial⟩ rfl)
   cases hh
   exact gq [0] ((F0 hx8).ok) rfl (n' (p' 1 rfl (C0.s hC rfl (e' rfl (re' (rq rfl))))))
  obtain ⟨x9,hx9,hh⟩:=bs' hh
  refine p' 1 rfl (gq [0] (O0 hx9) rfl (e' rfl (ci' rfl hh (fun hh=>?_) (fun hh=>?_))))
  ·refine p' 1 rfl ?_
   rcases bp' hh with ⟨nn,hx10,⟨⟩⟩ | ⟨x10,hx10,hh⟩
   ·exact gr [0] (B1 hx10) rfl (peW ⟨trivial,trivial⟩ rfl)
   exact gq [0] ((B1 hx10).ok) rfl (C0.be hC rfl (ei64.rows_map [x10.1]).symm (C0.tokE 32 3 1 rfl (q' rfl (C0.s hC rfl (n' (S' (bk' (fq (Jm hh) rfl))))))))
  obtain ⟨x11,hx11,hh⟩:=bs' hh
  refine p' 1 rfl (gq [0] (O0 hx11) rfl (e' rfl (ci' rfl hh (fun hh=>?_) (fun hh=>?_))))
  ·refine p' 1 rfl ?_
   rcases bp' hh with ⟨nn,hx12,⟨⟩⟩ | ⟨x12,hx12,hh⟩
   ·exact gr [0] (T0 hx12) rfl (peW ⟨trivial,trivial⟩ rfl)
   refine gq [0] ((T0 hx12).ok) rfl (q' rfl (C0.s hC rfl (n' (p' 1 rfl ?_))))
   rcases bp' hh with ⟨nn,hx26,⟨⟩⟩ | ⟨x26,hx26,hh⟩
   ·exact gr [0] (ih3 _ _ hx26) rfl (peW ⟨trivial,trivial⟩ rfl)
   obtain ⟨x27,hx27,hh⟩:=bs' hh
   refine gq [0] ((ih3 _ _ hx26).ok) rfl (q' rfl (C0.s hC rfl (n' (p' 1 rfl (gq [0] (O0 hx27) rfl (n' (ci' rfl hh (fun hh=>?_) (fun hh=>?_))))))))
   ·refine P' 1 rfl ?_
    rcases bp' hh with ⟨nn,hx28,⟨⟩⟩ | ⟨x28,hx28,hh⟩
    ·exact gr [0] (ih3 _ _ hx28) rfl (peW ⟨trivial,trivial⟩ rfl)
    cases hh
    exact gq [0] ((ih3 _ _ hx28).ok) rfl (q' rfl (C0.s hC rfl (n' (p' 1 rfl (C0.s hC rfl (e' rfl (re' (rq rfl))))))))
   cases hh
   exact sk' (p' 1 rfl (C0.s hC rfl (e' rfl (re' (rq rfl)))))
  obtain ⟨x13,hx13,hh⟩:=bs' hh
  refine p' 1 rfl (gq [0] (O0 hx13) rfl (e' rfl (ci' rfl hh (fun hh=>?_) (fun hh=>?_))))
  ·refine p' 1 rfl ?_
   rcases bp' hh with ⟨nn,hx14,⟨⟩⟩ | ⟨x14,hx14,hh⟩
   ·exact gr [0] (T0 hx14) rfl (peW ⟨trivial,trivial⟩ rfl)
   refine gq [0] ((T0 hx14).ok) rfl (q' rfl (C0.s hC rfl (n' (p' 1 rfl ?_))))
   rcases bp' hh with ⟨nn,hx15,⟨⟩⟩ | ⟨x15,hx15,hh⟩
   ·exact gr [0] (F0 hx15) rfl (peW ⟨trivial,trivial⟩ rfl)
   refine gq [0] ((F0 hx15).ok) rfl (n' (p' 1 rfl ?_))
   rcases bp' hh with ⟨nn,hx16,⟨⟩⟩ | ⟨x16,hx16,hh⟩
   ·exact gr [0] (B1 hx16) rfl (peW ⟨trivial,trivial⟩ rfl)
   refine gq [0] ((B1 hx16).ok) rfl (q' rfl (C0.s hC rfl (n' (P' 1 rfl ?_))))
   rcases bp' hh with ⟨nn,hx29,⟨⟩⟩ | ⟨x29,hx29,hh⟩
   ·exact gr [0] (ih3 _ _ hx29) rfl (peW ⟨trivial,trivial⟩ rfl)
   cases hh
   exact gq [0] ((ih3 _ _ hx29).ok) rfl (q' rfl (C0.s hC rfl (n' (p' 1 rfl (C0.s hC rfl (e' rfl (re' (rq rfl))))))))
  obtain ⟨x17,hx17,hh⟩:=bs' hh
  refine p' 1 rfl (gq [0] (O0 hx17) rfl (e' rfl (ci' rfl hh (fun hh=>?_) (fun hh=>?_))))
  ·refine p' 1 rfl ?_
   rcases bp' hh with ⟨nn,hx18,⟨⟩⟩ | ⟨x18,hx18,hh⟩
   ·exact gr [0] (C1 hx18) rfl (peW ⟨trivial,trivial⟩ rfl)
   refine gq [0] ((C1 hx18).ok) rfl (q' rfl (C0.s hC rfl (n' (p' 1 rfl ?_))))
   rcases bp' hh with ⟨nn,hx19,⟨⟩⟩ | ⟨x19,hx19,hh⟩
   ·exact gr [0] (F0 hx19) rfl (peW ⟨trivial,trivial⟩ rfl)
   refine gq [0] ((F0 hx19).ok) rfl (n' (p' 1 rfl ?_))
   rcases bp' hh with ⟨nn,hx20,⟨⟩⟩ | ⟨x20,hx20,hh⟩
   ·exact gr [0] (B1 hx20) rfl (peW ⟨trivial,trivial⟩ rfl)
   refine gq [0] ((B1 hx20).ok) rfl (q' rfl (C0.s hC rfl (n' (p' 1 rfl ?_))))
   rcases bp' hh with ⟨nn,hx21,⟨⟩⟩ | ⟨x21,hx21,hh⟩
   ·exact gr [0] (F0 hx21) rfl (peW ⟨trivial,trivial⟩ rfl)
   refine gq [0] ((F0 hx21).ok) rfl (n' (p' 1 rfl ?_))
   rcases bp' hh with ⟨nn,hx22,⟨⟩⟩ | ⟨x22,hx22,hh⟩
   ·exact gr [0] (B1 hx22) rfl (peW ⟨trivial,trivial⟩ rfl)
   refine gq [0] ((B1 hx22).ok) rfl (q' rfl (C0.s hC rfl (n' (P' 1 rfl ?_))))
   rcases bp' hh with ⟨nn,hx30,⟨⟩⟩ | ⟨x30,hx30,hh⟩
   ·exact gr [0] (ih3 _ _ hx30) rfl (peW ⟨trivial,trivial⟩ rfl)
   cases hh
   exact gq [0] ((ih3 _ _ hx30).ok) rfl (q' rfl (C0.s hC rfl (n' (p' 1 rfl (C0.s hC rfl (e' rfl (re' (rq rfl))))))))
  refine p' 1 rfl (C0.s hC rfl (e' rfl (re' ?_)))
  have hq:=oi' hh
  subst hq
  exact ⟨_,.tup [.agg [.d (.int .i64 0),.d (.int .i64 0),.d (.int .i64 0),.d (.str []),.d (.sl (B0.rows [])),.d (.int .i64 0),.d (.int .i64 0),.d (.str []),.d (.sl (B0.rows [])),.d (.str []),.d (.sl (B0.rows [])),.d (.int .i64 0),.d (.int .i64 0),.d (.int .i64 0),.d (.sl (ei64.rows [])),.d (.sl (J0.rows [])),.d (.sl (J0.rows []))],.d (.bool false)],[.row (A0.cells x17.2) 112],rfl,(.tupL ⟨(.aggL ⟨.rfl,.rfl,.rfl,.rfl,.full,.rfl,.rfl,.rfl,.full,.rfl,.full,.rfl,.rfl,.rfl,.full,.full,.full,trivial⟩),.rfl,trivial⟩),⟨⟨rfl,.refl _,rfl⟩,trivial⟩,rfl,rfl,rpq rfl rfl⟩
 ·intro g0 ih0 parserParser res hh
  refine I2.intro hC Tryz.func164 rfl rfl rfl (t' rfl (p' 1 rfl ?_))
  rcases bp' hh with ⟨nn,hx1,⟨⟩⟩ | ⟨x1,hx1,hh⟩
  ·exact gr [0] (F0 hx1) rfl (peW ⟨trivial,trivial⟩ rfl)
  refine gq [0] ((F0 hx1).ok) rfl (n' (p' 1 rfl ?_))
  rcases bp' hh with ⟨nn,hx2,⟨⟩⟩ | ⟨x2,hx2,hh⟩
  ·exact gr [0] (ih0 _ _ hx2) rfl (peW ⟨trivial,trivial⟩ rfl)
  refine gq [0] ((ih0 _ _ hx2).ok) rfl (e' rfl (p' 1 rfl ?_))
  rcases bp' hh with ⟨nn,hx3,⟨⟩⟩ | ⟨x3,hx3,hh⟩
  ·exact gr [0] (F0 hx3) rfl (peW ⟨trivial,trivial⟩ rfl)
  cases hh
  exact gq [0] ((F0 hx3).ok) rfl (n' (t' rfl (re' (rq rfl))))
theorem W7 {parserParser res}(hh:X3 parserParser=some res):Ci parserParser res:=(Fn).1 _ _ hh
end Go.Proofs.YtbaijagfgceilaaGreatDoor

