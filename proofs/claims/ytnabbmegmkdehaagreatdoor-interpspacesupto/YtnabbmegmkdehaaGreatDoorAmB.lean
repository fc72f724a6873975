/- A part of the proof of InterpSpaces. -/
import Derived.Test.YtnabbmegmkdehaaGreatDoorAmA
import GoSem.Instr.Lookup
import GoSem.Instr.MapUpdate
import GoSem.Instr.MakeMap
import Derived.Below
import Derived.Laws.StructEq
import Derived.Laws.MakeOwn
import Derived.ChangeSame
import Derived.OpenShut
import Derived.ProofKit
import Derived.Laws.BytesArg
import Derived.Lib.LaidTab
set_option linter.defProp false
namespace Go.Am
variable {listed:Array Bool}{ms:Array MapEntry}{vs:Array Value}{env env':Env}{Q:Env->F0->Prop}{H H':F0}{N:FN}{fr:Fr}{f:FuncId}{F:Fx}{es:List (List UInt8×Row)}{b cs xs:List A}{ls ps:List Nat}{L l:List Oper}{rows rs:List Row}{k:List UInt8}{M M':Mem}{e i j off sz:Nat}{G:Nat->Value}{o:Oper}{W:Option Bool}{d dst:Option Nat}{P:Program}{α:Type}{t:TypeId}{v v':Value}
def St.newOb {C:Cx}{w w':World}{a:Act}(h:St C N M G w env H a)(hd:∀d,dst=some d->d<N){ob:Ob}{x:A}
  (D:Ext W5 M w M' w') (hg:Z3 M' w') (r:∀G,M5 M' G w' ob v') (Y:∀b,blk ob v' b->w.heap.size<=b)
  (hx:A1 M' (I3 G H.length v') x v) :
  St C N M' (I3 G H.length v') w' (put env dst x) (H++[ob]) (a.put dst v):=by
 have hh:=h.hrel.ext D (λ_ _ q=>q);have z:∀{x:A} {v:Value},A1 M' G x v->A1 M' (I3 G H.length v') x v:=λhr=>hr.mono (λ_ _ e=>e) λo hn=>P1 (Nat.ne_of_lt (hh.lt hr hn));obtain⟨h1,h2,h3⟩:=Np (λt=>z ((h.env t).mono' D.mono)) h.size hd hx;refine⟨hg,h.gl.ext h.hrel D (λ_ h=>h.elim),⟨λo x u=>?_,λo o' x x' b u I J a1=>?_,λo u=>?_⟩,h1,h2,h3.trans h.defers⟩
 ·rcases Nat.lt_trichotomy o H.length with B|rfl|hgt
  ·rw[zqx B]at u;rw[P1 (Nat.ne_of_lt B)];have r:=hh.obj o x u;cases x with
   |dead=>trivial
   |row a0 e=>
    obtain⟨b,us,X,V,Z,O,T,g6⟩:=r;exact⟨b,us,X,V,Z,O,λi y v a c=>z (T i y v a c),g6⟩
   |bld o' e=>
    obtain⟨b,v0,X,V,Z,O,T⟩:=r;have I:o'≠H.length:=λe=>O _ (by rw[e];exact hh.fresh _ (zqr _));exact⟨b,v0,X,by rw[P1 I];exact V,Z,by rw[P1 I];exact O,T⟩
   |buf e sz=>exact r
   |vec e sz cs=>exact r
   |slots γ e l=>exact r
   |tok e sz=>exact r
   |rok e sz=>exact r
   |gone=>exact r
   |map es=>
    obtain⟨b,ms,cl,X,V,Z,O,T⟩:=r;exact⟨b,ms,cl,X,V,Z,λi k cs e a c=>⟨(O i k cs e a c).1,z (O i k cs e a c).2⟩,T⟩
  ·simp at u;subst u;rw[C2];exact r _
  ·rw[List.getElem?_eq_none (by simp;omega)]at u;cases u
 ·have U:∀(o:Nat) x b,(H++[ob])[o]?=some x->blk x (I3 G H.length v' o) b->(o<H.length/\H[o]?=some x/\blk x (G o) b/\b<w.heap.size)\/(o=H.length/\w.heap.size<=b):=by
   intro o x b u J;rcases Nat.lt_trichotomy o H.length with B|rfl|hgt
   ·rw[zqx B]at u;rw[P1 (Nat.ne_of_lt B)]at J;exact .inl ⟨B,u,J,V7 (h.hrel.obj o x u) J⟩
   ·simp at u;subst u;rw[C2]at J;exact .inr ⟨rfl,Y b J⟩
   ·rw[List.getElem?_eq_none (by simp;omega)]at u;cases u
  rcases U o x b u J with⟨q1,q2,q3,q4⟩|⟨q1,q2⟩<;>rcases U o' x' b I a1 with⟨p1,p2,p3,p4⟩|⟨p1,p2⟩
  ·exact h.hrel.apart o o' x x' b q2 p2 q3 p3
  ·omega
  ·omega
  ·omega
 ·simp at u;rw[P1 (by omega)];exact h.hrel.fresh o (by omega)
def D2.newOb {w D:World}(h:D2 fr M G w H){ob:Ob}(r:Ext W5 M w M' D)(u:∀b,blk ob v' b->w.heap.size<=b) :
  D2 fr M' (I3 G H.length v') D (H++[ob]):=by
 refine⟨h.ext.trans r (λ_ h=>h.elim),λb I=>?_,by simp;have:=h.len;omega,λo x d z=>?_,λo x y d z B=>?_⟩
 ·obtain⟨o,x,d,v⟩:=I;rcases Nat.lt_trichotomy o H.length with c|rfl|hgt
  ·rw[zqx c]at d;rw[P1 (Nat.ne_of_lt c)]at v;exact h.own b ⟨o,x,d,v⟩
  ·simp at d;subst d;rw[C2]at v;exact .inr (Nat.le_trans h.ext.size (u b v))
  ·rw[List.getElem?_eq_none (by simp;omega)]at d;cases d
 ·have c:o<H.length:=Nat.lt_of_lt_of_le (zqu.1 d).1 h.len;rw[P1 (Nat.ne_of_lt c)];exact h.keep o x d z
 ·have c:o<H.length:=Nat.lt_of_lt_of_le (zqu.1 d).1 h.len;rw[zqx c]at B;exact h.kind o x y d z B
def St.setOb {C:Cx}{w w':World}{a:Act}(h:St C N M G w env H a)(hd:∀d,dst=some d->d<N){p b:Nat}{x X:Ob}
  (V:H[p]?=some x) (hb:blk x (G p) b) (a4:∀c,blk X (G p) c->blk x (G p) c) (r:Ext (λc=>c=b) M w M w') (hM:∀off sp,M ⟨b,off,sp⟩=none) (Y:M5 M G w' X (G p)) {y:A} (Z:A1 M G y v) :
  St C N M G w' (put env dst y) (A5 H p X) (a.put dst v):=by
 have I:p<H.length:=(zqu.1 V).1;obtain⟨h1,h2,h3⟩:=Np h.env h.size hd Z;refine⟨h.good.ext r (λad u e hk=>?_),h.gl.ext h.hrel r (λc hc=>by subst hc;exact⟨p,_,V,hb⟩),⟨λi z B=>?_,λi i' z z' c B a3 hx a6=>?_,λi B=>h.hrel.fresh i (by rw[H9]at B;exact B)⟩,h1,h2,h3.trans h.defers⟩
 ·obtain⟨bb,oo,ss⟩:=ad;have a0:bb=b:=hk;subst a0;rw[hM]at e;cases e
 ·rw[C5 H p _ i I]at B;split at B
  ·rename_i e;subst e;simp only[zqb]at B;subst B;exact Y
  ·rename_i a5;have O:=h.hrel.obj i z B;exact O.keep (λ_ _ e=>e) r.size (λc U=>r.block c (V7 O U) λe=>a5 (h.hrel.apart i p z _ b B V (e▸U) hb)) (λ_ _ _ _ e=>e)
 ·have D:∀(n:Nat) z d,(A5 H p X)[n]?=some z->blk z (G n) d->∃y,H[n]?=some y/\blk y (G n) d:=by
   intro n z d T hz;rw[C5 H p _ n I]at T;by_cases e:n=p
   ·rw[zp e]at T;subst e;obtain rfl:=Option.some.inj T;exact⟨_,V,a4 _ hz⟩
   ·rw[zn e]at T;exact⟨z,T,hz⟩
  obtain⟨y,Z,a2⟩:=D i z c B hx;obtain⟨y',a1,J⟩:=D i' z' c a3 a6;exact h.hrel.apart i i' y y' c Z a1 a2 J
def D2.setOb {w V:World}(h:D2 fr M G w H){p b:Nat}{x J:Ob}
  (D:H[p]?=some x) (X:blk x (G p) b) (T:∀c,blk J (G p) c->blk x (G p) c) (O:isTok x=false->isTok J=false) (u:Ext (λc=>c=b) M w M V):D2 fr M G V (A5 H p J):=by
 have v:p<H.length:=(zqu.1 D).1;have B:Go.Am.own G H b:=⟨p,_,D,X⟩
 refine⟨h.ext.trans u (λx I=>by subst I;exact h.own _ B),λc hc=>?_,by rw[H9];exact h.len,h.keep,λi z y d U r=>?_⟩
 ·obtain⟨i,z,d,I⟩:=hc;rw[C5 H p _ i v]at d;by_cases e:i=p
  ·rw[zp e]at d;subst e;obtain rfl:=Option.some.inj d;exact h.own _ ⟨i,_,D,T _ I⟩
  ·rw[zn e]at d;exact h.own c ⟨i,z,d,I⟩
 ·rw[C5 H p _ i v]at r;by_cases e:i=p
  ·rw[zp e]at r;obtain rfl:=Option.some.inj r;exact O (h.kind i z x d U (by rw[e];exact D))
  ·rw[zn e]at r;exact h.kind i z y d U r
def Ch (k:List UInt8):List (List UInt8×Row)->Option Row
 |[]=>none
 |(k',cs)::r=>bif k==k' then some cs else Ch k r
def mput (k:List UInt8)(cs:Row):List (List UInt8×Row)->List (List UInt8×Row)
 |[]=>[(k,cs)]
 |(k',cs')::r=>bif k==k' then(k,cs)::r else(k',cs')::mput k cs r
def L28 {a b:List UInt8}:((⟨a.toArray⟩:ByteArray)==⟨b.toArray⟩)=(a==b):=by
 show(a.toArray==b.toArray)=(a==b)
 simp
def K13 {k:List UInt8}:∀{es:List (List UInt8×Row)} {ms:List MapEntry} {i:Nat},ms.length=es.length->(∀(n:Nat) k' cs e,es[n]?=some (k',cs)->ms[n]?=some e->e.key = .string ⟨k'.toArray⟩)->
  (Ch k es=none/\Instr.findNow .string (.string ⟨k.toArray⟩) ms i=some none/\∀cs,mput k cs es=es++[(k,cs)])\/
  ∃n cs e,es[n]?=some (k,cs)/\Ch k es=some cs/\ms[n]?=some e/\Instr.findNow .string (.string ⟨k.toArray⟩) ms i=some (some (i+n,e.val))/\∀d,mput k d es=es.set n (k,d)
 |[],[],i,_,_=>.inl ⟨rfl,rfl,λ_=>rfl⟩
 |(k',cs)::es,m::ms,i,r,y=>by
  have z:=y 0 k' cs m rfl rfl;simp only[Instr.findNow,z,Instr.sameNow,Ch,mput,L28];cases hb:k==k' with
  |true=>
   obtain rfl:=beq_iff_eq.1 hb;exact .inr ⟨0,cs,m,rfl,rfl,rfl,rfl,λ_=>rfl⟩
  |false=>
   simp only[zql];rcases K13 (k:=k) (es:=es) (ms:=ms) (i:=i+1) (by simpa using r) (λn k' cs e a b=>y (n+1) k' cs e (by simpa using a) (by simpa using b))with⟨u,x,v⟩|⟨n,d,e,u,x,v,B,D⟩
   ·exact .inl ⟨u,x,λd=>by rw[v];rfl⟩
   ·exact .inr ⟨n+1,d,e,by simpa using u,x,by simpa using v,by rw[B];congr 3;omega,λc=>by rw[D];rfl⟩
 |[],_::_,_,r,_=>by simp at r
 |_::_,[],_,r,_=>by simp at r
def G1a (es:List (List UInt8×Row)):(Kp.s es).list.length=es.length:=by simp[Kp.list]
def U1h (h:∀(i:Nat) k cs e,(Kp.s es).list[i]?=some (k,cs)->ms[i]?=some e->F2 M k e.key/\A1 M G (Mc cs) e.val) :
  ∀(i:Nat) k cs e,es[i]?=some (k,cs)->ms[i]?=some e->F2 M (.str k) e.key/\A1 M G (Mc cs) e.val:=λi k cs e a b=>h i (.str k) cs e (by simp[Kp.list,a]) b
def K22 (h:∀(i:Nat) k cs e,es[i]?=some (k,cs)->ms[i]?=some e->F2 M (.str k) e.key/\A1 M G (Mc cs) e.val) :
  ∀(i:Nat) k cs e,(Kp.s es).list[i]?=some (k,cs)->ms[i]?=some e->F2 M k e.key/\A1 M G (Mc cs) e.val:=λi k cs e a b=>by
 simp only[Kp.list,List.getElem?_map]at a;cases hp:es[i]? with
 |none=>rw[hp]at a;cases a
 |some p=>
  rw[hp]at a;simp only[zqt,zqb,zqh]at a;obtain⟨rfl,rfl⟩:=a;exact h i p.1 p.2 e hp b
def C16 (i:TI):A:=bif i.u.agg then .agg (i.zero.map .d)else(match nth i.zero 0 with|some x=>.d x|none=>.junk)
structure Lk where
 d:Option Nat
 es:List (List UInt8×Row)
 k:List UInt8
 ok:Bool
 z:A
def L13 (C:Cx)(L:List Oper)(o:Oper)(env:Env)(H:F0):Option Lk:=
 match K1 L env o,o.op,O3 o with
 |some true,.lookup t x y ok,some d=>match Z1 C.T t,ev C.GL env x,ev C.GL env y with
  |some i,.mp p,.d (.str k)=>match i.u,nth H p with
   |.map kt et,some (.map (.s es))=>match Z1 C.T kt,Z1 C.T et with
    |some ki,some ei=>match ki.u,frc (C16 ei)with
     |.str,some z=>some ⟨d,es,k,ok,z⟩
     |_,_=>none
    |_,_=>none
   |_,_=>none
  |_,_,_=>none
 |_,_,_=>none
def lkA (r:Option Row)(z:A)(ok:Bool):A:=
 match r,ok with
 |some cs,true=>.tup [Mc cs,.d (.bool true)]
 |none,true=>.tup [z,.d (.bool false)]
 |some cs,false=>Mc cs
 |none,false=>z
def Xg {w:World}{d:Nat}(h:P.underlying d=some .string)(b:Bool)(s:ByteArray):(Instr.checkKey b 10000 d (.string s)).run P w = .ok () w:=by
 have c:∀n,(Instr.checkKey b (n+1) d (.string s)).run P w = .ok () w:=λn=>by simp[Instr.checkKey,run_underlying h]
 exact c 9999
def Oi {w:World}{b:Nat}{c:Nat}(h:w.heap[b]?=some (.map ms c)):(getObj b).run P w = .ok (.map ms c) w:=by
 simp[getObj,Sem.run,h]
def D1d {T:TT}(y:TOk P T){t:Nat}{i:TI}(B:Z1 T t=some i)(M:Mem)(G:Nat->Value):∃z,(∀w,(zeroValue t).run P w = .ok z w)/\A1 M G (C16 i) z:=by
 obtain⟨z,D,c,b⟩:=H13 (M:=M) (G:=G) y B;refine⟨z,D,?_⟩;unfold C16;cases hg:i.u.agg with
 |true=>
  rw[hg]at b;simp only[zt]at b;obtain⟨I,rfl⟩:=b;exact .agg (by simpa[Value.cells]using c.1) (λn v r=>c.2.1 n v r) λn x v d r=>c.2.2 n x v d r
 |false=>
  rw[hg]at b;simp only[zqa,zw]at b;simp only[zql,Q2];split
  ·rename_i x d;exact c.2.2 0 _ z (by rw[List.getElem?_map,d];rfl) (by rw[b];rfl)
  ·exact .junk
def Jy {C:Cx}{r:Lk}(h:L13 C L o env H=some r):K1 L env o=some true/\O3 o=some r.d:=by
 unfold L13 at h;split at h
 ·rename_i t x y v d b u c;split at h
  ·split at h
   ·split at h
    ·split at h
     ·simp only[zqb]at h;subst h;exact⟨b,c⟩
     ·cases h
    ·cases h
   ·cases h
  ·cases h
 ·cases h
def Gw {C:Cx}(hC:T1 C){k:List UInt8}{ok:Bool}{z:A}(h:L13 C L o env H=some ⟨d,es,k,ok,z⟩){r:Option Row}(hr:Ch k es=r):R4 C o env H (lkA r z ok):=by
 intro M G w a a8 Qw hρ hG b0 hH a5;subst hr;unfold L13 at h;split at h
 ·rename_i t x y u d' hw ho hd;rw[ho]at hρ;split at h
  ·rename_i i p k' ht c hy;split at h
   ·rename_i kt et U hu hp;split at h
    ·rename_i ki ei a1 a6;split at h
     ·rename_i z' a2 hz;simp only[zqb,Lk.mk.injEq]at h;obtain⟨rfl,rfl,rfl,rfl,rfl⟩:=h;have a4:=On hz;subst a4;have O:=hρ x (by simp[Op.operands]);have D:=hρ y (by simp[Op.operands]);rw[c]at O;rw[hy]at D;generalize hxv:a.eval x=xv at O;generalize hyv:a.eval y=yv at D;cases O;rename_i b a7;cases D;rename_i D;cases D;rename_i a9;rw[Q2]at hp;obtain⟨b',ms,cl,g1,g2,g3,Z,g5,g6⟩:=hH.obj p _ hp;have g3:=g3.trans (G1a U);have Z:=U1h Z;rw[a7]at g1;simp at g1;subst g1;have hd:=Nn (hC.tok.facts ht) hu;have J:=Cq (hC.tok.facts a1) a2;obtain⟨zv,a0,B⟩:=D1d hC.tok a6 M G;have T:∀(n:Nat) k' V e,U[n]?=some (k',V)->ms.toList[n]?=some e->e.key = .string ⟨k'.toArray⟩:=λn k' V e a b=>by
       have:=(Z n k' V e a (by simpa using b)).1;generalize e.key=ek at this;cases this;rfl
      have a3:∃v,(Instr.lookup t (.map (some b)) (.string ⟨k'.toArray⟩) u).run C.P w = .ok v w/\A1 M G (lkA (Ch k' U) (C16 ei) u) v:=by
       rcases K13 (k:=k') (i:=0) (by simpa using g3) T with⟨h1,h2,_⟩|⟨n,V,e,h1,h2,h3,h4,_⟩
       ·refine⟨if u then .tuple #[zv,.bool false]else zv,?_,?_⟩
        ·simp[Instr.lookup,run_underlying hd,Oi g2,Xg J,Instr.findKey,run_underlying J,h2,a0 w]
        ·rw[h1];cases u with
         |false=>simpa[lkA]using B
         |true=>
          refine .tup rfl λi x v c I=>?_
          match i with
          |0=>simp at c I;subst c;subst I;exact B
          |1=>simp at c I;subst c;subst I;exact .d .bool
          |_+2=>simp at c
       ·have Y:=(Z n k' V e h1 (by simpa using h3)).2;refine⟨if u then .tuple #[e.val,.bool true]else e.val,?_,?_⟩
        ·simp[Instr.lookup,run_underlying hd,Oi g2,Xg J,Instr.findKey,run_underlying J,h4]
        ·rw[h2];cases u with
         |false=>simpa[lkA]using Y
         |true=>
          refine .tup rfl λi x v c I=>?_
          match i with
          |0=>simp at c I;subst c;subst I;exact Y
          |1=>simp at c I;subst c;subst I;exact .d .bool
          |_+2=>simp at c
      obtain⟨v,I,X⟩:=a3;unfold Oper.wp execOp;simp only[ho,hxv,hyv,Sem.run_bind,I,Result.andThen_ok,Sem.run_pure,Oper.upon_value];exact a5 _ M w X hG (Ext.refl _ _ _)
     ·cases h
    ·cases h
   ·cases h
  ·cases h
 ·cases h
def K0.m (hC:T1 F.C){b:Bool}{z:A}(h:L13 F.C L o env H=some ⟨d,es,k,b,z⟩){r:Option Row}(u:Ch k es=r)
  (c:K0 F L l (put env d (lkA r z b)) H Q):K0 F L (o::l) env H Q:=by
 obtain⟨x,v⟩:=Jy h;refine .yields x (Gw hC h u) ?_;rw[W2 v];exact c
def M28 (L:List Oper)(o:Oper)(env:Env)(H:F0):Option (Option Nat×Nat×F0):=
 match K1 L env o,o.op,O3 o with
 |some true,.makeMap _ none,some d=>match Dp H (.map (.s []))with|some (n,H')=>some (d,n,H')|none=>none
 |_,_,_=>none
def K0.w {F:Fx}{L l:List Oper}{o:Oper}{env:Env}{H H':F0}{Q:Env->F0->Prop}{d:Option Nat}{n:Nat}(h:M28 L o env H=some (d,n,H'))(k:K0 F L l (put env d (.mp n)) H' Q):K0 F L (o::l) env H Q:=by
 unfold M28 at h;split at h
 ·rename_i t X O B U;split at h
  ·rename_i n' H2 J;simp only[zqb,zqh]at h;obtain⟨rfl,rfl,rfl⟩:=h;obtain⟨rfl,rfl⟩:=Nh J;refine T6 O λY M G w a K Qw hK c z x T=>?_;have D:(execOp a.eval o).run F.C.P w = .ok (.value (.map (some w.heap.size))) (w.alloc (.map #[] 0)):=by
    unfold execOp;simp only[B,Instr.makeMap];rfl
   have I:Z3 M (w.alloc (.map #[] 0)):=z.good.alloc _;unfold Oper.wp;rw[D];have u:∀G,M5 M G (w.alloc (.map #[] 0)) (.map (.s [])) (.map (some w.heap.size)):=λG=>⟨w.heap.size,#[],0,rfl,heap_alloc_new w _,rfl,λi k Z e h=>by simp[Kp.list]at h,.none,λy V=>by
    cases hM:M ⟨w.heap.size,y,V⟩with
    |none=>rfl
    |some v=>have:=z.good.lt hM;simp at this⟩
   have r:∀b,blk (.map (.s [])) (.map (some w.heap.size)) b->w.heap.size<=b:=λb r=>by simp[blk]at r;omega
   refine T (.mp H.length) env _ M (I3 G H.length (.map (some w.heap.size))) _ _ ?_ (z.newOb (A4 c) (Od W5 M w _) I u r (.mp C2)) (x.newOb (Od W5 M w _) r);rw[W2 U];exact k
  ·cases h
 ·cases h
def N18:A->Option Row
 |.agg cs=>match A1n cs with
  |some [_]=>none
  |some r=>some r
  |none=>none
 |x=>match toD x with|some y=>some [y]|none=>none
def Z1j {x:A}{r:Row}(h:N18 x=some r)(J:A1 M G x v):A1 M G (Mc r) v:=by
 have c:∀y,toD x=some y->A1 M G (Mc [y]) v:=λy b=>.d (Z1m b J);unfold N18 at h;split at h
 ·rename_i Y;split at h
  ·cases h
  ·rename_i D B U;simp only[zqb]at h;subst h;obtain⟨Z,X⟩:=T1h U;have e:Mc D = .agg (D.map .d):=by
    match D,B with
    |[],_=>rfl
    |[x],B=>exact absurd rfl (B x)
    |_::_::_,_=>rfl
   rw[e];cases J with
   |agg hl O h=>
    refine .agg (by simp;omega) O λi y u b T=>?_;rw[List.getElem?_map]at b;cases hz:D[i]? with
    |none=>rw[hz]at b;cases b
    |some z=>
     rw[hz]at b;simp only[zqt,zqb]at b;subst b;obtain⟨q,V,I⟩:=X i z hz;exact .d (Z1m I (h i q u V T))
  ·cases h
 ·split at h
  ·rename_i y b;simp only[zqb]at h;subst h;exact c y b
  ·cases h
def I1r (C:Cx)(L:List Oper)(o:Oper)(env:Env)(H:F0):Option F0:=
 match K1 L env o,o.op,o.dst with
 |some true,.mapUpdate t x y z,none=>match Z1 C.T t,ev C.GL env x,ev C.GL env y,N18 (ev C.GL env z)with
  |some i,.mp p,.d (.str k),some cs=>match i.u,nth H p with
   |.map kt _,some (.map (.s es))=>match Z1 C.T kt with
    |some ki=>match ki.u with
     |.str=>Zc H p (.map (.s (mput k cs es)))
     |_=>none
    |none=>none
   |_,_=>none
  |_,_,_,_=>none
 |_,_,_=>none
def K0.u (hC:T1 F.C)(h:I1r F.C L o env H=some H')(k:K0 F L l env H' Q):K0 F L (o::l) env H Q:=by
 unfold I1r at h;split at h
 ·rename_i t x y z hw ho a1;split at h
  ·rename_i i p r Y ht hx hy hz;split at h
   ·rename_i kt et es hu hp;split at h
    ·rename_i ki a9;split at h
     ·rename_i b1;have e1:=Rj h;subst e1;refine T6 hw λfr M G w a K Qw hK a3 hs b3 hk=>?_;have a0:=hs.eval x;have O:=hs.eval y;have Z:=Z1j hz (hs.eval z);rw[hx]at a0;rw[hy]at O;generalize hxv:a.eval x=xv at a0;generalize hyv:a.eval y=yv at O;generalize hzv:a.eval z=zv at Z;cases a0;rename_i b U;cases O;rename_i O;cases O;rename_i a4;rw[Q2]at hp;obtain⟨b',ms,cl,g1,g2,g3,g4,g5,g6⟩:=hs.hrel.obj p _ hp;have g3:=g3.trans (G1a es);have g4:=U1h g4;rw[U]at g1;simp at g1;subst g1;have hd:=Nn (hC.tok.facts ht) hu;have T:=Cq (hC.tok.facts a9) b1;have a5:b<w.heap.size:=(Array.getElem?_eq_some_iff.1 g2).1;have J:∀(n:Nat) k' Y e,es[n]?=some (k',Y)->ms.toList[n]?=some e->e.key = .string ⟨k'.toArray⟩:=λn k' Y e a b=>by
       have:=(g4 n k' Y e a (by simpa using b)).1;generalize e.key=ek at this;cases this;rfl
      have b0:∀b4 sp,M ⟨b,b4,sp⟩=none:=g6
      have key:∃d v,(Instr.mapUpdate t (.map (some b)) (.string ⟨r.toArray⟩) zv).run F.C.P w = .ok () { w with heap:=w.heap.setIfInBounds b (.map d v) }/\d.size=(mput r Y es).length/\
        (∀(i:Nat) k' I e,(mput r Y es)[i]?=some (k',I)->d[i]?=some e->F2 M (.str k') e.key/\A1 M G (Mc I) e.val)/\G14 d v:=by
       have A5:∀o',(setObj b o').run F.C.P w = .ok () { w with heap:=w.heap.setIfInBounds b o' }:=λo'=>by simp[setObj,Sem.run,g2]
       rcases K13 (k:=r) (i:=0) (by simpa using g3) J with⟨h1,h2,h3⟩|⟨n,b5,e,h1,h2,h3,h4,h5⟩
       ·refine⟨ms.push ⟨.string ⟨r.toArray⟩,zv,cl⟩,cl+1,?_,by rw[h3];simp[g3],λi k' I e B D=>?_,g5.push _ _⟩
        ·simp[Instr.mapUpdate,run_underlying hd,Oi g2,Xg T,Instr.findKey,run_underlying T,h2,A5]
        ·rw[h3]at B;rw[Array.getElem?_push]at D;split at D
         ·rename_i b6;simp only[zqb]at D;subst D;rw[List.getElem?_append_right (by omega)]at B;have:i-es.length=0:=by omega
          rw[this]at B;simp at B;obtain⟨rfl,rfl⟩:=B;exact⟨.str a4,Z⟩
         ·rename_i b6;have b7:i<ms.size:=by have:=(Array.getElem?_eq_some_iff.1 D).1;omega
          rw[zqx (by omega)]at B;exact g4 i k' I e B D
       ·have hn:n<ms.size:=by simpa using(zqu.1 h3).1
        have a2:ms[n]?=some e:=by simpa using h3
        have a8:e.key = .string ⟨r.toArray⟩:=J n r b5 e h1 h3;have b2:∀w,(Instr.keyThatStays (.string ⟨r.toArray⟩) (.string ⟨r.toArray⟩)).run F.C.P w = .ok (.string ⟨r.toArray⟩) w:=λw=>by
         have:Instr.sameBits 10000 (.string ⟨r.toArray⟩) (.string ⟨r.toArray⟩)=true:=by
          show((⟨r.toArray⟩:ByteArray)==⟨r.toArray⟩)=true;rw[L28];simp
         simp[Instr.keyThatStays,this]
        refine⟨ms.modify n λe=>{ e with key:=.string ⟨r.toArray⟩,val:=zv },cl,?_,by rw[h5];simp[g3],λi k' I e' B D=>?_,g5.modify _ _ λ_=>rfl⟩
        ·simp[Instr.mapUpdate,run_underlying hd,Oi g2,Xg T,Instr.findKey,run_underlying T,h4,a2,a8,b2,A5]
        ·rw[h5,List.getElem?_set]at B;rw[Array.getElem?_modify]at D;by_cases hin:n=i
         ·rw[zp hin]at D B;subst hin;rw[a2]at D;simp only[zqt,zqb]at D;subst D;rw[zp (by omega)]at B;simp only[zqb,zqh]at B;obtain⟨rfl,rfl⟩:=B;exact⟨.str a4,Z⟩
         ·rw[zn hin]at D B;exact g4 i k' I e' B D
      obtain⟨d,v,k1,k2,k3,k4⟩:=key;have a6:blk (.map (.s es)) (G p) b:=by rw[U];rfl
      have X:∀c,blk (.map (.s (mput r Y es))) (G p) c->blk (.map (.s es)) (G p) c:=λc hc=>by rw[U]at hc⊢;exact hc
      have V:Ext (λc=>c=b) M w M { w with heap:=w.heap.setIfInBounds b (.map d v) }:=
       ⟨λ_ _ e=>e,by simp,rfl,rfl,rfl,λc _ hc=>by simp[Array.getElem?_setIfInBounds_ne (Ne.symm hc)],λ_ _ e=>.inl e⟩
      have a7:M5 M G { w with heap:=w.heap.setIfInBounds b (.map d v) } (.map (.s (mput r Y es))) (G p):=
       ⟨b,d,v,U,by simp[a5],k2.trans (G1a _).symm,K22 k3,k4,g6⟩
      have hr:(execOp a.eval o).run F.C.P w = .ok .skip { w with heap:=w.heap.setIfInBounds b (.map d v) }:=by
       unfold execOp;simp only[ho,hxv,hyv,hzv,Sem.run_bind,k1,Result.andThen_ok,Sem.run_pure]
      unfold Oper.wp;rw[hr];refine hk .junk env _ M G _ undef ?_ (hs.setOb (A4 a3) hp a6 X V b0 a7 .junk) (b3.setOb hp a6 X (λ_=>rfl) V);rw[a1];exact k
     ·cases h
    ·cases h
   ·cases h
  ·cases h
 ·cases h
def K0.ofAQ {F:Fx}{L:List Oper}{v:List Oper}{H:F0}{Q:Env->F0->Prop}:∀{l1:List Oper} {env:Env},AQ F.C L l1 env H (λe=>K0 F L v e H Q)->K0 F L (l1++v) env H Q
 |[],env,h=>h
 |o::r,env,h=>by
  obtain⟨d,x,rfl,c,u⟩:=h;rcases c with⟨b,y⟩|⟨b,rfl⟩
  ·exact .yields b y (K0.ofAQ u)
  ·exact .skip b (K0.ofAQ u)
def AQ.mono {C:Cx}{L:List Oper}{H:F0}{Q Q':Env->Prop}(b:∀e,Q e->Q' e):∀{l:List Oper} {env:Env},AQ C L l env H Q->AQ C L l env H Q'
 |[],_,h=>b _ h
 |_::_,_,⟨d,x,c,u,r⟩=>⟨d,x,c,u,AQ.mono b r⟩
def K0.leE (d:∀t,LeA (env' t) (env t))(k:K0 F L l env' H Q):K0 F L l env H Q:=by
 intro r M G w a y v u b c x;exact k r M G w a y v u ⟨b.good,b.gl,b.hrel,λt=>(d t).rel (b.env t),b.size,b.defers⟩ c x
def AEx.regionQ {id:Nat}{Q:Po}(n:Nat)(b:L.all (Hk F.N)=true)(h:AQ F.C L (L.take n) env H (λe=>K0 F L (L.drop n) e H (Ik Q))):AEx F (.region id L.toArray false) env H Q:=by
 refine .region b ?_;have:=K0.ofAQ h;rwa[List.take_append_drop]at this
abbrev Cnd:=Nat->Option Bool
variable {cnd:Cnd}
def B1s:Cnd:=λ_=>none
def Mv (env:Env)(cnd:Cnd):Env:=λt=>match cnd t with|some false=>.tup []|_=>env t
def E1d (env:Env)(cnd:Cnd):Env:=λt=>match cnd t with|none=>env t|_=>.junk
def Ky (cnd:Cnd)(d:Option Nat)(W:Option Bool):Cnd:=match d with|some t=>(λi=>bif Nat.beq i t then W else cnd i)|none=>cnd
def holds:Option Bool->Prop
 |none=>True
 |some w=>w=true
def wb:Bool->Bool->Bool
 |b,true=>b
 |b,false=>!b
def Hw (L:List Oper)(env:Env)(cnd:Cnd)(o:Oper):Option (Option Bool):=
 match o.guard with
 |none=>some none
 |some (j,want)=>
  match nth L j with
  |some p=>match p.dst with
   |some d=>match env d,cnd d with
    |.d (.bool b),none=>some (some (wb b want))
    |.d (.bool b),some c=>some (some (c&&wb b want))
    |_,_=>none
   |none=>none
  |none=>none
def isW:Option Bool->Bool
 |none=>true
 |some w=>w
def H26 (h:Hw L env cnd o=some W):K1 L (Mv env cnd) o=some (isW W):=by
 unfold Hw at h;unfold K1;split at h
 ·rename_i v;rw[v];simp only[zqb]at h;subst h;rfl
 ·rename_i j r v;rw[v];simp only;split at h
  ·rename_i p y;rw[y];simp only;split at h
   ·rename_i d x;rw[x];simp only;split at h
    ·rename_i b u hc;simp only[zqb]at h;subst h;simp only[Mv,hc,u];cases b<;>cases r<;>rfl
    ·rename_i b c u hc;simp only[zqb]at h;subst h;cases c with
     |false=>simp only[Mv,hc];rfl
     |true=>
      simp only[Mv,hc,u];cases b<;>cases r<;>rfl
    ·cases h
   ·cases h
  ·cases h
def AG (C:Cx)(L:List Oper):List Oper->Env->Cnd->F0->(Env->Cnd->Prop)->Prop
 |[],env,cnd,_,Q=>Q env cnd
 |o::r,env,cnd,H,Q=>∃d W x,o.dst=d/\Hw L env cnd o=some W/\(holds W->R4 C o (Mv env cnd) H x)/\AG C L r (put env d x) (Ky cnd d W) H Q
def I26 {x:A}:Mv (put env d x) (Ky cnd d W)=put (Mv env cnd) d (match W with|some false=>.tup []|_=>x):=by
 cases d with
 |none=>rfl
 |some t=>
  funext i;simp only[Mv,Ky,put,upd];cases hb:Nat.beq i t with
  |true=>rcases W with _|_|_<;>rfl
  |false=>rfl
def AG.aq {C:Cx}{L:List Oper}{H:F0}{Q:Env->Cnd->Prop}:∀{l:List Oper} {env:Env} {cnd:Cnd},AG C L l env cnd H Q->AQ C L l (Mv env cnd) H (λe=>∃env' b,e=Mv env' b/\Q env' b)
 |[],env,cnd,h=>⟨env,cnd,rfl,h⟩
 |o::r,env,cnd,⟨d,W,x,z,v,u,y⟩=>by
  have:=AG.aq y;rw[I26]at this;have c:=H26 v;refine⟨d,_,z,?_,this⟩;rcases W with _|_|_
  ·exact .inl ⟨c,u trivial⟩
  ·exact .inr ⟨c,rfl⟩
  ·exact .inl ⟨c,u rfl⟩
def V1o:Mv env B1s=env:=rfl
def F1x (t:Nat):LeA (E1d env cnd t) (Mv env cnd t):=by
 unfold E1d Mv;cases cnd t with
 |none=>exact .rfl
 |some c=>exact .junk
def AEx.regionG {id:Nat}{Q:Po}(n:Nat)(r:L.all (Hk F.N)=true)(h:AG F.C L (L.take n) env B1s H (λe c=>K0 F L (L.drop n) (E1d e c) H (Ik Q))):AEx F (.region id L.toArray false) env H Q:=by
 refine .regionQ n r ?_;have:=AG.aq h;rw[V1o]at this;refine this.mono λe d=>?_;obtain⟨env',b,rfl,u⟩:=d;exact .leE F1x u
def Pi (cnd:Cnd):List Operand->Prop
 |[]=>True
 |.tmp t::r=>match cnd t with
  |none=>Pi cnd r
  |some c=>c=true/\Pi cnd r
 |_::r=>Pi cnd r
def Pq {GL:GT}{env:Env}{cnd:Cnd}:∀{l:List Operand},Pi cnd l->∀y∈l,ev GL (Mv env cnd) y=ev GL env y
 |.tmp t::r,h,y,b=>by
  simp only[Pi]at h;split at h
  ·rename_i hc;cases b with
   |head=>simp only[ev,Mv,hc]
   |tail _ b=>exact Pq h y b
  ·rename_i c hc;cases b with
   |head=>simp only[ev,Mv,hc,h.1]
   |tail _ b=>exact Pq h.2 y b
 |.const v::r,h,y,b=>by
  cases b with
  |head=>rfl
  |tail _ b=>exact Pq (l:=r) h y b
 |.global g::r,h,y,b=>by
  cases b with
  |head=>rfl
  |tail _ b=>exact Pq (l:=r) h y b
 |.func f::r,h,y,b=>by
  cases b with
  |head=>rfl
  |tail _ b=>exact Pq (l:=r) h y b
def R4.congr {C:Cx}{x:A}(h:R4 C o env H x)(d:∀y∈o.op.operands,ev C.GL env' y=ev C.GL env y):R4 C o env' H x:=
 λM G w a b u r=>h M G w a b u λy c=>by rw[<-d y c];exact r y c
def noG (o:Oper):Oper:={ o with guard:=none }
def R4.noG {C:Cx}{o:Oper}{env:Env}{H:F0}{x:A}(h:R4 C (noG o) env H x):R4 C o env H x:=h
def H1a (o:Oper):List Operand:=o.op.operands.toList
def AG.lift {C:Cx}{Q:Env->Cnd->Prop}{x:A}(r:O3 o=some d)(c:Hw L env cnd o=some W)(u:holds W->Pi cnd (H1a o))(b:holds W->R4 C (noG o) env H x)
  (k:AG C L l (put env d x) (Ky cnd d W) H Q):AG C L (o::l) env cnd H Q:=
 ⟨d,W,x,W2 r,c,λh=>(b h).noG.congr λy b=>Pq (u h) y (by simpa[H1a]using b),k⟩
def C1s (C:Cx)(L:List Oper)(o:Oper)(env:Env)(cnd:Cnd)(H:F0):Option (Option Nat×Option Bool×Prop×Prop×A):=
 match Hw L env cnd o,opA C.T C.GL o.op env H with
 |some W,some (c,x)=>match frc x,O3 o with
  |some y,some d=>some (d,W,Pi cnd (H1a o),c,y)
  |_,_=>none
 |_,_=>none
def AG.q {C:Cx}(hC:T1 C){o:Oper}{Q:Env->Cnd->Prop}{S c:Prop}{x:A}(h:C1s C L o env cnd H=some (d,W,S,c,x))(b:holds W->S/\c)
  (k:AG C L l (put env d x) (Ky cnd d W) H Q):AG C L (o::l) env cnd H Q:=by
 unfold C1s at h;split at h
 ·rename_i W' c' B v u;split at h
  ·rename_i y D r z;simp only[zqb,zqh]at h;obtain⟨rfl,rfl,rfl,rfl,rfl⟩:=h;obtain rfl:=On r;exact .lift z v (λh=>(b h).1) (λh=>Al hC (o:=noG o) u (b h).2) k
  ·cases h
 ·cases h
structure Pk where
 d:Option Nat
 W:Option Bool
 sc:Prop
 t:Bool
 sa:Prop
 sb:Prop
 xa:Bool
 xb:Bool
def D1s (C:Cx)(L:List Oper)(o:Oper)(env:Env)(cnd:Cnd):Option Pk:=
 match Hw L env cnd o,o.op,O3 o with
 |some W,.pick c a b,some d=>match ev C.GL env c,ev C.GL env a,ev C.GL env b with
  |.d (.bool t),.d (.bool xa),.d (.bool xb)=>some ⟨d,W,Pi cnd [c],t,Pi cnd [a],Pi cnd [b],xa,xb⟩
  |_,_,_=>none
 |_,_,_=>none
def AG.p {C:Cx}(hC:T1 C){env:Env}{Q:Env->Cnd->Prop}{sc sa sb:Prop}{t xa xb:Bool}(h:D1s C L o env cnd=some ⟨d,W,sc,t,sa,sb,xa,xb⟩)
  (O:holds W->sc/\(t=true->sa)/\(t=false->sb)) (k:AG C L l (put env d (.d (.bool (bif t then xa else xb)))) (Ky cnd d W) H Q):AG C L (o::l) env cnd H Q:=by
 unfold D1s at h;split at h
 ·rename_i W' c a b U B r D;split at h
  ·rename_i t' X V hc T y;simp only[zqb,Pk.mk.injEq]at h;obtain⟨rfl,rfl,rfl,rfl,rfl,rfl,rfl,rfl⟩:=h;refine⟨_,_,_,W2 D,B,λh=>?_,k⟩;obtain⟨z,J,x⟩:=O h;have u:=Pq (GL:=C.GL) (env:=env) z c zqp;refine Al hC (c:=True) ?_ trivial;rw[r];simp only[opA,u,hc,U2];cases t' with
   |true=>
    have I:=Pq (GL:=C.GL) (env:=env) (J rfl) a zqp;simp only[zqk,I,T]
   |false=>
    have v:=Pq (GL:=C.GL) (env:=env) (x rfl) b zqp;simp only[zql,v,y]
  ·cases h
 ·cases h
def AG.x {C:Cx}(hC:T1 C){Q:Env->Cnd->Prop}{d:Option Nat}{W:Option Bool}{s:List UInt8}{n:Int}(u:Hw L env cnd o=some W)(h:V1f C [] (noG o) env=some (d,s,n)){k:Nat}{b:UInt8}
  (v:holds W->Pi cnd (H1a o)) (c:holds W->n=k/\s[k]?=some b) (r:AG C L l (put env d (.d (.int .u8 b.toNat))) (Ky cnd d W) H Q):AG C L (o::l) env cnd H Q:=by
 refine .lift (d:=d) (W:=W) ?_ u v (λh'=>X1g hC h (c h').1 (c h').2) r;have:=(X1j h).2;exact this
def L22:List Oper->Nat
 |[]=>0
 |o::r=>match o.op with
  |.alloc _ |.box .. |.store .. |.mapUpdate .. |.makeMap .. |.makeSlice ..=>0
  |.call { callee:=.builtin .append,.. }=>0
  |.call { callee:=.builtin .copy,.. }=>0
  |_=>L22 r+1
def Qq:List Oper->Bool
 |[]=>true
 |o::r=>o.guard.isNone&&Qq r
def AEx.regionN {id:Nat}{Q:Po}(_hg:Qq L=true)(b:L.all (Hk F.N)=true)(h:K0 F L L env H (Ik Q)):AEx F (.region id L.toArray false) env H Q:=.region b h
def M22 {w c:World}(h:Go.RowKit.Below w.heap.size w c):Ext W5 M w M c:=
 ⟨λ_ _ e=>e,h.size,h.os,h.output,h.tape,λb d _=>h.block b d,λ_ _ e=>.inl e⟩
def B4.ofBelow {C:Cx}{c:List A}{r:A}(O:M10 C.P f=true)
  (h:∀M G w (vs:Array Value),Z3 M w->L10 C M w->c.length=vs.size->(∀(i:Nat) x v,c[i]?=some x->vs[i]?=some v->A1 M G x v)->
   ∃v,(∀M G,A1 M G r v)/\Calls C.P f vs w λe u=>e = .returned v/\Go.RowKit.Below w.heap.size w u):B4 C f c [] (λx H'=>H'=[]/\x=r):=by
 refine⟨O,λM G w vs B y J V U=>?_⟩;obtain⟨v,T,hc⟩:=h M G w vs B y V U;refine hc.mono λe u ⟨I,z⟩=>?_;have d:Ext W5 M w M u:=M22 z;refine⟨v,r,[],M,G,I,⟨rfl,rfl⟩,T M G,?_,?_,d.weaken (λ_ h=>h.elim),λb z=>.inl z,zqr _,λo x D=>by simp at D⟩
 ·exact B.ext d λ_ _ _ h=>h.elim
 ·exact J.ext d λ_ _ h=>h
def V1h {s:List UInt8}(z:b.length=vs.size)(h:∀(i:Nat) x v,b[i]?=some x->vs[i]?=some v->A1 M G x v)(y:b[i]?=some (.d (.str s))) :
  vs[i]?=some (.string ⟨s.toArray⟩)/\s.length<=maxLen:=by
 have u:i<vs.size:=by rw[<-z];exact(zqu.1 y).1
 have r:vs[i]?=some vs[i]:=Array.getElem?_eq_getElem u;have c:=h i _ _ y r;generalize vs[i]=v at c r;cases c;rename_i c;cases c;exact⟨r,by assumption⟩
def J26 {k:IntKind}{n:Int}(z:b.length=vs.size)(h:∀(i:Nat) x v,b[i]?=some x->vs[i]?=some v->A1 M G x v)(y:b[i]?=some (.d (.int k n))) :
  vs[i]?=some (.int k n)/\InK k n:=by
 have u:i<vs.size:=by rw[<-z];exact(zqu.1 y).1
 have r:vs[i]?=some vs[i]:=Array.getElem?_eq_getElem u;have c:=h i _ _ y r;generalize vs[i]=v at c r;cases c;rename_i c;cases c;exact⟨r,by assumption⟩
def Z2a {a:Value}(c:vs.size=1)(b:vs[0]?=some a):vs = #[a]:=by
 apply Array.ext_getElem?;intro i
 match i with
 |0=>simpa using b
 |i+1=>rw[Array.getElem?_eq_none (by omega),Array.getElem?_eq_none (by simp)]
def Y2c {a b:Value}(r:vs.size=2)(d:vs[0]?=some a)(c:vs[1]?=some b):vs = #[a,b]:=by
 apply Array.ext_getElem?;intro i
 match i with
 |0=>simpa using d
 |1=>simpa using c
 |i+2=>rw[Array.getElem?_eq_none (by omega),Array.getElem?_eq_none (by simp)]
def O18 {b:Func}(d:P.funcs[f]?=some b)(c:(b.name == "runtime.NumGoroutine")=false)(r:b.body.isSome=true):M10 P f=true:=by simp[M10,d,r,c]
def W1h:List A->Option (List A)
 |[]=>some []
 |x::r=>match frc x,W1h r with|some y,some r'=>some (y::r')|_,_=>none
def G1x:∀{l l':List A},W1h l=some l'->l'=l
 |[],l',h=>by simp[W1h]at h;exact h
 |x::r,l',h=>by
  simp only[W1h]at h;split at h
  ·rename_i y d b c;simp only[zqb]at h;rw[<-h,On b,G1x c]
  ·cases h
def R9:F0->Option F0
 |[]=>some []
 |.row cs e::r=>match W1h cs,R9 r with|some cs',some r'=>some (.row cs' e::r')|_,_=>none
 |.dead::r=>match R9 r with|some r'=>some (.dead::r')|none=>none
 |.bld o e::r=>match R9 r with|some r'=>some (.bld o e::r')|none=>none
 |.buf e sz::r=>match R9 r with|some r'=>some (.buf e sz::r')|none=>none
 |.vec e sz cs::r=>match R9 r with|some r'=>some (.vec e sz cs::r')|none=>none
 |.slots γ e l::r=>match R9 r with|some r'=>some (.slots γ e l::r')|none=>none
 |.tok e sz::r=>match R9 r with|some r'=>some (.tok e sz::r')|none=>none
 |.rok e sz::r=>match R9 r with|some r'=>some (.rok e sz::r')|none=>none
 |.gone::r=>match R9 r with|some r'=>some (.gone::r')|none=>none
 |.map es::r=>match R9 r with|some r'=>some (.map es::r')|none=>none
def Mg:∀{H H':F0},R9 H=some H'->H'=H
 |[],H',h=>by simp[R9]at h;exact h
 |.row d e::r,H',h=>by
  simp only[R9]at h;split at h
  ·rename_i u c hc b;simp only[zqb]at h;rw[<-h,G1x hc,Mg b]
  ·cases h
 |.dead::r,H',h=>by
  simp only[R9]at h;split at h
  ·rename_i c b;simp only[zqb]at h;rw[<-h,Mg b]
  ·cases h
 |.bld o e::r,H',h=>by
  simp only[R9]at h;split at h
  ·rename_i c b;simp only[zqb]at h;rw[<-h,Mg b]
  ·cases h
 |.buf e sz::r,H',h=>by
  simp only[R9]at h;split at h
  ·rename_i c b;simp only[zqb]at h;rw[<-h,Mg b]
  ·cases h
 |.vec e sz d::r,H',h=>by
  simp only[R9]at h;split at h
  ·rename_i c b;simp only[zqb]at h;rw[<-h,Mg b]
  ·cases h
 |.slots γ e l::r,H',h=>by
  simp only[R9]at h;split at h
  ·rename_i c b;simp only[zqb]at h;rw[<-h,Mg b]
  ·cases h
 |.tok e sz::r,H',h=>by
  simp only[R9]at h;split at h
  ·rename_i c b;simp only[zqb]at h;rw[<-h,Mg b]
  ·cases h
 |.rok e sz::r,H',h=>by
  simp only[R9]at h;split at h
  ·rename_i c b;simp only[zqb]at h;rw[<-h,Mg b]
  ·cases h
 |.gone::r,H',h=>by
  simp only[R9]at h;split at h
  ·rename_i c b;simp only[zqb]at h;rw[<-h,Mg b]
  ·cases h
 |.map es::r,H',h=>by
  simp only[R9]at h;split at h
  ·rename_i c b;simp only[zqb]at h;rw[<-h,Mg b]
  ·cases h
mutual
def A1k:∀x:A,dg [] x=x
 |.osl _ _=>rfl
 |.clo _ b=>by simp only[dg,P18 b]
 |.bnd _ b=>by simp only[dg,P18 b]
 |.agg b=>by simp only[dg,P18 b]
 |.tup b=>by simp only[dg,P18 b]
 |.d _=>rfl
 |.junk=>rfl
 |.ref _ _=>rfl
 |.ptr _=>rfl
 |.full _=>rfl
 |.rsl _ _ _ _=>rfl
 |.mp _=>rfl
 |.vsl _=>rfl
 |.vel _ _=>rfl
def P18:∀l:List A,dgL [] l=l
 |[]=>rfl
 |x::r=>by simp only[dgL,A1k x,P18 r]
end
def Ly (P:Program)(c:Code)(Q:Exit->Act->World->Prop)(a:Act)(w:World):Prop:=
 ∀(b:Frame) (k:List Item) (cs:List Frame),∃e a' w',Q e a' w'/\Arrives P (lone (b.at a (.code c :: .inLoop c::k)) cs w) b k cs e a' w'
def Ly.loop {P:Program}{c:Code}{Q:Exit->Act->World->Prop}{a:Act}{w:World}(h:Ly P c Q a w):(Code.loop c).wp P Q a w:=by
 intro b k r;obtain⟨e,v,u,x,d⟩:=h b k r;exact⟨e,v,u,x,.of_steps (.one step_loop) d⟩
def Ly.unroll {c:Code}{Q:Exit->Act->World->Prop}{a:Act}{w:World}(h:c.wp P (Exit.then (Ly P c Q) Q) a w):Ly P c Q a w:=by
 intro b k B;obtain⟨e,y,v,u,d⟩:=h b (.inLoop c::k) B;cases e with
 |normal=>
  obtain⟨D,I,J,z,r⟩:=u b k B;exact⟨D,I,J,z,.of_steps (Steps.trans d (.one step_inLoop)) r⟩
 |exit id=>exact⟨_,y,v,u,.pass (x:=.inLoop c) rfl (λ_ _=>.inl (by simp)) d⟩
 |goto l=>exact⟨_,y,v,u,.pass (x:=.inLoop c) rfl (λ_ _=>.inl (by simp)) d⟩
 |ret=>exact⟨_,y,v,u,.pass (x:=.inLoop c) rfl (λ_ _=>.inl (by simp)) d⟩
 |panic O=>exact⟨_,y,v,u,.pass (x:=.inLoop c) rfl (λ_ _=>.inl (by simp)) d⟩
 |outgrown=>exact⟨_,y,v,u,.pass (x:=.inLoop c) rfl (λ_ _=>.inl (by simp)) d⟩
def T8 (F:Fx)(c:Code)(env:Env)(H:F0)(Q:Po):Prop:=
 ∀fr M G w a,fr.H0.length=F.K->St F.C F.N M G w env H a->D2 fr M G w H->Ly F.C.P c (Fin F fr Q) a w
def J1r (F:Fx)(c:Code)(Q:Po):Po
 |.normal,e,h=>T8 F c e h Q
 |x,e,h=>Q x e h
def AEx.ofLoop {c:Code}{Q:Po}(h:T8 F c env H Q):AEx F (.loop c) env H Q:=
 λd M G w a r u b=>(h d M G w a r u b).loop
def T8.unroll {F:Fx}{c:Code}{env:Env}{H:F0}{Q:Po}(h:AEx F c env H (J1r F c Q)):T8 F c env H Q:=by
 intro z M G w y I V u;refine Ly.unroll (wp_mono (h z M G w y I V u) λe U O J=>?_);rcases J with⟨x,env',T,B,D,rfl,d,r,b⟩|⟨v,env',T,B,D,rfl,d⟩|⟨rfl|⟨X,rfl⟩,d⟩
 ·cases x with
  |normal=>exact d z B D O U I r b
  |exit id=>exact .inl ⟨.exit id,_,_,_,_,rfl,d,r,b⟩
  |ret=>exact .inl ⟨.ret,_,_,_,_,rfl,d,r,b⟩
 ·exact .inr (.inl ⟨v,_,_,_,_,rfl,d⟩)
 ·exact .inr (.inr ⟨.inl rfl,d⟩)
 ·exact .inr (.inr ⟨.inr ⟨_,rfl⟩,d⟩)
def T8.wk {c:Code}{Q:Po}{L:List (Nat×A)}{H2:F0}(r:Wk F.K env H L H2)(h:T8 F c (Gj L) H2 Q):T8 F c env H Q:=by
 intro v M G w d u x b;exact h v M _ w d u (r.st x) (r.since u b)
def My (f:Func):Code:=match f.body with|some c=>c|none=>.skip
def sl:Code->Code |.seq a _=>a|c=>c
def sr:Code->Code |.seq _ b=>b|c=>c
def ca:Code->Code |.cond _ a _=>a|c=>c
def cb:Code->Code |.cond _ _ b=>b|c=>c
def bk:Code->Code |.block _ c=>c|c=>c
def lo:Code->Code |.loop c=>c|c=>c
def bind_some {β:Type}{x:Option α}{f:α->Option β}{r:β}(h:(x>>=f)=some r):∃a,x=some a/\f a=some r:=by
 cases x with
 |none=>cases h
 |some a=>exact⟨a,rfl,h⟩
def G6 {p:Prop}[Decidable p]{x:Option α}{r:α}(h:(if decide p=true then x else none)=some r):p/\x=some r:=by
 by_cases hp:p
 ·rw[zp (zqj hp)]at h;exact⟨hp,h⟩
 ·rw[zn (by simpa using hp)]at h;cases h
def K26 {w:Bool}{p:Prop}[Decidable p]{x:Option α}{r:α}(h:(if(!w||decide p)=true then x else none)=some r):(w=true->p)/\x=some r:=by
 by_cases hp:(!w||decide p)=true
 ·rw[zp hp]at h;exact⟨λb=>by subst b;simpa using hp,h⟩
 ·rw[zn hp]at h;cases h
def P10 {b:Bool}{x y:Option α}{r:α}(c:b=true)(h:(if b=true then x else y)=some r):x=some r:=by rw[zp c]at h;exact h
def L26 {b:Bool}{x y:Option α}{r:α}(c:b=false)(h:(if b=true then x else y)=some r):y=some r:=by rw[zn (by rw[c];decide)]at h;exact h
abbrev Str:=List UInt8
def idx (l:List α)(n:Int):Option α:=if 0<=n then l[n.toNat]? else none
def M8 {l:List α}{n:Int}{x:α}(h:idx l n=some x):n=(n.toNat:Int):=by
 unfold idx at h;split at h
 ·omega
 ·cases h
def Dn {l:List α}{n:Int}{x:α}(h:idx l n=some x):l[n.toNat]?=some x:=by
 unfold idx at h;split at h
 ·exact h
 ·cases h
def slc (l:List α)(a b:Int):Option (List α):=if 0<=a/\a<=b/\b<=l.length then some ((l.take b.toNat).drop a.toNat)else none
def F1d {l x:List α}{a b:Int}(h:slc l a b=some x):a=(a.toNat:Int)/\b=(b.toNat:Int)/\a.toNat<=b.toNat/\b.toNat<=l.length/\x=(l.take b.toNat).drop a.toNat:=by
 unfold slc at h;split at h
 ·cases h;exact⟨by omega,by omega,by omega,by omega,rfl⟩
 ·cases h
def B14 {a b c d n:Nat}(u:c=a)(r:d=b)(h:(a+b)*n<=140737488355328):(c+d)*n<=140737488355328:=by subst u;subst r;exact h
def mgt {α:Type}(k:Str):List (Str×α)->Option α
 |[]=>none
 |(k',x)::r=>bif k==k' then some x else mgt k r
def mpt {α:Type}(k:Str)(x:α):List (Str×α)->List (Str×α)
 |[]=>[(k,x)]
 |(k',y)::r=>bif k==k' then(k,x)::r else(k',y)::mpt k x r
section
variable {α:Type}{f:α->Row}{g:List α->List Row}{h:α->A}
def K14 (b:∀l,g l=l.map f){l:List α}{n:Int}{x:α}(h:idx l n=some x):(g l)[n.toNat]?=some (f x):=by simp[b,Dn h]
def X1h (b:∀l,g l=l.map f)(l m:List α):g (l++m)=g l++g m:=by simp[b]
def Ww (b:∀l,g l=l.map f)(l:List α):(g l).length=l.length:=by simp[b]
def G1d (b:∀l,g l=l.map f)(l:List α):A.d (.int .i64 ((g l).length:Nat))=A.d (.int .i64 (l.length:Nat)):=by simp[b]
def Q10 (c:∀l,g l=l.map f){n:Nat}(d:∀x,(f x).length=n)(l:List α):∀r∈g l,r.length=n:=by
 intro r b;rw[c]at b;obtain⟨x,_,rfl⟩:=List.mem_map.1 b;exact d x
def D16 (c:∀l,g l=l.map f){l x:List α}{a b:Int}(h:slc l a b=some x):a=(a.toNat:Int)/\b=(b.toNat:Int)/\a.toNat<=b.toNat/\b.toNat<=(g l).length/\g x=((g l).take b.toNat).drop a.toNat:=by
 obtain⟨v,r,d,u,rfl⟩:=F1d h;exact⟨v,r,d,by rw[Ww c];exact u,by simp[c]⟩
def Zl (f:α->Row)(m:List (Str×α)):List (Str×Row):=m.map λp=>(p.1,f p.2)
def L14 (f:α->Row)(k:Str):∀m:List (Str×α),Ch k (Zl f m)=(mgt k m).map f
 |[]=>rfl
 |(k',x)::r=>by
  show(bif k==k' then some (f x)else Ch k (Zl f r))=(bif k==k' then some x else mgt k r).map f;rw[L14 f k r];cases k==k'<;>rfl
def Xw (f:α->Row)(k:Str)(x:α):∀m:List (Str×α),Zl f (mpt k x m)=mput k (f x) (Zl f m)
 |[]=>rfl
 |(k',y)::r=>by
  show Zl f (bif k==k' then(k,x)::r else(k',y)::mpt k x r)=(bif k==k' then(k,f x)::Zl f r else(k',f y)::mput k (f x) (Zl f r))
  rw[<-Xw f k x r];cases k==k'<;>rfl
def A2b (u:∀x,Mc (f x)=h x){z:α}{b:A}(c:b=h z){k:Str}{m:List (Str×α)}{x:Option α}(r:some (mgt k m)=some x):lkA (Ch k (Zl f m)) b true = .tup [h (x.getD z),.d (.bool x.isSome)]:=by
 cases r;rw[L14];cases mgt k m with
 |none=>simp[lkA,c]
 |some y=>simp[lkA,u]
def M26 (r:∀x,Mc (f x)=h x){z:α}{b:A}(c:b=h z){k:Str}{m:List (Str×α)}{x:Option α}(d:some (mgt k m)=some x):lkA (Ch k (Zl f m)) b false=h (x.getD z):=by
 cases d;rw[L14];cases mgt k m with
 |none=>simp[lkA,c]
 |some y=>simp[lkA,r]
end
def K0.qe (hC:T1 F.C){c:Prop}{x y:A}(h:Lm F.C L o env H=some (d,c,x))(hc:c)(e:x=y)
  (k:K0 F L l (put env d y) H Q):K0 F L (o::l) env H Q:=by subst e;exact .q hC h hc k
def K0.lx (hC:T1 F.C){s x:List UInt8}{lo b:Int}(h:A16 F.C L o env=some (d,s,lo,b))(c:slc s lo b=some x)
  (r:K0 F L l (put env d (.d (.str x))) H Q):K0 F L (o::l) env H Q:=by
 obtain⟨z,v,u,y,rfl⟩:=F1d c;exact .l hC h z v u y r
def AQ.lx {C:Cx}(hC:T1 C){Q:Env->Prop}{s x:List UInt8}{lo b:Int}(h:A16 C L o env=some (d,s,lo,b))(c:slc s lo b=some x)
  (r:AQ C L l (put env d (.d (.str x))) H Q):AQ C L (o::l) env H Q:=by
 obtain⟨z,v,u,y,rfl⟩:=F1d c;exact .l hC h z v u y r
def K0.dx (hC:T1 F.C){lo b:Int}(h:B16 F.C L o env=some (d,rows,lo,b,sz))
  (z:lo=(lo.toNat:Int)/\b=(b.toNat:Int)/\lo.toNat<=b.toNat/\b.toNat<=rows.length/\rs=(rows.take b.toNat).drop lo.toNat) (c:∀x∈rows,x.length=sz) (r:K0 F L l (put env d (.d (.sl rs))) H Q):K0 F L (o::l) env H Q:=by
 obtain⟨y,B,u,v,rfl⟩:=z;exact .d hC h y B u v c r
def AQ.dx {C:Cx}(hC:T1 C){Q:Env->Prop}{lo b:Int}(h:B16 C L o env=some (d,rows,lo,b,sz))
  (z:lo=(lo.toNat:Int)/\b=(b.toNat:Int)/\lo.toNat<=b.toNat/\b.toNat<=rows.length/\rs=(rows.take b.toNat).drop lo.toNat) (c:∀x∈rows,x.length=sz) (r:AQ C L l (put env d (.d (.sl rs))) H Q):AQ C L (o::l) env H Q:=by
 obtain⟨y,B,u,v,rfl⟩:=z;exact .d hC h y B u v c r
def K0.ap (hC:T1 F.C){p:Nat}{u:Bool}{b:List Row}{c:Nat}
  (h:U1f F.C L o env H=some ⟨d,p,u,rows,b,sz,c,H'⟩) (e:rs=rows++b) (x:∀r∈rows,r.length=sz) (y:∀r∈b,r.length=sz) (v:(rows.length+b.length)*(c+1)<=140737488355328)
  (k:K0 F L l (put (bif u then env else λt=>dg [p] (env t)) d (.osl p rs)) H' Q):K0 F L (o::l) env H Q:=by subst e;exact .a hC h x y v k
def K0.me (hC:T1 F.C){b:Bool}{z y:A}(h:L13 F.C L o env H=some ⟨d,es,k,b,z⟩)(e:lkA (Ch k es) z b=y)
  (c:K0 F L l (put env d y) H Q):K0 F L (o::l) env H Q:=by subst e;exact .m hC h rfl c
def E1s (C:Cx)(L:List Oper)(o:Oper)(env:Env)(H:F0):Option (Nat×List UInt8×Row×List (List UInt8×Row)):=
 match K1 L env o,o.op,o.dst with
 |some true,.mapUpdate t x y z,none=>match Z1 C.T t,ev C.GL env x,ev C.GL env y,N18 (ev C.GL env z)with
  |some i,.mp p,.d (.str k),some cs=>match i.u,nth H p with
   |.map kt _,some (.map (.s es))=>match Z1 C.T kt with
    |some ki=>match ki.u with
     |.str=>some (p,k,cs,es)
     |_=>none
    |none=>none
   |_,_=>none
  |_,_,_,_=>none
 |_,_,_=>none
def N22 {C:Cx}{p:Nat}{cs:Row}(h:E1s C L o env H=some (p,k,cs,es))(h':Zc H p (.map (.s (mput k cs es)))=some H'):I1r C L o env H=some H':=by
 unfold E1s at h;unfold I1r;split at h
 ·split at h
  ·split at h
   ·split at h
    ·split at h
     ·simp only[zqb,zqh]at h;obtain⟨rfl,rfl,rfl,rfl⟩:=h;simp_all only
     ·cases h
    ·cases h
   ·cases h
  ·cases h
 ·cases h
def K0.ue (hC:T1 F.C){p:Nat}{cs:Row}{b:List (List UInt8×Row)}(h:E1s F.C L o env H=some (p,k,cs,es))(e:mput k cs es=b)(h':Zc H p (.map (.s b))=some H')
  (c:K0 F L l env H' Q):K0 F L (o::l) env H Q:=by subst e;exact .u hC (N22 h h') c
def K0.be (hC:T1 F.C){c:List Row}(h:I11 F.C L o env=some (d,rs))(e:rs=c)(k:K0 F L l (put env d (.full c)) H Q):K0 F L (o::l) env H Q:=by subst e;exact .b hC h k
def AQ.be {C:Cx}(hC:T1 C){Q:Env->Prop}{c:List Row}(h:I11 C L o env=some (d,rs))(e:rs=c)(k:AQ C L l (put env d (.full c)) H Q):AQ C L (o::l) env H Q:=by subst e;exact .b hC h k
def H1d {C:Cx}{c:List A}{x:A}(Z:Yl C.GL env o=some (f,xs))(b:LeL c xs)(I:R2 0 c=true)(hc:B4 C f c [] (λr H'=>H'=[]/\r=x)):R4 C o env H x:=by
 intro M G w a u Qw J y d hH V;obtain⟨vs,O,h2,z⟩:=E11 Z J hc.1;unfold Oper.wp;rw[O w];refine(A1a I hc y d (b.spec.1.trans h2) (b.rels z)).mono λe Y T=>?_;obtain⟨v,r,U,rfl,rfl,B,D,X⟩:=T;exact V v U Y (B G) D X
def K0.g {F:Fx}{L l:List Oper}{o:Oper}{env:Env}{H H':F0}{Q:Env->F0->Prop}{d:Option Nat}{g:FuncId}{xs:List A}{x y:A}(idx:List Nat){b:List A}{cH u:F0}
  (h:Ad F.C L o env=some (d,g,xs)) (hc:B4 F.C g b cH (λr h=>h=u/\r=x)) (I:LeL (Hb (K3 idx H.length) b) xs) (O:Ep idx H.length=true) (T:Hy (K3 idx H.length) H idx cH)
  (z:frc (ren (K3 idx H.length) x)=some y) (D:R9 (Aa H idx (K3 idx H.length) (S4 idx cH) u)=some H') (k:K0 F L l (put (λt=>dg (S4 idx cH) (env t)) d y) H' Q):K0 F L (o::l) env H Q:=by
 refine .callHL idx b cH h I O T hc λr c ⟨U,J⟩=>?_;subst U;subst J;have B:=Mg D;have v:=On z;subst B;subst v;exact k
def zf:D->A
 |.sl []=>.full []
 |x=>.d x
def B2b {x:D}(h:zB v x=true):A1 M G (zf x) v:=by
 have h':=Jq h M;unfold zf;split
 ·unfold zB at h;split at h<;>first|contradiction|skip
  exact .full .slnil trivial
 ·exact .d h'
def F17 {T:TT}(B:TOk P T){t:Nat}{i:TI}(D:Z1 T t=some i):∃z,(∀w,(zeroValue t).run P w = .ok z w)/\Wl M G (i.zero.map zf) z.cells:=by
 obtain⟨j,J,V,O,z,I,u,r,U⟩:=(B.facts D).info;refine⟨z,λw=>by simp[zeroValue,typeInfo,J,I],by simpa using u.symm,λn v c=>?_,λn x v b c=>?_⟩
 ·have d:n<i.zero.length:=by rw[<-u];simpa using(Array.getElem?_eq_some_iff.1 c).1
  exact(Jq (r n v _ c (zqv d)) M).one
 ·rw[List.getElem?_map]at b;cases hz:i.zero[n]? with
  |none=>rw[hz]at b;cases b
  |some y=>
   rw[hz]at b;simp only[zqt,zqb]at b;subst b;exact B2b (r n v y c hz)
def F1s (C:Cx)(L:List Oper)(o:Oper)(env:Env)(H:F0):Option (Option Nat×Nat×F0):=
 match K1 L env o,o.op with
 |some true,.alloc t=>match Z1 C.T t with
  |some i=>match Xr (i.zero.map zf)with
   |some cs=>match Dp H (.row cs t),O3 o with|some (n,H'),some d=>some (d,n,H')|_,_=>none
   |none=>none
  |none=>none
 |_,_=>none
def K0.nf (hC:T1 F.C){n:Nat}(h:F1s F.C L o env H=some (d,n,H'))
  (k:K0 F L l (put env d (.ref n 0)) H' Q):K0 F L (o::l) env H Q:=by
 unfold F1s at h;split at h
 ·rename_i t D u;split at h
  ·rename_i i v;split at h
   ·rename_i X r;split at h
    ·rename_i n' H2 U B J;simp only[zqb,zqh]at h;obtain⟨rfl,rfl,rfl⟩:=h;obtain⟨rfl,rfl⟩:=Nh B;have:=Ku r;subst this;refine T6 D λV M G w a K Z Y c T b I=>?_;obtain⟨z,y,O⟩:=F17 (M:=M) (G:=G) hC.tok v;have x:(execOp a.eval o).run F.C.P w = .ok (.value (.pointer (some ⟨w.heap.size,0,none⟩))) (w.alloc (.cells z.cells t)):=by
      unfold execOp;simp[u,Instr.alloc,y,newVar,newRow]
     unfold Oper.wp;rw[x];rw[<-W2 J]at k;exact I _ _ _ _ _ _ _ k (T.newRow (A4 c) O) (D2.newRow b)
    ·cases h
   ·cases h
  ·cases h
 ·cases h
def N28 (C:Cx)(L:List Oper)(o:Oper)(env:Env):Option (Option Nat×List Row):=
 match K1 L env o,o.op,O3 o with
 |some true,.binOp .eql t x (.const (.slice none 0 0)) _,some d=>match Z1 C.T t,Mn (ev C.GL env x)with
  |some i,some rows=>match i.u with
   |.sl _=>some (d,rows)
   |_=>none
  |_,_=>none
 |_,_,_=>none
def K0.z (hC:T1 F.C)(h:N28 F.C L o env=some (d,rows))(k:∀b:Bool,(b=true->rows=[])->K0 F L l (put env d (.d (.bool b))) H Q):K0 F L (o::l) env H Q:=by
 unfold N28 at h;split at h
 ·rename_i t x yt d' hw Y hd;split at h
  ·rename_i i rows ht hr;split at h
   ·rename_i e Z;simp only[zqb,zqh]at h;obtain⟨rfl,rfl⟩:=h;refine T6 hw λfr M G w a K Qw hK y T O hk=>?_;have U:=L9 hr (T.eval x);have r:=A7 (hC.tok.facts ht) Z;have he:a.eval (.const (.slice none 0 0)) = .slice none 0 0:=rfl;have B:∃b:Bool,(b=true->rows=[])/\(execOp a.eval o).run F.C.P w = .ok (.value (.bool b)) w:=by
     generalize hv:a.eval x=v at U
     have V:∀(v:Value) (b:Bool),(∀n,(Op.equalIn (n+1) t v (.slice none 0 0)).run F.C.P w = .ok b w)->binOp .eql t v (.slice none 0 0)=(do pure (.bool (<-Op.equal t v (.slice none 0 0))))->binOp .neq t v (.slice none 0 0)=(do pure (.bool (!(<-Op.equal t v (.slice none 0 0)))))->
       v≠.nilIface->(∀u,v≠.agg u)->a.eval x=v->(execOp a.eval o).run F.C.P w = .ok (.value (.bool b)) w:=λv b e1 e2 e3 e4 e5 e6=>by
      obtain⟨u,I,D⟩:=Hl (P:=F.C.P) (M:=M) (G:=G) (w:=w) (op:=.eql) (neg:=false) (.inl ⟨rfl,rfl⟩) b e1 e2 e3;have J:u = .bool b:=by cases D;rename_i hh;cases hh;rfl
      subst J;unfold execOp;simp only[Y,e6,he,Sem.run_bind,G13 e4 e5,Result.andThen_ok,I,Sem.run_pure]
     cases U with
     |slnil=>exact⟨true,λ_=>rfl,V _ true (λn=>by simp[Op.equalIn,run_underlying r]) rfl rfl (by simp) (by simp) hv⟩
     |sl sz N1 hl hc hm a0 hz h1 h2=>exact⟨false,(λh=>by cases h),V _ false (λn=>by simp[Op.equalIn,run_underlying r]) rfl rfl (by simp) (by simp) hv⟩
    obtain⟨b,c,hb⟩:=B;unfold Oper.wp;rw[hb];have X:=k b c;rw[<-W2 hd]at X;exact hk _ _ _ _ _ _ _ X (T.quiet (A4 y) (.d .bool) T.good (Ext.refl _ _ _)) (O.quiet (Ext.refl _ _ _))
   ·cases h
  ·cases h
 ·cases h
def K0.tokE (t e sz:Nat)(h:env t = .full rows)(k:K0 F L l (upd env t (.osl H.length rows)) (H++[.tok e sz]) Q):K0 F L l env H Q:=by
 intro I M G w a X V U y z O;have B:=y.env t;rw[h]at B;generalize hv:a.tmps.getD t undef=v at B;cases B;rename_i T d;obtain⟨J,D⟩:=H11 (G:=G) (w:=w) d T e sz;have u:=z.newTok (Ext.refl W5 M w) (e:=e) (sz:=sz) (v':=v) λb r=>absurd r (D b);have c:=y.newTok (dst:=none) (by simp) (Ext.refl W5 M w) y.good (e:=e) (sz:=sz) (v':=v) (x:=.osl H.length rows) J (λb r=>absurd r (D b)) (.osl d C2);refine k I M _ w a X V U ⟨c.good,c.gl,c.hrel,λs=>?_,y.size,y.defers⟩ u O;unfold upd;cases r:Nat.beq s t with
 |true=>
  obtain rfl:=zqo r;rw[hv];exact .osl d C2
 |false=>exact c.env s
def K0.tokC (o n e sz:Nat){Y:List A}{el m:Nat}{H1 H2:F0}(ho:nth H o=some (.row cs el))(h:nth cs n=some (.full rows))(hp:Dp H (.tok e sz)=some (m,H1))(a6:N10 cs n [.osl m rows]=some Y)(hH:Zc H1 o (.row Y el)=some H2)
  (k:K0 F L l env H2 Q):K0 F L l env H Q:=by
 intro fr M G w a Qw hK hd hs a3 hq;obtain⟨rfl,rfl⟩:=Nh hp;have e1:=K18 a6;have e2:=Rj hH;subst e1;subst e2;rw[Q2]at ho h;have a0:o<H.length:=(zqu.1 ho).1;have b0:n<cs.length:=(zqu.1 h).1;obtain⟨b,vs,g1,g2,g3,g4,g5,g6⟩:=hs.hrel.obj o _ ho;have T:vs[n]?=some vs[n]:=Array.getElem?_eq_getElem (by omega);have hr:=g5 n _ _ h T;generalize hv:vs[n]=v at hr T;cases hr;rename_i hf a2;obtain⟨t1,t2⟩:=H11 (G:=G) (w:=w) a2 hf e sz;have r:=a3.newTok (Ext.refl W5 M w) (e:=e) (sz:=sz) (v':=v) λb hb=>absurd hb (t2 b);have D:=hs.newTok (dst:=none) (by simp) (Ext.refl W5 M w) hs.good (e:=e) (sz:=sz) (v':=v) (x:=.junk) t1 (λb hb=>absurd hb (t2 b)) .junk;have O:I3 G H.length v o=G o:=P1 (Nat.ne_of_lt a0);have U:(H++[Ob.tok e sz])[o]?=some (.row cs el):=by rw[zqx a0];exact ho
 have I:o<(H++[Ob.tok e sz]).length:=by simp;omega
 obtain⟨b',a9,q1,q2,q3,q4,q5,q6⟩:=D.hrel.obj o _ U;rw[O]at q1;rw[g1]at q1;simp at q1;subst q1;rw[g2]at q2;simp at q2;subst q2;have a1:=λi=>Dt cs n [.osl H.length rows] i (by simp;omega);refine k fr M (I3 G H.length v) w a Qw hK hd ⟨D.good,D.gl,⟨λi x B=>?_,λi i' x x' c B a7 X a8=>?_,λi B=>D.hrel.fresh i (by rw[H9]at B;exact B)⟩,D.env,hs.size,hs.defers⟩ ?_ hq
 ·rw[C5 _ o _ i I]at B;split at B
  ·rename_i e;subst e;simp only[zqb]at B;subst B;refine⟨b,vs,by rw[O];exact g1,g2,by rw[Px];exact g3,g4,λj y u J hu=>?_,g6⟩;rw[a1 j]at J;split at J
   ·rename_i hj;have:j=n:=by simp at hj;omega
    subst this;simp at J;subst J;rw[T]at hu;obtain rfl:=Option.some.inj hu;exact .osl a2 C2
   ·exact q5 j y u J hu
  ·exact D.hrel.obj i x B
 ·have V:∀(n':Nat) z d,(A5 (H++[Ob.tok e sz]) o (Ob.row (N8 cs n [.osl H.length rows]) el))[n']?=some z->blk z (I3 G H.length v n') d->∃y,(H++[Ob.tok e sz])[n']?=some y/\blk y (I3 G H.length v n') d:=by
   intro n' z d hn hz;rw[C5 _ o _ n' I]at hn;by_cases e:n'=o
   ·rw[zp e]at hn;subst e;obtain rfl:=Option.some.inj hn;exact⟨_,U,by rw[O,g1]at hz⊢;exact hz⟩
   ·rw[zn e]at hn;exact⟨z,hn,hz⟩
  obtain⟨y,J,a5⟩:=V i x c B X;obtain⟨y',a4,Z⟩:=V i' x' c a7 a8;exact D.hrel.apart i i' y y' c J a4 a5 Z
 ·refine⟨r.ext,λc ⟨i,x,B,X⟩=>?_,by rw[H9];exact r.len,r.keep,λi x y B ht J=>?_⟩
  ·rw[C5 _ o _ i I]at B;by_cases e:i=o
   ·rw[zp e]at B;subst e;obtain rfl:=Option.some.inj B;exact r.own c ⟨i,_,U,by rw[O,g1]at X⊢;exact X⟩
   ·rw[zn e]at B;exact r.own c ⟨i,x,B,X⟩
  ·rw[C5 _ o _ i I]at J;by_cases e:i=o
   ·rw[zp e]at J;obtain rfl:=Option.some.inj J;rfl
   ·rw[zn e]at J;exact r.kind i x y B ht J
def W1o {a:Act}{w:World}{K:Act->World->Prop}{Q Q':Exit->Act->World->Prop}(d:∀c a w,Q (.panic c) a w->Q' (.panic c) a w)(y:LetsOut Q->LetsOut Q')
  (h:o.wp P a w K Q):o.wp P a w K Q':=by
 unfold Oper.wp at *;generalize(execOp a.eval o).run P w=r at *;cases r with
 |ok n v=>
  cases n<;>simp only[Oper.upon]at h⊢ <;>
   first
    |exact h
    |exact Calls.mono h (λe u b=>by cases e<;>first|exact b|exact d _ _ _ b|exact y b)
 |halt x v=>cases x<;>simp only[Oper.upon]at h⊢ <;>first|exact h|exact d _ _ _ h
def AG.bx {C:Cx}(hC:T1 C){Q:Env->Cnd->Prop}{b:List Row}(r:Hw L env cnd o=some W)(h:I11 C [] (noG o) env=some (d,rs))(e:rs=b)(c:holds W->Pi cnd (H1a o))
  (k:AG C L l (put env d (.full b)) (Ky cnd d W) H Q):AG C L (o::l) env cnd H Q:=by
 subst e;exact .lift (by simpa[O3,noG]using(J13 h).2) r c (λ_=>Iy hC h) k
def O22 (C:Cx)(L:List Oper)(o:Oper)(env:Env):Option (Option Nat×Nat×Int×Int×Nat×D):=
 match K1 L env o,o.op,O3 o with
 |some true,.makeSlice t lx cx,some d=>match Z1 C.T t,ev C.GL env lx,ev C.GL env cx with
  |some i,.d (.int .i64 n),.d (.int .i64 m)=>match i.u with
   |.sl e=>match Z1 C.T e with
    |some j=>match j.zero with
     |[z]=>bif Nat.beq j.size 1&&Nat.ble 1 j.bytes then some (d,e,n,m,j.bytes,z)else none
     |_=>none
    |none=>none
   |_=>none
  |_,_,_=>none
 |_,_,_=>none
def K0.mk (hC:T1 F.C){p:Nat}{n m:Int}{b:Nat}{z:D}(h:O22 F.C L o env=some (d,e,n,m,b,z))
  (a6:m=n) (h0:0<=n/\n.toNat*b<=140737488355328) {cs:List A} (a7:cs=List.replicate n.toNat (.d z)) (hp:Dp H (.row cs e)=some (p,H')) (k:K0 F L l (put env d (.rsl p 0 n.toNat n.toNat)) H' Q):K0 F L (o::l) env H Q:=by
 unfold O22 at h;split at h
 ·rename_i t lx cx d' hw ho hd;split at h
  ·rename_i i n' m' ht a3 a9;split at h
   ·rename_i e' hu;split at h
    ·rename_i j he;split at h
     ·rename_i z' hz;cases hb:Nat.beq j.size 1&&Nat.ble 1 j.bytes with
      |false=>rw[hb]at h;cases h
      |true=>
       rw[hb]at h;simp only[zqk,zqb,zqh]at h;obtain⟨rfl,rfl,rfl,rfl,rfl,rfl⟩:=h;simp only[zqi]at hb;have a4:=zqo hb.1;have a2:=Nat.le_of_ble_eq_true hb.2;subst a6;subst a7;obtain⟨rfl,rfl⟩:=Nh hp;obtain⟨b1,y⟩:=h0;obtain⟨N,rfl⟩:∃N:Nat,m'=N:=⟨m'.toNat,by omega⟩
       simp only[Int.toNat_natCast]at *;have b0:N<=140737488355328:=Nat.le_trans (Nat.le_mul_of_pos_right N a2) y;refine T6 hw λfr M G w a K Qw hK V hs a5 hk=>?_;have r:=hs.eval lx;have u:=hs.eval cx;rw[a3]at r;rw[a9]at u;generalize hv1:a.eval lx=v1 at r;generalize hv2:a.eval cx=v2 at u;cases r;rename_i r;cases r;cases u;rename_i u;cases u;have a1:=A7 (hC.tok.facts ht) hu;obtain⟨O,q1,q2,q3,I,q4,q5,q6,q7⟩:=(hC.tok.facts he).info;have a8:∃T,I.cells = #[T]/\zB T z'=true:=by
        have hl:I.cells.toList.length=1:=by rw[q5,hz];rfl
        have h1:(0:Nat)<I.cells.size:=by simp at hl;omega
        refine⟨I.cells[0],?_,q6 0 _ _ (Array.getElem?_eq_getElem h1) (by rw[hz];rfl)⟩;apply Array.ext
        ·simp at hl;simp[hl]
        ·intro i h2 Z;simp at Z;subst Z;simp
       obtain⟨T,a0,X⟩:=a8;have B:((O.bytes:Int)*(N:Int))<=281474976710656:=by
        have:j.bytes*N<=140737488355328:=by rw[Nat.mul_comm];exact y
        have h2:((j.bytes*N:Nat):Int)=(j.bytes:Int)*(N:Int):=by simp
        rw[q3];omega
       have U:(execOp a.eval o).run F.C.P w = .ok (.value (.slice (some ⟨w.heap.size,0,none⟩) N N)) (w.alloc (.cells (madeCells I.cells (N*O.size)) e')):=by
        have:=run_make (P:=F.C.P) w t e' O I a1 q1 q4 .i64 .i64 N N (by omega) (Int.le_refl _) B (by omega);simp only[Int.toNat_natCast]at this;unfold execOp;simp only[ho,hv1,hv2,Sem.run_bind,this,Result.andThen_ok,Sem.run_pure]
       have Y:Wl M G (List.replicate N (.d z')) (madeCells I.cells (N*O.size)):=by
        rw[q2,a4,a0,Nat.mul_one];have J:∀(i:Nat) v,(madeCells #[T] N)[i]?=some v->v=T:=λi v c=>by
         unfold madeCells at c;rw[Array.getElem?_map]at c;cases hr:(Array.range N)[i]? with
         |none=>rw[hr]at c;cases c
         |some q=>rw[hr]at c;simp[Nat.mod_one]at c;exact c.symm
        refine⟨by simp[madeCells],λi v c=>?_,λi x v hx c=>?_⟩
        ·rw[J i v c];exact(Jq X M).one
        ·rw[J i v c];rw[List.getElem?_replicate]at hx;split at hx
         ·cases hx;exact .d (Jq X M)
         ·cases hx
       have h1:=hs.newRow (dst:=none) (by simp) Y (elem:=e');have h2:=D2.newRow a5 (cs:=List.replicate N (.d z')) (vs:=madeCells I.cells (N*O.size)) (elem:=e');have Z:=h1.quiet (A4 V) (x:=.rsl H.length 0 N N) (v:=.slice (some ⟨w.heap.size,0,none⟩) N N) (.rsl C2 (zqr _) (by unfold maxLen;omega)) h1.good (Ext.refl _ _ _);unfold Oper.wp;rw[U];rw[<-W2 hd]at k;exact hk _ _ _ _ _ _ _ k Z (h2.quiet (Ext.refl _ _ _))
     ·cases h
    ·cases h
   ·cases h
  ·cases h
 ·cases h
def B1k (C:Cx)(L:List Oper)(o:Oper)(env:Env)(H:F0):Option (Option Nat×List A×Nat):=
 match K1 L env o,o.op,O3 o with
 |some true,.load t x,some d=>match Z1 C.T t,ev C.GL env x with
  |some i,.ref p off=>bif i.u.agg then none else match nth H p with
   |some (.row cells _)=>some (d,cells,off)
   |_=>none
  |_,_=>none
 |_,_,_=>none
def K0.ld (hC:T1 F.C){y:A}(h:B1k F.C L o env H=some (d,b,off))(v:b[off]?=some y)
  (k:K0 F L l (put env d y) H Q):K0 F L (o::l) env H Q:=by
 unfold B1k at h;split at h
 ·rename_i t x T I z O;split at h
  ·rename_i i p r B J;cases hag:i.u.agg with
   |true=>rw[hag]at h;cases h
   |false=>
    rw[hag]at h;simp only[zql]at h;split at h
    ·rename_i U e D;simp only[zqb,zqh]at h;obtain⟨rfl,rfl,rfl⟩:=h;refine .op hC I (x:=y) (c:=True) ?_ trivial (by rw[W2 O];exact k);have:Fb i (ev F.C.GL env x) H=some y:=by
      rw[J];simp only[Fb,D,Kq,hag,zql,Q2,List.getElem?_drop,Nat.add_zero];exact v
     simp[opA,z,B,this]
    ·cases h
  ·cases h
 ·cases h
def P22 (C:Cx)(L:List Oper)(o:Oper)(env:Env)(H:F0):Option (Nat×Nat×List A×Nat×A):=
 match K1 L env o,o.op,o.dst with
 |some true,.store t x y,none=>match Z1 C.T t,ev C.GL env x,Z9 (ev C.GL env y)with
  |some i,.ref p off,some [v]=>bif Nat.beq i.size 1 then(match nth H p with|some (.row cells e)=>some (p,off,cells,e,v)|_=>none)else none
  |_,_,_=>none
 |_,_,_=>none
def K0.sx (hC:T1 F.C){p:Nat}{d:List A}{v:A}(h:P22 F.C L o env H=some (p,off,b,e,v))(r:off<b.length)(hc:d=N8 b off [v])
  (U:Zc H p (.row d e)=some H') (k:K0 F L l env H' Q):K0 F L (o::l) env H Q:=by
 unfold P22 at h;split at h
 ·rename_i t x y V I Z;split at h
  ·rename_i i p' c D J X u;cases hb:Nat.beq i.size 1 with
   |false=>rw[hb]at h;cases h
   |true=>
    rw[hb]at h;simp only[zqk]at h;split at h
    ·rename_i B e' O;simp only[zqb,zqh]at h;obtain⟨rfl,rfl,rfl,rfl,rfl⟩:=h;have T:=zqo hb;have Y:=Rj U;subst Y;subst hc;have z:J18 i (ev F.C.GL env x) (ev F.C.GL env y) H=some (p',N8 B c [D],e'):=by
      unfold J18;rw[X,u];have:(Nat.beq [D].length i.size&&Nat.ble (c+i.size) B.length)=true:=by
       rw[T,zqi];exact⟨rfl,Nat.ble_eq_true_of_le r⟩
      simp only[O,this,zqk]
     refine .store hC V I J z ?_;rw[Z];exact k
    ·cases h
  ·cases h
 ·cases h
def map_set {α:Type}(g:α->A):∀(l:List α) (n:Nat) (x:α),n<l.length->(l.set n x).map g=N8 (l.map g) n [g x]
 |[],_,_,h=>by simp at h
 |_::r,0,x,_=>by cases r<;>rfl
 |y::r,n+1,x,h=>by
  show g y::(r.set n x).map g=g y::N8 (r.map g) n [g x];rw[map_set g r n x (by simpa using h)]
def G1s {g:α->A}{l:List α}(h:i<l.length):0+i*1<(l.map g).length:=by simpa using h
def X1o {g:α->A}{l:List α}{x:α}(h:i<l.length):(l.set i x).map g=N8 (l.map g) (0+i*1) [g x]:=by rw[map_set g l i x h];simp
def Y1o (g:α->A)(n:Nat)(x:α):(List.replicate n x).map g=List.replicate n (g x):=List.map_replicate
def Dq {α:Type}(f:α->D)(k:Nat):∀l:List α,R2 k (l.map λx=>A.d (f x))=true
 |[]=>rfl
 |_::r=>Dq f k r
def AEx.fz {c:Code}{Q:Po}(t p:Nat){l:List α}{f:α->D}{n:Nat}(h:env t = .rsl p 0 n n)(ho:nth H p=some (.row (l.map λx=>.d (f x)) e))(hl:l.length=n)(hH:Zc H p .dead=some H')
  (k:AEx F c (upd env t (.d (.sl (l.map λx=>[f x])))) H' Q):AEx F c env H Q:=by
 intro fr M G w a hK Y X;have e2:=Rj hH;subst e2;subst hl;rw[Q2]at ho;have Z:p<H.length:=(zqu.1 ho).1;have hr:=Y.env t;rw[h]at hr;generalize hv:a.tmps.getD t undef=v at hr;obtain⟨b,I,hg,hm,hc,rfl⟩:∃b I,G p = .pointer (some ⟨b,0,none⟩)/\l.length<=I/\I<=maxLen/\v = .slice (some ⟨b,0,none⟩) l.length I:=by
  cases hr;exact⟨_,_,by assumption,by assumption,by assumption,rfl⟩
 obtain⟨b',U,g1,g2,g3,g4,g5,g6⟩:=Y.hrel.obj p _ ho;rw[hg]at g1;simp at g1;subst g1
 let M':Mem:=λu=>if u.block=b/\u.spot=none then U[u.off]? else M u
 have z:∀u v,M u=some v->M' u=some v:=λu v e1=>by
  show(if u.block=b/\u.spot=none then U[u.off]? else M u)=some v;rw[zn]
  ·exact e1
  ·rintro⟨h1,h2⟩;obtain⟨bb,oo,ss⟩:=u;simp only at h1;subst h1;rw[g6]at e1;cases e1
 have a4:Z3 M' w:=λu v e0=>by
  obtain⟨bb,oo,ss⟩:=u;by_cases V:bb=b/\ss=none
  ·obtain⟨rfl,rfl⟩:=V;have e4:U[oo]?=some v:=by
    have:(if bb=bb/\(none:Option Nat)=none then U[oo]? else M ⟨bb,oo,none⟩)=some v:=e0;rwa[zp ⟨rfl,rfl⟩]at this
   exact .inl ⟨rfl,by rw[Ye g2];exact e4⟩
  ·have e4:M ⟨bb,oo,ss⟩=some v:=by
    have:(if bb=b/\ss=none then U[oo]? else M ⟨bb,oo,ss⟩)=some v:=e0;rwa[zn V]at this
   exact Y.good _ v e4
 have T:blk (.row (l.map λx=>A.d (f x)) e) (G p) b:=by rw[hg];rfl
 have a3:Ext (λx=>x=b) M w M' w:=⟨z,zqr _,rfl,rfl,rfl,λ_ _ _=>rfl,λu v e1=>by
  have e1:(if u.block=b/\u.spot=none then U[u.off]? else M u)=some v:=e1;split at e1
  ·rename_i V;exact .inr (.inl V.1)
  ·exact .inl e1⟩
 have a5:F2 M' (.sl (l.map λx=>[f x])) (.slice (some ⟨b,0,none⟩) l.length I):=by
  refine .sl 1 (λi _=>U[i]?.getD undef) (by simp) (by assumption) (by assumption) (.inr rfl) (λi r O=>?_) (λi j r x O hj=>?_) (λi j r x O hj=>?_)
  ·rw[List.getElem?_map]at O;cases B:l[i]? with
   |none=>rw[B]at O;cases O
   |some y=>rw[B]at O;cases O;rfl
  ·rw[List.getElem?_map]at O;cases B:l[i]? with
   |none=>rw[B]at O;cases O
   |some y=>
    rw[B]at O;cases O;cases j with
    |succ j=>simp at hj
    |zero=>
     have a0:i<U.size:=Nat.lt_of_lt_of_le (by simp;exact(zqu.1 B).1) g3;rw[B5];show(if b=b/\(none:Option Nat)=none then U[0+(i*1+0)]? else _)=_;rw[zp ⟨rfl,rfl⟩];simp[a0]
  ·rw[List.getElem?_map]at O;cases B:l[i]? with
   |none=>rw[B]at O;cases O
   |some y=>
    rw[B]at O;cases O;cases j with
    |succ j=>simp at hj
    |zero=>
     simp at hj;subst hj;have a0:i<U.size:=Nat.lt_of_lt_of_le (by simp;exact(zqu.1 B).1) g3;have:=g5 i (A.d (f y)) U[i] (by rw[List.getElem?_map,B];rfl) (Array.getElem?_eq_getElem a0);have e3:U[i]?.getD undef=U[i]:=by simp[a0]
     rw[e3];cases this;rename_i hd;exact hd.mono z
 refine k fr M' G w a hK ⟨a4,Y.gl.ext Y.hrel a3 (λx B=>by subst B;exact⟨p,_,ho,T⟩),⟨λo x J=>?_,λo o' x x' c a1 a2 B a7=>?_,λo J=>Y.hrel.fresh o (by rw[H9]at J;exact J)⟩,λs=>?_,Y.size,Y.defers⟩ ⟨X.ext.trans a3 (λx B=>by subst B;exact X.own _ ⟨p,_,ho,T⟩),λc ⟨o,x,h1,h2⟩=>?_,by rw[H9];exact X.len,X.keep,λo x y h1 h2 h3=>?_⟩
 ·rw[C5 H p _ o Z]at J;split at J
  ·cases J;trivial
  ·rename_i a8;refine(Y.hrel.obj o x J).keep z (zqr _) (λ_ _=>rfl) λc V a6 sp hn=>?_;show(if c=b/\sp=none then U[a6]? else M ⟨c,a6,sp⟩)=none;rw[zn]
   ·exact hn
   ·rintro⟨rfl,_⟩;exact a8 (Y.hrel.apart o p x _ _ J ho V T)
 ·rw[C5 H p _ o Z]at a1;rw[C5 H p _ o' Z]at a2;split at a1
  ·cases a1;simp[blk]at B
  ·split at a2
   ·cases a2;simp[blk]at a7
   ·exact Y.hrel.apart o o' x x' c a1 a2 B a7
 ·unfold upd;cases hb:Nat.beq s t with
  |true=>
   obtain rfl:=zqo hb;rw[hv];exact .d a5
  |false=>exact(Y.env s).mono' z
 ·rw[C5 H p _ o Z]at h1;split at h1
  ·cases h1;simp[blk]at h2
  ·exact X.own c ⟨o,x,h1,h2⟩
 ·rw[C5 H p _ o Z]at h3;split at h3
  ·cases h3;rfl
  ·exact X.kind o x y h1 h2 h3
open Go.ChangeShapes
def Nm (W:World):Mem:=λa=>if a.spot=none then W.cell? a else none
def Z1z (W:World):Z3 (Nm W) W:=by
 intro a v h;unfold Nm at h;split at h
 ·rename_i b;exact .inl ⟨b,h⟩
 ·cases h
def I1d (M:Mem)(ds:List D)(cs:List Value):Prop:=ds.length=cs.length/\∀(i:Nat) x v,ds[i]?=some x->cs[i]?=some v->F2 M x v
structure H1s {H:Type}(μ:DataW H->Nat):Prop where
 lit:∀l,1<=μ (.lit l)
 str:∀s,s.length+1<=μ (.lit (.string s))
 nil:1<=μ .nil
 sl:∀es sp,(es.map μ).sum+1<=μ (.slice es sp)
 agg:∀ps,(ps.map μ).sum+1<=μ (.agg ps)
def Rd {H:Type}(enc:TypeId×Value->H)(P:Program)(W:World)(μ:DataW H->Nat)(fuel:Nat)(t:TypeId)(f:α->Row)(bk:α->Nat):Prop:=
 ∀cs d ps,DataW.trod enc P W 0 (λ_=>true) true fuel t cs=some (d,ps)->∃x:α,I1d (Nm W) (f x) cs/\bk x<=μ d
section
variable {H:Type}{enc:TypeId×Value->H}{P:Program}{W:World}{μ:DataW H->Nat}{fuel:Nat}{t:TypeId}
def Rd.zero {f:α->Row}{bk:α->Nat}:Rd enc P W μ 0 t f bk:=λc d b h=>by simp[DataW.trod]at h
def W1f {x:D}(h:F2 M x v):I1d M [x] [v]:=by
 refine⟨rfl,λi y u b c=>?_⟩;cases i with
 |zero=>simp at b c;subst b;subst c;exact h
 |succ i=>simp at b
def Rd.int (r:H1s μ){k:IntKind}(u:P.underlying t=some (.int k)):Rd enc P W μ fuel t (λn:Int=>[D.int k n]) (λ_=>1):=by
 cases fuel with
 |zero=>exact .zero
 |succ n=>
  intro x d v h;unfold DataW.trod at h;rw[u]at h;split at h<;>first|(rename_i b;cases b;done)|skip
  all_goals first|(cases h;done)|skip
  rename_i y k' m b;cases b;split at h
  ·rename_i hc;simp only[zqb,zqh]at h;obtain⟨rfl,rfl⟩:=h;obtain⟨rfl,c⟩:=hc;refine⟨m,W1f (.int ?_),r.lit _⟩;simpa[Lit.wf,InK]using c
  ·cases h
def Rd.str (c:H1s μ)(r:P.underlying t=some .string):Rd enc P W μ fuel t (λs:Str=>[D.str s]) (λs=>s.length+1):=by
 cases fuel with
 |zero=>exact .zero
 |succ n=>
  intro v d u h;unfold DataW.trod at h;rw[r]at h;split at h<;>first|(rename_i b;cases b;done)|skip
  all_goals first|(cases h;done)|skip
  rename_i s b;split at h
  ·rename_i hc;simp only[zqb,zqh]at h;obtain⟨rfl,rfl⟩:=h;refine⟨s.data.toList,W1f ?_,c.str _⟩;have:s=⟨s.data.toList.toArray⟩:=by simp
   rw[this];exact .str (by simpa using hc)
  ·cases h
def Q22 {α β:Type}{f:α->Nat}{g:β->Nat}:∀{l:List α} {m:List β},l.length=m.length->(∀(i:Nat) x y,l[i]?=some x->m[i]?=some y->f x<=g y)->(l.map f).sum<=(m.map g).sum
 |[],[],_,_=>zqr _
 |x::l,y::m,c,h=>by
  have v:=h 0 x y rfl rfl;have u:=Q22 (l:=l) (m:=m) (by simpa using c) (λi a b r d=>h (i+1) a b (by simpa using r) (by simpa using d));simp only[List.map_cons,List.sum_cons];omega
 |[],_::_,c,_=>by simp at c
 |_::_,[],c,_=>by simp at c
def I1a {W:World}{a:Addr}{n:Nat}{cs:List Value}(h:W.cells? 0 a n=some cs):cs.length=n/\∀(j:Nat) v,cs[j]?=some v->W.cell? (a.add j)=some v:=by
 unfold World.cells? at h;rw[zp (Nat.zero_le _)]at h;have x:∀(l:List Nat) (cs:List Value),l.mapM (λi=>W.cell? (a.add i))=some cs->cs.length=l.length/\∀(j:Nat) v,cs[j]?=some v->∃i,l[j]?=some i/\W.cell? (a.add i)=some v:=by
  intro l
  induction l with
  |nil=>intro cs h;simp at h;subst h;exact⟨rfl,λj v h=>by simp at h⟩
  |cons i l D=>
   intro cs h;rw[List.mapM_cons]at h;simp only[bind,Option.bind_eq_some_iff,pure,zqb]at h;obtain⟨v,b,B,d,rfl⟩:=h;obtain⟨c,y⟩:=D B d;refine⟨by simp[c],λj u r=>?_⟩;cases j with
   |zero=>simp at r;subst r;exact⟨i,rfl,b⟩
   |succ j=>simpa using y j u (by simpa using r)
 obtain⟨c,y⟩:=x _ _ h;refine⟨by simpa using c,λj v b=>?_⟩;obtain⟨i,z,hc⟩:=y j v b;have I:j<n:=by have:=(zqu.1 b).1;simp at c;omega
 rw[List.getElem?_range I]at z;cases z;exact hc
def J1a {W:World}{a:Addr}(h:W.cell? a=some v):Nm W a=some v/\a.spot=none:=by
 have b:a.spot=none:=by
  unfold World.cell? at h;split at h
  ·split at h
   ·cases h
   ·rename_i b;simpa using b
  ·cases h
 exact⟨by unfold Nm;rw[zp b];exact h,b⟩
def Rd.sl (hμ:H1s μ){e sz:Nat}{α:Type}[Inhabited α]{f:α->Row}{bk:α->Nat}(ht:P.underlying t=some (.slice e))(hP:P.cellsOf e=sz)(a9:1<=sz)(a6:∀x,(f x).length=sz)(he:∀n,n<fuel->Rd enc P W μ n e f bk) :
  Rd enc P W μ fuel t (λl:List α=>[D.sl (l.map f)]) (λl=>(l.map bk).sum+1):=by
 intro cs d ps h;rcases DataW.trod_slice ht h with⟨rfl,b⟩|⟨a,v,a8,u,a0,n,hn,rfl,b,_,a4,a5,Y,a7,a1,_⟩
 ·cases b;exact⟨[],W1f .slnil,hμ.nil⟩
 ·have h1:∀i:_root_.Fin v,∃x:α,∃ci U,W.cells? 0 (a.add (i.val*sz)) sz=some ci/\u[i.val]?=some U/\I1d (Nm W) (f x) ci/\bk x<=μ U.1:=by
   intro i;have:=a7 i.val i.isLt;have T:i.val<u.length:=by omega
   rw[zqv T,hP]at this;obtain⟨ci,O,J⟩:=Option.bind_eq_some_iff.1 this;obtain⟨x,z,X⟩:=he n (by omega) ci _ _ J;exact⟨x,ci,_,O,zqv T,z,X⟩
  let g:_root_.Fin v->α:=λi=>Classical.choose (h1 i)
  have hg:∀i:_root_.Fin v,∃ci U,W.cells? 0 (a.add (i.val*sz)) sz=some ci/\u[i.val]?=some U/\I1d (Nm W) (f (g i)) ci/\bk (g i)<=μ U.1:=λi=>Classical.choose_spec (h1 i);have B:∀(i:Nat) x,(List.ofFn g)[i]?=some x->∃h:i<v,x=g ⟨i,h⟩:=λi x b=>by
   rw[List.getElem?_ofFn]at b;split at b
   ·rename_i h;exact⟨h,by cases b;rfl⟩
   ·cases b
  cases b;refine⟨List.ofFn g,W1f (.sl sz (λi j=>(W.cell? (a.add (i*sz+j))).getD undef) (by simp) a4 a5 ?_ ?_ ?_ ?_),?_⟩
  ·by_cases h0:a8=0
   ·exact .inl h0
   ·refine .inr ?_;have a2:∃ci,W.cells? 0 (a.add (0*sz)) sz=some ci:=by
     by_cases hl0:0<v
     ·obtain⟨ci,U,O,_⟩:=hg ⟨0,hl0⟩;exact⟨ci,O⟩
     ·have Z:v=0:=by omega
      obtain⟨O,J⟩:=a1 rfl;have z:=J 0 (by omega);have T:0<a0.length:=by omega
      rw[zqv T,hP,Z]at z;obtain⟨ci,X,_⟩:=Option.bind_eq_some_iff.1 z;exact⟨ci,by simpa using X⟩
    obtain⟨ci,a3⟩:=a2;obtain⟨O,J⟩:=I1a a3;have z:ci[0]?=some ci[0]:=zqv (by omega);have:=(J1a (J 0 _ z)).2;simpa[Addr.add]using this
  ·intro i r c;rw[List.getElem?_map]at c;cases b:(List.ofFn g)[i]? with
   |none=>rw[b]at c;cases c
   |some x=>rw[b]at c;cases c;exact a6 x
  ·intro i j r x c b;rw[List.getElem?_map]at c;cases I:(List.ofFn g)[i]? with
   |none=>rw[I]at c;cases c
   |some y=>
    rw[I]at c;cases c;obtain⟨hi,rfl⟩:=B i y I;obtain⟨ci,U,O,J,⟨z,X⟩,h6⟩:=hg ⟨i,hi⟩;obtain⟨h7,h8⟩:=I1a O;have hj:j<ci.length:=by rw[<-z];exact(zqu.1 b).1
    have V:=h8 j _ (zqv hj);rw[Ct]at V;rw[(J1a V).1,V];rfl
  ·intro i j r x c b;rw[List.getElem?_map]at c;cases I:(List.ofFn g)[i]? with
   |none=>rw[I]at c;cases c
   |some y=>
    rw[I]at c;cases c;obtain⟨hi,rfl⟩:=B i y I;obtain⟨ci,U,O,J,⟨z,X⟩,h6⟩:=hg ⟨i,hi⟩;obtain⟨h7,h8⟩:=I1a O;have hj:j<ci.length:=by rw[<-z];exact(zqu.1 b).1
    have V:=h8 j _ (zqv hj);rw[Ct]at V;rw[V];exact X j x _ b (zqv hj)
  ·refine Nat.le_trans ?_ (hμ.sl _ _);rw[List.map_map];refine Nat.succ_le_succ (Q22 (by simp[Y]) λi x y b I=>?_);obtain⟨hi,rfl⟩:=B i x b;obtain⟨ci,U,O,J,z,h6⟩:=hg ⟨i,hi⟩;simp only at J;rw[J]at I;cases I;exact h6
def FRd {H:Type}(enc:TypeId×Value->H)(P:Program)(W:World)(μ:DataW H->Nat)(fuel:Nat)(fs:List Field)(off:Nat)(f:α->Row)(bk:α->Nat):Prop:=
 ∀(cs:List Value) (xs:List (DataW H×List MemPlace)),xs.length=fs.length->(∀(i:Nat) (g:Field),fs[i]?=some g->DataW.trod enc P W 0 (λ_=>true) true fuel g.type ((cs.drop g.offset).take (P.cellsOf g.type))=xs[i]?)->∃x:α,(∀(i:Nat) y v,(f x)[i]?=some y->cs[off+i]?=some v->F2 (Nm W) y v)/\bk x<=(xs.map λy=>μ y.1).sum
def FRd.nil:FRd enc P W μ fuel [] off (λ_:Unit=>[]) (λ_=>0):=by
 intro c d b _;obtain rfl:=List.eq_nil_of_length_eq_zero b;exact⟨(),λi y v h=>by simp at h,zqr _⟩
def FRd.cons {α β:Type}{f:α->Row}{g:β->Row}{bk:α->Nat}{bk':β->Nat}{fs:List Field}{fd:Field}{off sz:Nat}(T:Rd enc P W μ fuel fd.type f bk)(D:fd.offset=off)(hP:P.cellsOf fd.type=sz)(b:∀x,(f x).length=sz)(Y:FRd enc P W μ fuel fs (off+sz) g bk') :
  FRd enc P W μ fuel (fd::fs) off (λp:α×β=>f p.1++g p.2) (λp=>bk p.1+bk' p.2):=by
 intro U V r h;cases V with
 |nil=>simp at r
 |cons y I=>
 obtain⟨d,ps⟩:=y;obtain⟨x,⟨e1,X⟩,Z⟩:=T _ _ _ (h 0 fd rfl);obtain⟨B,J,e5⟩:=Y U I (by simpa using r) (λi g O=>by simpa using h (i+1) g (by simpa using O));refine⟨(x,B),λi z v c u=>?_,by simp only[List.map_cons,List.sum_cons];omega⟩;rcases Nat.lt_or_ge i sz with hi|hi
 ·rw[zqx (by rw[b];exact hi)]at c;refine X i z v c ?_;rw[D,hP,List.getElem?_take,zp hi,List.getElem?_drop];exact u
 ·rw[List.getElem?_append_right (by rw[b];exact hi),b]at c;refine J (i-sz) z v c ?_;rw[show off+sz+(i-sz)=off+i by omega];exact u
def Rd.st (J:H1s μ){fs:Array Field}{l:List Field}{β:Type}{f:α->Row}{g:β->Row}{bk:α->Nat}{bk':β->Nat}(O:P.underlying t=some (.struct fs))(D:fs.toList=l)(hP:P.cellsOf t=sz)(u:∀x,(g x).length=sz)
  (h:∀n,n<fuel->FRd enc P W μ n l 0 f bk) (mk:α->β) (U:∀x,f x=g (mk x)) (V:∀x,bk' (mk x)<=bk x+1):Rd enc P W μ fuel t g bk':=by
 intro Y d ps hd;obtain⟨c,n,hn,X,b,r,z⟩:=DataW.trod_struct O hd;cases X;obtain⟨x,T,h4⟩:=h n (by omega) Y c (by rw[r,<-D];simp) (λi g B=>z i g (by rw[<-D]at B;simpa using B));refine⟨mk x,⟨by rw[u,b,hP],λi y v I Z=>T i y v (by rw[U];exact I) (by simpa using Z)⟩,?_⟩;have:=J.agg (c.map (·.1));rw[List.map_map]at this;have h5:=V x;have h6:(c.map λy=>μ y.1).sum=(c.map (μ ∘ λx=>x.fst)).sum:=rfl;omega
end
open Go.ChangeShapes
def E16 {α β:Type}{f g:α->Option β}:∀{l:List α} {r:List β},l.mapM f=some r->(∀x∈l,∀y∈r,f x=some y->g x=some y)->l.mapM g=some r
 |[],r,h,_=>by simpa using h
 |x::l,r,h,b=>by
  rw[List.mapM_cons]at h⊢;simp only[bind,Option.bind_eq_some_iff,pure,zqb]at h⊢;obtain⟨y,v,u,c,rfl⟩:=h;exact⟨y,b x (by simp) y (by simp) v,u,E16 c (λx z y d=>b x (by simp[z]) y (by simp[d])),rfl⟩
def Q18 (l:List α):(List.range l.length).mapM (λi=>l[i]?)=some l:=by
 have b:∀(m:List α) (k:Nat),(∀j,m[j]?=l[k+j]?)->(List.range' k m.length).mapM (λi=>l[i]?)=some m:=by
  intro m
  induction m with
  |nil=>intro k _;rfl
  |cons x m d=>
   intro k h;rw[zqd,List.range'_succ,List.mapM_cons];have c:=h 0;simp at c;have:=d (k+1) (λj=>by have:=h (j+1);simp at this;rw[this];congr 1;omega);simp only[bind,Option.bind_eq_some_iff,pure,zqb];exact⟨x,c.symm,m,this,rfl⟩
 rw[List.range_eq_range'];exact b l 0 (λj=>by simp)
def Plain (P:Program)(S:TypeId->Prop):Prop:=
 ∀t,S t->P.underlying t=some .bool\/(∃k,P.underlying t=some (.int k))\/P.underlying t=some .string\/(∃e,P.underlying t=some (.slice e)/\S e/\1<=P.cellsOf e)\/∃fs,P.underlying t=some (.struct fs)/\∀f∈fs.toList,S f.type
section
variable {H:Type}{enc:TypeId×Value->H}{P:Program}{W W':World}{S:TypeId->Prop}
def F1w (d:∀b,b<W.heap.size->W'.heap[b]?=W.heap[b]?){a:Addr}{n:Nat}{cs:List Value}(h:W.cells? 0 a n=some cs):W'.cells? 0 a n=some cs:=by
 unfold World.cells? at *;rw[zp (Nat.zero_le _)]at *;refine E16 h λi _ y _ c=>?_;rw[R1b (d _ (World.block_lt_of_cell? W _ c))];exact c
def R22 (hS:Plain P S)(hb:∀b,b<W.heap.size->W'.heap[b]?=W.heap[b]?){D:Nat->Bool}:∀(fuel:Nat) (t:TypeId) (cs:List Value) (x:DataW H×List MemPlace),S t->DataW.trod enc P W 0 (λ_=>true) true fuel t cs=some x->
  (∀p∈x.2,D p.block=true)->DataW.trod enc P W' 0 D true fuel t cs=some x:=by
 intro fuel
 induction fuel with
 |zero=>intro t cs x _ h;simp[DataW.trod]at h
 |succ n ih=>
  intro t cs x a3 h hx;rcases hS t a3 with ht|⟨k,ht⟩|ht|⟨e,ht,a5,Z⟩|⟨fs,ht,a6⟩
  ·obtain⟨b,rfl,rfl⟩:=DataW.trod_bool ht h;unfold DataW.trod;rw[ht]
  ·have u:=h;obtain⟨m,rfl,rfl,_⟩:=DataW.trod_int ht h;unfold DataW.trod at u⊢;rw[ht]at u⊢;exact u
  ·have u:=h;obtain⟨s,rfl,rfl,_⟩:=DataW.trod_string ht h;unfold DataW.trod at u⊢;rw[ht]at u⊢;exact u
  ·have h0:=h;rcases DataW.trod_slice ht h with⟨rfl,rfl⟩|⟨a,r,O,c,d,n',hn,rfl,rfl,_,a2,a7,v,a8,Y,_⟩
   ·unfold DataW.trod;rw[ht];rfl
   ·have V:n=n':=by omega
    subst V;have T:O-r=0\/D a.block=true:=by
     by_cases hc:O=0
     ·exact .inl (by omega)
     ·refine .inr (hx (.cell a.block a.off) ?_);simp only[List.mem_append];refine .inl (MemPlace.mem_row.2 ⟨0,?_,?_⟩)
      ·have B:=(Y rfl).1;have:0<c.length+d.length:=by omega
       exact Nat.mul_pos this Z
      ·simp
    have a0:∀(i:Nat) (y:DataW H×List MemPlace),(∀p∈y.2,D p.block=true)->(W.cells? 0 (a.add (i*P.cellsOf e)) (P.cellsOf e)).bind (DataW.trod enc P W 0 (λ_=>true) true n e)=some y->
      (W'.cells? 0 (a.add (i*P.cellsOf e)) (P.cellsOf e)).bind (DataW.trod enc P W' 0 D true n e)=some y:=λi y J B=>by
     obtain⟨ci,u,X⟩:=Option.bind_eq_some_iff.1 B;rw[F1w hb u];exact ih e ci y a5 X J
    have U:∀y∈c++d,∀p∈y.2,D p.block=true:=λy J p hp=>hx p (by
     simp only[List.mem_append,List.mem_flatMap];exact .inr ⟨y,by simpa using J,hp⟩)
    have m1:(List.range r).mapM (λi=>(W'.cells? 0 (a.add (i*P.cellsOf e)) (P.cellsOf e)).bind (DataW.trod enc P W' 0 D true n e))=some c:=by
     have:(List.range r).mapM (λi=>c[i]?)=some c:=by rw[<-v];exact Q18 c
     refine E16 this λi hi y J B=>a0 i y (U y (by simp[J])) ?_;rw[a8 i (List.mem_range.1 hi)];exact B
    have m2:(if D a.block then(List.range (O-r)).mapM (λj=>(W'.cells? 0 (a.add ((r+j)*P.cellsOf e)) (P.cellsOf e)).bind (DataW.trod enc P W' 0 D true n e))else some [])=some d:=by
     obtain⟨B,u⟩:=Y rfl;rcases T with hc|hc
     ·have:d=[]:=List.eq_nil_of_length_eq_zero (by omega);subst this;rw[hc];split<;>rfl
     ·rw[zp hc];have:(List.range (O-r)).mapM (λi=>d[i]?)=some d:=by rw[<-B];exact Q18 d
      refine E16 this λj hj y J X=>a0 (r+j) y (U y (by simp[J])) ?_;rw[u j (List.mem_range.1 hj)];exact X
    unfold DataW.trod;rw[ht];simp only[Nat.zero_le,a2,a7,and_self,zt,m1,m2,Option.bind_some,zqt]
  ·obtain⟨xs,n',hn,rfl,hl,v,hf⟩:=DataW.trod_struct ht h;have V:n=n':=by omega
   subst V;refine trod_struct_mk ht hl ?_
   have a1:∀(l:List Field) (I:List (DataW H×List MemPlace)),I.length=l.length->(∀f∈l,S f.type)->(∀y∈I,∀p∈y.2,D p.block=true)->
     (∀(i:Nat) f,l[i]?=some f->DataW.trod enc P W 0 (λ_=>true) true n f.type ((cs.drop f.offset).take (P.cellsOf f.type))=I[i]?)->
     l.mapM (λf=>DataW.trod enc P W' 0 D true n f.type ((cs.drop f.offset).take (P.cellsOf f.type)))=some I:=by
    intro l
    induction l with
    |nil=>intro I B _ _ _;obtain rfl:=List.eq_nil_of_length_eq_zero B;rfl
    |cons f l a4=>
     intro I B u X h4;cases I with
     |nil=>simp at B
     |cons y I=>
      rw[List.mapM_cons];simp only[bind,Option.bind_eq_some_iff,pure,zqb];exact⟨y,ih _ _ y (u f (by simp)) (by simpa using h4 0 f rfl) (X y (by simp)),I,a4 I (by simpa using B) (λg hg=>u g (by simp[hg])) (λz hz=>X z (by simp[hz])) (λi g hg=>by simpa using h4 (i+1) g (by simpa using hg)),rfl⟩
   refine a1 fs.toList xs (by simpa using v) a6 (λy J p hp=>hx p (by simp only[List.mem_flatMap];exact⟨y,J,hp⟩)) λi f hi=>hf i f (by simpa using hi)
def S22 {f:Func}{s:ChangeSpec}{y O d T:Bool}{x:Array Value}{ds Y:List (DataW H)}{c pa pv:List MemPlace}
  (Z:DataW.Whole enc P f.params.toList s.vars y W x.toList ds Y c)
  (I:∀(b:Nat) (U:Nat->Bool) (hd:Bool),DataW.TrodAll enc P W' b U hd f.resultTypes.toList (v.resultList f.resultTypes.size) (s.fn H (ds++Y)).results [])
  (u:∀U:Nat->Bool,(∀p∈c,U p.block=true)->DataW.TrodAll enc P W' 0 U true f.params.toList x.toList (s.fn H (ds++Y)).args pa)
  (z:∀U:Nat->Bool,(∀p∈c,U p.block=true)->DataW.TrodVars enc P W' U s.vars (s.fn H (ds++Y)).vars pv)
  (D:c=pa++pv) (hk:W.keptBut W' (·∈c)) (a2:∀a:Addr,a.block<W.heap.size->W'.frozen? a=W.frozen? a)
  (a1:∀(j:Nat) (t:TypeId) (r:Value),f.resultTypes[j]?=some t->(v.resultList f.resultTypes.size)[j]?=some r->Value.okWide P W' .any 0 t r) :
  s.post enc P f y O d T W x v W':=by
 have a0:=Z.lt;have J:∀p∈c,(λb=>decide (b<W.heap.size)) p.block=true:=λp B=>by simpa using Z.lt p B
 refine⟨ds,Y,c,[],pa,pv,Z,I _ _ _,u _ J,z _ J,World.keptBut_mono (λp B=>⟨B,?_⟩) hk,λ_=>?_⟩
 ·rw[D,List.mem_append]at B;exact Or.inr B
 ·obtain⟨_,_,_,_,_,hz,hn⟩:=Z;refine⟨a1,_,_,([]++pa)++pv,⟨[]++pa,pv,trodAll_append (u _ (λ_ _=>rfl)) (I _ _ _),z _ (λ_ _=>rfl),rfl,?_,?_⟩,?_⟩
  ·intro b V B;have X:MemPlace.cell b V∈c:=by rw[D];simpa using B
   rw[a2 _ (a0 _ X)];exact hz b V X
  ·intro ha;have:=hn ha;rw[D]at this;simpa using this
  ·intro p B _;rw[D];simpa using B
def A20 {d:MemPlace->Prop}(v:∀b,b<W.heap.size->W'.heap[b]?=W.heap[b]?)(u:W'.os=W.os)(c:W'.output=W.output):W.keptBut W' d:=by
 refine⟨u,c,λi r=>?_⟩;rw[v i r];cases h:W.heap[i]? with
 |none=>rfl
 |some o=>cases o<;>simp
def T22 {a:Addr}(b:W'.heap[a.block]?=W.heap[a.block]?):W'.frozen? a=W.frozen? a:=by
 unfold World.frozen?;rw[b]
def J1d (y:Plain P S)(B:∀b,b<W.heap.size->W'.heap[b]?=W.heap[b]?){z:Nat->Bool}:∀{r:List TypeId} {vs:List Value} {ds:List (DataW H)} {ps:List MemPlace},(∀t∈r,S t)->DataW.TrodAll enc P W 0 (λ_=>true) true r vs ds ps->
  (∀p∈ps,z p.block=true)->DataW.TrodAll enc P W' 0 z true r vs ds ps
 |[],[],[],_,_,h,_=>h
 |t::r,v::vs,d::ds,ps,c,⟨p,q,⟨n,I⟩,O,e⟩,D=>by
  subst e;exact⟨p,q,⟨n,R22 y B n t _ _ (c t (by simp)) I (λx u=>D x (by simp[u]))⟩,J1d y B (λt J=>c t (by simp[J])) O (λx u=>D x (by simp[u])),rfl⟩
def I29 {C:Cx}(hP:C.P=P){V:Func}{s:ChangeSpec}{args:Array Value}{ds X:List (DataW H)}{y:List MemPlace}{b:TypeId}
  (hc:B4 C f xs [] (λr H'=>H'=[]/\r = .d (.bool true))) (O:xs.length=args.size) (B:∀(i:Nat) x v,xs[i]?=some x->args[i]?=some v->A1 (Nm W) (λ_=>.tuple #[]) x v) (a2:L10 C (Nm W) W)
  (hW:DataW.Whole enc P V.params.toList s.vars false W args.toList ds X y) (hv:s.vars=[]) (hb:V.resultTypes = #[b]) (U:P.underlying b=some .bool)
  (z:s.fn H ds={ results:=[.lit (.bool true)],args:=ds }) (hS:Plain P S) (a0:∀t∈V.params.toList,S t) :
  Calls P f args W λe W'=>∃v,e = .returned v/\s.post enc P V false true false false W args v W':=by
 subst hP;have a1:X=[]:=by
  obtain⟨p,q,_,I,_⟩:=hW;rw[hv]at I;cases X with
  |nil=>rfl
  |cons g X=>cases I
 subst a1;have hH:Z6 (Nm W) (λ_=>.tuple #[]) W []:=Z6.nil _ _;refine(hc.2 (Nm W) (λ_=>.tuple #[]) W args (Z1z W) a2 hH O B).mono λe W' he=>?_;obtain⟨v,r,H',M',G',rfl,⟨rfl,rfl⟩,Y,_,_,c,_⟩:=he;cases Y;rename_i Y;cases Y;refine⟨_,rfl,?_⟩;have u:∀k,k<W.heap.size->W'.heap[k]?=W.heap[k]?:=λk hk=>c.block k hk (λ⟨o,x,D,_⟩=>by simp at D);have Z:=hW;obtain⟨p,q,hA,hV,T,hz,hn⟩:=Z;rw[hv]at hV;have hq:q=[]:=hV;subst hq;refine S22 hW (pa:=p) (pv:=[]) ?_ ?_ ?_ T (A20 u c.os c.output) (λa ha=>T22 (u _ ha)) ?_
 ·intro b' sp hd;rw[List.append_nil,z,hb];exact trodAll_mk1 ⟨1,by unfold DataW.trod;rw[U];rfl⟩
 ·intro sp J;rw[List.append_nil,z];exact J1d hS u a0 hA (λx hx=>J x (by rw[T];simp[hx]))
 ·intro sp J;rw[hv,List.append_nil,z];rfl
 ·intro j t r D I;rw[hb]at D I;cases j with
  |succ j=>simp at D
  |zero=>
   simp at D I;subst D;have:r = .bool true:=by simpa[Value.resultList]using I.symm
   subst this;exact Go.RowKit.okWide_bool_mk U _
def C2b {r:Nat}{xs:List D}{fs:Array Field}(b:Value.okWide P W .any r t v)(J:P.underlying t=some (.struct fs))(h:I1d (Nm W) xs v.cells.toList):A1 (Nm W) (λ_=>.tuple #[]) (.agg (xs.map .d)) v:=by
 unfold Value.okWide at b;rw[J]at b;obtain⟨I,rfl,_⟩:=b;obtain⟨B,z⟩:=h;have e:(Value.agg I).cells=I:=rfl;rw[e]at B z;refine .agg (by simpa using B) (λi v b=>?_) λi x v c b=>?_
 ·have u:i<xs.length:=by rw[B];simpa using(Array.getElem?_eq_some_iff.1 b).1
  exact(z i _ v (zqv u) (by simpa using b)).one
 ·rw[List.getElem?_map]at c;cases hy:xs[i]? with
  |none=>rw[hy]at c;cases c
  |some y=>rw[hy]at c;cases c;exact .d (z i y v hy (by simpa using b))
end
def R4.le {C:Cx}{x y:A}(h:R4 C o env H x)(c:∀M G v,A1 M G x v->A1 M G y v):R4 C o env H y:=
 λM G w a b O J B u I T=>h M G w a b O J B u I λv d r D k2 z=>T v d r (c d G v D) k2 z
def okC {C:Cx}[h:Nonempty (T1 C)]:T1 C:=h.elim id
section
variable {C:Cx}{N:FN}{K:Nat}{pn:Value->Env->F0->Prop}{es:Fr->Exit->Act->World->Prop}{L l:List Oper}{o:Oper}{env:Env}{H:F0}
def n' (h:Q env H):K0 ⟨C,N,K,pn,es⟩ L [] env H Q:=K0.nil h
def Qn' {Q:Env->Prop}(h:Q env):AQ C L [] env H Q:=h
end
section
variable {C:Cx}[Nonempty (T1 C)]{N:FN}{K:Nat}{pn:Value->Env->F0->Prop}{es:Fr->Exit->Act->World->Prop}{L l:List Oper}{o:Oper}{env:Env}{H:F0}
def q' {x:A}(h:Lm C L o env H=some (d,True,x))(k:K0 ⟨C,N,K,pn,es⟩ L l (put env d x) H Q):K0 ⟨C,N,K,pn,es⟩ L (o::l) env H Q:=K0.q okC h trivial k
def qc' {c:Prop}{x:A}(h:Lm C L o env H=some (d,c,x))(hc:c)(k:K0 ⟨C,N,K,pn,es⟩ L l (put env d x) H Q):K0 ⟨C,N,K,pn,es⟩ L (o::l) env H Q:=K0.q okC h hc k
def qe' {c:Prop}{x y:A}(h:Lm C L o env H=some (d,c,x))(hc:c)(e:x=y)(k:K0 ⟨C,N,K,pn,es⟩ L l (put env d y) H Q):K0 ⟨C,N,K,pn,es⟩ L (o::l) env H Q:=K0.qe okC h hc e k
def i' {rows:List (List D)}{n:Int}(h:F11 C L o env=some (d,rows,n,sz)){k:Nat}{r:List D}(v:n=k)(c:rows[k]?=some r)(b:Nat.beq r.length sz=true)
  (u:K0 ⟨C,N,K,pn,es⟩ L l (put env d (.ptr r)) H Q):K0 ⟨C,N,K,pn,es⟩ L (o::l) env H Q:=K0.i okC h v c b u
def Q' {Q:Env->Prop}{x:A}(h:Lm C L o env H=some (d,True,x))(k:AQ C L l (put env d x) H Q):AQ C L (o::l) env H Q:=AQ.q okC h trivial k
variable {cnd:Cnd}{R:Env->Cnd->Prop}
def ag' {S c:Prop}{x:A}(h:C1s C L o env cnd H=some (d,W,S,c,x))(b:holds W->S/\c)(k:AG C L l (put env d x) (Ky cnd d W) H R):AG C L (o::l) env cnd H R:=AG.q okC h b k
end
section
variable {F:Fx}{env:Env}{H:F0}{Q:Po}
def s' {id:Nat}{b:Code}(d:Qq L=true)(c:L.all (Hk F.N)=true)(h:K0 F L L env H (Ik (Then F b Q))):AEx F (.seq (.region id L.toArray false) b) env H Q:=.seq (.regionN d c h)
def S' {a b:Code}(h:AEx F a env H (Then F b Q)):AEx F (.seq a b) env H Q:=.seq h
def R' {id:Nat}(c:Qq L=true)(b:L.all (Hk F.N)=true)(h:K0 F L L env H (Ik Q)):AEx F (.region id L.toArray false) env H Q:=.regionN c b h
def sk' (h:Q .normal env H):AEx F .skip env H Q:=.skip h
def bk' {id:Nat}{c:Code}(h:AEx F c env H (Mr id Q)):AEx F (.block id c) env H Q:=.block h
def re' (h:Q .ret env H):AEx F .ret env H Q:=.ret h
def ex' {id:Nat}(h:Q (.exit id) env H):AEx F (.exit id) env H Q:=.exit h
def ci' {c:Operand}{x y:Code}{t:Bool}{u z:Option α}{r:α}(hc:ev F.C.GL env c = .d (.bool t))(v:(if t=true then u else z)=some r)(B:u=some r->AEx F x env H Q)(D:z=some r->AEx F y env H Q):AEx F (.cond c x y) env H Q:=
 .cond hc (λb=>B (P10 b v)) (λb=>D (L26 b v))
end
def B1n (env:Env):List (Nat×A)->List A
 |[]=>[]
 |p::r=>env p.1::B1n env r
def N1:List (Nat×A)->List A
 |[]=>[]
 |p::r=>p.2::N1 r
def tkH:F0->F0->F0
 |[],_=>[]
 |_::r,x::H=>x::tkH r H
 |_::_,[]=>[]
def Yr (H:F0):List Nat->List (Option Ob)
 |[]=>[]
 |p::r=>nth H p::Yr H r
def Yw (f:Nat->Nat):F0->List (Option Ob)
 |[]=>[]
 |x::r=>some (Gt f x)::Yw f r
def D2b {k:Nat}:∀{H H2:F0},tkH H2 H=H2->H2.all (X1m k)=true->WkH k H H2
 |[],[],_,_=>trivial
 |_::_,[],_,_=>trivial
 |[],y::r,h,_=>by simp[tkH]at h
 |x::H,y::r,h,b=>by
  simp only[tkH,List.cons.injEq]at h;simp only[List.all_cons,zqi]at b;obtain⟨rfl,h⟩:=h;exact⟨WkO.same b.1,D2b h b.2⟩
def okB (K:Nat)(xs:List A)(H:F0):Bool:=R2 H.length xs&&H.all (X1m H.length)&&Nat.ble K H.length
abbrev Ret (H0:F0)(a:A):A->F0->Prop:=λx H'=>H'=H0/\x=a
def rt' {rs:List ResultVar}{x:A}(d:Y1c F.C.T rs env H=some x)(c:tkH H' H=H')(b:okB F.K [x] H'=true):Wr F rs (Ret H' x) .ret env H:=by
 simp only[okB,R2,zqi,Bool.and_true]at b;exact⟨x,x,H',d,.rfl,D2b c b.1.2,b.1.1,b.2,rfl,rfl⟩
def R18 {f:Nat->Nat}{H:F0}:∀{idx:List Nat} {cH:F0},Yr H idx=Yw f cH->Hy f H idx cH
 |[],[],_=>trivial
 |p::c,y::b,h=>by
  simp only[Yr,Yw,List.cons.injEq]at h;exact⟨h.1,R18 h.2⟩
 |[],_::_,h=>by simp[Yr,Yw]at h
 |_::_,[],h=>by simp[Yr,Yw]at h
def Z2c (h:xs=b):LeL xs b:=by subst h;exact .refl _
def g' {g:FuncId}{x y:A}(idx:List Nat){cH c:F0}
  (hc:B4 F.C g b cH (Ret c x)) (h:Ad F.C L o env=some (d,g,xs)) (v:Hb (K3 idx H.length) b=xs) (z:Ep idx H.length=true) (B:Yr H idx=Yw (K3 idx H.length) cH)
  (r:frc (ren (K3 idx H.length) x)=some y) (u:R9 (Aa H idx (K3 idx H.length) (S4 idx cH) c)=some H') (k:K0 F L l (put (λt=>dg (S4 idx cH) (env t)) d y) H' Q):K0 F L (o::l) env H Q:=
 .g idx h hc (Z2c v) z (R18 B) r u k
def c' {x:A}(hc:B4 F.C f xs [] (Ret [] x))(h:Ad F.C L o env=some (d,f,xs))(b:R2 0 xs=true)
  (k:K0 F L l (put env d x) H Q):K0 F L (o::l) env H Q:=.c h b hc k
def Qc' {C:Cx}{Q:Env->Prop}{x:A}(hc:B4 C f xs [] (Ret [] x))(h:Ad C L o env=some (d,f,xs))(b:R2 0 xs=true)
  (k:AQ C L l (put env d x) H Q):AQ C L (o::l) env H Q:=.c h b hc k
def bs' {β:Type}{x:Option α}{f:α->Option β}{r:β}(h:(x>>=f)=some r):∃a,x=some a/\f a=some r:=bind_some h
def oi' {a b:α}(h:some a=some b):a=b:=Option.some.inj h
def Ny:Nat->List Prop
 |0=>[]
 |k+1=>True::Ny k
def Oy (C:Cx)(L:List Oper)(H:F0):Nat->List Oper->Env->Option (List Oper×Env×List Prop)
 |0,l,env=>some (l,env,[])
 |_+1,[],_=>none
 |k+1,o::l,env=>match Lm C L o env H with
  |some (d,c,x)=>match Oy C L H k l (put env d x)with
   |some (l',e',cs)=>some (l',e',c::cs)
   |none=>none
  |none=>none
def Z1o {C:Cx}{k:Nat}{l':List Oper}(h:Oy C L H (k+1) (o::l) env=some (l',env',Ny (k+1))) :
  ∃d x,Lm C L o env H=some (d,True,x)/\Oy C L H k l (put env d x)=some (l',env',Ny k):=by
 rw[Oy]at h;split at h
 ·rename_i d c x b;split at h
  ·rename_i y v u r;simp only[zqb,zqh,Ny,List.cons.injEq]at h;obtain⟨rfl,rfl,hc,rfl⟩:=h;subst hc;exact⟨d,x,b,r⟩
  ·cases h
 ·cases h
def I1s {C:Cx}{k:Nat}{l':List Oper}{r:Env×List Prop}(h:Oy C L H (k+1) [] env=some (l',r)):False:=by rw[Oy]at h;cases h
def J1s (C:Cx)(N:Nat)(L:List Oper)(H:F0)(k:Nat)(env:Env):Option (List Oper×Env×List Prop):=bif Qq L&&L.all (Hk N)then Oy C L H k L env else none
def C1n {C:Cx}{N:Nat}{k:Nat}{r:List Oper×Env×List Prop}(h:J1s C N L H k env=some r):Qq L=true/\L.all (Hk N)=true/\Oy C L H k L env=some r:=by
 unfold J1s at h;cases hb:Qq L&&L.all (Hk N)with
 |false=>rw[hb]at h;cases h
 |true=>rw[hb]at h;simp only[zqi]at hb;exact⟨hb.1,hb.2,h⟩
section
variable {C:Cx}[Nonempty (T1 C)]{N:FN}{K:Nat}{pn:Value->Env->F0->Prop}{es:Fr->Exit->Act->World->Prop}{L l l':List Oper}{env env':Env}{H:F0}
def o' (k:Nat)(h:Oy C L H k l env=some (l',env',Ny k))(n:K0 ⟨C,N,K,pn,es⟩ L l' env' H Q):K0 ⟨C,N,K,pn,es⟩ L l env H Q:=by
 induction k generalizing l env with
 |zero=>rw[Oy]at h;cases h;exact n
 |succ k b=>cases l with
  |nil=>exact(I1s h).elim
  |cons o l=>
   obtain⟨d,x,r,c⟩:=Z1o h;exact q' r (b c)
def O' (k:Nat){Q:Env->Prop}(h:Oy C L H k l env=some (l',env',Ny k))(n:AQ C L l' env' H Q):AQ C L l env H Q:=by
 induction k generalizing l env with
 |zero=>rw[Oy]at h;cases h;exact n
 |succ k b=>cases l with
  |nil=>exact(I1s h).elim
  |cons o l=>
   obtain⟨d,x,r,c⟩:=Z1o h;exact Q' r (b c)
def e' (h:Oy C L H l.length l env=some ([],env',Ny l.length))(n:Q env' H):K0 ⟨C,N,K,pn,es⟩ L l env H Q:=o' _ h (n' n)
def E' {Q:Env->Prop}(h:Oy C L H l.length l env=some ([],env',Ny l.length))(n:Q env'):AQ C L l env H Q:=O' _ h (Qn' n)
def p' (k:Nat){id:Nat}{b:Code}{Q:Po}(h:J1s C N L H k env=some (l',env',Ny k))(n:K0 ⟨C,N,K,pn,es⟩ L l' env' H (Ik (Then ⟨C,N,K,pn,es⟩ b Q))):AEx ⟨C,N,K,pn,es⟩ (.seq (.region id L.toArray false) b) env H Q:=by
 obtain⟨r,d,c⟩:=C1n h;exact s' r d (o' k c n)
def t' {id:Nat}{b:Code}{Q:Po}(h:J1s C N L H L.length env=some ([],env',Ny L.length))(n:AEx ⟨C,N,K,pn,es⟩ b env' H Q):AEx ⟨C,N,K,pn,es⟩ (.seq (.region id L.toArray false) b) env H Q:=by
 obtain⟨r,d,c⟩:=C1n h;exact s' r d (e' c n)
def T' {id:Nat}{Q:Po}(h:J1s C N L H L.length env=some ([],env',Ny L.length))(n:Q .normal env' H):AEx ⟨C,N,K,pn,es⟩ (.region id L.toArray false) env H Q:=by
 obtain⟨d,c,b⟩:=C1n h;exact R' d c (e' b n)
end
def so:Code->Code
 |.scope c=>c
 |c=>c
def sub (i:Nat)(c:Code):Code:=match i with
 |0=>sl c
 |1=>sr c
 |2=>ca c
 |3=>cb c
 |4=>bk c
 |6=>so c
 |_=>lo c
def kon (F:Fx)(i:Nat)(c:Code)(Q:Po):Po:=match i with
 |0=>Then F (sr c) Q
 |4=>match c with
  |.block id _=>Mr id Q
  |_=>Q
 |5=>J1r F (lo c) Q
 |_=>Q
def pc:Code->List Nat->Code
 |c,[]=>c
 |c,i::p=>pc (sub i c) p
def pk (F:Fx):Code->List Nat->Po->Po
 |_,[],Q=>Q
 |c,i::p,Q=>pk F (sub i c) p (kon F i c Q)
abbrev LM (C:Cx)(n K:Nat)(f:Func)(p:List Nat)(E:List (Nat×A))(H:F0)(R:A->F0->Prop):Prop:=
 T8 (fx C n K) (lo (pc (My f) p)) (Gj E) H (pk (fx C n K) (My f) p (Wr (fx C n K) f.results.toList R))
open Go.ChangeShapes Go.WideShapes
section
variable {P:Program}{W:World}
def K1d:∀{laid:List (String×DataW Unit)} {ps:List MemPlace},DataW.LaidVars P W laid ps->∀(i:Nat) n d,laid[i]?=some (n,d)->
  ∃g t cs fuel p,P.globalNamed n=some g/\(P.globals[g]?).map (·.type)=some t/\W.var? P n=some cs/\DataW.trod (λ_=>()) P W 0 (λ_=>true) false fuel t cs.toList=some (d,p)
 |[],_,_,i,n,d,b=>by simp at b
 |(m,e)::r,ps,h,i,n,d,b=>by
  obtain⟨g,t,cs,fuel,p,q,x,u,c,v,y,_⟩:=h;cases i with
  |zero=>cases b;exact⟨g,t,cs,fuel,p,x,u,c,v⟩
  |succ i=>exact K1d y i n d (by simpa using b)
def U22 {name:String}{g:Nat}{cs:Array Value}(c:P.globalNamed name=some g)(h:W.var? P name=some cs)(b:cs[i]?=some v):Nm W ⟨g,i,none⟩=some v:=by
 have:=World.var?_cell c h i;unfold Nm;rw[zp rfl,this,b]
def G1w {b:List (String×DataW Unit)}(h:laidMet P b W)(i:Nat){name:String}{k:IntKind}{zs:List Int}(T:b[i]?=some (name,Lib.tabData k zs)){g:Nat}{e:TypeId}{n:Nat}
  (u:P.globalNamed name=some g) (d:(P.globals[g]?).map (·.type)=some t) (y:P.underlying t=some (.array n e)) (I:P.underlying e=some (.int k)) (r:P.cellsOf e=1) (c:P.cellsOf t=n) :
  Lib.TabIs P W name k zs/\∀(j:Nat) z,zs[j]?=some z->Nm W ⟨g,j,none⟩=some (.int k z):=by
 obtain⟨V,O,_⟩:=h;obtain⟨g',t',X,fuel,p,D,U,v,B⟩:=K1d O i _ _ T;obtain rfl:=Option.some.inj (u.symm.trans D);obtain rfl:=Option.some.inj (d.symm.trans U);have hc:=Lib.cells_of_tab y I r c B;have J:Lib.TabIs P W name k zs:=by unfold Lib.TabIs;rw[v,<-hc]
 exact⟨J,λj z x=>U22 u v (by rw[<-Array.getElem?_toList,hc,List.getElem?_map,x];rfl)⟩
def B20 {w r:World}{name:String}{k:IntKind}{zs:List Int}{g:Nat}(y:P.globalNamed name=some g)(x:0<zs.length)(B:∀(j:Nat) z,zs[j]?=some z->M ⟨g,j,none⟩=some (.int k z))
  (D:∀b,V1r M w b->r.heap[b]?=w.heap[b]?) (h:Lib.TabIs P w name k zs):Lib.TabIs P r name k zs:=by
 unfold Lib.TabIs at h⊢;simp only[World.var?,y,Option.bind_some]at h⊢;split at h
 ·rename_i v t f hc;have c:=Option.some.inj h;rw[D g ⟨v,t,f,hc,by rw[c];simpa using x,λi u=>?_⟩,hc]
  ·exact h
  ·rw[c]at u;have d:i<zs.length:=by simpa using u
   rw[B i zs[i] (zqv d)];simp
 ·cases h
end
def K0.ghost {o:Nat}{x:Ob}(hx:H[o]?=some x)(u:H'.length=H.length)
  (d:∀(i:Nat) y,H'[i]?=some y->isTok y=false\/H[i]?=some y)
  (h:∀M G w,Z3 M w->Z6 M G w H->∃M',(∀a v,M a=some v->M' a=some v)/\Z3 M' w/\(∀a v,M' a=some v->M a=some v\/blk x (G o) a.block)/\
   (∀t v,A1 M G (env t) v->A1 M' G (env' t) v)/\Z6 M' G w H'/\(∀b,own G H' b->own G H b))
  (k:K0 F L l env' H' Q):K0 F L l env H Q:=by
 intro T M G w a Qw hK hd r c X;obtain⟨M',Z,h2,V,Y,h5,h6⟩:=h M G w r.good r.hrel;have I:Ext (λb=>blk x (G o) b) M w M' w:=⟨Z,zqr _,rfl,rfl,rfl,λ_ _ _=>rfl,λa v e=>by
  rcases V a v e with e1|e1
  ·exact .inl e1
  ·exact .inr (.inl e1)⟩
 have D:∀b,blk x (G o) b->own G H b:=λb B=>⟨o,x,hx,B⟩
 refine k T M' G w a Qw hK hd ⟨h2,r.gl.ext r.hrel I D,h5,λt=>Y t _ (r.env t),r.size,r.defers⟩ ?_ X;refine⟨c.ext.trans I (λb B=>c.own b (D b B)),λb B=>c.own b (h6 b B),by rw[u];exact c.len,c.keep,λi y z O U J=>?_⟩;rcases d i z J with e|e
 ·exact e
 ·exact c.kind i y z O U e
mutual
def fm (j:Nat)(x:D):A->A
 |.mp i=>bif Nat.beq i j then .d x else .mp i
 |.clo f cs=>.clo f (fmL j x cs)
 |.bnd f cs=>.bnd f (fmL j x cs)
 |.agg cs=>.agg (fmL j x cs)
 |.tup cs=>.tup (fmL j x cs)
 |.d y=>.d y
 |.junk=>.junk
 |.ref a b=>.ref a b
 |.ptr c=>.ptr c
 |.full r=>.full r
 |.osl a r=>.osl a r
 |.rsl a b c d=>.rsl a b c d
 |.vsl a=>.vsl a
 |.vel a b=>.vel a b
def fmL (j:Nat)(x:D):List A->List A
 |[]=>[]
 |y::r=>fm j x y::fmL j x r
end
def C14 (j:Nat)(x:D):∀l,fmL j x l=l.map (fm j x)
 |[]=>rfl
 |y::r=>by simp only[fmL,List.map_cons,C14 j x r]
def fzO (φ:A->A):Ob->Ob
 |.row cs e=>.row (cs.map φ) e
 |y=>y
def fzH (φ:A->A)(j:Nat):Nat->F0->F0
 |_,[]=>[]
 |i,y::r=>(bif Nat.beq i j then .dead else fzO φ y)::fzH φ j (i+1) r
def X1f {φ:A->A}{j:Nat}:∀{H:F0} {i n:Nat},(fzH φ j i H)[n]?=(H[n]?).map λy=>bif Nat.beq (i+n) j then Ob.dead else fzO φ y
 |[],i,n=>by simp[fzH]
 |y::r,i,0=>by simp[fzH]
 |y::r,i,n+1=>by
  simp only[fzH,List.getElem?_cons_succ];rw[X1f,show i+1+n=i+(n+1) by omega]
def D1n {φ:A->A}{j:Nat}:∀{H:F0} {i:Nat},(fzH φ j i H).length=H.length
 |[],_=>rfl
 |y::r,i=>by simp only[fzH,zqd,D1n]
def H1x {φ:A->A}{y:Ob}{g:Value}:blk (fzO φ y) g=blk y g:=by
 cases y with
 |row b e=>cases g<;>first|rfl|(rename_i p;cases p<;>rfl)
 |_=>rfl
def K0.frz (φ:A->A)(j:Nat){x:Ob}(hj:H[j]?=some x)(hH:R9 (fzH φ j 0 H)=some H')
  (h:∀M G w,Z3 M w->Z6 M G w H->∃M',(∀a v,M a=some v->M' a=some v)/\Z3 M' w/\(∀a v,M' a=some v->M a=some v\/blk x (G j) a.block)/\∀y v,A1 M G y v->A1 M' G (φ y) v)
  (k:K0 F L l (λt=>φ (env t)) H' Q):K0 F L l env H Q:=by
 obtain rfl:=Mg hH;refine .ghost hj D1n (λi y b=>?_) (λM G w hg T=>?_) k
 ·rw[X1f]at b;cases u:H[i]? with
  |none=>rw[u]at b;cases b
  |some z=>
   rw[u]at b;simp only[zqt,zqb]at b;cases r:Nat.beq (0+i) j with
   |true=>rw[r]at b;subst b;exact .inl rfl
   |false=>
    rw[r]at b;simp only[zql]at b;subst b;cases z with
    |row cs e=>exact .inl rfl
    |_=>exact .inr rfl
 ·obtain⟨M',hm,a1,O,D⟩:=h M G w hg T;have conv:∀(n:Nat) z,(fzH φ j 0 H)[n]?=some z->∀c,blk z (G n) c->∃J,H[n]?=some J/\blk J (G n) c:=λn z d c hc=>by
   rw[X1f]at d;cases Y:H[n]? with
   |none=>rw[Y]at d;cases d
   |some q=>
    rw[Y]at d;simp only[zqt,zqb]at d;subst d;cases r:Nat.beq (0+n) j with
    |true=>rw[r]at hc;cases hc
    |false=>rw[r]at hc;simp only[zql,H1x]at hc;exact⟨q,rfl,hc⟩
  refine⟨M',hm,a1,O,λt v h=>D _ _ h,⟨λi y b=>?_,λi i' y y' c b Z r a2=>?_,λi u=>T.fresh i (by rw[D1n]at u;exact u)⟩,λc hc=>?_⟩
  ·rw[X1f]at b;cases u:H[i]? with
   |none=>rw[u]at b;cases b
   |some z=>
    rw[u]at b;simp only[zqt,zqb]at b;cases r:Nat.beq (0+i) j with
    |true=>rw[r]at b;subst b;trivial
    |false=>
     rw[r]at b;simp only[zql]at b;subst b;have a3:i≠j:=λe=>by subst e;simp at r
     have d:=T.obj i z u;have B:M5 M' G w z (G i):=d.keep hm (zqr _) (λ_ _=>rfl) (λc hc a0 sp Y=>by
      cases hM:M' ⟨c,a0,sp⟩with
      |none=>rfl
      |some v=>
       rcases O _ _ hM with e|e
       ·rw[Y]at e;cases e
       ·exact absurd (T.apart i j _ _ c u hj hc e) a3)
     cases z with
     |row cs e=>
      obtain⟨b',vs,V,X,h3,h4,h5,h6⟩:=B;obtain⟨b2,a5,k1,k2,k3,k4,k5,k6⟩:=d;rw[V]at k1;simp at k1;subst k1;rw[X]at k2;simp at k2;subst k2;refine⟨b',vs,V,X,by simpa using h3,h4,λn x v I hv=>?_,h6⟩;rw[List.getElem?_map]at I;cases hc:cs[n]? with
      |none=>rw[hc]at I;cases I
      |some q=>rw[hc]at I;simp at I;subst I;exact D _ _ (k5 n q v hc hv)
     |_=>exact B
  ·obtain⟨z,d,a4⟩:=conv i y b c r
   obtain⟨J,B,U⟩:=conv i' y' Z c a2
   exact T.apart i i' z J c d B a4 U
  ·obtain⟨n,z,d,hc⟩:=hc;obtain⟨J,V,X⟩:=conv n z d c hc
   exact⟨n,J,V,X⟩
def E2b {x:D}(J:∀a v,M a=some v->M' a=some v)(X:F2 M' x (G j)){y:A}(h:A1 M G y v):A1 M' G (fm j x y) v:=by
 have c:∀{O:List A} {T:Array Value},(∀(i:Nat) B v,O[i]?=some B->T[i]?=some v->A1 M' G (fm j x B) v)->∀(i:Nat) B v,(fmL j x O)[i]?=some B->T[i]?=some v->A1 M' G B v:=by
  intro O T Y i B v I hv;rw[C14,List.getElem?_map]at I;cases hc:O[i]? with
  |none=>rw[hc]at I;cases I
  |some z=>rw[hc]at I;simp at I;subst I;exact Y i z v hc hv
 induction h with
 |d h=>exact .d (h.mono J)
 |junk=>exact .junk
 |ref h=>exact .ref h
 |ptr N1 hs U h2=>exact .ptr N1 hs (λj x e=>J _ _ (U j x e)) (λj x e=>(h2 j x e).mono J)
 |full h hf=>exact .full (h.mono J) hf
 |osl h Z=>exact .osl (h.mono J) Z
 |rsl h hc V=>exact .rsl h hc V
 |vsl h=>exact .vsl h
 |vel h=>exact .vel h
 |clo u _ r=>exact .clo (by rw[C14];simpa using u) (c r)
 |bnd u _ r=>exact .bnd (by rw[C14];simpa using u) (c r)
 |agg u U _ r=>exact .agg (by rw[C14];simpa using u) U (c r)
 |tup u _ r=>exact .tup (by rw[C14];simpa using u) (c r)
 |@mp o b h=>
  simp only[fm];cases hb:Nat.beq o j with
  |true=>
   have:=zqo hb;subst this;simp only[zqk];rw[h]at X;exact .d X
  |false=>exact .mp h
def A1p {cs:Row}(h:cs.length≠1):Mc cs = .agg (cs.map .d):=by
 match cs,h with
 |[],_=>rfl
 |[x],h=>exact absurd rfl h
 |_::_::_,_=>rfl
def I1x {cs:Row}(h:cs.length=1):∃x,cs=[x]:=by
 match cs,h with
 |[x],_=>exact⟨x,rfl⟩
def V22 {cs:Row}(h:A1 M G (Mc cs) v):∃N1:Nat->Value,v=Q1f cs.length N1/\∀(j:Nat) x,cs[j]?=some x->F2 M x (N1 j):=by
 by_cases h1:cs.length=1
 ·obtain⟨x,rfl⟩:=I1x h1;refine⟨λ_=>v,rfl,λj y b=>?_⟩;have h:A1 M G (.d x) v:=h;cases h;rename_i h;cases j with
  |zero=>simp at b;subst b;exact h
  |succ j=>simp at b
 ·rw[A1p h1]at h;cases h;rename_i u J D I;have r:u.size=cs.length:=by simpa using D.symm
  refine⟨λj=>u.getD j undef,?_,λj y b=>?_⟩
  ·unfold Q1f;rw[zn h1];congr 1;apply Array.ext
   ·simp[r]
   ·intro i z B;simp[Array.getD,z]
  ·have c:j<u.size:=by rw[r];exact(zqu.1 b).1
   have:=I j (.d y) u[j] (by simp[b]) (Array.getElem?_eq_getElem c);cases this;rename_i this;simpa[Array.getD,c]using this
def W22 {cs:Row}{N1:Nat->Value}(h:∀(j:Nat) x,cs[j]?=some x->F2 M x (N1 j)):A1 M G (Mc cs) (Q1f cs.length N1):=by
 by_cases h1:cs.length=1
 ·obtain⟨x,rfl⟩:=I1x h1;exact .d (h 0 x rfl)
 ·rw[A1p h1];unfold Q1f;rw[zn h1];refine .agg (by simp) (λi v b=>?_) λi x v c b=>?_
  ·rw[List.getElem?_toArray,List.getElem?_map]at b;cases hr:(List.range cs.length)[i]? with
   |none=>rw[hr]at b;cases b
   |some k=>
    rw[hr]at b;simp only[zqt,zqb]at b;obtain⟨u,r⟩:=zqu.1 hr;simp at u r;subst r;subst b;exact(h i _ (zqv u)).one
  ·rw[List.getElem?_toArray,List.getElem?_map]at b;rw[List.getElem?_map]at c;cases hr:(List.range cs.length)[i]? with
   |none=>rw[hr]at b;cases b
   |some k=>
    rw[hr]at b;simp only[zqt,zqb]at b;obtain⟨u,r⟩:=zqu.1 hr;simp at u r;subst r;subst b;cases hc:cs[i]? with
    |none=>rw[hc]at c;cases c
    |some y=>
     rw[hc]at c;simp only[zqt,zqb]at c;subst c;exact .d (h i y hc)
def K0.fm (j:Nat){F:Fx}{L l:List Oper}{env:Env}{H H':F0}{Q:Env->F0->Prop}{es:List (List UInt8×Row)}(O:nth H j=some (.map (.s es)))(hH:R9 (fzH (Go.Am.fm j (.mp es)) j 0 H)=some H')
  (k:K0 F L l (λt=>Go.Am.fm j (.mp es) (env t)) H' Q):K0 F L l env H Q:=by
 rw[Q2]at O;refine .frz (Go.Am.fm j (.mp es)) j O hH (λM G w hg Z=>?_) k;obtain⟨b,B,cl,V,g2,D,J,g5,Y⟩:=Z.obj j _ O;have D:=D.trans (G1a es);have J:=U1h J;have U:blk (.map (.s es)) (G j) b:=by rw[V];rfl
 let M':Mem:=λa=>if a=⟨b,0,some 0⟩then some (W1m B)else M a
 have T:∀a v,M a=some v->M' a=some v:=λa v e=>by
  by_cases h:a=⟨b,0,some 0⟩
  ·subst h;rw[Y]at e;cases e
  ·simp only[M',zn h,e]
 have I:F2 M' (.mp es) (G j):=by
  have d:∀i:Nat,∃N1:Nat->Value,∀k r e,es[i]?=some (k,r)->B[i]?=some e->e.val=Q1f r.length N1/\∀(j:Nat) x,r[j]?=some x->F2 M x (N1 j):=λi=>by
   cases hi:es[i]? with
   |none=>exact⟨λ_=>undef,λk r e h=>by cases h⟩
   |some p=>
    obtain⟨k,r⟩:=p;have u:i<B.size:=by rw[D];exact(zqu.1 hi).1
    obtain⟨N1,v1,v2⟩:=V22 (J i k r _ hi (Array.getElem?_eq_getElem u)).2;refine⟨N1,λk' a0 e z X=>?_⟩;simp only[zqb,zqh]at z;obtain⟨rfl,rfl⟩:=z;rw[Array.getElem?_eq_getElem u]at X;obtain rfl:=Option.some.inj X;exact⟨v1,v2⟩
  rw[V];refine .mp (λi=>Classical.choose (d i)) (by simp only[M',zt]) D (λi k r e a c=>?_) (λi j k r x a c=>?_)
  ·have z:=(J i k r e a c).1;refine⟨?_,?_,(Classical.choose_spec (d i) k r e a c).1⟩
   ·generalize e.key=ek at z;cases z;rfl
   ·generalize e.key=ek at z;cases z;assumption
  ·have u:i<B.size:=by rw[D];exact(zqu.1 a).1
   exact((Classical.choose_spec (d i) k r _ a (Array.getElem?_eq_getElem u)).2 j x c).mono T
 refine⟨M',T,λa v e=>?_,λa v e=>?_,λy v h=>E2b T I h⟩
 ·by_cases h:a=⟨b,0,some 0⟩
  ·subst h;simp only[M',zt,zqb]at e;exact .inr (.inl ⟨rfl,B,cl,g2,e.symm⟩)
  ·simp only[M',zn h]at e;exact hg a v e
 ·by_cases h:a=⟨b,0,some 0⟩
  ·subst h;exact .inr U
  ·simp only[M',zn h]at e;exact .inl e
mutual
def bx (k:Nat)(y0:D)(ds:List D):A->A
 |.ref o off=>bif Nat.beq o k then(bif Nat.beq off 0 then .d y0 else .ptr (ds.drop off))else .ref o off
 |.rsl o b c d=>bif Nat.beq o k then .junk else .rsl o b c d
 |.clo f cs=>.clo f (bxL k y0 ds cs)
 |.bnd f cs=>.bnd f (bxL k y0 ds cs)
 |.agg cs=>.agg (bxL k y0 ds cs)
 |.tup cs=>.tup (bxL k y0 ds cs)
 |.d y=>.d y
 |.junk=>.junk
 |.mp i=>.mp i
 |.ptr c=>.ptr c
 |.full r=>.full r
 |.osl a r=>.osl a r
 |.vsl a=>.vsl a
 |.vel a b=>.vel a b
def bxL (k:Nat)(y0:D)(ds:List D):List A->List A
 |[]=>[]
 |y::r=>bx k y0 ds y::bxL k y0 ds r
end
def D14 (k:Nat)(b:D)(ds:List D):∀l,bxL k b ds l=l.map (bx k b ds)
 |[]=>rfl
 |y::r=>by simp only[bxL,List.map_cons,D14 k b ds r]
def toZ:A->Option D
 |.d (.nilv .map)=>some (.mp [])
 |.d x=>some x
 |_=>none
def J29 {x:A}{d:D}(h:toZ x=some d)(b:A1 M G x v):F2 M d v:=by
 unfold toZ at h;split at h
 ·simp only[zqb]at h;subst h;cases b;rename_i b;cases b;exact .mpnil
 ·simp only[zqb]at h;subst h;cases b;assumption
 ·cases h
def K1s:List A->Option (List D)
 |[]=>some []
 |y::r=>match toZ y,K1s r with
  |some x,some ds=>some (x::ds)
  |_,_=>none
def L1s:∀{cs:List A} {ds:List D},K1s cs=some ds->cs.length=ds.length/\∀(j:Nat) x,ds[j]?=some x->∃y,cs[j]?=some y/\toZ y=some x
 |[],ds,h=>by simp only[K1s,zqb]at h;subst h;exact⟨rfl,λj x h=>by simp at h⟩
 |y::r,ds,h=>by
  simp only[K1s]at h;split at h
  ·rename_i x B c u;simp only[zqb]at h;subst h;obtain⟨z,v⟩:=L1s u;refine⟨by simp[z],λj d b=>?_⟩;cases j with
   |zero=>simp at b;subst b;exact⟨y,rfl,c⟩
   |succ j=>simpa using v j d (by simpa using b)
  ·cases h
def F2b {k:Nat}{ds:List D}{U:D}{b:Nat}(hy:∀v,F2 M' (.box ds) v->F2 M' U v)(T:∀a v,M a=some v->M' a=some v)(hk:G k = .pointer (some ⟨b,0,none⟩))(N1:Nat->Value)
  (J:∀(j:Nat) x,ds[j]?=some x->M' ⟨b,j,none⟩=some (N1 j)) (X:∀(j:Nat) x,ds[j]?=some x->F2 M' x (N1 j)) {y:A} (h:A1 M G y v):A1 M' G (bx k U ds y) v:=by
 have r:∀{V:List A} {Y:Array Value},(∀(i:Nat) I v,V[i]?=some I->Y[i]?=some v->A1 M' G (bx k U ds I) v)->∀(i:Nat) I v,(bxL k U ds V)[i]?=some I->Y[i]?=some v->A1 M' G I v:=by
  intro V Y hh i I v O hv;rw[D14,List.getElem?_map]at O;cases hc:V[i]? with
  |none=>rw[hc]at O;cases O
  |some z=>rw[hc]at O;simp at O;subst O;exact hh i z v hc hv
 have ad:∀(c j:Nat),(⟨b,c,none⟩:Addr).add j=⟨b,c+j,none⟩:=λc j=>by
  unfold Addr.add;split
  ·subst_vars;rfl
  ·rfl
 induction h with
 |d h=>exact .d (h.mono T)
 |junk=>exact .junk
 |@ref o c b' h=>
  simp only[bx];cases hb:Nat.beq o k with
  |false=>exact .ref h
  |true=>
   obtain rfl:=zqo hb;rw[hk]at h;simp at h;subst h;simp only[zqk];cases ho:Nat.beq c 0 with
   |true=>
    obtain rfl:=zqo ho;simp only[zqk];exact .d (hy _ (.box N1 rfl (λj x e=>by rw[ad,Nat.zero_add];exact J j x e) X))
   |false=>
    simp only[zql];refine .ptr (λj=>N1 (c+j)) rfl (λj x e=>?_) (λj x e=>?_)
    ·rw[List.getElem?_drop]at e;rw[ad];exact J _ x e
    ·rw[List.getElem?_drop]at e;exact X _ x e
 |ptr N1 hs J X=>exact .ptr N1 hs (λj x e=>T _ _ (J j x e)) (λj x e=>(X j x e).mono T)
 |full h hf=>exact .full (h.mono T) hf
 |osl h hg=>exact .osl (h.mono T) hg
 |@rsl o _ _ _ _ _ h hc Z=>
  simp only[bx];cases hb:Nat.beq o k with
  |true=>exact .junk
  |false=>exact .rsl h hc Z
 |vsl h=>exact .vsl h
 |vel h=>exact .vel h
 |clo B _ u=>exact .clo (by rw[D14];simpa using B) (r u)
 |bnd B _ u=>exact .bnd (by rw[D14];simpa using B) (r u)
 |agg B J _ u=>exact .agg (by rw[D14];simpa using B) J (r u)
 |tup B _ u=>exact .tup (by rw[D14];simpa using B) (r u)
 |mp h=>exact .mp h
def K0.bx (k:Nat){F:Fx}{L l:List Oper}{env:Env}{H H':F0}{Q:Env->F0->Prop}{cs:List A}{e:TypeId}{ds:List D}{y:D}(he:y = .box ds\/y = .bxo (some ds))(z:nth H k=some (.row cs e))(hd:K1s cs=some ds)(hH:R9 (fzH (Go.Am.bx k y ds) k 0 H)=some H')
  (kk:K0 F L l (λt=>Go.Am.bx k y ds (env t)) H' Q):K0 F L l env H Q:=by
 have u:∀(M:Mem) v,F2 M (.box ds) v->F2 M y v:=λM v h=>by
  rcases he with rfl|rfl
  ·exact h
  ·cases h with
   |box N1 hs r T=>exact .bxs N1 hs r T
 rw[Q2]at z;obtain⟨a0,B⟩:=L1s hd;refine .frz (Go.Am.bx k y ds) k z hH (λM G w hg hh=>?_) kk;obtain⟨b,vs,U,g2,g3,g4,Z,Y⟩:=hh.obj k _ z;have O:blk (.row cs e) (G k) b:=by rw[U];rfl
 let M':Mem:=λa=>if a.block=b/\a.spot=none then vs[a.off]? else M a
 have J:∀a v,M a=some v->M' a=some v:=λa v e=>by
  by_cases h:a.block=b/\a.spot=none
  ·obtain⟨ab,ao,I⟩:=a;simp only at h;rw[h.1,Y]at e;cases e
  ·simp only[M',zn h,e]
 have hl:ds.length<=vs.size:=by omega
 have V:∀(j:Nat) x,ds[j]?=some x->∃v,vs[j]?=some v/\F2 M' x v:=λj x c=>by
  have d:j<vs.size:=Nat.lt_of_lt_of_le (zqu.1 c).1 hl;obtain⟨y,u,X⟩:=B j x c;exact⟨_,Array.getElem?_eq_getElem d,(J29 X (Z j y vs[j] u (Array.getElem?_eq_getElem d))).mono J⟩
 refine⟨M',J,λa v e=>?_,λa v e=>?_,λy v h=>F2b (u M') J U (λj=>vs[j]?.getD undef) (λj x c=>?_) (λj x c=>?_) h⟩
 ·by_cases h:a.block=b/\a.spot=none
  ·simp only[M',zp h]at e;obtain⟨ab,ao,I⟩:=a;simp only at h e;obtain⟨rfl,rfl⟩:=h;exact .inl ⟨rfl,by rw[Ye g2];exact e⟩
  ·simp only[M',zn h]at e;exact hg a v e
 ·by_cases h:a.block=b/\a.spot=none
  ·exact .inr (by rw[h.1];exact O)
  ·simp only[M',zn h]at e;exact .inl e
 ·obtain⟨v,r,_⟩:=V j x c;simp only[M',and_self,zt,r,Option.getD_some]
 ·obtain⟨v,r,T⟩:=V j x c;rw[r];exact T
def L1d:D->Option Bool
 |.nilv .ptr=>some true
 |.box _=>some false
 |.bxo o=>some o.isNone
 |_=>none
def M1s (C:Cx)(L:List Oper)(o:Oper)(env:Env):Option (Option Nat×D×Bool):=
 match K1 L env o,o.op,O3 o with
 |some true,.binOp op t x y _,some d=>match Z1 C.T t,ev C.GL env x,ev C.GL env y,W15 op with
  |some i,.d xd,.d (.nilv .ptr),some neg=>match i.u with
   |.ptr _=>some (d,xd,neg)
   |_=>none
  |_,_,_,_=>none
 |_,_,_=>none
def X22 {C:Cx}(hC:T1 C){x:D}{neg b:Bool}(h:M1s C L o env=some (d,x,neg))(r:L1d x=some b) :
  K1 L env o=some true/\O3 o=some d/\R4 C o env H (.d (.bool (bif neg then !b else b))):=by
 unfold M1s at h;split at h
 ·rename_i V t I y' sp d' Z J hd;split at h
  ·rename_i i z c U v y X;split at h
   ·rename_i et O;simp only[zqb,zqh]at h;obtain⟨rfl,rfl,rfl⟩:=h;refine⟨Z,hd,?_⟩;have B:eqA i.u (ev C.GL env I) (ev C.GL env y') (W15 V)=some (True,.d (.bool (bif c then !b else b))):=by
     rw[v,y,X,O];cases z with
     |nilv k=>
      cases k<;>simp only[L1d]at r<;>first|(cases r;done)|skip
      cases r;cases c<;>rfl
     |box cs=>
      simp only[L1d,zqb]at r;subst r;cases c<;>rfl
     |bxo o=>
      simp only[L1d,zqb]at r;subst r;cases c<;>rfl
     |_=>simp[L1d]at r
    have Y:opA C.T C.GL o.op env H=some (True,.d (.bool (bif c then !b else b))):=by
     rw[J];simp only[opA,T1c,U];rw[v,y]at B⊢;cases z<;>first|exact B|(simp[L1d]at r;done)
    exact Al hC Y trivial
   ·cases h
  ·cases h
 ·cases h
def K0.nq (hC:T1 F.C){H:F0}{x:D}{neg b:Bool}(h:M1s F.C L o env=some (d,x,neg))(c:L1d x=some b)
  (k:K0 F L l (put env d (.d (.bool (bif neg then !b else b)))) H Q):K0 F L (o::l) env H Q:=by
 obtain⟨v,u,r⟩:=X22 (H:=H) hC h c;refine .yields v r ?_;rw[W2 u];exact k
def Y1h:D->Option (List (List UInt8×Row))
 |.mp es=>some es
 |.nilv .map=>some []
 |_=>none
def C1k (C:Cx)(L:List Oper)(o:Oper)(env:Env):Option (Option Nat×D×List UInt8×Bool×A):=
 match K1 L env o,o.op,O3 o with
 |some true,.lookup t x y ok,some d=>match Z1 C.T t,ev C.GL env x,ev C.GL env y with
  |some i,.d xd,.d (.str k)=>match i.u with
   |.map kt et=>match Z1 C.T kt,Z1 C.T et with
    |some ki,some ei=>match ki.u,frc (C16 ei)with
     |.str,some z=>some (d,xd,k,ok,z)
     |_,_=>none
    |_,_=>none
   |_=>none
  |_,_,_=>none
 |_,_,_=>none
def B1p {C:Cx}(hC:T1 C){xd:D}{k:List UInt8}{ok:Bool}{z:A}(h:C1k C L o env=some (d,xd,k,ok,z))(he:Y1h xd=some es) :
  K1 L env o=some true/\O3 o=some d/\R4 C o env H (lkA (Ch k es) z ok):=by
 unfold C1k at h;split at h
 ·rename_i t x y B d' hw ho hd;split at h
  ·rename_i i b3 k' ht r hy;split at h
   ·rename_i kt et hu;split at h
    ·rename_i ki ei a5 b0;split at h
     ·rename_i z' a6 hz;simp only[zqb,zqh]at h;obtain⟨rfl,rfl,rfl,rfl,rfl⟩:=h;refine⟨hw,hd,?_⟩;intro M G w a b2 Qw hρ hG b4 hH a9;have a8:=On hz;subst a8;rw[ho]at hρ;have T:=hρ x (by simp[Op.operands]);have U:=hρ y (by simp[Op.operands]);rw[r]at T;rw[hy]at U;generalize hxv:a.eval x=xv at T;generalize hyv:a.eval y=yv at U;cases T;rename_i T;cases U;rename_i U;cases U;have hd:=Nn (hC.tok.facts ht) hu;have J:=Cq (hC.tok.facts a5) a6;obtain⟨zv,Z,c⟩:=D1d hC.tok b0 M G;have a7:∃v,(Instr.lookup t xv (.string ⟨k'.toArray⟩) B).run C.P w = .ok v w/\A1 M G (lkA (Ch k' es) (C16 ei) B) v:=by
       cases T with
       |nilmap=>
        simp only[Y1h,zqb]at he;subst he;refine⟨if B then .tuple #[zv,.bool false]else zv,?_,?_⟩
        ·simp[Instr.lookup,run_underlying hd,Xg J,Instr.findKey,run_underlying J,Instr.findNow,Z w]
        ·cases B with
         |false=>simpa[lkA,Ch]using c
         |true=>
          refine .tup rfl λi x v r u=>?_
          match i with
          |0=>simp at r u;subst r;subst u;exact c
          |1=>simp at r u;subst r;subst u;exact .d .bool
          |_+2=>simp at r
       |mpnil=>
        simp only[Y1h,zqb]at he;subst he;refine⟨if B then .tuple #[zv,.bool false]else zv,?_,?_⟩
        ·simp[Instr.lookup,run_underlying hd,Xg J,Instr.findKey,run_underlying J,Instr.findNow,Z w]
        ·cases B with
         |false=>simpa[lkA,Ch]using c
         |true=>
          refine .tup rfl λi x v r u=>?_
          match i with
          |0=>simp at r u;subst r;subst u;exact c
          |1=>simp at r u;subst r;subst u;exact .d .bool
          |_+2=>simp at r
       |@mp b1 b ms N1 hM hl hk u=>
        simp only[Y1h,zqb]at he;subst he;obtain⟨I,cl,g2,V⟩:∃I cl,w.heap[b]?=some (.map I cl)/\W1m ms=W1m I:=by
         rcases hG _ _ hM with⟨O,_⟩|⟨_,I,cl,O,h2⟩|⟨O,_⟩
         ·cases O
         ·exact⟨I,cl,O,h2⟩
         ·cases O
        have Y:ms.map (λe=>Value.tuple #[e.key,e.val])=I.map (λe=>Value.tuple #[e.key,e.val]):=by
         unfold W1m at V;simpa using V
        have a2:ms.size=I.size:=by simpa using congrArg Array.size Y
        have X:∀(i:Nat) e,I[i]?=some e->∃e',ms[i]?=some e'/\e'.key=e.key/\e'.val=e.val:=λi e hi=>by
         have a1:i<ms.size:=by rw[a2];exact(Array.getElem?_eq_some_iff.1 hi).1
         have:=congrArg (λl=>l[i]?) Y;simp only[Array.getElem?_map,hi,Array.getElem?_eq_getElem a1,zqt,zqb,Value.tuple.injEq]at this;refine⟨ms[i],Array.getElem?_eq_getElem a1,?_,?_⟩
         ·exact(by simpa using this:_/\_).1
         ·exact(by simpa using this:_/\_).2
        have a0:∀(n:Nat) k' cs e,b1[n]?=some (k',cs)->I.toList[n]?=some e->e.key = .string ⟨k'.toArray⟩:=λn k' cs e a b=>by
         obtain⟨e',O,h2,_⟩:=X n e (by simpa using b);rw[<-h2];exact(hk n k' cs e' a O).1
        rcases K13 (k:=k') (i:=0) (by rw[<-hl,a2];simp) a0 with⟨O,h2,_⟩|⟨n,cs,e,O,h2,h3,h4,_⟩
        ·refine⟨if B then .tuple #[zv,.bool false]else zv,?_,?_⟩
         ·simp[Instr.lookup,run_underlying hd,Oi g2,Xg J,Instr.findKey,run_underlying J,h2,Z w]
         ·rw[O];cases B with
          |false=>simpa[lkA]using c
          |true=>
           refine .tup rfl λi x v r u=>?_
           match i with
           |0=>simp at r u;subst r;subst u;exact c
           |1=>simp at r u;subst r;subst u;exact .d .bool
           |_+2=>simp at r
        ·have a4:A1 M G (Mc cs) e.val:=by
          obtain⟨e',q1,_,q3⟩:=X n e (by simpa using h3);rw[<-q3,(hk n k' cs e' O q1).2.2];exact W22 λj x r=>u n j k' cs x O r
         refine⟨if B then .tuple #[e.val,.bool true]else e.val,?_,?_⟩
         ·simp[Instr.lookup,run_underlying hd,Oi g2,Xg J,Instr.findKey,run_underlying J,h4]
         ·rw[h2];cases B with
          |false=>simpa[lkA]using a4
          |true=>
           refine .tup rfl λi x v r u=>?_
           match i with
           |0=>simp at r u;subst r;subst u;exact a4
           |1=>simp at r u;subst r;subst u;exact .d .bool
           |_+2=>simp at r
       |_=>simp[Y1h]at he
      obtain⟨v,u,a3⟩:=a7;unfold Oper.wp execOp;simp only[ho,hxv,hyv,Sem.run_bind,u,Result.andThen_ok,Sem.run_pure,Oper.upon_value];exact a9 _ M w a3 hG (Ext.refl _ _ _)
     ·cases h
    ·cases h
   ·cases h
  ·cases h
 ·cases h
def K0.fl (hC:T1 F.C){H:F0}{b:D}{c:Bool}{z y:A}(h:C1k F.C L o env=some (d,b,k,c,z))
  (x:Y1h b=some es) (e:lkA (Ch k es) z c=y) (r:K0 F L l (put env d y) H Q):K0 F L (o::l) env H Q:=by
 subst e;obtain⟨v,B,u⟩:=B1p (H:=H) hC h x;refine .yields v u ?_;rw[W2 B];exact r
def AG.fl {C:Cx}(hC:T1 C){H:F0}{Q:Env->Cnd->Prop}{d:Option Nat}{c:D}{u:Bool}{z y:A}(r:Hw L env cnd o=some W)
  (h:C1k C [] (noG o) env=some (d,c,k,u,z)) (v:holds W->Pi cnd (H1a o)) (B:holds W->Y1h c=some es) (e:lkA (Ch k es) z u=y) (b:AG C L l (put env d y) (Ky cnd d W) H Q):AG C L (o::l) env cnd H Q:=by
 subst e;by_cases hh:holds W
 ·obtain⟨_,J,x⟩:=B1p (H:=H) hC h (B hh);exact .lift J r v (λ_=>x) b
 ·refine .lift (d:=d) ?_ r v (λh'=>absurd h' hh) b;unfold C1k at h;split at h
  ·rename_i I;split at h
   ·split at h
    ·split at h
     ·split at h
      ·simp only[zqb,zqh]at h;obtain⟨rfl,_⟩:=h;exact I
      ·cases h
     ·cases h
    ·cases h
   ·cases h
  ·cases h
def AG.me {C:Cx}(hC:T1 C){Q:Env->Cnd->Prop}{b:Bool}{z y:A}(r:Hw L env cnd o=some W)
  (h:L13 C [] (noG o) env H=some ⟨d,es,k,b,z⟩) (u:holds W->Pi cnd (H1a o)) (e:lkA (Ch k es) z b=y) (c:AG C L l (put env d y) (Ky cnd d W) H Q):AG C L (o::l) env cnd H Q:=by
 subst e;exact .lift (Jy h).2 r u (λ_=>Gw hC h rfl) c
mutual
def Y22 {ps c:List Nat}(h:∀p∈ps,p∈c):∀x:A,dg c x=x->dg ps x=x
 |.osl o r,e=>by
  simp only[dg]at e⊢;cases hq:c.contains o with
  |true=>rw[hq]at e;cases e
  |false=>
   cases hp:ps.contains o with
   |true=>have:=h o (by simpa using hp);simp at hq;exact absurd this hq
   |false=>rfl
 |.clo _ b,e=>by simp only[dg]at e⊢;rw[S18 h b (by simpa using e)]
 |.bnd _ b,e=>by simp only[dg]at e⊢;rw[S18 h b (by simpa using e)]
 |.agg b,e=>by simp only[dg]at e⊢;rw[S18 h b (by simpa using e)]
 |.tup b,e=>by simp only[dg]at e⊢;rw[S18 h b (by simpa using e)]
 |.vsl o,e=>by
  simp only[dg]at e⊢;cases hq:c.contains o with
  |true=>rw[hq]at e;cases e
  |false=>
   cases hp:ps.contains o with
   |true=>have:=h o (by simpa using hp);simp at hq;exact absurd this hq
   |false=>rfl
 |.vel o _,e=>by
  simp only[dg]at e⊢;cases hq:c.contains o with
  |true=>rw[hq]at e;cases e
  |false=>
   cases hp:ps.contains o with
   |true=>have:=h o (by simpa using hp);simp at hq;exact absurd this hq
   |false=>rfl
 |.d _,_=>rfl
 |.junk,_=>rfl
 |.ref _ _,_=>rfl
 |.ptr _,_=>rfl
 |.full _,_=>rfl
 |.rsl _ _ _ _,_=>rfl
 |.mp _,_=>rfl
def S18 {ps b:List Nat}(h:∀p∈ps,p∈b):∀l:List A,dgL b l=l->dgL ps l=l
 |[],_=>rfl
 |x::r,e=>by
  simp only[dgL,List.cons.injEq]at e⊢;exact⟨Y22 h x e.1,S18 h r e.2⟩
end
mutual
def T18 (ps:List Nat):∀x:A,dg ps (dg ps x)=dg ps x
 |.osl o r=>by simp only[dg];cases hp:ps.contains o<;>simp only[zqk,zql,dg,hp]
 |.clo _ b=>by simp only[dg];rw[M14 ps b]
 |.bnd _ b=>by simp only[dg];rw[M14 ps b]
 |.agg b=>by simp only[dg];rw[M14 ps b]
 |.tup b=>by simp only[dg];rw[M14 ps b]
 |.vsl o=>by simp only[dg];cases hp:ps.contains o<;>simp only[zqk,zql,dg,hp]
 |.vel o _=>by simp only[dg];cases hp:ps.contains o<;>simp only[zqk,zql,dg,hp]
 |.d _=>rfl
 |.junk=>rfl
 |.ref _ _=>rfl
 |.ptr _=>rfl
 |.full _=>rfl
 |.rsl _ _ _ _=>rfl
 |.mp _=>rfl
def M14 (ps:List Nat):∀l:List A,dgL ps (dgL ps l)=dgL ps l
 |[]=>rfl
 |x::r=>by simp only[dgL,T18 ps x,M14 ps r]
end
mutual
def C20 (ps:List Nat):∀x:A,LeA (dg ps x) x
 |.osl o r=>by simp only[dg];cases ps.contains o<;>first|exact .rfl|exact .osl
 |.clo _ b=>.clo (Vv ps b).1 (Vv ps b).2
 |.bnd _ b=>.bnd (Vv ps b).1 (Vv ps b).2
 |.agg b=>.agg (Vv ps b).1 (Vv ps b).2
 |.tup b=>.tup (Vv ps b).1 (Vv ps b).2
 |.vsl o=>by simp only[dg];cases ps.contains o<;>first|exact .rfl|exact .junk
 |.vel o _=>by simp only[dg];cases ps.contains o<;>first|exact .rfl|exact .junk
 |.d _=>.rfl
 |.junk=>.rfl
 |.ref _ _=>.rfl
 |.ptr _=>.rfl
 |.full _=>.rfl
 |.rsl _ _ _ _=>.rfl
 |.mp _=>.rfl
def Vv (ps:List Nat):∀l:List A,(dgL ps l).length=l.length/\∀(i:Nat) x y,(dgL ps l)[i]?=some x->l[i]?=some y->LeA x y
 |[]=>⟨rfl,λi x y h=>by simp[dgL]at h⟩
 |z::r=>⟨by simp only[dgL,zqd,(Vv ps r).1],λi x y h h'=>by
  cases i with
  |zero=>simp only[dgL,List.getElem?_cons_zero,zqb]at h h';subst h;subst h';exact C20 ps z
  |succ i=>simp only[dgL,List.getElem?_cons_succ]at h h';exact(Vv ps r).2 i x y h h'⟩
end
def dgV:List Nat->A->A
 |[],x=>x
 |p::r,x=>dg (p::r) x
def D1k (ps:List Nat)(x:A):dgV ps x=dg ps x:=by
 cases ps with
 |nil=>exact(A1k x).symm
 |cons=>rfl
def dgE:List Nat->Env->Env
 |[],e=>e
 |p::r,e=>λt=>dg (p::r) (e t)
def E1k (ps:List Nat)(e:Env):(λt=>dg ps (e t))=dgE ps e:=by
 cases ps with
 |nil=>funext t;exact A1k _
 |cons=>rfl
def Qp (F:Fx)(L:List Oper)(o:Oper)(env:Env)(tk:List Nat)(H:F0)(x:A)(H':F0):Prop:=
 ∀env' K,(∀t∈Gb L o,env' t=env t)->(∀t,dg tk (env' t)=env' t)->∀Q:Env->F0->Prop,Q (put env' o.dst x) H'->K0 ⟨F.C,F.N,K,Z15,D11⟩ L [o] env' H Q
def V11 (ps:List Nat):Nat->F0->F0
 |_,[]=>[]
 |n,x::r=>(bif ps.contains n then .dead else x)::V11 ps (n+1) r
def J3 (ps:List Nat)(H:F0):F0:=V11 ps 0 H
def F1k {ps:List Nat}:∀{H:F0} {k n:Nat},(V11 ps k H)[n]?=(H[n]?).map λx=>bif ps.contains (k+n)then Ob.dead else x
 |[],k,n=>by simp[V11]
 |x::r,k,0=>by simp[V11]
 |x::r,k,n+1=>by
  simp only[V11,List.getElem?_cons_succ];rw[F1k,show k+1+n=k+(n+1) by omega]
def O7 {n:Nat}:(J3 ps H)[n]?=(H[n]?).map λx=>bif ps.contains n then Ob.dead else x:=by
 unfold J3;rw[F1k,Nat.zero_add]
def I9 :(J3 ps H).length=H.length:=by
 have b:∀(H:F0) (k:Nat),(V11 ps k H).length=H.length:=by
  intro H
  induction H with
  |nil=>intro k;rfl
  |cons x r c=>intro k;simp only[V11,zqd,c]
 exact b H 0
def K1a:J3 [] H=H:=by
 apply List.ext_getElem?;intro n;rw[O7];cases H[n]?<;>simp
def E1n {GL:GT}(h:∀y∈o.op.operands,ev GL env' y=ev GL env y):Yl GL env' o=Yl GL env o:=by
 unfold Yl;split
 ·rename_i r b u d;rw[d]at h;rw[h r (by simp[Op.operands,Call.operands])];have:b.toList.map (ev GL env')=b.toList.map (ev GL env):=List.map_congr_left λy c=>h y (by simp only[Op.operands,Call.operands,Array.mem_append];exact .inr (by simpa using c));rw[this]
 ·rfl
def H1w {C:Cx}(h:∀t∈Gb L o,env' t=env t):Ad C L o env'=Ad C L o env:=by
 unfold Ad;rw[Ar h,E1n λy b=>O10 λt c=>h t (by
  subst c;simp only[Gb,List.mem_append,List.mem_filterMap];exact .inl ⟨.tmp t,by simpa using b,rfl⟩)]
def W11:∀l:List A,Xr l=some l
 |[]=>rfl
 |x::r=>by simp only[Xr,W11 r]
def C1p:∀l:List D,R1h l=some l
 |[]=>rfl
 |x::r=>by simp only[R1h,C1p r]
def N26 (x:A):frc x=some x:=by
 cases x with
 |d y=>cases y<;>rfl
 |ptr b=>simp only[frc,C1p]
 |clo f b=>simp only[frc,W11]
 |bnd f b=>simp only[frc,W11]
 |agg b=>simp only[frc,W11]
 |tup b=>simp only[frc,W11]
 |_=>rfl
def D1p:∀l:List A,W1h l=some l
 |[]=>rfl
 |x::r=>by simp only[W1h,N26,D1p r]
def M1d:∀H:F0,R9 H=some H
 |[]=>rfl
 |x::r=>by
  have b:=M1d r;cases x<;>simp only[R9,D1p,b]
def Qp.g {F:Fx}{L:List Oper}{o:Oper}{env:Env}{H H':F0}{d:Option Nat}{g:FuncId}{xs:List A}{x y:A}(idx:List Nat){c:List A}{cH b:F0}{un tk:List Nat}
  (hc:B4 F.C g c cH (Ret b x)) (h:Ad F.C L o env=some (d,g,xs)) (hx:Hb (K3 idx H.length) c=xs) (hi:Ep idx H.length=true) (hm:Yr H idx=Yw (K3 idx H.length) cH)
  (Z:((S4 idx cH).all λp=>tk.contains p)=true) (hr:frc (ren (K3 idx H.length) x)=some y) (hH:R9 (Aa H idx (K3 idx H.length) (S4 idx cH) b)=some H')
  (B:(idx.all (λp=>!un.contains p)&&un.all (λp=>Nat.blt p H.length)&&Nat.ble idx.length b.length)=true) :
  ∀ps:List Nat,(∀p∈ps,p∈un)->Qp F L o env tk (J3 ps H) y (J3 ps H'):=by
 simp only[zqi,List.all_eq_true]at B;obtain⟨⟨u1,u2⟩,u3⟩:=B;have u3:=Nat.le_of_ble_eq_true u3;intro ps v env' K he V Q J;have h':=h;rw[<-H1w he]at h';have hd:=(Ze h).2.2;have u:∀p∈idx,ps.contains p=false:=λp T=>by
  have:=u1 p T;cases hb:ps.contains p with
  |false=>rfl
  |true=>
   have O:=v p (by simpa using hb);have h2:un.contains p=true:=by simpa using O
   rw[h2]at this;cases this
 have D:∀l:List Nat,(∀p∈l,p∈idx)->Yr (J3 ps H) l=Yr H l:=by
  intro l
  induction l with
  |nil=>intro _;rfl
  |cons p r ih=>
   intro Y;simp only[Yr];rw[ih λq J=>Y q (zqq _ J),Q2,Q2,O7];have:=u p (Y p zqp);cases H[p]? with
   |none=>rfl
   |some z=>simp only[zqt,this,zql]
 have I:Aa (J3 ps H) idx (K3 idx H.length) (S4 idx cH) b=J3 ps (Aa H idx (K3 idx H.length) (S4 idx cH) b):=by
  apply List.ext_getElem?;intro n;rw[B1a u3,O7,O7,B1a u3,I9];by_cases hn:n<H.length
  ·rw[zp hn,zp hn];cases hf:fnd idx n with
   |none=>
    simp only;cases H[n]? with
    |none=>rfl
    |some z=>
     simp only[zqt];cases ps.contains n<;>rfl
   |some i=>
    simp only;have X:n∈idx:=List.mem_of_getElem? (Oq hf);cases b[i]? with
    |none=>rfl
    |some z=>simp only[zqt,u n X,zql]
  ·rw[zn hn,zn hn];have:ps.contains n=false:=by
    cases hb:ps.contains n with
    |false=>rfl
    |true=>
     have O:=v n (by simpa using hb);have:=Nat.le_of_ble_eq_true (u2 n O);exact absurd this hn
   cases b[idx.length+(n-H.length)]? with
   |none=>rfl
   |some z=>simp only[zqt,this,zql]
 have U:=Mg hH;refine g' idx hc h' (by rw[I9];exact hx) (by rw[I9];exact hi) (by rw[I9,D idx λ_ h=>h];exact hm) (by rw[I9];exact hr) (H':=J3 ps H') ?_ (K0.nil ?_)
 ·rw[I9,I,<-U];exact M1d _
 ·rw[show(λt=>dg (S4 idx cH) (env' t))=env' from by funext t;exact Y22 (λp T=>by have:=List.all_eq_true.1 Z p T;simpa using this) _ (V t)];rw[<-hd];exact J
def loN (L:List Oper)(ls:List Nat)(j:Nat):Nat:=(ls.filter λl=>Mm L L.length j l).length
def hiN (L:List Oper)(ls:List Nat)(j:Nat):Nat:=(ls.filter λl=>!Mm L L.length l j).length
def Jk:List (Nat×Nat)->Nat->Option Nat
 |[],_=>none
 |q::r,j=>bif Nat.beq q.1 j then some q.2 else Jk r j
def unw (L:List Oper):List (Nat×Nat)->Nat->List Nat
 |[],_=>[]
 |q::r,j=>bif Mm L L.length j q.1 then unw L r j else q.2::unw L r j
def N1s (F:Fx)(L:List Oper)(o:Oper)(env:Env)(t:TypeId)(cs:List A):Prop:=
 ∀env' H M G w (a:Act),(∀u∈Gb L o,env' u=env u)->St F.C F.N M G w env' H a->∃vs,Wl M G cs vs/\(execOp a.eval o).run F.C.P w = .ok (.value (.pointer (some ⟨w.heap.size,0,none⟩))) (w.alloc (.cells vs t))
def AS (F:Fx)(L:List Oper)(ls:List Nat)(fs:List (Nat×Nat))(Hs:List F0)(tk:List Nat):Nat->Nat->List Oper->Env->(Env->Prop)->Prop
 |_,_,[],env,Q=>Q env
 |j,i,o::r,env,Q=>
  (∃d x,o.dst=d/\ls.contains j=false/\Jk fs j=none/\(∀H∈Hs.drop (loN L ls j),∀ps:List Nat,(∀p∈ps,p∈unw L fs j)->G11 F.C L o env (J3 ps H) x)/\dg tk x=x/\AS F L ls fs Hs tk (j+1) i r (put env d x) Q)\/
  (∃x H H',nth ls i=some j/\Jk fs j=none/\K1 L env o=some true/\nth Hs i=some H/\nth Hs (i+1)=some H'/\(∀ps:List Nat,(∀p∈ps,p∈unw L fs j)->Qp F L o env tk (J3 ps H) x (J3 ps H'))/\dg tk x=x/\
   AS F L ls fs Hs tk (j+1) (i+1) r (put env o.dst x) Q)\/
  (∃t cs p,Jk fs j=some p/\ls.contains j=false/\K1 L env o=some true/\N1s F L o env t cs/\(∀H∈Hs.take (hiN L ls j+1),nth H p=some (.row cs t))/\AS F L ls fs Hs tk (j+1) i r (put env o.dst (.ref p 0)) Q)
def O1s (L:List Oper)(ls:List Nat)(n:Nat):Bool:=
 (List.range ls.length).all λi=>(match nth ls i with|some j=>Nat.blt j n|none=>true)&&(List.range i).all λk=>match nth ls i,nth ls k with|some j,some l=>Nat.blt l j&&Mm L L.length j l|_,_=>true
def I1w {n:Nat}(h:O1s L ls n=true):(∀l∈ls,l<n)/\∀(s k j l:Nat),ls[s]?=some j->ls[k]?=some l->k<s->l<j/\Mm L L.length j l=true:=by
 unfold O1s at h;refine⟨λl x=>?_,λs k j l u v c=>?_⟩
 ·obtain⟨i,r⟩:=List.getElem?_of_mem x;have b:=List.all_eq_true.1 h i (List.mem_range.2 (zqu.1 r).1);simp only[zqi,Q2,r]at b;exact Nat.le_of_ble_eq_true b.1
 ·have b:=List.all_eq_true.1 h s (List.mem_range.2 (zqu.1 u).1);simp only[zqi]at b;have d:=List.all_eq_true.1 b.2 k (List.mem_range.2 c);simp only[Q2,u,v,zqi]at d;exact⟨Nat.le_of_ble_eq_true d.1,d.2⟩
def D8 (ls:List Nat)(listed:Array Bool):Nat:=(ls.filter λl=>listed.getD l false).length
def P1s (h:∀l∈ls,listed.getD l false=true):D8 ls listed=ls.length:=by
 unfold D8;rw[List.filter_eq_self.2 h]
def Z22 (h:∀l,listed.getD l false=false):D8 ls listed=0:=by
 unfold D8;rw[List.filter_eq_nil_iff.2 λl _=>by rw[h l];simp];rfl
def N1d (h:j∉ls):D8 ls (listed.setIfInBounds j true)=D8 ls listed:=by
 unfold D8;congr 1;refine List.filter_congr λl b=>?_;exact getD_set_ne false (λe=>h (by rw[e];exact b))
def J1x:∀{ls:List Nat} {listed:Array Bool} {s j:Nat},ls[s]?=some j->(∀(k l:Nat),k<s->ls[k]?=some l->listed.getD l false=true)->(∀(k l:Nat),s<=k->ls[k]?=some l->listed.getD l false=false)->D8 ls listed=s
 |[],_,s,j,h,_,_=>by simp at h
 |x::r,listed,0,j,h,u,c=>by
  unfold D8;rw[List.filter_eq_nil_iff.2 λl b=>by
   obtain⟨k,d⟩:=List.getElem?_of_mem b;rw[c k l (Nat.zero_le _) d];simp]
  rfl
 |x::r,listed,s+1,j,h,u,c=>by
  have v:=J1x (ls:=r) (listed:=listed) (s:=s) (j:=j) (by simpa using h) (λk l d b=>u (k+1) l (by omega) (by simpa using b)) (λk l d b=>c (k+1) l (by omega) (by simpa using b));unfold D8 at v⊢;have y:=u 0 x (by omega) rfl;rw[List.filter_cons,zp y,zqd,v]
def Q1s:∀{ls:List Nat} {listed:Array Bool} {s j:Nat},(∀(a b x y:Nat),ls[a]?=some x->ls[b]?=some y->a<b->x<y)->ls[s]?=some j->listed.getD j false=false->j<listed.size->D8 ls (listed.setIfInBounds j true)=D8 ls listed+1
 |[],_,s,j,_,h,_,_=>by simp at h
 |x::r,listed,0,j,c,h,u,v=>by
  simp only[List.getElem?_cons_zero,zqb]at h;subst h;have J:x∉r:=λI=>by
   obtain⟨k,B⟩:=List.getElem?_of_mem I;have:=c 0 (k+1) x x rfl (by simpa using B) (by omega);omega
  have:=N1d (listed:=listed) J;unfold D8 at this⊢;rw[List.filter_cons,List.filter_cons,zp (by simp[v]),zn (by rw[u];simp),zqd,this]
 |x::r,listed,s+1,j,c,h,u,v=>by
  have D:x<j:=c 0 (s+1) x j rfl h (by omega);have d:=Q1s (ls:=r) (listed:=listed) (s:=s) (j:=j) (λa b x y T O U=>c (a+1) (b+1) x y (by simpa using T) (by simpa using O) (by omega)) (by simpa using h) u v;unfold D8 at d⊢;have z:(listed.setIfInBounds j true).getD x false=listed.getD x false:=getD_set_ne false (by omega);rw[List.filter_cons,List.filter_cons,z];split
  ·rw[zqd,zqd,d]
  ·exact d
def R1s (F:Fx)(L:List Oper)(ls:List Nat)(fs:List (Nat×Nat))(Hs:List F0)(tk:List Nat)(i:Nat)(o:Oper)(env:Env)(x:A):Prop:=
 (ls.contains i=false/\Jk fs i=none/\∀H∈Hs.drop (loN L ls i),∀ps:List Nat,(∀p∈ps,p∈unw L fs i)->G11 F.C L o env (J3 ps H) x)\/
 (∃s H H',ls[s]?=some i/\Jk fs i=none/\K1 L env o=some true/\Hs[s]?=some H/\Hs[s+1]?=some H'/\∀ps:List Nat,(∀p∈ps,p∈unw L fs i)->Qp F L o env tk (J3 ps H) x (J3 ps H'))\/
 (∃t cs p,Jk fs i=some p/\ls.contains i=false/\K1 L env o=some true/\N1s F L o env t cs/\(∀H∈Hs.take (hiN L ls i+1),nth H p=some (.row cs t))/\x = .ref p 0)
def AS.outs {fs:List (Nat×Nat)}{Hs:List F0}{tk:List Nat}{Q:Env->Prop}{n:Nat}(hn:n<=L.length)(h:AS F L ls fs Hs tk 0 0 (L.take n) env Q) :
  ∃c:Nat->A,(∀i o,i<n->L[i]?=some o->R1s F L ls fs Hs tk i o (L5 L env c (λ_=>true) i) (c i))/\(∀i,i<n->dg tk (c i)=c i)/\Q (L5 L env c (λ_=>true) n):=by
 have V:∀(m k s:Nat) (b:Nat->A),k+m=n->(∀i o,i<k->L[i]?=some o->R1s F L ls fs Hs tk i o (L5 L env b (λ_=>true) i) (b i))->(∀i,i<k->dg tk (b i)=b i)->
   AS F L ls fs Hs tk k s ((L.take n).drop k) (L5 L env b (λ_=>true) k) Q->
   ∃c:Nat->A,(∀i o,i<n->L[i]?=some o->R1s F L ls fs Hs tk i o (L5 L env c (λ_=>true) i) (c i))/\(∀i,i<n->dg tk (c i)=c i)/\Q (L5 L env c (λ_=>true) n):=by
  intro m
  induction m with
  |zero=>
   intro k s b hk h0 y I;have:k=n:=by omega
   subst this;rw[List.drop_eq_nil_of_le (by simp;omega)]at I;exact⟨b,h0,y,I⟩
  |succ m ih=>
   intro k s b hk h0 y I;have a2:k<n:=by omega
   have a1:k<L.length:=by omega
   have e:(L.take n).drop k=L[k]::(L.take n).drop (k+1):=by
    rw[List.drop_eq_getElem_cons (by simp;omega)];simp
   rw[e]at I;have J:L[k]?=some L[k]:=zqv a1
   have X:∀(x:A) (s':Nat),R1s F L ls fs Hs tk k L[k] (L5 L env b (λ_=>true) k) x->dg tk x=x->
     AS F L ls fs Hs tk (k+1) s' ((L.take n).drop (k+1)) (put (L5 L env b (λ_=>true) k) (L[k]).dst x) Q->
     ∃c:Nat->A,(∀i o,i<n->L[i]?=some o->R1s F L ls fs Hs tk i o (L5 L env c (λ_=>true) i) (c i))/\(∀i,i<n->dg tk (c i)=c i)/\Q (L5 L env c (λ_=>true) n):=by
    intro x s' z v r
    let out1:Nat->A:=λi=>if i=k then x else b i
    have u:∀i,i<=k->L5 L env out1 (λ_=>true) i=L5 L env b (λ_=>true) i:=by
     intro i T;funext t;simp only[L5];cases Y:W9 L (λ_=>true) t i with
     |none=>rfl
     |some j=>
      have:=(I13 Y).1;simp only[out1];rw[zn (by omega)]
    refine ih (k+1) s' out1 (by omega) (λi o T O=>?_) (λi T=>?_) ?_
    ·by_cases hik:i=k
     ·subst hik;rw[J]at O;simp only[zqb]at O;subst O;rw[u i (zqr _)];simpa[out1]using z
     ·rw[u i (by omega)];have:=h0 i o (by omega) O;simpa[out1,hik]using this
    ·by_cases hik:i=k
     ·simp only[out1,zp hik];exact v
     ·simp only[out1,zn hik];exact y i (by omega)
    ·rw[T1z J,u k (zqr _)];simpa[out1]using r
   rcases I with⟨d,x,hd,B,U,z,v,r⟩|⟨x,H,H',h1,Z,hw,h2,h3,Y,v,r⟩|⟨t,cs,p,Z,B,hw,a0,D,r⟩
   ·exact X x s (.inl ⟨B,U,z⟩) v (by rw[hd];exact r)
   ·rw[Q2]at h1 h2 h3;exact X x (s+1) (.inr (.inl ⟨s,H,H',h1,Z,hw,h2,h3,Y⟩)) v r
   ·exact X _ s (.inr (.inr ⟨t,cs,p,Z,B,hw,a0,D,rfl⟩)) rfl r
 exact V n 0 0 (λ_=>.junk) (by omega) (λi o T=>by omega) (λi T=>by omega) (by simpa[S1z]using h)
def unf (listed:Array Bool):List (Nat×Nat)->List Nat
 |[]=>[]
 |q::r=>bif listed.getD q.1 false then unf listed r else q.2::unf listed r
def Nu {listed:Array Bool}{p:Nat}:∀{fs:List (Nat×Nat)},p∈unf listed fs ↔ ∃q∈fs,q.2=p/\listed.getD q.1 false=false
 |[]=>by simp[unf]
 |q::r=>by
  simp only[unf];cases hq:listed.getD q.1 false with
  |true=>
   simp only[zqk,Nu (fs:=r),List.mem_cons];constructor
   ·rintro⟨x,h1,b⟩;exact⟨x,.inr h1,b⟩
   ·rintro⟨x,rfl|h1,b⟩
    ·rw[hq]at b;cases b.2
    ·exact⟨x,h1,b⟩
  |false=>
   simp only[zql,List.mem_cons,Nu (fs:=r)];constructor
   ·rintro(rfl|⟨x,h1,b⟩)
    ·exact⟨q,.inl rfl,rfl,hq⟩
    ·exact⟨x,.inr h1,b⟩
   ·rintro⟨x,rfl|h1,b⟩
    ·exact .inl b.1.symm
    ·exact .inr ⟨x,h1,b⟩
def F1n {L:List Oper}{j p:Nat}:∀{fs:List (Nat×Nat)},p∈unw L fs j ↔ ∃q∈fs,q.2=p/\Mm L L.length j q.1=false
 |[]=>by simp[unw]
 |q::r=>by
  simp only[unw];cases hq:Mm L L.length j q.1 with
  |true=>
   simp only[zqk,F1n (fs:=r),List.mem_cons];constructor
   ·rintro⟨x,h1,b⟩;exact⟨x,.inr h1,b⟩
   ·rintro⟨x,rfl|h1,b⟩
    ·rw[hq]at b;cases b.2
    ·exact⟨x,h1,b⟩
  |false=>
   simp only[zql,List.mem_cons,F1n (fs:=r)];constructor
   ·rintro(rfl|⟨x,h1,b⟩)
    ·exact⟨q,.inl rfl,rfl,hq⟩
    ·exact⟨x,.inr h1,b⟩
   ·rintro⟨x,rfl|h1,b⟩
    ·exact .inl b.1.symm
    ·exact .inr ⟨x,h1,b⟩
def E1p {j p:Nat}:∀{fs:List (Nat×Nat)},Jk fs j=some p->(j,p)∈fs
 |[],h=>by cases h
 |q::r,h=>by
  simp only[Jk]at h;cases hq:Nat.beq q.1 j with
  |true=>
   rw[hq]at h;obtain rfl:=zqo hq;simp only[zqk,zqb]at h;subst h;exact zqp
  |false=>rw[hq]at h;exact zqq _ (E1p h)
def O1d {j:Nat}:∀{fs:List (Nat×Nat)},Jk fs j=none->∀q∈fs,q.1≠j
 |[],_,q,b=>by cases b
 |x::r,h,q,b=>by
  simp only[Jk]at h;cases hx:Nat.beq x.1 j with
  |true=>rw[hx]at h;cases h
  |false=>
   rw[hx]at h;cases b with
   |head=>exact λe=>by rw[e]at hx;simp at hx
   |tail _ b=>exact O1d h q b
def Z1h {listed:Array Bool}{j:Nat}:∀{fs:List (Nat×Nat)},(∀q∈fs,q.1≠j)->unf (listed.setIfInBounds j true) fs=unf listed fs
 |[],_=>rfl
 |q::r,h=>by
  simp only[unf];rw[getD_set_ne false (Ne.symm (h q zqp)),Z1h λx b=>h x (zqq _ b)]
def S1s (fs:List (Nat×Nat))(n K N:Nat):Bool:=
 I14 (fs.map (·.1))&&I14 (fs.map (·.2))&&fs.all λq=>Nat.blt q.1 n&&Nat.ble K q.2&&Nat.blt q.2 N
def J1w {fs:List (Nat×Nat)}{n K N:Nat}(h:S1s fs n K N=true):(∀q∈fs,q.1<n/\K<=q.2/\q.2<N)/\∀q∈fs,∀q'∈fs,(q.1=q'.1\/q.2=q'.2)->q=q':=by
 simp only[S1s,zqi,List.all_eq_true]at h;obtain⟨⟨D,B⟩,v⟩:=h;have z:=Pr D;have k2:=Pr B;refine⟨λq c=>⟨Nat.le_of_ble_eq_true (v q c).1.1,Nat.le_of_ble_eq_true (v q c).1.2,Nat.le_of_ble_eq_true (v q c).2⟩,?_⟩;have u:∀{f:Nat×Nat->Nat} {l:List (Nat×Nat)},(l.map f).Nodup->∀q∈l,∀q'∈l,f q=f q'->q=q':=by
  intro f l
  induction l with
  |nil=>intro _ q c;cases c
  |cons x r y=>
   intro d q c q' b he;rw[List.map_cons,List.nodup_cons]at d;cases c with
   |head=>
    cases b with
    |head=>rfl
    |tail _ b=>exact absurd (by rw[he];exact List.mem_map_of_mem b) d.1
   |tail _ c=>
    cases b with
    |head=>exact absurd (by rw[<-he];exact List.mem_map_of_mem c) d.1
    |tail _ b=>exact y d.2 q c q' b he
 intro q c q' b he;rcases he with he|he
 ·exact u z q c q' b he
 ·exact u k2 q c q' b he
def St.fillRow {C:Cx}{w:World}{a:Act}(h:St C N M G w env H a)(hd:∀d,dst=some d->d<N){elem:TypeId}{p:Nat}
  (hp:H[p]?=some .dead) (hg:G p = .tuple #[]) (hc:Wl M G cs vs) (hl:H'.length=H.length) (X:∀n,H'[n]?=if n=p then some (.row cs elem)else H[n]?) :
  St C N M (I3 G p (.pointer (some ⟨w.heap.size,0,none⟩))) (w.alloc (.cells vs elem)) (put env dst (.ref p 0)) H' (a.put dst (.pointer (some ⟨w.heap.size,0,none⟩))):=by
 have r:∀{x:A} {v:Value},A1 M G x v->A1 M (I3 G p (.pointer (some ⟨w.heap.size,0,none⟩))) x v:=λhr=>hr.mono (λ_ _ e=>e) λo hn=>P1 (λe=>hr.names hn (by rw[e];exact hg));obtain⟨h1,h2,h3⟩:=Np (λt=>r (h.env t)) h.size hd (x:=.ref p 0) (v:=.pointer (some ⟨w.heap.size,0,none⟩)) (.ref C2);have a2:p<H.length:=(zqu.1 hp).1;refine⟨h.good.alloc _,h.gl.ext h.hrel (Od W5 _ _ _) (λ_ h=>h.elim),⟨λo x u=>?_,λo o' x x' b u D z a1=>?_,λo u=>?_⟩,h1,h2,h3.trans h.defers⟩
 ·rw[X]at u;by_cases hop:o=p
  ·rw[zp hop]at u;cases u;subst hop;rw[C2];exact⟨w.heap.size,vs,rfl,heap_alloc_new w _,Nat.le_of_eq hc.1,hc.2.1,λi x v a b=>r (hc.2.2 i x v a b),λa0 sp=>by
    cases hM:M ⟨w.heap.size,a0,sp⟩with
    |none=>rfl
    |some v=>have:=h.good.lt hM;simp at this⟩
  ·rw[zn hop]at u;rw[P1 hop];have J:=h.hrel.obj o x u;have B:M5 M G (w.alloc (.cells vs elem)) x (G o):=J.keep (λ_ _ e=>e) (by simp) (λb z=>heap_alloc_old w _ b (V7 J z)) (λ_ _ _ _ e=>e);cases x with
   |dead=>trivial
   |row Z e=>
    obtain⟨b,us,V,U,Y,I,O,g6⟩:=B;exact⟨b,us,V,U,Y,I,λi y v a c=>r (O i y v a c),g6⟩
   |tok e sz=>exact B
   |rok e sz=>exact B
   |gone=>exact B
   |map es=>
    obtain⟨b,ms,cl,V,U,Y,I,O⟩:=B;exact⟨b,ms,cl,V,U,Y,λi k cs e a c=>⟨(I i k cs e a c).1,r (I i k cs e a c).2⟩,O⟩
   |bld o' e=>
    obtain⟨b,v0,V,U,Y,I,O⟩:=B;have D:o'≠p:=λe=>I _ (by rw[e];exact hg);exact⟨b,v0,V,by rw[P1 D];exact U,Y,by rw[P1 D];exact I,O⟩
   |buf e sz=>exact B
   |vec e sz cs=>exact B
   |slots γ e l=>exact B
 ·have T:∀(o:Nat) x b,H'[o]?=some x->blk x (I3 G p (.pointer (some ⟨w.heap.size,0,none⟩)) o) b->(o≠p/\H[o]?=some x/\blk x (G o) b/\b<w.heap.size)\/(o=p/\b=w.heap.size):=by
   intro o x b u z;rw[X]at u;by_cases hop:o=p
   ·rw[zp hop]at u;cases u;subst hop;rw[C2]at z;simp[blk]at z;exact .inr ⟨rfl,z.symm⟩
   ·rw[zn hop]at u;rw[P1 hop]at z;exact .inl ⟨hop,u,z,V7 (h.hrel.obj o x u) z⟩
  rcases T o x b u z with⟨q1,q2,q3,q4⟩|⟨q1,q2⟩<;>rcases T o' x' b D a1 with⟨p1,p2,p3,p4⟩|⟨p1,p2⟩
  ·exact h.hrel.apart o o' x x' b q2 p2 q3 p3
  ·omega
  ·omega
  ·omega
 ·rw[hl]at u;rw[P1 (by omega)];exact h.hrel.fresh o u
def D2.fillRow {w:World}(h:D2 fr M G w H){elem:TypeId}{p:Nat}(J:fr.H0.length<=p)(D:p<H.length)(B:H'.length=H.length)
  (u:∀n,H'[n]?=if n=p then some (.row cs elem)else H[n]?):D2 fr M (I3 G p (.pointer (some ⟨w.heap.size,0,none⟩))) (w.alloc (.cells vs elem)) H':=by
 have r:∀{o:Nat} {x:Ob},fr.H0[o]?=some x->o≠p:=λc e=>by have:=(zqu.1 c).1;omega
 refine⟨h.ext.trans (Od W5 _ _ _) (λ_ h=>h.elim),λb I=>?_,by rw[B];exact h.len,λo x c v=>?_,λo x y c v z=>?_⟩
 ·obtain⟨o,x,c,d⟩:=I;rw[u]at c;by_cases hop:o=p
  ·rw[zp hop]at c;cases c;subst hop;rw[C2]at d;simp[blk]at d;subst d;exact .inr h.ext.size
  ·rw[zn hop]at c;rw[P1 hop]at d;exact h.own b ⟨o,x,c,d⟩
 ·rw[P1 (r c)];exact h.keep o x c v
 ·rw[u,zn (r c)]at z;exact h.kind o x y c v z
def St.pad {C:Cx}{w:World}{a:Act}(h:St C N M G w env H a)(k:Nat):St C N M G w env (H++List.replicate k .dead) a:=by
 have d:∀(o:Nat) x,(H++List.replicate k Ob.dead)[o]?=some x->H[o]?=some x\/x = .dead:=λo x c=>by
  by_cases hlt:o<H.length
  ·rw[zqx hlt]at c;exact .inl c
  ·rw[List.getElem?_append_right (by omega),List.getElem?_replicate]at c;split at c
   ·cases c;exact .inr rfl
   ·cases c
 refine⟨h.good,h.gl,⟨λo x c=>?_,λo o' x y b c u z r=>?_,λo c=>h.hrel.fresh o (by simp at c;omega)⟩,h.env,h.size,h.defers⟩
 ·rcases d o x c with v|rfl
  ·exact h.hrel.obj o x v
  ·trivial
 ·rcases d o x c with v|rfl
  ·rcases d o' y u with B|rfl
   ·exact h.hrel.apart o o' x y b v B z r
   ·simp[blk]at r
  ·simp[blk]at z
def D2.pad {w:World}(h:D2 fr M G w H)(k:Nat):D2 fr M G w (H++List.replicate k .dead):=by
 refine⟨h.ext,λb z=>?_,by simp;have:=h.len;omega,h.keep,λo x y c v r=>?_⟩
 ·obtain⟨o,x,c,u⟩:=z;by_cases d:o<H.length
  ·rw[zqx d]at c;exact h.own b ⟨o,x,c,u⟩
  ·rw[List.getElem?_append_right (by omega),List.getElem?_replicate]at c;split at c
   ·cases c;simp[blk]at u
   ·cases c
 ·have d:o<H.length:=Nat.lt_of_lt_of_le (zqu.1 c).1 h.len;rw[zqx d]at r;exact h.kind o x y c v r
def D2.step {G':Nat->Value}{w z:World}(h:D2 fr M G w H)(h':D2 ⟨H,G,M,w⟩ M' G' z H'):D2 fr M' G' z H':=by
 refine⟨h.ext.trans h'.ext (λb v=>h.own b v),λb v=>?_,Nat.le_trans h.len h'.len,λo x d u=>?_,λo x y d u B=>?_⟩
 ·rcases h'.own b v with h1|h1
  ·exact h.own b h1
  ·exact .inr (Nat.le_trans h.ext.size h1)
 ·have c:o<H.length:=Nat.lt_of_lt_of_le (zqu.1 d).1 h.len;have r:=zqv c;exact(h'.keep o _ r (h.kind o x _ d u r)).trans (h.keep o x d u)
 ·have c:o<H.length:=Nat.lt_of_lt_of_le (zqu.1 d).1 h.len;have r:=zqv c;exact h'.kind o _ y r (h.kind o x _ d u r) B
def D2.refl {M:Mem}{G:Nat->Value}{w:World}{H:F0}:D2 ⟨H,G,M,w⟩ M G w H:=
 ⟨Ext.refl _ _ _,λ_ d=>.inl d,zqr _,λ_ _ _ _=>rfl,λo x y c r b=>by
  have:x=y:=Option.some.inj (c.symm.trans b);rwa[<-this]⟩
def F1p {fs:List (Nat×Nat)}(h:∀q∈fs,listed.getD q.1 false=true):unf listed fs=[]:=by
 rw[List.eq_nil_iff_forall_not_mem];intro p d;obtain⟨q,c,_,b⟩:=Nu.1 d;rw[h q c]at b;cases b
def AEx.drawL (hC:T1 F.C){id:Nat}{Q:Po}(n:Nat)(ls:List Nat)(fs:List (Nat×Nat))(Hs:List F0)(tk:List Nat)(hd:L.all (Hk F.N)=true)(k7:H14 L n=true)(j8:Nat.ble n L.length=true)(j1:O1s L ls n=true)
  {H0:F0} (f6:nth Hs 0=some H0) (j9:S1s fs n H.length H0.length=true) (d7:J3 (fs.map (·.2)) H0=H++List.replicate fs.length .dead) (j7:(Hs.all λK=>Nat.ble H0.length K.length)=true) (l5:Hs.length=ls.length+1) {Hm:F0} (g3:nth Hs ls.length=some Hm)
  (h:AS F L ls fs Hs tk 0 0 (L.take n) (dgE tk env) (λenv'=>K0 F L (L.drop n) env' Hm (Ik Q))):AEx F (.region id L.toArray true) env H Q:=by
 obtain⟨c1,h7⟩:=J1w j9;have hn:=Nat.le_of_ble_eq_true j8;have b1:∀(i:Nat) o,L[i]?=some o->Hk F.N o=true:=λi o ho=>List.all_eq_true.1 hd o (List.mem_of_getElem? ho);have hE:∀t,dg tk (dgE tk env t)=dgE tk env t:=λt=>by rw[<-E1k];exact T18 tk _
 have b8:∀{M:Mem} {G:Nat->Value} {w:World} {a9:Act},St F.C F.N M G w env H a9->St F.C F.N M G w (dgE tk env) H a9:=λD=>
  ⟨D.good,D.gl,D.hrel,λt=>by rw[<-E1k];exact(C20 tk _).rel (D.env t),D.size,D.defers⟩
 suffices h':AEx F (.region id L.toArray true) (dgE tk env) H Q from λfr M G w a9 hK D T=>h' fr M G w a9 hK (b8 D) T
 clear b8;generalize dgE tk env=env at h hE⊢;obtain⟨B,f4,f9,hQ⟩:=h.outs hn;have f8:∀(P:Nat->Bool) t,dg tk (L5 L env B P n t)=L5 L env B P n t:=λP t=>by
  simp only[L5];cases J:W9 L P t n with
  |none=>exact hE t
  |some i=>exact f9 i (I13 J).1
 obtain⟨c3,a4⟩:=D1w k7;obtain⟨g7,e9⟩:=I1w j1
 let Hf:Nat->F0:=λk=>(Hs[k]?).getD []
 have c5:∀k,k<=ls.length->Hs[k]?=some (Hf k):=λk U=>by
  have V:k<Hs.length:=by omega
  simp only[Hf,zqv V,Option.getD_some]
 rw[Q2]at f6 g3;have g1:Hf 0=H0:=by simp only[Hf,f6,Option.getD_some]
 have g4:Hf ls.length=Hm:=by simp only[Hf,g3,Option.getD_some]
 have h4:∀k,k<=ls.length->∀p,p<H0.length->p<(Hf k).length:=λk U p hp=>by
  have:=Nat.le_of_ble_eq_true (List.all_eq_true.1 j7 _ (List.mem_of_getElem? (c5 k U)));omega
 intro fr M G w a9 hK D T;have j4:=T.len
 let Qw:Exit->Act->World->Prop:=Fin F fr Q
 have i1:L.toArray.size=L.length:=by simp
 have e4:∀(m k:Nat) (listed:Array Bool) (a:Act) (w:World),k+m=L.length->n<=k->U1z L n listed->(∀i,i<k->listed.getD i false=true)->(∀i,k<=i->i<L.length->listed.getD i true=false)->
   wpList F.C.P L.toArray Qw (L.drop k) a w->wpAny F.C.P .any L.toArray Qw m listed a w:=by
  intro m
  induction m with
  |zero=>
   intro k listed a w U _ X h1 _ hw;have Y:k=L.length:=by omega
   have d2:Region.ready .any L.toArray listed=[]:=by
    rw[List.eq_nil_iff_forall_not_mem];intro j hj;obtain⟨hu,o,ho,_⟩:=mem_ready.1 hj;have l4:j<L.length:=by simpa using(Array.getElem?_eq_some_iff.1 ho).1
    have:=h1 j (by omega);rw[Pp hu]at this;cases this
   rw[List.drop_eq_nil_of_le (by omega)]at hw;exact⟨d2,hw⟩
  |succ m ih=>
   intro k listed a w U l0 X h1 h2 hw;have a6:k<L.length:=by omega
   have g2:L[k]?=some L[k]:=zqv a6;have g6:k∈Region.ready .any L.toArray listed:=mem_ready.2 ⟨h2 k (zqr _) a6,L[k],(by simp[a6]),λe he I=>h1 e.on (c3 k _ g2 e he I)⟩;refine⟨λh0=>(by rw[h0]at g6;cases g6),λj hj=>?_⟩;obtain⟨hu,o,ho,u⟩:=mem_ready.1 hj;have b7:j<L.length:=by simpa using(Array.getElem?_eq_some_iff.1 ho).1
   have i8:j=k:=by
    rcases Nat.lt_trichotomy j k with V|he|hgt
    ·have:=h1 j V;rw[Pp hu]at this;cases this
    ·exact he
    ·have c2:=a4 k j hgt b7 (.inr (by omega));have:=Nr X.closed (by simpa using ho) (λe he I=>u e he I) L.length k c2;rw[Pp (h2 k (zqr _) a6)]at this;cases this
   subst i8;rw[List.drop_eq_getElem_cons a6]at hw;have i5:wpOp F.C.P L.toArray Qw j (wpList F.C.P L.toArray Qw (L.drop (j+1))) a w:=by
    unfold wpOp;simp only[List.getElem?_toArray,g2];exact hw
   refine wpOp_mono (λa' w' c2=>ih (j+1) _ a' w' (by omega) (by omega) ⟨by simp[X.size],λi o' a7 J e he I=>?_⟩ (λi hi=>?_) (λi hi b0=>?_) c2) i5
   ·by_cases hij:j=i
    ·subst hij;have:o'=o:=Option.some.inj (a7.symm.trans (by simpa using ho));subst this;exact getD_set_true (u e he I)
    ·rw[getD_set_ne false hij]at J;exact getD_set_true (X.closed i o' a7 J e he I)
   ·by_cases hij:j=i
    ·subst hij;simp[X.size,a6]
    ·rw[getD_set_ne false hij];exact h1 i (by omega)
   ·rw[getD_set_ne true (by omega)];exact h2 i (by omega) b0
 have h5:∀(m:Nat) (listed:Array Bool) (M:Mem) (G:Nat->Value) (w:World) (a:Act),listed.toList.count true+m=L.length->U1z L n listed->(∀i,n<=i->i<L.length->listed.getD i true=false)->
   (∀p∈unf listed fs,G p = .tuple #[])->St F.C F.N M G w (L5 L env B (λi=>listed.getD i false) n) (J3 (unf listed fs) (Hf (D8 ls listed))) a->D2 fr M G w (J3 (unf listed fs) (Hf (D8 ls listed)))->wpAny F.C.P .any L.toArray Qw m listed a w:=by
  intro m
  induction m with
  |zero=>
   intro listed M G w a hm X c7 b6 D T;have u:=V1z X.size (by omega);have l7:n=L.length:=by
    rcases Nat.lt_or_ge n L.length with h'|h'
    ·have:=u n h';rw[Pp (c7 n (zqr _) h')]at this;cases this
    ·omega
   have c4:L5 L env B (λi=>listed.getD i false) n=L5 L env B (λ_=>true) n:=by
    funext t;simp only[L5];rw[To λi hi _=>u i (by omega)]
   have hc:D8 ls listed=ls.length:=P1s λl J=>u l (by have:=g7 l J;omega);rw[hc,g4,F1p λq hq=>u q.1 (by have:=(c1 q hq).1;omega),K1a]at D T;rw[c4]at D;refine e4 0 n listed a w (by omega) (zqr _) X (λi hi=>u i (by omega)) (λi h1 h2=>by omega) ?_;exact hQ fr M G w a Qw hK (λo ho=>List.all_eq_true.1 hd o (List.mem_of_mem_drop ho)) D T N1z
  |succ m ih=>
   intro listed M G w a hm X c7 b6 D T;by_cases hdone:∀i,i<n->listed.getD i false=true
   ·
    have c4:L5 L env B (λi=>listed.getD i false) n=L5 L env B (λ_=>true) n:=by
     funext t;simp only[L5];rw[To λi hi _=>hdone i hi]
    have hc:D8 ls listed=ls.length:=P1s λl J=>hdone l (g7 l J);rw[hc,g4,F1p λq hq=>hdone q.1 (c1 q hq).1,K1a]at D T;rw[c4]at D;have i2:listed.toList.count true=n:=by
     have J:listed.toList=List.replicate n true++List.replicate (L.length-n) false:=by
      apply List.ext_getElem?;intro i;by_cases hi:i<n
      ·have hv:=hdone i hi;have b0:i<listed.size:=by rw[X.size];omega
       rw[zqx (by simpa using hi),List.getElem?_replicate,zp hi,Array.getElem?_toList];simpa[b0]using hv
      ·by_cases hi2:i<L.length
       ·have hv:=c7 i (by omega) hi2;have b0:i<listed.size:=by rw[X.size];omega
        rw[List.getElem?_append_right (by simp;omega),List.getElem?_replicate,zp (by simp;omega),Array.getElem?_toList];simpa[b0]using hv
       ·rw[List.getElem?_eq_none (by simp[X.size];omega),List.getElem?_eq_none (by simp;omega)]
     rw[J,List.count_append,List.count_replicate,List.count_replicate];simp
    refine e4 (m+1) n listed a w (by omega) (zqr _) X hdone c7 ?_;exact hQ fr M G w a Qw hK (λo ho=>List.all_eq_true.1 hd o (List.mem_of_mem_drop ho)) D T N1z
   ·
    have i3:∃i,i<n/\listed.getD i false=false/\∀k,k<i->listed.getD k false=true:=by
     have:∃i,i<n/\listed.getD i false=false:=by
      rcases Classical.em (∃i,i<n/\listed.getD i false=false)with h'|h'
      ·exact h'
      ·refine absurd (λi hi=>?_) hdone;cases hv:listed.getD i false with
       |true=>rfl
       |false=>exact absurd ⟨i,hi,hv⟩ h'
     obtain⟨i,hi⟩:=this
     induction i using Nat.strongRecOn with
     |_ i k3=>
      by_cases U:∃k,k<i/\listed.getD k false=false
      ·obtain⟨k,i4,j0⟩:=U;exact k3 k i4 ⟨by omega,j0⟩
      ·refine⟨i,hi.1,hi.2,λk Y=>?_⟩;cases hv:listed.getD k false with
       |true=>rfl
       |false=>exact absurd ⟨k,Y,hv⟩ U
    obtain⟨i0,l6,c6,d4⟩:=i3;have d9:i0<L.length:=by omega
    have h8:L[i0]?=some L[i0]:=zqv d9;have g9:listed.getD i0 true=false:=by
     have b0:i0<listed.size:=by rw[X.size];omega
     simpa[b0]using c6
    have g5:i0∈Region.ready .any L.toArray listed:=mem_ready.2 ⟨g9,L[i0],(by simp[d9]),λe he I=>d4 e.on (c3 i0 _ h8 e he I)⟩;refine⟨λh0=>(by rw[h0]at g5;cases g5),λj hj=>?_⟩;obtain⟨hu,o,ho,u⟩:=mem_ready.1 hj;have z:L[j]?=some o:=by simpa using ho
    have b7:j<L.length:=(zqu.1 z).1;have j2:j<n:=by
     rcases Nat.lt_or_ge j n with h'|h'
     ·exact h'
     ·have c2:=a4 i0 j (by omega) b7 (.inr h');have:=Nr X.closed z (λe he I=>u e he I) L.length i0 c2;rw[c6]at this;cases this
    have b5:∀k,k≠j->k<L.length->(Lu L k j=true\/Lu L j k=true)->(listed.getD k false=true↔k<j):=by
     intro k a5 a6 hc;rcases Nat.lt_or_ge k j with V|hge
     ·refine⟨λ_=>V,λ_=>?_⟩;have e7:Lu L k j=true:=by
       rcases hc with hc|hc
       ·exact hc
       ·exact T1j hc
      exact Nr X.closed z (λe he I=>u e he I) L.length k (a4 k j V b7 (.inl e7))
     ·refine⟨λJ=>?_,λh'=>by omega⟩;have e7:Lu L j k=true:=by
       rcases hc with hc|hc
       ·exact T1j hc
       ·exact hc
      have:=Ft X.closed L.length k j (a4 j k (by omega) a6 (.inl e7)) J;rw[Pp hu]at this;cases this
    have a3:∀t∈Gb L o,L5 L env B (λi=>listed.getD i false) n t=L5 L env B (λ_=>true) j t:=by
     intro t ht;have hw:∀k,k≠j->(L[k]?).bind (·.dst)=some t->Lu L k j=true:=by
      intro k a5 U;unfold Lu;simp only[Q2,z];cases Y:L[k]? with
      |none=>rw[Y]at U;cases U
      |some p=>
       rw[Y]at U;simp only[Option.bind_some]at U;simp only[U];have:(Gb L o).contains t=true:=by simpa using ht
       rw[this];simp
     have V:∀k,(L[k]?).bind (·.dst)=some t->k<L.length:=by
      intro k U;cases Y:L[k]? with
      |none=>rw[Y]at U;cases U
      |some p=>exact(zqu.1 Y).1
     simp only[L5];have e1:W9 L (λi=>listed.getD i false) t n=W9 L (λi=>decide (i<j)) t n:=To λk U O=>by
      by_cases a5:k=j
      ·subst a5;simp[Pp hu]
      ·have:=b5 k a5 (V k O) (.inl (hw k a5 O));cases I:listed.getD k false with
       |true=>simp[this.1 I]
       |false=>
        have:¬k<j:=λh'=>by rw[this.2 h']at I;cases I
        simp[this]
     have e2:W9 L (λi=>decide (i<j)) t n=W9 L (λi=>decide (i<j)) t j:=Z1c (by omega) λk h1 h2 _=>by simp;omega
     have e3:W9 L (λi=>decide (i<j)) t j=W9 L (λ_=>true) t j:=To λk U _=>by simp[U]
     rw[e1,e2,e3]
    have Z:L5 L env B (λi=>(listed.setIfInBounds j true).getD i false) n=put (L5 L env B (λi=>listed.getD i false) n) o.dst (B j):=by
     have d1:j<listed.size:=by rw[X.size];exact b7
     have A5:∀k,(listed.setIfInBounds j true).getD k false=(decide (k=j)||listed.getD k false):=by
      intro k;by_cases U:j=k
      ·subst U;simp[d1]
      ·rw[getD_set_ne false U];have:¬k=j:=λh'=>U h'.symm;simp[this]
     funext t;simp only[L5,A5];cases hdo:o.dst with
     |none=>
      have:W9 L (λi=>decide (i=j)||listed.getD i false) t n=W9 L (λi=>listed.getD i false) t n:=To λk U O=>by
       have:k≠j:=λh'=>by subst h';rw[z]at O;simp[hdo]at O
       simp[this]
      rw[this];rfl
     |some d=>
      simp only[put,upd];by_cases htd:t=d
      ·subst htd;have k5:Nat.beq t t=true:=by simp
       rw[k5,_root_.cond_true];have e1:W9 L (λi=>decide (i=j)||listed.getD i false) t n=W9 L (λi=>decide (i=j)||listed.getD i false) t (j+1):=Z1c (by omega) λk h1 h2 O=>by
        have a5:k≠j:=by omega
        have k1:Lu L k j=true:=by
         unfold Lu;cases Y:L[k]? with
         |none=>rw[Y]at O;cases O
         |some p=>
          rw[Y]at O;simp only[Option.bind_some]at O;simp only[Q2,z,Y,O,hdo];simp
        have:=b5 k a5 (by omega) (.inl k1);cases I:listed.getD k false with
        |false=>simp[a5]
        |true=>have:=this.1 I;omega
       rw[e1];simp[W9,z,hdo]
      ·have:Nat.beq t d=false:=by
        cases I:Nat.beq t d with
        |false=>rfl
        |true=>exact absurd (zqo I) htd
       rw[this,_root_.cond_false];have:W9 L (λi=>decide (i=j)||listed.getD i false) t n=W9 L (λi=>listed.getD i false) t n:=To λk U O=>by
        have:k≠j:=λh'=>by subst h';rw[z]at O;simp[hdo]at O;exact htd O.symm
        simp[this]
       rw[this];rfl
    have d5:U1z L n (listed.setIfInBounds j true):=⟨by simp[X.size],λi o' a7 J e he I=>by
     by_cases hij:j=i
     ·subst hij;have:o'=o:=Option.some.inj (a7.symm.trans z);subst this;exact getD_set_true (u e he I)
     ·rw[getD_set_ne false hij]at J;exact getD_set_true (X.closed i o' a7 J e he I)⟩
    have b4:∀i,n<=i->i<L.length->(listed.setIfInBounds j true).getD i true=false:=λi h1 h2=>by
     rw[getD_set_ne true (by omega)];exact c7 i h1 h2
    have b3:(listed.setIfInBounds j true).toList.count true+m=L.length:=by rw[count_set hu];omega
    have a0:K1 L (L5 L env B (λi=>listed.getD i false) n) o=K1 L (L5 L env B (λ_=>true) j) o:=Ar a3;have j5:∀y∈o.op.operands,ev F.C.GL (L5 L env B (λi=>listed.getD i false) n) y=ev F.C.GL (L5 L env B (λ_=>true) j) y:=by
     intro y hy;refine O10 λt ht=>a3 t ?_;subst ht;simp only[Gb,List.mem_append,List.mem_filterMap];exact .inl ⟨.tmp t,by simpa using hy,rfl⟩
    have d1:j<listed.size:=by rw[X.size];exact b7
    have d8:∀p∈unf listed fs,p∈unw L fs j:=λp hp=>by
     obtain⟨q,hq,he,hf⟩:=Nu.1 hp;refine F1n.2 ⟨q,hq,he,?_⟩;cases I:Mm L L.length j q.1 with
     |false=>rfl
     |true=>rw[Nr X.closed z (λe he I=>u e he I) L.length q.1 I]at hf;cases hf
    rcases f4 j o j2 z with⟨c0,c9,hq⟩|⟨s,H1,H2,i9,c9,hw,i7,k6,J⟩|⟨t,cs,p,c9,c0,hw,h6,f7,hx⟩
    ·have a2:D8 ls (listed.setIfInBounds j true)=D8 ls listed:=N1d (by simpa using c0);have a1:unf (listed.setIfInBounds j true) fs=unf listed fs:=Z1h (O1d c9);have k9:loN L ls j<=D8 ls listed:=by
      unfold loN D8;rw[<-List.countP_eq_length_filter,<-List.countP_eq_length_filter];exact List.countP_mono_left λl _ J=>Nr X.closed z (λe he I=>u e he I) L.length l J
     have b8:D8 ls listed<=ls.length:=List.length_filter_le _ _;have c8:Hf (D8 ls listed)∈Hs.drop (loN L ls j):=by
      refine List.mem_of_getElem? (i:=D8 ls listed-loN L ls j) ?_;rw[List.getElem?_drop,show loN L ls j+(D8 ls listed-loN L ls j)=D8 ls listed by omega];exact c5 _ b8
     unfold wpOp;simp only[List.getElem?_toArray,z];rcases hq _ c8 _ d8 with⟨hw,hy⟩|⟨hw,hx⟩
     ·rw[Nq D (a0.trans hw)];simp only[zt];refine .inl (hy M G w a _ Qw (λy j3=>by rw[<-j5 y j3];exact D.eval y) D.good D.gl D.hrel λv M' w' h1 h2 h3=>?_);refine ih _ M' G w' _ b3 d5 b4 (by rw[a1];exact b6) ?_ (by rw[a2,a1];exact T.quiet h3);rw[Z,a2,a1];exact D.quiet (A4 (b1 j o z)) h1 h2 h3
     ·rw[Nq D (a0.trans hw)];simp only[zqa,zw];refine ih _ M G w _ b3 d5 b4 (by rw[a1];exact b6) ?_ (by rw[a2,a1];exact T);rw[Z,hx,a2,a1];exact D.quiet (A4 (b1 j o z)) (.tup rfl λi x v h=>by simp at h) D.good (Ext.refl _ _ _)
    ·have b9:ls[s]?=some j:=i9;have a2:D8 ls listed=s:=J1x b9 (λk l U J=>Nr X.closed z (λe he I=>u e he I) L.length l (e9 s k j l b9 J U).2) (λk l U J=>by
      cases hv:listed.getD l false with
      |false=>rfl
      |true=>
       rcases Nat.lt_or_ge s k with V|hge
       ·have:=Ft X.closed L.length l j (e9 k s l j J b9 V).2 hv;rw[Pp hu]at this;cases this
       ·have:k=s:=by omega
        subst this;rw[b9]at J;cases J;rw[Pp hu]at hv;cases hv)
     have e5:D8 ls (listed.setIfInBounds j true)=s+1:=by rw[<-a2];exact Q1s (λa b x y h1 h2 h3=>by have:=(e9 b a y x h2 h1 h3).1;omega) b9 (Pp hu) d1
     have l3:s<ls.length:=(zqu.1 b9).1;have e1:Hf s=H1:=Option.some.inj ((c5 s (by omega)).symm.trans i7);have e2:Hf (s+1)=H2:=Option.some.inj ((c5 (s+1) (by omega)).symm.trans k6);have a1:unf (listed.setIfInBounds j true) fs=unf listed fs:=Z1h (O1d c9);rw[a2,e1]at D T;have k4:=J _ d8 (L5 L env B (λi=>listed.getD i false) n) (J3 (unf listed fs) H1).length a3 (f8 _) (λe h=>e=L5 L env B (λi=>(listed.setIfInBounds j true).getD i false) n/\h=J3 (unf listed fs) H2) ⟨Z.symm,rfl⟩
     let Qw':Exit->Act->World->Prop:=λe a w=>match e with
      |.normal=>wpAny F.C.P .any L.toArray Qw m (listed.setIfInBounds j true) a w
      |e=>Fin F fr Q e a w
     have:=k4 ⟨J3 (unf listed fs) H1,G,M,w⟩ M G w a Qw' rfl (λo' a7=>by
      rw[List.mem_singleton]at a7;subst a7;exact b1 j _ z) D .refl ⟨λenv' H' M' G' w' a' hq f5 b2=>by
       obtain⟨rfl,rfl⟩:=hq;refine ih _ M' G' w' a' b3 d5 b4 (by
        rw[a1];intro p hp;obtain⟨q,j6,i6,l2⟩:=Nu.1 hp;have V:p<(J3 (unf listed fs) H1).length:=by
         rw[I9,<-e1];exact h4 s (by omega) p (i6▸(c1 q j6).2.2)
        have f0:(J3 (unf listed fs) H1)[p]?=some .dead:=by
         rw[I9]at V;rw[O7,zqv V];have:(unf listed fs).contains p=true:=by simpa using hp
         simp only[zqt,this,_root_.cond_true]
        exact(b2.keep p _ f0 rfl).trans (b6 p hp)) ?_ ?_
       ·rw[e5,e2,a1];exact f5
       ·rw[e5,e2,a1];exact T.step b2,λ_ _ _ _ _ _ _ h=>h.elim⟩
     simp only[wpList]at this;unfold wpOp;simp only[List.getElem?_toArray,z];have e0:LetsOut Qw'->LetsOut (Fin F fr Q):=λ⟨a,w,h⟩=>⟨a,w,h⟩
     split
     ·rename_i hw;rw[zp hw]at this;rcases this with h1|⟨h1,h2⟩
      ·exact .inl (W1o (λc a w h=>h) e0 h1)
      ·exact .inr ⟨h1,e0 h2⟩
     ·rename_i hw;rw[zn hw]at this;exact this
    ·have a2:D8 ls (listed.setIfInBounds j true)=D8 ls listed:=N1d (by simpa using c0);have b8:D8 ls listed<=ls.length:=List.length_filter_le _ _;have d0:=E1p c9;obtain⟨f1,f2,f3⟩:=c1 _ d0;have l1:D8 ls listed<=hiN L ls j:=by
      unfold hiN D8;rw[<-List.countP_eq_length_filter,<-List.countP_eq_length_filter];refine List.countP_mono_left λl _ J=>?_;cases I:Mm L L.length l j with
      |false=>rfl
      |true=>
       have:=Ft X.closed L.length l j I J;rw[Pp hu]at this;cases this
     have c8:Hf (D8 ls listed)∈Hs.take (hiN L ls j+1):=by
      refine List.mem_of_getElem? (i:=D8 ls listed) ?_;rw[List.getElem?_take,zp (by omega)];exact c5 _ b8
     have hr:=f7 _ c8;rw[Q2]at hr;have g0:p∈unf listed fs:=Nu.2 ⟨_,d0,rfl,Pp hu⟩;have e6:(J3 (unf listed fs) (Hf (D8 ls listed)))[p]?=some .dead:=by
      rw[O7,hr];have:(unf listed fs).contains p=true:=by simpa using g0
      simp only[zqt,this,_root_.cond_true]
     have a8:∀r,r∈unf (listed.setIfInBounds j true) fs↔r∈unf listed fs/\r≠p:=by
      intro r;rw[Nu,Nu];constructor
      ·rintro⟨q,q1,q2,q3⟩;have d3:j≠q.1:=λe=>by rw[<-e]at q3;simp[d1]at q3
       rw[getD_set_ne false d3]at q3;exact⟨⟨q,q1,q2,q3⟩,λe=>d3 (by rw[h7 q q1 _ d0 (.inr (by rw[q2,e]))])⟩
      ·rintro⟨⟨q,q1,q2,q3⟩,d3⟩;refine⟨q,q1,q2,?_⟩;rw[getD_set_ne false λe=>d3 (by rw[<-q2,h7 q q1 _ d0 (.inl e.symm)])];exact q3
     have d6:∀r,(J3 (unf (listed.setIfInBounds j true) fs) (Hf (D8 ls listed)))[r]?=if r=p then some (.row cs t)else(J3 (unf listed fs) (Hf (D8 ls listed)))[r]?:=by
      intro r;rw[O7,O7];by_cases hrp:r=p
      ·subst hrp;rw[zp rfl,hr];have:(unf (listed.setIfInBounds j true) fs).contains r=false:=by
        cases I:(unf (listed.setIfInBounds j true) fs).contains r with
        |false=>rfl
        |true=>exact absurd rfl ((a8 r).1 (by simpa using I)).2
       simp only[zqt,this,_root_.cond_false]
      ·rw[zn hrp];have:(unf (listed.setIfInBounds j true) fs).contains r=(unf listed fs).contains r:=by
        rw[Bool.eq_iff_iff];simp only[List.contains_iff_mem,a8 r];exact⟨λh=>h.1,λh=>⟨h,hrp⟩⟩
       rw[this]
     obtain⟨vs,hv,h9⟩:=h6 _ _ M G w a a3 D;have k0:∀d,o.dst=some d->d<F.N:=A4 (b1 j o z);unfold wpOp;simp only[List.getElem?_toArray,z];rw[Nq D (a0.trans hw)];simp only[zt];refine .inl ?_;unfold Oper.wp;rw[h9];refine ih _ M (I3 G p (.pointer (some ⟨w.heap.size,0,none⟩))) (w.alloc (.cells vs t)) _ b3 d5 b4 (λr k8=>?_) ?_ ?_
     ·obtain⟨r1,r2⟩:=(a8 r).1 k8;rw[P1 r2];exact b6 r r1
     ·rw[Z,a2,hx];exact D.fillRow k0 e6 (b6 p g0) hv (by rw[I9,I9]) d6
     ·rw[a2];exact T.fillRow (cs:=cs) (p:=p) (by omega) (zqu.1 e6).1 (by rw[I9,I9]) d6
 refine wp_region_any hC.mixed ?_;have h0:∀i,(Array.replicate L.toArray.size false).getD i false=false:=λi=>by
  rcases Nat.lt_or_ge i L.length with h'|h'<;>simp[h']
 have g8:D8 ls (Array.replicate L.toArray.size false)=0:=Z22 h0;have c6:unf (Array.replicate L.toArray.size false) fs=fs.map (·.2):=by
  have:∀fs:List (Nat×Nat),unf (Array.replicate L.toArray.size false) fs=fs.map (·.2):=by
   intro fs
   induction fs with
   |nil=>rfl
   |cons q r ih=>simp only[unf,h0,_root_.cond_false,ih,List.map_cons]
  exact this fs
 have f5:St F.C F.N M G { w with drawn:=w.drawn+1 } env H a9:=
  ⟨λa v e=>D.good a v e,D.gl.ext D.hrel (S:=W5) ⟨λ_ _ e=>e,zqr _,rfl,rfl,rfl,λ_ _ _=>rfl,λ_ _ e=>.inl e⟩ (λ_ h=>h.elim),D.hrel.ext (S:=W5) ⟨λ_ _ e=>e,zqr _,rfl,rfl,rfl,λ_ _ _=>rfl,λ_ _ e=>.inl e⟩ (λ_ _ h=>h),D.env,D.size,D.defers⟩
 have b2:D2 fr M G { w with drawn:=w.drawn+1 } H:=T.quiet ⟨λ_ _ e=>e,zqr _,rfl,rfl,rfl,λ_ _ _=>rfl,λ_ _ e=>.inl e⟩;have e8:L5 L env B (λi=>(Array.replicate L.toArray.size false).getD i false) n=env:=by
  funext t;simp only[L5];cases J:W9 L (λi=>(Array.replicate L.toArray.size false).getD i false) t n with
  |none=>rfl
  |some i=>have:=(I13 J).2.1;rw[h0]at this;cases this
 have:=h5 L.length (Array.replicate L.toArray.size false) M G _ a9 (by simp[List.count_replicate]) ⟨by simp,λj o ho J=>by rw[h0]at J;cases J⟩ (λi h1 h2=>by simp[h2])
  (λp hp=>by
   obtain⟨q,q1,q2,_⟩:=Nu.1 hp;exact D.hrel.fresh p (by have:=(c1 q q1).2.1;omega))
  (by rw[e8,g8,g1,c6,d7];exact f5.pad _) (by rw[g8,g1,c6,d7];exact b2.pad _)
 rw[i1];rw[i1]at this;exact this
def AQ.as {F:Fx}{L:List Oper}{H:F0}{Q:Env->Prop}:∀(l:List Oper) (env:Env) (j:Nat),AQ F.C L l env H Q->AS F L [] [] [H] [] j 0 l env Q
 |[],_,_,h=>h
 |_::r,_,j,⟨d,x,c,y,v⟩=>.inl ⟨d,x,c,rfl,rfl,λB z b u=>by
  cases List.mem_singleton.1 z;have:b=[]:=List.eq_nil_iff_forall_not_mem.2 λp h=>by cases u p h
  rw[this,K1a];exact y,A1k x,AQ.as r _ (j+1) v⟩
def AEx.draw (hC:T1 F.C){id:Nat}{Q:Po}(n:Nat)(d:L.all (Hk F.N)=true)(c:H14 L n=true)(b:Nat.ble n L.length=true)
  (h:AQ F.C L (L.take n) env H (λenv'=>K0 F L (L.drop n) env' H (Ik Q))):AEx F (.region id L.toArray true) env H Q:=by
 refine AEx.drawL hC n [] [] [H] [] d c b rfl (H0:=H) rfl rfl ?_ ?_ rfl (Hm:=H) rfl (AQ.as _ _ 0 h)
 ·simp[K1a]
 ·simp
def AEx.drawG (hC:T1 F.C){id:Nat}{Q:Po}(n:Nat)(v:L.all (Hk F.N)=true)(d:H14 L n=true)(b:Nat.ble n L.length=true)
  (h:AG F.C L (L.take n) env B1s H (λe c=>K0 F L (L.drop n) (E1d e c) H (Ik Q))):AEx F (.region id L.toArray true) env H Q:=by
 refine .draw hC n v d b ?_;have:=AG.aq h;rw[V1o]at this;refine this.mono λe u=>?_;obtain⟨env',r,rfl,x⟩:=u;exact .leE F1x x
def U18 (C:Cx)(L:List Oper)(o:Oper)(env:Env)(ps:List Nat):List F0->List (Option (Option Nat×Prop×A))
 |[]=>[]
 |H::r=>Lm C L o env (J3 ps H)::U18 C L o env ps r
def Y1f (x:Option (Option Nat×Prop×A)):List F0->List (Option (Option Nat×Prop×A))
 |[]=>[]
 |_::r=>x::Y1f x r
def L1a {C:Cx}{L:List Oper}{o:Oper}{env:Env}{ps:List Nat}{x:Option (Option Nat×Prop×A)}:∀{Hs:List F0},U18 C L o env ps Hs=Y1f x Hs->∀H∈Hs,Lm C L o env (J3 ps H)=x
 |[],_,H,h=>by cases h
 |K::r,h,H,b=>by
  simp only[U18,Y1f,List.cons.injEq]at h;cases b with
  |head=>exact h.1
  |tail _ b=>exact L1a h.2 H b
def D20 {i:TI}{x:A}{b:List Nat}(c:∀p∈ps,p∈b){y:A}(h:Fb i x (J3 b H)=some y):Fb i x (J3 ps H)=some y:=by
 unfold Fb at h⊢;split at h
 ·rename_i o r;simp only[Q2,O7]at h⊢;cases hz:H[o]? with
  |none=>rw[hz]at h;simp at h
  |some z=>
   rw[hz]at h;simp only[zqt]at h⊢;cases h0:b.contains o with
   |true=>rw[h0]at h;simp at h
   |false=>
    have:ps.contains o=false:=by
     cases hb:ps.contains o with
     |false=>rfl
     |true=>
      have u:=c o (by simpa using hb);have d:b.contains o=true:=by simpa using u
      rw[h0]at d;cases d
    rw[h0]at h;rw[this];exact h
 ·exact h
 ·cases h
def O26 {T:TT}{GL:GT}{op:Op}{b:List Nat}(d:∀p∈ps,p∈b){c:Prop}{y:A}(h:opA T GL op env (J3 b H)=some (c,y)):opA T GL op env (J3 ps H)=some (c,y):=by
 cases op with
 |load t a=>
  simp only[opA]at h⊢;cases ht:Z1 T t with
  |none=>rw[ht]at h;cases h
  |some i=>
   rw[ht]at h;simp only at h⊢;cases hl:Fb i (ev GL env a) (J3 b H)with
   |none=>rw[hl]at h;cases h
   |some z=>
    rw[hl]at h;rw[D20 d hl];exact h
 |makeFunc f first caps=>cases f<;>exact h
 |call c=>
  obtain⟨r,u,v⟩:=c;cases r<;>exact h
 |_=>exact h
def G1k {C:Cx}{b:List Nat}(r:∀p∈ps,p∈b){c:Prop}{y:A}(h:Lm C L o env (J3 b H)=some (d,c,y)):Lm C L o env (J3 ps H)=some (d,c,y):=by
 unfold Lm at h⊢;split at h
 ·rename_i x;split at h
  ·rename_i c' v u;rw[O26 r u];exact h
  ·cases h
 ·exact h
 ·cases h
def K1x {C:Cx}(hC:T1 C){c:Prop}{x:A}(h:Lm C L o env H=some (d,c,x))(hc:c):o.dst=d/\G11 C L o env H x:=by
 have:=AQ.q (l:=[]) (Q:=λ_=>True) hC h hc trivial;unfold Lm at h;split at h
 ·rename_i r;split at h
  ·rename_i c' B z;split at h
   ·rename_i y v;have u:=On v;subst u;have:o.dst=d/\c'=c/\y=x:=by
     split at h
     ·rename_i t b;simp only[zqb,zqh]at h;exact⟨b.trans h.1,h.2.1,h.2.2⟩
     ·rename_i b;simp only[zqb,zqh]at h;exact⟨b.trans h.1,h.2.1,h.2.2⟩
    obtain⟨rfl,rfl,rfl⟩:=this;exact⟨rfl,.inl ⟨r,Al hC z hc⟩⟩
   ·cases h
  ·cases h
 ·rename_i r;have:o.dst=d/\A.tup []=x:=by
   split at h
   ·rename_i t b;simp only[zqb,zqh]at h;exact⟨b.trans h.1,h.2.2⟩
   ·rename_i b;simp only[zqb,zqh]at h;exact⟨b.trans h.1,h.2.2⟩
  obtain⟨rfl,rfl⟩:=this;exact⟨rfl,.inr ⟨r,rfl⟩⟩
 ·cases h
def T1s (C:Cx)(L:List Oper)(o:Oper)(env:Env):Option (Option Nat×TypeId×List A):=
 match K1 L env o,o.op,O3 o with
 |some true,.alloc t,some d=>match Z1 C.T t with
  |some i=>match Xr (i.zero.map zf)with|some cs=>some (d,t,cs)|none=>none
  |none=>none
 |some true,.box t y,some d=>match Z9 (ev C.GL env y)with
  |some cs=>match Xr cs with|some cs=>some (d,t,cs)|none=>none
  |none=>none
 |_,_,_=>none
def K1w (hC:T1 F.C)(h:T1s F.C L o env=some (d,t,cs)):K1 L env o=some true/\o.dst=d/\N1s F L o env t cs:=by
 unfold T1s at h;split at h
 ·rename_i t' O v c B;split at h
  ·rename_i i X;split at h
   ·rename_i x b;simp only[zqb,zqh]at h;obtain⟨rfl,rfl,rfl⟩:=h;have:=Ku b;subst this;refine⟨v,(W2 B),λenv' H M G w a D I=>?_⟩;obtain⟨z,Z,h2⟩:=F17 (M:=M) (G:=G) hC.tok X;exact⟨z.cells,h2,by unfold execOp;simp[c,Instr.alloc,Z,newVar,newRow]⟩
   ·cases h
  ·cases h
 ·rename_i t' y O v c B;split at h
  ·rename_i Y r;split at h
   ·rename_i x b;simp only[zqb,zqh]at h;obtain⟨rfl,rfl,rfl⟩:=h;have:=Ku b;subst this;refine⟨v,(W2 B),λenv' H M G w a D I=>?_⟩;have J:ev F.C.GL env' y=ev F.C.GL env y:=O10 λu V=>D u (by
     subst V;simp only[Gb,List.mem_append,List.mem_filterMap];exact .inl ⟨.tmp u,by simp[c,Op.operands],rfl⟩)
    obtain⟨T,U,c3⟩:=Dy (I.eval y) (by rw[J];exact r);exact⟨(a.eval y).cells,⟨T.symm,U,c3⟩,by unfold execOp;simp[c,Instr.box,newVar,newRow]⟩
   ·cases h
  ·cases h
 ·cases h
def K1r (p:Nat):List F0->List (Option Ob)
 |[]=>[]
 |H::r=>nth H p::K1r p r
def L1r (x:Option Ob):List F0->List (Option Ob)
 |[]=>[]
 |_::r=>x::L1r x r
def G1p {p:Nat}{x:Option Ob}:∀{Hs:List F0},K1r p Hs=L1r x Hs->∀H∈Hs,nth H p=x
 |[],_,H,h=>by cases h
 |K::r,h,H,b=>by
  simp only[K1r,L1r,List.cons.injEq]at h;cases b with
  |head=>exact h.1
  |tail _ b=>exact G1p h.2 H b
section
variable {F:Fx}{L l:List Oper}{o:Oper}{env:Env}{ls:List Nat}{fs:List (Nat×Nat)}{Hs:List F0}{tk:List Nat}{j s:Nat}{Q:Env->Prop}
def AS.nil (h:Q env):AS F L ls fs Hs tk j s [] env Q:=h
def G11.dgV {C:Cx}{env:Env}{H:F0}{x:A}(h:G11 C L o env H x):G11 C L o env H (dgV tk x):=by
 rw[D1k];rcases h with⟨c,D⟩|⟨c,rfl⟩
 ·exact .inl ⟨c,λM G w a b I B y J z k=>D M G w a b I B y J z λv d u r=>k v d u ((C20 tk x).rel r)⟩
 ·exact .inr ⟨c,rfl⟩
def AS.y {x:A}(b:o.dst=d)(c:ls.contains j=false)(r:Jk fs j=none)(h:∀H,G11 F.C L o env H x)(k:AS F L ls fs Hs tk (j+1) s l (put env d (dgV tk x)) Q):AS F L ls fs Hs tk j s (o::l) env Q:=
 .inl ⟨d,_,b,c,r,λ_ _ _ _=>(h _).dgV,by rw[D1k];exact T18 tk x,k⟩
def AS.q (hC:T1 F.C){x:A}(h:U18 F.C L o env (unw L fs j) (Hs.drop (loN L ls j))=Y1f (some (d,True,x)) (Hs.drop (loN L ls j)))(r:o.dst=d)(u:ls.contains j=false)(v:Jk fs j=none)(k:AS F L ls fs Hs tk (j+1) s l (put env d (dgV tk x)) Q):AS F L ls fs Hs tk j s (o::l) env Q:=
 .inl ⟨d,_,r,u,v,λH c _ b=>(K1x hC (G1k b (L1a h H c)) trivial).2.dgV,by rw[D1k];exact T18 tk x,k⟩
def AS.qc (hC:T1 F.C){c:Prop}{x:A}(h:U18 F.C L o env (unw L fs j) (Hs.drop (loN L ls j))=Y1f (some (d,c,x)) (Hs.drop (loN L ls j)))(hc:c)(u:o.dst=d)(v:ls.contains j=false)(y:Jk fs j=none)(k:AS F L ls fs Hs tk (j+1) s l (put env d (dgV tk x)) Q):AS F L ls fs Hs tk j s (o::l) env Q:=
 .inl ⟨d,_,u,v,y,λH r _ b=>(K1x hC (G1k b (L1a h H r)) hc).2.dgV,by rw[D1k];exact T18 tk x,k⟩
def AS.qe (hC:T1 F.C){c:Prop}{x y:A}(h:U18 F.C L o env (unw L fs j) (Hs.drop (loN L ls j))=Y1f (some (d,c,x)) (Hs.drop (loN L ls j)))(hc:c)(e:x=y)(b:o.dst=d)(r:ls.contains j=false)(u:Jk fs j=none)(k:AS F L ls fs Hs tk (j+1) s l (put env d (dgV tk y)) Q):AS F L ls fs Hs tk j s (o::l) env Q:=by
 subst e;exact .qc hC h hc b r u k
def AS.c {x:A}(hc:B4 F.C f xs [] (Ret [] x))(h:Ad F.C L o env=some (d,f,xs))(b:R2 0 xs=true)(v:ls.contains j=false)(B:Jk fs j=none)(k:AS F L ls fs Hs tk (j+1) s l (put env d (dgV tk x)) Q):AS F L ls fs Hs tk j s (o::l) env Q:=by
 obtain⟨r,z,u⟩:=Ze h;exact .y u v B (λH=>.inl ⟨r,D17 z b hc⟩) k
def AS.ix (hC:T1 F.C){rows:List (List D)}{n:Int}(h:F11 F.C L o env=some (d,rows,n,sz)){m:Nat}{r:List D}(v:n=m)(c:rows[m]?=some r)(b:Nat.beq r.length sz=true)(x:ls.contains j=false)(B:Jk fs j=none)
  (k:AS F L ls fs Hs tk (j+1) s l (put env d (dgV tk (.ptr r))) Q):AS F L ls fs Hs tk j s (o::l) env Q:=by
 obtain⟨u,z⟩:=Gy h;exact .y z x B (λH=>.inl ⟨u,Et hC h v c b⟩) k
def AS.a {t:Nat}{x:A}(c:o.dst=some t)(h:∀H,AQ F.C L [o] env H (λe=>e=put env (some t) x))(u:ls.contains j=false)(z:Jk fs j=none)(k:AS F L ls fs Hs tk (j+1) s l (put env (some t) (dgV tk x)) Q):AS F L ls fs Hs tk j s (o::l) env Q:=by
 refine .y c u z (λH=>?_) k;obtain⟨B,d,b,v,r⟩:=h H;rw[c]at b;subst b;have:d=x:=by
  have:=congrFun r t;simpa[put,upd]using this
 rwa[this]at v
def AS.g {d:Option Nat}{g:FuncId}{xs:List A}{x y:A}{H H':F0}(idx:List Nat){b:List A}{cH c:F0}(hc:B4 F.C g b cH (Ret c x))(I:nth ls s=some j)(J:Jk fs j=none)(Z:nth Hs s=some H)(D:nth Hs (s+1)=some H')
  (h:Ad F.C L o env=some (d,g,xs)) (V:Hb (K3 idx H.length) b=xs) (X:Ep idx H.length=true) (Y:Yr H idx=Yw (K3 idx H.length) cH)
  (z:((S4 idx cH).all λp=>tk.contains p)=true) (B:frc (ren (K3 idx H.length) x)=some y) (T:R9 (Aa H idx (K3 idx H.length) (S4 idx cH) c)=some H')
  (r:(idx.all (λp=>!(unw L fs j).contains p)&&(unw L fs j).all (λp=>Nat.blt p H.length)&&Nat.ble idx.length c.length)=true) (v:dg tk y=y) (k:AS F L ls fs Hs tk (j+1) (s+1) l (put env d y) Q):AS F L ls fs Hs tk j s (o::l) env Q:=by
 obtain⟨O,_,q3⟩:=Ze h;exact .inr (.inl ⟨y,H,H',I,J,O,Z,D,λU u=>Qp.g idx hc h V X Y z B T r U u,v,by rw[q3];exact k⟩)
def AS.n (hC:T1 F.C){p:Nat}(h:T1s F.C L o env=some (d,t,cs))(x:Jk fs j=some p)(u:ls.contains j=false)(r:K1r p (Hs.take (hiN L ls j+1))=L1r (some (.row cs t)) (Hs.take (hiN L ls j+1)))
  (k:AS F L ls fs Hs tk (j+1) s l (put env d (.ref p 0)) Q):AS F L ls fs Hs tk j s (o::l) env Q:=by
 obtain⟨c,b,v⟩:=K1w hC h;exact .inr (.inr ⟨t,cs,p,x,u,c,v,G1p r,by rw[b];exact k⟩)
end
def H1k (C:Cx)(L:List Oper)(o:Oper)(env:Env):Option (Option Nat×D):=
 match K1 L env o,o.op,O3 o with
 |some true,.nilCheck x,some d=>match ev C.GL env x with
  |.d xd=>some (d,xd)
  |_=>none
 |_,_,_=>none
def H1p {C:Cx}{x:D}{cs:List D}(h:H1k C L o env=some (d,x))(V:x = .bxo (some cs)) :
  K1 L env o=some true/\O3 o=some d/\R4 C o env H (.ptr cs):=by
 unfold H1k at h;split at h
 ·rename_i y Z U z Y;split at h
  ·rename_i xd c;simp only[zqb,zqh]at h;obtain⟨rfl,rfl⟩:=h;subst V;refine⟨U,Y,?_⟩;intro M G w a B Qw T I _ hH X;have b:=T y (by rw[z];simp[Op.operands]);rw[c]at b;generalize hv:a.eval y=v at b;cases b;rename_i b;cases b;rename_i N1 p q r;have u:∃v,(execOp a.eval o).run C.P w = .ok (.value v) w/\A1 M G (.ptr cs) v:=by
    unfold execOp;exact⟨_,by simp only[z,hv];rfl,.ptr N1 p q r⟩
   obtain⟨v,J,O⟩:=u;unfold Oper.wp;rw[J];exact X v M w O I (Ext.refl _ _ _)
  ·cases h
 ·cases h
def K0.nk (_hC:T1 F.C){H:F0}{x:D}{cs:List D}(h:H1k F.C L o env=some (d,x))(b:x = .bxo (some cs))
  (k:K0 F L l (put env d (.ptr cs)) H Q):K0 F L (o::l) env H Q:=by
 obtain⟨u,r,c⟩:=H1p (H:=H) h b;refine .yields u c ?_;rw[W2 r];exact k
def AQ.nk {C:Cx}(_hC:T1 C){H:F0}{Q:Env->Prop}{x:D}{cs:List D}(h:H1k C L o env=some (d,x))(b:x = .bxo (some cs))(k:AQ C L l (put env d (.ptr cs)) H Q):AQ C L (o::l) env H Q:=by
 obtain⟨u,r,c⟩:=H1p (H:=H) h b;exact⟨d,_,W2 r,.inl ⟨u,c⟩,k⟩
def Rq (k:Int):List (Int×Row)->Option Row
 |[]=>none
 |(k',cs)::r=>bif k==k' then some cs else Rq k r
def mputI (k:Int)(cs:Row):List (Int×Row)->List (Int×Row)
 |[]=>[(k,cs)]
 |(k',cs')::r=>bif k==k' then(k,cs)::r else(k',cs')::mputI k cs r
structure LkI where
 d:Option Nat
 es:List (Int×Row)
 k:Int
 ok:Bool
 z:A
def P1d {b:IntKind}(es:List (Int×Row)):(Kp.i b es).list.length=es.length:=by simp[Kp.list]
def I1p {c:IntKind}{es:List (Int×Row)}(h:∀(i:Nat) k cs e,(Kp.i c es).list[i]?=some (k,cs)->ms[i]?=some e->F2 M k e.key/\A1 M G (Mc cs) e.val) :
  ∀(i:Nat) k cs e,es[i]?=some (k,cs)->ms[i]?=some e->F2 M (.int c k) e.key/\A1 M G (Mc cs) e.val:=λi k cs e a b=>h i (.int c k) cs e (by simp[Kp.list,a]) b
def E20 {c:IntKind}{es:List (Int×Row)}(h:∀(i:Nat) k cs e,es[i]?=some (k,cs)->ms[i]?=some e->F2 M (.int c k) e.key/\A1 M G (Mc cs) e.val) :
  ∀(i:Nat) k cs e,(Kp.i c es).list[i]?=some (k,cs)->ms[i]?=some e->F2 M k e.key/\A1 M G (Mc cs) e.val:=λi k cs e a b=>by
 simp only[Kp.list,List.getElem?_map]at a;cases hp:es[i]? with
 |none=>rw[hp]at a;cases a
 |some p=>
  rw[hp]at a;simp only[zqt,zqb,zqh]at a;obtain⟨rfl,rfl⟩:=a;exact h i p.1 p.2 e hp b
def G17 {r:IntKind}{k:Int}:∀{es:List (Int×Row)} {ms:List MapEntry} {i:Nat},ms.length=es.length->(∀(n:Nat) k' cs e,es[n]?=some (k',cs)->ms[n]?=some e->e.key = .int r k')->
  (Rq k es=none/\Instr.findNow (.int r) (.int r k) ms i=some none/\∀cs,mputI k cs es=es++[(k,cs)])\/
  ∃n cs e,es[n]?=some (k,cs)/\Rq k es=some cs/\ms[n]?=some e/\Instr.findNow (.int r) (.int r k) ms i=some (some (i+n,e.val))/\∀d,mputI k d es=es.set n (k,d)
 |[],[],i,_,_=>.inl ⟨rfl,rfl,λ_=>rfl⟩
 |(k',cs)::es,m::ms,i,u,z=>by
  have B:=z 0 k' cs m rfl rfl;simp only[Instr.findNow,B,Instr.sameNow,Rq,mputI,zt];cases hb:k==k' with
  |true=>
   obtain rfl:=beq_iff_eq.1 hb;exact .inr ⟨0,cs,m,rfl,rfl,rfl,rfl,λ_=>rfl⟩
  |false=>
   simp only[zql];rcases G17 (k:=k) (es:=es) (ms:=ms) (i:=i+1) (by simpa using u) (λn k' cs e a b=>z (n+1) k' cs e (by simpa using a) (by simpa using b))with⟨v,y,x⟩|⟨n,d,e,v,y,x,D,I⟩
   ·exact .inl ⟨v,y,λd=>by rw[x];rfl⟩
   ·exact .inr ⟨n+1,d,e,by simpa using v,y,by simpa using x,by rw[D];congr 3;omega,λc=>by rw[I];rfl⟩
 |[],_::_,_,u,_=>by simp at u
 |_::_,[],_,u,_=>by simp at u
def Iw {w:World}{d:Nat}{r:IntKind}(h:P.underlying d=some (.int r))(b:Bool)(n:Int):(Instr.checkKey b 10000 d (.int r n)).run P w = .ok () w:=by
 have c:∀m,(Instr.checkKey b (m+1) d (.int r n)).run P w = .ok () w:=λm=>by simp[Instr.checkKey,run_underlying h]
 exact c 9999
def B7 {b:Bool}{x:α}{y:Option α}(h:(bif b then y else none)=some x):b=true/\y=some x:=by cases b<;>simp_all
def V18 (C:Cx)(L:List Oper)(o:Oper)(env:Env)(H:F0):Option LkI:=
 match K1 L env o,o.op,O3 o with
 |some true,.lookup t x y ok,some d=>match Z1 C.T t,ev C.GL env x,ev C.GL env y with
  |some i,.mp p,.d (.int kd k)=>match i.u,nth H p with
   |.map kt et,some (.map (.i kd' es))=>match Z1 C.T kt,Z1 C.T et with
    |some ki,some ei=>match ki.u,frc (C16 ei)with
     |.int k3,some z=>bif decide (k3=kd/\kd'=kd)then some ⟨d,es,k,ok,z⟩else none
     |_,_=>none
    |_,_=>none
   |_,_=>none
  |_,_,_=>none
 |_,_,_=>none
def H17 {C:Cx}{r:LkI}(h:V18 C L o env H=some r):K1 L env o=some true/\O3 o=some r.d:=by
 unfold V18 at h;split at h
 ·rename_i t x y v d b u c;split at h
  ·split at h
   ·split at h
    ·split at h
     ·obtain⟨_,h⟩:=B7 h;simp only[zqb]at h;subst h;exact⟨b,c⟩
     ·cases h
    ·cases h
   ·cases h
  ·cases h
 ·cases h
def W18 {C:Cx}(hC:T1 C){es:List (Int×Row)}{k:Int}{ok:Bool}{z:A}(h:V18 C L o env H=some ⟨d,es,k,ok,z⟩){r:Option Row}(hr:Rq k es=r):R4 C o env H (lkA r z ok):=by
 intro M G w a a9 Qw hρ hG b1 hH a6;subst hr;unfold V18 at h;split at h
 ·rename_i t x y u d' hw ho hd;rw[ho]at hρ;split at h
  ·rename_i i p kd k' ht c hy;split at h
   ·rename_i kt et V Y hu hp;split at h
    ·rename_i ki ei a2 a7;split at h
     ·rename_i k3 z' a3 hz;obtain⟨U,h5⟩:=B7 h;clear h;obtain⟨rfl,rfl⟩:=of_decide_eq_true U;simp only[zqb,LkI.mk.injEq]at h5;obtain⟨rfl,rfl,rfl,rfl,rfl⟩:=h5;have a5:=On hz;subst a5;have O:=hρ x (by simp[Op.operands]);have D:=hρ y (by simp[Op.operands]);rw[c]at O;rw[hy]at D;generalize hxv:a.eval x=xv at O;generalize hyv:a.eval y=yv at D;cases O;rename_i b a8;cases D;rename_i D;cases D;rename_i b0;rw[Q2]at hp;obtain⟨b',ms,cl,g1,g2,g3,g4,g5,g6⟩:=hH.obj p _ hp;have g3:=g3.trans (P1d _);have g4:=I1p g4;rw[a8]at g1;simp at g1;subst g1;have hd:=Nn (hC.tok.facts ht) hu;have J:=V1c (hC.tok.facts a2) a3;obtain⟨zv,a1,B⟩:=D1d hC.tok a7 M G;have T:∀(n:Nat) k' X e,Y[n]?=some (k',X)->ms.toList[n]?=some e->e.key = .int V k':=λn k' X e a b=>by
       have:=(g4 n k' X e a (by simpa using b)).1;generalize e.key=ek at this;cases this;rfl
      have a4:∃v,(Instr.lookup t (.map (some b)) (.int V k') u).run C.P w = .ok v w/\A1 M G (lkA (Rq k' Y) (C16 ei) u) v:=by
       rcases G17 (k:=k') (i:=0) (by simpa using g3) T with⟨h1,h2,_⟩|⟨n,X,e,h1,h2,h3,h4,_⟩
       ·refine⟨if u then .tuple #[zv,.bool false]else zv,?_,?_⟩
        ·simp[Instr.lookup,run_underlying hd,Oi g2,Iw J,Instr.findKey,run_underlying J,h2,a1 w]
        ·rw[h1];cases u with
         |false=>simpa[lkA]using B
         |true=>
          refine .tup rfl λi x v c I=>?_
          match i with
          |0=>simp at c I;subst c;subst I;exact B
          |1=>simp at c I;subst c;subst I;exact .d .bool
          |_+2=>simp at c
       ·have a0:=(g4 n k' X e h1 (by simpa using h3)).2;refine⟨if u then .tuple #[e.val,.bool true]else e.val,?_,?_⟩
        ·simp[Instr.lookup,run_underlying hd,Oi g2,Iw J,Instr.findKey,run_underlying J,h4]
        ·rw[h2];cases u with
         |false=>simpa[lkA]using a0
         |true=>
          refine .tup rfl λi x v c I=>?_
          match i with
          |0=>simp at c I;subst c;subst I;exact a0
          |1=>simp at c I;subst c;subst I;exact .d .bool
          |_+2=>simp at c
      obtain⟨v,I,Z⟩:=a4;unfold Oper.wp execOp;simp only[ho,hxv,hyv,Sem.run_bind,I,Result.andThen_ok,Sem.run_pure,Oper.upon_value];exact a6 _ M w Z hG (Ext.refl _ _ _)
     ·cases h
    ·cases h
   ·cases h
  ·cases h
 ·cases h
def P26:Op->Option (TypeId×Operand×Operand×Operand)
 |.mapUpdate t x y z=>some (t,x,y,z)
 |.insert t x y z=>some (t,x,y,z)
 |_=>none
def I1k (C:Cx)(L:List Oper)(o:Oper)(env:Env)(H:F0):Option F0:=
 match K1 L env o,P26 o.op,o.dst with
 |some true,some (t,x,y,z),none=>match Z1 C.T t,ev C.GL env x,ev C.GL env y,N18 (ev C.GL env z)with
  |some i,.mp p,.d (.int kd k),some cs=>match i.u,nth H p with
   |.map kt _,some (.map (.i kd' es))=>match Z1 C.T kt with
    |some ki=>match ki.u with
     |.int k3=>bif decide (k3=kd/\kd'=kd)then Zc H p (.map (.i kd (mputI k cs es)))else none
     |_=>none
    |none=>none
   |_,_=>none
  |_,_,_,_=>none
 |_,_,_=>none
def K0.u_i (hC:T1 F.C)(h:I1k F.C L o env H=some H')(k:K0 F L l env H' Q):K0 F L (o::l) env H Q:=by
 unfold I1k at h;split at h
 ·rename_i t x y z hw ho a1;split at h
  ·rename_i i p kd v Y ht hx hy hz;split at h
   ·rename_i kt et d es hu hp;split at h
    ·rename_i ki b0;split at h
     ·rename_i k3 b2;obtain⟨a3,h5⟩:=B7 h;clear h;obtain⟨rfl,rfl⟩:=of_decide_eq_true a3;have e1:=Rj h5;subst e1;refine T6 hw λfr M G w a K Qw hK a4 hs b4 hk=>?_;have a0:=hs.eval x;have O:=hs.eval y;have Z:=Z1j hz (hs.eval z);rw[hx]at a0;rw[hy]at O;generalize hxv:a.eval x=xv at a0;generalize hyv:a.eval y=yv at O;generalize hzv:a.eval z=zv at Z;cases a0;rename_i b U;cases O;rename_i O;cases O;rename_i a5;rw[Q2]at hp;obtain⟨b',ms,cl,g1,g2,g3,g4,g5,g6⟩:=hs.hrel.obj p _ hp;have g3:=g3.trans (P1d es);have g4:=I1p g4;rw[U]at g1;simp at g1;subst g1;have hd:=Nn (hC.tok.facts ht) hu;have T:=V1c (hC.tok.facts b0) b2;have a6:b<w.heap.size:=(Array.getElem?_eq_some_iff.1 g2).1;have J:∀(n:Nat) k' Y e,es[n]?=some (k',Y)->ms.toList[n]?=some e->e.key = .int d k':=λn k' Y e a b=>by
       have:=(g4 n k' Y e a (by simpa using b)).1;generalize e.key=ek at this;cases this;rfl
      have b1:∀b5 sp,M ⟨b,b5,sp⟩=none:=g6
      have key:∃r u,(Instr.mapUpdate t (.map (some b)) (.int d v) zv).run F.C.P w = .ok () { w with heap:=w.heap.setIfInBounds b (.map r u) }/\r.size=(mputI v Y es).length/\
        (∀(i:Nat) k' I e,(mputI v Y es)[i]?=some (k',I)->r[i]?=some e->F2 M (.int d k') e.key/\A1 M G (Mc I) e.val)/\G14 r u:=by
       have A5:∀o',(setObj b o').run F.C.P w = .ok () { w with heap:=w.heap.setIfInBounds b o' }:=λo'=>by simp[setObj,Sem.run,g2]
       rcases G17 (k:=v) (i:=0) (by simpa using g3) J with⟨h1,h2,h3⟩|⟨n,b6,e,h1,h2,h3,h4,h5⟩
       ·refine⟨ms.push ⟨.int d v,zv,cl⟩,cl+1,?_,by rw[h3];simp[g3],λi k' I e B D=>?_,g5.push _ _⟩
        ·simp[Instr.mapUpdate,run_underlying hd,Oi g2,Iw T,Instr.findKey,run_underlying T,h2,A5]
        ·rw[h3]at B;rw[Array.getElem?_push]at D;split at D
         ·rename_i b7;simp only[zqb]at D;subst D;rw[List.getElem?_append_right (by omega)]at B;have:i-es.length=0:=by omega
          rw[this]at B;simp at B;obtain⟨rfl,rfl⟩:=B;exact⟨.int a5,Z⟩
         ·rename_i b7;have b8:i<ms.size:=by have:=(Array.getElem?_eq_some_iff.1 D).1;omega
          rw[zqx (by omega)]at B;exact g4 i k' I e B D
       ·have hn:n<ms.size:=by simpa using(zqu.1 h3).1
        have a2:ms[n]?=some e:=by simpa using h3
        have a9:e.key = .int d v:=J n v b6 e h1 h3;have b3:∀w,(Instr.keyThatStays (.int d v) (.int d v)).run F.C.P w = .ok (.int d v) w:=λw=>by
         have:Instr.sameBits 10000 (.int d v) (.int d v)=true:=by simp[Instr.sameBits]
         simp[Instr.keyThatStays,this]
        refine⟨ms.modify n λe=>{ e with key:=.int d v,val:=zv },cl,?_,by rw[h5];simp[g3],λi k' I e' B D=>?_,g5.modify _ _ λ_=>rfl⟩
        ·simp[Instr.mapUpdate,run_underlying hd,Oi g2,Iw T,Instr.findKey,run_underlying T,h4,a2,a9,b3,A5]
        ·rw[h5,List.getElem?_set]at B;rw[Array.getElem?_modify]at D;by_cases hin:n=i
         ·rw[zp hin]at D B;subst hin;rw[a2]at D;simp only[zqt,zqb]at D;subst D;rw[zp (by omega)]at B;simp only[zqb,zqh]at B;obtain⟨rfl,rfl⟩:=B;exact⟨.int a5,Z⟩
         ·rw[zn hin]at D B;exact g4 i k' I e' B D
      obtain⟨r,u,k1,k2,k3,k4⟩:=key;have a7:blk (.map (.i d es)) (G p) b:=by rw[U];rfl
      have X:∀c,blk (.map (.i d (mputI v Y es))) (G p) c->blk (.map (.i d es)) (G p) c:=λc hc=>by rw[U]at hc⊢;exact hc
      have V:Ext (λc=>c=b) M w M { w with heap:=w.heap.setIfInBounds b (.map r u) }:=
       ⟨λ_ _ e=>e,by simp,rfl,rfl,rfl,λc _ hc=>by simp[Array.getElem?_setIfInBounds_ne (Ne.symm hc)],λ_ _ e=>.inl e⟩
      have a8:M5 M G { w with heap:=w.heap.setIfInBounds b (.map r u) } (.map (.i d (mputI v Y es))) (G p):=
       ⟨b,r,u,U,by simp[a6],k2.trans (P1d _).symm,E20 k3,k4,g6⟩
      have ho':o.op = .mapUpdate t x y z\/o.op = .insert t x y z:=by
       unfold P26 at ho;split at ho
       ·rename_i h8;cases ho;exact .inl h8
       ·rename_i h8;cases ho;exact .inr h8
       ·cases ho
      have hr:(execOp a.eval o).run F.C.P w = .ok .skip { w with heap:=w.heap.setIfInBounds b (.map r u) }:=by
       unfold execOp;rcases ho' with ho'|ho'<;>simp only[ho',hxv,hyv,hzv,Sem.run_bind,k1,Result.andThen_ok,Sem.run_pure]
      unfold Oper.wp;rw[hr];refine hk .junk env _ M G _ undef ?_ (hs.setOb (A4 a4) hp a7 X V b1 a8 .junk) (b4.setOb hp a7 X (λ_=>rfl) V);rw[a1];exact k
     ·cases h
    ·cases h
   ·cases h
  ·cases h
 ·cases h
def A23 (kd:IntKind)(L:List Oper)(o:Oper)(env:Env)(H:F0):Option (Option Nat×Nat×F0):=
 match K1 L env o,o.op,O3 o with
 |some true,.makeMap _ none,some d=>match Dp H (.map (.i kd []))with|some (n,H')=>some (d,n,H')|none=>none
 |_,_,_=>none
def K0.wi (y:IntKind){n:Nat}(h:A23 y L o env H=some (d,n,H'))(k:K0 F L l (put env d (.mp n)) H' Q):K0 F L (o::l) env H Q:=by
 unfold A23 at h;split at h
 ·rename_i t Y T D V;split at h
  ·rename_i n' H2 O;simp only[zqb,zqh]at h;obtain⟨rfl,rfl,rfl⟩:=h;obtain⟨rfl,rfl⟩:=Nh O;refine T6 T λZ M G w a K Qw hK c B x U=>?_;have I:(execOp a.eval o).run F.C.P w = .ok (.value (.map (some w.heap.size))) (w.alloc (.map #[] 0)):=by
    unfold execOp;simp only[D,Instr.makeMap];rfl
   have J:Z3 M (w.alloc (.map #[] 0)):=B.good.alloc _;unfold Oper.wp;rw[I];have u:∀G,M5 M G (w.alloc (.map #[] 0)) (.map (.i y [])) (.map (some w.heap.size)):=λG=>⟨w.heap.size,#[],0,rfl,heap_alloc_new w _,rfl,λi k cs e h=>by simp[Kp.list]at h,.none,λz X=>by
    cases hM:M ⟨w.heap.size,z,X⟩with
    |none=>rfl
    |some v=>have:=B.good.lt hM;simp at this⟩
   have r:∀b,blk (.map (.i y [])) (.map (some w.heap.size)) b->w.heap.size<=b:=λb r=>by simp[blk]at r;omega
   refine U (.mp H.length) env _ M (I3 G H.length (.map (some w.heap.size))) _ _ ?_ (B.newOb (A4 c) (Od W5 M w _) J u r (.mp C2)) (x.newOb (Od W5 M w _) r);rw[W2 V];exact k
  ·cases h
 ·cases h
def K0.mi (hC:T1 F.C){es:List (Int×Row)}{k:Int}{b:Bool}{z y:A}(h:V18 F.C L o env H=some ⟨d,es,k,b,z⟩)(e:lkA (Rq k es) z b=y)
  (c:K0 F L l (put env d y) H Q):K0 F L (o::l) env H Q:=by
 subst e;obtain⟨u,r⟩:=H17 h;refine .yields u (W18 hC h rfl) ?_;rw[W2 r];exact c
def G1n (C:Cx)(L:List Oper)(o:Oper)(env:Env)(H:F0):Option (Nat×IntKind×Int×Row×List (Int×Row)):=
 match K1 L env o,P26 o.op,o.dst with
 |some true,some (t,x,y,z),none=>match Z1 C.T t,ev C.GL env x,ev C.GL env y,N18 (ev C.GL env z)with
  |some i,.mp p,.d (.int kd k),some cs=>match i.u,nth H p with
   |.map kt _,some (.map (.i kd' es))=>match Z1 C.T kt with
    |some ki=>match ki.u with
     |.int k3=>bif decide (k3=kd/\kd'=kd)then some (p,kd,k,cs,es)else none
     |_=>none
    |none=>none
   |_,_=>none
  |_,_,_,_=>none
 |_,_,_=>none
def F20 {C:Cx}{p:Nat}{b:IntKind}{k:Int}{cs:Row}{es:List (Int×Row)}(h:G1n C L o env H=some (p,b,k,cs,es))(h':Zc H p (.map (.i b (mputI k cs es)))=some H'):I1k C L o env H=some H':=by
 unfold G1n at h;unfold I1k;split at h
 ·split at h
  ·split at h
   ·split at h
    ·split at h
     ·obtain⟨c,h⟩:=B7 h;simp only[zqb,zqh]at h;obtain⟨rfl,rfl,rfl,rfl,rfl⟩:=h;simp_all only[zqk]
     ·cases h
    ·cases h
   ·cases h
  ·cases h
 ·cases h
def K0.ui (hC:T1 F.C){p:Nat}{c:IntKind}{k:Int}{cs:Row}{es b:List (Int×Row)}(h:G1n F.C L o env H=some (p,c,k,cs,es))(e:mputI k cs es=b)(h':Zc H p (.map (.i c b))=some H')
  (d:K0 F L l env H' Q):K0 F L (o::l) env H Q:=by subst e;exact .u_i hC (F20 h h') d
def L6 {α:Type}(k:Int):List (Int×α)->Option α
 |[]=>none
 |(k',x)::r=>bif k==k' then some x else L6 k r
def Oh {α:Type}(k:Int)(x:α):List (Int×α)->List (Int×α)
 |[]=>[(k,x)]
 |(k',y)::r=>bif k==k' then(k,x)::r else(k',y)::Oh k x r
section
variable {α:Type}{f:α->Row}{h:α->A}
def entsI (f:α->Row)(m:List (Int×α)):List (Int×Row):=m.map λp=>(p.1,f p.2)
def Q1d (f:α->Row)(k:Int):∀m:List (Int×α),Rq k (entsI f m)=(L6 k m).map f
 |[]=>rfl
 |(k',x)::r=>by
  show(bif k==k' then some (f x)else Rq k (entsI f r))=(bif k==k' then some x else L6 k r).map f;rw[Q1d f k r];cases k==k'<;>rfl
def R1d (f:α->Row)(k:Int)(x:α):∀m:List (Int×α),entsI f (Oh k x m)=mputI k (f x) (entsI f m)
 |[]=>rfl
 |(k',y)::r=>by
  show entsI f (bif k==k' then(k,x)::r else(k',y)::Oh k x r)=(bif k==k' then(k,f x)::entsI f r else(k',f y)::mputI k (f x) (entsI f r))
  rw[<-R1d f k x r];cases k==k'<;>rfl
def O28 (u:∀x,Mc (f x)=h x){z:α}{b:A}(c:b=h z){k:Int}{m:List (Int×α)}{x:Option α}(r:some (L6 k m)=some x):lkA (Rq k (entsI f m)) b true = .tup [h (x.getD z),.d (.bool x.isSome)]:=by
 cases r;rw[Q1d];cases L6 k m with
 |none=>simp[lkA,c]
 |some y=>simp[lkA,u]
def O2c (r:∀x,Mc (f x)=h x){z:α}{b:A}(c:b=h z){k:Int}{m:List (Int×α)}{x:Option α}(d:some (L6 k m)=some x):lkA (Rq k (entsI f m)) b false=h (x.getD z):=by
 cases d;rw[Q1d];cases L6 k m with
 |none=>simp[lkA,c]
 |some y=>simp[lkA,r]
end
def B23 (C:Cx)(L:List Oper)(o:Oper)(env:Env):Option (Option Nat×Nat×Int×Nat×Nat):=
 match K1 L env o,o.op,O3 o with
 |some true,.makeSlice t lx cx,some d=>match Z1 C.T t,ev C.GL env lx,ev C.GL env cx with
  |some i,.d (.int .i64 (.ofNat 0)),.d (.int .i64 m)=>match i.u with
   |.sl e=>match Z1 C.T e with
    |some j=>some (d,e,m,j.bytes,j.size)
    |none=>none
   |_=>none
  |_,_,_=>none
 |_,_,_=>none
def K0.mz (hC:T1 F.C){p:Nat}{m:Int}{c:Nat}(h:B23 F.C L o env=some (d,e,m,c,sz))
  (h0:0<=m/\m.toNat*(c+1)<=140737488355328) (hp:Dp H (.tok e sz)=some (p,H')) (k:K0 F L l (put env d (.osl p [])) H' Q):K0 F L (o::l) env H Q:=by
 unfold B23 at h;split at h
 ·rename_i t lx cx d' hw ho hd;split at h
  ·rename_i i m' ht a0 a2;split at h
   ·rename_i e' hu;split at h
    ·rename_i j he;simp only[zqb,zqh]at h;obtain⟨rfl,rfl,rfl,rfl,rfl⟩:=h;obtain⟨rfl,rfl⟩:=Nh hp;obtain⟨a4,z⟩:=h0;obtain⟨N,rfl⟩:∃N:Nat,m'=N:=⟨m'.toNat,by omega⟩
     simp only[Int.toNat_natCast]at *;have a3:N<=140737488355328:=Nat.le_trans (Nat.le_mul_of_pos_right N (Nat.succ_pos _)) z;refine T6 hw λfr M G w a K Qw hK U V a1 hk=>?_;have u:=V.eval lx;have y:=V.eval cx;rw[a0]at u;rw[a2]at y;generalize hv1:a.eval lx=v1 at u;generalize hv2:a.eval cx=v2 at y;cases u;rename_i u;cases u;cases y;rename_i y;cases y;have Z:=A7 (hC.tok.facts ht) hu;obtain⟨X,q1,q2,q3,z1,q4,q5,q6,q7⟩:=(hC.tok.facts he).info;have B:((X.bytes:Int)*(N:Int))<=281474976710656:=by
      have h1:j.bytes*N<=140737488355328:=Nat.le_trans (by rw[Nat.mul_comm];exact Nat.mul_le_mul_left N (Nat.le_succ _)) z;have h2:((j.bytes*N:Nat):Int)=(j.bytes:Int)*(N:Int):=by simp
      rw[q3];omega
     have T:(execOp a.eval o).run F.C.P w = .ok (.value (.slice (some ⟨w.heap.size,0,none⟩) 0 N)) (w.alloc (.cells (madeCells z1.cells (N*X.size)) e')):=by
      have:=run_make (P:=F.C.P) w t e' X z1 Z q1 q4 .i64 .i64 0 N (Int.le_refl _) (by omega) B (by omega);simp only[Int.toNat_natCast,Int.toNat_zero]at this;unfold execOp;simp only[ho,hv1,hv2,Int.ofNat_eq_natCast,Int.cast_ofNat_Int,Sem.run_bind,this,Result.andThen_ok,Sem.run_pure]
     have O:N<=maxLen:=by unfold maxLen;omega
     have hM:∀D J,M ⟨w.heap.size,D,J⟩=none:=λD J=>by
      cases hM:M ⟨w.heap.size,D,J⟩with
      |none=>rfl
      |some v=>have:=V.good.lt hM;simp at this
     have Y:M5 M G (w.alloc (.cells (madeCells z1.cells (N*X.size)) e')) (.tok e' j.size) (.slice (some ⟨w.heap.size,0,none⟩) 0 N):=
      .inr ⟨_,0,N,rfl,.inr rfl,Nat.zero_le _,O,λ_=>⟨rfl,_,heap_alloc_new w _,by rw[size_madeCells,q2];exact zqr _,λk J _=>hM k J⟩⟩
     have I:∀b,blk (.tok e' j.size) (.slice (some ⟨w.heap.size,0,none⟩) 0 N) b->w.heap.size<=b:=λb I=>by
      obtain⟨_,I⟩:=I;simp only at I;omega
     unfold Oper.wp;rw[T];rw[<-W2 hd]at k;refine hk _ _ _ _ _ _ _ k (V.newTok (A4 U) (Od W5 M w _) (V.good.alloc _) Y I (.osl (.sl 0 (λ_ _=>undef) rfl (Nat.zero_le _) O (.inr rfl) (λi r h=>by simp at h) (λi j r x h=>by simp at h) (λi j r x h=>by simp at h)) C2)) (a1.newTok (Od W5 M w _) I)
    ·cases h
   ·cases h
  ·cases h
 ·cases h
def S1d {p:Nat}{x:Ob}(b:p<H.length)(c:ps.contains p=false):A5 (J3 ps H) p x=J3 ps (A5 H p x):=by
 apply List.ext_getElem?;intro n;rw[C5 _ _ _ _ (by rw[I9];exact b),O7,O7,C5 _ _ _ _ b];by_cases e:n=p
 ·subst e;rw[zp rfl,zp rfl,zqt,c];rfl
 ·rw[zn e,zn e]
def J1k:∀(H:F0) (n:Nat) (x:Ob),Zc H n x=some (A5 H n x)
 |[],_,_=>rfl
 |_::_,0,_=>rfl
 |y::r,n+1,x=>by simp only[Zc,A5,J1k r n x]
def L1w {C:Cx}(h:∀t∈Gb L o,env' t=env t):Fw C L o env' H=Fw C L o env H:=by
 have b:∀y∈o.op.operands,ev C.GL env' y=ev C.GL env y:=λy d=>O10 λt r=>h t (by
  subst r;simp only[Gb,List.mem_append,List.mem_filterMap];exact .inl ⟨.tmp t,by simpa using d,rfl⟩)
 unfold Fw;rw[Ar h];split
 ·rename_i t x y u c v;rw[b x (by rw[c];simp[Op.operands]),b y (by rw[c];simp[Op.operands])]
 ·rfl
def U1s (C:Cx)(o:Oper)(env:Env):Option Nat:=
 match o.op with
 |.store _ x _=>match ev C.GL env x with |.ref p _=>some p|_=>none
 |_=>none
def Qp.s {F:Fx}(hC:T1 F.C){L:List Oper}{o:Oper}{env:Env}{H H':F0}{un tk:List Nat}{p:Nat}(h:Fw F.C L o env H=some H')(c:U1s F.C o env=some p)(v:un.contains p=false) :
  ∀ps:List Nat,(∀q∈ps,q∈un)->Qp F L o env tk (J3 ps H) .junk (J3 ps H'):=by
 intro ps I env' K Y _ Q O;have d:ps.contains p=false:=by
  cases hb:ps.contains p with
  |false=>rfl
  |true=>
   have X:=I p (by simpa using hb);have T:un.contains p=true:=by simpa using X
   rw[v]at T;cases T
 have h':Fw F.C L o env' (J3 ps H)=some (J3 ps H'):=by
  rw[L1w Y];unfold Fw at h⊢;split at h
  ·rename_i t x y hw U u;unfold U1s at c;rw[U]at c;simp only at c;split at h
   ·rename_i i p' B xs ht Z a0;rw[Z]at c;simp only[zqb]at c;subst c;split at h
    ·rename_i b e r;have J:nth (J3 ps H) p'=some (.row b e):=by
      rw[Q2]at r⊢;rw[O7,r,zqt,d];rfl
     simp only[J];cases hb:Nat.beq xs.length i.size&&Nat.ble (B+i.size) b.length with
     |false=>rw[hb]at h;cases h
     |true=>
      rw[hb]at h;simp only[_root_.cond_true]at h;split at h
      ·rename_i D V;show Zc (J3 ps H) p' (Ob.row D e)=_;have e1:=Rj h;subst e1;rw[Q2]at r;have z:=(zqu.1 r).1;have:Zc (J3 ps H) p' (.row D e)=some (A5 (J3 ps H) p' (.row D e)):=J1k _ _ _;exact this.trans (by rw[S1d z d])
      ·cases h
    ·cases h
   ·cases h
  ·cases h
 have u:o.dst=none:=by
  unfold Fw at h;split at h
  ·rename_i u;exact u
  ·cases h
 rw[u]at O;exact K0.s (F:=⟨F.C,F.N,K,Z15,D11⟩) hC h' (K0.nil O)
section
variable {F:Fx}{L l:List Oper}{o:Oper}{env:Env}{ls:List Nat}{fs:List (Nat×Nat)}{Hs:List F0}{tk:List Nat}{j i:Nat}{Q:Env->Prop}
def AS.s (hC:T1 F.C){H H':F0}{p:Nat}(d:nth ls i=some j)(x:Jk fs j=none)(v:nth Hs i=some H)(u:nth Hs (i+1)=some H')(h:Fw F.C L o env H=some H')(y:U1s F.C o env=some p)
  (c:(unw L fs j).contains p=false) (k:AS F L ls fs Hs tk (j+1) (i+1) l env Q):AS F L ls fs Hs tk j i (o::l) env Q:=by
 have b:K1 L env o=some true/\o.dst=none:=by
  unfold Fw at h;split at h
  ·rename_i b z r;exact⟨b,r⟩
  ·cases h
 exact .inr (.inl ⟨.junk,H,H',d,x,b.1,v,u,Qp.s hC h y c,rfl,by rw[b.2];exact k⟩)
end
def V1s (T:TT)(t:Nat)(parts:List (Nat×A)):Option A:=
 match Z1 T t with
 |none=>none
 |some i=>match i.u with
  |.st fs=>(Ks (λn=>(nth fs n).map λf=>(f.2.1,f.2.2)) (i.zero.map zf) parts).map .agg
  |_=>none
section
variable {P:Program}{M:Mem}{G:Nat->Value}{w:World}
def C23 {T:TT}(hT:TOk P T){t:Nat}{c:List (Nat×A)}{N1:Array (Nat×Value)}(hl:c.length=N1.size)
  (hp:∀(i:Nat) p q,c[i]?=some p->N1[i]?=some q->p.1=q.1/\A1 M G p.2 q.2) {z:A} (h:V1s T t c=some z):Mp P M G w (Instr.build t N1) z:=by
 unfold V1s at h;split at h
 ·cases h
 ·rename_i i Y;have f:=hT.facts Y;obtain⟨zv,J,I⟩:=F17 (M:=M) (G:=G) hT Y;split at h
  ·rename_i fs hu;obtain⟨r,hd,Z,y⟩:=S1o f hu;cases ho:Ks (λn=>(nth fs n).map λf=>(f.2.1,f.2.2)) (i.zero.map zf) c with
   |none=>rw[ho]at h;cases h
   |some V=>
    rw[ho]at h;simp only[zqt,zqb]at h;subst h;obtain⟨d,D,U⟩:=S1j (P:=P) w r (λn f v=>by
     obtain⟨g,O⟩:=y n f v;obtain⟨f',B,X,_,_,_,e6⟩:=Z n g O;rw[v]at B;cases B;rw[X];exact e6)
    have u:∀n,d[n]?=((nth fs n).map λf=>(f.2.1,f.2.2)):=λn=>by
     rw[Q2,U n];cases v:fs[n]? with
     |none=>
      have:r[n]?=none:=by
       cases hfn:r[n]? with
       |none=>rfl
       |some f=>obtain⟨g,O⟩:=y n f hfn;rw[O]at v;cases v
      rw[this];rfl
     |some g=>
      obtain⟨f',B,X,e3,e4,_,_⟩:=Z n g v;rw[B];simp[X,e3,e4]
    have x:(λn=>d[n]?)=(λn=>(nth fs n).map λf=>(f.2.1,f.2.2)):=funext u;have:Ks (λn=>d[n]?) (i.zero.map zf) c=some V:=by rw[x];exact ho
    obtain⟨ws,g1,g2,g3,g4⟩:=K10 I (by rw[Array.length_toList];exact hl) (λn p q a b=>hp n p q a (by simpa using b)) this;refine⟨.agg ws,?_,.agg g2 g3 g4⟩;simp only[Instr.build,Sem.run_bind,J,Result.andThen_ok,run_underlying hd,D,g1,Sem.run_pure]
  ·cases h
end
def X18 (C:Cx)(L:List Oper)(o:Oper)(env:Env):Option (Option Nat×A):=
 match K1 L env o,o.op,O3 o with
 |some true,.build t parts,some d=>match V1s C.T t (parts.toList.map λp=>(p.1,ev C.GL env p.2))with
  |some y=>match frc y with|some z=>some (d,z)|none=>none
  |none=>none
 |_,_,_=>none
def G20 {C:Cx}{x:A}(h:X18 C L o env=some (d,x)):O3 o=some d:=by
 unfold X18 at h;split at h
 ·rename_i t b v r u c;split at h
  ·split at h
   ·simp only[zqb,zqh]at h;rw[<-h.1];exact c
   ·cases h
  ·cases h
 ·cases h
def J1p {C:Cx}(hC:T1 C){x:A}(h:X18 C L o env=some (d,x)):K1 L env o=some true/\O3 o=some d/\R4 C o env H x:=by
 have U:=G20 h;unfold X18 at h;split at h
 ·rename_i t b d' Y J hd;split at h
  ·rename_i y V;split at h
   ·rename_i z I;simp only[zqb,zqh]at h;obtain⟨rfl,rfl⟩:=h;have:=On I;subst this;refine⟨Y,hd,?_⟩;intro M G w a D Qw B O _ hH Z;have u:∃v,(execOp a.eval o).run C.P w = .ok (.value v) w/\A1 M G z v:=by
     unfold execOp;rw[J]at B⊢;refine Lq (C23 hC.tok (by simp) (λi p q c r=>?_) V);simp only[List.getElem?_map,Array.getElem?_toList,Array.getElem?_map]at c r;cases hpi:b[i]? with
     |none=>rw[hpi]at c;cases c
     |some T=>
      rw[hpi]at c r;simp only[zqt,zqb]at c r;subst c;subst r;exact⟨rfl,B _ (by simp only[Op.operands,List.mem_toArray,List.mem_map];exact⟨T,by simpa using Array.mem_of_getElem? hpi,rfl⟩)⟩
    obtain⟨v,X,h2⟩:=u;unfold Oper.wp;rw[X];exact Z v M w h2 O (Ext.refl _ _ _)
   ·cases h
  ·cases h
 ·cases h
def K0.bz (hC:T1 F.C){H:F0}{x:A}(h:X18 F.C L o env=some (d,x))(k:K0 F L l (put env d x) H Q):K0 F L (o::l) env H Q:=by
 obtain⟨r,c,b⟩:=J1p (H:=H) hC h;refine .yields r b ?_;rw[W2 c];exact k
def AQ.bz {C:Cx}(hC:T1 C){H:F0}{Q:Env->Prop}{x:A}(h:X18 C L o env=some (d,x))(k:AQ C L l (put env d x) H Q):AQ C L (o::l) env H Q:=by
 obtain⟨r,c,b⟩:=J1p (H:=H) hC h;exact⟨d,_,W2 c,.inl ⟨r,b⟩,k⟩
def St.moveTok {C:Cx}{w w':World}{a:Act}(h:St C N M G w env H a)(hd:∀d,dst=some d->d<N){p:Nat}{x:A}
  (Z:H[p]?=some (.tok e sz)) (r:Ext (λb=>blk (.tok e sz) (G p) b) M w M' w') (hg:Z3 M' w') (z:M5 M' G w' (.tok e sz) v') (a4:∀b,blk (.tok e sz) v' b->blk (.tok e sz) (G p) b\/w.heap.size<=b)
  (hx:A1 M' (I3 G H.length v') x v') :
  St C N M' (I3 G H.length v') w' (put env dst x) (A5 H p .gone++[.tok e sz]) (a.put dst v'):=by
 have a1:p<H.length:=(zqu.1 Z).1;have hl:(A5 H p .gone).length=H.length:=H9 _ _ _;have J:∀{x:A} {v:Value},A1 M G x v->A1 M' (I3 G H.length v') x v:=λhr=>hr.mono r.mono λo hn=>P1 (Nat.ne_of_lt (h.hrel.lt hr hn));obtain⟨h1,h2,h3⟩:=Np (λt=>J (h.env t)) h.size hd hx;have a5:∀(o:Nat) x,(A5 H p .gone++[Ob.tok e sz])[o]?=some x->(o<H.length/\o≠p/\H[o]?=some x)\/(o=p/\x = .gone)\/(o=H.length/\x = .tok e sz):=λo x D=>by
  rcases Nat.lt_trichotomy o H.length with T|rfl|hgt
  ·rw[zqx (by omega),C5 _ _ _ _ a1]at D;by_cases B:o=p
   ·rw[zp B]at D;cases D;exact .inr (.inl ⟨B,rfl⟩)
   ·rw[zn B]at D;exact .inl ⟨T,B,D⟩
  ·rw[List.getElem?_append_right (by omega),hl,Nat.sub_self]at D;simp at D;exact .inr (.inr ⟨rfl,D.symm⟩)
  ·rw[List.getElem?_eq_none (by simp;omega)]at D;cases D
 refine⟨hg,h.gl.ext h.hrel r (λb I=>⟨p,_,Z,I⟩),⟨λo x D=>?_,λo o' x x' b D a0 I O=>?_,λo D=>?_⟩,h1,h2,h3.trans h.defers⟩
 ·rcases a5 o x D with⟨T,B,Y⟩|⟨rfl,rfl⟩|⟨rfl,rfl⟩
  ·rw[P1 (Nat.ne_of_lt T)];have X:=h.hrel.obj o x Y;have z:=X.keep r.mono r.size (λb I=>r.block b (V7 X I) λO=>B (h.hrel.apart o p x _ b Y Z I O)) λb I a9 sp hn=>by
    cases hM:M' ⟨b,a9,sp⟩with
    |none=>rfl
    |some u=>
     rcases r.fresh _ u hM with q|q|q
     ·rw[hn]at q;cases q
     ·exact absurd (h.hrel.apart o p x _ b Y Z I q) B
     ·have:=V7 X I;simp only at q;omega
   cases x with
   |dead=>trivial
   |row a6 e=>
    obtain⟨b,us,V,U,g3,g4,g5,g6⟩:=z;obtain⟨b0,a8,f1,f2,f3,f4,f5,f6⟩:=X;rw[V]at f1;simp only[Value.pointer.injEq,zqb,Addr.mk.injEq,and_true]at f1;subst f1;have a2:us=a8:=by
     have hk:=r.block b (V7 (h.hrel.obj o _ Y) (by rw[V];rfl)) λO=>B (h.hrel.apart o p _ _ b Y Z (by rw[V];rfl) O);rw[hk,f2]at U;simp only[zqb,Obj.cells.injEq]at U;exact U.1.symm
    subst a2;exact⟨b,us,V,U,g3,g4,λi y v a c=>J (f5 i y v a c),g6⟩
   |bld o' e=>
    obtain⟨b,v0,V,U,g3,g4,g5⟩:=z;have a0:o'≠H.length:=λe=>g4 _ (by rw[e];exact h.hrel.fresh _ (zqr _));exact⟨b,v0,V,by rw[P1 a0];exact U,g3,by rw[P1 a0];exact g4,g5⟩
   |buf e sz=>exact z
   |vec e sz cs=>exact z
   |slots γ e l=>exact z
   |tok e sz=>exact z
   |rok e sz=>exact z
   |gone=>exact z
   |map es=>
    obtain⟨b,ms,cl,V,U,g3,g4,g5⟩:=z;obtain⟨b0,a7,b1,f1,f2,f3,f4,f5⟩:=X;rw[V]at f1;simp only[Value.map.injEq,zqb]at f1;subst f1;have a2:ms=a7:=by
     have hk:=r.block b (V7 (h.hrel.obj o _ Y) (by rw[V];rfl)) λO=>B (h.hrel.apart o p _ _ b Y Z (by rw[V];rfl) O);rw[hk,f2]at U;simp only[zqb,Obj.map.injEq]at U;exact U.1.symm
    subst a2;exact⟨b,ms,cl,V,U,g3,λi k cs e a c=>⟨(g4 i k cs e a c).1,J (f4 i k cs e a c).2⟩,g5⟩
  ·rw[P1 (Nat.ne_of_lt a1)];rcases h.hrel.obj _ _ Z with e|⟨_,_,_,e,_⟩<;>exact⟨_,_,_,e⟩
  ·rw[C2];exact z
 ·have a3:∀(o:Nat) x b,(A5 H p .gone++[Ob.tok e sz])[o]?=some x->blk x (I3 G H.length v' o) b->(o<H.length/\o≠p/\H[o]?=some x/\blk x (G o) b)\/(o=H.length/\(blk (.tok e sz) (G p) b\/w.heap.size<=b)):=by
   intro o x b D I;rcases a5 o x D with⟨T,B,Y⟩|⟨rfl,rfl⟩|⟨rfl,rfl⟩
   ·rw[P1 (Nat.ne_of_lt T)]at I;exact .inl ⟨T,B,Y,I⟩
   ·simp[blk]at I
   ·rw[C2]at I;exact .inr ⟨rfl,a4 b I⟩
  rcases a3 o x b D I with⟨q1,q2,q3,q4⟩|⟨q1,q2⟩<;>rcases a3 o' x' b a0 O with⟨p1,p2,p3,p4⟩|⟨p1,p2⟩
  ·exact h.hrel.apart o o' x x' b q3 p3 q4 p4
  ·rcases p2 with p2|p2
   ·exact absurd (h.hrel.apart o p x _ b q3 Z q4 p2) q2
   ·have:=V7 (h.hrel.obj o x q3) q4;omega
  ·rcases q2 with q2|q2
   ·exact absurd (h.hrel.apart o' p x' _ b p3 Z p4 q2) p2
   ·have:=V7 (h.hrel.obj o' x' p3) p4;omega
  ·omega
 ·simp only[zqc,hl,zqd,zqe]at D;rw[P1 (by omega)];exact h.hrel.fresh o (by omega)
def D2.moveTok {w U:World}(h:D2 fr M G w H){p:Nat}
  (T:H[p]?=some (.tok e sz)) (D:Ext (λb=>blk (.tok e sz) (G p) b) M w M' U) (I:∀b,blk (.tok e sz) v' b->blk (.tok e sz) (G p) b\/w.heap.size<=b) :
  D2 fr M' (I3 G H.length v') U (A5 H p .gone++[.tok e sz]):=by
 have v:p<H.length:=(zqu.1 T).1;have X:(A5 H p .gone).length=H.length:=H9 _ _ _;have J:∀(o:Nat) x,(A5 H p .gone++[Ob.tok e sz])[o]?=some x->(o<H.length/\o≠p/\H[o]?=some x)\/(o=p/\x = .gone)\/(o=H.length/\x = .tok e sz):=λo x c=>by
  rcases Nat.lt_trichotomy o H.length with d|rfl|hgt
  ·rw[zqx (by omega),C5 _ _ _ _ v]at c;by_cases r:o=p
   ·rw[zp r]at c;cases c;exact .inr (.inl ⟨r,rfl⟩)
   ·rw[zn r]at c;exact .inl ⟨d,r,c⟩
  ·rw[List.getElem?_append_right (by omega),X,Nat.sub_self]at c;simp at c;exact .inr (.inr ⟨rfl,c.symm⟩)
  ·rw[List.getElem?_eq_none (by simp;omega)]at c;cases c
 refine⟨h.ext.trans D λb u=>h.own b ⟨p,_,T,u⟩,λb ⟨o,z,V,u⟩=>?_,by simp;have:=h.len;omega,λo x c O=>?_,λo x y c O B=>?_⟩
 ·rcases J o z V with⟨d,r,B⟩|⟨rfl,rfl⟩|⟨rfl,rfl⟩
  ·rw[P1 (Nat.ne_of_lt d)]at u;exact h.own b ⟨o,z,B,u⟩
  ·simp[blk]at u
  ·rw[C2]at u;rcases I b u with q|q
   ·exact h.own b ⟨p,_,T,q⟩
   ·exact .inr (Nat.le_trans h.ext.size q)
 ·have d:o<H.length:=Nat.lt_of_lt_of_le (zqu.1 c).1 h.len;rw[P1 (Nat.ne_of_lt d)];exact h.keep o x c O
 ·have d:o<H.length:=Nat.lt_of_lt_of_le (zqu.1 c).1 h.len;rcases J o y B with⟨_,_,B⟩|⟨rfl,rfl⟩|⟨rfl,_⟩
  ·exact h.kind o x y c O B
  ·have:=h.kind _ x _ c O T;cases this
  ·omega
def X11 (C:Cx)(L:List Oper)(o:Oper)(env:Env)(H:F0):Option Ap:=
 match K1 L env o,o.op,O3 o with
 |some true,.call { callee:=.builtin .append,args,argTypes },some d=>
  match args.toList,argTypes.toList with
  |[x,y],[t,t']=>bif Nat.beq t t' then
   (match Z1 C.T t,Mn (ev C.GL env y)with
   |some it,some news=>match it.u with
    |.sl e=>match Z1 C.T e with
     |some ie=>match ev C.GL env x with
      |.osl p rows=>match nth H p with
       |some (.tok e' sz')=>bif Nat.beq e e'&&Nat.beq ie.size sz' then some ⟨d,p,false,rows,news,ie.size,ie.bytes,A5 H p .gone++[.tok e ie.size]⟩else none
       |_=>none
      |.full rows=>some ⟨d,H.length,true,rows,news,ie.size,ie.bytes,H++[.tok e ie.size]⟩
      |_=>none
     |none=>none
    |_=>none
   |_,_=>none)else none
  |_,_=>none
 |_,_,_=>none
def K0.am (hC:T1 F.C){p:Nat}{nw:Bool}{c:List Row}{u:Nat}
  (h:X11 F.C L o env H=some ⟨d,p,nw,rows,c,sz,u,H'⟩) (h1:∀r∈rows,r.length=sz) (h2:∀r∈c,r.length=sz) (h3:(rows.length+c.length)*(u+1)<=140737488355328)
  (k:K0 F L l (put env d (.osl H.length (rows++c))) H' Q):K0 F L (o::l) env H Q:=by
 unfold X11 at h;split at h
 ·rename_i U ts dd hw ho hd;split at h
  ·rename_i x y t t' ha ht;cases V:Nat.beq t t' with
   |false=>rw[V]at h;cases h
   |true=>
    rw[V]at h;obtain rfl:=zqo V;simp only[zqk]at h;split at h
    ·rename_i it D a1 I;split at h
     ·rename_i e hu;split at h
      ·rename_i ie a5;have a7:x∈o.op.operands/\y∈o.op.operands:=by
        rw[ho];obtain rfl:U = #[x,y]:=by rw[<-Array.toArray_toList (xs:=U),ha]
        simp[Op.operands,Call.operands]
       have B:(rows.length+c.length)*u<=140737488355328/\rows.length+c.length<=maxLen:=by
        have:(rows.length+c.length)*(u+1)=(rows.length+c.length)*u+(rows.length+c.length):=Nat.mul_succ _ _;unfold maxLen;omega
       split at h
       ·rename_i q z hx;split at h
        ·rename_i e' a6 hq;cases hbb:Nat.beq e e'&&Nat.beq ie.size a6 with
         |false=>rw[hbb]at h;cases h
         |true=>
          rw[hbb]at h;simp only[zqi]at hbb;obtain rfl:=zqo hbb.1;obtain rfl:=zqo hbb.2;simp only[zqk]at h;simp only[zqb,Ap.mk.injEq]at h;obtain⟨rfl,rfl,rfl,rfl,rfl,rfl,rfl,rfl⟩:=h;refine T6 hw λfr M G w a K Qw hK J O Y hk=>?_;have v:=O.eval x;rw[hx]at v;generalize hxv:a.eval x=xv at v;cases v;rename_i a3 T;rw[Q2]at hq;have a2:Tok M w e ie.size xv:=by have:=O.hrel.obj _ _ hq;rw[a3]at this;exact this
          obtain⟨Z,w',M',r1,r2,r3,r4,r5,r6⟩:=W1g (ty:=o.type) hC.tok O.good a1 hu a5 T (L9 I (O.eval y)) a2 h1 h2 B.1 B.2;unfold Oper.wp;rw[Cn ho ha ht (by rw[hxv];exact r1)];rw[<-a3]at r5 r6;refine hk (.osl H.length (z++D)) env _ M' (I3 G H.length Z) w' Z ?_ (O.moveTok (A4 J) hq r5 r4 r3 r6 (.osl r2 C2)) (Y.moveTok hq r5 r6);rw[W2 hd];exact k
        ·cases h
       ·rename_i z hx;simp only[zqb,Ap.mk.injEq]at h;obtain⟨rfl,rfl,rfl,rfl,rfl,rfl,rfl,rfl⟩:=h;refine T6 hw λfr M G w a K Qw hK J O Y hk=>?_;have v:=O.eval x;rw[hx]at v;generalize hxv:a.eval x=xv at v;cases v;rename_i X T;obtain⟨t1,t2⟩:=H11 (G:=λ_=>.tuple #[]) (w:=w) T X e ie.size;obtain⟨Z,w',M',r1,r2,r3,r4,r5,r6⟩:=W1g (ty:=o.type) hC.tok O.good a1 hu a5 T (L9 I (O.eval y)) t1 h1 h2 B.1 B.2;unfold Oper.wp;rw[Cn ho ha ht (by rw[hxv];exact r1)];have a0:Ext W5 M w M' w':=r5.weaken λb V=>absurd V (t2 b);have a4:∀b,blk (.tok e ie.size) Z b->w.heap.size<=b:=λb V=>(r6 b V).resolve_left (t2 b);refine hk (.osl H.length (z++D)) env _ M' (I3 G H.length Z) w' Z ?_ (O.newTok (A4 J) a0 r4 r3 a4 (.osl r2 C2)) (Y.newTok a0 a4);rw[W2 hd];exact k
       ·cases h
      ·cases h
     ·cases h
    ·cases h
  ·cases h
 ·cases h
def T1d {x:Ob}(b:∀q∈ps,q<H.length):J3 ps (H++[x])=J3 ps H++[x]:=by
 apply List.ext_getElem?;intro n;rw[O7];by_cases hlt:n<H.length
 ·rw[zqx hlt,zqx (by rw[I9];exact hlt),O7]
 ·rw[List.getElem?_append_right (by omega),List.getElem?_append_right (by rw[I9];omega),I9];have:ps.contains n=false:=by
   cases hb:ps.contains n with
   |false=>rfl
   |true=>exact absurd (b n (by simpa using hb)) hlt
  cases[x][n-H.length]? with
  |none=>rfl
  |some y=>simp only[zqt,this];rfl
def W1s {C:Cx}{p:Nat}{Z:Bool}{u:List Row}{b:Nat}(Y:∀t∈Gb L o,env' t=env t)
  (h:X11 C L o env H=some ⟨d,p,Z,rows,u,sz,b,H'⟩) (D:∀q∈ps,q<H.length) (X:ps.contains p=false) :
  ∃p',X11 C L o env' (J3 ps H)=some ⟨d,p',Z,rows,u,sz,b,J3 ps H'⟩:=by
 have z:∀y∈o.op.operands,ev C.GL env' y=ev C.GL env y:=λy hy=>O10 λt V=>Y t (by
  subst V;simp only[Gb,List.mem_append,List.mem_filterMap];exact .inl ⟨.tmp t,by simpa using hy,rfl⟩)
 unfold X11 at h⊢;rw[Ar Y];split at h
 ·rename_i r ts dd hw ho hd;split at h
  ·rename_i x y t t' ha V;have c:x∈o.op.operands/\y∈o.op.operands:=by
    rw[ho];obtain rfl:r = #[x,y]:=by rw[<-Array.toArray_toList (xs:=r),ha]
    simp[Op.operands,Call.operands]
   rw[z x c.1,z y c.2];cases hb:Nat.beq t t' with
   |false=>rw[hb]at h;cases h
   |true=>
    rw[hb]at h;simp only[zqk]at h;split at h
    ·rename_i it J a0 O;split at h
     ·rename_i e hu;split at h
      ·rename_i ie a1;split at h
       ·rename_i q v hx;split at h
        ·rename_i e' B I;cases hbb:Nat.beq e e'&&Nat.beq ie.size B with
         |false=>rw[hbb]at h;cases h
         |true=>
          rw[hbb]at h;simp only[zqk,zqb,Ap.mk.injEq]at h;obtain⟨rfl,rfl,rfl,rfl,rfl,rfl,rfl,rfl⟩:=h;have T:q<H.length:=(zqu.1 (by rw[Q2]at I;exact I)).1;have U:nth (J3 ps H) q=some (.tok e' B):=by
           rw[Q2]at I⊢;rw[O7,I,zqt,X];rfl
          refine⟨q,?_⟩;rw[T1d (by rw[H9];exact D),<-S1d T X];simp[U,hbb]
        ·cases h
       ·rename_i v hx;simp only[zqb,Ap.mk.injEq]at h;obtain⟨rfl,rfl,rfl,rfl,rfl,rfl,rfl,rfl⟩:=h;refine⟨(J3 ps H).length,?_⟩;rw[T1d D];simp
       ·cases h
      ·cases h
     ·cases h
    ·cases h
  ·cases h
 ·cases h
def H20 {C:Cx}{r:Ap}(h:X11 C L o env H=some r):K1 L env o=some true/\O3 o=some r.d:=by
 unfold X11 at h;split at h
 ·rename_i b D B u v c;refine⟨u,?_⟩;split at h
  ·rename_i x y t t' I z;cases hb:Nat.beq t t' with
   |false=>rw[hb]at h;cases h
   |true=>
    rw[hb]at h;simp only[zqk]at h;split at h
    ·split at h
     ·split at h
      ·split at h
       ·split at h
        ·obtain⟨_,h⟩:=B7 h;simp only[zqb]at h;subst h;exact c
        ·cases h
       ·simp only[zqb]at h;subst h;exact c
       ·cases h
      ·cases h
     ·cases h
    ·cases h
  ·cases h
 ·cases h
section
variable {F:Fx}{L l:List Oper}{o:Oper}{env:Env}{ls:List Nat}{fs:List (Nat×Nat)}{Hs:List F0}{tk:List Nat}{j i:Nat}{Q:Env->Prop}
def AS.am (hC:T1 F.C){H H':F0}{d:Option Nat}{p q:Nat}{X:Bool}{rows b rs:List Row}{sz c:Nat}(O:nth ls i=some j)(T:Jk fs j=none)(h2:nth Hs i=some H)(D:nth Hs (i+1)=some H')
  (h:X11 F.C L o env H=some ⟨d,p,X,rows,b,sz,c,H'⟩) (e:rs=rows++b) (J:∀r∈rows,r.length=sz) (k2:∀r∈b,r.length=sz) (k3:(rows.length+b.length)*(c+1)<=140737488355328)
  (v:H.length=q) (u:((unw L fs j).all (λp=>Nat.blt p H.length) && !(unw L fs j).contains p)=true) (B:tk.contains H.length=false) (k:AS F L ls fs Hs tk (j+1) (i+1) l (put env d (.osl q rs)) Q):AS F L ls fs Hs tk j i (o::l) env Q:=by
 subst e;subst v;obtain⟨w1,Y⟩:=H20 h;have z:=W2 Y;simp only[zqi,List.all_eq_true]at u;refine .inr (.inl ⟨.osl H.length (rows++b),H,H',O,T,w1,h2,D,λy x env' K V _ Q v=>?_,by simp only[dg,B,zql],by rw[z];exact k⟩);have I:y.contains p=false:=by
  cases hb:y.contains p with
  |false=>rfl
  |true=>
   have U:=x p (by simpa using hb);have Z:(unw L fs j).contains p=true:=by simpa using U
   rw[Z]at u;exact absurd u.2 (by simp)
 obtain⟨p',hs⟩:=W1s V h (λq v=>Nat.le_of_ble_eq_true (u.1 q (x q v))) I;refine K0.am (F:=⟨F.C,F.N,K,Z15,D11⟩) hC hs J k2 k3 (K0.nil ?_);rw[I9];rw[z]at v;exact v
end
def Rr {sz:Nat}:∀{rows:List Row},(∀r∈rows,r.length=sz)->rows.flatten.length=rows.length*sz
 |[],_=>by simp
 |r::c,h=>by
  rw[List.flatten_cons,zqc,Rr λx b=>h x (zqq _ b),h r zqp,zqd,Nat.add_mul];omega
def I17 {sz:Nat}:∀{rows:List Row},(∀r∈rows,r.length=sz)->∀{i j:Nat} {r:Row} {x:D},rows[i]?=some r->r[j]?=some x->rows.flatten[i*sz+j]?=some x
 |[],_,i,j,r,x,h,_=>by simp at h
 |r0::u,b,0,j,r,x,h,c=>by
  simp at h;subst h;have v:=(zqu.1 c).1;rw[List.flatten_cons,zqx (by omega),Nat.zero_mul,Nat.zero_add];exact c
 |r0::u,b,i+1,j,r,x,h,c=>by
  have d:=b r0 zqp;rw[List.flatten_cons,List.getElem?_append_right (by rw[d,Nat.add_mul];omega),d,Nat.add_mul,show i*sz+1*sz+j-sz=i*sz+j by omega];exact I17 (λx c=>b x (zqq _ c)) (by simpa using h) c
def J11 {sz:Nat}:∀{rows:List Row},(∀r∈rows,r.length=sz)->∀{k:Nat} {x:D},rows.flatten[k]?=some x->∃i j r,k=i*sz+j/\j<sz/\rows[i]?=some r/\r[j]?=some x
 |[],_,k,x,h=>by simp at h
 |r0::z,b,k,x,h=>by
  have u:=b r0 zqp;rw[List.flatten_cons]at h;by_cases hk:k<sz
  ·rw[zqx (by omega)]at h;exact⟨0,k,r0,by omega,hk,rfl,h⟩
  ·rw[List.getElem?_append_right (by omega),u]at h;obtain⟨i,j,r,B,d,y,v⟩:=J11 (λx c=>b x (zqq _ c)) h;exact⟨i+1,j,r,by rw[Nat.add_mul];omega,d,by simpa using y,v⟩
def X1s {P:Program}{T:TT}(hT:TOk P T){w:World}(hG:Z3 M w){t ty:Nat}{it V:TI}(ht:Z1 T t=some it)(hu:it.u = .sl e)(he:Z1 T e=some V){b:List Row}{u:Value}
  (D:F2 M (.sl []) v) (hf:K1j v) (b0:F2 M (.sl b) u) (a5:b≠[]) (hn:∀r∈b,r.length=V.size) (hb:b.length*V.bytes<=140737488355328) (hm:b.length<=maxLen) :
  ∃cap vs,(Builtin.append_ #[t,t] ty #[v,u]).run P w = .ok (.slice (some ⟨w.heap.size,0,none⟩) b.length cap) (w.drew.alloc (.cells vs e))/\b.length<=cap/\cap<=maxLen/\I18 M G (b.flatten.map .d) vs:=by
 have fe:=hT.facts he;have hd:=A7 (hT.facts ht) hu;obtain⟨I,hi,b7,b4,z,hz,b5,b9,_⟩:=fe.info;obtain⟨c,b1,a6⟩:=C1a hG b0 hn;have a2:0<b.length:=by cases b with|nil=>exact absurd rfl a5|cons _ _=>simp
 rcases a6 with⟨rfl,rfl⟩|⟨na,a0,rfl,c3,c2,c1,c7,O⟩
 ·exact absurd rfl a5
 have Y:b.length*I.bytes<=140737488355328:=by rw[b4];exact hb
 have a3:(R3 V.size b.length c).length=b.length*I.size:=by rw[G7,b7]
 have B:∀(j:Nat) u,(R3 V.size b.length c)[j]?=some u->w.cell? (na.add j)=some u:=λj u hu=>(O j u hu).1;have Z:∀(n:Nat) (i:Nat) v,(Builtin.zeroCells z.cells n)[i]?=some v->v.oneCell'=true:=λn i v D=>by
  unfold Builtin.zeroCells at D;rw[Array.getElem?_map]at D;cases hr:(Array.range (n*z.cells.size))[i]? with
  |none=>rw[hr]at D;cases D
  |some q=>
   rw[hr]at D;simp only[zqt,zqb]at D;have hq:=(Array.getElem?_eq_some_iff.1 hr).1;simp only[Array.size_range]at hq;have a1:0<z.cells.size:=by
    rcases Nat.eq_zero_or_pos z.cells.size with h0|h0
    ·rw[h0]at hq;omega
    ·exact h0
   have U:q % z.cells.size<z.cells.size:=Nat.mod_lt _ a1;have a4:z.cells[q % z.cells.size]?=some v:=by
    rw[<-D];simp[U]
   have a8:q % z.cells.size<V.zero.length:=by rw[<-b5];simpa using U
   exact(Jq (b9 _ v _ a4 (zqv a8)) M).one
 have X:∀zs:Array Value,(∀(i:Nat) v,zs[i]?=some v->v.oneCell'=true)->I18 M G (b.flatten.map .d) ((R3 V.size b.length c).toArray++zs):=λzs b2=>by
  refine⟨?_,λi v D=>?_,λi x v hx D=>?_⟩
  ·simp only[List.length_map,Array.size_append,List.size_toArray];rw[Rr hn,G7];omega
  ·by_cases U:i<(R3 V.size b.length c).length
   ·rw[Array.getElem?_append_left (by simpa using U),List.getElem?_toArray]at D;exact(O i v D).2
   ·rw[Array.getElem?_append_right (by simp;omega)]at D;exact b2 _ v D
  ·rw[List.getElem?_map]at hx;cases hfx:b.flatten[i]? with
   |none=>rw[hfx]at hx;cases hx
   |some y=>
    rw[hfx]at hx;simp only[zqt,zqb]at hx;subst hx;obtain⟨r,j,a9,e1,e2,e3,e4⟩:=J11 hn hfx;have hr:=(zqu.1 e3).1;have hg:=Sx (sz:=V.size) (m:=b.length) (N1:=c) e2 hr;have U:i<(R3 V.size b.length c).length:=by rw[e1];exact(zqu.1 hg).1
    rw[Array.getElem?_append_left (by simpa using U),List.getElem?_toArray,e1,hg]at D;cases D;exact .d (b1 r j a9 y e3 e4)
 have c0:∀x:Array Value,(#[]++x)=x:=λx=>by simp
 cases D with
 |slnil=>
  have J:=run_append_nil (P:=P) w t ty e I z hd hi hz na b.length a0 (R3 V.size b.length c) a3 B a2 (by unfold maxLen at hm;omega) (by omega);exact⟨_,_,J,grownCap_ge w _ _ e,grownCap_le_maxLen w _ _ e hm,X _ (Z _)⟩
 |sl c5 N1 hl hc c6 hs c4 h1 h2=>
  rename_i a b8 cap;have b6:b8=0:=by simpa using hl.symm
  subst b6;have a7:(0:Nat)=cap:=hf;subst a7
  have J:=run_append_grow (P:=P) w t ty e I z hd hi hz a 0 0 [] (by simp) (λj u b3=>by simp at b3) na b.length a0 (R3 V.size b.length c) a3 B
   (by omega) (by unfold maxLen at hm;omega) (growslice_fits (by omega) (by simpa using Y))
  simp only[Nat.zero_add]at J;exact⟨_,_,J,grownCap_ge w _ _ e,grownCap_le_maxLen w _ _ e hm,by
   have:=X (Builtin.zeroCells z.cells (grownCap w b.length 0 e-b.length)) (Z _);simpa using this⟩
def D23 (C:Cx)(L:List Oper)(o:Oper)(env:Env):Option (Option Nat×Nat×List Row×Nat×Nat):=
 match K1 L env o,o.op,O3 o with
 |some true,.call { callee:=.builtin .append,args,argTypes },some d=>
  match args.toList,argTypes.toList with
  |[x,y],[t,t']=>bif Nat.beq t t' then
   (match Z1 C.T t,Mn (ev C.GL env y),ev C.GL env x with
   |some it,some news,.full []=>match it.u with
    |.sl e=>match Z1 C.T e with
     |some ie=>some (d,e,news,ie.size,ie.bytes)
     |none=>none
    |_=>none
   |_,_,_=>none)else none
  |_,_=>none
 |_,_,_=>none
def K0.an (hC:T1 F.C){p n:Nat}{c:List Row}{u:Nat}{cs:List A}
  (h:D23 F.C L o env=some (d,e,c,sz,u)) (a1:c≠[]) (h1:∀r∈c,r.length=sz) (h3:c.length*(u+1)<=140737488355328) (Z:cs=c.flatten.map .d) (hn:c.length=n) (hp:Dp H (.row cs e)=some (p,H'))
  (k:K0 F L l (put env d (.rsl p 0 n n)) H' Q):K0 F L (o::l) env H Q:=by
 subst Z;subst hn;obtain⟨rfl,rfl⟩:=Nh hp;unfold D23 at h;split at h
 ·rename_i a3 ts dd hw ho hd;split at h
  ·rename_i x y t t' ha ht;obtain⟨hb,I⟩:=B7 h;clear h;obtain rfl:=zqo hb;split at I
   ·rename_i it b U O hx;split at I
    ·rename_i e' hu;split at I
     ·rename_i ie a2;simp only[zqb,zqh]at I;obtain⟨rfl,rfl,rfl,rfl,rfl⟩:=I;have D:b.length*ie.bytes<=140737488355328/\b.length<=maxLen:=by
       have:b.length*(ie.bytes+1)=b.length*ie.bytes+b.length:=Nat.mul_succ _ _;unfold maxLen;omega
      refine T6 hw λfr M G w a K Qw hK T B Y hk=>?_;have J:=B.eval x;rw[hx]at J;generalize hxv:a.eval x=xv at J;obtain⟨a0,V⟩:F2 M (.sl []) xv/\K1j xv:=by cases J;exact⟨by assumption,by assumption⟩
      obtain⟨X,vs,r1,r2,r3,r4⟩:=X1s (G:=G) (ty:=o.type) hC.tok B.good U hu a2 a0 V (L9 O (B.eval y)) a1 h1 D.1 D.2;have z:Ext W5 M w M w.drew:=⟨λ_ _ e=>e,zqr _,rfl,rfl,rfl,λ_ _ _=>rfl,λ_ _ e=>.inl e⟩
      have q1:St F.C F.N M G w.drew env H a:=⟨λa v e=>B.good a v e,B.gl.ext B.hrel z (λ_ h=>h.elim),B.hrel.ext z (λ_ _ h=>h),B.env,B.size,B.defers⟩
      have k1:=q1.newRowL (dst:=none) (by simp) r4 (elem:=e');have k2:=D2.newRow (Y.quiet z) (cs:=b.flatten.map .d) (vs:=vs) (elem:=e');have k3:=k1.quiet (A4 T) (x:=.rsl H.length 0 b.length b.length) (v:=.slice (some ⟨w.heap.size,0,none⟩) b.length X) (.rsl C2 r2 r3) k1.good (Ext.refl _ _ _);unfold Oper.wp;rw[Cn ho ha ht (by rw[hxv];exact r1)];rw[<-W2 hd]at k;exact hk _ _ _ _ _ _ _ k k3 (k2.quiet (Ext.refl _ _ _))
     ·cases I
    ·cases I
   ·cases I
  ·cases h
 ·cases h
section
variable {α:Type}{f:α->Row}{g:List α->List Row}
def flat_get (c:∀l,g l=l.map f)(v:∀x,(f x).length=sz){l:List α}{x:α}{d:D}(h:l[i]?=some x)(u:(f x)[j]?=some d):((g l).flatten.map A.d)[i*sz+j]?=some (.d d):=by
 rw[List.getElem?_map,I17 (rows:=g l) (λr b=>by rw[c]at b;obtain⟨y,_,rfl⟩:=List.mem_map.1 b;exact v y) (r:=f x) (by rw[c,List.getElem?_map,h];rfl) u];rfl
def flat_lt (u:∀l,g l=l.map f)(c:∀x,(f x).length=sz){l:List α}{x:α}(h:l[i]?=some x)(r:j<sz):i*sz+j<((g l).flatten.map A.d).length:=by
 have b:j<(f x).length:=by rw[c];exact r
 exact(zqu.1 (flat_get u c h (zqv b))).1
def flat_set (v:∀l,g l=l.map f)(c:∀x,(f x).length=sz){l:List α}{x y:α}{d:D}(h:l[i]?=some x)(hj:j<sz)(hy:f y=(f x).set j d):(g (l.set i y)).flatten.map A.d=N8 ((g l).flatten.map A.d) (i*sz+j) [.d d]:=by
 have hs:∀{m:List α},∀r∈g m,r.length=sz:=λr X=>by rw[v]at X;obtain⟨y,_,rfl⟩:=List.mem_map.1 X;exact c y
 have T:=(zqu.1 h).1;have a1:=flat_lt v c h hj;apply List.ext_getElem?;intro k;rw[Dt _ _ _ _ (by simp only[List.length_singleton];omega)];have V:((g (l.set i y)).flatten.map A.d).length=l.length*sz:=by rw[List.length_map,Rr hs,v,List.length_map,List.length_set]
 have a0:((g l).flatten.map A.d).length=l.length*sz:=by rw[List.length_map,Rr hs,v,List.length_map]
 by_cases hk:k<l.length*sz
 ·have u:0<sz:=by omega
  have hq:k / sz<l.length:=by rw[Nat.div_lt_iff_lt_mul u];exact hk
  have U:k % sz<sz:=Nat.mod_lt _ u;have I:k=k / sz*sz+k % sz:=by rw[Nat.mul_comm];exact(Nat.div_add_mod k sz).symm
  generalize hqq:k / sz=q at *;generalize hrr:k % sz=r at *;obtain⟨z,O⟩:∃z,l[q]?=some z:=⟨_,zqv hq⟩
  obtain⟨Y,B⟩:∃Y,(f z)[r]?=some Y:=⟨_,zqv (by rw[c];exact U)⟩
  by_cases hqi:q=i
  ·subst hqi;rw[h]at O;cases O;obtain⟨Z,b⟩:∃Z,(f y)[r]?=some Z:=⟨_,zqv (by rw[c];exact U)⟩
   rw[I,flat_get v c (l:=l.set q y) (by rw[List.getElem?_set_self T]) b];rw[hy,List.getElem?_set]at b;by_cases hrj:j=r
   ·subst hrj;rw[zp rfl,zp (by rw[c];exact U)]at b;cases b;rw[zp (by simp)];simp
   ·rw[zn hrj]at b;rw[zn (by simp;omega),flat_get v c h b]
  ·rw[I,flat_get v c (l:=l.set i y) (by rw[List.getElem?_set_ne (Ne.symm hqi)];exact O) B];rw[zn,flat_get v c O B];simp only[List.length_singleton];intro hc;have:q*sz+r=i*sz+j:=by omega
   rcases Nat.lt_trichotomy q i with J|he|hgt
   ·have:(q+1)*sz<=i*sz:=Nat.mul_le_mul_right _ J;rw[Nat.add_mul]at this;omega
   ·exact hqi he
   ·have:(i+1)*sz<=q*sz:=Nat.mul_le_mul_right _ hgt;rw[Nat.add_mul]at this;omega
 ·rw[List.getElem?_eq_none (by omega),zn (by simp;omega),List.getElem?_eq_none (by omega)]
end
inductive Vw (p n:Nat)(y:D):A->A->Prop
 |rfl {x}:Vw p n y x x
 |rsl {cap}:Vw p n y (.d y) (.rsl p 0 n cap)
 |agg {xs ys:_} (hl:xs.length=ys.length) (h:∀(i:Nat) x z,xs[i]?=some x->ys[i]?=some z->Vw p n y x z):Vw p n y (.agg xs) (.agg ys)
def VwL (p n:Nat)(y:D):List A->List A->Prop
 |[],[]=>True
 |x::xs,z::zs=>Vw p n y x z/\VwL p n y xs zs
 |_,_=>False
def VwL.spec {p n:Nat}{y:D}:∀{xs ys:List A},VwL p n y xs ys->xs.length=ys.length/\∀(i:Nat) x z,xs[i]?=some x->ys[i]?=some z->Vw p n y x z
 |[],[],_=>⟨rfl,λi x z h=>by simp at h⟩
 |x::xs,z::v,h=>by
  obtain⟨u,r⟩:=VwL.spec h.2;refine⟨by simp[u],λi a b c d=>?_⟩;cases i with
  |zero=>simp at c d;subst c;subst d;exact h.1
  |succ i=>exact r i a b (by simpa using c) (by simpa using d)
 |[],_::_,h=>h.elim
 |_::_,[],h=>h.elim
def Vw.aggL {p n:Nat}{y:D}(h:VwL p n y xs b):Vw p n y (.agg xs) (.agg b):=.agg h.spec.1 h.spec.2
def Vw.rel {c:Mem}{p n:Nat}{y:D}(O:∀a v,M a=some v->c a=some v)(u:∀cap v,A1 M G (.rsl p 0 n cap) v->F2 c y v){x z:A}(h:Vw p n y x z):∀{v:Value},A1 M G z v->A1 c G x v:=by
 induction h with
 |rfl=>exact λh=>h.mono' O
 |rsl=>exact λh=>.d (u _ _ h)
 |agg T _ B=>
  intro v b;cases b with
  |agg U I h=>
   refine .agg (by omega) I λi x v r J=>?_;obtain⟨z,b⟩:∃z,_=some z:=⟨_,zqv (by rw[<-T];exact(zqu.1 r).1)⟩
   exact B i x z r b (h i z v b J)
def K1k:D->Bool
 |.int _ _=>true
 |.bool _=>true
 |.str _=>true
 |_=>false
def M1r:List A->Bool
 |[]=>true
 |.d y::r=>K1k y&&M1r r
 |_::_=>false
def L1k:A->Bool
 |.d y=>K1k y
 |.tup xs=>M1r xs
 |_=>false
def K1p {x:D}(h:K1k x=true)(b:F2 M x v):F2 M' x v:=by
 cases b<;>first|(simp[K1k]at h;done)|skip
 ·exact .bool
 ·exact .int (by assumption)
 ·exact .str (by assumption)
def L1p:∀{xs:List A},M1r xs=true->∀x∈xs,∃y,x = .d y/\K1k y=true
 |.d y::r,h,x,b=>by
  simp only[M1r,zqi]at h;cases b with
  |head=>exact⟨y,rfl,h.1⟩
  |tail _ b=>exact L1p h.2 x b
def E23 {x:A}(h:L1k x=true)(z:A1 M G x v):A1 M' G x v:=by
 cases z with
 |d h'=>exact .d (K1p h h')
 |tup B r=>
  refine .tup B λi x v b u=>?_;obtain⟨y,rfl,c⟩:=L1p h x (List.mem_of_getElem? b);have:=r i _ v b u;cases this with
  |d h'=>exact .d (K1p c h')
 |_=>simp[L1k]at h
def Z1g {C:Cx}{ys:List A}{x:A}{p n:Nat}{e:TypeId}(ha:Yl C.GL env o=some (f,xs))(hp:nth H p=some (.row cs e))(a7:cs=rows.flatten.map .d)
  (a4:∀r∈rows,r.length=sz) (hn:rows.length=n) (hv:VwL p n (.sl rows) ys xs) (a6:R2 0 ys=true) (hc:B4 C f ys [] (λr H'=>H'=[]/\r=x)) (hx:L1k x=true):R4 C o env H x:=by
 intro M G w a b1 Qw hρ hG a9 hH hk;subst a7;subst hn;rw[Q2]at hp;obtain⟨b2,h1,h2,h3⟩:=E11 ha hρ hc.1;obtain⟨b,O,g1,g2,g3,g4,g5,g6⟩:=hH.obj p _ hp
 let M1:Mem:=λB=>if B.block=b/\B.spot=none then O[B.off]? else M B
 have hm:∀B v,M B=some v->M1 B=some v:=λB v e=>by
  show(if B.block=b/\B.spot=none then O[B.off]? else M B)=some v;rw[zn]
  ·exact e
  ·rintro⟨V,q2⟩;obtain⟨bb,oo,ss⟩:=B;simp only at V;subst V;rw[g6]at e;cases e
 have a8:Z3 M1 w:=λB v e=>by
  by_cases hh:B.block=b/\B.spot=none
  ·obtain⟨bb,oo,ss⟩:=B;simp only at hh;obtain⟨rfl,rfl⟩:=hh;have e4:O[oo]?=some v:=by
    have:(if bb=bb/\(none:Option Nat)=none then O[oo]? else M ⟨bb,oo,none⟩)=some v:=e;rwa[zp ⟨rfl,rfl⟩]at this
   exact .inl ⟨rfl,by rw[Ye g2];exact e4⟩
  ·have e4:M B=some v:=by
    have:(if B.block=b/\B.spot=none then O[B.off]? else M B)=some v:=e;rwa[zn hh]at this
   exact hG B v e4
 have a3:L10 C M1 w:=by
  have a2:Ext (λc=>c=b) M w M1 w:=⟨hm,zqr _,rfl,rfl,rfl,λ_ _ _=>rfl,λB v X=>by
   have X:(if B.block=b/\B.spot=none then O[B.off]? else M B)=some v:=X;split at X
   ·rename_i J;exact .inr (.inl J.1)
   ·exact .inl X⟩
  exact a9.ext hH a2 λc J=>by subst J;exact⟨p,_,hp,by rw[g1];rfl⟩
 have hy:∀a1 v,A1 M G (.rsl p 0 rows.length a1) v->F2 M1 (.sl rows) v:=λa1 v hr=>by
  obtain⟨b',I,V,q2,q3,rfl⟩:∃b' I,G p = .pointer (some ⟨b',0,none⟩)/\rows.length<=I/\I<=maxLen/\v = .slice (some ⟨b',0,none⟩) rows.length I:=by
   cases hr;exact⟨_,_,by assumption,by assumption,by assumption,rfl⟩
  rw[g1]at V;simp at V;subst V;have T:∀(i j:Nat) r x,rows[i]?=some r->r[j]?=some x->∃u,O[i*sz+j]?=some u/\F2 M1 x u:=λi j r x U Y=>by
   have hf:=I17 a4 U Y;have J:(rows.flatten.map A.d)[i*sz+j]?=some (.d x):=by rw[List.getElem?_map,hf];rfl
   have Z:i*sz+j<O.size:=Nat.lt_of_lt_of_le (zqu.1 J).1 g3;refine⟨O[i*sz+j],Array.getElem?_eq_getElem Z,?_⟩;have:=g5 _ _ _ J (Array.getElem?_eq_getElem Z);cases this with
   |d h'=>exact h'.mono hm
  refine .sl sz (λi j=>O[i*sz+j]?.getD undef) rfl q2 q3 (.inr rfl) (λi r U=>a4 r (List.mem_of_getElem? U)) (λi j r x U Y=>?_) (λi j r x U Y=>?_)
  ·obtain⟨u,D,_⟩:=T i j r x U Y;rw[B5];show(if b=b/\(none:Option Nat)=none then O[0+(i*sz+j)]? else _)=_;rw[zp ⟨rfl,rfl⟩,Nat.zero_add,D];rfl
  ·obtain⟨u,D,b0⟩:=T i j r x U Y;rw[D];exact b0
 obtain⟨l1,l2⟩:=hv.spec;unfold Oper.wp;rw[h1 w];refine(A1a (G:=G) a6 hc a8 a3 (l1.trans h2) λi y v a0 a5=>?_).mono λe' w' he=>?_
 ·obtain⟨z,hz⟩:∃z,xs[i]?=some z:=⟨_,zqv (by rw[<-l1];exact(zqu.1 a0).1)⟩
  exact(l2 i y z a0 hz).rel hm hy (h3 i z v hz a5)
 ·obtain⟨v,r,M',rfl,rfl,k1,k2,k3⟩:=he;obtain⟨X,e2,e3,e4,e5,e6,e7⟩:=k3
  let M2:Mem:=λB=>if B.block=b then none else M' B
  refine hk v M2 w' (E23 hx (k1 G)) (λB u D=>?_) ⟨λB u D=>?_,e2,e3,e4,e5,e6,λB u D=>?_⟩
  ·have D:(if B.block=b then none else M' B)=some u:=D;split at D
   ·cases D
   ·exact k2 B u D
  ·show(if B.block=b then none else M' B)=some u;rw[zn]
   ·exact X B u (hm B u D)
   ·intro hb;obtain⟨bb,oo,ss⟩:=B;simp only at hb;subst hb;rw[g6]at D;cases D
  ·have D:(if B.block=b then none else M' B)=some u:=D;split at D
   ·cases D
   ·rename_i hb;rcases e7 B u D with h|h|h
    ·refine .inl ?_;have h:(if B.block=b/\B.spot=none then O[B.off]? else M B)=some u:=h;rwa[zn (λhh=>hb hh.1)]at h
    ·exact .inr (.inl h)
    ·exact .inr (.inr h)
def K0.cv {c:List A}{x:A}(p:Nat){n:Nat}{e:TypeId}(h:Ad F.C L o env=some (d,f,xs))(B:nth H p=some (.row cs e))
  (u:cs=rows.flatten.map .d) (v:∀r∈rows,r.length=sz) (y:rows.length=n) (I:VwL p n (.sl rows) c xs) (hc:B4 F.C f c [] (Ret [] x)) (b:R2 0 c=true) (D:L1k x=true) (k:K0 F L l (put env d x) H Q):K0 F L (o::l) env H Q:=by
 obtain⟨z,J,rfl⟩:=Ze h;exact .yields z (Z1g J B u v y I b hc D) k
def AQ.cv {C:Cx}{Q:Env->Prop}{c:List A}{x:A}(p:Nat){n:Nat}{e:TypeId}(h:Ad C L o env=some (d,f,xs))(B:nth H p=some (.row cs e))
  (u:cs=rows.flatten.map .d) (v:∀r∈rows,r.length=sz) (y:rows.length=n) (I:VwL p n (.sl rows) c xs) (hc:B4 C f c [] (Ret [] x)) (b:R2 0 c=true) (D:L1k x=true) (k:AQ C L l (put env d x) H Q):AQ C L (o::l) env H Q:=by
 obtain⟨z,J,rfl⟩:=Ze h;exact⟨_,x,rfl,.inl ⟨z,Z1g J B u v y I b hc D⟩,k⟩
def AQ.ld {C:Cx}(hC:T1 C){Q:Env->Prop}{y:A}(h:B1k C L o env H=some (d,b,off))(v:b[off]?=some y)
  (k:AQ C L l (put env d y) H Q):AQ C L (o::l) env H Q:=by
 unfold B1k at h;split at h
 ·rename_i t x T I z O;split at h
  ·rename_i i p r B J;cases hag:i.u.agg with
   |true=>rw[hag]at h;cases h
   |false=>
    rw[hag]at h;simp only[zql]at h;split at h
    ·rename_i U e D;simp only[zqb,zqh]at h;obtain⟨rfl,rfl,rfl⟩:=h;have this:Fb i (ev C.GL env x) H=some y:=by
      rw[J];simp only[Fb,D,Kq,hag,zql,Q2,List.getElem?_drop,Nat.add_zero];exact v
     exact⟨_,y,W2 O,.inl ⟨I,Al hC (c:=True) (by simp[opA,z,B,this]) trivial⟩,k⟩
    ·cases h
  ·cases h
 ·cases h
end Go.Am

