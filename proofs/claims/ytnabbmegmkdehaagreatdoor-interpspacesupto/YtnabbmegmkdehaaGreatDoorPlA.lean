/- A part of the proof of InterpSpaces. -/
import Derived.Test.YtnabbmegmkdehaaGreatDoorDgB
set_option linter.defProp false
namespace Go.Proofs.YtnabbmegmkdehaaGreatDoor
open Tryz
open IntKind (i64)
open Go.Am
variable {t:A0}{d:C0}{e:D0}{p:I0}{b o:Int}{m:List (Str×A0)}{i k n:Nat}{s:Option J0}{c:P0}{α:Type}{l:List α}
def ob {β:Type}(a:α)(f:α->Option β):(some a>>=f)=f a:=rfl
def R1 {x:α}{r:List α}(h:l.drop k=x::r):decide ((k:Int)<(l.length:Int))=true/\idx l (k:Int)=some x/\l.drop (k+1)=r/\k<l.length/\x∈l:=by
 have b:k<l.length:=by
  rcases Nat.lt_or_ge k l.length with h1|h1
  ·exact h1
  ·rw[List.drop_eq_nil_of_le h1]at h;cases h
 have c:=List.drop_eq_getElem_cons b;rw[h]at c;obtain⟨d,u⟩:=List.cons.inj c;refine⟨zqj (by omega),?_,u.symm,b,?_⟩
 ·unfold idx;rw[zp (by omega),d];simp[b]
 ·rw[d];exact List.getElem_mem b
def I1 (h:l.drop k=[]):decide ((k:Int)<(l.length:Int))=false/\l.length<=k:=by
 have:=List.drop_eq_nil_iff.1 h;exact⟨zqs (by omega),this⟩
def BB:Nat:=68719476736
def wr {n:Int}(h :-4611686018427387904<=n)(h':n<=4611686018427387904):i64.wrap n=n:=R1r (by omega) (by omega)
def w1 (h:k<=BB):i64.wrap ((k:Int)+1)=((k+1:Nat):Int):=by
 unfold BB at h;rw[wr (by omega) (by omega)];rfl
def Es (n:Int):Bool:=bif decide (n>=97)then decide (n<=122)else false
def E1o (n:Int):Bool:=bif decide (n>=48)then decide (n<=57)else false
def S20 (i:Nat)(c:UInt8):Bool:=Es c.toNat||(i !=0&&E1o c.toNat)
def Du:Nat->List UInt8->Bool
 |_,[]=>true
 |i,c::r=>S20 i c&&Du (i+1) r
def Fs (s:List UInt8):Bool:=Du 0 s && !(s==[])
def kw:List UInt8:=[32,116,121,112,101,32,115,101,99,114,101,116,32,112,117,98,108,105,99,32,114,97,110,100,111,109,32,118,97,114,32,104,97,116,99,104,32,102,117,110,99,32,114,101,116,117,114,110,32,98,101,103,105,110,32,101,110,100,32,98,111,111,108,32,105,110,116,32,97,114,114,97,121,32,111,102,32,114,101,99,111,114,100,32,116,114,117,101,32,102,97,108,115,101,32,99,97,108,108,32,114,101,108,101,97,115,101,32,111,117,116,112,117,116,32,119,97,105,116,32,105,102,32,101,108,115,101,32,119,104,105,108,101,32,108,105,109,105,116,32,102,111,114,32,116,111,32,115,101,116,116,108,101,32,109,105,110,32,109,97,120,32]
def F1o (s:List UInt8):Bool:=bif (bif !(s==[])then !Lib.contains s [32]else false)then Lib.contains kw ([32]++s++[32])else false
def N7 (s:List UInt8):Bool:=bif (bif decide ((s.length:Int)<=12)then Fs s else false)then !F1o s else false
def getD_some {s:List UInt8}(h:k<s.length):s[k]?=some (s.getD k 0):=by simp[List.getD,h]
def ld (c:UInt8):Bool:=bif Es c.toNat then true else E1o c.toNat
def B18:List UInt8->Nat
 |[]=>0
 |c::r=>bif ld c then B18 r+1 else 0
def S1x:∀s:List UInt8,B18 s<=s.length
 |[]=>zqr _
 |c::r=>by
  simp only[B18,zqd];have:=S1x r;cases ld c<;>simp<;>omega
def A1f (s:List UInt8):Bool:=bif ((s.length:Nat):Int)==0 then false else bif s.all (λc=>Es c.toNat)then Lib.contains kw ([32]++s++[32])else false
set_option maxRecDepth 100000 in
def B1f:kw.length=162:=rfl
def V1t {s sub:List UInt8}(c:i+sub.length<=s.length)(h:((s.take (i+sub.length)).drop i==sub)=true):Lib.contains s sub=true:=by
 have b:Lib.occAt s sub i=true:=by
  rw[Lib.occAt_iff_take s sub i c];rw[List.drop_take]at h;simpa using h
 rcases Lib.index_spec s sub with⟨_,d⟩|⟨j,r,_⟩
 ·rw[d i (by omega)]at b;cases b
 ·unfold Lib.contains;rw[r];exact zqj (by omega)
def V1b {s sub:List UInt8}(h:∀i,i+sub.length<=s.length->((s.take (i+sub.length)).drop i==sub)=false)(c:sub≠[]):Lib.contains s sub=false:=by
 rcases Lib.index_spec s sub with⟨d,_⟩|⟨j,d,r,b,_⟩
 ·unfold Lib.contains;rw[d];rfl
 ·rcases Lib.occAt_room b with hr|hr
  ·have:=h j hr;rw[Lib.occAt_iff_take s sub j hr]at b;rw[List.drop_take]at this;have e:j+sub.length-j=sub.length:=by omega
   rw[e,b]at this;cases this
  ·exact absurd hr c
def T20 (s:List UInt8):Bool:=bif (bif (bif (bif decide (((s.length:Nat):Int)<1)then true else decide (((s.length:Nat):Int)>12))then true else !Es (s.getD 0 0).toNat)then true else A1f s)then false else((B18 s:Nat):Int)==((s.length:Nat):Int)
def D1h:∀(r:List UInt8) (i:Nat),1<=i->Du i r=r.all ld
 |[],_,_=>rfl
 |c::r,i,h=>by
  have b:(i !=0)=true:=by simp;omega
  simp only[Du,List.all_cons,D1h r (i+1) (by omega),S20,b,Bool.true_and,ld];cases Es c.toNat<;>rfl
def T1x:∀s:List UInt8,(((B18 s:Nat):Int)==((s.length:Nat):Int))=s.all ld
 |[]=>rfl
 |c::r=>by
  have h:=T1x r;have b:=S1x r;simp only[B18,zqd,List.all_cons,<-h];cases ld c with
  |false=>
   simp only[zql,Bool.false_and];apply zqn.2;omega
  |true=>
   simp only[zqk,Bool.true_and];rw[Bool.eq_iff_iff,beq_iff_eq,beq_iff_eq];omega
set_option maxRecDepth 100000 in
def F27:kw.all (λc=>Es c.toNat||c==32)=true:=by decide
def C1f {s sub:List UInt8}(h:Lib.contains s sub=true)(d:sub≠[]):∀c∈sub,c∈s:=by
 rcases Lib.index_spec s sub with⟨r,_⟩|⟨j,r,u,b,_⟩
 ·unfold Lib.contains at h;rw[r]at h;cases h
 ·rcases Lib.occAt_room b with hr|hr
  ·rw[Lib.occAt_iff_take s sub j hr]at b;have e:(s.drop j).take sub.length=sub:=by simpa using b
   intro c hc;rw[<-e]at hc;exact List.mem_of_mem_drop (List.mem_of_mem_take hc)
  ·exact absurd hr d
def W1t:ld 32=false:=by decide
def G27 {s:List UInt8}(h:s.all ld=true):Lib.contains s [32]=false:=by
 cases hc:Lib.contains s [32]with
 |false=>rfl
 |true=>
  have:=C1f hc (by simp) 32 (by simp);have:=List.all_eq_true.1 h 32 this;rw[W1t]at this;cases this
def W29 {s:List UInt8}(h:s.all ld=true)(hc:Lib.contains kw ([32]++s++[32])=true):s.all (λc=>Es c.toNat)=true:=by
 rw[List.all_eq_true];intro c b;have u:=C1f hc (by simp) c (by simp[b]);have r:=List.all_eq_true.1 F27 c u;have d:=List.all_eq_true.1 h c b;cases hl:Es c.toNat with
 |true=>rfl
 |false=>
  rw[hl,Bool.false_or,beq_iff_eq]at r;subst r;rw[W1t]at d;cases d
def X29 (s:List UInt8):T20 s=N7 s:=by
 unfold T20 N7;rw[T1x];cases s with
 |nil=>rfl
 |cons c r=>
  have z:decide ((((c::r).length:Nat):Int)<1)=false:=zqs (by simp only[zqd];omega);have v:decide ((((c::r).length:Nat):Int)>12) = !decide ((((c::r).length:Nat):Int)<=12):=by
   rw[<-decide_not];exact decide_eq_decide.2 Int.not_le.symm
  have y:Fs (c::r)=(Es c.toNat&&r.all ld):=by
   unfold Fs;simp only[Du,S20,D1h r 1 (zqr _)];simp
  rw[z,v,y,zql,List.all_cons];show(bif (bif (bif !decide ((((c::r).length:Nat):Int)<=12)then true else !Es c.toNat)then true else A1f (c::r))then false else(ld c&&r.all ld))=_;cases h12':decide ((((c::r).length:Nat):Int)<=12)with
  |false=>rfl
  |true=>
   cases hl:Es c.toNat with
   |false=>rfl
   |true=>
    have d:ld c=true:=by unfold ld;rw[hl];rfl
    rw[d];cases ha:r.all ld with
    |false=>cases A1f (c::r)<;>rfl
    |true=>
     have b:(c::r).all ld=true:=by rw[List.all_cons,d,ha];rfl
     have u:=G27 b;have e:A1f (c::r)=F1o (c::r):=by
      unfold A1f F1o;rw[u];have x:((((c::r).length:Nat):Int)==0)=false:=zqn.2 (by simp only[zqd];omega);rw[x];cases hk:Lib.contains kw ([32]++(c::r)++[32])with
      |false=>simp
      |true=>
       rw[W29 b hk];rfl
     rw[e];cases F1o (c::r)<;>rfl
def Q1w (n:Int):Pu n=some (Es n):=rfl
def U20 (n:Int):U12 n=some (E1o n):=rfl
def V1l (s:Str)(b:s.length<=BB):∀(r:Str) (k:Nat),s.drop k=r->Zb s k=some (Du k r && !(s==[]))
 |[],k,h=>by rw[Zb,(I1 h).1];simp[Du]
 |c::r,k,h=>by
  obtain⟨x,v,u,y,_⟩:=R1 h;have d:=V1l s b r (k+1) u;rw[Zb,x,zp rfl,v,ob,Q1w,ob,w1 (by omega),d];have e:((k:Int)==0)=(k==0):=by cases k<;>rfl
  simp only[e,Du,S20,bne];cases hl:Es c.toNat<;>cases hk:k==0<;>cases hd:E1o c.toNat<;>simp[U20,hd]
def A24 (s:Str)(b:s.length<=BB):Qy s=some (Fs s):=V1l s b s 0 rfl
def W1b (s t:Str)(b:s.length<=4000000000):Ou s t=some (Lib.contains s t):=by
 unfold Ou;rw[zp (zqj (by omega))]
def R1w (s:Str)(d:s.length<=4000000000):Sp s=some (F1o s):=by
 unfold Sp;have r:decide (1+s.length<=maxLen)=true:=zqj (by unfold maxLen;omega);have c:decide (([32]++s).length+1<=maxLen)=true:=zqj (by unfold maxLen;simp;omega);rw[W1b s _ d];have b:=W1b kw (([32]++s)++[32]) (by rw[B1f];omega);unfold kw at b;unfold F1o kw;rw[r,c,b];cases s==[]<;>cases Lib.contains s [32]<;>simp
def T1p (s:Str)(b:s.length<=BB):Fn s=some (N7 s):=by
 unfold Fn Ry N7;rw[A24 s b];cases h:decide ((s.length:Int)<=12)with
 |false=>simp
 |true=>
  have h':s.length<=12:=by have:=of_decide_eq_true h;omega
  rw[R1w s (by omega)];cases Fs s<;>simp
def K15 (n:Int):Yt n=some (Es n):=rfl
def S1w (n:Int):V17 n=some (E1o n):=rfl
def U1x (s:Str)(b:s.length<=BB):∀(r:Str) (k:Nat),s.drop k=r->Dm s k=some ((k+B18 r:Nat):Int)
 |[],k,h=>by rw[Dm,(I1 h).1];simp[B18,ob]
 |c::r,k,h=>by
  obtain⟨x,v,u,y,_⟩:=R1 h;have d:=U1x s b r (k+1) u;rw[Dm,x,zp rfl,v,ob,zp rfl,K15,ob,w1 (by omega),d];simp only[B18,ld];cases hl:Es c.toNat<;>cases hd:E1o c.toNat<;>simp[S1w,hd,ob]<;>omega
def Q2b (s:Str)(b:s.length<=BB):M16 s 0=some ((B18 s:Nat):Int):=by
 have:=U1x s b s 0 rfl;unfold M16;rw[Nat.zero_add]at this;exact this
def H27 (s:Str)(z:s.length<=4000000000):∀(n k:Nat),n+k=163->(∀i,i<k->i+([32]++s++[32]).length<=kw.length->((kw.take (i+([32]++s++[32]).length)).drop i==[32]++s++[32])=false)->
  Ub s k=some (Lib.contains kw ([32]++s++[32])):=by
 have v:([32]++s++[32]).length=s.length+2:=by simp
 intro n
 induction n with
 |zero=>
  intro k y r;rw[Ub,wr (n:=(k:Int)+_) (by omega) (by omega),wr (by omega) (by omega),zn (by simp;omega),V1b (λi h=>r i (by rw[B1f]at h;omega) h) (by simp)]
 |succ n x=>
  intro k y r;rw[Ub,wr (n:=(k:Int)+_) (by omega) (by omega),wr (by omega) (by omega)];by_cases hr:k+([32]++s++[32]).length<=kw.length
  ·have b:=hr;rw[B1f,v]at b;rw[zp (zqj (by omega))];have c:slc kw (k:Int) ((k:Int)+(s.length:Int)+2)=some ((kw.take (k+([32]++s++[32]).length)).drop k):=by
    unfold slc;rw[zp ⟨by omega,by omega,by rw[B1f];omega⟩,v];rw[show((k:Int)+(s.length:Int)+2).toNat=k+(s.length+2) by omega];rfl
   unfold kw at c;rw[c,ob,zp (zqj (by unfold maxLen;omega)),zp (zqj (by unfold maxLen;simp;omega))];cases he:((kw.take (k+([32]++s++[32]).length)).drop k==[32]++s++[32])with
   |true=>
    have:=V1t hr he;rw[this];unfold kw at he;rw[he,zp rfl]
   |false=>
    have d:=he;unfold kw at d;rw[d,zn (by simp),w1 (by unfold BB;omega)];refine x (k+1) (by omega) λi u=>?_;rcases Nat.lt_or_eq_of_le (Nat.le_of_lt_succ u)with h|h
    ·exact r i h
    ·subst h;exact λ_=>he
  ·have b:=hr;rw[B1f,v]at b;rw[zn (by simp;omega),V1b (λi h=>r i (by omega) h) (by simp)]
def X1t (s:Str)(b:s.length<=4000000000):∀(r:Str) (k:Nat),s.drop k=r->Wb s k=some (bif r.all (λc=>Es c.toNat)then Lib.contains kw ([32]++s++[32])else false)
 |[],k,h=>by rw[Wb,(I1 h).1,zn (by simp)];exact H27 s b 163 0 rfl (λi h=>by omega)
 |c::r,k,h=>by
  obtain⟨x,v,u,y,_⟩:=R1 h;have d:=X1t s b r (k+1) u;rw[Wb,x,zp rfl,v,ob,K15,ob,w1 (by unfold BB;omega),d,List.all_cons];cases Es c.toNat<;>simp
def G1o (s:Str)(b:s.length<=4000000000):Zu s=some (A1f s):=by
 unfold Zu A1f;have:=X1t s b s 0 rfl;rw[show(0:Int)=((0:Nat):Int)from rfl,this];cases((s.length:Int)==((0:Nat):Int))<;>simp
def Aq (s:Str)(b:s.length<=BB):Cg s=some (N7 s):=by
 rw[<-X29];unfold Cg E15 T20;cases h:(bif decide ((s.length:Int)<1)then true else decide ((s.length:Int)>12))with
 |true=>simp[ob]
 |false=>
  have h':1<=s.length/\s.length<=12:=by
   cases h1:decide ((s.length:Int)<1)with
   |true=>rw[h1]at h;cases h
   |false=>
    rw[h1]at h;have:=of_decide_eq_false h1;have:=of_decide_eq_false (show decide ((s.length:Int)>12)=false from h);omega
  have c:idx s 0=some (s.getD 0 0):=getD_some (by omega);rw[c,G1o s (by omega),Q2b s b];simp only[zqg,zt,ob,K15,zql];cases Es (s.getD 0 0).toNat<;>cases A1f s<;>simp[ob]
set_option linter.unusedSimpArgs false
def A0.ind {P:A0->Prop}(h:∀t:A0,(∀x∈t.Of,P x)->P t):∀t,P t:=by
 intro t;refine A0.rec (motive_1:=P) (motive_2:=λl=>∀x∈l,P x) ?_ ?_ ?_ t
 ·intro k l h' s n z v d;exact h _ d
 ·intro x c;cases c
 ·intro x r c u y b;cases b with
  |head=>exact c
  |tail _ b=>exact u y b
mutual
def A0.depth:A0->Nat
 |.mk _ _ _ _ _ _ of=>A0.depths of+1
def A0.depths:List A0->Nat
 |[]=>0
 |t::r=>max (A0.depth t) (A0.depths r)
end
def A0.depth_eq (t:A0):t.depth=A0.depths t.Of+1:=by cases t;simp[A0.depth,A0.Of]
def A0.depth_le:∀{l:List A0} {t:A0},t∈l->t.depth<=A0.depths l
 |x::r,t,h=>by
  simp only[A0.depths];cases h with
  |head=>omega
  |tail _ h=>have:=A0.depth_le h;omega
def G3 (a b c:Int):Bool:=bif decide (a>=b)then decide (a<=c)else false
mutual
def A0.all (p:A0->Bool):A0->Bool
 |.mk k l h s n ns of=>p (.mk k l h s n ns of)&&A0.alls p of
def A0.alls (p:A0->Bool):List A0->Bool
 |[]=>true
 |t::r=>A0.all p t&&A0.alls p r
end
def A0.all_eq (p:A0->Bool)(t:A0):t.all p=(p t&&A0.alls p t.Of):=by cases t;rfl
mutual
def A0.nodes:A0->Nat
 |.mk _ _ _ _ _ _ of=>A0.nodess of+1
def A0.nodess:List A0->Nat
 |[]=>0
 |t::r=>A0.nodes t+A0.nodess r
end
def A0.nodes_eq (t:A0):t.nodes=A0.nodess t.Of+1:=by cases t;rfl
mutual
def A0.depth_nodes:∀t:A0,t.depth<=t.nodes
 |.mk _ _ _ _ _ _ b=>by simp only[A0.depth,A0.nodes];have:=A0.depths_nodess b;omega
def A0.depths_nodess:∀l:List A0,A0.depths l<=A0.nodess l
 |[]=>zqr _
 |t::r=>by simp only[A0.depths,A0.nodess];have:=A0.depth_nodes t;have:=A0.depths_nodess r;omega
end
def fm1 (t:A0):Bool:=bif decide (t.K>=0)then decide (t.K<=4)else false
def fm2 (t:A0):Bool:=bif t.K==1 then true else bif t.Low==0 then t.H==0 else false
def fm3 (t:A0):Bool:=bif t.K==2 then true else t.E==0
def fm4 (t:A0):Bool:=bif t.K==4 then true else t.Name==[]
def fm5 (t:A0):Bool:=bif t.K==3 then true else(t.O.length:Int)==0
def fm6 (t:A0):Bool:=bif t.K==2 then(t.Of.length:Int)==1 else bif t.K==3 then(bif decide ((t.Of.length:Int)>=1)then(t.Of.length:Int)==(t.O.length:Int)else false)else(t.Of.length:Int)==0
def nm1 (t:A0):Bool:=bif t.K==2 then G3 t.E 1 32 else bif t.K==3 then decide ((t.Of.length:Int)<=32)else true
def nm2 (t:A0):Bool:=bif t.K==1 then(bif G3 t.Low (-1048576) 1048576 then G3 t.H t.Low 1048576 else false)else true
def na1 (t:A0):Bool:=bif t.K==4 then N7 t.Name else true
def X4 (t:A0):Bool:=fm1 t&&fm2 t&&fm3 t&&fm4 t&&fm5 t&&fm6 t
def We (t:A0):Bool:=nm1 t&&nm2 t
def P9 (t:A0):Bool:=na1 t&&t.O.all N7
def N12 (a b c:Bool):(a || !b || !c)=(a || !(b&&c)):=by cases a<;>cases b<;>cases c<;>rfl
def Ul (n d:Int)(f m u:Bool):Int:=bif (bif decide (n>1024)then true else decide (d>12))then 4 else bif f then 1 else bif m then 7 else bif u then 3 else 0
def D1b (a b:Int):decide (a<b) = !decide (a>=b):=by
 rw[<-decide_not];exact decide_eq_decide.2 Int.not_le.symm
def E1b (a b:Int):decide (a>b) = !decide (a<=b):=by
 rw[<-decide_not];exact decide_eq_decide.2 Int.not_le.symm
def Y1t (t:A0):Bool:=bif decide (t.K<0)then true else decide (t.K>4)
def Z1t (t:A0):Bool:=bif (bif (bif (bif t.K !=1 then(bif t.Low !=0 then true else t.H !=0)else false)then true else(bif t.K !=2 then t.E !=0 else false))then true else(bif t.K !=4 then !(t.Name==[])else false))then true else (bif t.K !=3 then(t.O.length:Int)!=0 else false)
def A1u (t:A0):Bool:=bif (bif (bif t.K==2 then(t.Of.length:Int)!=1 else false)then true else (bif t.K==3 then(bif decide ((t.Of.length:Int)<1)then true else(t.Of.length:Int)!=(t.O.length:Int))else false))then true else (bif (bif t.K !=2 then t.K !=3 else false)then(t.Of.length:Int)!=0 else false)
def Y29 (t:A0):fm1 t = !Y1t t:=by
 unfold fm1 Y1t;rw[D1b,E1b];cases decide (t.K>=0)<;>cases decide (t.K<=4)<;>rfl
def Z29 (t:A0):(fm2 t&&fm3 t&&fm4 t&&fm5 t) = !Z1t t:=by
 unfold fm2 fm3 fm4 fm5 Z1t;simp only[bne];generalize(t.K==1)=a;generalize(t.K==2)=b;generalize(t.K==3)=c;generalize(t.K==4)=d;generalize(t.Low==0)=e;generalize(t.H==0)=f;generalize(t.E==0)=g;generalize(t.Name==[])=h;generalize((t.O.length:Int)==0)=i;cases a<;>cases b<;>cases c<;>cases d<;>cases e<;>cases f<;>cases g<;>cases h<;>cases i<;>rfl
def A2a (t:A0):fm6 t = !A1u t:=by
 have r:(t.K==2)=true->(t.K==3)=false:=λh=>by
  have:t.K=2:=by simpa using h
  rw[this];rfl
 unfold fm6 A1u;rw[D1b];simp only[bne]
 revert r
 generalize(t.K==2)=b;generalize(t.K==3)=c;generalize((t.Of.length:Int)==1)=d;generalize((t.Of.length:Int)==0)=e;generalize((t.Of.length:Int)==(t.O.length:Int))=f;generalize(decide ((t.Of.length:Int)>=1))=g;intro r;cases b<;>cases c<;>first|(exact absurd (r rfl) (by decide))|(cases d<;>cases e<;>cases f<;>cases g<;>rfl)
def I27 (t:A0):X4 t=(!Y1t t && !Z1t t && !A1u t):=by
 rw[<-Y29,<-Z29,<-A2a];unfold X4;simp only[Bool.and_assoc]
def Qo (n:Int):Bool:=bif decide (n>=-1048576)then decide (n<=1048576)else false
def B11 (t:A0):Bool:=bif (bif (bif t.K==1 then(bif (bif !Qo t.Low then true else !Qo t.H)then true else decide (t.Low>t.H))else false)then true else (bif t.K==2 then(bif decide (t.E<1)then true else decide (t.E>32))else false))then true else decide ((t.Of.length:Int)>32)
def B1u (t:A0)(x:X4 t=true):We t = !B11 t:=by
 have d:(t.K==1)=true->(t.K==2)=false/\(t.K==3)=false:=λh=>by
  have:t.K=1:=by simpa using h
  rw[this];exact⟨rfl,rfl⟩
 have r:(t.K==2)=true->(t.K==3)=false:=λh=>by
  have:t.K=2:=by simpa using h
  rw[this];rfl
 have u:fm6 t=true:=by
  unfold X4 at x;simp only[zqi]at x;exact x.2
 have v:(bif G3 t.Low (-1048576) 1048576 then G3 t.H t.Low 1048576 else false) = !(bif (bif !Qo t.Low then true else !Qo t.H)then true else decide (t.Low>t.H)):=by
  unfold G3 Qo
  by_cases a1:t.Low>=-1048576<;>by_cases a2:t.Low<=1048576<;>by_cases a3:t.H>=-1048576<;>by_cases a4:t.H<=1048576<;>by_cases a5:t.H>=t.Low<;>
   simp[a1,a2,a3,a4,a5]<;>omega
 have z:G3 t.E 1 32 = !(bif decide (t.E<1)then true else decide (t.E>32)):=by
  unfold G3;rw[D1b,E1b];cases decide (t.E>=1)<;>cases decide (t.E<=32)<;>rfl
 unfold We B11 nm1 nm2;rw[v,z,E1b ((t.Of.length:Int))];have y:(t.K==3)=false->decide ((t.Of.length:Int)<=32)=true:=λB=>by
  unfold fm6 at u;rw[B]at u;cases h2:t.K==2 with
  |true=>
   rw[h2]at u;have:(t.Of.length:Int)=1:=by simpa using u
   exact zqj (by omega)
  |false=>
   rw[h2]at u;have:(t.Of.length:Int)=0:=by simpa using u
   exact zqj (by omega)
 revert d r y
 generalize(bif (bif !Qo t.Low then true else !Qo t.H)then true else decide (t.Low>t.H))=X;generalize(bif decide (t.E<1)then true else decide (t.E>32))=Y;generalize decide ((t.Of.length:Int)<=32)=Z;generalize(t.K==1)=a;generalize(t.K==2)=b;generalize(t.K==3)=c;intro d r y;cases a<;>cases b<;>cases c<;>first|exact absurd (d rfl).1 (by decide)|exact absurd (d rfl).2 (by decide)|exact absurd (r rfl) (by decide)|(cases X<;>cases Y<;>cases Z<;>first|rfl|exact absurd (y rfl) (by decide))
def E1h (t:A0):t.all X4=true->t.all We=t.all λt=>!B11 t:=by
 induction t using A0.ind with
 |h t z=>
 intro d;rw[A0.all_eq,zqi]at d;rw[A0.all_eq,A0.all_eq,B1u t d.1];congr 1;have:∀l:List A0,(∀x∈l,x.all X4=true->x.all We=x.all λt=>!B11 t)->A0.alls X4 l=true->A0.alls We l=A0.alls (λt=>!B11 t) l:=by
  intro l
  induction l with
  |nil=>intros;rfl
  |cons x r b=>
   intro u c;simp only[A0.alls,zqi]at c;simp only[A0.alls];rw[u x zqp c.1,b (λy v=>u y (zqq _ v)) c.2]
 exact this t.Of z d.2
def Q9 (t:A0):Int:=Ul t.nodes t.depth (!t.all X4) (!t.all P9) (!t.all We)
mutual
def A0.cnt:A0->Int
 |.mk k _ _ s _ _ of=>min (bif k==2 then min s 33*A0.cnt1 of else bif k==3 then A0.cnts of else 1) 33
def A0.cnt1:List A0->Int
 |[]=>0
 |t::_=>A0.cnt t
def A0.cnts:List A0->Int
 |[]=>0
 |t::r=>A0.cnt t+A0.cnts r
end
def A0.cnt_eq (t:A0):t.cnt=min (bif t.K==2 then min t.E 33*A0.cnt1 t.Of else bif t.K==3 then A0.cnts t.Of else 1) 33:=by cases t;rfl
def A0.cnt_le (t:A0):t.cnt<=33:=by rw[A0.cnt_eq];omega
def A0.alls_mem {p:A0->Bool}:∀{l:List A0} {t:A0},A0.alls p l=true->t∈l->t.all p=true
 |x::r,t,h,b=>by
  simp only[A0.alls,zqi]at h;cases b with
  |head=>exact h.1
  |tail _ b=>exact A0.alls_mem h.2 b
structure E4 (t:A0):Prop where
 form:t.all X4=true
 num:t.all We=true
def E4.kid {x:A0}(h:E4 t)(b:x∈t.Of):E4 x:=by
 have d:=h.form;have c:=h.num;rw[A0.all_eq,zqi]at d c;exact⟨A0.alls_mem d.2 b,A0.alls_mem c.2 b⟩
def E4.here (h:E4 t):X4 t=true/\We t=true:=by
 have c:=h.form;have b:=h.num;rw[A0.all_eq,zqi]at c b;exact⟨c.1,b.1⟩
def E4.arr (h:E4 t)(y:(t.K==2)=true):∃x,t.Of=[x]/\1<=t.E/\t.E<=32:=by
 obtain⟨r,d⟩:=h.here;simp only[X4,We,zqi]at r d;have c:=r.2;have b:=d.1;unfold fm6 at c;unfold nm1 G3 at b;rw[y]at c b;simp only[zqk]at c b;have v:t.Of.length=1:=by
  have:(t.Of.length:Int)=1:=by simpa using c
  omega
 obtain⟨x,u⟩:=List.length_eq_one_iff.1 v;cases hd:decide (t.E>=1)with
 |false=>rw[hd]at b;cases b
 |true=>
  rw[hd]at b;exact⟨x,u,of_decide_eq_true hd,of_decide_eq_true b⟩
def E4.recd (h:E4 t)(u:(t.K==3)=true):t.Of.length<=32/\t.Of.length=t.O.length/\1<=t.Of.length:=by
 obtain⟨v,r⟩:=h.here;simp only[X4,We,zqi]at v r;have b:=v.2;have c:=r.1;have d:(t.K==2)=false:=by
  have:t.K=3:=by simpa using u
  rw[this];rfl
 unfold fm6 at b;unfold nm1 at c;rw[u,d]at b c;simp only[zqk,zql]at b c;have y:(t.Of.length:Int)<=32:=of_decide_eq_true c;cases hd:decide ((t.Of.length:Int)>=1)with
 |false=>rw[hd]at b;cases b
 |true=>
  rw[hd]at b;have:=of_decide_eq_true hd;have x:(t.Of.length:Int)=t.O.length:=by simpa using b
  omega
def A0.cnts_bound:∀l:List A0,(∀x∈l,0<=x.cnt)->0<=A0.cnts l/\A0.cnts l<=33*l.length
 |[],_=>by simp[A0.cnts]
 |x::r,h=>by
  have u:=h x zqp;have d:=A0.cnt_le x;have c:=A0.cnts_bound r λy b=>h y (zqq _ b);simp only[A0.cnts,zqd];omega
def A0.cnt_ge (t:A0):E4 t->0<=t.cnt:=by
 induction t using A0.ind with
 |h t d=>
 intro c;rw[A0.cnt_eq];cases h2:t.K==2 with
 |true=>
  obtain⟨x,b,r,u⟩:=c.arr h2;have:=d x (by rw[b];exact zqp) (c.kid (by rw[b];exact zqp));rw[b];simp only[zqk,A0.cnt1];have:0<=min t.E 33*x.cnt:=Int.mul_nonneg (by omega) this;omega
 |false=>
  cases h3:t.K==3 with
  |true=>
   have:=A0.cnts_bound t.Of λx b=>d x b (c.kid b);simp only[zqk,zql];omega
  |false=>simp only[zql];omega
mutual
def A0.some (p:A0->Bool):A0->Bool
 |.mk k l h s n ns of=>p (.mk k l h s n ns of)||A0.somes p of
def A0.somes (p:A0->Bool):List A0->Bool
 |[]=>false
 |t::r=>A0.some p t||A0.somes p r
end
def A0.some_eq (p:A0->Bool)(t:A0):t.some p=(p t||t.Of.any (A0.some p)):=by
 have:∀l,A0.somes p l=l.any (A0.some p):=λl=>by
  induction l with
  |nil=>rfl
  |cons x r b=>simp[A0.somes,b]
 cases t;simp only[A0.some,A0.Of,this]
def Bq (t:A0):Bool:=t.K==4
def tw (seen:List (List UInt8)):List (List UInt8)->Bool
 |[]=>false
 |x::r=>(seen.any λy=>x==y)||tw (seen++[x]) r
def Vk (t:A0):Bool:=tw [] t.O
def W1l (t:A0):Int:=bif t.some Bq then 7 else bif t.some Vk then 8 else bif decide (t.cnt>32)then 4 else 0
def C1g (h:Q9 t=0):E4 t:=by
 unfold Q9 Ul at h;constructor
 ·cases hf:t.all X4 with
  |true=>rfl
  |false=>
   rw[hf]at h
   revert h
   cases(bif decide ((t.nodes:Int)>1024)then true else decide ((t.depth:Int)>12))<;>simp
 ·cases hf:t.all We with
  |true=>rfl
  |false=>
   rw[hf]at h
   revert h
   cases(bif decide ((t.nodes:Int)>1024)then true else decide ((t.depth:Int)>12))<;>cases t.all X4<;>cases t.all P9<;>simp
def Jg (t:A0):Int:=bif Q9 t !=0 then Q9 t else W1l t
def eqL {α:Type}(p:α->α->Bool):List α->List α->Bool
 |[],[]=>true
 |x::r,y::s=>p x y&&eqL p r s
 |_,_=>false
def Hv {α:Type}(p:α->α->Bool):∀{l m:List α},l.length≠m.length->eqL p l m=false
 |[],[],h=>absurd rfl h
 |[],_::_,_=>rfl
 |_::_,[],_=>rfl
 |x::r,y::s,h=>by rw[eqL,Hv p (l:=r) (m:=s) (by simpa using h),Bool.and_false]
mutual
def A0.same:A0->A0->Bool
 |.mk k l h s n ns of,t=>k==t.K&&l==t.Low&&h==t.H&&s==t.E&&n==t.Name&&eqL (λx y=>x==y) ns t.O&&A0.sames of t.Of
def A0.sames:List A0->List A0->Bool
 |[],[]=>true
 |x::r,y::s=>A0.same x y&&A0.sames r s
 |[],_::_=>false
 |_::_,[]=>false
end
def A0.sames_eq:∀l m:List A0,A0.sames l m=eqL A0.same l m
 |[],[]=>rfl
 |x::r,y::s=>by simp only[A0.sames,eqL,A0.sames_eq r s]
 |[],_::_=>rfl
 |_::_,[]=>rfl
def A0.same_eq (t u:A0):t.same u=(t.K==u.K&&t.Low==u.Low&&t.H==u.H&&t.E==u.E&&t.Name==u.Name&&eqL (λx y=>x==y) t.O u.O&&eqL A0.same t.Of u.Of):=by
 rw[<-A0.sames_eq];cases t;rfl
def H1o (t u:A0):Bool:=bif (bif (bif (bif (bif (bif t.K !=u.K then true else t.Low !=u.Low)then true else t.H !=u.H)then true else t.E !=u.E)then true else !(t.Name==u.Name))then true else (t.O.length:Int)!=(u.O.length:Int))then true else(t.Of.length:Int)!=(u.Of.length:Int)
def B24 {u:A0}(h:H1o t u=true):t.same u=false:=by
 have c:(t.O.length:Int)≠(u.O.length:Int)->eqL (λx y=>x==y) t.O u.O=false:=λh=>Hv _ λe=>h (by omega);have b:(t.Of.length:Int)≠(u.Of.length:Int)->eqL A0.same t.Of u.Of=false:=λh=>Hv _ λe=>h (by omega);unfold H1o at h;rw[A0.same_eq];by_cases h1:(t.O.length:Int)=(u.O.length:Int)
 ·by_cases h2:(t.Of.length:Int)=(u.Of.length:Int)
  ·rw[h1,h2]at h
   revert h
   simp only[bne,zqm,zqf];cases t.K==u.K<;>cases t.Low==u.Low<;>cases t.H==u.H<;>cases t.E==u.E<;>cases t.Name==u.Name<;>simp
  ·rw[b h2,Bool.and_false]
 ·rw[c h1,Bool.and_false,Bool.false_and]
def J27 {u:A0}(h:H1o t u=false):t.same u=(eqL (λx y=>x==y) t.O u.O&&eqL A0.same t.Of u.Of)/\t.O.length=u.O.length/\t.Of.length=u.Of.length:=by
 unfold H1o at h;simp only[bne]at h;have b:t.K==u.K/\t.Low==u.Low/\t.H==u.H/\t.E==u.E/\t.Name==u.Name/\(t.O.length:Int)==(u.O.length:Int)/\(t.Of.length:Int)==(u.Of.length:Int):=by
  revert h
  cases t.K==u.K<;>cases t.Low==u.Low<;>cases t.H==u.H<;>cases t.E==u.E<;>cases t.Name==u.Name<;>cases(t.O.length:Int)==(u.O.length:Int)<;>cases(t.Of.length:Int)==(u.Of.length:Int)<;>simp
 obtain⟨z,k2,v,r,B,c,d⟩:=b;refine⟨by rw[A0.same_eq,z,k2,v,r,B];rfl,?_,?_⟩
 ·have:(t.O.length:Int)=u.O.length:=by simpa using c
  omega
 ·have:(t.Of.length:Int)=u.Of.length:=by simpa using d
  omega
def B2a (b:X4 t=true)(d:(t.K==3)=false):Vk t=false:=by
 unfold X4 fm5 at b;simp only[zqi]at b;have c:=b.1.2;rw[d]at c;simp only[zql]at c;have:(t.O.length:Int)=0:=by simpa using c
 unfold Vk;rw[List.eq_nil_of_length_eq_zero (by omega:t.O.length=0)];rfl
mutual
def A0.bulk:A0->Nat
 |.mk _ _ _ _ n ns of=>1+(1+(1+(1+((n.length+1)+(((ns.map λs=>s.length+1).sum+1)+((A0.bulks of+1)+0))))))+1
def A0.bulks:List A0->Nat
 |[]=>0
 |x::r=>A0.bulk x+A0.bulks r
end
def A0.bulk_eq (t:A0):t.bulk=t.Name.length+(t.O.map λs=>s.length+1).sum+A0.bulks t.Of+8:=by cases t;simp only[A0.bulk];omega
def A0.bulk_kid {t:A0}:∀{l:List A0},t∈l->t.bulk<=A0.bulks l
 |x::r,h=>by
  simp only[A0.bulks];cases h with
  |head=>omega
  |tail _ h=>have:=A0.bulk_kid h;omega
def A0.bulk_len:∀l:List A0,l.length<=A0.bulks l
 |[]=>zqr _
 |x::r=>by
  simp only[A0.bulks,zqd];have:=A0.bulk_len r;have:=A0.bulk_eq x;omega
def F1b {s:Str}:∀{l:List Str},s∈l->s.length+1<=(l.map λs=>s.length+1).sum
 |x::r,h=>by
  simp only[List.map_cons,List.sum_cons];cases h with
  |head=>omega
  |tail _ h=>have:=F1b h;omega
def C1u:∀l:List Str,l.length<=(l.map λs=>s.length+1).sum
 |[]=>zqr _
 |x::r=>by simp only[List.map_cons,List.sum_cons,zqd];have:=C1u r;omega
mutual
def A0.nodes_bulk:∀t:A0,t.nodes<=t.bulk
 |.mk _ _ _ _ _ _ b=>by simp only[A0.nodes,A0.bulk];have:=A0.nodess_bulk b;omega
def A0.nodess_bulk:∀l:List A0,A0.nodess l<=A0.bulks l
 |[]=>zqr _
 |x::r=>by simp only[A0.nodess,A0.bulks];have:=A0.nodes_bulk x;have:=A0.nodess_bulk r;omega
end
def Ok (t:A0):Prop:=t.bulk<=BB
def Ok.kid {x:A0}(h:Ok t)(b:x∈t.Of):Ok x:=by
 unfold Ok at *;have:=A0.bulk_kid b;have:=A0.bulk_eq t;omega
def Ok.ofs (h:Ok t):t.Of.length<=BB:=by
 unfold Ok at *;have:=A0.bulk_len t.Of;have:=A0.bulk_eq t;omega
def Ok.names (h:Ok t):t.O.length<=BB:=by
 unfold Ok at *;have:=C1u t.O;have:=A0.bulk_eq t;omega
def Ok.name1 (h:Ok t){s:Str}(b:s∈t.O):s.length<=BB:=by
 unfold Ok at *;have:=F1b b;have:=A0.bulk_eq t;omega
def Ok.name (h:Ok t):t.Name.length<=BB:=by
 unfold Ok at *;have:=A0.bulk_eq t;omega
def Ok.nodes {t:A0}(h:Ok t):t.nodes<=BB:=Nat.le_trans (A0.nodes_bulk t) h
def bor (a b:Bool):(bif a then true else b)=(a||b):=by cases a<;>rfl
def T1i (d:Int)(o:N0):Ea d o=some ⟨o.nodes,max o.depth d,o.r,o.o,o.q⟩:=rfl
def U1i (b:Bool)(o:N0):F1 b o=some ⟨o.nodes,o.depth,o.r || !b,o.o,o.q⟩:=by unfold F1;rw[bor]
def U13 (b:Bool)(o:N0):C3 b o=some ⟨o.nodes,o.depth,o.r,o.o,o.q || !b⟩:=by unfold C3;rw[bor]
def Zq (a b c:Int):Z4 a b c=some (G3 a b c):=rfl
def G1b (s:Str)(b:s.length<=BB)(o:N0):H6 s o=some ⟨o.nodes,o.depth,o.r,o.o || !N7 s,o.q⟩:=by
 unfold H6;rw[T1p s b];cases h:o.o<;>simp
def D1u (o:N0):E8 o=some (Ul o.nodes o.depth o.r o.o o.q):=by
 unfold E8 Ul;cases(bif decide (o.nodes>1024)then true else decide (o.depth>12))<;>cases o.r<;>cases o.o<;>cases o.q<;>rfl
def Jm (o:N0)(d:Int)(n m:Nat)(f a u:Bool):N0:=⟨o.nodes+n,max o.depth (d+m),o.r || !f,o.o || !a,o.q || !u⟩
def C24 (t:A0)(d:Int)(T:0<=d)(u:Ok t)
  (c:∀x∈t.Of,∀(d:Int) (o:N0),0<=d->d+x.nodes<=4*BB->0<=o.nodes->o.nodes+x.nodes<=4*BB->V6 x d o=some (Jm o d x.nodes (x.depth-1) (x.all X4) (x.all P9) (x.all We))) :
  ∀(r:List A0) (k:Nat) (o:N0),t.Of.drop k=r->(∀x∈r,x∈t.Of)->d+1+A0.nodess r<=4*BB->0<=o.nodes->o.nodes+A0.nodess r<=4*BB->d<=o.depth->
   I7 t d o k=some (Jm o d (A0.nodess r) (A0.depths r) (A0.alls X4 r) (A0.alls P9 r) (A0.alls We r))
 |[],k,o,h,_,_,_,_,X=>by
  rw[I7,(I1 h).1];simp only[Jm,A0.nodess,A0.depths,A0.alls,zqf,Bool.or_false];rw[zn (by simp),show o.nodes+((0:Nat):Int)=o.nodes by omega,show max o.depth (d+((0:Nat):Int))=o.depth by omega]
 |x::r,k,o,h,O,z,V,v,X=>by
  obtain⟨U,J,Y,Z,I⟩:=R1 h;simp only[A0.nodess]at z v;have B:1<=x.depth:=by rw[A0.depth_eq];omega
  have b:=u.ofs;unfold BB at z v b
  rw[I7,U,zp rfl,J,ob,wr (n:=d+1) (by omega) (by omega),c x I (d+1) o (by omega) (by unfold BB;omega) V (by unfold BB;omega),ob,w1 (by unfold BB;omega),
   C24 t d T u c r (k+1) _ Y (λy D=>O y (zqq _ D)) (by unfold BB;omega) (by simp only[Jm];omega) (by simp only[Jm];unfold BB;omega) (by simp only[Jm];omega)]
  simp only[Jm,A0.nodess,A0.depths,A0.alls,N12]
  rw[show o.nodes+(x.nodes:Int)+(A0.nodess r:Nat)=o.nodes+((x.nodes+A0.nodess r:Nat):Int) by omega,
   show max (max o.depth (d+1+((x.depth-1:Nat):Int))) (d+(A0.depths r:Nat))=max o.depth (d+((max x.depth (A0.depths r):Nat):Int)) by omega]
def D24 (t:A0)(d:Int)(b:Ok t)(R:N0->Option N0)(c:∀o,I7 t d o 0=R o) :
  ∀(r:List Str) (k:Nat) (o:N0),t.O.drop k=r->B6 t d o k=R ⟨o.nodes,o.depth,o.r,o.o || !r.all N7,o.q⟩
 |[],k,o,h=>by
  rw[B6,(I1 h).1,zn (by simp),c];simp
 |x::r,k,o,h=>by
  obtain⟨y,v,z,B,u⟩:=R1 h;have:=b.names;rw[B6,y,zp rfl,v,ob,G1b x (b.name1 u),ob,w1 (by omega),D24 t d b R c r (k+1) _ z];simp only[List.all_cons,N12]
def R2b (t:A0)(d:Int)(b:Ok t)(o:N0):P8 t d o=B6 t d ⟨o.nodes,o.depth,o.r,o.o || !na1 t,o.q⟩ 0:=by
 rw[P8,G1b _ b.name,ob,Ib,Ib];unfold na1;cases h:t.K==4<;>simp
def S2b (t:A0)(d:Int)(o:N0):O8 t d o=P8 t d ⟨o.nodes,o.depth,o.r,o.o,o.q || !nm2 t⟩:=by
 rw[O8];unfold nm2;simp only[Zq,U13,ob];cases h:t.K==1<;>cases G3 t.Low (-1048576) 1048576<;>simp[ob]
def E24 (t:A0):Ok t->∀(d:Int) (o:N0),0<=d->d+t.nodes<=4*BB->0<=o.nodes->o.nodes+t.nodes<=4*BB->
  V6 t d o=some (Jm o d t.nodes (t.depth-1) (t.all X4) (t.all P9) (t.all We)):=by
 induction t using A0.ind with
 |h t J=>
 intro c d o U y h3 u;have I:=λo h3 u v=>C24 t d U c (λx z=>J x z (c.kid z)) t.Of 0 o rfl (λ_ h=>h) (by rw[A0.nodes_eq]at y;omega) h3 u v;have T:=D24 t d c _ (λo=>rfl) t.O 0;rw[A0.nodes_eq]at y u;unfold BB at y u;rw[V6];simp only[T1i,U1i,Zq,U13,ob,S2b,R2b t d c];rw[wr (n:=o.nodes+1) (by omega) (by omega)]
 have b:∀D B,fm6 t=D->nm1 t=B->
   B6 t d ⟨o.nodes+1,max o.depth d,(((((o.r || !fm1 t) || !fm2 t) || !fm3 t) || !fm4 t) || !fm5 t) || !D,o.o || !na1 t,(o.q || !B) || !nm2 t⟩ 0
    = some (Jm o d t.nodes (t.depth-1) (t.all X4) (t.all P9) (t.all We)):=by
  rintro _ _ rfl rfl;have:=T ⟨o.nodes+1,max o.depth d,(((((o.r || !fm1 t) || !fm2 t) || !fm3 t) || !fm4 t) || !fm5 t) || !fm6 t,o.o || !na1 t,(o.q || !nm1 t) || !nm2 t⟩ rfl;rw[show((0:Nat):Int)=0 from rfl]at this I;rw[this,I _ (by simp only;omega) (by simp only;unfold BB;omega) (by simp only;omega)];simp only[Jm,A0.all_eq,A0.nodes_eq,A0.depth_eq,X4,P9,We,N12,Bool.or_assoc,<-Bool.not_and];simp only[N12,Bool.and_assoc];rw[show o.nodes+1+(A0.nodess t.Of:Int)=o.nodes+((A0.nodess t.Of+1:Nat):Int) by omega,show max (max o.depth d) (d+(A0.depths t.Of:Int))=max o.depth (d+((A0.depths t.Of+1-1:Nat):Int)) by omega]
 have h2:(t.K==2)=true\/(t.K==2)=false:=by cases t.K==2<;>simp
 have h3:(t.K==3)=true\/(t.K==3)=false:=by cases t.K==3<;>simp
 rcases h2 with h2|h2
 ·rw[zp h2];exact b ((t.Of.length:Int)==1) (G3 t.E 1 32) (by unfold fm6;rw[h2,zqk]) (by unfold nm1;rw[h2,zqk])
 ·rw[zn (by rw[h2];simp)];rcases h3 with h3|h3
  ·rw[zp h3];exact b (bif decide ((t.Of.length:Int)>=1)then(t.Of.length:Int)==(t.O.length:Int)else false) (decide ((t.Of.length:Int)<=32)) (by unfold fm6;rw[h2,h3,zql,zqk]) (by unfold nm1;rw[h2,h3,zql,zqk])
  ·rw[zn (by rw[h3];simp)];have:=b ((t.Of.length:Int)==0) true (by unfold fm6;rw[h2,h3,zql,zql]) (by unfold nm1;rw[h2,h3,zql,zql]);rw[zqf,Bool.or_false]at this;exact this
def D1f (t:A0)(b:Ok t):Qh t=some (Q9 t):=by
 have c:=b.nodes;unfold BB at c;have d:1<=t.depth:=by rw[A0.depth_eq];omega
 unfold Qh;rw[E24 t b 1 _ (by omega) (by unfold BB;omega) (by simp) (by simp only;unfold BB;omega),ob,D1u,ob];unfold Jm Q9;simp only[Bool.false_or];rw[show(0:Int)+(t.nodes:Int)=t.nodes by omega,show max 0 ((1:Int)+((t.depth-1:Nat):Int))=t.depth by omega]
def E1u (t:A0)(u:Ok t)(d:∀x∈t.Of,Uf x=some (x.nodes:Int)) :
  ∀(r:List A0) (k:Nat) (n:Nat),t.Of.drop k=r->n+A0.nodess r<=BB->Ce t (n:Int) k=some ((n+A0.nodess r:Nat):Int)
 |[],k,n,h,c=>by rw[Ce,(I1 h).1,zn (by simp)];simp[A0.nodess]
 |x::r,k,n,h,c=>by
  obtain⟨y,z,B,D,v⟩:=R1 h;have:=u.ofs;simp only[A0.nodess]at c;have b:=c;unfold BB at b;rw[Ce,y,zp rfl,z,ob,d x v,ob,wr (n:=(n:Int)+_) (by omega) (by omega),w1 (by omega),show(n:Int)+(x.nodes:Int)=((n+x.nodes:Nat):Int) by omega,E1u t u d r (k+1) _ B (by omega)];simp only[A0.nodess,Nat.add_assoc]
def U1p (t:A0):Ok t->Uf t=some (t.nodes:Int):=by
 induction t using A0.ind with
 |h t d=>
 intro b;have r:=b.nodes;rw[A0.nodes_eq]at r;rw[Uf];have:=E1u t b (λx c=>d x c (b.kid c)) t.Of 0 1 rfl (by omega);rw[A0.nodes_eq,Nat.add_comm];exact this
def V1i (t:A0)(c:Ok t)(b:∀x∈t.Of,Wf x=some (x.depth:Int))(B:Nat)(d:B<=BB) :
  ∀(r:List A0) (k:Nat) (n:Nat),t.Of.drop k=r->n<=B->A0.depths r<=B->Qa t (n:Int) k=some ((max n (A0.depths r)+1:Nat):Int)
 |[],k,n,h,I,_=>by
  rw[Qa,(I1 h).1,zn (by simp),w1 (by omega)];simp[A0.depths]
 |x::r,k,n,h,I,z=>by
  obtain⟨D,y,u,J,v⟩:=R1 h;have:=c.ofs;simp only[A0.depths]at z;rw[Qa,D,zp rfl,y,ob,b x v,ob,w1 (by omega),V1i t c b B d r (k+1) _ u (by omega) (by omega),V1i t c b B d r (k+1) _ u (by omega) (by omega)];simp only[A0.depths];by_cases hx:(x.depth:Int)>(n:Int)
  ·rw[zp (zqj hx),show max n (max x.depth (A0.depths r))=max x.depth (A0.depths r) by omega]
  ·rw[zn (by simpa using hx),show max n (max x.depth (A0.depths r))=max n (A0.depths r) by omega]
def V1p (t:A0):Ok t->Wf t=some (t.depth:Int):=by
 induction t using A0.ind with
 |h t d=>
 intro b;have u:=b.nodes;have r:=A0.depth_nodes t;rw[Wf];rw[A0.depth_eq]at r;have:=V1i t b (λx c=>d x c (b.kid c)) BB (zqr _) t.Of 0 0 rfl (by omega) (by omega);rw[A0.depth_eq];rw[show max 0 (A0.depths t.Of)=A0.depths t.Of by omega]at this;exact this
def C2a (t:A0)(b:Ok t):Tj ⟨0,0⟩ t true=some ⟨t.nodes,t.depth⟩:=by
 have c:=b.nodes;unfold BB at c;have d:1<=t.depth:=by rw[A0.depth_eq];omega
 unfold Tj;rw[U1p t b,V1p t b];simp only[zqf,zql,ob,E9];rw[zn (by simp),ob,zn (by simp),wr (n:=(0:Int)+(t.nodes:Int)) (by omega) (by omega),zp (zqj (by omega)),ob];rw[show(0:Int)+(t.nodes:Int)=t.nodes by omega]
def V1x (t:A0)(c:Ok t)(b:∀x∈t.Of,Ge x=some (x.all X4)):∀(r:List A0) (k:Nat),t.Of.drop k=r->Ug t k=some (A0.alls X4 r)
 |[],k,h=>by rw[Ug,(I1 h).1,zn (by simp)];rfl
 |x::r,k,h=>by
  obtain⟨u,v,y,z,d⟩:=R1 h;have:=c.ofs;rw[Ug,u,zp rfl,v,ob,b x d,ob,w1 (by omega),V1x t c b r (k+1) y,A0.alls];cases x.all X4<;>simp
def F1u (t:A0):Ok t->Ge t=some (t.all X4):=by
 induction t using A0.ind with
 |h t r=>
 intro c;have d:=V1x t c (λx b=>r x b (c.kid b)) t.Of 0 rfl;rw[show((0:Nat):Int)=0 from rfl]at d;rw[Ge,d,A0.all_eq,I27];show(if Y1t t=true then some false else if Z1t t=true then some false else if A1u t=true then some false else some (A0.alls X4 t.Of))=_;cases Y1t t<;>cases Z1t t<;>cases A1u t<;>simp
def W1p (t:A0)(c:Ok t)(b:∀x∈t.Of,Gc x=some (x.all P9)):∀(r:List A0) (k:Nat),t.Of.drop k=r->Sa t k=some (A0.alls P9 r)
 |[],k,h=>by rw[Sa,(I1 h).1,zn (by simp)];rfl
 |x::r,k,h=>by
  obtain⟨u,v,y,z,d⟩:=R1 h;have:=c.ofs;rw[Sa,u,zp rfl,v,ob,b x d,ob,w1 (by omega),W1p t c b r (k+1) y,A0.alls];cases x.all P9<;>simp
def X1p (t:A0)(c:Ok t)(b:Bool)(d:Sa t 0=some b):∀(r:List Str) (k:Nat),t.O.drop k=r->Je t k=some (r.all N7&&b)
 |[],k,h=>by rw[Je,(I1 h).1,zn (by simp),d];rfl
 |x::r,k,h=>by
  obtain⟨v,y,z,B,u⟩:=R1 h;have:=c.names;rw[Je,v,zp rfl,y,ob,Aq x (c.name1 u),ob,w1 (by omega),X1p t c b d r (k+1) z,List.all_cons];cases N7 x<;>simp
def Y1p (t:A0):Ok t->Gc t=some (t.all P9):=by
 induction t using A0.ind with
 |h t r=>
 intro b;have u:=W1p t b (λx c=>r x c (b.kid c)) t.Of 0 rfl;have d:=X1p t b _ u t.O 0 rfl;rw[show((0:Nat):Int)=0 from rfl]at d;rw[Gc,d,A0.all_eq,Aq t.Name b.name];unfold P9 na1;cases t.K==4<;>cases N7 t.Name<;>simp
def X1l (t:A0)(c:Ok t)(b:∀x∈t.Of,F9 x=some (x.all λt=>!B11 t)):∀(r:List A0) (k:Nat),t.Of.drop k=r->Mb t k=some (A0.alls (λt=>!B11 t) r)
 |[],k,h=>by rw[Mb,(I1 h).1,zn (by simp)];rfl
 |x::r,k,h=>by
  obtain⟨u,v,y,z,d⟩:=R1 h;have:=c.ofs;rw[Mb,u,zp rfl,v,ob,b x d,ob,w1 (by omega),X1l t c b r (k+1) y,A0.alls];cases x.all (λt=>!B11 t)<;>simp
def S16 (n:Int):Em n=some (Qo n):=rfl
def F1h (t:A0):Ok t->F9 t=some (t.all λt=>!B11 t):=by
 induction t using A0.ind with
 |h t r=>
 intro c;have d:=X1l t c (λx b=>r x b (c.kid b)) t.Of 0 rfl;rw[show((0:Nat):Int)=0 from rfl]at d;rw[F9,d,A0.all_eq];simp only[S16];generalize A0.alls (λt=>!B11 t) t.Of=A;unfold B11;generalize decide ((t.Of.length:Int)>32)=b1;generalize(bif t.K==2 then(bif decide (t.E<1)then true else decide (t.E>32))else false)=b2;generalize decide (t.Low>t.H)=b3;cases t.K==1<;>cases Qo t.Low<;>cases Qo t.H<;>cases b1<;>cases b2<;>cases b3<;>rfl
def G1h (s:U0)(f m u:Bool):Jr s f m u=some (Ul s.nodes s.depth (!f) (!m) (!u)):=by
 unfold Jr Ul;cases(bif decide (s.nodes>1024)then true else decide (s.depth>12))<;>cases f<;>cases m<;>cases u<;>rfl
def X1b (t:A0)(b:Ok t):Ko t=some (Q9 t):=by
 unfold Ko Q9;rw[C2a t b,F1u t b,Y1p t b,F1h t b];simp only[ob,G1h];cases hf:t.all X4 with
 |true=>rw[E1h t hf]
 |false=>unfold Ul;rfl
set_option linter.unusedVariables false
def D0.ind {P:D0->Prop}(h:∀t:D0,(∀x∈t.V,P x)->P t):∀t,P t:=by
 intro t;refine D0.rec (motive_1:=P) (motive_2:=λl=>∀x∈l,P x) ?_ ?_ ?_ t
 ·intro k l n v d;exact h _ d
 ·intro x c;cases c
 ·intro x r c u y b;cases b with
  |head=>exact c
  |tail _ b=>exact u y b
mutual
def D0.depth:D0->Nat
 |.mk _ _ _ of=>D0.depths of+1
def D0.depths:List D0->Nat
 |[]=>0
 |t::r=>max (D0.depth t) (D0.depths r)
end
def D0.depth_eq (t:D0):t.depth=D0.depths t.V+1:=by cases t;simp[D0.depth,D0.V]
mutual
def D0.all (p:D0->Bool):D0->Bool
 |.mk k l n of=>p (.mk k l n of)&&D0.alls p of
def D0.alls (p:D0->Bool):List D0->Bool
 |[]=>true
 |t::r=>D0.all p t&&D0.alls p r
end
def D0.all_eq (p:D0->Bool)(t:D0):t.all p=(p t&&D0.alls p t.V):=by cases t;rfl
mutual
def D0.nodes:D0->Nat
 |.mk _ _ _ of=>D0.nodess of+1
def D0.nodess:List D0->Nat
 |[]=>0
 |t::r=>D0.nodes t+D0.nodess r
end
def D0.nodes_eq (t:D0):t.nodes=D0.nodess t.V+1:=by cases t;rfl
mutual
def D0.depth_nodes:∀t:D0,t.depth<=t.nodes
 |.mk _ _ _ b=>by simp only[D0.depth,D0.nodes];have:=D0.depths_nodess b;omega
def D0.depths_nodess:∀l:List D0,D0.depths l<=D0.nodess l
 |[]=>zqr _
 |t::r=>by simp only[D0.depths,D0.nodess];have:=D0.depth_nodes t;have:=D0.depths_nodess r;omega
end
mutual
def D0.bulk:D0->Nat
 |.mk _ _ n ks=>1+(1+((n.length+1)+((D0.bulks ks+1)+0)))+1
def D0.bulks:List D0->Nat
 |[]=>0
 |x::r=>D0.bulk x+D0.bulks r
end
def D0.bulk_eq (t:D0):t.bulk=t.Name.length+D0.bulks t.V+5:=by cases t;simp only[D0.bulk];omega
def D0.bulk_kid {t:D0}:∀{l:List D0},t∈l->t.bulk<=D0.bulks l
 |x::r,h=>by
  simp only[D0.bulks];cases h with
  |head=>omega
  |tail _ h=>have:=D0.bulk_kid h;omega
def D0.bulk_len:∀l:List D0,l.length<=D0.bulks l
 |[]=>zqr _
 |x::r=>by
  simp only[D0.bulks,zqd];have:=D0.bulk_len r;have:=D0.bulk_eq x;omega
mutual
def D0.nodes_bulk:∀t:D0,t.nodes<=t.bulk
 |.mk _ _ _ b=>by simp only[D0.nodes,D0.bulk];have:=D0.nodess_bulk b;omega
def D0.nodess_bulk:∀l:List D0,D0.nodess l<=D0.bulks l
 |[]=>zqr _
 |x::r=>by simp only[D0.nodess,D0.bulks];have:=D0.nodes_bulk x;have:=D0.nodess_bulk r;omega
end
def OkE (t:D0):Prop:=t.bulk<=BB
def OkE.kid {t x:D0}(h:OkE t)(b:x∈t.V):OkE x:=by
 unfold OkE at *;have:=D0.bulk_kid b;have:=D0.bulk_eq t;omega
def OkE.kids {t:D0}(h:OkE t):t.V.length<=BB:=by
 unfold OkE at *;have:=D0.bulk_len t.V;have:=D0.bulk_eq t;omega
def OkE.name {t:D0}(h:OkE t):t.Name.length<=BB:=by
 unfold OkE at *;have:=D0.bulk_eq t;omega
def OkE.nodes {t:D0}(h:OkE t):t.nodes<=BB:=Nat.le_trans (D0.nodes_bulk t) h
def D0.alls_mem {p:D0->Bool}:∀{l:List D0} {t:D0},D0.alls p l=true->t∈l->t.all p=true
 |x::r,t,h,b=>by
  simp only[D0.alls,zqi]at h;cases b with
  |head=>exact h.1
  |tail _ b=>exact D0.alls_mem h.2 b
def ar (o:Int):Int:=bif (bif (bif (bif (o==0)then true else(o==1))then true else(o==2))then true else(o==3))then 0 else bif (bif (bif (o==4)then true else(o==6))then true else(o==7))then 1 else bif (bif (o==5)then true else(bif (decide (o>=8))then(decide (o<=22))else false))then 2 else bif (o==23)then 3 else -1
def D2a (o:Int):P13 o=some (ar o):=by
 unfold P13 ar
 cases(bif (bif (bif (o==0)then true else(o==1))then true else(o==2))then true else(o==3))<;>cases(bif (bif (o==4)then true else(o==6))then true else(o==7))<;>
  cases(bif (o==5)then true else(bif (decide (o>=8))then(decide (o<=22))else false))<;>cases o==23<;>rfl
def K27 (o:Int):Lt o=some (ar o):=by
 by_cases h:o=23
 ·subst h;rfl
 have h':(o==23)=false:=zqn.2 h;simp only[Lt,Ef,Hj,ar,h'];cases o==0<;>cases o==1<;>cases o==2<;>cases o==3<;>first|rfl|skip
 cases o==4<;>cases o==6<;>cases o==7<;>first|rfl|skip
 cases o==5<;>cases(bif decide (o>=8)then decide (o<=22)else false)<;>rfl
mutual
def D0.place:D0->Bool
 |.mk op _ _ ks=>bif op==3 then true else bif (bif op==4 then true else op==5)then D0.place1 ks else false
def D0.place1:List D0->Bool
 |[]=>false
 |x::_=>D0.place x
end
def D0.place_eq (e:D0):e.place=(bif e.Op==3 then true else bif (bif e.Op==4 then true else e.Op==5)then D0.place1 e.V else false):=by cases e;simp only[D0.place]
def b3 (h:(bif o==4 then true else o==5)=true):(o==3)=false:=by
 apply zqn.2;rintro rfl;cases h
def Z1p (e:D0):Mt e=some e.place:=by
 unfold Mt
 induction e using D0.ind with
 |h e b=>
 rw[Wn,D0.place_eq];cases hb:(bif e.Op==4 then true else e.Op==5)with
 |false=>cases e.Op==3<;>simp
 |true=>
  rw[b3 hb];cases hk:e.V with
  |nil=>rfl
  |cons k r=>
   have:=b k (by rw[hk];simp);have d:idx (k::r) 0=some k:=rfl;have c:(((k::r).length:Int)==0)=false:=zqn.2 (by simp only[zqd];omega);simp only[c,d,ob,this,zqk,zql,D0.place1];simp
def A1q (e:D0):Uj e=some e.place:=by
 induction e using D0.ind with
 |h e b=>
 rw[Uj,D0.place_eq];cases h3:e.Op==3 with
 |true=>simp
 |false=>
  cases hb:(bif e.Op==4 then true else e.Op==5)with
  |false=>simp[ob]
  |true=>
   cases hk:e.V with
   |nil=>simp[ob,D0.place1]
   |cons k r=>
    have:=b k (by rw[hk];simp);have d:idx (k::r) 0=some k:=rfl;have c:decide (((k::r).length:Int)>0)=true:=zqj (by simp only[zqd];omega);simp only[c,d,ob,zqk,zql,D0.place1];simp[ob,this]
def ef1 (e:D0):Bool:=ar e.Op==(e.V.length:Int)
def ef2 (e:D0):Bool:=bif e.NV==0 then true else e.Op==0
def ef3 (e:D0):Bool:=bif e.Name==[]then true else bif e.Op==3 then true else e.Op==4
def ef4 (e:D0):Bool:=bif (bif e.Op==4 then true else e.Op==5)then e.place else true
def A3 (e:D0):Bool:=ef1 e&&ef2 e&&ef3 e&&ef4 e
def C8 (e:D0):Bool:=bif (bif e.Op==3 then true else e.Op==4)then N7 e.Name else true
def F4 (e:D0):Bool:=bif e.Op==0 then G3 e.NV 0 1048576 else true
def W1x (e:D0)(d:Int)(I:0<=d)(u:OkE e)
  (c:∀x∈e.V,∀(d:Int) (o:N0),0<=d->d+x.nodes<=4*BB->0<=o.nodes->o.nodes+x.nodes<=4*BB->U4 x d o=some (Jm o d x.nodes (x.depth-1) (x.all A3) (x.all C8) (x.all F4))) :
  ∀(r:List D0) (k:Nat) (o:N0),e.V.drop k=r->d+1+D0.nodess r<=4*BB->0<=o.nodes->o.nodes+D0.nodess r<=4*BB->d<=o.depth->
   N5 e d o k=some (Jm o d (D0.nodess r) (D0.depths r) (D0.alls A3 r) (D0.alls C8 r) (D0.alls F4 r))
 |[],k,o,h,_,_,_,T=>by
  rw[N5,(I1 h).1];simp only[Jm,D0.nodess,D0.depths,D0.alls,zqf,Bool.or_false];rw[zn (by simp),show o.nodes+((0:Nat):Int)=o.nodes by omega,show max o.depth (d+((0:Nat):Int))=o.depth by omega]
 |x::r,k,o,h,y,O,v,T=>by
  obtain⟨J,D,U,X,B⟩:=R1 h;simp only[D0.nodess]at y v;have z:1<=x.depth:=by rw[D0.depth_eq];omega
  have b:=u.kids;unfold BB at y v b
  rw[N5,J,zp rfl,D,ob,wr (n:=d+1) (by omega) (by omega),c x B (d+1) o (by omega) (by unfold BB;omega) O (by unfold BB;omega),ob,w1 (by unfold BB;omega),
   W1x e d I u c r (k+1) _ U (by unfold BB;omega) (by simp only[Jm];omega) (by simp only[Jm];unfold BB;omega) (by simp only[Jm];omega)]
  simp only[Jm,D0.nodess,D0.depths,D0.alls,N12]
  rw[show o.nodes+(x.nodes:Int)+(D0.nodess r:Nat)=o.nodes+((x.nodes+D0.nodess r:Nat):Int) by omega,
   show max (max o.depth (d+1+((x.depth-1:Nat):Int))) (d+(D0.depths r:Nat))=max o.depth (d+((max x.depth (D0.depths r):Nat):Int)) by omega]
def L27 (e:D0)(b:OkE e)(d:Int)(o:N0):S9 e d o=N5 e d ⟨o.nodes,o.depth,o.r,o.o || !C8 e,o.q || !F4 e⟩ 0:=by
 rw[S9,G1b _ b.name,ob];simp only[Sd,Td,Zq,U13,ob];unfold C8 F4;cases(bif e.Op==3 then true else e.Op==4)<;>cases e.Op==0<;>simp
def M27 (e:D0):OkE e->∀(d:Int) (o:N0),0<=d->d+e.nodes<=4*BB->0<=o.nodes->o.nodes+e.nodes<=4*BB->
  U4 e d o=some (Jm o d e.nodes (e.depth-1) (e.all A3) (e.all C8) (e.all F4)):=by
 induction e using D0.ind with
 |h e I=>
 intro y d o J b B u;have D:=λo B u v=>W1x e d J y (λx z=>I x z (y.kid z)) e.V 0 o rfl (by rw[D0.nodes_eq]at b;omega) B u v;rw[D0.nodes_eq]at b u;unfold BB at b u;rw[U4];simp only[T1i,U1i,K27,Z1p,ob,L27 e y];rw[wr (n:=o.nodes+1) (by omega) (by omega)];rw[show((0:Nat):Int)=0 from rfl]at D;have c:∀f:Bool,ef4 e=f->N5 e d ⟨o.nodes+1,max o.depth d,(((o.r || !ef1 e) || !ef2 e) || !ef3 e) || !f,o.o || !C8 e,o.q || !F4 e⟩ 0=some (Jm o d e.nodes (e.depth-1) (e.all A3) (e.all C8) (e.all F4)):=by
  rintro _ rfl;rw[D _ (by simp only;omega) (by simp only;unfold BB;omega) (by simp only;omega)];simp only[Jm,D0.all_eq,D0.nodes_eq,D0.depth_eq,A3,N12,Bool.or_assoc,<-Bool.not_and];simp only[N12,Bool.and_assoc];rw[show o.nodes+1+(D0.nodess e.V:Int)=o.nodes+((D0.nodess e.V+1:Nat):Int) by omega,show max (max o.depth d) (d+(D0.depths e.V:Int))=max o.depth (d+((D0.depths e.V+1-1:Nat):Int)) by omega]
 cases b:(bif e.Op==4 then true else e.Op==5)with
 |true=>
  rw[zp rfl];exact c e.place (by unfold ef4;rw[b];rfl)
 |false=>
  rw[zn (by simp)];have:=c true (by unfold ef4;rw[b];rfl);rw[zqf,Bool.or_false]at this;exact this
def B1q (t:D0)(u:OkE t)(d:∀x∈t.V,Yf x=some (x.nodes:Int)) :
  ∀(r:List D0) (k:Nat) (n:Nat),t.V.drop k=r->n+D0.nodess r<=BB->Ee t (n:Int) k=some ((n+D0.nodess r:Nat):Int)
 |[],k,n,h,c=>by rw[Ee,(I1 h).1,zn (by simp)];simp[D0.nodess]
 |x::r,k,n,h,c=>by
  obtain⟨y,z,B,D,v⟩:=R1 h;have:=u.kids;simp only[D0.nodess]at c;have b:=c;unfold BB at b;rw[Ee,y,zp rfl,z,ob,d x v,ob,wr (n:=(n:Int)+_) (by omega) (by omega),w1 (by omega),show(n:Int)+(x.nodes:Int)=((n+x.nodes:Nat):Int) by omega,B1q t u d r (k+1) _ B (by omega)];simp only[D0.nodess,Nat.add_assoc]
def V20 (t:D0):OkE t->Yf t=some (t.nodes:Int):=by
 induction t using D0.ind with
 |h t d=>
 intro b;have r:=b.nodes;rw[D0.nodes_eq]at r;rw[Yf];have:=B1q t b (λx c=>d x c (b.kid c)) t.V 0 1 rfl (by omega);rw[D0.nodes_eq,Nat.add_comm];exact this
def E1f (t:D0)(c:OkE t)(b:∀x∈t.V,Zf x=some (x.depth:Int))(B:Nat)(d:B<=BB) :
  ∀(r:List D0) (k:Nat) (n:Nat),t.V.drop k=r->n<=B->D0.depths r<=B->Ra t (n:Int) k=some ((max n (D0.depths r)+1:Nat):Int)
 |[],k,n,h,I,_=>by
  rw[Ra,(I1 h).1,zn (by simp),w1 (by omega)];simp[D0.depths]
 |x::r,k,n,h,I,z=>by
  obtain⟨D,y,u,J,v⟩:=R1 h;have:=c.kids;simp only[D0.depths]at z;rw[Ra,D,zp rfl,y,ob,b x v,ob,w1 (by omega),E1f t c b B d r (k+1) _ u (by omega) (by omega),E1f t c b B d r (k+1) _ u (by omega) (by omega)];simp only[D0.depths];by_cases hx:(x.depth:Int)>(n:Int)
  ·rw[zp (zqj hx),show max n (max x.depth (D0.depths r))=max x.depth (D0.depths r) by omega]
  ·rw[zn (by simpa using hx),show max n (max x.depth (D0.depths r))=max n (D0.depths r) by omega]
def W20 (t:D0):OkE t->Zf t=some (t.depth:Int):=by
 induction t using D0.ind with
 |h t d=>
 intro b;have u:=b.nodes;have r:=D0.depth_nodes t;rw[Zf];rw[D0.depth_eq]at r;have:=E1f t b (λx c=>d x c (b.kid c)) BB (zqr _) t.V 0 0 rfl (by omega) (by omega);rw[D0.depth_eq];rw[show max 0 (D0.depths t.V)=D0.depths t.V by omega]at this;exact this
def O12 (n d m:Int):E9 ⟨n,d⟩ m=some ⟨n,max d m⟩:=by
 unfold E9;by_cases h:m>d
 ·rw[zp (zqj h),show max d m=m by omega]
 ·rw[zn (by simpa using h),show max d m=d by omega]
def G1u (e:D0)(c:OkE e)(b:∀x∈e.V,X7 x=some (x.all A3)):∀(r:List D0) (k:Nat),e.V.drop k=r->Wg e k=some (D0.alls A3 r)
 |[],k,h=>by rw[Wg,(I1 h).1,zn (by simp)];rfl
 |x::r,k,h=>by
  obtain⟨u,v,y,z,d⟩:=R1 h;have:=c.kids;rw[Wg,u,zp rfl,v,ob,b x d,ob,w1 (by omega),G1u e c b r (k+1) y,D0.alls];cases x.all A3<;>simp
def T16 (e:D0):OkE e->X7 e=some (e.all A3):=by
 induction e using D0.ind with
 |h e r=>
 intro c;have d:=G1u e c (λx b=>r x b (c.kid b)) e.V 0 rfl;rw[show((0:Nat):Int)=0 from rfl]at d;rw[X7,d,D0.all_eq,A1q,D2a,ob];generalize D0.alls A3 e.V=A;have u:(bif (bif (ar e.Op !=(e.V.length:Int))then true else(bif (e.Op !=0)then(e.NV !=0)else false))then true else(bif (bif (e.Op !=3)then(e.Op !=4)else false)then(!(e.Name==[]))else false)) = !(ef1 e&&ef2 e&&ef3 e):=by
  unfold ef1 ef2 ef3;simp only[bne];cases ar e.Op==(e.V.length:Int)<;>cases e.NV==0<;>cases e.Op==0<;>cases e.Name==[]<;>cases e.Op==3<;>cases e.Op==4<;>rfl
 rw[u];unfold A3 ef4;cases(ef1 e&&ef2 e&&ef3 e)<;>cases(bif e.Op==4 then true else e.Op==5)<;>cases e.place<;>simp[ob]
def C1q (e:D0)(c:OkE e)(b:∀x∈e.V,L7 x=some (x.all C8)):∀(r:List D0) (k:Nat),e.V.drop k=r->Le e k=some (D0.alls C8 r)
 |[],k,h=>by rw[Le,(I1 h).1,zn (by simp)];rfl
 |x::r,k,h=>by
  obtain⟨u,v,y,z,d⟩:=R1 h;have:=c.kids;rw[Le,u,zp rfl,v,ob,b x d,ob,w1 (by omega),C1q e c b r (k+1) y,D0.alls];cases x.all C8<;>simp
def V13 (e:D0):OkE e->L7 e=some (e.all C8):=by
 induction e using D0.ind with
 |h e r=>
 intro b;have d:=C1q e b (λx c=>r x c (b.kid c)) e.V 0 rfl;rw[show((0:Nat):Int)=0 from rfl]at d;rw[L7,d,D0.all_eq,Aq e.Name b.name];generalize D0.alls C8 e.V=A;unfold C8;cases(bif e.Op==3 then true else e.Op==4)<;>cases N7 e.Name<;>simp[ob]
def H1h (e:D0)(c:OkE e)(b:∀x∈e.V,Z5 x=some (x.all F4)):∀(r:List D0) (k:Nat),e.V.drop k=r->Nb e k=some (D0.alls F4 r)
 |[],k,h=>by rw[Nb,(I1 h).1,zn (by simp)];rfl
 |x::r,k,h=>by
  obtain⟨u,v,y,z,d⟩:=R1 h;have:=c.kids;rw[Nb,u,zp rfl,v,ob,b x d,ob,w1 (by omega),H1h e c b r (k+1) y,D0.alls];cases x.all F4<;>simp
def Nz (e:D0):OkE e->Z5 e=some (e.all F4):=by
 induction e using D0.ind with
 |h e r=>
 intro c;have d:=H1h e c (λx b=>r x b (c.kid b)) e.V 0 rfl;rw[show((0:Nat):Int)=0 from rfl]at d;rw[Z5,d,D0.all_eq];have:F4 e = !(bif (e.Op==0)then(bif (decide (e.NV<0))then true else(decide (e.NV>1048576)))else false):=by
  unfold F4 G3;rw[D1b,E1b];cases e.Op==0<;>cases decide (e.NV>=0)<;>cases decide (e.NV<=1048576)<;>rfl
 rw[this];cases(bif (e.Op==0)then(bif (decide (e.NV<0))then true else(decide (e.NV>1048576)))else false)<;>simp
set_option maxHeartbeats 800000
def D1g (h:k<l.length):∃y,idx l (k:Int)=some y/\l.drop k=y::l.drop (k+1)/\y∈l:=by
 refine⟨l[k],?_,List.drop_eq_getElem_cons h,List.getElem_mem h⟩;unfold idx;rw[zp (by omega)];simp[h]
def z0:(0:Int)=((0:Nat):Int):=rfl
def D1q (t u:A0)(c:Ok t)(D:t.Of.length=u.Of.length)(b:∀x∈t.Of,∀y,Ec x y=some (x.same y)) :
  ∀(r:List A0) (k:Nat),t.Of.drop k=r->Pa t u k=some (eqL A0.same r (u.Of.drop k))
 |[],k,h=>by
  rw[Pa,(I1 h).1,zn (by simp),List.drop_eq_nil_of_le (by have:=(I1 h).2;omega)];rfl
 |x::r,k,h=>by
  obtain⟨z,v,J,T,d⟩:=R1 h;obtain⟨y,I,B,O⟩:=D1g (l:=u.Of) (k:=k) (by omega);have:=c.ofs;rw[Pa,z,zp rfl,v,ob,I,ob,b x d y,ob,w1 (by omega),D1q t u c D b r (k+1) J,B,eqL];cases x.same y<;>simp
def E1q (t u:A0)(c:Ok t)(D:t.O.length=u.O.length)(b:Bool)(d:Pa t u 0=some b) :
  ∀(r:List Str) (k:Nat),t.O.drop k=r->Ae t u k=some (eqL (λx y=>x==y) r (u.O.drop k)&&b)
 |[],k,h=>by
  rw[Ae,(I1 h).1,zn (by simp),List.drop_eq_nil_of_le (by have:=(I1 h).2;omega),d];rfl
 |x::r,k,h=>by
  obtain⟨z,v,I,V,T⟩:=R1 h;obtain⟨y,J,B,U⟩:=D1g (l:=u.O) (k:=k) (by omega);have:=c.names;rw[Ae,z,zp rfl,v,ob,J,ob,w1 (by omega),E1q t u c D b d r (k+1) I,B,eqL];cases x==y<;>simp
def F1q (t:A0):Ok t->∀u,Ec t u=some (t.same u):=by
 induction t using A0.ind with
 |h t r=>
 intro b u;have c:=λx d=>r x d (b.kid d);rw[Ec];show(if H1o t u=true then _ else _)=_;cases hd:H1o t u with
 |true=>rw[zp rfl,B24 hd]
 |false=>
  obtain⟨B,y,v⟩:=J27 hd;have z:=D1q t u b v c t.Of 0 rfl;have D:=E1q t u b y _ z t.O 0 rfl;rw[zn (by simp),z0,D,B];rfl
def H1u (s u:List Str)(c:s.length<=BB)(z:s.length=u.length):∀(r:List Str) (k:Nat),s.drop k=r->E3 s u k=some (eqL (λx y=>x==y) r (u.drop k))
 |[],k,h=>by
  rw[E3,(I1 h).1,zn (by simp),List.drop_eq_nil_of_le (by have:=(I1 h).2;omega)];rfl
 |x::r,k,h=>by
  obtain⟨d,b,D,O,I⟩:=R1 h;obtain⟨y,B,v,J⟩:=D1g (l:=u) (k:=k) (by omega);rw[E3,d,zp rfl,b,ob,B,ob,w1 (by omega),H1u s u c z r (k+1) D,v,eqL];cases x==y<;>simp
def F24 (s u:List Str)(b:s.length<=BB):S5 s u=some (eqL (λx y=>x==y) s u):=by
 unfold S5;by_cases hl:s.length=u.length
 ·rw[zn (by simp;omega),z0,H1u s u b hl s 0 rfl];rfl
 ·rw[zp (by simp;omega),Hv _ hl]
def I1u (s u:List A0)(v:s.length<=BB)(D:s.length=u.length)(b:∀x∈s,∀y,Id x y=some (x.same y)) :
  ∀(r:List A0) (k:Nat),s.drop k=r->N2 s u k=some (eqL A0.same r (u.drop k))
 |[],k,h=>by
  rw[N2,(I1 h).1,zn (by simp),List.drop_eq_nil_of_le (by have:=(I1 h).2;omega)];rfl
 |x::r,k,h=>by
  obtain⟨z,d,J,T,c⟩:=R1 h;obtain⟨y,I,B,O⟩:=D1g (l:=u) (k:=k) (by omega);rw[N2,z,zp rfl,d,ob,I,ob,b x c y,ob,w1 (by omega),I1u s u v D b r (k+1) J,B,eqL];cases x.same y<;>simp
def X20 (t:A0):Ok t->∀u,Id t u=some (t.same u):=by
 induction t using A0.ind with
 |h t v=>
 intro c u;have d:=λx r=>v x r (c.kid r);have z:C4 t.Of u.Of=some (eqL A0.same t.Of u.Of):=by
  rw[C4];by_cases hl:t.Of.length=u.Of.length
  ·rw[zn (by simp;omega),z0,I1u t.Of u.Of c.ofs hl d t.Of 0 rfl];rfl
  ·rw[zp (by simp;omega),Hv _ hl]
 rw[Id,z,F24 _ _ c.names,A0.same_eq];generalize eqL A0.same t.Of u.Of=a;generalize eqL (λx y=>x==y) t.O u.O=b;cases t.K==u.K<;>cases t.Low==u.Low<;>cases t.H==u.H<;>cases t.E==u.E<;>cases t.Name==u.Name<;>cases b<;>cases a<;>rfl
mutual
def D0.same:D0->D0->Bool
 |.mk o n nm ks,t=>o==t.Op&&n==t.NV&&nm==t.Name&&D0.sames ks t.V
def D0.sames:List D0->List D0->Bool
 |[],[]=>true
 |x::r,y::s=>D0.same x y&&D0.sames r s
 |[],_::_=>false
 |_::_,[]=>false
end
def D0.sames_eq:∀l m:List D0,D0.sames l m=eqL D0.same l m
 |[],[]=>rfl
 |x::r,y::s=>by simp only[D0.sames,eqL,D0.sames_eq r s]
 |[],_::_=>rfl
 |_::_,[]=>rfl
def D0.same_eq (t u:D0):t.same u=(t.Op==u.Op&&t.NV==u.NV&&t.Name==u.Name&&eqL D0.same t.V u.V):=by
 rw[<-D0.sames_eq];cases t;rfl
def G24 (s u:List D0)(v:s.length<=BB)(D:s.length=u.length)(b:∀x∈s,∀y,Fa x y=some (x.same y)) :
  ∀(r:List D0) (k:Nat),s.drop k=r->O2 s u k=some (eqL D0.same r (u.drop k))
 |[],k,h=>by
  rw[O2,(I1 h).1,zn (by simp),List.drop_eq_nil_of_le (by have:=(I1 h).2;omega)];rfl
 |x::r,k,h=>by
  obtain⟨z,d,J,T,c⟩:=R1 h;obtain⟨y,I,B,O⟩:=D1g (l:=u) (k:=k) (by omega);rw[O2,z,zp rfl,d,ob,I,ob,b x c y,ob,w1 (by omega),G24 s u v D b r (k+1) J,B,eqL];cases x.same y<;>simp
def N27 (s u:List D0)(c:s.length<=BB)(b:∀x∈s,∀y,Fa x y=some (x.same y)):D4 s u=some (eqL D0.same s u):=by
 rw[D4];by_cases hl:s.length=u.length
 ·rw[zn (by simp;omega),z0,G24 s u c hl b s 0 rfl];rfl
 ·rw[zp (by simp;omega),Hv _ hl]
def Y20 (t:D0):OkE t->∀u,Fa t u=some (t.same u):=by
 induction t using D0.ind with
 |h t d=>
 intro c u;rw[Fa,N27 t.V u.V c.kids (λx b=>d x b (c.kid b)),D0.same_eq];generalize eqL D0.same t.V u.V=a;cases t.Op==u.Op<;>cases t.NV==u.NV<;>cases t.Name==u.Name<;>cases a<;>rfl
def H24 (t u:D0)(c:OkE t)(D:t.V.length=u.V.length)(b:∀x∈t.V,∀y,Xf x y=some (x.same y)) :
  ∀(r:List D0) (k:Nat),t.V.drop k=r->De t u k=some (eqL D0.same r (u.V.drop k))
 |[],k,h=>by
  rw[De,(I1 h).1,zn (by simp),List.drop_eq_nil_of_le (by have:=(I1 h).2;omega)];rfl
 |x::r,k,h=>by
  obtain⟨z,v,J,T,d⟩:=R1 h;obtain⟨y,I,B,O⟩:=D1g (l:=u.V) (k:=k) (by omega);have:=c.kids;rw[De,z,zp rfl,v,ob,I,ob,b x d y,ob,w1 (by omega),H24 t u c D b r (k+1) J,B,eqL];cases x.same y<;>simp
def Z20 (t:D0):OkE t->∀u,Xf t u=some (t.same u):=by
 induction t using D0.ind with
 |h t v=>
 intro r u;have c:=λx d=>v x d (r.kid d);rw[Xf,D0.same_eq];by_cases hl:t.V.length=u.V.length
 ·have y:=H24 t u r hl c t.V 0 rfl;have z:(bif (bif (bif (t.Op !=u.Op)then true else(t.NV !=u.NV))then true else(!(t.Name==u.Name)))then true else((t.V.length:Int)!=(u.V.length:Int))) = !(t.Op==u.Op&&t.NV==u.NV&&t.Name==u.Name):=by
   have:((t.V.length:Int)!=(u.V.length:Int))=false:=by simp;omega
   rw[this];unfold bne;cases t.Op==u.Op<;>cases t.NV==u.NV<;>cases t.Name==u.Name<;>rfl
  rw[z,z0,y];cases(t.Op==u.Op&&t.NV==u.NV&&t.Name==u.Name)<;>simp
 ·have:((t.V.length:Int)!=(u.V.length:Int))=true:=by simp;omega
  rw[this,Hv _ hl,Bool.and_false];generalize(bif (bif (t.Op !=u.Op)then true else(t.NV !=u.NV))then true else(!(t.Name==u.Name)))=b;cases b<;>rfl
def Jp (e:D0):Bool:=e.same ⟨0,0,[],[]⟩
def S11 (t:A0):Bool:=t.same ⟨0,0,0,0,[],[],[]⟩
def U16 (e:D0)(h:OkE e):Wh e=some (Jp e):=by unfold Wh;rw[Z20 e h];rfl
def I24 (t:A0)(h:Ok t):Xu t=some (S11 t):=by unfold Xu;rw[F1q t h];rfl
def O27 (h:Jp e=true):e=⟨0,0,[],[]⟩:=by
 unfold Jp at h;rw[D0.same_eq]at h;obtain⟨o,n,d,b⟩:=e;simp only[zqi,beq_iff_eq]at h;obtain⟨⟨⟨rfl,rfl⟩,rfl⟩,c⟩:=h;cases b with
 |nil=>rfl
 |cons x r=>cases c
def P27 (h:S11 t=true):t=⟨0,0,0,0,[],[],[]⟩:=by
 unfold S11 at h;rw[A0.same_eq]at h;obtain⟨a,b,c,d,B,u,v⟩:=t;simp only[zqi,beq_iff_eq]at h;obtain⟨⟨⟨⟨⟨⟨rfl,rfl⟩,rfl⟩,rfl⟩,rfl⟩,z⟩,y⟩:=h;cases v with
 |nil=>
  cases u with
  |nil=>rfl
  |cons x r=>cases z
 |cons x r=>cases y
mutual
def E0.bulk:E0->Nat
 |.mk y0 y1 y2 y3 y4 y5 y6 y7 y8 y9 y10=>1+(D0.bulk y1+(D0.bulk y2+((y3.length+1)+((D0.bulks y4+1)+(1+(1+(1+(((y8.map λ_=>1).sum+1)+((E0.bulks y9+1)+((E0.bulks y10+1)+(0)))))))))))+1
def E0.bulks:List E0->Nat
 |[]=>0
 |x::r=>E0.bulk x+E0.bulks r
end
mutual
def C0.bulk:C0->Nat
 |.mk y0 y1 y2 y3 y4 y5 y6 y7=>1+((y1.length+1)+(A0.bulk y2+(1+(D0.bulk y4+((C0.bulks y5+1)+((C0.bulks y6+1)+((E0.bulks y7+1)+(0))))))))+1
def C0.bulks:List C0->Nat
 |[]=>0
 |x::r=>C0.bulk x+C0.bulks r
end
mutual
def I0.bulk:I0->Nat
 |.mk y0 y1=>(C0.bulks y0+1)+((E0.bulks y1+1)+(0))+1
def I0.bulks:List I0->Nat
 |[]=>0
 |x::r=>I0.bulk x+I0.bulks r
end
set_option maxHeartbeats 1000000
def uPl (v:Int):Bool:=bif (bif (v==0)then true else(v==1))then true else(v==2)
def uVa (v:Int):Bool:=bif (bif (bif (v==0)then true else(v==3))then true else(v==5))then true else(v==6)
def uNm (v:Int):Bool:=bif (bif (v==1)then true else(v==2))then true else(v==7)
def uNn (v:Int):Bool:=bif (v==4)then true else(v==6)
def uTh (v:Int):Bool:=bif (bif (v==5)then true else(v==6))then true else(v==7)
def okV (v:Int):Bool:=!(bif decide (v<0)then true else decide (v>8))
def stU (v:Int):L2×Bool:=(⟨uPl v,uVa v,uNm v,v==1,uNn v,v==7,v==8,uTh v,v==5⟩,okV v)
def J1u (v:Int):Uq v=some (stU v):=by
 have h:(v<0\/8<v)\/v=0\/v=1\/v=2\/v=3\/v=4\/v=5\/v=6\/v=7\/v=8:=by omega
 rcases h with h|rfl|rfl|rfl|rfl|rfl|rfl|rfl|rfl|rfl
 ·have f:∀k:Int,0<=k/\k<=8->(v==k)=false:=λk c=>zqn.2 (by omega);have b:okV v=false:=by
   unfold okV;rcases h with h|h
   ·rw[zqj h];rfl
   ·rw[zqj (show v>8 from h)];cases decide (v<0)<;>rfl
  unfold Uq stU uPl uVa uNm uNn uTh;rw[b];simp only[f 0 (by decide),f 1 (by decide),f 2 (by decide),f 3 (by decide),f 4 (by decide),f 5 (by decide),f 6 (by decide),f 7 (by decide),f 8 (by decide)];rfl
 all_goals rfl
def oN (e:D0)(u:Bool):Nat:=bif (bif !u then Jp e else false)then 0 else e.nodes
def oD (e:D0)(u:Bool):Nat:=bif (bif !u then Jp e else false)then 0 else e.depth
def oF (e:D0)(u:Bool):Bool:=bif u then e.all A3 else Jp e
def A21 (e:D0)(u:Bool):oN e u<=e.bulk:=by
 unfold oN;have:=D0.nodes_bulk e;cases(bif !u then Jp e else false)<;>simp<;>omega
def Oz:Int->List Int->Bool
 |_,[]=>true
 |l,n::r=>(bif G3 n 0 1048576 then decide (n>l)else false)&&Oz n r
def Eu (s:E0):Bool:=bif s.S==4 then G3 s.NV 0 1048576 else bif s.S==6 then G3 s.NV 0 4096 else bif s.S==7 then(bif (bif G3 s.Low (-1048576) 1048576 then G3 s.H s.Low 1048576 else false)then decide (s.H-s.Low<4096)else false)else bif s.S==8 then G3 (s.j.length:Int) 1 32&&Oz (-1) s.j else true
def sform (s:E0):Bool:=okV s.S&&oF s.I (uPl s.S)&&(bif uPl s.S then s.I.place else true)&&oF s.Value (uVa s.S)&&(bif uNm s.S then true else s.Name==[])&&(bif s.S==1 then true else((s.B.length:Int)==0))&&D0.alls A3 s.B && (bif uNn s.S then true else s.NV==0)&&(bif s.S==7 then true else(bif s.Low==0 then s.H==0 else false))&&(bif s.S==8 then true else((s.j.length:Int)==0)) && (bif uTh s.S then true else((s.Then.length:Int)==0))&&(bif s.S==5 then true else((s.Else.length:Int)==0))
def Ih (s:E0):Bool:=s.I.all C8&&s.Value.all C8&&(bif uNm s.S then N7 s.Name else true)&&D0.alls C8 s.B
def snumb (s:E0):Bool:=s.I.all F4&&s.Value.all F4&&D0.alls F4 s.B&&Eu s
mutual
def E0.nds:E0->Nat
 |.mk v pl va nm ar n lo hi ns th el=>1+(oN pl (uPl v)+(oN va (uVa v)+(D0.nodess ar+(E0.ndss th+E0.ndss el))))
def E0.ndss:List E0->Nat
 |[]=>0
 |x::r=>E0.nds x+E0.ndss r
end
mutual
def E0.dps:E0->Nat->Nat
 |.mk v pl va nm ar n lo hi ns th el,d=>max d (max (oD pl (uPl v)) (max (oD va (uVa v)) (max (D0.depths ar) (max (E0.dpss th (d+1)) (E0.dpss el (d+1))))))
def E0.dpss:List E0->Nat->Nat
 |[],_=>0
 |x::r,d=>max (E0.dps x d) (E0.dpss r d)
end
mutual
def E0.all (p:E0->Bool):E0->Bool
 |.mk v pl va nm ar n lo hi ns th el=>p (.mk v pl va nm ar n lo hi ns th el)&&(E0.alls p th&&E0.alls p el)
def E0.alls (p:E0->Bool):List E0->Bool
 |[]=>true
 |x::r=>E0.all p x&&E0.alls p r
end
def E0.nds_eq (s:E0):s.nds=1+(oN s.I (uPl s.S)+(oN s.Value (uVa s.S)+(D0.nodess s.B+(E0.ndss s.Then+E0.ndss s.Else)))):=by cases s;simp only[E0.nds]
def E0.dps_eq (s:E0)(d:Nat):s.dps d=max d (max (oD s.I (uPl s.S)) (max (oD s.Value (uVa s.S)) (max (D0.depths s.B) (max (E0.dpss s.Then (d+1)) (E0.dpss s.Else (d+1)))))):=by cases s;simp only[E0.dps]
def E0.all_eq (p:E0->Bool)(s:E0):s.all p=(p s&&(E0.alls p s.Then&&E0.alls p s.Else)):=by cases s;simp only[E0.all]
def E0.ind {P:E0->Prop}(h:∀s:E0,(∀x∈s.Then,P x)->(∀x∈s.Else,P x)->P s):∀s,P s:=by
 intro s;refine E0.rec (motive_1:=P) (motive_2:=λl=>∀x∈l,P x) ?_ ?_ ?_ s
 ·intro v B I O ar n lo T J U D u d;exact h _ u d
 ·intro x c;cases c
 ·intro x r c z y b;cases b with
  |head=>exact c
  |tail _ b=>exact z y b
def E0.inds {Q:List E0->Prop}(h:∀l:List E0,(∀x∈l,Q x.Then/\Q x.Else)->Q l):∀l,Q l:=by
 have b:∀s:E0,Q s.Then/\Q s.Else:=λs=>by
  induction s using E0.ind with
  |h s c d=>exact⟨h _ c,h _ d⟩
 exact λl=>h l λx _=>b x
def E0.bulk_eq (s:E0):s.bulk=s.I.bulk+s.Value.bulk+s.Name.length+D0.bulks s.B+(s.j.map λ_=>1).sum+E0.bulks s.Then+E0.bulks s.Else+10:=by
 cases s;simp only[E0.bulk];omega
def K1u:∀l:List Int,(l.map λ_=>1).sum=l.length
 |[]=>rfl
 |x::r=>by simp only[List.map_cons,List.sum_cons,zqd,K1u r];omega
def E0.bulk_mem {s:E0}:∀{l:List E0},s∈l->s.bulk<=E0.bulks l
 |x::r,h=>by
  simp only[E0.bulks];cases h with
  |head=>omega
  |tail _ h=>have:=E0.bulk_mem h;omega
def E0.bulk_len:∀l:List E0,l.length<=E0.bulks l
 |[]=>zqr _
 |x::r=>by
  simp only[E0.bulks,zqd];have:=E0.bulk_len r;have:=E0.bulk_eq x;omega
mutual
def E0.nds_bulk:∀s:E0,s.nds<=s.bulk
 |.mk v b d y ar n lo u x r c=>by
  have:=A21 b (uPl v);have:=A21 d (uVa v);have:=D0.nodess_bulk ar;have:=E0.ndss_bulk r;have:=E0.ndss_bulk c;simp only[E0.nds,E0.bulk];omega
def E0.ndss_bulk:∀l:List E0,E0.ndss l<=E0.bulks l
 |[]=>zqr _
 |x::r=>by
  have:=E0.nds_bulk x;have:=E0.ndss_bulk r;simp only[E0.ndss,E0.bulks];omega
end
def OkS (l:List E0):Prop:=E0.bulks l<=BB
structure Ox (s:E0):Prop where
 place:OkE s.I
 value:OkE s.Value
 name:s.Name.length<=BB
 args:s.B.length<=BB
 arg:∀a∈s.B,OkE a
 nums:s.j.length<=BB
 thens:OkS s.Then
 elses:OkS s.Else
def OkS.mem {l:List E0}(h:OkS l){s:E0}(b:s∈l):Ox s:=by
 unfold OkS at h;have v:=E0.bulk_mem b;have r:=E0.bulk_eq s;have d:=K1u s.j;have u:=D0.bulk_len s.B;refine⟨?_,?_,?_,?_,λa c=>?_,?_,?_,?_⟩<;>first|(unfold OkE;omega)|(unfold OkS;omega)|omega|skip
 have:=D0.bulk_kid c;unfold OkE;omega
def OkS.len {l:List E0}(h:OkS l):l.length<=BB:=Nat.le_trans (E0.bulk_len l) h
def U5 (o:N0)(n m:Nat)(f a u:Bool):N0:=⟨o.nodes+n,max o.depth m,o.r || !f,o.o || !a,o.q || !u⟩
def Q5 (o:N0)(n m n' m':Nat)(f a u c b d:Bool):U5 (U5 o n m f a u) n' m' c b d=U5 o (n+n') (max m m') (f&&c) (a&&b) (u&&d):=by
 simp only[U5,N12];rw[show o.nodes+(n:Int)+(n':Int)=o.nodes+((n+n':Nat):Int) by omega,show max (max o.depth (m:Int)) (m':Int)=max o.depth ((max m m':Nat):Int) by omega]
def Fu (o:N0)(h:0<=o.depth):U5 o 0 0 true true true=o:=by
 simp only[U5,zqf,Bool.or_false];rw[show o.nodes+((0:Nat):Int)=o.nodes by omega,show max o.depth ((0:Nat):Int)=o.depth by omega]
def Y1l (o:N0)(n m:Nat)(f a u:Bool):(U5 o n m f a u).nodes=o.nodes+n:=rfl
def Pz (o:N0)(n m:Nat)(f a u:Bool):(U5 o n m f a u).depth=max o.depth m:=rfl
def Cb (o:N0)(h:0<=o.depth)(b:Bool):F1 b o=some (U5 o 0 0 b true true):=by
 rw[U1i];simp only[U5,zqf,Bool.or_false];rw[show o.nodes+((0:Nat):Int)=o.nodes by omega,show max o.depth ((0:Nat):Int)=o.depth by omega]
def Fl (o:N0)(h:0<=o.depth)(b:Bool):C3 b o=some (U5 o 0 0 true true b):=by
 rw[U13];simp only[U5,zqf,Bool.or_false];rw[show o.nodes+((0:Nat):Int)=o.nodes by omega,show max o.depth ((0:Nat):Int)=o.depth by omega]
def G1q (o:N0)(h:0<=o.depth)(s:Str)(b:s.length<=BB):H6 s o=some (U5 o 0 0 true (N7 s) true):=by
 rw[G1b s b];simp only[U5,zqf,Bool.or_false];rw[show o.nodes+((0:Nat):Int)=o.nodes by omega,show max o.depth ((0:Nat):Int)=o.depth by omega]
structure R6 (o:N0)(n:Nat):Prop where
 dep:0<=o.depth
 low:0<=o.nodes
 high:o.nodes+n<=3*BB
def R6.x {o:N0}{m:Nat}{f a u:Bool}(h:R6 o (k+n)):R6 (U5 o k m f a u) n:=by
 obtain⟨b,d,c⟩:=h;refine⟨?_,?_,?_⟩
 ·rw[Pz];omega
 ·rw[Y1l];omega
 ·rw[Y1l];omega
def R6.less {o:N0}(h:R6 o n)(b:k<=n):R6 o k:=⟨h.dep,h.low,by have:=h.high;omega⟩
def R6.x0 {o:N0}{m:Nat}{f a u:Bool}(h:R6 o n):R6 (U5 o 0 m f a u) n:=R6.x (by rw[Nat.zero_add];exact h)
def F1f (e:D0)(h:OkE e)(o:N0)(b:R6 o e.nodes):U4 e 1 o=some (U5 o e.nodes e.depth (e.all A3) (e.all C8) (e.all F4)):=by
 have d:=h.nodes;have r:1<=e.depth:=by rw[D0.depth_eq];omega
 have c:=b.high;unfold BB at d c;rw[M27 e h 1 o (by omega) (by unfold BB;omega) b.low (by unfold BB;omega)];simp only[Jm,U5];rw[show(1:Int)+((e.depth-1:Nat):Int)=e.depth by omega]
def L1u (t:A0)(h:Ok t)(o:N0)(b:R6 o t.nodes):V6 t 1 o=some (U5 o t.nodes t.depth (t.all X4) (t.all P9) (t.all We)):=by
 have d:=h.nodes;have r:1<=t.depth:=by rw[A0.depth_eq];omega
 have c:=b.high;unfold BB at d c;rw[E24 t h 1 o (by omega) (by unfold BB;omega) b.low (by unfold BB;omega)];simp only[Jm,U5];rw[show(1:Int)+((t.depth-1:Nat):Int)=t.depth by omega]
def M1u:(D0.mk 0 0 [] []).all A3=true/\(D0.mk 0 0 [] []).all C8=true/\(D0.mk 0 0 [] []).all F4=true:=⟨rfl,rfl,rfl⟩
def W1i (e:D0)(u:Bool)(h:OkE e)(o:N0)(b:R6 o (oN e u)):I6 e u o=some (U5 o (oN e u) (oD e u) (oF e u) (e.all C8) (e.all F4)):=by
 unfold I6;rw[Y20 e h];show((if !u then some (Jp e)else some default)>>=_)=_;unfold oN oD oF at *;cases u with
 |true=>
  simp only[zqf,zql,zqk]at *;rw[zn (by simp),ob,zn (by simp),Cb o b.dep,ob,F1f e h _ b.x0,ob,Q5];simp
 |false=>
  simp only[zqg,zql,zqk]at *;rw[zp trivial,ob];cases hz:Jp e with
  |true=>
   rw[zp rfl,O27 hz,M1u.2.1,M1u.2.2];exact congrArg some (Fu o b.dep).symm
  |false=>
   rw[hz]at b;rw[zn (by simp),Cb o b.dep,ob,F1f e h _ b.x0,ob,Q5];simp
def J24 (o:N0)(h:0<=o.nodes)(h':o.nodes+1<=3*BB)(d:Nat):Ea (d:Int) ⟨i64.wrap (o.nodes+1),o.depth,o.r,o.o,o.q⟩=some (U5 o 1 d true true true):=by
 unfold BB at h';rw[T1i,wr (by omega) (by omega)];simp only[U5,zqf,Bool.or_false];rfl
def H1q (s:E0)(d:Ox s)(K:N0->Option N0)(F:N0->Int->Option N0)
  (c:∀(o:N0) (k:Int),F o k=if decide (k<(s.B.length:Int))=true then idx s.B k>>=λx=>U4 x 1 o>>=λy=>F y (i64.wrap (k+1))else K o) :
  ∀(r:List D0) (k:Nat) (o:N0),s.B.drop k=r->R6 o (D0.nodess r)->F o (k:Int)=K (U5 o (D0.nodess r) (D0.depths r) (D0.alls A3 r) (D0.alls C8 r) (D0.alls F4 r))
 |[],k,o,h,b=>by
  rw[c,(I1 h).1,zn (by simp)];simp only[D0.nodess,D0.depths,D0.alls];rw[Fu o b.dep]
 |x::r,k,o,h,b=>by
  obtain⟨z,v,D,I,u⟩:=R1 h;have:=d.args;simp only[D0.nodess]at b;rw[c,z,zp rfl,v,ob,F1f x (d.arg x u) o (b.less (by omega)),ob,w1 (by omega),H1q s d K F c r (k+1) _ D b.x,Q5];rfl
def X1x (s:E0)(d:Ox s):∀(r:List Int) (k:Nat) (b:Int) (o:N0),s.j.drop k=r->0<=o.depth->O6 s o b k=some (U5 o 0 0 true true (Oz b r))
 |[],k,b,o,h,c=>by rw[O6,(I1 h).1,zn (by simp)];exact congrArg some (Fu o c).symm
 |x::r,k,b,o,h,c=>by
  obtain⟨u,v,y,B,z⟩:=R1 h;have:=d.nums;rw[O6,u,zp rfl,v,ob,Zq,ob,Fl _ c,ob,w1 (by omega),X1x s d r (k+1) x _ y (by rw[Pz];omega),Q5];rfl
def K24 (s:E0)(c:Ox s)(o:N0)(b:0<=o.depth):Ud s o=some (U5 o 0 0 true true (Eu s)):=by
 unfold Ud Eu;simp only[Zq];cases s.S==4 with
 |true=>rw[zp rfl,ob,Fl _ b,ob];rfl
 |false=>
  rw[zn (by simp)];cases s.S==6 with
  |true=>rw[zp rfl,ob,Fl _ b,ob];rfl
  |false=>
   rw[zn (by simp)];cases s.S==7 with
   |true=>
    rw[zp rfl,ob];cases hl:G3 s.Low (-1048576) 1048576 with
    |false=>rw[zn (by simp),ob,Fl _ b,ob];rfl
    |true=>
     rw[zp rfl,ob];cases hh:G3 s.H s.Low 1048576 with
     |false=>rw[Fl _ b,ob];rfl
     |true=>
      have:i64.wrap (s.H-s.Low)=s.H-s.Low:=by
       simp[G3]at hl hh;exact wr (by omega) (by omega)
      rw[this,Fl _ b,ob];rfl
   |false=>
    rw[zn (by simp)];cases s.S==8 with
    |true=>
     rw[zp rfl,ob,Fl _ b,ob,show(0:Int)=((0:Nat):Int)from rfl,X1x s c s.j 0 (-1) _ rfl (by rw[Pz];omega),Q5];simp
    |false=>exact congrArg some (Fu o b).symm
def I1q (l:List E0):OkS l->∀(d:Nat) (o:N0),d+E0.bulks l<=3*BB->R6 o (E0.ndss l)->
  R5 l d o=some (U5 o (E0.ndss l) (E0.dpss l d) (E0.alls sform l) (E0.alls Ih l) (E0.alls snumb l)):=by
 induction l using E0.inds with
 |h l ih=>
 intro hl d o hd c;have U:∀(r:List E0) (k:Nat) (o:N0),l.drop k=r->R6 o (E0.ndss r)->P7 l d o k=some (U5 o (E0.ndss r) (E0.dpss r d) (E0.alls sform r) (E0.alls Ih r) (E0.alls snumb r)):=by
  intro r
  induction r with
  |nil=>
   intro k o h c;rw[P7,(I1 h).1,zn (by simp)];exact congrArg some (Fu o c.dep).symm
  |cons s r a1=>
   intro k o h c;obtain⟨e1,e2,e3,e4,e5⟩:=R1 h;have D:=hl.mem e5;have a8:=hl.len;obtain⟨i1,i2⟩:=ih s e5;have a9:=E0.bulk_mem e5;have b0:=E0.bulk_eq s;simp only[E0.ndss,E0.nds_eq]at c;have a6:=c.high;unfold BB at a6 hd;have Y:i64.wrap ((d:Int)+1)=((d+1:Nat):Int):=by rw[wr (by omega) (by omega)];rfl
   have J:∀o:N0,R6 o (E0.ndss s.Then+E0.ndss s.Else+E0.ndss r)->
     (F1 (bif (stU s.S).1.n then true else(s.NV==0)) o>>=λV=>
      F1 (bif (stU s.S).1.Ke then true else(bif (s.Low==0)then(s.H==0)else false)) V>>=λa5=>
      F1 (bif (stU s.S).1.Kd then true else((s.j.length:Int)==0)) a5>>=λZ=>
      F1 (bif (stU s.S).1.Kb then true else((s.Then.length:Int)==0)) Z>>=λa4=>
      F1 (bif (stU s.S).1.Kc then true else((s.Else.length:Int)==0)) a4>>=λa2=>
      Ud s a2>>=λa7=>
      R5 s.Then (i64.wrap ((d:Int)+1)) a7>>=λX=>
      R5 s.Else (i64.wrap ((d:Int)+1)) X>>=λa3=>
      P7 l d a3 (i64.wrap ((k:Int)+1)))
     = some (U5 o (E0.ndss s.Then+E0.ndss s.Else+E0.ndss r) (max (E0.dpss s.Then (d+1)) (max (E0.dpss s.Else (d+1)) (E0.dpss r d)))
       ((bif uNn s.S then true else s.NV==0)&&(bif s.S==7 then true else(bif s.Low==0 then s.H==0 else false))&&(bif s.S==8 then true else((s.j.length:Int)==0))
         && (bif uTh s.S then true else((s.Then.length:Int)==0))&&(bif s.S==5 then true else((s.Else.length:Int)==0))&&E0.alls sform s.Then&&E0.alls sform s.Else&&E0.alls sform r)
       (E0.alls Ih s.Then&&E0.alls Ih s.Else&&E0.alls Ih r) (Eu s&&E0.alls snumb s.Then&&E0.alls snumb s.Else&&E0.alls snumb r)):=by
    intro o c;have T:=c.x0 (m:=0) (f:=bif (stU s.S).1.n then true else(s.NV==0)) (a:=true) (u:=true);have q2:=T.x0 (m:=0) (f:=bif (stU s.S).1.Ke then true else(bif (s.Low==0)then(s.H==0)else false)) (a:=true) (u:=true);have q3:=q2.x0 (m:=0) (f:=bif (stU s.S).1.Kd then true else((s.j.length:Int)==0)) (a:=true) (u:=true);have q4:=q3.x0 (m:=0) (f:=bif (stU s.S).1.Kb then true else((s.Then.length:Int)==0)) (a:=true) (u:=true);have q5:=q4.x0 (m:=0) (f:=bif (stU s.S).1.Kc then true else((s.Else.length:Int)==0)) (a:=true) (u:=true);have q6:=q5.x0 (m:=0) (f:=true) (a:=true) (u:=Eu s)
    rw[Cb o c.dep,ob,Cb _ T.dep,ob,Cb _ q2.dep,ob,Cb _ q3.dep,ob,Cb _ q4.dep,ob,K24 s D _ q5.dep,ob,Y,
     i1 D.thens (d+1) _ (by unfold BB;omega) (q6.less (by omega)),ob,i2 D.elses (d+1) _ (by unfold BB;omega) (R6.x (q6.less (by omega))),ob,w1 (by omega),a1 (k+1) _ e3 (R6.x (R6.x (q6.less (by omega))))]
    simp only[Q5,stU,Bool.true_and,Bool.and_true,Bool.and_assoc,Nat.zero_add,Nat.add_assoc,Nat.zero_max];simp only[<-Nat.max_assoc]
   have z:=H1q s D _ (λo k'=>Nc l d o s (stU s.S) k k') (λo k'=>Nc.eq_1 l d o s (stU s.S) k k') s.B 0;rw[show((0:Nat):Int)=0 from rfl]at z
   have j3:∀o:N0,R6 o (D0.nodess s.B+(E0.ndss s.Then+E0.ndss s.Else+E0.ndss r))->X8 l d o s (stU s.S) k
     = some (U5 o (D0.nodess s.B+(E0.ndss s.Then+E0.ndss s.Else+E0.ndss r)) (max (D0.depths s.B) (max (E0.dpss s.Then (d+1)) (max (E0.dpss s.Else (d+1)) (E0.dpss r d))))
       ((bif s.S==1 then true else((s.B.length:Int)==0))&&(D0.alls A3 s.B&&((bif uNn s.S then true else s.NV==0)&&(bif s.S==7 then true else(bif s.Low==0 then s.H==0 else false))&&(bif s.S==8 then true else((s.j.length:Int)==0))
         && (bif uTh s.S then true else((s.Then.length:Int)==0))&&(bif s.S==5 then true else((s.Else.length:Int)==0))&&E0.alls sform s.Then&&E0.alls sform s.Else&&E0.alls sform r)))
       (D0.alls C8 s.B&&(E0.alls Ih s.Then&&E0.alls Ih s.Else&&E0.alls Ih r)) (D0.alls F4 s.B&&(Eu s&&E0.alls snumb s.Then&&E0.alls snumb s.Else&&E0.alls snumb r))):=by
    intro o c;rw[X8,Cb o c.dep,ob,z _ rfl (c.x0.less (by omega)),J _ (R6.x c.x0)];simp only[Q5,stU,Bool.true_and,Bool.and_assoc,Nat.zero_add,Nat.zero_max]
   have j2:∀o:N0,R6 o (oN s.Value (uVa s.S)+(D0.nodess s.B+(E0.ndss s.Then+E0.ndss s.Else+E0.ndss r)))->W8 l d o s (stU s.S) k
     = (X8 l d (U5 o (oN s.Value (uVa s.S)) (oD s.Value (uVa s.S)) (oF s.Value (uVa s.S)&&(bif uNm s.S then true else s.Name==[])) (s.Value.all C8&&(bif uNm s.S then N7 s.Name else true)) (s.Value.all F4)) s (stU s.S) k):=by
    intro o c;have T:R6 (U5 o (oN s.Value (uVa s.S)) (oD s.Value (uVa s.S)) (oF s.Value (uVa s.S)) (s.Value.all C8) (s.Value.all F4)) 0:=R6.x (c.less (by omega));rw[W8];show(I6 s.Value (uVa s.S) o>>=_)=_;rw[W1i s.Value (uVa s.S) D.value o (c.less (by omega)),ob,Cb _ T.dep,ob,G1q _ (T.x0).dep s.Name D.name];simp only[Q5,stU];cases uNm s.S with
    |true=>rw[zp rfl,ob];simp
    |false=>rw[zn (by simp)];simp
   rw[P7,e1,zp rfl,e2,ob,J24 o c.low (by unfold BB;omega) d,ob,J1u,ob,Cb _ (show 0<=(U5 o 1 d true true true).depth by rw[Pz];have:=c.dep;omega),ob,Q5];have a0:R6 (U5 o (1+0) (max d 0) (true&&(stU s.S).2) (true&&true) (true&&true)) (oN s.I (uPl s.S)+(oN s.Value (uVa s.S)+(D0.nodess s.B+(E0.ndss s.Then+E0.ndss s.Else+E0.ndss r)))):=R6.x (c.less (by omega));have O:=W1i s.I (uPl s.S) D.place _ (a0.less (k:=oN s.I (uPl s.S)) (by omega));show(I6 s.I (uPl s.S) _>>=_)=_;rw[O,ob,Z1p,Q5];have v:∀f,R6 (U5 o (1+0+oN s.I (uPl s.S)) (max (max d 0) (oD s.I (uPl s.S))) f (true&&true&&s.I.all C8) (true&&true&&s.I.all F4)) (oN s.Value (uVa s.S)+(D0.nodess s.B+(E0.ndss s.Then+E0.ndss s.Else+E0.ndss r))):=λf=>R6.x (c.less (by omega))
   have y:∀b:Bool,(bif uPl s.S then s.I.place else true)=b->
     W8 l d (U5 o (1+0+oN s.I (uPl s.S)) (max (max d 0) (oD s.I (uPl s.S))) (true&&(stU s.S).2&&oF s.I (uPl s.S)&&b) (true&&true&&s.I.all C8) (true&&true&&s.I.all F4)) s (stU s.S) k
      = some (U5 o (E0.ndss (s::r)) (E0.dpss (s::r) d) (E0.alls sform (s::r)) (E0.alls Ih (s::r)) (E0.alls snumb (s::r))):=by
    rintro _ rfl;rw[j2 _ (v _),j3 _ (R6.x (v _)),Q5,Q5];simp only[E0.ndss,E0.dpss,E0.alls,E0.nds_eq,E0.dps_eq,E0.all_eq,sform,Ih,snumb,stU,Bool.true_and,Bool.and_assoc,Nat.add_assoc,Nat.max_assoc,Nat.zero_add];congr 1
   cases hu:uPl s.S with
   |true=>
    rw[hu]at y v;rw[zp (show(stU s.S).1.place=true from hu),ob,Cb _ (v _).dep,ob,Q5];have:=y s.I.place rfl;simpa using this
   |false=>
    rw[hu]at y;rw[zn (by rw[show(stU s.S).1.place=false from hu];simp)];have:=y true rfl;rw[Bool.and_true]at this;exact this
 rw[R5];exact U l 0 o rfl c
def isK (k:Int):Bool:=bif decide (k>=0)then decide (k<=6)else false
def uV2 (k:Int):Bool:=bif k==5 then true else k==6
def tN (t:A0)(u:Bool):Nat:=bif (bif !u then S11 t else false)then 0 else t.nodes
def tD (t:A0)(u:Bool):Nat:=bif (bif !u then S11 t else false)then 0 else t.depth
def U2c (t:A0)(u:Bool):tN t u<=t.bulk:=by
 unfold tN;have:=A0.nodes_bulk t;cases(bif !u then S11 t else false)<;>simp<;>omega
def pOk (x:C0):Bool:=bif x.K==4 then x.h==0 else false
def vOk (x:C0):Bool:=x.K==4
def P12 (d:C0):Bool:=bif G3 d.h (-1048576) 1048576 then(bif d.N.K !=0 then true else G3 d.h 0 1)else false
def P19 (d:C0):Bool:=bif (bif ((d.P.length:Int)==0)then((d.Vars.length:Int)==0)else false)then((d.Body.length:Int)==0)else false
def dform (d:C0):Bool:=isK d.K&&d.N.all X4&&oF d.Value (uV2 d.K)&&(bif d.K==4 then true else d.h==0)&&(bif d.K==6 then true else P19 d)&&d.P.all pOk&&d.Vars.all vOk&&E0.alls sform d.Body
def Sm (d:C0):Bool:=d.N.all P9&&N7 d.Name&&d.Value.all C8&&E0.alls Ih d.Body
def dnumb (d:C0):Bool:=d.N.all We&&d.Value.all F4&&P12 d&&E0.alls snumb d.Body
mutual
def C0.nds:C0->Nat
 |.mk k nm t i v ps vs bd=>1+(tN t (isK k)+(oN v (uV2 k)+(C0.ndss ps+(C0.ndss vs+E0.ndss bd))))
def C0.ndss:List C0->Nat
 |[]=>0
 |x::r=>C0.nds x+C0.ndss r
end
mutual
def C0.dps:C0->Nat
 |.mk k nm t i v ps vs bd=>max (tD t (isK k)) (max (oD v (uV2 k)) (max (C0.dpss ps) (max (C0.dpss vs) (E0.dpss bd 1))))
def C0.dpss:List C0->Nat
 |[]=>0
 |x::r=>max (C0.dps x) (C0.dpss r)
end
mutual
def C0.all (p:C0->Bool):C0->Bool
 |.mk k nm t i v ps vs bd=>p (.mk k nm t i v ps vs bd)&&(C0.alls p ps&&C0.alls p vs)
def C0.alls (p:C0->Bool):List C0->Bool
 |[]=>true
 |x::r=>C0.all p x&&C0.alls p r
end
def C0.nds_eq (d:C0):d.nds=1+(tN d.N (isK d.K)+(oN d.Value (uV2 d.K)+(C0.ndss d.P+(C0.ndss d.Vars+E0.ndss d.Body)))):=by cases d;simp only[C0.nds]
def C0.dps_eq (d:C0):d.dps=max (tD d.N (isK d.K)) (max (oD d.Value (uV2 d.K)) (max (C0.dpss d.P) (max (C0.dpss d.Vars) (E0.dpss d.Body 1)))):=by cases d;simp only[C0.dps]
def C0.all_eq (p:C0->Bool)(d:C0):d.all p=(p d&&(C0.alls p d.P&&C0.alls p d.Vars)):=by cases d;simp only[C0.all]
def C0.ind {P:C0->Prop}(h:∀d:C0,(∀x∈d.P,P x)->(∀x∈d.Vars,P x)->P d):∀d,P d:=by
 intro d;refine C0.rec (motive_1:=P) (motive_2:=λl=>∀x∈l,P x) ?_ ?_ ?_ d
 ·intro k J t i v I D O z u;exact h _ z u
 ·intro x c;cases c
 ·intro x r c B y b;cases b with
  |head=>exact c
  |tail _ b=>exact B y b
def C0.inds {Q:List C0->Prop}(h:∀l:List C0,(∀x∈l,Q x.P/\Q x.Vars)->Q l):∀l,Q l:=by
 have b:∀s:C0,Q s.P/\Q s.Vars:=λs=>by
  induction s using C0.ind with
  |h s c d=>exact⟨h _ c,h _ d⟩
 exact λl=>h l λx _=>b x
def C0.bulk_eq (d:C0):d.bulk=d.Name.length+d.N.bulk+d.Value.bulk+C0.bulks d.P+C0.bulks d.Vars+E0.bulks d.Body+7:=by cases d;simp only[C0.bulk];omega
def C0.bulk_mem {s:C0}:∀{l:List C0},s∈l->s.bulk<=C0.bulks l
 |x::r,h=>by
  simp only[C0.bulks];cases h with
  |head=>omega
  |tail _ h=>have:=C0.bulk_mem h;omega
def C0.bulk_len:∀l:List C0,l.length<=C0.bulks l
 |[]=>zqr _
 |x::r=>by
  simp only[C0.bulks,zqd];have:=C0.bulk_len r;have:=C0.bulk_eq x;omega
mutual
def C0.nds_bulk:∀d:C0,d.nds<=d.bulk
 |.mk k u t i v b c r=>by
  have:=U2c t (isK k);have:=A21 v (uV2 k);have:=C0.ndss_bulk b;have:=C0.ndss_bulk c;have:=E0.ndss_bulk r;simp only[C0.nds,C0.bulk];omega
def C0.ndss_bulk:∀l:List C0,C0.ndss l<=C0.bulks l
 |[]=>zqr _
 |x::r=>by
  have:=C0.nds_bulk x;have:=C0.ndss_bulk r;simp only[C0.ndss,C0.bulks];omega
end
def OkD (l:List C0):Prop:=C0.bulks l<=BB
structure D2d (d:C0):Prop where
 type:Ok d.N
 value:OkE d.Value
 name:d.Name.length<=BB
 params:OkD d.P
 vars:OkD d.Vars
 body:OkS d.Body
def OkD.mem {l:List C0}(h:OkD l)(b:d∈l):D2d d:=by
 unfold OkD at h;have r:=C0.bulk_mem b;have c:=C0.bulk_eq d;refine⟨?_,?_,?_,?_,?_,?_⟩<;>first|(unfold OkE;omega)|(unfold OkS;omega)|(unfold OkD;omega)|(unfold Ok;omega)|omega
def OkD.len {l:List C0}(h:OkD l):l.length<=BB:=Nat.le_trans (C0.bulk_len l) h
def J1q:(A0.mk 0 0 0 0 [] [] []).all P9=true/\(A0.mk 0 0 0 0 [] [] []).all We=true:=⟨rfl,rfl⟩
def I1o (c:List C0)(hc:c.length<=BB)(q:C0->Bool)(K:N0->Option N0)(F:N0->Int->Option N0)
  (b:∀(o:N0) (k:Int),F o k=if decide (k<(c.length:Int))=true then idx c k>>=λx=>F1 (q x) o>>=λy=>F y (i64.wrap (k+1))else K o) :
  ∀(r:List C0) (k:Nat) (o:N0),c.drop k=r->0<=o.depth->F o (k:Int)=K (U5 o 0 0 (r.all q) true true)
 |[],k,o,h,d=>by
  rw[b,(I1 h).1,zn (by simp),List.all_nil,Fu o d]
 |x::r,k,o,h,d=>by
  obtain⟨v,u,z,D,B⟩:=R1 h;rw[b,v,zp rfl,u,ob,Cb o d,ob,w1 (by omega),I1o c hc q K F b r (k+1) _ z (by rw[Pz];omega),Q5];rfl
def L24 (l:List C0):OkD l->∀(o:N0),R6 o (C0.ndss l)->
  J9 l o=some (U5 o (C0.ndss l) (C0.dpss l) (C0.alls dform l) (C0.alls Sm l) (C0.alls dnumb l)):=by
 induction l using C0.inds with
 |h l ih=>
 intro hl o c;have D:∀(r:List C0) (k:Nat) (o:N0),l.drop k=r->R6 o (C0.ndss r)->Y8 l o k=some (U5 o (C0.ndss r) (C0.dpss r) (C0.alls dform r) (C0.alls Sm r) (C0.alls dnumb r)):=by
  intro r
  induction r with
  |nil=>
   intro k o h c;rw[Y8,(I1 h).1,zn (by simp)];exact congrArg some (Fu o c.dep).symm
  |cons d r J=>
   intro k o h c;obtain⟨e1,e2,e3,e4,e5⟩:=R1 h;have v:=hl.mem e5;have a0:=hl.len;obtain⟨i1,i2⟩:=ih d e5;simp only[C0.ndss,C0.nds_eq]at c;have U:=c.high;have a1:E0.bulks d.Body<=BB:=v.body;have Z:=c.low;unfold BB at U;have Y:=I1o d.Vars v.vars.len vOk _ (λo k'=>Rc l o d k k') (λo k'=>Rc.eq_1 l o d k k') d.Vars 0;have l3:=I1o d.P v.params.len pOk _ (λo k'=>Z8 l o d k k') (λo k'=>Z8.eq_1 l o d k k') d.P 0;rw[show((0:Nat):Int)=0 from rfl]at Y l3
   have B:∀o:N0,R6 o (C0.ndss d.P+(C0.ndss d.Vars+(E0.ndss d.Body+C0.ndss r)))->
     Z8 l o d k 0=some (U5 o (C0.ndss d.P+(C0.ndss d.Vars+(E0.ndss d.Body+C0.ndss r))) (max (C0.dpss d.P) (max (C0.dpss d.Vars) (max (E0.dpss d.Body 1) (C0.dpss r))))
      (d.P.all pOk&&(d.Vars.all vOk&&(C0.alls dform d.P&&(C0.alls dform d.Vars&&(E0.alls sform d.Body&&C0.alls dform r)))))
      (C0.alls Sm d.P&&(C0.alls Sm d.Vars&&(E0.alls Ih d.Body&&C0.alls Sm r)))
      (C0.alls dnumb d.P&&(C0.alls dnumb d.Vars&&(E0.alls snumb d.Body&&C0.alls dnumb r)))):=by
    intro o c;have z:=c.x0 (m:=0) (f:=d.P.all pOk) (a:=true) (u:=true);have b:=z.x0 (m:=0) (f:=d.Vars.all vOk) (a:=true) (u:=true)
    rw[l3 o rfl c.dep,Y _ rfl z.dep,i1 v.params _ (b.less (by omega)),ob,i2 v.vars _ (R6.x (b.less (by omega))),ob,
     show(1:Int)=((1:Nat):Int)from rfl,I1q d.Body v.body 1 _ (by unfold BB at *;omega) (R6.x (R6.x (b.less (by omega)))),ob,show((k:Int)+((1:Nat):Int))=(k:Int)+1 from rfl,w1 (by omega),J (k+1) _ e3 (R6.x (R6.x (R6.x (b.less (by omega)))))]
    simp only[Q5,Bool.true_and,Bool.and_assoc,Nat.zero_add,Nat.zero_max,Nat.add_assoc,Nat.max_assoc]
   have O:(if (G3 d.h (-1048576) 1048576)&&(!(d.N.K !=0)) then Z4 d.h 0 1 else some default)=some (bif (G3 d.h (-1048576) 1048576)&&(!(d.N.K !=0))then G3 d.h 0 1 else default):=by
    rw[Zq];cases((G3 d.h (-1048576) 1048576)&&(!(d.N.K !=0)))<;>rfl
   have V:∀(x2:Bool×Bool) (o:N0),x2=(isK d.K,uV2 d.K)->R6 o (oN d.Value (uV2 d.K)+(C0.ndss d.P+(C0.ndss d.Vars+(E0.ndss d.Body+C0.ndss r))))->
     Oc l o d x2 k=some (U5 o (oN d.Value (uV2 d.K)+(C0.ndss d.P+(C0.ndss d.Vars+(E0.ndss d.Body+C0.ndss r)))) (max (oD d.Value (uV2 d.K)) (max (C0.dpss d.P) (max (C0.dpss d.Vars) (max (E0.dpss d.Body 1) (C0.dpss r)))))
      (oF d.Value (uV2 d.K)&&((bif d.K==4 then true else d.h==0)&&((bif d.K==6 then true else P19 d)&&(d.P.all pOk&&(d.Vars.all vOk&&(C0.alls dform d.P&&(C0.alls dform d.Vars&&(E0.alls sform d.Body&&C0.alls dform r))))))))
      (N7 d.Name&&(d.Value.all C8&&(C0.alls Sm d.P&&(C0.alls Sm d.Vars&&(E0.alls Ih d.Body&&C0.alls Sm r)))))
      (d.Value.all F4&&(P12 d&&(C0.alls dnumb d.P&&(C0.alls dnumb d.Vars&&(E0.alls snumb d.Body&&C0.alls dnumb r)))))):=by
    rintro _ o rfl c;have z:=c.x0 (m:=0) (f:=true) (a:=N7 d.Name) (u:=true);have b:=R6.x (m:=oD d.Value (uV2 d.K)) (f:=oF d.Value (uV2 d.K)) (a:=d.Value.all C8) (u:=d.Value.all F4) z;have T:(bif G3 d.h (-1048576) 1048576 then(bif (d.N.K !=0)then true else(bif (G3 d.h (-1048576) 1048576)&&(!(d.N.K !=0))then G3 d.h 0 1 else default))else false)=P12 d:=by
     unfold P12;cases G3 d.h (-1048576) 1048576<;>cases(d.N.K !=0)<;>rfl
    rw[Oc,G1q o c.dep d.Name v.name,ob,W1i d.Value (uV2 d.K) v.value _ (z.less (by omega)),ob,Cb _ b.dep,ob,Zq,ob,O,ob,T,Fl _ (b.x0).dep,ob,Cb _ (b.x0.x0).dep,ob,B _ (b.x0.x0.x0)];simp only[Q5,Bool.true_and,Bool.and_true,Bool.and_assoc,Nat.zero_add,Nat.add_zero,Nat.zero_max,Nat.max_zero,Nat.add_assoc,Nat.max_assoc,P19]
   have I:(N0.mk (i64.wrap (o.nodes+1)) o.depth o.r o.o o.q)=U5 o 1 0 true true true:=by
    rw[wr (by omega) (by omega)];simp only[U5,zqf,Bool.or_false];have:=c.dep;rw[show max o.depth ((0:Nat):Int)=o.depth by omega];rfl
   have z:R6 (U5 o 1 0 true true true) (tN d.N (isK d.K)+(oN d.Value (uV2 d.K)+(C0.ndss d.P+(C0.ndss d.Vars+(E0.ndss d.Body+C0.ndss r))))):=R6.x (c.less (by omega));have b:=z.x0 (m:=0) (f:=isK d.K) (a:=true) (u:=true);rw[Y8,e1,zp rfl,e2,ob,show Py d.K=some (isK d.K,uV2 d.K)from rfl,ob];show(F1 (isK d.K) _>>=_)=_;rw[I,Cb _ z.dep,ob,X20 d.N v.type];show((if !(isK d.K) then some (S11 d.N)else some default)>>=_)=_;cases hk:isK d.K with
   |true=>
    rw[hk]at b;have y:=b;unfold tN at y;simp only[zqf,zql]at y;rw[zn (by simp),ob];rw[zp (show(bif (true,uV2 d.K).1 then true else !default)=true from rfl),L1u d.N v.type _ (y.less (by omega)),ob,V _ _ (by rw[hk]) (R6.x y)];simp only[Q5,C0.ndss,C0.dpss,C0.alls,C0.nds_eq,C0.dps_eq,C0.all_eq,dform,Sm,dnumb,hk,tN,tD,zqf,zql,Bool.true_and,Bool.and_assoc,Nat.add_assoc,Nat.max_assoc,Nat.zero_max,Nat.zero_add];congr 1;simp only[U5];congr 1
    all_goals first
     |(congr 1;congr 1;ac_rfl)
     |(congr 1;congr 1)
     |skip
   |false=>
    rw[hk]at b;rw[zp (show(!false)=true from rfl),ob];show(if !(S11 d.N) then _ else _)=_;cases hz:S11 d.N with
    |true=>
     unfold tN at b;rw[hz]at b;simp only[zqg,zqk,Nat.zero_add]at b;rw[zn (by simp),V _ _ (by rw[hk]) b];have X:=P27 hz;simp only[Q5,C0.ndss,C0.dpss,C0.alls,C0.nds_eq,C0.dps_eq,C0.all_eq,dform,Sm,dnumb,hk,tN,tD,hz,zqg,zqk,Bool.true_and,Bool.false_and,Bool.and_assoc,Nat.add_assoc,Nat.max_assoc,Nat.zero_max,Nat.zero_add];rw[X,J1q.1,J1q.2];simp only[Bool.true_and];congr 1;simp only[U5];congr 1
     all_goals first
      |(congr 1;congr 1;ac_rfl)
      |(congr 1;congr 1)
      |skip
    |false=>
     have y:=b;unfold tN at y;rw[hz]at y;simp only[zqg,zql,zqk]at y;rw[zp (by simp),L1u d.N v.type _ (y.less (by omega)),ob,V _ _ (by rw[hk]) (R6.x y)];simp only[Q5,C0.ndss,C0.dpss,C0.alls,C0.nds_eq,C0.dps_eq,C0.all_eq,dform,Sm,dnumb,hk,tN,tD,hz,zqg,zqk,zql,Bool.true_and,Bool.false_and,Bool.and_assoc,Nat.add_assoc,Nat.max_assoc,Nat.zero_max,Nat.zero_add];congr 1;simp only[U5];congr 1
     all_goals first
      |(congr 1;congr 1;ac_rfl)
      |(congr 1;congr 1)
      |skip
 rw[J9];exact D l 0 o rfl c
structure OkP (p:I0):Prop where
 decls:OkD p.Decls
 body:OkS p.Body
def Z1l (p:I0):Nat:=C0.ndss p.Decls+E0.ndss p.Body
def A1m (p:I0):Nat:=max (C0.dpss p.Decls) (E0.dpss p.Body 1)
def Dw (p:I0):Int:=Ul (Z1l p) (A1m p) (!(C0.alls dform p.Decls&&E0.alls sform p.Body)) (!(C0.alls Sm p.Decls&&E0.alls Ih p.Body)) (!(C0.alls dnumb p.Decls&&E0.alls snumb p.Body))
def B21 (p:I0)(h:OkP p):Qu p=some (U5 ⟨0,0,false,false,false⟩ (Z1l p) (A1m p) (C0.alls dform p.Decls&&E0.alls sform p.Body) (C0.alls Sm p.Decls&&E0.alls Ih p.Body) (C0.alls dnumb p.Decls&&E0.alls snumb p.Body)):=by
 have u:=C0.ndss_bulk p.Decls;have d:=E0.ndss_bulk p.Body;have c:C0.bulks p.Decls<=BB:=h.decls;have r:E0.bulks p.Body<=BB:=h.body;have b:R6 ⟨0,0,false,false,false⟩ (C0.ndss p.Decls+E0.ndss p.Body):=⟨Int.le_refl _,Int.le_refl _,by simp only;omega⟩
 unfold Qu;rw[L24 p.Decls h.decls _ (b.less (by omega)),ob,show(1:Int)=((1:Nat):Int)from rfl,I1q p.Body h.body 1 _ (by unfold BB at *;omega) (R6.x b),ob,Q5];rfl
def M24 (n m:Nat)(f a u:Bool):E8 (U5 ⟨0,0,false,false,false⟩ n m f a u)=some (Ul n m (!f) (!a) (!u)):=by
 rw[D1u];simp only[U5,Bool.false_or];rw[show(0:Int)+(n:Int)=n by omega,show max (0:Int) (m:Int)=m by omega]
def Q27 (p:I0)(h:OkP p):Sy p=some (Dw p):=by
 unfold Sy;rw[B21 p h,ob,M24,ob];rfl
def ifs {b c:Bool}{X:Option Bool}{y:Bool}(h:b = !c)(d:X=some y):(if b=true then some false else X)=some (c&&y):=by
 subst h;rw[d];cases c<;>rfl
def ifd (c a:Bool):(if c=true then some a else some default)=some (bif c then a else default):=by cases c<;>rfl
def rUP (v:Int):Fo v=some (uPl v):=rfl
def rUV (v:Int):Ho v=some (uVa v):=rfl
def rUN (v:Int):Yu v=some (uNm v):=rfl
def E2d (v:Int):U17 v=some (uNn v):=rfl
def rUT (v:Int):Y10 v=some (uTh v):=rfl
def rDT (k:Int):Wu k=some (isK k):=rfl
def rDV (k:Int):Eo k=some (uV2 k):=rfl
def szX (s:U0)(n m:Nat):U0:=⟨s.nodes+n,max s.depth m⟩
def V16 (s:U0)(n m n' m':Nat):szX (szX s n m) n' m'=szX s (n+n') (max m m'):=by
 simp only[szX];rw[show s.nodes+(n:Int)+(n':Int)=s.nodes+((n+n':Nat):Int) by omega,show max (max s.depth (m:Int)) (m':Int)=max s.depth ((max m m':Nat):Int) by omega]
structure U8 (s:U0)(n:Nat):Prop where
 dep:0<=s.depth
 low:0<=s.nodes
 high:s.nodes+n<=3*BB
def U8.x {s:U0}{m:Nat}(h:U8 s (k+n)):U8 (szX s k m) n:=by
 obtain⟨d,c,b⟩:=h;refine⟨?_,?_,?_⟩<;>simp only[szX]<;>omega
def U8.less {s:U0}(h:U8 s n)(b:k<=n):U8 s k:=⟨h.dep,h.low,by have:=h.high;omega⟩
def L15 (s:U0)(h:0<=s.depth):szX s 0 0=s:=by
 simp only[szX];rw[show s.nodes+((0:Nat):Int)=s.nodes by omega,show max s.depth ((0:Nat):Int)=s.depth by omega]
def H1b (s:U0)(e:D0)(u:Bool)(h:OkE e)(c:U8 s (oN e u)):Zg s e u=some (szX s (oN e u) (oD e u)):=by
 have d:=h.nodes;have b:=c.high;have r:=c.low;unfold Zg;rw[U16 e h,ifd,ob,V20 e h,W20 e h];unfold oN oD at *;cases u with
 |true=>
  simp only[zqf,zql]at *;unfold BB at b d;rw[zn (by simp),ob,ob,O12,ob,wr (n:=s.nodes+(e.nodes:Int)) (by omega) (by omega)];rfl
 |false=>
  simp only[zqg,zqk]at *;cases hz:Jp e with
  |true=>rw[zp rfl];exact congrArg some (L15 s c.dep).symm
  |false=>
   rw[hz]at b;simp only[zql]at b;unfold BB at b d;rw[zn (by simp),ob,ob,O12,ob,wr (n:=s.nodes+(e.nodes:Int)) (by omega) (by omega)];rfl
def R27 (s:U0)(t:A0)(u:Bool)(h:Ok t)(c:U8 s (tN t u)):Tj s t u=some (szX s (tN t u) (tD t u)):=by
 have d:=h.nodes;have b:=c.high;have r:=c.low;unfold Tj;rw[I24 t h,ifd,ob,U1p t h,V1p t h];unfold tN tD at *;cases u with
 |true=>
  simp only[zqf,zql]at *;unfold BB at b d;rw[zn (by simp),ob,ob,O12,ob,wr (n:=s.nodes+(t.nodes:Int)) (by omega) (by omega)];rfl
 |false=>
  simp only[zqg,zqk]at *;cases hz:S11 t with
  |true=>rw[zp rfl];exact congrArg some (L15 s c.dep).symm
  |false=>
   rw[hz]at b;simp only[zql]at b;unfold BB at b d;rw[zn (by simp),ob,ob,O12,ob,wr (n:=s.nodes+(t.nodes:Int)) (by omega) (by omega)];rfl
def T2b (s:U0)(b:U8 s 1)(d:Nat):E9 ⟨i64.wrap (s.nodes+1),s.depth⟩ (d:Int)=some (szX s 1 d):=by
 have c:=b.high;have r:=b.low;unfold BB at c;rw[O12,wr (n:=s.nodes+1) (by omega) (by omega)];rfl
def J1o (e:D0):oN e true=e.nodes/\oD e true=e.depth:=⟨rfl,rfl⟩
def K1q (s:E0)(d:Ox s)(K:U0->Option U0)(F:U0->Int->Option U0)
  (c:∀(o:U0) (k:Int),F o k=if decide (k<(s.B.length:Int))=true then idx s.B k>>=λx=>Zg o x true>>=λy=>F y (i64.wrap (k+1))else K o) :
  ∀(r:List D0) (k:Nat) (o:U0),s.B.drop k=r->U8 o (D0.nodess r)->F o (k:Int)=K (szX o (D0.nodess r) (D0.depths r))
 |[],k,o,h,b=>by
  rw[c,(I1 h).1,zn (by simp)];simp only[D0.nodess,D0.depths];rw[L15 o b.dep]
 |x::r,k,o,h,b=>by
  obtain⟨z,v,D,I,u⟩:=R1 h;have:=d.args;simp only[D0.nodess]at b;rw[c,z,zp rfl,v,ob,H1b o x true (d.arg x u) (b.less (by rw[(J1o x).1];omega)),ob,(J1o x).1,(J1o x).2,w1 (by omega),K1q s d K F c r (k+1) _ D b.x,V16];rfl
def G1f (l:List E0):OkS l->∀(d:Nat) (o:U0),d+E0.bulks l<=3*BB->U8 o (E0.ndss l)->Fe o l d=some (szX o (E0.ndss l) (E0.dpss l d)):=by
 induction l using E0.inds with
 |h l Z=>
 intro U d o hd c;have u:∀(r:List E0) (k:Nat) (o:U0),l.drop k=r->U8 o (E0.ndss r)->Sg l d o k=some (szX o (E0.ndss r) (E0.dpss r d)):=by
  intro r
  induction r with
  |nil=>
   intro k o h c;rw[Sg,(I1 h).1,zn (by simp)];exact congrArg some (L15 o c.dep).symm
  |cons s r z=>
   intro k o h c;obtain⟨e1,e2,e3,e4,D⟩:=R1 h;have v:=U.mem D;have T:=U.len;obtain⟨i1,i2⟩:=Z s D;have a0:=E0.bulk_mem D;have a1:=E0.bulk_eq s;simp only[E0.ndss,E0.nds_eq]at c;unfold BB at hd;have y:i64.wrap ((d:Int)+1)=((d+1:Nat):Int):=by rw[wr (by omega) (by omega)];rfl
   have b:=K1q s v _ (λo k'=>Fk l d o s k k') (λo k'=>Fk.eq_1 l d o s k k') s.B 0;rw[show((0:Nat):Int)=0 from rfl]at b;have V:U8 (szX o 1 d) (oN s.I (uPl s.S)+(oN s.Value (uVa s.S)+(D0.nodess s.B+(E0.ndss s.Then+(E0.ndss s.Else+E0.ndss r))))):=U8.x (c.less (by omega));have O:=U8.x (m:=oD s.I (uPl s.S)) V;have Y:=U8.x (m:=oD s.Value (uVa s.S)) O;have J:=U8.x (m:=D0.depths s.B) Y;have X:=U8.x (m:=E0.dpss s.Then (d+1)) J;have q6:=U8.x (m:=E0.dpss s.Else (d+1)) X
   rw[Sg,e1,zp rfl,e2,ob,T2b o (c.less (by omega)) d,ob,rUP,ob,H1b _ s.I _ v.place (V.less (by omega)),ob,rUV,ob,H1b _ s.Value _ v.value (O.less (by omega)),ob,
    b _ rfl (Y.less (by omega)),y,i1 v.thens (d+1) _ (by unfold BB;omega) (J.less (by omega)),ob,i2 v.elses (d+1) _ (by unfold BB;omega) (X.less (by omega)),ob,w1 (by omega),z (k+1) _ e3 q6]
   simp only[V16,E0.ndss,E0.dpss,E0.nds_eq,E0.dps_eq,Nat.add_assoc,Nat.max_assoc]
 rw[Fe];exact u l 0 o rfl c
def N1u (l:List C0):OkD l->∀(o:U0),U8 o (C0.ndss l)->Xh o l=some (szX o (C0.ndss l) (C0.dpss l)):=by
 induction l using C0.inds with
 |h l T=>
 intro B o b;have d:∀(r:List C0) (k:Nat) (o:U0),l.drop k=r->U8 o (C0.ndss r)->Tg l o k=some (szX o (C0.ndss r) (C0.dpss r)):=by
  intro r
  induction r with
  |nil=>
   intro k o h b;rw[Tg,(I1 h).1,zn (by simp)];exact congrArg some (L15 o b.dep).symm
  |cons s r u=>
   intro k o h b;obtain⟨e1,e2,e3,e4,J⟩:=R1 h;have c:=B.mem J;have z:=B.len;obtain⟨X,i2⟩:=T s J;have V:E0.bulks s.Body<=BB:=c.body;simp only[C0.ndss,C0.nds_eq]at b;have U:=b.high;have Y:=b.low;have hw:(U0.mk (i64.wrap (o.nodes+1)) o.depth)=szX o 1 0:=by
    unfold BB at U;rw[wr (by omega) (by omega)];have:=b.dep;simp only[szX];rw[show max o.depth ((0:Nat):Int)=o.depth by omega];rfl
   have D:U8 (szX o 1 0) (tN s.N (isK s.K)+(oN s.Value (uV2 s.K)+(C0.ndss s.P+(C0.ndss s.Vars+(E0.ndss s.Body+C0.ndss r))))):=U8.x (b.less (by omega));have y:=U8.x (m:=tD s.N (isK s.K)) D;have O:=U8.x (m:=oD s.Value (uV2 s.K)) y;have v:=U8.x (m:=C0.dpss s.P) O;have I:=U8.x (m:=C0.dpss s.Vars) v;have Z:=U8.x (m:=E0.dpss s.Body 1) I
   rw[Tg,e1,zp rfl,e2,ob,rDT,ob,hw,R27 _ s.N _ c.type (D.less (by omega)),ob,rDV,ob,H1b _ s.Value _ c.value (y.less (by omega)),ob,X c.params _ (O.less (by omega)),ob,i2 c.vars _ (v.less (by omega)),ob,
    show(1:Int)=((1:Nat):Int)from rfl,G1f s.Body c.body 1 _ (by unfold BB at *;omega) (I.less (by omega)),ob,show((k:Int)+((1:Nat):Int))=(k:Int)+1 from rfl,w1 (by omega),u (k+1) _ e3 Z]
   simp only[V16,C0.ndss,C0.dpss,C0.nds_eq,C0.dps_eq,Nat.add_assoc,Nat.max_assoc,Nat.zero_max]
 rw[Xh];exact d l 0 o rfl b
def C21 (s:E0)(d:Ox s)(p:D0->Bool)(g:D0->Option Bool)(u:∀x∈s.B,g x=some (x.all p))(K:Option Bool)(F:Int->Option Bool)(y:Bool)(v:K=some y)
  (c:∀k:Int,F k=if decide (k<(s.B.length:Int))=true then idx s.B k>>=λx=>g x>>=λb=>if !b then some false else F (i64.wrap (k+1))else K) :
  ∀(r:List D0) (k:Nat),s.B.drop k=r->F (k:Int)=some (D0.alls p r&&y)
 |[],k,h=>by rw[c,(I1 h).1,zn (by simp),v];rfl
 |x::r,k,h=>by
  obtain⟨I,D,J,O,z⟩:=R1 h;have:=d.args;rw[c,I,zp rfl,D,ob,u x z,ob,w1 (by omega),C21 s d p g u K F y v c r (k+1) J,D0.alls];cases x.all p<;>simp
def Y1b (l:List E0):OkS l->Fc l=some (E0.alls sform l):=by
 induction l using E0.inds with
 |h l T=>
 intro J;have u:∀(r:List E0) (k:Nat),l.drop k=r->He l k=some (E0.alls sform r):=by
  intro r
  induction r with
  |nil=>intro k h;rw[He,(I1 h).1,zn (by simp)];rfl
  |cons s r v=>
   intro k h;obtain⟨Z,V,e3,e4,z⟩:=R1 h;have d:=J.mem z;have D:=J.len;obtain⟨Y,X⟩:=T s z
   have O:=C21 s d A3 X7 (λx U=>T16 x (d.arg x U)) _ (λk'=>Ej l s k k') (E0.alls sform s.Then&&E0.alls sform s.Else&&E0.alls sform r)
    (by
     rw[Y d.thens,ob,X d.elses,ifd,ob,w1 (by omega),v (k+1) e3];cases E0.alls sform s.Then<;>cases E0.alls sform s.Else<;>simp)
    (λk'=>Ej.eq_1 l s k k') s.B 0 rfl
   rw[show((0:Nat):Int)=0 from rfl]at O;rw[He,Z,zp rfl,V,ob];simp only[rUP,rUV,rUN,E2d,rUT,A1q,T16 _ d.place,T16 _ d.value,U16 _ d.place,U16 _ d.value,ifd,ob]
   have:=ifs (b:=bif decide (s.S<0)then true else decide (s.S>8)) (c:=okV s.S) (by unfold okV;rw[Bool.not_not])
    (ifs (c:=oF s.I (uPl s.S)&&(bif uPl s.S then s.I.place else true)) (b:=bif (bif uPl s.S then(bif (!(bif uPl s.S then s.I.place else default))then true else(!(bif (uPl s.S&&(!(!(bif uPl s.S then s.I.place else default))))then s.I.all A3 else default)))else false)then true else(bif (!(bif (!(bif uPl s.S then(bif (!(bif uPl s.S then s.I.place else default))then true else(!(bif (uPl s.S&&(!(!(bif uPl s.S then s.I.place else default))))then s.I.all A3 else default)))else false))then uPl s.S else default))then(!(bif ((!(bif uPl s.S then(bif (!(bif uPl s.S then s.I.place else default))then true else(!(bif (uPl s.S&&(!(!(bif uPl s.S then s.I.place else default))))then s.I.all A3 else default)))else false))&&(!(bif (!(bif uPl s.S then(bif (!(bif uPl s.S then s.I.place else default))then true else(!(bif (uPl s.S&&(!(!(bif uPl s.S then s.I.place else default))))then s.I.all A3 else default)))else false))then uPl s.S else default)))then Jp s.I else default))else false))
     (by unfold oF;cases uPl s.S<;>cases s.I.place<;>cases s.I.all A3<;>cases Jp s.I<;>rfl)
    (ifs (c:=oF s.Value (uVa s.S)) (b:=bif (bif uVa s.S then(!(bif uVa s.S then s.Value.all A3 else default))else false)then true else(bif (!(bif (!(bif uVa s.S then(!(bif uVa s.S then s.Value.all A3 else default))else false))then uVa s.S else default))then(!(bif ((!(bif uVa s.S then(!(bif uVa s.S then s.Value.all A3 else default))else false))&&(!(bif (!(bif uVa s.S then(!(bif uVa s.S then s.Value.all A3 else default))else false))then uVa s.S else default)))then Jp s.Value else default))else false))
     (by unfold oF;cases uVa s.S<;>cases s.Value.all A3<;>cases Jp s.Value<;>rfl)
    (ifs (c:=(bif uNm s.S then true else s.Name==[])&&(bif s.S==1 then true else((s.B.length:Int)==0))&&(bif uNn s.S then true else s.NV==0)&&(bif s.S==7 then true else(bif s.Low==0 then s.H==0 else false))&&(bif s.S==8 then true else((s.j.length:Int)==0)))
     (b:=bif (bif (bif (bif (bif (!(uNm s.S))then(!(s.Name==[]))else false)then true else(bif (s.S !=1)then((s.B.length:Int)!=0)else false))then true else(bif (!(bif (!(bif (bif (!(uNm s.S))then(!(s.Name==[]))else false)then true else(bif (s.S !=1)then((s.B.length:Int)!=0)else false)))then uNn s.S else default))then(s.NV !=0)else false))then true else(bif (s.S !=7)then(bif (s.Low !=0)then true else(s.H !=0))else false))then true else(bif (s.S !=8)then((s.j.length:Int)!=0)else false))
     (by
      unfold bne;generalize(s.S==1)=a1;generalize(s.S==7)=a2;generalize(s.S==8)=a3;generalize(s.Name==[])=a4;generalize((s.B.length:Int)==0)=a5;generalize(s.NV==0)=a6;generalize(s.Low==0)=a7;generalize(s.H==0)=a8;generalize((s.j.length:Int)==0)=a9;generalize uNm s.S=b1;generalize uNn s.S=b2;cases b1<;>cases a4<;>cases a1<;>cases a5<;>cases b2<;>cases a6<;>first|rfl|(cases a2<;>cases a7<;>cases a8<;>cases a3<;>cases a9<;>rfl))
    (ifs (c:=(bif uTh s.S then true else((s.Then.length:Int)==0))&&(bif s.S==5 then true else((s.Else.length:Int)==0))) (b:=bif (bif (!(uTh s.S))then((s.Then.length:Int)!=0)else false)then true else(bif (s.S !=5)then((s.Else.length:Int)!=0)else false))
     (by
      unfold bne;generalize(s.S==5)=a1;generalize((s.Then.length:Int)==0)=a2;generalize((s.Else.length:Int)==0)=a3;generalize uTh s.S=a0;cases a0<;>cases a1<;>cases a2<;>cases a3<;>rfl) O))))
   refine this.trans ?_;simp only[E0.alls,E0.all_eq,sform,Bool.and_assoc];congr 1;generalize D0.alls A3 s.B=x;generalize(bif s.S==1 then true else((s.B.length:Int)==0))=y
   ac_rfl
 rw[Fc];exact u l 0 rfl
def O1u (c:List C0)(hc:c.length<=BB)(q:C0->Bool)(K:Option Bool)(F:Int->Option Bool)(y:Bool)(u:K=some y)
  (b:∀(r:List C0) (k:Nat) (x:C0),c.drop k=x::r->F (k:Int)=if q x=true then F (i64.wrap ((k:Int)+1))else some false) (d:∀k:Nat,c.drop k=[]->F (k:Int)=K) :
  ∀(r:List C0) (k:Nat),c.drop k=r->F (k:Int)=some (r.all q&&y)
 |[],k,h=>by rw[d k h,u];rfl
 |x::r,k,h=>by
  obtain⟨I,B,v,D,z⟩:=R1 h;rw[b r k x h,w1 (by omega),O1u c hc q K F y u b d r (k+1) v,List.all_cons];cases q x<;>simp
def F1r (l:List C0):OkD l->Ag l=some (C0.alls dform l):=by
 induction l using C0.inds with
 |h l V=>
 intro O;have y:∀(r:List C0) (k:Nat),l.drop k=r->Ie l k=some (C0.alls dform r):=by
  intro r
  induction r with
  |nil=>intro k h;rw[Ie,(I1 h).1,zn (by simp)];rfl
  |cons d r B=>
   intro k h;obtain⟨e1,Y,e3,e4,I⟩:=R1 h;have u:=O.mem I;have J:=O.len;obtain⟨i1,Z⟩:=V d I
   have l3:=O1u d.Vars u.vars.len vOk _ (λk'=>I8 l d k k') (C0.alls dform d.P&&C0.alls dform d.Vars&&E0.alls sform d.Body&&C0.alls dform r) rfl
    (λU k' x v=>by
     obtain⟨D,z,f3,X,f5⟩:=R1 v;show I8 l d k k'=_;rw[I8,D,zp rfl,z,ob];unfold vOk bne;cases(x.K==4)<;>rfl)
    (λk' v=>by
     show I8 l d k k'=_;rw[I8,(I1 v).1,zn (by simp),i1 u.params,ob,Z u.vars,ifd,ob,Y1b d.Body u.body,ifd,ob,w1 (by omega),B (k+1) e3];cases C0.alls dform d.P<;>cases C0.alls dform d.Vars<;>cases E0.alls sform d.Body<;>simp) d.Vars 0 rfl
   have T:=O1u d.P u.params.len pOk _ (λk'=>H8 l d k k') (d.Vars.all vOk&&(C0.alls dform d.P&&C0.alls dform d.Vars&&E0.alls sform d.Body&&C0.alls dform r)) rfl
    (λU k' x v=>by
     obtain⟨D,z,f3,X,f5⟩:=R1 v;show H8 l d k k'=_;rw[H8,D,zp rfl,z,ob];unfold pOk bne;cases(x.K==4)
     ·rfl
     ·simp only[zqf,zqg,zt,ob,zqk,zql];cases(x.h==0)<;>rfl)
    (λk' v=>by
     show H8 l d k k'=_;rw[H8,(I1 v).1,zn (by simp)];exact l3) d.P 0 rfl
   rw[show((0:Nat):Int)=0 from rfl]at T;rw[Ie,e1,zp rfl,Y,ob];simp only[rDT,rDV,F1u _ u.type,T16 _ u.value,U16 _ u.value,ifd,ob]
   have:=ifs (b:=bif (!(isK d.K))then true else(!(bif (!(!(isK d.K)))then d.N.all X4 else default))) (c:=isK d.K&&d.N.all X4) (by cases isK d.K<;>cases d.N.all X4<;>rfl)
    (ifs (c:=oF d.Value (uV2 d.K)&&(bif d.K==4 then true else d.h==0)) (b:=bif (bif (bif uV2 d.K then(!(bif uV2 d.K then d.Value.all A3 else default))else false)then true else(bif (!(bif (!(bif uV2 d.K then(!(bif uV2 d.K then d.Value.all A3 else default))else false))then uV2 d.K else default))then(!(bif ((!(bif uV2 d.K then(!(bif uV2 d.K then d.Value.all A3 else default))else false))&&(!(bif (!(bif uV2 d.K then(!(bif uV2 d.K then d.Value.all A3 else default))else false))then uV2 d.K else default)))then Jp d.Value else default))else false))then true else(bif (d.K !=4)then(d.h !=0)else false))
     (by
      unfold oF bne;generalize(d.K==4)=a1;generalize(d.h==0)=a2;generalize uV2 d.K=a3;cases a3<;>cases d.Value.all A3<;>cases Jp d.Value<;>cases a1<;>cases a2<;>rfl)
    (ifs (c:=bif d.K==6 then true else P19 d) (b:=bif (d.K !=6)then(bif (bif ((d.P.length:Int)!=0)then true else((d.Vars.length:Int)!=0))then true else((d.Body.length:Int)!=0))else false)
     (by
      unfold P19 bne;cases(d.K==6)<;>cases((d.P.length:Int)==0)<;>cases((d.Vars.length:Int)==0)<;>cases((d.Body.length:Int)==0)<;>rfl) T))
   refine this.trans ?_;simp only[C0.alls,C0.all_eq,dform,Bool.and_assoc];congr 1
   ac_rfl
 rw[Ag];exact y l 0 rfl
def N24 (s:E0)(u:Ox s)(p:D0->Bool)(g:D0->Option Bool)(d:∀x∈s.B,g x=some (x.all p))(K:Option Bool)(F:Int->Option Bool)(y:Bool)(r:K=some y) (c:∀k:Int,F k=if decide (k<(s.B.length:Int))=true then idx s.B k>>=λx=>g x>>=λb=>if !b then some false else F (i64.wrap (k+1))else K):F 0=some (D0.alls p s.B&&y):=C21 s u p g d K F y r c s.B 0 rfl
def Q19 (l:List E0):OkS l->Ta l=some (E0.alls Ih l):=by
 induction l using E0.inds with
 |h l z=>
 intro y;have c:∀(r:List E0) (k:Nat),l.drop k=r->Jc l k=some (E0.alls Ih r):=by
  intro r
  induction r with
  |nil=>intro k h;rw[Jc,(I1 h).1,zn (by simp)];rfl
  |cons s r d=>
   intro k h;obtain⟨T,D,V,X,u⟩:=R1 h;have b:=y.mem u;have v:=y.len;obtain⟨O,J⟩:=z s u;have U:=N24 s b C8 L7 (λx B=>V13 x (b.arg x B)) _ (λk'=>Mh l s k k') (E0.alls Ih r) (by rw[w1 (by omega),d (k+1) V]) (λk'=>Mh.eq_1 l s k k');rw[Jc,T,zp rfl,D,ob];simp only[rUN,Aq _ b.name,V13 _ b.place,V13 _ b.value,O b.thens,J b.elses,ifd,ob,U];simp only[E0.alls,E0.all_eq,Ih];generalize uNm s.S=a1;generalize N7 s.Name=a2;generalize s.I.all C8=a3;generalize s.Value.all C8=a4;generalize E0.alls Ih s.Then=a5;generalize E0.alls Ih s.Else=a6;cases a1<;>cases a2<;>cases a3<;>cases a4<;>cases a5<;>cases a6<;>simp
 rw[Ta];exact c l 0 rfl
def K1o (l:List C0):OkD l->Jd l=some (C0.alls Sm l):=by
 induction l using C0.inds with
 |h l z=>
 intro y;have c:∀(r:List C0) (k:Nat),l.drop k=r->Lc l k=some (C0.alls Sm r):=by
  intro r
  induction r with
  |nil=>intro k h;rw[Lc,(I1 h).1,zn (by simp)];rfl
  |cons d r u=>
   intro k h;obtain⟨J,B,O,T,v⟩:=R1 h;have b:=y.mem v;have x:=y.len;obtain⟨I,D⟩:=z d v;rw[Lc,J,zp rfl,B,ob];simp only[Aq _ b.name,Y1p _ b.type,V13 _ b.value,I b.params,D b.vars,Q19 _ b.body,ifd,ob,w1 (show k<=BB by omega),u (k+1) O];simp only[C0.alls,C0.all_eq,Sm];generalize N7 d.Name=a2;generalize d.N.all P9=a3;generalize d.Value.all C8=a4;generalize C0.alls Sm d.P=a5;generalize C0.alls Sm d.Vars=a6;generalize E0.alls Ih d.Body=a1;cases a1<;>cases a2<;>cases a3<;>cases a4<;>cases a5<;>cases a6<;>simp
 rw[Jd];exact c l 0 rfl
def D21 (x:Int):G3 x 0 1048576=(bif decide (x<0)then false else !decide (x>1048576)):=by
 unfold G3;rw[D1b,E1b];cases decide (x>=0)<;>cases decide (x<=1048576)<;>rfl
def O24 (s:E0)(z:Ox s):∀(r:List Int) (k:Nat) (b:Int),s.j.drop k=r->(k=0/\b = -1\/0<k/\idx s.j ((k-1:Nat):Int)=some b)->Q8 s k=some (Oz b r)
 |[],k,b,h,y=>by rw[Q8,(I1 h).1,zn (by simp)];rfl
 |x::r,k,b,h,y=>by
  obtain⟨J,v,T,V,U⟩:=R1 h;have c:=z.nums;have B:=O24 s z r (k+1) x T (.inr ⟨by omega,v⟩);unfold BB at c;rw[show Oz b (x::r)=((bif G3 x 0 1048576 then decide (x>b)else false)&&Oz x r)from rfl,D21,Q8,J,zp rfl,v,ob,w1 (by unfold BB;omega),B];by_cases hx:x<0
  ·rw[zqj hx];rfl
  ·rw[zqs hx,zp (show(!false)=true from rfl),ob];cases hB:decide (x>1048576)with
   |true=>rfl
   |false=>
    rcases y with⟨rfl,rfl⟩|⟨u,O⟩
    ·have u:decide (((0:Nat):Int)>0)=false:=by decide
     rw[u,zqj (show x > -1 by omega)];cases Oz x r<;>rfl
    ·have d:decide ((k:Int)>0)=true:=zqj (by omega);have D:i64.wrap ((k:Int)-1)=((k-1:Nat):Int):=by rw[wr (by omega) (by omega)];omega
     have I:decide (x<=b) = !decide (x>b):=by rw[<-decide_not];exact decide_eq_decide.2 (by omega)
     rw[d,D,O];show(if decide (x<=b)=true then some false else some (Oz x r))=some (decide (x>b)&&Oz x r);rw[I];cases decide (x>b)<;>cases Oz x r<;>rfl
def S27 (s:E0)(d:Ox s):Ip s=some (Eu s):=by
 unfold Ip Eu;cases s.S==4 with
 |true=>rw[zp rfl];rfl
 |false=>
  rw[zn (by simp)];cases s.S==6 with
  |true=>rw[zp rfl];rfl
  |false=>
   rw[zn (by simp)];cases s.S==7 with
   |true=>
    rw[zp rfl,S16,ob,S16,ifd,ob];show some _=some (bif (bif G3 s.Low (-1048576) 1048576 then G3 s.H s.Low 1048576 else false)then decide (s.H-s.Low<4096)else false);congr 1;by_cases hb:(-1048576<=s.Low/\s.Low<=1048576)/\(-1048576<=s.H/\s.H<=1048576)
    ·obtain⟨⟨b,c⟩,b3,r⟩:=hb;rw[wr (n:=s.H-s.Low) (by omega) (by omega),wr (n:=s.H-s.Low+1) (by omega) (by omega)];unfold Qo G3;rw[zqj (show s.Low>=-1048576 from b),zqj c,zqj (show s.H>=-1048576 from b3),zqj r];simp only[zqk];have e:decide (s.H-s.Low+1<=4096)=decide (s.H-s.Low<4096):=decide_eq_decide.2 (by omega);rw[e];show(bif decide (s.Low<=s.H)then decide (s.H-s.Low<4096)else false)=(bif (bif decide (s.Low<=s.H)then true else false)then decide (s.H-s.Low<4096)else false)
     cases decide (s.Low<=s.H)<;>rfl
    ·unfold Qo G3;by_cases h1 : -1048576<=s.Low/\s.Low<=1048576
     ·obtain⟨b,c⟩:=h1;rw[zqj (show s.Low>=-1048576 from b),zqj c];simp only[zqk];by_cases h2:s.H<=1048576
      ·have u:¬s.H>=-1048576:=λh=>hb ⟨⟨b,c⟩,h,h2⟩;rw[zqs u,zqs (show¬s.H>=s.Low by omega)];rfl
      ·rw[zqs h2];cases decide (s.H>=-1048576)<;>cases decide (s.H>=s.Low)<;>rfl
     ·have:(bif decide (s.Low>=-1048576)then decide (s.Low<=1048576)else false)=false:=by
       by_cases h2 : -1048576<=s.Low
       ·rw[zqj (show s.Low>=-1048576 from h2),zqs (λh=>h1 ⟨h2,h⟩)];rfl
       ·rw[zqs (show¬s.Low>=-1048576 from h2)];rfl
      rw[this];rfl
   |false=>
    rw[zn (by simp)];cases s.S==8 with
    |true=>
     have:=O24 s d s.j 0 (-1) rfl (.inl ⟨rfl,rfl⟩);rw[show((0:Nat):Int)=0 from rfl]at this;rw[zp rfl,this,D1b,E1b];show _=some (G3 (s.j.length:Int) 1 32&&Oz (-1) s.j);unfold G3;cases decide ((s.j.length:Int)>=1)<;>cases decide ((s.j.length:Int)<=32)<;>simp
    |false=>rfl
def M15 (l:List E0):OkS l->J8 l=some (E0.alls snumb l):=by
 induction l using E0.inds with
 |h l z=>
 intro y;have c:∀(r:List E0) (k:Nat),l.drop k=r->U9 l k=some (E0.alls snumb r):=by
  intro r
  induction r with
  |nil=>intro k h;rw[U9,(I1 h).1,zn (by simp)];rfl
  |cons s r d=>
   intro k h;obtain⟨T,D,V,X,u⟩:=R1 h;have b:=y.mem u;have v:=y.len;obtain⟨O,J⟩:=z s u;have U:=N24 s b F4 Z5 (λx B=>Nz x (b.arg x B)) _ (λk'=>Me l s k k') (E0.alls snumb r) (by rw[w1 (by omega),d (k+1) V]) (λk'=>Me.eq_1 l s k k');rw[U9,T,zp rfl,D,ob];simp only[S27 s b,Nz _ b.place,Nz _ b.value,O b.thens,J b.elses,ifd,ob,U];simp only[E0.alls,E0.all_eq,snumb];generalize Eu s=a2;generalize s.I.all F4=a3;generalize s.Value.all F4=a4;generalize E0.alls snumb s.Then=a5;generalize E0.alls snumb s.Else=a6;cases a2<;>cases a3<;>cases a4<;>cases a5<;>cases a6<;>simp
 rw[J8];exact c l 0 rfl
def I1b (d:C0):Bool:=(d.N.all λt=>!B11 t)&&d.Value.all F4&&P12 d&&E0.alls snumb d.Body
def X1i (l:List C0):OkD l->Ua l=some (C0.alls I1b l):=by
 induction l using C0.inds with
 |h l z=>
 intro y;have b:∀(r:List C0) (k:Nat),l.drop k=r->V9 l k=some (C0.alls I1b r):=by
  intro r
  induction r with
  |nil=>intro k h;rw[V9,(I1 h).1,zn (by simp)];rfl
  |cons d r u=>
   intro k h;obtain⟨O,B,T,U,v⟩:=R1 h;have c:=y.mem v;have x:=y.len;obtain⟨I,D⟩:=z d v;rw[V9,O,zp rfl,B,ob,S16,ob];simp only[F1h _ c.type,Nz _ c.value,I c.params,D c.vars,M15 _ c.body,ifd,ob,w1 (show k<=BB by omega),u (k+1) T];have J:(bif (!(Qo d.h))then true else(bif (d.N.K==0)then(bif (decide (d.h<0))then true else(decide (d.h>1)))else false)) = !(P12 d):=by
    unfold P12 Qo G3 bne;rw[D1b,E1b d.h 1];cases decide (d.h>=-1048576)<;>cases decide (d.h<=1048576)<;>cases(d.N.K==0)<;>cases decide (d.h>=0)<;>cases decide (d.h<=1)<;>rfl
   rw[J];simp only[C0.alls,C0.all_eq,I1b];generalize P12 d=a2;generalize(d.N.all λt=>!B11 t)=a3;generalize d.Value.all F4=a4;generalize C0.alls I1b d.P=a5;generalize C0.alls I1b d.Vars=a6;generalize E0.alls snumb d.Body=a1;cases a1<;>cases a2<;>cases a3<;>cases a4<;>cases a5<;>cases a6<;>simp
 rw[Ua];exact b l 0 rfl
def P24 (l:List C0):C0.alls dform l=true->C0.alls I1b l=C0.alls dnumb l:=by
 induction l using C0.inds with
 |h l u=>
 induction l with
 |nil=>intro _;rfl
 |cons d r b=>
  intro h;simp only[C0.alls,C0.all_eq,zqi]at h;obtain⟨⟨c,D,B⟩,I⟩:=h;obtain⟨z,y⟩:=u d zqp;have J:d.N.all X4=true:=by
   unfold dform at c;simp only[zqi]at c;exact c.1.1.1.1.1.1.2
  simp only[C0.alls,C0.all_eq,I1b,dnumb,<-E1h d.N J,z D,y B,b (λx v=>u x (zqq _ v)) I]
def T27 (p:I0)(h:OkP p):N11 p=some ⟨Z1l p,A1m p⟩:=by
 have u:=C0.ndss_bulk p.Decls;have d:=E0.ndss_bulk p.Body;have c:C0.bulks p.Decls<=BB:=h.decls;have r:E0.bulks p.Body<=BB:=h.body;have b:U8 ⟨0,0⟩ (C0.ndss p.Decls+E0.ndss p.Body):=⟨Int.le_refl _,Int.le_refl _,by simp only;omega⟩
 unfold N11;rw[N1u p.Decls h.decls _ (b.less (by omega)),ob,show(1:Int)=((1:Nat):Int)from rfl,G1f p.Body h.body 1 _ (by unfold BB at *;omega) (U8.x b),ob,V16];unfold szX Z1l A1m;simp only;rw[show(0:Int)+((C0.ndss p.Decls+E0.ndss p.Body:Nat):Int)=((C0.ndss p.Decls+E0.ndss p.Body:Nat):Int) by omega,show max (0:Int) ((max (C0.dpss p.Decls) (E0.dpss p.Body 1):Nat):Int)=((max (C0.dpss p.Decls) (E0.dpss p.Body 1):Nat):Int) by omega]
def V2c (a b:Bool):(bif a then(bif a then b else default)else false)=(a&&b):=by cases a<;>rfl
def Q24 (p:I0)(h:OkP p):O11 p=some (Dw p):=by
 unfold O11;simp only[T27 p h,F1r _ h.decls,Y1b _ h.body,K1o _ h.decls,Q19 _ h.body,X1i _ h.decls,M15 _ h.body,ifd,ob,G1h,V2c];unfold Dw;cases hf:C0.alls dform p.Decls with
 |false=>unfold Ul;rfl
 |true=>rw[P24 p.Decls hf]
def B1m (h:p.bulk<=4200000):OkP p:=by
 cases p;simp only[I0.bulk]at h;exact⟨by unfold OkD BB;simp only;omega,by unfold OkS BB;simp only;omega⟩
def N15 {α:Type}(p:α->Bool):List α->Nat->Int
 |[],_=>-1
 |x::r,i=>bif p x then(i:Int)else N15 p r (i+1)
def P1u {α:Type}(p:α->Bool):∀(l:List α) (k:Nat),0<=N15 p l k↔l.any p=true
 |[],k=>by simp[N15]
 |x::r,k=>by
  have b:=P1u p r (k+1);rw[List.any_cons,Bool.or_eq_true,<-b];show 0<=(bif p x then(k:Int)else N15 p r (k+1))↔_;cases hp:p x with
  |true=>simp
  |false=>simp
def Y1i (p:α->Bool)(l:List α)(k:Nat):decide (N15 p l k>=0)=l.any p:=by
 rw[Bool.eq_iff_iff,decide_eq_true_eq];exact P1u p l k
def H1f (h:k<=l.length):slc l 0 (k:Int)=some (l.take k):=by
 unfold slc;rw[zp ⟨by omega,by omega,by omega⟩];simp
def Gs:(0:Int)=((0:Nat):Int):=rfl
def Y1x (s:List A0)(u:s.length<=BB)(b:∀x∈s,Dl x=some (x.some Bq)) :
  ∀(r:List A0) (k:Nat),s.drop k=r->D3 s k=some (N15 (A0.some Bq) r k)
 |[],k,h=>by rw[D3,(I1 h).1,zn (by simp)];rfl
 |x::r,k,h=>by
  obtain⟨d,v,y,z,c⟩:=R1 h;rw[D3,d,zp rfl,v,ob,b x c,ob,w1 (by omega),Y1x s u b r (k+1) y,N15];cases A0.some Bq x<;>simp
def U27 (t:A0):Ok t->Dl t=some (t.some Bq):=by
 induction t using A0.ind with
 |h t d=>
 intro c;have:=Y1x t.Of c.ofs (λx b=>d x b (c.kid b)) t.Of 0 rfl;rw[<-Gs]at this;rw[Dl,F6,X6,this,ob,A0.some_eq,Y1i];show _=some ((t.K==4)||_);cases t.K==4<;>simp
def Q1u (t:A0)(c:Ok t)(b:∀x∈t.Of,Bp x=some (x.some Bq)) :
  ∀(r:List A0) (k:Nat),t.Of.drop k=r->Sl t k=some (r.any (A0.some Bq))
 |[],k,h=>by rw[Sl,(I1 h).1,zn (by simp)];rfl
 |x::r,k,h=>by
  obtain⟨u,v,y,z,d⟩:=R1 h;have:=c.ofs;rw[Sl,u,zp rfl,v,ob,b x d,ob,w1 (by omega),Q1u t c b r (k+1) y,List.any_cons];cases A0.some Bq x<;>simp
def R24 (t:A0):Ok t->Bp t=some (t.some Bq):=by
 induction t using A0.ind with
 |h t d=>
 intro c;rw[Bp,Gs,Q1u t c (λx b=>d x b (c.kid b)) t.Of 0 rfl,A0.some_eq];show _=some ((t.K==4)||_);cases t.K==4<;>simp
def R1u (s:List Str)(v:Str)(c:s.length<=BB):∀(r:List Str) (k:Nat),s.drop k=r->W4 s v k=some (N15 (λy=>v==y) r k)
 |[],k,h=>by rw[W4,(I1 h).1,zn (by simp)];rfl
 |x::r,k,h=>by
  obtain⟨b,d,u,B,z⟩:=R1 h;rw[W4,b,zp rfl,d,ob,w1 (by omega),R1u s v c r (k+1) u,N15];cases v==x<;>simp
def S1u (s:List Str)(v:Str)(b:s.length<=BB):X9 s v=some (s.any λy=>v==y):=by
 unfold X9 S8;have:=R1u s v b s 0 rfl;rw[<-Gs]at this;rw[this,ob,<-Y1i (λy=>v==y) s 0]
def L1q (s:List A0)(u:s.length<=BB)(b:∀x∈s,Qi x=some (x.some Vk)) :
  ∀(r:List A0) (k:Nat),s.drop k=r->L3 s k=some (N15 (A0.some Vk) r k)
 |[],k,h=>by rw[L3,(I1 h).1,zn (by simp)];rfl
 |x::r,k,h=>by
  obtain⟨d,v,y,z,c⟩:=R1 h;rw[L3,d,zp rfl,v,ob,b x c,ob,w1 (by omega),L1q s u b r (k+1) y,N15];cases A0.some Vk x<;>simp
def Z1x (t:A0)(c:Ok t)(b:Bool)(d:G4 t.Of=some b) :
  ∀(r:List Str) (k:Nat),t.O.drop k=r->Rh t k=some (tw (t.O.take k) r||b)
 |[],k,h=>by rw[Rh,(I1 h).1,zn (by simp),d,ob];rfl
 |x::r,k,h=>by
  obtain⟨z,v,B,I,D⟩:=R1 h;have:=c.names;have u:t.O[k]?=Option.some x:=by
   have:=congrArg List.head? h;simpa using this
  rw[Rh,z,zp rfl,v,ob,H1f (by omega),ob,S1u _ _ (by simp;omega),ob,w1 (by omega),Z1x t c b d r (k+1) B,tw,List.take_add_one,u];show _=some (((t.O.take k).any λy=>x==y)||tw (t.O.take k++[x]) r||b);cases(t.O.take k).any λy=>x==y<;>simp
def T1u (t:A0):Ok t->Qi t=some (t.some Vk):=by
 induction t using A0.ind with
 |h t r=>
 intro b;have d:=L1q t.Of b.ofs (λx c=>r x c (b.kid c)) t.Of 0 rfl;have u:G4 t.Of=some (t.Of.any (A0.some Vk)):=by
  rw[<-Gs]at d;rw[G4,U7,d,ob,Y1i]
 rw[Qi,Gs,Z1x t b _ u t.O 0 rfl,A0.some_eq];rfl
def I1h (t:A0)(c:Ok t)(b:∀x∈t.Of,Ah x=some (x.some Vk)) :
  ∀(r:List A0) (k:Nat),t.Of.drop k=r->Ci t k=some (r.any (A0.some Vk))
 |[],k,h=>by rw[Ci,(I1 h).1,zn (by simp)];rfl
 |x::r,k,h=>by
  obtain⟨u,v,y,z,d⟩:=R1 h;have:=c.ofs;rw[Ci,u,zp rfl,v,ob,b x d,ob,w1 (by omega),I1h t c b r (k+1) y,List.any_cons];cases A0.some Vk x<;>simp
def J1h (t:A0)(u:Ok t)(b:Option Bool){i:Nat}{x:Str}(d:idx t.O (i:Int)=some x)(z:Nd t (i64.wrap ((i:Int)+1))=b) :
  ∀(r:List Str) (k:Nat),(t.O.take i).drop k=r->i<=t.O.length->Di t i k=if r.any λy=>x==y then some true else b
 |[],k,h,v=>by
  have J:=I1 h;have:i<=k:=by have:=J.2;simp at this;omega
  rw[Di,zn (by simp;omega),z];simp
 |y::r,k,h,v=>by
  obtain⟨V,c,T,I,U⟩:=R1 h;have D:k<i:=by simp at I;omega
  have:=u.names;have B:idx t.O (k:Int)=some y:=by
   unfold idx at c⊢;rw[zp (by omega)]at c⊢;rw[show((k:Int).toNat)=k from rfl,List.getElem?_take,zp D]at c;exact c
  rw[Di,zp (zqj (by omega)),d,ob,B,ob,w1 (by omega),J1h t u b d z r (k+1) T v,List.any_cons];cases x==y<;>simp
def K1h (t:A0)(c:Ok t)(b:Bool)(d:Bi t=some b) :
  ∀(r:List Str) (k:Nat),t.O.drop k=r->Nd t k=some (tw (t.O.take k) r||b)
 |[],k,h=>by rw[Nd,(I1 h).1,zn (by simp),d];rfl
 |x::r,k,h=>by
  obtain⟨z,v,D,J,I⟩:=R1 h;have:=c.names;have u:t.O[k]?=Option.some x:=by
   have:=congrArg List.head? h;simpa using this
  have B:=J1h t c _ v (by rw[w1 (by omega),K1h t c b d r (k+1) D]) (t.O.take k) 0 rfl (by omega);rw[Nd,z,zp rfl,Gs,B,tw,List.take_add_one,u];show _=some (((t.O.take k).any λy=>x==y)||tw (t.O.take k++[x]) r||b);cases(t.O.take k).any λy=>x==y<;>simp
def L1h (t:A0):Ok t->t.all X4=true->Ah t=some (t.some Vk):=by
 induction t using A0.ind with
 |h t u=>
 intro c d;rw[A0.all_eq,zqi]at d;have v:=I1h t c (λx b=>u x b (c.kid b) (A0.alls_mem d.2 b)) t.Of 0 rfl;have r:Bi t=some (t.Of.any (A0.some Vk)):=by rw[Bi,Gs,v]
 rw[Ah,Gs,K1h t c _ r t.O 0 rfl,r,A0.some_eq];cases h:t.K==3 with
 |true=>rw[zp rfl];rfl
 |false=>rw[zn (by simp),B2a d.1 h];rfl
def W16 (b:E4 t)(d:(t.K==3)=true){l:List A0}(r:∀x∈l,x∈t.Of)(v:l.length<=t.Of.length):0<=A0.cnts l/\A0.cnts l<=1056:=by
 have z:=A0.cnts_bound l λy c=>A0.cnt_ge y (b.kid (r y c));have u:=(b.recd d).1;omega
def A1y (t:A0)(b:E4 t)(c:(t.K==3)=true)(u:∀x∈t.Of,Xe x=some x.cnt) :
  ∀(r:List A0) (k:Nat) (n:Int),t.Of.drop k=r->0<=n->n+A0.cnts r<=2000->Jl t n k=some (min (n+A0.cnts r) 33)
 |[],k,n,h,_,_=>by
  rw[Jl,(I1 h).1,zn (by simp)];simp[A0.cnts]
 |x::r,k,n,h,O,D=>by
  obtain⟨I,B,d,T,v⟩:=R1 h;have:=(b.recd c).1;have U:=W16 b c (l:=r) (λy z=>List.mem_of_mem_drop (i:=k+1) (by rw[d];exact z)) (by rw[<-d];simp);have hc:=A0.cnt_le x;have J:=A0.cnt_ge x (b.kid v);simp only[A0.cnts]at D;rw[Jl,I,zp rfl,B,ob,u x v,ob,wr (n:=n+_) (by omega) (by omega),w1 (by unfold BB;omega),A1y t b c u r (k+1) _ d (by omega) (by omega)];simp only[A0.cnts,Int.add_assoc]
def U1u (t:A0):E4 t->Xe t=some t.cnt:=by
 induction t using A0.ind with
 |h t v=>
 intro d;have r:=λx b=>v x b (d.kid b);rw[Xe,A0.cnt_eq];cases h2:t.K==2 with
 |true=>
  obtain⟨x,b,B,J⟩:=d.arr h2;have u:x∈t.Of:=by rw[b];exact zqp
  have hc:=A0.cnt_le x;have c:=A0.cnt_ge x (d.kid u);have z:idx t.Of 0=some x:=by rw[b];rfl
  have I:0<=min t.E 33*x.cnt:=Int.mul_nonneg (by omega) c;have y:min t.E 33*x.cnt<=33*33:=Int.mul_le_mul (by omega) hc c (by omega);rw[zp rfl,z,ob,r x u,ob,wr (by omega) (by omega),b];rfl
 |false=>
  cases h3:t.K==3 with
  |true=>
   have D:=W16 d h3 (l:=t.Of) (λ_ h=>h) (zqr _);rw[zn (by simp),zp rfl,Gs,A1y t d h3 r t.Of 0 _ rfl (by omega) (by omega)];simp
  |false=>rfl
def V1u (t:A0)(b:E4 t)(c:(t.K==3)=true)(u:∀x∈t.Of,Vi x=some x.cnt) :
  ∀(r:List A0) (k:Nat) (n:Int),t.Of.drop k=r->0<=n->n+A0.cnts r<=2000->Pl t n k=some (min (n+A0.cnts r) 33)
 |[],k,n,h,_,_=>by
  rw[Pl,(I1 h).1,zn (by simp)];simp only[A0.cnts];by_cases hn:n>32
  ·rw[zp (zqj hn)];congr 1;omega
  ·rw[zn (by simpa using hn)];congr 1;omega
 |x::r,k,n,h,O,D=>by
  obtain⟨I,B,d,T,v⟩:=R1 h;have:=(b.recd c).1;have U:=W16 b c (l:=r) (λy z=>List.mem_of_mem_drop (i:=k+1) (by rw[d];exact z)) (by rw[<-d];simp);have hc:=A0.cnt_le x;have J:=A0.cnt_ge x (b.kid v);simp only[A0.cnts]at D;rw[Pl,I,zp rfl,B,ob,u x v,ob,wr (n:=n+_) (by omega) (by omega),w1 (by unfold BB;omega),V1u t b c u r (k+1) _ d (by omega) (by omega)];simp only[A0.cnts,Int.add_assoc]
def M1q (t:A0):E4 t->Vi t=some t.cnt:=by
 induction t using A0.ind with
 |h t B=>
 intro v;have y:=λx b=>B x b (v.kid b);have u:(t.K==2)=true->(t.K==3)=false:=λh=>by
  have:t.K=2:=by simpa using h
  rw[this];rfl
 have r:∀n:Int,(t.K==3)=false->Ol t n=some (min n 33):=λn c=>by
  rw[Ol,c,zn (by simp)];by_cases hn:n>32
  ·rw[zp (zqj hn)];congr 1;omega
  ·rw[zn (by simpa using hn)];congr 1;omega
 rw[Vi,A0.cnt_eq];cases h2:t.K==2 with
 |true=>
  obtain⟨x,b,J,U⟩:=v.arr h2;have z:x∈t.Of:=by rw[b];exact zqp
  have hc:=A0.cnt_le x;have d:=A0.cnt_ge x (v.kid z);have I:idx t.Of 0=some x:=by rw[b];rfl
  have T:0<=t.E*x.cnt:=Int.mul_nonneg (by omega) d;have D:t.E*x.cnt<=33*33:=Int.mul_le_mul (by omega) hc d (by omega);rw[zp rfl,I,ob,y x z,ob,wr (by omega) (by omega),r _ (u h2),b,show min t.E 33=t.E by omega];rfl
 |false=>
  cases c:t.K==3 with
  |true=>
   have O:=W16 v c (l:=t.Of) (λ_ h=>h) (zqr _);rw[zn (by simp),Ol,c,zp rfl,Gs,V1u t v c y t.Of 0 _ rfl (by omega) (by omega)];simp
  |false=>rw[zn (by simp),r _ c];rfl
def E21 (t:A0)(b:Ok t):Yv t=some (Jg t):=by
 unfold Yv Jg;rw[D1f t b,ob];cases h:Q9 t !=0 with
 |true=>rfl
 |false=>
  have c:=C1g (show Q9 t=0 by simpa using h);unfold L11 W1l;rw[U27 t b,T1u t b,U1u t c];cases t.some Bq<;>cases t.some Vk<;>by_cases hc:t.cnt>32<;>simp[ob,hc]
def T1w (t:A0)(b:Ok t):P11 t=some (Jg t):=by
 unfold P11 Jg;rw[X1b t b,ob];cases h:Q9 t !=0 with
 |true=>rfl
 |false=>
  have c:=C1g (show Q9 t=0 by simpa using h);unfold W1l;rw[R24 t b,L1h t b c.form,M1q t c];cases t.some Bq<;>cases t.some Vk<;>by_cases hc:t.cnt>32<;>simp[ob,hc]
def Iv (h:k<l.length):∃y,idx l (k:Int)=some y/\l.drop k=y::l.drop (k+1)/\y∈l:=by
 refine⟨l[k],?_,List.drop_eq_getElem_cons h,List.getElem_mem h⟩;unfold idx;rw[zp (by omega)];simp[h]
def C1m (s u:List Str)(c:s.length<=BB)(z:s.length=u.length):∀(r:List Str) (k:Nat),s.drop k=r->E3 s u k=some (eqL (λx y=>x==y) r (u.drop k))
 |[],k,h=>by
  rw[E3,(I1 h).1,zn (by simp),List.drop_eq_nil_of_le (by have:=(I1 h).2;omega)];rfl
 |x::r,k,h=>by
  obtain⟨d,b,D,O,I⟩:=R1 h;obtain⟨y,B,v,J⟩:=Iv (l:=u) (k:=k) (by omega);rw[E3,d,zp rfl,b,ob,B,ob,w1 (by omega),C1m s u c z r (k+1) D,v,eqL];cases x==y<;>simp
def U1w (s u:List Str)(b:s.length<=BB):S5 s u=some (eqL (λx y=>x==y) s u):=by
 unfold S5;by_cases hl:s.length=u.length
 ·rw[zn (by simp;omega),Gs,C1m s u b hl s 0 rfl];rfl
 ·rw[zp (by simp;omega),Hv _ hl]
def D1m (s u:List A0)(v:s.length<=BB)(D:s.length=u.length)(b:∀x∈s,∀y,Wo x y=some (x.same y)) :
  ∀(r:List A0) (k:Nat),s.drop k=r->I2 s u k=some (eqL A0.same r (u.drop k))
 |[],k,h=>by
  rw[I2,(I1 h).1,zn (by simp),List.drop_eq_nil_of_le (by have:=(I1 h).2;omega)];rfl
 |x::r,k,h=>by
  obtain⟨z,d,J,T,c⟩:=R1 h;obtain⟨y,I,B,O⟩:=Iv (l:=u) (k:=k) (by omega);rw[I2,z,zp rfl,d,ob,I,ob,b x c y,ob,w1 (by omega),D1m s u v D b r (k+1) J,B,eqL];cases x.same y<;>simp
def V27 (t:A0):Ok t->∀u,Wo t u=some (t.same u):=by
 induction t using A0.ind with
 |h t v=>
 intro c u;have d:=λx r=>v x r (c.kid r);have z:S3 t.Of u.Of=some (eqL A0.same t.Of u.Of):=by
  rw[S3];by_cases hl:t.Of.length=u.Of.length
  ·rw[zn (by simp;omega),Gs,D1m t.Of u.Of c.ofs hl d t.Of 0 rfl];rfl
  ·rw[zp (by simp;omega),Hv _ hl]
 rw[Wo,z,U1w _ _ c.names,A0.same_eq];generalize eqL A0.same t.Of u.Of=a;generalize eqL (λx y=>x==y) t.O u.O=b;cases t.K==u.K<;>cases t.Low==u.Low<;>cases t.H==u.H<;>cases t.E==u.E<;>cases t.Name==u.Name<;>cases b<;>cases a<;>rfl
structure Val (t:A0):Prop where
 ok:Ok t
 fine:E4 t
 nm:t.some Bq=false
 cnt:t.cnt<=32
def Val.of (b:Ok t)(h:Jg t=0):Val t/\t.some Vk=false:=by
 unfold Jg at h;cases hc:Q9 t !=0 with
 |true=>
  rw[hc]at h;simp only[zqk]at h;rw[h]at hc;cases hc
 |false=>
  rw[hc]at h;have c:=C1g (show Q9 t=0 by simpa using hc);simp only[zql,W1l]at h;cases h1:t.some Bq with
  |true=>rw[h1]at h;cases h
  |false=>
   cases h2:t.some Vk with
   |true=>rw[h1,h2]at h;cases h
   |false=>
    rw[h1,h2]at h;by_cases h3:t.cnt>32
    ·rw[zqj h3]at h;cases h
    ·exact⟨⟨b,c,h1,by omega⟩,rfl⟩
def Val.kid0 {x:A0}(h:Val t)(b:x∈t.Of)(hc:x.cnt<=32):Val x:=by
 refine⟨h.ok.kid b,h.fine.kid b,?_,hc⟩;have:=h.nm;rw[A0.some_eq,Bool.or_eq_false_iff]at this;cases hn:x.some Bq with
 |false=>rfl
 |true=>
  have c:=List.any_eq_true.2 ⟨x,b,hn⟩;rw[this.2]at c;cases c
def Val.cnt_pos (t:A0):Val t->1<=t.cnt:=by
 induction t using A0.ind with
 |h t u=>
 intro h;have hc:=h.cnt;rw[A0.cnt_eq]at hc⊢;cases h2:t.K==2 with
 |true=>
  obtain⟨x,c,I,T⟩:=h.fine.arr h2;have b:x∈t.Of:=by rw[c];exact zqp
  rw[c,h2]at hc;rw[c];simp only[zqk,A0.cnt1]at hc⊢;have B:=A0.cnt_ge x (h.fine.kid b);have d:x.cnt<=32:=by
   have:1*x.cnt<=min t.E 33*x.cnt:=Int.mul_le_mul_of_nonneg_right (by omega) B;omega
  have:=u x b (h.kid0 b d);have:1*1<=min t.E 33*x.cnt:=Int.mul_le_mul (by omega) this (by omega) (by omega);omega
 |false=>
  cases h3:t.K==3 with
  |true=>
   rw[h2,h3]at hc;simp only[zqk,zql]at hc⊢;obtain⟨D,O,v⟩:=h.fine.recd h3;cases hl:t.Of with
   |nil=>rw[hl]at v;simp at v
   |cons x r=>
    have b:x∈t.Of:=by rw[hl];exact zqp
    have J:=A0.cnts_bound r λy z=>A0.cnt_ge y (h.fine.kid (by rw[hl];exact zqq _ z));rw[hl]at hc;simp only[A0.cnts]at hc⊢;have:=u x b (h.kid0 b (by omega));omega
  |false=>show 1<=min (1:Int) 33;omega
def Val.arr {t:A0}(h:Val t)(r:(t.K==2)=true):∃x,t.Of=[x]/\1<=t.E/\t.E<=32/\Val x/\t.cnt=t.E*x.cnt:=by
 obtain⟨x,c,v,u⟩:=h.fine.arr r;have d:x∈t.Of:=by rw[c];exact zqp
 have y:=A0.cnt_ge x (h.fine.kid d);have hc:=h.cnt;have e:=A0.cnt_eq t;rw[c,r]at e;simp only[zqk,A0.cnt1]at e;rw[show min t.E 33=t.E by omega]at e;have b:x.cnt<=32:=by
  have:1*x.cnt<=t.E*x.cnt:=Int.mul_le_mul_of_nonneg_right (by omega) y;omega
 exact⟨x,c,v,u,h.kid0 d b,by omega⟩
def W1u {x:A0}:∀{l:List A0},(∀y∈l,0<=y.cnt)->x∈l->x.cnt<=A0.cnts l
 |y::r,h,c=>by
  have u:=A0.cnts_bound r λz b=>h z (zqq _ b);have d:=h y zqp;simp only[A0.cnts];cases c with
  |head=>omega
  |tail _ c=>have:=W1u (λz b=>h z (zqq _ b)) c;omega
def Val.recd {t:A0}(h:Val t)(b:(t.K==3)=true):t.Of.length=t.O.length/\t.Of.length<=32/\(∀x∈t.Of,Val x)/\t.cnt=A0.cnts t.Of:=by
 obtain⟨r,z,B⟩:=h.fine.recd b;have u:=λy d=>A0.cnt_ge y (h.fine.kid d);have hc:=h.cnt;have e:=A0.cnt_eq t;have v:(t.K==2)=false:=by
  have:t.K=3:=by simpa using b
  rw[this];rfl
 rw[v,b]at e;simp only[zqk,zql]at e;refine⟨z,r,λx c=>?_,by omega⟩;have:=W1u u c;exact h.kid0 c (by omega)
def Val.leaf (h:Val t)(u:(t.K==2)=false)(d:(t.K==3)=false):t.cnt=1/\(t.K=0\/t.K=1):=by
 have e:=A0.cnt_eq t;rw[u,d]at e;refine⟨by rw[e];rfl,?_⟩;have r:=h.nm;rw[A0.some_eq,Bool.or_eq_false_iff]at r;have c:=h.fine.here.1;unfold X4 fm1 at c;simp only[zqi]at c;have b:=c.1.1.1.1.1;cases hd:decide (t.K>=0)with
 |false=>rw[hd]at b;cases b
 |true=>
  rw[hd]at b;have z:=of_decide_eq_true hd;have v:t.K<=4:=of_decide_eq_true b;have y:t.K≠2:=by simpa using u
  have B:t.K≠3:=by simpa using d
  have x:t.K≠4:=by
   have:=r.1;unfold Bq at this;simpa using this
  omega
def rep {β:Type}(f:Nat->List β):Nat->Nat->List β
 |_,0=>[]
 |k,n+1=>f k++rep f (k+1) n
def nx (path name:Str):Str:=(path++[46])++name
mutual
def A0.sc:A0->Str->List T0
 |.mk k l h s _ ns of,path=>bif k==0 then[⟨path,true,0,1⟩]else bif k==1 then[⟨path,false,l,h⟩]else bif k==2 then A0.scA of path s.toNat else bif k==3 then A0.scR of ns path else[]
def A0.scA:List A0->Str->Nat->List T0
 |[],_,_=>[]
 |x::_,path,n=>rep (λi=>A0.sc x (nx path (Lib.decDigits i))) 0 n
def A0.scR:List A0->List Str->Str->List T0
 |x::r,n::ns,path=>A0.sc x (nx path n)++A0.scR r ns path
 |_,_,_=>[]
end
def A0.sc_eq (t:A0)(b:Str):t.sc b=bif t.K==0 then[⟨b,true,0,1⟩]else bif t.K==1 then[⟨b,false,t.Low,t.H⟩]else bif t.K==2 then A0.scA t.Of b t.E.toNat else bif t.K==3 then A0.scR t.Of t.O b else[]:=by cases t;rfl
def L1o (h:k<100):(Lib.decDigits k).length<=2:=by
 have b:∀k<10,(Lib.decDigits k).length=1:=λk c=>by rw[Lib.decDigits,dif_pos c];rfl
 rw[Lib.decDigits];split
 ·simp
 ·rw[zqc,b _ (by omega)];simp
def E2a (h:k<100):T1k (k:Int)=some (Lib.decDigits k):=by
 unfold T1k;rw[zp (zqj (by omega))];rfl
def U2b (h:k<10):Fj (k:Int)=some (Lib.decDigits k):=by
 rw[Fj,zp (zqj (by omega)),Lib.decDigits,dif_pos h];have:k=0\/k=1\/k=2\/k=3\/k=4\/k=5\/k=6\/k=7\/k=8\/k=9:=by omega
 rcases this with rfl|rfl|rfl|rfl|rfl|rfl|rfl|rfl|rfl|rfl<;>rfl
def V2b {k:Nat}(h:k<100):Fj (k:Int)=some (Lib.decDigits k):=by
 by_cases hk:k<10
 ·exact U2b hk
 ·rw[Fj,zn (by simp;omega),show Int.tdiv (k:Int) 10=((k / 10:Nat):Int)from rfl,wr (n:=((k / 10:Nat):Int)) (by omega) (by omega),U2b (by omega),ob,show Int.tmod (k:Int) 10=((k % 10:Nat):Int)from rfl,wr (n:=((k % 10:Nat):Int)+1) (by omega) (by omega)];have b:slc [48,49,50,51,52,53,54,55,56,57] ((k % 10:Nat):Int) (((k % 10:Nat):Int)+1)=some [UInt8.ofNat (48+k % 10)]:=by
   have:k % 10<10:=Nat.mod_lt _ (by omega);generalize k % 10=j at *;have:j=0\/j=1\/j=2\/j=3\/j=4\/j=5\/j=6\/j=7\/j=8\/j=9:=by omega
   rcases this with rfl|rfl|rfl|rfl|rfl|rfl|rfl|rfl|rfl|rfl<;>rfl
  have c:=L1o (k:=k / 10) (by omega);rw[b,ob,zp (zqj (by unfold maxLen;simp;omega))];congr 1;rw[Lib.decDigits.eq_1 k,dif_neg hk]
def S24 (s:Str)(h:s.length<=BB):Gn s=some s:=by
 unfold Gn B1g;unfold BB at h;rw[zp (zqj (by omega))];rfl
def Qz (path:Str)(t:A0):List T0:=bif t.K==0 then[⟨path,true,0,1⟩]else bif t.K==1 then[⟨path,false,t.Low,t.H⟩]else[]
def W27 (b:Str)(a:Int)(x:A0)(s:List T0)(d:b.length<=BB)(r:s.length<=1000):Aj b a x s=some (true,s++Qz b x):=by
 unfold Aj Qz;have c:(s.length+1)*41<=140737488355328:=by omega
 rw[S24 b d];cases x.K==0<;>cases x.K==1<;>simp[ob,c]
def B1y (b:Str)(t x:A0)(r:t.Of=[x])(D:t.E<=32)(O:b.length+t.bulk<=BB)(c:Nat)(hc:x.cnt=c)
  (v:∀(b:Str) (s:Int) (u:List T0),b.length+x.bulk<=BB->0<=s->s+c<=1000->u.length+c<=1000->A8 b x s u=some (true,s+c,u++x.sc b)) (y:∀b,(x.sc b).length=c) :
  ∀(n k:Nat) (o:Int) (l:List T0),((k+n:Nat):Int)=t.E->0<=o->o+(n*c:Nat)<=1000->l.length+n*c<=1000->
   Ja b t o l k=some (true,o+(n*c:Nat),l++rep (λi=>x.sc (nx b (Lib.decDigits i))) k n)
 |0,k,o,l,z,_,_,_=>by
  rw[Ja,zn (by simp;omega)];simp[rep]
 |n+1,k,o,l,z,B,J,I=>by
  have T:=L1o (k:=k) (by omega);have d:=A0.bulk_eq t;rw[r]at d;simp only[A0.bulks]at d;unfold BB at O;rw[Nat.add_mul,Nat.one_mul]at J I
  rw[Ja,zp (zqj (by omega)),zp (zqj (by unfold maxLen;omega)),E2a (by omega),ob,zp (zqj (by unfold maxLen;simp;omega)),r,show idx [x] 0=some x from rfl,ob,
   v _ o l (by unfold BB;simp;omega) B (by omega) (by omega),ob]
  simp only[zqf,zqa,zw];rw[w1 (by unfold BB;omega),B1y b t x r D (by unfold BB;omega) c hc v y n (k+1) _ _ (by omega) (by omega) (by omega) (by rw[zqc,y];omega)];rw[rep,Nat.add_mul,Nat.one_mul,List.append_assoc];congr 3;omega
def C1y (b:Str)(t:A0)(Y:b.length+t.bulk<=BB)(v:t.Of.length=t.O.length)(u:∀x∈t.Of,Val x)
  (B:∀x∈t.Of,∀(b:Str) (s:Int) (z:List T0),b.length+x.bulk<=BB->0<=s->s+x.cnt<=1000->z.length+x.cnt<=1000->A8 b x s z=some (true,s+x.cnt,z++x.sc b)) (D:∀x∈t.Of,∀b,((x.sc b).length:Int)=x.cnt) :
  ∀(r:List A0) (k:Nat) (o:Int) (l:List T0),t.Of.drop k=r->0<=o->o+A0.cnts r<=1000->l.length+A0.cnts r<=1000->
   Ia b t o l k=some (true,o+A0.cnts r,l++A0.scR r (t.O.drop k) b)
 |[],k,o,l,h,_,_,_=>by
  rw[Ia,(I1 h).1,zn (by simp)];simp[A0.cnts,A0.scR]
 |x::r,k,o,l,h,h0,U,h2=>by
  obtain⟨e1,e2,I,e4,c⟩:=R1 h;obtain⟨y,X,f2,f3⟩:=Iv (l:=t.O) (k:=k) (by omega);have T:=(u x c).ok;have d:t.Of.length<=BB:=by have:=A0.bulk_len t.Of;have:=A0.bulk_eq t;omega
  have hc:=Val.cnt_pos x (u x c);have hr:=A0.cnts_bound r λy J=>by have:=Val.cnt_pos y (u y (List.mem_of_mem_drop (i:=k+1) (by rw[I];exact J)));omega
  have Z:=A0.bulk_eq t;have V:=A0.bulk_kid c;have a0:=F1b f3;unfold BB at Y d;simp only[A0.cnts]at U h2
  rw[Ia,e1,zp rfl,e2,ob,zp (zqj (by unfold maxLen;omega)),X,ob,zp (zqj (by unfold maxLen;simp;omega)),
   B x c _ o l (by unfold BB;simp;omega) h0 (by omega) (by omega),ob]
  simp only[zqf,zqa,zw];have a1:=D x c ((b++[46])++y);rw[w1 (by unfold BB;omega),C1y b t (by unfold BB;omega) v u B D r (k+1) _ _ I (by omega) (by omega) (by rw[zqc];omega)];rw[f2,A0.scR,A0.cnts,List.append_assoc,Int.add_assoc];rfl
def D1y {β:Type}{f:Nat->List β}{c:Nat}(h:∀i,(f i).length=c):∀n k,(rep f k n).length=n*c
 |0,k=>by simp[rep]
 |n+1,k=>by rw[rep,zqc,h,D1y h n,Nat.add_mul];omega
def R19 (t:A0):Val t->∀b,((t.sc b).length:Int)=t.cnt:=by
 induction t using A0.ind with
 |h t T=>
 intro D b;rw[A0.sc_eq];cases v:t.K==2 with
 |true=>
  obtain⟨x,V,s1,s2,u,e⟩:=D.arr v;have hk:t.K=2:=by simpa using v
  have J:=T x (by rw[V];exact zqp) u;have a0:=Val.cnt_pos x u;rw[hk,V,e];show((A0.scA [x] b t.E.toNat).length:Int)=_;rw[A0.scA,D1y (c:=x.cnt.toNat) (λi=>by have:=J (nx b (Lib.decDigits i));omega)];rw[Int.natCast_mul,show((t.E.toNat:Nat):Int)=t.E by omega,show((x.cnt.toNat:Nat):Int)=x.cnt by omega]
 |false=>
  cases h3:t.K==3 with
  |true=>
   obtain⟨Y,r2,Z,e⟩:=D.recd h3;have hk:t.K=3:=by simpa using h3
   rw[hk,e];show((A0.scR t.Of t.O b).length:Int)=_;have z:∀(l:List A0) (d:List Str),l.length=d.length->(∀x∈l,x∈t.Of)->((A0.scR l d b).length:Int)=A0.cnts l:=by
    intro l
    induction l with
    |nil=>intro d _ _;rfl
    |cons x r B=>
     intro d U I;cases d with
     |nil=>simp at U
     |cons n d=>
      have h1:=T x (I x zqp) (Z x (I x zqp)) (nx b n);have v:=B d (by simpa using U) λy X=>I y (zqq _ X);rw[A0.scR,zqc,A0.cnts];omega
   exact z t.Of t.O Y λ_ h=>h
  |false=>
   obtain⟨e,hk⟩:=D.leaf v h3;rw[e];rcases hk with hk|hk<;>rw[hk]<;>rfl
def F2a (t:A0):Val t->∀(r:Str) (s:Int) (u:List T0),r.length+t.bulk<=BB->0<=s->s+t.cnt<=1000->u.length+t.cnt<=1000->A8 r t s u=some (true,s+t.cnt,u++t.sc r):=by
 induction t using A0.ind with
 |h t J=>
 intro B r s u O T h1 h2;have a0:=Val.cnt_pos t B;rw[A8,W27 r s t u (by omega) (by omega),ob,A0.sc_eq];show(if !true then _ else _)=_;rw[zn (by simp)];cases hk2:t.K==2 with
 |true=>
  obtain⟨x,v,U,D,y,e⟩:=B.arr hk2;have hk:t.K=2:=by simpa using hk2
  have Z:x∈t.Of:=by rw[v];exact zqp
  have Y:=Val.cnt_pos x y;obtain⟨c,hc⟩:∃c:Nat,x.cnt=c:=⟨x.cnt.toNat,by omega⟩
  have X:((t.E.toNat*c:Nat):Int)=t.cnt:=by rw[e,hc,Int.natCast_mul,show((t.E.toNat:Nat):Int)=t.E by omega]
  have:=B1y r t x v D O c hc (λp s l a b c' d=>by have:=J x Z y p s l a b (by omega) (by omega);rw[hc]at this;exact this) (λp=>by have:=R19 x y p;omega) t.E.toNat 0 s u (by omega) T (by omega) (by omega);rw[zp rfl];have z:Qz r t=[]:=by unfold Qz;rw[hk];rfl
  show Ja r t s (u++Qz r t) ((0:Nat):Int)=_;rw[z,List.append_nil,this,X,hk,v];rfl
 |false=>
  rw[zn (by simp)];cases hk3:t.K==3 with
  |true=>
   obtain⟨V,r2,I,e⟩:=B.recd hk3;have hk:t.K=3:=by simpa using hk3
   have:=C1y r t O V I (λx v=>J x v (I x v)) (λx v=>R19 x (I x v)) t.Of 0 s u rfl T (by omega) (by omega);rw[zp rfl];have z:Qz r t=[]:=by unfold Qz;rw[hk];rfl
   show Ia r t s (u++Qz r t) ((0:Nat):Int)=_;rw[z,List.append_nil,this,e,hk];rfl
  |false=>
   obtain⟨e,hk⟩:=B.leaf hk2 hk3;rw[zn (by simp),wr (by omega) (by omega),e];unfold Qz;rcases hk with hk|hk<;>rw[hk]<;>rfl
def K5 (t:A0):List T0×Int:=bif Jg t !=0 then([],Jg t)else(t.sc [],0)
def E1m (t:A0)(b:Ok t):Db t=some (K5 t):=by
 unfold Db K5;rw[E21 t b,ob];cases h:Jg t !=0 with
 |true=>rfl
 |false=>
  have c:=(Val.of b (by simpa using h)).1;have hc:=c.cnt;unfold Lw;have:=F2a t c [] 0 [] (by unfold Ok at b;simpa using b) (by omega) (by omega) (by simp;omega);rw[this,ob,zn (by simp),ob];rfl
def T24 (b:Str)(t x:A0)(r:t.Of=[x])(B:t.E<=32)(I:b.length+t.bulk<=BB)(c:Nat)
  (u:∀(b:Str),b.length+x.bulk<=BB->Hd x b=some (x.sc b)) (v:∀b,(x.sc b).length=c) :
  ∀(n k:Nat) (l:List T0),((k+n:Nat):Int)=t.E->l.length+n*c<=1000->
   Hi t b l k=some (l++rep (λi=>x.sc (nx b (Lib.decDigits i))) k n)
 |0,k,l,y,_=>by
  rw[Hi,zn (by simp;omega)];simp[rep]
 |n+1,k,l,y,z=>by
  have J:=L1o (k:=k) (by omega);have d:=A0.bulk_eq t;rw[r]at d;simp only[A0.bulks]at d;unfold BB at I;rw[Nat.add_mul,Nat.one_mul]at z;have D:=v ((b++[46])++Lib.decDigits k)
  rw[Hi,zp (zqj (by omega)),r,show idx [x] 0=some x from rfl,ob,zp (zqj (by unfold maxLen;omega)),V2b (by omega),ob,zp (zqj (by unfold maxLen;simp;omega)),
   u _ (by unfold BB;simp;omega),ob,zp (zqj (by omega)),w1 (by unfold BB;omega),T24 b t x r B (by unfold BB;omega) c u v n (k+1) _ (by omega) (by rw[zqc];omega)]
  rw[rep,List.append_assoc];rfl
def U24 (b:Str)(t:A0)(T:b.length+t.bulk<=BB)(u:t.Of.length=t.O.length)(v:∀x∈t.Of,Val x)
  (z:∀x∈t.Of,∀(b:Str),b.length+x.bulk<=BB->Hd x b=some (x.sc b)) (B:∀x∈t.Of,∀b,((x.sc b).length:Int)=x.cnt) :
  ∀(r:List A0) (k:Nat) (l:List T0),t.Of.drop k=r->l.length+A0.cnts r<=1000->
   Gi t b l k=some (l++A0.scR r (t.O.drop k) b)
 |[],k,l,h,_=>by
  rw[Gi,(I1 h).1,zn (by simp)];simp[A0.scR]
 |x::r,k,l,h,h2=>by
  obtain⟨e1,X,D,e4,d⟩:=R1 h;obtain⟨y,U,f2,Z⟩:=Iv (l:=t.O) (k:=k) (by omega);have c:t.Of.length<=BB:=by have:=A0.bulk_len t.Of;have:=A0.bulk_eq t;omega
  have hc:=Val.cnt_pos x (v x d);have hr:=A0.cnts_bound r λy I=>by have:=Val.cnt_pos y (v y (List.mem_of_mem_drop (i:=k+1) (by rw[D];exact I)));omega
  have V:=A0.bulk_eq t;have J:=A0.bulk_kid d;have Y:=F1b Z;unfold BB at T c;simp only[A0.cnts]at h2;have a0:=B x d ((b++[46])++y)
  rw[Gi,e1,zp rfl,X,ob,zp (zqj (by unfold maxLen;omega)),U,ob,zp (zqj (by unfold maxLen;simp;omega)),
   z x d _ (by unfold BB;simp;omega),ob,zp (zqj (by omega)),w1 (by unfold BB;omega),U24 b t (by unfold BB;omega) u v z B r (k+1) _ D (by rw[zqc];omega)]
  rw[f2,A0.scR,List.append_assoc];rfl
def W2b (t:A0):Val t->∀(b:Str),b.length+t.bulk<=BB->Hd t b=some (t.sc b):=by
 induction t using A0.ind with
 |h t z=>
 intro u b B;have T:=u.cnt;rw[Hd,A0.sc_eq];cases hk2:t.K==2 with
 |true=>
  obtain⟨x,d,D,v,r,e⟩:=u.arr hk2;have hk:t.K=2:=by simpa using hk2
  have O:x∈t.Of:=by rw[d];exact zqp
  have J:=Val.cnt_pos x r;obtain⟨c,hc⟩:∃c:Nat,x.cnt=c:=⟨x.cnt.toNat,by omega⟩
  have U:((t.E.toNat*c:Nat):Int)=t.cnt:=by rw[e,hc,Int.natCast_mul,show((t.E.toNat:Nat):Int)=t.E by omega]
  have:=T24 b t x d v B c (λp a=>z x O r p a) (λp=>by have:=R19 x r p;omega) t.E.toNat 0 [] (by omega) (by simp;omega);rw[Gs,this,hk,d];rfl
 |false=>
  cases hk3:t.K==3 with
  |true=>
   obtain⟨I,V,y,e⟩:=u.recd hk3;have hk:t.K=3:=by simpa using hk3
   have:=U24 b t B I y (λx d=>z x d (y x d)) (λx d=>R19 x (y x d)) t.Of 0 [] rfl (by simp;omega);rw[Gs,this,hk];rfl
  |false=>
   obtain⟨e,hk⟩:=u.leaf hk2 hk3;rcases hk with hk|hk<;>rw[hk]<;>rfl
def C18 (t:A0)(b:Ok t):Ln t=some (K5 t):=by
 unfold Ln K5;rw[T1w t b,ob];cases h:Jg t !=0 with
 |true=>rfl
 |false=>
  have c:=(Val.of b (by simpa using h)).1;rw[W2b t c [] (by unfold Ok at b;simpa using b),zn (by simp),ob];rfl
def Rng (s:T0):Prop:=-1048576<=s.Low/\s.Low<=s.H/\s.H<=1048576
def E1y {β:Type}{f:Nat->List β}{y:β}:∀{n k:Nat},y∈rep f k n->∃i,k<=i/\i<k+n/\y∈f i
 |0,k,h=>by simp[rep]at h
 |n+1,k,h=>by
  rw[rep,List.mem_append]at h;rcases h with h|h
  ·exact⟨k,zqr _,by omega,h⟩
  ·obtain⟨i,d,c,b⟩:=E1y h;exact⟨i,by omega,by omega,b⟩
def F1y {s:T0}{b:Str}:∀{l:List A0} {c:List Str},s∈A0.scR l c b->∃x n,x∈l/\n∈c/\s∈x.sc (nx b n)
 |[],c,h=>by simp[A0.scR]at h
 |x::r,[],h=>by simp[A0.scR]at h
 |x::r,n::c,h=>by
  rw[A0.scR,List.mem_append]at h;rcases h with h|h
  ·exact⟨x,n,zqp,zqp,h⟩
  ·obtain⟨y,m,v,u,d⟩:=F1y h;exact⟨y,m,zqq _ v,zqq _ u,d⟩
def G2a (t:A0):Val t->∀b,∀s∈t.sc b,Rng s:=by
 induction t using A0.ind with
 |h t z=>
 intro u b s d;rw[A0.sc_eq]at d;cases h2:t.K==2 with
 |true=>
  obtain⟨x,B,U,X,v,e⟩:=u.arr h2;have hk:t.K=2:=by simpa using h2
  rw[hk,B]at d;have c:s∈rep (λi=>x.sc (nx b (Lib.decDigits i))) 0 t.E.toNat:=d;obtain⟨i,_,_,r⟩:=E1y c;exact z x (by rw[B];exact zqp) v _ s r
 |false=>
  cases r:t.K==3 with
  |true=>
   obtain⟨T,V,I,e⟩:=u.recd r;have hk:t.K=3:=by simpa using r
   rw[hk]at d;have c:s∈A0.scR t.Of t.O b:=d;obtain⟨x,n,D,_,J⟩:=F1y c;exact z x D (I x D) _ s J
  |false=>
   obtain⟨e,hk⟩:=u.leaf h2 r;rcases hk with hk|hk
   ·rw[hk]at d;have c:s∈[(⟨b,true,0,1⟩:T0)]:=d;simp at c;subst c;unfold Rng;simp
   ·rw[hk]at d;have c:s∈[(⟨b,false,t.Low,t.H⟩:T0)]:=d;simp at c;subst c;have y:=u.fine.here.2;unfold We nm2 G3 at y;rw[hk]at y;simp at y;unfold Rng;simp only;omega
def X1u (c:Ok t):∀s∈(K5 t).1,Rng s:=by
 intro s b;unfold K5 at b;cases h:Jg t !=0 with
 |true=>rw[h]at b;simp at b
 |false=>rw[h]at b;exact G2a t (Val.of c (by simpa using h)).1 [] s b
def G1y (c:Ok t):(K5 t).1.length<=32:=by
 unfold K5;cases h:Jg t !=0 with
 |true=>simp
 |false=>
  have b:=(Val.of c (by simpa using h)).1;have r:=R19 t b [];have d:=b.cnt;simp only[zql];omega
def N1:List T0->Int->Int×Int
 |[],n=>(n,0)
 |s::r,n=>bif decide (n*(s.H-s.Low+1)>1099511627776)then(0,4)else N1 r (n*(s.H-s.Low+1))
def X2b {n s:Int}(b:0<s):decide (n>Int.tdiv 1099511627776 s)=decide (n*s>1099511627776):=by
 rw[Int.tdiv_eq_ediv_of_nonneg (by omega)];exact decide_eq_decide.2 (Int.ediv_lt_iff_lt_mul b)
def Y1u {n s:Int}(u:1<=n)(d:n<=1099511627776)(c:1<=s)(r:s<=2097153):1<=n*s/\n*s<=2305844108725321728:=by
 have a:1*1<=n*s:=Int.mul_le_mul u c (by omega) (by omega);have b:n*s<=1099511627776*2097153:=Int.mul_le_mul d r (by omega) (by omega);omega
def Z1u (b:List T0×Int)(y:b.1.length<=BB)(c:∀s∈b.1,Rng s):∀(r:List T0) (k:Nat) (n:Int),b.1.drop k=r->1<=n->n<=1099511627776->Tf n b k=some (N1 r n)
 |[],k,n,h,_,_=>by rw[Tf,(I1 h).1,zn (by simp)];rfl
 |s::r,k,n,h,u,z=>by
  obtain⟨x,v,B,J,d⟩:=R1 h;obtain⟨D,U,O⟩:=c s d;have I:=Y1u u z (s:=s.H-s.Low+1) (by omega) (by omega);have T:0<=Int.tdiv 1099511627776 (s.H-s.Low+1)/\Int.tdiv 1099511627776 (s.H-s.Low+1)<=1099511627776:=by
   rw[Int.tdiv_eq_ediv_of_nonneg (by omega)];exact⟨Int.ediv_nonneg (by omega) (by omega),Int.ediv_le_self _ (by omega)⟩
  rw[Tf,x,zp rfl,v,ob,wr (n:=s.H-s.Low) (by omega) (by omega),wr (n:=s.H-s.Low+1) (by omega) (by omega),zp (zqj (by omega)),wr (n:=Int.tdiv _ _) (by omega) (by omega),
   X2b (by omega),wr (n:=n*_) (by omega) (by omega),w1 (by omega),N1]
  by_cases hc:n*(s.H-s.Low+1)>1099511627776
  ·rw[zqj hc];rfl
  ·rw[zqs hc,zn (by simp),Z1u b y c r (k+1) _ B (by omega) (by omega)];rfl
def N1q (b:List T0×Int)(y:b.1.length<=BB)(c:∀s∈b.1,Rng s):∀(r:List T0) (k:Nat) (n:Int),b.1.drop k=r->1<=n->n<=1099511627776->Ig b n k=some (N1 r n)
 |[],k,n,h,_,_=>by rw[Ig,(I1 h).1,zn (by simp)];rfl
 |s::r,k,n,h,u,z=>by
  obtain⟨x,v,B,J,d⟩:=R1 h;obtain⟨D,T,O⟩:=c s d;have I:=Y1u u z (s:=s.H-s.Low+1) (by omega) (by omega)
  rw[Ig,x,zp rfl,v,ob,ob,wr (n:=s.H-s.Low) (by omega) (by omega),wr (n:=s.H-s.Low+1) (by omega) (by omega),
   wr (n:=n*_) (by omega) (by omega),w1 (by omega),N1]
  by_cases hc:n*(s.H-s.Low+1)>1099511627776
  ·rw[zqj hc];rfl
  ·rw[zqs hc,zn (by simp),N1q b y c r (k+1) _ B (by omega) (by omega)];rfl
def Zx (t:A0):Int×Int:=bif (K5 t).2 !=0 then(0,(K5 t).2)else N1 (K5 t).1 1
def V24 (t:A0)(b:Ok t):Ez t=some (Zx t):=by
 unfold Ez Zx;have c:=G1y b;rw[E1m t b,ob,z0,Z1u (K5 t) (by unfold BB;omega) (X1u b) _ 0 1 rfl (by omega) (by omega)];cases(K5 t).2 !=0<;>simp
def F21 (t:A0)(b:Ok t):Mz t=some (Zx t):=by
 unfold Mz Zx;have c:=G1y b;rw[C18 t b,ob,z0,N1q (K5 t) (by unfold BB;omega) (X1u b) _ 0 1 rfl (by omega) (by omega)];cases(K5 t).2 !=0<;>simp
def H1y (t:A0)(c:Ok t)(b:∀x∈t.Of,Cl x=some (x.depth:Int))(B:Nat)(z:B<=BB) :
  ∀(r:List A0) (k:Nat) (n:Nat),t.Of.drop k=r->n<=B->A0.depths r<=B->Sh t (n:Int) k=some ((max n (A0.depths r)+1:Nat):Int)
 |[],k,n,h,D,_=>by
  rw[Sh,(I1 h).1,zn (by simp),w1 (by omega)];simp[A0.depths]
 |x::r,k,n,h,D,v=>by
  obtain⟨y,u,I,J,d⟩:=R1 h;have:=c.ofs;simp only[A0.depths]at v;rw[Sh,y,zp rfl,u,ob,b x d,ob,w1 (by omega),show max (n:Int) (x.depth:Int)=((max n x.depth:Nat):Int) by omega,H1y t c b B z r (k+1) _ I (by omega) (by omega)];simp only[A0.depths];rw[show max (max n x.depth) (A0.depths r)=max n (max x.depth (A0.depths r)) by omega]
def W24 (t:A0):Ok t->Cl t=some (t.depth:Int):=by
 induction t using A0.ind with
 |h t d=>
 intro b;have u:=b.nodes;have r:=A0.depth_nodes t;rw[Cl];rw[A0.depth_eq]at r;have:=H1y t b (λx c=>d x c (b.kid c)) BB (zqr _) t.Of 0 0 rfl (by omega) (by omega);rw[A0.depth_eq];rw[show max 0 (A0.depths t.Of)=A0.depths t.Of by omega]at this;exact this
def I1f (t:A0)(c:Ok t)(b:∀x∈t.Of,Zo x=some (x.depth:Int))(B:Nat)(d:B<=BB) :
  ∀(r:List A0) (k:Nat) (n:Nat),t.Of.drop k=r->n<=B->A0.depths r<=B->Ei t (n:Int) k=some ((max n (A0.depths r)+1:Nat):Int)
 |[],k,n,h,I,_=>by
  rw[Ei,(I1 h).1,zn (by simp),w1 (by omega)];simp[A0.depths]
 |x::r,k,n,h,I,z=>by
  obtain⟨D,y,u,J,v⟩:=R1 h;have:=c.ofs;simp only[A0.depths]at z;rw[Ei,D,zp rfl,y,ob,b x v,ob,w1 (by omega),I1f t c b B d r (k+1) _ u (by omega) (by omega),I1f t c b B d r (k+1) _ u (by omega) (by omega)];simp only[A0.depths];by_cases hx:(x.depth:Int)>(n:Int)
  ·rw[zp (zqj hx),show max n (max x.depth (A0.depths r))=max x.depth (A0.depths r) by omega]
  ·rw[zn (by simpa using hx),show max n (max x.depth (A0.depths r))=max n (A0.depths r) by omega]
def G21 (t:A0):Ok t->Zo t=some (t.depth:Int):=by
 induction t using A0.ind with
 |h t d=>
 intro b;have u:=b.nodes;have r:=A0.depth_nodes t;rw[Zo];rw[A0.depth_eq]at r;have:=I1f t b (λx c=>d x c (b.kid c)) BB (zqr _) t.Of 0 0 rfl (by omega) (by omega);rw[A0.depth_eq];rw[show max 0 (A0.depths t.Of)=A0.depths t.Of by omega]at this;exact this
structure Out (t:A0):Prop where
 val:Val t
 names:t.all P9=true
 deep:t.depth<=12
def KK:Nat:=169728
def H21 {s:Str}(h:N7 s=true):s.length<=12:=by
 unfold N7 at h;by_cases hl:(s.length:Int)<=12
 ·omega
 ·rw[zqs hl]at h;simp at h
def O1q:∀{l:List Str},l.all N7=true->(l.map λs=>s.length+1).sum<=13*l.length
 |[],_=>by simp
 |s::r,h=>by
  simp only[List.all_cons,zqi]at h;have:=H21 h.1;have:=O1q h.2;simp only[List.map_cons,List.sum_cons,zqd];omega
def A1v {p:A0->Bool}(h:t.all p=true):p t=true/\∀x∈t.Of,x.all p=true:=by
 rw[A0.all_eq,zqi]at h;exact⟨h.1,λx b=>A0.alls_mem h.2 b⟩
def V1w (y:E4 t)(x:t.some Bq=false)(z:t.all P9=true):t.Name.length+(t.O.map λs=>s.length+1).sum+8<=424:=by
 obtain⟨b,_⟩:=y.here;have u:=(A1v z).1;unfold P9 at u;simp only[zqi]at u;have B:=O1q u.2;rw[A0.some_eq,Bool.or_eq_false_iff]at x;have c:(t.K==4)=false:=x.1;unfold X4 at b;simp only[zqi]at b;have r:=b.1.1.2;have v:=b.1.2;unfold fm4 at r;unfold fm5 at v;rw[c]at r;have d:t.Name=[]:=by simpa using r
 rw[d];cases hk3:t.K==3 with
 |true=>
  have:=(y.recd hk3)
  simp only[zqe];omega
 |false=>
  rw[hk3]at v;have:(t.O.length:Int)=0:=by simpa using v
  simp only[zqe];omega
def B1v {c:Nat}:∀{l:List A0} {d:Nat},(∀x∈l,(x.bulk:Int)<=c*(x.cnt*x.depth)/\1<=x.cnt/\x.depth<=d)->(A0.bulks l:Int)<=c*(A0.cnts l*d)
 |[],d,_=>by simp[A0.bulks,A0.cnts]
 |x::r,d,h=>by
  obtain⟨I,B,z⟩:=h x zqp;have D:=B1v (c:=c) (d:=d) λy b=>h y (zqq _ b);simp only[A0.bulks,A0.cnts];have u:x.cnt*(x.depth:Int)<=x.cnt*d:=Int.mul_le_mul_of_nonneg_left (by omega) (by omega);have v:(c:Int)*(x.cnt*x.depth)<=c*(x.cnt*d):=Int.mul_le_mul_of_nonneg_left u (by omega);rw[Int.add_mul,Int.mul_add];omega
def X24 (t:A0):Val t->t.all P9=true->(t.bulk:Int)<=(424:Nat)*(t.cnt*t.depth):=by
 induction t using A0.ind with
 |h t y=>
 intro r I;have hw:=V1w r.fine r.nm I;have Z:=A0.bulk_eq t;have hc:=Val.cnt_pos t r;have T:=A0.depth_eq t;have z:=(A1v I).2;have d:∀c:Int,(A0.bulks t.Of:Int)<=(424:Nat)*(c*A0.depths t.Of)->0<=c->c<=t.cnt->(t.bulk:Int)<=(424:Nat)*(t.cnt*t.depth):=λc h1 h0 U=>by
  have X:c*(A0.depths t.Of:Int)<=t.cnt*A0.depths t.Of:=Int.mul_le_mul_of_nonneg_right U (by omega);have J:t.cnt*(t.depth:Int)=t.cnt*A0.depths t.Of+t.cnt:=by rw[T,Int.natCast_add,Int.mul_add];simp
  rw[J];omega
 cases hk2:t.K==2 with
 |true=>
  obtain⟨x,b,V,s2,u,e⟩:=r.arr hk2;have B:x∈t.Of:=by rw[b];exact zqp
  have O:=Val.cnt_pos x u;have:=y x B u (z x B);refine d x.cnt ?_ (by omega) ?_
  ·rw[b];simp only[A0.bulks,A0.depths];rw[show max x.depth 0=x.depth by omega];omega
  ·rw[e];have:1*x.cnt<=t.E*x.cnt:=Int.mul_le_mul_of_nonneg_right (by omega) (by omega);omega
 |false=>
  cases hk3:t.K==3 with
  |true=>
   obtain⟨r1,r2,D,e⟩:=r.recd hk3;refine d t.cnt ?_ (by omega) (Int.le_refl _);rw[e];exact B1v λx b=>⟨y x b (D x b) (z x b),Val.cnt_pos x (D x b),A0.depth_le b⟩
  |false=>
   refine d 0 ?_ (Int.le_refl _) (by omega);have v:=r.fine.here.1;unfold X4 fm6 at v;rw[hk2,hk3]at v;simp only[zql,zqi]at v;have Y:(t.Of.length:Int)=0:=by simpa using v.2
   rw[List.eq_nil_of_length_eq_zero (by omega:t.Of.length=0)];simp[A0.bulks]
def Out.bulk {t:A0}(h:Out t):t.bulk<=KK:=by
 have r:=X24 t h.val h.names;have c:=Val.cnt_pos t h.val;have b:=h.val.cnt;have d:=h.deep;have:t.cnt*(t.depth:Int)<=32*12:=Int.mul_le_mul b (by omega) (by omega) (by omega);unfold KK;omega
mutual
def A0.rp (m:List (Str×A0)):A0->Option A0
 |.mk k l h s n ns of=>bif k==4 then mgt n m else(A0.rps m of).map λof'=>A0.mk k l h s n ns of'
def A0.rps (m:List (Str×A0)):List A0->Option (List A0)
 |[]=>Option.some []
 |x::r=>(A0.rp m x).bind λy=>(A0.rps m r).map λs=>y::s
end
def A0.rp_eq (m:List (Str×A0))(t:A0):t.rp m=bif t.K==4 then mgt t.Name m else(A0.rps m t.Of).map λb=>A0.mk t.K t.Low t.H t.E t.Name t.O b:=by cases t;rfl
def MOk (m:List (Str×A0)):Prop:=∀p∈m,Out p.2
def I1y {k:Str}{x:A0}:∀{m:List (Str×A0)},mgt k m=some x->∃k',(k',x)∈m
 |[],h=>by cases h
 |(k',y)::r,h=>by
  unfold mgt at h;cases hk:k==k' with
  |true=>rw[hk]at h;cases h;exact⟨k',zqp⟩
  |false=>rw[hk]at h;obtain⟨k2,b⟩:=I1y h;exact⟨k2,zqq _ b⟩
def MOk.get (h:MOk m){k:Str}{x:A0}(c:mgt k m=some x):Out x:=by
 obtain⟨k',b⟩:=I1y c;exact h _ b
def X27 (hm:MOk m)(t:A0):∀y,t.rp m=some y->
  (t.all X4=true->y.all X4=true)/\(t.all We=true->y.all We=true)/\(t.all P9=true->y.all P9=true)/\y.some Bq=false/\y.bulk<=t.bulk+t.nodes*KK:=by
 induction t using A0.ind with
 |h t J=>
 intro y c;rw[A0.rp_eq]at c;cases hk:t.K==4 with
 |true=>
  rw[hk]at c;have d:=hm.get c;have hb:=d.bulk;refine⟨λ_=>d.val.fine.form,λ_=>d.val.fine.num,λ_=>d.names,d.val.nm,?_⟩;rw[A0.nodes_eq,Nat.add_mul];omega
 |false=>
  rw[hk,zql]at c;obtain⟨b,d,rfl⟩:=Option.map_eq_some_iff.1 c
  have u:∀(l:List A0) (b:List A0),(∀x∈l,x∈t.Of)->A0.rps m l=some b->b.length=l.length/\(A0.alls X4 l=true->A0.alls X4 b=true)/\(A0.alls We l=true->A0.alls We b=true)/\
    (A0.alls P9 l=true->A0.alls P9 b=true)/\b.any (A0.some Bq)=false/\A0.bulks b<=A0.bulks l+A0.nodess l*KK:=by
   intro l
   induction l with
   |nil=>intro b _ h;cases h;exact⟨rfl,λh=>h,λh=>h,λh=>h,rfl,by simp[A0.bulks]⟩
   |cons x r v=>
    intro b B h;rw[A0.rps]at h;obtain⟨z,I,h2⟩:=Option.bind_eq_some_iff.1 h;obtain⟨s,hs,rfl⟩:=Option.map_eq_some_iff.1 h2;obtain⟨a1,T,Y,Z,a5⟩:=J x (B x zqp) z I;obtain⟨b0,b1,V,b3,X,b5⟩:=v s (λy c=>B y (zqq _ c)) hs;simp only[A0.alls,zqi,List.any_cons,Bool.or_eq_false_iff,A0.bulks,A0.nodess,zqd,Nat.add_mul];exact⟨by omega,λh=>⟨a1 h.1,b1 h.2⟩,λh=>⟨T h.1,V h.2⟩,λh=>⟨Y h.1,b3 h.2⟩,⟨Z,X⟩,by omega⟩
  obtain⟨D,k1,k2,k3,U,k5⟩:=u t.Of b (λ_ h=>h) d;have e1:X4 (A0.mk t.K t.Low t.H t.E t.Name t.O b)=X4 t:=by
   unfold X4 fm1 fm2 fm3 fm4 fm5 fm6;simp only[D]
  have e2:We (A0.mk t.K t.Low t.H t.E t.Name t.O b)=We t:=by
   unfold We nm1 nm2;simp only[D]
  have e3:P9 (A0.mk t.K t.Low t.H t.E t.Name t.O b)=P9 t:=rfl;simp only[A0.all_eq,zqi,e1,e2,e3,A0.some_eq,Bool.or_eq_false_iff];refine⟨λh=>⟨h.1,k1 h.2⟩,λh=>⟨h.1,k2 h.2⟩,λh=>⟨h.1,k3 h.2⟩,⟨hk,U⟩,?_⟩;rw[A0.bulk_eq,A0.bulk_eq t,A0.nodes_eq,Nat.add_mul];simp only;omega
def R28 (m:List (Str×A0))(t:A0)(c:Ok t)(x2:List Str)(b:∀x∈t.Of,C7 x m=some (x,true)) :
  ∀(r:List A0) (k:Nat) (a:List A0),t.Of.drop k=r->a.length=k->W6 m t x2 a k=some (⟨t.K,t.Low,t.H,t.E,t.Name,x2,a++r⟩,true)
 |[],k,a,h,y=>by rw[W6,(I1 h).1,zn (by simp)];simp
 |x::r,k,a,h,y=>by
  obtain⟨v,u,z,B,d⟩:=R1 h;have:=c.ofs;unfold BB at this;rw[W6,v,zp rfl,u,ob,b x d,ob];simp only[zqf,zqa,zw];rw[zp (zqj (by omega)),w1 (by unfold BB;omega),R28 m t c x2 b r (k+1) (a++[x]) z (by simp;omega)];simp
def J1y {p:A0->Bool}{l:List A0}(h:l.any p=false){x:A0}(c:x∈l):p x=false:=by
 cases hp:p x with
 |false=>rfl
 |true=>have b:=List.any_eq_true.2 ⟨x,c,hp⟩;rw[h]at b;cases b
def S28 (m:List (Str×A0))(t:A0)(c:Ok t)(d:∀x∈t.Of,C7 x m=some (x,true)):Sb m t=some (t,true):=by
 have b:=c.names;unfold BB at b;rw[Sb];unfold R8;rw[zp (zqj (by omega)),ob,Gs,R28 m t c t.O d t.Of 0 [] rfl rfl,List.nil_append];cases t;rfl
def Y2b (m:List (Str×A0))(t:A0):Ok t->t.some Bq=false->C7 t m=some (t,true):=by
 induction t using A0.ind with
 |h t r=>
 intro d c;rw[A0.some_eq,Bool.or_eq_false_iff]at c;have u:(t.K==4)=false:=c.1;rw[C7,u,zn (by simp)];exact S28 m t d λx b=>r x b (d.kid b) (J1y c.2 b)
def Y9:Option A0->A0×Bool
 |some x=>(x,true)
 |none=>(zTy,false)
 where zTy:A0:=A0.mk 0 0 0 0 [] [] []
def T28 (m:List (Str×A0))(t:A0)(c:Ok t)(x2:List Str)(b:∀x∈t.Of,C7 x m=some (Y9 (x.rp m))) :
  ∀(r:List A0) (k:Nat) (a:List A0),t.Of.drop k=r->a.length=k->W6 m t x2 a k=some (Y9 ((A0.rps m r).map λs=>⟨t.K,t.Low,t.H,t.E,t.Name,x2,a++s⟩))
 |[],k,a,h,z=>by rw[W6,(I1 h).1,zn (by simp)];simp[A0.rps,Y9]
 |x::r,k,a,h,z=>by
  obtain⟨v,u,B,D,d⟩:=R1 h;have:=c.ofs;unfold BB at this;rw[W6,v,zp rfl,u,ob,b x d,ob,A0.rps];cases hx:x.rp m with
  |none=>simp[Y9,Y9.zTy]
  |some y=>
   simp only[Y9,zqf,zqa,zw,Option.bind_some];rw[zp (zqj (by omega)),w1 (by unfold BB;omega),T28 m t c x2 b r (k+1) (a++[y]) B (by simp;omega)];cases A0.rps m r<;>simp[Y9]
def W1w (B:MOk m)(t:A0):Ok t->C7 t m=some (Y9 (t.rp m)):=by
 induction t using A0.ind with
 |h t y=>
 intro c;rw[C7,A0.rp_eq];cases hk:t.K==4 with
 |true=>
  rw[zp rfl,ob,zqk];cases hg:mgt t.Name m with
  |none=>rfl
  |some x=>
   have r:=B.get hg;have v:=r.val.ok;have:=S28 m x v λz d=>Y2b m z (v.kid d) (by
    have:=r.val.nm;rw[A0.some_eq,Bool.or_eq_false_iff]at this;exact J1y this.2 d)
   simp only[Option.isSome_some,zqf,zqa,zw,Option.getD_some];rw[this];rfl
 |false=>
  have b:=c.names;unfold BB at b;rw[zn (by simp),zql,Sb];unfold R8;rw[zp (zqj (by omega)),ob,Gs,T28 m t c t.O (λx u=>y x u (c.kid u)) t.Of 0 [] rfl rfl];simp
def dec (p:Str×A0):C0:=C0.mk 0 p.1 p.2 0 (D0.mk 0 0 [] []) [] [] []
def K1y (a b:Str):(a==b)=(b==a):=by
 rw[Bool.eq_iff_iff,beq_iff_eq,beq_iff_eq];exact⟨λh=>h.symm,λh=>h.symm⟩
def L1y (m:List (Str×A0))(d:m.length<=BB)(t:A0):∀(r:List (Str×A0)) (k:Nat),m.drop k=r->Ld (m.map dec) t k=some (Y9 (mgt t.Name r))
 |[],k,h=>by
  have h':(m.map dec).drop k=[]:=by rw[<-List.map_drop,h];rfl
  rw[Ld,(I1 h').1,zn (by simp)];rfl
 |(n,x)::r,k,h=>by
  have h':(m.map dec).drop k=dec (n,x)::r.map dec:=by rw[<-List.map_drop,h];rfl
  obtain⟨c,b,B,z,v⟩:=R1 h';obtain⟨_,_,u,y,_⟩:=R1 h;rw[Ld,c,zp rfl,b,ob,ob,w1 (by omega),L1y m d t r (k+1) u,mgt];show(if n==t.Name then some (x,true)else _)=_;rw[K1y n t.Name];cases t.Name==n<;>simp[Y9]
def M1y (m:List (Str×A0))(t:A0)(c:Ok t)(b:∀x∈t.Of,Vj (m.map dec) x=some (Y9 (x.rp m))) :
  ∀(r:List A0) (k:Nat) (a:List A0),t.Of.drop k=r->a.length=k->Ai (m.map dec) t a k=some (Y9 ((A0.rps m r).map λs=>⟨t.K,t.Low,t.H,t.E,t.Name,t.O,a++s⟩))
 |[],k,a,h,z=>by rw[Ai,(I1 h).1,zn (by simp)];simp[A0.rps,Y9]
 |x::r,k,a,h,z=>by
  obtain⟨v,u,B,D,d⟩:=R1 h;have:=c.ofs;unfold BB at this;rw[Ai,v,zp rfl,u,ob,b x d,ob,A0.rps];cases hx:x.rp m with
  |none=>simp[Y9,Y9.zTy]
  |some y=>
   simp only[Y9,zqf,zqa,zw,Option.bind_some];rw[zp (zqj (by omega)),w1 (by unfold BB;omega),M1y m t c b r (k+1) (a++[y]) B (by simp;omega)];cases A0.rps m r<;>simp[Y9]
def X1w (m:List (Str×A0))(r:m.length<=BB)(t:A0):Ok t->Vj (m.map dec) t=some (Y9 (t.rp m)):=by
 induction t using A0.ind with
 |h t d=>
 intro c;rw[Vj,A0.rp_eq,Gs,L1y m r t m 0 rfl,M1y m t c (λx b=>d x b (c.kid b)) t.Of 0 [] rfl rfl];cases t.K==4<;>simp
def An (m:List (Str×A0))(t:A0):A0×Int:=
 bif Q9 t !=0 then(Y9.zTy,Q9 t)else match t.rp m with
  |none=>(Y9.zTy,7)
  |some x=>bif x.some Vk then(Y9.zTy,8)else bif (decide ((x.depth:Int)>12)||decide (x.cnt>32))then(Y9.zTy,4)else(x,0)
def Y1w (h:Q9 t=0):t.nodes<=1024/\t.all P9=true:=by
 unfold Q9 Ul at h;by_cases h1:(t.nodes:Int)>1024
 ·rw[zqj h1]at h;simp at h
 ·refine⟨by omega,?_⟩
  revert h
  cases(bif decide ((t.nodes:Int)>1024)then true else decide ((t.depth:Int)>12))<;>cases t.all X4<;>cases t.all P9<;>simp
def M1o (u:MOk m){x:A0}(D:t.bulk<=4200000)(hc:Q9 t=0)(d:t.rp m=some x):Ok x/\E4 x/\x.some Bq=false/\x.all P9=true:=by
 obtain⟨r,z,v,B,I⟩:=X27 u t x d;have c:=C1g hc;obtain⟨y,b⟩:=Y1w hc;refine⟨?_,⟨r c.form,z c.num⟩,B,v b⟩;have:t.nodes*KK<=1024*KK:=Nat.mul_le_mul_right _ y;unfold Ok BB;unfold KK at *;omega
def Z1i (d:MOk m)(y:t.bulk<=4200000)(h:(An m t).2=0):Out (An m t).1/\(An m t).1.some Vk=false:=by
 unfold An at h⊢;cases hc:Q9 t !=0 with
 |true=>rw[hc]at h;simp only[zqk]at h;rw[h]at hc;cases hc
 |false=>
  have b:Q9 t=0:=by simpa using hc
  rw[hc]at h;simp only[zql]at h⊢;cases hx:t.rp m with
  |none=>rw[hx]at h;simp at h
  |some x=>
   rw[hx]at h;simp only at h⊢;obtain⟨u,c,r,v⟩:=M1o d y b hx;cases h2:x.some Vk with
   |true=>rw[h2]at h;simp at h
   |false=>
    rw[h2]at h;by_cases h3:(x.depth:Int)>12
    ·rw[zqj h3]at h;simp at h
    ·by_cases h4:x.cnt>32
     ·rw[zqj h4]at h;simp at h
     ·rw[zqs h3,zqs h4];exact⟨⟨⟨u,c,r,by simp only[zql,Bool.or_false];omega⟩,v,by simp only[zql,Bool.or_false];omega⟩,h2⟩
def M1h (c:MOk m)(t:A0)(u:t.bulk<=4200000):Kl t m=some (An m t):=by
 have b:Ok t:=by unfold Ok BB;omega
 unfold Kl An;rw[D1f t b,ob,W1w c t b];cases hc:Q9 t !=0 with
 |true=>rfl
 |false=>
  rw[zn (by simp),ob];cases hx:t.rp m with
  |none=>rfl
  |some x=>
   obtain⟨d,r,v,y⟩:=M1o c u (by simpa using hc) hx;simp only[Y9,zqf,zqa,zw];rw[T1u x d,W24 x d,U1u x r];simp only[ob];cases x.some Vk<;>cases decide ((x.depth:Int)>12)<;>cases h4:decide (x.cnt>32)<;>simp only[ob,zqg,zqf,zqa,zt,zw,zqk,zql,Bool.or_true,Bool.true_or,Bool.or_false,Y9.zTy,h4]
def F1m (r:MOk m)(u:m.length<=BB)(t:A0)(v:t.bulk<=4200000):Xp (m.map dec) t=some (An m t):=by
 have c:Ok t:=by unfold Ok BB;omega
 unfold Xp An;rw[X1b t c,ob,X1w m u t c];cases hc:Q9 t !=0 with
 |true=>rfl
 |false=>
  rw[zn (by simp),ob];cases hx:t.rp m with
  |none=>rfl
  |some x=>
   obtain⟨d,b,y,z⟩:=M1o r v (by simpa using hc) hx;simp only[Y9,zqf,zqa,zw];rw[L1h x d b.form,G21 x d,M1q x b];simp only[ob];cases x.some Vk<;>cases decide ((x.depth:Int)>12)<;>cases h4:decide (x.cnt>32)<;>simp only[ob,zqg,zqf,zqa,zt,zw,zqk,zql,Bool.or_true,Bool.true_or,Bool.or_false,Y9.zTy,h4]
def N1y {k:Str}{x:A0}:∀{m:List (Str×A0)},mgt k m=none->mpt k x m=m++[(k,x)]
 |[],_=>rfl
 |(k',y)::r,h=>by
  unfold mgt at h;unfold mpt;cases hk:k==k' with
  |true=>rw[hk]at h;cases h
  |false=>rw[hk]at h;rw[zql,N1y h];rfl
def Gu:List C0->List (Str×A0)->List (Str×A0)×Int
 |[],m=>(m,0)
 |d::r,m=>bif d.K !=0 then Gu r m else bif !N7 d.Name then([],7)else bif (mgt d.Name m).isSome then([],8)else
   bif (An m d.N).2 !=0 then([],(An m d.N).2)else Gu r (m++[(d.Name,(An m d.N).1)])
def DOk (ds:List C0):Prop:=ds.length<=5000000/\∀d∈ds,d.N.bulk<=4200000/\d.Name.length<=BB
def MOk.snoc (b:MOk m)(c:d.N.bulk<=4200000)(h:(An m d.N).2=0)(k:Str):MOk (m++[(k,(An m d.N).1)]):=by
 intro p hp;rw[List.mem_append]at hp;rcases hp with hp|hp
 ·exact b p hp
 ·simp at hp;subst hp;exact(Z1i b c h).1
def S19 (e:List (Str×A0)×Int)(t:A0):A0×Int:=bif e.2 !=0 then(Y9.zTy,e.2)else An e.1 t
def T19 {ds:List C0}:∀(r:List C0) (m:List (Str×A0)),(∀d∈r,d.N.bulk<=4200000)->MOk m->MOk (Gu r m).1/\(Gu r m).1.length<=m.length+r.length
 |[],m,_,b=>⟨b,by simp[Gu]⟩
 |d::r,m,v,b=>by
  have c:MOk []:=λp z=>by cases z
  have u:=λx y=>v x (zqq _ y);rw[Gu];cases d.K !=0 with
  |true=>have:=T19 (ds:=ds) r m u b;exact⟨this.1,by simp only[zqk,zqd];omega⟩
  |false=>
   cases N7 d.Name with
   |false=>exact⟨c,by simp⟩
   |true=>
    cases(mgt d.Name m).isSome with
    |true=>exact⟨c,by simp⟩
    |false=>
     cases h:(An m d.N).2 !=0 with
     |true=>exact⟨c,by simp⟩
     |false=>
      have:=T19 (ds:=ds) r _ u (b.snoc (v d zqp) (by simpa using h) d.Name);refine⟨this.1,?_⟩;have B:=this.2;simp only[zqc,zqd,zqe,zql,zqf]at B⊢;omega
def A1j (ds:List C0)(c:DOk ds)(t:A0)(v:t.bulk<=4200000):∀(r:List C0) (k:Nat) (m:List (Str×A0)),ds.drop k=r->MOk m->M9 ds t m k=some (S19 (Gu r m) t)
 |[],k,m,h,b=>by
  rw[M9,(I1 h).1,zn (by simp),M1h b t v];rfl
 |d::r,k,m,h,b=>by
  obtain⟨I,D,z,O,B⟩:=R1 h;have T:=c.1;obtain⟨x,J⟩:=c.2 d B;rw[M9,I,zp rfl,D,ob,w1 (by unfold BB;omega),A1j ds c t v r (k+1) m z b,T1p _ J,ob,Gu];cases d.K !=0 with
  |true=>rfl
  |false=>
   rw[zn (by simp),zql];cases N7 d.Name with
   |false=>rfl
   |true=>
    rw[zn (by simp),ob];cases hg:mgt d.Name m with
    |some y=>rfl
    |none=>
     rw[M1h b _ x];simp only[Option.isSome_none,zqa,zw,zqf,zql,ob];cases hc:(An m d.N).2 !=0 with
     |true=>simp only[zt,zqk,S19,hc,Y9.zTy]
     |false=>
      have u:=b.snoc x (by simpa using hc) d.Name;rw[zn (by simp),N1y hg,A1j ds c t v r (k+1) _ z u];rfl
def F3 (ds:List C0)(t:A0):A0×Int:=S19 (Gu ds []) t
def MOk.nil:MOk []:=λp b=>by cases b
def P1q (ds:List C0)(c:DOk ds)(t:A0)(b:t.bulk<=4200000):Yi ds t=some (F3 ds t):=by
 unfold Yi F3;exact A1j ds c t b ds 0 [] rfl .nil
def C1v (ds:List C0)(d:C0)(m:List (Str×A0))(z:m.length<=BB)(i:Nat)(b:Option (List C0×Int))
  (u:(Xp (m.map dec) d.N>>=λc=>if c.2 !=0 then some ([],c.2)else if decide (((m.map dec).length+1)*257<=140737488355328) then C9 ds (m.map dec++[(C0.mk 0 d.Name c.1 0 (D0.mk 0 0 [] []) [] [] [])]) (i64.wrap ((i:Int)+1))else none)=b) :
  ∀(r:List (Str×A0)) (k:Nat),m.drop k=r->Ql ds d (m.map dec) i k=if(mgt d.Name r).isSome=true then some ([],8)else b
 |[],k,h=>by
  have h':(m.map dec).drop k=[]:=by rw[<-List.map_drop,h];rfl
  rw[Ql,(I1 h').1,zn (by simp),u];rfl
 |(n,x)::r,k,h=>by
  have h':(m.map dec).drop k=dec (n,x)::r.map dec:=by rw[<-List.map_drop,h];rfl
  obtain⟨y,v,O,J,D⟩:=R1 h';obtain⟨_,_,B,I,_⟩:=R1 h;rw[Ql,y,zp rfl,v,ob,w1 (by omega),C1v ds d m z i b u r (k+1) B,mgt];show(if n==d.Name then _ else _)=_;rw[K1y n d.Name];cases d.Name==n<;>simp
def B1j (ds:List C0)(c:DOk ds):∀(r:List C0) (k:Nat) (m:List (Str×A0)),ds.drop k=r->MOk m->m.length+r.length<=5000000->C9 ds (m.map dec) k=some ((Gu r m).1.map dec,(Gu r m).2)
 |[],k,m,h,b,_=>by rw[C9,(I1 h).1,zn (by simp)];rfl
 |d::r,k,m,h,b,v=>by
  obtain⟨J,I,B,T,D⟩:=R1 h;have U:=c.1;obtain⟨z,O⟩:=c.2 d D;simp only[zqd]at v;have x:=C1v ds d m (by unfold BB;omega) k _ rfl m 0 rfl;rw[<-Gs]at x;rw[C9,J,zp rfl,I,ob,x,Aq _ O,w1 (by unfold BB;omega),F1m b (by unfold BB;omega) _ z,B1j ds c r (k+1) m B b (by omega),Gu];cases d.K !=0 with
  |true=>rfl
  |false=>
   rw[zn (by simp),zql,ob];cases N7 d.Name with
   |false=>rfl
   |true=>
    cases hg:mgt d.Name m with
    |some y=>rfl
    |none=>
     simp only[Option.isSome_none,zqa,zw,zqf,zql,ob];cases hc:(An m d.N).2 !=0 with
     |true=>rfl
     |false=>
      have u:=b.snoc z (by simpa using hc) d.Name;have:=B1j ds c r (k+1) (m++[(d.Name,(An m d.N).1)]) B u (by simp;omega);rw[List.map_append]at this;rw[zn (by simp),zp (zqj (by simp;omega)),zql];exact this
def G1m (ds:List C0)(c:DOk ds)(t:A0)(u:t.bulk<=4200000):Zt ds t=some (F3 ds t):=by
 unfold Zt Y17 F3 S19;have x:=B1j ds c ds 0 [] rfl .nil (by have:=c.1;simpa using this);have r:C9 ds [] 0=some ((Gu ds []).1.map dec,(Gu ds []).2):=x;have b:=T19 (ds:=ds) ds [] (λd h=>(c.2 d h).1) .nil;have y:=c.1;have v:=b.2;simp only[zqe]at v;rw[r,ob,F1m b.1 (by unfold BB;omega) t u];cases(Gu ds []).2 !=0<;>rfl
abbrev zT:A0:=A0.mk 0 0 0 0 [] [] []
def nT (a b:Int):A0:=A0.mk 1 a b 0 [] [] []
def ifB (b:Bool)(x y:α):(if b=true then some x else some y)=some (bif b then x else y):=by cases b<;>rfl
def ifO {b:Bool}{X Y:Option α}{x y:α}(d:b=true->X=some x)(c:b=false->Y=some y):(if b=true then X else Y)=some (bif b then x else y):=by
 cases b with
 |true=>exact d rfl
 |false=>exact c rfl
abbrev wi (n:Int):Int:=i64.wrap n
mutual
def J0.find (nm:Str):J0->Option L0
 |.mk a vs=>match mgt nm vs with
  |some v=>some v
  |none=>lkO nm a
def lkO (nm:Str):Option J0->Option L0
 |none=>none
 |some s=>s.find nm
end
def Y24 {P:Option J0->Prop}(c:P none)(u:∀a vs,P a->P (some (.mk a vs))):∀s,P s:=by
 have b:∀s:J0,P (some s):=λs=>J0.rec (motive_1:=λs=>P (some s)) (motive_2:=P) (λa vs d=>u a vs d) c (λx r=>r) s;intro s;cases s with
 |none=>exact c
 |some s=>exact b s
def Tm (s:Option J0)(nm:Str):L0×Bool:=match lkO nm s with
 |some v=>(v,true)
 |none=>(L0.mk zT false,false)
def Y27 (b:Str):∀s,C6 b s=some (Tm s b):=by
 refine Y24 ?_ ?_
 ·rw[C6];rfl
 ·intro a c d;rw[C6];simp only[Option.isNone,zqg,zt,ob];unfold Tm;simp only[lkO,J0.find];cases hm:mgt b c with
  |some v=>rfl
  |none=>
   simp only[Option.isSome,zqa,zw];exact d
def J1f (s:Option J0)(b:Str):A9 s b=some (Tm s b):=Y27 b s
def Xk (t:A0):A0×Int:=bif (bif t.K==1 then(bif decide (t.Low<(-1048576))then true else decide (t.H>1048576))else false)then(zT,3)else(t,0)
def H2a (t:A0):Wd t=some (Xk t):=ifB _ _ _
def U19 (a b:Int):I4 a b=some (nT a b):=rfl
def U28 (k:Int)(l:List A0)(c:l.length<=BB):∀(r:List A0) (i:Nat),l.drop i=r->P6 k l i=some (r.all λt=>t.K==k)
 |[],i,h=>by
  rw[P6,(I1 h).1];rfl
 |x::r,i,h=>by
  obtain⟨u,d,b,v,_⟩:=R1 h;rw[P6,u,d];simp only[zt,ob,List.all_cons];rw[w1 (by omega),U28 k l c r (i+1) b];show(if !(x.K==k) then some false else _)=_;cases x.K==k<;>rfl
def Ew (k:Int)(l:List A0)(b:l.length<=BB):T9 k l=some (l.all λt=>t.K==k):=U28 k l b l 0 rfl
def Lr (op:Int)(a b:A0):A0:=bif op==8 then nT (wi (a.Low+b.Low)) (wi (a.H+b.H))else bif op==9 then nT (wi (a.Low-b.H)) (wi (a.H-b.Low))else bif op==10 then nT (min (min (min (wi (a.Low*b.Low)) (wi (a.Low*b.H))) (wi (a.H*b.Low))) (wi (a.H*b.H))) (max (max (max (wi (a.Low*b.Low)) (wi (a.Low*b.H))) (wi (a.H*b.Low))) (wi (a.H*b.H)))else bif op==11 then(bif (bif decide (a.Low>=0)then decide (b.Low>=0)else false)then nT 0 (max a.H (wi (0-a.Low)))else nT (wi (0-max a.H (wi (0-a.Low)))) (max a.H (wi (0-a.Low))))else bif op==12 then nT (bif decide (b.Low<0)then min (wi (b.Low+1)) 0 else 0) (bif decide (b.H>0)then max (wi (b.H-1)) 0 else 0)else bif op==21 then nT (min a.Low b.Low) (min a.H b.H)else nT (max a.Low b.Low) (max a.H b.H)
def Z27 (op:Int)(a b:A0):Gf op a b=some (Lr op a b):=by
 unfold Gf Lr;cases op==8
 case true=>rfl
 cases op==9
 case true=>rfl
 cases op==10
 case true=>rfl
 cases op==11
 case true=>
  simp only[zqa,zw,zt,Zr,ob,zql,zqk];cases(bif decide (a.Low>=0)then decide (b.Low>=0)else false)<;>rfl
 cases op==12
 case true=>
  simp only[zqa,zw,zt,zql,zqk,Fh,Eh,U19,ob];cases decide (b.Low<0)<;>cases decide (b.H>0)<;>rfl
 cases op==21<;>rfl
def opT (op:Int)(k:List A0):A0×Int:=bif op==6 then(bif k.all (λt=>t.K==1)then Xk (nT (wi (0-(k.getD 0 zT).H)) (wi (0-(k.getD 0 zT).Low)))else(zT,9))else bif (op==7||op==19||op==20)then(bif k.all (λt=>t.K==0)then(zT,0)else(zT,9))else bif (op==13||op==14)then(bif (k.all (λt=>t.K==1)||k.all (λt=>t.K==0))then(zT,0)else(zT,9))else bif (op==15||op==16||op==17||op==18)then(bif k.all (λt=>t.K==1)then(zT,0)else(zT,9))else bif op==23 then(bif (k.getD 0 zT).K !=0 then(zT,9)else bif (k.drop 1).all (λt=>t.K==1)then(nT (min (k.getD 1 zT).Low (k.getD 2 zT).Low) (max (k.getD 1 zT).H (k.getD 2 zT).H),0)else bif (k.drop 1).all (λt=>t.K==0)then(zT,0)else(zT,9))else bif k.all (λt=>t.K==1)then Xk (Lr op (k.getD 0 zT) (k.getD 1 zT))else(zT,9)
def K1f (t:A0):(Wd t>>=λx=>some (x.1,x.2))=some (Xk t):=by rw[H2a];rfl
def H1m {op:Int}(h:ar op=n)(r:6<=op):(n=1/\(op=6\/op=7))\/(n=2/\8<=op/\op<=22)\/(n=3/\op=23):=by
 unfold ar at h;have e:∀k:Int,k<6->(op==k)=false:=λk u=>zqn.2 (by omega);rw[e 0 (by omega),e 1 (by omega),e 2 (by omega),e 3 (by omega),e 4 (by omega),e 5 (by omega)]at h;simp only[zql]at h;by_cases a:op=6
 ·subst a;simp at h;omega
 by_cases b:op=7
 ·subst b;simp at h;omega
 rw[zqn.2 a,zqn.2 b,zqj (show op>=8 by omega)]at h;simp only[zql,zqk]at h;by_cases c:op<=22
 ·rw[zqj c]at h;simp only[zqk]at h;omega
 ·rw[zqs c]at h;simp only[zql]at h;by_cases d:op=23
  ·subst d;simp at h;omega
  ·rw[zqn.2 d]at h;simp only[zql]at h;omega
def D1v (op:Int)(k:List A0)(h:ar op=(k.length:Int))(O:6<=op):Jh op k=some (opT op k):=by
 unfold Jh;rcases H1m h O with⟨d,rfl|rfl⟩|⟨d,U,D⟩|⟨d,rfl⟩
 ·match k,d with
  |[a],_=>
   rw[Ew _ _ (by simp[BB]),Ew _ _ (by simp[BB])];simp only[ob];unfold opT;simp only[show((6:Int)==6)=true from rfl,zt,zqk,show idx [a] 0=some a from rfl,ob,U19,K1f,List.getD_cons_zero];exact ifB _ _ _
 ·match k,d with
  |[a],_=>
   rw[Ew _ _ (by simp[BB]),Ew _ _ (by simp[BB])];simp only[ob,Tc];unfold opT;simp only[show((7:Int)==6)=false from rfl,show((7:Int)==7)=true from rfl,zqa,zw,zt,zqk,zql,Bool.true_or];exact ifB _ _ _
 ·match k,d with
  |[a,b],_=>
   rw[Ew _ _ (by simp[BB]),Ew _ _ (by simp[BB])];simp only[ob];generalize hI:[a,b].all (λt=>t.K==1)=I;generalize hB:[a,b].all (λt=>t.K==0)=B;unfold opT;simp only[hI,hB];have v:∀x:Int,x=op->(x=8\/x=9\/x=10\/x=11\/x=12\/x=13\/x=14\/x=15\/x=16\/x=17\/x=18\/x=19\/x=20\/x=21\/x=22):=λx T=>by omega
   have J:∀op,(bif I then Xk (Lr op a b)else((zT,9):A0×Int))=bif I then Xk (Lr op a b)else(zT,9):=λ_=>rfl
   rcases v op rfl with rfl|rfl|rfl|rfl|rfl|rfl|rfl|rfl|rfl|rfl|rfl|rfl|rfl|rfl|rfl<;>
    (first
     |(cases I<;>cases B<;>rfl)
     |(cases I
       ·rfl
       ·show(idx [a,b] 0>>=λy=>idx [a,b] 1>>=λu=>Gf _ y u>>=λz=>Wd z>>=λr=>some (r.1,r.2))=_;rw[show idx [a,b] 0=some a from rfl,show idx [a,b] 1=some b from rfl];simp only[ob,Z27,K1f];rfl))
 ·match k,d with
  |[a,b,c],_=>
   rw[Ew _ _ (by simp[BB]),Ew _ _ (by simp[BB])];simp only[ob];show(slc [a,b,c] 1 (([a,b,c].length:Nat):Int)>>=_)=_;rw[show slc [a,b,c] 1 (([a,b,c].length:Nat):Int)=some [b,c]from rfl];simp only[ob,show idx [a,b,c] 0=some a from rfl];rw[Ew _ _ (by simp[BB]),Ew _ _ (by simp[BB])];simp only[ob,show idx [b,c] 0=some b from rfl,show idx [b,c] 1=some c from rfl,U19];show _=some (bif a.K !=0 then(zT,9)else bif [b,c].all (λt=>t.K==1)then(nT (min b.Low c.Low) (max b.H c.H),0)else bif [b,c].all (λt=>t.K==0)then(zT,0)else(zT,9));rw[ifB ([b,c].all λt=>t.K==0),ifB ([b,c].all λt=>t.K==1),ifB (a.K !=0)]
def Rz:List Str->List A0->Str->A0×Int
 |n::ns,t::ts,nm=>bif n==nm then(t,0)else Rz ns ts nm
 |_,_,_=>(zT,7)
def T11 (t:A0)(nm:Str):A0×Int:=bif t.K !=3 then(zT,9)else Rz t.O t.Of nm
def Z24 (t:A0)(b:Str)(v:t.Of.length=t.O.length)(D:t.O.length<=BB):∀(r:List Str) (i:Nat),t.O.drop i=r->R7 t b i=some (Rz r (t.Of.drop i) b)
 |[],i,h=>by
  rw[R7,(I1 h).1];rfl
 |x::r,i,h=>by
  obtain⟨B,z,c,I,_⟩:=R1 h;obtain⟨y,d,u,_⟩:=Iv (l:=t.Of) (k:=i) (by omega);rw[R7,B,z,u];simp only[zt,ob,d];rw[w1 (by omega),Z24 t b v D r (i+1) c];exact ifB _ _ _
def I2a (t:A0)(c:Str)(d:E4 t):Ic t c=some (T11 t c):=by
 unfold Ic T11;cases hk:t.K==3 with
 |false=>
  have:(t.K !=3)=true:=by simp[bne,hk]
  rw[this];rfl
 |true=>
  have:(t.K !=3)=false:=by simp[bne,hk]
  rw[this];obtain⟨a,b,_⟩:=d.recd hk;exact Z24 t c b (by unfold BB;omega) t.O 0 rfl
def I1m {d:Str}:∀{c:List Str} {b:List A0},(∀t∈b,E4 t)->(Rz c b d).2=0->E4 (Rz c b d).1
 |[],_,_,h=>by simp[Rz]at h
 |_::_,[],_,h=>by simp[Rz]at h
 |n::c,t::b,r,h=>by
  simp only[Rz]at h⊢;cases hn:n==d with
  |true=>exact r t zqp
  |false=>
   rw[hn]at h;exact I1m (λt u=>r t (zqq _ u)) h
def E4.zT:E4 zT:=⟨rfl,rfl⟩
def E4.rng (h:E4 t)(v:(t.K==1)=true):-1048576<=t.Low/\t.Low<=t.H/\t.H<=1048576:=by
 have u:=h.here.2;simp only[We,zqi]at u;have r:=u.2;unfold nm2 G3 at r;rw[v]at r;simp only[zqk]at r;by_cases a:t.Low>=-1048576
 ·by_cases b:t.Low<=1048576
  ·by_cases c:t.H>=t.Low
   ·by_cases d:t.H<=1048576
    ·exact⟨a,c,d⟩
    ·simp[a,b,c,d]at r
   ·simp[a,b,c]at r
  ·simp[a,b]at r
 ·simp[a]at r
def E4.nT {a b:Int}(r :-1048576<=a)(d:a<=b)(c:b<=1048576):E4 (nT a b):=by
 refine⟨?_,?_⟩
 ·rfl
 ·rw[A0.all_eq];have:nm2 (Go.Proofs.YtnabbmegmkdehaaGreatDoor.nT a b)=true:=by
   show(bif G3 a (-1048576) 1048576 then G3 b a 1048576 else false)=true;unfold G3;rw[zqj (show a>=-1048576 by omega),zqj (show a<=1048576 by omega),zqj (show b>=a by omega),zqj (show b<=1048576 by omega)];rfl
  show(We (Go.Proofs.YtnabbmegmkdehaaGreatDoor.nT a b)&&true)=true;simp only[We,this,Bool.and_true];rfl
def A28 {a:Int}(h:(Xk (nT a b)).2=0):-1048576<=a/\b<=1048576/\Xk (nT a b)=(nT a b,0):=by
 unfold Xk at h⊢;have e:((nT a b).K==1)=true:=rfl;rw[e]at h⊢;simp only[zqk]at h⊢;show _/\_/\(bif (bif decide (a < -1048576)then true else decide (b>1048576))then _ else _)=_;change(bif (bif decide (a < -1048576)then true else decide (b>1048576))then((zT,3):A0×Int)else(nT a b,0)).2=0 at h;by_cases p:a < -1048576
 ·simp[p]at h
 ·by_cases q:b>1048576
  ·simp[p,q]at h
  ·refine⟨by omega,by omega,?_⟩;simp[p,q]
def L1f {a:Int}(c:a<=b)(h:(Xk (nT a b)).2=0):E4 (Xk (nT a b)).1:=by
 obtain⟨u,r,d⟩:=A28 h;rw[d];exact .nT u c r
def wis {n:Int}(h :-4611686018427387904<=n)(h':n<=4611686018427387904):wi n=n:=wr h h'
def I21 {op:Int}{a b:A0}(v:E4 a)(u:E4 b)(r:(a.K==1)=true)(d:(b.K==1)=true):∃lo c,Lr op a b=nT lo c/\lo<=c:=by
 obtain⟨D,x,B⟩:=v.rng r;obtain⟨z,y,b3⟩:=u.rng d;unfold Lr;cases op==8
 case true=>exact⟨_,_,rfl,by rw[wis (by omega) (by omega),wis (by omega) (by omega)];omega⟩
 cases op==9
 case true=>exact⟨_,_,rfl,by rw[wis (by omega) (by omega),wis (by omega) (by omega)];omega⟩
 cases op==10
 case true=>exact⟨_,_,rfl,by omega⟩
 cases op==11
 case true=>
  have e:wi (0-a.Low) = -a.Low:=by rw[wis (by omega) (by omega)];omega
  simp only[zql,zqk,e];by_cases p:a.Low>=0
  ·by_cases q:b.Low>=0
   ·rw[zqj p,zqj q];exact⟨_,_,rfl,by omega⟩
   ·rw[zqj p,zqs q];exact⟨_,_,rfl,by rw[wis (by omega) (by omega)];omega⟩
  ·rw[zqs p];exact⟨_,_,rfl,by rw[wis (by omega) (by omega)];omega⟩
 cases op==12
 case true=>
  refine⟨_,_,rfl,?_⟩;cases decide (b.Low<0)<;>cases decide (b.H>0)<;>simp only[zqk,zql]<;>omega
 cases op==21
 case true=>exact⟨_,_,rfl,by omega⟩
 exact⟨_,_,rfl,by omega⟩
def B28 {op:Int}{k:List A0}(h:ar op=(k.length:Int))(I:6<=op)(r:∀t∈k,E4 t)(d:(opT op k).2=0):E4 (opT op k).1:=by
 have zf:∀(c:Bool) {x:A0×Int},(x.2=0->E4 x.1)->(bif c then x else((zT,9):A0×Int)).2=0->E4 (bif c then x else((zT,9):A0×Int)).1:=λc x D hc=>by
  cases c with
  |true=>exact D hc
  |false=>exact absurd hc (by simp)
 unfold opT at d⊢;rcases H1m h I with⟨u,rfl|rfl⟩|⟨u,T,B⟩|⟨u,rfl⟩
 ·match k,u,r with
  |[a],_,r=>
   simp only[show((6:Int)==6)=true from rfl,zqk,List.getD_cons_zero]at d⊢;cases ha:a.K==1 with
   |false=>simp[ha]at d
   |true=>
    obtain⟨Y,J,U⟩:=(r a zqp).rng ha;simp only[List.all_cons,List.all_nil,ha,Bool.and_true,zqk]at d⊢;exact L1f (by rw[wis (by omega) (by omega),wis (by omega) (by omega)];omega) d
 ·simp only[show((7:Int)==6)=false from rfl,show((7:Int)==7)=true from rfl,zqk,zql,Bool.true_or]at d⊢;exact zf _ (λ_=>.zT) d
 ·match k,u,r with
  |[a,b],_,r=>
   rw[show(op==6)=false from zqn.2 (by omega),show(op==23)=false from zqn.2 (by omega)]at d⊢;simp only[zql]at d⊢;cases v:(op==7||op==19||op==20)with
   |true=>rw[v]at d;simp only[zqk]at d⊢;exact zf _ (λ_=>.zT) d
   |false=>
    rw[v]at d;simp only[zql]at d⊢;cases y:(op==13||op==14)with
    |true=>rw[y]at d;simp only[zqk]at d⊢;exact zf _ (λ_=>.zT) d
    |false=>
     rw[y]at d;simp only[zql]at d⊢;cases c3:(op==15||op==16||op==17||op==18)with
     |true=>rw[c3]at d;simp only[zqk]at d⊢;exact zf _ (λ_=>.zT) d
     |false=>
      rw[c3]at d;simp only[zql,List.all_cons,List.all_nil,Bool.and_true]at d⊢;cases ha:a.K==1 with
      |false=>rw[ha]at d;exact absurd d (by simp)
      |true=>
       cases hb:b.K==1 with
       |false=>rw[ha,hb]at d;exact absurd d (by simp)
       |true=>
        rw[ha,hb]at d;obtain⟨lo,V,e,z⟩:=I21 (op:=op) (r a zqp) (r b (zqq _ zqp)) ha hb;simp only[Bool.and_self,zqk,List.getD_cons_zero,List.getD_cons_succ,e]at d⊢;exact L1f z d
 ·match k,u,r with
  |[a,b,c],_,r=>
   change(bif a.K !=0 then((zT,9):A0×Int)else bif [b,c].all (λt=>t.K==1)then(nT (min b.Low c.Low) (max b.H c.H),0)else bif [b,c].all (λt=>t.K==0)then(zT,0)else(zT,9)).2=0 at d;show E4 (bif a.K !=0 then((zT,9):A0×Int)else bif [b,c].all (λt=>t.K==1)then(nT (min b.Low c.Low) (max b.H c.H),0)else bif [b,c].all (λt=>t.K==0)then(zT,0)else(zT,9)).1;cases h1:a.K !=0 with
   |true=>rw[h1]at d;exact absurd d (by simp)
   |false=>
    rw[h1]at d;simp only[zql]at d⊢;cases h2:[b,c].all (λt=>t.K==1)with
    |true=>
     simp only[List.all_cons,List.all_nil,Bool.and_true,zqi]at h2;obtain⟨X,O,b3⟩:=(r b (zqq _ zqp)).rng h2.1;obtain⟨v,y,c3⟩:=(r c (zqq _ (zqq _ zqp))).rng h2.2;exact .nT (by omega) (by omega) (by omega)
    |false=>
     rw[h2]at d;exact zf _ (λ_=>.zT) d
def Jv (σ:Str->Option L0)(o n:Int)(s:Str)(k:List A0):A0×Int:=
 bif o==0 then Xk (nT n n)
 else bif (o==1||o==2)then(zT,0)
 else bif o==3 then(match σ s with|some v=>(v.l,0)|none=>(zT,7))
 else bif o==4 then T11 (k.getD 0 zT) s
 else bif o==5 then(bif (bif (k.getD 0 zT).K !=2 then true else(k.getD 1 zT).K !=1)then(zT,9)else((k.getD 0 zT).Of.getD 0 zT,0))
 else opT o k
mutual
def D0.ty (σ:Str->Option L0):D0->A0×Int
 |.mk o n s ks=>bif (D0.tys σ ks).2 !=0 then(zT,(D0.tys σ ks).2)else Jv σ o n s (D0.tys σ ks).1
def D0.tys (σ:Str->Option L0):List D0->List A0×Int
 |[]=>([],0)
 |x::r=>bif (D0.ty σ x).2 !=0 then([],(D0.ty σ x).2)else bif (D0.tys σ r).2 !=0 then([],(D0.tys σ r).2)else((D0.ty σ x).1::(D0.tys σ r).1,0)
end
def D0.ty_eq (σ:Str->Option L0)(e:D0):e.ty σ=bif (D0.tys σ e.V).2 !=0 then(zT,(D0.tys σ e.V).2)else Jv σ e.Op e.NV e.Name (D0.tys σ e.V).1:=by cases e;simp only[D0.ty]
def O1y (σ:Str->Option L0):∀l:List D0,(D0.tys σ l).2=0->(D0.tys σ l).1.length=l.length
 |[],_=>rfl
 |x::r,h=>by
  simp only[D0.tys]at h⊢;cases h1:(D0.ty σ x).2 !=0 with
  |true=>rw[h1]at h;simp only[zqk]at h;rw[h]at h1;exact absurd h1 (by simp)
  |false=>
   rw[h1]at h;simp only[zql]at h⊢;cases h2:(D0.tys σ r).2 !=0 with
   |true=>rw[h2]at h;simp only[zqk]at h;rw[h]at h2;exact absurd h2 (by simp)
   |false=>
    simp only[zql,zqd];rw[O1y σ r (by simpa using h2)]
def E1v {σ:Str->Option L0}:∀{l:List D0},(∀x∈l,(x.ty σ).2=0->E4 (x.ty σ).1)->∀t∈(D0.tys σ l).1,E4 t
 |[],_,t,ht=>by simp[D0.tys]at ht
 |x::r,b,t,ht=>by
  simp only[D0.tys]at ht;cases h1:(D0.ty σ x).2 !=0 with
  |true=>rw[h1]at ht;simp at ht
  |false=>
   rw[h1]at ht;simp only[zql]at ht;cases h2:(D0.tys σ r).2 !=0 with
   |true=>rw[h2]at ht;simp at ht
   |false=>
    rw[h2]at ht;simp only[zql,List.mem_cons]at ht;rcases ht with rfl|ht
    ·exact b x zqp (by simpa using h1)
    ·exact E1v (λy c=>b y (zqq _ c)) t ht
def SF (σ:Str->Option L0):Prop:=∀nm v,σ nm=some v->E4 v.l
def C1j (h:ar o=n)(b:o<6):(n=0/\(o=0\/o=1\/o=2\/o=3))\/(n=1/\o=4)\/(n=2/\o=5):=by
 unfold ar at h;by_cases a0:o=0
 ·subst a0;simp at h;omega
 by_cases a1:o=1
 ·subst a1;simp at h;omega
 by_cases a2:o=2
 ·subst a2;simp at h;omega
 by_cases a3:o=3
 ·subst a3;simp at h;omega
 by_cases a4:o=4
 ·subst a4;simp at h;omega
 by_cases a5:o=5
 ·subst a5;simp at h;omega
 rw[zqn.2 a0,zqn.2 a1,zqn.2 a2,zqn.2 a3,zqn.2 a4,zqn.2 a5,
  zqn.2 (show o≠6 by omega),zqn.2 (show o≠7 by omega),zqs (show¬o>=8 by omega),zqn.2 (show o≠23 by omega)]at h
 simp only[zql]at h;omega
def J21 {σ:Str->Option L0}(z:SF σ){n:Int}{s:Str}{k:List A0}(h:ar o=(k.length:Int))(d:∀t∈k,E4 t)(c:(Jv σ o n s k).2=0):E4 (Jv σ o n s k).1:=by
 by_cases h6:o<6
 ·rcases C1j h h6 with⟨r,rfl|rfl|rfl|rfl⟩|⟨r,rfl⟩|⟨r,rfl⟩
  ·exact L1f (Int.le_refl _) c
  ·exact .zT
  ·exact .zT
  ·change(match σ s with|some v=>(v.l,(0:Int))|none=>(zT,7)).2=0 at c;show E4 (match σ s with|some v=>(v.l,(0:Int))|none=>(zT,7)).1;cases hs:σ s with
   |none=>rw[hs]at c;exact absurd c (by simp)
   |some v=>exact z s v hs
  ·match k,r,d with
   |[a],_,d=>
    change(T11 a s).2=0 at c;show E4 (T11 a s).1;have u:=d a zqp;unfold T11 at c⊢;cases h1:a.K !=3 with
    |true=>rw[h1]at c;exact absurd c (by simp)
    |false=>
     rw[h1]at c;exact I1m (λt B=>u.kid B) c
  ·match k,r,d with
   |[a,b],_,d=>
    change(bif (bif a.K !=2 then true else b.K !=1)then((zT,9):A0×Int)else(a.Of.getD 0 zT,0)).2=0 at c;show E4 (bif (bif a.K !=2 then true else b.K !=1)then((zT,9):A0×Int)else(a.Of.getD 0 zT,0)).1;have u:=d a zqp;cases h1:a.K !=2 with
    |true=>rw[h1]at c;exact absurd c (by simp)
    |false=>
     rw[h1]at c;obtain⟨x,y,_,_⟩:=u.arr (by simpa[bne]using h1);cases h2:b.K !=1 with
     |true=>rw[h2]at c;exact absurd c (by simp)
     |false=>
      simp only[zql,y,List.getD_cons_zero];exact u.kid (by rw[y];exact zqp)
 ·unfold Jv at c⊢;rw[zqn.2 (show o≠0 by omega),zqn.2 (show o≠1 by omega),zqn.2 (show o≠2 by omega),zqn.2 (show o≠3 by omega),zqn.2 (show o≠4 by omega),zqn.2 (show o≠5 by omega)]at c⊢;exact B28 h (by omega) d c
def J2a (s:Option J0)(e:D0)(k:List A0)(h:ar e.Op=(k.length:Int))(d:∀t∈k,E4 t) :
  (if e.Op==0 then I4 e.NV e.NV>>=λx2=>Wd x2>>=λx3=>some (x3.1,x3.2)else if e.Op==1 then Og s e k (e.Op==1)else Og s e k (e.Op==2)) =
   some (Jv (λJ=>lkO J s) e.Op e.NV e.Name k):=by
 have O:∀v,Og s e k v=if v=true then some (zT,0)else(if e.Op==3 then(A9 s e.Name>>=λB=>if !B.2 then some (zT,7)else some (B.1.l,0))else
   if e.Op==4 then(idx k 0>>=λU=>Ic U e.Name>>=λr=>some (r.1,r.2))else
   if e.Op==5 then(idx k 0>>=λD=>(if !(D.K !=2) then idx k 1 else some default)>>=λz=>if bif (D.K !=2)then true else(z.K !=1) then some (zT,9)else(idx k 0>>=λT=>idx T.Of 0>>=λc=>some (c,0)))else
   (Jh e.Op k>>=λu=>some (u.1,u.2))):=λv=>rfl
 unfold Jv;simp only[U19,ob,K1f,O,J1f];by_cases h6:e.Op<6
 ·rcases C1j h h6 with⟨y,ho|ho|ho|ho⟩|⟨y,ho⟩|⟨y,ho⟩
  ·rw[ho];rfl
  ·rw[ho];rfl
  ·rw[ho];rfl
  ·rw[ho];show(if !(Tm s e.Name).2 then some ((zT,7):A0×Int)else some ((Tm s e.Name).1.l,0))=some (match lkO e.Name s with|some v=>(v.l,0)|none=>(zT,7));unfold Tm;cases lkO e.Name s<;>rfl
  ·rw[ho]
   match k,y,d with
   |[a],_,d=>
    show(Ic a e.Name>>=λr=>some (r.1,r.2))=some (T11 a e.Name);rw[I2a a e.Name (d a zqp)];rfl
  ·rw[ho]
   match k,y,d with
   |[a,b],_,d=>
    have V:=d a zqp;show((if !(a.K !=2) then some b else some default)>>=λz=>if bif (a.K !=2)then true else(z.K !=1) then some ((zT,9):A0×Int)else(idx a.Of 0>>=λc=>some (c,0)))=some (bif (bif a.K !=2 then true else b.K !=1)then(zT,9)else(a.Of.getD 0 zT,0));cases h1:a.K !=2 with
    |true=>rfl
    |false=>
     obtain⟨x,I,_,_⟩:=V.arr (by simpa[bne]using h1);rw[I];simp only[zqg,zt,ob,zql];cases h2:b.K !=1<;>rfl
 ·have f:∀n:Int,n<6->(e.Op==n)=false:=λn y=>zqn.2 (by omega);rw[f 0 (by omega),f 1 (by omega),f 2 (by omega),f 3 (by omega),f 4 (by omega),f 5 (by omega),D1v e.Op k h (by omega)];rfl
def A25 (s:Option J0)(e:D0)(B:OkE e)(v:A3 e=true)
  (z:∀x∈e.V,M6 s x=some (x.ty λb=>lkO b s)/\((x.ty λb=>lkO b s).2=0->E4 (x.ty λb=>lkO b s).1)) :
  ∀(r:List D0) (i:Nat) (k:List A0),e.V.drop i=r->k.length=i/\i<=e.V.length->(∀t∈k,E4 t)->
   Pg s e k i=some (bif (D0.tys (λb=>lkO b s) r).2 !=0 then(zT,(D0.tys (λb=>lkO b s) r).2)else Jv (λb=>lkO b s) e.Op e.NV e.Name (k++(D0.tys (λb=>lkO b s) r).1))
 |[],i,k,h,D,d=>by
  obtain⟨u,c⟩:=I1 h;rw[Pg,u];have X:k.length=e.V.length:=by omega
  have y:ar e.Op=(k.length:Int):=by
   simp only[A3,zqi]at v;have:=v.1.1.1;unfold ef1 at this;rw[X];simpa using this
  simp only[zqa,zw,D0.tys,List.append_nil];exact J2a s e k y d
 |x::r,i,k,h,D,d=>by
  obtain⟨u,c,T,Z,U⟩:=R1 h;obtain⟨O,J⟩:=z x U;have Y:=B.kids;rw[Pg,u,c];simp only[zt,ob,O,D0.tys];cases hc:(x.ty λb=>lkO b s).2 !=0 with
  |true=>simp only[zt,zqk,hc]
  |false=>
   have I:(x.ty λb=>lkO b s).2=0:=by simpa using hc
   rw[zqj (show(k.length+1)*97<=140737488355328 by unfold BB at Y;omega)];simp only[zqa,zw,zt,zql];rw[w1 (by omega),A25 s e B v z r (i+1) (k++[(x.ty λb=>lkO b s).1]) T ⟨by simp[D.1],by omega⟩ (λt ht=>by
    rcases List.mem_append.1 ht with ht|ht
    ·exact d t ht
    ·simp at ht;subst ht;exact J I)]
   cases c:(D0.tys (λb=>lkO b s) r).2 !=0 with
   |true=>simp only[zqk,c]
   |false=>simp only[zql,List.append_assoc,List.singleton_append];rfl
def P1y (s:Option J0)(B:SF λb=>lkO b s)(e:D0):OkE e->e.all A3=true->M6 s e=some (e.ty λb=>lkO b s)/\((e.ty λb=>lkO b s).2=0->E4 (e.ty λb=>lkO b s).1):=by
 refine D0.ind (P:=λe=>OkE e->e.all A3=true->M6 s e=some (e.ty λb=>lkO b s)/\((e.ty λb=>lkO b s).2=0->E4 (e.ty λb=>lkO b s).1)) ?_ e;intro e y v u;rw[D0.all_eq,zqi]at u;have r:∀x∈e.V,M6 s x=some (x.ty λb=>lkO b s)/\((x.ty λb=>lkO b s).2=0->E4 (x.ty λb=>lkO b s).1):=λx d=>y x d (v.kid d) (D0.alls_mem u.2 d);have D:=v.kids;refine⟨?_,λc=>?_⟩
 ·rw[M6,zqj (show 0<=((e.V.length:Nat):Int)/\((e.V.length:Nat):Int).toNat*97<=140737488355328 by unfold BB at D;rw[Int.toNat_natCast];omega),zp rfl];have:=A25 s e v u.1 r e.V 0 [] rfl ⟨rfl,Nat.zero_le _⟩ (λt z=>by cases z);rw[D0.ty_eq];exact this
 ·rw[D0.ty_eq]at c⊢;cases hc:(D0.tys (λb=>lkO b s) e.V).2 !=0 with
  |true=>rw[hc]at c;simp only[zqk]at c;rw[c]at hc;exact absurd hc (by simp)
  |false=>
   rw[hc]at c;simp only[zql]at c⊢;refine J21 B ?_ (E1v λx d=>(r x d).2) c;rw[O1y _ _ (by simpa using hc)];have:=u.1;simp only[A3,zqi]at this;simpa[ef1]using this.1.1.1
def okz:Ok zT:=by unfold Ok;simp only[A0.bulk_eq,A0.bulks,BB];decide
def okn (a b:Int):Ok (nT a b):=by unfold Ok nT;simp only[A0.bulk_eq,A0.bulks,BB];decide
def FO (t:A0):Prop:=E4 t/\Ok t
def FO.z:FO zT:=⟨.zT,okz⟩
def K2a (b:MOk m)(c:t.bulk<=4200000):FO (An m t).1:=by
 by_cases h:(An m t).2=0
 ·have:=(Z1i b c h).1.val;exact⟨this.fine,this.ok⟩
 ·have:(An m t).1=zT:=by
   unfold An at h⊢;cases hc:Q9 t !=0 with
   |true=>rfl
   |false=>
    rw[hc]at h;simp only[zql]at h⊢;cases hx:t.rp m with
    |none=>rfl
    |some x=>
     rw[hx]at h;simp only at h⊢;cases h2:x.some Vk with
     |true=>rfl
     |false=>
      rw[h2]at h;simp only[zql]at h⊢;cases h3:(decide ((x.depth:Int)>12)||decide (x.cnt>32))with
      |true=>rfl
      |false=>rw[h3]at h;exact absurd rfl h
  rw[this];exact .z
def Yk {ds:List C0}(c:DOk ds)(b:t.bulk<=4200000):FO (F3 ds t).1:=by
 unfold F3 S19;cases(Gu ds []).2 !=0 with
 |true=>exact .z
 |false=>exact K2a (T19 (ds:=ds) ds [] (λd h=>(c.2 d h).1) .nil).1 b
def DOk.take {ds:List C0}(h:DOk ds)(i:Nat):DOk (ds.take i):=⟨by have:=h.1;simp;omega,λd b=>h.2 d (List.mem_of_mem_take b)⟩
structure CkP (p:I0):Prop where
 okp:OkP p
 dok:DOk p.Decls
 small:∀d∈p.Decls,d.N.bulk<=4200000/\(∀v∈d.P,v.N.bulk<=4200000)/\(∀v∈d.Vars,v.N.bulk<=4200000)
 dform:C0.alls dform p.Decls=true
 sform:E0.alls sform p.Body=true
 dnumb:C0.alls dnumb p.Decls=true
 snumb:E0.alls snumb p.Body=true
def F1v {n d:Int}{f m u:Bool}(h:Ul n d f m u=0):f=false/\u=false:=by
 unfold Ul at h;generalize(bif decide (n>1024)then true else decide (d>12))=q at h;cases q<;>cases f<;>cases m<;>cases u<;>simp at h⊢
def CkP.of (y:p.bulk<=4200000)(hc:Dw p=0):CkP p:=by
 have x:=F1v hc;simp only[Bool.not_eq_false',zqi]at x;obtain⟨⟨I,D⟩,B,z⟩:=x;have b:C0.bulks p.Decls<=4200000:=by cases p;simp only[I0.bulk]at y;simp only;omega
 have r:∀{l:List C0} {d:C0},d∈l->C0.bulks l<=4200000->d.N.bulk<=4200000/\d.Name.length<=4200000/\C0.bulks d.P<=4200000/\C0.bulks d.Vars<=4200000:=λ{l d} c hl=>by
  have O:=C0.bulk_mem c;have J:=C0.bulk_eq d;omega
 refine⟨B1m y,⟨by have:=C0.bulk_len p.Decls;omega,λd c=>?_⟩,λd c=>?_,I,D,B,z⟩
 ·have:=r c b;exact⟨this.1,by unfold BB;omega⟩
 ·have:=r c b;exact⟨this.1,λv u=>(r u this.2.2.1).1,λv u=>(r u this.2.2.2).1⟩
def CkP.dec (h:CkP p)(v:d∈p.Decls):Go.Proofs.YtnabbmegmkdehaaGreatDoor.dform d=true/\Go.Proofs.YtnabbmegmkdehaaGreatDoor.dnumb d=true:=by
 have c:∀{q:C0->Bool} {l:List C0},C0.alls q l=true->d∈l->q d=true:=by
  intro q l
  induction l with
  |nil=>intro _ b;cases b
  |cons x r y=>
   intro u b;simp only[C0.alls,zqi]at u;cases b with
   |head=>rw[C0.all_eq,zqi]at u;exact u.1.1
   |tail _ b=>exact y u.2 b
 exact⟨c h.dform v,c h.dnumb v⟩
def D1j (h:CkP c.p)(b:i<=c.p.Decls.length)(d:t.bulk<=4200000):W7 c t i=some (F3 (c.p.Decls.take i) t):=by
 unfold W7;rw[H1f b,ob,P1q _ (h.dok.take i) t d];rfl
def Sz (h:CkP c.p)(b:i<=c.p.Decls.length)(d:t.bulk<=4200000):V4 c t i=some (F3 (c.p.Decls.take i) t).1:=by
 unfold V4;rw[D1j h b d];rfl
def SO (s:Option J0):Prop:=∀nm v,lkO nm s=some v->FO v.l
def SO.f (h:SO s):SF λb=>lkO b s:=λb v e=>(h b v e).1
def MF (m:List (Str×L0)):Prop:=∀q∈m,FO q.2.l
def B25 {α:Type}{k:Str}{x:α}:∀{m:List (Str×α)},mgt k m=some x->∃k',(k',x)∈m
 |[],h=>by cases h
 |(k',y)::r,h=>by
  simp only[mgt]at h;cases hk:k==k' with
  |true=>rw[hk]at h;cases h;exact⟨k',zqp⟩
  |false=>rw[hk]at h;obtain⟨q,b⟩:=B25 h;exact⟨q,zqq _ b⟩
def MF.put {m:List (Str×L0)}(h:MF m)(k:Str){x:L0}(b:FO x.l):MF (mpt k x m):=by
 induction m with
 |nil=>intro q hq;simp[mpt]at hq;subst hq;exact b
 |cons p r c=>
  obtain⟨k',y⟩:=p;intro q hq;simp only[mpt]at hq;cases hk:k==k' with
  |true=>
   rw[hk]at hq;rcases List.mem_cons.1 hq with rfl|hq
   ·exact b
   ·exact h q (zqq _ hq)
  |false=>
   rw[hk]at hq;rcases List.mem_cons.1 hq with rfl|hq
   ·exact h _ zqp
   ·exact c (λq hq=>h q (zqq _ hq)) q hq
def SO.ext (h:SO s){m:List (Str×L0)}(c:MF m):SO (some (.mk s m)):=by
 intro b v e;simp only[lkO,J0.find]at e;cases hg:mgt b m with
 |some y=>rw[hg]at e;cases e;obtain⟨k',d⟩:=B25 hg;exact c _ d
 |none=>rw[hg]at e;exact h b v e
def SO.none:SO none:=λb v e=>by simp[lkO]at e
def G1v {r:Str}:∀{c:List Str} {b:List A0},(∀t∈b,Ok t)->Ok (Rz c b r).1
 |[],_,_=>okz
 |_::_,[],_=>okz
 |n::c,t::b,d=>by
  simp only[Rz];cases n==r with
  |true=>exact d t zqp
  |false=>exact G1v λt u=>d t (zqq _ u)
def Q1q (op:Int)(a b:A0):∃lo c,Lr op a b=nT lo c:=by
 unfold Lr;cases op==8<;>cases op==9<;>cases op==10<;>cases op==11<;>cases op==12<;>cases op==21<;>cases(bif decide (a.Low>=0)then decide (b.Low>=0)else false)<;>exact⟨_,_,rfl⟩
def E1j (a b:Int):Ok (Xk (nT a b)).1:=by
 unfold Xk;cases(bif (nT a b).K==1 then(bif decide ((nT a b).Low<(-1048576))then true else decide ((nT a b).H>1048576))else false)with
 |true=>exact okz
 |false=>exact okn _ _
def Yc {c:Bool}{x y:A0×Int}(d:Ok x.1)(b:Ok y.1):Ok (bif c then x else y).1:=by cases c;exact b;exact d
def Z2b (op:Int)(k:List A0):Ok (opT op k).1:=by
 obtain⟨lo,b,e⟩:=Q1q op (k.getD 0 zT) (k.getD 1 zT);unfold opT;rw[e];refine Yc (Yc (E1j _ _) okz) (Yc (Yc okz okz) (Yc (Yc okz okz) (Yc (Yc okz okz) (Yc (Yc okz (Yc (okn _ _) (Yc okz okz))) (Yc (E1j _ _) okz)))))
def Q1y {l:List A0}(h:∀t∈l,Ok t)(i:Nat):Ok (l.getD i zT):=by
 unfold List.getD;cases hx:l[i]? with
 |none=>exact okz
 |some x=>exact h x (List.mem_of_getElem? hx)
def C28 {σ:Str->Option L0}(d:∀u v,σ u=some v->Ok v.l)(o n:Int)(s:Str){k:List A0}(r:∀t∈k,Ok t):Ok (Jv σ o n s k).1:=by
 have b:=Q1y r 0;unfold Jv;refine Yc (E1j _ _) (Yc okz (Yc ?_ (Yc ?_ (Yc (Yc okz ?_) (Z2b _ _)))))
 ·cases hs:σ s with
  |none=>exact okz
  |some v=>exact d s v hs
 ·unfold T11;exact Yc okz (G1v λt c=>b.kid c)
 ·exact Q1y (λt c=>b.kid c) 0
mutual
def V28 {σ:Str->Option L0}(b:∀d v,σ d=some v->Ok v.l):∀e:D0,Ok (e.ty σ).1
 |.mk o n s c=>by
  simp only[D0.ty];exact Yc okz (C28 b o n s (C25 b c))
def C25 {σ:Str->Option L0}(b:∀u v,σ u=some v->Ok v.l):∀(l:List D0),∀t∈(D0.tys σ l).1,Ok t
 |[],t,ht=>by simp[D0.tys]at ht
 |x::r,t,ht=>by
  have d:=V28 b x;have c:=C25 b r;simp only[D0.tys]at ht;cases c1:(D0.ty σ x).2 !=0 with
  |true=>rw[c1]at ht;simp at ht
  |false=>
   rw[c1]at ht;simp only[zql]at ht;cases c2:(D0.tys σ r).2 !=0 with
   |true=>rw[c2]at ht;simp at ht
   |false=>
    rw[c2]at ht;simp only[zql,List.mem_cons]at ht;rcases ht with rfl|ht
    ·exact d
    ·exact c t ht
end
abbrev tyS (s:Option J0)(e:D0):A0×Int:=e.ty λnm=>lkO nm s
def D25 (h:SO s)(e:D0):Ok (tyS s e).1:=V28 (λb v c=>(h b v c).2) e
def J1m (h:SO s)(b:OkE e)(c:e.all A3=true):M6 s e=some (tyS s e):=(P1y s h.f e b c).1
def scT (t:A0):Bool:=bif t.K==0 then true else t.K==1
def J1b (a b:A0)(place:Bool):Bool:=bif (bif scT a then true else scT b)then a.K==b.K else(bif place then a.same b else false)
def H1v {a:A0}(d:Ok a)(b:A0)(c:Bool):Jb a b c=some (J1b a b c):=by
 unfold Jb J1b;rw[show Ga a=some (scT a)from rfl,ob];cases scT a with
 |true=>rfl
 |false=>
  rw[show(if !false then Ga b else some default)=some (scT b)from rfl,ob];cases scT b with
  |true=>rfl
  |false=>
   cases c with
   |false=>rfl
   |true=>
    simp only[zql,zqa,zw,zt];rw[V27 a d b];rfl
def plE (e:D0):Bool:=bif (bif (e.Op==3)then true else(e.Op==4))then true else(e.Op==5)
def O15 (s:Option J0)(e:D0)(to:A0):Int:=bif (bif (tyS s e).2==0 then !J1b (tyS s e).1 to (plE e)else false)then 9 else(tyS s e).2
def K1m (h:SO s)(c:OkE e)(d:e.all A3=true)(b:A0):Jf s e b=some (O15 s e b):=by
 unfold Jf O15;rw[J1m h c d,ob];cases hc:(tyS s e).2==0 with
 |false=>rfl
 |true=>
  rw[show(if true=true then Qv e else some default)=some (plE e)from rfl,ob,zp rfl,H1v (D25 h e),ob];exact ifB _ _ _
structure F1j (c:P0)(n:Nat):Prop where
 p:CkP c.p
 at_:c.Kf=n
 le:n<=c.p.Decls.length
def R1q {x:E0}(h:sform x=true):(uPl x.S=true->x.I.all A3=true)/\(uVa x.S=true->x.Value.all A3=true)/\D0.alls A3 x.B=true:=by
 unfold sform at h;simp only[zqi]at h;obtain⟨⟨⟨⟨⟨⟨⟨⟨⟨⟨⟨_,d⟩,_⟩,c⟩,_⟩,_⟩,r⟩,_⟩,_⟩,_⟩,_⟩,_⟩:=h;refine⟨λb=>?_,λb=>?_,r⟩
 ·rw[b]at d;exact d
 ·rw[b]at c;exact c
def R1y (h:SO s)(b:OkE e)(c:e.all A3=true):Lh s e=some (bif (bif (tyS s e).2==0 then(tyS s e).1.K !=0 else false)then 9 else(tyS s e).2):=by
 unfold Lh;rw[J1m h b c,ob];exact ifB _ _ _
structure WfS (l:List E0):Prop where
 ok:OkS l
 form:E0.alls sform l=true
 numb:E0.alls snumb l=true
def Ro {q:E0->Bool}{x:E0}:∀{l:List E0},E0.alls q l=true->x∈l->q x=true/\E0.alls q x.Then=true/\E0.alls q x.Else=true
 |y::r,h,b=>by
  simp only[E0.alls,zqi]at h;cases b with
  |head=>have:=h.1;rw[E0.all_eq,zqi,zqi]at this;exact this
  |tail _ b=>exact Ro h.2 b
def WfS.kids {l:List E0}(h:WfS l){x:E0}(c:x∈l):WfS x.Then/\WfS x.Else:=by
 have a:=Ro h.form c;have b:=Ro h.numb c;have o:=h.ok.mem c;exact⟨⟨o.thens,a.2.1,b.2.1⟩,o.elses,a.2.2,b.2.2⟩
def I1v {x:E0}(h:snumb x=true)(r:x.S=7):E4 (nT x.Low x.H):=by
 unfold snumb at h;simp only[zqi]at h;have c:=h.2;unfold Eu at c;rw[r]at c;simp only[show((7:Int)==4)=false from rfl,show((7:Int)==6)=false from rfl,show((7:Int)==7)=true from rfl,zql,zqk,G3]at c;by_cases a:x.Low>=-1048576
 ·by_cases b:x.H>=x.Low
  ·by_cases d:x.H<=1048576
   ·exact .nT a b d
   ·simp[a,b,d]at c
  ·simp[a,b]at c
 ·simp[a]at c
def inK (d:C0):Bool:=bif (bif (d.K==1)then true else(d.K==2))then true else(d.K==3)
def inM (ds:List C0)(vs:Bool):List C0->Nat->List (Str×L0)->List (Str×L0)
 |[],_,m=>m
 |d::r,k,m=>inM ds vs r (k+1) (bif (bif inK d then true else(bif vs then(d.K==4)else false))then mpt d.Name ⟨(F3 (ds.take k) d.N).1,inK d⟩ m else m)
def G1j {c:P0}(hc:CkP c.p){i:Nat}(u:i<=c.p.Decls.length)(vs:Bool)(b:List (Str×L0)×Option J0) :
  ∀(r:List C0) (k:Nat) (m:List (Str×L0)),(c.p.Decls.take i).drop k=r->M4 c vs m b (c.p.Decls.take i) k=some (some (.mk b.2 (inM c.p.Decls vs r k m)))
 |[],k,m,h=>by
  rw[M4,(I1 h).1];rfl
 |d::r,k,m,h=>by
  obtain⟨B,y,v,z,D⟩:=R1 h;have I:=hc.okp.decls.len;have x:k<=c.p.Decls.length:=by simp at z;omega
  rw[M4,B,y];simp only[zt,ob,inM];rw[Sz hc x (hc.small d (List.mem_of_mem_take D)).1];simp only[ob];rw[w1 (by omega)];show(if bif inK d then true else(bif vs then(d.K==4)else false) then _ else _)=_;cases(bif inK d then true else(bif vs then(d.K==4)else false))with
  |true=>exact G1j hc u vs b r (k+1) _ v
  |false=>exact G1j hc u vs b r (k+1) m v
def inS (p:I0)(i:Nat)(vs:Bool):Option J0:=some (.mk none (inM p.Decls vs (p.Decls.take i) 0 []))
def S1q (hc:CkP c.p)(b:i<=c.p.Decls.length)(vs:Bool):Ha c i vs=some (inS c.p i vs):=by
 unfold Ha;rw[show Q7 none=some ([],none)from rfl,ob,H1f b,ob];exact G1j hc b vs ([],none) (c.p.Decls.take i) 0 [] rfl
def E25 {p:I0}(u:CkP p)(vs:Bool):∀(r:List C0) (k:Nat) (m:List (Str×L0)),(∀d∈r,d∈p.Decls)->MF m->MF (inM p.Decls vs r k m)
 |[],_,_,_,b=>b
 |d::r,k,m,v,b=>by
  simp only[inM];refine E25 u vs r (k+1) _ (λd c=>v d (zqq _ c)) ?_;cases(bif inK d then true else(bif vs then(d.K==4)else false))with
  |true=>exact b.put _ (Yk (u.dok.take k) (u.small d (v d zqp)).1)
  |false=>exact b
def L1m (r:CkP p)(i:Nat)(vs:Bool):SO (inS p i vs):=
 SO.none.ext (E25 r vs _ 0 [] (λd b=>List.mem_of_mem_take b) λq c=>by cases c)
def J1v (c:Ok t):(K5 t).1.length<=BB:=by
 unfold K5;cases hc:Jg t !=0 with
 |true=>exact Nat.zero_le _
 |false=>
  have b:=(Val.of c (by simpa using hc)).1;have r:=R19 t b [];have d:=b.cnt;simp only[zql];unfold BB;omega
def V8 (kind:Int)(nm:Str):List C0->Nat->Option Nat
 |[],_=>none
 |d::r,k=>bif (bif (d.K==kind)then(d.Name==nm)else false)then some k else V8 kind nm r (k+1)
def K1b:Option Nat->Int
 |none=>-1
 |some j=>(j:Int)
def F25 (b:Int)(name:Str)(l:List C0)(v:l.length<=BB):∀(r:List C0) (k:Nat),l.drop k=r->D6 b name l k=some (K1b (V8 b name r k))
 |[],k,h=>by
  rw[D6,(I1 h).1];rfl
 |d::r,k,h=>by
  obtain⟨c,x,u,y,_⟩:=R1 h;rw[D6,c,x];simp only[zt,ob,V8];cases(bif (d.K==b)then(d.Name==name)else false)with
  |true=>rfl
  |false=>
   simp only[zqa,zw];rw[w1 (by omega)];exact F25 b name l v r (k+1) u
def M1m {b:Int}{c:Str}{l:List C0}:∀{r:List C0} {k j:Nat},l.drop k=r->V8 b c r k=some j->∃d,l[j]?=some d/\(d.K==b)=true/\(d.Name==c)=true
 |[],k,j,_,h=>by cases h
 |d::r,k,j,u,h=>by
  obtain⟨_,x,v,y,_⟩:=R1 u;simp only[V8]at h;cases hc:(bif (d.K==b)then(d.Name==c)else false)with
  |true=>
   rw[hc]at h;cases h;refine⟨d,by simpa using Dn x,?_⟩;cases h5:d.K==b with
   |true=>rw[h5]at hc;exact⟨rfl,hc⟩
   |false=>rw[h5]at hc;cases hc
  |false=>rw[hc]at h;exact M1m v h
def P15 {u:Str}{ds:List C0}{j:Nat}(h:V8 b u (ds.take n) 0=some j):j<n/\j<ds.length/\idx ds (j:Int)=some (ds.getD j default)/\ds.getD j default∈ds/\((ds.getD j default).K==b)=true/\((ds.getD j default).Name==u)=true:=by
 obtain⟨d,c,z,y⟩:=M1m (l:=ds.take n) (k:=0) rfl h;have B:=(zqu.1 c).1;rw[List.getElem?_take]at c;have r:j<n/\j<ds.length:=by simp at B;omega
 rw[zp r.1]at c;have e:ds.getD j default=d:=by simp[List.getD,c]
 obtain⟨x,v,_,D⟩:=Iv (l:=ds) r.2;have:ds[j]?=some x:=by simpa using Dn v
 rw[this]at c;cases c;rw[e];exact⟨r.1,r.2,v,D,z,y⟩
def S1y (h:F1j c n)(b:Int)(name:Str):Uc c b name c.Kf=some (K1b (V8 b name (c.p.Decls.take n) 0)):=by
 unfold Uc;have d:=h.p.okp.decls.len;rw[h.at_,H1f h.le,ob];exact F25 b name _ (by simp;omega) _ 0 rfl
mutual
def D0.root:D0->Str
 |.mk o _ s ks=>bif o==3 then s else D0.roots s ks
def D0.roots:Str->List D0->Str
 |s,[]=>s
 |_,x::_=>D0.root x
end
def L2a:∀e:D0,Tb e=some e.root:=by
 intro e
 induction e using D0.ind with
 |h e b=>
 rw[Tb];obtain⟨o,n,s,c⟩:=e;simp only[D0.root];cases ho:o==3 with
 |true=>simp only[bne,ho];rfl
 |false=>
  simp only[bne,ho];cases c with
  |nil=>rfl
  |cons x r=>
   rw[zqj (show(((x::r).length:Nat):Int)>0 by simp),show idx (x::r) 0=some x from rfl,ob];exact b x zqp
def Bn (s:Option J0)(e:D0):A0×Int:=bif (tyS s e).2 !=0 then(zT,(tyS s e).2)else bif (Tm s e.root).1.fixed then(zT,15)else((tyS s e).1,0)
def K1v (h:SO s)(b:OkE e)(c:e.all A3=true):Th s e=some (Bn s e):=by
 unfold Th Bn;rw[J1m h b c,ob,show S10 e=Tb e from rfl,L2a,ob,J1f,ob];exact ifO (λ_=>rfl) λ_=>ifB _ _ _
def Ys (s:Option J0)(e:D0):Int:=bif (bif (tyS s e).2==0 then(tyS s e).1.K !=0 else false)then 9 else(tyS s e).2
def K21 (s:Option J0)(e:D0):Int:=bif (bif (tyS s e).2==0 then !scT (tyS s e).1 else false)then 9 else(tyS s e).2
def asS (s:Option J0)(pl va:D0):Int:=bif (Bn s pl).2 !=0 then(Bn s pl).2 else O15 s va (Bn s pl).1
def M1f (ds:List C0)(s:Option J0)(z:Int):List D0->List C0->Int
 |a::q,v::vs=>bif O15 s a (F3 ds v.N).1 !=0 then O15 s a (F3 ds v.N).1 else M1f ds s z q vs
 |_,_=>z
def N1m (ds:List C0)(s:Option J0)(t:A0)(ar:List D0)(d:C0):Int:=bif (ar.length:Int)!=(d.P.length:Int)then 2 else M1f ds s (bif !J1b (F3 ds d.N).1 t true then 9 else 0) ar d.P
def X16 (ds:List C0)(n:Nat)(s:Option J0)(pl:D0)(nm:Str)(ar:List D0):Int:=
 bif (Bn s pl).2 !=0 then(Bn s pl).2 else match V8 6 nm (ds.take n) 0 with
  |none=>7
  |some j=>N1m (ds.take j) s (Bn s pl).1 ar (ds.getD j default)
def N1o (ds:List C0)(n:Nat)(loc:Bool)(s:Option J0)(pl:D0)(nm:Str):Int:=
 bif (Bn s pl).2 !=0 then(Bn s pl).2 else bif loc then 15 else match V8 5 nm (ds.take n) 0 with
  |none=>7
  |some j=>bif !J1b (F3 (ds.take j) (ds.getD j default).N).1 (Bn s pl).1 false then 9 else 0
def K9 (ds:List C0)(nm:Str):Bool:=ds.any λd=>d.Name==nm
def Y16 (s:Option J0)(nm:Str)(lo hi:Int):Option J0:=some (.mk s [(nm,⟨nT lo hi,true⟩)])
mutual
def E0.st (ds:List C0)(n:Nat)(loc:Bool):E0->Option J0->Bool->Int
 |.mk v pl va nm ar _ lo hi _ th el,s,last=>
  bif v==0 then asS s pl va else bif v==1 then X16 ds n s pl nm ar else bif v==2 then N1o ds n loc s pl nm else bif v==3 then K21 s va
  else bif v==5 then(bif Ys s va !=0 then Ys s va else bif E0.sts ds n loc th s false !=0 then E0.sts ds n loc th s false else E0.sts ds n loc el s false)
  else bif v==6 then(bif Ys s va !=0 then Ys s va else E0.sts ds n loc th s false)
  else bif v==7 then(bif (bif K9 ds nm then true else(Tm s nm).2)then 8 else E0.sts ds n loc th (Y16 s nm lo hi) false)
  else bif v==8 then(bif !last then 15 else 0)else 0
def E0.sts (ds:List C0)(n:Nat)(loc:Bool):List E0->Option J0->Bool->Int
 |[],_,_=>0
 |x::r,s,top=>bif E0.st ds n loc x s (bif top then r.isEmpty else false)!=0 then E0.st ds n loc x s (bif top then r.isEmpty else false)else E0.sts ds n loc r s top
end
def E0.st_eq (ds:List C0)(n:Nat)(b:Bool)(x:E0)(s:Option J0)(c:Bool):x.st ds n b s c =
  bif x.S==0 then asS s x.I x.Value else bif x.S==1 then X16 ds n s x.I x.Name x.B else bif x.S==2 then N1o ds n b s x.I x.Name else bif x.S==3 then K21 s x.Value
  else bif x.S==5 then(bif Ys s x.Value !=0 then Ys s x.Value else bif E0.sts ds n b x.Then s false !=0 then E0.sts ds n b x.Then s false else E0.sts ds n b x.Else s false)
  else bif x.S==6 then(bif Ys s x.Value !=0 then Ys s x.Value else E0.sts ds n b x.Then s false)
  else bif x.S==7 then(bif (bif K9 ds x.Name then true else(Tm s x.Name).2)then 8 else E0.sts ds n b x.Then (Y16 s x.Name x.Low x.H) false)
  else bif x.S==8 then(bif !c then 15 else 0)else 0:=by cases x;simp only[E0.st]
def M2a (hc:F1j c n)(O:SO s){x:E0}(u:Ox x)(Y:x.I.all A3=true)(ha:D0.alls A3 x.B=true):Ri c s x=some (X16 c.p.Decls n s x.I x.Name x.B):=by
 unfold Ri X16;rw[K1v O u.place Y,ob,S1y hc,ob];refine ifO (λ_=>rfl) λ_=>?_;cases hf:V8 6 x.Name (c.p.Decls.take n) 0 with
 |none=>rfl
 |some j=>
  obtain⟨_,hj,J,z,_,_⟩:=P15 hf;show _=some (N1m (c.p.Decls.take j) s (Bn s x.I).1 x.B (c.p.Decls.getD j default));generalize c.p.Decls.getD j default=d at J z⊢;rw[show K1b (some j)=(j:Int)from rfl,zqs (by omega),J];simp only[zqa,zw,ob];unfold N1m;refine ifO (λ_=>rfl) λU=>?_;have V:x.B.length=d.P.length:=by
   have:(x.B.length:Int)=(d.P.length:Int):=by simpa[bne]using U
   omega
  obtain⟨b,y,_⟩:=hc.p.small d z;have r:∀(q:List D0) (k:Nat),x.B.drop k=q->E6 c s x (Bn s x.I) d j k=some (M1f (c.p.Decls.take j) s (bif !J1b (F3 (c.p.Decls.take j) d.N).1 (Bn s x.I).1 true then 9 else 0) q (d.P.drop k)):=by
   intro q
   induction q with
   |nil=>
    intro k h;rw[E6,(I1 h).1];simp only[zqa,zw,M1f];rw[Sz hc.p (by omega) b,ob,H1v (Yk (hc.p.dok.take j) b).2,ob];exact ifB _ _ _
   |cons a q T=>
    intro k h;obtain⟨e1,e2,X,e4,D⟩:=R1 h;obtain⟨v,Z,v2,v3⟩:=Iv (l:=d.P) (k:=k) (by omega);rw[E6,e1,e2,v2];simp only[zt,ob,Z,M1f];rw[Sz hc.p (by omega) (y v v3),ob,K1m O (u.arg a D) (D0.alls_mem ha D),ob];have:=u.args;rw[w1 (by omega)];exact ifO (λ_=>rfl) λ_=>T (k+1) X
  exact r x.B 0 rfl
def L21 (hc:F1j c n)(u:SO s){x:E0}(d:Ox x)(y:x.I.all A3=true):Se c s x=some (N1o c.p.Decls n c.w s x.I x.Name):=by
 unfold Se N1o;rw[K1v u d.place y,ob,S1y hc,ob];refine ifO (λ_=>rfl) λ_=>ifO (λ_=>rfl) λ_=>?_;cases hf:V8 5 x.Name (c.p.Decls.take n) 0 with
 |none=>rfl
 |some j=>
  obtain⟨_,z,v,r,_,_⟩:=P15 hf;have b:=(hc.p.small _ r).1;rw[show K1b (some j)=(j:Int)from rfl,zqs (by omega),v];simp only[zqa,zw,ob];rw[Sz hc.p (by omega) b,ob,H1v (Yk (hc.p.dok.take j) b).2,ob];exact ifB _ _ _
def O1o (c:P0):Prop:=∀nm,(mgt nm c.names).getD ebool.zero=K9 c.p.Decls nm
def SEq (c:P0)(n:Nat)(l:List E0):Prop:=WfS l->∀s,SO s->∀top,P3 c s l top=some (E0.sts c.p.Decls n c.w l s top)
def N2a (hc:F1j c n)(D:O1o c)(b:SO s){x:E0}(r:Ox x)(O:sform x=true)(J:snumb x=true)(v:WfS x.Then/\WfS x.Else)(u:SEq c n x.Then/\SEq c n x.Else)(d:Bool):Si c s x d=some (x.st c.p.Decls n c.w s d):=by
 obtain⟨z,y,u3⟩:=R1q O;rw[Si,E0.st_eq];refine ifO (λh=>?_) λ_=>ifO (λh=>?_) λ_=>ifO (λh=>?_) λ_=>ifO (λh=>?_) λ_=>ifO (λh=>?_) λ_=>ifO (λh=>?_) λ_=>ifO (λh=>?_) λ_=>ifO (λ_=>ifB _ _ _) λ_=>rfl
 ·have e:x.S=0:=by simpa using h
  unfold asS;rw[K1v b r.place (z (by rw[e];rfl)),ob,K1m b r.value (y (by rw[e];rfl)),ob];exact ifB _ _ _
 ·have e:x.S=1:=by simpa using h
  rw[M2a hc b r (z (by rw[e];rfl)) u3,ob]
 ·have e:x.S=2:=by simpa using h
  rw[L21 hc b r (z (by rw[e];rfl)),ob]
 ·have e:x.S=3:=by simpa using h
  unfold K21;rw[J1m b r.value (y (by rw[e];rfl)),ob];cases(tyS s x.Value).2==0 with
  |false=>rfl
  |true=>exact ifB _ _ _
 ·have e:x.S=5:=by simpa using h
  rw[R1y b r.value (y (by rw[e];rfl)),ob,u.1 v.1 s b,ob,u.2 v.2 s b,ob];exact ifO (λ_=>rfl) λ_=>ifO (λ_=>rfl) λ_=>rfl
 ·have e:x.S=6:=by simpa using h
  rw[R1y b r.value (y (by rw[e];rfl)),ob,u.1 v.1 s b,ob];exact ifO (λ_=>rfl) λ_=>rfl
 ·have e:x.S=7:=by simpa using h
  rw[Xo,ob,D];have T:(if !K9 c.p.Decls x.Name then Qm s x.Name else some default)=some (bif K9 c.p.Decls x.Name then default else(Tm s x.Name).2):=by
   unfold Qm;rw[J1f,ob];cases K9 c.p.Decls x.Name<;>rfl
  rw[T,ob,show Q7 s=some ([],s)from rfl,ob,U19,ob,ob];show(((if bif K9 c.p.Decls x.Name then true else(bif K9 c.p.Decls x.Name then default else(Tm s x.Name).2) then some 8 else(P3 c (Y16 s x.Name x.Low x.H) x.Then false>>=λU=>some U))>>=λB=>some B)=_);rw[u.1 v.1 (Y16 s x.Name x.Low x.H) (b.ext (m:=[(x.Name,⟨nT x.Low x.H,true⟩)]) λq I=>by rw[List.mem_singleton.1 I];exact⟨I1v J e,okn _ _⟩) false,ob];cases K9 c.p.Decls x.Name with
  |true=>rfl
  |false=>cases(Tm s x.Name).2<;>rfl
def W28 {r:List α}{x:α}(h:l.drop k=x::r)(c:l.length<=BB):((k:Int)==i64.wrap ((l.length:Int)-1))=r.isEmpty:=by
 obtain⟨_,_,d,u,_⟩:=R1 h;rw[wr (by unfold BB at c;omega) (by unfold BB at c;omega)];have b:l.length=k+1+r.length:=by
  have:=congrArg List.length d;simp at this;omega
 cases r with
 |nil=>simp at b;rw[b];simp
 |cons y q=>simp at b;rw[b];simp;omega
def L1v {c:P0}{n:Nat}(hc:F1j c n)(z:O1o c){l:List E0}(d:WfS l)(v:∀x∈l,SEq c n x.Then/\SEq c n x.Else){s:Option J0}(y:SO s)(b:Bool) :
  ∀(r:List E0) (k:Nat),l.drop k=r->D7 c s l b k=some (E0.sts c.p.Decls n c.w r s b)
 |[],k,h=>by
  rw[D7,(I1 h).1];rfl
 |x::r,k,h=>by
  obtain⟨J,I,B,O,u⟩:=R1 h;have D:=d.ok.len;rw[D7,J,I];simp only[zt,ob,E0.sts];rw[W28 h D,N2a hc z y (d.ok.mem u) (Ro d.form u).1 (Ro d.numb u).1 (d.kids u) (v x u),ob,w1 (by omega)];exact ifO (λ_=>rfl) λ_=>L1v hc z d v y b r (k+1) B
def M1v (hc:F1j c n)(u:O1o c)(l:List E0):SEq c n l:=by
 refine E0.inds (Q:=SEq c n) (λl r d s v b=>?_) l;rw[P3];exact L1v hc u d r v b l 0 rfl
def fnM (ds:List C0):List C0->List (Str×L0)->List (Str×L0)×Int
 |[],m=>(m,0)
 |v::r,m=>bif (F3 ds v.N).2 !=0 then([],(F3 ds v.N).2)else fnM ds r (mpt v.Name ⟨(F3 ds v.N).1,false⟩ m)
def O1m (ds b:List C0):∀(a:List C0) (m:List (Str×L0)),fnM ds (a++b) m=bif (fnM ds a m).2 !=0 then([],(fnM ds a m).2)else fnM ds b (fnM ds a m).1
 |[],m=>rfl
 |v::r,m=>by
  simp only[List.cons_append,fnM];cases hc:(F3 ds v.N).2 !=0 with
  |true=>simp only[zqk,hc]
  |false=>exact O1m ds b r _
def N1v {ds:List C0}(c:DOk ds):∀{l:List C0} {m:List (Str×L0)},(∀v∈l,v.N.bulk<=4200000)->MF m->MF (fnM ds l m).1
 |[],m,_,b=>b
 |v::r,m,d,b=>by
  simp only[fnM];cases(F3 ds v.N).2 !=0 with
  |true=>exact λq x=>by cases x
  |false=>exact N1v c (λw u=>d w (zqq _ u)) (b.put _ (Yk c (d v zqp)))
def fnS (ds:List C0)(i:Nat)(d:C0)(res:A0):Int:=bif (fnM (ds.take i) (d.P++d.Vars) []).2 !=0 then(fnM (ds.take i) (d.P++d.Vars) []).2 else bif E0.sts ds i true d.Body (some (.mk none (fnM (ds.take i) (d.P++d.Vars) []).1)) false !=0 then E0.sts ds i true d.Body (some (.mk none (fnM (ds.take i) (d.P++d.Vars) []).1)) false else O15 (some (.mk none (fnM (ds.take i) (d.P++d.Vars) []).1)) d.Value res
def Z1w (hc:CkP c.p)(hN:O1o c)(hi:i<c.p.Decls.length)(b:A0)(g1:idx c.p.Decls i=some d)(U:d∈c.p.Decls)(J:d.K=6):Cd c i b=some (fnS c.p.Decls i d b):=by
 obtain⟨a0,x,B⟩:=hc.small d U;have I:=hc.okp.decls.mem U;obtain⟨D,T⟩:=hc.dec U;unfold Cd;rw[g1,ob,show Q7 none=some ([],none)from rfl,ob];have X:E0.alls sform d.Body=true/\d.Value.all A3=true:=by
  unfold dform at D;simp only[zqi]at D;refine⟨D.2,?_⟩;have:=D.1.1.1.1.1.2;rw[show uV2 d.K=true by rw[J];rfl]at this;exact this
 have bn:E0.alls snumb d.Body=true:=by
  unfold dnumb at T;simp only[zqi]at T;exact T.2
 have z:∀m,MF m->M3 c i b d m ([],none) (2:Nat)=some (bif E0.sts c.p.Decls i true d.Body (some (.mk none m)) false !=0 then E0.sts c.p.Decls i true d.Body (some (.mk none m)) false else O15 (some (.mk none m)) d.Value b):=λm hm=>by
  rw[M3,show decide (((2:Nat):Int)<(([d.P,d.Vars]).length:Int))=false from rfl];simp only[zqa,zw,ob];have Z:SO (some (.mk none m)):=SO.none.ext hm;have O:F1j (P0.mk c.p i true c.names) i:=⟨hc,rfl,by simp only;omega⟩
  rw[M1v O hN d.Body ⟨I.body,X.1,bn⟩ _ Z false,ob,K1m Z I.value X.2,ob];exact ifO (λ_=>rfl) λ_=>rfl
 have u:∀(l:List C0),(∀v∈l,v.N.bulk<=4200000)->l.length<=BB->∀(v:Nat),v<=5->
   ∀(r:List C0) (k:Nat) (m:List (Str×L0)),l.drop k=r->A6 c i b d m ([],none) v l k=if (fnM (c.p.Decls.take i) r m).2 !=0 then some (fnM (c.p.Decls.take i) r m).2 else M3 c i b d (fnM (c.p.Decls.take i) r m).1 ([],none) ((v+1:Nat):Int):=by
  intro l hl hb v hv r
  induction r with
  |nil=>
   intro k m h;rw[A6,(I1 h).1];simp only[zqa,zw];rw[w1 (by unfold BB;omega)];rfl
  |cons y r ih=>
   intro k m h;obtain⟨e1,e2,e3,e4,e5⟩:=R1 h;rw[A6,e1,e2];simp only[zt,ob,fnM];rw[D1j hc (by omega) (hl y e5),ob,w1 (by omega)];by_cases hz:((F3 (c.p.Decls.take i) y.N).2 !=0)=true
   ·simp only[zt,zqk,hz]
   ·simp only[Bool.not_eq_true]at hz;simp only[hz,zqa,zw,zql];exact ih (k+1) _ e3
 rw[show(0:Int)=((0:Nat):Int)from rfl,M3,show decide (((0:Nat):Int)<(([d.P,d.Vars]).length:Int))=true from rfl,show idx [d.P,d.Vars] ((0:Nat):Int)=some d.P from rfl];simp only[zt,ob];have Y:=u d.P x I.params.len 0 (by omega) d.P 0 [] rfl;rw[show((0:Nat):Int)=0 from rfl]at Y⊢;rw[Y];unfold fnS;rw[O1m];cases hz:(fnM (c.p.Decls.take i) d.P []).2 !=0 with
 |true=>simp only[zt,zqk,hz]
 |false=>
  simp only[zqa,zw,zql];rw[M3,show decide (((0+1:Nat):Int)<(([d.P,d.Vars]).length:Int))=true from rfl,show idx [d.P,d.Vars] ((0+1:Nat):Int)=some d.Vars from rfl];simp only[zt,ob];have V:=u d.Vars B I.vars.len 1 (by omega) d.Vars 0 (fnM (c.p.Decls.take i) d.P []).1 rfl;rw[show((0:Nat):Int)=0 from rfl]at V
  rw[show((0+1:Nat):Int)=((1:Nat):Int)from rfl,V,show((1+1:Nat):Int)=((2:Nat):Int)from rfl,
   z _ (N1v (hc.dok.take i) B (N1v (hc.dok.take i) x λq hq=>by cases hq))]
  exact ifO (λ_=>rfl) λ_=>rfl
def Um (p:I0)(i:Nat)(d:C0):Int:=bif (F3 (p.Decls.take i) d.N).2 !=0 then(F3 (p.Decls.take i) d.N).2 else bif d.K==5 then(bif !scT (F3 (p.Decls.take i) d.N).1 then 9 else O15 (inS p i false) d.Value (F3 (p.Decls.take i) d.N).1)else bif d.K==6 then fnS p.Decls i d (F3 (p.Decls.take i) d.N).1 else 0
def O2a (hc:CkP c.p)(B:O1o c)(y:i<c.p.Decls.length)(v:idx c.p.Decls i=some d)(b:d∈c.p.Decls):Ti c i=some (Um c.p i d):=by
 have r:=(hc.small d b).1;obtain⟨u,I⟩:=hc.dec b;unfold Ti Um;rw[v,ob,D1j hc (by omega) r,ob];refine ifO (λ_=>rfl) λ_=>ifO (λD=>?_) λ_=>ifO (λz=>?_) λ_=>rfl
 ·have e:d.K=5:=by simpa using D
  rw[show Ga (F3 (List.take i c.p.Decls) d.N).1=some (scT (F3 (List.take i c.p.Decls) d.N).1)from rfl,ob];refine ifO (λ_=>rfl) λ_=>?_;have x:d.Value.all A3=true:=by
   unfold dform at u;simp only[zqi]at u;have:=u.1.1.1.1.1.2;rw[show uV2 d.K=true by rw[e];rfl]at this;exact this
  rw[S1q hc (by omega),ob,K1m (L1m hc i false) (hc.okp.decls.mem b).value x,ob]
 ·have e:d.K=6:=by simpa using z
  rw[Z1w hc B y _ v b e,ob]
def C11 {α:Type}(k k':Str)(x:α):∀m:List (Str×α),mgt k (mpt k' x m)=bif k==k' then some x else mgt k m
 |[]=>rfl
 |(a,y)::r=>by
  simp only[mpt];cases h1:k'==a with
  |true=>
   have e:k'=a:=eq_of_beq h1;subst e;simp only[zqk,mgt];cases k==k'<;>rfl
  |false=>
   simp only[zql,mgt];rw[C11 k k' x r];cases h2:k==a with
   |false=>rfl
   |true=>
    have e:k=a:=eq_of_beq h2;subst e;have:(k==k')=false:=by
     rw[zqn]at h1⊢;exact λh=>h1 h.symm
    rw[this];rfl
def Sn (m:List (Str×Bool))(seen:List Str):Prop:=∀nm,(mgt nm m).getD ebool.zero=seen.any λy=>y==nm
def Sn.nil:Sn [] []:=λb=>rfl
def H1j (a b:Str):(a==b)=(b==a):=by
 cases h:b==a with
 |true=>rw[eq_of_beq h];exact zqm a
 |false=>rw[zqn]at h⊢;exact λe=>h e.symm
def Sn.put {m:List (Str×Bool)}{b:List Str}(h:Sn m b)(x:Str):Sn (mpt x true m) (x::b):=λc=>by
 rw[C11,List.any_cons,H1j c x];cases x==c with
 |true=>rfl
 |false=>exact h c
def Tz (ds:List C0):List C0->List Str->Bool
 |[],_=>false
 |v::r,seen=>bif (bif K9 ds v.Name then true else seen.any λy=>y==v.Name)then true else Tz ds r (v.Name::seen)
def Km (ds:List C0):List C0->List Str->Nat->Int
 |[],_,_=>-1
 |d::r,seen,k=>bif seen.any (λy=>y==d.Name)then(k:Int)else bif Tz ds (d.P++d.Vars) []then(k:Int)else Km ds r (d.Name::seen) (k+1)
def A2c (hc:OkP c.p)(Z:O1o c):Ac c=some (Km c.p.Decls c.p.Decls [] 0):=by
 have hl:=hc.decls.len;have I:∀(r:List C0) (k:Nat) (m:List (Str×Bool)) (b:List Str),c.p.Decls.drop k=r->Sn m b->O4 c m k=some (Km c.p.Decls r b k):=by
  intro r
  induction r with
  |nil=>
   intro k m b h V;rw[O4,(I1 h).1];rfl
  |cons d r Y=>
   intro k m b h V;obtain⟨e1,e2,e3,e4,e5⟩:=R1 h;have X:=hc.decls.mem e5;rw[O4,e1,e2];simp only[zt,ob,Km];rw[V d.Name];refine ifO (λ_=>rfl) λ_=>?_;have J:∀u,Y2 c (mpt d.Name true m) u k k d (2:Nat)=some (Km c.p.Decls r (d.Name::b) (k+1)):=λu=>by
    rw[Y2,show decide (((2:Nat):Int)<(([d.P,d.Vars]).length:Int))=false from rfl];simp only[zqa,zw];rw[w1 (by omega)];exact Y (k+1) _ _ e3 (V.put d.Name)
   have D:∀(l:List C0),l.length<=BB->∀(v:Nat),v<=5->∀(t:List C0),(∀u x,Sn u x->Y2 c (mpt d.Name true m) u k k d ((v+1:Nat):Int)=some (bif Tz c.p.Decls t x then(k:Int)else Km c.p.Decls r (d.Name::b) (k+1)))->
     ∀(q:List C0) (j:Nat) (u:List (Str×Bool)) (x:List Str),l.drop j=q->Sn u x->O5 c (mpt d.Name true m) u k k d v l j=some (bif Tz c.p.Decls (q++t) x then(k:Int)else Km c.p.Decls r (d.Name::b) (k+1)):=by
    intro l hb v hv t hK q
    induction q with
    |nil=>
     intro j u x h B;rw[O5,(I1 h).1];simp only[zqa,zw];rw[w1 (by unfold BB;omega)];exact hK u x B
    |cons y q U=>
     intro j u x h B;obtain⟨f1,f2,f3,f4,f5⟩:=R1 h;rw[O5,f1,f2];simp only[zt,ob,List.cons_append,Tz];rw[Z y.Name,B y.Name,w1 (by omega)];cases(bif K9 c.p.Decls y.Name then true else x.any λz=>z==y.Name)with
     |true=>rfl
     |false=>exact U (j+1) _ _ f3 (B.put y.Name)
   have T:∀u x,Sn u x->Y2 c (mpt d.Name true m) u k k d ((1+1:Nat):Int)=some (bif Tz c.p.Decls [] x then(k:Int)else Km c.p.Decls r (d.Name::b) (k+1)):=λu x _=>J u;have O:∀u x,Sn u x->Y2 c (mpt d.Name true m) u k k d ((0+1:Nat):Int)=some (bif Tz c.p.Decls d.Vars x then(k:Int)else Km c.p.Decls r (d.Name::b) (k+1)):=λu x B=>by
    rw[Y2,show decide (((0+1:Nat):Int)<(([d.P,d.Vars]).length:Int))=true from rfl,show idx [d.P,d.Vars] ((0+1:Nat):Int)=some d.Vars from rfl];simp only[zt,ob];have:=D d.Vars X.vars.len 1 (by omega) [] T d.Vars 0 u x rfl B;rw[List.append_nil]at this;exact this
   rw[show(0:Int)=((0:Nat):Int)from rfl,Y2,show decide (((0:Nat):Int)<(([d.P,d.Vars]).length:Int))=true from rfl,show idx [d.P,d.Vars] ((0:Nat):Int)=some d.P from rfl];simp only[zt,ob];exact(D d.P X.params.len 0 (by omega) d.Vars O d.P 0 _ _ rfl .nil).trans (ifB _ _ _▸by cases Tz c.p.Decls (d.P++d.Vars) []<;>rfl)
 exact I c.p.Decls 0 [] [] rfl .nil
def plI (a b:Int):Int:=min (wi (a+b)) 1073741824
def tmI (a b:Int):Int:=min (wi (a*b)) 1073741824
def adA (a b:O0):O0:=⟨plI a.k b.k,plI a.m b.m⟩
def rdA (n:Int)(b:O0):O0:=⟨tmI n (plI 1 b.k),tmI n b.m⟩
def mxA (a b:O0):O0:=⟨max a.k b.k,max a.m b.m⟩
mutual
def E0.am (m:List (Str×O0)):E0->O0
 |.mk v _ _ nm _ n lo hi _ th el=>bif v==3 then⟨0,1⟩else bif v==1 then(mgt nm m).getD O0.zero else bif v==5 then mxA (E0.ams m th ⟨0,0⟩) (E0.ams m el ⟨0,0⟩)
  else bif v==6 then rdA n (E0.ams m th ⟨0,0⟩)else bif v==7 then rdA (wi (wi (hi-lo)+1)) (E0.ams m th ⟨0,0⟩)else⟨0,0⟩
def E0.ams (m:List (Str×O0)):List E0->O0->O0
 |[],a=>a
 |x::r,a=>E0.ams m r (adA (adA a ⟨1,0⟩) (E0.am m x))
end
def E0.am_eq (m:List (Str×O0))(x:E0):x.am m=bif x.S==3 then⟨0,1⟩else bif x.S==1 then(mgt x.Name m).getD O0.zero else bif x.S==5 then mxA (E0.ams m x.Then ⟨0,0⟩) (E0.ams m x.Else ⟨0,0⟩)
  else bif x.S==6 then rdA x.NV (E0.ams m x.Then ⟨0,0⟩)else bif x.S==7 then rdA (wi (wi (x.H-x.Low)+1)) (E0.ams m x.Then ⟨0,0⟩)else⟨0,0⟩:=by cases x;simp only[E0.am]
def T1y (m:List (Str×O0))(l:List E0):OkS l->Q3 l m=some (E0.ams m l ⟨0,0⟩):=by
 refine E0.inds (Q:=λl=>OkS l->Q3 l m=some (E0.ams m l ⟨0,0⟩)) (λl d z=>?_) l;have v:∀x∈l,Ui x m=some (x.am m):=λx b=>by
  have u:=z.mem b;rw[Ui,E0.am_eq];refine ifO (λ_=>rfl) λ_=>ifO (λ_=>rfl) λ_=>ifO (λ_=>?_) λ_=>ifO (λ_=>?_) λ_=>ifO (λ_=>?_) λ_=>rfl
  ·rw[(d x b).1 u.thens,ob,(d x b).2 u.elses];rfl
  ·rw[(d x b).1 u.thens];rfl
  ·rw[(d x b).1 u.thens];rfl
 have c:∀(r:List E0) (k:Nat) (a:O0),l.drop k=r->E7 l m a k=some (E0.ams m r a):=by
  intro r
  induction r with
  |nil=>
   intro k a h;rw[E7,(I1 h).1];rfl
  |cons x r y=>
   intro k a h;obtain⟨I,D,J,O,B⟩:=R1 h;have:=z.len;rw[E7,I,D];simp only[zt,ob];rw[show Lf a (O0.mk 1 0)=some (adA a ⟨1,0⟩)from rfl,ob,v x B,ob,show Lf (adA a ⟨1,0⟩) (x.am m)=some (adA (adA a ⟨1,0⟩) (x.am m))from rfl,ob,w1 (by omega)];exact y (k+1) _ J
 rw[Q3];exact c l 0 _ rfl
def amM:List C0->List (Str×O0)->List (Str×O0)
 |[],m=>m
 |d::r,m=>amM r (bif d.K==6 then mpt d.Name (E0.ams m d.Body ⟨0,0⟩) m else m)
def amP (p:I0):O0:=E0.ams (amM p.Decls []) p.Body ⟨0,0⟩
def M21 (p:I0)(c:OkP p):Sv p=some (amP p):=by
 have D:=c.decls.len;have b:∀(r:List C0) (k:Nat) (m:List (Str×O0)),p.Decls.drop k=r->J7 p m k=some (E0.ams (amM r m) p.Body ⟨0,0⟩):=by
  intro r
  induction r with
  |nil=>
   intro k m h;rw[J7,(I1 h).1];simp only[zqa,zw];rw[T1y m p.Body c.body];rfl
  |cons d r u=>
   intro k m h;obtain⟨z,y,v,B,x⟩:=R1 h;rw[J7,z,y];simp only[zt,ob,amM];rw[w1 (by omega),T1y m d.Body (c.decls.mem x).body,ob];cases d.K==6 with
   |true=>exact u (k+1) _ v
   |false=>exact u (k+1) m v
 exact b p.Decls 0 [] rfl
def prS:List T0->Int->Int
 |[],n=>n
 |y::r,n=>prS r (tmI n (wi (wi (y.H-y.Low)+1)))
def Uz (ds:List C0):List C0->Nat->List (Int×Int)->Int->Int->List (Int×Int)×Int×Int
 |[],_,m,a,b=>(m,a,b)
 |d::r,k,m,a,b=>
  bif (bif !(L6 d.K m).isSome then d.K !=4 else false)then Uz ds r (k+1) m a (bif d.K==5 then wi (b+1)else b)
  else Uz ds r (k+1) (bif (L6 d.K m).isSome then Oh d.K (prS (K5 (F3 (ds.take k) d.N).1).1 ((L6 d.K m).getD ei64.zero)) m else m)
   (wi (a+((K5 (F3 (ds.take k) d.N).1).1.length:Int))) (bif d.K==5 then wi (b+1)else b)
def D18 (z:List (Int×Int)×Int×Int)(a:O0):Bool:=decide (z.2.1>64)||(decide (z.2.2>8)||(decide ((L6 1 z.1).getD ei64.zero>4096)||(decide ((L6 2 z.1).getD ei64.zero>4096)||(decide ((L6 3 z.1).getD ei64.zero>256)||(decide (a.k>4096)||decide (a.m>8))))))
def N21:List (Int×Int):=Oh 3 1 (Oh 2 1 (Oh 1 1 []))
def L1b (p:I0):Int:=bif D18 (Uz p.Decls p.Decls 0 N21 0 0) (amP p)then 4 else 0
def G25 (hc:CkP c.p):Bm c=some (L1b c.p):=by
 have hl:=hc.okp.decls.len;have B:∀(r:List C0) (k:Nat) (m:List (Int×Int)) (a b:Int),c.p.Decls.drop k=r->V3 c m a b k=some (bif D18 (Uz c.p.Decls r k m a b) (amP c.p)then 4 else 0):=by
  intro r
  induction r with
  |nil=>
   intro k m a b h;rw[V3,(I1 h).1];simp only[zqa,zw];rw[M21 c.p hc.okp];simp only[ob];show _=some (bif decide (a>64)||(decide (b>8)||(decide ((L6 1 m).getD ei64.zero>4096)||(decide ((L6 2 m).getD ei64.zero>4096)||(decide ((L6 3 m).getD ei64.zero>256)||(decide ((amP c.p).k>4096)||decide ((amP c.p).m>8))))))then 4 else 0);cases decide (a>64)
   case true=>rfl
   cases decide (b>8)
   case true=>rfl
   cases decide ((L6 1 m).getD ei64.zero>4096)
   case true=>rfl
   cases decide ((L6 2 m).getD ei64.zero>4096)
   case true=>rfl
   cases decide ((L6 3 m).getD ei64.zero>256)
   case true=>rfl
   cases decide ((amP c.p).k>4096)
   case true=>rfl
   cases decide ((amP c.p).m>8)<;>rfl
  |cons d r D=>
   intro k m a b h;obtain⟨Z,Y,I,e4,X⟩:=R1 h;have O:=(hc.small d X).1;rw[V3,Z,Y];simp only[zt,ob,Uz]
   have T:∀u,F8 c m d a u k (L6 d.K m) k=some (bif D18 (bif (bif !(L6 d.K m).isSome then d.K !=4 else false)then Uz c.p.Decls r (k+1) m a u
     else Uz c.p.Decls r (k+1) (bif (L6 d.K m).isSome then Oh d.K (prS (K5 (F3 (c.p.Decls.take k) d.N).1).1 ((L6 d.K m).getD ei64.zero)) m else m) (wi (a+((K5 (F3 (c.p.Decls.take k) d.N).1).1.length:Int))) u) (amP c.p)then 4 else 0):=λu=>by
    rw[F8,w1 (by omega)];cases(bif !(L6 d.K m).isSome then d.K !=4 else false)with
    |true=>exact D (k+1) m a u I
    |false=>
     simp only[zqa,zw,zql];have J:=(Yk (hc.dok.take k) O).2;rw[Sz hc (by omega) O,ob,E1m _ J,ob];have hb:=J1v J
     have x:∀(q:List T0) (j:Nat) (n v:Int),(K5 (F3 (c.p.Decls.take k) d.N).1).1.drop j=q->H5 c m d v u n (L6 d.K m) k (K5 (F3 (c.p.Decls.take k) d.N).1) j =
       some (bif D18 (Uz c.p.Decls r (k+1) (bif (L6 d.K m).isSome then Oh d.K (prS q n) m else m) v u) (amP c.p)then 4 else 0):=by
      intro q
      induction q with
      |nil=>
       intro j n v h;rw[H5,(I1 h).1];simp only[zqa,zw];rw[w1 (by omega)];cases(L6 d.K m).isSome with
       |true=>exact D (k+1) _ v u I
       |false=>exact D (k+1) m v u I
      |cons y q z=>
       intro j n v h;obtain⟨V,f2,U,f4,f5⟩:=R1 h;rw[H5,V,f2];simp only[zt,ob,prS];rw[w1 (by omega),show Zn n (i64.wrap (i64.wrap (y.H-y.Low)+1))=some (tmI n (wi (wi (y.H-y.Low)+1)))from rfl,ob];have t:=z (j+1) (tmI n (wi (wi (y.H-y.Low)+1))) v U;have f:=z (j+1) n v U;cases hs:(L6 d.K m).isSome with
       |true=>rw[hs]at t;exact t
       |false=>rw[hs]at f;exact f
     exact x _ 0 _ _ rfl
   cases d.K==5 with
   |true=>exact T _
   |false=>exact T b
 exact B c.p.Decls 0 _ 0 0 rfl
def Is (p:I0):List C0->Nat->Option (Int×Int)
 |[],_=>none
 |d::r,k=>bif Um p k d !=0 then some ((k:Int),Um p k d)else Is p r (k+1)
def Vz (p:I0):Int:=E0.sts p.Decls p.Decls.length false p.Body (inS p p.Decls.length true) true
def tck (p:I0):Int×Int:=
 bif Dw p !=0 then(-1,Dw p)else bif decide (Km p.Decls p.Decls [] 0>=0)then(Km p.Decls p.Decls [] 0,8)else
 match Is p p.Decls 0 with
 |some z=>z
 |none=>bif Vz p !=0 then(-1,Vz p)else(-1,L1b p)
def H25 (X:p.bulk<=4200000):Mf p=some (tck p):=by
 unfold Mf tck;rw[Q27 p (B1m X),ob];refine ifO (λ_=>rfl) λhc=>?_;have u:=CkP.of X (by simpa using hc);have hl:=u.okp.decls.len
 have O:∀(r:List C0) (k:Nat) (m:List (Str×Bool)) (l:List C0),p.Decls.drop k=r->p.Decls=l++r->(∀b,(mgt b m).getD ebool.zero=K9 l b)->
   ∃m',Ma p m k=(some (P0.mk p (p.Decls.length:Int) false m')>>=λY=>Ac Y>>=λU=>if decide (U>=0) then some (U,8)else G8 p Y 0)/\∀b,(mgt b m').getD ebool.zero=K9 p.Decls b:=by
  intro r
  induction r with
  |nil=>
   intro k m l h B x;rw[Ma,(I1 h).1];simp only[zqa,zw];exact⟨m,rfl,by rw[B,List.append_nil];exact x⟩
  |cons d r y=>
   intro k m l h B x;obtain⟨J,T,D,V,_⟩:=R1 h;rw[Ma,J,T];simp only[zt,ob];rw[w1 (by omega)];refine y (k+1) _ (l++[d]) D (by rw[B];simp) λb=>?_;rw[C11];unfold K9 at x⊢;rw[List.any_append,List.any_cons,List.any_nil,Bool.or_false,<-x b,H1j b d.Name];cases d.Name==b with
   |true=>simp
   |false=>simp
 obtain⟨m,e,I⟩:=O p.Decls 0 [] [] rfl rfl λb=>rfl;rw[show(0:Int)=((0:Nat):Int)from rfl,e];simp only[ob];rw[A2c (c:=P0.mk p (p.Decls.length:Int) false m) u.okp I,ob];refine ifO (λ_=>rfl) λ_=>?_;have v:∀(r:List C0) (k:Nat),p.Decls.drop k=r->G8 p (P0.mk p (p.Decls.length:Int) false m) k=some (match Is p r k with|some z=>z|none=>bif Vz p !=0 then(-1,Vz p)else(-1,L1b p)):=by
  intro r
  induction r with
  |nil=>
   intro k h;rw[G8,(I1 h).1];simp only[zqa,zw]
   rw[S1q (c:=P0.mk p (p.Decls.length:Int) false m) u (zqr _),ob,
    M1v (c:=P0.mk p (p.Decls.length:Int) false m) (n:=p.Decls.length) ⟨u,rfl,zqr _⟩ I p.Body ⟨u.okp.body,u.sform,u.snumb⟩ _ (L1m u _ true) true,ob,
    G25 (c:=P0.mk p (p.Decls.length:Int) false m) u,ob]
   exact ifB _ _ _
  |cons d r y=>
   intro k h;obtain⟨J,T,D,V,Z⟩:=R1 h;rw[G8,J];simp only[zt,Is];rw[O2a (c:=P0.mk p (p.Decls.length:Int) false m) u I V T Z,ob,w1 (by omega)];cases hz:Um p k d !=0 with
   |true=>simp only[hz,zt,zqk]
   |false=>simp only[hz,zqa,zw,zql];exact y (k+1) D
 exact v p.Decls 0 rfl
def O1v (h:k<l.length):idx l (k:Int)=some l[k]:=by
 unfold idx;rw[zp (by omega)];simp[h]
def W2c (h:k<l.length):(l.take (k+1)).reverse=l[k]::(l.take k).reverse:=by
 rw[List.take_succ_eq_append_getElem h,List.reverse_append];rfl
def zV:Q0:=⟨[],zT,false⟩
def fdV (l:List Q0)(nm:Str):Option Q0:=l.reverse.find? λv=>v.Name==nm
def U1y (S:S0)(b:Str)(c:S.Vars.length<=4611686018427387904):∀k:Nat,k<=S.Vars.length->Wj S b ((k:Int)-1)=some (match fdV (S.Vars.take k) b with|some v=>(v,true)|none=>(zV,false))
 |0,_=>by
  rw[Wj,zqs (by omega)];rfl
 |k+1,h=>by
  have e:((k+1:Nat):Int)-1=(k:Int):=by omega
  rw[Wj,e,zqj (by omega),O1v (by omega)];simp only[zt,ob];unfold fdV;rw[W2c (by omega),List.find?_cons,wr (by omega) (by omega),U1y S b c k (by omega)];cases S.Vars[k].Name==b with
  |true=>rfl
  |false=>rfl
def P1v (S:S0)(b:Str)(c:S.Vars.length<=4611686018427387904):Mo S b=some (match fdV S.Vars b with|some v=>(v,true)|none=>(zV,false)):=by
 unfold Mo;rw[wr (by omega) (by omega),U1y S b c _ (zqr _),List.take_length]
def RV (l:List Q0)(s:Option J0):Prop:=∀nm,(fdV l nm).map (λv=>(v.N,v.Ka))=(lkO nm s).map λv=>(v.l,v.fixed)
def Bk (a b:Int):K6 a b=some (min a b):=by
 unfold K6;by_cases h:a<b
 ·rw[zqj h,zp rfl,show min a b=a by omega]
 ·rw[zqs h,zn (by simp),show min a b=b by omega]
def Gl (a b:Int):N6 a b=some (max a b):=by
 unfold N6;by_cases h:a>b
 ·rw[zqj h,zp rfl,show max a b=a by omega]
 ·rw[zqs h,zn (by simp),show max a b=b by omega]
def Hu (a b:Int):J6 a b=some (nT a b):=rfl
def P1m (a b:Int):Jn (nT a b)=some (Xk (nT a b)):=ifB _ _ _
def cn (o x y:Int):Int:=bif o==10 then wi (x*y)else bif o==9 then wi (x-y)else wi (x+y)
def M1b (o:Int)(a b t:A0)(i:Nat)(x y:Int)(v:i<4)(r:idx [a.Low,a.Low,a.H,a.H] (i:Int)=some x)(d:idx [b.Low,b.H,b.Low,b.H] (i:Int)=some y) :
  S7 o a b t i=S7 o a b (nT (min (bif (i:Int)==0 then cn o x y else t.Low) (cn o x y)) (max (bif (i:Int)==0 then cn o x y else t.H) (cn o x y))) ((i+1:Nat):Int):=by
 have c:∀t':A0,Im o a b t' i (cn o x y)=S7 o a b (nT (min t'.Low (cn o x y)) (max t'.H (cn o x y))) ((i+1:Nat):Int):=λt'=>by
  rw[Im,Bk,ob,Gl,ob,Hu,ob,w1 (by unfold BB;omega)]
 have u:Gm o a b t i (cn o x y)=S7 o a b (nT (min (bif (i:Int)==0 then cn o x y else t.Low) (cn o x y)) (max (bif (i:Int)==0 then cn o x y else t.H) (cn o x y))) ((i+1:Nat):Int):=by
  rw[Gm];cases(i:Int)==0 with
  |true=>rw[zp rfl,Hu,ob,c];rfl
  |false=>rw[zn (by simp),c];rfl
 rw[S7,zqj (by omega),zp rfl,r,ob,d,ob,ob,ob,Fm,Fm,r,ob,d,ob];rw[<-u];unfold cn;cases o==10<;>cases o==9<;>rfl
def N1b (o:Int)(a b:A0):Xj o a b=some (nT (min (min (min (cn o a.Low b.Low) (cn o a.Low b.H)) (cn o a.H b.Low)) (cn o a.H b.H)) (max (max (max (cn o a.Low b.Low) (cn o a.Low b.H)) (cn o a.H b.Low)) (cn o a.H b.H))):=by
 unfold Xj
 rw[show(0:Int)=((0:Nat):Int)from rfl,M1b o a b _ 0 a.Low b.Low (by omega) rfl rfl,M1b o a b _ 1 a.Low b.H (by omega) rfl rfl,M1b o a b _ 2 a.H b.Low (by omega) rfl rfl,M1b o a b _ 3 a.H b.H (by omega) rfl rfl,
  S7,show decide (((3+1:Nat):Int)<4)=false from rfl,zn (by simp)]
 simp only[show(((0:Nat):Int)==0)=true from rfl,show(((0+1:Nat):Int)==0)=false from rfl,show(((1:Nat):Int)==0)=false from rfl,show(((2:Nat):Int)==0)=false from rfl,show(((3:Nat):Int)==0)=false from rfl,zqk,zql,nT,Int.min_self,Int.max_self]
def X28 {a c d:Int}(h:a=c)(h':b=d):nT a b=nT c d:=by rw[h,h']
def I25 {a b:A0}(v:o=8\/o=9\/o=10\/o=11\/o=12\/o=21\/o=22)(B:E4 a)(z:E4 b)(y:(a.K==1)=true)(x:(b.K==1)=true):Au o a b=some (Lr o a b):=by
 obtain⟨T,D,J⟩:=B.rng y;obtain⟨O,I,b3⟩:=z.rng x;unfold Au Lr;rcases v with rfl|rfl|rfl|rfl|rfl|rfl|rfl
 ·show(Xj 8 a b>>=λc=>some c)=some (nT (wi (a.Low+b.Low)) (wi (a.H+b.H)));rw[N1b,ob];refine congrArg some (X28 ?_ ?_)
  ·show min (min (min (wi (a.Low+b.Low)) (wi (a.Low+b.H))) (wi (a.H+b.Low))) (wi (a.H+b.H))=_;rw[wis (by omega) (by omega),wis (by omega) (by omega),wis (by omega) (by omega),wis (by omega) (by omega)];omega
  ·show max (max (max (wi (a.Low+b.Low)) (wi (a.Low+b.H))) (wi (a.H+b.Low))) (wi (a.H+b.H))=_;rw[wis (by omega) (by omega),wis (by omega) (by omega),wis (by omega) (by omega),wis (by omega) (by omega)];omega
 ·show(Xj 9 a b>>=λc=>some c)=some (nT (wi (a.Low-b.H)) (wi (a.H-b.Low)));rw[N1b,ob];refine congrArg some (X28 ?_ ?_)
  ·show min (min (min (wi (a.Low-b.Low)) (wi (a.Low-b.H))) (wi (a.H-b.Low))) (wi (a.H-b.H))=_;rw[wis (by omega) (by omega),wis (by omega) (by omega),wis (by omega) (by omega),wis (by omega) (by omega)];omega
  ·show max (max (max (wi (a.Low-b.Low)) (wi (a.Low-b.H))) (wi (a.H-b.Low))) (wi (a.H-b.H))=_;rw[wis (by omega) (by omega),wis (by omega) (by omega),wis (by omega) (by omega),wis (by omega) (by omega)];omega
 ·show(Xj 10 a b>>=λc=>some c)=_;rw[N1b,ob];rfl
 ·simp only[show((11:Int)==11)=true from rfl,zt,Hz,Gl,ob,Hu];exact ifB (bif decide (a.Low>=0)then decide (b.Low>=0)else false) (nT 0 (max a.H (wi (0-a.Low)))) (nT (wi (0-max a.H (wi (0-a.Low)))) (max a.H (wi (0-a.Low))))
 ·simp only[show((12:Int)==11)=false from rfl,show((12:Int)==12)=true from rfl,zqa,zw,zt,Bk,ob,Ws,Vs,Gl,Hu];show _=some (nT (bif decide (b.Low<0)then min (wi (b.Low+1)) 0 else 0) (bif decide (b.H>0)then max (wi (b.H-1)) 0 else 0));cases decide (b.Low<0)<;>cases decide (b.H>0)<;>rfl
 ·show(K6 a.Low b.Low>>=λr=>K6 a.H b.H>>=λd=>J6 r d>>=λu=>some u)=_;rw[Bk,ob,Bk];rfl
 ·show(N6 a.Low b.Low>>=λr=>N6 a.H b.H>>=λd=>J6 r d>>=λu=>some u)=_;rw[Gl,ob,Gl];rfl
def opR (o:Int)(k:List A0)(ints bools:Bool):Option (A0×Int):=L8 o k ints bools (k.length:Int)
def Q1m (o:Int)(k:List A0)(c:k.length<=BB):∀(r:List A0) (i:Nat) (I B:Bool),k.drop i=r->i<=k.length->L8 o k I B i=opR o k (bif I then r.all λt=>t.K==1 else false) (bif B then r.all λt=>t.K==0 else false)
 |[],i,I,B,h,u=>by
  have:=(I1 h).2;have e:i=k.length:=by omega
  unfold opR;rw[e];cases I<;>cases B<;>rfl
 |x::r,i,I,B,h,u=>by
  obtain⟨y,v,b,d,_⟩:=R1 h;rw[L8,y,v,zp rfl,w1 (by omega)];cases I<;>cases B<;>simp only[zqa,zw,zt,ob,zqk,zql]
  ·exact Q1m o k c r (i+1) false false b d
  ·rw[Q1m o k c r (i+1) false _ b d,List.all_cons];cases x.K==0<;>rfl
  ·rw[Q1m o k c r (i+1) _ false b d,List.all_cons];cases x.K==1<;>rfl
  ·rw[Q1m o k c r (i+1) _ _ b d,List.all_cons,List.all_cons];cases x.K==1<;>cases x.K==0<;>rfl
def G1r (o:Int)(k:List A0)(h:ar o=(k.length:Int))(U:6<=o)(x:∀t∈k,E4 t):Oo o k=some (opT o k):=by
 unfold Oo;have Y:k.length<=BB:=by rcases H1m h U with⟨d,_⟩|⟨d,_⟩|⟨d,_⟩<;>rw[d]<;>decide
 rw[show(0:Int)=((0:Nat):Int)from rfl,Q1m o k Y k 0 true true rfl (Nat.zero_le _)];unfold opR;rw[L8,zqs (by omega)];simp only[zqk,zqa,zw];rcases H1m h U with⟨d,rfl|rfl⟩|⟨d,h8,Z⟩|⟨d,rfl⟩
 ·match k,d with
  |[a],_=>
   unfold opT;generalize[a].all (λt=>t.K==0)=B;generalize[a].all (λt=>t.K==1)=I;have u:(J6 (wi (0-a.H)) (wi (0-a.Low))>>=λD=>Jn D>>=λv=>some (v.1,v.2))=some (Xk (nT (wi (0-a.H)) (wi (0-a.Low)))):=by rw[Hu,ob,P1m,ob]
   cases I
   ·cases B<;>rfl
   ·cases B<;>exact u
 ·match k,d with
  |[a],_=>
   unfold opT;generalize[a].all (λt=>t.K==0)=B;generalize[a].all (λt=>t.K==1)=I;cases B<;>rfl
 ·match k,d,x with
  |[a,b],_,x=>
   generalize hB:[a,b].all (λt=>t.K==0)=B;generalize hI:[a,b].all (λt=>t.K==1)=I;unfold opT;simp only[hI,hB];have T:(o=8\/o=9\/o=10\/o=11\/o=12\/o=21\/o=22)\/(o=13\/o=14\/o=15\/o=16\/o=17\/o=18\/o=19\/o=20):=by omega
   rcases T with g|g
   ·have ar:I=true->(idx [a,b] 0>>=λy=>idx [a,b] 1>>=λJ=>Au o y J>>=λO=>Jn O>>=λr=>some (r.1,r.2))=some (Xk (Lr o a b)):=λz=>by
     rw[z,List.all_cons,List.all_cons,List.all_nil,Bool.and_true,zqi]at hI;rw[show idx [a,b] 0=some a from rfl,show idx [a,b] 1=some b from rfl,ob,ob,I25 g (x a zqp) (x b (zqq _ zqp)) hI.1 hI.2,ob];obtain⟨lo,hi,e⟩:=Q1q o a b;rw[e,P1m,ob]
    rcases g with rfl|rfl|rfl|rfl|rfl|rfl|rfl<;>
     (cases I
      ·rfl
      ·exact ar rfl)
   ·rcases g with rfl|rfl|rfl|rfl|rfl|rfl|rfl|rfl<;>(cases I<;>cases B<;>rfl)
 ·match k,d with
  |[a,b,c],_=>
   generalize[a,b,c].all (λt=>t.K==0)=B;generalize[a,b,c].all (λt=>t.K==1)=I;show _=some (bif a.K !=0 then(zT,9)else bif [b,c].all (λt=>t.K==1)then(nT (min b.Low c.Low) (max b.H c.H),0)else bif [b,c].all (λt=>t.K==0)then(zT,0)else(zT,9))
   simp only[show((23:Int)==7)=false from rfl,show((23:Int)==19)=false from rfl,show((23:Int)==20)=false from rfl,show((23:Int)==13)=false from rfl,show((23:Int)==14)=false from rfl,show((23:Int)==23)=true from rfl,zql,
    zqa,zw,zt,show idx [a,b,c] 0=some a from rfl,show idx [a,b,c] 1=some b from rfl,show idx [a,b,c] 2=some c from rfl,ob,show Wa b=some (scT b)from rfl,Bk,Gl,Hu,List.all_cons,List.all_nil,Bool.and_true]
   cases ha:a.K !=0 with
   |true=>rfl
   |false=>
    simp only[zqg,zt,ob,zql];rw[show Wa b=some (scT b)from rfl];simp only[ob];have X:∀S:Bool,((if !!S then some b else some default)>>=λx6=>(if !!S then some c else some default)>>=λV=>
      if bif !S then true else x6.K !=V.K then some ((zT,9):A0×Int)else if b.K==0 then some (zT,0)else some (nT (min b.Low c.Low) (max b.H c.H),0)) =
      some (bif !S then(zT,9)else bif b.K !=c.K then(zT,9)else bif b.K==0 then(zT,0)else(nT (min b.Low c.Low) (max b.H c.H),0)):=λS=>by
     cases S with
     |false=>rfl
     |true=>exact ifO (λ_=>rfl) λ_=>ifB _ _ _
    refine(X (scT b)).trans (congrArg some ?_);unfold scT;by_cases b0:b.K=0
    ·by_cases c0:c.K=0
     ·simp[b0,c0,bne]
     ·simp[b0,bne,zqn.2 c0,zqn.2 λe:(0:Int)=c.K=>c0 e.symm]
    ·by_cases b1:b.K=1
     ·by_cases c1:c.K=1
      ·simp[b1,c1,bne]
      ·simp[b1,bne,zqn.2 c1,zqn.2 λe:(1:Int)=c.K=>c1 e.symm]
     ·simp[zqn.2 b0,zqn.2 b1]
def V1y (e:D0)(t:A0)(q:List A0)(u:t.Of.length=t.O.length)(B:t.O.length<=BB):∀(r:List Str) (i:Nat),t.O.drop i=r->Fd e (t::q) i=some (Rz r (t.Of.drop i) e.Name)
 |[],i,h=>by
  rw[Fd,show idx (t::q) 0=some t from rfl,ob,(I1 h).1];rfl
 |x::r,i,h=>by
  obtain⟨z,v,b,D,_⟩:=R1 h;obtain⟨y,c,d,_⟩:=Iv (l:=t.Of) (k:=i) (by omega);rw[Fd,show idx (t::q) 0=some t from rfl,ob,z,d,zp rfl,ob,v,ob,ob,c,ob,w1 (by omega),V1y e t q u B r (i+1) b];exact ifB _ _ _
def D28 (S:S0)(s:Option J0)(hv:RV S.Vars s)(X:S.Vars.length<=4611686018427387904)(e:D0)(k:List A0)(h:ar e.Op=(k.length:Int))(d:∀t∈k,E4 t)(r:F4 e=true)(K:Option (A0×Int))
  (hK:K=(if e.Op==0 then(J6 e.NV e.NV>>=λx2=>some (x2,0))else if bif (e.Op==1)then true else(e.Op==2) then some (zT,0)else
   if e.Op==3 then(Mo S e.Name>>=λx3=>if !x3.2 then some (zT,7)else some (x3.1.N,0))else
   if e.Op==4 then(idx k 0>>=λJ=>if J.K !=3 then some (zT,9)else Fd e k 0)else
   if e.Op==5 then(idx k 0>>=λI=>(if !(I.K !=2) then idx k 1 else some default)>>=λx6=>if bif (I.K !=2)then true else(x6.K !=1) then some (zT,9)else(idx k 0>>=λU=>idx U.Of 0>>=λy=>some (y,0)))else
   (Oo e.Op k>>=λD=>some (D.1,D.2)))):K=some (Jv (λT=>lkO T s) e.Op e.NV e.Name k):=by
 rw[hK];unfold Jv;by_cases h6:e.Op<6
 ·rcases C1j h h6 with⟨c,ho|ho|ho|ho⟩|⟨c,ho⟩|⟨c,ho⟩
  ·rw[ho];show some (nT e.NV e.NV,(0:Int))=some (Xk (nT e.NV e.NV));unfold F4 G3 at r;rw[ho]at r;have hr:0<=e.NV/\e.NV<=1048576:=by
    by_cases p:e.NV>=0
    ·by_cases q:e.NV<=1048576
     ·exact⟨p,q⟩
     ·simp[p,q]at r
    ·simp[p]at r
   unfold Xk;have e1:decide ((nT e.NV e.NV).Low < -1048576)=false:=zqs (by show¬e.NV<_;omega);have e2:decide ((nT e.NV e.NV).H>1048576)=false:=zqs (by show¬e.NV>_;omega);rw[e1,e2];cases(nT e.NV e.NV).K==1<;>rfl
  ·rw[ho];rfl
  ·rw[ho];rfl
  ·rw[ho];show(Mo S e.Name>>=λx3=>if !x3.2 then some ((zT,7):A0×Int)else some (x3.1.N,0))=some (match lkO e.Name s with|some v=>(v.l,0)|none=>(zT,7));rw[P1v S _ X,ob];have:=hv e.Name;cases h1:fdV S.Vars e.Name with
   |none=>
    rw[h1]at this;cases h2:lkO e.Name s with
    |none=>rfl
    |some v=>rw[h2]at this;cases this
   |some u=>
    rw[h1]at this;cases h2:lkO e.Name s with
    |none=>rw[h2]at this;cases this
    |some v=>
     rw[h2]at this;simp only[zqt,zqb,zqh]at this;show some (u.N,(0:Int))=some (v.l,0);rw[this.1]
  ·rw[ho]
   match k,c,d with
   |[a],_,d=>
    have B:=d a zqp;show(if a.K !=3 then some (zT,9)else Fd e [a] 0)=some (T11 a e.Name);unfold T11;refine ifO (λ_=>rfl) λV=>?_;obtain⟨p1,Z,_⟩:=B.recd (by simpa[bne]using V);exact V1y e a [] Z (by unfold BB;omega) a.O 0 rfl
  ·rw[ho]
   match k,c,d with
   |[a,b],_,d=>
    have B:=d a zqp;show((if !(a.K !=2) then some b else some default)>>=λy=>if bif (a.K !=2)then true else(y.K !=1) then some ((zT,9):A0×Int)else(idx a.Of 0>>=λz=>some (z,0)))=some (bif (bif a.K !=2 then true else b.K !=1)then(zT,9)else(a.Of.getD 0 zT,0));cases h1:a.K !=2 with
    |true=>rfl
    |false=>
     obtain⟨x,Y,_,_⟩:=B.arr (by simpa[bne]using h1);rw[Y];simp only[zqg,zt,ob,zql];cases h2:b.K !=1<;>rfl
 ·have f:∀n:Int,n<6->(e.Op==n)=false:=λn r=>zqn.2 (by omega);rw[f 0 (by omega),f 1 (by omega),f 2 (by omega),f 3 (by omega),f 4 (by omega),f 5 (by omega),G1r e.Op k h (by omega) d];rfl
def J25 (S:S0)(s:Option J0)(O:RV S.Vars s)(J:S.Vars.length<=4611686018427387904)(hs:SO s)(e:D0)(D:OkE e)(u:A3 e=true)(I:F4 e=true)
  (B:∀x∈e.V,Gd S x=some (tyS s x)/\((tyS s x).2=0->E4 (tyS s x).1)) :
  ∀(r:List D0) (i:Nat) (k:List A0),e.V.drop i=r->k.length=i/\i<=e.V.length->(∀t∈k,E4 t)->
   Kn S e k i=some (bif (D0.tys (λb=>lkO b s) r).2 !=0 then(zT,(D0.tys (λb=>lkO b s) r).2)else Jv (λb=>lkO b s) e.Op e.NV e.Name (k++(D0.tys (λb=>lkO b s) r).1))
 |[],i,k,h,T,y=>by
  obtain⟨d,c⟩:=I1 h;have v:k.length=e.V.length:=by omega
  have z:ar e.Op=(k.length:Int):=by
   simp only[A3,zqi]at u;have:=u.1.1.1;unfold ef1 at this;rw[v];simpa using this
  rw[Kn,d];simp only[zqa,zw,D0.tys,List.append_nil];exact D28 S s O J e k z y I _ rfl
 |x::r,i,k,h,T,y=>by
  obtain⟨d,c,Y,h4,h5⟩:=R1 h;obtain⟨X,i2⟩:=B x h5;have Z:=D.kids;rw[Kn,d,c];simp only[zt,ob,X,D0.tys];cases hc:(x.ty λb=>lkO b s).2 !=0 with
  |true=>simp only[zt,zqk,hc]
  |false=>
   have U:(x.ty λb=>lkO b s).2=0:=by simpa using hc
   rw[zqj (show(k.length+1)*97<=140737488355328 by unfold BB at Z;omega)];simp only[zqa,zw,zt,zql];rw[w1 (by omega),J25 S s O J hs e D u I B r (i+1) (k++[(x.ty λb=>lkO b s).1]) Y ⟨by simp[T.1],by omega⟩ (λt ht=>by
    rcases List.mem_append.1 ht with ht|ht
    ·exact y t ht
    ·simp at ht;subst ht;exact i2 U)]
   cases c:(D0.tys (λb=>lkO b s) r).2 !=0 with
   |true=>simp only[zqk,c]
   |false=>simp only[zql,List.append_assoc,List.singleton_append];rfl
def W1y {S:S0}(z:RV S.Vars s)(D:S.Vars.length<=4611686018427387904)(u:SO s)(e:D0):OkE e->e.all A3=true->e.all F4=true->Gd S e=some (tyS s e):=by
 refine D0.ind (P:=λe=>OkE e->e.all A3=true->e.all F4=true->Gd S e=some (tyS s e)) ?_ e;intro e y d c r;have v:=c;have I:=r;rw[D0.all_eq,zqi]at c r;have J:=d.kids;rw[Gd];have:=J25 S s z D u e d c.1 r.1 (λx b=>⟨y x b (d.kid b) (D0.alls_mem c.2 b) (D0.alls_mem r.2 b),(P1y s u.f x (d.kid b) (D0.alls_mem c.2 b)).2⟩) e.V 0 [] rfl ⟨rfl,Nat.zero_le _⟩ (λt B=>by cases B);unfold tyS;rw[D0.ty_eq];exact this
end Go.Proofs.YtnabbmegmkdehaaGreatDoor

