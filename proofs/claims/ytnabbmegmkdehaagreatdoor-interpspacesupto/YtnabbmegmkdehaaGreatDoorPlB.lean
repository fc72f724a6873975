/- A part of the proof of InterpSpaces. -/
import Derived.Test.YtnabbmegmkdehaaGreatDoorPlA
import Derived.ProofKit
import Derived.KernelRfl
set_option linter.defProp false
set_option linter.unusedSimpArgs false
set_option linter.unusedVariables false
namespace Go.Proofs.YtnabbmegmkdehaaGreatDoor
open Tryz
open IntKind (i64)
open Go.Am
variable {t:A0}{b:Bool}{d:C0}{e:D0}{x:E0}{p:I0}{K a c u:Int}{i n:Nat}{s:Option J0}{S:S0}{α:Type}
def E28:∀e:D0,Ev e=some e.root:=by
 intro e
 induction e using D0.ind with
 |h e b=>
 rw[Ev];obtain⟨o,n,s,c⟩:=e;simp only[D0.root];cases ho:o==3 with
 |true=>rfl
 |false=>
  cases c with
  |nil=>rfl
  |cons x r=>
   have:(bif false then true else((((x::r).length:Nat):Int)==0))=false:=zqn.2 (by simp;omega);rw[this,zn (by simp),show idx (x::r) 0=some x from rfl,ob,b x zqp];rfl
def Q1v (l:List Str)(b:Str)(d:l.length<=BB):∀(r:List Str) (k:Nat),l.drop k=r->Zh l b k=some (r.any λy=>y==b)
 |[],k,h=>by
  rw[Zh,(I1 h).1];rfl
 |x::r,k,h=>by
  obtain⟨v,u,c,z,_⟩:=R1 h;rw[Zh,v,zp rfl,u,ob,w1 (by omega),Q1v l b d r (k+1) c,List.any_cons];cases x==b<;>rfl
def Z16 (l:List Str)(b:Str)(c:l.length<=BB):Ur l b=some (l.any λy=>y==b):=Q1v l b c l 0 rfl
def X1y (P:I0)(b:Int)(c:Str)(n:Nat)(x:n<=P.Decls.length)(y:P.Decls.length<=BB):∀(r:List C0) (k:Nat),(P.Decls.take n).drop k=r->Xb P b c n k=some (K1b (V8 b c r k))
 |[],k,h=>by
  have:=(I1 h).2;rw[List.length_take]at this;rw[Xb,zqs (by omega)];rfl
 |d::r,k,h=>by
  obtain⟨D,z,v,B,_⟩:=R1 h;rw[List.length_take]at B;have g:idx P.Decls (k:Int)=some d:=by
   have u:=Dn z;rw[show((k:Int)).toNat=k from Int.toNat_natCast k,List.getElem?_take,zp (by omega)]at u;rw[O1v (by omega)];rw[zqv (by omega)]at u;exact u
  rw[Xb,zqj (by omega),zp rfl,g,ob,w1 (by omega),X1y P b c n x y r (k+1) v];rw[show V8 b c (d::r) k=bif (bif (d.K==b)then(d.Name==c)else false)then some k else V8 b c r (k+1)from rfl];cases d.K==b with
  |true=>
   rw[zp rfl,ob];cases d.Name==c<;>rfl
  |false=>rfl
def Q15 (P:I0)(b:Int)(c:Str)(n:Nat)(d:n<=P.Decls.length)(r:P.Decls.length<=BB):Qe P b c n=some (K1b (V8 b c (P.Decls.take n) 0)):=X1y P b c n d r _ 0 rfl
def Iu {P:I0}(d:CkP p)(hP:P.Decls=p.Decls)(b:i<=p.Decls.length)(c:t.bulk<=4200000):Xc P i t=some (F3 (p.Decls.take i) t):=by
 unfold Xc;rw[hP,H1f b,ob,G1m _ (d.dok.take i) t c];rfl
structure RS (p:I0)(n:Nat)(loc:Bool)(s:Option J0)(S:S0):Prop where
 prog:S.s.Decls=p.Decls
 fn:(loc=true/\S.v=(n:Int))\/(loc=false/\S.v<0/\n=p.Decls.length)
 le:n<=p.Decls.length
 vars:RV S.Vars s
 taken:∀nm,(S.u.any λy=>y==nm)=bif K9 p.Decls nm then true else(lkO nm s).isSome
 so:SO s
 vlen:S.Vars.length<=BB
def RS.xpr (h:RS p n b s S)(c:OkE e)(r:e.all A3=true)(d:e.all F4=true):Gd S e=some (tyS s e):=
 W1y h.vars (by have:=h.vlen;unfold BB at this;omega) h.so e c r d
def RS.fix {c:Bool}(h:RS p n c s S)(b:Str):∃q,Mo S b=some q/\q.1.Ka=(Tm s b).1.fixed:=by
 refine⟨_,P1v S b (by have:=h.vlen;unfold BB at this;omega),?_⟩;have:=h.vars b;unfold Tm;cases h1:fdV S.Vars b with
 |none=>
  rw[h1]at this;cases h2:lkO b s with
  |none=>rfl
  |some v=>rw[h2]at this;cases this
 |some u=>
  rw[h1]at this;cases h2:lkO b s with
  |none=>rw[h2]at this;cases this
  |some v=>
   rw[h2]at this;simp only[zqt,zqb,zqh]at this;exact this.2
def R1v {a:A0}(d:Ok a)(b:A0)(c:Bool):Fi a c b=some (J1b a b c):=by
 unfold Fi J1b;rw[show Wa a=some (scT a)from rfl,ob];cases scT a with
 |true=>rfl
 |false=>
  rw[show(if !false then Wa b else some default)=some (scT b)from rfl,ob];cases scT b with
  |true=>rfl
  |false=>
   cases c with
   |false=>rfl
   |true=>
    simp only[zql,zqa,zw,zt];rw[F1q a d b];rfl
def Y1y (d:RV S.Vars s)(u:S.Vars.length<=BB)(b:SO s)(c:OkE e)(v:e.all A3=true)(r:e.all F4=true)(t:A0):Wi S e t=some (O15 s e t):=by
 unfold Wi O15;rw[W1y d (by unfold BB at u;omega) b e c v r,ob,show Y12 e=some (plE e)from rfl,ob,R1v (D25 b e),ob];by_cases h0:(tyS s e).2=0
 ·rw[h0];exact ifB _ _ _
 ·rw[show((tyS s e).2 !=0)=true by simpa[bne]using h0,zqn.2 h0];rfl
def RS.val (h:RS p n b s S)(c:OkE e)(r:e.all A3=true)(d:e.all F4=true)(t:A0):Wi S e t=some (O15 s e t):=Y1y h.vars h.vlen h.so c r d t
def RS.tgt (h:RS p n b s S)(c:OkE e)(v:e.all A3=true)(r:e.all F4=true):Vr S e=some (Bn s e):=by
 obtain⟨q,d,u⟩:=h.fix e.root;unfold Vr Bn;rw[h.xpr c v r,ob,E28,ob,d,ob,u];exact ifO (λ_=>rfl) λ_=>ifB _ _ _
def RS.call (r:CkP p)(h:RS p n b s S)(y:Ox x)(T:x.I.all A3=true)(X:x.I.all F4=true)(ha:D0.alls A3 x.B=true)(O:D0.alls F4 x.B=true) :
  Q13 S x=some (X16 p.Decls n s x.I x.Name x.B):=by
 have J:=r.okp.decls.len;unfold Q13 X16;rw[h.tgt y.place T X,ob];refine ifO (λ_=>rfl) λ_=>?_;have D:(if decide (S.v>=0) then Zj S x (Bn s x.I) S.v else Zj S x (Bn s x.I) (S.s.Decls.length:Int))=Zj S x (Bn s x.I) n:=by
  rcases h.fn with⟨_,e⟩|⟨_,e,V⟩
  ·rw[e,zqj (by omega)];rfl
  ·rw[zqs (by omega),h.prog,V];rfl
 rw[D];unfold Zj;rw[Q15 _ _ _ _ (by rw[h.prog];exact h.le) (by rw[h.prog];exact J),ob,h.prog];cases hf:V8 6 x.Name (p.Decls.take n) 0 with
 |none=>rfl
 |some j=>
  obtain⟨_,hj,Z,Y,_,_⟩:=P15 hf;show _=some (N1m (p.Decls.take j) s (Bn s x.I).1 x.B (p.Decls.getD j default));generalize p.Decls.getD j default=d at Z Y⊢;rw[show K1b (some j)=(j:Int)from rfl,zqs (by omega),Z];simp only[zqa,zw,ob];unfold N1m;refine ifO (λ_=>rfl) λJ=>?_;have a0:x.B.length=d.P.length:=by
   have:(x.B.length:Int)=(d.P.length:Int):=by simpa[bne]using J
   omega
  obtain⟨c,z,_⟩:=r.small d Y;have u:∀(q:List D0) (k:Nat),x.B.drop k=q->Yj S x (Bn s x.I) d j k=some (M1f (p.Decls.take j) s (bif !J1b (F3 (p.Decls.take j) d.N).1 (Bn s x.I).1 true then 9 else 0) q (d.P.drop k)):=by
   intro q
   induction q with
   |nil=>
    intro k h
    rename RS p n b s S=>hR
    rw[Yj,(I1 h).1];simp only[zqa,zw,M1f];rw[Iu r hR.prog (by omega) c,ob,R1v (Yk (r.dok.take j) c).2,ob];exact ifB _ _ _
   |cons a q ih=>
    intro k h
    rename RS p n b s S=>hR
    obtain⟨e1,V,e3,e4,U⟩:=R1 h;obtain⟨v,v1,v2,v3⟩:=Iv (l:=d.P) (k:=k) (by omega);rw[Yj,e1,V,v2];simp only[zt,ob,v1,M1f];rw[Iu r hR.prog (by omega) (z v v3),ob,hR.val (y.arg a U) (D0.alls_mem ha U) (D0.alls_mem O U),ob];have:=y.args;rw[w1 (by omega)];exact ifO (λ_=>rfl) λ_=>ih (k+1) e3
  exact u x.B 0 rfl
def RS.release (c:CkP p)(h:RS p n b s S)(y:Ox x)(u:x.I.all A3=true)(r:x.I.all F4=true) :
  Tw S x=some (N1o p.Decls n b s x.I x.Name):=by
 have D:=c.okp.decls.len;unfold Tw N1o;rw[h.tgt y.place u r,ob];refine ifO (λ_=>rfl) λ_=>?_;rcases h.fn with⟨d,e⟩|⟨d,e,B⟩
 ·rw[e,d,zqj (by omega)];rfl
 ·rw[zqs (by omega),d,B,h.prog];simp only[zqa,zw,zql];rw[Q15 _ _ _ _ (by rw[h.prog];exact zqr _) (by rw[h.prog];exact D),ob,h.prog];cases hf:V8 5 x.Name (p.Decls.take p.Decls.length) 0 with
  |none=>rfl
  |some j=>
   obtain⟨_,O,J,z,_,_⟩:=P15 hf;have v:=(c.small _ z).1;rw[show K1b (some j)=(j:Int)from rfl,zqs (by omega),J];simp only[zqa,zw,ob];rw[Iu c h.prog (by omega) v,ob,R1v (Yk (c.dok.take j) v).2,ob];exact ifB _ _ _
def RS.cond (h:RS p n b s S)(c:OkE e)(r:e.all A3=true)(d:e.all F4=true):Qj S e=some (Ys s e):=by
 unfold Qj Ys;rw[h.xpr c r d,ob];by_cases h0:(tyS s e).2=0
 ·rw[h0];exact ifB _ _ _
 ·rw[show((tyS s e).2 !=0)=true by simpa[bne]using h0,zqn.2 h0];rfl
def RV.ext {l:List Q0}(h:RV l s)(b:Str)(t:A0)(f:Bool):RV (l++[⟨b,t,f⟩]) (some (.mk s [(b,⟨t,f⟩)])):=λx=>by
 have c:=h x;unfold fdV at c⊢;rw[List.reverse_append];show((Q0.mk b t f::l.reverse).find? λv=>v.Name==x).map _=_;rw[List.find?_cons];simp only[lkO,J0.find,mgt,H1j x b];cases b==x with
 |true=>rfl
 |false=>exact c
def RS.around {c:Bool}(h:RS p n c s S)(r:E4 (nT x.Low x.H)){m:Nat}(d:S.Vars.length+m<=BB/\S.u.length+m<=BB)(z:1<=m) :
  ∃S',Iz S x=some S'/\RS p n c (Y16 s x.Name x.Low x.H) S'/\S'.Vars.length=S.Vars.length+1/\S'.u.length=S.u.length+1:=by
 unfold Iz;rw[Hu,ob,zqj (by unfold BB at d;omega),zqj (by unfold BB at d;omega),zqj (by unfold BB at d;omega),zqj (by unfold BB at d;omega)];refine⟨_,rfl,⟨h.prog,h.fn,h.le,h.vars.ext _ _ _,λb=>?_,h.so.ext (m:=[(x.Name,⟨nT x.Low x.H,true⟩)]) λq v=>by rw[List.mem_singleton.1 v];exact⟨r,okn _ _⟩,by simp;omega⟩,by simp,by simp⟩;show((S.u++[x.Name]).any λy=>y==b)=bif K9 p.Decls b then true else(lkO b (Y16 s x.Name x.Low x.H)).isSome;rw[List.any_append,h.taken b];simp only[lkO,J0.find,mgt,H1j b x.Name,List.any_cons,List.any_nil,Bool.or_false,Y16];cases K9 p.Decls b<;>cases x.Name==b<;>simp
def REq (p:I0)(n:Nat)(loc:Bool)(l:List E0):Prop:=WfS l->∀s S,RS p n loc s S->S.Vars.length+E0.bulks l<=BB/\S.u.length+E0.bulks l<=BB->∀top,B8 S l top=some (E0.sts p.Decls n loc l s top)
def K25 (h:snumb x=true):x.I.all F4=true/\x.Value.all F4=true/\D0.alls F4 x.B=true:=by
 unfold snumb at h;simp only[zqi]at h;exact⟨h.1.1.1,h.1.1.2,h.1.2⟩
def Z1y (ds:List C0)(n:Nat)(c:Bool)(s:Option J0)(b:Bool):E0.sts ds n c [] s b=0:=by simp only[E0.sts]
def F28 (Y:CkP p)(c:RS p n b s S)(v:Ox x)(J:sform x=true)(X:snumb x=true)(D:WfS x.Then/\WfS x.Else)(z:REq p n b x.Then/\REq p n b x.Else)
  (hr:S.Vars.length+x.bulk<=BB/\S.u.length+x.bulk<=BB) (r:Bool):R13 S x r=some (x.st p.Decls n b s r):=by
 obtain⟨T,O,u3⟩:=R1q J;obtain⟨U,I,n3⟩:=K25 X;have hb:=E0.bulk_eq x;rw[R13,E0.st_eq];refine ifO (λh=>?_) λh0=>ifO (λh=>?_) λh1=>ifO (λh=>?_) λh2=>ifO (λh=>?_) λh3=>?_
 ·have e:x.S=0:=by simpa using h
  unfold asS;rw[c.tgt v.place (T (by rw[e];rfl)) U,ob,c.val v.value (O (by rw[e];rfl)) I,ob];exact ifB _ _ _
 ·have e:x.S=1:=by simpa using h
  rw[c.call Y v (T (by rw[e];rfl)) U u3 n3,ob]
 ·have e:x.S=2:=by simpa using h
  rw[c.release Y v (T (by rw[e];rfl)) U,ob]
 ·have e:x.S=3:=by simpa using h
  unfold K21;rw[c.xpr v.value (O (by rw[e];rfl)) I,ob];cases(tyS s x.Value).2==0 with
  |false=>rfl
  |true=>exact ifB _ _ _
 ·by_cases e5:x.S=5
  ·rw[e5]
   show(Qj S x.Value>>=λB=>if B !=0 then some B else B8 S x.Then false>>=λd=>if d !=0 then some d else B8 S x.Else false>>=λy=>some y) =
    some (bif Ys s x.Value !=0 then Ys s x.Value else bif E0.sts p.Decls n b x.Then s false !=0 then E0.sts p.Decls n b x.Then s false else E0.sts p.Decls n b x.Else s false)
   rw[c.cond v.value (O (by rw[e5];rfl)) I,ob,z.1 D.1 s S c (by omega),ob,z.2 D.2 s S c (by omega),ob];exact ifO (λ_=>rfl) λ_=>ifO (λ_=>rfl) λ_=>rfl
  ·by_cases e6:x.S=6
   ·have Z:x.Else=[]:=by
     unfold sform at J;simp only[zqi]at J;have:=J.2;rw[e6]at this;simpa using this
    rw[e6]
    show(Qj S x.Value>>=λB=>if B !=0 then some B else B8 S x.Then false>>=λd=>if d !=0 then some d else B8 S x.Else false>>=λy=>some y) =
     some (bif Ys s x.Value !=0 then Ys s x.Value else E0.sts p.Decls n b x.Then s false)
    rw[c.cond v.value (O (by rw[e6];rfl)) I,ob,z.1 D.1 s S c (by omega),ob,z.2 D.2 s S c (by omega),ob,Z,Z1y];refine ifO (λ_=>rfl) λ_=>?_;by_cases q:E0.sts p.Decls n b x.Then s false=0
    ·rw[q];rfl
    ·rw[show(E0.sts p.Decls n b x.Then s false !=0)=true by simpa[bne]using q];rfl
   ·rw[zqn.2 e5,zqn.2 e6];simp only[zql,zqa,zw];refine ifO (λh=>?_) λ_=>?_
    ·have e:x.S=7:=by simpa using h
     obtain⟨S',g1,g2,g3,g4⟩:=c.around (I1v X e) hr (by omega);rw[Z16 _ _ (by omega),ob,c.taken];have V:(lkO x.Name s).isSome=(Tm s x.Name).2:=by unfold Tm;cases lkO x.Name s<;>rfl
     rw[V,g1,ob,z.1 D.1 _ S' g2 (by omega),ob];exact ifB _ _ _
    ·cases x.S==8 with
     |true=>exact ifB _ _ _
     |false=>rfl
def S1v {p:I0}(B:CkP p){n:Nat}{b:Bool}{l:List E0}(d:WfS l)(y:∀x∈l,REq p n b x.Then/\REq p n b x.Else){s:Option J0}{S:S0}(z:RS p n b s S)(I:S.Vars.length+E0.bulks l<=BB/\S.u.length+E0.bulks l<=BB)(c:Bool) :
  ∀(r:List E0) (k:Nat),l.drop k=r->Rl S l c k=some (E0.sts p.Decls n b r s c)
 |[],k,h=>by
  rw[Rl,(I1 h).1,Z1y];rfl
 |x::r,k,h=>by
  obtain⟨D,T,J,U,v⟩:=R1 h;have O:=d.ok.len;have V:=E0.bulk_mem v;rw[Rl,D,T];simp only[zt,ob,E0.sts];rw[W28 h O,F28 B z (d.ok.mem v) (Ro d.form v).1 (Ro d.numb v).1 (d.kids v) (y x v) (by omega),ob,w1 (by omega)];exact ifO (λ_=>rfl) λ_=>S1v B d y z I c r (k+1) J
def T1q (x:CkP p)(l:List E0):REq p n b l:=by
 refine E0.inds (Q:=REq p n b) (λl r d s S v u c=>?_) l;rw[B8];exact S1v x d r v u c l 0 rfl
def RM (l:List Q0)(m:List (Str×L0)):Prop:=∀nm,(fdV l nm).map (λv=>(v.N,v.Ka))=(mgt nm m).map λv=>(v.l,v.fixed)
def RM.nil:RM [] []:=λb=>rfl
def RM.put {l:List Q0}{m:List (Str×L0)}(h:RM l m)(b:Str)(t:A0)(f:Bool):RM (l++[⟨b,t,f⟩]) (mpt b ⟨t,f⟩ m):=λx=>by
 have c:=h x;unfold fdV at c⊢;rw[List.reverse_append];show((Q0.mk b t f::l.reverse).find? λv=>v.Name==x).map _=_;rw[List.find?_cons,C11,H1j x b];cases b==x with
 |true=>rfl
 |false=>exact c
def RM.rv {l:List Q0}{m:List (Str×L0)}(h:RM l m):RV l (some (.mk none m)):=λb=>by
 rw[h b];simp only[lkO,J0.find];cases mgt b m<;>rfl
def T1v (p:I0)(c:p.Decls.length<=BB):∀(r:List C0) (k:Nat) (b:List Str),p.Decls.drop k=r->b.length=k->Yh p b k=some (b++r.map λd=>d.Name)
 |[],k,b,h,_=>by
  rw[Yh,(I1 h).1];simp
 |d::r,k,b,h,u=>by
  obtain⟨y,x,v,z,_⟩:=R1 h;rw[Yh,y,zp rfl,x,ob,zqj (by unfold BB at c;omega),zp rfl,w1 (by omega),T1v p c r (k+1) _ v (by simp[u])];simp
def N1f (p:I0)(b:p.Decls.length<=BB):Bw p=some (p.Decls.map λd=>d.Name):=(T1v p b p.Decls 0 [] rfl rfl).trans (by simp)
def A17 (l:List C0)(b:Str):((l.map λd=>d.Name).any λy=>y==b)=K9 l b:=by
 unfold K9;rw[List.any_map];rfl
def U1v {p:I0}(v:CkP p)(n:Nat)(D:n<=p.Decls.length)(vs:Bool):∀(r:List C0) (k:Nat) (m:List (Str×L0)) (c:List Q0),(p.Decls.take n).drop k=r->RM c m->c.length<=k->
  ∃b,Xa p n vs c k=some b/\RM b (inM p.Decls vs r k m)/\b.length<=k+r.length
 |[],k,m,c,h,x,I=>by
  have:=(I1 h).2;rw[List.length_take]at this;rw[Xa,zqs (by omega)];exact⟨c,rfl,x,by simp;omega⟩
 |d::r,k,m,c,h,x,I=>by
  have J:=v.okp.decls.len;obtain⟨V,O,B,T,u⟩:=R1 h;rw[List.length_take]at T;have g:idx p.Decls (k:Int)=some d:=by
   have u:=Dn O;rw[show((k:Int)).toNat=k from Int.toNat_natCast k,List.getElem?_take,zp (by omega)]at u;rw[O1v (by omega)];rw[zqv (by omega)]at u;exact u
  rw[Xa,zqj (by omega),zp rfl,g,ob,show Hn d=some (inK d)from rfl,ob,Iu v rfl (by omega) (v.small d (List.mem_of_mem_take u)).1,ob,ob,zqj (by unfold BB at J;omega),w1 (by omega)];simp only[inM];cases(bif inK d then true else(bif vs then(d.K==4)else false))with
  |true=>
   obtain⟨b,y,z,U⟩:=U1v v n D vs r (k+1) _ (c++[⟨d.Name,(F3 (p.Decls.take k) d.N).1,inK d⟩]) B (x.put _ _ _) (by simp;omega);exact⟨b,y,z,by simp;omega⟩
  |false=>
   obtain⟨b,y,z,U⟩:=U1v v n D vs r (k+1) m c B x (by omega);exact⟨b,y,z,by simp;omega⟩
def A1z (v:CkP p)(r:n<=p.Decls.length)(vs:Bool):∃b,Sw p n vs=some b/\RV b (inS p n vs)/\b.length<=n:=by
 obtain⟨b,c,d,u⟩:=U1v v n r vs (p.Decls.take n) 0 [] [] rfl .nil (zqr _);exact⟨b,c,d.rv,by simp at u;omega⟩
def L25 (ds:List C0)(vs:Bool)(b:Str):∀(r:List C0) (k:Nat) (m:List (Str×L0)),(mgt b (inM ds vs r k m)).isSome=true->(mgt b m).isSome=true\/K9 r b=true
 |[],_,_,h=>.inl h
 |d::r,k,m,h=>by
  simp only[inM]at h;unfold K9;rw[List.any_cons];rcases L25 ds vs b r (k+1) _ h with h|h
  ·cases hc:(bif inK d then true else(bif vs then(d.K==4)else false))with
   |true=>
    rw[hc]at h;simp only[zqk]at h;rw[C11,H1j b d.Name]at h;cases hd:d.Name==b with
    |true=>exact .inr rfl
    |false=>rw[hd]at h;exact .inl h
   |false=>rw[hc]at h;exact .inl h
  ·refine .inr ?_;unfold K9 at h;rw[h,Bool.or_true]
def G28 (c:CkP p):∃S,T13 p=some S/\RS p p.Decls.length false (inS p p.Decls.length true) S/\S.u.length=p.Decls.length/\S.Vars.length<=p.Decls.length:=by
 have z:=c.okp.decls.len;obtain⟨d,x,y,r⟩:=A1z c (zqr _) true;unfold T13;rw[x,ob,N1f p z,ob];refine⟨_,rfl,⟨rfl,.inr ⟨rfl,by simp only;omega,rfl⟩,zqr _,y,λb=>?_,L1m c _ _,by simp only;omega⟩,by simp,r⟩;rw[A17];cases h:K9 p.Decls b with
 |true=>rfl
 |false=>
  cases hk:(lkO b (inS p p.Decls.length true)).isSome with
  |false=>rfl
  |true=>
   have:(mgt b (inM p.Decls true (p.Decls.take p.Decls.length) 0 [])).isSome=true:=by
    revert hk
    unfold inS;simp only[lkO,J0.find];cases mgt b (inM p.Decls true (p.Decls.take p.Decls.length) 0 [])with
    |none=>exact λh=>h
    |some v=>exact λ_=>rfl
   rcases L25 _ _ _ _ _ _ this with h'|h'
   ·cases h'
   ·rw[List.take_length,h]at h';cases h'
def O21 (hb:p.bulk<=4200000)(I:CkP p)(hi:i<p.Decls.length)(g1:idx p.Decls i=some d)(g3:d∈p.Decls) :
  if (fnM (p.Decls.take i) (d.P++d.Vars) []).2 !=0 then∃S,Bu p i=some (S,(fnM (p.Decls.take i) (d.P++d.Vars) []).2)
  else∃S,Bu p i=some (S,0)/\RS p i true (some (.mk none (fnM (p.Decls.take i) (d.P++d.Vars) []).1)) S/\S.Vars.length<=8400000/\S.u.length<=16800000:=by
 have hl:=I.okp.decls.len;have a0:C0.bulks p.Decls<=4200000:=by cases p;simp only[I0.bulk]at hb;simp only;omega
 have a1:=C0.bulk_len p.Decls;have a3:=C0.bulk_mem g3;have a6:=C0.bulk_eq d;have a4:=C0.bulk_len d.P;have a5:=C0.bulk_len d.Vars;obtain⟨a2,J,T⟩:=I.small d g3;have D:∀v∈d.P++d.Vars,v.N.bulk<=4200000:=λv V=>(List.mem_append.1 V).elim (J v) (T v);unfold Bu;rw[g1,ob,N1f p hl,ob,zqj (by omega),zqj (by omega)];simp only[zt]
 have B:∀(r:List C0) (k:Nat) (m:List (Str×L0)) (x:List Q0) (tk:List Str),(d.P++d.Vars).drop k=r->k<=d.P.length+d.Vars.length->RM x m->MF m->x.length<=k->tk.length<=4200000+k->(∀b,(tk.any λy=>y==b)=bif K9 p.Decls b then true else(mgt b m).isSome)->
   if (fnM (p.Decls.take i) r m).2 !=0 then∃S,Hc p i x tk d k=some (S,(fnM (p.Decls.take i) r m).2)
   else∃S,Hc p i x tk d k=some (S,0)/\RS p i true (some (.mk none (fnM (p.Decls.take i) r m).1)) S/\S.Vars.length<=8400000/\S.u.length<=16800000:=by
  intro r
  induction r with
  |nil=>
   intro k m x tk h U X O V ht z;rw[Hc,(I1 h).1];show∃S,_=some (S,0)/\_;have c:x.length<=8400000/\tk.length<=16800000:=by omega
   refine⟨_,rfl,⟨rfl,.inl ⟨rfl,rfl⟩,by omega,X.rv,λb=>?_,SO.none.ext O,by simp only;unfold BB;omega⟩,c.1,c.2⟩;rw[z b];simp only[lkO,J0.find,fnM];cases mgt b m<;>rfl
  |cons v r ih=>
   intro k m x tk h U X O V ht z;obtain⟨e1,e2,e3,Y,Z⟩:=R1 h;have hk:k<8400000:=by simp at Y;omega
   rw[Hc,e1,zp rfl,e2,ob,Iu I rfl (by omega) (D v Z),ob,ob,ob,zqj (by omega),zqj (by omega),w1 (by unfold BB;omega)];simp only[fnM];by_cases hz:((F3 (p.Decls.take i) v.N).2 !=0)=true
   ·simp only[hz,zt,zqk];exact⟨_,rfl⟩
   ·simp only[Bool.not_eq_true]at hz;simp only[hz,zqa,zw,zt,zql];refine ih (k+1) _ _ _ e3 (by simp at Y;omega) (X.put _ _ _) (O.put _ (Yk (I.dok.take i) (D v Z))) (by simp;omega) (by simp;omega) λb=>?_;rw[List.any_append,z b,C11,H1j b v.Name];simp only[List.any_cons,List.any_nil,Bool.or_false];cases K9 p.Decls b<;>cases v.Name==b<;>simp
 exact B (d.P++d.Vars) 0 [] [] _ rfl (Nat.zero_le _) .nil (λq hq=>by cases hq) (zqr _) (by simp;omega) λb=>by rw[A17];cases K9 p.Decls b<;>rfl
def V1v (I:p.bulk<=4200000)(v:CkP p)(hi:i<p.Decls.length)(D:idx p.Decls i=some d)(x:d∈p.Decls)(y:d.K=6)(c:A0):Fv p i c=some (fnS p.Decls i d c):=by
 have O:=v.okp.decls.mem x;obtain⟨r,u⟩:=v.dec x;have T:E0.alls sform d.Body=true/\d.Value.all A3=true:=by
  unfold dform at r;simp only[zqi]at r;refine⟨r.2,?_⟩;have:=r.1.1.1.1.1.2;rw[show uV2 d.K=true by rw[y];rfl]at this;exact this
 have bn:E0.alls snumb d.Body=true/\d.Value.all F4=true:=by
  unfold dnumb at u;simp only[zqi]at u;exact⟨u.2,u.1.1.2⟩
 have V:E0.bulks d.Body<=4200000:=by
  have U:C0.bulks p.Decls<=4200000:=by cases p;simp only[I0.bulk]at I;simp only;omega
  have Y:=C0.bulk_mem x;have Z:=C0.bulk_eq d;omega
 have b:=O21 I v hi D x;unfold Fv fnS;rw[D,ob];generalize fnM (p.Decls.take i) (d.P++d.Vars) []=q at b⊢;cases hz:q.2 !=0 with
 |true=>
  rw[hz]at b;simp only[zt]at b;obtain⟨S,z⟩:=b;rw[z,ob];simp only[hz,zt,zqk]
 |false=>
  rw[hz]at b;simp only[zqa,zw]at b;obtain⟨S,z,B,l1,l2⟩:=b;rw[z,ob];show(B8 S d.Body false>>=λJ=>if J !=0 then some J else Wi S d.Value c>>=λX=>some X)=some (bif _ then _ else _);rw[T1q v d.Body ⟨O.body,T.1,bn.1⟩ _ S B (by unfold BB;omega),ob,B.val O.value T.2 bn.2,ob];exact ifO (λ_=>rfl) λ_=>rfl
def H28 (O:p.bulk<=4200000)(b:CkP p)(D:i<p.Decls.length)(y:idx p.Decls i=some d)(c:d∈p.Decls):S13 p i=some (Um p i d):=by
 have u:=(b.small d c).1;have V:=b.okp.decls.len;obtain⟨v,x⟩:=b.dec c;unfold S13 Um;rw[y,ob,Iu b rfl (by omega) u,ob];refine ifO (λ_=>rfl) λ_=>ifO (λT=>?_) λ_=>ifO (λI=>?_) λ_=>rfl
 ·have e:d.K=5:=by simpa using T
  rw[show Wa (F3 (List.take i p.Decls) d.N).1=some (scT (F3 (List.take i p.Decls) d.N).1)from rfl,ob];refine ifO (λ_=>rfl) λ_=>?_;have B:d.Value.all A3=true:=by
   unfold dform at v;simp only[zqi]at v;have:=v.1.1.1.1.1.2;rw[show uV2 d.K=true by rw[e];rfl]at this;exact this
  have J:d.Value.all F4=true:=by
   unfold dnumb at x;simp only[zqi]at x;exact x.1.1.2
  obtain⟨r,U,z,X⟩:=A1z b (n:=i) (by omega) false;rw[U,ob,Y1y (S:=S0.mk p (-1) r []) z (by simp only;omega) (L1m b i false) (b.okp.decls.mem c).value B J,ob]
 ·have e:d.K=6:=by simpa using I
  rw[V1v O b D y c e,ob]
def P2a (hb:p.bulk<=4200000):Us p=some (Km p.Decls p.Decls [] 0):=by
 have a0:C0.bulks p.Decls<=4200000:=by cases p;simp only[I0.bulk]at hb;simp only;omega
 have a1:=C0.bulk_len p.Decls;have hl:p.Decls.length<=BB:=by unfold BB;omega
 unfold Us;rw[N1f p hl,ob];have I:(p.Decls.map λd=>d.Name).length=p.Decls.length:=List.length_map ..;have B:∀(r:List C0) (k:Nat) (c:List Str),p.Decls.drop k=r->(∀u,K9 (p.Decls.take k) u=c.any λy=>y==u)->K8 p (p.Decls.map λd=>d.Name) k=some (Km p.Decls r c k):=by
  intro r
  induction r with
  |nil=>
   intro k c h Y;rw[K8,(I1 h).1];rfl
  |cons d r ih=>
   intro k c h Y;obtain⟨e1,e2,e3,Z,e5⟩:=R1 h;have a2:=C0.bulk_mem e5;have a5:=C0.bulk_eq d;have a3:=C0.bulk_len d.P;have a4:=C0.bulk_len d.Vars;rw[K8,e1,zp rfl,e2,ob,H1f (by rw[I];omega),ob,<-List.map_take,Z16 _ _ (by simp;omega),ob,A17,Y,zqj (by rw[I];omega),zp rfl];simp only[Km];have T:K8 p (p.Decls.map λd=>d.Name) (i64.wrap ((k:Int)+1))=some (Km p.Decls r (d.Name::c) (k+1)):=by
    rw[w1 (by omega)];refine ih (k+1) _ e3 λu=>?_;have e6:p.Decls.take (k+1)=p.Decls.take k++[d]:=by
     rw[List.take_succ_eq_append_getElem Z];have:=O1v Z;rw[e2]at this;cases this;rfl
    have:=Y u;unfold K9 at this⊢;rw[e6,List.any_append,this];simp only[List.any_cons,List.any_nil,Bool.or_false];rw[Bool.or_comm]
   have l3:∀(q:List C0) (j:Nat) (b:List Str) (v:List Str),d.Vars.drop j=q->b.length<=8400000+j->(∀u,(b.any λy=>y==u)=bif K9 p.Decls u then true else v.any λy=>y==u)->Pe p d (p.Decls.map λd=>d.Name) k b j=some (bif Tz p.Decls q v then(k:Int)else Km p.Decls r (d.Name::c) (k+1)):=by
    intro q
    induction q with
    |nil=>
     intro j b v h U x;rw[Pe,(I1 h).1,zn (by simp),T];rfl
    |cons y q D=>
     intro j b v h U x;obtain⟨O,X,V,f4,f5⟩:=R1 h;rw[Pe,O,zp rfl,X,ob,Z16 _ _ (by unfold BB;omega),ob,x y.Name,ob,zqj (by omega),w1 (by unfold BB;omega)];simp only[Tz];cases(bif K9 p.Decls y.Name then true else v.any λz=>z==y.Name)with
     |true=>rfl
     |false=>
      refine D (j+1) _ (y.Name::v) V (by simp;omega) λu=>?_;rw[List.any_append,x u];simp only[List.any_cons,List.any_nil,Bool.or_false];cases K9 p.Decls u<;>cases y.Name==u<;>simp
   have l2:∀(q:List C0) (j:Nat) (b:List Str) (v:List Str),d.P.drop j=q->j<=d.P.length->b.length<=4200000+j->(∀u,(b.any λy=>y==u)=bif K9 p.Decls u then true else v.any λy=>y==u)->Oe p d (p.Decls.map λd=>d.Name) k b j=some (bif Tz p.Decls (q++d.Vars) v then(k:Int)else Km p.Decls r (d.Name::c) (k+1)):=by
    intro q
    induction q with
    |nil=>
     intro j b v h J U x;rw[Oe,(I1 h).1,zn (by simp)];exact l3 d.Vars 0 b v rfl (by omega) x
    |cons y q D=>
     intro j b v h J U x;obtain⟨O,X,V,f4,f5⟩:=R1 h;rw[Oe,O,zp rfl,X,ob,Z16 _ _ (by unfold BB;omega),ob,x y.Name,ob,zqj (by omega),w1 (by unfold BB;omega)];simp only[Tz,List.cons_append];cases(bif K9 p.Decls y.Name then true else v.any λz=>z==y.Name)with
     |true=>rfl
     |false=>
      refine D (j+1) _ (y.Name::v) V (by omega) (by simp;omega) λu=>?_;rw[List.any_append,x u];simp only[List.any_cons,List.any_nil,Bool.or_false];cases K9 p.Decls u<;>cases y.Name==u<;>simp
   have:=l2 d.P 0 (p.Decls.map λd=>d.Name) [] rfl (Nat.zero_le _) (by simp;omega) λu=>by rw[A17];cases K9 p.Decls u<;>rfl
   rw[show(0:Int)=((0:Nat):Int)from rfl,this];cases c.any λy=>y==d.Name with
   |true=>rfl
   |false=>cases Tz p.Decls (d.P++d.Vars) []<;>rfl
 exact B p.Decls 0 [] rfl λu=>rfl
def W1v {n v:Int}(x:0<=n)(d:0<=u)(c:0<=v)(r:0<=K)(h:min u K=min v K):min (n*u) K=min (n*v) K:=by
 by_cases e:u=v
 ·rw[e]
 ·have z:K<=u:=by omega
  have y:K<=v:=by omega
  by_cases n0:n=0
  ·rw[n0,Int.zero_mul,Int.zero_mul]
  ·have a:1*u<=n*u:=Int.mul_le_mul_of_nonneg_right (by omega) d;have b:1*v<=n*v:=Int.mul_le_mul_of_nonneg_right (by omega) c;omega
def O1b {n N U:Int}(c:0<=n)(r:n<=N)(b:0<=u)(d:u<=U):0<=n*u/\n*u<=N*U:=
 ⟨Int.mul_nonneg c b,Int.mul_le_mul r d b (by omega)⟩
structure SA (x:O0)(a:Int×Int):Prop where
 p1:0<=x.k/\x.k<=1073741824
 p2:0<=x.m/\x.m<=1073741824
 r1:0<=a.1/\a.1<=1000000
 r2:0<=a.2/\a.2<=1000000
 le:a.2<=a.1
 e1:min x.k 4097=min a.1 4097
 e2:min x.m 9=min a.2 9
def SA.zero:SA ⟨0,0⟩ (0,0):=⟨by decide,by decide,by decide,by decide,by decide,rfl,rfl⟩
def M25 (n:Int):M12 n=some (min n 1000000):=by
 unfold M12;rw[Bk,ob]
def O1f (v n w st ou:Int)(x2 x3 xc:Int×Int):Int×Int:=(min (st+1+(bif v==5 then max x2.1 x3.1 else bif v==6 then n*(1+x2.1)else bif v==7 then w*(1+x2.1)else bif v==1 then xc.1 else 0)) 1000000, min (ou+(bif v==3 then 1 else bif v==5 then max x2.2 x3.2 else bif v==6 then n*x2.2 else bif v==7 then w*x2.2 else bif v==1 then xc.2 else 0)) 1000000)
def P21 {P:I0}{l:List E0}{k:Nat}(hk:k<=BB){r:Int}{x2 x3 xc:Int×Int}(D:0<=x2.1/\x2.1<=1000000/\0<=x2.2/\x2.2<=1000000)(h3:0<=x3.1/\x3.1<=1000000/\0<=x3.2/\x3.2<=1000000)(hc:0<=xc.1/\xc.1<=1000000/\0<=xc.2/\xc.2<=1000000)
  (hs:0<=c/\c<=1000000/\0<=r/\r<=1000000) (hn:x.S=6->0<=x.NV/\x.NV<=4096) (hw:x.S=7->0<=wi (wi (x.H-x.Low)+1)/\wi (wi (x.H-x.Low)+1)<=4096)
  (g:idx l k=some x) (I:decide ((k:Int)<(l.length:Int))=true) (hT:N4 P x.Then n=some x2) (hE:N4 P x.Else n=some x3)
  (hC:x.S=1->∃j d,Qe P 6 x.Name n=some j/\idx P.Decls j=some d/\N4 P d.Body j=some xc) :
  Q4 P l n c r k=Q4 P l n (O1f x.S x.NV (wi (wi (x.H-x.Low)+1)) c r x2 x3 xc).1 (O1f x.S x.NV (wi (wi (x.H-x.Low)+1)) c r x2 x3 xc).2 ((k+1:Nat):Int):=by
 have X:∀a b,Zp P l n a b k=Q4 P l n (min a 1000000) (min b 1000000) ((k+1:Nat):Int):=λa b=>by
  rw[Zp,M25,ob,M25,ob,w1 hk]
 have w:∀{a:Int},0<=a->a<=8000000000->i64.wrap a=a:=λh h'=>wr (by omega) (by omega);have f:∀{m:Int},x.S≠m->(x.S==m)=false:=λh=>zqn.2 h;have t:∀{m:Int},x.S=m->(x.S==m)=true:=λh=>by rw[h];exact zqm _
 have V:∀a b,x.S≠5->Tl P l n x a b k x2 x3=Ii P l n x a b k x2:=λa b h=>by rw[Tl,f h];rfl
 have T:∀a b,x.S≠6->Ii P l n x a b k x2=Ji P l n x a b k x2:=λa b h=>by rw[Ii,f h];rfl
 have B:∀a b,x.S≠7->Ji P l n x a b k x2=Li P l n x a b k:=λa b h=>by rw[Ji,f h];rfl
 have z:∀a b,x.S≠1->Li P l n x a b k=Q4 P l n (min a 1000000) (min b 1000000) ((k+1:Nat):Int):=λa b h=>by rw[Li,f h];exact X a b
 have U:i64.wrap (c+1)=c+1:=w (by omega) (by omega);rw[Q4,I,zp rfl,g,ob,hT,ob,hE,ob];unfold O1f;by_cases v3:x.S=3
 ·rw[t v3,zp rfl,V _ _ (by omega),T _ _ (by omega),B _ _ (by omega),z _ _ (by omega),U,w (a:=r+1) (by omega) (by omega),v3];show _=Q4 P l n (min (c+1+0) 1000000) (min (r+1) 1000000) _;rw[Int.add_zero]
 rw[f v3,zn (by simp),U];by_cases v5:x.S=5
 ·rw[Tl,t v5,zp rfl,Gl,ob,Gl,ob,T _ _ (by omega),B _ _ (by omega),z _ _ (by omega),w (a:=c+1+max x2.1 x3.1) (by omega) (by omega),w (a:=r+max x2.2 x3.2) (by omega) (by omega)];rfl
 rw[V _ _ v5];by_cases v6:x.S=6
 ·obtain⟨v,y⟩:=hn v6;obtain⟨J,q2⟩:=O1b v y (u:=1+x2.1) (by omega) (show 1+x2.1<=1000001 by omega);obtain⟨O,Y⟩:=O1b v y D.2.2.1 D.2.2.2;rw[Ii,t v6,zp rfl,B _ _ (by omega),z _ _ (by omega),w (a:=1+x2.1) (by omega) (by omega),w J (by omega),w O (by omega),w (a:=c+1+x.NV*(1+x2.1)) (by omega) (by omega),w (a:=r+x.NV*x2.2) (by omega) (by omega),f v5];rfl
 rw[T _ _ v6];by_cases v7:x.S=7
 ·obtain⟨v,y⟩:=hw v7;have e0:i64.wrap (i64.wrap (x.H-x.Low)+1)=wi (wi (x.H-x.Low)+1):=rfl;rw[Ji,t v7,zp rfl,z _ _ (by omega),e0];generalize wi (wi (x.H-x.Low)+1)=W at v y⊢;obtain⟨J,q2⟩:=O1b v y (u:=1+x2.1) (by omega) (show 1+x2.1<=1000001 by omega);obtain⟨O,Y⟩:=O1b v y D.2.2.1 D.2.2.2;rw[w (a:=1+x2.1) (by omega) (by omega),w J (by omega),w O (by omega),w (a:=c+1+W*(1+x2.1)) (by omega) (by omega),w (a:=r+W*x2.2) (by omega) (by omega),f v5,f v6];rfl
 rw[B _ _ v7];by_cases v1:x.S=1
 ·obtain⟨j,d,Z,c2,c3⟩:=hC v1;rw[Li,t v1,zp rfl,Z,ob,c2,ob,c3,ob,w (a:=c+1+xc.1) (by omega) (by omega),w (a:=r+xc.2) (by omega) (by omega),X,f v5,f v6,f v7];rfl
 ·rw[z _ _ v1,f v5,f v6,f v7,f v1];simp only[zql,Int.add_zero]
def Q21 {b:Int}(h:0<=a*b)(h':a*b<=4611686018427387904):tmI a b=min (a*b) 1073741824:=by
 unfold tmI;rw[wis (by omega) h']
def X2c {b:Int}(h:0<=a+b)(h':a+b<=4611686018427387904):plI a b=min (a+b) 1073741824:=by
 unfold plI;rw[wis (by omega) h']
def N25 {n:Int}(b:0<=n)(r:n<=4096){v:Int}(d:0<=u/\u<=1073741825)(c:0<=v/\v<=1000001)(x:0<=K/\K<=4097)(h:min u K=min v K) :
  0<=tmI n u/\tmI n u<=1073741824/\0<=n*v/\n*v<=4100000000/\min (tmI n u) K=min (n*v) K:=by
 obtain⟨y,B⟩:=O1b b r d.1 d.2;obtain⟨D,z⟩:=O1b b r c.1 c.2;have:=W1v b d.1 c.1 x.1 h;rw[Q21 y (by omega)];omega
def R1m {b:Int}(r:0<=a/\a<=1073741824)(d:0<=b/\b<=1073741824):(0<=plI a b/\plI a b<=1073741824)/\∀K,K<=1073741824->min (plI a b) K=min (a+b) K:=by
 rw[X2c (by omega) (by omega)];exact⟨by omega,λK c=>by omega⟩
def S1m {b d:Int}(x:0<=a)(u:0<=b)(r:0<=c)(v:0<=d)(h:min a K=min c K)(h':min b K=min d K):min (a+b) K=min (c+d) K:=by omega
def X1v {C:Int}(h:K<=C):min (min a C) K=min a K:=by omega
def V19 {a y:O0}{U T v:Int}(ha:SA a (U,T))(r:0<=y.k/\y.k<=1073741824)(x:0<=y.m/\y.m<=1073741824)(hu:0<=u)(hv:0<=v)(a0:v<=u+1)(O:min y.k 4097=min u 4097)(J:min y.m 9=min v 9) :
  SA (adA (adA a ⟨1,0⟩) y) (min (U+1+u) 1000000,min (T+v) 1000000):=by
 obtain⟨a1,a3,Y,Z,a9,c,d⟩:=ha;simp only at Y Z a9 c d;obtain⟨V,I⟩:=R1m a1 (b:=1) (by decide);obtain⟨s3,D⟩:=R1m V r;obtain⟨X,z⟩:=R1m a3 (b:=0) (by decide);obtain⟨t3,B⟩:=R1m X x;refine⟨s3,t3,?_,?_,?_,?_,?_⟩
 ·clear I D z B O J c d;simp only;omega
 ·clear I D z B O J c d;simp only;omega
 ·clear I D z B O J c d;simp only;omega
 ·show min (plI (plI a.k 1) y.k) 4097=min (min (U+1+u) 1000000) 4097;rw[D _ (by omega),X1v (by omega)];refine S1m V.1 r.1 (by omega) hu ?_ O;rw[I _ (by omega)];exact S1m a1.1 (by omega) Y.1 (by omega) c rfl
 ·show min (plI (plI a.m 0) y.m) 9=min (min (T+v) 1000000) 9;rw[B _ (by omega),X1v (by omega)];refine S1m X.1 x.1 Z.1 hv ?_ J;rw[z _ (by omega),Int.add_zero];exact d
def O25 {b d:Int}(h:min a K=min c K)(h':min b K=min d K):min (max a b) K=min (max c d) K:=by omega
def Y28 {n:Int}(c:0<=n)(y:n<=4096){b:O0}{x2:Int×Int}(h:SA b x2):(0<=(rdA n b).k/\(rdA n b).k<=1073741824)/\(0<=(rdA n b).m/\(rdA n b).m<=1073741824)/\0<=n*(1+x2.1)/\0<=n*x2.2/\n*x2.2<=n*(1+x2.1)/\
  min (rdA n b).k 4097=min (n*(1+x2.1)) 4097/\min (rdA n b).m 9=min (n*x2.2) 9:=by
 obtain⟨x,b3,I,O,b9,r,d⟩:=h;obtain⟨J,Z⟩:=R1m (a:=1) (by decide) x;have e:min (plI 1 b.k) 4097=min (1+x2.1) 4097:=by
  rw[Z _ (by omega)];exact S1m (by omega) x.1 (by omega) I.1 rfl r
 obtain⟨T,D,z,t4,U⟩:=N25 c y (u:=plI 1 b.k) (v:=1+x2.1) (K:=4097) ⟨J.1,by omega⟩ ⟨by omega,by omega⟩ (by omega) e;obtain⟨X,Y,V,o4,B⟩:=N25 c y (u:=b.m) (v:=x2.2) (K:=9) ⟨b3.1,by omega⟩ ⟨O.1,by omega⟩ (by omega) d;exact⟨⟨T,D⟩,⟨X,Y⟩,z,V,Int.mul_le_mul_of_nonneg_left (by omega) c,U,B⟩
def Q2a {m:List (Str×O0)}{a:O0}{Z Y:Int}{x2 x3 xc:Int×Int}(z:SA a (Z,Y))(X:SA (E0.ams m x.Then ⟨0,0⟩) x2)(h3:SA (E0.ams m x.Else ⟨0,0⟩) x3)
  (hn:x.S=6->0<=x.NV/\x.NV<=4096) (hw:x.S=7->0<=wi (wi (x.H-x.Low)+1)/\wi (wi (x.H-x.Low)+1)<=4096) (hc:x.S=1->SA ((mgt x.Name m).getD O0.zero) xc) :
  SA (adA (adA a ⟨1,0⟩) (x.am m)) (O1f x.S x.NV (wi (wi (x.H-x.Low)+1)) Z Y x2 x3 xc):=by
 rw[E0.am_eq];unfold O1f;have f:∀{m:Int},x.S≠m->(x.S==m)=false:=λh=>zqn.2 h;by_cases v3:x.S=3
 ·rw[v3];exact V19 z (y:=⟨0,1⟩) (u:=0) (v:=1) (by simp) (by simp) (by omega) (by omega) (by omega) rfl rfl
 by_cases v5:x.S=5
 ·rw[v5];obtain⟨b1,b3,b5,b7,b9,d,c⟩:=X;obtain⟨d1,d3,d5,d7,d9,b,r⟩:=h3;refine V19 z (y:=mxA (E0.ams m x.Then ⟨0,0⟩) (E0.ams m x.Else ⟨0,0⟩)) (u:=max x2.1 x3.1) (v:=max x2.2 x3.2) ?_ ?_ ?_ ?_ ?_ (O25 d b) (O25 c r)
  ·clear d c b r;simp only[mxA];omega
  ·clear d c b r;simp only[mxA];omega
  ·clear d c b r;omega
  ·clear d c b r;omega
  ·clear d c b r;omega
 by_cases v6:x.S=6
 ·obtain⟨D,J⟩:=hn v6;obtain⟨T,O,U,V,r5,B,I⟩:=Y28 D J X;rw[v6];exact V19 z (u:=x.NV*(1+x2.1)) (v:=x.NV*x2.2) T O U V (by omega) B I
 by_cases v7:x.S=7
 ·obtain⟨D,J⟩:=hw v7;obtain⟨T,O,U,V,r5,B,I⟩:=Y28 D J X;rw[v7];exact V19 z (u:=wi (wi (x.H-x.Low)+1)*(1+x2.1)) (v:=wi (wi (x.H-x.Low)+1)*x2.2) T O U V (by omega) B I
 by_cases v1:x.S=1
 ·obtain⟨c1,c2,c3,c4,c5,c6,c7⟩:=hc v1;rw[v1];exact V19 z (u:=xc.1) (v:=xc.2) c1 c2 c3.1 c4.1 (by omega) c6 c7
 ·rw[f v3,f v5,f v6,f v7,f v1];exact V19 z (y:=⟨0,0⟩) (u:=0) (v:=0) (by simp) (by simp) (by omega) (by omega) (by omega) rfl rfl
mutual
def E0.cl:E0->List Str
 |.mk v _ _ nm _ _ _ _ _ th el=>(bif v==1 then[nm]else[])++(E0.cls th++E0.cls el)
def E0.cls:List E0->List Str
 |[]=>[]
 |x::r=>E0.cl x++E0.cls r
end
def E0.cl_eq (x:E0):x.cl=(bif x.S==1 then[x.Name]else[])++(E0.cls x.Then++E0.cls x.Else):=by cases x;simp only[E0.cl]
def B1z {x:E0}:∀{l:List E0},x∈l->∀b∈x.cl,b∈E0.cls l
 |y::r,h,b,c=>by
  simp only[E0.cls,List.mem_append];cases h with
  |head=>exact .inl c
  |tail _ h=>exact .inr (B1z h b c)
def R21 (h:sform x=true):(x.S≠5->x.S≠6->x.S≠7->x.Then=[])/\(x.S≠5->x.Else=[]):=by
 unfold sform at h;simp only[zqi]at h;obtain⟨⟨_,d⟩,r⟩:=h;refine⟨λa b c=>?_,λa=>?_⟩
 ·unfold uTh at d;rw[zqn.2 a,zqn.2 b,zqn.2 c]at d;simpa using d
 ·rw[zqn.2 a]at r;simpa using r
def P25 (h:snumb x=true):(x.S=6->0<=x.NV/\x.NV<=4096)/\(x.S=7->0<=wi (wi (x.H-x.Low)+1)/\wi (wi (x.H-x.Low)+1)<=4096):=by
 unfold snumb at h;simp only[zqi]at h;have c:=h.2;unfold Eu G3 at c;refine⟨λe=>?_,λe=>?_⟩
 ·rw[e]at c;simp only[show((6:Int)==4)=false from rfl,show((6:Int)==6)=true from rfl,zql,zqk]at c;by_cases a:x.NV>=0
  ·by_cases b:x.NV<=4096
   ·exact⟨a,b⟩
   ·simp[a,b]at c
  ·simp[a]at c
 ·rw[e]at c;simp only[show((7:Int)==4)=false from rfl,show((7:Int)==6)=false from rfl,show((7:Int)==7)=true from rfl,zql,zqk]at c;by_cases a:x.Low>=-1048576
  ·by_cases a2:x.Low<=1048576
   ·by_cases b:x.H>=x.Low
    ·by_cases d:x.H<=1048576
     ·by_cases f:x.H-x.Low<4096
      ·rw[wis (n:=x.H-x.Low) (by omega) (by omega),wis (by omega) (by omega)];omega
      ·simp[a,a2,b,d,f]at c
     ·simp[a,a2,b,d]at c
    ·simp[a,a2,b]at c
   ·simp[a,a2]at c
  ·simp[a]at c
def U1q {ds:List C0}{u:Bool}(l:List E0):E0.alls sform l=true->∀s c,E0.sts ds n u l s c=0->∀d∈E0.cls l,∃j,V8 6 d (ds.take n) 0=some j:=by
 refine E0.inds (Q:=λl=>E0.alls sform l=true->∀s c,E0.sts ds n u l s c=0->∀d∈E0.cls l,∃j,V8 6 d (ds.take n) 0=some j) (λl ih=>?_) l;have V:∀x∈l,sform x=true->E0.alls sform x.Then=true->E0.alls sform x.Else=true->∀s D,x.st ds n u s D=0->∀d∈x.cl,∃j,V8 6 d (ds.take n) 0=some j:=λx Z J ft fe s D h d v=>by
  obtain⟨k1,k2⟩:=R21 J;obtain⟨X,i2⟩:=ih x Z;have T:∀{a b:Int},(bif a !=0 then a else b)=0->a=0/\b=0:=λ{a b} h=>by
   by_cases ha:a=0
   ·rw[ha]at h;exact⟨ha,h⟩
   ·rw[show(a !=0)=true by simpa[bne]using ha]at h;exact absurd h ha
  rw[E0.st_eq]at h;rw[E0.cl_eq,List.mem_append,List.mem_append]at v;by_cases v1:x.S=1
  ·rw[k1 (by omega) (by omega) (by omega),k2 (by omega),v1]at v;rw[v1]at h;change X16 ds n s x.I x.Name x.B=0 at h;have e:d=x.Name:=by
    rcases v with q|q|q
    ·exact List.mem_singleton.1 q
    ·simp[E0.cls]at q
    ·simp[E0.cls]at q
   rw[e];unfold X16 at h;have h2:=(T h).2;cases hf6:V8 6 x.Name (ds.take n) 0 with
   |none=>rw[hf6]at h2;exact absurd h2 (by simp)
   |some j=>exact⟨j,rfl⟩
  ·rw[zqn.2 v1]at v;have z:d∈E0.cls x.Then\/d∈E0.cls x.Else:=v.elim (λq=>by simp at q) id;by_cases v5:x.S=5
   ·rw[v5]at h;obtain⟨_,h⟩:=T h;obtain⟨h6,h7⟩:=T h;exact z.elim (X ft s false h6 d) (i2 fe s false h7 d)
   ·have U:d∈E0.cls x.Then:=z.elim id λq=>by rw[k2 v5]at q;simp[E0.cls]at q
    by_cases v6:x.S=6
    ·rw[v6]at h;exact X ft s false (T h).2 d U
    ·by_cases v7:x.S=7
     ·rw[v7]at h;change(bif (bif K9 ds x.Name then true else(Tm s x.Name).2)then(8:Int)else E0.sts ds n u x.Then (Y16 s x.Name x.Low x.H) false)=0 at h;cases hc:(bif K9 ds x.Name then true else(Tm s x.Name).2)with
      |true=>rw[hc]at h;simp at h
      |false=>rw[hc]at h;exact X ft _ false h d U
     ·rw[k1 v5 v6 v7]at U;simp[E0.cls]at U
 have O:∀r:List E0,(∀x∈r,x∈l)->E0.alls sform r=true->∀s c,E0.sts ds n u r s c=0->∀d∈E0.cls r,∃j,V8 6 d (ds.take n) 0=some j:=by
  intro r
  induction r with
  |nil=>intro _ _ s c _ d h;simp[E0.cls]at h
  |cons x r Y=>
   intro hm J s c h d hn;obtain⟨f1,f2,f3⟩:=Ro J zqp;simp only[E0.alls,zqi]at J;simp only[E0.sts]at h;simp only[E0.cls,List.mem_append]at hn;by_cases hz:x.st ds n u s (bif c then r.isEmpty else false)=0
   ·rw[hz]at h;rcases hn with hn|hn
    ·exact V x (hm x zqp) f1 f2 f3 s _ hz d hn
    ·exact Y (λy hy=>hm y (zqq _ hy)) J.2 s c h d hn
   ·rw[show(x.st ds n u s (bif c then r.isEmpty else false)!=0)=true by simpa[bne]using hz]at h;exact absurd h hz
 exact O l λx Z=>Z
def T1m (P:I0)(n:Nat)(m:List (Str×O0))(nm:Str):Prop:=∃(j:Nat) (d:C0) (a:Int×Int),Qe P 6 nm n=some (j:Int)/\idx P.Decls (j:Int)=some d/\N4 P d.Body j=some a/\SA ((mgt nm m).getD O0.zero) a
def P1f {P:I0}{m:List (Str×O0)}(l:List E0):WfS l->(∀c∈E0.cls l,T1m P n m c)->∃a,N4 P l n=some a/\SA (E0.ams m l ⟨0,0⟩) a:=by
 refine E0.inds (Q:=λl=>WfS l->(∀c∈E0.cls l,T1m P n m c)->∃a,N4 P l n=some a/\SA (E0.ams m l ⟨0,0⟩) a) (λl ih V hc=>?_) l;have hl:=V.ok.len;have O:∀(r:List E0) (k:Nat) (a:O0) (U T:Int),l.drop k=r->SA a (U,T)->∃b,Q4 P l n U T k=some b/\SA (E0.ams m r a) b:=by
  intro r
  induction r with
  |nil=>
   intro k a U T h z;rw[Q4,(I1 h).1];exact⟨_,rfl,z⟩
  |cons x r Z=>
   intro k a U T h z;obtain⟨e1,e2,e3,e4,B⟩:=R1 h;have v:∀c∈x.cl,T1m P n m c:=λc I=>hc c (B1z B c I);rw[E0.cl_eq]at v;obtain⟨x2,t1,D⟩:=(ih x B).1 (V.kids B).1 λc I=>v c (List.mem_append.2 (.inr (List.mem_append.2 (.inl I))));obtain⟨x3,u1,J⟩:=(ih x B).2 (V.kids B).2 λc I=>v c (List.mem_append.2 (.inr (List.mem_append.2 (.inr I))));obtain⟨n1,n2⟩:=P25 (Ro V.numb B).1;have y:∃u:Int×Int,(0<=u.1/\u.1<=1000000/\0<=u.2/\u.2<=1000000)/\(x.S=1->∃j d,Qe P 6 x.Name n=some j/\idx P.Decls j=some d/\N4 P d.Body j=some u)/\(x.S=1->SA ((mgt x.Name m).getD O0.zero) u):=by
    by_cases v1:x.S=1
    ·obtain⟨j,d,u,X,Y,c3,c4⟩:=v x.Name (by rw[v1];simp);exact⟨u,⟨c4.r1.1,c4.r1.2,c4.r2.1,c4.r2.2⟩,λ_=>⟨j,d,X,Y,c3⟩,λ_=>c4⟩
    ·exact⟨(0,0),by decide,λh=>absurd h v1,λh=>absurd h v1⟩
   obtain⟨u,X,Y,c3⟩:=y;rw[P21 (by omega) ⟨D.r1.1,D.r1.2,D.r2.1,D.r2.2⟩ ⟨J.r1.1,J.r1.2,J.r2.1,J.r2.2⟩ X ⟨z.r1.1,z.r1.2,z.r2.1,z.r2.2⟩ n1 n2 e2 e1 t1 u1 Y];exact Z (k+1) _ _ _ e3 (Q2a z D J n1 n2 c3)
 rw[N4];exact O l 0 _ 0 0 rfl .zero
def oSt:E0:=E0.mk 3 (D0.mk 0 0 [] []) (D0.mk 0 0 [] []) [] [] 0 0 0 [] [] []
def wSt:E0:=E0.mk 4 (D0.mk 0 0 [] []) (D0.mk 0 0 [] []) [] [] 0 0 0 [] [] []
def C1z (c:Int)(r:c<=5000):∀(j:Nat) (b:List E0) (i:Int),0<=i->i+j=c->b.length<=i->Ya c b i=some (b++List.replicate j wSt)
 |0,b,i,u,h,d=>by
  rw[Ya,zqs (by omega)];simp
 |j+1,b,i,u,h,d=>by
  rw[Ya,zqj (by omega),zp rfl,zqj (by omega),zp rfl,wr (by omega) (by omega)];have:=C1z c r j (b++[wSt]) (i+1) (by omega) (by omega) (by simp;omega);rw[show(E0.mk 4 (D0.mk 0 0 [] []) (D0.mk 0 0 [] []) [] [] 0 0 0 [] [] [])=wSt from rfl,this];simp[List.replicate_succ]
def D1z (c x2:Int)(r:c<=5000)(d:x2<=c):∀(j:Nat) (b:List E0) (i:Int),0<=i->i+j=x2->b.length=i->Za c x2 b i=some (b++List.replicate j oSt++List.replicate (c-x2).toNat wSt)
 |0,b,i,v,h,u=>by
  rw[Za,zqs (by omega),zn (by simp),C1z c r (c-x2).toNat b x2 (by omega) (by omega) (by omega)];simp
 |j+1,b,i,v,h,u=>by
  rw[Za,zqj (by omega),zp rfl,zqj (by omega),zp rfl,wr (by omega) (by omega)];have:=D1z c x2 r d j (b++[oSt]) (i+1) (by omega) (by omega) (by simp;omega);rw[show(E0.mk 3 (D0.mk 0 0 [] []) (D0.mk 0 0 [] []) [] [] 0 0 0 [] [] [])=oSt from rfl,this];simp[List.replicate_succ]
def flS (a b:Int):List E0:=List.replicate (min b 9).toNat oSt++List.replicate (min a 4097-min b 9).toNat wSt
def Y1v {b:Int}(c:0<=b)(h:b<=a):Xs a b=some (flS a b):=by
 unfold Xs;rw[Bk,ob,Bk,ob,D1z _ _ (by omega) (by omega) (min b 9).toNat [] 0 (by omega) (by omega) rfl];rfl
def Ju:List E0->Nat
 |[]=>0
 |x::r=>(bif x.S==3 then 1 else 0)+Ju r
def B17 (P:I0)(n:Nat):N4 P [] n=some (0,0):=by
 rw[N4,Q4];rfl
def I1j {P:I0}{n:Nat}{l:List E0}(B:l.length<=BB)(d:∀x∈l,x=oSt\/x=wSt):∀(r:List E0) (k:Nat) (c b:Int),l.drop k=r->0<=b/\b<=c->c+r.length<=1000000->Q4 P l n c b k=some (c+r.length,b+Ju r)
 |[],k,c,b,h,O,J=>by
  rw[Q4,(I1 h).1];simp[Ju]
 |x::r,k,c,b,h,O,J=>by
  obtain⟨v,u,D,T,I⟩:=R1 h;have y:((x::r).length:Int)=1+r.length:=by simp;omega
  have z:(0:Int)<=0/\(0:Int)<=1000000/\(0:Int)<=0/\(0:Int)<=1000000:=by decide
  rcases d x I with rfl|rfl
  ·rw[P21 (x:=oSt) (x2:=(0,0)) (x3:=(0,0)) (xc:=(0,0)) (by omega) z z z (by omega) (λh=>absurd h (by decide)) (λh=>absurd h (by decide)) u v (B17 _ _) (B17 _ _) (λh=>absurd h (by decide))];show Q4 P l n (min (c+1+0) 1000000) (min (b+1) 1000000) _=_;rw[I1j B d r (k+1) _ _ D (by omega) (by omega)];show some _=some (_,b+(((1+Ju r:Nat)):Int));refine congrArg some (Prod.ext ?_ ?_)
   ·show min (c+1+0) 1000000+(r.length:Int)=c+((oSt::r).length:Int);omega
   ·show min (b+1) 1000000+(Ju r:Int)=_;omega
  ·rw[P21 (x:=wSt) (x2:=(0,0)) (x3:=(0,0)) (xc:=(0,0)) (by omega) z z z (by omega) (λh=>absurd h (by decide)) (λh=>absurd h (by decide)) u v (B17 _ _) (B17 _ _) (λh=>absurd h (by decide))];show Q4 P l n (min (c+1+0) 1000000) (min (b+0) 1000000) _=_;rw[I1j B d r (k+1) _ _ D (by omega) (by omega)];show some _=some (_,b+(((0+Ju r:Nat)):Int));refine congrArg some (Prod.ext ?_ ?_)
   ·show min (c+1+0) 1000000+(r.length:Int)=c+((wSt::r).length:Int);omega
   ·show min (b+0) 1000000+(Ju r:Int)=_;omega
def N1h:∀a b:List E0,Ju (a++b)=Ju a+Ju b
 |[],b=>by simp[Ju]
 |x::a,b=>by simp only[List.cons_append,Ju,N1h a b];omega
def Q25:∀k,Ju (List.replicate k oSt)=k
 |0=>rfl
 |k+1=>by rw[List.replicate_succ,Ju,Q25 k,show(oSt.S==3)=true from rfl];simp;omega
def R25:∀k,Ju (List.replicate k wSt)=0
 |0=>rfl
 |k+1=>by rw[List.replicate_succ,Ju,R25 k,show(wSt.S==3)=false from rfl];rfl
def S25 {b:Int}(r:0<=b)(h:b<=a)(P:I0)(n:Nat):N4 P (flS a b) n=some (min a 4097,min b 9):=by
 have c:((flS a b).length:Int)=min a 4097:=by unfold flS;simp;omega
 have d:((Ju (flS a b):Nat):Int)=min b 9:=by unfold flS;rw[N1h,Q25,R25];omega
 rw[N4];have:=I1j (P:=P) (n:=n) (l:=flS a b) (by unfold BB;omega) (λx hx=>by
  unfold flS at hx;rcases List.mem_append.1 hx with hx|hx
  ·exact .inl (List.eq_of_mem_replicate hx)
  ·exact .inr (List.eq_of_mem_replicate hx)) (flS a b) 0 0 0 rfl (by omega) (by omega)
 rw[c,d]at this;simpa using this
def kn (d:C0):Int×Str:=(d.K,d.Name)
def Z1v (c:Int)(r:Str):∀(a b:List C0) (k:Nat),a.map kn=b.map kn->V8 c r a k=V8 c r b k
 |[],[],_,_=>rfl
 |[],_::_,_,h=>by cases h
 |_::_,[],_,h=>by cases h
 |x::a,y::b,k,h=>by
  simp only[List.map_cons,List.cons.injEq]at h;obtain⟨d,u⟩:=h;simp only[kn,zqh]at d;simp only[V8,d.1,d.2,Z1v c r a b (k+1) u]
def U1m (b:List C0):∀(a:List C0) (m:List (Str×O0)),amM (a++b) m=amM b (amM a m)
 |[],m=>rfl
 |d::a,m=>by simp only[List.cons_append,amM];exact U1m b a _
def E1z {ds:List C0}:∀{r:List C0} {c:List Str} {k:Nat},Km ds r c k<0->(∀d∈r,(c.any λy=>y==d.Name)=false)/\r.Pairwise λa b=>a.Name≠b.Name
 |[],_,_,_=>⟨λd h=>(by cases h),.nil⟩
 |d::r,c,k,h=>by
  simp only[Km]at h;cases h1:c.any λy=>y==d.Name with
  |true=>rw[h1]at h;simp only[zqk]at h;omega
  |false=>
   rw[h1]at h;simp only[zql]at h;cases h2:Tz ds (d.P++d.Vars) []with
   |true=>rw[h2]at h;simp only[zqk]at h;omega
   |false=>
    rw[h2]at h;obtain⟨v,x⟩:=E1z (r:=r) h;refine⟨λe u=>?_,.cons (λe u=>?_) x⟩
    ·cases u with
     |head=>exact h1
     |tail _ u=>have:=v e u;rw[List.any_cons,Bool.or_eq_false_iff]at this;exact this.2
    ·have:=v e u;rw[List.any_cons,Bool.or_eq_false_iff]at this;exact zqn.1 this.1
structure CI (p:I0)(i:Nat)(a1:List C0):Prop where
 kns:a1.map kn=p.Decls.map kn
 hi:∀k,i<=k->a1[k]?=p.Decls[k]?
 lo:∀(k:Nat) d d',k<i->p.Decls[k]?=some d->a1[k]?=some d'->d.K=6->∃a,(∀P (n:Nat),N4 P d'.Body n=some a)/\SA ((mgt d.Name (amM (p.Decls.take i) [])).getD O0.zero) a
def CI.len {b:List C0}(h:CI p i b):b.length=p.Decls.length:=by simpa using congrArg List.length h.kns
def CI.call (V:p.Decls.length<=BB){b:List C0}(h:CI p i b)(T:i<=p.Decls.length){c:Str}(x:∃j,V8 6 c (p.Decls.take i) 0=some j):T1m (I0.mk b []) i (amM (p.Decls.take i) []) c:=by
 obtain⟨j,r⟩:=x;obtain⟨D,U,J,O,v,u⟩:=P15 r;have I:=h.len;have z:V8 6 c (b.take i) 0=some j:=by
  rw[<-r];exact Z1v _ _ _ _ _ (by rw[List.map_take,List.map_take,h.kns])
 have y:p.Decls[j]?=some (p.Decls.getD j default):=by simpa using Dn J
 obtain⟨a,B,d⟩:=h.lo j _ b[j] D y (zqv (by omega)) (by simpa using v);refine⟨j,b[j],a,?_,O1v (show j<b.length by omega),B _ _,?_⟩
 ·rw[Q15 (I0.mk b []) 6 c i (show i<=b.length by omega) (show b.length<=BB by omega)];show some (K1b (V8 6 c (b.take i) 0))=_;rw[z];rfl
 ·rw[eq_of_beq u]at d;exact d
def O1h (hb:p.bulk<=4200000)(J:CkP p)(a0:Km p.Decls p.Decls [] 0<0)(a5:Is p p.Decls 0=none)(b0:Vz p=0):∃a,Ak p=some a/\SA (amP p) a:=by
 have b5:C0.bulks p.Decls<=4200000:=by cases p;simp only[I0.bulk]at hb;simp only;omega
 have b6:=C0.bulk_len p.Decls;have hl:p.Decls.length<=BB:=J.okp.decls.len;have a3:WfS p.Body:=⟨J.okp.body,J.sform,J.snumb⟩
 have Y:=U1q p.Body J.sform _ _ b0;rw[List.take_length]at Y;obtain⟨_,b2⟩:=E1z a0;have V:∀(j k:Nat) (d e:C0),j<k->p.Decls[j]?=some d->p.Decls[k]?=some e->d.Name≠e.Name:=λj k d e a9 c y=>by
  obtain⟨Z,rfl⟩:=zqu.1 c;obtain⟨h2,rfl⟩:=zqu.1 y;exact List.pairwise_iff_getElem.1 b2 j k Z h2 a9
 have b1:∀(r:List C0) (k:Nat),Is p r k=none->∀(i:Nat) d,r[i]?=some d->Um p (k+i) d=0:=by
  intro r
  induction r with
  |nil=>intro k _ i d h;simp at h
  |cons x r ih=>
   intro k h i d c;simp only[Is]at h;by_cases hz:Um p k x=0
   ·rw[hz]at h;cases i with
    |zero=>simp at c;subst c;exact hz
    |succ i=>
     have:=ih (k+1) h i d (by simpa using c);rwa[show k+(i+1)=k+1+i by omega]
   ·rw[show(Um p k x !=0)=true by simpa[bne]using hz]at h;cases h
 have b4:∀(i:Nat) d,p.Decls[i]?=some d->d.K=6->∀U∈E0.cls d.Body,∃j,V8 6 U (p.Decls.take i) 0=some j:=λi d c O=>by
  have h0:=b1 p.Decls 0 a5 i d c;rw[Nat.zero_add]at h0;have zz:∀{a b:Int},(bif a !=0 then a else b)=0->b=0:=λ{a b} h=>by
   by_cases z:a=0
   ·rw[z]at h;exact h
   ·rw[show(a !=0)=true by simpa[bne]using z]at h;exact absurd h z
  have a6:∀{a b:Int},(bif a !=0 then a else b)=0->a=0:=λ{a b} h=>by
   by_cases z:a=0
   ·exact z
   ·rw[show(a !=0)=true by simpa[bne]using z]at h;exact absurd h z
  unfold Um at h0;have Z:=zz h0;rw[O]at Z;change fnS p.Decls i d _=0 at Z;unfold fnS at Z;have h2:=a6 (zz Z);obtain⟨X,_⟩:=J.dec (List.mem_of_getElem? c);have sf:E0.alls sform d.Body=true:=by
   unfold dform at X;simp only[zqi]at X;exact X.2
  exact U1q d.Body sf _ _ h2
 unfold Ak;cases hE:p.Decls.isEmpty with
 |true=>
  have I:p.Decls=[]:=by simpa using hE
  rw[zp rfl];obtain⟨a,T,v⟩:=P1f (P:=I0.mk [] []) (n:=0) (m:=[]) p.Body a3 λU hn=>by
   obtain⟨j,hj⟩:=Y U hn;rw[I]at hj;simp[V8]at hj
  refine⟨a,?_,by unfold amP;rw[I];exact v⟩;unfold Mx Ds;rw[zp (by decide),show(0:Int)=((0:Nat):Int)from rfl,T];rfl
 |false=>
  have b3:0<p.Decls.length:=by
   rcases Nat.eq_zero_or_pos p.Decls.length with h|h
   ·rw[List.length_eq_zero_iff.1 h]at hE;cases hE
   ·exact h
  rw[zn (by simp)];unfold Yq;rw[zqj ⟨b3,by omega⟩,zp rfl];have a2:∀(j i:Nat) (D:List C0),i+j=p.Decls.length->CI p i D->∃a,S6 p D i=some a/\SA (amP p) a:=by
   intro j
   induction j with
   |zero=>
    intro i D a8 h;have hi:i=p.Decls.length:=by omega
    subst hi;obtain⟨a,T,v⟩:=P1f (P:=I0.mk D []) (n:=p.Decls.length) (m:=amM (p.Decls.take p.Decls.length) []) p.Body a3 λU hn=>h.call hl (zqr _) (by
     rw[List.take_length];exact Y U hn)
    rw[List.take_length]at v;refine⟨a,?_,v⟩;rw[S6,zqs (by omega),zn (by simp),zqj (by rw[h.len];simp),zp rfl,show(((p.Decls.length:Int).toNat:Nat):Int)=((p.Decls.length:Nat):Int) by simp,T];rfl
   |succ j ih=>
    intro i D a8 h;have hi:i<p.Decls.length:=by omega
    have c:p.Decls[i]?=some p.Decls[i]:=zqv hi;have z:D[i]?=some p.Decls[i]:=by rw[h.hi i (zqr _),c]
    generalize hde:p.Decls[i]=d at c z;have a7:p.Decls.take (i+1)=p.Decls.take i++[d]:=by rw[List.take_succ_eq_append_getElem hi,hde]
    have a4:amM (p.Decls.take (i+1)) []=bif d.K==6 then mpt d.Name (E0.ams (amM (p.Decls.take i) []) d.Body ⟨0,0⟩) (amM (p.Decls.take i) [])else amM (p.Decls.take i) []:=by rw[a7,U1m];rfl
    have ti:((i:Int)).toNat=i:=Int.toNat_natCast i;rw[S6,zqj (by simp;omega),zp rfl,zqj (by simp;omega),zp rfl,ti,z,ob,w1 (by omega)];by_cases O:d.K=6
    ·have hm:=List.mem_of_getElem? c;obtain⟨X,dn⟩:=J.dec hm;have wf:WfS d.Body:=⟨(J.okp.decls.mem hm).body,by unfold dform at X;simp only[zqi]at X;exact X.2,by unfold dnumb at dn;simp only[zqi]at dn;exact dn.2⟩
     obtain⟨a,T,v⟩:=P1f (P:=I0.mk D []) (n:=i) (m:=amM (p.Decls.take i) []) d.Body wf λU hn=>h.call hl (by omega) (b4 i d c O U hn);rw[show(d.K==6)=true by rw[O];rfl,zp rfl,zp rfl,ob,zqj (show D.length=((p.Decls.length:Nat):Int).toNat by rw[h.len];simp),zp rfl,T,ob,Y1v v.r2.1 v.le,ob,zp rfl,ob];refine ih (i+1) _ (by omega) ⟨?_,λk hk=>?_,λk e e' hk y u B=>?_⟩
     ·rw[List.map_set,show kn (C0.mk d.K d.Name d.N d.h d.Value d.P d.Vars (flS a.1 a.2))=kn d from rfl,h.kns];refine List.ext_getElem? λq=>?_;rw[List.getElem?_set];by_cases e:i=q
      ·subst e;rw[zp rfl,List.length_map,zp hi,List.getElem?_map,c];rfl
      ·rw[zn e]
     ·rw[List.getElem?_set_ne (by omega)];exact h.hi k (by omega)
     ·rw[a4,show(d.K==6)=true by rw[O];rfl];simp only[zqk];rw[C11];by_cases e0:k=i
      ·subst e0;rw[c]at y;cases y;rw[List.getElem?_set_self (by rw[h.len];exact hi)]at u;cases u;rw[zqm];refine⟨_,λP n=>S25 v.r2.1 v.le P n,?_⟩;obtain⟨q1,q2,q3,q4,q5,q6,q7⟩:=v;refine⟨q1,q2,?_,?_,?_,?_,?_⟩
       ·simp only;omega
       ·simp only;omega
       ·simp only;omega
       ·show min (E0.ams (amM (p.Decls.take k) []) d.Body ⟨0,0⟩).k 4097=min (min a.1 4097) 4097;omega
       ·show min (E0.ams (amM (p.Decls.take k) []) d.Body ⟨0,0⟩).m 9=min (min a.2 9) 9;omega
      ·rw[zqn.2 (V k i e d (by omega) y c)];rw[List.getElem?_set_ne (by omega)]at u;exact h.lo k e e' (by omega) y u B
    ·rw[zqn.2 O,zn (by simp)];refine ih (i+1) D (by omega) ⟨h.kns,λk hk=>h.hi k (by omega),λk e e' hk y u B=>?_⟩;rw[a4,zqn.2 O];by_cases e0:k=i
     ·subst e0;rw[c]at y;cases y;exact absurd B O
     ·exact h.lo k e e' (by omega) y u B
  obtain⟨a,T,v⟩:=a2 p.Decls.length 0 p.Decls (by omega) ⟨rfl,λk _=>rfl,λk d d' hk=>absurd hk (by omega)⟩;rw[show(0:Int)=((0:Nat):Int)from rfl,T];exact⟨a,rfl,v⟩
def RgS (y:T0):Prop:=0<=y.H-y.Low/\y.H-y.Low<=2097152
def T25 {β:Type}{f:Nat->List β}{y:β}:∀(n k:Nat),y∈rep f k n->∃i,y∈f i
 |0,k,h=>by simp[rep]at h
 |n+1,k,h=>by
  rw[rep]at h;rcases List.mem_append.1 h with h|h
  ·exact⟨k,h⟩
  ·exact T25 n (k+1) h
mutual
def A1w:∀(t:A0) (b:Str),E4 t->∀y∈t.sc b,RgS y
 |.mk k l h s a z d,b,u,y,c=>by
  have r:∀x∈d,E4 x:=λx v=>u.kid v;simp only[A0.sc]at c;by_cases k0:k=0
  ·subst k0;simp at c;subst c;exact⟨show(0:Int)<=1-0 by decide,show(1:Int)-0<=2097152 by decide⟩
  ·rw[zqn.2 k0]at c;by_cases k1:k=1
   ·subst k1;simp at c;subst c;have B:=u.rng rfl;change -1048576<=l/\l<=h/\h<=1048576 at B;exact⟨by show 0<=h-l;omega,by show h-l<=2097152;omega⟩
   ·rw[zqn.2 k1]at c;by_cases k2:k=2
    ·subst k2;exact R2a d b _ r y c
    ·rw[zqn.2 k2]at c;by_cases k3:k=3
     ·subst k3;exact F1z d z b r y c
     ·rw[zqn.2 k3]at c;cases c
def R2a:∀(l:List A0) (b:Str) (n:Nat),(∀x∈l,E4 x)->∀y∈A0.scA l b n,RgS y
 |[],_,_,_,y,c=>by simp[A0.scA]at c
 |x::r,b,n,u,y,c=>by
  simp only[A0.scA]at c;obtain⟨i,d⟩:=T25 _ _ c;exact A1w x _ (u x zqp) y d
def F1z:∀(l:List A0) (c:List Str) (b:Str),(∀x∈l,E4 x)->∀y∈A0.scR l c b,RgS y
 |[],_,_,_,y,hy=>by simp[A0.scR]at hy
 |x::r,[],b,d,y,hy=>by simp[A0.scR]at hy
 |x::r,n::c,b,d,y,hy=>by
  simp only[A0.scR]at hy;rcases List.mem_append.1 hy with hy|hy
  ·exact A1w x _ (d x zqp) y hy
  ·exact F1z r c b (λz u=>d z (zqq _ u)) y hy
end
def S2a (h:E4 t):∀y∈(K5 t).1,RgS y:=λy b=>by
 unfold K5 at b;cases hc:Jg t !=0 with
 |true=>rw[hc]at b;cases b
 |false=>rw[hc]at b;exact A1w t [] h y b
def rvS:List T0->Int->Int
 |[],v=>v
 |y::r,v=>rvS r (min (wi (v*wi (wi (y.H-y.Low)+1))) 100000)
def G1z (n:List T0×Int)(c:n.1.length<=BB):∀(r:List T0) (k:Nat) (v:Int),n.1.drop k=r->Eg v n k=some (rvS r v)
 |[],k,v,h=>by
  rw[Eg,(I1 h).1];rfl
 |y::r,k,v,h=>by
  obtain⟨u,d,b,x,_⟩:=R1 h;rw[Eg,u,zp rfl,d,ob,ob,Bk,ob,w1 (by omega),G1z n c r (k+1) _ b];rfl
def P1b (b:Ok t):Yp t=some (rvS (K5 t).1 1):=by
 unfold Yp;rw[C18 t b,ob];exact G1z _ (J1v b) _ 0 1 rfl
structure PS (n s v:Int):Prop where
 hn:0<=n/\n<=1073741824
 hv:0<=v/\v<=100000
 e:min n 4097=min (s*v) 4097
def B1w {s:Int}(b:0<=s/\s<=100000):∀(l:List T0) (n v:Int),(∀y∈l,RgS y)->PS n s v->PS (prS l n) s (rvS l v)
 |[],n,v,_,h=>h
 |y::r,n,v,d,h=>by
  obtain⟨T,V⟩:=d y zqp;have D:wi (wi (y.H-y.Low)+1)=y.H-y.Low+1:=by rw[wis (n:=y.H-y.Low) (by omega) (by omega),wis (by omega) (by omega)]
  simp only[prS,rvS,D];have hc:0<=y.H-y.Low+1/\y.H-y.Low+1<=2097153:=by omega
  generalize y.H-y.Low+1=c at hc⊢;obtain⟨x,U⟩:=O1b h.hn.1 h.hn.2 hc.1 hc.2;obtain⟨O,X⟩:=O1b h.hv.1 h.hv.2 hc.1 hc.2;refine B1w b r _ _ (λz B=>d z (zqq _ B)) ⟨?_,?_,?_⟩
  ·rw[Q21 x (by omega)];omega
  ·rw[wis (by omega) (by omega)];omega
  ·rw[Q21 x (by omega),wis (n:=v*c) (by omega) (by omega),X1v (by omega)];have J:=W1v hc.1 h.hn.1 (Int.mul_nonneg b.1 h.hv.1) (by decide) h.e;rw[Int.mul_comm n c,J];have I:=W1v (K:=4097) b.1 (u:=v*c) (v:=min (v*c) 100000) O (by omega) (by decide) (by rw[X1v (by omega)]);rw[<-I,Int.mul_comm c,Int.mul_assoc]
structure L1 (s s':Int):Prop where
 p:0<=s/\s<=1073741824
 r:0<=s'/\s'<=100000
 e:min s 4097=min s' 4097
def L1.next {s s':Int}(h:L1 s s'){l:List T0}(b:∀y∈l,RgS y):L1 (prS l s) (min (wi (s'*rvS l 1)) 100000):=by
 obtain⟨n,v,e⟩:=B1w h.r l s 1 b ⟨h.p,by decide,by rw[Int.mul_one];exact h.e⟩;obtain⟨d,c⟩:=O1b h.r.1 h.r.2 v.1 v.2;rw[wis (by omega) (by omega)];exact⟨n,by omega,by rw[X1v (by omega)];exact e⟩
def m3 (s q r:Int):List (Int×Int):=[(1,s),(2,q),(3,r)]
def Q1b {b:Int}(h:min a K=min b K)(hc:c<K):decide (a>c) = !decide (b<=c):=by
 by_cases hb:b<=c
 ·rw[zqj hb,zqs (by omega)];rfl
 ·rw[zqs hb,zqj (by omega)];rfl
def S21 (hb:p.bulk<=4200000)(X:CkP p){x:Int×Int}(hx:Ak p=some x)(Z:SA (amP p) x):Lz p=some (!D18 (Uz p.Decls p.Decls 0 N21 0 0) (amP p)):=by
 have hl:=X.okp.decls.len;unfold Lz;have U:∀(r:List C0) (k:Nat) (s q w s' q' c a b:Int),p.Decls.drop k=r->L1 s s'->L1 q q'->L1 w c->O9 p a b s' q' c k=some (!D18 (Uz p.Decls r k (m3 s q w) a b) (amP p)):=by
  intro r
  induction r with
  |nil=>
   intro k s q w s' q' c a b h v y u;rw[O9,(I1 h).1,zn (by simp),hx,ob];show _=some (!(decide (a>64)||(decide (b>8)||(decide (s>4096)||(decide (q>4096)||(decide (w>256)||(decide ((amP p).k>4096)||decide ((amP p).m>8))))))));rw[Q1b (a:=a) (b:=a) (K:=65) rfl (by omega),Q1b (a:=b) (b:=b) (K:=9) rfl (by omega),Q1b v.e (by omega),Q1b y.e (by omega),Q1b u.e (by omega),Q1b Z.e1 (by omega),Q1b Z.e2 (by omega)];cases decide (a<=64)<;>cases decide (b<=8)<;>cases decide (s'<=4096)<;>cases decide (q'<=4096)<;>cases decide (c<=256)<;>cases decide (x.1<=4096)<;>cases decide (x.2<=8)<;>rfl
  |cons d r B=>
   intro k s q w s' q' c a b h v y u;obtain⟨e1,e2,I,e4,e5⟩:=R1 h;have Y:=(X.small d e5).1;have D:=Yk (X.dok.take k) Y;rw[O9,e1,zp rfl,e2,ob,Iu X rfl (by omega) Y,ob,show Hn d=some (inK d)from rfl,ob];generalize hE:F3 (p.Decls.take k) d.N=E at D⊢;rw[C18 _ D.2,ob];have z:=S2a D.1;have f:∀{m:Int},d.K≠m->(d.K==m)=false:=λh=>zqn.2 h;have t:∀{m:Int},d.K=m->(d.K==m)=true:=λh=>by rw[h];exact zqm _
   have T:∀a b,d.K≠5->M7 p d E a b s' q' c k=Fg p d E a b s' q' c k:=λa b h=>by rw[M7,f h];rfl
   have V:∀a b,d.K≠1->Fg p d E a b s' q' c k=Gg p d E a b s' q' c k:=λa b h=>by rw[Fg,f h];rfl
   have O:∀a b s',d.K≠2->Gg p d E a b s' q' c k=Hg p d E a b s' q' c k:=λa b s' h=>by rw[Gg,f h];rfl
   have J:∀a b s' q',d.K≠3->Hg p d E a b s' q' c k=O9 p a b s' q' c ((k+1:Nat):Int):=λa b s' q' h=>by rw[Hg,f h,zn (by simp),w1 (by omega)]
   simp only[Uz,hE];by_cases k1:d.K=1
   ·rw[show inK d=true by unfold inK;rw[k1];rfl];show M7 p d E _ b s' q' c k=_;rw[T _ _ (by omega),Fg,t k1,zp rfl,P1b D.2,ob,Bk,ob,O _ _ _ (by omega),J _ _ _ _ (by omega),f (m:=5) (by omega),k1];exact B (k+1) _ _ _ _ _ _ _ _ I (v.next z) y u
   by_cases k2:d.K=2
   ·rw[show inK d=true by unfold inK;rw[k2];rfl];show M7 p d E _ b s' q' c k=_;rw[T _ _ (by omega),V _ _ k1,Gg,t k2,zp rfl,P1b D.2,ob,Bk,ob,J _ _ _ _ (by omega),f (m:=5) (by omega),k2];exact B (k+1) _ _ _ _ _ _ _ _ I v (y.next z) u
   by_cases k3:d.K=3
   ·rw[show inK d=true by unfold inK;rw[k3];rfl];show M7 p d E _ b s' q' c k=_;rw[T _ _ (by omega),V _ _ k1,O _ _ _ k2,Hg,t k3,zp rfl,P1b D.2,ob,Bk,ob,w1 (by omega),f (m:=5) (by omega),k3];exact B (k+1) _ _ _ _ _ _ _ _ I v y (u.next z)
   have hI:inK d=false:=by unfold inK;rw[f k1,f k2,f k3];rfl
   have hM:L6 d.K (m3 s q w)=none:=by
    unfold m3;simp only[L6,f k1,f k2,f k3];rfl
   rw[hI,hM];by_cases k4:d.K=4
   ·rw[k4];show M7 p d E _ b s' q' c k=_;rw[T _ _ (by omega),V _ _ k1,O _ _ _ k2,J _ _ _ _ k3];exact B (k+1) _ _ _ _ _ _ _ _ I v y u
   ·rw[f k4,show(d.K !=4)=true by simpa[bne]using k4];show M7 p d E a b s' q' c k=some (!D18 (Uz p.Decls r (k+1) (m3 s q w) a (bif d.K==5 then wi (b+1)else b)) (amP p));by_cases k5:d.K=5
    ·rw[M7,t k5,zp rfl,V _ _ k1,O _ _ _ k2,J _ _ _ _ k3];exact B (k+1) _ _ _ _ _ _ _ _ I v y u
    ·rw[T _ _ k5,f k5,V _ _ k1,O _ _ _ k2,J _ _ _ _ k3];exact B (k+1) _ _ _ _ _ _ _ _ I v y u
 have o:L1 1 1:=⟨by decide,by decide,rfl⟩
 exact U p.Decls 0 1 1 1 1 1 1 0 0 rfl o o o
def U25 (c:p.bulk<=4200000):Cw p=some (tck p):=by
 unfold Cw tck;rw[Q24 p (B1m c),ob];refine ifO (λ_=>rfl) λhc=>?_;have b:=CkP.of c (by simpa using hc);have hl:=b.okp.decls.len;rw[P2a c,ob];refine ifO (λ_=>rfl) λB=>?_;have u:Km p.Decls p.Decls [] 0<0:=by
  have:=of_decide_eq_false B;omega
 have D:∀(r:List C0) (k:Nat),p.Decls.drop k=r->(Is p r k=none->Is p p.Decls 0=none)->Mi p k=some (match Is p r k with|some z=>z|none=>bif Vz p !=0 then(-1,Vz p)else(-1,L1b p)):=by
  intro r
  induction r with
  |nil=>
   intro k h y;rw[Mi,(I1 h).1,zn (by simp)];obtain⟨S,J,s2,s3,s4⟩:=G28 b;have O:p.Decls.length<=4200000/\E0.bulks p.Body<=4200000:=by
    have:=C0.bulk_len p.Decls;cases p;simp only[I0.bulk]at c;simp only at this⊢;omega
   rw[J,ob,T1q b p.Body ⟨b.okp.body,b.sform,b.snumb⟩ _ S s2 (by unfold BB;omega) true,ob];show _=some (bif Vz p !=0 then(-1,Vz p)else(-1,L1b p));refine ifO (λ_=>rfl) λv=>?_;obtain⟨x,Z,T⟩:=O1h c b u (y rfl) (by have:(Vz p !=0)=false:=v;simpa using this);rw[S21 c b Z T,ob];unfold L1b;cases D18 (Uz p.Decls p.Decls 0 N21 0 0) (amP p)<;>rfl
  |cons d r I=>
   intro k h y;obtain⟨X,h2,U,V,Y⟩:=R1 h;rw[Mi,X,zp rfl,H28 c b V h2 Y,ob,w1 (by omega)];simp only[Is]at y⊢;cases v:Um p k d !=0 with
   |true=>simp only[v,zt,zqk]
   |false=>
    rw[v]at y;simp only[v,zqa,zw,zql];exact I (k+1) U y
 exact D p.Decls 0 rfl λh=>h
def J1j (h:(tck p).2=0):Dw p=0/\Km p.Decls p.Decls [] 0<0/\Is p p.Decls 0=none/\Vz p=0/\L1b p=0:=by
 have c:∀(r:List C0) (k:Nat) z,Is p r k=some z->z.2≠0:=by
  intro r
  induction r with
  |nil=>intro k z h;cases h
  |cons d r b=>
   intro k z h;simp only[Is]at h;by_cases hz:Um p k d=0
   ·rw[hz]at h;exact b (k+1) z h
   ·rw[show(Um p k d !=0)=true by simpa[bne]using hz]at h;cases h;exact hz
 unfold tck at h;by_cases h1:Dw p=0
 ·rw[h1]at h;simp only[bne_self_eq_false,zql]at h;by_cases h2:Km p.Decls p.Decls [] 0>=0
  ·rw[zqj h2]at h;simp at h
  ·rw[zqs h2]at h;simp only[zql]at h;cases h3:Is p p.Decls 0 with
   |some z=>rw[h3]at h;exact absurd h (c _ _ _ h3)
   |none=>
    rw[h3]at h;simp only at h;by_cases h4:Vz p=0
    ·rw[h4]at h;simp only[bne_self_eq_false,zql]at h;exact⟨h1,by omega,rfl,h4,h⟩
    ·rw[show(Vz p !=0)=true by simpa[bne]using h4]at h;exact absurd h h4
 ·rw[show(Dw p !=0)=true by simpa[bne]using h1]at h;exact absurd h h1
def T2a (b:p.bulk<=4200000)(h:(tck p).2=0):CkP p:=CkP.of b (J1j h).1
def B2c (p:I0):Int×Int:=bif (tck p).2 !=0 then(0,(tck p).2)else((amP p).k,0)
def T21 (h:L1b p=0):(amP p).k<=4096:=by
 unfold L1b at h;cases hl:D18 (Uz p.Decls p.Decls 0 N21 0 0) (amP p)with
 |true=>rw[hl]at h;simp at h
 |false=>
  unfold D18 at hl;simp only[Bool.or_eq_false_iff,decide_eq_false_iff_not]at hl;omega
def V25 (b:p.bulk<=4200000):Q11 p=some (B2c p):=by
 unfold Q11 B2c;rw[U25 b,ob];refine ifO (λ_=>rfl) λhc=>?_;have c:(tck p).2=0:=by simpa using hc
 obtain⟨B,r,u,y,v⟩:=J1j c;obtain⟨x,z,d⟩:=O1h b (T2a b c) r u y;have I:=T21 v;have D:=d.e1;rw[z,ob,show x.1=(amP p).k by omega]
variable {σ:Str->Str}
structure Vt (t:A0):Prop where
 out:Out t
 tw:t.some Vk=false
def Vt.val {t:A0}(h:Vt t):Val t:=h.out.val
abbrev Sto:=Str->Option (A0×List Int)
def put (V:List Int)(k:Nat)(l:List Int):List Int:=V.take k++l++V.drop (k+l.length)
def upd (ρ:Sto)(nm:Str)(V:List Int):Sto:=λm=>bif m==nm then(ρ m).map λq=>(q.1,V)else ρ m
def xT (ds:List C0)(j:Nat)(t:A0):A0:=(F3 (ds.take j) t).1
def U21 {ds:List C0}(r:DOk ds)(c:t.bulk<=4200000)(h:(F3 ds t).2=0):Vt (F3 ds t).1:=by
 unfold F3 S19 at h⊢;cases hc:(Gu ds []).2 !=0 with
 |true=>rw[hc]at h;simp only[zqk]at h;rw[h]at hc;exact absurd hc (by simp)
 |false=>
  rw[hc]at h;simp only[zql]at h⊢;obtain⟨a,b⟩:=Z1i (T19 (ds:=ds) ds [] (λd h=>(r.2 d h).1) .nil).1 c h;exact⟨a,b⟩
def C2c {ds:List C0}(c:DOk ds){j:Nat}(d:j<=ds.length)(b:t.bulk<=4200000):Gv ds j t=some (xT ds j t):=by
 unfold Gv xT;rw[H1f d,ob,G1m _ (c.take j) t b,ob]
def F2d {y:Int}(h:(bif c !=0 then c else y)=0):c=0/\y=0:=by
 cases hc:c !=0 with
 |true=>rw[hc]at h;simp only[zqk]at h;rw[h]at hc;exact absurd hc (by simp)
 |false=>rw[hc]at h;exact⟨by simpa using hc,h⟩
structure PG (p:I0):Prop where
 ck:CkP p
 chk:Dw p=0
 dec:Is p p.Decls 0=none
 body:Vz p=0
def PG.of {p:I0}(r:p.bulk<=4200000)(h:(tck p).2=0):PG p:=by
 obtain⟨a,b,c,d,e⟩:=J1j h;exact⟨CkP.of r a,a,c,d⟩
def W25 {p:I0}:∀(r:List C0) (k j:Nat) (d:C0),Is p r k=none->r[j]?=some d->Um p (k+j) d=0
 |[],k,j,d,_,h=>by simp at h
 |x::r,k,j,d,b,h=>by
  rw[Is]at b;cases hc:Um p k x !=0 with
  |true=>rw[hc]at b;cases b
  |false=>
   rw[hc]at b;cases j with
   |zero=>
    simp only[List.getElem?_cons_zero,zqb]at h;subst h;simpa using hc
   |succ j=>
    rw[List.getElem?_cons_succ]at h;have:=W25 r (k+1) j d b h;rw[show k+(j+1)=k+1+j by omega];exact this
def PG.decl (h:PG p){j:Nat}(b:p.Decls[j]?=some d):Um p j d=0:=by
 have:=W25 p.Decls 0 j d h.dec b;rw[Nat.zero_add]at this;exact this
def PG.vt (b:PG p)(c:p.Decls[i]?=some d):Vt (xT p.Decls i d.N):=by
 have u:d∈p.Decls:=List.mem_of_getElem? c;have r:=b.decl c;unfold Um at r;exact U21 (b.ck.dok.take i) (b.ck.small d u).1 (F2d r).1
def H1z {l:List α}{x:α}{r:List α}(h:l.drop i=x::r):l[i]?=some x:=by
 have:=congrArg (λl=>l[0]?) h;simpa using this
def Wz (ds:List C0)(k:Int):List C0->Nat->Int->Int
 |[],_,n=>n
 |d::r,i,n=>Wz ds k r (i+1) (bif d.K==k then wi (n*(Zx (xT ds i d.N)).1)else n)
def C1w {p:I0}(b:PG p)(k:Int):∀(r:List C0) (i:Nat) (n:Int),p.Decls.drop i=r->Ab p.Decls k n i=some (Wz p.Decls k r i n)
 |[],i,n,h=>by rw[Ab,(I1 h).1];rfl
 |d::r,i,n,h=>by
  obtain⟨y,x,u,z,v⟩:=R1 h;have B:=b.ck.okp.decls.len;have c:=b.vt (H1z h);rw[Ab,y,zp rfl,x,ob,Wz];cases hk:d.K==k with
  |true=>
   rw[zp rfl,ob,C2c b.ck.dok (by omega) (b.ck.small d v).1,ob,F21 _ c.val.ok,ob,w1 (by omega)];exact C1w b k r (i+1) _ u
  |false=>
   simp only[zqa,zw,zql];rw[w1 (by omega)];exact C1w b k r (i+1) n u
def W19 (p:I0):Int×Int×Int×Int:=bif (tck p).2 !=0 then(0,0,0,(tck p).2)else(Wz p.Decls 1 p.Decls 0 1,Wz p.Decls 2 p.Decls 0 1,Wz p.Decls 3 p.Decls 0 1,0)
def I28 (b:p.bulk<=4200000):R11 p=some (W19 p):=by
 unfold R11 W19;rw[U25 b,ob];cases h1:(tck p).2 !=0 with
 |true=>rfl
 |false=>
  have c:=PG.of b (show(tck p).2=0 by simpa using h1);have v:∀k,Kr p.Decls k=some (Wz p.Decls k p.Decls 0 1):=λk=>C1w c k p.Decls 0 1 rfl;simp only[zqa,zw,zql];rw[v,ob,v,ob,v,ob]
def W3 (a b c:Int):List (Int×Int):=[(1,a),(2,b),(3,c)]
def G2d {ds:List C0}(d:DOk ds){j:Nat}(r:j<=ds.length)(b:t.bulk<=4200000)(c:C1)(o:J1):Sf j t (X0.mk ds c o)=some (xT ds j t):=by
 unfold Sf xT;rw[H1f r,ob,P1q _ (d.take j) t b,ob]
def V1m {p:I0}(u:PG p):∀(r:List C0) (i:Nat) (a b c:Int),p.Decls.drop i=r->Cc p (W3 a b c) i=some (Wz p.Decls 1 r i a,Wz p.Decls 2 r i b,Wz p.Decls 3 r i c,0)
 |[],i,a,b,c,h=>by rw[Cc,(I1 h).1];rfl
 |d::r,i,a,b,c,h=>by
  obtain⟨J,D,v,O,B⟩:=R1 h;have T:=u.ck.okp.decls.len;have x:=u.vt (H1z h);have y:=G2d u.ck.dok (by omega:i<=p.Decls.length) (u.ck.small d B).1 (C1.mk 0 0 0 0 0 0 0 0 0 0 0 0 0) (J1.mk [] 0);have z:=V24 _ x.val.ok;rw[Cc,J,if_pos rfl,D,ob,ob];have w:=w1 (k:=i) (by omega);by_cases k1:d.K=1
  ·rw[k1,show(L6 1 (W3 a b c)).isSome=true from rfl,if_pos rfl,y,ob,z,ob,w];have:=V1m u r (i+1) (wi (a*(Zx (xT p.Decls i d.N)).1)) b c v;simp only[Wz,k1];exact this
  ·by_cases k2:d.K=2
   ·rw[k2,show(L6 2 (W3 a b c)).isSome=true from rfl,if_pos rfl,y,ob,z,ob,w];have:=V1m u r (i+1) a (wi (b*(Zx (xT p.Decls i d.N)).1)) c v;simp only[Wz,k2];exact this
   ·by_cases k3:d.K=3
    ·rw[k3,show(L6 3 (W3 a b c)).isSome=true from rfl,if_pos rfl,y,ob,z,ob,w];have:=V1m u r (i+1) a b (wi (c*(Zx (xT p.Decls i d.N)).1)) v;simp only[Wz,k3];exact this
    ·have g:∀{n:Int},d.K≠n->(d.K==n)=false:=λh=>by simpa using h
     have I:L6 d.K (W3 a b c)=none:=by
      simp only[W3,L6,g k1,g k2,g k3,cond_false]
     rw[I,show(none:Option Int).isSome=false from rfl,if_neg (by decide),w];have:=V1m u r (i+1) a b c v;simp only[Wz,g k1,g k2,g k3,cond_false];exact this
def X25 (b:p.bulk<=4200000):Tt p=some (W19 p):=by
 unfold Tt W19;rw[H25 b,ob];cases h1:(tck p).2 !=0 with
 |true=>rfl
 |false=>
  have c:=PG.of b (show(tck p).2=0 by simpa using h1);simp only[Bool.false_eq_true,if_false,cond_false];exact V1m c p.Decls 0 1 1 1 rfl
def V21 (e:D0):OkE e->∀n:Int,-1000<=n->n<=1000000->∃r,Lb e n=some r/\r<=n/\(0<=n->-1<=r)/\(n<0->r=n-1):=by
 induction e using D0.ind with
 |h e I=>
 intro u n h0 h1;have B:=u.kids;have c:∀(r:List D0) (i:Nat) (b:Int),e.V.drop i=r->-2000<=b->b<=1000000->∃x,Rg e b i=some x/\x<=b/\(0<=b->-1<=x)/\(b<0->x=b):=by
  intro r
  induction r with
  |nil=>
   intro i b h _ _;refine⟨b,?_,Int.le_refl _,λ_=>by omega,λ_=>rfl⟩;rw[Rg,(I1 h).1];rfl
  |cons x r d=>
   intro i b h g0 g1;obtain⟨e1,Z,X,e4,D⟩:=R1 h;rw[Rg,e1,cond_true];by_cases hn:b>=0
   ·obtain⟨y,Y,y2,J,y4⟩:=I x D (u.kid D) b (by omega) (by omega);have:=J hn;obtain⟨z,z1,z2,z3,O⟩:=d (i+1) y X (by omega) (by omega);refine⟨z,?_,by omega,λ_=>?_,λh=>by omega⟩
    ·rw[decide_eq_true hn,if_pos rfl,Z,ob,Y,ob,w1 (by omega)];exact z1
    ·by_cases hy:0<=y
     ·exact z3 hy
     ·have:=O (by omega);omega
   ·refine⟨b,?_,Int.le_refl _,λh=>by omega,λ_=>rfl⟩;rw[decide_eq_false hn];rfl
 obtain⟨x,T,x2,U,v⟩:=c e.V 0 (n-1) rfl (by omega) (by omega);refine⟨x,?_,by omega,λh=>?_,λh=>v (by omega)⟩
 ·rw[Lb,wr (by omega) (by omega)];exact T
 ·by_cases hn:0<=n-1
  ·exact U hn
  ·have:=v (by omega);omega
def H2d (t:A0):Ok t->∀n:Int,-1<=n->n<=1000000->∃r,Nl t n=some r/\r<=n/\-1<=r:=by
 induction t using A0.ind with
 |h t D=>
 intro u n h0 h1;have v:=u.ofs;have c:∀(r:List A0) (i:Nat) (b:Int),t.Of.drop i=r->-1<=b->b<=1000000->∃x,Qg t b i=some x/\x<=b/\-1<=x:=by
  intro r
  induction r with
  |nil=>
   intro i b h _ _;refine⟨b,?_,Int.le_refl _,by omega⟩;rw[Qg,(I1 h).1];rfl
  |cons x r d=>
   intro i b h g0 g1;obtain⟨X,V,T,e4,B⟩:=R1 h;rw[Qg,X,cond_true];by_cases hn:b>=0
   ·obtain⟨y,U,y2,y3⟩:=D x B (u.kid B) b (by omega) (by omega);obtain⟨z,Z,z2,Y⟩:=d (i+1) y T (by omega) (by omega);refine⟨z,?_,by omega,Y⟩;rw[decide_eq_true hn,if_pos rfl,V,ob,U,ob,w1 (by omega)];exact Z
   ·refine⟨b,?_,Int.le_refl _,by omega⟩;rw[decide_eq_false hn];rfl
 rw[Nl,wr (n:=n-1) (by omega) (by omega)];by_cases hc:(t.O.length:Int)>n-1
 ·exact⟨-1,by rw[decide_eq_true hc];rfl,by omega,by omega⟩
 ·obtain⟨x,I,x2,J⟩:=c t.Of 0 (n-1) rfl (by omega) (by omega);refine⟨x,?_,by omega,J⟩;rw[decide_eq_false hc];exact I
def D2c (l:List E0):OkS l->∀n:Int,-5<=n->n<=1000000->∃r,K7 l n=some r/\r<=n/\(0<=n->-1<=r)/\(n<0->r=n):=by
 refine E0.inds (Q:=λl=>OkS l->∀n:Int,-5<=n->n<=1000000->∃r,K7 l n=some r/\r<=n/\(0<=n->-1<=r)/\(n<0->r=n)) (λl ih=>?_) l;intro ho n h0 h1;have a5:=ho.len;have V:∀(r:List E0) (i:Nat) (d:Int),l.drop i=r->-5<=d->d<=1000000->∃x,Oa l d i=some x/\x<=d/\(0<=d->-1<=x)/\(d<0->x=d):=by
  intro r
  induction r with
  |nil=>
   intro i d h _ _;refine⟨d,?_,Int.le_refl _,λ_=>by omega,λ_=>rfl⟩;rw[Oa,(I1 h).1];rfl
  |cons x r X=>
   intro i d h g0 g1;obtain⟨e1,e2,e3,e4,Y⟩:=R1 h;have v:=ho.mem Y;rw[Oa,e1,cond_true];by_cases hn:d>=0
   ·obtain⟨y,y1,y2,y3,y4⟩:=V21 x.I v.place (d-1) (by omega) (by omega);have hy : -2<=y:=by
     by_cases h:0<=d-1
     ·have:=y3 h;omega
     ·have:=y4 (by omega);omega
    obtain⟨z,z1,z2,z3,z4⟩:=V21 x.Value v.value y (by omega) (by omega);rw[decide_eq_true hn,if_pos rfl,e2,ob,wr (n:=d-1) (by omega) (by omega),y1,ob,z1,ob];by_cases hc:(x.j.length:Int)>z
    ·exact⟨-1,by rw[decide_eq_true hc];rfl,by omega,λ_=>by omega,λh=>by omega⟩
    ·rw[decide_eq_false hc,if_neg (by simp)];have O:∀(u:List D0) (k:Nat) (m:Int),x.B.drop k=u->-1<=m->m<=1000000->∃y,Yd l x m i k=some y/\y<=m/\-1<=y:=by
      intro u;have J:∀(m:Int),-1<=m->m<=1000000->∃y,(K7 x.Then m>>=λx6=>K7 x.Else x6>>=λx7=>Oa l x7 (i64.wrap ((i:Int)+1)))=some y/\y<=m/\-1<=y:=λm T D=>by
       obtain⟨a,a1,a2,a3,a4⟩:=(ih x Y).1 v.thens m (by omega) D;have ha : -1<=a:=by
        by_cases h:0<=m
        ·exact a3 h
        ·have:=a4 (by omega);omega
       obtain⟨b,Z,b2,b3,b4⟩:=(ih x Y).2 v.elses a (by omega) (by omega);have hb : -1<=b:=by
        by_cases h:0<=a
        ·exact b3 h
        ·have:=b4 (by omega);omega
       obtain⟨c,U,c2,c3,c4⟩:=X (i+1) b e3 (by omega) (by omega);refine⟨c,?_,by omega,?_⟩
       ·rw[a1,ob,Z,ob,w1 (by omega)];exact U
       ·by_cases h:0<=b
        ·exact c3 h
        ·have:=c4 (by omega);omega
      induction u with
      |nil=>
       intro k m hd T D;rw[Yd,(I1 hd).1,cond_false,if_neg (by simp)];exact J m T D
      |cons a u a0=>
       intro k m hd T D;obtain⟨f1,f2,f3,f4,f5⟩:=R1 hd;have a6:=v.args;rw[Yd,f1,cond_true];by_cases hm:m>=0
       ·obtain⟨b,Z,b2,b3,b4⟩:=V21 a (v.arg a f5) m (by omega) (by omega);have:=b3 hm;obtain⟨c,U,c2,c3⟩:=a0 (k+1) b f3 (by omega) (by omega);refine⟨c,?_,by omega,c3⟩;rw[decide_eq_true hm,if_pos rfl,f2,ob,Z,ob,w1 (by omega)];exact U
       ·rw[decide_eq_false hm,if_neg (by simp)];exact J m T D
     obtain⟨y',k1,k2,k3⟩:=O x.B 0 z rfl (by omega) (by omega);exact⟨y',k1,by omega,λ_=>k3,λh=>by omega⟩
   ·refine⟨d,?_,Int.le_refl _,λh=>by omega,λ_=>rfl⟩;rw[decide_eq_false hn];rfl
 obtain⟨x,x1,x2,x3,x4⟩:=V l 0 n rfl h0 h1;refine⟨x,?_,x2,x3,x4⟩;rw[K7];exact x1
def I2d (l:List C0):OkD l->∀n:Int,-5<=n->n<=1000000->∃r,Dc l n=some r/\r<=n/\(0<=n->-2<=r)/\(n<0->r=n):=by
 refine C0.inds (Q:=λl=>OkD l->∀n:Int,-5<=n->n<=1000000->∃r,Dc l n=some r/\r<=n/\(0<=n->-2<=r)/\(n<0->r=n)) (λl I=>?_) l;intro J n h0 h1;have O:=J.len;have y:∀(r:List C0) (i:Nat) (u:Int),l.drop i=r->-5<=u->u<=1000000->∃x,Zd l u i=some x/\x<=u/\(0<=u->-2<=x)/\(u<0->x=u):=by
  intro r
  induction r with
  |nil=>
   intro i u h _ _;refine⟨u,?_,Int.le_refl _,λ_=>by omega,λ_=>rfl⟩;rw[Zd,(I1 h).1];rfl
  |cons d r B=>
   intro i u h g0 g1;obtain⟨e1,e2,e3,e4,D⟩:=R1 h;have v:=J.mem D;rw[Zd,e1,cond_true];by_cases hn:u>=0
   ·obtain⟨a,a1,a2,a3⟩:=H2d d.N v.type (u-1) (by omega) (by omega);obtain⟨b,b1,b2,b3,Z⟩:=V21 d.Value v.value a (by omega) (by omega);have hb : -2<=b:=by
     by_cases h:0<=a
     ·have:=b3 h;omega
     ·have:=Z (by omega);omega
    obtain⟨c,V,c2,c3,c4⟩:=(I d D).1 v.params b (by omega) (by omega);have hc : -2<=c:=by
     by_cases h:0<=b
     ·exact c3 h
     ·have:=c4 (by omega);omega
    obtain⟨f,f1,f2,f3,T⟩:=(I d D).2 v.vars c (by omega) (by omega);have hf : -2<=f:=by
     by_cases h:0<=c
     ·exact f3 h
     ·have:=T (by omega);omega
    obtain⟨g,k1,k2,k3,X⟩:=D2c d.Body v.body f (by omega) (by omega);have hg : -2<=g:=by
     by_cases h:0<=f
     ·have:=k3 h;omega
     ·have:=X (by omega);omega
    obtain⟨z,z1,z2,z3,z4⟩:=B (i+1) g e3 (by omega) (by omega);refine⟨z,?_,by omega,λ_=>?_,λh=>by omega⟩
    ·rw[decide_eq_true hn,if_pos rfl,e2,ob,wr (n:=u-1) (by omega) (by omega),a1,ob,b1,ob,V,ob,f1,ob,k1,ob,w1 (by omega)];exact z1
    ·by_cases h:0<=g
     ·exact z3 h
     ·have:=z4 (by omega);omega
   ·refine⟨u,?_,Int.le_refl _,λh=>by omega,λ_=>rfl⟩;rw[decide_eq_false hn];rfl
 obtain⟨x,x1,Y,x3,U⟩:=y l 0 n rfl h0 h1;refine⟨x,?_,Y,x3,U⟩;rw[Dc];exact x1
def J28 (c:p.bulk<=4200000):∃b,R16 p=some b:=by
 have d:=B1m c;obtain⟨a,v,x,r,y⟩:=I2d p.Decls d.decls 300 (by omega) (by omega);have:=r (by omega);obtain⟨b,u,_⟩:=D2c p.Body d.body a (by omega) (by omega);unfold R16;rw[v,ob,u,ob,V25 c,ob];cases decide (b<0)with
 |true=>exact⟨_,rfl⟩
 |false=>exact⟨_,rfl⟩
def U1g (p:I0)(c:p.bulk<=4200000)(d:Tr=some true):Cu p=some true:=by
 obtain⟨b,r⟩:=J28 c;unfold Cu;rw[d,ob,if_neg (by simp),r,ob];cases b with
 |false=>rfl
 |true=>
  simp only[Bool.not_true,Bool.false_eq_true,if_false];rw[X25 c,ob,I28 c,ob];simp only[beq_self_eq_true,cond_true]
variable {σ:Str->Str}
variable {ds:List C0}{keep:C0->Bool}
variable {ds:List C0}{keep:C0->Bool}
variable {ds:List C0}{keep:C0->Bool}
set_option maxRecDepth 100000
set_option maxHeartbeats 0
def xeb {β:Type}{x:Option β}{f:β->Option α}{a:β}{r:α}(h:x=some a)(k:f a=some r):(x>>=f)=some r:=by rw[h];exact k
def xet {p q:Option α}{r:α}(h:b=true)(k:p=some r):(if b=true then p else q)=some r:=by rw[if_pos h];exact k
def xef {p q:Option α}{r:α}(h:b=false)(k:q=some r):(if b=true then p else q)=some r:=by rw[h];exact k
def xix {l:List α}{n:Int}{r:Option α}(h:idx l n=r):idx l n=r:=h
def xsl {l:List α}{n m:Int}{r:Option (List α)}(h:slc l n m=r):slc l n m=r:=h
def xer {x y z:α}(h:x=y)(k:y=z):x=z:=h.trans k
def xev {p:Prop}(h:p:=by repeat' (first|(with_reducible first|exact rfl|assumption|apply xeb|(apply xet;decide +kernel)|(apply xef;decide +kernel)|(apply xix;with_unfolding_all exact rfl)|(apply xsl;with_unfolding_all exact rfl))|simp[R1r,Int.max_def,Int.min_def]|(with_reducible first|refine xer (F1.eq_def ..) ?_|refine xer (Z4.eq_def ..) ?_|refine xer (Ea.eq_def ..) ?_|refine xer (Ow.eq_def ..) ?_|refine xer (N5.eq_def ..) ?_|refine xer (C3.eq_def ..) ?_|refine xer (Ef.eq_def ..) ?_|refine xer (I1e.eq_def ..) ?_|refine xer (Lt.eq_def ..) ?_|refine xer (S9.eq_def ..) ?_|refine xer (Zb.eq_def ..) ?_|refine xer (U4.eq_def ..) ?_|refine xer (G4.eq_def ..) ?_|refine xer (P8.eq_def ..) ?_|refine xer (O8.eq_def ..) ?_|refine xer (Sd.eq_def ..) ?_|refine xer (Pu.eq_def ..) ?_|refine xer (Td.eq_def ..) ?_|refine xer (Cm.eq_def ..) ?_|refine xer (N9.eq_def ..) ?_|refine xer (E8.eq_def ..) ?_|refine xer (Ou.eq_def ..) ?_|refine xer (F6.eq_def ..) ?_|refine xer (Z2.eq_def ..) ?_|refine xer (Bj.eq_def ..) ?_|refine xer (Zy.eq_def ..) ?_|refine xer (Qi.eq_def ..) ?_|refine xer (Xe.eq_def ..) ?_|refine xer (Cj.eq_def ..) ?_|refine xer (Ll.eq_def ..) ?_|refine xer (Yy.eq_def ..) ?_|refine xer (X2.eq_def ..) ?_|refine xer (L3.eq_def ..) ?_|refine xer (U7.eq_def ..) ?_|refine xer (Ib.eq_def ..) ?_|refine xer (V6.eq_def ..) ?_|refine xer (B6.eq_def ..) ?_|refine xer (H6.eq_def ..) ?_|refine xer (Rh.eq_def ..) ?_|refine xer (Qh.eq_def ..) ?_|refine xer (I7.eq_def ..) ?_|refine xer (Hj.eq_def ..) ?_|refine xer (Mw.eq_def ..) ?_|refine xer (D3.eq_def ..) ?_|refine xer (Aj.eq_def ..) ?_|refine xer (A8.eq_def ..) ?_|refine xer (Db.eq_def ..) ?_|refine xer (B1g.eq_def ..) ?_|refine xer (Gn.eq_def ..) ?_|refine xer (Yv.eq_def ..) ?_|refine xer (Lw.eq_def ..) ?_|refine xer (X6.eq_def ..) ?_|refine xer (Dl.eq_def ..) ?_|refine xer (P5.eq_def ..) ?_|refine xer (L11.eq_def ..) ?_|refine xer (V5.eq_def ..) ?_|refine xer (Eb.eq_def ..) ?_|refine xer (Cl.eq_def ..) ?_|refine xer (M9.eq_def ..) ?_|refine xer (I5.eq_def ..) ?_|refine xer (Ij.eq_def ..) ?_|refine xer (R8.eq_def ..) ?_|refine xer (Yi.eq_def ..) ?_|refine xer (Fn.eq_def ..) ?_|refine xer (Sp.eq_def ..) ?_|refine xer (Ix.eq_def ..) ?_|refine xer (Qy.eq_def ..) ?_|refine xer (W10.eq_def ..) ?_|refine xer (Bo.eq_def ..) ?_|refine xer (Ry.eq_def ..) ?_|refine xer (El.eq_def ..) ?_|refine xer (T3.eq_def ..) ?_|refine xer (Qb.eq_def ..) ?_|refine xer (Q17.eq_def ..) ?_|refine xer (Su.eq_def ..) ?_|refine xer (Jj.eq_def ..) ?_|refine xer (Pf.eq_def ..) ?_|refine xer (Na.eq_def ..) ?_|refine xer (Xd.eq_def ..) ?_|refine xer (Wc.eq_def ..) ?_|refine xer (Rb.eq_def ..) ?_|refine xer (V1a.eq_def ..) ?_|refine xer (Hh.eq_def ..) ?_|refine xer (R17.eq_def ..) ?_|refine xer (U1n.eq_def ..) ?_|refine xer (C7.eq_def ..) ?_|refine xer (Pb.eq_def ..) ?_|refine xer (Nf.eq_def ..) ?_|refine xer (Tu.eq_def ..) ?_|refine xer (W6.eq_def ..) ?_|refine xer (Pt.eq_def ..) ?_|refine xer (Sh.eq_def ..) ?_|refine xer (Sb.eq_def ..) ?_|refine xer (Kl.eq_def ..) ?_|refine xer (K1e.eq_def ..) ?_|refine xer (E12.eq_def ..) ?_|refine xer (T17.eq_def ..) ?_|refine xer (Xy.eq_def ..) ?_|refine xer (Uu.eq_def ..) ?_|refine xer (Az.eq_def ..) ?_|refine xer (Nw.eq_def ..) ?_|refine xer (Ss.eq_def ..) ?_|refine xer (Ao.eq_def ..) ?_|refine xer (Vp.eq_def ..) ?_|refine xer (Lj.eq_def ..) ?_|refine xer (Sr.eq_def ..) ?_|refine xer (Ml.eq_def ..) ?_|refine xer (Vu.eq_def ..) ?_|refine xer (Dz.eq_def ..) ?_|refine xer (Nj.eq_def ..) ?_|refine xer (Tr.eq_def ..) ?_)|with_unfolding_all exact rfl)):p:=h
def xeq {x:Option α}{a b:α}(h:x=some a)(k:a=b):x=some b:=by rw[h,k]
def xlt {p:Prop}(h:p:=by(apply xeq;exact xev;with_unfolding_all exact rfl)):p:=h
def xPr:I0:=(Jw).getD default
def xCo:C1:=(Kw).getD default
def xM:X0:=X0.mk xPr.Decls xCo (J1.mk [] 0)
def xF:List (Str×Option Y0):=[([112,105,110],some (Y0.mk (A0.mk 1 0 9 0 [] [] []) (0,1))),([120],some (Y0.mk (A0.mk 1 0 3 0 [] [] []) (1,1)))]
def xhb:xPr.bulk<=4200000:=by decide
def P1r:Mf xPr=some (-1,0):=(H25 xhb).trans (congrArg some (by kernel_rfl))
def Q1r:Su xCo=some 0:=xlt
def E2c:Vp xPr xCo (O1.mk [4] [] []) []=some (0,[[4],[0]]):=xlt
def F2c:Lj xPr xCo (O1.mk [4] [] []) []=some ([[4],[0]],[],xM,xF):=xlt
def G2c:T3 xPr.Body xM xF [[4],[0]] []=some (X0.mk xPr.Decls xCo (J1.mk [4] 8),[[4],[3]]):=xlt
def H2c:Sr xPr xCo (O1.mk [4] [] []) []=some (0,[[4],[3]]):=by
 have d:=P1r;have b:=Q1r;have u:=E2c;have c:=F2c;have r:=G2c;exact xlt
def I2c:Ml xPr xCo (O1.mk [4] [] []) []=some ([[4],[3]],[],X0.mk xPr.Decls xCo (J1.mk [4] 8),xF):=by
 have d:=P1r;have b:=Q1r;have u:=E2c;have c:=F2c;have r:=G2c;exact xlt
def J2d:Vu xPr xCo (O1.mk [4] [] [])=some (J1.mk [4] 8,0):=by
 have b:=H2c;have c:=I2c;exact xlt
def J2c:Vp xPr xCo (O1.mk [0] [] []) []=some (0,[[0],[0]]):=xlt
def K2c:Lj xPr xCo (O1.mk [0] [] []) []=some ([[0],[0]],[],xM,xF):=xlt
def L2c:T3 xPr.Body xM xF [[0],[0]] []=some (X0.mk xPr.Decls xCo (J1.mk [] 12),[[0],[1]]):=xlt
def K2d:Sr xPr xCo (O1.mk [0] [] []) []=some (0,[[0],[1]]):=by
 have d:=P1r;have b:=Q1r;have u:=J2c;have c:=K2c;have r:=L2c;exact xlt
def L2d:Ml xPr xCo (O1.mk [0] [] []) []=some ([[0],[1]],[],X0.mk xPr.Decls xCo (J1.mk [] 12),xF):=by
 have d:=P1r;have b:=Q1r;have u:=J2c;have c:=K2c;have r:=L2c;exact xlt
def M2d:Vu xPr xCo (O1.mk [0] [] [])=some (J1.mk [] 12,0):=by
 have b:=K2d;have c:=L2d;exact xlt
def N2d:Dz xPr xCo (O1.mk [4] [] [])=some ([4,3],0):=by
 have b:=H2c;have c:=I2c;exact xlt
def K28:Tr=some true:=by
 have b:Jw=some xPr:=rfl;have c:Kw=some xCo:=rfl;unfold Tr;refine xeb b (xeb c (xeb J2d (xeb M2d (xeb N2d (xeb (X25 xhb) ?_)))));rw[show(W19 xPr).2.2.2=0 by kernel_rfl,show(W19 xPr).1=10 by kernel_rfl];exact xev
mutual
def C1.bulk:C1->Nat
 |.mk y0 y1 y2 y3 y4 y5 y6 y7 y8 y9 y10 y11 y12=>1+(1+(1+(1+(1+(1+(1+(1+(1+(1+(1+(1+(1+(0)))))))))))))+1
def C1.bulks:List C1->Nat
 |[]=>0
 |x::r=>C1.bulk x+C1.bulks r
end
mutual
def O1.bulk:O1->Nat
 |.mk y0 y1 y2=>((y0.map λ_=>1).sum+1)+(((y1.map λ_=>1).sum+1)+(((y2.map λ_=>1).sum+1)+(0)))+1
def O1.bulks:List O1->Nat
 |[]=>0
 |x::r=>O1.bulk x+O1.bulks r
end
end Go.Proofs.YtnabbmegmkdehaaGreatDoor

