/- A part of the proof of InterpSpaces. -/
import Derived.Test.YtnabbmegmkdehaaGreatDoorAmB
import Derived.WalkSmall
set_option linter.defProp false
namespace Go.Am
def idK (K:Nat)(idx:List Nat):Bool:=(List.range K).all λk=>Nat.beq (W1z idx k) k
def M1k (f:Nat->Nat)(x:Ob):isTok (Gt f x)=isTok x:=by cases x<;>rfl
section
variable {F:Fx}{env:Env}{H:F0}{L:List (Nat×A)}{H2:F0}{idx:List Nat}
def Q26 (h1:B1n env L=Hb (K3 idx H.length) (N1 L))(hi:Ep idx H.length=true)(hm:Yr H idx=Yw (K3 idx H.length) H2)(hk:(idK F.K idx&&Nat.ble F.K H2.length)=true)
  {fr:Fr} {M:Mem} {G:Nat->Value} {w:World} {a:Act} (hK:fr.H0.length=F.K) (T:St F.C F.N M G w env H a) (O:D2 fr M G w H):∃G',St F.C F.N M G' w (Gj L) H2 a/\D2 fr M G' w H2:=by
 have hm:=R18 hm;generalize hf:K3 idx H.length=f at *;obtain⟨b1,u⟩:=hm.spec;simp only[Ep,zqi]at hi hk;have a1:=Pr hi.1;have b3:∀p∈idx,p<H.length:=λp J=>by simpa using List.all_eq_true.1 hi.2 p J
 have b2:=Nat.le_of_ble_eq_true hk.2;have B:∀{i p:Nat},idx[i]?=some p->f i=p:=λ{i p} hip=>by
  have:i<idx.length:=(zqu.1 hip).1;have z:Nat.blt i idx.length=true:=Nat.ble_eq_true_of_le this;rw[<-hf];simp[K3,z,W1z,Q2,hip]
 have a2:∀{i:Nat},idx.length<=i->f i=H.length+(i-idx.length):=λ{i} b0=>by
  have z:Nat.blt i idx.length=false:=by
   cases z:Nat.blt i idx.length with
   |false=>rfl
   |true=>have:=Nat.le_of_ble_eq_true z;omega
  rw[<-hf];simp[K3,z]
 have U:∀{o:Nat},o<F.K->f o=o:=λ{o} Y=>by
  have h2:=List.all_eq_true.1 hk.1 o (List.mem_range.2 Y);have z:Nat.blt o idx.length=true:=Nat.ble_eq_true_of_le (by omega);rw[<-hf];simp only[K3,z,_root_.cond_true];exact zqo h2
 have a6:Z6 M (λi=>G (f i)) w H2:=by
  refine⟨λi y X=>?_,λi i' y y' b X a8 z a4=>?_,λi b0=>?_⟩
  ·obtain⟨p,J,I⟩:=u i y X;have v:=T.hrel.obj p _ I;simp only[B J];cases y with
   |dead=>trivial
   |row V e=>
    obtain⟨b,us,g1,g2,g3,g4,g5,g6⟩:=v;exact⟨b,us,g1,g2,by rw[Af]at g3;exact g3,g4,Qx V us g5,g6⟩
   |bld o e=>exact v
   |buf e sz=>exact v
   |vec e sz V=>exact v
   |slots γ e l=>exact v
   |tok e sz=>exact v
   |rok e sz=>exact v
   |gone=>exact v
   |map es=>
    obtain⟨b,ms,cl,g1,g2,g3,g4,g5⟩:=v;refine⟨b,ms,cl,g1,g2,g3,λj k V e a c=>⟨(g4 j k V e a c).1,?_⟩,g5⟩;refine((g4 j k V e a c).2).bare ?_;have:∀l:List D,R2 0 (l.map .d)=true:=λl=>by
     induction l with
     |nil=>rfl
     |cons x r ih=>simp[R2,P4,ih]
    match V with
    |[]=>rfl
    |[x]=>rfl
    |x::y::r=>simp only[Mc,P4];exact this _
  ·obtain⟨p,J,I⟩:=u i y X;obtain⟨p',a5,Z⟩:=u i' y' a8;simp only[B J]at z;simp only[B a5]at a4;have:=T.hrel.apart p p' _ _ b I Z (by rw[Cf];exact z) (by rw[Cf];exact a4);subst this;have e1:=B1d a1 J;have e2:=B1d a1 a5;rw[e1]at e2;exact Option.some.inj e2
  ·simp only[a2 (by omega:idx.length<=i)];exact T.hrel.fresh _ (by omega)
 have a0:∀b,own (λi=>G (f i)) H2 b->own G H b:=λb ⟨i,y,X,z⟩=>by
  obtain⟨p,J,I⟩:=u i y X;simp only[B J]at z;exact⟨p,_,I,by rw[Cf];exact z⟩
 have a3:∀(L:List (Nat×A)),B1n env L=Hb f (N1 L)->∀t,A1 M (λi=>G (f i)) (Gj L t) (a.tmps.getD t undef):=by
  intro L
  induction L with
  |nil=>intro _ t;exact .junk
  |cons p r ih=>
   intro h t;simp only[B1n,N1,Hb,List.cons.injEq]at h;simp only[Gj,upd];cases z:Nat.beq t p.1 with
   |true=>
    have:=zqo z;subst this;simp only[_root_.cond_true];exact G22 p.2 _ (by rw[<-h.1];exact T.env _)
   |false=>
    simp only[_root_.cond_false];exact ih h.2 t
 refine⟨λi=>G (f i),⟨T.good,⟨λG0 g V e=>(T.gl.tab G0 g V e),T.gl.gp⟩,a6,a3 L h1,T.size,T.defers⟩,O.ext,λb z=>O.own b (a0 b z),by omega,λo x Y ht=>?_,λo x y Y ht X=>?_⟩
 ·have a9:=(zqu.1 Y).1;simp only[U (by omega:o<F.K)];exact O.keep o x Y ht
 ·have a9:=(zqu.1 Y).1;obtain⟨p,J,I⟩:=u o y X;have a7:p=o:=by rw[<-B J,U (by omega)]
  rw[a7]at I;have:=O.kind o x _ Y ht I;rwa[M1k]at this
def T8.rj {c:Code}{Q:Po}(idx:List Nat)(k:T8 F c (Gj L) H2 Q)(I:B1n env L=Hb (K3 idx H.length) (N1 L))(y:Ep idx H.length=true)(z:Yr H idx=Yw (K3 idx H.length) H2)(u:(idK F.K idx&&Nat.ble F.K H2.length)=true):T8 F c env H Q:=by
 intro r M G w a d x b;obtain⟨v,D,B⟩:=Q26 I y z u d x b;exact k r M v w a d D B
end
end Go.Am

