/- A part of the proof of CatalogMakes. -/
import Derived.Test.YtbaijagfgceilaaGreatDoorAmB
import Derived.WalkSmall
namespace Go.Am
inductive Pn (α:Type) where
 | ok (a:α)
 | pn (n:Int)
def X4 {α:Type}(res:Pn α)(hf:α→N0)(rf:α→A):A→N0→Prop:=match res with
 | .ok a=>Ret (hf a) (rf a)
 | .pn _=>fun _ _=>False
def P4 {α:Type}(res:Pn α)(fv:Int→Value)(ph:N0):Value→N0→Prop:=match res with
 | .ok _=>noP
 | .pn n=>fun v h=>v=fv n∧h=ph∧InK .i64 n
abbrev fxp (C:Cx)(n K:Nat)(P:Value→N0→Prop):Fx:=⟨C,⟨n,[]⟩,K,G19 K P,Uj⟩
theorem bp' {α β:Type}{x:Option (Pn α)}{f:Pn α→Option β}{r:β}(h:(x>>=f)=some r):(∃ n,x=some (.pn n)∧f (.pn n)=some r)∨∃ a,x=some (.ok a)∧f (.ok a)=some r:=by
 cases x with
 | none=>cases h
 | some y=>cases y with
  | ok a=>exact .inr ⟨a,rfl,h⟩
  | pn n=>exact .inl ⟨n,rfl,h⟩
theorem F2.ok {C:Cx}{f:FuncId}{args:List A}{H:N0}{α:Type}{a:α}{hf:α→N0}{g:α→A}{j:Int→Value}{i:N0}(h:F2 C f args H (X4 (.ok a) hf g) (P4 (.ok a) j i)):L0 C f args H (Ret (hf a) (g a)):=
 ⟨h.1,fun M G w vs a b c d e=>(h.2 M G w vs a b c d e).mono fun _ _ h=>h.resolve_right fun ⟨_,_,_,_,_,h,_⟩=>h.elim⟩
theorem gn' {F:Fx}{L l:List Oper}{o:Oper}{env:Env}{H H':N0}{Q:Env→N0→Prop}{d:Option Nat}{g:FuncId}{xs:List A}(idx:List Nat){a:List A}{cH:N0}{α:Type}{n:Int}{hf:α→N0}{m:α→A}{e:Int→Value}{b:N0}
  (hc:F2 F.C g a cH (X4 (.pn n) hf m) (P4 (α:=α) (.pn n) e b)) (h:Ke F.C L o env=some (d,g,xs)) (q:Re (M3 idx H.length) a=xs) (hi:Ii idx H.length=true) (hm:Jl H idx=Oo (M3 idx H.length) cH)
  (j:Sg (E9 H idx (M3 idx H.length) (K5 idx cH) b)=some H') (k:InK .i64 n→F.pan (e n) (fun t=>dg (K5 idx cH) (env t)) H'):E0 F L (o::l) env H Q:=by
 refine .callHP idx a cH h (A1z q) hi (X10 hm) hc (fun v c ⟨p,f,i⟩=>?_) fun _ _ h=>h.elim
 subst p; subst f
 have r:=Al j
 subst r
 exact k i
theorem pe' {K:Nat}{α:Type}{n:Int}{b:Int→Value}{H H':N0}(h2:tkH H' H=H')(a:okB K [] H'=true)(hi:InK .i64 n):G19 K (P4 (α:=α) (.pn n) b H') (b n) (fun _=>.junk) H:=by
 simp only [okB,W2,zqi,Bool.true_and] at a
 exact ⟨H',Q1j h2 a.1,a.2,rfl,rfl,hi⟩
def F1k:A→Option Value
 | .d (.int k n)=>some (.int k n)
 | .d (.bool b)=>some (.bool b)
 | .agg [.d (.int k n)]=>some (.agg #[.int k n])
 | _=>none
theorem R1u {M:Mem}{G:Nat→Value}{x:A}{v u:Value}(h:L1 M G x v)(a:F1k x=some u):v=u:=by
 unfold F1k at a
 split at a
 ·cases a; cases h with | d h=>cases h; rfl
 ·cases a; cases h with | d h=>cases h; rfl
 ·cases a
  cases h with
  | agg hl h1 h2=>
   rename_i k n vs
   obtain ⟨v,hv⟩:=Array.size_eq_one_iff.1 hl.symm
   subst hv
   have:=h2 0 _ v rfl rfl
   cases this with | d h=>cases h; rfl
 ·cases a
def B1z:Value→Prop
 | .iface _ (.agg ⟨[.int k n]⟩)=>InK k n
 | _=>True
theorem H1x {M:Mem}{G:Nat→Value}{x:A}{v u:Value}(h:L1 M G x v)(a:F1k x=some u)(t:TypeId):B1z (.iface t u):=by
 unfold F1k at a
 split at a
 ·cases a; trivial
 ·cases a; trivial
 ·cases a
  cases h with
  | agg hl h1 h2=>
   rename_i k n vs
   obtain ⟨v,hv⟩:=Array.size_eq_one_iff.1 hl.symm
   subst hv
   have:=h2 0 _ v rfl rfl
   cases this with | d h=>cases h with | int h=>exact h
 ·cases a
def N1r (C:Cx)(L:List Oper)(o1 o2:Oper)(env:Env):Option Value:=
 match Z1 L env o1,o2.guard,o1.op,o1.dst,o2.op with
 | some true,none,.makeInterface t x,some d,.panic (.tmp e)=>match B4 C.T t,F1k (ev C.GL env x) with
  | some i,some u=>match i.u with
   | .st _=>bif Nat.beq d e then some (.iface t u) else none
   | _=>none
  | _,_=>none
 | _,_,_,_,_=>none
theorem pn' {F:Fx}(hC:F3 F.C){L:List Oper}{b j:Oper}{env:Env}{H:N0}{Q:Env→N0→Prop}{v:Value}(h:N1r F.C L b j env=some v)(k:B1z v→F.pan v (put env b.dst .junk) H):E0 F L [b,j] env H Q:=by
 unfold N1r at h
 split at h
 ·rename_i t x d e E hg s A n
  split at h
  ·rename_i i u ht z
   split at h
   ·rename_i fs r
    cases hde:Nat.beq d e with
    | false=>rw [hde] at h; cases h
    | true=>
     rw [hde] at h
     cases h
     have:=zqo hde
     subst this
     intro fr M G w a J O c hs q B
     have l:d < F.N:=G6 (c b zqp) d A
     refine wpList_step fun K f=>?_
     rw [Ie hs E]
     simp only [zt]
     have I:a.eval x=u:=R1u (hs.eval x) z
     have y:=H1x (hs.eval x) z t
     obtain ⟨R,p⟩:=C1b (hC.tok.facts ht) r
     have h1:(execOp a.eval b).run F.C.P w = .ok (.value (.iface t u)) w:=by
      unfold execOp
      simp only [s,I,Instr.makeInterface]
      simp [run_underlying p.1]
     unfold Oper.wp
     rw [h1]
     refine f _ _ ?_
     have m:=hs.quiet (dst:=b.dst) (x:=.junk) (v:=.iface t u) (fun D h'=>G6 (c b zqp) D h') .junk hs.good (Ext.refl _ _ _)
     refine wpList_step fun K f=>?_
     have o:Region.wanted j (yielded L.toArray (a.put b.dst (.iface t u)).tmps)=true:=by unfold Region.wanted; rw [hg]
     rw [o]
     simp only [zt]
     have g:(a.put b.dst (.iface t u)).eval (.tmp d) = .iface t u:=by
      have:d < a.tmps.size:=by rw [hs.size]; exact l
      simp [Act.eval,Act.put,A,this]
     have h2:(execOp (a.put b.dst (.iface t u)).eval j).run F.C.P w = .halt (.panic (.iface t u)) w:=by
      unfold execOp
      simp only [n,g]
      simp [Instr.panic,goPanic,Sem.run]
     unfold Oper.wp
     rw [h2]
     exact B.2 _ _ _ M G w _ (k y) m q
   ·cases h
  ·cases h
 ·cases h
abbrev LMp (C:Cx)(n K:Nat)(f:Func)(p:List Nat)(E:List (Nat×A))(H:N0)(R:A→N0→Prop)(P:Value→N0→Prop):Prop:=
 Y0 (fxp C n K P) (lo (pc (Gt f) p)) (Je E) H (pk (fxp C n K P) (Gt f) p (Kn (fxp C n K P) f.results.toList R))
abbrev JMp (C:Cx)(n K:Nat)(f:Func)(p:List Nat)(E:List (Nat×A))(H:N0)(R:A→N0→Prop)(P:Value→N0→Prop):Prop:=
 AEx (fxp C n K P) (pc (Gt f) p) (Je E) H (pk (fxp C n K P) (Gt f) p (Kn (fxp C n K P) f.results.toList R))
theorem AG.lx {C:Cx}(hC:F3 C){L l:List Oper}{o:Oper}{env:Env}{cnd:Cnd}{H:N0}{Q:Env→Cnd→Prop}{d:Option Nat}{W:Option Bool}{s x:List UInt8}{lo hi:Int}(c:Ls L env cnd o=some W)(h:G13 C [] (noG o) env=some (d,s,lo,hi))
  (hs:holds W→Nl cnd (G1b o)) (hk:holds W→slc s lo hi=some x) (a:AG C L l (put env d (.d (.str x))) (Ri cnd d W) H Q):AG C L (o::l) env cnd H Q:=by
 refine .lift (d:=d) (W:=W) (B1d h).2 c hs (fun h'=>?_) a
 obtain ⟨h1,h2,e,b,rfl⟩:=P1g (hk h')
 exact S1a hC h h1 h2 e b
theorem peW {K:Nat}{α:Type}{n:Int}{a:Int→Value}{H H':N0}(h2:WkH H'.length H H')(b:Nat.ble K H'.length=true)(hi:InK .i64 n):G19 K (P4 (α:=α) (.pn n) a H') (a n) (fun _=>.junk) H:=⟨H',h2,b,rfl,rfl,hi⟩
theorem rpq {α:Type}{a:α}{hf:α→N0}{b:α→A}{x:A}{H':N0}(h1:H'=hf a)(h2:x=b a):X4 (.ok a) hf b x H':=⟨h1,h2⟩
def idK (K:Nat)(idx:List Nat):Bool:=(List.range K).all fun k=>Nat.beq (W1o idx k) k
theorem J1p (f:Nat→Nat)(x:Ob):isTok (Tp f x)=isTok x:=by cases x <;> rfl
section
variable {F:Fx}{env:Env}{H:N0}{L:List (Nat×A)}{H2:N0}{idx:List Nat}
theorem S1u (h1:Vp env L=Re (M3 idx H.length) (T1 L))(hi:Ii idx H.length=true)(hm:Jl H idx=Oo (M3 idx H.length) H2)(hk:(idK F.K idx&&Nat.ble F.K H2.length)=true)
  {fr:Fr} {M:Mem} {G:Nat→Value} {w:World} {a:Act} (hK:fr.H0.length=F.K) (hs:St F.C F.N M G w env H a) (u:Q2 fr M G w H):∃ G',St F.C F.N M G' w (Je L) H2 a∧Q2 fr M G' w H2:=by
 have hm:=X10 hm
 generalize hf:M3 idx H.length=f at *
 obtain ⟨a2,m⟩:=hm.spec
 simp only [Ii,zqi] at hi hk
 have O:=Qn hi.1
 have a4:∀ p∈idx,p < H.length:=fun p hp=>by simpa using List.all_eq_true.1 hi.2 p hp
 have a3:=Nat.le_of_ble_eq_true hk.2
 have n:∀ {i p:Nat},idx[i]?=some p→f i=p:=fun {i p} hip=>by
  have:i < idx.length:=(zqu.1 hip).1
  have hb:Nat.blt i idx.length=true:=Nat.ble_eq_true_of_le this
  rw [← hf]
  simp [M3,hb,W1o,Q3,hip]
 have P:∀ {i:Nat},idx.length≤i→f i=H.length+(i - idx.length):=fun {i} a0=>by
  have hb:Nat.blt i idx.length=false:=by
   cases hb:Nat.blt i idx.length with
   | false=>rfl
   | true=>have:=Nat.le_of_ble_eq_true hb; omega
  rw [← hf]
  simp [M3,hb]
 have v:∀ {o:Nat},o < F.K→f o=o:=fun {o} z=>by
  have h2:=List.all_eq_true.1 hk.1 o (List.mem_range.2 z)
  have hb:Nat.blt o idx.length=true:=Nat.ble_eq_true_of_le (by omega)
  rw [← hf]
  simp only [M3,hb,_root_.cond_true]
  exact zqo h2
 have X:W9 M (fun i=>G (f i)) w H2:=by
  refine ⟨fun i y B=>?_,fun i i' y y' b B a1 hb I=>?_,fun i a0=>?_⟩
  ·obtain ⟨p,hp,q⟩:=m i y B
   have s:=hs.hrel.obj p _ q
   simp only [n hp]
   cases y with
   | dead=>trivial
   | row cs e=>
    obtain ⟨b,us,U,Z,S,T,g5,g6⟩:=s
    exact ⟨b,us,U,Z,by rw [Be] at S; exact S,T,Yo cs us g5,g6⟩
   | bld o e=>exact s
   | buf e sz=>exact s
   | tok e sz=>exact s
   | map es=>
    obtain ⟨b,ms,cl,U,Z,S,T,g5⟩:=s
    refine ⟨b,ms,cl,U,Z,S,fun j k cs e a c=>⟨(T j k cs e a c).1,?_⟩,g5⟩
    refine ((T j k cs e a c).2).bare ?_
    have:∀ l:List D,W2 0 (l.map .d)=true:=fun l=>by
     induction l with
     | nil=>rfl
     | cons x r W=>simp [W2,W5,W]
    match cs with
    | []=>rfl
    | [x]=>rfl
    | x::y::r=>simp only [Z1a,W5]; exact this _
  ·obtain ⟨p,hp,q⟩:=m i y B
   obtain ⟨p',E,J⟩:=m i' y' a1
   simp only [n hp] at hb
   simp only [n E] at I
   have:=hs.hrel.apart p p' _ _ b q J (by rw [Wf]; exact hb) (by rw [Wf]; exact I)
   subst this
   have e1:=D17 O hp
   have e2:=D17 O E
   rw [e1] at e2
   exact Option.some.inj e2
  ·simp only [P (by omega:idx.length≤i)]
   exact hs.hrel.fresh _ (by omega)
 have Q:∀ b,own (fun i=>G (f i)) H2 b→own G H b:=fun b ⟨i,y,B,hb⟩=>by
  obtain ⟨p,hp,q⟩:=m i y B
  simp only [n hp] at hb
  exact ⟨p,_,q,by rw [Wf]; exact hb⟩
 have R:∀ (L:List (Nat×A)),Vp env L=Re f (T1 L)→∀ t,L1 M (fun i=>G (f i)) (Je L t) (a.tmps.getD t undef):=by
  intro L
  induction L with
  | nil=>intro _ t; exact .junk
  | cons p r W=>
   intro h t
   simp only [Vp,T1,Re,List.cons.injEq] at h
   simp only [Je,upd]
   cases hb:Nat.beq t p.1 with
   | true=>
    have:=zqo hb
    subst this
    simp only [_root_.cond_true]
    exact W1q p.2 _ (by rw [← h.1]; exact hs.env _)
   | false=>
    simp only [_root_.cond_false]
    exact W h.2 t
 refine ⟨fun i=>G (f i),⟨hs.good,⟨fun G0 g cs e=>(hs.gl.tab G0 g cs e),hs.gl.gp⟩,X,R L h1,hs.size,hs.defers⟩,u.ext,fun b hb=>u.own b (Q b hb),by omega,fun o x z ht=>?_,fun o x y z ht B=>?_⟩
 ·have V:=(zqu.1 z).1
  simp only [v (by omega:o < F.K)]
  exact u.keep o x z ht
 ·have V:=(zqu.1 z).1
  obtain ⟨p,hp,q⟩:=m o y B
  have Y:p=o:=by rw [← n hp,v (by omega)]
  rw [Y] at q
  have:=u.kind o x _ z ht q
  rwa [J1p] at this
theorem Y0.rj {c:Code}{Q:Po}(idx:List Nat)(k:Y0 F c (Je L) H2 Q)(h1:Vp env L=Re (M3 idx H.length) (T1 L))(hi:Ii idx H.length=true)(hm:Jl H idx=Oo (M3 idx H.length) H2)(hk:(idK F.K idx&&Nat.ble F.K H2.length)=true):Y0 F c env H Q:=by
 intro fr M G w a d hs b
 obtain ⟨G',h2,e⟩:=S1u h1 hi hm hk d hs b
 exact k fr M G' w a d h2 e
end
end Go.Am

