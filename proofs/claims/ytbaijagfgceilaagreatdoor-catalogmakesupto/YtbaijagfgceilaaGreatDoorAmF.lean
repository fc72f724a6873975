/- A part of the proof of CatalogMakes. -/
import Derived.Test.YtbaijagfgceilaaGreatDoorAmC
import Derived.Recover
import Derived.KernelRfl
namespace Go.Am
def C1z (C:Cx)(fn:Func)(Q:A→N0→Prop):Fr→Exit→Act→World→Prop:=fun fr e a w=>bodyPostD C.P fn (An fr.M0 fr.G0 fr.w0 fr.H0 Q) e a w
theorem L0.introD {C:Cx}(hC:F3 C){f:FuncId}{fn:Func}{c:Code}{args:List A}{H:N0}{Q:A→N0→Prop}(hf:C.P.funcs[f]?=some fn)(hn:(fn.name == "runtime.NumGoroutine")=false)(hb:fn.body=some c)
  (ha:Nat.ble args.length fn.ntmps=true) (h:AEx ⟨C,⟨fn.ntmps,[]⟩,H.length,Mp,C1z C fn Q⟩ c (Bt args) H (Kn (fx C fn.ntmps H.length) fn.results.toList Q)):L0 C f args H Q:=by
 refine ⟨by simp [Jo,hf,hb,hn],fun M G w vs hg k r hl hr=>?_⟩
 have s:=Nat.le_of_ble_eq_true ha
 have hs:St C ⟨fn.ntmps,[]⟩ M G w (Bt args) H { tmps:=vs++Array.replicate (fn.ntmps - vs.size) undef,defers:=[] }:=by
  refine ⟨hg,k,r,fun t=>?_,by simp; omega,rfl⟩
  unfold Bt
  cases j:nth args t with
  | none=>exact .junk
  | some x=>
   rw [Q3] at j
   have i:t < vs.size:=by rw [← hl]; exact (zqu.1 j).1
   have hv:vs[t]?=some vs[t]:=Array.getElem?_eq_getElem i
   have:(vs++Array.replicate (fn.ntmps - vs.size) undef).getD t undef=vs[t]:=by
    simp [Array.getD_eq_getD_getElem?,Array.getElem?_append,i]
   rw [this]
   exact hr t x _ j hv
 have l:Q2 ⟨H,G,M,w⟩ M G w H:=⟨Ext.refl _ _ _,fun b hb=>.inl hb,zqr _,fun _ _ _ _=>rfl,fun o x y j ht n=>by rw [j] at n; exact Option.some.inj n ▸ ht⟩
 refine calls_of_wp_defers hf hb (wp_mono (h ⟨H,G,M,w⟩ M G w _ rfl hs l) fun e m w' q=>?_)
 rcases q with ⟨x,env',H',M',G',rfl,g,d,a⟩ | ⟨v,env',H',M',G',rfl,g,d,a⟩ | ⟨_,g⟩
 ·have hp:=Ct (F:=fx C fn.ntmps H.length) hC rfl d a g
  have p:=d.defers
  cases x with
  | normal=>show Leaves _ _ _ _ m.defers _ _; rw [p]; exact hp
  | ret=>show Leaves _ _ _ _ m.defers _ _; rw [p]; exact hp
  | exit id=>exact g.elim
 ·exact g.elim
 ·exact g
def M1w (C:Cx)(g:FuncId)(args:List A)(H:N0)(u u':FrameMode)(H':N0):Prop:=
 Jo C.P g=true∧∀ M G w (vs:Array Value),Good M w→Sr C M w→W9 M G w H→args.length=vs.size→(∀ (i:Nat) x v,args[i]?=some x→vs[i]?=some v→L1 M G x v)→
  CallsD C.P g vs u w (fun e u2 w'=>u2=u'∧An M G w H (fun _ h=>h=H') e w')
def N1w (o:Oper):Option Nat×Op×Option (Nat×Bool):=(o.dst,o.op,o.guard)
def K19 (H:N0)(p:Nat):Bool:=match nth H p with | some x=>!isTok x | none=>false
theorem dfk {F:Fx}{rs:List ResultVar}{Q:A→N0→Prop}{e:Env}{h b:N0}{p q:Nat}{m x1:Int}{t1:TypeId}{x2:Int}{t2:TypeId}{c:Int→Value}{hc:Nat→Nat→Int→N0}(hi:InK .i64 m)
  (h1:Jl h [p,q]=Oo (M3 [p,q] h.length) [.row [.d (.int .i64 x1)] t1,.row [.d (.int .i64 x2)] t2]) (h2:Ii [p,q] h.length=true) (f:Sg (E9 h [p,q] (M3 [p,q] h.length) [] (hc t1 t2 m))=some b) (k:Kn F rs Q .ret (fun t=>dg [] (e t)) b) :
  ∃ a x1 t1 x2 t2,c m=c a∧InK .i64 a∧Jl h [p,q]=Oo (M3 [p,q] h.length) [.row [.d (.int .i64 x1)] t1,.row [.d (.int .i64 x2)] t2]∧Ii [p,q] h.length=true∧Kn F rs Q .ret (fun t=>dg [] (e t)) (E9 h [p,q] (M3 [p,q] h.length) [] (hc t1 t2 a)):=by
 refine ⟨m,x1,t1,x2,t2,rfl,hi,h1,h2,?_⟩
 have g:=Al f
 subst g
 exact k
theorem AEx.dfr {C:Cx}(hC:F3 C){n K:Nat}{fn:Func}{Q0:A→N0→Prop}{QQ:Po}{id:Nat}{o1 o2:Oper}{O:Code}{env:Env}{H:N0}{g:FuncId}{d L J p q:Nat}{fv:Int→Value}{hc:Nat→Nat→Int→N0}
  (U:∀ va E w,CallsD C.P g #[va,E] .returning w fun e u w'=>(∃ v,e = .returned v)∧u = .returning∧w'=w)
  (Q:∀ x1 t1 x2 t2 m,InK .i64 m→M1w C g [.ref 0 0,.ref 1 0] [.row [.d (.int .i64 x1)] t1,.row [.d (.int .i64 x2)] t2] (.panicking [{ v:=fv m,recovered:=false }]) (.panicking [{ v:=fv m,recovered:=true }]) (hc t1 t2 m))
  (D:[o1,o2].map N1w=[(some d,.makeFunc (.func g) #[] #[.tmp L,.tmp J],none),(none,.defer { callee:=.value (.tmp d),args:=#[],argTypes:=#[] },none)])
  (hd:Nat.blt d n=true) (ha:env L = .ref p 0) (hb:env J = .ref q 0) (S:(K19 H p&&K19 H q)=true) (b9:Nat.ble K H.length=true)
  (k:∀ ds,AEx ⟨C,⟨n,ds⟩,H.length,fun v e h=>∃ m x1 t1 x2 t2,v=fv m∧InK .i64 m∧Jl h [p,q]=Oo (M3 [p,q] h.length) [.row [.d (.int .i64 x1)] t1,.row [.d (.int .i64 x2)] t2]∧Ii [p,q] h.length=true∧
    Kn (fx C n K) fn.results.toList Q0 .ret (fun t=>dg [] (e t)) (E9 h [p,q] (M3 [p,q] h.length) [] (hc t1 t2 m)),Uj⟩ O (put env (some d) .junk) H
   (fun x e h=>match x with | .ret=>Kn (fx C n K) fn.results.toList Q0 .ret e h | _=>False)) :
  AEx ⟨C,⟨n,[]⟩,K,Mp,C1z C fn Q0⟩ (.seq (.region id #[o1,o2] false) O) env H QQ:=by
 intro fr M G w a hK hs a2
 simp only [List.map_cons,List.map_nil,N1w,List.cons.injEq,zqh,and_true] at D
 obtain ⟨⟨d1,e1,g1⟩,d2,e2,g2⟩:=D
 have a0:d < n:=Nat.le_of_ble_eq_true hd
 have b8:d < a.tmps.size:=by rw [hs.size]; exact a0
 have B:Jo C.P g=true:=(Q 0 0 0 0 0 (by decide)).1
 have c2:=Nat.le_of_ble_eq_true b9
 have V:=hs.env L
 rw [ha] at V
 have R:=hs.env J
 rw [hb] at R
 simp only [zqi] at S
 have z:∀ r,K19 H r=true→∃ x,H[r]?=some x∧isTok x=false:=fun r hr=>by
  unfold K19 at hr
  rw [Q3] at hr
  split at hr
  ·rename_i x I; exact ⟨x,I,by simpa using hr⟩
  ·cases hr
 obtain ⟨xp,b2,Z⟩:=z p S.1
 obtain ⟨xq,c1,Y⟩:=z q S.2
 refine wp_seq (wp_region_lit (l:=[o1,o2]) ?_)
 have r1:(execOp a.eval o1).run C.P w = .ok (.value (.func (.func g) #[] #[a.tmps.getD L undef,a.tmps.getD J undef])) w:=by
  simp only [execOp,e1]
  simp [Instr.makeFunc,Act.eval]
 refine wpList_plain g1 fun K1 b0=>?_
 unfold Oper.wp
 rw [r1]
 refine b0 _ _ ?_
 rw [d1]
 have f:=hs.quiet (dst:=some d) (x:=.junk) (v:=.func (.func g) #[] #[a.tmps.getD L undef,a.tmps.getD J undef]) (fun d' h'=>by cases h'; exact a0) .junk hs.good (Ext.refl _ _ _)
 have hv:(a.put (some d) (.func (.func g) #[] #[a.tmps.getD L undef,a.tmps.getD J undef])).eval (.tmp d) = .func (.func g) #[] #[a.tmps.getD L undef,a.tmps.getD J undef]:=by simp [Act.eval,Act.put,b8]
 generalize a.tmps.getD L undef=va at V hv f ⊢
 generalize a.tmps.getD J undef=E at R hv f ⊢
 generalize a.put (some d) (.func (.func g) #[] #[va,E])=a1 at hv f ⊢
 have r2:(execOp a1.eval o2).run C.P w = .ok (.defer { target:=.fn (.func g) #[va,E],args:=#[] }) w:=by
  simp only [execOp,e2,resolve,hv]
  simp [Deferred.ofValue]
 refine wpList_plain g2 fun K2 b5=>?_
 unfold Oper.wp
 rw [r2]
 refine b5 _ _ (wpList_nil ?_)
 rw [d2]
 have c0:a1.defers=[]:=f.defers
 have a8:St C ⟨n,[{ target:=.fn (.func g) #[va,E],args:=#[] }]⟩ M G w (put env (some d) .junk) H { a1 with defers:={ target:=.fn (.func g) #[va,E],args:=#[] }::a1.defers }:=⟨f.good,f.gl,f.hrel,f.env,f.size,by rw [c0]⟩
 have T:Q2 ⟨H,G,M,w⟩ M G w H:=⟨Ext.refl _ _ _,fun b hb=>.inl hb,zqr _,fun _ _ _ _=>rfl,fun o x y I ht hy=>by rw [I] at hy; exact Option.some.inj hy ▸ ht⟩
 have N:∀ X,(invoke (.fn (.func g) #[va,E]) #[]).run C.P X = .ok (.enter g #[va,E]) X:=fun X=>by
  unfold Jo at B
  split at B
  ·rename_i b3 a5
   simp only [zqi,Bool.not_eq_true'] at B
   obtain ⟨c,hc⟩:=Option.isSome_iff_exists.1 B.1
   have a7:¬ b3.name = "runtime.NumGoroutine":=by simpa using B.2
   simp [invoke,callFunc,a5,a7,hc]
  ·cases B
 refine wp_mono (k _ ⟨H,G,M,w⟩ M G w _ rfl a8 T) fun e a' w' he=>?_
 rcases he with ⟨x,env',H',M',G',rfl,hq,s,j⟩ | ⟨v,env',H',M',G',rfl,⟨m,x1,t1,x2,t2,rfl,b6,a4,b1,W⟩,s,j⟩ | ⟨_,hq⟩
 ·cases x with
  | ret=>
   refine .inr (.inr ⟨.inl rfl,?_⟩)
   show Leaves C.P fn a'.tmps (An fr.M0 fr.G0 fr.w0 fr.H0 Q0) a'.defers .returning w'
   rw [s.defers]
   refine leaves_cons (by simp) (N w') ((U va E w').mono ?_)
   rintro e u X ⟨⟨v,rfl⟩,rfl,rfl⟩
   exact Ct (F:=fx C n K) hC hK.symm s (a2.step j) hq
  | normal=>exact hq.elim
  | exit id=>exact hq.elim
 ·refine .inr (.inr ⟨.inr ⟨_,rfl⟩,?_⟩)
  show Leaves C.P fn a'.tmps (An fr.M0 fr.G0 fr.w0 fr.H0 Q0) a'.defers (.panicking _) w'
  rw [s.defers]
  obtain ⟨b7,G1k⟩:=N1g (F:=⟨C,⟨n,[]⟩,K,Mp,Uj⟩) [p,q] [.row [.d (.int .i64 x1)] t1,.row [.d (.int .i64 x2)] t2] b1 (X10 a4) s (a2.step j)
  refine leaves_cons (by simp) (N w') (((Q x1 t1 x2 t2 m b6).2 M' _ w' #[va,E] s.good s.gl b7 rfl fun i x v I hv=>?_).mono ?_)
  ·have b4:M3 [p,q] H'.length 0=p:=rfl
   have a9:M3 [p,q] H'.length 1=q:=rfl
   match i with
   | 0=>
    simp at I hv
    subst I; subst hv
    cases V with
    | ref hg=>exact .ref (by show G' (M3 [p,q] H'.length 0)=_; rw [b4,j.keep p xp b2 Z]; exact hg)
   | 1=>
    simp at I hv
    subst I; subst hv
    cases R with
    | ref hg=>exact .ref (by show G' (M3 [p,q] H'.length 1)=_; rw [a9,j.keep q xq c1 Y]; exact hg)
   | i+2=>simp at I
  ·rintro e u X ⟨rfl,v,r,c3,M2,G2,rfl,rfl,g1,g2,g3,g4,g5,g6,g7⟩
   obtain ⟨G3,_,a6,a3⟩:=G1k _ M2 G2 X g2 g3 g4 g5 g6 g7
   exact Ct (F:=fx C n K) hC hK.symm a6 a3 W
 ·exact hq.elim
theorem st1 {F:Fx}{L:List Oper}{m:Nat}{listed:Array Bool}{env:Env}{H:N0}{Q:Po}(j:Nat){o:Oper}(a:L.all (X9 F.N)=true)(hr:Region.ready .any L.toArray listed=[j])(b:nth L j=some o)
  (h:E0 F L [o] env H (fun e h=>X0 F L m (listed.setIfInBounds j true) e h Q)):X0 F L (m+1) listed env H Q:=X0.step a hr ⟨⟨o,b,h⟩,trivial⟩
theorem gq {F:Fx}{L l:List Oper}{o:Oper}{env:Env}{H H':N0}{Q:Env→N0→Prop}{d:Option Nat}{g:FuncId}{xs:List A}{x y:A}(idx:List Nat){a:List A}{cH b:N0}(hc:L0 F.C g a cH (Ret b x))
  (h:(Ke F.C L o env,Re (M3 idx H.length) a,Ii idx H.length,Jl H idx,frc (ren (M3 idx H.length) x),Sg (E9 H idx (M3 idx H.length) (K5 idx cH) b))=(some (d,g,xs),xs,true,Oo (M3 idx H.length) cH,some y,some H'))
  (k:E0 F L l (put (fun t=>dg (K5 idx cH) (env t)) d y) H' Q):E0 F L (o::l) env H Q:=by
 simp only [zqh] at h
 exact g' idx hc h.1 h.2.1 h.2.2.1 h.2.2.2.1 h.2.2.2.2.1 h.2.2.2.2.2 k
theorem gr {F:Fx}{L l:List Oper}{o:Oper}{env:Env}{H H':N0}{Q:Env→N0→Prop}{d:Option Nat}{g:FuncId}{xs:List A}(idx:List Nat){a:List A}{cH:N0}{α:Type}{n:Int}{hf:α→N0}{e:α→A}{c:Int→Value}{b:N0}
  (hc:F2 F.C g a cH (X4 (.pn n) hf e) (P4 (α:=α) (.pn n) c b)) (h:(Ke F.C L o env,Re (M3 idx H.length) a,Ii idx H.length,Jl H idx,Sg (E9 H idx (M3 idx H.length) (K5 idx cH) b))=(some (d,g,xs),xs,true,Oo (M3 idx H.length) cH,some H'))
  (k:InK .i64 n→F.pan (c n) (fun t=>dg (K5 idx cH) (env t)) H'):E0 F L (o::l) env H Q:=by
 simp only [zqh] at h
 exact gn' idx hc h.1 h.2.1 h.2.2.1 h.2.2.2.1 h.2.2.2.2 k
theorem cq {F:Fx}{L l:List Oper}{o:Oper}{env:Env}{H:N0}{Q:Env→N0→Prop}{d:Option Nat}{f:FuncId}{xs:List A}{x:A}(hc:L0 F.C f xs [] (Ret [] x))(h:(Ke F.C L o env,W2 0 xs)=(some (d,f,xs),true))(k:E0 F L l (put env d x) H Q):E0 F L (o::l) env H Q:=by
 simp only [zqh] at h
 exact c' hc h.1 h.2 k
theorem rq {F:Fx}{rs:List ResultVar}{x:A}{env:Env}{H H':N0}(h:(D1b F.C.T rs env H,tkH H' H,okB F.K [x] H')=(some x,H',true)):Kn F rs (Ret H' x) .ret env H:=by
 simp only [zqh] at h
 exact rt' h.1 h.2.1 h.2.2
theorem lq {F:Fx}{c:Code}{env:Env}{H:N0}{Q:Po}{L:List (Nat×A)}{H2:N0}(k:Y0 F c (Je L) H2 Q)(h:(Vp env L,tkH H2 H,okB F.K (T1 L) H2)=(T1 L,H2,true)):Y0 F c env H Q:=by
 simp only [zqh] at h
 exact lw' k h.1 h.2.1 h.2.2
theorem eq' {F:Fx}{c:Code}{env:Env}{H:N0}{Q:Po}{L:List (Nat×A)}{H2:N0}(k:AEx F c (Je L) H2 Q)(h:(Vp env L,tkH H2 H,okB F.K (T1 L) H2)=(T1 L,H2,true)):AEx F c env H Q:=by
 simp only [zqh] at h
 exact ew' k h.1 h.2.1 h.2.2
theorem fq {F:Fx}{c:Code}{env:Env}{H:N0}{Q:Po}{L:List (Nat×A)}{H2:N0}(k:Y0 F c (Je L) H2 Q)(h:(Vp env L,tkH H2 H,okB F.K (T1 L) H2)=(T1 L,H2,true)):AEx F (.loop c) env H Q:=by
 simp only [zqh] at h
 exact fw' k h.1 h.2.1 h.2.2
def H1k (C:Cx)(L:List Oper)(o:Oper)(env:Env):Option (Option Nat×Option FuncId×List A):=
 match Z1 L env o,o.op with
 | some true,.call { callee:=.value fo,args,.. }=>match ev C.GL env fo with
  | .d (.fn e)=>match Pi (args.toList.map (ev C.GL env)),Zc o with
   | some ys,some d=>some (d,e,ys)
   | _,_=>none
  | _=>none
 | _,_=>none
theorem V1m {C:Cx}{L:List Oper}{o:Oper}{env:Env}{d:Option Nat}{f:FuncId}{xs:List A}(h:H1k C L o env=some (d,some f,xs)):Ke C L o env=some (d,f,xs):=by
 unfold H1k at h
 split at h
 ·rename_i j k l c b
  split at h
  ·rename_i e a
   split at h
   ·rename_i ys m g i
    simp only [zqb,zqh] at h
    obtain ⟨rfl,rfl,rfl⟩:=h
    unfold Ke Vf
    simp only [c,b,a,g,i]
   ·cases h
  ·cases h
 ·cases h
theorem E0.cf {F:Fx}{L l:List Oper}{o:Oper}{env:Env}{H:N0}{Q:Env→N0→Prop}{d:Option Nat}{e:Option FuncId}{xs:List A}{x:A}(h:H1k F.C L o env=some (d,e,xs))
  (hc:∃ f,e=some f∧L0 F.C f xs [] (Ret [] x)) (hn:W2 0 xs=true) (k:E0 F L l (put env d x) H Q):E0 F L (o::l) env H Q:=by
 obtain ⟨f,rfl,hc⟩:=hc
 exact .c (V1m h) hn hc k
theorem R {α:Sort _}{a:α}:a=a:=rfl
section
variable {F:Fx}{L:List Oper}{m:Nat}{listed:Array Bool}{env:Env}{H:N0}{Q:Po}
theorem s1 (j:Nat){o:Oper}(h:E0 F L [o] env H (fun e h=>X0 F L m (listed.setIfInBounds j true) e h Q))
  (a:nth L j=some o:=by exact rfl) (hr:(L.all (X9 F.N),Region.ready .any L.toArray listed)=(true,[j]):=by kernel_rfl):X0 F L (m+1) listed env H Q:=by
 simp only [zqh] at hr
 exact X0.step hr.1 hr.2 ⟨⟨o,a,h⟩,trivial⟩
theorem s2 (i j:Nat){o o':Oper}(h:E0 F L [o] env H (fun e h=>X0 F L m (listed.setIfInBounds i true) e h Q))(h':E0 F L [o'] env H (fun e h=>X0 F L m (listed.setIfInBounds j true) e h Q))
  (b:nth L i=some o:=by exact rfl) (a:nth L j=some o':=by exact rfl) (hr:(L.all (X9 F.N),Region.ready .any L.toArray listed)=(true,[i,j]):=by kernel_rfl):X0 F L (m+1) listed env H Q:=by
 simp only [zqh] at hr
 exact X0.step hr.1 hr.2 ⟨⟨o,b,h⟩,⟨o',a,h'⟩,trivial⟩
theorem s3 (i j n:Nat){o o' a:Oper}(h:E0 F L [o] env H (fun e h=>X0 F L m (listed.setIfInBounds i true) e h Q))(h':E0 F L [o'] env H (fun e h=>X0 F L m (listed.setIfInBounds j true) e h Q))(d:E0 F L [a] env H (fun e h=>X0 F L m (listed.setIfInBounds n true) e h Q))
  (f:nth L i=some o:=by exact rfl) (c:nth L j=some o':=by exact rfl) (b:nth L n=some a:=by exact rfl) (hr:(L.all (X9 F.N),Region.ready .any L.toArray listed)=(true,[i,j,n]):=by kernel_rfl):X0 F L (m+1) listed env H Q:=by
 simp only [zqh] at hr
 exact X0.step hr.1 hr.2 ⟨⟨o,f,h⟩,⟨o',c,h'⟩,⟨a,b,d⟩,trivial⟩
end
section
variable {C:Cx}[Nonempty (F3 C)]{N:FN}{K:Nat}{pn:Value→Env→N0→Prop}{es:Fr→Exit→Act→World→Prop}{L:List Oper}{env env' env'':Env}{H:N0}{m:Nat}{listed:Array Bool}{Q:Po}
def L17 (C:Cx)(L:List Oper)(H:N0)(j:Nat)(env:Env):Option (List Oper×Env×List Prop):=match nth L j with
 | some o=>Qo C L H 1 [o] env
 | none=>none
theorem M17 {j:Nat}{Q:Env→N0→Prop}(h:L17 C L H j env=some ([],env',Dg 1))(k:Q env' H):∃ o,nth L j=some o∧E0 ⟨C,N,K,pn,es⟩ L [o] env H Q:=by
 unfold L17 at h
 split at h
 ·rename_i o a
  exact ⟨o,a,e' h k⟩
 ·cases h
theorem s1q (j:Nat)(k:X0 ⟨C,N,K,pn,es⟩ L m (listed.setIfInBounds j true) env' H Q)
  (h:L17 C L H j env=some ([],env',Dg 1):=by exact rfl) (hr:(L.all (X9 N),Region.ready .any L.toArray listed)=(true,[j]):=by kernel_rfl):X0 ⟨C,N,K,pn,es⟩ L (m+1) listed env H Q:=by
 obtain ⟨o,b,a⟩:=M17 (Q:=fun e h=>X0 ⟨C,N,K,pn,es⟩ L m (listed.setIfInBounds j true) e h Q) h k
 exact s1 j a b hr
theorem s2q (i j:Nat)(k:X0 ⟨C,N,K,pn,es⟩ L m (listed.setIfInBounds i true) env' H Q)(k':X0 ⟨C,N,K,pn,es⟩ L m (listed.setIfInBounds j true) env'' H Q)
  (h:L17 C L H i env=some ([],env',Dg 1):=by exact rfl) (h':L17 C L H j env=some ([],env'',Dg 1):=by exact rfl) (hr:(L.all (X9 N),Region.ready .any L.toArray listed)=(true,[i,j]):=by kernel_rfl):X0 ⟨C,N,K,pn,es⟩ L (m+1) listed env H Q:=by
 obtain ⟨o,d,c⟩:=M17 (Q:=fun e h=>X0 ⟨C,N,K,pn,es⟩ L m (listed.setIfInBounds i true) e h Q) h k
 obtain ⟨o',a,b⟩:=M17 (Q:=fun e h=>X0 ⟨C,N,K,pn,es⟩ L m (listed.setIfInBounds j true) e h Q) h' k'
 exact s2 i j c b d a hr
end
end Go.Am

