/- A part of the proof of CatalogFamilies. -/
import Derived.Test.YtbaijagfgceilaaGreatDoorAmC
import Derived.Recover
namespace Go.Am
def C1a (C:Cx)(fn:Func)(Q:A→I0→Prop):Fr→Exit→Act→World→Prop:=fun fr e a w=>bodyPostD C.P fn (Jj fr.M0 fr.G0 fr.w0 fr.H0 Q) e a w
theorem W0.introD {C:Cx}(hC:T3 C){f:FuncId}{fn:Func}{c:Code}{args:List A}{H:I0}{Q:A→I0→Prop}(hf:C.P.funcs[f]?=some fn)(hn:(fn.name == "runtime.NumGoroutine")=false)(hb:fn.body=some c)
  (ha:Nat.ble args.length fn.ntmps=true) (h:AEx ⟨C,⟨fn.ntmps,[]⟩,H.length,Kl,C1a C fn Q⟩ c (Lo args) H (Pj (fx C fn.ntmps H.length) fn.results.toList Q)):W0 C f args H Q:=by
 refine ⟨by simp [Fk,hf,hb,hn],fun M G w vs hg hgl hh hl hr=>?_⟩
 have hle:=Nat.le_of_ble_eq_true ha
 have hs:St C ⟨fn.ntmps,[]⟩ M G w (Lo args) H { tmps:=vs++Array.replicate (fn.ntmps - vs.size) undef,defers:=[] }:=by
  refine ⟨hg,hgl,hh,fun t=>?_,by simp; omega,rfl⟩
  unfold Lo
  cases hx:nth args t with
  | none=>exact .junk
  | some x=>
   rw [S3] at hx
   have hlt:t < vs.size:=by rw [← hl]; exact (zqu.1 hx).1
   have hv:vs[t]?=some vs[t]:=Array.getElem?_eq_getElem hlt
   have:(vs++Array.replicate (fn.ntmps - vs.size) undef).getD t undef=vs[t]:=by
    simp [Array.getD_eq_getD_getElem?,Array.getElem?_append,hlt]
   rw [this]
   exact hr t x _ hx hv
 have hsi:P2 ⟨H,G,M,w⟩ M G w H:=⟨Ext.refl _ _ _,fun b hb=>.inl hb,zqr _,fun _ _ _ _=>rfl,fun o x y hx ht hy=>by rw [hx] at hy; exact Option.some.inj hy ▸ ht⟩
 refine calls_of_wp_defers hf hb (wp_mono (h ⟨H,G,M,w⟩ M G w _ rfl hs hsi) fun e a' w' he=>?_)
 rcases he with ⟨x,env',H',M',G',rfl,hq,hs',hsi'⟩ | ⟨v,env',H',M',G',rfl,hq,hs',hsi'⟩ | ⟨_,hq⟩
 ·have hp:=Mo (F:=fx C fn.ntmps H.length) hC rfl hs' hsi' hq
  have hd:=hs'.defers
  cases x with
  | normal=>show Leaves _ _ _ _ a'.defers _ _; rw [hd]; exact hp
  | ret=>show Leaves _ _ _ _ a'.defers _ _; rw [hd]; exact hp
  | exit id=>exact hq.elim
 ·exact hq.elim
 ·exact hq
def Z18 (C:Cx)(g:FuncId)(args:List A)(H:I0)(u u':FrameMode)(H':I0):Prop:=
 Fk C.P g=true∧∀ M G w (vs:Array Value),Good M w→Ym C M w→P7 M G w H→args.length=vs.size→(∀ (i:Nat) x v,args[i]?=some x→vs[i]?=some v→O1 M G x v)→
  CallsD C.P g vs u w (fun e u2 w'=>u2=u'∧Jj M G w H (fun _ h=>h=H') e w')
def A19 (o:Oper):Option Nat×Op×Option (Nat×Bool):=(o.dst,o.op,o.guard)
def Zx (H:I0)(p:Nat):Bool:=match nth H p with | some x=>!isTok x | none=>false
theorem dfk {F:Fx}{rs:List ResultVar}{Q:A→I0→Prop}{e:Env}{h H1:I0}{p q:Nat}{m x1:Int}{t1:TypeId}{x2:Int}{t2:TypeId}{fv:Int→Value}{hc:Nat→Nat→Int→I0}(hi:InK .i64 m)
  (h1:Ii h [p,q]=Jk (N3 [p,q] h.length) [.row [.d (.int .i64 x1)] t1,.row [.d (.int .i64 x2)] t2]) (h2:Uf [p,q] h.length=true) (h3:Je (B7 h [p,q] (N3 [p,q] h.length) [] (hc t1 t2 m))=some H1) (k:Pj F rs Q .ret (fun t=>dg [] (e t)) H1) :
  ∃ m' x1 t1 x2 t2,fv m=fv m'∧InK .i64 m'∧Ii h [p,q]=Jk (N3 [p,q] h.length) [.row [.d (.int .i64 x1)] t1,.row [.d (.int .i64 x2)] t2]∧Uf [p,q] h.length=true∧Pj F rs Q .ret (fun t=>dg [] (e t)) (B7 h [p,q] (N3 [p,q] h.length) [] (hc t1 t2 m')):=by
 refine ⟨m,x1,t1,x2,t2,rfl,hi,h1,h2,?_⟩
 have e3:=Hi h3
 subst e3
 exact k
theorem AEx.dfr {C:Cx}(hC:T3 C){n K:Nat}{fn:Func}{Q0:A→I0→Prop}{QQ:Po}{id:Nat}{o1 o2:Oper}{rest:Code}{env:Env}{H:I0}{g:FuncId}{d ta tb p q:Nat}{fv:Int→Value}{hc:Nat→Nat→Int→I0}
  (hidle:∀ va vb w,CallsD C.P g #[va,vb] .returning w fun e u w'=>(∃ v,e = .returned v)∧u = .returning∧w'=w)
  (hcat:∀ x1 t1 x2 t2 m,InK .i64 m→Z18 C g [.ref 0 0,.ref 1 0] [.row [.d (.int .i64 x1)] t1,.row [.d (.int .i64 x2)] t2] (.panicking [{ v:=fv m,recovered:=false }]) (.panicking [{ v:=fv m,recovered:=true }]) (hc t1 t2 m))
  (hcore:[o1,o2].map A19=[(some d,.makeFunc (.func g) #[] #[.tmp ta,.tmp tb],none),(none,.defer { callee:=.value (.tmp d),args:=#[],argTypes:=#[] },none)])
  (hd:Nat.blt d n=true) (ha:env ta = .ref p 0) (hb:env tb = .ref q 0) (hpl:(Zx H p&&Zx H q)=true) (hKH:Nat.ble K H.length=true)
  (k:∀ ds,AEx ⟨C,⟨n,ds⟩,H.length,fun v e h=>∃ m x1 t1 x2 t2,v=fv m∧InK .i64 m∧Ii h [p,q]=Jk (N3 [p,q] h.length) [.row [.d (.int .i64 x1)] t1,.row [.d (.int .i64 x2)] t2]∧Uf [p,q] h.length=true∧
    Pj (fx C n K) fn.results.toList Q0 .ret (fun t=>dg [] (e t)) (B7 h [p,q] (N3 [p,q] h.length) [] (hc t1 t2 m)),Bh⟩ rest (put env (some d) .junk) H
   (fun x e h=>match x with | .ret=>Pj (fx C n K) fn.results.toList Q0 .ret e h | _=>False)) :
  AEx ⟨C,⟨n,[]⟩,K,Kl,C1a C fn Q0⟩ (.seq (.region id #[o1,o2] false) rest) env H QQ:=by
 intro fr M G w a hK hs hsi
 simp only [List.map_cons,List.map_nil,A19,List.cons.injEq,zqh,and_true] at hcore
 obtain ⟨⟨d1,e1,g1⟩,d2,e2,g2⟩:=hcore
 have hdn:d < n:=Nat.le_of_ble_eq_true hd
 have hsz:d < a.tmps.size:=by rw [hs.size]; exact hdn
 have hfn:Fk C.P g=true:=(hcat 0 0 0 0 0 (by decide)).1
 have hKle:=Nat.le_of_ble_eq_true hKH
 have hpa:=hs.env ta
 rw [ha] at hpa
 have hqb:=hs.env tb
 rw [hb] at hqb
 simp only [zqi] at hpl
 have hplain:∀ r,Zx H r=true→∃ x,H[r]?=some x∧isTok x=false:=fun r hr=>by
  unfold Zx at hr
  rw [S3] at hr
  split at hr
  ·rename_i x hx; exact ⟨x,hx,by simpa using hr⟩
  ·cases hr
 obtain ⟨xp,hxp,hxp'⟩:=hplain p hpl.1
 obtain ⟨xq,hxq,hxq'⟩:=hplain q hpl.2
 refine wp_seq (wp_region_lit (l:=[o1,o2]) ?_)
 have r1:(execOp a.eval o1).run C.P w = .ok (.value (.func (.func g) #[] #[a.tmps.getD ta undef,a.tmps.getD tb undef])) w:=by
  simp only [execOp,e1]
  simp [Instr.makeFunc,Act.eval]
 refine wpList_plain g1 fun K1 hK1=>?_
 unfold Oper.wp
 rw [r1]
 refine hK1 _ _ ?_
 rw [d1]
 have hs1:=hs.quiet (dst:=some d) (x:=.junk) (v:=.func (.func g) #[] #[a.tmps.getD ta undef,a.tmps.getD tb undef]) (fun d' h'=>by cases h'; exact hdn) .junk hs.good (Ext.refl _ _ _)
 have hv:(a.put (some d) (.func (.func g) #[] #[a.tmps.getD ta undef,a.tmps.getD tb undef])).eval (.tmp d) = .func (.func g) #[] #[a.tmps.getD ta undef,a.tmps.getD tb undef]:=by simp [Act.eval,Act.put,hsz]
 generalize a.tmps.getD ta undef=va at hpa hv hs1 ⊢
 generalize a.tmps.getD tb undef=vb at hqb hv hs1 ⊢
 generalize a.put (some d) (.func (.func g) #[] #[va,vb])=a1 at hv hs1 ⊢
 have r2:(execOp a1.eval o2).run C.P w = .ok (.defer { target:=.fn (.func g) #[va,vb],args:=#[] }) w:=by
  simp only [execOp,e2,resolve,hv]
  simp [Deferred.ofValue]
 refine wpList_plain g2 fun K2 hK2=>?_
 unfold Oper.wp
 rw [r2]
 refine hK2 _ _ (wpList_nil ?_)
 rw [d2]
 have hd1:a1.defers=[]:=hs1.defers
 have hs2:St C ⟨n,[{ target:=.fn (.func g) #[va,vb],args:=#[] }]⟩ M G w (put env (some d) .junk) H { a1 with defers:={ target:=.fn (.func g) #[va,vb],args:=#[] }::a1.defers }:=⟨hs1.good,hs1.gl,hs1.hrel,hs1.env,hs1.size,by rw [hd1]⟩
 have hself:P2 ⟨H,G,M,w⟩ M G w H:=⟨Ext.refl _ _ _,fun b hb=>.inl hb,zqr _,fun _ _ _ _=>rfl,fun o x y hx ht hy=>by rw [hx] at hy; exact Option.some.inj hy ▸ ht⟩
 have hinv:∀ w2,(invoke (.fn (.func g) #[va,vb]) #[]).run C.P w2 = .ok (.enter g #[va,vb]) w2:=fun w2=>by
  unfold Fk at hfn
  split at hfn
  ·rename_i fn' hfn'
   simp only [zqi,Bool.not_eq_true'] at hfn
   obtain ⟨c,hc⟩:=Option.isSome_iff_exists.1 hfn.1
   have hne:¬ fn'.name = "runtime.NumGoroutine":=by simpa using hfn.2
   simp [invoke,callFunc,hfn',hne,hc]
  ·cases hfn
 refine wp_mono (k _ ⟨H,G,M,w⟩ M G w _ rfl hs2 hself) fun e a' w' he=>?_
 rcases he with ⟨x,env',H',M',G',rfl,hq,hs',hsi'⟩ | ⟨v,env',H',M',G',rfl,⟨m,x1,t1,x2,t2,rfl,hmi,hsel,hix,hends⟩,hs',hsi'⟩ | ⟨_,hq⟩
 ·cases x with
  | ret=>
   refine .inr (.inr ⟨.inl rfl,?_⟩)
   show Leaves C.P fn a'.tmps (Jj fr.M0 fr.G0 fr.w0 fr.H0 Q0) a'.defers .returning w'
   rw [hs'.defers]
   refine leaves_cons (by simp) (hinv w') ((hidle va vb w').mono ?_)
   rintro e u w2 ⟨⟨v,rfl⟩,rfl,rfl⟩
   exact Mo (F:=fx C n K) hC hK.symm hs' (hsi.step hsi') hq
  | normal=>exact hq.elim
  | exit id=>exact hq.elim
 ·refine .inr (.inr ⟨.inr ⟨_,rfl⟩,?_⟩)
  show Leaves C.P fn a'.tmps (Jj fr.M0 fr.G0 fr.w0 fr.H0 Q0) a'.defers (.panicking _) w'
  rw [hs'.defers]
  obtain ⟨hcH,A14⟩:=X11 (F:=⟨C,⟨n,[]⟩,K,Kl,Bh⟩) [p,q] [.row [.d (.int .i64 x1)] t1,.row [.d (.int .i64 x2)] t2] hix (Rt hsel) hs' (hsi.step hsi')
  refine leaves_cons (by simp) (hinv w') (((hcat x1 t1 x2 t2 m hmi).2 M' _ w' #[va,vb] hs'.good hs'.gl hcH rfl fun i x v hx hv=>?_).mono ?_)
  ·have hf0:N3 [p,q] H'.length 0=p:=rfl
   have hf1:N3 [p,q] H'.length 1=q:=rfl
   match i with
   | 0=>
    simp at hx hv
    subst hx; subst hv
    cases hpa with
    | ref hg=>exact .ref (by show G' (N3 [p,q] H'.length 0)=_; rw [hf0,hsi'.keep p xp hxp hxp']; exact hg)
   | 1=>
    simp at hx hv
    subst hx; subst hv
    cases hqb with
    | ref hg=>exact .ref (by show G' (N3 [p,q] H'.length 1)=_; rw [hf1,hsi'.keep q xq hxq hxq']; exact hg)
   | i+2=>simp at hx
  ·rintro e u w2 ⟨rfl,v,r,cH',M2,G2,rfl,rfl,g1,g2,g3,g4,g5,g6,g7⟩
   obtain ⟨G3,_,hs3,hsi3⟩:=A14 _ M2 G2 w2 g2 g3 g4 g5 g6 g7
   exact Mo (F:=fx C n K) hC hK.symm hs3 hsi3 hends
 ·exact hq.elim
theorem st1 {F:Fx}{L:List Oper}{m:Nat}{listed:Array Bool}{env:Env}{H:I0}{Q:Po}(j:Nat){o:Oper}(hd:L.all (Q9 F.N)=true)(hr:Region.ready .any L.toArray listed=[j])(ho:nth L j=some o)
  (h:C0 F L [o] env H (fun e h=>V0 F L m (listed.setIfInBounds j true) e h Q)):V0 F L (m+1) listed env H Q:=V0.step hd hr ⟨⟨o,ho,h⟩,trivial⟩
theorem st2 {F:Fx}{L:List Oper}{m:Nat}{listed:Array Bool}{env:Env}{H:I0}{Q:Po}(i j:Nat){o o':Oper}(hd:L.all (Q9 F.N)=true)(hr:Region.ready .any L.toArray listed=[i,j])(ho:nth L i=some o)(ho':nth L j=some o')
  (h:C0 F L [o] env H (fun e h=>V0 F L m (listed.setIfInBounds i true) e h Q)) (h':C0 F L [o'] env H (fun e h=>V0 F L m (listed.setIfInBounds j true) e h Q)):V0 F L (m+1) listed env H Q:=V0.step hd hr ⟨⟨o,ho,h⟩,⟨o',ho',h'⟩,trivial⟩
theorem gq {F:Fx}{L l:List Oper}{o:Oper}{env:Env}{H H':I0}{Q:Env→I0→Prop}{d:Option Nat}{g:FuncId}{xs:List A}{x y:A}(idx:List Nat){cargs:List A}{cH cH':I0}(hc:W0 F.C g cargs cH (Ret cH' x))
  (h:(Pb F.C L o env,Dc (N3 idx H.length) cargs,Uf idx H.length,Ii H idx,frc (ren (N3 idx H.length) x),Je (B7 H idx (N3 idx H.length) (T4 idx cH) cH'))=(some (d,g,xs),xs,true,Jk (N3 idx H.length) cH,some y,some H'))
  (k:C0 F L l (put (fun t=>dg (T4 idx cH) (env t)) d y) H' Q):C0 F L (o::l) env H Q:=by
 simp only [zqh] at h
 exact g' idx hc h.1 h.2.1 h.2.2.1 h.2.2.2.1 h.2.2.2.2.1 h.2.2.2.2.2 k
theorem gr {F:Fx}{L l:List Oper}{o:Oper}{env:Env}{H H':I0}{Q:Env→I0→Prop}{d:Option Nat}{g:FuncId}{xs:List A}(idx:List Nat){cargs:List A}{cH:I0}{α:Type}{n:Int}{hf:α→I0}{rf:α→A}{fv:Int→Value}{ph:I0}
  (hc:I2 F.C g cargs cH (P4 (.pn n) hf rf) (H4 (α:=α) (.pn n) fv ph)) (h:(Pb F.C L o env,Dc (N3 idx H.length) cargs,Uf idx H.length,Ii H idx,Je (B7 H idx (N3 idx H.length) (T4 idx cH) ph))=(some (d,g,xs),xs,true,Jk (N3 idx H.length) cH,some H'))
  (k:InK .i64 n→F.pan (fv n) (fun t=>dg (T4 idx cH) (env t)) H'):C0 F L (o::l) env H Q:=by
 simp only [zqh] at h
 exact gn' idx hc h.1 h.2.1 h.2.2.1 h.2.2.2.1 h.2.2.2.2 k
theorem cq {F:Fx}{L l:List Oper}{o:Oper}{env:Env}{H:I0}{Q:Env→I0→Prop}{d:Option Nat}{f:FuncId}{xs:List A}{x:A}(hc:W0 F.C f xs [] (Ret [] x))(h:(Pb F.C L o env,X2 0 xs)=(some (d,f,xs),true))(k:C0 F L l (put env d x) H Q):C0 F L (o::l) env H Q:=by
 simp only [zqh] at h
 exact c' hc h.1 h.2 k
theorem rq {F:Fx}{rs:List ResultVar}{x:A}{env:Env}{H H':I0}(h:(Sy F.C.T rs env H,tkH H' H,okB F.K [x] H')=(some x,H',true)):Pj F rs (Ret H' x) .ret env H:=by
 simp only [zqh] at h
 exact rt' h.1 h.2.1 h.2.2
theorem lq {F:Fx}{c:Code}{env:Env}{H:I0}{Q:Po}{L:List (Nat×A)}{H2:I0}(k:F1 F c (Nb L) H2 Q)(h:(Sl env L,tkH H2 H,okB F.K (A2 L) H2)=(A2 L,H2,true)):F1 F c env H Q:=by
 simp only [zqh] at h
 exact lw' k h.1 h.2.1 h.2.2
theorem eq' {F:Fx}{c:Code}{env:Env}{H:I0}{Q:Po}{L:List (Nat×A)}{H2:I0}(k:AEx F c (Nb L) H2 Q)(h:(Sl env L,tkH H2 H,okB F.K (A2 L) H2)=(A2 L,H2,true)):AEx F c env H Q:=by
 simp only [zqh] at h
 exact ew' k h.1 h.2.1 h.2.2
theorem fq {F:Fx}{c:Code}{env:Env}{H:I0}{Q:Po}{L:List (Nat×A)}{H2:I0}(k:F1 F c (Nb L) H2 Q)(h:(Sl env L,tkH H2 H,okB F.K (A2 L) H2)=(A2 L,H2,true)):AEx F (.loop c) env H Q:=by
 simp only [zqh] at h
 exact fw' k h.1 h.2.1 h.2.2
def B14 (C:Cx)(L:List Oper)(o:Oper)(env:Env):Option (Option Nat×Option FuncId×List A):=
 match F2 L env o,o.op with
 | some true,.call { callee:=.value fo,args,.. }=>match ev C.GL env fo with
  | .d (.fn e)=>match Zf (args.toList.map (ev C.GL env)),Fb o with
   | some ys,some d=>some (d,e,ys)
   | _,_=>none
  | _=>none
 | _,_=>none
theorem U14 {C:Cx}{L:List Oper}{o:Oper}{env:Env}{d:Option Nat}{f:FuncId}{xs:List A}(h:B14 C L o env=some (d,some f,xs)):Pb C L o env=some (d,f,xs):=by
 unfold B14 at h
 split at h
 ·rename_i fo as ts hw ho
  split at h
  ·rename_i e he
   split at h
   ·rename_i ys d' hy hd
    simp only [zqb,zqh] at h
    obtain ⟨rfl,rfl,rfl⟩:=h
    unfold Pb Id
    simp only [hw,ho,he,hy,hd]
   ·cases h
  ·cases h
 ·cases h
theorem C0.cf {F:Fx}{L l:List Oper}{o:Oper}{env:Env}{H:I0}{Q:Env→I0→Prop}{d:Option Nat}{e:Option FuncId}{xs:List A}{x:A}(h:B14 F.C L o env=some (d,e,xs))
  (hc:∃ f,e=some f∧W0 F.C f xs [] (Ret [] x)) (hn:X2 0 xs=true) (k:C0 F L l (put env d x) H Q):C0 F L (o::l) env H Q:=by
 obtain ⟨f,rfl,hc⟩:=hc
 exact .c (U14 h) hn hc k
end Go.Am

