/- A part of the proof of CatalogFamilies. -/
import Derived.Test.YtbaijagfgceilaaGreatDoorAmB
import Derived.WalkSmall
namespace Go.Am
inductive Pn (α:Type) where
 | ok (a:α)
 | pn (n:Int)
def P4 {α:Type}(res:Pn α)(hf:α→I0)(rf:α→A):A→I0→Prop:=match res with
 | .ok a=>Ret (hf a) (rf a)
 | .pn _=>fun _ _=>False
def H4 {α:Type}(res:Pn α)(fv:Int→Value)(ph:I0):Value→I0→Prop:=match res with
 | .ok _=>noP
 | .pn n=>fun v h=>v=fv n∧h=ph∧InK .i64 n
abbrev fxp (C:Cx)(n K:Nat)(P:Value→I0→Prop):Fx:=⟨C,⟨n,[]⟩,K,Ux K P,Bh⟩
theorem bp' {α β:Type}{x:Option (Pn α)}{f:Pn α→Option β}{r:β}(h:(x>>=f)=some r):(∃ n,x=some (.pn n)∧f (.pn n)=some r)∨∃ a,x=some (.ok a)∧f (.ok a)=some r:=by
 cases x with
 | none=>cases h
 | some y=>cases y with
  | ok a=>exact .inr ⟨a,rfl,h⟩
  | pn n=>exact .inl ⟨n,rfl,h⟩
theorem I2.ok {C:Cx}{f:FuncId}{args:List A}{H:I0}{α:Type}{a:α}{hf:α→I0}{rf:α→A}{fv:Int→Value}{ph:I0}(h:I2 C f args H (P4 (.ok a) hf rf) (H4 (.ok a) fv ph)):W0 C f args H (Ret (hf a) (rf a)):=
 ⟨h.1,fun M G w vs a b c d e=>(h.2 M G w vs a b c d e).mono fun _ _ h=>h.resolve_right fun ⟨_,_,_,_,_,h,_⟩=>h.elim⟩
theorem gn' {F:Fx}{L l:List Oper}{o:Oper}{env:Env}{H H':I0}{Q:Env→I0→Prop}{d:Option Nat}{g:FuncId}{xs:List A}(idx:List Nat){cargs:List A}{cH:I0}{α:Type}{n:Int}{hf:α→I0}{rf:α→A}{fv:Int→Value}{ph:I0}
  (hc:I2 F.C g cargs cH (P4 (.pn n) hf rf) (H4 (α:=α) (.pn n) fv ph)) (h:Pb F.C L o env=some (d,g,xs)) (hx:Dc (N3 idx H.length) cargs=xs) (hi:Uf idx H.length=true) (hm:Ii H idx=Jk (N3 idx H.length) cH)
  (hH:Je (B7 H idx (N3 idx H.length) (T4 idx cH) ph)=some H') (k:InK .i64 n→F.pan (fv n) (fun t=>dg (T4 idx cH) (env t)) H'):C0 F L (o::l) env H Q:=by
 refine .callHP idx cargs cH h (A1a hx) hi (Rt hm) hc (fun v c ⟨e1,e2,e4⟩=>?_) fun _ _ h=>h.elim
 subst e1; subst e2
 have e3:=Hi hH
 subst e3
 exact k e4
theorem pe' {K:Nat}{α:Type}{n:Int}{fv:Int→Value}{H H':I0}(h2:tkH H' H=H')(h3:okB K [] H'=true)(hi:InK .i64 n):Ux K (H4 (α:=α) (.pn n) fv H') (fv n) (fun _=>.junk) H:=by
 simp only [okB,X2,zqi,Bool.true_and] at h3
 exact ⟨H',L13 h2 h3.1,h3.2,rfl,rfl,hi⟩
def Z13:A→Option Value
 | .d (.int k n)=>some (.int k n)
 | .d (.bool b)=>some (.bool b)
 | .agg [.d (.int k n)]=>some (.agg #[.int k n])
 | _=>none
theorem O18 {M:Mem}{G:Nat→Value}{x:A}{v u:Value}(h:O1 M G x v)(hx:Z13 x=some u):v=u:=by
 unfold Z13 at hx
 split at hx
 ·cases hx; cases h with | d h=>cases h; rfl
 ·cases hx; cases h with | d h=>cases h; rfl
 ·cases hx
  cases h with
  | agg hl h1 h2=>
   rename_i k n vs
   obtain ⟨v,hv⟩:=Array.size_eq_one_iff.1 hl.symm
   subst hv
   have:=h2 0 _ v rfl rfl
   cases this with | d h=>cases h; rfl
 ·cases hx
def B1a:Value→Prop
 | .iface _ (.agg ⟨[.int k n]⟩)=>InK k n
 | _=>True
theorem O19 {M:Mem}{G:Nat→Value}{x:A}{v u:Value}(h:O1 M G x v)(hx:Z13 x=some u)(t:TypeId):B1a (.iface t u):=by
 unfold Z13 at hx
 split at hx
 ·cases hx; trivial
 ·cases hx; trivial
 ·cases hx
  cases h with
  | agg hl h1 h2=>
   rename_i k n vs
   obtain ⟨v,hv⟩:=Array.size_eq_one_iff.1 hl.symm
   subst hv
   have:=h2 0 _ v rfl rfl
   cases this with | d h=>cases h with | int h=>exact h
 ·cases hx
def O17 (C:Cx)(L:List Oper)(o1 o2:Oper)(env:Env):Option Value:=
 match F2 L env o1,o2.guard,o1.op,o1.dst,o2.op with
 | some true,none,.makeInterface t x,some d,.panic (.tmp e)=>match G4 C.T t,Z13 (ev C.GL env x) with
  | some i,some u=>match i.u with
   | .st _=>bif Nat.beq d e then some (.iface t u) else none
   | _=>none
  | _,_=>none
 | _,_,_,_,_=>none
theorem pn' {F:Fx}(hC:T3 F.C){L:List Oper}{o1 o2:Oper}{env:Env}{H:I0}{Q:Env→I0→Prop}{v:Value}(h:O17 F.C L o1 o2 env=some v)(k:B1a v→F.pan v (put env o1.dst .junk) H):C0 F L [o1,o2] env H Q:=by
 unfold O17 at h
 split at h
 ·rename_i t x d e hw hg ho1 hd ho2
  split at h
  ·rename_i i u ht hu
   split at h
   ·rename_i fs hst
    cases hde:Nat.beq d e with
    | false=>rw [hde] at h; cases h
    | true=>
     rw [hde] at h
     cases h
     have:=zqo hde
     subst this
     intro fr M G w a Qw hK hdo hs hsi hq
     have hlt:d < F.N:=Y4 (hdo o1 zqp) d hd
     refine wpList_step fun K hKK=>?_
     rw [Mb hs hw]
     simp only [zt]
     have hx:a.eval x=u:=O18 (hs.eval x) hu
     have hpi:=O19 (hs.eval x) hu t
     obtain ⟨fl,hfl⟩:=Ry (hC.tok.facts ht) hst
     have h1:(execOp a.eval o1).run F.C.P w = .ok (.value (.iface t u)) w:=by
      unfold execOp
      simp only [ho1,hx,Instr.makeInterface]
      simp [run_underlying hfl.1]
     unfold Oper.wp
     rw [h1]
     refine hKK _ _ ?_
     have hs':=hs.quiet (dst:=o1.dst) (x:=.junk) (v:=.iface t u) (fun d' h'=>Y4 (hdo o1 zqp) d' h') .junk hs.good (Ext.refl _ _ _)
     refine wpList_step fun K hKK=>?_
     have hw2:Region.wanted o2 (yielded L.toArray (a.put o1.dst (.iface t u)).tmps)=true:=by unfold Region.wanted; rw [hg]
     rw [hw2]
     simp only [zt]
     have hget:(a.put o1.dst (.iface t u)).eval (.tmp d) = .iface t u:=by
      have:d < a.tmps.size:=by rw [hs.size]; exact hlt
      simp [Act.eval,Act.put,hd,this]
     have h2:(execOp (a.put o1.dst (.iface t u)).eval o2).run F.C.P w = .halt (.panic (.iface t u)) w:=by
      unfold execOp
      simp only [ho2,hget]
      simp [Instr.panic,goPanic,Sem.run]
     unfold Oper.wp
     rw [h2]
     exact hq.2 _ _ _ M G w _ (k hpi) hs' hsi
   ·cases h
  ·cases h
 ·cases h
abbrev LMp (C:Cx)(n K:Nat)(f:Func)(p:List Nat)(E:List (Nat×A))(H:I0)(R:A→I0→Prop)(P:Value→I0→Prop):Prop:=
 F1 (fxp C n K P) (lo (pc (So f) p)) (Nb E) H (pk (fxp C n K P) (So f) p (Pj (fxp C n K P) f.results.toList R))
abbrev JMp (C:Cx)(n K:Nat)(f:Func)(p:List Nat)(E:List (Nat×A))(H:I0)(R:A→I0→Prop)(P:Value→I0→Prop):Prop:=
 AEx (fxp C n K P) (pc (So f) p) (Nb E) H (pk (fxp C n K P) (So f) p (Pj (fxp C n K P) f.results.toList R))
theorem peW {K:Nat}{α:Type}{n:Int}{fv:Int→Value}{H H':I0}(h2:WkH H'.length H H')(h3:Nat.ble K H'.length=true)(hi:InK .i64 n):Ux K (H4 (α:=α) (.pn n) fv H') (fv n) (fun _=>.junk) H:=⟨H',h2,h3,rfl,rfl,hi⟩
theorem rpq {α:Type}{a:α}{hf:α→I0}{rf:α→A}{x:A}{H':I0}(h1:H'=hf a)(h2:x=rf a):P4 (.ok a) hf rf x H':=⟨h1,h2⟩
def idK (K:Nat)(idx:List Nat):Bool:=(List.range K).all fun k=>Nat.beq (V15 idx k) k
theorem J16 (f:Nat→Nat)(x:Ob):isTok (Ql f x)=isTok x:=by cases x <;> rfl
section
variable {F:Fx}{env:Env}{H:I0}{L:List (Nat×A)}{H2:I0}{idx:List Nat}
theorem P18 (h1:Sl env L=Dc (N3 idx H.length) (A2 L))(hi:Uf idx H.length=true)(hm:Ii H idx=Jk (N3 idx H.length) H2)(hk:(idK F.K idx&&Nat.ble F.K H2.length)=true)
  {fr:Fr} {M:Mem} {G:Nat→Value} {w:World} {a:Act} (hK:fr.H0.length=F.K) (hs:St F.C F.N M G w env H a) (hsi:P2 fr M G w H):∃ G',St F.C F.N M G' w (Nb L) H2 a∧P2 fr M G' w H2:=by
 have hm:=Rt hm
 generalize hf:N3 idx H.length=f at *
 obtain ⟨hlen,hmatch⟩:=hm.spec
 simp only [Uf,zqi] at hi hk
 have hnd:=Uj hi.1
 have hlt:∀ p∈idx,p < H.length:=fun p hp=>by simpa using List.all_eq_true.1 hi.2 p hp
 have hKle:=Nat.le_of_ble_eq_true hk.2
 have f_lt:∀ {i p:Nat},idx[i]?=some p→f i=p:=fun {i p} hip=>by
  have:i < idx.length:=(zqu.1 hip).1
  have hb:Nat.blt i idx.length=true:=Nat.ble_eq_true_of_le this
  rw [← hf]
  simp [N3,hb,V15,S3,hip]
 have f_ge:∀ {i:Nat},idx.length≤i→f i=H.length+(i - idx.length):=fun {i} hi'=>by
  have hb:Nat.blt i idx.length=false:=by
   cases hb:Nat.blt i idx.length with
   | false=>rfl
   | true=>have:=Nat.le_of_ble_eq_true hb; omega
  rw [← hf]
  simp [N3,hb]
 have f_id:∀ {o:Nat},o < F.K→f o=o:=fun {o} ho=>by
  have h2:=List.all_eq_true.1 hk.1 o (List.mem_range.2 ho)
  have hb:Nat.blt o idx.length=true:=Nat.ble_eq_true_of_le (by omega)
  rw [← hf]
  simp only [N3,hb,_root_.cond_true]
  exact zqo h2
 have hcH:P7 M (fun i=>G (f i)) w H2:=by
  refine ⟨fun i y hy=>?_,fun i i' y y' b hy hy' hb hb'=>?_,fun i hi'=>?_⟩
  ·obtain ⟨p,hp,hHp⟩:=hmatch i y hy
   have hob:=hs.hrel.obj p _ hHp
   simp only [f_lt hp]
   cases y with
   | dead=>trivial
   | row cs e=>
    obtain ⟨b,us,g1,g2,g3,g4,g5,g6⟩:=hob
    exact ⟨b,us,g1,g2,by rw [Gb] at g3; exact g3,g4,Xk cs us g5,g6⟩
   | bld o e=>exact hob
   | buf e sz=>exact hob
   | tok e sz=>exact hob
   | map es=>
    obtain ⟨b,ms,cl,g1,g2,g3,g4,g5⟩:=hob
    refine ⟨b,ms,cl,g1,g2,g3,fun j k cs e a c=>⟨(g4 j k cs e a c).1,?_⟩,g5⟩
    refine ((g4 j k cs e a c).2).bare ?_
    have:∀ l:List D,X2 0 (l.map .d)=true:=fun l=>by
     induction l with
     | nil=>rfl
     | cons x r ih=>simp [X2,W4,ih]
    match cs with
    | []=>rfl
    | [x]=>rfl
    | x::y::r=>simp only [Oy,W4]; exact this _
  ·obtain ⟨p,hp,hHp⟩:=hmatch i y hy
   obtain ⟨p',hp',hHp'⟩:=hmatch i' y' hy'
   simp only [f_lt hp] at hb
   simp only [f_lt hp'] at hb'
   have:=hs.hrel.apart p p' _ _ b hHp hHp' (by rw [Jd]; exact hb) (by rw [Jd]; exact hb')
   subst this
   have e1:=Pw hnd hp
   have e2:=Pw hnd hp'
   rw [e1] at e2
   exact Option.some.inj e2
  ·simp only [f_ge (by omega:idx.length≤i)]
   exact hs.hrel.fresh _ (by omega)
 have hown:∀ b,own (fun i=>G (f i)) H2 b→own G H b:=fun b ⟨i,y,hy,hb⟩=>by
  obtain ⟨p,hp,hHp⟩:=hmatch i y hy
  simp only [f_lt hp] at hb
  exact ⟨p,_,hHp,by rw [Jd]; exact hb⟩
 have henv:∀ (L:List (Nat×A)),Sl env L=Dc f (A2 L)→∀ t,O1 M (fun i=>G (f i)) (Nb L t) (a.tmps.getD t undef):=by
  intro L
  induction L with
  | nil=>intro _ t; exact .junk
  | cons p r ih=>
   intro h t
   simp only [Sl,A2,Dc,List.cons.injEq] at h
   simp only [Nb,upd]
   cases hb:Nat.beq t p.1 with
   | true=>
    have:=zqo hb
    subst this
    simp only [_root_.cond_true]
    exact X16 p.2 _ (by rw [← h.1]; exact hs.env _)
   | false=>
    simp only [_root_.cond_false]
    exact ih h.2 t
 refine ⟨fun i=>G (f i),⟨hs.good,⟨fun G0 g cs e=>(hs.gl.tab G0 g cs e),hs.gl.gp⟩,hcH,henv L h1,hs.size,hs.defers⟩,hsi.ext,fun b hb=>hsi.own b (hown b hb),by omega,fun o x ho ht=>?_,fun o x y ho ht hy=>?_⟩
 ·have hol:=(zqu.1 ho).1
  simp only [f_id (by omega:o < F.K)]
  exact hsi.keep o x ho ht
 ·have hol:=(zqu.1 ho).1
  obtain ⟨p,hp,hHp⟩:=hmatch o y hy
  have hpo:p=o:=by rw [← f_lt hp,f_id (by omega)]
  rw [hpo] at hHp
  have:=hsi.kind o x _ ho ht hHp
  rwa [J16] at this
theorem F1.rj {c:Code}{Q:Po}(idx:List Nat)(k:F1 F c (Nb L) H2 Q)(h1:Sl env L=Dc (N3 idx H.length) (A2 L))(hi:Uf idx H.length=true)(hm:Ii H idx=Jk (N3 idx H.length) H2)(hk:(idK F.K idx&&Nat.ble F.K H2.length)=true):F1 F c env H Q:=by
 intro fr M G w a hK hs hsi
 obtain ⟨G',h2,h3⟩:=P18 h1 hi hm hk hK hs hsi
 exact k fr M G' w a hK h2 h3
end
end Go.Am

