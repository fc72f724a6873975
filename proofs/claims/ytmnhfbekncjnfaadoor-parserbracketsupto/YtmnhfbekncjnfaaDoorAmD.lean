/- A part of the proof of ParserBrackets. -/
import Derived.Test.YtmnhfbekncjnfaaDoorAmC
import Derived.WalkSmall
namespace Go.Am
inductive Pn (α:Type) where
 | ok (a:α)
 | pn (n:Int)
def C7 {α:Type}(res:Pn α)(hf:α→I0)(rf:α→A):A→I0→Prop:=match res with
 | .ok a=>Ret (hf a) (rf a)
 | .pn _=>fun _ _=>False
def O6 {α:Type}(res:Pn α)(fv:Int→Value)(ph:I0):Value→I0→Prop:=match res with
 | .ok _=>noP
 | .pn n=>fun v h=>v=fv n∧h=ph∧InK .i64 n
abbrev fxp (C:Cx)(n K:Nat)(P:Value→I0→Prop):Fx:=⟨C,⟨n,[]⟩,K,Sp K P,Ad⟩
theorem bp' {α β:Type}{x:Option (Pn α)}{f:Pn α→Option β}{r:β}(h:(x>>=f)=some r):(∃ n,x=some (.pn n)∧f (.pn n)=some r)∨∃ a,x=some (.ok a)∧f (.ok a)=some r:=by
 cases x with
 | none=>cases h
 | some y=>cases y with
  | ok a=>exact .inr ⟨a,rfl,h⟩
  | pn n=>exact .inl ⟨n,rfl,h⟩
theorem T2.ok {C:Cx}{f:FuncId}{args:List A}{H:I0}{α:Type}{a:α}{hf:α→I0}{rf:α→A}{fv:Int→Value}{ph:I0}(h:T2 C f args H (C7 (.ok a) hf rf) (O6 (.ok a) fv ph)):S0 C f args H (Ret (hf a) (rf a)):=
 ⟨h.1,fun M G w vs a b c d e=>(h.2 M G w vs a b c d e).mono fun _ _ h=>h.resolve_right fun ⟨_,_,_,_,_,h,_⟩=>h.elim⟩
theorem gn' {F:Fx}{L l:List Oper}{o:Oper}{env:Env}{H H':I0}{Q:Env→I0→Prop}{d:Option Nat}{g:FuncId}{xs:List A}(idx:List Nat){cargs:List A}{cH:I0}{α:Type}{n:Int}{hf:α→I0}{rf:α→A}{fv:Int→Value}{ph:I0}
  (hc:T2 F.C g cargs cH (C7 (.pn n) hf rf) (O6 (α:=α) (.pn n) fv ph)) (h:F7 F.C L o env=some (d,g,xs)) (hx:Y9 (S2 idx H.length) cargs=xs) (hi:Bd idx H.length=true) (hm:Lf H idx=Ni (S2 idx H.length) cH)
  (hH:Aa (B5 H idx (S2 idx H.length) (B3 idx cH) ph)=some H') (k:InK .i64 n→F.pan (fv n) (fun t=>dg (B3 idx cH) (env t)) H'):F0 F L (o::l) env H Q:=by
 refine .callHP idx cargs cH h (Q18 hx) hi (Yp hm) hc (fun v c ⟨e1,e2,e4⟩=>?_) fun _ _ h=>h.elim
 subst e1; subst e2
 have e3:=Qb hH
 subst e3
 exact k e4
theorem pe' {K:Nat}{α:Type}{n:Int}{fv:Int→Value}{H H':I0}(h2:tkH H' H=H')(h3:okB K [] H'=true)(hi:InK .i64 n):Sp K (O6 (α:=α) (.pn n) fv H') (fv n) (fun _=>.junk) H:=by
 simp only [okB,W1,Bool.and_eq_true,Bool.true_and] at h3
 exact ⟨H',Zx h2 h3.1,h3.2,rfl,rfl,hi⟩
def Ny:A→Option Value
 | .d (.int k n)=>some (.int k n)
 | .d (.bool b)=>some (.bool b)
 | .agg [.d (.int k n)]=>some (.agg #[.int k n])
 | _=>none
theorem T15 {M:Mem}{G:Nat→Value}{x:A}{v u:Value}(h:N0 M G x v)(hx:Ny x=some u):v=u:=by
 unfold Ny at hx
 split at hx
 ·cases hx; cases h with | d h=>cases h; rfl
 ·cases hx; cases h with | d h=>cases h; rfl
 ·cases hx
  cases h with
  | agg hl h1 h2=>
   rename_i k n vs
   obtain ⟨v,hv⟩:=Array.size_eq_one_iff.1 hl.symm
   subst hv
   have:=h2 0 _ v rfl rfl
   cases this with | d h=>cases h; rfl
 ·cases hx
def R18:Value→Prop
 | .iface _ (.agg ⟨[.int k n]⟩)=>InK k n
 | _=>True
theorem V17 {M:Mem}{G:Nat→Value}{x:A}{v u:Value}(h:N0 M G x v)(hx:Ny x=some u)(t:TypeId):R18 (.iface t u):=by
 unfold Ny at hx
 split at hx
 ·cases hx; trivial
 ·cases hx; trivial
 ·cases hx
  cases h with
  | agg hl h1 h2=>
   rename_i k n vs
   obtain ⟨v,hv⟩:=Array.size_eq_one_iff.1 hl.symm
   subst hv
   have:=h2 0 _ v rfl rfl
   cases this with | d h=>cases h with | int h=>exact h
 ·cases hx
def J14 (C:Cx)(L:List Oper)(o1 o2:Oper)(env:Env):Option Value:=
 match D1 L env o1,o2.guard,o1.op,o1.dst,o2.op with
 | some true,none,.makeInterface t x,some d,.panic (.tmp e)=>match Y1 C.T t,Ny (ev C.GL env x) with
  | some i,some u=>match i.u with
   | .st _=>bif Nat.beq d e then some (.iface t u) else none
   | _=>none
  | _,_=>none
 | _,_,_,_,_=>none
theorem pn' {F:Fx}(hC:L1 F.C){L:List Oper}{o1 o2:Oper}{env:Env}{H:I0}{Q:Env→I0→Prop}{v:Value}(h:J14 F.C L o1 o2 env=some v)(k:R18 v→F.pan v (put env o1.dst .junk) H):F0 F L [o1,o2] env H Q:=by
 unfold J14 at h
 split at h
 ·rename_i t x d e hw hg ho1 hd ho2
  split at h
  ·rename_i i u ht hu
   split at h
   ·rename_i fs hst
    cases hde:Nat.beq d e with
    | false=>rw [hde] at h; cases h
    | true=>
     rw [hde] at h
     cases h
     have:=Nat.eq_of_beq_eq_true hde
     subst this
     intro fr M G w a Qw hK hdo hs hsi hq
     have hlt:d < F.N:=A3 (hdo o1 List.mem_cons_self) d hd
     refine wpList_step fun K hKK=>?_
     rw [E8 hs hw]
     simp only [if_true]
     have hx:a.eval x=u:=T15 (hs.eval x) hu
     have hpi:=V17 (hs.eval x) hu t
     obtain ⟨fl,hfl⟩:=Xq (hC.tok.facts ht) hst
     have h1:(execOp a.eval o1).run F.C.P w = .ok (.value (.iface t u)) w:=by
      unfold execOp
      simp only [ho1,hx,Instr.makeInterface]
      simp [run_underlying hfl.1]
     unfold Oper.wp
     rw [h1]
     refine hKK _ _ ?_
     have hs':=hs.quiet (dst:=o1.dst) (x:=.junk) (v:=.iface t u) (fun d' h'=>A3 (hdo o1 List.mem_cons_self) d' h') .junk hs.good (Ext.refl _ _ _)
     refine wpList_step fun K hKK=>?_
     have hw2:Region.wanted o2 (yielded L.toArray (a.put o1.dst (.iface t u)).tmps)=true:=by unfold Region.wanted; rw [hg]
     rw [hw2]
     simp only [if_true]
     have hget:(a.put o1.dst (.iface t u)).eval (.tmp d) = .iface t u:=by
      have:d < a.tmps.size:=by rw [hs.size]; exact hlt
      simp [Act.eval,Act.put,hd,this]
     have h2:(execOp (a.put o1.dst (.iface t u)).eval o2).run F.C.P w = .halt (.panic (.iface t u)) w:=by
      unfold execOp
      simp only [ho2,hget]
      simp [Instr.panic,goPanic,Sem.run]
     unfold Oper.wp
     rw [h2]
     exact hq.2 _ _ _ M G w _ (k hpi) hs' hsi
   ·cases h
  ·cases h
 ·cases h
abbrev LMp (C:Cx)(n K:Nat)(f:Func)(p:List Nat)(E:List (Nat×A))(H:I0)(R:A→I0→Prop)(P:Value→I0→Prop):Prop:=
 Z0 (fxp C n K P) (lo (pc (Bi f) p)) (Sa E) H (pk (fxp C n K P) (Bi f) p (Jf (fxp C n K P) f.results.toList R))
abbrev JMp (C:Cx)(n K:Nat)(f:Func)(p:List Nat)(E:List (Nat×A))(H:I0)(R:A→I0→Prop)(P:Value→I0→Prop):Prop:=
 AEx (fxp C n K P) (pc (Bi f) p) (Sa E) H (pk (fxp C n K P) (Bi f) p (Jf (fxp C n K P) f.results.toList R))
end Go.Am

namespace Go.Am
theorem AG.lx {C:Cx}(hC:L1 C){L l:List Oper}{o:Oper}{env:Env}{cnd:Cnd}{H:I0}{Q:Env→Cnd→Prop}{d:Option Nat}{W:Option Bool}{s x:List UInt8}{lo hi:Int}(hw:Fe L env cnd o=some W)(h:Hj C [] (noG o) env=some (d,s,lo,hi))
  (hs:holds W→Ta cnd (Vj o)) (hk:holds W→slc s lo hi=some x) (kk:AG C L l (put env d (.d (.str x))) (Z9 cnd d W) H Q):AG C L (o::l) env cnd H Q:=by
 refine .lift (d:=d) (W:=W) (Ij h).2 hw hs (fun h'=>?_) kk
 obtain ⟨h1,h2,h3,h4,rfl⟩:=Dl (hk h')
 exact Nl hC h h1 h2 h3 h4
theorem peW {K:Nat}{α:Type}{n:Int}{fv:Int→Value}{H H':I0}(h2:WkH H'.length H H')(h3:Nat.ble K H'.length=true)(hi:InK .i64 n):Sp K (O6 (α:=α) (.pn n) fv H') (fv n) (fun _=>.junk) H:=⟨H',h2,h3,rfl,rfl,hi⟩
theorem rpq {α:Type}{a:α}{hf:α→I0}{rf:α→A}{x:A}{H':I0}(h1:H'=hf a)(h2:x=rf a):C7 (.ok a) hf rf x H':=⟨h1,h2⟩
section
variable {F:Fx}{env:Env}{H:I0}{L:List (Nat×A)}{H2:I0}{idx:List Nat}
end
end Go.Am

