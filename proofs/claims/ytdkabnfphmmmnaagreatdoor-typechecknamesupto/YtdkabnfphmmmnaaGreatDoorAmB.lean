/- A part of the proof of TypecheckNames. -/
import Derived.Test.YtdkabnfphmmmnaaGreatDoorAmA
import GoSem.Instr.Lookup
import GoSem.Instr.MapUpdate
import GoSem.Instr.MakeMap
import Derived.Below
import Derived.Laws.StructEq
import Derived.Laws.MakeOwn
import Derived.ChangeSame
import Derived.OpenShut
import Derived.ProofKit
import Derived.Laws.BytesArg
import Derived.Lib.LaidTab
namespace Go.Am
def Lz (C:Cx)(L:List Oper)(o:Oper)(env:Env):Option (Option Nat×List UInt8×Int):=
 match D1 L env o,o.op with
 | some true,.index t x y=>match Y1 C.T t,ev C.GL env x,ev C.GL env y,K5 o with
  | some i,.d (.str s),.d (.int _ n),some d=>match i.u with
   | .str=>some (d,s,n)
   | _=>none
  | _,_,_,_=>none
 | _,_=>none
theorem Z19 {C:Cx}{L:List Oper}{o:Oper}{env:Env}{d:Option Nat}{s:List UInt8}{n:Int}(h:Lz C L o env=some (d,s,n)):D1 L env o=some true∧K5 o=some d:=by
 unfold Lz at h
 split at h
 ·rename_i t x y hw ho
  split at h
  ·rename_i i s' k m d' ht hx hy hd
   split at h
   ·simp only [Option.some.injEq,Prod.mk.injEq] at h
    exact ⟨hw,by rw [hd,h.1]⟩
   ·cases h
  ·cases h
 ·cases h
theorem M17 {C:Cx}(hC:T1 C){L:List Oper}{o:Oper}{env:Env}{H:P0}{d:Option Nat}{s:List UInt8}{n:Int}(h:Lz C L o env=some (d,s,n)){k:Nat}{b:UInt8}(hn:n=k)(hk:s[k]?=some b):Z5 C o env H (.d (.int .u8 b.toNat)):=by
 intro M G w a next Qw hρ hG hgl hH hkk
 unfold Lz at h
 split at h
 ·rename_i t x y hw ho
  rw [ho] at hρ
  split at h
  ·rename_i i s' kd m d' ht hx hy hd
   split at h
   ·rename_i hu
    simp only [Option.some.injEq,Prod.mk.injEq] at h
    obtain ⟨rfl,rfl,rfl⟩:=h
    have hxr:=hρ x (by simp [Op.operands])
    have hyr:=hρ y (by simp [Op.operands])
    rw [hx] at hxr
    rw [hy] at hyr
    generalize hxv:a.eval x=xv at hxr
    generalize hyv:a.eval y=yv at hyr
    cases hxr; rename_i hxr; cases hxr
    cases hyr; rename_i hyr; cases hyr
    have hd:=Mh (hC.tok.facts ht) hu
    have hlt:k < s'.length:=(List.getElem?_eq_some_iff.1 hk).1
    have hget:(⟨s'.toArray⟩:ByteArray)[m.toNat]?=some b:=by
     have e:m.toNat=k:=by omega
     rw [e,getElem?_pos (⟨s'.toArray⟩:ByteArray) k (by rw [Lx]; exact hlt)]
     have:=(List.getElem?_eq_some_iff.1 hk).2
     simpa [ByteArray.getElem_eq_getElem_data] using this
    unfold Oper.wp execOp
    have:(Instr.index t (.string ⟨s'.toArray⟩) (.int kd m)).run C.P w = .ok (.int .u8 b.toNat) w:=by
     have hm:0≤m:=by omega
     simp [Instr.index,Jp,run_underlying hd,hm,hget]
    simp only [ho,hxv,hyv,Sem.run_bind,this,Result.andThen_ok,Sem.run_pure,Oper.upon_value]
    exact hkk _ M w (.d (.int (by rw [X1t]; have:=b.toNat_lt; omega))) hG (Ext.refl _ _ _)
   ·cases h
  ·cases h
 ·cases h
theorem E0.x {F:Fx}(hC:T1 F.C){L l:List Oper}{o:Oper}{env:Env}{H:P0}{Q:Env→P0→Prop}{d:Option Nat}{s:List UInt8}{n:Int}(h:Lz F.C L o env=some (d,s,n)){k:Nat}{b:UInt8}(hn:n=k)(hk:s[k]?=some b)
  (kk:E0 F L l (put env d (.d (.int .u8 b.toNat))) H Q):E0 F L (o::l) env H Q:=by
 obtain ⟨h1,h2⟩:=Z19 h
 refine .yields h1 (M17 hC h hn hk) ?_
 rw [Z3 h2]
 exact kk
def bnd (GL:GT)(env:Env)(x:Option Operand)(dflt:Int):Option Int:=
 match x with
 | none=>some dflt
 | some y=>match ev GL env y with | .d (.int _ n)=>some n | _=>none
theorem A1a {M:Mem}{G:Nat→Value}{GL:GT}{env:Env}{a:Act}{x:Option Operand}{dflt n:Int}(h:bnd GL env x dflt=some n)(hρ:∀ y,x=some y→W0 M G (ev GL env y) (a.eval y)) :
  (x=none∧n=dflt)∨∃ y k,x=some y∧a.eval y = .int k n:=by
 unfold bnd at h
 split at h
 ·simp only [Option.some.injEq] at h; exact .inl ⟨rfl,h.symm⟩
 ·rename_i y
  split at h
  ·rename_i k m hy
   simp only [Option.some.injEq] at h
   subst h
   have hr:=hρ y rfl
   rw [hy] at hr
   generalize hv:a.eval y=v at hr
   cases hr; rename_i hr; cases hr
   exact .inr ⟨y,k,rfl,hv⟩
  ·cases h
def J16 (C:Cx)(L:List Oper)(o:Oper)(env:Env):Option (Option Nat×List UInt8×Int×Int):=
 match D1 L env o,o.op with
 | some true,.slice t x lo hi none=>match Y1 C.T t,ev C.GL env x,K5 o with
  | some i,.d (.str s),some d=>match i.u,bnd C.GL env lo 0,bnd C.GL env hi (s.length:Nat) with
   | .str,some l,some h=>some (d,s,l,h)
   | _,_,_=>none
  | _,_,_=>none
 | _,_=>none
theorem D1l {C:Cx}{L:List Oper}{o:Oper}{env:Env}{r:Option Nat×List UInt8×Int×Int}(h:J16 C L o env=some r):D1 L env o=some true∧K5 o=some r.1:=by
 unfold J16 at h
 split at h
 ·rename_i t x lo hi hw ho
  split at h
  ·rename_i i s' d' ht hx hd
   split at h
   ·simp only [Option.some.injEq] at h
    subst h
    exact ⟨hw,hd⟩
   ·cases h
  ·cases h
 ·cases h
theorem B1a {P:Program}{w:World}{isSl:Bool}{len cap l h:Nat}{lo hi:Option Value}(h1:lo=none∧l=0∨∃ k,lo=some (.int k (l:Int)))(h2:hi=none∧h=len∨∃ k,hi=some (.int k (h:Int)))(hle:l≤h)(hc:h≤cap) :
  (Instr.sliceBounds isSl len cap lo hi none).run P w = .ok (l,h,cap) w:=by
 have b:∀ (k:IntKind) (n y:Nat) (c:BoundsCode),n≤y→(Instr.sliceBound (.int k (n:Int)) y c).run P w = .ok n w:=fun k n y c hy=>by
  simp [Instr.sliceBound,Jp,hy]
 rcases h1 with ⟨rfl,rfl⟩ | ⟨k,rfl⟩ <;> rcases h2 with ⟨rfl,rfl⟩ | ⟨k',rfl⟩ <;> simp [Instr.sliceBounds,b _ _ _ _ hle,b _ _ _ _ hc]
theorem K16 {a:Act}{x:Option Operand}{dflt n:Int}{l dl:Nat}(h:(x=none∧n=dflt)∨∃ y k,x=some y∧a.eval y = .int k n)(hl:n=l)(hd:dflt=dl):(x.map a.eval=none∧l=dl)∨∃ k,x.map a.eval=some (.int k (l:Int)):=by
 rcases h with ⟨rfl,rfl⟩ | ⟨y,k,rfl,e⟩
 ·exact .inl ⟨rfl,by omega⟩
 ·exact .inr ⟨k,by simp [e,hl]⟩
theorem E1l (s:List UInt8)(l h:Nat):(⟨s.toArray⟩:ByteArray).extract l h=⟨((s.take h).drop l).toArray⟩:=by
 apply ByteArray.ext
 rw [ByteArray.data_extract]
 simp [List.extract_toArray,List.drop_take]
theorem I1i {C:Cx}(hC:T1 C){L:List Oper}{o:Oper}{env:Env}{H:P0}{d:Option Nat}{s:List UInt8}{lo hi:Int}(h:J16 C L o env=some (d,s,lo,hi)){l r:Nat}(hl:lo=l)(hr:hi=r)(hlr:l≤r)(hrs:r≤s.length) :
  Z5 C o env H (.d (.str ((s.take r).drop l))):=by
 intro M G w a next Qw hρ hG hgl hH hkk
 unfold J16 at h
 split at h
 ·rename_i t x lo' hi' hw ho
  rw [ho] at hρ
  split at h
  ·rename_i i s' d' ht hx hd
   split at h
   ·rename_i l' h' hu hbl hbh
    simp only [Option.some.injEq,Prod.mk.injEq] at h
    obtain ⟨rfl,rfl,rfl,rfl⟩:=h
    have hxr:=hρ x (by simp [Op.operands])
    rw [hx] at hxr
    generalize hxv:a.eval x=xv at hxr
    cases hxr; rename_i hxr; cases hxr
    rename_i hsl
    have hd:=Mh (hC.tok.facts ht) hu
    have e1:=K16 (A1a hbl fun y hy=>hρ y (by subst hy; simp [Op.operands])) hl rfl
    have e2:=K16 (A1a hbh fun y hy=>hρ y (by subst hy; simp [Op.operands])) hr rfl
    have:(Instr.sliceAt t (.string ⟨s'.toArray⟩) (lo'.map a.eval) (hi'.map a.eval) none).run C.P w = .ok (.string ⟨((s'.take r).drop l).toArray⟩) w:=by
     have hb:=B1a (P:=C.P) (w:=w) (isSl:=false) (cap:=s'.length) e1 e2 hlr hrs
     simp [Instr.sliceAt,Instr.slice,run_underlying hd,Lx,hb,E1l s' l r]
    unfold Oper.wp execOp
    simp only [ho,hxv,Option.map_none,Sem.run_bind,this,Result.andThen_ok,Sem.run_pure,Oper.upon_value]
    exact hkk _ M w (.d (.str (by simp; omega))) hG (Ext.refl _ _ _)
   ·cases h
  ·cases h
 ·cases h
theorem E0.l {F:Fx}(hC:T1 F.C){L l:List Oper}{o:Oper}{env:Env}{H:P0}{Q:Env→P0→Prop}{d:Option Nat}{s:List UInt8}{lo hi:Int}(h:J16 F.C L o env=some (d,s,lo,hi)){p r:Nat}(hl:lo=p)(hr:hi=r)(hlr:p≤r)(hrs:r≤s.length)
  (kk:E0 F L l (put env d (.d (.str ((s.take r).drop p)))) H Q):E0 F L (o::l) env H Q:=by
 obtain ⟨h1,h2⟩:=D1l h
 refine .yields h1 (I1i hC h hl hr hlr hrs) ?_
 rw [Z3 h2]
 exact kk
def Pv (C:Cx)(L:List Oper)(o:Oper)(env:Env):Option (Option Nat×List Row×Int×Int×Nat):=
 match D1 L env o,o.op with
 | some true,.slice t x lo hi none=>match Y1 C.T t,Bt (ev C.GL env x),K5 o with
  | some i,some rows,some d=>match i.u,bnd C.GL env lo 0,bnd C.GL env hi (rows.length:Nat) with
   | .sl e,some l,some h=>match Y1 C.T e with | some j=>some (d,rows,l,h,j.size) | none=>none
   | _,_,_=>none
  | _,_,_=>none
 | _,_=>none
theorem Mz {C:Cx}{L:List Oper}{o:Oper}{env:Env}{r:Option Nat×List Row×Int×Int×Nat}(h:Pv C L o env=some r):D1 L env o=some true∧K5 o=some r.1:=by
 unfold Pv at h
 split at h
 ·rename_i t x lo hi hw ho
  split at h
  ·rename_i i s' d' ht hx hd
   split at h
   ·split at h
    ·simp only [Option.some.injEq] at h
     subst h
     exact ⟨hw,hd⟩
    ·cases h
   ·cases h
  ·cases h
 ·cases h
theorem D1n {M:Mem}{rows:List Row}{a:Addr}{len cap:Nat}(h:Q1 M (.sl rows) (.slice (some a) len cap)){sz l r:Nat}(hsz:∀ x∈rows,x.length=sz)(hlr:l≤r)(hr:r≤rows.length) :
  Q1 M (.sl ((rows.take r).drop l)) (.slice (some (if cap=l then a else a.add (l * sz))) (r - l) (cap - l)):=by
 cases h with
 | sl sz' A1 hl hc hm hs hz h1 h2=>
  by_cases he:cap=l
  ·have:l=r:=by omega
   subst this
   rw [if_pos he,show (rows.take l).drop l=[] by simp]
   exact .sl 0 (fun _ _=>undef) (by simp) (by omega) (by omega) (.inl (by omega)) (fun i r h=>by simp at h) (fun i j r x h=>by simp at h) (fun i j r x h=>by simp at h)
  ·rw [if_neg he]
   have hget:∀ (i:Nat) x,((rows.take r).drop l)[i]?=some x→rows[l+i]?=some x:=fun i x hx=>by
    rw [List.getElem?_drop,List.getElem?_take] at hx
    split at hx
    ·exact hx
    ·cases hx
   have hzz:∀ (i:Nat) x,((rows.take r).drop l)[i]?=some x→sz'=sz:=fun i x hx=>by
    have e1:=hz _ x (hget i x hx)
    have e2:=hsz x (List.mem_of_getElem? (hget i x hx))
    omega
   refine .sl sz (fun i j=>A1 (l+i) j) (by simp; omega) (by omega) (by omega) (.inr (by rw [Er (hs.resolve_left (by omega))])) (fun i x hx=>by have:=hzz i x hx; have:=hz _ x (hget i x hx); omega) (fun i j x y hx hy=>?_) fun i j x y hx hy=>h2 _ j x y (hget i x hx) hy
   have:=h1 _ j x y (hget i x hx) hy
   rw [Ij]
   rw [hzz i x hx] at this
   rwa [show l * sz+(i * sz+j)=(l+i) * sz+j by rw [Nat.add_mul]; omega]
theorem C1a {C:Cx}(hC:T1 C){L:List Oper}{o:Oper}{env:Env}{H:P0}{d:Option Nat}{rows:List Row}{lo hi:Int}{sz:Nat}(h:Pv C L o env=some (d,rows,lo,hi,sz)){l r:Nat}(hl:lo=l)(hr:hi=r)(hlr:l≤r)(hrs:r≤rows.length)
  (hsz:∀ x∈rows,x.length=sz):Z5 C o env H (.d (.sl ((rows.take r).drop l))):=by
 intro M G w a next Qw hρ hG hgl hH hkk
 unfold Pv at h
 split at h
 ·rename_i t x lo' hi' hw ho
  rw [ho] at hρ
  split at h
  ·rename_i i rows' d' ht hx hd
   split at h
   ·rename_i e l' h' hu hbl hbh
    split at h
    ·rename_i j hj
     simp only [Option.some.injEq,Prod.mk.injEq] at h
     obtain ⟨rfl,rfl,rfl,rfl,rfl⟩:=h
     have hxr:=Fk hx (hρ x (by simp [Op.operands]))
     generalize hxv:a.eval x=xv at hxr
     have hd:=Th (hC.tok.facts ht) hu
     have e1:=K16 (A1a hbl fun y hy=>hρ y (by subst hy; simp [Op.operands])) hl rfl
     have e2:=K16 (A1a hbh fun y hy=>hρ y (by subst hy; simp [Op.operands])) hr rfl
     obtain ⟨ad,cap,rfl,hcap,hrel⟩:∃ ad cap,xv = .slice ad rows'.length cap∧rows'.length≤cap∧Q1 M (.sl ((rows'.take r).drop l)) (.slice (if cap=l then ad else ad.map (·.add (l * j.size))) (r - l) (cap - l)):=by
      cases hxr with
      | slnil=>
       simp at hrs
       obtain rfl:r=0:=hrs
       obtain rfl:l=0:=by omega
       exact ⟨none,0,rfl,Nat.le_refl _,by simpa using Q1.slnil⟩
      | sl sz A1 hl' hc hm hs hz h1 h2=>
       rename_i ad len cap
       subst hl'
       refine ⟨some ad,cap,rfl,hc,?_⟩
       have:=D1n (.sl sz A1 rfl hc hm hs hz h1 h2) hsz hlr hrs
       by_cases he:cap=l
       ·rw [if_pos he] at this ⊢; exact this
       ·rw [if_neg he] at this ⊢; exact this
     have:(Instr.sliceAt t (.slice ad rows'.length cap) (lo'.map a.eval) (hi'.map a.eval) none).run C.P w = .ok (.slice (if cap=l then ad else ad.map (·.add (l * j.size))) (r - l) (cap - l)) w:=by
      have hb:=B1a (P:=C.P) (w:=w) (isSl:=true) (len:=rows'.length) (cap:=cap) e1 e2 hlr (by omega)
      simp [Instr.sliceAt,Instr.slice,run_underlying hd,hb,Be (hC.tok.facts hj) w]
     unfold Oper.wp execOp
     simp only [ho,hxv,Option.map_none,Sem.run_bind,this,Result.andThen_ok,Sem.run_pure,Oper.upon_value]
     exact hkk _ M w (.d hrel) hG (Ext.refl _ _ _)
    ·cases h
   ·cases h
  ·cases h
 ·cases h
theorem E0.d {F:Fx}(hC:T1 F.C){L l:List Oper}{o:Oper}{env:Env}{H:P0}{Q:Env→P0→Prop}{d:Option Nat}{rows:List Row}{lo hi:Int}{sz:Nat}(h:Pv F.C L o env=some (d,rows,lo,hi,sz)){p r:Nat}(hl:lo=p)(hr:hi=r)(hlr:p≤r)(hrs:r≤rows.length)
  (hsz:∀ x∈rows,x.length=sz) (kk:E0 F L l (put env d (.d (.sl ((rows.take r).drop p)))) H Q):E0 F L (o::l) env H Q:=by
 obtain ⟨h1,h2⟩:=Mz h
 refine .yields h1 (C1a hC h hl hr hlr hrs hsz) ?_
 rw [Z3 h2]
 exact kk
theorem AQ.d {C:Cx}(hC:T1 C){L l:List Oper}{o:Oper}{env:Env}{H:P0}{Q:Env→Prop}{d:Option Nat}{rows:List Row}{lo hi:Int}{sz:Nat}(h:Pv C L o env=some (d,rows,lo,hi,sz)){p r:Nat}(hl:lo=p)(hr:hi=r)(hlr:p≤r)(hrs:r≤rows.length)
  (hsz:∀ x∈rows,x.length=sz) (kk:AQ C L l (put env d (.d (.sl ((rows.take r).drop p)))) H Q):AQ C L (o::l) env H Q:=.y _ (Mz h).2 (Mz h).1 (C1a hC h hl hr hlr hrs hsz) kk
end Go.Am

namespace Go.Am
theorem St.newOb {C:Cx}{N:Nat}{M M':Mem}{G:Nat→Value}{w w':World}{env:Env}{H:P0}{a:Act}(h:St C N M G w env H a){dst:Option Nat}(hd:∀ d,dst=some d→d < N){ob:Ob}{v' v:Value}{x:A}
  (hext:Ext P4 M w M' w') (hg:B5 M' w') (hob:∀ G,Nb M' G w' ob v') (hblk:∀ b,blk ob v'=some b→w.heap.size≤b)
  (hx:W0 M' (A6 G H.length v') x v) :
  St C N M' (A6 G H.length v') w' (put env dst x) (H++[ob]) (a.put dst v):=by
 have hh:=h.hrel.ext hext (fun _ _ q=>q)
 have hmono:∀ {x:A} {v:Value},W0 M' G x v→W0 M' (A6 G H.length v') x v:=fun hr=>hr.mono (fun _ _ e=>e) fun o hn=>A2 (Nat.ne_of_lt (hh.lt hr hn))
 obtain ⟨h1,h2,h3⟩:=Gk (fun t=>hmono ((h.env t).mono' hext.mono)) h.size hd hx
 refine ⟨hg,h.gl.ext h.hrel hext (fun _ h=>h.elim),⟨fun o x ho=>?_,fun o o' x x' b ho ho' hb hb'=>?_,fun o ho=>?_⟩,h1,h2,h3.trans h.defers⟩
 ·rcases Nat.lt_trichotomy o H.length with hlt | rfl | hgt
  ·rw [List.getElem?_append_left hlt] at ho
   rw [A2 (Nat.ne_of_lt hlt)]
   have hob:=hh.obj o x ho
   cases x with
   | dead=>trivial
   | row cells e=>
    obtain ⟨b,us,g1,g2,g3,g4,g5,g6⟩:=hob
    exact ⟨b,us,g1,g2,g3,g4,fun i y v a c=>hmono (g5 i y v a c),g6⟩
   | bld o' e=>
    obtain ⟨b,v0,g1,g2,g3,g4,g5⟩:=hob
    have ho':o'≠H.length:=fun e=>g4 (by rw [e]; exact hh.fresh _ (Nat.le_refl _))
    exact ⟨b,v0,g1,by rw [A2 ho']; exact g2,g3,by rw [A2 ho']; exact g4,g5⟩
   | buf e sz=>exact hob
   | tok e sz=>exact hob
   | map es=>
    obtain ⟨b,ms,cl,g1,g2,g3,g4,g5⟩:=hob
    exact ⟨b,ms,cl,g1,g2,g3,fun i k cs e a c=>⟨(g4 i k cs e a c).1,hmono (g4 i k cs e a c).2⟩,g5⟩
  ·simp at ho
   subst ho
   rw [W2]
   exact hob _
  ·rw [List.getElem?_eq_none (by simp; omega)] at ho
   cases ho
 ·have key:∀ (o:Nat) x b,(H++[ob])[o]?=some x→blk x (A6 G H.length v' o)=some b→(o < H.length∧H[o]?=some x∧blk x (G o)=some b∧b < w.heap.size)∨(o=H.length∧w.heap.size≤b):=by
   intro o x b ho hb
   rcases Nat.lt_trichotomy o H.length with hlt | rfl | hgt
   ·rw [List.getElem?_append_left hlt] at ho
    rw [A2 (Nat.ne_of_lt hlt)] at hb
    exact .inl ⟨hlt,ho,hb,Md (h.hrel.obj o x ho) hb⟩
   ·simp at ho
    subst ho
    rw [W2] at hb
    exact .inr ⟨rfl,hblk b hb⟩
   ·rw [List.getElem?_eq_none (by simp; omega)] at ho
    cases ho
  rcases key o x b ho hb with ⟨q1,q2,q3,q4⟩ | ⟨q1,q2⟩ <;> rcases key o' x' b ho' hb' with ⟨p1,p2,p3,p4⟩ | ⟨p1,p2⟩
  ·exact h.hrel.apart o o' x x' b q2 p2 q3 p3
  ·omega
  ·omega
  ·omega
 ·simp at ho
  rw [A2 (by omega)]
  exact h.hrel.fresh o (by omega)
theorem K2.newOb {fr:Fr}{M M':Mem}{G:Nat→Value}{w w':World}{H:P0}(h:K2 fr M G w H){ob:Ob}{v':Value}(hext:Ext P4 M w M' w')(hblk:∀ b,blk ob v'=some b→w.heap.size≤b) :
  K2 fr M' (A6 G H.length v') w' (H++[ob]):=by
 refine ⟨h.ext.trans hext (fun _ h=>h.elim),fun b hb=>?_,by simp; have:=h.len; omega,fun o x ho ht=>?_,fun o x y ho ht hy=>?_⟩
 ·obtain ⟨o,x,ho,hx⟩:=hb
  rcases Nat.lt_trichotomy o H.length with hlt | rfl | hgt
  ·rw [List.getElem?_append_left hlt] at ho
   rw [A2 (Nat.ne_of_lt hlt)] at hx
   exact h.own b ⟨o,x,ho,hx⟩
  ·simp at ho
   subst ho
   rw [W2] at hx
   exact .inr (Nat.le_trans h.ext.size (hblk b hx))
  ·rw [List.getElem?_eq_none (by simp; omega)] at ho
   cases ho
 ·have hlt:o < H.length:=Nat.lt_of_lt_of_le (List.getElem?_eq_some_iff.1 ho).1 h.len
  rw [A2 (Nat.ne_of_lt hlt)]
  exact h.keep o x ho ht
 ·have hlt:o < H.length:=Nat.lt_of_lt_of_le (List.getElem?_eq_some_iff.1 ho).1 h.len
  rw [List.getElem?_append_left hlt] at hy
  exact h.kind o x y ho ht hy
theorem St.setOb {C:Cx}{N:Nat}{M:Mem}{G:Nat→Value}{w w':World}{env:Env}{H:P0}{a:Act}(h:St C N M G w env H a){dst:Option Nat}(hd:∀ d,dst=some d→d < N){p b:Nat}{x x':Ob}
  (hp:H[p]?=some x) (hb:blk x (G p)=some b) (hb':blk x' (G p)=some b) (hext:Ext (fun c=>c=b) M w M w') (hM:∀ off sp,M ⟨b,off,sp⟩=none) (hob:Nb M G w' x' (G p)) {y:A} {v:Value} (hy:W0 M G y v) :
  St C N M G w' (put env dst y) (Lc H p x') (a.put dst v):=by
 have hlt:p < H.length:=(List.getElem?_eq_some_iff.1 hp).1
 obtain ⟨h1,h2,h3⟩:=Gk h.env h.size hd hy
 refine ⟨h.good.ext hext (fun ad u e hk=>?_),h.gl.ext h.hrel hext (fun c hc=>by subst hc; exact ⟨p,_,hp,hb⟩),⟨fun i z hi=>?_,fun i i' z z' c hi hi' hx hx'=>?_,fun i hi=>h.hrel.fresh i (by rw [Dm] at hi; exact hi)⟩,h1,h2,h3.trans h.defers⟩
 ·obtain ⟨bb,oo,ss⟩:=ad
  have hk':bb=b:=hk
  subst hk'
  rw [hM] at e
  cases e
 ·rw [Xb H p _ i hlt] at hi
  split at hi
  ·rename_i e
   subst e
   simp only [Option.some.injEq] at hi
   subst hi
   exact hob
  ·rename_i hne
   have hoz:=h.hrel.obj i z hi
   exact hoz.keep (fun _ _ e=>e) (fun c hcb=>hext.block c (Md hoz hcb) fun e=>hne (h.hrel.apart i p z _ b hi hp (e ▸ hcb) hb)) (fun _ _ _ _ e=>e)
 ·have key:∀ (n:Nat) z d,(Lc H p x')[n]?=some z→blk z (G n)=some d→∃ y,H[n]?=some y∧blk y (G n)=some d:=by
   intro n z d hn hz
   rw [Xb H p _ n hlt] at hn
   by_cases e:n=p
   ·rw [if_pos e] at hn
    subst e
    obtain rfl:=Option.some.inj hn
    exact ⟨_,hp,by rw [hb,← hb',hz]⟩
   ·rw [if_neg e] at hn
    exact ⟨z,hn,hz⟩
  obtain ⟨y,hy,hby⟩:=key i z c hi hx
  obtain ⟨y',hy',hby'⟩:=key i' z' c hi' hx'
  exact h.hrel.apart i i' y y' c hy hy' hby hby'
theorem K2.setOb {fr:Fr}{M:Mem}{G:Nat→Value}{w w':World}{H:P0}(h:K2 fr M G w H){p b:Nat}{x x':Ob}
  (hp:H[p]?=some x) (hb:blk x (G p)=some b) (hb':blk x' (G p)=some b) (ht':isTok x'=false) (hext:Ext (fun c=>c=b) M w M w'):K2 fr M G w' (Lc H p x'):=by
 have hlt:p < H.length:=(List.getElem?_eq_some_iff.1 hp).1
 have hown:Go.Am.own G H b:=⟨p,_,hp,hb⟩
 refine ⟨h.ext.trans hext (fun x hx=>by subst hx; exact h.own _ hown),fun c hc=>?_,by rw [Dm]; exact h.len,h.keep,fun i z y hi ht hy=>?_⟩
 ·obtain ⟨i,z,hi,hx⟩:=hc
  rw [Xb H p _ i hlt] at hi
  by_cases e:i=p
  ·rw [if_pos e] at hi
   subst e
   obtain rfl:=Option.some.inj hi
   rw [hb'] at hx
   obtain rfl:=Option.some.inj hx
   exact h.own _ hown
  ·rw [if_neg e] at hi
   exact h.own c ⟨i,z,hi,hx⟩
 ·rw [Xb H p _ i hlt] at hy
  by_cases e:i=p
  ·rw [if_pos e] at hy
   obtain rfl:=Option.some.inj hy
   exact ht'
  ·rw [if_neg e] at hy
   exact h.kind i z y hi ht hy
def Qe (k:List UInt8):List (List UInt8×Row)→Option Row
 | []=>none
 | (k',cs)::r=>bif k == k' then some cs else Qe k r
def mput (k:List UInt8)(cs:Row):List (List UInt8×Row)→List (List UInt8×Row)
 | []=>[(k,cs)]
 | (k',cs')::r=>bif k == k' then (k,cs)::r else (k',cs')::mput k cs r
theorem Z1r {a b:List UInt8}:((⟨a.toArray⟩:ByteArray) == ⟨b.toArray⟩)=(a == b):=by
 show (a.toArray == b.toArray)=(a == b)
 simp
theorem Qs {k:List UInt8}:∀ {es:List (List UInt8×Row)} {ms:List MapEntry} {i:Nat},ms.length=es.length→(∀ (n:Nat) k' cs e,es[n]?=some (k',cs)→ms[n]?=some e→e.key = .string ⟨k'.toArray⟩)→
  (Qe k es=none∧Instr.findNow .string (.string ⟨k.toArray⟩) ms i=some none∧∀ cs,mput k cs es=es++[(k,cs)])∨
  ∃ n cs e,es[n]?=some (k,cs)∧Qe k es=some cs∧ms[n]?=some e∧Instr.findNow .string (.string ⟨k.toArray⟩) ms i=some (some (i+n,e.val))∧∀ cs',mput k cs' es=es.set n (k,cs')
 | [],[],i,_,_=>.inl ⟨rfl,rfl,fun _=>rfl⟩
 | (k',cs)::es,m::ms,i,hl,hk=>by
  have hm:=hk 0 k' cs m rfl rfl
  simp only [Instr.findNow,hm,Instr.sameNow,Qe,mput,Z1r]
  cases hb:k == k' with
  | true=>
   obtain rfl:=beq_iff_eq.1 hb
   exact .inr ⟨0,cs,m,rfl,rfl,rfl,rfl,fun _=>rfl⟩
  | false=>
   simp only [cond_false]
   rcases Qs (k:=k) (es:=es) (ms:=ms) (i:=i+1) (by simpa using hl) (fun n k' cs e a b=>hk (n+1) k' cs e (by simpa using a) (by simpa using b)) with ⟨h1,h2,h3⟩ | ⟨n,cs',e,h1,h2,h3,h4,h5⟩
   ·exact .inl ⟨h1,h2,fun cs'=>by rw [h3]; rfl⟩
   ·exact .inr ⟨n+1,cs',e,by simpa using h1,h2,by simpa using h3,by rw [h4]; congr 3; omega,fun c=>by rw [h5]; rfl⟩
 | [],_::_,_,hl,_=>by simp at hl
 | _::_,[],_,hl,_=>by simp at hl
theorem Nz (es:List (List UInt8×Row)):(Hj.s es).list.length=es.length:=by simp [Hj.list]
theorem W17 {M:Mem}{G:Nat→Value}{es:List (List UInt8×Row)}{ms:Array MapEntry}(h:∀ (i:Nat) k cs e,(Hj.s es).list[i]?=some (k,cs)→ms[i]?=some e→Q1 M k e.key∧W0 M G (Pa cs) e.val) :
  ∀ (i:Nat) k cs e,es[i]?=some (k,cs)→ms[i]?=some e→Q1 M (.str k) e.key∧W0 M G (Pa cs) e.val:=fun i k cs e a b=>h i (.str k) cs e (by simp [Hj.list,a]) b
theorem E1n {M:Mem}{G:Nat→Value}{es:List (List UInt8×Row)}{ms:Array MapEntry}(h:∀ (i:Nat) k cs e,es[i]?=some (k,cs)→ms[i]?=some e→Q1 M (.str k) e.key∧W0 M G (Pa cs) e.val) :
  ∀ (i:Nat) k cs e,(Hj.s es).list[i]?=some (k,cs)→ms[i]?=some e→Q1 M k e.key∧W0 M G (Pa cs) e.val:=fun i k cs e a b=>by
 simp only [Hj.list,List.getElem?_map] at a
 cases hp:es[i]? with
 | none=>rw [hp] at a; cases a
 | some p=>
  rw [hp] at a
  simp only [Option.map_some,Option.some.injEq,Prod.mk.injEq] at a
  obtain ⟨rfl,rfl⟩:=a
  exact h i p.1 p.2 e hp b
def Qv (i:TI):A:=bif i.u.agg then .agg (i.zero.map .d) else (match nth i.zero 0 with | some x=>.d x | none=>.junk)
structure Lk where
 d:Option Nat
 es:List (List UInt8×Row)
 k:List UInt8
 ok:Bool
 z:A
def Oz (C:Cx)(L:List Oper)(o:Oper)(env:Env)(H:P0):Option Lk:=
 match D1 L env o,o.op,K5 o with
 | some true,.lookup t x y ok,some d=>match Y1 C.T t,ev C.GL env x,ev C.GL env y with
  | some i,.mp p,.d (.str k)=>match i.u,nth H p with
   | .map kt et,some (.map (.s es))=>match Y1 C.T kt,Y1 C.T et with
    | some ki,some ei=>match ki.u,frc (Qv ei) with
     | .str,some z=>some ⟨d,es,k,ok,z⟩
     | _,_=>none
    | _,_=>none
   | _,_=>none
  | _,_,_=>none
 | _,_,_=>none
def lkA (r:Option Row)(z:A)(ok:Bool):A:=
 match r,ok with
 | some cs,true=>.tup [Pa cs,.d (.bool true)]
 | none,true=>.tup [z,.d (.bool false)]
 | some cs,false=>Pa cs
 | none,false=>z
theorem Kb {P:Program}{w:World}{kt:Nat}(h:P.underlying kt=some .string)(b:Bool)(s:ByteArray):(Instr.checkKey b 10000 kt (.string s)).run P w = .ok () w:=by
 have key:∀ n,(Instr.checkKey b (n+1) kt (.string s)).run P w = .ok () w:=fun n=>by simp [Instr.checkKey,run_underlying h]
 exact key 9999
theorem Fc {P:Program}{w:World}{b:Nat}{ms:Array MapEntry}{cl:Nat}(h:w.heap[b]?=some (.map ms cl)):(getObj b).run P w = .ok (.map ms cl) w:=by
 simp [getObj,Sem.run,h]
theorem T13 {P:Program}{T:TT}(hT:TOk P T){t:Nat}{i:TI}(ht:Y1 T t=some i)(M:Mem)(G:Nat→Value):∃ z,(∀ w,(zeroValue t).run P w = .ok z w)∧W0 M G (Qv i) z:=by
 obtain ⟨z,h1,h2,h3⟩:=Ns (M:=M) (G:=G) hT ht
 refine ⟨z,h1,?_⟩
 unfold Qv
 cases hg:i.u.agg with
 | true=>
  rw [hg] at h3
  simp only [if_true] at h3
  obtain ⟨cs,rfl⟩:=h3
  exact .agg (by simpa [Value.cells] using h2.1) (fun n v hv=>h2.2.1 n v hv) fun n x v hx hv=>h2.2.2 n x v hx hv
 | false=>
  rw [hg] at h3
  simp only [Bool.false_eq_true,if_false] at h3
  simp only [cond_false,S2]
  split
  ·rename_i x hx
   exact h2.2.2 0 _ z (by rw [List.getElem?_map,hx]; rfl) (by rw [h3]; rfl)
  ·exact .junk
theorem D1a {C:Cx}{L:List Oper}{o:Oper}{env:Env}{H:P0}{r:Lk}(h:Oz C L o env H=some r):D1 L env o=some true∧K5 o=some r.d:=by
 unfold Oz at h
 split at h
 ·rename_i t x y ok d hw ho hd
  split at h
  ·split at h
   ·split at h
    ·split at h
     ·simp only [Option.some.injEq] at h
      subst h
      exact ⟨hw,hd⟩
     ·cases h
    ·cases h
   ·cases h
  ·cases h
 ·cases h
theorem M11 {C:Cx}(hC:T1 C){L:List Oper}{o:Oper}{env:Env}{H:P0}{d:Option Nat}{es:List (List UInt8×Row)}{k:List UInt8}{ok:Bool}{z:A}(h:Oz C L o env H=some ⟨d,es,k,ok,z⟩){r:Option Row}(hr:Qe k es=r):Z5 C o env H (lkA r z ok):=by
 intro M G w a next Qw hρ hG hgl hH hkk
 subst hr
 unfold Oz at h
 split at h
 ·rename_i t x y ok' d' hw ho hd
  rw [ho] at hρ
  split at h
  ·rename_i i p k' ht hx hy
   split at h
   ·rename_i kt et es' hu hp
    split at h
    ·rename_i ki ei hki hei
     split at h
     ·rename_i z' hku hz
      simp only [Option.some.injEq,Lk.mk.injEq] at h
      obtain ⟨rfl,rfl,rfl,rfl,rfl⟩:=h
      have hz':=Jj hz
      subst hz'
      have hxr:=hρ x (by simp [Op.operands])
      have hyr:=hρ y (by simp [Op.operands])
      rw [hx] at hxr
      rw [hy] at hyr
      generalize hxv:a.eval x=xv at hxr
      generalize hyv:a.eval y=yv at hyr
      cases hxr; rename_i b hgb
      cases hyr; rename_i hyr; cases hyr
      rename_i hkl
      rw [S2] at hp
      obtain ⟨b',ms,cl,g1,g2,g3,g4,g5,g6⟩:=hH.obj p _ hp
      have g3:=g3.trans (Nz es')
      have g4:=W17 g4
      rw [hgb] at g1
      simp at g1
      subst g1
      have hd:=Nh (hC.tok.facts ht) hu
      have hkd:=Mh (hC.tok.facts hki) hku
      obtain ⟨zv,hzr,hzrel⟩:=T13 hC.tok hei M G
      have hkeys:∀ (n:Nat) k' cs e,es'[n]?=some (k',cs)→ms.toList[n]?=some e→e.key = .string ⟨k'.toArray⟩:=fun n k' cs e a b=>by
       have:=(g4 n k' cs e a (by simpa using b)).1
       generalize e.key=ek at this
       cases this; rfl
      have key:∃ v,(Instr.lookup t (.map (some b)) (.string ⟨k'.toArray⟩) ok').run C.P w = .ok v w∧W0 M G (lkA (Qe k' es') (Qv ei) ok') v:=by
       rcases Qs (k:=k') (i:=0) (by simpa using g3) hkeys with ⟨h1,h2,_⟩ | ⟨n,cs,e,h1,h2,h3,h4,_⟩
       ·refine ⟨if ok' then .tuple #[zv,.bool false] else zv,?_,?_⟩
        ·simp [Instr.lookup,run_underlying hd,Fc g2,Kb hkd,Instr.findKey,run_underlying hkd,h2,hzr w]
        ·rw [h1]
         cases ok' with
         | false=>simpa [lkA] using hzrel
         | true=>
          refine .tup rfl fun i x v hx hv=>?_
          match i with
          | 0=>simp at hx hv; subst hx; subst hv; exact hzrel
          | 1=>simp at hx hv; subst hx; subst hv; exact .d .bool
          | _+2=>simp at hx
       ·have hev:=(g4 n k' cs e h1 (by simpa using h3)).2
        refine ⟨if ok' then .tuple #[e.val,.bool true] else e.val,?_,?_⟩
        ·simp [Instr.lookup,run_underlying hd,Fc g2,Kb hkd,Instr.findKey,run_underlying hkd,h4]
        ·rw [h2]
         cases ok' with
         | false=>simpa [lkA] using hev
         | true=>
          refine .tup rfl fun i x v hx hv=>?_
          match i with
          | 0=>simp at hx hv; subst hx; subst hv; exact hev
          | 1=>simp at hx hv; subst hx; subst hv; exact .d .bool
          | _+2=>simp at hx
      obtain ⟨v,hv,hrel⟩:=key
      unfold Oper.wp execOp
      simp only [ho,hxv,hyv,Sem.run_bind,hv,Result.andThen_ok,Sem.run_pure,Oper.upon_value]
      exact hkk _ M w hrel hG (Ext.refl _ _ _)
     ·cases h
    ·cases h
   ·cases h
  ·cases h
 ·cases h
theorem E0.m {F:Fx}(hC:T1 F.C){L l:List Oper}{o:Oper}{env:Env}{H:P0}{Q:Env→P0→Prop}{d:Option Nat}{es:List (List UInt8×Row)}{k:List UInt8}{ok:Bool}{z:A}(h:Oz F.C L o env H=some ⟨d,es,k,ok,z⟩){r:Option Row}(hr:Qe k es=r)
  (kk:E0 F L l (put env d (lkA r z ok)) H Q):E0 F L (o::l) env H Q:=by
 obtain ⟨h1,h2⟩:=D1a h
 refine .yields h1 (M11 hC h hr) ?_
 rw [Z3 h2]
 exact kk
def A1s (L:List Oper)(o:Oper)(env:Env)(H:P0):Option (Option Nat×Nat×P0):=
 match D1 L env o,o.op,K5 o with
 | some true,.makeMap _ none,some d=>match Vl H (.map (.s [])) with | some (n,H')=>some (d,n,H') | none=>none
 | _,_,_=>none
theorem E0.w {F:Fx}{L l:List Oper}{o:Oper}{env:Env}{H H':P0}{Q:Env→P0→Prop}{d:Option Nat}{n:Nat}(h:A1s L o env H=some (d,n,H'))(k:E0 F L l (put env d (.mp n)) H' Q):E0 F L (o::l) env H Q:=by
 unfold A1s at h
 split at h
 ·rename_i t d' hw ho hd
  split at h
  ·rename_i n' H2 hp
   simp only [Option.some.injEq,Prod.mk.injEq] at h
   obtain ⟨rfl,rfl,rfl⟩:=h
   obtain ⟨rfl,rfl⟩:=Vh hp
   refine Q9 hw fun fr M G w a K Qw hK hdok hs hsi hk=>?_
   have hr:(execOp a.eval o).run F.C.P w = .ok (.value (.map (some w.heap.size))) (w.alloc (.map #[] 0)):=by
    unfold execOp
    simp only [ho,Instr.makeMap]
    rfl
   have hg:B5 M (w.alloc (.map #[] 0)):=hs.good.alloc _
   unfold Oper.wp
   rw [hr]
   have hob:∀ G,Nb M G (w.alloc (.map #[] 0)) (.map (.s [])) (.map (some w.heap.size)):=fun G=>⟨w.heap.size,#[],0,rfl,heap_alloc_new w _,rfl,fun i k cs e h=>by simp [Hj.list] at h,fun i e h=>by simp at h,fun off sp=>by
    cases hM:M ⟨w.heap.size,off,sp⟩ with
    | none=>rfl
    | some v=>have:=hs.good.lt hM; simp at this⟩
   have hb:∀ b,blk (.map (.s [])) (.map (some w.heap.size))=some b→w.heap.size≤b:=fun b hb=>by simp [blk] at hb; omega
   refine hk (.mp H.length) env _ M (A6 G H.length (.map (some w.heap.size))) _ _ ?_ (hs.newOb (O3 hdok) (Ce P4 M w _) hg hob hb (.mp W2)) (hsi.newOb (Ce P4 M w _) hb)
   rw [Z3 hd]
   exact k
  ·cases h
 ·cases h
def Rx:A→Option Row
 | .agg cs=>match Q1b cs with
  | some [_]=>none
  | some r=>some r
  | none=>none
 | x=>match toD x with | some y=>some [y] | none=>none
theorem E1a {M:Mem}{G:Nat→Value}{x:A}{r:Row}{v:Value}(h:Rx x=some r)(hx:W0 M G x v):W0 M G (Pa r) v:=by
 have single:∀ y,toD x=some y→W0 M G (Pa [y]) v:=fun y hy=>.d (P1b hy hx)
 unfold Rx at h
 split at h
 ·rename_i cs
  split at h
  ·cases h
  ·rename_i r' hne hr
   simp only [Option.some.injEq] at h
   subst h
   obtain ⟨l1,l2⟩:=V17 hr
   have e:Pa r' = .agg (r'.map .d):=by
    match r',hne with
    | [],_=>rfl
    | [x],hne=>exact absurd rfl (hne x)
    | _::_::_,_=>rfl
   rw [e]
   cases hx with
   | agg hl h1 h=>
    refine .agg (by simp; omega) h1 fun i y u hy hu=>?_
    rw [List.getElem?_map] at hy
    cases hz:r'[i]? with
    | none=>rw [hz] at hy; cases hy
    | some z=>
     rw [hz] at hy
     simp only [Option.map_some,Option.some.injEq] at hy
     subst hy
     obtain ⟨q,hq,hqz⟩:=l2 i z hz
     exact .d (P1b hqz (h i q u hq hu))
  ·cases h
 ·split at h
  ·rename_i y hy
   simp only [Option.some.injEq] at h
   subst h
   exact single y hy
  ·cases h
def P1e (C:Cx)(L:List Oper)(o:Oper)(env:Env)(H:P0):Option P0:=
 match D1 L env o,o.op,o.dst with
 | some true,.mapUpdate t x y z,none=>match Y1 C.T t,ev C.GL env x,ev C.GL env y,Rx (ev C.GL env z) with
  | some i,.mp p,.d (.str k),some cs=>match i.u,nth H p with
   | .map kt _,some (.map (.s es))=>match Y1 C.T kt with
    | some ki=>match ki.u with
     | .str=>Hk H p (.map (.s (mput k cs es)))
     | _=>none
    | none=>none
   | _,_=>none
  | _,_,_,_=>none
 | _,_,_=>none
theorem E0.u {F:Fx}(hC:T1 F.C){L l:List Oper}{o:Oper}{env:Env}{H H':P0}{Q:Env→P0→Prop}(h:P1e F.C L o env H=some H')(k:E0 F L l env H' Q):E0 F L (o::l) env H Q:=by
 unfold P1e at h
 split at h
 ·rename_i t x y z hw ho hdst
  split at h
  ·rename_i i p kk cs ht hx hy hz
   split at h
   ·rename_i kt et es hu hp
    split at h
    ·rename_i ki hki
     split at h
     ·rename_i hku
      have e1:=Dt h
      subst e1
      refine Q9 hw fun fr M G w a K Qw hK hdok hs hsi hk=>?_
      have hxr:=hs.eval x
      have hyr:=hs.eval y
      have hzr:=E1a hz (hs.eval z)
      rw [hx] at hxr
      rw [hy] at hyr
      generalize hxv:a.eval x=xv at hxr
      generalize hyv:a.eval y=yv at hyr
      generalize hzv:a.eval z=zv at hzr
      cases hxr; rename_i b hgb
      cases hyr; rename_i hyr; cases hyr
      rename_i hkl
      rw [S2] at hp
      obtain ⟨b',ms,cl,g1,g2,g3,g4,g5,g6⟩:=hs.hrel.obj p _ hp
      have g3:=g3.trans (Nz es)
      have g4:=W17 g4
      rw [hgb] at g1
      simp at g1
      subst g1
      have hd:=Nh (hC.tok.facts ht) hu
      have hkd:=Mh (hC.tok.facts hki) hku
      have hblt:b < w.heap.size:=(Array.getElem?_eq_some_iff.1 g2).1
      have hkeys:∀ (n:Nat) k' cs e,es[n]?=some (k',cs)→ms.toList[n]?=some e→e.key = .string ⟨k'.toArray⟩:=fun n k' cs e a b=>by
       have:=(g4 n k' cs e a (by simpa using b)).1
       generalize e.key=ek at this
       cases this; rfl
      have hMb:∀ off sp,M ⟨b,off,sp⟩=none:=g6
      have key:∃ ms' cl',(Instr.mapUpdate t (.map (some b)) (.string ⟨kk.toArray⟩) zv).run F.C.P w = .ok () { w with heap:=w.heap.setIfInBounds b (.map ms' cl') }∧ms'.size=(mput kk cs es).length∧
        (∀ (i:Nat) k' cs' e,(mput kk cs es)[i]?=some (k',cs')→ms'[i]?=some e→Q1 M (.str k') e.key∧W0 M G (Pa cs') e.val)∧∀ (i:Nat) e,ms'[i]?=some e→e.born < cl':=by
       have Lc:∀ o',(setObj b o').run F.C.P w = .ok () { w with heap:=w.heap.setIfInBounds b o' }:=fun o'=>by simp [setObj,Sem.run,g2]
       rcases Qs (k:=kk) (i:=0) (by simpa using g3) hkeys with ⟨h1,h2,h3⟩ | ⟨n,cs0,e,h1,h2,h3,h4,h5⟩
       ·refine ⟨ms.push ⟨.string ⟨kk.toArray⟩,zv,cl⟩,cl+1,?_,by rw [h3]; simp [g3],fun i k' cs' e hi he=>?_,fun i e he=>?_⟩
        ·simp [Instr.mapUpdate,run_underlying hd,Fc g2,Kb hkd,Instr.findKey,run_underlying hkd,h2,Lc]
        ·rw [h3] at hi
         rw [Array.getElem?_push] at he
         split at he
         ·rename_i hie
          simp only [Option.some.injEq] at he
          subst he
          rw [List.getElem?_append_right (by omega)] at hi
          have:i - es.length=0:=by omega
          rw [this] at hi
          simp at hi
          obtain ⟨rfl,rfl⟩:=hi
          exact ⟨.str hkl,hzr⟩
         ·rename_i hie
          have hlt:i < ms.size:=by have:=(Array.getElem?_eq_some_iff.1 he).1; omega
          rw [List.getElem?_append_left (by omega)] at hi
          exact g4 i k' cs' e hi he
        ·rw [Array.getElem?_push] at he
         split at he
         ·simp only [Option.some.injEq] at he; subst he; simp
         ·have:=g5 i e he; omega
       ·have hn:n < ms.size:=by simpa using (List.getElem?_eq_some_iff.1 h3).1
        have hmn:ms[n]?=some e:=by simpa using h3
        have hke:e.key = .string ⟨kk.toArray⟩:=hkeys n kk cs0 e h1 h3
        have hst:∀ w,(Instr.keyThatStays (.string ⟨kk.toArray⟩) (.string ⟨kk.toArray⟩)).run F.C.P w = .ok (.string ⟨kk.toArray⟩) w:=fun w=>by
         have:Instr.sameBits 10000 (.string ⟨kk.toArray⟩) (.string ⟨kk.toArray⟩)=true:=by
          show ((⟨kk.toArray⟩:ByteArray) == ⟨kk.toArray⟩)=true
          rw [Z1r]
          simp
         simp [Instr.keyThatStays,this]
        refine ⟨ms.modify n fun e=>{ e with key:=.string ⟨kk.toArray⟩,val:=zv },cl,?_,by rw [h5]; simp [g3],fun i k' cs' e' hi he=>?_,fun i e' he=>?_⟩
        ·simp [Instr.mapUpdate,run_underlying hd,Fc g2,Kb hkd,Instr.findKey,run_underlying hkd,h4,hmn,hke,hst,Lc]
        ·rw [h5,List.getElem?_set] at hi
         rw [Array.getElem?_modify] at he
         by_cases hin:n=i
         ·rw [if_pos hin] at he hi
          subst hin
          rw [hmn] at he
          simp only [Option.map_some,Option.some.injEq] at he
          subst he
          rw [if_pos (by omega)] at hi
          simp only [Option.some.injEq,Prod.mk.injEq] at hi
          obtain ⟨rfl,rfl⟩:=hi
          exact ⟨.str hkl,hzr⟩
         ·rw [if_neg hin] at he hi
          exact g4 i k' cs' e' hi he
        ·rw [Array.getElem?_modify] at he
         by_cases hin:n=i
         ·rw [if_pos hin] at he
          subst hin
          rw [hmn] at he
          simp only [Option.map_some,Option.some.injEq] at he
          subst he
          exact g5 n e hmn
         ·rw [if_neg hin] at he
          exact g5 i e' he
      obtain ⟨ms',cl',k1,k2,k3,k4⟩:=key
      have hbk:blk (.map (.s es)) (G p)=some b:=by rw [hgb]; rfl
      have hbk':blk (.map (.s (mput kk cs es))) (G p)=some b:=by rw [hgb]; rfl
      have hext:Ext (fun c=>c=b) M w M { w with heap:=w.heap.setIfInBounds b (.map ms' cl') }:=
       ⟨fun _ _ e=>e,by simp,rfl,rfl,rfl,fun c _ hc=>by simp [Array.getElem?_setIfInBounds_ne (Ne.symm hc)],fun _ _ e=>.inl e⟩
      have hob:Nb M G { w with heap:=w.heap.setIfInBounds b (.map ms' cl') } (.map (.s (mput kk cs es))) (G p):=
       ⟨b,ms',cl',hgb,by simp [hblt],k2.trans (Nz _).symm,E1n k3,k4,g6⟩
      have hr:(execOp a.eval o).run F.C.P w = .ok .skip { w with heap:=w.heap.setIfInBounds b (.map ms' cl') }:=by
       unfold execOp
       simp only [ho,hxv,hyv,hzv,Sem.run_bind,k1,Result.andThen_ok,Sem.run_pure]
      unfold Oper.wp
      rw [hr]
      refine hk .junk env _ M G _ undef ?_ (hs.setOb (O3 hdok) hp hbk hbk' hext hMb hob .junk) (hsi.setOb hp hbk hbk' rfl hext)
      rw [hdst]
      exact k
     ·cases h
    ·cases h
   ·cases h
  ·cases h
 ·cases h
end Go.Am

namespace Go.Am
theorem E0.ofAQ {F:Fx}{L:List Oper}{l2:List Oper}{H:P0}{Q:Env→P0→Prop}:∀ {l1:List Oper} {env:Env},AQ F.C L l1 env H (fun e=>E0 F L l2 e H Q)→E0 F L (l1++l2) env H Q
 | [],env,h=>h
 | o::r,env,h=>by
  obtain ⟨d,x,rfl,hst,hr⟩:=h
  rcases hst with ⟨hw,hy⟩ | ⟨hw,rfl⟩
  ·exact .yields hw hy (E0.ofAQ hr)
  ·exact .skip hw (E0.ofAQ hr)
theorem AQ.mono {C:Cx}{L:List Oper}{H:P0}{Q Q':Env→Prop}(hq:∀ e,Q e→Q' e):∀ {l:List Oper} {env:Env},AQ C L l env H Q→AQ C L l env H Q'
 | [],_,h=>hq _ h
 | _::_,_,⟨d,x,h1,h2,h3⟩=>⟨d,x,h1,h2,AQ.mono hq h3⟩
theorem E0.leE {F:Fx}{L l:List Oper}{env env':Env}{H:P0}{Q:Env→P0→Prop}(he:∀ t,LeA (env' t) (env t))(k:E0 F L l env' H Q):E0 F L l env H Q:=by
 intro fr M G w a Qw hK hd hs hsi hq
 exact k fr M G w a Qw hK hd ⟨hs.good,hs.gl,hs.hrel,fun t=>(he t).rel (hs.env t),hs.size,hs.defers⟩ hsi hq
theorem AEx.regionQ {F:Fx}{id:Nat}{L:List Oper}{env:Env}{H:P0}{Q:Po}(n:Nat)(hd:L.all (Xc F.N)=true)(h:AQ F.C L (L.take n) env H (fun e=>E0 F L (L.drop n) e H (Ul Q))):AEx F (.region id L.toArray false) env H Q:=by
 refine .region hd ?_
 have:=E0.ofAQ h
 rwa [List.take_append_drop] at this
abbrev Cnd:=Nat→Option Bool
def F1l:Cnd:=fun _=>none
def Zk (env:Env)(cnd:Cnd):Env:=fun t=>match cnd t with | some false=>.tup [] | _=>env t
def L1f (env:Env)(cnd:Cnd):Env:=fun t=>match cnd t with | none=>env t | _=>.junk
def Dg (cnd:Cnd)(d:Option Nat)(W:Option Bool):Cnd:=match d with | some t=>(fun i=>bif Nat.beq i t then W else cnd i) | none=>cnd
def holds:Option Bool→Prop
 | none=>True
 | some w=>w=true
def wb:Bool→Bool→Bool
 | b,true=>b
 | b,false=>!b
def Bn (L:List Oper)(env:Env)(cnd:Cnd)(o:Oper):Option (Option Bool):=
 match o.guard with
 | none=>some none
 | some (j,want)=>
  match nth L j with
  | some p=>match p.dst with
   | some d=>match env d,cnd d with
    | .d (.bool b),none=>some (some (wb b want))
    | .d (.bool b),some c=>some (some (c&&wb b want))
    | _,_=>none
   | none=>none
  | none=>none
def isW:Option Bool→Bool
 | none=>true
 | some w=>w
theorem H1q {L:List Oper}{env:Env}{cnd:Cnd}{o:Oper}{W:Option Bool}(h:Bn L env cnd o=some W):D1 L (Zk env cnd) o=some (isW W):=by
 unfold Bn at h
 unfold D1
 split at h
 ·rename_i hg
  rw [hg]
  simp only [Option.some.injEq] at h
  subst h
  rfl
 ·rename_i j want hg
  rw [hg]
  simp only
  split at h
  ·rename_i p hp
   rw [hp]
   simp only
   split at h
   ·rename_i d hd
    rw [hd]
    simp only
    split at h
    ·rename_i b he hc
     simp only [Option.some.injEq] at h
     subst h
     simp only [Zk,hc,he]
     cases b <;> cases want <;> rfl
    ·rename_i b c he hc
     simp only [Option.some.injEq] at h
     subst h
     cases c with
     | false=>simp only [Zk,hc]; rfl
     | true=>
      simp only [Zk,hc,he]
      cases b <;> cases want <;> rfl
    ·cases h
   ·cases h
  ·cases h
def AG (C:Cx)(L:List Oper):List Oper→Env→Cnd→P0→(Env→Cnd→Prop)→Prop
 | [],env,cnd,_,Q=>Q env cnd
 | o::r,env,cnd,H,Q=>∃ d W x,o.dst=d∧Bn L env cnd o=some W∧(holds W→Z5 C o (Zk env cnd) H x)∧AG C L r (put env d x) (Dg cnd d W) H Q
theorem I1q {env:Env}{cnd:Cnd}{d:Option Nat}{W:Option Bool}{x:A}:Zk (put env d x) (Dg cnd d W)=put (Zk env cnd) d (match W with | some false=>.tup [] | _=>x):=by
 cases d with
 | none=>rfl
 | some t=>
  funext i
  simp only [Zk,Dg,put,upd]
  cases hb:Nat.beq i t with
  | true=>rcases W with _ | _ | _ <;> rfl
  | false=>rfl
theorem AG.aq {C:Cx}{L:List Oper}{H:P0}{Q:Env→Cnd→Prop}:∀ {l:List Oper} {env:Env} {cnd:Cnd},AG C L l env cnd H Q→AQ C L l (Zk env cnd) H (fun e=>∃ env' cnd',e=Zk env' cnd'∧Q env' cnd')
 | [],env,cnd,h=>⟨env,cnd,rfl,h⟩
 | o::r,env,cnd,⟨d,W,x,hd,hw,hy,hr⟩=>by
  have:=AG.aq hr
  rw [I1q] at this
  have hww:=H1q hw
  refine ⟨d,_,hd,?_,this⟩
  rcases W with _ | _ | _
  ·exact .inl ⟨hww,hy trivial⟩
  ·exact .inr ⟨hww,rfl⟩
  ·exact .inl ⟨hww,hy rfl⟩
theorem F1d {env:Env}:Zk env F1l=env:=rfl
theorem J1j {env:Env}{cnd:Cnd}(t:Nat):LeA (L1f env cnd t) (Zk env cnd t):=by
 unfold L1f Zk
 cases cnd t with
 | none=>exact .rfl
 | some c=>exact .junk
theorem AEx.regionG {F:Fx}{id:Nat}{L:List Oper}{env:Env}{H:P0}{Q:Po}(n:Nat)(hd:L.all (Xc F.N)=true)(h:AG F.C L (L.take n) env F1l H (fun e c=>E0 F L (L.drop n) (L1f e c) H (Ul Q))):AEx F (.region id L.toArray false) env H Q:=by
 refine .regionQ n hd ?_
 have:=AG.aq h
 rw [F1d] at this
 refine this.mono fun e he=>?_
 obtain ⟨env',cnd',rfl,hq⟩:=he
 exact .leE J1j hq
theorem AEx.drawG {F:Fx}(hC:T1 F.C){id:Nat}{L:List Oper}{env:Env}{H:P0}{Q:Po}(n:Nat)(hd:L.all (Xc F.N)=true)(hok:Q13 L n=true)(hnl:Nat.ble n L.length=true)
  (h:AG F.C L (L.take n) env F1l H (fun e c=>E0 F L (L.drop n) (L1f e c) H (Ul Q))):AEx F (.region id L.toArray true) env H Q:=by
 refine .draw hC n hd hok hnl ?_
 have:=AG.aq h
 rw [F1d] at this
 refine this.mono fun e he=>?_
 obtain ⟨env',cnd',rfl,hq⟩:=he
 exact .leE J1j hq
def Xh (cnd:Cnd):List Operand→Prop
 | []=>True
 | .tmp t::r=>match cnd t with
  | none=>Xh cnd r
  | some c=>c=true∧Xh cnd r
 | _::r=>Xh cnd r
theorem Yh {GL:GT}{env:Env}{cnd:Cnd}:∀ {l:List Operand},Xh cnd l→∀ y∈l,ev GL (Zk env cnd) y=ev GL env y
 | .tmp t::r,h,y,hy=>by
  simp only [Xh] at h
  split at h
  ·rename_i hc
   cases hy with
   | head=>simp only [ev,Zk,hc]
   | tail _ hy=>exact Yh h y hy
  ·rename_i c hc
   cases hy with
   | head=>simp only [ev,Zk,hc,h.1]
   | tail _ hy=>exact Yh h.2 y hy
 | .const v::r,h,y,hy=>by
  cases hy with
  | head=>rfl
  | tail _ hy=>exact Yh (l:=r) h y hy
 | .global g::r,h,y,hy=>by
  cases hy with
  | head=>rfl
  | tail _ hy=>exact Yh (l:=r) h y hy
 | .func f::r,h,y,hy=>by
  cases hy with
  | head=>rfl
  | tail _ hy=>exact Yh (l:=r) h y hy
theorem Z5.congr {C:Cx}{o:Oper}{env env':Env}{H:P0}{x:A}(h:Z5 C o env H x)(he:∀ y∈o.op.operands,ev C.GL env' y=ev C.GL env y):Z5 C o env' H x:=
 fun M G w a next Qw hρ=>h M G w a next Qw fun y hy=>by rw [← he y hy]; exact hρ y hy
def noG (o:Oper):Oper:={ o with guard:=none }
theorem Z5.noG {C:Cx}{o:Oper}{env:Env}{H:P0}{x:A}(h:Z5 C (noG o) env H x):Z5 C o env H x:=h
def U13 (o:Oper):List Operand:=o.op.operands.toList
theorem AG.lift {C:Cx}{L l:List Oper}{o:Oper}{env:Env}{cnd:Cnd}{H:P0}{Q:Env→Cnd→Prop}{d:Option Nat}{W:Option Bool}{x:A}(hd:K5 o=some d)(hw:Bn L env cnd o=some W)(hs:holds W→Xh cnd (U13 o))(hy:holds W→Z5 C (noG o) env H x)
  (k:AG C L l (put env d x) (Dg cnd d W) H Q):AG C L (o::l) env cnd H Q:=
 ⟨d,W,x,Z3 hd,hw,fun h=>(hy h).noG.congr fun y hy=>Yh (hs h) y (by simpa [U13] using hy),k⟩
def Jq (C:Cx)(L:List Oper)(o:Oper)(env:Env)(cnd:Cnd)(H:P0):Option (Option Nat×Option Bool×Prop×Prop×A):=
 match Bn L env cnd o,opA C.T C.GL o.op env H with
 | some W,some (c,x)=>match frc x,K5 o with
  | some y,some d=>some (d,W,Xh cnd (U13 o),c,y)
  | _,_=>none
 | _,_=>none
theorem AG.q {C:Cx}(hC:T1 C){L l:List Oper}{o:Oper}{env:Env}{cnd:Cnd}{H:P0}{Q:Env→Cnd→Prop}{d:Option Nat}{W:Option Bool}{S c:Prop}{x:A}(h:Jq C L o env cnd H=some (d,W,S,c,x))(hs:holds W→S∧c)
  (k:AG C L l (put env d x) (Dg cnd d W) H Q):AG C L (o::l) env cnd H Q:=by
 unfold Jq at h
 split at h
 ·rename_i W' c' x' hw ho
  split at h
  ·rename_i y d' hy hd
   simp only [Option.some.injEq,Prod.mk.injEq] at h
   obtain ⟨rfl,rfl,rfl,rfl,rfl⟩:=h
   obtain rfl:=Jj hy
   exact .lift hd hw (fun h=>(hs h).1) (fun h=>Om hC (o:=noG o) ho (hs h).2) k
  ·cases h
 ·cases h
structure Pk where
 d:Option Nat
 W:Option Bool
 sc:Prop
 t:Bool
 sa:Prop
 sb:Prop
 xa:Bool
 xb:Bool
def Sx (C:Cx)(L:List Oper)(o:Oper)(env:Env)(cnd:Cnd):Option Pk:=
 match Bn L env cnd o,o.op,K5 o with
 | some W,.pick c a b,some d=>match ev C.GL env c,ev C.GL env a,ev C.GL env b with
  | .d (.bool t),.d (.bool xa),.d (.bool xb)=>some ⟨d,W,Xh cnd [c],t,Xh cnd [a],Xh cnd [b],xa,xb⟩
  | _,_,_=>none
 | _,_,_=>none
theorem AG.p {C:Cx}(hC:T1 C){L l:List Oper}{o:Oper}{env:Env}{cnd:Cnd}{H:P0}{Q:Env→Cnd→Prop}{d:Option Nat}{W:Option Bool}{sc sa sb:Prop}{t xa xb:Bool}(h:Sx C L o env cnd=some ⟨d,W,sc,t,sa,sb,xa,xb⟩)
  (hs:holds W→sc∧(t=true→sa)∧(t=false→sb)) (k:AG C L l (put env d (.d (.bool (bif t then xa else xb)))) (Dg cnd d W) H Q):AG C L (o::l) env cnd H Q:=by
 unfold Sx at h
 split at h
 ·rename_i W' c a b d' hw ho hd
  split at h
  ·rename_i t' ya yb hc ha hb
   simp only [Option.some.injEq,Pk.mk.injEq] at h
   obtain ⟨rfl,rfl,rfl,rfl,rfl,rfl,rfl,rfl⟩:=h
   refine ⟨_,_,_,Z3 hd,hw,fun h=>?_,k⟩
   obtain ⟨h1,h2,h3⟩:=hs h
   have ec:=Yh (GL:=C.GL) (env:=env) h1 c List.mem_cons_self
   refine Om hC (c:=True) ?_ trivial
   rw [ho]
   simp only [opA,ec,hc,R1]
   cases t' with
   | true=>
    have ea:=Yh (GL:=C.GL) (env:=env) (h2 rfl) a List.mem_cons_self
    simp only [cond_true,ea,ha]
   | false=>
    have eb:=Yh (GL:=C.GL) (env:=env) (h3 rfl) b List.mem_cons_self
    simp only [cond_false,eb,hb]
  ·cases h
 ·cases h
def F1n (C:Cx)(L:List Oper)(o:Oper)(env:Env)(cnd:Cnd):Option (Option Nat×Option Bool×Prop×FuncId×List A):=
 match Bn L env cnd o,Pe C.GL env o with
 | some W,some (f,xs)=>match Wi xs,K5 o with
  | some ys,some d=>some (d,W,Xh cnd (U13 o),f,ys)
  | _,_=>none
 | _,_=>none
theorem AG.c {C:Cx}{L l:List Oper}{o:Oper}{env:Env}{cnd:Cnd}{H:P0}{Q:Env→Cnd→Prop}{d:Option Nat}{W:Option Bool}{S:Prop}{f:FuncId}{xs:List A}{x:A}(h:F1n C L o env cnd=some (d,W,S,f,xs))(hn:E2 0 xs=true)
  (hs:holds W→S) (hc:holds W→L0 C f xs [] (fun r H'=>H'=[]∧r=x)) (k:AG C L l (put env d x) (Dg cnd d W) H Q):AG C L (o::l) env cnd H Q:=by
 unfold F1n at h
 split at h
 ·rename_i W' f' xs' hw ho
  split at h
  ·rename_i ys d' hy hd
   simp only [Option.some.injEq,Prod.mk.injEq] at h
   obtain ⟨rfl,rfl,rfl,rfl,rfl⟩:=h
   obtain rfl:=Ui hy
   exact .lift hd hw hs (fun h=>Yp (o:=noG o) ho hn (hc h)) k
  ·cases h
 ·cases h
theorem AG.i {C:Cx}(hC:T1 C){L l:List Oper}{o:Oper}{env:Env}{cnd:Cnd}{H:P0}{Q:Env→Cnd→Prop}{d:Option Nat}{W:Option Bool}{rows:List (List D)}{n:Int}{sz:Nat}(hw:Bn L env cnd o=some W)(h:Mv C [] (noG o) env=some (d,rows,n,sz)){k:Nat}{r:List D}
  (hs:holds W→Xh cnd (U13 o)) (hk:holds W→n=k∧rows[k]?=some r∧Nat.beq r.length sz=true) (kk:AG C L l (put env d (.ptr r)) (Dg cnd d W) H Q):AG C L (o::l) env cnd H Q:=by
 refine .lift (d:=d) (W:=W) ?_ hw hs (fun h'=>Et hC h (hk h').1 (hk h').2.1 (hk h').2.2) kk
 obtain ⟨_,hd⟩:=Hz h
 unfold K5
 have:o.dst=d:=hd
 rw [this]
 cases d <;> rfl
theorem AG.x {C:Cx}(hC:T1 C){L l:List Oper}{o:Oper}{env:Env}{cnd:Cnd}{H:P0}{Q:Env→Cnd→Prop}{d:Option Nat}{W:Option Bool}{s:List UInt8}{n:Int}(hw:Bn L env cnd o=some W)(h:Lz C [] (noG o) env=some (d,s,n)){k:Nat}{b:UInt8}
  (hs:holds W→Xh cnd (U13 o)) (hk:holds W→n=k∧s[k]?=some b) (kk:AG C L l (put env d (.d (.int .u8 b.toNat))) (Dg cnd d W) H Q):AG C L (o::l) env cnd H Q:=by
 refine .lift (d:=d) (W:=W) ?_ hw hs (fun h'=>M17 hC h (hk h').1 (hk h').2) kk
 have:=(Z19 h).2
 exact this
theorem Y1v {t:Bool}(h:t=false):wb t false=true:=by subst h; rfl
theorem Z1v {t:Bool}(h:t=true):wb t true=true:=by subst h; rfl
theorem L1v {c t:Bool}(h:c=true)(h':t=false):(c&&wb t false)=true:=by subst h; subst h'; rfl
theorem M1v {c t:Bool}(h:c=true)(h':t=true):(c&&wb t true)=true:=by subst h; subst h'; rfl
def Em:List Oper→Bool
 | []=>true
 | o::r=>o.guard.isNone&&Em r
theorem AEx.regionN {F:Fx}{id:Nat}{L:List Oper}{env:Env}{H:P0}{Q:Po}(_hg:Em L=true)(hd:L.all (Xc F.N)=true)(h:E0 F L L env H (Ul Q)):AEx F (.region id L.toArray false) env H Q:=.region hd h
theorem G1n {M:Mem}{w w':World}(h:Go.RowKit.Below w.heap.size w w'):Ext P4 M w M w':=
 ⟨fun _ _ e=>e,h.size,h.os,h.output,h.tape,fun b hb _=>h.block b hb,fun _ _ e=>.inl e⟩
theorem L0.ofBelow {C:Cx}{f:FuncId}{args:List A}{r:A}(hf:P13 C.P f=true)
  (h:∀ M G w (vs:Array Value),B5 M w→Cw C M w→args.length=vs.size→(∀ (i:Nat) x v,args[i]?=some x→vs[i]?=some v→W0 M G x v)→
   ∃ v,(∀ M G,W0 M G r v)∧Calls C.P f vs w fun e w'=>e = .returned v∧Go.RowKit.Below w.heap.size w w'):L0 C f args [] (fun x H'=>H'=[]∧x=r):=by
 refine ⟨hf,fun M G w vs hg hgl hh hl hr=>?_⟩
 obtain ⟨v,hv,hc⟩:=h M G w vs hg hgl hl hr
 refine hc.mono fun e w' ⟨he,hb⟩=>?_
 have hext:Ext P4 M w M w':=G1n hb
 refine ⟨v,r,[],M,G,he,⟨rfl,rfl⟩,hv M G,?_,?_,hext.weaken (fun _ h=>h.elim),fun b hb=>.inl hb,Nat.le_refl _,fun o x ho=>by simp at ho⟩
 ·exact hg.ext hext fun _ _ _ h=>h.elim
 ·exact hh.ext hext fun _ _ h=>h
theorem X17 {args:List A}{vs:Array Value}{M:Mem}{G:Nat→Value}{s:List UInt8}{i:Nat}(hl:args.length=vs.size)(h:∀ (i:Nat) x v,args[i]?=some x→vs[i]?=some v→W0 M G x v)(hi:args[i]?=some (.d (.str s))) :
  vs[i]?=some (.string ⟨s.toArray⟩)∧s.length≤maxLen:=by
 have hlt:i < vs.size:=by rw [← hl]; exact (List.getElem?_eq_some_iff.1 hi).1
 have hv:vs[i]?=some vs[i]:=Array.getElem?_eq_getElem hlt
 have hr:=h i _ _ hi hv
 generalize vs[i]=v at hr hv
 cases hr; rename_i hr; cases hr
 exact ⟨hv,by assumption⟩
theorem J1q {args:List A}{vs:Array Value}{M:Mem}{G:Nat→Value}{k:IntKind}{n:Int}{i:Nat}(hl:args.length=vs.size)(h:∀ (i:Nat) x v,args[i]?=some x→vs[i]?=some v→W0 M G x v)(hi:args[i]?=some (.d (.int k n))) :
  vs[i]?=some (.int k n)∧InK k n:=by
 have hlt:i < vs.size:=by rw [← hl]; exact (List.getElem?_eq_some_iff.1 hi).1
 have hv:vs[i]?=some vs[i]:=Array.getElem?_eq_getElem hlt
 have hr:=h i _ _ hi hv
 generalize vs[i]=v at hr hv
 cases hr; rename_i hr; cases hr
 exact ⟨hv,by assumption⟩
theorem E1u {vs:Array Value}{a:Value}(hl:vs.size=1)(h0:vs[0]?=some a):vs = #[a]:=by
 apply Array.ext_getElem?
 intro i
 match i with
 | 0=>simpa using h0
 | i+1=>rw [Array.getElem?_eq_none (by omega),Array.getElem?_eq_none (by simp)]
theorem A1w {vs:Array Value}{a b:Value}(hl:vs.size=2)(h0:vs[0]?=some a)(h1:vs[1]?=some b):vs = #[a,b]:=by
 apply Array.ext_getElem?
 intro i
 match i with
 | 0=>simpa using h0
 | 1=>simpa using h1
 | i+2=>rw [Array.getElem?_eq_none (by omega),Array.getElem?_eq_none (by simp)]
theorem R1b {P:Program}{f:FuncId}{fn:Func}(hf:P.funcs[f]?=some fn)(hn:(fn.name == "runtime.NumGoroutine")=false)(hb:fn.body.isSome=true):P13 P f=true:=by simp [P13,hf,hb,hn]
def Y17:List A→Option (List A)
 | []=>some []
 | x::r=>match frc x,Y17 r with | some y,some r'=>some (y::r') | _,_=>none
theorem K1j:∀ {l l':List A},Y17 l=some l'→l'=l
 | [],l',h=>by simp [Y17] at h; exact h
 | x::r,l',h=>by
  simp only [Y17] at h
  split at h
  ·rename_i y r' hy hr
   simp only [Option.some.injEq] at h
   rw [← h,Jj hy,K1j hr]
  ·cases h
def Re:P0→Option P0
 | []=>some []
 | .row cs e::r=>match Y17 cs,Re r with | some cs',some r'=>some (.row cs' e::r') | _,_=>none
 | .dead::r=>match Re r with | some r'=>some (.dead::r') | none=>none
 | .bld o e::r=>match Re r with | some r'=>some (.bld o e::r') | none=>none
 | .buf e sz::r=>match Re r with | some r'=>some (.buf e sz::r') | none=>none
 | .tok e sz::r=>match Re r with | some r'=>some (.tok e sz::r') | none=>none
 | .map es::r=>match Re r with | some r'=>some (.map es::r') | none=>none
theorem Ik:∀ {H H':P0},Re H=some H'→H'=H
 | [],H',h=>by simp [Re] at h; exact h
 | .row cs e::r,H',h=>by
  simp only [Re] at h
  split at h
  ·rename_i cs' r' hc hr
   simp only [Option.some.injEq] at h
   rw [← h,K1j hc,Ik hr]
  ·cases h
 | .dead::r,H',h=>by
  simp only [Re] at h
  split at h
  ·rename_i r' hr
   simp only [Option.some.injEq] at h
   rw [← h,Ik hr]
  ·cases h
 | .bld o e::r,H',h=>by
  simp only [Re] at h
  split at h
  ·rename_i r' hr
   simp only [Option.some.injEq] at h
   rw [← h,Ik hr]
  ·cases h
 | .buf e sz::r,H',h=>by
  simp only [Re] at h
  split at h
  ·rename_i r' hr
   simp only [Option.some.injEq] at h
   rw [← h,Ik hr]
  ·cases h
 | .tok e sz::r,H',h=>by
  simp only [Re] at h
  split at h
  ·rename_i r' hr
   simp only [Option.some.injEq] at h
   rw [← h,Ik hr]
  ·cases h
 | .map es::r,H',h=>by
  simp only [Re] at h
  split at h
  ·rename_i r' hr
   simp only [Option.some.injEq] at h
   rw [← h,Ik hr]
  ·cases h
mutual
theorem H1n:∀ x:A,dg [] x=x
 | .osl _ _=>rfl
 | .clo _ cs=>by simp only [dg,L16 cs]
 | .agg cs=>by simp only [dg,L16 cs]
 | .tup cs=>by simp only [dg,L16 cs]
 | .d _=>rfl
 | .junk=>rfl
 | .ref _ _=>rfl
 | .ptr _=>rfl
 | .full _=>rfl
 | .rsl _ _ _ _=>rfl
 | .mp _=>rfl
theorem L16:∀ l:List A,dgL [] l=l
 | []=>rfl
 | x::r=>by simp only [dgL,H1n x,L16 r]
end
end Go.Am

namespace Go.Am
def It (P:Program)(c:Code)(Q:Exit→Act→World→Prop)(a:Act)(w:World):Prop:=
 ∀ (b:Frame) (k:List Item) (cs:List Frame),∃ e a' w',Q e a' w'∧Arrives P (lone (b.at a (.code c :: .inLoop c::k)) cs w) b k cs e a' w'
theorem It.loop {P:Program}{c:Code}{Q:Exit→Act→World→Prop}{a:Act}{w:World}(h:It P c Q a w):(Code.loop c).wp P Q a w:=by
 intro b k cs
 obtain ⟨e,a',w',hq,harr⟩:=h b k cs
 exact ⟨e,a',w',hq,.of_steps (.one step_loop) harr⟩
theorem It.unroll {P:Program}{c:Code}{Q:Exit→Act→World→Prop}{a:Act}{w:World}(h:c.wp P (Exit.then (It P c Q) Q) a w):It P c Q a w:=by
 intro b k cs
 obtain ⟨e,a₁,w₁,hq,harr⟩:=h b (.inLoop c::k) cs
 cases e with
 | normal=>
  obtain ⟨e₂,a₂,w₂,hq₂,harr₂⟩:=hq b k cs
  exact ⟨e₂,a₂,w₂,hq₂,.of_steps (Steps.trans harr (.one step_inLoop)) harr₂⟩
 | exit id=>exact ⟨_,a₁,w₁,hq,.pass (x:=.inLoop c) rfl (fun _ _=>.inl (by simp)) harr⟩
 | goto l=>exact ⟨_,a₁,w₁,hq,.pass (x:=.inLoop c) rfl (fun _ _=>.inl (by simp)) harr⟩
 | ret=>exact ⟨_,a₁,w₁,hq,.pass (x:=.inLoop c) rfl (fun _ _=>.inl (by simp)) harr⟩
 | panic ch=>exact ⟨_,a₁,w₁,hq,.pass (x:=.inLoop c) rfl (fun _ _=>.inl (by simp)) harr⟩
 | outgrown=>exact ⟨_,a₁,w₁,hq,.pass (x:=.inLoop c) rfl (fun _ _=>.inl (by simp)) harr⟩
def X0 (F:Fx)(c:Code)(env:Env)(H:P0)(Q:Po):Prop:=
 ∀ fr M G w a,fr.H0.length=F.K→St F.C F.N M G w env H a→K2 fr M G w H→It F.C.P c (Fin F fr Q) a w
def B1s (F:Fx)(c:Code)(Q:Po):Po
 | .normal,e,h=>X0 F c e h Q
 | x,e,h=>Q x e h
theorem AEx.ofLoop {F:Fx}{c:Code}{env:Env}{H:P0}{Q:Po}(h:X0 F c env H Q):AEx F (.loop c) env H Q:=
 fun fr M G w a hK hs hsi=>(h fr M G w a hK hs hsi).loop
theorem X0.unroll {F:Fx}{c:Code}{env:Env}{H:P0}{Q:Po}(h:AEx F c env H (B1s F c Q)):X0 F c env H Q:=by
 intro fr M G w act hK hs hsi
 refine It.unroll (wp_mono (h fr M G w act hK hs hsi) fun e a' w' he=>?_)
 obtain ⟨x,env',H',M',G',rfl,hq,hs',hsi'⟩:=he
 cases x with
 | normal=>exact hq fr M' G' w' a' hK hs' hsi'
 | exit id=>exact ⟨.exit id,_,_,_,_,rfl,hq,hs',hsi'⟩
 | ret=>exact ⟨.ret,_,_,_,_,rfl,hq,hs',hsi'⟩
theorem X0.wk {F:Fx}{c:Code}{env:Env}{H:P0}{Q:Po}{L:List (Nat×A)}{H2:P0}(hw:Wk F.K env H L H2)(h:X0 F c (Tl L) H2 Q):X0 F c env H Q:=by
 intro fr M G w act hK hs hsi
 exact h fr M _ w act hK (hw.st hs) (hw.since hK hsi)
def F1a (f:Func):Code:=match f.body with | some c=>c | none=>.skip
def sl:Code→Code | .seq a _=>a | c=>c
def sr:Code→Code | .seq _ b=>b | c=>c
def ca:Code→Code | .cond _ a _=>a | c=>c
def cb:Code→Code | .cond _ _ b=>b | c=>c
def bk:Code→Code | .block _ c=>c | c=>c
def lo:Code→Code | .loop c=>c | c=>c
theorem bind_some {α β:Type}{x:Option α}{f:α→Option β}{r:β}(h:(x>>=f)=some r):∃ a,x=some a∧f a=some r:=by
 cases x with
 | none=>cases h
 | some a=>exact ⟨a,rfl,h⟩
theorem J1 {α:Type}{p:Prop}[Decidable p]{x:Option α}{r:α}(h:(if decide p=true then x else none)=some r):p∧x=some r:=by
 by_cases hp:p
 ·rw [if_pos (decide_eq_true hp)] at h; exact ⟨hp,h⟩
 ·rw [if_neg (by simpa using hp)] at h; cases h
theorem M1f {α:Type}{w:Bool}{p:Prop}[Decidable p]{x:Option α}{r:α}(h:(if (!w||decide p)=true then x else none)=some r):(w=true→p)∧x=some r:=by
 by_cases hp:(!w||decide p)=true
 ·rw [if_pos hp] at h
  exact ⟨fun hw=>by subst hw; simpa using hp,h⟩
 ·rw [if_neg hp] at h; cases h
theorem I1 {α:Type}{b:Bool}{x y:Option α}{r:α}(hb:b=true)(h:(if b=true then x else y)=some r):x=some r:=by rw [if_pos hb] at h; exact h
theorem B1w {α:Type}{b:Bool}{x y:Option α}{r:α}(hb:b=false)(h:(if b=true then x else y)=some r):y=some r:=by rw [if_neg (by rw [hb]; decide)] at h; exact h
abbrev Str:=List UInt8
def idx {α:Type}(l:List α)(n:Int):Option α:=if 0≤n then l[n.toNat]? else none
theorem T0 {α:Type}{l:List α}{n:Int}{x:α}(h:idx l n=some x):n=(n.toNat:Int):=by
 unfold idx at h
 split at h
 ·omega
 ·cases h
theorem Jk {α:Type}{l:List α}{n:Int}{x:α}(h:idx l n=some x):l[n.toNat]?=some x:=by
 unfold idx at h
 split at h
 ·exact h
 ·cases h
def slc {α:Type}(l:List α)(a b:Int):Option (List α):=if 0≤a∧a≤b∧b≤l.length then some ((l.take b.toNat).drop a.toNat) else none
theorem G1d {α:Type}{l x:List α}{a b:Int}(h:slc l a b=some x):a=(a.toNat:Int)∧b=(b.toNat:Int)∧a.toNat≤b.toNat∧b.toNat≤l.length∧x=(l.take b.toNat).drop a.toNat:=by
 unfold slc at h
 split at h
 ·cases h; exact ⟨by omega,by omega,by omega,by omega,rfl⟩
 ·cases h
theorem E3 {a b a' b' n:Nat}(ha:a'=a)(hb:b'=b)(h:(a+b) * n≤140737488355328):(a'+b') * n≤140737488355328:=by subst ha; subst hb; exact h
def mgt {α:Type}(k:Str):List (Str×α)→Option α
 | []=>none
 | (k',x)::r=>bif k == k' then some x else mgt k r
def mpt {α:Type}(k:Str)(x:α):List (Str×α)→List (Str×α)
 | []=>[(k,x)]
 | (k',y)::r=>bif k == k' then (k,x)::r else (k',y)::mpt k x r
section
variable {α:Type}{f:α→Row}{g:List α→List Row}{h:α→A}
theorem Lj (hg:∀ l,g l=l.map f){l:List α}{n:Int}{x:α}(h:idx l n=some x):(g l)[n.toNat]?=some (f x):=by simp [hg,Jk h]
theorem Fm (hg:∀ l,g l=l.map f)(l m:List α):g (l++m)=g l++g m:=by simp [hg]
theorem Mj (hg:∀ l,g l=l.map f)(l:List α):(g l).length=l.length:=by simp [hg]
theorem Oh (hg:∀ l,g l=l.map f)(l:List α):A.d (.int .i64 ((g l).length:Nat))=A.d (.int .i64 (l.length:Nat)):=by simp [hg]
theorem Mp (hg:∀ l,g l=l.map f){n:Nat}(hn:∀ x,(f x).length=n)(l:List α):∀ r∈g l,r.length=n:=by
 intro r hr
 rw [hg] at hr
 obtain ⟨x,_,rfl⟩:=List.mem_map.1 hr
 exact hn x
theorem V13 (hg:∀ l,g l=l.map f){l x:List α}{a b:Int}(h:slc l a b=some x):a=(a.toNat:Int)∧b=(b.toNat:Int)∧a.toNat≤b.toNat∧b.toNat≤(g l).length∧g x=((g l).take b.toNat).drop a.toNat:=by
 obtain ⟨h1,h2,h3,h4,rfl⟩:=G1d h
 exact ⟨h1,h2,h3,by rw [Mj hg]; exact h4,by simp [hg]⟩
def Wg (f:α→Row)(m:List (Str×α)):List (Str×Row):=m.map fun p=>(p.1,f p.2)
theorem Z17 (f:α→Row)(k:Str):∀ m:List (Str×α),Qe k (Wg f m)=(mgt k m).map f
 | []=>rfl
 | (k',x)::r=>by
  show (bif k == k' then some (f x) else Qe k (Wg f r))=(bif k == k' then some x else mgt k r).map f
  rw [Z17 f k r]
  cases k == k' <;> rfl
theorem Jt (f:α→Row)(k:Str)(x:α):∀ m:List (Str×α),Wg f (mpt k x m)=mput k (f x) (Wg f m)
 | []=>rfl
 | (k',y)::r=>by
  show Wg f (bif k == k' then (k,x)::r else (k',y)::mpt k x r)=(bif k == k' then (k,f x)::Wg f r else (k',f y)::mput k (f x) (Wg f r))
  rw [← Jt f k x r]
  cases k == k' <;> rfl
theorem F1u (hf:∀ x,Pa (f x)=h x){z:α}{za:A}(hz:za=h z){k:Str}{m:List (Str×α)}{x:Option α}(hx:some (mgt k m)=some x):lkA (Qe k (Wg f m)) za true = .tup [h (x.getD z),.d (.bool x.isSome)]:=by
 cases hx
 rw [Z17]
 cases mgt k m with
 | none=>simp [lkA,hz]
 | some y=>simp [lkA,hf]
theorem G1u (hf:∀ x,Pa (f x)=h x){z:α}{za:A}(hz:za=h z){k:Str}{m:List (Str×α)}{x:Option α}(hx:some (mgt k m)=some x):lkA (Qe k (Wg f m)) za false=h (x.getD z):=by
 cases hx
 rw [Z17]
 cases mgt k m with
 | none=>simp [lkA,hz]
 | some y=>simp [lkA,hf]
end
theorem E0.qe {F:Fx}(hC:T1 F.C){L l:List Oper}{o:Oper}{env:Env}{H:P0}{Q:Env→P0→Prop}{d:Option Nat}{c:Prop}{x y:A}(h:Td F.C L o env H=some (d,c,x))(hc:c)(e:x=y)
  (k:E0 F L l (put env d y) H Q):E0 F L (o::l) env H Q:=by subst e; exact .q hC h hc k
theorem AQ.qe {C:Cx}(hC:T1 C){L l:List Oper}{o:Oper}{env:Env}{H:P0}{Q:Env→Prop}{d:Option Nat}{c:Prop}{x y:A}(h:Td C L o env H=some (d,c,x))(hc:c)(e:x=y)(k:AQ C L l (put env d y) H Q):AQ C L (o::l) env H Q:=by
 subst e; exact .q hC h hc k
theorem AG.qe {C:Cx}(hC:T1 C){L l:List Oper}{o:Oper}{env:Env}{cnd:Cnd}{H:P0}{Q:Env→Cnd→Prop}{d:Option Nat}{W:Option Bool}{S c:Prop}{x y:A}(h:Jq C L o env cnd H=some (d,W,S,c,x))(hs:holds W→S∧c)(e:x=y)
  (k:AG C L l (put env d y) (Dg cnd d W) H Q):AG C L (o::l) env cnd H Q:=by subst e; exact .q hC h hs k
theorem E0.lx {F:Fx}(hC:T1 F.C){L l:List Oper}{o:Oper}{env:Env}{H:P0}{Q:Env→P0→Prop}{d:Option Nat}{s x:List UInt8}{lo hi:Int}(h:J16 F.C L o env=some (d,s,lo,hi))(hx:slc s lo hi=some x)
  (kk:E0 F L l (put env d (.d (.str x))) H Q):E0 F L (o::l) env H Q:=by
 obtain ⟨h1,h2,h3,h4,rfl⟩:=G1d hx
 exact .l hC h h1 h2 h3 h4 kk
theorem E0.dx {F:Fx}(hC:T1 F.C){L l:List Oper}{o:Oper}{env:Env}{H:P0}{Q:Env→P0→Prop}{d:Option Nat}{rows rs:List Row}{lo hi:Int}{sz:Nat}(h:Pv F.C L o env=some (d,rows,lo,hi,sz))
  (hx:lo=(lo.toNat:Int)∧hi=(hi.toNat:Int)∧lo.toNat≤hi.toNat∧hi.toNat≤rows.length∧rs=(rows.take hi.toNat).drop lo.toNat) (hsz:∀ x∈rows,x.length=sz) (kk:E0 F L l (put env d (.d (.sl rs))) H Q):E0 F L (o::l) env H Q:=by
 obtain ⟨h1,h2,h3,h4,rfl⟩:=hx
 exact .d hC h h1 h2 h3 h4 hsz kk
theorem AQ.dx {C:Cx}(hC:T1 C){L l:List Oper}{o:Oper}{env:Env}{H:P0}{Q:Env→Prop}{d:Option Nat}{rows rs:List Row}{lo hi:Int}{sz:Nat}(h:Pv C L o env=some (d,rows,lo,hi,sz))
  (hx:lo=(lo.toNat:Int)∧hi=(hi.toNat:Int)∧lo.toNat≤hi.toNat∧hi.toNat≤rows.length∧rs=(rows.take hi.toNat).drop lo.toNat) (hsz:∀ x∈rows,x.length=sz) (kk:AQ C L l (put env d (.d (.sl rs))) H Q):AQ C L (o::l) env H Q:=by
 obtain ⟨h1,h2,h3,h4,rfl⟩:=hx
 exact .d hC h h1 h2 h3 h4 hsz kk
theorem E0.ap {F:Fx}(hC:T1 F.C){L l:List Oper}{o:Oper}{env:Env}{H:P0}{Q:Env→P0→Prop}{d:Option Nat}{p:Nat}{nw:Bool}{rows news rs:List Row}{sz bytes:Nat}{H':P0}
  (h:C1l F.C L o env H=some ⟨d,p,nw,rows,news,sz,bytes,H'⟩) (e:rs=rows++news) (h1:∀ r∈rows,r.length=sz) (h2:∀ r∈news,r.length=sz) (h3:(rows.length+news.length) * (bytes+1)≤140737488355328)
  (k:E0 F L l (put (bif nw then env else fun t=>dg [p] (env t)) d (.osl p rs)) H' Q):E0 F L (o::l) env H Q:=by subst e; exact .a hC h h1 h2 h3 k
theorem E0.me {F:Fx}(hC:T1 F.C){L l:List Oper}{o:Oper}{env:Env}{H:P0}{Q:Env→P0→Prop}{d:Option Nat}{es:List (List UInt8×Row)}{k:List UInt8}{ok:Bool}{z y:A}(h:Oz F.C L o env H=some ⟨d,es,k,ok,z⟩)(e:lkA (Qe k es) z ok=y)
  (kk:E0 F L l (put env d y) H Q):E0 F L (o::l) env H Q:=by subst e; exact .m hC h rfl kk
def N1f (C:Cx)(L:List Oper)(o:Oper)(env:Env)(H:P0):Option (Nat×List UInt8×Row×List (List UInt8×Row)):=
 match D1 L env o,o.op,o.dst with
 | some true,.mapUpdate t x y z,none=>match Y1 C.T t,ev C.GL env x,ev C.GL env y,Rx (ev C.GL env z) with
  | some i,.mp p,.d (.str k),some cs=>match i.u,nth H p with
   | .map kt _,some (.map (.s es))=>match Y1 C.T kt with
    | some ki=>match ki.u with
     | .str=>some (p,k,cs,es)
     | _=>none
    | none=>none
   | _,_=>none
  | _,_,_,_=>none
 | _,_,_=>none
theorem I1n {C:Cx}{L:List Oper}{o:Oper}{env:Env}{H:P0}{p:Nat}{k:List UInt8}{cs:Row}{es:List (List UInt8×Row)}(h:N1f C L o env H=some (p,k,cs,es)){H':P0}(h':Hk H p (.map (.s (mput k cs es)))=some H'):P1e C L o env H=some H':=by
 unfold N1f at h
 unfold P1e
 split at h
 ·split at h
  ·split at h
   ·split at h
    ·split at h
     ·simp only [Option.some.injEq,Prod.mk.injEq] at h
      obtain ⟨rfl,rfl,rfl,rfl⟩:=h
      simp_all only
     ·cases h
    ·cases h
   ·cases h
  ·cases h
 ·cases h
theorem E0.ue {F:Fx}(hC:T1 F.C){L l:List Oper}{o:Oper}{env:Env}{H H':P0}{Q:Env→P0→Prop}{p:Nat}{k:List UInt8}{cs:Row}{es es2:List (List UInt8×Row)}(h:N1f F.C L o env H=some (p,k,cs,es))(e:mput k cs es=es2)(h':Hk H p (.map (.s es2))=some H')
  (kk:E0 F L l env H' Q):E0 F L (o::l) env H Q:=by subst e; exact .u hC (I1n h h') kk
theorem E0.be {F:Fx}(hC:T1 F.C){L l:List Oper}{o:Oper}{env:Env}{H:P0}{Q:Env→P0→Prop}{d:Option Nat}{rs rs':List Row}(h:Ov F.C L o env=some (d,rs))(e:rs=rs')(k:E0 F L l (put env d (.full rs')) H Q):E0 F L (o::l) env H Q:=by subst e; exact .b hC h k
theorem AQ.be {C:Cx}(hC:T1 C){L l:List Oper}{o:Oper}{env:Env}{H:P0}{Q:Env→Prop}{d:Option Nat}{rs rs':List Row}(h:Ov C L o env=some (d,rs))(e:rs=rs')(k:AQ C L l (put env d (.full rs')) H Q):AQ C L (o::l) env H Q:=by subst e; exact .b hC h k
theorem W13 {C:Cx}{o:Oper}{env:Env}{H:P0}{f:FuncId}{xs ys:List A}{x:A}(ha:Pe C.GL env o=some (f,xs))(hle:LeL ys xs)(hn:E2 0 ys=true)(hc:L0 C f ys [] (fun r H'=>H'=[]∧r=x)):Z5 C o env H x:=by
 intro M G w a next Qw hρ hG hgl hH hk
 obtain ⟨vs,h1,h2,h3⟩:=Dw ha hρ hc.1
 unfold Oper.wp
 rw [h1 w]
 refine (T19 hn hc hG hgl (hle.spec.1.trans h2) (hle.rels h3)).mono fun e w' he=>?_
 obtain ⟨v,r,M',rfl,rfl,g1,g2,g3⟩:=he
 exact hk v M' w' (g1 G) g2 g3
theorem E0.cl {F:Fx}{L l:List Oper}{o:Oper}{env:Env}{H:P0}{Q:Env→P0→Prop}{d:Option Nat}{f:FuncId}{xs ys:List A}{x:A}(h:Mf F.C L o env=some (d,f,xs))(hc:L0 F.C f ys [] (fun r H'=>H'=[]∧r=x))(hle:LeL ys xs)(hn:E2 0 ys=true)
  (k:E0 F L l (put env d x) H Q):E0 F L (o::l) env H Q:=by
 obtain ⟨h1,h2,rfl⟩:=Nf h
 exact .yields h1 (W13 h2 hle hn hc) k
theorem AQ.cl {C:Cx}{L l:List Oper}{o:Oper}{env:Env}{H:P0}{Q:Env→Prop}{d:Option Nat}{f:FuncId}{xs ys:List A}{x:A}(h:Mf C L o env=some (d,f,xs))(hc:L0 C f ys [] (fun r H'=>H'=[]∧r=x))(hle:LeL ys xs)(hn:E2 0 ys=true)
  (k:AQ C L l (put env d x) H Q):AQ C L (o::l) env H Q:=by
 obtain ⟨h1,h2,rfl⟩:=Nf h
 exact ⟨_,x,rfl,.inl ⟨h1,W13 h2 hle hn hc⟩,k⟩
theorem E0.g {F:Fx}{L l:List Oper}{o:Oper}{env:Env}{H H':P0}{Q:Env→P0→Prop}{d:Option Nat}{g:FuncId}{xs:List A}{x y:A}(idx:List Nat){cargs:List A}{cH cH':P0}
  (h:Mf F.C L o env=some (d,g,xs)) (hc:L0 F.C g cargs cH (fun r h=>h=cH'∧r=x)) (hx:LeL (Xi (Jd idx H.length) cargs) xs) (hi:I16 idx H.length=true) (hm:Gt (Jd idx H.length) H idx cH)
  (hr:frc (ren (Jd idx H.length) x)=some y) (hH:Re (Pf H idx (Jd idx H.length) (D8 idx cH) cH')=some H') (k:E0 F L l (put (fun t=>dg (D8 idx cH) (env t)) d y) H' Q):E0 F L (o::l) env H Q:=by
 refine .callHL idx cargs cH h hx hi hm hc fun r c ⟨e1,e2⟩=>?_
 subst e1; subst e2
 have e3:=Ik hH
 have e4:=Jj hr
 subst e3; subst e4
 exact k
def zf:D→A
 | .sl []=>.full []
 | x=>.d x
theorem H1u {M:Mem}{G:Nat→Value}{x:D}{v:Value}(h:zB v x=true):W0 M G (zf x) v:=by
 have h':=Ls h M
 unfold zf
 split
 ·unfold zB at h
  split at h <;> first | contradiction | skip
  exact .full .slnil trivial
 ·exact .d h'
theorem Fw {P:Program}{M:Mem}{G:Nat→Value}{T:TT}(hT:TOk P T){t:Nat}{i:TI}(ht:Y1 T t=some i):∃ z,(∀ w,(zeroValue t).run P w = .ok z w)∧Bg M G (i.zero.map zf) z.cells:=by
 obtain ⟨j,h1,h2,h3,z,h4,h5,h6,h7⟩:=(hT.facts ht).info
 refine ⟨z,fun w=>by simp [zeroValue,typeInfo,h1,h4],by simpa using h5.symm,fun n v hv=>?_,fun n x v hx hv=>?_⟩
 ·have hlt:n < i.zero.length:=by rw [← h5]; simpa using (Array.getElem?_eq_some_iff.1 hv).1
  exact (Ls (h6 n v _ hv (List.getElem?_eq_getElem hlt)) M).one
 ·rw [List.getElem?_map] at hx
  cases hz:i.zero[n]? with
  | none=>rw [hz] at hx; cases hx
  | some y=>
   rw [hz] at hx
   simp only [Option.map_some,Option.some.injEq] at hx
   subst hx
   exact H1u (h6 n v y hv hz)
def J1n (C:Cx)(L:List Oper)(o:Oper)(env:Env)(H:P0):Option (Option Nat×Nat×P0):=
 match D1 L env o,o.op with
 | some true,.alloc t=>match Y1 C.T t with
  | some i=>match Wi (i.zero.map zf) with
   | some cs=>match Vl H (.row cs t),K5 o with | some (n,H'),some d=>some (d,n,H') | _,_=>none
   | none=>none
  | none=>none
 | _,_=>none
theorem E0.nf {F:Fx}(hC:T1 F.C){L l:List Oper}{o:Oper}{env:Env}{H H':P0}{Q:Env→P0→Prop}{d:Option Nat}{n:Nat}(h:J1n F.C L o env H=some (d,n,H'))
  (k:E0 F L l (put env d (.ref n 0)) H' Q):E0 F L (o::l) env H Q:=by
 unfold J1n at h
 split at h
 ·rename_i t hw ho
  split at h
  ·rename_i i ht
   split at h
   ·rename_i cs hcs
    split at h
    ·rename_i n' H2 d' hp hd
     simp only [Option.some.injEq,Prod.mk.injEq] at h
     obtain ⟨rfl,rfl,rfl⟩:=h
     obtain ⟨rfl,rfl⟩:=Vh hp
     have:=Ui hcs
     subst this
     refine Q9 hw fun fr M G w a K Qw hK hd' hs hsi hk=>?_
     obtain ⟨z,h1,h2⟩:=Fw (M:=M) (G:=G) hC.tok ht
     have hr:(execOp a.eval o).run F.C.P w = .ok (.value (.pointer (some ⟨w.heap.size,0,none⟩))) (w.alloc (.cells z.cells t)):=by
      unfold execOp
      simp [ho,Instr.alloc,h1,newVar,newRow]
     unfold Oper.wp
     rw [hr]
     rw [← Z3 hd] at k
     exact hk _ _ _ _ _ _ _ k (hs.newRow (O3 hd') h2) (K2.newRow hsi)
    ·cases h
   ·cases h
  ·cases h
 ·cases h
def C1s (C:Cx)(L:List Oper)(o:Oper)(env:Env):Option (Option Nat×List Row):=
 match D1 L env o,o.op,K5 o with
 | some true,.binOp .eql t x (.const (.slice none 0 0)) _,some d=>match Y1 C.T t,Bt (ev C.GL env x) with
  | some i,some rows=>match i.u with
   | .sl _=>some (d,rows)
   | _=>none
  | _,_=>none
 | _,_,_=>none
theorem E0.z {F:Fx}(hC:T1 F.C){L l:List Oper}{o:Oper}{env:Env}{H:P0}{Q:Env→P0→Prop}{d:Option Nat}{rows:List Row}(h:C1s F.C L o env=some (d,rows))(k:∀ b:Bool,(b=true→rows=[])→E0 F L l (put env d (.d (.bool b))) H Q):E0 F L (o::l) env H Q:=by
 unfold C1s at h
 split at h
 ·rename_i t x yt d' hw ho hd
  split at h
  ·rename_i i rows ht hr
   split at h
   ·rename_i e hu
    simp only [Option.some.injEq,Prod.mk.injEq] at h
    obtain ⟨rfl,rfl⟩:=h
    refine Q9 hw fun fr M G w a K Qw hK hdok hs hsi hk=>?_
    have hx:=Fk hr (hs.eval x)
    have hdd:=Th (hC.tok.facts ht) hu
    have he:a.eval (.const (.slice none 0 0)) = .slice none 0 0:=rfl
    have key:∃ b:Bool,(b=true→rows=[])∧(execOp a.eval o).run F.C.P w = .ok (.value (.bool b)) w:=by
     generalize hv:a.eval x=v at hx
     have dd:∀ (v:Value) (b:Bool),(∀ n,(Op.equalIn (n+1) t v (.slice none 0 0)).run F.C.P w = .ok b w)→binOp .eql t v (.slice none 0 0)=(do pure (.bool (← Op.equal t v (.slice none 0 0))))→binOp .neq t v (.slice none 0 0)=(do pure (.bool (!(← Op.equal t v (.slice none 0 0)))))→
       v≠.nilIface→(∀ u,v≠.agg u)→a.eval x=v→(execOp a.eval o).run F.C.P w = .ok (.value (.bool b)) w:=fun v b e1 e2 e3 e4 e5 e6=>by
      obtain ⟨u,hu1,hu2⟩:=Gf (P:=F.C.P) (M:=M) (G:=G) (w:=w) (op:=.eql) (neg:=false) (.inl ⟨rfl,rfl⟩) b e1 e2 e3
      have hub:u = .bool b:=by cases hu2; rename_i hh; cases hh; rfl
      subst hub
      unfold execOp
      simp only [ho,e6,he,Sem.run_bind,N19 e4 e5,Result.andThen_ok,hu1,Sem.run_pure]
     cases hx with
     | slnil=>exact ⟨true,fun _=>rfl,dd _ true (fun n=>by simp [Op.equalIn,run_underlying hdd]) rfl rfl (by simp) (by simp) hv⟩
     | sl sz A1 hl hc hm hs' hz h1 h2=>exact ⟨false,(fun h=>by cases h),dd _ false (fun n=>by simp [Op.equalIn,run_underlying hdd]) rfl rfl (by simp) (by simp) hv⟩
    obtain ⟨b,hnil,hb⟩:=key
    unfold Oper.wp
    rw [hb]
    have kb:=k b hnil
    rw [← Z3 hd] at kb
    exact hk _ _ _ _ _ _ _ kb (hs.quiet (O3 hdok) (.d .bool) hs.good (Ext.refl _ _ _)) (hsi.quiet (Ext.refl _ _ _))
   ·cases h
  ·cases h
 ·cases h
theorem E0.tokE {F:Fx}{L l:List Oper}{env:Env}{H:P0}{Q:Env→P0→Prop}(t e sz:Nat){rows:List Row}(h:env t = .full rows)(k:E0 F L l (upd env t (.osl H.length rows)) (H++[.tok e sz]) Q):E0 F L l env H Q:=by
 intro fr M G w a Qw hK hd hs hsi hq
 have hr:=hs.env t
 rw [h] at hr
 generalize hv:a.tmps.getD t undef=v at hr
 cases hr
 rename_i hf hrd
 obtain ⟨t1,t2⟩:=Ew (G:=G) (w:=w) hrd hf e sz
 have hsi':=hsi.newTok (Ext.refl P4 M w) (e:=e) (sz:=sz) (v':=v) fun b hb=>absurd hb (t2 b)
 have hs':=hs.newTok (dst:=none) (by simp) (Ext.refl P4 M w) hs.good (e:=e) (sz:=sz) (v':=v) (x:=.osl H.length rows) t1 (fun b hb=>absurd hb (t2 b)) (.osl hrd W2)
 refine k fr M _ w a Qw hK hd ⟨hs'.good,hs'.gl,hs'.hrel,fun s=>?_,hs.size,hs.defers⟩ hsi' hq
 unfold upd
 cases hb:Nat.beq s t with
 | true=>
  obtain rfl:=Nat.eq_of_beq_eq_true hb
  rw [hv]
  exact .osl hrd W2
 | false=>exact hs'.env s
theorem E0.tokC {F:Fx}{L l:List Oper}{env:Env}{H:P0}{Q:Env→P0→Prop}(o n e sz:Nat){cs cs':List A}{el m:Nat}{rows:List Row}{H1 H2:P0}(ho:nth H o=some (.row cs el))(h:nth cs n=some (.full rows))(hp:Vl H (.tok e sz)=some (m,H1))(hcs:Gr cs n [.osl m rows]=some cs')(hH:Hk H1 o (.row cs' el)=some H2)
  (k:E0 F L l env H2 Q):E0 F L l env H Q:=by
 intro fr M G w a Qw hK hd hs hsi hq
 obtain ⟨rfl,rfl⟩:=Vh hp
 have e1:=G16 hcs
 have e2:=Dt hH
 subst e1
 subst e2
 rw [S2] at ho h
 have hol:o < H.length:=(List.getElem?_eq_some_iff.1 ho).1
 have hnl:n < cs.length:=(List.getElem?_eq_some_iff.1 h).1
 obtain ⟨b,vs,g1,g2,g3,g4,g5,g6⟩:=hs.hrel.obj o _ ho
 have hvn:vs[n]?=some vs[n]:=Array.getElem?_eq_getElem (by omega)
 have hr:=g5 n _ _ h hvn
 generalize hv:vs[n]=v at hr hvn
 cases hr
 rename_i hf hrd
 obtain ⟨t1,t2⟩:=Ew (G:=G) (w:=w) hrd hf e sz
 have hsi':=hsi.newTok (Ext.refl P4 M w) (e:=e) (sz:=sz) (v':=v) fun b hb=>absurd hb (t2 b)
 have hs':=hs.newTok (dst:=none) (by simp) (Ext.refl P4 M w) hs.good (e:=e) (sz:=sz) (v':=v) (x:=.junk) t1 (fun b hb=>absurd hb (t2 b)) .junk
 have hgo:A6 G H.length v o=G o:=A2 (Nat.ne_of_lt hol)
 have ho':(H++[Ob.tok e sz])[o]?=some (.row cs el):=by rw [List.getElem?_append_left hol]; exact ho
 have hol':o < (H++[Ob.tok e sz]).length:=by simp; omega
 obtain ⟨b',vs',q1,q2,q3,q4,q5,q6⟩:=hs'.hrel.obj o _ ho'
 rw [hgo] at q1
 rw [g1] at q1
 simp at q1
 subst q1
 rw [g2] at q2
 simp at q2
 subst q2
 have hget:=fun i=>Hq cs n [.osl H.length rows] i (by simp; omega)
 refine k fr M (A6 G H.length v) w a Qw hK hd ⟨hs'.good,hs'.gl,⟨fun i x hi=>?_,fun i i' x x' c hi hi' hx hx'=>?_,fun i hi=>hs'.hrel.fresh i (by rw [Dm] at hi; exact hi)⟩,hs'.env,hs.size,hs.defers⟩ ?_ hq
 ·rw [Xb _ o _ i hol'] at hi
  split at hi
  ·rename_i e; subst e
   simp only [Option.some.injEq] at hi
   subst hi
   refine ⟨b,vs,by rw [hgo]; exact g1,g2,by rw [Gq]; exact g3,g4,fun j y u hy hu=>?_,g6⟩
   rw [hget j] at hy
   split at hy
   ·rename_i hj
    have:j=n:=by simp at hj; omega
    subst this
    simp at hy
    subst hy
    rw [hvn] at hu
    obtain rfl:=Option.some.inj hu
    exact .osl hrd W2
   ·exact q5 j y u hy hu
  ·exact hs'.hrel.obj i x hi
 ·have key:∀ (n':Nat) z d,(Lc (H++[Ob.tok e sz]) o (Ob.row (Wc cs n [.osl H.length rows]) el))[n']?=some z→blk z (A6 G H.length v n')=some d→∃ y,(H++[Ob.tok e sz])[n']?=some y∧blk y (A6 G H.length v n')=some d:=by
   intro n' z d hn hz
   rw [Xb _ o _ n' hol'] at hn
   by_cases e:n'=o
   ·rw [if_pos e] at hn
    subst e
    obtain rfl:=Option.some.inj hn
    exact ⟨_,ho',by rw [hgo,g1] at hz ⊢; exact hz⟩
   ·rw [if_neg e] at hn
    exact ⟨z,hn,hz⟩
  obtain ⟨y,hy,hby⟩:=key i x c hi hx
  obtain ⟨y',hy',hby'⟩:=key i' x' c hi' hx'
  exact hs'.hrel.apart i i' y y' c hy hy' hby hby'
 ·refine ⟨hsi'.ext,fun c ⟨i,x,hi,hx⟩=>?_,by rw [Dm]; exact hsi'.len,hsi'.keep,fun i x y hi ht hy=>?_⟩
  ·rw [Xb _ o _ i hol'] at hi
   by_cases e:i=o
   ·rw [if_pos e] at hi
    subst e
    obtain rfl:=Option.some.inj hi
    exact hsi'.own c ⟨i,_,ho',by rw [hgo,g1] at hx ⊢; exact hx⟩
   ·rw [if_neg e] at hi
    exact hsi'.own c ⟨i,x,hi,hx⟩
  ·rw [Xb _ o _ i hol'] at hy
   by_cases e:i=o
   ·rw [if_pos e] at hy
    obtain rfl:=Option.some.inj hy
    rfl
   ·rw [if_neg e] at hy
    exact hsi'.kind i x y hi ht hy
end Go.Am

namespace Go.Am
theorem H1d {P:Program}{o:Oper}{a:Act}{w:World}{K:Act→World→Prop}{Q Q':Exit→Act→World→Prop}(h1:∀ c a w,Q (.panic c) a w→Q' (.panic c) a w)(h2:LetsOut Q→LetsOut Q')
  (h:o.wp P a w K Q):o.wp P a w K Q':=by
 unfold Oper.wp at *
 generalize (execOp a.eval o).run P w=r at *
 cases r with
 | ok n w'=>
  cases n <;> simp only [Oper.upon] at h ⊢ <;>
   first
    | exact h
    | exact Calls.mono h (fun e w'' he=>by cases e <;> first | exact he | exact h1 _ _ _ he | exact h2 he)
 | halt x w'=>cases x <;> simp only [Oper.upon] at h ⊢ <;> first | exact h | exact h1 _ _ _ h
def Q0 (F:Fx)(L:List Oper)(m:Nat)(listed:Array Bool)(env:Env)(H:P0)(Q:Po):Prop:=
 ∀ fr M G w a,fr.H0.length=F.K→St F.C F.N M G w env H a→K2 fr M G w H→wpAny F.C.P .any L.toArray (Fin F fr Q) m listed a w
theorem Q0.nil {F:Fx}{L:List Oper}{m:Nat}{listed:Array Bool}{env:Env}{H:P0}{Q:Po}(hr:Region.ready .any L.toArray listed=[])(h:Q .normal env H):Q0 F L m listed env H Q:=by
 intro fr M G w a hK hs hsi
 have hq:Fin F fr Q .normal a w:=⟨.normal,env,H,M,G,rfl,h,hs,hsi⟩
 cases m with
 | zero=>exact ⟨hr,hq⟩
 | succ m=>exact ⟨fun _=>hq,fun i hi=>by rw [hr] at hi; cases hi⟩
def Tx (F:Fx)(L:List Oper)(m:Nat)(listed:Array Bool)(env:Env)(H:P0)(Q:Po):List Nat→Prop
 | []=>True
 | j::r=>(∃ o,nth L j=some o∧E0 F L [o] env H (fun e h=>Q0 F L m (listed.setIfInBounds j true) e h Q))∧Tx F L m listed env H Q r
theorem Tx.get {F:Fx}{L:List Oper}{m:Nat}{listed:Array Bool}{env:Env}{H:P0}{Q:Po}:∀ {js:List Nat},Tx F L m listed env H Q js→∀ j∈js,∃ o,nth L j=some o∧E0 F L [o] env H (fun e h=>Q0 F L m (listed.setIfInBounds j true) e h Q)
 | [],_,j,hj=>by cases hj
 | i::r,h,j,hj=>by
  rcases List.mem_cons.1 hj with rfl | hj
  ·exact h.1
  ·exact Tx.get h.2 j hj
theorem Q0.step {F:Fx}{L:List Oper}{m:Nat}{listed:Array Bool}{env:Env}{H:P0}{Q:Po}(hd:L.all (Xc F.N)=true){j0:Nat}{js:List Nat}(hr:Region.ready .any L.toArray listed=j0::js)(h:Tx F L m listed env H Q (j0::js)):Q0 F L (m+1) listed env H Q:=by
 intro fr M G w a hK hs hsi
 refine ⟨fun h0=>(by rw [hr] at h0; cases h0),fun i hi=>?_⟩
 rw [hr] at hi
 obtain ⟨o,ho,hop⟩:=h.get i hi
 rw [S2] at ho
 let Qw:Exit→Act→World→Prop:=fun e a w=>match e with
  | .normal=>wpAny F.C.P .any L.toArray (Fin F fr Q) m (listed.setIfInBounds i true) a w
  | e=>Fin F fr Q e a w
 have:=hop fr M G w a Qw hK (fun o' ho'=>by
  rw [List.mem_singleton] at ho'
  subst ho'
  exact List.all_eq_true.1 hd _ (List.mem_of_getElem? ho)) hs hsi (fun env' H' M' G' w' a' hq hs' hsi'=>hq fr M' G' w' a' hK hs' hsi')
 simp only [wpList] at this
 unfold wpOp
 simp only [List.getElem?_toArray,ho]
 have hout:LetsOut Qw→LetsOut (Fin F fr Q):=fun ⟨a,w,h⟩=>⟨a,w,h⟩
 split
 ·rename_i hw
  rw [if_pos hw] at this
  rcases this with h1 | ⟨h1,h2⟩
  ·exact .inl (H1d (fun c a w h=>h) hout h1)
  ·exact .inr ⟨h1,hout h2⟩
 ·rename_i hw
  rw [if_neg hw] at this
  exact this
theorem AEx.drawE {F:Fx}(hC:T1 F.C){id:Nat}{L:List Oper}{env:Env}{H:P0}{Q:Po}(h:Q0 F L L.length (Array.replicate L.length false) env H Q):AEx F (.region id L.toArray true) env H Q:=by
 intro fr M G w act hK hs hsi
 refine wp_region_any hC.mixed ?_
 have hs':St F.C F.N M G { w with drawn:=w.drawn+1 } env H act:=
  ⟨fun a v e=>hs.good a v e,hs.gl.ext hs.hrel (S:=P4) ⟨fun _ _ e=>e,Nat.le_refl _,rfl,rfl,rfl,fun _ _ _=>rfl,fun _ _ e=>.inl e⟩ (fun _ h=>h.elim),hs.hrel.ext (S:=P4) ⟨fun _ _ e=>e,Nat.le_refl _,rfl,rfl,rfl,fun _ _ _=>rfl,fun _ _ e=>.inl e⟩ (fun _ _ h=>h),hs.env,hs.size,hs.defers⟩
 have hsi':K2 fr M G { w with drawn:=w.drawn+1 } H:=hsi.quiet ⟨fun _ _ e=>e,Nat.le_refl _,rfl,rfl,rfl,fun _ _ _=>rfl,fun _ _ e=>.inl e⟩
 have:=h fr M G _ act hK hs' hsi'
 simpa using this
end Go.Am

namespace Go.Am
section
variable {P:Program}{M:Mem}{G:Nat→Value}{w:World}
end
end Go.Am

namespace Go.Am
end Go.Am

namespace Go.Am
open Go.ChangeShapes
def Yc (W:World):Mem:=fun a=>if a.spot=none then W.cell? a else none
theorem G1l (W:World):B5 (Yc W) W:=by
 intro a v h
 unfold Yc at h
 split at h
 ·rename_i hs; exact .inl ⟨hs,h⟩
 ·cases h
def Ux (M:Mem)(ds:List D)(cs:List Value):Prop:=ds.length=cs.length∧∀ (i:Nat) x v,ds[i]?=some x→cs[i]?=some v→Q1 M x v
structure O1f {H:Type}(μ:DataW H→Nat):Prop where
 lit:∀ l,1≤μ (.lit l)
 str:∀ s,s.length+1≤μ (.lit (.string s))
 nil:1≤μ .nil
 sl:∀ es sp,(es.map μ).sum+1≤μ (.slice es sp)
 agg:∀ ps,(ps.map μ).sum+1≤μ (.agg ps)
def Rd {H:Type}(enc:TypeId×Value→H)(P:Program)(W:World)(μ:DataW H→Nat)(fuel:Nat)(t:TypeId){α:Type}(f:α→Row)(bk:α→Nat):Prop:=
 ∀ cs d ps,DataW.trod enc P W 0 (fun _=>true) true fuel t cs=some (d,ps)→∃ x:α,Ux (Yc W) (f x) cs∧bk x≤μ d
section
variable {H:Type}{enc:TypeId×Value→H}{P:Program}{W:World}{μ:DataW H→Nat}{fuel:Nat}{t:TypeId}
theorem Rd.zero {α:Type}{f:α→Row}{bk:α→Nat}:Rd enc P W μ 0 t f bk:=fun cs d ps h=>by simp [DataW.trod] at h
theorem M16 {M:Mem}{x:D}{v:Value}(h:Q1 M x v):Ux M [x] [v]:=by
 refine ⟨rfl,fun i y u hy hu=>?_⟩
 cases i with
 | zero=>simp at hy hu; subst hy; subst hu; exact h
 | succ i=>simp at hy
theorem Rd.int (hμ:O1f μ){k:IntKind}(ht:P.underlying t=some (.int k)):Rd enc P W μ fuel t (fun n:Int=>[D.int k n]) (fun _=>1):=by
 cases fuel with
 | zero=>exact .zero
 | succ n=>
  intro cs d ps h
  unfold DataW.trod at h
  rw [ht] at h
  split at h <;> first | (rename_i heq; cases heq; done) | skip
  all_goals first | (cases h; done) | skip
  rename_i k1 k' m heq
  cases heq
  split at h
  ·rename_i hc
   simp only [Option.some.injEq,Prod.mk.injEq] at h
   obtain ⟨rfl,rfl⟩:=h
   obtain ⟨rfl,hwf⟩:=hc
   refine ⟨m,M16 (.int ?_),hμ.lit _⟩
   simpa [Lit.wf,InK] using hwf
  ·cases h
theorem Rd.str (hμ:O1f μ)(ht:P.underlying t=some .string):Rd enc P W μ fuel t (fun s:Str=>[D.str s]) (fun s=>s.length+1):=by
 cases fuel with
 | zero=>exact .zero
 | succ n=>
  intro cs d ps h
  unfold DataW.trod at h
  rw [ht] at h
  split at h <;> first | (rename_i heq; cases heq; done) | skip
  all_goals first | (cases h; done) | skip
  rename_i s heq
  split at h
  ·rename_i hc
   simp only [Option.some.injEq,Prod.mk.injEq] at h
   obtain ⟨rfl,rfl⟩:=h
   refine ⟨s.data.toList,M16 ?_,hμ.str _⟩
   have:s=⟨s.data.toList.toArray⟩:=by simp
   rw [this]
   exact .str (by simpa using hc)
  ·cases h
theorem K1n {α β:Type}{f:α→Nat}{g:β→Nat}:∀ {l:List α} {m:List β},l.length=m.length→(∀ (i:Nat) x y,l[i]?=some x→m[i]?=some y→f x≤g y)→(l.map f).sum≤(m.map g).sum
 | [],[],_,_=>Nat.le_refl _
 | x::l,y::m,hl,h=>by
  have h0:=h 0 x y rfl rfl
  have ih:=K1n (l:=l) (m:=m) (by simpa using hl) (fun i a b ha hb=>h (i+1) a b (by simpa using ha) (by simpa using hb))
  simp only [List.map_cons,List.sum_cons]
  omega
 | [],_::_,hl,_=>by simp at hl
 | _::_,[],hl,_=>by simp at hl
theorem Pz {W:World}{a:Addr}{n:Nat}{cs:List Value}(h:W.cells? 0 a n=some cs):cs.length=n∧∀ (j:Nat) v,cs[j]?=some v→W.cell? (a.add j)=some v:=by
 unfold World.cells? at h
 rw [if_pos (Nat.zero_le _)] at h
 have key:∀ (l:List Nat) (cs:List Value),l.mapM (fun i=>W.cell? (a.add i))=some cs→cs.length=l.length∧∀ (j:Nat) v,cs[j]?=some v→∃ i,l[j]?=some i∧W.cell? (a.add i)=some v:=by
  intro l
  induction l with
  | nil=>intro cs h; simp at h; subst h; exact ⟨rfl,fun j v h=>by simp at h⟩
  | cons i l ih=>
   intro cs h
   rw [List.mapM_cons] at h
   simp only [bind,Option.bind_eq_some_iff,pure,Option.some.injEq] at h
   obtain ⟨v,hv,vs,hvs,rfl⟩:=h
   obtain ⟨h1,h2⟩:=ih vs hvs
   refine ⟨by simp [h1],fun j u hu=>?_⟩
   cases j with
   | zero=>simp at hu; subst hu; exact ⟨i,rfl,hv⟩
   | succ j=>simpa using h2 j u (by simpa using hu)
 obtain ⟨h1,h2⟩:=key _ _ h
 refine ⟨by simpa using h1,fun j v hv=>?_⟩
 obtain ⟨i,hi,hc⟩:=h2 j v hv
 have hj:j < n:=by have:=(List.getElem?_eq_some_iff.1 hv).1; simp at h1; omega
 rw [List.getElem?_range hj] at hi
 cases hi
 exact hc
theorem Qz {W:World}{a:Addr}{v:Value}(h:W.cell? a=some v):Yc W a=some v∧a.spot=none:=by
 have hs:a.spot=none:=by
  unfold World.cell? at h
  split at h
  ·split at h
   ·cases h
   ·rename_i hs; simpa using hs
  ·cases h
 exact ⟨by unfold Yc; rw [if_pos hs]; exact h,hs⟩
theorem Rd.sl (hμ:O1f μ){e sz:Nat}{α:Type}[Inhabited α]{f:α→Row}{bk:α→Nat}(ht:P.underlying t=some (.slice e))(hP:P.cellsOf e=sz)(hpos:1≤sz)(hsz:∀ x,(f x).length=sz)(he:∀ n,n < fuel→Rd enc P W μ n e f bk) :
  Rd enc P W μ fuel t (fun l:List α=>[D.sl (l.map f)]) (fun l=>(l.map bk).sum+1):=by
 intro cs d ps h
 rcases DataW.trod_slice ht h with ⟨rfl,hx⟩ | ⟨a,len,cap,elems,rest,n,hn,rfl,hx,_,hlc,hcm,hlen,hel,hsp,_⟩
 ·cases hx
  exact ⟨[],M16 .slnil,hμ.nil⟩
 ·have h1:∀ i:_root_.Fin len,∃ x:α,∃ ci di,W.cells? 0 (a.add (i.val * sz)) sz=some ci∧elems[i.val]?=some di∧Ux (Yc W) (f x) ci∧bk x≤μ di.1:=by
   intro i
   have:=hel i.val i.isLt
   have hlt:i.val < elems.length:=by omega
   rw [List.getElem?_eq_getElem hlt,hP] at this
   obtain ⟨ci,h2,h3⟩:=Option.bind_eq_some_iff.1 this
   obtain ⟨x,h4,h5⟩:=he n (by omega) ci _ _ h3
   exact ⟨x,ci,_,h2,List.getElem?_eq_getElem hlt,h4,h5⟩
  let g:_root_.Fin len→α:=fun i=>Classical.choose (h1 i)
  have hg:∀ i:_root_.Fin len,∃ ci di,W.cells? 0 (a.add (i.val * sz)) sz=some ci∧elems[i.val]?=some di∧Ux (Yc W) (f (g i)) ci∧bk (g i)≤μ di.1:=fun i=>Classical.choose_spec (h1 i)
  have hget:∀ (i:Nat) x,(List.ofFn g)[i]?=some x→∃ h:i < len,x=g ⟨i,h⟩:=fun i x hx=>by
   rw [List.getElem?_ofFn] at hx
   split at hx
   ·rename_i h; exact ⟨h,by cases hx; rfl⟩
   ·cases hx
  cases hx
  refine ⟨List.ofFn g,M16 (.sl sz (fun i j=>(W.cell? (a.add (i * sz+j))).getD undef) (by simp) hlc hcm ?_ ?_ ?_ ?_),?_⟩
  ·by_cases h0:cap=0
   ·exact .inl h0
   ·refine .inr ?_
    have hc0:∃ ci,W.cells? 0 (a.add (0 * sz)) sz=some ci:=by
     by_cases hl0:0 < len
     ·obtain ⟨ci,di,h2,_⟩:=hg ⟨0,hl0⟩
      exact ⟨ci,h2⟩
     ·have hl0':len=0:=by omega
      obtain ⟨h2,h3⟩:=hsp rfl
      have h4:=h3 0 (by omega)
      have hlt:0 < rest.length:=by omega
      rw [List.getElem?_eq_getElem hlt,hP,hl0'] at h4
      obtain ⟨ci,h5,_⟩:=Option.bind_eq_some_iff.1 h4
      exact ⟨ci,by simpa using h5⟩
    obtain ⟨ci,hci⟩:=hc0
    obtain ⟨h2,h3⟩:=Pz hci
    have h4:ci[0]?=some ci[0]:=List.getElem?_eq_getElem (by omega)
    have:=(Qz (h3 0 _ h4)).2
    simpa [Addr.add] using this
  ·intro i r hr
   rw [List.getElem?_map] at hr
   cases hx:(List.ofFn g)[i]? with
   | none=>rw [hx] at hr; cases hr
   | some x=>rw [hx] at hr; cases hr; exact hsz x
  ·intro i j r x hr hx
   rw [List.getElem?_map] at hr
   cases hy:(List.ofFn g)[i]? with
   | none=>rw [hy] at hr; cases hr
   | some y=>
    rw [hy] at hr; cases hr
    obtain ⟨hi,rfl⟩:=hget i y hy
    obtain ⟨ci,di,h2,h3,⟨h4,h5⟩,h6⟩:=hg ⟨i,hi⟩
    obtain ⟨h7,h8⟩:=Pz h2
    have hj:j < ci.length:=by rw [← h4]; exact (List.getElem?_eq_some_iff.1 hx).1
    have h9:=h8 j _ (List.getElem?_eq_getElem hj)
    rw [Ij] at h9
    rw [(Qz h9).1,h9]
    rfl
  ·intro i j r x hr hx
   rw [List.getElem?_map] at hr
   cases hy:(List.ofFn g)[i]? with
   | none=>rw [hy] at hr; cases hr
   | some y=>
    rw [hy] at hr; cases hr
    obtain ⟨hi,rfl⟩:=hget i y hy
    obtain ⟨ci,di,h2,h3,⟨h4,h5⟩,h6⟩:=hg ⟨i,hi⟩
    obtain ⟨h7,h8⟩:=Pz h2
    have hj:j < ci.length:=by rw [← h4]; exact (List.getElem?_eq_some_iff.1 hx).1
    have h9:=h8 j _ (List.getElem?_eq_getElem hj)
    rw [Ij] at h9
    rw [h9]
    exact h5 j x _ hx (List.getElem?_eq_getElem hj)
  ·refine Nat.le_trans ?_ (hμ.sl _ _)
   rw [List.map_map]
   refine Nat.succ_le_succ (K1n (by simp [hlen]) fun i x y hx hy=>?_)
   obtain ⟨hi,rfl⟩:=hget i x hx
   obtain ⟨ci,di,h2,h3,h4,h6⟩:=hg ⟨i,hi⟩
   simp only at h3
   rw [h3] at hy
   cases hy
   exact h6
def FRd {H:Type}(enc:TypeId×Value→H)(P:Program)(W:World)(μ:DataW H→Nat)(fuel:Nat)(fs:List Field)(off:Nat){α:Type}(f:α→Row)(bk:α→Nat):Prop:=
 ∀ (cs:List Value) (xs:List (DataW H×List MemPlace)),xs.length=fs.length→(∀ (i:Nat) (g:Field),fs[i]?=some g→DataW.trod enc P W 0 (fun _=>true) true fuel g.type ((cs.drop g.offset).take (P.cellsOf g.type))=xs[i]?)→∃ x:α,(∀ (i:Nat) y v,(f x)[i]?=some y→cs[off+i]?=some v→Q1 (Yc W) y v)∧bk x≤(xs.map fun y=>μ y.1).sum
theorem FRd.nil {off:Nat}:FRd enc P W μ fuel [] off (fun _:Unit=>[]) (fun _=>0):=by
 intro cs xs hl _
 obtain rfl:=List.eq_nil_of_length_eq_zero hl
 exact ⟨(),fun i y v h=>by simp at h,Nat.le_refl _⟩
theorem FRd.cons {α β:Type}{f:α→Row}{g:β→Row}{bk:α→Nat}{bk':β→Nat}{fs:List Field}{fd:Field}{off sz:Nat}(h1:Rd enc P W μ fuel fd.type f bk)(ho:fd.offset=off)(hP:P.cellsOf fd.type=sz)(hsz:∀ x,(f x).length=sz)(h2:FRd enc P W μ fuel fs (off+sz) g bk') :
  FRd enc P W μ fuel (fd::fs) off (fun p:α×β=>f p.1++g p.2) (fun p=>bk p.1+bk' p.2):=by
 intro cs xs hl h
 cases xs with
 | nil=>simp at hl
 | cons y ys=>
 obtain ⟨d,ps⟩:=y
 obtain ⟨x,⟨e1,e2⟩,e3⟩:=h1 _ _ _ (h 0 fd rfl)
 obtain ⟨x',e4,e5⟩:=h2 cs ys (by simpa using hl) (fun i g hg=>by simpa using h (i+1) g (by simpa using hg))
 refine ⟨(x,x'),fun i z v hz hv=>?_,by simp only [List.map_cons,List.sum_cons]; omega⟩
 rcases Nat.lt_or_ge i sz with hi | hi
 ·rw [List.getElem?_append_left (by rw [hsz]; exact hi)] at hz
  refine e2 i z v hz ?_
  rw [ho,hP,List.getElem?_take,if_pos hi,List.getElem?_drop]
  exact hv
 ·rw [List.getElem?_append_right (by rw [hsz]; exact hi),hsz] at hz
  refine e4 (i - sz) z v hz ?_
  rw [show off+sz+(i - sz)=off+i by omega]
  exact hv
theorem Rd.st (hμ:O1f μ){fs:Array Field}{l:List Field}{α β:Type}{f:α→Row}{g:β→Row}{bk:α→Nat}{bk':β→Nat}{sz:Nat}(ht:P.underlying t=some (.struct fs))(hl:fs.toList=l)(hP:P.cellsOf t=sz)(hsz:∀ x,(g x).length=sz)
  (h:∀ n,n < fuel→FRd enc P W μ n l 0 f bk) (mk:α→β) (hf:∀ x,f x=g (mk x)) (hb:∀ x,bk' (mk x)≤bk x+1):Rd enc P W μ fuel t g bk':=by
 intro cs d ps hd
 obtain ⟨xs,n,hn,hx,hlen,hxl,hxs⟩:=DataW.trod_struct ht hd
 cases hx
 obtain ⟨x,h3,h4⟩:=h n (by omega) cs xs (by rw [hxl,← hl]; simp) (fun i g hg=>hxs i g (by rw [← hl] at hg; simpa using hg))
 refine ⟨mk x,⟨by rw [hsz,hlen,hP],fun i y v hy hv=>h3 i y v (by rw [hf]; exact hy) (by simpa using hv)⟩,?_⟩
 have:=hμ.agg (xs.map (·.1))
 rw [List.map_map] at this
 have h5:=hb x
 have h6:(xs.map fun y=>μ y.1).sum=(xs.map (μ ∘ fun x=>x.fst)).sum:=rfl
 omega
end
end Go.Am

namespace Go.Am
open Go.ChangeShapes
theorem Rv {α β:Type}{f g:α→Option β}:∀ {l:List α} {r:List β},l.mapM f=some r→(∀ x∈l,∀ y∈r,f x=some y→g x=some y)→l.mapM g=some r
 | [],r,h,_=>by simpa using h
 | x::l,r,h,hfg=>by
  rw [List.mapM_cons] at h ⊢
  simp only [bind,Option.bind_eq_some_iff,pure,Option.some.injEq] at h ⊢
  obtain ⟨y,hy,ys,hys,rfl⟩:=h
  exact ⟨y,hfg x (by simp) y (by simp) hy,ys,Rv hys (fun x hx y hy'=>hfg x (by simp [hx]) y (by simp [hy'])),rfl⟩
theorem Vx {α:Type}(l:List α):(List.range l.length).mapM (fun i=>l[i]?)=some l:=by
 have key:∀ (m:List α) (k:Nat),(∀ j,m[j]?=l[k+j]?)→(List.range' k m.length).mapM (fun i=>l[i]?)=some m:=by
  intro m
  induction m with
  | nil=>intro k _; rfl
  | cons x m ih=>
   intro k h
   rw [List.length_cons,List.range'_succ,List.mapM_cons]
   have h0:=h 0
   simp at h0
   have:=ih (k+1) (fun j=>by have:=h (j+1); simp at this; rw [this]; congr 1; omega)
   simp only [bind,Option.bind_eq_some_iff,pure,Option.some.injEq]
   exact ⟨x,h0.symm,m,this,rfl⟩
 rw [List.range_eq_range']
 exact key l 0 (fun j=>by simp)
def Q1e (P:Program)(S:TypeId→Prop):Prop:=
 ∀ t,S t→P.underlying t=some .bool∨(∃ k,P.underlying t=some (.int k))∨P.underlying t=some .string∨(∃ e,P.underlying t=some (.slice e)∧S e∧1≤P.cellsOf e)∨∃ fs,P.underlying t=some (.struct fs)∧∀ f∈fs.toList,S f.type
section
variable {H:Type}{enc:TypeId×Value→H}{P:Program}{W W':World}{S:TypeId→Prop}
theorem J1i (hb:∀ b,b < W.heap.size→W'.heap[b]?=W.heap[b]?){a:Addr}{n:Nat}{cs:List Value}(h:W.cells? 0 a n=some cs):W'.cells? 0 a n=some cs:=by
 unfold World.cells? at *
 rw [if_pos (Nat.zero_le _)] at *
 refine Rv h fun i _ y _ hy=>?_
 rw [Dr (hb _ (World.block_lt_of_cell? W _ hy))]
 exact hy
theorem L1n (hS:Q1e P S)(hb:∀ b,b < W.heap.size→W'.heap[b]?=W.heap[b]?){sp:Nat→Bool}:∀ (fuel:Nat) (t:TypeId) (cs:List Value) (x:DataW H×List MemPlace),S t→DataW.trod enc P W 0 (fun _=>true) true fuel t cs=some x→
  (∀ p∈x.2,sp p.block=true)→DataW.trod enc P W' 0 sp true fuel t cs=some x:=by
 intro fuel
 induction fuel with
 | zero=>intro t cs x _ h; simp [DataW.trod] at h
 | succ n ih=>
  intro t cs x hSt h hx
  rcases hS t hSt with ht | ⟨k,ht⟩ | ht | ⟨e,ht,hSe,hpos⟩ | ⟨fs,ht,hSf⟩
  ·obtain ⟨b,rfl,rfl⟩:=DataW.trod_bool ht h
   unfold DataW.trod
   rw [ht]
  ·have h2:=h
   obtain ⟨m,rfl,rfl,_⟩:=DataW.trod_int ht h
   unfold DataW.trod at h2 ⊢
   rw [ht] at h2 ⊢
   exact h2
  ·have h2:=h
   obtain ⟨s,rfl,rfl,_⟩:=DataW.trod_string ht h
   unfold DataW.trod at h2 ⊢
   rw [ht] at h2 ⊢
   exact h2
  ·have h0:=h
   rcases DataW.trod_slice ht h with ⟨rfl,rfl⟩ | ⟨a,len,cap,elems,rest,n',hn,rfl,rfl,_,hlc,hcm,hlen,hel,hsp,_⟩
   ·unfold DataW.trod
    rw [ht]
    rfl
   ·have hn':n=n':=by omega
    subst hn'
    have hspare:cap - len=0∨sp a.block=true:=by
     by_cases hc:cap=0
     ·exact .inl (by omega)
     ·refine .inr (hx (.cell a.block a.off) ?_)
      simp only [List.mem_append]
      refine .inl (MemPlace.mem_row.2 ⟨0,?_,?_⟩)
      ·have h1:=(hsp rfl).1
       have:0 < elems.length+rest.length:=by omega
       exact Nat.mul_pos this hpos
      ·simp
    have hdo:∀ (i:Nat) (y:DataW H×List MemPlace),(∀ p∈y.2,sp p.block=true)→(W.cells? 0 (a.add (i * P.cellsOf e)) (P.cellsOf e)).bind (DataW.trod enc P W 0 (fun _=>true) true n e)=some y→
      (W'.cells? 0 (a.add (i * P.cellsOf e)) (P.cellsOf e)).bind (DataW.trod enc P W' 0 sp true n e)=some y:=fun i y hy h1=>by
     obtain ⟨ci,h2,h3⟩:=Option.bind_eq_some_iff.1 h1
     rw [J1i hb h2]
     exact ih e ci y hSe h3 hy
    have hmem:∀ y∈elems++rest,∀ p∈y.2,sp p.block=true:=fun y hy p hp=>hx p (by
     simp only [List.mem_append,List.mem_flatMap]
     exact .inr ⟨y,by simpa using hy,hp⟩)
    have m1:(List.range len).mapM (fun i=>(W'.cells? 0 (a.add (i * P.cellsOf e)) (P.cellsOf e)).bind (DataW.trod enc P W' 0 sp true n e))=some elems:=by
     have:(List.range len).mapM (fun i=>elems[i]?)=some elems:=by rw [← hlen]; exact Vx elems
     refine Rv this fun i hi y hy h1=>hdo i y (hmem y (by simp [hy])) ?_
     rw [hel i (List.mem_range.1 hi)]
     exact h1
    have m2:(if sp a.block then (List.range (cap - len)).mapM (fun j=>(W'.cells? 0 (a.add ((len+j) * P.cellsOf e)) (P.cellsOf e)).bind (DataW.trod enc P W' 0 sp true n e)) else some [])=some rest:=by
     obtain ⟨h1,h2⟩:=hsp rfl
     rcases hspare with hc | hc
     ·have:rest=[]:=List.eq_nil_of_length_eq_zero (by omega)
      subst this
      rw [hc]
      split <;> rfl
     ·rw [if_pos hc]
      have:(List.range (cap - len)).mapM (fun i=>rest[i]?)=some rest:=by rw [← h1]; exact Vx rest
      refine Rv this fun j hj y hy h3=>hdo (len+j) y (hmem y (by simp [hy])) ?_
      rw [h2 j (List.mem_range.1 hj)]
      exact h3
    unfold DataW.trod
    rw [ht]
    simp only [Nat.zero_le,hlc,hcm,and_self,if_true,m1,m2,Option.bind_some,Option.map_some]
  ·obtain ⟨xs,n',hn,rfl,hl,hlen,hf⟩:=DataW.trod_struct ht h
   have hn':n=n':=by omega
   subst hn'
   refine trod_struct_mk ht hl ?_
   have key:∀ (l:List Field) (ys:List (DataW H×List MemPlace)),ys.length=l.length→(∀ f∈l,S f.type)→(∀ y∈ys,∀ p∈y.2,sp p.block=true)→
     (∀ (i:Nat) f,l[i]?=some f→DataW.trod enc P W 0 (fun _=>true) true n f.type ((cs.drop f.offset).take (P.cellsOf f.type))=ys[i]?)→
     l.mapM (fun f=>DataW.trod enc P W' 0 sp true n f.type ((cs.drop f.offset).take (P.cellsOf f.type)))=some ys:=by
    intro l
    induction l with
    | nil=>intro ys h1 _ _ _; obtain rfl:=List.eq_nil_of_length_eq_zero h1; rfl
    | cons f l ihl=>
     intro ys h1 h2 h3 h4
     cases ys with
     | nil=>simp at h1
     | cons y ys=>
      rw [List.mapM_cons]
      simp only [bind,Option.bind_eq_some_iff,pure,Option.some.injEq]
      exact ⟨y,ih _ _ y (h2 f (by simp)) (by simpa using h4 0 f rfl) (h3 y (by simp)),ys,ihl ys (by simpa using h1) (fun g hg=>h2 g (by simp [hg])) (fun z hz=>h3 z (by simp [hz])) (fun i g hg=>by simpa using h4 (i+1) g (by simpa using hg)),rfl⟩
   refine key fs.toList xs (by simpa using hlen) hSf (fun y hy p hp=>hx p (by simp only [List.mem_flatMap]; exact ⟨y,hy,hp⟩)) fun i f hi=>hf i f (by simpa using hi)
theorem M1n {f:Func}{s:ChangeSpec}{apart fresh handsOn again:Bool}{args:Array Value}{v:Value}{ds gs:List (DataW H)}{before pa pv:List MemPlace}
  (hW:DataW.Whole enc P f.params.toList s.vars apart W args.toList ds gs before)
  (hres:∀ (b:Nat) (sp:Nat→Bool) (hd:Bool),DataW.TrodAll enc P W' b sp hd f.resultTypes.toList (v.resultList f.resultTypes.size) (s.fn H (ds++gs)).results [])
  (hargs:∀ sp:Nat→Bool,(∀ p∈before,sp p.block=true)→DataW.TrodAll enc P W' 0 sp true f.params.toList args.toList (s.fn H (ds++gs)).args pa)
  (hvars:∀ sp:Nat→Bool,(∀ p∈before,sp p.block=true)→DataW.TrodVars enc P W' sp s.vars (s.fn H (ds++gs)).vars pv)
  (hps:before=pa++pv) (hk:W.keptBut W' (·∈before)) (hfz:∀ a:Addr,a.block < W.heap.size→W'.frozen? a=W.frozen? a)
  (hok:∀ (j:Nat) (t:TypeId) (r:Value),f.resultTypes[j]?=some t→(v.resultList f.resultTypes.size)[j]?=some r→Value.okWide P W' .any 0 t r) :
  s.post enc P f apart fresh handsOn again W args v W':=by
 have hlt:=hW.lt
 have hold:∀ p∈before,(fun b=>decide (b < W.heap.size)) p.block=true:=fun p hp=>by simpa using hW.lt p hp
 refine ⟨ds,gs,before,[],pa,pv,hW,hres _ _ _,hargs _ hold,hvars _ hold,World.keptBut_mono (fun p hp=>⟨hp,?_⟩) hk,fun _=>?_⟩
 ·rw [hps,List.mem_append] at hp
  exact Or.inr hp
 ·obtain ⟨_,_,_,_,_,hz,hn⟩:=hW
  refine ⟨hok,_,_,([]++pa)++pv,⟨[]++pa,pv,trodAll_append (hargs _ (fun _ _=>rfl)) (hres _ _ _),hvars _ (fun _ _=>rfl),rfl,?_,?_⟩,?_⟩
  ·intro b off hp
   have hp':MemPlace.cell b off∈before:=by rw [hps]; simpa using hp
   rw [hfz _ (hlt _ hp')]
   exact hz b off hp'
  ·intro ha
   have:=hn ha
   rw [hps] at this
   simpa using this
  ·intro p hp _
   rw [hps]
   simpa using hp
theorem H1l {may:MemPlace→Prop}(hb:∀ b,b < W.heap.size→W'.heap[b]?=W.heap[b]?)(ho:W'.os=W.os)(hout:W'.output=W.output):W.keptBut W' may:=by
 refine ⟨ho,hout,fun i hi=>?_⟩
 rw [hb i hi]
 cases h:W.heap[i]? with
 | none=>rfl
 | some o=>cases o <;> simp
theorem N1n {a:Addr}(hb:W'.heap[a.block]?=W.heap[a.block]?):W'.frozen? a=W.frozen? a:=by
 unfold World.frozen?
 rw [hb]
theorem X13 (hS:Q1e P S)(hb:∀ b,b < W.heap.size→W'.heap[b]?=W.heap[b]?){sp:Nat→Bool}:∀ {ts:List TypeId} {vs:List Value} {ds:List (DataW H)} {ps:List MemPlace},(∀ t∈ts,S t)→DataW.TrodAll enc P W 0 (fun _=>true) true ts vs ds ps→
  (∀ p∈ps,sp p.block=true)→DataW.TrodAll enc P W' 0 sp true ts vs ds ps
 | [],[],[],_,_,h,_=>h
 | t::ts,v::vs,d::ds,ps,hSt,⟨p,q,⟨n,h1⟩,h2,e⟩,hp=>by
  subst e
  exact ⟨p,q,⟨n,L1n hS hb n t _ _ (hSt t (by simp)) h1 (fun x hx=>hp x (by simp [hx]))⟩,X13 hS hb (fun t ht=>hSt t (by simp [ht])) h2 (fun x hx=>hp x (by simp [hx])),rfl⟩
theorem S1s {C:Cx}(hP:C.P=P){f:FuncId}{fn:Func}{s:ChangeSpec}{args:Array Value}{ds gs:List (DataW H)}{before:List MemPlace}{xs:List A}{b:TypeId}
  (hc:L0 C f xs [] (fun r H'=>H'=[]∧r = .d (.bool true))) (hlen:xs.length=args.size) (hargs:∀ (i:Nat) x v,xs[i]?=some x→args[i]?=some v→W0 (Yc W) (fun _=>.tuple #[]) x v) (hgl:Cw C (Yc W) W)
  (hW:DataW.Whole enc P fn.params.toList s.vars false W args.toList ds gs before) (hv:s.vars=[]) (hb:fn.resultTypes = #[b]) (hbt:P.underlying b=some .bool)
  (hsf:s.fn H ds={ results:=[.lit (.bool true)],args:=ds }) (hS:Q1e P S) (hSt:∀ t∈fn.params.toList,S t) :
  Calls P f args W fun e W'=>∃ v,e = .returned v∧s.post enc P fn false true false false W args v W':=by
 subst hP
 have hgs:gs=[]:=by
  obtain ⟨p,q,_,h2,_⟩:=hW
  rw [hv] at h2
  cases gs with
  | nil=>rfl
  | cons g gs=>cases h2
 subst hgs
 have hH:Mb (Yc W) (fun _=>.tuple #[]) W []:=Mb.nil _ _
 refine (hc.2 (Yc W) (fun _=>.tuple #[]) W args (G1l W) hgl hH hlen hargs).mono fun e W' he=>?_
 obtain ⟨v,r,H',M',G',rfl,⟨rfl,rfl⟩,hr,_,_,hext,_⟩:=he
 cases hr
 rename_i hr
 cases hr
 refine ⟨_,rfl,?_⟩
 have hblk:∀ k,k < W.heap.size→W'.heap[k]?=W.heap[k]?:=fun k hk=>hext.block k hk (fun ⟨o,x,h1,_⟩=>by simp at h1)
 have hW':=hW
 obtain ⟨p,q,hA,hV,hpq,hz,hn⟩:=hW'
 rw [hv] at hV
 have hq:q=[]:=hV
 subst hq
 refine M1n hW (pa:=p) (pv:=[]) ?_ ?_ ?_ hpq (H1l hblk hext.os hext.output) (fun a ha=>N1n (hblk _ ha)) ?_
 ·intro b' sp hd
  rw [List.append_nil,hsf,hb]
  exact trodAll_mk1 ⟨1,by unfold DataW.trod; rw [hbt]; rfl⟩
 ·intro sp hsp
  rw [List.append_nil,hsf]
  exact X13 hS hblk hSt hA (fun x hx=>hsp x (by rw [hpq]; simp [hx]))
 ·intro sp hsp
  rw [hv,List.append_nil,hsf]
  rfl
 ·intro j t r h1 h2
  rw [hb] at h1 h2
  cases j with
  | succ j=>simp at h1
  | zero=>
   simp at h1 h2
   subst h1
   have:r = .bool true:=by simpa [Value.resultList] using h2.symm
   subst this
   exact Go.RowKit.okWide_bool_mk hbt _
theorem P1f {t:TypeId}{v:Value}{base:Nat}{x:D}(hv:Value.okWide P W .any base t v)(ht:P.underlying t=some .bool∨(∃ k,P.underlying t=some (.int k))∨P.underlying t=some .string∨(∃ e,P.underlying t=some (.slice e)))(h:Ux (Yc W) [x] v.cells.toList) :
  W0 (Yc W) (fun _=>.tuple #[]) (.d x) v:=by
 have hc:v.cells = #[v]:=by
  unfold Value.okWide at hv
  rcases ht with ht | ⟨k,ht⟩ | ht | ⟨e,ht⟩ <;> rw [ht] at hv <;> simp only [Cell.okWide,ht,Cell.ok] at hv <;> cases v <;> first | rfl | (exact hv.elim)
 rw [hc] at h
 exact .d (h.2 0 x v rfl rfl)
theorem I1u {t:TypeId}{v:Value}{base:Nat}{xs:List D}{fs:Array Field}(hv:Value.okWide P W .any base t v)(ht:P.underlying t=some (.struct fs))(h:Ux (Yc W) xs v.cells.toList):W0 (Yc W) (fun _=>.tuple #[]) (.agg (xs.map .d)) v:=by
 unfold Value.okWide at hv
 rw [ht] at hv
 obtain ⟨cs,rfl,_⟩:=hv
 obtain ⟨h1,h2⟩:=h
 have e:(Value.agg cs).cells=cs:=rfl
 rw [e] at h1 h2
 refine .agg (by simpa using h1) (fun i v hv=>?_) fun i x v hx hv=>?_
 ·have hlt:i < xs.length:=by rw [h1]; simpa using (Array.getElem?_eq_some_iff.1 hv).1
  exact (h2 i _ v (List.getElem?_eq_getElem hlt) (by simpa using hv)).one
 ·rw [List.getElem?_map] at hx
  cases hy:xs[i]? with
  | none=>rw [hy] at hx; cases hx
  | some y=>rw [hy] at hx; cases hx; exact .d (h2 i y v hy (by simpa using hv))
end
end Go.Am

namespace Go.Am
end Go.Am

namespace Go.Am
end Go.Am

namespace Go.Am
end Go.Am

namespace Go.Am
theorem okC {C:Cx}[h:Nonempty (T1 C)]:T1 C:=h.elim id
section
variable {C:Cx}{N K:Nat}{L l:List Oper}{o:Oper}{env:Env}{H:P0}
theorem n' {Q:Env→P0→Prop}(h:Q env H):E0 ⟨C,N,K⟩ L [] env H Q:=E0.nil h
theorem Qn' {Q:Env→Prop}(h:Q env):AQ C L [] env H Q:=h
theorem an' {cnd:Cnd}{R:Env→Cnd→Prop}(h:R env cnd):AG C L [] env cnd H R:=h
end
section
variable {C:Cx}[Nonempty (T1 C)]{N K:Nat}{L l:List Oper}{o:Oper}{env:Env}{H:P0}
theorem q' {Q:Env→P0→Prop}{d:Option Nat}{x:A}(h:Td C L o env H=some (d,True,x))(k:E0 ⟨C,N,K⟩ L l (put env d x) H Q):E0 ⟨C,N,K⟩ L (o::l) env H Q:=E0.q okC h trivial k
theorem qc' {Q:Env→P0→Prop}{d:Option Nat}{c:Prop}{x:A}(h:Td C L o env H=some (d,c,x))(hc:c)(k:E0 ⟨C,N,K⟩ L l (put env d x) H Q):E0 ⟨C,N,K⟩ L (o::l) env H Q:=E0.q okC h hc k
theorem qe' {Q:Env→P0→Prop}{d:Option Nat}{c:Prop}{x y:A}(h:Td C L o env H=some (d,c,x))(hc:c)(e:x=y)(k:E0 ⟨C,N,K⟩ L l (put env d y) H Q):E0 ⟨C,N,K⟩ L (o::l) env H Q:=E0.qe okC h hc e k
theorem i' {Q:Env→P0→Prop}{d:Option Nat}{rows:List (List D)}{n:Int}{sz:Nat}(h:Mv C L o env=some (d,rows,n,sz)){k:Nat}{r:List D}(hn:n=k)(hk:rows[k]?=some r)(hsz:Nat.beq r.length sz=true)
  (kk:E0 ⟨C,N,K⟩ L l (put env d (.ptr r)) H Q):E0 ⟨C,N,K⟩ L (o::l) env H Q:=E0.i okC h hn hk hsz kk
theorem x' {Q:Env→P0→Prop}{d:Option Nat}{s:List UInt8}{n:Int}(h:Lz C L o env=some (d,s,n)){k:Nat}{b:UInt8}(hn:n=k)(hk:s[k]?=some b)(kk:E0 ⟨C,N,K⟩ L l (put env d (.d (.int .u8 b.toNat))) H Q):E0 ⟨C,N,K⟩ L (o::l) env H Q:=E0.x okC h hn hk kk
theorem Q' {Q:Env→Prop}{d:Option Nat}{x:A}(h:Td C L o env H=some (d,True,x))(k:AQ C L l (put env d x) H Q):AQ C L (o::l) env H Q:=AQ.q okC h trivial k
variable {cnd:Cnd}{R:Env→Cnd→Prop}
theorem a0' {d:Option Nat}{W:Option Bool}{x:A}(h:Jq C L o env cnd H=some (d,W,True,True,x))(k:AG C L l (put env d x) (Dg cnd d W) H R):AG C L (o::l) env cnd H R:=AG.q okC h (fun _=>⟨trivial,trivial⟩) k
theorem a1' {d:Option Nat}{w:Bool}{x:A}(h:Jq C L o env cnd H=some (d,some w,(w=true∧True),True,x))(k:AG C L l (put env d x) (Dg cnd d (some w)) H R):AG C L (o::l) env cnd H R:=AG.q okC h (fun h=>⟨⟨h,trivial⟩,trivial⟩) k
theorem a2' {d:Option Nat}{w:Bool}{x:A}(h:Jq C L o env cnd H=some (d,some w,(w=true∧w=true∧True),True,x))(k:AG C L l (put env d x) (Dg cnd d (some w)) H R):AG C L (o::l) env cnd H R:=AG.q okC h (fun h=>⟨⟨h,h,trivial⟩,trivial⟩) k
theorem ag' {d:Option Nat}{W:Option Bool}{S c:Prop}{x:A}(h:Jq C L o env cnd H=some (d,W,S,c,x))(hs:holds W→S∧c)(k:AG C L l (put env d x) (Dg cnd d W) H R):AG C L (o::l) env cnd H R:=AG.q okC h hs k
theorem pa' {d:Option Nat}{t xa xb:Bool}(h:Sx C L o env cnd=some ⟨d,none,True,t,(wb t true=true∧True),True,xa,xb⟩)(k:AG C L l (put env d (.d (.bool (bif t then xa else xb)))) (Dg cnd d none) H R):AG C L (o::l) env cnd H R:=
 AG.p okC h (fun _=>⟨trivial,fun h=>⟨Z1v h,trivial⟩,fun _=>trivial⟩) k
theorem po' {d:Option Nat}{t xa xb:Bool}(h:Sx C L o env cnd=some ⟨d,none,True,t,True,(wb t false=true∧True),xa,xb⟩)(k:AG C L l (put env d (.d (.bool (bif t then xa else xb)))) (Dg cnd d none) H R):AG C L (o::l) env cnd H R:=
 AG.p okC h (fun _=>⟨trivial,fun _=>trivial,fun h=>⟨Y1v h,trivial⟩⟩) k
theorem pA' {d:Option Nat}{w t xa xb:Bool}(h:Sx C L o env cnd=some ⟨d,some w,(w=true∧True),t,((w&&wb t true)=true∧True),True,xa,xb⟩)(k:AG C L l (put env d (.d (.bool (bif t then xa else xb)))) (Dg cnd d (some w)) H R):AG C L (o::l) env cnd H R:=
 AG.p okC h (fun hg=>⟨⟨hg,trivial⟩,fun h=>⟨M1v hg h,trivial⟩,fun _=>trivial⟩) k
theorem pO' {d:Option Nat}{w t xa xb:Bool}(h:Sx C L o env cnd=some ⟨d,some w,(w=true∧True),t,True,((w&&wb t false)=true∧True),xa,xb⟩)(k:AG C L l (put env d (.d (.bool (bif t then xa else xb)))) (Dg cnd d (some w)) H R):AG C L (o::l) env cnd H R:=
 AG.p okC h (fun hg=>⟨⟨hg,trivial⟩,fun _=>trivial,fun h=>⟨L1v hg h,trivial⟩⟩) k
end
section
variable {F:Fx}{env:Env}{H:P0}{Q:Po}
theorem s' {id:Nat}{L:List Oper}{b:Code}(hg:Em L=true)(hd:L.all (Xc F.N)=true)(h:E0 F L L env H (Ul (Then F b Q))):AEx F (.seq (.region id L.toArray false) b) env H Q:=.seq (.regionN hg hd h)
theorem sg' {id:Nat}{L:List Oper}{b:Code}(n:Nat)(hd:L.all (Xc F.N)=true)(h:AG F.C L (L.take n) env F1l H (fun e c=>E0 F L (L.drop n) (L1f e c) H (Ul (Then F b Q)))):AEx F (.seq (.region id L.toArray false) b) env H Q:=.seq (.regionG n hd h)
theorem S' {a b:Code}(h:AEx F a env H (Then F b Q)):AEx F (.seq a b) env H Q:=.seq h
theorem R' {id:Nat}{L:List Oper}(hg:Em L=true)(hd:L.all (Xc F.N)=true)(h:E0 F L L env H (Ul Q)):AEx F (.region id L.toArray false) env H Q:=.regionN hg hd h
theorem sk' (h:Q .normal env H):AEx F .skip env H Q:=.skip h
theorem bk' {id:Nat}{c:Code}(h:AEx F c env H (E16 id Q)):AEx F (.block id c) env H Q:=.block h
theorem re' (h:Q .ret env H):AEx F .ret env H Q:=.ret h
theorem ex' {id:Nat}(h:Q (.exit id) env H):AEx F (.exit id) env H Q:=.exit h
theorem ci' {c:Operand}{x y:Code}{t:Bool}{α:Type}{A' B':Option α}{r:α}(hc:ev F.C.GL env c = .d (.bool t))(hh:(if t=true then A' else B')=some r)(h1:A'=some r→AEx F x env H Q)(h2:B'=some r→AEx F y env H Q):AEx F (.cond c x y) env H Q:=
 .cond hc (fun hb=>h1 (I1 hb hh)) (fun hb=>h2 (B1w hb hh))
end
def A18 (env:Env):List (Nat×A)→List A
 | []=>[]
 | p::r=>env p.1::A18 env r
def A1:List (Nat×A)→List A
 | []=>[]
 | p::r=>p.2::A1 r
def tkH:P0→P0→P0
 | [],_=>[]
 | _::r,x::H=>x::tkH r H
 | _::_,[]=>[]
def Kt (H:P0):List Nat→List (Option Ob)
 | []=>[]
 | p::r=>nth H p::Kt H r
def Y13 (f:Nat→Nat):P0→List (Option Ob)
 | []=>[]
 | x::r=>some (Kp f x)::Y13 f r
theorem J1u {k:Nat}{env:Env}:∀ {L:List (Nat×A)},A18 env L=A1 L→E2 k (A1 L)=true→WkE k env L
 | [],_,_=>trivial
 | (t,x)::r,h,hn=>by
  simp only [A18,A1,List.cons.injEq] at h
  simp only [A1,E2,Bool.and_eq_true] at hn
  exact ⟨⟨by rw [h.1]; exact .rfl,hn.1⟩,J1u h.2 hn.2⟩
theorem I1l {k:Nat}:∀ {H H2:P0},tkH H2 H=H2→H2.all (Z1k k)=true→WkH k H H2
 | [],[],_,_=>trivial
 | _::_,[],_,_=>trivial
 | [],y::r,h,_=>by simp [tkH] at h
 | x::H,y::r,h,hn=>by
  simp only [tkH,List.cons.injEq] at h
  simp only [List.all_cons,Bool.and_eq_true] at hn
  obtain ⟨rfl,h⟩:=h
  exact ⟨WkO.same hn.1,I1l h hn.2⟩
def okB (K:Nat)(xs:List A)(H:P0):Bool:=E2 H.length xs&&H.all (Z1k H.length)&&Nat.ble K H.length
theorem wk' {K:Nat}{env:Env}{H:P0}{L:List (Nat×A)}{H2:P0}(h1:A18 env L=A1 L)(h2:tkH H2 H=H2)(h3:okB K (A1 L) H2=true):Wk K env H L H2:=by
 simp only [okB,Bool.and_eq_true] at h3
 exact ⟨J1u h1 h3.1.1,I1l h2 h3.1.2,h3.2⟩
theorem lw' {F:Fx}{c:Code}{env:Env}{H:P0}{Q:Po}{L:List (Nat×A)}{H2:P0}(k:X0 F c (Tl L) H2 Q)(h1:A18 env L=A1 L)(h2:tkH H2 H=H2)(h3:okB F.K (A1 L) H2=true):X0 F c env H Q:=.wk (wk' h1 h2 h3) k
theorem ew' {F:Fx}{c:Code}{env:Env}{H:P0}{Q:Po}{L:List (Nat×A)}{H2:P0}(k:AEx F c (Tl L) H2 Q)(h1:A18 env L=A1 L)(h2:tkH H2 H=H2)(h3:okB F.K (A1 L) H2=true):AEx F c env H Q:=.wk (wk' h1 h2 h3) k
theorem fw' {F:Fx}{c:Code}{env:Env}{H:P0}{Q:Po}{L:List (Nat×A)}{H2:P0}(k:X0 F c (Tl L) H2 Q)(h1:A18 env L=A1 L)(h2:tkH H2 H=H2)(h3:okB F.K (A1 L) H2=true):AEx F (.loop c) env H Q:=.ofLoop (.wk (wk' h1 h2 h3) k)
abbrev Ret (H0:P0)(a:A):A→P0→Prop:=fun x H'=>H'=H0∧x=a
theorem rt' {F:Fx}{rs:List ResultVar}{x:A}{env:Env}{H H':P0}(h1:O1b F.C.T rs env H=some x)(h2:tkH H' H=H')(h3:okB F.K [x] H'=true):F1f F rs (Ret H' x) .ret env H:=by
 simp only [okB,E2,Bool.and_eq_true,Bool.and_true] at h3
 exact ⟨x,x,H',h1,.rfl,I1l h2 h3.1.2,h3.1.1,h3.2,rfl,rfl⟩
theorem rn' {F:Fx}{rs:List ResultVar}{x:A}{env:Env}{H H':P0}(h1:O1b F.C.T rs env H=some x)(h2:tkH H' H=H')(h3:okB F.K [x] H'=true):F1f F rs (Ret H' x) .normal env H:=by
 simp only [okB,E2,Bool.and_eq_true,Bool.and_true] at h3
 exact ⟨x,x,H',h1,.rfl,I1l h2 h3.1.2,h3.1.1,h3.2,rfl,rfl⟩
theorem L1j {f:Nat→Nat}{H:P0}:∀ {idx:List Nat} {cH:P0},Kt H idx=Y13 f cH→Gt f H idx cH
 | [],[],_=>trivial
 | p::ps,y::ys,h=>by
  simp only [Kt,Y13,List.cons.injEq] at h
  exact ⟨h.1,L1j h.2⟩
 | [],_::_,h=>by simp [Kt,Y13] at h
 | _::_,[],h=>by simp [Kt,Y13] at h
theorem C1w {xs ys:List A}(h:xs=ys):LeL xs ys:=by subst h; exact .refl _
theorem g' {F:Fx}{L l:List Oper}{o:Oper}{env:Env}{H H':P0}{Q:Env→P0→Prop}{d:Option Nat}{g:FuncId}{xs:List A}{x y:A}(idx:List Nat){cargs:List A}{cH cH':P0}
  (hc:L0 F.C g cargs cH (Ret cH' x)) (h:Mf F.C L o env=some (d,g,xs)) (hx:Xi (Jd idx H.length) cargs=xs) (hi:I16 idx H.length=true) (hm:Kt H idx=Y13 (Jd idx H.length) cH)
  (hr:frc (ren (Jd idx H.length) x)=some y) (hH:Re (Pf H idx (Jd idx H.length) (D8 idx cH) cH')=some H') (k:E0 F L l (put (fun t=>dg (D8 idx cH) (env t)) d y) H' Q):E0 F L (o::l) env H Q:=
 .g idx h hc (C1w hx) hi (L1j hm) hr hH k
theorem c' {F:Fx}{L l:List Oper}{o:Oper}{env:Env}{H:P0}{Q:Env→P0→Prop}{d:Option Nat}{f:FuncId}{xs:List A}{x:A}(hc:L0 F.C f xs [] (Ret [] x))(h:Mf F.C L o env=some (d,f,xs))(hn:E2 0 xs=true)
  (k:E0 F L l (put env d x) H Q):E0 F L (o::l) env H Q:=.c h hn hc k
theorem Qc' {C:Cx}{L l:List Oper}{o:Oper}{env:Env}{H:P0}{Q:Env→Prop}{d:Option Nat}{f:FuncId}{xs:List A}{x:A}(hc:L0 C f xs [] (Ret [] x))(h:Mf C L o env=some (d,f,xs))(hn:E2 0 xs=true)
  (k:AQ C L l (put env d x) H Q):AQ C L (o::l) env H Q:=.c h hn hc k
theorem bs' {α β:Type}{x:Option α}{f:α→Option β}{r:β}(h:(x>>=f)=some r):∃ a,x=some a∧f a=some r:=bind_some h
theorem oi' {α:Type}{a b:α}(h:some a=some b):a=b:=Option.some.inj h
def Zh:Nat→List Prop
 | 0=>[]
 | k+1=>True::Zh k
def Cn (C:Cx)(L:List Oper)(H:P0):Nat→List Oper→Env→Option (List Oper×Env×List Prop)
 | 0,l,env=>some (l,env,[])
 | _+1,[],_=>none
 | k+1,o::l,env=>match Td C L o env H with
  | some (d,c,x)=>match Cn C L H k l (put env d x) with
   | some (l',e',cs)=>some (l',e',c::cs)
   | none=>none
  | none=>none
theorem I1d {C:Cx}{L:List Oper}{H:P0}{k:Nat}{o:Oper}{l l':List Oper}{env env':Env}(h:Cn C L H (k+1) (o::l) env=some (l',env',Zh (k+1))) :
  ∃ d x,Td C L o env H=some (d,True,x)∧Cn C L H k l (put env d x)=some (l',env',Zh k):=by
 rw [Cn] at h
 split at h
 ·rename_i d c x hs
  split at h
  ·rename_i l2 e2 cs hr
   simp only [Option.some.injEq,Prod.mk.injEq,Zh,List.cons.injEq] at h
   obtain ⟨rfl,rfl,hc,rfl⟩:=h
   subst hc
   exact ⟨d,x,hs,hr⟩
  ·cases h
 ·cases h
theorem Q1f {C:Cx}{L:List Oper}{H:P0}{k:Nat}{l':List Oper}{env:Env}{r:Env×List Prop}(h:Cn C L H (k+1) [] env=some (l',r)):False:=by rw [Cn] at h; cases h
def S1b (C:Cx)(N:Nat)(L:List Oper)(H:P0)(k:Nat)(env:Env):Option (List Oper×Env×List Prop):=bif Em L&&L.all (Xc N) then Cn C L H k L env else none
theorem N16 {C:Cx}{N:Nat}{L:List Oper}{H:P0}{env:Env}{k:Nat}{r:List Oper×Env×List Prop}(h:S1b C N L H k env=some r):Em L=true∧L.all (Xc N)=true∧Cn C L H k L env=some r:=by
 unfold S1b at h
 cases hb:Em L&&L.all (Xc N) with
 | false=>rw [hb] at h; cases h
 | true=>rw [hb] at h; simp only [Bool.and_eq_true] at hb; exact ⟨hb.1,hb.2,h⟩
section
variable {C:Cx}[Nonempty (T1 C)]{N K:Nat}{L l l':List Oper}{env env':Env}{H:P0}
theorem o' (k:Nat){Q:Env→P0→Prop}(h:Cn C L H k l env=some (l',env',Zh k))(n:E0 ⟨C,N,K⟩ L l' env' H Q):E0 ⟨C,N,K⟩ L l env H Q:=by
 induction k generalizing l env with
 | zero=>rw [Cn] at h; cases h; exact n
 | succ k ih=>cases l with
  | nil=>exact (Q1f h).elim
  | cons o l=>
   obtain ⟨d,x,hs,hr⟩:=I1d h
   exact q' hs (ih hr)
theorem O' (k:Nat){Q:Env→Prop}(h:Cn C L H k l env=some (l',env',Zh k))(n:AQ C L l' env' H Q):AQ C L l env H Q:=by
 induction k generalizing l env with
 | zero=>rw [Cn] at h; cases h; exact n
 | succ k ih=>cases l with
  | nil=>exact (Q1f h).elim
  | cons o l=>
   obtain ⟨d,x,hs,hr⟩:=I1d h
   exact Q' hs (ih hr)
theorem e' {Q:Env→P0→Prop}(h:Cn C L H l.length l env=some ([],env',Zh l.length))(n:Q env' H):E0 ⟨C,N,K⟩ L l env H Q:=o' _ h (n' n)
theorem E' {Q:Env→Prop}(h:Cn C L H l.length l env=some ([],env',Zh l.length))(n:Q env'):AQ C L l env H Q:=O' _ h (Qn' n)
theorem p' (k:Nat){id:Nat}{b:Code}{Q:Po}(h:S1b C N L H k env=some (l',env',Zh k))(n:E0 ⟨C,N,K⟩ L l' env' H (Ul (Then ⟨C,N,K⟩ b Q))):AEx ⟨C,N,K⟩ (.seq (.region id L.toArray false) b) env H Q:=by
 obtain ⟨h1,h2,h3⟩:=N16 h
 exact s' h1 h2 (o' k h3 n)
theorem t' {id:Nat}{b:Code}{Q:Po}(h:S1b C N L H L.length env=some ([],env',Zh L.length))(n:AEx ⟨C,N,K⟩ b env' H Q):AEx ⟨C,N,K⟩ (.seq (.region id L.toArray false) b) env H Q:=by
 obtain ⟨h1,h2,h3⟩:=N16 h
 exact s' h1 h2 (e' h3 n)
theorem P' (k:Nat){id:Nat}{Q:Po}(h:S1b C N L H k env=some (l',env',Zh k))(n:E0 ⟨C,N,K⟩ L l' env' H (Ul Q)):AEx ⟨C,N,K⟩ (.region id L.toArray false) env H Q:=by
 obtain ⟨h1,h2,h3⟩:=N16 h
 exact R' h1 h2 (o' k h3 n)
theorem T' {id:Nat}{Q:Po}(h:S1b C N L H L.length env=some ([],env',Zh L.length))(n:Q .normal env' H):AEx ⟨C,N,K⟩ (.region id L.toArray false) env H Q:=by
 obtain ⟨h1,h2,h3⟩:=N16 h
 exact R' h1 h2 (e' h3 n)
def R1f (C:Cx)(L:List Oper)(H:P0):Nat→List Oper→Env→Cnd→Option (List Oper×Env×Cnd×List Prop×List Prop)
 | 0,l,env,cnd=>some (l,env,cnd,[],[])
 | _+1,[],_,_=>none
 | k+1,o::l,env,cnd=>match Jq C L o env cnd H with
  | some (d,W,S,c,x)=>match R1f C L H k l (put env d x) (Dg cnd d W) with
   | some (l',e',n',ss,cs)=>some (l',e',n',S::ss,c::cs)
   | none=>none
  | none=>none
theorem G' (k:Nat){cnd cnd':Cnd}{R:Env→Cnd→Prop}(h:R1f C L H k l env cnd=some (l',env',cnd',Zh k,Zh k))(n:AG C L l' env' cnd' H R):AG C L l env cnd H R:=by
 induction k generalizing l env cnd with
 | zero=>rw [R1f] at h; cases h; exact n
 | succ k ih=>cases l with
  | nil=>rw [R1f] at h; cases h
  | cons o l=>
   rw [R1f] at h
   split at h
   ·rename_i d W S c x hs
    split at h
    ·rename_i l2 e2 n2 ss cs hr
     simp only [Option.some.injEq,Prod.mk.injEq,Zh,List.cons.injEq] at h
     obtain ⟨rfl,rfl,rfl,⟨hS,rfl⟩,hc,rfl⟩:=h
     subst hS; subst hc
     exact a0' hs (ih hr)
    ·cases h
   ·cases h
end
def sub (i:Nat)(c:Code):Code:=match i with
 | 0=>sl c
 | 1=>sr c
 | 2=>ca c
 | 3=>cb c
 | 4=>bk c
 | _=>lo c
def kon (F:Fx)(i:Nat)(c:Code)(Q:Po):Po:=match i with
 | 0=>Then F (sr c) Q
 | 4=>match c with
  | .block id _=>E16 id Q
  | _=>Q
 | 5=>B1s F (lo c) Q
 | _=>Q
def pc:Code→List Nat→Code
 | c,[]=>c
 | c,i::p=>pc (sub i c) p
def pk (F:Fx):Code→List Nat→Po→Po
 | _,[],Q=>Q
 | c,i::p,Q=>pk F (sub i c) p (kon F i c Q)
abbrev LM (C:Cx)(n K:Nat)(f:Func)(p:List Nat)(E:List (Nat×A))(H:P0)(R:A→P0→Prop):Prop:=
 X0 (Fx.mk C n K) (lo (pc (F1a f) p)) (Tl E) H (pk (Fx.mk C n K) (F1a f) p (F1f (Fx.mk C n K) f.results.toList R))
abbrev JM (C:Cx)(n K:Nat)(f:Func)(p:List Nat)(E:List (Nat×A))(H:P0)(R:A→P0→Prop):Prop:=
 AEx (Fx.mk C n K) (pc (F1a f) p) (Tl E) H (pk (Fx.mk C n K) (F1a f) p (F1f (Fx.mk C n K) f.results.toList R))
end Go.Am

namespace Go.Am
open Go.ChangeShapes Go.WideShapes
section
variable {P:Program}{W:World}
theorem Z13:∀ {laid:List (String×DataW Unit)} {ps:List MemPlace},DataW.LaidVars P W laid ps→∀ (i:Nat) n d,laid[i]?=some (n,d)→
  ∃ g t cs fuel p,P.globalNamed n=some g∧(P.globals[g]?).map (·.type)=some t∧W.var? P n=some cs∧DataW.trod (fun _=>()) P W 0 (fun _=>true) false fuel t cs.toList=some (d,p)
 | [],_,_,i,n,d,hi=>by simp at hi
 | (m,e)::r,ps,h,i,n,d,hi=>by
  obtain ⟨g,t,cs,fuel,p,q,h1,h2,h3,h4,h5,_⟩:=h
  cases i with
  | zero=>cases hi; exact ⟨g,t,cs,fuel,p,h1,h2,h3,h4⟩
  | succ i=>exact Z13 h5 i n d (by simpa using hi)
theorem O1n {name:String}{g:Nat}{cs:Array Value}(hg:P.globalNamed name=some g)(h:W.var? P name=some cs){i:Nat}{v:Value}(hi:cs[i]?=some v):Yc W ⟨g,i,none⟩=some v:=by
 have:=World.var?_cell hg h i
 unfold Yc
 rw [if_pos rfl,this,hi]
theorem K1i {laid:List (String×DataW Unit)}(h:laidMet P laid W)(i:Nat){name:String}{k:IntKind}{zs:List Int}(hi:laid[i]?=some (name,Lib.tabData k zs)){g:Nat}{t e:TypeId}{n:Nat}
  (hg:P.globalNamed name=some g) (hty:(P.globals[g]?).map (·.type)=some t) (ht:P.underlying t=some (.array n e)) (he:P.underlying e=some (.int k)) (hce:P.cellsOf e=1) (hct:P.cellsOf t=n) :
  Lib.TabIs P W name k zs∧∀ (j:Nat) z,zs[j]?=some z→Yc W ⟨g,j,none⟩=some (.int k z):=by
 obtain ⟨ps,hv,_⟩:=h
 obtain ⟨g',t',cs,fuel,p,h1,h2,h3,h4⟩:=Z13 hv i _ _ hi
 obtain rfl:=Option.some.inj (hg.symm.trans h1)
 obtain rfl:=Option.some.inj (hty.symm.trans h2)
 have hc:=Lib.cells_of_tab ht he hce hct h4
 have hT:Lib.TabIs P W name k zs:=by unfold Lib.TabIs; rw [h3,← hc]
 exact ⟨hT,fun j z hz=>O1n hg h3 (by rw [← Array.getElem?_toList,hc,List.getElem?_map,hz]; rfl)⟩
theorem J1l {M:Mem}{w w':World}{name:String}{k:IntKind}{zs:List Int}{g:Nat}(hg:P.globalNamed name=some g)(h0:0 < zs.length)(hM:∀ (j:Nat) z,zs[j]?=some z→M ⟨g,j,none⟩=some (.int k z))
  (hb:∀ b,D1f M w b→w'.heap[b]?=w.heap[b]?) (h:Lib.TabIs P w name k zs):Lib.TabIs P w' name k zs:=by
 unfold Lib.TabIs at h ⊢
 simp only [World.var?,hg,Option.bind_some] at h ⊢
 split at h
 ·rename_i cs t f hc
  have hcs:=Option.some.inj h
  rw [hb g ⟨cs,t,f,hc,by rw [hcs]; simpa using h0,fun i hi=>?_⟩,hc]
  ·exact h
  ·rw [hcs] at hi
   have hi':i < zs.length:=by simpa using hi
   rw [hM i zs[i] (List.getElem?_eq_getElem hi')]
   simp
 ·cases h
end
end Go.Am

namespace Go.Am
theorem E0.ghost {F:Fx}{L l:List Oper}{env env':Env}{H H':P0}{Q:Env→P0→Prop}{o:Nat}{x:Ob}(hx:H[o]?=some x)(hlen:H'.length=H.length)
  (hkind:∀ (i:Nat) y,H'[i]?=some y→isTok y=false∨H[i]?=some y)
  (h:∀ M G w,B5 M w→Mb M G w H→∃ M',(∀ a v,M a=some v→M' a=some v)∧B5 M' w∧(∀ a v,M' a=some v→M a=some v∨blk x (G o)=some a.block)∧
   (∀ t v,W0 M G (env t) v→W0 M' G (env' t) v)∧Mb M' G w H'∧(∀ b,own G H' b→own G H b))
  (k:E0 F L l env' H' Q):E0 F L l env H Q:=by
 intro fr M G w a Qw hK hd hs hsi hq
 obtain ⟨M',h1,h2,h3,h4,h5,h6⟩:=h M G w hs.good hs.hrel
 have he:Ext (fun b=>blk x (G o)=some b) M w M' w:=⟨h1,Nat.le_refl _,rfl,rfl,rfl,fun _ _ _=>rfl,fun a v e=>by
  rcases h3 a v e with e1 | e1
  ·exact .inl e1
  ·exact .inr (.inl e1)⟩
 have ho:∀ b,blk x (G o)=some b→own G H b:=fun b hb=>⟨o,x,hx,hb⟩
 refine k fr M' G w a Qw hK hd ⟨h2,hs.gl.ext hs.hrel he ho,h5,fun t=>h4 t _ (hs.env t),hs.size,hs.defers⟩ ?_ hq
 refine ⟨hsi.ext.trans he (fun b hb=>hsi.own b (ho b hb)),fun b hb=>hsi.own b (h6 b hb),by rw [hlen]; exact hsi.len,hsi.keep,fun i y z hy ht hz=>?_⟩
 rcases hkind i z hz with e | e
 ·exact e
 ·exact hsi.kind i y z hy ht e
mutual
def fm (j:Nat)(x:D):A→A
 | .mp i=>bif Nat.beq i j then .d x else .mp i
 | .clo f cs=>.clo f (fmL j x cs)
 | .agg cs=>.agg (fmL j x cs)
 | .tup cs=>.tup (fmL j x cs)
 | .d y=>.d y
 | .junk=>.junk
 | .ref a b=>.ref a b
 | .ptr c=>.ptr c
 | .full r=>.full r
 | .osl a r=>.osl a r
 | .rsl a b c d=>.rsl a b c d
def fmL (j:Nat)(x:D):List A→List A
 | []=>[]
 | y::r=>fm j x y::fmL j x r
end
theorem Wx (j:Nat)(x:D):∀ l,fmL j x l=l.map (fm j x)
 | []=>rfl
 | y::r=>by simp only [fmL,List.map_cons,Wx j x r]
def fzO (φ:A→A):Ob→Ob
 | .row cs e=>.row (cs.map φ) e
 | y=>y
def fzH (φ:A→A)(j:Nat):Nat→P0→P0
 | _,[]=>[]
 | i,y::r=>(bif Nat.beq i j then .dead else fzO φ y)::fzH φ j (i+1) r
theorem O16 {φ:A→A}{j:Nat}:∀ {H:P0} {i n:Nat},(fzH φ j i H)[n]?=(H[n]?).map fun y=>bif Nat.beq (i+n) j then Ob.dead else fzO φ y
 | [],i,n=>by simp [fzH]
 | y::r,i,0=>by simp [fzH]
 | y::r,i,n+1=>by
  simp only [fzH,List.getElem?_cons_succ]
  rw [O16,show i+1+n=i+(n+1) by omega]
theorem T1b {φ:A→A}{j:Nat}:∀ {H:P0} {i:Nat},(fzH φ j i H).length=H.length
 | [],_=>rfl
 | y::r,i=>by simp only [fzH,List.length_cons,T1b]
theorem T1s {φ:A→A}{y:Ob}{g:Value}:blk (fzO φ y) g=blk y g:=by
 cases y with
 | row cs e=>cases g <;> first | rfl | (rename_i p; cases p <;> rfl)
 | _=>rfl
theorem E0.frz {F:Fx}{L l:List Oper}{env:Env}{H H':P0}{Q:Env→P0→Prop}(φ:A→A)(j:Nat){x:Ob}(hj:H[j]?=some x)(hH:Re (fzH φ j 0 H)=some H')
  (h:∀ M G w,B5 M w→Mb M G w H→∃ M',(∀ a v,M a=some v→M' a=some v)∧B5 M' w∧(∀ a v,M' a=some v→M a=some v∨blk x (G j)=some a.block)∧∀ y v,W0 M G y v→W0 M' G (φ y) v)
  (k:E0 F L l (fun t=>φ (env t)) H' Q):E0 F L l env H Q:=by
 obtain rfl:=Ik hH
 refine .ghost hj T1b (fun i y hy=>?_) (fun M G w hg hh=>?_) k
 ·rw [O16] at hy
  cases hi:H[i]? with
  | none=>rw [hi] at hy; cases hy
  | some z=>
   rw [hi] at hy
   simp only [Option.map_some,Option.some.injEq] at hy
   cases hb:Nat.beq (0+i) j with
   | true=>rw [hb] at hy; subst hy; exact .inl rfl
   | false=>
    rw [hb] at hy
    simp only [cond_false] at hy
    subst hy
    cases z with
    | row cs e=>exact .inl rfl
    | _=>exact .inr rfl
 ·obtain ⟨M',hm,hg',hfr,hrel⟩:=h M G w hg hh
  have conv:∀ (n:Nat) z,(fzH φ j 0 H)[n]?=some z→∀ c,blk z (G n)=some c→∃ z',H[n]?=some z'∧blk z' (G n)=some c:=fun n z hz c hc=>by
   rw [O16] at hz
   cases hn:H[n]? with
   | none=>rw [hn] at hz; cases hz
   | some q=>
    rw [hn] at hz
    simp only [Option.map_some,Option.some.injEq] at hz
    subst hz
    cases hb:Nat.beq (0+n) j with
    | true=>rw [hb] at hc; cases hc
    | false=>rw [hb] at hc; simp only [cond_false,T1s] at hc; exact ⟨q,rfl,hc⟩
  refine ⟨M',hm,hg',hfr,fun t v h=>hrel _ _ h,⟨fun i y hy=>?_,fun i i' y y' c hy hy' hb hb'=>?_,fun i hi=>hh.fresh i (by rw [T1b] at hi; exact hi)⟩,fun c hc=>?_⟩
  ·rw [O16] at hy
   cases hi:H[i]? with
   | none=>rw [hi] at hy; cases hy
   | some z=>
    rw [hi] at hy
    simp only [Option.map_some,Option.some.injEq] at hy
    cases hb:Nat.beq (0+i) j with
    | true=>rw [hb] at hy; subst hy; trivial
    | false=>
     rw [hb] at hy
     simp only [cond_false] at hy
     subst hy
     have hne:i≠j:=fun e=>by subst e; simp at hb
     have hz:=hh.obj i z hi
     have hz':Nb M' G w z (G i):=hz.keep hm (fun _ _=>rfl) (fun c hc off sp hn=>by
      cases hM:M' ⟨c,off,sp⟩ with
      | none=>rfl
      | some v=>
       rcases hfr _ _ hM with e | e
       ·rw [hn] at e; cases e
       ·exact absurd (hh.apart i j _ _ c hi hj hc e) hne)
     cases z with
     | row cs e=>
      obtain ⟨b',vs,h1,h2,h3,h4,h5,h6⟩:=hz'
      obtain ⟨b2,vs2,k1,k2,k3,k4,k5,k6⟩:=hz
      rw [h1] at k1
      simp at k1
      subst k1
      rw [h2] at k2
      simp at k2
      subst k2
      refine ⟨b',vs,h1,h2,by simpa using h3,h4,fun n x v hx hv=>?_,h6⟩
      rw [List.getElem?_map] at hx
      cases hc:cs[n]? with
      | none=>rw [hc] at hx; cases hx
      | some q=>rw [hc] at hx; simp at hx; subst hx; exact hrel _ _ (k5 n q v hc hv)
     | _=>exact hz'
  ·obtain ⟨z,hz,hzb⟩:=conv i y hy c hb
   obtain ⟨z',hz',hzb'⟩:=conv i' y' hy' c hb'
   exact hh.apart i i' z z' c hz hz' hzb hzb'
  ·obtain ⟨n,z,hz,hc⟩:=hc
   obtain ⟨z',h1,h2⟩:=conv n z hz c hc
   exact ⟨n,z',h1,h2⟩
theorem K1u {M M':Mem}{G:Nat→Value}{j:Nat}{x:D}(hm:∀ a v,M a=some v→M' a=some v)(hj:Q1 M' x (G j)){y:A}{v:Value}(h:W0 M G y v):W0 M' G (fm j x y) v:=by
 have lst:∀ {cs:List A} {vs:Array Value},(∀ (i:Nat) x' v,cs[i]?=some x'→vs[i]?=some v→W0 M' G (fm j x x') v)→∀ (i:Nat) x' v,(fmL j x cs)[i]?=some x'→vs[i]?=some v→W0 M' G x' v:=by
  intro cs vs hh i x' v hx hv
  rw [Wx,List.getElem?_map] at hx
  cases hc:cs[i]? with
  | none=>rw [hc] at hx; cases hx
  | some z=>rw [hc] at hx; simp at hx; subst hx; exact hh i z v hc hv
 induction h with
 | d h=>exact .d (h.mono hm)
 | junk=>exact .junk
 | ref h=>exact .ref h
 | ptr A1 hs h1 h2=>exact .ptr A1 hs (fun j x e=>hm _ _ (h1 j x e)) (fun j x e=>(h2 j x e).mono hm)
 | full h hf=>exact .full (h.mono hm) hf
 | osl h hg=>exact .osl (h.mono hm) hg
 | rsl h hc hmx=>exact .rsl h hc hmx
 | clo hl _ ih=>exact .clo (by rw [Wx]; simpa using hl) (lst ih)
 | agg hl h1 _ ih=>exact .agg (by rw [Wx]; simpa using hl) h1 (lst ih)
 | tup hl _ ih=>exact .tup (by rw [Wx]; simpa using hl) (lst ih)
 | @mp o b h=>
  simp only [fm]
  cases hb:Nat.beq o j with
  | true=>
   have:=Nat.eq_of_beq_eq_true hb
   subst this
   simp only [cond_true]
   rw [h] at hj
   exact .d hj
  | false=>exact .mp h
theorem J1d {cs:Row}(h:cs.length≠1):Pa cs = .agg (cs.map .d):=by
 match cs,h with
 | [],_=>rfl
 | [x],h=>exact absurd rfl h
 | _::_::_,_=>rfl
theorem M1j {cs:Row}(h:cs.length=1):∃ x,cs=[x]:=by
 match cs,h with
 | [x],_=>exact ⟨x,rfl⟩
theorem P1n {M:Mem}{G:Nat→Value}{cs:Row}{v:Value}(h:W0 M G (Pa cs) v):∃ A1:Nat→Value,v=C16 cs.length A1∧∀ (j:Nat) x,cs[j]?=some x→Q1 M x (A1 j):=by
 by_cases h1:cs.length=1
 ·obtain ⟨x,rfl⟩:=M1j h1
  refine ⟨fun _=>v,rfl,fun j y hy=>?_⟩
  have h:W0 M G (.d x) v:=h
  cases h; rename_i h
  cases j with
  | zero=>simp at hy; subst hy; exact h
  | succ j=>simp at hy
 ·rw [J1d h1] at h
  cases h; rename_i vs q1 hl h2
  have hl':vs.size=cs.length:=by simpa using hl.symm
  refine ⟨fun j=>vs.getD j undef,?_,fun j y hy=>?_⟩
  ·unfold C16
   rw [if_neg h1]
   congr 1
   apply Array.ext
   ·simp [hl']
   ·intro i hi hi'
    simp [Array.getD,hi]
  ·have hlt:j < vs.size:=by rw [hl']; exact (List.getElem?_eq_some_iff.1 hy).1
   have:=h2 j (.d y) vs[j] (by simp [hy]) (Array.getElem?_eq_getElem hlt)
   cases this; rename_i this
   simpa [Array.getD,hlt] using this
theorem Q1n {M:Mem}{G:Nat→Value}{cs:Row}{A1:Nat→Value}(h:∀ (j:Nat) x,cs[j]?=some x→Q1 M x (A1 j)):W0 M G (Pa cs) (C16 cs.length A1):=by
 by_cases h1:cs.length=1
 ·obtain ⟨x,rfl⟩:=M1j h1
  exact .d (h 0 x rfl)
 ·rw [J1d h1]
  unfold C16
  rw [if_neg h1]
  refine .agg (by simp) (fun i v hv=>?_) fun i x v hx hv=>?_
  ·rw [List.getElem?_toArray,List.getElem?_map] at hv
   cases hr:(List.range cs.length)[i]? with
   | none=>rw [hr] at hv; cases hv
   | some k=>
    rw [hr] at hv
    simp only [Option.map_some,Option.some.injEq] at hv
    obtain ⟨hi,hk⟩:=List.getElem?_eq_some_iff.1 hr
    simp at hi hk
    subst hk; subst hv
    exact (h i _ (List.getElem?_eq_getElem hi)).one
  ·rw [List.getElem?_toArray,List.getElem?_map] at hv
   rw [List.getElem?_map] at hx
   cases hr:(List.range cs.length)[i]? with
   | none=>rw [hr] at hv; cases hv
   | some k=>
    rw [hr] at hv
    simp only [Option.map_some,Option.some.injEq] at hv
    obtain ⟨hi,hk⟩:=List.getElem?_eq_some_iff.1 hr
    simp at hi hk
    subst hk; subst hv
    cases hc:cs[i]? with
    | none=>rw [hc] at hx; cases hx
    | some y=>
     rw [hc] at hx
     simp only [Option.map_some,Option.some.injEq] at hx
     subst hx
     exact .d (h i y hc)
theorem E0.fm (j:Nat){F:Fx}{L l:List Oper}{env:Env}{H H':P0}{Q:Env→P0→Prop}{es:List (List UInt8×Row)}(hj:nth H j=some (.map (.s es)))(hH:Re (fzH (Go.Am.fm j (.mp es)) j 0 H)=some H')
  (k:E0 F L l (fun t=>Go.Am.fm j (.mp es) (env t)) H' Q):E0 F L l env H Q:=by
 rw [S2] at hj
 refine .frz (Go.Am.fm j (.mp es)) j hj hH (fun M G w hg hh=>?_) k
 obtain ⟨b,ms,cl,g1,g2,g3,g4,g5,g6⟩:=hh.obj j _ hj
 have g3:=g3.trans (Nz es)
 have g4:=W17 g4
 have hbk:blk (.map (.s es)) (G j)=some b:=by rw [g1]; rfl
 let M':Mem:=fun a=>if a=⟨b,0,some 0⟩ then some (M13 ms) else M a
 have hm:∀ a v,M a=some v→M' a=some v:=fun a v e=>by
  by_cases h:a=⟨b,0,some 0⟩
  ·subst h; rw [g6] at e; cases e
  ·simp only [M',if_neg h,e]
 have hrel:Q1 M' (.mp es) (G j):=by
  have hrow:∀ i:Nat,∃ A1:Nat→Value,∀ k cs e,es[i]?=some (k,cs)→ms[i]?=some e→e.val=C16 cs.length A1∧∀ (j:Nat) x,cs[j]?=some x→Q1 M x (A1 j):=fun i=>by
   cases hi:es[i]? with
   | none=>exact ⟨fun _=>undef,fun k cs e h=>by cases h⟩
   | some p=>
    obtain ⟨k,cs⟩:=p
    have hlt:i < ms.size:=by rw [g3]; exact (List.getElem?_eq_some_iff.1 hi).1
    obtain ⟨A1,v1,v2⟩:=P1n (g4 i k cs _ hi (Array.getElem?_eq_getElem hlt)).2
    refine ⟨A1,fun k' cs' e hk he=>?_⟩
    simp only [Option.some.injEq,Prod.mk.injEq] at hk
    obtain ⟨rfl,rfl⟩:=hk
    rw [Array.getElem?_eq_getElem hlt] at he
    obtain rfl:=Option.some.inj he
    exact ⟨v1,v2⟩
  rw [g1]
  refine .mp (fun i=>Classical.choose (hrow i)) (by simp only [M',if_true]) g3 (fun i k cs e a c=>?_) (fun i j k cs x a c=>?_)
  ·have hk:=(g4 i k cs e a c).1
   refine ⟨?_,?_,(Classical.choose_spec (hrow i) k cs e a c).1⟩
   ·generalize e.key=ek at hk; cases hk; rfl
   ·generalize e.key=ek at hk; cases hk; assumption
  ·have hlt:i < ms.size:=by rw [g3]; exact (List.getElem?_eq_some_iff.1 a).1
   exact ((Classical.choose_spec (hrow i) k cs _ a (Array.getElem?_eq_getElem hlt)).2 j x c).mono hm
 refine ⟨M',hm,fun a v e=>?_,fun a v e=>?_,fun y v h=>K1u hm hrel h⟩
 ·by_cases h:a=⟨b,0,some 0⟩
  ·subst h
   simp only [M',if_true,Option.some.injEq] at e
   exact .inr ⟨rfl,ms,cl,g2,e.symm⟩
  ·simp only [M',if_neg h] at e
   exact hg a v e
 ·by_cases h:a=⟨b,0,some 0⟩
  ·subst h; exact .inr hbk
  ·simp only [M',if_neg h] at e; exact .inl e
mutual
def bx (k:Nat)(y0:D)(ds:List D):A→A
 | .ref o off=>bif Nat.beq o k then (bif Nat.beq off 0 then .d y0 else .ptr (ds.drop off)) else .ref o off
 | .rsl o b c d=>bif Nat.beq o k then .junk else .rsl o b c d
 | .clo f cs=>.clo f (bxL k y0 ds cs)
 | .agg cs=>.agg (bxL k y0 ds cs)
 | .tup cs=>.tup (bxL k y0 ds cs)
 | .d y=>.d y
 | .junk=>.junk
 | .mp i=>.mp i
 | .ptr c=>.ptr c
 | .full r=>.full r
 | .osl a r=>.osl a r
def bxL (k:Nat)(y0:D)(ds:List D):List A→List A
 | []=>[]
 | y::r=>bx k y0 ds y::bxL k y0 ds r
end
theorem Xx (k:Nat)(y0:D)(ds:List D):∀ l,bxL k y0 ds l=l.map (bx k y0 ds)
 | []=>rfl
 | y::r=>by simp only [bxL,List.map_cons,Xx k y0 ds r]
def toZ:A→Option D
 | .d (.nilv .map)=>some (.mp [])
 | .d x=>some x
 | _=>none
theorem U1s {M:Mem}{G:Nat→Value}{x:A}{d:D}{v:Value}(h:toZ x=some d)(hr:W0 M G x v):Q1 M d v:=by
 unfold toZ at h
 split at h
 ·simp only [Option.some.injEq] at h
  subst h
  cases hr; rename_i hr; cases hr
  exact .mpnil
 ·simp only [Option.some.injEq] at h
  subst h
  cases hr; assumption
 ·cases h
def S1f:List A→Option (List D)
 | []=>some []
 | y::r=>match toZ y,S1f r with
  | some x,some ds=>some (x::ds)
  | _,_=>none
theorem T1f:∀ {cs:List A} {ds:List D},S1f cs=some ds→cs.length=ds.length∧∀ (j:Nat) x,ds[j]?=some x→∃ y,cs[j]?=some y∧toZ y=some x
 | [],ds,h=>by simp only [S1f,Option.some.injEq] at h; subst h; exact ⟨rfl,fun j x h=>by simp at h⟩
 | y::r,ds,h=>by
  simp only [S1f] at h
  split at h
  ·rename_i x ds' hz hd
   simp only [Option.some.injEq] at h
   subst h
   obtain ⟨h1,h2⟩:=T1f hd
   refine ⟨by simp [h1],fun j x' hj=>?_⟩
   cases j with
   | zero=>simp at hj; subst hj; exact ⟨y,rfl,hz⟩
   | succ j=>simpa using h2 j x' (by simpa using hj)
  ·cases h
theorem L1u {M M':Mem}{G:Nat→Value}{k:Nat}{ds:List D}{y0:D}{b:Nat}(hy:∀ v,Q1 M' (.box ds) v→Q1 M' y0 v)(hm:∀ a v,M a=some v→M' a=some v)(hk:G k = .pointer (some ⟨b,0,none⟩))(A1:Nat→Value)
  (h1:∀ (j:Nat) x,ds[j]?=some x→M' ⟨b,j,none⟩=some (A1 j)) (h2:∀ (j:Nat) x,ds[j]?=some x→Q1 M' x (A1 j)) {y:A} {v:Value} (h:W0 M G y v):W0 M' G (bx k y0 ds y) v:=by
 have lst:∀ {cs:List A} {vs:Array Value},(∀ (i:Nat) x' v,cs[i]?=some x'→vs[i]?=some v→W0 M' G (bx k y0 ds x') v)→∀ (i:Nat) x' v,(bxL k y0 ds cs)[i]?=some x'→vs[i]?=some v→W0 M' G x' v:=by
  intro cs vs hh i x' v hx hv
  rw [Xx,List.getElem?_map] at hx
  cases hc:cs[i]? with
  | none=>rw [hc] at hx; cases hx
  | some z=>rw [hc] at hx; simp at hx; subst hx; exact hh i z v hc hv
 have ad:∀ (off j:Nat),(⟨b,off,none⟩:Addr).add j=⟨b,off+j,none⟩:=fun off j=>by
  unfold Addr.add; split
  ·subst_vars; rfl
  ·rfl
 induction h with
 | d h=>exact .d (h.mono hm)
 | junk=>exact .junk
 | @ref o off b' h=>
  simp only [bx]
  cases hb:Nat.beq o k with
  | false=>exact .ref h
  | true=>
   obtain rfl:=Nat.eq_of_beq_eq_true hb
   rw [hk] at h
   simp at h
   subst h
   simp only [cond_true]
   cases ho:Nat.beq off 0 with
   | true=>
    obtain rfl:=Nat.eq_of_beq_eq_true ho
    simp only [cond_true]
    exact .d (hy _ (.box A1 rfl (fun j x e=>by rw [ad,Nat.zero_add]; exact h1 j x e) h2))
   | false=>
    simp only [cond_false]
    refine .ptr (fun j=>A1 (off+j)) rfl (fun j x e=>?_) (fun j x e=>?_)
    ·rw [List.getElem?_drop] at e
     rw [ad]; exact h1 _ x e
    ·rw [List.getElem?_drop] at e
     exact h2 _ x e
 | ptr A1 hs h1 h2=>exact .ptr A1 hs (fun j x e=>hm _ _ (h1 j x e)) (fun j x e=>(h2 j x e).mono hm)
 | full h hf=>exact .full (h.mono hm) hf
 | osl h hg=>exact .osl (h.mono hm) hg
 | @rsl o _ _ _ _ _ h hc hmx=>
  simp only [bx]
  cases hb:Nat.beq o k with
  | true=>exact .junk
  | false=>exact .rsl h hc hmx
 | clo hl _ ih=>exact .clo (by rw [Xx]; simpa using hl) (lst ih)
 | agg hl h1 _ ih=>exact .agg (by rw [Xx]; simpa using hl) h1 (lst ih)
 | tup hl _ ih=>exact .tup (by rw [Xx]; simpa using hl) (lst ih)
 | mp h=>exact .mp h
theorem E0.bx (k:Nat){F:Fx}{L l:List Oper}{env:Env}{H H':P0}{Q:Env→P0→Prop}{cs:List A}{e:TypeId}{ds:List D}{y:D}(he:y = .box ds∨y = .bxo (some ds))(hj:nth H k=some (.row cs e))(hd:S1f cs=some ds)(hH:Re (fzH (Go.Am.bx k y ds) k 0 H)=some H')
  (kk:E0 F L l (fun t=>Go.Am.bx k y ds (env t)) H' Q):E0 F L l env H Q:=by
 have hy:∀ (M:Mem) v,Q1 M (.box ds) v→Q1 M y v:=fun M v h=>by
  rcases he with rfl | rfl
  ·exact h
  ·cases h with
   | box A1 hs h1 h2=>exact .bxs A1 hs h1 h2
 rw [S2] at hj
 obtain ⟨hdl,hdg⟩:=T1f hd
 refine .frz (Go.Am.bx k y ds) k hj hH (fun M G w hg hh=>?_) kk
 obtain ⟨b,vs,g1,g2,g3,g4,g5,g6⟩:=hh.obj k _ hj
 have hbk:blk (.row cs e) (G k)=some b:=by rw [g1]; rfl
 let M':Mem:=fun a=>if a.block=b∧a.spot=none then vs[a.off]? else M a
 have hm:∀ a v,M a=some v→M' a=some v:=fun a v e=>by
  by_cases h:a.block=b∧a.spot=none
  ·obtain ⟨ab,ao,asp⟩:=a
   simp only at h
   rw [h.1,g6] at e; cases e
  ·simp only [M',if_neg h,e]
 have hl:ds.length≤vs.size:=by omega
 have hv:∀ (j:Nat) x,ds[j]?=some x→∃ v,vs[j]?=some v∧Q1 M' x v:=fun j x hx=>by
  have hlt:j < vs.size:=Nat.lt_of_lt_of_le (List.getElem?_eq_some_iff.1 hx).1 hl
  obtain ⟨y,hy,hz⟩:=hdg j x hx
  exact ⟨_,Array.getElem?_eq_getElem hlt,(U1s hz (g5 j y vs[j] hy (Array.getElem?_eq_getElem hlt))).mono hm⟩
 refine ⟨M',hm,fun a v e=>?_,fun a v e=>?_,fun y v h=>L1u (hy M') hm g1 (fun j=>vs[j]?.getD undef) (fun j x hx=>?_) (fun j x hx=>?_) h⟩
 ·by_cases h:a.block=b∧a.spot=none
  ·simp only [M',if_pos h] at e
   obtain ⟨ab,ao,asp⟩:=a
   simp only at h e
   obtain ⟨rfl,rfl⟩:=h
   exact .inl ⟨rfl,by rw [Cm g2]; exact e⟩
  ·simp only [M',if_neg h] at e
   exact hg a v e
 ·by_cases h:a.block=b∧a.spot=none
  ·exact .inr (by rw [hbk,h.1])
  ·simp only [M',if_neg h] at e; exact .inl e
 ·obtain ⟨v,h1,_⟩:=hv j x hx
  simp only [M',and_self,if_true,h1,Option.getD_some]
 ·obtain ⟨v,h1,h2⟩:=hv j x hx
  rw [h1]; exact h2
end Go.Am

namespace Go.Am
def A14:D→Option Bool
 | .nilv .ptr=>some true
 | .box _=>some false
 | .bxo o=>some o.isNone
 | _=>none
def U1f (C:Cx)(L:List Oper)(o:Oper)(env:Env):Option (Option Nat×D×Bool):=
 match D1 L env o,o.op,K5 o with
 | some true,.binOp op t x y _,some d=>match Y1 C.T t,ev C.GL env x,ev C.GL env y,Ez op with
  | some i,.d xd,.d (.nilv .ptr),some neg=>match i.u with
   | .ptr _=>some (d,xd,neg)
   | _=>none
  | _,_,_,_=>none
 | _,_,_=>none
theorem R1n {C:Cx}(hC:T1 C){L:List Oper}{o:Oper}{env:Env}{H:P0}{d:Option Nat}{x:D}{neg b:Bool}(h:U1f C L o env=some (d,x,neg))(hx:A14 x=some b) :
  D1 L env o=some true∧K5 o=some d∧Z5 C o env H (.d (.bool (bif neg then !b else b))):=by
 unfold U1f at h
 split at h
 ·rename_i op t x' y' sp d' hw ho hd
  split at h
  ·rename_i i xd neg' ht hex hey hn
   split at h
   ·rename_i et hu
    simp only [Option.some.injEq,Prod.mk.injEq] at h
    obtain ⟨rfl,rfl,rfl⟩:=h
    refine ⟨hw,hd,?_⟩
    have ea:eqA i.u (ev C.GL env x') (ev C.GL env y') (Ez op)=some (True,.d (.bool (bif neg' then !b else b))):=by
     rw [hex,hey,hn,hu]
     cases xd with
     | nilv k=>
      cases k <;> simp only [A14] at hx <;> first | (cases hx; done) | skip
      cases hx
      cases neg' <;> rfl
     | box cs=>
      simp only [A14,Option.some.injEq] at hx
      subst hx
      cases neg' <;> rfl
     | bxo o=>
      simp only [A14,Option.some.injEq] at hx
      subst hx
      cases neg' <;> rfl
     | _=>simp [A14] at hx
    have hb:opA C.T C.GL o.op env H=some (True,.d (.bool (bif neg' then !b else b))):=by
     rw [ho]
     simp only [opA,M1b,ht]
     rw [hex,hey] at ea ⊢
     cases xd <;> first | exact ea | (simp [A14] at hx; done)
    exact Om hC hb trivial
   ·cases h
  ·cases h
 ·cases h
theorem E0.nq {F:Fx}(hC:T1 F.C){L l:List Oper}{o:Oper}{env:Env}{H:P0}{Q:Env→P0→Prop}{d:Option Nat}{x:D}{neg b:Bool}(h:U1f F.C L o env=some (d,x,neg))(hx:A14 x=some b)
  (k:E0 F L l (put env d (.d (.bool (bif neg then !b else b)))) H Q):E0 F L (o::l) env H Q:=by
 obtain ⟨h1,h2,h3⟩:=R1n (H:=H) hC h hx
 refine .yields h1 h3 ?_
 rw [Z3 h2]
 exact k
def B18:D→Option (List (List UInt8×Row))
 | .mp es=>some es
 | .nilv .map=>some []
 | _=>none
def G1a (C:Cx)(L:List Oper)(o:Oper)(env:Env):Option (Option Nat×D×List UInt8×Bool×A):=
 match D1 L env o,o.op,K5 o with
 | some true,.lookup t x y ok,some d=>match Y1 C.T t,ev C.GL env x,ev C.GL env y with
  | some i,.d xd,.d (.str k)=>match i.u with
   | .map kt et=>match Y1 C.T kt,Y1 C.T et with
    | some ki,some ei=>match ki.u,frc (Qv ei) with
     | .str,some z=>some (d,xd,k,ok,z)
     | _,_=>none
    | _,_=>none
   | _=>none
  | _,_,_=>none
 | _,_,_=>none
theorem K1d {C:Cx}(hC:T1 C){L:List Oper}{o:Oper}{env:Env}{H:P0}{d:Option Nat}{xd:D}{k:List UInt8}{ok:Bool}{z:A}{es:List (List UInt8×Row)}(h:G1a C L o env=some (d,xd,k,ok,z))(he:B18 xd=some es) :
  D1 L env o=some true∧K5 o=some d∧Z5 C o env H (lkA (Qe k es) z ok):=by
 unfold G1a at h
 split at h
 ·rename_i t x y ok' d' hw ho hd
  split at h
  ·rename_i i xd' k' ht hx hy
   split at h
   ·rename_i kt et hu
    split at h
    ·rename_i ki ei hki hei
     split at h
     ·rename_i z' hku hz
      simp only [Option.some.injEq,Prod.mk.injEq] at h
      obtain ⟨rfl,rfl,rfl,rfl,rfl⟩:=h
      refine ⟨hw,hd,?_⟩
      intro M G w a next Qw hρ hG hgl hH hkk
      have hz':=Jj hz
      subst hz'
      rw [ho] at hρ
      have hxr:=hρ x (by simp [Op.operands])
      have hyr:=hρ y (by simp [Op.operands])
      rw [hx] at hxr
      rw [hy] at hyr
      generalize hxv:a.eval x=xv at hxr
      generalize hyv:a.eval y=yv at hyr
      cases hxr; rename_i hxr
      cases hyr; rename_i hyr; cases hyr
      have hd:=Nh (hC.tok.facts ht) hu
      have hkd:=Mh (hC.tok.facts hki) hku
      obtain ⟨zv,hzr,hzrel⟩:=T13 hC.tok hei M G
      have key:∃ v,(Instr.lookup t xv (.string ⟨k'.toArray⟩) ok').run C.P w = .ok v w∧W0 M G (lkA (Qe k' es) (Qv ei) ok') v:=by
       cases hxr with
       | nilmap=>
        simp only [B18,Option.some.injEq] at he
        subst he
        refine ⟨if ok' then .tuple #[zv,.bool false] else zv,?_,?_⟩
        ·simp [Instr.lookup,run_underlying hd,Kb hkd,Instr.findKey,run_underlying hkd,Instr.findNow,hzr w]
        ·cases ok' with
         | false=>simpa [lkA,Qe] using hzrel
         | true=>
          refine .tup rfl fun i x v hx hv=>?_
          match i with
          | 0=>simp at hx hv; subst hx; subst hv; exact hzrel
          | 1=>simp at hx hv; subst hx; subst hv; exact .d .bool
          | _+2=>simp at hx
       | mpnil=>
        simp only [B18,Option.some.injEq] at he
        subst he
        refine ⟨if ok' then .tuple #[zv,.bool false] else zv,?_,?_⟩
        ·simp [Instr.lookup,run_underlying hd,Kb hkd,Instr.findKey,run_underlying hkd,Instr.findNow,hzr w]
        ·cases ok' with
         | false=>simpa [lkA,Qe] using hzrel
         | true=>
          refine .tup rfl fun i x v hx hv=>?_
          match i with
          | 0=>simp at hx hv; subst hx; subst hv; exact hzrel
          | 1=>simp at hx hv; subst hx; subst hv; exact .d .bool
          | _+2=>simp at hx
       | @mp es' b ms A1 hM hl hk hv=>
        simp only [B18,Option.some.injEq] at he
        subst he
        obtain ⟨ms2,cl,g2,henc⟩:∃ ms2 cl,w.heap[b]?=some (.map ms2 cl)∧M13 ms=M13 ms2:=by
         rcases hG _ _ hM with ⟨h1,_⟩ | ⟨_,ms2,cl,h1,h2⟩
         ·cases h1
         ·exact ⟨ms2,cl,h1,h2⟩
        have hmap:ms.map (fun e=>Value.tuple #[e.key,e.val])=ms2.map (fun e=>Value.tuple #[e.key,e.val]):=by
         unfold M13 at henc
         simpa using henc
        have hsz:ms.size=ms2.size:=by simpa using congrArg Array.size hmap
        have hent:∀ (i:Nat) e,ms2[i]?=some e→∃ e',ms[i]?=some e'∧e'.key=e.key∧e'.val=e.val:=fun i e hi=>by
         have hlt:i < ms.size:=by rw [hsz]; exact (Array.getElem?_eq_some_iff.1 hi).1
         have:=congrArg (fun l=>l[i]?) hmap
         simp only [Array.getElem?_map,hi,Array.getElem?_eq_getElem hlt,Option.map_some,Option.some.injEq,Value.tuple.injEq] at this
         refine ⟨ms[i],Array.getElem?_eq_getElem hlt,?_,?_⟩
         ·exact (by simpa using this:_∧_).1
         ·exact (by simpa using this:_∧_).2
        have hkeys:∀ (n:Nat) k' cs e,es'[n]?=some (k',cs)→ms2.toList[n]?=some e→e.key = .string ⟨k'.toArray⟩:=fun n k' cs e a b=>by
         obtain ⟨e',h1,h2,_⟩:=hent n e (by simpa using b)
         rw [← h2]; exact (hk n k' cs e' a h1).1
        rcases Qs (k:=k') (i:=0) (by rw [← hl,hsz]; simp) hkeys with ⟨h1,h2,_⟩ | ⟨n,cs,e,h1,h2,h3,h4,_⟩
        ·refine ⟨if ok' then .tuple #[zv,.bool false] else zv,?_,?_⟩
         ·simp [Instr.lookup,run_underlying hd,Fc g2,Kb hkd,Instr.findKey,run_underlying hkd,h2,hzr w]
         ·rw [h1]
          cases ok' with
          | false=>simpa [lkA] using hzrel
          | true=>
           refine .tup rfl fun i x v hx hv=>?_
           match i with
           | 0=>simp at hx hv; subst hx; subst hv; exact hzrel
           | 1=>simp at hx hv; subst hx; subst hv; exact .d .bool
           | _+2=>simp at hx
        ·have hev:W0 M G (Pa cs) e.val:=by
          obtain ⟨e',q1,_,q3⟩:=hent n e (by simpa using h3)
          rw [← q3,(hk n k' cs e' h1 q1).2.2]
          exact Q1n fun j x hx=>hv n j k' cs x h1 hx
         refine ⟨if ok' then .tuple #[e.val,.bool true] else e.val,?_,?_⟩
         ·simp [Instr.lookup,run_underlying hd,Fc g2,Kb hkd,Instr.findKey,run_underlying hkd,h4]
         ·rw [h2]
          cases ok' with
          | false=>simpa [lkA] using hev
          | true=>
           refine .tup rfl fun i x v hx hv=>?_
           match i with
           | 0=>simp at hx hv; subst hx; subst hv; exact hev
           | 1=>simp at hx hv; subst hx; subst hv; exact .d .bool
           | _+2=>simp at hx
       | _=>simp [B18] at he
      obtain ⟨v,hv,hrel⟩:=key
      unfold Oper.wp execOp
      simp only [ho,hxv,hyv,Sem.run_bind,hv,Result.andThen_ok,Sem.run_pure,Oper.upon_value]
      exact hkk _ M w hrel hG (Ext.refl _ _ _)
     ·cases h
    ·cases h
   ·cases h
  ·cases h
 ·cases h
theorem E0.fl {F:Fx}(hC:T1 F.C){L l:List Oper}{o:Oper}{env:Env}{H:P0}{Q:Env→P0→Prop}{d:Option Nat}{xd:D}{k:List UInt8}{ok:Bool}{z y:A}{es:List (List UInt8×Row)}(h:G1a F.C L o env=some (d,xd,k,ok,z))
  (he:B18 xd=some es) (e:lkA (Qe k es) z ok=y) (kk:E0 F L l (put env d y) H Q):E0 F L (o::l) env H Q:=by
 subst e
 obtain ⟨h1,h2,h3⟩:=K1d (H:=H) hC h he
 refine .yields h1 h3 ?_
 rw [Z3 h2]
 exact kk
theorem AG.fl {C:Cx}(hC:T1 C){L l:List Oper}{o:Oper}{env:Env}{cnd:Cnd}{H:P0}{Q:Env→Cnd→Prop}{W:Option Bool}{d:Option Nat}{xd:D}{k:List UInt8}{ok:Bool}{z y:A}{es:List (List UInt8×Row)}(hw:Bn L env cnd o=some W)
  (h:G1a C [] (noG o) env=some (d,xd,k,ok,z)) (hs:holds W→Xh cnd (U13 o)) (he:holds W→B18 xd=some es) (e:lkA (Qe k es) z ok=y) (kk:AG C L l (put env d y) (Dg cnd d W) H Q):AG C L (o::l) env cnd H Q:=by
 subst e
 by_cases hh:holds W
 ·obtain ⟨_,h2,h3⟩:=K1d (H:=H) hC h (he hh)
  exact .lift h2 hw hs (fun _=>h3) kk
 ·refine .lift (d:=d) ?_ hw hs (fun h'=>absurd h' hh) kk
  unfold G1a at h
  split at h
  ·rename_i hd
   split at h
   ·split at h
    ·split at h
     ·split at h
      ·simp only [Option.some.injEq,Prod.mk.injEq] at h
       obtain ⟨rfl,_⟩:=h
       exact hd
      ·cases h
     ·cases h
    ·cases h
   ·cases h
  ·cases h
theorem AG.me {C:Cx}(hC:T1 C){L l:List Oper}{o:Oper}{env:Env}{cnd:Cnd}{H:P0}{Q:Env→Cnd→Prop}{W:Option Bool}{d:Option Nat}{es:List (List UInt8×Row)}{k:List UInt8}{ok:Bool}{z y:A}(hw:Bn L env cnd o=some W)
  (h:Oz C [] (noG o) env H=some ⟨d,es,k,ok,z⟩) (hs:holds W→Xh cnd (U13 o)) (e:lkA (Qe k es) z ok=y) (kk:AG C L l (put env d y) (Dg cnd d W) H Q):AG C L (o::l) env cnd H Q:=by
 subst e
 exact .lift (D1a h).2 hw hs (fun _=>M11 hC h rfl) kk
end Go.Am

namespace Go.Am
def B14 (F:Fx)(L:List Oper)(o:Oper)(env:Env)(H:P0)(x:A)(H':P0):Prop:=
 ∀ env' K,(∀ t∈Ya L o,env' t=env t)→∀ Q:Env→P0→Prop,Q (put env' o.dst x) H'→E0 ⟨F.C,F.N,K⟩ L [o] env' H Q
def Kq (ps:List Nat):Nat→P0→P0
 | _,[]=>[]
 | n,x::r=>(bif ps.contains n then .dead else x)::Kq ps (n+1) r
def I4 (ps:List Nat)(H:P0):P0:=Kq ps 0 H
theorem H1a {ps:List Nat}:∀ {H:P0} {k n:Nat},(Kq ps k H)[n]?=(H[n]?).map fun x=>bif ps.contains (k+n) then Ob.dead else x
 | [],k,n=>by simp [Kq]
 | x::r,k,0=>by simp [Kq]
 | x::r,k,n+1=>by
  simp only [Kq,List.getElem?_cons_succ]
  rw [H1a,show k+1+n=k+(n+1) by omega]
theorem Ai {ps:List Nat}{H:P0}{n:Nat}:(I4 ps H)[n]?=(H[n]?).map fun x=>bif ps.contains n then Ob.dead else x:=by
 unfold I4; rw [H1a,Nat.zero_add]
theorem Kd {ps:List Nat}{H:P0}:(I4 ps H).length=H.length:=by
 have key:∀ (H:P0) (k:Nat),(Kq ps k H).length=H.length:=by
  intro H
  induction H with
  | nil=>intro k; rfl
  | cons x r ih=>intro k; simp only [Kq,List.length_cons,ih]
 exact key H 0
theorem V1f {H:P0}:I4 [] H=H:=by
 apply List.ext_getElem?
 intro n
 rw [Ai]
 cases H[n]? <;> simp
theorem U1b {GL:GT}{env env':Env}{o:Oper}(h:∀ y∈o.op.operands,ev GL env' y=ev GL env y):Pe GL env' o=Pe GL env o:=by
 unfold Pe
 split
 ·rename_i fo as ts ho
  rw [ho] at h
  rw [h fo (by simp [Op.operands,Call.operands])]
  have:as.toList.map (ev GL env')=as.toList.map (ev GL env):=List.map_congr_left fun y hy=>h y (by simp only [Op.operands,Call.operands,Array.mem_append]; exact .inr (by simpa using hy))
  rw [this]
 ·rfl
theorem L1i {C:Cx}{L:List Oper}{env env':Env}{o:Oper}(h:∀ t∈Ya L o,env' t=env t):Mf C L o env'=Mf C L o env:=by
 unfold Mf
 rw [Hr h,U1b fun y hy=>Iz fun t ht=>h t (by
  subst ht
  simp only [Ya,List.mem_append,List.mem_filterMap]
  exact .inl ⟨.tmp t,by simpa using hy,rfl⟩)]
theorem Sv:∀ l:List A,Wi l=some l
 | []=>rfl
 | x::r=>by simp only [Wi,Sv r]
theorem L1d:∀ l:List D,T17 l=some l
 | []=>rfl
 | x::r=>by simp only [T17,L1d r]
theorem K1q (x:A):frc x=some x:=by
 cases x with
 | d y=>cases y <;> rfl
 | ptr cs=>simp only [frc,L1d]
 | clo f cs=>simp only [frc,Sv]
 | agg cs=>simp only [frc,Sv]
 | tup cs=>simp only [frc,Sv]
 | _=>rfl
theorem M1d:∀ l:List A,Y17 l=some l
 | []=>rfl
 | x::r=>by simp only [Y17,K1q,M1d r]
theorem N1d:∀ H:P0,Re H=some H
 | []=>rfl
 | x::r=>by
  have ih:=N1d r
  cases x <;> simp only [Re,M1d,ih]
theorem B14.g {F:Fx}{L:List Oper}{o:Oper}{env:Env}{H H':P0}{d:Option Nat}{g:FuncId}{xs:List A}{x y:A}(idx:List Nat){cargs:List A}{cH cH':P0}{un:List Nat}
  (hc:L0 F.C g cargs cH (Ret cH' x)) (h:Mf F.C L o env=some (d,g,xs)) (hx:Xi (Jd idx H.length) cargs=xs) (hi:I16 idx H.length=true) (hm:Kt H idx=Y13 (Jd idx H.length) cH)
  (ht:D8 idx cH=[]) (hr:frc (ren (Jd idx H.length) x)=some y) (hH:Re (Pf H idx (Jd idx H.length) (D8 idx cH) cH')=some H')
  (hun:(idx.all (fun p=>!un.contains p)&&un.all (fun p=>Nat.blt p H.length)&&Nat.ble idx.length cH'.length)=true) :
  ∀ ps:List Nat,(∀ p∈ps,p∈un)→B14 F L o env (I4 ps H) y (I4 ps H'):=by
 simp only [Bool.and_eq_true,List.all_eq_true] at hun
 obtain ⟨⟨u1,u2⟩,u3⟩:=hun
 have u3:=Nat.le_of_ble_eq_true u3
 intro ps hps env' K he Q hq
 have h':=h
 rw [← L1i he] at h'
 have hd:=(Nf h).2.2
 have hout:∀ p∈idx,ps.contains p=false:=fun p hp=>by
  have:=u1 p hp
  cases hb:ps.contains p with
  | false=>rfl
  | true=>
   have h1:=hps p (by simpa using hb)
   have h2:un.contains p=true:=by simpa using h1
   rw [h2] at this; cases this
 have hsel:∀ l:List Nat,(∀ p∈l,p∈idx)→Kt (I4 ps H) l=Kt H l:=by
  intro l
  induction l with
  | nil=>intro _; rfl
  | cons p r ih=>
   intro hl
   simp only [Kt]
   rw [ih fun q hq=>hl q (List.mem_cons_of_mem _ hq),S2,S2,Ai]
   have:=hout p (hl p List.mem_cons_self)
   cases H[p]? with
   | none=>rfl
   | some z=>simp only [Option.map_some,this,cond_false]
 have hmg:Pf (I4 ps H) idx (Jd idx H.length) (D8 idx cH) cH'=I4 ps (Pf H idx (Jd idx H.length) (D8 idx cH) cH'):=by
  apply List.ext_getElem?
  intro n
  rw [Jz u3,Ai,Ai,Jz u3,Kd]
  by_cases hn:n < H.length
  ·rw [if_pos hn,if_pos hn]
   cases hf:fnd idx n with
   | none=>
    simp only
    rw [ht]
    cases H[n]? with
    | none=>rfl
    | some z=>
     simp only [Option.map_some]
     cases ps.contains n <;> simp only [cond_true,cond_false,dgO]
   | some i=>
    simp only
    have hin:n∈idx:=List.mem_of_getElem? (Kj hf)
    cases cH'[i]? with
    | none=>rfl
    | some z=>simp only [Option.map_some,hout n hin,cond_false]
  ·rw [if_neg hn,if_neg hn]
   have:ps.contains n=false:=by
    cases hb:ps.contains n with
    | false=>rfl
    | true=>
     have h1:=hps n (by simpa using hb)
     have:=Nat.le_of_ble_eq_true (u2 n h1)
     exact absurd this hn
   cases cH'[idx.length+(n - H.length)]? with
   | none=>rfl
   | some z=>simp only [Option.map_some,this,cond_false]
 have hHe:=Ik hH
 refine g' idx hc h' (by rw [Kd]; exact hx) (by rw [Kd]; exact hi) (by rw [Kd,hsel idx fun _ h=>h]; exact hm) (by rw [Kd]; exact hr) (H':=I4 ps H') ?_ (E0.nil ?_)
 ·rw [Kd,hmg,← hHe]
  exact N1d _
 ·rw [show (fun t=>dg (D8 idx cH) (env' t))=env' from by funext t; rw [ht,H1n]]
  rw [← hd]
  exact hq
def loN (L:List Oper)(ls:List Nat)(j:Nat):Nat:=(ls.filter fun l=>Xe L L.length j l).length
def hiN (L:List Oper)(ls:List Nat)(j:Nat):Nat:=(ls.filter fun l=>!Xe L L.length l j).length
def Nj:List (Nat×Nat)→Nat→Option Nat
 | [],_=>none
 | q::r,j=>bif Nat.beq q.1 j then some q.2 else Nj r j
def unw (L:List Oper):List (Nat×Nat)→Nat→List Nat
 | [],_=>[]
 | q::r,j=>bif Xe L L.length j q.1 then unw L r j else q.2::unw L r j
def W1f (F:Fx)(L:List Oper)(o:Oper)(env:Env)(t:TypeId)(cs:List A):Prop:=
 ∀ env' H M G w (a:Act),(∀ u∈Ya L o,env' u=env u)→St F.C F.N M G w env' H a→∃ vs,Bg M G cs vs∧(execOp a.eval o).run F.C.P w = .ok (.value (.pointer (some ⟨w.heap.size,0,none⟩))) (w.alloc (.cells vs t))
def AS (F:Fx)(L:List Oper)(ls:List Nat)(fs:List (Nat×Nat))(Hs:List P0):Nat→Nat→List Oper→Env→(Env→Prop)→Prop
 | _,_,[],env,Q=>Q env
 | j,i,o::r,env,Q=>
  (∃ d x,o.dst=d∧ls.contains j=false∧Nj fs j=none∧(∀ H∈Hs.drop (loN L ls j),∀ ps:List Nat,(∀ p∈ps,p∈unw L fs j)→Nv F.C L o env (I4 ps H) x)∧AS F L ls fs Hs (j+1) i r (put env d x) Q)∨
  (∃ x H H',nth ls i=some j∧Nj fs j=none∧D1 L env o=some true∧nth Hs i=some H∧nth Hs (i+1)=some H'∧(∀ ps:List Nat,(∀ p∈ps,p∈unw L fs j)→B14 F L o env (I4 ps H) x (I4 ps H'))∧
   AS F L ls fs Hs (j+1) (i+1) r (put env o.dst x) Q)∨
  (∃ t cs p,Nj fs j=some p∧ls.contains j=false∧D1 L env o=some true∧W1f F L o env t cs∧(∀ H∈Hs.take (hiN L ls j+1),nth H p=some (.row cs t))∧AS F L ls fs Hs (j+1) i r (put env o.dst (.ref p 0)) Q)
def X1f (L:List Oper)(ls:List Nat)(n:Nat):Bool:=
 (List.range ls.length).all fun i=>(match nth ls i with | some j=>Nat.blt j n | none=>true)&&(List.range i).all fun k=>match nth ls i,nth ls k with | some j,some l=>Nat.blt l j&&Xe L L.length j l | _,_=>true
theorem M1i {L:List Oper}{ls:List Nat}{n:Nat}(h:X1f L ls n=true):(∀ l∈ls,l < n)∧∀ (s k j l:Nat),ls[s]?=some j→ls[k]?=some l→k < s→l < j∧Xe L L.length j l=true:=by
 unfold X1f at h
 refine ⟨fun l hl=>?_,fun s k j l hs hk hlt=>?_⟩
 ·obtain ⟨i,hi⟩:=List.getElem?_of_mem hl
  have h1:=List.all_eq_true.1 h i (List.mem_range.2 (List.getElem?_eq_some_iff.1 hi).1)
  simp only [Bool.and_eq_true,S2,hi] at h1
  exact Nat.le_of_ble_eq_true h1.1
 ·have h1:=List.all_eq_true.1 h s (List.mem_range.2 (List.getElem?_eq_some_iff.1 hs).1)
  simp only [Bool.and_eq_true] at h1
  have h2:=List.all_eq_true.1 h1.2 k (List.mem_range.2 hlt)
  simp only [S2,hs,hk,Bool.and_eq_true] at h2
  exact ⟨Nat.le_of_ble_eq_true h2.1,h2.2⟩
def L5 (ls:List Nat)(listed:Array Bool):Nat:=(ls.filter fun l=>listed.getD l false).length
theorem Y1f {ls:List Nat}{listed:Array Bool}(h:∀ l∈ls,listed.getD l false=true):L5 ls listed=ls.length:=by
 unfold L5
 rw [List.filter_eq_self.2 h]
theorem S1n {ls:List Nat}{listed:Array Bool}(h:∀ l,listed.getD l false=false):L5 ls listed=0:=by
 unfold L5
 rw [List.filter_eq_nil_iff.2 fun l _=>by rw [h l]; simp]
 rfl
theorem C14 {ls:List Nat}{listed:Array Bool}{j:Nat}(h:j ∉ ls):L5 ls (listed.setIfInBounds j true)=L5 ls listed:=by
 unfold L5
 congr 1
 refine List.filter_congr fun l hl=>?_
 exact getD_set_ne false (fun e=>h (by rw [e]; exact hl))
theorem N1j:∀ {ls:List Nat} {listed:Array Bool} {s j:Nat},ls[s]?=some j→(∀ (k l:Nat),k < s→ls[k]?=some l→listed.getD l false=true)→(∀ (k l:Nat),s≤k→ls[k]?=some l→listed.getD l false=false)→L5 ls listed=s
 | [],_,s,j,h,_,_=>by simp at h
 | x::r,listed,0,j,h,h1,h2=>by
  unfold L5
  rw [List.filter_eq_nil_iff.2 fun l hl=>by
   obtain ⟨k,hk⟩:=List.getElem?_of_mem hl
   rw [h2 k l (Nat.zero_le _) hk]; simp]
  rfl
 | x::r,listed,s+1,j,h,h1,h2=>by
  have ih:=N1j (ls:=r) (listed:=listed) (s:=s) (j:=j) (by simpa using h) (fun k l hk hl=>h1 (k+1) l (by omega) (by simpa using hl)) (fun k l hk hl=>h2 (k+1) l (by omega) (by simpa using hl))
  unfold L5 at ih ⊢
  have hx:=h1 0 x (by omega) rfl
  rw [List.filter_cons,if_pos hx,List.length_cons,ih]
theorem Z1f:∀ {ls:List Nat} {listed:Array Bool} {s j:Nat},(∀ (a b x y:Nat),ls[a]?=some x→ls[b]?=some y→a < b→x < y)→ls[s]?=some j→listed.getD j false=false→j < listed.size→L5 ls (listed.setIfInBounds j true)=L5 ls listed+1
 | [],_,s,j,_,h,_,_=>by simp at h
 | x::r,listed,0,j,ho,h,hf,hj=>by
  simp only [List.getElem?_cons_zero,Option.some.injEq] at h
  subst h
  have hr:x ∉ r:=fun hm=>by
   obtain ⟨k,hk⟩:=List.getElem?_of_mem hm
   have:=ho 0 (k+1) x x rfl (by simpa using hk) (by omega)
   omega
  have:=C14 (listed:=listed) hr
  unfold L5 at this ⊢
  rw [List.filter_cons,List.filter_cons,if_pos (by simp [hj]),if_neg (by rw [hf]; simp),List.length_cons,this]
 | x::r,listed,s+1,j,ho,h,hf,hj=>by
  have hxj:x < j:=ho 0 (s+1) x j rfl h (by omega)
  have ih:=Z1f (ls:=r) (listed:=listed) (s:=s) (j:=j) (fun a b x y h1 h2 h3=>ho (a+1) (b+1) x y (by simpa using h1) (by simpa using h2) (by omega)) (by simpa using h) hf hj
  unfold L5 at ih ⊢
  have hx:(listed.setIfInBounds j true).getD x false=listed.getD x false:=getD_set_ne false (by omega)
  rw [List.filter_cons,List.filter_cons,hx]
  split
  ·rw [List.length_cons,List.length_cons,ih]
  ·exact ih
def A1g (F:Fx)(L:List Oper)(ls:List Nat)(fs:List (Nat×Nat))(Hs:List P0)(i:Nat)(o:Oper)(env:Env)(x:A):Prop:=
 (ls.contains i=false∧Nj fs i=none∧∀ H∈Hs.drop (loN L ls i),∀ ps:List Nat,(∀ p∈ps,p∈unw L fs i)→Nv F.C L o env (I4 ps H) x)∨
 (∃ s H H',ls[s]?=some i∧Nj fs i=none∧D1 L env o=some true∧Hs[s]?=some H∧Hs[s+1]?=some H'∧∀ ps:List Nat,(∀ p∈ps,p∈unw L fs i)→B14 F L o env (I4 ps H) x (I4 ps H'))∨
 (∃ t cs p,Nj fs i=some p∧ls.contains i=false∧D1 L env o=some true∧W1f F L o env t cs∧(∀ H∈Hs.take (hiN L ls i+1),nth H p=some (.row cs t))∧x = .ref p 0)
theorem AS.outs {F:Fx}{L:List Oper}{ls:List Nat}{fs:List (Nat×Nat)}{Hs:List P0}{env:Env}{Q:Env→Prop}{n:Nat}(hn:n≤L.length)(h:AS F L ls fs Hs 0 0 (L.take n) env Q) :
  ∃ out:Nat→A,(∀ i o,i < n→L[i]?=some o→A1g F L ls fs Hs i o (L1 L env out (fun _=>true) i) (out i))∧Q (L1 L env out (fun _=>true) n):=by
 have key:∀ (m k s:Nat) (out0:Nat→A),k+m=n→(∀ i o,i < k→L[i]?=some o→A1g F L ls fs Hs i o (L1 L env out0 (fun _=>true) i) (out0 i))→
   AS F L ls fs Hs k s ((L.take n).drop k) (L1 L env out0 (fun _=>true) k) Q→
   ∃ out:Nat→A,(∀ i o,i < n→L[i]?=some o→A1g F L ls fs Hs i o (L1 L env out (fun _=>true) i) (out i))∧Q (L1 L env out (fun _=>true) n):=by
  intro m
  induction m with
  | zero=>
   intro k s out0 hk h0 hq
   have:k=n:=by omega
   subst this
   rw [List.drop_eq_nil_of_le (by simp; omega)] at hq
   exact ⟨out0,h0,hq⟩
  | succ m ih=>
   intro k s out0 hk h0 hq
   have hlt:k < n:=by omega
   have hkl:k < L.length:=by omega
   have e:(L.take n).drop k=L[k]::(L.take n).drop (k+1):=by
    rw [List.drop_eq_getElem_cons (by simp; omega)]
    simp
   rw [e] at hq
   have hko:L[k]?=some L[k]:=List.getElem?_eq_getElem hkl
   have go:∀ (x:A) (s':Nat),A1g F L ls fs Hs k L[k] (L1 L env out0 (fun _=>true) k) x→
     AS F L ls fs Hs (k+1) s' ((L.take n).drop (k+1)) (put (L1 L env out0 (fun _=>true) k) (L[k]).dst x) Q→
     ∃ out:Nat→A,(∀ i o,i < n→L[i]?=some o→A1g F L ls fs Hs i o (L1 L env out (fun _=>true) i) (out i))∧Q (L1 L env out (fun _=>true) n):=by
    intro x s' hst hrest
    let out1:Nat→A:=fun i=>if i=k then x else out0 i
    have hsame:∀ i,i≤k→L1 L env out1 (fun _=>true) i=L1 L env out0 (fun _=>true) i:=by
     intro i hi
     funext t
     simp only [L1]
     cases hl:N3 L (fun _=>true) t i with
     | none=>rfl
     | some j=>
      have:=(An hl).1
      simp only [out1]
      rw [if_neg (by omega)]
    refine ih (k+1) s' out1 (by omega) (fun i o hi ho=>?_) ?_
    ·by_cases hik:i=k
     ·subst hik
      rw [hko] at ho
      simp only [Option.some.injEq] at ho
      subst ho
      rw [hsame i (Nat.le_refl _)]
      simpa [out1] using hst
     ·rw [hsame i (by omega)]
      have:=h0 i o (by omega) ho
      simpa [out1,hik] using this
    ·rw [V19 hko,hsame k (Nat.le_refl _)]
     simpa [out1] using hrest
   rcases hq with ⟨d,x,hd,hn1,hn2,hst,hrest⟩ | ⟨x,H,H',h1,hf,hw,h2,h3,hl,hrest⟩ | ⟨t,cs,p,hf,hn1,hw,hfl,hrow,hrest⟩
   ·exact go x s (.inl ⟨hn1,hn2,hst⟩) (by rw [hd]; exact hrest)
   ·rw [S2] at h1 h2 h3
    exact go x (s+1) (.inr (.inl ⟨s,H,H',h1,hf,hw,h2,h3,hl⟩)) hrest
   ·exact go _ s (.inr (.inr ⟨t,cs,p,hf,hn1,hw,hfl,hrow,rfl⟩)) hrest
 exact key n 0 0 (fun _=>.junk) (by omega) (fun i o hi=>by omega) (by simpa [U19] using h)
def unf (listed:Array Bool):List (Nat×Nat)→List Nat
 | []=>[]
 | q::r=>bif listed.getD q.1 false then unf listed r else q.2::unf listed r
theorem Kk {listed:Array Bool}{p:Nat}:∀ {fs:List (Nat×Nat)},p∈unf listed fs ↔ ∃ q∈fs,q.2=p∧listed.getD q.1 false=false
 | []=>by simp [unf]
 | q::r=>by
  simp only [unf]
  cases hq:listed.getD q.1 false with
  | true=>
   simp only [cond_true,Kk (fs:=r),List.mem_cons]
   constructor
   ·rintro ⟨x,h1,h2⟩; exact ⟨x,.inr h1,h2⟩
   ·rintro ⟨x,rfl | h1,h2⟩
    ·rw [hq] at h2; cases h2.2
    ·exact ⟨x,h1,h2⟩
  | false=>
   simp only [cond_false,List.mem_cons,Kk (fs:=r)]
   constructor
   ·rintro (rfl | ⟨x,h1,h2⟩)
    ·exact ⟨q,.inl rfl,rfl,hq⟩
    ·exact ⟨x,.inr h1,h2⟩
   ·rintro ⟨x,rfl | h1,h2⟩
    ·exact .inl h2.1.symm
    ·exact .inr ⟨x,h1,h2⟩
theorem V1b {L:List Oper}{j p:Nat}:∀ {fs:List (Nat×Nat)},p∈unw L fs j ↔ ∃ q∈fs,q.2=p∧Xe L L.length j q.1=false
 | []=>by simp [unw]
 | q::r=>by
  simp only [unw]
  cases hq:Xe L L.length j q.1 with
  | true=>
   simp only [cond_true,V1b (fs:=r),List.mem_cons]
   constructor
   ·rintro ⟨x,h1,h2⟩; exact ⟨x,.inr h1,h2⟩
   ·rintro ⟨x,rfl | h1,h2⟩
    ·rw [hq] at h2; cases h2.2
    ·exact ⟨x,h1,h2⟩
  | false=>
   simp only [cond_false,List.mem_cons,V1b (fs:=r)]
   constructor
   ·rintro (rfl | ⟨x,h1,h2⟩)
    ·exact ⟨q,.inl rfl,rfl,hq⟩
    ·exact ⟨x,.inr h1,h2⟩
   ·rintro ⟨x,rfl | h1,h2⟩
    ·exact .inl h2.1.symm
    ·exact .inr ⟨x,h1,h2⟩
theorem O1d {j p:Nat}:∀ {fs:List (Nat×Nat)},Nj fs j=some p→(j,p)∈fs
 | [],h=>by cases h
 | q::r,h=>by
  simp only [Nj] at h
  cases hq:Nat.beq q.1 j with
  | true=>
   rw [hq] at h
   obtain rfl:=Nat.eq_of_beq_eq_true hq
   simp only [cond_true,Option.some.injEq] at h
   subst h
   exact List.mem_cons_self
  | false=>rw [hq] at h; exact List.mem_cons_of_mem _ (O1d h)
theorem D14 {j:Nat}:∀ {fs:List (Nat×Nat)},Nj fs j=none→∀ q∈fs,q.1≠j
 | [],_,q,hq=>by cases hq
 | x::r,h,q,hq=>by
  simp only [Nj] at h
  cases hx:Nat.beq x.1 j with
  | true=>rw [hx] at h; cases h
  | false=>
   rw [hx] at h
   cases hq with
   | head=>exact fun e=>by rw [e] at hx; simp at hx
   | tail _ hq=>exact D14 h q hq
theorem C18 {listed:Array Bool}{j:Nat}:∀ {fs:List (Nat×Nat)},(∀ q∈fs,q.1≠j)→unf (listed.setIfInBounds j true) fs=unf listed fs
 | [],_=>rfl
 | q::r,h=>by
  simp only [unf]
  rw [getD_set_ne false (Ne.symm (h q List.mem_cons_self)),C18 fun x hx=>h x (List.mem_cons_of_mem _ hx)]
def B1g (fs:List (Nat×Nat))(n K N:Nat):Bool:=
 Px (fs.map (·.1))&&Px (fs.map (·.2))&&fs.all fun q=>Nat.blt q.1 n&&Nat.ble K q.2&&Nat.blt q.2 N
theorem N1i {fs:List (Nat×Nat)}{n K N:Nat}(h:B1g fs n K N=true):(∀ q∈fs,q.1 < n∧K≤q.2∧q.2 < N)∧∀ q∈fs,∀ q'∈fs,(q.1=q'.1∨q.2=q'.2)→q=q':=by
 simp only [B1g,Bool.and_eq_true,List.all_eq_true] at h
 obtain ⟨⟨h1,h2⟩,h3⟩:=h
 have k1:=Zp h1
 have k2:=Zp h2
 refine ⟨fun q hq=>⟨Nat.le_of_ble_eq_true (h3 q hq).1.1,Nat.le_of_ble_eq_true (h3 q hq).1.2,Nat.le_of_ble_eq_true (h3 q hq).2⟩,?_⟩
 have inj:∀ {f:Nat×Nat→Nat} {l:List (Nat×Nat)},(l.map f).Nodup→∀ q∈l,∀ q'∈l,f q=f q'→q=q':=by
  intro f l
  induction l with
  | nil=>intro _ q hq; cases hq
  | cons x r ih=>
   intro hnd q hq q' hq' he
   rw [List.map_cons,List.nodup_cons] at hnd
   cases hq with
   | head=>
    cases hq' with
    | head=>rfl
    | tail _ hq'=>exact absurd (by rw [he]; exact List.mem_map_of_mem hq') hnd.1
   | tail _ hq=>
    cases hq' with
    | head=>exact absurd (by rw [← he]; exact List.mem_map_of_mem hq) hnd.1
    | tail _ hq'=>exact ih hnd.2 q hq q' hq' he
 intro q hq q' hq' he
 rcases he with he | he
 ·exact inj k1 q hq q' hq' he
 ·exact inj k2 q hq q' hq' he
theorem St.fillRow {C:Cx}{N:Nat}{M:Mem}{G:Nat→Value}{w:World}{env:Env}{H:P0}{a:Act}(h:St C N M G w env H a){dst:Option Nat}(hd:∀ d,dst=some d→d < N){cs:List A}{vs:Array Value}{elem:TypeId}{p:Nat}
  (hp:H[p]?=some .dead) (hg:G p = .tuple #[]) (hc:Bg M G cs vs) {H':P0} (hl:H'.length=H.length) (hH':∀ n,H'[n]?=if n=p then some (.row cs elem) else H[n]?) :
  St C N M (A6 G p (.pointer (some ⟨w.heap.size,0,none⟩))) (w.alloc (.cells vs elem)) (put env dst (.ref p 0)) H' (a.put dst (.pointer (some ⟨w.heap.size,0,none⟩))):=by
 have hmono:∀ {x:A} {v:Value},W0 M G x v→W0 M (A6 G p (.pointer (some ⟨w.heap.size,0,none⟩))) x v:=fun hr=>hr.mono (fun _ _ e=>e) fun o hn=>A2 (fun e=>hr.names hn (by rw [e]; exact hg))
 obtain ⟨h1,h2,h3⟩:=Gk (fun t=>hmono (h.env t)) h.size hd (x:=.ref p 0) (v:=.pointer (some ⟨w.heap.size,0,none⟩)) (.ref W2)
 have hpl:p < H.length:=(List.getElem?_eq_some_iff.1 hp).1
 refine ⟨h.good.alloc _,h.gl.ext h.hrel (Ce P4 _ _ _) (fun _ h=>h.elim),⟨fun o x ho=>?_,fun o o' x x' b ho ho' hb hb'=>?_,fun o ho=>?_⟩,h1,h2,h3.trans h.defers⟩
 ·rw [hH'] at ho
  by_cases hop:o=p
  ·rw [if_pos hop] at ho
   cases ho
   subst hop
   rw [W2]
   exact ⟨w.heap.size,vs,rfl,heap_alloc_new w _,Nat.le_of_eq hc.1,hc.2.1,fun i x v a b=>hmono (hc.2.2 i x v a b),fun off sp=>by
    cases hM:M ⟨w.heap.size,off,sp⟩ with
    | none=>rfl
    | some v=>have:=h.good.lt hM; simp at this⟩
  ·rw [if_neg hop] at ho
   rw [A2 hop]
   have hob:=h.hrel.obj o x ho
   have hk:Nb M G (w.alloc (.cells vs elem)) x (G o):=hob.keep (fun _ _ e=>e) (fun b hb=>heap_alloc_old w _ b (Md hob hb)) (fun _ _ _ _ e=>e)
   cases x with
   | dead=>trivial
   | row cells e=>
    obtain ⟨b,us,g1,g2,g3,g4,g5,g6⟩:=hk
    exact ⟨b,us,g1,g2,g3,g4,fun i y v a c=>hmono (g5 i y v a c),g6⟩
   | tok e sz=>exact hk
   | map es=>
    obtain ⟨b,ms,cl,g1,g2,g3,g4,g5⟩:=hk
    exact ⟨b,ms,cl,g1,g2,g3,fun i k cs e a c=>⟨(g4 i k cs e a c).1,hmono (g4 i k cs e a c).2⟩,g5⟩
   | bld o' e=>
    obtain ⟨b,v0,g1,g2,g3,g4,g5⟩:=hk
    have ho':o'≠p:=fun e=>g4 (by rw [e]; exact hg)
    exact ⟨b,v0,g1,by rw [A2 ho']; exact g2,g3,by rw [A2 ho']; exact g4,g5⟩
   | buf e sz=>exact hk
 ·have key:∀ (o:Nat) x b,H'[o]?=some x→blk x (A6 G p (.pointer (some ⟨w.heap.size,0,none⟩)) o)=some b→(o≠p∧H[o]?=some x∧blk x (G o)=some b∧b < w.heap.size)∨(o=p∧b=w.heap.size):=by
   intro o x b ho hb
   rw [hH'] at ho
   by_cases hop:o=p
   ·rw [if_pos hop] at ho
    cases ho
    subst hop
    rw [W2] at hb
    simp [blk] at hb
    exact .inr ⟨rfl,hb.symm⟩
   ·rw [if_neg hop] at ho
    rw [A2 hop] at hb
    exact .inl ⟨hop,ho,hb,Md (h.hrel.obj o x ho) hb⟩
  rcases key o x b ho hb with ⟨q1,q2,q3,q4⟩ | ⟨q1,q2⟩ <;> rcases key o' x' b ho' hb' with ⟨p1,p2,p3,p4⟩ | ⟨p1,p2⟩
  ·exact h.hrel.apart o o' x x' b q2 p2 q3 p3
  ·omega
  ·omega
  ·omega
 ·rw [hl] at ho
  rw [A2 (by omega)]
  exact h.hrel.fresh o ho
theorem K2.fillRow {fr:Fr}{M:Mem}{G:Nat→Value}{w:World}{H:P0}(h:K2 fr M G w H){cs:List A}{vs:Array Value}{elem:TypeId}{p:Nat}(hK:fr.H0.length≤p)(hpl:p < H.length){H':P0}(hl:H'.length=H.length)
  (hH':∀ n,H'[n]?=if n=p then some (.row cs elem) else H[n]?):K2 fr M (A6 G p (.pointer (some ⟨w.heap.size,0,none⟩))) (w.alloc (.cells vs elem)) H':=by
 have hne:∀ {o:Nat} {x:Ob},fr.H0[o]?=some x→o≠p:=fun ho e=>by have:=(List.getElem?_eq_some_iff.1 ho).1; omega
 refine ⟨h.ext.trans (Ce P4 _ _ _) (fun _ h=>h.elim),fun b hb=>?_,by rw [hl]; exact h.len,fun o x ho ht=>?_,fun o x y ho ht hy=>?_⟩
 ·obtain ⟨o,x,ho,hx⟩:=hb
  rw [hH'] at ho
  by_cases hop:o=p
  ·rw [if_pos hop] at ho
   cases ho
   subst hop
   rw [W2] at hx
   simp [blk] at hx
   subst hx
   exact .inr h.ext.size
  ·rw [if_neg hop] at ho
   rw [A2 hop] at hx
   exact h.own b ⟨o,x,ho,hx⟩
 ·rw [A2 (hne ho)]
  exact h.keep o x ho ht
 ·rw [hH',if_neg (hne ho)] at hy
  exact h.kind o x y ho ht hy
theorem St.pad {C:Cx}{N:Nat}{M:Mem}{G:Nat→Value}{w:World}{env:Env}{H:P0}{a:Act}(h:St C N M G w env H a)(k:Nat):St C N M G w env (H++List.replicate k .dead) a:=by
 have get:∀ (o:Nat) x,(H++List.replicate k Ob.dead)[o]?=some x→H[o]?=some x∨x = .dead:=fun o x ho=>by
  by_cases hlt:o < H.length
  ·rw [List.getElem?_append_left hlt] at ho; exact .inl ho
  ·rw [List.getElem?_append_right (by omega),List.getElem?_replicate] at ho
   split at ho
   ·cases ho; exact .inr rfl
   ·cases ho
 refine ⟨h.good,h.gl,⟨fun o x ho=>?_,fun o o' x x' b ho ho' hb hb'=>?_,fun o ho=>h.hrel.fresh o (by simp at ho; omega)⟩,h.env,h.size,h.defers⟩
 ·rcases get o x ho with h1 | rfl
  ·exact h.hrel.obj o x h1
  ·trivial
 ·rcases get o x ho with h1 | rfl
  ·rcases get o' x' ho' with h2 | rfl
   ·exact h.hrel.apart o o' x x' b h1 h2 hb hb'
   ·simp [blk] at hb'
  ·simp [blk] at hb
theorem K2.pad {fr:Fr}{M:Mem}{G:Nat→Value}{w:World}{H:P0}(h:K2 fr M G w H)(k:Nat):K2 fr M G w (H++List.replicate k .dead):=by
 refine ⟨h.ext,fun b hb=>?_,by simp; have:=h.len; omega,h.keep,fun o x y ho ht hy=>?_⟩
 ·obtain ⟨o,x,ho,hx⟩:=hb
  by_cases hlt:o < H.length
  ·rw [List.getElem?_append_left hlt] at ho; exact h.own b ⟨o,x,ho,hx⟩
  ·rw [List.getElem?_append_right (by omega),List.getElem?_replicate] at ho
   split at ho
   ·cases ho; simp [blk] at hx
   ·cases ho
 ·have hlt:o < H.length:=Nat.lt_of_lt_of_le (List.getElem?_eq_some_iff.1 ho).1 h.len
  rw [List.getElem?_append_left hlt] at hy
  exact h.kind o x y ho ht hy
theorem K2.step {fr:Fr}{M M':Mem}{G G':Nat→Value}{w w':World}{H H':P0}(h:K2 fr M G w H)(h':K2 ⟨H,G,M,w⟩ M' G' w' H'):K2 fr M' G' w' H':=by
 refine ⟨h.ext.trans h'.ext (fun b hb=>h.own b hb),fun b hb=>?_,Nat.le_trans h.len h'.len,fun o x ho ht=>?_,fun o x y ho ht hy=>?_⟩
 ·rcases h'.own b hb with h1 | h1
  ·exact h.own b h1
  ·exact .inr (Nat.le_trans h.ext.size h1)
 ·have hlt:o < H.length:=Nat.lt_of_lt_of_le (List.getElem?_eq_some_iff.1 ho).1 h.len
  have hz:=List.getElem?_eq_getElem hlt
  exact (h'.keep o _ hz (h.kind o x _ ho ht hz)).trans (h.keep o x ho ht)
 ·have hlt:o < H.length:=Nat.lt_of_lt_of_le (List.getElem?_eq_some_iff.1 ho).1 h.len
  have hz:=List.getElem?_eq_getElem hlt
  exact h'.kind o _ y hz (h.kind o x _ ho ht hz) hy
theorem K2.refl {M:Mem}{G:Nat→Value}{w:World}{H:P0}:K2 ⟨H,G,M,w⟩ M G w H:=
 ⟨Ext.refl _ _ _,fun _ hb=>.inl hb,Nat.le_refl _,fun _ _ _ _=>rfl,fun o x y ho ht hy=>by
  have:x=y:=Option.some.inj (ho.symm.trans hy)
  rwa [← this]⟩
theorem P1d {listed:Array Bool}{fs:List (Nat×Nat)}(h:∀ q∈fs,listed.getD q.1 false=true):unf listed fs=[]:=by
 rw [List.eq_nil_iff_forall_not_mem]
 intro p hp
 obtain ⟨q,hq,_,hf⟩:=Kk.1 hp
 rw [h q hq] at hf
 cases hf
theorem AEx.drawL {F:Fx}(hC:T1 F.C){id:Nat}{L:List Oper}{env:Env}{H:P0}{Q:Po}(n:Nat)(ls:List Nat)(fs:List (Nat×Nat))(Hs:List P0)(hd:L.all (Xc F.N)=true)(hok:Q13 L n=true)(hnl:Nat.ble n L.length=true)(hlo:X1f L ls n=true)
  {H0:P0} (hH0:nth Hs 0=some H0) (hfo:B1g fs n H.length H0.length=true) (hpad:I4 (fs.map (·.2)) H0=H++List.replicate fs.length .dead) (hll:(Hs.all fun K=>Nat.ble H0.length K.length)=true) (hHl:Hs.length=ls.length+1) {Hm:P0} (hHm:nth Hs ls.length=some Hm)
  (h:AS F L ls fs Hs 0 0 (L.take n) env (fun env'=>E0 F L (L.drop n) env' Hm (Ul Q))):AEx F (.region id L.toArray true) env H Q:=by
 obtain ⟨hfl,hfu⟩:=N1i hfo
 have hn:=Nat.le_of_ble_eq_true hnl
 have hdst:∀ (i:Nat) o,L[i]?=some o→Xc F.N o=true:=fun i o ho=>List.all_eq_true.1 hd o (List.mem_of_getElem? ho)
 obtain ⟨out,houts,hQ⟩:=h.outs hn
 obtain ⟨hback,hwait⟩:=J17 hok
 obtain ⟨hln,hlw⟩:=M1i hlo
 let Hf:Nat→P0:=fun k=>(Hs[k]?).getD []
 have hHf:∀ k,k≤ls.length→Hs[k]?=some (Hf k):=fun k hk=>by
  have hlt:k < Hs.length:=by omega
  simp only [Hf,List.getElem?_eq_getElem hlt,Option.getD_some]
 rw [S2] at hH0 hHm
 have hf0:Hf 0=H0:=by simp only [Hf,hH0,Option.getD_some]
 have hfm:Hf ls.length=Hm:=by simp only [Hf,hHm,Option.getD_some]
 have hlen:∀ k,k≤ls.length→∀ p,p < H0.length→p < (Hf k).length:=fun k hk p hp=>by
  have:=Nat.le_of_ble_eq_true (List.all_eq_true.1 hll _ (List.mem_of_getElem? (hHf k hk)))
  omega
 intro fr M G w act hK hs hsi
 have hbase:=hsi.len
 let Qw:Exit→Act→World→Prop:=Fin F fr Q
 have hsz:L.toArray.size=L.length:=by simp
 have tail:∀ (m k:Nat) (listed:Array Bool) (a:Act) (w:World),k+m=L.length→n≤k→H16 L n listed→(∀ i,i < k→listed.getD i false=true)→(∀ i,k≤i→i < L.length→listed.getD i true=false)→
   wpList F.C.P L.toArray Qw (L.drop k) a w→wpAny F.C.P .any L.toArray Qw m listed a w:=by
  intro m
  induction m with
  | zero=>
   intro k listed a w hk _ hD h1 _ hw
   have hk':k=L.length:=by omega
   have hready:Region.ready .any L.toArray listed=[]:=by
    rw [List.eq_nil_iff_forall_not_mem]
    intro j hj
    obtain ⟨hu,o,ho,_⟩:=mem_ready.1 hj
    have hj':j < L.length:=by simpa using (Array.getElem?_eq_some_iff.1 ho).1
    have:=h1 j (by omega)
    rw [R9 hu] at this
    cases this
   rw [List.drop_eq_nil_of_le (by omega)] at hw
   exact ⟨hready,hw⟩
  | succ m ih=>
   intro k listed a w hk hnk hD h1 h2 hw
   have hkl:k < L.length:=by omega
   have hko:L[k]?=some L[k]:=List.getElem?_eq_getElem hkl
   have hkr:k∈Region.ready .any L.toArray listed:=mem_ready.2 ⟨h2 k (Nat.le_refl _) hkl,L[k],(by simp [hkl]),fun e he hb=>h1 e.on (hback k _ hko e he hb)⟩
   refine ⟨fun h0=>(by rw [h0] at hkr; cases hkr),fun j hj=>?_⟩
   obtain ⟨hu,o,ho,hall⟩:=mem_ready.1 hj
   have hjl:j < L.length:=by simpa using (Array.getElem?_eq_some_iff.1 ho).1
   have hjk:j=k:=by
    rcases Nat.lt_trichotomy j k with hlt | he | hgt
    ·have:=h1 j hlt; rw [R9 hu] at this; cases this
    ·exact he
    ·have hw':=hwait k j hgt hjl (.inr (by omega))
     have:=Ec hD.closed (by simpa using ho) (fun e he hb=>hall e he hb) L.length k hw'
     rw [R9 (h2 k (Nat.le_refl _) hkl)] at this
     cases this
   subst hjk
   rw [List.drop_eq_getElem_cons hkl] at hw
   have hwp:wpOp F.C.P L.toArray Qw j (wpList F.C.P L.toArray Qw (L.drop (j+1))) a w:=by
    unfold wpOp
    simp only [List.getElem?_toArray,hko]
    exact hw
   refine wpOp_mono (fun a' w' hw'=>ih (j+1) _ a' w' (by omega) (by omega) ⟨by simp [hD.size],fun i o' ho' hl e he hb=>?_⟩ (fun i hi=>?_) (fun i hi hi'=>?_) hw') hwp
   ·by_cases hij:j=i
    ·subst hij
     have:o'=o:=Option.some.inj (ho'.symm.trans (by simpa using ho))
     subst this
     exact getD_set_true (hall e he hb)
    ·rw [getD_set_ne false hij] at hl
     exact getD_set_true (hD.closed i o' ho' hl e he hb)
   ·by_cases hij:j=i
    ·subst hij
     simp [hD.size,hkl]
    ·rw [getD_set_ne false hij]
     exact h1 i (by omega)
   ·rw [getD_set_ne true (by omega)]
    exact h2 i (by omega) hi'
 have head:∀ (m:Nat) (listed:Array Bool) (M:Mem) (G:Nat→Value) (w:World) (a:Act),listed.toList.count true+m=L.length→H16 L n listed→(∀ i,n≤i→i < L.length→listed.getD i true=false)→
   (∀ p∈unf listed fs,G p = .tuple #[])→St F.C F.N M G w (L1 L env out (fun i=>listed.getD i false) n) (I4 (unf listed fs) (Hf (L5 ls listed))) a→K2 fr M G w (I4 (unf listed fs) (Hf (L5 ls listed)))→wpAny F.C.P .any L.toArray Qw m listed a w:=by
  intro m
  induction m with
  | zero=>
   intro listed M G w a hm hD htl hem hs hsi
   have hall:=W19 hD.size (by omega)
   have hnL:n=L.length:=by
    rcases Nat.lt_or_ge n L.length with h' | h'
    ·have:=hall n h'
     rw [R9 (htl n (Nat.le_refl _) h')] at this
     cases this
    ·omega
   have henv:L1 L env out (fun i=>listed.getD i false) n=L1 L env out (fun _=>true) n:=by
    funext t
    simp only [L1]
    rw [E6 fun i hi _=>hall i (by omega)]
   have hc:L5 ls listed=ls.length:=Y1f fun l hl=>hall l (by have:=hln l hl; omega)
   rw [hc,hfm,P1d fun q hq=>hall q.1 (by have:=(hfl q hq).1; omega),V1f] at hs hsi
   rw [henv] at hs
   refine tail 0 n listed a w (by omega) (Nat.le_refl _) hD (fun i hi=>hall i (by omega)) (fun i h1 h2=>by omega) ?_
   exact hQ fr M G w a Qw hK (fun o ho=>List.all_eq_true.1 hd o (List.mem_of_mem_drop ho)) hs hsi fun env' H' M' G' w' a' hq hs' hsi'=>⟨.normal,_,_,_,_,rfl,hq,hs',hsi'⟩
  | succ m ih=>
   intro listed M G w a hm hD htl hem hs hsi
   by_cases hdone:∀ i,i < n→listed.getD i false=true
   ·
    have henv:L1 L env out (fun i=>listed.getD i false) n=L1 L env out (fun _=>true) n:=by
     funext t
     simp only [L1]
     rw [E6 fun i hi _=>hdone i hi]
    have hc:L5 ls listed=ls.length:=Y1f fun l hl=>hdone l (hln l hl)
    rw [hc,hfm,P1d fun q hq=>hdone q.1 (hfl q hq).1,V1f] at hs hsi
    rw [henv] at hs
    have hcount:listed.toList.count true=n:=by
     have hl:listed.toList=List.replicate n true++List.replicate (L.length - n) false:=by
      apply List.ext_getElem?
      intro i
      by_cases hi:i < n
      ·have hv:=hdone i hi
       have hi':i < listed.size:=by rw [hD.size]; omega
       rw [List.getElem?_append_left (by simpa using hi),List.getElem?_replicate,if_pos hi,Array.getElem?_toList]
       simpa [hi'] using hv
      ·by_cases hi2:i < L.length
       ·have hv:=htl i (by omega) hi2
        have hi':i < listed.size:=by rw [hD.size]; omega
        rw [List.getElem?_append_right (by simp; omega),List.getElem?_replicate,if_pos (by simp; omega),Array.getElem?_toList]
        simpa [hi'] using hv
       ·rw [List.getElem?_eq_none (by simp [hD.size]; omega),List.getElem?_eq_none (by simp; omega)]
     rw [hl,List.count_append,List.count_replicate,List.count_replicate]
     simp
    refine tail (m+1) n listed a w (by omega) (Nat.le_refl _) hD hdone htl ?_
    exact hQ fr M G w a Qw hK (fun o ho=>List.all_eq_true.1 hd o (List.mem_of_mem_drop ho)) hs hsi fun env' H' M' G' w' a' hq hs' hsi'=>⟨.normal,_,_,_,_,rfl,hq,hs',hsi'⟩
   ·
    have hex:∃ i,i < n∧listed.getD i false=false∧∀ k,k < i→listed.getD k false=true:=by
     have:∃ i,i < n∧listed.getD i false=false:=by
      rcases Classical.em (∃ i,i < n∧listed.getD i false=false) with h' | h'
      ·exact h'
      ·refine absurd (fun i hi=>?_) hdone
       cases hv:listed.getD i false with
       | true=>rfl
       | false=>exact absurd ⟨i,hi,hv⟩ h'
     obtain ⟨i,hi⟩:=this
     induction i using Nat.strongRecOn with
     | _ i ihi=>
      by_cases hk:∃ k,k < i∧listed.getD k false=false
      ·obtain ⟨k,hk1,hk2⟩:=hk
       exact ihi k hk1 ⟨by omega,hk2⟩
      ·refine ⟨i,hi.1,hi.2,fun k hk'=>?_⟩
       cases hv:listed.getD k false with
       | true=>rfl
       | false=>exact absurd ⟨k,hk',hv⟩ hk
    obtain ⟨i0,hi0,hu0,hbelow⟩:=hex
    have hi0l:i0 < L.length:=by omega
    have hi0o:L[i0]?=some L[i0]:=List.getElem?_eq_getElem hi0l
    have hu0':listed.getD i0 true=false:=by
     have hi':i0 < listed.size:=by rw [hD.size]; omega
     simpa [hi'] using hu0
    have hr0:i0∈Region.ready .any L.toArray listed:=mem_ready.2 ⟨hu0',L[i0],(by simp [hi0l]),fun e he hb=>hbelow e.on (hback i0 _ hi0o e he hb)⟩
    refine ⟨fun h0=>(by rw [h0] at hr0; cases hr0),fun j hj=>?_⟩
    obtain ⟨hu,o,ho,hall⟩:=mem_ready.1 hj
    have hoL:L[j]?=some o:=by simpa using ho
    have hjl:j < L.length:=(List.getElem?_eq_some_iff.1 hoL).1
    have hjn:j < n:=by
     rcases Nat.lt_or_ge j n with h' | h'
     ·exact h'
     ·have hw':=hwait i0 j (by omega) hjl (.inr h')
      have:=Ec hD.closed hoL (fun e he hb=>hall e he hb) L.length i0 hw'
      rw [hu0] at this
      cases this
    have hclash:∀ k,k≠j→k < L.length→(Dc L k j=true∨Dc L j k=true)→(listed.getD k false=true ↔ k < j):=by
     intro k hkj hkl hc
     rcases Nat.lt_or_ge k j with hlt | hge
     ·refine ⟨fun _=>hlt,fun _=>?_⟩
      have hcc:Dc L k j=true:=by
       rcases hc with hc | hc
       ·exact hc
       ·exact Ps hc
      exact Ec hD.closed hoL (fun e he hb=>hall e he hb) L.length k (hwait k j hlt hjl (.inl hcc))
     ·refine ⟨fun hl=>?_,fun h'=>by omega⟩
      have hcc:Dc L j k=true:=by
       rcases hc with hc | hc
       ·exact Ps hc
       ·exact hc
      have:=Vg hD.closed L.length k j (hwait j k (by omega) hkl (.inl hcc)) hl
      rw [R9 hu] at this
      cases this
    have hread:∀ t∈Ya L o,L1 L env out (fun i=>listed.getD i false) n t=L1 L env out (fun _=>true) j t:=by
     intro t ht
     have hw:∀ k,k≠j→(L[k]?).bind (·.dst)=some t→Dc L k j=true:=by
      intro k hkj hk
      unfold Dc
      simp only [S2,hoL]
      cases hk':L[k]? with
      | none=>rw [hk'] at hk; cases hk
      | some p=>
       rw [hk'] at hk
       simp only [Option.bind_some] at hk
       simp only [hk]
       have:(Ya L o).contains t=true:=by simpa using ht
       rw [this]
       simp
     have hlt:∀ k,(L[k]?).bind (·.dst)=some t→k < L.length:=by
      intro k hk
      cases hk':L[k]? with
      | none=>rw [hk'] at hk; cases hk
      | some p=>exact (List.getElem?_eq_some_iff.1 hk').1
     simp only [L1]
     have e1:N3 L (fun i=>listed.getD i false) t n=N3 L (fun i=>decide (i < j)) t n:=E6 fun k hk hkd=>by
      by_cases hkj:k=j
      ·subst hkj
       simp [R9 hu]
      ·have:=hclash k hkj (hlt k hkd) (.inl (hw k hkj hkd))
       cases hb:listed.getD k false with
       | true=>simp [this.1 hb]
       | false=>
        have:¬ k < j:=fun h'=>by rw [this.2 h'] at hb; cases hb
        simp [this]
     have e2:N3 L (fun i=>decide (i < j)) t n=N3 L (fun i=>decide (i < j)) t j:=Iq (by omega) fun k h1 h2 _=>by simp; omega
     have e3:N3 L (fun i=>decide (i < j)) t j=N3 L (fun _=>true) t j:=E6 fun k hk _=>by simp [hk]
     rw [e1,e2,e3]
    have hafter:L1 L env out (fun i=>(listed.setIfInBounds j true).getD i false) n=put (L1 L env out (fun i=>listed.getD i false) n) o.dst (out j):=by
     have hjs:j < listed.size:=by rw [hD.size]; exact hjl
     have Lc:∀ k,(listed.setIfInBounds j true).getD k false=(decide (k=j)||listed.getD k false):=by
      intro k
      by_cases hk:j=k
      ·subst hk; simp [hjs]
      ·rw [getD_set_ne false hk]
       have:¬ k=j:=fun h'=>hk h'.symm
       simp [this]
     funext t
     simp only [L1,Lc]
     cases hdo:o.dst with
     | none=>
      have:N3 L (fun i=>decide (i=j)||listed.getD i false) t n=N3 L (fun i=>listed.getD i false) t n:=E6 fun k hk hkd=>by
       have:k≠j:=fun h'=>by subst h'; rw [hoL] at hkd; simp [hdo] at hkd
       simp [this]
      rw [this]
      rfl
     | some d=>
      simp only [put,upd]
      by_cases htd:t=d
      ·subst htd
       have hbt:Nat.beq t t=true:=by simp
       rw [hbt,_root_.cond_true]
       have e1:N3 L (fun i=>decide (i=j)||listed.getD i false) t n=N3 L (fun i=>decide (i=j)||listed.getD i false) t (j+1):=Iq (by omega) fun k h1 h2 hkd=>by
        have hkj:k≠j:=by omega
        have hcl:Dc L k j=true:=by
         unfold Dc
         cases hk':L[k]? with
         | none=>rw [hk'] at hkd; cases hkd
         | some p=>
          rw [hk'] at hkd
          simp only [Option.bind_some] at hkd
          simp only [S2,hoL,hk',hkd,hdo]
          simp
        have:=hclash k hkj (by omega) (.inl hcl)
        cases hb:listed.getD k false with
        | false=>simp [hkj]
        | true=>have:=this.1 hb; omega
       rw [e1]
       simp [N3,hoL,hdo]
      ·have:Nat.beq t d=false:=by
        cases hb:Nat.beq t d with
        | false=>rfl
        | true=>exact absurd (Nat.eq_of_beq_eq_true hb) htd
       rw [this,_root_.cond_false]
       have:N3 L (fun i=>decide (i=j)||listed.getD i false) t n=N3 L (fun i=>listed.getD i false) t n:=E6 fun k hk hkd=>by
        have:k≠j:=fun h'=>by subst h'; rw [hoL] at hkd; simp [hdo] at hkd; exact htd hkd.symm
        simp [this]
       rw [this]
       rfl
    have hD':H16 L n (listed.setIfInBounds j true):=⟨by simp [hD.size],fun i o' ho' hl e he hb=>by
     by_cases hij:j=i
     ·subst hij
      have:o'=o:=Option.some.inj (ho'.symm.trans hoL)
      subst this
      exact getD_set_true (hall e he hb)
     ·rw [getD_set_ne false hij] at hl
      exact getD_set_true (hD.closed i o' ho' hl e he hb)⟩
    have htl':∀ i,n≤i→i < L.length→(listed.setIfInBounds j true).getD i true=false:=fun i h1 h2=>by
     rw [getD_set_ne true (by omega)]
     exact htl i h1 h2
    have hcnt:(listed.setIfInBounds j true).toList.count true+m=L.length:=by rw [count_set hu]; omega
    have hwcongr:D1 L (L1 L env out (fun i=>listed.getD i false) n) o=D1 L (L1 L env out (fun _=>true) j) o:=Hr hread
    have hev:∀ y∈o.op.operands,ev F.C.GL (L1 L env out (fun i=>listed.getD i false) n) y=ev F.C.GL (L1 L env out (fun _=>true) j) y:=by
     intro y hy
     refine Iz fun t ht=>hread t ?_
     subst ht
     simp only [Ya,List.mem_append,List.mem_filterMap]
     exact .inl ⟨.tmp t,by simpa using hy,rfl⟩
    have hjs:j < listed.size:=by rw [hD.size]; exact hjl
    have hunw:∀ p∈unf listed fs,p∈unw L fs j:=fun p hp=>by
     obtain ⟨q,hq,he,hf⟩:=Kk.1 hp
     refine V1b.2 ⟨q,hq,he,?_⟩
     cases hb:Xe L L.length j q.1 with
     | false=>rfl
     | true=>rw [Ec hD.closed hoL (fun e he hb=>hall e he hb) L.length q.1 hb] at hf; cases hf
    rcases houts j o hjn hoL with ⟨hnl',hfp,hq⟩ | ⟨s,H1,H2,hs1,hfp,hw,hs2,hs3,hl⟩ | ⟨t,cs,p,hfp,hnl',hw,hfl',hrow,hx⟩
    ·have hcs:L5 ls (listed.setIfInBounds j true)=L5 ls listed:=C14 (by simpa using hnl')
     have hus:unf (listed.setIfInBounds j true) fs=unf listed fs:=C18 (D14 hfp)
     have hlo':loN L ls j≤L5 ls listed:=by
      unfold loN L5
      rw [← List.countP_eq_length_filter,← List.countP_eq_length_filter]
      exact List.countP_mono_left fun l _ hl=>Ec hD.closed hoL (fun e he hb=>hall e he hb) L.length l hl
     have hle:L5 ls listed≤ls.length:=List.length_filter_le _ _
     have hmem:Hf (L5 ls listed)∈Hs.drop (loN L ls j):=by
      refine List.mem_of_getElem? (i:=L5 ls listed - loN L ls j) ?_
      rw [List.getElem?_drop,show loN L ls j+(L5 ls listed - loN L ls j)=L5 ls listed by omega]
      exact hHf _ hle
     unfold wpOp
     simp only [List.getElem?_toArray,hoL]
     rcases hq _ hmem _ hunw with ⟨hw,hy⟩ | ⟨hw,hx⟩
     ·rw [Lf hs (hwcongr.trans hw)]
      simp only [if_true]
      refine .inl (hy M G w a _ Qw (fun y hyo=>by rw [← hev y hyo]; exact hs.eval y) hs.good hs.gl hs.hrel fun v M' w' h1 h2 h3=>?_)
      refine ih _ M' G w' _ hcnt hD' htl' (by rw [hus]; exact hem) ?_ (by rw [hcs,hus]; exact hsi.quiet h3)
      rw [hafter,hcs,hus]
      exact hs.quiet (O3 (hdst j o hoL)) h1 h2 h3
     ·rw [Lf hs (hwcongr.trans hw)]
      simp only [Bool.false_eq_true,if_false]
      refine ih _ M G w _ hcnt hD' htl' (by rw [hus]; exact hem) ?_ (by rw [hcs,hus]; exact hsi)
      rw [hafter,hx,hcs,hus]
      exact hs.quiet (O3 (hdst j o hoL)) (.tup rfl fun i x v h=>by simp at h) hs.good (Ext.refl _ _ _)
    ·have hsj:ls[s]?=some j:=hs1
     have hcs:L5 ls listed=s:=N1j hsj (fun k l hk hl=>Ec hD.closed hoL (fun e he hb=>hall e he hb) L.length l (hlw s k j l hsj hl hk).2) (fun k l hk hl=>by
      cases hv:listed.getD l false with
      | false=>rfl
      | true=>
       rcases Nat.lt_or_ge s k with hlt | hge
       ·have:=Vg hD.closed L.length l j (hlw k s l j hl hsj hlt).2 hv
        rw [R9 hu] at this; cases this
       ·have:k=s:=by omega
        subst this
        rw [hsj] at hl
        cases hl
        rw [R9 hu] at hv; cases hv)
     have hcs':L5 ls (listed.setIfInBounds j true)=s+1:=by rw [← hcs]; exact Z1f (fun a b x y h1 h2 h3=>by have:=(hlw b a y x h2 h1 h3).1; omega) hsj (R9 hu) hjs
     have hsl:s < ls.length:=(List.getElem?_eq_some_iff.1 hsj).1
     have e1:Hf s=H1:=Option.some.inj ((hHf s (by omega)).symm.trans hs2)
     have e2:Hf (s+1)=H2:=Option.some.inj ((hHf (s+1) (by omega)).symm.trans hs3)
     have hus:unf (listed.setIfInBounds j true) fs=unf listed fs:=C18 (D14 hfp)
     rw [hcs,e1] at hs hsi
     have hop:=hl _ hunw (L1 L env out (fun i=>listed.getD i false) n) (I4 (unf listed fs) H1).length hread (fun e h=>e=L1 L env out (fun i=>(listed.setIfInBounds j true).getD i false) n∧h=I4 (unf listed fs) H2) ⟨hafter.symm,rfl⟩
     let Qw':Exit→Act→World→Prop:=fun e a w=>match e with
      | .normal=>wpAny F.C.P .any L.toArray Qw m (listed.setIfInBounds j true) a w
      | e=>Fin F fr Q e a w
     have:=hop ⟨I4 (unf listed fs) H1,G,M,w⟩ M G w a Qw' rfl (fun o' ho'=>by
      rw [List.mem_singleton] at ho'
      subst ho'
      exact hdst j _ hoL) hs .refl (fun env' H' M' G' w' a' hq hs' hsi'=>by
       obtain ⟨rfl,rfl⟩:=hq
       refine ih _ M' G' w' a' hcnt hD' htl' (by
        rw [hus]
        intro p hp
        obtain ⟨q,hq1,hq2,hq3⟩:=Kk.1 hp
        have hlt:p < (I4 (unf listed fs) H1).length:=by
         rw [Kd,← e1]
         exact hlen s (by omega) p (hq2 ▸ (hfl q hq1).2.2)
        have hdead:(I4 (unf listed fs) H1)[p]?=some .dead:=by
         rw [Kd] at hlt
         rw [Ai,List.getElem?_eq_getElem hlt]
         have:(unf listed fs).contains p=true:=by simpa using hp
         simp only [Option.map_some,this,_root_.cond_true]
        exact (hsi'.keep p _ hdead rfl).trans (hem p hp)) ?_ ?_
       ·rw [hcs',e2,hus]; exact hs'
       ·rw [hcs',e2,hus]; exact hsi.step hsi')
     simp only [wpList] at this
     unfold wpOp
     simp only [List.getElem?_toArray,hoL]
     have hout:LetsOut Qw'→LetsOut (Fin F fr Q):=fun ⟨a,w,h⟩=>⟨a,w,h⟩
     split
     ·rename_i hw
      rw [if_pos hw] at this
      rcases this with h1 | ⟨h1,h2⟩
      ·exact .inl (H1d (fun c a w h=>h) hout h1)
      ·exact .inr ⟨h1,hout h2⟩
     ·rename_i hw
      rw [if_neg hw] at this
      exact this
    ·have hcs:L5 ls (listed.setIfInBounds j true)=L5 ls listed:=C14 (by simpa using hnl')
     have hle:L5 ls listed≤ls.length:=List.length_filter_le _ _
     have hjp:=O1d hfp
     obtain ⟨f1,f2,f3⟩:=hfl _ hjp
     have hhi:L5 ls listed≤hiN L ls j:=by
      unfold hiN L5
      rw [← List.countP_eq_length_filter,← List.countP_eq_length_filter]
      refine List.countP_mono_left fun l _ hl=>?_
      cases hb:Xe L L.length l j with
      | false=>rfl
      | true=>
       have:=Vg hD.closed L.length l j hb hl
       rw [R9 hu] at this; cases this
     have hmem:Hf (L5 ls listed)∈Hs.take (hiN L ls j+1):=by
      refine List.mem_of_getElem? (i:=L5 ls listed) ?_
      rw [List.getElem?_take,if_pos (by omega)]
      exact hHf _ hle
     have hr:=hrow _ hmem
     rw [S2] at hr
     have hpu:p∈unf listed fs:=Kk.2 ⟨_,hjp,rfl,R9 hu⟩
     have hbef:(I4 (unf listed fs) (Hf (L5 ls listed)))[p]?=some .dead:=by
      rw [Ai,hr]
      have:(unf listed fs).contains p=true:=by simpa using hpu
      simp only [Option.map_some,this,_root_.cond_true]
     have hmemu:∀ r,r∈unf (listed.setIfInBounds j true) fs ↔ r∈unf listed fs∧r≠p:=by
      intro r
      rw [Kk,Kk]
      constructor
      ·rintro ⟨q,q1,q2,q3⟩
       have hne:j≠q.1:=fun e=>by rw [← e] at q3; simp [hjs] at q3
       rw [getD_set_ne false hne] at q3
       exact ⟨⟨q,q1,q2,q3⟩,fun e=>hne (by rw [hfu q q1 _ hjp (.inr (by rw [q2,e]))])⟩
      ·rintro ⟨⟨q,q1,q2,q3⟩,hne⟩
       refine ⟨q,q1,q2,?_⟩
       rw [getD_set_ne false fun e=>hne (by rw [← q2,hfu q q1 _ hjp (.inl e.symm)])]
       exact q3
     have haft:∀ r,(I4 (unf (listed.setIfInBounds j true) fs) (Hf (L5 ls listed)))[r]?=if r=p then some (.row cs t) else (I4 (unf listed fs) (Hf (L5 ls listed)))[r]?:=by
      intro r
      rw [Ai,Ai]
      by_cases hrp:r=p
      ·subst hrp
       rw [if_pos rfl,hr]
       have:(unf (listed.setIfInBounds j true) fs).contains r=false:=by
        cases hb:(unf (listed.setIfInBounds j true) fs).contains r with
        | false=>rfl
        | true=>exact absurd rfl ((hmemu r).1 (by simpa using hb)).2
       simp only [Option.map_some,this,_root_.cond_false]
      ·rw [if_neg hrp]
       have:(unf (listed.setIfInBounds j true) fs).contains r=(unf listed fs).contains r:=by
        rw [Bool.eq_iff_iff]
        simp only [List.contains_iff_mem,hmemu r]
        exact ⟨fun h=>h.1,fun h=>⟨h,hrp⟩⟩
       rw [this]
     obtain ⟨vs,hv,hrun⟩:=hfl' _ _ M G w a hread hs
     have hd':∀ d,o.dst=some d→d < F.N:=O3 (hdst j o hoL)
     unfold wpOp
     simp only [List.getElem?_toArray,hoL]
     rw [Lf hs (hwcongr.trans hw)]
     simp only [if_true]
     refine .inl ?_
     unfold Oper.wp
     rw [hrun]
     refine ih _ M (A6 G p (.pointer (some ⟨w.heap.size,0,none⟩))) (w.alloc (.cells vs t)) _ hcnt hD' htl' (fun r hr'=>?_) ?_ ?_
     ·obtain ⟨r1,r2⟩:=(hmemu r).1 hr'
      rw [A2 r2]
      exact hem r r1
     ·rw [hafter,hcs,hx]
      exact hs.fillRow hd' hbef (hem p hpu) hv (by rw [Kd,Kd]) haft
     ·rw [hcs]
      exact hsi.fillRow (cs:=cs) (p:=p) (by omega) (List.getElem?_eq_some_iff.1 hbef).1 (by rw [Kd,Kd]) haft
 refine wp_region_any hC.mixed ?_
 have h0:∀ i,(Array.replicate L.toArray.size false).getD i false=false:=fun i=>by
  rcases Nat.lt_or_ge i L.length with h' | h' <;> simp [h']
 have hc0:L5 ls (Array.replicate L.toArray.size false)=0:=S1n h0
 have hu0:unf (Array.replicate L.toArray.size false) fs=fs.map (·.2):=by
  have:∀ fs:List (Nat×Nat),unf (Array.replicate L.toArray.size false) fs=fs.map (·.2):=by
   intro fs
   induction fs with
   | nil=>rfl
   | cons q r ih=>simp only [unf,h0,_root_.cond_false,ih,List.map_cons]
  exact this fs
 have hs':St F.C F.N M G { w with drawn:=w.drawn+1 } env H act:=
  ⟨fun a v e=>hs.good a v e,hs.gl.ext hs.hrel (S:=P4) ⟨fun _ _ e=>e,Nat.le_refl _,rfl,rfl,rfl,fun _ _ _=>rfl,fun _ _ e=>.inl e⟩ (fun _ h=>h.elim),hs.hrel.ext (S:=P4) ⟨fun _ _ e=>e,Nat.le_refl _,rfl,rfl,rfl,fun _ _ _=>rfl,fun _ _ e=>.inl e⟩ (fun _ _ h=>h),hs.env,hs.size,hs.defers⟩
 have hsi':K2 fr M G { w with drawn:=w.drawn+1 } H:=hsi.quiet ⟨fun _ _ e=>e,Nat.le_refl _,rfl,rfl,rfl,fun _ _ _=>rfl,fun _ _ e=>.inl e⟩
 have henv0:L1 L env out (fun i=>(Array.replicate L.toArray.size false).getD i false) n=env:=by
  funext t
  simp only [L1]
  cases hl:N3 L (fun i=>(Array.replicate L.toArray.size false).getD i false) t n with
  | none=>rfl
  | some i=>have:=(An hl).2.1; rw [h0] at this; cases this
 have:=head L.length (Array.replicate L.toArray.size false) M G _ act (by simp [List.count_replicate]) ⟨by simp,fun j o ho hl=>by rw [h0] at hl; cases hl⟩ (fun i h1 h2=>by simp [h2])
  (fun p hp=>by
   obtain ⟨q,q1,q2,_⟩:=Kk.1 hp
   exact hs.hrel.fresh p (by have:=(hfl q q1).2.1; omega))
  (by rw [henv0,hc0,hf0,hu0,hpad]; exact hs'.pad _) (by rw [hc0,hf0,hu0,hpad]; exact hsi'.pad _)
 rw [hsz]
 rw [hsz] at this
 exact this
end Go.Am

namespace Go.Am
def I1a (C:Cx)(L:List Oper)(o:Oper)(env:Env)(ps:List Nat):List P0→List (Option (Option Nat×Prop×A))
 | []=>[]
 | H::r=>Td C L o env (I4 ps H)::I1a C L o env ps r
def R1e (x:Option (Option Nat×Prop×A)):List P0→List (Option (Option Nat×Prop×A))
 | []=>[]
 | _::r=>x::R1e x r
theorem J1a {C:Cx}{L:List Oper}{o:Oper}{env:Env}{ps:List Nat}{x:Option (Option Nat×Prop×A)}:∀ {Hs:List P0},I1a C L o env ps Hs=R1e x Hs→∀ H∈Hs,Td C L o env (I4 ps H)=x
 | [],_,H,h=>by cases h
 | K::r,h,H,hm=>by
  simp only [I1a,R1e,List.cons.injEq] at h
  cases hm with
  | head=>exact h.1
  | tail _ hm=>exact J1a h.2 H hm
theorem K1l {i:TI}{x:A}{H:P0}{ps ps0:List Nat}(hps:∀ p∈ps,p∈ps0){y:A}(h:Vc i x (I4 ps0 H)=some y):Vc i x (I4 ps H)=some y:=by
 unfold Vc at h ⊢
 split at h
 ·rename_i o off
  simp only [S2,Ai] at h ⊢
  cases hz:H[o]? with
  | none=>rw [hz] at h; simp at h
  | some z=>
   rw [hz] at h
   simp only [Option.map_some] at h ⊢
   cases h0:ps0.contains o with
   | true=>rw [h0] at h; simp at h
   | false=>
    have:ps.contains o=false:=by
     cases hb:ps.contains o with
     | false=>rfl
     | true=>
      have h1:=hps o (by simpa using hb)
      have h2:ps0.contains o=true:=by simpa using h1
      rw [h0] at h2; cases h2
    rw [h0] at h
    rw [this]
    exact h
 ·exact h
 ·cases h
theorem L1q {T:TT}{GL:GT}{op:Op}{env:Env}{H:P0}{ps ps0:List Nat}(hps:∀ p∈ps,p∈ps0){c:Prop}{y:A}(h:opA T GL op env (I4 ps0 H)=some (c,y)):opA T GL op env (I4 ps H)=some (c,y):=by
 cases op with
 | load t a=>
  simp only [opA] at h ⊢
  cases ht:Y1 T t with
  | none=>rw [ht] at h; cases h
  | some i=>
   rw [ht] at h
   simp only at h ⊢
   cases hl:Vc i (ev GL env a) (I4 ps0 H) with
   | none=>rw [hl] at h; cases h
   | some z=>
    rw [hl] at h
    rw [K1l hps hl]
    exact h
 | makeFunc f first caps=>cases f <;> exact h
 | call c=>
  obtain ⟨cl,as,ts⟩:=c
  cases cl <;> exact h
 | _=>exact h
theorem L1l {C:Cx}{L:List Oper}{o:Oper}{env:Env}{H:P0}{ps ps0:List Nat}(hps:∀ p∈ps,p∈ps0){d:Option Nat}{c:Prop}{y:A}(h:Td C L o env (I4 ps0 H)=some (d,c,y)):Td C L o env (I4 ps H)=some (d,c,y):=by
 unfold Td at h ⊢
 split at h
 ·rename_i hw
  split at h
  ·rename_i c' x' ho
   rw [L1q hps ho]
   exact h
  ·cases h
 ·exact h
 ·cases h
theorem V1s {C:Cx}(hC:T1 C){L:List Oper}{o:Oper}{env:Env}{H:P0}{d:Option Nat}{c:Prop}{x:A}(h:Td C L o env H=some (d,c,x))(hc:c):o.dst=d∧Nv C L o env H x:=by
 have:=AQ.q (l:=[]) (Q:=fun _=>True) hC h hc trivial
 unfold Td at h
 split at h
 ·rename_i hw
  split at h
  ·rename_i c' x' ho
   split at h
   ·rename_i y hy
    have hyx:=Jj hy
    subst hyx
    have:o.dst=d∧c'=c∧y=x:=by
     split at h
     ·rename_i t ht
      simp only [Option.some.injEq,Prod.mk.injEq] at h
      exact ⟨ht.trans h.1,h.2.1,h.2.2⟩
     ·rename_i ht
      simp only [Option.some.injEq,Prod.mk.injEq] at h
      exact ⟨ht.trans h.1,h.2.1,h.2.2⟩
    obtain ⟨rfl,rfl,rfl⟩:=this
    exact ⟨rfl,.inl ⟨hw,Om hC ho hc⟩⟩
   ·cases h
  ·cases h
 ·rename_i hw
  have:o.dst=d∧A.tup []=x:=by
   split at h
   ·rename_i t ht
    simp only [Option.some.injEq,Prod.mk.injEq] at h
    exact ⟨ht.trans h.1,h.2.2⟩
   ·rename_i ht
    simp only [Option.some.injEq,Prod.mk.injEq] at h
    exact ⟨ht.trans h.1,h.2.2⟩
  obtain ⟨rfl,rfl⟩:=this
  exact ⟨rfl,.inr ⟨hw,rfl⟩⟩
 ·cases h
def C1g (C:Cx)(L:List Oper)(o:Oper)(env:Env):Option (Option Nat×TypeId×List A):=
 match D1 L env o,o.op,K5 o with
 | some true,.alloc t,some d=>match Y1 C.T t with
  | some i=>match Wi (i.zero.map zf) with | some cs=>some (d,t,cs) | none=>none
  | none=>none
 | some true,.box t y,some d=>match Pb (ev C.GL env y) with
  | some cs=>match Wi cs with | some cs=>some (d,t,cs) | none=>none
  | none=>none
 | _,_,_=>none
theorem O1i {F:Fx}(hC:T1 F.C){L:List Oper}{o:Oper}{env:Env}{d:Option Nat}{t:TypeId}{cs:List A}(h:C1g F.C L o env=some (d,t,cs)):D1 L env o=some true∧o.dst=d∧W1f F L o env t cs:=by
 unfold C1g at h
 split at h
 ·rename_i t' d' hw ho hd
  split at h
  ·rename_i i ht
   split at h
   ·rename_i cs' hcs
    simp only [Option.some.injEq,Prod.mk.injEq] at h
    obtain ⟨rfl,rfl,rfl⟩:=h
    have:=Ui hcs
    subst this
    refine ⟨hw,(Z3 hd),fun env' H M G w a hr hs=>?_⟩
    obtain ⟨z,h1,h2⟩:=Fw (M:=M) (G:=G) hC.tok ht
    exact ⟨z.cells,h2,by unfold execOp; simp [ho,Instr.alloc,h1,newVar,newRow]⟩
   ·cases h
  ·cases h
 ·rename_i t' y d' hw ho hd
  split at h
  ·rename_i cs1 hc1
   split at h
   ·rename_i cs' hcs
    simp only [Option.some.injEq,Prod.mk.injEq] at h
    obtain ⟨rfl,rfl,rfl⟩:=h
    have:=Ui hcs
    subst this
    refine ⟨hw,(Z3 hd),fun env' H M G w a hr hs=>?_⟩
    have hy:ev F.C.GL env' y=ev F.C.GL env y:=Iz fun u hu=>hr u (by
     subst hu
     simp only [Ya,List.mem_append,List.mem_filterMap]
     exact .inl ⟨.tmp u,by simp [ho,Op.operands],rfl⟩)
    obtain ⟨c1,c2,c3⟩:=Ms (hs.eval y) (by rw [hy]; exact hc1)
    exact ⟨(a.eval y).cells,⟨c1.symm,c2,c3⟩,by unfold execOp; simp [ho,Instr.box,newVar,newRow]⟩
   ·cases h
  ·cases h
 ·cases h
def S1e (p:Nat):List P0→List (Option Ob)
 | []=>[]
 | H::r=>nth H p::S1e p r
def T1e (x:Option Ob):List P0→List (Option Ob)
 | []=>[]
 | _::r=>x::T1e x r
theorem Q1d {p:Nat}{x:Option Ob}:∀ {Hs:List P0},S1e p Hs=T1e x Hs→∀ H∈Hs,nth H p=x
 | [],_,H,h=>by cases h
 | K::r,h,H,hm=>by
  simp only [S1e,T1e,List.cons.injEq] at h
  cases hm with
  | head=>exact h.1
  | tail _ hm=>exact Q1d h.2 H hm
section
variable {F:Fx}{L l:List Oper}{o:Oper}{env:Env}{ls:List Nat}{fs:List (Nat×Nat)}{Hs:List P0}{j s:Nat}{Q:Env→Prop}
theorem AS.nil (h:Q env):AS F L ls fs Hs j s [] env Q:=h
theorem AS.y {d:Option Nat}{x:A}(hd:o.dst=d)(hn:ls.contains j=false)(hf:Nj fs j=none)(h:∀ H,Nv F.C L o env H x)(k:AS F L ls fs Hs (j+1) s l (put env d x) Q):AS F L ls fs Hs j s (o::l) env Q:=
 .inl ⟨d,x,hd,hn,hf,fun _ _ _ _=>h _,k⟩
theorem AS.q (hC:T1 F.C){d:Option Nat}{x:A}(h:I1a F.C L o env (unw L fs j) (Hs.drop (loN L ls j))=R1e (some (d,True,x)) (Hs.drop (loN L ls j)))(hd:o.dst=d)(hn:ls.contains j=false)(hf:Nj fs j=none)(k:AS F L ls fs Hs (j+1) s l (put env d x) Q):AS F L ls fs Hs j s (o::l) env Q:=
 .inl ⟨d,x,hd,hn,hf,fun H hm _ hps=>(V1s hC (L1l hps (J1a h H hm)) trivial).2,k⟩
theorem AS.c {d:Option Nat}{f:FuncId}{xs:List A}{x:A}(hc:L0 F.C f xs [] (Ret [] x))(h:Mf F.C L o env=some (d,f,xs))(hx:E2 0 xs=true)(hn:ls.contains j=false)(hf:Nj fs j=none)(k:AS F L ls fs Hs (j+1) s l (put env d x) Q):AS F L ls fs Hs j s (o::l) env Q:=by
 obtain ⟨h1,h2,h3⟩:=Nf h
 exact .y h3 hn hf (fun H=>.inl ⟨h1,Yp h2 hx hc⟩) k
theorem AS.a {t:Nat}{x:A}(hd:o.dst=some t)(h:∀ H,AQ F.C L [o] env H (fun e=>e=put env (some t) x))(hn:ls.contains j=false)(hf:Nj fs j=none)(k:AS F L ls fs Hs (j+1) s l (put env (some t) x) Q):AS F L ls fs Hs j s (o::l) env Q:=by
 refine .y hd hn hf (fun H=>?_) k
 obtain ⟨d',x',h1,h2,h3⟩:=h H
 rw [hd] at h1
 subst h1
 have:x'=x:=by
  have:=congrFun h3 t
  simpa [put,upd] using this
 rwa [this] at h2
theorem AS.g {d:Option Nat}{g:FuncId}{xs:List A}{x y:A}{H H':P0}(idx:List Nat){cargs:List A}{cH cH':P0}(hc:L0 F.C g cargs cH (Ret cH' x))(h1:nth ls s=some j)(hf:Nj fs j=none)(h2:nth Hs s=some H)(h3:nth Hs (s+1)=some H')
  (h:Mf F.C L o env=some (d,g,xs)) (hx:Xi (Jd idx H.length) cargs=xs) (hi:I16 idx H.length=true) (hm:Kt H idx=Y13 (Jd idx H.length) cH)
  (ht:D8 idx cH=[]) (hr:frc (ren (Jd idx H.length) x)=some y) (hH:Re (Pf H idx (Jd idx H.length) (D8 idx cH) cH')=some H')
  (hun:(idx.all (fun p=>!(unw L fs j).contains p)&&(unw L fs j).all (fun p=>Nat.blt p H.length)&&Nat.ble idx.length cH'.length)=true) (k:AS F L ls fs Hs (j+1) (s+1) l (put env d y) Q):AS F L ls fs Hs j s (o::l) env Q:=by
 obtain ⟨q1,_,q3⟩:=Nf h
 exact .inr (.inl ⟨y,H,H',h1,hf,q1,h2,h3,fun ps hps=>B14.g idx hc h hx hi hm ht hr hH hun ps hps,by rw [q3]; exact k⟩)
theorem AS.n (hC:T1 F.C){d:Option Nat}{t:TypeId}{cs:List A}{p:Nat}(h:C1g F.C L o env=some (d,t,cs))(hf:Nj fs j=some p)(hn:ls.contains j=false)(hr:S1e p (Hs.take (hiN L ls j+1))=T1e (some (.row cs t)) (Hs.take (hiN L ls j+1)))
  (k:AS F L ls fs Hs (j+1) s l (put env d (.ref p 0)) Q):AS F L ls fs Hs j s (o::l) env Q:=by
 obtain ⟨q1,q2,q3⟩:=O1i hC h
 exact .inr (.inr ⟨t,cs,p,hf,hn,q1,q3,Q1d hr,by rw [q2]; exact k⟩)
end
end Go.Am

namespace Go.Am
def D1g (C:Cx)(L:List Oper)(o:Oper)(env:Env):Option (Option Nat×D):=
 match D1 L env o,o.op,K5 o with
 | some true,.nilCheck x,some d=>match ev C.GL env x with
  | .d xd=>some (d,xd)
  | _=>none
 | _,_,_=>none
theorem T1n {C:Cx}{L:List Oper}{o:Oper}{env:Env}{H:P0}{d:Option Nat}{x:D}{cs:List D}(h:D1g C L o env=some (d,x))(hx:x = .bxo (some cs)) :
  D1 L env o=some true∧K5 o=some d∧Z5 C o env H (.ptr cs):=by
 unfold D1g at h
 split at h
 ·rename_i x' d' hw ho hd
  split at h
  ·rename_i xd hex
   simp only [Option.some.injEq,Prod.mk.injEq] at h
   obtain ⟨rfl,rfl⟩:=h
   subst hx
   refine ⟨hw,hd,?_⟩
   intro M G w a next Qw hρ hG _ hH hk
   have h1:=hρ x' (by rw [ho]; simp [Op.operands])
   rw [hex] at h1
   generalize hv:a.eval x'=v at h1
   cases h1; rename_i h1; cases h1
   rename_i A1 p q r
   have key:∃ v,(execOp a.eval o).run C.P w = .ok (.value v) w∧W0 M G (.ptr cs) v:=by
    unfold execOp
    exact ⟨_,by simp only [ho,hv]; rfl,.ptr A1 p q r⟩
   obtain ⟨v,g1,g2⟩:=key
   unfold Oper.wp
   rw [g1]
   exact hk v M w g2 hG (Ext.refl _ _ _)
  ·cases h
 ·cases h
theorem E0.nk {F:Fx}(_hC:T1 F.C){L l:List Oper}{o:Oper}{env:Env}{H:P0}{Q:Env→P0→Prop}{d:Option Nat}{x:D}{cs:List D}(h:D1g F.C L o env=some (d,x))(hx:x = .bxo (some cs))
  (k:E0 F L l (put env d (.ptr cs)) H Q):E0 F L (o::l) env H Q:=by
 obtain ⟨h1,h2,h3⟩:=T1n (H:=H) h hx
 refine .yields h1 h3 ?_
 rw [Z3 h2]
 exact k
end Go.Am

namespace Go.Am
def Mk (k:Int):List (Int×Row)→Option Row
 | []=>none
 | (k',cs)::r=>bif k == k' then some cs else Mk k r
def mputI (k:Int)(cs:Row):List (Int×Row)→List (Int×Row)
 | []=>[(k,cs)]
 | (k',cs')::r=>bif k == k' then (k,cs)::r else (k',cs')::mputI k cs r
structure LkI where
 d:Option Nat
 es:List (Int×Row)
 k:Int
 ok:Bool
 z:A
theorem E14 {kd:IntKind}(es:List (Int×Row)):(Hj.i kd es).list.length=es.length:=by simp [Hj.list]
theorem R1d {kd:IntKind}{M:Mem}{G:Nat→Value}{es:List (Int×Row)}{ms:Array MapEntry}(h:∀ (i:Nat) k cs e,(Hj.i kd es).list[i]?=some (k,cs)→ms[i]?=some e→Q1 M k e.key∧W0 M G (Pa cs) e.val) :
  ∀ (i:Nat) k cs e,es[i]?=some (k,cs)→ms[i]?=some e→Q1 M (.int kd k) e.key∧W0 M G (Pa cs) e.val:=fun i k cs e a b=>h i (.int kd k) cs e (by simp [Hj.list,a]) b
theorem M1l {kd:IntKind}{M:Mem}{G:Nat→Value}{es:List (Int×Row)}{ms:Array MapEntry}(h:∀ (i:Nat) k cs e,es[i]?=some (k,cs)→ms[i]?=some e→Q1 M (.int kd k) e.key∧W0 M G (Pa cs) e.val) :
  ∀ (i:Nat) k cs e,(Hj.i kd es).list[i]?=some (k,cs)→ms[i]?=some e→Q1 M k e.key∧W0 M G (Pa cs) e.val:=fun i k cs e a b=>by
 simp only [Hj.list,List.getElem?_map] at a
 cases hp:es[i]? with
 | none=>rw [hp] at a; cases a
 | some p=>
  rw [hp] at a
  simp only [Option.map_some,Option.some.injEq,Prod.mk.injEq] at a
  obtain ⟨rfl,rfl⟩:=a
  exact h i p.1 p.2 e hp b
theorem Gw {kd:IntKind}{k:Int}:∀ {es:List (Int×Row)} {ms:List MapEntry} {i:Nat},ms.length=es.length→(∀ (n:Nat) k' cs e,es[n]?=some (k',cs)→ms[n]?=some e→e.key = .int kd k')→
  (Mk k es=none∧Instr.findNow (.int kd) (.int kd k) ms i=some none∧∀ cs,mputI k cs es=es++[(k,cs)])∨
  ∃ n cs e,es[n]?=some (k,cs)∧Mk k es=some cs∧ms[n]?=some e∧Instr.findNow (.int kd) (.int kd k) ms i=some (some (i+n,e.val))∧∀ cs',mputI k cs' es=es.set n (k,cs')
 | [],[],i,_,_=>.inl ⟨rfl,rfl,fun _=>rfl⟩
 | (k',cs)::es,m::ms,i,hl,hk=>by
  have hm:=hk 0 k' cs m rfl rfl
  simp only [Instr.findNow,hm,Instr.sameNow,Mk,mputI,if_true]
  cases hb:k == k' with
  | true=>
   obtain rfl:=beq_iff_eq.1 hb
   exact .inr ⟨0,cs,m,rfl,rfl,rfl,rfl,fun _=>rfl⟩
  | false=>
   simp only [cond_false]
   rcases Gw (k:=k) (es:=es) (ms:=ms) (i:=i+1) (by simpa using hl) (fun n k' cs e a b=>hk (n+1) k' cs e (by simpa using a) (by simpa using b)) with ⟨h1,h2,h3⟩ | ⟨n,cs',e,h1,h2,h3,h4,h5⟩
   ·exact .inl ⟨h1,h2,fun cs'=>by rw [h3]; rfl⟩
   ·exact .inr ⟨n+1,cs',e,by simpa using h1,h2,by simpa using h3,by rw [h4]; congr 3; omega,fun c=>by rw [h5]; rfl⟩
 | [],_::_,_,hl,_=>by simp at hl
 | _::_,[],_,hl,_=>by simp at hl
theorem Wl {P:Program}{w:World}{kt:Nat}{kd:IntKind}(h:P.underlying kt=some (.int kd))(b:Bool)(n:Int):(Instr.checkKey b 10000 kt (.int kd n)).run P w = .ok () w:=by
 have key:∀ m,(Instr.checkKey b (m+1) kt (.int kd n)).run P w = .ok () w:=fun m=>by simp [Instr.checkKey,run_underlying h]
 exact key 9999
theorem Rz {α:Type}{b:Bool}{x:α}{y:Option α}(h:(bif b then y else none)=some x):b=true∧y=some x:=by cases b <;> simp_all
def F14 (C:Cx)(L:List Oper)(o:Oper)(env:Env)(H:P0):Option LkI:=
 match D1 L env o,o.op,K5 o with
 | some true,.lookup t x y ok,some d=>match Y1 C.T t,ev C.GL env x,ev C.GL env y with
  | some i,.mp p,.d (.int kd k)=>match i.u,nth H p with
   | .map kt et,some (.map (.i kd' es))=>match Y1 C.T kt,Y1 C.T et with
    | some ki,some ei=>match ki.u,frc (Qv ei) with
     | .int k3,some z=>bif decide (k3=kd∧kd'=kd) then some ⟨d,es,k,ok,z⟩ else none
     | _,_=>none
    | _,_=>none
   | _,_=>none
  | _,_,_=>none
 | _,_,_=>none
theorem P1i {C:Cx}{L:List Oper}{o:Oper}{env:Env}{H:P0}{r:LkI}(h:F14 C L o env H=some r):D1 L env o=some true∧K5 o=some r.d:=by
 unfold F14 at h
 split at h
 ·rename_i t x y ok d hw ho hd
  split at h
  ·split at h
   ·split at h
    ·split at h
     ·obtain ⟨_,h⟩:=Rz h
      simp only [Option.some.injEq] at h
      subst h
      exact ⟨hw,hd⟩
     ·cases h
    ·cases h
   ·cases h
  ·cases h
 ·cases h
theorem W1b {C:Cx}(hC:T1 C){L:List Oper}{o:Oper}{env:Env}{H:P0}{d:Option Nat}{es:List (Int×Row)}{k:Int}{ok:Bool}{z:A}(h:F14 C L o env H=some ⟨d,es,k,ok,z⟩){r:Option Row}(hr:Mk k es=r):Z5 C o env H (lkA r z ok):=by
 intro M G w a next Qw hρ hG hgl hH hkk
 subst hr
 unfold F14 at h
 split at h
 ·rename_i t x y ok' d' hw ho hd
  rw [ho] at hρ
  split at h
  ·rename_i i p kd k' ht hx hy
   split at h
   ·rename_i kt et kd' es' hu hp
    split at h
    ·rename_i ki ei hki hei
     split at h
     ·rename_i k3 z' hku hz
      obtain ⟨hkk',h5⟩:=Rz h
      clear h
      obtain ⟨rfl,rfl⟩:=of_decide_eq_true hkk'
      simp only [Option.some.injEq,LkI.mk.injEq] at h5
      obtain ⟨rfl,rfl,rfl,rfl,rfl⟩:=h5
      have hz':=Jj hz
      subst hz'
      have hxr:=hρ x (by simp [Op.operands])
      have hyr:=hρ y (by simp [Op.operands])
      rw [hx] at hxr
      rw [hy] at hyr
      generalize hxv:a.eval x=xv at hxr
      generalize hyv:a.eval y=yv at hyr
      cases hxr; rename_i b hgb
      cases hyr; rename_i hyr; cases hyr
      rename_i hkl
      rw [S2] at hp
      obtain ⟨b',ms,cl,g1,g2,g3,g4,g5,g6⟩:=hH.obj p _ hp
      have g3:=g3.trans (E14 _)
      have g4:=R1d g4
      rw [hgb] at g1
      simp at g1
      subst g1
      have hd:=Nh (hC.tok.facts ht) hu
      have hkd:=N13 (hC.tok.facts hki) hku
      obtain ⟨zv,hzr,hzrel⟩:=T13 hC.tok hei M G
      have hkeys:∀ (n:Nat) k' cs e,es'[n]?=some (k',cs)→ms.toList[n]?=some e→e.key = .int kd' k':=fun n k' cs e a b=>by
       have:=(g4 n k' cs e a (by simpa using b)).1
       generalize e.key=ek at this
       cases this; rfl
      have key:∃ v,(Instr.lookup t (.map (some b)) (.int kd' k') ok').run C.P w = .ok v w∧W0 M G (lkA (Mk k' es') (Qv ei) ok') v:=by
       rcases Gw (k:=k') (i:=0) (by simpa using g3) hkeys with ⟨h1,h2,_⟩ | ⟨n,cs,e,h1,h2,h3,h4,_⟩
       ·refine ⟨if ok' then .tuple #[zv,.bool false] else zv,?_,?_⟩
        ·simp [Instr.lookup,run_underlying hd,Fc g2,Wl hkd,Instr.findKey,run_underlying hkd,h2,hzr w]
        ·rw [h1]
         cases ok' with
         | false=>simpa [lkA] using hzrel
         | true=>
          refine .tup rfl fun i x v hx hv=>?_
          match i with
          | 0=>simp at hx hv; subst hx; subst hv; exact hzrel
          | 1=>simp at hx hv; subst hx; subst hv; exact .d .bool
          | _+2=>simp at hx
       ·have hev:=(g4 n k' cs e h1 (by simpa using h3)).2
        refine ⟨if ok' then .tuple #[e.val,.bool true] else e.val,?_,?_⟩
        ·simp [Instr.lookup,run_underlying hd,Fc g2,Wl hkd,Instr.findKey,run_underlying hkd,h4]
        ·rw [h2]
         cases ok' with
         | false=>simpa [lkA] using hev
         | true=>
          refine .tup rfl fun i x v hx hv=>?_
          match i with
          | 0=>simp at hx hv; subst hx; subst hv; exact hev
          | 1=>simp at hx hv; subst hx; subst hv; exact .d .bool
          | _+2=>simp at hx
      obtain ⟨v,hv,hrel⟩:=key
      unfold Oper.wp execOp
      simp only [ho,hxv,hyv,Sem.run_bind,hv,Result.andThen_ok,Sem.run_pure,Oper.upon_value]
      exact hkk _ M w hrel hG (Ext.refl _ _ _)
     ·cases h
    ·cases h
   ·cases h
  ·cases h
 ·cases h
def M1q:Op→Option (TypeId×Operand×Operand×Operand)
 | .mapUpdate t x y z=>some (t,x,y,z)
 | .insert t x y z=>some (t,x,y,z)
 | _=>none
def K1a (C:Cx)(L:List Oper)(o:Oper)(env:Env)(H:P0):Option P0:=
 match D1 L env o,M1q o.op,o.dst with
 | some true,some (t,x,y,z),none=>match Y1 C.T t,ev C.GL env x,ev C.GL env y,Rx (ev C.GL env z) with
  | some i,.mp p,.d (.int kd k),some cs=>match i.u,nth H p with
   | .map kt _,some (.map (.i kd' es))=>match Y1 C.T kt with
    | some ki=>match ki.u with
     | .int k3=>bif decide (k3=kd∧kd'=kd) then Hk H p (.map (.i kd (mputI k cs es))) else none
     | _=>none
    | none=>none
   | _,_=>none
  | _,_,_,_=>none
 | _,_,_=>none
theorem E0.u_i {F:Fx}(hC:T1 F.C){L l:List Oper}{o:Oper}{env:Env}{H H':P0}{Q:Env→P0→Prop}(h:K1a F.C L o env H=some H')(k:E0 F L l env H' Q):E0 F L (o::l) env H Q:=by
 unfold K1a at h
 split at h
 ·rename_i t x y z hw ho hdst
  split at h
  ·rename_i i p kd kk cs ht hx hy hz
   split at h
   ·rename_i kt et kd' es hu hp
    split at h
    ·rename_i ki hki
     split at h
     ·rename_i k3 hku
      obtain ⟨hkk',h5⟩:=Rz h
      clear h
      obtain ⟨rfl,rfl⟩:=of_decide_eq_true hkk'
      have e1:=Dt h5
      subst e1
      refine Q9 hw fun fr M G w a K Qw hK hdok hs hsi hk=>?_
      have hxr:=hs.eval x
      have hyr:=hs.eval y
      have hzr:=E1a hz (hs.eval z)
      rw [hx] at hxr
      rw [hy] at hyr
      generalize hxv:a.eval x=xv at hxr
      generalize hyv:a.eval y=yv at hyr
      generalize hzv:a.eval z=zv at hzr
      cases hxr; rename_i b hgb
      cases hyr; rename_i hyr; cases hyr
      rename_i hkl
      rw [S2] at hp
      obtain ⟨b',ms,cl,g1,g2,g3,g4,g5,g6⟩:=hs.hrel.obj p _ hp
      have g3:=g3.trans (E14 es)
      have g4:=R1d g4
      rw [hgb] at g1
      simp at g1
      subst g1
      have hd:=Nh (hC.tok.facts ht) hu
      have hkd:=N13 (hC.tok.facts hki) hku
      have hblt:b < w.heap.size:=(Array.getElem?_eq_some_iff.1 g2).1
      have hkeys:∀ (n:Nat) k' cs e,es[n]?=some (k',cs)→ms.toList[n]?=some e→e.key = .int kd' k':=fun n k' cs e a b=>by
       have:=(g4 n k' cs e a (by simpa using b)).1
       generalize e.key=ek at this
       cases this; rfl
      have hMb:∀ off sp,M ⟨b,off,sp⟩=none:=g6
      have key:∃ ms' cl',(Instr.mapUpdate t (.map (some b)) (.int kd' kk) zv).run F.C.P w = .ok () { w with heap:=w.heap.setIfInBounds b (.map ms' cl') }∧ms'.size=(mputI kk cs es).length∧
        (∀ (i:Nat) k' cs' e,(mputI kk cs es)[i]?=some (k',cs')→ms'[i]?=some e→Q1 M (.int kd' k') e.key∧W0 M G (Pa cs') e.val)∧∀ (i:Nat) e,ms'[i]?=some e→e.born < cl':=by
       have Lc:∀ o',(setObj b o').run F.C.P w = .ok () { w with heap:=w.heap.setIfInBounds b o' }:=fun o'=>by simp [setObj,Sem.run,g2]
       rcases Gw (k:=kk) (i:=0) (by simpa using g3) hkeys with ⟨h1,h2,h3⟩ | ⟨n,cs0,e,h1,h2,h3,h4,h5⟩
       ·refine ⟨ms.push ⟨.int kd' kk,zv,cl⟩,cl+1,?_,by rw [h3]; simp [g3],fun i k' cs' e hi he=>?_,fun i e he=>?_⟩
        ·simp [Instr.mapUpdate,run_underlying hd,Fc g2,Wl hkd,Instr.findKey,run_underlying hkd,h2,Lc]
        ·rw [h3] at hi
         rw [Array.getElem?_push] at he
         split at he
         ·rename_i hie
          simp only [Option.some.injEq] at he
          subst he
          rw [List.getElem?_append_right (by omega)] at hi
          have:i - es.length=0:=by omega
          rw [this] at hi
          simp at hi
          obtain ⟨rfl,rfl⟩:=hi
          exact ⟨.int hkl,hzr⟩
         ·rename_i hie
          have hlt:i < ms.size:=by have:=(Array.getElem?_eq_some_iff.1 he).1; omega
          rw [List.getElem?_append_left (by omega)] at hi
          exact g4 i k' cs' e hi he
        ·rw [Array.getElem?_push] at he
         split at he
         ·simp only [Option.some.injEq] at he; subst he; simp
         ·have:=g5 i e he; omega
       ·have hn:n < ms.size:=by simpa using (List.getElem?_eq_some_iff.1 h3).1
        have hmn:ms[n]?=some e:=by simpa using h3
        have hke:e.key = .int kd' kk:=hkeys n kk cs0 e h1 h3
        have hst:∀ w,(Instr.keyThatStays (.int kd' kk) (.int kd' kk)).run F.C.P w = .ok (.int kd' kk) w:=fun w=>by
         have:Instr.sameBits 10000 (.int kd' kk) (.int kd' kk)=true:=by simp [Instr.sameBits]
         simp [Instr.keyThatStays,this]
        refine ⟨ms.modify n fun e=>{ e with key:=.int kd' kk,val:=zv },cl,?_,by rw [h5]; simp [g3],fun i k' cs' e' hi he=>?_,fun i e' he=>?_⟩
        ·simp [Instr.mapUpdate,run_underlying hd,Fc g2,Wl hkd,Instr.findKey,run_underlying hkd,h4,hmn,hke,hst,Lc]
        ·rw [h5,List.getElem?_set] at hi
         rw [Array.getElem?_modify] at he
         by_cases hin:n=i
         ·rw [if_pos hin] at he hi
          subst hin
          rw [hmn] at he
          simp only [Option.map_some,Option.some.injEq] at he
          subst he
          rw [if_pos (by omega)] at hi
          simp only [Option.some.injEq,Prod.mk.injEq] at hi
          obtain ⟨rfl,rfl⟩:=hi
          exact ⟨.int hkl,hzr⟩
         ·rw [if_neg hin] at he hi
          exact g4 i k' cs' e' hi he
        ·rw [Array.getElem?_modify] at he
         by_cases hin:n=i
         ·rw [if_pos hin] at he
          subst hin
          rw [hmn] at he
          simp only [Option.map_some,Option.some.injEq] at he
          subst he
          exact g5 n e hmn
         ·rw [if_neg hin] at he
          exact g5 i e' he
      obtain ⟨ms',cl',k1,k2,k3,k4⟩:=key
      have hbk:blk (.map (.i kd' es)) (G p)=some b:=by rw [hgb]; rfl
      have hbk':blk (.map (.i kd' (mputI kk cs es))) (G p)=some b:=by rw [hgb]; rfl
      have hext:Ext (fun c=>c=b) M w M { w with heap:=w.heap.setIfInBounds b (.map ms' cl') }:=
       ⟨fun _ _ e=>e,by simp,rfl,rfl,rfl,fun c _ hc=>by simp [Array.getElem?_setIfInBounds_ne (Ne.symm hc)],fun _ _ e=>.inl e⟩
      have hob:Nb M G { w with heap:=w.heap.setIfInBounds b (.map ms' cl') } (.map (.i kd' (mputI kk cs es))) (G p):=
       ⟨b,ms',cl',hgb,by simp [hblt],k2.trans (E14 _).symm,M1l k3,k4,g6⟩
      have ho':o.op = .mapUpdate t x y z∨o.op = .insert t x y z:=by
       unfold M1q at ho
       split at ho
       ·rename_i h8; cases ho; exact .inl h8
       ·rename_i h8; cases ho; exact .inr h8
       ·cases ho
      have hr:(execOp a.eval o).run F.C.P w = .ok .skip { w with heap:=w.heap.setIfInBounds b (.map ms' cl') }:=by
       unfold execOp
       rcases ho' with ho' | ho' <;> simp only [ho',hxv,hyv,hzv,Sem.run_bind,k1,Result.andThen_ok,Sem.run_pure]
      unfold Oper.wp
      rw [hr]
      refine hk .junk env _ M G _ undef ?_ (hs.setOb (O3 hdok) hp hbk hbk' hext hMb hob .junk) (hsi.setOb hp hbk hbk' rfl hext)
      rw [hdst]
      exact k
     ·cases h
    ·cases h
   ·cases h
  ·cases h
 ·cases h
def U1n (kd:IntKind)(L:List Oper)(o:Oper)(env:Env)(H:P0):Option (Option Nat×Nat×P0):=
 match D1 L env o,o.op,K5 o with
 | some true,.makeMap _ none,some d=>match Vl H (.map (.i kd [])) with | some (n,H')=>some (d,n,H') | none=>none
 | _,_,_=>none
theorem E0.wi (kd:IntKind){F:Fx}{L l:List Oper}{o:Oper}{env:Env}{H H':P0}{Q:Env→P0→Prop}{d:Option Nat}{n:Nat}(h:U1n kd L o env H=some (d,n,H'))(k:E0 F L l (put env d (.mp n)) H' Q):E0 F L (o::l) env H Q:=by
 unfold U1n at h
 split at h
 ·rename_i t d' hw ho hd
  split at h
  ·rename_i n' H2 hp
   simp only [Option.some.injEq,Prod.mk.injEq] at h
   obtain ⟨rfl,rfl,rfl⟩:=h
   obtain ⟨rfl,rfl⟩:=Vh hp
   refine Q9 hw fun fr M G w a K Qw hK hdok hs hsi hk=>?_
   have hr:(execOp a.eval o).run F.C.P w = .ok (.value (.map (some w.heap.size))) (w.alloc (.map #[] 0)):=by
    unfold execOp
    simp only [ho,Instr.makeMap]
    rfl
   have hg:B5 M (w.alloc (.map #[] 0)):=hs.good.alloc _
   unfold Oper.wp
   rw [hr]
   have hob:∀ G,Nb M G (w.alloc (.map #[] 0)) (.map (.i kd [])) (.map (some w.heap.size)):=fun G=>⟨w.heap.size,#[],0,rfl,heap_alloc_new w _,rfl,fun i k cs e h=>by simp [Hj.list] at h,fun i e h=>by simp at h,fun off sp=>by
    cases hM:M ⟨w.heap.size,off,sp⟩ with
    | none=>rfl
    | some v=>have:=hs.good.lt hM; simp at this⟩
   have hb:∀ b,blk (.map (.i kd [])) (.map (some w.heap.size))=some b→w.heap.size≤b:=fun b hb=>by simp [blk] at hb; omega
   refine hk (.mp H.length) env _ M (A6 G H.length (.map (some w.heap.size))) _ _ ?_ (hs.newOb (O3 hdok) (Ce P4 M w _) hg hob hb (.mp W2)) (hsi.newOb (Ce P4 M w _) hb)
   rw [Z3 hd]
   exact k
  ·cases h
 ·cases h
theorem E0.mi {F:Fx}(hC:T1 F.C){L l:List Oper}{o:Oper}{env:Env}{H:P0}{Q:Env→P0→Prop}{d:Option Nat}{es:List (Int×Row)}{k:Int}{ok:Bool}{z y:A}(h:F14 F.C L o env H=some ⟨d,es,k,ok,z⟩)(e:lkA (Mk k es) z ok=y)
  (kk:E0 F L l (put env d y) H Q):E0 F L (o::l) env H Q:=by
 subst e
 obtain ⟨h1,h2⟩:=P1i h
 refine .yields h1 (W1b hC h rfl) ?_
 rw [Z3 h2]
 exact kk
def X1b (C:Cx)(L:List Oper)(o:Oper)(env:Env)(H:P0):Option (Nat×IntKind×Int×Row×List (Int×Row)):=
 match D1 L env o,M1q o.op,o.dst with
 | some true,some (t,x,y,z),none=>match Y1 C.T t,ev C.GL env x,ev C.GL env y,Rx (ev C.GL env z) with
  | some i,.mp p,.d (.int kd k),some cs=>match i.u,nth H p with
   | .map kt _,some (.map (.i kd' es))=>match Y1 C.T kt with
    | some ki=>match ki.u with
     | .int k3=>bif decide (k3=kd∧kd'=kd) then some (p,kd,k,cs,es) else none
     | _=>none
    | none=>none
   | _,_=>none
  | _,_,_,_=>none
 | _,_,_=>none
theorem N1l {C:Cx}{L:List Oper}{o:Oper}{env:Env}{H:P0}{p:Nat}{kd:IntKind}{k:Int}{cs:Row}{es:List (Int×Row)}(h:X1b C L o env H=some (p,kd,k,cs,es)){H':P0}(h':Hk H p (.map (.i kd (mputI k cs es)))=some H'):K1a C L o env H=some H':=by
 unfold X1b at h
 unfold K1a
 split at h
 ·split at h
  ·split at h
   ·split at h
    ·split at h
     ·obtain ⟨hb,h⟩:=Rz h
      simp only [Option.some.injEq,Prod.mk.injEq] at h
      obtain ⟨rfl,rfl,rfl,rfl,rfl⟩:=h
      simp_all only [cond_true]
     ·cases h
    ·cases h
   ·cases h
  ·cases h
 ·cases h
theorem E0.ui {F:Fx}(hC:T1 F.C){L l:List Oper}{o:Oper}{env:Env}{H H':P0}{Q:Env→P0→Prop}{p:Nat}{kd:IntKind}{k:Int}{cs:Row}{es es2:List (Int×Row)}(h:X1b F.C L o env H=some (p,kd,k,cs,es))(e:mputI k cs es=es2)(h':Hk H p (.map (.i kd es2))=some H')
  (kk:E0 F L l env H' Q):E0 F L (o::l) env H Q:=by subst e; exact .u_i hC (N1l h h') kk
def O7 {α:Type}(k:Int):List (Int×α)→Option α
 | []=>none
 | (k',x)::r=>bif k == k' then some x else O7 k r
def Dn {α:Type}(k:Int)(x:α):List (Int×α)→List (Int×α)
 | []=>[(k,x)]
 | (k',y)::r=>bif k == k' then (k,x)::r else (k',y)::Dn k x r
section
variable {α:Type}{f:α→Row}{h:α→A}
def entsI (f:α→Row)(m:List (Int×α)):List (Int×Row):=m.map fun p=>(p.1,f p.2)
theorem G14 (f:α→Row)(k:Int):∀ m:List (Int×α),Mk k (entsI f m)=(O7 k m).map f
 | []=>rfl
 | (k',x)::r=>by
  show (bif k == k' then some (f x) else Mk k (entsI f r))=(bif k == k' then some x else O7 k r).map f
  rw [G14 f k r]
  cases k == k' <;> rfl
theorem S1d (f:α→Row)(k:Int)(x:α):∀ m:List (Int×α),entsI f (Dn k x m)=mputI k (f x) (entsI f m)
 | []=>rfl
 | (k',y)::r=>by
  show entsI f (bif k == k' then (k,x)::r else (k',y)::Dn k x r)=(bif k == k' then (k,f x)::entsI f r else (k',f y)::mputI k (f x) (entsI f r))
  rw [← S1d f k x r]
  cases k == k' <;> rfl
theorem N1v (hf:∀ x,Pa (f x)=h x){z:α}{za:A}(hz:za=h z){k:Int}{m:List (Int×α)}{x:Option α}(hx:some (O7 k m)=some x):lkA (Mk k (entsI f m)) za true = .tup [h (x.getD z),.d (.bool x.isSome)]:=by
 cases hx
 rw [G14]
 cases O7 k m with
 | none=>simp [lkA,hz]
 | some y=>simp [lkA,hf]
theorem O1v (hf:∀ x,Pa (f x)=h x){z:α}{za:A}(hz:za=h z){k:Int}{m:List (Int×α)}{x:Option α}(hx:some (O7 k m)=some x):lkA (Mk k (entsI f m)) za false=h (x.getD z):=by
 cases hx
 rw [G14]
 cases O7 k m with
 | none=>simp [lkA,hz]
 | some y=>simp [lkA,hf]
end
end Go.Am

namespace Go.Am
def V1n (C:Cx)(L:List Oper)(o:Oper)(env:Env):Option (Option Nat×Nat×Int×Nat×Nat):=
 match D1 L env o,o.op,K5 o with
 | some true,.makeSlice t lx cx,some d=>match Y1 C.T t,ev C.GL env lx,ev C.GL env cx with
  | some i,.d (.int .i64 (.ofNat 0)),.d (.int .i64 m)=>match i.u with
   | .sl e=>match Y1 C.T e with
    | some j=>some (d,e,m,j.bytes,j.size)
    | none=>none
   | _=>none
  | _,_,_=>none
 | _,_,_=>none
theorem E0.mz {F:Fx}(hC:T1 F.C){L l:List Oper}{o:Oper}{env:Env}{H H':P0}{Q:Env→P0→Prop}{d:Option Nat}{e p:Nat}{m:Int}{bytes sz:Nat}(h:V1n F.C L o env=some (d,e,m,bytes,sz))
  (h0:0≤m∧m.toNat * (bytes+1)≤140737488355328) (hp:Vl H (.tok e sz)=some (p,H')) (k:E0 F L l (put env d (.osl p [])) H' Q):E0 F L (o::l) env H Q:=by
 unfold V1n at h
 split at h
 ·rename_i t lx cx d' hw ho hd
  split at h
  ·rename_i i m' ht hlx hcx
   split at h
   ·rename_i e' hu
    split at h
    ·rename_i j he
     simp only [Option.some.injEq,Prod.mk.injEq] at h
     obtain ⟨rfl,rfl,rfl,rfl,rfl⟩:=h
     obtain ⟨rfl,rfl⟩:=Vh hp
     obtain ⟨hn0,hroom⟩:=h0
     obtain ⟨N,rfl⟩:∃ N:Nat,m'=N:=⟨m'.toNat,by omega⟩
     simp only [Int.toNat_natCast] at *
     have hNle:N≤140737488355328:=Nat.le_trans (Nat.le_mul_of_pos_right N (Nat.succ_pos _)) hroom
     refine Q9 hw fun fr M G w a K Qw hK hdok hs hsi hk=>?_
     have hx1:=hs.eval lx
     have hx2:=hs.eval cx
     rw [hlx] at hx1
     rw [hcx] at hx2
     generalize hv1:a.eval lx=v1 at hx1
     generalize hv2:a.eval cx=v2 at hx2
     cases hx1; rename_i hx1; cases hx1
     cases hx2; rename_i hx2; cases hx2
     have hdd:=Th (hC.tok.facts ht) hu
     obtain ⟨j',q1,q2,q3,z1,q4,q5,q6,q7⟩:=(hC.tok.facts he).info
     have hbytes:((j'.bytes:Int) * (N:Int))≤281474976710656:=by
      have h1:j.bytes * N≤140737488355328:=Nat.le_trans (by rw [Nat.mul_comm]; exact Nat.mul_le_mul_left N (Nat.le_succ _)) hroom
      have h2:((j.bytes * N:Nat):Int)=(j.bytes:Int) * (N:Int):=by simp
      rw [q3]
      omega
     have hrun:(execOp a.eval o).run F.C.P w = .ok (.value (.slice (some ⟨w.heap.size,0,none⟩) 0 N)) (w.alloc (.cells (madeCells z1.cells (N * j'.size)) e')):=by
      have:=run_make (P:=F.C.P) w t e' j' z1 hdd q1 q4 .i64 .i64 0 N (Int.le_refl _) (by omega) hbytes (by omega)
      simp only [Int.toNat_natCast,Int.toNat_zero] at this
      unfold execOp
      simp only [ho,hv1,hv2,Int.ofNat_eq_natCast,Int.cast_ofNat_Int,Sem.run_bind,this,Result.andThen_ok,Sem.run_pure]
     have hml:N≤maxLen:=by unfold maxLen; omega
     have hM:∀ off sp,M ⟨w.heap.size,off,sp⟩=none:=fun off sp=>by
      cases hM:M ⟨w.heap.size,off,sp⟩ with
      | none=>rfl
      | some v=>have:=hs.good.lt hM; simp at this
     have hob:Nb M G (w.alloc (.cells (madeCells z1.cells (N * j'.size)) e')) (.tok e' j.size) (.slice (some ⟨w.heap.size,0,none⟩) 0 N):=
      .inr ⟨_,0,N,rfl,.inr rfl,Nat.zero_le _,hml,fun _=>⟨rfl,_,heap_alloc_new w _,by rw [size_madeCells,q2]; exact Nat.le_refl _,fun k sp _=>hM k sp⟩⟩
     have hb:∀ b,blk (.tok e' j.size) (.slice (some ⟨w.heap.size,0,none⟩) 0 N)=some b→w.heap.size≤b:=fun b hb=>by
      simp only [blk] at hb
      split at hb
      ·simp only [Option.some.injEq] at hb; omega
      ·cases hb
     unfold Oper.wp
     rw [hrun]
     rw [← Z3 hd] at k
     refine hk _ _ _ _ _ _ _ k (hs.newTok (O3 hdok) (Ce P4 M w _) (hs.good.alloc _) hob hb (.osl (.sl 0 (fun _ _=>undef) rfl (Nat.zero_le _) hml (.inr rfl) (fun i r h=>by simp at h) (fun i j r x h=>by simp at h) (fun i j r x h=>by simp at h)) W2)) (hsi.newTok (Ce P4 M w _) hb)
    ·cases h
   ·cases h
  ·cases h
 ·cases h
section
variable {F:Fx}{L l:List Oper}{o:Oper}{env:Env}{ls:List Nat}{fs:List (Nat×Nat)}{Hs:List P0}{j i:Nat}{Q:Env→Prop}
end
end Go.Am

namespace Go.Am
def E1g (T:TT)(t:Nat)(parts:List (Nat×A)):Option A:=
 match Y1 T t with
 | none=>none
 | some i=>match i.u with
  | .st fs=>(Ek (fun n=>(nth fs n).map fun f=>(f.2.1,f.2.2)) (i.zero.map zf) parts).map .agg
  | _=>none
section
variable {P:Program}{M:Mem}{G:Nat→Value}{w:World}
theorem W1n {T:TT}(hT:TOk P T){t:Nat}{parts:List (Nat×A)}{A1:Array (Nat×Value)}(hl:parts.length=A1.size)
  (hp:∀ (i:Nat) p q,parts[i]?=some p→A1[i]?=some q→p.1=q.1∧W0 M G p.2 q.2) {z:A} (h:E1g T t parts=some z):Tg P M G w (Instr.build t A1) z:=by
 unfold E1g at h
 split at h
 ·cases h
 ·rename_i i ht
  have f:=hT.facts ht
  obtain ⟨zv,hz1,hz2⟩:=Fw (M:=M) (G:=G) hT ht
  split at h
  ·rename_i fs hu
   obtain ⟨flds,hd,hf,hfl⟩:=D1d f hu
   cases ho:Ek (fun n=>(nth fs n).map fun f=>(f.2.1,f.2.2)) (i.zero.map zf) parts with
   | none=>rw [ho] at h; cases h
   | some out=>
    rw [ho] at h
    simp only [Option.map_some,Option.some.injEq] at h
    subst h
    obtain ⟨places,hp1,hp2⟩:=Q19 (P:=P) w flds (fun n f hn=>by
     obtain ⟨g,hg⟩:=hfl n f hn
     obtain ⟨f',e1,e2,_,_,_,e6⟩:=hf n g hg
     rw [hn] at e1
     cases e1
     rw [e2]; exact e6)
    have hsame:∀ n,places[n]?=((nth fs n).map fun f=>(f.2.1,f.2.2)):=fun n=>by
     rw [S2,hp2 n]
     cases hn:fs[n]? with
     | none=>
      have:flds[n]?=none:=by
       cases hfn:flds[n]? with
       | none=>rfl
       | some f=>obtain ⟨g,hg⟩:=hfl n f hfn; rw [hg] at hn; cases hn
      rw [this]; rfl
     | some g=>
      obtain ⟨f',e1,e2,e3,e4,_,_⟩:=hf n g hn
      rw [e1]
      simp [e2,e3,e4]
    have hfun:(fun n=>places[n]?)=(fun n=>(nth fs n).map fun f=>(f.2.1,f.2.2)):=funext hsame
    have:Ek (fun n=>places[n]?) (i.zero.map zf) parts=some out:=by rw [hfun]; exact ho
    obtain ⟨ws,g1,g2,g3,g4⟩:=Ct hz2 (by rw [Array.length_toList]; exact hl) (fun n p q a b=>hp n p q a (by simpa using b)) this
    refine ⟨.agg ws,?_,.agg g2 g3 g4⟩
    simp only [Instr.build,Sem.run_bind,hz1,Result.andThen_ok,run_underlying hd,hp1,g1,Sem.run_pure]
  ·cases h
end
def Yx (C:Cx)(L:List Oper)(o:Oper)(env:Env):Option (Option Nat×A):=
 match D1 L env o,o.op,K5 o with
 | some true,.build t parts,some d=>match E1g C.T t (parts.toList.map fun p=>(p.1,ev C.GL env p.2)) with
  | some y=>match frc y with | some z=>some (d,z) | none=>none
  | none=>none
 | _,_,_=>none
theorem O1l {C:Cx}{L:List Oper}{o:Oper}{env:Env}{d:Option Nat}{x:A}(h:Yx C L o env=some (d,x)):K5 o=some d:=by
 unfold Yx at h
 split at h
 ·rename_i t parts d' hw ho hd
  split at h
  ·split at h
   ·simp only [Option.some.injEq,Prod.mk.injEq] at h
    rw [← h.1]; exact hd
   ·cases h
  ·cases h
 ·cases h
theorem T1d {C:Cx}(hC:T1 C){L:List Oper}{o:Oper}{env:Env}{H:P0}{d:Option Nat}{x:A}(h:Yx C L o env=some (d,x)):D1 L env o=some true∧K5 o=some d∧Z5 C o env H x:=by
 have hdd:=O1l h
 unfold Yx at h
 split at h
 ·rename_i t parts d' hw ho hd
  split at h
  ·rename_i y hb
   split at h
   ·rename_i z hz
    simp only [Option.some.injEq,Prod.mk.injEq] at h
    obtain ⟨rfl,rfl⟩:=h
    have:=Jj hz
    subst this
    refine ⟨hw,hd,?_⟩
    intro M G w a next Qw hρ hG _ hH hk
    have key:∃ v,(execOp a.eval o).run C.P w = .ok (.value v) w∧W0 M G z v:=by
     unfold execOp
     rw [ho] at hρ ⊢
     refine Uh (W1n hC.tok (by simp) (fun i p q hp hq=>?_) hb)
     simp only [List.getElem?_map,Array.getElem?_toList,Array.getElem?_map] at hp hq
     cases hpi:parts[i]? with
     | none=>rw [hpi] at hp; cases hp
     | some pr=>
      rw [hpi] at hp hq
      simp only [Option.map_some,Option.some.injEq] at hp hq
      subst hp; subst hq
      exact ⟨rfl,hρ _ (by simp only [Op.operands,List.mem_toArray,List.mem_map]; exact ⟨pr,by simpa using Array.mem_of_getElem? hpi,rfl⟩)⟩
    obtain ⟨v,h1,h2⟩:=key
    unfold Oper.wp
    rw [h1]
    exact hk v M w h2 hG (Ext.refl _ _ _)
   ·cases h
  ·cases h
 ·cases h
theorem E0.bz {F:Fx}(hC:T1 F.C){L l:List Oper}{o:Oper}{env:Env}{H:P0}{Q:Env→P0→Prop}{d:Option Nat}{x:A}(h:Yx F.C L o env=some (d,x))(k:E0 F L l (put env d x) H Q):E0 F L (o::l) env H Q:=by
 obtain ⟨h1,h2,h3⟩:=T1d (H:=H) hC h
 refine .yields h1 h3 ?_
 rw [Z3 h2]
 exact k
theorem AQ.bz {C:Cx}(hC:T1 C){L l:List Oper}{o:Oper}{env:Env}{H:P0}{Q:Env→Prop}{d:Option Nat}{x:A}(h:Yx C L o env=some (d,x))(k:AQ C L l (put env d x) H Q):AQ C L (o::l) env H Q:=by
 obtain ⟨h1,h2,h3⟩:=T1d (H:=H) hC h
 exact ⟨d,_,Z3 h2,.inl ⟨h1,h3⟩,k⟩
end Go.Am

namespace Go.Am
end Go.Am

namespace Go.Am
section
variable {F:Fx}{L l:List Oper}{o:Oper}{env:Env}{ls:List Nat}{fs:List (Nat×Nat)}{Hs:List P0}{j i:Nat}{Q:Env→Prop}
end
end Go.Am

namespace Go.Am
section
variable {α:Type}{f:α→Row}{g:List α→List Row}
end
end Go.Am

