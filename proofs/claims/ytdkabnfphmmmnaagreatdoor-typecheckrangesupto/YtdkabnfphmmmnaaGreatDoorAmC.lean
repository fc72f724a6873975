/- A part of the proof of TypecheckRanges. -/
import Derived.Test.YtdkabnfphmmmnaaGreatDoorAmB
namespace Go.Am
theorem St.moveTok {C:Cx}{N:Nat}{M M':Mem}{G:Nat→Value}{w w':World}{env:Env}{H:Q0}{a:Act}(h:St C N M G w env H a){dst:Option Nat}(hd:∀ d,dst=some d→d < N){p e sz:Nat}{v':Value}{x:A}
  (hp:H[p]?=some (.tok e sz)) (hext:Ext (fun b=>blk (.tok e sz) (G p)=some b) M w M' w') (hg:T4 M' w') (hob:Vb M' G w' (.tok e sz) v') (hblk:∀ b,blk (.tok e sz) v'=some b→blk (.tok e sz) (G p)=some b∨w.heap.size≤b)
  (hx:Z0 M' (U4 G H.length v') x v') :
  St C N M' (U4 G H.length v') w' (put env dst x) (O6 H p .dead++[.tok e sz]) (a.put dst v'):=by
 have hplt:p < H.length:=(List.getElem?_eq_some_iff.1 hp).1
 have hl:(O6 H p .dead).length=H.length:=Dj _ _ _
 have hmono:∀ {x:A} {v:Value},Z0 M G x v→Z0 M' (U4 G H.length v') x v:=fun hr=>hr.mono hext.mono fun o hn=>R1 (Nat.ne_of_lt (h.hrel.lt hr hn))
 obtain ⟨h1,h2,h3⟩:=Fm (fun t=>hmono (h.env t)) h.size hd hx
 have get:∀ (o:Nat) x,(O6 H p .dead++[Ob.tok e sz])[o]?=some x→(o < H.length∧o≠p∧H[o]?=some x)∨(o=p∧x = .dead)∨(o=H.length∧x = .tok e sz):=fun o x ho=>by
  rcases Nat.lt_trichotomy o H.length with hlt | rfl | hgt
  ·rw [List.getElem?_append_left (by omega),G8 _ _ _ _ hplt] at ho
   by_cases hop:o=p
   ·rw [if_pos hop] at ho; cases ho; exact .inr (.inl ⟨hop,rfl⟩)
   ·rw [if_neg hop] at ho; exact .inl ⟨hlt,hop,ho⟩
  ·rw [List.getElem?_append_right (by omega),hl,Nat.sub_self] at ho
   simp at ho
   exact .inr (.inr ⟨rfl,ho.symm⟩)
  ·rw [List.getElem?_eq_none (by simp; omega)] at ho
   cases ho
 refine ⟨hg,h.gl.ext h.hrel hext (fun b hb=>⟨p,_,hp,hb⟩),⟨fun o x ho=>?_,fun o o' x x' b ho ho' hb hb'=>?_,fun o ho=>?_⟩,h1,h2,h3.trans h.defers⟩
 ·rcases get o x ho with ⟨hlt,hop,hy⟩ | ⟨rfl,rfl⟩ | ⟨rfl,rfl⟩
  ·rw [R1 (Nat.ne_of_lt hlt)]
   have hoy:=h.hrel.obj o x hy
   have hob:=hoy.keep hext.mono (fun b hb=>hext.block b (J9 hoy hb) fun hb'=>hop (h.hrel.apart o p x _ b hy hp hb hb')) fun b hb off sp hn=>by
    cases hM:M' ⟨b,off,sp⟩ with
    | none=>rfl
    | some u=>
     rcases hext.fresh _ u hM with q | q | q
     ·rw [hn] at q; cases q
     ·exact absurd (h.hrel.apart o p x _ b hy hp hb q) hop
     ·have:=J9 hoy hb; simp only at q; omega
   cases x with
   | dead=>trivial
   | row cells e=>
    obtain ⟨b,us,g1,g2,g3,g4,g5,g6⟩:=hob
    obtain ⟨b0,us0,f1,f2,f3,f4,f5,f6⟩:=hoy
    rw [g1] at f1
    simp only [Value.pointer.injEq,Option.some.injEq,Addr.mk.injEq,and_true] at f1
    subst f1
    have hus:us=us0:=by
     have hk:=hext.block b (J9 (h.hrel.obj o _ hy) (by rw [g1]; rfl)) fun hb'=>hop (h.hrel.apart o p _ _ b hy hp (by rw [g1]; rfl) hb')
     rw [hk,f2] at g2
     simp only [Option.some.injEq,Obj.cells.injEq] at g2
     exact g2.1.symm
    subst hus
    exact ⟨b,us,g1,g2,g3,g4,fun i y v a c=>hmono (f5 i y v a c),g6⟩
   | bld o' e=>
    obtain ⟨b,v0,g1,g2,g3,g4,g5⟩:=hob
    have ho':o'≠H.length:=fun e=>g4 (by rw [e]; exact h.hrel.fresh _ (Nat.le_refl _))
    exact ⟨b,v0,g1,by rw [R1 ho']; exact g2,g3,by rw [R1 ho']; exact g4,g5⟩
   | buf e sz=>exact hob
   | tok e sz=>exact hob
   | map es=>
    obtain ⟨b,ms,cl,g1,g2,g3,g4,g5⟩:=hob
    obtain ⟨b0,ms0,cl0,f1,f2,f3,f4,f5⟩:=hoy
    rw [g1] at f1
    simp only [Value.map.injEq,Option.some.injEq] at f1
    subst f1
    have hus:ms=ms0:=by
     have hk:=hext.block b (J9 (h.hrel.obj o _ hy) (by rw [g1]; rfl)) fun hb'=>hop (h.hrel.apart o p _ _ b hy hp (by rw [g1]; rfl) hb')
     rw [hk,f2] at g2
     simp only [Option.some.injEq,Obj.map.injEq] at g2
     exact g2.1.symm
    subst hus
    exact ⟨b,ms,cl,g1,g2,g3,fun i k cs e a c=>⟨(g4 i k cs e a c).1,hmono (f4 i k cs e a c).2⟩,g5⟩
  ·trivial
  ·rw [J2]
   exact hob
 ·have key:∀ (o:Nat) x b,(O6 H p .dead++[Ob.tok e sz])[o]?=some x→blk x (U4 G H.length v' o)=some b→(o < H.length∧o≠p∧H[o]?=some x∧blk x (G o)=some b)∨(o=H.length∧(blk (.tok e sz) (G p)=some b∨w.heap.size≤b)):=by
   intro o x b ho hb
   rcases get o x ho with ⟨hlt,hop,hy⟩ | ⟨rfl,rfl⟩ | ⟨rfl,rfl⟩
   ·rw [R1 (Nat.ne_of_lt hlt)] at hb
    exact .inl ⟨hlt,hop,hy,hb⟩
   ·simp [blk] at hb
   ·rw [J2] at hb
    exact .inr ⟨rfl,hblk b hb⟩
  rcases key o x b ho hb with ⟨q1,q2,q3,q4⟩ | ⟨q1,q2⟩ <;> rcases key o' x' b ho' hb' with ⟨p1,p2,p3,p4⟩ | ⟨p1,p2⟩
  ·exact h.hrel.apart o o' x x' b q3 p3 q4 p4
  ·rcases p2 with p2 | p2
   ·exact absurd (h.hrel.apart o p x _ b q3 hp q4 p2) q2
   ·have:=J9 (h.hrel.obj o x q3) q4; omega
  ·rcases q2 with q2 | q2
   ·exact absurd (h.hrel.apart o' p x' _ b p3 hp p4 q2) p2
   ·have:=J9 (h.hrel.obj o' x' p3) p4; omega
  ·omega
 ·simp only [List.length_append,hl,List.length_cons,List.length_nil] at ho
  rw [R1 (by omega)]
  exact h.hrel.fresh o (by omega)
theorem L2.moveTok {fr:Fr}{M M':Mem}{G:Nat→Value}{w w':World}{H:Q0}(h:L2 fr M G w H){p e sz:Nat}{v':Value}
  (hp:H[p]?=some (.tok e sz)) (hext:Ext (fun b=>blk (.tok e sz) (G p)=some b) M w M' w') (hblk:∀ b,blk (.tok e sz) v'=some b→blk (.tok e sz) (G p)=some b∨w.heap.size≤b) :
  L2 fr M' (U4 G H.length v') w' (O6 H p .dead++[.tok e sz]):=by
 have hplt:p < H.length:=(List.getElem?_eq_some_iff.1 hp).1
 have hl:(O6 H p .dead).length=H.length:=Dj _ _ _
 have get:∀ (o:Nat) x,(O6 H p .dead++[Ob.tok e sz])[o]?=some x→(o < H.length∧o≠p∧H[o]?=some x)∨(o=p∧x = .dead)∨(o=H.length∧x = .tok e sz):=fun o x ho=>by
  rcases Nat.lt_trichotomy o H.length with hlt | rfl | hgt
  ·rw [List.getElem?_append_left (by omega),G8 _ _ _ _ hplt] at ho
   by_cases hop:o=p
   ·rw [if_pos hop] at ho; cases ho; exact .inr (.inl ⟨hop,rfl⟩)
   ·rw [if_neg hop] at ho; exact .inl ⟨hlt,hop,ho⟩
  ·rw [List.getElem?_append_right (by omega),hl,Nat.sub_self] at ho
   simp at ho
   exact .inr (.inr ⟨rfl,ho.symm⟩)
  ·rw [List.getElem?_eq_none (by simp; omega)] at ho
   cases ho
 refine ⟨h.ext.trans hext fun b hb=>h.own b ⟨p,_,hp,hb⟩,fun b ⟨o,z,hz,hb⟩=>?_,by simp; have:=h.len; omega,fun o x ho ht=>?_,fun o x y ho ht hy=>?_⟩
 ·rcases get o z hz with ⟨hlt,hop,hy⟩ | ⟨rfl,rfl⟩ | ⟨rfl,rfl⟩
  ·rw [R1 (Nat.ne_of_lt hlt)] at hb
   exact h.own b ⟨o,z,hy,hb⟩
  ·simp [blk] at hb
  ·rw [J2] at hb
   rcases hblk b hb with q | q
   ·exact h.own b ⟨p,_,hp,q⟩
   ·exact .inr (Nat.le_trans h.ext.size q)
 ·have hlt:o < H.length:=Nat.lt_of_lt_of_le (List.getElem?_eq_some_iff.1 ho).1 h.len
  rw [R1 (Nat.ne_of_lt hlt)]
  exact h.keep o x ho ht
 ·have hlt:o < H.length:=Nat.lt_of_lt_of_le (List.getElem?_eq_some_iff.1 ho).1 h.len
  rcases get o y hy with ⟨_,_,hy⟩ | ⟨_,rfl⟩ | ⟨rfl,_⟩
  ·exact h.kind o x y ho ht hy
  ·rfl
  ·omega
def Fv (C:Cx)(L:List Oper)(o:Oper)(env:Env)(H:Q0):Option Ap:=
 match E1 L env o,o.op,V4 o with
 | some true,.call { callee:=.builtin .append,args,argTypes },some d=>
  match args.toList,argTypes.toList with
  | [x,y],[t,t']=>bif Nat.beq t t' then
   (match V1 C.T t,Dr (ev C.GL env y) with
   | some it,some news=>match it.u with
    | .sl e=>match V1 C.T e with
     | some ie=>match ev C.GL env x with
      | .osl p rows=>match nth H p with
       | some (.tok e' sz')=>bif Nat.beq e e'&&Nat.beq ie.size sz' then some ⟨d,p,false,rows,news,ie.size,ie.bytes,O6 H p .dead++[.tok e ie.size]⟩ else none
       | _=>none
      | .full rows=>some ⟨d,H.length,true,rows,news,ie.size,ie.bytes,H++[.tok e ie.size]⟩
      | _=>none
     | none=>none
    | _=>none
   | _,_=>none) else none
  | _,_=>none
 | _,_,_=>none
theorem E0.am {F:Fx}(hC:O1 F.C){L l:List Oper}{o:Oper}{env:Env}{H:Q0}{Q:Env→Q0→Prop}{d:Option Nat}{p:Nat}{nw:Bool}{rows news:List Row}{sz bytes:Nat}{H':Q0}
  (h:Fv F.C L o env H=some ⟨d,p,nw,rows,news,sz,bytes,H'⟩) (h1:∀ r∈rows,r.length=sz) (h2:∀ r∈news,r.length=sz) (h3:(rows.length+news.length) * (bytes+1)≤140737488355328)
  (k:E0 F L l (put env d (.osl H.length (rows++news))) H' Q):E0 F L (o::l) env H Q:=by
 unfold Fv at h
 split at h
 ·rename_i args ts dd hw ho hd
  split at h
  ·rename_i x y t t' ha ht
   cases hb:Nat.beq t t' with
   | false=>rw [hb] at h; cases h
   | true=>
    rw [hb] at h
    obtain rfl:=Nat.eq_of_beq_eq_true hb
    simp only [cond_true] at h
    split at h
    ·rename_i it news' hit hnews
     split at h
     ·rename_i e hu
      split at h
      ·rename_i ie hie
       have hmem:x∈o.op.operands∧y∈o.op.operands:=by
        rw [ho]
        obtain rfl:args = #[x,y]:=by rw [← Array.toArray_toList (xs:=args),ha]
        simp [Op.operands,Call.operands]
       have hlen:(rows.length+news.length) * bytes≤140737488355328∧rows.length+news.length≤maxLen:=by
        have:(rows.length+news.length) * (bytes+1)=(rows.length+news.length) * bytes+(rows.length+news.length):=Nat.mul_succ _ _
        unfold maxLen
        omega
       split at h
       ·rename_i q rows' hx
        split at h
        ·rename_i e' sz' hq
         cases hbb:Nat.beq e e'&&Nat.beq ie.size sz' with
         | false=>rw [hbb] at h; cases h
         | true=>
          rw [hbb] at h
          simp only [Bool.and_eq_true] at hbb
          obtain rfl:=Nat.eq_of_beq_eq_true hbb.1
          obtain rfl:=Nat.eq_of_beq_eq_true hbb.2
          simp only [cond_true] at h
          simp only [Option.some.injEq,Ap.mk.injEq] at h
          obtain ⟨rfl,rfl,rfl,rfl,rfl,rfl,rfl,rfl⟩:=h
          refine I7 hw fun fr M G w a K Qw hK hdok hs hsi hk=>?_
          have hxr:=hs.eval x
          rw [hx] at hxr
          generalize hxv:a.eval x=xv at hxr
          cases hxr
          rename_i hgq hrd
          rw [C2] at hq
          have htok:Tok M w e ie.size xv:=by have:=hs.hrel.obj _ _ hq; rw [hgq] at this; exact this
          obtain ⟨v',w',M',r1,r2,r3,r4,r5,r6⟩:=Qu (ty:=o.type) hC.tok hs.good hit hu hie hrd (Tf hnews (hs.eval y)) htok h1 h2 hlen.1 hlen.2
          unfold Oper.wp
          rw [Ol ho ha ht (by rw [hxv]; exact r1)]
          rw [← hgq] at r5 r6
          refine hk (.osl H.length (rows'++news')) env _ M' (U4 G H.length v') w' v' ?_ (hs.moveTok (D3 hdok) hq r5 r4 r3 r6 (.osl r2 J2)) (hsi.moveTok hq r5 r6)
          rw [E3 hd]
          exact k
        ·cases h
       ·rename_i rows' hx
        simp only [Option.some.injEq,Ap.mk.injEq] at h
        obtain ⟨rfl,rfl,rfl,rfl,rfl,rfl,rfl,rfl⟩:=h
        refine I7 hw fun fr M G w a K Qw hK hdok hs hsi hk=>?_
        have hxr:=hs.eval x
        rw [hx] at hxr
        generalize hxv:a.eval x=xv at hxr
        cases hxr
        rename_i hfull hrd
        obtain ⟨t1,t2⟩:=Ru (G:=fun _=>.tuple #[]) (w:=w) hrd hfull e ie.size
        obtain ⟨v',w',M',r1,r2,r3,r4,r5,r6⟩:=Qu (ty:=o.type) hC.tok hs.good hit hu hie hrd (Tf hnews (hs.eval y)) t1 h1 h2 hlen.1 hlen.2
        unfold Oper.wp
        rw [Ol ho ha ht (by rw [hxv]; exact r1)]
        have r5':Ext P4 M w M' w':=r5.weaken fun b hb=>absurd hb (t2 b)
        have r6':∀ b,blk (.tok e ie.size) v'=some b→w.heap.size≤b:=fun b hb=>(r6 b hb).resolve_left (t2 b)
        refine hk (.osl H.length (rows'++news')) env _ M' (U4 G H.length v') w' v' ?_ (hs.newTok (D3 hdok) r5' r4 r3 r6' (.osl r2 J2)) (hsi.newTok r5' r6')
        rw [E3 hd]
        exact k
       ·cases h
      ·cases h
     ·cases h
    ·cases h
  ·cases h
 ·cases h
end Go.Am

namespace Go.Am
theorem A1n {ps:List Nat}{H:Q0}{x:Ob}(hn:∀ q∈ps,q < H.length):S2 ps (H++[x])=S2 ps H++[x]:=by
 apply List.ext_getElem?
 intro n
 rw [Na]
 by_cases hlt:n < H.length
 ·rw [List.getElem?_append_left hlt,List.getElem?_append_left (by rw [H8]; exact hlt),Na]
 ·rw [List.getElem?_append_right (by omega),List.getElem?_append_right (by rw [H8]; omega),H8]
  have:ps.contains n=false:=by
   cases hb:ps.contains n with
   | false=>rfl
   | true=>exact absurd (hn n (by simpa using hb)) hlt
  cases [x][n - H.length]? with
  | none=>rfl
  | some y=>simp only [Option.map_some,this]; rfl
theorem Y1p {C:Cx}{L:List Oper}{o:Oper}{env env':Env}{H H':Q0}{ps:List Nat}{d:Option Nat}{p:Nat}{nw:Bool}{rows news:List Row}{sz bytes:Nat}(he:∀ t∈B8 L o,env' t=env t)
  (h:Fv C L o env H=some ⟨d,p,nw,rows,news,sz,bytes,H'⟩) (hps:∀ q∈ps,q < H.length) (hp:ps.contains p=false) :
  ∃ p',Fv C L o env' (S2 ps H)=some ⟨d,p',nw,rows,news,sz,bytes,S2 ps H'⟩:=by
 have hop:∀ y∈o.op.operands,ev C.GL env' y=ev C.GL env y:=fun y hy=>Tt fun t ht=>he t (by
  subst ht
  simp only [B8,List.mem_append,List.mem_filterMap]
  exact .inl ⟨.tmp t,by simpa using hy,rfl⟩)
 unfold Fv at h ⊢
 rw [Nl he]
 split at h
 ·rename_i args ts dd hw ho hd
  split at h
  ·rename_i x y t t' ha ht
   have hmem:x∈o.op.operands∧y∈o.op.operands:=by
    rw [ho]
    obtain rfl:args = #[x,y]:=by rw [← Array.toArray_toList (xs:=args),ha]
    simp [Op.operands,Call.operands]
   rw [hop x hmem.1,hop y hmem.2]
   cases hb:Nat.beq t t' with
   | false=>rw [hb] at h; cases h
   | true=>
    rw [hb] at h
    simp only [cond_true] at h
    split at h
    ·rename_i it news' hit hnews
     split at h
     ·rename_i e hu
      split at h
      ·rename_i ie hie
       split at h
       ·rename_i q rows' hx
        split at h
        ·rename_i e' sz' hq
         cases hbb:Nat.beq e e'&&Nat.beq ie.size sz' with
         | false=>rw [hbb] at h; cases h
         | true=>
          rw [hbb] at h
          simp only [cond_true,Option.some.injEq,Ap.mk.injEq] at h
          obtain ⟨rfl,rfl,rfl,rfl,rfl,rfl,rfl,rfl⟩:=h
          have hlt:q < H.length:=(List.getElem?_eq_some_iff.1 (by rw [C2] at hq; exact hq)).1
          have hq':nth (S2 ps H) q=some (.tok e' sz'):=by
           rw [C2] at hq ⊢
           rw [Na,hq,Option.map_some,hp]
           rfl
          refine ⟨q,?_⟩
          rw [A1n (by rw [Dj]; exact hps),← Y1m hlt hp]
          simp [hq',hbb]
        ·cases h
       ·rename_i rows' hx
        simp only [Option.some.injEq,Ap.mk.injEq] at h
        obtain ⟨rfl,rfl,rfl,rfl,rfl,rfl,rfl,rfl⟩:=h
        refine ⟨(S2 ps H).length,?_⟩
        rw [A1n hps]
        simp
       ·cases h
      ·cases h
     ·cases h
    ·cases h
  ·cases h
 ·cases h
theorem Z1v {C:Cx}{L:List Oper}{o:Oper}{env:Env}{H:Q0}{r:Ap}(h:Fv C L o env H=some r):E1 L env o=some true∧V4 o=some r.d:=by
 unfold Fv at h
 split at h
 ·rename_i args ts dd hw ho hd
  refine ⟨hw,?_⟩
  split at h
  ·rename_i x y t t' ha ht
   cases hb:Nat.beq t t' with
   | false=>rw [hb] at h; cases h
   | true=>
    rw [hb] at h
    simp only [cond_true] at h
    split at h
    ·split at h
     ·split at h
      ·split at h
       ·split at h
        ·obtain ⟨_,h⟩:=Xt h
         simp only [Option.some.injEq] at h; subst h; exact hd
        ·cases h
       ·simp only [Option.some.injEq] at h; subst h; exact hd
       ·cases h
      ·cases h
     ·cases h
    ·cases h
  ·cases h
 ·cases h
section
variable {F:Fx}{L l:List Oper}{o:Oper}{env:Env}{ls:List Nat}{fs:List (Nat×Nat)}{Hs:List Q0}{j i:Nat}{Q:Env→Prop}
theorem AS.am (hC:O1 F.C){H H':Q0}{d:Option Nat}{p q:Nat}{nw:Bool}{rows news rs:List Row}{sz bytes:Nat}(h1:nth ls i=some j)(hf:Yh fs j=none)(h2:nth Hs i=some H)(h3:nth Hs (i+1)=some H')
  (h:Fv F.C L o env H=some ⟨d,p,nw,rows,news,sz,bytes,H'⟩) (e:rs=rows++news) (k1:∀ r∈rows,r.length=sz) (k2:∀ r∈news,r.length=sz) (k3:(rows.length+news.length) * (bytes+1)≤140737488355328)
  (hq:H.length=q) (hun:((unw L fs j).all (fun p=>Nat.blt p H.length) && !(unw L fs j).contains p)=true) (k:AS F L ls fs Hs (j+1) (i+1) l (put env d (.osl q rs)) Q):AS F L ls fs Hs j i (o::l) env Q:=by
 subst e; subst hq
 obtain ⟨w1,w2⟩:=Z1v h
 have hd:=E3 w2
 simp only [Bool.and_eq_true,List.all_eq_true] at hun
 refine .inr (.inl ⟨.osl H.length (rows++news),H,H',h1,hf,w1,h2,h3,fun ps hps env' K he Q hq=>?_,by rw [hd]; exact k⟩)
 have hn:ps.contains p=false:=by
  cases hb:ps.contains p with
  | false=>rfl
  | true=>
   have h5:=hps p (by simpa using hb)
   have h6:(unw L fs j).contains p=true:=by simpa using h5
   rw [h6] at hun; exact absurd hun.2 (by simp)
 obtain ⟨p',hs⟩:=Y1p he h (fun q hq=>Nat.le_of_ble_eq_true (hun.1 q (hps q hq))) hn
 refine E0.am (F:=⟨F.C,F.N,K⟩) hC hs k1 k2 k3 (E0.nil ?_)
 rw [H8]
 rw [hd] at hq
 exact hq
end
end Go.Am

namespace Go.Am
theorem Su {sz:Nat}:∀ {rows:List Row},(∀ r∈rows,r.length=sz)→rows.flatten.length=rows.length * sz
 | [],_=>by simp
 | r::rs,h=>by
  rw [List.flatten_cons,List.length_append,Su fun x hx=>h x (List.mem_cons_of_mem _ hx),h r List.mem_cons_self,List.length_cons,Nat.add_mul]
  omega
theorem W11 {sz:Nat}:∀ {rows:List Row},(∀ r∈rows,r.length=sz)→∀ {i j:Nat} {r:Row} {x:D},rows[i]?=some r→r[j]?=some x→rows.flatten[i * sz+j]?=some x
 | [],_,i,j,r,x,h,_=>by simp at h
 | r0::rs,hsz,0,j,r,x,h,hx=>by
  simp at h; subst h
  have hj:=(List.getElem?_eq_some_iff.1 hx).1
  rw [List.flatten_cons,List.getElem?_append_left (by omega),Nat.zero_mul,Nat.zero_add]
  exact hx
 | r0::rs,hsz,i+1,j,r,x,h,hx=>by
  have h0:=hsz r0 List.mem_cons_self
  rw [List.flatten_cons,List.getElem?_append_right (by rw [h0,Nat.add_mul]; omega),h0,Nat.add_mul,show i * sz+1 * sz+j - sz=i * sz+j by omega]
  exact W11 (fun x hx=>hsz x (List.mem_cons_of_mem _ hx)) (by simpa using h) hx
theorem R1e {sz:Nat}:∀ {rows:List Row},(∀ r∈rows,r.length=sz)→∀ {k:Nat} {x:D},rows.flatten[k]?=some x→∃ i j r,k=i * sz+j∧j < sz∧rows[i]?=some r∧r[j]?=some x
 | [],_,k,x,h=>by simp at h
 | r0::rs,hsz,k,x,h=>by
  have h0:=hsz r0 List.mem_cons_self
  rw [List.flatten_cons] at h
  by_cases hk:k < sz
  ·rw [List.getElem?_append_left (by omega)] at h
   exact ⟨0,k,r0,by omega,hk,rfl,h⟩
  ·rw [List.getElem?_append_right (by omega),h0] at h
   obtain ⟨i,j,r,e1,e2,e3,e4⟩:=R1e (fun x hx=>hsz x (List.mem_cons_of_mem _ hx)) h
   exact ⟨i+1,j,r,by rw [Nat.add_mul]; omega,e2,by simpa using e3,e4⟩
theorem Z1p {P:Program}{T:TT}(hT:TOk P T){M:Mem}{G:Nat→Value}{w:World}(hG:T4 M w){t e ty:Nat}{it ie:TI}(ht:V1 T t=some it)(hu:it.u = .sl e)(he:V1 T e=some ie){news:List Row}{v u:Value}
  (hv:Q1 M (.sl []) v) (hf:O1h v) (hnv:Q1 M (.sl news) u) (hne:news≠[]) (hn:∀ r∈news,r.length=ie.size) (hb:news.length * ie.bytes≤140737488355328) (hm:news.length≤maxLen) :
  ∃ cap vs,(Builtin.append_ #[t,t] ty #[v,u]).run P w = .ok (.slice (some ⟨w.heap.size,0,none⟩) news.length cap) (w.drew.alloc (.cells vs e))∧news.length≤cap∧cap≤maxLen∧A13 M G (news.flatten.map .d) vs:=by
 have fe:=hT.facts he
 have hd:=Bj (hT.facts ht) hu
 obtain ⟨info,hi,hsz,hby,z,hz,hzl,hzb,_⟩:=fe.info
 obtain ⟨nvals,hnr,hnsh⟩:=J1f hG hnv hn
 have hlen:0 < news.length:=by cases news with | nil=>exact absurd rfl hne | cons _ _=>simp
 rcases hnsh with ⟨rfl,rfl⟩ | ⟨na,ncap,rfl,hns,hnc,hncm,hnM,hncell⟩
 ·exact absurd rfl hne
 have hbytes:news.length * info.bytes≤140737488355328:=by rw [hby]; exact hb
 have hnl:(Z5 ie.size news.length nvals).length=news.length * info.size:=by rw [Xc,hsz]
 have hncell':∀ (j:Nat) u,(Z5 ie.size news.length nvals)[j]?=some u→w.cell? (na.add j)=some u:=fun j u hu=>(hncell j u hu).1
 have hone:∀ (n:Nat) (i:Nat) v,(Builtin.zeroCells z.cells n)[i]?=some v→v.oneCell'=true:=fun n i v hv=>by
  unfold Builtin.zeroCells at hv
  rw [Array.getElem?_map] at hv
  cases hr:(Array.range (n * z.cells.size))[i]? with
  | none=>rw [hr] at hv; cases hv
  | some q=>
   rw [hr] at hv
   simp only [Option.map_some,Option.some.injEq] at hv
   have hq:=(Array.getElem?_eq_some_iff.1 hr).1
   simp only [Array.size_range] at hq
   have hpos:0 < z.cells.size:=by
    rcases Nat.eq_zero_or_pos z.cells.size with h0 | h0
    ·rw [h0] at hq; omega
    ·exact h0
   have hlt:q % z.cells.size < z.cells.size:=Nat.mod_lt _ hpos
   have hget:z.cells[q % z.cells.size]?=some v:=by
    rw [← hv]
    simp [hlt]
   have hlz:q % z.cells.size < ie.zero.length:=by rw [← hzl]; simpa using hlt
   exact (Cr (hzb _ v _ hget (List.getElem?_eq_getElem hlz)) M).one
 have cells:∀ zs:Array Value,(∀ (i:Nat) v,zs[i]?=some v→v.oneCell'=true)→A13 M G (news.flatten.map .d) ((Z5 ie.size news.length nvals).toArray++zs):=fun zs hzs=>by
  refine ⟨?_,fun i v hv=>?_,fun i x v hx hv=>?_⟩
  ·simp only [List.length_map,Array.size_append,List.size_toArray]
   rw [Su hn,Xc]
   omega
  ·by_cases hlt:i < (Z5 ie.size news.length nvals).length
   ·rw [Array.getElem?_append_left (by simpa using hlt),List.getElem?_toArray] at hv
    exact (hncell i v hv).2
   ·rw [Array.getElem?_append_right (by simp; omega)] at hv
    exact hzs _ v hv
  ·rw [List.getElem?_map] at hx
   cases hfx:news.flatten[i]? with
   | none=>rw [hfx] at hx; cases hx
   | some y=>
    rw [hfx] at hx
    simp only [Option.map_some,Option.some.injEq] at hx
    subst hx
    obtain ⟨r,j,row,e1,e2,e3,e4⟩:=R1e hn hfx
    have hr:=(List.getElem?_eq_some_iff.1 e3).1
    have hg:=T10 (sz:=ie.size) (m:=news.length) (D1:=nvals) e2 hr
    have hlt:i < (Z5 ie.size news.length nvals).length:=by rw [e1]; exact (List.getElem?_eq_some_iff.1 hg).1
    rw [Array.getElem?_append_left (by simpa using hlt),List.getElem?_toArray,e1,hg] at hv
    cases hv
    exact .d (hnr r j row y e3 e4)
 have nil0:∀ x:Array Value,(#[]++x)=x:=fun x=>by simp
 cases hv with
 | slnil=>
  have hrun:=run_append_nil (P:=P) w t ty e info z hd hi hz na news.length ncap (Z5 ie.size news.length nvals) hnl hncell' hlen (by unfold maxLen at hm; omega) (by omega)
  exact ⟨_,_,hrun,grownCap_ge w _ _ e,grownCap_le_maxLen w _ _ e hm,cells _ (hone _)⟩
 | sl sz' D1 hl hc hcm hs hz' h1 h2=>
  rename_i a len cap
  have hl0:len=0:=by simpa using hl.symm
  subst hl0
  have hc0:(0:Nat)=cap:=hf
  subst hc0
  have hrun:=run_append_grow (P:=P) w t ty e info z hd hi hz a 0 0 [] (by simp) (fun j u hu'=>by simp at hu') na news.length ncap (Z5 ie.size news.length nvals) hnl hncell'
   (by omega) (by unfold maxLen at hm; omega) (growslice_fits (by omega) (by simpa using hbytes))
  simp only [Nat.zero_add] at hrun
  exact ⟨_,_,hrun,grownCap_ge w _ _ e,grownCap_le_maxLen w _ _ e hm,by
   have:=cells (Builtin.zeroCells z.cells (grownCap w news.length 0 e - news.length)) (hone _)
   simpa using this⟩
def K1y (C:Cx)(L:List Oper)(o:Oper)(env:Env):Option (Option Nat×Nat×List Row×Nat×Nat):=
 match E1 L env o,o.op,V4 o with
 | some true,.call { callee:=.builtin .append,args,argTypes },some d=>
  match args.toList,argTypes.toList with
  | [x,y],[t,t']=>bif Nat.beq t t' then
   (match V1 C.T t,Dr (ev C.GL env y),ev C.GL env x with
   | some it,some news,.full []=>match it.u with
    | .sl e=>match V1 C.T e with
     | some ie=>some (d,e,news,ie.size,ie.bytes)
     | none=>none
    | _=>none
   | _,_,_=>none) else none
  | _,_=>none
 | _,_,_=>none
theorem E0.an {F:Fx}(hC:O1 F.C){L l:List Oper}{o:Oper}{env:Env}{H H':Q0}{Q:Env→Q0→Prop}{d:Option Nat}{e p n:Nat}{news:List Row}{sz bytes:Nat}{cs:List A}
  (h:K1y F.C L o env=some (d,e,news,sz,bytes)) (hne:news≠[]) (h1:∀ r∈news,r.length=sz) (h3:news.length * (bytes+1)≤140737488355328) (hcs:cs=news.flatten.map .d) (hn:news.length=n) (hp:Fo H (.row cs e)=some (p,H'))
  (k:E0 F L l (put env d (.rsl p 0 n n)) H' Q):E0 F L (o::l) env H Q:=by
 subst hcs; subst hn
 obtain ⟨rfl,rfl⟩:=Ej hp
 unfold K1y at h
 split at h
 ·rename_i args ts dd hw ho hd
  split at h
  ·rename_i x y t t' ha ht
   obtain ⟨hb,h5⟩:=Xt h
   clear h
   obtain rfl:=Nat.eq_of_beq_eq_true hb
   split at h5
   ·rename_i it news' hit hnews hx
    split at h5
    ·rename_i e' hu
     split at h5
     ·rename_i ie hie
      simp only [Option.some.injEq,Prod.mk.injEq] at h5
      obtain ⟨rfl,rfl,rfl,rfl,rfl⟩:=h5
      have hlen:news'.length * ie.bytes≤140737488355328∧news'.length≤maxLen:=by
       have:news'.length * (ie.bytes+1)=news'.length * ie.bytes+news'.length:=Nat.mul_succ _ _
       unfold maxLen
       omega
      refine I7 hw fun fr M G w a K Qw hK hdok hs hsi hk=>?_
      have hxr:=hs.eval x
      rw [hx] at hxr
      generalize hxv:a.eval x=xv at hxr
      obtain ⟨hrd,hfl⟩:Q1 M (.sl []) xv∧O1h xv:=by cases hxr; exact ⟨by assumption,by assumption⟩
      obtain ⟨cap,vs,r1,r2,r3,r4⟩:=Z1p (G:=G) (ty:=o.type) hC.tok hs.good hit hu hie hrd hfl (Tf hnews (hs.eval y)) hne h1 hlen.1 hlen.2
      have hext:Ext P4 M w M w.drew:=⟨fun _ _ e=>e,Nat.le_refl _,rfl,rfl,rfl,fun _ _ _=>rfl,fun _ _ e=>.inl e⟩
      have q1:St F.C F.N M G w.drew env H a:=⟨fun a v e=>hs.good a v e,hs.gl.ext hs.hrel hext (fun _ h=>h.elim),hs.hrel.ext hext (fun _ _ h=>h),hs.env,hs.size,hs.defers⟩
      have k1:=q1.newRowL (dst:=none) (by simp) r4 (elem:=e')
      have k2:=L2.newRow (hsi.quiet hext) (cs:=news'.flatten.map .d) (vs:=vs) (elem:=e')
      have k3:=k1.quiet (D3 hdok) (x:=.rsl H.length 0 news'.length news'.length) (v:=.slice (some ⟨w.heap.size,0,none⟩) news'.length cap) (.rsl J2 r2 r3) k1.good (Ext.refl _ _ _)
      unfold Oper.wp
      rw [Ol ho ha ht (by rw [hxv]; exact r1)]
      rw [← E3 hd] at k
      exact hk _ _ _ _ _ _ _ k k3 (k2.quiet (Ext.refl _ _ _))
     ·cases h5
    ·cases h5
   ·cases h5
  ·cases h
 ·cases h
section
variable {α:Type}{f:α→Row}{g:List α→List Row}
theorem flat_get (hg:∀ l,g l=l.map f){sz:Nat}(hn:∀ x,(f x).length=sz){l:List α}{i j:Nat}{x:α}{d:D}(h:l[i]?=some x)(hj:(f x)[j]?=some d):((g l).flatten.map A.d)[i * sz+j]?=some (.d d):=by
 rw [List.getElem?_map,W11 (rows:=g l) (fun r hr=>by rw [hg] at hr; obtain ⟨y,_,rfl⟩:=List.mem_map.1 hr; exact hn y) (r:=f x) (by rw [hg,List.getElem?_map,h]; rfl) hj]
 rfl
theorem flat_lt (hg:∀ l,g l=l.map f){sz:Nat}(hn:∀ x,(f x).length=sz){l:List α}{i j:Nat}{x:α}(h:l[i]?=some x)(hj:j < sz):i * sz+j < ((g l).flatten.map A.d).length:=by
 have hlt:j < (f x).length:=by rw [hn]; exact hj
 exact (List.getElem?_eq_some_iff.1 (flat_get hg hn h (List.getElem?_eq_getElem hlt))).1
theorem flat_set (hg:∀ l,g l=l.map f){sz:Nat}(hn:∀ x,(f x).length=sz){l:List α}{i j:Nat}{x y:α}{d:D}(h:l[i]?=some x)(hj:j < sz)(hy:f y=(f x).set j d):(g (l.set i y)).flatten.map A.d=Pb ((g l).flatten.map A.d) (i * sz+j) [.d d]:=by
 have hs:∀ {m:List α},∀ r∈g m,r.length=sz:=fun r hr=>by rw [hg] at hr; obtain ⟨y,_,rfl⟩:=List.mem_map.1 hr; exact hn y
 have hil:=(List.getElem?_eq_some_iff.1 h).1
 have hlt:=flat_lt hg hn h hj
 apply List.ext_getElem?
 intro k
 rw [Rq _ _ _ _ (by simp only [List.length_singleton]; omega)]
 have len1:((g (l.set i y)).flatten.map A.d).length=l.length * sz:=by rw [List.length_map,Su hs,hg,List.length_map,List.length_set]
 have len2:((g l).flatten.map A.d).length=l.length * sz:=by rw [List.length_map,Su hs,hg,List.length_map]
 by_cases hk:k < l.length * sz
 ·have hpos:0 < sz:=by omega
  have hq:k / sz < l.length:=by rw [Nat.div_lt_iff_lt_mul hpos]; exact hk
  have hm:k % sz < sz:=Nat.mod_lt _ hpos
  have hk':k=k / sz * sz+k % sz:=by rw [Nat.mul_comm]; exact (Nat.div_add_mod k sz).symm
  generalize hqq:k / sz=q at *
  generalize hrr:k % sz=r at *
  obtain ⟨z,hz⟩:∃ z,l[q]?=some z:=⟨_,List.getElem?_eq_getElem hq⟩
  obtain ⟨dz,hdz⟩:∃ dz,(f z)[r]?=some dz:=⟨_,List.getElem?_eq_getElem (by rw [hn]; exact hm)⟩
  by_cases hqi:q=i
  ·subst hqi
   rw [h] at hz; cases hz
   obtain ⟨dy,hdy⟩:∃ dy,(f y)[r]?=some dy:=⟨_,List.getElem?_eq_getElem (by rw [hn]; exact hm)⟩
   rw [hk',flat_get hg hn (l:=l.set q y) (by rw [List.getElem?_set_self hil]) hdy]
   rw [hy,List.getElem?_set] at hdy
   by_cases hrj:j=r
   ·subst hrj
    rw [if_pos rfl,if_pos (by rw [hn]; exact hm)] at hdy
    cases hdy
    rw [if_pos (by simp)]
    simp
   ·rw [if_neg hrj] at hdy
    rw [if_neg (by simp; omega),flat_get hg hn h hdy]
  ·rw [hk',flat_get hg hn (l:=l.set i y) (by rw [List.getElem?_set_ne (Ne.symm hqi)]; exact hz) hdz]
   rw [if_neg,flat_get hg hn hz hdz]
   simp only [List.length_singleton]
   intro hc
   have:q * sz+r=i * sz+j:=by omega
   rcases Nat.lt_trichotomy q i with hlt' | he | hgt
   ·have:(q+1) * sz≤i * sz:=Nat.mul_le_mul_right _ hlt'
    rw [Nat.add_mul] at this; omega
   ·exact hqi he
   ·have:(i+1) * sz≤q * sz:=Nat.mul_le_mul_right _ hgt
    rw [Nat.add_mul] at this; omega
 ·rw [List.getElem?_eq_none (by omega),if_neg (by simp; omega),List.getElem?_eq_none (by omega)]
end
inductive Vw (p n:Nat)(y:D):A→A→Prop
 | rfl {x}:Vw p n y x x
 | rsl {cap}:Vw p n y (.d y) (.rsl p 0 n cap)
 | agg {xs ys} (hl:xs.length=ys.length) (h:∀ (i:Nat) x z,xs[i]?=some x→ys[i]?=some z→Vw p n y x z):Vw p n y (.agg xs) (.agg ys)
def VwL (p n:Nat)(y:D):List A→List A→Prop
 | [],[]=>True
 | x::xs,z::zs=>Vw p n y x z∧VwL p n y xs zs
 | _,_=>False
theorem VwL.spec {p n:Nat}{y:D}:∀ {xs ys:List A},VwL p n y xs ys→xs.length=ys.length∧∀ (i:Nat) x z,xs[i]?=some x→ys[i]?=some z→Vw p n y x z
 | [],[],_=>⟨rfl,fun i x z h=>by simp at h⟩
 | x::xs,z::zs,h=>by
  obtain ⟨h1,h2⟩:=VwL.spec h.2
  refine ⟨by simp [h1],fun i a b ha hb=>?_⟩
  cases i with
  | zero=>simp at ha hb; subst ha; subst hb; exact h.1
  | succ i=>exact h2 i a b (by simpa using ha) (by simpa using hb)
 | [],_::_,h=>h.elim
 | _::_,[],h=>h.elim
theorem Vw.aggL {p n:Nat}{y:D}{xs ys:List A}(h:VwL p n y xs ys):Vw p n y (.agg xs) (.agg ys):=.agg h.spec.1 h.spec.2
theorem Vw.rel {M M1:Mem}{G:Nat→Value}{p n:Nat}{y:D}(hm:∀ a v,M a=some v→M1 a=some v)(hy:∀ cap v,Z0 M G (.rsl p 0 n cap) v→Q1 M1 y v){x z:A}(h:Vw p n y x z):∀ {v:Value},Z0 M G z v→Z0 M1 G x v:=by
 induction h with
 | rfl=>exact fun h=>h.mono' hm
 | rsl=>exact fun h=>.d (hy _ _ h)
 | agg hl _ ih=>
  intro v hz
  cases hz with
  | agg hl' h1 h=>
   refine .agg (by omega) h1 fun i x v hx hv=>?_
   obtain ⟨z,hz⟩:∃ z,_=some z:=⟨_,List.getElem?_eq_getElem (by rw [← hl]; exact (List.getElem?_eq_some_iff.1 hx).1)⟩
   exact ih i x z hx hz (h i z v hz hv)
def O1i:D→Bool
 | .int _ _=>true
 | .bool _=>true
 | .str _=>true
 | _=>false
def P1o:List A→Bool
 | []=>true
 | .d y::r=>O1i y&&P1o r
 | _::_=>false
def P1i:A→Bool
 | .d y=>O1i y
 | .tup xs=>P1o xs
 | _=>false
theorem B1n {M M':Mem}{x:D}{v:Value}(h:O1i x=true)(hr:Q1 M x v):Q1 M' x v:=by
 cases hr <;> first | (simp [O1i] at h; done) | skip
 ·exact .bool
 ·exact .int (by assumption)
 ·exact .str (by assumption)
theorem C1n:∀ {xs:List A},P1o xs=true→∀ x∈xs,∃ y,x = .d y∧O1i y=true
 | .d y::r,h,x,hx=>by
  simp only [P1o,Bool.and_eq_true] at h
  cases hx with
  | head=>exact ⟨y,rfl,h.1⟩
  | tail _ hx=>exact C1n h.2 x hx
theorem L1y {M M':Mem}{G:Nat→Value}{x:A}{v:Value}(h:P1i x=true)(hr:Z0 M G x v):Z0 M' G x v:=by
 cases hr with
 | d h'=>exact .d (B1n h h')
 | tup hl hh=>
  refine .tup hl fun i x v hx hv=>?_
  obtain ⟨y,rfl,hy⟩:=C1n h x (List.mem_of_getElem? hx)
  have:=hh i _ v hx hv
  cases this with
  | d h'=>exact .d (B1n hy h')
 | _=>simp [P1i] at h
theorem S1e {C:Cx}{o:Oper}{env:Env}{H:Q0}{f:FuncId}{xs ys:List A}{x:A}{p n sz:Nat}{rows:List Row}{cs:List A}{e:TypeId}(ha:Ef C.GL env o=some (f,xs))(hp:nth H p=some (.row cs e))(hcs:cs=rows.flatten.map .d)
  (hsz:∀ r∈rows,r.length=sz) (hn:rows.length=n) (hv:VwL p n (.sl rows) ys xs) (hnm:B2 0 ys=true) (hc:K0 C f ys [] (fun r H'=>H'=[]∧r=x)) (hx:P1i x=true):E6 C o env H x:=by
 intro M G w a next Qw hρ hG hgl hH hk
 subst hcs; subst hn
 rw [C2] at hp
 obtain ⟨vs0,h1,h2,h3⟩:=Nu ha hρ hc.1
 obtain ⟨b,vs,g1,g2,g3,g4,g5,g6⟩:=hH.obj p _ hp
 let M1:Mem:=fun ad=>if ad.block=b∧ad.spot=none then vs[ad.off]? else M ad
 have hm:∀ ad v,M ad=some v→M1 ad=some v:=fun ad v e=>by
  show (if ad.block=b∧ad.spot=none then vs[ad.off]? else M ad)=some v
  rw [if_neg]
  ·exact e
  ·rintro ⟨q1,q2⟩
   obtain ⟨bb,oo,ss⟩:=ad
   simp only at q1
   subst q1
   rw [g6] at e; cases e
 have hg1:T4 M1 w:=fun ad v e=>by
  by_cases hh:ad.block=b∧ad.spot=none
  ·obtain ⟨bb,oo,ss⟩:=ad
   simp only at hh
   obtain ⟨rfl,rfl⟩:=hh
   have e4:vs[oo]?=some v:=by
    have:(if bb=bb∧(none:Option Nat)=none then vs[oo]? else M ⟨bb,oo,none⟩)=some v:=e
    rwa [if_pos ⟨rfl,rfl⟩] at this
   exact .inl ⟨rfl,by rw [Bn g2]; exact e4⟩
  ·have e4:M ad=some v:=by
    have:(if ad.block=b∧ad.spot=none then vs[ad.off]? else M ad)=some v:=e
    rwa [if_neg hh] at this
   exact hG ad v e4
 have hgl1:Ey C M1 w:=by
  have hext:Ext (fun c=>c=b) M w M1 w:=⟨hm,Nat.le_refl _,rfl,rfl,rfl,fun _ _ _=>rfl,fun ad v e1=>by
   have e1:(if ad.block=b∧ad.spot=none then vs[ad.off]? else M ad)=some v:=e1
   split at e1
   ·rename_i hc'; exact .inr (.inl hc'.1)
   ·exact .inl e1⟩
  exact hgl.ext hH hext fun c hc'=>by subst hc'; exact ⟨p,_,hp,by rw [g1]; rfl⟩
 have hy:∀ cap v,Z0 M G (.rsl p 0 rows.length cap) v→Q1 M1 (.sl rows) v:=fun cap v hr=>by
  obtain ⟨b',cap',q1,q2,q3,rfl⟩:∃ b' cap',G p = .pointer (some ⟨b',0,none⟩)∧rows.length≤cap'∧cap'≤maxLen∧v = .slice (some ⟨b',0,none⟩) rows.length cap':=by
   cases hr
   exact ⟨_,_,by assumption,by assumption,by assumption,rfl⟩
  rw [g1] at q1
  simp at q1
  subst q1
  have hget:∀ (i j:Nat) r x,rows[i]?=some r→r[j]?=some x→∃ u,vs[i * sz+j]?=some u∧Q1 M1 x u:=fun i j r x hi hj=>by
   have hf:=W11 hsz hi hj
   have hc':(rows.flatten.map A.d)[i * sz+j]?=some (.d x):=by rw [List.getElem?_map,hf]; rfl
   have hlt:i * sz+j < vs.size:=Nat.lt_of_lt_of_le (List.getElem?_eq_some_iff.1 hc').1 g3
   refine ⟨vs[i * sz+j],Array.getElem?_eq_getElem hlt,?_⟩
   have:=g5 _ _ _ hc' (Array.getElem?_eq_getElem hlt)
   cases this with
   | d h'=>exact h'.mono hm
  refine .sl sz (fun i j=>vs[i * sz+j]?.getD undef) rfl q2 q3 (.inr rfl) (fun i r hi=>hsz r (List.mem_of_getElem? hi)) (fun i j r x hi hj=>?_) (fun i j r x hi hj=>?_)
  ·obtain ⟨u,hu,_⟩:=hget i j r x hi hj
   rw [He]
   show (if b=b∧(none:Option Nat)=none then vs[0+(i * sz+j)]? else _)=_
   rw [if_pos ⟨rfl,rfl⟩,Nat.zero_add,hu]
   rfl
  ·obtain ⟨u,hu,hr'⟩:=hget i j r x hi hj
   rw [hu]
   exact hr'
 obtain ⟨l1,l2⟩:=hv.spec
 unfold Oper.wp
 rw [h1 w]
 refine (U14 (G:=G) hnm hc hg1 hgl1 (l1.trans h2) fun i y v hyi hvi=>?_).mono fun e' w' he=>?_
 ·obtain ⟨z,hz⟩:∃ z,xs[i]?=some z:=⟨_,List.getElem?_eq_getElem (by rw [← l1]; exact (List.getElem?_eq_some_iff.1 hyi).1)⟩
  exact (l2 i y z hyi hz).rel hm hy (h3 i z v hz hvi)
 ·obtain ⟨v,r,M',rfl,rfl,k1,k2,k3⟩:=he
  obtain ⟨e1,e2,e3,e4,e5,e6,e7⟩:=k3
  let M2:Mem:=fun ad=>if ad.block=b then none else M' ad
  refine hk v M2 w' (L1y hx (k1 G)) (fun ad u hu=>?_) ⟨fun ad u hu=>?_,e2,e3,e4,e5,e6,fun ad u hu=>?_⟩
  ·have hu:(if ad.block=b then none else M' ad)=some u:=hu
   split at hu
   ·cases hu
   ·exact k2 ad u hu
  ·show (if ad.block=b then none else M' ad)=some u
   rw [if_neg]
   ·exact e1 ad u (hm ad u hu)
   ·intro hb
    obtain ⟨bb,oo,ss⟩:=ad
    simp only at hb
    subst hb
    rw [g6] at hu; cases hu
  ·have hu:(if ad.block=b then none else M' ad)=some u:=hu
   split at hu
   ·cases hu
   ·rename_i hb
    rcases e7 ad u hu with h | h | h
    ·refine .inl ?_
     have h:(if ad.block=b∧ad.spot=none then vs[ad.off]? else M ad)=some u:=h
     rwa [if_neg (fun hh=>hb hh.1)] at h
    ·exact .inr (.inl h)
    ·exact .inr (.inr h)
theorem E0.cv {F:Fx}{L l:List Oper}{o:Oper}{env:Env}{H:Q0}{Q:Env→Q0→Prop}{d:Option Nat}{f:FuncId}{xs ys:List A}{x:A}(p:Nat){n sz:Nat}{rows:List Row}{cs:List A}{e:TypeId}(h:Vf F.C L o env=some (d,f,xs))(hp:nth H p=some (.row cs e))
  (hcs:cs=rows.flatten.map .d) (hsz:∀ r∈rows,r.length=sz) (hn:rows.length=n) (hv:VwL p n (.sl rows) ys xs) (hc:K0 F.C f ys [] (Ret [] x)) (hnm:B2 0 ys=true) (hx:P1i x=true) (k:E0 F L l (put env d x) H Q):E0 F L (o::l) env H Q:=by
 obtain ⟨h1,h2,rfl⟩:=Zd h
 exact .yields h1 (S1e h2 hp hcs hsz hn hv hnm hc hx) k
theorem AQ.cv {C:Cx}{L l:List Oper}{o:Oper}{env:Env}{H:Q0}{Q:Env→Prop}{d:Option Nat}{f:FuncId}{xs ys:List A}{x:A}(p:Nat){n sz:Nat}{rows:List Row}{cs:List A}{e:TypeId}(h:Vf C L o env=some (d,f,xs))(hp:nth H p=some (.row cs e))
  (hcs:cs=rows.flatten.map .d) (hsz:∀ r∈rows,r.length=sz) (hn:rows.length=n) (hv:VwL p n (.sl rows) ys xs) (hc:K0 C f ys [] (Ret [] x)) (hnm:B2 0 ys=true) (hx:P1i x=true) (k:AQ C L l (put env d x) H Q):AQ C L (o::l) env H Q:=by
 obtain ⟨h1,h2,rfl⟩:=Zd h
 exact ⟨_,x,rfl,.inl ⟨h1,S1e h2 hp hcs hsz hn hv hnm hc hx⟩,k⟩
theorem AQ.ld {C:Cx}(hC:O1 C){L l:List Oper}{o:Oper}{env:Env}{H:Q0}{Q:Env→Prop}{d:Option Nat}{cells:List A}{off:Nat}{y:A}(h:I1i C L o env H=some (d,cells,off))(hy:cells[off]?=some y)
  (k:AQ C L l (put env d y) H Q):AQ C L (o::l) env H Q:=by
 unfold I1i at h
 split at h
 ·rename_i t x d' hw ho hd
  split at h
  ·rename_i i p off' ht hx
   cases hag:i.u.agg with
   | true=>rw [hag] at h; cases h
   | false=>
    rw [hag] at h
    simp only [cond_false] at h
    split at h
    ·rename_i cs e hn
     simp only [Option.some.injEq,Prod.mk.injEq] at h
     obtain ⟨rfl,rfl,rfl⟩:=h
     have this:Nb i (ev C.GL env x) H=some y:=by
      rw [hx]
      simp only [Nb,hn,Do,hag,cond_false,C2,List.getElem?_drop,Nat.add_zero]
      exact hy
     exact ⟨_,y,E3 hd,.inl ⟨hw,Cn hC (c:=True) (by simp [opA,ho,ht,this]) trivial⟩,k⟩
    ·cases h
  ·cases h
 ·cases h
end Go.Am

