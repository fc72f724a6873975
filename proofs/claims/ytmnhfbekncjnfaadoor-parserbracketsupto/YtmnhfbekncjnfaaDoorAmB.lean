/- A part of the proof of ParserBrackets. -/
import Derived.Test.YtmnhfbekncjnfaaDoorAmA
import GoSem.Instr.Lookup
import GoSem.Instr.MapUpdate
import GoSem.Instr.MakeMap
import Derived.Below
import Derived.Laws.StructEq
import Derived.Laws.MakeOwn
import Derived.ChangeSame
import Derived.OpenShut
import Derived.ProofKit
import Derived.Laws.BytesArg
import Derived.Lib.LaidTab
namespace Go.Am
theorem St.turnTok {C:Cx}{N:FN}{M M':Mem}{G:Nat→Value}{w w':World}{env:Env}{H:I0}{a:Act}(h:St C N M G w env H a){dst:Option Nat}(hd:∀ d,dst=some d→d < N){p e sz e' sz':Nat}{v':Value}{x:A}
  (hp:H[p]?=some (.tok e sz)) (hext:Ext (fun b=>blk (.tok e sz) (G p)=some b) M w M' w') (hg:Good M' w') (hob:Ja M' G w' (.tok e sz) v') (hblk:∀ b,blk (.tok e sz) v'=some b→blk (.tok e sz) (G p)=some b∨w.heap.size≤b)
  (hx:N0 M' (C6 G p v') x v') (_he:e'=e) (_hs:sz'=sz) :
  St C N M' (C6 G p v') w' (put (fun t=>dg [p] (env t)) dst x) (H.map (dgO [p])) (a.put dst v'):=by
 have hps:∀ q∈[p],∃ a l c,G q = .slice a l c:=fun q hq=>by
  simp at hq; subst hq
  rcases h.hrel.obj q _ hp with e | ⟨ad,n,cap,e,_⟩
  ·exact ⟨_,_,_,e⟩
  ·exact ⟨_,_,_,e⟩
 have hgg:∀ o,o ∉ [p]→G o≠.tuple #[]→C6 G p v' o=G o:=fun o ho _=>I2 (by simpa using ho)
 have hplt:p < H.length:=(List.getElem?_eq_some_iff.1 hp).1
 have getH:∀ (o:Nat) z,(H.map (dgO [p]))[o]?=some z→∃ y,H[o]?=some y∧z=dgO [p] y:=fun o z hz=>by
  rw [List.getElem?_map] at hz
  cases hy:H[o]? with
  | none=>rw [hy] at hz; cases hz
  | some y=>rw [hy] at hz; exact ⟨y,rfl,by simpa using hz.symm⟩
 obtain ⟨p1,p2,p3⟩:=Be (env:=fun t=>dg [p] (env t)) (dst:=dst) (x:=x) (a:=a) (v:=v') (N:=N) (M:=M') (G:=C6 G p v') (fun t=>Rx ((h.env t).mono' hext.mono) hps hgg) h.size hd hx
 refine ⟨hg,h.gl.ext h.hrel hext (fun b hb=>⟨p,_,hp,hb⟩),⟨fun o z hz=>?_,fun o o' z z' b hz hz' hb hb'=>?_,fun o ho=>?_⟩,p1,p2,p3.trans h.defers⟩
 ·obtain ⟨y,hy,rfl⟩:=getH o z hz
  by_cases hop:o=p
  ·subst hop
   rw [hp] at hy
   obtain rfl:=Option.some.inj hy
   rw [U2]
   exact hob
  ·rw [I2 hop]
   have hoy:=h.hrel.obj o y hy
   refine T10 (hoy.keep hext.mono (fun b hb=>hext.block b (A9 hoy hb) fun hb'=>hop (h.hrel.apart o p y _ b hy hp hb hb')) fun b hb off sp hn=>?_) hps hgg
   cases hM:M' ⟨b,off,sp⟩ with
   | none=>rfl
   | some u=>
    rcases hext.fresh _ u hM with q | q | q
    ·rw [hn] at q; cases q
    ·exact absurd (h.hrel.apart o p y _ b hy hp hb q) hop
    ·have:=A9 hoy hb; simp only at q; omega
 ·have key:∀ (o:Nat) z b,(H.map (dgO [p]))[o]?=some z→blk z (C6 G p v' o)=some b→∃ y,H[o]?=some y∧(blk y (G o)=some b∨o=p∧w.heap.size≤b):=by
   intro o z b hz hb
   obtain ⟨y,hy,rfl⟩:=getH o z hz
   replace hb:=Bh hb
   refine ⟨y,hy,?_⟩
   by_cases hop:o=p
   ·subst hop
    rw [hp] at hy
    obtain rfl:=Option.some.inj hy
    rw [U2] at hb
    rcases hblk b hb with q | q
    ·exact .inl q
    ·exact .inr ⟨rfl,q⟩
   ·rw [I2 hop] at hb
    exact .inl hb
  obtain ⟨y,hy,hyb⟩:=key o z b hz hb
  obtain ⟨y',hy',hyb'⟩:=key o' z' b hz' hb'
  rcases hyb with q | ⟨q1,q2⟩ <;> rcases hyb' with r | ⟨r1,r2⟩
  ·exact h.hrel.apart o o' y y' b hy hy' q r
  ·have:=A9 (h.hrel.obj o y hy) q; omega
  ·have:=A9 (h.hrel.obj o' y' hy') r; omega
  ·rw [q1,r1]
 ·simp only [List.length_map] at ho
  rw [I2 (by omega)]
  exact h.hrel.fresh o ho
theorem O1.turnTok {fr:Fr}{M M':Mem}{G:Nat→Value}{w w':World}{H:I0}(h:O1 fr M G w H){p e sz:Nat}{v':Value}
  (hp:H[p]?=some (.tok e sz)) (hext:Ext (fun b=>blk (.tok e sz) (G p)=some b) M w M' w') (hblk:∀ b,blk (.tok e sz) v'=some b→blk (.tok e sz) (G p)=some b∨w.heap.size≤b) :
  O1 fr M' (C6 G p v') w' (H.map (dgO [p])):=by
 have getH:∀ (o:Nat) z,(H.map (dgO [p]))[o]?=some z→∃ y,H[o]?=some y∧z=dgO [p] y:=fun o z hz=>by
  rw [List.getElem?_map] at hz
  cases hy:H[o]? with
  | none=>rw [hy] at hz; cases hz
  | some y=>rw [hy] at hz; exact ⟨y,rfl,by simpa using hz.symm⟩
 have hplt:p < H.length:=(List.getElem?_eq_some_iff.1 hp).1
 refine ⟨h.ext.trans hext fun b hb=>h.own b ⟨p,_,hp,hb⟩,fun b ⟨o,z,hz,hb⟩=>?_,by simpa using h.len,fun o x ho ht=>?_,fun o x y ho ht hy=>?_⟩
 ·obtain ⟨y,hy,rfl⟩:=getH o z hz
  replace hb:=Bh hb
  by_cases hop:o=p
  ·subst hop
   rw [hp] at hy
   obtain rfl:=Option.some.inj hy
   rw [U2] at hb
   rcases hblk b hb with q | q
   ·exact h.own b ⟨o,_,hp,q⟩
   ·exact .inr (Nat.le_trans h.ext.size q)
  ·rw [I2 hop] at hb
   exact h.own b ⟨o,y,hy,hb⟩
 ·have hne:o≠p:=fun e'=>by
   subst e'
   have:=h.kind o x _ ho ht hp
   simp [isTok] at this
  rw [I2 hne]
  exact h.keep o x ho ht
 ·obtain ⟨z,hz,rfl⟩:=getH o y hy
  rw [Fv]
  exact h.kind o x z ho ht hz
theorem St.newTok {C:Cx}{N:FN}{M M':Mem}{G:Nat→Value}{w w':World}{env:Env}{H:I0}{a:Act}(h:St C N M G w env H a){dst:Option Nat}(hd:∀ d,dst=some d→d < N){e sz:Nat}{v':Value}{x:A}
  (hext:Ext I4 M w M' w') (hg:Good M' w') (hob:Ja M' G w' (.tok e sz) v') (hblk:∀ b,blk (.tok e sz) v'=some b→w.heap.size≤b)
  (hx:N0 M' (C6 G H.length v') x v') :
  St C N M' (C6 G H.length v') w' (put env dst x) (H++[.tok e sz]) (a.put dst v'):=by
 have hh:=h.hrel.ext hext (fun _ _ q=>q)
 have hmono:∀ {x:A} {v:Value},N0 M' G x v→N0 M' (C6 G H.length v') x v:=fun hr=>hr.mono (fun _ _ e=>e) fun o hn=>I2 (Nat.ne_of_lt (hh.lt hr hn))
 obtain ⟨h1,h2,h3⟩:=Be (fun t=>hmono ((h.env t).mono' hext.mono)) h.size hd hx
 refine ⟨hg,h.gl.ext h.hrel hext (fun _ h=>h.elim),⟨fun o x ho=>?_,fun o o' x x' b ho ho' hb hb'=>?_,fun o ho=>?_⟩,h1,h2,h3.trans h.defers⟩
 ·rcases Nat.lt_trichotomy o H.length with hlt | rfl | hgt
  ·rw [List.getElem?_append_left hlt] at ho
   rw [I2 (Nat.ne_of_lt hlt)]
   have hob:=hh.obj o x ho
   cases x with
   | dead=>trivial
   | row cells e=>
    obtain ⟨b,us,g1,g2,g3,g4,g5,g6⟩:=hob
    exact ⟨b,us,g1,g2,g3,g4,fun i y v a c=>hmono (g5 i y v a c),g6⟩
   | bld o' e=>
    obtain ⟨b,v0,g1,g2,g3,g4,g5⟩:=hob
    have ho':o'≠H.length:=fun e=>g4 (by rw [e]; exact hh.fresh _ (Nat.le_refl _))
    exact ⟨b,v0,g1,by rw [I2 ho']; exact g2,g3,by rw [I2 ho']; exact g4,g5⟩
   | buf e sz=>exact hob
   | tok e sz=>exact hob
   | map es=>
    obtain ⟨b,ms,cl,g1,g2,g3,g4,g5⟩:=hob
    exact ⟨b,ms,cl,g1,g2,g3,fun i k cs e a c=>⟨(g4 i k cs e a c).1,hmono (g4 i k cs e a c).2⟩,g5⟩
  ·simp at ho
   subst ho
   rw [U2]
   exact hob
  ·rw [List.getElem?_eq_none (by simp; omega)] at ho
   cases ho
 ·have key:∀ (o:Nat) x b,(H++[Ob.tok e sz])[o]?=some x→blk x (C6 G H.length v' o)=some b→(o < H.length∧H[o]?=some x∧blk x (G o)=some b∧b < w.heap.size)∨(o=H.length∧w.heap.size≤b):=by
   intro o x b ho hb
   rcases Nat.lt_trichotomy o H.length with hlt | rfl | hgt
   ·rw [List.getElem?_append_left hlt] at ho
    rw [I2 (Nat.ne_of_lt hlt)] at hb
    exact .inl ⟨hlt,ho,hb,A9 (h.hrel.obj o x ho) hb⟩
   ·simp at ho
    subst ho
    rw [U2] at hb
    exact .inr ⟨rfl,hblk b hb⟩
   ·rw [List.getElem?_eq_none (by simp; omega)] at ho
    cases ho
  rcases key o x b ho hb with ⟨q1,q2,q3,q4⟩ | ⟨q1,q2⟩ <;> rcases key o' x' b ho' hb' with ⟨p1,p2,p3,p4⟩ | ⟨p1,p2⟩
  ·exact h.hrel.apart o o' x x' b q2 p2 q3 p3
  ·omega
  ·omega
  ·omega
 ·simp at ho
  rw [I2 (by omega)]
  exact h.hrel.fresh o (by omega)
theorem O1.newTok {fr:Fr}{M M':Mem}{G:Nat→Value}{w w':World}{H:I0}(h:O1 fr M G w H){e sz:Nat}{v':Value}(hext:Ext I4 M w M' w')(hblk:∀ b,blk (.tok e sz) v'=some b→w.heap.size≤b) :
  O1 fr M' (C6 G H.length v') w' (H++[.tok e sz]):=by
 refine ⟨h.ext.trans hext (fun _ h=>h.elim),fun b hb=>?_,by simp; have:=h.len; omega,fun o x ho ht=>?_,fun o x y ho ht hy=>?_⟩
 ·obtain ⟨o,x,ho,hx⟩:=hb
  rcases Nat.lt_trichotomy o H.length with hlt | rfl | hgt
  ·rw [List.getElem?_append_left hlt] at ho
   rw [I2 (Nat.ne_of_lt hlt)] at hx
   exact h.own b ⟨o,x,ho,hx⟩
  ·simp at ho
   subst ho
   rw [U2] at hx
   exact .inr (Nat.le_trans h.ext.size (hblk b hx))
  ·rw [List.getElem?_eq_none (by simp; omega)] at ho
   cases ho
 ·have hlt:o < H.length:=Nat.lt_of_lt_of_le (List.getElem?_eq_some_iff.1 ho).1 h.len
  rw [I2 (Nat.ne_of_lt hlt)]
  exact h.keep o x ho ht
 ·have hlt:o < H.length:=Nat.lt_of_lt_of_le (List.getElem?_eq_some_iff.1 ho).1 h.len
  rw [List.getElem?_append_left hlt] at hy
  exact h.kind o x y ho ht hy
def dgC (ps:List Nat):List A→Option (List A)
 | []=>some []
 | x::r=>match frc (dg ps x),dgC ps r with | some y,some r'=>some (y::r') | _,_=>none
theorem Q13 {ps:List Nat}:∀ {l l':List A},dgC ps l=some l'→l'=dgL ps l
 | [],l',h=>by simp [dgC] at h; subst h; rfl
 | x::r,l',h=>by
  simp only [dgC] at h
  split at h
  ·rename_i y r' hy hr
   simp only [Option.some.injEq] at h
   subst h
   rw [Xe hy,Q13 hr]
   rfl
  ·cases h
def dgH (ps:List Nat):I0→Option I0
 | []=>some []
 | .row cs e::r=>match dgC ps cs,dgH ps r with | some cs',some r'=>some (.row cs' e::r') | _,_=>none
 | .dead::r=>match dgH ps r with | some r'=>some (.dead::r') | none=>none
 | .bld o e::r=>match dgH ps r with | some r'=>some ((bif ps.contains o then .dead else .bld o e)::r') | none=>none
 | .buf e sz::r=>match dgH ps r with | some r'=>some (.buf e sz::r') | none=>none
 | .tok e sz::r=>match dgH ps r with | some r'=>some (.tok e sz::r') | none=>none
 | .map es::r=>match dgH ps r with | some r'=>some (.map es::r') | none=>none
theorem Tj {ps:List Nat}:∀ {H H':I0},dgH ps H=some H'→H'=H.map (dgO ps)
 | [],H',h=>by simp [dgH] at h; subst h; rfl
 | .row cs e::r,H',h=>by
  simp only [dgH] at h
  split at h
  ·rename_i cs' r' hc hr
   simp only [Option.some.injEq] at h
   subst h
   rw [Q13 hc,Tj hr]
   rfl
  ·cases h
 | .dead::r,H',h=>by
  simp only [dgH] at h
  split at h
  ·rename_i r' hr
   simp only [Option.some.injEq] at h
   subst h
   rw [Tj hr]; rfl
  ·cases h
 | .bld o e::r,H',h=>by
  simp only [dgH] at h
  split at h
  ·rename_i r' hr
   simp only [Option.some.injEq] at h
   subst h
   rw [Tj hr]; rfl
  ·cases h
 | .buf e sz::r,H',h=>by
  simp only [dgH] at h
  split at h
  ·rename_i r' hr
   simp only [Option.some.injEq] at h
   subst h
   rw [Tj hr]; rfl
  ·cases h
 | .tok e sz::r,H',h=>by
  simp only [dgH] at h
  split at h
  ·rename_i r' hr
   simp only [Option.some.injEq] at h
   subst h
   rw [Tj hr]; rfl
  ·cases h
 | .map es::r,H',h=>by
  simp only [dgH] at h
  split at h
  ·rename_i r' hr
   simp only [Option.some.injEq] at h
   subst h
   rw [Tj hr]; rfl
  ·cases h
structure Ap where
 d:Option Nat
 p:Nat
 new:Bool
 rows:List Row
 news:List Row
 sz:Nat
 bytes:Nat
 H:I0
def A12 (C:Cx)(L:List Oper)(o:Oper)(env:Env)(H:I0):Option Ap:=
 match D1 L env o,o.op,G5 o with
 | some true,.call { callee:=.builtin .append,args,argTypes },some d=>
  match args.toList,argTypes.toList with
  | [x,y],[t,t']=>bif Nat.beq t t' then
   (match Y1 C.T t,We (ev C.GL env y) with
   | some it,some news=>match it.u with
    | .sl e=>match Y1 C.T e with
     | some ie=>match ev C.GL env x with
      | .osl p rows=>match nth H p with
       | some (.tok e' sz')=>bif Nat.beq e e'&&Nat.beq ie.size sz' then (match dgH [p] H with | some H'=>some ⟨d,p,false,rows,news,ie.size,ie.bytes,H'⟩ | none=>none) else none
       | _=>none
      | .full rows=>match Eg H (.tok e ie.size) with
       | some (n,H')=>some ⟨d,n,true,rows,news,ie.size,ie.bytes,H'⟩
       | none=>none
      | _=>none
     | none=>none
    | _=>none
   | _,_=>none) else none
  | _,_=>none
 | _,_,_=>none
theorem Mi {P:Program}{ρ:Operand→Value}{o:Oper}{x y:Operand}{t t':TypeId}{args:Array Operand}{ts:Array TypeId}(ho:o.op = .call { callee:=.builtin .append,args:=args,argTypes:=ts })(ha:args.toList=[x,y])(ht:ts.toList=[t,t']){w w':World}{v:Value}
  (h:(Builtin.append_ #[t,t'] o.type #[ρ x,ρ y]).run P w = .ok v w'):(execOp ρ o).run P w = .ok (.value v) w':=by
 obtain rfl:args = #[x,y]:=by rw [← Array.toArray_toList (xs:=args),ha]
 obtain rfl:ts = #[t,t']:=by rw [← Array.toArray_toList (xs:=ts),ht]
 unfold execOp
 simp [ho,resolve,invoke,builtin,h]
theorem Ll {M:Mem}{G:Nat→Value}{w:World}{rows:List Row}{v:Value}(h:B2 M (.sl rows) v)(hf:Xr v)(e sz:Nat):Ja M G w (.tok e sz) v∧∀ b,blk (.tok e sz) v≠some b:=by
 cases h with
 | slnil=>exact ⟨.inl rfl,fun b hb=>by simp [blk] at hb⟩
 | sl sz' E1 hl hc hm hs hz h1 h2=>
  rename_i a len cap
  have hf':len=cap:=hf
  subst hf'
  exact ⟨.inr ⟨a,len,len,rfl,hs,Nat.le_refl _,hm,fun hlt=>absurd hlt (Nat.lt_irrefl _)⟩,fun b hb=>by simp [blk] at hb⟩
theorem F0.a {F:Fx}(hC:L1 F.C){L l:List Oper}{o:Oper}{env:Env}{H:I0}{Q:Env→I0→Prop}{d:Option Nat}{p:Nat}{nw:Bool}{rows news:List Row}{sz bytes:Nat}{H':I0}
  (h:A12 F.C L o env H=some ⟨d,p,nw,rows,news,sz,bytes,H'⟩) (h1:∀ r∈rows,r.length=sz) (h2:∀ r∈news,r.length=sz) (h3:(rows.length+news.length) * (bytes+1)≤140737488355328)
  (k:F0 F L l (put (bif nw then env else fun t=>dg [p] (env t)) d (.osl p (rows++news))) H' Q):F0 F L (o::l) env H Q:=by
 unfold A12 at h
 split at h
 ·rename_i args ts dd hw ho hd
  split at h
  ·rename_i x y t t' ha ht
   cases hb:Nat.beq t t' with
   | false=>rw [hb] at h; cases h
   | true=>
    rw [hb] at h
    obtain rfl:=Nat.eq_of_beq_eq_true hb
    simp only [cond_true] at h
    split at h
    ·rename_i it news' hit hnews
     split at h
     ·rename_i e hu
      split at h
      ·rename_i ie hie
       have hmem:x∈o.op.operands∧y∈o.op.operands:=by
        rw [ho]
        obtain rfl:args = #[x,y]:=by rw [← Array.toArray_toList (xs:=args),ha]
        simp [Op.operands,Call.operands]
       have hlen:(rows.length+news.length) * bytes≤140737488355328∧rows.length+news.length≤maxLen:=by
        have:(rows.length+news.length) * (bytes+1)=(rows.length+news.length) * bytes+(rows.length+news.length):=Nat.mul_succ _ _
        unfold maxLen
        omega
       split at h
       ·rename_i q rows' hx
        split at h
        ·rename_i e' sz' hq
         cases hbb:Nat.beq e e'&&Nat.beq ie.size sz' with
         | false=>rw [hbb] at h; cases h
         | true=>
          rw [hbb] at h
          simp only [Bool.and_eq_true] at hbb
          obtain rfl:=Nat.eq_of_beq_eq_true hbb.1
          obtain rfl:=Nat.eq_of_beq_eq_true hbb.2
          simp only [cond_true] at h
          split at h
          ·rename_i H2 hH
           simp only [Option.some.injEq,Ap.mk.injEq] at h
           obtain ⟨rfl,rfl,rfl,rfl,rfl,rfl,rfl,rfl⟩:=h
           refine L8 hw fun fr M G w a K Qw hK hdok hs hsi hk=>?_
           have hxr:=hs.eval x
           rw [hx] at hxr
           generalize hxv:a.eval x=xv at hxr
           cases hxr
           rename_i hgq hrd
           rw [O2] at hq
           have htok:Tok M w e ie.size xv:=by have:=hs.hrel.obj _ _ hq; rw [hgq] at this; exact this
           obtain ⟨v',w',M',r1,r2,r3,r4,r5,r6⟩:=Nq (ty:=o.type) hC.tok hs.good hit hu hie hrd (J9 hnews (hs.eval y)) htok h1 h2 hlen.1 hlen.2
           unfold Oper.wp
           rw [Mi ho ha ht (by rw [hxv]; exact r1)]
           have e1:=Tj hH
           subst e1
           rw [← hgq] at r5 r6
           refine hk (.osl q (rows'++news')) (fun t=>dg [q] (env t)) _ M' (C6 G q v') w' v' ?_ (hs.turnTok (A3 hdok) hq r5 r4 r3 r6 (.osl r2 U2) rfl rfl) (hsi.turnTok hq r5 r6)
           rw [J3 hd]
           exact k
          ·cases h
        ·cases h
       ·rename_i rows' hx
        split at h
        ·rename_i n H2 hH
         simp only [Option.some.injEq,Ap.mk.injEq] at h
         obtain ⟨rfl,rfl,rfl,rfl,rfl,rfl,rfl,rfl⟩:=h
         obtain ⟨rfl,rfl⟩:=Id hH
         refine L8 hw fun fr M G w a K Qw hK hdok hs hsi hk=>?_
         have hxr:=hs.eval x
         rw [hx] at hxr
         generalize hxv:a.eval x=xv at hxr
         cases hxr
         rename_i hfull hrd
         obtain ⟨t1,t2⟩:=Ll (G:=fun _=>.tuple #[]) (w:=w) hrd hfull e ie.size
         obtain ⟨v',w',M',r1,r2,r3,r4,r5,r6⟩:=Nq (ty:=o.type) hC.tok hs.good hit hu hie hrd (J9 hnews (hs.eval y)) t1 h1 h2 hlen.1 hlen.2
         unfold Oper.wp
         rw [Mi ho ha ht (by rw [hxv]; exact r1)]
         have r5':Ext I4 M w M' w':=r5.weaken fun b hb=>absurd hb (t2 b)
         have r6':∀ b,blk (.tok e ie.size) v'=some b→w.heap.size≤b:=fun b hb=>(r6 b hb).resolve_left (t2 b)
         refine hk (.osl H.length (rows'++news')) env _ M' (C6 G H.length v') w' v' ?_ (hs.newTok (A3 hdok) r5' r4 r3 r6' (.osl r2 U2)) (hsi.newTok r5' r6')
         rw [J3 hd]
         exact k
        ·cases h
       ·cases h
      ·cases h
     ·cases h
    ·cases h
  ·cases h
 ·cases h
theorem AEx.tokE {F:Fx}{c:Code}{env:Env}{H:I0}{Q:Po}(t e sz:Nat){rows:List Row}(h:env t = .full rows)(k:AEx F c (upd env t (.osl H.length rows)) (H++[.tok e sz]) Q):AEx F c env H Q:=by
 intro fr M G w a hK hs hsi
 have hr:=hs.env t
 rw [h] at hr
 generalize hv:a.tmps.getD t undef=v at hr
 cases hr
 rename_i hf hrd
 obtain ⟨t1,t2⟩:=Ll (G:=G) (w:=w) hrd hf e sz
 have hsi':=hsi.newTok (Ext.refl I4 M w) (e:=e) (sz:=sz) (v':=v) fun b hb=>absurd hb (t2 b)
 have hs':=hs.newTok (dst:=none) (by simp) (Ext.refl I4 M w) hs.good (e:=e) (sz:=sz) (v':=v) (x:=.osl H.length rows) t1 (fun b hb=>absurd hb (t2 b)) (.osl hrd U2)
 refine k fr M _ w a hK ⟨hs'.good,hs'.gl,hs'.hrel,fun s=>?_,hs.size,hs.defers⟩ hsi'
 unfold upd
 cases hb:Nat.beq s t with
 | true=>
  obtain rfl:=Nat.eq_of_beq_eq_true hb
  rw [hv]
  exact .osl hrd U2
 | false=>exact hs'.env s
end Go.Am

namespace Go.Am
theorem R17 {M:Mem}{w:World}(hG:Good M w)(cs:Array Value)(e:TypeId) :
  ∃ M':Mem,Good M' (w.alloc (.cells cs e))∧Ext I4 M w M' (w.alloc (.cells cs e))∧∀ (j:Nat) v,cs[j]?=some v→M' ⟨w.heap.size,j,none⟩=some v:=by
 refine ⟨fun ad=>if ad.block=w.heap.size∧ad.spot=none then cs[ad.off]? else M ad,fun ad v hv=>?_,⟨fun ad v hv=>?_,by simp,rfl,rfl,rfl,fun b hb _=>heap_alloc_old w _ b hb,fun ad v hv=>?_⟩,fun j v hv=>?_⟩
 ·simp only at hv
  split at hv
  ·rename_i hc
   obtain ⟨b,o,s⟩:=ad
   simp only at hc hv
   obtain ⟨rfl,rfl⟩:=hc
   exact .inl ⟨rfl,by rw [Ef (w:=w.alloc (.cells cs e)) (heap_alloc_new w _)]; exact hv⟩
  ·exact Cu (heap_alloc_old w _ _ (hG.lt hv)) (hG ad v hv)
 ·have:=hG.lt hv
  show (if ad.block=w.heap.size∧ad.spot=none then cs[ad.off]? else M ad)=some v
  rw [if_neg (by omega)]
  exact hv
 ·have hv:(if ad.block=w.heap.size∧ad.spot=none then cs[ad.off]? else M ad)=some v:=hv
  split at hv
  ·rename_i hc; exact .inr (.inr (by omega))
  ·exact .inl hv
 ·show (if w.heap.size=w.heap.size∧(none:Option Nat)=none then cs[j]? else M _)=some v
  rw [if_pos ⟨rfl,rfl⟩]
  exact hv
def toD:A→Option D
 | .d x=>some x
 | .full r=>some (.sl r)
 | .osl _ r=>some (.sl r)
 | _=>none
theorem Fu {M:Mem}{G:Nat→Value}{x:A}{y:D}{v:Value}(h:toD x=some y)(hx:N0 M G x v):B2 M y v:=by
 unfold toD at h
 split at h
 ·simp only [Option.some.injEq] at h; subst h; cases hx; assumption
 ·simp only [Option.some.injEq] at h; subst h; cases hx; assumption
 ·simp only [Option.some.injEq] at h; subst h; cases hx; assumption
 ·cases h
def Gu:List A→Option (List D)
 | []=>some []
 | x::r=>match toD x,Gu r with | some y,some r'=>some (y::r') | _,_=>none
theorem Cr:∀ {l:List A} {l':List D},Gu l=some l'→l'.length=l.length∧∀ (i:Nat) y,l'[i]?=some y→∃ x,l[i]?=some x∧toD x=some y
 | [],l',h=>by simp [Gu] at h; subst h; exact ⟨rfl,fun i y h=>by simp at h⟩
 | x::r,l',h=>by
  simp only [Gu] at h
  split at h
  ·rename_i y r' hy hr
   simp only [Option.some.injEq] at h
   subst h
   obtain ⟨h1,h2⟩:=Cr hr
   refine ⟨by simp [h1],fun i z hz=>?_⟩
   cases i with
   | zero=>simp at hz; subst hz; exact ⟨x,rfl,hy⟩
   | succ i=>simpa using h2 i z (by simpa using hz)
  ·cases h
def Cm (sz:Nat):Nat→List A→Option (List Row)
 | 0,_=>some []
 | n+1,l=>match Gu (l.take sz),Cm sz n (l.drop sz) with | some r,some rs=>bif Nat.beq r.length sz then some (r::rs) else none | _,_=>none
theorem Ms {sz:Nat}:∀ {n:Nat} {l:List A} {rs:List Row},Cm sz n l=some rs→rs.length=n∧(∀ (i:Nat) r,rs[i]?=some r→r.length=sz)∧∀ (i j:Nat) r y,rs[i]?=some r→r[j]?=some y→∃ x,l[i * sz+j]?=some x∧toD x=some y
 | 0,l,rs,h=>by simp [Cm] at h; subst h; exact ⟨rfl,fun i r h=>by simp at h,fun i j r y h=>by simp at h⟩
 | n+1,l,rs,h=>by
  simp only [Cm] at h
  split at h
  ·rename_i r rs' hr hrs
   cases hb:Nat.beq r.length sz with
   | false=>rw [hb] at h; cases h
   | true=>
    rw [hb] at h
    simp only [cond_true,Option.some.injEq] at h
    subst h
    have e:=Nat.eq_of_beq_eq_true hb
    obtain ⟨h1,h2,h3⟩:=Ms hrs
    obtain ⟨g1,g2⟩:=Cr hr
    refine ⟨by simp [h1],fun i r' hi=>?_,fun i j r' y hi hj=>?_⟩
    ·cases i with
     | zero=>simp at hi; subst hi; exact e
     | succ i=>exact h2 i r' (by simpa using hi)
    ·cases i with
     | zero=>
      simp at hi
      subst hi
      obtain ⟨x,hx,hy⟩:=g2 j y hj
      rw [List.getElem?_take] at hx
      split at hx
      ·exact ⟨x,by simpa using hx,hy⟩
      ·cases hx
     | succ i=>
      obtain ⟨x,hx,hy⟩:=h3 i j r' y (by simpa using hi) hj
      rw [List.getElem?_drop] at hx
      exact ⟨x,by rw [← hx]; congr 1; rw [Nat.add_mul]; omega,hy⟩
  ·cases h
theorem M15 {M:Mem}{G:Nat→Value}{w:World}(hG:Good M w){e sz n:Nat}{l:List A}{cs:Array Value}{rs:List Row}(hc:V9 M G l cs)(h:Cm sz n l=some rs)(hn:n≤maxLen) :
  ∃ M',B2 M' (.sl rs) (.slice (some ⟨w.heap.size,0,none⟩) n n)∧Good M' (w.alloc (.cells cs e))∧Ext I4 M w M' (w.alloc (.cells cs e)):=by
 obtain ⟨M',h1,h2,h3⟩:=R17 hG cs e
 obtain ⟨g1,g2,g3⟩:=Ms h
 have hget:∀ (i j:Nat) r y,rs[i]?=some r→r[j]?=some y→∃ v,cs[i * sz+j]?=some v∧B2 M y v:=fun i j r y hi hj=>by
  obtain ⟨x,hx,hy⟩:=g3 i j r y hi hj
  have hlt:i * sz+j < cs.size:=by rw [← hc.1]; exact (List.getElem?_eq_some_iff.1 hx).1
  exact ⟨cs[i * sz+j],Array.getElem?_eq_getElem hlt,Fu hy (hc.2.2 _ x _ hx (Array.getElem?_eq_getElem hlt))⟩
 refine ⟨M',.sl sz (fun i j=>(cs[i * sz+j]?).getD undef) g1 (Nat.le_refl _) hn (.inr rfl) g2 (fun i j r y hi hj=>?_) fun i j r y hi hj=>?_,h1,h2⟩
 ·obtain ⟨v,hv,_⟩:=hget i j r y hi hj
  rw [K8,hv,Nat.zero_add]
  exact h3 _ v hv
 ·obtain ⟨v,hv,hr⟩:=hget i j r y hi hj
  rw [hv]
  exact hr.mono h2.mono
def Rh (C:Cx)(L:List Oper)(o:Oper)(env:Env):Option (Option Nat×List Row):=
 match D1 L env o,o.op,G5 o with
 | some true,.buildSlice t len parts,some d=>match Y1 C.T t with
  | some i=>match i.u with
   | .sl e=>match Y1 C.T e with
    | some j=>bif Nat.ble len 65536&&Nat.ble j.size 64 then (match Mh (fun i=>some (i * j.size,j.size)) (List.replicate (len * j.size) .junk) (parts.toList.map fun p=>(p.1,ev C.GL env p.2)) with
     | some out=>match Cm j.size len out with | some rs=>some (d,rs) | none=>none
     | none=>none) else none
    | none=>none
   | _=>none
  | none=>none
 | _,_,_=>none
theorem R13 {P:Program}{T:TT}(hT:TOk P T){e:Nat}{j:TI}(he:Y1 T e=some j)(len:Nat)(w:World) :
  ∃ z:Array Value,((len * j.size=0∧z = #[])∨(¬ len * j.size=0∧∃ v,(zeroValue e).run P w = .ok v w∧z=v.cells))∧((Array.range (len * j.size)).map (z[· % z.size]!)).size=len * j.size∧∀ (i:Nat) v,((Array.range (len * j.size)).map (z[· % z.size]!))[i]?=some v→v.oneCell'=true:=by
 by_cases h0:len * j.size=0
 ·refine ⟨#[],.inl ⟨h0,rfl⟩,by simp,fun i v hv=>?_⟩
  rw [h0] at hv
  simp at hv
 ·obtain ⟨z,h1,h2,_⟩:=Bj (M:=fun _=>none) (G:=fun _=>undef) hT he
  refine ⟨z.cells,.inr ⟨h0,z,h1 w,rfl⟩,by simp,fun i v hv=>?_⟩
  have hpos:=(hT.facts he).pos
  have hlen:=(hT.facts he).len
  have hzs:z.cells.size=j.size:=by have:=h2.1; simp at this; omega
  rw [Array.getElem?_map] at hv
  cases hr:(Array.range (len * j.size))[i]? with
  | none=>rw [hr] at hv; cases hv
  | some k=>
   rw [hr] at hv
   simp only [Option.map_some,Option.some.injEq] at hv
   subst hv
   have hlt:k % z.cells.size < z.cells.size:=Nat.mod_lt _ (by omega)
   rw [getElem!_pos z.cells (k % z.cells.size) hlt]
   exact h2.2.1 _ _ (Array.getElem?_eq_getElem hlt)
theorem Fj {C:Cx}{L:List Oper}{o:Oper}{env:Env}{d:Option Nat}{rs:List Row}(h:Rh C L o env=some (d,rs)):D1 L env o=some true∧G5 o=some d:=by
 unfold Rh at h
 split at h
 ·rename_i t len parts dd hw ho hd
  split at h
  ·split at h
   ·split at h
    ·rename_i j hj
     cases hb:Nat.ble len 65536&&Nat.ble j.size 64 with
     | false=>rw [hb] at h; cases h
     | true=>
      rw [hb] at h
      simp only [cond_true] at h
      split at h
      ·split at h
       ·simp only [Option.some.injEq,Prod.mk.injEq] at h
        exact ⟨hw,by rw [hd,h.1]⟩
       ·cases h
      ·cases h
    ·cases h
   ·cases h
  ·cases h
 ·cases h
theorem Uj {C:Cx}(hC:L1 C){L:List Oper}{o:Oper}{env:Env}{H:I0}{d:Option Nat}{rs:List Row}(h:Rh C L o env=some (d,rs)):E4 C o env H (.full rs):=by
 intro M G w a next Qw hρ hG hgl hH hk
 unfold Rh at h
 split at h
 ·rename_i t len parts dd hw ho hd
  rw [ho] at hρ
  split at h
  ·rename_i i ht
   split at h
   ·rename_i e hu
    split at h
    ·rename_i j hj
     cases hb:Nat.ble len 65536&&Nat.ble j.size 64 with
     | false=>rw [hb] at h; cases h
     | true=>
      rw [hb] at h
      simp only [Bool.and_eq_true] at hb
      have b1:=Nat.le_of_ble_eq_true hb.1
      have b2:=Nat.le_of_ble_eq_true hb.2
      simp only [cond_true] at h
      split at h
      ·rename_i out hout
       split at h
       ·rename_i rs' hrs
        simp only [Option.some.injEq,Prod.mk.injEq] at h
        obtain ⟨rfl,rfl⟩:=h
        have hd:=U8 (hC.tok.facts ht) hu
        obtain ⟨z,hz,hzs,hz1⟩:=R13 hC.tok hj len w
        obtain ⟨ws,f1,f2⟩:=Fn (M:=M) (G:=G) (vs:=(Array.range (len * j.size)).map (z[· % z.size]!)) (E1:=(parts.map fun (p:Nat×Operand)=>(p.1,a.eval p.2)).toList) ⟨by rw [hzs]; simp,hz1,fun i x v hx hv=>by
          rw [List.getElem?_replicate] at hx
          split at hx
          ·simp only [Option.some.injEq] at hx; subst hx; exact .junk
          ·cases hx⟩ (by simp) (fun i p q hp hq=>by
          rw [List.getElem?_map] at hp
          rw [Array.getElem?_toList,Array.getElem?_map] at hq
          cases hpi:parts[i]? with
          | none=>rw [hpi] at hq; cases hq
          | some r=>
           rw [Array.getElem?_toList,hpi] at hp
           rw [hpi] at hq
           simp only [Option.map_some,Option.some.injEq] at hp hq
           subst hp; subst hq
           refine ⟨rfl,hρ _ ?_⟩
           simp only [Op.operands,List.mem_toArray,List.mem_map,Array.mem_toList_iff]
           exact ⟨r,Array.mem_of_getElem? hpi,rfl⟩) hout
        obtain ⟨M',g1,g2,g3⟩:=M15 (e:=e) hG f2 hrs (by unfold maxLen; omega)
        have hnot:¬ len * j.size > 2 ^ 24:=by
         have:len * j.size≤65536 * 64:=Nat.mul_le_mul b1 b2
         have e24:(2:Nat) ^ 24=16777216:=by decide
         omega
        have hrun:(Instr.buildSlice t len (parts.map fun (p:Nat×Operand)=>(p.1,a.eval p.2))).run C.P w = .ok (.slice (some ⟨w.heap.size,0,none⟩) len len) (w.alloc (.cells ws e)):=by
         simp only [Instr.buildSlice,Sem.run_bind,run_underlying hd,Result.andThen_ok,J8 (hC.tok.facts hj) w]
         rw [if_neg hnot]
         rcases hz with ⟨h0,rfl⟩ | ⟨h0,v,hv,rfl⟩
         ·rw [if_pos h0]
          simp only [Sem.run_bind,Sem.run_pure,Result.andThen_ok,f1]
          simp [newRow]
         ·rw [if_neg h0]
          simp only [Sem.run_bind,Sem.run_pure,Result.andThen_ok,hv,f1]
          simp [newRow]
        unfold Oper.wp execOp
        simp only [ho,Sem.run_bind,hrun,Result.andThen_ok,Sem.run_pure,Oper.upon_value]
        exact hk _ M' _ (.full g1 rfl) g2 g3
       ·cases h
      ·cases h
    ·cases h
   ·cases h
  ·cases h
 ·cases h
theorem F0.b {F:Fx}(hC:L1 F.C){L l:List Oper}{o:Oper}{env:Env}{H:I0}{Q:Env→I0→Prop}{d:Option Nat}{rs:List Row}(h:Rh F.C L o env=some (d,rs))(k:F0 F L l (put env d (.full rs)) H Q):F0 F L (o::l) env H Q:=by
 obtain ⟨h1,h2⟩:=Fj h
 refine .yields h1 (Uj hC h) ?_
 rw [J3 h2]
 exact k
theorem AQ.b {C:Cx}(hC:L1 C){L l:List Oper}{o:Oper}{env:Env}{H:I0}{Q:Env→Prop}{d:Option Nat}{rs:List Row}(h:Rh C L o env=some (d,rs))(k:AQ C L l (put env d (.full rs)) H Q):AQ C L (o::l) env H Q:=
 .y _ (Fj h).2 (Fj h).1 (Uj hC h) k
end Go.Am

namespace Go.Am
theorem Ch {env:Env}{t:Nat}{x:A}(h:env t=x):upd env t x=env:=by
 funext i
 unfold upd
 cases hb:Nat.beq i t with
 | true=>obtain rfl:=Nat.eq_of_beq_eq_true hb; exact h.symm
 | false=>rfl
theorem F0.split {F:Fx}{L l:List Oper}{env:Env}{H:I0}{Q:Env→I0→Prop}{b:Bool}(t:Nat)(hb:env t = .d (.bool b))(h1:b=true→F0 F L l (upd env t (.d (.bool true))) H Q)(h2:b=false→F0 F L l (upd env t (.d (.bool false))) H Q):F0 F L l env H Q:=by
 cases b with
 | true=>have:=h1 rfl; rwa [Ch hb] at this
 | false=>have:=h2 rfl; rwa [Ch hb] at this
theorem AQ.split {C:Cx}{L l:List Oper}{env:Env}{H:I0}{Q:Env→Prop}{b:Bool}(t:Nat)(hb:env t = .d (.bool b))(h1:b=true→AQ C L l (upd env t (.d (.bool true))) H Q)(h2:b=false→AQ C L l (upd env t (.d (.bool false))) H Q):AQ C L l env H Q:=by
 cases b with
 | true=>have:=h1 rfl; rwa [Ch hb] at this
 | false=>have:=h2 rfl; rwa [Ch hb] at this
def Cl (C:Cx)(L:List Oper)(o:Oper)(env:Env):Option (Option Nat×List UInt8×Int):=
 match D1 L env o,o.op with
 | some true,.index t x y=>match Y1 C.T t,ev C.GL env x,ev C.GL env y,G5 o with
  | some i,.d (.str s),.d (.int _ n),some d=>match i.u with
   | .str=>some (d,s,n)
   | _=>none
  | _,_,_,_=>none
 | _,_=>none
theorem Gj {C:Cx}{L:List Oper}{o:Oper}{env:Env}{d:Option Nat}{s:List UInt8}{n:Int}(h:Cl C L o env=some (d,s,n)):D1 L env o=some true∧G5 o=some d:=by
 unfold Cl at h
 split at h
 ·rename_i t x y hw ho
  split at h
  ·rename_i i s' k m d' ht hx hy hd
   split at h
   ·simp only [Option.some.injEq,Prod.mk.injEq] at h
    exact ⟨hw,by rw [hd,h.1]⟩
   ·cases h
  ·cases h
 ·cases h
theorem Ml {C:Cx}(hC:L1 C){L:List Oper}{o:Oper}{env:Env}{H:I0}{d:Option Nat}{s:List UInt8}{n:Int}(h:Cl C L o env=some (d,s,n)){k:Nat}{b:UInt8}(hn:n=k)(hk:s[k]?=some b):E4 C o env H (.d (.int .u8 b.toNat)):=by
 intro M G w a next Qw hρ hG hgl hH hkk
 unfold Cl at h
 split at h
 ·rename_i t x y hw ho
  rw [ho] at hρ
  split at h
  ·rename_i i s' kd m d' ht hx hy hd
   split at h
   ·rename_i hu
    simp only [Option.some.injEq,Prod.mk.injEq] at h
    obtain ⟨rfl,rfl,rfl⟩:=h
    have hxr:=hρ x (by simp [Op.operands])
    have hyr:=hρ y (by simp [Op.operands])
    rw [hx] at hxr
    rw [hy] at hyr
    generalize hxv:a.eval x=xv at hxr
    generalize hyv:a.eval y=yv at hyr
    cases hxr; rename_i hxr; cases hxr
    cases hyr; rename_i hyr; cases hyr
    have hd:=Ra (hC.tok.facts ht) hu
    have hlt:k < s'.length:=(List.getElem?_eq_some_iff.1 hk).1
    have hget:(⟨s'.toArray⟩:ByteArray)[m.toNat]?=some b:=by
     have e:m.toNat=k:=by omega
     rw [e,getElem?_pos (⟨s'.toArray⟩:ByteArray) k (by rw [Xl]; exact hlt)]
     have:=(List.getElem?_eq_some_iff.1 hk).2
     simpa [ByteArray.getElem_eq_getElem_data] using this
    unfold Oper.wp execOp
    have:(Instr.index t (.string ⟨s'.toArray⟩) (.int kd m)).run C.P w = .ok (.int .u8 b.toNat) w:=by
     have hm:0≤m:=by omega
     simp [Instr.index,Ff,run_underlying hd,hm,hget]
    simp only [ho,hxv,hyv,Sem.run_bind,this,Result.andThen_ok,Sem.run_pure,Oper.upon_value]
    exact hkk _ M w (.d (.int (by rw [D13]; have:=b.toNat_lt; omega))) hG (Ext.refl _ _ _)
   ·cases h
  ·cases h
 ·cases h
theorem F0.x {F:Fx}(hC:L1 F.C){L l:List Oper}{o:Oper}{env:Env}{H:I0}{Q:Env→I0→Prop}{d:Option Nat}{s:List UInt8}{n:Int}(h:Cl F.C L o env=some (d,s,n)){k:Nat}{b:UInt8}(hn:n=k)(hk:s[k]?=some b)
  (kk:F0 F L l (put env d (.d (.int .u8 b.toNat))) H Q):F0 F L (o::l) env H Q:=by
 obtain ⟨h1,h2⟩:=Gj h
 refine .yields h1 (Ml hC h hn hk) ?_
 rw [J3 h2]
 exact kk
theorem AQ.x {C:Cx}(hC:L1 C){L l:List Oper}{o:Oper}{env:Env}{H:I0}{Q:Env→Prop}{d:Option Nat}{s:List UInt8}{n:Int}(h:Cl C L o env=some (d,s,n)){k:Nat}{b:UInt8}(hn:n=k)(hk:s[k]?=some b)
  (kk:AQ C L l (put env d (.d (.int .u8 b.toNat))) H Q):AQ C L (o::l) env H Q:=.y _ (Gj h).2 (Gj h).1 (Ml hC h hn hk) kk
def bnd (GL:GT)(env:Env)(x:Option Operand)(dflt:Int):Option Int:=
 match x with
 | none=>some dflt
 | some y=>match ev GL env y with | .d (.int _ n)=>some n | _=>none
theorem Ns {M:Mem}{G:Nat→Value}{GL:GT}{env:Env}{a:Act}{x:Option Operand}{dflt n:Int}(h:bnd GL env x dflt=some n)(hρ:∀ y,x=some y→N0 M G (ev GL env y) (a.eval y)) :
  (x=none∧n=dflt)∨∃ y k,x=some y∧a.eval y = .int k n:=by
 unfold bnd at h
 split at h
 ·simp only [Option.some.injEq] at h; exact .inl ⟨rfl,h.symm⟩
 ·rename_i y
  split at h
  ·rename_i k m hy
   simp only [Option.some.injEq] at h
   subst h
   have hr:=hρ y rfl
   rw [hy] at hr
   generalize hv:a.eval y=v at hr
   cases hr; rename_i hr; cases hr
   exact .inr ⟨y,k,rfl,hv⟩
  ·cases h
def Hj (C:Cx)(L:List Oper)(o:Oper)(env:Env):Option (Option Nat×List UInt8×Int×Int):=
 match D1 L env o,o.op with
 | some true,.slice t x lo hi none=>match Y1 C.T t,ev C.GL env x,G5 o with
  | some i,.d (.str s),some d=>match i.u,bnd C.GL env lo 0,bnd C.GL env hi (s.length:Nat) with
   | .str,some l,some h=>some (d,s,l,h)
   | _,_,_=>none
  | _,_,_=>none
 | _,_=>none
theorem Ij {C:Cx}{L:List Oper}{o:Oper}{env:Env}{r:Option Nat×List UInt8×Int×Int}(h:Hj C L o env=some r):D1 L env o=some true∧G5 o=some r.1:=by
 unfold Hj at h
 split at h
 ·rename_i t x lo hi hw ho
  split at h
  ·rename_i i s' d' ht hx hd
   split at h
   ·simp only [Option.some.injEq] at h
    subst h
    exact ⟨hw,hd⟩
   ·cases h
  ·cases h
 ·cases h
theorem Ps {P:Program}{w:World}{isSl:Bool}{len cap l h:Nat}{lo hi:Option Value}(h1:lo=none∧l=0∨∃ k,lo=some (.int k (l:Int)))(h2:hi=none∧h=len∨∃ k,hi=some (.int k (h:Int)))(hle:l≤h)(hc:h≤cap) :
  (Instr.sliceBounds isSl len cap lo hi none).run P w = .ok (l,h,cap) w:=by
 have b:∀ (k:IntKind) (n y:Nat) (c:BoundsCode),n≤y→(Instr.sliceBound (.int k (n:Int)) y c).run P w = .ok n w:=fun k n y c hy=>by
  simp [Instr.sliceBound,Ff,hy]
 rcases h1 with ⟨rfl,rfl⟩ | ⟨k,rfl⟩ <;> rcases h2 with ⟨rfl,rfl⟩ | ⟨k',rfl⟩ <;> simp [Instr.sliceBounds,b _ _ _ _ hle,b _ _ _ _ hc]
theorem Up {a:Act}{x:Option Operand}{dflt n:Int}{l dl:Nat}(h:(x=none∧n=dflt)∨∃ y k,x=some y∧a.eval y = .int k n)(hl:n=l)(hd:dflt=dl):(x.map a.eval=none∧l=dl)∨∃ k,x.map a.eval=some (.int k (l:Int)):=by
 rcases h with ⟨rfl,rfl⟩ | ⟨y,k,rfl,e⟩
 ·exact .inl ⟨rfl,by omega⟩
 ·exact .inr ⟨k,by simp [e,hl]⟩
theorem B12 (s:List UInt8)(l h:Nat):(⟨s.toArray⟩:ByteArray).extract l h=⟨((s.take h).drop l).toArray⟩:=by
 apply ByteArray.ext
 rw [ByteArray.data_extract]
 simp [List.extract_toArray,List.drop_take]
theorem Nl {C:Cx}(hC:L1 C){L:List Oper}{o:Oper}{env:Env}{H:I0}{d:Option Nat}{s:List UInt8}{lo hi:Int}(h:Hj C L o env=some (d,s,lo,hi)){l r:Nat}(hl:lo=l)(hr:hi=r)(hlr:l≤r)(hrs:r≤s.length) :
  E4 C o env H (.d (.str ((s.take r).drop l))):=by
 intro M G w a next Qw hρ hG hgl hH hkk
 unfold Hj at h
 split at h
 ·rename_i t x lo' hi' hw ho
  rw [ho] at hρ
  split at h
  ·rename_i i s' d' ht hx hd
   split at h
   ·rename_i l' h' hu hbl hbh
    simp only [Option.some.injEq,Prod.mk.injEq] at h
    obtain ⟨rfl,rfl,rfl,rfl⟩:=h
    have hxr:=hρ x (by simp [Op.operands])
    rw [hx] at hxr
    generalize hxv:a.eval x=xv at hxr
    cases hxr; rename_i hxr; cases hxr
    rename_i hsl
    have hd:=Ra (hC.tok.facts ht) hu
    have e1:=Up (Ns hbl fun y hy=>hρ y (by subst hy; simp [Op.operands])) hl rfl
    have e2:=Up (Ns hbh fun y hy=>hρ y (by subst hy; simp [Op.operands])) hr rfl
    have:(Instr.sliceAt t (.string ⟨s'.toArray⟩) (lo'.map a.eval) (hi'.map a.eval) none).run C.P w = .ok (.string ⟨((s'.take r).drop l).toArray⟩) w:=by
     have hb:=Ps (P:=C.P) (w:=w) (isSl:=false) (cap:=s'.length) e1 e2 hlr hrs
     simp [Instr.sliceAt,Instr.slice,run_underlying hd,Xl,hb,B12 s' l r]
    unfold Oper.wp execOp
    simp only [ho,hxv,Option.map_none,Sem.run_bind,this,Result.andThen_ok,Sem.run_pure,Oper.upon_value]
    exact hkk _ M w (.d (.str (by simp; omega))) hG (Ext.refl _ _ _)
   ·cases h
  ·cases h
 ·cases h
theorem F0.l {F:Fx}(hC:L1 F.C){L l:List Oper}{o:Oper}{env:Env}{H:I0}{Q:Env→I0→Prop}{d:Option Nat}{s:List UInt8}{lo hi:Int}(h:Hj F.C L o env=some (d,s,lo,hi)){p r:Nat}(hl:lo=p)(hr:hi=r)(hlr:p≤r)(hrs:r≤s.length)
  (kk:F0 F L l (put env d (.d (.str ((s.take r).drop p)))) H Q):F0 F L (o::l) env H Q:=by
 obtain ⟨h1,h2⟩:=Ij h
 refine .yields h1 (Nl hC h hl hr hlr hrs) ?_
 rw [J3 h2]
 exact kk
theorem AQ.l {C:Cx}(hC:L1 C){L l:List Oper}{o:Oper}{env:Env}{H:I0}{Q:Env→Prop}{d:Option Nat}{s:List UInt8}{lo hi:Int}(h:Hj C L o env=some (d,s,lo,hi)){p r:Nat}(hl:lo=p)(hr:hi=r)(hlr:p≤r)(hrs:r≤s.length)
  (kk:AQ C L l (put env d (.d (.str ((s.take r).drop p)))) H Q):AQ C L (o::l) env H Q:=.y _ (Ij h).2 (Ij h).1 (Nl hC h hl hr hlr hrs) kk
def Vp (C:Cx)(L:List Oper)(o:Oper)(env:Env):Option (Option Nat×List Row×Int×Int×Nat):=
 match D1 L env o,o.op with
 | some true,.slice t x lo hi none=>match Y1 C.T t,We (ev C.GL env x),G5 o with
  | some i,some rows,some d=>match i.u,bnd C.GL env lo 0,bnd C.GL env hi (rows.length:Nat) with
   | .sl e,some l,some h=>match Y1 C.T e with | some j=>some (d,rows,l,h,j.size) | none=>none
   | _,_,_=>none
  | _,_,_=>none
 | _,_=>none
theorem Kn {C:Cx}{L:List Oper}{o:Oper}{env:Env}{r:Option Nat×List Row×Int×Int×Nat}(h:Vp C L o env=some r):D1 L env o=some true∧G5 o=some r.1:=by
 unfold Vp at h
 split at h
 ·rename_i t x lo hi hw ho
  split at h
  ·rename_i i s' d' ht hx hd
   split at h
   ·split at h
    ·simp only [Option.some.injEq] at h
     subst h
     exact ⟨hw,hd⟩
    ·cases h
   ·cases h
  ·cases h
 ·cases h
theorem S13 {M:Mem}{rows:List Row}{a:Addr}{len cap:Nat}(h:B2 M (.sl rows) (.slice (some a) len cap)){sz l r:Nat}(hsz:∀ x∈rows,x.length=sz)(hlr:l≤r)(hr:r≤rows.length) :
  B2 M (.sl ((rows.take r).drop l)) (.slice (some (if cap=l then a else a.add (l * sz))) (r - l) (cap - l)):=by
 cases h with
 | sl sz' E1 hl hc hm hs hz h1 h2=>
  by_cases he:cap=l
  ·have:l=r:=by omega
   subst this
   rw [if_pos he,show (rows.take l).drop l=[] by simp]
   exact .sl 0 (fun _ _=>undef) (by simp) (by omega) (by omega) (.inl (by omega)) (fun i r h=>by simp at h) (fun i j r x h=>by simp at h) (fun i j r x h=>by simp at h)
  ·rw [if_neg he]
   have hget:∀ (i:Nat) x,((rows.take r).drop l)[i]?=some x→rows[l+i]?=some x:=fun i x hx=>by
    rw [List.getElem?_drop,List.getElem?_take] at hx
    split at hx
    ·exact hx
    ·cases hx
   have hzz:∀ (i:Nat) x,((rows.take r).drop l)[i]?=some x→sz'=sz:=fun i x hx=>by
    have e1:=hz _ x (hget i x hx)
    have e2:=hsz x (List.mem_of_getElem? (hget i x hx))
    omega
   refine .sl sz (fun i j=>E1 (l+i) j) (by simp; omega) (by omega) (by omega) (.inr (by rw [Li (hs.resolve_left (by omega))])) (fun i x hx=>by have:=hzz i x hx; have:=hz _ x (hget i x hx); omega) (fun i j x y hx hy=>?_) fun i j x y hx hy=>h2 _ j x y (hget i x hx) hy
   have:=h1 _ j x y (hget i x hx) hy
   rw [Gd]
   rw [hzz i x hx] at this
   rwa [show l * sz+(i * sz+j)=(l+i) * sz+j by rw [Nat.add_mul]; omega]
theorem Qs {C:Cx}(hC:L1 C){L:List Oper}{o:Oper}{env:Env}{H:I0}{d:Option Nat}{rows:List Row}{lo hi:Int}{sz:Nat}(h:Vp C L o env=some (d,rows,lo,hi,sz)){l r:Nat}(hl:lo=l)(hr:hi=r)(hlr:l≤r)(hrs:r≤rows.length)
  (hsz:∀ x∈rows,x.length=sz):E4 C o env H (.d (.sl ((rows.take r).drop l))):=by
 intro M G w a next Qw hρ hG hgl hH hkk
 unfold Vp at h
 split at h
 ·rename_i t x lo' hi' hw ho
  rw [ho] at hρ
  split at h
  ·rename_i i rows' d' ht hx hd
   split at h
   ·rename_i e l' h' hu hbl hbh
    split at h
    ·rename_i j hj
     simp only [Option.some.injEq,Prod.mk.injEq] at h
     obtain ⟨rfl,rfl,rfl,rfl,rfl⟩:=h
     have hxr:=J9 hx (hρ x (by simp [Op.operands]))
     generalize hxv:a.eval x=xv at hxr
     have hd:=U8 (hC.tok.facts ht) hu
     have e1:=Up (Ns hbl fun y hy=>hρ y (by subst hy; simp [Op.operands])) hl rfl
     have e2:=Up (Ns hbh fun y hy=>hρ y (by subst hy; simp [Op.operands])) hr rfl
     obtain ⟨ad,cap,rfl,hcap,hrel⟩:∃ ad cap,xv = .slice ad rows'.length cap∧rows'.length≤cap∧B2 M (.sl ((rows'.take r).drop l)) (.slice (if cap=l then ad else ad.map (·.add (l * j.size))) (r - l) (cap - l)):=by
      cases hxr with
      | slnil=>
       simp at hrs
       obtain rfl:r=0:=hrs
       obtain rfl:l=0:=by omega
       exact ⟨none,0,rfl,Nat.le_refl _,by simpa using B2.slnil⟩
      | sl sz E1 hl' hc hm hs hz h1 h2=>
       rename_i ad len cap
       subst hl'
       refine ⟨some ad,cap,rfl,hc,?_⟩
       have:=S13 (.sl sz E1 rfl hc hm hs hz h1 h2) hsz hlr hrs
       by_cases he:cap=l
       ·rw [if_pos he] at this ⊢; exact this
       ·rw [if_neg he] at this ⊢; exact this
     have:(Instr.sliceAt t (.slice ad rows'.length cap) (lo'.map a.eval) (hi'.map a.eval) none).run C.P w = .ok (.slice (if cap=l then ad else ad.map (·.add (l * j.size))) (r - l) (cap - l)) w:=by
      have hb:=Ps (P:=C.P) (w:=w) (isSl:=true) (len:=rows'.length) (cap:=cap) e1 e2 hlr (by omega)
      simp [Instr.sliceAt,Instr.slice,run_underlying hd,hb,J8 (hC.tok.facts hj) w]
     unfold Oper.wp execOp
     simp only [ho,hxv,Option.map_none,Sem.run_bind,this,Result.andThen_ok,Sem.run_pure,Oper.upon_value]
     exact hkk _ M w (.d hrel) hG (Ext.refl _ _ _)
    ·cases h
   ·cases h
  ·cases h
 ·cases h
theorem F0.d {F:Fx}(hC:L1 F.C){L l:List Oper}{o:Oper}{env:Env}{H:I0}{Q:Env→I0→Prop}{d:Option Nat}{rows:List Row}{lo hi:Int}{sz:Nat}(h:Vp F.C L o env=some (d,rows,lo,hi,sz)){p r:Nat}(hl:lo=p)(hr:hi=r)(hlr:p≤r)(hrs:r≤rows.length)
  (hsz:∀ x∈rows,x.length=sz) (kk:F0 F L l (put env d (.d (.sl ((rows.take r).drop p)))) H Q):F0 F L (o::l) env H Q:=by
 obtain ⟨h1,h2⟩:=Kn h
 refine .yields h1 (Qs hC h hl hr hlr hrs hsz) ?_
 rw [J3 h2]
 exact kk
theorem AQ.d {C:Cx}(hC:L1 C){L l:List Oper}{o:Oper}{env:Env}{H:I0}{Q:Env→Prop}{d:Option Nat}{rows:List Row}{lo hi:Int}{sz:Nat}(h:Vp C L o env=some (d,rows,lo,hi,sz)){p r:Nat}(hl:lo=p)(hr:hi=r)(hlr:p≤r)(hrs:r≤rows.length)
  (hsz:∀ x∈rows,x.length=sz) (kk:AQ C L l (put env d (.d (.sl ((rows.take r).drop p)))) H Q):AQ C L (o::l) env H Q:=.y _ (Kn h).2 (Kn h).1 (Qs hC h hl hr hlr hrs hsz) kk
def Rs (C:Cx)(L:List Oper)(o:Oper)(env:Env):Option (Option Nat):=
 match D1 L env o,o.op with
 | some true,.slice t x none (some (.const (.int _ 0))) (some (.const (.int _ 0)))=>match Y1 C.T t,We (ev C.GL env x),G5 o with
  | some i,some _,some d=>match i.u with
   | .sl e=>match Y1 C.T e with | some _=>some d | none=>none
   | _=>none
  | _,_,_=>none
 | _,_=>none
theorem C12 {C:Cx}{L:List Oper}{o:Oper}{env:Env}{d:Option Nat}(h:Rs C L o env=some d):D1 L env o=some true∧G5 o=some d:=by
 unfold Rs at h
 split at h
 ·rename_i t x k k' hw ho
  split at h
  ·rename_i i rows d' ht hx hd
   split at h
   ·split at h
    ·simp only [Option.some.injEq] at h
     subst h
     exact ⟨hw,hd⟩
    ·cases h
   ·cases h
  ·cases h
 ·cases h
theorem Yz {C:Cx}(hC:L1 C){L:List Oper}{o:Oper}{env:Env}{H:I0}{d:Option Nat}(h:Rs C L o env=some d):E4 C o env H (.full []):=by
 intro M G w a next Qw hρ hG hgl hH hkk
 unfold Rs at h
 split at h
 ·rename_i t x k k' hw ho
  rw [ho] at hρ
  split at h
  ·rename_i i rows' d' ht hx hd
   split at h
   ·rename_i e hu
    split at h
    ·rename_i j hj
     have hxr:=J9 hx (hρ x (by simp [Op.operands]))
     generalize hxv:a.eval x=xv at hxr
     have hd:=U8 (hC.tok.facts ht) hu
     obtain ⟨ad,cap,rfl⟩:∃ ad cap,xv = .slice ad rows'.length cap:=by
      cases hxr with
      | slnil=>exact ⟨none,0,rfl⟩
      | sl sz E1 hl' hc hm hs hz h1 h2=>
       rename_i ad len cap
       subst hl'
       exact ⟨some ad,cap,rfl⟩
     have:(Instr.sliceAt t (.slice ad rows'.length cap) none (some (.int k 0)) (some (.int k' 0))).run C.P w = .ok (.slice ad 0 0) w:=by
      have b:∀ (k:IntKind) (y:Nat) (c:BoundsCode),(Instr.sliceBound (.int k 0) y c).run C.P w = .ok 0 w:=fun k y c=>by simp [Instr.sliceBound,Ff]
      simp [Instr.sliceAt,Instr.slice,run_underlying hd,Instr.sliceBounds,b,J8 (hC.tok.facts hj) w]
     unfold Oper.wp execOp
     have ec:∀ v,a.eval (.const v)=v:=fun _=>rfl
     simp only [ho,hxv,Option.map_none,Option.map_some,ec,Sem.run_bind,this,Result.andThen_ok,Sem.run_pure,Oper.upon_value]
     refine hkk _ M w ?_ hG (Ext.refl _ _ _)
     cases ad with
     | none=>exact .full .slnil trivial
     | some z=>exact .full (.sl 0 (fun _ _=>undef) rfl (Nat.le_refl _) (by unfold maxLen; omega) (.inl rfl) (fun i r h=>by simp at h) (fun i j r x h=>by simp at h) (fun i j r x h=>by simp at h)) rfl
    ·cases h
   ·cases h
  ·cases h
 ·cases h
theorem F0.e {F:Fx}(hC:L1 F.C){L l:List Oper}{o:Oper}{env:Env}{H:I0}{Q:Env→I0→Prop}{d:Option Nat}(h:Rs F.C L o env=some d)(kk:F0 F L l (put env d (.full [])) H Q):F0 F L (o::l) env H Q:=by
 obtain ⟨h1,h2⟩:=C12 h
 refine .yields h1 (Yz hC h) ?_
 rw [J3 h2]
 exact kk
end Go.Am

namespace Go.Am
theorem St.newOb {C:Cx}{N:FN}{M M':Mem}{G:Nat→Value}{w w':World}{env:Env}{H:I0}{a:Act}(h:St C N M G w env H a){dst:Option Nat}(hd:∀ d,dst=some d→d < N){ob:Ob}{v' v:Value}{x:A}
  (hext:Ext I4 M w M' w') (hg:Good M' w') (hob:∀ G,Ja M' G w' ob v') (hblk:∀ b,blk ob v'=some b→w.heap.size≤b)
  (hx:N0 M' (C6 G H.length v') x v) :
  St C N M' (C6 G H.length v') w' (put env dst x) (H++[ob]) (a.put dst v):=by
 have hh:=h.hrel.ext hext (fun _ _ q=>q)
 have hmono:∀ {x:A} {v:Value},N0 M' G x v→N0 M' (C6 G H.length v') x v:=fun hr=>hr.mono (fun _ _ e=>e) fun o hn=>I2 (Nat.ne_of_lt (hh.lt hr hn))
 obtain ⟨h1,h2,h3⟩:=Be (fun t=>hmono ((h.env t).mono' hext.mono)) h.size hd hx
 refine ⟨hg,h.gl.ext h.hrel hext (fun _ h=>h.elim),⟨fun o x ho=>?_,fun o o' x x' b ho ho' hb hb'=>?_,fun o ho=>?_⟩,h1,h2,h3.trans h.defers⟩
 ·rcases Nat.lt_trichotomy o H.length with hlt | rfl | hgt
  ·rw [List.getElem?_append_left hlt] at ho
   rw [I2 (Nat.ne_of_lt hlt)]
   have hob:=hh.obj o x ho
   cases x with
   | dead=>trivial
   | row cells e=>
    obtain ⟨b,us,g1,g2,g3,g4,g5,g6⟩:=hob
    exact ⟨b,us,g1,g2,g3,g4,fun i y v a c=>hmono (g5 i y v a c),g6⟩
   | bld o' e=>
    obtain ⟨b,v0,g1,g2,g3,g4,g5⟩:=hob
    have ho':o'≠H.length:=fun e=>g4 (by rw [e]; exact hh.fresh _ (Nat.le_refl _))
    exact ⟨b,v0,g1,by rw [I2 ho']; exact g2,g3,by rw [I2 ho']; exact g4,g5⟩
   | buf e sz=>exact hob
   | tok e sz=>exact hob
   | map es=>
    obtain ⟨b,ms,cl,g1,g2,g3,g4,g5⟩:=hob
    exact ⟨b,ms,cl,g1,g2,g3,fun i k cs e a c=>⟨(g4 i k cs e a c).1,hmono (g4 i k cs e a c).2⟩,g5⟩
  ·simp at ho
   subst ho
   rw [U2]
   exact hob _
  ·rw [List.getElem?_eq_none (by simp; omega)] at ho
   cases ho
 ·have key:∀ (o:Nat) x b,(H++[ob])[o]?=some x→blk x (C6 G H.length v' o)=some b→(o < H.length∧H[o]?=some x∧blk x (G o)=some b∧b < w.heap.size)∨(o=H.length∧w.heap.size≤b):=by
   intro o x b ho hb
   rcases Nat.lt_trichotomy o H.length with hlt | rfl | hgt
   ·rw [List.getElem?_append_left hlt] at ho
    rw [I2 (Nat.ne_of_lt hlt)] at hb
    exact .inl ⟨hlt,ho,hb,A9 (h.hrel.obj o x ho) hb⟩
   ·simp at ho
    subst ho
    rw [U2] at hb
    exact .inr ⟨rfl,hblk b hb⟩
   ·rw [List.getElem?_eq_none (by simp; omega)] at ho
    cases ho
  rcases key o x b ho hb with ⟨q1,q2,q3,q4⟩ | ⟨q1,q2⟩ <;> rcases key o' x' b ho' hb' with ⟨p1,p2,p3,p4⟩ | ⟨p1,p2⟩
  ·exact h.hrel.apart o o' x x' b q2 p2 q3 p3
  ·omega
  ·omega
  ·omega
 ·simp at ho
  rw [I2 (by omega)]
  exact h.hrel.fresh o (by omega)
theorem O1.newOb {fr:Fr}{M M':Mem}{G:Nat→Value}{w w':World}{H:I0}(h:O1 fr M G w H){ob:Ob}{v':Value}(hext:Ext I4 M w M' w')(hblk:∀ b,blk ob v'=some b→w.heap.size≤b) :
  O1 fr M' (C6 G H.length v') w' (H++[ob]):=by
 refine ⟨h.ext.trans hext (fun _ h=>h.elim),fun b hb=>?_,by simp; have:=h.len; omega,fun o x ho ht=>?_,fun o x y ho ht hy=>?_⟩
 ·obtain ⟨o,x,ho,hx⟩:=hb
  rcases Nat.lt_trichotomy o H.length with hlt | rfl | hgt
  ·rw [List.getElem?_append_left hlt] at ho
   rw [I2 (Nat.ne_of_lt hlt)] at hx
   exact h.own b ⟨o,x,ho,hx⟩
  ·simp at ho
   subst ho
   rw [U2] at hx
   exact .inr (Nat.le_trans h.ext.size (hblk b hx))
  ·rw [List.getElem?_eq_none (by simp; omega)] at ho
   cases ho
 ·have hlt:o < H.length:=Nat.lt_of_lt_of_le (List.getElem?_eq_some_iff.1 ho).1 h.len
  rw [I2 (Nat.ne_of_lt hlt)]
  exact h.keep o x ho ht
 ·have hlt:o < H.length:=Nat.lt_of_lt_of_le (List.getElem?_eq_some_iff.1 ho).1 h.len
  rw [List.getElem?_append_left hlt] at hy
  exact h.kind o x y ho ht hy
theorem St.setOb {C:Cx}{N:FN}{M:Mem}{G:Nat→Value}{w w':World}{env:Env}{H:I0}{a:Act}(h:St C N M G w env H a){dst:Option Nat}(hd:∀ d,dst=some d→d < N){p b:Nat}{x x':Ob}
  (hp:H[p]?=some x) (hb:blk x (G p)=some b) (hb':blk x' (G p)=some b) (hext:Ext (fun c=>c=b) M w M w') (hM:∀ off sp,M ⟨b,off,sp⟩=none) (hob:Ja M G w' x' (G p)) {y:A} {v:Value} (hy:N0 M G y v) :
  St C N M G w' (put env dst y) (A8 H p x') (a.put dst v):=by
 have hlt:p < H.length:=(List.getElem?_eq_some_iff.1 hp).1
 obtain ⟨h1,h2,h3⟩:=Be h.env h.size hd hy
 refine ⟨h.good.ext hext (fun ad u e hk=>?_),h.gl.ext h.hrel hext (fun c hc=>by subst hc; exact ⟨p,_,hp,hb⟩),⟨fun i z hi=>?_,fun i i' z z' c hi hi' hx hx'=>?_,fun i hi=>h.hrel.fresh i (by rw [Qj] at hi; exact hi)⟩,h1,h2,h3.trans h.defers⟩
 ·obtain ⟨bb,oo,ss⟩:=ad
  have hk':bb=b:=hk
  subst hk'
  rw [hM] at e
  cases e
 ·rw [W9 H p _ i hlt] at hi
  split at hi
  ·rename_i e
   subst e
   simp only [Option.some.injEq] at hi
   subst hi
   exact hob
  ·rename_i hne
   have hoz:=h.hrel.obj i z hi
   exact hoz.keep (fun _ _ e=>e) (fun c hcb=>hext.block c (A9 hoz hcb) fun e=>hne (h.hrel.apart i p z _ b hi hp (e ▸ hcb) hb)) (fun _ _ _ _ e=>e)
 ·have key:∀ (n:Nat) z d,(A8 H p x')[n]?=some z→blk z (G n)=some d→∃ y,H[n]?=some y∧blk y (G n)=some d:=by
   intro n z d hn hz
   rw [W9 H p _ n hlt] at hn
   by_cases e:n=p
   ·rw [if_pos e] at hn
    subst e
    obtain rfl:=Option.some.inj hn
    exact ⟨_,hp,by rw [hb,← hb',hz]⟩
   ·rw [if_neg e] at hn
    exact ⟨z,hn,hz⟩
  obtain ⟨y,hy,hby⟩:=key i z c hi hx
  obtain ⟨y',hy',hby'⟩:=key i' z' c hi' hx'
  exact h.hrel.apart i i' y y' c hy hy' hby hby'
theorem O1.setOb {fr:Fr}{M:Mem}{G:Nat→Value}{w w':World}{H:I0}(h:O1 fr M G w H){p b:Nat}{x x':Ob}
  (hp:H[p]?=some x) (hb:blk x (G p)=some b) (hb':blk x' (G p)=some b) (ht':isTok x'=false) (hext:Ext (fun c=>c=b) M w M w'):O1 fr M G w' (A8 H p x'):=by
 have hlt:p < H.length:=(List.getElem?_eq_some_iff.1 hp).1
 have hown:Go.Am.own G H b:=⟨p,_,hp,hb⟩
 refine ⟨h.ext.trans hext (fun x hx=>by subst hx; exact h.own _ hown),fun c hc=>?_,by rw [Qj]; exact h.len,h.keep,fun i z y hi ht hy=>?_⟩
 ·obtain ⟨i,z,hi,hx⟩:=hc
  rw [W9 H p _ i hlt] at hi
  by_cases e:i=p
  ·rw [if_pos e] at hi
   subst e
   obtain rfl:=Option.some.inj hi
   rw [hb'] at hx
   obtain rfl:=Option.some.inj hx
   exact h.own _ hown
  ·rw [if_neg e] at hi
   exact h.own c ⟨i,z,hi,hx⟩
 ·rw [W9 H p _ i hlt] at hy
  by_cases e:i=p
  ·rw [if_pos e] at hy
   obtain rfl:=Option.some.inj hy
   exact ht'
  ·rw [if_neg e] at hy
   exact h.kind i z y hi ht hy
def Q3 (k:List UInt8):List (List UInt8×Row)→Option Row
 | []=>none
 | (k',cs)::r=>bif k == k' then some cs else Q3 k r
def mput (k:List UInt8)(cs:Row):List (List UInt8×Row)→List (List UInt8×Row)
 | []=>[(k,cs)]
 | (k',cs')::r=>bif k == k' then (k,cs)::r else (k',cs')::mput k cs r
theorem S16 {a b:List UInt8}:((⟨a.toArray⟩:ByteArray) == ⟨b.toArray⟩)=(a == b):=by
 show (a.toArray == b.toArray)=(a == b)
 simp
theorem Jj {k:List UInt8}:∀ {es:List (List UInt8×Row)} {ms:List MapEntry} {i:Nat},ms.length=es.length→(∀ (n:Nat) k' cs e,es[n]?=some (k',cs)→ms[n]?=some e→e.key = .string ⟨k'.toArray⟩)→
  (Q3 k es=none∧Instr.findNow .string (.string ⟨k.toArray⟩) ms i=some none∧∀ cs,mput k cs es=es++[(k,cs)])∨
  ∃ n cs e,es[n]?=some (k,cs)∧Q3 k es=some cs∧ms[n]?=some e∧Instr.findNow .string (.string ⟨k.toArray⟩) ms i=some (some (i+n,e.val))∧∀ cs',mput k cs' es=es.set n (k,cs')
 | [],[],i,_,_=>.inl ⟨rfl,rfl,fun _=>rfl⟩
 | (k',cs)::es,m::ms,i,hl,hk=>by
  have hm:=hk 0 k' cs m rfl rfl
  simp only [Instr.findNow,hm,Instr.sameNow,Q3,mput,S16]
  cases hb:k == k' with
  | true=>
   obtain rfl:=beq_iff_eq.1 hb
   exact .inr ⟨0,cs,m,rfl,rfl,rfl,rfl,fun _=>rfl⟩
  | false=>
   simp only [cond_false]
   rcases Jj (k:=k) (es:=es) (ms:=ms) (i:=i+1) (by simpa using hl) (fun n k' cs e a b=>hk (n+1) k' cs e (by simpa using a) (by simpa using b)) with ⟨h1,h2,h3⟩ | ⟨n,cs',e,h1,h2,h3,h4,h5⟩
   ·exact .inl ⟨h1,h2,fun cs'=>by rw [h3]; rfl⟩
   ·exact .inr ⟨n+1,cs',e,by simpa using h1,h2,by simpa using h3,by rw [h4]; congr 3; omega,fun c=>by rw [h5]; rfl⟩
 | [],_::_,_,hl,_=>by simp at hl
 | _::_,[],_,hl,_=>by simp at hl
theorem Dr (es:List (List UInt8×Row)):(Jl.s es).list.length=es.length:=by simp [Jl.list]
theorem Tx {M:Mem}{G:Nat→Value}{es:List (List UInt8×Row)}{ms:Array MapEntry}(h:∀ (i:Nat) k cs e,(Jl.s es).list[i]?=some (k,cs)→ms[i]?=some e→B2 M k e.key∧N0 M G (Db cs) e.val) :
  ∀ (i:Nat) k cs e,es[i]?=some (k,cs)→ms[i]?=some e→B2 M (.str k) e.key∧N0 M G (Db cs) e.val:=fun i k cs e a b=>h i (.str k) cs e (by simp [Jl.list,a]) b
theorem T13 {M:Mem}{G:Nat→Value}{es:List (List UInt8×Row)}{ms:Array MapEntry}(h:∀ (i:Nat) k cs e,es[i]?=some (k,cs)→ms[i]?=some e→B2 M (.str k) e.key∧N0 M G (Db cs) e.val) :
  ∀ (i:Nat) k cs e,(Jl.s es).list[i]?=some (k,cs)→ms[i]?=some e→B2 M k e.key∧N0 M G (Db cs) e.val:=fun i k cs e a b=>by
 simp only [Jl.list,List.getElem?_map] at a
 cases hp:es[i]? with
 | none=>rw [hp] at a; cases a
 | some p=>
  rw [hp] at a
  simp only [Option.map_some,Option.some.injEq,Prod.mk.injEq] at a
  obtain ⟨rfl,rfl⟩:=a
  exact h i p.1 p.2 e hp b
def Wp (i:TI):A:=bif i.u.agg then .agg (i.zero.map .d) else (match nth i.zero 0 with | some x=>.d x | none=>.junk)
structure Lk where
 d:Option Nat
 es:List (List UInt8×Row)
 k:List UInt8
 ok:Bool
 z:A
def Ss (C:Cx)(L:List Oper)(o:Oper)(env:Env)(H:I0):Option Lk:=
 match D1 L env o,o.op,G5 o with
 | some true,.lookup t x y ok,some d=>match Y1 C.T t,ev C.GL env x,ev C.GL env y with
  | some i,.mp p,.d (.str k)=>match i.u,nth H p with
   | .map kt et,some (.map (.s es))=>match Y1 C.T kt,Y1 C.T et with
    | some ki,some ei=>match ki.u,frc (Wp ei) with
     | .str,some z=>some ⟨d,es,k,ok,z⟩
     | _,_=>none
    | _,_=>none
   | _,_=>none
  | _,_,_=>none
 | _,_,_=>none
def lkA (r:Option Row)(z:A)(ok:Bool):A:=
 match r,ok with
 | some cs,true=>.tup [Db cs,.d (.bool true)]
 | none,true=>.tup [z,.d (.bool false)]
 | some cs,false=>Db cs
 | none,false=>z
theorem T7 {P:Program}{w:World}{kt:Nat}(h:P.underlying kt=some .string)(b:Bool)(s:ByteArray):(Instr.checkKey b 10000 kt (.string s)).run P w = .ok () w:=by
 have key:∀ n,(Instr.checkKey b (n+1) kt (.string s)).run P w = .ok () w:=fun n=>by simp [Instr.checkKey,run_underlying h]
 exact key 9999
theorem Ee {P:Program}{w:World}{b:Nat}{ms:Array MapEntry}{cl:Nat}(h:w.heap[b]?=some (.map ms cl)):(getObj b).run P w = .ok (.map ms cl) w:=by
 simp [getObj,Sem.run,h]
theorem Hv {P:Program}{T:TT}(hT:TOk P T){t:Nat}{i:TI}(ht:Y1 T t=some i)(M:Mem)(G:Nat→Value):∃ z,(∀ w,(zeroValue t).run P w = .ok z w)∧N0 M G (Wp i) z:=by
 obtain ⟨z,h1,h2,h3⟩:=Bj (M:=M) (G:=G) hT ht
 refine ⟨z,h1,?_⟩
 unfold Wp
 cases hg:i.u.agg with
 | true=>
  rw [hg] at h3
  simp only [if_true] at h3
  obtain ⟨cs,rfl⟩:=h3
  exact .agg (by simpa [Value.cells] using h2.1) (fun n v hv=>h2.2.1 n v hv) fun n x v hx hv=>h2.2.2 n x v hx hv
 | false=>
  rw [hg] at h3
  simp only [Bool.false_eq_true,if_false] at h3
  simp only [cond_false,O2]
  split
  ·rename_i x hx
   exact h2.2.2 0 _ z (by rw [List.getElem?_map,hx]; rfl) (by rw [h3]; rfl)
  ·exact .junk
theorem D12 {C:Cx}{L:List Oper}{o:Oper}{env:Env}{H:I0}{r:Lk}(h:Ss C L o env H=some r):D1 L env o=some true∧G5 o=some r.d:=by
 unfold Ss at h
 split at h
 ·rename_i t x y ok d hw ho hd
  split at h
  ·split at h
   ·split at h
    ·split at h
     ·simp only [Option.some.injEq] at h
      subst h
      exact ⟨hw,hd⟩
     ·cases h
    ·cases h
   ·cases h
  ·cases h
 ·cases h
theorem Gw {C:Cx}(hC:L1 C){L:List Oper}{o:Oper}{env:Env}{H:I0}{d:Option Nat}{es:List (List UInt8×Row)}{k:List UInt8}{ok:Bool}{z:A}(h:Ss C L o env H=some ⟨d,es,k,ok,z⟩){r:Option Row}(hr:Q3 k es=r):E4 C o env H (lkA r z ok):=by
 intro M G w a next Qw hρ hG hgl hH hkk
 subst hr
 unfold Ss at h
 split at h
 ·rename_i t x y ok' d' hw ho hd
  rw [ho] at hρ
  split at h
  ·rename_i i p k' ht hx hy
   split at h
   ·rename_i kt et es' hu hp
    split at h
    ·rename_i ki ei hki hei
     split at h
     ·rename_i z' hku hz
      simp only [Option.some.injEq,Lk.mk.injEq] at h
      obtain ⟨rfl,rfl,rfl,rfl,rfl⟩:=h
      have hz':=Xe hz
      subst hz'
      have hxr:=hρ x (by simp [Op.operands])
      have hyr:=hρ y (by simp [Op.operands])
      rw [hx] at hxr
      rw [hy] at hyr
      generalize hxv:a.eval x=xv at hxr
      generalize hyv:a.eval y=yv at hyr
      cases hxr; rename_i b hgb
      cases hyr; rename_i hyr; cases hyr
      rename_i hkl
      rw [O2] at hp
      obtain ⟨b',ms,cl,g1,g2,g3,g4,g5,g6⟩:=hH.obj p _ hp
      have g3:=g3.trans (Dr es')
      have g4:=Tx g4
      rw [hgb] at g1
      simp at g1
      subst g1
      have hd:=Tf (hC.tok.facts ht) hu
      have hkd:=Ra (hC.tok.facts hki) hku
      obtain ⟨zv,hzr,hzrel⟩:=Hv hC.tok hei M G
      have hkeys:∀ (n:Nat) k' cs e,es'[n]?=some (k',cs)→ms.toList[n]?=some e→e.key = .string ⟨k'.toArray⟩:=fun n k' cs e a b=>by
       have:=(g4 n k' cs e a (by simpa using b)).1
       generalize e.key=ek at this
       cases this; rfl
      have key:∃ v,(Instr.lookup t (.map (some b)) (.string ⟨k'.toArray⟩) ok').run C.P w = .ok v w∧N0 M G (lkA (Q3 k' es') (Wp ei) ok') v:=by
       rcases Jj (k:=k') (i:=0) (by simpa using g3) hkeys with ⟨h1,h2,_⟩ | ⟨n,cs,e,h1,h2,h3,h4,_⟩
       ·refine ⟨if ok' then .tuple #[zv,.bool false] else zv,?_,?_⟩
        ·simp [Instr.lookup,run_underlying hd,Ee g2,T7 hkd,Instr.findKey,run_underlying hkd,h2,hzr w]
        ·rw [h1]
         cases ok' with
         | false=>simpa [lkA] using hzrel
         | true=>
          refine .tup rfl fun i x v hx hv=>?_
          match i with
          | 0=>simp at hx hv; subst hx; subst hv; exact hzrel
          | 1=>simp at hx hv; subst hx; subst hv; exact .d .bool
          | _+2=>simp at hx
       ·have hev:=(g4 n k' cs e h1 (by simpa using h3)).2
        refine ⟨if ok' then .tuple #[e.val,.bool true] else e.val,?_,?_⟩
        ·simp [Instr.lookup,run_underlying hd,Ee g2,T7 hkd,Instr.findKey,run_underlying hkd,h4]
        ·rw [h2]
         cases ok' with
         | false=>simpa [lkA] using hev
         | true=>
          refine .tup rfl fun i x v hx hv=>?_
          match i with
          | 0=>simp at hx hv; subst hx; subst hv; exact hev
          | 1=>simp at hx hv; subst hx; subst hv; exact .d .bool
          | _+2=>simp at hx
      obtain ⟨v,hv,hrel⟩:=key
      unfold Oper.wp execOp
      simp only [ho,hxv,hyv,Sem.run_bind,hv,Result.andThen_ok,Sem.run_pure,Oper.upon_value]
      exact hkk _ M w hrel hG (Ext.refl _ _ _)
     ·cases h
    ·cases h
   ·cases h
  ·cases h
 ·cases h
theorem F0.m {F:Fx}(hC:L1 F.C){L l:List Oper}{o:Oper}{env:Env}{H:I0}{Q:Env→I0→Prop}{d:Option Nat}{es:List (List UInt8×Row)}{k:List UInt8}{ok:Bool}{z:A}(h:Ss F.C L o env H=some ⟨d,es,k,ok,z⟩){r:Option Row}(hr:Q3 k es=r)
  (kk:F0 F L l (put env d (lkA r z ok)) H Q):F0 F L (o::l) env H Q:=by
 obtain ⟨h1,h2⟩:=D12 h
 refine .yields h1 (Gw hC h hr) ?_
 rw [J3 h2]
 exact kk
def T16 (L:List Oper)(o:Oper)(env:Env)(H:I0):Option (Option Nat×Nat×I0):=
 match D1 L env o,o.op,G5 o with
 | some true,.makeMap _ none,some d=>match Eg H (.map (.s [])) with | some (n,H')=>some (d,n,H') | none=>none
 | _,_,_=>none
theorem F0.w {F:Fx}{L l:List Oper}{o:Oper}{env:Env}{H H':I0}{Q:Env→I0→Prop}{d:Option Nat}{n:Nat}(h:T16 L o env H=some (d,n,H'))(k:F0 F L l (put env d (.mp n)) H' Q):F0 F L (o::l) env H Q:=by
 unfold T16 at h
 split at h
 ·rename_i t d' hw ho hd
  split at h
  ·rename_i n' H2 hp
   simp only [Option.some.injEq,Prod.mk.injEq] at h
   obtain ⟨rfl,rfl,rfl⟩:=h
   obtain ⟨rfl,rfl⟩:=Id hp
   refine L8 hw fun fr M G w a K Qw hK hdok hs hsi hk=>?_
   have hr:(execOp a.eval o).run F.C.P w = .ok (.value (.map (some w.heap.size))) (w.alloc (.map #[] 0)):=by
    unfold execOp
    simp only [ho,Instr.makeMap]
    rfl
   have hg:Good M (w.alloc (.map #[] 0)):=hs.good.alloc _
   unfold Oper.wp
   rw [hr]
   have hob:∀ G,Ja M G (w.alloc (.map #[] 0)) (.map (.s [])) (.map (some w.heap.size)):=fun G=>⟨w.heap.size,#[],0,rfl,heap_alloc_new w _,rfl,fun i k cs e h=>by simp [Jl.list] at h,.none,fun off sp=>by
    cases hM:M ⟨w.heap.size,off,sp⟩ with
    | none=>rfl
    | some v=>have:=hs.good.lt hM; simp at this⟩
   have hb:∀ b,blk (.map (.s [])) (.map (some w.heap.size))=some b→w.heap.size≤b:=fun b hb=>by simp [blk] at hb; omega
   refine hk (.mp H.length) env _ M (C6 G H.length (.map (some w.heap.size))) _ _ ?_ (hs.newOb (A3 hdok) (Vf I4 M w _) hg hob hb (.mp U2)) (hsi.newOb (Vf I4 M w _) hb)
   rw [J3 hd]
   exact k
  ·cases h
 ·cases h
def Ts:A→Option Row
 | .agg cs=>match Gu cs with
  | some [_]=>none
  | some r=>some r
  | none=>none
 | x=>match toD x with | some y=>some [y] | none=>none
theorem E12 {M:Mem}{G:Nat→Value}{x:A}{r:Row}{v:Value}(h:Ts x=some r)(hx:N0 M G x v):N0 M G (Db r) v:=by
 have single:∀ y,toD x=some y→N0 M G (Db [y]) v:=fun y hy=>.d (Fu hy hx)
 unfold Ts at h
 split at h
 ·rename_i cs
  split at h
  ·cases h
  ·rename_i r' hne hr
   simp only [Option.some.injEq] at h
   subst h
   obtain ⟨l1,l2⟩:=Cr hr
   have e:Db r' = .agg (r'.map .d):=by
    match r',hne with
    | [],_=>rfl
    | [x],hne=>exact absurd rfl (hne x)
    | _::_::_,_=>rfl
   rw [e]
   cases hx with
   | agg hl h1 h=>
    refine .agg (by simp; omega) h1 fun i y u hy hu=>?_
    rw [List.getElem?_map] at hy
    cases hz:r'[i]? with
    | none=>rw [hz] at hy; cases hy
    | some z=>
     rw [hz] at hy
     simp only [Option.map_some,Option.some.injEq] at hy
     subst hy
     obtain ⟨q,hq,hqz⟩:=l2 i z hz
     exact .d (Fu hqz (h i q u hq hu))
  ·cases h
 ·split at h
  ·rename_i y hy
   simp only [Option.some.injEq] at h
   subst h
   exact single y hy
  ·cases h
def Lw (C:Cx)(L:List Oper)(o:Oper)(env:Env)(H:I0):Option I0:=
 match D1 L env o,o.op,o.dst with
 | some true,.mapUpdate t x y z,none=>match Y1 C.T t,ev C.GL env x,ev C.GL env y,Ts (ev C.GL env z) with
  | some i,.mp p,.d (.str k),some cs=>match i.u,nth H p with
   | .map kt _,some (.map (.s es))=>match Y1 C.T kt with
    | some ki=>match ki.u with
     | .str=>De H p (.map (.s (mput k cs es)))
     | _=>none
    | none=>none
   | _,_=>none
  | _,_,_,_=>none
 | _,_,_=>none
theorem F0.u {F:Fx}(hC:L1 F.C){L l:List Oper}{o:Oper}{env:Env}{H H':I0}{Q:Env→I0→Prop}(h:Lw F.C L o env H=some H')(k:F0 F L l env H' Q):F0 F L (o::l) env H Q:=by
 unfold Lw at h
 split at h
 ·rename_i t x y z hw ho hdst
  split at h
  ·rename_i i p kk cs ht hx hy hz
   split at h
   ·rename_i kt et es hu hp
    split at h
    ·rename_i ki hki
     split at h
     ·rename_i hku
      have e1:=Hn h
      subst e1
      refine L8 hw fun fr M G w a K Qw hK hdok hs hsi hk=>?_
      have hxr:=hs.eval x
      have hyr:=hs.eval y
      have hzr:=E12 hz (hs.eval z)
      rw [hx] at hxr
      rw [hy] at hyr
      generalize hxv:a.eval x=xv at hxr
      generalize hyv:a.eval y=yv at hyr
      generalize hzv:a.eval z=zv at hzr
      cases hxr; rename_i b hgb
      cases hyr; rename_i hyr; cases hyr
      rename_i hkl
      rw [O2] at hp
      obtain ⟨b',ms,cl,g1,g2,g3,g4,g5,g6⟩:=hs.hrel.obj p _ hp
      have g3:=g3.trans (Dr es)
      have g4:=Tx g4
      rw [hgb] at g1
      simp at g1
      subst g1
      have hd:=Tf (hC.tok.facts ht) hu
      have hkd:=Ra (hC.tok.facts hki) hku
      have hblt:b < w.heap.size:=(Array.getElem?_eq_some_iff.1 g2).1
      have hkeys:∀ (n:Nat) k' cs e,es[n]?=some (k',cs)→ms.toList[n]?=some e→e.key = .string ⟨k'.toArray⟩:=fun n k' cs e a b=>by
       have:=(g4 n k' cs e a (by simpa using b)).1
       generalize e.key=ek at this
       cases this; rfl
      have hMb:∀ off sp,M ⟨b,off,sp⟩=none:=g6
      have key:∃ ms' cl',(Instr.mapUpdate t (.map (some b)) (.string ⟨kk.toArray⟩) zv).run F.C.P w = .ok () { w with heap:=w.heap.setIfInBounds b (.map ms' cl') }∧ms'.size=(mput kk cs es).length∧
        (∀ (i:Nat) k' cs' e,(mput kk cs es)[i]?=some (k',cs')→ms'[i]?=some e→B2 M (.str k') e.key∧N0 M G (Db cs') e.val)∧Kl ms' cl':=by
       have A8:∀ o',(setObj b o').run F.C.P w = .ok () { w with heap:=w.heap.setIfInBounds b o' }:=fun o'=>by simp [setObj,Sem.run,g2]
       rcases Jj (k:=kk) (i:=0) (by simpa using g3) hkeys with ⟨h1,h2,h3⟩ | ⟨n,cs0,e,h1,h2,h3,h4,h5⟩
       ·refine ⟨ms.push ⟨.string ⟨kk.toArray⟩,zv,cl⟩,cl+1,?_,by rw [h3]; simp [g3],fun i k' cs' e hi he=>?_,g5.push _ _⟩
        ·simp [Instr.mapUpdate,run_underlying hd,Ee g2,T7 hkd,Instr.findKey,run_underlying hkd,h2,A8]
        ·rw [h3] at hi
         rw [Array.getElem?_push] at he
         split at he
         ·rename_i hie
          simp only [Option.some.injEq] at he
          subst he
          rw [List.getElem?_append_right (by omega)] at hi
          have:i - es.length=0:=by omega
          rw [this] at hi
          simp at hi
          obtain ⟨rfl,rfl⟩:=hi
          exact ⟨.str hkl,hzr⟩
         ·rename_i hie
          have hlt:i < ms.size:=by have:=(Array.getElem?_eq_some_iff.1 he).1; omega
          rw [List.getElem?_append_left (by omega)] at hi
          exact g4 i k' cs' e hi he
       ·have hn:n < ms.size:=by simpa using (List.getElem?_eq_some_iff.1 h3).1
        have hmn:ms[n]?=some e:=by simpa using h3
        have hke:e.key = .string ⟨kk.toArray⟩:=hkeys n kk cs0 e h1 h3
        have hst:∀ w,(Instr.keyThatStays (.string ⟨kk.toArray⟩) (.string ⟨kk.toArray⟩)).run F.C.P w = .ok (.string ⟨kk.toArray⟩) w:=fun w=>by
         have:Instr.sameBits 10000 (.string ⟨kk.toArray⟩) (.string ⟨kk.toArray⟩)=true:=by
          show ((⟨kk.toArray⟩:ByteArray) == ⟨kk.toArray⟩)=true
          rw [S16]
          simp
         simp [Instr.keyThatStays,this]
        refine ⟨ms.modify n fun e=>{ e with key:=.string ⟨kk.toArray⟩,val:=zv },cl,?_,by rw [h5]; simp [g3],fun i k' cs' e' hi he=>?_,g5.modify _ _ fun _=>rfl⟩
        ·simp [Instr.mapUpdate,run_underlying hd,Ee g2,T7 hkd,Instr.findKey,run_underlying hkd,h4,hmn,hke,hst,A8]
        ·rw [h5,List.getElem?_set] at hi
         rw [Array.getElem?_modify] at he
         by_cases hin:n=i
         ·rw [if_pos hin] at he hi
          subst hin
          rw [hmn] at he
          simp only [Option.map_some,Option.some.injEq] at he
          subst he
          rw [if_pos (by omega)] at hi
          simp only [Option.some.injEq,Prod.mk.injEq] at hi
          obtain ⟨rfl,rfl⟩:=hi
          exact ⟨.str hkl,hzr⟩
         ·rw [if_neg hin] at he hi
          exact g4 i k' cs' e' hi he
      obtain ⟨ms',cl',k1,k2,k3,k4⟩:=key
      have hbk:blk (.map (.s es)) (G p)=some b:=by rw [hgb]; rfl
      have hbk':blk (.map (.s (mput kk cs es))) (G p)=some b:=by rw [hgb]; rfl
      have hext:Ext (fun c=>c=b) M w M { w with heap:=w.heap.setIfInBounds b (.map ms' cl') }:=
       ⟨fun _ _ e=>e,by simp,rfl,rfl,rfl,fun c _ hc=>by simp [Array.getElem?_setIfInBounds_ne (Ne.symm hc)],fun _ _ e=>.inl e⟩
      have hob:Ja M G { w with heap:=w.heap.setIfInBounds b (.map ms' cl') } (.map (.s (mput kk cs es))) (G p):=
       ⟨b,ms',cl',hgb,by simp [hblt],k2.trans (Dr _).symm,T13 k3,k4,g6⟩
      have hr:(execOp a.eval o).run F.C.P w = .ok .skip { w with heap:=w.heap.setIfInBounds b (.map ms' cl') }:=by
       unfold execOp
       simp only [ho,hxv,hyv,hzv,Sem.run_bind,k1,Result.andThen_ok,Sem.run_pure]
      unfold Oper.wp
      rw [hr]
      refine hk .junk env _ M G _ undef ?_ (hs.setOb (A3 hdok) hp hbk hbk' hext hMb hob .junk) (hsi.setOb hp hbk hbk' rfl hext)
      rw [hdst]
      exact k
     ·cases h
    ·cases h
   ·cases h
  ·cases h
 ·cases h
theorem LeA.int {k:IntKind}{n m:Int}(h:n=m):LeA (.d (.int k n)) (.d (.int k m)):=h ▸ .rfl
theorem LeA.bool {n m:Bool}(h:n=m):LeA (.d (.bool n)) (.d (.bool m)):=h ▸ .rfl
theorem LeA.str {n m:List UInt8}(h:n=m):LeA (.d (.str n)) (.d (.str m)):=h ▸ .rfl
theorem LeA.succ {k:Nat}(h:(k:Int) < 9223372036854775807):LeA (.d (.int .i64 ((k+1:Nat):Int))) (.d (.int .i64 (IntKind.i64.wrap ((k:Int)+1)))):=
 .int (by rw [Gx (by omega) (by omega)]; omega)
end Go.Am

namespace Go.Am
theorem F0.ofAQ {F:Fx}{L:List Oper}{l2:List Oper}{H:I0}{Q:Env→I0→Prop}:∀ {l1:List Oper} {env:Env},AQ F.C L l1 env H (fun e=>F0 F L l2 e H Q)→F0 F L (l1++l2) env H Q
 | [],env,h=>h
 | o::r,env,h=>by
  obtain ⟨d,x,rfl,hst,hr⟩:=h
  rcases hst with ⟨hw,hy⟩ | ⟨hw,rfl⟩
  ·exact .yields hw hy (F0.ofAQ hr)
  ·exact .skip hw (F0.ofAQ hr)
theorem AQ.mono {C:Cx}{L:List Oper}{H:I0}{Q Q':Env→Prop}(hq:∀ e,Q e→Q' e):∀ {l:List Oper} {env:Env},AQ C L l env H Q→AQ C L l env H Q'
 | [],_,h=>hq _ h
 | _::_,_,⟨d,x,h1,h2,h3⟩=>⟨d,x,h1,h2,AQ.mono hq h3⟩
theorem F0.leE {F:Fx}{L l:List Oper}{env env':Env}{H:I0}{Q:Env→I0→Prop}(he:∀ t,LeA (env' t) (env t))(k:F0 F L l env' H Q):F0 F L l env H Q:=by
 intro fr M G w a Qw hK hd hs hsi hq
 exact k fr M G w a Qw hK hd ⟨hs.good,hs.gl,hs.hrel,fun t=>(he t).rel (hs.env t),hs.size,hs.defers⟩ hsi hq
theorem AEx.regionQ {F:Fx}{id:Nat}{L:List Oper}{env:Env}{H:I0}{Q:Po}(n:Nat)(hd:L.all (F8 F.N)=true)(h:AQ F.C L (L.take n) env H (fun e=>F0 F L (L.drop n) e H (Cf Q))):AEx F (.region id L.toArray false) env H Q:=by
 refine .region hd ?_
 have:=F0.ofAQ h
 rwa [List.take_append_drop] at this
abbrev Cnd:=Nat→Option Bool
def F12:Cnd:=fun _=>none
def Re (env:Env)(cnd:Cnd):Env:=fun t=>match cnd t with | some false=>.tup [] | _=>env t
def Ux (env:Env)(cnd:Cnd):Env:=fun t=>match cnd t with | none=>env t | _=>.junk
def Z9 (cnd:Cnd)(d:Option Nat)(W:Option Bool):Cnd:=match d with | some t=>(fun i=>bif Nat.beq i t then W else cnd i) | none=>cnd
def holds:Option Bool→Prop
 | none=>True
 | some w=>w=true
def wb:Bool→Bool→Bool
 | b,true=>b
 | b,false=>!b
def Fe (L:List Oper)(env:Env)(cnd:Cnd)(o:Oper):Option (Option Bool):=
 match o.guard with
 | none=>some none
 | some (j,want)=>
  match nth L j with
  | some p=>match p.dst with
   | some d=>match env d,cnd d with
    | .d (.bool b),none=>some (some (wb b want))
    | .d (.bool b),some c=>some (some (c&&wb b want))
    | _,_=>none
   | none=>none
  | none=>none
def isW:Option Bool→Bool
 | none=>true
 | some w=>w
theorem N15 {L:List Oper}{env:Env}{cnd:Cnd}{o:Oper}{W:Option Bool}(h:Fe L env cnd o=some W):D1 L (Re env cnd) o=some (isW W):=by
 unfold Fe at h
 unfold D1
 split at h
 ·rename_i hg
  rw [hg]
  simp only [Option.some.injEq] at h
  subst h
  rfl
 ·rename_i j want hg
  rw [hg]
  simp only
  split at h
  ·rename_i p hp
   rw [hp]
   simp only
   split at h
   ·rename_i d hd
    rw [hd]
    simp only
    split at h
    ·rename_i b he hc
     simp only [Option.some.injEq] at h
     subst h
     simp only [Re,hc,he]
     cases b <;> cases want <;> rfl
    ·rename_i b c he hc
     simp only [Option.some.injEq] at h
     subst h
     cases c with
     | false=>simp only [Re,hc]; rfl
     | true=>
      simp only [Re,hc,he]
      cases b <;> cases want <;> rfl
    ·cases h
   ·cases h
  ·cases h
def AG (C:Cx)(L:List Oper):List Oper→Env→Cnd→I0→(Env→Cnd→Prop)→Prop
 | [],env,cnd,_,Q=>Q env cnd
 | o::r,env,cnd,H,Q=>∃ d W x,o.dst=d∧Fe L env cnd o=some W∧(holds W→E4 C o (Re env cnd) H x)∧AG C L r (put env d x) (Z9 cnd d W) H Q
theorem O15 {env:Env}{cnd:Cnd}{d:Option Nat}{W:Option Bool}{x:A}:Re (put env d x) (Z9 cnd d W)=put (Re env cnd) d (match W with | some false=>.tup [] | _=>x):=by
 cases d with
 | none=>rfl
 | some t=>
  funext i
  simp only [Re,Z9,put,upd]
  cases hb:Nat.beq i t with
  | true=>rcases W with _ | _ | _ <;> rfl
  | false=>rfl
theorem AG.aq {C:Cx}{L:List Oper}{H:I0}{Q:Env→Cnd→Prop}:∀ {l:List Oper} {env:Env} {cnd:Cnd},AG C L l env cnd H Q→AQ C L l (Re env cnd) H (fun e=>∃ env' cnd',e=Re env' cnd'∧Q env' cnd')
 | [],env,cnd,h=>⟨env,cnd,rfl,h⟩
 | o::r,env,cnd,⟨d,W,x,hd,hw,hy,hr⟩=>by
  have:=AG.aq hr
  rw [O15] at this
  have hww:=N15 hw
  refine ⟨d,_,hd,?_,this⟩
  rcases W with _ | _ | _
  ·exact .inl ⟨hww,hy trivial⟩
  ·exact .inr ⟨hww,rfl⟩
  ·exact .inl ⟨hww,hy rfl⟩
theorem Iv {env:Env}:Re env F12=env:=rfl
theorem U10 {env:Env}{cnd:Cnd}(t:Nat):LeA (Ux env cnd t) (Re env cnd t):=by
 unfold Ux Re
 cases cnd t with
 | none=>exact .rfl
 | some c=>exact .junk
theorem AEx.regionG {F:Fx}{id:Nat}{L:List Oper}{env:Env}{H:I0}{Q:Po}(n:Nat)(hd:L.all (F8 F.N)=true)(h:AG F.C L (L.take n) env F12 H (fun e c=>F0 F L (L.drop n) (Ux e c) H (Cf Q))):AEx F (.region id L.toArray false) env H Q:=by
 refine .regionQ n hd ?_
 have:=AG.aq h
 rw [Iv] at this
 refine this.mono fun e he=>?_
 obtain ⟨env',cnd',rfl,hq⟩:=he
 exact .leE U10 hq
theorem AEx.drawG {F:Fx}(hC:L1 F.C){id:Nat}{L:List Oper}{env:Env}{H:I0}{Q:Po}(n:Nat)(hd:L.all (F8 F.N)=true)(hok:Mo L n=true)(hnl:Nat.ble n L.length=true)
  (h:AG F.C L (L.take n) env F12 H (fun e c=>F0 F L (L.drop n) (Ux e c) H (Cf Q))):AEx F (.region id L.toArray true) env H Q:=by
 refine .draw hC n hd hok hnl ?_
 have:=AG.aq h
 rw [Iv] at this
 refine this.mono fun e he=>?_
 obtain ⟨env',cnd',rfl,hq⟩:=he
 exact .leE U10 hq
theorem AG.nil {C:Cx}{L:List Oper}{env:Env}{cnd:Cnd}{H:I0}{Q:Env→Cnd→Prop}(h:Q env cnd):AG C L [] env cnd H Q:=h
def Ta (cnd:Cnd):List Operand→Prop
 | []=>True
 | .tmp t::r=>match cnd t with
  | none=>Ta cnd r
  | some c=>c=true∧Ta cnd r
 | _::r=>Ta cnd r
theorem Eb {GL:GT}{env:Env}{cnd:Cnd}:∀ {l:List Operand},Ta cnd l→∀ y∈l,ev GL (Re env cnd) y=ev GL env y
 | .tmp t::r,h,y,hy=>by
  simp only [Ta] at h
  split at h
  ·rename_i hc
   cases hy with
   | head=>simp only [ev,Re,hc]
   | tail _ hy=>exact Eb h y hy
  ·rename_i c hc
   cases hy with
   | head=>simp only [ev,Re,hc,h.1]
   | tail _ hy=>exact Eb h.2 y hy
 | .const v::r,h,y,hy=>by
  cases hy with
  | head=>rfl
  | tail _ hy=>exact Eb (l:=r) h y hy
 | .global g::r,h,y,hy=>by
  cases hy with
  | head=>rfl
  | tail _ hy=>exact Eb (l:=r) h y hy
 | .func f::r,h,y,hy=>by
  cases hy with
  | head=>rfl
  | tail _ hy=>exact Eb (l:=r) h y hy
theorem E4.congr {C:Cx}{o:Oper}{env env':Env}{H:I0}{x:A}(h:E4 C o env H x)(he:∀ y∈o.op.operands,ev C.GL env' y=ev C.GL env y):E4 C o env' H x:=
 fun M G w a next Qw hρ=>h M G w a next Qw fun y hy=>by rw [← he y hy]; exact hρ y hy
def noG (o:Oper):Oper:={ o with guard:=none }
theorem E4.noG {C:Cx}{o:Oper}{env:Env}{H:I0}{x:A}(h:E4 C (noG o) env H x):E4 C o env H x:=h
def Vj (o:Oper):List Operand:=o.op.operands.toList
theorem AG.lift {C:Cx}{L l:List Oper}{o:Oper}{env:Env}{cnd:Cnd}{H:I0}{Q:Env→Cnd→Prop}{d:Option Nat}{W:Option Bool}{x:A}(hd:G5 o=some d)(hw:Fe L env cnd o=some W)(hs:holds W→Ta cnd (Vj o))(hy:holds W→E4 C (noG o) env H x)
  (k:AG C L l (put env d x) (Z9 cnd d W) H Q):AG C L (o::l) env cnd H Q:=
 ⟨d,W,x,J3 hd,hw,fun h=>(hy h).noG.congr fun y hy=>Eb (hs h) y (by simpa [Vj] using hy),k⟩
def Ai (C:Cx)(L:List Oper)(o:Oper)(env:Env)(cnd:Cnd)(H:I0):Option (Option Nat×Option Bool×Prop×Prop×A):=
 match Fe L env cnd o,opA C.T C.GL o.op env H with
 | some W,some (c,x)=>match frc x,G5 o with
  | some y,some d=>some (d,W,Ta cnd (Vj o),c,y)
  | _,_=>none
 | _,_=>none
theorem AG.q {C:Cx}(hC:L1 C){L l:List Oper}{o:Oper}{env:Env}{cnd:Cnd}{H:I0}{Q:Env→Cnd→Prop}{d:Option Nat}{W:Option Bool}{S c:Prop}{x:A}(h:Ai C L o env cnd H=some (d,W,S,c,x))(hs:holds W→S∧c)
  (k:AG C L l (put env d x) (Z9 cnd d W) H Q):AG C L (o::l) env cnd H Q:=by
 unfold Ai at h
 split at h
 ·rename_i W' c' x' hw ho
  split at h
  ·rename_i y d' hy hd
   simp only [Option.some.injEq,Prod.mk.injEq] at h
   obtain ⟨rfl,rfl,rfl,rfl,rfl⟩:=h
   obtain rfl:=Xe hy
   exact .lift hd hw (fun h=>(hs h).1) (fun h=>Uf hC (o:=noG o) ho (hs h).2) k
  ·cases h
 ·cases h
structure Pk where
 d:Option Nat
 W:Option Bool
 sc:Prop
 t:Bool
 sa:Prop
 sb:Prop
 xa:Bool
 xb:Bool
def Oo (C:Cx)(L:List Oper)(o:Oper)(env:Env)(cnd:Cnd):Option Pk:=
 match Fe L env cnd o,o.op,G5 o with
 | some W,.pick c a b,some d=>match ev C.GL env c,ev C.GL env a,ev C.GL env b with
  | .d (.bool t),.d (.bool xa),.d (.bool xb)=>some ⟨d,W,Ta cnd [c],t,Ta cnd [a],Ta cnd [b],xa,xb⟩
  | _,_,_=>none
 | _,_,_=>none
theorem AG.p {C:Cx}(hC:L1 C){L l:List Oper}{o:Oper}{env:Env}{cnd:Cnd}{H:I0}{Q:Env→Cnd→Prop}{d:Option Nat}{W:Option Bool}{sc sa sb:Prop}{t xa xb:Bool}(h:Oo C L o env cnd=some ⟨d,W,sc,t,sa,sb,xa,xb⟩)
  (hs:holds W→sc∧(t=true→sa)∧(t=false→sb)) (k:AG C L l (put env d (.d (.bool (bif t then xa else xb)))) (Z9 cnd d W) H Q):AG C L (o::l) env cnd H Q:=by
 unfold Oo at h
 split at h
 ·rename_i W' c a b d' hw ho hd
  split at h
  ·rename_i t' ya yb hc ha hb
   simp only [Option.some.injEq,Pk.mk.injEq] at h
   obtain ⟨rfl,rfl,rfl,rfl,rfl,rfl,rfl,rfl⟩:=h
   refine ⟨_,_,_,J3 hd,hw,fun h=>?_,k⟩
   obtain ⟨h1,h2,h3⟩:=hs h
   have ec:=Eb (GL:=C.GL) (env:=env) h1 c List.mem_cons_self
   refine Uf hC (c:=True) ?_ trivial
   rw [ho]
   simp only [opA,ec,hc,R1]
   cases t' with
   | true=>
    have ea:=Eb (GL:=C.GL) (env:=env) (h2 rfl) a List.mem_cons_self
    simp only [cond_true,ea,ha]
   | false=>
    have eb:=Eb (GL:=C.GL) (env:=env) (h3 rfl) b List.mem_cons_self
    simp only [cond_false,eb,hb]
  ·cases h
 ·cases h
def Us (C:Cx)(L:List Oper)(o:Oper)(env:Env)(cnd:Cnd):Option (Option Nat×Option Bool×Prop×FuncId×List A):=
 match Fe L env cnd o,V8 C.GL env o with
 | some W,some (f,xs)=>match Hc xs,G5 o with
  | some ys,some d=>some (d,W,Ta cnd (Vj o),f,ys)
  | _,_=>none
 | _,_=>none
theorem AG.c {C:Cx}{L l:List Oper}{o:Oper}{env:Env}{cnd:Cnd}{H:I0}{Q:Env→Cnd→Prop}{d:Option Nat}{W:Option Bool}{S:Prop}{f:FuncId}{xs:List A}{x:A}(h:Us C L o env cnd=some (d,W,S,f,xs))(hn:W1 0 xs=true)
  (hs:holds W→S) (hc:holds W→S0 C f xs [] (fun r H'=>H'=[]∧r=x)) (k:AG C L l (put env d x) (Z9 cnd d W) H Q):AG C L (o::l) env cnd H Q:=by
 unfold Us at h
 split at h
 ·rename_i W' f' xs' hw ho
  split at h
  ·rename_i ys d' hy hd
   simp only [Option.some.injEq,Prod.mk.injEq] at h
   obtain ⟨rfl,rfl,rfl,rfl,rfl⟩:=h
   obtain rfl:=Nb hy
   exact .lift hd hw hs (fun h=>Ph (o:=noG o) ho hn (hc h)) k
  ·cases h
 ·cases h
theorem AG.i {C:Cx}(hC:L1 C){L l:List Oper}{o:Oper}{env:Env}{cnd:Cnd}{H:I0}{Q:Env→Cnd→Prop}{d:Option Nat}{W:Option Bool}{rows:List (List D)}{n:Int}{sz:Nat}(hw:Fe L env cnd o=some W)(h:Cj C [] (noG o) env=some (d,rows,n,sz)){k:Nat}{r:List D}
  (hs:holds W→Ta cnd (Vj o)) (hk:holds W→n=k∧rows[k]?=some r∧Nat.beq r.length sz=true) (kk:AG C L l (put env d (.ptr r)) (Z9 cnd d W) H Q):AG C L (o::l) env cnd H Q:=by
 refine .lift (d:=d) (W:=W) ?_ hw hs (fun h'=>Gg hC h (hk h').1 (hk h').2.1 (hk h').2.2) kk
 obtain ⟨_,hd⟩:=Dj h
 unfold G5
 have:o.dst=d:=hd
 rw [this]
 cases d <;> rfl
theorem AG.x {C:Cx}(hC:L1 C){L l:List Oper}{o:Oper}{env:Env}{cnd:Cnd}{H:I0}{Q:Env→Cnd→Prop}{d:Option Nat}{W:Option Bool}{s:List UInt8}{n:Int}(hw:Fe L env cnd o=some W)(h:Cl C [] (noG o) env=some (d,s,n)){k:Nat}{b:UInt8}
  (hs:holds W→Ta cnd (Vj o)) (hk:holds W→n=k∧s[k]?=some b) (kk:AG C L l (put env d (.d (.int .u8 b.toNat))) (Z9 cnd d W) H Q):AG C L (o::l) env cnd H Q:=by
 refine .lift (d:=d) (W:=W) ?_ hw hs (fun h'=>Ml hC h (hk h').1 (hk h').2) kk
 have:=(Gj h).2
 exact this
theorem AG.split {C:Cx}{L l:List Oper}{env:Env}{cnd:Cnd}{H:I0}{Q:Env→Cnd→Prop}{b:Bool}(t:Nat)(hb:env t = .d (.bool b))(h1:b=true→AG C L l (upd env t (.d (.bool true))) cnd H Q)(h2:b=false→AG C L l (upd env t (.d (.bool false))) cnd H Q):AG C L l env cnd H Q:=by
 cases b with
 | true=>have:=h1 rfl; rwa [Ch hb] at this
 | false=>have:=h2 rfl; rwa [Ch hb] at this
theorem AG.b {C:Cx}(hC:L1 C){L l:List Oper}{o:Oper}{env:Env}{cnd:Cnd}{H:I0}{Q:Env→Cnd→Prop}{d:Option Nat}{rs:List Row}(h:Rh C L o env=some (d,rs))(hw:Fe L env cnd o=some none)(hs:Ta cnd (Vj o))(k:AG C L l (put env d (.full rs)) (Z9 cnd d none) H Q):AG C L (o::l) env cnd H Q:=
 ⟨d,none,_,J3 (Fj h).2,hw,fun _=>(Uj hC h).congr fun y hy=>Eb hs y (by simpa [Vj] using hy),k⟩
theorem B1a {t:Bool}(h:t=false):wb t false=true:=by subst h; rfl
theorem C1a {t:Bool}(h:t=true):wb t true=true:=by subst h; rfl
theorem O19 {c t:Bool}(h:c=true)(h':t=false):(c&&wb t false)=true:=by subst h; subst h'; rfl
def Kf:List Oper→Bool
 | []=>true
 | o::r=>o.guard.isNone&&Kf r
theorem AEx.regionN {F:Fx}{id:Nat}{L:List Oper}{env:Env}{H:I0}{Q:Po}(_hg:Kf L=true)(hd:L.all (F8 F.N)=true)(h:F0 F L L env H (Cf Q)):AEx F (.region id L.toArray false) env H Q:=.region hd h
theorem U13 {M:Mem}{w w':World}(h:Go.RowKit.Below w.heap.size w w'):Ext I4 M w M w':=
 ⟨fun _ _ e=>e,h.size,h.os,h.output,h.tape,fun b hb _=>h.block b hb,fun _ _ e=>.inl e⟩
theorem S0.ofBelow {C:Cx}{f:FuncId}{args:List A}{r:A}(hf:Gf C.P f=true)
  (h:∀ M G w (vs:Array Value),Good M w→Dg C M w→args.length=vs.size→(∀ (i:Nat) x v,args[i]?=some x→vs[i]?=some v→N0 M G x v)→
   ∃ v,(∀ M G,N0 M G r v)∧Calls C.P f vs w fun e w'=>e = .returned v∧Go.RowKit.Below w.heap.size w w'):S0 C f args [] (fun x H'=>H'=[]∧x=r):=by
 refine ⟨hf,fun M G w vs hg hgl hh hl hr=>?_⟩
 obtain ⟨v,hv,hc⟩:=h M G w vs hg hgl hl hr
 refine hc.mono fun e w' ⟨he,hb⟩=>?_
 have hext:Ext I4 M w M w':=U13 hb
 refine ⟨v,r,[],M,G,he,⟨rfl,rfl⟩,hv M G,?_,?_,hext.weaken (fun _ h=>h.elim),fun b hb=>.inl hb,Nat.le_refl _,fun o x ho=>by simp at ho⟩
 ·exact hg.ext hext fun _ _ _ h=>h.elim
 ·exact hh.ext hext fun _ _ h=>h
theorem Ln {args:List A}{vs:Array Value}{M:Mem}{G:Nat→Value}{s:List UInt8}{i:Nat}(hl:args.length=vs.size)(h:∀ (i:Nat) x v,args[i]?=some x→vs[i]?=some v→N0 M G x v)(hi:args[i]?=some (.d (.str s))) :
  vs[i]?=some (.string ⟨s.toArray⟩)∧s.length≤maxLen:=by
 have hlt:i < vs.size:=by rw [← hl]; exact (List.getElem?_eq_some_iff.1 hi).1
 have hv:vs[i]?=some vs[i]:=Array.getElem?_eq_getElem hlt
 have hr:=h i _ _ hi hv
 generalize vs[i]=v at hr hv
 cases hr; rename_i hr; cases hr
 exact ⟨hv,by assumption⟩
theorem P15 {args:List A}{vs:Array Value}{M:Mem}{G:Nat→Value}{k:IntKind}{n:Int}{i:Nat}(hl:args.length=vs.size)(h:∀ (i:Nat) x v,args[i]?=some x→vs[i]?=some v→N0 M G x v)(hi:args[i]?=some (.d (.int k n))) :
  vs[i]?=some (.int k n)∧InK k n:=by
 have hlt:i < vs.size:=by rw [← hl]; exact (List.getElem?_eq_some_iff.1 hi).1
 have hv:vs[i]?=some vs[i]:=Array.getElem?_eq_getElem hlt
 have hr:=h i _ _ hi hv
 generalize vs[i]=v at hr hv
 cases hr; rename_i hr; cases hr
 exact ⟨hv,by assumption⟩
theorem D1a {vs:Array Value}{a:Value}(hl:vs.size=1)(h0:vs[0]?=some a):vs = #[a]:=by
 apply Array.ext_getElem?
 intro i
 match i with
 | 0=>simpa using h0
 | i+1=>rw [Array.getElem?_eq_none (by omega),Array.getElem?_eq_none (by simp)]
theorem N18 {vs:Array Value}{a b:Value}(hl:vs.size=2)(h0:vs[0]?=some a)(h1:vs[1]?=some b):vs = #[a,b]:=by
 apply Array.ext_getElem?
 intro i
 match i with
 | 0=>simpa using h0
 | 1=>simpa using h1
 | i+2=>rw [Array.getElem?_eq_none (by omega),Array.getElem?_eq_none (by simp)]
theorem Xp {P:Program}{f:FuncId}{fn:Func}(hf:P.funcs[f]?=some fn)(hn:(fn.name == "runtime.NumGoroutine")=false)(hb:fn.body.isSome=true):Gf P f=true:=by simp [Gf,hf,hb,hn]
def Er:List A→Option (List A)
 | []=>some []
 | x::r=>match frc x,Er r with | some y,some r'=>some (y::r') | _,_=>none
theorem V10:∀ {l l':List A},Er l=some l'→l'=l
 | [],l',h=>by simp [Er] at h; exact h
 | x::r,l',h=>by
  simp only [Er] at h
  split at h
  ·rename_i y r' hy hr
   simp only [Option.some.injEq] at h
   rw [← h,Xe hy,V10 hr]
  ·cases h
def Aa:I0→Option I0
 | []=>some []
 | .row cs e::r=>match Er cs,Aa r with | some cs',some r'=>some (.row cs' e::r') | _,_=>none
 | .dead::r=>match Aa r with | some r'=>some (.dead::r') | none=>none
 | .bld o e::r=>match Aa r with | some r'=>some (.bld o e::r') | none=>none
 | .buf e sz::r=>match Aa r with | some r'=>some (.buf e sz::r') | none=>none
 | .tok e sz::r=>match Aa r with | some r'=>some (.tok e sz::r') | none=>none
 | .map es::r=>match Aa r with | some r'=>some (.map es::r') | none=>none
theorem Qb:∀ {H H':I0},Aa H=some H'→H'=H
 | [],H',h=>by simp [Aa] at h; exact h
 | .row cs e::r,H',h=>by
  simp only [Aa] at h
  split at h
  ·rename_i cs' r' hc hr
   simp only [Option.some.injEq] at h
   rw [← h,V10 hc,Qb hr]
  ·cases h
 | .dead::r,H',h=>by
  simp only [Aa] at h
  split at h
  ·rename_i r' hr
   simp only [Option.some.injEq] at h
   rw [← h,Qb hr]
  ·cases h
 | .bld o e::r,H',h=>by
  simp only [Aa] at h
  split at h
  ·rename_i r' hr
   simp only [Option.some.injEq] at h
   rw [← h,Qb hr]
  ·cases h
 | .buf e sz::r,H',h=>by
  simp only [Aa] at h
  split at h
  ·rename_i r' hr
   simp only [Option.some.injEq] at h
   rw [← h,Qb hr]
  ·cases h
 | .tok e sz::r,H',h=>by
  simp only [Aa] at h
  split at h
  ·rename_i r' hr
   simp only [Option.some.injEq] at h
   rw [← h,Qb hr]
  ·cases h
 | .map es::r,H',h=>by
  simp only [Aa] at h
  split at h
  ·rename_i r' hr
   simp only [Option.some.injEq] at h
   rw [← h,Qb hr]
  ·cases h
mutual
theorem Vx:∀ x:A,dg [] x=x
 | .osl _ _=>rfl
 | .clo _ cs=>by simp only [dg,Dm cs]
 | .bnd _ cs=>by simp only [dg,Dm cs]
 | .agg cs=>by simp only [dg,Dm cs]
 | .tup cs=>by simp only [dg,Dm cs]
 | .d _=>rfl
 | .junk=>rfl
 | .ref _ _=>rfl
 | .ptr _=>rfl
 | .full _=>rfl
 | .rsl _ _ _ _=>rfl
 | .mp _=>rfl
theorem Dm:∀ l:List A,dgL [] l=l
 | []=>rfl
 | x::r=>by simp only [dgL,Vx x,Dm r]
end
theorem F0.hc {F:Fx}{L l:List Oper}{o:Oper}{env:Env}{H H':I0}{Q:Env→I0→Prop}{d:Option Nat}{g:FuncId}{xs:List A}{x y:A}(idx:List Nat){cargs:List A}{cH cH':I0}
  (h:F7 F.C L o env=some (d,g,xs)) (hc:S0 F.C g cargs cH (fun r h=>h=cH'∧r=x)) (hx:Y9 (S2 idx H.length) cargs=xs) (hi:Bd idx H.length=true) (hm:Jd (S2 idx H.length) H idx cH) (ht:B3 idx cH=[])
  (hr:frc (ren (S2 idx H.length) x)=some y) (hH:Aa (B5 H idx (S2 idx H.length) [] cH')=some H') (k:F0 F L l (put env d y) H' Q):F0 F L (o::l) env H Q:=by
 refine .callH idx cargs cH h hx hi hm hc fun r c ⟨e1,e2⟩=>?_
 subst e1; subst e2
 have:(fun t=>dg (B3 idx cH) (env t))=env:=by funext t; rw [ht,Vx]
 rw [this,ht]
 have e3:=Qb hH
 have e4:=Xe hr
 subst e3; subst e4
 exact k
def Cut (F:Fx)(E:List (Nat×A))(H2:I0)(Q:Po):Po
 | .normal,e,h=>Wk F.K e h E H2
 | x,e,h=>Q x e h
theorem AEx.cut {F:Fx}{c b:Code}{env:Env}{H:I0}{Q:Po}(E:List (Nat×A))(H2:I0)(h:AEx F c env H (Cut F E H2 Q))(k:AEx F b (Sa E) H2 Q):AEx F c env H (Yq F b Q):=
 h.mono fun x e hh hq=>by
  cases x with
  | normal=>exact AEx.wk hq k
  | exit i=>exact hq
  | ret=>exact hq
end Go.Am

namespace Go.Am
def Wj (P:Program)(c:Code)(Q:Exit→Act→World→Prop)(a:Act)(w:World):Prop:=
 ∀ (b:Frame) (k:List Item) (cs:List Frame),∃ e a' w',Q e a' w'∧Arrives P (lone (b.at a (.code c :: .inLoop c::k)) cs w) b k cs e a' w'
theorem Wj.loop {P:Program}{c:Code}{Q:Exit→Act→World→Prop}{a:Act}{w:World}(h:Wj P c Q a w):(Code.loop c).wp P Q a w:=by
 intro b k cs
 obtain ⟨e,a',w',hq,harr⟩:=h b k cs
 exact ⟨e,a',w',hq,.of_steps (.one step_loop) harr⟩
theorem Wj.unroll {P:Program}{c:Code}{Q:Exit→Act→World→Prop}{a:Act}{w:World}(h:c.wp P (Exit.then (Wj P c Q) Q) a w):Wj P c Q a w:=by
 intro b k cs
 obtain ⟨e,a₁,w₁,hq,harr⟩:=h b (.inLoop c::k) cs
 cases e with
 | normal=>
  obtain ⟨e₂,a₂,w₂,hq₂,harr₂⟩:=hq b k cs
  exact ⟨e₂,a₂,w₂,hq₂,.of_steps (Steps.trans harr (.one step_inLoop)) harr₂⟩
 | exit id=>exact ⟨_,a₁,w₁,hq,.pass (x:=.inLoop c) rfl (fun _ _=>.inl (by simp)) harr⟩
 | goto l=>exact ⟨_,a₁,w₁,hq,.pass (x:=.inLoop c) rfl (fun _ _=>.inl (by simp)) harr⟩
 | ret=>exact ⟨_,a₁,w₁,hq,.pass (x:=.inLoop c) rfl (fun _ _=>.inl (by simp)) harr⟩
 | panic ch=>exact ⟨_,a₁,w₁,hq,.pass (x:=.inLoop c) rfl (fun _ _=>.inl (by simp)) harr⟩
 | outgrown=>exact ⟨_,a₁,w₁,hq,.pass (x:=.inLoop c) rfl (fun _ _=>.inl (by simp)) harr⟩
def Z0 (F:Fx)(c:Code)(env:Env)(H:I0)(Q:Po):Prop:=
 ∀ fr M G w a,fr.H0.length=F.K→St F.C F.N M G w env H a→O1 fr M G w H→Wj F.C.P c (Fin F fr Q) a w
def U16 (F:Fx)(c:Code)(Q:Po):Po
 | .normal,e,h=>Z0 F c e h Q
 | x,e,h=>Q x e h
theorem AEx.ofLoop {F:Fx}{c:Code}{env:Env}{H:I0}{Q:Po}(h:Z0 F c env H Q):AEx F (.loop c) env H Q:=
 fun fr M G w a hK hs hsi=>(h fr M G w a hK hs hsi).loop
theorem Z0.unroll {F:Fx}{c:Code}{env:Env}{H:I0}{Q:Po}(h:AEx F c env H (U16 F c Q)):Z0 F c env H Q:=by
 intro fr M G w act hK hs hsi
 refine Wj.unroll (wp_mono (h fr M G w act hK hs hsi) fun e a' w' he=>?_)
 rcases he with ⟨x,env',H',M',G',rfl,hq,hs',hsi'⟩ | ⟨v,env',H',M',G',rfl,hq⟩ | ⟨rfl | ⟨ch,rfl⟩,hq⟩
 ·cases x with
  | normal=>exact hq fr M' G' w' a' hK hs' hsi'
  | exit id=>exact .inl ⟨.exit id,_,_,_,_,rfl,hq,hs',hsi'⟩
  | ret=>exact .inl ⟨.ret,_,_,_,_,rfl,hq,hs',hsi'⟩
 ·exact .inr (.inl ⟨v,_,_,_,_,rfl,hq⟩)
 ·exact .inr (.inr ⟨.inl rfl,hq⟩)
 ·exact .inr (.inr ⟨.inr ⟨_,rfl⟩,hq⟩)
theorem Z0.wk {F:Fx}{c:Code}{env:Env}{H:I0}{Q:Po}{L:List (Nat×A)}{H2:I0}(hw:Wk F.K env H L H2)(h:Z0 F c (Sa L) H2 Q):Z0 F c env H Q:=by
 intro fr M G w act hK hs hsi
 exact h fr M _ w act hK (hw.st hs) (hw.since hK hsi)
def Bi (f:Func):Code:=match f.body with | some c=>c | none=>.skip
def sl:Code→Code | .seq a _=>a | c=>c
def sr:Code→Code | .seq _ b=>b | c=>c
def ca:Code→Code | .cond _ a _=>a | c=>c
def cb:Code→Code | .cond _ _ b=>b | c=>c
def bk:Code→Code | .block _ c=>c | c=>c
def lo:Code→Code | .loop c=>c | c=>c
theorem bind_some {α β:Type}{x:Option α}{f:α→Option β}{r:β}(h:(x>>=f)=some r):∃ a,x=some a∧f a=some r:=by
 cases x with
 | none=>cases h
 | some a=>exact ⟨a,rfl,h⟩
theorem Ac {α:Type}{p:Prop}[Decidable p]{x:Option α}{r:α}(h:(if decide p=true then x else none)=some r):p∧x=some r:=by
 by_cases hp:p
 ·rw [if_pos (decide_eq_true hp)] at h; exact ⟨hp,h⟩
 ·rw [if_neg (by simpa using hp)] at h; cases h
theorem Wx {α:Type}{w:Bool}{p:Prop}[Decidable p]{x:Option α}{r:α}(h:(if (!w||decide p)=true then x else none)=some r):(w=true→p)∧x=some r:=by
 by_cases hp:(!w||decide p)=true
 ·rw [if_pos hp] at h
  exact ⟨fun hw=>by subst hw; simpa using hp,h⟩
 ·rw [if_neg hp] at h; cases h
theorem Ba {α:Type}{b:Bool}{x y:Option α}{r:α}(hb:b=true)(h:(if b=true then x else y)=some r):x=some r:=by rw [if_pos hb] at h; exact h
theorem E1a {α:Type}{b:Bool}{x y:Option α}{r:α}(hb:b=false)(h:(if b=true then x else y)=some r):y=some r:=by rw [if_neg (by rw [hb]; decide)] at h; exact h
abbrev Str:=List UInt8
def idx {α:Type}(l:List α)(n:Int):Option α:=if 0≤n then l[n.toNat]? else none
theorem H5 {α:Type}{l:List α}{n:Int}{x:α}(h:idx l n=some x):n=(n.toNat:Int):=by
 unfold idx at h
 split at h
 ·omega
 ·cases h
theorem Pa {α:Type}{l:List α}{n:Int}{x:α}(h:idx l n=some x):l[n.toNat]?=some x:=by
 unfold idx at h
 split at h
 ·exact h
 ·cases h
def slc {α:Type}(l:List α)(a b:Int):Option (List α):=if 0≤a∧a≤b∧b≤l.length then some ((l.take b.toNat).drop a.toNat) else none
theorem Dl {α:Type}{l x:List α}{a b:Int}(h:slc l a b=some x):a=(a.toNat:Int)∧b=(b.toNat:Int)∧a.toNat≤b.toNat∧b.toNat≤l.length∧x=(l.take b.toNat).drop a.toNat:=by
 unfold slc at h
 split at h
 ·cases h; exact ⟨by omega,by omega,by omega,by omega,rfl⟩
 ·cases h
theorem S17 {a b a' b' n:Nat}(ha:a'=a)(hb:b'=b)(h:(a+b) * n≤140737488355328):(a'+b') * n≤140737488355328:=by subst ha; subst hb; exact h
def mgt {α:Type}(k:Str):List (Str×α)→Option α
 | []=>none
 | (k',x)::r=>bif k == k' then some x else mgt k r
def mpt {α:Type}(k:Str)(x:α):List (Str×α)→List (Str×α)
 | []=>[(k,x)]
 | (k',y)::r=>bif k == k' then (k,x)::r else (k',y)::mpt k x r
section
variable {α:Type}{f:α→Row}{g:List α→List Row}{h:α→A}
theorem G7 (hg:∀ l,g l=l.map f){l:List α}{n:Int}{x:α}(h:idx l n=some x):(g l)[n.toNat]?=some (f x):=by simp [hg,Pa h]
theorem H7 (hg:∀ l,g l=l.map f)(l m:List α):g (l++m)=g l++g m:=by simp [hg]
theorem M6 (hg:∀ l,g l=l.map f)(l:List α):(g l).length=l.length:=by simp [hg]
theorem D6 (hg:∀ l,g l=l.map f)(l:List α):A.d (.int .i64 ((g l).length:Nat))=A.d (.int .i64 (l.length:Nat)):=by simp [hg]
theorem O8 (hg:∀ l,g l=l.map f){n:Nat}(hn:∀ x,(f x).length=n)(l:List α):∀ r∈g l,r.length=n:=by
 intro r hr
 rw [hg] at hr
 obtain ⟨x,_,rfl⟩:=List.mem_map.1 hr
 exact hn x
theorem E6 (hg:∀ l,g l=l.map f){l x:List α}{a b:Int}(h:slc l a b=some x):a=(a.toNat:Int)∧b=(b.toNat:Int)∧a.toNat≤b.toNat∧b.toNat≤(g l).length∧g x=((g l).take b.toNat).drop a.toNat:=by
 obtain ⟨h1,h2,h3,h4,rfl⟩:=Dl h
 exact ⟨h1,h2,h3,by rw [M6 hg]; exact h4,by simp [hg]⟩
def J5 (f:α→Row)(m:List (Str×α)):List (Str×Row):=m.map fun p=>(p.1,f p.2)
theorem Gr (f:α→Row)(k:Str):∀ m:List (Str×α),Q3 k (J5 f m)=(mgt k m).map f
 | []=>rfl
 | (k',x)::r=>by
  show (bif k == k' then some (f x) else Q3 k (J5 f r))=(bif k == k' then some x else mgt k r).map f
  rw [Gr f k r]
  cases k == k' <;> rfl
theorem N6 (f:α→Row)(k:Str)(x:α):∀ m:List (Str×α),J5 f (mpt k x m)=mput k (f x) (J5 f m)
 | []=>rfl
 | (k',y)::r=>by
  show J5 f (bif k == k' then (k,x)::r else (k',y)::mpt k x r)=(bif k == k' then (k,f x)::J5 f r else (k',f y)::mput k (f x) (J5 f r))
  rw [← N6 f k x r]
  cases k == k' <;> rfl
theorem Ig (hf:∀ x,Db (f x)=h x){z:α}{za:A}(hz:za=h z){k:Str}{m:List (Str×α)}{x:Option α}(hx:some (mgt k m)=some x):lkA (Q3 k (J5 f m)) za true = .tup [h (x.getD z),.d (.bool x.isSome)]:=by
 cases hx
 rw [Gr]
 cases mgt k m with
 | none=>simp [lkA,hz]
 | some y=>simp [lkA,hf]
theorem Cd {z:α}{za:A}(hz:za=h z){x:Option α}(hx:some none=some x):lkA none za true = .tup [h (x.getD z),.d (.bool x.isSome)]:=by cases hx; simp [lkA,hz]
theorem Dd {z:α}{za:A}(hz:za=h z){x:Option α}(hx:some none=some x):lkA none za false=h (x.getD z):=by cases hx; simp [lkA,hz]
theorem Jg (hf:∀ x,Db (f x)=h x){z:α}{za:A}(hz:za=h z){k:Str}{m:List (Str×α)}{x:Option α}(hx:some (mgt k m)=some x):lkA (Q3 k (J5 f m)) za false=h (x.getD z):=by
 cases hx
 rw [Gr]
 cases mgt k m with
 | none=>simp [lkA,hz]
 | some y=>simp [lkA,hf]
end
theorem F0.qe {F:Fx}(hC:L1 F.C){L l:List Oper}{o:Oper}{env:Env}{H:I0}{Q:Env→I0→Prop}{d:Option Nat}{c:Prop}{x y:A}(h:K9 F.C L o env H=some (d,c,x))(hc:c)(e:x=y)
  (k:F0 F L l (put env d y) H Q):F0 F L (o::l) env H Q:=by subst e; exact .q hC h hc k
theorem AQ.qe {C:Cx}(hC:L1 C){L l:List Oper}{o:Oper}{env:Env}{H:I0}{Q:Env→Prop}{d:Option Nat}{c:Prop}{x y:A}(h:K9 C L o env H=some (d,c,x))(hc:c)(e:x=y)(k:AQ C L l (put env d y) H Q):AQ C L (o::l) env H Q:=by
 subst e; exact .q hC h hc k
theorem AG.qe {C:Cx}(hC:L1 C){L l:List Oper}{o:Oper}{env:Env}{cnd:Cnd}{H:I0}{Q:Env→Cnd→Prop}{d:Option Nat}{W:Option Bool}{S c:Prop}{x y:A}(h:Ai C L o env cnd H=some (d,W,S,c,x))(hs:holds W→S∧c)(e:x=y)
  (k:AG C L l (put env d y) (Z9 cnd d W) H Q):AG C L (o::l) env cnd H Q:=by subst e; exact .q hC h hs k
theorem F0.lx {F:Fx}(hC:L1 F.C){L l:List Oper}{o:Oper}{env:Env}{H:I0}{Q:Env→I0→Prop}{d:Option Nat}{s x:List UInt8}{lo hi:Int}(h:Hj F.C L o env=some (d,s,lo,hi))(hx:slc s lo hi=some x)
  (kk:F0 F L l (put env d (.d (.str x))) H Q):F0 F L (o::l) env H Q:=by
 obtain ⟨h1,h2,h3,h4,rfl⟩:=Dl hx
 exact .l hC h h1 h2 h3 h4 kk
theorem AQ.lx {C:Cx}(hC:L1 C){L l:List Oper}{o:Oper}{env:Env}{H:I0}{Q:Env→Prop}{d:Option Nat}{s x:List UInt8}{lo hi:Int}(h:Hj C L o env=some (d,s,lo,hi))(hx:slc s lo hi=some x)
  (kk:AQ C L l (put env d (.d (.str x))) H Q):AQ C L (o::l) env H Q:=by
 obtain ⟨h1,h2,h3,h4,rfl⟩:=Dl hx
 exact .l hC h h1 h2 h3 h4 kk
theorem F0.ap {F:Fx}(hC:L1 F.C){L l:List Oper}{o:Oper}{env:Env}{H:I0}{Q:Env→I0→Prop}{d:Option Nat}{p:Nat}{nw:Bool}{rows news rs:List Row}{sz bytes:Nat}{H':I0}
  (h:A12 F.C L o env H=some ⟨d,p,nw,rows,news,sz,bytes,H'⟩) (e:rs=rows++news) (h1:∀ r∈rows,r.length=sz) (h2:∀ r∈news,r.length=sz) (h3:(rows.length+news.length) * (bytes+1)≤140737488355328)
  (k:F0 F L l (put (bif nw then env else fun t=>dg [p] (env t)) d (.osl p rs)) H' Q):F0 F L (o::l) env H Q:=by subst e; exact .a hC h h1 h2 h3 k
def Xx (C:Cx)(L:List Oper)(o:Oper)(env:Env)(H:I0):Option (Nat×List UInt8×Row×List (List UInt8×Row)):=
 match D1 L env o,o.op,o.dst with
 | some true,.mapUpdate t x y z,none=>match Y1 C.T t,ev C.GL env x,ev C.GL env y,Ts (ev C.GL env z) with
  | some i,.mp p,.d (.str k),some cs=>match i.u,nth H p with
   | .map kt _,some (.map (.s es))=>match Y1 C.T kt with
    | some ki=>match ki.u with
     | .str=>some (p,k,cs,es)
     | _=>none
    | none=>none
   | _,_=>none
  | _,_,_,_=>none
 | _,_,_=>none
theorem V13 {C:Cx}{L:List Oper}{o:Oper}{env:Env}{H:I0}{p:Nat}{k:List UInt8}{cs:Row}{es:List (List UInt8×Row)}(h:Xx C L o env H=some (p,k,cs,es)){H':I0}(h':De H p (.map (.s (mput k cs es)))=some H'):Lw C L o env H=some H':=by
 unfold Xx at h
 unfold Lw
 split at h
 ·split at h
  ·split at h
   ·split at h
    ·split at h
     ·simp only [Option.some.injEq,Prod.mk.injEq] at h
      obtain ⟨rfl,rfl,rfl,rfl⟩:=h
      simp_all only
     ·cases h
    ·cases h
   ·cases h
  ·cases h
 ·cases h
theorem F0.ue {F:Fx}(hC:L1 F.C){L l:List Oper}{o:Oper}{env:Env}{H H':I0}{Q:Env→I0→Prop}{p:Nat}{k:List UInt8}{cs:Row}{es es2:List (List UInt8×Row)}(h:Xx F.C L o env H=some (p,k,cs,es))(e:mput k cs es=es2)(h':De H p (.map (.s es2))=some H')
  (kk:F0 F L l env H' Q):F0 F L (o::l) env H Q:=by subst e; exact .u hC (V13 h h') kk
theorem F0.be {F:Fx}(hC:L1 F.C){L l:List Oper}{o:Oper}{env:Env}{H:I0}{Q:Env→I0→Prop}{d:Option Nat}{rs rs':List Row}(h:Rh F.C L o env=some (d,rs))(e:rs=rs')(k:F0 F L l (put env d (.full rs')) H Q):F0 F L (o::l) env H Q:=by subst e; exact .b hC h k
theorem AQ.be {C:Cx}(hC:L1 C){L l:List Oper}{o:Oper}{env:Env}{H:I0}{Q:Env→Prop}{d:Option Nat}{rs rs':List Row}(h:Rh C L o env=some (d,rs))(e:rs=rs')(k:AQ C L l (put env d (.full rs')) H Q):AQ C L (o::l) env H Q:=by subst e; exact .b hC h k
theorem AG.be {C:Cx}(hC:L1 C){L l:List Oper}{o:Oper}{env:Env}{cnd:Cnd}{H:I0}{Q:Env→Cnd→Prop}{d:Option Nat}{rs rs':List Row}(h:Rh C L o env=some (d,rs))(e:rs=rs')(hw:Fe L env cnd o=some none)(hs:Ta cnd (Vj o))(k:AG C L l (put env d (.full rs')) (Z9 cnd d none) H Q):AG C L (o::l) env cnd H Q:=by subst e; exact .b hC h hw hs k
theorem Xj {C:Cx}{o:Oper}{env:Env}{H:I0}{f:FuncId}{xs ys:List A}{x:A}(ha:V8 C.GL env o=some (f,xs))(hle:LeL ys xs)(hn:W1 0 ys=true)(hc:S0 C f ys [] (fun r H'=>H'=[]∧r=x)):E4 C o env H x:=by
 intro M G w a next Qw hρ hG hgl hH hk
 obtain ⟨vs,h1,h2,h3⟩:=Oh ha hρ hc.1
 unfold Oper.wp
 rw [h1 w]
 refine (Gn hn hc hG hgl (hle.spec.1.trans h2) (hle.rels h3)).mono fun e w' he=>?_
 obtain ⟨v,r,M',rfl,rfl,g1,g2,g3⟩:=he
 exact hk v M' w' (g1 G) g2 g3
theorem F0.cl {F:Fx}{L l:List Oper}{o:Oper}{env:Env}{H:I0}{Q:Env→I0→Prop}{d:Option Nat}{f:FuncId}{xs ys:List A}{x:A}(h:F7 F.C L o env=some (d,f,xs))(hc:S0 F.C f ys [] (fun r H'=>H'=[]∧r=x))(hle:LeL ys xs)(hn:W1 0 ys=true)
  (k:F0 F L l (put env d x) H Q):F0 F L (o::l) env H Q:=by
 obtain ⟨h1,h2,rfl⟩:=G8 h
 exact .yields h1 (Xj h2 hle hn hc) k
theorem AQ.cl {C:Cx}{L l:List Oper}{o:Oper}{env:Env}{H:I0}{Q:Env→Prop}{d:Option Nat}{f:FuncId}{xs ys:List A}{x:A}(h:F7 C L o env=some (d,f,xs))(hc:S0 C f ys [] (fun r H'=>H'=[]∧r=x))(hle:LeL ys xs)(hn:W1 0 ys=true)
  (k:AQ C L l (put env d x) H Q):AQ C L (o::l) env H Q:=by
 obtain ⟨h1,h2,rfl⟩:=G8 h
 exact ⟨_,x,rfl,.inl ⟨h1,Xj h2 hle hn hc⟩,k⟩
theorem AG.cl {C:Cx}{L l:List Oper}{o:Oper}{env:Env}{cnd:Cnd}{H:I0}{Q:Env→Cnd→Prop}{d:Option Nat}{W:Option Bool}{S:Prop}{f:FuncId}{xs ys:List A}{x:A}(h:Us C L o env cnd=some (d,W,S,f,xs))(hc:holds W→S0 C f ys [] (fun r H'=>H'=[]∧r=x))(hle:LeL ys xs)(hn:W1 0 ys=true)
  (hs:holds W→S) (k:AG C L l (put env d x) (Z9 cnd d W) H Q):AG C L (o::l) env cnd H Q:=by
 unfold Us at h
 split at h
 ·rename_i W' f' xs' hw ha
  split at h
  ·rename_i ys' d' hz hd
   simp only [Option.some.injEq,Prod.mk.injEq] at h
   obtain ⟨rfl,rfl,rfl,rfl,rfl⟩:=h
   have:=Nb hz
   subst this
   exact .lift hd hw hs (fun hW=>(Xj (o:=noG o) ha hle hn (hc hW))) k
  ·cases h
 ·cases h
theorem F0.g {F:Fx}{L l:List Oper}{o:Oper}{env:Env}{H H':I0}{Q:Env→I0→Prop}{d:Option Nat}{g:FuncId}{xs:List A}{x y:A}(idx:List Nat){cargs:List A}{cH cH':I0}
  (h:F7 F.C L o env=some (d,g,xs)) (hc:S0 F.C g cargs cH (fun r h=>h=cH'∧r=x)) (hx:LeL (Y9 (S2 idx H.length) cargs) xs) (hi:Bd idx H.length=true) (hm:Jd (S2 idx H.length) H idx cH)
  (hr:frc (ren (S2 idx H.length) x)=some y) (hH:Aa (B5 H idx (S2 idx H.length) (B3 idx cH) cH')=some H') (k:F0 F L l (put (fun t=>dg (B3 idx cH) (env t)) d y) H' Q):F0 F L (o::l) env H Q:=by
 refine .callHL idx cargs cH h hx hi hm hc fun r c ⟨e1,e2⟩=>?_
 subst e1; subst e2
 have e3:=Qb hH
 have e4:=Xe hr
 subst e3; subst e4
 exact k
def zf:D→A
 | .sl []=>.full []
 | x=>.d x
theorem O18 {M:Mem}{G:Nat→Value}{x:D}{v:Value}(h:zB v x=true):N0 M G (zf x) v:=by
 have h':=Fc h M
 unfold zf
 split
 ·unfold zB at h
  split at h <;> first | contradiction | skip
  exact .full .slnil trivial
 ·exact .d h'
theorem Oq {P:Program}{M:Mem}{G:Nat→Value}{T:TT}(hT:TOk P T){t:Nat}{i:TI}(ht:Y1 T t=some i):∃ z,(∀ w,(zeroValue t).run P w = .ok z w)∧V9 M G (i.zero.map zf) z.cells:=by
 obtain ⟨j,h1,h2,h3,z,h4,h5,h6,h7⟩:=(hT.facts ht).info
 refine ⟨z,fun w=>by simp [zeroValue,typeInfo,h1,h4],by simpa using h5.symm,fun n v hv=>?_,fun n x v hx hv=>?_⟩
 ·have hlt:n < i.zero.length:=by rw [← h5]; simpa using (Array.getElem?_eq_some_iff.1 hv).1
  exact (Fc (h6 n v _ hv (List.getElem?_eq_getElem hlt)) M).one
 ·rw [List.getElem?_map] at hx
  cases hz:i.zero[n]? with
  | none=>rw [hz] at hx; cases hx
  | some y=>
   rw [hz] at hx
   simp only [Option.map_some,Option.some.injEq] at hx
   subst hx
   exact O18 (h6 n v y hv hz)
def W13 (C:Cx)(L:List Oper)(o:Oper)(env:Env)(H:I0):Option (Option Nat×Nat×I0):=
 match D1 L env o,o.op with
 | some true,.alloc t=>match Y1 C.T t with
  | some i=>match Hc (i.zero.map zf) with
   | some cs=>match Eg H (.row cs t),G5 o with | some (n,H'),some d=>some (d,n,H') | _,_=>none
   | none=>none
  | none=>none
 | _,_=>none
theorem F0.nf {F:Fx}(hC:L1 F.C){L l:List Oper}{o:Oper}{env:Env}{H H':I0}{Q:Env→I0→Prop}{d:Option Nat}{n:Nat}(h:W13 F.C L o env H=some (d,n,H'))
  (k:F0 F L l (put env d (.ref n 0)) H' Q):F0 F L (o::l) env H Q:=by
 unfold W13 at h
 split at h
 ·rename_i t hw ho
  split at h
  ·rename_i i ht
   split at h
   ·rename_i cs hcs
    split at h
    ·rename_i n' H2 d' hp hd
     simp only [Option.some.injEq,Prod.mk.injEq] at h
     obtain ⟨rfl,rfl,rfl⟩:=h
     obtain ⟨rfl,rfl⟩:=Id hp
     have:=Nb hcs
     subst this
     refine L8 hw fun fr M G w a K Qw hK hd' hs hsi hk=>?_
     obtain ⟨z,h1,h2⟩:=Oq (M:=M) (G:=G) hC.tok ht
     have hr:(execOp a.eval o).run F.C.P w = .ok (.value (.pointer (some ⟨w.heap.size,0,none⟩))) (w.alloc (.cells z.cells t)):=by
      unfold execOp
      simp [ho,Instr.alloc,h1,newVar,newRow]
     unfold Oper.wp
     rw [hr]
     rw [← J3 hd] at k
     exact hk _ _ _ _ _ _ _ k (hs.newRow (A3 hd') h2) (O1.newRow hsi)
    ·cases h
   ·cases h
  ·cases h
 ·cases h
def V16 (C:Cx)(L:List Oper)(o:Oper)(env:Env):Option (Option Nat×List Row):=
 match D1 L env o,o.op,G5 o with
 | some true,.binOp .eql t x (.const (.slice none 0 0)) _,some d=>match Y1 C.T t,We (ev C.GL env x) with
  | some i,some rows=>match i.u with
   | .sl _=>some (d,rows)
   | _=>none
  | _,_=>none
 | _,_,_=>none
theorem F0.z {F:Fx}(hC:L1 F.C){L l:List Oper}{o:Oper}{env:Env}{H:I0}{Q:Env→I0→Prop}{d:Option Nat}{rows:List Row}(h:V16 F.C L o env=some (d,rows))(k:∀ b:Bool,(b=true→rows=[])→F0 F L l (put env d (.d (.bool b))) H Q):F0 F L (o::l) env H Q:=by
 unfold V16 at h
 split at h
 ·rename_i t x yt d' hw ho hd
  split at h
  ·rename_i i rows ht hr
   split at h
   ·rename_i e hu
    simp only [Option.some.injEq,Prod.mk.injEq] at h
    obtain ⟨rfl,rfl⟩:=h
    refine L8 hw fun fr M G w a K Qw hK hdok hs hsi hk=>?_
    have hx:=J9 hr (hs.eval x)
    have hdd:=U8 (hC.tok.facts ht) hu
    have he:a.eval (.const (.slice none 0 0)) = .slice none 0 0:=rfl
    have key:∃ b:Bool,(b=true→rows=[])∧(execOp a.eval o).run F.C.P w = .ok (.value (.bool b)) w:=by
     generalize hv:a.eval x=v at hx
     have dd:∀ (v:Value) (b:Bool),(∀ n,(Op.equalIn (n+1) t v (.slice none 0 0)).run F.C.P w = .ok b w)→binOp .eql t v (.slice none 0 0)=(do pure (.bool (← Op.equal t v (.slice none 0 0))))→binOp .neq t v (.slice none 0 0)=(do pure (.bool (!(← Op.equal t v (.slice none 0 0)))))→
       v≠.nilIface→(∀ u,v≠.agg u)→a.eval x=v→(execOp a.eval o).run F.C.P w = .ok (.value (.bool b)) w:=fun v b e1 e2 e3 e4 e5 e6=>by
      obtain ⟨u,hu1,hu2⟩:=Oa (P:=F.C.P) (M:=M) (G:=G) (w:=w) (op:=.eql) (neg:=false) (.inl ⟨rfl,rfl⟩) b e1 e2 e3
      have hub:u = .bool b:=by cases hu2; rename_i hh; cases hh; rfl
      subst hub
      unfold execOp
      simp only [ho,e6,he,Sem.run_bind,Bs e4 e5,Result.andThen_ok,hu1,Sem.run_pure]
     cases hx with
     | slnil=>exact ⟨true,fun _=>rfl,dd _ true (fun n=>by simp [Op.equalIn,run_underlying hdd]) rfl rfl (by simp) (by simp) hv⟩
     | sl sz E1 hl hc hm hs' hz h1 h2=>exact ⟨false,(fun h=>by cases h),dd _ false (fun n=>by simp [Op.equalIn,run_underlying hdd]) rfl rfl (by simp) (by simp) hv⟩
    obtain ⟨b,hnil,hb⟩:=key
    unfold Oper.wp
    rw [hb]
    have kb:=k b hnil
    rw [← J3 hd] at kb
    exact hk _ _ _ _ _ _ _ kb (hs.quiet (A3 hdok) (.d .bool) hs.good (Ext.refl _ _ _)) (hsi.quiet (Ext.refl _ _ _))
   ·cases h
  ·cases h
 ·cases h
theorem F0.tokE {F:Fx}{L l:List Oper}{env:Env}{H:I0}{Q:Env→I0→Prop}(t e sz:Nat){rows:List Row}(h:env t = .full rows)(k:F0 F L l (upd env t (.osl H.length rows)) (H++[.tok e sz]) Q):F0 F L l env H Q:=by
 intro fr M G w a Qw hK hd hs hsi hq
 have hr:=hs.env t
 rw [h] at hr
 generalize hv:a.tmps.getD t undef=v at hr
 cases hr
 rename_i hf hrd
 obtain ⟨t1,t2⟩:=Ll (G:=G) (w:=w) hrd hf e sz
 have hsi':=hsi.newTok (Ext.refl I4 M w) (e:=e) (sz:=sz) (v':=v) fun b hb=>absurd hb (t2 b)
 have hs':=hs.newTok (dst:=none) (by simp) (Ext.refl I4 M w) hs.good (e:=e) (sz:=sz) (v':=v) (x:=.osl H.length rows) t1 (fun b hb=>absurd hb (t2 b)) (.osl hrd U2)
 refine k fr M _ w a Qw hK hd ⟨hs'.good,hs'.gl,hs'.hrel,fun s=>?_,hs.size,hs.defers⟩ hsi' hq
 unfold upd
 cases hb:Nat.beq s t with
 | true=>
  obtain rfl:=Nat.eq_of_beq_eq_true hb
  rw [hv]
  exact .osl hrd U2
 | false=>exact hs'.env s
end Go.Am

namespace Go.Am
theorem Jv {P:Program}{o:Oper}{a:Act}{w:World}{K:Act→World→Prop}{Q Q':Exit→Act→World→Prop}(h1:∀ c a w,Q (.panic c) a w→Q' (.panic c) a w)(h2:LetsOut Q→LetsOut Q')
  (h:o.wp P a w K Q):o.wp P a w K Q':=by
 unfold Oper.wp at *
 generalize (execOp a.eval o).run P w=r at *
 cases r with
 | ok n w'=>
  cases n <;> simp only [Oper.upon] at h ⊢ <;>
   first
    | exact h
    | exact Calls.mono h (fun e w'' he=>by cases e <;> first | exact he | exact h1 _ _ _ he | exact h2 he)
 | halt x w'=>cases x <;> simp only [Oper.upon] at h ⊢ <;> first | exact h | exact h1 _ _ _ h
def C0 (F:Fx)(L:List Oper)(m:Nat)(listed:Array Bool)(env:Env)(H:I0)(Q:Po):Prop:=
 ∀ fr M G w a,fr.H0.length=F.K→St F.C F.N M G w env H a→O1 fr M G w H→wpAny F.C.P .any L.toArray (Fin F fr Q) m listed a w
theorem C0.nil {F:Fx}{L:List Oper}{m:Nat}{listed:Array Bool}{env:Env}{H:I0}{Q:Po}(hr:Region.ready .any L.toArray listed=[])(h:Q .normal env H):C0 F L m listed env H Q:=by
 intro fr M G w a hK hs hsi
 have hq:Fin F fr Q .normal a w:=.inl ⟨.normal,env,H,M,G,rfl,h,hs,hsi⟩
 cases m with
 | zero=>exact ⟨hr,hq⟩
 | succ m=>exact ⟨fun _=>hq,fun i hi=>by rw [hr] at hi; cases hi⟩
def Em (F:Fx)(L:List Oper)(m:Nat)(listed:Array Bool)(env:Env)(H:I0)(Q:Po):List Nat→Prop
 | []=>True
 | j::r=>(∃ o,nth L j=some o∧F0 F L [o] env H (fun e h=>C0 F L m (listed.setIfInBounds j true) e h Q))∧Em F L m listed env H Q r
theorem Em.get {F:Fx}{L:List Oper}{m:Nat}{listed:Array Bool}{env:Env}{H:I0}{Q:Po}:∀ {js:List Nat},Em F L m listed env H Q js→∀ j∈js,∃ o,nth L j=some o∧F0 F L [o] env H (fun e h=>C0 F L m (listed.setIfInBounds j true) e h Q)
 | [],_,j,hj=>by cases hj
 | i::r,h,j,hj=>by
  rcases List.mem_cons.1 hj with rfl | hj
  ·exact h.1
  ·exact Em.get h.2 j hj
theorem C0.step {F:Fx}{L:List Oper}{m:Nat}{listed:Array Bool}{env:Env}{H:I0}{Q:Po}(hd:L.all (F8 F.N)=true){j0:Nat}{js:List Nat}(hr:Region.ready .any L.toArray listed=j0::js)(h:Em F L m listed env H Q (j0::js)):C0 F L (m+1) listed env H Q:=by
 intro fr M G w a hK hs hsi
 refine ⟨fun h0=>(by rw [hr] at h0; cases h0),fun i hi=>?_⟩
 rw [hr] at hi
 obtain ⟨o,ho,hop⟩:=h.get i hi
 rw [O2] at ho
 let Qw:Exit→Act→World→Prop:=fun e a w=>match e with
  | .normal=>wpAny F.C.P .any L.toArray (Fin F fr Q) m (listed.setIfInBounds i true) a w
  | e=>Fin F fr Q e a w
 have:=hop fr M G w a Qw hK (fun o' ho'=>by
  rw [List.mem_singleton] at ho'
  subst ho'
  exact List.all_eq_true.1 hd _ (List.mem_of_getElem? ho)) hs hsi ⟨fun env' H' M' G' w' a' hq hs' hsi'=>hq fr M' G' w' a' hK hs' hsi',fun v env' H' M' G' w' a' hq hs' hsi'=>.inr (.inl ⟨v,_,_,_,_,rfl,hq,hs',hsi'⟩)⟩
 simp only [wpList] at this
 unfold wpOp
 simp only [List.getElem?_toArray,ho]
 have hout:LetsOut Qw→LetsOut (Fin F fr Q):=fun ⟨a,w,h⟩=>⟨a,w,h⟩
 split
 ·rename_i hw
  rw [if_pos hw] at this
  rcases this with h1 | ⟨h1,h2⟩
  ·exact .inl (Jv (fun c a w h=>h) hout h1)
  ·exact .inr ⟨h1,hout h2⟩
 ·rename_i hw
  rw [if_neg hw] at this
  exact this
theorem AEx.drawE {F:Fx}(hC:L1 F.C){id:Nat}{L:List Oper}{env:Env}{H:I0}{Q:Po}(h:C0 F L L.length (Array.replicate L.length false) env H Q):AEx F (.region id L.toArray true) env H Q:=by
 intro fr M G w act hK hs hsi
 refine wp_region_any hC.mixed ?_
 have hs':St F.C F.N M G { w with drawn:=w.drawn+1 } env H act:=
  ⟨fun a v e=>hs.good a v e,hs.gl.ext hs.hrel (S:=I4) ⟨fun _ _ e=>e,Nat.le_refl _,rfl,rfl,rfl,fun _ _ _=>rfl,fun _ _ e=>.inl e⟩ (fun _ h=>h.elim),hs.hrel.ext (S:=I4) ⟨fun _ _ e=>e,Nat.le_refl _,rfl,rfl,rfl,fun _ _ _=>rfl,fun _ _ e=>.inl e⟩ (fun _ _ h=>h),hs.env,hs.size,hs.defers⟩
 have hsi':O1 fr M G { w with drawn:=w.drawn+1 } H:=hsi.quiet ⟨fun _ _ e=>e,Nat.le_refl _,rfl,rfl,rfl,fun _ _ _=>rfl,fun _ _ e=>.inl e⟩
 have:=h fr M G _ act hK hs' hsi'
 simpa using this
end Go.Am

namespace Go.Am
section
variable {P:Program}{M:Mem}{G:Nat→Value}{w:World}
end
end Go.Am

namespace Go.Am
def X13 (C:Cx)(L:List Oper)(o:Oper)(env:Env):Option (Option Nat×Nat×Int×Int×Nat×D):=
 match D1 L env o,o.op,G5 o with
 | some true,.makeSlice t lx cx,some d=>match Y1 C.T t,ev C.GL env lx,ev C.GL env cx with
  | some i,.d (.int .i64 n),.d (.int .i64 m)=>match i.u with
   | .sl e=>match Y1 C.T e with
    | some j=>match j.zero with
     | [z]=>bif Nat.beq j.size 1&&Nat.ble 1 j.bytes then some (d,e,n,m,j.bytes,z) else none
     | _=>none
    | none=>none
   | _=>none
  | _,_,_=>none
 | _,_,_=>none
theorem F0.mk {F:Fx}(hC:L1 F.C){L l:List Oper}{o:Oper}{env:Env}{H H':I0}{Q:Env→I0→Prop}{d:Option Nat}{e p:Nat}{n m:Int}{bytes:Nat}{z:D}(h:X13 F.C L o env=some (d,e,n,m,bytes,z))
  (hnm:m=n) (h0:0≤n∧n.toNat * bytes≤140737488355328) {cs:List A} (hcs:cs=List.replicate n.toNat (.d z)) (hp:Eg H (.row cs e)=some (p,H')) (k:F0 F L l (put env d (.rsl p 0 n.toNat n.toNat)) H' Q):F0 F L (o::l) env H Q:=by
 unfold X13 at h
 split at h
 ·rename_i t lx cx d' hw ho hd
  split at h
  ·rename_i i n' m' ht hlx hcx
   split at h
   ·rename_i e' hu
    split at h
    ·rename_i j he
     split at h
     ·rename_i z' hz
      cases hb:Nat.beq j.size 1&&Nat.ble 1 j.bytes with
      | false=>rw [hb] at h; cases h
      | true=>
       rw [hb] at h
       simp only [cond_true,Option.some.injEq,Prod.mk.injEq] at h
       obtain ⟨rfl,rfl,rfl,rfl,rfl,rfl⟩:=h
       simp only [Bool.and_eq_true] at hb
       have hs1:=Nat.eq_of_beq_eq_true hb.1
       have hb1:=Nat.le_of_ble_eq_true hb.2
       subst hnm
       subst hcs
       obtain ⟨rfl,rfl⟩:=Id hp
       obtain ⟨hn0,hroom⟩:=h0
       obtain ⟨N,rfl⟩:∃ N:Nat,m'=N:=⟨m'.toNat,by omega⟩
       simp only [Int.toNat_natCast] at *
       have hNle:N≤140737488355328:=Nat.le_trans (Nat.le_mul_of_pos_right N hb1) hroom
       refine L8 hw fun fr M G w a K Qw hK hdok hs hsi hk=>?_
       have hx1:=hs.eval lx
       have hx2:=hs.eval cx
       rw [hlx] at hx1
       rw [hcx] at hx2
       generalize hv1:a.eval lx=v1 at hx1
       generalize hv2:a.eval cx=v2 at hx2
       cases hx1; rename_i hx1; cases hx1
       cases hx2; rename_i hx2; cases hx2
       have hdd:=U8 (hC.tok.facts ht) hu
       obtain ⟨j',q1,q2,q3,z1,q4,q5,q6,q7⟩:=(hC.tok.facts he).info
       have hzv:∃ zv,z1.cells = #[zv]∧zB zv z'=true:=by
        have hl:z1.cells.toList.length=1:=by rw [q5,hz]; rfl
        have h1:(0:Nat) < z1.cells.size:=by simp at hl; omega
        refine ⟨z1.cells[0],?_,q6 0 _ _ (Array.getElem?_eq_getElem h1) (by rw [hz]; rfl)⟩
        apply Array.ext
        ·simp at hl; simp [hl]
        ·intro i h2 h3
         simp at h3
         subst h3
         simp
       obtain ⟨zv,hzc,hzb⟩:=hzv
       have hbytes:((j'.bytes:Int) * (N:Int))≤281474976710656:=by
        have:j.bytes * N≤140737488355328:=by rw [Nat.mul_comm]; exact hroom
        have h2:((j.bytes * N:Nat):Int)=(j.bytes:Int) * (N:Int):=by simp
        rw [q3]
        omega
       have hrun:(execOp a.eval o).run F.C.P w = .ok (.value (.slice (some ⟨w.heap.size,0,none⟩) N N)) (w.alloc (.cells (madeCells z1.cells (N * j'.size)) e')):=by
        have:=run_make (P:=F.C.P) w t e' j' z1 hdd q1 q4 .i64 .i64 N N (by omega) (Int.le_refl _) hbytes (by omega)
        simp only [Int.toNat_natCast] at this
        unfold execOp
        simp only [ho,hv1,hv2,Sem.run_bind,this,Result.andThen_ok,Sem.run_pure]
       have hrel:V9 M G (List.replicate N (.d z')) (madeCells z1.cells (N * j'.size)):=by
        rw [q2,hs1,hzc,Nat.mul_one]
        have hget:∀ (i:Nat) v,(madeCells #[zv] N)[i]?=some v→v=zv:=fun i v hv=>by
         unfold madeCells at hv
         rw [Array.getElem?_map] at hv
         cases hr:(Array.range N)[i]? with
         | none=>rw [hr] at hv; cases hv
         | some q=>rw [hr] at hv; simp [Nat.mod_one] at hv; exact hv.symm
        refine ⟨by simp [madeCells],fun i v hv=>?_,fun i x v hx hv=>?_⟩
        ·rw [hget i v hv]; exact (Fc hzb M).one
        ·rw [hget i v hv]
         rw [List.getElem?_replicate] at hx
         split at hx
         ·cases hx; exact .d (Fc hzb M)
         ·cases hx
       have h1:=hs.newRow (dst:=none) (by simp) hrel (elem:=e')
       have h2:=O1.newRow hsi (cs:=List.replicate N (.d z')) (vs:=madeCells z1.cells (N * j'.size)) (elem:=e')
       have h3:=h1.quiet (A3 hdok) (x:=.rsl H.length 0 N N) (v:=.slice (some ⟨w.heap.size,0,none⟩) N N) (.rsl U2 (Nat.le_refl _) (by unfold maxLen; omega)) h1.good (Ext.refl _ _ _)
       unfold Oper.wp
       rw [hrun]
       rw [← J3 hd] at k
       exact hk _ _ _ _ _ _ _ k h3 (h2.quiet (Ext.refl _ _ _))
     ·cases h
    ·cases h
   ·cases h
  ·cases h
 ·cases h
def Vs (C:Cx)(L:List Oper)(o:Oper)(env:Env)(H:I0):Option (Option Nat×List A×Nat):=
 match D1 L env o,o.op,G5 o with
 | some true,.load t x,some d=>match Y1 C.T t,ev C.GL env x with
  | some i,.ref p off=>bif i.u.agg then none else match nth H p with
   | some (.row cells _)=>some (d,cells,off)
   | _=>none
  | _,_=>none
 | _,_,_=>none
theorem F0.ld {F:Fx}(hC:L1 F.C){L l:List Oper}{o:Oper}{env:Env}{H:I0}{Q:Env→I0→Prop}{d:Option Nat}{cells:List A}{off:Nat}{y:A}(h:Vs F.C L o env H=some (d,cells,off))(hy:cells[off]?=some y)
  (k:F0 F L l (put env d y) H Q):F0 F L (o::l) env H Q:=by
 unfold Vs at h
 split at h
 ·rename_i t x d' hw ho hd
  split at h
  ·rename_i i p off' ht hx
   cases hag:i.u.agg with
   | true=>rw [hag] at h; cases h
   | false=>
    rw [hag] at h
    simp only [cond_false] at h
    split at h
    ·rename_i cs e hn
     simp only [Option.some.injEq,Prod.mk.injEq] at h
     obtain ⟨rfl,rfl,rfl⟩:=h
     refine .op hC hw (x:=y) (c:=True) ?_ trivial (by rw [J3 hd]; exact k)
     have:L6 i (ev F.C.GL env x) H=some y:=by
      rw [hx]
      simp only [L6,hn,Ae,hag,cond_false,O2,List.getElem?_drop,Nat.add_zero]
      exact hy
     simp [opA,ho,ht,this]
    ·cases h
  ·cases h
 ·cases h
end Go.Am

namespace Go.Am
open Go.ChangeShapes
def La (W:World):Mem:=fun a=>if a.spot=none then W.cell? a else none
theorem G12 (W:World):Good (La W) W:=by
 intro a v h
 unfold La at h
 split at h
 ·rename_i hs; exact .inl ⟨hs,h⟩
 ·cases h
def Qo (M:Mem)(ds:List D)(cs:List Value):Prop:=ds.length=cs.length∧∀ (i:Nat) x v,ds[i]?=some x→cs[i]?=some v→B2 M x v
structure Hu {H:Type}(μ:DataW H→Nat):Prop where
 lit:∀ l,1≤μ (.lit l)
 str:∀ s,s.length+1≤μ (.lit (.string s))
 nil:1≤μ .nil
 sl:∀ es sp,(es.map μ).sum+1≤μ (.slice es sp)
 agg:∀ ps,(ps.map μ).sum+1≤μ (.agg ps)
def Rd {H:Type}(enc:TypeId×Value→H)(P:Program)(W:World)(μ:DataW H→Nat)(fuel:Nat)(t:TypeId){α:Type}(f:α→Row)(bk:α→Nat):Prop:=
 ∀ cs d ps,DataW.trod enc P W 0 (fun _=>true) true fuel t cs=some (d,ps)→∃ x:α,Qo (La W) (f x) cs∧bk x≤μ d
section
variable {H:Type}{enc:TypeId×Value→H}{P:Program}{W:World}{μ:DataW H→Nat}{fuel:Nat}{t:TypeId}
theorem Rd.zero {α:Type}{f:α→Row}{bk:α→Nat}:Rd enc P W μ 0 t f bk:=fun cs d ps h=>by simp [DataW.trod] at h
theorem Fm {M:Mem}{x:D}{v:Value}(h:B2 M x v):Qo M [x] [v]:=by
 refine ⟨rfl,fun i y u hy hu=>?_⟩
 cases i with
 | zero=>simp at hy hu; subst hy; subst hu; exact h
 | succ i=>simp at hy
theorem Rd.bool (hμ:Hu μ)(ht:P.underlying t=some .bool):Rd enc P W μ fuel t (fun b:Bool=>[D.bool b]) (fun _=>1):=by
 cases fuel with
 | zero=>exact .zero
 | succ n=>
  intro cs d ps h
  unfold DataW.trod at h
  rw [ht] at h
  split at h <;> first | (rename_i heq; cases heq; done) | skip
  all_goals first | (cases h; done) | skip
  rename_i b heq
  simp only [Option.some.injEq,Prod.mk.injEq] at h
  obtain ⟨rfl,rfl⟩:=h
  exact ⟨b,Fm .bool,hμ.lit _⟩
theorem Rd.int (hμ:Hu μ){k:IntKind}(ht:P.underlying t=some (.int k)):Rd enc P W μ fuel t (fun n:Int=>[D.int k n]) (fun _=>1):=by
 cases fuel with
 | zero=>exact .zero
 | succ n=>
  intro cs d ps h
  unfold DataW.trod at h
  rw [ht] at h
  split at h <;> first | (rename_i heq; cases heq; done) | skip
  all_goals first | (cases h; done) | skip
  rename_i k1 k' m heq
  cases heq
  split at h
  ·rename_i hc
   simp only [Option.some.injEq,Prod.mk.injEq] at h
   obtain ⟨rfl,rfl⟩:=h
   obtain ⟨rfl,hwf⟩:=hc
   refine ⟨m,Fm (.int ?_),hμ.lit _⟩
   simpa [Lit.wf,InK] using hwf
  ·cases h
theorem Rd.str (hμ:Hu μ)(ht:P.underlying t=some .string):Rd enc P W μ fuel t (fun s:Str=>[D.str s]) (fun s=>s.length+1):=by
 cases fuel with
 | zero=>exact .zero
 | succ n=>
  intro cs d ps h
  unfold DataW.trod at h
  rw [ht] at h
  split at h <;> first | (rename_i heq; cases heq; done) | skip
  all_goals first | (cases h; done) | skip
  rename_i s heq
  split at h
  ·rename_i hc
   simp only [Option.some.injEq,Prod.mk.injEq] at h
   obtain ⟨rfl,rfl⟩:=h
   refine ⟨s.data.toList,Fm ?_,hμ.str _⟩
   have:s=⟨s.data.toList.toArray⟩:=by simp
   rw [this]
   exact .str (by simpa using hc)
  ·cases h
theorem Y13 {α β:Type}{f:α→Nat}{g:β→Nat}:∀ {l:List α} {m:List β},l.length=m.length→(∀ (i:Nat) x y,l[i]?=some x→m[i]?=some y→f x≤g y)→(l.map f).sum≤(m.map g).sum
 | [],[],_,_=>Nat.le_refl _
 | x::l,y::m,hl,h=>by
  have h0:=h 0 x y rfl rfl
  have ih:=Y13 (l:=l) (m:=m) (by simpa using hl) (fun i a b ha hb=>h (i+1) a b (by simpa using ha) (by simpa using hb))
  simp only [List.map_cons,List.sum_cons]
  omega
 | [],_::_,hl,_=>by simp at hl
 | _::_,[],hl,_=>by simp at hl
theorem Mn {W:World}{a:Addr}{n:Nat}{cs:List Value}(h:W.cells? 0 a n=some cs):cs.length=n∧∀ (j:Nat) v,cs[j]?=some v→W.cell? (a.add j)=some v:=by
 unfold World.cells? at h
 rw [if_pos (Nat.zero_le _)] at h
 have key:∀ (l:List Nat) (cs:List Value),l.mapM (fun i=>W.cell? (a.add i))=some cs→cs.length=l.length∧∀ (j:Nat) v,cs[j]?=some v→∃ i,l[j]?=some i∧W.cell? (a.add i)=some v:=by
  intro l
  induction l with
  | nil=>intro cs h; simp at h; subst h; exact ⟨rfl,fun j v h=>by simp at h⟩
  | cons i l ih=>
   intro cs h
   rw [List.mapM_cons] at h
   simp only [bind,Option.bind_eq_some_iff,pure,Option.some.injEq] at h
   obtain ⟨v,hv,vs,hvs,rfl⟩:=h
   obtain ⟨h1,h2⟩:=ih vs hvs
   refine ⟨by simp [h1],fun j u hu=>?_⟩
   cases j with
   | zero=>simp at hu; subst hu; exact ⟨i,rfl,hv⟩
   | succ j=>simpa using h2 j u (by simpa using hu)
 obtain ⟨h1,h2⟩:=key _ _ h
 refine ⟨by simpa using h1,fun j v hv=>?_⟩
 obtain ⟨i,hi,hc⟩:=h2 j v hv
 have hj:j < n:=by have:=(List.getElem?_eq_some_iff.1 hv).1; simp at h1; omega
 rw [List.getElem?_range hj] at hi
 cases hi
 exact hc
theorem Nn {W:World}{a:Addr}{v:Value}(h:W.cell? a=some v):La W a=some v∧a.spot=none:=by
 have hs:a.spot=none:=by
  unfold World.cell? at h
  split at h
  ·split at h
   ·cases h
   ·rename_i hs; simpa using hs
  ·cases h
 exact ⟨by unfold La; rw [if_pos hs]; exact h,hs⟩
theorem Rd.sl (hμ:Hu μ){e sz:Nat}{α:Type}[Inhabited α]{f:α→Row}{bk:α→Nat}(ht:P.underlying t=some (.slice e))(hP:P.cellsOf e=sz)(hpos:1≤sz)(hsz:∀ x,(f x).length=sz)(he:∀ n,n < fuel→Rd enc P W μ n e f bk) :
  Rd enc P W μ fuel t (fun l:List α=>[D.sl (l.map f)]) (fun l=>(l.map bk).sum+1):=by
 intro cs d ps h
 rcases DataW.trod_slice ht h with ⟨rfl,hx⟩ | ⟨a,len,cap,elems,rest,n,hn,rfl,hx,_,hlc,hcm,hlen,hel,hsp,_⟩
 ·cases hx
  exact ⟨[],Fm .slnil,hμ.nil⟩
 ·have h1:∀ i:_root_.Fin len,∃ x:α,∃ ci di,W.cells? 0 (a.add (i.val * sz)) sz=some ci∧elems[i.val]?=some di∧Qo (La W) (f x) ci∧bk x≤μ di.1:=by
   intro i
   have:=hel i.val i.isLt
   have hlt:i.val < elems.length:=by omega
   rw [List.getElem?_eq_getElem hlt,hP] at this
   obtain ⟨ci,h2,h3⟩:=Option.bind_eq_some_iff.1 this
   obtain ⟨x,h4,h5⟩:=he n (by omega) ci _ _ h3
   exact ⟨x,ci,_,h2,List.getElem?_eq_getElem hlt,h4,h5⟩
  let g:_root_.Fin len→α:=fun i=>Classical.choose (h1 i)
  have hg:∀ i:_root_.Fin len,∃ ci di,W.cells? 0 (a.add (i.val * sz)) sz=some ci∧elems[i.val]?=some di∧Qo (La W) (f (g i)) ci∧bk (g i)≤μ di.1:=fun i=>Classical.choose_spec (h1 i)
  have hget:∀ (i:Nat) x,(List.ofFn g)[i]?=some x→∃ h:i < len,x=g ⟨i,h⟩:=fun i x hx=>by
   rw [List.getElem?_ofFn] at hx
   split at hx
   ·rename_i h; exact ⟨h,by cases hx; rfl⟩
   ·cases hx
  cases hx
  refine ⟨List.ofFn g,Fm (.sl sz (fun i j=>(W.cell? (a.add (i * sz+j))).getD undef) (by simp) hlc hcm ?_ ?_ ?_ ?_),?_⟩
  ·by_cases h0:cap=0
   ·exact .inl h0
   ·refine .inr ?_
    have hc0:∃ ci,W.cells? 0 (a.add (0 * sz)) sz=some ci:=by
     by_cases hl0:0 < len
     ·obtain ⟨ci,di,h2,_⟩:=hg ⟨0,hl0⟩
      exact ⟨ci,h2⟩
     ·have hl0':len=0:=by omega
      obtain ⟨h2,h3⟩:=hsp rfl
      have h4:=h3 0 (by omega)
      have hlt:0 < rest.length:=by omega
      rw [List.getElem?_eq_getElem hlt,hP,hl0'] at h4
      obtain ⟨ci,h5,_⟩:=Option.bind_eq_some_iff.1 h4
      exact ⟨ci,by simpa using h5⟩
    obtain ⟨ci,hci⟩:=hc0
    obtain ⟨h2,h3⟩:=Mn hci
    have h4:ci[0]?=some ci[0]:=List.getElem?_eq_getElem (by omega)
    have:=(Nn (h3 0 _ h4)).2
    simpa [Addr.add] using this
  ·intro i r hr
   rw [List.getElem?_map] at hr
   cases hx:(List.ofFn g)[i]? with
   | none=>rw [hx] at hr; cases hr
   | some x=>rw [hx] at hr; cases hr; exact hsz x
  ·intro i j r x hr hx
   rw [List.getElem?_map] at hr
   cases hy:(List.ofFn g)[i]? with
   | none=>rw [hy] at hr; cases hr
   | some y=>
    rw [hy] at hr; cases hr
    obtain ⟨hi,rfl⟩:=hget i y hy
    obtain ⟨ci,di,h2,h3,⟨h4,h5⟩,h6⟩:=hg ⟨i,hi⟩
    obtain ⟨h7,h8⟩:=Mn h2
    have hj:j < ci.length:=by rw [← h4]; exact (List.getElem?_eq_some_iff.1 hx).1
    have h9:=h8 j _ (List.getElem?_eq_getElem hj)
    rw [Gd] at h9
    rw [(Nn h9).1,h9]
    rfl
  ·intro i j r x hr hx
   rw [List.getElem?_map] at hr
   cases hy:(List.ofFn g)[i]? with
   | none=>rw [hy] at hr; cases hr
   | some y=>
    rw [hy] at hr; cases hr
    obtain ⟨hi,rfl⟩:=hget i y hy
    obtain ⟨ci,di,h2,h3,⟨h4,h5⟩,h6⟩:=hg ⟨i,hi⟩
    obtain ⟨h7,h8⟩:=Mn h2
    have hj:j < ci.length:=by rw [← h4]; exact (List.getElem?_eq_some_iff.1 hx).1
    have h9:=h8 j _ (List.getElem?_eq_getElem hj)
    rw [Gd] at h9
    rw [h9]
    exact h5 j x _ hx (List.getElem?_eq_getElem hj)
  ·refine Nat.le_trans ?_ (hμ.sl _ _)
   rw [List.map_map]
   refine Nat.succ_le_succ (Y13 (by simp [hlen]) fun i x y hx hy=>?_)
   obtain ⟨hi,rfl⟩:=hget i x hx
   obtain ⟨ci,di,h2,h3,h4,h6⟩:=hg ⟨i,hi⟩
   simp only at h3
   rw [h3] at hy
   cases hy
   exact h6
def FRd {H:Type}(enc:TypeId×Value→H)(P:Program)(W:World)(μ:DataW H→Nat)(fuel:Nat)(fs:List Field)(off:Nat){α:Type}(f:α→Row)(bk:α→Nat):Prop:=
 ∀ (cs:List Value) (xs:List (DataW H×List MemPlace)),xs.length=fs.length→(∀ (i:Nat) (g:Field),fs[i]?=some g→DataW.trod enc P W 0 (fun _=>true) true fuel g.type ((cs.drop g.offset).take (P.cellsOf g.type))=xs[i]?)→∃ x:α,(∀ (i:Nat) y v,(f x)[i]?=some y→cs[off+i]?=some v→B2 (La W) y v)∧bk x≤(xs.map fun y=>μ y.1).sum
theorem FRd.nil {off:Nat}:FRd enc P W μ fuel [] off (fun _:Unit=>[]) (fun _=>0):=by
 intro cs xs hl _
 obtain rfl:=List.eq_nil_of_length_eq_zero hl
 exact ⟨(),fun i y v h=>by simp at h,Nat.le_refl _⟩
theorem FRd.cons {α β:Type}{f:α→Row}{g:β→Row}{bk:α→Nat}{bk':β→Nat}{fs:List Field}{fd:Field}{off sz:Nat}(h1:Rd enc P W μ fuel fd.type f bk)(ho:fd.offset=off)(hP:P.cellsOf fd.type=sz)(hsz:∀ x,(f x).length=sz)(h2:FRd enc P W μ fuel fs (off+sz) g bk') :
  FRd enc P W μ fuel (fd::fs) off (fun p:α×β=>f p.1++g p.2) (fun p=>bk p.1+bk' p.2):=by
 intro cs xs hl h
 cases xs with
 | nil=>simp at hl
 | cons y ys=>
 obtain ⟨d,ps⟩:=y
 obtain ⟨x,⟨e1,e2⟩,e3⟩:=h1 _ _ _ (h 0 fd rfl)
 obtain ⟨x',e4,e5⟩:=h2 cs ys (by simpa using hl) (fun i g hg=>by simpa using h (i+1) g (by simpa using hg))
 refine ⟨(x,x'),fun i z v hz hv=>?_,by simp only [List.map_cons,List.sum_cons]; omega⟩
 rcases Nat.lt_or_ge i sz with hi | hi
 ·rw [List.getElem?_append_left (by rw [hsz]; exact hi)] at hz
  refine e2 i z v hz ?_
  rw [ho,hP,List.getElem?_take,if_pos hi,List.getElem?_drop]
  exact hv
 ·rw [List.getElem?_append_right (by rw [hsz]; exact hi),hsz] at hz
  refine e4 (i - sz) z v hz ?_
  rw [show off+sz+(i - sz)=off+i by omega]
  exact hv
theorem Rd.st (hμ:Hu μ){fs:Array Field}{l:List Field}{α β:Type}{f:α→Row}{g:β→Row}{bk:α→Nat}{bk':β→Nat}{sz:Nat}(ht:P.underlying t=some (.struct fs))(hl:fs.toList=l)(hP:P.cellsOf t=sz)(hsz:∀ x,(g x).length=sz)
  (h:∀ n,n < fuel→FRd enc P W μ n l 0 f bk) (mk:α→β) (hf:∀ x,f x=g (mk x)) (hb:∀ x,bk' (mk x)≤bk x+1):Rd enc P W μ fuel t g bk':=by
 intro cs d ps hd
 obtain ⟨xs,n,hn,hx,hlen,hxl,hxs⟩:=DataW.trod_struct ht hd
 cases hx
 obtain ⟨x,h3,h4⟩:=h n (by omega) cs xs (by rw [hxl,← hl]; simp) (fun i g hg=>hxs i g (by rw [← hl] at hg; simpa using hg))
 refine ⟨mk x,⟨by rw [hsz,hlen,hP],fun i y v hy hv=>h3 i y v (by rw [hf]; exact hy) (by simpa using hv)⟩,?_⟩
 have:=hμ.agg (xs.map (·.1))
 rw [List.map_map] at this
 have h5:=hb x
 have h6:(xs.map fun y=>μ y.1).sum=(xs.map (μ ∘ fun x=>x.fst)).sum:=rfl
 omega
end
end Go.Am

namespace Go.Am
open Go.ChangeShapes
theorem El {α β:Type}{f g:α→Option β}:∀ {l:List α} {r:List β},l.mapM f=some r→(∀ x∈l,∀ y∈r,f x=some y→g x=some y)→l.mapM g=some r
 | [],r,h,_=>by simpa using h
 | x::l,r,h,hfg=>by
  rw [List.mapM_cons] at h ⊢
  simp only [bind,Option.bind_eq_some_iff,pure,Option.some.injEq] at h ⊢
  obtain ⟨y,hy,ys,hys,rfl⟩:=h
  exact ⟨y,hfg x (by simp) y (by simp) hy,ys,El hys (fun x hx y hy'=>hfg x (by simp [hx]) y (by simp [hy'])),rfl⟩
theorem Gm {α:Type}(l:List α):(List.range l.length).mapM (fun i=>l[i]?)=some l:=by
 have key:∀ (m:List α) (k:Nat),(∀ j,m[j]?=l[k+j]?)→(List.range' k m.length).mapM (fun i=>l[i]?)=some m:=by
  intro m
  induction m with
  | nil=>intro k _; rfl
  | cons x m ih=>
   intro k h
   rw [List.length_cons,List.range'_succ,List.mapM_cons]
   have h0:=h 0
   simp at h0
   have:=ih (k+1) (fun j=>by have:=h (j+1); simp at this; rw [this]; congr 1; omega)
   simp only [bind,Option.bind_eq_some_iff,pure,Option.some.injEq]
   exact ⟨x,h0.symm,m,this,rfl⟩
 rw [List.range_eq_range']
 exact key l 0 (fun j=>by simp)
def Mw (P:Program)(S:TypeId→Prop):Prop:=
 ∀ t,S t→P.underlying t=some .bool∨(∃ k,P.underlying t=some (.int k))∨P.underlying t=some .string∨(∃ e,P.underlying t=some (.slice e)∧S e∧1≤P.cellsOf e)∨∃ fs,P.underlying t=some (.struct fs)∧∀ f∈fs.toList,S f.type
section
variable {H:Type}{enc:TypeId×Value→H}{P:Program}{W W':World}{S:TypeId→Prop}
theorem Zz (hb:∀ b,b < W.heap.size→W'.heap[b]?=W.heap[b]?){a:Addr}{n:Nat}{cs:List Value}(h:W.cells? 0 a n=some cs):W'.cells? 0 a n=some cs:=by
 unfold World.cells? at *
 rw [if_pos (Nat.zero_le _)] at *
 refine El h fun i _ y _ hy=>?_
 rw [Ki (hb _ (World.block_lt_of_cell? W _ hy))]
 exact hy
theorem Z13 (hS:Mw P S)(hb:∀ b,b < W.heap.size→W'.heap[b]?=W.heap[b]?){sp:Nat→Bool}:∀ (fuel:Nat) (t:TypeId) (cs:List Value) (x:DataW H×List MemPlace),S t→DataW.trod enc P W 0 (fun _=>true) true fuel t cs=some x→
  (∀ p∈x.2,sp p.block=true)→DataW.trod enc P W' 0 sp true fuel t cs=some x:=by
 intro fuel
 induction fuel with
 | zero=>intro t cs x _ h; simp [DataW.trod] at h
 | succ n ih=>
  intro t cs x hSt h hx
  rcases hS t hSt with ht | ⟨k,ht⟩ | ht | ⟨e,ht,hSe,hpos⟩ | ⟨fs,ht,hSf⟩
  ·obtain ⟨b,rfl,rfl⟩:=DataW.trod_bool ht h
   unfold DataW.trod
   rw [ht]
  ·have h2:=h
   obtain ⟨m,rfl,rfl,_⟩:=DataW.trod_int ht h
   unfold DataW.trod at h2 ⊢
   rw [ht] at h2 ⊢
   exact h2
  ·have h2:=h
   obtain ⟨s,rfl,rfl,_⟩:=DataW.trod_string ht h
   unfold DataW.trod at h2 ⊢
   rw [ht] at h2 ⊢
   exact h2
  ·have h0:=h
   rcases DataW.trod_slice ht h with ⟨rfl,rfl⟩ | ⟨a,len,cap,elems,rest,n',hn,rfl,rfl,_,hlc,hcm,hlen,hel,hsp,_⟩
   ·unfold DataW.trod
    rw [ht]
    rfl
   ·have hn':n=n':=by omega
    subst hn'
    have hspare:cap - len=0∨sp a.block=true:=by
     by_cases hc:cap=0
     ·exact .inl (by omega)
     ·refine .inr (hx (.cell a.block a.off) ?_)
      simp only [List.mem_append]
      refine .inl (MemPlace.mem_row.2 ⟨0,?_,?_⟩)
      ·have h1:=(hsp rfl).1
       have:0 < elems.length+rest.length:=by omega
       exact Nat.mul_pos this hpos
      ·simp
    have hdo:∀ (i:Nat) (y:DataW H×List MemPlace),(∀ p∈y.2,sp p.block=true)→(W.cells? 0 (a.add (i * P.cellsOf e)) (P.cellsOf e)).bind (DataW.trod enc P W 0 (fun _=>true) true n e)=some y→
      (W'.cells? 0 (a.add (i * P.cellsOf e)) (P.cellsOf e)).bind (DataW.trod enc P W' 0 sp true n e)=some y:=fun i y hy h1=>by
     obtain ⟨ci,h2,h3⟩:=Option.bind_eq_some_iff.1 h1
     rw [Zz hb h2]
     exact ih e ci y hSe h3 hy
    have hmem:∀ y∈elems++rest,∀ p∈y.2,sp p.block=true:=fun y hy p hp=>hx p (by
     simp only [List.mem_append,List.mem_flatMap]
     exact .inr ⟨y,by simpa using hy,hp⟩)
    have m1:(List.range len).mapM (fun i=>(W'.cells? 0 (a.add (i * P.cellsOf e)) (P.cellsOf e)).bind (DataW.trod enc P W' 0 sp true n e))=some elems:=by
     have:(List.range len).mapM (fun i=>elems[i]?)=some elems:=by rw [← hlen]; exact Gm elems
     refine El this fun i hi y hy h1=>hdo i y (hmem y (by simp [hy])) ?_
     rw [hel i (List.mem_range.1 hi)]
     exact h1
    have m2:(if sp a.block then (List.range (cap - len)).mapM (fun j=>(W'.cells? 0 (a.add ((len+j) * P.cellsOf e)) (P.cellsOf e)).bind (DataW.trod enc P W' 0 sp true n e)) else some [])=some rest:=by
     obtain ⟨h1,h2⟩:=hsp rfl
     rcases hspare with hc | hc
     ·have:rest=[]:=List.eq_nil_of_length_eq_zero (by omega)
      subst this
      rw [hc]
      split <;> rfl
     ·rw [if_pos hc]
      have:(List.range (cap - len)).mapM (fun i=>rest[i]?)=some rest:=by rw [← h1]; exact Gm rest
      refine El this fun j hj y hy h3=>hdo (len+j) y (hmem y (by simp [hy])) ?_
      rw [h2 j (List.mem_range.1 hj)]
      exact h3
    unfold DataW.trod
    rw [ht]
    simp only [Nat.zero_le,hlc,hcm,and_self,if_true,m1,m2,Option.bind_some,Option.map_some]
  ·obtain ⟨xs,n',hn,rfl,hl,hlen,hf⟩:=DataW.trod_struct ht h
   have hn':n=n':=by omega
   subst hn'
   refine trod_struct_mk ht hl ?_
   have key:∀ (l:List Field) (ys:List (DataW H×List MemPlace)),ys.length=l.length→(∀ f∈l,S f.type)→(∀ y∈ys,∀ p∈y.2,sp p.block=true)→
     (∀ (i:Nat) f,l[i]?=some f→DataW.trod enc P W 0 (fun _=>true) true n f.type ((cs.drop f.offset).take (P.cellsOf f.type))=ys[i]?)→
     l.mapM (fun f=>DataW.trod enc P W' 0 sp true n f.type ((cs.drop f.offset).take (P.cellsOf f.type)))=some ys:=by
    intro l
    induction l with
    | nil=>intro ys h1 _ _ _; obtain rfl:=List.eq_nil_of_length_eq_zero h1; rfl
    | cons f l ihl=>
     intro ys h1 h2 h3 h4
     cases ys with
     | nil=>simp at h1
     | cons y ys=>
      rw [List.mapM_cons]
      simp only [bind,Option.bind_eq_some_iff,pure,Option.some.injEq]
      exact ⟨y,ih _ _ y (h2 f (by simp)) (by simpa using h4 0 f rfl) (h3 y (by simp)),ys,ihl ys (by simpa using h1) (fun g hg=>h2 g (by simp [hg])) (fun z hz=>h3 z (by simp [hz])) (fun i g hg=>by simpa using h4 (i+1) g (by simpa using hg)),rfl⟩
   refine key fs.toList xs (by simpa using hlen) hSf (fun y hy p hp=>hx p (by simp only [List.mem_flatMap]; exact ⟨y,hy,hp⟩)) fun i f hi=>hf i f (by simpa using hi)
theorem A14 {f:Func}{s:ChangeSpec}{apart fresh handsOn again:Bool}{args:Array Value}{v:Value}{ds gs:List (DataW H)}{before pa pv:List MemPlace}
  (hW:DataW.Whole enc P f.params.toList s.vars apart W args.toList ds gs before)
  (hres:∀ (b:Nat) (sp:Nat→Bool) (hd:Bool),DataW.TrodAll enc P W' b sp hd f.resultTypes.toList (v.resultList f.resultTypes.size) (s.fn H (ds++gs)).results [])
  (hargs:∀ sp:Nat→Bool,(∀ p∈before,sp p.block=true)→DataW.TrodAll enc P W' 0 sp true f.params.toList args.toList (s.fn H (ds++gs)).args pa)
  (hvars:∀ sp:Nat→Bool,(∀ p∈before,sp p.block=true)→DataW.TrodVars enc P W' sp s.vars (s.fn H (ds++gs)).vars pv)
  (hps:before=pa++pv) (hk:W.keptBut W' (·∈before)) (hfz:∀ a:Addr,a.block < W.heap.size→W'.frozen? a=W.frozen? a)
  (hok:∀ (j:Nat) (t:TypeId) (r:Value),f.resultTypes[j]?=some t→(v.resultList f.resultTypes.size)[j]?=some r→Value.okWide P W' .any 0 t r) :
  s.post enc P f apart fresh handsOn again W args v W':=by
 have hlt:=hW.lt
 have hold:∀ p∈before,(fun b=>decide (b < W.heap.size)) p.block=true:=fun p hp=>by simpa using hW.lt p hp
 refine ⟨ds,gs,before,[],pa,pv,hW,hres _ _ _,hargs _ hold,hvars _ hold,World.keptBut_mono (fun p hp=>⟨hp,?_⟩) hk,fun _=>?_⟩
 ·rw [hps,List.mem_append] at hp
  exact Or.inr hp
 ·obtain ⟨_,_,_,_,_,hz,hn⟩:=hW
  refine ⟨hok,_,_,([]++pa)++pv,⟨[]++pa,pv,trodAll_append (hargs _ (fun _ _=>rfl)) (hres _ _ _),hvars _ (fun _ _=>rfl),rfl,?_,?_⟩,?_⟩
  ·intro b off hp
   have hp':MemPlace.cell b off∈before:=by rw [hps]; simpa using hp
   rw [hfz _ (hlt _ hp')]
   exact hz b off hp'
  ·intro ha
   have:=hn ha
   rw [hps] at this
   simpa using this
  ·intro p hp _
   rw [hps]
   simpa using hp
theorem H12 {may:MemPlace→Prop}(hb:∀ b,b < W.heap.size→W'.heap[b]?=W.heap[b]?)(ho:W'.os=W.os)(hout:W'.output=W.output):W.keptBut W' may:=by
 refine ⟨ho,hout,fun i hi=>?_⟩
 rw [hb i hi]
 cases h:W.heap[i]? with
 | none=>rfl
 | some o=>cases o <;> simp
theorem B14 {a:Addr}(hb:W'.heap[a.block]?=W.heap[a.block]?):W'.frozen? a=W.frozen? a:=by
 unfold World.frozen?
 rw [hb]
theorem Ro (hS:Mw P S)(hb:∀ b,b < W.heap.size→W'.heap[b]?=W.heap[b]?){sp:Nat→Bool}:∀ {ts:List TypeId} {vs:List Value} {ds:List (DataW H)} {ps:List MemPlace},(∀ t∈ts,S t)→DataW.TrodAll enc P W 0 (fun _=>true) true ts vs ds ps→
  (∀ p∈ps,sp p.block=true)→DataW.TrodAll enc P W' 0 sp true ts vs ds ps
 | [],[],[],_,_,h,_=>h
 | t::ts,v::vs,d::ds,ps,hSt,⟨p,q,⟨n,h1⟩,h2,e⟩,hp=>by
  subst e
  exact ⟨p,q,⟨n,Z13 hS hb n t _ _ (hSt t (by simp)) h1 (fun x hx=>hp x (by simp [hx]))⟩,Ro hS hb (fun t ht=>hSt t (by simp [ht])) h2 (fun x hx=>hp x (by simp [hx])),rfl⟩
theorem T17 {C:Cx}(hP:C.P=P){f:FuncId}{fn:Func}{s:ChangeSpec}{args:Array Value}{ds gs:List (DataW H)}{before:List MemPlace}{xs:List A}{b:TypeId}
  (hc:S0 C f xs [] (fun r H'=>H'=[]∧r = .d (.bool true))) (hlen:xs.length=args.size) (hargs:∀ (i:Nat) x v,xs[i]?=some x→args[i]?=some v→N0 (La W) (fun _=>.tuple #[]) x v) (hgl:Dg C (La W) W)
  (hW:DataW.Whole enc P fn.params.toList s.vars false W args.toList ds gs before) (hv:s.vars=[]) (hb:fn.resultTypes = #[b]) (hbt:P.underlying b=some .bool)
  (hsf:s.fn H ds={ results:=[.lit (.bool true)],args:=ds }) (hS:Mw P S) (hSt:∀ t∈fn.params.toList,S t) :
  Calls P f args W fun e W'=>∃ v,e = .returned v∧s.post enc P fn false true false false W args v W':=by
 subst hP
 have hgs:gs=[]:=by
  obtain ⟨p,q,_,h2,_⟩:=hW
  rw [hv] at h2
  cases gs with
  | nil=>rfl
  | cons g gs=>cases h2
 subst hgs
 have hH:B6 (La W) (fun _=>.tuple #[]) W []:=B6.nil _ _
 refine (hc.2 (La W) (fun _=>.tuple #[]) W args (G12 W) hgl hH hlen hargs).mono fun e W' he=>?_
 obtain ⟨v,r,H',M',G',rfl,⟨rfl,rfl⟩,hr,_,_,hext,_⟩:=he
 cases hr
 rename_i hr
 cases hr
 refine ⟨_,rfl,?_⟩
 have hblk:∀ k,k < W.heap.size→W'.heap[k]?=W.heap[k]?:=fun k hk=>hext.block k hk (fun ⟨o,x,h1,_⟩=>by simp at h1)
 have hW':=hW
 obtain ⟨p,q,hA,hV,hpq,hz,hn⟩:=hW'
 rw [hv] at hV
 have hq:q=[]:=hV
 subst hq
 refine A14 hW (pa:=p) (pv:=[]) ?_ ?_ ?_ hpq (H12 hblk hext.os hext.output) (fun a ha=>B14 (hblk _ ha)) ?_
 ·intro b' sp hd
  rw [List.append_nil,hsf,hb]
  exact trodAll_mk1 ⟨1,by unfold DataW.trod; rw [hbt]; rfl⟩
 ·intro sp hsp
  rw [List.append_nil,hsf]
  exact Ro hS hblk hSt hA (fun x hx=>hsp x (by rw [hpq]; simp [hx]))
 ·intro sp hsp
  rw [hv,List.append_nil,hsf]
  rfl
 ·intro j t r h1 h2
  rw [hb] at h1 h2
  cases j with
  | succ j=>simp at h1
  | zero=>
   simp at h1 h2
   subst h1
   have:r = .bool true:=by simpa [Value.resultList] using h2.symm
   subst this
   exact Go.RowKit.okWide_bool_mk hbt _
theorem Yx {t:TypeId}{v:Value}{base:Nat}{x:D}(hv:Value.okWide P W .any base t v)(ht:P.underlying t=some .bool∨(∃ k,P.underlying t=some (.int k))∨P.underlying t=some .string∨(∃ e,P.underlying t=some (.slice e)))(h:Qo (La W) [x] v.cells.toList) :
  N0 (La W) (fun _=>.tuple #[]) (.d x) v:=by
 have hc:v.cells = #[v]:=by
  unfold Value.okWide at hv
  rcases ht with ht | ⟨k,ht⟩ | ht | ⟨e,ht⟩ <;> rw [ht] at hv <;> simp only [Cell.okWide,ht,Cell.ok] at hv <;> cases v <;> first | rfl | (exact hv.elim)
 rw [hc] at h
 exact .d (h.2 0 x v rfl rfl)
end
end Go.Am

namespace Go.Am
def Le {α:Type}(a b:Option α):Prop:=∀ r,a=some r→b=some r
theorem Le.rfl {α:Type}{a:Option α}:Le a a:=fun _ h=>h
theorem Le.none {α:Type}{b:Option α}:Le (.none:Option α) b:=fun _ h=>by cases h
theorem Le.bind {α β:Type}{a a':Option α}{f f':α→Option β}(h:Le a a')(hf:∀ x,Le (f x) (f' x)):Le (a>>=f) (a'>>=f'):=by
 intro r hr
 cases a with
 | none=>cases hr
 | some x=>rw [h x _root_.rfl]; exact hf x r hr
theorem Le.ite {α:Type}{c:Prop}[Decidable c]{a a' b b':Option α}(h:Le a a')(h':Le b b'):Le (if c then a else b) (if c then a' else b'):=by
 split
 ·exact h
 ·exact h'
end Go.Am

namespace Go.Am
end Go.Am

namespace Go.Am
theorem E4.le {C:Cx}{o:Oper}{env:Env}{H:I0}{x y:A}(h:E4 C o env H x)(hle:∀ M G v,N0 M G x v→N0 M G y v):E4 C o env H y:=
 fun M G w a next Qw h1 h2 h3 h4 h5=>h M G w a next Qw h1 h2 h3 h4 fun v M' w' k1 k2 k3=>h5 v M' w' (hle M' G v k1) k2 k3
def Ws (C:Cx)(L:List Oper)(o:Oper)(env:Env):Option (Option Nat×List Row):=
 match D1 L env o,o.op with
 | some true,.convert s t x=>match Y1 C.T s,Y1 C.T t,We (ev C.GL env x),G5 o with
  | some i,some k,some rows,some d=>match i.u,k.u with
   | .sl e,.str=>match Y1 C.T e with
    | some j=>match j.u with
     | .int .u8=>some (d,rows)
     | _=>none
    | none=>none
   | _,_=>none
  | _,_,_,_=>none
 | _,_=>none
def Pj (xs:List Int):List UInt8:=xs.map fun n=>UInt8.ofNat n.toNat
theorem Kv {C:Cx}(hC:L1 C){L:List Oper}{o:Oper}{env:Env}{H:I0}{d:Option Nat}{rows:List Row}(h:Ws C L o env=some (d,rows)){xs:List Int}(hr:rows=xs.map fun n=>[D.int .u8 n]) :
  D1 L env o=some true∧G5 o=some d∧E4 C o env H (.d (.str (Pj xs))):=by
 unfold Ws at h
 split at h
 ·rename_i s t x hw ho
  split at h
  ·rename_i i k rows' d' hs ht hx hd
   split at h
   ·rename_i e hu hu'
    split at h
    ·rename_i j he
     split at h
     ·rename_i hju
      simp only [Option.some.injEq,Prod.mk.injEq] at h
      obtain ⟨rfl,rfl⟩:=h
      subst hr
      refine ⟨hw,hd,?_⟩
      intro M G w a next Qw hρ hG hgl hH hkk
      rw [ho] at hρ
      have hxr:=J9 hx (hρ x (by simp [Op.operands]))
      have us:=U8 (hC.tok.facts hs) hu
      have ut:=Ra (hC.tok.facts ht) hu'
      have ue:=Bv (hC.tok.facts he) hju
      have key:∃ b:ByteArray,(convert s t (a.eval x)).run C.P w = .ok (.string b) w∧b=⟨(Pj xs).toArray⟩∧xs.length≤maxLen:=by
       generalize hxv:a.eval x=xv at hxr
       generalize hrw:(xs.map fun n=>[D.int .u8 n])=rws at hxr
       cases hxr with
       | slnil=>
        obtain rfl:xs=[]:=List.map_eq_nil_iff.1 hrw
        exact ⟨_,run_convert_bytes_nil w s e us ue 0 0 t ut,rfl,Nat.zero_le _⟩
       | sl sz E1 hl hc hm hsp hz h1 h2=>
        rename_i ad len cap
        subst hrw
        rw [List.length_map] at hl
        subst hl
        have hcell:∀ i,i < xs.length→w.cell? (ad.add i)=some (.int .u8 (xs.getD i 0)):=fun i hi=>by
         have hri:(xs.map fun n=>[D.int .u8 n])[i]?=some [D.int .u8 xs[i]]:=by simp [hi]
         have e1:=hz i _ hri
         have m1:=h1 i 0 _ _ hri rfl
         have m2:=h2 i 0 _ _ hri rfl
         simp only [List.length_singleton] at e1
         subst e1
         rw [Nat.mul_one,Nat.add_zero] at m1
         have m3:=hG.cell m1 m2
         rw [m3]
         generalize E1 i 0=v at m2
         cases m2
         simp [List.getD,hi]
        have hload:(loadCells ad xs.length).run C.P w = .ok (xs.map (Value.int .u8)).toArray w:=by
         have:=run_loadCells_list (P:=C.P) w ad (xs.map (Value.int .u8)) (fun j v hj=>by
          have hjl:j < xs.length:=by
           rcases Nat.lt_or_ge j xs.length with h | h
           ·exact h
           ·simp [List.getElem?_eq_none (show (xs.map (Value.int .u8)).length≤j by simpa using h)] at hj
          rw [hcell j hjl]
          simp [List.getElem?_eq_getElem hjl] at hj
          subst hj
          simp [List.getD,List.getElem?_eq_getElem hjl])
         simpa using this
        refine ⟨_,by rw [run_convert_bytes_string w s t e _ _ _ us ue ut,run_bytesToString w _ _ cap xs hload,foldl_push_bytes],?_,Nat.le_trans hc hm⟩
        simp [Pj,ByteArray.empty,ByteArray.emptyWithCapacity]
        rfl
      obtain ⟨b,hb,rfl,hlen⟩:=key
      unfold Oper.wp execOp
      simp only [ho,Sem.run_bind,hb,Result.andThen_ok,Sem.run_pure,Oper.upon_value]
      exact hkk _ M w (.d (.str (by unfold Pj; rw [List.length_map]; exact hlen))) hG (Ext.refl _ _ _)
     ·cases h
    ·cases h
   ·cases h
  ·cases h
 ·cases h
theorem F0.cs {F:Fx}(hC:L1 F.C){L l:List Oper}{o:Oper}{env:Env}{H:I0}{Q:Env→I0→Prop}{d:Option Nat}{rows:List Row}(h:Ws F.C L o env=some (d,rows)){xs:List Int}(hr:rows=xs.map fun n=>[D.int .u8 n])(k:F0 F L l (put env d (.d (.str (Pj xs)))) H Q):F0 F L (o::l) env H Q:=by
 obtain ⟨h1,h2,h3⟩:=Kv (H:=H) hC h hr
 exact .yields h1 h3 (by rw [J3 h2]; exact k)
theorem AQ.cs {C:Cx}(hC:L1 C){L l:List Oper}{o:Oper}{env:Env}{H:I0}{Q:Env→Prop}{d:Option Nat}{rows:List Row}(h:Ws C L o env=some (d,rows)){xs:List Int}(hr:rows=xs.map fun n=>[D.int .u8 n])(k:AQ C L l (put env d (.d (.str (Pj xs)))) H Q):AQ C L (o::l) env H Q:=by
 obtain ⟨h1,h2,h3⟩:=Kv (H:=H) hC h hr
 exact .y _ h2 h1 h3 k
end Go.Am

namespace Go.Am
theorem okC {C:Cx}[h:Nonempty (L1 C)]:L1 C:=h.elim id
section
variable {C:Cx}{N:FN}{K:Nat}{pn:Value→Env→I0→Prop}{es:Fr→Exit→Act→World→Prop}{L l:List Oper}{o:Oper}{env:Env}{H:I0}
theorem n' {Q:Env→I0→Prop}(h:Q env H):F0 ⟨C,N,K,pn,es⟩ L [] env H Q:=F0.nil h
theorem Qn' {Q:Env→Prop}(h:Q env):AQ C L [] env H Q:=h
theorem an' {cnd:Cnd}{R:Env→Cnd→Prop}(h:R env cnd):AG C L [] env cnd H R:=h
end
section
variable {C:Cx}[Nonempty (L1 C)]{N:FN}{K:Nat}{pn:Value→Env→I0→Prop}{es:Fr→Exit→Act→World→Prop}{L l:List Oper}{o:Oper}{env:Env}{H:I0}
theorem q' {Q:Env→I0→Prop}{d:Option Nat}{x:A}(h:K9 C L o env H=some (d,True,x))(k:F0 ⟨C,N,K,pn,es⟩ L l (put env d x) H Q):F0 ⟨C,N,K,pn,es⟩ L (o::l) env H Q:=F0.q okC h trivial k
theorem qc' {Q:Env→I0→Prop}{d:Option Nat}{c:Prop}{x:A}(h:K9 C L o env H=some (d,c,x))(hc:c)(k:F0 ⟨C,N,K,pn,es⟩ L l (put env d x) H Q):F0 ⟨C,N,K,pn,es⟩ L (o::l) env H Q:=F0.q okC h hc k
theorem qe' {Q:Env→I0→Prop}{d:Option Nat}{c:Prop}{x y:A}(h:K9 C L o env H=some (d,c,x))(hc:c)(e:x=y)(k:F0 ⟨C,N,K,pn,es⟩ L l (put env d y) H Q):F0 ⟨C,N,K,pn,es⟩ L (o::l) env H Q:=F0.qe okC h hc e k
theorem i' {Q:Env→I0→Prop}{d:Option Nat}{rows:List (List D)}{n:Int}{sz:Nat}(h:Cj C L o env=some (d,rows,n,sz)){k:Nat}{r:List D}(hn:n=k)(hk:rows[k]?=some r)(hsz:Nat.beq r.length sz=true)
  (kk:F0 ⟨C,N,K,pn,es⟩ L l (put env d (.ptr r)) H Q):F0 ⟨C,N,K,pn,es⟩ L (o::l) env H Q:=F0.i okC h hn hk hsz kk
theorem x' {Q:Env→I0→Prop}{d:Option Nat}{s:List UInt8}{n:Int}(h:Cl C L o env=some (d,s,n)){k:Nat}{b:UInt8}(hn:n=k)(hk:s[k]?=some b)(kk:F0 ⟨C,N,K,pn,es⟩ L l (put env d (.d (.int .u8 b.toNat))) H Q):F0 ⟨C,N,K,pn,es⟩ L (o::l) env H Q:=F0.x okC h hn hk kk
theorem Q' {Q:Env→Prop}{d:Option Nat}{x:A}(h:K9 C L o env H=some (d,True,x))(k:AQ C L l (put env d x) H Q):AQ C L (o::l) env H Q:=AQ.q okC h trivial k
variable {cnd:Cnd}{R:Env→Cnd→Prop}
theorem a0' {d:Option Nat}{W:Option Bool}{x:A}(h:Ai C L o env cnd H=some (d,W,True,True,x))(k:AG C L l (put env d x) (Z9 cnd d W) H R):AG C L (o::l) env cnd H R:=AG.q okC h (fun _=>⟨trivial,trivial⟩) k
theorem a1' {d:Option Nat}{w:Bool}{x:A}(h:Ai C L o env cnd H=some (d,some w,(w=true∧True),True,x))(k:AG C L l (put env d x) (Z9 cnd d (some w)) H R):AG C L (o::l) env cnd H R:=AG.q okC h (fun h=>⟨⟨h,trivial⟩,trivial⟩) k
theorem a2' {d:Option Nat}{w:Bool}{x:A}(h:Ai C L o env cnd H=some (d,some w,(w=true∧w=true∧True),True,x))(k:AG C L l (put env d x) (Z9 cnd d (some w)) H R):AG C L (o::l) env cnd H R:=AG.q okC h (fun h=>⟨⟨h,h,trivial⟩,trivial⟩) k
theorem ag' {d:Option Nat}{W:Option Bool}{S c:Prop}{x:A}(h:Ai C L o env cnd H=some (d,W,S,c,x))(hs:holds W→S∧c)(k:AG C L l (put env d x) (Z9 cnd d W) H R):AG C L (o::l) env cnd H R:=AG.q okC h hs k
theorem pa' {d:Option Nat}{t xa xb:Bool}(h:Oo C L o env cnd=some ⟨d,none,True,t,(wb t true=true∧True),True,xa,xb⟩)(k:AG C L l (put env d (.d (.bool (bif t then xa else xb)))) (Z9 cnd d none) H R):AG C L (o::l) env cnd H R:=
 AG.p okC h (fun _=>⟨trivial,fun h=>⟨C1a h,trivial⟩,fun _=>trivial⟩) k
theorem po' {d:Option Nat}{t xa xb:Bool}(h:Oo C L o env cnd=some ⟨d,none,True,t,True,(wb t false=true∧True),xa,xb⟩)(k:AG C L l (put env d (.d (.bool (bif t then xa else xb)))) (Z9 cnd d none) H R):AG C L (o::l) env cnd H R:=
 AG.p okC h (fun _=>⟨trivial,fun _=>trivial,fun h=>⟨B1a h,trivial⟩⟩) k
theorem pO' {d:Option Nat}{w t xa xb:Bool}(h:Oo C L o env cnd=some ⟨d,some w,(w=true∧True),t,True,((w&&wb t false)=true∧True),xa,xb⟩)(k:AG C L l (put env d (.d (.bool (bif t then xa else xb)))) (Z9 cnd d (some w)) H R):AG C L (o::l) env cnd H R:=
 AG.p okC h (fun hg=>⟨⟨hg,trivial⟩,fun _=>trivial,fun h=>⟨O19 hg h,trivial⟩⟩) k
end
section
variable {F:Fx}{env:Env}{H:I0}{Q:Po}
theorem s' {id:Nat}{L:List Oper}{b:Code}(hg:Kf L=true)(hd:L.all (F8 F.N)=true)(h:F0 F L L env H (Cf (Yq F b Q))):AEx F (.seq (.region id L.toArray false) b) env H Q:=.seq (.regionN hg hd h)
theorem sg' {id:Nat}{L:List Oper}{b:Code}(n:Nat)(hd:L.all (F8 F.N)=true)(h:AG F.C L (L.take n) env F12 H (fun e c=>F0 F L (L.drop n) (Ux e c) H (Cf (Yq F b Q)))):AEx F (.seq (.region id L.toArray false) b) env H Q:=.seq (.regionG n hd h)
theorem S' {a b:Code}(h:AEx F a env H (Yq F b Q)):AEx F (.seq a b) env H Q:=.seq h
theorem R' {id:Nat}{L:List Oper}(hg:Kf L=true)(hd:L.all (F8 F.N)=true)(h:F0 F L L env H (Cf Q)):AEx F (.region id L.toArray false) env H Q:=.regionN hg hd h
theorem sk' (h:Q .normal env H):AEx F .skip env H Q:=.skip h
theorem bk' {id:Nat}{c:Code}(h:AEx F c env H (Qp id Q)):AEx F (.block id c) env H Q:=.block h
theorem re' (h:Q .ret env H):AEx F .ret env H Q:=.ret h
theorem ex' {id:Nat}(h:Q (.exit id) env H):AEx F (.exit id) env H Q:=.exit h
theorem ci' {c:Operand}{x y:Code}{t:Bool}{α:Type}{A' B':Option α}{r:α}(hc:ev F.C.GL env c = .d (.bool t))(hh:(if t=true then A' else B')=some r)(h1:A'=some r→AEx F x env H Q)(h2:B'=some r→AEx F y env H Q):AEx F (.cond c x y) env H Q:=
 .cond hc (fun hb=>h1 (Ba hb hh)) (fun hb=>h2 (E1a hb hh))
end
def Hr (env:Env):List (Nat×A)→List A
 | []=>[]
 | p::r=>env p.1::Hr env r
def E1:List (Nat×A)→List A
 | []=>[]
 | p::r=>p.2::E1 r
def tkH:I0→I0→I0
 | [],_=>[]
 | _::r,x::H=>x::tkH r H
 | _::_,[]=>[]
def Lf (H:I0):List Nat→List (Option Ob)
 | []=>[]
 | p::r=>nth H p::Lf H r
def Ni (f:Nat→Nat):I0→List (Option Ob)
 | []=>[]
 | x::r=>some (Yg f x)::Ni f r
theorem P18 {k:Nat}{env:Env}:∀ {L:List (Nat×A)},Hr env L=E1 L→W1 k (E1 L)=true→WkE k env L
 | [],_,_=>trivial
 | (t,x)::r,h,hn=>by
  simp only [Hr,E1,List.cons.injEq] at h
  simp only [E1,W1,Bool.and_eq_true] at hn
  exact ⟨⟨by rw [h.1]; exact .rfl,hn.1⟩,P18 h.2 hn.2⟩
theorem Zx {k:Nat}:∀ {H H2:I0},tkH H2 H=H2→H2.all (X11 k)=true→WkH k H H2
 | [],[],_,_=>trivial
 | _::_,[],_,_=>trivial
 | [],y::r,h,_=>by simp [tkH] at h
 | x::H,y::r,h,hn=>by
  simp only [tkH,List.cons.injEq] at h
  simp only [List.all_cons,Bool.and_eq_true] at hn
  obtain ⟨rfl,h⟩:=h
  exact ⟨WkO.same hn.1,Zx h hn.2⟩
def okB (K:Nat)(xs:List A)(H:I0):Bool:=W1 H.length xs&&H.all (X11 H.length)&&Nat.ble K H.length
theorem wk' {K:Nat}{env:Env}{H:I0}{L:List (Nat×A)}{H2:I0}(h1:Hr env L=E1 L)(h2:tkH H2 H=H2)(h3:okB K (E1 L) H2=true):Wk K env H L H2:=by
 simp only [okB,Bool.and_eq_true] at h3
 exact ⟨P18 h1 h3.1.1,Zx h2 h3.1.2,h3.2⟩
theorem lw' {F:Fx}{c:Code}{env:Env}{H:I0}{Q:Po}{L:List (Nat×A)}{H2:I0}(k:Z0 F c (Sa L) H2 Q)(h1:Hr env L=E1 L)(h2:tkH H2 H=H2)(h3:okB F.K (E1 L) H2=true):Z0 F c env H Q:=.wk (wk' h1 h2 h3) k
theorem ew' {F:Fx}{c:Code}{env:Env}{H:I0}{Q:Po}{L:List (Nat×A)}{H2:I0}(k:AEx F c (Sa L) H2 Q)(h1:Hr env L=E1 L)(h2:tkH H2 H=H2)(h3:okB F.K (E1 L) H2=true):AEx F c env H Q:=.wk (wk' h1 h2 h3) k
theorem fw' {F:Fx}{c:Code}{env:Env}{H:I0}{Q:Po}{L:List (Nat×A)}{H2:I0}(k:Z0 F c (Sa L) H2 Q)(h1:Hr env L=E1 L)(h2:tkH H2 H=H2)(h3:okB F.K (E1 L) H2=true):AEx F (.loop c) env H Q:=.ofLoop (.wk (wk' h1 h2 h3) k)
abbrev Ret (H0:I0)(a:A):A→I0→Prop:=fun x H'=>H'=H0∧x=a
theorem rt' {F:Fx}{rs:List ResultVar}{x:A}{env:Env}{H H':I0}(h1:Du F.C.T rs env H=some x)(h2:tkH H' H=H')(h3:okB F.K [x] H'=true):Jf F rs (Ret H' x) .ret env H:=by
 simp only [okB,W1,Bool.and_eq_true,Bool.and_true] at h3
 exact ⟨x,x,H',h1,.rfl,Zx h2 h3.1.2,h3.1.1,h3.2,rfl,rfl⟩
theorem rn' {F:Fx}{rs:List ResultVar}{x:A}{env:Env}{H H':I0}(h1:Du F.C.T rs env H=some x)(h2:tkH H' H=H')(h3:okB F.K [x] H'=true):Jf F rs (Ret H' x) .normal env H:=by
 simp only [okB,W1,Bool.and_eq_true,Bool.and_true] at h3
 exact ⟨x,x,H',h1,.rfl,Zx h2 h3.1.2,h3.1.1,h3.2,rfl,rfl⟩
theorem Yp {f:Nat→Nat}{H:I0}:∀ {idx:List Nat} {cH:I0},Lf H idx=Ni f cH→Jd f H idx cH
 | [],[],_=>trivial
 | p::ps,y::ys,h=>by
  simp only [Lf,Ni,List.cons.injEq] at h
  exact ⟨h.1,Yp h.2⟩
 | [],_::_,h=>by simp [Lf,Ni] at h
 | _::_,[],h=>by simp [Lf,Ni] at h
theorem Q18 {xs ys:List A}(h:xs=ys):LeL xs ys:=by subst h; exact .refl _
theorem g' {F:Fx}{L l:List Oper}{o:Oper}{env:Env}{H H':I0}{Q:Env→I0→Prop}{d:Option Nat}{g:FuncId}{xs:List A}{x y:A}(idx:List Nat){cargs:List A}{cH cH':I0}
  (hc:S0 F.C g cargs cH (Ret cH' x)) (h:F7 F.C L o env=some (d,g,xs)) (hx:Y9 (S2 idx H.length) cargs=xs) (hi:Bd idx H.length=true) (hm:Lf H idx=Ni (S2 idx H.length) cH)
  (hr:frc (ren (S2 idx H.length) x)=some y) (hH:Aa (B5 H idx (S2 idx H.length) (B3 idx cH) cH')=some H') (k:F0 F L l (put (fun t=>dg (B3 idx cH) (env t)) d y) H' Q):F0 F L (o::l) env H Q:=
 .g idx h hc (Q18 hx) hi (Yp hm) hr hH k
theorem c' {F:Fx}{L l:List Oper}{o:Oper}{env:Env}{H:I0}{Q:Env→I0→Prop}{d:Option Nat}{f:FuncId}{xs:List A}{x:A}(hc:S0 F.C f xs [] (Ret [] x))(h:F7 F.C L o env=some (d,f,xs))(hn:W1 0 xs=true)
  (k:F0 F L l (put env d x) H Q):F0 F L (o::l) env H Q:=.c h hn hc k
theorem Qc' {C:Cx}{L l:List Oper}{o:Oper}{env:Env}{H:I0}{Q:Env→Prop}{d:Option Nat}{f:FuncId}{xs:List A}{x:A}(hc:S0 C f xs [] (Ret [] x))(h:F7 C L o env=some (d,f,xs))(hn:W1 0 xs=true)
  (k:AQ C L l (put env d x) H Q):AQ C L (o::l) env H Q:=.c h hn hc k
theorem bs' {α β:Type}{x:Option α}{f:α→Option β}{r:β}(h:(x>>=f)=some r):∃ a,x=some a∧f a=some r:=bind_some h
theorem oi' {α:Type}{a b:α}(h:some a=some b):a=b:=Option.some.inj h
def Jc:Nat→List Prop
 | 0=>[]
 | k+1=>True::Jc k
def Kg (C:Cx)(L:List Oper)(H:I0):Nat→List Oper→Env→Option (List Oper×Env×List Prop)
 | 0,l,env=>some (l,env,[])
 | _+1,[],_=>none
 | k+1,o::l,env=>match K9 C L o env H with
  | some (d,c,x)=>match Kg C L H k l (put env d x) with
   | some (l',e',cs)=>some (l',e',c::cs)
   | none=>none
  | none=>none
theorem Lv {C:Cx}{L:List Oper}{H:I0}{k:Nat}{o:Oper}{l l':List Oper}{env env':Env}(h:Kg C L H (k+1) (o::l) env=some (l',env',Jc (k+1))) :
  ∃ d x,K9 C L o env H=some (d,True,x)∧Kg C L H k l (put env d x)=some (l',env',Jc k):=by
 rw [Kg] at h
 split at h
 ·rename_i d c x hs
  split at h
  ·rename_i l2 e2 cs hr
   simp only [Option.some.injEq,Prod.mk.injEq,Jc,List.cons.injEq] at h
   obtain ⟨rfl,rfl,hc,rfl⟩:=h
   subst hc
   exact ⟨d,x,hs,hr⟩
  ·cases h
 ·cases h
theorem Ay {C:Cx}{L:List Oper}{H:I0}{k:Nat}{l':List Oper}{env:Env}{r:Env×List Prop}(h:Kg C L H (k+1) [] env=some (l',r)):False:=by rw [Kg] at h; cases h
def Iu (C:Cx)(N:Nat)(L:List Oper)(H:I0)(k:Nat)(env:Env):Option (List Oper×Env×List Prop):=bif Kf L&&L.all (F8 N) then Kg C L H k L env else none
theorem Zp {C:Cx}{N:Nat}{L:List Oper}{H:I0}{env:Env}{k:Nat}{r:List Oper×Env×List Prop}(h:Iu C N L H k env=some r):Kf L=true∧L.all (F8 N)=true∧Kg C L H k L env=some r:=by
 unfold Iu at h
 cases hb:Kf L&&L.all (F8 N) with
 | false=>rw [hb] at h; cases h
 | true=>rw [hb] at h; simp only [Bool.and_eq_true] at hb; exact ⟨hb.1,hb.2,h⟩
section
variable {C:Cx}[Nonempty (L1 C)]{N:FN}{K:Nat}{pn:Value→Env→I0→Prop}{es:Fr→Exit→Act→World→Prop}{L l l':List Oper}{env env':Env}{H:I0}
theorem o' (k:Nat){Q:Env→I0→Prop}(h:Kg C L H k l env=some (l',env',Jc k))(n:F0 ⟨C,N,K,pn,es⟩ L l' env' H Q):F0 ⟨C,N,K,pn,es⟩ L l env H Q:=by
 induction k generalizing l env with
 | zero=>rw [Kg] at h; cases h; exact n
 | succ k ih=>cases l with
  | nil=>exact (Ay h).elim
  | cons o l=>
   obtain ⟨d,x,hs,hr⟩:=Lv h
   exact q' hs (ih hr)
theorem O' (k:Nat){Q:Env→Prop}(h:Kg C L H k l env=some (l',env',Jc k))(n:AQ C L l' env' H Q):AQ C L l env H Q:=by
 induction k generalizing l env with
 | zero=>rw [Kg] at h; cases h; exact n
 | succ k ih=>cases l with
  | nil=>exact (Ay h).elim
  | cons o l=>
   obtain ⟨d,x,hs,hr⟩:=Lv h
   exact Q' hs (ih hr)
theorem e' {Q:Env→I0→Prop}(h:Kg C L H l.length l env=some ([],env',Jc l.length))(n:Q env' H):F0 ⟨C,N,K,pn,es⟩ L l env H Q:=o' _ h (n' n)
theorem E' {Q:Env→Prop}(h:Kg C L H l.length l env=some ([],env',Jc l.length))(n:Q env'):AQ C L l env H Q:=O' _ h (Qn' n)
theorem p' (k:Nat){id:Nat}{b:Code}{Q:Po}(h:Iu C N L H k env=some (l',env',Jc k))(n:F0 ⟨C,N,K,pn,es⟩ L l' env' H (Cf (Yq ⟨C,N,K,pn,es⟩ b Q))):AEx ⟨C,N,K,pn,es⟩ (.seq (.region id L.toArray false) b) env H Q:=by
 obtain ⟨h1,h2,h3⟩:=Zp h
 exact s' h1 h2 (o' k h3 n)
theorem t' {id:Nat}{b:Code}{Q:Po}(h:Iu C N L H L.length env=some ([],env',Jc L.length))(n:AEx ⟨C,N,K,pn,es⟩ b env' H Q):AEx ⟨C,N,K,pn,es⟩ (.seq (.region id L.toArray false) b) env H Q:=by
 obtain ⟨h1,h2,h3⟩:=Zp h
 exact s' h1 h2 (e' h3 n)
theorem P' (k:Nat){id:Nat}{Q:Po}(h:Iu C N L H k env=some (l',env',Jc k))(n:F0 ⟨C,N,K,pn,es⟩ L l' env' H (Cf Q)):AEx ⟨C,N,K,pn,es⟩ (.region id L.toArray false) env H Q:=by
 obtain ⟨h1,h2,h3⟩:=Zp h
 exact R' h1 h2 (o' k h3 n)
theorem T' {id:Nat}{Q:Po}(h:Iu C N L H L.length env=some ([],env',Jc L.length))(n:Q .normal env' H):AEx ⟨C,N,K,pn,es⟩ (.region id L.toArray false) env H Q:=by
 obtain ⟨h1,h2,h3⟩:=Zp h
 exact R' h1 h2 (e' h3 n)
def Cy (C:Cx)(L:List Oper)(H:I0):Nat→List Oper→Env→Cnd→Option (List Oper×Env×Cnd×List Prop×List Prop)
 | 0,l,env,cnd=>some (l,env,cnd,[],[])
 | _+1,[],_,_=>none
 | k+1,o::l,env,cnd=>match Ai C L o env cnd H with
  | some (d,W,S,c,x)=>match Cy C L H k l (put env d x) (Z9 cnd d W) with
   | some (l',e',n',ss,cs)=>some (l',e',n',S::ss,c::cs)
   | none=>none
  | none=>none
theorem G' (k:Nat){cnd cnd':Cnd}{R:Env→Cnd→Prop}(h:Cy C L H k l env cnd=some (l',env',cnd',Jc k,Jc k))(n:AG C L l' env' cnd' H R):AG C L l env cnd H R:=by
 induction k generalizing l env cnd with
 | zero=>rw [Cy] at h; cases h; exact n
 | succ k ih=>cases l with
  | nil=>rw [Cy] at h; cases h
  | cons o l=>
   rw [Cy] at h
   split at h
   ·rename_i d W S c x hs
    split at h
    ·rename_i l2 e2 n2 ss cs hr
     simp only [Option.some.injEq,Prod.mk.injEq,Jc,List.cons.injEq] at h
     obtain ⟨rfl,rfl,rfl,⟨hS,rfl⟩,hc,rfl⟩:=h
     subst hS; subst hc
     exact a0' hs (ih hr)
    ·cases h
   ·cases h
end
def sub (i:Nat)(c:Code):Code:=match i with
 | 0=>sl c
 | 1=>sr c
 | 2=>ca c
 | 3=>cb c
 | 4=>bk c
 | _=>lo c
def kon (F:Fx)(i:Nat)(c:Code)(Q:Po):Po:=match i with
 | 0=>Yq F (sr c) Q
 | 4=>match c with
  | .block id _=>Qp id Q
  | _=>Q
 | 5=>U16 F (lo c) Q
 | _=>Q
def pc:Code→List Nat→Code
 | c,[]=>c
 | c,i::p=>pc (sub i c) p
def pk (F:Fx):Code→List Nat→Po→Po
 | _,[],Q=>Q
 | c,i::p,Q=>pk F (sub i c) p (kon F i c Q)
abbrev LM (C:Cx)(n K:Nat)(f:Func)(p:List Nat)(E:List (Nat×A))(H:I0)(R:A→I0→Prop):Prop:=
 Z0 (fx C n K) (lo (pc (Bi f) p)) (Sa E) H (pk (fx C n K) (Bi f) p (Jf (fx C n K) f.results.toList R))
abbrev JM (C:Cx)(n K:Nat)(f:Func)(p:List Nat)(E:List (Nat×A))(H:I0)(R:A→I0→Prop):Prop:=
 AEx (fx C n K) (pc (Bi f) p) (Sa E) H (pk (fx C n K) (Bi f) p (Jf (fx C n K) f.results.toList R))
end Go.Am

namespace Go.Am
open Go.ChangeShapes Go.WideShapes
section
variable {P:Program}{W:World}
theorem So:∀ {laid:List (String×DataW Unit)} {ps:List MemPlace},DataW.LaidVars P W laid ps→∀ (i:Nat) n d,laid[i]?=some (n,d)→
  ∃ g t cs fuel p,P.globalNamed n=some g∧(P.globals[g]?).map (·.type)=some t∧W.var? P n=some cs∧DataW.trod (fun _=>()) P W 0 (fun _=>true) false fuel t cs.toList=some (d,p)
 | [],_,_,i,n,d,hi=>by simp at hi
 | (m,e)::r,ps,h,i,n,d,hi=>by
  obtain ⟨g,t,cs,fuel,p,q,h1,h2,h3,h4,h5,_⟩:=h
  cases i with
  | zero=>cases hi; exact ⟨g,t,cs,fuel,p,h1,h2,h3,h4⟩
  | succ i=>exact So h5 i n d (by simpa using hi)
theorem C14 {name:String}{g:Nat}{cs:Array Value}(hg:P.globalNamed name=some g)(h:W.var? P name=some cs){i:Nat}{v:Value}(hi:cs[i]?=some v):La W ⟨g,i,none⟩=some v:=by
 have:=World.var?_cell hg h i
 unfold La
 rw [if_pos rfl,this,hi]
theorem A10 {laid:List (String×DataW Unit)}(h:laidMet P laid W)(i:Nat){name:String}{k:IntKind}{zs:List Int}(hi:laid[i]?=some (name,Lib.tabData k zs)){g:Nat}{t e:TypeId}{n:Nat}
  (hg:P.globalNamed name=some g) (hty:(P.globals[g]?).map (·.type)=some t) (ht:P.underlying t=some (.array n e)) (he:P.underlying e=some (.int k)) (hce:P.cellsOf e=1) (hct:P.cellsOf t=n) :
  Lib.TabIs P W name k zs∧∀ (j:Nat) z,zs[j]?=some z→La W ⟨g,j,none⟩=some (.int k z):=by
 obtain ⟨ps,hv,_⟩:=h
 obtain ⟨g',t',cs,fuel,p,h1,h2,h3,h4⟩:=So hv i _ _ hi
 obtain rfl:=Option.some.inj (hg.symm.trans h1)
 obtain rfl:=Option.some.inj (hty.symm.trans h2)
 have hc:=Lib.cells_of_tab ht he hce hct h4
 have hT:Lib.TabIs P W name k zs:=by unfold Lib.TabIs; rw [h3,← hc]
 exact ⟨hT,fun j z hz=>C14 hg h3 (by rw [← Array.getElem?_toList,hc,List.getElem?_map,hz]; rfl)⟩
theorem I12 {M:Mem}{w w':World}{name:String}{k:IntKind}{zs:List Int}{g:Nat}(hg:P.globalNamed name=some g)(h0:0 < zs.length)(hM:∀ (j:Nat) z,zs[j]?=some z→M ⟨g,j,none⟩=some (.int k z))
  (hb:∀ b,Ox M w b→w'.heap[b]?=w.heap[b]?) (h:Lib.TabIs P w name k zs):Lib.TabIs P w' name k zs:=by
 unfold Lib.TabIs at h ⊢
 simp only [World.var?,hg,Option.bind_some] at h ⊢
 split at h
 ·rename_i cs t f hc
  have hcs:=Option.some.inj h
  rw [hb g ⟨cs,t,f,hc,by rw [hcs]; simpa using h0,fun i hi=>?_⟩,hc]
  ·exact h
  ·rw [hcs] at hi
   have hi':i < zs.length:=by simpa using hi
   rw [hM i zs[i] (List.getElem?_eq_getElem hi')]
   simp
 ·cases h
end
end Go.Am

namespace Go.Am
theorem D14 {cs:Row}(h:cs.length≠1):Db cs = .agg (cs.map .d):=by
 match cs,h with
 | [],_=>rfl
 | [x],h=>exact absurd rfl h
 | _::_::_,_=>rfl
theorem U17 {cs:Row}(h:cs.length=1):∃ x,cs=[x]:=by
 match cs,h with
 | [x],_=>exact ⟨x,rfl⟩
theorem E14 {M:Mem}{G:Nat→Value}{cs:Row}{E1:Nat→Value}(h:∀ (j:Nat) x,cs[j]?=some x→B2 M x (E1 j)):N0 M G (Db cs) (P11 cs.length E1):=by
 by_cases h1:cs.length=1
 ·obtain ⟨x,rfl⟩:=U17 h1
  exact .d (h 0 x rfl)
 ·rw [D14 h1]
  unfold P11
  rw [if_neg h1]
  refine .agg (by simp) (fun i v hv=>?_) fun i x v hx hv=>?_
  ·rw [List.getElem?_toArray,List.getElem?_map] at hv
   cases hr:(List.range cs.length)[i]? with
   | none=>rw [hr] at hv; cases hv
   | some k=>
    rw [hr] at hv
    simp only [Option.map_some,Option.some.injEq] at hv
    obtain ⟨hi,hk⟩:=List.getElem?_eq_some_iff.1 hr
    simp at hi hk
    subst hk; subst hv
    exact (h i _ (List.getElem?_eq_getElem hi)).one
  ·rw [List.getElem?_toArray,List.getElem?_map] at hv
   rw [List.getElem?_map] at hx
   cases hr:(List.range cs.length)[i]? with
   | none=>rw [hr] at hv; cases hv
   | some k=>
    rw [hr] at hv
    simp only [Option.map_some,Option.some.injEq] at hv
    obtain ⟨hi,hk⟩:=List.getElem?_eq_some_iff.1 hr
    simp at hi hk
    subst hk; subst hv
    cases hc:cs[i]? with
    | none=>rw [hc] at hx; cases hx
    | some y=>
     rw [hc] at hx
     simp only [Option.map_some,Option.some.injEq] at hx
     subst hx
     exact .d (h i y hc)
end Go.Am

namespace Go.Am
def To:D→Option (List (List UInt8×Row))
 | .mp es=>some es
 | .nilv .map=>some []
 | _=>none
def Aq (C:Cx)(L:List Oper)(o:Oper)(env:Env):Option (Option Nat×D×List UInt8×Bool×A):=
 match D1 L env o,o.op,G5 o with
 | some true,.lookup t x y ok,some d=>match Y1 C.T t,ev C.GL env x,ev C.GL env y with
  | some i,.d xd,.d (.str k)=>match i.u with
   | .map kt et=>match Y1 C.T kt,Y1 C.T et with
    | some ki,some ei=>match ki.u,frc (Wp ei) with
     | .str,some z=>some (d,xd,k,ok,z)
     | _,_=>none
    | _,_=>none
   | _=>none
  | _,_,_=>none
 | _,_,_=>none
theorem Uo {C:Cx}(hC:L1 C){L:List Oper}{o:Oper}{env:Env}{H:I0}{d:Option Nat}{xd:D}{k:List UInt8}{ok:Bool}{z:A}{es:List (List UInt8×Row)}(h:Aq C L o env=some (d,xd,k,ok,z))(he:To xd=some es) :
  D1 L env o=some true∧G5 o=some d∧E4 C o env H (lkA (Q3 k es) z ok):=by
 unfold Aq at h
 split at h
 ·rename_i t x y ok' d' hw ho hd
  split at h
  ·rename_i i xd' k' ht hx hy
   split at h
   ·rename_i kt et hu
    split at h
    ·rename_i ki ei hki hei
     split at h
     ·rename_i z' hku hz
      simp only [Option.some.injEq,Prod.mk.injEq] at h
      obtain ⟨rfl,rfl,rfl,rfl,rfl⟩:=h
      refine ⟨hw,hd,?_⟩
      intro M G w a next Qw hρ hG hgl hH hkk
      have hz':=Xe hz
      subst hz'
      rw [ho] at hρ
      have hxr:=hρ x (by simp [Op.operands])
      have hyr:=hρ y (by simp [Op.operands])
      rw [hx] at hxr
      rw [hy] at hyr
      generalize hxv:a.eval x=xv at hxr
      generalize hyv:a.eval y=yv at hyr
      cases hxr; rename_i hxr
      cases hyr; rename_i hyr; cases hyr
      have hd:=Tf (hC.tok.facts ht) hu
      have hkd:=Ra (hC.tok.facts hki) hku
      obtain ⟨zv,hzr,hzrel⟩:=Hv hC.tok hei M G
      have key:∃ v,(Instr.lookup t xv (.string ⟨k'.toArray⟩) ok').run C.P w = .ok v w∧N0 M G (lkA (Q3 k' es) (Wp ei) ok') v:=by
       cases hxr with
       | nilmap=>
        simp only [To,Option.some.injEq] at he
        subst he
        refine ⟨if ok' then .tuple #[zv,.bool false] else zv,?_,?_⟩
        ·simp [Instr.lookup,run_underlying hd,T7 hkd,Instr.findKey,run_underlying hkd,Instr.findNow,hzr w]
        ·cases ok' with
         | false=>simpa [lkA,Q3] using hzrel
         | true=>
          refine .tup rfl fun i x v hx hv=>?_
          match i with
          | 0=>simp at hx hv; subst hx; subst hv; exact hzrel
          | 1=>simp at hx hv; subst hx; subst hv; exact .d .bool
          | _+2=>simp at hx
       | mpnil=>
        simp only [To,Option.some.injEq] at he
        subst he
        refine ⟨if ok' then .tuple #[zv,.bool false] else zv,?_,?_⟩
        ·simp [Instr.lookup,run_underlying hd,T7 hkd,Instr.findKey,run_underlying hkd,Instr.findNow,hzr w]
        ·cases ok' with
         | false=>simpa [lkA,Q3] using hzrel
         | true=>
          refine .tup rfl fun i x v hx hv=>?_
          match i with
          | 0=>simp at hx hv; subst hx; subst hv; exact hzrel
          | 1=>simp at hx hv; subst hx; subst hv; exact .d .bool
          | _+2=>simp at hx
       | @mp es' b ms E1 hM hl hk hv=>
        simp only [To,Option.some.injEq] at he
        subst he
        obtain ⟨ms2,cl,g2,henc⟩:∃ ms2 cl,w.heap[b]?=some (.map ms2 cl)∧Uq ms=Uq ms2:=by
         rcases hG _ _ hM with ⟨h1,_⟩ | ⟨_,ms2,cl,h1,h2⟩
         ·cases h1
         ·exact ⟨ms2,cl,h1,h2⟩
        have hmap:ms.map (fun e=>Value.tuple #[e.key,e.val])=ms2.map (fun e=>Value.tuple #[e.key,e.val]):=by
         unfold Uq at henc
         simpa using henc
        have hsz:ms.size=ms2.size:=by simpa using congrArg Array.size hmap
        have hent:∀ (i:Nat) e,ms2[i]?=some e→∃ e',ms[i]?=some e'∧e'.key=e.key∧e'.val=e.val:=fun i e hi=>by
         have hlt:i < ms.size:=by rw [hsz]; exact (Array.getElem?_eq_some_iff.1 hi).1
         have:=congrArg (fun l=>l[i]?) hmap
         simp only [Array.getElem?_map,hi,Array.getElem?_eq_getElem hlt,Option.map_some,Option.some.injEq,Value.tuple.injEq] at this
         refine ⟨ms[i],Array.getElem?_eq_getElem hlt,?_,?_⟩
         ·exact (by simpa using this:_∧_).1
         ·exact (by simpa using this:_∧_).2
        have hkeys:∀ (n:Nat) k' cs e,es'[n]?=some (k',cs)→ms2.toList[n]?=some e→e.key = .string ⟨k'.toArray⟩:=fun n k' cs e a b=>by
         obtain ⟨e',h1,h2,_⟩:=hent n e (by simpa using b)
         rw [← h2]; exact (hk n k' cs e' a h1).1
        rcases Jj (k:=k') (i:=0) (by rw [← hl,hsz]; simp) hkeys with ⟨h1,h2,_⟩ | ⟨n,cs,e,h1,h2,h3,h4,_⟩
        ·refine ⟨if ok' then .tuple #[zv,.bool false] else zv,?_,?_⟩
         ·simp [Instr.lookup,run_underlying hd,Ee g2,T7 hkd,Instr.findKey,run_underlying hkd,h2,hzr w]
         ·rw [h1]
          cases ok' with
          | false=>simpa [lkA] using hzrel
          | true=>
           refine .tup rfl fun i x v hx hv=>?_
           match i with
           | 0=>simp at hx hv; subst hx; subst hv; exact hzrel
           | 1=>simp at hx hv; subst hx; subst hv; exact .d .bool
           | _+2=>simp at hx
        ·have hev:N0 M G (Db cs) e.val:=by
          obtain ⟨e',q1,_,q3⟩:=hent n e (by simpa using h3)
          rw [← q3,(hk n k' cs e' h1 q1).2.2]
          exact E14 fun j x hx=>hv n j k' cs x h1 hx
         refine ⟨if ok' then .tuple #[e.val,.bool true] else e.val,?_,?_⟩
         ·simp [Instr.lookup,run_underlying hd,Ee g2,T7 hkd,Instr.findKey,run_underlying hkd,h4]
         ·rw [h2]
          cases ok' with
          | false=>simpa [lkA] using hev
          | true=>
           refine .tup rfl fun i x v hx hv=>?_
           match i with
           | 0=>simp at hx hv; subst hx; subst hv; exact hev
           | 1=>simp at hx hv; subst hx; subst hv; exact .d .bool
           | _+2=>simp at hx
       | _=>simp [To] at he
      obtain ⟨v,hv,hrel⟩:=key
      unfold Oper.wp execOp
      simp only [ho,hxv,hyv,Sem.run_bind,hv,Result.andThen_ok,Sem.run_pure,Oper.upon_value]
      exact hkk _ M w hrel hG (Ext.refl _ _ _)
     ·cases h
    ·cases h
   ·cases h
  ·cases h
 ·cases h
theorem F0.fl {F:Fx}(hC:L1 F.C){L l:List Oper}{o:Oper}{env:Env}{H:I0}{Q:Env→I0→Prop}{d:Option Nat}{xd:D}{k:List UInt8}{ok:Bool}{z y:A}{es:List (List UInt8×Row)}(h:Aq F.C L o env=some (d,xd,k,ok,z))
  (he:To xd=some es) (e:lkA (Q3 k es) z ok=y) (kk:F0 F L l (put env d y) H Q):F0 F L (o::l) env H Q:=by
 subst e
 obtain ⟨h1,h2,h3⟩:=Uo (H:=H) hC h he
 refine .yields h1 h3 ?_
 rw [J3 h2]
 exact kk
theorem AG.fl {C:Cx}(hC:L1 C){L l:List Oper}{o:Oper}{env:Env}{cnd:Cnd}{H:I0}{Q:Env→Cnd→Prop}{W:Option Bool}{d:Option Nat}{xd:D}{k:List UInt8}{ok:Bool}{z y:A}{es:List (List UInt8×Row)}(hw:Fe L env cnd o=some W)
  (h:Aq C [] (noG o) env=some (d,xd,k,ok,z)) (hs:holds W→Ta cnd (Vj o)) (he:holds W→To xd=some es) (e:lkA (Q3 k es) z ok=y) (kk:AG C L l (put env d y) (Z9 cnd d W) H Q):AG C L (o::l) env cnd H Q:=by
 subst e
 by_cases hh:holds W
 ·obtain ⟨_,h2,h3⟩:=Uo (H:=H) hC h (he hh)
  exact .lift h2 hw hs (fun _=>h3) kk
 ·refine .lift (d:=d) ?_ hw hs (fun h'=>absurd h' hh) kk
  unfold Aq at h
  split at h
  ·rename_i hd
   split at h
   ·split at h
    ·split at h
     ·split at h
      ·simp only [Option.some.injEq,Prod.mk.injEq] at h
       obtain ⟨rfl,_⟩:=h
       exact hd
      ·cases h
     ·cases h
    ·cases h
   ·cases h
  ·cases h
end Go.Am

namespace Go.Am
def Ci (F:Fx)(L:List Oper)(o:Oper)(env:Env)(H:I0)(x:A)(H':I0):Prop:=
 ∀ env' K,(∀ t∈H6 L o,env' t=env t)→∀ Q:Env→I0→Prop,Q (put env' o.dst x) H'→F0 ⟨F.C,F.N,K,Nh,Ad⟩ L [o] env' H Q
def Di (ps:List Nat):Nat→I0→I0
 | _,[]=>[]
 | n,x::r=>(bif ps.contains n then .dead else x)::Di ps (n+1) r
def W2 (ps:List Nat)(H:I0):I0:=Di ps 0 H
theorem Xs {ps:List Nat}:∀ {H:I0} {k n:Nat},(Di ps k H)[n]?=(H[n]?).map fun x=>bif ps.contains (k+n) then Ob.dead else x
 | [],k,n=>by simp [Di]
 | x::r,k,0=>by simp [Di]
 | x::r,k,n+1=>by
  simp only [Di,List.getElem?_cons_succ]
  rw [Xs,show k+1+n=k+(n+1) by omega]
theorem X8 {ps:List Nat}{H:I0}{n:Nat}:(W2 ps H)[n]?=(H[n]?).map fun x=>bif ps.contains n then Ob.dead else x:=by
 unfold W2; rw [Xs,Nat.zero_add]
theorem B8 {ps:List Nat}{H:I0}:(W2 ps H).length=H.length:=by
 have key:∀ (H:I0) (k:Nat),(Di ps k H).length=H.length:=by
  intro H
  induction H with
  | nil=>intro k; rfl
  | cons x r ih=>intro k; simp only [Di,List.length_cons,ih]
 exact key H 0
theorem Dy {H:I0}:W2 [] H=H:=by
 apply List.ext_getElem?
 intro n
 rw [X8]
 cases H[n]? <;> simp
theorem Ju {GL:GT}{env env':Env}{o:Oper}(h:∀ y∈o.op.operands,ev GL env' y=ev GL env y):V8 GL env' o=V8 GL env o:=by
 unfold V8
 split
 ·rename_i fo as ts ho
  rw [ho] at h
  rw [h fo (by simp [Op.operands,Call.operands])]
  have:as.toList.map (ev GL env')=as.toList.map (ev GL env):=List.map_congr_left fun y hy=>h y (by simp only [Op.operands,Call.operands,Array.mem_append]; exact .inr (by simpa using hy))
  rw [this]
 ·rfl
theorem B10 {C:Cx}{L:List Oper}{env env':Env}{o:Oper}(h:∀ t∈H6 L o,env' t=env t):F7 C L o env'=F7 C L o env:=by
 unfold F7
 rw [Df h,Ju fun y hy=>Sj fun t ht=>h t (by
  subst ht
  simp only [H6,List.mem_append,List.mem_filterMap]
  exact .inl ⟨.tmp t,by simpa using hy,rfl⟩)]
theorem Ei:∀ l:List A,Hc l=some l
 | []=>rfl
 | x::r=>by simp only [Hc,Ei r]
theorem Mv:∀ l:List D,Zq l=some l
 | []=>rfl
 | x::r=>by simp only [Zq,Mv r]
theorem Q15 (x:A):frc x=some x:=by
 cases x with
 | d y=>cases y <;> rfl
 | ptr cs=>simp only [frc,Mv]
 | clo f cs=>simp only [frc,Ei]
 | bnd f cs=>simp only [frc,Ei]
 | agg cs=>simp only [frc,Ei]
 | tup cs=>simp only [frc,Ei]
 | _=>rfl
theorem Nv:∀ l:List A,Er l=some l
 | []=>rfl
 | x::r=>by simp only [Er,Q15,Nv r]
theorem Ov:∀ H:I0,Aa H=some H
 | []=>rfl
 | x::r=>by
  have ih:=Ov r
  cases x <;> simp only [Aa,Nv,ih]
theorem Ci.g {F:Fx}{L:List Oper}{o:Oper}{env:Env}{H H':I0}{d:Option Nat}{g:FuncId}{xs:List A}{x y:A}(idx:List Nat){cargs:List A}{cH cH':I0}{un:List Nat}
  (hc:S0 F.C g cargs cH (Ret cH' x)) (h:F7 F.C L o env=some (d,g,xs)) (hx:Y9 (S2 idx H.length) cargs=xs) (hi:Bd idx H.length=true) (hm:Lf H idx=Ni (S2 idx H.length) cH)
  (ht:B3 idx cH=[]) (hr:frc (ren (S2 idx H.length) x)=some y) (hH:Aa (B5 H idx (S2 idx H.length) (B3 idx cH) cH')=some H')
  (hun:(idx.all (fun p=>!un.contains p)&&un.all (fun p=>Nat.blt p H.length)&&Nat.ble idx.length cH'.length)=true) :
  ∀ ps:List Nat,(∀ p∈ps,p∈un)→Ci F L o env (W2 ps H) y (W2 ps H'):=by
 simp only [Bool.and_eq_true,List.all_eq_true] at hun
 obtain ⟨⟨u1,u2⟩,u3⟩:=hun
 have u3:=Nat.le_of_ble_eq_true u3
 intro ps hps env' K he Q hq
 have h':=h
 rw [← B10 he] at h'
 have hd:=(G8 h).2.2
 have hout:∀ p∈idx,ps.contains p=false:=fun p hp=>by
  have:=u1 p hp
  cases hb:ps.contains p with
  | false=>rfl
  | true=>
   have h1:=hps p (by simpa using hb)
   have h2:un.contains p=true:=by simpa using h1
   rw [h2] at this; cases this
 have hsel:∀ l:List Nat,(∀ p∈l,p∈idx)→Lf (W2 ps H) l=Lf H l:=by
  intro l
  induction l with
  | nil=>intro _; rfl
  | cons p r ih=>
   intro hl
   simp only [Lf]
   rw [ih fun q hq=>hl q (List.mem_cons_of_mem _ hq),O2,O2,X8]
   have:=hout p (hl p List.mem_cons_self)
   cases H[p]? with
   | none=>rfl
   | some z=>simp only [Option.map_some,this,cond_false]
 have hmg:B5 (W2 ps H) idx (S2 idx H.length) (B3 idx cH) cH'=W2 ps (B5 H idx (S2 idx H.length) (B3 idx cH) cH'):=by
  apply List.ext_getElem?
  intro n
  rw [Jn u3,X8,X8,Jn u3,B8]
  by_cases hn:n < H.length
  ·rw [if_pos hn,if_pos hn]
   cases hf:fnd idx n with
   | none=>
    simp only
    rw [ht]
    cases H[n]? with
    | none=>rfl
    | some z=>
     simp only [Option.map_some]
     cases ps.contains n <;> simp only [cond_true,cond_false,dgO]
   | some i=>
    simp only
    have hin:n∈idx:=List.mem_of_getElem? (Kd hf)
    cases cH'[i]? with
    | none=>rfl
    | some z=>simp only [Option.map_some,hout n hin,cond_false]
  ·rw [if_neg hn,if_neg hn]
   have:ps.contains n=false:=by
    cases hb:ps.contains n with
    | false=>rfl
    | true=>
     have h1:=hps n (by simpa using hb)
     have:=Nat.le_of_ble_eq_true (u2 n h1)
     exact absurd this hn
   cases cH'[idx.length+(n - H.length)]? with
   | none=>rfl
   | some z=>simp only [Option.map_some,this,cond_false]
 have hHe:=Qb hH
 refine g' idx hc h' (by rw [B8]; exact hx) (by rw [B8]; exact hi) (by rw [B8,hsel idx fun _ h=>h]; exact hm) (by rw [B8]; exact hr) (H':=W2 ps H') ?_ (F0.nil ?_)
 ·rw [B8,hmg,← hHe]
  exact Ov _
 ·rw [show (fun t=>dg (B3 idx cH) (env' t))=env' from by funext t; rw [ht,Vx]]
  rw [← hd]
  exact hq
def loN (L:List Oper)(ls:List Nat)(j:Nat):Nat:=(ls.filter fun l=>Ka L L.length j l).length
def hiN (L:List Oper)(ls:List Nat)(j:Nat):Nat:=(ls.filter fun l=>!Ka L L.length l j).length
def Fb:List (Nat×Nat)→Nat→Option Nat
 | [],_=>none
 | q::r,j=>bif Nat.beq q.1 j then some q.2 else Fb r j
def unw (L:List Oper):List (Nat×Nat)→Nat→List Nat
 | [],_=>[]
 | q::r,j=>bif Ka L L.length j q.1 then unw L r j else q.2::unw L r j
def Ey (F:Fx)(L:List Oper)(o:Oper)(env:Env)(t:TypeId)(cs:List A):Prop:=
 ∀ env' H M G w (a:Act),(∀ u∈H6 L o,env' u=env u)→St F.C F.N M G w env' H a→∃ vs,V9 M G cs vs∧(execOp a.eval o).run F.C.P w = .ok (.value (.pointer (some ⟨w.heap.size,0,none⟩))) (w.alloc (.cells vs t))
def AS (F:Fx)(L:List Oper)(ls:List Nat)(fs:List (Nat×Nat))(Hs:List I0):Nat→Nat→List Oper→Env→(Env→Prop)→Prop
 | _,_,[],env,Q=>Q env
 | j,i,o::r,env,Q=>
  (∃ d x,o.dst=d∧ls.contains j=false∧Fb fs j=none∧(∀ H∈Hs.drop (loN L ls j),∀ ps:List Nat,(∀ p∈ps,p∈unw L fs j)→Al F.C L o env (W2 ps H) x)∧AS F L ls fs Hs (j+1) i r (put env d x) Q)∨
  (∃ x H H',nth ls i=some j∧Fb fs j=none∧D1 L env o=some true∧nth Hs i=some H∧nth Hs (i+1)=some H'∧(∀ ps:List Nat,(∀ p∈ps,p∈unw L fs j)→Ci F L o env (W2 ps H) x (W2 ps H'))∧
   AS F L ls fs Hs (j+1) (i+1) r (put env o.dst x) Q)∨
  (∃ t cs p,Fb fs j=some p∧ls.contains j=false∧D1 L env o=some true∧Ey F L o env t cs∧(∀ H∈Hs.take (hiN L ls j+1),nth H p=some (.row cs t))∧AS F L ls fs Hs (j+1) i r (put env o.dst (.ref p 0)) Q)
def Fy (L:List Oper)(ls:List Nat)(n:Nat):Bool:=
 (List.range ls.length).all fun i=>(match nth ls i with | some j=>Nat.blt j n | none=>true)&&(List.range i).all fun k=>match nth ls i,nth ls k with | some j,some l=>Nat.blt l j&&Ka L L.length j l | _,_=>true
theorem C10 {L:List Oper}{ls:List Nat}{n:Nat}(h:Fy L ls n=true):(∀ l∈ls,l < n)∧∀ (s k j l:Nat),ls[s]?=some j→ls[k]?=some l→k < s→l < j∧Ka L L.length j l=true:=by
 unfold Fy at h
 refine ⟨fun l hl=>?_,fun s k j l hs hk hlt=>?_⟩
 ·obtain ⟨i,hi⟩:=List.getElem?_of_mem hl
  have h1:=List.all_eq_true.1 h i (List.mem_range.2 (List.getElem?_eq_some_iff.1 hi).1)
  simp only [Bool.and_eq_true,O2,hi] at h1
  exact Nat.le_of_ble_eq_true h1.1
 ·have h1:=List.all_eq_true.1 h s (List.mem_range.2 (List.getElem?_eq_some_iff.1 hs).1)
  simp only [Bool.and_eq_true] at h1
  have h2:=List.all_eq_true.1 h1.2 k (List.mem_range.2 hlt)
  simp only [O2,hs,hk,Bool.and_eq_true] at h2
  exact ⟨Nat.le_of_ble_eq_true h2.1,h2.2⟩
def K4 (ls:List Nat)(listed:Array Bool):Nat:=(ls.filter fun l=>listed.getD l false).length
theorem Gy {ls:List Nat}{listed:Array Bool}(h:∀ l∈ls,listed.getD l false=true):K4 ls listed=ls.length:=by
 unfold K4
 rw [List.filter_eq_self.2 h]
theorem F14 {ls:List Nat}{listed:Array Bool}(h:∀ l,listed.getD l false=false):K4 ls listed=0:=by
 unfold K4
 rw [List.filter_eq_nil_iff.2 fun l _=>by rw [h l]; simp]
 rfl
theorem Vo {ls:List Nat}{listed:Array Bool}{j:Nat}(h:j ∉ ls):K4 ls (listed.setIfInBounds j true)=K4 ls listed:=by
 unfold K4
 congr 1
 refine List.filter_congr fun l hl=>?_
 exact getD_set_ne false (fun e=>h (by rw [e]; exact hl))
theorem W10:∀ {ls:List Nat} {listed:Array Bool} {s j:Nat},ls[s]?=some j→(∀ (k l:Nat),k < s→ls[k]?=some l→listed.getD l false=true)→(∀ (k l:Nat),s≤k→ls[k]?=some l→listed.getD l false=false)→K4 ls listed=s
 | [],_,s,j,h,_,_=>by simp at h
 | x::r,listed,0,j,h,h1,h2=>by
  unfold K4
  rw [List.filter_eq_nil_iff.2 fun l hl=>by
   obtain ⟨k,hk⟩:=List.getElem?_of_mem hl
   rw [h2 k l (Nat.zero_le _) hk]; simp]
  rfl
 | x::r,listed,s+1,j,h,h1,h2=>by
  have ih:=W10 (ls:=r) (listed:=listed) (s:=s) (j:=j) (by simpa using h) (fun k l hk hl=>h1 (k+1) l (by omega) (by simpa using hl)) (fun k l hk hl=>h2 (k+1) l (by omega) (by simpa using hl))
  unfold K4 at ih ⊢
  have hx:=h1 0 x (by omega) rfl
  rw [List.filter_cons,if_pos hx,List.length_cons,ih]
theorem Hy:∀ {ls:List Nat} {listed:Array Bool} {s j:Nat},(∀ (a b x y:Nat),ls[a]?=some x→ls[b]?=some y→a < b→x < y)→ls[s]?=some j→listed.getD j false=false→j < listed.size→K4 ls (listed.setIfInBounds j true)=K4 ls listed+1
 | [],_,s,j,_,h,_,_=>by simp at h
 | x::r,listed,0,j,ho,h,hf,hj=>by
  simp only [List.getElem?_cons_zero,Option.some.injEq] at h
  subst h
  have hr:x ∉ r:=fun hm=>by
   obtain ⟨k,hk⟩:=List.getElem?_of_mem hm
   have:=ho 0 (k+1) x x rfl (by simpa using hk) (by omega)
   omega
  have:=Vo (listed:=listed) hr
  unfold K4 at this ⊢
  rw [List.filter_cons,List.filter_cons,if_pos (by simp [hj]),if_neg (by rw [hf]; simp),List.length_cons,this]
 | x::r,listed,s+1,j,ho,h,hf,hj=>by
  have hxj:x < j:=ho 0 (s+1) x j rfl h (by omega)
  have ih:=Hy (ls:=r) (listed:=listed) (s:=s) (j:=j) (fun a b x y h1 h2 h3=>ho (a+1) (b+1) x y (by simpa using h1) (by simpa using h2) (by omega)) (by simpa using h) hf hj
  unfold K4 at ih ⊢
  have hx:(listed.setIfInBounds j true).getD x false=listed.getD x false:=getD_set_ne false (by omega)
  rw [List.filter_cons,List.filter_cons,hx]
  split
  ·rw [List.length_cons,List.length_cons,ih]
  ·exact ih
def Iy (F:Fx)(L:List Oper)(ls:List Nat)(fs:List (Nat×Nat))(Hs:List I0)(i:Nat)(o:Oper)(env:Env)(x:A):Prop:=
 (ls.contains i=false∧Fb fs i=none∧∀ H∈Hs.drop (loN L ls i),∀ ps:List Nat,(∀ p∈ps,p∈unw L fs i)→Al F.C L o env (W2 ps H) x)∨
 (∃ s H H',ls[s]?=some i∧Fb fs i=none∧D1 L env o=some true∧Hs[s]?=some H∧Hs[s+1]?=some H'∧∀ ps:List Nat,(∀ p∈ps,p∈unw L fs i)→Ci F L o env (W2 ps H) x (W2 ps H'))∨
 (∃ t cs p,Fb fs i=some p∧ls.contains i=false∧D1 L env o=some true∧Ey F L o env t cs∧(∀ H∈Hs.take (hiN L ls i+1),nth H p=some (.row cs t))∧x = .ref p 0)
theorem AS.outs {F:Fx}{L:List Oper}{ls:List Nat}{fs:List (Nat×Nat)}{Hs:List I0}{env:Env}{Q:Env→Prop}{n:Nat}(hn:n≤L.length)(h:AS F L ls fs Hs 0 0 (L.take n) env Q) :
  ∃ out:Nat→A,(∀ i o,i < n→L[i]?=some o→Iy F L ls fs Hs i o (Q1 L env out (fun _=>true) i) (out i))∧Q (Q1 L env out (fun _=>true) n):=by
 have key:∀ (m k s:Nat) (out0:Nat→A),k+m=n→(∀ i o,i < k→L[i]?=some o→Iy F L ls fs Hs i o (Q1 L env out0 (fun _=>true) i) (out0 i))→
   AS F L ls fs Hs k s ((L.take n).drop k) (Q1 L env out0 (fun _=>true) k) Q→
   ∃ out:Nat→A,(∀ i o,i < n→L[i]?=some o→Iy F L ls fs Hs i o (Q1 L env out (fun _=>true) i) (out i))∧Q (Q1 L env out (fun _=>true) n):=by
  intro m
  induction m with
  | zero=>
   intro k s out0 hk h0 hq
   have:k=n:=by omega
   subst this
   rw [List.drop_eq_nil_of_le (by simp; omega)] at hq
   exact ⟨out0,h0,hq⟩
  | succ m ih=>
   intro k s out0 hk h0 hq
   have hlt:k < n:=by omega
   have hkl:k < L.length:=by omega
   have e:(L.take n).drop k=L[k]::(L.take n).drop (k+1):=by
    rw [List.drop_eq_getElem_cons (by simp; omega)]
    simp
   rw [e] at hq
   have hko:L[k]?=some L[k]:=List.getElem?_eq_getElem hkl
   have go:∀ (x:A) (s':Nat),Iy F L ls fs Hs k L[k] (Q1 L env out0 (fun _=>true) k) x→
     AS F L ls fs Hs (k+1) s' ((L.take n).drop (k+1)) (put (Q1 L env out0 (fun _=>true) k) (L[k]).dst x) Q→
     ∃ out:Nat→A,(∀ i o,i < n→L[i]?=some o→Iy F L ls fs Hs i o (Q1 L env out (fun _=>true) i) (out i))∧Q (Q1 L env out (fun _=>true) n):=by
    intro x s' hst hrest
    let out1:Nat→A:=fun i=>if i=k then x else out0 i
    have hsame:∀ i,i≤k→Q1 L env out1 (fun _=>true) i=Q1 L env out0 (fun _=>true) i:=by
     intro i hi
     funext t
     simp only [Q1]
     cases hl:D3 L (fun _=>true) t i with
     | none=>rfl
     | some j=>
      have:=(Hg hl).1
      simp only [out1]
      rw [if_neg (by omega)]
    refine ih (k+1) s' out1 (by omega) (fun i o hi ho=>?_) ?_
    ·by_cases hik:i=k
     ·subst hik
      rw [hko] at ho
      simp only [Option.some.injEq] at ho
      subst ho
      rw [hsame i (Nat.le_refl _)]
      simpa [out1] using hst
     ·rw [hsame i (by omega)]
      have:=h0 i o (by omega) ho
      simpa [out1,hik] using this
    ·rw [Js hko,hsame k (Nat.le_refl _)]
     simpa [out1] using hrest
   rcases hq with ⟨d,x,hd,hn1,hn2,hst,hrest⟩ | ⟨x,H,H',h1,hf,hw,h2,h3,hl,hrest⟩ | ⟨t,cs,p,hf,hn1,hw,hfl,hrow,hrest⟩
   ·exact go x s (.inl ⟨hn1,hn2,hst⟩) (by rw [hd]; exact hrest)
   ·rw [O2] at h1 h2 h3
    exact go x (s+1) (.inr (.inl ⟨s,H,H',h1,hf,hw,h2,h3,hl⟩)) hrest
   ·exact go _ s (.inr (.inr ⟨t,cs,p,hf,hn1,hw,hfl,hrow,rfl⟩)) hrest
 exact key n 0 0 (fun _=>.junk) (by omega) (fun i o hi=>by omega) (by simpa [Is] using h)
def unf (listed:Array Bool):List (Nat×Nat)→List Nat
 | []=>[]
 | q::r=>bif listed.getD q.1 false then unf listed r else q.2::unf listed r
theorem Ge {listed:Array Bool}{p:Nat}:∀ {fs:List (Nat×Nat)},p∈unf listed fs ↔ ∃ q∈fs,q.2=p∧listed.getD q.1 false=false
 | []=>by simp [unf]
 | q::r=>by
  simp only [unf]
  cases hq:listed.getD q.1 false with
  | true=>
   simp only [cond_true,Ge (fs:=r),List.mem_cons]
   constructor
   ·rintro ⟨x,h1,h2⟩; exact ⟨x,.inr h1,h2⟩
   ·rintro ⟨x,rfl | h1,h2⟩
    ·rw [hq] at h2; cases h2.2
    ·exact ⟨x,h1,h2⟩
  | false=>
   simp only [cond_false,List.mem_cons,Ge (fs:=r)]
   constructor
   ·rintro (rfl | ⟨x,h1,h2⟩)
    ·exact ⟨q,.inl rfl,rfl,hq⟩
    ·exact ⟨x,.inr h1,h2⟩
   ·rintro ⟨x,rfl | h1,h2⟩
    ·exact .inl h2.1.symm
    ·exact .inr ⟨x,h1,h2⟩
theorem Ku {L:List Oper}{j p:Nat}:∀ {fs:List (Nat×Nat)},p∈unw L fs j ↔ ∃ q∈fs,q.2=p∧Ka L L.length j q.1=false
 | []=>by simp [unw]
 | q::r=>by
  simp only [unw]
  cases hq:Ka L L.length j q.1 with
  | true=>
   simp only [cond_true,Ku (fs:=r),List.mem_cons]
   constructor
   ·rintro ⟨x,h1,h2⟩; exact ⟨x,.inr h1,h2⟩
   ·rintro ⟨x,rfl | h1,h2⟩
    ·rw [hq] at h2; cases h2.2
    ·exact ⟨x,h1,h2⟩
  | false=>
   simp only [cond_false,List.mem_cons,Ku (fs:=r)]
   constructor
   ·rintro (rfl | ⟨x,h1,h2⟩)
    ·exact ⟨q,.inl rfl,rfl,hq⟩
    ·exact ⟨x,.inr h1,h2⟩
   ·rintro ⟨x,rfl | h1,h2⟩
    ·exact .inl h2.1.symm
    ·exact .inr ⟨x,h1,h2⟩
theorem Pv {j p:Nat}:∀ {fs:List (Nat×Nat)},Fb fs j=some p→(j,p)∈fs
 | [],h=>by cases h
 | q::r,h=>by
  simp only [Fb] at h
  cases hq:Nat.beq q.1 j with
  | true=>
   rw [hq] at h
   obtain rfl:=Nat.eq_of_beq_eq_true hq
   simp only [cond_true,Option.some.injEq] at h
   subst h
   exact List.mem_cons_self
  | false=>rw [hq] at h; exact List.mem_cons_of_mem _ (Pv h)
theorem Wo {j:Nat}:∀ {fs:List (Nat×Nat)},Fb fs j=none→∀ q∈fs,q.1≠j
 | [],_,q,hq=>by cases hq
 | x::r,h,q,hq=>by
  simp only [Fb] at h
  cases hx:Nat.beq x.1 j with
  | true=>rw [hx] at h; cases h
  | false=>
   rw [hx] at h
   cases hq with
   | head=>exact fun e=>by rw [e] at hx; simp at hx
   | tail _ hq=>exact Wo h q hq
theorem Ir {listed:Array Bool}{j:Nat}:∀ {fs:List (Nat×Nat)},(∀ q∈fs,q.1≠j)→unf (listed.setIfInBounds j true) fs=unf listed fs
 | [],_=>rfl
 | q::r,h=>by
  simp only [unf]
  rw [getD_set_ne false (Ne.symm (h q List.mem_cons_self)),Ir fun x hx=>h x (List.mem_cons_of_mem _ hx)]
def Jy (fs:List (Nat×Nat))(n K N:Nat):Bool:=
 Bm (fs.map (·.1))&&Bm (fs.map (·.2))&&fs.all fun q=>Nat.blt q.1 n&&Nat.ble K q.2&&Nat.blt q.2 N
theorem D10 {fs:List (Nat×Nat)}{n K N:Nat}(h:Jy fs n K N=true):(∀ q∈fs,q.1 < n∧K≤q.2∧q.2 < N)∧∀ q∈fs,∀ q'∈fs,(q.1=q'.1∨q.2=q'.2)→q=q':=by
 simp only [Jy,Bool.and_eq_true,List.all_eq_true] at h
 obtain ⟨⟨h1,h2⟩,h3⟩:=h
 have k1:=Qh h1
 have k2:=Qh h2
 refine ⟨fun q hq=>⟨Nat.le_of_ble_eq_true (h3 q hq).1.1,Nat.le_of_ble_eq_true (h3 q hq).1.2,Nat.le_of_ble_eq_true (h3 q hq).2⟩,?_⟩
 have inj:∀ {f:Nat×Nat→Nat} {l:List (Nat×Nat)},(l.map f).Nodup→∀ q∈l,∀ q'∈l,f q=f q'→q=q':=by
  intro f l
  induction l with
  | nil=>intro _ q hq; cases hq
  | cons x r ih=>
   intro hnd q hq q' hq' he
   rw [List.map_cons,List.nodup_cons] at hnd
   cases hq with
   | head=>
    cases hq' with
    | head=>rfl
    | tail _ hq'=>exact absurd (by rw [he]; exact List.mem_map_of_mem hq') hnd.1
   | tail _ hq=>
    cases hq' with
    | head=>exact absurd (by rw [← he]; exact List.mem_map_of_mem hq) hnd.1
    | tail _ hq'=>exact ih hnd.2 q hq q' hq' he
 intro q hq q' hq' he
 rcases he with he | he
 ·exact inj k1 q hq q' hq' he
 ·exact inj k2 q hq q' hq' he
theorem St.fillRow {C:Cx}{N:FN}{M:Mem}{G:Nat→Value}{w:World}{env:Env}{H:I0}{a:Act}(h:St C N M G w env H a){dst:Option Nat}(hd:∀ d,dst=some d→d < N){cs:List A}{vs:Array Value}{elem:TypeId}{p:Nat}
  (hp:H[p]?=some .dead) (hg:G p = .tuple #[]) (hc:V9 M G cs vs) {H':I0} (hl:H'.length=H.length) (hH':∀ n,H'[n]?=if n=p then some (.row cs elem) else H[n]?) :
  St C N M (C6 G p (.pointer (some ⟨w.heap.size,0,none⟩))) (w.alloc (.cells vs elem)) (put env dst (.ref p 0)) H' (a.put dst (.pointer (some ⟨w.heap.size,0,none⟩))):=by
 have hmono:∀ {x:A} {v:Value},N0 M G x v→N0 M (C6 G p (.pointer (some ⟨w.heap.size,0,none⟩))) x v:=fun hr=>hr.mono (fun _ _ e=>e) fun o hn=>I2 (fun e=>hr.names hn (by rw [e]; exact hg))
 obtain ⟨h1,h2,h3⟩:=Be (fun t=>hmono (h.env t)) h.size hd (x:=.ref p 0) (v:=.pointer (some ⟨w.heap.size,0,none⟩)) (.ref U2)
 have hpl:p < H.length:=(List.getElem?_eq_some_iff.1 hp).1
 refine ⟨h.good.alloc _,h.gl.ext h.hrel (Vf I4 _ _ _) (fun _ h=>h.elim),⟨fun o x ho=>?_,fun o o' x x' b ho ho' hb hb'=>?_,fun o ho=>?_⟩,h1,h2,h3.trans h.defers⟩
 ·rw [hH'] at ho
  by_cases hop:o=p
  ·rw [if_pos hop] at ho
   cases ho
   subst hop
   rw [U2]
   exact ⟨w.heap.size,vs,rfl,heap_alloc_new w _,Nat.le_of_eq hc.1,hc.2.1,fun i x v a b=>hmono (hc.2.2 i x v a b),fun off sp=>by
    cases hM:M ⟨w.heap.size,off,sp⟩ with
    | none=>rfl
    | some v=>have:=h.good.lt hM; simp at this⟩
  ·rw [if_neg hop] at ho
   rw [I2 hop]
   have hob:=h.hrel.obj o x ho
   have hk:Ja M G (w.alloc (.cells vs elem)) x (G o):=hob.keep (fun _ _ e=>e) (fun b hb=>heap_alloc_old w _ b (A9 hob hb)) (fun _ _ _ _ e=>e)
   cases x with
   | dead=>trivial
   | row cells e=>
    obtain ⟨b,us,g1,g2,g3,g4,g5,g6⟩:=hk
    exact ⟨b,us,g1,g2,g3,g4,fun i y v a c=>hmono (g5 i y v a c),g6⟩
   | tok e sz=>exact hk
   | map es=>
    obtain ⟨b,ms,cl,g1,g2,g3,g4,g5⟩:=hk
    exact ⟨b,ms,cl,g1,g2,g3,fun i k cs e a c=>⟨(g4 i k cs e a c).1,hmono (g4 i k cs e a c).2⟩,g5⟩
   | bld o' e=>
    obtain ⟨b,v0,g1,g2,g3,g4,g5⟩:=hk
    have ho':o'≠p:=fun e=>g4 (by rw [e]; exact hg)
    exact ⟨b,v0,g1,by rw [I2 ho']; exact g2,g3,by rw [I2 ho']; exact g4,g5⟩
   | buf e sz=>exact hk
 ·have key:∀ (o:Nat) x b,H'[o]?=some x→blk x (C6 G p (.pointer (some ⟨w.heap.size,0,none⟩)) o)=some b→(o≠p∧H[o]?=some x∧blk x (G o)=some b∧b < w.heap.size)∨(o=p∧b=w.heap.size):=by
   intro o x b ho hb
   rw [hH'] at ho
   by_cases hop:o=p
   ·rw [if_pos hop] at ho
    cases ho
    subst hop
    rw [U2] at hb
    simp [blk] at hb
    exact .inr ⟨rfl,hb.symm⟩
   ·rw [if_neg hop] at ho
    rw [I2 hop] at hb
    exact .inl ⟨hop,ho,hb,A9 (h.hrel.obj o x ho) hb⟩
  rcases key o x b ho hb with ⟨q1,q2,q3,q4⟩ | ⟨q1,q2⟩ <;> rcases key o' x' b ho' hb' with ⟨p1,p2,p3,p4⟩ | ⟨p1,p2⟩
  ·exact h.hrel.apart o o' x x' b q2 p2 q3 p3
  ·omega
  ·omega
  ·omega
 ·rw [hl] at ho
  rw [I2 (by omega)]
  exact h.hrel.fresh o ho
theorem O1.fillRow {fr:Fr}{M:Mem}{G:Nat→Value}{w:World}{H:I0}(h:O1 fr M G w H){cs:List A}{vs:Array Value}{elem:TypeId}{p:Nat}(hK:fr.H0.length≤p)(hpl:p < H.length){H':I0}(hl:H'.length=H.length)
  (hH':∀ n,H'[n]?=if n=p then some (.row cs elem) else H[n]?):O1 fr M (C6 G p (.pointer (some ⟨w.heap.size,0,none⟩))) (w.alloc (.cells vs elem)) H':=by
 have hne:∀ {o:Nat} {x:Ob},fr.H0[o]?=some x→o≠p:=fun ho e=>by have:=(List.getElem?_eq_some_iff.1 ho).1; omega
 refine ⟨h.ext.trans (Vf I4 _ _ _) (fun _ h=>h.elim),fun b hb=>?_,by rw [hl]; exact h.len,fun o x ho ht=>?_,fun o x y ho ht hy=>?_⟩
 ·obtain ⟨o,x,ho,hx⟩:=hb
  rw [hH'] at ho
  by_cases hop:o=p
  ·rw [if_pos hop] at ho
   cases ho
   subst hop
   rw [U2] at hx
   simp [blk] at hx
   subst hx
   exact .inr h.ext.size
  ·rw [if_neg hop] at ho
   rw [I2 hop] at hx
   exact h.own b ⟨o,x,ho,hx⟩
 ·rw [I2 (hne ho)]
  exact h.keep o x ho ht
 ·rw [hH',if_neg (hne ho)] at hy
  exact h.kind o x y ho ht hy
theorem St.pad {C:Cx}{N:FN}{M:Mem}{G:Nat→Value}{w:World}{env:Env}{H:I0}{a:Act}(h:St C N M G w env H a)(k:Nat):St C N M G w env (H++List.replicate k .dead) a:=by
 have get:∀ (o:Nat) x,(H++List.replicate k Ob.dead)[o]?=some x→H[o]?=some x∨x = .dead:=fun o x ho=>by
  by_cases hlt:o < H.length
  ·rw [List.getElem?_append_left hlt] at ho; exact .inl ho
  ·rw [List.getElem?_append_right (by omega),List.getElem?_replicate] at ho
   split at ho
   ·cases ho; exact .inr rfl
   ·cases ho
 refine ⟨h.good,h.gl,⟨fun o x ho=>?_,fun o o' x x' b ho ho' hb hb'=>?_,fun o ho=>h.hrel.fresh o (by simp at ho; omega)⟩,h.env,h.size,h.defers⟩
 ·rcases get o x ho with h1 | rfl
  ·exact h.hrel.obj o x h1
  ·trivial
 ·rcases get o x ho with h1 | rfl
  ·rcases get o' x' ho' with h2 | rfl
   ·exact h.hrel.apart o o' x x' b h1 h2 hb hb'
   ·simp [blk] at hb'
  ·simp [blk] at hb
theorem O1.pad {fr:Fr}{M:Mem}{G:Nat→Value}{w:World}{H:I0}(h:O1 fr M G w H)(k:Nat):O1 fr M G w (H++List.replicate k .dead):=by
 refine ⟨h.ext,fun b hb=>?_,by simp; have:=h.len; omega,h.keep,fun o x y ho ht hy=>?_⟩
 ·obtain ⟨o,x,ho,hx⟩:=hb
  by_cases hlt:o < H.length
  ·rw [List.getElem?_append_left hlt] at ho; exact h.own b ⟨o,x,ho,hx⟩
  ·rw [List.getElem?_append_right (by omega),List.getElem?_replicate] at ho
   split at ho
   ·cases ho; simp [blk] at hx
   ·cases ho
 ·have hlt:o < H.length:=Nat.lt_of_lt_of_le (List.getElem?_eq_some_iff.1 ho).1 h.len
  rw [List.getElem?_append_left hlt] at hy
  exact h.kind o x y ho ht hy
theorem O1.step {fr:Fr}{M M':Mem}{G G':Nat→Value}{w w':World}{H H':I0}(h:O1 fr M G w H)(h':O1 ⟨H,G,M,w⟩ M' G' w' H'):O1 fr M' G' w' H':=by
 refine ⟨h.ext.trans h'.ext (fun b hb=>h.own b hb),fun b hb=>?_,Nat.le_trans h.len h'.len,fun o x ho ht=>?_,fun o x y ho ht hy=>?_⟩
 ·rcases h'.own b hb with h1 | h1
  ·exact h.own b h1
  ·exact .inr (Nat.le_trans h.ext.size h1)
 ·have hlt:o < H.length:=Nat.lt_of_lt_of_le (List.getElem?_eq_some_iff.1 ho).1 h.len
  have hz:=List.getElem?_eq_getElem hlt
  exact (h'.keep o _ hz (h.kind o x _ ho ht hz)).trans (h.keep o x ho ht)
 ·have hlt:o < H.length:=Nat.lt_of_lt_of_le (List.getElem?_eq_some_iff.1 ho).1 h.len
  have hz:=List.getElem?_eq_getElem hlt
  exact h'.kind o _ y hz (h.kind o x _ ho ht hz) hy
theorem O1.refl {M:Mem}{G:Nat→Value}{w:World}{H:I0}:O1 ⟨H,G,M,w⟩ M G w H:=
 ⟨Ext.refl _ _ _,fun _ hb=>.inl hb,Nat.le_refl _,fun _ _ _ _=>rfl,fun o x y ho ht hy=>by
  have:x=y:=Option.some.inj (ho.symm.trans hy)
  rwa [← this]⟩
theorem Qv {listed:Array Bool}{fs:List (Nat×Nat)}(h:∀ q∈fs,listed.getD q.1 false=true):unf listed fs=[]:=by
 rw [List.eq_nil_iff_forall_not_mem]
 intro p hp
 obtain ⟨q,hq,_,hf⟩:=Ge.1 hp
 rw [h q hq] at hf
 cases hf
theorem AEx.drawL {F:Fx}(hC:L1 F.C){id:Nat}{L:List Oper}{env:Env}{H:I0}{Q:Po}(n:Nat)(ls:List Nat)(fs:List (Nat×Nat))(Hs:List I0)(hd:L.all (F8 F.N)=true)(hok:Mo L n=true)(hnl:Nat.ble n L.length=true)(hlo:Fy L ls n=true)
  {H0:I0} (hH0:nth Hs 0=some H0) (hfo:Jy fs n H.length H0.length=true) (hpad:W2 (fs.map (·.2)) H0=H++List.replicate fs.length .dead) (hll:(Hs.all fun K=>Nat.ble H0.length K.length)=true) (hHl:Hs.length=ls.length+1) {Hm:I0} (hHm:nth Hs ls.length=some Hm)
  (h:AS F L ls fs Hs 0 0 (L.take n) env (fun env'=>F0 F L (L.drop n) env' Hm (Cf Q))):AEx F (.region id L.toArray true) env H Q:=by
 obtain ⟨hfl,hfu⟩:=D10 hfo
 have hn:=Nat.le_of_ble_eq_true hnl
 have hdst:∀ (i:Nat) o,L[i]?=some o→F8 F.N o=true:=fun i o ho=>List.all_eq_true.1 hd o (List.mem_of_getElem? ho)
 obtain ⟨out,houts,hQ⟩:=h.outs hn
 obtain ⟨hback,hwait⟩:=Lq hok
 obtain ⟨hln,hlw⟩:=C10 hlo
 let Hf:Nat→I0:=fun k=>(Hs[k]?).getD []
 have hHf:∀ k,k≤ls.length→Hs[k]?=some (Hf k):=fun k hk=>by
  have hlt:k < Hs.length:=by omega
  simp only [Hf,List.getElem?_eq_getElem hlt,Option.getD_some]
 rw [O2] at hH0 hHm
 have hf0:Hf 0=H0:=by simp only [Hf,hH0,Option.getD_some]
 have hfm:Hf ls.length=Hm:=by simp only [Hf,hHm,Option.getD_some]
 have hlen:∀ k,k≤ls.length→∀ p,p < H0.length→p < (Hf k).length:=fun k hk p hp=>by
  have:=Nat.le_of_ble_eq_true (List.all_eq_true.1 hll _ (List.mem_of_getElem? (hHf k hk)))
  omega
 intro fr M G w act hK hs hsi
 have hbase:=hsi.len
 let Qw:Exit→Act→World→Prop:=Fin F fr Q
 have hsz:L.toArray.size=L.length:=by simp
 have tail:∀ (m k:Nat) (listed:Array Bool) (a:Act) (w:World),k+m=L.length→n≤k→Tp L n listed→(∀ i,i < k→listed.getD i false=true)→(∀ i,k≤i→i < L.length→listed.getD i true=false)→
   wpList F.C.P L.toArray Qw (L.drop k) a w→wpAny F.C.P .any L.toArray Qw m listed a w:=by
  intro m
  induction m with
  | zero=>
   intro k listed a w hk _ hD h1 _ hw
   have hk':k=L.length:=by omega
   have hready:Region.ready .any L.toArray listed=[]:=by
    rw [List.eq_nil_iff_forall_not_mem]
    intro j hj
    obtain ⟨hu,o,ho,_⟩:=mem_ready.1 hj
    have hj':j < L.length:=by simpa using (Array.getElem?_eq_some_iff.1 ho).1
    have:=h1 j (by omega)
    rw [T6 hu] at this
    cases this
   rw [List.drop_eq_nil_of_le (by omega)] at hw
   exact ⟨hready,hw⟩
  | succ m ih=>
   intro k listed a w hk hnk hD h1 h2 hw
   have hkl:k < L.length:=by omega
   have hko:L[k]?=some L[k]:=List.getElem?_eq_getElem hkl
   have hkr:k∈Region.ready .any L.toArray listed:=mem_ready.2 ⟨h2 k (Nat.le_refl _) hkl,L[k],(by simp [hkl]),fun e he hb=>h1 e.on (hback k _ hko e he hb)⟩
   refine ⟨fun h0=>(by rw [h0] at hkr; cases hkr),fun j hj=>?_⟩
   obtain ⟨hu,o,ho,hall⟩:=mem_ready.1 hj
   have hjl:j < L.length:=by simpa using (Array.getElem?_eq_some_iff.1 ho).1
   have hjk:j=k:=by
    rcases Nat.lt_trichotomy j k with hlt | he | hgt
    ·have:=h1 j hlt; rw [T6 hu] at this; cases this
    ·exact he
    ·have hw':=hwait k j hgt hjl (.inr (by omega))
     have:=I8 hD.closed (by simpa using ho) (fun e he hb=>hall e he hb) L.length k hw'
     rw [T6 (h2 k (Nat.le_refl _) hkl)] at this
     cases this
   subst hjk
   rw [List.drop_eq_getElem_cons hkl] at hw
   have hwp:wpOp F.C.P L.toArray Qw j (wpList F.C.P L.toArray Qw (L.drop (j+1))) a w:=by
    unfold wpOp
    simp only [List.getElem?_toArray,hko]
    exact hw
   refine wpOp_mono (fun a' w' hw'=>ih (j+1) _ a' w' (by omega) (by omega) ⟨by simp [hD.size],fun i o' ho' hl e he hb=>?_⟩ (fun i hi=>?_) (fun i hi hi'=>?_) hw') hwp
   ·by_cases hij:j=i
    ·subst hij
     have:o'=o:=Option.some.inj (ho'.symm.trans (by simpa using ho))
     subst this
     exact getD_set_true (hall e he hb)
    ·rw [getD_set_ne false hij] at hl
     exact getD_set_true (hD.closed i o' ho' hl e he hb)
   ·by_cases hij:j=i
    ·subst hij
     simp [hD.size,hkl]
    ·rw [getD_set_ne false hij]
     exact h1 i (by omega)
   ·rw [getD_set_ne true (by omega)]
    exact h2 i (by omega) hi'
 have head:∀ (m:Nat) (listed:Array Bool) (M:Mem) (G:Nat→Value) (w:World) (a:Act),listed.toList.count true+m=L.length→Tp L n listed→(∀ i,n≤i→i < L.length→listed.getD i true=false)→
   (∀ p∈unf listed fs,G p = .tuple #[])→St F.C F.N M G w (Q1 L env out (fun i=>listed.getD i false) n) (W2 (unf listed fs) (Hf (K4 ls listed))) a→O1 fr M G w (W2 (unf listed fs) (Hf (K4 ls listed)))→wpAny F.C.P .any L.toArray Qw m listed a w:=by
  intro m
  induction m with
  | zero=>
   intro listed M G w a hm hD htl hem hs hsi
   have hall:=Ks hD.size (by omega)
   have hnL:n=L.length:=by
    rcases Nat.lt_or_ge n L.length with h' | h'
    ·have:=hall n h'
     rw [T6 (htl n (Nat.le_refl _) h')] at this
     cases this
    ·omega
   have henv:Q1 L env out (fun i=>listed.getD i false) n=Q1 L env out (fun _=>true) n:=by
    funext t
    simp only [Q1]
    rw [W4 fun i hi _=>hall i (by omega)]
   have hc:K4 ls listed=ls.length:=Gy fun l hl=>hall l (by have:=hln l hl; omega)
   rw [hc,hfm,Qv fun q hq=>hall q.1 (by have:=(hfl q hq).1; omega),Dy] at hs hsi
   rw [henv] at hs
   refine tail 0 n listed a w (by omega) (Nat.le_refl _) hD (fun i hi=>hall i (by omega)) (fun i h1 h2=>by omega) ?_
   exact hQ fr M G w a Qw hK (fun o ho=>List.all_eq_true.1 hd o (List.mem_of_mem_drop ho)) hs hsi Gs
  | succ m ih=>
   intro listed M G w a hm hD htl hem hs hsi
   by_cases hdone:∀ i,i < n→listed.getD i false=true
   ·
    have henv:Q1 L env out (fun i=>listed.getD i false) n=Q1 L env out (fun _=>true) n:=by
     funext t
     simp only [Q1]
     rw [W4 fun i hi _=>hdone i hi]
    have hc:K4 ls listed=ls.length:=Gy fun l hl=>hdone l (hln l hl)
    rw [hc,hfm,Qv fun q hq=>hdone q.1 (hfl q hq).1,Dy] at hs hsi
    rw [henv] at hs
    have hcount:listed.toList.count true=n:=by
     have hl:listed.toList=List.replicate n true++List.replicate (L.length - n) false:=by
      apply List.ext_getElem?
      intro i
      by_cases hi:i < n
      ·have hv:=hdone i hi
       have hi':i < listed.size:=by rw [hD.size]; omega
       rw [List.getElem?_append_left (by simpa using hi),List.getElem?_replicate,if_pos hi,Array.getElem?_toList]
       simpa [hi'] using hv
      ·by_cases hi2:i < L.length
       ·have hv:=htl i (by omega) hi2
        have hi':i < listed.size:=by rw [hD.size]; omega
        rw [List.getElem?_append_right (by simp; omega),List.getElem?_replicate,if_pos (by simp; omega),Array.getElem?_toList]
        simpa [hi'] using hv
       ·rw [List.getElem?_eq_none (by simp [hD.size]; omega),List.getElem?_eq_none (by simp; omega)]
     rw [hl,List.count_append,List.count_replicate,List.count_replicate]
     simp
    refine tail (m+1) n listed a w (by omega) (Nat.le_refl _) hD hdone htl ?_
    exact hQ fr M G w a Qw hK (fun o ho=>List.all_eq_true.1 hd o (List.mem_of_mem_drop ho)) hs hsi Gs
   ·
    have hex:∃ i,i < n∧listed.getD i false=false∧∀ k,k < i→listed.getD k false=true:=by
     have:∃ i,i < n∧listed.getD i false=false:=by
      rcases Classical.em (∃ i,i < n∧listed.getD i false=false) with h' | h'
      ·exact h'
      ·refine absurd (fun i hi=>?_) hdone
       cases hv:listed.getD i false with
       | true=>rfl
       | false=>exact absurd ⟨i,hi,hv⟩ h'
     obtain ⟨i,hi⟩:=this
     induction i using Nat.strongRecOn with
     | _ i ihi=>
      by_cases hk:∃ k,k < i∧listed.getD k false=false
      ·obtain ⟨k,hk1,hk2⟩:=hk
       exact ihi k hk1 ⟨by omega,hk2⟩
      ·refine ⟨i,hi.1,hi.2,fun k hk'=>?_⟩
       cases hv:listed.getD k false with
       | true=>rfl
       | false=>exact absurd ⟨k,hk',hv⟩ hk
    obtain ⟨i0,hi0,hu0,hbelow⟩:=hex
    have hi0l:i0 < L.length:=by omega
    have hi0o:L[i0]?=some L[i0]:=List.getElem?_eq_getElem hi0l
    have hu0':listed.getD i0 true=false:=by
     have hi':i0 < listed.size:=by rw [hD.size]; omega
     simpa [hi'] using hu0
    have hr0:i0∈Region.ready .any L.toArray listed:=mem_ready.2 ⟨hu0',L[i0],(by simp [hi0l]),fun e he hb=>hbelow e.on (hback i0 _ hi0o e he hb)⟩
    refine ⟨fun h0=>(by rw [h0] at hr0; cases hr0),fun j hj=>?_⟩
    obtain ⟨hu,o,ho,hall⟩:=mem_ready.1 hj
    have hoL:L[j]?=some o:=by simpa using ho
    have hjl:j < L.length:=(List.getElem?_eq_some_iff.1 hoL).1
    have hjn:j < n:=by
     rcases Nat.lt_or_ge j n with h' | h'
     ·exact h'
     ·have hw':=hwait i0 j (by omega) hjl (.inr h')
      have:=I8 hD.closed hoL (fun e he hb=>hall e he hb) L.length i0 hw'
      rw [hu0] at this
      cases this
    have hclash:∀ k,k≠j→k < L.length→(H8 L k j=true∨H8 L j k=true)→(listed.getD k false=true ↔ k < j):=by
     intro k hkj hkl hc
     rcases Nat.lt_or_ge k j with hlt | hge
     ·refine ⟨fun _=>hlt,fun _=>?_⟩
      have hcc:H8 L k j=true:=by
       rcases hc with hc | hc
       ·exact hc
       ·exact Ej hc
      exact I8 hD.closed hoL (fun e he hb=>hall e he hb) L.length k (hwait k j hlt hjl (.inl hcc))
     ·refine ⟨fun hl=>?_,fun h'=>by omega⟩
      have hcc:H8 L j k=true:=by
       rcases hc with hc | hc
       ·exact Ej hc
       ·exact hc
      have:=Pb hD.closed L.length k j (hwait j k (by omega) hkl (.inl hcc)) hl
      rw [T6 hu] at this
      cases this
    have hread:∀ t∈H6 L o,Q1 L env out (fun i=>listed.getD i false) n t=Q1 L env out (fun _=>true) j t:=by
     intro t ht
     have hw:∀ k,k≠j→(L[k]?).bind (·.dst)=some t→H8 L k j=true:=by
      intro k hkj hk
      unfold H8
      simp only [O2,hoL]
      cases hk':L[k]? with
      | none=>rw [hk'] at hk; cases hk
      | some p=>
       rw [hk'] at hk
       simp only [Option.bind_some] at hk
       simp only [hk]
       have:(H6 L o).contains t=true:=by simpa using ht
       rw [this]
       simp
     have hlt:∀ k,(L[k]?).bind (·.dst)=some t→k < L.length:=by
      intro k hk
      cases hk':L[k]? with
      | none=>rw [hk'] at hk; cases hk
      | some p=>exact (List.getElem?_eq_some_iff.1 hk').1
     simp only [Q1]
     have e1:D3 L (fun i=>listed.getD i false) t n=D3 L (fun i=>decide (i < j)) t n:=W4 fun k hk hkd=>by
      by_cases hkj:k=j
      ·subst hkj
       simp [T6 hu]
      ·have:=hclash k hkj (hlt k hkd) (.inl (hw k hkj hkd))
       cases hb:listed.getD k false with
       | true=>simp [this.1 hb]
       | false=>
        have:¬ k < j:=fun h'=>by rw [this.2 h'] at hb; cases hb
        simp [this]
     have e2:D3 L (fun i=>decide (i < j)) t n=D3 L (fun i=>decide (i < j)) t j:=Zh (by omega) fun k h1 h2 _=>by simp; omega
     have e3:D3 L (fun i=>decide (i < j)) t j=D3 L (fun _=>true) t j:=W4 fun k hk _=>by simp [hk]
     rw [e1,e2,e3]
    have hafter:Q1 L env out (fun i=>(listed.setIfInBounds j true).getD i false) n=put (Q1 L env out (fun i=>listed.getD i false) n) o.dst (out j):=by
     have hjs:j < listed.size:=by rw [hD.size]; exact hjl
     have A8:∀ k,(listed.setIfInBounds j true).getD k false=(decide (k=j)||listed.getD k false):=by
      intro k
      by_cases hk:j=k
      ·subst hk; simp [hjs]
      ·rw [getD_set_ne false hk]
       have:¬ k=j:=fun h'=>hk h'.symm
       simp [this]
     funext t
     simp only [Q1,A8]
     cases hdo:o.dst with
     | none=>
      have:D3 L (fun i=>decide (i=j)||listed.getD i false) t n=D3 L (fun i=>listed.getD i false) t n:=W4 fun k hk hkd=>by
       have:k≠j:=fun h'=>by subst h'; rw [hoL] at hkd; simp [hdo] at hkd
       simp [this]
      rw [this]
      rfl
     | some d=>
      simp only [put,upd]
      by_cases htd:t=d
      ·subst htd
       have hbt:Nat.beq t t=true:=by simp
       rw [hbt,_root_.cond_true]
       have e1:D3 L (fun i=>decide (i=j)||listed.getD i false) t n=D3 L (fun i=>decide (i=j)||listed.getD i false) t (j+1):=Zh (by omega) fun k h1 h2 hkd=>by
        have hkj:k≠j:=by omega
        have hcl:H8 L k j=true:=by
         unfold H8
         cases hk':L[k]? with
         | none=>rw [hk'] at hkd; cases hkd
         | some p=>
          rw [hk'] at hkd
          simp only [Option.bind_some] at hkd
          simp only [O2,hoL,hk',hkd,hdo]
          simp
        have:=hclash k hkj (by omega) (.inl hcl)
        cases hb:listed.getD k false with
        | false=>simp [hkj]
        | true=>have:=this.1 hb; omega
       rw [e1]
       simp [D3,hoL,hdo]
      ·have:Nat.beq t d=false:=by
        cases hb:Nat.beq t d with
        | false=>rfl
        | true=>exact absurd (Nat.eq_of_beq_eq_true hb) htd
       rw [this,_root_.cond_false]
       have:D3 L (fun i=>decide (i=j)||listed.getD i false) t n=D3 L (fun i=>listed.getD i false) t n:=W4 fun k hk hkd=>by
        have:k≠j:=fun h'=>by subst h'; rw [hoL] at hkd; simp [hdo] at hkd; exact htd hkd.symm
        simp [this]
       rw [this]
       rfl
    have hD':Tp L n (listed.setIfInBounds j true):=⟨by simp [hD.size],fun i o' ho' hl e he hb=>by
     by_cases hij:j=i
     ·subst hij
      have:o'=o:=Option.some.inj (ho'.symm.trans hoL)
      subst this
      exact getD_set_true (hall e he hb)
     ·rw [getD_set_ne false hij] at hl
      exact getD_set_true (hD.closed i o' ho' hl e he hb)⟩
    have htl':∀ i,n≤i→i < L.length→(listed.setIfInBounds j true).getD i true=false:=fun i h1 h2=>by
     rw [getD_set_ne true (by omega)]
     exact htl i h1 h2
    have hcnt:(listed.setIfInBounds j true).toList.count true+m=L.length:=by rw [count_set hu]; omega
    have hwcongr:D1 L (Q1 L env out (fun i=>listed.getD i false) n) o=D1 L (Q1 L env out (fun _=>true) j) o:=Df hread
    have hev:∀ y∈o.op.operands,ev F.C.GL (Q1 L env out (fun i=>listed.getD i false) n) y=ev F.C.GL (Q1 L env out (fun _=>true) j) y:=by
     intro y hy
     refine Sj fun t ht=>hread t ?_
     subst ht
     simp only [H6,List.mem_append,List.mem_filterMap]
     exact .inl ⟨.tmp t,by simpa using hy,rfl⟩
    have hjs:j < listed.size:=by rw [hD.size]; exact hjl
    have hunw:∀ p∈unf listed fs,p∈unw L fs j:=fun p hp=>by
     obtain ⟨q,hq,he,hf⟩:=Ge.1 hp
     refine Ku.2 ⟨q,hq,he,?_⟩
     cases hb:Ka L L.length j q.1 with
     | false=>rfl
     | true=>rw [I8 hD.closed hoL (fun e he hb=>hall e he hb) L.length q.1 hb] at hf; cases hf
    rcases houts j o hjn hoL with ⟨hnl',hfp,hq⟩ | ⟨s,H1,H2,hs1,hfp,hw,hs2,hs3,hl⟩ | ⟨t,cs,p,hfp,hnl',hw,hfl',hrow,hx⟩
    ·have hcs:K4 ls (listed.setIfInBounds j true)=K4 ls listed:=Vo (by simpa using hnl')
     have hus:unf (listed.setIfInBounds j true) fs=unf listed fs:=Ir (Wo hfp)
     have hlo':loN L ls j≤K4 ls listed:=by
      unfold loN K4
      rw [← List.countP_eq_length_filter,← List.countP_eq_length_filter]
      exact List.countP_mono_left fun l _ hl=>I8 hD.closed hoL (fun e he hb=>hall e he hb) L.length l hl
     have hle:K4 ls listed≤ls.length:=List.length_filter_le _ _
     have hmem:Hf (K4 ls listed)∈Hs.drop (loN L ls j):=by
      refine List.mem_of_getElem? (i:=K4 ls listed - loN L ls j) ?_
      rw [List.getElem?_drop,show loN L ls j+(K4 ls listed - loN L ls j)=K4 ls listed by omega]
      exact hHf _ hle
     unfold wpOp
     simp only [List.getElem?_toArray,hoL]
     rcases hq _ hmem _ hunw with ⟨hw,hy⟩ | ⟨hw,hx⟩
     ·rw [E8 hs (hwcongr.trans hw)]
      simp only [if_true]
      refine .inl (hy M G w a _ Qw (fun y hyo=>by rw [← hev y hyo]; exact hs.eval y) hs.good hs.gl hs.hrel fun v M' w' h1 h2 h3=>?_)
      refine ih _ M' G w' _ hcnt hD' htl' (by rw [hus]; exact hem) ?_ (by rw [hcs,hus]; exact hsi.quiet h3)
      rw [hafter,hcs,hus]
      exact hs.quiet (A3 (hdst j o hoL)) h1 h2 h3
     ·rw [E8 hs (hwcongr.trans hw)]
      simp only [Bool.false_eq_true,if_false]
      refine ih _ M G w _ hcnt hD' htl' (by rw [hus]; exact hem) ?_ (by rw [hcs,hus]; exact hsi)
      rw [hafter,hx,hcs,hus]
      exact hs.quiet (A3 (hdst j o hoL)) (.tup rfl fun i x v h=>by simp at h) hs.good (Ext.refl _ _ _)
    ·have hsj:ls[s]?=some j:=hs1
     have hcs:K4 ls listed=s:=W10 hsj (fun k l hk hl=>I8 hD.closed hoL (fun e he hb=>hall e he hb) L.length l (hlw s k j l hsj hl hk).2) (fun k l hk hl=>by
      cases hv:listed.getD l false with
      | false=>rfl
      | true=>
       rcases Nat.lt_or_ge s k with hlt | hge
       ·have:=Pb hD.closed L.length l j (hlw k s l j hl hsj hlt).2 hv
        rw [T6 hu] at this; cases this
       ·have:k=s:=by omega
        subst this
        rw [hsj] at hl
        cases hl
        rw [T6 hu] at hv; cases hv)
     have hcs':K4 ls (listed.setIfInBounds j true)=s+1:=by rw [← hcs]; exact Hy (fun a b x y h1 h2 h3=>by have:=(hlw b a y x h2 h1 h3).1; omega) hsj (T6 hu) hjs
     have hsl:s < ls.length:=(List.getElem?_eq_some_iff.1 hsj).1
     have e1:Hf s=H1:=Option.some.inj ((hHf s (by omega)).symm.trans hs2)
     have e2:Hf (s+1)=H2:=Option.some.inj ((hHf (s+1) (by omega)).symm.trans hs3)
     have hus:unf (listed.setIfInBounds j true) fs=unf listed fs:=Ir (Wo hfp)
     rw [hcs,e1] at hs hsi
     have hop:=hl _ hunw (Q1 L env out (fun i=>listed.getD i false) n) (W2 (unf listed fs) H1).length hread (fun e h=>e=Q1 L env out (fun i=>(listed.setIfInBounds j true).getD i false) n∧h=W2 (unf listed fs) H2) ⟨hafter.symm,rfl⟩
     let Qw':Exit→Act→World→Prop:=fun e a w=>match e with
      | .normal=>wpAny F.C.P .any L.toArray Qw m (listed.setIfInBounds j true) a w
      | e=>Fin F fr Q e a w
     have:=hop ⟨W2 (unf listed fs) H1,G,M,w⟩ M G w a Qw' rfl (fun o' ho'=>by
      rw [List.mem_singleton] at ho'
      subst ho'
      exact hdst j _ hoL) hs .refl ⟨fun env' H' M' G' w' a' hq hs' hsi'=>by
       obtain ⟨rfl,rfl⟩:=hq
       refine ih _ M' G' w' a' hcnt hD' htl' (by
        rw [hus]
        intro p hp
        obtain ⟨q,hq1,hq2,hq3⟩:=Ge.1 hp
        have hlt:p < (W2 (unf listed fs) H1).length:=by
         rw [B8,← e1]
         exact hlen s (by omega) p (hq2 ▸ (hfl q hq1).2.2)
        have hdead:(W2 (unf listed fs) H1)[p]?=some .dead:=by
         rw [B8] at hlt
         rw [X8,List.getElem?_eq_getElem hlt]
         have:(unf listed fs).contains p=true:=by simpa using hp
         simp only [Option.map_some,this,_root_.cond_true]
        exact (hsi'.keep p _ hdead rfl).trans (hem p hp)) ?_ ?_
       ·rw [hcs',e2,hus]; exact hs'
       ·rw [hcs',e2,hus]; exact hsi.step hsi',fun _ _ _ _ _ _ _ h=>h.elim⟩
     simp only [wpList] at this
     unfold wpOp
     simp only [List.getElem?_toArray,hoL]
     have hout:LetsOut Qw'→LetsOut (Fin F fr Q):=fun ⟨a,w,h⟩=>⟨a,w,h⟩
     split
     ·rename_i hw
      rw [if_pos hw] at this
      rcases this with h1 | ⟨h1,h2⟩
      ·exact .inl (Jv (fun c a w h=>h) hout h1)
      ·exact .inr ⟨h1,hout h2⟩
     ·rename_i hw
      rw [if_neg hw] at this
      exact this
    ·have hcs:K4 ls (listed.setIfInBounds j true)=K4 ls listed:=Vo (by simpa using hnl')
     have hle:K4 ls listed≤ls.length:=List.length_filter_le _ _
     have hjp:=Pv hfp
     obtain ⟨f1,f2,f3⟩:=hfl _ hjp
     have hhi:K4 ls listed≤hiN L ls j:=by
      unfold hiN K4
      rw [← List.countP_eq_length_filter,← List.countP_eq_length_filter]
      refine List.countP_mono_left fun l _ hl=>?_
      cases hb:Ka L L.length l j with
      | false=>rfl
      | true=>
       have:=Pb hD.closed L.length l j hb hl
       rw [T6 hu] at this; cases this
     have hmem:Hf (K4 ls listed)∈Hs.take (hiN L ls j+1):=by
      refine List.mem_of_getElem? (i:=K4 ls listed) ?_
      rw [List.getElem?_take,if_pos (by omega)]
      exact hHf _ hle
     have hr:=hrow _ hmem
     rw [O2] at hr
     have hpu:p∈unf listed fs:=Ge.2 ⟨_,hjp,rfl,T6 hu⟩
     have hbef:(W2 (unf listed fs) (Hf (K4 ls listed)))[p]?=some .dead:=by
      rw [X8,hr]
      have:(unf listed fs).contains p=true:=by simpa using hpu
      simp only [Option.map_some,this,_root_.cond_true]
     have hmemu:∀ r,r∈unf (listed.setIfInBounds j true) fs ↔ r∈unf listed fs∧r≠p:=by
      intro r
      rw [Ge,Ge]
      constructor
      ·rintro ⟨q,q1,q2,q3⟩
       have hne:j≠q.1:=fun e=>by rw [← e] at q3; simp [hjs] at q3
       rw [getD_set_ne false hne] at q3
       exact ⟨⟨q,q1,q2,q3⟩,fun e=>hne (by rw [hfu q q1 _ hjp (.inr (by rw [q2,e]))])⟩
      ·rintro ⟨⟨q,q1,q2,q3⟩,hne⟩
       refine ⟨q,q1,q2,?_⟩
       rw [getD_set_ne false fun e=>hne (by rw [← q2,hfu q q1 _ hjp (.inl e.symm)])]
       exact q3
     have haft:∀ r,(W2 (unf (listed.setIfInBounds j true) fs) (Hf (K4 ls listed)))[r]?=if r=p then some (.row cs t) else (W2 (unf listed fs) (Hf (K4 ls listed)))[r]?:=by
      intro r
      rw [X8,X8]
      by_cases hrp:r=p
      ·subst hrp
       rw [if_pos rfl,hr]
       have:(unf (listed.setIfInBounds j true) fs).contains r=false:=by
        cases hb:(unf (listed.setIfInBounds j true) fs).contains r with
        | false=>rfl
        | true=>exact absurd rfl ((hmemu r).1 (by simpa using hb)).2
       simp only [Option.map_some,this,_root_.cond_false]
      ·rw [if_neg hrp]
       have:(unf (listed.setIfInBounds j true) fs).contains r=(unf listed fs).contains r:=by
        rw [Bool.eq_iff_iff]
        simp only [List.contains_iff_mem,hmemu r]
        exact ⟨fun h=>h.1,fun h=>⟨h,hrp⟩⟩
       rw [this]
     obtain ⟨vs,hv,hrun⟩:=hfl' _ _ M G w a hread hs
     have hd':∀ d,o.dst=some d→d < F.N:=A3 (hdst j o hoL)
     unfold wpOp
     simp only [List.getElem?_toArray,hoL]
     rw [E8 hs (hwcongr.trans hw)]
     simp only [if_true]
     refine .inl ?_
     unfold Oper.wp
     rw [hrun]
     refine ih _ M (C6 G p (.pointer (some ⟨w.heap.size,0,none⟩))) (w.alloc (.cells vs t)) _ hcnt hD' htl' (fun r hr'=>?_) ?_ ?_
     ·obtain ⟨r1,r2⟩:=(hmemu r).1 hr'
      rw [I2 r2]
      exact hem r r1
     ·rw [hafter,hcs,hx]
      exact hs.fillRow hd' hbef (hem p hpu) hv (by rw [B8,B8]) haft
     ·rw [hcs]
      exact hsi.fillRow (cs:=cs) (p:=p) (by omega) (List.getElem?_eq_some_iff.1 hbef).1 (by rw [B8,B8]) haft
 refine wp_region_any hC.mixed ?_
 have h0:∀ i,(Array.replicate L.toArray.size false).getD i false=false:=fun i=>by
  rcases Nat.lt_or_ge i L.length with h' | h' <;> simp [h']
 have hc0:K4 ls (Array.replicate L.toArray.size false)=0:=F14 h0
 have hu0:unf (Array.replicate L.toArray.size false) fs=fs.map (·.2):=by
  have:∀ fs:List (Nat×Nat),unf (Array.replicate L.toArray.size false) fs=fs.map (·.2):=by
   intro fs
   induction fs with
   | nil=>rfl
   | cons q r ih=>simp only [unf,h0,_root_.cond_false,ih,List.map_cons]
  exact this fs
 have hs':St F.C F.N M G { w with drawn:=w.drawn+1 } env H act:=
  ⟨fun a v e=>hs.good a v e,hs.gl.ext hs.hrel (S:=I4) ⟨fun _ _ e=>e,Nat.le_refl _,rfl,rfl,rfl,fun _ _ _=>rfl,fun _ _ e=>.inl e⟩ (fun _ h=>h.elim),hs.hrel.ext (S:=I4) ⟨fun _ _ e=>e,Nat.le_refl _,rfl,rfl,rfl,fun _ _ _=>rfl,fun _ _ e=>.inl e⟩ (fun _ _ h=>h),hs.env,hs.size,hs.defers⟩
 have hsi':O1 fr M G { w with drawn:=w.drawn+1 } H:=hsi.quiet ⟨fun _ _ e=>e,Nat.le_refl _,rfl,rfl,rfl,fun _ _ _=>rfl,fun _ _ e=>.inl e⟩
 have henv0:Q1 L env out (fun i=>(Array.replicate L.toArray.size false).getD i false) n=env:=by
  funext t
  simp only [Q1]
  cases hl:D3 L (fun i=>(Array.replicate L.toArray.size false).getD i false) t n with
  | none=>rfl
  | some i=>have:=(Hg hl).2.1; rw [h0] at this; cases this
 have:=head L.length (Array.replicate L.toArray.size false) M G _ act (by simp [List.count_replicate]) ⟨by simp,fun j o ho hl=>by rw [h0] at hl; cases hl⟩ (fun i h1 h2=>by simp [h2])
  (fun p hp=>by
   obtain ⟨q,q1,q2,_⟩:=Ge.1 hp
   exact hs.hrel.fresh p (by have:=(hfl q q1).2.1; omega))
  (by rw [henv0,hc0,hf0,hu0,hpad]; exact hs'.pad _) (by rw [hc0,hf0,hu0,hpad]; exact hsi'.pad _)
 rw [hsz]
 rw [hsz] at this
 exact this
end Go.Am

namespace Go.Am
def Im (C:Cx)(L:List Oper)(o:Oper)(env:Env)(ps:List Nat):List I0→List (Option (Option Nat×Prop×A))
 | []=>[]
 | H::r=>K9 C L o env (W2 ps H)::Im C L o env ps r
def Bq (x:Option (Option Nat×Prop×A)):List I0→List (Option (Option Nat×Prop×A))
 | []=>[]
 | _::r=>x::Bq x r
theorem On {C:Cx}{L:List Oper}{o:Oper}{env:Env}{ps:List Nat}{x:Option (Option Nat×Prop×A)}:∀ {Hs:List I0},Im C L o env ps Hs=Bq x Hs→∀ H∈Hs,K9 C L o env (W2 ps H)=x
 | [],_,H,h=>by cases h
 | K::r,h,H,hm=>by
  simp only [Im,Bq,List.cons.injEq] at h
  cases hm with
  | head=>exact h.1
  | tail _ hm=>exact On h.2 H hm
theorem J12 {i:TI}{x:A}{H:I0}{ps ps0:List Nat}(hps:∀ p∈ps,p∈ps0){y:A}(h:L6 i x (W2 ps0 H)=some y):L6 i x (W2 ps H)=some y:=by
 unfold L6 at h ⊢
 split at h
 ·rename_i o off
  simp only [O2,X8] at h ⊢
  cases hz:H[o]? with
  | none=>rw [hz] at h; simp at h
  | some z=>
   rw [hz] at h
   simp only [Option.map_some] at h ⊢
   cases h0:ps0.contains o with
   | true=>rw [h0] at h; simp at h
   | false=>
    have:ps.contains o=false:=by
     cases hb:ps.contains o with
     | false=>rfl
     | true=>
      have h1:=hps o (by simpa using hb)
      have h2:ps0.contains o=true:=by simpa using h1
      rw [h0] at h2; cases h2
    rw [h0] at h
    rw [this]
    exact h
 ·exact h
 ·cases h
theorem R15 {T:TT}{GL:GT}{op:Op}{env:Env}{H:I0}{ps ps0:List Nat}(hps:∀ p∈ps,p∈ps0){c:Prop}{y:A}(h:opA T GL op env (W2 ps0 H)=some (c,y)):opA T GL op env (W2 ps H)=some (c,y):=by
 cases op with
 | load t a=>
  simp only [opA] at h ⊢
  cases ht:Y1 T t with
  | none=>rw [ht] at h; cases h
  | some i=>
   rw [ht] at h
   simp only at h ⊢
   cases hl:L6 i (ev GL env a) (W2 ps0 H) with
   | none=>rw [hl] at h; cases h
   | some z=>
    rw [hl] at h
    rw [J12 hps hl]
    exact h
 | makeFunc f first caps=>cases f <;> exact h
 | call c=>
  obtain ⟨cl,as,ts⟩:=c
  cases cl <;> exact h
 | _=>exact h
theorem Ys {C:Cx}{L:List Oper}{o:Oper}{env:Env}{H:I0}{ps ps0:List Nat}(hps:∀ p∈ps,p∈ps0){d:Option Nat}{c:Prop}{y:A}(h:K9 C L o env (W2 ps0 H)=some (d,c,y)):K9 C L o env (W2 ps H)=some (d,c,y):=by
 unfold K9 at h ⊢
 split at h
 ·rename_i hw
  split at h
  ·rename_i c' x' ho
   rw [R15 hps ho]
   exact h
  ·cases h
 ·exact h
 ·cases h
theorem X10 {C:Cx}(hC:L1 C){L:List Oper}{o:Oper}{env:Env}{H:I0}{d:Option Nat}{c:Prop}{x:A}(h:K9 C L o env H=some (d,c,x))(hc:c):o.dst=d∧Al C L o env H x:=by
 have:=AQ.q (l:=[]) (Q:=fun _=>True) hC h hc trivial
 unfold K9 at h
 split at h
 ·rename_i hw
  split at h
  ·rename_i c' x' ho
   split at h
   ·rename_i y hy
    have hyx:=Xe hy
    subst hyx
    have:o.dst=d∧c'=c∧y=x:=by
     split at h
     ·rename_i t ht
      simp only [Option.some.injEq,Prod.mk.injEq] at h
      exact ⟨ht.trans h.1,h.2.1,h.2.2⟩
     ·rename_i ht
      simp only [Option.some.injEq,Prod.mk.injEq] at h
      exact ⟨ht.trans h.1,h.2.1,h.2.2⟩
    obtain ⟨rfl,rfl,rfl⟩:=this
    exact ⟨rfl,.inl ⟨hw,Uf hC ho hc⟩⟩
   ·cases h
  ·cases h
 ·rename_i hw
  have:o.dst=d∧A.tup []=x:=by
   split at h
   ·rename_i t ht
    simp only [Option.some.injEq,Prod.mk.injEq] at h
    exact ⟨ht.trans h.1,h.2.2⟩
   ·rename_i ht
    simp only [Option.some.injEq,Prod.mk.injEq] at h
    exact ⟨ht.trans h.1,h.2.2⟩
  obtain ⟨rfl,rfl⟩:=this
  exact ⟨rfl,.inr ⟨hw,rfl⟩⟩
 ·cases h
def Ky (C:Cx)(L:List Oper)(o:Oper)(env:Env):Option (Option Nat×TypeId×List A):=
 match D1 L env o,o.op,G5 o with
 | some true,.alloc t,some d=>match Y1 C.T t with
  | some i=>match Hc (i.zero.map zf) with | some cs=>some (d,t,cs) | none=>none
  | none=>none
 | some true,.box t y,some d=>match E7 (ev C.GL env y) with
  | some cs=>match Hc cs with | some cs=>some (d,t,cs) | none=>none
  | none=>none
 | _,_,_=>none
theorem E10 {F:Fx}(hC:L1 F.C){L:List Oper}{o:Oper}{env:Env}{d:Option Nat}{t:TypeId}{cs:List A}(h:Ky F.C L o env=some (d,t,cs)):D1 L env o=some true∧o.dst=d∧Ey F L o env t cs:=by
 unfold Ky at h
 split at h
 ·rename_i t' d' hw ho hd
  split at h
  ·rename_i i ht
   split at h
   ·rename_i cs' hcs
    simp only [Option.some.injEq,Prod.mk.injEq] at h
    obtain ⟨rfl,rfl,rfl⟩:=h
    have:=Nb hcs
    subst this
    refine ⟨hw,(J3 hd),fun env' H M G w a hr hs=>?_⟩
    obtain ⟨z,h1,h2⟩:=Oq (M:=M) (G:=G) hC.tok ht
    exact ⟨z.cells,h2,by unfold execOp; simp [ho,Instr.alloc,h1,newVar,newRow]⟩
   ·cases h
  ·cases h
 ·rename_i t' y d' hw ho hd
  split at h
  ·rename_i cs1 hc1
   split at h
   ·rename_i cs' hcs
    simp only [Option.some.injEq,Prod.mk.injEq] at h
    obtain ⟨rfl,rfl,rfl⟩:=h
    have:=Nb hcs
    subst this
    refine ⟨hw,(J3 hd),fun env' H M G w a hr hs=>?_⟩
    have hy:ev F.C.GL env' y=ev F.C.GL env y:=Sj fun u hu=>hr u (by
     subst hu
     simp only [H6,List.mem_append,List.mem_filterMap]
     exact .inl ⟨.tmp u,by simp [ho,Op.operands],rfl⟩)
    obtain ⟨c1,c2,c3⟩:=Aj (hs.eval y) (by rw [hy]; exact hc1)
    exact ⟨(a.eval y).cells,⟨c1.symm,c2,c3⟩,by unfold execOp; simp [ho,Instr.box,newVar,newRow]⟩
   ·cases h
  ·cases h
 ·cases h
def Nw (p:Nat):List I0→List (Option Ob)
 | []=>[]
 | H::r=>nth H p::Nw p r
def Ow (x:Option Ob):List I0→List (Option Ob)
 | []=>[]
 | _::r=>x::Ow x r
theorem Rv {p:Nat}{x:Option Ob}:∀ {Hs:List I0},Nw p Hs=Ow x Hs→∀ H∈Hs,nth H p=x
 | [],_,H,h=>by cases h
 | K::r,h,H,hm=>by
  simp only [Nw,Ow,List.cons.injEq] at h
  cases hm with
  | head=>exact h.1
  | tail _ hm=>exact Rv h.2 H hm
section
variable {F:Fx}{L l:List Oper}{o:Oper}{env:Env}{ls:List Nat}{fs:List (Nat×Nat)}{Hs:List I0}{j s:Nat}{Q:Env→Prop}
theorem AS.nil (h:Q env):AS F L ls fs Hs j s [] env Q:=h
theorem AS.y {d:Option Nat}{x:A}(hd:o.dst=d)(hn:ls.contains j=false)(hf:Fb fs j=none)(h:∀ H,Al F.C L o env H x)(k:AS F L ls fs Hs (j+1) s l (put env d x) Q):AS F L ls fs Hs j s (o::l) env Q:=
 .inl ⟨d,x,hd,hn,hf,fun _ _ _ _=>h _,k⟩
theorem AS.q (hC:L1 F.C){d:Option Nat}{x:A}(h:Im F.C L o env (unw L fs j) (Hs.drop (loN L ls j))=Bq (some (d,True,x)) (Hs.drop (loN L ls j)))(hd:o.dst=d)(hn:ls.contains j=false)(hf:Fb fs j=none)(k:AS F L ls fs Hs (j+1) s l (put env d x) Q):AS F L ls fs Hs j s (o::l) env Q:=
 .inl ⟨d,x,hd,hn,hf,fun H hm _ hps=>(X10 hC (Ys hps (On h H hm)) trivial).2,k⟩
theorem AS.qc (hC:L1 F.C){d:Option Nat}{c:Prop}{x:A}(h:Im F.C L o env (unw L fs j) (Hs.drop (loN L ls j))=Bq (some (d,c,x)) (Hs.drop (loN L ls j)))(hc:c)(hd:o.dst=d)(hn:ls.contains j=false)(hf:Fb fs j=none)(k:AS F L ls fs Hs (j+1) s l (put env d x) Q):AS F L ls fs Hs j s (o::l) env Q:=
 .inl ⟨d,x,hd,hn,hf,fun H hm _ hps=>(X10 hC (Ys hps (On h H hm)) hc).2,k⟩
theorem AS.qe (hC:L1 F.C){d:Option Nat}{c:Prop}{x y:A}(h:Im F.C L o env (unw L fs j) (Hs.drop (loN L ls j))=Bq (some (d,c,x)) (Hs.drop (loN L ls j)))(hc:c)(e:x=y)(hd:o.dst=d)(hn:ls.contains j=false)(hf:Fb fs j=none)(k:AS F L ls fs Hs (j+1) s l (put env d y) Q):AS F L ls fs Hs j s (o::l) env Q:=by
 subst e; exact .qc hC h hc hd hn hf k
theorem AS.c {d:Option Nat}{f:FuncId}{xs:List A}{x:A}(hc:S0 F.C f xs [] (Ret [] x))(h:F7 F.C L o env=some (d,f,xs))(hx:W1 0 xs=true)(hn:ls.contains j=false)(hf:Fb fs j=none)(k:AS F L ls fs Hs (j+1) s l (put env d x) Q):AS F L ls fs Hs j s (o::l) env Q:=by
 obtain ⟨h1,h2,h3⟩:=G8 h
 exact .y h3 hn hf (fun H=>.inl ⟨h1,Ph h2 hx hc⟩) k
theorem AS.ix (hC:L1 F.C){d:Option Nat}{rows:List (List D)}{n:Int}{sz:Nat}(h:Cj F.C L o env=some (d,rows,n,sz)){m:Nat}{r:List D}(hm:n=m)(hk:rows[m]?=some r)(hsz:Nat.beq r.length sz=true)(hn:ls.contains j=false)(hf:Fb fs j=none)
  (k:AS F L ls fs Hs (j+1) s l (put env d (.ptr r)) Q):AS F L ls fs Hs j s (o::l) env Q:=by
 obtain ⟨h1,h2⟩:=Dj h
 exact .y h2 hn hf (fun H=>.inl ⟨h1,Gg hC h hm hk hsz⟩) k
theorem AS.a {t:Nat}{x:A}(hd:o.dst=some t)(h:∀ H,AQ F.C L [o] env H (fun e=>e=put env (some t) x))(hn:ls.contains j=false)(hf:Fb fs j=none)(k:AS F L ls fs Hs (j+1) s l (put env (some t) x) Q):AS F L ls fs Hs j s (o::l) env Q:=by
 refine .y hd hn hf (fun H=>?_) k
 obtain ⟨d',x',h1,h2,h3⟩:=h H
 rw [hd] at h1
 subst h1
 have:x'=x:=by
  have:=congrFun h3 t
  simpa [put,upd] using this
 rwa [this] at h2
theorem AS.g {d:Option Nat}{g:FuncId}{xs:List A}{x y:A}{H H':I0}(idx:List Nat){cargs:List A}{cH cH':I0}(hc:S0 F.C g cargs cH (Ret cH' x))(h1:nth ls s=some j)(hf:Fb fs j=none)(h2:nth Hs s=some H)(h3:nth Hs (s+1)=some H')
  (h:F7 F.C L o env=some (d,g,xs)) (hx:Y9 (S2 idx H.length) cargs=xs) (hi:Bd idx H.length=true) (hm:Lf H idx=Ni (S2 idx H.length) cH)
  (ht:B3 idx cH=[]) (hr:frc (ren (S2 idx H.length) x)=some y) (hH:Aa (B5 H idx (S2 idx H.length) (B3 idx cH) cH')=some H')
  (hun:(idx.all (fun p=>!(unw L fs j).contains p)&&(unw L fs j).all (fun p=>Nat.blt p H.length)&&Nat.ble idx.length cH'.length)=true) (k:AS F L ls fs Hs (j+1) (s+1) l (put env d y) Q):AS F L ls fs Hs j s (o::l) env Q:=by
 obtain ⟨q1,_,q3⟩:=G8 h
 exact .inr (.inl ⟨y,H,H',h1,hf,q1,h2,h3,fun ps hps=>Ci.g idx hc h hx hi hm ht hr hH hun ps hps,by rw [q3]; exact k⟩)
theorem AS.n (hC:L1 F.C){d:Option Nat}{t:TypeId}{cs:List A}{p:Nat}(h:Ky F.C L o env=some (d,t,cs))(hf:Fb fs j=some p)(hn:ls.contains j=false)(hr:Nw p (Hs.take (hiN L ls j+1))=Ow (some (.row cs t)) (Hs.take (hiN L ls j+1)))
  (k:AS F L ls fs Hs (j+1) s l (put env d (.ref p 0)) Q):AS F L ls fs Hs j s (o::l) env Q:=by
 obtain ⟨q1,q2,q3⟩:=E10 hC h
 exact .inr (.inr ⟨t,cs,p,hf,hn,q1,q3,Rv hr,by rw [q2]; exact k⟩)
end
end Go.Am

namespace Go.Am
theorem AQ.fl {C:Cx}(hC:L1 C){L l:List Oper}{o:Oper}{env:Env}{H:I0}{Q:Env→Prop}{d:Option Nat}{xd:D}{k:List UInt8}{ok:Bool}{z y:A}{es:List (List UInt8×Row)}(h:Aq C L o env=some (d,xd,k,ok,z))
  (he:To xd=some es) (e:lkA (Q3 k es) z ok=y) (kk:AQ C L l (put env d y) H Q):AQ C L (o::l) env H Q:=by
 subst e
 obtain ⟨h1,h2,h3⟩:=Uo (H:=H) hC h he
 exact ⟨d,_,J3 h2,.inl ⟨h1,h3⟩,kk⟩
end Go.Am

namespace Go.Am
theorem S15 {α:Type}{b:Bool}{x:α}{y:Option α}(h:(bif b then y else none)=some x):b=true∧y=some x:=by cases b <;> simp_all
section
variable {α:Type}{f:α→Row}{h:α→A}
end
end Go.Am

namespace Go.Am
theorem G14 {ps:List Nat}{H:I0}{p:Nat}{x:Ob}(hp:p < H.length)(hn:ps.contains p=false):A8 (W2 ps H) p x=W2 ps (A8 H p x):=by
 apply List.ext_getElem?
 intro n
 rw [W9 _ _ _ _ (by rw [B8]; exact hp),X8,X8,W9 _ _ _ _ hp]
 by_cases e:n=p
 ·subst e
  rw [if_pos rfl,if_pos rfl,Option.map_some,hn]
  rfl
 ·rw [if_neg e,if_neg e]
theorem Zs:∀ (H:I0) (n:Nat) (x:Ob),De H n x=some (A8 H n x)
 | [],_,_=>rfl
 | _::_,0,_=>rfl
 | y::r,n+1,x=>by simp only [De,A8,Zs r n x]
theorem F10 {C:Cx}{L:List Oper}{o:Oper}{env env':Env}{H:I0}(h:∀ t∈H6 L o,env' t=env t):Fg C L o env' H=Fg C L o env H:=by
 have hop:∀ y∈o.op.operands,ev C.GL env' y=ev C.GL env y:=fun y hy=>Sj fun t ht=>h t (by
  subst ht
  simp only [H6,List.mem_append,List.mem_filterMap]
  exact .inl ⟨.tmp t,by simpa using hy,rfl⟩)
 unfold Fg
 rw [Df h]
 split
 ·rename_i t x y hw ho hd
  rw [hop x (by rw [ho]; simp [Op.operands]),hop y (by rw [ho]; simp [Op.operands])]
 ·rfl
def Ly (C:Cx)(o:Oper)(env:Env):Option Nat:=
 match o.op with
 | .store _ x _=>match ev C.GL env x with | .ref p _=>some p | _=>none
 | _=>none
theorem Ci.s {F:Fx}(hC:L1 F.C){L:List Oper}{o:Oper}{env:Env}{H H':I0}{un:List Nat}{p:Nat}(h:Fg F.C L o env H=some H')(hp:Ly F.C o env=some p)(hun:un.contains p=false) :
  ∀ ps:List Nat,(∀ q∈ps,q∈un)→Ci F L o env (W2 ps H) .junk (W2 ps H'):=by
 intro ps hps env' K he Q hq
 have hpn:ps.contains p=false:=by
  cases hb:ps.contains p with
  | false=>rfl
  | true=>
   have h1:=hps p (by simpa using hb)
   have h2:un.contains p=true:=by simpa using h1
   rw [hun] at h2; cases h2
 have h':Fg F.C L o env' (W2 ps H)=some (W2 ps H'):=by
  rw [F10 he]
  unfold Fg at h ⊢
  split at h
  ·rename_i t x y hw ho hd
   unfold Ly at hp
   rw [ho] at hp
   simp only at hp
   split at h
   ·rename_i i p' off xs ht hx hxs
    rw [hx] at hp
    simp only [Option.some.injEq] at hp
    subst hp
    split at h
    ·rename_i cells e hn
     have hn':nth (W2 ps H) p'=some (.row cells e):=by
      rw [O2] at hn ⊢
      rw [X8,hn,Option.map_some,hpn]
      rfl
     simp only [hn']
     cases hb:Nat.beq xs.length i.size&&Nat.ble (off+i.size) cells.length with
     | false=>rw [hb] at h; cases h
     | true=>
      rw [hb] at h
      simp only [_root_.cond_true] at h
      split at h
      ·rename_i cs hcs
       show De (W2 ps H) p' (Ob.row cs e)=_
       have e1:=Hn h
       subst e1
       rw [O2] at hn
       have hlt:=(List.getElem?_eq_some_iff.1 hn).1
       have:De (W2 ps H) p' (.row cs e)=some (A8 (W2 ps H) p' (.row cs e)):=Zs _ _ _
       exact this.trans (by rw [G14 hlt hpn])
      ·cases h
    ·cases h
   ·cases h
  ·cases h
 have hd:o.dst=none:=by
  unfold Fg at h
  split at h
  ·rename_i hd; exact hd
  ·cases h
 rw [hd] at hq
 exact F0.s (F:=⟨F.C,F.N,K,Nh,Ad⟩) hC h' (F0.nil hq)
section
variable {F:Fx}{L l:List Oper}{o:Oper}{env:Env}{ls:List Nat}{fs:List (Nat×Nat)}{Hs:List I0}{j i:Nat}{Q:Env→Prop}
theorem AS.s (hC:L1 F.C){H H':I0}{p:Nat}(h1:nth ls i=some j)(hf:Fb fs j=none)(h2:nth Hs i=some H)(h3:nth Hs (i+1)=some H')(h:Fg F.C L o env H=some H')(hp:Ly F.C o env=some p)
  (hun:(unw L fs j).contains p=false) (k:AS F L ls fs Hs (j+1) (i+1) l env Q):AS F L ls fs Hs j i (o::l) env Q:=by
 have hw:D1 L env o=some true∧o.dst=none:=by
  unfold Fg at h
  split at h
  ·rename_i hw ho hd; exact ⟨hw,hd⟩
  ·cases h
 exact .inr (.inl ⟨.junk,H,H',h1,hf,hw.1,h2,h3,Ci.s hC h hp hun,by rw [hw.2]; exact k⟩)
end
end Go.Am

namespace Go.Am
section
variable {P:Program}{M:Mem}{G:Nat→Value}{w:World}
end
end Go.Am

namespace Go.Am
end Go.Am

namespace Go.Am
section
variable {F:Fx}{L l:List Oper}{o:Oper}{env:Env}{ls:List Nat}{fs:List (Nat×Nat)}{Hs:List I0}{j i:Nat}{Q:Env→Prop}
end
end Go.Am

