/- A part of the proof of SyntaxRename. -/
import Derived.Test.YtbmlpamppbcdeaaGreatDoorAmA
import GoSem.Instr.Lookup
import GoSem.Instr.MapUpdate
import GoSem.Instr.MakeMap
import Derived.Below
import Derived.Laws.StructEq
import Derived.Laws.MakeOwn
import Derived.ChangeSame
import Derived.OpenShut
import Derived.ProofKit
import Derived.Laws.BytesArg
import Derived.Lib.LaidTab
namespace Go.Am
theorem St.turnTok {C:Cx}{N:FN}{M M':Mem}{G:Nat→Value}{w w':World}{env:Env}{H:P0}{a:Act}(h:St C N M G w env H a){dst:Option Nat}(hd:∀ d,dst=some d→d < N){p e sz e' sz':Nat}{v':Value}{x:A}
  (hp:H[p]?=some (.tok e sz)) (hext:Ext (fun b=>blk (.tok e sz) (G p)=some b) M w M' w') (hg:Good M' w') (hob:Lg M' G w' (.tok e sz) v') (hblk:∀ b,blk (.tok e sz) v'=some b→blk (.tok e sz) (G p)=some b∨w.heap.size≤b)
  (hx:V0 M' (J6 G p v') x v') (_he:e'=e) (_hs:sz'=sz) :
  St C N M' (J6 G p v') w' (put (fun t=>dg [p] (env t)) dst x) (H.map (dgO [p])) (a.put dst v'):=by
 have hps:∀ q∈[p],∃ a l c,G q = .slice a l c:=fun q hq=>by
  simp at hq; subst hq
  rcases h.hrel.obj q _ hp with e | ⟨ad,n,cap,e,_⟩
  ·exact ⟨_,_,_,e⟩
  ·exact ⟨_,_,_,e⟩
 have hgg:∀ o,o ∉ [p]→G o≠.tuple #[]→J6 G p v' o=G o:=fun o ho _=>Q1 (by simpa using ho)
 have hplt:p < H.length:=(List.getElem?_eq_some_iff.1 hp).1
 have getH:∀ (o:Nat) z,(H.map (dgO [p]))[o]?=some z→∃ y,H[o]?=some y∧z=dgO [p] y:=fun o z hz=>by
  rw [List.getElem?_map] at hz
  cases hy:H[o]? with
  | none=>rw [hy] at hz; cases hz
  | some y=>rw [hy] at hz; exact ⟨y,rfl,by simpa using hz.symm⟩
 obtain ⟨p1,p2,p3⟩:=Ol (env:=fun t=>dg [p] (env t)) (dst:=dst) (x:=x) (a:=a) (v:=v') (N:=N) (M:=M') (G:=J6 G p v') (fun t=>E1i ((h.env t).mono' hext.mono) hps hgg) h.size hd hx
 refine ⟨hg,h.gl.ext h.hrel hext (fun b hb=>⟨p,_,hp,hb⟩),⟨fun o z hz=>?_,fun o o' z z' b hz hz' hb hb'=>?_,fun o ho=>?_⟩,p1,p2,p3.trans h.defers⟩
 ·obtain ⟨y,hy,rfl⟩:=getH o z hz
  by_cases hop:o=p
  ·subst hop
   rw [hp] at hy
   obtain rfl:=Option.some.inj hy
   rw [C2]
   exact hob
  ·rw [Q1 hop]
   have hoy:=h.hrel.obj o y hy
   refine I1l (hoy.keep hext.mono (fun b hb=>hext.block b (Qf hoy hb) fun hb'=>hop (h.hrel.apart o p y _ b hy hp hb hb')) fun b hb off sp hn=>?_) hps hgg
   cases hM:M' ⟨b,off,sp⟩ with
   | none=>rfl
   | some u=>
    rcases hext.fresh _ u hM with q | q | q
    ·rw [hn] at q; cases q
    ·exact absurd (h.hrel.apart o p y _ b hy hp hb q) hop
    ·have:=Qf hoy hb; simp only at q; omega
 ·have key:∀ (o:Nat) z b,(H.map (dgO [p]))[o]?=some z→blk z (J6 G p v' o)=some b→∃ y,H[o]?=some y∧(blk y (G o)=some b∨o=p∧w.heap.size≤b):=by
   intro o z b hz hb
   obtain ⟨y,hy,rfl⟩:=getH o z hz
   replace hb:=Et hb
   refine ⟨y,hy,?_⟩
   by_cases hop:o=p
   ·subst hop
    rw [hp] at hy
    obtain rfl:=Option.some.inj hy
    rw [C2] at hb
    rcases hblk b hb with q | q
    ·exact .inl q
    ·exact .inr ⟨rfl,q⟩
   ·rw [Q1 hop] at hb
    exact .inl hb
  obtain ⟨y,hy,hyb⟩:=key o z b hz hb
  obtain ⟨y',hy',hyb'⟩:=key o' z' b hz' hb'
  rcases hyb with q | ⟨q1,q2⟩ <;> rcases hyb' with r | ⟨r1,r2⟩
  ·exact h.hrel.apart o o' y y' b hy hy' q r
  ·have:=Qf (h.hrel.obj o y hy) q; omega
  ·have:=Qf (h.hrel.obj o' y' hy') r; omega
  ·rw [q1,r1]
 ·simp only [List.length_map] at ho
  rw [Q1 (by omega)]
  exact h.hrel.fresh o ho
theorem Y1.turnTok {fr:Fr}{M M':Mem}{G:Nat→Value}{w w':World}{H:P0}(h:Y1 fr M G w H){p e sz:Nat}{v':Value}
  (hp:H[p]?=some (.tok e sz)) (hext:Ext (fun b=>blk (.tok e sz) (G p)=some b) M w M' w') (hblk:∀ b,blk (.tok e sz) v'=some b→blk (.tok e sz) (G p)=some b∨w.heap.size≤b) :
  Y1 fr M' (J6 G p v') w' (H.map (dgO [p])):=by
 have getH:∀ (o:Nat) z,(H.map (dgO [p]))[o]?=some z→∃ y,H[o]?=some y∧z=dgO [p] y:=fun o z hz=>by
  rw [List.getElem?_map] at hz
  cases hy:H[o]? with
  | none=>rw [hy] at hz; cases hz
  | some y=>rw [hy] at hz; exact ⟨y,rfl,by simpa using hz.symm⟩
 have hplt:p < H.length:=(List.getElem?_eq_some_iff.1 hp).1
 refine ⟨h.ext.trans hext fun b hb=>h.own b ⟨p,_,hp,hb⟩,fun b ⟨o,z,hz,hb⟩=>?_,by simpa using h.len,fun o x ho ht=>?_,fun o x y ho ht hy=>?_⟩
 ·obtain ⟨y,hy,rfl⟩:=getH o z hz
  replace hb:=Et hb
  by_cases hop:o=p
  ·subst hop
   rw [hp] at hy
   obtain rfl:=Option.some.inj hy
   rw [C2] at hb
   rcases hblk b hb with q | q
   ·exact h.own b ⟨o,_,hp,q⟩
   ·exact .inr (Nat.le_trans h.ext.size q)
  ·rw [Q1 hop] at hb
   exact h.own b ⟨o,y,hy,hb⟩
 ·have hne:o≠p:=fun e'=>by
   subst e'
   have:=h.kind o x _ ho ht hp
   simp [isTok] at this
  rw [Q1 hne]
  exact h.keep o x ho ht
 ·obtain ⟨z,hz,rfl⟩:=getH o y hy
  rw [X1f]
  exact h.kind o x z ho ht hz
theorem St.newTok {C:Cx}{N:FN}{M M':Mem}{G:Nat→Value}{w w':World}{env:Env}{H:P0}{a:Act}(h:St C N M G w env H a){dst:Option Nat}(hd:∀ d,dst=some d→d < N){e sz:Nat}{v':Value}{x:A}
  (hext:Ext Z3 M w M' w') (hg:Good M' w') (hob:Lg M' G w' (.tok e sz) v') (hblk:∀ b,blk (.tok e sz) v'=some b→w.heap.size≤b)
  (hx:V0 M' (J6 G H.length v') x v') :
  St C N M' (J6 G H.length v') w' (put env dst x) (H++[.tok e sz]) (a.put dst v'):=by
 have hh:=h.hrel.ext hext (fun _ _ q=>q)
 have hmono:∀ {x:A} {v:Value},V0 M' G x v→V0 M' (J6 G H.length v') x v:=fun hr=>hr.mono (fun _ _ e=>e) fun o hn=>Q1 (Nat.ne_of_lt (hh.lt hr hn))
 obtain ⟨h1,h2,h3⟩:=Ol (fun t=>hmono ((h.env t).mono' hext.mono)) h.size hd hx
 refine ⟨hg,h.gl.ext h.hrel hext (fun _ h=>h.elim),⟨fun o x ho=>?_,fun o o' x x' b ho ho' hb hb'=>?_,fun o ho=>?_⟩,h1,h2,h3.trans h.defers⟩
 ·rcases Nat.lt_trichotomy o H.length with hlt | rfl | hgt
  ·rw [List.getElem?_append_left hlt] at ho
   rw [Q1 (Nat.ne_of_lt hlt)]
   have hob:=hh.obj o x ho
   cases x with
   | dead=>trivial
   | row cells e=>
    obtain ⟨b,us,g1,g2,g3,g4,g5,g6⟩:=hob
    exact ⟨b,us,g1,g2,g3,g4,fun i y v a c=>hmono (g5 i y v a c),g6⟩
   | bld o' e=>
    obtain ⟨b,v0,g1,g2,g3,g4,g5⟩:=hob
    have ho':o'≠H.length:=fun e=>g4 (by rw [e]; exact hh.fresh _ (Nat.le_refl _))
    exact ⟨b,v0,g1,by rw [Q1 ho']; exact g2,g3,by rw [Q1 ho']; exact g4,g5⟩
   | buf e sz=>exact hob
   | tok e sz=>exact hob
   | map es=>
    obtain ⟨b,ms,cl,g1,g2,g3,g4,g5⟩:=hob
    exact ⟨b,ms,cl,g1,g2,g3,fun i k cs e a c=>⟨(g4 i k cs e a c).1,hmono (g4 i k cs e a c).2⟩,g5⟩
  ·simp at ho
   subst ho
   rw [C2]
   exact hob
  ·rw [List.getElem?_eq_none (by simp; omega)] at ho
   cases ho
 ·have key:∀ (o:Nat) x b,(H++[Ob.tok e sz])[o]?=some x→blk x (J6 G H.length v' o)=some b→(o < H.length∧H[o]?=some x∧blk x (G o)=some b∧b < w.heap.size)∨(o=H.length∧w.heap.size≤b):=by
   intro o x b ho hb
   rcases Nat.lt_trichotomy o H.length with hlt | rfl | hgt
   ·rw [List.getElem?_append_left hlt] at ho
    rw [Q1 (Nat.ne_of_lt hlt)] at hb
    exact .inl ⟨hlt,ho,hb,Qf (h.hrel.obj o x ho) hb⟩
   ·simp at ho
    subst ho
    rw [C2] at hb
    exact .inr ⟨rfl,hblk b hb⟩
   ·rw [List.getElem?_eq_none (by simp; omega)] at ho
    cases ho
  rcases key o x b ho hb with ⟨q1,q2,q3,q4⟩ | ⟨q1,q2⟩ <;> rcases key o' x' b ho' hb' with ⟨p1,p2,p3,p4⟩ | ⟨p1,p2⟩
  ·exact h.hrel.apart o o' x x' b q2 p2 q3 p3
  ·omega
  ·omega
  ·omega
 ·simp at ho
  rw [Q1 (by omega)]
  exact h.hrel.fresh o (by omega)
theorem Y1.newTok {fr:Fr}{M M':Mem}{G:Nat→Value}{w w':World}{H:P0}(h:Y1 fr M G w H){e sz:Nat}{v':Value}(hext:Ext Z3 M w M' w')(hblk:∀ b,blk (.tok e sz) v'=some b→w.heap.size≤b) :
  Y1 fr M' (J6 G H.length v') w' (H++[.tok e sz]):=by
 refine ⟨h.ext.trans hext (fun _ h=>h.elim),fun b hb=>?_,by simp; have:=h.len; omega,fun o x ho ht=>?_,fun o x y ho ht hy=>?_⟩
 ·obtain ⟨o,x,ho,hx⟩:=hb
  rcases Nat.lt_trichotomy o H.length with hlt | rfl | hgt
  ·rw [List.getElem?_append_left hlt] at ho
   rw [Q1 (Nat.ne_of_lt hlt)] at hx
   exact h.own b ⟨o,x,ho,hx⟩
  ·simp at ho
   subst ho
   rw [C2] at hx
   exact .inr (Nat.le_trans h.ext.size (hblk b hx))
  ·rw [List.getElem?_eq_none (by simp; omega)] at ho
   cases ho
 ·have hlt:o < H.length:=Nat.lt_of_lt_of_le (List.getElem?_eq_some_iff.1 ho).1 h.len
  rw [Q1 (Nat.ne_of_lt hlt)]
  exact h.keep o x ho ht
 ·have hlt:o < H.length:=Nat.lt_of_lt_of_le (List.getElem?_eq_some_iff.1 ho).1 h.len
  rw [List.getElem?_append_left hlt] at hy
  exact h.kind o x y ho ht hy
def dgC (ps:List Nat):List A→Option (List A)
 | []=>some []
 | x::r=>match frc (dg ps x),dgC ps r with | some y,some r'=>some (y::r') | _,_=>none
theorem M1o {ps:List Nat}:∀ {l l':List A},dgC ps l=some l'→l'=dgL ps l
 | [],l',h=>by simp [dgC] at h; subst h; rfl
 | x::r,l',h=>by
  simp only [dgC] at h
  split at h
  ·rename_i y r' hy hr
   simp only [Option.some.injEq] at h
   subst h
   rw [Iu hy,M1o hr]
   rfl
  ·cases h
def dgH (ps:List Nat):P0→Option P0
 | []=>some []
 | .row cs e::r=>match dgC ps cs,dgH ps r with | some cs',some r'=>some (.row cs' e::r') | _,_=>none
 | .dead::r=>match dgH ps r with | some r'=>some (.dead::r') | none=>none
 | .bld o e::r=>match dgH ps r with | some r'=>some ((bif ps.contains o then .dead else .bld o e)::r') | none=>none
 | .buf e sz::r=>match dgH ps r with | some r'=>some (.buf e sz::r') | none=>none
 | .tok e sz::r=>match dgH ps r with | some r'=>some (.tok e sz::r') | none=>none
 | .map es::r=>match dgH ps r with | some r'=>some (.map es::r') | none=>none
theorem Dy {ps:List Nat}:∀ {H H':P0},dgH ps H=some H'→H'=H.map (dgO ps)
 | [],H',h=>by simp [dgH] at h; subst h; rfl
 | .row cs e::r,H',h=>by
  simp only [dgH] at h
  split at h
  ·rename_i cs' r' hc hr
   simp only [Option.some.injEq] at h
   subst h
   rw [M1o hc,Dy hr]
   rfl
  ·cases h
 | .dead::r,H',h=>by
  simp only [dgH] at h
  split at h
  ·rename_i r' hr
   simp only [Option.some.injEq] at h
   subst h
   rw [Dy hr]; rfl
  ·cases h
 | .bld o e::r,H',h=>by
  simp only [dgH] at h
  split at h
  ·rename_i r' hr
   simp only [Option.some.injEq] at h
   subst h
   rw [Dy hr]; rfl
  ·cases h
 | .buf e sz::r,H',h=>by
  simp only [dgH] at h
  split at h
  ·rename_i r' hr
   simp only [Option.some.injEq] at h
   subst h
   rw [Dy hr]; rfl
  ·cases h
 | .tok e sz::r,H',h=>by
  simp only [dgH] at h
  split at h
  ·rename_i r' hr
   simp only [Option.some.injEq] at h
   subst h
   rw [Dy hr]; rfl
  ·cases h
 | .map es::r,H',h=>by
  simp only [dgH] at h
  split at h
  ·rename_i r' hr
   simp only [Option.some.injEq] at h
   subst h
   rw [Dy hr]; rfl
  ·cases h
structure Ap where
 d:Option Nat
 p:Nat
 new:Bool
 rows:List Row
 news:List Row
 sz:Nat
 bytes:Nat
 H:P0
def M1m (C:Cx)(L:List Oper)(o:Oper)(env:Env)(H:P0):Option Ap:=
 match N1 L env o,o.op,Md o with
 | some true,.call { callee:=.builtin .append,args,argTypes },some d=>
  match args.toList,argTypes.toList with
  | [x,y],[t,t']=>bif Nat.beq t t' then
   (match X2 C.T t,M12 (ev C.GL env y) with
   | some it,some news=>match it.u with
    | .sl e=>match X2 C.T e with
     | some ie=>match ev C.GL env x with
      | .osl p rows=>match nth H p with
       | some (.tok e' sz')=>bif Nat.beq e e'&&Nat.beq ie.size sz' then (match dgH [p] H with | some H'=>some ⟨d,p,false,rows,news,ie.size,ie.bytes,H'⟩ | none=>none) else none
       | _=>none
      | .full rows=>match Au H (.tok e ie.size) with
       | some (n,H')=>some ⟨d,n,true,rows,news,ie.size,ie.bytes,H'⟩
       | none=>none
      | _=>none
     | none=>none
    | _=>none
   | _,_=>none) else none
  | _,_=>none
 | _,_,_=>none
theorem K16 {P:Program}{ρ:Operand→Value}{o:Oper}{x y:Operand}{t t':TypeId}{args:Array Operand}{ts:Array TypeId}(ho:o.op = .call { callee:=.builtin .append,args:=args,argTypes:=ts })(ha:args.toList=[x,y])(ht:ts.toList=[t,t']){w w':World}{v:Value}
  (h:(Builtin.append_ #[t,t'] o.type #[ρ x,ρ y]).run P w = .ok v w'):(execOp ρ o).run P w = .ok (.value v) w':=by
 obtain rfl:args = #[x,y]:=by rw [← Array.toArray_toList (xs:=args),ha]
 obtain rfl:ts = #[t,t']:=by rw [← Array.toArray_toList (xs:=ts),ht]
 unfold execOp
 simp [ho,resolve,invoke,builtin,h]
theorem H11 {M:Mem}{G:Nat→Value}{w:World}{rows:List Row}{v:Value}(h:H3 M (.sl rows) v)(hf:W1n v)(e sz:Nat):Lg M G w (.tok e sz) v∧∀ b,blk (.tok e sz) v≠some b:=by
 cases h with
 | slnil=>exact ⟨.inl rfl,fun b hb=>by simp [blk] at hb⟩
 | sl sz' K1 hl hc hm hs hz h1 h2=>
  rename_i a len cap
  have hf':len=cap:=hf
  subst hf'
  exact ⟨.inr ⟨a,len,len,rfl,hs,Nat.le_refl _,hm,fun hlt=>absurd hlt (Nat.lt_irrefl _)⟩,fun b hb=>by simp [blk] at hb⟩
theorem K0.a {F:Fx}(hC:A3 F.C){L l:List Oper}{o:Oper}{env:Env}{H:P0}{Q:Env→P0→Prop}{d:Option Nat}{p:Nat}{nw:Bool}{rows news:List Row}{sz bytes:Nat}{H':P0}
  (h:M1m F.C L o env H=some ⟨d,p,nw,rows,news,sz,bytes,H'⟩) (h1:∀ r∈rows,r.length=sz) (h2:∀ r∈news,r.length=sz) (h3:(rows.length+news.length) * (bytes+1)≤140737488355328)
  (k:K0 F L l (put (bif nw then env else fun t=>dg [p] (env t)) d (.osl p (rows++news))) H' Q):K0 F L (o::l) env H Q:=by
 unfold M1m at h
 split at h
 ·rename_i args ts dd hw ho hd
  split at h
  ·rename_i x y t t' ha ht
   cases hb:Nat.beq t t' with
   | false=>rw [hb] at h; cases h
   | true=>
    rw [hb] at h
    obtain rfl:=Nat.eq_of_beq_eq_true hb
    simp only [cond_true] at h
    split at h
    ·rename_i it news' hit hnews
     split at h
     ·rename_i e hu
      split at h
      ·rename_i ie hie
       have hmem:x∈o.op.operands∧y∈o.op.operands:=by
        rw [ho]
        obtain rfl:args = #[x,y]:=by rw [← Array.toArray_toList (xs:=args),ha]
        simp [Op.operands,Call.operands]
       have hlen:(rows.length+news.length) * bytes≤140737488355328∧rows.length+news.length≤maxLen:=by
        have:(rows.length+news.length) * (bytes+1)=(rows.length+news.length) * bytes+(rows.length+news.length):=Nat.mul_succ _ _
        unfold maxLen
        omega
       split at h
       ·rename_i q rows' hx
        split at h
        ·rename_i e' sz' hq
         cases hbb:Nat.beq e e'&&Nat.beq ie.size sz' with
         | false=>rw [hbb] at h; cases h
         | true=>
          rw [hbb] at h
          simp only [Bool.and_eq_true] at hbb
          obtain rfl:=Nat.eq_of_beq_eq_true hbb.1
          obtain rfl:=Nat.eq_of_beq_eq_true hbb.2
          simp only [cond_true] at h
          split at h
          ·rename_i H2 hH
           simp only [Option.some.injEq,Ap.mk.injEq] at h
           obtain ⟨rfl,rfl,rfl,rfl,rfl,rfl,rfl,rfl⟩:=h
           refine Ek hw fun fr M G w a K Qw hK hdok hs hsi hk=>?_
           have hxr:=hs.eval x
           rw [hx] at hxr
           generalize hxv:a.eval x=xv at hxr
           cases hxr
           rename_i hgq hrd
           rw [N3] at hq
           have htok:Tok M w e ie.size xv:=by have:=hs.hrel.obj _ _ hq; rw [hgq] at this; exact this
           obtain ⟨v',w',M',r1,r2,r3,r4,r5,r6⟩:=G1b (ty:=o.type) hC.tok hs.good hit hu hie hrd (Gr hnews (hs.eval y)) htok h1 h2 hlen.1 hlen.2
           unfold Oper.wp
           rw [K16 ho ha ht (by rw [hxv]; exact r1)]
           have e1:=Dy hH
           subst e1
           rw [← hgq] at r5 r6
           refine hk (.osl q (rows'++news')) (fun t=>dg [q] (env t)) _ M' (J6 G q v') w' v' ?_ (hs.turnTok (C4 hdok) hq r5 r4 r3 r6 (.osl r2 C2) rfl rfl) (hsi.turnTok hq r5 r6)
           rw [S9 hd]
           exact k
          ·cases h
        ·cases h
       ·rename_i rows' hx
        split at h
        ·rename_i n H2 hH
         simp only [Option.some.injEq,Ap.mk.injEq] at h
         obtain ⟨rfl,rfl,rfl,rfl,rfl,rfl,rfl,rfl⟩:=h
         obtain ⟨rfl,rfl⟩:=Iq hH
         refine Ek hw fun fr M G w a K Qw hK hdok hs hsi hk=>?_
         have hxr:=hs.eval x
         rw [hx] at hxr
         generalize hxv:a.eval x=xv at hxr
         cases hxr
         rename_i hfull hrd
         obtain ⟨t1,t2⟩:=H11 (G:=fun _=>.tuple #[]) (w:=w) hrd hfull e ie.size
         obtain ⟨v',w',M',r1,r2,r3,r4,r5,r6⟩:=G1b (ty:=o.type) hC.tok hs.good hit hu hie hrd (Gr hnews (hs.eval y)) t1 h1 h2 hlen.1 hlen.2
         unfold Oper.wp
         rw [K16 ho ha ht (by rw [hxv]; exact r1)]
         have r5':Ext Z3 M w M' w':=r5.weaken fun b hb=>absurd hb (t2 b)
         have r6':∀ b,blk (.tok e ie.size) v'=some b→w.heap.size≤b:=fun b hb=>(r6 b hb).resolve_left (t2 b)
         refine hk (.osl H.length (rows'++news')) env _ M' (J6 G H.length v') w' v' ?_ (hs.newTok (C4 hdok) r5' r4 r3 r6' (.osl r2 C2)) (hsi.newTok r5' r6')
         rw [S9 hd]
         exact k
        ·cases h
       ·cases h
      ·cases h
     ·cases h
    ·cases h
  ·cases h
 ·cases h
end Go.Am

namespace Go.Am
theorem B1t {M:Mem}{w:World}(hG:Good M w)(cs:Array Value)(e:TypeId) :
  ∃ M':Mem,Good M' (w.alloc (.cells cs e))∧Ext Z3 M w M' (w.alloc (.cells cs e))∧∀ (j:Nat) v,cs[j]?=some v→M' ⟨w.heap.size,j,none⟩=some v:=by
 refine ⟨fun ad=>if ad.block=w.heap.size∧ad.spot=none then cs[ad.off]? else M ad,fun ad v hv=>?_,⟨fun ad v hv=>?_,by simp,rfl,rfl,rfl,fun b hb _=>heap_alloc_old w _ b hb,fun ad v hv=>?_⟩,fun j v hv=>?_⟩
 ·simp only at hv
  split at hv
  ·rename_i hc
   obtain ⟨b,o,s⟩:=ad
   simp only at hc hv
   obtain ⟨rfl,rfl⟩:=hc
   exact .inl ⟨rfl,by rw [Sn (w:=w.alloc (.cells cs e)) (heap_alloc_new w _)]; exact hv⟩
  ·exact N1e (heap_alloc_old w _ _ (hG.lt hv)) (hG ad v hv)
 ·have:=hG.lt hv
  show (if ad.block=w.heap.size∧ad.spot=none then cs[ad.off]? else M ad)=some v
  rw [if_neg (by omega)]
  exact hv
 ·have hv:(if ad.block=w.heap.size∧ad.spot=none then cs[ad.off]? else M ad)=some v:=hv
  split at hv
  ·rename_i hc; exact .inr (.inr (by omega))
  ·exact .inl hv
 ·show (if w.heap.size=w.heap.size∧(none:Option Nat)=none then cs[j]? else M _)=some v
  rw [if_pos ⟨rfl,rfl⟩]
  exact hv
def toD:A→Option D
 | .d x=>some x
 | .full r=>some (.sl r)
 | .osl _ r=>some (.sl r)
 | _=>none
theorem Q1e {M:Mem}{G:Nat→Value}{x:A}{y:D}{v:Value}(h:toD x=some y)(hx:V0 M G x v):H3 M y v:=by
 unfold toD at h
 split at h
 ·simp only [Option.some.injEq] at h; subst h; cases hx; assumption
 ·simp only [Option.some.injEq] at h; subst h; cases hx; assumption
 ·simp only [Option.some.injEq] at h; subst h; cases hx; assumption
 ·cases h
def R1e:List A→Option (List D)
 | []=>some []
 | x::r=>match toD x,R1e r with | some y,some r'=>some (y::r') | _,_=>none
theorem R1b:∀ {l:List A} {l':List D},R1e l=some l'→l'.length=l.length∧∀ (i:Nat) y,l'[i]?=some y→∃ x,l[i]?=some x∧toD x=some y
 | [],l',h=>by simp [R1e] at h; subst h; exact ⟨rfl,fun i y h=>by simp at h⟩
 | x::r,l',h=>by
  simp only [R1e] at h
  split at h
  ·rename_i y r' hy hr
   simp only [Option.some.injEq] at h
   subst h
   obtain ⟨h1,h2⟩:=R1b hr
   refine ⟨by simp [h1],fun i z hz=>?_⟩
   cases i with
   | zero=>simp at hz; subst hz; exact ⟨x,rfl,hy⟩
   | succ i=>simpa using h2 i z (by simpa using hz)
  ·cases h
def P12 (sz:Nat):Nat→List A→Option (List Row)
 | 0,_=>some []
 | n+1,l=>match R1e (l.take sz),P12 sz n (l.drop sz) with | some r,some rs=>bif Nat.beq r.length sz then some (r::rs) else none | _,_=>none
theorem K1d {sz:Nat}:∀ {n:Nat} {l:List A} {rs:List Row},P12 sz n l=some rs→rs.length=n∧(∀ (i:Nat) r,rs[i]?=some r→r.length=sz)∧∀ (i j:Nat) r y,rs[i]?=some r→r[j]?=some y→∃ x,l[i * sz+j]?=some x∧toD x=some y
 | 0,l,rs,h=>by simp [P12] at h; subst h; exact ⟨rfl,fun i r h=>by simp at h,fun i j r y h=>by simp at h⟩
 | n+1,l,rs,h=>by
  simp only [P12] at h
  split at h
  ·rename_i r rs' hr hrs
   cases hb:Nat.beq r.length sz with
   | false=>rw [hb] at h; cases h
   | true=>
    rw [hb] at h
    simp only [cond_true,Option.some.injEq] at h
    subst h
    have e:=Nat.eq_of_beq_eq_true hb
    obtain ⟨h1,h2,h3⟩:=K1d hrs
    obtain ⟨g1,g2⟩:=R1b hr
    refine ⟨by simp [h1],fun i r' hi=>?_,fun i j r' y hi hj=>?_⟩
    ·cases i with
     | zero=>simp at hi; subst hi; exact e
     | succ i=>exact h2 i r' (by simpa using hi)
    ·cases i with
     | zero=>
      simp at hi
      subst hi
      obtain ⟨x,hx,hy⟩:=g2 j y hj
      rw [List.getElem?_take] at hx
      split at hx
      ·exact ⟨x,by simpa using hx,hy⟩
      ·cases hx
     | succ i=>
      obtain ⟨x,hx,hy⟩:=h3 i j r' y (by simpa using hi) hj
      rw [List.getElem?_drop] at hx
      exact ⟨x,by rw [← hx]; congr 1; rw [Nat.add_mul]; omega,hy⟩
  ·cases h
theorem Y1q {M:Mem}{G:Nat→Value}{w:World}(hG:Good M w){e sz n:Nat}{l:List A}{cs:Array Value}{rs:List Row}(hc:Xk M G l cs)(h:P12 sz n l=some rs)(hn:n≤maxLen) :
  ∃ M',H3 M' (.sl rs) (.slice (some ⟨w.heap.size,0,none⟩) n n)∧Good M' (w.alloc (.cells cs e))∧Ext Z3 M w M' (w.alloc (.cells cs e)):=by
 obtain ⟨M',h1,h2,h3⟩:=B1t hG cs e
 obtain ⟨g1,g2,g3⟩:=K1d h
 have hget:∀ (i j:Nat) r y,rs[i]?=some r→r[j]?=some y→∃ v,cs[i * sz+j]?=some v∧H3 M y v:=fun i j r y hi hj=>by
  obtain ⟨x,hx,hy⟩:=g3 i j r y hi hj
  have hlt:i * sz+j < cs.size:=by rw [← hc.1]; exact (List.getElem?_eq_some_iff.1 hx).1
  exact ⟨cs[i * sz+j],Array.getElem?_eq_getElem hlt,Q1e hy (hc.2.2 _ x _ hx (Array.getElem?_eq_getElem hlt))⟩
 refine ⟨M',.sl sz (fun i j=>(cs[i * sz+j]?).getD undef) g1 (Nat.le_refl _) hn (.inr rfl) g2 (fun i j r y hi hj=>?_) fun i j r y hi hj=>?_,h1,h2⟩
 ·obtain ⟨v,hv,_⟩:=hget i j r y hi hj
  rw [Kd,hv,Nat.zero_add]
  exact h3 _ v hv
 ·obtain ⟨v,hv,hr⟩:=hget i j r y hi hj
  rw [hv]
  exact hr.mono h2.mono
def V10 (C:Cx)(L:List Oper)(o:Oper)(env:Env):Option (Option Nat×List Row):=
 match N1 L env o,o.op,Md o with
 | some true,.buildSlice t len parts,some d=>match X2 C.T t with
  | some i=>match i.u with
   | .sl e=>match X2 C.T e with
    | some j=>bif Nat.ble len 65536&&Nat.ble j.size 64 then (match Oo (fun i=>some (i * j.size,j.size)) (List.replicate (len * j.size) .junk) (parts.toList.map fun p=>(p.1,ev C.GL env p.2)) with
     | some out=>match P12 j.size len out with | some rs=>some (d,rs) | none=>none
     | none=>none) else none
    | none=>none
   | _=>none
  | none=>none
 | _,_,_=>none
theorem N1o {P:Program}{T:TT}(hT:TOk P T){e:Nat}{j:TI}(he:X2 T e=some j)(len:Nat)(w:World) :
  ∃ z:Array Value,((len * j.size=0∧z = #[])∨(¬ len * j.size=0∧∃ v,(zeroValue e).run P w = .ok v w∧z=v.cells))∧((Array.range (len * j.size)).map (z[· % z.size]!)).size=len * j.size∧∀ (i:Nat) v,((Array.range (len * j.size)).map (z[· % z.size]!))[i]?=some v→v.oneCell'=true:=by
 by_cases h0:len * j.size=0
 ·refine ⟨#[],.inl ⟨h0,rfl⟩,by simp,fun i v hv=>?_⟩
  rw [h0] at hv
  simp at hv
 ·obtain ⟨z,h1,h2,_⟩:=E14 (M:=fun _=>none) (G:=fun _=>undef) hT he
  refine ⟨z.cells,.inr ⟨h0,z,h1 w,rfl⟩,by simp,fun i v hv=>?_⟩
  have hpos:=(hT.facts he).pos
  have hlen:=(hT.facts he).len
  have hzs:z.cells.size=j.size:=by have:=h2.1; simp at this; omega
  rw [Array.getElem?_map] at hv
  cases hr:(Array.range (len * j.size))[i]? with
  | none=>rw [hr] at hv; cases hv
  | some k=>
   rw [hr] at hv
   simp only [Option.map_some,Option.some.injEq] at hv
   subst hv
   have hlt:k % z.cells.size < z.cells.size:=Nat.mod_lt _ (by omega)
   rw [getElem!_pos z.cells (k % z.cells.size) hlt]
   exact h2.2.1 _ _ (Array.getElem?_eq_getElem hlt)
theorem J14 {C:Cx}{L:List Oper}{o:Oper}{env:Env}{d:Option Nat}{rs:List Row}(h:V10 C L o env=some (d,rs)):N1 L env o=some true∧Md o=some d:=by
 unfold V10 at h
 split at h
 ·rename_i t len parts dd hw ho hd
  split at h
  ·split at h
   ·split at h
    ·rename_i j hj
     cases hb:Nat.ble len 65536&&Nat.ble j.size 64 with
     | false=>rw [hb] at h; cases h
     | true=>
      rw [hb] at h
      simp only [cond_true] at h
      split at h
      ·split at h
       ·simp only [Option.some.injEq,Prod.mk.injEq] at h
        exact ⟨hw,by rw [hd,h.1]⟩
       ·cases h
      ·cases h
    ·cases h
   ·cases h
  ·cases h
 ·cases h
theorem J18 {C:Cx}(hC:A3 C){L:List Oper}{o:Oper}{env:Env}{H:P0}{d:Option Nat}{rs:List Row}(h:V10 C L o env=some (d,rs)):Z8 C o env H (.full rs):=by
 intro M G w a next Qw hρ hG hgl hH hk
 unfold V10 at h
 split at h
 ·rename_i t len parts dd hw ho hd
  rw [ho] at hρ
  split at h
  ·rename_i i ht
   split at h
   ·rename_i e hu
    split at h
    ·rename_i j hj
     cases hb:Nat.ble len 65536&&Nat.ble j.size 64 with
     | false=>rw [hb] at h; cases h
     | true=>
      rw [hb] at h
      simp only [Bool.and_eq_true] at hb
      have b1:=Nat.le_of_ble_eq_true hb.1
      have b2:=Nat.le_of_ble_eq_true hb.2
      simp only [cond_true] at h
      split at h
      ·rename_i out hout
       split at h
       ·rename_i rs' hrs
        simp only [Option.some.injEq,Prod.mk.injEq] at h
        obtain ⟨rfl,rfl⟩:=h
        have hd:=Un (hC.tok.facts ht) hu
        obtain ⟨z,hz,hzs,hz1⟩:=N1o hC.tok hj len w
        obtain ⟨ws,f1,f2⟩:=Xx (M:=M) (G:=G) (vs:=(Array.range (len * j.size)).map (z[· % z.size]!)) (K1:=(parts.map fun (p:Nat×Operand)=>(p.1,a.eval p.2)).toList) ⟨by rw [hzs]; simp,hz1,fun i x v hx hv=>by
          rw [List.getElem?_replicate] at hx
          split at hx
          ·simp only [Option.some.injEq] at hx; subst hx; exact .junk
          ·cases hx⟩ (by simp) (fun i p q hp hq=>by
          rw [List.getElem?_map] at hp
          rw [Array.getElem?_toList,Array.getElem?_map] at hq
          cases hpi:parts[i]? with
          | none=>rw [hpi] at hq; cases hq
          | some r=>
           rw [Array.getElem?_toList,hpi] at hp
           rw [hpi] at hq
           simp only [Option.map_some,Option.some.injEq] at hp hq
           subst hp; subst hq
           refine ⟨rfl,hρ _ ?_⟩
           simp only [Op.operands,List.mem_toArray,List.mem_map,Array.mem_toList_iff]
           exact ⟨r,Array.mem_of_getElem? hpi,rfl⟩) hout
        obtain ⟨M',g1,g2,g3⟩:=Y1q (e:=e) hG f2 hrs (by unfold maxLen; omega)
        have hnot:¬ len * j.size > 2 ^ 24:=by
         have:len * j.size≤65536 * 64:=Nat.mul_le_mul b1 b2
         have e24:(2:Nat) ^ 24=16777216:=by decide
         omega
        have hrun:(Instr.buildSlice t len (parts.map fun (p:Nat×Operand)=>(p.1,a.eval p.2))).run C.P w = .ok (.slice (some ⟨w.heap.size,0,none⟩) len len) (w.alloc (.cells ws e)):=by
         simp only [Instr.buildSlice,Sem.run_bind,run_underlying hd,Result.andThen_ok,Ah (hC.tok.facts hj) w]
         rw [if_neg hnot]
         rcases hz with ⟨h0,rfl⟩ | ⟨h0,v,hv,rfl⟩
         ·rw [if_pos h0]
          simp only [Sem.run_bind,Sem.run_pure,Result.andThen_ok,f1]
          simp [newRow]
         ·rw [if_neg h0]
          simp only [Sem.run_bind,Sem.run_pure,Result.andThen_ok,hv,f1]
          simp [newRow]
        unfold Oper.wp execOp
        simp only [ho,Sem.run_bind,hrun,Result.andThen_ok,Sem.run_pure,Oper.upon_value]
        exact hk _ M' _ (.full g1 rfl) g2 g3
       ·cases h
      ·cases h
    ·cases h
   ·cases h
  ·cases h
 ·cases h
theorem K0.b {F:Fx}(hC:A3 F.C){L l:List Oper}{o:Oper}{env:Env}{H:P0}{Q:Env→P0→Prop}{d:Option Nat}{rs:List Row}(h:V10 F.C L o env=some (d,rs))(k:K0 F L l (put env d (.full rs)) H Q):K0 F L (o::l) env H Q:=by
 obtain ⟨h1,h2⟩:=J14 h
 refine .yields h1 (J18 hC h) ?_
 rw [S9 h2]
 exact k
theorem AQ.b {C:Cx}(hC:A3 C){L l:List Oper}{o:Oper}{env:Env}{H:P0}{Q:Env→Prop}{d:Option Nat}{rs:List Row}(h:V10 C L o env=some (d,rs))(k:AQ C L l (put env d (.full rs)) H Q):AQ C L (o::l) env H Q:=
 .y _ (J14 h).2 (J14 h).1 (J18 hC h) k
end Go.Am

namespace Go.Am
def K14 (C:Cx)(L:List Oper)(o:Oper)(env:Env):Option (Option Nat×List UInt8×Int):=
 match N1 L env o,o.op with
 | some true,.index t x y=>match X2 C.T t,ev C.GL env x,ev C.GL env y,Md o with
  | some i,.d (.str s),.d (.int _ n),some d=>match i.u with
   | .str=>some (d,s,n)
   | _=>none
  | _,_,_,_=>none
 | _,_=>none
theorem L1d {C:Cx}{L:List Oper}{o:Oper}{env:Env}{d:Option Nat}{s:List UInt8}{n:Int}(h:K14 C L o env=some (d,s,n)):N1 L env o=some true∧Md o=some d:=by
 unfold K14 at h
 split at h
 ·rename_i t x y hw ho
  split at h
  ·rename_i i s' k m d' ht hx hy hd
   split at h
   ·simp only [Option.some.injEq,Prod.mk.injEq] at h
    exact ⟨hw,by rw [hd,h.1]⟩
   ·cases h
  ·cases h
 ·cases h
theorem H1b {C:Cx}(hC:A3 C){L:List Oper}{o:Oper}{env:Env}{H:P0}{d:Option Nat}{s:List UInt8}{n:Int}(h:K14 C L o env=some (d,s,n)){k:Nat}{b:UInt8}(hn:n=k)(hk:s[k]?=some b):Z8 C o env H (.d (.int .u8 b.toNat)):=by
 intro M G w a next Qw hρ hG hgl hH hkk
 unfold K14 at h
 split at h
 ·rename_i t x y hw ho
  rw [ho] at hρ
  split at h
  ·rename_i i s' kd m d' ht hx hy hd
   split at h
   ·rename_i hu
    simp only [Option.some.injEq,Prod.mk.injEq] at h
    obtain ⟨rfl,rfl,rfl⟩:=h
    have hxr:=hρ x (by simp [Op.operands])
    have hyr:=hρ y (by simp [Op.operands])
    rw [hx] at hxr
    rw [hy] at hyr
    generalize hxv:a.eval x=xv at hxr
    generalize hyv:a.eval y=yv at hyr
    cases hxr; rename_i hxr; cases hxr
    cases hyr; rename_i hyr; cases hyr
    have hd:=Tn (hC.tok.facts ht) hu
    have hlt:k < s'.length:=(List.getElem?_eq_some_iff.1 hk).1
    have hget:(⟨s'.toArray⟩:ByteArray)[m.toNat]?=some b:=by
     have e:m.toNat=k:=by omega
     rw [e,getElem?_pos (⟨s'.toArray⟩:ByteArray) k (by rw [E1a]; exact hlt)]
     have:=(List.getElem?_eq_some_iff.1 hk).2
     simpa [ByteArray.getElem_eq_getElem_data] using this
    unfold Oper.wp execOp
    have:(Instr.index t (.string ⟨s'.toArray⟩) (.int kd m)).run C.P w = .ok (.int .u8 b.toNat) w:=by
     have hm:0≤m:=by omega
     simp [Instr.index,Ct,run_underlying hd,hm,hget]
    simp only [ho,hxv,hyv,Sem.run_bind,this,Result.andThen_ok,Sem.run_pure,Oper.upon_value]
    exact hkk _ M w (.d (.int (by rw [W1t]; have:=b.toNat_lt; omega))) hG (Ext.refl _ _ _)
   ·cases h
  ·cases h
 ·cases h
theorem K0.x {F:Fx}(hC:A3 F.C){L l:List Oper}{o:Oper}{env:Env}{H:P0}{Q:Env→P0→Prop}{d:Option Nat}{s:List UInt8}{n:Int}(h:K14 F.C L o env=some (d,s,n)){k:Nat}{b:UInt8}(hn:n=k)(hk:s[k]?=some b)
  (kk:K0 F L l (put env d (.d (.int .u8 b.toNat))) H Q):K0 F L (o::l) env H Q:=by
 obtain ⟨h1,h2⟩:=L1d h
 refine .yields h1 (H1b hC h hn hk) ?_
 rw [S9 h2]
 exact kk
def bnd (GL:GT)(env:Env)(x:Option Operand)(dflt:Int):Option Int:=
 match x with
 | none=>some dflt
 | some y=>match ev GL env y with | .d (.int _ n)=>some n | _=>none
theorem O1o {M:Mem}{G:Nat→Value}{GL:GT}{env:Env}{a:Act}{x:Option Operand}{dflt n:Int}(h:bnd GL env x dflt=some n)(hρ:∀ y,x=some y→V0 M G (ev GL env y) (a.eval y)) :
  (x=none∧n=dflt)∨∃ y k,x=some y∧a.eval y = .int k n:=by
 unfold bnd at h
 split at h
 ·simp only [Option.some.injEq] at h; exact .inl ⟨rfl,h.symm⟩
 ·rename_i y
  split at h
  ·rename_i k m hy
   simp only [Option.some.injEq] at h
   subst h
   have hr:=hρ y rfl
   rw [hy] at hr
   generalize hv:a.eval y=v at hr
   cases hr; rename_i hr; cases hr
   exact .inr ⟨y,k,rfl,hv⟩
  ·cases h
def J1a (C:Cx)(L:List Oper)(o:Oper)(env:Env):Option (Option Nat×List UInt8×Int×Int):=
 match N1 L env o,o.op with
 | some true,.slice t x lo hi none=>match X2 C.T t,ev C.GL env x,Md o with
  | some i,.d (.str s),some d=>match i.u,bnd C.GL env lo 0,bnd C.GL env hi (s.length:Nat) with
   | .str,some l,some h=>some (d,s,l,h)
   | _,_,_=>none
  | _,_,_=>none
 | _,_=>none
theorem N1m {C:Cx}{L:List Oper}{o:Oper}{env:Env}{r:Option Nat×List UInt8×Int×Int}(h:J1a C L o env=some r):N1 L env o=some true∧Md o=some r.1:=by
 unfold J1a at h
 split at h
 ·rename_i t x lo hi hw ho
  split at h
  ·rename_i i s' d' ht hx hd
   split at h
   ·simp only [Option.some.injEq] at h
    subst h
    exact ⟨hw,hd⟩
   ·cases h
  ·cases h
 ·cases h
theorem O1m {P:Program}{w:World}{isSl:Bool}{len cap l h:Nat}{lo hi:Option Value}(h1:lo=none∧l=0∨∃ k,lo=some (.int k (l:Int)))(h2:hi=none∧h=len∨∃ k,hi=some (.int k (h:Int)))(hle:l≤h)(hc:h≤cap) :
  (Instr.sliceBounds isSl len cap lo hi none).run P w = .ok (l,h,cap) w:=by
 have b:∀ (k:IntKind) (n y:Nat) (c:BoundsCode),n≤y→(Instr.sliceBound (.int k (n:Int)) y c).run P w = .ok n w:=fun k n y c hy=>by
  simp [Instr.sliceBound,Ct,hy]
 rcases h1 with ⟨rfl,rfl⟩ | ⟨k,rfl⟩ <;> rcases h2 with ⟨rfl,rfl⟩ | ⟨k',rfl⟩ <;> simp [Instr.sliceBounds,b _ _ _ _ hle,b _ _ _ _ hc]
theorem J1l {a:Act}{x:Option Operand}{dflt n:Int}{l dl:Nat}(h:(x=none∧n=dflt)∨∃ y k,x=some y∧a.eval y = .int k n)(hl:n=l)(hd:dflt=dl):(x.map a.eval=none∧l=dl)∨∃ k,x.map a.eval=some (.int k (l:Int)):=by
 rcases h with ⟨rfl,rfl⟩ | ⟨y,k,rfl,e⟩
 ·exact .inl ⟨rfl,by omega⟩
 ·exact .inr ⟨k,by simp [e,hl]⟩
theorem P1m (s:List UInt8)(l h:Nat):(⟨s.toArray⟩:ByteArray).extract l h=⟨((s.take h).drop l).toArray⟩:=by
 apply ByteArray.ext
 rw [ByteArray.data_extract]
 simp [List.extract_toArray,List.drop_take]
theorem K1k {C:Cx}(hC:A3 C){L:List Oper}{o:Oper}{env:Env}{H:P0}{d:Option Nat}{s:List UInt8}{lo hi:Int}(h:J1a C L o env=some (d,s,lo,hi)){l r:Nat}(hl:lo=l)(hr:hi=r)(hlr:l≤r)(hrs:r≤s.length) :
  Z8 C o env H (.d (.str ((s.take r).drop l))):=by
 intro M G w a next Qw hρ hG hgl hH hkk
 unfold J1a at h
 split at h
 ·rename_i t x lo' hi' hw ho
  rw [ho] at hρ
  split at h
  ·rename_i i s' d' ht hx hd
   split at h
   ·rename_i l' h' hu hbl hbh
    simp only [Option.some.injEq,Prod.mk.injEq] at h
    obtain ⟨rfl,rfl,rfl,rfl⟩:=h
    have hxr:=hρ x (by simp [Op.operands])
    rw [hx] at hxr
    generalize hxv:a.eval x=xv at hxr
    cases hxr; rename_i hxr; cases hxr
    rename_i hsl
    have hd:=Tn (hC.tok.facts ht) hu
    have e1:=J1l (O1o hbl fun y hy=>hρ y (by subst hy; simp [Op.operands])) hl rfl
    have e2:=J1l (O1o hbh fun y hy=>hρ y (by subst hy; simp [Op.operands])) hr rfl
    have:(Instr.sliceAt t (.string ⟨s'.toArray⟩) (lo'.map a.eval) (hi'.map a.eval) none).run C.P w = .ok (.string ⟨((s'.take r).drop l).toArray⟩) w:=by
     have hb:=O1m (P:=C.P) (w:=w) (isSl:=false) (cap:=s'.length) e1 e2 hlr hrs
     simp [Instr.sliceAt,Instr.slice,run_underlying hd,E1a,hb,P1m s' l r]
    unfold Oper.wp execOp
    simp only [ho,hxv,Option.map_none,Sem.run_bind,this,Result.andThen_ok,Sem.run_pure,Oper.upon_value]
    exact hkk _ M w (.d (.str (by simp; omega))) hG (Ext.refl _ _ _)
   ·cases h
  ·cases h
 ·cases h
theorem K0.l {F:Fx}(hC:A3 F.C){L l:List Oper}{o:Oper}{env:Env}{H:P0}{Q:Env→P0→Prop}{d:Option Nat}{s:List UInt8}{lo hi:Int}(h:J1a F.C L o env=some (d,s,lo,hi)){p r:Nat}(hl:lo=p)(hr:hi=r)(hlr:p≤r)(hrs:r≤s.length)
  (kk:K0 F L l (put env d (.d (.str ((s.take r).drop p)))) H Q):K0 F L (o::l) env H Q:=by
 obtain ⟨h1,h2⟩:=N1m h
 refine .yields h1 (K1k hC h hl hr hlr hrs) ?_
 rw [S9 h2]
 exact kk
end Go.Am

namespace Go.Am
theorem St.newOb {C:Cx}{N:FN}{M M':Mem}{G:Nat→Value}{w w':World}{env:Env}{H:P0}{a:Act}(h:St C N M G w env H a){dst:Option Nat}(hd:∀ d,dst=some d→d < N){ob:Ob}{v' v:Value}{x:A}
  (hext:Ext Z3 M w M' w') (hg:Good M' w') (hob:∀ G,Lg M' G w' ob v') (hblk:∀ b,blk ob v'=some b→w.heap.size≤b)
  (hx:V0 M' (J6 G H.length v') x v) :
  St C N M' (J6 G H.length v') w' (put env dst x) (H++[ob]) (a.put dst v):=by
 have hh:=h.hrel.ext hext (fun _ _ q=>q)
 have hmono:∀ {x:A} {v:Value},V0 M' G x v→V0 M' (J6 G H.length v') x v:=fun hr=>hr.mono (fun _ _ e=>e) fun o hn=>Q1 (Nat.ne_of_lt (hh.lt hr hn))
 obtain ⟨h1,h2,h3⟩:=Ol (fun t=>hmono ((h.env t).mono' hext.mono)) h.size hd hx
 refine ⟨hg,h.gl.ext h.hrel hext (fun _ h=>h.elim),⟨fun o x ho=>?_,fun o o' x x' b ho ho' hb hb'=>?_,fun o ho=>?_⟩,h1,h2,h3.trans h.defers⟩
 ·rcases Nat.lt_trichotomy o H.length with hlt | rfl | hgt
  ·rw [List.getElem?_append_left hlt] at ho
   rw [Q1 (Nat.ne_of_lt hlt)]
   have hob:=hh.obj o x ho
   cases x with
   | dead=>trivial
   | row cells e=>
    obtain ⟨b,us,g1,g2,g3,g4,g5,g6⟩:=hob
    exact ⟨b,us,g1,g2,g3,g4,fun i y v a c=>hmono (g5 i y v a c),g6⟩
   | bld o' e=>
    obtain ⟨b,v0,g1,g2,g3,g4,g5⟩:=hob
    have ho':o'≠H.length:=fun e=>g4 (by rw [e]; exact hh.fresh _ (Nat.le_refl _))
    exact ⟨b,v0,g1,by rw [Q1 ho']; exact g2,g3,by rw [Q1 ho']; exact g4,g5⟩
   | buf e sz=>exact hob
   | tok e sz=>exact hob
   | map es=>
    obtain ⟨b,ms,cl,g1,g2,g3,g4,g5⟩:=hob
    exact ⟨b,ms,cl,g1,g2,g3,fun i k cs e a c=>⟨(g4 i k cs e a c).1,hmono (g4 i k cs e a c).2⟩,g5⟩
  ·simp at ho
   subst ho
   rw [C2]
   exact hob _
  ·rw [List.getElem?_eq_none (by simp; omega)] at ho
   cases ho
 ·have key:∀ (o:Nat) x b,(H++[ob])[o]?=some x→blk x (J6 G H.length v' o)=some b→(o < H.length∧H[o]?=some x∧blk x (G o)=some b∧b < w.heap.size)∨(o=H.length∧w.heap.size≤b):=by
   intro o x b ho hb
   rcases Nat.lt_trichotomy o H.length with hlt | rfl | hgt
   ·rw [List.getElem?_append_left hlt] at ho
    rw [Q1 (Nat.ne_of_lt hlt)] at hb
    exact .inl ⟨hlt,ho,hb,Qf (h.hrel.obj o x ho) hb⟩
   ·simp at ho
    subst ho
    rw [C2] at hb
    exact .inr ⟨rfl,hblk b hb⟩
   ·rw [List.getElem?_eq_none (by simp; omega)] at ho
    cases ho
  rcases key o x b ho hb with ⟨q1,q2,q3,q4⟩ | ⟨q1,q2⟩ <;> rcases key o' x' b ho' hb' with ⟨p1,p2,p3,p4⟩ | ⟨p1,p2⟩
  ·exact h.hrel.apart o o' x x' b q2 p2 q3 p3
  ·omega
  ·omega
  ·omega
 ·simp at ho
  rw [Q1 (by omega)]
  exact h.hrel.fresh o (by omega)
theorem Y1.newOb {fr:Fr}{M M':Mem}{G:Nat→Value}{w w':World}{H:P0}(h:Y1 fr M G w H){ob:Ob}{v':Value}(hext:Ext Z3 M w M' w')(hblk:∀ b,blk ob v'=some b→w.heap.size≤b) :
  Y1 fr M' (J6 G H.length v') w' (H++[ob]):=by
 refine ⟨h.ext.trans hext (fun _ h=>h.elim),fun b hb=>?_,by simp; have:=h.len; omega,fun o x ho ht=>?_,fun o x y ho ht hy=>?_⟩
 ·obtain ⟨o,x,ho,hx⟩:=hb
  rcases Nat.lt_trichotomy o H.length with hlt | rfl | hgt
  ·rw [List.getElem?_append_left hlt] at ho
   rw [Q1 (Nat.ne_of_lt hlt)] at hx
   exact h.own b ⟨o,x,ho,hx⟩
  ·simp at ho
   subst ho
   rw [C2] at hx
   exact .inr (Nat.le_trans h.ext.size (hblk b hx))
  ·rw [List.getElem?_eq_none (by simp; omega)] at ho
   cases ho
 ·have hlt:o < H.length:=Nat.lt_of_lt_of_le (List.getElem?_eq_some_iff.1 ho).1 h.len
  rw [Q1 (Nat.ne_of_lt hlt)]
  exact h.keep o x ho ht
 ·have hlt:o < H.length:=Nat.lt_of_lt_of_le (List.getElem?_eq_some_iff.1 ho).1 h.len
  rw [List.getElem?_append_left hlt] at hy
  exact h.kind o x y ho ht hy
theorem St.setOb {C:Cx}{N:FN}{M:Mem}{G:Nat→Value}{w w':World}{env:Env}{H:P0}{a:Act}(h:St C N M G w env H a){dst:Option Nat}(hd:∀ d,dst=some d→d < N){p b:Nat}{x x':Ob}
  (hp:H[p]?=some x) (hb:blk x (G p)=some b) (hb':blk x' (G p)=some b) (hext:Ext (fun c=>c=b) M w M w') (hM:∀ off sp,M ⟨b,off,sp⟩=none) (hob:Lg M G w' x' (G p)) {y:A} {v:Value} (hy:V0 M G y v) :
  St C N M G w' (put env dst y) (Gj H p x') (a.put dst v):=by
 have hlt:p < H.length:=(List.getElem?_eq_some_iff.1 hp).1
 obtain ⟨h1,h2,h3⟩:=Ol h.env h.size hd hy
 refine ⟨h.good.ext hext (fun ad u e hk=>?_),h.gl.ext h.hrel hext (fun c hc=>by subst hc; exact ⟨p,_,hp,hb⟩),⟨fun i z hi=>?_,fun i i' z z' c hi hi' hx hx'=>?_,fun i hi=>h.hrel.fresh i (by rw [Hq] at hi; exact hi)⟩,h1,h2,h3.trans h.defers⟩
 ·obtain ⟨bb,oo,ss⟩:=ad
  have hk':bb=b:=hk
  subst hk'
  rw [hM] at e
  cases e
 ·rw [Dg H p _ i hlt] at hi
  split at hi
  ·rename_i e
   subst e
   simp only [Option.some.injEq] at hi
   subst hi
   exact hob
  ·rename_i hne
   have hoz:=h.hrel.obj i z hi
   exact hoz.keep (fun _ _ e=>e) (fun c hcb=>hext.block c (Qf hoz hcb) fun e=>hne (h.hrel.apart i p z _ b hi hp (e ▸ hcb) hb)) (fun _ _ _ _ e=>e)
 ·have key:∀ (n:Nat) z d,(Gj H p x')[n]?=some z→blk z (G n)=some d→∃ y,H[n]?=some y∧blk y (G n)=some d:=by
   intro n z d hn hz
   rw [Dg H p _ n hlt] at hn
   by_cases e:n=p
   ·rw [if_pos e] at hn
    subst e
    obtain rfl:=Option.some.inj hn
    exact ⟨_,hp,by rw [hb,← hb',hz]⟩
   ·rw [if_neg e] at hn
    exact ⟨z,hn,hz⟩
  obtain ⟨y,hy,hby⟩:=key i z c hi hx
  obtain ⟨y',hy',hby'⟩:=key i' z' c hi' hx'
  exact h.hrel.apart i i' y y' c hy hy' hby hby'
theorem Y1.setOb {fr:Fr}{M:Mem}{G:Nat→Value}{w w':World}{H:P0}(h:Y1 fr M G w H){p b:Nat}{x x':Ob}
  (hp:H[p]?=some x) (hb:blk x (G p)=some b) (hb':blk x' (G p)=some b) (ht':isTok x'=false) (hext:Ext (fun c=>c=b) M w M w'):Y1 fr M G w' (Gj H p x'):=by
 have hlt:p < H.length:=(List.getElem?_eq_some_iff.1 hp).1
 have hown:Go.Am.own G H b:=⟨p,_,hp,hb⟩
 refine ⟨h.ext.trans hext (fun x hx=>by subst hx; exact h.own _ hown),fun c hc=>?_,by rw [Hq]; exact h.len,h.keep,fun i z y hi ht hy=>?_⟩
 ·obtain ⟨i,z,hi,hx⟩:=hc
  rw [Dg H p _ i hlt] at hi
  by_cases e:i=p
  ·rw [if_pos e] at hi
   subst e
   obtain rfl:=Option.some.inj hi
   rw [hb'] at hx
   obtain rfl:=Option.some.inj hx
   exact h.own _ hown
  ·rw [if_neg e] at hi
   exact h.own c ⟨i,z,hi,hx⟩
 ·rw [Dg H p _ i hlt] at hy
  by_cases e:i=p
  ·rw [if_pos e] at hy
   obtain rfl:=Option.some.inj hy
   exact ht'
  ·rw [if_neg e] at hy
   exact h.kind i z y hi ht hy
def S1e (k:List UInt8):List (List UInt8×Row)→Option Row
 | []=>none
 | (k',cs)::r=>bif k == k' then some cs else S1e k r
def mput (k:List UInt8)(cs:Row):List (List UInt8×Row)→List (List UInt8×Row)
 | []=>[(k,cs)]
 | (k',cs')::r=>bif k == k' then (k,cs)::r else (k',cs')::mput k cs r
theorem L1s {a b:List UInt8}:((⟨a.toArray⟩:ByteArray) == ⟨b.toArray⟩)=(a == b):=by
 show (a.toArray == b.toArray)=(a == b)
 simp
theorem M1d {k:List UInt8}:∀ {es:List (List UInt8×Row)} {ms:List MapEntry} {i:Nat},ms.length=es.length→(∀ (n:Nat) k' cs e,es[n]?=some (k',cs)→ms[n]?=some e→e.key = .string ⟨k'.toArray⟩)→
  (S1e k es=none∧Instr.findNow .string (.string ⟨k.toArray⟩) ms i=some none∧∀ cs,mput k cs es=es++[(k,cs)])∨
  ∃ n cs e,es[n]?=some (k,cs)∧S1e k es=some cs∧ms[n]?=some e∧Instr.findNow .string (.string ⟨k.toArray⟩) ms i=some (some (i+n,e.val))∧∀ cs',mput k cs' es=es.set n (k,cs')
 | [],[],i,_,_=>.inl ⟨rfl,rfl,fun _=>rfl⟩
 | (k',cs)::es,m::ms,i,hl,hk=>by
  have hm:=hk 0 k' cs m rfl rfl
  simp only [Instr.findNow,hm,Instr.sameNow,S1e,mput,L1s]
  cases hb:k == k' with
  | true=>
   obtain rfl:=beq_iff_eq.1 hb
   exact .inr ⟨0,cs,m,rfl,rfl,rfl,rfl,fun _=>rfl⟩
  | false=>
   simp only [cond_false]
   rcases M1d (k:=k) (es:=es) (ms:=ms) (i:=i+1) (by simpa using hl) (fun n k' cs e a b=>hk (n+1) k' cs e (by simpa using a) (by simpa using b)) with ⟨h1,h2,h3⟩ | ⟨n,cs',e,h1,h2,h3,h4,h5⟩
   ·exact .inl ⟨h1,h2,fun cs'=>by rw [h3]; rfl⟩
   ·exact .inr ⟨n+1,cs',e,by simpa using h1,h2,by simpa using h3,by rw [h4]; congr 3; omega,fun c=>by rw [h5]; rfl⟩
 | [],_::_,_,hl,_=>by simp at hl
 | _::_,[],_,hl,_=>by simp at hl
theorem G1i (es:List (List UInt8×Row)):(Lv.s es).list.length=es.length:=by simp [Lv.list]
theorem Z1q {M:Mem}{G:Nat→Value}{es:List (List UInt8×Row)}{ms:Array MapEntry}(h:∀ (i:Nat) k cs e,(Lv.s es).list[i]?=some (k,cs)→ms[i]?=some e→H3 M k e.key∧V0 M G (Gq cs) e.val) :
  ∀ (i:Nat) k cs e,es[i]?=some (k,cs)→ms[i]?=some e→H3 M (.str k) e.key∧V0 M G (Gq cs) e.val:=fun i k cs e a b=>h i (.str k) cs e (by simp [Lv.list,a]) b
theorem P1o {M:Mem}{G:Nat→Value}{es:List (List UInt8×Row)}{ms:Array MapEntry}(h:∀ (i:Nat) k cs e,es[i]?=some (k,cs)→ms[i]?=some e→H3 M (.str k) e.key∧V0 M G (Gq cs) e.val) :
  ∀ (i:Nat) k cs e,(Lv.s es).list[i]?=some (k,cs)→ms[i]?=some e→H3 M k e.key∧V0 M G (Gq cs) e.val:=fun i k cs e a b=>by
 simp only [Lv.list,List.getElem?_map] at a
 cases hp:es[i]? with
 | none=>rw [hp] at a; cases a
 | some p=>
  rw [hp] at a
  simp only [Option.map_some,Option.some.injEq,Prod.mk.injEq] at a
  obtain ⟨rfl,rfl⟩:=a
  exact h i p.1 p.2 e hp b
def A1v (i:TI):A:=bif i.u.agg then .agg (i.zero.map .d) else (match nth i.zero 0 with | some x=>.d x | none=>.junk)
structure Lk where
 d:Option Nat
 es:List (List UInt8×Row)
 k:List UInt8
 ok:Bool
 z:A
def T1v (C:Cx)(L:List Oper)(o:Oper)(env:Env)(H:P0):Option Lk:=
 match N1 L env o,o.op,Md o with
 | some true,.lookup t x y ok,some d=>match X2 C.T t,ev C.GL env x,ev C.GL env y with
  | some i,.mp p,.d (.str k)=>match i.u,nth H p with
   | .map kt et,some (.map (.s es))=>match X2 C.T kt,X2 C.T et with
    | some ki,some ei=>match ki.u,frc (A1v ei) with
     | .str,some z=>some ⟨d,es,k,ok,z⟩
     | _,_=>none
    | _,_=>none
   | _,_=>none
  | _,_,_=>none
 | _,_,_=>none
theorem L16 {P:Program}{w:World}{kt:Nat}(h:P.underlying kt=some .string)(b:Bool)(s:ByteArray):(Instr.checkKey b 10000 kt (.string s)).run P w = .ok () w:=by
 have key:∀ n,(Instr.checkKey b (n+1) kt (.string s)).run P w = .ok () w:=fun n=>by simp [Instr.checkKey,run_underlying h]
 exact key 9999
theorem N1d {P:Program}{w:World}{b:Nat}{ms:Array MapEntry}{cl:Nat}(h:w.heap[b]?=some (.map ms cl)):(getObj b).run P w = .ok (.map ms cl) w:=by
 simp [getObj,Sem.run,h]
def M1s (L:List Oper)(o:Oper)(env:Env)(H:P0):Option (Option Nat×Nat×P0):=
 match N1 L env o,o.op,Md o with
 | some true,.makeMap _ none,some d=>match Au H (.map (.s [])) with | some (n,H')=>some (d,n,H') | none=>none
 | _,_,_=>none
theorem K0.w {F:Fx}{L l:List Oper}{o:Oper}{env:Env}{H H':P0}{Q:Env→P0→Prop}{d:Option Nat}{n:Nat}(h:M1s L o env H=some (d,n,H'))(k:K0 F L l (put env d (.mp n)) H' Q):K0 F L (o::l) env H Q:=by
 unfold M1s at h
 split at h
 ·rename_i t d' hw ho hd
  split at h
  ·rename_i n' H2 hp
   simp only [Option.some.injEq,Prod.mk.injEq] at h
   obtain ⟨rfl,rfl,rfl⟩:=h
   obtain ⟨rfl,rfl⟩:=Iq hp
   refine Ek hw fun fr M G w a K Qw hK hdok hs hsi hk=>?_
   have hr:(execOp a.eval o).run F.C.P w = .ok (.value (.map (some w.heap.size))) (w.alloc (.map #[] 0)):=by
    unfold execOp
    simp only [ho,Instr.makeMap]
    rfl
   have hg:Good M (w.alloc (.map #[] 0)):=hs.good.alloc _
   unfold Oper.wp
   rw [hr]
   have hob:∀ G,Lg M G (w.alloc (.map #[] 0)) (.map (.s [])) (.map (some w.heap.size)):=fun G=>⟨w.heap.size,#[],0,rfl,heap_alloc_new w _,rfl,fun i k cs e h=>by simp [Lv.list] at h,.none,fun off sp=>by
    cases hM:M ⟨w.heap.size,off,sp⟩ with
    | none=>rfl
    | some v=>have:=hs.good.lt hM; simp at this⟩
   have hb:∀ b,blk (.map (.s [])) (.map (some w.heap.size))=some b→w.heap.size≤b:=fun b hb=>by simp [blk] at hb; omega
   refine hk (.mp H.length) env _ M (J6 G H.length (.map (some w.heap.size))) _ _ ?_ (hs.newOb (C4 hdok) (Dk Z3 M w _) hg hob hb (.mp C2)) (hsi.newOb (Dk Z3 M w _) hb)
   rw [S9 hd]
   exact k
  ·cases h
 ·cases h
def O1d:A→Option Row
 | .agg cs=>match R1e cs with
  | some [_]=>none
  | some r=>some r
  | none=>none
 | x=>match toD x with | some y=>some [y] | none=>none
theorem Q1m {M:Mem}{G:Nat→Value}{x:A}{r:Row}{v:Value}(h:O1d x=some r)(hx:V0 M G x v):V0 M G (Gq r) v:=by
 have single:∀ y,toD x=some y→V0 M G (Gq [y]) v:=fun y hy=>.d (Q1e hy hx)
 unfold O1d at h
 split at h
 ·rename_i cs
  split at h
  ·cases h
  ·rename_i r' hne hr
   simp only [Option.some.injEq] at h
   subst h
   obtain ⟨l1,l2⟩:=R1b hr
   have e:Gq r' = .agg (r'.map .d):=by
    match r',hne with
    | [],_=>rfl
    | [x],hne=>exact absurd rfl (hne x)
    | _::_::_,_=>rfl
   rw [e]
   cases hx with
   | agg hl h1 h=>
    refine .agg (by simp; omega) h1 fun i y u hy hu=>?_
    rw [List.getElem?_map] at hy
    cases hz:r'[i]? with
    | none=>rw [hz] at hy; cases hy
    | some z=>
     rw [hz] at hy
     simp only [Option.map_some,Option.some.injEq] at hy
     subst hy
     obtain ⟨q,hq,hqz⟩:=l2 i z hz
     exact .d (Q1e hqz (h i q u hq hu))
  ·cases h
 ·split at h
  ·rename_i y hy
   simp only [Option.some.injEq] at h
   subst h
   exact single y hy
  ·cases h
def I1h (C:Cx)(L:List Oper)(o:Oper)(env:Env)(H:P0):Option P0:=
 match N1 L env o,o.op,o.dst with
 | some true,.mapUpdate t x y z,none=>match X2 C.T t,ev C.GL env x,ev C.GL env y,O1d (ev C.GL env z) with
  | some i,.mp p,.d (.str k),some cs=>match i.u,nth H p with
   | .map kt _,some (.map (.s es))=>match X2 C.T kt with
    | some ki=>match ki.u with
     | .str=>Bu H p (.map (.s (mput k cs es)))
     | _=>none
    | none=>none
   | _,_=>none
  | _,_,_,_=>none
 | _,_,_=>none
theorem K0.u {F:Fx}(hC:A3 F.C){L l:List Oper}{o:Oper}{env:Env}{H H':P0}{Q:Env→P0→Prop}(h:I1h F.C L o env H=some H')(k:K0 F L l env H' Q):K0 F L (o::l) env H Q:=by
 unfold I1h at h
 split at h
 ·rename_i t x y z hw ho hdst
  split at h
  ·rename_i i p kk cs ht hx hy hz
   split at h
   ·rename_i kt et es hu hp
    split at h
    ·rename_i ki hki
     split at h
     ·rename_i hku
      have e1:=F14 h
      subst e1
      refine Ek hw fun fr M G w a K Qw hK hdok hs hsi hk=>?_
      have hxr:=hs.eval x
      have hyr:=hs.eval y
      have hzr:=Q1m hz (hs.eval z)
      rw [hx] at hxr
      rw [hy] at hyr
      generalize hxv:a.eval x=xv at hxr
      generalize hyv:a.eval y=yv at hyr
      generalize hzv:a.eval z=zv at hzr
      cases hxr; rename_i b hgb
      cases hyr; rename_i hyr; cases hyr
      rename_i hkl
      rw [N3] at hp
      obtain ⟨b',ms,cl,g1,g2,g3,g4,g5,g6⟩:=hs.hrel.obj p _ hp
      have g3:=g3.trans (G1i es)
      have g4:=Z1q g4
      rw [hgb] at g1
      simp at g1
      subst g1
      have hd:=Fu (hC.tok.facts ht) hu
      have hkd:=Tn (hC.tok.facts hki) hku
      have hblt:b < w.heap.size:=(Array.getElem?_eq_some_iff.1 g2).1
      have hkeys:∀ (n:Nat) k' cs e,es[n]?=some (k',cs)→ms.toList[n]?=some e→e.key = .string ⟨k'.toArray⟩:=fun n k' cs e a b=>by
       have:=(g4 n k' cs e a (by simpa using b)).1
       generalize e.key=ek at this
       cases this; rfl
      have hMb:∀ off sp,M ⟨b,off,sp⟩=none:=g6
      have key:∃ ms' cl',(Instr.mapUpdate t (.map (some b)) (.string ⟨kk.toArray⟩) zv).run F.C.P w = .ok () { w with heap:=w.heap.setIfInBounds b (.map ms' cl') }∧ms'.size=(mput kk cs es).length∧
        (∀ (i:Nat) k' cs' e,(mput kk cs es)[i]?=some (k',cs')→ms'[i]?=some e→H3 M (.str k') e.key∧V0 M G (Gq cs') e.val)∧F11 ms' cl':=by
       have Gj:∀ o',(setObj b o').run F.C.P w = .ok () { w with heap:=w.heap.setIfInBounds b o' }:=fun o'=>by simp [setObj,Sem.run,g2]
       rcases M1d (k:=kk) (i:=0) (by simpa using g3) hkeys with ⟨h1,h2,h3⟩ | ⟨n,cs0,e,h1,h2,h3,h4,h5⟩
       ·refine ⟨ms.push ⟨.string ⟨kk.toArray⟩,zv,cl⟩,cl+1,?_,by rw [h3]; simp [g3],fun i k' cs' e hi he=>?_,g5.push _ _⟩
        ·simp [Instr.mapUpdate,run_underlying hd,N1d g2,L16 hkd,Instr.findKey,run_underlying hkd,h2,Gj]
        ·rw [h3] at hi
         rw [Array.getElem?_push] at he
         split at he
         ·rename_i hie
          simp only [Option.some.injEq] at he
          subst he
          rw [List.getElem?_append_right (by omega)] at hi
          have:i - es.length=0:=by omega
          rw [this] at hi
          simp at hi
          obtain ⟨rfl,rfl⟩:=hi
          exact ⟨.str hkl,hzr⟩
         ·rename_i hie
          have hlt:i < ms.size:=by have:=(Array.getElem?_eq_some_iff.1 he).1; omega
          rw [List.getElem?_append_left (by omega)] at hi
          exact g4 i k' cs' e hi he
       ·have hn:n < ms.size:=by simpa using (List.getElem?_eq_some_iff.1 h3).1
        have hmn:ms[n]?=some e:=by simpa using h3
        have hke:e.key = .string ⟨kk.toArray⟩:=hkeys n kk cs0 e h1 h3
        have hst:∀ w,(Instr.keyThatStays (.string ⟨kk.toArray⟩) (.string ⟨kk.toArray⟩)).run F.C.P w = .ok (.string ⟨kk.toArray⟩) w:=fun w=>by
         have:Instr.sameBits 10000 (.string ⟨kk.toArray⟩) (.string ⟨kk.toArray⟩)=true:=by
          show ((⟨kk.toArray⟩:ByteArray) == ⟨kk.toArray⟩)=true
          rw [L1s]
          simp
         simp [Instr.keyThatStays,this]
        refine ⟨ms.modify n fun e=>{ e with key:=.string ⟨kk.toArray⟩,val:=zv },cl,?_,by rw [h5]; simp [g3],fun i k' cs' e' hi he=>?_,g5.modify _ _ fun _=>rfl⟩
        ·simp [Instr.mapUpdate,run_underlying hd,N1d g2,L16 hkd,Instr.findKey,run_underlying hkd,h4,hmn,hke,hst,Gj]
        ·rw [h5,List.getElem?_set] at hi
         rw [Array.getElem?_modify] at he
         by_cases hin:n=i
         ·rw [if_pos hin] at he hi
          subst hin
          rw [hmn] at he
          simp only [Option.map_some,Option.some.injEq] at he
          subst he
          rw [if_pos (by omega)] at hi
          simp only [Option.some.injEq,Prod.mk.injEq] at hi
          obtain ⟨rfl,rfl⟩:=hi
          exact ⟨.str hkl,hzr⟩
         ·rw [if_neg hin] at he hi
          exact g4 i k' cs' e' hi he
      obtain ⟨ms',cl',k1,k2,k3,k4⟩:=key
      have hbk:blk (.map (.s es)) (G p)=some b:=by rw [hgb]; rfl
      have hbk':blk (.map (.s (mput kk cs es))) (G p)=some b:=by rw [hgb]; rfl
      have hext:Ext (fun c=>c=b) M w M { w with heap:=w.heap.setIfInBounds b (.map ms' cl') }:=
       ⟨fun _ _ e=>e,by simp,rfl,rfl,rfl,fun c _ hc=>by simp [Array.getElem?_setIfInBounds_ne (Ne.symm hc)],fun _ _ e=>.inl e⟩
      have hob:Lg M G { w with heap:=w.heap.setIfInBounds b (.map ms' cl') } (.map (.s (mput kk cs es))) (G p):=
       ⟨b,ms',cl',hgb,by simp [hblt],k2.trans (G1i _).symm,P1o k3,k4,g6⟩
      have hr:(execOp a.eval o).run F.C.P w = .ok .skip { w with heap:=w.heap.setIfInBounds b (.map ms' cl') }:=by
       unfold execOp
       simp only [ho,hxv,hyv,hzv,Sem.run_bind,k1,Result.andThen_ok,Sem.run_pure]
      unfold Oper.wp
      rw [hr]
      refine hk .junk env _ M G _ undef ?_ (hs.setOb (C4 hdok) hp hbk hbk' hext hMb hob .junk) (hsi.setOb hp hbk hbk' rfl hext)
      rw [hdst]
      exact k
     ·cases h
    ·cases h
   ·cases h
  ·cases h
 ·cases h
end Go.Am

namespace Go.Am
theorem K0.ofAQ {F:Fx}{L:List Oper}{l2:List Oper}{H:P0}{Q:Env→P0→Prop}:∀ {l1:List Oper} {env:Env},AQ F.C L l1 env H (fun e=>K0 F L l2 e H Q)→K0 F L (l1++l2) env H Q
 | [],env,h=>h
 | o::r,env,h=>by
  obtain ⟨d,x,rfl,hst,hr⟩:=h
  rcases hst with ⟨hw,hy⟩ | ⟨hw,rfl⟩
  ·exact .yields hw hy (K0.ofAQ hr)
  ·exact .skip hw (K0.ofAQ hr)
theorem AQ.mono {C:Cx}{L:List Oper}{H:P0}{Q Q':Env→Prop}(hq:∀ e,Q e→Q' e):∀ {l:List Oper} {env:Env},AQ C L l env H Q→AQ C L l env H Q'
 | [],_,h=>hq _ h
 | _::_,_,⟨d,x,h1,h2,h3⟩=>⟨d,x,h1,h2,AQ.mono hq h3⟩
theorem K0.leE {F:Fx}{L l:List Oper}{env env':Env}{H:P0}{Q:Env→P0→Prop}(he:∀ t,LeA (env' t) (env t))(k:K0 F L l env' H Q):K0 F L l env H Q:=by
 intro fr M G w a Qw hK hd hs hsi hq
 exact k fr M G w a Qw hK hd ⟨hs.good,hs.gl,hs.hrel,fun t=>(he t).rel (hs.env t),hs.size,hs.defers⟩ hsi hq
theorem AEx.regionQ {F:Fx}{id:Nat}{L:List Oper}{env:Env}{H:P0}{Q:Po}(n:Nat)(hd:L.all (Th F.N)=true)(h:AQ F.C L (L.take n) env H (fun e=>K0 F L (L.drop n) e H (Eq Q))):AEx F (.region id L.toArray false) env H Q:=by
 refine .region hd ?_
 have:=K0.ofAQ h
 rwa [List.take_append_drop] at this
abbrev Cnd:=Nat→Option Bool
def R1m:Cnd:=fun _=>none
def Fp (env:Env)(cnd:Cnd):Env:=fun t=>match cnd t with | some false=>.tup [] | _=>env t
def H1i (env:Env)(cnd:Cnd):Env:=fun t=>match cnd t with | none=>env t | _=>.junk
def Om (cnd:Cnd)(d:Option Nat)(W:Option Bool):Cnd:=match d with | some t=>(fun i=>bif Nat.beq i t then W else cnd i) | none=>cnd
def holds:Option Bool→Prop
 | none=>True
 | some w=>w=true
def wb:Bool→Bool→Bool
 | b,true=>b
 | b,false=>!b
def Bx (L:List Oper)(env:Env)(cnd:Cnd)(o:Oper):Option (Option Bool):=
 match o.guard with
 | none=>some none
 | some (j,want)=>
  match nth L j with
  | some p=>match p.dst with
   | some d=>match env d,cnd d with
    | .d (.bool b),none=>some (some (wb b want))
    | .d (.bool b),some c=>some (some (c&&wb b want))
    | _,_=>none
   | none=>none
  | none=>none
def isW:Option Bool→Bool
 | none=>true
 | some w=>w
theorem A1r {L:List Oper}{env:Env}{cnd:Cnd}{o:Oper}{W:Option Bool}(h:Bx L env cnd o=some W):N1 L (Fp env cnd) o=some (isW W):=by
 unfold Bx at h
 unfold N1
 split at h
 ·rename_i hg
  rw [hg]
  simp only [Option.some.injEq] at h
  subst h
  rfl
 ·rename_i j want hg
  rw [hg]
  simp only
  split at h
  ·rename_i p hp
   rw [hp]
   simp only
   split at h
   ·rename_i d hd
    rw [hd]
    simp only
    split at h
    ·rename_i b he hc
     simp only [Option.some.injEq] at h
     subst h
     simp only [Fp,hc,he]
     cases b <;> cases want <;> rfl
    ·rename_i b c he hc
     simp only [Option.some.injEq] at h
     subst h
     cases c with
     | false=>simp only [Fp,hc]; rfl
     | true=>
      simp only [Fp,hc,he]
      cases b <;> cases want <;> rfl
    ·cases h
   ·cases h
  ·cases h
def AG (C:Cx)(L:List Oper):List Oper→Env→Cnd→P0→(Env→Cnd→Prop)→Prop
 | [],env,cnd,_,Q=>Q env cnd
 | o::r,env,cnd,H,Q=>∃ d W x,o.dst=d∧Bx L env cnd o=some W∧(holds W→Z8 C o (Fp env cnd) H x)∧AG C L r (put env d x) (Om cnd d W) H Q
theorem B1r {env:Env}{cnd:Cnd}{d:Option Nat}{W:Option Bool}{x:A}:Fp (put env d x) (Om cnd d W)=put (Fp env cnd) d (match W with | some false=>.tup [] | _=>x):=by
 cases d with
 | none=>rfl
 | some t=>
  funext i
  simp only [Fp,Om,put,upd]
  cases hb:Nat.beq i t with
  | true=>rcases W with _ | _ | _ <;> rfl
  | false=>rfl
theorem AG.aq {C:Cx}{L:List Oper}{H:P0}{Q:Env→Cnd→Prop}:∀ {l:List Oper} {env:Env} {cnd:Cnd},AG C L l env cnd H Q→AQ C L l (Fp env cnd) H (fun e=>∃ env' cnd',e=Fp env' cnd'∧Q env' cnd')
 | [],env,cnd,h=>⟨env,cnd,rfl,h⟩
 | o::r,env,cnd,⟨d,W,x,hd,hw,hy,hr⟩=>by
  have:=AG.aq hr
  rw [B1r] at this
  have hww:=A1r hw
  refine ⟨d,_,hd,?_,this⟩
  rcases W with _ | _ | _
  ·exact .inl ⟨hww,hy trivial⟩
  ·exact .inr ⟨hww,rfl⟩
  ·exact .inl ⟨hww,hy rfl⟩
theorem Y1f {env:Env}:Fp env R1m=env:=rfl
theorem K1l {env:Env}{cnd:Cnd}(t:Nat):LeA (H1i env cnd t) (Fp env cnd t):=by
 unfold H1i Fp
 cases cnd t with
 | none=>exact .rfl
 | some c=>exact .junk
theorem AEx.regionG {F:Fx}{id:Nat}{L:List Oper}{env:Env}{H:P0}{Q:Po}(n:Nat)(hd:L.all (Th F.N)=true)(h:AG F.C L (L.take n) env R1m H (fun e c=>K0 F L (L.drop n) (H1i e c) H (Eq Q))):AEx F (.region id L.toArray false) env H Q:=by
 refine .regionQ n hd ?_
 have:=AG.aq h
 rw [Y1f] at this
 refine this.mono fun e he=>?_
 obtain ⟨env',cnd',rfl,hq⟩:=he
 exact .leE K1l hq
theorem AEx.drawG {F:Fx}(hC:A3 F.C){id:Nat}{L:List Oper}{env:Env}{H:P0}{Q:Po}(n:Nat)(hd:L.all (Th F.N)=true)(hok:G18 L n=true)(hnl:Nat.ble n L.length=true)
  (h:AG F.C L (L.take n) env R1m H (fun e c=>K0 F L (L.drop n) (H1i e c) H (Eq Q))):AEx F (.region id L.toArray true) env H Q:=by
 refine .draw hC n hd hok hnl ?_
 have:=AG.aq h
 rw [Y1f] at this
 refine this.mono fun e he=>?_
 obtain ⟨env',cnd',rfl,hq⟩:=he
 exact .leE K1l hq
def Qo (cnd:Cnd):List Operand→Prop
 | []=>True
 | .tmp t::r=>match cnd t with
  | none=>Qo cnd r
  | some c=>c=true∧Qo cnd r
 | _::r=>Qo cnd r
theorem Pm {GL:GT}{env:Env}{cnd:Cnd}:∀ {l:List Operand},Qo cnd l→∀ y∈l,ev GL (Fp env cnd) y=ev GL env y
 | .tmp t::r,h,y,hy=>by
  simp only [Qo] at h
  split at h
  ·rename_i hc
   cases hy with
   | head=>simp only [ev,Fp,hc]
   | tail _ hy=>exact Pm h y hy
  ·rename_i c hc
   cases hy with
   | head=>simp only [ev,Fp,hc,h.1]
   | tail _ hy=>exact Pm h.2 y hy
 | .const v::r,h,y,hy=>by
  cases hy with
  | head=>rfl
  | tail _ hy=>exact Pm (l:=r) h y hy
 | .global g::r,h,y,hy=>by
  cases hy with
  | head=>rfl
  | tail _ hy=>exact Pm (l:=r) h y hy
 | .func f::r,h,y,hy=>by
  cases hy with
  | head=>rfl
  | tail _ hy=>exact Pm (l:=r) h y hy
theorem Z8.congr {C:Cx}{o:Oper}{env env':Env}{H:P0}{x:A}(h:Z8 C o env H x)(he:∀ y∈o.op.operands,ev C.GL env' y=ev C.GL env y):Z8 C o env' H x:=
 fun M G w a next Qw hρ=>h M G w a next Qw fun y hy=>by rw [← he y hy]; exact hρ y hy
def noG (o:Oper):Oper:={ o with guard:=none }
theorem Z8.noG {C:Cx}{o:Oper}{env:Env}{H:P0}{x:A}(h:Z8 C (noG o) env H x):Z8 C o env H x:=h
def T1e (o:Oper):List Operand:=o.op.operands.toList
theorem AG.lift {C:Cx}{L l:List Oper}{o:Oper}{env:Env}{cnd:Cnd}{H:P0}{Q:Env→Cnd→Prop}{d:Option Nat}{W:Option Bool}{x:A}(hd:Md o=some d)(hw:Bx L env cnd o=some W)(hs:holds W→Qo cnd (T1e o))(hy:holds W→Z8 C (noG o) env H x)
  (k:AG C L l (put env d x) (Om cnd d W) H Q):AG C L (o::l) env cnd H Q:=
 ⟨d,W,x,S9 hd,hw,fun h=>(hy h).noG.congr fun y hy=>Pm (hs h) y (by simpa [T1e] using hy),k⟩
def Ku (C:Cx)(L:List Oper)(o:Oper)(env:Env)(cnd:Cnd)(H:P0):Option (Option Nat×Option Bool×Prop×Prop×A):=
 match Bx L env cnd o,opA C.T C.GL o.op env H with
 | some W,some (c,x)=>match frc x,Md o with
  | some y,some d=>some (d,W,Qo cnd (T1e o),c,y)
  | _,_=>none
 | _,_=>none
theorem AG.q {C:Cx}(hC:A3 C){L l:List Oper}{o:Oper}{env:Env}{cnd:Cnd}{H:P0}{Q:Env→Cnd→Prop}{d:Option Nat}{W:Option Bool}{S c:Prop}{x:A}(h:Ku C L o env cnd H=some (d,W,S,c,x))(hs:holds W→S∧c)
  (k:AG C L l (put env d x) (Om cnd d W) H Q):AG C L (o::l) env cnd H Q:=by
 unfold Ku at h
 split at h
 ·rename_i W' c' x' hw ho
  split at h
  ·rename_i y d' hy hd
   simp only [Option.some.injEq,Prod.mk.injEq] at h
   obtain ⟨rfl,rfl,rfl,rfl,rfl⟩:=h
   obtain rfl:=Iu hy
   exact .lift hd hw (fun h=>(hs h).1) (fun h=>Sq hC (o:=noG o) ho (hs h).2) k
  ·cases h
 ·cases h
structure Pk where
 d:Option Nat
 W:Option Bool
 sc:Prop
 t:Bool
 sa:Prop
 sb:Prop
 xa:Bool
 xb:Bool
def Q12 (C:Cx)(L:List Oper)(o:Oper)(env:Env)(cnd:Cnd):Option Pk:=
 match Bx L env cnd o,o.op,Md o with
 | some W,.pick c a b,some d=>match ev C.GL env c,ev C.GL env a,ev C.GL env b with
  | .d (.bool t),.d (.bool xa),.d (.bool xb)=>some ⟨d,W,Qo cnd [c],t,Qo cnd [a],Qo cnd [b],xa,xb⟩
  | _,_,_=>none
 | _,_,_=>none
theorem AG.p {C:Cx}(hC:A3 C){L l:List Oper}{o:Oper}{env:Env}{cnd:Cnd}{H:P0}{Q:Env→Cnd→Prop}{d:Option Nat}{W:Option Bool}{sc sa sb:Prop}{t xa xb:Bool}(h:Q12 C L o env cnd=some ⟨d,W,sc,t,sa,sb,xa,xb⟩)
  (hs:holds W→sc∧(t=true→sa)∧(t=false→sb)) (k:AG C L l (put env d (.d (.bool (bif t then xa else xb)))) (Om cnd d W) H Q):AG C L (o::l) env cnd H Q:=by
 unfold Q12 at h
 split at h
 ·rename_i W' c a b d' hw ho hd
  split at h
  ·rename_i t' ya yb hc ha hb
   simp only [Option.some.injEq,Pk.mk.injEq] at h
   obtain ⟨rfl,rfl,rfl,rfl,rfl,rfl,rfl,rfl⟩:=h
   refine ⟨_,_,_,S9 hd,hw,fun h=>?_,k⟩
   obtain ⟨h1,h2,h3⟩:=hs h
   have ec:=Pm (GL:=C.GL) (env:=env) h1 c List.mem_cons_self
   refine Sq hC (c:=True) ?_ trivial
   rw [ho]
   simp only [opA,ec,hc,Z1]
   cases t' with
   | true=>
    have ea:=Pm (GL:=C.GL) (env:=env) (h2 rfl) a List.mem_cons_self
    simp only [cond_true,ea,ha]
   | false=>
    have eb:=Pm (GL:=C.GL) (env:=env) (h3 rfl) b List.mem_cons_self
    simp only [cond_false,eb,hb]
  ·cases h
 ·cases h
def Q1o (C:Cx)(L:List Oper)(o:Oper)(env:Env)(cnd:Cnd):Option (Option Nat×Option Bool×Prop×FuncId×List A):=
 match Bx L env cnd o,Ij C.GL env o with
 | some W,some (f,xs)=>match Mm xs,Md o with
  | some ys,some d=>some (d,W,Qo cnd (T1e o),f,ys)
  | _,_=>none
 | _,_=>none
theorem AG.c {C:Cx}{L l:List Oper}{o:Oper}{env:Env}{cnd:Cnd}{H:P0}{Q:Env→Cnd→Prop}{d:Option Nat}{W:Option Bool}{S:Prop}{f:FuncId}{xs:List A}{x:A}(h:Q1o C L o env cnd=some (d,W,S,f,xs))(hn:D2 0 xs=true)
  (hs:holds W→S) (hc:holds W→N0 C f xs [] (fun r H'=>H'=[]∧r=x)) (k:AG C L l (put env d x) (Om cnd d W) H Q):AG C L (o::l) env cnd H Q:=by
 unfold Q1o at h
 split at h
 ·rename_i W' f' xs' hw ho
  split at h
  ·rename_i ys d' hy hd
   simp only [Option.some.injEq,Prod.mk.injEq] at h
   obtain ⟨rfl,rfl,rfl,rfl,rfl⟩:=h
   obtain rfl:=Jn hy
   exact .lift hd hw hs (fun h=>Zt (o:=noG o) ho hn (hc h)) k
  ·cases h
 ·cases h
theorem AG.i {C:Cx}(hC:A3 C){L l:List Oper}{o:Oper}{env:Env}{cnd:Cnd}{H:P0}{Q:Env→Cnd→Prop}{d:Option Nat}{W:Option Bool}{rows:List (List D)}{n:Int}{sz:Nat}(hw:Bx L env cnd o=some W)(h:T10 C [] (noG o) env=some (d,rows,n,sz)){k:Nat}{r:List D}
  (hs:holds W→Qo cnd (T1e o)) (hk:holds W→n=k∧rows[k]?=some r∧Nat.beq r.length sz=true) (kk:AG C L l (put env d (.ptr r)) (Om cnd d W) H Q):AG C L (o::l) env cnd H Q:=by
 refine .lift (d:=d) (W:=W) ?_ hw hs (fun h'=>Ay hC h (hk h').1 (hk h').2.1 (hk h').2.2) kk
 obtain ⟨_,hd⟩:=G14 h
 unfold Md
 have:o.dst=d:=hd
 rw [this]
 cases d <;> rfl
theorem AG.x {C:Cx}(hC:A3 C){L l:List Oper}{o:Oper}{env:Env}{cnd:Cnd}{H:P0}{Q:Env→Cnd→Prop}{d:Option Nat}{W:Option Bool}{s:List UInt8}{n:Int}(hw:Bx L env cnd o=some W)(h:K14 C [] (noG o) env=some (d,s,n)){k:Nat}{b:UInt8}
  (hs:holds W→Qo cnd (T1e o)) (hk:holds W→n=k∧s[k]?=some b) (kk:AG C L l (put env d (.d (.int .u8 b.toNat))) (Om cnd d W) H Q):AG C L (o::l) env cnd H Q:=by
 refine .lift (d:=d) (W:=W) ?_ hw hs (fun h'=>H1b hC h (hk h').1 (hk h').2) kk
 have:=(L1d h).2
 exact this
theorem M1v {t:Bool}(h:t=false):wb t false=true:=by subst h; rfl
theorem N1v {t:Bool}(h:t=true):wb t true=true:=by subst h; rfl
theorem B1v {c t:Bool}(h:c=true)(h':t=false):(c&&wb t false)=true:=by subst h; subst h'; rfl
theorem C1v {c t:Bool}(h:c=true)(h':t=true):(c&&wb t true)=true:=by subst h; subst h'; rfl
def Jq:List Oper→Bool
 | []=>true
 | o::r=>o.guard.isNone&&Jq r
theorem AEx.regionN {F:Fx}{id:Nat}{L:List Oper}{env:Env}{H:P0}{Q:Po}(_hg:Jq L=true)(hd:L.all (Th F.N)=true)(h:K0 F L L env H (Eq Q)):AEx F (.region id L.toArray false) env H Q:=.region hd h
theorem R1o {M:Mem}{w w':World}(h:Go.RowKit.Below w.heap.size w w'):Ext Z3 M w M w':=
 ⟨fun _ _ e=>e,h.size,h.os,h.output,h.tape,fun b hb _=>h.block b hb,fun _ _ e=>.inl e⟩
theorem N0.ofBelow {C:Cx}{f:FuncId}{args:List A}{r:A}(hf:Mv C.P f=true)
  (h:∀ M G w (vs:Array Value),Good M w→Yx C M w→args.length=vs.size→(∀ (i:Nat) x v,args[i]?=some x→vs[i]?=some v→V0 M G x v)→
   ∃ v,(∀ M G,V0 M G r v)∧Calls C.P f vs w fun e w'=>e = .returned v∧Go.RowKit.Below w.heap.size w w'):N0 C f args [] (fun x H'=>H'=[]∧x=r):=by
 refine ⟨hf,fun M G w vs hg hgl hh hl hr=>?_⟩
 obtain ⟨v,hv,hc⟩:=h M G w vs hg hgl hl hr
 refine hc.mono fun e w' ⟨he,hb⟩=>?_
 have hext:Ext Z3 M w M w':=R1o hb
 refine ⟨v,r,[],M,G,he,⟨rfl,rfl⟩,hv M G,?_,?_,hext.weaken (fun _ h=>h.elim),fun b hb=>.inl hb,Nat.le_refl _,fun o x ho=>by simp at ho⟩
 ·exact hg.ext hext fun _ _ _ h=>h.elim
 ·exact hh.ext hext fun _ _ h=>h
theorem S1b {args:List A}{vs:Array Value}{M:Mem}{G:Nat→Value}{s:List UInt8}{i:Nat}(hl:args.length=vs.size)(h:∀ (i:Nat) x v,args[i]?=some x→vs[i]?=some v→V0 M G x v)(hi:args[i]?=some (.d (.str s))) :
  vs[i]?=some (.string ⟨s.toArray⟩)∧s.length≤maxLen:=by
 have hlt:i < vs.size:=by rw [← hl]; exact (List.getElem?_eq_some_iff.1 hi).1
 have hv:vs[i]?=some vs[i]:=Array.getElem?_eq_getElem hlt
 have hr:=h i _ _ hi hv
 generalize vs[i]=v at hr hv
 cases hr; rename_i hr; cases hr
 exact ⟨hv,by assumption⟩
theorem C1r {args:List A}{vs:Array Value}{M:Mem}{G:Nat→Value}{k:IntKind}{n:Int}{i:Nat}(hl:args.length=vs.size)(h:∀ (i:Nat) x v,args[i]?=some x→vs[i]?=some v→V0 M G x v)(hi:args[i]?=some (.d (.int k n))) :
  vs[i]?=some (.int k n)∧InK k n:=by
 have hlt:i < vs.size:=by rw [← hl]; exact (List.getElem?_eq_some_iff.1 hi).1
 have hv:vs[i]?=some vs[i]:=Array.getElem?_eq_getElem hlt
 have hr:=h i _ _ hi hv
 generalize vs[i]=v at hr hv
 cases hr; rename_i hr; cases hr
 exact ⟨hv,by assumption⟩
theorem D1r {vs:Array Value}{a:Value}(hl:vs.size=1)(h0:vs[0]?=some a):vs = #[a]:=by
 apply Array.ext_getElem?
 intro i
 match i with
 | 0=>simpa using h0
 | i+1=>rw [Array.getElem?_eq_none (by omega),Array.getElem?_eq_none (by simp)]
theorem A1u {vs:Array Value}{a b:Value}(hl:vs.size=2)(h0:vs[0]?=some a)(h1:vs[1]?=some b):vs = #[a,b]:=by
 apply Array.ext_getElem?
 intro i
 match i with
 | 0=>simpa using h0
 | 1=>simpa using h1
 | i+2=>rw [Array.getElem?_eq_none (by omega),Array.getElem?_eq_none (by simp)]
theorem R12 {P:Program}{f:FuncId}{fn:Func}(hf:P.funcs[f]?=some fn)(hn:(fn.name == "runtime.NumGoroutine")=false)(hb:fn.body.isSome=true):Mv P f=true:=by simp [Mv,hf,hb,hn]
def T1b:List A→Option (List A)
 | []=>some []
 | x::r=>match frc x,T1b r with | some y,some r'=>some (y::r') | _,_=>none
theorem L1l:∀ {l l':List A},T1b l=some l'→l'=l
 | [],l',h=>by simp [T1b] at h; exact h
 | x::r,l',h=>by
  simp only [T1b] at h
  split at h
  ·rename_i y r' hy hr
   simp only [Option.some.injEq] at h
   rw [← h,Iu hy,L1l hr]
  ·cases h
def Ql:P0→Option P0
 | []=>some []
 | .row cs e::r=>match T1b cs,Ql r with | some cs',some r'=>some (.row cs' e::r') | _,_=>none
 | .dead::r=>match Ql r with | some r'=>some (.dead::r') | none=>none
 | .bld o e::r=>match Ql r with | some r'=>some (.bld o e::r') | none=>none
 | .buf e sz::r=>match Ql r with | some r'=>some (.buf e sz::r') | none=>none
 | .tok e sz::r=>match Ql r with | some r'=>some (.tok e sz::r') | none=>none
 | .map es::r=>match Ql r with | some r'=>some (.map es::r') | none=>none
theorem Vq:∀ {H H':P0},Ql H=some H'→H'=H
 | [],H',h=>by simp [Ql] at h; exact h
 | .row cs e::r,H',h=>by
  simp only [Ql] at h
  split at h
  ·rename_i cs' r' hc hr
   simp only [Option.some.injEq] at h
   rw [← h,L1l hc,Vq hr]
  ·cases h
 | .dead::r,H',h=>by
  simp only [Ql] at h
  split at h
  ·rename_i r' hr
   simp only [Option.some.injEq] at h
   rw [← h,Vq hr]
  ·cases h
 | .bld o e::r,H',h=>by
  simp only [Ql] at h
  split at h
  ·rename_i r' hr
   simp only [Option.some.injEq] at h
   rw [← h,Vq hr]
  ·cases h
 | .buf e sz::r,H',h=>by
  simp only [Ql] at h
  split at h
  ·rename_i r' hr
   simp only [Option.some.injEq] at h
   rw [← h,Vq hr]
  ·cases h
 | .tok e sz::r,H',h=>by
  simp only [Ql] at h
  split at h
  ·rename_i r' hr
   simp only [Option.some.injEq] at h
   rw [← h,Vq hr]
  ·cases h
 | .map es::r,H',h=>by
  simp only [Ql] at h
  split at h
  ·rename_i r' hr
   simp only [Option.some.injEq] at h
   rw [← h,Vq hr]
  ·cases h
mutual
theorem S1o:∀ x:A,dg [] x=x
 | .osl _ _=>rfl
 | .clo _ cs=>by simp only [dg,S12 cs]
 | .bnd _ cs=>by simp only [dg,S12 cs]
 | .agg cs=>by simp only [dg,S12 cs]
 | .tup cs=>by simp only [dg,S12 cs]
 | .d _=>rfl
 | .junk=>rfl
 | .ref _ _=>rfl
 | .ptr _=>rfl
 | .full _=>rfl
 | .rsl _ _ _ _=>rfl
 | .mp _=>rfl
theorem S12:∀ l:List A,dgL [] l=l
 | []=>rfl
 | x::r=>by simp only [dgL,S1o x,S12 r]
end
end Go.Am

namespace Go.Am
def Ey (P:Program)(c:Code)(Q:Exit→Act→World→Prop)(a:Act)(w:World):Prop:=
 ∀ (b:Frame) (k:List Item) (cs:List Frame),∃ e a' w',Q e a' w'∧Arrives P (lone (b.at a (.code c :: .inLoop c::k)) cs w) b k cs e a' w'
theorem Ey.loop {P:Program}{c:Code}{Q:Exit→Act→World→Prop}{a:Act}{w:World}(h:Ey P c Q a w):(Code.loop c).wp P Q a w:=by
 intro b k cs
 obtain ⟨e,a',w',hq,harr⟩:=h b k cs
 exact ⟨e,a',w',hq,.of_steps (.one step_loop) harr⟩
theorem Ey.unroll {P:Program}{c:Code}{Q:Exit→Act→World→Prop}{a:Act}{w:World}(h:c.wp P (Exit.then (Ey P c Q) Q) a w):Ey P c Q a w:=by
 intro b k cs
 obtain ⟨e,a₁,w₁,hq,harr⟩:=h b (.inLoop c::k) cs
 cases e with
 | normal=>
  obtain ⟨e₂,a₂,w₂,hq₂,harr₂⟩:=hq b k cs
  exact ⟨e₂,a₂,w₂,hq₂,.of_steps (Steps.trans harr (.one step_inLoop)) harr₂⟩
 | exit id=>exact ⟨_,a₁,w₁,hq,.pass (x:=.inLoop c) rfl (fun _ _=>.inl (by simp)) harr⟩
 | goto l=>exact ⟨_,a₁,w₁,hq,.pass (x:=.inLoop c) rfl (fun _ _=>.inl (by simp)) harr⟩
 | ret=>exact ⟨_,a₁,w₁,hq,.pass (x:=.inLoop c) rfl (fun _ _=>.inl (by simp)) harr⟩
 | panic ch=>exact ⟨_,a₁,w₁,hq,.pass (x:=.inLoop c) rfl (fun _ _=>.inl (by simp)) harr⟩
 | outgrown=>exact ⟨_,a₁,w₁,hq,.pass (x:=.inLoop c) rfl (fun _ _=>.inl (by simp)) harr⟩
def Y0 (F:Fx)(c:Code)(env:Env)(H:P0)(Q:Po):Prop:=
 ∀ fr M G w a,fr.H0.length=F.K→St F.C F.N M G w env H a→Y1 fr M G w H→Ey F.C.P c (Fin F fr Q) a w
def N1s (F:Fx)(c:Code)(Q:Po):Po
 | .normal,e,h=>Y0 F c e h Q
 | x,e,h=>Q x e h
theorem AEx.ofLoop {F:Fx}{c:Code}{env:Env}{H:P0}{Q:Po}(h:Y0 F c env H Q):AEx F (.loop c) env H Q:=
 fun fr M G w a hK hs hsi=>(h fr M G w a hK hs hsi).loop
theorem Y0.unroll {F:Fx}{c:Code}{env:Env}{H:P0}{Q:Po}(h:AEx F c env H (N1s F c Q)):Y0 F c env H Q:=by
 intro fr M G w act hK hs hsi
 refine Ey.unroll (wp_mono (h fr M G w act hK hs hsi) fun e a' w' he=>?_)
 rcases he with ⟨x,env',H',M',G',rfl,hq,hs',hsi'⟩ | ⟨v,env',H',M',G',rfl,hq⟩ | ⟨rfl | ⟨ch,rfl⟩,hq⟩
 ·cases x with
  | normal=>exact hq fr M' G' w' a' hK hs' hsi'
  | exit id=>exact .inl ⟨.exit id,_,_,_,_,rfl,hq,hs',hsi'⟩
  | ret=>exact .inl ⟨.ret,_,_,_,_,rfl,hq,hs',hsi'⟩
 ·exact .inr (.inl ⟨v,_,_,_,_,rfl,hq⟩)
 ·exact .inr (.inr ⟨.inl rfl,hq⟩)
 ·exact .inr (.inr ⟨.inr ⟨_,rfl⟩,hq⟩)
theorem Y0.wk {F:Fx}{c:Code}{env:Env}{H:P0}{Q:Po}{L:List (Nat×A)}{H2:P0}(hw:Wk F.K env H L H2)(h:Y0 F c (Dl L) H2 Q):Y0 F c env H Q:=by
 intro fr M G w act hK hs hsi
 exact h fr M _ w act hK (hw.st hs) (hw.since hK hsi)
def P1d (f:Func):Code:=match f.body with | some c=>c | none=>.skip
def sl:Code→Code | .seq a _=>a | c=>c
def sr:Code→Code | .seq _ b=>b | c=>c
def ca:Code→Code | .cond _ a _=>a | c=>c
def cb:Code→Code | .cond _ _ b=>b | c=>c
def bk:Code→Code | .block _ c=>c | c=>c
def lo:Code→Code | .loop c=>c | c=>c
theorem bind_some {α β:Type}{x:Option α}{f:α→Option β}{r:β}(h:(x>>=f)=some r):∃ a,x=some a∧f a=some r:=by
 cases x with
 | none=>cases h
 | some a=>exact ⟨a,rfl,h⟩
theorem U0 {α:Type}{p:Prop}[Decidable p]{x:Option α}{r:α}(h:(if decide p=true then x else none)=some r):p∧x=some r:=by
 by_cases hp:p
 ·rw [if_pos (decide_eq_true hp)] at h; exact ⟨hp,h⟩
 ·rw [if_neg (by simpa using hp)] at h; cases h
theorem I1i {α:Type}{w:Bool}{p:Prop}[Decidable p]{x:Option α}{r:α}(h:(if (!w||decide p)=true then x else none)=some r):(w=true→p)∧x=some r:=by
 by_cases hp:(!w||decide p)=true
 ·rw [if_pos hp] at h
  exact ⟨fun hw=>by subst hw; simpa using hp,h⟩
 ·rw [if_neg hp] at h; cases h
theorem L1 {α:Type}{b:Bool}{x y:Option α}{r:α}(hb:b=true)(h:(if b=true then x else y)=some r):x=some r:=by rw [if_pos hb] at h; exact h
theorem O1v {α:Type}{b:Bool}{x y:Option α}{r:α}(hb:b=false)(h:(if b=true then x else y)=some r):y=some r:=by rw [if_neg (by rw [hb]; decide)] at h; exact h
abbrev Str:=List UInt8
def idx {α:Type}(l:List α)(n:Int):Option α:=if 0≤n then l[n.toNat]? else none
theorem S0 {α:Type}{l:List α}{n:Int}{x:α}(h:idx l n=some x):n=(n.toNat:Int):=by
 unfold idx at h
 split at h
 ·omega
 ·cases h
theorem Ft {α:Type}{l:List α}{n:Int}{x:α}(h:idx l n=some x):l[n.toNat]?=some x:=by
 unfold idx at h
 split at h
 ·exact h
 ·cases h
def slc {α:Type}(l:List α)(a b:Int):Option (List α):=if 0≤a∧a≤b∧b≤l.length then some ((l.take b.toNat).drop a.toNat) else none
theorem T1o {α:Type}{l x:List α}{a b:Int}(h:slc l a b=some x):a=(a.toNat:Int)∧b=(b.toNat:Int)∧a.toNat≤b.toNat∧b.toNat≤l.length∧x=(l.take b.toNat).drop a.toNat:=by
 unfold slc at h
 split at h
 ·cases h; exact ⟨by omega,by omega,by omega,by omega,rfl⟩
 ·cases h
theorem T2 {a b a' b' n:Nat}(ha:a'=a)(hb:b'=b)(h:(a+b) * n≤140737488355328):(a'+b') * n≤140737488355328:=by subst ha; subst hb; exact h
def mgt {α:Type}(k:Str):List (Str×α)→Option α
 | []=>none
 | (k',x)::r=>bif k == k' then some x else mgt k r
def mpt {α:Type}(k:Str)(x:α):List (Str×α)→List (Str×α)
 | []=>[(k,x)]
 | (k',y)::r=>bif k == k' then (k,x)::r else (k',y)::mpt k x r
section
variable {α:Type}{f:α→Row}{g:List α→List Row}{h:α→A}
theorem Gt (hg:∀ l,g l=l.map f){l:List α}{n:Int}{x:α}(h:idx l n=some x):(g l)[n.toNat]?=some (f x):=by simp [hg,Ft h]
theorem Ht (hg:∀ l,g l=l.map f)(l m:List α):g (l++m)=g l++g m:=by simp [hg]
theorem It (hg:∀ l,g l=l.map f)(l:List α):(g l).length=l.length:=by simp [hg]
theorem Wq (hg:∀ l,g l=l.map f)(l:List α):A.d (.int .i64 ((g l).length:Nat))=A.d (.int .i64 (l.length:Nat)):=by simp [hg]
theorem Ux (hg:∀ l,g l=l.map f){n:Nat}(hn:∀ x,(f x).length=n)(l:List α):∀ r∈g l,r.length=n:=by
 intro r hr
 rw [hg] at hr
 obtain ⟨x,_,rfl⟩:=List.mem_map.1 hr
 exact hn x
def Gk (f:α→Row)(m:List (Str×α)):List (Str×Row):=m.map fun p=>(p.1,f p.2)
theorem E1r (f:α→Row)(k:Str):∀ m:List (Str×α),S1e k (Gk f m)=(mgt k m).map f
 | []=>rfl
 | (k',x)::r=>by
  show (bif k == k' then some (f x) else S1e k (Gk f r))=(bif k == k' then some x else mgt k r).map f
  rw [E1r f k r]
  cases k == k' <;> rfl
theorem J1i (f:α→Row)(k:Str)(x:α):∀ m:List (Str×α),Gk f (mpt k x m)=mput k (f x) (Gk f m)
 | []=>rfl
 | (k',y)::r=>by
  show Gk f (bif k == k' then (k,x)::r else (k',y)::mpt k x r)=(bif k == k' then (k,f x)::Gk f r else (k',f y)::mput k (f x) (Gk f r))
  rw [← J1i f k x r]
  cases k == k' <;> rfl
end
theorem K0.qe {F:Fx}(hC:A3 F.C){L l:List Oper}{o:Oper}{env:Env}{H:P0}{Q:Env→P0→Prop}{d:Option Nat}{c:Prop}{x y:A}(h:Ti F.C L o env H=some (d,c,x))(hc:c)(e:x=y)
  (k:K0 F L l (put env d y) H Q):K0 F L (o::l) env H Q:=by subst e; exact .q hC h hc k
theorem AQ.qe {C:Cx}(hC:A3 C){L l:List Oper}{o:Oper}{env:Env}{H:P0}{Q:Env→Prop}{d:Option Nat}{c:Prop}{x y:A}(h:Ti C L o env H=some (d,c,x))(hc:c)(e:x=y)(k:AQ C L l (put env d y) H Q):AQ C L (o::l) env H Q:=by
 subst e; exact .q hC h hc k
theorem AG.qe {C:Cx}(hC:A3 C){L l:List Oper}{o:Oper}{env:Env}{cnd:Cnd}{H:P0}{Q:Env→Cnd→Prop}{d:Option Nat}{W:Option Bool}{S c:Prop}{x y:A}(h:Ku C L o env cnd H=some (d,W,S,c,x))(hs:holds W→S∧c)(e:x=y)
  (k:AG C L l (put env d y) (Om cnd d W) H Q):AG C L (o::l) env cnd H Q:=by subst e; exact .q hC h hs k
theorem K0.lx {F:Fx}(hC:A3 F.C){L l:List Oper}{o:Oper}{env:Env}{H:P0}{Q:Env→P0→Prop}{d:Option Nat}{s x:List UInt8}{lo hi:Int}(h:J1a F.C L o env=some (d,s,lo,hi))(hx:slc s lo hi=some x)
  (kk:K0 F L l (put env d (.d (.str x))) H Q):K0 F L (o::l) env H Q:=by
 obtain ⟨h1,h2,h3,h4,rfl⟩:=T1o hx
 exact .l hC h h1 h2 h3 h4 kk
theorem K0.ap {F:Fx}(hC:A3 F.C){L l:List Oper}{o:Oper}{env:Env}{H:P0}{Q:Env→P0→Prop}{d:Option Nat}{p:Nat}{nw:Bool}{rows news rs:List Row}{sz bytes:Nat}{H':P0}
  (h:M1m F.C L o env H=some ⟨d,p,nw,rows,news,sz,bytes,H'⟩) (e:rs=rows++news) (h1:∀ r∈rows,r.length=sz) (h2:∀ r∈news,r.length=sz) (h3:(rows.length+news.length) * (bytes+1)≤140737488355328)
  (k:K0 F L l (put (bif nw then env else fun t=>dg [p] (env t)) d (.osl p rs)) H' Q):K0 F L (o::l) env H Q:=by subst e; exact .a hC h h1 h2 h3 k
def K1i (C:Cx)(L:List Oper)(o:Oper)(env:Env)(H:P0):Option (Nat×List UInt8×Row×List (List UInt8×Row)):=
 match N1 L env o,o.op,o.dst with
 | some true,.mapUpdate t x y z,none=>match X2 C.T t,ev C.GL env x,ev C.GL env y,O1d (ev C.GL env z) with
  | some i,.mp p,.d (.str k),some cs=>match i.u,nth H p with
   | .map kt _,some (.map (.s es))=>match X2 C.T kt with
    | some ki=>match ki.u with
     | .str=>some (p,k,cs,es)
     | _=>none
    | none=>none
   | _,_=>none
  | _,_,_,_=>none
 | _,_,_=>none
theorem U1o {C:Cx}{L:List Oper}{o:Oper}{env:Env}{H:P0}{p:Nat}{k:List UInt8}{cs:Row}{es:List (List UInt8×Row)}(h:K1i C L o env H=some (p,k,cs,es)){H':P0}(h':Bu H p (.map (.s (mput k cs es)))=some H'):I1h C L o env H=some H':=by
 unfold K1i at h
 unfold I1h
 split at h
 ·split at h
  ·split at h
   ·split at h
    ·split at h
     ·simp only [Option.some.injEq,Prod.mk.injEq] at h
      obtain ⟨rfl,rfl,rfl,rfl⟩:=h
      simp_all only
     ·cases h
    ·cases h
   ·cases h
  ·cases h
 ·cases h
theorem K0.ue {F:Fx}(hC:A3 F.C){L l:List Oper}{o:Oper}{env:Env}{H H':P0}{Q:Env→P0→Prop}{p:Nat}{k:List UInt8}{cs:Row}{es es2:List (List UInt8×Row)}(h:K1i F.C L o env H=some (p,k,cs,es))(e:mput k cs es=es2)(h':Bu H p (.map (.s es2))=some H')
  (kk:K0 F L l env H' Q):K0 F L (o::l) env H Q:=by subst e; exact .u hC (U1o h h') kk
theorem K0.be {F:Fx}(hC:A3 F.C){L l:List Oper}{o:Oper}{env:Env}{H:P0}{Q:Env→P0→Prop}{d:Option Nat}{rs rs':List Row}(h:V10 F.C L o env=some (d,rs))(e:rs=rs')(k:K0 F L l (put env d (.full rs')) H Q):K0 F L (o::l) env H Q:=by subst e; exact .b hC h k
theorem AQ.be {C:Cx}(hC:A3 C){L l:List Oper}{o:Oper}{env:Env}{H:P0}{Q:Env→Prop}{d:Option Nat}{rs rs':List Row}(h:V10 C L o env=some (d,rs))(e:rs=rs')(k:AQ C L l (put env d (.full rs')) H Q):AQ C L (o::l) env H Q:=by subst e; exact .b hC h k
theorem L1i {C:Cx}{o:Oper}{env:Env}{H:P0}{f:FuncId}{xs ys:List A}{x:A}(ha:Ij C.GL env o=some (f,xs))(hle:LeL ys xs)(hn:D2 0 ys=true)(hc:N0 C f ys [] (fun r H'=>H'=[]∧r=x)):Z8 C o env H x:=by
 intro M G w a next Qw hρ hG hgl hH hk
 obtain ⟨vs,h1,h2,h3⟩:=G11 ha hρ hc.1
 unfold Oper.wp
 rw [h1 w]
 refine (F1d hn hc hG hgl (hle.spec.1.trans h2) (hle.rels h3)).mono fun e w' he=>?_
 obtain ⟨v,r,M',rfl,rfl,g1,g2,g3⟩:=he
 exact hk v M' w' (g1 G) g2 g3
theorem K0.cl {F:Fx}{L l:List Oper}{o:Oper}{env:Env}{H:P0}{Q:Env→P0→Prop}{d:Option Nat}{f:FuncId}{xs ys:List A}{x:A}(h:Fk F.C L o env=some (d,f,xs))(hc:N0 F.C f ys [] (fun r H'=>H'=[]∧r=x))(hle:LeL ys xs)(hn:D2 0 ys=true)
  (k:K0 F L l (put env d x) H Q):K0 F L (o::l) env H Q:=by
 obtain ⟨h1,h2,rfl⟩:=Nm h
 exact .yields h1 (L1i h2 hle hn hc) k
theorem K0.g {F:Fx}{L l:List Oper}{o:Oper}{env:Env}{H H':P0}{Q:Env→P0→Prop}{d:Option Nat}{g:FuncId}{xs:List A}{x y:A}(idx:List Nat){cargs:List A}{cH cH':P0}
  (h:Fk F.C L o env=some (d,g,xs)) (hc:N0 F.C g cargs cH (fun r h=>h=cH'∧r=x)) (hx:LeL (Ui (U4 idx H.length) cargs) xs) (hi:Kr idx H.length=true) (hm:Jr (U4 idx H.length) H idx cH)
  (hr:frc (ren (U4 idx H.length) x)=some y) (hH:Ql (Rf H idx (U4 idx H.length) (Q5 idx cH) cH')=some H') (k:K0 F L l (put (fun t=>dg (Q5 idx cH) (env t)) d y) H' Q):K0 F L (o::l) env H Q:=by
 refine .callHL idx cargs cH h hx hi hm hc fun r c ⟨e1,e2⟩=>?_
 subst e1; subst e2
 have e3:=Vq hH
 have e4:=Iu hr
 subst e3; subst e4
 exact k
def zf:D→A
 | .sl []=>.full []
 | x=>.d x
theorem B1u {M:Mem}{G:Nat→Value}{x:D}{v:Value}(h:zB v x=true):V0 M G (zf x) v:=by
 have h':=Xw h M
 unfold zf
 split
 ·unfold zB at h
  split at h <;> first | contradiction | skip
  exact .full .slnil trivial
 ·exact .d h'
theorem I11 {P:Program}{M:Mem}{G:Nat→Value}{T:TT}(hT:TOk P T){t:Nat}{i:TI}(ht:X2 T t=some i):∃ z,(∀ w,(zeroValue t).run P w = .ok z w)∧Xk M G (i.zero.map zf) z.cells:=by
 obtain ⟨j,h1,h2,h3,z,h4,h5,h6,h7⟩:=(hT.facts ht).info
 refine ⟨z,fun w=>by simp [zeroValue,typeInfo,h1,h4],by simpa using h5.symm,fun n v hv=>?_,fun n x v hx hv=>?_⟩
 ·have hlt:n < i.zero.length:=by rw [← h5]; simpa using (Array.getElem?_eq_some_iff.1 hv).1
  exact (Xw (h6 n v _ hv (List.getElem?_eq_getElem hlt)) M).one
 ·rw [List.getElem?_map] at hx
  cases hz:i.zero[n]? with
  | none=>rw [hz] at hx; cases hx
  | some y=>
   rw [hz] at hx
   simp only [Option.map_some,Option.some.injEq] at hx
   subst hx
   exact B1u (h6 n v y hv hz)
def V1o (C:Cx)(L:List Oper)(o:Oper)(env:Env)(H:P0):Option (Option Nat×Nat×P0):=
 match N1 L env o,o.op with
 | some true,.alloc t=>match X2 C.T t with
  | some i=>match Mm (i.zero.map zf) with
   | some cs=>match Au H (.row cs t),Md o with | some (n,H'),some d=>some (d,n,H') | _,_=>none
   | none=>none
  | none=>none
 | _,_=>none
theorem K0.nf {F:Fx}(hC:A3 F.C){L l:List Oper}{o:Oper}{env:Env}{H H':P0}{Q:Env→P0→Prop}{d:Option Nat}{n:Nat}(h:V1o F.C L o env H=some (d,n,H'))
  (k:K0 F L l (put env d (.ref n 0)) H' Q):K0 F L (o::l) env H Q:=by
 unfold V1o at h
 split at h
 ·rename_i t hw ho
  split at h
  ·rename_i i ht
   split at h
   ·rename_i cs hcs
    split at h
    ·rename_i n' H2 d' hp hd
     simp only [Option.some.injEq,Prod.mk.injEq] at h
     obtain ⟨rfl,rfl,rfl⟩:=h
     obtain ⟨rfl,rfl⟩:=Iq hp
     have:=Jn hcs
     subst this
     refine Ek hw fun fr M G w a K Qw hK hd' hs hsi hk=>?_
     obtain ⟨z,h1,h2⟩:=I11 (M:=M) (G:=G) hC.tok ht
     have hr:(execOp a.eval o).run F.C.P w = .ok (.value (.pointer (some ⟨w.heap.size,0,none⟩))) (w.alloc (.cells z.cells t)):=by
      unfold execOp
      simp [ho,Instr.alloc,h1,newVar,newRow]
     unfold Oper.wp
     rw [hr]
     rw [← S9 hd] at k
     exact hk _ _ _ _ _ _ _ k (hs.newRow (C4 hd') h2) (Y1.newRow hsi)
    ·cases h
   ·cases h
  ·cases h
 ·cases h
def O1s (C:Cx)(L:List Oper)(o:Oper)(env:Env):Option (Option Nat×List Row):=
 match N1 L env o,o.op,Md o with
 | some true,.binOp .eql t x (.const (.slice none 0 0)) _,some d=>match X2 C.T t,M12 (ev C.GL env x) with
  | some i,some rows=>match i.u with
   | .sl _=>some (d,rows)
   | _=>none
  | _,_=>none
 | _,_,_=>none
theorem K0.z {F:Fx}(hC:A3 F.C){L l:List Oper}{o:Oper}{env:Env}{H:P0}{Q:Env→P0→Prop}{d:Option Nat}{rows:List Row}(h:O1s F.C L o env=some (d,rows))(k:∀ b:Bool,(b=true→rows=[])→K0 F L l (put env d (.d (.bool b))) H Q):K0 F L (o::l) env H Q:=by
 unfold O1s at h
 split at h
 ·rename_i t x yt d' hw ho hd
  split at h
  ·rename_i i rows ht hr
   split at h
   ·rename_i e hu
    simp only [Option.some.injEq,Prod.mk.injEq] at h
    obtain ⟨rfl,rfl⟩:=h
    refine Ek hw fun fr M G w a K Qw hK hdok hs hsi hk=>?_
    have hx:=Gr hr (hs.eval x)
    have hdd:=Un (hC.tok.facts ht) hu
    have he:a.eval (.const (.slice none 0 0)) = .slice none 0 0:=rfl
    have key:∃ b:Bool,(b=true→rows=[])∧(execOp a.eval o).run F.C.P w = .ok (.value (.bool b)) w:=by
     generalize hv:a.eval x=v at hx
     have dd:∀ (v:Value) (b:Bool),(∀ n,(Op.equalIn (n+1) t v (.slice none 0 0)).run F.C.P w = .ok b w)→binOp .eql t v (.slice none 0 0)=(do pure (.bool (← Op.equal t v (.slice none 0 0))))→binOp .neq t v (.slice none 0 0)=(do pure (.bool (!(← Op.equal t v (.slice none 0 0)))))→
       v≠.nilIface→(∀ u,v≠.agg u)→a.eval x=v→(execOp a.eval o).run F.C.P w = .ok (.value (.bool b)) w:=fun v b e1 e2 e3 e4 e5 e6=>by
      obtain ⟨u,hu1,hu2⟩:=Ak (P:=F.C.P) (M:=M) (G:=G) (w:=w) (op:=.eql) (neg:=false) (.inl ⟨rfl,rfl⟩) b e1 e2 e3
      have hub:u = .bool b:=by cases hu2; rename_i hh; cases hh; rfl
      subst hub
      unfold execOp
      simp only [ho,e6,he,Sem.run_bind,W1c e4 e5,Result.andThen_ok,hu1,Sem.run_pure]
     cases hx with
     | slnil=>exact ⟨true,fun _=>rfl,dd _ true (fun n=>by simp [Op.equalIn,run_underlying hdd]) rfl rfl (by simp) (by simp) hv⟩
     | sl sz K1 hl hc hm hs' hz h1 h2=>exact ⟨false,(fun h=>by cases h),dd _ false (fun n=>by simp [Op.equalIn,run_underlying hdd]) rfl rfl (by simp) (by simp) hv⟩
    obtain ⟨b,hnil,hb⟩:=key
    unfold Oper.wp
    rw [hb]
    have kb:=k b hnil
    rw [← S9 hd] at kb
    exact hk _ _ _ _ _ _ _ kb (hs.quiet (C4 hdok) (.d .bool) hs.good (Ext.refl _ _ _)) (hsi.quiet (Ext.refl _ _ _))
   ·cases h
  ·cases h
 ·cases h
theorem K0.tokE {F:Fx}{L l:List Oper}{env:Env}{H:P0}{Q:Env→P0→Prop}(t e sz:Nat){rows:List Row}(h:env t = .full rows)(k:K0 F L l (upd env t (.osl H.length rows)) (H++[.tok e sz]) Q):K0 F L l env H Q:=by
 intro fr M G w a Qw hK hd hs hsi hq
 have hr:=hs.env t
 rw [h] at hr
 generalize hv:a.tmps.getD t undef=v at hr
 cases hr
 rename_i hf hrd
 obtain ⟨t1,t2⟩:=H11 (G:=G) (w:=w) hrd hf e sz
 have hsi':=hsi.newTok (Ext.refl Z3 M w) (e:=e) (sz:=sz) (v':=v) fun b hb=>absurd hb (t2 b)
 have hs':=hs.newTok (dst:=none) (by simp) (Ext.refl Z3 M w) hs.good (e:=e) (sz:=sz) (v':=v) (x:=.osl H.length rows) t1 (fun b hb=>absurd hb (t2 b)) (.osl hrd C2)
 refine k fr M _ w a Qw hK hd ⟨hs'.good,hs'.gl,hs'.hrel,fun s=>?_,hs.size,hs.defers⟩ hsi' hq
 unfold upd
 cases hb:Nat.beq s t with
 | true=>
  obtain rfl:=Nat.eq_of_beq_eq_true hb
  rw [hv]
  exact .osl hrd C2
 | false=>exact hs'.env s
theorem K0.tokC {F:Fx}{L l:List Oper}{env:Env}{H:P0}{Q:Env→P0→Prop}(o n e sz:Nat){cs cs':List A}{el m:Nat}{rows:List Row}{H1 H2:P0}(ho:nth H o=some (.row cs el))(h:nth cs n=some (.full rows))(hp:Au H (.tok e sz)=some (m,H1))(hcs:Nv cs n [.osl m rows]=some cs')(hH:Bu H1 o (.row cs' el)=some H2)
  (k:K0 F L l env H2 Q):K0 F L l env H Q:=by
 intro fr M G w a Qw hK hd hs hsi hq
 obtain ⟨rfl,rfl⟩:=Iq hp
 have e1:=H1a hcs
 have e2:=F14 hH
 subst e1
 subst e2
 rw [N3] at ho h
 have hol:o < H.length:=(List.getElem?_eq_some_iff.1 ho).1
 have hnl:n < cs.length:=(List.getElem?_eq_some_iff.1 h).1
 obtain ⟨b,vs,g1,g2,g3,g4,g5,g6⟩:=hs.hrel.obj o _ ho
 have hvn:vs[n]?=some vs[n]:=Array.getElem?_eq_getElem (by omega)
 have hr:=g5 n _ _ h hvn
 generalize hv:vs[n]=v at hr hvn
 cases hr
 rename_i hf hrd
 obtain ⟨t1,t2⟩:=H11 (G:=G) (w:=w) hrd hf e sz
 have hsi':=hsi.newTok (Ext.refl Z3 M w) (e:=e) (sz:=sz) (v':=v) fun b hb=>absurd hb (t2 b)
 have hs':=hs.newTok (dst:=none) (by simp) (Ext.refl Z3 M w) hs.good (e:=e) (sz:=sz) (v':=v) (x:=.junk) t1 (fun b hb=>absurd hb (t2 b)) .junk
 have hgo:J6 G H.length v o=G o:=Q1 (Nat.ne_of_lt hol)
 have ho':(H++[Ob.tok e sz])[o]?=some (.row cs el):=by rw [List.getElem?_append_left hol]; exact ho
 have hol':o < (H++[Ob.tok e sz]).length:=by simp; omega
 obtain ⟨b',vs',q1,q2,q3,q4,q5,q6⟩:=hs'.hrel.obj o _ ho'
 rw [hgo] at q1
 rw [g1] at q1
 simp at q1
 subst q1
 rw [g2] at q2
 simp at q2
 subst q2
 have hget:=fun i=>Hu cs n [.osl H.length rows] i (by simp; omega)
 refine k fr M (J6 G H.length v) w a Qw hK hd ⟨hs'.good,hs'.gl,⟨fun i x hi=>?_,fun i i' x x' c hi hi' hx hx'=>?_,fun i hi=>hs'.hrel.fresh i (by rw [Hq] at hi; exact hi)⟩,hs'.env,hs.size,hs.defers⟩ ?_ hq
 ·rw [Dg _ o _ i hol'] at hi
  split at hi
  ·rename_i e; subst e
   simp only [Option.some.injEq] at hi
   subst hi
   refine ⟨b,vs,by rw [hgo]; exact g1,g2,by rw [Gu]; exact g3,g4,fun j y u hy hu=>?_,g6⟩
   rw [hget j] at hy
   split at hy
   ·rename_i hj
    have:j=n:=by simp at hj; omega
    subst this
    simp at hy
    subst hy
    rw [hvn] at hu
    obtain rfl:=Option.some.inj hu
    exact .osl hrd C2
   ·exact q5 j y u hy hu
  ·exact hs'.hrel.obj i x hi
 ·have key:∀ (n':Nat) z d,(Gj (H++[Ob.tok e sz]) o (Ob.row (Rh cs n [.osl H.length rows]) el))[n']?=some z→blk z (J6 G H.length v n')=some d→∃ y,(H++[Ob.tok e sz])[n']?=some y∧blk y (J6 G H.length v n')=some d:=by
   intro n' z d hn hz
   rw [Dg _ o _ n' hol'] at hn
   by_cases e:n'=o
   ·rw [if_pos e] at hn
    subst e
    obtain rfl:=Option.some.inj hn
    exact ⟨_,ho',by rw [hgo,g1] at hz ⊢; exact hz⟩
   ·rw [if_neg e] at hn
    exact ⟨z,hn,hz⟩
  obtain ⟨y,hy,hby⟩:=key i x c hi hx
  obtain ⟨y',hy',hby'⟩:=key i' x' c hi' hx'
  exact hs'.hrel.apart i i' y y' c hy hy' hby hby'
 ·refine ⟨hsi'.ext,fun c ⟨i,x,hi,hx⟩=>?_,by rw [Hq]; exact hsi'.len,hsi'.keep,fun i x y hi ht hy=>?_⟩
  ·rw [Dg _ o _ i hol'] at hi
   by_cases e:i=o
   ·rw [if_pos e] at hi
    subst e
    obtain rfl:=Option.some.inj hi
    exact hsi'.own c ⟨i,_,ho',by rw [hgo,g1] at hx ⊢; exact hx⟩
   ·rw [if_neg e] at hi
    exact hsi'.own c ⟨i,x,hi,hx⟩
  ·rw [Dg _ o _ i hol'] at hy
   by_cases e:i=o
   ·rw [if_pos e] at hy
    obtain rfl:=Option.some.inj hy
    rfl
   ·rw [if_neg e] at hy
    exact hsi'.kind i x y hi ht hy
end Go.Am

namespace Go.Am
theorem W1o {P:Program}{o:Oper}{a:Act}{w:World}{K:Act→World→Prop}{Q Q':Exit→Act→World→Prop}(h1:∀ c a w,Q (.panic c) a w→Q' (.panic c) a w)(h2:LetsOut Q→LetsOut Q')
  (h:o.wp P a w K Q):o.wp P a w K Q':=by
 unfold Oper.wp at *
 generalize (execOp a.eval o).run P w=r at *
 cases r with
 | ok n w'=>
  cases n <;> simp only [Oper.upon] at h ⊢ <;>
   first
    | exact h
    | exact Calls.mono h (fun e w'' he=>by cases e <;> first | exact he | exact h1 _ _ _ he | exact h2 he)
 | halt x w'=>cases x <;> simp only [Oper.upon] at h ⊢ <;> first | exact h | exact h1 _ _ _ h
end Go.Am

namespace Go.Am
section
variable {P:Program}{M:Mem}{G:Nat→Value}{w:World}
end
end Go.Am

namespace Go.Am
end Go.Am

namespace Go.Am
open Go.ChangeShapes
def Pg (W:World):Mem:=fun a=>if a.spot=none then W.cell? a else none
theorem S1m (W:World):Good (Pg W) W:=by
 intro a v h
 unfold Pg at h
 split at h
 ·rename_i hs; exact .inl ⟨hs,h⟩
 ·cases h
def T12 (M:Mem)(ds:List D)(cs:List Value):Prop:=ds.length=cs.length∧∀ (i:Nat) x v,ds[i]?=some x→cs[i]?=some v→H3 M x v
structure M1i {H:Type}(μ:DataW H→Nat):Prop where
 lit:∀ l,1≤μ (.lit l)
 str:∀ s,s.length+1≤μ (.lit (.string s))
 nil:1≤μ .nil
 sl:∀ es sp,(es.map μ).sum+1≤μ (.slice es sp)
 agg:∀ ps,(ps.map μ).sum+1≤μ (.agg ps)
def Rd {H:Type}(enc:TypeId×Value→H)(P:Program)(W:World)(μ:DataW H→Nat)(fuel:Nat)(t:TypeId){α:Type}(f:α→Row)(bk:α→Nat):Prop:=
 ∀ cs d ps,DataW.trod enc P W 0 (fun _=>true) true fuel t cs=some (d,ps)→∃ x:α,T12 (Pg W) (f x) cs∧bk x≤μ d
section
variable {H:Type}{enc:TypeId×Value→H}{P:Program}{W:World}{μ:DataW H→Nat}{fuel:Nat}{t:TypeId}
theorem Rd.zero {α:Type}{f:α→Row}{bk:α→Nat}:Rd enc P W μ 0 t f bk:=fun cs d ps h=>by simp [DataW.trod] at h
theorem K1a {M:Mem}{x:D}{v:Value}(h:H3 M x v):T12 M [x] [v]:=by
 refine ⟨rfl,fun i y u hy hu=>?_⟩
 cases i with
 | zero=>simp at hy hu; subst hy; subst hu; exact h
 | succ i=>simp at hy
theorem Rd.int (hμ:M1i μ){k:IntKind}(ht:P.underlying t=some (.int k)):Rd enc P W μ fuel t (fun n:Int=>[D.int k n]) (fun _=>1):=by
 cases fuel with
 | zero=>exact .zero
 | succ n=>
  intro cs d ps h
  unfold DataW.trod at h
  rw [ht] at h
  split at h <;> first | (rename_i heq; cases heq; done) | skip
  all_goals first | (cases h; done) | skip
  rename_i k1 k' m heq
  cases heq
  split at h
  ·rename_i hc
   simp only [Option.some.injEq,Prod.mk.injEq] at h
   obtain ⟨rfl,rfl⟩:=h
   obtain ⟨rfl,hwf⟩:=hc
   refine ⟨m,K1a (.int ?_),hμ.lit _⟩
   simpa [Lit.wf,InK] using hwf
  ·cases h
theorem Rd.str (hμ:M1i μ)(ht:P.underlying t=some .string):Rd enc P W μ fuel t (fun s:Str=>[D.str s]) (fun s=>s.length+1):=by
 cases fuel with
 | zero=>exact .zero
 | succ n=>
  intro cs d ps h
  unfold DataW.trod at h
  rw [ht] at h
  split at h <;> first | (rename_i heq; cases heq; done) | skip
  all_goals first | (cases h; done) | skip
  rename_i s heq
  split at h
  ·rename_i hc
   simp only [Option.some.injEq,Prod.mk.injEq] at h
   obtain ⟨rfl,rfl⟩:=h
   refine ⟨s.data.toList,K1a ?_,hμ.str _⟩
   have:s=⟨s.data.toList.toArray⟩:=by simp
   rw [this]
   exact .str (by simpa using hc)
  ·cases h
theorem X1o {α β:Type}{f:α→Nat}{g:β→Nat}:∀ {l:List α} {m:List β},l.length=m.length→(∀ (i:Nat) x y,l[i]?=some x→m[i]?=some y→f x≤g y)→(l.map f).sum≤(m.map g).sum
 | [],[],_,_=>Nat.le_refl _
 | x::l,y::m,hl,h=>by
  have h0:=h 0 x y rfl rfl
  have ih:=X1o (l:=l) (m:=m) (by simpa using hl) (fun i a b ha hb=>h (i+1) a b (by simpa using ha) (by simpa using hb))
  simp only [List.map_cons,List.sum_cons]
  omega
 | [],_::_,hl,_=>by simp at hl
 | _::_,[],hl,_=>by simp at hl
theorem L14 {W:World}{a:Addr}{n:Nat}{cs:List Value}(h:W.cells? 0 a n=some cs):cs.length=n∧∀ (j:Nat) v,cs[j]?=some v→W.cell? (a.add j)=some v:=by
 unfold World.cells? at h
 rw [if_pos (Nat.zero_le _)] at h
 have key:∀ (l:List Nat) (cs:List Value),l.mapM (fun i=>W.cell? (a.add i))=some cs→cs.length=l.length∧∀ (j:Nat) v,cs[j]?=some v→∃ i,l[j]?=some i∧W.cell? (a.add i)=some v:=by
  intro l
  induction l with
  | nil=>intro cs h; simp at h; subst h; exact ⟨rfl,fun j v h=>by simp at h⟩
  | cons i l ih=>
   intro cs h
   rw [List.mapM_cons] at h
   simp only [bind,Option.bind_eq_some_iff,pure,Option.some.injEq] at h
   obtain ⟨v,hv,vs,hvs,rfl⟩:=h
   obtain ⟨h1,h2⟩:=ih vs hvs
   refine ⟨by simp [h1],fun j u hu=>?_⟩
   cases j with
   | zero=>simp at hu; subst hu; exact ⟨i,rfl,hv⟩
   | succ j=>simpa using h2 j u (by simpa using hu)
 obtain ⟨h1,h2⟩:=key _ _ h
 refine ⟨by simpa using h1,fun j v hv=>?_⟩
 obtain ⟨i,hi,hc⟩:=h2 j v hv
 have hj:j < n:=by have:=(List.getElem?_eq_some_iff.1 hv).1; simp at h1; omega
 rw [List.getElem?_range hj] at hi
 cases hi
 exact hc
theorem M14 {W:World}{a:Addr}{v:Value}(h:W.cell? a=some v):Pg W a=some v∧a.spot=none:=by
 have hs:a.spot=none:=by
  unfold World.cell? at h
  split at h
  ·split at h
   ·cases h
   ·rename_i hs; simpa using hs
  ·cases h
 exact ⟨by unfold Pg; rw [if_pos hs]; exact h,hs⟩
theorem Rd.sl (hμ:M1i μ){e sz:Nat}{α:Type}[Inhabited α]{f:α→Row}{bk:α→Nat}(ht:P.underlying t=some (.slice e))(hP:P.cellsOf e=sz)(hpos:1≤sz)(hsz:∀ x,(f x).length=sz)(he:∀ n,n < fuel→Rd enc P W μ n e f bk) :
  Rd enc P W μ fuel t (fun l:List α=>[D.sl (l.map f)]) (fun l=>(l.map bk).sum+1):=by
 intro cs d ps h
 rcases DataW.trod_slice ht h with ⟨rfl,hx⟩ | ⟨a,len,cap,elems,rest,n,hn,rfl,hx,_,hlc,hcm,hlen,hel,hsp,_⟩
 ·cases hx
  exact ⟨[],K1a .slnil,hμ.nil⟩
 ·have h1:∀ i:_root_.Fin len,∃ x:α,∃ ci di,W.cells? 0 (a.add (i.val * sz)) sz=some ci∧elems[i.val]?=some di∧T12 (Pg W) (f x) ci∧bk x≤μ di.1:=by
   intro i
   have:=hel i.val i.isLt
   have hlt:i.val < elems.length:=by omega
   rw [List.getElem?_eq_getElem hlt,hP] at this
   obtain ⟨ci,h2,h3⟩:=Option.bind_eq_some_iff.1 this
   obtain ⟨x,h4,h5⟩:=he n (by omega) ci _ _ h3
   exact ⟨x,ci,_,h2,List.getElem?_eq_getElem hlt,h4,h5⟩
  let g:_root_.Fin len→α:=fun i=>Classical.choose (h1 i)
  have hg:∀ i:_root_.Fin len,∃ ci di,W.cells? 0 (a.add (i.val * sz)) sz=some ci∧elems[i.val]?=some di∧T12 (Pg W) (f (g i)) ci∧bk (g i)≤μ di.1:=fun i=>Classical.choose_spec (h1 i)
  have hget:∀ (i:Nat) x,(List.ofFn g)[i]?=some x→∃ h:i < len,x=g ⟨i,h⟩:=fun i x hx=>by
   rw [List.getElem?_ofFn] at hx
   split at hx
   ·rename_i h; exact ⟨h,by cases hx; rfl⟩
   ·cases hx
  cases hx
  refine ⟨List.ofFn g,K1a (.sl sz (fun i j=>(W.cell? (a.add (i * sz+j))).getD undef) (by simp) hlc hcm ?_ ?_ ?_ ?_),?_⟩
  ·by_cases h0:cap=0
   ·exact .inl h0
   ·refine .inr ?_
    have hc0:∃ ci,W.cells? 0 (a.add (0 * sz)) sz=some ci:=by
     by_cases hl0:0 < len
     ·obtain ⟨ci,di,h2,_⟩:=hg ⟨0,hl0⟩
      exact ⟨ci,h2⟩
     ·have hl0':len=0:=by omega
      obtain ⟨h2,h3⟩:=hsp rfl
      have h4:=h3 0 (by omega)
      have hlt:0 < rest.length:=by omega
      rw [List.getElem?_eq_getElem hlt,hP,hl0'] at h4
      obtain ⟨ci,h5,_⟩:=Option.bind_eq_some_iff.1 h4
      exact ⟨ci,by simpa using h5⟩
    obtain ⟨ci,hci⟩:=hc0
    obtain ⟨h2,h3⟩:=L14 hci
    have h4:ci[0]?=some ci[0]:=List.getElem?_eq_getElem (by omega)
    have:=(M14 (h3 0 _ h4)).2
    simpa [Addr.add] using this
  ·intro i r hr
   rw [List.getElem?_map] at hr
   cases hx:(List.ofFn g)[i]? with
   | none=>rw [hx] at hr; cases hr
   | some x=>rw [hx] at hr; cases hr; exact hsz x
  ·intro i j r x hr hx
   rw [List.getElem?_map] at hr
   cases hy:(List.ofFn g)[i]? with
   | none=>rw [hy] at hr; cases hr
   | some y=>
    rw [hy] at hr; cases hr
    obtain ⟨hi,rfl⟩:=hget i y hy
    obtain ⟨ci,di,h2,h3,⟨h4,h5⟩,h6⟩:=hg ⟨i,hi⟩
    obtain ⟨h7,h8⟩:=L14 h2
    have hj:j < ci.length:=by rw [← h4]; exact (List.getElem?_eq_some_iff.1 hx).1
    have h9:=h8 j _ (List.getElem?_eq_getElem hj)
    rw [Er] at h9
    rw [(M14 h9).1,h9]
    rfl
  ·intro i j r x hr hx
   rw [List.getElem?_map] at hr
   cases hy:(List.ofFn g)[i]? with
   | none=>rw [hy] at hr; cases hr
   | some y=>
    rw [hy] at hr; cases hr
    obtain ⟨hi,rfl⟩:=hget i y hy
    obtain ⟨ci,di,h2,h3,⟨h4,h5⟩,h6⟩:=hg ⟨i,hi⟩
    obtain ⟨h7,h8⟩:=L14 h2
    have hj:j < ci.length:=by rw [← h4]; exact (List.getElem?_eq_some_iff.1 hx).1
    have h9:=h8 j _ (List.getElem?_eq_getElem hj)
    rw [Er] at h9
    rw [h9]
    exact h5 j x _ hx (List.getElem?_eq_getElem hj)
  ·refine Nat.le_trans ?_ (hμ.sl _ _)
   rw [List.map_map]
   refine Nat.succ_le_succ (X1o (by simp [hlen]) fun i x y hx hy=>?_)
   obtain ⟨hi,rfl⟩:=hget i x hx
   obtain ⟨ci,di,h2,h3,h4,h6⟩:=hg ⟨i,hi⟩
   simp only at h3
   rw [h3] at hy
   cases hy
   exact h6
def FRd {H:Type}(enc:TypeId×Value→H)(P:Program)(W:World)(μ:DataW H→Nat)(fuel:Nat)(fs:List Field)(off:Nat){α:Type}(f:α→Row)(bk:α→Nat):Prop:=
 ∀ (cs:List Value) (xs:List (DataW H×List MemPlace)),xs.length=fs.length→(∀ (i:Nat) (g:Field),fs[i]?=some g→DataW.trod enc P W 0 (fun _=>true) true fuel g.type ((cs.drop g.offset).take (P.cellsOf g.type))=xs[i]?)→∃ x:α,(∀ (i:Nat) y v,(f x)[i]?=some y→cs[off+i]?=some v→H3 (Pg W) y v)∧bk x≤(xs.map fun y=>μ y.1).sum
theorem FRd.nil {off:Nat}:FRd enc P W μ fuel [] off (fun _:Unit=>[]) (fun _=>0):=by
 intro cs xs hl _
 obtain rfl:=List.eq_nil_of_length_eq_zero hl
 exact ⟨(),fun i y v h=>by simp at h,Nat.le_refl _⟩
theorem FRd.cons {α β:Type}{f:α→Row}{g:β→Row}{bk:α→Nat}{bk':β→Nat}{fs:List Field}{fd:Field}{off sz:Nat}(h1:Rd enc P W μ fuel fd.type f bk)(ho:fd.offset=off)(hP:P.cellsOf fd.type=sz)(hsz:∀ x,(f x).length=sz)(h2:FRd enc P W μ fuel fs (off+sz) g bk') :
  FRd enc P W μ fuel (fd::fs) off (fun p:α×β=>f p.1++g p.2) (fun p=>bk p.1+bk' p.2):=by
 intro cs xs hl h
 cases xs with
 | nil=>simp at hl
 | cons y ys=>
 obtain ⟨d,ps⟩:=y
 obtain ⟨x,⟨e1,e2⟩,e3⟩:=h1 _ _ _ (h 0 fd rfl)
 obtain ⟨x',e4,e5⟩:=h2 cs ys (by simpa using hl) (fun i g hg=>by simpa using h (i+1) g (by simpa using hg))
 refine ⟨(x,x'),fun i z v hz hv=>?_,by simp only [List.map_cons,List.sum_cons]; omega⟩
 rcases Nat.lt_or_ge i sz with hi | hi
 ·rw [List.getElem?_append_left (by rw [hsz]; exact hi)] at hz
  refine e2 i z v hz ?_
  rw [ho,hP,List.getElem?_take,if_pos hi,List.getElem?_drop]
  exact hv
 ·rw [List.getElem?_append_right (by rw [hsz]; exact hi),hsz] at hz
  refine e4 (i - sz) z v hz ?_
  rw [show off+sz+(i - sz)=off+i by omega]
  exact hv
theorem Rd.st (hμ:M1i μ){fs:Array Field}{l:List Field}{α β:Type}{f:α→Row}{g:β→Row}{bk:α→Nat}{bk':β→Nat}{sz:Nat}(ht:P.underlying t=some (.struct fs))(hl:fs.toList=l)(hP:P.cellsOf t=sz)(hsz:∀ x,(g x).length=sz)
  (h:∀ n,n < fuel→FRd enc P W μ n l 0 f bk) (mk:α→β) (hf:∀ x,f x=g (mk x)) (hb:∀ x,bk' (mk x)≤bk x+1):Rd enc P W μ fuel t g bk':=by
 intro cs d ps hd
 obtain ⟨xs,n,hn,hx,hlen,hxl,hxs⟩:=DataW.trod_struct ht hd
 cases hx
 obtain ⟨x,h3,h4⟩:=h n (by omega) cs xs (by rw [hxl,← hl]; simp) (fun i g hg=>hxs i g (by rw [← hl] at hg; simpa using hg))
 refine ⟨mk x,⟨by rw [hsz,hlen,hP],fun i y v hy hv=>h3 i y v (by rw [hf]; exact hy) (by simpa using hv)⟩,?_⟩
 have:=hμ.agg (xs.map (·.1))
 rw [List.map_map] at this
 have h5:=hb x
 have h6:(xs.map fun y=>μ y.1).sum=(xs.map (μ ∘ fun x=>x.fst)).sum:=rfl
 omega
end
end Go.Am

namespace Go.Am
open Go.ChangeShapes
theorem W10 {α β:Type}{f g:α→Option β}:∀ {l:List α} {r:List β},l.mapM f=some r→(∀ x∈l,∀ y∈r,f x=some y→g x=some y)→l.mapM g=some r
 | [],r,h,_=>by simpa using h
 | x::l,r,h,hfg=>by
  rw [List.mapM_cons] at h ⊢
  simp only [bind,Option.bind_eq_some_iff,pure,Option.some.injEq] at h ⊢
  obtain ⟨y,hy,ys,hys,rfl⟩:=h
  exact ⟨y,hfg x (by simp) y (by simp) hy,ys,W10 hys (fun x hx y hy'=>hfg x (by simp [hx]) y (by simp [hy'])),rfl⟩
theorem U12 {α:Type}(l:List α):(List.range l.length).mapM (fun i=>l[i]?)=some l:=by
 have key:∀ (m:List α) (k:Nat),(∀ j,m[j]?=l[k+j]?)→(List.range' k m.length).mapM (fun i=>l[i]?)=some m:=by
  intro m
  induction m with
  | nil=>intro k _; rfl
  | cons x m ih=>
   intro k h
   rw [List.length_cons,List.range'_succ,List.mapM_cons]
   have h0:=h 0
   simp at h0
   have:=ih (k+1) (fun j=>by have:=h (j+1); simp at this; rw [this]; congr 1; omega)
   simp only [bind,Option.bind_eq_some_iff,pure,Option.some.injEq]
   exact ⟨x,h0.symm,m,this,rfl⟩
 rw [List.range_eq_range']
 exact key l 0 (fun j=>by simp)
def Plain (P:Program)(S:TypeId→Prop):Prop:=
 ∀ t,S t→P.underlying t=some .bool∨(∃ k,P.underlying t=some (.int k))∨P.underlying t=some .string∨(∃ e,P.underlying t=some (.slice e)∧S e∧1≤P.cellsOf e)∨∃ fs,P.underlying t=some (.struct fs)∧∀ f∈fs.toList,S f.type
section
variable {H:Type}{enc:TypeId×Value→H}{P:Program}{W W':World}{S:TypeId→Prop}
theorem L1k (hb:∀ b,b < W.heap.size→W'.heap[b]?=W.heap[b]?){a:Addr}{n:Nat}{cs:List Value}(h:W.cells? 0 a n=some cs):W'.cells? 0 a n=some cs:=by
 unfold World.cells? at *
 rw [if_pos (Nat.zero_le _)] at *
 refine W10 h fun i _ y _ hy=>?_
 rw [Zm (hb _ (World.block_lt_of_cell? W _ hy))]
 exact hy
theorem Y1o (hS:Plain P S)(hb:∀ b,b < W.heap.size→W'.heap[b]?=W.heap[b]?){sp:Nat→Bool}:∀ (fuel:Nat) (t:TypeId) (cs:List Value) (x:DataW H×List MemPlace),S t→DataW.trod enc P W 0 (fun _=>true) true fuel t cs=some x→
  (∀ p∈x.2,sp p.block=true)→DataW.trod enc P W' 0 sp true fuel t cs=some x:=by
 intro fuel
 induction fuel with
 | zero=>intro t cs x _ h; simp [DataW.trod] at h
 | succ n ih=>
  intro t cs x hSt h hx
  rcases hS t hSt with ht | ⟨k,ht⟩ | ht | ⟨e,ht,hSe,hpos⟩ | ⟨fs,ht,hSf⟩
  ·obtain ⟨b,rfl,rfl⟩:=DataW.trod_bool ht h
   unfold DataW.trod
   rw [ht]
  ·have h2:=h
   obtain ⟨m,rfl,rfl,_⟩:=DataW.trod_int ht h
   unfold DataW.trod at h2 ⊢
   rw [ht] at h2 ⊢
   exact h2
  ·have h2:=h
   obtain ⟨s,rfl,rfl,_⟩:=DataW.trod_string ht h
   unfold DataW.trod at h2 ⊢
   rw [ht] at h2 ⊢
   exact h2
  ·have h0:=h
   rcases DataW.trod_slice ht h with ⟨rfl,rfl⟩ | ⟨a,len,cap,elems,rest,n',hn,rfl,rfl,_,hlc,hcm,hlen,hel,hsp,_⟩
   ·unfold DataW.trod
    rw [ht]
    rfl
   ·have hn':n=n':=by omega
    subst hn'
    have hspare:cap - len=0∨sp a.block=true:=by
     by_cases hc:cap=0
     ·exact .inl (by omega)
     ·refine .inr (hx (.cell a.block a.off) ?_)
      simp only [List.mem_append]
      refine .inl (MemPlace.mem_row.2 ⟨0,?_,?_⟩)
      ·have h1:=(hsp rfl).1
       have:0 < elems.length+rest.length:=by omega
       exact Nat.mul_pos this hpos
      ·simp
    have hdo:∀ (i:Nat) (y:DataW H×List MemPlace),(∀ p∈y.2,sp p.block=true)→(W.cells? 0 (a.add (i * P.cellsOf e)) (P.cellsOf e)).bind (DataW.trod enc P W 0 (fun _=>true) true n e)=some y→
      (W'.cells? 0 (a.add (i * P.cellsOf e)) (P.cellsOf e)).bind (DataW.trod enc P W' 0 sp true n e)=some y:=fun i y hy h1=>by
     obtain ⟨ci,h2,h3⟩:=Option.bind_eq_some_iff.1 h1
     rw [L1k hb h2]
     exact ih e ci y hSe h3 hy
    have hmem:∀ y∈elems++rest,∀ p∈y.2,sp p.block=true:=fun y hy p hp=>hx p (by
     simp only [List.mem_append,List.mem_flatMap]
     exact .inr ⟨y,by simpa using hy,hp⟩)
    have m1:(List.range len).mapM (fun i=>(W'.cells? 0 (a.add (i * P.cellsOf e)) (P.cellsOf e)).bind (DataW.trod enc P W' 0 sp true n e))=some elems:=by
     have:(List.range len).mapM (fun i=>elems[i]?)=some elems:=by rw [← hlen]; exact U12 elems
     refine W10 this fun i hi y hy h1=>hdo i y (hmem y (by simp [hy])) ?_
     rw [hel i (List.mem_range.1 hi)]
     exact h1
    have m2:(if sp a.block then (List.range (cap - len)).mapM (fun j=>(W'.cells? 0 (a.add ((len+j) * P.cellsOf e)) (P.cellsOf e)).bind (DataW.trod enc P W' 0 sp true n e)) else some [])=some rest:=by
     obtain ⟨h1,h2⟩:=hsp rfl
     rcases hspare with hc | hc
     ·have:rest=[]:=List.eq_nil_of_length_eq_zero (by omega)
      subst this
      rw [hc]
      split <;> rfl
     ·rw [if_pos hc]
      have:(List.range (cap - len)).mapM (fun i=>rest[i]?)=some rest:=by rw [← h1]; exact U12 rest
      refine W10 this fun j hj y hy h3=>hdo (len+j) y (hmem y (by simp [hy])) ?_
      rw [h2 j (List.mem_range.1 hj)]
      exact h3
    unfold DataW.trod
    rw [ht]
    simp only [Nat.zero_le,hlc,hcm,and_self,if_true,m1,m2,Option.bind_some,Option.map_some]
  ·obtain ⟨xs,n',hn,rfl,hl,hlen,hf⟩:=DataW.trod_struct ht h
   have hn':n=n':=by omega
   subst hn'
   refine trod_struct_mk ht hl ?_
   have key:∀ (l:List Field) (ys:List (DataW H×List MemPlace)),ys.length=l.length→(∀ f∈l,S f.type)→(∀ y∈ys,∀ p∈y.2,sp p.block=true)→
     (∀ (i:Nat) f,l[i]?=some f→DataW.trod enc P W 0 (fun _=>true) true n f.type ((cs.drop f.offset).take (P.cellsOf f.type))=ys[i]?)→
     l.mapM (fun f=>DataW.trod enc P W' 0 sp true n f.type ((cs.drop f.offset).take (P.cellsOf f.type)))=some ys:=by
    intro l
    induction l with
    | nil=>intro ys h1 _ _ _; obtain rfl:=List.eq_nil_of_length_eq_zero h1; rfl
    | cons f l ihl=>
     intro ys h1 h2 h3 h4
     cases ys with
     | nil=>simp at h1
     | cons y ys=>
      rw [List.mapM_cons]
      simp only [bind,Option.bind_eq_some_iff,pure,Option.some.injEq]
      exact ⟨y,ih _ _ y (h2 f (by simp)) (by simpa using h4 0 f rfl) (h3 y (by simp)),ys,ihl ys (by simpa using h1) (fun g hg=>h2 g (by simp [hg])) (fun z hz=>h3 z (by simp [hz])) (fun i g hg=>by simpa using h4 (i+1) g (by simpa using hg)),rfl⟩
   refine key fs.toList xs (by simpa using hlen) hSf (fun y hy p hp=>hx p (by simp only [List.mem_flatMap]; exact ⟨y,hy,hp⟩)) fun i f hi=>hf i f (by simpa using hi)
theorem Z1o {f:Func}{s:ChangeSpec}{apart fresh handsOn again:Bool}{args:Array Value}{v:Value}{ds gs:List (DataW H)}{before pa pv:List MemPlace}
  (hW:DataW.Whole enc P f.params.toList s.vars apart W args.toList ds gs before)
  (hres:∀ (b:Nat) (sp:Nat→Bool) (hd:Bool),DataW.TrodAll enc P W' b sp hd f.resultTypes.toList (v.resultList f.resultTypes.size) (s.fn H (ds++gs)).results [])
  (hargs:∀ sp:Nat→Bool,(∀ p∈before,sp p.block=true)→DataW.TrodAll enc P W' 0 sp true f.params.toList args.toList (s.fn H (ds++gs)).args pa)
  (hvars:∀ sp:Nat→Bool,(∀ p∈before,sp p.block=true)→DataW.TrodVars enc P W' sp s.vars (s.fn H (ds++gs)).vars pv)
  (hps:before=pa++pv) (hk:W.keptBut W' (·∈before)) (hfz:∀ a:Addr,a.block < W.heap.size→W'.frozen? a=W.frozen? a)
  (hok:∀ (j:Nat) (t:TypeId) (r:Value),f.resultTypes[j]?=some t→(v.resultList f.resultTypes.size)[j]?=some r→Value.okWide P W' .any 0 t r) :
  s.post enc P f apart fresh handsOn again W args v W':=by
 have hlt:=hW.lt
 have hold:∀ p∈before,(fun b=>decide (b < W.heap.size)) p.block=true:=fun p hp=>by simpa using hW.lt p hp
 refine ⟨ds,gs,before,[],pa,pv,hW,hres _ _ _,hargs _ hold,hvars _ hold,World.keptBut_mono (fun p hp=>⟨hp,?_⟩) hk,fun _=>?_⟩
 ·rw [hps,List.mem_append] at hp
  exact Or.inr hp
 ·obtain ⟨_,_,_,_,_,hz,hn⟩:=hW
  refine ⟨hok,_,_,([]++pa)++pv,⟨[]++pa,pv,trodAll_append (hargs _ (fun _ _=>rfl)) (hres _ _ _),hvars _ (fun _ _=>rfl),rfl,?_,?_⟩,?_⟩
  ·intro b off hp
   have hp':MemPlace.cell b off∈before:=by rw [hps]; simpa using hp
   rw [hfz _ (hlt _ hp')]
   exact hz b off hp'
  ·intro ha
   have:=hn ha
   rw [hps] at this
   simpa using this
  ·intro p hp _
   rw [hps]
   simpa using hp
theorem T1m {may:MemPlace→Prop}(hb:∀ b,b < W.heap.size→W'.heap[b]?=W.heap[b]?)(ho:W'.os=W.os)(hout:W'.output=W.output):W.keptBut W' may:=by
 refine ⟨ho,hout,fun i hi=>?_⟩
 rw [hb i hi]
 cases h:W.heap[i]? with
 | none=>rfl
 | some o=>cases o <;> simp
theorem A1p {a:Addr}(hb:W'.heap[a.block]?=W.heap[a.block]?):W'.frozen? a=W.frozen? a:=by
 unfold World.frozen?
 rw [hb]
theorem K18 (hS:Plain P S)(hb:∀ b,b < W.heap.size→W'.heap[b]?=W.heap[b]?){sp:Nat→Bool}:∀ {ts:List TypeId} {vs:List Value} {ds:List (DataW H)} {ps:List MemPlace},(∀ t∈ts,S t)→DataW.TrodAll enc P W 0 (fun _=>true) true ts vs ds ps→
  (∀ p∈ps,sp p.block=true)→DataW.TrodAll enc P W' 0 sp true ts vs ds ps
 | [],[],[],_,_,h,_=>h
 | t::ts,v::vs,d::ds,ps,hSt,⟨p,q,⟨n,h1⟩,h2,e⟩,hp=>by
  subst e
  exact ⟨p,q,⟨n,Y1o hS hb n t _ _ (hSt t (by simp)) h1 (fun x hx=>hp x (by simp [hx]))⟩,K18 hS hb (fun t ht=>hSt t (by simp [ht])) h2 (fun x hx=>hp x (by simp [hx])),rfl⟩
theorem C1t {C:Cx}(hP:C.P=P){f:FuncId}{fn:Func}{s:ChangeSpec}{args:Array Value}{ds gs:List (DataW H)}{before:List MemPlace}{xs:List A}{b:TypeId}
  (hc:N0 C f xs [] (fun r H'=>H'=[]∧r = .d (.bool true))) (hlen:xs.length=args.size) (hargs:∀ (i:Nat) x v,xs[i]?=some x→args[i]?=some v→V0 (Pg W) (fun _=>.tuple #[]) x v) (hgl:Yx C (Pg W) W)
  (hW:DataW.Whole enc P fn.params.toList s.vars false W args.toList ds gs before) (hv:s.vars=[]) (hb:fn.resultTypes = #[b]) (hbt:P.underlying b=some .bool)
  (hsf:s.fn H ds={ results:=[.lit (.bool true)],args:=ds }) (hS:Plain P S) (hSt:∀ t∈fn.params.toList,S t) :
  Calls P f args W fun e W'=>∃ v,e = .returned v∧s.post enc P fn false true false false W args v W':=by
 subst hP
 have hgs:gs=[]:=by
  obtain ⟨p,q,_,h2,_⟩:=hW
  rw [hv] at h2
  cases gs with
  | nil=>rfl
  | cons g gs=>cases h2
 subst hgs
 have hH:R9 (Pg W) (fun _=>.tuple #[]) W []:=R9.nil _ _
 refine (hc.2 (Pg W) (fun _=>.tuple #[]) W args (S1m W) hgl hH hlen hargs).mono fun e W' he=>?_
 obtain ⟨v,r,H',M',G',rfl,⟨rfl,rfl⟩,hr,_,_,hext,_⟩:=he
 cases hr
 rename_i hr
 cases hr
 refine ⟨_,rfl,?_⟩
 have hblk:∀ k,k < W.heap.size→W'.heap[k]?=W.heap[k]?:=fun k hk=>hext.block k hk (fun ⟨o,x,h1,_⟩=>by simp at h1)
 have hW':=hW
 obtain ⟨p,q,hA,hV,hpq,hz,hn⟩:=hW'
 rw [hv] at hV
 have hq:q=[]:=hV
 subst hq
 refine Z1o hW (pa:=p) (pv:=[]) ?_ ?_ ?_ hpq (T1m hblk hext.os hext.output) (fun a ha=>A1p (hblk _ ha)) ?_
 ·intro b' sp hd
  rw [List.append_nil,hsf,hb]
  exact trodAll_mk1 ⟨1,by unfold DataW.trod; rw [hbt]; rfl⟩
 ·intro sp hsp
  rw [List.append_nil,hsf]
  exact K18 hS hblk hSt hA (fun x hx=>hsp x (by rw [hpq]; simp [hx]))
 ·intro sp hsp
  rw [hv,List.append_nil,hsf]
  rfl
 ·intro j t r h1 h2
  rw [hb] at h1 h2
  cases j with
  | succ j=>simp at h1
  | zero=>
   simp at h1 h2
   subst h1
   have:r = .bool true:=by simpa [Value.resultList] using h2.symm
   subst this
   exact Go.RowKit.okWide_bool_mk hbt _
theorem N1i {t:TypeId}{v:Value}{base:Nat}{x:D}(hv:Value.okWide P W .any base t v)(ht:P.underlying t=some .bool∨(∃ k,P.underlying t=some (.int k))∨P.underlying t=some .string∨(∃ e,P.underlying t=some (.slice e)))(h:T12 (Pg W) [x] v.cells.toList) :
  V0 (Pg W) (fun _=>.tuple #[]) (.d x) v:=by
 have hc:v.cells = #[v]:=by
  unfold Value.okWide at hv
  rcases ht with ht | ⟨k,ht⟩ | ht | ⟨e,ht⟩ <;> rw [ht] at hv <;> simp only [Cell.okWide,ht,Cell.ok] at hv <;> cases v <;> first | rfl | (exact hv.elim)
 rw [hc] at h
 exact .d (h.2 0 x v rfl rfl)
theorem C1u {t:TypeId}{v:Value}{base:Nat}{xs:List D}{fs:Array Field}(hv:Value.okWide P W .any base t v)(ht:P.underlying t=some (.struct fs))(h:T12 (Pg W) xs v.cells.toList):V0 (Pg W) (fun _=>.tuple #[]) (.agg (xs.map .d)) v:=by
 unfold Value.okWide at hv
 rw [ht] at hv
 obtain ⟨cs,rfl,_⟩:=hv
 obtain ⟨h1,h2⟩:=h
 have e:(Value.agg cs).cells=cs:=rfl
 rw [e] at h1 h2
 refine .agg (by simpa using h1) (fun i v hv=>?_) fun i x v hx hv=>?_
 ·have hlt:i < xs.length:=by rw [h1]; simpa using (Array.getElem?_eq_some_iff.1 hv).1
  exact (h2 i _ v (List.getElem?_eq_getElem hlt) (by simpa using hv)).one
 ·rw [List.getElem?_map] at hx
  cases hy:xs[i]? with
  | none=>rw [hy] at hx; cases hx
  | some y=>rw [hy] at hx; cases hx; exact .d (h2 i y v hy (by simpa using hv))
end
end Go.Am

namespace Go.Am
def Le {α:Type}(a b:Option α):Prop:=∀ r,a=some r→b=some r
theorem Le.rfl {α:Type}{a:Option α}:Le a a:=fun _ h=>h
theorem Le.none {α:Type}{b:Option α}:Le (.none:Option α) b:=fun _ h=>by cases h
theorem Le.bind {α β:Type}{a a':Option α}{f f':α→Option β}(h:Le a a')(hf:∀ x,Le (f x) (f' x)):Le (a>>=f) (a'>>=f'):=by
 intro r hr
 cases a with
 | none=>cases hr
 | some x=>rw [h x _root_.rfl]; exact hf x r hr
theorem Le.ite {α:Type}{c:Prop}[Decidable c]{a a' b b':Option α}(h:Le a a')(h':Le b b'):Le (if c then a else b) (if c then a' else b'):=by
 split
 ·exact h
 ·exact h'
end Go.Am

namespace Go.Am
def gB (G:Nat→Value)(n:Nat)(w:World):Nat→Value:=J6 (J6 G n (.pointer (some ⟨w.heap.size,0,none⟩))) (n+1) (.slice none 0 0)
theorem Fy {G:Nat→Value}{n o:Nat}{w:World}(h:o < n):gB G n w o=G o:=by unfold gB; rw [Q1 (by omega),Q1 (by omega)]
theorem D1u {G:Nat→Value}{n o:Nat}{w:World}(h:n+1 < o):gB G n w o=G o:=by unfold gB; rw [Q1 (by omega),Q1 (by omega)]
theorem U1m {G:Nat→Value}{n:Nat}{w:World}:gB G n w n = .pointer (some ⟨w.heap.size,0,none⟩):=by unfold gB; rw [Q1 (by omega),C2]
theorem O1i {G:Nat→Value}{n:Nat}{w:World}:gB G n w (n+1) = .slice none 0 0:=by unfold gB; rw [C2]
theorem F1r {H:P0}{x y z:Ob}{o:Nat}(h:(H++[x,y])[o]?=some z):(o < H.length∧H[o]?=some z)∨(o=H.length∧z=x)∨(o=H.length+1∧z=y):=by
 rcases Nat.lt_or_ge o H.length with h1 | h1
 ·rw [List.getElem?_append_left h1] at h; exact .inl ⟨h1,h⟩
 ·rw [List.getElem?_append_right h1] at h
  match hk:o - H.length,h with
  | 0,h=>simp at h; exact .inr (.inl ⟨by omega,h.symm⟩)
  | 1,h=>simp at h; exact .inr (.inr ⟨by omega,h.symm⟩)
  | k+2,h=>simp at h
theorem St.newBld {C:Cx}{N:FN}{M:Mem}{G:Nat→Value}{w:World}{env:Env}{H:P0}{a:Act}(h:St C N M G w env H a){dst:Option Nat}(hd:∀ d,dst=some d→d < N)(elem e:TypeId) :
  St C N M (gB G H.length w) (w.alloc (.cells #[.pointer none,.slice none 0 0] elem)) (put env dst (.ref H.length 0)) (H++[.bld (H.length+1) elem,.buf e []]) (a.put dst (.pointer (some ⟨w.heap.size,0,none⟩))):=by
 have hmono:∀ {x:A} {v:Value},V0 M G x v→V0 M (gB G H.length w) x v:=fun hr=>hr.mono (fun _ _ e=>e) fun o hn=>Fy (h.hrel.lt hr hn)
 obtain ⟨h1,h2,h3⟩:=Ol (fun t=>hmono (h.env t)) h.size hd (x:=.ref H.length 0) (v:=.pointer (some ⟨w.heap.size,0,none⟩)) (.ref U1m)
 have hnone:∀ off sp,M ⟨w.heap.size,off,sp⟩=none:=fun off sp=>by
  cases hM:M ⟨w.heap.size,off,sp⟩ with
  | none=>rfl
  | some v=>have:=h.good.lt hM; simp at this
 refine ⟨h.good.alloc _,h.gl.ext h.hrel (Dk Z3 _ _ _) (fun _ h=>h.elim),⟨fun o x ho=>?_,fun o o' x x' b ho ho' hb hb'=>?_,fun o ho=>?_⟩,h1,h2,h3.trans h.defers⟩
 ·rcases F1r ho with ⟨hlt,ho⟩ | ⟨rfl,rfl⟩ | ⟨rfl,rfl⟩
  ·rw [Fy hlt]
   have hob:=h.hrel.obj o x ho
   have hk:Lg M G (w.alloc (.cells #[.pointer none,.slice none 0 0] elem)) x (G o):=hob.keep (fun _ _ e=>e) (fun b hb=>heap_alloc_old w _ b (Qf hob hb)) (fun _ _ _ _ e=>e)
   cases x with
   | dead=>trivial
   | row cells e=>
    obtain ⟨b,us,g1,g2,g3,g4,g5,g6⟩:=hk
    exact ⟨b,us,g1,g2,g3,g4,fun i y v a c=>hmono (g5 i y v a c),g6⟩
   | tok e sz=>exact hk
   | map es=>
    obtain ⟨b,ms,cl,g1,g2,g3,g4,g5⟩:=hk
    exact ⟨b,ms,cl,g1,g2,g3,fun i k cs e a c=>⟨(g4 i k cs e a c).1,hmono (g4 i k cs e a c).2⟩,g5⟩
   | bld o' e=>
    obtain ⟨b,v0,g1,g2,g3,g4,g5⟩:=hk
    have ho':o' < H.length:=by
     rcases Nat.lt_or_ge o' H.length with q | q
     ·exact q
     ·exact absurd (h.hrel.fresh _ q) g4
    exact ⟨b,v0,g1,by rw [Fy ho']; exact g2,g3,by rw [Fy ho']; exact g4,g5⟩
   | buf e sz=>exact hk
  ·rw [U1m]
   exact ⟨w.heap.size,_,rfl,by rw [O1i]; exact heap_alloc_new w _,.inl rfl,by rw [O1i]; simp,hnone⟩
  ·rw [O1i]
   exact ⟨Nat.zero_le _,.inl ⟨rfl,rfl⟩⟩
 ·have key:∀ (o:Nat) x b,(H++[Ob.bld (H.length+1) elem,.buf e []])[o]?=some x→blk x (gB G H.length w o)=some b→(o < H.length∧H[o]?=some x∧blk x (G o)=some b∧b < w.heap.size)∨(o=H.length∧b=w.heap.size):=by
   intro o x b ho hb
   rcases F1r ho with ⟨hlt,ho⟩ | ⟨rfl,rfl⟩ | ⟨rfl,rfl⟩
   ·rw [Fy hlt] at hb
    exact .inl ⟨hlt,ho,hb,Qf (h.hrel.obj o x ho) hb⟩
   ·rw [U1m] at hb
    simp [blk] at hb
    exact .inr ⟨rfl,hb.symm⟩
   ·rw [O1i] at hb
    simp [blk] at hb
  rcases key o x b ho hb with ⟨q1,q2,q3,q4⟩ | ⟨q1,q2⟩ <;> rcases key o' x' b ho' hb' with ⟨p1,p2,p3,p4⟩ | ⟨p1,p2⟩
  ·exact h.hrel.apart o o' x x' b q2 p2 q3 p3
  ·omega
  ·omega
  ·omega
 ·simp at ho
  rw [D1u (by omega)]
  exact h.hrel.fresh o (by omega)
theorem Y1.newBld {fr:Fr}{M:Mem}{G:Nat→Value}{w:World}{H:P0}(h:Y1 fr M G w H)(elem e:TypeId) :
  Y1 fr M (gB G H.length w) (w.alloc (.cells #[.pointer none,.slice none 0 0] elem)) (H++[.bld (H.length+1) elem,.buf e []]):=by
 refine ⟨h.ext.trans (Dk Z3 _ _ _) (fun _ h=>h.elim),fun b hb=>?_,by simp; have:=h.len; omega,fun o x ho ht=>?_,fun o x y ho ht hy=>?_⟩
 ·obtain ⟨o,x,ho,hx⟩:=hb
  rcases F1r ho with ⟨hlt,ho⟩ | ⟨rfl,rfl⟩ | ⟨rfl,rfl⟩
  ·rw [Fy hlt] at hx
   exact h.own b ⟨o,x,ho,hx⟩
  ·rw [U1m] at hx
   simp [blk] at hx
   subst hx
   exact .inr h.ext.size
  ·rw [O1i] at hx
   simp [blk] at hx
 ·have hlt:o < H.length:=Nat.lt_of_lt_of_le (List.getElem?_eq_some_iff.1 ho).1 h.len
  rw [Fy hlt]
  exact h.keep o x ho ht
 ·have hlt:o < H.length:=Nat.lt_of_lt_of_le (List.getElem?_eq_some_iff.1 ho).1 h.len
  rw [List.getElem?_append_left hlt] at hy
  exact h.kind o x y ho ht hy
theorem K0.newB {F:Fx}{L l:List Oper}{o o2:Oper}{env:Env}{H:P0}{Q:Env→P0→Prop}{t t2:Nat}{d:Nat}(e:TypeId)(hw:N1 L env o=some true)(ho:o.op = .build t #[])(hd1:o.dst=some d)
  (hb:∀ w,(Instr.build t #[]).run F.C.P w = .ok (.agg #[.pointer none,.slice none 0 0]) w)
  (hw2:N1 L (put env (some d) (.agg [.d (.nilv .ptr),.d (.sl [])])) o2=some true) (ho2:o2.op = .box t2 (.tmp d))
  (k:K0 F L l (put (put env (some d) (.agg [.d (.nilv .ptr),.d (.sl [])])) o2.dst (.ref H.length 0)) (H++[.bld (H.length+1) t2,.buf e []]) Q):K0 F L (o::o2::l) env H Q:=by
 intro fr M G w a Qw hK hd hs hsi hq
 have hz:V0 M G (.agg [.d (.nilv .ptr),.d (.sl [])]) (.agg #[.pointer none,.slice none 0 0]):=by
  refine .agg rfl (fun i v hv=>?_) (fun i x v hx hv=>?_)
  ·match i,hv with
   | 0,hv=>simp at hv; subst hv; rfl
   | 1,hv=>simp at hv; subst hv; rfl
   | i+2,hv=>simp at hv
  ·match i,hx,hv with
   | 0,hx,hv=>simp at hx hv; subst hx; subst hv; exact .d .nilptr
   | 1,hx,hv=>simp at hx hv; subst hx; subst hv; exact .d .slnil
   | i+2,hx,hv=>simp at hx
 refine wpList_step fun K hKK=>?_
 rw [Ld hs hw]
 simp only [if_true]
 have hdo:=hd o List.mem_cons_self
 have hr:(execOp a.eval o).run F.C.P w = .ok (.value (.agg #[.pointer none,.slice none 0 0])) w:=by
  unfold execOp
  simp [ho,hb w]
 unfold Oper.wp
 rw [hr]
 obtain ⟨p1,p2,p3⟩:=Ol hs.env hs.size (C4 hdo) hz
 have hs1:St F.C F.N M G w (put env o.dst (.agg [.d (.nilv .ptr),.d (.sl [])])) H (a.put o.dst (.agg #[.pointer none,.slice none 0 0])):=⟨hs.good,hs.gl,hs.hrel,p1,p2,p3.trans hs.defers⟩
 refine hKK _ _ ?_
 rw [hd1] at hs1 ⊢
 refine wpList_step fun K2 hKK2=>?_
 rw [Ld hs1 hw2]
 simp only [if_true]
 have hlt:d < F.N:=C4 hdo d hd1
 have hev:(a.put (some d) (.agg #[.pointer none,.slice none 0 0])).eval (.tmp d) = .agg #[.pointer none,.slice none 0 0]:=by
  have:=hs.size
  simp [Act.put,Act.eval,this,hlt]
 have hr2:(execOp (a.put (some d) (.agg #[.pointer none,.slice none 0 0])).eval o2).run F.C.P w = .ok (.value (.pointer (some ⟨w.heap.size,0,none⟩))) (w.alloc (.cells #[.pointer none,.slice none 0 0] t2)):=by
  unfold execOp
  simp only [ho2,hev]
  simp [Instr.box,newVar,newRow]
  rfl
 unfold Oper.wp
 rw [hr2]
 exact hKK2 _ _ (k fr _ _ _ _ Qw hK (fun o ho=>hd o (List.mem_cons_of_mem _ (List.mem_cons_of_mem _ ho))) (hs1.newBld (C4 (hd o2 (by simp))) t2 e) (hsi.newBld t2 e) hq)
end Go.Am

namespace Go.Am
theorem Z8.le {C:Cx}{o:Oper}{env:Env}{H:P0}{x y:A}(h:Z8 C o env H x)(hle:∀ M G v,V0 M G x v→V0 M G y v):Z8 C o env H y:=
 fun M G w a next Qw h1 h2 h3 h4 h5=>h M G w a next Qw h1 h2 h3 h4 fun v M' w' k1 k2 k3=>h5 v M' w' (hle M' G v k1) k2 k3
def P1i (C:Cx)(L:List Oper)(o:Oper)(env:Env):Option (Option Nat×List D×Int×Nat×Nat):=
 match N1 L env o,o.op with
 | some true,.indexAddr t x y=>match X2 C.T t,ev C.GL env y,ev C.GL env x,Md o with
  | some i,.d (.int _ n),.ptr cs,some d=>match i.u with
   | .arr len e=>match X2 C.T e with | some j=>bif Nat.ble 2 len then some (d,cs,n,len,j.size) else none | none=>none
   | _=>none
  | _,_,_,_=>none
 | _,_=>none
theorem B1p {C:Cx}(hC:A3 C){L:List Oper}{o:Oper}{env:Env}{H:P0}{d:Option Nat}{cs:List D}{n:Int}{len sz:Nat}(h:P1i C L o env=some (d,cs,n,len,sz)){k:Nat}{r:List D}(hn:n=k)(hk:k < len)
  (hr:∀ (j:Nat) x,r[j]?=some x→cs[k * sz+j]?=some x):N1 L env o=some true∧Md o=some d∧Z8 C o env H (.ptr r):=by
 unfold P1i at h
 split at h
 ·rename_i t x y hw ho
  split at h
  ·rename_i i kd m cs' d' ht hy hx hd
   split at h
   ·rename_i len' e hu
    split at h
    ·rename_i j he
     rw [cond_eq_ite] at h
     split at h
     ·rename_i hb
      simp only [Option.some.injEq,Prod.mk.injEq] at h
      obtain ⟨rfl,rfl,rfl,rfl,rfl⟩:=h
      refine ⟨hw,hd,?_⟩
      have hop:opA C.T C.GL o.op env H=some (0≤m∧m < (len':Int),.ptr (cs'.drop (m.toNat * j.size))):=by
       rw [ho]
       simp only [opA,Zw,ht,hy,hx,hu,W1h,he,Wx,hb,cond_true]
      refine (Sq hC hop (by omega)).le fun M G v hv=>?_
      cases hv
      rename_i a K1 hs h1 h2
      have e1:m.toNat=k:=by omega
      have key:∀ (i:Nat) z,r[i]?=some z→(cs'.drop (m.toNat * j.size))[i]?=some z:=fun i z hz=>by
       rw [List.getElem?_drop,e1]; exact hr i z hz
      exact .ptr K1 hs (fun i z hz=>h1 i z (key i z hz)) fun i z hz=>h2 i z (key i z hz)
     ·cases h
    ·cases h
   ·cases h
  ·cases h
 ·cases h
theorem AQ.ig {C:Cx}(hC:A3 C){L l:List Oper}{o:Oper}{env:Env}{H:P0}{Q:Env→Prop}{d:Option Nat}{cs:List D}{n:Int}{len sz:Nat}(h:P1i C L o env=some (d,cs,n,len,sz)){k:Nat}{r:List D}(hn:n=k)(hk:k < len)
  (hr:∀ (j:Nat) x,r[j]?=some x→cs[k * sz+j]?=some x) (kk:AQ C L l (put env d (.ptr r)) H Q):AQ C L (o::l) env H Q:=by
 obtain ⟨h1,h2,h3⟩:=B1p (H:=H) hC h hn hk hr
 exact .y _ h2 h1 h3 kk
theorem M1l {α:Type}{f:α→D}{l:List α}{n:Int}{x:α}(h:idx l n=some x):n.toNat < l.length∧∀ (j:Nat) y,[f x][j]?=some y→(l.map f)[n.toNat * 1+j]?=some y:=by
 unfold idx at h
 split at h
 ·refine ⟨(List.getElem?_eq_some_iff.1 h).1,fun j y hj=>?_⟩
  match j,hj with
  | 0,hj=>cases hj; simp [h]
  | j+1,hj=>simp at hj
 ·cases h
end Go.Am

namespace Go.Am
theorem okC {C:Cx}[h:Nonempty (A3 C)]:A3 C:=h.elim id
section
variable {C:Cx}{N:FN}{K:Nat}{pn:Value→Env→P0→Prop}{es:Fr→Exit→Act→World→Prop}{L l:List Oper}{o:Oper}{env:Env}{H:P0}
theorem n' {Q:Env→P0→Prop}(h:Q env H):K0 ⟨C,N,K,pn,es⟩ L [] env H Q:=K0.nil h
theorem Qn' {Q:Env→Prop}(h:Q env):AQ C L [] env H Q:=h
theorem an' {cnd:Cnd}{R:Env→Cnd→Prop}(h:R env cnd):AG C L [] env cnd H R:=h
end
section
variable {C:Cx}[Nonempty (A3 C)]{N:FN}{K:Nat}{pn:Value→Env→P0→Prop}{es:Fr→Exit→Act→World→Prop}{L l:List Oper}{o:Oper}{env:Env}{H:P0}
theorem q' {Q:Env→P0→Prop}{d:Option Nat}{x:A}(h:Ti C L o env H=some (d,True,x))(k:K0 ⟨C,N,K,pn,es⟩ L l (put env d x) H Q):K0 ⟨C,N,K,pn,es⟩ L (o::l) env H Q:=K0.q okC h trivial k
theorem qc' {Q:Env→P0→Prop}{d:Option Nat}{c:Prop}{x:A}(h:Ti C L o env H=some (d,c,x))(hc:c)(k:K0 ⟨C,N,K,pn,es⟩ L l (put env d x) H Q):K0 ⟨C,N,K,pn,es⟩ L (o::l) env H Q:=K0.q okC h hc k
theorem qe' {Q:Env→P0→Prop}{d:Option Nat}{c:Prop}{x y:A}(h:Ti C L o env H=some (d,c,x))(hc:c)(e:x=y)(k:K0 ⟨C,N,K,pn,es⟩ L l (put env d y) H Q):K0 ⟨C,N,K,pn,es⟩ L (o::l) env H Q:=K0.qe okC h hc e k
theorem i' {Q:Env→P0→Prop}{d:Option Nat}{rows:List (List D)}{n:Int}{sz:Nat}(h:T10 C L o env=some (d,rows,n,sz)){k:Nat}{r:List D}(hn:n=k)(hk:rows[k]?=some r)(hsz:Nat.beq r.length sz=true)
  (kk:K0 ⟨C,N,K,pn,es⟩ L l (put env d (.ptr r)) H Q):K0 ⟨C,N,K,pn,es⟩ L (o::l) env H Q:=K0.i okC h hn hk hsz kk
theorem x' {Q:Env→P0→Prop}{d:Option Nat}{s:List UInt8}{n:Int}(h:K14 C L o env=some (d,s,n)){k:Nat}{b:UInt8}(hn:n=k)(hk:s[k]?=some b)(kk:K0 ⟨C,N,K,pn,es⟩ L l (put env d (.d (.int .u8 b.toNat))) H Q):K0 ⟨C,N,K,pn,es⟩ L (o::l) env H Q:=K0.x okC h hn hk kk
theorem Q' {Q:Env→Prop}{d:Option Nat}{x:A}(h:Ti C L o env H=some (d,True,x))(k:AQ C L l (put env d x) H Q):AQ C L (o::l) env H Q:=AQ.q okC h trivial k
variable {cnd:Cnd}{R:Env→Cnd→Prop}
theorem a0' {d:Option Nat}{W:Option Bool}{x:A}(h:Ku C L o env cnd H=some (d,W,True,True,x))(k:AG C L l (put env d x) (Om cnd d W) H R):AG C L (o::l) env cnd H R:=AG.q okC h (fun _=>⟨trivial,trivial⟩) k
theorem a1' {d:Option Nat}{w:Bool}{x:A}(h:Ku C L o env cnd H=some (d,some w,(w=true∧True),True,x))(k:AG C L l (put env d x) (Om cnd d (some w)) H R):AG C L (o::l) env cnd H R:=AG.q okC h (fun h=>⟨⟨h,trivial⟩,trivial⟩) k
theorem a2' {d:Option Nat}{w:Bool}{x:A}(h:Ku C L o env cnd H=some (d,some w,(w=true∧w=true∧True),True,x))(k:AG C L l (put env d x) (Om cnd d (some w)) H R):AG C L (o::l) env cnd H R:=AG.q okC h (fun h=>⟨⟨h,h,trivial⟩,trivial⟩) k
theorem ag' {d:Option Nat}{W:Option Bool}{S c:Prop}{x:A}(h:Ku C L o env cnd H=some (d,W,S,c,x))(hs:holds W→S∧c)(k:AG C L l (put env d x) (Om cnd d W) H R):AG C L (o::l) env cnd H R:=AG.q okC h hs k
theorem pa' {d:Option Nat}{t xa xb:Bool}(h:Q12 C L o env cnd=some ⟨d,none,True,t,(wb t true=true∧True),True,xa,xb⟩)(k:AG C L l (put env d (.d (.bool (bif t then xa else xb)))) (Om cnd d none) H R):AG C L (o::l) env cnd H R:=
 AG.p okC h (fun _=>⟨trivial,fun h=>⟨N1v h,trivial⟩,fun _=>trivial⟩) k
theorem po' {d:Option Nat}{t xa xb:Bool}(h:Q12 C L o env cnd=some ⟨d,none,True,t,True,(wb t false=true∧True),xa,xb⟩)(k:AG C L l (put env d (.d (.bool (bif t then xa else xb)))) (Om cnd d none) H R):AG C L (o::l) env cnd H R:=
 AG.p okC h (fun _=>⟨trivial,fun _=>trivial,fun h=>⟨M1v h,trivial⟩⟩) k
theorem pA' {d:Option Nat}{w t xa xb:Bool}(h:Q12 C L o env cnd=some ⟨d,some w,(w=true∧True),t,((w&&wb t true)=true∧True),True,xa,xb⟩)(k:AG C L l (put env d (.d (.bool (bif t then xa else xb)))) (Om cnd d (some w)) H R):AG C L (o::l) env cnd H R:=
 AG.p okC h (fun hg=>⟨⟨hg,trivial⟩,fun h=>⟨C1v hg h,trivial⟩,fun _=>trivial⟩) k
theorem pO' {d:Option Nat}{w t xa xb:Bool}(h:Q12 C L o env cnd=some ⟨d,some w,(w=true∧True),t,True,((w&&wb t false)=true∧True),xa,xb⟩)(k:AG C L l (put env d (.d (.bool (bif t then xa else xb)))) (Om cnd d (some w)) H R):AG C L (o::l) env cnd H R:=
 AG.p okC h (fun hg=>⟨⟨hg,trivial⟩,fun _=>trivial,fun h=>⟨B1v hg h,trivial⟩⟩) k
end
section
variable {F:Fx}{env:Env}{H:P0}{Q:Po}
theorem s' {id:Nat}{L:List Oper}{b:Code}(hg:Jq L=true)(hd:L.all (Th F.N)=true)(h:K0 F L L env H (Eq (Then F b Q))):AEx F (.seq (.region id L.toArray false) b) env H Q:=.seq (.regionN hg hd h)
theorem sg' {id:Nat}{L:List Oper}{b:Code}(n:Nat)(hd:L.all (Th F.N)=true)(h:AG F.C L (L.take n) env R1m H (fun e c=>K0 F L (L.drop n) (H1i e c) H (Eq (Then F b Q)))):AEx F (.seq (.region id L.toArray false) b) env H Q:=.seq (.regionG n hd h)
theorem S' {a b:Code}(h:AEx F a env H (Then F b Q)):AEx F (.seq a b) env H Q:=.seq h
theorem R' {id:Nat}{L:List Oper}(hg:Jq L=true)(hd:L.all (Th F.N)=true)(h:K0 F L L env H (Eq Q)):AEx F (.region id L.toArray false) env H Q:=.regionN hg hd h
theorem sk' (h:Q .normal env H):AEx F .skip env H Q:=.skip h
theorem bk' {id:Nat}{c:Code}(h:AEx F c env H (F1a id Q)):AEx F (.block id c) env H Q:=.block h
theorem re' (h:Q .ret env H):AEx F .ret env H Q:=.ret h
theorem ex' {id:Nat}(h:Q (.exit id) env H):AEx F (.exit id) env H Q:=.exit h
theorem ci' {c:Operand}{x y:Code}{t:Bool}{α:Type}{A' B':Option α}{r:α}(hc:ev F.C.GL env c = .d (.bool t))(hh:(if t=true then A' else B')=some r)(h1:A'=some r→AEx F x env H Q)(h2:B'=some r→AEx F y env H Q):AEx F (.cond c x y) env H Q:=
 .cond hc (fun hb=>h1 (L1 hb hh)) (fun hb=>h2 (O1v hb hh))
end
def Gy (env:Env):List (Nat×A)→List A
 | []=>[]
 | p::r=>env p.1::Gy env r
def K1:List (Nat×A)→List A
 | []=>[]
 | p::r=>p.2::K1 r
def tkH:P0→P0→P0
 | [],_=>[]
 | _::r,x::H=>x::tkH r H
 | _::_,[]=>[]
def Jt (H:P0):List Nat→List (Option Ob)
 | []=>[]
 | p::r=>nth H p::Jt H r
def J11 (f:Nat→Nat):P0→List (Option Ob)
 | []=>[]
 | x::r=>some (Ir f x)::J11 f r
theorem E1u {k:Nat}{env:Env}:∀ {L:List (Nat×A)},Gy env L=K1 L→D2 k (K1 L)=true→WkE k env L
 | [],_,_=>trivial
 | (t,x)::r,h,hn=>by
  simp only [Gy,K1,List.cons.injEq] at h
  simp only [K1,D2,Bool.and_eq_true] at hn
  exact ⟨⟨by rw [h.1]; exact .rfl,hn.1⟩,E1u h.2 hn.2⟩
theorem V1m {k:Nat}:∀ {H H2:P0},tkH H2 H=H2→H2.all (H1m k)=true→WkH k H H2
 | [],[],_,_=>trivial
 | _::_,[],_,_=>trivial
 | [],y::r,h,_=>by simp [tkH] at h
 | x::H,y::r,h,hn=>by
  simp only [tkH,List.cons.injEq] at h
  simp only [List.all_cons,Bool.and_eq_true] at hn
  obtain ⟨rfl,h⟩:=h
  exact ⟨WkO.same hn.1,V1m h hn.2⟩
def okB (K:Nat)(xs:List A)(H:P0):Bool:=D2 H.length xs&&H.all (H1m H.length)&&Nat.ble K H.length
theorem wk' {K:Nat}{env:Env}{H:P0}{L:List (Nat×A)}{H2:P0}(h1:Gy env L=K1 L)(h2:tkH H2 H=H2)(h3:okB K (K1 L) H2=true):Wk K env H L H2:=by
 simp only [okB,Bool.and_eq_true] at h3
 exact ⟨E1u h1 h3.1.1,V1m h2 h3.1.2,h3.2⟩
theorem lw' {F:Fx}{c:Code}{env:Env}{H:P0}{Q:Po}{L:List (Nat×A)}{H2:P0}(k:Y0 F c (Dl L) H2 Q)(h1:Gy env L=K1 L)(h2:tkH H2 H=H2)(h3:okB F.K (K1 L) H2=true):Y0 F c env H Q:=.wk (wk' h1 h2 h3) k
theorem ew' {F:Fx}{c:Code}{env:Env}{H:P0}{Q:Po}{L:List (Nat×A)}{H2:P0}(k:AEx F c (Dl L) H2 Q)(h1:Gy env L=K1 L)(h2:tkH H2 H=H2)(h3:okB F.K (K1 L) H2=true):AEx F c env H Q:=.wk (wk' h1 h2 h3) k
theorem fw' {F:Fx}{c:Code}{env:Env}{H:P0}{Q:Po}{L:List (Nat×A)}{H2:P0}(k:Y0 F c (Dl L) H2 Q)(h1:Gy env L=K1 L)(h2:tkH H2 H=H2)(h3:okB F.K (K1 L) H2=true):AEx F (.loop c) env H Q:=.ofLoop (.wk (wk' h1 h2 h3) k)
abbrev Ret (H0:P0)(a:A):A→P0→Prop:=fun x H'=>H'=H0∧x=a
theorem rt' {F:Fx}{rs:List ResultVar}{x:A}{env:Env}{H H':P0}(h1:P1e F.C.T rs env H=some x)(h2:tkH H' H=H')(h3:okB F.K [x] H'=true):O1b F rs (Ret H' x) .ret env H:=by
 simp only [okB,D2,Bool.and_eq_true,Bool.and_true] at h3
 exact ⟨x,x,H',h1,.rfl,V1m h2 h3.1.2,h3.1.1,h3.2,rfl,rfl⟩
theorem rn' {F:Fx}{rs:List ResultVar}{x:A}{env:Env}{H H':P0}(h1:P1e F.C.T rs env H=some x)(h2:tkH H' H=H')(h3:okB F.K [x] H'=true):O1b F rs (Ret H' x) .normal env H:=by
 simp only [okB,D2,Bool.and_eq_true,Bool.and_true] at h3
 exact ⟨x,x,H',h1,.rfl,V1m h2 h3.1.2,h3.1.1,h3.2,rfl,rfl⟩
theorem U1e {f:Nat→Nat}{H:P0}:∀ {idx:List Nat} {cH:P0},Jt H idx=J11 f cH→Jr f H idx cH
 | [],[],_=>trivial
 | p::ps,y::ys,h=>by
  simp only [Jt,J11,List.cons.injEq] at h
  exact ⟨h.1,U1e h.2⟩
 | [],_::_,h=>by simp [Jt,J11] at h
 | _::_,[],h=>by simp [Jt,J11] at h
theorem P1v {xs ys:List A}(h:xs=ys):LeL xs ys:=by subst h; exact .refl _
theorem g' {F:Fx}{L l:List Oper}{o:Oper}{env:Env}{H H':P0}{Q:Env→P0→Prop}{d:Option Nat}{g:FuncId}{xs:List A}{x y:A}(idx:List Nat){cargs:List A}{cH cH':P0}
  (hc:N0 F.C g cargs cH (Ret cH' x)) (h:Fk F.C L o env=some (d,g,xs)) (hx:Ui (U4 idx H.length) cargs=xs) (hi:Kr idx H.length=true) (hm:Jt H idx=J11 (U4 idx H.length) cH)
  (hr:frc (ren (U4 idx H.length) x)=some y) (hH:Ql (Rf H idx (U4 idx H.length) (Q5 idx cH) cH')=some H') (k:K0 F L l (put (fun t=>dg (Q5 idx cH) (env t)) d y) H' Q):K0 F L (o::l) env H Q:=
 .g idx h hc (P1v hx) hi (U1e hm) hr hH k
theorem c' {F:Fx}{L l:List Oper}{o:Oper}{env:Env}{H:P0}{Q:Env→P0→Prop}{d:Option Nat}{f:FuncId}{xs:List A}{x:A}(hc:N0 F.C f xs [] (Ret [] x))(h:Fk F.C L o env=some (d,f,xs))(hn:D2 0 xs=true)
  (k:K0 F L l (put env d x) H Q):K0 F L (o::l) env H Q:=.c h hn hc k
theorem Qc' {C:Cx}{L l:List Oper}{o:Oper}{env:Env}{H:P0}{Q:Env→Prop}{d:Option Nat}{f:FuncId}{xs:List A}{x:A}(hc:N0 C f xs [] (Ret [] x))(h:Fk C L o env=some (d,f,xs))(hn:D2 0 xs=true)
  (k:AQ C L l (put env d x) H Q):AQ C L (o::l) env H Q:=.c h hn hc k
theorem bs' {α β:Type}{x:Option α}{f:α→Option β}{r:β}(h:(x>>=f)=some r):∃ a,x=some a∧f a=some r:=bind_some h
theorem oi' {α:Type}{a b:α}(h:some a=some b):a=b:=Option.some.inj h
def Qm:Nat→List Prop
 | 0=>[]
 | k+1=>True::Qm k
def Lr (C:Cx)(L:List Oper)(H:P0):Nat→List Oper→Env→Option (List Oper×Env×List Prop)
 | 0,l,env=>some (l,env,[])
 | _+1,[],_=>none
 | k+1,o::l,env=>match Ti C L o env H with
  | some (d,c,x)=>match Lr C L H k l (put env d x) with
   | some (l',e',cs)=>some (l',e',c::cs)
   | none=>none
  | none=>none
theorem Z1f {C:Cx}{L:List Oper}{H:P0}{k:Nat}{o:Oper}{l l':List Oper}{env env':Env}(h:Lr C L H (k+1) (o::l) env=some (l',env',Qm (k+1))) :
  ∃ d x,Ti C L o env H=some (d,True,x)∧Lr C L H k l (put env d x)=some (l',env',Qm k):=by
 rw [Lr] at h
 split at h
 ·rename_i d c x hs
  split at h
  ·rename_i l2 e2 cs hr
   simp only [Option.some.injEq,Prod.mk.injEq,Qm,List.cons.injEq] at h
   obtain ⟨rfl,rfl,hc,rfl⟩:=h
   subst hc
   exact ⟨d,x,hs,hr⟩
  ·cases h
 ·cases h
theorem Q1i {C:Cx}{L:List Oper}{H:P0}{k:Nat}{l':List Oper}{env:Env}{r:Env×List Prop}(h:Lr C L H (k+1) [] env=some (l',r)):False:=by rw [Lr] at h; cases h
def V1e (C:Cx)(N:Nat)(L:List Oper)(H:P0)(k:Nat)(env:Env):Option (List Oper×Env×List Prop):=bif Jq L&&L.all (Th N) then Lr C L H k L env else none
theorem L1a {C:Cx}{N:Nat}{L:List Oper}{H:P0}{env:Env}{k:Nat}{r:List Oper×Env×List Prop}(h:V1e C N L H k env=some r):Jq L=true∧L.all (Th N)=true∧Lr C L H k L env=some r:=by
 unfold V1e at h
 cases hb:Jq L&&L.all (Th N) with
 | false=>rw [hb] at h; cases h
 | true=>rw [hb] at h; simp only [Bool.and_eq_true] at hb; exact ⟨hb.1,hb.2,h⟩
section
variable {C:Cx}[Nonempty (A3 C)]{N:FN}{K:Nat}{pn:Value→Env→P0→Prop}{es:Fr→Exit→Act→World→Prop}{L l l':List Oper}{env env':Env}{H:P0}
theorem o' (k:Nat){Q:Env→P0→Prop}(h:Lr C L H k l env=some (l',env',Qm k))(n:K0 ⟨C,N,K,pn,es⟩ L l' env' H Q):K0 ⟨C,N,K,pn,es⟩ L l env H Q:=by
 induction k generalizing l env with
 | zero=>rw [Lr] at h; cases h; exact n
 | succ k ih=>cases l with
  | nil=>exact (Q1i h).elim
  | cons o l=>
   obtain ⟨d,x,hs,hr⟩:=Z1f h
   exact q' hs (ih hr)
theorem O' (k:Nat){Q:Env→Prop}(h:Lr C L H k l env=some (l',env',Qm k))(n:AQ C L l' env' H Q):AQ C L l env H Q:=by
 induction k generalizing l env with
 | zero=>rw [Lr] at h; cases h; exact n
 | succ k ih=>cases l with
  | nil=>exact (Q1i h).elim
  | cons o l=>
   obtain ⟨d,x,hs,hr⟩:=Z1f h
   exact Q' hs (ih hr)
theorem e' {Q:Env→P0→Prop}(h:Lr C L H l.length l env=some ([],env',Qm l.length))(n:Q env' H):K0 ⟨C,N,K,pn,es⟩ L l env H Q:=o' _ h (n' n)
theorem E' {Q:Env→Prop}(h:Lr C L H l.length l env=some ([],env',Qm l.length))(n:Q env'):AQ C L l env H Q:=O' _ h (Qn' n)
theorem p' (k:Nat){id:Nat}{b:Code}{Q:Po}(h:V1e C N L H k env=some (l',env',Qm k))(n:K0 ⟨C,N,K,pn,es⟩ L l' env' H (Eq (Then ⟨C,N,K,pn,es⟩ b Q))):AEx ⟨C,N,K,pn,es⟩ (.seq (.region id L.toArray false) b) env H Q:=by
 obtain ⟨h1,h2,h3⟩:=L1a h
 exact s' h1 h2 (o' k h3 n)
theorem t' {id:Nat}{b:Code}{Q:Po}(h:V1e C N L H L.length env=some ([],env',Qm L.length))(n:AEx ⟨C,N,K,pn,es⟩ b env' H Q):AEx ⟨C,N,K,pn,es⟩ (.seq (.region id L.toArray false) b) env H Q:=by
 obtain ⟨h1,h2,h3⟩:=L1a h
 exact s' h1 h2 (e' h3 n)
theorem P' (k:Nat){id:Nat}{Q:Po}(h:V1e C N L H k env=some (l',env',Qm k))(n:K0 ⟨C,N,K,pn,es⟩ L l' env' H (Eq Q)):AEx ⟨C,N,K,pn,es⟩ (.region id L.toArray false) env H Q:=by
 obtain ⟨h1,h2,h3⟩:=L1a h
 exact R' h1 h2 (o' k h3 n)
theorem T' {id:Nat}{Q:Po}(h:V1e C N L H L.length env=some ([],env',Qm L.length))(n:Q .normal env' H):AEx ⟨C,N,K,pn,es⟩ (.region id L.toArray false) env H Q:=by
 obtain ⟨h1,h2,h3⟩:=L1a h
 exact R' h1 h2 (e' h3 n)
def R1i (C:Cx)(L:List Oper)(H:P0):Nat→List Oper→Env→Cnd→Option (List Oper×Env×Cnd×List Prop×List Prop)
 | 0,l,env,cnd=>some (l,env,cnd,[],[])
 | _+1,[],_,_=>none
 | k+1,o::l,env,cnd=>match Ku C L o env cnd H with
  | some (d,W,S,c,x)=>match R1i C L H k l (put env d x) (Om cnd d W) with
   | some (l',e',n',ss,cs)=>some (l',e',n',S::ss,c::cs)
   | none=>none
  | none=>none
theorem G' (k:Nat){cnd cnd':Cnd}{R:Env→Cnd→Prop}(h:R1i C L H k l env cnd=some (l',env',cnd',Qm k,Qm k))(n:AG C L l' env' cnd' H R):AG C L l env cnd H R:=by
 induction k generalizing l env cnd with
 | zero=>rw [R1i] at h; cases h; exact n
 | succ k ih=>cases l with
  | nil=>rw [R1i] at h; cases h
  | cons o l=>
   rw [R1i] at h
   split at h
   ·rename_i d W S c x hs
    split at h
    ·rename_i l2 e2 n2 ss cs hr
     simp only [Option.some.injEq,Prod.mk.injEq,Qm,List.cons.injEq] at h
     obtain ⟨rfl,rfl,rfl,⟨hS,rfl⟩,hc,rfl⟩:=h
     subst hS; subst hc
     exact a0' hs (ih hr)
    ·cases h
   ·cases h
end
def sub (i:Nat)(c:Code):Code:=match i with
 | 0=>sl c
 | 1=>sr c
 | 2=>ca c
 | 3=>cb c
 | 4=>bk c
 | _=>lo c
def kon (F:Fx)(i:Nat)(c:Code)(Q:Po):Po:=match i with
 | 0=>Then F (sr c) Q
 | 4=>match c with
  | .block id _=>F1a id Q
  | _=>Q
 | 5=>N1s F (lo c) Q
 | _=>Q
def pc:Code→List Nat→Code
 | c,[]=>c
 | c,i::p=>pc (sub i c) p
def pk (F:Fx):Code→List Nat→Po→Po
 | _,[],Q=>Q
 | c,i::p,Q=>pk F (sub i c) p (kon F i c Q)
abbrev LM (C:Cx)(n K:Nat)(f:Func)(p:List Nat)(E:List (Nat×A))(H:P0)(R:A→P0→Prop):Prop:=
 Y0 (fx C n K) (lo (pc (P1d f) p)) (Dl E) H (pk (fx C n K) (P1d f) p (O1b (fx C n K) f.results.toList R))
abbrev JM (C:Cx)(n K:Nat)(f:Func)(p:List Nat)(E:List (Nat×A))(H:P0)(R:A→P0→Prop):Prop:=
 AEx (fx C n K) (pc (P1d f) p) (Dl E) H (pk (fx C n K) (P1d f) p (O1b (fx C n K) f.results.toList R))
end Go.Am

namespace Go.Am
open Go.ChangeShapes Go.WideShapes
section
variable {P:Program}{W:World}
theorem Hy:∀ {laid:List (String×DataW Unit)} {ps:List MemPlace},DataW.LaidVars P W laid ps→∀ (i:Nat) n d,laid[i]?=some (n,d)→
  ∃ g t cs fuel p,P.globalNamed n=some g∧(P.globals[g]?).map (·.type)=some t∧W.var? P n=some cs∧DataW.trod (fun _=>()) P W 0 (fun _=>true) false fuel t cs.toList=some (d,p)
 | [],_,_,i,n,d,hi=>by simp at hi
 | (m,e)::r,ps,h,i,n,d,hi=>by
  obtain ⟨g,t,cs,fuel,p,q,h1,h2,h3,h4,h5,_⟩:=h
  cases i with
  | zero=>cases hi; exact ⟨g,t,cs,fuel,p,h1,h2,h3,h4⟩
  | succ i=>exact Hy h5 i n d (by simpa using hi)
theorem A1g {name:String}{g:Nat}{cs:Array Value}(hg:P.globalNamed name=some g)(h:W.var? P name=some cs){i:Nat}{v:Value}(hi:cs[i]?=some v):Pg W ⟨g,i,none⟩=some v:=by
 have:=World.var?_cell hg h i
 unfold Pg
 rw [if_pos rfl,this,hi]
theorem M1k {laid:List (String×DataW Unit)}(h:laidMet P laid W)(i:Nat){name:String}{k:IntKind}{zs:List Int}(hi:laid[i]?=some (name,Lib.tabData k zs)){g:Nat}{t e:TypeId}{n:Nat}
  (hg:P.globalNamed name=some g) (hty:(P.globals[g]?).map (·.type)=some t) (ht:P.underlying t=some (.array n e)) (he:P.underlying e=some (.int k)) (hce:P.cellsOf e=1) (hct:P.cellsOf t=n) :
  Lib.TabIs P W name k zs∧∀ (j:Nat) z,zs[j]?=some z→Pg W ⟨g,j,none⟩=some (.int k z):=by
 obtain ⟨ps,hv,_⟩:=h
 obtain ⟨g',t',cs,fuel,p,h1,h2,h3,h4⟩:=Hy hv i _ _ hi
 obtain rfl:=Option.some.inj (hg.symm.trans h1)
 obtain rfl:=Option.some.inj (hty.symm.trans h2)
 have hc:=Lib.cells_of_tab ht he hce hct h4
 have hT:Lib.TabIs P W name k zs:=by unfold Lib.TabIs; rw [h3,← hc]
 exact ⟨hT,fun j z hz=>A1g hg h3 (by rw [← Array.getElem?_toList,hc,List.getElem?_map,hz]; rfl)⟩
theorem W1m {M:Mem}{w w':World}{name:String}{k:IntKind}{zs:List Int}{g:Nat}(hg:P.globalNamed name=some g)(h0:0 < zs.length)(hM:∀ (j:Nat) z,zs[j]?=some z→M ⟨g,j,none⟩=some (.int k z))
  (hb:∀ b,A1i M w b→w'.heap[b]?=w.heap[b]?) (h:Lib.TabIs P w name k zs):Lib.TabIs P w' name k zs:=by
 unfold Lib.TabIs at h ⊢
 simp only [World.var?,hg,Option.bind_some] at h ⊢
 split at h
 ·rename_i cs t f hc
  have hcs:=Option.some.inj h
  rw [hb g ⟨cs,t,f,hc,by rw [hcs]; simpa using h0,fun i hi=>?_⟩,hc]
  ·exact h
  ·rw [hcs] at hi
   have hi':i < zs.length:=by simpa using hi
   rw [hM i zs[i] (List.getElem?_eq_getElem hi')]
   simp
 ·cases h
def U1b {H:Type}(zs:List (List UInt8)):DataW H:=.agg (zs.map fun z=>.lit (.string z))
theorem N1k {H:Type}{enc:TypeId×Value→H}{base:Nat}{sp:Nat→Bool}{held:Bool}{fuel:Nat}{t:TypeId}{cs:List Value}{x:DataW H×List MemPlace}(ht:P.underlying t=some .string)(h:DataW.trod enc P W base sp held fuel t cs=some x) :
  ∃ z:List UInt8,cs=[.string ⟨z.toArray⟩]∧x.1 = .lit (.string z)∧z.length≤maxLen:=by
 cases fuel with
 | zero=>simp [DataW.trod] at h
 | succ n=>
  unfold DataW.trod at h
  rw [ht] at h
  split at h <;> first | (rename_i heq; cases heq; done) | skip
  all_goals first | (cases h; done) | skip
  rename_i s heq
  split at h
  ·rename_i hc
   simp only [Option.some.injEq] at h
   subst h
   exact ⟨s.data.toList,by simp,rfl,by simpa using hc⟩
  ·cases h
theorem B1h {H:Type}{enc:TypeId×Value→H}{base:Nat}{sp:Nat→Bool}{held:Bool}{fuel:Nat}{t e:TypeId}{n:Nat}{cs:List Value}{zs:List (List UInt8)}{p:List MemPlace}
  (ht:P.underlying t=some (.array n e)) (he:P.underlying e=some .string) (hce:P.cellsOf e=1) (hct:P.cellsOf t=n)
  (h:DataW.trod enc P W base sp held fuel t cs=some (U1b zs,p)):(cs=zs.map fun z=>Value.string ⟨z.toArray⟩)∧∀ z∈zs,z.length≤maxLen:=by
 cases fuel with
 | zero=>simp [DataW.trod] at h
 | succ fuel=>
  simp only [DataW.trod,ht,hce,hct,Nat.mul_one] at h
  split at h
  ·rename_i hl
   obtain ⟨xs,hm,hx⟩:=Option.map_eq_some_iff.1 h
   have hxs:xs.map (·.1)=zs.map fun z=>(DataW.lit (.string z):DataW H):=by
    have:=congrArg Prod.fst hx
    simpa [U1b] using this
   have hxl:xs.length=n:=by simpa using Lib.mapM_length hm
   have hzl:zs.length=n:=by
    have:=congrArg List.length hxs
    simp at this
    omega
   have key:∀ i,i < n→∃ z,zs[i]?=some z∧cs[i]?=some (.string ⟨z.toArray⟩)∧z.length≤maxLen:=fun i hi=>by
    obtain ⟨b,hb,hf⟩:=Lib.mapM_at hm i i (by simp [hi])
    obtain ⟨z,hc,hz,hlen⟩:=N1k he hf
    have h1:cs[i]?=some (.string ⟨z.toArray⟩):=by
     have:=congrArg (·[0]?) hc
     simpa [List.getElem?_take,List.getElem?_drop] using this
    have h2:(xs.map (·.1))[i]?=some (DataW.lit (.string z):DataW H):=by simp [hb,hz]
    rw [hxs] at h2
    simp only [List.getElem?_map,Option.map_eq_some_iff,DataW.lit.injEq,Lit.string.injEq] at h2
    obtain ⟨z',hz',rfl⟩:=h2
    exact ⟨z',hz',h1,hlen⟩
   constructor
   ·apply List.ext_getElem?
    intro i
    by_cases hi:i < n
    ·obtain ⟨z,hz,hc,_⟩:=key i hi
     simp [hc,hz]
    ·rw [List.getElem?_eq_none (by omega),List.getElem?_eq_none (by simp; omega)]
   ·intro z hz
    obtain ⟨i,hi⟩:=List.getElem?_of_mem hz
    obtain ⟨z',hz',_,hlen⟩:=key i (by have:=(List.getElem?_eq_some_iff.1 hi).1; omega)
    rw [hi] at hz'
    cases hz'
    exact hlen
  ·cases h
theorem S1i {laid:List (String×DataW Unit)}(h:laidMet P laid W)(i:Nat){name:String}{zs:List (List UInt8)}(hi:laid[i]?=some (name,U1b zs)){g:Nat}{t e:TypeId}{n:Nat}
  (hg:P.globalNamed name=some g) (hty:(P.globals[g]?).map (·.type)=some t) (ht:P.underlying t=some (.array n e)) (he:P.underlying e=some .string) (hce:P.cellsOf e=1) (hct:P.cellsOf t=n) {G:Nat→Value} :
  V0 (Pg W) G (.ptr (zs.map D.str)) (.pointer (some ⟨g,0,none⟩)):=by
 obtain ⟨ps,hv,_⟩:=h
 obtain ⟨g',t',cs,fuel,p,h1,h2,h3,h4⟩:=Hy hv i _ _ hi
 obtain rfl:=Option.some.inj (hg.symm.trans h1)
 obtain rfl:=Option.some.inj (hty.symm.trans h2)
 obtain ⟨hc,hz⟩:=B1h ht he hce hct h4
 refine .ptr (fun j=>.string ⟨(zs.getD j []).toArray⟩) rfl (fun j x hx=>?_) (fun j x hx=>?_)
 ·rw [List.getElem?_map] at hx
  cases hj:zs[j]? with
  | none=>rw [hj] at hx; cases hx
  | some z=>
   rw [Kd,Nat.zero_add]
   exact A1g hg h3 (by rw [← Array.getElem?_toList,hc,List.getElem?_map,hj]; simp [List.getD,hj])
 ·rw [List.getElem?_map] at hx
  cases hj:zs[j]? with
  | none=>rw [hj] at hx; cases hx
  | some z=>
   rw [hj] at hx
   cases hx
   have e:zs.getD j []=z:=by simp [List.getD,hj]
   rw [e]
   exact .str (hz z (List.mem_of_getElem? hj))
end
end Go.Am

namespace Go.Am
end Go.Am

namespace Go.Am
end Go.Am

namespace Go.Am
def L18 (F:Fx)(L:List Oper)(o:Oper)(env:Env)(H:P0)(x:A)(H':P0):Prop:=
 ∀ env' K,(∀ t∈Pe L o,env' t=env t)→∀ Q:Env→P0→Prop,Q (put env' o.dst x) H'→K0 ⟨F.C,F.N,K,F1m,A1d⟩ L [o] env' H Q
def Lu (ps:List Nat):Nat→P0→P0
 | _,[]=>[]
 | n,x::r=>(bif ps.contains n then .dead else x)::Lu ps (n+1) r
def H5 (ps:List Nat)(H:P0):P0:=Lu ps 0 H
theorem Q1d {ps:List Nat}:∀ {H:P0} {k n:Nat},(Lu ps k H)[n]?=(H[n]?).map fun x=>bif ps.contains (k+n) then Ob.dead else x
 | [],k,n=>by simp [Lu]
 | x::r,k,0=>by simp [Lu]
 | x::r,k,n+1=>by
  simp only [Lu,List.getElem?_cons_succ]
  rw [Q1d,show k+1+n=k+(n+1) by omega]
theorem Rm {ps:List Nat}{H:P0}{n:Nat}:(H5 ps H)[n]?=(H[n]?).map fun x=>bif ps.contains n then Ob.dead else x:=by
 unfold H5; rw [Q1d,Nat.zero_add]
theorem Hi {ps:List Nat}{H:P0}:(H5 ps H).length=H.length:=by
 have key:∀ (H:P0) (k:Nat),(Lu ps k H).length=H.length:=by
  intro H
  induction H with
  | nil=>intro k; rfl
  | cons x r ih=>intro k; simp only [Lu,List.length_cons,ih]
 exact key H 0
theorem T1i {H:P0}:H5 [] H=H:=by
 apply List.ext_getElem?
 intro n
 rw [Rm]
 cases H[n]? <;> simp
theorem W1e {GL:GT}{env env':Env}{o:Oper}(h:∀ y∈o.op.operands,ev GL env' y=ev GL env y):Ij GL env' o=Ij GL env o:=by
 unfold Ij
 split
 ·rename_i fo as ts ho
  rw [ho] at h
  rw [h fo (by simp [Op.operands,Call.operands])]
  have:as.toList.map (ev GL env')=as.toList.map (ev GL env):=List.map_congr_left fun y hy=>h y (by simp only [Op.operands,Call.operands,Array.mem_append]; exact .inr (by simpa using hy))
  rw [this]
 ·rfl
theorem O1k {C:Cx}{L:List Oper}{env env':Env}{o:Oper}(h:∀ t∈Pe L o,env' t=env t):Fk C L o env'=Fk C L o env:=by
 unfold Fk
 rw [Ov h,W1e fun y hy=>H14 fun t ht=>h t (by
  subst ht
  simp only [Pe,List.mem_append,List.mem_filterMap]
  exact .inl ⟨.tmp t,by simpa using hy,rfl⟩)]
theorem Mu:∀ l:List A,Mm l=some l
 | []=>rfl
 | x::r=>by simp only [Mm,Mu r]
theorem B1g:∀ l:List D,P1b l=some l
 | []=>rfl
 | x::r=>by simp only [P1b,B1g r]
theorem G1r (x:A):frc x=some x:=by
 cases x with
 | d y=>cases y <;> rfl
 | ptr cs=>simp only [frc,B1g]
 | clo f cs=>simp only [frc,Mu]
 | bnd f cs=>simp only [frc,Mu]
 | agg cs=>simp only [frc,Mu]
 | tup cs=>simp only [frc,Mu]
 | _=>rfl
theorem C1g:∀ l:List A,T1b l=some l
 | []=>rfl
 | x::r=>by simp only [T1b,G1r,C1g r]
theorem D1g:∀ H:P0,Ql H=some H
 | []=>rfl
 | x::r=>by
  have ih:=D1g r
  cases x <;> simp only [Ql,C1g,ih]
theorem L18.g {F:Fx}{L:List Oper}{o:Oper}{env:Env}{H H':P0}{d:Option Nat}{g:FuncId}{xs:List A}{x y:A}(idx:List Nat){cargs:List A}{cH cH':P0}{un:List Nat}
  (hc:N0 F.C g cargs cH (Ret cH' x)) (h:Fk F.C L o env=some (d,g,xs)) (hx:Ui (U4 idx H.length) cargs=xs) (hi:Kr idx H.length=true) (hm:Jt H idx=J11 (U4 idx H.length) cH)
  (ht:Q5 idx cH=[]) (hr:frc (ren (U4 idx H.length) x)=some y) (hH:Ql (Rf H idx (U4 idx H.length) (Q5 idx cH) cH')=some H')
  (hun:(idx.all (fun p=>!un.contains p)&&un.all (fun p=>Nat.blt p H.length)&&Nat.ble idx.length cH'.length)=true) :
  ∀ ps:List Nat,(∀ p∈ps,p∈un)→L18 F L o env (H5 ps H) y (H5 ps H'):=by
 simp only [Bool.and_eq_true,List.all_eq_true] at hun
 obtain ⟨⟨u1,u2⟩,u3⟩:=hun
 have u3:=Nat.le_of_ble_eq_true u3
 intro ps hps env' K he Q hq
 have h':=h
 rw [← O1k he] at h'
 have hd:=(Nm h).2.2
 have hout:∀ p∈idx,ps.contains p=false:=fun p hp=>by
  have:=u1 p hp
  cases hb:ps.contains p with
  | false=>rfl
  | true=>
   have h1:=hps p (by simpa using hb)
   have h2:un.contains p=true:=by simpa using h1
   rw [h2] at this; cases this
 have hsel:∀ l:List Nat,(∀ p∈l,p∈idx)→Jt (H5 ps H) l=Jt H l:=by
  intro l
  induction l with
  | nil=>intro _; rfl
  | cons p r ih=>
   intro hl
   simp only [Jt]
   rw [ih fun q hq=>hl q (List.mem_cons_of_mem _ hq),N3,N3,Rm]
   have:=hout p (hl p List.mem_cons_self)
   cases H[p]? with
   | none=>rfl
   | some z=>simp only [Option.map_some,this,cond_false]
 have hmg:Rf (H5 ps H) idx (U4 idx H.length) (Q5 idx cH) cH'=H5 ps (Rf H idx (U4 idx H.length) (Q5 idx cH) cH'):=by
  apply List.ext_getElem?
  intro n
  rw [I14 u3,Rm,Rm,I14 u3,Hi]
  by_cases hn:n < H.length
  ·rw [if_pos hn,if_pos hn]
   cases hf:fnd idx n with
   | none=>
    simp only
    rw [ht]
    cases H[n]? with
    | none=>rfl
    | some z=>
     simp only [Option.map_some]
     cases ps.contains n <;> simp only [cond_true,cond_false,dgO]
   | some i=>
    simp only
    have hin:n∈idx:=List.mem_of_getElem? (Vn hf)
    cases cH'[i]? with
    | none=>rfl
    | some z=>simp only [Option.map_some,hout n hin,cond_false]
  ·rw [if_neg hn,if_neg hn]
   have:ps.contains n=false:=by
    cases hb:ps.contains n with
    | false=>rfl
    | true=>
     have h1:=hps n (by simpa using hb)
     have:=Nat.le_of_ble_eq_true (u2 n h1)
     exact absurd this hn
   cases cH'[idx.length+(n - H.length)]? with
   | none=>rfl
   | some z=>simp only [Option.map_some,this,cond_false]
 have hHe:=Vq hH
 refine g' idx hc h' (by rw [Hi]; exact hx) (by rw [Hi]; exact hi) (by rw [Hi,hsel idx fun _ h=>h]; exact hm) (by rw [Hi]; exact hr) (H':=H5 ps H') ?_ (K0.nil ?_)
 ·rw [Hi,hmg,← hHe]
  exact D1g _
 ·rw [show (fun t=>dg (Q5 idx cH) (env' t))=env' from by funext t; rw [ht,S1o]]
  rw [← hd]
  exact hq
def loN (L:List Oper)(ls:List Nat)(j:Nat):Nat:=(ls.filter fun l=>Nj L L.length j l).length
def hiN (L:List Oper)(ls:List Nat)(j:Nat):Nat:=(ls.filter fun l=>!Nj L L.length l j).length
def Wn:List (Nat×Nat)→Nat→Option Nat
 | [],_=>none
 | q::r,j=>bif Nat.beq q.1 j then some q.2 else Wn r j
def unw (L:List Oper):List (Nat×Nat)→Nat→List Nat
 | [],_=>[]
 | q::r,j=>bif Nj L L.length j q.1 then unw L r j else q.2::unw L r j
def U1i (F:Fx)(L:List Oper)(o:Oper)(env:Env)(t:TypeId)(cs:List A):Prop:=
 ∀ env' H M G w (a:Act),(∀ u∈Pe L o,env' u=env u)→St F.C F.N M G w env' H a→∃ vs,Xk M G cs vs∧(execOp a.eval o).run F.C.P w = .ok (.value (.pointer (some ⟨w.heap.size,0,none⟩))) (w.alloc (.cells vs t))
def AS (F:Fx)(L:List Oper)(ls:List Nat)(fs:List (Nat×Nat))(Hs:List P0):Nat→Nat→List Oper→Env→(Env→Prop)→Prop
 | _,_,[],env,Q=>Q env
 | j,i,o::r,env,Q=>
  (∃ d x,o.dst=d∧ls.contains j=false∧Wn fs j=none∧(∀ H∈Hs.drop (loN L ls j),∀ ps:List Nat,(∀ p∈ps,p∈unw L fs j)→U10 F.C L o env (H5 ps H) x)∧AS F L ls fs Hs (j+1) i r (put env d x) Q)∨
  (∃ x H H',nth ls i=some j∧Wn fs j=none∧N1 L env o=some true∧nth Hs i=some H∧nth Hs (i+1)=some H'∧(∀ ps:List Nat,(∀ p∈ps,p∈unw L fs j)→L18 F L o env (H5 ps H) x (H5 ps H'))∧
   AS F L ls fs Hs (j+1) (i+1) r (put env o.dst x) Q)∨
  (∃ t cs p,Wn fs j=some p∧ls.contains j=false∧N1 L env o=some true∧U1i F L o env t cs∧(∀ H∈Hs.take (hiN L ls j+1),nth H p=some (.row cs t))∧AS F L ls fs Hs (j+1) i r (put env o.dst (.ref p 0)) Q)
def V1i (L:List Oper)(ls:List Nat)(n:Nat):Bool:=
 (List.range ls.length).all fun i=>(match nth ls i with | some j=>Nat.blt j n | none=>true)&&(List.range i).all fun k=>match nth ls i,nth ls k with | some j,some l=>Nat.blt l j&&Nj L L.length j l | _,_=>true
theorem P1k {L:List Oper}{ls:List Nat}{n:Nat}(h:V1i L ls n=true):(∀ l∈ls,l < n)∧∀ (s k j l:Nat),ls[s]?=some j→ls[k]?=some l→k < s→l < j∧Nj L L.length j l=true:=by
 unfold V1i at h
 refine ⟨fun l hl=>?_,fun s k j l hs hk hlt=>?_⟩
 ·obtain ⟨i,hi⟩:=List.getElem?_of_mem hl
  have h1:=List.all_eq_true.1 h i (List.mem_range.2 (List.getElem?_eq_some_iff.1 hi).1)
  simp only [Bool.and_eq_true,N3,hi] at h1
  exact Nat.le_of_ble_eq_true h1.1
 ·have h1:=List.all_eq_true.1 h s (List.mem_range.2 (List.getElem?_eq_some_iff.1 hs).1)
  simp only [Bool.and_eq_true] at h1
  have h2:=List.all_eq_true.1 h1.2 k (List.mem_range.2 hlt)
  simp only [N3,hs,hk,Bool.and_eq_true] at h2
  exact ⟨Nat.le_of_ble_eq_true h2.1,h2.2⟩
def W6 (ls:List Nat)(listed:Array Bool):Nat:=(ls.filter fun l=>listed.getD l false).length
theorem W1i {ls:List Nat}{listed:Array Bool}(h:∀ l∈ls,listed.getD l false=true):W6 ls listed=ls.length:=by
 unfold W6
 rw [List.filter_eq_self.2 h]
theorem C1p {ls:List Nat}{listed:Array Bool}(h:∀ l,listed.getD l false=false):W6 ls listed=0:=by
 unfold W6
 rw [List.filter_eq_nil_iff.2 fun l _=>by rw [h l]; simp]
 rfl
theorem M18 {ls:List Nat}{listed:Array Bool}{j:Nat}(h:j ∉ ls):W6 ls (listed.setIfInBounds j true)=W6 ls listed:=by
 unfold W6
 congr 1
 refine List.filter_congr fun l hl=>?_
 exact getD_set_ne false (fun e=>h (by rw [e]; exact hl))
theorem N1l:∀ {ls:List Nat} {listed:Array Bool} {s j:Nat},ls[s]?=some j→(∀ (k l:Nat),k < s→ls[k]?=some l→listed.getD l false=true)→(∀ (k l:Nat),s≤k→ls[k]?=some l→listed.getD l false=false)→W6 ls listed=s
 | [],_,s,j,h,_,_=>by simp at h
 | x::r,listed,0,j,h,h1,h2=>by
  unfold W6
  rw [List.filter_eq_nil_iff.2 fun l hl=>by
   obtain ⟨k,hk⟩:=List.getElem?_of_mem hl
   rw [h2 k l (Nat.zero_le _) hk]; simp]
  rfl
 | x::r,listed,s+1,j,h,h1,h2=>by
  have ih:=N1l (ls:=r) (listed:=listed) (s:=s) (j:=j) (by simpa using h) (fun k l hk hl=>h1 (k+1) l (by omega) (by simpa using hl)) (fun k l hk hl=>h2 (k+1) l (by omega) (by simpa using hl))
  unfold W6 at ih ⊢
  have hx:=h1 0 x (by omega) rfl
  rw [List.filter_cons,if_pos hx,List.length_cons,ih]
theorem X1i:∀ {ls:List Nat} {listed:Array Bool} {s j:Nat},(∀ (a b x y:Nat),ls[a]?=some x→ls[b]?=some y→a < b→x < y)→ls[s]?=some j→listed.getD j false=false→j < listed.size→W6 ls (listed.setIfInBounds j true)=W6 ls listed+1
 | [],_,s,j,_,h,_,_=>by simp at h
 | x::r,listed,0,j,ho,h,hf,hj=>by
  simp only [List.getElem?_cons_zero,Option.some.injEq] at h
  subst h
  have hr:x ∉ r:=fun hm=>by
   obtain ⟨k,hk⟩:=List.getElem?_of_mem hm
   have:=ho 0 (k+1) x x rfl (by simpa using hk) (by omega)
   omega
  have:=M18 (listed:=listed) hr
  unfold W6 at this ⊢
  rw [List.filter_cons,List.filter_cons,if_pos (by simp [hj]),if_neg (by rw [hf]; simp),List.length_cons,this]
 | x::r,listed,s+1,j,ho,h,hf,hj=>by
  have hxj:x < j:=ho 0 (s+1) x j rfl h (by omega)
  have ih:=X1i (ls:=r) (listed:=listed) (s:=s) (j:=j) (fun a b x y h1 h2 h3=>ho (a+1) (b+1) x y (by simpa using h1) (by simpa using h2) (by omega)) (by simpa using h) hf hj
  unfold W6 at ih ⊢
  have hx:(listed.setIfInBounds j true).getD x false=listed.getD x false:=getD_set_ne false (by omega)
  rw [List.filter_cons,List.filter_cons,hx]
  split
  ·rw [List.length_cons,List.length_cons,ih]
  ·exact ih
def Y1i (F:Fx)(L:List Oper)(ls:List Nat)(fs:List (Nat×Nat))(Hs:List P0)(i:Nat)(o:Oper)(env:Env)(x:A):Prop:=
 (ls.contains i=false∧Wn fs i=none∧∀ H∈Hs.drop (loN L ls i),∀ ps:List Nat,(∀ p∈ps,p∈unw L fs i)→U10 F.C L o env (H5 ps H) x)∨
 (∃ s H H',ls[s]?=some i∧Wn fs i=none∧N1 L env o=some true∧Hs[s]?=some H∧Hs[s+1]?=some H'∧∀ ps:List Nat,(∀ p∈ps,p∈unw L fs i)→L18 F L o env (H5 ps H) x (H5 ps H'))∨
 (∃ t cs p,Wn fs i=some p∧ls.contains i=false∧N1 L env o=some true∧U1i F L o env t cs∧(∀ H∈Hs.take (hiN L ls i+1),nth H p=some (.row cs t))∧x = .ref p 0)
theorem AS.outs {F:Fx}{L:List Oper}{ls:List Nat}{fs:List (Nat×Nat)}{Hs:List P0}{env:Env}{Q:Env→Prop}{n:Nat}(hn:n≤L.length)(h:AS F L ls fs Hs 0 0 (L.take n) env Q) :
  ∃ out:Nat→A,(∀ i o,i < n→L[i]?=some o→Y1i F L ls fs Hs i o (X1 L env out (fun _=>true) i) (out i))∧Q (X1 L env out (fun _=>true) n):=by
 have key:∀ (m k s:Nat) (out0:Nat→A),k+m=n→(∀ i o,i < k→L[i]?=some o→Y1i F L ls fs Hs i o (X1 L env out0 (fun _=>true) i) (out0 i))→
   AS F L ls fs Hs k s ((L.take n).drop k) (X1 L env out0 (fun _=>true) k) Q→
   ∃ out:Nat→A,(∀ i o,i < n→L[i]?=some o→Y1i F L ls fs Hs i o (X1 L env out (fun _=>true) i) (out i))∧Q (X1 L env out (fun _=>true) n):=by
  intro m
  induction m with
  | zero=>
   intro k s out0 hk h0 hq
   have:k=n:=by omega
   subst this
   rw [List.drop_eq_nil_of_le (by simp; omega)] at hq
   exact ⟨out0,h0,hq⟩
  | succ m ih=>
   intro k s out0 hk h0 hq
   have hlt:k < n:=by omega
   have hkl:k < L.length:=by omega
   have e:(L.take n).drop k=L[k]::(L.take n).drop (k+1):=by
    rw [List.drop_eq_getElem_cons (by simp; omega)]
    simp
   rw [e] at hq
   have hko:L[k]?=some L[k]:=List.getElem?_eq_getElem hkl
   have go:∀ (x:A) (s':Nat),Y1i F L ls fs Hs k L[k] (X1 L env out0 (fun _=>true) k) x→
     AS F L ls fs Hs (k+1) s' ((L.take n).drop (k+1)) (put (X1 L env out0 (fun _=>true) k) (L[k]).dst x) Q→
     ∃ out:Nat→A,(∀ i o,i < n→L[i]?=some o→Y1i F L ls fs Hs i o (X1 L env out (fun _=>true) i) (out i))∧Q (X1 L env out (fun _=>true) n):=by
    intro x s' hst hrest
    let out1:Nat→A:=fun i=>if i=k then x else out0 i
    have hsame:∀ i,i≤k→X1 L env out1 (fun _=>true) i=X1 L env out0 (fun _=>true) i:=by
     intro i hi
     funext t
     simp only [X1]
     cases hl:A4 L (fun _=>true) t i with
     | none=>rfl
     | some j=>
      have:=(Hr hl).1
      simp only [out1]
      rw [if_neg (by omega)]
    refine ih (k+1) s' out1 (by omega) (fun i o hi ho=>?_) ?_
    ·by_cases hik:i=k
     ·subst hik
      rw [hko] at ho
      simp only [Option.some.injEq] at ho
      subst ho
      rw [hsame i (Nat.le_refl _)]
      simpa [out1] using hst
     ·rw [hsame i (by omega)]
      have:=h0 i o (by omega) ho
      simpa [out1,hik] using this
    ·rw [H1d hko,hsame k (Nat.le_refl _)]
     simpa [out1] using hrest
   rcases hq with ⟨d,x,hd,hn1,hn2,hst,hrest⟩ | ⟨x,H,H',h1,hf,hw,h2,h3,hl,hrest⟩ | ⟨t,cs,p,hf,hn1,hw,hfl,hrow,hrest⟩
   ·exact go x s (.inl ⟨hn1,hn2,hst⟩) (by rw [hd]; exact hrest)
   ·rw [N3] at h1 h2 h3
    exact go x (s+1) (.inr (.inl ⟨s,H,H',h1,hf,hw,h2,h3,hl⟩)) hrest
   ·exact go _ s (.inr (.inr ⟨t,cs,p,hf,hn1,hw,hfl,hrow,rfl⟩)) hrest
 exact key n 0 0 (fun _=>.junk) (by omega) (fun i o hi=>by omega) (by simpa [G1d] using h)
def unf (listed:Array Bool):List (Nat×Nat)→List Nat
 | []=>[]
 | q::r=>bif listed.getD q.1 false then unf listed r else q.2::unf listed r
theorem Ro {listed:Array Bool}{p:Nat}:∀ {fs:List (Nat×Nat)},p∈unf listed fs ↔ ∃ q∈fs,q.2=p∧listed.getD q.1 false=false
 | []=>by simp [unf]
 | q::r=>by
  simp only [unf]
  cases hq:listed.getD q.1 false with
  | true=>
   simp only [cond_true,Ro (fs:=r),List.mem_cons]
   constructor
   ·rintro ⟨x,h1,h2⟩; exact ⟨x,.inr h1,h2⟩
   ·rintro ⟨x,rfl | h1,h2⟩
    ·rw [hq] at h2; cases h2.2
    ·exact ⟨x,h1,h2⟩
  | false=>
   simp only [cond_false,List.mem_cons,Ro (fs:=r)]
   constructor
   ·rintro (rfl | ⟨x,h1,h2⟩)
    ·exact ⟨q,.inl rfl,rfl,hq⟩
    ·exact ⟨x,.inr h1,h2⟩
   ·rintro ⟨x,rfl | h1,h2⟩
    ·exact .inl h2.1.symm
    ·exact .inr ⟨x,h1,h2⟩
theorem X1e {L:List Oper}{j p:Nat}:∀ {fs:List (Nat×Nat)},p∈unw L fs j ↔ ∃ q∈fs,q.2=p∧Nj L L.length j q.1=false
 | []=>by simp [unw]
 | q::r=>by
  simp only [unw]
  cases hq:Nj L L.length j q.1 with
  | true=>
   simp only [cond_true,X1e (fs:=r),List.mem_cons]
   constructor
   ·rintro ⟨x,h1,h2⟩; exact ⟨x,.inr h1,h2⟩
   ·rintro ⟨x,rfl | h1,h2⟩
    ·rw [hq] at h2; cases h2.2
    ·exact ⟨x,h1,h2⟩
  | false=>
   simp only [cond_false,List.mem_cons,X1e (fs:=r)]
   constructor
   ·rintro (rfl | ⟨x,h1,h2⟩)
    ·exact ⟨q,.inl rfl,rfl,hq⟩
    ·exact ⟨x,.inr h1,h2⟩
   ·rintro ⟨x,rfl | h1,h2⟩
    ·exact .inl h2.1.symm
    ·exact .inr ⟨x,h1,h2⟩
theorem E1g {j p:Nat}:∀ {fs:List (Nat×Nat)},Wn fs j=some p→(j,p)∈fs
 | [],h=>by cases h
 | q::r,h=>by
  simp only [Wn] at h
  cases hq:Nat.beq q.1 j with
  | true=>
   rw [hq] at h
   obtain rfl:=Nat.eq_of_beq_eq_true hq
   simp only [cond_true,Option.some.injEq] at h
   subst h
   exact List.mem_cons_self
  | false=>rw [hq] at h; exact List.mem_cons_of_mem _ (E1g h)
theorem N18 {j:Nat}:∀ {fs:List (Nat×Nat)},Wn fs j=none→∀ q∈fs,q.1≠j
 | [],_,q,hq=>by cases hq
 | x::r,h,q,hq=>by
  simp only [Wn] at h
  cases hx:Nat.beq x.1 j with
  | true=>rw [hx] at h; cases h
  | false=>
   rw [hx] at h
   cases hq with
   | head=>exact fun e=>by rw [e] at hx; simp at hx
   | tail _ hq=>exact N18 h q hq
theorem V1b {listed:Array Bool}{j:Nat}:∀ {fs:List (Nat×Nat)},(∀ q∈fs,q.1≠j)→unf (listed.setIfInBounds j true) fs=unf listed fs
 | [],_=>rfl
 | q::r,h=>by
  simp only [unf]
  rw [getD_set_ne false (Ne.symm (h q List.mem_cons_self)),V1b fun x hx=>h x (List.mem_cons_of_mem _ hx)]
def Z1i (fs:List (Nat×Nat))(n K N:Nat):Bool:=
 Cy (fs.map (·.1))&&Cy (fs.map (·.2))&&fs.all fun q=>Nat.blt q.1 n&&Nat.ble K q.2&&Nat.blt q.2 N
theorem Q1k {fs:List (Nat×Nat)}{n K N:Nat}(h:Z1i fs n K N=true):(∀ q∈fs,q.1 < n∧K≤q.2∧q.2 < N)∧∀ q∈fs,∀ q'∈fs,(q.1=q'.1∨q.2=q'.2)→q=q':=by
 simp only [Z1i,Bool.and_eq_true,List.all_eq_true] at h
 obtain ⟨⟨h1,h2⟩,h3⟩:=h
 have k1:=Kn h1
 have k2:=Kn h2
 refine ⟨fun q hq=>⟨Nat.le_of_ble_eq_true (h3 q hq).1.1,Nat.le_of_ble_eq_true (h3 q hq).1.2,Nat.le_of_ble_eq_true (h3 q hq).2⟩,?_⟩
 have inj:∀ {f:Nat×Nat→Nat} {l:List (Nat×Nat)},(l.map f).Nodup→∀ q∈l,∀ q'∈l,f q=f q'→q=q':=by
  intro f l
  induction l with
  | nil=>intro _ q hq; cases hq
  | cons x r ih=>
   intro hnd q hq q' hq' he
   rw [List.map_cons,List.nodup_cons] at hnd
   cases hq with
   | head=>
    cases hq' with
    | head=>rfl
    | tail _ hq'=>exact absurd (by rw [he]; exact List.mem_map_of_mem hq') hnd.1
   | tail _ hq=>
    cases hq' with
    | head=>exact absurd (by rw [← he]; exact List.mem_map_of_mem hq) hnd.1
    | tail _ hq'=>exact ih hnd.2 q hq q' hq' he
 intro q hq q' hq' he
 rcases he with he | he
 ·exact inj k1 q hq q' hq' he
 ·exact inj k2 q hq q' hq' he
theorem St.fillRow {C:Cx}{N:FN}{M:Mem}{G:Nat→Value}{w:World}{env:Env}{H:P0}{a:Act}(h:St C N M G w env H a){dst:Option Nat}(hd:∀ d,dst=some d→d < N){cs:List A}{vs:Array Value}{elem:TypeId}{p:Nat}
  (hp:H[p]?=some .dead) (hg:G p = .tuple #[]) (hc:Xk M G cs vs) {H':P0} (hl:H'.length=H.length) (hH':∀ n,H'[n]?=if n=p then some (.row cs elem) else H[n]?) :
  St C N M (J6 G p (.pointer (some ⟨w.heap.size,0,none⟩))) (w.alloc (.cells vs elem)) (put env dst (.ref p 0)) H' (a.put dst (.pointer (some ⟨w.heap.size,0,none⟩))):=by
 have hmono:∀ {x:A} {v:Value},V0 M G x v→V0 M (J6 G p (.pointer (some ⟨w.heap.size,0,none⟩))) x v:=fun hr=>hr.mono (fun _ _ e=>e) fun o hn=>Q1 (fun e=>hr.names hn (by rw [e]; exact hg))
 obtain ⟨h1,h2,h3⟩:=Ol (fun t=>hmono (h.env t)) h.size hd (x:=.ref p 0) (v:=.pointer (some ⟨w.heap.size,0,none⟩)) (.ref C2)
 have hpl:p < H.length:=(List.getElem?_eq_some_iff.1 hp).1
 refine ⟨h.good.alloc _,h.gl.ext h.hrel (Dk Z3 _ _ _) (fun _ h=>h.elim),⟨fun o x ho=>?_,fun o o' x x' b ho ho' hb hb'=>?_,fun o ho=>?_⟩,h1,h2,h3.trans h.defers⟩
 ·rw [hH'] at ho
  by_cases hop:o=p
  ·rw [if_pos hop] at ho
   cases ho
   subst hop
   rw [C2]
   exact ⟨w.heap.size,vs,rfl,heap_alloc_new w _,Nat.le_of_eq hc.1,hc.2.1,fun i x v a b=>hmono (hc.2.2 i x v a b),fun off sp=>by
    cases hM:M ⟨w.heap.size,off,sp⟩ with
    | none=>rfl
    | some v=>have:=h.good.lt hM; simp at this⟩
  ·rw [if_neg hop] at ho
   rw [Q1 hop]
   have hob:=h.hrel.obj o x ho
   have hk:Lg M G (w.alloc (.cells vs elem)) x (G o):=hob.keep (fun _ _ e=>e) (fun b hb=>heap_alloc_old w _ b (Qf hob hb)) (fun _ _ _ _ e=>e)
   cases x with
   | dead=>trivial
   | row cells e=>
    obtain ⟨b,us,g1,g2,g3,g4,g5,g6⟩:=hk
    exact ⟨b,us,g1,g2,g3,g4,fun i y v a c=>hmono (g5 i y v a c),g6⟩
   | tok e sz=>exact hk
   | map es=>
    obtain ⟨b,ms,cl,g1,g2,g3,g4,g5⟩:=hk
    exact ⟨b,ms,cl,g1,g2,g3,fun i k cs e a c=>⟨(g4 i k cs e a c).1,hmono (g4 i k cs e a c).2⟩,g5⟩
   | bld o' e=>
    obtain ⟨b,v0,g1,g2,g3,g4,g5⟩:=hk
    have ho':o'≠p:=fun e=>g4 (by rw [e]; exact hg)
    exact ⟨b,v0,g1,by rw [Q1 ho']; exact g2,g3,by rw [Q1 ho']; exact g4,g5⟩
   | buf e sz=>exact hk
 ·have key:∀ (o:Nat) x b,H'[o]?=some x→blk x (J6 G p (.pointer (some ⟨w.heap.size,0,none⟩)) o)=some b→(o≠p∧H[o]?=some x∧blk x (G o)=some b∧b < w.heap.size)∨(o=p∧b=w.heap.size):=by
   intro o x b ho hb
   rw [hH'] at ho
   by_cases hop:o=p
   ·rw [if_pos hop] at ho
    cases ho
    subst hop
    rw [C2] at hb
    simp [blk] at hb
    exact .inr ⟨rfl,hb.symm⟩
   ·rw [if_neg hop] at ho
    rw [Q1 hop] at hb
    exact .inl ⟨hop,ho,hb,Qf (h.hrel.obj o x ho) hb⟩
  rcases key o x b ho hb with ⟨q1,q2,q3,q4⟩ | ⟨q1,q2⟩ <;> rcases key o' x' b ho' hb' with ⟨p1,p2,p3,p4⟩ | ⟨p1,p2⟩
  ·exact h.hrel.apart o o' x x' b q2 p2 q3 p3
  ·omega
  ·omega
  ·omega
 ·rw [hl] at ho
  rw [Q1 (by omega)]
  exact h.hrel.fresh o ho
theorem Y1.fillRow {fr:Fr}{M:Mem}{G:Nat→Value}{w:World}{H:P0}(h:Y1 fr M G w H){cs:List A}{vs:Array Value}{elem:TypeId}{p:Nat}(hK:fr.H0.length≤p)(hpl:p < H.length){H':P0}(hl:H'.length=H.length)
  (hH':∀ n,H'[n]?=if n=p then some (.row cs elem) else H[n]?):Y1 fr M (J6 G p (.pointer (some ⟨w.heap.size,0,none⟩))) (w.alloc (.cells vs elem)) H':=by
 have hne:∀ {o:Nat} {x:Ob},fr.H0[o]?=some x→o≠p:=fun ho e=>by have:=(List.getElem?_eq_some_iff.1 ho).1; omega
 refine ⟨h.ext.trans (Dk Z3 _ _ _) (fun _ h=>h.elim),fun b hb=>?_,by rw [hl]; exact h.len,fun o x ho ht=>?_,fun o x y ho ht hy=>?_⟩
 ·obtain ⟨o,x,ho,hx⟩:=hb
  rw [hH'] at ho
  by_cases hop:o=p
  ·rw [if_pos hop] at ho
   cases ho
   subst hop
   rw [C2] at hx
   simp [blk] at hx
   subst hx
   exact .inr h.ext.size
  ·rw [if_neg hop] at ho
   rw [Q1 hop] at hx
   exact h.own b ⟨o,x,ho,hx⟩
 ·rw [Q1 (hne ho)]
  exact h.keep o x ho ht
 ·rw [hH',if_neg (hne ho)] at hy
  exact h.kind o x y ho ht hy
theorem St.pad {C:Cx}{N:FN}{M:Mem}{G:Nat→Value}{w:World}{env:Env}{H:P0}{a:Act}(h:St C N M G w env H a)(k:Nat):St C N M G w env (H++List.replicate k .dead) a:=by
 have get:∀ (o:Nat) x,(H++List.replicate k Ob.dead)[o]?=some x→H[o]?=some x∨x = .dead:=fun o x ho=>by
  by_cases hlt:o < H.length
  ·rw [List.getElem?_append_left hlt] at ho; exact .inl ho
  ·rw [List.getElem?_append_right (by omega),List.getElem?_replicate] at ho
   split at ho
   ·cases ho; exact .inr rfl
   ·cases ho
 refine ⟨h.good,h.gl,⟨fun o x ho=>?_,fun o o' x x' b ho ho' hb hb'=>?_,fun o ho=>h.hrel.fresh o (by simp at ho; omega)⟩,h.env,h.size,h.defers⟩
 ·rcases get o x ho with h1 | rfl
  ·exact h.hrel.obj o x h1
  ·trivial
 ·rcases get o x ho with h1 | rfl
  ·rcases get o' x' ho' with h2 | rfl
   ·exact h.hrel.apart o o' x x' b h1 h2 hb hb'
   ·simp [blk] at hb'
  ·simp [blk] at hb
theorem Y1.pad {fr:Fr}{M:Mem}{G:Nat→Value}{w:World}{H:P0}(h:Y1 fr M G w H)(k:Nat):Y1 fr M G w (H++List.replicate k .dead):=by
 refine ⟨h.ext,fun b hb=>?_,by simp; have:=h.len; omega,h.keep,fun o x y ho ht hy=>?_⟩
 ·obtain ⟨o,x,ho,hx⟩:=hb
  by_cases hlt:o < H.length
  ·rw [List.getElem?_append_left hlt] at ho; exact h.own b ⟨o,x,ho,hx⟩
  ·rw [List.getElem?_append_right (by omega),List.getElem?_replicate] at ho
   split at ho
   ·cases ho; simp [blk] at hx
   ·cases ho
 ·have hlt:o < H.length:=Nat.lt_of_lt_of_le (List.getElem?_eq_some_iff.1 ho).1 h.len
  rw [List.getElem?_append_left hlt] at hy
  exact h.kind o x y ho ht hy
theorem Y1.step {fr:Fr}{M M':Mem}{G G':Nat→Value}{w w':World}{H H':P0}(h:Y1 fr M G w H)(h':Y1 ⟨H,G,M,w⟩ M' G' w' H'):Y1 fr M' G' w' H':=by
 refine ⟨h.ext.trans h'.ext (fun b hb=>h.own b hb),fun b hb=>?_,Nat.le_trans h.len h'.len,fun o x ho ht=>?_,fun o x y ho ht hy=>?_⟩
 ·rcases h'.own b hb with h1 | h1
  ·exact h.own b h1
  ·exact .inr (Nat.le_trans h.ext.size h1)
 ·have hlt:o < H.length:=Nat.lt_of_lt_of_le (List.getElem?_eq_some_iff.1 ho).1 h.len
  have hz:=List.getElem?_eq_getElem hlt
  exact (h'.keep o _ hz (h.kind o x _ ho ht hz)).trans (h.keep o x ho ht)
 ·have hlt:o < H.length:=Nat.lt_of_lt_of_le (List.getElem?_eq_some_iff.1 ho).1 h.len
  have hz:=List.getElem?_eq_getElem hlt
  exact h'.kind o _ y hz (h.kind o x _ ho ht hz) hy
theorem Y1.refl {M:Mem}{G:Nat→Value}{w:World}{H:P0}:Y1 ⟨H,G,M,w⟩ M G w H:=
 ⟨Ext.refl _ _ _,fun _ hb=>.inl hb,Nat.le_refl _,fun _ _ _ _=>rfl,fun o x y ho ht hy=>by
  have:x=y:=Option.some.inj (ho.symm.trans hy)
  rwa [← this]⟩
theorem F1g {listed:Array Bool}{fs:List (Nat×Nat)}(h:∀ q∈fs,listed.getD q.1 false=true):unf listed fs=[]:=by
 rw [List.eq_nil_iff_forall_not_mem]
 intro p hp
 obtain ⟨q,hq,_,hf⟩:=Ro.1 hp
 rw [h q hq] at hf
 cases hf
theorem AEx.drawL {F:Fx}(hC:A3 F.C){id:Nat}{L:List Oper}{env:Env}{H:P0}{Q:Po}(n:Nat)(ls:List Nat)(fs:List (Nat×Nat))(Hs:List P0)(hd:L.all (Th F.N)=true)(hok:G18 L n=true)(hnl:Nat.ble n L.length=true)(hlo:V1i L ls n=true)
  {H0:P0} (hH0:nth Hs 0=some H0) (hfo:Z1i fs n H.length H0.length=true) (hpad:H5 (fs.map (·.2)) H0=H++List.replicate fs.length .dead) (hll:(Hs.all fun K=>Nat.ble H0.length K.length)=true) (hHl:Hs.length=ls.length+1) {Hm:P0} (hHm:nth Hs ls.length=some Hm)
  (h:AS F L ls fs Hs 0 0 (L.take n) env (fun env'=>K0 F L (L.drop n) env' Hm (Eq Q))):AEx F (.region id L.toArray true) env H Q:=by
 obtain ⟨hfl,hfu⟩:=Q1k hfo
 have hn:=Nat.le_of_ble_eq_true hnl
 have hdst:∀ (i:Nat) o,L[i]?=some o→Th F.N o=true:=fun i o ho=>List.all_eq_true.1 hd o (List.mem_of_getElem? ho)
 obtain ⟨out,houts,hQ⟩:=h.outs hn
 obtain ⟨hback,hwait⟩:=E1b hok
 obtain ⟨hln,hlw⟩:=P1k hlo
 let Hf:Nat→P0:=fun k=>(Hs[k]?).getD []
 have hHf:∀ k,k≤ls.length→Hs[k]?=some (Hf k):=fun k hk=>by
  have hlt:k < Hs.length:=by omega
  simp only [Hf,List.getElem?_eq_getElem hlt,Option.getD_some]
 rw [N3] at hH0 hHm
 have hf0:Hf 0=H0:=by simp only [Hf,hH0,Option.getD_some]
 have hfm:Hf ls.length=Hm:=by simp only [Hf,hHm,Option.getD_some]
 have hlen:∀ k,k≤ls.length→∀ p,p < H0.length→p < (Hf k).length:=fun k hk p hp=>by
  have:=Nat.le_of_ble_eq_true (List.all_eq_true.1 hll _ (List.mem_of_getElem? (hHf k hk)))
  omega
 intro fr M G w act hK hs hsi
 have hbase:=hsi.len
 let Qw:Exit→Act→World→Prop:=Fin F fr Q
 have hsz:L.toArray.size=L.length:=by simp
 have tail:∀ (m k:Nat) (listed:Array Bool) (a:Act) (w:World),k+m=L.length→n≤k→I1a L n listed→(∀ i,i < k→listed.getD i false=true)→(∀ i,k≤i→i < L.length→listed.getD i true=false)→
   wpList F.C.P L.toArray Qw (L.drop k) a w→wpAny F.C.P .any L.toArray Qw m listed a w:=by
  intro m
  induction m with
  | zero=>
   intro k listed a w hk _ hD h1 _ hw
   have hk':k=L.length:=by omega
   have hready:Region.ready .any L.toArray listed=[]:=by
    rw [List.eq_nil_iff_forall_not_mem]
    intro j hj
    obtain ⟨hu,o,ho,_⟩:=mem_ready.1 hj
    have hj':j < L.length:=by simpa using (Array.getElem?_eq_some_iff.1 ho).1
    have:=h1 j (by omega)
    rw [Ac hu] at this
    cases this
   rw [List.drop_eq_nil_of_le (by omega)] at hw
   exact ⟨hready,hw⟩
  | succ m ih=>
   intro k listed a w hk hnk hD h1 h2 hw
   have hkl:k < L.length:=by omega
   have hko:L[k]?=some L[k]:=List.getElem?_eq_getElem hkl
   have hkr:k∈Region.ready .any L.toArray listed:=mem_ready.2 ⟨h2 k (Nat.le_refl _) hkl,L[k],(by simp [hkl]),fun e he hb=>h1 e.on (hback k _ hko e he hb)⟩
   refine ⟨fun h0=>(by rw [h0] at hkr; cases hkr),fun j hj=>?_⟩
   obtain ⟨hu,o,ho,hall⟩:=mem_ready.1 hj
   have hjl:j < L.length:=by simpa using (Array.getElem?_eq_some_iff.1 ho).1
   have hjk:j=k:=by
    rcases Nat.lt_trichotomy j k with hlt | he | hgt
    ·have:=h1 j hlt; rw [Ac hu] at this; cases this
    ·exact he
    ·have hw':=hwait k j hgt hjl (.inr (by omega))
     have:=Og hD.closed (by simpa using ho) (fun e he hb=>hall e he hb) L.length k hw'
     rw [Ac (h2 k (Nat.le_refl _) hkl)] at this
     cases this
   subst hjk
   rw [List.drop_eq_getElem_cons hkl] at hw
   have hwp:wpOp F.C.P L.toArray Qw j (wpList F.C.P L.toArray Qw (L.drop (j+1))) a w:=by
    unfold wpOp
    simp only [List.getElem?_toArray,hko]
    exact hw
   refine wpOp_mono (fun a' w' hw'=>ih (j+1) _ a' w' (by omega) (by omega) ⟨by simp [hD.size],fun i o' ho' hl e he hb=>?_⟩ (fun i hi=>?_) (fun i hi hi'=>?_) hw') hwp
   ·by_cases hij:j=i
    ·subst hij
     have:o'=o:=Option.some.inj (ho'.symm.trans (by simpa using ho))
     subst this
     exact getD_set_true (hall e he hb)
    ·rw [getD_set_ne false hij] at hl
     exact getD_set_true (hD.closed i o' ho' hl e he hb)
   ·by_cases hij:j=i
    ·subst hij
     simp [hD.size,hkl]
    ·rw [getD_set_ne false hij]
     exact h1 i (by omega)
   ·rw [getD_set_ne true (by omega)]
    exact h2 i (by omega) hi'
 have head:∀ (m:Nat) (listed:Array Bool) (M:Mem) (G:Nat→Value) (w:World) (a:Act),listed.toList.count true+m=L.length→I1a L n listed→(∀ i,n≤i→i < L.length→listed.getD i true=false)→
   (∀ p∈unf listed fs,G p = .tuple #[])→St F.C F.N M G w (X1 L env out (fun i=>listed.getD i false) n) (H5 (unf listed fs) (Hf (W6 ls listed))) a→Y1 fr M G w (H5 (unf listed fs) (Hf (W6 ls listed)))→wpAny F.C.P .any L.toArray Qw m listed a w:=by
  intro m
  induction m with
  | zero=>
   intro listed M G w a hm hD htl hem hs hsi
   have hall:=I1d hD.size (by omega)
   have hnL:n=L.length:=by
    rcases Nat.lt_or_ge n L.length with h' | h'
    ·have:=hall n h'
     rw [Ac (htl n (Nat.le_refl _) h')] at this
     cases this
    ·omega
   have henv:X1 L env out (fun i=>listed.getD i false) n=X1 L env out (fun _=>true) n:=by
    funext t
    simp only [X1]
    rw [X7 fun i hi _=>hall i (by omega)]
   have hc:W6 ls listed=ls.length:=W1i fun l hl=>hall l (by have:=hln l hl; omega)
   rw [hc,hfm,F1g fun q hq=>hall q.1 (by have:=(hfl q hq).1; omega),T1i] at hs hsi
   rw [henv] at hs
   refine tail 0 n listed a w (by omega) (Nat.le_refl _) hD (fun i hi=>hall i (by omega)) (fun i h1 h2=>by omega) ?_
   exact hQ fr M G w a Qw hK (fun o ho=>List.all_eq_true.1 hd o (List.mem_of_mem_drop ho)) hs hsi D1d
  | succ m ih=>
   intro listed M G w a hm hD htl hem hs hsi
   by_cases hdone:∀ i,i < n→listed.getD i false=true
   ·
    have henv:X1 L env out (fun i=>listed.getD i false) n=X1 L env out (fun _=>true) n:=by
     funext t
     simp only [X1]
     rw [X7 fun i hi _=>hdone i hi]
    have hc:W6 ls listed=ls.length:=W1i fun l hl=>hdone l (hln l hl)
    rw [hc,hfm,F1g fun q hq=>hdone q.1 (hfl q hq).1,T1i] at hs hsi
    rw [henv] at hs
    have hcount:listed.toList.count true=n:=by
     have hl:listed.toList=List.replicate n true++List.replicate (L.length - n) false:=by
      apply List.ext_getElem?
      intro i
      by_cases hi:i < n
      ·have hv:=hdone i hi
       have hi':i < listed.size:=by rw [hD.size]; omega
       rw [List.getElem?_append_left (by simpa using hi),List.getElem?_replicate,if_pos hi,Array.getElem?_toList]
       simpa [hi'] using hv
      ·by_cases hi2:i < L.length
       ·have hv:=htl i (by omega) hi2
        have hi':i < listed.size:=by rw [hD.size]; omega
        rw [List.getElem?_append_right (by simp; omega),List.getElem?_replicate,if_pos (by simp; omega),Array.getElem?_toList]
        simpa [hi'] using hv
       ·rw [List.getElem?_eq_none (by simp [hD.size]; omega),List.getElem?_eq_none (by simp; omega)]
     rw [hl,List.count_append,List.count_replicate,List.count_replicate]
     simp
    refine tail (m+1) n listed a w (by omega) (Nat.le_refl _) hD hdone htl ?_
    exact hQ fr M G w a Qw hK (fun o ho=>List.all_eq_true.1 hd o (List.mem_of_mem_drop ho)) hs hsi D1d
   ·
    have hex:∃ i,i < n∧listed.getD i false=false∧∀ k,k < i→listed.getD k false=true:=by
     have:∃ i,i < n∧listed.getD i false=false:=by
      rcases Classical.em (∃ i,i < n∧listed.getD i false=false) with h' | h'
      ·exact h'
      ·refine absurd (fun i hi=>?_) hdone
       cases hv:listed.getD i false with
       | true=>rfl
       | false=>exact absurd ⟨i,hi,hv⟩ h'
     obtain ⟨i,hi⟩:=this
     induction i using Nat.strongRecOn with
     | _ i ihi=>
      by_cases hk:∃ k,k < i∧listed.getD k false=false
      ·obtain ⟨k,hk1,hk2⟩:=hk
       exact ihi k hk1 ⟨by omega,hk2⟩
      ·refine ⟨i,hi.1,hi.2,fun k hk'=>?_⟩
       cases hv:listed.getD k false with
       | true=>rfl
       | false=>exact absurd ⟨k,hk',hv⟩ hk
    obtain ⟨i0,hi0,hu0,hbelow⟩:=hex
    have hi0l:i0 < L.length:=by omega
    have hi0o:L[i0]?=some L[i0]:=List.getElem?_eq_getElem hi0l
    have hu0':listed.getD i0 true=false:=by
     have hi':i0 < listed.size:=by rw [hD.size]; omega
     simpa [hi'] using hu0
    have hr0:i0∈Region.ready .any L.toArray listed:=mem_ready.2 ⟨hu0',L[i0],(by simp [hi0l]),fun e he hb=>hbelow e.on (hback i0 _ hi0o e he hb)⟩
    refine ⟨fun h0=>(by rw [h0] at hr0; cases hr0),fun j hj=>?_⟩
    obtain ⟨hu,o,ho,hall⟩:=mem_ready.1 hj
    have hoL:L[j]?=some o:=by simpa using ho
    have hjl:j < L.length:=(List.getElem?_eq_some_iff.1 hoL).1
    have hjn:j < n:=by
     rcases Nat.lt_or_ge j n with h' | h'
     ·exact h'
     ·have hw':=hwait i0 j (by omega) hjl (.inr h')
      have:=Og hD.closed hoL (fun e he hb=>hall e he hb) L.length i0 hw'
      rw [hu0] at this
      cases this
    have hclash:∀ k,k≠j→k < L.length→(Ng L k j=true∨Ng L j k=true)→(listed.getD k false=true ↔ k < j):=by
     intro k hkj hkl hc
     rcases Nat.lt_or_ge k j with hlt | hge
     ·refine ⟨fun _=>hlt,fun _=>?_⟩
      have hcc:Ng L k j=true:=by
       rcases hc with hc | hc
       ·exact hc
       ·exact Ax hc
      exact Og hD.closed hoL (fun e he hb=>hall e he hb) L.length k (hwait k j hlt hjl (.inl hcc))
     ·refine ⟨fun hl=>?_,fun h'=>by omega⟩
      have hcc:Ng L j k=true:=by
       rcases hc with hc | hc
       ·exact Ax hc
       ·exact hc
      have:=Pl hD.closed L.length k j (hwait j k (by omega) hkl (.inl hcc)) hl
      rw [Ac hu] at this
      cases this
    have hread:∀ t∈Pe L o,X1 L env out (fun i=>listed.getD i false) n t=X1 L env out (fun _=>true) j t:=by
     intro t ht
     have hw:∀ k,k≠j→(L[k]?).bind (·.dst)=some t→Ng L k j=true:=by
      intro k hkj hk
      unfold Ng
      simp only [N3,hoL]
      cases hk':L[k]? with
      | none=>rw [hk'] at hk; cases hk
      | some p=>
       rw [hk'] at hk
       simp only [Option.bind_some] at hk
       simp only [hk]
       have:(Pe L o).contains t=true:=by simpa using ht
       rw [this]
       simp
     have hlt:∀ k,(L[k]?).bind (·.dst)=some t→k < L.length:=by
      intro k hk
      cases hk':L[k]? with
      | none=>rw [hk'] at hk; cases hk
      | some p=>exact (List.getElem?_eq_some_iff.1 hk').1
     simp only [X1]
     have e1:A4 L (fun i=>listed.getD i false) t n=A4 L (fun i=>decide (i < j)) t n:=X7 fun k hk hkd=>by
      by_cases hkj:k=j
      ·subst hkj
       simp [Ac hu]
      ·have:=hclash k hkj (hlt k hkd) (.inl (hw k hkj hkd))
       cases hb:listed.getD k false with
       | true=>simp [this.1 hb]
       | false=>
        have:¬ k < j:=fun h'=>by rw [this.2 h'] at hb; cases hb
        simp [this]
     have e2:A4 L (fun i=>decide (i < j)) t n=A4 L (fun i=>decide (i < j)) t j:=Ju (by omega) fun k h1 h2 _=>by simp; omega
     have e3:A4 L (fun i=>decide (i < j)) t j=A4 L (fun _=>true) t j:=X7 fun k hk _=>by simp [hk]
     rw [e1,e2,e3]
    have hafter:X1 L env out (fun i=>(listed.setIfInBounds j true).getD i false) n=put (X1 L env out (fun i=>listed.getD i false) n) o.dst (out j):=by
     have hjs:j < listed.size:=by rw [hD.size]; exact hjl
     have Gj:∀ k,(listed.setIfInBounds j true).getD k false=(decide (k=j)||listed.getD k false):=by
      intro k
      by_cases hk:j=k
      ·subst hk; simp [hjs]
      ·rw [getD_set_ne false hk]
       have:¬ k=j:=fun h'=>hk h'.symm
       simp [this]
     funext t
     simp only [X1,Gj]
     cases hdo:o.dst with
     | none=>
      have:A4 L (fun i=>decide (i=j)||listed.getD i false) t n=A4 L (fun i=>listed.getD i false) t n:=X7 fun k hk hkd=>by
       have:k≠j:=fun h'=>by subst h'; rw [hoL] at hkd; simp [hdo] at hkd
       simp [this]
      rw [this]
      rfl
     | some d=>
      simp only [put,upd]
      by_cases htd:t=d
      ·subst htd
       have hbt:Nat.beq t t=true:=by simp
       rw [hbt,_root_.cond_true]
       have e1:A4 L (fun i=>decide (i=j)||listed.getD i false) t n=A4 L (fun i=>decide (i=j)||listed.getD i false) t (j+1):=Ju (by omega) fun k h1 h2 hkd=>by
        have hkj:k≠j:=by omega
        have hcl:Ng L k j=true:=by
         unfold Ng
         cases hk':L[k]? with
         | none=>rw [hk'] at hkd; cases hkd
         | some p=>
          rw [hk'] at hkd
          simp only [Option.bind_some] at hkd
          simp only [N3,hoL,hk',hkd,hdo]
          simp
        have:=hclash k hkj (by omega) (.inl hcl)
        cases hb:listed.getD k false with
        | false=>simp [hkj]
        | true=>have:=this.1 hb; omega
       rw [e1]
       simp [A4,hoL,hdo]
      ·have:Nat.beq t d=false:=by
        cases hb:Nat.beq t d with
        | false=>rfl
        | true=>exact absurd (Nat.eq_of_beq_eq_true hb) htd
       rw [this,_root_.cond_false]
       have:A4 L (fun i=>decide (i=j)||listed.getD i false) t n=A4 L (fun i=>listed.getD i false) t n:=X7 fun k hk hkd=>by
        have:k≠j:=fun h'=>by subst h'; rw [hoL] at hkd; simp [hdo] at hkd; exact htd hkd.symm
        simp [this]
       rw [this]
       rfl
    have hD':I1a L n (listed.setIfInBounds j true):=⟨by simp [hD.size],fun i o' ho' hl e he hb=>by
     by_cases hij:j=i
     ·subst hij
      have:o'=o:=Option.some.inj (ho'.symm.trans hoL)
      subst this
      exact getD_set_true (hall e he hb)
     ·rw [getD_set_ne false hij] at hl
      exact getD_set_true (hD.closed i o' ho' hl e he hb)⟩
    have htl':∀ i,n≤i→i < L.length→(listed.setIfInBounds j true).getD i true=false:=fun i h1 h2=>by
     rw [getD_set_ne true (by omega)]
     exact htl i h1 h2
    have hcnt:(listed.setIfInBounds j true).toList.count true+m=L.length:=by rw [count_set hu]; omega
    have hwcongr:N1 L (X1 L env out (fun i=>listed.getD i false) n) o=N1 L (X1 L env out (fun _=>true) j) o:=Ov hread
    have hev:∀ y∈o.op.operands,ev F.C.GL (X1 L env out (fun i=>listed.getD i false) n) y=ev F.C.GL (X1 L env out (fun _=>true) j) y:=by
     intro y hy
     refine H14 fun t ht=>hread t ?_
     subst ht
     simp only [Pe,List.mem_append,List.mem_filterMap]
     exact .inl ⟨.tmp t,by simpa using hy,rfl⟩
    have hjs:j < listed.size:=by rw [hD.size]; exact hjl
    have hunw:∀ p∈unf listed fs,p∈unw L fs j:=fun p hp=>by
     obtain ⟨q,hq,he,hf⟩:=Ro.1 hp
     refine X1e.2 ⟨q,hq,he,?_⟩
     cases hb:Nj L L.length j q.1 with
     | false=>rfl
     | true=>rw [Og hD.closed hoL (fun e he hb=>hall e he hb) L.length q.1 hb] at hf; cases hf
    rcases houts j o hjn hoL with ⟨hnl',hfp,hq⟩ | ⟨s,H1,H2,hs1,hfp,hw,hs2,hs3,hl⟩ | ⟨t,cs,p,hfp,hnl',hw,hfl',hrow,hx⟩
    ·have hcs:W6 ls (listed.setIfInBounds j true)=W6 ls listed:=M18 (by simpa using hnl')
     have hus:unf (listed.setIfInBounds j true) fs=unf listed fs:=V1b (N18 hfp)
     have hlo':loN L ls j≤W6 ls listed:=by
      unfold loN W6
      rw [← List.countP_eq_length_filter,← List.countP_eq_length_filter]
      exact List.countP_mono_left fun l _ hl=>Og hD.closed hoL (fun e he hb=>hall e he hb) L.length l hl
     have hle:W6 ls listed≤ls.length:=List.length_filter_le _ _
     have hmem:Hf (W6 ls listed)∈Hs.drop (loN L ls j):=by
      refine List.mem_of_getElem? (i:=W6 ls listed - loN L ls j) ?_
      rw [List.getElem?_drop,show loN L ls j+(W6 ls listed - loN L ls j)=W6 ls listed by omega]
      exact hHf _ hle
     unfold wpOp
     simp only [List.getElem?_toArray,hoL]
     rcases hq _ hmem _ hunw with ⟨hw,hy⟩ | ⟨hw,hx⟩
     ·rw [Ld hs (hwcongr.trans hw)]
      simp only [if_true]
      refine .inl (hy M G w a _ Qw (fun y hyo=>by rw [← hev y hyo]; exact hs.eval y) hs.good hs.gl hs.hrel fun v M' w' h1 h2 h3=>?_)
      refine ih _ M' G w' _ hcnt hD' htl' (by rw [hus]; exact hem) ?_ (by rw [hcs,hus]; exact hsi.quiet h3)
      rw [hafter,hcs,hus]
      exact hs.quiet (C4 (hdst j o hoL)) h1 h2 h3
     ·rw [Ld hs (hwcongr.trans hw)]
      simp only [Bool.false_eq_true,if_false]
      refine ih _ M G w _ hcnt hD' htl' (by rw [hus]; exact hem) ?_ (by rw [hcs,hus]; exact hsi)
      rw [hafter,hx,hcs,hus]
      exact hs.quiet (C4 (hdst j o hoL)) (.tup rfl fun i x v h=>by simp at h) hs.good (Ext.refl _ _ _)
    ·have hsj:ls[s]?=some j:=hs1
     have hcs:W6 ls listed=s:=N1l hsj (fun k l hk hl=>Og hD.closed hoL (fun e he hb=>hall e he hb) L.length l (hlw s k j l hsj hl hk).2) (fun k l hk hl=>by
      cases hv:listed.getD l false with
      | false=>rfl
      | true=>
       rcases Nat.lt_or_ge s k with hlt | hge
       ·have:=Pl hD.closed L.length l j (hlw k s l j hl hsj hlt).2 hv
        rw [Ac hu] at this; cases this
       ·have:k=s:=by omega
        subst this
        rw [hsj] at hl
        cases hl
        rw [Ac hu] at hv; cases hv)
     have hcs':W6 ls (listed.setIfInBounds j true)=s+1:=by rw [← hcs]; exact X1i (fun a b x y h1 h2 h3=>by have:=(hlw b a y x h2 h1 h3).1; omega) hsj (Ac hu) hjs
     have hsl:s < ls.length:=(List.getElem?_eq_some_iff.1 hsj).1
     have e1:Hf s=H1:=Option.some.inj ((hHf s (by omega)).symm.trans hs2)
     have e2:Hf (s+1)=H2:=Option.some.inj ((hHf (s+1) (by omega)).symm.trans hs3)
     have hus:unf (listed.setIfInBounds j true) fs=unf listed fs:=V1b (N18 hfp)
     rw [hcs,e1] at hs hsi
     have hop:=hl _ hunw (X1 L env out (fun i=>listed.getD i false) n) (H5 (unf listed fs) H1).length hread (fun e h=>e=X1 L env out (fun i=>(listed.setIfInBounds j true).getD i false) n∧h=H5 (unf listed fs) H2) ⟨hafter.symm,rfl⟩
     let Qw':Exit→Act→World→Prop:=fun e a w=>match e with
      | .normal=>wpAny F.C.P .any L.toArray Qw m (listed.setIfInBounds j true) a w
      | e=>Fin F fr Q e a w
     have:=hop ⟨H5 (unf listed fs) H1,G,M,w⟩ M G w a Qw' rfl (fun o' ho'=>by
      rw [List.mem_singleton] at ho'
      subst ho'
      exact hdst j _ hoL) hs .refl ⟨fun env' H' M' G' w' a' hq hs' hsi'=>by
       obtain ⟨rfl,rfl⟩:=hq
       refine ih _ M' G' w' a' hcnt hD' htl' (by
        rw [hus]
        intro p hp
        obtain ⟨q,hq1,hq2,hq3⟩:=Ro.1 hp
        have hlt:p < (H5 (unf listed fs) H1).length:=by
         rw [Hi,← e1]
         exact hlen s (by omega) p (hq2 ▸ (hfl q hq1).2.2)
        have hdead:(H5 (unf listed fs) H1)[p]?=some .dead:=by
         rw [Hi] at hlt
         rw [Rm,List.getElem?_eq_getElem hlt]
         have:(unf listed fs).contains p=true:=by simpa using hp
         simp only [Option.map_some,this,_root_.cond_true]
        exact (hsi'.keep p _ hdead rfl).trans (hem p hp)) ?_ ?_
       ·rw [hcs',e2,hus]; exact hs'
       ·rw [hcs',e2,hus]; exact hsi.step hsi',fun _ _ _ _ _ _ _ h=>h.elim⟩
     simp only [wpList] at this
     unfold wpOp
     simp only [List.getElem?_toArray,hoL]
     have hout:LetsOut Qw'→LetsOut (Fin F fr Q):=fun ⟨a,w,h⟩=>⟨a,w,h⟩
     split
     ·rename_i hw
      rw [if_pos hw] at this
      rcases this with h1 | ⟨h1,h2⟩
      ·exact .inl (W1o (fun c a w h=>h) hout h1)
      ·exact .inr ⟨h1,hout h2⟩
     ·rename_i hw
      rw [if_neg hw] at this
      exact this
    ·have hcs:W6 ls (listed.setIfInBounds j true)=W6 ls listed:=M18 (by simpa using hnl')
     have hle:W6 ls listed≤ls.length:=List.length_filter_le _ _
     have hjp:=E1g hfp
     obtain ⟨f1,f2,f3⟩:=hfl _ hjp
     have hhi:W6 ls listed≤hiN L ls j:=by
      unfold hiN W6
      rw [← List.countP_eq_length_filter,← List.countP_eq_length_filter]
      refine List.countP_mono_left fun l _ hl=>?_
      cases hb:Nj L L.length l j with
      | false=>rfl
      | true=>
       have:=Pl hD.closed L.length l j hb hl
       rw [Ac hu] at this; cases this
     have hmem:Hf (W6 ls listed)∈Hs.take (hiN L ls j+1):=by
      refine List.mem_of_getElem? (i:=W6 ls listed) ?_
      rw [List.getElem?_take,if_pos (by omega)]
      exact hHf _ hle
     have hr:=hrow _ hmem
     rw [N3] at hr
     have hpu:p∈unf listed fs:=Ro.2 ⟨_,hjp,rfl,Ac hu⟩
     have hbef:(H5 (unf listed fs) (Hf (W6 ls listed)))[p]?=some .dead:=by
      rw [Rm,hr]
      have:(unf listed fs).contains p=true:=by simpa using hpu
      simp only [Option.map_some,this,_root_.cond_true]
     have hmemu:∀ r,r∈unf (listed.setIfInBounds j true) fs ↔ r∈unf listed fs∧r≠p:=by
      intro r
      rw [Ro,Ro]
      constructor
      ·rintro ⟨q,q1,q2,q3⟩
       have hne:j≠q.1:=fun e=>by rw [← e] at q3; simp [hjs] at q3
       rw [getD_set_ne false hne] at q3
       exact ⟨⟨q,q1,q2,q3⟩,fun e=>hne (by rw [hfu q q1 _ hjp (.inr (by rw [q2,e]))])⟩
      ·rintro ⟨⟨q,q1,q2,q3⟩,hne⟩
       refine ⟨q,q1,q2,?_⟩
       rw [getD_set_ne false fun e=>hne (by rw [← q2,hfu q q1 _ hjp (.inl e.symm)])]
       exact q3
     have haft:∀ r,(H5 (unf (listed.setIfInBounds j true) fs) (Hf (W6 ls listed)))[r]?=if r=p then some (.row cs t) else (H5 (unf listed fs) (Hf (W6 ls listed)))[r]?:=by
      intro r
      rw [Rm,Rm]
      by_cases hrp:r=p
      ·subst hrp
       rw [if_pos rfl,hr]
       have:(unf (listed.setIfInBounds j true) fs).contains r=false:=by
        cases hb:(unf (listed.setIfInBounds j true) fs).contains r with
        | false=>rfl
        | true=>exact absurd rfl ((hmemu r).1 (by simpa using hb)).2
       simp only [Option.map_some,this,_root_.cond_false]
      ·rw [if_neg hrp]
       have:(unf (listed.setIfInBounds j true) fs).contains r=(unf listed fs).contains r:=by
        rw [Bool.eq_iff_iff]
        simp only [List.contains_iff_mem,hmemu r]
        exact ⟨fun h=>h.1,fun h=>⟨h,hrp⟩⟩
       rw [this]
     obtain ⟨vs,hv,hrun⟩:=hfl' _ _ M G w a hread hs
     have hd':∀ d,o.dst=some d→d < F.N:=C4 (hdst j o hoL)
     unfold wpOp
     simp only [List.getElem?_toArray,hoL]
     rw [Ld hs (hwcongr.trans hw)]
     simp only [if_true]
     refine .inl ?_
     unfold Oper.wp
     rw [hrun]
     refine ih _ M (J6 G p (.pointer (some ⟨w.heap.size,0,none⟩))) (w.alloc (.cells vs t)) _ hcnt hD' htl' (fun r hr'=>?_) ?_ ?_
     ·obtain ⟨r1,r2⟩:=(hmemu r).1 hr'
      rw [Q1 r2]
      exact hem r r1
     ·rw [hafter,hcs,hx]
      exact hs.fillRow hd' hbef (hem p hpu) hv (by rw [Hi,Hi]) haft
     ·rw [hcs]
      exact hsi.fillRow (cs:=cs) (p:=p) (by omega) (List.getElem?_eq_some_iff.1 hbef).1 (by rw [Hi,Hi]) haft
 refine wp_region_any hC.mixed ?_
 have h0:∀ i,(Array.replicate L.toArray.size false).getD i false=false:=fun i=>by
  rcases Nat.lt_or_ge i L.length with h' | h' <;> simp [h']
 have hc0:W6 ls (Array.replicate L.toArray.size false)=0:=C1p h0
 have hu0:unf (Array.replicate L.toArray.size false) fs=fs.map (·.2):=by
  have:∀ fs:List (Nat×Nat),unf (Array.replicate L.toArray.size false) fs=fs.map (·.2):=by
   intro fs
   induction fs with
   | nil=>rfl
   | cons q r ih=>simp only [unf,h0,_root_.cond_false,ih,List.map_cons]
  exact this fs
 have hs':St F.C F.N M G { w with drawn:=w.drawn+1 } env H act:=
  ⟨fun a v e=>hs.good a v e,hs.gl.ext hs.hrel (S:=Z3) ⟨fun _ _ e=>e,Nat.le_refl _,rfl,rfl,rfl,fun _ _ _=>rfl,fun _ _ e=>.inl e⟩ (fun _ h=>h.elim),hs.hrel.ext (S:=Z3) ⟨fun _ _ e=>e,Nat.le_refl _,rfl,rfl,rfl,fun _ _ _=>rfl,fun _ _ e=>.inl e⟩ (fun _ _ h=>h),hs.env,hs.size,hs.defers⟩
 have hsi':Y1 fr M G { w with drawn:=w.drawn+1 } H:=hsi.quiet ⟨fun _ _ e=>e,Nat.le_refl _,rfl,rfl,rfl,fun _ _ _=>rfl,fun _ _ e=>.inl e⟩
 have henv0:X1 L env out (fun i=>(Array.replicate L.toArray.size false).getD i false) n=env:=by
  funext t
  simp only [X1]
  cases hl:A4 L (fun i=>(Array.replicate L.toArray.size false).getD i false) t n with
  | none=>rfl
  | some i=>have:=(Hr hl).2.1; rw [h0] at this; cases this
 have:=head L.length (Array.replicate L.toArray.size false) M G _ act (by simp [List.count_replicate]) ⟨by simp,fun j o ho hl=>by rw [h0] at hl; cases hl⟩ (fun i h1 h2=>by simp [h2])
  (fun p hp=>by
   obtain ⟨q,q1,q2,_⟩:=Ro.1 hp
   exact hs.hrel.fresh p (by have:=(hfl q q1).2.1; omega))
  (by rw [henv0,hc0,hf0,hu0,hpad]; exact hs'.pad _) (by rw [hc0,hf0,hu0,hpad]; exact hsi'.pad _)
 rw [hsz]
 rw [hsz] at this
 exact this
end Go.Am

namespace Go.Am
def R1d (C:Cx)(L:List Oper)(o:Oper)(env:Env)(ps:List Nat):List P0→List (Option (Option Nat×Prop×A))
 | []=>[]
 | H::r=>Ti C L o env (H5 ps H)::R1d C L o env ps r
def J1h (x:Option (Option Nat×Prop×A)):List P0→List (Option (Option Nat×Prop×A))
 | []=>[]
 | _::r=>x::J1h x r
theorem S1d {C:Cx}{L:List Oper}{o:Oper}{env:Env}{ps:List Nat}{x:Option (Option Nat×Prop×A)}:∀ {Hs:List P0},R1d C L o env ps Hs=J1h x Hs→∀ H∈Hs,Ti C L o env (H5 ps H)=x
 | [],_,H,h=>by cases h
 | K::r,h,H,hm=>by
  simp only [R1d,J1h,List.cons.injEq] at h
  cases hm with
  | head=>exact h.1
  | tail _ hm=>exact S1d h.2 H hm
theorem X1m {i:TI}{x:A}{H:P0}{ps ps0:List Nat}(hps:∀ p∈ps,p∈ps0){y:A}(h:Mg i x (H5 ps0 H)=some y):Mg i x (H5 ps H)=some y:=by
 unfold Mg at h ⊢
 split at h
 ·rename_i o off
  simp only [N3,Rm] at h ⊢
  cases hz:H[o]? with
  | none=>rw [hz] at h; simp at h
  | some z=>
   rw [hz] at h
   simp only [Option.map_some] at h ⊢
   cases h0:ps0.contains o with
   | true=>rw [h0] at h; simp at h
   | false=>
    have:ps.contains o=false:=by
     cases hb:ps.contains o with
     | false=>rfl
     | true=>
      have h1:=hps o (by simpa using hb)
      have h2:ps0.contains o=true:=by simpa using h1
      rw [h0] at h2; cases h2
    rw [h0] at h
    rw [this]
    exact h
 ·exact h
 ·cases h
theorem H1r {T:TT}{GL:GT}{op:Op}{env:Env}{H:P0}{ps ps0:List Nat}(hps:∀ p∈ps,p∈ps0){c:Prop}{y:A}(h:opA T GL op env (H5 ps0 H)=some (c,y)):opA T GL op env (H5 ps H)=some (c,y):=by
 cases op with
 | load t a=>
  simp only [opA] at h ⊢
  cases ht:X2 T t with
  | none=>rw [ht] at h; cases h
  | some i=>
   rw [ht] at h
   simp only at h ⊢
   cases hl:Mg i (ev GL env a) (H5 ps0 H) with
   | none=>rw [hl] at h; cases h
   | some z=>
    rw [hl] at h
    rw [X1m hps hl]
    exact h
 | makeFunc f first caps=>cases f <;> exact h
 | call c=>
  obtain ⟨cl,as,ts⟩:=c
  cases cl <;> exact h
 | _=>exact h
theorem Y1m {C:Cx}{L:List Oper}{o:Oper}{env:Env}{H:P0}{ps ps0:List Nat}(hps:∀ p∈ps,p∈ps0){d:Option Nat}{c:Prop}{y:A}(h:Ti C L o env (H5 ps0 H)=some (d,c,y)):Ti C L o env (H5 ps H)=some (d,c,y):=by
 unfold Ti at h ⊢
 split at h
 ·rename_i hw
  split at h
  ·rename_i c' x' ho
   rw [H1r hps ho]
   exact h
  ·cases h
 ·exact h
 ·cases h
theorem D1t {C:Cx}(hC:A3 C){L:List Oper}{o:Oper}{env:Env}{H:P0}{d:Option Nat}{c:Prop}{x:A}(h:Ti C L o env H=some (d,c,x))(hc:c):o.dst=d∧U10 C L o env H x:=by
 have:=AQ.q (l:=[]) (Q:=fun _=>True) hC h hc trivial
 unfold Ti at h
 split at h
 ·rename_i hw
  split at h
  ·rename_i c' x' ho
   split at h
   ·rename_i y hy
    have hyx:=Iu hy
    subst hyx
    have:o.dst=d∧c'=c∧y=x:=by
     split at h
     ·rename_i t ht
      simp only [Option.some.injEq,Prod.mk.injEq] at h
      exact ⟨ht.trans h.1,h.2.1,h.2.2⟩
     ·rename_i ht
      simp only [Option.some.injEq,Prod.mk.injEq] at h
      exact ⟨ht.trans h.1,h.2.1,h.2.2⟩
    obtain ⟨rfl,rfl,rfl⟩:=this
    exact ⟨rfl,.inl ⟨hw,Sq hC ho hc⟩⟩
   ·cases h
  ·cases h
 ·rename_i hw
  have:o.dst=d∧A.tup []=x:=by
   split at h
   ·rename_i t ht
    simp only [Option.some.injEq,Prod.mk.injEq] at h
    exact ⟨ht.trans h.1,h.2.2⟩
   ·rename_i ht
    simp only [Option.some.injEq,Prod.mk.injEq] at h
    exact ⟨ht.trans h.1,h.2.2⟩
  obtain ⟨rfl,rfl⟩:=this
  exact ⟨rfl,.inr ⟨hw,rfl⟩⟩
 ·cases h
def A1j (C:Cx)(L:List Oper)(o:Oper)(env:Env):Option (Option Nat×TypeId×List A):=
 match N1 L env o,o.op,Md o with
 | some true,.alloc t,some d=>match X2 C.T t with
  | some i=>match Mm (i.zero.map zf) with | some cs=>some (d,t,cs) | none=>none
  | none=>none
 | some true,.box t y,some d=>match Jd (ev C.GL env y) with
  | some cs=>match Mm cs with | some cs=>some (d,t,cs) | none=>none
  | none=>none
 | _,_,_=>none
theorem R1k {F:Fx}(hC:A3 F.C){L:List Oper}{o:Oper}{env:Env}{d:Option Nat}{t:TypeId}{cs:List A}(h:A1j F.C L o env=some (d,t,cs)):N1 L env o=some true∧o.dst=d∧U1i F L o env t cs:=by
 unfold A1j at h
 split at h
 ·rename_i t' d' hw ho hd
  split at h
  ·rename_i i ht
   split at h
   ·rename_i cs' hcs
    simp only [Option.some.injEq,Prod.mk.injEq] at h
    obtain ⟨rfl,rfl,rfl⟩:=h
    have:=Jn hcs
    subst this
    refine ⟨hw,(S9 hd),fun env' H M G w a hr hs=>?_⟩
    obtain ⟨z,h1,h2⟩:=I11 (M:=M) (G:=G) hC.tok ht
    exact ⟨z.cells,h2,by unfold execOp; simp [ho,Instr.alloc,h1,newVar,newRow]⟩
   ·cases h
  ·cases h
 ·rename_i t' y d' hw ho hd
  split at h
  ·rename_i cs1 hc1
   split at h
   ·rename_i cs' hcs
    simp only [Option.some.injEq,Prod.mk.injEq] at h
    obtain ⟨rfl,rfl,rfl⟩:=h
    have:=Jn hcs
    subst this
    refine ⟨hw,(S9 hd),fun env' H M G w a hr hs=>?_⟩
    have hy:ev F.C.GL env' y=ev F.C.GL env y:=H14 fun u hu=>hr u (by
     subst hu
     simp only [Pe,List.mem_append,List.mem_filterMap]
     exact .inl ⟨.tmp u,by simp [ho,Op.operands],rfl⟩)
    obtain ⟨c1,c2,c3⟩:=Yw (hs.eval y) (by rw [hy]; exact hc1)
    exact ⟨(a.eval y).cells,⟨c1.symm,c2,c3⟩,by unfold execOp; simp [ho,Instr.box,newVar,newRow]⟩
   ·cases h
  ·cases h
 ·cases h
def K1h (p:Nat):List P0→List (Option Ob)
 | []=>[]
 | H::r=>nth H p::K1h p r
def L1h (x:Option Ob):List P0→List (Option Ob)
 | []=>[]
 | _::r=>x::L1h x r
theorem G1g {p:Nat}{x:Option Ob}:∀ {Hs:List P0},K1h p Hs=L1h x Hs→∀ H∈Hs,nth H p=x
 | [],_,H,h=>by cases h
 | K::r,h,H,hm=>by
  simp only [K1h,L1h,List.cons.injEq] at h
  cases hm with
  | head=>exact h.1
  | tail _ hm=>exact G1g h.2 H hm
section
variable {F:Fx}{L l:List Oper}{o:Oper}{env:Env}{ls:List Nat}{fs:List (Nat×Nat)}{Hs:List P0}{j s:Nat}{Q:Env→Prop}
theorem AS.nil (h:Q env):AS F L ls fs Hs j s [] env Q:=h
theorem AS.y {d:Option Nat}{x:A}(hd:o.dst=d)(hn:ls.contains j=false)(hf:Wn fs j=none)(h:∀ H,U10 F.C L o env H x)(k:AS F L ls fs Hs (j+1) s l (put env d x) Q):AS F L ls fs Hs j s (o::l) env Q:=
 .inl ⟨d,x,hd,hn,hf,fun _ _ _ _=>h _,k⟩
theorem AS.q (hC:A3 F.C){d:Option Nat}{x:A}(h:R1d F.C L o env (unw L fs j) (Hs.drop (loN L ls j))=J1h (some (d,True,x)) (Hs.drop (loN L ls j)))(hd:o.dst=d)(hn:ls.contains j=false)(hf:Wn fs j=none)(k:AS F L ls fs Hs (j+1) s l (put env d x) Q):AS F L ls fs Hs j s (o::l) env Q:=
 .inl ⟨d,x,hd,hn,hf,fun H hm _ hps=>(D1t hC (Y1m hps (S1d h H hm)) trivial).2,k⟩
theorem AS.c {d:Option Nat}{f:FuncId}{xs:List A}{x:A}(hc:N0 F.C f xs [] (Ret [] x))(h:Fk F.C L o env=some (d,f,xs))(hx:D2 0 xs=true)(hn:ls.contains j=false)(hf:Wn fs j=none)(k:AS F L ls fs Hs (j+1) s l (put env d x) Q):AS F L ls fs Hs j s (o::l) env Q:=by
 obtain ⟨h1,h2,h3⟩:=Nm h
 exact .y h3 hn hf (fun H=>.inl ⟨h1,Zt h2 hx hc⟩) k
theorem AS.a {t:Nat}{x:A}(hd:o.dst=some t)(h:∀ H,AQ F.C L [o] env H (fun e=>e=put env (some t) x))(hn:ls.contains j=false)(hf:Wn fs j=none)(k:AS F L ls fs Hs (j+1) s l (put env (some t) x) Q):AS F L ls fs Hs j s (o::l) env Q:=by
 refine .y hd hn hf (fun H=>?_) k
 obtain ⟨d',x',h1,h2,h3⟩:=h H
 rw [hd] at h1
 subst h1
 have:x'=x:=by
  have:=congrFun h3 t
  simpa [put,upd] using this
 rwa [this] at h2
theorem AS.g {d:Option Nat}{g:FuncId}{xs:List A}{x y:A}{H H':P0}(idx:List Nat){cargs:List A}{cH cH':P0}(hc:N0 F.C g cargs cH (Ret cH' x))(h1:nth ls s=some j)(hf:Wn fs j=none)(h2:nth Hs s=some H)(h3:nth Hs (s+1)=some H')
  (h:Fk F.C L o env=some (d,g,xs)) (hx:Ui (U4 idx H.length) cargs=xs) (hi:Kr idx H.length=true) (hm:Jt H idx=J11 (U4 idx H.length) cH)
  (ht:Q5 idx cH=[]) (hr:frc (ren (U4 idx H.length) x)=some y) (hH:Ql (Rf H idx (U4 idx H.length) (Q5 idx cH) cH')=some H')
  (hun:(idx.all (fun p=>!(unw L fs j).contains p)&&(unw L fs j).all (fun p=>Nat.blt p H.length)&&Nat.ble idx.length cH'.length)=true) (k:AS F L ls fs Hs (j+1) (s+1) l (put env d y) Q):AS F L ls fs Hs j s (o::l) env Q:=by
 obtain ⟨q1,_,q3⟩:=Nm h
 exact .inr (.inl ⟨y,H,H',h1,hf,q1,h2,h3,fun ps hps=>L18.g idx hc h hx hi hm ht hr hH hun ps hps,by rw [q3]; exact k⟩)
theorem AS.n (hC:A3 F.C){d:Option Nat}{t:TypeId}{cs:List A}{p:Nat}(h:A1j F.C L o env=some (d,t,cs))(hf:Wn fs j=some p)(hn:ls.contains j=false)(hr:K1h p (Hs.take (hiN L ls j+1))=L1h (some (.row cs t)) (Hs.take (hiN L ls j+1)))
  (k:AS F L ls fs Hs (j+1) s l (put env d (.ref p 0)) Q):AS F L ls fs Hs j s (o::l) env Q:=by
 obtain ⟨q1,q2,q3⟩:=R1k hC h
 exact .inr (.inr ⟨t,cs,p,hf,hn,q1,q3,G1g hr,by rw [q2]; exact k⟩)
end
end Go.Am

namespace Go.Am
end Go.Am

namespace Go.Am
section
variable {α:Type}{f:α→Row}{h:α→A}
end
end Go.Am

namespace Go.Am
section
variable {F:Fx}{L l:List Oper}{o:Oper}{env:Env}{ls:List Nat}{fs:List (Nat×Nat)}{Hs:List P0}{j i:Nat}{Q:Env→Prop}
end
end Go.Am

namespace Go.Am
def B1j (T:TT)(t:Nat)(parts:List (Nat×A)):Option A:=
 match X2 T t with
 | none=>none
 | some i=>match i.u with
  | .st fs=>(Oo (fun n=>(nth fs n).map fun f=>(f.2.1,f.2.2)) (i.zero.map zf) parts).map .agg
  | _=>none
section
variable {P:Program}{M:Mem}{G:Nat→Value}{w:World}
theorem D1p {T:TT}(hT:TOk P T){t:Nat}{parts:List (Nat×A)}{K1:Array (Nat×Value)}(hl:parts.length=K1.size)
  (hp:∀ (i:Nat) p q,parts[i]?=some p→K1[i]?=some q→p.1=q.1∧V0 M G p.2 q.2) {z:A} (h:B1j T t parts=some z):Nl P M G w (Instr.build t K1) z:=by
 unfold B1j at h
 split at h
 ·cases h
 ·rename_i i ht
  have f:=hT.facts ht
  obtain ⟨zv,hz1,hz2⟩:=I11 (M:=M) (G:=G) hT ht
  split at h
  ·rename_i fs hu
   obtain ⟨flds,hd,hf,hfl⟩:=W1f f hu
   cases ho:Oo (fun n=>(nth fs n).map fun f=>(f.2.1,f.2.2)) (i.zero.map zf) parts with
   | none=>rw [ho] at h; cases h
   | some out=>
    rw [ho] at h
    simp only [Option.map_some,Option.some.injEq] at h
    subst h
    obtain ⟨places,hp1,hp2⟩:=Z1c (P:=P) w flds (fun n f hn=>by
     obtain ⟨g,hg⟩:=hfl n f hn
     obtain ⟨f',e1,e2,_,_,_,e6⟩:=hf n g hg
     rw [hn] at e1
     cases e1
     rw [e2]; exact e6)
    have hsame:∀ n,places[n]?=((nth fs n).map fun f=>(f.2.1,f.2.2)):=fun n=>by
     rw [N3,hp2 n]
     cases hn:fs[n]? with
     | none=>
      have:flds[n]?=none:=by
       cases hfn:flds[n]? with
       | none=>rfl
       | some f=>obtain ⟨g,hg⟩:=hfl n f hfn; rw [hg] at hn; cases hn
      rw [this]; rfl
     | some g=>
      obtain ⟨f',e1,e2,e3,e4,_,_⟩:=hf n g hn
      rw [e1]
      simp [e2,e3,e4]
    have hfun:(fun n=>places[n]?)=(fun n=>(nth fs n).map fun f=>(f.2.1,f.2.2)):=funext hsame
    have:Oo (fun n=>places[n]?) (i.zero.map zf) parts=some out:=by rw [hfun]; exact ho
    obtain ⟨ws,g1,g2,g3,g4⟩:=Xx hz2 (by rw [Array.length_toList]; exact hl) (fun n p q a b=>hp n p q a (by simpa using b)) this
    refine ⟨.agg ws,?_,.agg g2 g3 g4⟩
    simp only [Instr.build,Sem.run_bind,hz1,Result.andThen_ok,run_underlying hd,hp1,g1,Sem.run_pure]
  ·cases h
end
def V12 (C:Cx)(L:List Oper)(o:Oper)(env:Env):Option (Option Nat×A):=
 match N1 L env o,o.op,Md o with
 | some true,.build t parts,some d=>match B1j C.T t (parts.toList.map fun p=>(p.1,ev C.GL env p.2)) with
  | some y=>match frc y with | some z=>some (d,z) | none=>none
  | none=>none
 | _,_,_=>none
theorem Z1m {C:Cx}{L:List Oper}{o:Oper}{env:Env}{d:Option Nat}{x:A}(h:V12 C L o env=some (d,x)):Md o=some d:=by
 unfold V12 at h
 split at h
 ·rename_i t parts d' hw ho hd
  split at h
  ·split at h
   ·simp only [Option.some.injEq,Prod.mk.injEq] at h
    rw [← h.1]; exact hd
   ·cases h
  ·cases h
 ·cases h
theorem H1g {C:Cx}(hC:A3 C){L:List Oper}{o:Oper}{env:Env}{H:P0}{d:Option Nat}{x:A}(h:V12 C L o env=some (d,x)):N1 L env o=some true∧Md o=some d∧Z8 C o env H x:=by
 have hdd:=Z1m h
 unfold V12 at h
 split at h
 ·rename_i t parts d' hw ho hd
  split at h
  ·rename_i y hb
   split at h
   ·rename_i z hz
    simp only [Option.some.injEq,Prod.mk.injEq] at h
    obtain ⟨rfl,rfl⟩:=h
    have:=Iu hz
    subst this
    refine ⟨hw,hd,?_⟩
    intro M G w a next Qw hρ hG _ hH hk
    have key:∃ v,(execOp a.eval o).run C.P w = .ok (.value v) w∧V0 M G z v:=by
     unfold execOp
     rw [ho] at hρ ⊢
     refine Lm (D1p hC.tok (by simp) (fun i p q hp hq=>?_) hb)
     simp only [List.getElem?_map,Array.getElem?_toList,Array.getElem?_map] at hp hq
     cases hpi:parts[i]? with
     | none=>rw [hpi] at hp; cases hp
     | some pr=>
      rw [hpi] at hp hq
      simp only [Option.map_some,Option.some.injEq] at hp hq
      subst hp; subst hq
      exact ⟨rfl,hρ _ (by simp only [Op.operands,List.mem_toArray,List.mem_map]; exact ⟨pr,by simpa using Array.mem_of_getElem? hpi,rfl⟩)⟩
    obtain ⟨v,h1,h2⟩:=key
    unfold Oper.wp
    rw [h1]
    exact hk v M w h2 hG (Ext.refl _ _ _)
   ·cases h
  ·cases h
 ·cases h
theorem K0.bz {F:Fx}(hC:A3 F.C){L l:List Oper}{o:Oper}{env:Env}{H:P0}{Q:Env→P0→Prop}{d:Option Nat}{x:A}(h:V12 F.C L o env=some (d,x))(k:K0 F L l (put env d x) H Q):K0 F L (o::l) env H Q:=by
 obtain ⟨h1,h2,h3⟩:=H1g (H:=H) hC h
 refine .yields h1 h3 ?_
 rw [S9 h2]
 exact k
theorem AQ.bz {C:Cx}(hC:A3 C){L l:List Oper}{o:Oper}{env:Env}{H:P0}{Q:Env→Prop}{d:Option Nat}{x:A}(h:V12 C L o env=some (d,x))(k:AQ C L l (put env d x) H Q):AQ C L (o::l) env H Q:=by
 obtain ⟨h1,h2,h3⟩:=H1g (H:=H) hC h
 exact ⟨d,_,S9 h2,.inl ⟨h1,h3⟩,k⟩
end Go.Am

namespace Go.Am
end Go.Am

namespace Go.Am
section
variable {F:Fx}{L l:List Oper}{o:Oper}{env:Env}{ls:List Nat}{fs:List (Nat×Nat)}{Hs:List P0}{j i:Nat}{Q:Env→Prop}
end
end Go.Am

namespace Go.Am
section
variable {α:Type}{f:α→Row}{g:List α→List Row}
end
end Go.Am

