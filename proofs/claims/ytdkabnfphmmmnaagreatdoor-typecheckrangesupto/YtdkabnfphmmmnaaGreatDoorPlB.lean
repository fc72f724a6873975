/- A part of the proof of TypecheckRanges. -/
import Derived.Test.YtdkabnfphmmmnaaGreatDoorPlA
import Derived.ProofKit
set_option linter.unusedSimpArgs false
set_option linter.unusedVariables false
namespace Go.Proofs.YtdkabnfphmmmnaaGreatDoor
open Go.Am
def Z6 (kind:Int)(nm:Str):List B0→Nat→Option Nat
 | [],_=>none
 | d::r,k=>bif (bif (d.Kind == kind) then (d.Name == nm) else false) then some k else Z6 kind nm r (k+1)
def V16:Option Nat→Int
 | none=>-1
 | some j=>(j:Int)
theorem U1z (kind:Int)(name:Str)(l:List B0)(hl:l.length≤BB):∀ (r:List B0) (k:Nat),l.drop k=r→M3 kind name l k=some (V16 (Z6 kind name r k))
 | [],k,h=>by
  rw [M3,(A1 h).1]
  rfl
 | d::r,k,h=>by
  obtain ⟨h1,h2,h3,h4,_⟩:=C1 h
  rw [M3,h1,h2]
  simp only [if_true,ob,Z6]
  cases (bif (d.Kind == kind) then (d.Name == name) else false) with
  | true=>rfl
  | false=>
   simp only [Bool.false_eq_true,if_false]
   rw [w1 (by omega)]
   exact U1z kind name l hl r (k+1) h3
theorem F1k {kind:Int}{nm:Str}{l:List B0}:∀ {r:List B0} {k j:Nat},l.drop k=r→Z6 kind nm r k=some j→∃ d,l[j]?=some d∧(d.Kind == kind)=true∧(d.Name == nm)=true
 | [],k,j,_,h=>by cases h
 | d::r,k,j,hd,h=>by
  obtain ⟨_,h2,h3,h4,_⟩:=C1 hd
  simp only [Z6] at h
  cases hc:(bif (d.Kind == kind) then (d.Name == nm) else false) with
  | true=>
   rw [hc] at h
   cases h
   refine ⟨d,by simpa using Di h2,?_⟩
   cases h5:d.Kind == kind with
   | true=>rw [h5] at hc; exact ⟨rfl,hc⟩
   | false=>rw [h5] at hc; cases hc
  | false=>rw [hc] at h; exact F1k h3 h
theorem B10 {kind:Int}{nm:Str}{ds:List B0}{n j:Nat}(h:Z6 kind nm (ds.take n) 0=some j):j < n∧j < ds.length∧idx ds (j:Int)=some (ds.getD j default)∧ds.getD j default∈ds∧((ds.getD j default).Kind == kind)=true∧((ds.getD j default).Name == nm)=true:=by
 obtain ⟨d,h1,h2,h3⟩:=F1k (l:=ds.take n) (k:=0) rfl h
 have h4:=(List.getElem?_eq_some_iff.1 h1).1
 rw [List.getElem?_take] at h1
 have hj:j < n∧j < ds.length:=by simp at h4; omega
 rw [if_pos hj.1] at h1
 have e:ds.getD j default=d:=by simp [List.getD,h1]
 obtain ⟨d',g1,_,g3⟩:=Uo (l:=ds) hj.2
 have:ds[j]?=some d':=by simpa using Di g1
 rw [this] at h1
 cases h1
 rw [e]
 exact ⟨hj.1,hj.2,g1,g3,h2,h3⟩
theorem Q1u {c:N0}{n:Nat}(h:J1h c n)(kind:Int)(name:Str):H7 c kind name c.atV=some (V16 (Z6 kind name (c.p.Decls.take n) 0)):=by
 unfold H7
 have hl:=h.p.okp.decls.len
 rw [h.at_,C1m h.le,ob]
 exact U1z kind name _ (by simp; omega) _ 0 rfl
mutual
def D0.root:D0→Str
 | .mk o _ s ks=>bif o == 3 then s else D0.roots s ks
def D0.roots:Str→List D0→Str
 | s,[]=>s
 | _,x::_=>D0.root x
end
theorem S23:∀ e:D0,J7 e=some e.root:=by
 intro e
 induction e using D0.ind with
 | h e ih=>
 rw [J7]
 obtain ⟨o,n,s,ks⟩:=e
 simp only [D0.root]
 cases ho:o == 3 with
 | true=>simp only [bne,ho]; rfl
 | false=>
  simp only [bne,ho]
  cases ks with
  | nil=>rfl
  | cons x r=>
   rw [decide_eq_true (show (((x::r).length:Nat):Int) > 0 by simp),show idx (x::r) 0=some x from rfl,ob]
   exact ih x List.mem_cons_self
def Bi (s:Option L0)(e:D0):A0×Int:=bif (tyS s e).2 != 0 then (zT,(tyS s e).2) else bif (Th s e.root).1.fixed then (zT,15) else ((tyS s e).1,0)
theorem T1r {s:Option L0}(h:SO s){e:D0}(ho:OkE e)(hf:e.all U1=true):Oa s e=some (Bi s e):=by
 unfold Oa Bi
 rw [N1c h ho hf,ob,show Mo e=J7 e from rfl,S23,ob,K1c,ob]
 exact ifO (fun _=>rfl) fun _=>ifB _ _ _
def Xm (s:Option L0)(e:D0):Int:=bif (bif (tyS s e).2 == 0 then (tyS s e).1.Kind != 0 else false) then 9 else (tyS s e).2
def V1w (s:Option L0)(e:D0):Int:=bif (bif (tyS s e).2 == 0 then !scT (tyS s e).1 else false) then 9 else (tyS s e).2
def asS (s:Option L0)(pl va:D0):Int:=bif (Bi s pl).2 != 0 then (Bi s pl).2 else A10 s va (Bi s pl).1
def Q1c (ds:List B0)(s:Option L0)(z:Int):List D0→List B0→Int
 | a::q,v::vs=>bif A10 s a (K2 ds v.TypeV).1 != 0 then A10 s a (K2 ds v.TypeV).1 else Q1c ds s z q vs
 | _,_=>z
def G1k (ds:List B0)(s:Option L0)(t:A0)(ar:List D0)(d:B0):Int:=
 bif (ar.length:Int) != (d.Params.length:Int) then 2 else Q1c ds s (bif !U16 (K2 ds d.TypeV).1 t true then 9 else 0) ar d.Params
def P11 (ds:List B0)(n:Nat)(s:Option L0)(pl:D0)(nm:Str)(ar:List D0):Int:=
 bif (Bi s pl).2 != 0 then (Bi s pl).2 else match Z6 6 nm (ds.take n) 0 with
  | none=>7
  | some j=>G1k (ds.take j) s (Bi s pl).1 ar (ds.getD j default)
def F1m (ds:List B0)(n:Nat)(loc:Bool)(s:Option L0)(pl:D0)(nm:Str):Int:=
 bif (Bi s pl).2 != 0 then (Bi s pl).2 else bif loc then 15 else match Z6 5 nm (ds.take n) 0 with
  | none=>7
  | some j=>bif !U16 (K2 (ds.take j) (ds.getD j default).TypeV).1 (Bi s pl).1 false then 9 else 0
def P7 (ds:List B0)(nm:Str):Bool:=ds.any fun d=>d.Name == nm
def Q11 (s:Option L0)(nm:Str)(lo hi:Int):Option L0:=some (.mk s [(nm,⟨nT lo hi,true⟩)])
mutual
def C0.st (ds:List B0)(n:Nat)(loc:Bool):C0→Option L0→Bool→Int
 | .mk v pl va nm ar _ lo hi _ th el,s,last=>
  bif v == 0 then asS s pl va else bif v == 1 then P11 ds n s pl nm ar else bif v == 2 then F1m ds n loc s pl nm else bif v == 3 then V1w s va
  else bif v == 5 then (bif Xm s va != 0 then Xm s va else bif C0.sts ds n loc th s false != 0 then C0.sts ds n loc th s false else C0.sts ds n loc el s false)
  else bif v == 6 then (bif Xm s va != 0 then Xm s va else C0.sts ds n loc th s false)
  else bif v == 7 then (bif (bif P7 ds nm then true else (Th s nm).2) then 8 else C0.sts ds n loc th (Q11 s nm lo hi) false)
  else bif v == 8 then (bif !last then 15 else 0) else 0
def C0.sts (ds:List B0)(n:Nat)(loc:Bool):List C0→Option L0→Bool→Int
 | [],_,_=>0
 | x::r,s,top=>bif C0.st ds n loc x s (bif top then r.isEmpty else false) != 0 then C0.st ds n loc x s (bif top then r.isEmpty else false) else C0.sts ds n loc r s top
end
theorem C0.st_eq (ds:List B0)(n:Nat)(loc:Bool)(x:C0)(s:Option L0)(last:Bool):x.st ds n loc s last =
  bif x.Verb == 0 then asS s x.Place x.Value else bif x.Verb == 1 then P11 ds n s x.Place x.Name x.Args else bif x.Verb == 2 then F1m ds n loc s x.Place x.Name else bif x.Verb == 3 then V1w s x.Value
  else bif x.Verb == 5 then (bif Xm s x.Value != 0 then Xm s x.Value else bif C0.sts ds n loc x.Then s false != 0 then C0.sts ds n loc x.Then s false else C0.sts ds n loc x.Else s false)
  else bif x.Verb == 6 then (bif Xm s x.Value != 0 then Xm s x.Value else C0.sts ds n loc x.Then s false)
  else bif x.Verb == 7 then (bif (bif P7 ds x.Name then true else (Th s x.Name).2) then 8 else C0.sts ds n loc x.Then (Q11 s x.Name x.Low x.High) false)
  else bif x.Verb == 8 then (bif !last then 15 else 0) else 0:=by cases x; simp only [C0.st]
theorem T23 {c:N0}{n:Nat}(hc:J1h c n){s:Option L0}(hs:SO s){x:C0}(ho:Pq x)(hp:x.Place.all U1=true)(ha:D0.alls U1 x.Args=true):Ga c s x=some (P11 c.p.Decls n s x.Place x.Name x.Args):=by
 unfold Ga P11
 rw [T1r hs ho.place hp,ob,Q1u hc,ob]
 refine ifO (fun _=>rfl) fun _=>?_
 cases hf:Z6 6 x.Name (c.p.Decls.take n) 0 with
 | none=>rfl
 | some j=>
  obtain ⟨_,hj,g3,g4,_,_⟩:=B10 hf
  show _=some (G1k (c.p.Decls.take j) s (Bi s x.Place).1 x.Args (c.p.Decls.getD j default))
  generalize c.p.Decls.getD j default=d at g3 g4 ⊢
  rw [show V16 (some j)=(j:Int) from rfl,decide_eq_false (by omega),g3]
  simp only [Bool.false_eq_true,if_false,ob]
  unfold G1k
  refine ifO (fun _=>rfl) fun hl=>?_
  have hl':x.Args.length=d.Params.length:=by
   have:(x.Args.length:Int)=(d.Params.length:Int):=by simpa [bne] using hl
   omega
  obtain ⟨sm1,sm2,_⟩:=hc.p.small d g4
  have main:∀ (q:List D0) (k:Nat),x.Args.drop k=q→N3 c s x (Bi s x.Place) d j k=some (Q1c (c.p.Decls.take j) s (bif !U16 (K2 (c.p.Decls.take j) d.TypeV).1 (Bi s x.Place).1 true then 9 else 0) q (d.Params.drop k)):=by
   intro q
   induction q with
   | nil=>
    intro k h
    rw [N3,(A1 h).1]
    simp only [Bool.false_eq_true,if_false,Q1c]
    rw [Xs hc.p (by omega) sm1,ob,Q1r (Dg (hc.p.dok.take j) sm1).2,ob]
    exact ifB _ _ _
   | cons a q ih=>
    intro k h
    obtain ⟨e1,e2,e3,e4,e5⟩:=C1 h
    obtain ⟨v,v1,v2,v3⟩:=Uo (l:=d.Params) (k:=k) (by omega)
    rw [N3,e1,e2,v2]
    simp only [if_true,ob,v1,Q1c]
    rw [Xs hc.p (by omega) (sm2 v v3),ob,D1k hs (ho.arg a e5) (D0.alls_mem ha e5),ob]
    have:=ho.args
    rw [w1 (by omega)]
    exact ifO (fun _=>rfl) fun _=>ih (k+1) e3
  exact main x.Args 0 rfl
theorem W1w {c:N0}{n:Nat}(hc:J1h c n){s:Option L0}(hs:SO s){x:C0}(ho:Pq x)(hp:x.Place.all U1=true):R7 c s x=some (F1m c.p.Decls n c.localV s x.Place x.Name):=by
 unfold R7 F1m
 rw [T1r hs ho.place hp,ob,Q1u hc,ob]
 refine ifO (fun _=>rfl) fun _=>ifO (fun _=>rfl) fun _=>?_
 cases hf:Z6 5 x.Name (c.p.Decls.take n) 0 with
 | none=>rfl
 | some j=>
  obtain ⟨_,hj,g3,g4,_,_⟩:=B10 hf
  have sm:=(hc.p.small _ g4).1
  rw [show V16 (some j)=(j:Int) from rfl,decide_eq_false (by omega),g3]
  simp only [Bool.false_eq_true,if_false,ob]
  rw [Xs hc.p (by omega) sm,ob,Q1r (Dg (hc.p.dok.take j) sm).2,ob]
  exact ifB _ _ _
def G1m (c:N0):Prop:=∀ nm,(mgt nm c.names).getD ebool.zero=P7 c.p.Decls nm
def SEq (c:N0)(n:Nat)(l:List C0):Prop:=WfS l→∀ s,SO s→∀ top,D2 c s l top=some (C0.sts c.p.Decls n c.localV l s top)
theorem U23 {c:N0}{n:Nat}(hc:J1h c n)(hN:G1m c){s:Option L0}(hs:SO s){x:C0}(ho:Pq x)(hf:sform x=true)(hn:snumb x=true)(wt:WfS x.Then∧WfS x.Else)(ih:SEq c n x.Then∧SEq c n x.Else)(last:Bool):Fe c s x last=some (x.st c.p.Decls n c.localV s last):=by
 obtain ⟨u1,u2,u3⟩:=Z1n hf
 rw [Fe,C0.st_eq]
 refine ifO (fun h=>?_) fun _=>ifO (fun h=>?_) fun _=>ifO (fun h=>?_) fun _=>ifO (fun h=>?_) fun _=>ifO (fun h=>?_) fun _=>ifO (fun h=>?_) fun _=>ifO (fun h=>?_) fun _=>ifO (fun _=>ifB _ _ _) fun _=>rfl
 ·have e:x.Verb=0:=by simpa using h
  unfold asS
  rw [T1r hs ho.place (u1 (by rw [e]; rfl)),ob,D1k hs ho.value (u2 (by rw [e]; rfl)),ob]
  exact ifB _ _ _
 ·have e:x.Verb=1:=by simpa using h
  rw [T23 hc hs ho (u1 (by rw [e]; rfl)) u3,ob]
 ·have e:x.Verb=2:=by simpa using h
  rw [W1w hc hs ho (u1 (by rw [e]; rfl)),ob]
 ·have e:x.Verb=3:=by simpa using h
  unfold V1w
  rw [N1c hs ho.value (u2 (by rw [e]; rfl)),ob]
  cases (tyS s x.Value).2 == 0 with
  | false=>rfl
  | true=>exact ifB _ _ _
 ·have e:x.Verb=5:=by simpa using h
  rw [P1u hs ho.value (u2 (by rw [e]; rfl)),ob,ih.1 wt.1 s hs,ob,ih.2 wt.2 s hs,ob]
  exact ifO (fun _=>rfl) fun _=>ifO (fun _=>rfl) fun _=>rfl
 ·have e:x.Verb=6:=by simpa using h
  rw [P1u hs ho.value (u2 (by rw [e]; rfl)),ob,ih.1 wt.1 s hs,ob]
  exact ifO (fun _=>rfl) fun _=>rfl
 ·have e:x.Verb=7:=by simpa using h
  rw [Hj,ob,hN]
  have h1:(if (!P7 c.p.Decls x.Name)=true then Ld s x.Name else some default)=some (bif P7 c.p.Decls x.Name then default else (Th s x.Name).2):=by
   unfold Ld
   rw [K1c,ob]
   cases P7 c.p.Decls x.Name <;> rfl
  rw [h1,ob,show I4 s=some ([],s) from rfl,ob,O14,ob,ob]
  show (((if (bif P7 c.p.Decls x.Name then true else (bif P7 c.p.Decls x.Name then default else (Th s x.Name).2))=true then some 8 else (D2 c (Q11 s x.Name x.Low x.High) x.Then false>>=fun x6=>some x6))>>=fun x9=>some x9)=_)
  rw [ih.1 wt.1 (Q11 s x.Name x.Low x.High) (hs.ext (m:=[(x.Name,⟨nT x.Low x.High,true⟩)]) fun q hq=>by rw [List.mem_singleton.1 hq]; exact ⟨R1r hn e,okn _ _⟩) false,ob]
  cases P7 c.p.Decls x.Name with
  | true=>rfl
  | false=>cases (Th s x.Name).2 <;> rfl
theorem Q22 {α:Type}{l r:List α}{x:α}{k:Nat}(h:l.drop k=x::r)(hl:l.length≤BB):((k:Int) == IntKind.i64.wrap ((l.length:Int) - 1))=r.isEmpty:=by
 obtain ⟨_,_,h3,h4,_⟩:=C1 h
 rw [wr (by unfold BB at hl; omega) (by unfold BB at hl; omega)]
 have h5:l.length=k+1+r.length:=by
  have:=congrArg List.length h3
  simp at this; omega
 cases r with
 | nil=>simp at h5; rw [h5]; simp
 | cons y q=>simp at h5; rw [h5]; simp; omega
theorem U1r {c:N0}{n:Nat}(hc:J1h c n)(hN:G1m c){l:List C0}(hw:WfS l)(ih:∀ x∈l,SEq c n x.Then∧SEq c n x.Else){s:Option L0}(hs:SO s)(top:Bool) :
  ∀ (r:List C0) (k:Nat),l.drop k=r→X4 c s l top k=some (C0.sts c.p.Decls n c.localV r s top)
 | [],k,h=>by
  rw [X4,(A1 h).1]
  rfl
 | x::r,k,h=>by
  obtain ⟨h1,h2,h3,h4,h5⟩:=C1 h
  have hl:=hw.ok.len
  rw [X4,h1,h2]
  simp only [if_true,ob,C0.sts]
  rw [Q22 h hl,U23 hc hN hs (hw.ok.mem h5) (Yi hw.form h5).1 (Yi hw.numb h5).1 (hw.kids h5) (ih x h5),ob,w1 (by omega)]
  exact ifO (fun _=>rfl) fun _=>U1r hc hN hw ih hs top r (k+1) h3
theorem V1r {c:N0}{n:Nat}(hc:J1h c n)(hN:G1m c)(l:List C0):SEq c n l:=by
 refine C0.inds (Q:=SEq c n) (fun l ih hw s hs top=>?_) l
 rw [D2]
 exact U1r hc hN hw ih hs top l 0 rfl
def fnM (ds:List B0):List B0→List (Str×P0)→List (Str×P0)×Int
 | [],m=>(m,0)
 | v::r,m=>bif (K2 ds v.TypeV).2 != 0 then ([],(K2 ds v.TypeV).2) else fnM ds r (mpt v.Name ⟨(K2 ds v.TypeV).1,false⟩ m)
theorem H1k (ds:List B0)(b:List B0):∀ (a:List B0) (m:List (Str×P0)),fnM ds (a++b) m=bif (fnM ds a m).2 != 0 then ([],(fnM ds a m).2) else fnM ds b (fnM ds a m).1
 | [],m=>rfl
 | v::r,m=>by
  simp only [List.cons_append,fnM]
  cases hc:(K2 ds v.TypeV).2 != 0 with
  | true=>simp only [cond_true,hc]
  | false=>exact H1k ds b r _
theorem W1r {ds:List B0}(hd:DOk ds):∀ {l:List B0} {m:List (Str×P0)},(∀ v∈l,v.TypeV.bulk≤4200000)→MF m→MF (fnM ds l m).1
 | [],m,_,hm=>hm
 | v::r,m,hl,hm=>by
  simp only [fnM]
  cases (K2 ds v.TypeV).2 != 0 with
  | true=>exact fun q hq=>by cases hq
  | false=>exact W1r hd (fun w hw=>hl w (List.mem_cons_of_mem _ hw)) (hm.put _ (Dg hd (hl v List.mem_cons_self)))
def fnS (ds:List B0)(i:Nat)(d:B0)(res:A0):Int:=
 bif (fnM (ds.take i) (d.Params++d.Vars) []).2 != 0 then (fnM (ds.take i) (d.Params++d.Vars) []).2 else
 bif C0.sts ds i true d.Body (some (.mk none (fnM (ds.take i) (d.Params++d.Vars) []).1)) false != 0 then C0.sts ds i true d.Body (some (.mk none (fnM (ds.take i) (d.Params++d.Vars) []).1)) false else
 A10 (some (.mk none (fnM (ds.take i) (d.Params++d.Vars) []).1)) d.Value res
theorem D1t {c:N0}(hc:CkP c.p)(hN:G1m c){i:Nat}(hi:i < c.p.Decls.length)(res:A0){d:B0}(g1:idx c.p.Decls i=some d)(g3:d∈c.p.Decls)(hk6:d.Kind=6):W6 c i res=some (fnS c.p.Decls i d res):=by
 obtain ⟨sm1,sm2,sm3⟩:=hc.small d g3
 have od:=hc.okp.decls.mem g3
 obtain ⟨df,dn⟩:=hc.dec g3
 unfold W6
 rw [g1,ob,show I4 none=some ([],none) from rfl,ob]
 have bf:C0.alls sform d.Body=true∧d.Value.all U1=true:=by
  unfold dform at df
  simp only [Bool.and_eq_true] at df
  refine ⟨df.2,?_⟩
  have:=df.1.1.1.1.1.2
  rw [show uV2 d.Kind=true by rw [hk6]; rfl] at this
  exact this
 have bn:C0.alls snumb d.Body=true:=by
  unfold dnumb at dn
  simp only [Bool.and_eq_true] at dn
  exact dn.2
 have end_:∀ m,MF m→Y1 c i res d m ([],none) (2:Nat)=some (bif C0.sts c.p.Decls i true d.Body (some (.mk none m)) false != 0 then C0.sts c.p.Decls i true d.Body (some (.mk none m)) false else A10 (some (.mk none m)) d.Value res):=fun m hm=>by
  rw [Y1,show decide (((2:Nat):Int) < (([d.Params,d.Vars]).length:Int))=false from rfl]
  simp only [Bool.false_eq_true,if_false,ob]
  have hs:SO (some (.mk none m)):=SO.none.ext hm
  have hcc:J1h (N0.mk c.p i true c.names) i:=⟨hc,rfl,by simp only; omega⟩
  rw [V1r hcc hN d.Body ⟨od.body,bf.1,bn⟩ _ hs false,ob,D1k hs od.value bf.2,ob]
  exact ifO (fun _=>rfl) fun _=>rfl
 have inner:∀ (l:List B0),(∀ v∈l,v.TypeV.bulk≤4200000)→l.length≤BB→∀ (v:Nat),v≤5→
   ∀ (r:List B0) (k:Nat) (m:List (Str×P0)),l.drop k=r→F4 c i res d m ([],none) v l k=if ((fnM (c.p.Decls.take i) r m).2 != 0)=true then some (fnM (c.p.Decls.take i) r m).2 else Y1 c i res d (fnM (c.p.Decls.take i) r m).1 ([],none) ((v+1:Nat):Int):=by
  intro l hl hb v hv r
  induction r with
  | nil=>
   intro k m h
   rw [F4,(A1 h).1]
   simp only [Bool.false_eq_true,if_false]
   rw [w1 (by unfold BB; omega)]
   rfl
  | cons y r ih=>
   intro k m h
   obtain ⟨e1,e2,e3,e4,e5⟩:=C1 h
   rw [F4,e1,e2]
   simp only [if_true,ob,fnM]
   rw [H1h hc (by omega) (hl y e5),ob,w1 (by omega)]
   by_cases hz:((K2 (c.p.Decls.take i) y.TypeV).2 != 0)=true
   ·simp only [if_true,cond_true,hz]
   ·simp only [Bool.not_eq_true] at hz
    simp only [hz,Bool.false_eq_true,if_false,cond_false]
    exact ih (k+1) _ e3
 rw [show (0:Int)=((0:Nat):Int) from rfl,Y1,show decide (((0:Nat):Int) < (([d.Params,d.Vars]).length:Int))=true from rfl,show idx [d.Params,d.Vars] ((0:Nat):Int)=some d.Params from rfl]
 simp only [if_true,ob]
 have p1:=inner d.Params sm2 od.params.len 0 (by omega) d.Params 0 [] rfl
 rw [show ((0:Nat):Int)=0 from rfl] at p1 ⊢
 rw [p1]
 unfold fnS
 rw [H1k]
 cases hz:(fnM (c.p.Decls.take i) d.Params []).2 != 0 with
 | true=>simp only [if_true,cond_true,hz]
 | false=>
  simp only [Bool.false_eq_true,if_false,cond_false]
  rw [Y1,show decide (((0+1:Nat):Int) < (([d.Params,d.Vars]).length:Int))=true from rfl,show idx [d.Params,d.Vars] ((0+1:Nat):Int)=some d.Vars from rfl]
  simp only [if_true,ob]
  have p2:=inner d.Vars sm3 od.vars.len 1 (by omega) d.Vars 0 (fnM (c.p.Decls.take i) d.Params []).1 rfl
  rw [show ((0:Nat):Int)=0 from rfl] at p2
  rw [show ((0+1:Nat):Int)=((1:Nat):Int) from rfl,p2,show ((1+1:Nat):Int)=((2:Nat):Int) from rfl,
   end_ _ (W1r (hc.dok.take i) sm3 (W1r (hc.dok.take i) sm2 fun q hq=>by cases hq))]
  exact ifO (fun _=>rfl) fun _=>rfl
def Ym (p:I0)(i:Nat)(d:B0):Int:=
 bif (K2 (p.Decls.take i) d.TypeV).2 != 0 then (K2 (p.Decls.take i) d.TypeV).2
 else bif d.Kind == 5 then (bif !scT (K2 (p.Decls.take i) d.TypeV).1 then 9 else A10 (inS p i false) d.Value (K2 (p.Decls.take i) d.TypeV).1)
 else bif d.Kind == 6 then fnS p.Decls i d (K2 (p.Decls.take i) d.TypeV).1 else 0
theorem V23 {c:N0}(hc:CkP c.p)(hN:G1m c){i:Nat}{d:B0}(hi:i < c.p.Decls.length)(g1:idx c.p.Decls i=some d)(g3:d∈c.p.Decls):Ha c i=some (Ym c.p i d):=by
 have sm1:=(hc.small d g3).1
 obtain ⟨df,dn⟩:=hc.dec g3
 unfold Ha Ym
 rw [g1,ob,H1h hc (by omega) sm1,ob]
 refine ifO (fun _=>rfl) fun _=>ifO (fun h5=>?_) fun _=>ifO (fun h6=>?_) fun _=>rfl
 ·have e:d.Kind=5:=by simpa using h5
  rw [show R6 (K2 (List.take i c.p.Decls) d.TypeV).1=some (scT (K2 (List.take i c.p.Decls) d.TypeV).1) from rfl,ob]
  refine ifO (fun _=>rfl) fun _=>?_
  have vf:d.Value.all U1=true:=by
   unfold dform at df
   simp only [Bool.and_eq_true] at df
   have:=df.1.1.1.1.1.2
   rw [show uV2 d.Kind=true by rw [e]; rfl] at this
   exact this
  rw [O1c hc (by omega),ob,D1k (P1c hc i false) (hc.okp.decls.mem g3).value vf,ob]
 ·have e:d.Kind=6:=by simpa using h6
  rw [D1t hc hN hi _ g1 g3 e,ob]
end Go.Proofs.YtdkabnfphmmmnaaGreatDoor

set_option linter.unusedSimpArgs false
set_option linter.unusedVariables false
namespace Go.Proofs.YtdkabnfphmmmnaaGreatDoor
open Go.Am
theorem Ku {α:Type}(k k':Str)(x:α):∀ m:List (Str×α),mgt k (mpt k' x m)=bif k == k' then some x else mgt k m
 | []=>rfl
 | (a,y)::r=>by
  simp only [mpt]
  cases h1:k' == a with
  | true=>
   have e:k'=a:=eq_of_beq h1
   subst e
   simp only [cond_true,mgt]
   cases k == k' <;> rfl
  | false=>
   simp only [cond_false,mgt]
   rw [Ku k k' x r]
   cases h2:k == a with
   | false=>rfl
   | true=>
    have e:k=a:=eq_of_beq h2
    subst e
    have:(k == k')=false:=by
     rw [beq_eq_false_iff_ne] at h1 ⊢
     exact fun h=>h1 h.symm
    rw [this]; rfl
def Sn (m:List (Str×Bool))(seen:List Str):Prop:=∀ nm,(mgt nm m).getD ebool.zero=seen.any fun y=>y == nm
theorem Sn.nil:Sn [] []:=fun nm=>rfl
theorem L1h (a b:Str):(a == b)=(b == a):=by
 cases h:b == a with
 | true=>rw [eq_of_beq h]; exact beq_self_eq_true a
 | false=>rw [beq_eq_false_iff_ne] at h ⊢; exact fun e=>h e.symm
theorem Sn.put {m:List (Str×Bool)}{seen:List Str}(h:Sn m seen)(x:Str):Sn (mpt x true m) (x::seen):=fun nm=>by
 rw [Ku,List.any_cons,L1h nm x]
 cases x == nm with
 | true=>rfl
 | false=>exact h nm
def Ys (ds:List B0):List B0→List Str→Bool
 | [],_=>false
 | v::r,seen=>bif (bif P7 ds v.Name then true else seen.any fun y=>y == v.Name) then true else Ys ds r (v.Name::seen)
def Lh (ds:List B0):List B0→List Str→Nat→Int
 | [],_,_=>-1
 | d::r,seen,k=>bif seen.any (fun y=>y == d.Name) then (k:Int) else bif Ys ds (d.Params++d.Vars) [] then (k:Int) else Lh ds r (d.Name::seen) (k+1)
theorem Z24 {c:N0}(hc:OkP c.p)(hN:G1m c):G6 c=some (Lh c.p.Decls c.p.Decls [] 0):=by
 have hl:=hc.decls.len
 have outer:∀ (r:List B0) (k:Nat) (m:List (Str×Bool)) (seen:List Str),c.p.Decls.drop k=r→Sn m seen→Q2 c m k=some (Lh c.p.Decls r seen k):=by
  intro r
  induction r with
  | nil=>
   intro k m seen h hs
   rw [Q2,(A1 h).1]
   rfl
  | cons d r ih=>
   intro k m seen h hs
   obtain ⟨e1,e2,e3,e4,e5⟩:=C1 h
   have od:=hc.decls.mem e5
   rw [Q2,e1,e2]
   simp only [if_true,ob,Lh]
   rw [hs d.Name]
   refine ifO (fun _=>rfl) fun _=>?_
   have end_:∀ m2,W1 c (mpt d.Name true m) m2 k k d (2:Nat)=some (Lh c.p.Decls r (d.Name::seen) (k+1)):=fun m2=>by
    rw [W1,show decide (((2:Nat):Int) < (([d.Params,d.Vars]).length:Int))=false from rfl]
    simp only [Bool.false_eq_true,if_false]
    rw [w1 (by omega)]
    exact ih (k+1) _ _ e3 (hs.put d.Name)
   have inner:∀ (l:List B0),l.length≤BB→∀ (v:Nat),v≤5→∀ (t:List B0),(∀ m2 sn,Sn m2 sn→W1 c (mpt d.Name true m) m2 k k d ((v+1:Nat):Int)=some (bif Ys c.p.Decls t sn then (k:Int) else Lh c.p.Decls r (d.Name::seen) (k+1)))→
     ∀ (q:List B0) (j:Nat) (m2:List (Str×Bool)) (sn:List Str),l.drop j=q→Sn m2 sn→W3 c (mpt d.Name true m) m2 k k d v l j=some (bif Ys c.p.Decls (q++t) sn then (k:Int) else Lh c.p.Decls r (d.Name::seen) (k+1)):=by
    intro l hb v hv t hK q
    induction q with
    | nil=>
     intro j m2 sn h hs2
     rw [W3,(A1 h).1]
     simp only [Bool.false_eq_true,if_false]
     rw [w1 (by unfold BB; omega)]
     exact hK m2 sn hs2
    | cons y q ih2=>
     intro j m2 sn h hs2
     obtain ⟨f1,f2,f3,f4,f5⟩:=C1 h
     rw [W3,f1,f2]
     simp only [if_true,ob,List.cons_append,Ys]
     rw [hN y.Name,hs2 y.Name,w1 (by omega)]
     cases (bif P7 c.p.Decls y.Name then true else sn.any fun z=>z == y.Name) with
     | true=>rfl
     | false=>exact ih2 (j+1) _ _ f3 (hs2.put y.Name)
   have two:∀ m2 sn,Sn m2 sn→W1 c (mpt d.Name true m) m2 k k d ((1+1:Nat):Int)=some (bif Ys c.p.Decls [] sn then (k:Int) else Lh c.p.Decls r (d.Name::seen) (k+1)):=fun m2 sn _=>end_ m2
   have one:∀ m2 sn,Sn m2 sn→W1 c (mpt d.Name true m) m2 k k d ((0+1:Nat):Int)=some (bif Ys c.p.Decls d.Vars sn then (k:Int) else Lh c.p.Decls r (d.Name::seen) (k+1)):=fun m2 sn hs2=>by
    rw [W1,show decide (((0+1:Nat):Int) < (([d.Params,d.Vars]).length:Int))=true from rfl,show idx [d.Params,d.Vars] ((0+1:Nat):Int)=some d.Vars from rfl]
    simp only [if_true,ob]
    have:=inner d.Vars od.vars.len 1 (by omega) [] two d.Vars 0 m2 sn rfl hs2
    rw [List.append_nil] at this
    exact this
   rw [show (0:Int)=((0:Nat):Int) from rfl,W1,show decide (((0:Nat):Int) < (([d.Params,d.Vars]).length:Int))=true from rfl,show idx [d.Params,d.Vars] ((0:Nat):Int)=some d.Params from rfl]
   simp only [if_true,ob]
   exact (inner d.Params od.params.len 0 (by omega) d.Vars one d.Params 0 _ _ rfl .nil).trans (ifB _ _ _ ▸ by cases Ys c.p.Decls (d.Params++d.Vars) [] <;> rfl)
 exact outer c.p.Decls 0 [] [] rfl .nil
def plI (a b:Int):Int:=min (wi (a+b)) 1073741824
def tmI (a b:Int):Int:=min (wi (a * b)) 1073741824
def adA (a b:O0):O0:=⟨plI a.steps b.steps,plI a.outputs b.outputs⟩
def rdA (n:Int)(b:O0):O0:=⟨tmI n (plI 1 b.steps),tmI n b.outputs⟩
def mxA (a b:O0):O0:=⟨max a.steps b.steps,max a.outputs b.outputs⟩
mutual
def C0.am (m:List (Str×O0)):C0→O0
 | .mk v _ _ nm _ n lo hi _ th el=>bif v == 3 then ⟨0,1⟩ else bif v == 1 then (mgt nm m).getD O0.zero else bif v == 5 then mxA (C0.ams m th ⟨0,0⟩) (C0.ams m el ⟨0,0⟩)
  else bif v == 6 then rdA n (C0.ams m th ⟨0,0⟩) else bif v == 7 then rdA (wi (wi (hi - lo)+1)) (C0.ams m th ⟨0,0⟩) else ⟨0,0⟩
def C0.ams (m:List (Str×O0)):List C0→O0→O0
 | [],a=>a
 | x::r,a=>C0.ams m r (adA (adA a ⟨1,0⟩) (C0.am m x))
end
theorem C0.am_eq (m:List (Str×O0))(x:C0):x.am m=bif x.Verb == 3 then ⟨0,1⟩ else bif x.Verb == 1 then (mgt x.Name m).getD O0.zero else bif x.Verb == 5 then mxA (C0.ams m x.Then ⟨0,0⟩) (C0.ams m x.Else ⟨0,0⟩)
  else bif x.Verb == 6 then rdA x.NV (C0.ams m x.Then ⟨0,0⟩) else bif x.Verb == 7 then rdA (wi (wi (x.High - x.Low)+1)) (C0.ams m x.Then ⟨0,0⟩) else ⟨0,0⟩:=by cases x; simp only [C0.am]
theorem R1u (m:List (Str×O0))(l:List C0):OkS l→E2 l m=some (C0.ams m l ⟨0,0⟩):=by
 refine C0.inds (Q:=fun l=>OkS l→E2 l m=some (C0.ams m l ⟨0,0⟩)) (fun l ih ho=>?_) l
 have one:∀ x∈l,Ge x m=some (x.am m):=fun x hx=>by
  have o1:=ho.mem hx
  rw [Ge,C0.am_eq]
  refine ifO (fun _=>rfl) fun _=>ifO (fun _=>rfl) fun _=>ifO (fun _=>?_) fun _=>ifO (fun _=>?_) fun _=>ifO (fun _=>?_) fun _=>rfl
  ·rw [(ih x hx).1 o1.thens,ob,(ih x hx).2 o1.elses]; rfl
  ·rw [(ih x hx).1 o1.thens]; rfl
  ·rw [(ih x hx).1 o1.thens]; rfl
 have main:∀ (r:List C0) (k:Nat) (a:O0),l.drop k=r→Y4 l m a k=some (C0.ams m r a):=by
  intro r
  induction r with
  | nil=>
   intro k a h
   rw [Y4,(A1 h).1]
   rfl
  | cons x r ih2=>
   intro k a h
   obtain ⟨e1,e2,e3,e4,e5⟩:=C1 h
   have:=ho.len
   rw [Y4,e1,e2]
   simp only [if_true,ob]
   rw [show C9 a (O0.mk 1 0)=some (adA a ⟨1,0⟩) from rfl,ob,one x e5,ob,show C9 (adA a ⟨1,0⟩) (x.am m)=some (adA (adA a ⟨1,0⟩) (x.am m)) from rfl,ob,w1 (by omega)]
   exact ih2 (k+1) _ e3
 rw [E2]
 exact main l 0 _ rfl
def amM:List B0→List (Str×O0)→List (Str×O0)
 | [],m=>m
 | d::r,m=>amM r (bif d.Kind == 6 then mpt d.Name (C0.ams m d.Body ⟨0,0⟩) m else m)
def amP (p:I0):O0:=C0.ams (amM p.Decls []) p.Body ⟨0,0⟩
theorem I1k (p:I0)(hp:OkP p):Nf p=some (amP p):=by
 have hl:=hp.decls.len
 have main:∀ (r:List B0) (k:Nat) (m:List (Str×O0)),p.Decls.drop k=r→G4 p m k=some (C0.ams (amM r m) p.Body ⟨0,0⟩):=by
  intro r
  induction r with
  | nil=>
   intro k m h
   rw [G4,(A1 h).1]
   simp only [Bool.false_eq_true,if_false]
   rw [R1u m p.Body hp.body]
   rfl
  | cons d r ih=>
   intro k m h
   obtain ⟨e1,e2,e3,e4,e5⟩:=C1 h
   rw [G4,e1,e2]
   simp only [if_true,ob,amM]
   rw [w1 (by omega),R1u m d.Body (hp.decls.mem e5).body,ob]
   cases d.Kind == 6 with
   | true=>exact ih (k+1) _ e3
   | false=>exact ih (k+1) m e3
 exact main p.Decls 0 [] rfl
def prS:List R0→Int→Int
 | [],n=>n
 | y::r,n=>prS r (tmI n (wi (wi (y.High - y.Low)+1)))
def Lu (ds:List B0):List B0→Nat→List (Int×Int)→Int→Int→List (Int×Int)×Int×Int
 | [],_,m,a,b=>(m,a,b)
 | d::r,k,m,a,b=>
  bif (bif !(Z7 d.Kind m).isSome then d.Kind != 4 else false) then Lu ds r (k+1) m a (bif d.Kind == 5 then wi (b+1) else b)
  else Lu ds r (k+1) (bif (Z7 d.Kind m).isSome then Kr d.Kind (prS (Ra (K2 (ds.take k) d.TypeV).1).1 ((Z7 d.Kind m).getD ei64.zero)) m else m)
   (wi (a+((Ra (K2 (ds.take k) d.TypeV).1).1.length:Int))) (bif d.Kind == 5 then wi (b+1) else b)
def R1c (z:List (Int×Int)×Int×Int)(a:O0):Bool:=
 decide (z.2.1 > 64)||(decide (z.2.2 > 8)||(decide ((Z7 1 z.1).getD ei64.zero > 4096)||(decide ((Z7 2 z.1).getD ei64.zero > 4096)||(decide ((Z7 3 z.1).getD ei64.zero > 256)||(decide (a.steps > 4096)||decide (a.outputs > 8))))))
def A22:List (Int×Int):=Kr 3 1 (Kr 2 1 (Kr 1 1 []))
def M1h (p:I0):Int:=bif R1c (Lu p.Decls p.Decls 0 A22 0 0) (amP p) then 4 else 0
theorem V1z {c:N0}(hc:CkP c.p):Bc c=some (M1h c.p):=by
 have hl:=hc.okp.decls.len
 have main:∀ (r:List B0) (k:Nat) (m:List (Int×Int)) (a b:Int),c.p.Decls.drop k=r→F2 c m a b k=some (bif R1c (Lu c.p.Decls r k m a b) (amP c.p) then 4 else 0):=by
  intro r
  induction r with
  | nil=>
   intro k m a b h
   rw [F2,(A1 h).1]
   simp only [Bool.false_eq_true,if_false]
   rw [I1k c.p hc.okp]
   simp only [ob]
   show _=some (bif decide (a > 64)||(decide (b > 8)||(decide ((Z7 1 m).getD ei64.zero > 4096)||(decide ((Z7 2 m).getD ei64.zero > 4096)||(decide ((Z7 3 m).getD ei64.zero > 256)||(decide ((amP c.p).steps > 4096)||decide ((amP c.p).outputs > 8)))))) then 4 else 0)
   cases decide (a > 64)
   case true=>rfl
   cases decide (b > 8)
   case true=>rfl
   cases decide ((Z7 1 m).getD ei64.zero > 4096)
   case true=>rfl
   cases decide ((Z7 2 m).getD ei64.zero > 4096)
   case true=>rfl
   cases decide ((Z7 3 m).getD ei64.zero > 256)
   case true=>rfl
   cases decide ((amP c.p).steps > 4096)
   case true=>rfl
   cases decide ((amP c.p).outputs > 8) <;> rfl
  | cons d r ih=>
   intro k m a b h
   obtain ⟨e1,e2,e3,e4,e5⟩:=C1 h
   have sm:=(hc.small d e5).1
   rw [F2,e1,e2]
   simp only [if_true,ob,Lu]
   have j2:∀ b',H6 c m d a b' k (Z7 d.Kind m) k=some (bif R1c (bif (bif !(Z7 d.Kind m).isSome then d.Kind != 4 else false) then Lu c.p.Decls r (k+1) m a b'
     else Lu c.p.Decls r (k+1) (bif (Z7 d.Kind m).isSome then Kr d.Kind (prS (Ra (K2 (c.p.Decls.take k) d.TypeV).1).1 ((Z7 d.Kind m).getD ei64.zero)) m else m) (wi (a+((Ra (K2 (c.p.Decls.take k) d.TypeV).1).1.length:Int))) b') (amP c.p) then 4 else 0):=fun b'=>by
    rw [H6,w1 (by omega)]
    cases (bif !(Z7 d.Kind m).isSome then d.Kind != 4 else false) with
    | true=>exact ih (k+1) m a b' e3
    | false=>
     simp only [Bool.false_eq_true,if_false,cond_false]
     have ho:=(Dg (hc.dok.take k) sm).2
     rw [Xs hc (by omega) sm,ob,P1w _ ho,ob]
     have hb:=S1r ho
     have inner:∀ (q:List R0) (j:Nat) (n a':Int),(Ra (K2 (c.p.Decls.take k) d.TypeV).1).1.drop j=q→U3 c m d a' b' n (Z7 d.Kind m) k (Ra (K2 (c.p.Decls.take k) d.TypeV).1) j =
       some (bif R1c (Lu c.p.Decls r (k+1) (bif (Z7 d.Kind m).isSome then Kr d.Kind (prS q n) m else m) a' b') (amP c.p) then 4 else 0):=by
      intro q
      induction q with
      | nil=>
       intro j n a' h
       rw [U3,(A1 h).1]
       simp only [Bool.false_eq_true,if_false]
       rw [w1 (by omega)]
       cases (Z7 d.Kind m).isSome with
       | true=>exact ih (k+1) _ a' b' e3
       | false=>exact ih (k+1) m a' b' e3
      | cons y q ih2=>
       intro j n a' h
       obtain ⟨f1,f2,f3,f4,f5⟩:=C1 h
       rw [U3,f1,f2]
       simp only [if_true,ob,prS]
       rw [w1 (by omega),show We n (IntKind.i64.wrap (IntKind.i64.wrap (y.High - y.Low)+1))=some (tmI n (wi (wi (y.High - y.Low)+1))) from rfl,ob]
       have t:=ih2 (j+1) (tmI n (wi (wi (y.High - y.Low)+1))) a' f3
       have f:=ih2 (j+1) n a' f3
       cases hs:(Z7 d.Kind m).isSome with
       | true=>rw [hs] at t; exact t
       | false=>rw [hs] at f; exact f
     exact inner _ 0 _ _ rfl
   cases d.Kind == 5 with
   | true=>exact j2 _
   | false=>exact j2 b
 exact main c.p.Decls 0 _ 0 0 rfl
def Qq (p:I0):List B0→Nat→Option (Int×Int)
 | [],_=>none
 | d::r,k=>bif Ym p k d != 0 then some ((k:Int),Ym p k d) else Qq p r (k+1)
def Mu (p:I0):Int:=C0.sts p.Decls p.Decls.length false p.Body (inS p p.Decls.length true) true
def tck (p:I0):Int×Int:=
 bif Us p != 0 then (-1,Us p) else bif decide (Lh p.Decls p.Decls [] 0≥0) then (Lh p.Decls p.Decls [] 0,8) else
 match Qq p p.Decls 0 with
 | some z=>z
 | none=>bif Mu p != 0 then (-1,Mu p) else (-1,M1h p)
theorem J1k {p:I0}(hb:p.bulk≤4200000):B6 p=some (tck p):=by
 unfold B6 tck
 rw [M21 p (G1c hb),ob]
 refine ifO (fun _=>rfl) fun hc=>?_
 have hp:=CkP.of hb (by simpa using hc)
 have hl:=hp.okp.decls.len
 have nms:∀ (r:List B0) (k:Nat) (m:List (Str×Bool)) (l:List B0),p.Decls.drop k=r→p.Decls=l++r→(∀ nm,(mgt nm m).getD ebool.zero=P7 l nm)→
   ∃ m',I6 p m k=(some (N0.mk p ((p.Decls).length:Int) false m')>>=fun x3=>G6 x3>>=fun x4=>if (decide (x4≥0))=true then some (x4,8) else C5 p x3 0)∧∀ nm,(mgt nm m').getD ebool.zero=P7 p.Decls nm:=by
  intro r
  induction r with
  | nil=>
   intro k m l h hr hm
   rw [I6,(A1 h).1]
   simp only [Bool.false_eq_true,if_false]
   exact ⟨m,rfl,by rw [hr,List.append_nil]; exact hm⟩
  | cons d r ih=>
   intro k m l h hr hm
   obtain ⟨h1,h2,h3,h4,_⟩:=C1 h
   rw [I6,h1,h2]
   simp only [if_true,ob]
   rw [w1 (by omega)]
   refine ih (k+1) _ (l++[d]) h3 (by rw [hr]; simp) fun nm=>?_
   rw [Ku]
   unfold P7 at hm ⊢
   rw [List.any_append,List.any_cons,List.any_nil,Bool.or_false,← hm nm,L1h nm d.Name]
   cases d.Name == nm with
   | true=>simp
   | false=>simp
 obtain ⟨m,e,hN⟩:=nms p.Decls 0 [] [] rfl rfl fun nm=>rfl
 rw [show (0:Int)=((0:Nat):Int) from rfl,e]
 simp only [ob]
 rw [Z24 (c:=N0.mk p (p.Decls.length:Int) false m) hp.okp hN,ob]
 refine ifO (fun _=>rfl) fun _=>?_
 have main:∀ (r:List B0) (k:Nat),p.Decls.drop k=r→C5 p (N0.mk p (p.Decls.length:Int) false m) k=some (match Qq p r k with | some z=>z | none=>bif Mu p != 0 then (-1,Mu p) else (-1,M1h p)):=by
  intro r
  induction r with
  | nil=>
   intro k h
   rw [C5,(A1 h).1]
   simp only [Bool.false_eq_true,if_false]
   rw [O1c (c:=N0.mk p (p.Decls.length:Int) false m) hp (Nat.le_refl _),ob,
    V1r (c:=N0.mk p (p.Decls.length:Int) false m) (n:=p.Decls.length) ⟨hp,rfl,Nat.le_refl _⟩ hN p.Body ⟨hp.okp.body,hp.sform,hp.snumb⟩ _ (P1c hp _ true) true,ob,
    V1z (c:=N0.mk p (p.Decls.length:Int) false m) hp,ob]
   exact ifB _ _ _
  | cons d r ih=>
   intro k h
   obtain ⟨h1,h2,h3,h4,h5⟩:=C1 h
   rw [C5,h1]
   simp only [if_true,Qq]
   rw [V23 (c:=N0.mk p (p.Decls.length:Int) false m) hp hN h4 h2 h5,ob,w1 (by omega)]
   cases hz:Ym p k d != 0 with
   | true=>simp only [hz,if_true,cond_true]
   | false=>simp only [hz,Bool.false_eq_true,if_false,cond_false]; exact ih (k+1) h3
 exact main p.Decls 0 rfl
end Go.Proofs.YtdkabnfphmmmnaaGreatDoor

set_option linter.unusedSimpArgs false
set_option linter.unusedVariables false
namespace Go.Proofs.YtdkabnfphmmmnaaGreatDoor
open Go.Am
theorem X1r {α:Type}{l:List α}{k:Nat}(h:k < l.length):idx l (k:Int)=some l[k]:=by
 unfold idx
 rw [if_pos (by omega)]
 simp [h]
theorem I25 {α:Type}{l:List α}{k:Nat}(h:k < l.length):(l.take (k+1)).reverse=l[k]::(l.take k).reverse:=by
 rw [List.take_succ_eq_append_getElem h,List.reverse_append]
 rfl
def zV:J0:=⟨[],zT,false⟩
def fdV (l:List J0)(nm:Str):Option J0:=l.reverse.find? fun v=>v.Name == nm
theorem S1u (S:T0)(nm:Str)(hl:S.Vars.length≤4611686018427387904):∀ k:Nat,k≤S.Vars.length→Cd S nm ((k:Int) - 1)=some (match fdV (S.Vars.take k) nm with | some v=>(v,true) | none=>(zV,false))
 | 0,_=>by
  rw [Cd,decide_eq_false (by omega)]
  rfl
 | k+1,h=>by
  have e:((k+1:Nat):Int) - 1=(k:Int):=by omega
  rw [Cd,e,decide_eq_true (by omega),X1r (by omega)]
  simp only [if_true,ob]
  unfold fdV
  rw [I25 (by omega),List.find?_cons,wr (by omega) (by omega),S1u S nm hl k (by omega)]
  cases S.Vars[k].Name == nm with
  | true=>rfl
  | false=>rfl
theorem Y1r (S:T0)(nm:Str)(hl:S.Vars.length≤4611686018427387904):Ag S nm=some (match fdV S.Vars nm with | some v=>(v,true) | none=>(zV,false)):=by
 unfold Ag
 rw [wr (by omega) (by omega),S1u S nm hl _ (Nat.le_refl _),List.take_length]
def RV (l:List J0)(s:Option L0):Prop:=∀ nm,(fdV l nm).map (fun v=>(v.TypeV,v.Fixed))=(lkO nm s).map fun v=>(v.typ,v.fixed)
theorem Mf (a b:Int):B4 a b=some (min a b):=by
 unfold B4
 by_cases h:a < b
 ·rw [decide_eq_true h,if_pos rfl,show min a b=a by omega]
 ·rw [decide_eq_false h,if_neg (by simp),show min a b=b by omega]
theorem Mg (a b:Int):Y3 a b=some (max a b):=by
 unfold Y3
 by_cases h:a > b
 ·rw [decide_eq_true h,if_pos rfl,show max a b=a by omega]
 ·rw [decide_eq_false h,if_neg (by simp),show max a b=b by omega]
theorem Ao (a b:Int):A4 a b=some (nT a b):=rfl
theorem K1k (a b:Int):Kf (nT a b)=some (Cg (nT a b)):=ifB _ _ _
def cn (o:Int)(x y:Int):Int:=bif o == 10 then wi (x * y) else bif o == 9 then wi (x - y) else wi (x+y)
theorem W16 (o:Int)(a b t:A0)(i:Nat)(x y:Int)(hi:i < 4)(hx:idx [a.Low,a.Low,a.High,a.High] (i:Int)=some x)(hy:idx [b.Low,b.High,b.Low,b.High] (i:Int)=some y) :
  N4 o a b t i=N4 o a b (nT (min (bif (i:Int) == 0 then cn o x y else t.Low) (cn o x y)) (max (bif (i:Int) == 0 then cn o x y else t.High) (cn o x y))) ((i+1:Nat):Int):=by
 have j4:∀ t':A0,Ih o a b t' i (cn o x y)=N4 o a b (nT (min t'.Low (cn o x y)) (max t'.High (cn o x y))) ((i+1:Nat):Int):=fun t'=>by
  rw [Ih,Mf,ob,Mg,ob,Ao,ob,w1 (by unfold BB; omega)]
 have j3:Hh o a b t i (cn o x y)=N4 o a b (nT (min (bif (i:Int) == 0 then cn o x y else t.Low) (cn o x y)) (max (bif (i:Int) == 0 then cn o x y else t.High) (cn o x y))) ((i+1:Nat):Int):=by
  rw [Hh]
  cases (i:Int) == 0 with
  | true=>rw [if_pos rfl,Ao,ob,j4]; rfl
  | false=>rw [if_neg (by simp),j4]; rfl
 rw [N4,decide_eq_true (by omega),if_pos rfl,hx,ob,hy,ob,ob,ob,Gh,Gh,hx,ob,hy,ob]
 rw [← j3]
 unfold cn
 cases o == 10 <;> cases o == 9 <;> rfl
theorem X16 (o:Int)(a b:A0):Dd o a b=some (nT (min (min (min (cn o a.Low b.Low) (cn o a.Low b.High)) (cn o a.High b.Low)) (cn o a.High b.High)) (max (max (max (cn o a.Low b.Low) (cn o a.Low b.High)) (cn o a.High b.Low)) (cn o a.High b.High))):=by
 unfold Dd
 rw [show (0:Int)=((0:Nat):Int) from rfl,W16 o a b _ 0 a.Low b.Low (by omega) rfl rfl,W16 o a b _ 1 a.Low b.High (by omega) rfl rfl,W16 o a b _ 2 a.High b.Low (by omega) rfl rfl,W16 o a b _ 3 a.High b.High (by omega) rfl rfl,
  N4,show decide (((3+1:Nat):Int) < 4)=false from rfl,if_neg (by simp)]
 simp only [show (((0:Nat):Int) == 0)=true from rfl,show (((0+1:Nat):Int) == 0)=false from rfl,show (((1:Nat):Int) == 0)=false from rfl,show (((2:Nat):Int) == 0)=false from rfl,show (((3:Nat):Int) == 0)=false from rfl,cond_true,cond_false,nT,Int.min_self,Int.max_self]
theorem R22 {a b c d:Int}(h:a=c)(h':b=d):nT a b=nT c d:=by rw [h,h']
theorem W1z {o:Int}{a b:A0}(ho:o=8∨o=9∨o=10∨o=11∨o=12∨o=21∨o=22)(ha:Y2 a)(hb:Y2 b)(ka:(a.Kind == 1)=true)(kb:(b.Kind == 1)=true):Kk o a b=some (Em o a b):=by
 obtain ⟨a1,a2,a3⟩:=ha.rng ka
 obtain ⟨b1,b2,b3⟩:=hb.rng kb
 unfold Kk Em
 rcases ho with rfl | rfl | rfl | rfl | rfl | rfl | rfl
 ·show (Dd 8 a b>>=fun x13=>some x13)=some (nT (wi (a.Low+b.Low)) (wi (a.High+b.High)))
  rw [X16,ob]
  refine congrArg some (R22 ?_ ?_)
  ·show min (min (min (wi (a.Low+b.Low)) (wi (a.Low+b.High))) (wi (a.High+b.Low))) (wi (a.High+b.High))=_
   rw [wis (by omega) (by omega),wis (by omega) (by omega),wis (by omega) (by omega),wis (by omega) (by omega)]; omega
  ·show max (max (max (wi (a.Low+b.Low)) (wi (a.Low+b.High))) (wi (a.High+b.Low))) (wi (a.High+b.High))=_
   rw [wis (by omega) (by omega),wis (by omega) (by omega),wis (by omega) (by omega),wis (by omega) (by omega)]; omega
 ·show (Dd 9 a b>>=fun x13=>some x13)=some (nT (wi (a.Low - b.High)) (wi (a.High - b.Low)))
  rw [X16,ob]
  refine congrArg some (R22 ?_ ?_)
  ·show min (min (min (wi (a.Low - b.Low)) (wi (a.Low - b.High))) (wi (a.High - b.Low))) (wi (a.High - b.High))=_
   rw [wis (by omega) (by omega),wis (by omega) (by omega),wis (by omega) (by omega),wis (by omega) (by omega)]; omega
  ·show max (max (max (wi (a.Low - b.Low)) (wi (a.Low - b.High))) (wi (a.High - b.Low))) (wi (a.High - b.High))=_
   rw [wis (by omega) (by omega),wis (by omega) (by omega),wis (by omega) (by omega),wis (by omega) (by omega)]; omega
 ·show (Dd 10 a b>>=fun x13=>some x13)=_
  rw [X16,ob]
  rfl
 ·simp only [show ((11:Int) == 11)=true from rfl,if_true,Wm,Mg,ob,Ao]
  exact ifB (bif decide (a.Low≥0) then decide (b.Low≥0) else false) (nT 0 (max a.High (wi (0 - a.Low)))) (nT (wi (0 - max a.High (wi (0 - a.Low)))) (max a.High (wi (0 - a.Low))))
 ·simp only [show ((12:Int) == 11)=false from rfl,show ((12:Int) == 12)=true from rfl,Bool.false_eq_true,if_false,if_true,Mf,ob,Ui,Ti,Mg,Ao]
  show _=some (nT (bif decide (b.Low < 0) then min (wi (b.Low+1)) 0 else 0) (bif decide (b.High > 0) then max (wi (b.High - 1)) 0 else 0))
  cases decide (b.Low < 0) <;> cases decide (b.High > 0) <;> rfl
 ·show (B4 a.Low b.Low>>=fun x7=>B4 a.High b.High>>=fun x8=>A4 x7 x8>>=fun x9=>some x9)=_
  rw [Mf,ob,Mf]; rfl
 ·show (Y3 a.Low b.Low>>=fun x7=>Y3 a.High b.High>>=fun x8=>A4 x7 x8>>=fun x9=>some x9)=_
  rw [Mg,ob,Mg]; rfl
def opR (o:Int)(k:List A0)(ints bools:Bool):Option (A0×Int):=H5 o k ints bools (k.length:Int)
theorem L1k (o:Int)(k:List A0)(hl:k.length≤BB):∀ (r:List A0) (i:Nat) (I B:Bool),k.drop i=r→i≤k.length→H5 o k I B i=opR o k (bif I then r.all fun t=>t.Kind == 1 else false) (bif B then r.all fun t=>t.Kind == 0 else false)
 | [],i,I,B,h,hi=>by
  have:=(A1 h).2
  have e:i=k.length:=by omega
  unfold opR
  rw [e]
  cases I <;> cases B <;> rfl
 | x::r,i,I,B,h,hi=>by
  obtain ⟨h1,h2,h3,h4,_⟩:=C1 h
  rw [H5,h1,h2,if_pos rfl,w1 (by omega)]
  cases I <;> cases B <;> simp only [Bool.false_eq_true,if_false,if_true,ob,cond_true,cond_false]
  ·exact L1k o k hl r (i+1) false false h3 h4
  ·rw [L1k o k hl r (i+1) false _ h3 h4,List.all_cons]; cases x.Kind == 0 <;> rfl
  ·rw [L1k o k hl r (i+1) _ false h3 h4,List.all_cons]; cases x.Kind == 1 <;> rfl
  ·rw [L1k o k hl r (i+1) _ _ h3 h4,List.all_cons,List.all_cons]; cases x.Kind == 1 <;> cases x.Kind == 0 <;> rfl
theorem K1o (o:Int)(k:List A0)(h:ar o=(k.length:Int))(h6:6≤o)(hk:∀ t∈k,Y2 t):Cf o k=some (opT o k):=by
 unfold Cf
 have hl:k.length≤BB:=by rcases B1k h h6 with ⟨hn,_⟩ | ⟨hn,_⟩ | ⟨hn,_⟩ <;> rw [hn] <;> decide
 rw [show (0:Int)=((0:Nat):Int) from rfl,L1k o k hl k 0 true true rfl (Nat.zero_le _)]
 unfold opR
 rw [H5,decide_eq_false (by omega)]
 simp only [cond_true,Bool.false_eq_true,if_false]
 rcases B1k h h6 with ⟨hn,rfl | rfl⟩ | ⟨hn,h8,h22⟩ | ⟨hn,rfl⟩
 ·match k,hn with
  | [a],_=>
   unfold opT
   generalize [a].all (fun t=>t.Kind == 0)=B
   generalize [a].all (fun t=>t.Kind == 1)=I
   have held:(A4 (wi (0 - a.High)) (wi (0 - a.Low))>>=fun x18=>Kf x18>>=fun x19=>some (x19.1,x19.2))=some (Cg (nT (wi (0 - a.High)) (wi (0 - a.Low)))):=by rw [Ao,ob,K1k,ob]
   cases I
   ·cases B <;> rfl
   ·cases B <;> exact held
 ·match k,hn with
  | [a],_=>
   unfold opT
   generalize [a].all (fun t=>t.Kind == 0)=B
   generalize [a].all (fun t=>t.Kind == 1)=I
   cases B <;> rfl
 ·match k,hn,hk with
  | [a,b],_,hk=>
   generalize hB:[a,b].all (fun t=>t.Kind == 0)=B
   generalize hI:[a,b].all (fun t=>t.Kind == 1)=I
   unfold opT
   simp only [hI,hB]
   have gen:(o=8∨o=9∨o=10∨o=11∨o=12∨o=21∨o=22)∨(o=13∨o=14∨o=15∨o=16∨o=17∨o=18∨o=19∨o=20):=by omega
   rcases gen with g | g
   ·have ar:I=true→(idx [a,b] 0>>=fun x20=>idx [a,b] 1>>=fun x21=>Kk o x20 x21>>=fun x22=>Kf x22>>=fun x23=>some (x23.1,x23.2))=some (Cg (Em o a b)):=fun hI'=>by
     rw [hI',List.all_cons,List.all_cons,List.all_nil,Bool.and_true,Bool.and_eq_true] at hI
     rw [show idx [a,b] 0=some a from rfl,show idx [a,b] 1=some b from rfl,ob,ob,W1z g (hk a List.mem_cons_self) (hk b (List.mem_cons_of_mem _ List.mem_cons_self)) hI.1 hI.2,ob]
     obtain ⟨lo,hi,e⟩:=Y1n o a b
     rw [e,K1k,ob]
    rcases g with rfl | rfl | rfl | rfl | rfl | rfl | rfl <;>
     (cases I
      ·rfl
      ·exact ar rfl)
   ·rcases g with rfl | rfl | rfl | rfl | rfl | rfl | rfl | rfl <;> (cases I <;> cases B <;> rfl)
 ·match k,hn with
  | [a,b,c],_=>
   generalize [a,b,c].all (fun t=>t.Kind == 0)=B
   generalize [a,b,c].all (fun t=>t.Kind == 1)=I
   show _=some (bif a.Kind != 0 then (zT,9) else bif [b,c].all (fun t=>t.Kind == 1) then (nT (min b.Low c.Low) (max b.High c.High),0) else bif [b,c].all (fun t=>t.Kind == 0) then (zT,0) else (zT,9))
   simp only [show ((23:Int) == 7)=false from rfl,show ((23:Int) == 19)=false from rfl,show ((23:Int) == 20)=false from rfl,show ((23:Int) == 13)=false from rfl,show ((23:Int) == 14)=false from rfl,show ((23:Int) == 23)=true from rfl,cond_false,
    Bool.false_eq_true,if_false,if_true,show idx [a,b,c] 0=some a from rfl,show idx [a,b,c] 1=some b from rfl,show idx [a,b,c] 2=some c from rfl,ob,show X6 b=some (scT b) from rfl,Mf,Mg,Ao,List.all_cons,List.all_nil,Bool.and_true]
   cases ha:a.Kind != 0 with
   | true=>rfl
   | false=>
    simp only [Bool.not_false,if_true,ob,cond_false]
    rw [show X6 b=some (scT b) from rfl]
    simp only [ob]
    have nf:∀ S:Bool,((if (!!S)=true then some b else some default)>>=fun x6=>(if (!!S)=true then some c else some default)>>=fun x7=>
      if (bif !S then true else x6.Kind != x7.Kind)=true then some ((zT,9):A0×Int) else if (b.Kind == 0)=true then some (zT,0) else some (nT (min b.Low c.Low) (max b.High c.High),0)) =
      some (bif !S then (zT,9) else bif b.Kind != c.Kind then (zT,9) else bif b.Kind == 0 then (zT,0) else (nT (min b.Low c.Low) (max b.High c.High),0)):=fun S=>by
     cases S with
     | false=>rfl
     | true=>exact ifO (fun _=>rfl) fun _=>ifB _ _ _
    refine (nf (scT b)).trans (congrArg some ?_)
    unfold scT
    by_cases b0:b.Kind=0
    ·by_cases c0:c.Kind=0
     ·simp [b0,c0,bne]
     ·simp [b0,bne,beq_eq_false_iff_ne.2 c0,beq_eq_false_iff_ne.2 fun e:(0:Int)=c.Kind=>c0 e.symm]
    ·by_cases b1:b.Kind=1
     ·by_cases c1:c.Kind=1
      ·simp [b1,c1,bne]
      ·simp [b1,bne,beq_eq_false_iff_ne.2 c1,beq_eq_false_iff_ne.2 fun e:(1:Int)=c.Kind=>c1 e.symm]
     ·simp [beq_eq_false_iff_ne.2 b0,beq_eq_false_iff_ne.2 b1]
theorem T1u (e:D0)(t:A0)(q:List A0)(hl:t.Of.length=t.Names.length)(hb:t.Names.length≤BB):∀ (r:List Str) (i:Nat),t.Names.drop i=r→W8 e (t::q) i=some (Ws r (t.Of.drop i) e.Name)
 | [],i,h=>by
  rw [W8,show idx (t::q) 0=some t from rfl,ob,(A1 h).1]
  rfl
 | x::r,i,h=>by
  obtain ⟨h1,h2,h3,h4,_⟩:=C1 h
  obtain ⟨y,g1,g2,_⟩:=Uo (l:=t.Of) (k:=i) (by omega)
  rw [W8,show idx (t::q) 0=some t from rfl,ob,h1,g2,if_pos rfl,ob,h2,ob,ob,g1,ob,w1 (by omega),T1u e t q hl hb r (i+1) h3]
  exact ifB _ _ _
theorem B22 (S:T0)(s:Option L0)(hv:RV S.Vars s)(hl:S.Vars.length≤4611686018427387904)(e:D0)(k:List A0)(h:ar e.Op=(k.length:Int))(hk:∀ t∈k,Y2 t)(hn:T2 e=true)(K:Option (A0×Int))
  (hK:K=(if (e.Op == 0)=true then (A4 e.NV e.NV>>=fun x2=>some (x2,0)) else if (bif (e.Op == 1) then true else (e.Op == 2))=true then some (zT,0) else
   if (e.Op == 3)=true then (Ag S e.Name>>=fun x3=>if (!x3.2)=true then some (zT,7) else some (x3.1.TypeV,0)) else
   if (e.Op == 4)=true then (idx k 0>>=fun x4=>if (x4.Kind != 3)=true then some (zT,9) else W8 e k 0) else
   if (e.Op == 5)=true then (idx k 0>>=fun x5=>(if (!(x5.Kind != 2))=true then idx k 1 else some default)>>=fun x6=>if (bif (x5.Kind != 2) then true else (x6.Kind != 1))=true then some (zT,9) else (idx k 0>>=fun x7=>idx x7.Of 0>>=fun x8=>some (x8,0))) else
   (Cf e.Op k>>=fun x9=>some (x9.1,x9.2)))):K=some (Vo (fun nm=>lkO nm s) e.Op e.NV e.Name k):=by
 rw [hK]
 unfold Vo
 by_cases h6:e.Op < 6
 ·rcases G1h h h6 with ⟨hn',ho | ho | ho | ho⟩ | ⟨hn',ho⟩ | ⟨hn',ho⟩
  ·rw [ho]
   show some (nT e.NV e.NV,(0:Int))=some (Cg (nT e.NV e.NV))
   unfold T2 A2 at hn
   rw [ho] at hn
   have hr:0≤e.NV∧e.NV≤1048576:=by
    by_cases p:e.NV≥0
    ·by_cases q:e.NV≤1048576
     ·exact ⟨p,q⟩
     ·simp [p,q] at hn
    ·simp [p] at hn
   unfold Cg
   have e1:decide ((nT e.NV e.NV).Low < -1048576)=false:=decide_eq_false (by show ¬ e.NV < _; omega)
   have e2:decide ((nT e.NV e.NV).High > 1048576)=false:=decide_eq_false (by show ¬ e.NV > _; omega)
   rw [e1,e2]
   cases (nT e.NV e.NV).Kind == 1 <;> rfl
  ·rw [ho]; rfl
  ·rw [ho]; rfl
  ·rw [ho]
   show (Ag S e.Name>>=fun x3=>if (!x3.2)=true then some ((zT,7):A0×Int) else some (x3.1.TypeV,0))=some (match lkO e.Name s with | some v=>(v.typ,0) | none=>(zT,7))
   rw [Y1r S _ hl,ob]
   have:=hv e.Name
   cases h1:fdV S.Vars e.Name with
   | none=>
    rw [h1] at this
    cases h2:lkO e.Name s with
    | none=>rfl
    | some v=>rw [h2] at this; cases this
   | some u=>
    rw [h1] at this
    cases h2:lkO e.Name s with
    | none=>rw [h2] at this; cases this
    | some v=>
     rw [h2] at this
     simp only [Option.map_some,Option.some.injEq,Prod.mk.injEq] at this
     show some (u.TypeV,(0:Int))=some (v.typ,0)
     rw [this.1]
  ·rw [ho]
   match k,hn',hk with
   | [a],_,hk=>
    have ha:=hk a List.mem_cons_self
    show (if (a.Kind != 3)=true then some (zT,9) else W8 e [a] 0)=some (Yu a e.Name)
    unfold Yu
    refine ifO (fun _=>rfl) fun h3=>?_
    obtain ⟨p1,p2,_⟩:=ha.recd (by simpa [bne] using h3)
    exact T1u e a [] p2 (by unfold BB; omega) a.Names 0 rfl
  ·rw [ho]
   match k,hn',hk with
   | [a,b],_,hk=>
    have ha:=hk a List.mem_cons_self
    show ((if (!(a.Kind != 2))=true then some b else some default)>>=fun x8=>if (bif (a.Kind != 2) then true else (x8.Kind != 1))=true then some ((zT,9):A0×Int) else (idx a.Of 0>>=fun x10=>some (x10,0)))=some (bif (bif a.Kind != 2 then true else b.Kind != 1) then (zT,9) else (a.Of.getD 0 zT,0))
    cases h1:a.Kind != 2 with
    | true=>rfl
    | false=>
     obtain ⟨x,hx,_,_⟩:=ha.arr (by simpa [bne] using h1)
     rw [hx]
     simp only [Bool.not_false,if_true,ob,cond_false]
     cases h2:b.Kind != 1 <;> rfl
 ·have f:∀ n:Int,n < 6→(e.Op == n)=false:=fun n hn=>beq_eq_false_iff_ne.2 (by omega)
  rw [f 0 (by omega),f 1 (by omega),f 2 (by omega),f 3 (by omega),f 4 (by omega),f 5 (by omega),K1o e.Op k h (by omega) hk]
  rfl
theorem X1z (S:T0)(s:Option L0)(hv:RV S.Vars s)(hl:S.Vars.length≤4611686018427387904)(hs:SO s)(e:D0)(ho:OkE e)(hf:U1 e=true)(hn:T2 e=true)
  (ih:∀ x∈e.Kids,V7 S x=some (tyS s x)∧((tyS s x).2=0→Y2 (tyS s x).1)) :
  ∀ (r:List D0) (i:Nat) (k:List A0),e.Kids.drop i=r→k.length=i∧i≤e.Kids.length→(∀ t∈k,Y2 t)→
   Gi S e k i=some (bif (D0.tys (fun nm=>lkO nm s) r).2 != 0 then (zT,(D0.tys (fun nm=>lkO nm s) r).2) else Vo (fun nm=>lkO nm s) e.Op e.NV e.Name (k++(D0.tys (fun nm=>lkO nm s) r).1))
 | [],i,k,h,hi,hk=>by
  obtain ⟨h1,h2⟩:=A1 h
  have hl':k.length=e.Kids.length:=by omega
  have har:ar e.Op=(k.length:Int):=by
   simp only [U1,Bool.and_eq_true] at hf
   have:=hf.1.1.1
   unfold ef1 at this
   rw [hl']
   simpa using this
  rw [Gi,h1]
  simp only [Bool.false_eq_true,if_false,D0.tys,List.append_nil]
  exact B22 S s hv hl e k har hk hn _ rfl
 | x::r,i,k,h,hi,hk=>by
  obtain ⟨h1,h2,h3,h4,h5⟩:=C1 h
  obtain ⟨i1,i2⟩:=ih x h5
  have hb:=ho.kids
  rw [Gi,h1,h2]
  simp only [if_true,ob,i1,D0.tys]
  cases hc:(x.ty fun nm=>lkO nm s).2 != 0 with
  | true=>simp only [if_true,cond_true,hc]
  | false=>
   have hz:(x.ty fun nm=>lkO nm s).2=0:=by simpa using hc
   rw [decide_eq_true (show (k.length+1) * 97≤140737488355328 by unfold BB at hb; omega)]
   simp only [Bool.false_eq_true,if_false,if_true,cond_false]
   rw [w1 (by omega),X1z S s hv hl hs e ho hf hn ih r (i+1) (k++[(x.ty fun nm=>lkO nm s).1]) h3 ⟨by simp [hi.1],by omega⟩ (fun t ht=>by
    rcases List.mem_append.1 ht with ht | ht
    ·exact hk t ht
    ·simp at ht; subst ht; exact i2 hz)]
   cases h2:(D0.tys (fun nm=>lkO nm s) r).2 != 0 with
   | true=>simp only [cond_true,h2]
   | false=>simp only [cond_false,List.append_assoc,List.singleton_append]; rfl
theorem U1u {S:T0}{s:Option L0}(hv:RV S.Vars s)(hl:S.Vars.length≤4611686018427387904)(hs:SO s)(e:D0):OkE e→e.all U1=true→e.all T2=true→V7 S e=some (tyS s e):=by
 refine D0.ind (P:=fun e=>OkE e→e.all U1=true→e.all T2=true→V7 S e=some (tyS s e)) ?_ e
 intro e ih ho hf hn
 have hf':=hf
 have hn':=hn
 rw [D0.all_eq,Bool.and_eq_true] at hf hn
 have hb:=ho.kids
 rw [V7]
 have:=X1z S s hv hl hs e ho hf.1 hn.1 (fun x hx=>⟨ih x hx (ho.kid hx) (D0.alls_mem hf.2 hx) (D0.alls_mem hn.2 hx),(N1u s hs.f x (ho.kid hx) (D0.alls_mem hf.2 hx)).2⟩) e.Kids 0 [] rfl ⟨rfl,Nat.zero_le _⟩ (fun t ht=>by cases ht)
 unfold tyS
 rw [D0.ty_eq]
 exact this
end Go.Proofs.YtdkabnfphmmmnaaGreatDoor

set_option linter.unusedSimpArgs false
set_option linter.unusedVariables false
namespace Go.Proofs.YtdkabnfphmmmnaaGreatDoor
open Go.Am
theorem C22:∀ e:D0,Jl e=some e.root:=by
 intro e
 induction e using D0.ind with
 | h e ih=>
 rw [Jl]
 obtain ⟨o,n,s,ks⟩:=e
 simp only [D0.root]
 cases ho:o == 3 with
 | true=>rfl
 | false=>
  cases ks with
  | nil=>rfl
  | cons x r=>
   have:(bif false then true else ((((x::r).length:Nat):Int) == 0))=false:=beq_eq_false_iff_ne.2 (by simp; omega)
   rw [this,if_neg (by simp),show idx (x::r) 0=some x from rfl,ob,ih x List.mem_cons_self]
   rfl
theorem Z1r (l:List Str)(nm:Str)(hl:l.length≤BB):∀ (r:List Str) (k:Nat),l.drop k=r→Jb l nm k=some (r.any fun y=>y == nm)
 | [],k,h=>by
  rw [Jb,(A1 h).1]
  rfl
 | x::r,k,h=>by
  obtain ⟨h1,h2,h3,h4,_⟩:=C1 h
  rw [Jb,h1,if_pos rfl,h2,ob,w1 (by omega),Z1r l nm hl r (k+1) h3,List.any_cons]
  cases x == nm <;> rfl
theorem R11 (l:List Str)(nm:Str)(hl:l.length≤BB):Ij l nm=some (l.any fun y=>y == nm):=Z1r l nm hl l 0 rfl
theorem V1u (P:I0)(kind:Int)(nm:Str)(n:Nat)(hn:n≤P.Decls.length)(hl:P.Decls.length≤BB):∀ (r:List B0) (k:Nat),(P.Decls.take n).drop k=r→N7 P kind nm n k=some (V16 (Z6 kind nm r k))
 | [],k,h=>by
  have:=(A1 h).2
  rw [List.length_take] at this
  rw [N7,decide_eq_false (by omega)]
  rfl
 | d::r,k,h=>by
  obtain ⟨h1,h2,h3,h4,_⟩:=C1 h
  rw [List.length_take] at h4
  have g:idx P.Decls (k:Int)=some d:=by
   have h5:=Di h2
   rw [show ((k:Int)).toNat=k from Int.toNat_natCast k,List.getElem?_take,if_pos (by omega)] at h5
   rw [X1r (by omega)]
   rw [List.getElem?_eq_getElem (by omega)] at h5
   exact h5
  rw [N7,decide_eq_true (by omega),if_pos rfl,g,ob,w1 (by omega),V1u P kind nm n hn hl r (k+1) h3]
  rw [show Z6 kind nm (d::r) k=bif (bif (d.Kind == kind) then (d.Name == nm) else false) then some k else Z6 kind nm r (k+1) from rfl]
  cases d.Kind == kind with
  | true=>
   rw [if_pos rfl,ob]
   cases d.Name == nm <;> rfl
  | false=>rfl
theorem C10 (P:I0)(kind:Int)(nm:Str)(n:Nat)(hn:n≤P.Decls.length)(hl:P.Decls.length≤BB):I9 P kind nm n=some (V16 (Z6 kind nm (P.Decls.take n) 0)):=V1u P kind nm n hn hl _ 0 rfl
theorem Bo {P p:I0}(hp:CkP p)(hP:P.Decls=p.Decls){i:Nat}(hi:i≤p.Decls.length){t:A0}(ht:t.bulk≤4200000):T8 P i t=some (K2 (p.Decls.take i) t):=by
 unfold T8
 rw [hP,C1m hi,ob,S1w _ (hp.dok.take i) t ht]
 rfl
structure RS (p:I0)(n:Nat)(loc:Bool)(s:Option L0)(S:T0):Prop where
 prog:S.Program.Decls=p.Decls
 fn:(loc=true∧S.Function=(n:Int))∨(loc=false∧S.Function < 0∧n=p.Decls.length)
 le:n≤p.Decls.length
 vars:RV S.Vars s
 taken:∀ nm,(S.Taken.any fun y=>y == nm)=bif P7 p.Decls nm then true else (lkO nm s).isSome
 so:SO s
 vlen:S.Vars.length≤BB
theorem RS.xpr {p:I0}{n:Nat}{loc:Bool}{s:Option L0}{S:T0}(h:RS p n loc s S){e:D0}(ho:OkE e)(hf:e.all U1=true)(hn:e.all T2=true):V7 S e=some (tyS s e):=
 U1u h.vars (by have:=h.vlen; unfold BB at this; omega) h.so e ho hf hn
theorem RS.fix {p:I0}{n:Nat}{loc:Bool}{s:Option L0}{S:T0}(h:RS p n loc s S)(nm:Str):∃ q,Ag S nm=some q∧q.1.Fixed=(Th s nm).1.fixed:=by
 refine ⟨_,Y1r S nm (by have:=h.vlen; unfold BB at this; omega),?_⟩
 have:=h.vars nm
 unfold Th
 cases h1:fdV S.Vars nm with
 | none=>
  rw [h1] at this
  cases h2:lkO nm s with
  | none=>rfl
  | some v=>rw [h2] at this; cases this
 | some u=>
  rw [h1] at this
  cases h2:lkO nm s with
  | none=>rw [h2] at this; cases this
  | some v=>
   rw [h2] at this
   simp only [Option.map_some,Option.some.injEq,Prod.mk.injEq] at this
   exact this.2
theorem A1s {a:A0}(ha:Ok a)(b:A0)(place:Bool):Qa a place b=some (U16 a b place):=by
 unfold Qa U16
 rw [show X6 a=some (scT a) from rfl,ob]
 cases scT a with
 | true=>rfl
 | false=>
  rw [show (if (!false)=true then X6 b else some default)=some (scT b) from rfl,ob]
  cases scT b with
  | true=>rfl
  | false=>
   cases place with
   | false=>rfl
   | true=>
    simp only [cond_false,Bool.false_eq_true,if_false,if_true]
    rw [P1n a ha b]
    rfl
theorem W1u {S:T0}{s:Option L0}(hv:RV S.Vars s)(hl:S.Vars.length≤BB)(hs:SO s){e:D0}(ho:OkE e)(hf:e.all U1=true)(hn:e.all T2=true)(t:A0):Tb S e t=some (A10 s e t):=by
 unfold Tb A10
 rw [U1u hv (by unfold BB at hl; omega) hs e ho hf hn,ob,show Dq e=some (plE e) from rfl,ob,A1s (S1z hs e),ob]
 by_cases h0:(tyS s e).2=0
 ·rw [h0]
  exact ifB _ _ _
 ·rw [show ((tyS s e).2 != 0)=true by simpa [bne] using h0,beq_eq_false_iff_ne.2 h0]
  rfl
theorem RS.val {p:I0}{n:Nat}{loc:Bool}{s:Option L0}{S:T0}(h:RS p n loc s S){e:D0}(ho:OkE e)(hf:e.all U1=true)(hn:e.all T2=true)(t:A0):Tb S e t=some (A10 s e t):=W1u h.vars h.vlen h.so ho hf hn t
theorem RS.tgt {p:I0}{n:Nat}{loc:Bool}{s:Option L0}{S:T0}(h:RS p n loc s S){e:D0}(ho:OkE e)(hf:e.all U1=true)(hn:e.all T2=true):Jj S e=some (Bi s e):=by
 obtain ⟨q,h1,h2⟩:=h.fix e.root
 unfold Jj Bi
 rw [h.xpr ho hf hn,ob,C22,ob,h1,ob,h2]
 exact ifO (fun _=>rfl) fun _=>ifB _ _ _
theorem RS.call {p:I0}(hp:CkP p){n:Nat}{loc:Bool}{s:Option L0}{S:T0}(h:RS p n loc s S){x:C0}(ho:Pq x)(hpl:x.Place.all U1=true)(hpn:x.Place.all T2=true)(ha:D0.alls U1 x.Args=true)(han:D0.alls T2 x.Args=true) :
  Js S x=some (P11 p.Decls n s x.Place x.Name x.Args):=by
 have hl:=hp.okp.decls.len
 unfold Js P11
 rw [h.tgt ho.place hpl hpn,ob]
 refine ifO (fun _=>rfl) fun _=>?_
 have key:(if (decide (S.Function≥0))=true then Fd S x (Bi s x.Place) S.Function else Fd S x (Bi s x.Place) ((S.Program.Decls).length:Int))=Fd S x (Bi s x.Place) n:=by
  rcases h.fn with ⟨_,e⟩ | ⟨_,e,e2⟩
  ·rw [e,decide_eq_true (by omega)]; rfl
  ·rw [decide_eq_false (by omega),h.prog,e2]; rfl
 rw [key]
 unfold Fd
 rw [C10 _ _ _ _ (by rw [h.prog]; exact h.le) (by rw [h.prog]; exact hl),ob,h.prog]
 cases hf:Z6 6 x.Name (p.Decls.take n) 0 with
 | none=>rfl
 | some j=>
  obtain ⟨_,hj,g3,g4,_,_⟩:=B10 hf
  show _=some (G1k (p.Decls.take j) s (Bi s x.Place).1 x.Args (p.Decls.getD j default))
  generalize p.Decls.getD j default=d at g3 g4 ⊢
  rw [show V16 (some j)=(j:Int) from rfl,decide_eq_false (by omega),g3]
  simp only [Bool.false_eq_true,if_false,ob]
  unfold G1k
  refine ifO (fun _=>rfl) fun hl=>?_
  have hl':x.Args.length=d.Params.length:=by
   have:(x.Args.length:Int)=(d.Params.length:Int):=by simpa [bne] using hl
   omega
  obtain ⟨sm1,sm2,_⟩:=hp.small d g4
  have main:∀ (q:List D0) (k:Nat),x.Args.drop k=q→Ed S x (Bi s x.Place) d j k=some (Q1c (p.Decls.take j) s (bif !U16 (K2 (p.Decls.take j) d.TypeV).1 (Bi s x.Place).1 true then 9 else 0) q (d.Params.drop k)):=by
   intro q
   induction q with
   | nil=>
    intro k h
    rename RS p n loc s S=>hR
    rw [Ed,(A1 h).1]
    simp only [Bool.false_eq_true,if_false,Q1c]
    rw [Bo hp hR.prog (by omega) sm1,ob,A1s (Dg (hp.dok.take j) sm1).2,ob]
    exact ifB _ _ _
   | cons a q ih=>
    intro k h
    rename RS p n loc s S=>hR
    obtain ⟨e1,e2,e3,e4,e5⟩:=C1 h
    obtain ⟨v,v1,v2,v3⟩:=Uo (l:=d.Params) (k:=k) (by omega)
    rw [Ed,e1,e2,v2]
    simp only [if_true,ob,v1,Q1c]
    rw [Bo hp hR.prog (by omega) (sm2 v v3),ob,hR.val (ho.arg a e5) (D0.alls_mem ha e5) (D0.alls_mem han e5),ob]
    have:=ho.args
    rw [w1 (by omega)]
    exact ifO (fun _=>rfl) fun _=>ih (k+1) e3
  exact main x.Args 0 rfl
theorem RS.release {p:I0}(hp:CkP p){n:Nat}{loc:Bool}{s:Option L0}{S:T0}(h:RS p n loc s S){x:C0}(ho:Pq x)(hpl:x.Place.all U1=true)(hpn:x.Place.all T2=true) :
  Cm S x=some (F1m p.Decls n loc s x.Place x.Name):=by
 have hl:=hp.okp.decls.len
 unfold Cm F1m
 rw [h.tgt ho.place hpl hpn,ob]
 refine ifO (fun _=>rfl) fun _=>?_
 rcases h.fn with ⟨e0,e⟩ | ⟨e0,e,e2⟩
 ·rw [e,e0,decide_eq_true (by omega)]; rfl
 ·rw [decide_eq_false (by omega),e0,e2,h.prog]
  simp only [Bool.false_eq_true,if_false,cond_false]
  rw [C10 _ _ _ _ (by rw [h.prog]; exact Nat.le_refl _) (by rw [h.prog]; exact hl),ob,h.prog]
  cases hf:Z6 5 x.Name (p.Decls.take p.Decls.length) 0 with
  | none=>rfl
  | some j=>
   obtain ⟨_,hj,g3,g4,_,_⟩:=B10 hf
   have sm:=(hp.small _ g4).1
   rw [show V16 (some j)=(j:Int) from rfl,decide_eq_false (by omega),g3]
   simp only [Bool.false_eq_true,if_false,ob]
   rw [Bo hp h.prog (by omega) sm,ob,A1s (Dg (hp.dok.take j) sm).2,ob]
   exact ifB _ _ _
theorem RS.cond {p:I0}{n:Nat}{loc:Bool}{s:Option L0}{S:T0}(h:RS p n loc s S){e:D0}(ho:OkE e)(hf:e.all U1=true)(hn:e.all T2=true):Fc S e=some (Xm s e):=by
 unfold Fc Xm
 rw [h.xpr ho hf hn,ob]
 by_cases h0:(tyS s e).2=0
 ·rw [h0]
  exact ifB _ _ _
 ·rw [show ((tyS s e).2 != 0)=true by simpa [bne] using h0,beq_eq_false_iff_ne.2 h0]
  rfl
theorem RV.ext {l:List J0}{s:Option L0}(h:RV l s)(nm:Str)(t:A0)(f:Bool):RV (l++[⟨nm,t,f⟩]) (some (.mk s [(nm,⟨t,f⟩)])):=fun x=>by
 have hx:=h x
 unfold fdV at hx ⊢
 rw [List.reverse_append]
 show ((J0.mk nm t f::l.reverse).find? fun v=>v.Name == x).map _=_
 rw [List.find?_cons]
 simp only [lkO,L0.find,mgt,L1h x nm]
 cases nm == x with
 | true=>rfl
 | false=>exact hx
theorem RS.around {p:I0}{n:Nat}{loc:Bool}{s:Option L0}{S:T0}(h:RS p n loc s S){x:C0}(hx:Y2 (nT x.Low x.High)){m:Nat}(hr:S.Vars.length+m≤BB∧S.Taken.length+m≤BB)(hm:1≤m) :
  ∃ S',Tn S x=some S'∧RS p n loc (Q11 s x.Name x.Low x.High) S'∧S'.Vars.length=S.Vars.length+1∧S'.Taken.length=S.Taken.length+1:=by
 unfold Tn
 rw [Ao,ob,decide_eq_true (by unfold BB at hr; omega),decide_eq_true (by unfold BB at hr; omega),decide_eq_true (by unfold BB at hr; omega),decide_eq_true (by unfold BB at hr; omega)]
 refine ⟨_,rfl,⟨h.prog,h.fn,h.le,h.vars.ext _ _ _,fun nm=>?_,h.so.ext (m:=[(x.Name,⟨nT x.Low x.High,true⟩)]) fun q hq=>by rw [List.mem_singleton.1 hq]; exact ⟨hx,okn _ _⟩,by simp; omega⟩,by simp,by simp⟩
 show ((S.Taken++[x.Name]).any fun y=>y == nm)=bif P7 p.Decls nm then true else (lkO nm (Q11 s x.Name x.Low x.High)).isSome
 rw [List.any_append,h.taken nm]
 simp only [lkO,L0.find,mgt,L1h nm x.Name,List.any_cons,List.any_nil,Bool.or_false,Q11]
 cases P7 p.Decls nm <;> cases x.Name == nm <;> simp
def REq (p:I0)(n:Nat)(loc:Bool)(l:List C0):Prop:=WfS l→∀ s S,RS p n loc s S→S.Vars.length+C0.bulks l≤BB∧S.Taken.length+C0.bulks l≤BB→∀ top,M5 S l top=some (C0.sts p.Decls n loc l s top)
theorem Y1z {x:C0}(h:snumb x=true):x.Place.all T2=true∧x.Value.all T2=true∧D0.alls T2 x.Args=true:=by
 unfold snumb at h
 simp only [Bool.and_eq_true] at h
 exact ⟨h.1.1.1,h.1.1.2,h.1.2⟩
theorem X1u (ds:List B0)(n:Nat)(loc:Bool)(s:Option L0)(top:Bool):C0.sts ds n loc [] s top=0:=by simp only [C0.sts]
theorem D22 {p:I0}(hp:CkP p){n:Nat}{loc:Bool}{s:Option L0}{S:T0}(hR:RS p n loc s S){x:C0}(ho:Pq x)(hf:sform x=true)(hn:snumb x=true)(wt:WfS x.Then∧WfS x.Else)(ih:REq p n loc x.Then∧REq p n loc x.Else)
  (hr:S.Vars.length+x.bulk≤BB∧S.Taken.length+x.bulk≤BB) (last:Bool):Xx S x last=some (x.st p.Decls n loc s last):=by
 obtain ⟨u1,u2,u3⟩:=Z1n hf
 obtain ⟨n1,n2,n3⟩:=Y1z hn
 have hb:=C0.bulk_eq x
 rw [Xx,C0.st_eq]
 refine ifO (fun h=>?_) fun h0=>ifO (fun h=>?_) fun h1=>ifO (fun h=>?_) fun h2=>ifO (fun h=>?_) fun h3=>?_
 ·have e:x.Verb=0:=by simpa using h
  unfold asS
  rw [hR.tgt ho.place (u1 (by rw [e]; rfl)) n1,ob,hR.val ho.value (u2 (by rw [e]; rfl)) n2,ob]
  exact ifB _ _ _
 ·have e:x.Verb=1:=by simpa using h
  rw [hR.call hp ho (u1 (by rw [e]; rfl)) n1 u3 n3,ob]
 ·have e:x.Verb=2:=by simpa using h
  rw [hR.release hp ho (u1 (by rw [e]; rfl)) n1,ob]
 ·have e:x.Verb=3:=by simpa using h
  unfold V1w
  rw [hR.xpr ho.value (u2 (by rw [e]; rfl)) n2,ob]
  cases (tyS s x.Value).2 == 0 with
  | false=>rfl
  | true=>exact ifB _ _ _
 ·by_cases e5:x.Verb=5
  ·rw [e5]
   show (Fc S x.Value>>=fun x7=>if (x7 != 0)=true then some x7 else M5 S x.Then false>>=fun x10=>if (x10 != 0)=true then some x10 else M5 S x.Else false>>=fun x11=>some x11) =
    some (bif Xm s x.Value != 0 then Xm s x.Value else bif C0.sts p.Decls n loc x.Then s false != 0 then C0.sts p.Decls n loc x.Then s false else C0.sts p.Decls n loc x.Else s false)
   rw [hR.cond ho.value (u2 (by rw [e5]; rfl)) n2,ob,ih.1 wt.1 s S hR (by omega),ob,ih.2 wt.2 s S hR (by omega),ob]
   exact ifO (fun _=>rfl) fun _=>ifO (fun _=>rfl) fun _=>rfl
  ·by_cases e6:x.Verb=6
   ·have hz:x.Else=[]:=by
     unfold sform at hf
     simp only [Bool.and_eq_true] at hf
     have:=hf.2
     rw [e6] at this
     simpa using this
    rw [e6]
    show (Fc S x.Value>>=fun x7=>if (x7 != 0)=true then some x7 else M5 S x.Then false>>=fun x10=>if (x10 != 0)=true then some x10 else M5 S x.Else false>>=fun x11=>some x11) =
     some (bif Xm s x.Value != 0 then Xm s x.Value else C0.sts p.Decls n loc x.Then s false)
    rw [hR.cond ho.value (u2 (by rw [e6]; rfl)) n2,ob,ih.1 wt.1 s S hR (by omega),ob,ih.2 wt.2 s S hR (by omega),ob,hz,X1u]
    refine ifO (fun _=>rfl) fun _=>?_
    by_cases q:C0.sts p.Decls n loc x.Then s false=0
    ·rw [q]; rfl
    ·rw [show (C0.sts p.Decls n loc x.Then s false != 0)=true by simpa [bne] using q]; rfl
   ·rw [beq_eq_false_iff_ne.2 e5,beq_eq_false_iff_ne.2 e6]
    simp only [cond_false,Bool.false_eq_true,if_false]
    refine ifO (fun h=>?_) fun _=>?_
    ·have e:x.Verb=7:=by simpa using h
     obtain ⟨S',g1,g2,g3,g4⟩:=hR.around (R1r hn e) hr (by omega)
     rw [R11 _ _ (by omega),ob,hR.taken]
     have hlk:(lkO x.Name s).isSome=(Th s x.Name).2:=by unfold Th; cases lkO x.Name s <;> rfl
     rw [hlk,g1,ob,ih.1 wt.1 _ S' g2 (by omega),ob]
     exact ifB _ _ _
    ·cases x.Verb == 8 with
     | true=>exact ifB _ _ _
     | false=>rfl
theorem B1s {p:I0}(hp:CkP p){n:Nat}{loc:Bool}{l:List C0}(hw:WfS l)(ih:∀ x∈l,REq p n loc x.Then∧REq p n loc x.Else){s:Option L0}{S:T0}(hR:RS p n loc s S)(hr:S.Vars.length+C0.bulks l≤BB∧S.Taken.length+C0.bulks l≤BB)(top:Bool) :
  ∀ (r:List C0) (k:Nat),l.drop k=r→Ug S l top k=some (C0.sts p.Decls n loc r s top)
 | [],k,h=>by
  rw [Ug,(A1 h).1,X1u]
  rfl
 | x::r,k,h=>by
  obtain ⟨h1,h2,h3,h4,h5⟩:=C1 h
  have hl:=hw.ok.len
  have hb:=C0.bulk_mem h5
  rw [Ug,h1,h2]
  simp only [if_true,ob,C0.sts]
  rw [Q22 h hl,D22 hp hR (hw.ok.mem h5) (Yi hw.form h5).1 (Yi hw.numb h5).1 (hw.kids h5) (ih x h5) (by omega),ob,w1 (by omega)]
  exact ifO (fun _=>rfl) fun _=>B1s hp hw ih hR hr top r (k+1) h3
theorem A1o {p:I0}(hp:CkP p){n:Nat}{loc:Bool}(l:List C0):REq p n loc l:=by
 refine C0.inds (Q:=REq p n loc) (fun l ih hw s S hR hr top=>?_) l
 rw [M5]
 exact B1s hp hw ih hR hr top l 0 rfl
end Go.Proofs.YtdkabnfphmmmnaaGreatDoor

set_option linter.unusedSimpArgs false
set_option linter.unusedVariables false
namespace Go.Proofs.YtdkabnfphmmmnaaGreatDoor
open Go.Am
def RM (l:List J0)(m:List (Str×P0)):Prop:=∀ nm,(fdV l nm).map (fun v=>(v.TypeV,v.Fixed))=(mgt nm m).map fun v=>(v.typ,v.fixed)
theorem RM.nil:RM [] []:=fun nm=>rfl
theorem RM.put {l:List J0}{m:List (Str×P0)}(h:RM l m)(nm:Str)(t:A0)(f:Bool):RM (l++[⟨nm,t,f⟩]) (mpt nm ⟨t,f⟩ m):=fun x=>by
 have hx:=h x
 unfold fdV at hx ⊢
 rw [List.reverse_append]
 show ((J0.mk nm t f::l.reverse).find? fun v=>v.Name == x).map _=_
 rw [List.find?_cons,Ku,L1h x nm]
 cases nm == x with
 | true=>rfl
 | false=>exact hx
theorem RM.rv {l:List J0}{m:List (Str×P0)}(h:RM l m):RV l (some (.mk none m)):=fun nm=>by
 rw [h nm]
 simp only [lkO,L0.find]
 cases mgt nm m <;> rfl
theorem C1s (p:I0)(hl:p.Decls.length≤BB):∀ (r:List B0) (k:Nat) (out:List Str),p.Decls.drop k=r→out.length=k→Ib p out k=some (out++r.map fun d=>d.Name)
 | [],k,out,h,_=>by
  rw [Ib,(A1 h).1]
  simp
 | d::r,k,out,h,ho=>by
  obtain ⟨h1,h2,h3,h4,_⟩:=C1 h
  rw [Ib,h1,if_pos rfl,h2,ob,decide_eq_true (by unfold BB at hl; omega),if_pos rfl,w1 (by omega),C1s p hl r (k+1) _ h3 (by simp [ho])]
  simp
theorem S1c (p:I0)(hl:p.Decls.length≤BB):Jm p=some (p.Decls.map fun d=>d.Name):=(C1s p hl p.Decls 0 [] rfl rfl).trans (by simp)
theorem S11 (l:List B0)(nm:Str):((l.map fun d=>d.Name).any fun y=>y == nm)=P7 l nm:=by
 unfold P7
 rw [List.any_map]
 rfl
theorem D1s {p:I0}(hp:CkP p)(n:Nat)(hn:n≤p.Decls.length)(vs:Bool):∀ (r:List B0) (k:Nat) (m:List (Str×P0)) (out:List J0),(p.Decls.take n).drop k=r→RM out m→out.length≤k→
  ∃ out',V6 p n vs out k=some out'∧RM out' (inM p.Decls vs r k m)∧out'.length≤k+r.length
 | [],k,m,out,h,hm,ho=>by
  have:=(A1 h).2
  rw [List.length_take] at this
  rw [V6,decide_eq_false (by omega)]
  exact ⟨out,rfl,hm,by simp; omega⟩
 | d::r,k,m,out,h,hm,ho=>by
  have hl:=hp.okp.decls.len
  obtain ⟨h1,h2,h3,h4,h5⟩:=C1 h
  rw [List.length_take] at h4
  have g:idx p.Decls (k:Int)=some d:=by
   have h5:=Di h2
   rw [show ((k:Int)).toNat=k from Int.toNat_natCast k,List.getElem?_take,if_pos (by omega)] at h5
   rw [X1r (by omega)]
   rw [List.getElem?_eq_getElem (by omega)] at h5
   exact h5
  rw [V6,decide_eq_true (by omega),if_pos rfl,g,ob,show Jf d=some (inK d) from rfl,ob,Bo hp rfl (by omega) (hp.small d (List.mem_of_mem_take h5)).1,ob,ob,decide_eq_true (by unfold BB at hl; omega),w1 (by omega)]
  simp only [inM]
  cases (bif inK d then true else (bif vs then (d.Kind == 4) else false)) with
  | true=>
   obtain ⟨out',g1,g2,g3⟩:=D1s hp n hn vs r (k+1) _ (out++[⟨d.Name,(K2 (p.Decls.take k) d.TypeV).1,inK d⟩]) h3 (hm.put _ _ _) (by simp; omega)
   exact ⟨out',g1,g2,by simp; omega⟩
  | false=>
   obtain ⟨out',g1,g2,g3⟩:=D1s hp n hn vs r (k+1) m out h3 hm (by omega)
   exact ⟨out',g1,g2,by simp; omega⟩
theorem Y1u {p:I0}(hp:CkP p){n:Nat}(hn:n≤p.Decls.length)(vs:Bool):∃ out,Zl p n vs=some out∧RV out (inS p n vs)∧out.length≤n:=by
 obtain ⟨out,g1,g2,g3⟩:=D1s hp n hn vs (p.Decls.take n) 0 [] [] rfl .nil (Nat.le_refl _)
 exact ⟨out,g1,g2.rv,by simp at g3; omega⟩
theorem Z1z (ds:List B0)(vs:Bool)(nm:Str):∀ (r:List B0) (k:Nat) (m:List (Str×P0)),(mgt nm (inM ds vs r k m)).isSome=true→(mgt nm m).isSome=true∨P7 r nm=true
 | [],_,_,h=>.inl h
 | d::r,k,m,h=>by
  simp only [inM] at h
  unfold P7
  rw [List.any_cons]
  rcases Z1z ds vs nm r (k+1) _ h with h | h
  ·cases hc:(bif inK d then true else (bif vs then (d.Kind == 4) else false)) with
   | true=>
    rw [hc] at h
    simp only [cond_true] at h
    rw [Ku,L1h nm d.Name] at h
    cases hd:d.Name == nm with
    | true=>exact .inr rfl
    | false=>rw [hd] at h; exact .inl h
   | false=>rw [hc] at h; exact .inl h
  ·refine .inr ?_
   unfold P7 at h
   rw [h,Bool.or_true]
theorem E1s {p:I0}(hp:CkP p):∃ S,So p=some S∧RS p p.Decls.length false (inS p p.Decls.length true) S∧S.Taken.length=p.Decls.length∧S.Vars.length≤p.Decls.length:=by
 have hl:=hp.okp.decls.len
 obtain ⟨out,g1,g2,g3⟩:=Y1u hp (Nat.le_refl _) true
 unfold So
 rw [g1,ob,S1c p hl,ob]
 refine ⟨_,rfl,⟨rfl,.inr ⟨rfl,by simp only; omega,rfl⟩,Nat.le_refl _,g2,fun nm=>?_,P1c hp _ _,by simp only; omega⟩,by simp,g3⟩
 rw [S11]
 cases h:P7 p.Decls nm with
 | true=>rfl
 | false=>
  cases hk:(lkO nm (inS p p.Decls.length true)).isSome with
  | false=>rfl
  | true=>
   have:(mgt nm (inM p.Decls true (p.Decls.take p.Decls.length) 0 [])).isSome=true:=by
    revert hk
    unfold inS
    simp only [lkO,L0.find]
    cases mgt nm (inM p.Decls true (p.Decls.take p.Decls.length) 0 []) with
    | none=>exact fun h=>h
    | some v=>exact fun _=>rfl
   rcases Z1z _ _ _ _ _ _ this with h' | h'
   ·cases h'
   ·rw [List.take_length,h] at h'; cases h'
theorem X1w {p:I0}(hb:p.bulk≤4200000)(hp:CkP p){i:Nat}{d:B0}(hi:i < p.Decls.length)(g1:idx p.Decls i=some d)(g3:d∈p.Decls) :
  if ((fnM (p.Decls.take i) (d.Params++d.Vars) []).2 != 0)=true then ∃ S,Mk p i=some (S,(fnM (p.Decls.take i) (d.Params++d.Vars) []).2)
  else ∃ S,Mk p i=some (S,0)∧RS p i true (some (.mk none (fnM (p.Decls.take i) (d.Params++d.Vars) []).1)) S∧S.Vars.length≤8400000∧S.Taken.length≤16800000:=by
 have hl:=hp.okp.decls.len
 have hbd:B0.bulks p.Decls≤4200000:=by cases p; simp only [I0.bulk] at hb; simp only; omega
 have hdl:=B0.bulk_len p.Decls
 have hbm:=B0.bulk_mem g3
 have hbe:=B0.bulk_eq d
 have hpl:=B0.bulk_len d.Params
 have hvl:=B0.bulk_len d.Vars
 obtain ⟨sm1,sm2,sm3⟩:=hp.small d g3
 have smL:∀ v∈d.Params++d.Vars,v.TypeV.bulk≤4200000:=fun v hv=>(List.mem_append.1 hv).elim (sm2 v) (sm3 v)
 unfold Mk
 rw [g1,ob,S1c p hl,ob,decide_eq_true (by omega),decide_eq_true (by omega)]
 simp only [if_true]
 have main:∀ (r:List B0) (k:Nat) (m:List (Str×P0)) (vs:List J0) (tk:List Str),(d.Params++d.Vars).drop k=r→k≤d.Params.length+d.Vars.length→RM vs m→MF m→vs.length≤k→tk.length≤4200000+k→(∀ nm,(tk.any fun y=>y == nm)=bif P7 p.Decls nm then true else (mgt nm m).isSome)→
   if ((fnM (p.Decls.take i) r m).2 != 0)=true then ∃ S,W7 p i vs tk d k=some (S,(fnM (p.Decls.take i) r m).2)
   else ∃ S,W7 p i vs tk d k=some (S,0)∧RS p i true (some (.mk none (fnM (p.Decls.take i) r m).1)) S∧S.Vars.length≤8400000∧S.Taken.length≤16800000:=by
  intro r
  induction r with
  | nil=>
   intro k m vs tk h hkl hm hf hv ht htk
   rw [W7,(A1 h).1]
   show ∃ S,_=some (S,0)∧_
   have hlen:vs.length≤8400000∧tk.length≤16800000:=by omega
   refine ⟨_,rfl,⟨rfl,.inl ⟨rfl,rfl⟩,by omega,hm.rv,fun nm=>?_,SO.none.ext hf,by simp only; unfold BB; omega⟩,hlen.1,hlen.2⟩
   rw [htk nm]
   simp only [lkO,L0.find,fnM]
   cases mgt nm m <;> rfl
  | cons v r ih=>
   intro k m vs tk h hkl hm hf hv ht htk
   obtain ⟨e1,e2,e3,e4,e5⟩:=C1 h
   have hk:k < 8400000:=by simp at e4; omega
   rw [W7,e1,if_pos rfl,e2,ob,Bo hp rfl (by omega) (smL v e5),ob,ob,ob,decide_eq_true (by omega),decide_eq_true (by omega),w1 (by unfold BB; omega)]
   simp only [fnM]
   by_cases hz:((K2 (p.Decls.take i) v.TypeV).2 != 0)=true
   ·simp only [hz,if_true,cond_true]
    exact ⟨_,rfl⟩
   ·simp only [Bool.not_eq_true] at hz
    simp only [hz,Bool.false_eq_true,if_false,if_true,cond_false]
    refine ih (k+1) _ _ _ e3 (by simp at e4; omega) (hm.put _ _ _) (hf.put _ (Dg (hp.dok.take i) (smL v e5))) (by simp; omega) (by simp; omega) fun nm=>?_
    rw [List.any_append,htk nm,Ku,L1h nm v.Name]
    simp only [List.any_cons,List.any_nil,Bool.or_false]
    cases P7 p.Decls nm <;> cases v.Name == nm <;> simp
 exact main (d.Params++d.Vars) 0 [] [] _ rfl (Nat.zero_le _) .nil (fun q hq=>by cases hq) (Nat.le_refl _) (by simp; omega) fun nm=>by rw [S11]; cases P7 p.Decls nm <;> rfl
theorem F1s {p:I0}(hb:p.bulk≤4200000)(hp:CkP p){i:Nat}{d:B0}(hi:i < p.Decls.length)(g1:idx p.Decls i=some d)(g3:d∈p.Decls)(hk6:d.Kind=6)(res:A0):Qk p i res=some (fnS p.Decls i d res):=by
 have od:=hp.okp.decls.mem g3
 obtain ⟨df,dn⟩:=hp.dec g3
 have bf:C0.alls sform d.Body=true∧d.Value.all U1=true:=by
  unfold dform at df
  simp only [Bool.and_eq_true] at df
  refine ⟨df.2,?_⟩
  have:=df.1.1.1.1.1.2
  rw [show uV2 d.Kind=true by rw [hk6]; rfl] at this
  exact this
 have bn:C0.alls snumb d.Body=true∧d.Value.all T2=true:=by
  unfold dnumb at dn
  simp only [Bool.and_eq_true] at dn
  exact ⟨dn.2,dn.1.1.2⟩
 have hbb:C0.bulks d.Body≤4200000:=by
  have hbd:B0.bulks p.Decls≤4200000:=by cases p; simp only [I0.bulk] at hb; simp only; omega
  have hbm:=B0.bulk_mem g3
  have hbe:=B0.bulk_eq d
  omega
 have key:=X1w hb hp hi g1 g3
 unfold Qk fnS
 rw [g1,ob]
 generalize fnM (p.Decls.take i) (d.Params++d.Vars) []=q at key ⊢
 cases hz:q.2 != 0 with
 | true=>
  rw [hz] at key
  simp only [if_true] at key
  obtain ⟨S,hS⟩:=key
  rw [hS,ob]
  simp only [hz,if_true,cond_true]
 | false=>
  rw [hz] at key
  simp only [Bool.false_eq_true,if_false] at key
  obtain ⟨S,hS,hR,l1,l2⟩:=key
  rw [hS,ob]
  show (M5 S d.Body false>>=fun x3=>if (x3 != 0)=true then some x3 else Tb S d.Value res>>=fun x4=>some x4)=some (bif _ then _ else _)
  rw [A1o hp d.Body ⟨od.body,bf.1,bn.1⟩ _ S hR (by unfold BB; omega),ob,hR.val od.value bf.2 bn.2,ob]
  exact ifO (fun _=>rfl) fun _=>rfl
theorem E22 {p:I0}(hb:p.bulk≤4200000)(hp:CkP p){i:Nat}{d:B0}(hi:i < p.Decls.length)(g1:idx p.Decls i=some d)(g3:d∈p.Decls):Ks p i=some (Ym p i d):=by
 have sm1:=(hp.small d g3).1
 have hl:=hp.okp.decls.len
 obtain ⟨df,dn⟩:=hp.dec g3
 unfold Ks Ym
 rw [g1,ob,Bo hp rfl (by omega) sm1,ob]
 refine ifO (fun _=>rfl) fun _=>ifO (fun h5=>?_) fun _=>ifO (fun h6=>?_) fun _=>rfl
 ·have e:d.Kind=5:=by simpa using h5
  rw [show X6 (K2 (List.take i p.Decls) d.TypeV).1=some (scT (K2 (List.take i p.Decls) d.TypeV).1) from rfl,ob]
  refine ifO (fun _=>rfl) fun _=>?_
  have vf:d.Value.all U1=true:=by
   unfold dform at df
   simp only [Bool.and_eq_true] at df
   have:=df.1.1.1.1.1.2
   rw [show uV2 d.Kind=true by rw [e]; rfl] at this
   exact this
  have vn:d.Value.all T2=true:=by
   unfold dnumb at dn
   simp only [Bool.and_eq_true] at dn
   exact dn.1.1.2
  obtain ⟨out,q1,q2,q3⟩:=Y1u hp (n:=i) (by omega) false
  rw [q1,ob,W1u (S:=T0.mk p (-1) out []) q2 (by simp only; omega) (P1c hp i false) (hp.okp.decls.mem g3).value vf vn,ob]
 ·have e:d.Kind=6:=by simpa using h6
  rw [F1s hb hp hi g1 g3 e,ob]
theorem W23 {p:I0}(hb:p.bulk≤4200000):Ri p=some (Lh p.Decls p.Decls [] 0):=by
 have hbd:B0.bulks p.Decls≤4200000:=by cases p; simp only [I0.bulk] at hb; simp only; omega
 have hdl:=B0.bulk_len p.Decls
 have hl:p.Decls.length≤BB:=by unfold BB; omega
 unfold Ri
 rw [S1c p hl,ob]
 have hnl:(p.Decls.map fun d=>d.Name).length=p.Decls.length:=List.length_map ..
 have outer:∀ (r:List B0) (k:Nat) (seen:List Str),p.Decls.drop k=r→(∀ nm,P7 (p.Decls.take k) nm=seen.any fun y=>y == nm)→G5 p (p.Decls.map fun d=>d.Name) k=some (Lh p.Decls r seen k):=by
  intro r
  induction r with
  | nil=>
   intro k seen h hs
   rw [G5,(A1 h).1]
   rfl
  | cons d r ih=>
   intro k seen h hs
   obtain ⟨e1,e2,e3,e4,e5⟩:=C1 h
   have hbm:=B0.bulk_mem e5
   have hbe:=B0.bulk_eq d
   have hpl:=B0.bulk_len d.Params
   have hvl:=B0.bulk_len d.Vars
   rw [G5,e1,if_pos rfl,e2,ob,C1m (by rw [hnl]; omega),ob,← List.map_take,R11 _ _ (by simp; omega),ob,S11,hs,decide_eq_true (by rw [hnl]; omega),if_pos rfl]
   simp only [Lh]
   have nxt:G5 p (p.Decls.map fun d=>d.Name) (IntKind.i64.wrap ((k:Int)+1))=some (Lh p.Decls r (d.Name::seen) (k+1)):=by
    rw [w1 (by omega)]
    refine ih (k+1) _ e3 fun nm=>?_
    have e6:p.Decls.take (k+1)=p.Decls.take k++[d]:=by
     rw [List.take_succ_eq_append_getElem e4]
     have:=X1r e4
     rw [e2] at this
     cases this
     rfl
    have:=hs nm
    unfold P7 at this ⊢
    rw [e6,List.any_append,this]
    simp only [List.any_cons,List.any_nil,Bool.or_false]
    rw [Bool.or_comm]
   have l3:∀ (q:List B0) (j:Nat) (inner:List Str) (sn:List Str),d.Vars.drop j=q→inner.length≤8400000+j→(∀ nm,(inner.any fun y=>y == nm)=bif P7 p.Decls nm then true else sn.any fun y=>y == nm)→Lb p d (p.Decls.map fun d=>d.Name) k inner j=some (bif Ys p.Decls q sn then (k:Int) else Lh p.Decls r (d.Name::seen) (k+1)):=by
    intro q
    induction q with
    | nil=>
     intro j inner sn h hi hr
     rw [Lb,(A1 h).1,if_neg (by simp),nxt]
     rfl
    | cons y q ih2=>
     intro j inner sn h hi hr
     obtain ⟨f1,f2,f3,f4,f5⟩:=C1 h
     rw [Lb,f1,if_pos rfl,f2,ob,R11 _ _ (by unfold BB; omega),ob,hr y.Name,ob,decide_eq_true (by omega),w1 (by unfold BB; omega)]
     simp only [Ys]
     cases (bif P7 p.Decls y.Name then true else sn.any fun z=>z == y.Name) with
     | true=>rfl
     | false=>
      refine ih2 (j+1) _ (y.Name::sn) f3 (by simp; omega) fun nm=>?_
      rw [List.any_append,hr nm]
      simp only [List.any_cons,List.any_nil,Bool.or_false]
      cases P7 p.Decls nm <;> cases y.Name == nm <;> simp
   have l2:∀ (q:List B0) (j:Nat) (inner:List Str) (sn:List Str),d.Params.drop j=q→j≤d.Params.length→inner.length≤4200000+j→(∀ nm,(inner.any fun y=>y == nm)=bif P7 p.Decls nm then true else sn.any fun y=>y == nm)→Kb p d (p.Decls.map fun d=>d.Name) k inner j=some (bif Ys p.Decls (q++d.Vars) sn then (k:Int) else Lh p.Decls r (d.Name::seen) (k+1)):=by
    intro q
    induction q with
    | nil=>
     intro j inner sn h hj0 hi hr
     rw [Kb,(A1 h).1,if_neg (by simp)]
     exact l3 d.Vars 0 inner sn rfl (by omega) hr
    | cons y q ih2=>
     intro j inner sn h hj0 hi hr
     obtain ⟨f1,f2,f3,f4,f5⟩:=C1 h
     rw [Kb,f1,if_pos rfl,f2,ob,R11 _ _ (by unfold BB; omega),ob,hr y.Name,ob,decide_eq_true (by omega),w1 (by unfold BB; omega)]
     simp only [Ys,List.cons_append]
     cases (bif P7 p.Decls y.Name then true else sn.any fun z=>z == y.Name) with
     | true=>rfl
     | false=>
      refine ih2 (j+1) _ (y.Name::sn) f3 (by omega) (by simp; omega) fun nm=>?_
      rw [List.any_append,hr nm]
      simp only [List.any_cons,List.any_nil,Bool.or_false]
      cases P7 p.Decls nm <;> cases y.Name == nm <;> simp
   have:=l2 d.Params 0 (p.Decls.map fun d=>d.Name) [] rfl (Nat.zero_le _) (by simp; omega) fun nm=>by rw [S11]; cases P7 p.Decls nm <;> rfl
   rw [show (0:Int)=((0:Nat):Int) from rfl,this]
   cases seen.any fun y=>y == d.Name with
   | true=>rfl
   | false=>cases Ys p.Decls (d.Params++d.Vars) [] <;> rfl
 exact outer p.Decls 0 [] rfl fun nm=>rfl
end Go.Proofs.YtdkabnfphmmmnaaGreatDoor

set_option linter.unusedSimpArgs false
set_option linter.unusedVariables false
namespace Go.Proofs.YtdkabnfphmmmnaaGreatDoor
open Go.Am
theorem G1s {K n u v:Int}(hn:0≤n)(hu:0≤u)(hv:0≤v)(hK:0≤K)(h:min u K=min v K):min (n * u) K=min (n * v) K:=by
 by_cases e:u=v
 ·rw [e]
 ·have h1:K≤u:=by omega
  have h2:K≤v:=by omega
  by_cases n0:n=0
  ·rw [n0,Int.zero_mul,Int.zero_mul]
  ·have a:1 * u≤n * u:=Int.mul_le_mul_of_nonneg_right (by omega) hu
   have b:1 * v≤n * v:=Int.mul_le_mul_of_nonneg_right (by omega) hv
   omega
theorem Y16 {n u N U:Int}(h0:0≤n)(h1:n≤N)(h2:0≤u)(h3:u≤U):0≤n * u∧n * u≤N * U:=
 ⟨Int.mul_nonneg h0 h2,Int.mul_le_mul h1 h3 h2 (by omega)⟩
structure SA (x:O0)(a:Int×Int):Prop where
 p1:0≤x.steps∧x.steps≤1073741824
 p2:0≤x.outputs∧x.outputs≤1073741824
 r1:0≤a.1∧a.1≤1000000
 r2:0≤a.2∧a.2≤1000000
 le:a.2≤a.1
 e1:min x.steps 4097=min a.1 4097
 e2:min x.outputs 9=min a.2 9
theorem SA.zero:SA ⟨0,0⟩ (0,0):=⟨by decide,by decide,by decide,by decide,by decide,rfl,rfl⟩
theorem A20 (n:Int):Wq n=some (min n 1000000):=by
 unfold Wq
 rw [Mf,ob]
def T1c (v n w:Int)(st ou:Int)(x2 x3 xc:Int×Int):Int×Int:=
 (min (st+1+(bif v == 5 then max x2.1 x3.1 else bif v == 6 then n * (1+x2.1) else bif v == 7 then w * (1+x2.1) else bif v == 1 then xc.1 else 0)) 1000000,
  min (ou+(bif v == 3 then 1 else bif v == 5 then max x2.2 x3.2 else bif v == 6 then n * x2.2 else bif v == 7 then w * x2.2 else bif v == 1 then xc.2 else 0)) 1000000)
theorem Y1w {P:I0}{l:List C0}{n:Nat}{x:C0}{k:Nat}(hk:k≤BB){st ou:Int}{x2 x3 xc:Int×Int}(h2:0≤x2.1∧x2.1≤1000000∧0≤x2.2∧x2.2≤1000000)(h3:0≤x3.1∧x3.1≤1000000∧0≤x3.2∧x3.2≤1000000)(hc:0≤xc.1∧xc.1≤1000000∧0≤xc.2∧xc.2≤1000000)
  (hs:0≤st∧st≤1000000∧0≤ou∧ou≤1000000) (hn:x.Verb=6→0≤x.NV∧x.NV≤4096) (hw:x.Verb=7→0≤wi (wi (x.High - x.Low)+1)∧wi (wi (x.High - x.Low)+1)≤4096)
  (g:idx l k=some x) (hlt:decide ((k:Int) < (l.length:Int))=true) (hT:B3 P x.Then n=some x2) (hE:B3 P x.Else n=some x3)
  (hC:x.Verb=1→∃ j d,I9 P 6 x.Name n=some j∧idx P.Decls j=some d∧B3 P d.Body j=some xc) :
  G3 P l n st ou k=G3 P l n (T1c x.Verb x.NV (wi (wi (x.High - x.Low)+1)) st ou x2 x3 xc).1 (T1c x.Verb x.NV (wi (wi (x.High - x.Low)+1)) st ou x2 x3 xc).2 ((k+1:Nat):Int):=by
 have j6:∀ a b,Rk P l n a b k=G3 P l n (min a 1000000) (min b 1000000) ((k+1:Nat):Int):=fun a b=>by
  rw [Rk,A20,ob,A20,ob,w1 hk]
 have w:∀ {a:Int},0≤a→a≤8000000000→IntKind.i64.wrap a=a:=fun h h'=>wr (by omega) (by omega)
 have f:∀ {m:Int},x.Verb≠m→(x.Verb == m)=false:=fun h=>beq_eq_false_iff_ne.2 h
 have t:∀ {m:Int},x.Verb=m→(x.Verb == m)=true:=fun h=>by rw [h]; exact beq_self_eq_true _
 have g2:∀ a b,x.Verb≠5→Wg P l n x a b k x2 x3=Wd P l n x a b k x2:=fun a b h=>by rw [Wg,f h]; rfl
 have g3:∀ a b,x.Verb≠6→Wd P l n x a b k x2=Xd P l n x a b k x2:=fun a b h=>by rw [Wd,f h]; rfl
 have g4:∀ a b,x.Verb≠7→Xd P l n x a b k x2=Yd P l n x a b k:=fun a b h=>by rw [Xd,f h]; rfl
 have g5:∀ a b,x.Verb≠1→Yd P l n x a b k=G3 P l n (min a 1000000) (min b 1000000) ((k+1:Nat):Int):=fun a b h=>by rw [Yd,f h]; exact j6 a b
 have s1:IntKind.i64.wrap (st+1)=st+1:=w (by omega) (by omega)
 rw [G3,hlt,if_pos rfl,g,ob,hT,ob,hE,ob]
 unfold T1c
 by_cases v3:x.Verb=3
 ·rw [t v3,if_pos rfl,g2 _ _ (by omega),g3 _ _ (by omega),g4 _ _ (by omega),g5 _ _ (by omega),s1,w (a:=ou+1) (by omega) (by omega),v3]
  show _=G3 P l n (min (st+1+0) 1000000) (min (ou+1) 1000000) _
  rw [Int.add_zero]
 rw [f v3,if_neg (by simp),s1]
 by_cases v5:x.Verb=5
 ·rw [Wg,t v5,if_pos rfl,Mg,ob,Mg,ob,g3 _ _ (by omega),g4 _ _ (by omega),g5 _ _ (by omega),w (a:=st+1+max x2.1 x3.1) (by omega) (by omega),w (a:=ou+max x2.2 x3.2) (by omega) (by omega)]
  rfl
 rw [g2 _ _ v5]
 by_cases v6:x.Verb=6
 ·obtain ⟨n0,n1⟩:=hn v6
  obtain ⟨q1,q2⟩:=Y16 n0 n1 (u:=1+x2.1) (by omega) (show 1+x2.1≤1000001 by omega)
  obtain ⟨q3,q4⟩:=Y16 n0 n1 h2.2.2.1 h2.2.2.2
  rw [Wd,t v6,if_pos rfl,g4 _ _ (by omega),g5 _ _ (by omega),w (a:=1+x2.1) (by omega) (by omega),w q1 (by omega),w q3 (by omega),w (a:=st+1+x.NV * (1+x2.1)) (by omega) (by omega),w (a:=ou+x.NV * x2.2) (by omega) (by omega),f v5]
  rfl
 rw [g3 _ _ v6]
 by_cases v7:x.Verb=7
 ·obtain ⟨n0,n1⟩:=hw v7
  have e0:IntKind.i64.wrap (IntKind.i64.wrap (x.High - x.Low)+1)=wi (wi (x.High - x.Low)+1):=rfl
  rw [Xd,t v7,if_pos rfl,g5 _ _ (by omega),e0]
  generalize wi (wi (x.High - x.Low)+1)=W at n0 n1 ⊢
  obtain ⟨q1,q2⟩:=Y16 n0 n1 (u:=1+x2.1) (by omega) (show 1+x2.1≤1000001 by omega)
  obtain ⟨q3,q4⟩:=Y16 n0 n1 h2.2.2.1 h2.2.2.2
  rw [w (a:=1+x2.1) (by omega) (by omega),w q1 (by omega),w q3 (by omega),w (a:=st+1+W * (1+x2.1)) (by omega) (by omega),w (a:=ou+W * x2.2) (by omega) (by omega),f v5,f v6]
  rfl
 rw [g4 _ _ v7]
 by_cases v1:x.Verb=1
 ·obtain ⟨j,d,c1,c2,c3⟩:=hC v1
  rw [Yd,t v1,if_pos rfl,c1,ob,c2,ob,c3,ob,w (a:=st+1+xc.1) (by omega) (by omega),w (a:=ou+xc.2) (by omega) (by omega),j6,f v5,f v6,f v7]
  rfl
 ·rw [g5 _ _ v1,f v5,f v6,f v7,f v1]
  simp only [cond_false,Int.add_zero]
theorem Z1w {a b:Int}(h:0≤a * b)(h':a * b≤4611686018427387904):tmI a b=min (a * b) 1073741824:=by
 unfold tmI
 rw [wis (by omega) h']
theorem J25 {a b:Int}(h:0≤a+b)(h':a+b≤4611686018427387904):plI a b=min (a+b) 1073741824:=by
 unfold plI
 rw [wis (by omega) h']
theorem B20 {n:Int}(h0:0≤n)(h1:n≤4096){u v K:Int}(hu:0≤u∧u≤1073741825)(hv:0≤v∧v≤1000001)(hK:0≤K∧K≤4097)(h:min u K=min v K) :
  0≤tmI n u∧tmI n u≤1073741824∧0≤n * v∧n * v≤4100000000∧min (tmI n u) K=min (n * v) K:=by
 obtain ⟨q1,q2⟩:=Y16 h0 h1 hu.1 hu.2
 obtain ⟨q3,q4⟩:=Y16 h0 h1 hv.1 hv.2
 have:=G1s h0 hu.1 hv.1 hK.1 h
 rw [Z1w q1 (by omega)]
 omega
theorem M1k {a b:Int}(ha:0≤a∧a≤1073741824)(hb:0≤b∧b≤1073741824):(0≤plI a b∧plI a b≤1073741824)∧∀ K,K≤1073741824→min (plI a b) K=min (a+b) K:=by
 rw [J25 (by omega) (by omega)]
 exact ⟨by omega,fun K hK=>by omega⟩
theorem N1k {a b a' b' K:Int}(h1:0≤a)(h2:0≤b)(h3:0≤a')(h4:0≤b')(h:min a K=min a' K)(h':min b K=min b' K):min (a+b) K=min (a'+b') K:=by omega
theorem H1s {a K C:Int}(h:K≤C):min (min a C) K=min a K:=by omega
theorem P14 {a y:O0}{st ou u v:Int}(ha:SA a (st,ou))(hy1:0≤y.steps∧y.steps≤1073741824)(hy2:0≤y.outputs∧y.outputs≤1073741824)(hu:0≤u)(hv:0≤v)(hvu:v≤u+1)(e1:min y.steps 4097=min u 4097)(e2:min y.outputs 9=min v 9) :
  SA (adA (adA a ⟨1,0⟩) y) (min (st+1+u) 1000000,min (ou+v) 1000000):=by
 obtain ⟨a1,a3,a5,a7,a9,a10,a11⟩:=ha
 simp only at a5 a7 a9 a10 a11
 obtain ⟨s1,s2⟩:=M1k a1 (b:=1) (by decide)
 obtain ⟨s3,s4⟩:=M1k s1 hy1
 obtain ⟨t1,t2⟩:=M1k a3 (b:=0) (by decide)
 obtain ⟨t3,t4⟩:=M1k t1 hy2
 refine ⟨s3,t3,?_,?_,?_,?_,?_⟩
 ·clear s2 s4 t2 t4 e1 e2 a10 a11; simp only; omega
 ·clear s2 s4 t2 t4 e1 e2 a10 a11; simp only; omega
 ·clear s2 s4 t2 t4 e1 e2 a10 a11; simp only; omega
 ·show min (plI (plI a.steps 1) y.steps) 4097=min (min (st+1+u) 1000000) 4097
  rw [s4 _ (by omega),H1s (by omega)]
  refine N1k s1.1 hy1.1 (by omega) hu ?_ e1
  rw [s2 _ (by omega)]
  exact N1k a1.1 (by omega) a5.1 (by omega) a10 rfl
 ·show min (plI (plI a.outputs 0) y.outputs) 9=min (min (ou+v) 1000000) 9
  rw [t4 _ (by omega),H1s (by omega)]
  refine N1k t1.1 hy2.1 a7.1 hv ?_ e2
  rw [t2 _ (by omega),Int.add_zero]
  exact a11
theorem C20 {a b a' b' K:Int}(h:min a K=min a' K)(h':min b K=min b' K):min (max a b) K=min (max a' b') K:=by omega
theorem S22 {n:Int}(n0:0≤n)(n1:n≤4096){b:O0}{x2:Int×Int}(h:SA b x2):(0≤(rdA n b).steps∧(rdA n b).steps≤1073741824)∧(0≤(rdA n b).outputs∧(rdA n b).outputs≤1073741824)∧0≤n * (1+x2.1)∧0≤n * x2.2∧n * x2.2≤n * (1+x2.1)∧
  min (rdA n b).steps 4097=min (n * (1+x2.1)) 4097∧min (rdA n b).outputs 9=min (n * x2.2) 9:=by
 obtain ⟨b1,b3,b5,b7,b9,b10,b11⟩:=h
 obtain ⟨s1,s2⟩:=M1k (a:=1) (by decide) b1
 have e:min (plI 1 b.steps) 4097=min (1+x2.1) 4097:=by
  rw [s2 _ (by omega)]
  exact N1k (by omega) b1.1 (by omega) b5.1 rfl b10
 obtain ⟨t1,t2,t3,t4,t5⟩:=B20 n0 n1 (u:=plI 1 b.steps) (v:=1+x2.1) (K:=4097) ⟨s1.1,by omega⟩ ⟨by omega,by omega⟩ (by omega) e
 obtain ⟨o1,o2,o3,o4,o5⟩:=B20 n0 n1 (u:=b.outputs) (v:=x2.2) (K:=9) ⟨b3.1,by omega⟩ ⟨b7.1,by omega⟩ (by omega) b11
 exact ⟨⟨t1,t2⟩,⟨o1,o2⟩,t3,o3,Int.mul_le_mul_of_nonneg_left (by omega) n0,t5,o5⟩
theorem X23 {x:C0}{m:List (Str×O0)}{a:O0}{st ou:Int}{x2 x3 xc:Int×Int}(ha:SA a (st,ou))(h2:SA (C0.ams m x.Then ⟨0,0⟩) x2)(h3:SA (C0.ams m x.Else ⟨0,0⟩) x3)
  (hn:x.Verb=6→0≤x.NV∧x.NV≤4096) (hw:x.Verb=7→0≤wi (wi (x.High - x.Low)+1)∧wi (wi (x.High - x.Low)+1)≤4096) (hc:x.Verb=1→SA ((mgt x.Name m).getD O0.zero) xc) :
  SA (adA (adA a ⟨1,0⟩) (x.am m)) (T1c x.Verb x.NV (wi (wi (x.High - x.Low)+1)) st ou x2 x3 xc):=by
 rw [C0.am_eq]
 unfold T1c
 have f:∀ {m:Int},x.Verb≠m→(x.Verb == m)=false:=fun h=>beq_eq_false_iff_ne.2 h
 by_cases v3:x.Verb=3
 ·rw [v3]
  exact P14 ha (y:=⟨0,1⟩) (u:=0) (v:=1) (by simp) (by simp) (by omega) (by omega) (by omega) rfl rfl
 by_cases v5:x.Verb=5
 ·rw [v5]
  obtain ⟨b1,b3,b5,b7,b9,b10,b11⟩:=h2
  obtain ⟨d1,d3,d5,d7,d9,d10,d11⟩:=h3
  refine P14 ha (y:=mxA (C0.ams m x.Then ⟨0,0⟩) (C0.ams m x.Else ⟨0,0⟩)) (u:=max x2.1 x3.1) (v:=max x2.2 x3.2) ?_ ?_ ?_ ?_ ?_ (C20 b10 d10) (C20 b11 d11)
  ·clear b10 b11 d10 d11; simp only [mxA]; omega
  ·clear b10 b11 d10 d11; simp only [mxA]; omega
  ·clear b10 b11 d10 d11; omega
  ·clear b10 b11 d10 d11; omega
  ·clear b10 b11 d10 d11; omega
 by_cases v6:x.Verb=6
 ·obtain ⟨n0,n1⟩:=hn v6
  obtain ⟨r1,r2,r3,r4,r5,r6,r7⟩:=S22 n0 n1 h2
  rw [v6]
  exact P14 ha (u:=x.NV * (1+x2.1)) (v:=x.NV * x2.2) r1 r2 r3 r4 (by omega) r6 r7
 by_cases v7:x.Verb=7
 ·obtain ⟨n0,n1⟩:=hw v7
  obtain ⟨r1,r2,r3,r4,r5,r6,r7⟩:=S22 n0 n1 h2
  rw [v7]
  exact P14 ha (u:=wi (wi (x.High - x.Low)+1) * (1+x2.1)) (v:=wi (wi (x.High - x.Low)+1) * x2.2) r1 r2 r3 r4 (by omega) r6 r7
 by_cases v1:x.Verb=1
 ·obtain ⟨c1,c2,c3,c4,c5,c6,c7⟩:=hc v1
  rw [v1]
  exact P14 ha (u:=xc.1) (v:=xc.2) c1 c2 c3.1 c4.1 (by omega) c6 c7
 ·rw [f v3,f v5,f v6,f v7,f v1]
  exact P14 ha (y:=⟨0,0⟩) (u:=0) (v:=0) (by simp) (by simp) (by omega) (by omega) (by omega) rfl rfl
mutual
def C0.cl:C0→List Str
 | .mk v _ _ nm _ _ _ _ _ th el=>(bif v == 1 then [nm] else [])++(C0.cls th++C0.cls el)
def C0.cls:List C0→List Str
 | []=>[]
 | x::r=>C0.cl x++C0.cls r
end
theorem C0.cl_eq (x:C0):x.cl=(bif x.Verb == 1 then [x.Name] else [])++(C0.cls x.Then++C0.cls x.Else):=by cases x; simp only [C0.cl]
theorem Z1u {x:C0}:∀ {l:List C0},x∈l→∀ nm∈x.cl,nm∈C0.cls l
 | y::r,h,nm,hn=>by
  simp only [C0.cls,List.mem_append]
  cases h with
  | head=>exact .inl hn
  | tail _ h=>exact .inr (Z1u h nm hn)
theorem A1x {x:C0}(h:sform x=true):(x.Verb≠5→x.Verb≠6→x.Verb≠7→x.Then=[])∧(x.Verb≠5→x.Else=[]):=by
 unfold sform at h
 simp only [Bool.and_eq_true] at h
 obtain ⟨⟨_,h1⟩,h2⟩:=h
 refine ⟨fun a b c=>?_,fun a=>?_⟩
 ·unfold uTh at h1
  rw [beq_eq_false_iff_ne.2 a,beq_eq_false_iff_ne.2 b,beq_eq_false_iff_ne.2 c] at h1
  simpa using h1
 ·rw [beq_eq_false_iff_ne.2 a] at h2
  simpa using h2
theorem D20 {x:C0}(h:snumb x=true):(x.Verb=6→0≤x.NV∧x.NV≤4096)∧(x.Verb=7→0≤wi (wi (x.High - x.Low)+1)∧wi (wi (x.High - x.Low)+1)≤4096):=by
 unfold snumb at h
 simp only [Bool.and_eq_true] at h
 have hn:=h.2
 unfold Yn A2 at hn
 refine ⟨fun e=>?_,fun e=>?_⟩
 ·rw [e] at hn
  simp only [show ((6:Int) == 4)=false from rfl,show ((6:Int) == 6)=true from rfl,cond_false,cond_true] at hn
  by_cases a:x.NV≥0
  ·by_cases b:x.NV≤4096
   ·exact ⟨a,b⟩
   ·simp [a,b] at hn
  ·simp [a] at hn
 ·rw [e] at hn
  simp only [show ((7:Int) == 4)=false from rfl,show ((7:Int) == 6)=false from rfl,show ((7:Int) == 7)=true from rfl,cond_false,cond_true] at hn
  by_cases a:x.Low≥-1048576
  ·by_cases a2:x.Low≤1048576
   ·by_cases b:x.High≥x.Low
    ·by_cases d:x.High≤1048576
     ·by_cases f:x.High - x.Low < 4096
      ·rw [wis (n:=x.High - x.Low) (by omega) (by omega),wis (by omega) (by omega)]; omega
      ·simp [a,a2,b,d,f] at hn
     ·simp [a,a2,b,d] at hn
    ·simp [a,a2,b] at hn
   ·simp [a,a2] at hn
  ·simp [a] at hn
theorem B1o {ds:List B0}{n:Nat}{loc:Bool}(l:List C0):C0.alls sform l=true→∀ s top,C0.sts ds n loc l s top=0→∀ nm∈C0.cls l,∃ j,Z6 6 nm (ds.take n) 0=some j:=by
 refine C0.inds (Q:=fun l=>C0.alls sform l=true→∀ s top,C0.sts ds n loc l s top=0→∀ nm∈C0.cls l,∃ j,Z6 6 nm (ds.take n) 0=some j) (fun l ih=>?_) l
 have one:∀ x∈l,sform x=true→C0.alls sform x.Then=true→C0.alls sform x.Else=true→∀ s last,x.st ds n loc s last=0→∀ nm∈x.cl,∃ j,Z6 6 nm (ds.take n) 0=some j:=fun x hx hf ft fe s last h nm hnm=>by
  obtain ⟨k1,k2⟩:=A1x hf
  obtain ⟨i1,i2⟩:=ih x hx
  have zz:∀ {a b:Int},(bif a != 0 then a else b)=0→a=0∧b=0:=fun {a b} h=>by
   by_cases ha:a=0
   ·rw [ha] at h; exact ⟨ha,h⟩
   ·rw [show (a != 0)=true by simpa [bne] using ha] at h; exact absurd h ha
  rw [C0.st_eq] at h
  rw [C0.cl_eq,List.mem_append,List.mem_append] at hnm
  by_cases v1:x.Verb=1
  ·rw [k1 (by omega) (by omega) (by omega),k2 (by omega),v1] at hnm
   rw [v1] at h
   change P11 ds n s x.Place x.Name x.Args=0 at h
   have e:nm=x.Name:=by
    rcases hnm with q | q | q
    ·exact List.mem_singleton.1 q
    ·simp [C0.cls] at q
    ·simp [C0.cls] at q
   rw [e]
   unfold P11 at h
   have h2:=(zz h).2
   cases hf6:Z6 6 x.Name (ds.take n) 0 with
   | none=>rw [hf6] at h2; exact absurd h2 (by simp)
   | some j=>exact ⟨j,rfl⟩
  ·rw [beq_eq_false_iff_ne.2 v1] at hnm
   have hnm':nm∈C0.cls x.Then∨nm∈C0.cls x.Else:=hnm.elim (fun q=>by simp at q) id
   by_cases v5:x.Verb=5
   ·rw [v5] at h
    obtain ⟨_,h⟩:=zz h
    obtain ⟨h6,h7⟩:=zz h
    exact hnm'.elim (i1 ft s false h6 nm) (i2 fe s false h7 nm)
   ·have hT:nm∈C0.cls x.Then:=hnm'.elim id fun q=>by rw [k2 v5] at q; simp [C0.cls] at q
    by_cases v6:x.Verb=6
    ·rw [v6] at h
     exact i1 ft s false (zz h).2 nm hT
    ·by_cases v7:x.Verb=7
     ·rw [v7] at h
      change (bif (bif P7 ds x.Name then true else (Th s x.Name).2) then (8:Int) else C0.sts ds n loc x.Then (Q11 s x.Name x.Low x.High) false)=0 at h
      cases hc:(bif P7 ds x.Name then true else (Th s x.Name).2) with
      | true=>rw [hc] at h; simp at h
      | false=>rw [hc] at h; exact i1 ft _ false h nm hT
     ·rw [k1 v5 v6 v7] at hT
      simp [C0.cls] at hT
 have main:∀ r:List C0,(∀ x∈r,x∈l)→C0.alls sform r=true→∀ s top,C0.sts ds n loc r s top=0→∀ nm∈C0.cls r,∃ j,Z6 6 nm (ds.take n) 0=some j:=by
  intro r
  induction r with
  | nil=>intro _ _ s top _ nm h; simp [C0.cls] at h
  | cons x r ihr=>
   intro hm hf s top h nm hn
   obtain ⟨f1,f2,f3⟩:=Yi hf List.mem_cons_self
   simp only [C0.alls,Bool.and_eq_true] at hf
   simp only [C0.sts] at h
   simp only [C0.cls,List.mem_append] at hn
   by_cases hz:x.st ds n loc s (bif top then r.isEmpty else false)=0
   ·rw [hz] at h
    rcases hn with hn | hn
    ·exact one x (hm x List.mem_cons_self) f1 f2 f3 s _ hz nm hn
    ·exact ihr (fun y hy=>hm y (List.mem_cons_of_mem _ hy)) hf.2 s top h nm hn
   ·rw [show (x.st ds n loc s (bif top then r.isEmpty else false) != 0)=true by simpa [bne] using hz] at h
    exact absurd h hz
 exact main l fun x hx=>hx
def O1k (P:I0)(n:Nat)(m:List (Str×O0))(nm:Str):Prop:=
 ∃ (j:Nat) (d:B0) (a:Int×Int),I9 P 6 nm n=some (j:Int)∧idx P.Decls (j:Int)=some d∧B3 P d.Body j=some a∧SA ((mgt nm m).getD O0.zero) a
theorem U1c {P:I0}{n:Nat}{m:List (Str×O0)}(l:List C0):WfS l→(∀ nm∈C0.cls l,O1k P n m nm)→∃ a,B3 P l n=some a∧SA (C0.ams m l ⟨0,0⟩) a:=by
 refine C0.inds (Q:=fun l=>WfS l→(∀ nm∈C0.cls l,O1k P n m nm)→∃ a,B3 P l n=some a∧SA (C0.ams m l ⟨0,0⟩) a) (fun l ih hw hc=>?_) l
 have hl:=hw.ok.len
 have main:∀ (r:List C0) (k:Nat) (a:O0) (st ou:Int),l.drop k=r→SA a (st,ou)→∃ b,G3 P l n st ou k=some b∧SA (C0.ams m r a) b:=by
  intro r
  induction r with
  | nil=>
   intro k a st ou h ha
   rw [G3,(A1 h).1]
   exact ⟨_,rfl,ha⟩
  | cons x r ihr=>
   intro k a st ou h ha
   obtain ⟨e1,e2,e3,e4,e5⟩:=C1 h
   have hcx:∀ nm∈x.cl,O1k P n m nm:=fun nm hn=>hc nm (Z1u e5 nm hn)
   rw [C0.cl_eq] at hcx
   obtain ⟨x2,t1,t2⟩:=(ih x e5).1 (hw.kids e5).1 fun nm hn=>hcx nm (List.mem_append.2 (.inr (List.mem_append.2 (.inl hn))))
   obtain ⟨x3,u1,u2⟩:=(ih x e5).2 (hw.kids e5).2 fun nm hn=>hcx nm (List.mem_append.2 (.inr (List.mem_append.2 (.inr hn))))
   obtain ⟨n1,n2⟩:=D20 (Yi hw.numb e5).1
   have hcall:∃ xc:Int×Int,(0≤xc.1∧xc.1≤1000000∧0≤xc.2∧xc.2≤1000000)∧(x.Verb=1→∃ j d,I9 P 6 x.Name n=some j∧idx P.Decls j=some d∧B3 P d.Body j=some xc)∧(x.Verb=1→SA ((mgt x.Name m).getD O0.zero) xc):=by
    by_cases v1:x.Verb=1
    ·obtain ⟨j,d,xc,c1,c2,c3,c4⟩:=hcx x.Name (by rw [v1]; simp)
     exact ⟨xc,⟨c4.r1.1,c4.r1.2,c4.r2.1,c4.r2.2⟩,fun _=>⟨j,d,c1,c2,c3⟩,fun _=>c4⟩
    ·exact ⟨(0,0),by decide,fun h=>absurd h v1,fun h=>absurd h v1⟩
   obtain ⟨xc,c1,c2,c3⟩:=hcall
   rw [Y1w (by omega) ⟨t2.r1.1,t2.r1.2,t2.r2.1,t2.r2.2⟩ ⟨u2.r1.1,u2.r1.2,u2.r2.1,u2.r2.2⟩ c1 ⟨ha.r1.1,ha.r1.2,ha.r2.1,ha.r2.2⟩ n1 n2 e2 e1 t1 u1 c2]
   exact ihr (k+1) _ _ _ e3 (X23 ha t2 u2 n1 n2 c3)
 rw [B3]
 exact main l 0 _ 0 0 rfl .zero
end Go.Proofs.YtdkabnfphmmmnaaGreatDoor

set_option linter.unusedSimpArgs false
set_option linter.unusedVariables false
namespace Go.Proofs.YtdkabnfphmmmnaaGreatDoor
open Go.Am
def oSt:C0:=C0.mk 3 (D0.mk 0 0 [] []) (D0.mk 0 0 [] []) [] [] 0 0 0 [] [] []
def wSt:C0:=C0.mk 4 (D0.mk 0 0 [] []) (D0.mk 0 0 [] []) [] [] 0 0 0 [] [] []
theorem A1v (x1:Int)(hx:x1≤5000):∀ (j:Nat) (out:List C0) (i:Int),0≤i→i+j=x1→out.length≤i→M6 x1 out i=some (out++List.replicate j wSt)
 | 0,out,i,h0,h,ho=>by
  rw [M6,decide_eq_false (by omega)]
  simp
 | j+1,out,i,h0,h,ho=>by
  rw [M6,decide_eq_true (by omega),if_pos rfl,decide_eq_true (by omega),if_pos rfl,wr (by omega) (by omega)]
  have:=A1v x1 hx j (out++[wSt]) (i+1) (by omega) (by omega) (by simp; omega)
  rw [show (C0.mk 4 (D0.mk 0 0 [] []) (D0.mk 0 0 [] []) [] [] 0 0 0 [] [] [])=wSt from rfl,this]
  simp [List.replicate_succ]
theorem B1v (x1 x2:Int)(hx:x1≤5000)(h21:x2≤x1):∀ (j:Nat) (out:List C0) (i:Int),0≤i→i+j=x2→out.length=i→N6 x1 x2 out i=some (out++List.replicate j oSt++List.replicate (x1 - x2).toNat wSt)
 | 0,out,i,h0,h,ho=>by
  rw [N6,decide_eq_false (by omega),if_neg (by simp),A1v x1 hx (x1 - x2).toNat out x2 (by omega) (by omega) (by omega)]
  simp
 | j+1,out,i,h0,h,ho=>by
  rw [N6,decide_eq_true (by omega),if_pos rfl,decide_eq_true (by omega),if_pos rfl,wr (by omega) (by omega)]
  have:=B1v x1 x2 hx h21 j (out++[oSt]) (i+1) (by omega) (by omega) (by simp; omega)
  rw [show (C0.mk 3 (D0.mk 0 0 [] []) (D0.mk 0 0 [] []) [] [] 0 0 0 [] [] [])=oSt from rfl,this]
  simp [List.replicate_succ]
def flS (a b:Int):List C0:=List.replicate (min b 9).toNat oSt++List.replicate (min a 4097 - min b 9).toNat wSt
theorem I1s {a b:Int}(h0:0≤b)(h:b≤a):Vi a b=some (flS a b):=by
 unfold Vi
 rw [Mf,ob,Mf,ob,B1v _ _ (by omega) (by omega) (min b 9).toNat [] 0 (by omega) (by omega) rfl]
 rfl
def Co:List C0→Nat
 | []=>0
 | x::r=>(bif x.Verb == 3 then 1 else 0)+Co r
theorem T11 (P:I0)(n:Nat):B3 P [] n=some (0,0):=by
 rw [B3,G3]
 rfl
theorem N1h {P:I0}{n:Nat}{l:List C0}(hl:l.length≤BB)(hx:∀ x∈l,x=oSt∨x=wSt):∀ (r:List C0) (k:Nat) (st ou:Int),l.drop k=r→0≤ou∧ou≤st→st+r.length≤1000000→G3 P l n st ou k=some (st+r.length,ou+Co r)
 | [],k,st,ou,h,h0,h1=>by
  rw [G3,(A1 h).1]
  simp [Co]
 | x::r,k,st,ou,h,h0,h1=>by
  obtain ⟨e1,e2,e3,e4,e5⟩:=C1 h
  have hlen:((x::r).length:Int)=1+r.length:=by simp; omega
  have z:(0:Int)≤0∧(0:Int)≤1000000∧(0:Int)≤0∧(0:Int)≤1000000:=by decide
  rcases hx x e5 with rfl | rfl
  ·rw [Y1w (x:=oSt) (x2:=(0,0)) (x3:=(0,0)) (xc:=(0,0)) (by omega) z z z (by omega) (fun h=>absurd h (by decide)) (fun h=>absurd h (by decide)) e2 e1 (T11 _ _) (T11 _ _) (fun h=>absurd h (by decide))]
   show G3 P l n (min (st+1+0) 1000000) (min (ou+1) 1000000) _=_
   rw [N1h hl hx r (k+1) _ _ e3 (by omega) (by omega)]
   show some _=some (_,ou+(((1+Co r:Nat)):Int))
   refine congrArg some (Prod.ext ?_ ?_)
   ·show min (st+1+0) 1000000+(r.length:Int)=st+((oSt::r).length:Int); omega
   ·show min (ou+1) 1000000+(Co r:Int)=_; omega
  ·rw [Y1w (x:=wSt) (x2:=(0,0)) (x3:=(0,0)) (xc:=(0,0)) (by omega) z z z (by omega) (fun h=>absurd h (by decide)) (fun h=>absurd h (by decide)) e2 e1 (T11 _ _) (T11 _ _) (fun h=>absurd h (by decide))]
   show G3 P l n (min (st+1+0) 1000000) (min (ou+0) 1000000) _=_
   rw [N1h hl hx r (k+1) _ _ e3 (by omega) (by omega)]
   show some _=some (_,ou+(((0+Co r:Nat)):Int))
   refine congrArg some (Prod.ext ?_ ?_)
   ·show min (st+1+0) 1000000+(r.length:Int)=st+((wSt::r).length:Int); omega
   ·show min (ou+0) 1000000+(Co r:Int)=_; omega
theorem E1f:∀ a b:List C0,Co (a++b)=Co a+Co b
 | [],b=>by simp [Co]
 | x::a,b=>by simp only [List.cons_append,Co,E1f a b]; omega
theorem E20:∀ k,Co (List.replicate k oSt)=k
 | 0=>rfl
 | k+1=>by rw [List.replicate_succ,Co,E20 k,show (oSt.Verb == 3)=true from rfl]; simp; omega
theorem F20:∀ k,Co (List.replicate k wSt)=0
 | 0=>rfl
 | k+1=>by rw [List.replicate_succ,Co,F20 k,show (wSt.Verb == 3)=false from rfl]; rfl
theorem G20 {a b:Int}(h0:0≤b)(h:b≤a)(P:I0)(n:Nat):B3 P (flS a b) n=some (min a 4097,min b 9):=by
 have hlen:((flS a b).length:Int)=min a 4097:=by unfold flS; simp; omega
 have hout:((Co (flS a b):Nat):Int)=min b 9:=by unfold flS; rw [E1f,E20,F20]; omega
 rw [B3]
 have:=N1h (P:=P) (n:=n) (l:=flS a b) (by unfold BB; omega) (fun x hx=>by
  unfold flS at hx
  rcases List.mem_append.1 hx with hx | hx
  ·exact .inl (List.eq_of_mem_replicate hx)
  ·exact .inr (List.eq_of_mem_replicate hx)) (flS a b) 0 0 0 rfl (by omega) (by omega)
 rw [hlen,hout] at this
 simpa using this
def kn (d:B0):Int×Str:=(d.Kind,d.Name)
theorem J1s (kind:Int)(nm:Str):∀ (a b:List B0) (k:Nat),a.map kn=b.map kn→Z6 kind nm a k=Z6 kind nm b k
 | [],[],_,_=>rfl
 | [],_::_,_,h=>by cases h
 | _::_,[],_,h=>by cases h
 | x::a,y::b,k,h=>by
  simp only [List.map_cons,List.cons.injEq] at h
  obtain ⟨h1,h2⟩:=h
  simp only [kn,Prod.mk.injEq] at h1
  simp only [Z6,h1.1,h1.2,J1s kind nm a b (k+1) h2]
theorem P1k (b:List B0):∀ (a:List B0) (m:List (Str×O0)),amM (a++b) m=amM b (amM a m)
 | [],m=>rfl
 | d::a,m=>by simp only [List.cons_append,amM]; exact P1k b a _
theorem C1v {ds:List B0}:∀ {r:List B0} {seen:List Str} {k:Nat},Lh ds r seen k < 0→(∀ d∈r,(seen.any fun y=>y == d.Name)=false)∧r.Pairwise fun a b=>a.Name≠b.Name
 | [],_,_,_=>⟨fun d h=>(by cases h),.nil⟩
 | d::r,seen,k,h=>by
  simp only [Lh] at h
  cases h1:seen.any fun y=>y == d.Name with
  | true=>rw [h1] at h; simp only [cond_true] at h; omega
  | false=>
   rw [h1] at h
   simp only [cond_false] at h
   cases h2:Ys ds (d.Params++d.Vars) [] with
   | true=>rw [h2] at h; simp only [cond_true] at h; omega
   | false=>
    rw [h2] at h
    obtain ⟨i1,i2⟩:=C1v (r:=r) h
    refine ⟨fun e he=>?_,.cons (fun e he=>?_) i2⟩
    ·cases he with
     | head=>exact h1
     | tail _ he=>have:=i1 e he; rw [List.any_cons,Bool.or_eq_false_iff] at this; exact this.2
    ·have:=i1 e he
     rw [List.any_cons,Bool.or_eq_false_iff] at this
     exact beq_eq_false_iff_ne.1 this.1
structure CI (p:I0)(i:Nat)(a1:List B0):Prop where
 kns:a1.map kn=p.Decls.map kn
 hi:∀ k,i≤k→a1[k]?=p.Decls[k]?
 lo:∀ (k:Nat) d d',k < i→p.Decls[k]?=some d→a1[k]?=some d'→d.Kind=6→∃ a,(∀ P (n:Nat),B3 P d'.Body n=some a)∧SA ((mgt d.Name (amM (p.Decls.take i) [])).getD O0.zero) a
theorem CI.len {p:I0}{i:Nat}{a1:List B0}(h:CI p i a1):a1.length=p.Decls.length:=by simpa using congrArg List.length h.kns
theorem CI.call {p:I0}(hl:p.Decls.length≤BB){i:Nat}{a1:List B0}(h:CI p i a1)(hi:i≤p.Decls.length){nm:Str}(hf:∃ j,Z6 6 nm (p.Decls.take i) 0=some j):O1k (I0.mk a1 []) i (amM (p.Decls.take i) []) nm:=by
 obtain ⟨j,hj⟩:=hf
 obtain ⟨g1,g2,g3,g4,g5,g6⟩:=B10 hj
 have hla:=h.len
 have e1:Z6 6 nm (a1.take i) 0=some j:=by
  rw [← hj]
  exact J1s _ _ _ _ _ (by rw [List.map_take,List.map_take,h.kns])
 have hd:p.Decls[j]?=some (p.Decls.getD j default):=by simpa using Di g3
 obtain ⟨a,b1,b2⟩:=h.lo j _ a1[j] g1 hd (List.getElem?_eq_getElem (by omega)) (by simpa using g5)
 refine ⟨j,a1[j],a,?_,X1r (show j < a1.length by omega),b1 _ _,?_⟩
 ·rw [C10 (I0.mk a1 []) 6 nm i (show i≤a1.length by omega) (show a1.length≤BB by omega)]
  show some (V16 (Z6 6 nm (a1.take i) 0))=_
  rw [e1]
  rfl
 ·rw [eq_of_beq g6] at b2
  exact b2
theorem E1t {p:I0}(hb:p.bulk≤4200000)(hp:CkP p)(hdup:Lh p.Decls p.Decls [] 0 < 0)(hdc:Qq p p.Decls 0=none)(hbd:Mu p=0):∃ a,Ii p=some a∧SA (amP p) a:=by
 have hbd2:B0.bulks p.Decls≤4200000:=by cases p; simp only [I0.bulk] at hb; simp only; omega
 have hdl:=B0.bulk_len p.Decls
 have hl:p.Decls.length≤BB:=hp.okp.decls.len
 have hwb:WfS p.Body:=⟨hp.okp.body,hp.sform,hp.snumb⟩
 have hcb:=B1o p.Body hp.sform _ _ hbd
 rw [List.take_length] at hcb
 obtain ⟨_,hpw⟩:=C1v hdup
 have hdist:∀ (j k:Nat) (d e:B0),j < k→p.Decls[j]?=some d→p.Decls[k]?=some e→d.Name≠e.Name:=fun j k d e hjk hd he=>by
  obtain ⟨h1,rfl⟩:=List.getElem?_eq_some_iff.1 hd
  obtain ⟨h2,rfl⟩:=List.getElem?_eq_some_iff.1 he
  exact List.pairwise_iff_getElem.1 hpw j k h1 h2 hjk
 have hdz:∀ (r:List B0) (k:Nat),Qq p r k=none→∀ (i:Nat) d,r[i]?=some d→Ym p (k+i) d=0:=by
  intro r
  induction r with
  | nil=>intro k _ i d h; simp at h
  | cons x r ih=>
   intro k h i d hd
   simp only [Qq] at h
   by_cases hz:Ym p k x=0
   ·rw [hz] at h
    cases i with
    | zero=>simp at hd; subst hd; exact hz
    | succ i=>
     have:=ih (k+1) h i d (by simpa using hd)
     rwa [show k+(i+1)=k+1+i by omega]
   ·rw [show (Ym p k x != 0)=true by simpa [bne] using hz] at h
    cases h
 have hfn:∀ (i:Nat) d,p.Decls[i]?=some d→d.Kind=6→∀ nm∈C0.cls d.Body,∃ j,Z6 6 nm (p.Decls.take i) 0=some j:=fun i d hd h6=>by
  have h0:=hdz p.Decls 0 hdc i d hd
  rw [Nat.zero_add] at h0
  have zz:∀ {a b:Int},(bif a != 0 then a else b)=0→b=0:=fun {a b} h=>by
   by_cases ha:a=0
   ·rw [ha] at h; exact h
   ·rw [show (a != 0)=true by simpa [bne] using ha] at h; exact absurd h ha
  have zz2:∀ {a b:Int},(bif a != 0 then a else b)=0→a=0:=fun {a b} h=>by
   by_cases ha:a=0
   ·exact ha
   ·rw [show (a != 0)=true by simpa [bne] using ha] at h; exact absurd h ha
  unfold Ym at h0
  have h1:=zz h0
  rw [h6] at h1
  change fnS p.Decls i d _=0 at h1
  unfold fnS at h1
  have h2:=zz2 (zz h1)
  obtain ⟨df,_⟩:=hp.dec (List.mem_of_getElem? hd)
  have sf:C0.alls sform d.Body=true:=by
   unfold dform at df
   simp only [Bool.and_eq_true] at df
   exact df.2
  exact B1o d.Body sf _ _ h2
 unfold Ii
 cases hE:p.Decls.isEmpty with
 | true=>
  have hnil:p.Decls=[]:=by simpa using hE
  rw [if_pos rfl]
  obtain ⟨a,c1,c2⟩:=U1c (P:=I0.mk [] []) (n:=0) (m:=[]) p.Body hwb fun nm hn=>by
   obtain ⟨j,hj⟩:=hcb nm hn
   rw [hnil] at hj
   simp [Z6] at hj
  refine ⟨a,?_,by unfold amP; rw [hnil]; exact c2⟩
  unfold Kl Rh
  rw [if_pos (by decide),show (0:Int)=((0:Nat):Int) from rfl,c1]
  rfl
 | false=>
  have hne:0 < p.Decls.length:=by
   rcases Nat.eq_zero_or_pos p.Decls.length with h | h
   ·rw [List.length_eq_zero_iff.1 h] at hE; cases hE
   ·exact h
  rw [if_neg (by simp)]
  unfold Ll
  rw [decide_eq_true ⟨hne,by omega⟩,if_pos rfl]
  have main:∀ (j i:Nat) (a1:List B0),i+j=p.Decls.length→CI p i a1→∃ a,Q4 p a1 i=some a∧SA (amP p) a:=by
   intro j
   induction j with
   | zero=>
    intro i a1 hij h
    have hi:i=p.Decls.length:=by omega
    subst hi
    obtain ⟨a,c1,c2⟩:=U1c (P:=I0.mk a1 []) (n:=p.Decls.length) (m:=amM (p.Decls.take p.Decls.length) []) p.Body hwb fun nm hn=>h.call hl (Nat.le_refl _) (by
     rw [List.take_length]; exact hcb nm hn)
    rw [List.take_length] at c2
    refine ⟨a,?_,c2⟩
    rw [Q4,decide_eq_false (by omega),if_neg (by simp),decide_eq_true (by rw [h.len]; simp),if_pos rfl,show (((p.Decls.length:Int).toNat:Nat):Int)=((p.Decls.length:Nat):Int) by simp,c1]
    rfl
   | succ j ih=>
    intro i a1 hij h
    have hi:i < p.Decls.length:=by omega
    have hd:p.Decls[i]?=some p.Decls[i]:=List.getElem?_eq_getElem hi
    have ha:a1[i]?=some p.Decls[i]:=by rw [h.hi i (Nat.le_refl _),hd]
    generalize hde:p.Decls[i]=d at hd ha
    have htk:p.Decls.take (i+1)=p.Decls.take i++[d]:=by rw [List.take_succ_eq_append_getElem hi,hde]
    have ham:amM (p.Decls.take (i+1)) []=bif d.Kind == 6 then mpt d.Name (C0.ams (amM (p.Decls.take i) []) d.Body ⟨0,0⟩) (amM (p.Decls.take i) []) else amM (p.Decls.take i) []:=by rw [htk,P1k]; rfl
    have ti:((i:Int)).toNat=i:=Int.toNat_natCast i
    rw [Q4,decide_eq_true (by simp; omega),if_pos rfl,decide_eq_true (by simp; omega),if_pos rfl,ti,ha,ob,w1 (by omega)]
    by_cases h6:d.Kind=6
    ·have hm:=List.mem_of_getElem? hd
     obtain ⟨df,dn⟩:=hp.dec hm
     have wf:WfS d.Body:=⟨(hp.okp.decls.mem hm).body,by unfold dform at df; simp only [Bool.and_eq_true] at df; exact df.2,by unfold dnumb at dn; simp only [Bool.and_eq_true] at dn; exact dn.2⟩
     obtain ⟨a,c1,c2⟩:=U1c (P:=I0.mk a1 []) (n:=i) (m:=amM (p.Decls.take i) []) d.Body wf fun nm hn=>h.call hl (by omega) (hfn i d hd h6 nm hn)
     rw [show (d.Kind == 6)=true by rw [h6]; rfl,if_pos rfl,if_pos rfl,ob,decide_eq_true (show a1.length=((p.Decls.length:Nat):Int).toNat by rw [h.len]; simp),if_pos rfl,c1,ob,I1s c2.r2.1 c2.le,ob,if_pos rfl,ob]
     refine ih (i+1) _ (by omega) ⟨?_,fun k hk=>?_,fun k e e' hk he he' h6'=>?_⟩
     ·rw [List.map_set,show kn (B0.mk d.Kind d.Name d.TypeV d.Init d.Value d.Params d.Vars (flS a.1 a.2))=kn d from rfl,h.kns]
      refine List.ext_getElem? fun q=>?_
      rw [List.getElem?_set]
      by_cases e:i=q
      ·subst e
       rw [if_pos rfl,List.length_map,if_pos hi,List.getElem?_map,hd]
       rfl
      ·rw [if_neg e]
     ·rw [List.getElem?_set_ne (by omega)]
      exact h.hi k (by omega)
     ·rw [ham,show (d.Kind == 6)=true by rw [h6]; rfl]
      simp only [cond_true]
      rw [Ku]
      by_cases e0:k=i
      ·subst e0
       rw [hd] at he
       cases he
       rw [List.getElem?_set_self (by rw [h.len]; exact hi)] at he'
       cases he'
       rw [beq_self_eq_true]
       refine ⟨_,fun P n=>G20 c2.r2.1 c2.le P n,?_⟩
       obtain ⟨q1,q2,q3,q4,q5,q6,q7⟩:=c2
       refine ⟨q1,q2,?_,?_,?_,?_,?_⟩
       ·simp only; omega
       ·simp only; omega
       ·simp only; omega
       ·show min (C0.ams (amM (p.Decls.take k) []) d.Body ⟨0,0⟩).steps 4097=min (min a.1 4097) 4097; omega
       ·show min (C0.ams (amM (p.Decls.take k) []) d.Body ⟨0,0⟩).outputs 9=min (min a.2 9) 9; omega
      ·rw [beq_eq_false_iff_ne.2 (hdist k i e d (by omega) he hd)]
       rw [List.getElem?_set_ne (by omega)] at he'
       exact h.lo k e e' (by omega) he he' h6'
    ·rw [beq_eq_false_iff_ne.2 h6,if_neg (by simp)]
     refine ih (i+1) a1 (by omega) ⟨h.kns,fun k hk=>h.hi k (by omega),fun k e e' hk he he' h6'=>?_⟩
     rw [ham,beq_eq_false_iff_ne.2 h6]
     by_cases e0:k=i
     ·subst e0
      rw [hd] at he
      cases he
      exact absurd h6' h6
     ·exact h.lo k e e' (by omega) he he' h6'
  obtain ⟨a,c1,c2⟩:=main p.Decls.length 0 p.Decls (by omega) ⟨rfl,fun k _=>rfl,fun k d d' hk=>absurd hk (by omega)⟩
  rw [show (0:Int)=((0:Nat):Int) from rfl,c1]
  exact ⟨a,rfl,c2⟩
end Go.Proofs.YtdkabnfphmmmnaaGreatDoor

set_option linter.unusedSimpArgs false
set_option linter.unusedVariables false
namespace Go.Proofs.YtdkabnfphmmmnaaGreatDoor
open Go.Am
def RgS (y:R0):Prop:=0≤y.High - y.Low∧y.High - y.Low≤2097152
theorem H20 {β:Type}{f:Nat→List β}{y:β}:∀ (n k:Nat),y∈rep f k n→∃ i,y∈f i
 | 0,k,h=>by simp [rep] at h
 | n+1,k,h=>by
  rw [rep] at h
  rcases List.mem_append.1 h with h | h
  ·exact ⟨k,h⟩
  ·exact H20 n (k+1) h
mutual
theorem K1s:∀ (t:A0) (path:Str),Y2 t→∀ y∈t.sc path,RgS y
 | .mk k l h s a ns of,path,hf,y,hy=>by
  have kd:∀ x∈of,Y2 x:=fun x hx=>hf.kid hx
  simp only [A0.sc] at hy
  by_cases k0:k=0
  ·subst k0
   simp at hy
   subst hy
   exact ⟨show (0:Int)≤1 - 0 by decide,show (1:Int) - 0≤2097152 by decide⟩
  ·rw [beq_eq_false_iff_ne.2 k0] at hy
   by_cases k1:k=1
   ·subst k1
    simp at hy
    subst hy
    have hr:=hf.rng rfl
    change -1048576≤l∧l≤h∧h≤1048576 at hr
    exact ⟨by show 0≤h - l; omega,by show h - l≤2097152; omega⟩
   ·rw [beq_eq_false_iff_ne.2 k1] at hy
    by_cases k2:k=2
    ·subst k2
     exact Y23 of path _ kd y hy
    ·rw [beq_eq_false_iff_ne.2 k2] at hy
     by_cases k3:k=3
     ·subst k3
      exact D1v of ns path kd y hy
     ·rw [beq_eq_false_iff_ne.2 k3] at hy
      cases hy
theorem Y23:∀ (l:List A0) (path:Str) (n:Nat),(∀ x∈l,Y2 x)→∀ y∈A0.scA l path n,RgS y
 | [],_,_,_,y,hy=>by simp [A0.scA] at hy
 | x::r,path,n,hf,y,hy=>by
  simp only [A0.scA] at hy
  obtain ⟨i,hi⟩:=H20 _ _ hy
  exact K1s x _ (hf x List.mem_cons_self) y hi
theorem D1v:∀ (l:List A0) (ns:List Str) (path:Str),(∀ x∈l,Y2 x)→∀ y∈A0.scR l ns path,RgS y
 | [],_,_,_,y,hy=>by simp [A0.scR] at hy
 | x::r,[],path,hf,y,hy=>by simp [A0.scR] at hy
 | x::r,n::ns,path,hf,y,hy=>by
  simp only [A0.scR] at hy
  rcases List.mem_append.1 hy with hy | hy
  ·exact K1s x _ (hf x List.mem_cons_self) y hy
  ·exact D1v r ns path (fun z hz=>hf z (List.mem_cons_of_mem _ hz)) y hy
end
theorem Z23 {t:A0}(h:Y2 t):∀ y∈(Ra t).1,RgS y:=fun y hy=>by
 unfold Ra at hy
 cases hc:Lf t != 0 with
 | true=>rw [hc] at hy; cases hy
 | false=>rw [hc] at hy; exact K1s t [] h y hy
def rvS:List R0→Int→Int
 | [],v=>v
 | y::r,v=>rvS r (min (wi (v * wi (wi (y.High - y.Low)+1))) 100000)
theorem E1v (n:List R0×Int)(hl:n.1.length≤BB):∀ (r:List R0) (k:Nat) (v:Int),n.1.drop k=r→Y9 v n k=some (rvS r v)
 | [],k,v,h=>by
  rw [Y9,(A1 h).1]
  rfl
 | y::r,k,v,h=>by
  obtain ⟨h1,h2,h3,h4,_⟩:=C1 h
  rw [Y9,h1,if_pos rfl,h2,ob,ob,Mf,ob,w1 (by omega),E1v n hl r (k+1) _ h3]
  rfl
theorem Z16 {t:A0}(ho:Ok t):Jh t=some (rvS (Ra t).1 1):=by
 unfold Jh
 rw [C1f t ho,ob]
 exact E1v _ (S1r ho) _ 0 1 rfl
structure PS (n s v:Int):Prop where
 hn:0≤n∧n≤1073741824
 hv:0≤v∧v≤100000
 e:min n 4097=min (s * v) 4097
theorem L1s {s:Int}(hs:0≤s∧s≤100000):∀ (l:List R0) (n v:Int),(∀ y∈l,RgS y)→PS n s v→PS (prS l n) s (rvS l v)
 | [],n,v,_,h=>h
 | y::r,n,v,hl,h=>by
  obtain ⟨c1,c2⟩:=hl y List.mem_cons_self
  have ec:wi (wi (y.High - y.Low)+1)=y.High - y.Low+1:=by rw [wis (n:=y.High - y.Low) (by omega) (by omega),wis (by omega) (by omega)]
  simp only [prS,rvS,ec]
  have hc:0≤y.High - y.Low+1∧y.High - y.Low+1≤2097153:=by omega
  generalize y.High - y.Low+1=c at hc ⊢
  obtain ⟨p1,p2⟩:=Y16 h.hn.1 h.hn.2 hc.1 hc.2
  obtain ⟨q1,q2⟩:=Y16 h.hv.1 h.hv.2 hc.1 hc.2
  refine L1s hs r _ _ (fun z hz=>hl z (List.mem_cons_of_mem _ hz)) ⟨?_,?_,?_⟩
  ·rw [Z1w p1 (by omega)]; omega
  ·rw [wis (by omega) (by omega)]; omega
  ·rw [Z1w p1 (by omega),wis (n:=v * c) (by omega) (by omega),H1s (by omega)]
   have e1:=G1s hc.1 h.hn.1 (Int.mul_nonneg hs.1 h.hv.1) (by decide) h.e
   rw [Int.mul_comm n c,e1]
   have e2:=G1s (K:=4097) hs.1 (u:=v * c) (v:=min (v * c) 100000) q1 (by omega) (by decide) (by rw [H1s (by omega)])
   rw [← e2,Int.mul_comm c,Int.mul_assoc]
structure L1 (s s':Int):Prop where
 p:0≤s∧s≤1073741824
 r:0≤s'∧s'≤100000
 e:min s 4097=min s' 4097
theorem L1.next {s s':Int}(h:L1 s s'){l:List R0}(hl:∀ y∈l,RgS y):L1 (prS l s) (min (wi (s' * rvS l 1)) 100000):=by
 obtain ⟨n,v,e⟩:=L1s h.r l s 1 hl ⟨h.p,by decide,by rw [Int.mul_one]; exact h.e⟩
 obtain ⟨q1,q2⟩:=Y16 h.r.1 h.r.2 v.1 v.2
 rw [wis (by omega) (by omega)]
 exact ⟨n,by omega,by rw [H1s (by omega)]; exact e⟩
def m3 (s q r:Int):List (Int×Int):=[(1,s),(2,q),(3,r)]
theorem A17 {a b c K:Int}(h:min a K=min b K)(hc:c < K):decide (a > c) = !decide (b≤c):=by
 by_cases hb:b≤c
 ·rw [decide_eq_true hb,decide_eq_false (by omega)]; rfl
 ·rw [decide_eq_false hb,decide_eq_true (by omega)]; rfl
theorem B1x {p:I0}(hb:p.bulk≤4200000)(hp:CkP p){x:Int×Int}(hx:Ii p=some x)(hs:SA (amP p) x):Un p=some (!R1c (Lu p.Decls p.Decls 0 A22 0 0) (amP p)):=by
 have hl:=hp.okp.decls.len
 unfold Un
 have main:∀ (r:List B0) (k:Nat) (s q w s' q' w' a b:Int),p.Decls.drop k=r→L1 s s'→L1 q q'→L1 w w'→C6 p a b s' q' w' k=some (!R1c (Lu p.Decls r k (m3 s q w) a b) (amP p)):=by
  intro r
  induction r with
  | nil=>
   intro k s q w s' q' w' a b h h1 h2 h3
   rw [C6,(A1 h).1,if_neg (by simp),hx,ob]
   show _=some (!(decide (a > 64)||(decide (b > 8)||(decide (s > 4096)||(decide (q > 4096)||(decide (w > 256)||(decide ((amP p).steps > 4096)||decide ((amP p).outputs > 8))))))))
   rw [A17 (a:=a) (b:=a) (K:=65) rfl (by omega),A17 (a:=b) (b:=b) (K:=9) rfl (by omega),A17 h1.e (by omega),A17 h2.e (by omega),A17 h3.e (by omega),A17 hs.e1 (by omega),A17 hs.e2 (by omega)]
   cases decide (a≤64) <;> cases decide (b≤8) <;> cases decide (s'≤4096) <;> cases decide (q'≤4096) <;> cases decide (w'≤256) <;> cases decide (x.1≤4096) <;> cases decide (x.2≤8) <;> rfl
  | cons d r ih=>
   intro k s q w s' q' w' a b h h1 h2 h3
   obtain ⟨e1,e2,e3,e4,e5⟩:=C1 h
   have sm:=(hp.small d e5).1
   have fo:=Dg (hp.dok.take k) sm
   rw [C6,e1,if_pos rfl,e2,ob,Bo hp rfl (by omega) sm,ob,show Jf d=some (inK d) from rfl,ob]
   generalize hE:K2 (p.Decls.take k) d.TypeV=E at fo ⊢
   rw [C1f _ fo.2,ob]
   have hrg:=Z23 fo.1
   have f:∀ {m:Int},d.Kind≠m→(d.Kind == m)=false:=fun h=>beq_eq_false_iff_ne.2 h
   have t:∀ {m:Int},d.Kind=m→(d.Kind == m)=true:=fun h=>by rw [h]; exact beq_self_eq_true _
   have g2:∀ a b,d.Kind≠5→I5 p d E a b s' q' w' k=Hc p d E a b s' q' w' k:=fun a b h=>by rw [I5,f h]; rfl
   have g3:∀ a b,d.Kind≠1→Hc p d E a b s' q' w' k=Ic p d E a b s' q' w' k:=fun a b h=>by rw [Hc,f h]; rfl
   have g4:∀ a b s',d.Kind≠2→Ic p d E a b s' q' w' k=Jc p d E a b s' q' w' k:=fun a b s' h=>by rw [Ic,f h]; rfl
   have g5:∀ a b s' q',d.Kind≠3→Jc p d E a b s' q' w' k=C6 p a b s' q' w' ((k+1:Nat):Int):=fun a b s' q' h=>by rw [Jc,f h,if_neg (by simp),w1 (by omega)]
   simp only [Lu,hE]
   by_cases k1:d.Kind=1
   ·rw [show inK d=true by unfold inK; rw [k1]; rfl]
    show I5 p d E _ b s' q' w' k=_
    rw [g2 _ _ (by omega),Hc,t k1,if_pos rfl,Z16 fo.2,ob,Mf,ob,g4 _ _ _ (by omega),g5 _ _ _ _ (by omega),f (m:=5) (by omega),k1]
    exact ih (k+1) _ _ _ _ _ _ _ _ e3 (h1.next hrg) h2 h3
   by_cases k2:d.Kind=2
   ·rw [show inK d=true by unfold inK; rw [k2]; rfl]
    show I5 p d E _ b s' q' w' k=_
    rw [g2 _ _ (by omega),g3 _ _ k1,Ic,t k2,if_pos rfl,Z16 fo.2,ob,Mf,ob,g5 _ _ _ _ (by omega),f (m:=5) (by omega),k2]
    exact ih (k+1) _ _ _ _ _ _ _ _ e3 h1 (h2.next hrg) h3
   by_cases k3:d.Kind=3
   ·rw [show inK d=true by unfold inK; rw [k3]; rfl]
    show I5 p d E _ b s' q' w' k=_
    rw [g2 _ _ (by omega),g3 _ _ k1,g4 _ _ _ k2,Jc,t k3,if_pos rfl,Z16 fo.2,ob,Mf,ob,w1 (by omega),f (m:=5) (by omega),k3]
    exact ih (k+1) _ _ _ _ _ _ _ _ e3 h1 h2 (h3.next hrg)
   have hI:inK d=false:=by unfold inK; rw [f k1,f k2,f k3]; rfl
   have hM:Z7 d.Kind (m3 s q w)=none:=by
    unfold m3
    simp only [Z7,f k1,f k2,f k3]
    rfl
   rw [hI,hM]
   by_cases k4:d.Kind=4
   ·rw [k4]
    show I5 p d E _ b s' q' w' k=_
    rw [g2 _ _ (by omega),g3 _ _ k1,g4 _ _ _ k2,g5 _ _ _ _ k3]
    exact ih (k+1) _ _ _ _ _ _ _ _ e3 h1 h2 h3
   ·rw [f k4,show (d.Kind != 4)=true by simpa [bne] using k4]
    show I5 p d E a b s' q' w' k=some (!R1c (Lu p.Decls r (k+1) (m3 s q w) a (bif d.Kind == 5 then wi (b+1) else b)) (amP p))
    by_cases k5:d.Kind=5
    ·rw [I5,t k5,if_pos rfl,g3 _ _ k1,g4 _ _ _ k2,g5 _ _ _ _ k3]
     exact ih (k+1) _ _ _ _ _ _ _ _ e3 h1 h2 h3
    ·rw [g2 _ _ k5,f k5,g3 _ _ k1,g4 _ _ _ k2,g5 _ _ _ _ k3]
     exact ih (k+1) _ _ _ _ _ _ _ _ e3 h1 h2 h3
 have o:L1 1 1:=⟨by decide,by decide,rfl⟩
 exact main p.Decls 0 1 1 1 1 1 1 0 0 rfl o o o
theorem A25 {p:I0}(hb:p.bulk≤4200000):Up p=some (tck p):=by
 unfold Up tck
 rw [E1z p (G1c hb),ob]
 refine ifO (fun _=>rfl) fun hc=>?_
 have hp:=CkP.of hb (by simpa using hc)
 have hl:=hp.okp.decls.len
 rw [W23 hb,ob]
 refine ifO (fun _=>rfl) fun hdup=>?_
 have hdup':Lh p.Decls p.Decls [] 0 < 0:=by
  have:=of_decide_eq_false hdup
  omega
 have main:∀ (r:List B0) (k:Nat),p.Decls.drop k=r→(Qq p r k=none→Qq p p.Decls 0=none)→Mb p k=some (match Qq p r k with | some z=>z | none=>bif Mu p != 0 then (-1,Mu p) else (-1,M1h p)):=by
  intro r
  induction r with
  | nil=>
   intro k h hn
   rw [Mb,(A1 h).1,if_neg (by simp)]
   obtain ⟨S,s1,s2,s3,s4⟩:=E1s hp
   have hbl:p.Decls.length≤4200000∧C0.bulks p.Body≤4200000:=by
    have:=B0.bulk_len p.Decls
    cases p; simp only [I0.bulk] at hb; simp only at this ⊢; omega
   rw [s1,ob,A1o hp p.Body ⟨hp.okp.body,hp.sform,hp.snumb⟩ _ S s2 (by unfold BB; omega) true,ob]
   show _=some (bif Mu p != 0 then (-1,Mu p) else (-1,M1h p))
   refine ifO (fun _=>rfl) fun hz=>?_
   obtain ⟨x,x1,x2⟩:=E1t hb hp hdup' (hn rfl) (by have:(Mu p != 0)=false:=hz; simpa using this)
   rw [B1x hb hp x1 x2,ob]
   unfold M1h
   cases R1c (Lu p.Decls p.Decls 0 A22 0 0) (amP p) <;> rfl
  | cons d r ih=>
   intro k h hn
   obtain ⟨h1,h2,h3,h4,h5⟩:=C1 h
   rw [Mb,h1,if_pos rfl,E22 hb hp h4 h2 h5,ob,w1 (by omega)]
   simp only [Qq] at hn ⊢
   cases hz:Ym p k d != 0 with
   | true=>simp only [hz,if_true,cond_true]
   | false=>
    rw [hz] at hn
    simp only [hz,Bool.false_eq_true,if_false,cond_false]
    exact ih (k+1) h3 hn
 exact main p.Decls 0 rfl fun h=>h
end Go.Proofs.YtdkabnfphmmmnaaGreatDoor

set_option linter.unusedSimpArgs false
set_option linter.unusedVariables false
namespace Go.Proofs.YtdkabnfphmmmnaaGreatDoor
open Go.Am
theorem F22 {p:I0}(h:(tck p).2=0):Us p=0∧Lh p.Decls p.Decls [] 0 < 0∧Qq p p.Decls 0=none∧Mu p=0∧M1h p=0:=by
 have dz:∀ (r:List B0) (k:Nat) z,Qq p r k=some z→z.2≠0:=by
  intro r
  induction r with
  | nil=>intro k z h; cases h
  | cons d r ih=>
   intro k z h
   simp only [Qq] at h
   by_cases hz:Ym p k d=0
   ·rw [hz] at h; exact ih (k+1) z h
   ·rw [show (Ym p k d != 0)=true by simpa [bne] using hz] at h
    cases h
    exact hz
 unfold tck at h
 by_cases h1:Us p=0
 ·rw [h1] at h
  simp only [bne_self_eq_false,cond_false] at h
  by_cases h2:Lh p.Decls p.Decls [] 0≥0
  ·rw [decide_eq_true h2] at h; simp at h
  ·rw [decide_eq_false h2] at h
   simp only [cond_false] at h
   cases h3:Qq p p.Decls 0 with
   | some z=>rw [h3] at h; exact absurd h (dz _ _ _ h3)
   | none=>
    rw [h3] at h
    simp only at h
    by_cases h4:Mu p=0
    ·rw [h4] at h
     simp only [bne_self_eq_false,cond_false] at h
     exact ⟨h1,by omega,rfl,h4,h⟩
    ·rw [show (Mu p != 0)=true by simpa [bne] using h4] at h
     exact absurd h h4
 ·rw [show (Us p != 0)=true by simpa [bne] using h1] at h
  exact absurd h h1
theorem F1v {p:I0}(hb:p.bulk≤4200000)(h:(tck p).2=0):CkP p:=CkP.of hb (F22 h).1
theorem C1o {p:I0}(hb:p.bulk≤4200000){e:D0}(ho:OkE e):Cc p e=some (rgT (tOf p (tck p).2 e)):=Z21 hb (J1k hb) (F1v hb) ho
def B25 (p:I0):Int×Int:=bif (tck p).2 != 0 then (0,(tck p).2) else ((amP p).steps,0)
theorem I20 {p:I0}(hb:p.bulk≤4200000):Pi p=some (B25 p):=by
 unfold Pi B25
 rw [J1k hb,ob,I1k p (G1c hb),ob]
 exact ifB _ _ _
theorem C1x {p:I0}(hb:p.bulk≤4200000){e:D0}(ho:OkE e):Vn p e=some (tOf p (tck p).2 e):=by
 unfold Vn tOf
 rw [A25 hb,ob]
 refine ifO (fun _=>rfl) fun hc=>?_
 have hp:=F1v hb (by simpa using hc)
 rw [I1o e ho,ob]
 refine ifO (fun _=>rfl) fun h2=>?_
 obtain ⟨_,_,a3,_,a5⟩:=E1k (show Ps e=0 by simpa using h2)
 obtain ⟨S,s1,s2,_⟩:=E1s hp
 rw [s1,ob,s2.xpr ho (by simpa using a3) (by simpa using a5),ob]
theorem J20 {p:I0}(hb:p.bulk≤4200000){e:D0}(ho:OkE e):Vp p e=some (rgT (tOf p (tck p).2 e)):=by
 unfold Vp rgT
 rw [C1x hb ho,ob]
 cases (tOf p (tck p).2 e).2 != 0 with
 | true=>rfl
 | false=>cases (tOf p (tck p).2 e).1.Kind != 1 <;> rfl
theorem B17 (p:I0)(e:D0)(hb:p.bulk≤4200000)(he:OkE e)(hk:Im=some true):Df p e=some true:=by
 unfold Df C11
 obtain ⟨b,hf⟩:=F1z p (G1c hb) 300
 obtain ⟨c,hg⟩:=S1y e he 100
 rw [hk,ob,if_neg (by simp),hf,ob,ob,hg,C1o hb he,ob,J20 hb he,ob,beq_self_eq_true,beq_self_eq_true,beq_self_eq_true]
 cases b with
 | false=>rfl
 | true=>cases c <;> rfl
theorem A24:Im=some true:=by
 unfold Im
 simp only [Gl,Fn,Ko,ob]
 rw [J1k (by decide),ob,J1k (by decide),I20 (by decide)]
 simp only [show ∀ (a b:C0),idx [a,b] 0=some a from fun _ _=>rfl,ob]
 rw [C1o (by decide) (by unfold OkE; decide)]
 simp only [ob]
 kernel_rfl
end Go.Proofs.YtdkabnfphmmmnaaGreatDoor

