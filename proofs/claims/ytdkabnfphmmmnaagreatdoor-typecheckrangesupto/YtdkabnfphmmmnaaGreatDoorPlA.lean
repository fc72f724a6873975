/- A part of the proof of TypecheckRanges. -/
import Derived.Test.YtdkabnfphmmmnaaGreatDoorDgC
namespace Go.Proofs.YtdkabnfphmmmnaaGreatDoor
open Go.Am
theorem ob {α β:Type}(a:α)(f:α→Option β):(some a>>=f)=f a:=rfl
theorem C1 {α:Type}{l:List α}{k:Nat}{x:α}{r:List α}(h:l.drop k=x::r):decide ((k:Int) < (l.length:Int))=true∧idx l (k:Int)=some x∧l.drop (k+1)=r∧k < l.length∧x∈l:=by
 have hk:k < l.length:=by
  rcases Nat.lt_or_ge k l.length with h1 | h1
  ·exact h1
  ·rw [List.drop_eq_nil_of_le h1] at h; cases h
 have hx:=List.drop_eq_getElem_cons hk
 rw [h] at hx
 obtain ⟨e1,e2⟩:=List.cons.inj hx
 refine ⟨decide_eq_true (by omega),?_,e2.symm,hk,?_⟩
 ·unfold idx
  rw [if_pos (by omega),e1]
  simp [hk]
 ·rw [e1]; exact List.getElem_mem hk
theorem A1 {α:Type}{l:List α}{k:Nat}(h:l.drop k=[]):decide ((k:Int) < (l.length:Int))=false∧l.length≤k:=by
 have:=List.drop_eq_nil_iff.1 h
 exact ⟨decide_eq_false (by omega),this⟩
def BB:Nat:=68719476736
theorem wr {n:Int}(h : -4611686018427387904≤n)(h':n≤4611686018427387904):IntKind.i64.wrap n=n:=L20 (by omega) (by omega)
theorem w1 {k:Nat}(h:k≤BB):IntKind.i64.wrap ((k:Int)+1)=((k+1:Nat):Int):=by
 unfold BB at h
 rw [wr (by omega) (by omega)]; rfl
def Om (n:Int):Bool:=bif decide (n≥97) then decide (n≤122) else false
def V1l (n:Int):Bool:=bif decide (n≥48) then decide (n≤57) else false
def B1w (i:Nat)(c:UInt8):Bool:=Om c.toNat||(i != 0&&V1l c.toNat)
def Wn:Nat→List UInt8→Bool
 | _,[]=>true
 | i,c::r=>B1w i c&&Wn (i+1) r
def Pm (s:List UInt8):Bool:=Wn 0 s && !(s == [])
def kw:List UInt8:=[32,116,121,112,101,32,115,101,99,114,101,116,32,112,117,98,108,105,99,32,114,97,110,100,111,109,32,118,97,114,32,104,97,116,99,104,32,102,117,110,99,32,114,101,116,117,114,110,32,98,101,103,105,110,32,101,110,100,32,98,111,111,108,32,105,110,116,32,97,114,114,97,121,32,111,102,32,114,101,99,111,114,100,32,116,114,117,101,32,102,97,108,115,101,32,99,97,108,108,32,114,101,108,101,97,115,101,32,111,117,116,112,117,116,32,119,97,105,116,32,105,102,32,101,108,115,101,32,119,104,105,108,101,32,108,105,109,105,116,32,102,111,114,32,116,111,32,115,101,116,116,108,101,32,109,105,110,32,109,97,120,32]
def W1l (s:List UInt8):Bool:=bif (bif !(s == []) then !Lib.contains s [32] else false) then Lib.contains kw ([32]++s++[32]) else false
def J5 (s:List UInt8):Bool:=bif (bif decide ((s.length:Int)≤12) then Pm s else false) then !W1l s else false
theorem getD_some {s:List UInt8}{k:Nat}(h:k < s.length):s[k]?=some (s.getD k 0):=by simp [List.getD,h]
def ld (c:UInt8):Bool:=bif Om c.toNat then true else V1l c.toNat
def U12:List UInt8→Nat
 | []=>0
 | c::r=>bif ld c then U12 r+1 else 0
theorem S1t:∀ s:List UInt8,U12 s≤s.length
 | []=>Nat.le_refl _
 | c::r=>by
  simp only [U12,List.length_cons]
  have:=S1t r
  cases ld c <;> simp <;> omega
def Z1b (s:List UInt8):Bool:=bif ((s.length:Nat):Int) == 0 then false else bif s.all (fun c=>Om c.toNat) then Lib.contains kw ([32]++s++[32]) else false
set_option maxRecDepth 100000 in
theorem A1c:kw.length=162:=rfl
theorem E1q {s sub:List UInt8}{i:Nat}(hi:i+sub.length≤s.length)(h:((s.take (i+sub.length)).drop i == sub)=true):Lib.contains s sub=true:=by
 have ho:Lib.occAt s sub i=true:=by
  rw [Lib.occAt_iff_take s sub i hi]
  rw [List.drop_take] at h
  simpa using h
 rcases Lib.index_spec s sub with ⟨_,h2⟩ | ⟨j,h1,_⟩
 ·rw [h2 i (by omega)] at ho; cases ho
 ·unfold Lib.contains
  rw [h1]
  exact decide_eq_true (by omega)
theorem Q17 {s sub:List UInt8}(h:∀ i,i+sub.length≤s.length→((s.take (i+sub.length)).drop i == sub)=false)(hne:sub≠[]):Lib.contains s sub=false:=by
 rcases Lib.index_spec s sub with ⟨h1,_⟩ | ⟨j,h1,h2,h3,_⟩
 ·unfold Lib.contains
  rw [h1]; rfl
 ·rcases Lib.occAt_room h3 with hr | hr
  ·have:=h j hr
   rw [Lib.occAt_iff_take s sub j hr] at h3
   rw [List.drop_take] at this
   have e:j+sub.length - j=sub.length:=by omega
   rw [e,h3] at this
   cases this
  ·exact absurd hr hne
def C1w (s:List UInt8):Bool:=
 bif (bif (bif (bif decide (((s.length:Nat):Int) < 1) then true else decide (((s.length:Nat):Int) > 12)) then true else !Om (s.getD 0 0).toNat) then true else Z1b s) then false else ((U12 s:Nat):Int) == ((s.length:Nat):Int)
theorem T1e:∀ (r:List UInt8) (i:Nat),1≤i→Wn i r=r.all ld
 | [],_,_=>rfl
 | c::r,i,h=>by
  have hi:(i != 0)=true:=by simp; omega
  simp only [Wn,List.all_cons,T1e r (i+1) (by omega),B1w,hi,Bool.true_and,ld]
  cases Om c.toNat <;> rfl
theorem T1t:∀ s:List UInt8,(((U12 s:Nat):Int) == ((s.length:Nat):Int))=s.all ld
 | []=>rfl
 | c::r=>by
  have h:=T1t r
  have hle:=S1t r
  simp only [U12,List.length_cons,List.all_cons,← h]
  cases ld c with
  | false=>
   simp only [cond_false,Bool.false_and]
   apply beq_eq_false_iff_ne.2
   omega
  | true=>
   simp only [cond_true,Bool.true_and]
   rw [Bool.eq_iff_iff,beq_iff_eq,beq_iff_eq]
   omega
set_option maxRecDepth 100000 in
theorem C21:kw.all (fun c=>Om c.toNat||c == 32)=true:=by decide
theorem B1c {s sub:List UInt8}(h:Lib.contains s sub=true)(hne:sub≠[]):∀ c∈sub,c∈s:=by
 rcases Lib.index_spec s sub with ⟨h1,_⟩ | ⟨j,h1,h2,h3,_⟩
 ·unfold Lib.contains at h
  rw [h1] at h
  cases h
 ·rcases Lib.occAt_room h3 with hr | hr
  ·rw [Lib.occAt_iff_take s sub j hr] at h3
   have e:(s.drop j).take sub.length=sub:=by simpa using h3
   intro c hc
   rw [← e] at hc
   exact List.mem_of_mem_drop (List.mem_of_mem_take hc)
  ·exact absurd hr hne
theorem F1q:ld 32=false:=by decide
theorem D21 {s:List UInt8}(h:s.all ld=true):Lib.contains s [32]=false:=by
 cases hc:Lib.contains s [32] with
 | false=>rfl
 | true=>
  have:=B1c hc (by simp) 32 (by simp)
  have:=List.all_eq_true.1 h 32 this
  rw [F1q] at this
  cases this
theorem E23 {s:List UInt8}(h:s.all ld=true)(hc:Lib.contains kw ([32]++s++[32])=true):s.all (fun c=>Om c.toNat)=true:=by
 rw [List.all_eq_true]
 intro c hcs
 have h1:=B1c hc (by simp) c (by simp [hcs])
 have h2:=List.all_eq_true.1 C21 c h1
 have h3:=List.all_eq_true.1 h c hcs
 cases hl:Om c.toNat with
 | true=>rfl
 | false=>
  rw [hl,Bool.false_or,beq_iff_eq] at h2
  subst h2
  rw [F1q] at h3
  cases h3
theorem F23 (s:List UInt8):C1w s=J5 s:=by
 unfold C1w J5
 rw [T1t]
 cases s with
 | nil=>rfl
 | cons c r=>
  have h1:decide ((((c::r).length:Nat):Int) < 1)=false:=decide_eq_false (by simp only [List.length_cons]; omega)
  have h12:decide ((((c::r).length:Nat):Int) > 12) = !decide ((((c::r).length:Nat):Int)≤12):=by
   rw [← decide_not]; exact decide_eq_decide.2 Int.not_le.symm
  have hw:Pm (c::r)=(Om c.toNat&&r.all ld):=by
   unfold Pm
   simp only [Wn,B1w,T1e r 1 (Nat.le_refl _)]
   simp
  rw [h1,h12,hw,cond_false,List.all_cons]
  show (bif (bif (bif !decide ((((c::r).length:Nat):Int)≤12) then true else !Om c.toNat) then true else Z1b (c::r)) then false else (ld c&&r.all ld))=_
  cases h12':decide ((((c::r).length:Nat):Int)≤12) with
  | false=>rfl
  | true=>
   cases hl:Om c.toNat with
   | false=>rfl
   | true=>
    have hlc:ld c=true:=by unfold ld; rw [hl]; rfl
    rw [hlc]
    cases ha:r.all ld with
    | false=>cases Z1b (c::r) <;> rfl
    | true=>
     have hall:(c::r).all ld=true:=by rw [List.all_cons,hlc,ha]; rfl
     have hns:=D21 hall
     have e:Z1b (c::r)=W1l (c::r):=by
      unfold Z1b W1l
      rw [hns]
      have hz:((((c::r).length:Nat):Int) == 0)=false:=beq_eq_false_iff_ne.2 (by simp only [List.length_cons]; omega)
      rw [hz]
      cases hk:Lib.contains kw ([32]++(c::r)++[32]) with
      | false=>simp
      | true=>
       rw [E23 hall hk]
       rfl
     rw [e]
     cases W1l (c::r) <;> rfl
theorem U1s (n:Int):Lo n=some (Om n):=rfl
theorem D1w (n:Int):Bq n=some (V1l n):=rfl
theorem Q1j (s:Str)(hs:s.length≤BB):∀ (r:Str) (k:Nat),s.drop k=r→P9 s k=some (Wn k r && !(s == []))
 | [],k,h=>by rw [P9,(A1 h).1]; simp [Wn]
 | c::r,k,h=>by
  obtain ⟨h1,h2,h3,h4,_⟩:=C1 h
  have ih:=Q1j s hs r (k+1) h3
  rw [P9,h1,if_pos rfl,h2,ob,U1s,ob,w1 (by omega),ih]
  have e:((k:Int) == 0)=(k == 0):=by cases k <;> rfl
  simp only [e,Wn,B1w,bne]
  cases hl:Om c.toNat <;> cases hk:k == 0 <;> cases hd:V1l c.toNat <;> simp [D1w,hd]
theorem N1y (s:Str)(hs:s.length≤BB):Nr s=some (Pm s):=Q1j s hs s 0 rfl
theorem R17 (s t:Str)(hs:s.length≤4000000000):Lr s t=some (Lib.contains s t):=by
 unfold Lr
 rw [if_pos (decide_eq_true (by omega))]
theorem V1s (s:Str)(hs:s.length≤4000000000):Wj s=some (W1l s):=by
 unfold Wj
 have h1:decide (1+s.length≤maxLen)=true:=decide_eq_true (by unfold maxLen; omega)
 have h2:decide (([32]++s).length+1≤maxLen)=true:=decide_eq_true (by unfold maxLen; simp; omega)
 rw [R17 s _ hs]
 have h3:=R17 kw (([32]++s)++[32]) (by rw [A1c]; omega)
 unfold kw at h3
 unfold W1l kw
 rw [h1,h2,h3]
 cases s == [] <;> cases Lib.contains s [32] <;> simp
theorem D1n (s:Str)(hs:s.length≤BB):Ei s=some (J5 s):=by
 unfold Ei Pr J5
 rw [N1y s hs]
 cases h:decide ((s.length:Int)≤12) with
 | false=>simp
 | true=>
  have h':s.length≤12:=by have:=of_decide_eq_true h; omega
  rw [V1s s (by omega)]
  cases Pm s <;> simp
theorem Wz (n:Int):Ik n=some (Om n):=rfl
theorem W1s (n:Int):Vu n=some (V1l n):=rfl
theorem U1t (s:Str)(hs:s.length≤BB):∀ (r:Str) (k:Nat),s.drop k=r→Oe s k=some ((k+U12 r:Nat):Int)
 | [],k,h=>by rw [Oe,(A1 h).1]; simp [U12,ob]
 | c::r,k,h=>by
  obtain ⟨h1,h2,h3,h4,_⟩:=C1 h
  have ih:=U1t s hs r (k+1) h3
  rw [Oe,h1,if_pos rfl,h2,ob,if_pos rfl,Wz,ob,w1 (by omega),ih]
  simp only [U12,ld]
  cases hl:Om c.toNat <;> cases hd:V1l c.toNat <;> simp [W1s,hd,ob] <;> omega
theorem P24 (s:Str)(hs:s.length≤BB):Sv s 0=some ((U12 s:Nat):Int):=by
 have:=U1t s hs s 0 rfl
 unfold Sv
 rw [Nat.zero_add] at this
 exact this
theorem E21 (s:Str)(hs:s.length≤4000000000):∀ (n k:Nat),n+k=163→(∀ i,i < k→i+([32]++s++[32]).length≤kw.length→((kw.take (i+([32]++s++[32]).length)).drop i == [32]++s++[32])=false)→
  K7 s k=some (Lib.contains kw ([32]++s++[32])):=by
 have hl:([32]++s++[32]).length=s.length+2:=by simp
 intro n
 induction n with
 | zero=>
  intro k hk hi
  rw [K7,wr (n:=(k:Int)+_) (by omega) (by omega),wr (by omega) (by omega),if_neg (by simp; omega),Q17 (fun i h=>hi i (by rw [A1c] at h; omega) h) (by simp)]
 | succ n ih=>
  intro k hk hi
  rw [K7,wr (n:=(k:Int)+_) (by omega) (by omega),wr (by omega) (by omega)]
  by_cases hr:k+([32]++s++[32]).length≤kw.length
  ·have hr':=hr
   rw [A1c,hl] at hr'
   rw [if_pos (decide_eq_true (by omega))]
   have hs2:slc kw (k:Int) ((k:Int)+(s.length:Int)+2)=some ((kw.take (k+([32]++s++[32]).length)).drop k):=by
    unfold slc
    rw [if_pos ⟨by omega,by omega,by rw [A1c]; omega⟩,hl]
    rw [show ((k:Int)+(s.length:Int)+2).toNat=k+(s.length+2) by omega]
    rfl
   unfold kw at hs2
   rw [hs2,ob,if_pos (decide_eq_true (by unfold maxLen; omega)),if_pos (decide_eq_true (by unfold maxLen; simp; omega))]
   cases he:((kw.take (k+([32]++s++[32]).length)).drop k == [32]++s++[32]) with
   | true=>
    have:=E1q hr he
    rw [this]
    unfold kw at he
    rw [he,if_pos rfl]
   | false=>
    have he':=he
    unfold kw at he'
    rw [he',if_neg (by simp),w1 (by unfold BB; omega)]
    refine ih (k+1) (by omega) fun i hik=>?_
    rcases Nat.lt_or_eq_of_le (Nat.le_of_lt_succ hik) with h | h
    ·exact hi i h
    ·subst h; exact fun _=>he
  ·have hr':=hr
   rw [A1c,hl] at hr'
   rw [if_neg (by simp; omega),Q17 (fun i h=>hi i (by omega) h) (by simp)]
theorem G1q (s:Str)(hs:s.length≤4000000000):∀ (r:Str) (k:Nat),s.drop k=r→L7 s k=some (bif r.all (fun c=>Om c.toNat) then Lib.contains kw ([32]++s++[32]) else false)
 | [],k,h=>by rw [L7,(A1 h).1,if_neg (by simp)]; exact E21 s hs 163 0 rfl (fun i h=>by omega)
 | c::r,k,h=>by
  obtain ⟨h1,h2,h3,h4,_⟩:=C1 h
  have ih:=G1q s hs r (k+1) h3
  rw [L7,h1,if_pos rfl,h2,ob,Wz,ob,w1 (by unfold BB; omega),ih,List.all_cons]
  cases Om c.toNat <;> simp
theorem X1l (s:Str)(hs:s.length≤4000000000):Jk s=some (Z1b s):=by
 unfold Jk Z1b
 have:=G1q s hs s 0 rfl
 rw [show (0:Int)=((0:Nat):Int) from rfl,this]
 cases ((s.length:Int) == ((0:Nat):Int)) <;> simp
theorem Sk (s:Str)(hs:s.length≤BB):Ia s=some (J5 s):=by
 rw [← F23]
 unfold Ia Cs C1w
 cases h:(bif decide ((s.length:Int) < 1) then true else decide ((s.length:Int) > 12)) with
 | true=>simp [ob]
 | false=>
  have h':1≤s.length∧s.length≤12:=by
   cases h1:decide ((s.length:Int) < 1) with
   | true=>rw [h1] at h; cases h
   | false=>
    rw [h1] at h
    have:=of_decide_eq_false h1
    have:=of_decide_eq_false (show decide ((s.length:Int) > 12)=false from h)
    omega
  have h0:idx s 0=some (s.getD 0 0):=getD_some (by omega)
  rw [h0,X1l s (by omega),P24 s hs]
  simp only [Bool.not_false,if_true,ob,Wz,cond_false]
  cases Om (s.getD 0 0).toNat <;> cases Z1b s <;> simp [ob]
end Go.Proofs.YtdkabnfphmmmnaaGreatDoor

set_option linter.unusedSimpArgs false
namespace Go.Proofs.YtdkabnfphmmmnaaGreatDoor
open Go.Am
theorem A0.ind {P:A0→Prop}(h:∀ t:A0,(∀ x∈t.Of,P x)→P t):∀ t,P t:=by
 intro t
 refine A0.rec (motive_1:=P) (motive_2:=fun l=>∀ x∈l,P x) ?_ ?_ ?_ t
 ·intro k l h' s n ns of ih
  exact h _ ih
 ·intro x hx; cases hx
 ·intro x r hx hr y hy
  cases hy with
  | head=>exact hx
  | tail _ hy=>exact hr y hy
mutual
def A0.depth:A0→Nat
 | .mk _ _ _ _ _ _ of=>A0.depths of+1
def A0.depths:List A0→Nat
 | []=>0
 | t::r=>max (A0.depth t) (A0.depths r)
end
theorem A0.depth_eq (t:A0):t.depth=A0.depths t.Of+1:=by cases t; simp [A0.depth,A0.Of]
theorem A0.depth_le:∀ {l:List A0} {t:A0},t∈l→t.depth≤A0.depths l
 | x::r,t,h=>by
  simp only [A0.depths]
  cases h with
  | head=>omega
  | tail _ h=>have:=A0.depth_le h; omega
def A2 (a b c:Int):Bool:=bif decide (a≥b) then decide (a≤c) else false
mutual
def A0.all (p:A0→Bool):A0→Bool
 | .mk k l h s n ns of=>p (.mk k l h s n ns of)&&A0.alls p of
def A0.alls (p:A0→Bool):List A0→Bool
 | []=>true
 | t::r=>A0.all p t&&A0.alls p r
end
theorem A0.all_eq (p:A0→Bool)(t:A0):t.all p=(p t&&A0.alls p t.Of):=by cases t; rfl
mutual
def A0.nodes:A0→Nat
 | .mk _ _ _ _ _ _ of=>A0.nodess of+1
def A0.nodess:List A0→Nat
 | []=>0
 | t::r=>A0.nodes t+A0.nodess r
end
theorem A0.nodes_eq (t:A0):t.nodes=A0.nodess t.Of+1:=by cases t; rfl
mutual
theorem A0.depth_nodes:∀ t:A0,t.depth≤t.nodes
 | .mk _ _ _ _ _ _ of=>by simp only [A0.depth,A0.nodes]; have:=A0.depths_nodess of; omega
theorem A0.depths_nodess:∀ l:List A0,A0.depths l≤A0.nodess l
 | []=>Nat.le_refl _
 | t::r=>by simp only [A0.depths,A0.nodess]; have:=A0.depth_nodes t; have:=A0.depths_nodess r; omega
end
def fm1 (t:A0):Bool:=bif decide (t.Kind≥0) then decide (t.Kind≤4) else false
def fm2 (t:A0):Bool:=bif t.Kind == 1 then true else bif t.Low == 0 then t.High == 0 else false
def fm3 (t:A0):Bool:=bif t.Kind == 2 then true else t.Size == 0
def fm4 (t:A0):Bool:=bif t.Kind == 4 then true else t.Name == []
def fm5 (t:A0):Bool:=bif t.Kind == 3 then true else ((t.Names).length:Int) == 0
def fm6 (t:A0):Bool:=bif t.Kind == 2 then ((t.Of).length:Int) == 1 else bif t.Kind == 3 then (bif decide (((t.Of).length:Int)≥1) then ((t.Of).length:Int) == ((t.Names).length:Int) else false) else ((t.Of).length:Int) == 0
def nm1 (t:A0):Bool:=bif t.Kind == 2 then A2 t.Size 1 32 else bif t.Kind == 3 then decide (((t.Of).length:Int)≤32) else true
def nm2 (t:A0):Bool:=bif t.Kind == 1 then (bif A2 t.Low (-1048576) 1048576 then A2 t.High t.Low 1048576 else false) else true
def na1 (t:A0):Bool:=bif t.Kind == 4 then J5 t.Name else true
def J3 (t:A0):Bool:=fm1 t&&fm2 t&&fm3 t&&fm4 t&&fm5 t&&fm6 t
def Kc (t:A0):Bool:=nm1 t&&nm2 t
def X7 (t:A0):Bool:=na1 t&&t.Names.all J5
theorem Cw (a b c:Bool):(a || !b || !c)=(a || !(b&&c)):=by cases a <;> cases b <;> cases c <;> rfl
def Wc (n d:Int)(f m u:Bool):Int:=
 bif (bif decide (n > 1024) then true else decide (d > 12)) then 4 else bif f then 1 else bif m then 7 else bif u then 3 else 0
theorem O16 (a b:Int):decide (a < b) = !decide (a≥b):=by
 rw [← decide_not]; exact decide_eq_decide.2 Int.not_le.symm
theorem P16 (a b:Int):decide (a > b) = !decide (a≤b):=by
 rw [← decide_not]; exact decide_eq_decide.2 Int.not_le.symm
def H1q (t:A0):Bool:=bif decide (t.Kind < 0) then true else decide (t.Kind > 4)
def I1q (t:A0):Bool:=
 bif (bif (bif (bif t.Kind != 1 then (bif t.Low != 0 then true else t.High != 0) else false) then true else (bif t.Kind != 2 then t.Size != 0 else false)) then true else (bif t.Kind != 4 then !(t.Name == []) else false)) then true else
  (bif t.Kind != 3 then ((t.Names).length:Int) != 0 else false)
def J1q (t:A0):Bool:=
 bif (bif (bif t.Kind == 2 then ((t.Of).length:Int) != 1 else false) then true else
  (bif t.Kind == 3 then (bif decide (((t.Of).length:Int) < 1) then true else ((t.Of).length:Int) != ((t.Names).length:Int)) else false)) then true else
  (bif (bif t.Kind != 2 then t.Kind != 3 else false) then ((t.Of).length:Int) != 0 else false)
theorem G23 (t:A0):fm1 t = !H1q t:=by
 unfold fm1 H1q
 rw [O16,P16]
 cases decide (t.Kind≥0) <;> cases decide (t.Kind≤4) <;> rfl
theorem H23 (t:A0):(fm2 t&&fm3 t&&fm4 t&&fm5 t) = !I1q t:=by
 unfold fm2 fm3 fm4 fm5 I1q
 simp only [bne]
 generalize (t.Kind == 1)=a
 generalize (t.Kind == 2)=b
 generalize (t.Kind == 3)=c
 generalize (t.Kind == 4)=d
 generalize (t.Low == 0)=e
 generalize (t.High == 0)=f
 generalize (t.Size == 0)=g
 generalize (t.Name == [])=h
 generalize (((t.Names).length:Int) == 0)=i
 cases a <;> cases b <;> cases c <;> cases d <;> cases e <;> cases f <;> cases g <;> cases h <;> cases i <;> rfl
theorem I23 (t:A0):fm6 t = !J1q t:=by
 have hx:(t.Kind == 2)=true→(t.Kind == 3)=false:=fun h=>by
  have:t.Kind=2:=by simpa using h
  rw [this]; rfl
 unfold fm6 J1q
 rw [O16]
 simp only [bne]
 revert hx
 generalize (t.Kind == 2)=b
 generalize (t.Kind == 3)=c
 generalize (((t.Of).length:Int) == 1)=d
 generalize (((t.Of).length:Int) == 0)=e
 generalize (((t.Of).length:Int) == ((t.Names).length:Int))=f
 generalize (decide (((t.Of).length:Int)≥1))=g
 intro hx
 cases b <;> cases c <;> first | (exact absurd (hx rfl) (by decide)) | (cases d <;> cases e <;> cases f <;> cases g <;> rfl)
theorem F21 (t:A0):J3 t=(!H1q t && !I1q t && !J1q t):=by
 rw [← G23,← H23,← I23]
 unfold J3
 simp only [Bool.and_assoc]
def Xi (n:Int):Bool:=bif decide (n≥-1048576) then decide (n≤1048576) else false
def Ju (t:A0):Bool:=
 bif (bif (bif t.Kind == 1 then (bif (bif !Xi t.Low then true else !Xi t.High) then true else decide (t.Low > t.High)) else false) then true else
  (bif t.Kind == 2 then (bif decide (t.Size < 1) then true else decide (t.Size > 32)) else false)) then true else decide (((t.Of).length:Int) > 32)
theorem K1q (t:A0)(hf:J3 t=true):Kc t = !Ju t:=by
 have hk1:(t.Kind == 1)=true→(t.Kind == 2)=false∧(t.Kind == 3)=false:=fun h=>by
  have:t.Kind=1:=by simpa using h
  rw [this]; exact ⟨rfl,rfl⟩
 have hk2:(t.Kind == 2)=true→(t.Kind == 3)=false:=fun h=>by
  have:t.Kind=2:=by simpa using h
  rw [this]; rfl
 have h6:fm6 t=true:=by
  unfold J3 at hf
  simp only [Bool.and_eq_true] at hf
  exact hf.2
 have hin:(bif A2 t.Low (-1048576) 1048576 then A2 t.High t.Low 1048576 else false) = !(bif (bif !Xi t.Low then true else !Xi t.High) then true else decide (t.Low > t.High)):=by
  unfold A2 Xi
  by_cases a1:t.Low≥-1048576 <;> by_cases a2:t.Low≤1048576 <;> by_cases a3:t.High≥-1048576 <;> by_cases a4:t.High≤1048576 <;> by_cases a5:t.High≥t.Low <;>
   simp [a1,a2,a3,a4,a5] <;> omega
 have hsz:A2 t.Size 1 32 = !(bif decide (t.Size < 1) then true else decide (t.Size > 32)):=by
  unfold A2
  rw [O16,P16]
  cases decide (t.Size≥1) <;> cases decide (t.Size≤32) <;> rfl
 unfold Kc Ju nm1 nm2
 rw [hin,hsz,P16 (((t.Of).length:Int))]
 have hl:(t.Kind == 3)=false→decide (((t.Of).length:Int)≤32)=true:=fun h3=>by
  unfold fm6 at h6
  rw [h3] at h6
  cases h2:t.Kind == 2 with
  | true=>
   rw [h2] at h6
   have:((t.Of).length:Int)=1:=by simpa using h6
   exact decide_eq_true (by omega)
  | false=>
   rw [h2] at h6
   have:((t.Of).length:Int)=0:=by simpa using h6
   exact decide_eq_true (by omega)
 revert hk1 hk2 hl
 generalize (bif (bif !Xi t.Low then true else !Xi t.High) then true else decide (t.Low > t.High))=X
 generalize (bif decide (t.Size < 1) then true else decide (t.Size > 32))=Y
 generalize decide (((t.Of).length:Int)≤32)=Z
 generalize (t.Kind == 1)=a
 generalize (t.Kind == 2)=b
 generalize (t.Kind == 3)=c
 intro hk1 hk2 hl
 cases a <;> cases b <;> cases c <;> first | exact absurd (hk1 rfl).1 (by decide) | exact absurd (hk1 rfl).2 (by decide) | exact absurd (hk2 rfl) (by decide) | (cases X <;> cases Y <;> cases Z <;> first | rfl | exact absurd (hl rfl) (by decide))
theorem U1e (t:A0):t.all J3=true→t.all Kc=t.all fun t=>!Ju t:=by
 induction t using A0.ind with
 | h t ih=>
 intro hf
 rw [A0.all_eq,Bool.and_eq_true] at hf
 rw [A0.all_eq,A0.all_eq,K1q t hf.1]
 congr 1
 have:∀ l:List A0,(∀ x∈l,x.all J3=true→x.all Kc=x.all fun t=>!Ju t)→A0.alls J3 l=true→A0.alls Kc l=A0.alls (fun t=>!Ju t) l:=by
  intro l
  induction l with
  | nil=>intros; rfl
  | cons x r ihr=>
   intro h1 h2
   simp only [A0.alls,Bool.and_eq_true] at h2
   simp only [A0.alls]
   rw [h1 x List.mem_cons_self h2.1,ihr (fun y hy=>h1 y (List.mem_cons_of_mem _ hy)) h2.2]
 exact this t.Of ih hf.2
def Y7 (t:A0):Int:=Wc t.nodes t.depth (!t.all J3) (!t.all X7) (!t.all Kc)
mutual
def A0.cnt:A0→Int
 | .mk k _ _ s _ _ of=>min (bif k == 2 then min s 33 * A0.cnt1 of else bif k == 3 then A0.cnts of else 1) 33
def A0.cnt1:List A0→Int
 | []=>0
 | t::_=>A0.cnt t
def A0.cnts:List A0→Int
 | []=>0
 | t::r=>A0.cnt t+A0.cnts r
end
theorem A0.cnt_eq (t:A0):t.cnt=min (bif t.Kind == 2 then min t.Size 33 * A0.cnt1 t.Of else bif t.Kind == 3 then A0.cnts t.Of else 1) 33:=by cases t; rfl
theorem A0.cnt_le (t:A0):t.cnt≤33:=by rw [A0.cnt_eq]; omega
theorem A0.alls_mem {p:A0→Bool}:∀ {l:List A0} {t:A0},A0.alls p l=true→t∈l→t.all p=true
 | x::r,t,h,hm=>by
  simp only [A0.alls,Bool.and_eq_true] at h
  cases hm with
  | head=>exact h.1
  | tail _ hm=>exact A0.alls_mem h.2 hm
structure Y2 (t:A0):Prop where
 form:t.all J3=true
 num:t.all Kc=true
theorem Y2.kid {t x:A0}(h:Y2 t)(hx:x∈t.Of):Y2 x:=by
 have h1:=h.form
 have h2:=h.num
 rw [A0.all_eq,Bool.and_eq_true] at h1 h2
 exact ⟨A0.alls_mem h1.2 hx,A0.alls_mem h2.2 hx⟩
theorem Y2.here {t:A0}(h:Y2 t):J3 t=true∧Kc t=true:=by
 have h1:=h.form
 have h2:=h.num
 rw [A0.all_eq,Bool.and_eq_true] at h1 h2
 exact ⟨h1.1,h2.1⟩
theorem Y2.arr {t:A0}(h:Y2 t)(hk:(t.Kind == 2)=true):∃ x,t.Of=[x]∧1≤t.Size∧t.Size≤32:=by
 obtain ⟨h1,h2⟩:=h.here
 simp only [J3,Kc,Bool.and_eq_true] at h1 h2
 have h6:=h1.2
 have hn:=h2.1
 unfold fm6 at h6
 unfold nm1 A2 at hn
 rw [hk] at h6 hn
 simp only [cond_true] at h6 hn
 have hl:t.Of.length=1:=by have:(t.Of.length:Int)=1:=by simpa using h6
                           omega
 obtain ⟨x,hx⟩:=List.length_eq_one_iff.1 hl
 cases hd:decide (t.Size≥1) with
 | false=>rw [hd] at hn; cases hn
 | true=>
  rw [hd] at hn
  exact ⟨x,hx,of_decide_eq_true hd,of_decide_eq_true hn⟩
theorem Y2.recd {t:A0}(h:Y2 t)(hk:(t.Kind == 3)=true):t.Of.length≤32∧t.Of.length=t.Names.length∧1≤t.Of.length:=by
 obtain ⟨h1,h2⟩:=h.here
 simp only [J3,Kc,Bool.and_eq_true] at h1 h2
 have h6:=h1.2
 have hn:=h2.1
 have hk2:(t.Kind == 2)=false:=by
  have:t.Kind=3:=by simpa using hk
  rw [this]; rfl
 unfold fm6 at h6
 unfold nm1 at hn
 rw [hk,hk2] at h6 hn
 simp only [cond_true,cond_false] at h6 hn
 have hn':(t.Of.length:Int)≤32:=of_decide_eq_true hn
 cases hd:decide ((t.Of.length:Int)≥1) with
 | false=>rw [hd] at h6; cases h6
 | true=>
  rw [hd] at h6
  have:=of_decide_eq_true hd
  have h6':(t.Of.length:Int)=t.Names.length:=by simpa using h6
  omega
theorem A0.cnts_bound:∀ l:List A0,(∀ x∈l,0≤x.cnt)→0≤A0.cnts l∧A0.cnts l≤33 * l.length
 | [],_=>by simp [A0.cnts]
 | x::r,h=>by
  have h1:=h x List.mem_cons_self
  have h2:=A0.cnt_le x
  have h3:=A0.cnts_bound r fun y hy=>h y (List.mem_cons_of_mem _ hy)
  simp only [A0.cnts,List.length_cons]
  omega
theorem A0.cnt_ge (t:A0):Y2 t→0≤t.cnt:=by
 induction t using A0.ind with
 | h t ih=>
 intro hf
 rw [A0.cnt_eq]
 cases h2:t.Kind == 2 with
 | true=>
  obtain ⟨x,hx,s1,s2⟩:=hf.arr h2
  have:=ih x (by rw [hx]; exact List.mem_cons_self) (hf.kid (by rw [hx]; exact List.mem_cons_self))
  rw [hx]
  simp only [cond_true,A0.cnt1]
  have:0≤min t.Size 33 * x.cnt:=Int.mul_nonneg (by omega) this
  omega
 | false=>
  cases h3:t.Kind == 3 with
  | true=>
   have:=A0.cnts_bound t.Of fun x hx=>ih x hx (hf.kid hx)
   simp only [cond_true,cond_false]
   omega
  | false=>simp only [cond_false]; omega
mutual
def A0.some (p:A0→Bool):A0→Bool
 | .mk k l h s n ns of=>p (.mk k l h s n ns of)||A0.somes p of
def A0.somes (p:A0→Bool):List A0→Bool
 | []=>false
 | t::r=>A0.some p t||A0.somes p r
end
theorem A0.some_eq (p:A0→Bool)(t:A0):t.some p=(p t||t.Of.any (A0.some p)):=by
 have:∀ l,A0.somes p l=l.any (A0.some p):=fun l=>by
  induction l with
  | nil=>rfl
  | cons x r ih=>simp [A0.somes,ih]
 cases t
 simp only [A0.some,A0.Of,this]
def Tk (t:A0):Bool:=t.Kind == 4
def tw (seen:List (List UInt8)):List (List UInt8)→Bool
 | []=>false
 | x::r=>(seen.any fun y=>x == y)||tw (seen++[x]) r
def Kh (t:A0):Bool:=tw [] t.Names
def R1j (t:A0):Int:=bif t.some Tk then 7 else bif t.some Kh then 8 else bif decide (t.cnt > 32) then 4 else 0
theorem I1d {t:A0}(h:Y7 t=0):Y2 t:=by
 unfold Y7 Wc at h
 constructor
 ·cases hf:t.all J3 with
  | true=>rfl
  | false=>
   rw [hf] at h
   revert h
   cases (bif decide ((t.nodes:Int) > 1024) then true else decide ((t.depth:Int) > 12)) <;> simp
 ·cases hf:t.all Kc with
  | true=>rfl
  | false=>
   rw [hf] at h
   revert h
   cases (bif decide ((t.nodes:Int) > 1024) then true else decide ((t.depth:Int) > 12)) <;> cases t.all J3 <;> cases t.all X7 <;> simp
def Lf (t:A0):Int:=bif Y7 t != 0 then Y7 t else R1j t
def eqL {α:Type}(p:α→α→Bool):List α→List α→Bool
 | [],[]=>true
 | x::r,y::s=>p x y&&eqL p r s
 | _,_=>false
theorem To {α:Type}(p:α→α→Bool):∀ {l m:List α},l.length≠m.length→eqL p l m=false
 | [],[],h=>absurd rfl h
 | [],_::_,_=>rfl
 | _::_,[],_=>rfl
 | x::r,y::s,h=>by rw [eqL,To p (l:=r) (m:=s) (by simpa using h),Bool.and_false]
mutual
def A0.same:A0→A0→Bool
 | .mk k l h s n ns of,t=>k == t.Kind&&l == t.Low&&h == t.High&&s == t.Size&&n == t.Name&&eqL (fun x y=>x == y) ns t.Names&&A0.sames of t.Of
def A0.sames:List A0→List A0→Bool
 | [],[]=>true
 | x::r,y::s=>A0.same x y&&A0.sames r s
 | [],_::_=>false
 | _::_,[]=>false
end
theorem A0.sames_eq:∀ l m:List A0,A0.sames l m=eqL A0.same l m
 | [],[]=>rfl
 | x::r,y::s=>by simp only [A0.sames,eqL,A0.sames_eq r s]
 | [],_::_=>rfl
 | _::_,[]=>rfl
theorem A0.same_eq (t u:A0):t.same u=(t.Kind == u.Kind&&t.Low == u.Low&&t.High == u.High&&t.Size == u.Size&&t.Name == u.Name&&eqL (fun x y=>x == y) t.Names u.Names&&eqL A0.same t.Of u.Of):=by
 rw [← A0.sames_eq]
 cases t
 rfl
def Y1l (t u:A0):Bool:=
 bif (bif (bif (bif (bif (bif t.Kind != u.Kind then true else t.Low != u.Low) then true else t.High != u.High) then true else t.Size != u.Size) then true else !(t.Name == u.Name)) then true else
  ((t.Names).length:Int) != ((u.Names).length:Int)) then true else ((t.Of).length:Int) != ((u.Of).length:Int)
theorem O1y {t u:A0}(h:Y1l t u=true):t.same u=false:=by
 have hn:((t.Names).length:Int)≠((u.Names).length:Int)→eqL (fun x y=>x == y) t.Names u.Names=false:=fun h=>To _ fun e=>h (by omega)
 have ho:((t.Of).length:Int)≠((u.Of).length:Int)→eqL A0.same t.Of u.Of=false:=fun h=>To _ fun e=>h (by omega)
 unfold Y1l at h
 rw [A0.same_eq]
 by_cases h1:((t.Names).length:Int)=((u.Names).length:Int)
 ·by_cases h2:((t.Of).length:Int)=((u.Of).length:Int)
  ·rw [h1,h2] at h
   revert h
   simp only [bne,beq_self_eq_true,Bool.not_true]
   cases t.Kind == u.Kind <;> cases t.Low == u.Low <;> cases t.High == u.High <;> cases t.Size == u.Size <;> cases t.Name == u.Name <;> simp
  ·rw [ho h2,Bool.and_false]
 ·rw [hn h1,Bool.and_false,Bool.false_and]
theorem G21 {t u:A0}(h:Y1l t u=false):t.same u=(eqL (fun x y=>x == y) t.Names u.Names&&eqL A0.same t.Of u.Of)∧t.Names.length=u.Names.length∧t.Of.length=u.Of.length:=by
 unfold Y1l at h
 simp only [bne] at h
 have key:t.Kind == u.Kind∧t.Low == u.Low∧t.High == u.High∧t.Size == u.Size∧t.Name == u.Name∧((t.Names).length:Int) == ((u.Names).length:Int)∧((t.Of).length:Int) == ((u.Of).length:Int):=by
  revert h
  cases t.Kind == u.Kind <;> cases t.Low == u.Low <;> cases t.High == u.High <;> cases t.Size == u.Size <;> cases t.Name == u.Name <;> cases ((t.Names).length:Int) == ((u.Names).length:Int) <;> cases ((t.Of).length:Int) == ((u.Of).length:Int) <;> simp
 obtain ⟨k1,k2,k3,k4,k5,k6,k7⟩:=key
 refine ⟨by rw [A0.same_eq,k1,k2,k3,k4,k5]; rfl,?_,?_⟩
 ·have:(t.Names.length:Int)=u.Names.length:=by simpa using k6
  omega
 ·have:(t.Of.length:Int)=u.Of.length:=by simpa using k7
  omega
theorem J23 {t:A0}(hf:J3 t=true)(hk:(t.Kind == 3)=false):Kh t=false:=by
 unfold J3 fm5 at hf
 simp only [Bool.and_eq_true] at hf
 have h5:=hf.1.2
 rw [hk] at h5
 simp only [cond_false] at h5
 have:(t.Names.length:Int)=0:=by simpa using h5
 unfold Kh
 rw [List.eq_nil_of_length_eq_zero (by omega:t.Names.length=0)]
 rfl
end Go.Proofs.YtdkabnfphmmmnaaGreatDoor

set_option linter.unusedSimpArgs false
namespace Go.Proofs.YtdkabnfphmmmnaaGreatDoor
open Go.Am
mutual
def A0.bulk:A0→Nat
 | .mk _ _ _ _ n ns of=>1+(1+(1+(1+((n.length+1)+(((ns.map fun s=>s.length+1).sum+1)+((A0.bulks of+1)+0))))))+1
def A0.bulks:List A0→Nat
 | []=>0
 | x::r=>A0.bulk x+A0.bulks r
end
theorem A0.bulk_eq (t:A0):t.bulk=t.Name.length+(t.Names.map fun s=>s.length+1).sum+A0.bulks t.Of+8:=by cases t; simp only [A0.bulk]; omega
theorem A0.bulk_kid {t:A0}:∀ {l:List A0},t∈l→t.bulk≤A0.bulks l
 | x::r,h=>by
  simp only [A0.bulks]
  cases h with
  | head=>omega
  | tail _ h=>have:=A0.bulk_kid h; omega
theorem A0.bulk_len:∀ l:List A0,l.length≤A0.bulks l
 | []=>Nat.le_refl _
 | x::r=>by
  simp only [A0.bulks,List.length_cons]
  have:=A0.bulk_len r
  have:=A0.bulk_eq x
  omega
theorem Q16 {s:Str}:∀ {l:List Str},s∈l→s.length+1≤(l.map fun s=>s.length+1).sum
 | x::r,h=>by
  simp only [List.map_cons,List.sum_cons]
  cases h with
  | head=>omega
  | tail _ h=>have:=Q16 h; omega
theorem L1q:∀ l:List Str,l.length≤(l.map fun s=>s.length+1).sum
 | []=>Nat.le_refl _
 | x::r=>by simp only [List.map_cons,List.sum_cons,List.length_cons]; have:=L1q r; omega
mutual
theorem A0.nodes_bulk:∀ t:A0,t.nodes≤t.bulk
 | .mk _ _ _ _ _ _ of=>by simp only [A0.nodes,A0.bulk]; have:=A0.nodess_bulk of; omega
theorem A0.nodess_bulk:∀ l:List A0,A0.nodess l≤A0.bulks l
 | []=>Nat.le_refl _
 | x::r=>by simp only [A0.nodess,A0.bulks]; have:=A0.nodes_bulk x; have:=A0.nodess_bulk r; omega
end
def Ok (t:A0):Prop:=t.bulk≤BB
theorem Ok.kid {t x:A0}(h:Ok t)(hx:x∈t.Of):Ok x:=by
 unfold Ok at *
 have:=A0.bulk_kid hx
 have:=A0.bulk_eq t
 omega
theorem Ok.ofs {t:A0}(h:Ok t):t.Of.length≤BB:=by
 unfold Ok at *
 have:=A0.bulk_len t.Of
 have:=A0.bulk_eq t
 omega
theorem Ok.names {t:A0}(h:Ok t):t.Names.length≤BB:=by
 unfold Ok at *
 have:=L1q t.Names
 have:=A0.bulk_eq t
 omega
theorem Ok.name1 {t:A0}(h:Ok t){s:Str}(hs:s∈t.Names):s.length≤BB:=by
 unfold Ok at *
 have:=Q16 hs
 have:=A0.bulk_eq t
 omega
theorem Ok.name {t:A0}(h:Ok t):t.Name.length≤BB:=by
 unfold Ok at *
 have:=A0.bulk_eq t
 omega
theorem Ok.nodes {t:A0}(h:Ok t):t.nodes≤BB:=Nat.le_trans (A0.nodes_bulk t) h
theorem bor (a b:Bool):(bif a then true else b)=(a||b):=by cases a <;> rfl
theorem W1g (d:Int)(o:F0):J8 d o=some ⟨o.nodes,max o.depth d,o.badForm,o.badName,o.badNumber⟩:=rfl
theorem X1g (b:Bool)(o:F0):Y0 b o=some ⟨o.nodes,o.depth,o.badForm || !b,o.badName,o.badNumber⟩:=by unfold Y0; rw [bor]
theorem Yx (b:Bool)(o:F0):X1 b o=some ⟨o.nodes,o.depth,o.badForm,o.badName,o.badNumber || !b⟩:=by unfold X1; rw [bor]
theorem Ml (a b c:Int):Q3 a b c=some (A2 a b c):=rfl
theorem R16 (s:Str)(hs:s.length≤BB)(o:F0):H4 s o=some ⟨o.nodes,o.depth,o.badForm,o.badName || !J5 s,o.badNumber⟩:=by
 unfold H4
 rw [D1n s hs]
 cases h:o.badName <;> simp
theorem Y1g (o:F0):F6 o=some (Wc o.nodes o.depth o.badForm o.badName o.badNumber):=by
 unfold F6 Wc
 cases (bif decide (o.nodes > 1024) then true else decide (o.depth > 12)) <;> cases o.badForm <;> cases o.badName <;> cases o.badNumber <;> rfl
def Bg (o:F0)(d:Int)(n m:Nat)(f a u:Bool):F0:=⟨o.nodes+n,max o.depth (d+m),o.badForm || !f,o.badName || !a,o.badNumber || !u⟩
theorem P1y (t:A0)(d:Int)(hd:0≤d)(ht:Ok t)
  (ih:∀ x∈t.Of,∀ (d:Int) (o:F0),0≤d→d+x.nodes≤4 * BB→0≤o.nodes→o.nodes+x.nodes≤4 * BB→S4 x d o=some (Bg o d x.nodes (x.depth - 1) (x.all J3) (x.all X7) (x.all Kc))) :
  ∀ (r:List A0) (k:Nat) (o:F0),t.Of.drop k=r→(∀ x∈r,x∈t.Of)→d+1+A0.nodess r≤4 * BB→0≤o.nodes→o.nodes+A0.nodess r≤4 * BB→d≤o.depth→
   P6 t d o k=some (Bg o d (A0.nodess r) (A0.depths r) (A0.alls J3 r) (A0.alls X7 r) (A0.alls Kc r))
 | [],k,o,h,_,_,_,_,h5=>by
  rw [P6,(A1 h).1]
  simp only [Bg,A0.nodess,A0.depths,A0.alls,Bool.not_true,Bool.or_false]
  rw [if_neg (by simp),show o.nodes+((0:Nat):Int)=o.nodes by omega,show max o.depth (d+((0:Nat):Int))=o.depth by omega]
 | x::r,k,o,h,hm,hb,h3,h4,h5=>by
  obtain ⟨e1,e2,e3,e4,e5⟩:=C1 h
  simp only [A0.nodess] at hb h4
  have hdp:1≤x.depth:=by rw [A0.depth_eq]; omega
  have hof:=ht.ofs
  unfold BB at hb h4 hof
  rw [P6,e1,if_pos rfl,e2,ob,wr (n:=d+1) (by omega) (by omega),ih x e5 (d+1) o (by omega) (by unfold BB; omega) h3 (by unfold BB; omega),ob,w1 (by unfold BB; omega),
   P1y t d hd ht ih r (k+1) _ e3 (fun y hy=>hm y (List.mem_cons_of_mem _ hy)) (by unfold BB; omega) (by simp only [Bg]; omega) (by simp only [Bg]; unfold BB; omega) (by simp only [Bg]; omega)]
  simp only [Bg,A0.nodess,A0.depths,A0.alls,Cw]
  rw [show o.nodes+(x.nodes:Int)+(A0.nodess r:Nat)=o.nodes+((x.nodes+A0.nodess r:Nat):Int) by omega,
   show max (max o.depth (d+1+((x.depth - 1:Nat):Int))) (d+(A0.depths r:Nat))=max o.depth (d+((max x.depth (A0.depths r):Nat):Int)) by omega]
theorem Q1y (t:A0)(d:Int)(ht:Ok t)(R:F0→Option F0)(hR:∀ o,P6 t d o 0=R o) :
  ∀ (r:List Str) (k:Nat) (o:F0),t.Names.drop k=r→B5 t d o k=R ⟨o.nodes,o.depth,o.badForm,o.badName || !r.all J5,o.badNumber⟩
 | [],k,o,h=>by
  rw [B5,(A1 h).1,if_neg (by simp),hR]
  simp
 | x::r,k,o,h=>by
  obtain ⟨e1,e2,e3,e4,e5⟩:=C1 h
  have:=ht.names
  rw [B5,e1,if_pos rfl,e2,ob,R16 x (ht.name1 e5),ob,w1 (by omega),Q1y t d ht R hR r (k+1) _ e3]
  simp only [List.all_cons,Cw]
theorem Q24 (t:A0)(d:Int)(ht:Ok t)(o:F0):Z8 t d o=B5 t d ⟨o.nodes,o.depth,o.badForm,o.badName || !na1 t,o.badNumber⟩ 0:=by
 rw [Z8,R16 _ ht.name,ob,Xb,Xb]
 unfold na1
 cases h:t.Kind == 4 <;> simp
theorem R24 (t:A0)(d:Int)(o:F0):Y8 t d o=Z8 t d ⟨o.nodes,o.depth,o.badForm,o.badName,o.badNumber || !nm2 t⟩:=by
 rw [Y8]
 unfold nm2
 simp only [Ml,Yx,ob]
 cases h:t.Kind == 1 <;> cases A2 t.Low (-1048576) 1048576 <;> simp [ob]
theorem R1y (t:A0):Ok t→∀ (d:Int) (o:F0),0≤d→d+t.nodes≤4 * BB→0≤o.nodes→o.nodes+t.nodes≤4 * BB→
  S4 t d o=some (Bg o d t.nodes (t.depth - 1) (t.all J3) (t.all X7) (t.all Kc)):=by
 induction t using A0.ind with
 | h t ih=>
 intro ht d o hd hb h3 h4
 have h5:=fun o h3 h4 hd'=>P1y t d hd ht (fun x hx=>ih x hx (ht.kid hx)) t.Of 0 o rfl (fun _ h=>h) (by rw [A0.nodes_eq] at hb; omega) h3 h4 hd'
 have l4:=Q1y t d ht _ (fun o=>rfl) t.Names 0
 rw [A0.nodes_eq] at hb h4
 unfold BB at hb h4
 rw [S4]
 simp only [W1g,X1g,Ml,Yx,ob,R24,Q24 t d ht]
 rw [wr (n:=o.nodes+1) (by omega) (by omega)]
 have fin:∀ b6 u1,fm6 t=b6→nm1 t=u1→
   B5 t d ⟨o.nodes+1,max o.depth d,(((((o.badForm || !fm1 t) || !fm2 t) || !fm3 t) || !fm4 t) || !fm5 t) || !b6,o.badName || !na1 t,(o.badNumber || !u1) || !nm2 t⟩ 0
    = some (Bg o d t.nodes (t.depth - 1) (t.all J3) (t.all X7) (t.all Kc)):=by
  rintro _ _ rfl rfl
  have:=l4 ⟨o.nodes+1,max o.depth d,(((((o.badForm || !fm1 t) || !fm2 t) || !fm3 t) || !fm4 t) || !fm5 t) || !fm6 t,o.badName || !na1 t,(o.badNumber || !nm1 t) || !nm2 t⟩ rfl
  rw [show ((0:Nat):Int)=0 from rfl] at this h5
  rw [this,h5 _ (by simp only; omega) (by simp only; unfold BB; omega) (by simp only; omega)]
  simp only [Bg,A0.all_eq,A0.nodes_eq,A0.depth_eq,J3,X7,Kc,Cw,Bool.or_assoc,← Bool.not_and]
  simp only [Cw,Bool.and_assoc]
  rw [show o.nodes+1+(A0.nodess t.Of:Int)=o.nodes+((A0.nodess t.Of+1:Nat):Int) by omega,show max (max o.depth d) (d+(A0.depths t.Of:Int))=max o.depth (d+((A0.depths t.Of+1 - 1:Nat):Int)) by omega]
 have h2:(t.Kind == 2)=true∨(t.Kind == 2)=false:=by cases t.Kind == 2 <;> simp
 have h3:(t.Kind == 3)=true∨(t.Kind == 3)=false:=by cases t.Kind == 3 <;> simp
 rcases h2 with h2 | h2
 ·rw [if_pos h2]
  exact fin ((t.Of.length:Int) == 1) (A2 t.Size 1 32) (by unfold fm6; rw [h2,cond_true]) (by unfold nm1; rw [h2,cond_true])
 ·rw [if_neg (by rw [h2]; simp)]
  rcases h3 with h3 | h3
  ·rw [if_pos h3]
   exact fin (bif decide ((t.Of.length:Int)≥1) then (t.Of.length:Int) == (t.Names.length:Int) else false) (decide ((t.Of.length:Int)≤32)) (by unfold fm6; rw [h2,h3,cond_false,cond_true]) (by unfold nm1; rw [h2,h3,cond_false,cond_true])
  ·rw [if_neg (by rw [h3]; simp)]
   have:=fin ((t.Of.length:Int) == 0) true (by unfold fm6; rw [h2,h3,cond_false,cond_false]) (by unfold nm1; rw [h2,h3,cond_false,cond_false])
   rw [Bool.not_true,Bool.or_false] at this
   exact this
theorem C1c (t:A0)(ht:Ok t):Nd t=some (Y7 t):=by
 have hn:=ht.nodes
 unfold BB at hn
 have hp:1≤t.depth:=by rw [A0.depth_eq]; omega
 unfold Nd
 rw [R1y t ht 1 _ (by omega) (by unfold BB; omega) (by simp) (by simp only; unfold BB; omega),ob,Y1g,ob]
 unfold Bg Y7
 simp only [Bool.false_or]
 rw [show (0:Int)+(t.nodes:Int)=t.nodes by omega,show max 0 ((1:Int)+((t.depth - 1:Nat):Int))=t.depth by omega]
end Go.Proofs.YtdkabnfphmmmnaaGreatDoor

set_option linter.unusedSimpArgs false
namespace Go.Proofs.YtdkabnfphmmmnaaGreatDoor
open Go.Am
theorem M1q (t:A0)(ht:Ok t)(ih:∀ x∈t.Of,S9 x=some (x.nodes:Int)) :
  ∀ (r:List A0) (k:Nat) (n:Nat),t.Of.drop k=r→n+A0.nodess r≤BB→Ya t (n:Int) k=some ((n+A0.nodess r:Nat):Int)
 | [],k,n,h,hb=>by rw [Ya,(A1 h).1,if_neg (by simp)]; simp [A0.nodess]
 | x::r,k,n,h,hb=>by
  obtain ⟨e1,e2,e3,e4,e5⟩:=C1 h
  have:=ht.ofs
  simp only [A0.nodess] at hb
  have hb':=hb
  unfold BB at hb'
  rw [Ya,e1,if_pos rfl,e2,ob,ih x e5,ob,wr (n:=(n:Int)+_) (by omega) (by omega),w1 (by omega),show (n:Int)+(x.nodes:Int)=((n+x.nodes:Nat):Int) by omega,M1q t ht ih r (k+1) _ e3 (by omega)]
  simp only [A0.nodess,Nat.add_assoc]
theorem E1n (t:A0):Ok t→S9 t=some (t.nodes:Int):=by
 induction t using A0.ind with
 | h t ih=>
 intro ht
 have hn:=ht.nodes
 rw [A0.nodes_eq] at hn
 rw [S9]
 have:=M1q t ht (fun x hx=>ih x hx (ht.kid hx)) t.Of 0 1 rfl (by omega)
 rw [A0.nodes_eq,Nat.add_comm]
 exact this
theorem Z1g (t:A0)(ht:Ok t)(ih:∀ x∈t.Of,T9 x=some (x.depth:Int))(B:Nat)(hB:B≤BB) :
  ∀ (r:List A0) (k:Nat) (n:Nat),t.Of.drop k=r→n≤B→A0.depths r≤B→O8 t (n:Int) k=some ((max n (A0.depths r)+1:Nat):Int)
 | [],k,n,h,hb,_=>by
  rw [O8,(A1 h).1,if_neg (by simp),w1 (by omega)]
  simp [A0.depths]
 | x::r,k,n,h,hb,hd=>by
  obtain ⟨e1,e2,e3,e4,e5⟩:=C1 h
  have:=ht.ofs
  simp only [A0.depths] at hd
  rw [O8,e1,if_pos rfl,e2,ob,ih x e5,ob,w1 (by omega),Z1g t ht ih B hB r (k+1) _ e3 (by omega) (by omega),Z1g t ht ih B hB r (k+1) _ e3 (by omega) (by omega)]
  simp only [A0.depths]
  by_cases hx:(x.depth:Int) > (n:Int)
  ·rw [if_pos (decide_eq_true hx),show max n (max x.depth (A0.depths r))=max x.depth (A0.depths r) by omega]
  ·rw [if_neg (by simpa using hx),show max n (max x.depth (A0.depths r))=max n (A0.depths r) by omega]
theorem F1n (t:A0):Ok t→T9 t=some (t.depth:Int):=by
 induction t using A0.ind with
 | h t ih=>
 intro ht
 have hn:=ht.nodes
 have hd:=A0.depth_nodes t
 rw [T9]
 rw [A0.depth_eq] at hd
 have:=Z1g t ht (fun x hx=>ih x hx (ht.kid hx)) BB (Nat.le_refl _) t.Of 0 0 rfl (by omega) (by omega)
 rw [A0.depth_eq]
 rw [show max 0 (A0.depths t.Of)=A0.depths t.Of by omega] at this
 exact this
theorem K23 (t:A0)(ht:Ok t):Zc ⟨0,0⟩ t true=some ⟨t.nodes,t.depth⟩:=by
 have hn:=ht.nodes
 unfold BB at hn
 have hp:1≤t.depth:=by rw [A0.depth_eq]; omega
 unfold Zc
 rw [E1n t ht,F1n t ht]
 simp only [Bool.not_true,cond_false,ob,S5]
 rw [if_neg (by simp),ob,if_neg (by simp),wr (n:=(0:Int)+(t.nodes:Int)) (by omega) (by omega),if_pos (decide_eq_true (by omega)),ob]
 rw [show (0:Int)+(t.nodes:Int)=t.nodes by omega]
theorem V1t (t:A0)(ht:Ok t)(ih:∀ x∈t.Of,F9 x=some (x.all J3)):∀ (r:List A0) (k:Nat),t.Of.drop k=r→Uc t k=some (A0.alls J3 r)
 | [],k,h=>by rw [Uc,(A1 h).1,if_neg (by simp)]; rfl
 | x::r,k,h=>by
  obtain ⟨e1,e2,e3,e4,e5⟩:=C1 h
  have:=ht.ofs
  rw [Uc,e1,if_pos rfl,e2,ob,ih x e5,ob,w1 (by omega),V1t t ht ih r (k+1) e3,A0.alls]
  cases x.all J3 <;> simp
theorem N1q (t:A0):Ok t→F9 t=some (t.all J3):=by
 induction t using A0.ind with
 | h t ih=>
 intro ht
 have h1:=V1t t ht (fun x hx=>ih x hx (ht.kid hx)) t.Of 0 rfl
 rw [show ((0:Nat):Int)=0 from rfl] at h1
 rw [F9,h1,A0.all_eq,F21]
 show (if H1q t=true then some false else if I1q t=true then some false else if J1q t=true then some false else some (A0.alls J3 t.Of))=_
 cases H1q t <;> cases I1q t <;> cases J1q t <;> simp
theorem G1n (t:A0)(ht:Ok t)(ih:∀ x∈t.Of,U7 x=some (x.all X7)):∀ (r:List A0) (k:Nat),t.Of.drop k=r→Q8 t k=some (A0.alls X7 r)
 | [],k,h=>by rw [Q8,(A1 h).1,if_neg (by simp)]; rfl
 | x::r,k,h=>by
  obtain ⟨e1,e2,e3,e4,e5⟩:=C1 h
  have:=ht.ofs
  rw [Q8,e1,if_pos rfl,e2,ob,ih x e5,ob,w1 (by omega),G1n t ht ih r (k+1) e3,A0.alls]
  cases x.all X7 <;> simp
theorem H1n (t:A0)(ht:Ok t)(b:Bool)(hb:Q8 t 0=some b):∀ (r:List Str) (k:Nat),t.Names.drop k=r→Fb t k=some (r.all J5&&b)
 | [],k,h=>by rw [Fb,(A1 h).1,if_neg (by simp),hb]; rfl
 | x::r,k,h=>by
  obtain ⟨e1,e2,e3,e4,e5⟩:=C1 h
  have:=ht.names
  rw [Fb,e1,if_pos rfl,e2,ob,Sk x (ht.name1 e5),ob,w1 (by omega),H1n t ht b hb r (k+1) e3,List.all_cons]
  cases J5 x <;> simp
theorem I1n (t:A0):Ok t→U7 t=some (t.all X7):=by
 induction t using A0.ind with
 | h t ih=>
 intro ht
 have h2:=G1n t ht (fun x hx=>ih x hx (ht.kid hx)) t.Of 0 rfl
 have h1:=H1n t ht _ h2 t.Names 0 rfl
 rw [show ((0:Nat):Int)=0 from rfl] at h1
 rw [U7,h1,A0.all_eq,Sk t.Name ht.name]
 unfold X7 na1
 cases t.Kind == 4 <;> cases J5 t.Name <;> simp
theorem S1j (t:A0)(ht:Ok t)(ih:∀ x∈t.Of,T5 x=some (x.all fun t=>!Ju t)):∀ (r:List A0) (k:Nat),t.Of.drop k=r→G9 t k=some (A0.alls (fun t=>!Ju t) r)
 | [],k,h=>by rw [G9,(A1 h).1,if_neg (by simp)]; rfl
 | x::r,k,h=>by
  obtain ⟨e1,e2,e3,e4,e5⟩:=C1 h
  have:=ht.ofs
  rw [G9,e1,if_pos rfl,e2,ob,ih x e5,ob,w1 (by omega),S1j t ht ih r (k+1) e3,A0.alls]
  cases x.all (fun t=>!Ju t) <;> simp
theorem L11 (n:Int):Qe n=some (Xi n):=rfl
theorem V1e (t:A0):Ok t→T5 t=some (t.all fun t=>!Ju t):=by
 induction t using A0.ind with
 | h t ih=>
 intro ht
 have h1:=S1j t ht (fun x hx=>ih x hx (ht.kid hx)) t.Of 0 rfl
 rw [show ((0:Nat):Int)=0 from rfl] at h1
 rw [T5,h1,A0.all_eq]
 simp only [L11]
 generalize A0.alls (fun t=>!Ju t) t.Of=A
 unfold Ju
 generalize decide ((t.Of.length:Int) > 32)=b1
 generalize (bif t.Kind == 2 then (bif decide (t.Size < 1) then true else decide (t.Size > 32)) else false)=b2
 generalize decide (t.Low > t.High)=b3
 cases t.Kind == 1 <;> cases Xi t.Low <;> cases Xi t.High <;> cases b1 <;> cases b2 <;> cases b3 <;> rfl
theorem V12 (s:V0)(f m u:Bool):Gf s f m u=some (Wc s.nodes s.depth (!f) (!m) (!u)):=by
 unfold Gf Wc
 cases (bif decide (s.nodes > 1024) then true else decide (s.depth > 12)) <;> cases f <;> cases m <;> cases u <;> rfl
theorem S17 (t:A0)(ht:Ok t):Bf t=some (Y7 t):=by
 unfold Bf Y7
 rw [K23 t ht,N1q t ht,I1n t ht,V1e t ht]
 simp only [ob,V12]
 cases hf:t.all J3 with
 | true=>rw [U1e t hf]
 | false=>unfold Wc; rfl
end Go.Proofs.YtdkabnfphmmmnaaGreatDoor

set_option linter.unusedSimpArgs false
set_option linter.unusedVariables false
namespace Go.Proofs.YtdkabnfphmmmnaaGreatDoor
open Go.Am
theorem D0.ind {P:D0→Prop}(h:∀ t:D0,(∀ x∈t.Kids,P x)→P t):∀ t,P t:=by
 intro t
 refine D0.rec (motive_1:=P) (motive_2:=fun l=>∀ x∈l,P x) ?_ ?_ ?_ t
 ·intro k l n of ih
  exact h _ ih
 ·intro x hx; cases hx
 ·intro x r hx hr y hy
  cases hy with
  | head=>exact hx
  | tail _ hy=>exact hr y hy
mutual
def D0.depth:D0→Nat
 | .mk _ _ _ of=>D0.depths of+1
def D0.depths:List D0→Nat
 | []=>0
 | t::r=>max (D0.depth t) (D0.depths r)
end
theorem D0.depth_eq (t:D0):t.depth=D0.depths t.Kids+1:=by cases t; simp [D0.depth,D0.Kids]
mutual
def D0.all (p:D0→Bool):D0→Bool
 | .mk k l n of=>p (.mk k l n of)&&D0.alls p of
def D0.alls (p:D0→Bool):List D0→Bool
 | []=>true
 | t::r=>D0.all p t&&D0.alls p r
end
theorem D0.all_eq (p:D0→Bool)(t:D0):t.all p=(p t&&D0.alls p t.Kids):=by cases t; rfl
mutual
def D0.nodes:D0→Nat
 | .mk _ _ _ of=>D0.nodess of+1
def D0.nodess:List D0→Nat
 | []=>0
 | t::r=>D0.nodes t+D0.nodess r
end
theorem D0.nodes_eq (t:D0):t.nodes=D0.nodess t.Kids+1:=by cases t; rfl
mutual
theorem D0.depth_nodes:∀ t:D0,t.depth≤t.nodes
 | .mk _ _ _ of=>by simp only [D0.depth,D0.nodes]; have:=D0.depths_nodess of; omega
theorem D0.depths_nodess:∀ l:List D0,D0.depths l≤D0.nodess l
 | []=>Nat.le_refl _
 | t::r=>by simp only [D0.depths,D0.nodess]; have:=D0.depth_nodes t; have:=D0.depths_nodess r; omega
end
mutual
def D0.bulk:D0→Nat
 | .mk _ _ n ks=>1+(1+((n.length+1)+((D0.bulks ks+1)+0)))+1
def D0.bulks:List D0→Nat
 | []=>0
 | x::r=>D0.bulk x+D0.bulks r
end
theorem D0.bulk_eq (t:D0):t.bulk=t.Name.length+D0.bulks t.Kids+5:=by cases t; simp only [D0.bulk]; omega
theorem D0.bulk_kid {t:D0}:∀ {l:List D0},t∈l→t.bulk≤D0.bulks l
 | x::r,h=>by
  simp only [D0.bulks]
  cases h with
  | head=>omega
  | tail _ h=>have:=D0.bulk_kid h; omega
theorem D0.bulk_len:∀ l:List D0,l.length≤D0.bulks l
 | []=>Nat.le_refl _
 | x::r=>by
  simp only [D0.bulks,List.length_cons]
  have:=D0.bulk_len r
  have:=D0.bulk_eq x
  omega
mutual
theorem D0.nodes_bulk:∀ t:D0,t.nodes≤t.bulk
 | .mk _ _ _ of=>by simp only [D0.nodes,D0.bulk]; have:=D0.nodess_bulk of; omega
theorem D0.nodess_bulk:∀ l:List D0,D0.nodess l≤D0.bulks l
 | []=>Nat.le_refl _
 | x::r=>by simp only [D0.nodess,D0.bulks]; have:=D0.nodes_bulk x; have:=D0.nodess_bulk r; omega
end
def OkE (t:D0):Prop:=t.bulk≤BB
theorem OkE.kid {t x:D0}(h:OkE t)(hx:x∈t.Kids):OkE x:=by
 unfold OkE at *
 have:=D0.bulk_kid hx
 have:=D0.bulk_eq t
 omega
theorem OkE.kids {t:D0}(h:OkE t):t.Kids.length≤BB:=by
 unfold OkE at *
 have:=D0.bulk_len t.Kids
 have:=D0.bulk_eq t
 omega
theorem OkE.name {t:D0}(h:OkE t):t.Name.length≤BB:=by
 unfold OkE at *
 have:=D0.bulk_eq t
 omega
theorem OkE.nodes {t:D0}(h:OkE t):t.nodes≤BB:=Nat.le_trans (D0.nodes_bulk t) h
theorem D0.alls_mem {p:D0→Bool}:∀ {l:List D0} {t:D0},D0.alls p l=true→t∈l→t.all p=true
 | x::r,t,h,hm=>by
  simp only [D0.alls,Bool.and_eq_true] at h
  cases hm with
  | head=>exact h.1
  | tail _ hm=>exact D0.alls_mem h.2 hm
def ar (o:Int):Int:=
 bif (bif (bif (bif (o == 0) then true else (o == 1)) then true else (o == 2)) then true else (o == 3)) then 0
 else bif (bif (bif (o == 4) then true else (o == 6)) then true else (o == 7)) then 1
 else bif (bif (o == 5) then true else (bif (decide (o≥8)) then (decide (o≤22)) else false)) then 2
 else bif (o == 23) then 3 else -1
theorem L23 (o:Int):As o=some (ar o):=by
 unfold As ar
 cases (bif (bif (bif (o == 0) then true else (o == 1)) then true else (o == 2)) then true else (o == 3)) <;> cases (bif (bif (o == 4) then true else (o == 6)) then true else (o == 7)) <;>
  cases (bif (o == 5) then true else (bif (decide (o≥8)) then (decide (o≤22)) else false)) <;> cases o == 23 <;> rfl
theorem H21 (o:Int):Hn o=some (ar o):=by
 by_cases h:o=23
 ·subst h; rfl
 have h':(o == 23)=false:=beq_eq_false_iff_ne.2 h
 simp only [Hn,Yb,Se,ar,h']
 cases o == 0 <;> cases o == 1 <;> cases o == 2 <;> cases o == 3 <;> first | rfl | skip
 cases o == 4 <;> cases o == 6 <;> cases o == 7 <;> first | rfl | skip
 cases o == 5 <;> cases (bif decide (o≥8) then decide (o≤22) else false) <;> rfl
mutual
def D0.place:D0→Bool
 | .mk op _ _ ks=>bif op == 3 then true else bif (bif op == 4 then true else op == 5) then D0.place1 ks else false
def D0.place1:List D0→Bool
 | []=>false
 | x::_=>D0.place x
end
theorem D0.place_eq (e:D0):e.place=(bif e.Op == 3 then true else bif (bif e.Op == 4 then true else e.Op == 5) then D0.place1 e.Kids else false):=by cases e; simp only [D0.place]
theorem b3 {o:Int}(h:(bif o == 4 then true else o == 5)=true):(o == 3)=false:=by
 apply beq_eq_false_iff_ne.2
 rintro rfl
 cases h
theorem J1n (e:D0):Xj e=some e.place:=by
 unfold Xj
 induction e using D0.ind with
 | h e ih=>
 rw [Te,D0.place_eq]
 cases hb:(bif e.Op == 4 then true else e.Op == 5) with
 | false=>cases e.Op == 3 <;> simp
 | true=>
  rw [b3 hb]
  cases hk:e.Kids with
  | nil=>rfl
  | cons k r=>
   have:=ih k (by rw [hk]; simp)
   have h0:idx (k::r) 0=some k:=rfl
   have h1:(((k::r).length:Int) == 0)=false:=beq_eq_false_iff_ne.2 (by simp only [List.length_cons]; omega)
   simp only [h1,h0,ob,this,cond_true,cond_false,D0.place1]
   simp
theorem K1n (e:D0):Ad e=some e.place:=by
 induction e using D0.ind with
 | h e ih=>
 rw [Ad,D0.place_eq]
 cases h3:e.Op == 3 with
 | true=>simp
 | false=>
  cases hb:(bif e.Op == 4 then true else e.Op == 5) with
  | false=>simp [ob]
  | true=>
   cases hk:e.Kids with
   | nil=>simp [ob,D0.place1]
   | cons k r=>
    have:=ih k (by rw [hk]; simp)
    have h0:idx (k::r) 0=some k:=rfl
    have h1:decide (((k::r).length:Int) > 0)=true:=decide_eq_true (by simp only [List.length_cons]; omega)
    simp only [h1,h0,ob,cond_true,cond_false,D0.place1]
    simp [ob,this]
def ef1 (e:D0):Bool:=ar e.Op == (e.Kids.length:Int)
def ef2 (e:D0):Bool:=bif e.NV == 0 then true else e.Op == 0
def ef3 (e:D0):Bool:=bif e.Name == [] then true else bif e.Op == 3 then true else e.Op == 4
def ef4 (e:D0):Bool:=bif (bif e.Op == 4 then true else e.Op == 5) then e.place else true
def U1 (e:D0):Bool:=ef1 e&&ef2 e&&ef3 e&&ef4 e
def U5 (e:D0):Bool:=bif (bif e.Op == 3 then true else e.Op == 4) then J5 e.Name else true
def T2 (e:D0):Bool:=bif e.Op == 0 then A2 e.NV 0 1048576 else true
def Ps (e:D0):Int:=Wc e.nodes e.depth (!e.all U1) (!e.all U5) (!e.all T2)
theorem W1t (e:D0)(d:Int)(hd:0≤d)(ht:OkE e)
  (ih:∀ x∈e.Kids,∀ (d:Int) (o:F0),0≤d→d+x.nodes≤4 * BB→0≤o.nodes→o.nodes+x.nodes≤4 * BB→I3 x d o=some (Bg o d x.nodes (x.depth - 1) (x.all U1) (x.all U5) (x.all T2))) :
  ∀ (r:List D0) (k:Nat) (o:F0),e.Kids.drop k=r→d+1+D0.nodess r≤4 * BB→0≤o.nodes→o.nodes+D0.nodess r≤4 * BB→d≤o.depth→
   R4 e d o k=some (Bg o d (D0.nodess r) (D0.depths r) (D0.alls U1 r) (D0.alls U5 r) (D0.alls T2 r))
 | [],k,o,h,_,_,_,h5=>by
  rw [R4,(A1 h).1]
  simp only [Bg,D0.nodess,D0.depths,D0.alls,Bool.not_true,Bool.or_false]
  rw [if_neg (by simp),show o.nodes+((0:Nat):Int)=o.nodes by omega,show max o.depth (d+((0:Nat):Int))=o.depth by omega]
 | x::r,k,o,h,hb,h3,h4,h5=>by
  obtain ⟨e1,e2,e3,e4,e5⟩:=C1 h
  simp only [D0.nodess] at hb h4
  have hdp:1≤x.depth:=by rw [D0.depth_eq]; omega
  have hof:=ht.kids
  unfold BB at hb h4 hof
  rw [R4,e1,if_pos rfl,e2,ob,wr (n:=d+1) (by omega) (by omega),ih x e5 (d+1) o (by omega) (by unfold BB; omega) h3 (by unfold BB; omega),ob,w1 (by unfold BB; omega),
   W1t e d hd ht ih r (k+1) _ e3 (by unfold BB; omega) (by simp only [Bg]; omega) (by simp only [Bg]; unfold BB; omega) (by simp only [Bg]; omega)]
  simp only [Bg,D0.nodess,D0.depths,D0.alls,Cw]
  rw [show o.nodes+(x.nodes:Int)+(D0.nodess r:Nat)=o.nodes+((x.nodes+D0.nodess r:Nat):Int) by omega,
   show max (max o.depth (d+1+((x.depth - 1:Nat):Int))) (d+(D0.depths r:Nat))=max o.depth (d+((max x.depth (D0.depths r):Nat):Int)) by omega]
theorem I21 (e:D0)(ht:OkE e)(d:Int)(o:F0):Ua e d o=R4 e d ⟨o.nodes,o.depth,o.badForm,o.badName || !U5 e,o.badNumber || !T2 e⟩ 0:=by
 rw [Ua,R16 _ ht.name,ob]
 simp only [Ue,Ve,Ml,Yx,ob]
 unfold U5 T2
 cases (bif e.Op == 3 then true else e.Op == 4) <;> cases e.Op == 0 <;> simp
theorem O1q (e:D0):OkE e→∀ (d:Int) (o:F0),0≤d→d+e.nodes≤4 * BB→0≤o.nodes→o.nodes+e.nodes≤4 * BB→
  I3 e d o=some (Bg o d e.nodes (e.depth - 1) (e.all U1) (e.all U5) (e.all T2)):=by
 induction e using D0.ind with
 | h e ih=>
 intro ht d o hd hb h3 h4
 have h5:=fun o h3 h4 hd'=>W1t e d hd ht (fun x hx=>ih x hx (ht.kid hx)) e.Kids 0 o rfl (by rw [D0.nodes_eq] at hb; omega) h3 h4 hd'
 rw [D0.nodes_eq] at hb h4
 unfold BB at hb h4
 rw [I3]
 simp only [W1g,X1g,H21,J1n,ob,I21 e ht]
 rw [wr (n:=o.nodes+1) (by omega) (by omega)]
 rw [show ((0:Nat):Int)=0 from rfl] at h5
 have fin:∀ f:Bool,ef4 e=f→R4 e d ⟨o.nodes+1,max o.depth d,(((o.badForm || !ef1 e) || !ef2 e) || !ef3 e) || !f,o.badName || !U5 e,o.badNumber || !T2 e⟩ 0=some (Bg o d e.nodes (e.depth - 1) (e.all U1) (e.all U5) (e.all T2)):=by
  rintro _ rfl
  rw [h5 _ (by simp only; omega) (by simp only; unfold BB; omega) (by simp only; omega)]
  simp only [Bg,D0.all_eq,D0.nodes_eq,D0.depth_eq,U1,Cw,Bool.or_assoc,← Bool.not_and]
  simp only [Cw,Bool.and_assoc]
  rw [show o.nodes+1+(D0.nodess e.Kids:Int)=o.nodes+((D0.nodess e.Kids+1:Nat):Int) by omega,show max (max o.depth d) (d+(D0.depths e.Kids:Int))=max o.depth (d+((D0.depths e.Kids+1 - 1:Nat):Int)) by omega]
 cases hb:(bif e.Op == 4 then true else e.Op == 5) with
 | true=>
  rw [if_pos rfl]
  exact fin e.place (by unfold ef4; rw [hb]; rfl)
 | false=>
  rw [if_neg (by simp)]
  have:=fin true (by unfold ef4; rw [hb]; rfl)
  rw [Bool.not_true,Bool.or_false] at this
  exact this
theorem P1q (e:D0)(ht:OkE e):Ch e=some (Ps e):=by
 have hn:=ht.nodes
 unfold BB at hn
 have hp:1≤e.depth:=by rw [D0.depth_eq]; omega
 unfold Ch
 rw [O1q e ht 1 _ (by omega) (by unfold BB; omega) (by simp) (by simp only; unfold BB; omega),ob,Y1g,ob]
 unfold Bg Ps
 simp only [Bool.false_or]
 rw [show (0:Int)+(e.nodes:Int)=e.nodes by omega,show max 0 ((1:Int)+((e.depth - 1:Nat):Int))=e.depth by omega]
end Go.Proofs.YtdkabnfphmmmnaaGreatDoor

set_option linter.unusedSimpArgs false
set_option linter.unusedVariables false
namespace Go.Proofs.YtdkabnfphmmmnaaGreatDoor
open Go.Am
theorem L1n (t:D0)(ht:OkE t)(ih:∀ x∈t.Kids,V9 x=some (x.nodes:Int)) :
  ∀ (r:List D0) (k:Nat) (n:Nat),t.Kids.drop k=r→n+D0.nodess r≤BB→Bb t (n:Int) k=some ((n+D0.nodess r:Nat):Int)
 | [],k,n,h,hb=>by rw [Bb,(A1 h).1,if_neg (by simp)]; simp [D0.nodess]
 | x::r,k,n,h,hb=>by
  obtain ⟨e1,e2,e3,e4,e5⟩:=C1 h
  have:=ht.kids
  simp only [D0.nodess] at hb
  have hb':=hb
  unfold BB at hb'
  rw [Bb,e1,if_pos rfl,e2,ob,ih x e5,ob,wr (n:=(n:Int)+_) (by omega) (by omega),w1 (by omega),show (n:Int)+(x.nodes:Int)=((n+x.nodes:Nat):Int) by omega,L1n t ht ih r (k+1) _ e3 (by omega)]
  simp only [D0.nodess,Nat.add_assoc]
theorem T1j (t:D0):OkE t→V9 t=some (t.nodes:Int):=by
 induction t using D0.ind with
 | h t ih=>
 intro ht
 have hn:=ht.nodes
 rw [D0.nodes_eq] at hn
 rw [V9]
 have:=L1n t ht (fun x hx=>ih x hx (ht.kid hx)) t.Kids 0 1 rfl (by omega)
 rw [D0.nodes_eq,Nat.add_comm]
 exact this
theorem D1c (t:D0)(ht:OkE t)(ih:∀ x∈t.Kids,W9 x=some (x.depth:Int))(B:Nat)(hB:B≤BB) :
  ∀ (r:List D0) (k:Nat) (n:Nat),t.Kids.drop k=r→n≤B→D0.depths r≤B→P8 t (n:Int) k=some ((max n (D0.depths r)+1:Nat):Int)
 | [],k,n,h,hb,_=>by
  rw [P8,(A1 h).1,if_neg (by simp),w1 (by omega)]
  simp [D0.depths]
 | x::r,k,n,h,hb,hd=>by
  obtain ⟨e1,e2,e3,e4,e5⟩:=C1 h
  have:=ht.kids
  simp only [D0.depths] at hd
  rw [P8,e1,if_pos rfl,e2,ob,ih x e5,ob,w1 (by omega),D1c t ht ih B hB r (k+1) _ e3 (by omega) (by omega),D1c t ht ih B hB r (k+1) _ e3 (by omega) (by omega)]
  simp only [D0.depths]
  by_cases hx:(x.depth:Int) > (n:Int)
  ·rw [if_pos (decide_eq_true hx),show max n (max x.depth (D0.depths r))=max x.depth (D0.depths r) by omega]
  ·rw [if_neg (by simpa using hx),show max n (max x.depth (D0.depths r))=max n (D0.depths r) by omega]
theorem U1j (t:D0):OkE t→W9 t=some (t.depth:Int):=by
 induction t using D0.ind with
 | h t ih=>
 intro ht
 have hn:=ht.nodes
 have hd:=D0.depth_nodes t
 rw [W9]
 rw [D0.depth_eq] at hd
 have:=D1c t ht (fun x hx=>ih x hx (ht.kid hx)) BB (Nat.le_refl _) t.Kids 0 0 rfl (by omega) (by omega)
 rw [D0.depth_eq]
 rw [show max 0 (D0.depths t.Kids)=D0.depths t.Kids by omega] at this
 exact this
theorem Yq (n:Int)(d:Int)(m:Int):S5 ⟨n,d⟩ m=some ⟨n,max d m⟩:=by
 unfold S5
 by_cases h:m > d
 ·rw [if_pos (decide_eq_true h),show max d m=m by omega]
 ·rw [if_neg (by simpa using h),show max d m=d by omega]
theorem Q1q (e:D0)(ht:OkE e)(ih:∀ x∈e.Kids,K4 x=some (x.all U1)):∀ (r:List D0) (k:Nat),e.Kids.drop k=r→Vc e k=some (D0.alls U1 r)
 | [],k,h=>by rw [Vc,(A1 h).1,if_neg (by simp)]; rfl
 | x::r,k,h=>by
  obtain ⟨e1,e2,e3,e4,e5⟩:=C1 h
  have:=ht.kids
  rw [Vc,e1,if_pos rfl,e2,ob,ih x e5,ob,w1 (by omega),Q1q e ht ih r (k+1) e3,D0.alls]
  cases x.all U1 <;> simp
theorem Dw (e:D0):OkE e→K4 e=some (e.all U1):=by
 induction e using D0.ind with
 | h e ih=>
 intro ht
 have h1:=Q1q e ht (fun x hx=>ih x hx (ht.kid hx)) e.Kids 0 rfl
 rw [show ((0:Nat):Int)=0 from rfl] at h1
 rw [K4,h1,D0.all_eq,K1n,L23,ob]
 generalize D0.alls U1 e.Kids=A
 have hb:(bif (bif (ar e.Op != (e.Kids.length:Int)) then true else (bif (e.Op != 0) then (e.NV != 0) else false)) then true else (bif (bif (e.Op != 3) then (e.Op != 4) else false) then (!(e.Name == [])) else false)) = !(ef1 e&&ef2 e&&ef3 e):=by
  unfold ef1 ef2 ef3
  simp only [bne]
  cases ar e.Op == (e.Kids.length:Int) <;> cases e.NV == 0 <;> cases e.Op == 0 <;> cases e.Name == [] <;> cases e.Op == 3 <;> cases e.Op == 4 <;> rfl
 rw [hb]
 unfold U1 ef4
 cases (ef1 e&&ef2 e&&ef3 e) <;> cases (bif e.Op == 4 then true else e.Op == 5) <;> cases e.place <;> simp [ob]
theorem M1n (e:D0)(ht:OkE e)(ih:∀ x∈e.Kids,X3 x=some (x.all U5)):∀ (r:List D0) (k:Nat),e.Kids.drop k=r→Gb e k=some (D0.alls U5 r)
 | [],k,h=>by rw [Gb,(A1 h).1,if_neg (by simp)]; rfl
 | x::r,k,h=>by
  obtain ⟨e1,e2,e3,e4,e5⟩:=C1 h
  have:=ht.kids
  rw [Gb,e1,if_pos rfl,e2,ob,ih x e5,ob,w1 (by omega),M1n e ht ih r (k+1) e3,D0.alls]
  cases x.all U5 <;> simp
theorem Qs (e:D0):OkE e→X3 e=some (e.all U5):=by
 induction e using D0.ind with
 | h e ih=>
 intro ht
 have h1:=M1n e ht (fun x hx=>ih x hx (ht.kid hx)) e.Kids 0 rfl
 rw [show ((0:Nat):Int)=0 from rfl] at h1
 rw [X3,h1,D0.all_eq,Sk e.Name ht.name]
 generalize D0.alls U5 e.Kids=A
 unfold U5
 cases (bif e.Op == 3 then true else e.Op == 4) <;> cases J5 e.Name <;> simp [ob]
theorem W1e (e:D0)(ht:OkE e)(ih:∀ x∈e.Kids,F3 x=some (x.all T2)):∀ (r:List D0) (k:Nat),e.Kids.drop k=r→H9 e k=some (D0.alls T2 r)
 | [],k,h=>by rw [H9,(A1 h).1,if_neg (by simp)]; rfl
 | x::r,k,h=>by
  obtain ⟨e1,e2,e3,e4,e5⟩:=C1 h
  have:=ht.kids
  rw [H9,e1,if_pos rfl,e2,ob,ih x e5,ob,w1 (by omega),W1e e ht ih r (k+1) e3,D0.alls]
  cases x.all T2 <;> simp
theorem Xn (e:D0):OkE e→F3 e=some (e.all T2):=by
 induction e using D0.ind with
 | h e ih=>
 intro ht
 have h1:=W1e e ht (fun x hx=>ih x hx (ht.kid hx)) e.Kids 0 rfl
 rw [show ((0:Nat):Int)=0 from rfl] at h1
 rw [F3,h1,D0.all_eq]
 have:T2 e = !(bif (e.Op == 0) then (bif (decide (e.NV < 0)) then true else (decide (e.NV > 1048576))) else false):=by
  unfold T2 A2
  rw [O16,P16]
  cases e.Op == 0 <;> cases decide (e.NV≥0) <;> cases decide (e.NV≤1048576) <;> rfl
 rw [this]
 cases (bif (e.Op == 0) then (bif (decide (e.NV < 0)) then true else (decide (e.NV > 1048576))) else false) <;> simp
theorem E1w (s:V0)(e:D0)(ht:OkE e)(h : -4 * (BB:Int)≤s.nodes∧s.nodes≤4 * BB):V5 s e true=some ⟨s.nodes+e.nodes,max s.depth e.depth⟩:=by
 have hn:=ht.nodes
 unfold BB at hn h
 unfold V5
 rw [T1j e ht,U1j e ht]
 simp only [Bool.not_true,cond_false,ob,Yq]
 rw [if_neg (by simp),ob,if_neg (by simp),wr (n:=s.nodes+(e.nodes:Int)) (by omega) (by omega)]
theorem I1o (e:D0)(ht:OkE e):Wi e=some (Ps e):=by
 have hp:1≤e.depth:=by rw [D0.depth_eq]; omega
 unfold Wi Ps
 rw [E1w _ e ht (by simp only; unfold BB; omega),Dw e ht,Qs e ht,Xn e ht]
 simp only [ob,V12]
 rw [show (0:Int)+(e.nodes:Int)=e.nodes by omega,show max (0:Int) (e.depth:Int)=e.depth by omega]
theorem X1t (e:D0)(ht:OkE e)(ih:∀ x∈e.Kids,∀ n,∃ m,Z4 x n=some m):∀ (r:List D0) (k:Nat) (n:Int),e.Kids.drop k=r→∃ m,Rc e n k=some m
 | [],k,n,h=>by rw [Rc,(A1 h).1]; exact ⟨_,rfl⟩
 | x::r,k,n,h=>by
  obtain ⟨e1,e2,e3,e4,e5⟩:=C1 h
  have:=ht.kids
  rw [Rc,e1,e2]
  cases decide (n≥0) with
  | false=>exact ⟨_,rfl⟩
  | true=>
   obtain ⟨m,hm⟩:=ih x e5 n
   rw [cond_true,if_pos rfl,ob,hm,ob,w1 (by omega)]
   exact X1t e ht ih r (k+1) m e3
theorem Rs (e:D0):OkE e→∀ n,∃ m,Z4 e n=some m:=by
 induction e using D0.ind with
 | h e ih=>
 intro ht n
 rw [Z4]
 exact X1t e ht (fun x hx=>ih x hx (ht.kid hx)) e.Kids 0 _ rfl
theorem S1y (e:D0)(ht:OkE e)(n:Int):∃ b,Dm e n=some b:=by
 obtain ⟨m,hm⟩:=Rs e ht n
 unfold Dm
 rw [hm]
 exact ⟨_,rfl⟩
theorem A1h (t:A0)(ht:Ok t)(ih:∀ x∈t.Of,∀ n,∃ m,D9 x n=some m):∀ (r:List A0) (k:Nat) (n:Int),t.Of.drop k=r→∃ m,Pc t n k=some m
 | [],k,n,h=>by rw [Pc,(A1 h).1]; exact ⟨_,rfl⟩
 | x::r,k,n,h=>by
  obtain ⟨e1,e2,e3,e4,e5⟩:=C1 h
  have:=ht.ofs
  rw [Pc,e1,e2]
  cases decide (n≥0) with
  | false=>exact ⟨_,rfl⟩
  | true=>
   obtain ⟨m,hm⟩:=ih x e5 n
   rw [cond_true,if_pos rfl,ob,hm,ob,w1 (by omega)]
   exact A1h t ht ih r (k+1) m e3
theorem R1q (t:A0)(ht:Ok t)(ih:∀ x∈t.Of,∀ n,∃ m,D9 x n=some m):∀ (r:List Str) (k:Nat) (n:Int),t.Names.drop k=r→∃ m,Oc t n k=some m
 | [],k,n,h=>by rw [Oc,(A1 h).1]; exact A1h t ht ih t.Of 0 n rfl
 | x::r,k,n,h=>by
  obtain ⟨e1,e2,e3,e4,e5⟩:=C1 h
  have:=ht.names
  rw [Oc,e1,e2]
  cases decide (n≥0) with
  | false=>exact A1h t ht ih t.Of 0 n rfl
  | true=>
   rw [cond_true,if_pos rfl,ob,w1 (by omega)]
   exact R1q t ht ih r (k+1) _ e3
theorem F1w (t:A0):Ok t→∀ n,∃ m,D9 t n=some m:=by
 induction t using A0.ind with
 | h t ih=>
 intro ht n
 rw [D9]
 exact R1q t ht (fun x hx=>ih x hx (ht.kid hx)) t.Names 0 _ rfl
end Go.Proofs.YtdkabnfphmmmnaaGreatDoor

set_option linter.unusedSimpArgs false
set_option linter.unusedVariables false
namespace Go.Proofs.YtdkabnfphmmmnaaGreatDoor
open Go.Am
end Go.Proofs.YtdkabnfphmmmnaaGreatDoor

set_option linter.unusedSimpArgs false
set_option linter.unusedVariables false
namespace Go.Proofs.YtdkabnfphmmmnaaGreatDoor
open Go.Am
end Go.Proofs.YtdkabnfphmmmnaaGreatDoor

set_option linter.unusedSimpArgs false
set_option linter.unusedVariables false
set_option maxHeartbeats 800000
namespace Go.Proofs.YtdkabnfphmmmnaaGreatDoor
open Go.Am
end Go.Proofs.YtdkabnfphmmmnaaGreatDoor

set_option linter.unusedSimpArgs false
set_option linter.unusedVariables false
namespace Go.Proofs.YtdkabnfphmmmnaaGreatDoor
open Go.Am
theorem J1d {α:Type}{l:List α}{k:Nat}(h:k < l.length):∃ y,idx l (k:Int)=some y∧l.drop k=y::l.drop (k+1)∧y∈l:=by
 refine ⟨l[k],?_,List.drop_eq_getElem_cons h,List.getElem_mem h⟩
 unfold idx
 rw [if_pos (by omega)]
 simp [h]
theorem z0:(0:Int)=((0:Nat):Int):=rfl
theorem N1n (t u:A0)(ht:Ok t)(hl:t.Of.length=u.Of.length)(ih:∀ x∈t.Of,∀ y,S7 x y=some (x.same y)) :
  ∀ (r:List A0) (k:Nat),t.Of.drop k=r→N8 t u k=some (eqL A0.same r (u.Of.drop k))
 | [],k,h=>by
  rw [N8,(A1 h).1,if_neg (by simp),List.drop_eq_nil_of_le (by have:=(A1 h).2; omega)]; rfl
 | x::r,k,h=>by
  obtain ⟨e1,e2,e3,e4,e5⟩:=C1 h
  obtain ⟨y,f1,f2,f3⟩:=J1d (l:=u.Of) (k:=k) (by omega)
  have:=ht.ofs
  rw [N8,e1,if_pos rfl,e2,ob,f1,ob,ih x e5 y,ob,w1 (by omega),N1n t u ht hl ih r (k+1) e3,f2,eqL]
  cases x.same y <;> simp
theorem O1n (t u:A0)(ht:Ok t)(hl:t.Names.length=u.Names.length)(b:Bool)(hb:N8 t u 0=some b) :
  ∀ (r:List Str) (k:Nat),t.Names.drop k=r→Xa t u k=some (eqL (fun x y=>x == y) r (u.Names.drop k)&&b)
 | [],k,h=>by
  rw [Xa,(A1 h).1,if_neg (by simp),List.drop_eq_nil_of_le (by have:=(A1 h).2; omega),hb]; rfl
 | x::r,k,h=>by
  obtain ⟨e1,e2,e3,e4,e5⟩:=C1 h
  obtain ⟨y,f1,f2,f3⟩:=J1d (l:=u.Names) (k:=k) (by omega)
  have:=ht.names
  rw [Xa,e1,if_pos rfl,e2,ob,f1,ob,w1 (by omega),O1n t u ht hl b hb r (k+1) e3,f2,eqL]
  cases x == y <;> simp
theorem P1n (t:A0):Ok t→∀ u,S7 t u=some (t.same u):=by
 induction t using A0.ind with
 | h t ih=>
 intro ht u
 have ih':=fun x hx=>ih x hx (ht.kid hx)
 rw [S7]
 show (if Y1l t u=true then _ else _)=_
 cases hd:Y1l t u with
 | true=>rw [if_pos rfl,O1y hd]
 | false=>
  obtain ⟨h1,h2,h3⟩:=G21 hd
  have h4:=N1n t u ht h3 ih' t.Of 0 rfl
  have h5:=O1n t u ht h2 _ h4 t.Names 0 rfl
  rw [if_neg (by simp),z0,h5,h1]
  rfl
theorem S1q (s u:List Str)(hs:s.length≤BB)(hl:s.length=u.length):∀ (r:List Str) (k:Nat),s.drop k=r→P1 s u k=some (eqL (fun x y=>x == y) r (u.drop k))
 | [],k,h=>by
  rw [P1,(A1 h).1,if_neg (by simp),List.drop_eq_nil_of_le (by have:=(A1 h).2; omega)]; rfl
 | x::r,k,h=>by
  obtain ⟨e1,e2,e3,e4,e5⟩:=C1 h
  obtain ⟨y,f1,f2,f3⟩:=J1d (l:=u) (k:=k) (by omega)
  rw [P1,e1,if_pos rfl,e2,ob,f1,ob,w1 (by omega),S1q s u hs hl r (k+1) e3,f2,eqL]
  cases x == y <;> simp
theorem T1y (s u:List Str)(hs:s.length≤BB):H3 s u=some (eqL (fun x y=>x == y) s u):=by
 unfold H3
 by_cases hl:s.length=u.length
 ·rw [if_neg (by simp; omega),z0,S1q s u hs hl s 0 rfl]; rfl
 ·rw [if_pos (by simp; omega),To _ hl]
theorem T1q (s u:List A0)(hs:s.length≤BB)(hl:s.length=u.length)(ih:∀ x∈s,∀ y,I8 x y=some (x.same y)) :
  ∀ (r:List A0) (k:Nat),s.drop k=r→K1 s u k=some (eqL A0.same r (u.drop k))
 | [],k,h=>by
  rw [K1,(A1 h).1,if_neg (by simp),List.drop_eq_nil_of_le (by have:=(A1 h).2; omega)]; rfl
 | x::r,k,h=>by
  obtain ⟨e1,e2,e3,e4,e5⟩:=C1 h
  obtain ⟨y,f1,f2,f3⟩:=J1d (l:=u) (k:=k) (by omega)
  rw [K1,e1,if_pos rfl,e2,ob,f1,ob,ih x e5 y,ob,w1 (by omega),T1q s u hs hl ih r (k+1) e3,f2,eqL]
  cases x.same y <;> simp
theorem G1w (t:A0):Ok t→∀ u,I8 t u=some (t.same u):=by
 induction t using A0.ind with
 | h t ih=>
 intro ht u
 have ih':=fun x hx=>ih x hx (ht.kid hx)
 have hO:V2 t.Of u.Of=some (eqL A0.same t.Of u.Of):=by
  rw [V2]
  by_cases hl:t.Of.length=u.Of.length
  ·rw [if_neg (by simp; omega),z0,T1q t.Of u.Of ht.ofs hl ih' t.Of 0 rfl]; rfl
  ·rw [if_pos (by simp; omega),To _ hl]
 rw [I8,hO,T1y _ _ ht.names,A0.same_eq]
 generalize eqL A0.same t.Of u.Of=a
 generalize eqL (fun x y=>x == y) t.Names u.Names=b
 cases t.Kind == u.Kind <;> cases t.Low == u.Low <;> cases t.High == u.High <;> cases t.Size == u.Size <;> cases t.Name == u.Name <;> cases b <;> cases a <;> rfl
mutual
def D0.same:D0→D0→Bool
 | .mk o n nm ks,t=>o == t.Op&&n == t.NV&&nm == t.Name&&D0.sames ks t.Kids
def D0.sames:List D0→List D0→Bool
 | [],[]=>true
 | x::r,y::s=>D0.same x y&&D0.sames r s
 | [],_::_=>false
 | _::_,[]=>false
end
theorem D0.sames_eq:∀ l m:List D0,D0.sames l m=eqL D0.same l m
 | [],[]=>rfl
 | x::r,y::s=>by simp only [D0.sames,eqL,D0.sames_eq r s]
 | [],_::_=>rfl
 | _::_,[]=>rfl
theorem D0.same_eq (t u:D0):t.same u=(t.Op == u.Op&&t.NV == u.NV&&t.Name == u.Name&&eqL D0.same t.Kids u.Kids):=by
 rw [← D0.sames_eq]
 cases t
 rfl
theorem U1y (s u:List D0)(hs:s.length≤BB)(hl:s.length=u.length)(ih:∀ x∈s,∀ y,Q6 x y=some (x.same y)) :
  ∀ (r:List D0) (k:Nat),s.drop k=r→N1 s u k=some (eqL D0.same r (u.drop k))
 | [],k,h=>by
  rw [N1,(A1 h).1,if_neg (by simp),List.drop_eq_nil_of_le (by have:=(A1 h).2; omega)]; rfl
 | x::r,k,h=>by
  obtain ⟨e1,e2,e3,e4,e5⟩:=C1 h
  obtain ⟨y,f1,f2,f3⟩:=J1d (l:=u) (k:=k) (by omega)
  rw [N1,e1,if_pos rfl,e2,ob,f1,ob,ih x e5 y,ob,w1 (by omega),U1y s u hs hl ih r (k+1) e3,f2,eqL]
  cases x.same y <;> simp
theorem J21 (s u:List D0)(hs:s.length≤BB)(ih:∀ x∈s,∀ y,Q6 x y=some (x.same y)):W2 s u=some (eqL D0.same s u):=by
 rw [W2]
 by_cases hl:s.length=u.length
 ·rw [if_neg (by simp; omega),z0,U1y s u hs hl ih s 0 rfl]; rfl
 ·rw [if_pos (by simp; omega),To _ hl]
theorem H1w (t:D0):OkE t→∀ u,Q6 t u=some (t.same u):=by
 induction t using D0.ind with
 | h t ih=>
 intro ht u
 rw [Q6,J21 t.Kids u.Kids ht.kids (fun x hx=>ih x hx (ht.kid hx)),D0.same_eq]
 generalize eqL D0.same t.Kids u.Kids=a
 cases t.Op == u.Op <;> cases t.NV == u.NV <;> cases t.Name == u.Name <;> cases a <;> rfl
theorem V1y (t u:D0)(ht:OkE t)(hl:t.Kids.length=u.Kids.length)(ih:∀ x∈t.Kids,∀ y,U9 x y=some (x.same y)) :
  ∀ (r:List D0) (k:Nat),t.Kids.drop k=r→Za t u k=some (eqL D0.same r (u.Kids.drop k))
 | [],k,h=>by
  rw [Za,(A1 h).1,if_neg (by simp),List.drop_eq_nil_of_le (by have:=(A1 h).2; omega)]; rfl
 | x::r,k,h=>by
  obtain ⟨e1,e2,e3,e4,e5⟩:=C1 h
  obtain ⟨y,f1,f2,f3⟩:=J1d (l:=u.Kids) (k:=k) (by omega)
  have:=ht.kids
  rw [Za,e1,if_pos rfl,e2,ob,f1,ob,ih x e5 y,ob,w1 (by omega),V1y t u ht hl ih r (k+1) e3,f2,eqL]
  cases x.same y <;> simp
theorem I1w (t:D0):OkE t→∀ u,U9 t u=some (t.same u):=by
 induction t using D0.ind with
 | h t ih=>
 intro ht u
 have ih':=fun x hx=>ih x hx (ht.kid hx)
 rw [U9,D0.same_eq]
 by_cases hl:t.Kids.length=u.Kids.length
 ·have h4:=V1y t u ht hl ih' t.Kids 0 rfl
  have hb:(bif (bif (bif (t.Op != u.Op) then true else (t.NV != u.NV)) then true else (!(t.Name == u.Name))) then true else ((t.Kids.length:Int) != (u.Kids.length:Int))) = !(t.Op == u.Op&&t.NV == u.NV&&t.Name == u.Name):=by
   have:((t.Kids.length:Int) != (u.Kids.length:Int))=false:=by simp; omega
   rw [this]
   unfold bne
   cases t.Op == u.Op <;> cases t.NV == u.NV <;> cases t.Name == u.Name <;> rfl
  rw [hb,z0,h4]
  cases (t.Op == u.Op&&t.NV == u.NV&&t.Name == u.Name) <;> simp
 ·have:((t.Kids.length:Int) != (u.Kids.length:Int))=true:=by simp; omega
  rw [this,To _ hl,Bool.and_false]
  generalize (bif (bif (t.Op != u.Op) then true else (t.NV != u.NV)) then true else (!(t.Name == u.Name)))=b
  cases b <;> rfl
def Pj (e:D0):Bool:=e.same ⟨0,0,[],[]⟩
def Xu (t:A0):Bool:=t.same ⟨0,0,0,0,[],[],[]⟩
theorem M11 (e:D0)(h:OkE e):Ab e=some (Pj e):=by unfold Ab; rw [I1w e h]; rfl
theorem W1y (t:A0)(h:Ok t):Gk t=some (Xu t):=by unfold Gk; rw [P1n t h]; rfl
theorem K21 {e:D0}(h:Pj e=true):e=⟨0,0,[],[]⟩:=by
 unfold Pj at h
 rw [D0.same_eq] at h
 obtain ⟨o,n,nm,ks⟩:=e
 simp only [Bool.and_eq_true,beq_iff_eq] at h
 obtain ⟨⟨⟨rfl,rfl⟩,rfl⟩,h4⟩:=h
 cases ks with
 | nil=>rfl
 | cons x r=>cases h4
theorem L21 {t:A0}(h:Xu t=true):t=⟨0,0,0,0,[],[],[]⟩:=by
 unfold Xu at h
 rw [A0.same_eq] at h
 obtain ⟨a,b,c,d,nm,ns,ks⟩:=t
 simp only [Bool.and_eq_true,beq_iff_eq] at h
 obtain ⟨⟨⟨⟨⟨⟨rfl,rfl⟩,rfl⟩,rfl⟩,rfl⟩,h5⟩,h4⟩:=h
 cases ks with
 | nil=>
  cases ns with
  | nil=>rfl
  | cons x r=>cases h5
 | cons x r=>cases h4
end Go.Proofs.YtdkabnfphmmmnaaGreatDoor

namespace Go.Proofs.YtdkabnfphmmmnaaGreatDoor
open Go.Am
mutual
def C0.bulk:C0→Nat
 | .mk y0 y1 y2 y3 y4 y5 y6 y7 y8 y9 y10=>1+(D0.bulk y1+(D0.bulk y2+((y3.length+1)+((D0.bulks y4+1)+(1+(1+(1+(((y8.map fun _=>1).sum+1)+((C0.bulks y9+1)+((C0.bulks y10+1)+(0)))))))))))+1
def C0.bulks:List C0→Nat
 | []=>0
 | x::r=>C0.bulk x+C0.bulks r
end
mutual
def B0.bulk:B0→Nat
 | .mk y0 y1 y2 y3 y4 y5 y6 y7=>1+((y1.length+1)+(A0.bulk y2+(1+(D0.bulk y4+((B0.bulks y5+1)+((B0.bulks y6+1)+((C0.bulks y7+1)+(0))))))))+1
def B0.bulks:List B0→Nat
 | []=>0
 | x::r=>B0.bulk x+B0.bulks r
end
mutual
def I0.bulk:I0→Nat
 | .mk y0 y1=>(B0.bulks y0+1)+((C0.bulks y1+1)+(0))+1
def I0.bulks:List I0→Nat
 | []=>0
 | x::r=>I0.bulk x+I0.bulks r
end
end Go.Proofs.YtdkabnfphmmmnaaGreatDoor

set_option linter.unusedSimpArgs false
set_option linter.unusedVariables false
set_option maxHeartbeats 1000000
namespace Go.Proofs.YtdkabnfphmmmnaaGreatDoor
open Go.Am
def uPl (v:Int):Bool:=bif (bif (v == 0) then true else (v == 1)) then true else (v == 2)
def uVa (v:Int):Bool:=bif (bif (bif (v == 0) then true else (v == 3)) then true else (v == 5)) then true else (v == 6)
def uNm (v:Int):Bool:=bif (bif (v == 1) then true else (v == 2)) then true else (v == 7)
def uNn (v:Int):Bool:=bif (v == 4) then true else (v == 6)
def uTh (v:Int):Bool:=bif (bif (v == 5) then true else (v == 6)) then true else (v == 7)
def okV (v:Int):Bool:=!(bif decide (v < 0) then true else decide (v > 8))
def stU (v:Int):I2×Bool:=(⟨uPl v,uVa v,uNm v,v == 1,uNn v,v == 7,v == 8,uTh v,v == 5⟩,okV v)
theorem U1q (v:Int):Ah v=some (stU v):=by
 have h:(v < 0∨8 < v)∨v=0∨v=1∨v=2∨v=3∨v=4∨v=5∨v=6∨v=7∨v=8:=by omega
 rcases h with h | rfl | rfl | rfl | rfl | rfl | rfl | rfl | rfl | rfl
 ·have f:∀ k:Int,0≤k∧k≤8→(v == k)=false:=fun k hk=>beq_eq_false_iff_ne.2 (by omega)
  have hv:okV v=false:=by
   unfold okV
   rcases h with h | h
   ·rw [decide_eq_true h]; rfl
   ·rw [decide_eq_true (show v > 8 from h)]; cases decide (v < 0) <;> rfl
  unfold Ah stU uPl uVa uNm uNn uTh
  rw [hv]
  simp only [f 0 (by decide),f 1 (by decide),f 2 (by decide),f 3 (by decide),f 4 (by decide),f 5 (by decide),f 6 (by decide),f 7 (by decide),f 8 (by decide)]
  rfl
 all_goals rfl
def oN (e:D0)(u:Bool):Nat:=bif (bif !u then Pj e else false) then 0 else e.nodes
def oD (e:D0)(u:Bool):Nat:=bif (bif !u then Pj e else false) then 0 else e.depth
def oF (e:D0)(u:Bool):Bool:=bif u then e.all U1 else Pj e
theorem J1w (e:D0)(u:Bool):oN e u≤e.bulk:=by
 unfold oN
 have:=D0.nodes_bulk e
 cases (bif !u then Pj e else false) <;> simp <;> omega
def Ss:Int→List Int→Bool
 | _,[]=>true
 | l,n::r=>(bif A2 n 0 1048576 then decide (n > l) else false)&&Ss n r
def Yn (s:C0):Bool:=
 bif s.Verb == 4 then A2 s.NV 0 1048576 else bif s.Verb == 6 then A2 s.NV 0 4096
 else bif s.Verb == 7 then (bif (bif A2 s.Low (-1048576) 1048576 then A2 s.High s.Low 1048576 else false) then decide (s.High - s.Low < 4096) else false)
 else bif s.Verb == 8 then A2 (s.Numbers.length:Int) 1 32&&Ss (-1) s.Numbers else true
def sform (s:C0):Bool:=
 okV s.Verb&&oF s.Place (uPl s.Verb)&&(bif uPl s.Verb then s.Place.place else true)&&oF s.Value (uVa s.Verb)&&(bif uNm s.Verb then true else s.Name == [])&&(bif s.Verb == 1 then true else ((s.Args.length:Int) == 0))&&D0.alls U1 s.Args
 && (bif uNn s.Verb then true else s.NV == 0)&&(bif s.Verb == 7 then true else (bif s.Low == 0 then s.High == 0 else false))&&(bif s.Verb == 8 then true else ((s.Numbers.length:Int) == 0))
 && (bif uTh s.Verb then true else ((s.Then.length:Int) == 0))&&(bif s.Verb == 5 then true else ((s.Else.length:Int) == 0))
def Hd (s:C0):Bool:=s.Place.all U5&&s.Value.all U5&&(bif uNm s.Verb then J5 s.Name else true)&&D0.alls U5 s.Args
def snumb (s:C0):Bool:=s.Place.all T2&&s.Value.all T2&&D0.alls T2 s.Args&&Yn s
mutual
def C0.nds:C0→Nat
 | .mk v pl va nm ar n lo hi ns th el=>1+(oN pl (uPl v)+(oN va (uVa v)+(D0.nodess ar+(C0.ndss th+C0.ndss el))))
def C0.ndss:List C0→Nat
 | []=>0
 | x::r=>C0.nds x+C0.ndss r
end
mutual
def C0.dps:C0→Nat→Nat
 | .mk v pl va nm ar n lo hi ns th el,d=>max d (max (oD pl (uPl v)) (max (oD va (uVa v)) (max (D0.depths ar) (max (C0.dpss th (d+1)) (C0.dpss el (d+1))))))
def C0.dpss:List C0→Nat→Nat
 | [],_=>0
 | x::r,d=>max (C0.dps x d) (C0.dpss r d)
end
mutual
def C0.all (p:C0→Bool):C0→Bool
 | .mk v pl va nm ar n lo hi ns th el=>p (.mk v pl va nm ar n lo hi ns th el)&&(C0.alls p th&&C0.alls p el)
def C0.alls (p:C0→Bool):List C0→Bool
 | []=>true
 | x::r=>C0.all p x&&C0.alls p r
end
theorem C0.nds_eq (s:C0):s.nds=1+(oN s.Place (uPl s.Verb)+(oN s.Value (uVa s.Verb)+(D0.nodess s.Args+(C0.ndss s.Then+C0.ndss s.Else)))):=by cases s; simp only [C0.nds]
theorem C0.dps_eq (s:C0)(d:Nat):s.dps d=max d (max (oD s.Place (uPl s.Verb)) (max (oD s.Value (uVa s.Verb)) (max (D0.depths s.Args) (max (C0.dpss s.Then (d+1)) (C0.dpss s.Else (d+1)))))):=by cases s; simp only [C0.dps]
theorem C0.all_eq (p:C0→Bool)(s:C0):s.all p=(p s&&(C0.alls p s.Then&&C0.alls p s.Else)):=by cases s; simp only [C0.all]
theorem C0.ind {P:C0→Prop}(h:∀ s:C0,(∀ x∈s.Then,P x)→(∀ x∈s.Else,P x)→P s):∀ s,P s:=by
 intro s
 refine C0.rec (motive_1:=P) (motive_2:=fun l=>∀ x∈l,P x) ?_ ?_ ?_ s
 ·intro v pl va nm ar n lo hi ns th el i1 i2
  exact h _ i1 i2
 ·intro x hx; cases hx
 ·intro x r hx hr y hy
  cases hy with
  | head=>exact hx
  | tail _ hy=>exact hr y hy
theorem C0.inds {Q:List C0→Prop}(h:∀ l:List C0,(∀ x∈l,Q x.Then∧Q x.Else)→Q l):∀ l,Q l:=by
 have key:∀ s:C0,Q s.Then∧Q s.Else:=fun s=>by
  induction s using C0.ind with
  | h s i1 i2=>exact ⟨h _ i1,h _ i2⟩
 exact fun l=>h l fun x _=>key x
theorem C0.bulk_eq (s:C0):s.bulk=s.Place.bulk+s.Value.bulk+s.Name.length+D0.bulks s.Args+(s.Numbers.map fun _=>1).sum+C0.bulks s.Then+C0.bulks s.Else+10:=by
 cases s; simp only [C0.bulk]; omega
theorem V1q:∀ l:List Int,(l.map fun _=>1).sum=l.length
 | []=>rfl
 | x::r=>by simp only [List.map_cons,List.sum_cons,List.length_cons,V1q r]; omega
theorem C0.bulk_mem {s:C0}:∀ {l:List C0},s∈l→s.bulk≤C0.bulks l
 | x::r,h=>by
  simp only [C0.bulks]
  cases h with
  | head=>omega
  | tail _ h=>have:=C0.bulk_mem h; omega
theorem C0.bulk_len:∀ l:List C0,l.length≤C0.bulks l
 | []=>Nat.le_refl _
 | x::r=>by
  simp only [C0.bulks,List.length_cons]
  have:=C0.bulk_len r
  have:=C0.bulk_eq x
  omega
mutual
theorem C0.nds_bulk:∀ s:C0,s.nds≤s.bulk
 | .mk v pl va nm ar n lo hi ns th el=>by
  have:=J1w pl (uPl v)
  have:=J1w va (uVa v)
  have:=D0.nodess_bulk ar
  have:=C0.ndss_bulk th
  have:=C0.ndss_bulk el
  simp only [C0.nds,C0.bulk]; omega
theorem C0.ndss_bulk:∀ l:List C0,C0.ndss l≤C0.bulks l
 | []=>Nat.le_refl _
 | x::r=>by
  have:=C0.nds_bulk x
  have:=C0.ndss_bulk r
  simp only [C0.ndss,C0.bulks]; omega
end
def OkS (l:List C0):Prop:=C0.bulks l≤BB
structure Pq (s:C0):Prop where
 place:OkE s.Place
 value:OkE s.Value
 name:s.Name.length≤BB
 args:s.Args.length≤BB
 arg:∀ a∈s.Args,OkE a
 nums:s.Numbers.length≤BB
 thens:OkS s.Then
 elses:OkS s.Else
theorem OkS.mem {l:List C0}(h:OkS l){s:C0}(hs:s∈l):Pq s:=by
 unfold OkS at h
 have h1:=C0.bulk_mem hs
 have h2:=C0.bulk_eq s
 have h3:=V1q s.Numbers
 have h4:=D0.bulk_len s.Args
 refine ⟨?_,?_,?_,?_,fun a ha=>?_,?_,?_,?_⟩ <;> first | (unfold OkE; omega) | (unfold OkS; omega) | omega | skip
 have:=D0.bulk_kid ha
 unfold OkE; omega
theorem OkS.len {l:List C0}(h:OkS l):l.length≤BB:=Nat.le_trans (C0.bulk_len l) h
def D4 (o:F0)(n m:Nat)(f a u:Bool):F0:=⟨o.nodes+n,max o.depth m,o.badForm || !f,o.badName || !a,o.badNumber || !u⟩
theorem Z3 (o:F0)(n m n' m':Nat)(f a u f' a' u':Bool):D4 (D4 o n m f a u) n' m' f' a' u'=D4 o (n+n') (max m m') (f&&f') (a&&a') (u&&u'):=by
 simp only [D4,Cw]
 rw [show o.nodes+(n:Int)+(n':Int)=o.nodes+((n+n':Nat):Int) by omega,show max (max o.depth (m:Int)) (m':Int)=max o.depth ((max m m':Nat):Int) by omega]
theorem Zn (o:F0)(h:0≤o.depth):D4 o 0 0 true true true=o:=by
 simp only [D4,Bool.not_true,Bool.or_false]
 rw [show o.nodes+((0:Nat):Int)=o.nodes by omega,show max o.depth ((0:Nat):Int)=o.depth by omega]
theorem V1j (o:F0)(n m:Nat)(f a u:Bool):(D4 o n m f a u).nodes=o.nodes+n:=rfl
theorem Ts (o:F0)(n m:Nat)(f a u:Bool):(D4 o n m f a u).depth=max o.depth m:=rfl
theorem U8 (o:F0)(h:0≤o.depth)(b:Bool):Y0 b o=some (D4 o 0 0 b true true):=by
 rw [X1g]
 simp only [D4,Bool.not_true,Bool.or_false]
 rw [show o.nodes+((0:Nat):Int)=o.nodes by omega,show max o.depth ((0:Nat):Int)=o.depth by omega]
theorem Lg (o:F0)(h:0≤o.depth)(b:Bool):X1 b o=some (D4 o 0 0 true true b):=by
 rw [Yx]
 simp only [D4,Bool.not_true,Bool.or_false]
 rw [show o.nodes+((0:Nat):Int)=o.nodes by omega,show max o.depth ((0:Nat):Int)=o.depth by omega]
theorem Q1n (o:F0)(h:0≤o.depth)(s:Str)(hs:s.length≤BB):H4 s o=some (D4 o 0 0 true (J5 s) true):=by
 rw [R16 s hs]
 simp only [D4,Bool.not_true,Bool.or_false]
 rw [show o.nodes+((0:Nat):Int)=o.nodes by omega,show max o.depth ((0:Nat):Int)=o.depth by omega]
structure O4 (o:F0)(n:Nat):Prop where
 dep:0≤o.depth
 low:0≤o.nodes
 high:o.nodes+n≤3 * BB
theorem O4.x {o:F0}{n k m:Nat}{f a u:Bool}(h:O4 o (k+n)):O4 (D4 o k m f a u) n:=by
 obtain ⟨h1,h2,h3⟩:=h
 refine ⟨?_,?_,?_⟩
 ·rw [Ts]; omega
 ·rw [V1j]; omega
 ·rw [V1j]; omega
theorem O4.less {o:F0}{n k:Nat}(h:O4 o n)(hk:k≤n):O4 o k:=⟨h.dep,h.low,by have:=h.high; omega⟩
theorem O4.x0 {o:F0}{n m:Nat}{f a u:Bool}(h:O4 o n):O4 (D4 o 0 m f a u) n:=O4.x (by rw [Nat.zero_add]; exact h)
theorem E1c (e:D0)(h:OkE e)(o:F0)(hr:O4 o e.nodes):I3 e 1 o=some (D4 o e.nodes e.depth (e.all U1) (e.all U5) (e.all T2)):=by
 have hn:=h.nodes
 have hp:1≤e.depth:=by rw [D0.depth_eq]; omega
 have h3:=hr.high
 unfold BB at hn h3
 rw [O1q e h 1 o (by omega) (by unfold BB; omega) hr.low (by unfold BB; omega)]
 simp only [Bg,D4]
 rw [show (1:Int)+((e.depth - 1:Nat):Int)=e.depth by omega]
theorem W1q (t:A0)(h:Ok t)(o:F0)(hr:O4 o t.nodes):S4 t 1 o=some (D4 o t.nodes t.depth (t.all J3) (t.all X7) (t.all Kc)):=by
 have hn:=h.nodes
 have hp:1≤t.depth:=by rw [A0.depth_eq]; omega
 have h3:=hr.high
 unfold BB at hn h3
 rw [R1y t h 1 o (by omega) (by unfold BB; omega) hr.low (by unfold BB; omega)]
 simp only [Bg,D4]
 rw [show (1:Int)+((t.depth - 1:Nat):Int)=t.depth by omega]
theorem X1q:(D0.mk 0 0 [] []).all U1=true∧(D0.mk 0 0 [] []).all U5=true∧(D0.mk 0 0 [] []).all T2=true:=⟨rfl,rfl,rfl⟩
theorem B1h (e:D0)(u:Bool)(h:OkE e)(o:F0)(hr:O4 o (oN e u)):R3 e u o=some (D4 o (oN e u) (oD e u) (oF e u) (e.all U5) (e.all T2)):=by
 unfold R3
 rw [H1w e h]
 show ((if (!u)=true then some (Pj e) else some default)>>=_)=_
 unfold oN oD oF at *
 cases u with
 | true=>
  simp only [Bool.not_true,cond_false,cond_true] at *
  rw [if_neg (by simp),ob,if_neg (by simp),U8 o hr.dep,ob,E1c e h _ hr.x0,ob,Z3]
  simp
 | false=>
  simp only [Bool.not_false,cond_false,cond_true] at *
  rw [if_pos trivial,ob]
  cases hz:Pj e with
  | true=>
   rw [if_pos rfl,K21 hz,X1q.2.1,X1q.2.2]
   exact congrArg some (Zn o hr.dep).symm
  | false=>
   rw [hz] at hr
   rw [if_neg (by simp),U8 o hr.dep,ob,E1c e h _ hr.x0,ob,Z3]
   simp
theorem X1y (o:F0)(h:0≤o.nodes)(h':o.nodes+1≤3 * BB)(d:Nat):J8 (d:Int) ⟨IntKind.i64.wrap (o.nodes+1),o.depth,o.badForm,o.badName,o.badNumber⟩=some (D4 o 1 d true true true):=by
 unfold BB at h'
 rw [W1g,wr (by omega) (by omega)]
 simp only [D4,Bool.not_true,Bool.or_false]
 rfl
theorem R1n (s:C0)(hs:Pq s)(K:F0→Option F0)(F:F0→Int→Option F0)
  (hF:∀ (o:F0) (k:Int),F o k=if decide (k < (s.Args.length:Int))=true then idx s.Args k>>=fun x=>I3 x 1 o>>=fun y=>F y (IntKind.i64.wrap (k+1)) else K o) :
  ∀ (r:List D0) (k:Nat) (o:F0),s.Args.drop k=r→O4 o (D0.nodess r)→F o (k:Int)=K (D4 o (D0.nodess r) (D0.depths r) (D0.alls U1 r) (D0.alls U5 r) (D0.alls T2 r))
 | [],k,o,h,hr=>by
  rw [hF,(A1 h).1,if_neg (by simp)]
  simp only [D0.nodess,D0.depths,D0.alls]
  rw [Zn o hr.dep]
 | x::r,k,o,h,hr=>by
  obtain ⟨e1,e2,e3,e4,e5⟩:=C1 h
  have:=hs.args
  simp only [D0.nodess] at hr
  rw [hF,e1,if_pos rfl,e2,ob,E1c x (hs.arg x e5) o (hr.less (by omega)),ob,w1 (by omega),R1n s hs K F hF r (k+1) _ e3 hr.x,Z3]
  rfl
theorem Y1t (s:C0)(hs:Pq s):∀ (r:List Int) (k:Nat) (last:Int) (o:F0),s.Numbers.drop k=r→0≤o.depth→S3 s o last k=some (D4 o 0 0 true true (Ss last r))
 | [],k,last,o,h,h0=>by rw [S3,(A1 h).1,if_neg (by simp)]; exact congrArg some (Zn o h0).symm
 | x::r,k,last,o,h,h0=>by
  obtain ⟨e1,e2,e3,e4,e5⟩:=C1 h
  have:=hs.nums
  rw [S3,e1,if_pos rfl,e2,ob,Ml,ob,Lg _ h0,ob,w1 (by omega),Y1t s hs r (k+1) x _ e3 (by rw [Ts]; omega),Z3]
  rfl
theorem Y1y (s:C0)(hs:Pq s)(o:F0)(h0:0≤o.depth):C8 s o=some (D4 o 0 0 true true (Yn s)):=by
 unfold C8 Yn
 simp only [Ml]
 cases s.Verb == 4 with
 | true=>rw [if_pos rfl,ob,Lg _ h0,ob]; rfl
 | false=>
  rw [if_neg (by simp)]
  cases s.Verb == 6 with
  | true=>rw [if_pos rfl,ob,Lg _ h0,ob]; rfl
  | false=>
   rw [if_neg (by simp)]
   cases s.Verb == 7 with
   | true=>
    rw [if_pos rfl,ob]
    cases hl:A2 s.Low (-1048576) 1048576 with
    | false=>rw [if_neg (by simp),ob,Lg _ h0,ob]; rfl
    | true=>
     rw [if_pos rfl,ob]
     cases hh:A2 s.High s.Low 1048576 with
     | false=>rw [Lg _ h0,ob]; rfl
     | true=>
      have:IntKind.i64.wrap (s.High - s.Low)=s.High - s.Low:=by
       simp [A2] at hl hh
       exact wr (by omega) (by omega)
      rw [this,Lg _ h0,ob]; rfl
   | false=>
    rw [if_neg (by simp)]
    cases s.Verb == 8 with
    | true=>
     rw [if_pos rfl,ob,Lg _ h0,ob,show (0:Int)=((0:Nat):Int) from rfl,Y1t s hs s.Numbers 0 (-1) _ rfl (by rw [Ts]; omega),Z3]
     simp
    | false=>exact congrArg some (Zn o h0).symm
theorem S1n (l:List C0):OkS l→∀ (d:Nat) (o:F0),d+C0.bulks l≤3 * BB→O4 o (C0.ndss l)→
  K3 l d o=some (D4 o (C0.ndss l) (C0.dpss l d) (C0.alls sform l) (C0.alls Hd l) (C0.alls snumb l)):=by
 induction l using C0.inds with
 | h l ih=>
 intro hl d o hd hr
 have main:∀ (r:List C0) (k:Nat) (o:F0),l.drop k=r→O4 o (C0.ndss r)→K5 l d o k=some (D4 o (C0.ndss r) (C0.dpss r d) (C0.alls sform r) (C0.alls Hd r) (C0.alls snumb r)):=by
  intro r
  induction r with
  | nil=>
   intro k o h hr
   rw [K5,(A1 h).1,if_neg (by simp)]
   exact congrArg some (Zn o hr.dep).symm
  | cons s r ihr=>
   intro k o h hr
   obtain ⟨e1,e2,e3,e4,e5⟩:=C1 h
   have hs:=hl.mem e5
   have hlen:=hl.len
   obtain ⟨i1,i2⟩:=ih s e5
   have hbm:=C0.bulk_mem e5
   have hbe:=C0.bulk_eq s
   simp only [C0.ndss,C0.nds_eq] at hr
   have hhi:=hr.high
   unfold BB at hhi hd
   have hwd:IntKind.i64.wrap ((d:Int)+1)=((d+1:Nat):Int):=by rw [wr (by omega) (by omega)]; rfl
   have tail:∀ o:F0,O4 o (C0.ndss s.Then+C0.ndss s.Else+C0.ndss r)→
     (Y0 (bif (stU s.Verb).1.n then true else (s.NV == 0)) o>>=fun x14=>
      Y0 (bif (stU s.Verb).1.bounds then true else (bif (s.Low == 0) then (s.High == 0) else false)) x14>>=fun x15=>
      Y0 (bif (stU s.Verb).1.numbers then true else (((s.Numbers).length:Int) == 0)) x15>>=fun x16=>
      Y0 (bif (stU s.Verb).1.thenV then true else (((s.Then).length:Int) == 0)) x16>>=fun x17=>
      Y0 (bif (stU s.Verb).1.other then true else (((s.Else).length:Int) == 0)) x17>>=fun x18=>
      C8 s x18>>=fun x19=>
      K3 s.Then (IntKind.i64.wrap ((d:Int)+1)) x19>>=fun x20=>
      K3 s.Else (IntKind.i64.wrap ((d:Int)+1)) x20>>=fun x21=>
      K5 l d x21 (IntKind.i64.wrap ((k:Int)+1)))
     = some (D4 o (C0.ndss s.Then+C0.ndss s.Else+C0.ndss r) (max (C0.dpss s.Then (d+1)) (max (C0.dpss s.Else (d+1)) (C0.dpss r d)))
       ((bif uNn s.Verb then true else s.NV == 0)&&(bif s.Verb == 7 then true else (bif s.Low == 0 then s.High == 0 else false))&&(bif s.Verb == 8 then true else ((s.Numbers.length:Int) == 0))
         && (bif uTh s.Verb then true else ((s.Then.length:Int) == 0))&&(bif s.Verb == 5 then true else ((s.Else.length:Int) == 0))&&C0.alls sform s.Then&&C0.alls sform s.Else&&C0.alls sform r)
       (C0.alls Hd s.Then&&C0.alls Hd s.Else&&C0.alls Hd r) (Yn s&&C0.alls snumb s.Then&&C0.alls snumb s.Else&&C0.alls snumb r)):=by
    intro o hr
    have q1:=hr.x0 (m:=0) (f:=bif (stU s.Verb).1.n then true else (s.NV == 0)) (a:=true) (u:=true)
    have q2:=q1.x0 (m:=0) (f:=bif (stU s.Verb).1.bounds then true else (bif (s.Low == 0) then (s.High == 0) else false)) (a:=true) (u:=true)
    have q3:=q2.x0 (m:=0) (f:=bif (stU s.Verb).1.numbers then true else (((s.Numbers).length:Int) == 0)) (a:=true) (u:=true)
    have q4:=q3.x0 (m:=0) (f:=bif (stU s.Verb).1.thenV then true else (((s.Then).length:Int) == 0)) (a:=true) (u:=true)
    have q5:=q4.x0 (m:=0) (f:=bif (stU s.Verb).1.other then true else (((s.Else).length:Int) == 0)) (a:=true) (u:=true)
    have q6:=q5.x0 (m:=0) (f:=true) (a:=true) (u:=Yn s)
    rw [U8 o hr.dep,ob,U8 _ q1.dep,ob,U8 _ q2.dep,ob,U8 _ q3.dep,ob,U8 _ q4.dep,ob,Y1y s hs _ q5.dep,ob,hwd,
     i1 hs.thens (d+1) _ (by unfold BB; omega) (q6.less (by omega)),ob,i2 hs.elses (d+1) _ (by unfold BB; omega) (O4.x (q6.less (by omega))),ob,w1 (by omega),ihr (k+1) _ e3 (O4.x (O4.x (q6.less (by omega))))]
    simp only [Z3,stU,Bool.true_and,Bool.and_true,Bool.and_assoc,Nat.zero_add,Nat.add_assoc,Nat.zero_max]
    simp only [← Nat.max_assoc]
   have args:=R1n s hs _ (fun o k'=>Da l d o s (stU s.Verb) k k') (fun o k'=>Da.eq_1 l d o s (stU s.Verb) k k') s.Args 0
   rw [show ((0:Nat):Int)=0 from rfl] at args
   have j3:∀ o:F0,O4 o (D0.nodess s.Args+(C0.ndss s.Then+C0.ndss s.Else+C0.ndss r))→C7 l d o s (stU s.Verb) k
     = some (D4 o (D0.nodess s.Args+(C0.ndss s.Then+C0.ndss s.Else+C0.ndss r)) (max (D0.depths s.Args) (max (C0.dpss s.Then (d+1)) (max (C0.dpss s.Else (d+1)) (C0.dpss r d))))
       ((bif s.Verb == 1 then true else ((s.Args.length:Int) == 0))&&(D0.alls U1 s.Args&&((bif uNn s.Verb then true else s.NV == 0)&&(bif s.Verb == 7 then true else (bif s.Low == 0 then s.High == 0 else false))&&(bif s.Verb == 8 then true else ((s.Numbers.length:Int) == 0))
         && (bif uTh s.Verb then true else ((s.Then.length:Int) == 0))&&(bif s.Verb == 5 then true else ((s.Else.length:Int) == 0))&&C0.alls sform s.Then&&C0.alls sform s.Else&&C0.alls sform r)))
       (D0.alls U5 s.Args&&(C0.alls Hd s.Then&&C0.alls Hd s.Else&&C0.alls Hd r)) (D0.alls T2 s.Args&&(Yn s&&C0.alls snumb s.Then&&C0.alls snumb s.Else&&C0.alls snumb r))):=by
    intro o hr
    rw [C7,U8 o hr.dep,ob,args _ rfl (hr.x0.less (by omega)),tail _ (O4.x hr.x0)]
    simp only [Z3,stU,Bool.true_and,Bool.and_assoc,Nat.zero_add,Nat.zero_max]
   have j2:∀ o:F0,O4 o (oN s.Value (uVa s.Verb)+(D0.nodess s.Args+(C0.ndss s.Then+C0.ndss s.Else+C0.ndss r)))→B7 l d o s (stU s.Verb) k
     = (C7 l d (D4 o (oN s.Value (uVa s.Verb)) (oD s.Value (uVa s.Verb)) (oF s.Value (uVa s.Verb)&&(bif uNm s.Verb then true else s.Name == [])) (s.Value.all U5&&(bif uNm s.Verb then J5 s.Name else true)) (s.Value.all T2)) s (stU s.Verb) k):=by
    intro o hr
    have q1:O4 (D4 o (oN s.Value (uVa s.Verb)) (oD s.Value (uVa s.Verb)) (oF s.Value (uVa s.Verb)) (s.Value.all U5) (s.Value.all T2)) 0:=O4.x (hr.less (by omega))
    rw [B7]
    show (R3 s.Value (uVa s.Verb) o>>=_)=_
    rw [B1h s.Value (uVa s.Verb) hs.value o (hr.less (by omega)),ob,U8 _ q1.dep,ob,Q1n _ (q1.x0).dep s.Name hs.name]
    simp only [Z3,stU]
    cases uNm s.Verb with
    | true=>rw [if_pos rfl,ob]; simp
    | false=>rw [if_neg (by simp)]; simp
   rw [K5,e1,if_pos rfl,e2,ob,X1y o hr.low (by unfold BB; omega) d,ob,U1q,ob,U8 _ (show 0≤(D4 o 1 d true true true).depth by rw [Ts]; have:=hr.dep; omega),ob,Z3]
   have hr1:O4 (D4 o (1+0) (max d 0) (true&&(stU s.Verb).2) (true&&true) (true&&true)) (oN s.Place (uPl s.Verb)+(oN s.Value (uVa s.Verb)+(D0.nodess s.Args+(C0.ndss s.Then+C0.ndss s.Else+C0.ndss r)))):=O4.x (hr.less (by omega))
   have hopt:=B1h s.Place (uPl s.Verb) hs.place _ (hr1.less (k:=oN s.Place (uPl s.Verb)) (by omega))
   show (R3 s.Place (uPl s.Verb) _>>=_)=_
   rw [hopt,ob,J1n,Z3]
   have hr2:∀ f,O4 (D4 o (1+0+oN s.Place (uPl s.Verb)) (max (max d 0) (oD s.Place (uPl s.Verb))) f (true&&true&&s.Place.all U5) (true&&true&&s.Place.all T2)) (oN s.Value (uVa s.Verb)+(D0.nodess s.Args+(C0.ndss s.Then+C0.ndss s.Else+C0.ndss r))):=fun f=>O4.x (hr.less (by omega))
   have fin:∀ b:Bool,(bif uPl s.Verb then s.Place.place else true)=b→
     B7 l d (D4 o (1+0+oN s.Place (uPl s.Verb)) (max (max d 0) (oD s.Place (uPl s.Verb))) (true&&(stU s.Verb).2&&oF s.Place (uPl s.Verb)&&b) (true&&true&&s.Place.all U5) (true&&true&&s.Place.all T2)) s (stU s.Verb) k
      = some (D4 o (C0.ndss (s::r)) (C0.dpss (s::r) d) (C0.alls sform (s::r)) (C0.alls Hd (s::r)) (C0.alls snumb (s::r))):=by
    rintro _ rfl
    rw [j2 _ (hr2 _),j3 _ (O4.x (hr2 _)),Z3,Z3]
    simp only [C0.ndss,C0.dpss,C0.alls,C0.nds_eq,C0.dps_eq,C0.all_eq,sform,Hd,snumb,stU,Bool.true_and,Bool.and_assoc,Nat.add_assoc,Nat.max_assoc,Nat.zero_add]
    congr 1
   cases hu:uPl s.Verb with
   | true=>
    rw [hu] at fin hr2
    rw [if_pos (show (stU s.Verb).1.place=true from hu),ob,U8 _ (hr2 _).dep,ob,Z3]
    have:=fin s.Place.place rfl
    simpa using this
   | false=>
    rw [hu] at fin
    rw [if_neg (by rw [show (stU s.Verb).1.place=false from hu]; simp)]
    have:=fin true rfl
    rw [Bool.and_true] at this
    exact this
 rw [K3]
 exact main l 0 o rfl hr
end Go.Proofs.YtdkabnfphmmmnaaGreatDoor

set_option linter.unusedSimpArgs false
set_option linter.unusedVariables false
set_option maxHeartbeats 1000000
namespace Go.Proofs.YtdkabnfphmmmnaaGreatDoor
open Go.Am
def isK (k:Int):Bool:=bif decide (k≥0) then decide (k≤6) else false
def uV2 (k:Int):Bool:=bif k == 5 then true else k == 6
def tN (t:A0)(u:Bool):Nat:=bif (bif !u then Xu t else false) then 0 else t.nodes
def tD (t:A0)(u:Bool):Nat:=bif (bif !u then Xu t else false) then 0 else t.depth
theorem G25 (t:A0)(u:Bool):tN t u≤t.bulk:=by
 unfold tN
 have:=A0.nodes_bulk t
 cases (bif !u then Xu t else false) <;> simp <;> omega
def pOk (x:B0):Bool:=bif x.Kind == 4 then x.Init == 0 else false
def vOk (x:B0):Bool:=x.Kind == 4
def Ew (d:B0):Bool:=bif A2 d.Init (-1048576) 1048576 then (bif d.TypeV.Kind != 0 then true else A2 d.Init 0 1) else false
def M14 (d:B0):Bool:=bif (bif ((d.Params.length:Int) == 0) then ((d.Vars.length:Int) == 0) else false) then ((d.Body.length:Int) == 0) else false
def dform (d:B0):Bool:=
 isK d.Kind&&d.TypeV.all J3&&oF d.Value (uV2 d.Kind)&&(bif d.Kind == 4 then true else d.Init == 0)&&(bif d.Kind == 6 then true else M14 d)&&d.Params.all pOk&&d.Vars.all vOk&&C0.alls sform d.Body
def Sh (d:B0):Bool:=d.TypeV.all X7&&J5 d.Name&&d.Value.all U5&&C0.alls Hd d.Body
def dnumb (d:B0):Bool:=d.TypeV.all Kc&&d.Value.all T2&&Ew d&&C0.alls snumb d.Body
mutual
def B0.nds:B0→Nat
 | .mk k nm t i v ps vs bd=>1+(tN t (isK k)+(oN v (uV2 k)+(B0.ndss ps+(B0.ndss vs+C0.ndss bd))))
def B0.ndss:List B0→Nat
 | []=>0
 | x::r=>B0.nds x+B0.ndss r
end
mutual
def B0.dps:B0→Nat
 | .mk k nm t i v ps vs bd=>max (tD t (isK k)) (max (oD v (uV2 k)) (max (B0.dpss ps) (max (B0.dpss vs) (C0.dpss bd 1))))
def B0.dpss:List B0→Nat
 | []=>0
 | x::r=>max (B0.dps x) (B0.dpss r)
end
mutual
def B0.all (p:B0→Bool):B0→Bool
 | .mk k nm t i v ps vs bd=>p (.mk k nm t i v ps vs bd)&&(B0.alls p ps&&B0.alls p vs)
def B0.alls (p:B0→Bool):List B0→Bool
 | []=>true
 | x::r=>B0.all p x&&B0.alls p r
end
theorem B0.nds_eq (d:B0):d.nds=1+(tN d.TypeV (isK d.Kind)+(oN d.Value (uV2 d.Kind)+(B0.ndss d.Params+(B0.ndss d.Vars+C0.ndss d.Body)))):=by cases d; simp only [B0.nds]
theorem B0.dps_eq (d:B0):d.dps=max (tD d.TypeV (isK d.Kind)) (max (oD d.Value (uV2 d.Kind)) (max (B0.dpss d.Params) (max (B0.dpss d.Vars) (C0.dpss d.Body 1)))):=by cases d; simp only [B0.dps]
theorem B0.all_eq (p:B0→Bool)(d:B0):d.all p=(p d&&(B0.alls p d.Params&&B0.alls p d.Vars)):=by cases d; simp only [B0.all]
theorem B0.ind {P:B0→Prop}(h:∀ d:B0,(∀ x∈d.Params,P x)→(∀ x∈d.Vars,P x)→P d):∀ d,P d:=by
 intro d
 refine B0.rec (motive_1:=P) (motive_2:=fun l=>∀ x∈l,P x) ?_ ?_ ?_ d
 ·intro k nm t i v ps vs bd i1 i2
  exact h _ i1 i2
 ·intro x hx; cases hx
 ·intro x r hx hr y hy
  cases hy with
  | head=>exact hx
  | tail _ hy=>exact hr y hy
theorem B0.inds {Q:List B0→Prop}(h:∀ l:List B0,(∀ x∈l,Q x.Params∧Q x.Vars)→Q l):∀ l,Q l:=by
 have key:∀ s:B0,Q s.Params∧Q s.Vars:=fun s=>by
  induction s using B0.ind with
  | h s i1 i2=>exact ⟨h _ i1,h _ i2⟩
 exact fun l=>h l fun x _=>key x
theorem B0.bulk_eq (d:B0):d.bulk=d.Name.length+d.TypeV.bulk+d.Value.bulk+B0.bulks d.Params+B0.bulks d.Vars+C0.bulks d.Body+7:=by cases d; simp only [B0.bulk]; omega
theorem B0.bulk_mem {s:B0}:∀ {l:List B0},s∈l→s.bulk≤B0.bulks l
 | x::r,h=>by
  simp only [B0.bulks]
  cases h with
  | head=>omega
  | tail _ h=>have:=B0.bulk_mem h; omega
theorem B0.bulk_len:∀ l:List B0,l.length≤B0.bulks l
 | []=>Nat.le_refl _
 | x::r=>by
  simp only [B0.bulks,List.length_cons]
  have:=B0.bulk_len r
  have:=B0.bulk_eq x
  omega
mutual
theorem B0.nds_bulk:∀ d:B0,d.nds≤d.bulk
 | .mk k nm t i v ps vs bd=>by
  have:=G25 t (isK k)
  have:=J1w v (uV2 k)
  have:=B0.ndss_bulk ps
  have:=B0.ndss_bulk vs
  have:=C0.ndss_bulk bd
  simp only [B0.nds,B0.bulk]; omega
theorem B0.ndss_bulk:∀ l:List B0,B0.ndss l≤B0.bulks l
 | []=>Nat.le_refl _
 | x::r=>by
  have:=B0.nds_bulk x
  have:=B0.ndss_bulk r
  simp only [B0.ndss,B0.bulks]; omega
end
def OkD (l:List B0):Prop:=B0.bulks l≤BB
structure P25 (d:B0):Prop where
 type:Ok d.TypeV
 value:OkE d.Value
 name:d.Name.length≤BB
 params:OkD d.Params
 vars:OkD d.Vars
 body:OkS d.Body
theorem OkD.mem {l:List B0}(h:OkD l){d:B0}(hd:d∈l):P25 d:=by
 unfold OkD at h
 have h1:=B0.bulk_mem hd
 have h2:=B0.bulk_eq d
 refine ⟨?_,?_,?_,?_,?_,?_⟩ <;> first | (unfold OkE; omega) | (unfold OkS; omega) | (unfold OkD; omega) | (unfold Ok; omega) | omega
theorem OkD.len {l:List B0}(h:OkD l):l.length≤BB:=Nat.le_trans (B0.bulk_len l) h
theorem T1n:(A0.mk 0 0 0 0 [] [] []).all X7=true∧(A0.mk 0 0 0 0 [] [] []).all Kc=true:=⟨rfl,rfl⟩
theorem Z1l (c:List B0)(hc:c.length≤BB)(q:B0→Bool)(K:F0→Option F0)(F:F0→Int→Option F0)
  (hF:∀ (o:F0) (k:Int),F o k=if decide (k < (c.length:Int))=true then idx c k>>=fun x=>Y0 (q x) o>>=fun y=>F y (IntKind.i64.wrap (k+1)) else K o) :
  ∀ (r:List B0) (k:Nat) (o:F0),c.drop k=r→0≤o.depth→F o (k:Int)=K (D4 o 0 0 (r.all q) true true)
 | [],k,o,h,hr=>by
  rw [hF,(A1 h).1,if_neg (by simp),List.all_nil,Zn o hr]
 | x::r,k,o,h,hr=>by
  obtain ⟨e1,e2,e3,e4,e5⟩:=C1 h
  rw [hF,e1,if_pos rfl,e2,ob,U8 o hr,ob,w1 (by omega),Z1l c hc q K F hF r (k+1) _ e3 (by rw [Ts]; omega),Z3]
  rfl
theorem Z1y (l:List B0):OkD l→∀ (o:F0),O4 o (B0.ndss l)→
  Q5 l o=some (D4 o (B0.ndss l) (B0.dpss l) (B0.alls dform l) (B0.alls Sh l) (B0.alls dnumb l)):=by
 induction l using B0.inds with
 | h l ih=>
 intro hl o hr
 have main:∀ (r:List B0) (k:Nat) (o:F0),l.drop k=r→O4 o (B0.ndss r)→D7 l o k=some (D4 o (B0.ndss r) (B0.dpss r) (B0.alls dform r) (B0.alls Sh r) (B0.alls dnumb r)):=by
  intro r
  induction r with
  | nil=>
   intro k o h hr
   rw [D7,(A1 h).1,if_neg (by simp)]
   exact congrArg some (Zn o hr.dep).symm
  | cons d r ihr=>
   intro k o h hr
   obtain ⟨e1,e2,e3,e4,e5⟩:=C1 h
   have hs:=hl.mem e5
   have hlen:=hl.len
   obtain ⟨i1,i2⟩:=ih d e5
   simp only [B0.ndss,B0.nds_eq] at hr
   have hhi:=hr.high
   have hbB:C0.bulks d.Body≤BB:=hs.body
   have hlow:=hr.low
   unfold BB at hhi
   have l4:=Z1l d.Vars hs.vars.len vOk _ (fun o k'=>Fa l o d k k') (fun o k'=>Fa.eq_1 l o d k k') d.Vars 0
   have l3:=Z1l d.Params hs.params.len pOk _ (fun o k'=>E7 l o d k k') (fun o k'=>E7.eq_1 l o d k k') d.Params 0
   rw [show ((0:Nat):Int)=0 from rfl] at l4 l3
   have tail:∀ o:F0,O4 o (B0.ndss d.Params+(B0.ndss d.Vars+(C0.ndss d.Body+B0.ndss r)))→
     E7 l o d k 0=some (D4 o (B0.ndss d.Params+(B0.ndss d.Vars+(C0.ndss d.Body+B0.ndss r))) (max (B0.dpss d.Params) (max (B0.dpss d.Vars) (max (C0.dpss d.Body 1) (B0.dpss r))))
      (d.Params.all pOk&&(d.Vars.all vOk&&(B0.alls dform d.Params&&(B0.alls dform d.Vars&&(C0.alls sform d.Body&&B0.alls dform r)))))
      (B0.alls Sh d.Params&&(B0.alls Sh d.Vars&&(C0.alls Hd d.Body&&B0.alls Sh r)))
      (B0.alls dnumb d.Params&&(B0.alls dnumb d.Vars&&(C0.alls snumb d.Body&&B0.alls dnumb r)))):=by
    intro o hr
    have q1:=hr.x0 (m:=0) (f:=d.Params.all pOk) (a:=true) (u:=true)
    have q2:=q1.x0 (m:=0) (f:=d.Vars.all vOk) (a:=true) (u:=true)
    rw [l3 o rfl hr.dep,l4 _ rfl q1.dep,i1 hs.params _ (q2.less (by omega)),ob,i2 hs.vars _ (O4.x (q2.less (by omega))),ob,
     show (1:Int)=((1:Nat):Int) from rfl,S1n d.Body hs.body 1 _ (by unfold BB at *; omega) (O4.x (O4.x (q2.less (by omega)))),ob,show ((k:Int)+((1:Nat):Int))=(k:Int)+1 from rfl,w1 (by omega),ihr (k+1) _ e3 (O4.x (O4.x (O4.x (q2.less (by omega)))))]
    simp only [Z3,Bool.true_and,Bool.and_assoc,Nat.zero_add,Nat.zero_max,Nat.add_assoc,Nat.max_assoc]
   have hin:(if ((A2 d.Init (-1048576) 1048576)&&(!(d.TypeV.Kind != 0)))=true then Q3 d.Init 0 1 else some default)=some (bif (A2 d.Init (-1048576) 1048576)&&(!(d.TypeV.Kind != 0)) then A2 d.Init 0 1 else default):=by
    rw [Ml]
    cases ((A2 d.Init (-1048576) 1048576)&&(!(d.TypeV.Kind != 0))) <;> rfl
   have j2:∀ (x2:Bool×Bool) (o:F0),x2=(isK d.Kind,uV2 d.Kind)→O4 o (oN d.Value (uV2 d.Kind)+(B0.ndss d.Params+(B0.ndss d.Vars+(C0.ndss d.Body+B0.ndss r))))→
     Ea l o d x2 k=some (D4 o (oN d.Value (uV2 d.Kind)+(B0.ndss d.Params+(B0.ndss d.Vars+(C0.ndss d.Body+B0.ndss r)))) (max (oD d.Value (uV2 d.Kind)) (max (B0.dpss d.Params) (max (B0.dpss d.Vars) (max (C0.dpss d.Body 1) (B0.dpss r)))))
      (oF d.Value (uV2 d.Kind)&&((bif d.Kind == 4 then true else d.Init == 0)&&((bif d.Kind == 6 then true else M14 d)&&(d.Params.all pOk&&(d.Vars.all vOk&&(B0.alls dform d.Params&&(B0.alls dform d.Vars&&(C0.alls sform d.Body&&B0.alls dform r))))))))
      (J5 d.Name&&(d.Value.all U5&&(B0.alls Sh d.Params&&(B0.alls Sh d.Vars&&(C0.alls Hd d.Body&&B0.alls Sh r)))))
      (d.Value.all T2&&(Ew d&&(B0.alls dnumb d.Params&&(B0.alls dnumb d.Vars&&(C0.alls snumb d.Body&&B0.alls dnumb r)))))):=by
    rintro _ o rfl hr
    have q1:=hr.x0 (m:=0) (f:=true) (a:=J5 d.Name) (u:=true)
    have q2:=O4.x (m:=oD d.Value (uV2 d.Kind)) (f:=oF d.Value (uV2 d.Kind)) (a:=d.Value.all U5) (u:=d.Value.all T2) q1
    have hio:(bif A2 d.Init (-1048576) 1048576 then (bif (d.TypeV.Kind != 0) then true else (bif (A2 d.Init (-1048576) 1048576)&&(!(d.TypeV.Kind != 0)) then A2 d.Init 0 1 else default)) else false)=Ew d:=by
     unfold Ew
     cases A2 d.Init (-1048576) 1048576 <;> cases (d.TypeV.Kind != 0) <;> rfl
    rw [Ea,Q1n o hr.dep d.Name hs.name,ob,B1h d.Value (uV2 d.Kind) hs.value _ (q1.less (by omega)),ob,U8 _ q2.dep,ob,Ml,ob,hin,ob,hio,Lg _ (q2.x0).dep,ob,U8 _ (q2.x0.x0).dep,ob,tail _ (q2.x0.x0.x0)]
    simp only [Z3,Bool.true_and,Bool.and_true,Bool.and_assoc,Nat.zero_add,Nat.add_zero,Nat.zero_max,Nat.max_zero,Nat.add_assoc,Nat.max_assoc,M14]
   have hwn:(F0.mk (IntKind.i64.wrap (o.nodes+1)) o.depth o.badForm o.badName o.badNumber)=D4 o 1 0 true true true:=by
    rw [wr (by omega) (by omega)]
    simp only [D4,Bool.not_true,Bool.or_false]
    have:=hr.dep
    rw [show max o.depth ((0:Nat):Int)=o.depth by omega]
    rfl
   have q1:O4 (D4 o 1 0 true true true) (tN d.TypeV (isK d.Kind)+(oN d.Value (uV2 d.Kind)+(B0.ndss d.Params+(B0.ndss d.Vars+(C0.ndss d.Body+B0.ndss r))))):=O4.x (hr.less (by omega))
   have q2:=q1.x0 (m:=0) (f:=isK d.Kind) (a:=true) (u:=true)
   rw [D7,e1,if_pos rfl,e2,ob,show Rm d.Kind=some (isK d.Kind,uV2 d.Kind) from rfl,ob]
   show (Y0 (isK d.Kind) _>>=_)=_
   rw [hwn,U8 _ q1.dep,ob,G1w d.TypeV hs.type]
   show ((if (!(isK d.Kind))=true then some (Xu d.TypeV) else some default)>>=_)=_
   cases hk:isK d.Kind with
   | true=>
    rw [hk] at q2
    have q3:=q2
    unfold tN at q3
    simp only [Bool.not_true,cond_false] at q3
    rw [if_neg (by simp),ob]
    rw [if_pos (show (bif (true,uV2 d.Kind).1 then true else !default)=true from rfl),W1q d.TypeV hs.type _ (q3.less (by omega)),ob,j2 _ _ (by rw [hk]) (O4.x q3)]
    simp only [Z3,B0.ndss,B0.dpss,B0.alls,B0.nds_eq,B0.dps_eq,B0.all_eq,dform,Sh,dnumb,hk,tN,tD,Bool.not_true,cond_false,Bool.true_and,Bool.and_assoc,Nat.add_assoc,Nat.max_assoc,Nat.zero_max,Nat.zero_add]
    congr 1
    simp only [D4]
    congr 1
    all_goals first
     | (congr 1; congr 1; ac_rfl)
     | (congr 1; congr 1)
     | skip
   | false=>
    rw [hk] at q2
    rw [if_pos (show (!false)=true from rfl),ob]
    show (if (!(Xu d.TypeV))=true then _ else _)=_
    cases hz:Xu d.TypeV with
    | true=>
     unfold tN at q2
     rw [hz] at q2
     simp only [Bool.not_false,cond_true,Nat.zero_add] at q2
     rw [if_neg (by simp),j2 _ _ (by rw [hk]) q2]
     have hzt:=L21 hz
     simp only [Z3,B0.ndss,B0.dpss,B0.alls,B0.nds_eq,B0.dps_eq,B0.all_eq,dform,Sh,dnumb,hk,tN,tD,hz,Bool.not_false,cond_true,Bool.true_and,Bool.false_and,Bool.and_assoc,Nat.add_assoc,Nat.max_assoc,Nat.zero_max,Nat.zero_add]
     rw [hzt,T1n.1,T1n.2]
     simp only [Bool.true_and]
     congr 1
     simp only [D4]
     congr 1
     all_goals first
      | (congr 1; congr 1; ac_rfl)
      | (congr 1; congr 1)
      | skip
    | false=>
     have q3:=q2
     unfold tN at q3
     rw [hz] at q3
     simp only [Bool.not_false,cond_false,cond_true] at q3
     rw [if_pos (by simp),W1q d.TypeV hs.type _ (q3.less (by omega)),ob,j2 _ _ (by rw [hk]) (O4.x q3)]
     simp only [Z3,B0.ndss,B0.dpss,B0.alls,B0.nds_eq,B0.dps_eq,B0.all_eq,dform,Sh,dnumb,hk,tN,tD,hz,Bool.not_false,cond_true,cond_false,Bool.true_and,Bool.false_and,Bool.and_assoc,Nat.add_assoc,Nat.max_assoc,Nat.zero_max,Nat.zero_add]
     congr 1
     simp only [D4]
     congr 1
     all_goals first
      | (congr 1; congr 1; ac_rfl)
      | (congr 1; congr 1)
      | skip
 rw [Q5]
 exact main l 0 o rfl hr
structure OkP (p:I0):Prop where
 decls:OkD p.Decls
 body:OkS p.Body
def W1j (p:I0):Nat:=B0.ndss p.Decls+C0.ndss p.Body
def X1j (p:I0):Nat:=max (B0.dpss p.Decls) (C0.dpss p.Body 1)
def Us (p:I0):Int:=
 Wc (W1j p) (X1j p) (!(B0.alls dform p.Decls&&C0.alls sform p.Body)) (!(B0.alls Sh p.Decls&&C0.alls Hd p.Body)) (!(B0.alls dnumb p.Decls&&C0.alls snumb p.Body))
theorem K1w (p:I0)(h:OkP p):Zj p=some (D4 ⟨0,0,false,false,false⟩ (W1j p) (X1j p) (B0.alls dform p.Decls&&C0.alls sform p.Body) (B0.alls Sh p.Decls&&C0.alls Hd p.Body) (B0.alls dnumb p.Decls&&C0.alls snumb p.Body)):=by
 have h1:=B0.ndss_bulk p.Decls
 have h2:=C0.ndss_bulk p.Body
 have h3:B0.bulks p.Decls≤BB:=h.decls
 have h4:C0.bulks p.Body≤BB:=h.body
 have hr:O4 ⟨0,0,false,false,false⟩ (B0.ndss p.Decls+C0.ndss p.Body):=⟨Int.le_refl _,Int.le_refl _,by simp only; omega⟩
 unfold Zj
 rw [Z1y p.Decls h.decls _ (hr.less (by omega)),ob,show (1:Int)=((1:Nat):Int) from rfl,S1n p.Body h.body 1 _ (by unfold BB at *; omega) (O4.x hr),ob,Z3]
 rfl
theorem A1z (n m:Nat)(f a u:Bool):F6 (D4 ⟨0,0,false,false,false⟩ n m f a u)=some (Wc n m (!f) (!a) (!u)):=by
 rw [Y1g]
 simp only [D4,Bool.false_or]
 rw [show (0:Int)+(n:Int)=n by omega,show max (0:Int) (m:Int)=m by omega]
theorem M21 (p:I0)(h:OkP p):Jn p=some (Us p):=by
 unfold Jn
 rw [K1w p h,ob,A1z,ob]
 rfl
end Go.Proofs.YtdkabnfphmmmnaaGreatDoor

set_option linter.unusedSimpArgs false
set_option linter.unusedVariables false
set_option maxHeartbeats 1000000
namespace Go.Proofs.YtdkabnfphmmmnaaGreatDoor
open Go.Am
theorem ifs {b c:Bool}{X:Option Bool}{y:Bool}(h:b = !c)(hx:X=some y):(if b=true then some false else X)=some (c&&y):=by
 subst h
 rw [hx]
 cases c <;> rfl
theorem ifd (c a:Bool):(if c=true then some a else some default)=some (bif c then a else default):=by cases c <;> rfl
theorem rUP (v:Int):Ye v=some (uPl v):=rfl
theorem rUV (v:Int):Ze v=some (uVa v):=rfl
theorem rUN (v:Int):Hk v=some (uNm v):=rfl
theorem Q25 (v:Int):Uu v=some (uNn v):=rfl
theorem rUT (v:Int):Oo v=some (uTh v):=rfl
theorem rDT (k:Int):Fk k=some (isK k):=rfl
theorem rDV (k:Int):Xe k=some (uV2 k):=rfl
def szX (s:V0)(n m:Nat):V0:=⟨s.nodes+n,max s.depth m⟩
theorem N11 (s:V0)(n m n' m':Nat):szX (szX s n m) n' m'=szX s (n+n') (max m m'):=by
 simp only [szX]
 rw [show s.nodes+(n:Int)+(n':Int)=s.nodes+((n+n':Nat):Int) by omega,show max (max s.depth (m:Int)) (m':Int)=max s.depth ((max m m':Nat):Int) by omega]
structure Y6 (s:V0)(n:Nat):Prop where
 dep:0≤s.depth
 low:0≤s.nodes
 high:s.nodes+n≤3 * BB
theorem Y6.x {s:V0}{n k m:Nat}(h:Y6 s (k+n)):Y6 (szX s k m) n:=by
 obtain ⟨h1,h2,h3⟩:=h
 refine ⟨?_,?_,?_⟩ <;> simp only [szX] <;> omega
theorem Y6.less {s:V0}{n k:Nat}(h:Y6 s n)(hk:k≤n):Y6 s k:=⟨h.dep,h.low,by have:=h.high; omega⟩
theorem Xz (s:V0)(h:0≤s.depth):szX s 0 0=s:=by
 simp only [szX]
 rw [show s.nodes+((0:Nat):Int)=s.nodes by omega,show max s.depth ((0:Nat):Int)=s.depth by omega]
theorem S16 (s:V0)(e:D0)(u:Bool)(h:OkE e)(hr:Y6 s (oN e u)):V5 s e u=some (szX s (oN e u) (oD e u)):=by
 have hn:=h.nodes
 have hh:=hr.high
 have hl:=hr.low
 unfold V5
 rw [M11 e h,ifd,ob,T1j e h,U1j e h]
 unfold oN oD at *
 cases u with
 | true=>
  simp only [Bool.not_true,cond_false] at *
  unfold BB at hh hn
  rw [if_neg (by simp),ob,ob,Yq,ob,wr (n:=s.nodes+(e.nodes:Int)) (by omega) (by omega)]
  rfl
 | false=>
  simp only [Bool.not_false,cond_true] at *
  cases hz:Pj e with
  | true=>rw [if_pos rfl]; exact congrArg some (Xz s hr.dep).symm
  | false=>
   rw [hz] at hh
   simp only [cond_false] at hh
   unfold BB at hh hn
   rw [if_neg (by simp),ob,ob,Yq,ob,wr (n:=s.nodes+(e.nodes:Int)) (by omega) (by omega)]
   rfl
theorem N21 (s:V0)(t:A0)(u:Bool)(h:Ok t)(hr:Y6 s (tN t u)):Zc s t u=some (szX s (tN t u) (tD t u)):=by
 have hn:=h.nodes
 have hh:=hr.high
 have hl:=hr.low
 unfold Zc
 rw [W1y t h,ifd,ob,E1n t h,F1n t h]
 unfold tN tD at *
 cases u with
 | true=>
  simp only [Bool.not_true,cond_false] at *
  unfold BB at hh hn
  rw [if_neg (by simp),ob,ob,Yq,ob,wr (n:=s.nodes+(t.nodes:Int)) (by omega) (by omega)]
  rfl
 | false=>
  simp only [Bool.not_false,cond_true] at *
  cases hz:Xu t with
  | true=>rw [if_pos rfl]; exact congrArg some (Xz s hr.dep).symm
  | false=>
   rw [hz] at hh
   simp only [cond_false] at hh
   unfold BB at hh hn
   rw [if_neg (by simp),ob,ob,Yq,ob,wr (n:=s.nodes+(t.nodes:Int)) (by omega) (by omega)]
   rfl
theorem S24 (s:V0)(hr:Y6 s 1)(d:Nat):S5 ⟨IntKind.i64.wrap (s.nodes+1),s.depth⟩ (d:Int)=some (szX s 1 d):=by
 have hh:=hr.high
 have hl:=hr.low
 unfold BB at hh
 rw [Yq,wr (n:=s.nodes+1) (by omega) (by omega)]
 rfl
theorem A1m (e:D0):oN e true=e.nodes∧oD e true=e.depth:=⟨rfl,rfl⟩
theorem U1n (s:C0)(hs:Pq s)(K:V0→Option V0)(F:V0→Int→Option V0)
  (hF:∀ (o:V0) (k:Int),F o k=if decide (k < (s.Args.length:Int))=true then idx s.Args k>>=fun x=>V5 o x true>>=fun y=>F y (IntKind.i64.wrap (k+1)) else K o) :
  ∀ (r:List D0) (k:Nat) (o:V0),s.Args.drop k=r→Y6 o (D0.nodess r)→F o (k:Int)=K (szX o (D0.nodess r) (D0.depths r))
 | [],k,o,h,hr=>by
  rw [hF,(A1 h).1,if_neg (by simp)]
  simp only [D0.nodess,D0.depths]
  rw [Xz o hr.dep]
 | x::r,k,o,h,hr=>by
  obtain ⟨e1,e2,e3,e4,e5⟩:=C1 h
  have:=hs.args
  simp only [D0.nodess] at hr
  rw [hF,e1,if_pos rfl,e2,ob,S16 o x true (hs.arg x e5) (hr.less (by rw [(A1m x).1]; omega)),ob,(A1m x).1,(A1m x).2,w1 (by omega),U1n s hs K F hF r (k+1) _ e3 hr.x,N11]
  rfl
theorem F1c (l:List C0):OkS l→∀ (d:Nat) (o:V0),d+C0.bulks l≤3 * BB→Y6 o (C0.ndss l)→E9 o l d=some (szX o (C0.ndss l) (C0.dpss l d)):=by
 induction l using C0.inds with
 | h l ih=>
 intro hl d o hd hr
 have main:∀ (r:List C0) (k:Nat) (o:V0),l.drop k=r→Y6 o (C0.ndss r)→Sc l d o k=some (szX o (C0.ndss r) (C0.dpss r d)):=by
  intro r
  induction r with
  | nil=>
   intro k o h hr
   rw [Sc,(A1 h).1,if_neg (by simp)]
   exact congrArg some (Xz o hr.dep).symm
  | cons s r ihr=>
   intro k o h hr
   obtain ⟨e1,e2,e3,e4,e5⟩:=C1 h
   have hs:=hl.mem e5
   have hlen:=hl.len
   obtain ⟨i1,i2⟩:=ih s e5
   have hbm:=C0.bulk_mem e5
   have hbe:=C0.bulk_eq s
   simp only [C0.ndss,C0.nds_eq] at hr
   unfold BB at hd
   have hwd:IntKind.i64.wrap ((d:Int)+1)=((d+1:Nat):Int):=by rw [wr (by omega) (by omega)]; rfl
   have args:=U1n s hs _ (fun o k'=>Qf l d o s k k') (fun o k'=>Qf.eq_1 l d o s k k') s.Args 0
   rw [show ((0:Nat):Int)=0 from rfl] at args
   have q1:Y6 (szX o 1 d) (oN s.Place (uPl s.Verb)+(oN s.Value (uVa s.Verb)+(D0.nodess s.Args+(C0.ndss s.Then+(C0.ndss s.Else+C0.ndss r))))):=Y6.x (hr.less (by omega))
   have q2:=Y6.x (m:=oD s.Place (uPl s.Verb)) q1
   have q3:=Y6.x (m:=oD s.Value (uVa s.Verb)) q2
   have q4:=Y6.x (m:=D0.depths s.Args) q3
   have q5:=Y6.x (m:=C0.dpss s.Then (d+1)) q4
   have q6:=Y6.x (m:=C0.dpss s.Else (d+1)) q5
   rw [Sc,e1,if_pos rfl,e2,ob,S24 o (hr.less (by omega)) d,ob,rUP,ob,S16 _ s.Place _ hs.place (q1.less (by omega)),ob,rUV,ob,S16 _ s.Value _ hs.value (q2.less (by omega)),ob,
    args _ rfl (q3.less (by omega)),hwd,i1 hs.thens (d+1) _ (by unfold BB; omega) (q4.less (by omega)),ob,i2 hs.elses (d+1) _ (by unfold BB; omega) (q5.less (by omega)),ob,w1 (by omega),ihr (k+1) _ e3 q6]
   simp only [N11,C0.ndss,C0.dpss,C0.nds_eq,C0.dps_eq,Nat.add_assoc,Nat.max_assoc]
 rw [E9]
 exact main l 0 o rfl hr
theorem Y1q (l:List B0):OkD l→∀ (o:V0),Y6 o (B0.ndss l)→Cb o l=some (szX o (B0.ndss l) (B0.dpss l)):=by
 induction l using B0.inds with
 | h l ih=>
 intro hl o hr
 have main:∀ (r:List B0) (k:Nat) (o:V0),l.drop k=r→Y6 o (B0.ndss r)→Tc l o k=some (szX o (B0.ndss r) (B0.dpss r)):=by
  intro r
  induction r with
  | nil=>
   intro k o h hr
   rw [Tc,(A1 h).1,if_neg (by simp)]
   exact congrArg some (Xz o hr.dep).symm
  | cons s r ihr=>
   intro k o h hr
   obtain ⟨e1,e2,e3,e4,e5⟩:=C1 h
   have hs:=hl.mem e5
   have hlen:=hl.len
   obtain ⟨i1,i2⟩:=ih s e5
   have hbB:C0.bulks s.Body≤BB:=hs.body
   simp only [B0.ndss,B0.nds_eq] at hr
   have hh:=hr.high
   have hlo:=hr.low
   have hw:(V0.mk (IntKind.i64.wrap (o.nodes+1)) o.depth)=szX o 1 0:=by
    unfold BB at hh
    rw [wr (by omega) (by omega)]
    have:=hr.dep
    simp only [szX]
    rw [show max o.depth ((0:Nat):Int)=o.depth by omega]
    rfl
   have q1:Y6 (szX o 1 0) (tN s.TypeV (isK s.Kind)+(oN s.Value (uV2 s.Kind)+(B0.ndss s.Params+(B0.ndss s.Vars+(C0.ndss s.Body+B0.ndss r))))):=Y6.x (hr.less (by omega))
   have q2:=Y6.x (m:=tD s.TypeV (isK s.Kind)) q1
   have q3:=Y6.x (m:=oD s.Value (uV2 s.Kind)) q2
   have q4:=Y6.x (m:=B0.dpss s.Params) q3
   have q5:=Y6.x (m:=B0.dpss s.Vars) q4
   have q6:=Y6.x (m:=C0.dpss s.Body 1) q5
   rw [Tc,e1,if_pos rfl,e2,ob,rDT,ob,hw,N21 _ s.TypeV _ hs.type (q1.less (by omega)),ob,rDV,ob,S16 _ s.Value _ hs.value (q2.less (by omega)),ob,i1 hs.params _ (q3.less (by omega)),ob,i2 hs.vars _ (q4.less (by omega)),ob,
    show (1:Int)=((1:Nat):Int) from rfl,F1c s.Body hs.body 1 _ (by unfold BB at *; omega) (q5.less (by omega)),ob,show ((k:Int)+((1:Nat):Int))=(k:Int)+1 from rfl,w1 (by omega),ihr (k+1) _ e3 q6]
   simp only [N11,B0.ndss,B0.dpss,B0.nds_eq,B0.dps_eq,Nat.add_assoc,Nat.max_assoc,Nat.zero_max]
 rw [Cb]
 exact main l 0 o rfl hr
theorem L1w (s:C0)(hs:Pq s)(p:D0→Bool)(g:D0→Option Bool)(hg:∀ x∈s.Args,g x=some (x.all p))(K:Option Bool)(F:Int→Option Bool)(y:Bool)(hK:K=some y)
  (hF:∀ k:Int,F k=if decide (k < (s.Args.length:Int))=true then idx s.Args k>>=fun x=>g x>>=fun b=>if (!b)=true then some false else F (IntKind.i64.wrap (k+1)) else K) :
  ∀ (r:List D0) (k:Nat),s.Args.drop k=r→F (k:Int)=some (D0.alls p r&&y)
 | [],k,h=>by rw [hF,(A1 h).1,if_neg (by simp),hK]; rfl
 | x::r,k,h=>by
  obtain ⟨e1,e2,e3,e4,e5⟩:=C1 h
  have:=hs.args
  rw [hF,e1,if_pos rfl,e2,ob,hg x e5,ob,w1 (by omega),L1w s hs p g hg K F y hK hF r (k+1) e3,D0.alls]
  cases x.all p <;> simp
theorem T17 (l:List C0):OkS l→T7 l=some (C0.alls sform l):=by
 induction l using C0.inds with
 | h l ih=>
 intro hl
 have main:∀ (r:List C0) (k:Nat),l.drop k=r→Db l k=some (C0.alls sform r):=by
  intro r
  induction r with
  | nil=>intro k h; rw [Db,(A1 h).1,if_neg (by simp)]; rfl
  | cons s r ihr=>
   intro k h
   obtain ⟨e1,e2,e3,e4,e5⟩:=C1 h
   have hs:=hl.mem e5
   have hlen:=hl.len
   obtain ⟨i1,i2⟩:=ih s e5
   have l2:=L1w s hs U1 K4 (fun x hx=>Dw x (hs.arg x hx)) _ (fun k'=>Me l s k k') (C0.alls sform s.Then&&C0.alls sform s.Else&&C0.alls sform r)
    (by
     rw [i1 hs.thens,ob,i2 hs.elses,ifd,ob,w1 (by omega),ihr (k+1) e3]
     cases C0.alls sform s.Then <;> cases C0.alls sform s.Else <;> simp)
    (fun k'=>Me.eq_1 l s k k') s.Args 0 rfl
   rw [show ((0:Nat):Int)=0 from rfl] at l2
   rw [Db,e1,if_pos rfl,e2,ob]
   simp only [rUP,rUV,rUN,Q25,rUT,K1n,Dw _ hs.place,Dw _ hs.value,M11 _ hs.place,M11 _ hs.value,ifd,ob]
   have:=ifs (b:=bif decide (s.Verb < 0) then true else decide (s.Verb > 8)) (c:=okV s.Verb) (by unfold okV; rw [Bool.not_not])
    (ifs (c:=oF s.Place (uPl s.Verb)&&(bif uPl s.Verb then s.Place.place else true)) (b:=bif (bif uPl s.Verb then (bif (!(bif uPl s.Verb then s.Place.place else default)) then true else (!(bif (uPl s.Verb&&(!(!(bif uPl s.Verb then s.Place.place else default)))) then s.Place.all U1 else default))) else false) then true else (bif (!(bif (!(bif uPl s.Verb then (bif (!(bif uPl s.Verb then s.Place.place else default)) then true else (!(bif (uPl s.Verb&&(!(!(bif uPl s.Verb then s.Place.place else default)))) then s.Place.all U1 else default))) else false)) then uPl s.Verb else default)) then (!(bif ((!(bif uPl s.Verb then (bif (!(bif uPl s.Verb then s.Place.place else default)) then true else (!(bif (uPl s.Verb&&(!(!(bif uPl s.Verb then s.Place.place else default)))) then s.Place.all U1 else default))) else false))&&(!(bif (!(bif uPl s.Verb then (bif (!(bif uPl s.Verb then s.Place.place else default)) then true else (!(bif (uPl s.Verb&&(!(!(bif uPl s.Verb then s.Place.place else default)))) then s.Place.all U1 else default))) else false)) then uPl s.Verb else default))) then Pj s.Place else default)) else false))
     (by unfold oF; cases uPl s.Verb <;> cases s.Place.place <;> cases s.Place.all U1 <;> cases Pj s.Place <;> rfl)
    (ifs (c:=oF s.Value (uVa s.Verb)) (b:=bif (bif uVa s.Verb then (!(bif uVa s.Verb then s.Value.all U1 else default)) else false) then true else (bif (!(bif (!(bif uVa s.Verb then (!(bif uVa s.Verb then s.Value.all U1 else default)) else false)) then uVa s.Verb else default)) then (!(bif ((!(bif uVa s.Verb then (!(bif uVa s.Verb then s.Value.all U1 else default)) else false))&&(!(bif (!(bif uVa s.Verb then (!(bif uVa s.Verb then s.Value.all U1 else default)) else false)) then uVa s.Verb else default))) then Pj s.Value else default)) else false))
     (by unfold oF; cases uVa s.Verb <;> cases s.Value.all U1 <;> cases Pj s.Value <;> rfl)
    (ifs (c:=(bif uNm s.Verb then true else s.Name == [])&&(bif s.Verb == 1 then true else ((s.Args.length:Int) == 0))&&(bif uNn s.Verb then true else s.NV == 0)&&(bif s.Verb == 7 then true else (bif s.Low == 0 then s.High == 0 else false))&&(bif s.Verb == 8 then true else ((s.Numbers.length:Int) == 0)))
     (b:=bif (bif (bif (bif (bif (!(uNm s.Verb)) then (!(s.Name == [])) else false) then true else (bif (s.Verb != 1) then (((s.Args).length:Int) != 0) else false)) then true else (bif (!(bif (!(bif (bif (!(uNm s.Verb)) then (!(s.Name == [])) else false) then true else (bif (s.Verb != 1) then (((s.Args).length:Int) != 0) else false))) then uNn s.Verb else default)) then (s.NV != 0) else false)) then true else (bif (s.Verb != 7) then (bif (s.Low != 0) then true else (s.High != 0)) else false)) then true else (bif (s.Verb != 8) then (((s.Numbers).length:Int) != 0) else false))
     (by
      unfold bne
      generalize (s.Verb == 1)=a1; generalize (s.Verb == 7)=a2; generalize (s.Verb == 8)=a3; generalize (s.Name == [])=a4; generalize ((s.Args.length:Int) == 0)=a5; generalize (s.NV == 0)=a6; generalize (s.Low == 0)=a7; generalize (s.High == 0)=a8
      generalize ((s.Numbers.length:Int) == 0)=a9; generalize uNm s.Verb=b1; generalize uNn s.Verb=b2
      cases b1 <;> cases a4 <;> cases a1 <;> cases a5 <;> cases b2 <;> cases a6 <;> first | rfl | (cases a2 <;> cases a7 <;> cases a8 <;> cases a3 <;> cases a9 <;> rfl))
    (ifs (c:=(bif uTh s.Verb then true else ((s.Then.length:Int) == 0))&&(bif s.Verb == 5 then true else ((s.Else.length:Int) == 0))) (b:=bif (bif (!(uTh s.Verb)) then (((s.Then).length:Int) != 0) else false) then true else (bif (s.Verb != 5) then (((s.Else).length:Int) != 0) else false))
     (by
      unfold bne
      generalize (s.Verb == 5)=a1; generalize ((s.Then.length:Int) == 0)=a2; generalize ((s.Else.length:Int) == 0)=a3
      generalize uTh s.Verb=a0
      cases a0 <;> cases a1 <;> cases a2 <;> cases a3 <;> rfl) l2))))
   refine this.trans ?_
   simp only [C0.alls,C0.all_eq,sform,Bool.and_assoc]
   congr 1
   generalize D0.alls U1 s.Args=x
   generalize (bif s.Verb == 1 then true else ((s.Args.length:Int) == 0))=y
   ac_rfl
 rw [T7]
 exact main l 0 rfl
end Go.Proofs.YtdkabnfphmmmnaaGreatDoor

set_option linter.unusedSimpArgs false
set_option linter.unusedVariables false
set_option maxHeartbeats 1000000
namespace Go.Proofs.YtdkabnfphmmmnaaGreatDoor
open Go.Am
theorem Z1q (c:List B0)(hc:c.length≤BB)(q:B0→Bool)(K:Option Bool)(F:Int→Option Bool)(y:Bool)(hK:K=some y)
  (hF:∀ (r:List B0) (k:Nat) (x:B0),c.drop k=x::r→F (k:Int)=if q x=true then F (IntKind.i64.wrap ((k:Int)+1)) else some false) (hE:∀ k:Nat,c.drop k=[]→F (k:Int)=K) :
  ∀ (r:List B0) (k:Nat),c.drop k=r→F (k:Int)=some (r.all q&&y)
 | [],k,h=>by rw [hE k h,hK]; rfl
 | x::r,k,h=>by
  obtain ⟨e1,e2,e3,e4,e5⟩:=C1 h
  rw [hF r k x h,w1 (by omega),Z1q c hc q K F y hK hF hE r (k+1) e3,List.all_cons]
  cases q x <;> simp
theorem J1o (l:List B0):OkD l→X9 l=some (B0.alls dform l):=by
 induction l using B0.inds with
 | h l ih=>
 intro hl
 have main:∀ (r:List B0) (k:Nat),l.drop k=r→Eb l k=some (B0.alls dform r):=by
  intro r
  induction r with
  | nil=>intro k h; rw [Eb,(A1 h).1,if_neg (by simp)]; rfl
  | cons d r ihr=>
   intro k h
   obtain ⟨e1,e2,e3,e4,e5⟩:=C1 h
   have hs:=hl.mem e5
   have hlen:=hl.len
   obtain ⟨i1,i2⟩:=ih d e5
   have l3:=Z1q d.Vars hs.vars.len vOk _ (fun k'=>K6 l d k k') (B0.alls dform d.Params&&B0.alls dform d.Vars&&C0.alls sform d.Body&&B0.alls dform r) rfl
    (fun r' k' x hx=>by
     obtain ⟨f1,f2,f3,f4,f5⟩:=C1 hx
     show K6 l d k k'=_
     rw [K6,f1,if_pos rfl,f2,ob]
     unfold vOk bne
     cases (x.Kind == 4) <;> rfl)
    (fun k' hx=>by
     show K6 l d k k'=_
     rw [K6,(A1 hx).1,if_neg (by simp),i1 hs.params,ob,i2 hs.vars,ifd,ob,T17 d.Body hs.body,ifd,ob,w1 (by omega),ihr (k+1) e3]
     cases B0.alls dform d.Params <;> cases B0.alls dform d.Vars <;> cases C0.alls sform d.Body <;> simp) d.Vars 0 rfl
   have l2:=Z1q d.Params hs.params.len pOk _ (fun k'=>J6 l d k k') (d.Vars.all vOk&&(B0.alls dform d.Params&&B0.alls dform d.Vars&&C0.alls sform d.Body&&B0.alls dform r)) rfl
    (fun r' k' x hx=>by
     obtain ⟨f1,f2,f3,f4,f5⟩:=C1 hx
     show J6 l d k k'=_
     rw [J6,f1,if_pos rfl,f2,ob]
     unfold pOk bne
     cases (x.Kind == 4)
     ·rfl
     ·simp only [Bool.not_true,Bool.not_false,if_true,ob,cond_true,cond_false]
      cases (x.Init == 0) <;> rfl)
    (fun k' hx=>by
     show J6 l d k k'=_
     rw [J6,(A1 hx).1,if_neg (by simp)]
     exact l3) d.Params 0 rfl
   rw [show ((0:Nat):Int)=0 from rfl] at l2
   rw [Eb,e1,if_pos rfl,e2,ob]
   simp only [rDT,rDV,N1q _ hs.type,Dw _ hs.value,M11 _ hs.value,ifd,ob]
   have:=ifs (b:=bif (!(isK d.Kind)) then true else (!(bif (!(!(isK d.Kind))) then d.TypeV.all J3 else default))) (c:=isK d.Kind&&d.TypeV.all J3) (by cases isK d.Kind <;> cases d.TypeV.all J3 <;> rfl)
    (ifs (c:=oF d.Value (uV2 d.Kind)&&(bif d.Kind == 4 then true else d.Init == 0)) (b:=bif (bif (bif uV2 d.Kind then (!(bif uV2 d.Kind then d.Value.all U1 else default)) else false) then true else (bif (!(bif (!(bif uV2 d.Kind then (!(bif uV2 d.Kind then d.Value.all U1 else default)) else false)) then uV2 d.Kind else default)) then (!(bif ((!(bif uV2 d.Kind then (!(bif uV2 d.Kind then d.Value.all U1 else default)) else false))&&(!(bif (!(bif uV2 d.Kind then (!(bif uV2 d.Kind then d.Value.all U1 else default)) else false)) then uV2 d.Kind else default))) then Pj d.Value else default)) else false)) then true else (bif (d.Kind != 4) then (d.Init != 0) else false))
     (by
      unfold oF bne
      generalize (d.Kind == 4)=a1
      generalize (d.Init == 0)=a2
      generalize uV2 d.Kind=a3
      cases a3 <;> cases d.Value.all U1 <;> cases Pj d.Value <;> cases a1 <;> cases a2 <;> rfl)
    (ifs (c:=bif d.Kind == 6 then true else M14 d) (b:=bif (d.Kind != 6) then (bif (bif (((d.Params).length:Int) != 0) then true else (((d.Vars).length:Int) != 0)) then true else (((d.Body).length:Int) != 0)) else false)
     (by
      unfold M14 bne
      cases (d.Kind == 6) <;> cases ((d.Params.length:Int) == 0) <;> cases ((d.Vars.length:Int) == 0) <;> cases ((d.Body.length:Int) == 0) <;> rfl) l2))
   refine this.trans ?_
   simp only [B0.alls,B0.all_eq,dform,Bool.and_assoc]
   congr 1
   ac_rfl
 rw [X9]
 exact main l 0 rfl
theorem B1z (s:C0)(hs:Pq s)(p:D0→Bool)(g:D0→Option Bool)(hg:∀ x∈s.Args,g x=some (x.all p))(K:Option Bool)(F:Int→Option Bool)(y:Bool)(hK:K=some y)
  (hF:∀ k:Int,F k=if decide (k < (s.Args.length:Int))=true then idx s.Args k>>=fun x=>g x>>=fun b=>if (!b)=true then some false else F (IntKind.i64.wrap (k+1)) else K):F 0=some (D0.alls p s.Args&&y):=
 L1w s hs p g hg K F y hK hF s.Args 0 rfl
theorem N14 (l:List C0):OkS l→U6 l=some (C0.alls Hd l):=by
 induction l using C0.inds with
 | h l ih=>
 intro hl
 have main:∀ (r:List C0) (k:Nat),l.drop k=r→Ba l k=some (C0.alls Hd r):=by
  intro r
  induction r with
  | nil=>intro k h; rw [Ba,(A1 h).1,if_neg (by simp)]; rfl
  | cons s r ihr=>
   intro k h
   obtain ⟨e1,e2,e3,e4,e5⟩:=C1 h
   have hs:=hl.mem e5
   have hlen:=hl.len
   obtain ⟨i1,i2⟩:=ih s e5
   have l2:=B1z s hs U5 X3 (fun x hx=>Qs x (hs.arg x hx)) _ (fun k'=>Md l s k k') (C0.alls Hd r) (by rw [w1 (by omega),ihr (k+1) e3]) (fun k'=>Md.eq_1 l s k k')
   rw [Ba,e1,if_pos rfl,e2,ob]
   simp only [rUN,Sk _ hs.name,Qs _ hs.place,Qs _ hs.value,i1 hs.thens,i2 hs.elses,ifd,ob,l2]
   simp only [C0.alls,C0.all_eq,Hd]
   generalize uNm s.Verb=a1
   generalize J5 s.Name=a2
   generalize s.Place.all U5=a3
   generalize s.Value.all U5=a4
   generalize C0.alls Hd s.Then=a5
   generalize C0.alls Hd s.Else=a6
   cases a1 <;> cases a2 <;> cases a3 <;> cases a4 <;> cases a5 <;> cases a6 <;> simp
 rw [U6]
 exact main l 0 rfl
theorem B1m (l:List B0):OkD l→R8 l=some (B0.alls Sh l):=by
 induction l using B0.inds with
 | h l ih=>
 intro hl
 have main:∀ (r:List B0) (k:Nat),l.drop k=r→Ca l k=some (B0.alls Sh r):=by
  intro r
  induction r with
  | nil=>intro k h; rw [Ca,(A1 h).1,if_neg (by simp)]; rfl
  | cons d r ihr=>
   intro k h
   obtain ⟨e1,e2,e3,e4,e5⟩:=C1 h
   have hs:=hl.mem e5
   have hlen:=hl.len
   obtain ⟨i1,i2⟩:=ih d e5
   rw [Ca,e1,if_pos rfl,e2,ob]
   simp only [Sk _ hs.name,I1n _ hs.type,Qs _ hs.value,i1 hs.params,i2 hs.vars,N14 _ hs.body,ifd,ob,w1 (show k≤BB by omega),ihr (k+1) e3]
   simp only [B0.alls,B0.all_eq,Sh]
   generalize J5 d.Name=a2
   generalize d.TypeV.all X7=a3
   generalize d.Value.all U5=a4
   generalize B0.alls Sh d.Params=a5
   generalize B0.alls Sh d.Vars=a6
   generalize C0.alls Hd d.Body=a1
   cases a1 <;> cases a2 <;> cases a3 <;> cases a4 <;> cases a5 <;> cases a6 <;> simp
 rw [R8]
 exact main l 0 rfl
theorem M1w (x:Int):A2 x 0 1048576=(bif decide (x < 0) then false else !decide (x > 1048576)):=by
 unfold A2
 rw [O16,P16]
 cases decide (x≥0) <;> cases decide (x≤1048576) <;> rfl
theorem C1z (s:C0)(hs:Pq s):∀ (r:List Int) (k:Nat) (last:Int),s.Numbers.drop k=r→(k=0∧last = -1∨0 < k∧idx s.Numbers ((k - 1:Nat):Int)=some last)→E5 s k=some (Ss last r)
 | [],k,last,h,h0=>by rw [E5,(A1 h).1,if_neg (by simp)]; rfl
 | x::r,k,last,h,h0=>by
  obtain ⟨e1,e2,e3,e4,e5⟩:=C1 h
  have hnl:=hs.nums
  have ih:=C1z s hs r (k+1) x e3 (.inr ⟨by omega,e2⟩)
  unfold BB at hnl
  rw [show Ss last (x::r)=((bif A2 x 0 1048576 then decide (x > last) else false)&&Ss x r) from rfl,M1w,E5,e1,if_pos rfl,e2,ob,w1 (by unfold BB; omega),ih]
  by_cases hx:x < 0
  ·rw [decide_eq_true hx]; rfl
  ·rw [decide_eq_false hx,if_pos (show (!false)=true from rfl),ob]
   cases hB:decide (x > 1048576) with
   | true=>rfl
   | false=>
    rcases h0 with ⟨rfl,rfl⟩ | ⟨hk,hl⟩
    ·have hk:decide (((0:Nat):Int) > 0)=false:=by decide
     rw [hk,decide_eq_true (show x > -1 by omega)]
     cases Ss x r <;> rfl
    ·have hk':decide ((k:Int) > 0)=true:=decide_eq_true (by omega)
     have hw:IntKind.i64.wrap ((k:Int) - 1)=((k - 1:Nat):Int):=by rw [wr (by omega) (by omega)]; omega
     have hd:decide (x≤last) = !decide (x > last):=by rw [← decide_not]; exact decide_eq_decide.2 (by omega)
     rw [hk',hw,hl]
     show (if decide (x≤last)=true then some false else some (Ss x r))=some (decide (x > last)&&Ss x r)
     rw [hd]
     cases decide (x > last) <;> cases Ss x r <;> rfl
theorem O21 (s:C0)(hs:Pq s):Sf s=some (Yn s):=by
 unfold Sf Yn
 cases s.Verb == 4 with
 | true=>rw [if_pos rfl]; rfl
 | false=>
  rw [if_neg (by simp)]
  cases s.Verb == 6 with
  | true=>rw [if_pos rfl]; rfl
  | false=>
   rw [if_neg (by simp)]
   cases s.Verb == 7 with
   | true=>
    rw [if_pos rfl,L11,ob,L11,ifd,ob]
    show some _=some (bif (bif A2 s.Low (-1048576) 1048576 then A2 s.High s.Low 1048576 else false) then decide (s.High - s.Low < 4096) else false)
    congr 1
    by_cases hb:(-1048576≤s.Low∧s.Low≤1048576)∧(-1048576≤s.High∧s.High≤1048576)
    ·obtain ⟨⟨b1,b2⟩,b3,b4⟩:=hb
     rw [wr (n:=s.High - s.Low) (by omega) (by omega),wr (n:=s.High - s.Low+1) (by omega) (by omega)]
     unfold Xi A2
     rw [decide_eq_true (show s.Low≥-1048576 from b1),decide_eq_true b2,decide_eq_true (show s.High≥-1048576 from b3),decide_eq_true b4]
     simp only [cond_true]
     have e:decide (s.High - s.Low+1≤4096)=decide (s.High - s.Low < 4096):=decide_eq_decide.2 (by omega)
     rw [e]
     show (bif decide (s.Low≤s.High) then decide (s.High - s.Low < 4096) else false)=(bif (bif decide (s.Low≤s.High) then true else false) then decide (s.High - s.Low < 4096) else false)
     cases decide (s.Low≤s.High) <;> rfl
    ·unfold Xi A2
     by_cases h1 : -1048576≤s.Low∧s.Low≤1048576
     ·obtain ⟨b1,b2⟩:=h1
      rw [decide_eq_true (show s.Low≥-1048576 from b1),decide_eq_true b2]
      simp only [cond_true]
      by_cases h2:s.High≤1048576
      ·have h3:¬ s.High≥-1048576:=fun h=>hb ⟨⟨b1,b2⟩,h,h2⟩
       rw [decide_eq_false h3,decide_eq_false (show ¬ s.High≥s.Low by omega)]
       rfl
      ·rw [decide_eq_false h2]
       cases decide (s.High≥-1048576) <;> cases decide (s.High≥s.Low) <;> rfl
     ·have:(bif decide (s.Low≥-1048576) then decide (s.Low≤1048576) else false)=false:=by
       by_cases h2 : -1048576≤s.Low
       ·rw [decide_eq_true (show s.Low≥-1048576 from h2),decide_eq_false (fun h=>h1 ⟨h2,h⟩)]; rfl
       ·rw [decide_eq_false (show ¬ s.Low≥-1048576 from h2)]; rfl
      rw [this]
      rfl
   | false=>
    rw [if_neg (by simp)]
    cases s.Verb == 8 with
    | true=>
     have:=C1z s hs s.Numbers 0 (-1) rfl (.inl ⟨rfl,rfl⟩)
     rw [show ((0:Nat):Int)=0 from rfl] at this
     rw [if_pos rfl,this,O16,P16]
     show _=some (A2 (s.Numbers.length:Int) 1 32&&Ss (-1) s.Numbers)
     unfold A2
     cases decide ((s.Numbers.length:Int)≥1) <;> cases decide ((s.Numbers.length:Int)≤32) <;> simp
    | false=>rfl
theorem Yz (l:List C0):OkS l→F5 l=some (C0.alls snumb l):=by
 induction l using C0.inds with
 | h l ih=>
 intro hl
 have main:∀ (r:List C0) (k:Nat),l.drop k=r→D8 l k=some (C0.alls snumb r):=by
  intro r
  induction r with
  | nil=>intro k h; rw [D8,(A1 h).1,if_neg (by simp)]; rfl
  | cons s r ihr=>
   intro k h
   obtain ⟨e1,e2,e3,e4,e5⟩:=C1 h
   have hs:=hl.mem e5
   have hlen:=hl.len
   obtain ⟨i1,i2⟩:=ih s e5
   have l2:=B1z s hs T2 F3 (fun x hx=>Xn x (hs.arg x hx)) _ (fun k'=>Hb l s k k') (C0.alls snumb r) (by rw [w1 (by omega),ihr (k+1) e3]) (fun k'=>Hb.eq_1 l s k k')
   rw [D8,e1,if_pos rfl,e2,ob]
   simp only [O21 s hs,Xn _ hs.place,Xn _ hs.value,i1 hs.thens,i2 hs.elses,ifd,ob,l2]
   simp only [C0.alls,C0.all_eq,snumb]
   generalize Yn s=a2
   generalize s.Place.all T2=a3
   generalize s.Value.all T2=a4
   generalize C0.alls snumb s.Then=a5
   generalize C0.alls snumb s.Else=a6
   cases a2 <;> cases a3 <;> cases a4 <;> cases a5 <;> cases a6 <;> simp
 rw [F5]
 exact main l 0 rfl
def T16 (d:B0):Bool:=(d.TypeV.all fun t=>!Ju t)&&d.Value.all T2&&Ew d&&C0.alls snumb d.Body
theorem C1h (l:List B0):OkD l→L6 l=some (B0.alls T16 l):=by
 induction l using B0.inds with
 | h l ih=>
 intro hl
 have main:∀ (r:List B0) (k:Nat),l.drop k=r→E8 l k=some (B0.alls T16 r):=by
  intro r
  induction r with
  | nil=>intro k h; rw [E8,(A1 h).1,if_neg (by simp)]; rfl
  | cons d r ihr=>
   intro k h
   obtain ⟨e1,e2,e3,e4,e5⟩:=C1 h
   have hs:=hl.mem e5
   have hlen:=hl.len
   obtain ⟨i1,i2⟩:=ih d e5
   rw [E8,e1,if_pos rfl,e2,ob,L11,ob]
   simp only [V1e _ hs.type,Xn _ hs.value,i1 hs.params,i2 hs.vars,Yz _ hs.body,ifd,ob,w1 (show k≤BB by omega),ihr (k+1) e3]
   have hi:(bif (!(Xi d.Init)) then true else (bif (d.TypeV.Kind == 0) then (bif (decide (d.Init < 0)) then true else (decide (d.Init > 1))) else false)) = !(Ew d):=by
    unfold Ew Xi A2 bne
    rw [O16,P16 d.Init 1]
    cases decide (d.Init≥-1048576) <;> cases decide (d.Init≤1048576) <;> cases (d.TypeV.Kind == 0) <;> cases decide (d.Init≥0) <;> cases decide (d.Init≤1) <;> rfl
   rw [hi]
   simp only [B0.alls,B0.all_eq,T16]
   generalize Ew d=a2
   generalize (d.TypeV.all fun t=>!Ju t)=a3
   generalize d.Value.all T2=a4
   generalize B0.alls T16 d.Params=a5
   generalize B0.alls T16 d.Vars=a6
   generalize C0.alls snumb d.Body=a1
   cases a1 <;> cases a2 <;> cases a3 <;> cases a4 <;> cases a5 <;> cases a6 <;> simp
 rw [L6]
 exact main l 0 rfl
theorem D1z (l:List B0):B0.alls dform l=true→B0.alls T16 l=B0.alls dnumb l:=by
 induction l using B0.inds with
 | h l ih=>
 induction l with
 | nil=>intro _; rfl
 | cons d r ihr=>
  intro h
  simp only [B0.alls,B0.all_eq,Bool.and_eq_true] at h
  obtain ⟨⟨h1,h2,h3⟩,h4⟩:=h
  obtain ⟨i1,i2⟩:=ih d List.mem_cons_self
  have h5:d.TypeV.all J3=true:=by
   unfold dform at h1
   simp only [Bool.and_eq_true] at h1
   exact h1.1.1.1.1.1.1.2
  simp only [B0.alls,B0.all_eq,T16,dnumb,← U1e d.TypeV h5,i1 h2,i2 h3,ihr (fun x hx=>ih x (List.mem_cons_of_mem _ hx)) h4]
theorem P21 (p:I0)(h:OkP p):Qp p=some ⟨W1j p,X1j p⟩:=by
 have h1:=B0.ndss_bulk p.Decls
 have h2:=C0.ndss_bulk p.Body
 have h3:B0.bulks p.Decls≤BB:=h.decls
 have h4:C0.bulks p.Body≤BB:=h.body
 have hr:Y6 ⟨0,0⟩ (B0.ndss p.Decls+C0.ndss p.Body):=⟨Int.le_refl _,Int.le_refl _,by simp only; omega⟩
 unfold Qp
 rw [Y1q p.Decls h.decls _ (hr.less (by omega)),ob,show (1:Int)=((1:Nat):Int) from rfl,F1c p.Body h.body 1 _ (by unfold BB at *; omega) (Y6.x hr),ob,N11]
 unfold szX W1j X1j
 simp only
 rw [show (0:Int)+((B0.ndss p.Decls+C0.ndss p.Body:Nat):Int)=((B0.ndss p.Decls+C0.ndss p.Body:Nat):Int) by omega,show max (0:Int) ((max (B0.dpss p.Decls) (C0.dpss p.Body 1):Nat):Int)=((max (B0.dpss p.Decls) (C0.dpss p.Body 1):Nat):Int) by omega]
theorem H25 (a b:Bool):(bif a then (bif a then b else default) else false)=(a&&b):=by cases a <;> rfl
theorem E1z (p:I0)(h:OkP p):Sp p=some (Us p):=by
 unfold Sp
 simp only [P21 p h,J1o _ h.decls,T17 _ h.body,B1m _ h.decls,N14 _ h.body,C1h _ h.decls,Yz _ h.body,ifd,ob,V12,H25]
 unfold Us
 cases hf:B0.alls dform p.Decls with
 | false=>unfold Wc; rfl
 | true=>rw [D1z p.Decls hf]
theorem X1e (l:List C0):OkS l→∀ n,∃ m,D5 l n=some m:=by
 induction l using C0.inds with
 | h l ih=>
 intro hl n
 have main:∀ (r:List C0) (k:Nat) (n:Int),l.drop k=r→∃ m,M8 l n k=some m:=by
  intro r
  induction r with
  | nil=>intro k n h; rw [M8,(A1 h).1]; exact ⟨_,rfl⟩
  | cons s r ihr=>
   intro k n h
   obtain ⟨e1,e2,e3,e4,e5⟩:=C1 h
   have hs:=hl.mem e5
   have hlen:=hl.len
   obtain ⟨i1,i2⟩:=ih s e5
   have tail:∀ n:Int,∃ m,(if decide ((s.Numbers.length:Int) > 100)=true then some (-1) else D5 s.Then n>>=fun x6=>D5 s.Else x6>>=fun x7=>M8 l x7 (IntKind.i64.wrap ((k:Int)+1)))=some m:=fun n=>by
    cases decide ((s.Numbers.length:Int) > 100) with
    | true=>exact ⟨_,rfl⟩
    | false=>
     obtain ⟨a,ha⟩:=i1 hs.thens n
     obtain ⟨b,hb⟩:=i2 hs.elses a
     rw [if_neg (by simp),ha,ob,hb,ob,w1 (by omega)]
     exact ihr (k+1) b e3
   have l2:∀ (q:List D0) (j:Nat) (n:Int),s.Args.drop j=q→∃ m,Va l s n k j=some m:=by
    intro q
    induction q with
    | nil=>intro j n hj; rw [Va,(A1 hj).1,cond_false,if_neg (by simp)]; exact tail n
    | cons a q ihq=>
     intro j n hj
     obtain ⟨f1,f2,f3,f4,f5⟩:=C1 hj
     have:=hs.args
     rw [Va,f1,cond_true,f2]
     cases decide (n≥0) with
     | false=>rw [if_neg (by simp)]; exact tail n
     | true=>
      obtain ⟨m,hm⟩:=Rs a (hs.arg a f5) n
      rw [if_pos rfl,ob,hm,ob,w1 (by omega)]
      exact ihq (j+1) m f3
   rw [M8,e1,cond_true,e2]
   cases decide (n≥0) with
   | false=>exact ⟨_,rfl⟩
   | true=>
    rw [if_pos rfl,ob]
    obtain ⟨a,ha⟩:=Rs s.Place hs.place (IntKind.i64.wrap ((IntKind.i64.wrap (n - 1)) - (IntKind.i64.wrap (Int.tdiv ((s.Name).length:Int) 16))))
    obtain ⟨b,hb⟩:=Rs s.Value hs.value a
    rw [ha,ob,hb,ob]
    exact l2 s.Args 0 b rfl
 rw [D5]
 exact main l 0 n rfl
theorem N1w (l:List B0):OkD l→∀ n,∃ m,R9 l n=some m:=by
 induction l using B0.inds with
 | h l ih=>
 intro hl n
 have main:∀ (r:List B0) (k:Nat) (n:Int),l.drop k=r→∃ m,Wa l n k=some m:=by
  intro r
  induction r with
  | nil=>intro k n h; rw [Wa,(A1 h).1]; exact ⟨_,rfl⟩
  | cons d r ihr=>
   intro k n h
   obtain ⟨e1,e2,e3,e4,e5⟩:=C1 h
   have hs:=hl.mem e5
   have hlen:=hl.len
   obtain ⟨i1,i2⟩:=ih d e5
   rw [Wa,e1,cond_true,e2]
   cases decide (n≥0) with
   | false=>exact ⟨_,rfl⟩
   | true=>
    rw [if_pos rfl,ob]
    obtain ⟨a,ha⟩:=F1w d.TypeV hs.type (IntKind.i64.wrap ((IntKind.i64.wrap (n - 1)) - (IntKind.i64.wrap (Int.tdiv ((d.Name).length:Int) 16))))
    obtain ⟨b,hb⟩:=Rs d.Value hs.value a
    obtain ⟨c,hc⟩:=i1 hs.params b
    obtain ⟨e,he⟩:=i2 hs.vars c
    obtain ⟨f,hf⟩:=X1e d.Body hs.body e
    rw [ha,ob,hb,ob,hc,ob,he,ob,hf,ob,w1 (by omega)]
    exact ihr (k+1) f e3
 rw [R9]
 exact main l 0 n rfl
theorem F1z (p:I0)(h:OkP p)(n:Int):∃ b,Pv p n=some b:=by
 obtain ⟨a,ha⟩:=N1w p.Decls h.decls n
 obtain ⟨b,hb⟩:=X1e p.Body h.body a
 unfold Pv
 rw [ha,ob,hb]
 exact ⟨_,rfl⟩
theorem G1c {p:I0}(h:p.bulk≤4200000):OkP p:=by
 cases p
 simp only [I0.bulk] at h
 exact ⟨by unfold OkD BB; simp only; omega,by unfold OkS BB; simp only; omega⟩
end Go.Proofs.YtdkabnfphmmmnaaGreatDoor

set_option linter.unusedSimpArgs false
namespace Go.Proofs.YtdkabnfphmmmnaaGreatDoor
open Go.Am
def Zz {α:Type}(p:α→Bool):List α→Nat→Int
 | [],_=>-1
 | x::r,i=>bif p x then (i:Int) else Zz p r (i+1)
theorem A1r {α:Type}(p:α→Bool):∀ (l:List α) (k:Nat),0≤Zz p l k ↔ l.any p=true
 | [],k=>by simp [Zz]
 | x::r,k=>by
  have ih:=A1r p r (k+1)
  rw [List.any_cons,Bool.or_eq_true,← ih]
  show 0≤(bif p x then (k:Int) else Zz p r (k+1)) ↔ _
  cases hp:p x with
  | true=>simp
  | false=>simp
theorem D1h {α:Type}(p:α→Bool)(l:List α)(k:Nat):decide (Zz p l k≥0)=l.any p:=by
 rw [Bool.eq_iff_iff,decide_eq_true_eq]
 exact A1r p l k
theorem C1m {α:Type}{l:List α}{k:Nat}(h:k≤l.length):slc l 0 (k:Int)=some (l.take k):=by
 unfold slc
 rw [if_pos ⟨by omega,by omega,by omega⟩]
 simp
theorem Qm:(0:Int)=((0:Nat):Int):=rfl
theorem Z1t (s:List A0)(hs:s.length≤BB)(ih:∀ x∈s,Ig x=some (x.some Tk)) :
  ∀ (r:List A0) (k:Nat),s.drop k=r→N2 s k=some (Zz (A0.some Tk) r k)
 | [],k,h=>by rw [N2,(A1 h).1,if_neg (by simp)]; rfl
 | x::r,k,h=>by
  obtain ⟨e1,e2,e3,e4,e5⟩:=C1 h
  rw [N2,e1,if_pos rfl,e2,ob,ih x e5,ob,w1 (by omega),Z1t s hs ih r (k+1) e3,Zz]
  cases A0.some Tk x <;> simp
theorem Q21 (t:A0):Ok t→Ig t=some (t.some Tk):=by
 induction t using A0.ind with
 | h t ih=>
 intro ht
 have:=Z1t t.Of ht.ofs (fun x hx=>ih x hx (ht.kid hx)) t.Of 0 rfl
 rw [← Qm] at this
 rw [Ig,T6,A8,this,ob,A0.some_eq,D1h]
 show _=some ((t.Kind == 4)||_)
 cases t.Kind == 4 <;> simp
theorem B1r (t:A0)(ht:Ok t)(ih:∀ x∈t.Of,Kg x=some (x.some Tk)) :
  ∀ (r:List A0) (k:Nat),t.Of.drop k=r→Vg t k=some (r.any (A0.some Tk))
 | [],k,h=>by rw [Vg,(A1 h).1,if_neg (by simp)]; rfl
 | x::r,k,h=>by
  obtain ⟨e1,e2,e3,e4,e5⟩:=C1 h
  have:=ht.ofs
  rw [Vg,e1,if_pos rfl,e2,ob,ih x e5,ob,w1 (by omega),B1r t ht ih r (k+1) e3,List.any_cons]
  cases A0.some Tk x <;> simp
theorem G1z (t:A0):Ok t→Kg t=some (t.some Tk):=by
 induction t using A0.ind with
 | h t ih=>
 intro ht
 rw [Kg,Qm,B1r t ht (fun x hx=>ih x hx (ht.kid hx)) t.Of 0 rfl,A0.some_eq]
 show _=some ((t.Kind == 4)||_)
 cases t.Kind == 4 <;> simp
theorem C1r (s:List Str)(v:Str)(hs:s.length≤BB):∀ (r:List Str) (k:Nat),s.drop k=r→U2 s v k=some (Zz (fun y=>v == y) r k)
 | [],k,h=>by rw [U2,(A1 h).1,if_neg (by simp)]; rfl
 | x::r,k,h=>by
  obtain ⟨e1,e2,e3,e4,e5⟩:=C1 h
  rw [U2,e1,if_pos rfl,e2,ob,w1 (by omega),C1r s v hs r (k+1) e3,Zz]
  cases v == x <;> simp
theorem D1r (s:List Str)(v:Str)(hs:s.length≤BB):O5 s v=some (s.any fun y=>v == y):=by
 unfold O5 La
 have:=C1r s v hs s 0 rfl
 rw [← Qm] at this
 rw [this,ob,← D1h (fun y=>v == y) s 0]
theorem V1n (s:List A0)(hs:s.length≤BB)(ih:∀ x∈s,De x=some (x.some Kh)) :
  ∀ (r:List A0) (k:Nat),s.drop k=r→Z2 s k=some (Zz (A0.some Kh) r k)
 | [],k,h=>by rw [Z2,(A1 h).1,if_neg (by simp)]; rfl
 | x::r,k,h=>by
  obtain ⟨e1,e2,e3,e4,e5⟩:=C1 h
  rw [Z2,e1,if_pos rfl,e2,ob,ih x e5,ob,w1 (by omega),V1n s hs ih r (k+1) e3,Zz]
  cases A0.some Kh x <;> simp
theorem A1u (t:A0)(ht:Ok t)(b:Bool)(hb:P3 t.Of=some b) :
  ∀ (r:List Str) (k:Nat),t.Names.drop k=r→Ng t k=some (tw (t.Names.take k) r||b)
 | [],k,h=>by rw [Ng,(A1 h).1,if_neg (by simp),hb,ob]; rfl
 | x::r,k,h=>by
  obtain ⟨e1,e2,e3,e4,e5⟩:=C1 h
  have:=ht.names
  have hx:t.Names[k]?=Option.some x:=by
   have:=congrArg List.head? h
   simpa using this
  rw [Ng,e1,if_pos rfl,e2,ob,C1m (by omega),ob,D1r _ _ (by simp; omega),ob,w1 (by omega),A1u t ht b hb r (k+1) e3,tw,List.take_add_one,hx]
  show _=some (((t.Names.take k).any fun y=>x == y)||tw (t.Names.take k++[x]) r||b)
  cases (t.Names.take k).any fun y=>x == y <;> simp
theorem E1r (t:A0):Ok t→De t=some (t.some Kh):=by
 induction t using A0.ind with
 | h t ih=>
 intro ht
 have h1:=V1n t.Of ht.ofs (fun x hx=>ih x hx (ht.kid hx)) t.Of 0 rfl
 have h2:P3 t.Of=some (t.Of.any (A0.some Kh)):=by
  rw [← Qm] at h1
  rw [P3,N9,h1,ob,D1h]
 rw [De,Qm,A1u t ht _ h2 t.Names 0 rfl,A0.some_eq]
 rfl
theorem Y1e (t:A0)(ht:Ok t)(ih:∀ x∈t.Of,Ma x=some (x.some Kh)) :
  ∀ (r:List A0) (k:Nat),t.Of.drop k=r→Qd t k=some (r.any (A0.some Kh))
 | [],k,h=>by rw [Qd,(A1 h).1,if_neg (by simp)]; rfl
 | x::r,k,h=>by
  obtain ⟨e1,e2,e3,e4,e5⟩:=C1 h
  have:=ht.ofs
  rw [Qd,e1,if_pos rfl,e2,ob,ih x e5,ob,w1 (by omega),Y1e t ht ih r (k+1) e3,List.any_cons]
  cases A0.some Kh x <;> simp
theorem Z1e (t:A0)(ht:Ok t)(b:Option Bool){i:Nat}{x:Str}(hi:idx t.Names (i:Int)=some x)(hb:Pa t (IntKind.i64.wrap ((i:Int)+1))=b) :
  ∀ (r:List Str) (k:Nat),(t.Names.take i).drop k=r→i≤t.Names.length→Sd t i k=if (r.any fun y=>x == y)=true then some true else b
 | [],k,h,hl=>by
  have h1:=A1 h
  have:i≤k:=by have:=h1.2; simp at this; omega
  rw [Sd,if_neg (by simp; omega),hb]
  simp
 | y::r,k,h,hl=>by
  obtain ⟨e1,e2,e3,e4,e5⟩:=C1 h
  have hk:k < i:=by simp at e4; omega
  have:=ht.names
  have hy:idx t.Names (k:Int)=some y:=by
   unfold idx at e2 ⊢
   rw [if_pos (by omega)] at e2 ⊢
   rw [show ((k:Int).toNat)=k from rfl,List.getElem?_take,if_pos hk] at e2
   exact e2
  rw [Sd,if_pos (decide_eq_true (by omega)),hi,ob,hy,ob,w1 (by omega),Z1e t ht b hi hb r (k+1) e3 hl,List.any_cons]
  cases x == y <;> simp
theorem A1f (t:A0)(ht:Ok t)(b:Bool)(hb:Pd t=some b) :
  ∀ (r:List Str) (k:Nat),t.Names.drop k=r→Pa t k=some (tw (t.Names.take k) r||b)
 | [],k,h=>by rw [Pa,(A1 h).1,if_neg (by simp),hb]; rfl
 | x::r,k,h=>by
  obtain ⟨e1,e2,e3,e4,e5⟩:=C1 h
  have:=ht.names
  have hx:t.Names[k]?=Option.some x:=by
   have:=congrArg List.head? h
   simpa using this
  have h3:=Z1e t ht _ e2 (by rw [w1 (by omega),A1f t ht b hb r (k+1) e3]) (t.Names.take k) 0 rfl (by omega)
  rw [Pa,e1,if_pos rfl,Qm,h3,tw,List.take_add_one,hx]
  show _=some (((t.Names.take k).any fun y=>x == y)||tw (t.Names.take k++[x]) r||b)
  cases (t.Names.take k).any fun y=>x == y <;> simp
theorem B1f (t:A0):Ok t→t.all J3=true→Ma t=some (t.some Kh):=by
 induction t using A0.ind with
 | h t ih=>
 intro ht hf
 rw [A0.all_eq,Bool.and_eq_true] at hf
 have h4:=Y1e t ht (fun x hx=>ih x hx (ht.kid hx) (A0.alls_mem hf.2 hx)) t.Of 0 rfl
 have h2:Pd t=some (t.Of.any (A0.some Kh)):=by rw [Pd,Qm,h4]
 rw [Ma,Qm,A1f t ht _ h2 t.Names 0 rfl,h2,A0.some_eq]
 cases h:t.Kind == 3 with
 | true=>rw [if_pos rfl]; rfl
 | false=>rw [if_neg (by simp),J23 hf.1 h]; rfl
theorem O11 {t:A0}(hf:Y2 t)(h3:(t.Kind == 3)=true){l:List A0}(hl:∀ x∈l,x∈t.Of)(hn:l.length≤t.Of.length):0≤A0.cnts l∧A0.cnts l≤1056:=by
 have h1:=A0.cnts_bound l fun y hy=>A0.cnt_ge y (hf.kid (hl y hy))
 have h2:=(hf.recd h3).1
 omega
theorem B1u (t:A0)(hf:Y2 t)(h3:(t.Kind == 3)=true)(ih:∀ x∈t.Of,Rb x=some x.cnt) :
  ∀ (r:List A0) (k:Nat) (n:Int),t.Of.drop k=r→0≤n→n+A0.cnts r≤2000→Pg t n k=some (min (n+A0.cnts r) 33)
 | [],k,n,h,_,_=>by
  rw [Pg,(A1 h).1,if_neg (by simp)]
  simp [A0.cnts]
 | x::r,k,n,h,h0,hb=>by
  obtain ⟨e1,e2,e3,e4,e5⟩:=C1 h
  have:=(hf.recd h3).1
  have hr:=O11 hf h3 (l:=r) (fun y hy=>List.mem_of_mem_drop (i:=k+1) (by rw [e3]; exact hy)) (by rw [← e3]; simp)
  have hc:=A0.cnt_le x
  have hc':=A0.cnt_ge x (hf.kid e5)
  simp only [A0.cnts] at hb
  rw [Pg,e1,if_pos rfl,e2,ob,ih x e5,ob,wr (n:=n+_) (by omega) (by omega),w1 (by unfold BB; omega),B1u t hf h3 ih r (k+1) _ e3 (by omega) (by omega)]
  simp only [A0.cnts,Int.add_assoc]
theorem F1r (t:A0):Y2 t→Rb t=some t.cnt:=by
 induction t using A0.ind with
 | h t ih=>
 intro hf
 have ih':=fun x hx=>ih x hx (hf.kid hx)
 rw [Rb,A0.cnt_eq]
 cases h2:t.Kind == 2 with
 | true=>
  obtain ⟨x,hx,s1,s2⟩:=hf.arr h2
  have hm:x∈t.Of:=by rw [hx]; exact List.mem_cons_self
  have hc:=A0.cnt_le x
  have hc':=A0.cnt_ge x (hf.kid hm)
  have hi:idx t.Of 0=some x:=by rw [hx]; rfl
  have hb:0≤min t.Size 33 * x.cnt:=Int.mul_nonneg (by omega) hc'
  have hb':min t.Size 33 * x.cnt≤33 * 33:=Int.mul_le_mul (by omega) hc hc' (by omega)
  rw [if_pos rfl,hi,ob,ih' x hm,ob,wr (by omega) (by omega),hx]
  rfl
 | false=>
  cases h3:t.Kind == 3 with
  | true=>
   have hr:=O11 hf h3 (l:=t.Of) (fun _ h=>h) (Nat.le_refl _)
   rw [if_neg (by simp),if_pos rfl,Qm,B1u t hf h3 ih' t.Of 0 _ rfl (by omega) (by omega)]
   simp
  | false=>rfl
theorem G1r (t:A0)(hf:Y2 t)(h3:(t.Kind == 3)=true)(ih:∀ x∈t.Of,Sb x=some x.cnt) :
  ∀ (r:List A0) (k:Nat) (n:Int),t.Of.drop k=r→0≤n→n+A0.cnts r≤2000→Sg t n k=some (min (n+A0.cnts r) 33)
 | [],k,n,h,_,_=>by
  rw [Sg,(A1 h).1,if_neg (by simp)]
  simp only [A0.cnts]
  by_cases hn:n > 32
  ·rw [if_pos (decide_eq_true hn)]; congr 1; omega
  ·rw [if_neg (by simpa using hn)]; congr 1; omega
 | x::r,k,n,h,h0,hb=>by
  obtain ⟨e1,e2,e3,e4,e5⟩:=C1 h
  have:=(hf.recd h3).1
  have hr:=O11 hf h3 (l:=r) (fun y hy=>List.mem_of_mem_drop (i:=k+1) (by rw [e3]; exact hy)) (by rw [← e3]; simp)
  have hc:=A0.cnt_le x
  have hc':=A0.cnt_ge x (hf.kid e5)
  simp only [A0.cnts] at hb
  rw [Sg,e1,if_pos rfl,e2,ob,ih x e5,ob,wr (n:=n+_) (by omega) (by omega),w1 (by unfold BB; omega),G1r t hf h3 ih r (k+1) _ e3 (by omega) (by omega)]
  simp only [A0.cnts,Int.add_assoc]
theorem W1n (t:A0):Y2 t→Sb t=some t.cnt:=by
 induction t using A0.ind with
 | h t ih=>
 intro hf
 have ih':=fun x hx=>ih x hx (hf.kid hx)
 have hx23:(t.Kind == 2)=true→(t.Kind == 3)=false:=fun h=>by
  have:t.Kind=2:=by simpa using h
  rw [this]; rfl
 have fin:∀ n:Int,(t.Kind == 3)=false→Rg t n=some (min n 33):=fun n h3=>by
  rw [Rg,h3,if_neg (by simp)]
  by_cases hn:n > 32
  ·rw [if_pos (decide_eq_true hn)]; congr 1; omega
  ·rw [if_neg (by simpa using hn)]; congr 1; omega
 rw [Sb,A0.cnt_eq]
 cases h2:t.Kind == 2 with
 | true=>
  obtain ⟨x,hx,s1,s2⟩:=hf.arr h2
  have hm:x∈t.Of:=by rw [hx]; exact List.mem_cons_self
  have hc:=A0.cnt_le x
  have hc':=A0.cnt_ge x (hf.kid hm)
  have hi:idx t.Of 0=some x:=by rw [hx]; rfl
  have hb:0≤t.Size * x.cnt:=Int.mul_nonneg (by omega) hc'
  have hb':t.Size * x.cnt≤33 * 33:=Int.mul_le_mul (by omega) hc hc' (by omega)
  rw [if_pos rfl,hi,ob,ih' x hm,ob,wr (by omega) (by omega),fin _ (hx23 h2),hx,show min t.Size 33=t.Size by omega]
  rfl
 | false=>
  cases h3:t.Kind == 3 with
  | true=>
   have hr:=O11 hf h3 (l:=t.Of) (fun _ h=>h) (Nat.le_refl _)
   rw [if_neg (by simp),Rg,h3,if_pos rfl,Qm,G1r t hf h3 ih' t.Of 0 _ rfl (by omega) (by omega)]
   simp
  | false=>rw [if_neg (by simp),fin _ h3]; rfl
theorem O1w (t:A0)(ht:Ok t):Np t=some (Lf t):=by
 unfold Np Lf
 rw [C1c t ht,ob]
 cases h:Y7 t != 0 with
 | true=>rfl
 | false=>
  have hf:=I1d (show Y7 t=0 by simpa using h)
  unfold Tu R1j
  rw [Q21 t ht,E1r t ht,F1r t hf]
  cases t.some Tk <;> cases t.some Kh <;> by_cases hc:t.cnt > 32 <;> simp [ob,hc]
theorem X1s (t:A0)(ht:Ok t):Tp t=some (Lf t):=by
 unfold Tp Lf
 rw [S17 t ht,ob]
 cases h:Y7 t != 0 with
 | true=>rfl
 | false=>
  have hf:=I1d (show Y7 t=0 by simpa using h)
  unfold R1j
  rw [G1z t ht,B1f t ht hf.form,W1n t hf]
  cases t.some Tk <;> cases t.some Kh <;> by_cases hc:t.cnt > 32 <;> simp [ob,hc]
theorem Uo {α:Type}{l:List α}{k:Nat}(h:k < l.length):∃ y,idx l (k:Int)=some y∧l.drop k=y::l.drop (k+1)∧y∈l:=by
 refine ⟨l[k],?_,List.drop_eq_getElem_cons h,List.getElem_mem h⟩
 unfold idx
 rw [if_pos (by omega)]
 simp [h]
end Go.Proofs.YtdkabnfphmmmnaaGreatDoor

set_option linter.unusedSimpArgs false
namespace Go.Proofs.YtdkabnfphmmmnaaGreatDoor
open Go.Am
end Go.Proofs.YtdkabnfphmmmnaaGreatDoor

set_option linter.unusedSimpArgs false
namespace Go.Proofs.YtdkabnfphmmmnaaGreatDoor
open Go.Am
theorem Y1j (s u:List Str)(hs:s.length≤BB)(hl:s.length=u.length):∀ (r:List Str) (k:Nat),s.drop k=r→P1 s u k=some (eqL (fun x y=>x == y) r (u.drop k))
 | [],k,h=>by
  rw [P1,(A1 h).1,if_neg (by simp),List.drop_eq_nil_of_le (by have:=(A1 h).2; omega)]; rfl
 | x::r,k,h=>by
  obtain ⟨e1,e2,e3,e4,e5⟩:=C1 h
  obtain ⟨y,f1,f2,f3⟩:=Uo (l:=u) (k:=k) (by omega)
  rw [P1,e1,if_pos rfl,e2,ob,f1,ob,w1 (by omega),Y1j s u hs hl r (k+1) e3,f2,eqL]
  cases x == y <;> simp
theorem Y1s (s u:List Str)(hs:s.length≤BB):H3 s u=some (eqL (fun x y=>x == y) s u):=by
 unfold H3
 by_cases hl:s.length=u.length
 ·rw [if_neg (by simp; omega),Qm,Y1j s u hs hl s 0 rfl]; rfl
 ·rw [if_pos (by simp; omega),To _ hl]
theorem Z1j (s u:List A0)(hs:s.length≤BB)(hl:s.length=u.length)(ih:∀ x∈s,∀ y,Hg x y=some (x.same y)) :
  ∀ (r:List A0) (k:Nat),s.drop k=r→J1 s u k=some (eqL A0.same r (u.drop k))
 | [],k,h=>by
  rw [J1,(A1 h).1,if_neg (by simp),List.drop_eq_nil_of_le (by have:=(A1 h).2; omega)]; rfl
 | x::r,k,h=>by
  obtain ⟨e1,e2,e3,e4,e5⟩:=C1 h
  obtain ⟨y,f1,f2,f3⟩:=Uo (l:=u) (k:=k) (by omega)
  rw [J1,e1,if_pos rfl,e2,ob,f1,ob,ih x e5 y,ob,w1 (by omega),Z1j s u hs hl ih r (k+1) e3,f2,eqL]
  cases x.same y <;> simp
theorem R21 (t:A0):Ok t→∀ u,Hg t u=some (t.same u):=by
 induction t using A0.ind with
 | h t ih=>
 intro ht u
 have ih':=fun x hx=>ih x hx (ht.kid hx)
 have hO:O2 t.Of u.Of=some (eqL A0.same t.Of u.Of):=by
  rw [O2]
  by_cases hl:t.Of.length=u.Of.length
  ·rw [if_neg (by simp; omega),Qm,Z1j t.Of u.Of ht.ofs hl ih' t.Of 0 rfl]; rfl
  ·rw [if_pos (by simp; omega),To _ hl]
 rw [Hg,hO,Y1s _ _ ht.names,A0.same_eq]
 generalize eqL A0.same t.Of u.Of=a
 generalize eqL (fun x y=>x == y) t.Names u.Names=b
 cases t.Kind == u.Kind <;> cases t.Low == u.Low <;> cases t.High == u.High <;> cases t.Size == u.Size <;> cases t.Name == u.Name <;> cases b <;> cases a <;> rfl
end Go.Proofs.YtdkabnfphmmmnaaGreatDoor

set_option linter.unusedSimpArgs false
namespace Go.Proofs.YtdkabnfphmmmnaaGreatDoor
open Go.Am
structure Val (t:A0):Prop where
 ok:Ok t
 fine:Y2 t
 nm:t.some Tk=false
 cnt:t.cnt≤32
theorem Val.of {t:A0}(hok:Ok t)(h:Lf t=0):Val t∧t.some Kh=false:=by
 unfold Lf at h
 cases hc:Y7 t != 0 with
 | true=>
  rw [hc] at h
  simp only [cond_true] at h
  rw [h] at hc
  cases hc
 | false=>
  rw [hc] at h
  have hf:=I1d (show Y7 t=0 by simpa using hc)
  simp only [cond_false,R1j] at h
  cases h1:t.some Tk with
  | true=>rw [h1] at h; cases h
  | false=>
   cases h2:t.some Kh with
   | true=>rw [h1,h2] at h; cases h
   | false=>
    rw [h1,h2] at h
    by_cases h3:t.cnt > 32
    ·rw [decide_eq_true h3] at h; cases h
    ·exact ⟨⟨hok,hf,h1,by omega⟩,rfl⟩
theorem Val.kid0 {t x:A0}(h:Val t)(hx:x∈t.Of)(hc:x.cnt≤32):Val x:=by
 refine ⟨h.ok.kid hx,h.fine.kid hx,?_,hc⟩
 have:=h.nm
 rw [A0.some_eq,Bool.or_eq_false_iff] at this
 cases hn:x.some Tk with
 | false=>rfl
 | true=>
  have h2:=List.any_eq_true.2 ⟨x,hx,hn⟩
  rw [this.2] at h2
  cases h2
theorem Val.cnt_pos (t:A0):Val t→1≤t.cnt:=by
 induction t using A0.ind with
 | h t ih=>
 intro h
 have hc:=h.cnt
 rw [A0.cnt_eq] at hc ⊢
 cases h2:t.Kind == 2 with
 | true=>
  obtain ⟨x,hx,s1,s2⟩:=h.fine.arr h2
  have hm:x∈t.Of:=by rw [hx]; exact List.mem_cons_self
  rw [hx,h2] at hc
  rw [hx]
  simp only [cond_true,A0.cnt1] at hc ⊢
  have h0:=A0.cnt_ge x (h.fine.kid hm)
  have hle:x.cnt≤32:=by
   have:1 * x.cnt≤min t.Size 33 * x.cnt:=Int.mul_le_mul_of_nonneg_right (by omega) h0
   omega
  have:=ih x hm (h.kid0 hm hle)
  have:1 * 1≤min t.Size 33 * x.cnt:=Int.mul_le_mul (by omega) this (by omega) (by omega)
  omega
 | false=>
  cases h3:t.Kind == 3 with
  | true=>
   rw [h2,h3] at hc
   simp only [cond_true,cond_false] at hc ⊢
   obtain ⟨r1,r2,r3⟩:=h.fine.recd h3
   cases hl:t.Of with
   | nil=>rw [hl] at r3; simp at r3
   | cons x r=>
    have hm:x∈t.Of:=by rw [hl]; exact List.mem_cons_self
    have hb:=A0.cnts_bound r fun y hy=>A0.cnt_ge y (h.fine.kid (by rw [hl]; exact List.mem_cons_of_mem _ hy))
    rw [hl] at hc
    simp only [A0.cnts] at hc ⊢
    have:=ih x hm (h.kid0 hm (by omega))
    omega
  | false=>show 1≤min (1:Int) 33; omega
theorem Val.arr {t:A0}(h:Val t)(h2:(t.Kind == 2)=true):∃ x,t.Of=[x]∧1≤t.Size∧t.Size≤32∧Val x∧t.cnt=t.Size * x.cnt:=by
 obtain ⟨x,hx,s1,s2⟩:=h.fine.arr h2
 have hm:x∈t.Of:=by rw [hx]; exact List.mem_cons_self
 have h0:=A0.cnt_ge x (h.fine.kid hm)
 have hc:=h.cnt
 have e:=A0.cnt_eq t
 rw [hx,h2] at e
 simp only [cond_true,A0.cnt1] at e
 rw [show min t.Size 33=t.Size by omega] at e
 have hle:x.cnt≤32:=by
  have:1 * x.cnt≤t.Size * x.cnt:=Int.mul_le_mul_of_nonneg_right (by omega) h0
  omega
 exact ⟨x,hx,s1,s2,h.kid0 hm hle,by omega⟩
theorem H1r {x:A0}:∀ {l:List A0},(∀ y∈l,0≤y.cnt)→x∈l→x.cnt≤A0.cnts l
 | y::r,h,hx=>by
  have h1:=A0.cnts_bound r fun z hz=>h z (List.mem_cons_of_mem _ hz)
  have h2:=h y List.mem_cons_self
  simp only [A0.cnts]
  cases hx with
  | head=>omega
  | tail _ hx=>have:=H1r (fun z hz=>h z (List.mem_cons_of_mem _ hz)) hx; omega
theorem Val.recd {t:A0}(h:Val t)(h3:(t.Kind == 3)=true):t.Of.length=t.Names.length∧t.Of.length≤32∧(∀ x∈t.Of,Val x)∧t.cnt=A0.cnts t.Of:=by
 obtain ⟨r1,r2,r3⟩:=h.fine.recd h3
 have hn:=fun y hy=>A0.cnt_ge y (h.fine.kid hy)
 have hc:=h.cnt
 have e:=A0.cnt_eq t
 have h2:(t.Kind == 2)=false:=by
  have:t.Kind=3:=by simpa using h3
  rw [this]; rfl
 rw [h2,h3] at e
 simp only [cond_true,cond_false] at e
 refine ⟨r2,r1,fun x hx=>?_,by omega⟩
 have:=H1r hn hx
 exact h.kid0 hx (by omega)
theorem Val.leaf {t:A0}(h:Val t)(h2:(t.Kind == 2)=false)(h3:(t.Kind == 3)=false):t.cnt=1∧(t.Kind=0∨t.Kind=1):=by
 have e:=A0.cnt_eq t
 rw [h2,h3] at e
 refine ⟨by rw [e]; rfl,?_⟩
 have hn:=h.nm
 rw [A0.some_eq,Bool.or_eq_false_iff] at hn
 have hf:=h.fine.here.1
 unfold J3 fm1 at hf
 simp only [Bool.and_eq_true] at hf
 have h1:=hf.1.1.1.1.1
 cases hd:decide (t.Kind≥0) with
 | false=>rw [hd] at h1; cases h1
 | true=>
  rw [hd] at h1
  have a1:=of_decide_eq_true hd
  have a2:t.Kind≤4:=of_decide_eq_true h1
  have a3:t.Kind≠2:=by simpa using h2
  have a4:t.Kind≠3:=by simpa using h3
  have a5:t.Kind≠4:=by
   have:=hn.1
   unfold Tk at this
   simpa using this
  omega
def rep {β:Type}(f:Nat→List β):Nat→Nat→List β
 | _,0=>[]
 | k,n+1=>f k++rep f (k+1) n
def nx (path name:Str):Str:=(path++[46])++name
mutual
def A0.sc:A0→Str→List R0
 | .mk k l h s _ ns of,path=>bif k == 0 then [⟨path,true,0,1⟩] else bif k == 1 then [⟨path,false,l,h⟩] else bif k == 2 then A0.scA of path s.toNat else bif k == 3 then A0.scR of ns path else []
def A0.scA:List A0→Str→Nat→List R0
 | [],_,_=>[]
 | x::_,path,n=>rep (fun i=>A0.sc x (nx path (Lib.decDigits i))) 0 n
def A0.scR:List A0→List Str→Str→List R0
 | x::r,n::ns,path=>A0.sc x (nx path n)++A0.scR r ns path
 | _,_,_=>[]
end
theorem A0.sc_eq (t:A0)(path:Str):t.sc path=bif t.Kind == 0 then [⟨path,true,0,1⟩] else bif t.Kind == 1 then [⟨path,false,t.Low,t.High⟩] else bif t.Kind == 2 then A0.scA t.Of path t.Size.toNat else bif t.Kind == 3 then A0.scR t.Of t.Names path else []:=by cases t; rfl
theorem D1m {k:Nat}(h:k < 100):(Lib.decDigits k).length≤2:=by
 have h2:∀ k < 10,(Lib.decDigits k).length=1:=fun k hk=>by rw [Lib.decDigits,dif_pos hk]; rfl
 rw [Lib.decDigits]
 split
 ·simp
 ·rw [List.length_append,h2 _ (by omega)]; simp
theorem M23 {k:Nat}(h:k < 100):Q1i (k:Int)=some (Lib.decDigits k):=by
 unfold Q1i
 rw [if_pos (decide_eq_true (by omega))]
 rfl
theorem T24 {k:Nat}(h:k < 10):Gc (k:Int)=some (Lib.decDigits k):=by
 rw [Gc,if_pos (decide_eq_true (by omega)),Lib.decDigits,dif_pos h]
 have:k=0∨k=1∨k=2∨k=3∨k=4∨k=5∨k=6∨k=7∨k=8∨k=9:=by omega
 rcases this with rfl | rfl | rfl | rfl | rfl | rfl | rfl | rfl | rfl | rfl <;> rfl
theorem U24 {k:Nat}(h:k < 100):Gc (k:Int)=some (Lib.decDigits k):=by
 by_cases hk:k < 10
 ·exact T24 hk
 ·rw [Gc,if_neg (by simp; omega),show Int.tdiv (k:Int) 10=((k / 10:Nat):Int) from rfl,wr (n:=((k / 10:Nat):Int)) (by omega) (by omega),T24 (by omega),ob,show Int.tmod (k:Int) 10=((k % 10:Nat):Int) from rfl,wr (n:=((k % 10:Nat):Int)+1) (by omega) (by omega)]
  have hs:slc [48,49,50,51,52,53,54,55,56,57] ((k % 10:Nat):Int) (((k % 10:Nat):Int)+1)=some [UInt8.ofNat (48+k % 10)]:=by
   have:k % 10 < 10:=Nat.mod_lt _ (by omega)
   generalize k % 10=j at *
   have:j=0∨j=1∨j=2∨j=3∨j=4∨j=5∨j=6∨j=7∨j=8∨j=9:=by omega
   rcases this with rfl | rfl | rfl | rfl | rfl | rfl | rfl | rfl | rfl | rfl <;> rfl
  have hl:=D1m (k:=k / 10) (by omega)
  rw [hs,ob,if_pos (decide_eq_true (by unfold maxLen; simp; omega))]
  congr 1
  rw [Lib.decDigits.eq_1 k,dif_neg hk]
theorem H1z (s:Str)(h:s.length≤BB):Fi s=some s:=by
 unfold Fi C1l
 unfold BB at h
 rw [if_pos (decide_eq_true (by omega))]
 rfl
def Vs (path:Str)(t:A0):List R0:=bif t.Kind == 0 then [⟨path,true,0,1⟩] else bif t.Kind == 1 then [⟨path,false,t.Low,t.High⟩] else []
theorem S21 (path:Str)(a:Int)(x:A0)(s:List R0)(hp:path.length≤BB)(hs:s.length≤1000):Le path a x s=some (true,s++Vs path x):=by
 unfold Le Vs
 have hs':(s.length+1) * 41≤140737488355328:=by omega
 rw [H1z path hp]
 cases x.Kind == 0 <;> cases x.Kind == 1 <;> simp [ob,hs']
theorem C1u (path:Str)(t x:A0)(hx:t.Of=[x])(hs:t.Size≤32)(hp:path.length+t.bulk≤BB)(c:Nat)(hc:x.cnt=c)
  (ih:∀ (path:Str) (s:Int) (s1:List R0),path.length+x.bulk≤BB→0≤s→s+c≤1000→s1.length+c≤1000→A6 path x s s1=some (true,s+c,s1++x.sc path)) (hl:∀ path,(x.sc path).length=c) :
  ∀ (n k:Nat) (o:Int) (l:List R0),((k+n:Nat):Int)=t.Size→0≤o→o+(n * c:Nat)≤1000→l.length+n * c≤1000→
   L8 path t o l k=some (true,o+(n * c:Nat),l++rep (fun i=>x.sc (nx path (Lib.decDigits i))) k n)
 | 0,k,o,l,hk,_,_,_=>by
  rw [L8,if_neg (by simp; omega)]
  simp [rep]
 | n+1,k,o,l,hk,h0,h1,h2=>by
  have hd:=D1m (k:=k) (by omega)
  have hbx:=A0.bulk_eq t
  rw [hx] at hbx
  simp only [A0.bulks] at hbx
  unfold BB at hp
  rw [Nat.add_mul,Nat.one_mul] at h1 h2
  rw [L8,if_pos (decide_eq_true (by omega)),if_pos (decide_eq_true (by unfold maxLen; omega)),M23 (by omega),ob,if_pos (decide_eq_true (by unfold maxLen; simp; omega)),hx,show idx [x] 0=some x from rfl,ob,
   ih _ o l (by unfold BB; simp; omega) h0 (by omega) (by omega),ob]
  simp only [Bool.not_true,Bool.false_eq_true,if_false]
  rw [w1 (by unfold BB; omega),C1u path t x hx hs (by unfold BB; omega) c hc ih hl n (k+1) _ _ (by omega) (by omega) (by omega) (by rw [List.length_append,hl]; omega)]
  rw [rep,Nat.add_mul,Nat.one_mul,List.append_assoc]
  congr 3
  omega
theorem D1u (path:Str)(t:A0)(hp:path.length+t.bulk≤BB)(hln:t.Of.length=t.Names.length)(hv:∀ x∈t.Of,Val x)
  (ih:∀ x∈t.Of,∀ (path:Str) (s:Int) (s1:List R0),path.length+x.bulk≤BB→0≤s→s+x.cnt≤1000→s1.length+x.cnt≤1000→A6 path x s s1=some (true,s+x.cnt,s1++x.sc path)) (hl:∀ x∈t.Of,∀ path,((x.sc path).length:Int)=x.cnt) :
  ∀ (r:List A0) (k:Nat) (o:Int) (l:List R0),t.Of.drop k=r→0≤o→o+A0.cnts r≤1000→l.length+A0.cnts r≤1000→
   K8 path t o l k=some (true,o+A0.cnts r,l++A0.scR r (t.Names.drop k) path)
 | [],k,o,l,h,_,_,_=>by
  rw [K8,(A1 h).1,if_neg (by simp)]
  simp [A0.cnts,A0.scR]
 | x::r,k,o,l,h,h0,h1,h2=>by
  obtain ⟨e1,e2,e3,e4,e5⟩:=C1 h
  obtain ⟨y,f1,f2,f3⟩:=Uo (l:=t.Names) (k:=k) (by omega)
  have hof:=(hv x e5).ok
  have hofs:t.Of.length≤BB:=by have:=A0.bulk_len t.Of; have:=A0.bulk_eq t; omega
  have hc:=Val.cnt_pos x (hv x e5)
  have hr:=A0.cnts_bound r fun y hy=>by have:=Val.cnt_pos y (hv y (List.mem_of_mem_drop (i:=k+1) (by rw [e3]; exact hy))); omega
  have hbx:=A0.bulk_eq t
  have hb1:=A0.bulk_kid e5
  have hb2:=Q16 f3
  unfold BB at hp hofs
  simp only [A0.cnts] at h1 h2
  rw [K8,e1,if_pos rfl,e2,ob,if_pos (decide_eq_true (by unfold maxLen; omega)),f1,ob,if_pos (decide_eq_true (by unfold maxLen; simp; omega)),
   ih x e5 _ o l (by unfold BB; simp; omega) h0 (by omega) (by omega),ob]
  simp only [Bool.not_true,Bool.false_eq_true,if_false]
  have hlx:=hl x e5 ((path++[46])++y)
  rw [w1 (by unfold BB; omega),D1u path t (by unfold BB; omega) hln hv ih hl r (k+1) _ _ e3 (by omega) (by omega) (by rw [List.length_append]; omega)]
  rw [f2,A0.scR,A0.cnts,List.append_assoc,Int.add_assoc]
  rfl
theorem E1u {β:Type}{f:Nat→List β}{c:Nat}(h:∀ i,(f i).length=c):∀ n k,(rep f k n).length=n * c
 | 0,k=>by simp [rep]
 | n+1,k=>by rw [rep,List.length_append,h,E1u h n,Nat.add_mul]; omega
theorem H1c (t:A0):Val t→∀ path,((t.sc path).length:Int)=t.cnt:=by
 induction t using A0.ind with
 | h t ih=>
 intro hv path
 rw [A0.sc_eq]
 cases h2:t.Kind == 2 with
 | true=>
  obtain ⟨x,hx,s1,s2,hvx,e⟩:=hv.arr h2
  have hk:t.Kind=2:=by simpa using h2
  have ihx:=ih x (by rw [hx]; exact List.mem_cons_self) hvx
  have hcp:=Val.cnt_pos x hvx
  rw [hk,hx,e]
  show ((A0.scA [x] path t.Size.toNat).length:Int)=_
  rw [A0.scA,E1u (c:=x.cnt.toNat) (fun i=>by have:=ihx (nx path (Lib.decDigits i)); omega)]
  rw [Int.natCast_mul,show ((t.Size.toNat:Nat):Int)=t.Size by omega,show ((x.cnt.toNat:Nat):Int)=x.cnt by omega]
 | false=>
  cases h3:t.Kind == 3 with
  | true=>
   obtain ⟨r1,r2,r3,e⟩:=hv.recd h3
   have hk:t.Kind=3:=by simpa using h3
   rw [hk,e]
   show ((A0.scR t.Of t.Names path).length:Int)=_
   have key:∀ (l:List A0) (ns:List Str),l.length=ns.length→(∀ x∈l,x∈t.Of)→((A0.scR l ns path).length:Int)=A0.cnts l:=by
    intro l
    induction l with
    | nil=>intro ns _ _; rfl
    | cons x r ihr=>
     intro ns hl hm
     cases ns with
     | nil=>simp at hl
     | cons n ns=>
      have h1:=ih x (hm x List.mem_cons_self) (r3 x (hm x List.mem_cons_self)) (nx path n)
      have h2:=ihr ns (by simpa using hl) fun y hy=>hm y (List.mem_cons_of_mem _ hy)
      rw [A0.scR,List.length_append,A0.cnts]
      omega
   exact key t.Of t.Names r1 fun _ h=>h
  | false=>
   obtain ⟨e,hk⟩:=hv.leaf h2 h3
   rw [e]
   rcases hk with hk | hk <;> rw [hk] <;> rfl
theorem N23 (t:A0):Val t→∀ (path:Str) (s:Int) (s1:List R0),path.length+t.bulk≤BB→0≤s→s+t.cnt≤1000→s1.length+t.cnt≤1000→A6 path t s s1=some (true,s+t.cnt,s1++t.sc path):=by
 induction t using A0.ind with
 | h t ih=>
 intro hv path s s1 hp h0 h1 h2
 have hcp:=Val.cnt_pos t hv
 rw [A6,S21 path s t s1 (by omega) (by omega),ob,A0.sc_eq]
 show (if (!true)=true then _ else _)=_
 rw [if_neg (by simp)]
 cases hk2:t.Kind == 2 with
 | true=>
  obtain ⟨x,hx,s1',s2',hvx,e⟩:=hv.arr hk2
  have hk:t.Kind=2:=by simpa using hk2
  have hm:x∈t.Of:=by rw [hx]; exact List.mem_cons_self
  have hcx:=Val.cnt_pos x hvx
  obtain ⟨c,hc⟩:∃ c:Nat,x.cnt=c:=⟨x.cnt.toNat,by omega⟩
  have en:((t.Size.toNat * c:Nat):Int)=t.cnt:=by rw [e,hc,Int.natCast_mul,show ((t.Size.toNat:Nat):Int)=t.Size by omega]
  have:=C1u path t x hx s2' hp c hc (fun p s l a b c' d=>by have:=ih x hm hvx p s l a b (by omega) (by omega); rw [hc] at this; exact this) (fun p=>by have:=H1c x hvx p; omega) t.Size.toNat 0 s s1 (by omega) h0 (by omega) (by omega)
  rw [if_pos rfl]
  have hls:Vs path t=[]:=by unfold Vs; rw [hk]; rfl
  show L8 path t s (s1++Vs path t) ((0:Nat):Int)=_
  rw [hls,List.append_nil,this,en,hk,hx]
  rfl
 | false=>
  rw [if_neg (by simp)]
  cases hk3:t.Kind == 3 with
  | true=>
   obtain ⟨r1,r2,r3,e⟩:=hv.recd hk3
   have hk:t.Kind=3:=by simpa using hk3
   have:=D1u path t hp r1 r3 (fun x hx=>ih x hx (r3 x hx)) (fun x hx=>H1c x (r3 x hx)) t.Of 0 s s1 rfl h0 (by omega) (by omega)
   rw [if_pos rfl]
   have hls:Vs path t=[]:=by unfold Vs; rw [hk]; rfl
   show K8 path t s (s1++Vs path t) ((0:Nat):Int)=_
   rw [hls,List.append_nil,this,e,hk]
   rfl
  | false=>
   obtain ⟨e,hk⟩:=hv.leaf hk2 hk3
   rw [if_neg (by simp),wr (by omega) (by omega),e]
   unfold Vs
   rcases hk with hk | hk <;> rw [hk] <;> rfl
def Ra (t:A0):List R0×Int:=bif Lf t != 0 then ([],Lf t) else (t.sc [],0)
theorem P1w (t:A0)(ht:Ok t):Xl t=some (Ra t):=by
 unfold Xl Ra
 rw [O1w t ht,ob]
 cases h:Lf t != 0 with
 | true=>rfl
 | false=>
  have hv:=(Val.of ht (by simpa using h)).1
  have hc:=hv.cnt
  unfold Cq
  have:=N23 t hv [] 0 [] (by unfold Ok at ht; simpa using ht) (by omega) (by omega) (by simp; omega)
  rw [this,ob,if_neg (by simp),ob]
  rfl
theorem I1z (path:Str)(t x:A0)(hx:t.Of=[x])(hs:t.Size≤32)(hp:path.length+t.bulk≤BB)(c:Nat)
  (ih:∀ (path:Str),path.length+x.bulk≤BB→X8 x path=some (x.sc path)) (hl:∀ path,(x.sc path).length=c) :
  ∀ (n k:Nat) (l:List R0),((k+n:Nat):Int)=t.Size→l.length+n * c≤1000→
   Vd t path l k=some (l++rep (fun i=>x.sc (nx path (Lib.decDigits i))) k n)
 | 0,k,l,hk,_=>by
  rw [Vd,if_neg (by simp; omega)]
  simp [rep]
 | n+1,k,l,hk,h2=>by
  have hd:=D1m (k:=k) (by omega)
  have hbx:=A0.bulk_eq t
  rw [hx] at hbx
  simp only [A0.bulks] at hbx
  unfold BB at hp
  rw [Nat.add_mul,Nat.one_mul] at h2
  have hlx:=hl ((path++[46])++Lib.decDigits k)
  rw [Vd,if_pos (decide_eq_true (by omega)),hx,show idx [x] 0=some x from rfl,ob,if_pos (decide_eq_true (by unfold maxLen; omega)),U24 (by omega),ob,if_pos (decide_eq_true (by unfold maxLen; simp; omega)),
   ih _ (by unfold BB; simp; omega),ob,if_pos (decide_eq_true (by omega)),w1 (by unfold BB; omega),I1z path t x hx hs (by unfold BB; omega) c ih hl n (k+1) _ (by omega) (by rw [List.length_append]; omega)]
  rw [rep,List.append_assoc]
  rfl
theorem J1z (path:Str)(t:A0)(hp:path.length+t.bulk≤BB)(hln:t.Of.length=t.Names.length)(hv:∀ x∈t.Of,Val x)
  (ih:∀ x∈t.Of,∀ (path:Str),path.length+x.bulk≤BB→X8 x path=some (x.sc path)) (hl:∀ x∈t.Of,∀ path,((x.sc path).length:Int)=x.cnt) :
  ∀ (r:List A0) (k:Nat) (l:List R0),t.Of.drop k=r→l.length+A0.cnts r≤1000→
   Ud t path l k=some (l++A0.scR r (t.Names.drop k) path)
 | [],k,l,h,_=>by
  rw [Ud,(A1 h).1,if_neg (by simp)]
  simp [A0.scR]
 | x::r,k,l,h,h2=>by
  obtain ⟨e1,e2,e3,e4,e5⟩:=C1 h
  obtain ⟨y,f1,f2,f3⟩:=Uo (l:=t.Names) (k:=k) (by omega)
  have hofs:t.Of.length≤BB:=by have:=A0.bulk_len t.Of; have:=A0.bulk_eq t; omega
  have hc:=Val.cnt_pos x (hv x e5)
  have hr:=A0.cnts_bound r fun y hy=>by have:=Val.cnt_pos y (hv y (List.mem_of_mem_drop (i:=k+1) (by rw [e3]; exact hy))); omega
  have hbx:=A0.bulk_eq t
  have hb1:=A0.bulk_kid e5
  have hb2:=Q16 f3
  unfold BB at hp hofs
  simp only [A0.cnts] at h2
  have hlx:=hl x e5 ((path++[46])++y)
  rw [Ud,e1,if_pos rfl,e2,ob,if_pos (decide_eq_true (by unfold maxLen; omega)),f1,ob,if_pos (decide_eq_true (by unfold maxLen; simp; omega)),
   ih x e5 _ (by unfold BB; simp; omega),ob,if_pos (decide_eq_true (by omega)),w1 (by unfold BB; omega),J1z path t (by unfold BB; omega) hln hv ih hl r (k+1) _ e3 (by rw [List.length_append]; omega)]
  rw [f2,A0.scR,List.append_assoc]
  rfl
theorem V24 (t:A0):Val t→∀ (path:Str),path.length+t.bulk≤BB→X8 t path=some (t.sc path):=by
 induction t using A0.ind with
 | h t ih=>
 intro hv path hp
 have hcp:=hv.cnt
 rw [X8,A0.sc_eq]
 cases hk2:t.Kind == 2 with
 | true=>
  obtain ⟨x,hx,s1',s2',hvx,e⟩:=hv.arr hk2
  have hk:t.Kind=2:=by simpa using hk2
  have hm:x∈t.Of:=by rw [hx]; exact List.mem_cons_self
  have hcx:=Val.cnt_pos x hvx
  obtain ⟨c,hc⟩:∃ c:Nat,x.cnt=c:=⟨x.cnt.toNat,by omega⟩
  have en:((t.Size.toNat * c:Nat):Int)=t.cnt:=by rw [e,hc,Int.natCast_mul,show ((t.Size.toNat:Nat):Int)=t.Size by omega]
  have:=I1z path t x hx s2' hp c (fun p a=>ih x hm hvx p a) (fun p=>by have:=H1c x hvx p; omega) t.Size.toNat 0 [] (by omega) (by simp; omega)
  rw [Qm,this,hk,hx]
  rfl
 | false=>
  cases hk3:t.Kind == 3 with
  | true=>
   obtain ⟨r1,r2,r3,e⟩:=hv.recd hk3
   have hk:t.Kind=3:=by simpa using hk3
   have:=J1z path t hp r1 r3 (fun x hx=>ih x hx (r3 x hx)) (fun x hx=>H1c x (r3 x hx)) t.Of 0 [] rfl (by simp; omega)
   rw [Qm,this,hk]
   rfl
  | false=>
   obtain ⟨e,hk⟩:=hv.leaf hk2 hk3
   rcases hk with hk | hk <;> rw [hk] <;> rfl
theorem C1f (t:A0)(ht:Ok t):Hi t=some (Ra t):=by
 unfold Hi Ra
 rw [X1s t ht,ob]
 cases h:Lf t != 0 with
 | true=>rfl
 | false=>
  have hv:=(Val.of ht (by simpa using h)).1
  rw [V24 t hv [] (by unfold Ok at ht; simpa using ht),if_neg (by simp),ob]
  rfl
end Go.Proofs.YtdkabnfphmmmnaaGreatDoor

set_option linter.unusedSimpArgs false
namespace Go.Proofs.YtdkabnfphmmmnaaGreatDoor
open Go.Am
theorem F1u (t:A0)(ht:Ok t)(ih:∀ x∈t.Of,Gg x=some (x.depth:Int))(B:Nat)(hB:B≤BB) :
  ∀ (r:List A0) (k:Nat) (n:Nat),t.Of.drop k=r→n≤B→A0.depths r≤B→Og t (n:Int) k=some ((max n (A0.depths r)+1:Nat):Int)
 | [],k,n,h,hb,_=>by
  rw [Og,(A1 h).1,if_neg (by simp),w1 (by omega)]
  simp [A0.depths]
 | x::r,k,n,h,hb,hd=>by
  obtain ⟨e1,e2,e3,e4,e5⟩:=C1 h
  have:=ht.ofs
  simp only [A0.depths] at hd
  rw [Og,e1,if_pos rfl,e2,ob,ih x e5,ob,w1 (by omega),show max (n:Int) (x.depth:Int)=((max n x.depth:Nat):Int) by omega,F1u t ht ih B hB r (k+1) _ e3 (by omega) (by omega)]
  simp only [A0.depths]
  rw [show max (max n x.depth) (A0.depths r)=max n (max x.depth (A0.depths r)) by omega]
theorem K1z (t:A0):Ok t→Gg t=some (t.depth:Int):=by
 induction t using A0.ind with
 | h t ih=>
 intro ht
 have hn:=ht.nodes
 have hd:=A0.depth_nodes t
 rw [Gg]
 rw [A0.depth_eq] at hd
 have:=F1u t ht (fun x hx=>ih x hx (ht.kid hx)) BB (Nat.le_refl _) t.Of 0 0 rfl (by omega) (by omega)
 rw [A0.depth_eq]
 rw [show max 0 (A0.depths t.Of)=A0.depths t.Of by omega] at this
 exact this
theorem I1c (t:A0)(ht:Ok t)(ih:∀ x∈t.Of,Jg x=some (x.depth:Int))(B:Nat)(hB:B≤BB) :
  ∀ (r:List A0) (k:Nat) (n:Nat),t.Of.drop k=r→n≤B→A0.depths r≤B→Td t (n:Int) k=some ((max n (A0.depths r)+1:Nat):Int)
 | [],k,n,h,hb,_=>by
  rw [Td,(A1 h).1,if_neg (by simp),w1 (by omega)]
  simp [A0.depths]
 | x::r,k,n,h,hb,hd=>by
  obtain ⟨e1,e2,e3,e4,e5⟩:=C1 h
  have:=ht.ofs
  simp only [A0.depths] at hd
  rw [Td,e1,if_pos rfl,e2,ob,ih x e5,ob,w1 (by omega),I1c t ht ih B hB r (k+1) _ e3 (by omega) (by omega),I1c t ht ih B hB r (k+1) _ e3 (by omega) (by omega)]
  simp only [A0.depths]
  by_cases hx:(x.depth:Int) > (n:Int)
  ·rw [if_pos (decide_eq_true hx),show max n (max x.depth (A0.depths r))=max x.depth (A0.depths r) by omega]
  ·rw [if_neg (by simpa using hx),show max n (max x.depth (A0.depths r))=max n (A0.depths r) by omega]
theorem Q1w (t:A0):Ok t→Jg t=some (t.depth:Int):=by
 induction t using A0.ind with
 | h t ih=>
 intro ht
 have hn:=ht.nodes
 have hd:=A0.depth_nodes t
 rw [Jg]
 rw [A0.depth_eq] at hd
 have:=I1c t ht (fun x hx=>ih x hx (ht.kid hx)) BB (Nat.le_refl _) t.Of 0 0 rfl (by omega) (by omega)
 rw [A0.depth_eq]
 rw [show max 0 (A0.depths t.Of)=A0.depths t.Of by omega] at this
 exact this
structure Out (t:A0):Prop where
 val:Val t
 names:t.all X7=true
 deep:t.depth≤12
def KK:Nat:=169728
theorem R1w {s:Str}(h:J5 s=true):s.length≤12:=by
 unfold J5 at h
 by_cases hl:(s.length:Int)≤12
 ·omega
 ·rw [decide_eq_false hl] at h; simp at h
theorem X1n:∀ {l:List Str},l.all J5=true→(l.map fun s=>s.length+1).sum≤13 * l.length
 | [],_=>by simp
 | s::r,h=>by
  simp only [List.all_cons,Bool.and_eq_true] at h
  have:=R1w h.1
  have:=X1n h.2
  simp only [List.map_cons,List.sum_cons,List.length_cons]
  omega
theorem I1r {p:A0→Bool}{t:A0}(h:t.all p=true):p t=true∧∀ x∈t.Of,x.all p=true:=by
 rw [A0.all_eq,Bool.and_eq_true] at h
 exact ⟨h.1,fun x hx=>A0.alls_mem h.2 hx⟩
theorem Z1s {t:A0}(hf:Y2 t)(hn:t.some Tk=false)(ha:t.all X7=true):t.Name.length+(t.Names.map fun s=>s.length+1).sum+8≤424:=by
 obtain ⟨h1,_⟩:=hf.here
 have h2:=(I1r ha).1
 unfold X7 at h2
 simp only [Bool.and_eq_true] at h2
 have h3:=X1n h2.2
 rw [A0.some_eq,Bool.or_eq_false_iff] at hn
 have hk4:(t.Kind == 4)=false:=hn.1
 unfold J3 at h1
 simp only [Bool.and_eq_true] at h1
 have f4:=h1.1.1.2
 have f5:=h1.1.2
 unfold fm4 at f4
 unfold fm5 at f5
 rw [hk4] at f4
 have hnm:t.Name=[]:=by simpa using f4
 rw [hnm]
 cases hk3:t.Kind == 3 with
 | true=>
  have:=(hf.recd hk3)
  simp only [List.length_nil]
  omega
 | false=>
  rw [hk3] at f5
  have:(t.Names.length:Int)=0:=by simpa using f5
  simp only [List.length_nil]
  omega
theorem J1r {c:Nat}:∀ {l:List A0} {d:Nat},(∀ x∈l,(x.bulk:Int)≤c * (x.cnt * x.depth)∧1≤x.cnt∧x.depth≤d)→(A0.bulks l:Int)≤c * (A0.cnts l * d)
 | [],d,_=>by simp [A0.bulks,A0.cnts]
 | x::r,d,h=>by
  obtain ⟨h1,h2,h3⟩:=h x List.mem_cons_self
  have h4:=J1r (c:=c) (d:=d) fun y hy=>h y (List.mem_cons_of_mem _ hy)
  simp only [A0.bulks,A0.cnts]
  have h5:x.cnt * (x.depth:Int)≤x.cnt * d:=Int.mul_le_mul_of_nonneg_left (by omega) (by omega)
  have h6:(c:Int) * (x.cnt * x.depth)≤c * (x.cnt * d):=Int.mul_le_mul_of_nonneg_left h5 (by omega)
  rw [Int.add_mul,Int.mul_add]
  omega
theorem L1z (t:A0):Val t→t.all X7=true→(t.bulk:Int)≤(424:Nat) * (t.cnt * t.depth):=by
 induction t using A0.ind with
 | h t ih=>
 intro hv ha
 have hw:=Z1s hv.fine hv.nm ha
 have hb:=A0.bulk_eq t
 have hc:=Val.cnt_pos t hv
 have hd:=A0.depth_eq t
 have hk:=(I1r ha).2
 have key:∀ c:Int,(A0.bulks t.Of:Int)≤(424:Nat) * (c * A0.depths t.Of)→0≤c→c≤t.cnt→(t.bulk:Int)≤(424:Nat) * (t.cnt * t.depth):=fun c h1 h0 h2=>by
  have h3:c * (A0.depths t.Of:Int)≤t.cnt * A0.depths t.Of:=Int.mul_le_mul_of_nonneg_right h2 (by omega)
  have h4:t.cnt * (t.depth:Int)=t.cnt * A0.depths t.Of+t.cnt:=by rw [hd,Int.natCast_add,Int.mul_add]; simp
  rw [h4]
  omega
 cases hk2:t.Kind == 2 with
 | true=>
  obtain ⟨x,hx,s1,s2,hvx,e⟩:=hv.arr hk2
  have hm:x∈t.Of:=by rw [hx]; exact List.mem_cons_self
  have hcx:=Val.cnt_pos x hvx
  have:=ih x hm hvx (hk x hm)
  refine key x.cnt ?_ (by omega) ?_
  ·rw [hx]
   simp only [A0.bulks,A0.depths]
   rw [show max x.depth 0=x.depth by omega]
   omega
  ·rw [e]
   have:1 * x.cnt≤t.Size * x.cnt:=Int.mul_le_mul_of_nonneg_right (by omega) (by omega)
   omega
 | false=>
  cases hk3:t.Kind == 3 with
  | true=>
   obtain ⟨r1,r2,r3,e⟩:=hv.recd hk3
   refine key t.cnt ?_ (by omega) (Int.le_refl _)
   rw [e]
   exact J1r fun x hx=>⟨ih x hx (r3 x hx) (hk x hx),Val.cnt_pos x (r3 x hx),A0.depth_le hx⟩
  | false=>
   refine key 0 ?_ (Int.le_refl _) (by omega)
   have hf:=hv.fine.here.1
   unfold J3 fm6 at hf
   rw [hk2,hk3] at hf
   simp only [cond_false,Bool.and_eq_true] at hf
   have hl:(t.Of.length:Int)=0:=by simpa using hf.2
   rw [List.eq_nil_of_length_eq_zero (by omega:t.Of.length=0)]
   simp [A0.bulks]
theorem Out.bulk {t:A0}(h:Out t):t.bulk≤KK:=by
 have h1:=L1z t h.val h.names
 have h2:=Val.cnt_pos t h.val
 have h3:=h.val.cnt
 have h4:=h.deep
 have:t.cnt * (t.depth:Int)≤32 * 12:=Int.mul_le_mul h3 (by omega) (by omega) (by omega)
 unfold KK
 omega
mutual
def A0.rp (m:List (Str×A0)):A0→Option A0
 | .mk k l h s n ns of=>bif k == 4 then mgt n m else (A0.rps m of).map fun of'=>A0.mk k l h s n ns of'
def A0.rps (m:List (Str×A0)):List A0→Option (List A0)
 | []=>Option.some []
 | x::r=>(A0.rp m x).bind fun y=>(A0.rps m r).map fun s=>y::s
end
theorem A0.rp_eq (m:List (Str×A0))(t:A0):t.rp m=bif t.Kind == 4 then mgt t.Name m else (A0.rps m t.Of).map fun of'=>A0.mk t.Kind t.Low t.High t.Size t.Name t.Names of':=by cases t; rfl
def MOk (m:List (Str×A0)):Prop:=∀ p∈m,Out p.2
theorem G1u {k:Str}{x:A0}:∀ {m:List (Str×A0)},mgt k m=some x→∃ k',(k',x)∈m
 | [],h=>by cases h
 | (k',y)::r,h=>by
  unfold mgt at h
  cases hk:k == k' with
  | true=>rw [hk] at h; cases h; exact ⟨k',List.mem_cons_self⟩
  | false=>rw [hk] at h; obtain ⟨k2,h2⟩:=G1u h; exact ⟨k2,List.mem_cons_of_mem _ h2⟩
theorem MOk.get {m:List (Str×A0)}(h:MOk m){k:Str}{x:A0}(hg:mgt k m=some x):Out x:=by
 obtain ⟨k',hm⟩:=G1u hg
 exact h _ hm
theorem T21 {m:List (Str×A0)}(hm:MOk m)(t:A0):∀ y,t.rp m=some y→
  (t.all J3=true→y.all J3=true)∧(t.all Kc=true→y.all Kc=true)∧(t.all X7=true→y.all X7=true)∧y.some Tk=false∧y.bulk≤t.bulk+t.nodes * KK:=by
 induction t using A0.ind with
 | h t ih=>
 intro y hy
 rw [A0.rp_eq] at hy
 cases hk:t.Kind == 4 with
 | true=>
  rw [hk] at hy
  have ho:=hm.get hy
  have hb:=ho.bulk
  refine ⟨fun _=>ho.val.fine.form,fun _=>ho.val.fine.num,fun _=>ho.names,ho.val.nm,?_⟩
  rw [A0.nodes_eq,Nat.add_mul]
  omega
 | false=>
  rw [hk,cond_false] at hy
  obtain ⟨of,ho,rfl⟩:=Option.map_eq_some_iff.1 hy
  have key:∀ (l:List A0) (of:List A0),(∀ x∈l,x∈t.Of)→A0.rps m l=some of→of.length=l.length∧(A0.alls J3 l=true→A0.alls J3 of=true)∧(A0.alls Kc l=true→A0.alls Kc of=true)∧
    (A0.alls X7 l=true→A0.alls X7 of=true)∧of.any (A0.some Tk)=false∧A0.bulks of≤A0.bulks l+A0.nodess l * KK:=by
   intro l
   induction l with
   | nil=>intro of _ h; cases h; exact ⟨rfl,fun h=>h,fun h=>h,fun h=>h,rfl,by simp [A0.bulks]⟩
   | cons x r ihr=>
    intro of hl h
    rw [A0.rps] at h
    obtain ⟨z,hz,h2⟩:=Option.bind_eq_some_iff.1 h
    obtain ⟨s,hs,rfl⟩:=Option.map_eq_some_iff.1 h2
    obtain ⟨a1,a2,a3,a4,a5⟩:=ih x (hl x List.mem_cons_self) z hz
    obtain ⟨b0,b1,b2,b3,b4,b5⟩:=ihr s (fun y hy=>hl y (List.mem_cons_of_mem _ hy)) hs
    simp only [A0.alls,Bool.and_eq_true,List.any_cons,Bool.or_eq_false_iff,A0.bulks,A0.nodess,List.length_cons,Nat.add_mul]
    exact ⟨by omega,fun h=>⟨a1 h.1,b1 h.2⟩,fun h=>⟨a2 h.1,b2 h.2⟩,fun h=>⟨a3 h.1,b3 h.2⟩,⟨a4,b4⟩,by omega⟩
  obtain ⟨k0,k1,k2,k3,k4,k5⟩:=key t.Of of (fun _ h=>h) ho
  have e1:J3 (A0.mk t.Kind t.Low t.High t.Size t.Name t.Names of)=J3 t:=by
   unfold J3 fm1 fm2 fm3 fm4 fm5 fm6
   simp only [k0]
  have e2:Kc (A0.mk t.Kind t.Low t.High t.Size t.Name t.Names of)=Kc t:=by
   unfold Kc nm1 nm2
   simp only [k0]
  have e3:X7 (A0.mk t.Kind t.Low t.High t.Size t.Name t.Names of)=X7 t:=rfl
  simp only [A0.all_eq,Bool.and_eq_true,e1,e2,e3,A0.some_eq,Bool.or_eq_false_iff]
  refine ⟨fun h=>⟨h.1,k1 h.2⟩,fun h=>⟨h.1,k2 h.2⟩,fun h=>⟨h.1,k3 h.2⟩,⟨hk,k4⟩,?_⟩
  rw [A0.bulk_eq,A0.bulk_eq t,A0.nodes_eq,Nat.add_mul]
  simp only
  omega
theorem L22 (m:List (Str×A0))(t:A0)(ht:Ok t)(x2:List Str)(ih:∀ x∈t.Of,W4 x m=some (x,true)) :
  ∀ (r:List A0) (k:Nat) (a:List A0),t.Of.drop k=r→a.length=k→R5 m t x2 a k=some (⟨t.Kind,t.Low,t.High,t.Size,t.Name,x2,a++r⟩,true)
 | [],k,a,h,ha=>by rw [R5,(A1 h).1,if_neg (by simp)]; simp
 | x::r,k,a,h,ha=>by
  obtain ⟨e1,e2,e3,e4,e5⟩:=C1 h
  have:=ht.ofs
  unfold BB at this
  rw [R5,e1,if_pos rfl,e2,ob,ih x e5,ob]
  simp only [Bool.not_true,Bool.false_eq_true,if_false]
  rw [if_pos (decide_eq_true (by omega)),w1 (by unfold BB; omega),L22 m t ht x2 ih r (k+1) (a++[x]) e3 (by simp; omega)]
  simp
theorem H1u {p:A0→Bool}{l:List A0}(h:l.any p=false){x:A0}(hx:x∈l):p x=false:=by
 cases hp:p x with
 | false=>rfl
 | true=>have h2:=List.any_eq_true.2 ⟨x,hx,hp⟩; rw [h] at h2; cases h2
theorem M22 (m:List (Str×A0))(t:A0)(ht:Ok t)(ih:∀ x∈t.Of,W4 x m=some (x,true)):Mc m t=some (t,true):=by
 have hnm:=ht.names
 unfold BB at hnm
 rw [Mc]
 unfold Ka
 rw [if_pos (decide_eq_true (by omega)),ob,Qm,L22 m t ht t.Names ih t.Of 0 [] rfl rfl,List.nil_append]
 cases t
 rfl
theorem W24 (m:List (Str×A0))(t:A0):Ok t→t.some Tk=false→W4 t m=some (t,true):=by
 induction t using A0.ind with
 | h t ih=>
 intro ht hn
 rw [A0.some_eq,Bool.or_eq_false_iff] at hn
 have hk:(t.Kind == 4)=false:=hn.1
 rw [W4,hk,if_neg (by simp)]
 exact M22 m t ht fun x hx=>ih x hx (ht.kid hx) (H1u hn.2 hx)
def F8:Option A0→A0×Bool
 | some x=>(x,true)
 | none=>(zTy,false)
 where zTy:A0:=A0.mk 0 0 0 0 [] [] []
theorem N22 (m:List (Str×A0))(t:A0)(ht:Ok t)(x2:List Str)(ih:∀ x∈t.Of,W4 x m=some (F8 (x.rp m))) :
  ∀ (r:List A0) (k:Nat) (a:List A0),t.Of.drop k=r→a.length=k→R5 m t x2 a k=some (F8 ((A0.rps m r).map fun s=>⟨t.Kind,t.Low,t.High,t.Size,t.Name,x2,a++s⟩))
 | [],k,a,h,ha=>by rw [R5,(A1 h).1,if_neg (by simp)]; simp [A0.rps,F8]
 | x::r,k,a,h,ha=>by
  obtain ⟨e1,e2,e3,e4,e5⟩:=C1 h
  have:=ht.ofs
  unfold BB at this
  rw [R5,e1,if_pos rfl,e2,ob,ih x e5,ob,A0.rps]
  cases hx:x.rp m with
  | none=>simp [F8,F8.zTy]
  | some y=>
   simp only [F8,Bool.not_true,Bool.false_eq_true,if_false,Option.bind_some]
   rw [if_pos (decide_eq_true (by omega)),w1 (by unfold BB; omega),N22 m t ht x2 ih r (k+1) (a++[y]) e3 (by simp; omega)]
   cases A0.rps m r <;> simp [F8]
theorem A1t {m:List (Str×A0)}(hm:MOk m)(t:A0):Ok t→W4 t m=some (F8 (t.rp m)):=by
 induction t using A0.ind with
 | h t ih=>
 intro ht
 rw [W4,A0.rp_eq]
 cases hk:t.Kind == 4 with
 | true=>
  rw [if_pos rfl,ob,cond_true]
  cases hg:mgt t.Name m with
  | none=>rfl
  | some x=>
   have ho:=hm.get hg
   have hb:=ho.val.ok
   have:=M22 m x hb fun z hz=>W24 m z (hb.kid hz) (by
    have:=ho.val.nm
    rw [A0.some_eq,Bool.or_eq_false_iff] at this
    exact H1u this.2 hz)
   simp only [Option.isSome_some,Bool.not_true,Bool.false_eq_true,if_false,Option.getD_some]
   rw [this]
   rfl
 | false=>
  have hnm:=ht.names
  unfold BB at hnm
  rw [if_neg (by simp),cond_false,Mc]
  unfold Ka
  rw [if_pos (decide_eq_true (by omega)),ob,Qm,N22 m t ht t.Names (fun x hx=>ih x hx (ht.kid hx)) t.Of 0 [] rfl rfl]
  simp
def dec (p:Str×A0):B0:=B0.mk 0 p.1 p.2 0 (D0.mk 0 0 [] []) [] [] []
theorem I1u (a b:Str):(a == b)=(b == a):=by
 rw [Bool.eq_iff_iff,beq_iff_eq,beq_iff_eq]
 exact ⟨fun h=>h.symm,fun h=>h.symm⟩
theorem J1u (m:List (Str×A0))(hl:m.length≤BB)(t:A0):∀ (r:List (Str×A0)) (k:Nat),m.drop k=r→S8 (m.map dec) t k=some (F8 (mgt t.Name r))
 | [],k,h=>by
  have h':(m.map dec).drop k=[]:=by rw [← List.map_drop,h]; rfl
  rw [S8,(A1 h').1,if_neg (by simp)]; rfl
 | (n,x)::r,k,h=>by
  have h':(m.map dec).drop k=dec (n,x)::r.map dec:=by rw [← List.map_drop,h]; rfl
  obtain ⟨e1,e2,e3,e4,e5⟩:=C1 h'
  obtain ⟨_,_,g3,g4,_⟩:=C1 h
  rw [S8,e1,if_pos rfl,e2,ob,ob,w1 (by omega),J1u m hl t r (k+1) g3,mgt]
  show (if (n == t.Name)=true then some (x,true) else _)=_
  rw [I1u n t.Name]
  cases t.Name == n <;> simp [F8]
theorem K1u (m:List (Str×A0))(t:A0)(ht:Ok t)(ih:∀ x∈t.Of,Bd (m.map dec) x=some (F8 (x.rp m))) :
  ∀ (r:List A0) (k:Nat) (a:List A0),t.Of.drop k=r→a.length=k→Od (m.map dec) t a k=some (F8 ((A0.rps m r).map fun s=>⟨t.Kind,t.Low,t.High,t.Size,t.Name,t.Names,a++s⟩))
 | [],k,a,h,ha=>by rw [Od,(A1 h).1,if_neg (by simp)]; simp [A0.rps,F8]
 | x::r,k,a,h,ha=>by
  obtain ⟨e1,e2,e3,e4,e5⟩:=C1 h
  have:=ht.ofs
  unfold BB at this
  rw [Od,e1,if_pos rfl,e2,ob,ih x e5,ob,A0.rps]
  cases hx:x.rp m with
  | none=>simp [F8,F8.zTy]
  | some y=>
   simp only [F8,Bool.not_true,Bool.false_eq_true,if_false,Option.bind_some]
   rw [if_pos (decide_eq_true (by omega)),w1 (by unfold BB; omega),K1u m t ht ih r (k+1) (a++[y]) e3 (by simp; omega)]
   cases A0.rps m r <;> simp [F8]
theorem B1t (m:List (Str×A0))(hl:m.length≤BB)(t:A0):Ok t→Bd (m.map dec) t=some (F8 (t.rp m)):=by
 induction t using A0.ind with
 | h t ih=>
 intro ht
 rw [Bd,A0.rp_eq,Qm,J1u m hl t m 0 rfl,K1u m t ht (fun x hx=>ih x hx (ht.kid hx)) t.Of 0 [] rfl rfl]
 cases t.Kind == 4 <;> simp
def Ai (m:List (Str×A0))(t:A0):A0×Int:=
 bif Y7 t != 0 then (F8.zTy,Y7 t) else match t.rp m with
  | none=>(F8.zTy,7)
  | some x=>bif x.some Kh then (F8.zTy,8) else bif (decide ((x.depth:Int) > 12)||decide (x.cnt > 32)) then (F8.zTy,4) else (x,0)
theorem C1t {t:A0}(h:Y7 t=0):t.nodes≤1024∧t.all X7=true:=by
 unfold Y7 Wc at h
 by_cases h1:(t.nodes:Int) > 1024
 ·rw [decide_eq_true h1] at h; simp at h
 ·refine ⟨by omega,?_⟩
  revert h
  cases (bif decide ((t.nodes:Int) > 1024) then true else decide ((t.depth:Int) > 12)) <;> cases t.all J3 <;> cases t.all X7 <;> simp
theorem E1m {m:List (Str×A0)}(hm:MOk m){t x:A0}(hb:t.bulk≤4200000)(hc:Y7 t=0)(hx:t.rp m=some x):Ok x∧Y2 x∧x.some Tk=false∧x.all X7=true:=by
 obtain ⟨h1,h2,h3,h4,h5⟩:=T21 hm t x hx
 have hf:=I1d hc
 obtain ⟨hn,hna⟩:=C1t hc
 refine ⟨?_,⟨h1 hf.form,h2 hf.num⟩,h4,h3 hna⟩
 have:t.nodes * KK≤1024 * KK:=Nat.mul_le_mul_right _ hn
 unfold Ok BB
 unfold KK at *
 omega
theorem K1r {m:List (Str×A0)}(hm:MOk m){t:A0}(hb:t.bulk≤4200000)(h:(Ai m t).2=0):Out (Ai m t).1∧(Ai m t).1.some Kh=false:=by
 unfold Ai at h ⊢
 cases hc:Y7 t != 0 with
 | true=>rw [hc] at h; simp only [cond_true] at h; rw [h] at hc; cases hc
 | false=>
  have hc':Y7 t=0:=by simpa using hc
  rw [hc] at h
  simp only [cond_false] at h ⊢
  cases hx:t.rp m with
  | none=>rw [hx] at h; simp at h
  | some x=>
   rw [hx] at h
   simp only at h ⊢
   obtain ⟨a1,a2,a3,a4⟩:=E1m hm hb hc' hx
   cases h2:x.some Kh with
   | true=>rw [h2] at h; simp at h
   | false=>
    rw [h2] at h
    by_cases h3:(x.depth:Int) > 12
    ·rw [decide_eq_true h3] at h; simp at h
    ·by_cases h4:x.cnt > 32
     ·rw [decide_eq_true h4] at h; simp at h
     ·rw [decide_eq_false h3,decide_eq_false h4]
      exact ⟨⟨⟨a1,a2,a3,by simp only [cond_false,Bool.or_false]; omega⟩,a4,by simp only [cond_false,Bool.or_false]; omega⟩,h2⟩
theorem D1f {m:List (Str×A0)}(hm:MOk m)(t:A0)(hb:t.bulk≤4200000):Qg t m=some (Ai m t):=by
 have ht:Ok t:=by unfold Ok BB; omega
 unfold Qg Ai
 rw [C1c t ht,ob,A1t hm t ht]
 cases hc:Y7 t != 0 with
 | true=>rfl
 | false=>
  rw [if_neg (by simp),ob]
  cases hx:t.rp m with
  | none=>rfl
  | some x=>
   obtain ⟨a1,a2,a3,a4⟩:=E1m hm hb (by simpa using hc) hx
   simp only [F8,Bool.not_true,Bool.false_eq_true,if_false]
   rw [E1r x a1,K1z x a1,F1r x a2]
   simp only [ob]
   cases x.some Kh <;> cases decide ((x.depth:Int) > 12) <;> cases h4:decide (x.cnt > 32) <;> simp only [ob,Bool.not_false,Bool.not_true,Bool.false_eq_true,if_true,if_false,cond_true,cond_false,Bool.or_true,Bool.true_or,Bool.or_false,F8.zTy,h4]
theorem A1k {m:List (Str×A0)}(hm:MOk m)(hl:m.length≤BB)(t:A0)(hb:t.bulk≤4200000):Fh (m.map dec) t=some (Ai m t):=by
 have ht:Ok t:=by unfold Ok BB; omega
 unfold Fh Ai
 rw [S17 t ht,ob,B1t m hl t ht]
 cases hc:Y7 t != 0 with
 | true=>rfl
 | false=>
  rw [if_neg (by simp),ob]
  cases hx:t.rp m with
  | none=>rfl
  | some x=>
   obtain ⟨a1,a2,a3,a4⟩:=E1m hm hb (by simpa using hc) hx
   simp only [F8,Bool.not_true,Bool.false_eq_true,if_false]
   rw [B1f x a1 a2.form,Q1w x a1,W1n x a2]
   simp only [ob]
   cases x.some Kh <;> cases decide ((x.depth:Int) > 12) <;> cases h4:decide (x.cnt > 32) <;> simp only [ob,Bool.not_false,Bool.not_true,Bool.false_eq_true,if_true,if_false,cond_true,cond_false,Bool.or_true,Bool.true_or,Bool.or_false,F8.zTy,h4]
end Go.Proofs.YtdkabnfphmmmnaaGreatDoor

set_option linter.unusedSimpArgs false
namespace Go.Proofs.YtdkabnfphmmmnaaGreatDoor
open Go.Am
theorem L1u {k:Str}{x:A0}:∀ {m:List (Str×A0)},mgt k m=none→mpt k x m=m++[(k,x)]
 | [],_=>rfl
 | (k',y)::r,h=>by
  unfold mgt at h
  unfold mpt
  cases hk:k == k' with
  | true=>rw [hk] at h; cases h
  | false=>rw [hk] at h; rw [cond_false,L1u h]; rfl
def Dp:List B0→List (Str×A0)→List (Str×A0)×Int
 | [],m=>(m,0)
 | d::r,m=>bif d.Kind != 0 then Dp r m else bif !J5 d.Name then ([],7) else bif (mgt d.Name m).isSome then ([],8) else
   bif (Ai m d.TypeV).2 != 0 then ([],(Ai m d.TypeV).2) else Dp r (m++[(d.Name,(Ai m d.TypeV).1)])
def DOk (ds:List B0):Prop:=ds.length≤5000000∧∀ d∈ds,d.TypeV.bulk≤4200000∧d.Name.length≤BB
theorem MOk.snoc {m:List (Str×A0)}(hm:MOk m){d:B0}(hb:d.TypeV.bulk≤4200000)(h:(Ai m d.TypeV).2=0)(k:Str):MOk (m++[(k,(Ai m d.TypeV).1)]):=by
 intro p hp
 rw [List.mem_append] at hp
 rcases hp with hp | hp
 ·exact hm p hp
 ·simp at hp
  subst hp
  exact (K1r hm hb h).1
def J1c (e:List (Str×A0)×Int)(t:A0):A0×Int:=bif e.2 != 0 then (F8.zTy,e.2) else Ai e.1 t
theorem K1d {ds:List B0}:∀ (r:List B0) (m:List (Str×A0)),(∀ d∈r,d.TypeV.bulk≤4200000)→MOk m→MOk (Dp r m).1∧(Dp r m).1.length≤m.length+r.length
 | [],m,_,hm=>⟨hm,by simp [Dp]⟩
 | d::r,m,hd,hm=>by
  have hn:MOk []:=fun p hp=>by cases hp
  have hr:=fun x hx=>hd x (List.mem_cons_of_mem _ hx)
  rw [Dp]
  cases d.Kind != 0 with
  | true=>have:=K1d (ds:=ds) r m hr hm; exact ⟨this.1,by simp only [cond_true,List.length_cons]; omega⟩
  | false=>
   cases J5 d.Name with
   | false=>exact ⟨hn,by simp⟩
   | true=>
    cases (mgt d.Name m).isSome with
    | true=>exact ⟨hn,by simp⟩
    | false=>
     cases h:(Ai m d.TypeV).2 != 0 with
     | true=>exact ⟨hn,by simp⟩
     | false=>
      have:=K1d (ds:=ds) r _ hr (hm.snoc (hd d List.mem_cons_self) (by simpa using h) d.Name)
      refine ⟨this.1,?_⟩
      have h2:=this.2
      simp only [List.length_append,List.length_cons,List.length_nil,cond_false,Bool.not_true] at h2 ⊢
      omega
theorem E1h (ds:List B0)(hd:DOk ds)(t:A0)(ht:t.bulk≤4200000):∀ (r:List B0) (k:Nat) (m:List (Str×A0)),ds.drop k=r→MOk m→Q7 ds t m k=some (J1c (Dp r m) t)
 | [],k,m,h,hm=>by
  rw [Q7,(A1 h).1,if_neg (by simp),D1f hm t ht]
  rfl
 | d::r,k,m,h,hm=>by
  obtain ⟨e1,e2,e3,e4,e5⟩:=C1 h
  have hl:=hd.1
  obtain ⟨hb,hn⟩:=hd.2 d e5
  rw [Q7,e1,if_pos rfl,e2,ob,w1 (by unfold BB; omega),E1h ds hd t ht r (k+1) m e3 hm,D1n _ hn,ob,Dp]
  cases d.Kind != 0 with
  | true=>rfl
  | false=>
   rw [if_neg (by simp),cond_false]
   cases J5 d.Name with
   | false=>rfl
   | true=>
    rw [if_neg (by simp),ob]
    cases hg:mgt d.Name m with
    | some y=>rfl
    | none=>
     rw [D1f hm _ hb]
     simp only [Option.isSome_none,Bool.false_eq_true,if_false,Bool.not_true,cond_false,ob]
     cases hc:(Ai m d.TypeV).2 != 0 with
     | true=>simp only [if_true,cond_true,J1c,hc,F8.zTy]
     | false=>
      have hm2:=hm.snoc hb (by simpa using hc) d.Name
      rw [if_neg (by simp),L1u hg,E1h ds hd t ht r (k+1) _ e3 hm2]
      rfl
def K2 (ds:List B0)(t:A0):A0×Int:=J1c (Dp ds []) t
theorem MOk.nil:MOk []:=fun p hp=>by cases hp
theorem M1z (ds:List B0)(hd:DOk ds)(t:A0)(ht:t.bulk≤4200000):Ln ds t=some (K2 ds t):=by
 unfold Ln K2
 exact E1h ds hd t ht ds 0 [] rfl .nil
theorem L1r (ds:List B0)(d:B0)(m:List (Str×A0))(hl:m.length≤BB)(i:Nat)(b:Option (List B0×Int))
  (hb:(Fh (m.map dec) d.TypeV>>=fun x4=>if (x4.2 != 0)=true then some ([],x4.2) else if (decide (((m.map dec).length+1) * 257≤140737488355328))=true then X5 ds (m.map dec++[(B0.mk 0 d.Name x4.1 0 (D0.mk 0 0 [] []) [] [] [])]) (IntKind.i64.wrap ((i:Int)+1)) else none)=b) :
  ∀ (r:List (Str×A0)) (k:Nat),m.drop k=r→Tg ds d (m.map dec) i k=if (mgt d.Name r).isSome=true then some ([],8) else b
 | [],k,h=>by
  have h':(m.map dec).drop k=[]:=by rw [← List.map_drop,h]; rfl
  rw [Tg,(A1 h').1,if_neg (by simp),hb]; rfl
 | (n,x)::r,k,h=>by
  have h':(m.map dec).drop k=dec (n,x)::r.map dec:=by rw [← List.map_drop,h]; rfl
  obtain ⟨e1,e2,e3,e4,e5⟩:=C1 h'
  obtain ⟨_,_,g3,g4,_⟩:=C1 h
  rw [Tg,e1,if_pos rfl,e2,ob,w1 (by omega),L1r ds d m hl i b hb r (k+1) g3,mgt]
  show (if (n == d.Name)=true then _ else _)=_
  rw [I1u n d.Name]
  cases d.Name == n <;> simp
theorem F1h (ds:List B0)(hd:DOk ds):∀ (r:List B0) (k:Nat) (m:List (Str×A0)),ds.drop k=r→MOk m→m.length+r.length≤5000000→X5 ds (m.map dec) k=some ((Dp r m).1.map dec,(Dp r m).2)
 | [],k,m,h,hm,_=>by rw [X5,(A1 h).1,if_neg (by simp)]; rfl
 | d::r,k,m,h,hm,hlm=>by
  obtain ⟨e1,e2,e3,e4,e5⟩:=C1 h
  have hl:=hd.1
  obtain ⟨hb,hn⟩:=hd.2 d e5
  simp only [List.length_cons] at hlm
  have h2:=L1r ds d m (by unfold BB; omega) k _ rfl m 0 rfl
  rw [← Qm] at h2
  rw [X5,e1,if_pos rfl,e2,ob,h2,Sk _ hn,w1 (by unfold BB; omega),A1k hm (by unfold BB; omega) _ hb,F1h ds hd r (k+1) m e3 hm (by omega),Dp]
  cases d.Kind != 0 with
  | true=>rfl
  | false=>
   rw [if_neg (by simp),cond_false,ob]
   cases J5 d.Name with
   | false=>rfl
   | true=>
    cases hg:mgt d.Name m with
    | some y=>rfl
    | none=>
     simp only [Option.isSome_none,Bool.false_eq_true,if_false,Bool.not_true,cond_false,ob]
     cases hc:(Ai m d.TypeV).2 != 0 with
     | true=>rfl
     | false=>
      have hm2:=hm.snoc hb (by simpa using hc) d.Name
      have:=F1h ds hd r (k+1) (m++[(d.Name,(Ai m d.TypeV).1)]) e3 hm2 (by simp; omega)
      rw [List.map_append] at this
      rw [if_neg (by simp),if_pos (decide_eq_true (by simp; omega)),cond_false]
      exact this
theorem S1w (ds:List B0)(hd:DOk ds)(t:A0)(ht:t.bulk≤4200000):Rn ds t=some (K2 ds t):=by
 unfold Rn Wu K2 J1c
 have h0:=F1h ds hd ds 0 [] rfl .nil (by have:=hd.1; simpa using this)
 have h0':X5 ds [] 0=some ((Dp ds []).1.map dec,(Dp ds []).2):=h0
 have hok:=K1d (ds:=ds) ds [] (fun d h=>(hd.2 d h).1) .nil
 have hl:=hd.1
 have h2:=hok.2
 simp only [List.length_nil] at h2
 rw [h0',ob,A1k hok.1 (by unfold BB; omega) t ht]
 cases (Dp ds []).2 != 0 <;> rfl
end Go.Proofs.YtdkabnfphmmmnaaGreatDoor

set_option linter.unusedSimpArgs false
namespace Go.Proofs.YtdkabnfphmmmnaaGreatDoor
open Go.Am
abbrev zT:A0:=A0.mk 0 0 0 0 [] [] []
def nT (a b:Int):A0:=A0.mk 1 a b 0 [] [] []
theorem ifB {α:Type}(b:Bool)(x y:α):(if b=true then some x else some y)=some (bif b then x else y):=by cases b <;> rfl
theorem ifO {α:Type}{b:Bool}{X Y:Option α}{x y:α}(hx:b=true→X=some x)(hy:b=false→Y=some y):(if b=true then X else Y)=some (bif b then x else y):=by
 cases b with
 | true=>exact hx rfl
 | false=>exact hy rfl
abbrev wi (n:Int):Int:=IntKind.i64.wrap n
mutual
def L0.find (nm:Str):L0→Option P0
 | .mk a vs=>match mgt nm vs with
  | some v=>some v
  | none=>lkO nm a
def lkO (nm:Str):Option L0→Option P0
 | none=>none
 | some s=>s.find nm
end
theorem N1z {P:Option L0→Prop}(h0:P none)(h1:∀ a vs,P a→P (some (.mk a vs))):∀ s,P s:=by
 have key:∀ s:L0,P (some s):=fun s=>L0.rec (motive_1:=fun s=>P (some s)) (motive_2:=P) (fun a vs ih=>h1 a vs ih) h0 (fun x hx=>hx) s
 intro s
 cases s with
 | none=>exact h0
 | some s=>exact key s
def Th (s:Option L0)(nm:Str):P0×Bool:=match lkO nm s with
 | some v=>(v,true)
 | none=>(P0.mk zT false,false)
theorem U21 (nm:Str):∀ s,L3 nm s=some (Th s nm):=by
 refine N1z ?_ ?_
 ·rw [L3]; rfl
 ·intro a vs ih
  rw [L3]
  simp only [Option.isNone,Bool.not_false,if_true,ob]
  unfold Th
  simp only [lkO,L0.find]
  cases hm:mgt nm vs with
  | some v=>rfl
  | none=>
   simp only [Option.isSome,Bool.false_eq_true,if_false]
   exact ih
theorem K1c (s:Option L0)(nm:Str):L5 s nm=some (Th s nm):=U21 nm s
def Cg (t:A0):A0×Int:=bif (bif t.Kind == 1 then (bif decide (t.Low < (-1048576)) then true else decide (t.High > 1048576)) else false) then (zT,3) else (t,0)
theorem O23 (t:A0):A9 t=some (Cg t):=ifB _ _ _
theorem O14 (a b:Int):P2 a b=some (nT a b):=rfl
theorem O22 (k:Int)(l:List A0)(hl:l.length≤BB):∀ (r:List A0) (i:Nat),l.drop i=r→T3 k l i=some (r.all fun t=>t.Kind == k)
 | [],i,h=>by
  rw [T3,(A1 h).1]
  rfl
 | x::r,i,h=>by
  obtain ⟨h1,h2,h3,h4,_⟩:=C1 h
  rw [T3,h1,h2]
  simp only [if_true,ob,List.all_cons]
  rw [w1 (by omega),O22 k l hl r (i+1) h3]
  show (if (!(x.Kind == k))=true then some false else _)=_
  cases x.Kind == k <;> rfl
theorem Wp (k:Int)(l:List A0)(hl:l.length≤BB):W5 k l=some (l.all fun t=>t.Kind == k):=O22 k l hl l 0 rfl
def Em (op:Int)(a b:A0):A0:=
 bif op == 8 then nT (wi (a.Low+b.Low)) (wi (a.High+b.High))
 else bif op == 9 then nT (wi (a.Low - b.High)) (wi (a.High - b.Low))
 else bif op == 10 then nT (min (min (min (wi (a.Low * b.Low)) (wi (a.Low * b.High))) (wi (a.High * b.Low))) (wi (a.High * b.High))) (max (max (max (wi (a.Low * b.Low)) (wi (a.Low * b.High))) (wi (a.High * b.Low))) (wi (a.High * b.High)))
 else bif op == 11 then (bif (bif decide (a.Low≥0) then decide (b.Low≥0) else false) then nT 0 (max a.High (wi (0 - a.Low))) else nT (wi (0 - max a.High (wi (0 - a.Low)))) (max a.High (wi (0 - a.Low))))
 else bif op == 12 then nT (bif decide (b.Low < 0) then min (wi (b.Low+1)) 0 else 0) (bif decide (b.High > 0) then max (wi (b.High - 1)) 0 else 0)
 else bif op == 21 then nT (min a.Low b.Low) (min a.High b.High)
 else nT (max a.Low b.Low) (max a.High b.High)
theorem V21 (op:Int)(a b:A0):B9 op a b=some (Em op a b):=by
 unfold B9 Em
 cases op == 8
 case true=>rfl
 cases op == 9
 case true=>rfl
 cases op == 10
 case true=>rfl
 cases op == 11
 case true=>
  simp only [Bool.false_eq_true,if_false,if_true,Qh,ob,cond_false,cond_true]
  cases (bif decide (a.Low≥0) then decide (b.Low≥0) else false) <;> rfl
 cases op == 12
 case true=>
  simp only [Bool.false_eq_true,if_false,if_true,cond_false,cond_true,M9,L9,O14,ob]
  cases decide (b.Low < 0) <;> cases decide (b.High > 0) <;> rfl
 cases op == 21 <;> rfl
def opT (op:Int)(k:List A0):A0×Int:=
 bif op == 6 then (bif k.all (fun t=>t.Kind == 1) then Cg (nT (wi (0 - (k.getD 0 zT).High)) (wi (0 - (k.getD 0 zT).Low))) else (zT,9))
 else bif (op == 7||op == 19||op == 20) then (bif k.all (fun t=>t.Kind == 0) then (zT,0) else (zT,9))
 else bif (op == 13||op == 14) then (bif (k.all (fun t=>t.Kind == 1)||k.all (fun t=>t.Kind == 0)) then (zT,0) else (zT,9))
 else bif (op == 15||op == 16||op == 17||op == 18) then (bif k.all (fun t=>t.Kind == 1) then (zT,0) else (zT,9))
 else bif op == 23 then (bif (k.getD 0 zT).Kind != 0 then (zT,9) else bif (k.drop 1).all (fun t=>t.Kind == 1) then (nT (min (k.getD 1 zT).Low (k.getD 2 zT).Low) (max (k.getD 1 zT).High (k.getD 2 zT).High),0)
  else bif (k.drop 1).all (fun t=>t.Kind == 0) then (zT,0) else (zT,9))
 else bif k.all (fun t=>t.Kind == 1) then Cg (Em op (k.getD 0 zT) (k.getD 1 zT)) else (zT,9)
theorem L1c (t:A0):(A9 t>>=fun x=>some (x.1,x.2))=some (Cg t):=by rw [O23]; rfl
theorem B1k {op:Int}{n:Nat}(h:ar op=n)(h6:6≤op):(n=1∧(op=6∨op=7))∨(n=2∧8≤op∧op≤22)∨(n=3∧op=23):=by
 unfold ar at h
 have e:∀ k:Int,k < 6→(op == k)=false:=fun k hk=>beq_eq_false_iff_ne.2 (by omega)
 rw [e 0 (by omega),e 1 (by omega),e 2 (by omega),e 3 (by omega),e 4 (by omega),e 5 (by omega)] at h
 simp only [cond_false] at h
 by_cases a:op=6
 ·subst a; simp at h; omega
 by_cases b:op=7
 ·subst b; simp at h; omega
 rw [beq_eq_false_iff_ne.2 a,beq_eq_false_iff_ne.2 b,decide_eq_true (show op≥8 by omega)] at h
 simp only [cond_false,cond_true] at h
 by_cases c:op≤22
 ·rw [decide_eq_true c] at h; simp only [cond_true] at h; omega
 ·rw [decide_eq_false c] at h
  simp only [cond_false] at h
  by_cases d:op=23
  ·subst d; simp at h; omega
  ·rw [beq_eq_false_iff_ne.2 d] at h; simp only [cond_false] at h; omega
theorem M1r (op:Int)(k:List A0)(h:ar op=(k.length:Int))(h6:6≤op):Z9 op k=some (opT op k):=by
 unfold Z9
 rcases B1k h h6 with ⟨hn,rfl | rfl⟩ | ⟨hn,h8,h22⟩ | ⟨hn,rfl⟩
 ·match k,hn with
  | [a],_=>
   rw [Wp _ _ (by simp [BB]),Wp _ _ (by simp [BB])]
   simp only [ob]
   unfold opT
   simp only [show ((6:Int) == 6)=true from rfl,if_true,cond_true,show idx [a] 0=some a from rfl,ob,O14,L1c,List.getD_cons_zero]
   exact ifB _ _ _
 ·match k,hn with
  | [a],_=>
   rw [Wp _ _ (by simp [BB]),Wp _ _ (by simp [BB])]
   simp only [ob,G7]
   unfold opT
   simp only [show ((7:Int) == 6)=false from rfl,show ((7:Int) == 7)=true from rfl,Bool.false_eq_true,if_false,if_true,cond_true,cond_false,Bool.true_or]
   exact ifB _ _ _
 ·match k,hn with
  | [a,b],_=>
   rw [Wp _ _ (by simp [BB]),Wp _ _ (by simp [BB])]
   simp only [ob]
   generalize hI:[a,b].all (fun t=>t.Kind == 1)=I
   generalize hB:[a,b].all (fun t=>t.Kind == 0)=B
   unfold opT
   simp only [hI,hB]
   have gen:∀ x:Int,x=op→(x=8∨x=9∨x=10∨x=11∨x=12∨x=13∨x=14∨x=15∨x=16∨x=17∨x=18∨x=19∨x=20∨x=21∨x=22):=fun x hx=>by omega
   have fin:∀ op,(bif I then Cg (Em op a b) else ((zT,9):A0×Int))=bif I then Cg (Em op a b) else (zT,9):=fun _=>rfl
   rcases gen op rfl with rfl | rfl | rfl | rfl | rfl | rfl | rfl | rfl | rfl | rfl | rfl | rfl | rfl | rfl | rfl <;>
    (first
     | (cases I <;> cases B <;> rfl)
     | (cases I
        ·rfl
        ·show (idx [a,b] 0>>=fun x16=>idx [a,b] 1>>=fun x17=>B9 _ x16 x17>>=fun x18=>A9 x18>>=fun x19=>some (x19.1,x19.2))=_
         rw [show idx [a,b] 0=some a from rfl,show idx [a,b] 1=some b from rfl]
         simp only [ob,V21,L1c]
         rfl))
 ·match k,hn with
  | [a,b,c],_=>
   rw [Wp _ _ (by simp [BB]),Wp _ _ (by simp [BB])]
   simp only [ob]
   show (slc [a,b,c] 1 (([a,b,c].length:Nat):Int)>>=_)=_
   rw [show slc [a,b,c] 1 (([a,b,c].length:Nat):Int)=some [b,c] from rfl]
   simp only [ob,show idx [a,b,c] 0=some a from rfl]
   rw [Wp _ _ (by simp [BB]),Wp _ _ (by simp [BB])]
   simp only [ob,show idx [b,c] 0=some b from rfl,show idx [b,c] 1=some c from rfl,O14]
   show _=some (bif a.Kind != 0 then (zT,9) else bif [b,c].all (fun t=>t.Kind == 1) then (nT (min b.Low c.Low) (max b.High c.High),0) else bif [b,c].all (fun t=>t.Kind == 0) then (zT,0) else (zT,9))
   rw [ifB ([b,c].all fun t=>t.Kind == 0),ifB ([b,c].all fun t=>t.Kind == 1),ifB (a.Kind != 0)]
def Ws:List Str→List A0→Str→A0×Int
 | n::ns,t::ts,nm=>bif n == nm then (t,0) else Ws ns ts nm
 | _,_,_=>(zT,7)
def Yu (t:A0)(nm:Str):A0×Int:=bif t.Kind != 3 then (zT,9) else Ws t.Names t.Of nm
theorem O1z (t:A0)(nm:Str)(hl:t.Of.length=t.Names.length)(hb:t.Names.length≤BB):∀ (r:List Str) (i:Nat),t.Names.drop i=r→J4 t nm i=some (Ws r (t.Of.drop i) nm)
 | [],i,h=>by
  rw [J4,(A1 h).1]
  rfl
 | x::r,i,h=>by
  obtain ⟨h1,h2,h3,h4,_⟩:=C1 h
  obtain ⟨y,g1,g2,_⟩:=Uo (l:=t.Of) (k:=i) (by omega)
  rw [J4,h1,h2,g2]
  simp only [if_true,ob,g1]
  rw [w1 (by omega),O1z t nm hl hb r (i+1) h3]
  exact ifB _ _ _
theorem P23 (t:A0)(nm:Str)(hf:Y2 t):O7 t nm=some (Yu t nm):=by
 unfold O7 Yu
 cases hk:t.Kind == 3 with
 | false=>
  have:(t.Kind != 3)=true:=by simp [bne,hk]
  rw [this]; rfl
 | true=>
  have:(t.Kind != 3)=false:=by simp [bne,hk]
  rw [this]
  obtain ⟨a,b,_⟩:=hf.recd hk
  exact O1z t nm b (by unfold BB; omega) t.Names 0 rfl
theorem C1k {nm:Str}:∀ {ns:List Str} {ts:List A0},(∀ t∈ts,Y2 t)→(Ws ns ts nm).2=0→Y2 (Ws ns ts nm).1
 | [],_,_,h=>by simp [Ws] at h
 | _::_,[],_,h=>by simp [Ws] at h
 | n::ns,t::ts,hf,h=>by
  simp only [Ws] at h ⊢
  cases hn:n == nm with
  | true=>exact hf t List.mem_cons_self
  | false=>
   rw [hn] at h
   exact C1k (fun t ht=>hf t (List.mem_cons_of_mem _ ht)) h
theorem Y2.zT:Y2 zT:=⟨rfl,rfl⟩
theorem Y2.rng {t:A0}(h:Y2 t)(hk:(t.Kind == 1)=true) : -1048576≤t.Low∧t.Low≤t.High∧t.High≤1048576:=by
 have hn:=h.here.2
 simp only [Kc,Bool.and_eq_true] at hn
 have h2:=hn.2
 unfold nm2 A2 at h2
 rw [hk] at h2
 simp only [cond_true] at h2
 by_cases a:t.Low≥-1048576
 ·by_cases b:t.Low≤1048576
  ·by_cases c:t.High≥t.Low
   ·by_cases d:t.High≤1048576
    ·exact ⟨a,c,d⟩
    ·simp [a,b,c,d] at h2
   ·simp [a,b,c] at h2
  ·simp [a,b] at h2
 ·simp [a] at h2
theorem Y2.nT {a b:Int}(h1 : -1048576≤a)(h2:a≤b)(h3:b≤1048576):Y2 (nT a b):=by
 refine ⟨?_,?_⟩
 ·rfl
 ·rw [A0.all_eq]
  have:nm2 (Go.Proofs.YtdkabnfphmmmnaaGreatDoor.nT a b)=true:=by
   show (bif A2 a (-1048576) 1048576 then A2 b a 1048576 else false)=true
   unfold A2
   rw [decide_eq_true (show a≥-1048576 by omega),decide_eq_true (show a≤1048576 by omega),decide_eq_true (show b≥a by omega),decide_eq_true (show b≤1048576 by omega)]
   rfl
  show (Kc (Go.Proofs.YtdkabnfphmmmnaaGreatDoor.nT a b)&&true)=true
  simp only [Kc,this,Bool.and_true]
  rfl
theorem W21 {a b:Int}(h:(Cg (nT a b)).2=0) : -1048576≤a∧b≤1048576∧Cg (nT a b)=(nT a b,0):=by
 unfold Cg at h ⊢
 have e:((nT a b).Kind == 1)=true:=rfl
 rw [e] at h ⊢
 simp only [cond_true] at h ⊢
 show _∧_∧(bif (bif decide (a < -1048576) then true else decide (b > 1048576)) then _ else _)=_
 change (bif (bif decide (a < -1048576) then true else decide (b > 1048576)) then ((zT,3):A0×Int) else (nT a b,0)).2=0 at h
 by_cases p:a < -1048576
 ·simp [p] at h
 ·by_cases q:b > 1048576
  ·simp [p,q] at h
  ·refine ⟨by omega,by omega,?_⟩
   simp [p,q]
theorem M1c {a b:Int}(hab:a≤b)(h:(Cg (nT a b)).2=0):Y2 (Cg (nT a b)).1:=by
 obtain ⟨h1,h2,h3⟩:=W21 h
 rw [h3]
 exact .nT h1 hab h2
theorem wis {n:Int}(h : -4611686018427387904≤n)(h':n≤4611686018427387904):wi n=n:=wr h h'
theorem T1w {op:Int}{a b:A0}(ha:Y2 a)(hb:Y2 b)(ka:(a.Kind == 1)=true)(kb:(b.Kind == 1)=true):∃ lo hi,Em op a b=nT lo hi∧lo≤hi:=by
 obtain ⟨a1,a2,a3⟩:=ha.rng ka
 obtain ⟨b1,b2,b3⟩:=hb.rng kb
 unfold Em
 cases op == 8
 case true=>exact ⟨_,_,rfl,by rw [wis (by omega) (by omega),wis (by omega) (by omega)]; omega⟩
 cases op == 9
 case true=>exact ⟨_,_,rfl,by rw [wis (by omega) (by omega),wis (by omega) (by omega)]; omega⟩
 cases op == 10
 case true=>exact ⟨_,_,rfl,by omega⟩
 cases op == 11
 case true=>
  have e:wi (0 - a.Low) = -a.Low:=by rw [wis (by omega) (by omega)]; omega
  simp only [cond_false,cond_true,e]
  by_cases p:a.Low≥0
  ·by_cases q:b.Low≥0
   ·rw [decide_eq_true p,decide_eq_true q]; exact ⟨_,_,rfl,by omega⟩
   ·rw [decide_eq_true p,decide_eq_false q]; exact ⟨_,_,rfl,by rw [wis (by omega) (by omega)]; omega⟩
  ·rw [decide_eq_false p]; exact ⟨_,_,rfl,by rw [wis (by omega) (by omega)]; omega⟩
 cases op == 12
 case true=>
  refine ⟨_,_,rfl,?_⟩
  cases decide (b.Low < 0) <;> cases decide (b.High > 0) <;> simp only [cond_true,cond_false] <;> omega
 cases op == 21
 case true=>exact ⟨_,_,rfl,by omega⟩
 exact ⟨_,_,rfl,by omega⟩
theorem X21 {op:Int}{k:List A0}(h:ar op=(k.length:Int))(h6:6≤op)(hk:∀ t∈k,Y2 t)(h0:(opT op k).2=0):Y2 (opT op k).1:=by
 have zf:∀ (c:Bool) {x:A0×Int},(x.2=0→Y2 x.1)→(bif c then x else ((zT,9):A0×Int)).2=0→Y2 (bif c then x else ((zT,9):A0×Int)).1:=fun c x hx hc=>by
  cases c with
  | true=>exact hx hc
  | false=>exact absurd hc (by simp)
 unfold opT at h0 ⊢
 rcases B1k h h6 with ⟨hn,rfl | rfl⟩ | ⟨hn,h8,h22⟩ | ⟨hn,rfl⟩
 ·match k,hn,hk with
  | [a],_,hk=>
   simp only [show ((6:Int) == 6)=true from rfl,cond_true,List.getD_cons_zero] at h0 ⊢
   cases ha:a.Kind == 1 with
   | false=>simp [ha] at h0
   | true=>
    obtain ⟨a1,a2,a3⟩:=(hk a List.mem_cons_self).rng ha
    simp only [List.all_cons,List.all_nil,ha,Bool.and_true,cond_true] at h0 ⊢
    exact M1c (by rw [wis (by omega) (by omega),wis (by omega) (by omega)]; omega) h0
 ·simp only [show ((7:Int) == 6)=false from rfl,show ((7:Int) == 7)=true from rfl,cond_true,cond_false,Bool.true_or] at h0 ⊢
  exact zf _ (fun _=>.zT) h0
 ·match k,hn,hk with
  | [a,b],_,hk=>
   rw [show (op == 6)=false from beq_eq_false_iff_ne.2 (by omega),show (op == 23)=false from beq_eq_false_iff_ne.2 (by omega)] at h0 ⊢
   simp only [cond_false] at h0 ⊢
   cases c1:(op == 7||op == 19||op == 20) with
   | true=>rw [c1] at h0; simp only [cond_true] at h0 ⊢; exact zf _ (fun _=>.zT) h0
   | false=>
    rw [c1] at h0
    simp only [cond_false] at h0 ⊢
    cases c2:(op == 13||op == 14) with
    | true=>rw [c2] at h0; simp only [cond_true] at h0 ⊢; exact zf _ (fun _=>.zT) h0
    | false=>
     rw [c2] at h0
     simp only [cond_false] at h0 ⊢
     cases c3:(op == 15||op == 16||op == 17||op == 18) with
     | true=>rw [c3] at h0; simp only [cond_true] at h0 ⊢; exact zf _ (fun _=>.zT) h0
     | false=>
      rw [c3] at h0
      simp only [cond_false,List.all_cons,List.all_nil,Bool.and_true] at h0 ⊢
      cases ha:a.Kind == 1 with
      | false=>rw [ha] at h0; exact absurd h0 (by simp)
      | true=>
       cases hb:b.Kind == 1 with
       | false=>rw [ha,hb] at h0; exact absurd h0 (by simp)
       | true=>
        rw [ha,hb] at h0
        obtain ⟨lo,hi,e,hle⟩:=T1w (op:=op) (hk a List.mem_cons_self) (hk b (List.mem_cons_of_mem _ List.mem_cons_self)) ha hb
        simp only [Bool.and_self,cond_true,List.getD_cons_zero,List.getD_cons_succ,e] at h0 ⊢
        exact M1c hle h0
 ·match k,hn,hk with
  | [a,b,c],_,hk=>
   change (bif a.Kind != 0 then ((zT,9):A0×Int) else bif [b,c].all (fun t=>t.Kind == 1) then (nT (min b.Low c.Low) (max b.High c.High),0) else bif [b,c].all (fun t=>t.Kind == 0) then (zT,0) else (zT,9)).2=0 at h0
   show Y2 (bif a.Kind != 0 then ((zT,9):A0×Int) else bif [b,c].all (fun t=>t.Kind == 1) then (nT (min b.Low c.Low) (max b.High c.High),0) else bif [b,c].all (fun t=>t.Kind == 0) then (zT,0) else (zT,9)).1
   cases h1:a.Kind != 0 with
   | true=>rw [h1] at h0; exact absurd h0 (by simp)
   | false=>
    rw [h1] at h0
    simp only [cond_false] at h0 ⊢
    cases h2:[b,c].all (fun t=>t.Kind == 1) with
    | true=>
     simp only [List.all_cons,List.all_nil,Bool.and_true,Bool.and_eq_true] at h2
     obtain ⟨b1,b2,b3⟩:=(hk b (List.mem_cons_of_mem _ List.mem_cons_self)).rng h2.1
     obtain ⟨c1,c2,c3⟩:=(hk c (List.mem_cons_of_mem _ (List.mem_cons_of_mem _ List.mem_cons_self))).rng h2.2
     exact .nT (by omega) (by omega) (by omega)
    | false=>
     rw [h2] at h0
     exact zf _ (fun _=>.zT) h0
def Vo (σ:Str→Option P0)(o n:Int)(s:Str)(k:List A0):A0×Int:=
 bif o == 0 then Cg (nT n n)
 else bif (o == 1||o == 2) then (zT,0)
 else bif o == 3 then (match σ s with | some v=>(v.typ,0) | none=>(zT,7))
 else bif o == 4 then Yu (k.getD 0 zT) s
 else bif o == 5 then (bif (bif (k.getD 0 zT).Kind != 2 then true else (k.getD 1 zT).Kind != 1) then (zT,9) else ((k.getD 0 zT).Of.getD 0 zT,0))
 else opT o k
mutual
def D0.ty (σ:Str→Option P0):D0→A0×Int
 | .mk o n s ks=>bif (D0.tys σ ks).2 != 0 then (zT,(D0.tys σ ks).2) else Vo σ o n s (D0.tys σ ks).1
def D0.tys (σ:Str→Option P0):List D0→List A0×Int
 | []=>([],0)
 | x::r=>bif (D0.ty σ x).2 != 0 then ([],(D0.ty σ x).2) else bif (D0.tys σ r).2 != 0 then ([],(D0.tys σ r).2) else ((D0.ty σ x).1::(D0.tys σ r).1,0)
end
theorem D0.ty_eq (σ:Str→Option P0)(e:D0):e.ty σ=bif (D0.tys σ e.Kids).2 != 0 then (zT,(D0.tys σ e.Kids).2) else Vo σ e.Op e.NV e.Name (D0.tys σ e.Kids).1:=by cases e; simp only [D0.ty]
theorem M1u (σ:Str→Option P0):∀ l:List D0,(D0.tys σ l).2=0→(D0.tys σ l).1.length=l.length
 | [],_=>rfl
 | x::r,h=>by
  simp only [D0.tys] at h ⊢
  cases h1:(D0.ty σ x).2 != 0 with
  | true=>rw [h1] at h; simp only [cond_true] at h; rw [h] at h1; exact absurd h1 (by simp)
  | false=>
   rw [h1] at h
   simp only [cond_false] at h ⊢
   cases h2:(D0.tys σ r).2 != 0 with
   | true=>rw [h2] at h; simp only [cond_true] at h; rw [h] at h2; exact absurd h2 (by simp)
   | false=>
    simp only [cond_false,List.length_cons]
    rw [M1u σ r (by simpa using h2)]
theorem N1r {σ:Str→Option P0}:∀ {l:List D0},(∀ x∈l,(x.ty σ).2=0→Y2 (x.ty σ).1)→∀ t∈(D0.tys σ l).1,Y2 t
 | [],_,t,ht=>by simp [D0.tys] at ht
 | x::r,hx,t,ht=>by
  simp only [D0.tys] at ht
  cases h1:(D0.ty σ x).2 != 0 with
  | true=>rw [h1] at ht; simp at ht
  | false=>
   rw [h1] at ht
   simp only [cond_false] at ht
   cases h2:(D0.tys σ r).2 != 0 with
   | true=>rw [h2] at ht; simp at ht
   | false=>
    rw [h2] at ht
    simp only [cond_false,List.mem_cons] at ht
    rcases ht with rfl | ht
    ·exact hx x List.mem_cons_self (by simpa using h1)
    ·exact N1r (fun y hy=>hx y (List.mem_cons_of_mem _ hy)) t ht
def SF (σ:Str→Option P0):Prop:=∀ nm v,σ nm=some v→Y2 v.typ
theorem G1h {o:Int}{n:Nat}(h:ar o=n)(h6:o < 6):(n=0∧(o=0∨o=1∨o=2∨o=3))∨(n=1∧o=4)∨(n=2∧o=5):=by
 unfold ar at h
 by_cases a0:o=0
 ·subst a0; simp at h; omega
 by_cases a1:o=1
 ·subst a1; simp at h; omega
 by_cases a2:o=2
 ·subst a2; simp at h; omega
 by_cases a3:o=3
 ·subst a3; simp at h; omega
 by_cases a4:o=4
 ·subst a4; simp at h; omega
 by_cases a5:o=5
 ·subst a5; simp at h; omega
 rw [beq_eq_false_iff_ne.2 a0,beq_eq_false_iff_ne.2 a1,beq_eq_false_iff_ne.2 a2,beq_eq_false_iff_ne.2 a3,beq_eq_false_iff_ne.2 a4,beq_eq_false_iff_ne.2 a5,
  beq_eq_false_iff_ne.2 (show o≠6 by omega),beq_eq_false_iff_ne.2 (show o≠7 by omega),decide_eq_false (show ¬ o≥8 by omega),beq_eq_false_iff_ne.2 (show o≠23 by omega)] at h
 simp only [cond_false] at h
 omega
theorem U1w {σ:Str→Option P0}(hσ:SF σ){o n:Int}{s:Str}{k:List A0}(h:ar o=(k.length:Int))(hk:∀ t∈k,Y2 t)(h0:(Vo σ o n s k).2=0):Y2 (Vo σ o n s k).1:=by
 by_cases h6:o < 6
 ·rcases G1h h h6 with ⟨hn,rfl | rfl | rfl | rfl⟩ | ⟨hn,rfl⟩ | ⟨hn,rfl⟩
  ·exact M1c (Int.le_refl _) h0
  ·exact .zT
  ·exact .zT
  ·change (match σ s with | some v=>(v.typ,(0:Int)) | none=>(zT,7)).2=0 at h0
   show Y2 (match σ s with | some v=>(v.typ,(0:Int)) | none=>(zT,7)).1
   cases hs:σ s with
   | none=>rw [hs] at h0; exact absurd h0 (by simp)
   | some v=>exact hσ s v hs
  ·match k,hn,hk with
   | [a],_,hk=>
    change (Yu a s).2=0 at h0
    show Y2 (Yu a s).1
    have ha:=hk a List.mem_cons_self
    unfold Yu at h0 ⊢
    cases h1:a.Kind != 3 with
    | true=>rw [h1] at h0; exact absurd h0 (by simp)
    | false=>
     rw [h1] at h0
     exact C1k (fun t ht=>ha.kid ht) h0
  ·match k,hn,hk with
   | [a,b],_,hk=>
    change (bif (bif a.Kind != 2 then true else b.Kind != 1) then ((zT,9):A0×Int) else (a.Of.getD 0 zT,0)).2=0 at h0
    show Y2 (bif (bif a.Kind != 2 then true else b.Kind != 1) then ((zT,9):A0×Int) else (a.Of.getD 0 zT,0)).1
    have ha:=hk a List.mem_cons_self
    cases h1:a.Kind != 2 with
    | true=>rw [h1] at h0; exact absurd h0 (by simp)
    | false=>
     rw [h1] at h0
     obtain ⟨x,hx,_,_⟩:=ha.arr (by simpa [bne] using h1)
     cases h2:b.Kind != 1 with
     | true=>rw [h2] at h0; exact absurd h0 (by simp)
     | false=>
      simp only [cond_false,hx,List.getD_cons_zero]
      exact ha.kid (by rw [hx]; exact List.mem_cons_self)
 ·unfold Vo at h0 ⊢
  rw [beq_eq_false_iff_ne.2 (show o≠0 by omega),beq_eq_false_iff_ne.2 (show o≠1 by omega),beq_eq_false_iff_ne.2 (show o≠2 by omega),beq_eq_false_iff_ne.2 (show o≠3 by omega),beq_eq_false_iff_ne.2 (show o≠4 by omega),beq_eq_false_iff_ne.2 (show o≠5 by omega)] at h0 ⊢
  exact X21 h (by omega) hk h0
theorem Q23 (s:Option L0)(e:D0)(k:List A0)(h:ar e.Op=(k.length:Int))(hk:∀ t∈k,Y2 t) :
  (if (e.Op == 0)=true then P2 e.NV e.NV>>=fun x2=>A9 x2>>=fun x3=>some (x3.1,x3.2) else if (e.Op == 1)=true then O9 s e k (e.Op == 1) else O9 s e k (e.Op == 2)) =
   some (Vo (fun nm=>lkO nm s) e.Op e.NV e.Name k):=by
 have tl:∀ v,O9 s e k v=if v=true then some (zT,0) else (if (e.Op == 3)=true then (L5 s e.Name>>=fun x4=>if (!x4.2)=true then some (zT,7) else some (x4.1.typ,0)) else
   if (e.Op == 4)=true then (idx k 0>>=fun x5=>O7 x5 e.Name>>=fun x6=>some (x6.1,x6.2)) else
   if (e.Op == 5)=true then (idx k 0>>=fun x7=>(if (!(x7.Kind != 2))=true then idx k 1 else some default)>>=fun x8=>if (bif (x7.Kind != 2) then true else (x8.Kind != 1))=true then some (zT,9) else (idx k 0>>=fun x9=>idx x9.Of 0>>=fun x10=>some (x10,0))) else
   (Z9 e.Op k>>=fun x11=>some (x11.1,x11.2))):=fun v=>rfl
 unfold Vo
 simp only [O14,ob,L1c,tl,K1c]
 by_cases h6:e.Op < 6
 ·rcases G1h h h6 with ⟨hn,ho | ho | ho | ho⟩ | ⟨hn,ho⟩ | ⟨hn,ho⟩
  ·rw [ho]; rfl
  ·rw [ho]; rfl
  ·rw [ho]; rfl
  ·rw [ho]
   show (if (!(Th s e.Name).2)=true then some ((zT,7):A0×Int) else some ((Th s e.Name).1.typ,0))=some (match lkO e.Name s with | some v=>(v.typ,0) | none=>(zT,7))
   unfold Th
   cases lkO e.Name s <;> rfl
  ·rw [ho]
   match k,hn,hk with
   | [a],_,hk=>
    show (O7 a e.Name>>=fun x6=>some (x6.1,x6.2))=some (Yu a e.Name)
    rw [P23 a e.Name (hk a List.mem_cons_self)]
    rfl
  ·rw [ho]
   match k,hn,hk with
   | [a,b],_,hk=>
    have ha:=hk a List.mem_cons_self
    show ((if (!(a.Kind != 2))=true then some b else some default)>>=fun x8=>if (bif (a.Kind != 2) then true else (x8.Kind != 1))=true then some ((zT,9):A0×Int) else (idx a.Of 0>>=fun x10=>some (x10,0)))=some (bif (bif a.Kind != 2 then true else b.Kind != 1) then (zT,9) else (a.Of.getD 0 zT,0))
    cases h1:a.Kind != 2 with
    | true=>rfl
    | false=>
     obtain ⟨x,hx,_,_⟩:=ha.arr (by simpa [bne] using h1)
     rw [hx]
     simp only [Bool.not_false,if_true,ob,cond_false]
     cases h2:b.Kind != 1 <;> rfl
 ·have f:∀ n:Int,n < 6→(e.Op == n)=false:=fun n hn=>beq_eq_false_iff_ne.2 (by omega)
  rw [f 0 (by omega),f 1 (by omega),f 2 (by omega),f 3 (by omega),f 4 (by omega),f 5 (by omega),M1r e.Op k h (by omega)]
  rfl
theorem P1z (s:Option L0)(e:D0)(ho:OkE e)(hf:U1 e=true)
  (ih:∀ x∈e.Kids,O3 s x=some (x.ty fun nm=>lkO nm s)∧((x.ty fun nm=>lkO nm s).2=0→Y2 (x.ty fun nm=>lkO nm s).1)) :
  ∀ (r:List D0) (i:Nat) (k:List A0),e.Kids.drop i=r→k.length=i∧i≤e.Kids.length→(∀ t∈k,Y2 t)→
   Nc s e k i=some (bif (D0.tys (fun nm=>lkO nm s) r).2 != 0 then (zT,(D0.tys (fun nm=>lkO nm s) r).2) else Vo (fun nm=>lkO nm s) e.Op e.NV e.Name (k++(D0.tys (fun nm=>lkO nm s) r).1))
 | [],i,k,h,hi,hk=>by
  obtain ⟨h1,h2⟩:=A1 h
  rw [Nc,h1]
  have hl:k.length=e.Kids.length:=by omega
  have har:ar e.Op=(k.length:Int):=by
   simp only [U1,Bool.and_eq_true] at hf
   have:=hf.1.1.1
   unfold ef1 at this
   rw [hl]
   simpa using this
  simp only [Bool.false_eq_true,if_false,D0.tys,List.append_nil]
  exact Q23 s e k har hk
 | x::r,i,k,h,hi,hk=>by
  obtain ⟨h1,h2,h3,h4,h5⟩:=C1 h
  obtain ⟨i1,i2⟩:=ih x h5
  have hb:=ho.kids
  rw [Nc,h1,h2]
  simp only [if_true,ob,i1,D0.tys]
  cases hc:(x.ty fun nm=>lkO nm s).2 != 0 with
  | true=>simp only [if_true,cond_true,hc]
  | false=>
   have hz:(x.ty fun nm=>lkO nm s).2=0:=by simpa using hc
   rw [decide_eq_true (show (k.length+1) * 97≤140737488355328 by unfold BB at hb; omega)]
   simp only [Bool.false_eq_true,if_false,if_true,cond_false]
   rw [w1 (by omega),P1z s e ho hf ih r (i+1) (k++[(x.ty fun nm=>lkO nm s).1]) h3 ⟨by simp [hi.1],by omega⟩ (fun t ht=>by
    rcases List.mem_append.1 ht with ht | ht
    ·exact hk t ht
    ·simp at ht; subst ht; exact i2 hz)]
   cases h2:(D0.tys (fun nm=>lkO nm s) r).2 != 0 with
   | true=>simp only [cond_true,h2]
   | false=>simp only [cond_false,List.append_assoc,List.singleton_append]; rfl
theorem N1u (s:Option L0)(hs:SF fun nm=>lkO nm s)(e:D0):OkE e→e.all U1=true→O3 s e=some (e.ty fun nm=>lkO nm s)∧((e.ty fun nm=>lkO nm s).2=0→Y2 (e.ty fun nm=>lkO nm s).1):=by
 refine D0.ind (P:=fun e=>OkE e→e.all U1=true→O3 s e=some (e.ty fun nm=>lkO nm s)∧((e.ty fun nm=>lkO nm s).2=0→Y2 (e.ty fun nm=>lkO nm s).1)) ?_ e
 intro e ih ho hf
 rw [D0.all_eq,Bool.and_eq_true] at hf
 have ih':∀ x∈e.Kids,O3 s x=some (x.ty fun nm=>lkO nm s)∧((x.ty fun nm=>lkO nm s).2=0→Y2 (x.ty fun nm=>lkO nm s).1):=fun x hx=>ih x hx (ho.kid hx) (D0.alls_mem hf.2 hx)
 have hb:=ho.kids
 refine ⟨?_,fun h0=>?_⟩
 ·rw [O3,decide_eq_true (show 0≤((e.Kids.length:Nat):Int)∧((e.Kids.length:Nat):Int).toNat * 97≤140737488355328 by unfold BB at hb; rw [Int.toNat_natCast]; omega),if_pos rfl]
  have:=P1z s e ho hf.1 ih' e.Kids 0 [] rfl ⟨rfl,Nat.zero_le _⟩ (fun t ht=>by cases ht)
  rw [D0.ty_eq]
  exact this
 ·rw [D0.ty_eq] at h0 ⊢
  cases hc:(D0.tys (fun nm=>lkO nm s) e.Kids).2 != 0 with
  | true=>rw [hc] at h0; simp only [cond_true] at h0; rw [h0] at hc; exact absurd hc (by simp)
  | false=>
   rw [hc] at h0
   simp only [cond_false] at h0 ⊢
   refine U1w hs ?_ (N1r fun x hx=>(ih' x hx).2) h0
   rw [M1u _ _ (by simpa using hc)]
   have:=hf.1
   simp only [U1,Bool.and_eq_true] at this
   simpa [ef1] using this.1.1.1
end Go.Proofs.YtdkabnfphmmmnaaGreatDoor

set_option linter.unusedSimpArgs false
set_option linter.unusedVariables false
namespace Go.Proofs.YtdkabnfphmmmnaaGreatDoor
open Go.Am
theorem okz:Ok zT:=by unfold Ok; simp only [A0.bulk_eq,A0.bulks,BB]; decide
theorem okn (a b:Int):Ok (nT a b):=by unfold Ok nT; simp only [A0.bulk_eq,A0.bulks,BB]; decide
def FO (t:A0):Prop:=Y2 t∧Ok t
theorem FO.z:FO zT:=⟨.zT,okz⟩
theorem R23 {m:List (Str×A0)}(hm:MOk m){t:A0}(hb:t.bulk≤4200000):FO (Ai m t).1:=by
 by_cases h:(Ai m t).2=0
 ·have:=(K1r hm hb h).1.val
  exact ⟨this.fine,this.ok⟩
 ·have:(Ai m t).1=zT:=by
   unfold Ai at h ⊢
   cases hc:Y7 t != 0 with
   | true=>rfl
   | false=>
    rw [hc] at h
    simp only [cond_false] at h ⊢
    cases hx:t.rp m with
    | none=>rfl
    | some x=>
     rw [hx] at h
     simp only at h ⊢
     cases h2:x.some Kh with
     | true=>rfl
     | false=>
      rw [h2] at h
      simp only [cond_false] at h ⊢
      cases h3:(decide ((x.depth:Int) > 12)||decide (x.cnt > 32)) with
      | true=>rfl
      | false=>rw [h3] at h; exact absurd rfl h
  rw [this]
  exact .z
theorem Dg {ds:List B0}(hd:DOk ds){t:A0}(ht:t.bulk≤4200000):FO (K2 ds t).1:=by
 unfold K2 J1c
 cases (Dp ds []).2 != 0 with
 | true=>exact .z
 | false=>exact R23 (K1d (ds:=ds) ds [] (fun d h=>(hd.2 d h).1) .nil).1 ht
theorem DOk.take {ds:List B0}(h:DOk ds)(i:Nat):DOk (ds.take i):=⟨by have:=h.1; simp; omega,fun d hd=>h.2 d (List.mem_of_mem_take hd)⟩
structure CkP (p:I0):Prop where
 okp:OkP p
 dok:DOk p.Decls
 small:∀ d∈p.Decls,d.TypeV.bulk≤4200000∧(∀ v∈d.Params,v.TypeV.bulk≤4200000)∧(∀ v∈d.Vars,v.TypeV.bulk≤4200000)
 dform:B0.alls dform p.Decls=true
 sform:C0.alls sform p.Body=true
 dnumb:B0.alls dnumb p.Decls=true
 snumb:C0.alls snumb p.Body=true
theorem O1r {n d:Int}{f m u:Bool}(h:Wc n d f m u=0):f=false∧u=false:=by
 unfold Wc at h
 generalize (bif decide (n > 1024) then true else decide (d > 12))=q at h
 cases q <;> cases f <;> cases m <;> cases u <;> simp at h ⊢
theorem CkP.of {p:I0}(hb:p.bulk≤4200000)(hc:Us p=0):CkP p:=by
 have hz:=O1r hc
 simp only [Bool.not_eq_false',Bool.and_eq_true] at hz
 obtain ⟨⟨f1,f2⟩,u1,u2⟩:=hz
 have hbd:B0.bulks p.Decls≤4200000:=by cases p; simp only [I0.bulk] at hb; simp only; omega
 have sm:∀ {l:List B0} {d:B0},d∈l→B0.bulks l≤4200000→d.TypeV.bulk≤4200000∧d.Name.length≤4200000∧B0.bulks d.Params≤4200000∧B0.bulks d.Vars≤4200000:=fun {l d} hd hl=>by
  have h1:=B0.bulk_mem hd
  have h2:=B0.bulk_eq d
  omega
 refine ⟨G1c hb,⟨by have:=B0.bulk_len p.Decls; omega,fun d hd=>?_⟩,fun d hd=>?_,f1,f2,u1,u2⟩
 ·have:=sm hd hbd
  exact ⟨this.1,by unfold BB; omega⟩
 ·have:=sm hd hbd
  exact ⟨this.1,fun v hv=>(sm hv this.2.2.1).1,fun v hv=>(sm hv this.2.2.2).1⟩
theorem CkP.dec {p:I0}(h:CkP p){d:B0}(hd:d∈p.Decls):Go.Proofs.YtdkabnfphmmmnaaGreatDoor.dform d=true∧Go.Proofs.YtdkabnfphmmmnaaGreatDoor.dnumb d=true:=by
 have key:∀ {q:B0→Bool} {l:List B0},B0.alls q l=true→d∈l→q d=true:=by
  intro q l
  induction l with
  | nil=>intro _ hm; cases hm
  | cons x r ih=>
   intro ha hm
   simp only [B0.alls,Bool.and_eq_true] at ha
   cases hm with
   | head=>rw [B0.all_eq,Bool.and_eq_true] at ha; exact ha.1.1
   | tail _ hm=>exact ih ha.2 hm
 exact ⟨key h.dform hd,key h.dnumb hd⟩
theorem H1h {c:N0}(h:CkP c.p){i:Nat}(hi:i≤c.p.Decls.length){t:A0}(ht:t.bulk≤4200000):L4 c t i=some (K2 (c.p.Decls.take i) t):=by
 unfold L4
 rw [C1m hi,ob,M1z _ (h.dok.take i) t ht]
 rfl
theorem Xs {c:N0}(h:CkP c.p){i:Nat}(hi:i≤c.p.Decls.length){t:A0}(ht:t.bulk≤4200000):X2 c t i=some (K2 (c.p.Decls.take i) t).1:=by
 unfold X2
 rw [H1h h hi ht]
 rfl
def SO (s:Option L0):Prop:=∀ nm v,lkO nm s=some v→FO v.typ
theorem SO.f {s:Option L0}(h:SO s):SF fun nm=>lkO nm s:=fun nm v e=>(h nm v e).1
def MF (m:List (Str×P0)):Prop:=∀ q∈m,FO q.2.typ
theorem Q1z {α:Type}{k:Str}{x:α}:∀ {m:List (Str×α)},mgt k m=some x→∃ k',(k',x)∈m
 | [],h=>by cases h
 | (k',y)::r,h=>by
  simp only [mgt] at h
  cases hk:k == k' with
  | true=>rw [hk] at h; cases h; exact ⟨k',List.mem_cons_self⟩
  | false=>rw [hk] at h; obtain ⟨q,hq⟩:=Q1z h; exact ⟨q,List.mem_cons_of_mem _ hq⟩
theorem MF.put {m:List (Str×P0)}(h:MF m)(k:Str){x:P0}(hx:FO x.typ):MF (mpt k x m):=by
 induction m with
 | nil=>intro q hq; simp [mpt] at hq; subst hq; exact hx
 | cons p r ih=>
  obtain ⟨k',y⟩:=p
  intro q hq
  simp only [mpt] at hq
  cases hk:k == k' with
  | true=>
   rw [hk] at hq
   rcases List.mem_cons.1 hq with rfl | hq
   ·exact hx
   ·exact h q (List.mem_cons_of_mem _ hq)
  | false=>
   rw [hk] at hq
   rcases List.mem_cons.1 hq with rfl | hq
   ·exact h _ List.mem_cons_self
   ·exact ih (fun q hq=>h q (List.mem_cons_of_mem _ hq)) q hq
theorem SO.ext {s:Option L0}(h:SO s){m:List (Str×P0)}(hm:MF m):SO (some (.mk s m)):=by
 intro nm v e
 simp only [lkO,L0.find] at e
 cases hg:mgt nm m with
 | some y=>rw [hg] at e; cases e; obtain ⟨k',hk⟩:=Q1z hg; exact hm _ hk
 | none=>rw [hg] at e; exact h nm v e
theorem SO.none:SO none:=fun nm v e=>by simp [lkO] at e
theorem P1r {nm:Str}:∀ {ns:List Str} {ts:List A0},(∀ t∈ts,Ok t)→Ok (Ws ns ts nm).1
 | [],_,_=>okz
 | _::_,[],_=>okz
 | n::ns,t::ts,hf=>by
  simp only [Ws]
  cases n == nm with
  | true=>exact hf t List.mem_cons_self
  | false=>exact P1r fun t ht=>hf t (List.mem_cons_of_mem _ ht)
theorem Y1n (op:Int)(a b:A0):∃ lo hi,Em op a b=nT lo hi:=by
 unfold Em
 cases op == 8 <;> cases op == 9 <;> cases op == 10 <;> cases op == 11 <;> cases op == 12 <;> cases op == 21 <;> cases (bif decide (a.Low≥0) then decide (b.Low≥0) else false) <;> exact ⟨_,_,rfl⟩
theorem I1h (a b:Int):Ok (Cg (nT a b)).1:=by
 unfold Cg
 cases (bif (nT a b).Kind == 1 then (bif decide ((nT a b).Low < (-1048576)) then true else decide ((nT a b).High > 1048576)) else false) with
 | true=>exact okz
 | false=>exact okn _ _
theorem Ja {c:Bool}{x y:A0×Int}(hx:Ok x.1)(hy:Ok y.1):Ok (bif c then x else y).1:=by cases c; exact hy; exact hx
theorem X24 (op:Int)(k:List A0):Ok (opT op k).1:=by
 obtain ⟨lo,hi,e⟩:=Y1n op (k.getD 0 zT) (k.getD 1 zT)
 unfold opT
 rw [e]
 refine Ja (Ja (I1h _ _) okz) (Ja (Ja okz okz) (Ja (Ja okz okz) (Ja (Ja okz okz) (Ja (Ja okz (Ja (okn _ _) (Ja okz okz))) (Ja (I1h _ _) okz)))))
theorem O1u {l:List A0}(h:∀ t∈l,Ok t)(i:Nat):Ok (l.getD i zT):=by
 unfold List.getD
 cases hx:l[i]? with
 | none=>exact okz
 | some x=>exact h x (List.mem_of_getElem? hx)
theorem Y21 {σ:Str→Option P0}(hσ:∀ nm v,σ nm=some v→Ok v.typ)(o n:Int)(s:Str){k:List A0}(hk:∀ t∈k,Ok t):Ok (Vo σ o n s k).1:=by
 have hk0:=O1u hk 0
 unfold Vo
 refine Ja (I1h _ _) (Ja okz (Ja ?_ (Ja ?_ (Ja (Ja okz ?_) (X24 _ _)))))
 ·cases hs:σ s with
  | none=>exact okz
  | some v=>exact hσ s v hs
 ·unfold Yu
  exact Ja okz (P1r fun t ht=>hk0.kid ht)
 ·exact O1u (fun t ht=>hk0.kid ht) 0
mutual
theorem P22 {σ:Str→Option P0}(hσ:∀ nm v,σ nm=some v→Ok v.typ):∀ e:D0,Ok (e.ty σ).1
 | .mk o n s ks=>by
  simp only [D0.ty]
  exact Ja okz (Y21 hσ o n s (R1z hσ ks))
theorem R1z {σ:Str→Option P0}(hσ:∀ nm v,σ nm=some v→Ok v.typ):∀ (l:List D0),∀ t∈(D0.tys σ l).1,Ok t
 | [],t,ht=>by simp [D0.tys] at ht
 | x::r,t,ht=>by
  have h1:=P22 hσ x
  have h2:=R1z hσ r
  simp only [D0.tys] at ht
  cases c1:(D0.ty σ x).2 != 0 with
  | true=>rw [c1] at ht; simp at ht
  | false=>
   rw [c1] at ht
   simp only [cond_false] at ht
   cases c2:(D0.tys σ r).2 != 0 with
   | true=>rw [c2] at ht; simp at ht
   | false=>
    rw [c2] at ht
    simp only [cond_false,List.mem_cons] at ht
    rcases ht with rfl | ht
    ·exact h1
    ·exact h2 t ht
end
abbrev tyS (s:Option L0)(e:D0):A0×Int:=e.ty fun nm=>lkO nm s
theorem S1z {s:Option L0}(h:SO s)(e:D0):Ok (tyS s e).1:=P22 (fun nm v hv=>(h nm v hv).2) e
theorem N1c {s:Option L0}(h:SO s){e:D0}(ho:OkE e)(hf:e.all U1=true):O3 s e=some (tyS s e):=(N1u s h.f e ho hf).1
def scT (t:A0):Bool:=bif t.Kind == 0 then true else t.Kind == 1
def U16 (a b:A0)(place:Bool):Bool:=bif (bif scT a then true else scT b) then a.Kind == b.Kind else (bif place then a.same b else false)
theorem Q1r {a:A0}(ha:Ok a)(b:A0)(place:Bool):S6 a b place=some (U16 a b place):=by
 unfold S6 U16
 rw [show R6 a=some (scT a) from rfl,ob]
 cases scT a with
 | true=>rfl
 | false=>
  rw [show (if (!false)=true then R6 b else some default)=some (scT b) from rfl,ob]
  cases scT b with
  | true=>rfl
  | false=>
   cases place with
   | false=>rfl
   | true=>
    simp only [cond_false,Bool.false_eq_true,if_false,if_true]
    rw [R21 a ha b]
    rfl
def plE (e:D0):Bool:=bif (bif (e.Op == 3) then true else (e.Op == 4)) then true else (e.Op == 5)
def A10 (s:Option L0)(e:D0)(to:A0):Int:=bif (bif (tyS s e).2 == 0 then !U16 (tyS s e).1 to (plE e) else false) then 9 else (tyS s e).2
theorem D1k {s:Option L0}(h:SO s){e:D0}(ho:OkE e)(hf:e.all U1=true)(to:A0):Q9 s e to=some (A10 s e to):=by
 unfold Q9 A10
 rw [N1c h ho hf,ob]
 cases hc:(tyS s e).2 == 0 with
 | false=>rfl
 | true=>
  rw [show (if true=true then Nj e else some default)=some (plE e) from rfl,ob,if_pos rfl,Q1r (S1z h e),ob]
  exact ifB _ _ _
structure J1h (c:N0)(n:Nat):Prop where
 p:CkP c.p
 at_:c.atV=n
 le:n≤c.p.Decls.length
theorem Z1n {x:C0}(h:sform x=true):(uPl x.Verb=true→x.Place.all U1=true)∧(uVa x.Verb=true→x.Value.all U1=true)∧D0.alls U1 x.Args=true:=by
 unfold sform at h
 simp only [Bool.and_eq_true] at h
 obtain ⟨⟨⟨⟨⟨⟨⟨⟨⟨⟨⟨_,h1⟩,_⟩,h2⟩,_⟩,_⟩,h3⟩,_⟩,_⟩,_⟩,_⟩,_⟩:=h
 refine ⟨fun hu=>?_,fun hu=>?_,h3⟩
 ·rw [hu] at h1; exact h1
 ·rw [hu] at h2; exact h2
theorem P1u {s:Option L0}(h:SO s){e:D0}(ho:OkE e)(hf:e.all U1=true):Aa s e=some (bif (bif (tyS s e).2 == 0 then (tyS s e).1.Kind != 0 else false) then 9 else (tyS s e).2):=by
 unfold Aa
 rw [N1c h ho hf,ob]
 exact ifB _ _ _
structure WfS (l:List C0):Prop where
 ok:OkS l
 form:C0.alls sform l=true
 numb:C0.alls snumb l=true
theorem Yi {q:C0→Bool}{x:C0}:∀ {l:List C0},C0.alls q l=true→x∈l→q x=true∧C0.alls q x.Then=true∧C0.alls q x.Else=true
 | y::r,h,hm=>by
  simp only [C0.alls,Bool.and_eq_true] at h
  cases hm with
  | head=>have:=h.1; rw [C0.all_eq,Bool.and_eq_true,Bool.and_eq_true] at this; exact this
  | tail _ hm=>exact Yi h.2 hm
theorem WfS.kids {l:List C0}(h:WfS l){x:C0}(hx:x∈l):WfS x.Then∧WfS x.Else:=by
 have a:=Yi h.form hx
 have b:=Yi h.numb hx
 have o:=h.ok.mem hx
 exact ⟨⟨o.thens,a.2.1,b.2.1⟩,o.elses,a.2.2,b.2.2⟩
theorem R1r {x:C0}(h:snumb x=true)(h7:x.Verb=7):Y2 (nT x.Low x.High):=by
 unfold snumb at h
 simp only [Bool.and_eq_true] at h
 have hn:=h.2
 unfold Yn at hn
 rw [h7] at hn
 simp only [show ((7:Int) == 4)=false from rfl,show ((7:Int) == 6)=false from rfl,show ((7:Int) == 7)=true from rfl,cond_false,cond_true,A2] at hn
 by_cases a:x.Low≥-1048576
 ·by_cases b:x.High≥x.Low
  ·by_cases d:x.High≤1048576
   ·exact .nT a b d
   ·simp [a,b,d] at hn
  ·simp [a,b] at hn
 ·simp [a] at hn
def inK (d:B0):Bool:=bif (bif (d.Kind == 1) then true else (d.Kind == 2)) then true else (d.Kind == 3)
def inM (ds:List B0)(vs:Bool):List B0→Nat→List (Str×P0)→List (Str×P0)
 | [],_,m=>m
 | d::r,k,m=>inM ds vs r (k+1) (bif (bif inK d then true else (bif vs then (d.Kind == 4) else false)) then mpt d.Name ⟨(K2 (ds.take k) d.TypeV).1,inK d⟩ m else m)
theorem K1h {c:N0}(hc:CkP c.p){i:Nat}(hi:i≤c.p.Decls.length)(vs:Bool)(x1:List (Str×P0)×Option L0) :
  ∀ (r:List B0) (k:Nat) (m:List (Str×P0)),(c.p.Decls.take i).drop k=r→R2 c vs m x1 (c.p.Decls.take i) k=some (some (.mk x1.2 (inM c.p.Decls vs r k m)))
 | [],k,m,h=>by
  rw [R2,(A1 h).1]
  rfl
 | d::r,k,m,h=>by
  obtain ⟨h1,h2,h3,h4,h5⟩:=C1 h
  have hl:=hc.okp.decls.len
  have hk:k≤c.p.Decls.length:=by simp at h4; omega
  rw [R2,h1,h2]
  simp only [if_true,ob,inM]
  rw [Xs hc hk (hc.small d (List.mem_of_mem_take h5)).1]
  simp only [ob]
  rw [w1 (by omega)]
  show (if (bif inK d then true else (bif vs then (d.Kind == 4) else false))=true then _ else _)=_
  cases (bif inK d then true else (bif vs then (d.Kind == 4) else false)) with
  | true=>exact K1h hc hi vs x1 r (k+1) _ h3
  | false=>exact K1h hc hi vs x1 r (k+1) m h3
def inS (p:I0)(i:Nat)(vs:Bool):Option L0:=some (.mk none (inM p.Decls vs (p.Decls.take i) 0 []))
theorem O1c {c:N0}(hc:CkP c.p){i:Nat}(hi:i≤c.p.Decls.length)(vs:Bool):M4 c i vs=some (inS c.p i vs):=by
 unfold M4
 rw [show I4 none=some ([],none) from rfl,ob,C1m hi,ob]
 exact K1h hc hi vs ([],none) (c.p.Decls.take i) 0 [] rfl
theorem T1z {p:I0}(hp:CkP p)(vs:Bool):∀ (r:List B0) (k:Nat) (m:List (Str×P0)),(∀ d∈r,d∈p.Decls)→MF m→MF (inM p.Decls vs r k m)
 | [],_,_,_,hm=>hm
 | d::r,k,m,hd,hm=>by
  simp only [inM]
  refine T1z hp vs r (k+1) _ (fun d hd'=>hd d (List.mem_cons_of_mem _ hd')) ?_
  cases (bif inK d then true else (bif vs then (d.Kind == 4) else false)) with
  | true=>exact hm.put _ (Dg (hp.dok.take k) (hp.small d (hd d List.mem_cons_self)).1)
  | false=>exact hm
theorem P1c {p:I0}(hp:CkP p)(i:Nat)(vs:Bool):SO (inS p i vs):=
 SO.none.ext (T1z hp vs _ 0 [] (fun d hd=>List.mem_of_mem_take hd) fun q hq=>by cases hq)
theorem S1r {t:A0}(ht:Ok t):(Ra t).1.length≤BB:=by
 unfold Ra
 cases hc:Lf t != 0 with
 | true=>exact Nat.zero_le _
 | false=>
  have hv:=(Val.of ht (by simpa using hc)).1
  have h1:=H1c t hv []
  have h2:=hv.cnt
  simp only [cond_false]
  unfold BB
  omega
end Go.Proofs.YtdkabnfphmmmnaaGreatDoor

set_option linter.unusedSimpArgs false
set_option linter.unusedVariables false
namespace Go.Proofs.YtdkabnfphmmmnaaGreatDoor
open Go.Am
theorem E1k {n d:Int}{f m u:Bool}(h:Wc n d f m u=0):n≤1024∧d≤12∧f=false∧m=false∧u=false:=by
 unfold Wc at h
 by_cases h1:n > 1024
 ·rw [decide_eq_true h1] at h
  revert h; cases f <;> cases m <;> cases u <;> simp
 ·by_cases h2:d > 12
  ·rw [decide_eq_true h2,decide_eq_false h1] at h
   revert h; cases f <;> cases m <;> cases u <;> simp
  ·rw [decide_eq_false h1,decide_eq_false h2] at h
   revert h; cases f <;> cases m <;> cases u <;> simp <;> omega
def tOf (p:I0)(z:Int)(e:D0):A0×Int:=bif z != 0 then (zT,z) else bif Ps e != 0 then (zT,Ps e) else tyS (inS p p.Decls.length true) e
theorem Y24 {p:I0}(hb:p.bulk≤4200000){z:Int×Int}(hz:B6 p=some z)(hp:z.2=0→CkP p){e:D0}(ho:OkE e):Dh p e=some (tOf p z.2 e):=by
 unfold Dh tOf
 rw [hz,ob]
 cases hc:z.2 != 0 with
 | true=>rfl
 | false=>
  have hp':=hp (by simpa using hc)
  rw [if_neg (by simp),P1q e ho,ob]
  cases h2:Ps e != 0 with
  | true=>rfl
  | false=>
   have hf:e.all U1=true:=by
    have:=(E1k (show Ps e=0 by simpa using h2)).2.2.1
    simpa using this
   rw [if_neg (by simp),ob,O1c (c:=N0.mk p 0 false []) hp' (Nat.le_refl _),ob,N1c (P1c hp' _ _) ho hf,ob]
   rfl
def rgT (t:A0×Int):Int×Int×Int:=bif t.2 != 0 then (0,0,t.2) else bif t.1.Kind != 1 then (0,0,9) else (t.1.Low,t.1.High,0)
theorem Z21 {p:I0}(hb:p.bulk≤4200000){z:Int×Int}(hz:B6 p=some z)(hp:z.2=0→CkP p){e:D0}(ho:OkE e):Cc p e=some (rgT (tOf p z.2 e)):=by
 unfold Cc rgT
 rw [Y24 hb hz hp ho,ob]
 cases (tOf p z.2 e).2 != 0 with
 | true=>rfl
 | false=>cases (tOf p z.2 e).1.Kind != 1 <;> rfl
end Go.Proofs.YtdkabnfphmmmnaaGreatDoor

