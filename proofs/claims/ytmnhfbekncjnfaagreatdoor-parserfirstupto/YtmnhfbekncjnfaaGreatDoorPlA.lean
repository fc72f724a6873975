/- A part of the proof of ParserFirst. -/
import Derived.Test.YtmnhfbekncjnfaaGreatDoorDgC
import Derived.ProofKit
import Derived.Lib.Atoi
namespace Go.Proofs.YtmnhfbekncjnfaaGreatDoor
open Go.Am
theorem ob {α β:Type}(a:α)(f:α→Option β):(some a>>=f)=f a:=rfl
theorem J3 {α:Type}{l:List α}{k:Nat}{x:α}{r:List α}(h:l.drop k=x::r):decide ((k:Int) < (l.length:Int))=true∧idx l (k:Int)=some x∧l.drop (k+1)=r∧k < l.length∧x∈l:=by
 have hk:k < l.length:=by
  rcases Nat.lt_or_ge k l.length with h1 | h1
  ·exact h1
  ·rw [List.drop_eq_nil_of_le h1] at h; cases h
 have hx:=List.drop_eq_getElem_cons hk
 rw [h] at hx
 obtain ⟨e1,e2⟩:=List.cons.inj hx
 refine ⟨decide_eq_true (by omega),?_,e2.symm,hk,?_⟩
 ·unfold idx
  rw [if_pos (by omega),e1]
  simp [hk]
 ·rw [e1]; exact List.getElem_mem hk
theorem L2 {α:Type}{l:List α}{k:Nat}(h:l.drop k=[]):decide ((k:Int) < (l.length:Int))=false∧l.length≤k:=by
 have:=List.drop_eq_nil_iff.1 h
 exact ⟨decide_eq_false (by omega),this⟩
def BB:Nat:=68719476736
theorem wr {n:Int}(h : -4611686018427387904≤n)(h':n≤4611686018427387904):IntKind.i64.wrap n=n:=I1j (by omega) (by omega)
theorem w1 {k:Nat}(h:k≤BB):IntKind.i64.wrap ((k:Int)+1)=((k+1:Nat):Int):=by
 unfold BB at h
 rw [wr (by omega) (by omega)]; rfl
def Ac (n:Int):Bool:=bif decide (n≥97) then decide (n≤122) else false
def Ea (n:Int):Bool:=bif decide (n≥48) then decide (n≤57) else false
def N1f (i:Nat)(c:UInt8):Bool:=Ac c.toNat||(i != 0&&Ea c.toNat)
def Vl:Nat→List UInt8→Bool
 | _,[]=>true
 | i,c::r=>N1f i c&&Vl (i+1) r
def word (s:List UInt8):Bool:=Vl 0 s && !(s == [])
def kw:List UInt8:=[32,116,121,112,101,32,115,101,99,114,101,116,32,112,117,98,108,105,99,32,114,97,110,100,111,109,32,118,97,114,32,104,97,116,99,104,32,102,117,110,99,32,114,101,116,117,114,110,32,98,101,103,105,110,32,101,110,100,32,98,111,111,108,32,105,110,116,32,97,114,114,97,121,32,111,102,32,114,101,99,111,114,100,32,116,114,117,101,32,102,97,108,115,101,32,99,97,108,108,32,114,101,108,101,97,115,101,32,111,117,116,112,117,116,32,119,97,105,116,32,105,102,32,101,108,115,101,32,119,104,105,108,101,32,108,105,109,105,116,32,102,111,114,32,116,111,32,115,101,116,116,108,101,32,109,105,110,32,109,97,120,32]
def Bt (s:List UInt8):Bool:=bif (bif !(s == []) then !Lib.contains s [32] else false) then Lib.contains kw ([32]++s++[32]) else false
def L9 (s:List UInt8):Bool:=bif (bif decide ((s.length:Int)≤12) then word s else false) then !Bt s else false
theorem getD_some {s:List UInt8}{k:Nat}(h:k < s.length):s[k]?=some (s.getD k 0):=by simp [List.getD,h]
def ld (c:UInt8):Bool:=bif Ac c.toNat then true else Ea c.toNat
def C4:List UInt8→Nat
 | []=>0
 | c::r=>bif ld c then C4 r+1 else 0
theorem Qq:∀ s:List UInt8,C4 s≤s.length
 | []=>Nat.le_refl _
 | c::r=>by
  simp only [C4,List.length_cons]
  have:=Qq r
  cases ld c <;> simp <;> omega
def Yw (s:List UInt8):Bool:=bif ((s.length:Nat):Int) == 0 then false else bif s.all (fun c=>Ac c.toNat) then Lib.contains kw ([32]++s++[32]) else false
set_option maxRecDepth 100000 in
theorem F12:kw.length=162:=rfl
theorem S1b {s sub:List UInt8}{i:Nat}(hi:i+sub.length≤s.length)(h:((s.take (i+sub.length)).drop i == sub)=true):Lib.contains s sub=true:=by
 have ho:Lib.occAt s sub i=true:=by
  rw [Lib.occAt_iff_take s sub i hi]
  rw [List.drop_take] at h
  simpa using h
 rcases Lib.index_spec s sub with ⟨_,h2⟩ | ⟨j,h1,_⟩
 ·rw [h2 i (by omega)] at ho; cases ho
 ·unfold Lib.contains
  rw [h1]
  exact decide_eq_true (by omega)
theorem C10 {s sub:List UInt8}(h:∀ i,i+sub.length≤s.length→((s.take (i+sub.length)).drop i == sub)=false)(hne:sub≠[]):Lib.contains s sub=false:=by
 rcases Lib.index_spec s sub with ⟨h1,_⟩ | ⟨j,h1,h2,h3,_⟩
 ·unfold Lib.contains
  rw [h1]; rfl
 ·rcases Lib.occAt_room h3 with hr | hr
  ·have:=h j hr
   rw [Lib.occAt_iff_take s sub j hr] at h3
   rw [List.drop_take] at this
   have e:j+sub.length - j=sub.length:=by omega
   rw [e,h3] at this
   cases this
  ·exact absurd hr hne
def O1f (s:List UInt8):Bool:=
 bif (bif (bif (bif decide (((s.length:Nat):Int) < 1) then true else decide (((s.length:Nat):Int) > 12)) then true else !Ac (s.getD 0 0).toNat) then true else Yw s) then false else ((C4 s:Nat):Int) == ((s.length:Nat):Int)
theorem Q13:∀ (r:List UInt8) (i:Nat),1≤i→Vl i r=r.all ld
 | [],_,_=>rfl
 | c::r,i,h=>by
  have hi:(i != 0)=true:=by simp; omega
  simp only [Vl,List.all_cons,Q13 r (i+1) (by omega),N1f,hi,Bool.true_and,ld]
  cases Ac c.toNat <;> rfl
theorem Y1d:∀ s:List UInt8,(((C4 s:Nat):Int) == ((s.length:Nat):Int))=s.all ld
 | []=>rfl
 | c::r=>by
  have h:=Y1d r
  have hle:=Qq r
  simp only [C4,List.length_cons,List.all_cons,← h]
  cases ld c with
  | false=>
   simp only [cond_false,Bool.false_and]
   apply beq_eq_false_iff_ne.2
   omega
  | true=>
   simp only [cond_true,Bool.true_and]
   rw [Bool.eq_iff_iff,beq_iff_eq,beq_iff_eq]
   omega
set_option maxRecDepth 100000 in
theorem A1k:kw.all (fun c=>Ac c.toNat||c == 32)=true:=by decide
theorem G12 {s sub:List UInt8}(h:Lib.contains s sub=true)(hne:sub≠[]):∀ c∈sub,c∈s:=by
 rcases Lib.index_spec s sub with ⟨h1,_⟩ | ⟨j,h1,h2,h3,_⟩
 ·unfold Lib.contains at h
  rw [h1] at h
  cases h
 ·rcases Lib.occAt_room h3 with hr | hr
  ·rw [Lib.occAt_iff_take s sub j hr] at h3
   have e:(s.drop j).take sub.length=sub:=by simpa using h3
   intro c hc
   rw [← e] at hc
   exact List.mem_of_mem_drop (List.mem_of_mem_take hc)
  ·exact absurd hr hne
theorem T1b:ld 32=false:=by decide
theorem U1b {s:List UInt8}(h:s.all ld=true):Lib.contains s [32]=false:=by
 cases hc:Lib.contains s [32] with
 | false=>rfl
 | true=>
  have:=G12 hc (by simp) 32 (by simp)
  have:=List.all_eq_true.1 h 32 this
  rw [T1b] at this
  cases this
theorem Z1d {s:List UInt8}(h:s.all ld=true)(hc:Lib.contains kw ([32]++s++[32])=true):s.all (fun c=>Ac c.toNat)=true:=by
 rw [List.all_eq_true]
 intro c hcs
 have h1:=G12 hc (by simp) c (by simp [hcs])
 have h2:=List.all_eq_true.1 A1k c h1
 have h3:=List.all_eq_true.1 h c hcs
 cases hl:Ac c.toNat with
 | true=>rfl
 | false=>
  rw [hl,Bool.false_or,beq_iff_eq] at h2
  subst h2
  rw [T1b] at h3
  cases h3
theorem Z1l (s:List UInt8):O1f s=L9 s:=by
 unfold O1f L9
 rw [Y1d]
 cases s with
 | nil=>rfl
 | cons c r=>
  have h1:decide ((((c::r).length:Nat):Int) < 1)=false:=decide_eq_false (by simp only [List.length_cons]; omega)
  have h12:decide ((((c::r).length:Nat):Int) > 12) = !decide ((((c::r).length:Nat):Int)≤12):=by
   rw [← decide_not]; exact decide_eq_decide.2 Int.not_le.symm
  have hw:word (c::r)=(Ac c.toNat&&r.all ld):=by
   unfold word
   simp only [Vl,N1f,Q13 r 1 (Nat.le_refl _)]
   simp
  rw [h1,h12,hw,cond_false,List.all_cons]
  show (bif (bif (bif !decide ((((c::r).length:Nat):Int)≤12) then true else !Ac c.toNat) then true else Yw (c::r)) then false else (ld c&&r.all ld))=_
  cases h12':decide ((((c::r).length:Nat):Int)≤12) with
  | false=>rfl
  | true=>
   cases hl:Ac c.toNat with
   | false=>rfl
   | true=>
    have hlc:ld c=true:=by unfold ld; rw [hl]; rfl
    rw [hlc]
    cases ha:r.all ld with
    | false=>cases Yw (c::r) <;> rfl
    | true=>
     have hall:(c::r).all ld=true:=by rw [List.all_cons,hlc,ha]; rfl
     have hns:=U1b hall
     have e:Yw (c::r)=Bt (c::r):=by
      unfold Yw Bt
      rw [hns]
      have hz:((((c::r).length:Nat):Int) == 0)=false:=beq_eq_false_iff_ne.2 (by simp only [List.length_cons]; omega)
      rw [hz]
      cases hk:Lib.contains kw ([32]++(c::r)++[32]) with
      | false=>simp
      | true=>
       rw [Z1d hall hk]
       rfl
     rw [e]
     cases Bt (c::r) <;> rfl
theorem Zw (n:Int):Oa n=some (Ac n):=rfl
theorem Ut (n:Int):Y8 n=some (Ea n):=rfl
theorem O16 (s:Str)(hs:s.length≤BB):∀ (r:Str) (k:Nat),s.drop k=r→B6 s k=some (Vl k r && !(s == []))
 | [],k,h=>by rw [B6,(L2 h).1]; simp [Vl]
 | c::r,k,h=>by
  obtain ⟨h1,h2,h3,h4,_⟩:=J3 h
  have ih:=O16 s hs r (k+1) h3
  rw [B6,h1,if_pos rfl,h2,ob,Zw,ob,w1 (by omega),ih]
  have e:((k:Int) == 0)=(k == 0):=by cases k <;> rfl
  simp only [e,Vl,N1f,bne]
  cases hl:Ac c.toNat <;> cases hk:k == 0 <;> cases hd:Ea c.toNat <;> simp [Ut,hd]
theorem N1h (s:Str)(hs:s.length≤BB):Ji s=some (word s):=O16 s hs s 0 rfl
theorem D10 (s t:Str)(hs:s.length≤4000000000):Uj s t=some (Lib.contains s t):=by
 unfold Uj
 rw [if_pos (decide_eq_true (by omega))]
theorem R13 (s:Str)(hs:s.length≤4000000000):B9 s=some (Bt s):=by
 unfold B9
 have h1:decide (1+s.length≤maxLen)=true:=decide_eq_true (by unfold maxLen; omega)
 have h2:decide (([32]++s).length+1≤maxLen)=true:=decide_eq_true (by unfold maxLen; simp; omega)
 rw [D10 s _ hs]
 have h3:=D10 kw (([32]++s)++[32]) (by rw [F12]; omega)
 unfold kw at h3
 unfold Bt kw
 rw [h1,h2,h3]
 cases s == [] <;> cases Lib.contains s [32] <;> simp
theorem O1h (s:Str)(hs:s.length≤BB):Zd s=some (L9 s):=by
 unfold Zd Ki L9
 rw [N1h s hs]
 cases h:decide ((s.length:Int)≤12) with
 | false=>simp
 | true=>
  have h':s.length≤12:=by have:=of_decide_eq_true h; omega
  rw [R13 s (by omega)]
  cases word s <;> simp
theorem Vo (n:Int):Tf n=some (Ac n):=rfl
theorem Ax (n:Int):Rk n=some (Ea n):=rfl
theorem Q17 (s:Str)(hs:s.length≤BB):∀ (r:Str) (k:Nat),s.drop k=r→Fd s k=some ((k+C4 r:Nat):Int)
 | [],k,h=>by rw [Fd,(L2 h).1]; simp [C4,ob]
 | c::r,k,h=>by
  obtain ⟨h1,h2,h3,h4,_⟩:=J3 h
  have ih:=Q17 s hs r (k+1) h3
  rw [Fd,h1,if_pos rfl,h2,ob,if_pos rfl,Vo,ob,w1 (by omega),ih]
  simp only [C4,ld]
  cases hl:Ac c.toNat <;> cases hd:Ea c.toNat <;> simp [Ax,hd,ob] <;> omega
theorem H1n (s:Str)(hs:s.length≤BB):Ll s 0=some ((C4 s:Nat):Int):=by
 have:=Q17 s hs s 0 rfl
 unfold Ll
 rw [Nat.zero_add] at this
 exact this
theorem B1k (s:Str)(hs:s.length≤4000000000):∀ (n k:Nat),n+k=163→(∀ i,i < k→i+([32]++s++[32]).length≤kw.length→((kw.take (i+([32]++s++[32]).length)).drop i == [32]++s++[32])=false)→
  R7 s k=some (Lib.contains kw ([32]++s++[32])):=by
 have hl:([32]++s++[32]).length=s.length+2:=by simp
 intro n
 induction n with
 | zero=>
  intro k hk hi
  rw [R7,wr (n:=(k:Int)+_) (by omega) (by omega),wr (by omega) (by omega),if_neg (by simp; omega),C10 (fun i h=>hi i (by rw [F12] at h; omega) h) (by simp)]
 | succ n ih=>
  intro k hk hi
  rw [R7,wr (n:=(k:Int)+_) (by omega) (by omega),wr (by omega) (by omega)]
  by_cases hr:k+([32]++s++[32]).length≤kw.length
  ·have hr':=hr
   rw [F12,hl] at hr'
   rw [if_pos (decide_eq_true (by omega))]
   have hs2:slc kw (k:Int) ((k:Int)+(s.length:Int)+2)=some ((kw.take (k+([32]++s++[32]).length)).drop k):=by
    unfold slc
    rw [if_pos ⟨by omega,by omega,by rw [F12]; omega⟩,hl]
    rw [show ((k:Int)+(s.length:Int)+2).toNat=k+(s.length+2) by omega]
    rfl
   unfold kw at hs2
   rw [hs2,ob,if_pos (decide_eq_true (by unfold maxLen; omega)),if_pos (decide_eq_true (by unfold maxLen; simp; omega))]
   cases he:((kw.take (k+([32]++s++[32]).length)).drop k == [32]++s++[32]) with
   | true=>
    have:=S1b hr he
    rw [this]
    unfold kw at he
    rw [he,if_pos rfl]
   | false=>
    have he':=he
    unfold kw at he'
    rw [he',if_neg (by simp),w1 (by unfold BB; omega)]
    refine ih (k+1) (by omega) fun i hik=>?_
    rcases Nat.lt_or_eq_of_le (Nat.le_of_lt_succ hik) with h | h
    ·exact hi i h
    ·subst h; exact fun _=>he
  ·have hr':=hr
   rw [F12,hl] at hr'
   rw [if_neg (by simp; omega),C10 (fun i h=>hi i (by omega) h) (by simp)]
theorem V1b (s:Str)(hs:s.length≤4000000000):∀ (r:Str) (k:Nat),s.drop k=r→S7 s k=some (bif r.all (fun c=>Ac c.toNat) then Lib.contains kw ([32]++s++[32]) else false)
 | [],k,h=>by rw [S7,(L2 h).1,if_neg (by simp)]; exact B1k s hs 163 0 rfl (fun i h=>by omega)
 | c::r,k,h=>by
  obtain ⟨h1,h2,h3,h4,_⟩:=J3 h
  have ih:=V1b s hs r (k+1) h3
  rw [S7,h1,if_pos rfl,h2,ob,Vo,ob,w1 (by unfold BB; omega),ih,List.all_cons]
  cases Ac c.toNat <;> simp
theorem Ly (s:Str)(hs:s.length≤4000000000):Ef s=some (Yw s):=by
 unfold Ef Yw
 have:=V1b s hs s 0 rfl
 rw [show (0:Int)=((0:Nat):Int) from rfl,this]
 cases ((s.length:Int) == ((0:Nat):Int)) <;> simp
theorem Wl (s:Str)(hs:s.length≤BB):Wf s=some (L9 s):=by
 rw [← Z1l]
 unfold Wf X11 O1f
 cases h:(bif decide ((s.length:Int) < 1) then true else decide ((s.length:Int) > 12)) with
 | true=>simp [ob]
 | false=>
  have h':1≤s.length∧s.length≤12:=by
   cases h1:decide ((s.length:Int) < 1) with
   | true=>rw [h1] at h; cases h
   | false=>
    rw [h1] at h
    have:=of_decide_eq_false h1
    have:=of_decide_eq_false (show decide ((s.length:Int) > 12)=false from h)
    omega
  have h0:idx s 0=some (s.getD 0 0):=getD_some (by omega)
  rw [h0,Ly s (by omega),H1n s hs]
  simp only [Bool.not_false,if_true,ob,Vo,cond_false]
  cases Ac (s.getD 0 0).toNat <;> cases Yw s <;> simp [ob]
end Go.Proofs.YtmnhfbekncjnfaaGreatDoor

set_option linter.unusedSimpArgs false
namespace Go.Proofs.YtmnhfbekncjnfaaGreatDoor
open Go.Am
theorem F0.ind {P:F0→Prop}(h:∀ t:F0,(∀ x∈t.Of,P x)→P t):∀ t,P t:=by
 intro t
 refine F0.rec (motive_1:=P) (motive_2:=fun l=>∀ x∈l,P x) ?_ ?_ ?_ t
 ·intro k l h' s n ns of ih
  exact h _ ih
 ·intro x hx; cases hx
 ·intro x r hx hr y hy
  cases hy with
  | head=>exact hx
  | tail _ hy=>exact hr y hy
mutual
def F0.depth:F0→Nat
 | .mk _ _ _ _ _ _ of=>F0.depths of+1
def F0.depths:List F0→Nat
 | []=>0
 | t::r=>max (F0.depth t) (F0.depths r)
end
theorem F0.depth_eq (t:F0):t.depth=F0.depths t.Of+1:=by cases t; simp [F0.depth,F0.Of]
def R3 (a b c:Int):Bool:=bif decide (a≥b) then decide (a≤c) else false
mutual
def F0.all (p:F0→Bool):F0→Bool
 | .mk k l h s n ns of=>p (.mk k l h s n ns of)&&F0.alls p of
def F0.alls (p:F0→Bool):List F0→Bool
 | []=>true
 | t::r=>F0.all p t&&F0.alls p r
end
theorem F0.all_eq (p:F0→Bool)(t:F0):t.all p=(p t&&F0.alls p t.Of):=by cases t; rfl
mutual
def F0.nodes:F0→Nat
 | .mk _ _ _ _ _ _ of=>F0.nodess of+1
def F0.nodess:List F0→Nat
 | []=>0
 | t::r=>F0.nodes t+F0.nodess r
end
theorem F0.nodes_eq (t:F0):t.nodes=F0.nodess t.Of+1:=by cases t; rfl
mutual
theorem F0.depth_nodes:∀ t:F0,t.depth≤t.nodes
 | .mk _ _ _ _ _ _ of=>by simp only [F0.depth,F0.nodes]; have:=F0.depths_nodess of; omega
theorem F0.depths_nodess:∀ l:List F0,F0.depths l≤F0.nodess l
 | []=>Nat.le_refl _
 | t::r=>by simp only [F0.depths,F0.nodess]; have:=F0.depth_nodes t; have:=F0.depths_nodess r; omega
end
def fm1 (t:F0):Bool:=bif decide (t.Kind≥0) then decide (t.Kind≤4) else false
def fm2 (t:F0):Bool:=bif t.Kind == 1 then true else bif t.Low == 0 then t.High == 0 else false
def fm3 (t:F0):Bool:=bif t.Kind == 2 then true else t.Size == 0
def fm4 (t:F0):Bool:=bif t.Kind == 4 then true else t.Name == []
def fm5 (t:F0):Bool:=bif t.Kind == 3 then true else ((t.Names).length:Int) == 0
def fm6 (t:F0):Bool:=bif t.Kind == 2 then ((t.Of).length:Int) == 1 else bif t.Kind == 3 then (bif decide (((t.Of).length:Int)≥1) then ((t.Of).length:Int) == ((t.Names).length:Int) else false) else ((t.Of).length:Int) == 0
def nm1 (t:F0):Bool:=bif t.Kind == 2 then R3 t.Size 1 32 else bif t.Kind == 3 then decide (((t.Of).length:Int)≤32) else true
def nm2 (t:F0):Bool:=bif t.Kind == 1 then (bif R3 t.Low (-1048576) 1048576 then R3 t.High t.Low 1048576 else false) else true
def na1 (t:F0):Bool:=bif t.Kind == 4 then L9 t.Name else true
def Tb (t:F0):Bool:=fm1 t&&fm2 t&&fm3 t&&fm4 t&&fm5 t&&fm6 t
def Rq (t:F0):Bool:=nm1 t&&nm2 t
def El (t:F0):Bool:=na1 t&&t.Names.all L9
theorem Js (a b c:Bool):(a || !b || !c)=(a || !(b&&c)):=by cases a <;> cases b <;> cases c <;> rfl
def Ao (n d:Int)(f m u:Bool):Int:=
 bif (bif decide (n > 1024) then true else decide (d > 12)) then 4 else bif f then 1 else bif m then 7 else bif u then 3 else 0
theorem Kz (a b:Int):decide (a < b) = !decide (a≥b):=by
 rw [← decide_not]; exact decide_eq_decide.2 Int.not_le.symm
theorem Lz (a b:Int):decide (a > b) = !decide (a≤b):=by
 rw [← decide_not]; exact decide_eq_decide.2 Int.not_le.symm
def W1b (t:F0):Bool:=bif decide (t.Kind < 0) then true else decide (t.Kind > 4)
def X1b (t:F0):Bool:=
 bif (bif (bif (bif t.Kind != 1 then (bif t.Low != 0 then true else t.High != 0) else false) then true else (bif t.Kind != 2 then t.Size != 0 else false)) then true else (bif t.Kind != 4 then !(t.Name == []) else false)) then true else
  (bif t.Kind != 3 then ((t.Names).length:Int) != 0 else false)
def Y1b (t:F0):Bool:=
 bif (bif (bif t.Kind == 2 then ((t.Of).length:Int) != 1 else false) then true else
  (bif t.Kind == 3 then (bif decide (((t.Of).length:Int) < 1) then true else ((t.Of).length:Int) != ((t.Names).length:Int)) else false)) then true else
  (bif (bif t.Kind != 2 then t.Kind != 3 else false) then ((t.Of).length:Int) != 0 else false)
theorem A1m (t:F0):fm1 t = !W1b t:=by
 unfold fm1 W1b
 rw [Kz,Lz]
 cases decide (t.Kind≥0) <;> cases decide (t.Kind≤4) <;> rfl
theorem B1m (t:F0):(fm2 t&&fm3 t&&fm4 t&&fm5 t) = !X1b t:=by
 unfold fm2 fm3 fm4 fm5 X1b
 simp only [bne]
 generalize (t.Kind == 1)=a
 generalize (t.Kind == 2)=b
 generalize (t.Kind == 3)=c
 generalize (t.Kind == 4)=d
 generalize (t.Low == 0)=e
 generalize (t.High == 0)=f
 generalize (t.Size == 0)=g
 generalize (t.Name == [])=h
 generalize (((t.Names).length:Int) == 0)=i
 cases a <;> cases b <;> cases c <;> cases d <;> cases e <;> cases f <;> cases g <;> cases h <;> cases i <;> rfl
theorem C1m (t:F0):fm6 t = !Y1b t:=by
 have hx:(t.Kind == 2)=true→(t.Kind == 3)=false:=fun h=>by
  have:t.Kind=2:=by simpa using h
  rw [this]; rfl
 unfold fm6 Y1b
 rw [Kz]
 simp only [bne]
 revert hx
 generalize (t.Kind == 2)=b
 generalize (t.Kind == 3)=c
 generalize (((t.Of).length:Int) == 1)=d
 generalize (((t.Of).length:Int) == 0)=e
 generalize (((t.Of).length:Int) == ((t.Names).length:Int))=f
 generalize (decide (((t.Of).length:Int)≥1))=g
 intro hx
 cases b <;> cases c <;> first | (exact absurd (hx rfl) (by decide)) | (cases d <;> cases e <;> cases f <;> cases g <;> rfl)
theorem C1k (t:F0):Tb t=(!W1b t && !X1b t && !Y1b t):=by
 rw [← A1m,← B1m,← C1m]
 unfold Tb
 simp only [Bool.and_assoc]
def Jh (n:Int):Bool:=bif decide (n≥-1048576) then decide (n≤1048576) else false
def Sq (t:F0):Bool:=
 bif (bif (bif t.Kind == 1 then (bif (bif !Jh t.Low then true else !Jh t.High) then true else decide (t.Low > t.High)) else false) then true else
  (bif t.Kind == 2 then (bif decide (t.Size < 1) then true else decide (t.Size > 32)) else false)) then true else decide (((t.Of).length:Int) > 32)
theorem Z1b (t:F0)(hf:Tb t=true):Rq t = !Sq t:=by
 have hk1:(t.Kind == 1)=true→(t.Kind == 2)=false∧(t.Kind == 3)=false:=fun h=>by
  have:t.Kind=1:=by simpa using h
  rw [this]; exact ⟨rfl,rfl⟩
 have hk2:(t.Kind == 2)=true→(t.Kind == 3)=false:=fun h=>by
  have:t.Kind=2:=by simpa using h
  rw [this]; rfl
 have h6:fm6 t=true:=by
  unfold Tb at hf
  simp only [Bool.and_eq_true] at hf
  exact hf.2
 have hin:(bif R3 t.Low (-1048576) 1048576 then R3 t.High t.Low 1048576 else false) = !(bif (bif !Jh t.Low then true else !Jh t.High) then true else decide (t.Low > t.High)):=by
  unfold R3 Jh
  by_cases a1:t.Low≥-1048576 <;> by_cases a2:t.Low≤1048576 <;> by_cases a3:t.High≥-1048576 <;> by_cases a4:t.High≤1048576 <;> by_cases a5:t.High≥t.Low <;>
   simp [a1,a2,a3,a4,a5] <;> omega
 have hsz:R3 t.Size 1 32 = !(bif decide (t.Size < 1) then true else decide (t.Size > 32)):=by
  unfold R3
  rw [Kz,Lz]
  cases decide (t.Size≥1) <;> cases decide (t.Size≤32) <;> rfl
 unfold Rq Sq nm1 nm2
 rw [hin,hsz,Lz (((t.Of).length:Int))]
 have hl:(t.Kind == 3)=false→decide (((t.Of).length:Int)≤32)=true:=fun h3=>by
  unfold fm6 at h6
  rw [h3] at h6
  cases h2:t.Kind == 2 with
  | true=>
   rw [h2] at h6
   have:((t.Of).length:Int)=1:=by simpa using h6
   exact decide_eq_true (by omega)
  | false=>
   rw [h2] at h6
   have:((t.Of).length:Int)=0:=by simpa using h6
   exact decide_eq_true (by omega)
 revert hk1 hk2 hl
 generalize (bif (bif !Jh t.Low then true else !Jh t.High) then true else decide (t.Low > t.High))=X
 generalize (bif decide (t.Size < 1) then true else decide (t.Size > 32))=Y
 generalize decide (((t.Of).length:Int)≤32)=Z
 generalize (t.Kind == 1)=a
 generalize (t.Kind == 2)=b
 generalize (t.Kind == 3)=c
 intro hk1 hk2 hl
 cases a <;> cases b <;> cases c <;> first | exact absurd (hk1 rfl).1 (by decide) | exact absurd (hk1 rfl).2 (by decide) | exact absurd (hk2 rfl) (by decide) | (cases X <;> cases Y <;> cases Z <;> first | rfl | exact absurd (hl rfl) (by decide))
theorem G1d (t:F0):t.all Tb=true→t.all Rq=t.all fun t=>!Sq t:=by
 induction t using F0.ind with
 | h t ih=>
 intro hf
 rw [F0.all_eq,Bool.and_eq_true] at hf
 rw [F0.all_eq,F0.all_eq,Z1b t hf.1]
 congr 1
 have:∀ l:List F0,(∀ x∈l,x.all Tb=true→x.all Rq=x.all fun t=>!Sq t)→F0.alls Tb l=true→F0.alls Rq l=F0.alls (fun t=>!Sq t) l:=by
  intro l
  induction l with
  | nil=>intros; rfl
  | cons x r ihr=>
   intro h1 h2
   simp only [F0.alls,Bool.and_eq_true] at h2
   simp only [F0.alls]
   rw [h1 x List.mem_cons_self h2.1,ihr (fun y hy=>h1 y (List.mem_cons_of_mem _ hy)) h2.2]
 exact this t.Of ih hf.2
def eqL {α:Type}(p:α→α→Bool):List α→List α→Bool
 | [],[]=>true
 | x::r,y::s=>p x y&&eqL p r s
 | _,_=>false
theorem Tq {α:Type}(p:α→α→Bool):∀ {l m:List α},l.length≠m.length→eqL p l m=false
 | [],[],h=>absurd rfl h
 | [],_::_,_=>rfl
 | _::_,[],_=>rfl
 | x::r,y::s,h=>by rw [eqL,Tq p (l:=r) (m:=s) (by simpa using h),Bool.and_false]
mutual
def F0.same:F0→F0→Bool
 | .mk k l h s n ns of,t=>k == t.Kind&&l == t.Low&&h == t.High&&s == t.Size&&n == t.Name&&eqL (fun x y=>x == y) ns t.Names&&F0.sames of t.Of
def F0.sames:List F0→List F0→Bool
 | [],[]=>true
 | x::r,y::s=>F0.same x y&&F0.sames r s
 | [],_::_=>false
 | _::_,[]=>false
end
theorem F0.sames_eq:∀ l m:List F0,F0.sames l m=eqL F0.same l m
 | [],[]=>rfl
 | x::r,y::s=>by simp only [F0.sames,eqL,F0.sames_eq r s]
 | [],_::_=>rfl
 | _::_,[]=>rfl
theorem F0.same_eq (t u:F0):t.same u=(t.Kind == u.Kind&&t.Low == u.Low&&t.High == u.High&&t.Size == u.Size&&t.Name == u.Name&&eqL (fun x y=>x == y) t.Names u.Names&&eqL F0.same t.Of u.Of):=by
 rw [← F0.sames_eq]
 cases t
 rfl
def R17 (t u:F0):Bool:=
 bif (bif (bif (bif (bif (bif t.Kind != u.Kind then true else t.Low != u.Low) then true else t.High != u.High) then true else t.Size != u.Size) then true else !(t.Name == u.Name)) then true else
  ((t.Names).length:Int) != ((u.Names).length:Int)) then true else ((t.Of).length:Int) != ((u.Of).length:Int)
theorem P1h {t u:F0}(h:R17 t u=true):t.same u=false:=by
 have hn:((t.Names).length:Int)≠((u.Names).length:Int)→eqL (fun x y=>x == y) t.Names u.Names=false:=fun h=>Tq _ fun e=>h (by omega)
 have ho:((t.Of).length:Int)≠((u.Of).length:Int)→eqL F0.same t.Of u.Of=false:=fun h=>Tq _ fun e=>h (by omega)
 unfold R17 at h
 rw [F0.same_eq]
 by_cases h1:((t.Names).length:Int)=((u.Names).length:Int)
 ·by_cases h2:((t.Of).length:Int)=((u.Of).length:Int)
  ·rw [h1,h2] at h
   revert h
   simp only [bne,beq_self_eq_true,Bool.not_true]
   cases t.Kind == u.Kind <;> cases t.Low == u.Low <;> cases t.High == u.High <;> cases t.Size == u.Size <;> cases t.Name == u.Name <;> simp
  ·rw [ho h2,Bool.and_false]
 ·rw [hn h1,Bool.and_false,Bool.false_and]
theorem D1k {t u:F0}(h:R17 t u=false):t.same u=(eqL (fun x y=>x == y) t.Names u.Names&&eqL F0.same t.Of u.Of)∧t.Names.length=u.Names.length∧t.Of.length=u.Of.length:=by
 unfold R17 at h
 simp only [bne] at h
 have key:t.Kind == u.Kind∧t.Low == u.Low∧t.High == u.High∧t.Size == u.Size∧t.Name == u.Name∧((t.Names).length:Int) == ((u.Names).length:Int)∧((t.Of).length:Int) == ((u.Of).length:Int):=by
  revert h
  cases t.Kind == u.Kind <;> cases t.Low == u.Low <;> cases t.High == u.High <;> cases t.Size == u.Size <;> cases t.Name == u.Name <;> cases ((t.Names).length:Int) == ((u.Names).length:Int) <;> cases ((t.Of).length:Int) == ((u.Of).length:Int) <;> simp
 obtain ⟨k1,k2,k3,k4,k5,k6,k7⟩:=key
 refine ⟨by rw [F0.same_eq,k1,k2,k3,k4,k5]; rfl,?_,?_⟩
 ·have:(t.Names.length:Int)=u.Names.length:=by simpa using k6
  omega
 ·have:(t.Of.length:Int)=u.Of.length:=by simpa using k7
  omega
end Go.Proofs.YtmnhfbekncjnfaaGreatDoor

set_option linter.unusedSimpArgs false
namespace Go.Proofs.YtmnhfbekncjnfaaGreatDoor
open Go.Am
mutual
def F0.bulk:F0→Nat
 | .mk _ _ _ _ n ns of=>1+(1+(1+(1+((n.length+1)+(((ns.map fun s=>s.length+1).sum+1)+((F0.bulks of+1)+0))))))+1
def F0.bulks:List F0→Nat
 | []=>0
 | x::r=>F0.bulk x+F0.bulks r
end
theorem F0.bulk_eq (t:F0):t.bulk=t.Name.length+(t.Names.map fun s=>s.length+1).sum+F0.bulks t.Of+8:=by cases t; simp only [F0.bulk]; omega
theorem F0.bulk_kid {t:F0}:∀ {l:List F0},t∈l→t.bulk≤F0.bulks l
 | x::r,h=>by
  simp only [F0.bulks]
  cases h with
  | head=>omega
  | tail _ h=>have:=F0.bulk_kid h; omega
theorem F0.bulk_len:∀ l:List F0,l.length≤F0.bulks l
 | []=>Nat.le_refl _
 | x::r=>by
  simp only [F0.bulks,List.length_cons]
  have:=F0.bulk_len r
  have:=F0.bulk_eq x
  omega
theorem A1c {s:Str}:∀ {l:List Str},s∈l→s.length+1≤(l.map fun s=>s.length+1).sum
 | x::r,h=>by
  simp only [List.map_cons,List.sum_cons]
  cases h with
  | head=>omega
  | tail _ h=>have:=A1c h; omega
theorem B1c:∀ l:List Str,l.length≤(l.map fun s=>s.length+1).sum
 | []=>Nat.le_refl _
 | x::r=>by simp only [List.map_cons,List.sum_cons,List.length_cons]; have:=B1c r; omega
mutual
theorem F0.nodes_bulk:∀ t:F0,t.nodes≤t.bulk
 | .mk _ _ _ _ _ _ of=>by simp only [F0.nodes,F0.bulk]; have:=F0.nodess_bulk of; omega
theorem F0.nodess_bulk:∀ l:List F0,F0.nodess l≤F0.bulks l
 | []=>Nat.le_refl _
 | x::r=>by simp only [F0.nodess,F0.bulks]; have:=F0.nodes_bulk x; have:=F0.nodess_bulk r; omega
end
def Ok (t:F0):Prop:=t.bulk≤BB
theorem Ok.kid {t x:F0}(h:Ok t)(hx:x∈t.Of):Ok x:=by
 unfold Ok at *
 have:=F0.bulk_kid hx
 have:=F0.bulk_eq t
 omega
theorem Ok.ofs {t:F0}(h:Ok t):t.Of.length≤BB:=by
 unfold Ok at *
 have:=F0.bulk_len t.Of
 have:=F0.bulk_eq t
 omega
theorem Ok.names {t:F0}(h:Ok t):t.Names.length≤BB:=by
 unfold Ok at *
 have:=B1c t.Names
 have:=F0.bulk_eq t
 omega
theorem Ok.name1 {t:F0}(h:Ok t){s:Str}(hs:s∈t.Names):s.length≤BB:=by
 unfold Ok at *
 have:=A1c hs
 have:=F0.bulk_eq t
 omega
theorem Ok.name {t:F0}(h:Ok t):t.Name.length≤BB:=by
 unfold Ok at *
 have:=F0.bulk_eq t
 omega
theorem Ok.nodes {t:F0}(h:Ok t):t.nodes≤BB:=Nat.le_trans (F0.nodes_bulk t) h
theorem bor (a b:Bool):(bif a then true else b)=(a||b):=by cases a <;> rfl
theorem N14 (d:Int)(o:J0):A6 d o=some ⟨o.nodes,max o.depth d,o.badForm,o.badName,o.badNumber⟩:=rfl
theorem O14 (b:Bool)(o:J0):W0 b o=some ⟨o.nodes,o.depth,o.badForm || !b,o.badName,o.badNumber⟩:=by unfold W0; rw [bor]
theorem Vt (b:Bool)(o:J0):E2 b o=some ⟨o.nodes,o.depth,o.badForm,o.badName,o.badNumber || !b⟩:=by unfold E2; rw [bor]
theorem Ek (a b c:Int):V3 a b c=some (R3 a b c):=rfl
theorem Mz (s:Str)(hs:s.length≤BB)(o:J0):A4 s o=some ⟨o.nodes,o.depth,o.badForm,o.badName || !L9 s,o.badNumber⟩:=by
 unfold A4
 rw [O1h s hs]
 cases h:o.badName <;> simp
theorem E1k (o:J0):C6 o=some (Ao o.nodes o.depth o.badForm o.badName o.badNumber):=by
 unfold C6 Ao
 cases (bif decide (o.nodes > 1024) then true else decide (o.depth > 12)) <;> cases o.badForm <;> cases o.badName <;> cases o.badNumber <;> rfl
def Pg (o:J0)(d:Int)(n m:Nat)(f a u:Bool):J0:=⟨o.nodes+n,max o.depth (d+m),o.badForm || !f,o.badName || !a,o.badNumber || !u⟩
theorem Q1h (t:F0)(d:Int)(hd:0≤d)(ht:Ok t)
  (ih:∀ x∈t.Of,∀ (d:Int) (o:J0),0≤d→d+x.nodes≤4 * BB→0≤o.nodes→o.nodes+x.nodes≤4 * BB→Q6 x d o=some (Pg o d x.nodes (x.depth - 1) (x.all Tb) (x.all El) (x.all Rq))) :
  ∀ (r:List F0) (k:Nat) (o:J0),t.Of.drop k=r→(∀ x∈r,x∈t.Of)→d+1+F0.nodess r≤4 * BB→0≤o.nodes→o.nodes+F0.nodess r≤4 * BB→d≤o.depth→
   G7 t d o k=some (Pg o d (F0.nodess r) (F0.depths r) (F0.alls Tb r) (F0.alls El r) (F0.alls Rq r))
 | [],k,o,h,_,_,_,_,h5=>by
  rw [G7,(L2 h).1]
  simp only [Pg,F0.nodess,F0.depths,F0.alls,Bool.not_true,Bool.or_false]
  rw [if_neg (by simp),show o.nodes+((0:Nat):Int)=o.nodes by omega,show max o.depth (d+((0:Nat):Int))=o.depth by omega]
 | x::r,k,o,h,hm,hb,h3,h4,h5=>by
  obtain ⟨e1,e2,e3,e4,e5⟩:=J3 h
  simp only [F0.nodess] at hb h4
  have hdp:1≤x.depth:=by rw [F0.depth_eq]; omega
  have hof:=ht.ofs
  unfold BB at hb h4 hof
  rw [G7,e1,if_pos rfl,e2,ob,wr (n:=d+1) (by omega) (by omega),ih x e5 (d+1) o (by omega) (by unfold BB; omega) h3 (by unfold BB; omega),ob,w1 (by unfold BB; omega),
   Q1h t d hd ht ih r (k+1) _ e3 (fun y hy=>hm y (List.mem_cons_of_mem _ hy)) (by unfold BB; omega) (by simp only [Pg]; omega) (by simp only [Pg]; unfold BB; omega) (by simp only [Pg]; omega)]
  simp only [Pg,F0.nodess,F0.depths,F0.alls,Js]
  rw [show o.nodes+(x.nodes:Int)+(F0.nodess r:Nat)=o.nodes+((x.nodes+F0.nodess r:Nat):Int) by omega,
   show max (max o.depth (d+1+((x.depth - 1:Nat):Int))) (d+(F0.depths r:Nat))=max o.depth (d+((max x.depth (F0.depths r):Nat):Int)) by omega]
theorem R1h (t:F0)(d:Int)(ht:Ok t)(R:J0→Option J0)(hR:∀ o,G7 t d o 0=R o) :
  ∀ (r:List Str) (k:Nat) (o:J0),t.Names.drop k=r→D6 t d o k=R ⟨o.nodes,o.depth,o.badForm,o.badName || !r.all L9,o.badNumber⟩
 | [],k,o,h=>by
  rw [D6,(L2 h).1,if_neg (by simp),hR]
  simp
 | x::r,k,o,h=>by
  obtain ⟨e1,e2,e3,e4,e5⟩:=J3 h
  have:=ht.names
  rw [D6,e1,if_pos rfl,e2,ob,Mz x (ht.name1 e5),ob,w1 (by omega),R1h t d ht R hR r (k+1) _ e3]
  simp only [List.all_cons,Js]
theorem I1n (t:F0)(d:Int)(ht:Ok t)(o:J0):H9 t d o=D6 t d ⟨o.nodes,o.depth,o.badForm,o.badName || !na1 t,o.badNumber⟩ 0:=by
 rw [H9,Mz _ ht.name,ob,Mb,Mb]
 unfold na1
 cases h:t.Kind == 4 <;> simp
theorem J1n (t:F0)(d:Int)(o:J0):G9 t d o=H9 t d ⟨o.nodes,o.depth,o.badForm,o.badName,o.badNumber || !nm2 t⟩:=by
 rw [G9]
 unfold nm2
 simp only [Ek,Vt,ob]
 cases h:t.Kind == 1 <;> cases R3 t.Low (-1048576) 1048576 <;> simp [ob]
theorem K1n (t:F0):Ok t→∀ (d:Int) (o:J0),0≤d→d+t.nodes≤4 * BB→0≤o.nodes→o.nodes+t.nodes≤4 * BB→
  Q6 t d o=some (Pg o d t.nodes (t.depth - 1) (t.all Tb) (t.all El) (t.all Rq)):=by
 induction t using F0.ind with
 | h t ih=>
 intro ht d o hd hb h3 h4
 have h5:=fun o h3 h4 hd'=>Q1h t d hd ht (fun x hx=>ih x hx (ht.kid hx)) t.Of 0 o rfl (fun _ h=>h) (by rw [F0.nodes_eq] at hb; omega) h3 h4 hd'
 have l4:=R1h t d ht _ (fun o=>rfl) t.Names 0
 rw [F0.nodes_eq] at hb h4
 unfold BB at hb h4
 rw [Q6]
 simp only [N14,O14,Ek,Vt,ob,J1n,I1n t d ht]
 rw [wr (n:=o.nodes+1) (by omega) (by omega)]
 have fin:∀ b6 u1,fm6 t=b6→nm1 t=u1→
   D6 t d ⟨o.nodes+1,max o.depth d,(((((o.badForm || !fm1 t) || !fm2 t) || !fm3 t) || !fm4 t) || !fm5 t) || !b6,o.badName || !na1 t,(o.badNumber || !u1) || !nm2 t⟩ 0
    = some (Pg o d t.nodes (t.depth - 1) (t.all Tb) (t.all El) (t.all Rq)):=by
  rintro _ _ rfl rfl
  have:=l4 ⟨o.nodes+1,max o.depth d,(((((o.badForm || !fm1 t) || !fm2 t) || !fm3 t) || !fm4 t) || !fm5 t) || !fm6 t,o.badName || !na1 t,(o.badNumber || !nm1 t) || !nm2 t⟩ rfl
  rw [show ((0:Nat):Int)=0 from rfl] at this h5
  rw [this,h5 _ (by simp only; omega) (by simp only; unfold BB; omega) (by simp only; omega)]
  simp only [Pg,F0.all_eq,F0.nodes_eq,F0.depth_eq,Tb,El,Rq,Js,Bool.or_assoc,← Bool.not_and]
  simp only [Js,Bool.and_assoc]
  rw [show o.nodes+1+(F0.nodess t.Of:Int)=o.nodes+((F0.nodess t.Of+1:Nat):Int) by omega,show max (max o.depth d) (d+(F0.depths t.Of:Int))=max o.depth (d+((F0.depths t.Of+1 - 1:Nat):Int)) by omega]
 have h2:(t.Kind == 2)=true∨(t.Kind == 2)=false:=by cases t.Kind == 2 <;> simp
 have h3:(t.Kind == 3)=true∨(t.Kind == 3)=false:=by cases t.Kind == 3 <;> simp
 rcases h2 with h2 | h2
 ·rw [if_pos h2]
  exact fin ((t.Of.length:Int) == 1) (R3 t.Size 1 32) (by unfold fm6; rw [h2,cond_true]) (by unfold nm1; rw [h2,cond_true])
 ·rw [if_neg (by rw [h2]; simp)]
  rcases h3 with h3 | h3
  ·rw [if_pos h3]
   exact fin (bif decide ((t.Of.length:Int)≥1) then (t.Of.length:Int) == (t.Names.length:Int) else false) (decide ((t.Of.length:Int)≤32)) (by unfold fm6; rw [h2,h3,cond_false,cond_true]) (by unfold nm1; rw [h2,h3,cond_false,cond_true])
  ·rw [if_neg (by rw [h3]; simp)]
   have:=fin ((t.Of.length:Int) == 0) true (by unfold fm6; rw [h2,h3,cond_false,cond_false]) (by unfold nm1; rw [h2,h3,cond_false,cond_false])
   rw [Bool.not_true,Bool.or_false] at this
   exact this
end Go.Proofs.YtmnhfbekncjnfaaGreatDoor

set_option linter.unusedSimpArgs false
namespace Go.Proofs.YtmnhfbekncjnfaaGreatDoor
open Go.Am
theorem C1c (t:F0)(ht:Ok t)(ih:∀ x∈t.Of,Ah x=some (x.nodes:Int)) :
  ∀ (r:List F0) (k:Nat) (n:Nat),t.Of.drop k=r→n+F0.nodess r≤BB→Jd t (n:Int) k=some ((n+F0.nodess r:Nat):Int)
 | [],k,n,h,hb=>by rw [Jd,(L2 h).1,if_neg (by simp)]; simp [F0.nodess]
 | x::r,k,n,h,hb=>by
  obtain ⟨e1,e2,e3,e4,e5⟩:=J3 h
  have:=ht.ofs
  simp only [F0.nodess] at hb
  have hb':=hb
  unfold BB at hb'
  rw [Jd,e1,if_pos rfl,e2,ob,ih x e5,ob,wr (n:=(n:Int)+_) (by omega) (by omega),w1 (by omega),show (n:Int)+(x.nodes:Int)=((n+x.nodes:Nat):Int) by omega,C1c t ht ih r (k+1) _ e3 (by omega)]
  simp only [F0.nodess,Nat.add_assoc]
theorem S1h (t:F0):Ok t→Ah t=some (t.nodes:Int):=by
 induction t using F0.ind with
 | h t ih=>
 intro ht
 have hn:=ht.nodes
 rw [F0.nodes_eq] at hn
 rw [Ah]
 have:=C1c t ht (fun x hx=>ih x hx (ht.kid hx)) t.Of 0 1 rfl (by omega)
 rw [F0.nodes_eq,Nat.add_comm]
 exact this
theorem P14 (t:F0)(ht:Ok t)(ih:∀ x∈t.Of,Bh x=some (x.depth:Int))(B:Nat)(hB:B≤BB) :
  ∀ (r:List F0) (k:Nat) (n:Nat),t.Of.drop k=r→n≤B→F0.depths r≤B→Va t (n:Int) k=some ((max n (F0.depths r)+1:Nat):Int)
 | [],k,n,h,hb,_=>by
  rw [Va,(L2 h).1,if_neg (by simp),w1 (by omega)]
  simp [F0.depths]
 | x::r,k,n,h,hb,hd=>by
  obtain ⟨e1,e2,e3,e4,e5⟩:=J3 h
  have:=ht.ofs
  simp only [F0.depths] at hd
  rw [Va,e1,if_pos rfl,e2,ob,ih x e5,ob,w1 (by omega),P14 t ht ih B hB r (k+1) _ e3 (by omega) (by omega),P14 t ht ih B hB r (k+1) _ e3 (by omega) (by omega)]
  simp only [F0.depths]
  by_cases hx:(x.depth:Int) > (n:Int)
  ·rw [if_pos (decide_eq_true hx),show max n (max x.depth (F0.depths r))=max x.depth (F0.depths r) by omega]
  ·rw [if_neg (by simpa using hx),show max n (max x.depth (F0.depths r))=max n (F0.depths r) by omega]
theorem T1h (t:F0):Ok t→Bh t=some (t.depth:Int):=by
 induction t using F0.ind with
 | h t ih=>
 intro ht
 have hn:=ht.nodes
 have hd:=F0.depth_nodes t
 rw [Bh]
 rw [F0.depth_eq] at hd
 have:=P14 t ht (fun x hx=>ih x hx (ht.kid hx)) BB (Nat.le_refl _) t.Of 0 0 rfl (by omega) (by omega)
 rw [F0.depth_eq]
 rw [show max 0 (F0.depths t.Of)=F0.depths t.Of by omega] at this
 exact this
theorem A1e (t:F0)(ht:Ok t)(ih:∀ x∈t.Of,Ni x=some (x.all Tb)):∀ (r:List F0) (k:Nat),t.Of.drop k=r→De t k=some (F0.alls Tb r)
 | [],k,h=>by rw [De,(L2 h).1,if_neg (by simp)]; rfl
 | x::r,k,h=>by
  obtain ⟨e1,e2,e3,e4,e5⟩:=J3 h
  have:=ht.ofs
  rw [De,e1,if_pos rfl,e2,ob,ih x e5,ob,w1 (by omega),A1e t ht ih r (k+1) e3,F0.alls]
  cases x.all Tb <;> simp
theorem F1k (t:F0):Ok t→Ni t=some (t.all Tb):=by
 induction t using F0.ind with
 | h t ih=>
 intro ht
 have h1:=A1e t ht (fun x hx=>ih x hx (ht.kid hx)) t.Of 0 rfl
 rw [show ((0:Nat):Int)=0 from rfl] at h1
 rw [Ni,h1,F0.all_eq,C1k]
 show (if W1b t=true then some false else if X1b t=true then some false else if Y1b t=true then some false else some (F0.alls Tb t.Of))=_
 cases W1b t <;> cases X1b t <;> cases Y1b t <;> simp
theorem T18 (t:F0)(ht:Ok t)(ih:∀ x∈t.Of,Ch x=some (x.all El)):∀ (r:List F0) (k:Nat),t.Of.drop k=r→Wa t k=some (F0.alls El r)
 | [],k,h=>by rw [Wa,(L2 h).1,if_neg (by simp)]; rfl
 | x::r,k,h=>by
  obtain ⟨e1,e2,e3,e4,e5⟩:=J3 h
  have:=ht.ofs
  rw [Wa,e1,if_pos rfl,e2,ob,ih x e5,ob,w1 (by omega),T18 t ht ih r (k+1) e3,F0.alls]
  cases x.all El <;> simp
theorem U18 (t:F0)(ht:Ok t)(b:Bool)(hb:Wa t 0=some b):∀ (r:List Str) (k:Nat),t.Names.drop k=r→Kd t k=some (r.all L9&&b)
 | [],k,h=>by rw [Kd,(L2 h).1,if_neg (by simp),hb]; rfl
 | x::r,k,h=>by
  obtain ⟨e1,e2,e3,e4,e5⟩:=J3 h
  have:=ht.names
  rw [Kd,e1,if_pos rfl,e2,ob,Wl x (ht.name1 e5),ob,w1 (by omega),U18 t ht b hb r (k+1) e3,List.all_cons]
  cases L9 x <;> simp
theorem U1h (t:F0):Ok t→Ch t=some (t.all El):=by
 induction t using F0.ind with
 | h t ih=>
 intro ht
 have h2:=T18 t ht (fun x hx=>ih x hx (ht.kid hx)) t.Of 0 rfl
 have h1:=U18 t ht _ h2 t.Names 0 rfl
 rw [show ((0:Nat):Int)=0 from rfl] at h1
 rw [Ch,h1,F0.all_eq,Wl t.Name ht.name]
 unfold El na1
 cases t.Kind == 4 <;> cases L9 t.Name <;> simp
theorem P16 (t:F0)(ht:Ok t)(ih:∀ x∈t.Of,Ee x=some (x.all fun t=>!Sq t)):∀ (r:List F0) (k:Nat),t.Of.drop k=r→Nb t k=some (F0.alls (fun t=>!Sq t) r)
 | [],k,h=>by rw [Nb,(L2 h).1,if_neg (by simp)]; rfl
 | x::r,k,h=>by
  obtain ⟨e1,e2,e3,e4,e5⟩:=J3 h
  have:=ht.ofs
  rw [Nb,e1,if_pos rfl,e2,ob,ih x e5,ob,w1 (by omega),P16 t ht ih r (k+1) e3,F0.alls]
  cases x.all (fun t=>!Sq t) <;> simp
theorem Bw (n:Int):Oi n=some (Jh n):=rfl
theorem H1d (t:F0):Ok t→Ee t=some (t.all fun t=>!Sq t):=by
 induction t using F0.ind with
 | h t ih=>
 intro ht
 have h1:=P16 t ht (fun x hx=>ih x hx (ht.kid hx)) t.Of 0 rfl
 rw [show ((0:Nat):Int)=0 from rfl] at h1
 rw [Ee,h1,F0.all_eq]
 simp only [Bw]
 generalize F0.alls (fun t=>!Sq t) t.Of=A
 unfold Sq
 generalize decide ((t.Of.length:Int) > 32)=b1
 generalize (bif t.Kind == 2 then (bif decide (t.Size < 1) then true else decide (t.Size > 32)) else false)=b2
 generalize decide (t.Low > t.High)=b3
 cases t.Kind == 1 <;> cases Jh t.Low <;> cases Jh t.High <;> cases b1 <;> cases b2 <;> cases b3 <;> rfl
theorem I1d (s:T0)(f m u:Bool):Ws s f m u=some (Ao s.nodes s.depth (!f) (!m) (!u)):=by
 unfold Ws Ao
 cases (bif decide (s.nodes > 1024) then true else decide (s.depth > 12)) <;> cases f <;> cases m <;> cases u <;> rfl
end Go.Proofs.YtmnhfbekncjnfaaGreatDoor

set_option linter.unusedSimpArgs false
set_option linter.unusedVariables false
namespace Go.Proofs.YtmnhfbekncjnfaaGreatDoor
open Go.Am
theorem A0.ind {P:A0→Prop}(h:∀ t:A0,(∀ x∈t.Kids,P x)→P t):∀ t,P t:=by
 intro t
 refine A0.rec (motive_1:=P) (motive_2:=fun l=>∀ x∈l,P x) ?_ ?_ ?_ t
 ·intro k l n of ih
  exact h _ ih
 ·intro x hx; cases hx
 ·intro x r hx hr y hy
  cases hy with
  | head=>exact hx
  | tail _ hy=>exact hr y hy
mutual
def A0.depth:A0→Nat
 | .mk _ _ _ of=>A0.depths of+1
def A0.depths:List A0→Nat
 | []=>0
 | t::r=>max (A0.depth t) (A0.depths r)
end
theorem A0.depth_eq (t:A0):t.depth=A0.depths t.Kids+1:=by cases t; simp [A0.depth,A0.Kids]
mutual
def A0.all (p:A0→Bool):A0→Bool
 | .mk k l n of=>p (.mk k l n of)&&A0.alls p of
def A0.alls (p:A0→Bool):List A0→Bool
 | []=>true
 | t::r=>A0.all p t&&A0.alls p r
end
theorem A0.all_eq (p:A0→Bool)(t:A0):t.all p=(p t&&A0.alls p t.Kids):=by cases t; rfl
mutual
def A0.nodes:A0→Nat
 | .mk _ _ _ of=>A0.nodess of+1
def A0.nodess:List A0→Nat
 | []=>0
 | t::r=>A0.nodes t+A0.nodess r
end
theorem A0.nodes_eq (t:A0):t.nodes=A0.nodess t.Kids+1:=by cases t; rfl
mutual
theorem A0.depth_nodes:∀ t:A0,t.depth≤t.nodes
 | .mk _ _ _ of=>by simp only [A0.depth,A0.nodes]; have:=A0.depths_nodess of; omega
theorem A0.depths_nodess:∀ l:List A0,A0.depths l≤A0.nodess l
 | []=>Nat.le_refl _
 | t::r=>by simp only [A0.depths,A0.nodess]; have:=A0.depth_nodes t; have:=A0.depths_nodess r; omega
end
mutual
def A0.bulk:A0→Nat
 | .mk _ _ n ks=>1+(1+((n.length+1)+((A0.bulks ks+1)+0)))+1
def A0.bulks:List A0→Nat
 | []=>0
 | x::r=>A0.bulk x+A0.bulks r
end
theorem A0.bulk_eq (t:A0):t.bulk=t.Name.length+A0.bulks t.Kids+5:=by cases t; simp only [A0.bulk]; omega
theorem A0.bulk_kid {t:A0}:∀ {l:List A0},t∈l→t.bulk≤A0.bulks l
 | x::r,h=>by
  simp only [A0.bulks]
  cases h with
  | head=>omega
  | tail _ h=>have:=A0.bulk_kid h; omega
theorem A0.bulk_len:∀ l:List A0,l.length≤A0.bulks l
 | []=>Nat.le_refl _
 | x::r=>by
  simp only [A0.bulks,List.length_cons]
  have:=A0.bulk_len r
  have:=A0.bulk_eq x
  omega
mutual
theorem A0.nodes_bulk:∀ t:A0,t.nodes≤t.bulk
 | .mk _ _ _ of=>by simp only [A0.nodes,A0.bulk]; have:=A0.nodess_bulk of; omega
theorem A0.nodess_bulk:∀ l:List A0,A0.nodess l≤A0.bulks l
 | []=>Nat.le_refl _
 | x::r=>by simp only [A0.nodess,A0.bulks]; have:=A0.nodes_bulk x; have:=A0.nodess_bulk r; omega
end
def OkE (t:A0):Prop:=t.bulk≤BB
theorem OkE.kid {t x:A0}(h:OkE t)(hx:x∈t.Kids):OkE x:=by
 unfold OkE at *
 have:=A0.bulk_kid hx
 have:=A0.bulk_eq t
 omega
theorem OkE.kids {t:A0}(h:OkE t):t.Kids.length≤BB:=by
 unfold OkE at *
 have:=A0.bulk_len t.Kids
 have:=A0.bulk_eq t
 omega
theorem OkE.name {t:A0}(h:OkE t):t.Name.length≤BB:=by
 unfold OkE at *
 have:=A0.bulk_eq t
 omega
theorem OkE.nodes {t:A0}(h:OkE t):t.nodes≤BB:=Nat.le_trans (A0.nodes_bulk t) h
def ar (o:Int):Int:=
 bif (bif (bif (bif (o == 0) then true else (o == 1)) then true else (o == 2)) then true else (o == 3)) then 0
 else bif (bif (bif (o == 4) then true else (o == 6)) then true else (o == 7)) then 1
 else bif (bif (o == 5) then true else (bif (decide (o≥8)) then (decide (o≤22)) else false)) then 2
 else bif (o == 23) then 3 else -1
theorem D1m (o:Int):Fz o=some (ar o):=by
 unfold Fz ar
 cases (bif (bif (bif (o == 0) then true else (o == 1)) then true else (o == 2)) then true else (o == 3)) <;> cases (bif (bif (o == 4) then true else (o == 6)) then true else (o == 7)) <;>
  cases (bif (o == 5) then true else (bif (decide (o≥8)) then (decide (o≤22)) else false)) <;> cases o == 23 <;> rfl
theorem G1k (o:Int):Rf o=some (ar o):=by
 by_cases h:o=23
 ·subst h; rfl
 have h':(o == 23)=false:=beq_eq_false_iff_ne.2 h
 simp only [Rf,X7,M9,ar,h']
 cases o == 0 <;> cases o == 1 <;> cases o == 2 <;> cases o == 3 <;> first | rfl | skip
 cases o == 4 <;> cases o == 6 <;> cases o == 7 <;> first | rfl | skip
 cases o == 5 <;> cases (bif decide (o≥8) then decide (o≤22) else false) <;> rfl
mutual
def A0.place:A0→Bool
 | .mk op _ _ ks=>bif op == 3 then true else bif (bif op == 4 then true else op == 5) then A0.place1 ks else false
def A0.place1:List A0→Bool
 | []=>false
 | x::_=>A0.place x
end
theorem A0.place_eq (e:A0):e.place=(bif e.Op == 3 then true else bif (bif e.Op == 4 then true else e.Op == 5) then A0.place1 e.Kids else false):=by cases e; simp only [A0.place]
theorem b3 {o:Int}(h:(bif o == 4 then true else o == 5)=true):(o == 3)=false:=by
 apply beq_eq_false_iff_ne.2
 rintro rfl
 cases h
theorem V18 (e:A0):Ed e=some e.place:=by
 unfold Ed
 induction e using A0.ind with
 | h e ih=>
 rw [Y7,A0.place_eq]
 cases hb:(bif e.Op == 4 then true else e.Op == 5) with
 | false=>cases e.Op == 3 <;> simp
 | true=>
  rw [b3 hb]
  cases hk:e.Kids with
  | nil=>rfl
  | cons k r=>
   have:=ih k (by rw [hk]; simp)
   have h0:idx (k::r) 0=some k:=rfl
   have h1:(((k::r).length:Int) == 0)=false:=beq_eq_false_iff_ne.2 (by simp only [List.length_cons]; omega)
   simp only [h1,h0,ob,this,cond_true,cond_false,A0.place1]
   simp
theorem W18 (e:A0):Hk e=some e.place:=by
 induction e using A0.ind with
 | h e ih=>
 rw [Hk,A0.place_eq]
 cases h3:e.Op == 3 with
 | true=>simp
 | false=>
  cases hb:(bif e.Op == 4 then true else e.Op == 5) with
  | false=>simp [ob]
  | true=>
   cases hk:e.Kids with
   | nil=>simp [ob,A0.place1]
   | cons k r=>
    have:=ih k (by rw [hk]; simp)
    have h0:idx (k::r) 0=some k:=rfl
    have h1:decide (((k::r).length:Int) > 0)=true:=decide_eq_true (by simp only [List.length_cons]; omega)
    simp only [h1,h0,ob,cond_true,cond_false,A0.place1]
    simp [ob,this]
def ef1 (e:A0):Bool:=ar e.Op == (e.Kids.length:Int)
def ef2 (e:A0):Bool:=bif e.NV == 0 then true else e.Op == 0
def ef3 (e:A0):Bool:=bif e.Name == [] then true else bif e.Op == 3 then true else e.Op == 4
def ef4 (e:A0):Bool:=bif (bif e.Op == 4 then true else e.Op == 5) then e.place else true
def I6 (e:A0):Bool:=ef1 e&&ef2 e&&ef3 e&&ef4 e
def A7 (e:A0):Bool:=bif (bif e.Op == 3 then true else e.Op == 4) then L9 e.Name else true
def T6 (e:A0):Bool:=bif e.Op == 0 then R3 e.NV 0 1048576 else true
theorem B1e (e:A0)(d:Int)(hd:0≤d)(ht:OkE e)
  (ih:∀ x∈e.Kids,∀ (d:Int) (o:J0),0≤d→d+x.nodes≤4 * BB→0≤o.nodes→o.nodes+x.nodes≤4 * BB→Z2 x d o=some (Pg o d x.nodes (x.depth - 1) (x.all I6) (x.all A7) (x.all T6))) :
  ∀ (r:List A0) (k:Nat) (o:J0),e.Kids.drop k=r→d+1+A0.nodess r≤4 * BB→0≤o.nodes→o.nodes+A0.nodess r≤4 * BB→d≤o.depth→
   D4 e d o k=some (Pg o d (A0.nodess r) (A0.depths r) (A0.alls I6 r) (A0.alls A7 r) (A0.alls T6 r))
 | [],k,o,h,_,_,_,h5=>by
  rw [D4,(L2 h).1]
  simp only [Pg,A0.nodess,A0.depths,A0.alls,Bool.not_true,Bool.or_false]
  rw [if_neg (by simp),show o.nodes+((0:Nat):Int)=o.nodes by omega,show max o.depth (d+((0:Nat):Int))=o.depth by omega]
 | x::r,k,o,h,hb,h3,h4,h5=>by
  obtain ⟨e1,e2,e3,e4,e5⟩:=J3 h
  simp only [A0.nodess] at hb h4
  have hdp:1≤x.depth:=by rw [A0.depth_eq]; omega
  have hof:=ht.kids
  unfold BB at hb h4 hof
  rw [D4,e1,if_pos rfl,e2,ob,wr (n:=d+1) (by omega) (by omega),ih x e5 (d+1) o (by omega) (by unfold BB; omega) h3 (by unfold BB; omega),ob,w1 (by unfold BB; omega),
   B1e e d hd ht ih r (k+1) _ e3 (by unfold BB; omega) (by simp only [Pg]; omega) (by simp only [Pg]; unfold BB; omega) (by simp only [Pg]; omega)]
  simp only [Pg,A0.nodess,A0.depths,A0.alls,Js]
  rw [show o.nodes+(x.nodes:Int)+(A0.nodess r:Nat)=o.nodes+((x.nodes+A0.nodess r:Nat):Int) by omega,
   show max (max o.depth (d+1+((x.depth - 1:Nat):Int))) (d+(A0.depths r:Nat))=max o.depth (d+((max x.depth (A0.depths r):Nat):Int)) by omega]
theorem H1k (e:A0)(ht:OkE e)(d:Int)(o:J0):W6 e d o=D4 e d ⟨o.nodes,o.depth,o.badForm,o.badName || !A7 e,o.badNumber || !T6 e⟩ 0:=by
 rw [W6,Mz _ ht.name,ob]
 simp only [E8,F8,Ek,Vt,ob]
 unfold A7 T6
 cases (bif e.Op == 3 then true else e.Op == 4) <;> cases e.Op == 0 <;> simp
theorem I1k (e:A0):OkE e→∀ (d:Int) (o:J0),0≤d→d+e.nodes≤4 * BB→0≤o.nodes→o.nodes+e.nodes≤4 * BB→
  Z2 e d o=some (Pg o d e.nodes (e.depth - 1) (e.all I6) (e.all A7) (e.all T6)):=by
 induction e using A0.ind with
 | h e ih=>
 intro ht d o hd hb h3 h4
 have h5:=fun o h3 h4 hd'=>B1e e d hd ht (fun x hx=>ih x hx (ht.kid hx)) e.Kids 0 o rfl (by rw [A0.nodes_eq] at hb; omega) h3 h4 hd'
 rw [A0.nodes_eq] at hb h4
 unfold BB at hb h4
 rw [Z2]
 simp only [N14,O14,G1k,V18,ob,H1k e ht]
 rw [wr (n:=o.nodes+1) (by omega) (by omega)]
 rw [show ((0:Nat):Int)=0 from rfl] at h5
 have fin:∀ f:Bool,ef4 e=f→D4 e d ⟨o.nodes+1,max o.depth d,(((o.badForm || !ef1 e) || !ef2 e) || !ef3 e) || !f,o.badName || !A7 e,o.badNumber || !T6 e⟩ 0=some (Pg o d e.nodes (e.depth - 1) (e.all I6) (e.all A7) (e.all T6)):=by
  rintro _ rfl
  rw [h5 _ (by simp only; omega) (by simp only; unfold BB; omega) (by simp only; omega)]
  simp only [Pg,A0.all_eq,A0.nodes_eq,A0.depth_eq,I6,Js,Bool.or_assoc,← Bool.not_and]
  simp only [Js,Bool.and_assoc]
  rw [show o.nodes+1+(A0.nodess e.Kids:Int)=o.nodes+((A0.nodess e.Kids+1:Nat):Int) by omega,show max (max o.depth d) (d+(A0.depths e.Kids:Int))=max o.depth (d+((A0.depths e.Kids+1 - 1:Nat):Int)) by omega]
 cases hb:(bif e.Op == 4 then true else e.Op == 5) with
 | true=>
  rw [if_pos rfl]
  exact fin e.place (by unfold ef4; rw [hb]; rfl)
 | false=>
  rw [if_neg (by simp)]
  have:=fin true (by unfold ef4; rw [hb]; rfl)
  rw [Bool.not_true,Bool.or_false] at this
  exact this
end Go.Proofs.YtmnhfbekncjnfaaGreatDoor

set_option linter.unusedSimpArgs false
set_option linter.unusedVariables false
namespace Go.Proofs.YtmnhfbekncjnfaaGreatDoor
open Go.Am
theorem X18 (t:A0)(ht:OkE t)(ih:∀ x∈t.Kids,Xg x=some (x.nodes:Int)) :
  ∀ (r:List A0) (k:Nat) (n:Nat),t.Kids.drop k=r→n+A0.nodess r≤BB→Gd t (n:Int) k=some ((n+A0.nodess r:Nat):Int)
 | [],k,n,h,hb=>by rw [Gd,(L2 h).1,if_neg (by simp)]; simp [A0.nodess]
 | x::r,k,n,h,hb=>by
  obtain ⟨e1,e2,e3,e4,e5⟩:=J3 h
  have:=ht.kids
  simp only [A0.nodess] at hb
  have hb':=hb
  unfold BB at hb'
  rw [Gd,e1,if_pos rfl,e2,ob,ih x e5,ob,wr (n:=(n:Int)+_) (by omega) (by omega),w1 (by omega),show (n:Int)+(x.nodes:Int)=((n+x.nodes:Nat):Int) by omega,X18 t ht ih r (k+1) _ e3 (by omega)]
  simp only [A0.nodess,Nat.add_assoc]
theorem P1f (t:A0):OkE t→Xg t=some (t.nodes:Int):=by
 induction t using A0.ind with
 | h t ih=>
 intro ht
 have hn:=ht.nodes
 rw [A0.nodes_eq] at hn
 rw [Xg]
 have:=X18 t ht (fun x hx=>ih x hx (ht.kid hx)) t.Kids 0 1 rfl (by omega)
 rw [A0.nodes_eq,Nat.add_comm]
 exact this
theorem H12 (t:A0)(ht:OkE t)(ih:∀ x∈t.Kids,Yg x=some (x.depth:Int))(B:Nat)(hB:B≤BB) :
  ∀ (r:List A0) (k:Nat) (n:Nat),t.Kids.drop k=r→n≤B→A0.depths r≤B→Sa t (n:Int) k=some ((max n (A0.depths r)+1:Nat):Int)
 | [],k,n,h,hb,_=>by
  rw [Sa,(L2 h).1,if_neg (by simp),w1 (by omega)]
  simp [A0.depths]
 | x::r,k,n,h,hb,hd=>by
  obtain ⟨e1,e2,e3,e4,e5⟩:=J3 h
  have:=ht.kids
  simp only [A0.depths] at hd
  rw [Sa,e1,if_pos rfl,e2,ob,ih x e5,ob,w1 (by omega),H12 t ht ih B hB r (k+1) _ e3 (by omega) (by omega),H12 t ht ih B hB r (k+1) _ e3 (by omega) (by omega)]
  simp only [A0.depths]
  by_cases hx:(x.depth:Int) > (n:Int)
  ·rw [if_pos (decide_eq_true hx),show max n (max x.depth (A0.depths r))=max x.depth (A0.depths r) by omega]
  ·rw [if_neg (by simpa using hx),show max n (max x.depth (A0.depths r))=max n (A0.depths r) by omega]
theorem Q1f (t:A0):OkE t→Yg t=some (t.depth:Int):=by
 induction t using A0.ind with
 | h t ih=>
 intro ht
 have hn:=ht.nodes
 have hd:=A0.depth_nodes t
 rw [Yg]
 rw [A0.depth_eq] at hd
 have:=H12 t ht (fun x hx=>ih x hx (ht.kid hx)) BB (Nat.le_refl _) t.Kids 0 0 rfl (by omega) (by omega)
 rw [A0.depth_eq]
 rw [show max 0 (A0.depths t.Kids)=A0.depths t.Kids by omega] at this
 exact this
theorem Ks (n:Int)(d:Int)(m:Int):Wb ⟨n,d⟩ m=some ⟨n,max d m⟩:=by
 unfold Wb
 by_cases h:m > d
 ·rw [if_pos (decide_eq_true h),show max d m=m by omega]
 ·rw [if_neg (by simpa using h),show max d m=d by omega]
theorem D1c (e:A0)(ht:OkE e)(ih:∀ x∈e.Kids,D9 x=some (x.all I6)):∀ (r:List A0) (k:Nat),e.Kids.drop k=r→Ce e k=some (A0.alls I6 r)
 | [],k,h=>by rw [Ce,(L2 h).1,if_neg (by simp)]; rfl
 | x::r,k,h=>by
  obtain ⟨e1,e2,e3,e4,e5⟩:=J3 h
  have:=ht.kids
  rw [Ce,e1,if_pos rfl,e2,ob,ih x e5,ob,w1 (by omega),D1c e ht ih r (k+1) e3,A0.alls]
  cases x.all I6 <;> simp
theorem Cw (e:A0):OkE e→D9 e=some (e.all I6):=by
 induction e using A0.ind with
 | h e ih=>
 intro ht
 have h1:=D1c e ht (fun x hx=>ih x hx (ht.kid hx)) e.Kids 0 rfl
 rw [show ((0:Nat):Int)=0 from rfl] at h1
 rw [D9,h1,A0.all_eq,W18,D1m,ob]
 generalize A0.alls I6 e.Kids=A
 have hb:(bif (bif (ar e.Op != (e.Kids.length:Int)) then true else (bif (e.Op != 0) then (e.NV != 0) else false)) then true else (bif (bif (e.Op != 3) then (e.Op != 4) else false) then (!(e.Name == [])) else false)) = !(ef1 e&&ef2 e&&ef3 e):=by
  unfold ef1 ef2 ef3
  simp only [bne]
  cases ar e.Op == (e.Kids.length:Int) <;> cases e.NV == 0 <;> cases e.Op == 0 <;> cases e.Name == [] <;> cases e.Op == 3 <;> cases e.Op == 4 <;> rfl
 rw [hb]
 unfold I6 ef4
 cases (ef1 e&&ef2 e&&ef3 e) <;> cases (bif e.Op == 4 then true else e.Op == 5) <;> cases e.place <;> simp [ob]
theorem Y18 (e:A0)(ht:OkE e)(ih:∀ x∈e.Kids,A8 x=some (x.all A7)):∀ (r:List A0) (k:Nat),e.Kids.drop k=r→Hd e k=some (A0.alls A7 r)
 | [],k,h=>by rw [Hd,(L2 h).1,if_neg (by simp)]; rfl
 | x::r,k,h=>by
  obtain ⟨e1,e2,e3,e4,e5⟩:=J3 h
  have:=ht.kids
  rw [Hd,e1,if_pos rfl,e2,ob,ih x e5,ob,w1 (by omega),Y18 e ht ih r (k+1) e3,A0.alls]
  cases x.all A7 <;> simp
theorem Wt (e:A0):OkE e→A8 e=some (e.all A7):=by
 induction e using A0.ind with
 | h e ih=>
 intro ht
 have h1:=Y18 e ht (fun x hx=>ih x hx (ht.kid hx)) e.Kids 0 rfl
 rw [show ((0:Nat):Int)=0 from rfl] at h1
 rw [A8,h1,A0.all_eq,Wl e.Name ht.name]
 generalize A0.alls A7 e.Kids=A
 unfold A7
 cases (bif e.Op == 3 then true else e.Op == 4) <;> cases L9 e.Name <;> simp [ob]
theorem S13 (e:A0)(ht:OkE e)(ih:∀ x∈e.Kids,P6 x=some (x.all T6)):∀ (r:List A0) (k:Nat),e.Kids.drop k=r→Lb e k=some (A0.alls T6 r)
 | [],k,h=>by rw [Lb,(L2 h).1,if_neg (by simp)]; rfl
 | x::r,k,h=>by
  obtain ⟨e1,e2,e3,e4,e5⟩:=J3 h
  have:=ht.kids
  rw [Lb,e1,if_pos rfl,e2,ob,ih x e5,ob,w1 (by omega),S13 e ht ih r (k+1) e3,A0.alls]
  cases x.all T6 <;> simp
theorem Wo (e:A0):OkE e→P6 e=some (e.all T6):=by
 induction e using A0.ind with
 | h e ih=>
 intro ht
 have h1:=S13 e ht (fun x hx=>ih x hx (ht.kid hx)) e.Kids 0 rfl
 rw [show ((0:Nat):Int)=0 from rfl] at h1
 rw [P6,h1,A0.all_eq]
 have:T6 e = !(bif (e.Op == 0) then (bif (decide (e.NV < 0)) then true else (decide (e.NV > 1048576))) else false):=by
  unfold T6 R3
  rw [Kz,Lz]
  cases e.Op == 0 <;> cases decide (e.NV≥0) <;> cases decide (e.NV≤1048576) <;> rfl
 rw [this]
 cases (bif (e.Op == 0) then (bif (decide (e.NV < 0)) then true else (decide (e.NV > 1048576))) else false) <;> simp
end Go.Proofs.YtmnhfbekncjnfaaGreatDoor

namespace Go.Proofs.YtmnhfbekncjnfaaGreatDoor
open Go.Am
end Go.Proofs.YtmnhfbekncjnfaaGreatDoor

set_option linter.unusedSimpArgs false
set_option linter.unusedVariables false
namespace Go.Proofs.YtmnhfbekncjnfaaGreatDoor
open Go.Am
end Go.Proofs.YtmnhfbekncjnfaaGreatDoor

set_option linter.unusedSimpArgs false
set_option linter.unusedVariables false
namespace Go.Proofs.YtmnhfbekncjnfaaGreatDoor
open Go.Am
end Go.Proofs.YtmnhfbekncjnfaaGreatDoor

set_option linter.unusedSimpArgs false
set_option linter.unusedVariables false
set_option maxHeartbeats 800000
namespace Go.Proofs.YtmnhfbekncjnfaaGreatDoor
open Go.Am
def Xl:Bool→List Str→List Str→Str
 | f,n::ns,t::ts=>(bif f then [] else [44,32])++(n++[58,32]++t)++Xl false ns ts
 | _,_,_=>[]
end Go.Proofs.YtmnhfbekncjnfaaGreatDoor

set_option linter.unusedSimpArgs false
set_option linter.unusedVariables false
namespace Go.Proofs.YtmnhfbekncjnfaaGreatDoor
open Go.Am
theorem Y12 {α:Type}{l:List α}{k:Nat}(h:k < l.length):∃ y,idx l (k:Int)=some y∧l.drop k=y::l.drop (k+1)∧y∈l:=by
 refine ⟨l[k],?_,List.drop_eq_getElem_cons h,List.getElem_mem h⟩
 unfold idx
 rw [if_pos (by omega)]
 simp [h]
theorem z0:(0:Int)=((0:Nat):Int):=rfl
theorem Z18 (t u:F0)(ht:Ok t)(hl:t.Of.length=u.Of.length)(ih:∀ x∈t.Of,∀ y,Zg x y=some (x.same y)) :
  ∀ (r:List F0) (k:Nat),t.Of.drop k=r→Ua t u k=some (eqL F0.same r (u.Of.drop k))
 | [],k,h=>by
  rw [Ua,(L2 h).1,if_neg (by simp),List.drop_eq_nil_of_le (by have:=(L2 h).2; omega)]; rfl
 | x::r,k,h=>by
  obtain ⟨e1,e2,e3,e4,e5⟩:=J3 h
  obtain ⟨y,f1,f2,f3⟩:=Y12 (l:=u.Of) (k:=k) (by omega)
  have:=ht.ofs
  rw [Ua,e1,if_pos rfl,e2,ob,f1,ob,ih x e5 y,ob,w1 (by omega),Z18 t u ht hl ih r (k+1) e3,f2,eqL]
  cases x.same y <;> simp
theorem A19 (t u:F0)(ht:Ok t)(hl:t.Names.length=u.Names.length)(b:Bool)(hb:Ua t u 0=some b) :
  ∀ (r:List Str) (k:Nat),t.Names.drop k=r→Id t u k=some (eqL (fun x y=>x == y) r (u.Names.drop k)&&b)
 | [],k,h=>by
  rw [Id,(L2 h).1,if_neg (by simp),List.drop_eq_nil_of_le (by have:=(L2 h).2; omega),hb]; rfl
 | x::r,k,h=>by
  obtain ⟨e1,e2,e3,e4,e5⟩:=J3 h
  obtain ⟨y,f1,f2,f3⟩:=Y12 (l:=u.Names) (k:=k) (by omega)
  have:=ht.names
  rw [Id,e1,if_pos rfl,e2,ob,f1,ob,w1 (by omega),A19 t u ht hl b hb r (k+1) e3,f2,eqL]
  cases x == y <;> simp
theorem V1h (t:F0):Ok t→∀ u,Zg t u=some (t.same u):=by
 induction t using F0.ind with
 | h t ih=>
 intro ht u
 have ih':=fun x hx=>ih x hx (ht.kid hx)
 rw [Zg]
 show (if R17 t u=true then _ else _)=_
 cases hd:R17 t u with
 | true=>rw [if_pos rfl,P1h hd]
 | false=>
  obtain ⟨h1,h2,h3⟩:=D1k hd
  have h4:=Z18 t u ht h3 ih' t.Of 0 rfl
  have h5:=A19 t u ht h2 _ h4 t.Names 0 rfl
  rw [if_neg (by simp),z0,h5,h1]
  rfl
theorem E1c (s u:List Str)(hs:s.length≤BB)(hl:s.length=u.length):∀ (r:List Str) (k:Nat),s.drop k=r→L3 s u k=some (eqL (fun x y=>x == y) r (u.drop k))
 | [],k,h=>by
  rw [L3,(L2 h).1,if_neg (by simp),List.drop_eq_nil_of_le (by have:=(L2 h).2; omega)]; rfl
 | x::r,k,h=>by
  obtain ⟨e1,e2,e3,e4,e5⟩:=J3 h
  obtain ⟨y,f1,f2,f3⟩:=Y12 (l:=u) (k:=k) (by omega)
  rw [L3,e1,if_pos rfl,e2,ob,f1,ob,w1 (by omega),E1c s u hs hl r (k+1) e3,f2,eqL]
  cases x == y <;> simp
theorem W1h (s u:List Str)(hs:s.length≤BB):J7 s u=some (eqL (fun x y=>x == y) s u):=by
 unfold J7
 by_cases hl:s.length=u.length
 ·rw [if_neg (by simp; omega),z0,E1c s u hs hl s 0 rfl]; rfl
 ·rw [if_pos (by simp; omega),Tq _ hl]
theorem F1c (s u:List F0)(hs:s.length≤BB)(hl:s.length=u.length)(ih:∀ x∈s,∀ y,S8 x y=some (x.same y)) :
  ∀ (r:List F0) (k:Nat),s.drop k=r→Y1 s u k=some (eqL F0.same r (u.drop k))
 | [],k,h=>by
  rw [Y1,(L2 h).1,if_neg (by simp),List.drop_eq_nil_of_le (by have:=(L2 h).2; omega)]; rfl
 | x::r,k,h=>by
  obtain ⟨e1,e2,e3,e4,e5⟩:=J3 h
  obtain ⟨y,f1,f2,f3⟩:=Y12 (l:=u) (k:=k) (by omega)
  rw [Y1,e1,if_pos rfl,e2,ob,f1,ob,ih x e5 y,ob,w1 (by omega),F1c s u hs hl ih r (k+1) e3,f2,eqL]
  cases x.same y <;> simp
theorem R1f (t:F0):Ok t→∀ u,S8 t u=some (t.same u):=by
 induction t using F0.ind with
 | h t ih=>
 intro ht u
 have ih':=fun x hx=>ih x hx (ht.kid hx)
 have hO:O3 t.Of u.Of=some (eqL F0.same t.Of u.Of):=by
  rw [O3]
  by_cases hl:t.Of.length=u.Of.length
  ·rw [if_neg (by simp; omega),z0,F1c t.Of u.Of ht.ofs hl ih' t.Of 0 rfl]; rfl
  ·rw [if_pos (by simp; omega),Tq _ hl]
 rw [S8,hO,W1h _ _ ht.names,F0.same_eq]
 generalize eqL F0.same t.Of u.Of=a
 generalize eqL (fun x y=>x == y) t.Names u.Names=b
 cases t.Kind == u.Kind <;> cases t.Low == u.Low <;> cases t.High == u.High <;> cases t.Size == u.Size <;> cases t.Name == u.Name <;> cases b <;> cases a <;> rfl
mutual
def A0.same:A0→A0→Bool
 | .mk o n nm ks,t=>o == t.Op&&n == t.NV&&nm == t.Name&&A0.sames ks t.Kids
def A0.sames:List A0→List A0→Bool
 | [],[]=>true
 | x::r,y::s=>A0.same x y&&A0.sames r s
 | [],_::_=>false
 | _::_,[]=>false
end
theorem A0.sames_eq:∀ l m:List A0,A0.sames l m=eqL A0.same l m
 | [],[]=>rfl
 | x::r,y::s=>by simp only [A0.sames,eqL,A0.sames_eq r s]
 | [],_::_=>rfl
 | _::_,[]=>rfl
theorem A0.same_eq (t u:A0):t.same u=(t.Op == u.Op&&t.NV == u.NV&&t.Name == u.Name&&eqL A0.same t.Kids u.Kids):=by
 rw [← A0.sames_eq]
 cases t
 rfl
theorem X1h (s u:List A0)(hs:s.length≤BB)(hl:s.length=u.length)(ih:∀ x∈s,∀ y,H7 x y=some (x.same y)) :
  ∀ (r:List A0) (k:Nat),s.drop k=r→Z1 s u k=some (eqL A0.same r (u.drop k))
 | [],k,h=>by
  rw [Z1,(L2 h).1,if_neg (by simp),List.drop_eq_nil_of_le (by have:=(L2 h).2; omega)]; rfl
 | x::r,k,h=>by
  obtain ⟨e1,e2,e3,e4,e5⟩:=J3 h
  obtain ⟨y,f1,f2,f3⟩:=Y12 (l:=u) (k:=k) (by omega)
  rw [Z1,e1,if_pos rfl,e2,ob,f1,ob,ih x e5 y,ob,w1 (by omega),X1h s u hs hl ih r (k+1) e3,f2,eqL]
  cases x.same y <;> simp
theorem J1k (s u:List A0)(hs:s.length≤BB)(ih:∀ x∈s,∀ y,H7 x y=some (x.same y)):P3 s u=some (eqL A0.same s u):=by
 rw [P3]
 by_cases hl:s.length=u.length
 ·rw [if_neg (by simp; omega),z0,X1h s u hs hl ih s 0 rfl]; rfl
 ·rw [if_pos (by simp; omega),Tq _ hl]
theorem S1f (t:A0):OkE t→∀ u,H7 t u=some (t.same u):=by
 induction t using A0.ind with
 | h t ih=>
 intro ht u
 rw [H7,J1k t.Kids u.Kids ht.kids (fun x hx=>ih x hx (ht.kid hx)),A0.same_eq]
 generalize eqL A0.same t.Kids u.Kids=a
 cases t.Op == u.Op <;> cases t.NV == u.NV <;> cases t.Name == u.Name <;> cases a <;> rfl
theorem Y1h (t u:A0)(ht:OkE t)(hl:t.Kids.length=u.Kids.length)(ih:∀ x∈t.Kids,∀ y,M5 x y=some (x.same y)) :
  ∀ (r:List A0) (k:Nat),t.Kids.drop k=r→D7 t u k=some (eqL A0.same r (u.Kids.drop k))
 | [],k,h=>by
  rw [D7,(L2 h).1,if_neg (by simp),List.drop_eq_nil_of_le (by have:=(L2 h).2; omega)]; rfl
 | x::r,k,h=>by
  obtain ⟨e1,e2,e3,e4,e5⟩:=J3 h
  obtain ⟨y,f1,f2,f3⟩:=Y12 (l:=u.Kids) (k:=k) (by omega)
  have:=ht.kids
  rw [D7,e1,if_pos rfl,e2,ob,f1,ob,ih x e5 y,ob,w1 (by omega),Y1h t u ht hl ih r (k+1) e3,f2,eqL]
  cases x.same y <;> simp
theorem T1f (t:A0):OkE t→∀ u,M5 t u=some (t.same u):=by
 induction t using A0.ind with
 | h t ih=>
 intro ht u
 have ih':=fun x hx=>ih x hx (ht.kid hx)
 rw [M5,A0.same_eq]
 by_cases hl:t.Kids.length=u.Kids.length
 ·have h4:=Y1h t u ht hl ih' t.Kids 0 rfl
  have hb:(bif (bif (bif (t.Op != u.Op) then true else (t.NV != u.NV)) then true else (!(t.Name == u.Name))) then true else ((t.Kids.length:Int) != (u.Kids.length:Int))) = !(t.Op == u.Op&&t.NV == u.NV&&t.Name == u.Name):=by
   have:((t.Kids.length:Int) != (u.Kids.length:Int))=false:=by simp; omega
   rw [this]
   unfold bne
   cases t.Op == u.Op <;> cases t.NV == u.NV <;> cases t.Name == u.Name <;> rfl
  rw [hb,z0,h4]
  cases (t.Op == u.Op&&t.NV == u.NV&&t.Name == u.Name) <;> simp
 ·have:((t.Kids.length:Int) != (u.Kids.length:Int))=true:=by simp; omega
  rw [this,Tq _ hl,Bool.and_false]
  generalize (bif (bif (t.Op != u.Op) then true else (t.NV != u.NV)) then true else (!(t.Name == u.Name)))=b
  cases b <;> rfl
def Zh (e:A0):Bool:=e.same ⟨0,0,[],[]⟩
def Er (t:F0):Bool:=t.same ⟨0,0,0,0,[],[],[]⟩
theorem Dw (e:A0)(h:OkE e):Ff e=some (Zh e):=by unfold Ff; rw [T1f e h]; rfl
theorem Z1h (t:F0)(h:Ok t):Cq t=some (Er t):=by unfold Cq; rw [V1h t h]; rfl
theorem K1k {e:A0}(h:Zh e=true):e=⟨0,0,[],[]⟩:=by
 unfold Zh at h
 rw [A0.same_eq] at h
 obtain ⟨o,n,nm,ks⟩:=e
 simp only [Bool.and_eq_true,beq_iff_eq] at h
 obtain ⟨⟨⟨rfl,rfl⟩,rfl⟩,h4⟩:=h
 cases ks with
 | nil=>rfl
 | cons x r=>cases h4
theorem L1k {t:F0}(h:Er t=true):t=⟨0,0,0,0,[],[],[]⟩:=by
 unfold Er at h
 rw [F0.same_eq] at h
 obtain ⟨a,b,c,d,nm,ns,ks⟩:=t
 simp only [Bool.and_eq_true,beq_iff_eq] at h
 obtain ⟨⟨⟨⟨⟨⟨rfl,rfl⟩,rfl⟩,rfl⟩,rfl⟩,h5⟩,h4⟩:=h
 cases ks with
 | nil=>
  cases ns with
  | nil=>rfl
  | cons x r=>cases h5
 | cons x r=>cases h4
end Go.Proofs.YtmnhfbekncjnfaaGreatDoor

namespace Go.Proofs.YtmnhfbekncjnfaaGreatDoor
open Go.Am
mutual
def E0.bulk:E0→Nat
 | .mk y0 y1 y2 y3 y4 y5 y6 y7 y8 y9 y10=>1+(A0.bulk y1+(A0.bulk y2+((y3.length+1)+((A0.bulks y4+1)+(1+(1+(1+(((y8.map fun _=>1).sum+1)+((E0.bulks y9+1)+((E0.bulks y10+1)+(0)))))))))))+1
def E0.bulks:List E0→Nat
 | []=>0
 | x::r=>E0.bulk x+E0.bulks r
end
mutual
def D0.bulk:D0→Nat
 | .mk y0 y1 y2 y3 y4 y5 y6 y7=>1+((y1.length+1)+(F0.bulk y2+(1+(A0.bulk y4+((D0.bulks y5+1)+((D0.bulks y6+1)+((E0.bulks y7+1)+(0))))))))+1
def D0.bulks:List D0→Nat
 | []=>0
 | x::r=>D0.bulk x+D0.bulks r
end
mutual
def Z0.bulk:Z0→Nat
 | .mk y0 y1=>(D0.bulks y0+1)+((E0.bulks y1+1)+(0))+1
def Z0.bulks:List Z0→Nat
 | []=>0
 | x::r=>Z0.bulk x+Z0.bulks r
end
end Go.Proofs.YtmnhfbekncjnfaaGreatDoor

set_option linter.unusedSimpArgs false
set_option linter.unusedVariables false
set_option maxHeartbeats 1000000
namespace Go.Proofs.YtmnhfbekncjnfaaGreatDoor
open Go.Am
def uPl (v:Int):Bool:=bif (bif (v == 0) then true else (v == 1)) then true else (v == 2)
def uVa (v:Int):Bool:=bif (bif (bif (v == 0) then true else (v == 3)) then true else (v == 5)) then true else (v == 6)
def uNm (v:Int):Bool:=bif (bif (v == 1) then true else (v == 2)) then true else (v == 7)
def uNn (v:Int):Bool:=bif (v == 4) then true else (v == 6)
def uTh (v:Int):Bool:=bif (bif (v == 5) then true else (v == 6)) then true else (v == 7)
def okV (v:Int):Bool:=!(bif decide (v < 0) then true else decide (v > 8))
def stU (v:Int):Y2×Bool:=(⟨uPl v,uVa v,uNm v,v == 1,uNn v,v == 7,v == 8,uTh v,v == 5⟩,okV v)
theorem G1c (v:Int):Xf v=some (stU v):=by
 have h:(v < 0∨8 < v)∨v=0∨v=1∨v=2∨v=3∨v=4∨v=5∨v=6∨v=7∨v=8:=by omega
 rcases h with h | rfl | rfl | rfl | rfl | rfl | rfl | rfl | rfl | rfl
 ·have f:∀ k:Int,0≤k∧k≤8→(v == k)=false:=fun k hk=>beq_eq_false_iff_ne.2 (by omega)
  have hv:okV v=false:=by
   unfold okV
   rcases h with h | h
   ·rw [decide_eq_true h]; rfl
   ·rw [decide_eq_true (show v > 8 from h)]; cases decide (v < 0) <;> rfl
  unfold Xf stU uPl uVa uNm uNn uTh
  rw [hv]
  simp only [f 0 (by decide),f 1 (by decide),f 2 (by decide),f 3 (by decide),f 4 (by decide),f 5 (by decide),f 6 (by decide),f 7 (by decide),f 8 (by decide)]
  rfl
 all_goals rfl
def oN (e:A0)(u:Bool):Nat:=bif (bif !u then Zh e else false) then 0 else e.nodes
def oD (e:A0)(u:Bool):Nat:=bif (bif !u then Zh e else false) then 0 else e.depth
def oF (e:A0)(u:Bool):Bool:=bif u then e.all I6 else Zh e
theorem U1f (e:A0)(u:Bool):oN e u≤e.bulk:=by
 unfold oN
 have:=A0.nodes_bulk e
 cases (bif !u then Zh e else false) <;> simp <;> omega
def Xo:Int→List Int→Bool
 | _,[]=>true
 | l,n::r=>(bif R3 n 0 1048576 then decide (n > l) else false)&&Xo n r
def Yo (s:E0):Bool:=
 bif s.Verb == 4 then R3 s.NV 0 1048576 else bif s.Verb == 6 then R3 s.NV 0 4096
 else bif s.Verb == 7 then (bif (bif R3 s.Low (-1048576) 1048576 then R3 s.High s.Low 1048576 else false) then decide (s.High - s.Low < 4096) else false)
 else bif s.Verb == 8 then R3 (s.Numbers.length:Int) 1 32&&Xo (-1) s.Numbers else true
def J9 (s:E0):Bool:=
 okV s.Verb&&oF s.Place (uPl s.Verb)&&(bif uPl s.Verb then s.Place.place else true)&&oF s.Value (uVa s.Verb)&&(bif uNm s.Verb then true else s.Name == [])&&(bif s.Verb == 1 then true else ((s.Args.length:Int) == 0))&&A0.alls I6 s.Args
 && (bif uNn s.Verb then true else s.NV == 0)&&(bif s.Verb == 7 then true else (bif s.Low == 0 then s.High == 0 else false))&&(bif s.Verb == 8 then true else ((s.Numbers.length:Int) == 0))
 && (bif uTh s.Verb then true else ((s.Then.length:Int) == 0))&&(bif s.Verb == 5 then true else ((s.Else.length:Int) == 0))
def Ub (s:E0):Bool:=s.Place.all A7&&s.Value.all A7&&(bif uNm s.Verb then L9 s.Name else true)&&A0.alls A7 s.Args
def Eb (s:E0):Bool:=s.Place.all T6&&s.Value.all T6&&A0.alls T6 s.Args&&Yo s
mutual
def E0.nds:E0→Nat
 | .mk v pl va nm ar n lo hi ns th el=>1+(oN pl (uPl v)+(oN va (uVa v)+(A0.nodess ar+(E0.ndss th+E0.ndss el))))
def E0.ndss:List E0→Nat
 | []=>0
 | x::r=>E0.nds x+E0.ndss r
end
mutual
def E0.dps:E0→Nat→Nat
 | .mk v pl va nm ar n lo hi ns th el,d=>max d (max (oD pl (uPl v)) (max (oD va (uVa v)) (max (A0.depths ar) (max (E0.dpss th (d+1)) (E0.dpss el (d+1))))))
def E0.dpss:List E0→Nat→Nat
 | [],_=>0
 | x::r,d=>max (E0.dps x d) (E0.dpss r d)
end
mutual
def E0.all (p:E0→Bool):E0→Bool
 | .mk v pl va nm ar n lo hi ns th el=>p (.mk v pl va nm ar n lo hi ns th el)&&(E0.alls p th&&E0.alls p el)
def E0.alls (p:E0→Bool):List E0→Bool
 | []=>true
 | x::r=>E0.all p x&&E0.alls p r
end
theorem E0.nds_eq (s:E0):s.nds=1+(oN s.Place (uPl s.Verb)+(oN s.Value (uVa s.Verb)+(A0.nodess s.Args+(E0.ndss s.Then+E0.ndss s.Else)))):=by cases s; simp only [E0.nds]
theorem E0.dps_eq (s:E0)(d:Nat):s.dps d=max d (max (oD s.Place (uPl s.Verb)) (max (oD s.Value (uVa s.Verb)) (max (A0.depths s.Args) (max (E0.dpss s.Then (d+1)) (E0.dpss s.Else (d+1)))))):=by cases s; simp only [E0.dps]
theorem E0.all_eq (p:E0→Bool)(s:E0):s.all p=(p s&&(E0.alls p s.Then&&E0.alls p s.Else)):=by cases s; simp only [E0.all]
theorem E0.ind {P:E0→Prop}(h:∀ s:E0,(∀ x∈s.Then,P x)→(∀ x∈s.Else,P x)→P s):∀ s,P s:=by
 intro s
 refine E0.rec (motive_1:=P) (motive_2:=fun l=>∀ x∈l,P x) ?_ ?_ ?_ s
 ·intro v pl va nm ar n lo hi ns th el i1 i2
  exact h _ i1 i2
 ·intro x hx; cases hx
 ·intro x r hx hr y hy
  cases hy with
  | head=>exact hx
  | tail _ hy=>exact hr y hy
theorem E0.inds {Q:List E0→Prop}(h:∀ l:List E0,(∀ x∈l,Q x.Then∧Q x.Else)→Q l):∀ l,Q l:=by
 have key:∀ s:E0,Q s.Then∧Q s.Else:=fun s=>by
  induction s using E0.ind with
  | h s i1 i2=>exact ⟨h _ i1,h _ i2⟩
 exact fun l=>h l fun x _=>key x
theorem E0.bulk_eq (s:E0):s.bulk=s.Place.bulk+s.Value.bulk+s.Name.length+A0.bulks s.Args+(s.Numbers.map fun _=>1).sum+E0.bulks s.Then+E0.bulks s.Else+10:=by
 cases s; simp only [E0.bulk]; omega
theorem H1c:∀ l:List Int,(l.map fun _=>1).sum=l.length
 | []=>rfl
 | x::r=>by simp only [List.map_cons,List.sum_cons,List.length_cons,H1c r]; omega
theorem E0.bulk_mem {s:E0}:∀ {l:List E0},s∈l→s.bulk≤E0.bulks l
 | x::r,h=>by
  simp only [E0.bulks]
  cases h with
  | head=>omega
  | tail _ h=>have:=E0.bulk_mem h; omega
theorem E0.bulk_len:∀ l:List E0,l.length≤E0.bulks l
 | []=>Nat.le_refl _
 | x::r=>by
  simp only [E0.bulks,List.length_cons]
  have:=E0.bulk_len r
  have:=E0.bulk_eq x
  omega
mutual
theorem E0.nds_bulk:∀ s:E0,s.nds≤s.bulk
 | .mk v pl va nm ar n lo hi ns th el=>by
  have:=U1f pl (uPl v)
  have:=U1f va (uVa v)
  have:=A0.nodess_bulk ar
  have:=E0.ndss_bulk th
  have:=E0.ndss_bulk el
  simp only [E0.nds,E0.bulk]; omega
theorem E0.ndss_bulk:∀ l:List E0,E0.ndss l≤E0.bulks l
 | []=>Nat.le_refl _
 | x::r=>by
  have:=E0.nds_bulk x
  have:=E0.ndss_bulk r
  simp only [E0.ndss,E0.bulks]; omega
end
def OkS (l:List E0):Prop:=E0.bulks l≤BB
structure Nz (s:E0):Prop where
 place:OkE s.Place
 value:OkE s.Value
 name:s.Name.length≤BB
 args:s.Args.length≤BB
 arg:∀ a∈s.Args,OkE a
 nums:s.Numbers.length≤BB
 thens:OkS s.Then
 elses:OkS s.Else
theorem OkS.mem {l:List E0}(h:OkS l){s:E0}(hs:s∈l):Nz s:=by
 unfold OkS at h
 have h1:=E0.bulk_mem hs
 have h2:=E0.bulk_eq s
 have h3:=H1c s.Numbers
 have h4:=A0.bulk_len s.Args
 refine ⟨?_,?_,?_,?_,fun a ha=>?_,?_,?_,?_⟩ <;> first | (unfold OkE; omega) | (unfold OkS; omega) | omega | skip
 have:=A0.bulk_kid ha
 unfold OkE; omega
theorem OkS.len {l:List E0}(h:OkS l):l.length≤BB:=Nat.le_trans (E0.bulk_len l) h
def Y4 (o:J0)(n m:Nat)(f a u:Bool):J0:=⟨o.nodes+n,max o.depth m,o.badForm || !f,o.badName || !a,o.badNumber || !u⟩
theorem U4 (o:J0)(n m n' m':Nat)(f a u f' a' u':Bool):Y4 (Y4 o n m f a u) n' m' f' a' u'=Y4 o (n+n') (max m m') (f&&f') (a&&a') (u&&u'):=by
 simp only [Y4,Js]
 rw [show o.nodes+(n:Int)+(n':Int)=o.nodes+((n+n':Nat):Int) by omega,show max (max o.depth (m:Int)) (m':Int)=max o.depth ((max m m':Nat):Int) by omega]
theorem Yl (o:J0)(h:0≤o.depth):Y4 o 0 0 true true true=o:=by
 simp only [Y4,Bool.not_true,Bool.or_false]
 rw [show o.nodes+((0:Nat):Int)=o.nodes by omega,show max o.depth ((0:Nat):Int)=o.depth by omega]
theorem Q16 (o:J0)(n m:Nat)(f a u:Bool):(Y4 o n m f a u).nodes=o.nodes+n:=rfl
theorem Zo (o:J0)(n m:Nat)(f a u:Bool):(Y4 o n m f a u).depth=max o.depth m:=rfl
theorem X8 (o:J0)(h:0≤o.depth)(b:Bool):W0 b o=some (Y4 o 0 0 b true true):=by
 rw [O14]
 simp only [Y4,Bool.not_true,Bool.or_false]
 rw [show o.nodes+((0:Nat):Int)=o.nodes by omega,show max o.depth ((0:Nat):Int)=o.depth by omega]
theorem Df (o:J0)(h:0≤o.depth)(b:Bool):E2 b o=some (Y4 o 0 0 true true b):=by
 rw [Vt]
 simp only [Y4,Bool.not_true,Bool.or_false]
 rw [show o.nodes+((0:Nat):Int)=o.nodes by omega,show max o.depth ((0:Nat):Int)=o.depth by omega]
theorem B19 (o:J0)(h:0≤o.depth)(s:Str)(hs:s.length≤BB):A4 s o=some (Y4 o 0 0 true (L9 s) true):=by
 rw [Mz s hs]
 simp only [Y4,Bool.not_true,Bool.or_false]
 rw [show o.nodes+((0:Nat):Int)=o.nodes by omega,show max o.depth ((0:Nat):Int)=o.depth by omega]
structure Q5 (o:J0)(n:Nat):Prop where
 dep:0≤o.depth
 low:0≤o.nodes
 high:o.nodes+n≤3 * BB
theorem Q5.x {o:J0}{n k m:Nat}{f a u:Bool}(h:Q5 o (k+n)):Q5 (Y4 o k m f a u) n:=by
 obtain ⟨h1,h2,h3⟩:=h
 refine ⟨?_,?_,?_⟩
 ·rw [Zo]; omega
 ·rw [Q16]; omega
 ·rw [Q16]; omega
theorem Q5.less {o:J0}{n k:Nat}(h:Q5 o n)(hk:k≤n):Q5 o k:=⟨h.dep,h.low,by have:=h.high; omega⟩
theorem Q5.x0 {o:J0}{n m:Nat}{f a u:Bool}(h:Q5 o n):Q5 (Y4 o 0 m f a u) n:=Q5.x (by rw [Nat.zero_add]; exact h)
theorem I12 (e:A0)(h:OkE e)(o:J0)(hr:Q5 o e.nodes):Z2 e 1 o=some (Y4 o e.nodes e.depth (e.all I6) (e.all A7) (e.all T6)):=by
 have hn:=h.nodes
 have hp:1≤e.depth:=by rw [A0.depth_eq]; omega
 have h3:=hr.high
 unfold BB at hn h3
 rw [I1k e h 1 o (by omega) (by unfold BB; omega) hr.low (by unfold BB; omega)]
 simp only [Pg,Y4]
 rw [show (1:Int)+((e.depth - 1:Nat):Int)=e.depth by omega]
theorem I1c (t:F0)(h:Ok t)(o:J0)(hr:Q5 o t.nodes):Q6 t 1 o=some (Y4 o t.nodes t.depth (t.all Tb) (t.all El) (t.all Rq)):=by
 have hn:=h.nodes
 have hp:1≤t.depth:=by rw [F0.depth_eq]; omega
 have h3:=hr.high
 unfold BB at hn h3
 rw [K1n t h 1 o (by omega) (by unfold BB; omega) hr.low (by unfold BB; omega)]
 simp only [Pg,Y4]
 rw [show (1:Int)+((t.depth - 1:Nat):Int)=t.depth by omega]
theorem J1c:(A0.mk 0 0 [] []).all I6=true∧(A0.mk 0 0 [] []).all A7=true∧(A0.mk 0 0 [] []).all T6=true:=⟨rfl,rfl,rfl⟩
theorem Q14 (e:A0)(u:Bool)(h:OkE e)(o:J0)(hr:Q5 o (oN e u)):J4 e u o=some (Y4 o (oN e u) (oD e u) (oF e u) (e.all A7) (e.all T6)):=by
 unfold J4
 rw [S1f e h]
 show ((if (!u)=true then some (Zh e) else some default)>>=_)=_
 unfold oN oD oF at *
 cases u with
 | true=>
  simp only [Bool.not_true,cond_false,cond_true] at *
  rw [if_neg (by simp),ob,if_neg (by simp),X8 o hr.dep,ob,I12 e h _ hr.x0,ob,U4]
  simp
 | false=>
  simp only [Bool.not_false,cond_false,cond_true] at *
  rw [if_pos trivial,ob]
  cases hz:Zh e with
  | true=>
   rw [if_pos rfl,K1k hz,J1c.2.1,J1c.2.2]
   exact congrArg some (Yl o hr.dep).symm
  | false=>
   rw [hz] at hr
   rw [if_neg (by simp),X8 o hr.dep,ob,I12 e h _ hr.x0,ob,U4]
   simp
theorem A1i (o:J0)(h:0≤o.nodes)(h':o.nodes+1≤3 * BB)(d:Nat):A6 (d:Int) ⟨IntKind.i64.wrap (o.nodes+1),o.depth,o.badForm,o.badName,o.badNumber⟩=some (Y4 o 1 d true true true):=by
 unfold BB at h'
 rw [N14,wr (by omega) (by omega)]
 simp only [Y4,Bool.not_true,Bool.or_false]
 rfl
theorem C19 (s:E0)(hs:Nz s)(K:J0→Option J0)(F:J0→Int→Option J0)
  (hF:∀ (o:J0) (k:Int),F o k=if decide (k < (s.Args.length:Int))=true then idx s.Args k>>=fun x=>Z2 x 1 o>>=fun y=>F y (IntKind.i64.wrap (k+1)) else K o) :
  ∀ (r:List A0) (k:Nat) (o:J0),s.Args.drop k=r→Q5 o (A0.nodess r)→F o (k:Int)=K (Y4 o (A0.nodess r) (A0.depths r) (A0.alls I6 r) (A0.alls A7 r) (A0.alls T6 r))
 | [],k,o,h,hr=>by
  rw [hF,(L2 h).1,if_neg (by simp)]
  simp only [A0.nodess,A0.depths,A0.alls]
  rw [Yl o hr.dep]
 | x::r,k,o,h,hr=>by
  obtain ⟨e1,e2,e3,e4,e5⟩:=J3 h
  have:=hs.args
  simp only [A0.nodess] at hr
  rw [hF,e1,if_pos rfl,e2,ob,I12 x (hs.arg x e5) o (hr.less (by omega)),ob,w1 (by omega),C19 s hs K F hF r (k+1) _ e3 hr.x,U4]
  rfl
theorem C1e (s:E0)(hs:Nz s):∀ (r:List Int) (k:Nat) (last:Int) (o:J0),s.Numbers.drop k=r→0≤o.depth→O4 s o last k=some (Y4 o 0 0 true true (Xo last r))
 | [],k,last,o,h,h0=>by rw [O4,(L2 h).1,if_neg (by simp)]; exact congrArg some (Yl o h0).symm
 | x::r,k,last,o,h,h0=>by
  obtain ⟨e1,e2,e3,e4,e5⟩:=J3 h
  have:=hs.nums
  rw [O4,e1,if_pos rfl,e2,ob,Ek,ob,Df _ h0,ob,w1 (by omega),C1e s hs r (k+1) x _ e3 (by rw [Zo]; omega),U4]
  rfl
theorem B1i (s:E0)(hs:Nz s)(o:J0)(h0:0≤o.depth):G8 s o=some (Y4 o 0 0 true true (Yo s)):=by
 unfold G8 Yo
 simp only [Ek]
 cases s.Verb == 4 with
 | true=>rw [if_pos rfl,ob,Df _ h0,ob]; rfl
 | false=>
  rw [if_neg (by simp)]
  cases s.Verb == 6 with
  | true=>rw [if_pos rfl,ob,Df _ h0,ob]; rfl
  | false=>
   rw [if_neg (by simp)]
   cases s.Verb == 7 with
   | true=>
    rw [if_pos rfl,ob]
    cases hl:R3 s.Low (-1048576) 1048576 with
    | false=>rw [if_neg (by simp),ob,Df _ h0,ob]; rfl
    | true=>
     rw [if_pos rfl,ob]
     cases hh:R3 s.High s.Low 1048576 with
     | false=>rw [Df _ h0,ob]; rfl
     | true=>
      have:IntKind.i64.wrap (s.High - s.Low)=s.High - s.Low:=by
       simp [R3] at hl hh
       exact wr (by omega) (by omega)
      rw [this,Df _ h0,ob]; rfl
   | false=>
    rw [if_neg (by simp)]
    cases s.Verb == 8 with
    | true=>
     rw [if_pos rfl,ob,Df _ h0,ob,show (0:Int)=((0:Nat):Int) from rfl,C1e s hs s.Numbers 0 (-1) _ rfl (by rw [Zo]; omega),U4]
     simp
    | false=>exact congrArg some (Yl o h0).symm
theorem D19 (l:List E0):OkS l→∀ (d:Nat) (o:J0),d+E0.bulks l≤3 * BB→Q5 o (E0.ndss l)→
  F4 l d o=some (Y4 o (E0.ndss l) (E0.dpss l d) (E0.alls J9 l) (E0.alls Ub l) (E0.alls Eb l)):=by
 induction l using E0.inds with
 | h l ih=>
 intro hl d o hd hr
 have main:∀ (r:List E0) (k:Nat) (o:J0),l.drop k=r→Q5 o (E0.ndss r)→H6 l d o k=some (Y4 o (E0.ndss r) (E0.dpss r d) (E0.alls J9 r) (E0.alls Ub r) (E0.alls Eb r)):=by
  intro r
  induction r with
  | nil=>
   intro k o h hr
   rw [H6,(L2 h).1,if_neg (by simp)]
   exact congrArg some (Yl o hr.dep).symm
  | cons s r ihr=>
   intro k o h hr
   obtain ⟨e1,e2,e3,e4,e5⟩:=J3 h
   have hs:=hl.mem e5
   have hlen:=hl.len
   obtain ⟨i1,i2⟩:=ih s e5
   have hbm:=E0.bulk_mem e5
   have hbe:=E0.bulk_eq s
   simp only [E0.ndss,E0.nds_eq] at hr
   have hhi:=hr.high
   unfold BB at hhi hd
   have hwd:IntKind.i64.wrap ((d:Int)+1)=((d+1:Nat):Int):=by rw [wr (by omega) (by omega)]; rfl
   have tail:∀ o:J0,Q5 o (E0.ndss s.Then+E0.ndss s.Else+E0.ndss r)→
     (W0 (bif (stU s.Verb).1.n then true else (s.NV == 0)) o>>=fun x14=>
      W0 (bif (stU s.Verb).1.bounds then true else (bif (s.Low == 0) then (s.High == 0) else false)) x14>>=fun x15=>
      W0 (bif (stU s.Verb).1.numbers then true else (((s.Numbers).length:Int) == 0)) x15>>=fun x16=>
      W0 (bif (stU s.Verb).1.thenV then true else (((s.Then).length:Int) == 0)) x16>>=fun x17=>
      W0 (bif (stU s.Verb).1.other then true else (((s.Else).length:Int) == 0)) x17>>=fun x18=>
      G8 s x18>>=fun x19=>
      F4 s.Then (IntKind.i64.wrap ((d:Int)+1)) x19>>=fun x20=>
      F4 s.Else (IntKind.i64.wrap ((d:Int)+1)) x20>>=fun x21=>
      H6 l d x21 (IntKind.i64.wrap ((k:Int)+1)))
     = some (Y4 o (E0.ndss s.Then+E0.ndss s.Else+E0.ndss r) (max (E0.dpss s.Then (d+1)) (max (E0.dpss s.Else (d+1)) (E0.dpss r d)))
       ((bif uNn s.Verb then true else s.NV == 0)&&(bif s.Verb == 7 then true else (bif s.Low == 0 then s.High == 0 else false))&&(bif s.Verb == 8 then true else ((s.Numbers.length:Int) == 0))
         && (bif uTh s.Verb then true else ((s.Then.length:Int) == 0))&&(bif s.Verb == 5 then true else ((s.Else.length:Int) == 0))&&E0.alls J9 s.Then&&E0.alls J9 s.Else&&E0.alls J9 r)
       (E0.alls Ub s.Then&&E0.alls Ub s.Else&&E0.alls Ub r) (Yo s&&E0.alls Eb s.Then&&E0.alls Eb s.Else&&E0.alls Eb r)):=by
    intro o hr
    have q1:=hr.x0 (m:=0) (f:=bif (stU s.Verb).1.n then true else (s.NV == 0)) (a:=true) (u:=true)
    have q2:=q1.x0 (m:=0) (f:=bif (stU s.Verb).1.bounds then true else (bif (s.Low == 0) then (s.High == 0) else false)) (a:=true) (u:=true)
    have q3:=q2.x0 (m:=0) (f:=bif (stU s.Verb).1.numbers then true else (((s.Numbers).length:Int) == 0)) (a:=true) (u:=true)
    have q4:=q3.x0 (m:=0) (f:=bif (stU s.Verb).1.thenV then true else (((s.Then).length:Int) == 0)) (a:=true) (u:=true)
    have q5:=q4.x0 (m:=0) (f:=bif (stU s.Verb).1.other then true else (((s.Else).length:Int) == 0)) (a:=true) (u:=true)
    have q6:=q5.x0 (m:=0) (f:=true) (a:=true) (u:=Yo s)
    rw [X8 o hr.dep,ob,X8 _ q1.dep,ob,X8 _ q2.dep,ob,X8 _ q3.dep,ob,X8 _ q4.dep,ob,B1i s hs _ q5.dep,ob,hwd,
     i1 hs.thens (d+1) _ (by unfold BB; omega) (q6.less (by omega)),ob,i2 hs.elses (d+1) _ (by unfold BB; omega) (Q5.x (q6.less (by omega))),ob,w1 (by omega),ihr (k+1) _ e3 (Q5.x (Q5.x (q6.less (by omega))))]
    simp only [U4,stU,Bool.true_and,Bool.and_true,Bool.and_assoc,Nat.zero_add,Nat.add_assoc,Nat.zero_max]
    simp only [← Nat.max_assoc]
   have args:=C19 s hs _ (fun o k'=>Ba l d o s (stU s.Verb) k k') (fun o k'=>Ba.eq_1 l d o s (stU s.Verb) k k') s.Args 0
   rw [show ((0:Nat):Int)=0 from rfl] at args
   have j3:∀ o:J0,Q5 o (A0.nodess s.Args+(E0.ndss s.Then+E0.ndss s.Else+E0.ndss r))→O7 l d o s (stU s.Verb) k
     = some (Y4 o (A0.nodess s.Args+(E0.ndss s.Then+E0.ndss s.Else+E0.ndss r)) (max (A0.depths s.Args) (max (E0.dpss s.Then (d+1)) (max (E0.dpss s.Else (d+1)) (E0.dpss r d))))
       ((bif s.Verb == 1 then true else ((s.Args.length:Int) == 0))&&(A0.alls I6 s.Args&&((bif uNn s.Verb then true else s.NV == 0)&&(bif s.Verb == 7 then true else (bif s.Low == 0 then s.High == 0 else false))&&(bif s.Verb == 8 then true else ((s.Numbers.length:Int) == 0))
         && (bif uTh s.Verb then true else ((s.Then.length:Int) == 0))&&(bif s.Verb == 5 then true else ((s.Else.length:Int) == 0))&&E0.alls J9 s.Then&&E0.alls J9 s.Else&&E0.alls J9 r)))
       (A0.alls A7 s.Args&&(E0.alls Ub s.Then&&E0.alls Ub s.Else&&E0.alls Ub r)) (A0.alls T6 s.Args&&(Yo s&&E0.alls Eb s.Then&&E0.alls Eb s.Else&&E0.alls Eb r))):=by
    intro o hr
    rw [O7,X8 o hr.dep,ob,args _ rfl (hr.x0.less (by omega)),tail _ (Q5.x hr.x0)]
    simp only [U4,stU,Bool.true_and,Bool.and_assoc,Nat.zero_add,Nat.zero_max]
   have j2:∀ o:J0,Q5 o (oN s.Value (uVa s.Verb)+(A0.nodess s.Args+(E0.ndss s.Then+E0.ndss s.Else+E0.ndss r)))→N7 l d o s (stU s.Verb) k
     = (O7 l d (Y4 o (oN s.Value (uVa s.Verb)) (oD s.Value (uVa s.Verb)) (oF s.Value (uVa s.Verb)&&(bif uNm s.Verb then true else s.Name == [])) (s.Value.all A7&&(bif uNm s.Verb then L9 s.Name else true)) (s.Value.all T6)) s (stU s.Verb) k):=by
    intro o hr
    have q1:Q5 (Y4 o (oN s.Value (uVa s.Verb)) (oD s.Value (uVa s.Verb)) (oF s.Value (uVa s.Verb)) (s.Value.all A7) (s.Value.all T6)) 0:=Q5.x (hr.less (by omega))
    rw [N7]
    show (J4 s.Value (uVa s.Verb) o>>=_)=_
    rw [Q14 s.Value (uVa s.Verb) hs.value o (hr.less (by omega)),ob,X8 _ q1.dep,ob,B19 _ (q1.x0).dep s.Name hs.name]
    simp only [U4,stU]
    cases uNm s.Verb with
    | true=>rw [if_pos rfl,ob]; simp
    | false=>rw [if_neg (by simp)]; simp
   rw [H6,e1,if_pos rfl,e2,ob,A1i o hr.low (by unfold BB; omega) d,ob,G1c,ob,X8 _ (show 0≤(Y4 o 1 d true true true).depth by rw [Zo]; have:=hr.dep; omega),ob,U4]
   have hr1:Q5 (Y4 o (1+0) (max d 0) (true&&(stU s.Verb).2) (true&&true) (true&&true)) (oN s.Place (uPl s.Verb)+(oN s.Value (uVa s.Verb)+(A0.nodess s.Args+(E0.ndss s.Then+E0.ndss s.Else+E0.ndss r)))):=Q5.x (hr.less (by omega))
   have hopt:=Q14 s.Place (uPl s.Verb) hs.place _ (hr1.less (k:=oN s.Place (uPl s.Verb)) (by omega))
   show (J4 s.Place (uPl s.Verb) _>>=_)=_
   rw [hopt,ob,V18,U4]
   have hr2:∀ f,Q5 (Y4 o (1+0+oN s.Place (uPl s.Verb)) (max (max d 0) (oD s.Place (uPl s.Verb))) f (true&&true&&s.Place.all A7) (true&&true&&s.Place.all T6)) (oN s.Value (uVa s.Verb)+(A0.nodess s.Args+(E0.ndss s.Then+E0.ndss s.Else+E0.ndss r))):=fun f=>Q5.x (hr.less (by omega))
   have fin:∀ b:Bool,(bif uPl s.Verb then s.Place.place else true)=b→
     N7 l d (Y4 o (1+0+oN s.Place (uPl s.Verb)) (max (max d 0) (oD s.Place (uPl s.Verb))) (true&&(stU s.Verb).2&&oF s.Place (uPl s.Verb)&&b) (true&&true&&s.Place.all A7) (true&&true&&s.Place.all T6)) s (stU s.Verb) k
      = some (Y4 o (E0.ndss (s::r)) (E0.dpss (s::r) d) (E0.alls J9 (s::r)) (E0.alls Ub (s::r)) (E0.alls Eb (s::r))):=by
    rintro _ rfl
    rw [j2 _ (hr2 _),j3 _ (Q5.x (hr2 _)),U4,U4]
    simp only [E0.ndss,E0.dpss,E0.alls,E0.nds_eq,E0.dps_eq,E0.all_eq,J9,Ub,Eb,stU,Bool.true_and,Bool.and_assoc,Nat.add_assoc,Nat.max_assoc,Nat.zero_add]
    congr 1
   cases hu:uPl s.Verb with
   | true=>
    rw [hu] at fin hr2
    rw [if_pos (show (stU s.Verb).1.place=true from hu),ob,X8 _ (hr2 _).dep,ob,U4]
    have:=fin s.Place.place rfl
    simpa using this
   | false=>
    rw [hu] at fin
    rw [if_neg (by rw [show (stU s.Verb).1.place=false from hu]; simp)]
    have:=fin true rfl
    rw [Bool.and_true] at this
    exact this
 rw [F4]
 exact main l 0 o rfl hr
end Go.Proofs.YtmnhfbekncjnfaaGreatDoor

set_option linter.unusedSimpArgs false
set_option linter.unusedVariables false
set_option maxHeartbeats 1000000
namespace Go.Proofs.YtmnhfbekncjnfaaGreatDoor
open Go.Am
def isK (k:Int):Bool:=bif decide (k≥0) then decide (k≤6) else false
def uV2 (k:Int):Bool:=bif k == 5 then true else k == 6
def tN (t:F0)(u:Bool):Nat:=bif (bif !u then Er t else false) then 0 else t.nodes
def tD (t:F0)(u:Bool):Nat:=bif (bif !u then Er t else false) then 0 else t.depth
theorem K1o (t:F0)(u:Bool):tN t u≤t.bulk:=by
 unfold tN
 have:=F0.nodes_bulk t
 cases (bif !u then Er t else false) <;> simp <;> omega
def pOk (x:D0):Bool:=bif x.Kind == 4 then x.Init == 0 else false
def vOk (x:D0):Bool:=x.Kind == 4
def Ls (d:D0):Bool:=bif R3 d.Init (-1048576) 1048576 then (bif d.TypeV.Kind != 0 then true else R3 d.Init 0 1) else false
def My (d:D0):Bool:=bif (bif ((d.Params.length:Int) == 0) then ((d.Vars.length:Int) == 0) else false) then ((d.Body.length:Int) == 0) else false
def J8 (d:D0):Bool:=
 isK d.Kind&&d.TypeV.all Tb&&oF d.Value (uV2 d.Kind)&&(bif d.Kind == 4 then true else d.Init == 0)&&(bif d.Kind == 6 then true else My d)&&d.Params.all pOk&&d.Vars.all vOk&&E0.alls J9 d.Body
def Ze (d:D0):Bool:=d.TypeV.all El&&L9 d.Name&&d.Value.all A7&&E0.alls Ub d.Body
def Ai (d:D0):Bool:=d.TypeV.all Rq&&d.Value.all T6&&Ls d&&E0.alls Eb d.Body
mutual
def D0.nds:D0→Nat
 | .mk k nm t i v ps vs bd=>1+(tN t (isK k)+(oN v (uV2 k)+(D0.ndss ps+(D0.ndss vs+E0.ndss bd))))
def D0.ndss:List D0→Nat
 | []=>0
 | x::r=>D0.nds x+D0.ndss r
end
mutual
def D0.dps:D0→Nat
 | .mk k nm t i v ps vs bd=>max (tD t (isK k)) (max (oD v (uV2 k)) (max (D0.dpss ps) (max (D0.dpss vs) (E0.dpss bd 1))))
def D0.dpss:List D0→Nat
 | []=>0
 | x::r=>max (D0.dps x) (D0.dpss r)
end
mutual
def D0.all (p:D0→Bool):D0→Bool
 | .mk k nm t i v ps vs bd=>p (.mk k nm t i v ps vs bd)&&(D0.alls p ps&&D0.alls p vs)
def D0.alls (p:D0→Bool):List D0→Bool
 | []=>true
 | x::r=>D0.all p x&&D0.alls p r
end
theorem D0.nds_eq (d:D0):d.nds=1+(tN d.TypeV (isK d.Kind)+(oN d.Value (uV2 d.Kind)+(D0.ndss d.Params+(D0.ndss d.Vars+E0.ndss d.Body)))):=by cases d; simp only [D0.nds]
theorem D0.dps_eq (d:D0):d.dps=max (tD d.TypeV (isK d.Kind)) (max (oD d.Value (uV2 d.Kind)) (max (D0.dpss d.Params) (max (D0.dpss d.Vars) (E0.dpss d.Body 1)))):=by cases d; simp only [D0.dps]
theorem D0.all_eq (p:D0→Bool)(d:D0):d.all p=(p d&&(D0.alls p d.Params&&D0.alls p d.Vars)):=by cases d; simp only [D0.all]
theorem D0.ind {P:D0→Prop}(h:∀ d:D0,(∀ x∈d.Params,P x)→(∀ x∈d.Vars,P x)→P d):∀ d,P d:=by
 intro d
 refine D0.rec (motive_1:=P) (motive_2:=fun l=>∀ x∈l,P x) ?_ ?_ ?_ d
 ·intro k nm t i v ps vs bd i1 i2
  exact h _ i1 i2
 ·intro x hx; cases hx
 ·intro x r hx hr y hy
  cases hy with
  | head=>exact hx
  | tail _ hy=>exact hr y hy
theorem D0.inds {Q:List D0→Prop}(h:∀ l:List D0,(∀ x∈l,Q x.Params∧Q x.Vars)→Q l):∀ l,Q l:=by
 have key:∀ s:D0,Q s.Params∧Q s.Vars:=fun s=>by
  induction s using D0.ind with
  | h s i1 i2=>exact ⟨h _ i1,h _ i2⟩
 exact fun l=>h l fun x _=>key x
theorem D0.bulk_eq (d:D0):d.bulk=d.Name.length+d.TypeV.bulk+d.Value.bulk+D0.bulks d.Params+D0.bulks d.Vars+E0.bulks d.Body+7:=by cases d; simp only [D0.bulk]; omega
theorem D0.bulk_mem {s:D0}:∀ {l:List D0},s∈l→s.bulk≤D0.bulks l
 | x::r,h=>by
  simp only [D0.bulks]
  cases h with
  | head=>omega
  | tail _ h=>have:=D0.bulk_mem h; omega
theorem D0.bulk_len:∀ l:List D0,l.length≤D0.bulks l
 | []=>Nat.le_refl _
 | x::r=>by
  simp only [D0.bulks,List.length_cons]
  have:=D0.bulk_len r
  have:=D0.bulk_eq x
  omega
mutual
theorem D0.nds_bulk:∀ d:D0,d.nds≤d.bulk
 | .mk k nm t i v ps vs bd=>by
  have:=K1o t (isK k)
  have:=U1f v (uV2 k)
  have:=D0.ndss_bulk ps
  have:=D0.ndss_bulk vs
  have:=E0.ndss_bulk bd
  simp only [D0.nds,D0.bulk]; omega
theorem D0.ndss_bulk:∀ l:List D0,D0.ndss l≤D0.bulks l
 | []=>Nat.le_refl _
 | x::r=>by
  have:=D0.nds_bulk x
  have:=D0.ndss_bulk r
  simp only [D0.ndss,D0.bulks]; omega
end
def OkD (l:List D0):Prop:=D0.bulks l≤BB
structure I1p (d:D0):Prop where
 type:Ok d.TypeV
 value:OkE d.Value
 name:d.Name.length≤BB
 params:OkD d.Params
 vars:OkD d.Vars
 body:OkS d.Body
theorem OkD.mem {l:List D0}(h:OkD l){d:D0}(hd:d∈l):I1p d:=by
 unfold OkD at h
 have h1:=D0.bulk_mem hd
 have h2:=D0.bulk_eq d
 refine ⟨?_,?_,?_,?_,?_,?_⟩ <;> first | (unfold OkE; omega) | (unfold OkS; omega) | (unfold OkD; omega) | (unfold Ok; omega) | omega
theorem OkD.len {l:List D0}(h:OkD l):l.length≤BB:=Nat.le_trans (D0.bulk_len l) h
theorem E19:(F0.mk 0 0 0 0 [] [] []).all El=true∧(F0.mk 0 0 0 0 [] [] []).all Rq=true:=⟨rfl,rfl⟩
theorem S17 (c:List D0)(hc:c.length≤BB)(q:D0→Bool)(K:J0→Option J0)(F:J0→Int→Option J0)
  (hF:∀ (o:J0) (k:Int),F o k=if decide (k < (c.length:Int))=true then idx c k>>=fun x=>W0 (q x) o>>=fun y=>F y (IntKind.i64.wrap (k+1)) else K o) :
  ∀ (r:List D0) (k:Nat) (o:J0),c.drop k=r→0≤o.depth→F o (k:Int)=K (Y4 o 0 0 (r.all q) true true)
 | [],k,o,h,hr=>by
  rw [hF,(L2 h).1,if_neg (by simp),List.all_nil,Yl o hr]
 | x::r,k,o,h,hr=>by
  obtain ⟨e1,e2,e3,e4,e5⟩:=J3 h
  rw [hF,e1,if_pos rfl,e2,ob,X8 o hr,ob,w1 (by omega),S17 c hc q K F hF r (k+1) _ e3 (by rw [Zo]; omega),U4]
  rfl
theorem C1i (l:List D0):OkD l→∀ (o:J0),Q5 o (D0.ndss l)→
  M6 l o=some (Y4 o (D0.ndss l) (D0.dpss l) (D0.alls J8 l) (D0.alls Ze l) (D0.alls Ai l)):=by
 induction l using D0.inds with
 | h l ih=>
 intro hl o hr
 have main:∀ (r:List D0) (k:Nat) (o:J0),l.drop k=r→Q5 o (D0.ndss r)→P7 l o k=some (Y4 o (D0.ndss r) (D0.dpss r) (D0.alls J8 r) (D0.alls Ze r) (D0.alls Ai r)):=by
  intro r
  induction r with
  | nil=>
   intro k o h hr
   rw [P7,(L2 h).1,if_neg (by simp)]
   exact congrArg some (Yl o hr.dep).symm
  | cons d r ihr=>
   intro k o h hr
   obtain ⟨e1,e2,e3,e4,e5⟩:=J3 h
   have hs:=hl.mem e5
   have hlen:=hl.len
   obtain ⟨i1,i2⟩:=ih d e5
   simp only [D0.ndss,D0.nds_eq] at hr
   have hhi:=hr.high
   have hbB:E0.bulks d.Body≤BB:=hs.body
   have hlow:=hr.low
   unfold BB at hhi
   have l4:=S17 d.Vars hs.vars.len vOk _ (fun o k'=>Da l o d k k') (fun o k'=>Da.eq_1 l o d k k') d.Vars 0
   have l3:=S17 d.Params hs.params.len pOk _ (fun o k'=>Q7 l o d k k') (fun o k'=>Q7.eq_1 l o d k k') d.Params 0
   rw [show ((0:Nat):Int)=0 from rfl] at l4 l3
   have tail:∀ o:J0,Q5 o (D0.ndss d.Params+(D0.ndss d.Vars+(E0.ndss d.Body+D0.ndss r)))→
     Q7 l o d k 0=some (Y4 o (D0.ndss d.Params+(D0.ndss d.Vars+(E0.ndss d.Body+D0.ndss r))) (max (D0.dpss d.Params) (max (D0.dpss d.Vars) (max (E0.dpss d.Body 1) (D0.dpss r))))
      (d.Params.all pOk&&(d.Vars.all vOk&&(D0.alls J8 d.Params&&(D0.alls J8 d.Vars&&(E0.alls J9 d.Body&&D0.alls J8 r)))))
      (D0.alls Ze d.Params&&(D0.alls Ze d.Vars&&(E0.alls Ub d.Body&&D0.alls Ze r)))
      (D0.alls Ai d.Params&&(D0.alls Ai d.Vars&&(E0.alls Eb d.Body&&D0.alls Ai r)))):=by
    intro o hr
    have q1:=hr.x0 (m:=0) (f:=d.Params.all pOk) (a:=true) (u:=true)
    have q2:=q1.x0 (m:=0) (f:=d.Vars.all vOk) (a:=true) (u:=true)
    rw [l3 o rfl hr.dep,l4 _ rfl q1.dep,i1 hs.params _ (q2.less (by omega)),ob,i2 hs.vars _ (Q5.x (q2.less (by omega))),ob,
     show (1:Int)=((1:Nat):Int) from rfl,D19 d.Body hs.body 1 _ (by unfold BB at *; omega) (Q5.x (Q5.x (q2.less (by omega)))),ob,show ((k:Int)+((1:Nat):Int))=(k:Int)+1 from rfl,w1 (by omega),ihr (k+1) _ e3 (Q5.x (Q5.x (Q5.x (q2.less (by omega)))))]
    simp only [U4,Bool.true_and,Bool.and_assoc,Nat.zero_add,Nat.zero_max,Nat.add_assoc,Nat.max_assoc]
   have hin:(if ((R3 d.Init (-1048576) 1048576)&&(!(d.TypeV.Kind != 0)))=true then V3 d.Init 0 1 else some default)=some (bif (R3 d.Init (-1048576) 1048576)&&(!(d.TypeV.Kind != 0)) then R3 d.Init 0 1 else default):=by
    rw [Ek]
    cases ((R3 d.Init (-1048576) 1048576)&&(!(d.TypeV.Kind != 0))) <;> rfl
   have j2:∀ (x2:Bool×Bool) (o:J0),x2=(isK d.Kind,uV2 d.Kind)→Q5 o (oN d.Value (uV2 d.Kind)+(D0.ndss d.Params+(D0.ndss d.Vars+(E0.ndss d.Body+D0.ndss r))))→
     Ca l o d x2 k=some (Y4 o (oN d.Value (uV2 d.Kind)+(D0.ndss d.Params+(D0.ndss d.Vars+(E0.ndss d.Body+D0.ndss r)))) (max (oD d.Value (uV2 d.Kind)) (max (D0.dpss d.Params) (max (D0.dpss d.Vars) (max (E0.dpss d.Body 1) (D0.dpss r)))))
      (oF d.Value (uV2 d.Kind)&&((bif d.Kind == 4 then true else d.Init == 0)&&((bif d.Kind == 6 then true else My d)&&(d.Params.all pOk&&(d.Vars.all vOk&&(D0.alls J8 d.Params&&(D0.alls J8 d.Vars&&(E0.alls J9 d.Body&&D0.alls J8 r))))))))
      (L9 d.Name&&(d.Value.all A7&&(D0.alls Ze d.Params&&(D0.alls Ze d.Vars&&(E0.alls Ub d.Body&&D0.alls Ze r)))))
      (d.Value.all T6&&(Ls d&&(D0.alls Ai d.Params&&(D0.alls Ai d.Vars&&(E0.alls Eb d.Body&&D0.alls Ai r)))))):=by
    rintro _ o rfl hr
    have q1:=hr.x0 (m:=0) (f:=true) (a:=L9 d.Name) (u:=true)
    have q2:=Q5.x (m:=oD d.Value (uV2 d.Kind)) (f:=oF d.Value (uV2 d.Kind)) (a:=d.Value.all A7) (u:=d.Value.all T6) q1
    have hio:(bif R3 d.Init (-1048576) 1048576 then (bif (d.TypeV.Kind != 0) then true else (bif (R3 d.Init (-1048576) 1048576)&&(!(d.TypeV.Kind != 0)) then R3 d.Init 0 1 else default)) else false)=Ls d:=by
     unfold Ls
     cases R3 d.Init (-1048576) 1048576 <;> cases (d.TypeV.Kind != 0) <;> rfl
    rw [Ca,B19 o hr.dep d.Name hs.name,ob,Q14 d.Value (uV2 d.Kind) hs.value _ (q1.less (by omega)),ob,X8 _ q2.dep,ob,Ek,ob,hin,ob,hio,Df _ (q2.x0).dep,ob,X8 _ (q2.x0.x0).dep,ob,tail _ (q2.x0.x0.x0)]
    simp only [U4,Bool.true_and,Bool.and_true,Bool.and_assoc,Nat.zero_add,Nat.add_zero,Nat.zero_max,Nat.max_zero,Nat.add_assoc,Nat.max_assoc,My]
   have hwn:(J0.mk (IntKind.i64.wrap (o.nodes+1)) o.depth o.badForm o.badName o.badNumber)=Y4 o 1 0 true true true:=by
    rw [wr (by omega) (by omega)]
    simp only [Y4,Bool.not_true,Bool.or_false]
    have:=hr.dep
    rw [show max o.depth ((0:Nat):Int)=o.depth by omega]
    rfl
   have q1:Q5 (Y4 o 1 0 true true true) (tN d.TypeV (isK d.Kind)+(oN d.Value (uV2 d.Kind)+(D0.ndss d.Params+(D0.ndss d.Vars+(E0.ndss d.Body+D0.ndss r))))):=Q5.x (hr.less (by omega))
   have q2:=q1.x0 (m:=0) (f:=isK d.Kind) (a:=true) (u:=true)
   rw [P7,e1,if_pos rfl,e2,ob,show Zk d.Kind=some (isK d.Kind,uV2 d.Kind) from rfl,ob]
   show (W0 (isK d.Kind) _>>=_)=_
   rw [hwn,X8 _ q1.dep,ob,R1f d.TypeV hs.type]
   show ((if (!(isK d.Kind))=true then some (Er d.TypeV) else some default)>>=_)=_
   cases hk:isK d.Kind with
   | true=>
    rw [hk] at q2
    have q3:=q2
    unfold tN at q3
    simp only [Bool.not_true,cond_false] at q3
    rw [if_neg (by simp),ob]
    rw [if_pos (show (bif (true,uV2 d.Kind).1 then true else !default)=true from rfl),I1c d.TypeV hs.type _ (q3.less (by omega)),ob,j2 _ _ (by rw [hk]) (Q5.x q3)]
    simp only [U4,D0.ndss,D0.dpss,D0.alls,D0.nds_eq,D0.dps_eq,D0.all_eq,J8,Ze,Ai,hk,tN,tD,Bool.not_true,cond_false,Bool.true_and,Bool.and_assoc,Nat.add_assoc,Nat.max_assoc,Nat.zero_max,Nat.zero_add]
    congr 1
    simp only [Y4]
    congr 1
    all_goals first
     | (congr 1; congr 1; ac_rfl)
     | (congr 1; congr 1)
     | skip
   | false=>
    rw [hk] at q2
    rw [if_pos (show (!false)=true from rfl),ob]
    show (if (!(Er d.TypeV))=true then _ else _)=_
    cases hz:Er d.TypeV with
    | true=>
     unfold tN at q2
     rw [hz] at q2
     simp only [Bool.not_false,cond_true,Nat.zero_add] at q2
     rw [if_neg (by simp),j2 _ _ (by rw [hk]) q2]
     have hzt:=L1k hz
     simp only [U4,D0.ndss,D0.dpss,D0.alls,D0.nds_eq,D0.dps_eq,D0.all_eq,J8,Ze,Ai,hk,tN,tD,hz,Bool.not_false,cond_true,Bool.true_and,Bool.false_and,Bool.and_assoc,Nat.add_assoc,Nat.max_assoc,Nat.zero_max,Nat.zero_add]
     rw [hzt,E19.1,E19.2]
     simp only [Bool.true_and]
     congr 1
     simp only [Y4]
     congr 1
     all_goals first
      | (congr 1; congr 1; ac_rfl)
      | (congr 1; congr 1)
      | skip
    | false=>
     have q3:=q2
     unfold tN at q3
     rw [hz] at q3
     simp only [Bool.not_false,cond_false,cond_true] at q3
     rw [if_pos (by simp),I1c d.TypeV hs.type _ (q3.less (by omega)),ob,j2 _ _ (by rw [hk]) (Q5.x q3)]
     simp only [U4,D0.ndss,D0.dpss,D0.alls,D0.nds_eq,D0.dps_eq,D0.all_eq,J8,Ze,Ai,hk,tN,tD,hz,Bool.not_false,cond_true,cond_false,Bool.true_and,Bool.false_and,Bool.and_assoc,Nat.add_assoc,Nat.max_assoc,Nat.zero_max,Nat.zero_add]
     congr 1
     simp only [Y4]
     congr 1
     all_goals first
      | (congr 1; congr 1; ac_rfl)
      | (congr 1; congr 1)
      | skip
 rw [M6]
 exact main l 0 o rfl hr
structure OkP (p:Z0):Prop where
 decls:OkD p.Decls
 body:OkS p.Body
def J12 (p:Z0):Nat:=D0.ndss p.Decls+E0.ndss p.Body
def K12 (p:Z0):Nat:=max (D0.dpss p.Decls) (E0.dpss p.Body 1)
def Bp (p:Z0):Int:=
 Ao (J12 p) (K12 p) (!(D0.alls J8 p.Decls&&E0.alls J9 p.Body)) (!(D0.alls Ze p.Decls&&E0.alls Ub p.Body)) (!(D0.alls Ai p.Decls&&E0.alls Eb p.Body))
theorem V1f (p:Z0)(h:OkP p):Ui p=some (Y4 ⟨0,0,false,false,false⟩ (J12 p) (K12 p) (D0.alls J8 p.Decls&&E0.alls J9 p.Body) (D0.alls Ze p.Decls&&E0.alls Ub p.Body) (D0.alls Ai p.Decls&&E0.alls Eb p.Body)):=by
 have h1:=D0.ndss_bulk p.Decls
 have h2:=E0.ndss_bulk p.Body
 have h3:D0.bulks p.Decls≤BB:=h.decls
 have h4:E0.bulks p.Body≤BB:=h.body
 have hr:Q5 ⟨0,0,false,false,false⟩ (D0.ndss p.Decls+E0.ndss p.Body):=⟨Int.le_refl _,Int.le_refl _,by simp only; omega⟩
 unfold Ui
 rw [C1i p.Decls h.decls _ (hr.less (by omega)),ob,show (1:Int)=((1:Nat):Int) from rfl,D19 p.Body h.body 1 _ (by unfold BB at *; omega) (Q5.x hr),ob,U4]
 rfl
theorem D1i (n m:Nat)(f a u:Bool):C6 (Y4 ⟨0,0,false,false,false⟩ n m f a u)=some (Ao n m (!f) (!a) (!u)):=by
 rw [E1k]
 simp only [Y4,Bool.false_or]
 rw [show (0:Int)+(n:Int)=n by omega,show max (0:Int) (m:Int)=m by omega]
theorem K1c (p:Z0)(h:OkP p):Ql p=some (Bp p):=by
 unfold Ql
 rw [V1f p h,ob,D1i,ob]
 rfl
end Go.Proofs.YtmnhfbekncjnfaaGreatDoor

set_option linter.unusedSimpArgs false
set_option linter.unusedVariables false
set_option maxHeartbeats 1000000
namespace Go.Proofs.YtmnhfbekncjnfaaGreatDoor
open Go.Am
theorem ifs {b c:Bool}{X:Option Bool}{y:Bool}(h:b = !c)(hx:X=some y):(if b=true then some false else X)=some (c&&y):=by
 subst h
 rw [hx]
 cases c <;> rfl
theorem ifd (c a:Bool):(if c=true then some a else some default)=some (bif c then a else default):=by cases c <;> rfl
theorem rUP (v:Int):Bl v=some (uPl v):=rfl
theorem rUV (v:Int):Cl v=some (uVa v):=rfl
theorem rUN (v:Int):Jq v=some (uNm v):=rfl
theorem J1p (v:Int):O13 v=some (uNn v):=rfl
theorem rUT (v:Int):Hy v=some (uTh v):=rfl
theorem rDT (k:Int):Iq k=some (isK k):=rfl
theorem rDV (k:Int):Al k=some (uV2 k):=rfl
def szX (s:T0)(n m:Nat):T0:=⟨s.nodes+n,max s.depth m⟩
theorem Ew (s:T0)(n m n' m':Nat):szX (szX s n m) n' m'=szX s (n+n') (max m m'):=by
 simp only [szX]
 rw [show s.nodes+(n:Int)+(n':Int)=s.nodes+((n+n':Nat):Int) by omega,show max (max s.depth (m:Int)) (m':Int)=max s.depth ((max m m':Nat):Int) by omega]
structure K7 (s:T0)(n:Nat):Prop where
 dep:0≤s.depth
 low:0≤s.nodes
 high:s.nodes+n≤3 * BB
theorem K7.x {s:T0}{n k m:Nat}(h:K7 s (k+n)):K7 (szX s k m) n:=by
 obtain ⟨h1,h2,h3⟩:=h
 refine ⟨?_,?_,?_⟩ <;> simp only [szX] <;> omega
theorem K7.less {s:T0}{n k:Nat}(h:K7 s n)(hk:k≤n):K7 s k:=⟨h.dep,h.low,by have:=h.high; omega⟩
theorem Dv (s:T0)(h:0≤s.depth):szX s 0 0=s:=by
 simp only [szX]
 rw [show s.nodes+((0:Nat):Int)=s.nodes by omega,show max s.depth ((0:Nat):Int)=s.depth by omega]
theorem Oz (s:T0)(e:A0)(u:Bool)(h:OkE e)(hr:K7 s (oN e u)):Be s e u=some (szX s (oN e u) (oD e u)):=by
 have hn:=h.nodes
 have hh:=hr.high
 have hl:=hr.low
 unfold Be
 rw [Dw e h,ifd,ob,P1f e h,Q1f e h]
 unfold oN oD at *
 cases u with
 | true=>
  simp only [Bool.not_true,cond_false] at *
  unfold BB at hh hn
  rw [if_neg (by simp),ob,ob,Ks,ob,wr (n:=s.nodes+(e.nodes:Int)) (by omega) (by omega)]
  rfl
 | false=>
  simp only [Bool.not_false,cond_true] at *
  cases hz:Zh e with
  | true=>rw [if_pos rfl]; exact congrArg some (Dv s hr.dep).symm
  | false=>
   rw [hz] at hh
   simp only [cond_false] at hh
   unfold BB at hh hn
   rw [if_neg (by simp),ob,ob,Ks,ob,wr (n:=s.nodes+(e.nodes:Int)) (by omega) (by omega)]
   rfl
theorem M1k (s:T0)(t:F0)(u:Bool)(h:Ok t)(hr:K7 s (tN t u)):Xs s t u=some (szX s (tN t u) (tD t u)):=by
 have hn:=h.nodes
 have hh:=hr.high
 have hl:=hr.low
 unfold Xs
 rw [Z1h t h,ifd,ob,S1h t h,T1h t h]
 unfold tN tD at *
 cases u with
 | true=>
  simp only [Bool.not_true,cond_false] at *
  unfold BB at hh hn
  rw [if_neg (by simp),ob,ob,Ks,ob,wr (n:=s.nodes+(t.nodes:Int)) (by omega) (by omega)]
  rfl
 | false=>
  simp only [Bool.not_false,cond_true] at *
  cases hz:Er t with
  | true=>rw [if_pos rfl]; exact congrArg some (Dv s hr.dep).symm
  | false=>
   rw [hz] at hh
   simp only [cond_false] at hh
   unfold BB at hh hn
   rw [if_neg (by simp),ob,ob,Ks,ob,wr (n:=s.nodes+(t.nodes:Int)) (by omega) (by omega)]
   rfl
theorem L1n (s:T0)(hr:K7 s 1)(d:Nat):Wb ⟨IntKind.i64.wrap (s.nodes+1),s.depth⟩ (d:Int)=some (szX s 1 d):=by
 have hh:=hr.high
 have hl:=hr.low
 unfold BB at hh
 rw [Ks,wr (n:=s.nodes+1) (by omega) (by omega)]
 rfl
theorem T17 (e:A0):oN e true=e.nodes∧oD e true=e.depth:=⟨rfl,rfl⟩
theorem F19 (s:E0)(hs:Nz s)(K:T0→Option T0)(F:T0→Int→Option T0)
  (hF:∀ (o:T0) (k:Int),F o k=if decide (k < (s.Args.length:Int))=true then idx s.Args k>>=fun x=>Be o x true>>=fun y=>F y (IntKind.i64.wrap (k+1)) else K o) :
  ∀ (r:List A0) (k:Nat) (o:T0),s.Args.drop k=r→K7 o (A0.nodess r)→F o (k:Int)=K (szX o (A0.nodess r) (A0.depths r))
 | [],k,o,h,hr=>by
  rw [hF,(L2 h).1,if_neg (by simp)]
  simp only [A0.nodess,A0.depths]
  rw [Dv o hr.dep]
 | x::r,k,o,h,hr=>by
  obtain ⟨e1,e2,e3,e4,e5⟩:=J3 h
  have:=hs.args
  simp only [A0.nodess] at hr
  rw [hF,e1,if_pos rfl,e2,ob,Oz o x true (hs.arg x e5) (hr.less (by rw [(T17 x).1]; omega)),ob,(T17 x).1,(T17 x).2,w1 (by omega),F19 s hs K F hF r (k+1) _ e3 hr.x,Ew]
  rfl
theorem L12 (l:List E0):OkS l→∀ (d:Nat) (o:T0),d+E0.bulks l≤3 * BB→K7 o (E0.ndss l)→Jf o l d=some (szX o (E0.ndss l) (E0.dpss l d)):=by
 induction l using E0.inds with
 | h l ih=>
 intro hl d o hd hr
 have main:∀ (r:List E0) (k:Nat) (o:T0),l.drop k=r→K7 o (E0.ndss r)→Ge l d o k=some (szX o (E0.ndss r) (E0.dpss r d)):=by
  intro r
  induction r with
  | nil=>
   intro k o h hr
   rw [Ge,(L2 h).1,if_neg (by simp)]
   exact congrArg some (Dv o hr.dep).symm
  | cons s r ihr=>
   intro k o h hr
   obtain ⟨e1,e2,e3,e4,e5⟩:=J3 h
   have hs:=hl.mem e5
   have hlen:=hl.len
   obtain ⟨i1,i2⟩:=ih s e5
   have hbm:=E0.bulk_mem e5
   have hbe:=E0.bulk_eq s
   simp only [E0.ndss,E0.nds_eq] at hr
   unfold BB at hd
   have hwd:IntKind.i64.wrap ((d:Int)+1)=((d+1:Nat):Int):=by rw [wr (by omega) (by omega)]; rfl
   have args:=F19 s hs _ (fun o k'=>Xh l d o s k k') (fun o k'=>Xh.eq_1 l d o s k k') s.Args 0
   rw [show ((0:Nat):Int)=0 from rfl] at args
   have q1:K7 (szX o 1 d) (oN s.Place (uPl s.Verb)+(oN s.Value (uVa s.Verb)+(A0.nodess s.Args+(E0.ndss s.Then+(E0.ndss s.Else+E0.ndss r))))):=K7.x (hr.less (by omega))
   have q2:=K7.x (m:=oD s.Place (uPl s.Verb)) q1
   have q3:=K7.x (m:=oD s.Value (uVa s.Verb)) q2
   have q4:=K7.x (m:=A0.depths s.Args) q3
   have q5:=K7.x (m:=E0.dpss s.Then (d+1)) q4
   have q6:=K7.x (m:=E0.dpss s.Else (d+1)) q5
   rw [Ge,e1,if_pos rfl,e2,ob,L1n o (hr.less (by omega)) d,ob,rUP,ob,Oz _ s.Place _ hs.place (q1.less (by omega)),ob,rUV,ob,Oz _ s.Value _ hs.value (q2.less (by omega)),ob,
    args _ rfl (q3.less (by omega)),hwd,i1 hs.thens (d+1) _ (by unfold BB; omega) (q4.less (by omega)),ob,i2 hs.elses (d+1) _ (by unfold BB; omega) (q5.less (by omega)),ob,w1 (by omega),ihr (k+1) _ e3 q6]
   simp only [Ew,E0.ndss,E0.dpss,E0.nds_eq,E0.dps_eq,Nat.add_assoc,Nat.max_assoc]
 rw [Jf]
 exact main l 0 o rfl hr
theorem L1c (l:List D0):OkD l→∀ (o:T0),K7 o (D0.ndss l)→Yi o l=some (szX o (D0.ndss l) (D0.dpss l)):=by
 induction l using D0.inds with
 | h l ih=>
 intro hl o hr
 have main:∀ (r:List D0) (k:Nat) (o:T0),l.drop k=r→K7 o (D0.ndss r)→He l o k=some (szX o (D0.ndss r) (D0.dpss r)):=by
  intro r
  induction r with
  | nil=>
   intro k o h hr
   rw [He,(L2 h).1,if_neg (by simp)]
   exact congrArg some (Dv o hr.dep).symm
  | cons s r ihr=>
   intro k o h hr
   obtain ⟨e1,e2,e3,e4,e5⟩:=J3 h
   have hs:=hl.mem e5
   have hlen:=hl.len
   obtain ⟨i1,i2⟩:=ih s e5
   have hbB:E0.bulks s.Body≤BB:=hs.body
   simp only [D0.ndss,D0.nds_eq] at hr
   have hh:=hr.high
   have hlo:=hr.low
   have hw:(T0.mk (IntKind.i64.wrap (o.nodes+1)) o.depth)=szX o 1 0:=by
    unfold BB at hh
    rw [wr (by omega) (by omega)]
    have:=hr.dep
    simp only [szX]
    rw [show max o.depth ((0:Nat):Int)=o.depth by omega]
    rfl
   have q1:K7 (szX o 1 0) (tN s.TypeV (isK s.Kind)+(oN s.Value (uV2 s.Kind)+(D0.ndss s.Params+(D0.ndss s.Vars+(E0.ndss s.Body+D0.ndss r))))):=K7.x (hr.less (by omega))
   have q2:=K7.x (m:=tD s.TypeV (isK s.Kind)) q1
   have q3:=K7.x (m:=oD s.Value (uV2 s.Kind)) q2
   have q4:=K7.x (m:=D0.dpss s.Params) q3
   have q5:=K7.x (m:=D0.dpss s.Vars) q4
   have q6:=K7.x (m:=E0.dpss s.Body 1) q5
   rw [He,e1,if_pos rfl,e2,ob,rDT,ob,hw,M1k _ s.TypeV _ hs.type (q1.less (by omega)),ob,rDV,ob,Oz _ s.Value _ hs.value (q2.less (by omega)),ob,i1 hs.params _ (q3.less (by omega)),ob,i2 hs.vars _ (q4.less (by omega)),ob,
    show (1:Int)=((1:Nat):Int) from rfl,L12 s.Body hs.body 1 _ (by unfold BB at *; omega) (q5.less (by omega)),ob,show ((k:Int)+((1:Nat):Int))=(k:Int)+1 from rfl,w1 (by omega),ihr (k+1) _ e3 q6]
   simp only [Ew,D0.ndss,D0.dpss,D0.nds_eq,D0.dps_eq,Nat.add_assoc,Nat.max_assoc,Nat.zero_max]
 rw [Yi]
 exact main l 0 o rfl hr
theorem W1f (s:E0)(hs:Nz s)(p:A0→Bool)(g:A0→Option Bool)(hg:∀ x∈s.Args,g x=some (x.all p))(K:Option Bool)(F:Int→Option Bool)(y:Bool)(hK:K=some y)
  (hF:∀ k:Int,F k=if decide (k < (s.Args.length:Int))=true then idx s.Args k>>=fun x=>g x>>=fun b=>if (!b)=true then some false else F (IntKind.i64.wrap (k+1)) else K) :
  ∀ (r:List A0) (k:Nat),s.Args.drop k=r→F (k:Int)=some (A0.alls p r&&y)
 | [],k,h=>by rw [hF,(L2 h).1,if_neg (by simp),hK]; rfl
 | x::r,k,h=>by
  obtain ⟨e1,e2,e3,e4,e5⟩:=J3 h
  have:=hs.args
  rw [hF,e1,if_pos rfl,e2,ob,hg x e5,ob,w1 (by omega),W1f s hs p g hg K F y hK hF r (k+1) e3,A0.alls]
  cases x.all p <;> simp
theorem E10 (l:List E0):OkS l→Vd l=some (E0.alls J9 l):=by
 induction l using E0.inds with
 | h l ih=>
 intro hl
 have main:∀ (r:List E0) (k:Nat),l.drop k=r→Od l k=some (E0.alls J9 r):=by
  intro r
  induction r with
  | nil=>intro k h; rw [Od,(L2 h).1,if_neg (by simp)]; rfl
  | cons s r ihr=>
   intro k h
   obtain ⟨e1,e2,e3,e4,e5⟩:=J3 h
   have hs:=hl.mem e5
   have hlen:=hl.len
   obtain ⟨i1,i2⟩:=ih s e5
   have l2:=W1f s hs I6 D9 (fun x hx=>Cw x (hs.arg x hx)) _ (fun k'=>Eh l s k k') (E0.alls J9 s.Then&&E0.alls J9 s.Else&&E0.alls J9 r)
    (by
     rw [i1 hs.thens,ob,i2 hs.elses,ifd,ob,w1 (by omega),ihr (k+1) e3]
     cases E0.alls J9 s.Then <;> cases E0.alls J9 s.Else <;> simp)
    (fun k'=>Eh.eq_1 l s k k') s.Args 0 rfl
   rw [show ((0:Nat):Int)=0 from rfl] at l2
   rw [Od,e1,if_pos rfl,e2,ob]
   simp only [rUP,rUV,rUN,J1p,rUT,W18,Cw _ hs.place,Cw _ hs.value,Dw _ hs.place,Dw _ hs.value,ifd,ob]
   have:=ifs (b:=bif decide (s.Verb < 0) then true else decide (s.Verb > 8)) (c:=okV s.Verb) (by unfold okV; rw [Bool.not_not])
    (ifs (c:=oF s.Place (uPl s.Verb)&&(bif uPl s.Verb then s.Place.place else true)) (b:=bif (bif uPl s.Verb then (bif (!(bif uPl s.Verb then s.Place.place else default)) then true else (!(bif (uPl s.Verb&&(!(!(bif uPl s.Verb then s.Place.place else default)))) then s.Place.all I6 else default))) else false) then true else (bif (!(bif (!(bif uPl s.Verb then (bif (!(bif uPl s.Verb then s.Place.place else default)) then true else (!(bif (uPl s.Verb&&(!(!(bif uPl s.Verb then s.Place.place else default)))) then s.Place.all I6 else default))) else false)) then uPl s.Verb else default)) then (!(bif ((!(bif uPl s.Verb then (bif (!(bif uPl s.Verb then s.Place.place else default)) then true else (!(bif (uPl s.Verb&&(!(!(bif uPl s.Verb then s.Place.place else default)))) then s.Place.all I6 else default))) else false))&&(!(bif (!(bif uPl s.Verb then (bif (!(bif uPl s.Verb then s.Place.place else default)) then true else (!(bif (uPl s.Verb&&(!(!(bif uPl s.Verb then s.Place.place else default)))) then s.Place.all I6 else default))) else false)) then uPl s.Verb else default))) then Zh s.Place else default)) else false))
     (by unfold oF; cases uPl s.Verb <;> cases s.Place.place <;> cases s.Place.all I6 <;> cases Zh s.Place <;> rfl)
    (ifs (c:=oF s.Value (uVa s.Verb)) (b:=bif (bif uVa s.Verb then (!(bif uVa s.Verb then s.Value.all I6 else default)) else false) then true else (bif (!(bif (!(bif uVa s.Verb then (!(bif uVa s.Verb then s.Value.all I6 else default)) else false)) then uVa s.Verb else default)) then (!(bif ((!(bif uVa s.Verb then (!(bif uVa s.Verb then s.Value.all I6 else default)) else false))&&(!(bif (!(bif uVa s.Verb then (!(bif uVa s.Verb then s.Value.all I6 else default)) else false)) then uVa s.Verb else default))) then Zh s.Value else default)) else false))
     (by unfold oF; cases uVa s.Verb <;> cases s.Value.all I6 <;> cases Zh s.Value <;> rfl)
    (ifs (c:=(bif uNm s.Verb then true else s.Name == [])&&(bif s.Verb == 1 then true else ((s.Args.length:Int) == 0))&&(bif uNn s.Verb then true else s.NV == 0)&&(bif s.Verb == 7 then true else (bif s.Low == 0 then s.High == 0 else false))&&(bif s.Verb == 8 then true else ((s.Numbers.length:Int) == 0)))
     (b:=bif (bif (bif (bif (bif (!(uNm s.Verb)) then (!(s.Name == [])) else false) then true else (bif (s.Verb != 1) then (((s.Args).length:Int) != 0) else false)) then true else (bif (!(bif (!(bif (bif (!(uNm s.Verb)) then (!(s.Name == [])) else false) then true else (bif (s.Verb != 1) then (((s.Args).length:Int) != 0) else false))) then uNn s.Verb else default)) then (s.NV != 0) else false)) then true else (bif (s.Verb != 7) then (bif (s.Low != 0) then true else (s.High != 0)) else false)) then true else (bif (s.Verb != 8) then (((s.Numbers).length:Int) != 0) else false))
     (by
      unfold bne
      generalize (s.Verb == 1)=a1; generalize (s.Verb == 7)=a2; generalize (s.Verb == 8)=a3; generalize (s.Name == [])=a4; generalize ((s.Args.length:Int) == 0)=a5; generalize (s.NV == 0)=a6; generalize (s.Low == 0)=a7; generalize (s.High == 0)=a8
      generalize ((s.Numbers.length:Int) == 0)=a9; generalize uNm s.Verb=b1; generalize uNn s.Verb=b2
      cases b1 <;> cases a4 <;> cases a1 <;> cases a5 <;> cases b2 <;> cases a6 <;> first | rfl | (cases a2 <;> cases a7 <;> cases a8 <;> cases a3 <;> cases a9 <;> rfl))
    (ifs (c:=(bif uTh s.Verb then true else ((s.Then.length:Int) == 0))&&(bif s.Verb == 5 then true else ((s.Else.length:Int) == 0))) (b:=bif (bif (!(uTh s.Verb)) then (((s.Then).length:Int) != 0) else false) then true else (bif (s.Verb != 5) then (((s.Else).length:Int) != 0) else false))
     (by
      unfold bne
      generalize (s.Verb == 5)=a1; generalize ((s.Then.length:Int) == 0)=a2; generalize ((s.Else.length:Int) == 0)=a3
      generalize uTh s.Verb=a0
      cases a0 <;> cases a1 <;> cases a2 <;> cases a3 <;> rfl) l2))))
   refine this.trans ?_
   simp only [E0.alls,E0.all_eq,J9,Bool.and_assoc]
   congr 1
   generalize A0.alls I6 s.Args=x
   generalize (bif s.Verb == 1 then true else ((s.Args.length:Int) == 0))=y
   ac_rfl
 rw [Vd]
 exact main l 0 rfl
end Go.Proofs.YtmnhfbekncjnfaaGreatDoor

set_option linter.unusedSimpArgs false
set_option linter.unusedVariables false
set_option maxHeartbeats 1000000
namespace Go.Proofs.YtmnhfbekncjnfaaGreatDoor
open Go.Am
theorem M1c (c:List D0)(hc:c.length≤BB)(q:D0→Bool)(K:Option Bool)(F:Int→Option Bool)(y:Bool)(hK:K=some y)
  (hF:∀ (r:List D0) (k:Nat) (x:D0),c.drop k=x::r→F (k:Int)=if q x=true then F (IntKind.i64.wrap ((k:Int)+1)) else some false) (hE:∀ k:Nat,c.drop k=[]→F (k:Int)=K) :
  ∀ (r:List D0) (k:Nat),c.drop k=r→F (k:Int)=some (r.all q&&y)
 | [],k,h=>by rw [hE k h,hK]; rfl
 | x::r,k,h=>by
  obtain ⟨e1,e2,e3,e4,e5⟩:=J3 h
  rw [hF r k x h,w1 (by omega),M1c c hc q K F y hK hF hE r (k+1) e3,List.all_cons]
  cases q x <;> simp
theorem W19 (l:List D0):OkD l→Fh l=some (D0.alls J8 l):=by
 induction l using D0.inds with
 | h l ih=>
 intro hl
 have main:∀ (r:List D0) (k:Nat),l.drop k=r→Pd l k=some (D0.alls J8 r):=by
  intro r
  induction r with
  | nil=>intro k h; rw [Pd,(L2 h).1,if_neg (by simp)]; rfl
  | cons d r ihr=>
   intro k h
   obtain ⟨e1,e2,e3,e4,e5⟩:=J3 h
   have hs:=hl.mem e5
   have hlen:=hl.len
   obtain ⟨i1,i2⟩:=ih d e5
   have l3:=M1c d.Vars hs.vars.len vOk _ (fun k'=>V8 l d k k') (D0.alls J8 d.Params&&D0.alls J8 d.Vars&&E0.alls J9 d.Body&&D0.alls J8 r) rfl
    (fun r' k' x hx=>by
     obtain ⟨f1,f2,f3,f4,f5⟩:=J3 hx
     show V8 l d k k'=_
     rw [V8,f1,if_pos rfl,f2,ob]
     unfold vOk bne
     cases (x.Kind == 4) <;> rfl)
    (fun k' hx=>by
     show V8 l d k k'=_
     rw [V8,(L2 hx).1,if_neg (by simp),i1 hs.params,ob,i2 hs.vars,ifd,ob,E10 d.Body hs.body,ifd,ob,w1 (by omega),ihr (k+1) e3]
     cases D0.alls J8 d.Params <;> cases D0.alls J8 d.Vars <;> cases E0.alls J9 d.Body <;> simp) d.Vars 0 rfl
   have l2:=M1c d.Params hs.params.len pOk _ (fun k'=>U8 l d k k') (d.Vars.all vOk&&(D0.alls J8 d.Params&&D0.alls J8 d.Vars&&E0.alls J9 d.Body&&D0.alls J8 r)) rfl
    (fun r' k' x hx=>by
     obtain ⟨f1,f2,f3,f4,f5⟩:=J3 hx
     show U8 l d k k'=_
     rw [U8,f1,if_pos rfl,f2,ob]
     unfold pOk bne
     cases (x.Kind == 4)
     ·rfl
     ·simp only [Bool.not_true,Bool.not_false,if_true,ob,cond_true,cond_false]
      cases (x.Init == 0) <;> rfl)
    (fun k' hx=>by
     show U8 l d k k'=_
     rw [U8,(L2 hx).1,if_neg (by simp)]
     exact l3) d.Params 0 rfl
   rw [show ((0:Nat):Int)=0 from rfl] at l2
   rw [Pd,e1,if_pos rfl,e2,ob]
   simp only [rDT,rDV,F1k _ hs.type,Cw _ hs.value,Dw _ hs.value,ifd,ob]
   have:=ifs (b:=bif (!(isK d.Kind)) then true else (!(bif (!(!(isK d.Kind))) then d.TypeV.all Tb else default))) (c:=isK d.Kind&&d.TypeV.all Tb) (by cases isK d.Kind <;> cases d.TypeV.all Tb <;> rfl)
    (ifs (c:=oF d.Value (uV2 d.Kind)&&(bif d.Kind == 4 then true else d.Init == 0)) (b:=bif (bif (bif uV2 d.Kind then (!(bif uV2 d.Kind then d.Value.all I6 else default)) else false) then true else (bif (!(bif (!(bif uV2 d.Kind then (!(bif uV2 d.Kind then d.Value.all I6 else default)) else false)) then uV2 d.Kind else default)) then (!(bif ((!(bif uV2 d.Kind then (!(bif uV2 d.Kind then d.Value.all I6 else default)) else false))&&(!(bif (!(bif uV2 d.Kind then (!(bif uV2 d.Kind then d.Value.all I6 else default)) else false)) then uV2 d.Kind else default))) then Zh d.Value else default)) else false)) then true else (bif (d.Kind != 4) then (d.Init != 0) else false))
     (by
      unfold oF bne
      generalize (d.Kind == 4)=a1
      generalize (d.Init == 0)=a2
      generalize uV2 d.Kind=a3
      cases a3 <;> cases d.Value.all I6 <;> cases Zh d.Value <;> cases a1 <;> cases a2 <;> rfl)
    (ifs (c:=bif d.Kind == 6 then true else My d) (b:=bif (d.Kind != 6) then (bif (bif (((d.Params).length:Int) != 0) then true else (((d.Vars).length:Int) != 0)) then true else (((d.Body).length:Int) != 0)) else false)
     (by
      unfold My bne
      cases (d.Kind == 6) <;> cases ((d.Params.length:Int) == 0) <;> cases ((d.Vars.length:Int) == 0) <;> cases ((d.Body.length:Int) == 0) <;> rfl) l2))
   refine this.trans ?_
   simp only [D0.alls,D0.all_eq,J8,Bool.and_assoc]
   congr 1
   ac_rfl
 rw [Fh]
 exact main l 0 rfl
theorem E1i (s:E0)(hs:Nz s)(p:A0→Bool)(g:A0→Option Bool)(hg:∀ x∈s.Args,g x=some (x.all p))(K:Option Bool)(F:Int→Option Bool)(y:Bool)(hK:K=some y)
  (hF:∀ k:Int,F k=if decide (k < (s.Args.length:Int))=true then idx s.Args k>>=fun x=>g x>>=fun b=>if (!b)=true then some false else F (IntKind.i64.wrap (k+1)) else K):F 0=some (A0.alls p s.Args&&y):=
 W1f s hs p g hg K F y hK hF s.Args 0 rfl
theorem Ny (l:List E0):OkS l→Tc l=some (E0.alls Ub l):=by
 induction l using E0.inds with
 | h l ih=>
 intro hl
 have main:∀ (r:List E0) (k:Nat),l.drop k=r→Kc l k=some (E0.alls Ub r):=by
  intro r
  induction r with
  | nil=>intro k h; rw [Kc,(L2 h).1,if_neg (by simp)]; rfl
  | cons s r ihr=>
   intro k h
   obtain ⟨e1,e2,e3,e4,e5⟩:=J3 h
   have hs:=hl.mem e5
   have hlen:=hl.len
   obtain ⟨i1,i2⟩:=ih s e5
   have l2:=E1i s hs A7 A8 (fun x hx=>Wt x (hs.arg x hx)) _ (fun k'=>Jg l s k k') (E0.alls Ub r) (by rw [w1 (by omega),ihr (k+1) e3]) (fun k'=>Jg.eq_1 l s k k')
   rw [Kc,e1,if_pos rfl,e2,ob]
   simp only [rUN,Wl _ hs.name,Wt _ hs.place,Wt _ hs.value,i1 hs.thens,i2 hs.elses,ifd,ob,l2]
   simp only [E0.alls,E0.all_eq,Ub]
   generalize uNm s.Verb=a1
   generalize L9 s.Name=a2
   generalize s.Place.all A7=a3
   generalize s.Value.all A7=a4
   generalize E0.alls Ub s.Then=a5
   generalize E0.alls Ub s.Else=a6
   cases a1 <;> cases a2 <;> cases a3 <;> cases a4 <;> cases a5 <;> cases a6 <;> simp
 rw [Tc]
 exact main l 0 rfl
theorem U17 (l:List D0):OkD l→Zf l=some (D0.alls Ze l):=by
 induction l using D0.inds with
 | h l ih=>
 intro hl
 have main:∀ (r:List D0) (k:Nat),l.drop k=r→Lc l k=some (D0.alls Ze r):=by
  intro r
  induction r with
  | nil=>intro k h; rw [Lc,(L2 h).1,if_neg (by simp)]; rfl
  | cons d r ihr=>
   intro k h
   obtain ⟨e1,e2,e3,e4,e5⟩:=J3 h
   have hs:=hl.mem e5
   have hlen:=hl.len
   obtain ⟨i1,i2⟩:=ih d e5
   rw [Lc,e1,if_pos rfl,e2,ob]
   simp only [Wl _ hs.name,U1h _ hs.type,Wt _ hs.value,i1 hs.params,i2 hs.vars,Ny _ hs.body,ifd,ob,w1 (show k≤BB by omega),ihr (k+1) e3]
   simp only [D0.alls,D0.all_eq,Ze]
   generalize L9 d.Name=a2
   generalize d.TypeV.all El=a3
   generalize d.Value.all A7=a4
   generalize D0.alls Ze d.Params=a5
   generalize D0.alls Ze d.Vars=a6
   generalize E0.alls Ub d.Body=a1
   cases a1 <;> cases a2 <;> cases a3 <;> cases a4 <;> cases a5 <;> cases a6 <;> simp
 rw [Zf]
 exact main l 0 rfl
theorem X1f (x:Int):R3 x 0 1048576=(bif decide (x < 0) then false else !decide (x > 1048576)):=by
 unfold R3
 rw [Kz,Lz]
 cases decide (x≥0) <;> cases decide (x≤1048576) <;> rfl
theorem F1i (s:E0)(hs:Nz s):∀ (r:List Int) (k:Nat) (last:Int),s.Numbers.drop k=r→(k=0∧last = -1∨0 < k∧idx s.Numbers ((k - 1:Nat):Int)=some last)→Pb s k=some (Xo last r)
 | [],k,last,h,h0=>by rw [Pb,(L2 h).1,if_neg (by simp)]; rfl
 | x::r,k,last,h,h0=>by
  obtain ⟨e1,e2,e3,e4,e5⟩:=J3 h
  have hnl:=hs.nums
  have ih:=F1i s hs r (k+1) x e3 (.inr ⟨by omega,e2⟩)
  unfold BB at hnl
  rw [show Xo last (x::r)=((bif R3 x 0 1048576 then decide (x > last) else false)&&Xo x r) from rfl,X1f,Pb,e1,if_pos rfl,e2,ob,w1 (by unfold BB; omega),ih]
  by_cases hx:x < 0
  ·rw [decide_eq_true hx]; rfl
  ·rw [decide_eq_false hx,if_pos (show (!false)=true from rfl),ob]
   cases hB:decide (x > 1048576) with
   | true=>rfl
   | false=>
    rcases h0 with ⟨rfl,rfl⟩ | ⟨hk,hl⟩
    ·have hk:decide (((0:Nat):Int) > 0)=false:=by decide
     rw [hk,decide_eq_true (show x > -1 by omega)]
     cases Xo x r <;> rfl
    ·have hk':decide ((k:Int) > 0)=true:=decide_eq_true (by omega)
     have hw:IntKind.i64.wrap ((k:Int) - 1)=((k - 1:Nat):Int):=by rw [wr (by omega) (by omega)]; omega
     have hd:decide (x≤last) = !decide (x > last):=by rw [← decide_not]; exact decide_eq_decide.2 (by omega)
     rw [hk',hw,hl]
     show (if decide (x≤last)=true then some false else some (Xo x r))=some (decide (x > last)&&Xo x r)
     rw [hd]
     cases decide (x > last) <;> cases Xo x r <;> rfl
theorem N1k (s:E0)(hs:Nz s):Om s=some (Yo s):=by
 unfold Om Yo
 cases s.Verb == 4 with
 | true=>rw [if_pos rfl]; rfl
 | false=>
  rw [if_neg (by simp)]
  cases s.Verb == 6 with
  | true=>rw [if_pos rfl]; rfl
  | false=>
   rw [if_neg (by simp)]
   cases s.Verb == 7 with
   | true=>
    rw [if_pos rfl,Bw,ob,Bw,ifd,ob]
    show some _=some (bif (bif R3 s.Low (-1048576) 1048576 then R3 s.High s.Low 1048576 else false) then decide (s.High - s.Low < 4096) else false)
    congr 1
    by_cases hb:(-1048576≤s.Low∧s.Low≤1048576)∧(-1048576≤s.High∧s.High≤1048576)
    ·obtain ⟨⟨b1,b2⟩,b3,b4⟩:=hb
     rw [wr (n:=s.High - s.Low) (by omega) (by omega),wr (n:=s.High - s.Low+1) (by omega) (by omega)]
     unfold Jh R3
     rw [decide_eq_true (show s.Low≥-1048576 from b1),decide_eq_true b2,decide_eq_true (show s.High≥-1048576 from b3),decide_eq_true b4]
     simp only [cond_true]
     have e:decide (s.High - s.Low+1≤4096)=decide (s.High - s.Low < 4096):=decide_eq_decide.2 (by omega)
     rw [e]
     show (bif decide (s.Low≤s.High) then decide (s.High - s.Low < 4096) else false)=(bif (bif decide (s.Low≤s.High) then true else false) then decide (s.High - s.Low < 4096) else false)
     cases decide (s.Low≤s.High) <;> rfl
    ·unfold Jh R3
     by_cases h1 : -1048576≤s.Low∧s.Low≤1048576
     ·obtain ⟨b1,b2⟩:=h1
      rw [decide_eq_true (show s.Low≥-1048576 from b1),decide_eq_true b2]
      simp only [cond_true]
      by_cases h2:s.High≤1048576
      ·have h3:¬ s.High≥-1048576:=fun h=>hb ⟨⟨b1,b2⟩,h,h2⟩
       rw [decide_eq_false h3,decide_eq_false (show ¬ s.High≥s.Low by omega)]
       rfl
      ·rw [decide_eq_false h2]
       cases decide (s.High≥-1048576) <;> cases decide (s.High≥s.Low) <;> rfl
     ·have:(bif decide (s.Low≥-1048576) then decide (s.Low≤1048576) else false)=false:=by
       by_cases h2 : -1048576≤s.Low
       ·rw [decide_eq_true (show s.Low≥-1048576 from h2),decide_eq_false (fun h=>h1 ⟨h2,h⟩)]; rfl
       ·rw [decide_eq_false (show ¬ s.Low≥-1048576 from h2)]; rfl
      rw [this]
      rfl
   | false=>
    rw [if_neg (by simp)]
    cases s.Verb == 8 with
    | true=>
     have:=F1i s hs s.Numbers 0 (-1) rfl (.inl ⟨rfl,rfl⟩)
     rw [show ((0:Nat):Int)=0 from rfl] at this
     rw [if_pos rfl,this,Kz,Lz]
     show _=some (R3 (s.Numbers.length:Int) 1 32&&Xo (-1) s.Numbers)
     unfold R3
     cases decide ((s.Numbers.length:Int)≥1) <;> cases decide ((s.Numbers.length:Int)≤32) <;> simp
    | false=>rfl
theorem Ev (l:List E0):OkS l→Xa l=some (E0.alls Eb l):=by
 induction l using E0.inds with
 | h l ih=>
 intro hl
 have main:∀ (r:List E0) (k:Nat),l.drop k=r→Ya l k=some (E0.alls Eb r):=by
  intro r
  induction r with
  | nil=>intro k h; rw [Ya,(L2 h).1,if_neg (by simp)]; rfl
  | cons s r ihr=>
   intro k h
   obtain ⟨e1,e2,e3,e4,e5⟩:=J3 h
   have hs:=hl.mem e5
   have hlen:=hl.len
   obtain ⟨i1,i2⟩:=ih s e5
   have l2:=E1i s hs T6 P6 (fun x hx=>Wo x (hs.arg x hx)) _ (fun k'=>Wd l s k k') (E0.alls Eb r) (by rw [w1 (by omega),ihr (k+1) e3]) (fun k'=>Wd.eq_1 l s k k')
   rw [Ya,e1,if_pos rfl,e2,ob]
   simp only [N1k s hs,Wo _ hs.place,Wo _ hs.value,i1 hs.thens,i2 hs.elses,ifd,ob,l2]
   simp only [E0.alls,E0.all_eq,Eb]
   generalize Yo s=a2
   generalize s.Place.all T6=a3
   generalize s.Value.all T6=a4
   generalize E0.alls Eb s.Then=a5
   generalize E0.alls Eb s.Else=a6
   cases a2 <;> cases a3 <;> cases a4 <;> cases a5 <;> cases a6 <;> simp
 rw [Xa]
 exact main l 0 rfl
def Pz (d:D0):Bool:=(d.TypeV.all fun t=>!Sq t)&&d.Value.all T6&&Ls d&&E0.alls Eb d.Body
theorem R14 (l:List D0):OkD l→Qd l=some (D0.alls Pz l):=by
 induction l using D0.inds with
 | h l ih=>
 intro hl
 have main:∀ (r:List D0) (k:Nat),l.drop k=r→Za l k=some (D0.alls Pz r):=by
  intro r
  induction r with
  | nil=>intro k h; rw [Za,(L2 h).1,if_neg (by simp)]; rfl
  | cons d r ihr=>
   intro k h
   obtain ⟨e1,e2,e3,e4,e5⟩:=J3 h
   have hs:=hl.mem e5
   have hlen:=hl.len
   obtain ⟨i1,i2⟩:=ih d e5
   rw [Za,e1,if_pos rfl,e2,ob,Bw,ob]
   simp only [H1d _ hs.type,Wo _ hs.value,i1 hs.params,i2 hs.vars,Ev _ hs.body,ifd,ob,w1 (show k≤BB by omega),ihr (k+1) e3]
   have hi:(bif (!(Jh d.Init)) then true else (bif (d.TypeV.Kind == 0) then (bif (decide (d.Init < 0)) then true else (decide (d.Init > 1))) else false)) = !(Ls d):=by
    unfold Ls Jh R3 bne
    rw [Kz,Lz d.Init 1]
    cases decide (d.Init≥-1048576) <;> cases decide (d.Init≤1048576) <;> cases (d.TypeV.Kind == 0) <;> cases decide (d.Init≥0) <;> cases decide (d.Init≤1) <;> rfl
   rw [hi]
   simp only [D0.alls,D0.all_eq,Pz]
   generalize Ls d=a2
   generalize (d.TypeV.all fun t=>!Sq t)=a3
   generalize d.Value.all T6=a4
   generalize D0.alls Pz d.Params=a5
   generalize D0.alls Pz d.Vars=a6
   generalize E0.alls Eb d.Body=a1
   cases a1 <;> cases a2 <;> cases a3 <;> cases a4 <;> cases a5 <;> cases a6 <;> simp
 rw [Qd]
 exact main l 0 rfl
theorem G1i (l:List D0):D0.alls J8 l=true→D0.alls Pz l=D0.alls Ai l:=by
 induction l using D0.inds with
 | h l ih=>
 induction l with
 | nil=>intro _; rfl
 | cons d r ihr=>
  intro h
  simp only [D0.alls,D0.all_eq,Bool.and_eq_true] at h
  obtain ⟨⟨h1,h2,h3⟩,h4⟩:=h
  obtain ⟨i1,i2⟩:=ih d List.mem_cons_self
  have h5:d.TypeV.all Tb=true:=by
   unfold J8 at h1
   simp only [Bool.and_eq_true] at h1
   exact h1.1.1.1.1.1.1.2
  simp only [D0.alls,D0.all_eq,Pz,Ai,← G1d d.TypeV h5,i1 h2,i2 h3,ihr (fun x hx=>ih x (List.mem_cons_of_mem _ hx)) h4]
theorem O1k (p:Z0)(h:OkP p):Uw p=some ⟨J12 p,K12 p⟩:=by
 have h1:=D0.ndss_bulk p.Decls
 have h2:=E0.ndss_bulk p.Body
 have h3:D0.bulks p.Decls≤BB:=h.decls
 have h4:E0.bulks p.Body≤BB:=h.body
 have hr:K7 ⟨0,0⟩ (D0.ndss p.Decls+E0.ndss p.Body):=⟨Int.le_refl _,Int.le_refl _,by simp only; omega⟩
 unfold Uw
 rw [L1c p.Decls h.decls _ (hr.less (by omega)),ob,show (1:Int)=((1:Nat):Int) from rfl,L12 p.Body h.body 1 _ (by unfold BB at *; omega) (K7.x hr),ob,Ew]
 unfold szX J12 K12
 simp only
 rw [show (0:Int)+((D0.ndss p.Decls+E0.ndss p.Body:Nat):Int)=((D0.ndss p.Decls+E0.ndss p.Body:Nat):Int) by omega,show max (0:Int) ((max (D0.dpss p.Decls) (E0.dpss p.Body 1):Nat):Int)=((max (D0.dpss p.Decls) (E0.dpss p.Body 1):Nat):Int) by omega]
theorem L1o (a b:Bool):(bif a then (bif a then b else default) else false)=(a&&b):=by cases a <;> rfl
theorem H1i (p:Z0)(h:OkP p):Vw p=some (Bp p):=by
 unfold Vw
 simp only [O1k p h,W19 _ h.decls,E10 _ h.body,U17 _ h.decls,Ny _ h.body,R14 _ h.decls,Ev _ h.body,ifd,ob,I1d,L1o]
 unfold Bp
 cases hf:D0.alls J8 p.Decls with
 | false=>unfold Ao; rfl
 | true=>rw [G1i p.Decls hf]
theorem I1i {p:Z0}(h:p.bulk≤4200000):OkP p:=by
 cases p
 simp only [Z0.bulk] at h
 exact ⟨by unfold OkD BB; simp only; omega,by unfold OkS BB; simp only; omega⟩
end Go.Proofs.YtmnhfbekncjnfaaGreatDoor

namespace Go.Proofs.YtmnhfbekncjnfaaGreatDoor
open Go.Am
set_option maxRecDepth 100000
set_option maxHeartbeats 4000000
end Go.Proofs.YtmnhfbekncjnfaaGreatDoor

set_option linter.unusedSimpArgs false
set_option linter.unusedVariables false
namespace Go.Proofs.YtmnhfbekncjnfaaGreatDoor
open Go.Am
def dg (c:UInt8):Bool:=Ea c.toNat
end Go.Proofs.YtmnhfbekncjnfaaGreatDoor

set_option linter.unusedSimpArgs false
set_option linter.unusedVariables false
namespace Go.Proofs.YtmnhfbekncjnfaaGreatDoor
open Go.Am
end Go.Proofs.YtmnhfbekncjnfaaGreatDoor

namespace Go.Proofs.YtmnhfbekncjnfaaGreatDoor
open Go.Am
def skp:Bool→List UInt8→Nat
 | _,[]=>0
 | false,c::r=>if (c.toNat:Int) == 35 then skp true r+1 else if (c.toNat:Int) == 32||((c.toNat:Int) == 9||(c.toNat:Int) == 10) then skp false r+1 else 0
 | true,c::r=>if (c.toNat:Int) == 10 then skp false r+1 else skp true r+1
theorem Cn:∀ (b:Bool) (r:List UInt8),skp b r≤r.length
 | true,[]=>Nat.le_refl _
 | false,[]=>Nat.le_refl _
 | false,c::r=>by
  have h1:=Cn true r
  have h2:=Cn false r
  simp only [skp,List.length_cons]
  split
  ·omega
  ·split <;> omega
 | true,c::r=>by
  have h1:=Cn true r
  have h2:=Cn false r
  simp only [skp,List.length_cons]
  split <;> omega
theorem G19 (s:Str)(hs:s.length≤BB):∀ (r:Str) (k:Nat),s.drop k=r→X6 s k=some ((k+skp false r:Nat):Int)∧Qa s k=some ((k+skp true r:Nat):Int)
 | [],k,h=>by
  have h1:X6 s k=some ((k+skp false []:Nat):Int):=by rw [X6,(L2 h).1]; simp [skp]
  refine ⟨h1,?_⟩
  rw [Qa,(L2 h).1]
  simpa [ob,skp] using h1
 | c::r,k,h=>by
  obtain ⟨h1,h2,h3,h4,_⟩:=J3 h
  obtain ⟨i1,i2⟩:=G19 s hs r (k+1) h3
  have e2:((c.toNat:Int) == 10)=false→Qa s k=some ((k+skp true (c::r):Nat):Int):=fun hc=>by
   rw [Qa,h1,if_pos rfl,h2,ob]
   have:((c.toNat:Int) != 10)=true:=by simp only [bne,hc]; rfl
   rw [this,cond_true,if_pos rfl,w1 (by omega),i2]
   simp only [skp,hc]
   simp; omega
  have e1:X6 s k=some ((k+skp false (c::r):Nat):Int):=by
   rw [X6,h1,if_pos rfl,h2]
   simp only [ob]
   cases h35:(c.toNat:Int) == 35 with
   | true=>
    rw [if_pos rfl,e2 (by have:=eq_of_beq h35; rw [this]; rfl)]
    simp only [skp,h35,if_true]
    have:((c.toNat:Int) == 10)=false:=by have:=eq_of_beq h35; rw [this]; rfl
    simp [this]
   | false=>
    rw [if_neg (by simp)]
    simp only [w1 (show k≤BB by omega),i1,skp,h35]
    by_cases h32:(c.toNat:Int)=32 <;> by_cases h9:(c.toNat:Int)=9 <;> by_cases h10:(c.toNat:Int)=10 <;> simp [ob,h32,h9,h10] <;> omega
  refine ⟨e1,?_⟩
  cases h10:(c.toNat:Int) == 10 with
  | false=>exact e2 h10
  | true=>
   rw [Qa,h1,if_pos rfl,h2,ob]
   have:((c.toNat:Int) != 10)=false:=by simp only [bne,h10]; rfl
   rw [this,cond_true,if_neg (by simp),e1]
   have h35:((c.toNat:Int) == 35)=false:=by have:=eq_of_beq h10; rw [this]; rfl
   simp [skp,h10,h35]
theorem P1k (s:Str)(hs:s.length≤BB)(k:Nat):Qk s k=some ((k+skp false (s.drop k):Nat):Int):=(G19 s hs _ k rfl).1
theorem E1m {s:List UInt8}(hne:s≠[])(hall:s.all ld=true):Yw s=Bt s:=by
 unfold Yw Bt
 rw [U1b hall]
 have hz:((s.length:Int) == 0)=false:=beq_eq_false_iff_ne.2 (by have:=List.length_pos_iff.2 hne; omega)
 have hn:(s == [])=false:=by cases s with
  | nil=>exact absurd rfl hne
  | cons _ _=>rfl
 rw [hz,hn]
 cases hk:Lib.contains kw ([32]++s++[32]) with
 | false=>simp
 | true=>rw [Z1d hall hk]; rfl
theorem N1c (s:Str)(hs:s.length≤BB):∀ (r:Str) (k:Nat),s.drop k=r→L8 s k=some ((k+C4 r:Nat):Int)
 | [],k,h=>by rw [L8,(L2 h).1]; simp [C4,ob]
 | c::r,k,h=>by
  obtain ⟨h1,h2,h3,h4,_⟩:=J3 h
  have ih:=N1c s hs r (k+1) h3
  rw [L8,h1,if_pos rfl,h2,ob,if_pos rfl,Zw,ob,w1 (by omega),ih]
  simp only [C4,ld]
  cases hl:Ac c.toNat <;> cases hd:Ea c.toNat <;> simp [Ut,hd,ob] <;> omega
theorem H19:∀ r:List UInt8,(r.take (C4 r)).all ld=true
 | []=>rfl
 | c::r=>by
  simp only [C4]
  cases h:ld c with
  | false=>rfl
  | true=>simp only [cond_true,List.take_succ_cons,List.all_cons,h,H19 r]; rfl
def nv (n:Nat)(l:List UInt8):Nat:=l.foldl (fun n c=>10 * n+(c.toNat - 48)) n
theorem Oy (n:Nat):nv n []=n:=rfl
theorem Uq (n:Nat)(c:UInt8)(r:List UInt8):nv n (c::r)=nv (10 * n+(c.toNat - 48)) r:=by unfold nv; rw [List.foldl_cons]
theorem G1l (r:List UInt8):∀ n:Nat,n≤nv n r:=by
 induction r with
 | nil=>intro n; rw [Oy]; exact Nat.le_refl _
 | cons c r ih=>intro n; rw [Uq]; have:=ih (10 * n+(c.toNat - 48)); omega
def V17 (n:Nat):Int:=if n > 1048576 then 3 else 0
theorem S14 {n:Nat}(h:n > 1048576):V17 n=3:=if_pos h
theorem D1e {n:Nat}(h:n≤1048576):V17 n=0:=if_neg (by omega)
def Fw (w:List UInt8):Bool:=decide ((w.length:Int) > 1)&&((w.getD 0 0).toNat:Int) == 48
def Bx (w:List UInt8):Int:=if w.all (fun c=>Ea c.toNat) && !Fw w then V17 (nv 0 w) else 6
theorem Nn {n:Nat}:Ea n=true ↔ 48≤n∧n≤57:=by
 unfold Ea
 by_cases h:48≤n
 ·rw [show decide ((n:Int)≥48)=true from decide_eq_true (by omega),cond_true,decide_eq_true_iff]; omega
 ·rw [show decide ((n:Int)≥48)=false from decide_eq_false (by omega),cond_false]; simp; omega
theorem Q1k {c:UInt8}(h:Ea c.toNat=true):IntKind.i64.wrap (IntKind.u8.wrap ((c.toNat:Int) - 48))=((c.toNat - 48:Nat):Int):=by
 have:=Nn.1 h
 rw [L1l (by omega) (by omega),wr (by omega) (by omega)]; omega
theorem I19 (s:Str)(n v7:Int):L5 s n v7=if (decide (v7 < ((s).length:Int)))=true then
  idx s v7>>=fun x1=>
  Y8 (x1.toNat:Int)>>=fun x2=>
  if (!x2)=true then
   some 6
  else
   idx s v7>>=fun x3=>
   L5 s (min (IntKind.i64.wrap ((IntKind.i64.wrap (10 * n))+(IntKind.i64.wrap (IntKind.u8.wrap ((x3.toNat:Int) - 48))))) 1048577) (IntKind.i64.wrap (v7+1))
 else
  idx s 0>>=fun x4=>
  if (bif ((x4.toNat:Int) == 48) then (decide (((s).length:Int) > 1)) else false)=true then
   some 6
  else
   if (decide (n > 1048576))=true then
    some 3
   else
    some 0:=L5.eq_1 s n v7
theorem Y1f (s:Str)(hs:s.length≤BB)(hne:s≠[]):∀ (r:Str) (k m:Nat) (n:Int),s.drop k=r→(m≤1048576→n=m)→(m > 1048576→n=1048577)→
  L5 s n k=some (if r.all (fun c=>Ea c.toNat) && !Fw s then V17 (nv m r) else 6):=by
 intro r
 induction r with
 | nil=>
  intro k m n h hn hn'
  refine (I19 s n k).trans ?_
  rw [(L2 h).1,if_neg (by simp)]
  have h0:idx s 0=some (s.getD 0 0):=getD_some (List.length_pos_iff.2 hne)
  rw [h0,ob]
  have hb:(bif (((s.getD 0 0).toNat:Int) == 48) then decide ((s.length:Int) > 1) else false)=Fw s:=by
   unfold Fw
   cases ((s.getD 0 0).toNat:Int) == 48 <;> simp
  rw [hb]
  rw [Oy,List.all_nil,Bool.true_and]
  rcases Bool.eq_false_or_eq_true (Fw s) with hz | hz
  ·rw [hz,if_pos rfl,Bool.not_true,if_neg (by simp)]
  ·rw [hz,if_neg (by simp),Bool.not_false,if_pos rfl]
   rcases Nat.lt_or_ge 1048576 m with hm | hm
   ·rw [S14 hm,if_pos (decide_eq_true (by have:=hn' hm; omega))]
   ·rw [D1e hm,if_neg (by have:=hn hm; simp; omega)]
 | cons c r ihr=>
  intro k m n h hn hn'
  obtain ⟨h1,h2,h3,h4,_⟩:=J3 h
  refine (I19 s n k).trans ?_
  rw [h1,if_pos rfl,h2,ob,Ut,ob]
  cases hd:Ea c.toNat with
  | false=>simp [hd]
  | true=>
   have hc:=Nn.1 hd
   have hnn:0≤n∧n≤1048577:=by
    by_cases hm:m > 1048576
    ·have:=hn' hm; omega
    ·have:=hn (Nat.le_of_not_lt hm); omega
   have e:IntKind.i64.wrap (IntKind.i64.wrap (10 * n)+IntKind.i64.wrap (IntKind.u8.wrap ((c.toNat:Int) - 48)))=10 * n+((c.toNat - 48:Nat):Int):=by
    rw [Q1k hd,wr (n:=10 * _) (by omega) (by omega),wr (by omega) (by omega)]
   have ih:=ihr (k+1) (10 * m+(c.toNat - 48)) (min (10 * n+((c.toNat - 48:Nat):Int)) 1048577) h3 (fun hm=>by have:=hn (by omega); omega) (fun hm=>by
    by_cases hm2:m > 1048576
    ·have:=hn' hm2; omega
    ·have:=hn (Nat.le_of_not_lt hm2); omega)
   simp only [Bool.not_true,Bool.false_eq_true,if_false,ob,e,w1 (show k≤BB by omega)]
   rw [ih,List.all_cons,hd,Bool.true_and]
   rw [Uq]
theorem Z1f (s:Str)(hs:s.length≤BB)(hne:s≠[]):Gi s=some (Bx s):=Y1f s hs hne s 0 0 0 rfl (fun _=>rfl) (fun h=>by omega)
theorem J19 (s:Str)(hs:s.length≤BB):∀ (r:Str) (k m:Nat),s.drop k=r→m≤1048576→r.all (fun c=>Ea c.toNat)=true→Y6 s m k=some (V17 (nv m r)):=by
 intro r
 induction r with
 | nil=>intro k m h hm _; rw [Y6,(L2 h).1,if_neg (by simp)]; rw [Oy,D1e hm]
 | cons c r ihr=>
  intro k m h hm ha
  obtain ⟨h1,h2,h3,h4,_⟩:=J3 h
  rw [List.all_cons,Bool.and_eq_true] at ha
  have hc:=Nn.1 ha.1
  have e:IntKind.i64.wrap (IntKind.i64.wrap ((m:Int) * 10)+IntKind.i64.wrap (IntKind.u8.wrap ((c.toNat:Int) - 48)))=((10 * m+(c.toNat - 48):Nat):Int):=by
   rw [Q1k ha.1,wr (n:=(m:Int) * 10) (by omega) (by omega),wr (by omega) (by omega)]; omega
  rw [Y6,h1,if_pos rfl,h2,ob,e]
  rw [Uq]
  by_cases hb:10 * m+(c.toNat - 48) > 1048576
  ·rw [if_pos (decide_eq_true (by omega)),S14 (by have:=G1l r (10 * m+(c.toNat - 48)); omega)]
  ·rw [if_neg (by simp; omega),w1 (by omega)]
   exact ihr (k+1) _ h3 (by omega) ha.2
theorem K19 (s:Str)(hs:s.length≤BB)(hall:(v:Int)→Y6 s 0 0=some v→True):∀ (r:Str) (k:Nat),s.drop k=r→N9 s k=if r.all (fun c=>Ea c.toNat) then Y6 s 0 0 else some 6
 | [],k,h=>by rw [N9,(L2 h).1,if_neg (by simp)]; rfl
 | c::r,k,h=>by
  obtain ⟨h1,h2,h3,h4,_⟩:=J3 h
  rw [N9,h1,if_pos rfl,h2,ob,Ax,ob]
  cases hd:Ea c.toNat with
  | false=>simp [hd]
  | true=>simp only [Bool.not_true,Bool.false_eq_true,if_false,w1 (show k≤BB by omega),K19 s hs hall r (k+1) h3,List.all_cons,hd,Bool.true_and]
theorem O1c (s:Str)(hs:s.length≤BB)(hne:s≠[]):Ml s=some (Bx s):=by
 unfold Ml Bx
 have h0:idx s 0=some (s.getD 0 0):=getD_some (List.length_pos_iff.2 hne)
 have hr:=K19 s hs (fun _ _=>trivial) s 0 rfl
 rw [h0,show (0:Int)=((0:Nat):Int) from rfl,hr]
 unfold Fw
 cases hl:decide ((s.length:Int) > 1) with
 | false=>
  simp only [Bool.false_eq_true,if_false,ob,cond_false,Bool.false_and,Bool.not_false,Bool.and_true]
  cases ha:s.all (fun c=>Ea c.toNat) with
  | false=>rfl
  | true=>exact J19 s hs s 0 0 rfl (by omega) ha
 | true=>
  simp only [if_true,ob,cond_true,Bool.true_and]
  cases hz:((s.getD 0 0).toNat:Int) == 48 with
  | true=>simp
  | false=>
   simp only [Bool.false_eq_true,if_false,Bool.not_false,Bool.and_true]
   cases ha:s.all (fun c=>Ea c.toNat) with
   | false=>rfl
   | true=>exact J19 s hs s 0 0 rfl (by omega) ha
def On (s:List UInt8):Bool:=s == [46,46]||s == [61,61]||s == [33,61]||s == [60,61]||s == [62,61]||s == [38,38]||s == [124,124]
def A1g:List UInt8:=[59,58,44,46,61,43,45,42,47,37,60,62,33,63,40,41,91,93,123,125]
def Fv (c:UInt8):Bool:=A1g.contains c
theorem J1d (a b:UInt8):Kb [a,b]=some (On [a,b]):=by
 unfold Kb Z6 On
 cases ([a,b] == [46,46]:Bool) <;> cases ([a,b] == [61,61]:Bool) <;> cases ([a,b] == [33,61]:Bool) <;> cases ([a,b] == [60,61]:Bool) <;> cases ([a,b] == [62,61]:Bool) <;> cases ([a,b] == [38,38]:Bool) <;> cases ([a,b] == [124,124]:Bool) <;> simp
set_option maxRecDepth 100000 in
theorem K1d:∀ a:UInt8,Kb [a]=some (Fv a):=by
 have:∀ n:Fin 256,Kb [UInt8.ofNat n.val]=some (Fv (UInt8.ofNat n.val)):=by decide
 intro a
 have h:=this ⟨a.toNat,a.toNat_lt⟩
 simpa using h
end Go.Proofs.YtmnhfbekncjnfaaGreatDoor

namespace Go.Proofs.YtmnhfbekncjnfaaGreatDoor
open Go.Am
theorem J1i (c:UInt8):∀ l:List UInt8,0≤Lib.indexByte l c ↔ l.contains c=true
 | []=>by simp [Lib.indexByte]
 | b::l=>by
  have ih:=J1i c l
  have hg:=Lib.indexByte_ge l c
  by_cases hb:b=c
  ·subst hb
   simp [Lib.indexByte]
  ·have h1:(b == c)=false:=beq_eq_false_iff_ne.2 hb
   have h2:(c == b)=false:=beq_eq_false_iff_ne.2 fun e=>hb e.symm
   unfold Lib.indexByte
   rw [h1,List.contains_cons,h2,Bool.false_or,← ih,if_neg (by simp)]
   by_cases h:Lib.indexByte l c = -1
   ·rw [if_pos (by rw [h]; rfl),h]
   ·rw [if_neg (by simpa using h)]
    omega
theorem M1o (c:UInt8)(l:List UInt8):decide (Lib.indexByte l c≥0)=l.contains c:=by
 rw [Bool.eq_iff_iff,decide_eq_true_iff]
 exact J1i c l
theorem Zl {s r:List UInt8}{k n:Nat}(h:s.drop k=r)(hk:k≤s.length)(hn:n≤r.length):slc s (k:Int) ((k+n:Nat):Int)=some (r.take n):=by
 have hl:r.length=s.length - k:=by rw [← h,List.length_drop]
 unfold slc
 rw [if_pos ⟨by omega,by omega,by omega⟩,← h]
 simp only [Int.toNat_natCast]
 rw [List.drop_take]
 congr 2
 congr 1
 omega
theorem R16 (c:UInt8)(r:Str):Zb (c::r)=some (if Fv c then [c] else []):=by
 unfold Zb
 have h0:idx (c::r) 0=some c:=rfl
 rw [h0,ob]
 have hb:=M1o c A1g
 unfold Cr
 rw [ob]
 have e:((c.toNat:Int).toNat.toUInt8)=c:=by simp
 rw [e]
 unfold A1g at hb
 rw [hb]
 unfold Fv A1g
 have h1:slc (c::r) 0 1=some [c]:=by
  have:=Zl (s:=c::r) (k:=0) (n:=1) rfl (by omega) (by simp)
  simpa using this
 rw [h1]
 split <;> rfl
theorem R1k (c:UInt8):Se [c]=some (if Fv c then [c] else []):=by
 unfold Se
 rw [if_neg (by simp)]
 exact R16 c []
theorem S1k (a b:UInt8)(r:Str):Se (a::b::r)=some (if On [a,b] then [a,b] else if Fv a then [a] else []):=by
 unfold Se
 have h2:slc (a::b::r) 0 2=some [a,b]:=by
  have:=Zl (s:=a::b::r) (k:=0) (n:=2) rfl (by omega) (by simp)
  simpa using this
 rw [if_pos (decide_eq_true (by simp only [List.length_cons]; omega)),h2,ob]
 unfold U6 On
 rw [h2,R16]
 cases ([a,b] == [46,46]:Bool) <;> cases ([a,b] == [61,61]:Bool) <;> cases ([a,b] == [33,61]:Bool) <;> cases ([a,b] == [60,61]:Bool) <;> cases ([a,b] == [62,61]:Bool) <;> cases ([a,b] == [38,38]:Bool) <;> cases ([a,b] == [124,124]:Bool) <;> simp [ob]
def nxt (r:List UInt8)(k:Int):K0×Int:=
 if Ac (r.getD 0 0).toNat then
  if Bt (r.take (C4 r)) then (K0.mk 2 (r.take (C4 r)) k,0)
  else if decide (((r.take (C4 r)).length:Int) > 12) then (K0.mk 0 (r.take (C4 r)) k,7)
  else (K0.mk 0 (r.take (C4 r)) k,0)
 else if Ea (r.getD 0 0).toNat then (K0.mk 1 (r.take (C4 r)) k,Bx (r.take (C4 r)))
 else if decide (2≤r.length)&&On (r.take 2) then (K0.mk 3 (r.take 2) k,0)
 else if Fv (r.getD 0 0) then (K0.mk 3 [r.getD 0 0] k,0)
 else (K0.mk 3 [] k,6)
theorem Qz {c:UInt8}{t:List UInt8}(h:ld c=true):1≤C4 (c::t):=by simp [C4,h]
theorem F1m (s:Str)(hs8:s.length≤8192){c:UInt8}{t:Str}{k:Nat}(h:s.drop k=c::t):Ug s k=some (nxt (c::t) k):=by
 have hs:s.length≤BB:=by unfold BB; omega
 obtain ⟨h1,h2,h3,h4,_⟩:=J3 h
 have hle:=Qq (c::t)
 have hlen:(c::t).length=s.length - k:=by rw [← h,List.length_drop]
 have hrun:Il s k=some ((k+C4 (c::t):Nat):Int):=N1c s hs _ k h
 have hslc:=Zl h (by omega) hle
 have ht8:((c::t).take (C4 (c::t))).length≤8192:=by rw [List.length_take]; omega
 have htl:((c::t).take (C4 (c::t))).length≤BB:=by unfold BB; omega
 unfold Ug nxt
 rw [h2,ob,Zw,ob,hrun]
 simp only [List.getD_cons_zero]
 cases hl:Ac c.toNat with
 | true=>
  simp only [if_true,ob,hslc]
  rw [show B9 ((c::t).take (C4 (c::t)))=some (Bt ((c::t).take (C4 (c::t)))) from R13 _ (by omega),ob]
  cases Bt ((c::t).take (C4 (c::t))) with
  | true=>rfl
  | false=>
   cases decide ((((c::t).take (C4 (c::t))).length:Int) > 12) <;> rfl
 | false=>
  simp only [Bool.false_eq_true,if_false,Ut,ob]
  cases hd:Ea c.toNat with
  | true=>
   simp only [if_true,ob,hslc]
   have hld:ld c=true:=by unfold ld; rw [hl,hd]; rfl
   have hp:=Qz (t:=t) hld
   rw [Z1f _ htl (by intro he; have:=congrArg List.length he; rw [List.length_take] at this; simp at this; omega)]
   rfl
  | false=>
   simp only [Bool.false_eq_true,if_false]
   have hsl:slc s (k:Int) ((s.length:Nat):Int)=some (c::t):=by
    have:=Zl (n:=(c::t).length) h (by omega) (Nat.le_refl _)
    rw [List.take_length] at this
    rw [← this,hlen]
    congr 1; omega
   rw [hsl,ob]
   cases t with
   | nil=>
    rw [R1k,ob]
    cases Fv c <;> rfl
   | cons b t=>
    rw [S1k,ob]
    cases hz:On [c,b] with
    | true=>simp [hz]
    | false=>cases hy:Fv c <;> simp [hz,hy]
def P1c (x:K0×Int):K0×Int:=if x.2=0 then x else (K0.mk 0 [] 0,x.2)
theorem B1g (w:List UInt8):Bx w=0∨Bx w=3∨Bx w=6:=by
 unfold Bx V17
 split
 ·split <;> simp
 ·simp
theorem T1k (s:Str)(hs8:s.length≤8192){c:UInt8}{t:Str}{k:Nat}(h:s.drop k=c::t):Wm s k=some (P1c (nxt (c::t) k)):=by
 have hs:s.length≤BB:=by unfold BB; omega
 obtain ⟨h1,h2,h3,h4,_⟩:=J3 h
 have hle:=Qq (c::t)
 have hlen:(c::t).length=s.length - k:=by rw [← h,List.length_drop]
 have hrun:Ll s k=some ((k+C4 (c::t):Nat):Int):=Q17 s hs _ k h
 have hslc:=Zl h (by omega) hle
 have ht8:((c::t).take (C4 (c::t))).length≤8192:=by rw [List.length_take]; omega
 have htl:((c::t).take (C4 (c::t))).length≤BB:=by unfold BB; omega
 have hne:ld c=true→(c::t).take (C4 (c::t))≠[]:=fun hld he=>by
  have hp:=Qz (t:=t) hld
  have:=congrArg List.length he
  rw [List.length_take] at this
  simp at this
  omega
 unfold Wm nxt
 rw [hrun,ob,h2,ob,Vo,ob]
 simp only [List.getD_cons_zero]
 cases hl:Ac c.toNat with
 | true=>
  have hld:ld c=true:=by unfold ld; rw [hl]; rfl
  simp only [if_true,ob,hslc]
  rw [Ly _ (by omega),E1m (hne hld) (H19 _),ob]
  cases Bt ((c::t).take (C4 (c::t))) with
  | true=>rfl
  | false=>cases decide ((((c::t).take (C4 (c::t))).length:Int) > 12) <;> rfl
 | false=>
  simp only [Bool.false_eq_true,if_false,Ax,ob]
  cases hd:Ea c.toNat with
  | true=>
   have hld:ld c=true:=by unfold ld; rw [hl,hd]; rfl
   simp only [if_true,ob,hslc]
   rw [O1c _ htl (hne hld),ob]
   unfold P1c
   rcases B1g ((c::t).take (C4 (c::t))) with hn | hn | hn <;> rw [hn] <;> rfl
  | false=>
   simp only [Bool.false_eq_true,if_false]
   rw [wr (n:=(k:Int)+2) (by omega) (by omega),wr (n:=(k:Int)+1) (by omega) (by omega)]
   have hs1:slc s (k:Int) ((k:Int)+1)=some [c]:=by
    have:=Zl (n:=1) h (by omega) (by simp)
    simpa using this
   have fin:(slc s (k:Int) ((k:Int)+1)>>=fun x14=>Kb x14>>=fun x15=>if x15=true then slc s (k:Int) ((k:Int)+1)>>=fun x16=>some ((K0.mk 3 x16 (k:Int)),(0:Int)) else some ((K0.mk 0 [] 0),6))=some (P1c (if Fv c then (K0.mk 3 [c] (k:Int),0) else (K0.mk 3 [] (k:Int),6))):=by
    rw [hs1,ob,K1d,ob]
    cases Fv c <;> rfl
   cases t with
   | nil=>
    simp only [List.length_cons,List.length_nil] at hlen
    have:decide ((k:Int)+2≤(s.length:Int))=false:=decide_eq_false (by omega)
    rw [this]
    simp only [Bool.false_eq_true,if_false,ob,cond_false]
    exact fin
   | cons b t=>
    simp only [List.length_cons] at hlen
    have:decide ((k:Int)+2≤(s.length:Int))=true:=decide_eq_true (by omega)
    have hs2:slc s (k:Int) ((k:Int)+2)=some [c,b]:=by
     have:=Zl (n:=2) h (by omega) (by simp)
     simpa using this
    rw [this]
    simp only [if_true,hs2,ob,J1d,cond_true]
    cases hz:On [c,b] with
    | true=>simp [P1c,hz]
    | false=>
     simp only [Bool.false_eq_true,if_false]
     rw [fin]
     simp [hz]
def Qg:Nat→List UInt8→Nat→List K0×Int×Int
 | 0,_,_=>([],0,0)
 | n+1,r,k=>
  match r.drop (skp false r) with
  | []=>([],0,0)
  | c::t=>
   let x:=nxt (c::t) ((k+skp false r:Nat):Int)
   if x.2=0 then
    let z:=Qg n ((c::t).drop x.1.Text.length) (k+skp false r+x.1.Text.length)
    if z.2.2=0 then (x.1::z.1,0,0) else z
   else ([],((k+skp false r:Nat):Int),x.2)
theorem Th {c:UInt8}{t:List UInt8}{k:Int}(h:(nxt (c::t) k).2=0):1≤(nxt (c::t) k).1.Text.length∧(nxt (c::t) k).1.Text.length≤(c::t).length∧(nxt (c::t) k).1.At=k∧(c::t).take (nxt (c::t) k).1.Text.length=(nxt (c::t) k).1.Text:=by
 have hle:=Qq (c::t)
 have key:∀ {n:Nat},1≤n→n≤(c::t).length→1≤((c::t).take n).length∧((c::t).take n).length≤(c::t).length∧(c::t).take ((c::t).take n).length=(c::t).take n:=fun h1 h2=>by
  rw [List.length_take,Nat.min_eq_left h2]; exact ⟨h1,h2,rfl⟩
 revert h
 unfold nxt
 simp only [List.getD_cons_zero]
 cases hl:Ac c.toNat with
 | true=>
  have hld:ld c=true:=by unfold ld; rw [hl]; rfl
  obtain ⟨a1,a2,a3⟩:=key (Qz (t:=t) hld) hle
  simp only [if_true]
  split
  ·exact fun _=>⟨a1,a2,rfl,a3⟩
  ·split
   ·intro h; cases h
   ·exact fun _=>⟨a1,a2,rfl,a3⟩
 | false=>
  simp only [Bool.false_eq_true,if_false]
  cases hd:Ea c.toNat with
  | true=>
   have hld:ld c=true:=by unfold ld; rw [hl,hd]; rfl
   obtain ⟨a1,a2,a3⟩:=key (Qz (t:=t) hld) hle
   exact fun _=>⟨a1,a2,rfl,a3⟩
  | false=>
   simp only [Bool.false_eq_true,if_false]
   split
   ·rename_i h2
    rw [Bool.and_eq_true] at h2
    obtain ⟨a1,a2,a3⟩:=key (n:=2) (by omega) (of_decide_eq_true h2.1)
    exact fun _=>⟨a1,a2,rfl,a3⟩
   ·split
    ·exact fun _=>⟨by simp,by simp,rfl,by simp⟩
    ·intro h; cases h
def Gw (s:Str)(out:List K0)(k:Nat):Option (List K0×Int×Int):=
 if k < s.length then
  Ug s k>>=fun x2=>
  if (x2.2 != 0)=true then some ([],(k:Int),x2.2)
  else if (decide ((out.length+1) * 33≤140737488355328))=true then E4 s (out++[x2.1]) (IntKind.i64.wrap ((k:Int)+((x2.1.Text).length:Int)))
  else none
 else some (out,0,0)
theorem K1i (s:Str)(hs:s.length≤BB)(out:List K0):∀ (r:Str) (k:Nat),s.drop k=r→E4 s out k=Gw s out (k+skp false r)∧V9 s out k=Gw s out (k+skp true r)
 | [],k,h=>by
  obtain ⟨h1,h2⟩:=L2 h
  have e1:E4 s out k=Gw s out (k+skp false []):=by
   rw [E4,h1,if_neg (by simp)]
   unfold Gw
   rw [if_neg (by simp [skp]; omega)]
  refine ⟨e1,?_⟩
  rw [V9,h1]
  simpa [ob,skp] using e1
 | c::r,k,h=>by
  obtain ⟨h1,h2,h3,h4,_⟩:=J3 h
  obtain ⟨i1,i2⟩:=K1i s hs out r (k+1) h3
  have e2:((c.toNat:Int) == 10)=false→V9 s out k=Gw s out (k+skp true (c::r)):=fun hc=>by
   rw [V9,h1,if_pos rfl,h2,ob]
   have:((c.toNat:Int) != 10)=true:=by simp only [bne,hc]; rfl
   rw [this,cond_true,if_pos rfl,w1 (by omega),i2]
   simp only [skp,hc]
   congr 1
   simp; omega
  have e1:E4 s out k=Gw s out (k+skp false (c::r)):=by
   have hj:E4 s out k=Cd s out k c ((c.toNat:Int) == 32||((c.toNat:Int) == 9||(c.toNat:Int) == 10)):=by
    rw [E4,h1,if_pos rfl,h2,ob]
    cases h32:(c.toNat:Int) == 32 with
    | true=>rfl
    | false=>cases h9:(c.toNat:Int) == 9 <;> simp
   rw [hj,Cd]
   cases hb:((c.toNat:Int) == 32||((c.toNat:Int) == 9||(c.toNat:Int) == 10)) with
   | true=>
    have h35:((c.toNat:Int) == 35)=false:=by
     cases hx:(c.toNat:Int) == 35 with
     | false=>rfl
     | true=>rw [eq_of_beq hx] at hb; cases hb
    rw [if_pos rfl,w1 (by omega),i1]
    simp only [skp,h35,hb]
    congr 1
    simp; omega
   | false=>
    rw [if_neg (by simp)]
    cases h35:(c.toNat:Int) == 35 with
    | true=>
     rw [if_pos rfl,e2 (by have:=eq_of_beq h35; rw [this]; rfl)]
     have h10:((c.toNat:Int) == 10)=false:=by have:=eq_of_beq h35; rw [this]; rfl
     simp [skp,h35,h10]
    | false=>
     rw [if_neg (by simp)]
     simp only [skp,h35,hb]
     unfold Gw
     rw [if_pos (by simpa using h4)]
     rfl
  refine ⟨e1,?_⟩
  cases h10:(c.toNat:Int) == 10 with
  | false=>exact e2 h10
  | true=>
   rw [V9,h1,if_pos rfl,h2,ob]
   have:((c.toNat:Int) != 10)=false:=by simp only [bne,h10]; rfl
   rw [this,cond_true,if_neg (by simp),e1]
   have h35:((c.toNat:Int) == 35)=false:=by have:=eq_of_beq h10; rw [this]; rfl
   simp [skp,h10,h35]
theorem E1e:∀ (n:Nat) (r:List UInt8) (k:Nat),(Qg n r k).2.2=0→(Qg n r k).2=(0,0)
 | 0,_,_,_=>rfl
 | n+1,r,k,h=>by
  revert h
  unfold Qg
  split
  ·exact fun _=>rfl
  ·rename_i c t _
   simp only
   split
   ·split
    ·exact fun _=>rfl
    ·rename_i hz
     exact fun h=>absurd h hz
   ·rename_i hx
    exact fun h=>absurd h hx
def Vq (out:List K0)(z:List K0×Int×Int):List K0×Int×Int:=if z.2.2=0 then (out++z.1,0,0) else z
theorem F1e (s:Str)(hs8:s.length≤8192):∀ (n k:Nat) (out:List K0),s.length - k < n→k≤s.length→out.length≤k→
  E4 s out k=some (Vq out (Qg n (s.drop k) k))∧(Qk s k>>=fun a=>Uf s out a)=some (Vq out (Qg n (s.drop k) k))
 | 0,k,out,h,_,_=>by omega
 | n+1,k,out,h,hk,ho=>by
  have hs:s.length≤BB:=by unfold BB; omega
  have hb:=Cn false (s.drop k)
  rw [List.length_drop] at hb
  rw [(K1i s hs out _ k rfl).1,P1k s hs k,ob]
  generalize hj:k+skp false (s.drop k)=j at *
  have hdj:(s.drop k).drop (skp false (s.drop k))=s.drop j:=by rw [List.drop_drop,hj]
  unfold Gw
  rw [Uf]
  unfold Qg
  rw [hdj,hj]
  cases hd:s.drop j with
  | nil=>
   obtain ⟨h1,h2⟩:=L2 hd
   rw [h1,if_neg (by omega),if_neg (by simp)]
   unfold Vq
   simp
  | cons c t=>
   obtain ⟨h1,h2,h3,h4,_⟩:=J3 hd
   rw [h1,if_pos h4,if_pos rfl,F1m s hs8 hd,T1k s hs8 hd,ob,ob]
   simp only
   unfold P1c
   by_cases hx:(nxt (c::t) (j:Int)).2=0
   ·obtain ⟨b1,b2,b3,b4⟩:=Th hx
    have hlen:(c::t).length=s.length - j:=by rw [← hd,List.length_drop]
    rw [if_pos hx,if_pos hx]
    have hne:((nxt (c::t) (j:Int)).2 != 0)=false:=by rw [hx]; rfl
    have hroom:decide ((out.length+1) * 33≤140737488355328)=true:=decide_eq_true (by omega)
    simp only [hne,hroom,Bool.false_eq_true,if_false,if_true]
    generalize hxx:nxt (c::t) (j:Int)=x at *
    rw [wr (by omega) (by omega),show (j:Int)+((x.1.Text).length:Int)=((j+x.1.Text.length:Nat):Int) from rfl]
    have hdd:(c::t).drop x.1.Text.length=s.drop (j+x.1.Text.length):=by rw [← hd,List.drop_drop]
    rw [hdd]
    obtain ⟨i1,i2⟩:=F1e s hs8 n (j+x.1.Text.length) (out++[x.1]) (by omega) (by omega) (by rw [List.length_append]; have:[x.1].length=1:=rfl; omega)
    rw [i1,i2]
    generalize Qg n (s.drop (j+x.1.Text.length)) (j+x.1.Text.length)=z
    unfold Vq
    by_cases hz:z.2.2=0
    ·rw [if_pos hz,if_pos hz,if_pos rfl,List.append_assoc]
     exact ⟨rfl,rfl⟩
    ·rw [if_neg hz,if_neg hz,if_neg hz]
     exact ⟨rfl,rfl⟩
   ·have hne:((nxt (c::t) (j:Int)).2 != 0)=true:=by simpa using hx
    have hne2:((K0.mk 0 [] 0,(nxt (c::t) (j:Int)).2):K0×Int).2=(nxt (c::t) (j:Int)).2:=rfl
    rw [if_neg hx,if_neg hx,hne,if_pos rfl]
    unfold Vq
    simp [hx]
def G4 (s:Str):List K0×Int×Int:=if s.length > 8192 then ([],0,5) else Qg (s.length+1) s 0
theorem S16 (s:Str):Ij s=some (G4 s)∧Nl s=some (G4 s):=by
 unfold Ij Nl G4
 by_cases h:s.length > 8192
 ·rw [if_pos h]; simp [h]; omega
 ·have h1:decide ((s.length:Int) > 8192)=false:=decide_eq_false (by omega)
  obtain ⟨i1,i2⟩:=F1e s (by omega) (s.length+1) 0 [] (by omega) (by omega) (by simp)
  rw [h1,if_neg (by simp),if_neg h,if_neg (by simp)]
  have hw:Vq [] (Qg (s.length+1) s 0)=Qg (s.length+1) s 0:=by
   unfold Vq
   split
   ·rename_i hz
    have:=E1e _ _ _ hz
    rw [List.nil_append,← this]
   ·rfl
  rw [List.drop_zero,hw] at i1 i2
  exact ⟨i1,i2⟩
end Go.Proofs.YtmnhfbekncjnfaaGreatDoor

namespace Go.Proofs.YtmnhfbekncjnfaaGreatDoor
open Go.Am
abbrev mk (l:List K0)(k:Nat)(e:Int):B0:=B0.mk l (k:Int) e
theorem Qm {α:Type}(l:List α)(k:Nat):idx l (k:Int)=l[k]?:=by
 unfold idx
 rw [if_pos (by omega)]
 simp
theorem Tk {α:Type}{l:List α}{k:Nat}{x:α}(h:l[k]?=some x):k < l.length:=(List.getElem?_eq_some_iff.1 h).1
theorem G1e {α:Type}{l:List α}{k:Nat}(h:l[k]?=none):l.length≤k:=List.getElem?_eq_none_iff.1 h
theorem dlt {α:Type}{l:List α}{k:Nat}{x:α}(h:l[k]?=some x):decide ((k:Int) < (l.length:Int))=true:=by have:=Tk h; exact decide_eq_true (by omega)
theorem Q1c {α:Type}{l:List α}{k:Nat}(h:l[k]?=none):decide ((k:Int) < (l.length:Int))=false:=by have:=G1e h; exact decide_eq_false (by omega)
theorem dge {α:Type}{l:List α}{k:Nat}{x:α}(h:l[k]?=some x):decide ((k:Int)≥(l.length:Int))=false:=by have:=Tk h; exact decide_eq_false (by omega)
theorem C1g {α:Type}{l:List α}{k:Nat}(h:l[k]?=none):decide ((k:Int)≥(l.length:Int))=true:=by have:=G1e h; exact decide_eq_true (by omega)
def isT (l:List K0)(k:Nat)(t:Str):Bool:=match l[k]? with
 | some x=>x.Text == t&&(x.Kind == 2||x.Kind == 3)
 | none=>false
def P4 (l:List K0)(k:Nat)(c:Int):Bool:=match l[k]? with
 | some x=>x.Kind == c
 | none=>false
def txt (l:List K0)(k:Nat):Str:=match l[k]? with
 | some x=>x.Text
 | none=>[]
def off (l:List K0)(e:Int)(k:Nat):Int:=match l[k]? with
 | some x=>x.At
 | none=>e
def step (b:Bool)(k:Nat):Nat:=bif b then k+1 else k
theorem Z3 (k:Nat):step true k=k+1:=rfl
theorem F3 (k:Nat):step false k=k:=rfl
theorem L1 {l:List K0}{k:Nat}{t:Str}(h:isT l k t=true):k < l.length:=by
 unfold isT at h
 split at h
 ·rename_i hx; exact Tk hx
 ·cases h
theorem Kh {l:List K0}{k:Nat}{c:Int}(h:P4 l k c=true):k < l.length:=by
 unfold P4 at h
 split at h
 ·rename_i hx; exact Tk hx
 ·cases h
theorem La {l:List K0}{k:Nat}{t:Str}(h:isT l k t=true):P4 l k 0=false∧P4 l k 1=false∧txt l k=t:=by
 unfold isT at h
 unfold P4 txt
 split at h
 ·rename_i x hx
  rw [Bool.and_eq_true] at h
  have ht:=eq_of_beq h.1
  rw [Bool.or_eq_true] at h
  rcases h.2 with h2 | h2 <;> rw [eq_of_beq h2] <;> exact ⟨rfl,rfl,ht⟩
 ·cases h
theorem Uk {l:List K0}{k:Nat}{t t':Str}(h:isT l k t=true)(hn:(t == t')=false):isT l k t'=false:=by
 cases h':isT l k t' with
 | false=>rfl
 | true=>
  have:=(La h).2.2.symm.trans (La h').2.2
  rw [this] at hn
  simp at hn
theorem M1n {l:List K0}{k:Nat}(h:P4 l k 0=true)(t:Str):isT l k t=false:=by
 cases h':isT l k t with
 | false=>rfl
 | true=>rw [(La h').1] at h; cases h
section
set_option linter.unusedSectionVars false
variable (l:List K0)(e:Int)(hl:l.length≤BB)
include hl
theorem N1n (k:Nat)(t:Str):M8 t (mk l k e)=some (isT l k t):=by
 unfold M8 isT
 simp only
 cases h:l[k]? with
 | none=>rw [C1g h,if_pos rfl]
 | some x=>
  rw [dge h,if_neg (by simp),Qm,h,ob]
  show some _=some (x.Text == t&&(x.Kind == 2||x.Kind == 3))
  cases x.Text == t <;> cases x.Kind == 2 <;> rfl
theorem P2 (k:Nat)(t:Str):O0 t (mk l k e)=some (isT l k t,mk l (step (isT l k t) k) e):=by
 unfold O0
 rw [N1n l e hl,ob]
 cases h:isT l k t with
 | false=>rfl
 | true=>
  have:=L1 h
  simp only [Bool.not_true,Bool.false_eq_true,if_false]
  rw [w1 (by omega)]
  rfl
theorem Rz (k:Nat):B5 (mk l k e)=some (P4 l k 0):=by
 unfold B5 P4
 simp only
 cases h:l[k]? with
 | none=>rw [Q1c h,if_neg (by simp),ob]; rfl
 | some x=>rw [dlt h,if_pos rfl,Qm,h,ob]; rfl
theorem T16 (k:Nat):I5 (mk l k e)=some (.pn (off l e k)):=by
 unfold I5 off
 simp only
 cases h:l[k]? with
 | none=>rw [Q1c h,if_neg (by simp)]
 | some x=>rw [dlt h,if_pos rfl,Qm,h,ob]
theorem L1i (k:Nat)(c:Int):C7 c (mk l k e)=if P4 l k c=true then some (.ok (txt l k,mk l (k+1) e)) else some (.pn (off l e k)):=by
 unfold C7
 rw [T16 l e hl,ob]
 unfold P4 txt
 simp only
 cases h:l[k]? with
 | none=>rw [C1g h,Bool.not_true,if_neg (by simp),ob,cond_true,if_pos rfl,if_neg (by simp)]
 | some x=>
  have:=Tk h
  rw [dge h,Bool.not_false,if_pos rfl,Qm,h,ob,cond_false]
  cases hk:x.Kind == c with
  | false=>simp only [bne,hk,Bool.not_false,if_true,Bool.false_eq_true,if_false]
  | true=>
   simp only [bne,hk,Bool.not_true,Bool.false_eq_true,if_false,if_true]
   unfold V6
   simp only
   rw [w1 (by omega),wr (n:=((k+1:Nat):Int) - 1) (by omega) (by unfold BB at *; omega),show ((k+1:Nat):Int) - 1=(k:Int) by omega,Qm,h,ob]
theorem Bm (k:Nat):V2 (mk l k e)=if P4 l k 0=true then some (.ok (txt l k,mk l (k+1) e)) else some (.pn (off l e k)):=by
 unfold V2
 rw [L1i l e hl]
 cases P4 l k 0 <;> rfl
theorem S3 (k:Nat)(t:Str):R0 t (mk l k e)=if isT l k t=true then some (.ok (mk l (k+1) e)) else some (.pn (off l e k)):=by
 unfold R0
 rw [P2 l e hl,ob]
 cases h:isT l k t with
 | true=>rfl
 | false=>
  simp only [Bool.not_false,if_true,step,cond_false,Bool.false_eq_true,if_false]
  rw [T16 l e hl,ob]
theorem F2 (k:Nat)(t:Str):U0 l k t=some (isT l k t):=by
 unfold U0 isT
 cases h:l[k]? with
 | none=>rw [Q1c h]; rfl
 | some x=>
  rw [dlt h,Qm,h]
  simp only [if_true,ob,Bool.true_and,cond_true]
  by_cases h2:x.Kind=2 <;> by_cases h3:x.Kind=3 <;> by_cases ht:x.Text=t <;> first | (simp [ob,h2,h3,ht]; done) | (simp [ob,h2,h3,ht]; rw [beq_eq_false_iff_ne.2 h2,beq_eq_false_iff_ne.2 h3]; simp)
theorem Pe (k:Nat):Z7 l k=if P4 l k 0=true then some (txt l k,((k+1:Nat):Int),true) else some ([],(k:Int),false):=by
 unfold Z7 P4 txt
 cases h:l[k]? with
 | none=>rw [Q1c h]; rfl
 | some x=>
  have:=Tk h
  rw [dlt h,Qm,h,if_pos rfl,ob,cond_true,w1 (by omega)]
  show _=if (x.Kind == 0)=true then some (x.Text,((k+1:Nat):Int),true) else some ([],(k:Int),false)
  cases h2:x.Kind == 0 <;> rfl
end
end Go.Proofs.YtmnhfbekncjnfaaGreatDoor

namespace Go.Proofs.YtmnhfbekncjnfaaGreatDoor
open Go.Am
structure Tok (x:K0):Prop where
 len:x.Text.length≤8192
 word:x.Kind=2→∃ c t,x.Text=c::t∧Ac c.toNat=true
 num:x.Kind=1→x.Text≠[]∧x.Text.all (fun c=>Ea c.toNat)=true∧x.Text.length≤7∧nv 0 x.Text≤1048576
def Uh (l:List K0):Prop:=l.length≤BB∧∀ x∈l,Tok x
theorem Gj {l:List K0}(h:Uh l)(k:Nat):(txt l k).length≤8192:=by
 unfold txt
 cases hx:l[k]? with
 | none=>simp
 | some x=>exact (h.2 x (List.mem_of_getElem? hx)).len
def isS (l:List K0)(k:Nat)(t:Str):Bool:=match l[k]? with
 | some x=>x.Kind == 3&&x.Text == t
 | none=>false
def H1l (t:Str):Bool:=match t with
 | c::_=>!Ac c.toNat
 | []=>true
theorem Kf {l:List K0}(h:Uh l){k:Nat}{t:Str}(ht:H1l t=true):isT l k t=isS l k t:=by
 unfold isT isS
 cases hx:l[k]? with
 | none=>rfl
 | some x=>
  simp only
  by_cases h2:x.Kind=2
  ·obtain ⟨c,r,e,hc⟩:=(h.2 x (List.mem_of_getElem? hx)).word h2
   have:(x.Text == t)=false:=beq_eq_false_iff_ne.2 fun he=>by
    rw [← he,e] at ht
    simp [H1l,hc] at ht
   rw [this,h2]
   rfl
  ·rw [beq_eq_false_iff_ne.2 h2,Bool.false_or,Bool.and_comm]
def opT (t:Str):Int×Int:=
 if t == [124,124] then (20,1) else if t == [38,38] then (19,2) else if t == [61,61] then (13,3) else if t == [33,61] then (14,3) else if t == [60] then (15,3) else if t == [60,61] then (16,3)
 else if t == [62] then (17,3) else if t == [62,61] then (18,3) else if t == [43] then (8,4) else if t == [45] then (9,4) else if t == [42] then (10,5) else if t == [47] then (11,5) else if t == [37] then (12,5) else (0,0)
def ops:List Str:=[[124,124],[38,38],[61,61],[33,61],[60],[60,61],[62],[62,61],[43],[45],[42],[47],[37]]
theorem Cp (t:Str):t∈ops∨∀ s∈ops,(t == s)=false:=by
 by_cases h:t∈ops
 ·exact .inl h
 ·exact .inr fun s hs=>beq_eq_false_iff_ne.2 fun e=>h (e ▸ hs)
theorem Qn (l:List K0)(k:Nat)(n:Int):O5 l k n=some (match l[k]? with
  | some x=>if x.Kind == 3 then ((opT x.Text).1,(opT x.Text).2 == n) else (0,false)
  | none=>(0,false)):=by
 unfold O5
 cases h:l[k]? with
 | none=>rw [C1g h,Bool.not_true,if_neg (by simp),ob,cond_true,if_pos rfl]
 | some x=>
  rw [dge h,Bool.not_false,if_pos rfl,Qm,h,ob,cond_false]
  cases h3:x.Kind == 3 with
  | false=>simp only [bne,h3,Bool.not_false,if_true,Bool.false_eq_true,if_false]
  | true=>
   simp only [bne,h3,Bool.not_true,Bool.false_eq_true,if_false,if_true,ob]
   unfold opT
   generalize (x.Text == [124,124])=b0
   generalize (x.Text == [38,38])=b1
   generalize (x.Text == [61,61])=b2
   generalize (x.Text == [33,61])=b3
   generalize (x.Text == [60])=b4
   generalize (x.Text == [60,61])=b5
   generalize (x.Text == [62])=b6
   generalize (x.Text == [62,61])=b7
   generalize (x.Text == [43])=b8
   generalize (x.Text == [45])=b9
   generalize (x.Text == [42])=b10
   generalize (x.Text == [47])=b11
   generalize (x.Text == [37])=b12
   cases b0 with
   | true=>rfl
   | false=>
    cases b1 with
    | true=>rfl
    | false=>
     cases b2 with
     | true=>rfl
     | false=>
      cases b3 with
      | true=>rfl
      | false=>
       cases b4 with
       | true=>rfl
       | false=>
        cases b5 with
        | true=>rfl
        | false=>
         cases b6 with
         | true=>rfl
         | false=>
          cases b7 with
          | true=>rfl
          | false=>
           cases b8 with
           | true=>rfl
           | false=>
            cases b9 with
            | true=>rfl
            | false=>
             cases b10 with
             | true=>rfl
             | false=>
              cases b11 with
              | true=>rfl
              | false=>
               cases b12 with
               | true=>rfl
               | false=>
                rfl
theorem Gv (op:Int)(a b:A0):Rt op a b=some (A0.mk op 0 [] [a,b]):=rfl
theorem Hv {t:Str}(h:∀ s∈ops,(t == s)=false):opT t=(0,0):=by
 unfold opT
 have a:=fun s hs=>h s hs
 rw [a [124,124] (by decide),a [38,38] (by decide),a [61,61] (by decide),a [33,61] (by decide),a [60] (by decide),a [60,61] (by decide),a [62] (by decide),a [62,61] (by decide),a [43] (by decide),a [45] (by decide),a [42] (by decide),a [47] (by decide),a [37] (by decide)]
 rfl
theorem N1o (t:Str):((opT t).2 == 1)=(t == [124,124])∧(((opT t).2 == 1)=true→(opT t).1=(20:Int)):=by
 rcases Cp t with h | h
 ·simp only [ops,List.mem_cons,List.not_mem_nil,or_false] at h
  rcases h with rfl | rfl | rfl | rfl | rfl | rfl | rfl | rfl | rfl | rfl | rfl | rfl | rfl <;> decide
 ·rw [Hv h,h [124,124] (by decide)]
  decide
theorem O1n (t:Str):((opT t).2 == 2)=(t == [38,38])∧(((opT t).2 == 2)=true→(opT t).1=(19:Int)):=by
 rcases Cp t with h | h
 ·simp only [ops,List.mem_cons,List.not_mem_nil,or_false] at h
  rcases h with rfl | rfl | rfl | rfl | rfl | rfl | rfl | rfl | rfl | rfl | rfl | rfl | rfl <;> decide
 ·rw [Hv h,h [38,38] (by decide)]
  decide
theorem P1n (t:Str):((opT t).2 == 4)=(t == [43]||t == [45])∧(((opT t).2 == 4)=true→(opT t).1=(if t == [43] then 8 else 9:Int)):=by
 rcases Cp t with h | h
 ·simp only [ops,List.mem_cons,List.not_mem_nil,or_false] at h
  rcases h with rfl | rfl | rfl | rfl | rfl | rfl | rfl | rfl | rfl | rfl | rfl | rfl | rfl <;> decide
 ·rw [Hv h,h [43] (by decide),h [45] (by decide)]
  decide
theorem G1m (t:Str):((opT t).2 == 5)=(t == [42]||t == [47]||t == [37])∧(((opT t).2 == 5)=true→(opT t).1=(if t == [42] then 10 else if t == [47] then 11 else 12:Int)):=by
 rcases Cp t with h | h
 ·simp only [ops,List.mem_cons,List.not_mem_nil,or_false] at h
  rcases h with rfl | rfl | rfl | rfl | rfl | rfl | rfl | rfl | rfl | rfl | rfl | rfl | rfl <;> decide
 ·rw [Hv h,h [42] (by decide),h [47] (by decide),h [37] (by decide)]
  decide
theorem Q1n (t:Str):((opT t).2 == 3)=(t == [61,61]||t == [33,61]||t == [60]||t == [60,61]||t == [62]||t == [62,61])∧(((opT t).2 == 3)=true→(opT t).1=(if t == [61,61] then 13 else if t == [33,61] then 14 else if t == [60] then 15 else if t == [60,61] then 16 else if t == [62] then 17 else 18:Int)):=by
 rcases Cp t with h | h
 ·simp only [ops,List.mem_cons,List.not_mem_nil,or_false] at h
  rcases h with rfl | rfl | rfl | rfl | rfl | rfl | rfl | rfl | rfl | rfl | rfl | rfl | rfl <;> decide
 ·rw [Hv h,h [61,61] (by decide),h [33,61] (by decide),h [60] (by decide),h [60,61] (by decide),h [62] (by decide),h [62,61] (by decide)]
  decide
theorem U16:∀ (r:List UInt8) (n:Nat),r.all (fun c=>Ea c.toNat)=true→Lib.decFrom n r=some (nv n r)
 | [],n,_=>by rw [Oy]; rfl
 | c::r,n,h=>by
  rw [List.all_cons,Bool.and_eq_true] at h
  have hc:=Nn.1 h.1
  have hd:Lib.digitVal c=some (c.toNat - 48):=if_pos hc
  unfold Lib.decFrom
  rw [hd,Uq,Nat.mul_comm 10 n]
  exact U16 r _ h.2
theorem H1m {s:Str}(hne:s≠[])(h:s.all (fun c=>Ea c.toNat)=true):Lib.atoi s=some (nv 0 s:Int):=by
 cases s with
 | nil=>exact absurd rfl hne
 | cons c r=>
  have hc:=Nn.1 (by rw [List.all_cons,Bool.and_eq_true] at h; exact h.1)
  have h1:(c == 45)=false:=beq_eq_false_iff_ne.2 fun e=>by rw [e] at hc; exact absurd hc.1 (by decide)
  have h2:(c == 43)=false:=beq_eq_false_iff_ne.2 fun e=>by rw [e] at hc; exact absurd hc.1 (by decide)
  unfold Lib.atoi
  simp only [h1,h2,Bool.false_eq_true,if_false]
  unfold Lib.decNat
  rw [if_neg (by simp),U16 _ 0 h]
  rfl
theorem I1m {s:Str}(hne:s≠[])(h:s.all (fun c=>Ea c.toNat)=true)(hl:s.length≤7):Sx s=some (nv 0 s:Int):=by
 unfold Sx
 rw [if_pos (decide_eq_true (by omega)),H1m hne h]
section
set_option linter.unusedSectionVars false
variable (l:List K0)(e:Int)(hl:Uh l)
include hl
theorem Ms {k:Nat}{t:Str}(h:isS l k t=true):k < l.length:=by
 unfold isS at h
 split at h
 ·rename_i hx; exact Tk hx
 ·cases h
theorem O1o (k:Nat):∃ o b,N8 (mk l k e)=some (20,b,mk l (step b k) e)∧O5 l k 1=some (o,b)∧(b=true→o=20∧k < l.length):=by
 unfold N8
 rw [P2 l e hl.1,Kf hl rfl,ob,Qn]
 have hlt:=Ms l hl (k:=k) (t:=[124,124])
 revert hlt
 unfold isS
 cases h:l[k]? with
 | none=>exact fun _=>⟨_,_,rfl,rfl,nofun⟩
 | some x=>
  simp only
  obtain ⟨h1,h2⟩:=N1o x.Text
  cases hk:x.Kind == 3 with
  | false=>exact fun _=>⟨_,_,rfl,rfl,nofun⟩
  | true=>
   simp only [Bool.true_and,if_true,h1]
   rw [h1] at h2
   exact fun hlt=>⟨_,_,rfl,rfl,fun hb=>⟨h2 hb,hlt hb⟩⟩
theorem R1n (k:Nat):∃ o b,W7 (mk l k e)=some (19,b,mk l (step b k) e)∧O5 l k 2=some (o,b)∧(b=true→o=19∧k < l.length):=by
 unfold W7
 rw [P2 l e hl.1,Kf hl rfl,ob,Qn]
 have hlt:=Ms l hl (k:=k) (t:=[38,38])
 revert hlt
 unfold isS
 cases h:l[k]? with
 | none=>exact fun _=>⟨_,_,rfl,rfl,nofun⟩
 | some x=>
  simp only
  obtain ⟨h1,h2⟩:=O1n x.Text
  cases hk:x.Kind == 3 with
  | false=>exact fun _=>⟨_,_,rfl,rfl,nofun⟩
  | true=>
   simp only [Bool.true_and,if_true,h1]
   rw [h1] at h2
   exact fun hlt=>⟨_,_,rfl,rfl,fun hb=>⟨h2 hb,hlt hb⟩⟩
theorem P1o (k:Nat):∃ o,O5 l k 4=some (o,(isS l k [43]||isS l k [45]))∧((isS l k [43]||isS l k [45])=true→o=(if isS l k [43] then 8 else 9:Int)):=by
 rw [Qn]
 unfold isS
 cases h:l[k]? with
 | none=>exact ⟨_,rfl,nofun⟩
 | some x=>
  simp only
  obtain ⟨h1,h2⟩:=P1n x.Text
  rcases Bool.eq_false_or_eq_true (x.Kind == 3) with hk | hk
  ·rw [h1] at h2
   simp only [hk,Bool.true_and,if_true,h1]
   exact ⟨_,rfl,h2⟩
  ·simp only [hk,Bool.false_and,Bool.or_false,Bool.false_eq_true,if_false]
   exact ⟨_,rfl,nofun⟩
theorem S1n (k:Nat):∃ o,O5 l k 5=some (o,(isS l k [42]||isS l k [47]||isS l k [37]))∧((isS l k [42]||isS l k [47]||isS l k [37])=true→o=(if isS l k [42] then 10 else if isS l k [47] then 11 else 12:Int)):=by
 rw [Qn]
 unfold isS
 cases h:l[k]? with
 | none=>exact ⟨_,rfl,nofun⟩
 | some x=>
  simp only
  obtain ⟨h1,h2⟩:=G1m x.Text
  rcases Bool.eq_false_or_eq_true (x.Kind == 3) with hk | hk
  ·rw [h1] at h2
   simp only [hk,Bool.true_and,if_true,h1]
   exact ⟨_,rfl,h2⟩
  ·simp only [hk,Bool.false_and,Bool.or_false,Bool.false_eq_true,if_false]
   exact ⟨_,rfl,nofun⟩
theorem Q1o (k:Nat):∃ o,O5 l k 3=some (o,(isS l k [61,61]||isS l k [33,61]||isS l k [60]||isS l k [60,61]||isS l k [62]||isS l k [62,61]))∧((isS l k [61,61]||isS l k [33,61]||isS l k [60]||isS l k [60,61]||isS l k [62]||isS l k [62,61])=true→o=(if isS l k [61,61] then 13 else if isS l k [33,61] then 14 else if isS l k [60] then 15 else if isS l k [60,61] then 16 else if isS l k [62] then 17 else 18:Int)):=by
 rw [Qn]
 unfold isS
 cases h:l[k]? with
 | none=>exact ⟨_,rfl,nofun⟩
 | some x=>
  simp only
  obtain ⟨h1,h2⟩:=Q1n x.Text
  rcases Bool.eq_false_or_eq_true (x.Kind == 3) with hk | hk
  ·rw [h1] at h2
   simp only [hk,Bool.true_and,if_true,h1]
   exact ⟨_,rfl,h2⟩
  ·simp only [hk,Bool.false_and,Bool.or_false,Bool.false_eq_true,if_false]
   exact ⟨_,rfl,nofun⟩
theorem T1n (k:Nat):∃ o o' b,V7 (mk l k e)=some (o',b,mk l (step b k) e)∧O5 l k 4=some (o,b)∧(b=true→o=o'∧k < l.length):=by
 obtain ⟨o,h1,h2⟩:=P1o l hl k
 unfold V7
 rw [P2 l e hl.1,Kf hl rfl,ob]
 cases ha:isS l k [43] with
 | true=>rw [ha] at h1 h2; exact ⟨_,_,_,rfl,h1,fun _=>⟨h2 rfl,Ms l hl ha⟩⟩
 | false=>
  rw [ha] at h1 h2
  simp only [step,cond_false,Bool.false_eq_true,if_false]
  rw [P2 l e hl.1,Kf hl rfl,ob]
  exact ⟨_,_,isS l k [45],rfl,h1,fun hb=>⟨h2 (by rw [hb]; rfl),Ms l hl hb⟩⟩
theorem J1m (k:Nat):∃ o o' b,X5 (mk l k e)=some (o',b,mk l (step b k) e)∧O5 l k 5=some (o,b)∧(b=true→o=o'∧k < l.length):=by
 obtain ⟨o,h1,h2⟩:=S1n l hl k
 unfold X5
 rw [P2 l e hl.1,Kf hl rfl,ob]
 cases ha:isS l k [42] with
 | true=>rw [ha] at h1 h2; exact ⟨_,_,_,rfl,h1,fun _=>⟨h2 rfl,Ms l hl ha⟩⟩
 | false=>
  rw [ha] at h1 h2
  simp only [step,cond_false,Bool.false_eq_true,if_false]
  rw [P2 l e hl.1,Kf hl rfl,ob]
  cases hb:isS l k [47] with
  | true=>rw [hb] at h1 h2; exact ⟨_,_,_,rfl,h1,fun _=>⟨h2 rfl,Ms l hl hb⟩⟩
  | false=>
   rw [hb] at h1 h2
   simp only [step,cond_false,Bool.false_eq_true,if_false]
   rw [P2 l e hl.1,Kf hl rfl,ob]
   exact ⟨_,_,isS l k [37],rfl,h1,fun hc=>⟨h2 (by rw [hc]; rfl),Ms l hl hc⟩⟩
def Sz (k:Nat):Int:=(nv 0 (txt l k):Int)
theorem T14 (k:Nat):C5 (mk l k e)=if P4 l k 1=true then some (.ok (Sz l k,mk l (k+1) e)) else some (.pn (off l e k)):=by
 unfold C5
 rw [L1i l e hl.1]
 cases h:P4 l k 1 with
 | false=>rfl
 | true=>
  have hx:Sx (txt l k)=some (Sz l k):=by
   unfold P4 at h
   unfold Sz txt
   cases hk:l[k]? with
   | none=>rw [hk] at h; cases h
   | some x=>
    rw [hk] at h
    obtain ⟨n1,n2,n3,_⟩:=(hl.2 x (List.mem_of_getElem? hk)).num (eq_of_beq h)
    exact I1m n1 n2 n3
  rw [if_pos rfl,ob]
  simp only [hx,ob]
  rfl
theorem R1c (x:K0)(k:Nat)(hx:l[k]?=some x)(hall:x.Text.all (fun c=>Ea c.toNat)=true)(hnv:nv 0 x.Text≤1048576)(hlen:x.Text.length≤7) :
  ∀ (r:Str) (i m:Nat),x.Text.drop i=r→nv m r≤1048576→r.all (fun c=>Ea c.toNat)=true→Wg l k m i=some ((nv m r:Int),((k+1:Nat):Int),true):=by
 have hk:=Tk hx
 have hB:=hl.1
 intro r
 induction r with
 | nil=>
  intro i m h hm _
  rw [Wg,Qm,hx,ob,(L2 h).1,if_neg (by simp),w1 (by omega),Oy]
 | cons c r ih=>
  intro i m h hm ha
  obtain ⟨h1,h2,h3,h4,_⟩:=J3 h
  rw [List.all_cons,Bool.and_eq_true] at ha
  rw [Uq] at hm ⊢
  have hc:=Nn.1 ha.1
  have hle:=G1l r (10 * m+(c.toNat - 48))
  have e1:IntKind.i64.wrap (IntKind.i64.wrap (10 * (m:Int))+IntKind.i64.wrap (IntKind.u8.wrap ((c.toNat:Int) - 48)))=((10 * m+(c.toNat - 48):Nat):Int):=by
   rw [Q1k ha.1,wr (n:=10 * (m:Int)) (by omega) (by omega),wr (by omega) (by omega)]; omega
  rw [Wg,Qm,hx,ob,h1,if_pos rfl,ob,h2,ob,e1,w1 (by unfold BB; omega)]
  exact ih (i+1) _ h3 hm ha.2
theorem Cm (k:Nat):Vf l k=if P4 l k 1=true then some (Sz l k,((k+1:Nat):Int),true) else some (0,(k:Int),false):=by
 unfold Vf P4 Sz txt
 cases h:l[k]? with
 | none=>rw [C1g h,Bool.not_true,if_neg (by simp),ob,cond_true,if_pos rfl,if_neg (by simp)]
 | some x=>
  rw [dge h,Bool.not_false,if_pos rfl,Qm,h,ob,cond_false]
  simp only
  cases hk:x.Kind == 1 with
  | false=>simp only [bne,hk,Bool.not_false,if_true,Bool.false_eq_true,if_false]
  | true=>
   simp only [bne,hk,Bool.not_true,Bool.false_eq_true,if_false,if_true]
   obtain ⟨n1,n2,n3,n4⟩:=(hl.2 x (List.mem_of_getElem? h)).num (eq_of_beq hk)
   exact R1c l hl x k h n2 n4 n3 x.Text 0 0 rfl n4 n2
end
end Go.Proofs.YtmnhfbekncjnfaaGreatDoor

namespace Go.Proofs.YtmnhfbekncjnfaaGreatDoor
open Go.Am
def J {α:Type}(l:List K0)(e:Int)(lo:Nat)(P:α→Nat→Prop)(p:Option (Pn (α×B0)))(r:Option (α×Int×Bool)):Prop:=
 (∃ v j,lo≤j∧j≤l.length∧P v j∧p=some (.ok (v,mk l j e))∧r=some (v,((j:Nat):Int),true))∨
 (∃ v j,j≤l.length∧p=some (.pn (off l e j))∧r=some (v,((j:Nat):Int),false))
section
variable {l:List K0}{e:Int}{α β:Type}
theorem J.ok {lo:Nat}{P:α→Nat→Prop}(v:α)(j:Nat)(h1:lo≤j)(h2:j≤l.length)(hP:P v j):J l e lo P (some (.ok (v,mk l j e))) (some (v,((j:Nat):Int),true)):=.inl ⟨v,j,h1,h2,hP,rfl,rfl⟩
theorem J.pn {lo:Nat}{P:α→Nat→Prop}(v:α)(j:Nat)(h2:j≤l.length):J l e lo P (some (.pn (off l e j))) (some (v,((j:Nat):Int),false)):=.inr ⟨v,j,h2,rfl,rfl⟩
theorem J.mono {lo lo':Nat}{P P':α→Nat→Prop}{p:Option (Pn (α×B0))}{r:Option (α×Int×Bool)}(h:J l e lo P p r)(hl:lo'≤lo)(hP:∀ v j,lo≤j→P v j→P' v j):J l e lo' P' p r:=by
 rcases h with ⟨v,j,h1,h2,h0,h3,h4⟩ | h
 ·exact .inl ⟨v,j,Nat.le_trans hl h1,h2,hP v j h1 h0,h3,h4⟩
 ·exact .inr h
theorem J.bind {lo lo':Nat}{P:α→Nat→Prop}{Q:β→Nat→Prop}{p:Option (Pn (α×B0))}{r:Option (α×Int×Bool)}(h:J l e lo P p r){F:Pn (α×B0)→Option (Pn (β×B0))}{g:α×Int×Bool→Option (β×Int×Bool)}(hF:∀ n,F (.pn n)=some (.pn n))
  (hg:∀ v (j:Nat),j≤l.length→∃ v',g (v,(j:Int),false)=some (v',(j:Int),false)) (hf:∀ v (j:Nat),lo≤j→j≤l.length→P v j→J l e lo' Q (F (.ok (v,mk l j e))) (g (v,(j:Int),true))) :
  J l e lo' Q (p>>=F) (r>>=g):=by
 rcases h with ⟨v,j,h1,h2,h0,rfl,rfl⟩ | ⟨v,j,h2,rfl,rfl⟩
 ·exact hf v j h1 h2 h0
 ·obtain ⟨v',hv⟩:=hg v j h2
  rw [ob,ob,hv,hF]
  exact .pn v' j h2
theorem J.same {lo:Nat}{P:α→Nat→Prop}{p:Option (Pn (α×B0))}{r:Option (α×Int×Bool)}(h:J l e lo P p r){F:Pn (α×B0)→Option (Pn (α×B0))}(hF:∀ n,F (.pn n)=some (.pn n))(hF2:∀ x,F (.ok x)=some (.ok (x.1,x.2))):J l e lo P (p>>=F) r:=by
 rcases h with ⟨v,j,h1,h2,h0,rfl,rfl⟩ | ⟨v,j,h2,rfl,rfl⟩
 ·rw [ob,hF2]; exact .ok v j h1 h2 h0
 ·rw [ob,hF]; exact .pn v j h2
theorem J.rsame {lo:Nat}{P:α→Nat→Prop}{p:Option (Pn (α×B0))}{r:Option (α×Int×Bool)}(h:J l e lo P p r):J l e lo P p (r>>=fun x=>some (x.1,x.2.1,x.2.2)):=by
 rcases h with ⟨v,j,h1,h2,h0,rfl,rfl⟩ | ⟨v,j,h2,rfl,rfl⟩
 ·exact .ok v j h1 h2 h0
 ·exact .pn v j h2
end
def BE (k:Nat)(v:A0)(j:Nat):Prop:=v.bulk≤9000 * (j - k)
def BO (o:Nat)(k:Nat)(v:A0)(j:Nat):Prop:=v.bulk≤o+9000 * (j - k)
theorem Af (op n:Int)(s:Str):(A0.mk op n s []).bulk=s.length+5:=by rw [A0.bulk_eq]; rfl
theorem I1l (op n:Int)(s:Str)(a:A0):(A0.mk op n s [a]).bulk=s.length+a.bulk+5:=by rw [A0.bulk_eq]; simp only [A0.bulks]; omega
theorem D1a (op n:Int)(s:Str)(a b:A0):(A0.mk op n s [a,b]).bulk=s.length+a.bulk+b.bulk+5:=by rw [A0.bulk_eq]; simp only [A0.bulks]; omega
theorem R1o (op n:Int)(s:Str)(a b c:A0):(A0.mk op n s [a,b,c]).bulk=s.length+a.bulk+b.bulk+c.bulk+5:=by rw [A0.bulk_eq]; simp only [A0.bulks]; omega
structure PE (l:List K0)(e:Int)(k:Nat):Prop where
 expr:J l e (k+1) (BE k) (D1 (mk l k e)) (B2 l k)
 un:J l e (k+1) (BE k) (U3 (mk l k e)) (Gb l k)
 prodL:∀ o,J l e k (BO o.bulk k) (E3 (mk l k e) o) (O2 l 5 o k)
 prod:J l e (k+1) (BE k) (S4 (mk l k e)) (I2 l k 5)
 sumL:∀ o,J l e k (BO o.bulk k) (D3 (mk l k e) o) (O2 l 4 o k)
 sum:J l e (k+1) (BE k) (V5 (mk l k e)) (I2 l k 4)
 cmp:J l e (k+1) (BE k) (X3 (mk l k e)) (I2 l k 3)
 andL:∀ o,J l e k (BO o.bulk k) (C3 (mk l k e) o) (O2 l 2 o k)
 and:J l e (k+1) (BE k) (O6 (mk l k e)) (I2 l k 2)
 orL:∀ o,J l e k (BO o.bulk k) (W3 (mk l k e) o) (O2 l 1 o k)
 or:J l e (k+1) (BE k) (O8 (mk l k e)) (I2 l k 1)
 placeL:∀ op name kids,J l e k (BO (A0.mk op 0 name kids).bulk k) (I4 (mk l k e) op name kids) (C9 l op 0 name kids k)
section
set_option linter.unusedSectionVars false
variable {l:List K0}{e:Int}(hl:Uh l)
include hl
theorem Z12 {k:Nat}{n:Int}{o:A0}{un:B0→Option (Pn (A0×B0))}{chain:B0→A0→Option (Pn (A0×B0))}{b:Bool}{op op':Int}{F:Pn (A0×B0)→Option (Pn (A0×B0))}(hF:∀ n,F (.pn n)=some (.pn n))(hF2:∀ x,F (.ok x)=chain x.2 (A0.mk op' 0 [] [o,x.1]))(hk:k≤l.length)(hn:n≠3)
  (hb:O5 l k n=some (op,b)) (hop:b=true→op=op'∧k < l.length)
  (hun:k < l.length→J l e (k+2) (BE (k+1)) (un (mk l (k+1) e)) (I2 l ((k+1:Nat):Int) (IntKind.i64.wrap (n+1))))
  (hch:∀ j,k < j→j≤l.length→∀ o,J l e j (BO o.bulk j) (chain (mk l j e) o) (O2 l n o (j:Int))) :
  J l e k (BO o.bulk k) (if (!b)=true then some (.ok (o,mk l (step b k) e)) else un (mk l (step b k) e)>>=F) (O2 l n o (k:Int)):=by
 rw [O2,hb,ob]
 cases b with
 | false=>exact .ok o k (Nat.le_refl _) hk (by unfold BO; omega)
 | true=>
  obtain ⟨rfl,hlt⟩:=hop rfl
  have hB:=hl.1
  simp only [Bool.not_true,Bool.false_eq_true,if_false,step,cond_true]
  rw [w1 (by omega)]
  refine J.bind (hun hlt) hF ?_ ?_
  ·exact fun v j hj=>⟨v,rfl⟩
  intro v j h1 h2 h0
  simp only [Bool.not_true,Bool.false_eq_true,if_false,Gv,ob,beq_eq_false_iff_ne.2 hn]
  rw [hF2]
  refine (hch j (by omega) h2 _).mono (by omega) fun v' j' h3 h4=>?_
  unfold BO at h4 ⊢
  unfold BE at h0
  rw [D1a] at h4
  simp only [List.length_nil] at h4
  omega
theorem M1i (k:Nat)(n:Nat)(hn:n < 6):I2 l k n=(I2 l k ((n+1:Nat):Int)>>=fun x2=>if (!x2.2.2)=true then some (x2.1,x2.2.1,false) else O2 l n x2.1 x2.2.1):=by
 rw [I2,if_neg (by simp; omega),w1 (by unfold BB; omega)]
theorem H1e (k:Nat):I2 l k 6=(Gb l k>>=fun x1=>some (x1.1,x1.2.1,x1.2.2)):=by
 rw [I2]
 simp only [beq_self_eq_true,if_true]
theorem A13 {k:Nat}{n:Nat}{p:Option (Pn (A0×B0))}{chain:B0→A0→Option (Pn (A0×B0))}{F:Pn (A0×B0)→Option (Pn (A0×B0))}(hF:∀ n,F (.pn n)=some (.pn n))(hF2:∀ x,F (.ok x)=chain x.2 x.1)(hn:n < 6)(h:J l e (k+1) (BE k) p (I2 l k ((n+1:Nat):Int)))
  (hch:∀ j,k < j→j≤l.length→∀ o,J l e j (BO o.bulk j) (chain (mk l j e) o) (O2 l n o (j:Int))) :
  J l e (k+1) (BE k) (p>>=F) (I2 l k n):=by
 rw [M1i hl k n hn]
 refine J.bind h hF ?_ ?_
 ·exact fun v j _=>⟨v,rfl⟩
 ·intro v j h1 h2 h0
  rw [hF2]
  refine (hch j (by omega) h2 v).mono h1 fun v' j' h3 h4=>?_
  unfold BO at h4
  unfold BE at h0 ⊢
  omega
section
variable {k:Nat}(hk:k≤l.length)(IH:∀ j,k < j→j≤l.length→PE l e j)
include hk IH
theorem K1m (o:A0):J l e k (BO o.bulk k) (E3 (mk l k e) o) (O2 l 5 o k):=by
 obtain ⟨op,op',b,h1,h2,h3⟩:=J1m l e hl k
 rw [E3,h1,ob]
 have hB:=hl.1
 refine Z12 hl (chain:=E3) (fun _=>rfl) (fun _=>rfl) hk (by decide) h2 h3 (fun hlt=>?_) fun j h4 h5 o=>(IH j h4 h5).prodL o
 rw [show IntKind.i64.wrap (5+1)=6 by decide,H1e hl]
 exact J.rsame (IH (k+1) (by omega) (by omega)).un
theorem U1n (o:A0):J l e k (BO o.bulk k) (D3 (mk l k e) o) (O2 l 4 o k):=by
 obtain ⟨op,op',b,h1,h2,h3⟩:=T1n l e hl k
 rw [D3,h1,ob]
 refine Z12 hl (chain:=D3) (fun _=>rfl) (fun _=>rfl) hk (by decide) h2 h3 (fun hlt=>?_) fun j h4 h5 o=>(IH j h4 h5).sumL o
 rw [show IntKind.i64.wrap (4+1)=5 by decide]
 exact (IH (k+1) (by omega) (by omega)).prod
theorem V1n (o:A0):J l e k (BO o.bulk k) (C3 (mk l k e) o) (O2 l 2 o k):=by
 obtain ⟨op,b,h1,h2,h3⟩:=R1n l e hl k
 rw [C3,h1,ob]
 refine Z12 hl (chain:=C3) (fun _=>rfl) (fun _=>rfl) hk (by decide) h2 h3 (fun hlt=>?_) fun j h4 h5 o=>(IH j h4 h5).andL o
 rw [show IntKind.i64.wrap (2+1)=3 by decide]
 exact (IH (k+1) (by omega) (by omega)).cmp
theorem S1o (o:A0):J l e k (BO o.bulk k) (W3 (mk l k e) o) (O2 l 1 o k):=by
 obtain ⟨op,b,h1,h2,h3⟩:=O1o l e hl k
 rw [W3,h1,ob]
 refine Z12 hl (chain:=W3) (fun _=>rfl) (fun _=>rfl) hk (by decide) h2 h3 (fun hlt=>?_) fun j h4 h5 o=>(IH j h4 h5).orL o
 rw [show IntKind.i64.wrap (1+1)=2 by decide]
 exact (IH (k+1) (by omega) (by omega)).and
theorem W1n (hu:J l e (k+1) (BE k) (U3 (mk l k e)) (Gb l k)):J l e (k+1) (BE k) (S4 (mk l k e)) (I2 l k 5):=by
 rw [S4,Y9]
 refine J.same ?_ (fun _=>rfl) fun _=>rfl
 refine A13 hl (n:=5) (chain:=E3) ?_ ?_ (by decide) ?_ fun j h4 h5 o=>(IH j h4 h5).prodL o
 ·exact fun _=>rfl
 ·exact fun _=>rfl
 show J l e (k+1) (BE k) _ (I2 l k 6)
 rw [H1e hl]
 exact J.rsame hu
theorem T1o (h:J l e (k+1) (BE k) (S4 (mk l k e)) (I2 l k 5)):J l e (k+1) (BE k) (V5 (mk l k e)) (I2 l k 4):=by
 rw [V5,X9]
 refine J.same ?_ (fun _=>rfl) fun _=>rfl
 refine A13 hl (n:=4) (chain:=D3) ?_ ?_ (by decide) h fun j h4 h5 o=>(IH j h4 h5).sumL o
 ·exact fun _=>rfl
 ·exact fun _=>rfl
theorem U1o (h:J l e (k+1) (BE k) (X3 (mk l k e)) (I2 l k 3)):J l e (k+1) (BE k) (O6 (mk l k e)) (I2 l k 2):=by
 rw [O6,W9]
 refine J.same ?_ (fun _=>rfl) fun _=>rfl
 refine A13 hl (n:=2) (chain:=C3) ?_ ?_ (by decide) h fun j h4 h5 o=>(IH j h4 h5).andL o
 ·exact fun _=>rfl
 ·exact fun _=>rfl
theorem K1p (h:J l e (k+1) (BE k) (O6 (mk l k e)) (I2 l k 2)):J l e (k+1) (BE k) (O8 (mk l k e)) (I2 l k 1):=by
 rw [O8,Hc]
 refine J.same ?_ (fun _=>rfl) fun _=>rfl
 refine A13 hl (n:=1) (chain:=W3) ?_ ?_ (by decide) h fun j h4 h5 o=>(IH j h4 h5).orL o
 ·exact fun _=>rfl
 ·exact fun _=>rfl
end
end
end Go.Proofs.YtmnhfbekncjnfaaGreatDoor

namespace Go.Proofs.YtmnhfbekncjnfaaGreatDoor
open Go.Am
section
set_option linter.unusedSectionVars false
variable {l:List K0}{e:Int}(hl:Uh l)
include hl
section
variable {k:Nat}(hk:k≤l.length)(IH:∀ j,k < j→j≤l.length→PE l e j)
include hk IH
theorem X1n {op:Int}{x1:A0×B0}(hlt:k < l.length)(hop:O5 l k 3=some (op,true))(p:B0)(hp:p=mk l (k+1) e) :
  J l e k (BO x1.1.bulk k) (N1 p x1 op) (O2 l 3 x1.1 k):=by
 subst hp
 have hB:=hl.1
 rw [N1,O2,hop,ob]
 simp only [Bool.not_true,Bool.false_eq_true,if_false]
 rw [w1 (by omega),show IntKind.i64.wrap (3+1)=4 by decide]
 refine J.bind (IH (k+1) (by omega) (by omega)).sum ?_ ?_ ?_
 ·exact fun _=>rfl
 ·exact fun v j _=>⟨v,rfl⟩
 ·intro v j h1 h2 h0
  simp only [Bool.not_true,Bool.false_eq_true,if_false,Gv,ob,beq_self_eq_true,if_true]
  refine .ok _ j (by omega) h2 ?_
  unfold BO
  unfold BE at h0
  rw [D1a]
  simp only [List.length_nil]
  omega
theorem Y1n (x1:A0×B0)(hx:x1.2=mk l k e):J l e k (BO x1.1.bulk k) (O0 [61,61] x1.2>>=fun x2=>
 if x2.1=true then
  N1 x2.2 x1 13
 else
  O0 [33,61] x2.2>>=fun x4=>
  if x4.1=true then
   N1 x4.2 x1 14
  else
   O0 [60] x4.2>>=fun x5=>
   if x5.1=true then
    N1 x5.2 x1 15
   else
    O0 [60,61] x5.2>>=fun x6=>
    if x6.1=true then
     N1 x6.2 x1 16
    else
     O0 [62] x6.2>>=fun x7=>
     if x7.1=true then
      N1 x7.2 x1 17
     else
      O0 [62,61] x7.2>>=fun x8=>
      if x8.1=true then
       N1 x8.2 x1 18
      else
       some (.ok (x1.1,x8.2))) (O2 l 3 x1.1 k):=by
 obtain ⟨o,h1,h2⟩:=Q1o l hl k
 have done:∀ {t:Str} {op:Int},isS l k t=true→O5 l k 3=some (op,true)→J l e k (BO x1.1.bulk k) (N1 (mk l (step true k) e) x1 op) (O2 l 3 x1.1 k):=fun ht hop=>
  X1n hl hk IH (Ms l hl ht) hop _ rfl
 rw [hx,P2 l e hl.1,Kf hl rfl,ob]
 cases c0:isS l k [61,61] with
 | true=>rw [c0] at h1 h2; rw [h2 rfl] at h1; exact done c0 h1
 | false=>
  simp only [F3,Bool.false_eq_true,if_false]
  rw [P2 l e hl.1,Kf hl rfl,ob]
  cases c1:isS l k [33,61] with
  | true=>rw [c0,c1] at h1 h2; rw [h2 rfl] at h1; exact done c1 h1
  | false=>
   simp only [F3,Bool.false_eq_true,if_false]
   rw [P2 l e hl.1,Kf hl rfl,ob]
   cases c2:isS l k [60] with
   | true=>rw [c0,c1,c2] at h1 h2; rw [h2 rfl] at h1; exact done c2 h1
   | false=>
    simp only [F3,Bool.false_eq_true,if_false]
    rw [P2 l e hl.1,Kf hl rfl,ob]
    cases c3:isS l k [60,61] with
    | true=>rw [c0,c1,c2,c3] at h1 h2; rw [h2 rfl] at h1; exact done c3 h1
    | false=>
     simp only [F3,Bool.false_eq_true,if_false]
     rw [P2 l e hl.1,Kf hl rfl,ob]
     cases c4:isS l k [62] with
     | true=>rw [c0,c1,c2,c3,c4] at h1 h2; rw [h2 rfl] at h1; exact done c4 h1
     | false=>
      simp only [F3,Bool.false_eq_true,if_false]
      rw [P2 l e hl.1,Kf hl rfl,ob]
      cases c5:isS l k [62,61] with
      | true=>rw [c0,c1,c2,c3,c4,c5] at h1 h2; rw [h2 rfl] at h1; exact done c5 h1
      | false=>
       rw [c0,c1,c2,c3,c4,c5] at h1
       simp only [F3,Bool.false_eq_true,if_false]
       rw [O2,h1,ob]
       exact .ok _ k (Nat.le_refl _) hk (by unfold BO; omega)
end
theorem V1o {k:Nat}(hk:k≤l.length)(IH:∀ j,k < j→j≤l.length→PE l e j)(h:J l e (k+1) (BE k) (V5 (mk l k e)) (I2 l k 4)):J l e (k+1) (BE k) (X3 (mk l k e)) (I2 l k 3):=by
 rw [X3,show (3:Int)=((3:Nat):Int) from rfl,M1i hl k 3 (by decide)]
 refine J.bind (p:=V5 (mk l k e)) (r:=I2 l k ((3+1:Nat):Int)) h ?_ ?_ ?_
 ·exact fun _=>rfl
 ·exact fun v j _=>⟨v,rfl⟩
 ·intro v j h1 h2 h0
  refine (Y1n hl h2 (fun i h3 h4=>IH i (by omega) h4) (v,mk l j e) rfl).mono h1 fun v' j' h3 h4=>?_
  unfold BO at h4
  unfold BE at h0 ⊢
  simp only at h4
  omega
section
variable {k:Nat}(hk:k≤l.length)(IH:∀ j,k < j→j≤l.length→PE l e j)
include hk IH
theorem U1k (op:Int)(name:Str)(kids:List A0):J l e k (BO (A0.mk op 0 name kids).bulk k) (I4 (mk l k e) op name kids) (C9 l op 0 name kids k):=by
 have hB:=hl.1
 rw [I4,P2 l e hB,ob,C9,F2 l hB,ob]
 cases hd:isT l k [46] with
 | true=>
  have hlt:=L1 hd
  simp only [Z3,Bool.not_true,Bool.false_eq_true,if_false,if_true,ob,cond_true]
  rw [w1 (by omega),Bm l e hB,Pe l hB]
  cases hn:P4 l (k+1) 0 with
  | true=>
   have:=Kh hn
   simp only [if_true,ob,Bool.not_true,Bool.false_eq_true,if_false]
   refine ((IH (k+1+1) (by omega) (by omega)).placeL _ _ _).mono (by omega) fun v' j' h3 h4=>?_
   have ht:=Gj hl (k+1)
   unfold BO at h4 ⊢
   rw [I1l] at h4
   omega
  | false=>exact .pn _ (k+1) (by omega)
 | false=>
  simp only [F3,Bool.not_false,Bool.false_eq_true,if_false,if_true]
  rw [P2 l e hB,ob,F2 l hB,ob]
  cases hi:isT l k [91] with
  | true=>
   have hlt:=L1 hi
   simp only [Z3,if_true,cond_false]
   rw [ob,if_neg (by simp),w1 (by omega)]
   refine J.bind (IH (k+1) (by omega) (by omega)).expr ?_ ?_ ?_
   ·exact fun _=>rfl
   ·exact fun v j _=>⟨v,rfl⟩
   ·intro v j h1 h2 h0
    simp only [Bool.not_true,Bool.not_false,if_true,cond_false]
    rw [S3 l e hB,F2 l hB,ob]
    cases hn:isT l j [93] with
    | true=>
     have:=L1 hn
     simp only [if_true,ob,Bool.not_true,Bool.false_eq_true,if_false,Gv]
     rw [w1 (by omega)]
     refine ((IH (j+1) (by omega) (by omega)).placeL _ _ _).mono (by omega) fun v' j' h3 h4=>?_
     unfold BO at h4 ⊢
     unfold BE at h0
     rw [D1a] at h4
     simp only [List.length_nil] at h4
     omega
    | false=>exact .pn _ j h2
  | false=>
   simp only [F3,Bool.false_eq_true,if_false,cond_false]
   exact .ok _ k (Nat.le_refl _) hk (by unfold BO; omega)
end
end
end Go.Proofs.YtmnhfbekncjnfaaGreatDoor

namespace Go.Proofs.YtmnhfbekncjnfaaGreatDoor
open Go.Am
section
set_option linter.unusedSectionVars false
variable {l:List K0}{e:Int}(hl:Uh l)
include hl
section
variable {k:Nat}(hk:k≤l.length)(IH:∀ j,k < j→j≤l.length→PE l e j)
include hk IH
theorem I1e:J l e (k+1) (BE k) (K6 (mk l k e)) (Z9 l k):=by
 have hB:=hl.1
 rw [K6,Z9,Bm l e hB,Pe l hB]
 cases hn:P4 l k 0 with
 | true=>
  have:=Kh hn
  simp only [if_true,ob,Bool.not_true,Bool.false_eq_true,if_false]
  refine ((IH (k+1) (by omega) (by omega)).placeL _ _ _).mono (Nat.le_refl _) fun v' j' h3 h4=>?_
  have ht:=Gj hl k
  unfold BO at h4
  unfold BE
  rw [Af] at h4
  omega
 | false=>exact .pn _ k hk
theorem N1i (op:Int)(hlt:k < l.length):J l e (k+1) (BE k) (P8 op (mk l (k+1) e)) (Ka l k op):=by
 have hB:=hl.1
 rw [P8,S3 l e hB,Ka,w1 (by omega),F2 l hB,ob]
 cases ho:isT l (k+1) [40] with
 | false=>exact .pn _ (k+1) (by omega)
 | true=>
  have h1:=L1 ho
  simp only [if_true,ob,Bool.not_true,Bool.false_eq_true,if_false]
  rw [wr (n:=(k:Int)+2) (by omega) (by unfold BB at hB; omega),show (k:Int)+2=((k+1+1:Nat):Int) by omega]
  refine J.bind (IH (k+1+1) (by omega) (by omega)).expr ?_ ?_ ?_
  ·exact fun _=>rfl
  ·exact fun v j _=>⟨v,rfl⟩
  intro v j h2 h3 h0
  simp only [Bool.not_true,Bool.not_false,if_true,cond_false]
  rw [S3 l e hB,F2 l hB,ob]
  cases hc:isT l j [44] with
  | false=>exact .pn _ j h3
  | true=>
   have h4:=L1 hc
   simp only [if_true,ob,Bool.not_true,Bool.false_eq_true,if_false]
   rw [w1 (by omega)]
   refine J.bind (IH (j+1) (by omega) (by omega)).expr ?_ ?_ ?_
   ·exact fun _=>rfl
   ·exact fun v j _=>⟨v,rfl⟩
   intro v2 j2 h5 h6 h00
   simp only [Bool.not_true,Bool.not_false,if_true,cond_false]
   rw [S3 l e hB,F2 l hB,ob]
   cases hd:isT l j2 [41] with
   | false=>exact .pn _ j2 h6
   | true=>
    have h7:=L1 hd
    simp only [if_true,ob,Bool.not_true,Bool.false_eq_true,if_false,Gv]
    rw [w1 (by omega)]
    refine .ok _ (j2+1) (by omega) (by omega) ?_
    unfold BE at h0 h00 ⊢
    rw [D1a]
    simp only [List.length_nil]
    omega
theorem O1i:J l e (k+1) (BE k) (D8 (mk l k e)) (Sg l k):=by
 have hB:=hl.1
 rw [D8,Sg,Rz l e hB,ob]
 have hw:∀ t,isT l k t=true→P4 l k 0=false:=fun t h=>(La h).1
 cases hn:P4 l k 0 with
 | true=>
  have hf:∀ t,isT l k t=false:=fun t=>by
   cases h:isT l k t with
   | false=>rfl
   | true=>rw [hw t h] at hn; cases hn
  have hd:P4 l k 1=false:=by
   unfold P4 at hn ⊢
   split at hn
   ·rw [eq_of_beq hn]; rfl
   ·rfl
  simp only [if_true,F2 l hB,ob,hf,Bool.false_eq_true,if_false,Bool.not_false,cond_false]
  rw [Cm l hl,hd]
  simp only [Bool.false_eq_true,if_false,ob]
  refine J.same ?_ (fun _=>rfl) fun _=>rfl
  exact J.rsame (I1e hl hk IH)
 | false=>
  simp only [Bool.false_eq_true,if_false]
  rw [P2 l e hB,ob,F2 l hB,ob]
  cases h1:isT l k [116,114,117,101] with
  | true=>
   have:=L1 h1
   simp only [Z3,if_true]
   rw [w1 (by omega)]
   exact .ok _ (k+1) (Nat.le_refl _) (by omega) (by unfold BE; rw [Af]; simp only [List.length_nil]; omega)
  | false=>
   simp only [F3,Bool.false_eq_true,if_false]
   rw [P2 l e hB,ob,F2 l hB,ob]
   cases h2:isT l k [102,97,108,115,101] with
   | true=>
    have:=L1 h2
    simp only [Z3,if_true]
    rw [w1 (by omega)]
    exact .ok _ (k+1) (Nat.le_refl _) (by omega) (by unfold BE; rw [Af]; simp only [List.length_nil]; omega)
   | false=>
    simp only [F3,Bool.false_eq_true,if_false]
    rw [P2 l e hB,ob,F2 l hB,ob,F2 l hB]
    cases h3:isT l k [109,105,110] with
    | true=>
     have hlt:=L1 h3
     have h4:isT l k [109,97,120]=false:=by
      cases h:isT l k [109,97,120] with
      | false=>rfl
      | true=>have:=(La h3).2.2.symm.trans (La h).2.2; simp at this
     simp only [Z3,if_true,Bool.not_true,Bool.false_eq_true,if_false,ob,cond_true]
     rw [Ae,F2 l hB,ob,h4,if_neg (by simp)]
     refine J.same ?_ (fun _=>rfl) fun _=>rfl
     exact J.rsame (N1i hl hk IH 21 hlt)
    | false=>
     simp only [F3,Bool.false_eq_true,if_false,Bool.not_false,if_true,ob,cond_false]
     rw [P2 l e hB,ob]
     cases h4:isT l k [109,97,120] with
     | true=>
      have hlt:=L1 h4
      simp only [Z3,if_true]
      rw [Ae,F2 l hB,ob,h4,if_pos rfl]
      refine J.same ?_ (fun _=>rfl) fun _=>rfl
      exact J.rsame (N1i hl hk IH 22 hlt)
     | false=>
      simp only [F3,Bool.false_eq_true,if_false]
      rw [P2 l e hB,ob,F2 l hB,ob]
      cases h5:isT l k [40] with
      | true=>
       have hlt:=L1 h5
       simp only [Z3,if_true]
       rw [w1 (by omega)]
       refine J.bind (IH (k+1) (by omega) (by omega)).expr ?_ ?_ ?_
       ·exact fun _=>rfl
       ·exact fun v j _=>⟨v,rfl⟩
       intro v j h6 h7 h0
       simp only [Bool.not_true,Bool.not_false,if_true,cond_false]
       rw [S3 l e hB,F2 l hB,ob]
       cases hd:isT l j [41] with
       | false=>exact .pn _ j h7
       | true=>
        have h8:=L1 hd
        simp only [if_true,ob,Bool.not_true,Bool.false_eq_true,if_false]
        rw [w1 (by omega)]
        refine .ok _ (j+1) (by omega) (by omega) ?_
        unfold BE at h0 ⊢
        omega
      | false=>
       simp only [F3,Bool.false_eq_true,if_false]
       rw [T14 l e hl,Cm l hl]
       cases h6:P4 l k 1 with
       | true=>
        have:=Kh h6
        simp only [if_true,ob]
        exact .ok _ (k+1) (Nat.le_refl _) (by omega) (by unfold BE; rw [Af]; simp only [List.length_nil]; omega)
       | false=>
        simp only [Bool.false_eq_true,if_false,ob]
        rw [Z9,Pe l hB,hn]
        exact .pn _ k hk
theorem L1m:J l e (k+1) (BE k) (U3 (mk l k e)) (Gb l k):=by
 have hB:=hl.1
 have go:∀ op:Int,k < l.length→J l e (k+1) (BE k) (U3 (mk l (k+1) e)>>=fun x4=>match x4 with | .pn nn=>some (.pn nn) | .ok x4=>some (.ok ((A0.mk op 0 [] [x4.1]),x4.2))) (Ra l k op):=fun op hlt=>by
  rw [Ra,w1 (by omega)]
  refine J.bind (IH (k+1) (by omega) (by omega)).un ?_ ?_ ?_
  ·exact fun _=>rfl
  ·exact fun v j _=>⟨v,rfl⟩
  ·intro v j h1 h2 h0
   refine .ok _ j (by omega) h2 ?_
   unfold BE at h0 ⊢
   rw [I1l]
   simp only [List.length_nil]
   omega
 rw [U3,Gb,P2 l e hB,ob,F2 l hB,ob]
 cases h1:isT l k [45] with
 | true=>
  have hlt:=L1 h1
  have h2:isT l k [33]=false:=by
   cases h:isT l k [33] with
   | false=>rfl
   | true=>have:=(La h1).2.2.symm.trans (La h).2.2; simp at this
  simp only [Z3,if_true,Bool.not_true,Bool.false_eq_true,if_false,ob,cond_false]
  rw [F2 l hB,ob,h2,if_neg (by simp)]
  exact go 6 hlt
 | false=>
  simp only [F3,Bool.false_eq_true,if_false,Bool.not_false,if_true]
  rw [P2 l e hB,ob,F2 l hB,ob]
  cases h2:isT l k [33] with
  | true=>
   have hlt:=L1 h2
   simp only [Z3,if_true,Bool.not_true,Bool.false_eq_true,if_false,cond_true,ob]
   exact go 7 hlt
  | false=>
   simp only [F3,Bool.false_eq_true,if_false,Bool.not_false,if_true,cond_true]
   refine J.same ?_ (fun _=>rfl) fun _=>rfl
   exact J.rsame (O1i hl hk IH)
theorem Z1n (ho:J l e (k+1) (BE k) (O8 (mk l k e)) (I2 l k 1)):J l e (k+1) (BE k) (D1 (mk l k e)) (B2 l k):=by
 have hB:=hl.1
 rw [D1,B2]
 refine J.bind ho ?_ ?_ ?_
 ·exact fun _=>rfl
 ·exact fun v j _=>⟨v,rfl⟩
 intro v j h1 h2 h0
 simp only [Bool.not_true,Bool.not_false,if_true,cond_false]
 rw [P2 l e hB,ob,F2 l hB,ob]
 cases hq:isT l j [63] with
 | false=>exact .ok _ j h1 h2 h0
 | true=>
  have h3:=L1 hq
  simp only [Z3,Bool.not_true,Bool.false_eq_true,if_false]
  rw [w1 (by omega)]
  refine J.bind (IH (j+1) (by omega) (by omega)).expr ?_ ?_ ?_
  ·exact fun _=>rfl
  ·exact fun v j _=>⟨v,rfl⟩
  intro v2 j2 h4 h5 h00
  simp only [Bool.not_true,Bool.false_eq_true,if_false]
  rw [S3 l e hB,F2 l hB,ob]
  cases hc:isT l j2 [58] with
  | false=>exact .pn _ j2 h5
  | true=>
   have h6:=L1 hc
   simp only [if_true,ob,Bool.not_true,Bool.false_eq_true,if_false]
   rw [w1 (by omega)]
   refine J.bind (IH (j2+1) (by omega) (by omega)).expr ?_ ?_ ?_
   ·exact fun _=>rfl
   ·exact fun v j _=>⟨v,rfl⟩
   ·intro v3 j3 h7 h8 h000
    refine .ok _ j3 (by omega) h8 ?_
    unfold BE at h0 h00 h000 ⊢
    rw [R1o]
    simp only [List.length_nil]
    omega
end
theorem P1i:∀ (n k:Nat),l.length - k < n→k≤l.length→PE l e k
 | 0,k,h,_=>absurd h (Nat.not_lt_zero _)
 | n+1,k,h,hk=>by
  have IH:∀ j,k < j→j≤l.length→PE l e j:=fun j h1 h2=>P1i n j (by omega) h2
  have u:=L1m hl hk IH
  have p5:=W1n hl hk IH u
  have p4:=T1o hl hk IH p5
  have p3:=V1o hl hk IH p4
  have p2:=U1o hl hk IH p3
  have p1:=K1p hl hk IH p2
  exact ⟨Z1n hl hk IH p1,u,K1m hl hk IH,p5,U1n hl hk IH,p4,p3,V1n hl hk IH,p2,S1o hl hk IH,p1,U1k hl hk IH⟩
theorem Xt {k:Nat}(hk:k≤l.length):PE l e k:=P1i hl _ k (Nat.lt_succ_self _) hk
end
end Go.Proofs.YtmnhfbekncjnfaaGreatDoor

namespace Go.Proofs.YtmnhfbekncjnfaaGreatDoor
open Go.Am
theorem A1o (r:List UInt8):∀ m:Nat,m * 10 ^ r.length≤nv m r:=by
 induction r with
 | nil=>intro m; rw [Oy]; simp
 | cons c r ih=>
  intro m
  rw [Uq]
  refine Nat.le_trans ?_ (ih _)
  rw [List.length_cons,Nat.pow_succ]
  calc m * (10 ^ r.length * 10)=(10 * m) * 10 ^ r.length:=by rw [Nat.mul_comm (10 ^ r.length) 10,← Nat.mul_assoc,Nat.mul_comm m 10]
   _≤(10 * m+(c.toNat - 48)) * 10 ^ r.length:=Nat.mul_le_mul_right _ (by omega)
theorem B1o {w:Str}(hne:w≠[])(h:Bx w=0):w.all (fun c=>Ea c.toNat)=true∧w.length≤7∧nv 0 w≤1048576:=by
 unfold Bx at h
 split at h
 ·rename_i hc
  rw [Bool.and_eq_true] at hc
  obtain ⟨h1,h2⟩:=hc
  have h3:nv 0 w≤1048576:=by
   rcases Nat.lt_or_ge 1048576 (nv 0 w) with hb | hb
   ·rw [S14 hb] at h; cases h
   ·exact hb
  refine ⟨h1,?_,h3⟩
  cases w with
  | nil=>exact absurd rfl hne
  | cons c r=>
   rw [List.all_cons,Bool.and_eq_true] at h1
   have hc:=Nn.1 h1.1
   have hz:Fw (c::r)=false:=by simpa using h2
   unfold Fw at hz
   by_cases h48:c.toNat=48
   ·have hb:(((c::r).getD 0 0).toNat:Int) == 48:=by simp [h48]
    rw [hb,Bool.and_true] at hz
    have:=of_decide_eq_false hz
    omega
   ·rw [Uq] at h3
    have hp:=A1o r (10 * 0+(c.toNat - 48))
    have h5:1 * 10 ^ r.length≤(10 * 0+(c.toNat - 48)) * 10 ^ r.length:=Nat.mul_le_mul_right _ (by omega)
    rcases Nat.lt_or_ge 6 r.length with h6 | h6
    ·have:=Nat.pow_le_pow_right (show 1≤10 by decide) (show 7≤r.length from h6)
     omega
    ·rw [List.length_cons]; omega
 ·cases h
theorem M1m {c:UInt8}{t:List UInt8}{k:Int}(hlen:(c::t).length≤8192)(h:(nxt (c::t) k).2=0):Tok (nxt (c::t) k).1:=by
 have htx:=Th h
 have hl8:(nxt (c::t) k).1.Text.length≤8192:=by omega
 refine ⟨hl8,fun hk=>?_,fun hk=>?_⟩
 ·revert h hk
  unfold nxt
  simp only [List.getD_cons_zero]
  cases hl:Ac c.toNat with
  | true=>
   have hld:ld c=true:=by unfold ld; rw [hl]; rfl
   intro h hk
   have hw:∃ r,(c::t).take (C4 (c::t))=c::r:=by
    simp only [C4,hld,cond_true,List.take_succ_cons]
    exact ⟨_,rfl⟩
   obtain ⟨r,hr⟩:=hw
   simp only [if_true] at hk ⊢
   split at hk
   ·rename_i hres
    rw [if_pos hres]
    exact ⟨c,r,hr,hl⟩
   ·split at hk <;> cases hk
  | false=>
   simp only [Bool.false_eq_true,if_false]
   intro h hk
   split at hk
   ·cases hk
   ·split at hk
    ·cases hk
    ·split at hk <;> cases hk
 ·revert h hk
  unfold nxt
  simp only [List.getD_cons_zero]
  cases hl:Ac c.toNat with
  | true=>
   intro h hk
   simp only [if_true] at hk
   split at hk
   ·cases hk
   ·split at hk <;> cases hk
  | false=>
   simp only [Bool.false_eq_true,if_false]
   intro h hk
   cases hd:Ea c.toNat with
   | true=>
    have hld:ld c=true:=by unfold ld; rw [hl,hd]; rfl
    have hne:(c::t).take (C4 (c::t))≠[]:=by
     simp only [C4,hld,cond_true,List.take_succ_cons]
     exact List.cons_ne_nil _ _
    rw [hd,if_pos rfl] at h
    rw [if_pos rfl]
    obtain ⟨n1,n2,n3⟩:=B1o hne h
    exact ⟨hne,n1,n2,n3⟩
   | false=>
    rw [hd,if_neg (by simp)] at hk
    split at hk
    ·cases hk
    ·split at hk <;> cases hk
theorem S1c:∀ (n:Nat) (r:List UInt8) (k:Nat),r.length≤8192→(Qg n r k).2.2=0→(∀ x∈(Qg n r k).1,Tok x)∧(Qg n r k).1.length≤r.length
 | 0,r,k,_,_=>⟨fun x hx=>(by cases hx),Nat.zero_le _⟩
 | n+1,r,k,hl,h=>by
  revert h
  unfold Qg
  split
  ·exact fun _=>⟨fun x hx=>(by cases hx),Nat.zero_le _⟩
  ·rename_i c t hd
   have hle:(c::t).length≤r.length:=by rw [← hd,List.length_drop]; omega
   simp only
   split
   ·rename_i hx
    obtain ⟨b1,b2,b3,b4⟩:=Th hx
    have hdl:((c::t).drop (nxt (c::t) ((k+skp false r:Nat):Int)).1.Text.length).length≤(c::t).length - 1:=by rw [List.length_drop]; omega
    have ih:=S1c n ((c::t).drop (nxt (c::t) ((k+skp false r:Nat):Int)).1.Text.length) (k+skp false r+(nxt (c::t) ((k+skp false r:Nat):Int)).1.Text.length) (by omega)
    split
    ·rename_i hz
     obtain ⟨i1,i2⟩:=ih hz
     intro _
     refine ⟨fun x hx'=>?_,?_⟩
     ·rcases List.mem_cons.1 hx' with rfl | hx'
      ·exact M1m (by omega) hx
      ·exact i1 x hx'
     ·simp only [List.length_cons] at *
      omega
    ·rename_i hz
     exact fun h=>absurd h hz
   ·rename_i hx
    exact fun h=>absurd h hx
theorem Tz {s:Str}(h:(G4 s).2.2=0):Uh (G4 s).1∧(G4 s).1.length≤8192:=by
 unfold G4 at h ⊢
 by_cases hl:s.length > 8192
 ·rw [if_pos hl] at h; cases h
 ·rw [if_neg hl] at h ⊢
  obtain ⟨h1,h2⟩:=S1c _ s 0 (by omega) h
  exact ⟨⟨by unfold BB; omega,h1⟩,by omega⟩
end Go.Proofs.YtmnhfbekncjnfaaGreatDoor

namespace Go.Proofs.YtmnhfbekncjnfaaGreatDoor
open Go.Am
theorem T1c (text:Str)(l:List K0)(k:Nat):Ou text l k=some (off l (text.length:Int) k):=by
 unfold Ou off
 cases h:l[k]? with
 | none=>rw [Q1c h,if_neg (by simp)]
 | some x=>rw [dlt h,if_pos rfl,Qm,h,ob]
end Go.Proofs.YtmnhfbekncjnfaaGreatDoor

namespace Go.Proofs.YtmnhfbekncjnfaaGreatDoor
open Go.Am
def BT (k:Nat)(v:F0)(j:Nat):Prop:=v.bulk≤9000 * (j - k)
def Dx (ns:List Str):Nat:=(ns.map fun s=>s.length+1).sum
def BF (ns:List Str)(os:List F0)(k:Nat)(v:F0)(j:Nat):Prop:=v.bulk≤Dx ns+F0.bulks os+8+9000 * (j - k)
theorem U1c (ns:List Str)(s:Str):Dx (ns++[s])=Dx ns+s.length+1:=by unfold Dx; simp; omega
theorem Uz:∀ (os:List F0) (t:F0),F0.bulks (os++[t])=F0.bulks os+t.bulk
 | [],t=>by simp only [List.nil_append,F0.bulks]; omega
 | x::r,t=>by simp only [List.cons_append,F0.bulks,Uz r t]; omega
theorem Ns (a b c d:Int)(s:Str)(ns:List Str)(os:List F0):(F0.mk a b c d s ns os).bulk=s.length+Dx ns+F0.bulks os+8:=by rw [F0.bulk_eq]; rfl
structure PT (l:List K0)(e:Int)(k:Nat):Prop where
 typ:J l e (k+1) (BT k) (A5 (mk l k e)) (Ta l k)
 fld:∀ ns os,ns.length≤k→os.length≤k→J l e k (BF ns os k) (E9 (mk l k e) ns os) (O9 l ns os ((k:Int) - 1))
section
set_option linter.unusedSectionVars false
variable {l:List K0}{e:Int}(hl:Uh l)
include hl
theorem Gr {k:Nat}(hk:k≤l.length):J l e (k+1) (fun _ _=>True) (T2 (mk l k e)) (N5 l k):=by
 have hB:=hl.1
 unfold T2 N5
 rw [P2 l e hB,ob,F2 l hB,ob]
 cases h:isT l k [45] with
 | true=>
  have hlt:=L1 h
  simp only [Z3,if_true]
  rw [w1 (by omega),T14 l e hl,Cm l hl]
  cases h1:P4 l (k+1) 1 with
  | true=>have:=Kh h1; exact .ok _ (k+1+1) (by omega) (by omega) trivial
  | false=>exact .pn _ (k+1) (by omega)
 | false=>
  simp only [F3,Bool.false_eq_true,if_false]
  rw [T14 l e hl,Cm l hl]
  cases h1:P4 l k 1 with
  | true=>have:=Kh h1; exact .ok _ (k+1) (by omega) (by omega) trivial
  | false=>exact .pn _ k hk
section
variable {k:Nat}(hk:k≤l.length)(IH:∀ j,k < j→j≤l.length→PT l e j)
include hk IH
theorem W1o:J l e (k+1) (BT k) (A5 (mk l k e)) (Ta l k):=by
 have hB:=hl.1
 rw [A5,Ta,P2 l e hB,ob,F2 l hB,ob]
 cases h1:isT l k [98,111,111,108] with
 | true=>
  have:=L1 h1
  simp only [Z3,if_true]
  rw [w1 (by omega)]
  exact .ok _ (k+1) (Nat.le_refl _) (by omega) (by unfold BT; rw [Ns]; simp only [List.length_nil,Dx,List.map_nil,List.sum_nil,F0.bulks]; omega)
 | false=>
  simp only [F3,Bool.false_eq_true,if_false]
  rw [P2 l e hB,ob,F2 l hB,ob]
  cases h2:isT l k [105,110,116] with
  | true=>
   have hlt:=L1 h2
   simp only [Z3,if_true]
   rw [w1 (by omega)]
   refine J.rsame ?_
   unfold Mi
   rw [S3 l e hB,F2 l hB,ob]
   cases h3:isT l (k+1) [91] with
   | false=>exact .pn _ (k+1) (by omega)
   | true=>
    have h4:=L1 h3
    simp only [if_true,ob,Bool.not_true,Bool.false_eq_true,if_false]
    rw [w1 (by omega)]
    refine J.bind (Gr hl (k:=k+1+1) (by omega)) ?_ ?_ ?_
    ·exact fun _=>rfl
    ·exact fun v j _=>⟨_,rfl⟩
    intro v j h5 h6 _
    simp only [Bool.not_true,Bool.not_false,if_true,cond_false]
    rw [S3 l e hB,F2 l hB,ob]
    cases h7:isT l j [46,46] with
    | false=>exact .pn _ j h6
    | true=>
     have h8:=L1 h7
     simp only [if_true,ob,Bool.not_true,Bool.false_eq_true,if_false]
     rw [w1 (by omega)]
     refine J.bind (Gr hl (k:=j+1) (by omega)) ?_ ?_ ?_
     ·exact fun _=>rfl
     ·exact fun v j _=>⟨_,rfl⟩
     intro v2 j2 h9 h10 _
     simp only [Bool.not_true,Bool.not_false,if_true,cond_false]
     rw [S3 l e hB,F2 l hB,ob]
     cases h11:isT l j2 [93] with
     | false=>exact .pn _ j2 h10
     | true=>
      have h12:=L1 h11
      simp only [if_true,ob,Bool.not_true,Bool.false_eq_true,if_false]
      rw [w1 (by omega)]
      exact .ok _ (j2+1) (by omega) (by omega) (by unfold BT; rw [Ns]; simp only [List.length_nil,Dx,List.map_nil,List.sum_nil,F0.bulks]; omega)
  | false=>
   simp only [F3,Bool.false_eq_true,if_false]
   rw [P2 l e hB,ob,F2 l hB,ob]
   cases h3:isT l k [97,114,114,97,121] with
   | true=>
    have hlt:=L1 h3
    simp only [Z3,if_true]
    rw [w1 (by omega)]
    refine J.bind (Gr hl (k:=k+1) (by omega)) ?_ ?_ ?_
    ·exact fun _=>rfl
    ·exact fun v j _=>⟨_,rfl⟩
    intro v j h5 h6 _
    simp only [Bool.not_true,Bool.not_false,if_true,cond_false]
    rw [S3 l e hB,F2 l hB,ob]
    cases h7:isT l j [111,102] with
    | false=>exact .pn _ j h6
    | true=>
     have h8:=L1 h7
     simp only [if_true,ob,Bool.not_true,Bool.false_eq_true,if_false]
     rw [w1 (by omega)]
     refine J.bind (IH (j+1) (by omega) (by omega)).typ ?_ ?_ ?_
     ·exact fun _=>rfl
     ·exact fun v j _=>⟨_,rfl⟩
     intro v2 j2 h9 h10 h0
     refine .ok _ j2 (by omega) h10 ?_
     unfold BT at h0 ⊢
     rw [Ns]
     simp only [List.length_nil,Dx,List.map_nil,List.sum_nil,F0.bulks]
     omega
   | false=>
    simp only [F3,Bool.false_eq_true,if_false]
    rw [P2 l e hB,ob,F2 l hB,ob]
    cases h4:isT l k [114,101,99,111,114,100] with
    | true=>
     have hlt:=L1 h4
     simp only [Z3,if_true]
     rw [w1 (by omega)]
     refine J.rsame ?_
     rw [Ol,S3 l e hB,F2 l hB,ob]
     cases h5:isT l (k+1) [123] with
     | false=>exact .pn _ (k+1) (by omega)
     | true=>
      have h6:=L1 h5
      simp only [if_true,ob,Bool.not_true,Bool.false_eq_true,if_false]
      have hf:=(IH (k+1+1) (by omega) (by omega)).fld [] [] (Nat.zero_le _) (Nat.zero_le _)
      rw [show ((k+1+1:Nat):Int) - 1=((k+1:Nat):Int) by omega] at hf
      refine hf.mono (by omega) fun v j h7 h8=>?_
      unfold BF at h8
      unfold BT
      simp only [Dx,List.map_nil,List.sum_nil,F0.bulks] at h8
      omega
    | false=>
     simp only [F3,Bool.false_eq_true,if_false]
     rw [Bm l e hB,Pe l hB]
     cases h5:P4 l k 0 with
     | false=>exact .pn _ k hk
     | true=>
      have:=Kh h5
      have ht:=Gj hl k
      exact .ok _ (k+1) (Nat.le_refl _) (by omega) (by unfold BT; rw [Ns]; simp only [Dx,List.map_nil,List.sum_nil,F0.bulks]; omega)
theorem X1o (ns:List Str)(os:List F0)(hn:ns.length≤k)(ho:os.length≤k):J l e k (BF ns os k) (E9 (mk l k e) ns os) (O9 l ns os ((k:Int) - 1)):=by
 have hB:=hl.1
 rw [E9,O9,J5,wr (n:=(k:Int) - 1+1) (by omega) (by unfold BB at hB; omega),show (k:Int) - 1+1=(k:Int) by omega,Bm l e hB,Pe l hB]
 cases h1:P4 l k 0 with
 | false=>exact .pn _ k hk
 | true=>
  have h2:=Kh h1
  have ht:=Gj hl k
  simp only [if_true,ob,Bool.not_true,Bool.not_false,cond_false]
  rw [S3 l e hB,F2 l hB,ob]
  cases h3:isT l (k+1) [58] with
  | false=>exact .pn _ (k+1) (by omega)
  | true=>
   have h4:=L1 h3
   simp only [if_true,ob,Bool.not_true,Bool.false_eq_true,if_false]
   rw [w1 (by omega)]
   rcases (IH (k+1+1) (by omega) (by omega)).typ with ⟨v,j,h5,h6,h0,h7,h8⟩ | ⟨v,j,h6,h7,h8⟩
   ·rw [h7,h8,ob,ob,ob]
    have r1:decide ((ns.length+1) * 17≤140737488355328)=true:=decide_eq_true (by unfold BB at hB; omega)
    have r2:decide ((os.length+1) * 97≤140737488355328)=true:=decide_eq_true (by unfold BB at hB; omega)
    simp only [r1,r2,if_true,Bool.not_true,Bool.false_eq_true,if_false]
    rw [P2 l e hB,F2 l hB,ob,ob]
    unfold BT at h0
    cases h9:isT l j [44] with
    | true=>
     have h10:=L1 h9
     have h11:isT l j [125]=false:=by
      cases h:isT l j [125] with
      | false=>rfl
      | true=>have:=(La h9).2.2.symm.trans (La h).2.2; simp at this
     simp only [h11,Z3,Bool.not_true,Bool.false_eq_true,if_false]
     rw [F2 l hB,ob,h9]
     simp only [Bool.not_true,Bool.false_eq_true,if_false]
     have hf:=(IH (j+1) (by omega) (by omega)).fld (ns++[txt l k]) (os++[v]) (by rw [List.length_append]; simp only [List.length_singleton]; omega) (by rw [List.length_append]; simp only [List.length_singleton]; omega)
     rw [show ((j+1:Nat):Int) - 1=(j:Int) by omega] at hf
     refine hf.mono (by omega) fun v' j' h12 h13=>?_
     unfold BF at h13 ⊢
     rw [U1c,Uz] at h13
     omega
    | false=>
     simp only [F3,Bool.not_false,if_true]
     rw [S3 l e hB]
     cases h10:isT l j [125] with
     | true=>
      have h11:=L1 h10
      simp only [if_true,ob]
      rw [w1 (by omega)]
      refine .ok _ (j+1) (by omega) (by omega) ?_
      unfold BF
      rw [Ns,U1c,Uz]
      simp only [List.length_nil]
      omega
     | false=>
      simp only [Bool.false_eq_true,if_false,ob]
      rw [F2 l hB,ob,h9]
      exact .pn _ j h6
   ·rw [h7,h8,ob,ob,ob]
    exact .pn _ j h6
end
theorem Q1i:∀ (n k:Nat),l.length - k < n→k≤l.length→PT l e k
 | 0,k,h,_=>absurd h (Nat.not_lt_zero _)
 | n+1,k,h,hk=>by
  have IH:∀ j,k < j→j≤l.length→PT l e j:=fun j h1 h2=>Q1i n j (by omega) h2
  exact ⟨W1o hl hk IH,X1o hl hk IH⟩
theorem E1a {k:Nat}(hk:k≤l.length):PT l e k:=Q1i hl _ k (Nat.lt_succ_self _) hk
end
end Go.Proofs.YtmnhfbekncjnfaaGreatDoor

namespace Go.Proofs.YtmnhfbekncjnfaaGreatDoor
open Go.Am
end Go.Proofs.YtmnhfbekncjnfaaGreatDoor

namespace Go.Proofs.YtmnhfbekncjnfaaGreatDoor
open Go.Am
def Rg (k:Int)(n:Str)(t:F0)(i:Int):D0:=D0.mk k n t i (A0.mk 0 0 [] []) [] [] []
def BV (k:Nat)(v:D0)(j:Nat):Prop:=(∃ n t i,v=Rg 4 n t i)∧v.bulk≤9000 * (j - k)
def BP (k:Nat)(v:D0)(j:Nat):Prop:=(∃ n t,v=Rg 4 n t 0)∧v.bulk+9000≤9000 * (j - k)
section
set_option linter.unusedSectionVars false
variable {l:List K0}{e:Int}(hl:Uh l)
include hl
theorem L19 (k:Int)(n:Str)(t:F0)(i:Int):(Rg k n t i).bulk=n.length+t.bulk+12:=by
 unfold Rg
 simp only [D0.bulk,D0.bulks,E0.bulks,Af,List.length_nil]
 omega
theorem W17 {k:Nat}(hk:k≤l.length):J l e (k+1) (BP k) (W2 4 (mk l k e)) (J5 l k):=by
 have hB:=hl.1
 unfold W2
 rw [J5,Bm l e hB,Pe l hB]
 cases h1:P4 l k 0 with
 | false=>exact .pn _ k hk
 | true=>
  have h2:=Kh h1
  have ht:=Gj hl k
  simp only [if_true,ob,Bool.not_true,Bool.not_false,cond_false]
  rw [S3 l e hB,F2 l hB,ob]
  cases h3:isT l (k+1) [58] with
  | false=>exact .pn _ (k+1) (by omega)
  | true=>
   have h4:=L1 h3
   simp only [if_true,ob,Bool.not_true,Bool.false_eq_true,if_false]
   rw [w1 (by omega)]
   refine J.bind (E1a hl (k:=k+1+1) (by omega)).typ ?_ ?_ ?_
   ·exact fun _=>rfl
   ·exact fun v j _=>⟨_,rfl⟩
   intro v j h5 h6 h0
   refine .ok _ j (by omega) h6 ⟨⟨_,_,rfl⟩,?_⟩
   have:=L19 hl 4 (txt l k) v 0
   unfold Rg at this
   unfold BT at h0
   rw [this]
   omega
theorem V16 {k j:Nat}{d:D0}(hj:j≤l.length)(hk:k≤j){P:D0→Nat→Prop}(hP:P d (j+1)){F:Pn B0→Option (Pn (D0×B0))}(hF:∀ n,F (.pn n)=some (.pn n))(hF2:∀ x,F (.ok x)=some (.ok (d,x))) :
  J l e (k+1) P (R0 [59] (mk l j e)>>=F) (U0 l j [59]>>=fun x4=>if (!x4)=true then some (d,(j:Int),false) else some (d,IntKind.i64.wrap ((j:Int)+1),true)):=by
 have hB:=hl.1
 rw [S3 l e hB,F2 l hB,ob]
 cases h:isT l j [59] with
 | false=>simp only [Bool.false_eq_true,if_false,ob,hF,Bool.not_false,if_true]; exact .pn _ j hj
 | true=>
  have:=L1 h
  simp only [if_true,ob,hF2,Bool.not_true,Bool.false_eq_true,if_false]
  rw [w1 (by omega)]
  exact .ok _ (j+1) (by omega) (by omega) hP
theorem W16 {k:Nat}(hk:k≤l.length):J l e (k+1) (BV k) (M7 (mk l k e)) (Rc l k):=by
 have hB:=hl.1
 unfold M7 Rc
 refine J.bind (W17 hl hk) ?_ ?_ ?_
 ·exact fun _=>rfl
 ·exact fun v j _=>⟨_,rfl⟩
 rintro v j h1 h2 ⟨⟨n,t,rfl⟩,h0⟩
 have hb:∀ i (j':Nat),j≤j'→BV k (Rg 4 n t i) j':=fun i j' h=>⟨⟨n,t,i,rfl⟩,by rw [L19 hl] at h0 ⊢; omega⟩
 simp only [Bool.not_true,Bool.false_eq_true,if_false]
 rw [P2 l e hB,ob,F2 l hB,ob]
 cases h3:isT l j [61] with
 | false=>
  simp only [F3,Bool.false_eq_true,if_false]
  unfold R6
  exact V16 hl (d:=Rg 4 n t 0) h2 (by omega) (hb 0 _ (by omega)) (fun _=>rfl) (fun _=>rfl)
 | true=>
  have h4:=L1 h3
  simp only [Z3,if_true]
  rw [w1 (by omega),P2 l e hB,ob,Zm,F2 l hB,ob]
  cases h5:isT l (j+1) [116,114,117,101] with
  | true=>
   have h6:=L1 h5
   simp only [Z3,if_true,ob,Bool.not_true,Bool.false_eq_true,if_false]
   rw [w1 (by omega)]
   unfold R6
   exact V16 hl (d:=Rg 4 n t 1) (j:=j+1+1) (by omega) (by omega) (hb 1 _ (by omega)) (fun _=>rfl) (fun _=>rfl)
  | false=>
   simp only [F3,Bool.false_eq_true,if_false]
   rw [P2 l e hB,ob,F2 l hB,ob]
   cases h6:isT l (j+1) [102,97,108,115,101] with
   | true=>
    have h7:=L1 h6
    simp only [Z3,if_true,ob,Bool.not_true,Bool.false_eq_true,if_false]
    rw [w1 (by omega)]
    unfold R6
    exact V16 hl (d:=Rg 4 n t 0) (j:=j+1+1) (by omega) (by omega) (hb 0 _ (by omega)) (fun _=>rfl) (fun _=>rfl)
   | false=>
    simp only [F3,Bool.false_eq_true,if_false]
    rcases Gr hl (e:=e) (k:=j+1) (by omega) with ⟨v,j2,h7,h8,_,h9,h10⟩ | ⟨v,j2,h8,h9,h10⟩
    ·rw [h9,h10,ob,ob,ob]
     simp only [Bool.not_true,Bool.false_eq_true,if_false]
     unfold R6
     exact V16 hl (d:=Rg 4 n t v) (j:=j2) h8 (by omega) (hb v _ (by omega)) (fun _=>rfl) (fun _=>rfl)
    ·rw [h9,h10,ob,ob,ob]
     exact .pn _ j2 h8
end
end Go.Proofs.YtmnhfbekncjnfaaGreatDoor

namespace Go.Proofs.YtmnhfbekncjnfaaGreatDoor
open Go.Am
def BS (k:Nat)(v:E0)(j:Nat):Prop:=v.bulk≤9000 * (j - k)
theorem ba {α β γ:Type}(x:Option α)(f:α→β)(g:β→Option γ):((x>>=fun a=>some (f a))>>=g)=(x>>=fun a=>g (f a)):=by cases x <;> rfl
abbrev zE:A0:=A0.mk 0 0 [] []
def Vz (l:List K0)(x:E0×Int×Bool):Option (E0×Int×Bool):=E6 l x.1.Verb x.1.Place x.1.Value x.1.Name x.1.Args x.1.NV x.1.Low x.1.High x.1.Numbers x.1.Then x.1.Else x.2.1 x.2.2
section
set_option linter.unusedSectionVars false
variable {l:List K0}{e:Int}(hl:Uh l)
include hl
theorem Lf (s:E0)(j:Int):Vz l (s,j,false)=some (s,j,false):=by cases s; rfl
theorem U14 (s:E0)(j:Nat)(hj:j≤l.length):Vz l (s,(j:Int),true)=if isT l j [59]=true then some (s,((j+1:Nat):Int),true) else some (s,(j:Int),false):=by
 have hB:=hl.1
 unfold Vz E6
 simp only [Bool.not_true,Bool.not_false,if_true,cond_false]
 rw [F2 l hB,ob]
 cases h:isT l j [59] with
 | false=>cases s; rfl
 | true=>
  have:=L1 h
  simp only [Bool.not_true,Bool.false_eq_true,if_false,if_true]
  rw [w1 (by omega)]
  cases s; rfl
theorem B13 {lo j:Nat}{s:E0}(hj:j≤l.length)(hk:lo≤j+1){P:E0→Nat→Prop}(hP:P s (j+1)){F:Pn B0→Option (Pn (E0×B0))}(hF:∀ n,F (.pn n)=some (.pn n))(hF2:∀ x,F (.ok x)=some (.ok (s,x))) :
  J l e lo P (R0 [59] (mk l j e)>>=F) (Vz l (s,(j:Int),true)):=by
 rw [S3 l e hl.1,U14 hl s j hj]
 cases h:isT l j [59] with
 | false=>simp only [Bool.false_eq_true,if_false,ob,hF]; exact .pn _ j hj
 | true=>
  have:=L1 h
  simp only [if_true,ob,hF2]
  exact .ok _ (j+1) hk (by omega) hP
theorem Hr (a:Int)(p v:A0)(n:Str)(az:List A0)(b c d:Int)(t u:List E0):(E0.mk a p v n az b c d [] t u).bulk=p.bulk+v.bulk+n.length+A0.bulks az+E0.bulks t+E0.bulks u+10:=by
 rw [E0.bulk_eq]; simp only [List.map_nil,List.sum_nil]; omega
theorem X16:∀ (os:List A0) (t:A0),A0.bulks (os++[t])=A0.bulks os+t.bulk
 | [],t=>by simp only [List.nil_append,A0.bulks]; omega
 | x::r,t=>by simp only [List.cons_append,A0.bulks,X16 r t]; omega
theorem R1i (p:A0)(nm:Str)(x1:A0×B0)(x4:Str×B0)(h1:x1.1=p)(h4:x4.1=nm):∀ (n j:Nat) (az:List A0),l.length - j < n→j≤l.length→az.length≤j→
  J l e j (fun v j'=>v.bulk≤p.bulk+nm.length+A0.bulks az+9000 * (j' - j)+15) (N4 (mk l j e) x1 x4 az)
   ((U0 l j [41]>>=fun x4=>if x4=true then some (az,IntKind.i64.wrap ((j:Int)+1),true) else U0 l j [44]>>=fun x5=>if (!x5)=true then some (az,(j:Int),false) else F6 l j az)>>=fun x7=>
     Vz l (E0.mk 1 p zE nm x7.1 0 0 0 [] [] [],x7.2.1,x7.2.2))
 | 0,j,az,h,_,_=>absurd h (Nat.not_lt_zero _)
 | n+1,j,az,h,hj,ha=>by
  have hB:=hl.1
  rw [N4,P2 l e hB,ob,F2 l hB,ob]
  cases hc:isT l j [44] with
  | true=>
   have h5:=L1 hc
   have h6:isT l j [41]=false:=by
    cases h:isT l j [41] with
    | false=>rfl
    | true=>have:=(La hc).2.2.symm.trans (La h).2.2; simp at this
   simp only [h6,Z3,if_true,Bool.false_eq_true,if_false]
   rw [F2 l hB,ob,hc]
   simp only [Bool.not_true,Bool.false_eq_true,if_false]
   rw [F6,w1 (by omega)]
   rcases (Xt (e:=e) hl (k:=j+1) (by omega)).expr with ⟨v,j2,h7,h8,h0,h9,h10⟩ | ⟨v,j2,h8,h9,h10⟩
   ·have r1:decide ((az.length+1) * 57≤140737488355328)=true:=decide_eq_true (by unfold BB at hB; omega)
    rw [h9,h10,ob,ob]
    simp only [r1,if_true,Bool.not_true,Bool.false_eq_true,if_false]
    refine (R1i p nm x1 x4 h1 h4 n j2 (az++[v]) (by omega) h8 (by rw [List.length_append]; simp only [List.length_singleton]; omega)).mono (by omega) fun v' j' h11 h12=>?_
    unfold BE at h0
    rw [X16 hl] at h12
    omega
   ·rw [h9,h10,ob,ob]
    simp only [Bool.not_false,if_true,ob]
    rw [Lf hl]
    exact .pn _ j2 h8
  | false=>
   simp only [F3,Bool.false_eq_true,if_false]
   rw [S3 l e hB]
   cases hd:isT l j [41] with
   | true=>
    have h5:=L1 hd
    simp only [if_true,ob]
    rw [w1 (by omega),h1,h4]
    refine B13 hl (by omega) (by omega) ?_ (fun _=>rfl) (fun _=>rfl)
    rw [Hr hl]
    simp only [E0.bulks,Af,List.length_nil]
    omega
   | false=>
    simp only [Bool.false_eq_true,if_false,ob]
    rw [F2 l hB,ob,hc]
    simp only [Bool.not_false,if_true,ob]
    rw [Lf hl]
    exact .pn _ j hj
theorem V1k {k:Nat}(hk:k≤l.length):J l e (k+1) (BS k) (R8 (mk l k e)) (Sc l k>>=Vz l):=by
 have hB:=hl.1
 have IH:∀ j,k < j→j≤l.length→PE l e j:=fun j _ h=>Xt hl h
 unfold R8 Sc
 rcases I1e hl hk IH with ⟨v,j,h1,h2,h0,h3,h4⟩ | ⟨v,j,h2,h3,h4⟩
 case inr=>
  rw [h3,h4,ob,ob]
  simp only [Bool.not_false,Bool.not_true,Bool.false_eq_true,if_false,ob,cond_true,if_true]
  rw [Lf hl]
  exact .pn _ j h2
 unfold BE at h0
 rw [h3,h4,ob,ob]
 simp only [Bool.not_true,Bool.not_false,if_true,cond_false]
 rw [S3 l e hB,F2 l hB,ob]
 cases h5:isT l j [61] with
 | false=>
  simp only [Bool.false_eq_true,if_false,Bool.not_false,if_true,ob]
  rw [Lf hl]
  exact .pn _ j h2
 | true=>
  have h6:=L1 h5
  simp only [if_true,ob,Bool.not_true,Bool.false_eq_true,if_false]
  rw [P2 l e hB,ob,w1 (by omega),F2 l hB,ob]
  cases h7:isT l (j+1) [99,97,108,108] with
  | true=>
   have h8:=L1 h7
   have h9:isT l (j+1) [114,101,108,101,97,115,101]=false:=by
    cases h:isT l (j+1) [114,101,108,101,97,115,101] with
    | false=>rfl
    | true=>have:=(La h7).2.2.symm.trans (La h).2.2; simp at this
   simp only [h9,Z3,if_true,Bool.false_eq_true,if_false]
   rw [F2 l hB,ob,h7,if_pos rfl,w1 (by omega),Bm l e hB,Pe l hB]
   cases h10:P4 l (j+1+1) 0 with
   | false=>
    simp only [Bool.false_eq_true,if_false,ob,Bool.not_false,if_true]
    rw [Lf hl]
    exact .pn _ (j+1+1) (by omega)
   | true=>
    have h11:=Kh h10
    have ht:=Gj hl (j+1+1)
    simp only [if_true,ob,Bool.not_true,Bool.false_eq_true,if_false]
    unfold Dh
    rw [S3 l e hB,F2 l hB,ob]
    cases h12:isT l (j+1+1+1) [40] with
    | false=>
     simp only [Bool.false_eq_true,if_false,ob,Bool.not_false,if_true]
     rw [Lf hl]
     exact .pn _ (j+1+1+1) (by omega)
    | true=>
     have h13:=L1 h12
     simp only [if_true,ob,Bool.not_true,Bool.false_eq_true,if_false]
     rw [N1n l e hB,ob,w1 (by omega),F2 l hB,ob]
     cases h14:isT l (j+1+1+1+1) [41] with
     | true=>
      have h15:=L1 h14
      simp only [Bool.not_true,Bool.false_eq_true,if_false,if_true,ob]
      rw [S3 l e hB,h14,if_pos rfl,ob,wr (n:=((j+1+1+1:Nat):Int)+2) (by omega) (by unfold BB at hB; omega),show ((j+1+1+1:Nat):Int)+2=((j+1+1+1+1+1:Nat):Int) by omega]
      refine B13 hl (s:=E0.mk 1 v zE (txt l (j+1+1)) [] 0 0 0 [] [] []) (by omega) (by omega) ?_ (fun _=>rfl) (fun _=>rfl)
      unfold BS
      rw [Hr hl]
      simp only [E0.bulks,A0.bulks,Af,List.length_nil]
      omega
     | false=>
      simp only [Bool.not_false,if_true,Bool.false_eq_true,if_false]
      rw [F6,w1 (by omega)]
      rcases (Xt (e:=e) hl (k:=j+1+1+1+1) (by omega)).expr with ⟨v2,j2,k1,k2,k0,k3,k4⟩ | ⟨v2,j2,k2,k3,k4⟩
      ·rw [k3,k4,ob,ob]
       have r1:decide ((0+1) * 57≤140737488355328)=true:=by decide
       simp only [r1,if_true,Bool.not_true,Bool.false_eq_true,if_false,List.length_nil,List.nil_append]
       unfold P9
       rw [ba]
       refine (R1i hl v (txt l (j+1+1)) (v,mk l j e) (txt l (j+1+1),mk l (j+1+1+1) e) rfl rfl (l.length - j2+1) j2 [v2] (by omega) k2 (by simp only [List.length_singleton]; omega)).mono (by omega) fun v' j' m1 m2=>?_
       unfold BS
       unfold BE at k0
       simp only [A0.bulks] at m2
       omega
      ·rw [k3,k4,ob,ob]
       simp only [Bool.not_false,if_true,ob]
       rw [Lf hl]
       exact .pn _ j2 k2
  | false=>
   simp only [F3,Bool.false_eq_true,if_false]
   rw [P2 l e hB,ob]
   cases h8:isT l (j+1) [114,101,108,101,97,115,101] with
   | true=>
    have h9:=L1 h8
    simp only [Z3,if_true]
    rw [w1 (by omega),Bm l e hB,Pe l hB]
    cases h10:P4 l (j+1+1) 0 with
    | false=>
     simp only [Bool.false_eq_true,if_false,ob]
     rw [Lf hl]
     exact .pn _ (j+1+1) (by omega)
    | true=>
     have h11:=Kh h10
     have ht:=Gj hl (j+1+1)
     simp only [if_true,ob]
     refine B13 hl (s:=E0.mk 2 v zE (txt l (j+1+1)) [] 0 0 0 [] [] []) (by omega) (by omega) ?_ (fun _=>rfl) (fun _=>rfl)
     unfold BS
     rw [Hr hl]
     simp only [E0.bulks,A0.bulks,Af,List.length_nil]
     omega
   | false=>
    simp only [F3,Bool.false_eq_true,if_false]
    rw [F2 l hB,ob,h7]
    simp only [Bool.false_eq_true,if_false]
    rcases (Xt (e:=e) hl (k:=j+1) (by omega)).expr with ⟨v2,j2,k1,k2,k0,k3,k4⟩ | ⟨v2,j2,k2,k3,k4⟩
    ·rw [k3,k4,ob,ob]
     simp only [ob]
     refine B13 hl (s:=E0.mk 0 v v2 [] [] 0 0 0 [] [] []) k2 (by omega) ?_ (fun _=>rfl) (fun _=>rfl)
     unfold BS
     unfold BE at k0
     rw [Hr hl]
     simp only [E0.bulks,A0.bulks,List.length_nil]
     omega
    ·rw [k3,k4,ob,ob]
     simp only [ob]
     rw [Lf hl]
     exact .pn _ j2 k2
end
end Go.Proofs.YtmnhfbekncjnfaaGreatDoor

namespace Go.Proofs.YtmnhfbekncjnfaaGreatDoor
open Go.Am
def J1l:Pn (E0×B0)→Pn (E0×Bool×B0)
 | .ok x=>.ok (x.1,true,x.2)
 | .pn n=>.pn n
section
set_option linter.unusedSectionVars false
variable {l:List K0}{e:Int}(hl:Uh l)
include hl
theorem C1o (a:Int)(ns:List Int):(E0.mk a zE zE [] [] 0 0 0 ns [] []).bulk=ns.length+20:=by
 rw [E0.bulk_eq]
 simp only [Af,A0.bulks,E0.bulks,List.length_nil]
 have:(ns.map fun _=>1).sum=ns.length:=by induction ns with
  | nil=>rfl
  | cons x r ih=>simp only [List.map_cons,List.sum_cons,List.length_cons,ih]; omega
 omega
theorem V14 (k:Nat):Yf l k=some (P4 l k 0||((isT l k [111,117,116,112,117,116]||(isT l k [119,97,105,116]||(isT l k [105,102]||(isT l k [119,104,105,108,101]||(isT l k [102,111,114]||(isT l k [115,101,116,116,108,101])))))))):=by
 have hB:=hl.1
 unfold Yf
 rw [Pe l hB]
 cases P4 l k 0 with
 | true=>rfl
 | false=>
  simp only [Bool.false_eq_true,if_false,ob,Bool.not_false,if_true,F2 l hB,cond_false]
  generalize isT l k [111,117,116,112,117,116]=b0
  generalize isT l k [119,97,105,116]=b1
  generalize isT l k [105,102]=b2
  generalize isT l k [119,104,105,108,101]=b3
  generalize isT l k [102,111,114]=b4
  generalize isT l k [115,101,116,116,108,101]=b5
  cases b0 with
  | true=>rfl
  | false=>
  simp only [Bool.not_false,Bool.false_eq_true,if_true,if_false,ob,cond_false,Bool.false_or]
  cases b1 with
  | true=>rfl
  | false=>
  simp only [Bool.not_false,Bool.false_eq_true,if_true,if_false,ob,cond_false,Bool.false_or]
  cases b2 with
  | true=>rfl
  | false=>
  simp only [Bool.not_false,Bool.false_eq_true,if_true,if_false,ob,cond_false,Bool.false_or]
  cases b3 with
  | true=>rfl
  | false=>
  simp only [Bool.not_false,Bool.false_eq_true,if_true,if_false,ob,cond_false,Bool.false_or]
  cases b4 with
  | true=>rfl
  | false=>
  simp only [Bool.not_false,Bool.false_eq_true,if_true,if_false,ob,cond_false,Bool.false_or]
theorem S1i:∀ (n j:Nat) (ns:List Int),l.length - j < n→j≤l.length→ns.length≤j→
  ∃ p:Option (Pn (E0×B0)),W4 (mk l j e) ns=p.map J1l∧
  J l e j (fun v j'=>v.bulk≤ns.length+20+9000 * (j' - j)) p
   ((U0 l j [44]>>=fun x2=>if (!x2)=true then some (ns,(j:Int),true) else S6 l (IntKind.i64.wrap ((j:Int)+1)) ns)>>=fun x13=>
     Vz l (E0.mk 8 zE zE [] [] 0 0 0 x13.1 [] [],x13.2.1,x13.2.2))
 | 0,j,ns,h,_,_=>absurd h (Nat.not_lt_zero _)
 | n+1,j,ns,h,hj,ha=>by
  have hB:=hl.1
  rw [W4,P2 l e hB,ob,F2 l hB,ob]
  cases hc:isT l j [44] with
  | true=>
   have h5:=L1 hc
   simp only [Z3,if_true,Bool.not_true,Bool.false_eq_true,if_false]
   rw [w1 (by omega),S6]
   rcases Gr hl (e:=e) (k:=j+1) (by omega) with ⟨v,j2,h7,h8,_,h9,h10⟩ | ⟨v,j2,h8,h9,h10⟩
   ·have r1:decide ((ns.length+1) * 9≤140737488355328)=true:=decide_eq_true (by unfold BB at hB; omega)
    rw [h9,h10,ob,ob]
    simp only [r1,if_true,Bool.not_true,Bool.false_eq_true,if_false]
    obtain ⟨p,e1,e2⟩:=S1i n j2 (ns++[v]) (by omega) h8 (by rw [List.length_append]; simp only [List.length_singleton]; omega)
    refine ⟨p,e1,e2.mono (by omega) fun v' j' h11 h12=>?_⟩
    rw [List.length_append] at h12
    simp only [List.length_singleton] at h12
    omega
   ·rw [h9,h10,ob,ob]
    simp only [Bool.not_false,if_true,ob]
    rw [Lf hl]
    exact ⟨some (.pn (off l e j2)),rfl,.pn _ j2 h8⟩
  | false=>
   simp only [F3,Bool.false_eq_true,if_false,Bool.not_false,if_true,ob]
   rw [S3 l e hB,U14 hl _ j hj]
   cases h:isT l j [59] with
   | false=>exact ⟨some (.pn (off l e j)),rfl,.pn _ j hj⟩
   | true=>
    have:=L1 h
    refine ⟨some (.ok (E0.mk 8 zE zE [] [] 0 0 0 ns [] [],mk l (j+1) e)),rfl,.ok _ (j+1) (by omega) (by omega) ?_⟩
    rw [C1o hl]
    omega
end
end Go.Proofs.YtmnhfbekncjnfaaGreatDoor

namespace Go.Proofs.YtmnhfbekncjnfaaGreatDoor
open Go.Am
def JB {α:Type}(l:List K0)(e:Int)(lo:Nat)(P:α→Nat→Prop)(p:Option (Pn (α×Bool×B0)))(r:Option (α×Int×Bool)):Prop:=
 (∃ v j,lo≤j∧j≤l.length∧P v j∧p=some (.ok (v,true,mk l j e))∧r=some (v,((j:Nat):Int),true))∨
 (∃ v j,j≤l.length∧p=some (.pn (off l e j))∧r=some (v,((j:Nat):Int),false))
section
variable {l:List K0}{e:Int}{α β:Type}
theorem JB.ok {lo:Nat}{P:α→Nat→Prop}(v:α)(j:Nat)(h1:lo≤j)(h2:j≤l.length)(hP:P v j):JB l e lo P (some (.ok (v,true,mk l j e))) (some (v,((j:Nat):Int),true)):=.inl ⟨v,j,h1,h2,hP,rfl,rfl⟩
theorem JB.pn {lo:Nat}{P:α→Nat→Prop}(v:α)(j:Nat)(h2:j≤l.length):JB l e lo P (some (.pn (off l e j))) (some (v,((j:Nat):Int),false)):=.inr ⟨v,j,h2,rfl,rfl⟩
theorem JB.bind {lo lo':Nat}{P:α→Nat→Prop}{Q:β→Nat→Prop}{p:Option (Pn (α×B0))}{r:Option (α×Int×Bool)}(h:J l e lo P p r){F:Pn (α×B0)→Option (Pn (β×Bool×B0))}{g:α×Int×Bool→Option (β×Int×Bool)}(hF:∀ n,F (.pn n)=some (.pn n))
  (hg:∀ v (j:Nat),j≤l.length→∃ v',g (v,(j:Int),false)=some (v',(j:Int),false)) (hf:∀ v (j:Nat),lo≤j→j≤l.length→P v j→JB l e lo' Q (F (.ok (v,mk l j e))) (g (v,(j:Int),true))) :
  JB l e lo' Q (p>>=F) (r>>=g):=by
 rcases h with ⟨v,j,h1,h2,h0,rfl,rfl⟩ | ⟨v,j,h2,rfl,rfl⟩
 ·exact hf v j h1 h2 h0
 ·obtain ⟨v',hv⟩:=hg v j h2
  rw [ob,ob,hv,hF]
  exact .pn v' j h2
theorem JB.rsame {lo:Nat}{P:α→Nat→Prop}{p:Option (Pn (α×Bool×B0))}{r:Option (α×Int×Bool)}(h:JB l e lo P p r):JB l e lo P p (r>>=fun x=>some (x.1,x.2.1,x.2.2)):=by
 rcases h with ⟨v,j,h1,h2,h0,rfl,rfl⟩ | ⟨v,j,h2,rfl,rfl⟩
 ·exact .ok v j h1 h2 h0
 ·exact .pn v j h2
theorem JB.lift {lo:Nat}{P:α→Nat→Prop}{p:Option (Pn (α×B0))}{r:Option (α×Int×Bool)}(h:J l e lo P p r){F:Pn (α×B0)→Option (Pn (α×Bool×B0))}(hF:∀ n,F (.pn n)=some (.pn n))(hF2:∀ x,F (.ok x)=some (.ok (x.1,true,x.2))):JB l e lo P (p>>=F) r:=by
 rcases h with ⟨v,j,h1,h2,h0,rfl,rfl⟩ | ⟨v,j,h2,rfl,rfl⟩
 ·rw [ob,hF2]; exact .ok v j h1 h2 h0
 ·rw [ob,hF]; exact .pn v j h2
end
theorem JB.ofMap {l:List K0}{e:Int}{lo:Nat}{P:E0→Nat→Prop}{p:Option (Pn (E0×B0))}{r:Option (E0×Int×Bool)}(h:J l e lo P p r):JB l e lo P (p.map J1l) r:=by
 rcases h with ⟨v,j,h1,h2,h0,rfl,rfl⟩ | ⟨v,j,h2,rfl,rfl⟩
 ·exact .ok v j h1 h2 h0
 ·exact .pn v j h2
def beg (l:List K0)(k:Nat):Bool:=P4 l k 0||((isT l k [111,117,116,112,117,116]||(isT l k [119,97,105,116]||(isT l k [105,102]||(isT l k [119,104,105,108,101]||(isT l k [102,111,114]||(isT l k [115,101,116,116,108,101])))))))
abbrev zS:E0:=E0.mk 0 zE zE [] [] 0 0 0 [] [] []
def BL (out:List E0)(k:Nat)(v:List E0)(j:Nat):Prop:=E0.bulks v≤E0.bulks out+9000 * (j - k)
def BK (k:Nat)(v:List E0)(j:Nat):Prop:=E0.bulks v≤9000 * (j - k)
structure PS (l:List K0)(e:Int)(k:Nat):Prop where
 sts:∀ out,out.length≤k→J l e k (BL out k) (T5 (mk l k e) out) (N6 l k out)
 blk:J l e (k+1) (BK k) (L6 (mk l k e)) (Hb l k)
theorem Y16:∀ (os:List E0) (t:E0),E0.bulks (os++[t])=E0.bulks os+t.bulk
 | [],t=>by simp only [List.nil_append,E0.bulks]; omega
 | x::r,t=>by simp only [List.cons_append,E0.bulks,Y16 r t]; omega
section
set_option linter.unusedSectionVars false
variable {l:List K0}{e:Int}(hl:Uh l)
include hl
theorem J1e {lo j:Nat}{s:E0}(hj:j≤l.length)(hk:lo≤j+1){P:E0→Nat→Prop}(hP:P s (j+1)){F:Pn B0→Option (Pn (E0×Bool×B0))}(hF:∀ n,F (.pn n)=some (.pn n))(hF2:∀ x,F (.ok x)=some (.ok (s,true,x))) :
  JB l e lo P (R0 [59] (mk l j e)>>=F) (Vz l (s,(j:Int),true)):=by
 rw [S3 l e hl.1,U14 hl s j hj]
 cases h:isT l j [59] with
 | false=>simp only [Bool.false_eq_true,if_false,ob,hF]; exact .pn _ j hj
 | true=>
  have:=L1 h
  simp only [if_true,ob,hF2]
  exact .ok _ (j+1) hk (by omega) hP
section
variable {k:Nat}(hk:k≤l.length)(IH:∀ j,k < j→j≤l.length→PS l e j)
include hk IH
theorem Y1o (hb:beg l k=false):F7 (mk l k e)=some (.ok (zS,false,mk l k e)):=by
 have hB:=hl.1
 unfold beg at hb
 simp only [Bool.or_eq_false_iff] at hb
 obtain ⟨h0,h1,h2,h3,h4,h5,h6⟩:=hb
 rw [F7]
 simp only [Rz l e hB,P2 l e hB,h0,h1,h2,h3,h4,h5,h6,F3,ob,Bool.false_eq_true,if_false]
theorem L1p (hb:beg l k=true):JB l e (k+1) (BS k) (F7 (mk l k e)) (Ud l k):=by
 have hB:=hl.1
 rw [F7,Ud,Rz l e hB,ob]
 cases h0:P4 l k 0 with
 | true=>
  have hf:=M1n h0
  simp only [if_true,F2 l hB,ob,hf,Bool.false_eq_true,if_false]
  refine JB.lift (V1k hl hk) ?_ ?_
  ·exact fun _=>rfl
  ·exact fun _=>rfl
 | false=>
 simp only [Bool.false_eq_true,if_false]
 rw [P2 l e hB,ob]
 cases h1:isT l k [111,117,116,112,117,116] with
 | true=>
  have hlt:=L1 h1
  simp only [Z3,if_true,F2 l hB,ob,h1,Uk h1 (t':=[105,102]) rfl,Uk h1 (t':=[119,104,105,108,101]) rfl,Uk h1 (t':=[102,111,114]) rfl,Bool.false_eq_true,if_false]
  rw [w1 (by omega)]
  refine JB.bind (Xt (e:=e) hl (k:=k+1) (by omega)).expr ?_ ?_ ?_
  ·exact fun _=>rfl
  ·exact fun v j _=>⟨_,Lf hl (E0.mk 3 zE v [] [] 0 0 0 [] [] []) j⟩
  intro v j h2 h3 h4
  refine J1e hl (s:=E0.mk 3 zE v [] [] 0 0 0 [] [] []) h3 (by omega) ?_ (fun _=>rfl) (fun _=>rfl)
  unfold BS
  unfold BE at h4
  rw [Hr hl]
  simp only [E0.bulks,A0.bulks,Af,List.length_nil]
  omega
 | false=>
 simp only [F3,Bool.false_eq_true,if_false]
 rw [P2 l e hB,ob]
 cases h2:isT l k [119,97,105,116] with
 | true=>
  have hlt:=L1 h2
  simp only [Z3,if_true,F2 l hB,ob,h2,h1,Uk h2 (t':=[105,102]) rfl,Uk h2 (t':=[119,104,105,108,101]) rfl,Uk h2 (t':=[102,111,114]) rfl,Bool.false_eq_true,if_false]
  rw [w1 (by omega)]
  refine JB.bind (Gr (e:=e) hl (k:=k+1) (by omega)) ?_ ?_ ?_
  ·exact fun _=>rfl
  ·exact fun v j _=>⟨_,Lf hl (E0.mk 4 zE zE [] [] v 0 0 [] [] []) j⟩
  intro v j h3 h4 _
  refine J1e hl (s:=E0.mk 4 zE zE [] [] v 0 0 [] [] []) h4 (by omega) ?_ (fun _=>rfl) (fun _=>rfl)
  unfold BS
  rw [Hr hl]
  simp only [E0.bulks,A0.bulks,Af,List.length_nil]
  omega
 | false=>
 simp only [F3,Bool.false_eq_true,if_false]
 rw [P2 l e hB,ob]
 cases h3:isT l k [115,101,116,116,108,101] with
 | true=>
  have hlt:=L1 h3
  simp only [Z3,if_true,F2 l hB,ob,h3,h2,h1,Uk h3 (t':=[105,102]) rfl,Uk h3 (t':=[119,104,105,108,101]) rfl,Uk h3 (t':=[102,111,114]) rfl,Bool.false_eq_true,if_false]
  rw [w1 (by omega),Xi,S6]
  rcases Gr hl (e:=e) (k:=k+1) (by omega) with ⟨v,j,h7,h8,_,h9,h10⟩ | ⟨v,j,h8,h9,h10⟩
  ·have r1:decide ((0+1) * 9≤140737488355328)=true:=by decide
   rw [h9,h10,ob,ob]
   simp only [r1,if_true,Bool.not_true,Bool.false_eq_true,if_false,List.length_nil,List.nil_append]
   obtain ⟨p,e1,e2⟩:=S1i (e:=e) hl (l.length - j+1) j [v] (by omega) h8 (by simp only [List.length_singleton]; omega)
   rw [e1]
   refine JB.ofMap (e2.mono (by omega) fun v' j' h11 h12=>?_)
   unfold BS
   simp only [List.length_singleton] at h12
   omega
  ·rw [h9,h10,ob,ob]
   simp only [Bool.not_false,if_true,ob]
   exact (show JB l e (k+1) (BS k) (some (.pn (off l e j))) (Vz l (E0.mk 8 zE zE [] [] 0 0 0 [] [] [],(j:Int),false)) from by rw [Lf hl]; exact .pn _ j h8)
 | false=>
 simp only [F3,Bool.false_eq_true,if_false]
 rw [P2 l e hB,ob]
 cases h4:isT l k [105,102] with
 | true=>
  have hlt:=L1 h4
  simp only [Z3,if_true,F2 l hB,ob,h4]
  rw [w1 (by omega)]
  refine JB.rsame ?_
  rw [Fe]
  refine JB.bind (Xt (e:=e) hl (k:=k+1) (by omega)).expr ?_ ?_ ?_
  ·exact fun _=>rfl
  ·exact fun v j _=>⟨_,rfl⟩
  intro v j h5 h6 h7
  simp only [Bool.not_true,Bool.false_eq_true,if_false]
  refine JB.bind (IH j (by omega) h6).blk ?_ ?_ ?_
  ·exact fun _=>rfl
  ·exact fun v j _=>⟨_,rfl⟩
  intro v2 j2 h8 h9 h10
  simp only [Bool.not_true,Bool.false_eq_true,if_false]
  rw [P2 l e hB,ob,F2 l hB,ob]
  unfold BE at h7
  unfold BK at h10
  cases h11:isT l j2 [101,108,115,101] with
  | true=>
   have h12:=L1 h11
   simp only [Z3,if_true]
   rw [w1 (by omega)]
   refine JB.bind (IH (j2+1) (by omega) (by omega)).blk ?_ ?_ ?_
   ·exact fun _=>rfl
   ·exact fun v j _=>⟨_,rfl⟩
   intro v3 j3 h13 h14 h15
   refine .ok _ j3 (by omega) h14 ?_
   unfold BS
   unfold BK at h15
   rw [Hr hl]
   simp only [A0.bulks,Af,List.length_nil]
   omega
  | false=>
   simp only [F3,Bool.false_eq_true,if_false]
   refine .ok _ j2 (by omega) h9 ?_
   unfold BS
   rw [Hr hl]
   simp only [A0.bulks,E0.bulks,Af,List.length_nil]
   omega
 | false=>
 simp only [F3,Bool.false_eq_true,if_false]
 rw [P2 l e hB,ob]
 cases h5:isT l k [119,104,105,108,101] with
 | true=>
  have hlt:=L1 h5
  simp only [Z3,if_true,F2 l hB,ob,h4,h5,Bool.false_eq_true,if_false]
  rw [w1 (by omega)]
  refine JB.rsame ?_
  rw [An]
  refine JB.bind (Xt (e:=e) hl (k:=k+1) (by omega)).expr ?_ ?_ ?_
  ·exact fun _=>rfl
  ·exact fun v j _=>⟨_,rfl⟩
  intro v j h6 h7 h8
  simp only [Bool.not_true,Bool.not_false,if_true,cond_false]
  rw [S3 l e hB,F2 l hB,ob]
  cases h9:isT l j [108,105,109,105,116] with
  | false=>exact .pn _ j h7
  | true=>
   have h10:=L1 h9
   simp only [if_true,ob,Bool.not_true,Bool.false_eq_true,if_false]
   rw [w1 (by omega)]
   refine JB.bind (Gr (e:=e) hl (k:=j+1) (by omega)) ?_ ?_ ?_
   ·exact fun _=>rfl
   ·exact fun v j _=>⟨_,rfl⟩
   intro v2 j2 h11 h12 _
   simp only [Bool.not_true,Bool.false_eq_true,if_false]
   refine JB.bind (IH j2 (by omega) h12).blk ?_ ?_ ?_
   ·exact fun _=>rfl
   ·exact fun v j _=>⟨_,rfl⟩
   intro v3 j3 h13 h14 h15
   refine .ok _ j3 (by omega) h14 ?_
   unfold BS
   unfold BE at h8
   unfold BK at h15
   rw [Hr hl]
   simp only [A0.bulks,E0.bulks,Af,List.length_nil]
   omega
 | false=>
 simp only [F3,Bool.false_eq_true,if_false]
 rw [P2 l e hB,ob]
 cases h6:isT l k [102,111,114] with
 | false=>
  unfold beg at hb
  rw [h0,h1,h2,h3,h4,h5,h6] at hb
  cases hb
 | true=>
  have hlt:=L1 h6
  simp only [Z3,if_true,F2 l hB,ob,h4,h5,h6,Bool.false_eq_true,if_false]
  rw [w1 (by omega)]
  refine JB.rsame ?_
  rw [Lk,Bm l e hB,Pe l hB]
  cases h7:P4 l (k+1) 0 with
  | false=>exact .pn _ (k+1) (by omega)
  | true=>
   have h8:=Kh h7
   have ht:=Gj hl (k+1)
   simp only [if_true,ob,Bool.not_true,Bool.not_false,cond_false]
   rw [S3 l e hB,F2 l hB,ob]
   cases h9:isT l (k+1+1) [61] with
   | false=>exact .pn _ (k+1+1) (by omega)
   | true=>
    have h10:=L1 h9
    simp only [if_true,ob,Bool.not_true,Bool.false_eq_true,if_false]
    rw [w1 (by omega)]
    refine JB.bind (Gr (e:=e) hl (k:=k+1+1+1) (by omega)) ?_ ?_ ?_
    ·exact fun _=>rfl
    ·exact fun v j _=>⟨_,rfl⟩
    intro v j h11 h12 _
    simp only [Bool.not_true,Bool.not_false,if_true,cond_false]
    rw [S3 l e hB,F2 l hB,ob]
    cases h13:isT l j [116,111] with
    | false=>exact .pn _ j h12
    | true=>
     have h14:=L1 h13
     simp only [if_true,ob,Bool.not_true,Bool.false_eq_true,if_false]
     rw [w1 (by omega)]
     refine JB.bind (Gr (e:=e) hl (k:=j+1) (by omega)) ?_ ?_ ?_
     ·exact fun _=>rfl
     ·exact fun v j _=>⟨_,rfl⟩
     intro v2 j2 h15 h16 _
     simp only [Bool.not_true,Bool.false_eq_true,if_false]
     refine JB.bind (IH j2 (by omega) h16).blk ?_ ?_ ?_
     ·exact fun _=>rfl
     ·exact fun v j _=>⟨_,rfl⟩
     intro v3 j3 h17 h18 h19
     refine .ok _ j3 (by omega) h18 ?_
     unfold BS
     unfold BK at h19
     rw [Hr hl]
     simp only [A0.bulks,E0.bulks,Af,List.length_nil]
     omega
theorem Z1o (out:List E0)(ho:out.length≤k):J l e k (BL out k) (T5 (mk l k e) out) (N6 l k out):=by
 have hB:=hl.1
 rw [T5,N6,V14 hl k,ob]
 cases hb:beg l k with
 | false=>
  rw [Y1o hl hk IH hb,ob]
  unfold beg at hb
  rw [hb]
  simp only [Bool.not_false,if_true,Bool.false_eq_true,if_false]
  exact .ok _ k (Nat.le_refl _) hk (by unfold BL; omega)
 | true=>
  have hb':=hb
  unfold beg at hb'
  rw [hb',if_pos rfl]
  rcases L1p hl hk IH hb with ⟨v,j,h1,h2,h3,h4,h5⟩ | ⟨v,j,h2,h4,h5⟩
  ·have r1:decide ((out.length+1) * 257≤140737488355328)=true:=decide_eq_true (by unfold BB at hB; omega)
   rw [h4,h5,ob,ob]
   simp only [r1,if_true,Bool.not_true,Bool.false_eq_true,if_false]
   refine ((IH j (by omega) h2).sts (out++[v]) (by rw [List.length_append]; simp only [List.length_singleton]; omega)).mono (by omega) fun v' j' h6 h7=>?_
   unfold BL at h7 ⊢
   unfold BS at h3
   rw [Y16] at h7
   omega
  ·rw [h4,h5,ob,ob]
   simp only [Bool.not_false,if_true]
   exact .pn _ j h2
theorem A1p:J l e (k+1) (BK k) (L6 (mk l k e)) (Hb l k):=by
 have hB:=hl.1
 rw [L6,Hb,S3 l e hB,F2 l hB,ob]
 cases h1:isT l k [123] with
 | false=>exact .pn _ k hk
 | true=>
  have h2:=L1 h1
  simp only [if_true,ob,Bool.not_true,Bool.false_eq_true,if_false]
  rw [w1 (by omega),Y3,X4]
  refine J.bind ((IH (k+1) (by omega) (by omega)).sts [] (Nat.zero_le _)) ?_ ?_ ?_
  ·exact fun _=>rfl
  ·exact fun v j _=>⟨_,rfl⟩
  intro v j h3 h4 h5
  simp only [Bool.not_true,Bool.not_false,if_true,cond_false]
  rw [S3 l e hB,F2 l hB,ob]
  cases h6:isT l j [125] with
  | false=>exact .pn _ j h4
  | true=>
   have h7:=L1 h6
   simp only [if_true,ob,Bool.not_true,Bool.false_eq_true,if_false]
   rw [w1 (by omega)]
   refine .ok _ (j+1) (by omega) (by omega) ?_
   unfold BK
   unfold BL at h5
   simp only [E0.bulks] at h5
   omega
end
theorem T1i:∀ (n k:Nat),l.length - k < n→k≤l.length→PS l e k
 | 0,k,h,_=>absurd h (Nat.not_lt_zero _)
 | n+1,k,h,hk=>by
  have IH:∀ j,k < j→j≤l.length→PS l e j:=fun j h1 h2=>T1i n j (by omega) h2
  exact ⟨Z1o hl hk IH,A1p hl hk IH⟩
theorem B1p {k:Nat}(hk:k≤l.length):PS l e k:=T1i hl _ k (Nat.lt_succ_self _) hk
theorem K1e {k:Nat}(hk:k≤l.length):J l e k (BK k) (Y3 (mk l k e)) (X4 l k):=by
 rw [Y3,X4]
 refine ((B1p hl hk).sts [] (Nat.zero_le _)).mono (Nat.le_refl _) fun v j _ h=>?_
 unfold BK
 unfold BL at h
 simp only [E0.bulks] at h
 omega
end
end Go.Proofs.YtmnhfbekncjnfaaGreatDoor

