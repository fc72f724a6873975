/- A part of the proof of ParserRoundTrips. -/
import Derived.Test.YtmnhfbekncjnfaaGreatDoorDgB
import Derived.ProofKit
import Derived.Lib.Atoi
import Derived.KernelRfl
namespace Go.Proofs.YtmnhfbekncjnfaaGreatDoor
open Go.Am
theorem ob {α β:Type}(a:α)(f:α→Option β):(some a>>=f)=f a:=rfl
theorem V3 {α:Type}{l:List α}{k:Nat}{x:α}{r:List α}(h:l.drop k=x::r):decide ((k:Int) < (l.length:Int))=true∧idx l (k:Int)=some x∧l.drop (k+1)=r∧k < l.length∧x∈l:=by
 have hk:k < l.length:=by
  rcases Nat.lt_or_ge k l.length with h1 | h1
  ·exact h1
  ·rw [List.drop_eq_nil_of_le h1] at h; cases h
 have hx:=List.drop_eq_getElem_cons hk
 rw [h] at hx
 obtain ⟨e1,e2⟩:=List.cons.inj hx
 refine ⟨decide_eq_true (by omega),?_,e2.symm,hk,?_⟩
 ·unfold idx
  rw [if_pos (by omega),e1]
  simp [hk]
 ·rw [e1]; exact List.getElem_mem hk
theorem C3 {α:Type}{l:List α}{k:Nat}(h:l.drop k=[]):decide ((k:Int) < (l.length:Int))=false∧l.length≤k:=by
 have:=List.drop_eq_nil_iff.1 h
 exact ⟨decide_eq_false (by omega),this⟩
def BB:Nat:=68719476736
theorem wr {n:Int}(h : -4611686018427387904≤n)(h':n≤4611686018427387904):IntKind.i64.wrap n=n:=D1f (by omega) (by omega)
theorem w1 {k:Nat}(h:k≤BB):IntKind.i64.wrap ((k:Int)+1)=((k+1:Nat):Int):=by
 unfold BB at h
 rw [wr (by omega) (by omega)]; rfl
def X4 (n:Int):Bool:=bif decide (n≥97) then decide (n≤122) else false
def Q4 (n:Int):Bool:=bif decide (n≥48) then decide (n≤57) else false
def W13 (i:Nat)(c:UInt8):Bool:=X4 c.toNat||(i != 0&&Q4 c.toNat)
def Nc:Nat→List UInt8→Bool
 | _,[]=>true
 | i,c::r=>W13 i c&&Nc (i+1) r
def word (s:List UInt8):Bool:=Nc 0 s && !(s == [])
def kw:List UInt8:=[32,116,121,112,101,32,115,101,99,114,101,116,32,112,117,98,108,105,99,32,114,97,110,100,111,109,32,118,97,114,32,104,97,116,99,104,32,102,117,110,99,32,114,101,116,117,114,110,32,98,101,103,105,110,32,101,110,100,32,98,111,111,108,32,105,110,116,32,97,114,114,97,121,32,111,102,32,114,101,99,111,114,100,32,116,114,117,101,32,102,97,108,115,101,32,99,97,108,108,32,114,101,108,101,97,115,101,32,111,117,116,112,117,116,32,119,97,105,116,32,105,102,32,101,108,115,101,32,119,104,105,108,101,32,108,105,109,105,116,32,102,111,114,32,116,111,32,115,101,116,116,108,101,32,109,105,110,32,109,97,120,32]
def Yh (s:List UInt8):Bool:=bif (bif !(s == []) then !Lib.contains s [32] else false) then Lib.contains kw ([32]++s++[32]) else false
def T5 (s:List UInt8):Bool:=bif (bif decide ((s.length:Int)≤12) then word s else false) then !Yh s else false
theorem getD_some {s:List UInt8}{k:Nat}(h:k < s.length):s[k]?=some (s.getD k 0):=by simp [List.getD,h]
def ld (c:UInt8):Bool:=bif X4 c.toNat then true else Q4 c.toNat
def E4:List UInt8→Nat
 | []=>0
 | c::r=>bif ld c then E4 r+1 else 0
theorem Ws:∀ s:List UInt8,E4 s≤s.length
 | []=>Nat.le_refl _
 | c::r=>by
  simp only [E4,List.length_cons]
  have:=Ws r
  cases ld c <;> simp <;> omega
def Hr (s:List UInt8):Bool:=bif ((s.length:Nat):Int) == 0 then false else bif s.all (fun c=>X4 c.toNat) then Lib.contains kw ([32]++s++[32]) else false
set_option maxRecDepth 100000 in
theorem Wx:kw.length=162:=rfl
theorem U17 {s sub:List UInt8}{i:Nat}(hi:i+sub.length≤s.length)(h:((s.take (i+sub.length)).drop i == sub)=true):Lib.contains s sub=true:=by
 have ho:Lib.occAt s sub i=true:=by
  rw [Lib.occAt_iff_take s sub i hi]
  rw [List.drop_take] at h
  simpa using h
 rcases Lib.index_spec s sub with ⟨_,h2⟩ | ⟨j,h1,_⟩
 ·rw [h2 i (by omega)] at ho; cases ho
 ·unfold Lib.contains
  rw [h1]
  exact decide_eq_true (by omega)
theorem Tu {s sub:List UInt8}(h:∀ i,i+sub.length≤s.length→((s.take (i+sub.length)).drop i == sub)=false)(hne:sub≠[]):Lib.contains s sub=false:=by
 rcases Lib.index_spec s sub with ⟨h1,_⟩ | ⟨j,h1,h2,h3,_⟩
 ·unfold Lib.contains
  rw [h1]; rfl
 ·rcases Lib.occAt_room h3 with hr | hr
  ·have:=h j hr
   rw [Lib.occAt_iff_take s sub j hr] at h3
   rw [List.drop_take] at this
   have e:j+sub.length - j=sub.length:=by omega
   rw [e,h3] at this
   cases this
  ·exact absurd hr hne
def P1b (s:List UInt8):Bool:=
 bif (bif (bif (bif decide (((s.length:Nat):Int) < 1) then true else decide (((s.length:Nat):Int) > 12)) then true else !X4 (s.getD 0 0).toNat) then true else Hr s) then false else ((E4 s:Nat):Int) == ((s.length:Nat):Int)
theorem Vz:∀ (r:List UInt8) (i:Nat),1≤i→Nc i r=r.all ld
 | [],_,_=>rfl
 | c::r,i,h=>by
  have hi:(i != 0)=true:=by simp; omega
  simp only [Nc,List.all_cons,Vz r (i+1) (by omega),W13,hi,Bool.true_and,ld]
  cases X4 c.toNat <;> rfl
theorem A1a:∀ s:List UInt8,(((E4 s:Nat):Int) == ((s.length:Nat):Int))=s.all ld
 | []=>rfl
 | c::r=>by
  have h:=A1a r
  have hle:=Ws r
  simp only [E4,List.length_cons,List.all_cons,← h]
  cases ld c with
  | false=>
   simp only [cond_false,Bool.false_and]
   apply beq_eq_false_iff_ne.2
   omega
  | true=>
   simp only [cond_true,Bool.true_and]
   rw [Bool.eq_iff_iff,beq_iff_eq,beq_iff_eq]
   omega
set_option maxRecDepth 100000 in
theorem W1f:kw.all (fun c=>X4 c.toNat||c == 32)=true:=by decide
theorem Xx {s sub:List UInt8}(h:Lib.contains s sub=true)(hne:sub≠[]):∀ c∈sub,c∈s:=by
 rcases Lib.index_spec s sub with ⟨h1,_⟩ | ⟨j,h1,h2,h3,_⟩
 ·unfold Lib.contains at h
  rw [h1] at h
  cases h
 ·rcases Lib.occAt_room h3 with hr | hr
  ·rw [Lib.occAt_iff_take s sub j hr] at h3
   have e:(s.drop j).take sub.length=sub:=by simpa using h3
   intro c hc
   rw [← e] at hc
   exact List.mem_of_mem_drop (List.mem_of_mem_take hc)
  ·exact absurd hr hne
theorem V17:ld 32=false:=by decide
theorem W17 {s:List UInt8}(h:s.all ld=true):Lib.contains s [32]=false:=by
 cases hc:Lib.contains s [32] with
 | false=>rfl
 | true=>
  have:=Xx hc (by simp) 32 (by simp)
  have:=List.all_eq_true.1 h 32 this
  rw [V17] at this
  cases this
theorem B1a {s:List UInt8}(h:s.all ld=true)(hc:Lib.contains kw ([32]++s++[32])=true):s.all (fun c=>X4 c.toNat)=true:=by
 rw [List.all_eq_true]
 intro c hcs
 have h1:=Xx hc (by simp) c (by simp [hcs])
 have h2:=List.all_eq_true.1 W1f c h1
 have h3:=List.all_eq_true.1 h c hcs
 cases hl:X4 c.toNat with
 | true=>rfl
 | false=>
  rw [hl,Bool.false_or,beq_iff_eq] at h2
  subst h2
  rw [V17] at h3
  cases h3
theorem Z1h (s:List UInt8):P1b s=T5 s:=by
 unfold P1b T5
 rw [A1a]
 cases s with
 | nil=>rfl
 | cons c r=>
  have h1:decide ((((c::r).length:Nat):Int) < 1)=false:=decide_eq_false (by simp only [List.length_cons]; omega)
  have h12:decide ((((c::r).length:Nat):Int) > 12) = !decide ((((c::r).length:Nat):Int)≤12):=by
   rw [← decide_not]; exact decide_eq_decide.2 Int.not_le.symm
  have hw:word (c::r)=(X4 c.toNat&&r.all ld):=by
   unfold word
   simp only [Nc,W13,Vz r 1 (Nat.le_refl _)]
   simp
  rw [h1,h12,hw,cond_false,List.all_cons]
  show (bif (bif (bif !decide ((((c::r).length:Nat):Int)≤12) then true else !X4 c.toNat) then true else Hr (c::r)) then false else (ld c&&r.all ld))=_
  cases h12':decide ((((c::r).length:Nat):Int)≤12) with
  | false=>rfl
  | true=>
   cases hl:X4 c.toNat with
   | false=>rfl
   | true=>
    have hlc:ld c=true:=by unfold ld; rw [hl]; rfl
    rw [hlc]
    cases ha:r.all ld with
    | false=>cases Hr (c::r) <;> rfl
    | true=>
     have hall:(c::r).all ld=true:=by rw [List.all_cons,hlc,ha]; rfl
     have hns:=W17 hall
     have e:Hr (c::r)=Yh (c::r):=by
      unfold Hr Yh
      rw [hns]
      have hz:((((c::r).length:Nat):Int) == 0)=false:=beq_eq_false_iff_ne.2 (by simp only [List.length_cons]; omega)
      rw [hz]
      cases hk:Lib.contains kw ([32]++(c::r)++[32]) with
      | false=>simp
      | true=>
       rw [B1a hall hk]
       rfl
     rw [e]
     cases Yh (c::r) <;> rfl
theorem Ir (n:Int):K8 n=some (X4 n):=rfl
theorem Ao (n:Int):T6 n=some (Q4 n):=rfl
theorem U12 (s:Str)(hs:s.length≤BB):∀ (r:Str) (k:Nat),s.drop k=r→J4 s k=some (Nc k r && !(s == []))
 | [],k,h=>by rw [J4,(C3 h).1]; simp [Nc]
 | c::r,k,h=>by
  obtain ⟨h1,h2,h3,h4,_⟩:=V3 h
  have ih:=U12 s hs r (k+1) h3
  rw [J4,h1,if_pos rfl,h2,ob,Ir,ob,w1 (by omega),ih]
  have e:((k:Int) == 0)=(k == 0):=by cases k <;> rfl
  simp only [e,Nc,W13,bne]
  cases hl:X4 c.toNat <;> cases hk:k == 0 <;> cases hd:Q4 c.toNat <;> simp [Ao,hd]
theorem R1d (s:Str)(hs:s.length≤BB):Ge s=some (word s):=U12 s hs s 0 rfl
theorem Uu (s t:Str)(hs:s.length≤4000000000):Mf s t=some (Lib.contains s t):=by
 unfold Mf
 rw [if_pos (decide_eq_true (by omega))]
theorem Wz (s:Str)(hs:s.length≤4000000000):W6 s=some (Yh s):=by
 unfold W6
 have h1:decide (1+s.length≤maxLen)=true:=decide_eq_true (by unfold maxLen; omega)
 have h2:decide (([32]++s).length+1≤maxLen)=true:=decide_eq_true (by unfold maxLen; simp; omega)
 rw [Uu s _ hs]
 have h3:=Uu kw (([32]++s)++[32]) (by rw [Wx]; omega)
 unfold kw at h3
 unfold Yh kw
 rw [h1,h2,h3]
 cases s == [] <;> cases Lib.contains s [32] <;> simp
theorem S1d (s:Str)(hs:s.length≤BB):Ab s=some (T5 s):=by
 unfold Ab He T5
 rw [R1d s hs]
 cases h:decide ((s.length:Int)≤12) with
 | false=>simp
 | true=>
  have h':s.length≤12:=by have:=of_decide_eq_true h; omega
  rw [Wz s (by omega)]
  cases word s <;> simp
theorem Wj (n:Int):Ec n=some (X4 n):=rfl
theorem Jr (n:Int):Og n=some (Q4 n):=rfl
theorem X13 (s:Str)(hs:s.length≤BB):∀ (r:Str) (k:Nat),s.drop k=r→Qa s k=some ((k+E4 r:Nat):Int)
 | [],k,h=>by rw [Qa,(C3 h).1]; simp [E4,ob]
 | c::r,k,h=>by
  obtain ⟨h1,h2,h3,h4,_⟩:=V3 h
  have ih:=X13 s hs r (k+1) h3
  rw [Qa,h1,if_pos rfl,h2,ob,if_pos rfl,Wj,ob,w1 (by omega),ih]
  simp only [E4,ld]
  cases hl:X4 c.toNat <;> cases hd:Q4 c.toNat <;> simp [Jr,hd,ob] <;> omega
theorem H1j (s:Str)(hs:s.length≤BB):Fh s 0=some ((E4 s:Nat):Int):=by
 have:=X13 s hs s 0 rfl
 unfold Fh
 rw [Nat.zero_add] at this
 exact this
theorem X1f (s:Str)(hs:s.length≤4000000000):∀ (n k:Nat),n+k=163→(∀ i,i < k→i+([32]++s++[32]).length≤kw.length→((kw.take (i+([32]++s++[32]).length)).drop i == [32]++s++[32])=false)→
  H5 s k=some (Lib.contains kw ([32]++s++[32])):=by
 have hl:([32]++s++[32]).length=s.length+2:=by simp
 intro n
 induction n with
 | zero=>
  intro k hk hi
  rw [H5,wr (n:=(k:Int)+_) (by omega) (by omega),wr (by omega) (by omega),if_neg (by simp; omega),Tu (fun i h=>hi i (by rw [Wx] at h; omega) h) (by simp)]
 | succ n ih=>
  intro k hk hi
  rw [H5,wr (n:=(k:Int)+_) (by omega) (by omega),wr (by omega) (by omega)]
  by_cases hr:k+([32]++s++[32]).length≤kw.length
  ·have hr':=hr
   rw [Wx,hl] at hr'
   rw [if_pos (decide_eq_true (by omega))]
   have hs2:slc kw (k:Int) ((k:Int)+(s.length:Int)+2)=some ((kw.take (k+([32]++s++[32]).length)).drop k):=by
    unfold slc
    rw [if_pos ⟨by omega,by omega,by rw [Wx]; omega⟩,hl]
    rw [show ((k:Int)+(s.length:Int)+2).toNat=k+(s.length+2) by omega]
    rfl
   unfold kw at hs2
   rw [hs2,ob,if_pos (decide_eq_true (by unfold maxLen; omega)),if_pos (decide_eq_true (by unfold maxLen; simp; omega))]
   cases he:((kw.take (k+([32]++s++[32]).length)).drop k == [32]++s++[32]) with
   | true=>
    have:=U17 hr he
    rw [this]
    unfold kw at he
    rw [he,if_pos rfl]
   | false=>
    have he':=he
    unfold kw at he'
    rw [he',if_neg (by simp),w1 (by unfold BB; omega)]
    refine ih (k+1) (by omega) fun i hik=>?_
    rcases Nat.lt_or_eq_of_le (Nat.le_of_lt_succ hik) with h | h
    ·exact hi i h
    ·subst h; exact fun _=>he
  ·have hr':=hr
   rw [Wx,hl] at hr'
   rw [if_neg (by simp; omega),Tu (fun i h=>hi i (by omega) h) (by simp)]
theorem X17 (s:Str)(hs:s.length≤4000000000):∀ (r:Str) (k:Nat),s.drop k=r→I5 s k=some (bif r.all (fun c=>X4 c.toNat) then Lib.contains kw ([32]++s++[32]) else false)
 | [],k,h=>by rw [I5,(C3 h).1,if_neg (by simp)]; exact X1f s hs 163 0 rfl (fun i h=>by omega)
 | c::r,k,h=>by
  obtain ⟨h1,h2,h3,h4,_⟩:=V3 h
  have ih:=X17 s hs r (k+1) h3
  rw [I5,h1,if_pos rfl,h2,ob,Wj,ob,w1 (by unfold BB; omega),ih,List.all_cons]
  cases X4 c.toNat <;> simp
theorem Xs (s:Str)(hs:s.length≤4000000000):Vb s=some (Hr s):=by
 unfold Vb Hr
 have:=X17 s hs s 0 rfl
 rw [show (0:Int)=((0:Nat):Int) from rfl,this]
 cases ((s.length:Int) == ((0:Nat):Int)) <;> simp
theorem Kp (s:Str)(hs:s.length≤BB):Gc s=some (T5 s):=by
 rw [← Z1h]
 unfold Gc Rj P1b
 cases h:(bif decide ((s.length:Int) < 1) then true else decide ((s.length:Int) > 12)) with
 | true=>simp [ob]
 | false=>
  have h':1≤s.length∧s.length≤12:=by
   cases h1:decide ((s.length:Int) < 1) with
   | true=>rw [h1] at h; cases h
   | false=>
    rw [h1] at h
    have:=of_decide_eq_false h1
    have:=of_decide_eq_false (show decide ((s.length:Int) > 12)=false from h)
    omega
  have h0:idx s 0=some (s.getD 0 0):=getD_some (by omega)
  rw [h0,Xs s (by omega),H1j s hs]
  simp only [Bool.not_false,if_true,ob,Wj,cond_false]
  cases X4 (s.getD 0 0).toNat <;> cases Hr s <;> simp [ob]
end Go.Proofs.YtmnhfbekncjnfaaGreatDoor

set_option linter.unusedSimpArgs false
namespace Go.Proofs.YtmnhfbekncjnfaaGreatDoor
open Go.Am
theorem C0.ind {P:C0→Prop}(h:∀ t:C0,(∀ x∈t.Of,P x)→P t):∀ t,P t:=by
 intro t
 refine C0.rec (motive_1:=P) (motive_2:=fun l=>∀ x∈l,P x) ?_ ?_ ?_ t
 ·intro k l h' s n ns of ih
  exact h _ ih
 ·intro x hx; cases hx
 ·intro x r hx hr y hy
  cases hy with
  | head=>exact hx
  | tail _ hy=>exact hr y hy
mutual
def C0.depth:C0→Nat
 | .mk _ _ _ _ _ _ of=>C0.depths of+1
def C0.depths:List C0→Nat
 | []=>0
 | t::r=>max (C0.depth t) (C0.depths r)
end
theorem C0.depth_eq (t:C0):t.depth=C0.depths t.Of+1:=by cases t; simp [C0.depth,C0.Of]
def G9 (a b c:Int):Bool:=bif decide (a≥b) then decide (a≤c) else false
mutual
def C0.all (p:C0→Bool):C0→Bool
 | .mk k l h s n ns of=>p (.mk k l h s n ns of)&&C0.alls p of
def C0.alls (p:C0→Bool):List C0→Bool
 | []=>true
 | t::r=>C0.all p t&&C0.alls p r
end
theorem C0.all_eq (p:C0→Bool)(t:C0):t.all p=(p t&&C0.alls p t.Of):=by cases t; rfl
mutual
def C0.nodes:C0→Nat
 | .mk _ _ _ _ _ _ of=>C0.nodess of+1
def C0.nodess:List C0→Nat
 | []=>0
 | t::r=>C0.nodes t+C0.nodess r
end
theorem C0.nodes_eq (t:C0):t.nodes=C0.nodess t.Of+1:=by cases t; rfl
mutual
theorem C0.depth_nodes:∀ t:C0,t.depth≤t.nodes
 | .mk _ _ _ _ _ _ of=>by simp only [C0.depth,C0.nodes]; have:=C0.depths_nodess of; omega
theorem C0.depths_nodess:∀ l:List C0,C0.depths l≤C0.nodess l
 | []=>Nat.le_refl _
 | t::r=>by simp only [C0.depths,C0.nodess]; have:=C0.depth_nodes t; have:=C0.depths_nodess r; omega
end
def fm1 (t:C0):Bool:=bif decide (t.Kind≥0) then decide (t.Kind≤4) else false
def fm2 (t:C0):Bool:=bif t.Kind == 1 then true else bif t.Low == 0 then t.High == 0 else false
def fm3 (t:C0):Bool:=bif t.Kind == 2 then true else t.Size == 0
def fm4 (t:C0):Bool:=bif t.Kind == 4 then true else t.Name == []
def fm5 (t:C0):Bool:=bif t.Kind == 3 then true else ((t.Names).length:Int) == 0
def fm6 (t:C0):Bool:=bif t.Kind == 2 then ((t.Of).length:Int) == 1 else bif t.Kind == 3 then (bif decide (((t.Of).length:Int)≥1) then ((t.Of).length:Int) == ((t.Names).length:Int) else false) else ((t.Of).length:Int) == 0
def nm1 (t:C0):Bool:=bif t.Kind == 2 then G9 t.Size 1 32 else bif t.Kind == 3 then decide (((t.Of).length:Int)≤32) else true
def nm2 (t:C0):Bool:=bif t.Kind == 1 then (bif G9 t.Low (-1048576) 1048576 then G9 t.High t.Low 1048576 else false) else true
def na1 (t:C0):Bool:=bif t.Kind == 4 then T5 t.Name else true
def X8 (t:C0):Bool:=fm1 t&&fm2 t&&fm3 t&&fm4 t&&fm5 t&&fm6 t
def Zh (t:C0):Bool:=nm1 t&&nm2 t
def Yf (t:C0):Bool:=na1 t&&t.Names.all T5
theorem Lp (a b c:Bool):(a || !b || !c)=(a || !(b&&c)):=by cases a <;> cases b <;> cases c <;> rfl
def Ue (n d:Int)(f m u:Bool):Int:=
 bif (bif decide (n > 1024) then true else decide (d > 12)) then 4 else bif f then 1 else bif m then 7 else bif u then 3 else 0
theorem V12 (a b:Int):decide (a < b) = !decide (a≥b):=by
 rw [← decide_not]; exact decide_eq_decide.2 Int.not_le.symm
theorem F16 (a b:Int):decide (a > b) = !decide (a≤b):=by
 rw [← decide_not]; exact decide_eq_decide.2 Int.not_le.symm
def Y17 (t:C0):Bool:=bif decide (t.Kind < 0) then true else decide (t.Kind > 4)
def Z17 (t:C0):Bool:=
 bif (bif (bif (bif t.Kind != 1 then (bif t.Low != 0 then true else t.High != 0) else false) then true else (bif t.Kind != 2 then t.Size != 0 else false)) then true else (bif t.Kind != 4 then !(t.Name == []) else false)) then true else
  (bif t.Kind != 3 then ((t.Names).length:Int) != 0 else false)
def A18 (t:C0):Bool:=
 bif (bif (bif t.Kind == 2 then ((t.Of).length:Int) != 1 else false) then true else
  (bif t.Kind == 3 then (bif decide (((t.Of).length:Int) < 1) then true else ((t.Of).length:Int) != ((t.Names).length:Int)) else false)) then true else
  (bif (bif t.Kind != 2 then t.Kind != 3 else false) then ((t.Of).length:Int) != 0 else false)
theorem A1i (t:C0):fm1 t = !Y17 t:=by
 unfold fm1 Y17
 rw [V12,F16]
 cases decide (t.Kind≥0) <;> cases decide (t.Kind≤4) <;> rfl
theorem B1i (t:C0):(fm2 t&&fm3 t&&fm4 t&&fm5 t) = !Z17 t:=by
 unfold fm2 fm3 fm4 fm5 Z17
 simp only [bne]
 generalize (t.Kind == 1)=a
 generalize (t.Kind == 2)=b
 generalize (t.Kind == 3)=c
 generalize (t.Kind == 4)=d
 generalize (t.Low == 0)=e
 generalize (t.High == 0)=f
 generalize (t.Size == 0)=g
 generalize (t.Name == [])=h
 generalize (((t.Names).length:Int) == 0)=i
 cases a <;> cases b <;> cases c <;> cases d <;> cases e <;> cases f <;> cases g <;> cases h <;> cases i <;> rfl
theorem C1i (t:C0):fm6 t = !A18 t:=by
 have hx:(t.Kind == 2)=true→(t.Kind == 3)=false:=fun h=>by
  have:t.Kind=2:=by simpa using h
  rw [this]; rfl
 unfold fm6 A18
 rw [V12]
 simp only [bne]
 revert hx
 generalize (t.Kind == 2)=b
 generalize (t.Kind == 3)=c
 generalize (((t.Of).length:Int) == 1)=d
 generalize (((t.Of).length:Int) == 0)=e
 generalize (((t.Of).length:Int) == ((t.Names).length:Int))=f
 generalize (decide (((t.Of).length:Int)≥1))=g
 intro hx
 cases b <;> cases c <;> first | (exact absurd (hx rfl) (by decide)) | (cases d <;> cases e <;> cases f <;> cases g <;> rfl)
theorem Y1f (t:C0):X8 t=(!Y17 t && !Z17 t && !A18 t):=by
 rw [← A1i,← B1i,← C1i]
 unfold X8
 simp only [Bool.and_assoc]
def Ei (n:Int):Bool:=bif decide (n≥-1048576) then decide (n≤1048576) else false
def Mp (t:C0):Bool:=
 bif (bif (bif t.Kind == 1 then (bif (bif !Ei t.Low then true else !Ei t.High) then true else decide (t.Low > t.High)) else false) then true else
  (bif t.Kind == 2 then (bif decide (t.Size < 1) then true else decide (t.Size > 32)) else false)) then true else decide (((t.Of).length:Int) > 32)
theorem B18 (t:C0)(hf:X8 t=true):Zh t = !Mp t:=by
 have hk1:(t.Kind == 1)=true→(t.Kind == 2)=false∧(t.Kind == 3)=false:=fun h=>by
  have:t.Kind=1:=by simpa using h
  rw [this]; exact ⟨rfl,rfl⟩
 have hk2:(t.Kind == 2)=true→(t.Kind == 3)=false:=fun h=>by
  have:t.Kind=2:=by simpa using h
  rw [this]; rfl
 have h6:fm6 t=true:=by
  unfold X8 at hf
  simp only [Bool.and_eq_true] at hf
  exact hf.2
 have hin:(bif G9 t.Low (-1048576) 1048576 then G9 t.High t.Low 1048576 else false) = !(bif (bif !Ei t.Low then true else !Ei t.High) then true else decide (t.Low > t.High)):=by
  unfold G9 Ei
  by_cases a1:t.Low≥-1048576 <;> by_cases a2:t.Low≤1048576 <;> by_cases a3:t.High≥-1048576 <;> by_cases a4:t.High≤1048576 <;> by_cases a5:t.High≥t.Low <;>
   simp [a1,a2,a3,a4,a5] <;> omega
 have hsz:G9 t.Size 1 32 = !(bif decide (t.Size < 1) then true else decide (t.Size > 32)):=by
  unfold G9
  rw [V12,F16]
  cases decide (t.Size≥1) <;> cases decide (t.Size≤32) <;> rfl
 unfold Zh Mp nm1 nm2
 rw [hin,hsz,F16 (((t.Of).length:Int))]
 have hl:(t.Kind == 3)=false→decide (((t.Of).length:Int)≤32)=true:=fun h3=>by
  unfold fm6 at h6
  rw [h3] at h6
  cases h2:t.Kind == 2 with
  | true=>
   rw [h2] at h6
   have:((t.Of).length:Int)=1:=by simpa using h6
   exact decide_eq_true (by omega)
  | false=>
   rw [h2] at h6
   have:((t.Of).length:Int)=0:=by simpa using h6
   exact decide_eq_true (by omega)
 revert hk1 hk2 hl
 generalize (bif (bif !Ei t.Low then true else !Ei t.High) then true else decide (t.Low > t.High))=X
 generalize (bif decide (t.Size < 1) then true else decide (t.Size > 32))=Y
 generalize decide (((t.Of).length:Int)≤32)=Z
 generalize (t.Kind == 1)=a
 generalize (t.Kind == 2)=b
 generalize (t.Kind == 3)=c
 intro hk1 hk2 hl
 cases a <;> cases b <;> cases c <;> first | exact absurd (hk1 rfl).1 (by decide) | exact absurd (hk1 rfl).2 (by decide) | exact absurd (hk2 rfl) (by decide) | (cases X <;> cases Y <;> cases Z <;> first | rfl | exact absurd (hl rfl) (by decide))
theorem L19 (t:C0):t.all X8=true→t.all Zh=t.all fun t=>!Mp t:=by
 induction t using C0.ind with
 | h t ih=>
 intro hf
 rw [C0.all_eq,Bool.and_eq_true] at hf
 rw [C0.all_eq,C0.all_eq,B18 t hf.1]
 congr 1
 have:∀ l:List C0,(∀ x∈l,x.all X8=true→x.all Zh=x.all fun t=>!Mp t)→C0.alls X8 l=true→C0.alls Zh l=C0.alls (fun t=>!Mp t) l:=by
  intro l
  induction l with
  | nil=>intros; rfl
  | cons x r ihr=>
   intro h1 h2
   simp only [C0.alls,Bool.and_eq_true] at h2
   simp only [C0.alls]
   rw [h1 x List.mem_cons_self h2.1,ihr (fun y hy=>h1 y (List.mem_cons_of_mem _ hy)) h2.2]
 exact this t.Of ih hf.2
def Oc (t:C0):Int:=Ue t.nodes t.depth (!t.all X8) (!t.all Yf) (!t.all Zh)
theorem C0.alls_mem {p:C0→Bool}:∀ {l:List C0} {t:C0},C0.alls p l=true→t∈l→t.all p=true
 | x::r,t,h,hm=>by
  simp only [C0.alls,Bool.and_eq_true] at h
  cases hm with
  | head=>exact h.1
  | tail _ hm=>exact C0.alls_mem h.2 hm
def eqL {α:Type}(p:α→α→Bool):List α→List α→Bool
 | [],[]=>true
 | x::r,y::s=>p x y&&eqL p r s
 | _,_=>false
theorem Uy {α:Type}(p:α→α→Bool):∀ {l m:List α},l.length≠m.length→eqL p l m=false
 | [],[],h=>absurd rfl h
 | [],_::_,_=>rfl
 | _::_,[],_=>rfl
 | x::r,y::s,h=>by rw [eqL,Uy p (l:=r) (m:=s) (by simpa using h),Bool.and_false]
mutual
def C0.same:C0→C0→Bool
 | .mk k l h s n ns of,t=>k == t.Kind&&l == t.Low&&h == t.High&&s == t.Size&&n == t.Name&&eqL (fun x y=>x == y) ns t.Names&&C0.sames of t.Of
def C0.sames:List C0→List C0→Bool
 | [],[]=>true
 | x::r,y::s=>C0.same x y&&C0.sames r s
 | [],_::_=>false
 | _::_,[]=>false
end
theorem C0.sames_eq:∀ l m:List C0,C0.sames l m=eqL C0.same l m
 | [],[]=>rfl
 | x::r,y::s=>by simp only [C0.sames,eqL,C0.sames_eq r s]
 | [],_::_=>rfl
 | _::_,[]=>rfl
theorem C0.same_eq (t u:C0):t.same u=(t.Kind == u.Kind&&t.Low == u.Low&&t.High == u.High&&t.Size == u.Size&&t.Name == u.Name&&eqL (fun x y=>x == y) t.Names u.Names&&eqL C0.same t.Of u.Of):=by
 rw [← C0.sames_eq]
 cases t
 rfl
def Y13 (t u:C0):Bool:=
 bif (bif (bif (bif (bif (bif t.Kind != u.Kind then true else t.Low != u.Low) then true else t.High != u.High) then true else t.Size != u.Size) then true else !(t.Name == u.Name)) then true else
  ((t.Names).length:Int) != ((u.Names).length:Int)) then true else ((t.Of).length:Int) != ((u.Of).length:Int)
theorem T1d {t u:C0}(h:Y13 t u=true):t.same u=false:=by
 have hn:((t.Names).length:Int)≠((u.Names).length:Int)→eqL (fun x y=>x == y) t.Names u.Names=false:=fun h=>Uy _ fun e=>h (by omega)
 have ho:((t.Of).length:Int)≠((u.Of).length:Int)→eqL C0.same t.Of u.Of=false:=fun h=>Uy _ fun e=>h (by omega)
 unfold Y13 at h
 rw [C0.same_eq]
 by_cases h1:((t.Names).length:Int)=((u.Names).length:Int)
 ·by_cases h2:((t.Of).length:Int)=((u.Of).length:Int)
  ·rw [h1,h2] at h
   revert h
   simp only [bne,beq_self_eq_true,Bool.not_true]
   cases t.Kind == u.Kind <;> cases t.Low == u.Low <;> cases t.High == u.High <;> cases t.Size == u.Size <;> cases t.Name == u.Name <;> simp
  ·rw [ho h2,Bool.and_false]
 ·rw [hn h1,Bool.and_false,Bool.false_and]
theorem Z1f {t u:C0}(h:Y13 t u=false):t.same u=(eqL (fun x y=>x == y) t.Names u.Names&&eqL C0.same t.Of u.Of)∧t.Names.length=u.Names.length∧t.Of.length=u.Of.length:=by
 unfold Y13 at h
 simp only [bne] at h
 have key:t.Kind == u.Kind∧t.Low == u.Low∧t.High == u.High∧t.Size == u.Size∧t.Name == u.Name∧((t.Names).length:Int) == ((u.Names).length:Int)∧((t.Of).length:Int) == ((u.Of).length:Int):=by
  revert h
  cases t.Kind == u.Kind <;> cases t.Low == u.Low <;> cases t.High == u.High <;> cases t.Size == u.Size <;> cases t.Name == u.Name <;> cases ((t.Names).length:Int) == ((u.Names).length:Int) <;> cases ((t.Of).length:Int) == ((u.Of).length:Int) <;> simp
 obtain ⟨k1,k2,k3,k4,k5,k6,k7⟩:=key
 refine ⟨by rw [C0.same_eq,k1,k2,k3,k4,k5]; rfl,?_,?_⟩
 ·have:(t.Names.length:Int)=u.Names.length:=by simpa using k6
  omega
 ·have:(t.Of.length:Int)=u.Of.length:=by simpa using k7
  omega
end Go.Proofs.YtmnhfbekncjnfaaGreatDoor

set_option linter.unusedSimpArgs false
namespace Go.Proofs.YtmnhfbekncjnfaaGreatDoor
open Go.Am
mutual
def C0.bulk:C0→Nat
 | .mk _ _ _ _ n ns of=>1+(1+(1+(1+((n.length+1)+(((ns.map fun s=>s.length+1).sum+1)+((C0.bulks of+1)+0))))))+1
def C0.bulks:List C0→Nat
 | []=>0
 | x::r=>C0.bulk x+C0.bulks r
end
theorem C0.bulk_eq (t:C0):t.bulk=t.Name.length+(t.Names.map fun s=>s.length+1).sum+C0.bulks t.Of+8:=by cases t; simp only [C0.bulk]; omega
theorem C0.bulk_kid {t:C0}:∀ {l:List C0},t∈l→t.bulk≤C0.bulks l
 | x::r,h=>by
  simp only [C0.bulks]
  cases h with
  | head=>omega
  | tail _ h=>have:=C0.bulk_kid h; omega
theorem C0.bulk_len:∀ l:List C0,l.length≤C0.bulks l
 | []=>Nat.le_refl _
 | x::r=>by
  simp only [C0.bulks,List.length_cons]
  have:=C0.bulk_len r
  have:=C0.bulk_eq x
  omega
theorem C18 {s:Str}:∀ {l:List Str},s∈l→s.length+1≤(l.map fun s=>s.length+1).sum
 | x::r,h=>by
  simp only [List.map_cons,List.sum_cons]
  cases h with
  | head=>omega
  | tail _ h=>have:=C18 h; omega
theorem D18:∀ l:List Str,l.length≤(l.map fun s=>s.length+1).sum
 | []=>Nat.le_refl _
 | x::r=>by simp only [List.map_cons,List.sum_cons,List.length_cons]; have:=D18 r; omega
mutual
theorem C0.nodes_bulk:∀ t:C0,t.nodes≤t.bulk
 | .mk _ _ _ _ _ _ of=>by simp only [C0.nodes,C0.bulk]; have:=C0.nodess_bulk of; omega
theorem C0.nodess_bulk:∀ l:List C0,C0.nodess l≤C0.bulks l
 | []=>Nat.le_refl _
 | x::r=>by simp only [C0.nodess,C0.bulks]; have:=C0.nodes_bulk x; have:=C0.nodess_bulk r; omega
end
def Ok (t:C0):Prop:=t.bulk≤BB
theorem Ok.kid {t x:C0}(h:Ok t)(hx:x∈t.Of):Ok x:=by
 unfold Ok at *
 have:=C0.bulk_kid hx
 have:=C0.bulk_eq t
 omega
theorem Ok.ofs {t:C0}(h:Ok t):t.Of.length≤BB:=by
 unfold Ok at *
 have:=C0.bulk_len t.Of
 have:=C0.bulk_eq t
 omega
theorem Ok.names {t:C0}(h:Ok t):t.Names.length≤BB:=by
 unfold Ok at *
 have:=D18 t.Names
 have:=C0.bulk_eq t
 omega
theorem Ok.name1 {t:C0}(h:Ok t){s:Str}(hs:s∈t.Names):s.length≤BB:=by
 unfold Ok at *
 have:=C18 hs
 have:=C0.bulk_eq t
 omega
theorem Ok.name {t:C0}(h:Ok t):t.Name.length≤BB:=by
 unfold Ok at *
 have:=C0.bulk_eq t
 omega
theorem Ok.nodes {t:C0}(h:Ok t):t.nodes≤BB:=Nat.le_trans (C0.nodes_bulk t) h
theorem bor (a b:Bool):(bif a then true else b)=(a||b):=by cases a <;> rfl
theorem E18 (d:Int)(o:I0):M6 d o=some ⟨o.nodes,max o.depth d,o.badForm,o.badName,o.badNumber⟩:=rfl
theorem F18 (b:Bool)(o:I0):Z1 b o=some ⟨o.nodes,o.depth,o.badForm || !b,o.badName,o.badNumber⟩:=by unfold Z1; rw [bor]
theorem Hu (b:Bool)(o:I0):H3 b o=some ⟨o.nodes,o.depth,o.badForm,o.badName,o.badNumber || !b⟩:=by unfold H3; rw [bor]
theorem Iu (a b c:Int):B8 a b c=some (G9 a b c):=rfl
theorem A11 (s:Str)(hs:s.length≤BB)(o:I0):K4 s o=some ⟨o.nodes,o.depth,o.badForm,o.badName || !T5 s,o.badNumber⟩:=by
 unfold K4
 rw [S1d s hs]
 cases h:o.badName <;> simp
theorem G18 (o:I0):B5 o=some (Ue o.nodes o.depth o.badForm o.badName o.badNumber):=by
 unfold B5 Ue
 cases (bif decide (o.nodes > 1024) then true else decide (o.depth > 12)) <;> cases o.badForm <;> cases o.badName <;> cases o.badNumber <;> rfl
def Zc (o:I0)(d:Int)(n m:Nat)(f a u:Bool):I0:=⟨o.nodes+n,max o.depth (d+m),o.badForm || !f,o.badName || !a,o.badNumber || !u⟩
theorem U1d (t:C0)(d:Int)(hd:0≤d)(ht:Ok t)
  (ih:∀ x∈t.Of,∀ (d:Int) (o:I0),0≤d→d+x.nodes≤4 * BB→0≤o.nodes→o.nodes+x.nodes≤4 * BB→K5 x d o=some (Zc o d x.nodes (x.depth - 1) (x.all X8) (x.all Yf) (x.all Zh))) :
  ∀ (r:List C0) (k:Nat) (o:I0),t.Of.drop k=r→(∀ x∈r,x∈t.Of)→d+1+C0.nodess r≤4 * BB→0≤o.nodes→o.nodes+C0.nodess r≤4 * BB→d≤o.depth→
   E5 t d o k=some (Zc o d (C0.nodess r) (C0.depths r) (C0.alls X8 r) (C0.alls Yf r) (C0.alls Zh r))
 | [],k,o,h,_,_,_,_,h5=>by
  rw [E5,(C3 h).1]
  simp only [Zc,C0.nodess,C0.depths,C0.alls,Bool.not_true,Bool.or_false]
  rw [if_neg (by simp),show o.nodes+((0:Nat):Int)=o.nodes by omega,show max o.depth (d+((0:Nat):Int))=o.depth by omega]
 | x::r,k,o,h,hm,hb,h3,h4,h5=>by
  obtain ⟨e1,e2,e3,e4,e5⟩:=V3 h
  simp only [C0.nodess] at hb h4
  have hdp:1≤x.depth:=by rw [C0.depth_eq]; omega
  have hof:=ht.ofs
  unfold BB at hb h4 hof
  rw [E5,e1,if_pos rfl,e2,ob,wr (n:=d+1) (by omega) (by omega),ih x e5 (d+1) o (by omega) (by unfold BB; omega) h3 (by unfold BB; omega),ob,w1 (by unfold BB; omega),
   U1d t d hd ht ih r (k+1) _ e3 (fun y hy=>hm y (List.mem_cons_of_mem _ hy)) (by unfold BB; omega) (by simp only [Zc]; omega) (by simp only [Zc]; unfold BB; omega) (by simp only [Zc]; omega)]
  simp only [Zc,C0.nodess,C0.depths,C0.alls,Lp]
  rw [show o.nodes+(x.nodes:Int)+(C0.nodess r:Nat)=o.nodes+((x.nodes+C0.nodess r:Nat):Int) by omega,
   show max (max o.depth (d+1+((x.depth - 1:Nat):Int))) (d+(C0.depths r:Nat))=max o.depth (d+((max x.depth (C0.depths r):Nat):Int)) by omega]
theorem V1d (t:C0)(d:Int)(ht:Ok t)(R:I0→Option I0)(hR:∀ o,E5 t d o 0=R o) :
  ∀ (r:List Str) (k:Nat) (o:I0),t.Names.drop k=r→L4 t d o k=R ⟨o.nodes,o.depth,o.badForm,o.badName || !r.all T5,o.badNumber⟩
 | [],k,o,h=>by
  rw [L4,(C3 h).1,if_neg (by simp),hR]
  simp
 | x::r,k,o,h=>by
  obtain ⟨e1,e2,e3,e4,e5⟩:=V3 h
  have:=ht.names
  rw [L4,e1,if_pos rfl,e2,ob,A11 x (ht.name1 e5),ob,w1 (by omega),V1d t d ht R hR r (k+1) _ e3]
  simp only [List.all_cons,Lp]
theorem I1j (t:C0)(d:Int)(ht:Ok t)(o:I0):A7 t d o=L4 t d ⟨o.nodes,o.depth,o.badForm,o.badName || !na1 t,o.badNumber⟩ 0:=by
 rw [A7,A11 _ ht.name,ob,C9,C9]
 unfold na1
 cases h:t.Kind == 4 <;> simp
theorem J1j (t:C0)(d:Int)(o:I0):Z6 t d o=A7 t d ⟨o.nodes,o.depth,o.badForm,o.badName,o.badNumber || !nm2 t⟩:=by
 rw [Z6]
 unfold nm2
 simp only [Iu,Hu,ob]
 cases h:t.Kind == 1 <;> cases G9 t.Low (-1048576) 1048576 <;> simp [ob]
theorem K1j (t:C0):Ok t→∀ (d:Int) (o:I0),0≤d→d+t.nodes≤4 * BB→0≤o.nodes→o.nodes+t.nodes≤4 * BB→
  K5 t d o=some (Zc o d t.nodes (t.depth - 1) (t.all X8) (t.all Yf) (t.all Zh)):=by
 induction t using C0.ind with
 | h t ih=>
 intro ht d o hd hb h3 h4
 have h5:=fun o h3 h4 hd'=>U1d t d hd ht (fun x hx=>ih x hx (ht.kid hx)) t.Of 0 o rfl (fun _ h=>h) (by rw [C0.nodes_eq] at hb; omega) h3 h4 hd'
 have l4:=V1d t d ht _ (fun o=>rfl) t.Names 0
 rw [C0.nodes_eq] at hb h4
 unfold BB at hb h4
 rw [K5]
 simp only [E18,F18,Iu,Hu,ob,J1j,I1j t d ht]
 rw [wr (n:=o.nodes+1) (by omega) (by omega)]
 have fin:∀ b6 u1,fm6 t=b6→nm1 t=u1→
   L4 t d ⟨o.nodes+1,max o.depth d,(((((o.badForm || !fm1 t) || !fm2 t) || !fm3 t) || !fm4 t) || !fm5 t) || !b6,o.badName || !na1 t,(o.badNumber || !u1) || !nm2 t⟩ 0
    = some (Zc o d t.nodes (t.depth - 1) (t.all X8) (t.all Yf) (t.all Zh)):=by
  rintro _ _ rfl rfl
  have:=l4 ⟨o.nodes+1,max o.depth d,(((((o.badForm || !fm1 t) || !fm2 t) || !fm3 t) || !fm4 t) || !fm5 t) || !fm6 t,o.badName || !na1 t,(o.badNumber || !nm1 t) || !nm2 t⟩ rfl
  rw [show ((0:Nat):Int)=0 from rfl] at this h5
  rw [this,h5 _ (by simp only; omega) (by simp only; unfold BB; omega) (by simp only; omega)]
  simp only [Zc,C0.all_eq,C0.nodes_eq,C0.depth_eq,X8,Yf,Zh,Lp,Bool.or_assoc,← Bool.not_and]
  simp only [Lp,Bool.and_assoc]
  rw [show o.nodes+1+(C0.nodess t.Of:Int)=o.nodes+((C0.nodess t.Of+1:Nat):Int) by omega,show max (max o.depth d) (d+(C0.depths t.Of:Int))=max o.depth (d+((C0.depths t.Of+1 - 1:Nat):Int)) by omega]
 have h2:(t.Kind == 2)=true∨(t.Kind == 2)=false:=by cases t.Kind == 2 <;> simp
 have h3:(t.Kind == 3)=true∨(t.Kind == 3)=false:=by cases t.Kind == 3 <;> simp
 rcases h2 with h2 | h2
 ·rw [if_pos h2]
  exact fin ((t.Of.length:Int) == 1) (G9 t.Size 1 32) (by unfold fm6; rw [h2,cond_true]) (by unfold nm1; rw [h2,cond_true])
 ·rw [if_neg (by rw [h2]; simp)]
  rcases h3 with h3 | h3
  ·rw [if_pos h3]
   exact fin (bif decide ((t.Of.length:Int)≥1) then (t.Of.length:Int) == (t.Names.length:Int) else false) (decide ((t.Of.length:Int)≤32)) (by unfold fm6; rw [h2,h3,cond_false,cond_true]) (by unfold nm1; rw [h2,h3,cond_false,cond_true])
  ·rw [if_neg (by rw [h3]; simp)]
   have:=fin ((t.Of.length:Int) == 0) true (by unfold fm6; rw [h2,h3,cond_false,cond_false]) (by unfold nm1; rw [h2,h3,cond_false,cond_false])
   rw [Bool.not_true,Bool.or_false] at this
   exact this
theorem Yx (t:C0)(ht:Ok t):Hc t=some (Oc t):=by
 have hn:=ht.nodes
 unfold BB at hn
 have hp:1≤t.depth:=by rw [C0.depth_eq]; omega
 unfold Hc
 rw [K1j t ht 1 _ (by omega) (by unfold BB; omega) (by simp) (by simp only; unfold BB; omega),ob,G18,ob]
 unfold Zc Oc
 simp only [Bool.false_or]
 rw [show (0:Int)+(t.nodes:Int)=t.nodes by omega,show max 0 ((1:Int)+((t.depth - 1:Nat):Int))=t.depth by omega]
end Go.Proofs.YtmnhfbekncjnfaaGreatDoor

set_option linter.unusedSimpArgs false
namespace Go.Proofs.YtmnhfbekncjnfaaGreatDoor
open Go.Am
theorem H18 (t:C0)(ht:Ok t)(ih:∀ x∈t.Of,N7 x=some (x.nodes:Int)) :
  ∀ (r:List C0) (k:Nat) (n:Nat),t.Of.drop k=r→n+C0.nodess r≤BB→Q8 t (n:Int) k=some ((n+C0.nodess r:Nat):Int)
 | [],k,n,h,hb=>by rw [Q8,(C3 h).1,if_neg (by simp)]; simp [C0.nodess]
 | x::r,k,n,h,hb=>by
  obtain ⟨e1,e2,e3,e4,e5⟩:=V3 h
  have:=ht.ofs
  simp only [C0.nodess] at hb
  have hb':=hb
  unfold BB at hb'
  rw [Q8,e1,if_pos rfl,e2,ob,ih x e5,ob,wr (n:=(n:Int)+_) (by omega) (by omega),w1 (by omega),show (n:Int)+(x.nodes:Int)=((n+x.nodes:Nat):Int) by omega,H18 t ht ih r (k+1) _ e3 (by omega)]
  simp only [C0.nodess,Nat.add_assoc]
theorem W1d (t:C0):Ok t→N7 t=some (t.nodes:Int):=by
 induction t using C0.ind with
 | h t ih=>
 intro ht
 have hn:=ht.nodes
 rw [C0.nodes_eq] at hn
 rw [N7]
 have:=H18 t ht (fun x hx=>ih x hx (ht.kid hx)) t.Of 0 1 rfl (by omega)
 rw [C0.nodes_eq,Nat.add_comm]
 exact this
theorem B11 (t:C0)(ht:Ok t)(ih:∀ x∈t.Of,O7 x=some (x.depth:Int))(B:Nat)(hB:B≤BB) :
  ∀ (r:List C0) (k:Nat) (n:Nat),t.Of.drop k=r→n≤B→C0.depths r≤B→P6 t (n:Int) k=some ((max n (C0.depths r)+1:Nat):Int)
 | [],k,n,h,hb,_=>by
  rw [P6,(C3 h).1,if_neg (by simp),w1 (by omega)]
  simp [C0.depths]
 | x::r,k,n,h,hb,hd=>by
  obtain ⟨e1,e2,e3,e4,e5⟩:=V3 h
  have:=ht.ofs
  simp only [C0.depths] at hd
  rw [P6,e1,if_pos rfl,e2,ob,ih x e5,ob,w1 (by omega),B11 t ht ih B hB r (k+1) _ e3 (by omega) (by omega),B11 t ht ih B hB r (k+1) _ e3 (by omega) (by omega)]
  simp only [C0.depths]
  by_cases hx:(x.depth:Int) > (n:Int)
  ·rw [if_pos (decide_eq_true hx),show max n (max x.depth (C0.depths r))=max x.depth (C0.depths r) by omega]
  ·rw [if_neg (by simpa using hx),show max n (max x.depth (C0.depths r))=max n (C0.depths r) by omega]
theorem X1d (t:C0):Ok t→O7 t=some (t.depth:Int):=by
 induction t using C0.ind with
 | h t ih=>
 intro ht
 have hn:=ht.nodes
 have hd:=C0.depth_nodes t
 rw [O7]
 rw [C0.depth_eq] at hd
 have:=B11 t ht (fun x hx=>ih x hx (ht.kid hx)) BB (Nat.le_refl _) t.Of 0 0 rfl (by omega) (by omega)
 rw [C0.depth_eq]
 rw [show max 0 (C0.depths t.Of)=C0.depths t.Of by omega] at this
 exact this
theorem D1i (t:C0)(ht:Ok t):Hg ⟨0,0⟩ t true=some ⟨t.nodes,t.depth⟩:=by
 have hn:=ht.nodes
 unfold BB at hn
 have hp:1≤t.depth:=by rw [C0.depth_eq]; omega
 unfold Hg
 rw [W1d t ht,X1d t ht]
 simp only [Bool.not_true,cond_false,ob,F7]
 rw [if_neg (by simp),ob,if_neg (by simp),wr (n:=(0:Int)+(t.nodes:Int)) (by omega) (by omega),if_pos (decide_eq_true (by omega)),ob]
 rw [show (0:Int)+(t.nodes:Int)=t.nodes by omega]
theorem C1a (t:C0)(ht:Ok t)(ih:∀ x∈t.Of,R8 x=some (x.all X8)):∀ (r:List C0) (k:Nat),t.Of.drop k=r→K9 t k=some (C0.alls X8 r)
 | [],k,h=>by rw [K9,(C3 h).1,if_neg (by simp)]; rfl
 | x::r,k,h=>by
  obtain ⟨e1,e2,e3,e4,e5⟩:=V3 h
  have:=ht.ofs
  rw [K9,e1,if_pos rfl,e2,ob,ih x e5,ob,w1 (by omega),C1a t ht ih r (k+1) e3,C0.alls]
  cases x.all X8 <;> simp
theorem A1g (t:C0):Ok t→R8 t=some (t.all X8):=by
 induction t using C0.ind with
 | h t ih=>
 intro ht
 have h1:=C1a t ht (fun x hx=>ih x hx (ht.kid hx)) t.Of 0 rfl
 rw [show ((0:Nat):Int)=0 from rfl] at h1
 rw [R8,h1,C0.all_eq,Y1f]
 show (if Y17 t=true then some false else if Z17 t=true then some false else if A18 t=true then some false else some (C0.alls X8 t.Of))=_
 cases Y17 t <;> cases Z17 t <;> cases A18 t <;> simp
theorem Z14 (t:C0)(ht:Ok t)(ih:∀ x∈t.Of,P7 x=some (x.all Yf)):∀ (r:List C0) (k:Nat),t.Of.drop k=r→Q6 t k=some (C0.alls Yf r)
 | [],k,h=>by rw [Q6,(C3 h).1,if_neg (by simp)]; rfl
 | x::r,k,h=>by
  obtain ⟨e1,e2,e3,e4,e5⟩:=V3 h
  have:=ht.ofs
  rw [Q6,e1,if_pos rfl,e2,ob,ih x e5,ob,w1 (by omega),Z14 t ht ih r (k+1) e3,C0.alls]
  cases x.all Yf <;> simp
theorem A15 (t:C0)(ht:Ok t)(b:Bool)(hb:Q6 t 0=some b):∀ (r:List Str) (k:Nat),t.Names.drop k=r→S8 t k=some (r.all T5&&b)
 | [],k,h=>by rw [S8,(C3 h).1,if_neg (by simp),hb]; rfl
 | x::r,k,h=>by
  obtain ⟨e1,e2,e3,e4,e5⟩:=V3 h
  have:=ht.names
  rw [S8,e1,if_pos rfl,e2,ob,Kp x (ht.name1 e5),ob,w1 (by omega),A15 t ht b hb r (k+1) e3,List.all_cons]
  cases T5 x <;> simp
theorem Y1d (t:C0):Ok t→P7 t=some (t.all Yf):=by
 induction t using C0.ind with
 | h t ih=>
 intro ht
 have h2:=Z14 t ht (fun x hx=>ih x hx (ht.kid hx)) t.Of 0 rfl
 have h1:=A15 t ht _ h2 t.Names 0 rfl
 rw [show ((0:Nat):Int)=0 from rfl] at h1
 rw [P7,h1,C0.all_eq,Kp t.Name ht.name]
 unfold Yf na1
 cases t.Kind == 4 <;> cases T5 t.Name <;> simp
theorem W12 (t:C0)(ht:Ok t)(ih:∀ x∈t.Of,L5 x=some (x.all fun t=>!Mp t)):∀ (r:List C0) (k:Nat),t.Of.drop k=r→B7 t k=some (C0.alls (fun t=>!Mp t) r)
 | [],k,h=>by rw [B7,(C3 h).1,if_neg (by simp)]; rfl
 | x::r,k,h=>by
  obtain ⟨e1,e2,e3,e4,e5⟩:=V3 h
  have:=ht.ofs
  rw [B7,e1,if_pos rfl,e2,ob,ih x e5,ob,w1 (by omega),W12 t ht ih r (k+1) e3,C0.alls]
  cases x.all (fun t=>!Mp t) <;> simp
theorem Z1d (n:Int):Hh n=some (Ei n):=rfl
theorem M19 (t:C0):Ok t→L5 t=some (t.all fun t=>!Mp t):=by
 induction t using C0.ind with
 | h t ih=>
 intro ht
 have h1:=W12 t ht (fun x hx=>ih x hx (ht.kid hx)) t.Of 0 rfl
 rw [show ((0:Nat):Int)=0 from rfl] at h1
 rw [L5,h1,C0.all_eq]
 simp only [Z1d]
 generalize C0.alls (fun t=>!Mp t) t.Of=A
 unfold Mp
 generalize decide ((t.Of.length:Int) > 32)=b1
 generalize (bif t.Kind == 2 then (bif decide (t.Size < 1) then true else decide (t.Size > 32)) else false)=b2
 generalize decide (t.Low > t.High)=b3
 cases t.Kind == 1 <;> cases Ei t.Low <;> cases Ei t.High <;> cases b1 <;> cases b2 <;> cases b3 <;> rfl
theorem Xz (s:J1)(f m u:Bool):Bd s f m u=some (Ue s.nodes s.depth (!f) (!m) (!u)):=by
 unfold Bd Ue
 cases (bif decide (s.nodes > 1024) then true else decide (s.depth > 12)) <;> cases f <;> cases m <;> cases u <;> rfl
theorem Vu (t:C0)(ht:Ok t):Xa t=some (Oc t):=by
 unfold Xa Oc
 rw [D1i t ht,A1g t ht,Y1d t ht,M19 t ht]
 simp only [ob,Xz]
 cases hf:t.all X8 with
 | true=>rw [L19 t hf]
 | false=>unfold Ue; rfl
end Go.Proofs.YtmnhfbekncjnfaaGreatDoor

set_option linter.unusedSimpArgs false
set_option linter.unusedVariables false
namespace Go.Proofs.YtmnhfbekncjnfaaGreatDoor
open Go.Am
theorem A0.ind {P:A0→Prop}(h:∀ t:A0,(∀ x∈t.Kids,P x)→P t):∀ t,P t:=by
 intro t
 refine A0.rec (motive_1:=P) (motive_2:=fun l=>∀ x∈l,P x) ?_ ?_ ?_ t
 ·intro k l n of ih
  exact h _ ih
 ·intro x hx; cases hx
 ·intro x r hx hr y hy
  cases hy with
  | head=>exact hx
  | tail _ hy=>exact hr y hy
mutual
def A0.depth:A0→Nat
 | .mk _ _ _ of=>A0.depths of+1
def A0.depths:List A0→Nat
 | []=>0
 | t::r=>max (A0.depth t) (A0.depths r)
end
theorem A0.depth_eq (t:A0):t.depth=A0.depths t.Kids+1:=by cases t; simp [A0.depth,A0.Kids]
mutual
def A0.all (p:A0→Bool):A0→Bool
 | .mk k l n of=>p (.mk k l n of)&&A0.alls p of
def A0.alls (p:A0→Bool):List A0→Bool
 | []=>true
 | t::r=>A0.all p t&&A0.alls p r
end
theorem A0.all_eq (p:A0→Bool)(t:A0):t.all p=(p t&&A0.alls p t.Kids):=by cases t; rfl
mutual
def A0.nodes:A0→Nat
 | .mk _ _ _ of=>A0.nodess of+1
def A0.nodess:List A0→Nat
 | []=>0
 | t::r=>A0.nodes t+A0.nodess r
end
theorem A0.nodes_eq (t:A0):t.nodes=A0.nodess t.Kids+1:=by cases t; rfl
mutual
theorem A0.depth_nodes:∀ t:A0,t.depth≤t.nodes
 | .mk _ _ _ of=>by simp only [A0.depth,A0.nodes]; have:=A0.depths_nodess of; omega
theorem A0.depths_nodess:∀ l:List A0,A0.depths l≤A0.nodess l
 | []=>Nat.le_refl _
 | t::r=>by simp only [A0.depths,A0.nodess]; have:=A0.depth_nodes t; have:=A0.depths_nodess r; omega
end
mutual
def A0.bulk:A0→Nat
 | .mk _ _ n ks=>1+(1+((n.length+1)+((A0.bulks ks+1)+0)))+1
def A0.bulks:List A0→Nat
 | []=>0
 | x::r=>A0.bulk x+A0.bulks r
end
theorem A0.bulk_eq (t:A0):t.bulk=t.Name.length+A0.bulks t.Kids+5:=by cases t; simp only [A0.bulk]; omega
theorem A0.bulk_kid {t:A0}:∀ {l:List A0},t∈l→t.bulk≤A0.bulks l
 | x::r,h=>by
  simp only [A0.bulks]
  cases h with
  | head=>omega
  | tail _ h=>have:=A0.bulk_kid h; omega
theorem A0.bulk_len:∀ l:List A0,l.length≤A0.bulks l
 | []=>Nat.le_refl _
 | x::r=>by
  simp only [A0.bulks,List.length_cons]
  have:=A0.bulk_len r
  have:=A0.bulk_eq x
  omega
mutual
theorem A0.nodes_bulk:∀ t:A0,t.nodes≤t.bulk
 | .mk _ _ _ of=>by simp only [A0.nodes,A0.bulk]; have:=A0.nodess_bulk of; omega
theorem A0.nodess_bulk:∀ l:List A0,A0.nodess l≤A0.bulks l
 | []=>Nat.le_refl _
 | x::r=>by simp only [A0.nodess,A0.bulks]; have:=A0.nodes_bulk x; have:=A0.nodess_bulk r; omega
end
def OkE (t:A0):Prop:=t.bulk≤BB
theorem OkE.kid {t x:A0}(h:OkE t)(hx:x∈t.Kids):OkE x:=by
 unfold OkE at *
 have:=A0.bulk_kid hx
 have:=A0.bulk_eq t
 omega
theorem OkE.kids {t:A0}(h:OkE t):t.Kids.length≤BB:=by
 unfold OkE at *
 have:=A0.bulk_len t.Kids
 have:=A0.bulk_eq t
 omega
theorem OkE.name {t:A0}(h:OkE t):t.Name.length≤BB:=by
 unfold OkE at *
 have:=A0.bulk_eq t
 omega
theorem OkE.nodes {t:A0}(h:OkE t):t.nodes≤BB:=Nat.le_trans (A0.nodes_bulk t) h
theorem A0.alls_mem {p:A0→Bool}:∀ {l:List A0} {t:A0},A0.alls p l=true→t∈l→t.all p=true
 | x::r,t,h,hm=>by
  simp only [A0.alls,Bool.and_eq_true] at h
  cases hm with
  | head=>exact h.1
  | tail _ hm=>exact A0.alls_mem h.2 hm
def ar (o:Int):Int:=
 bif (bif (bif (bif (o == 0) then true else (o == 1)) then true else (o == 2)) then true else (o == 3)) then 0
 else bif (bif (bif (o == 4) then true else (o == 6)) then true else (o == 7)) then 1
 else bif (bif (o == 5) then true else (bif (decide (o≥8)) then (decide (o≤22)) else false)) then 2
 else bif (o == 23) then 3 else -1
theorem E1i (o:Int):Qj o=some (ar o):=by
 unfold Qj ar
 cases (bif (bif (bif (o == 0) then true else (o == 1)) then true else (o == 2)) then true else (o == 3)) <;> cases (bif (bif (o == 4) then true else (o == 6)) then true else (o == 7)) <;>
  cases (bif (o == 5) then true else (bif (decide (o≥8)) then (decide (o≤22)) else false)) <;> cases o == 23 <;> rfl
theorem B1g (o:Int):Cc o=some (ar o):=by
 by_cases h:o=23
 ·subst h; rfl
 have h':(o == 23)=false:=beq_eq_false_iff_ne.2 h
 simp only [Cc,P5,G7,ar,h']
 cases o == 0 <;> cases o == 1 <;> cases o == 2 <;> cases o == 3 <;> first | rfl | skip
 cases o == 4 <;> cases o == 6 <;> cases o == 7 <;> first | rfl | skip
 cases o == 5 <;> cases (bif decide (o≥8) then decide (o≤22) else false) <;> rfl
mutual
def A0.place:A0→Bool
 | .mk op _ _ ks=>bif op == 3 then true else bif (bif op == 4 then true else op == 5) then A0.place1 ks else false
def A0.place1:List A0→Bool
 | []=>false
 | x::_=>A0.place x
end
theorem A0.place_eq (e:A0):e.place=(bif e.Op == 3 then true else bif (bif e.Op == 4 then true else e.Op == 5) then A0.place1 e.Kids else false):=by cases e; simp only [A0.place]
theorem b3 {o:Int}(h:(bif o == 4 then true else o == 5)=true):(o == 3)=false:=by
 apply beq_eq_false_iff_ne.2
 rintro rfl
 cases h
theorem A1e (e:A0):Dc e=some e.place:=by
 unfold Dc
 induction e using A0.ind with
 | h e ih=>
 rw [Q5,A0.place_eq]
 cases hb:(bif e.Op == 4 then true else e.Op == 5) with
 | false=>cases e.Op == 3 <;> simp
 | true=>
  rw [b3 hb]
  cases hk:e.Kids with
  | nil=>rfl
  | cons k r=>
   have:=ih k (by rw [hk]; simp)
   have h0:idx (k::r) 0=some k:=rfl
   have h1:(((k::r).length:Int) == 0)=false:=beq_eq_false_iff_ne.2 (by simp only [List.length_cons]; omega)
   simp only [h1,h0,ob,this,cond_true,cond_false,A0.place1]
   simp
theorem B1e (e:A0):Bb e=some e.place:=by
 induction e using A0.ind with
 | h e ih=>
 rw [Bb,A0.place_eq]
 cases h3:e.Op == 3 with
 | true=>simp
 | false=>
  cases hb:(bif e.Op == 4 then true else e.Op == 5) with
  | false=>simp [ob]
  | true=>
   cases hk:e.Kids with
   | nil=>simp [ob,A0.place1]
   | cons k r=>
    have:=ih k (by rw [hk]; simp)
    have h0:idx (k::r) 0=some k:=rfl
    have h1:decide (((k::r).length:Int) > 0)=true:=decide_eq_true (by simp only [List.length_cons]; omega)
    simp only [h1,h0,ob,cond_true,cond_false,A0.place1]
    simp [ob,this]
def ef1 (e:A0):Bool:=ar e.Op == (e.Kids.length:Int)
def ef2 (e:A0):Bool:=bif e.NV == 0 then true else e.Op == 0
def ef3 (e:A0):Bool:=bif e.Name == [] then true else bif e.Op == 3 then true else e.Op == 4
def ef4 (e:A0):Bool:=bif (bif e.Op == 4 then true else e.Op == 5) then e.place else true
def Tb (e:A0):Bool:=ef1 e&&ef2 e&&ef3 e&&ef4 e
def Nd (e:A0):Bool:=bif (bif e.Op == 3 then true else e.Op == 4) then T5 e.Name else true
def Xc (e:A0):Bool:=bif e.Op == 0 then G9 e.NV 0 1048576 else true
def Ba (e:A0):Int:=Ue e.nodes e.depth (!e.all Tb) (!e.all Nd) (!e.all Xc)
theorem D1a (e:A0)(d:Int)(hd:0≤d)(ht:OkE e)
  (ih:∀ x∈e.Kids,∀ (d:Int) (o:I0),0≤d→d+x.nodes≤4 * BB→0≤o.nodes→o.nodes+x.nodes≤4 * BB→J3 x d o=some (Zc o d x.nodes (x.depth - 1) (x.all Tb) (x.all Nd) (x.all Xc))) :
  ∀ (r:List A0) (k:Nat) (o:I0),e.Kids.drop k=r→d+1+A0.nodess r≤4 * BB→0≤o.nodes→o.nodes+A0.nodess r≤4 * BB→d≤o.depth→
   Z2 e d o k=some (Zc o d (A0.nodess r) (A0.depths r) (A0.alls Tb r) (A0.alls Nd r) (A0.alls Xc r))
 | [],k,o,h,_,_,_,h5=>by
  rw [Z2,(C3 h).1]
  simp only [Zc,A0.nodess,A0.depths,A0.alls,Bool.not_true,Bool.or_false]
  rw [if_neg (by simp),show o.nodes+((0:Nat):Int)=o.nodes by omega,show max o.depth (d+((0:Nat):Int))=o.depth by omega]
 | x::r,k,o,h,hb,h3,h4,h5=>by
  obtain ⟨e1,e2,e3,e4,e5⟩:=V3 h
  simp only [A0.nodess] at hb h4
  have hdp:1≤x.depth:=by rw [A0.depth_eq]; omega
  have hof:=ht.kids
  unfold BB at hb h4 hof
  rw [Z2,e1,if_pos rfl,e2,ob,wr (n:=d+1) (by omega) (by omega),ih x e5 (d+1) o (by omega) (by unfold BB; omega) h3 (by unfold BB; omega),ob,w1 (by unfold BB; omega),
   D1a e d hd ht ih r (k+1) _ e3 (by unfold BB; omega) (by simp only [Zc]; omega) (by simp only [Zc]; unfold BB; omega) (by simp only [Zc]; omega)]
  simp only [Zc,A0.nodess,A0.depths,A0.alls,Lp]
  rw [show o.nodes+(x.nodes:Int)+(A0.nodess r:Nat)=o.nodes+((x.nodes+A0.nodess r:Nat):Int) by omega,
   show max (max o.depth (d+1+((x.depth - 1:Nat):Int))) (d+(A0.depths r:Nat))=max o.depth (d+((max x.depth (A0.depths r):Nat):Int)) by omega]
theorem C1g (e:A0)(ht:OkE e)(d:Int)(o:I0):U4 e d o=Z2 e d ⟨o.nodes,o.depth,o.badForm,o.badName || !Nd e,o.badNumber || !Xc e⟩ 0:=by
 rw [U4,A11 _ ht.name,ob]
 simp only [A6,B6,Iu,Hu,ob]
 unfold Nd Xc
 cases (bif e.Op == 3 then true else e.Op == 4) <;> cases e.Op == 0 <;> simp
theorem D1g (e:A0):OkE e→∀ (d:Int) (o:I0),0≤d→d+e.nodes≤4 * BB→0≤o.nodes→o.nodes+e.nodes≤4 * BB→
  J3 e d o=some (Zc o d e.nodes (e.depth - 1) (e.all Tb) (e.all Nd) (e.all Xc)):=by
 induction e using A0.ind with
 | h e ih=>
 intro ht d o hd hb h3 h4
 have h5:=fun o h3 h4 hd'=>D1a e d hd ht (fun x hx=>ih x hx (ht.kid hx)) e.Kids 0 o rfl (by rw [A0.nodes_eq] at hb; omega) h3 h4 hd'
 rw [A0.nodes_eq] at hb h4
 unfold BB at hb h4
 rw [J3]
 simp only [E18,F18,B1g,A1e,ob,C1g e ht]
 rw [wr (n:=o.nodes+1) (by omega) (by omega)]
 rw [show ((0:Nat):Int)=0 from rfl] at h5
 have fin:∀ f:Bool,ef4 e=f→Z2 e d ⟨o.nodes+1,max o.depth d,(((o.badForm || !ef1 e) || !ef2 e) || !ef3 e) || !f,o.badName || !Nd e,o.badNumber || !Xc e⟩ 0=some (Zc o d e.nodes (e.depth - 1) (e.all Tb) (e.all Nd) (e.all Xc)):=by
  rintro _ rfl
  rw [h5 _ (by simp only; omega) (by simp only; unfold BB; omega) (by simp only; omega)]
  simp only [Zc,A0.all_eq,A0.nodes_eq,A0.depth_eq,Tb,Lp,Bool.or_assoc,← Bool.not_and]
  simp only [Lp,Bool.and_assoc]
  rw [show o.nodes+1+(A0.nodess e.Kids:Int)=o.nodes+((A0.nodess e.Kids+1:Nat):Int) by omega,show max (max o.depth d) (d+(A0.depths e.Kids:Int))=max o.depth (d+((A0.depths e.Kids+1 - 1:Nat):Int)) by omega]
 cases hb:(bif e.Op == 4 then true else e.Op == 5) with
 | true=>
  rw [if_pos rfl]
  exact fin e.place (by unfold ef4; rw [hb]; rfl)
 | false=>
  rw [if_neg (by simp)]
  have:=fin true (by unfold ef4; rw [hb]; rfl)
  rw [Bool.not_true,Bool.or_false] at this
  exact this
theorem Zx (e:A0)(ht:OkE e):F8 e=some (Ba e):=by
 have hn:=ht.nodes
 unfold BB at hn
 have hp:1≤e.depth:=by rw [A0.depth_eq]; omega
 unfold F8
 rw [D1g e ht 1 _ (by omega) (by unfold BB; omega) (by simp) (by simp only; unfold BB; omega),ob,G18,ob]
 unfold Zc Ba
 simp only [Bool.false_or]
 rw [show (0:Int)+(e.nodes:Int)=e.nodes by omega,show max 0 ((1:Int)+((e.depth - 1:Nat):Int))=e.depth by omega]
end Go.Proofs.YtmnhfbekncjnfaaGreatDoor

set_option linter.unusedSimpArgs false
set_option linter.unusedVariables false
namespace Go.Proofs.YtmnhfbekncjnfaaGreatDoor
open Go.Am
theorem B15 (t:A0)(ht:OkE t)(ih:∀ x∈t.Kids,I7 x=some (x.nodes:Int)) :
  ∀ (r:List A0) (k:Nat) (n:Nat),t.Kids.drop k=r→n+A0.nodess r≤BB→M8 t (n:Int) k=some ((n+A0.nodess r:Nat):Int)
 | [],k,n,h,hb=>by rw [M8,(C3 h).1,if_neg (by simp)]; simp [A0.nodess]
 | x::r,k,n,h,hb=>by
  obtain ⟨e1,e2,e3,e4,e5⟩:=V3 h
  have:=ht.kids
  simp only [A0.nodess] at hb
  have hb':=hb
  unfold BB at hb'
  rw [M8,e1,if_pos rfl,e2,ob,ih x e5,ob,wr (n:=(n:Int)+_) (by omega) (by omega),w1 (by omega),show (n:Int)+(x.nodes:Int)=((n+x.nodes:Nat):Int) by omega,B15 t ht ih r (k+1) _ e3 (by omega)]
  simp only [A0.nodess,Nat.add_assoc]
theorem Q1b (t:A0):OkE t→I7 t=some (t.nodes:Int):=by
 induction t using A0.ind with
 | h t ih=>
 intro ht
 have hn:=ht.nodes
 rw [A0.nodes_eq] at hn
 rw [I7]
 have:=B15 t ht (fun x hx=>ih x hx (ht.kid hx)) t.Kids 0 1 rfl (by omega)
 rw [A0.nodes_eq,Nat.add_comm]
 exact this
theorem Ay (t:A0)(ht:OkE t)(ih:∀ x∈t.Kids,J7 x=some (x.depth:Int))(B:Nat)(hB:B≤BB) :
  ∀ (r:List A0) (k:Nat) (n:Nat),t.Kids.drop k=r→n≤B→A0.depths r≤B→N6 t (n:Int) k=some ((max n (A0.depths r)+1:Nat):Int)
 | [],k,n,h,hb,_=>by
  rw [N6,(C3 h).1,if_neg (by simp),w1 (by omega)]
  simp [A0.depths]
 | x::r,k,n,h,hb,hd=>by
  obtain ⟨e1,e2,e3,e4,e5⟩:=V3 h
  have:=ht.kids
  simp only [A0.depths] at hd
  rw [N6,e1,if_pos rfl,e2,ob,ih x e5,ob,w1 (by omega),Ay t ht ih B hB r (k+1) _ e3 (by omega) (by omega),Ay t ht ih B hB r (k+1) _ e3 (by omega) (by omega)]
  simp only [A0.depths]
  by_cases hx:(x.depth:Int) > (n:Int)
  ·rw [if_pos (decide_eq_true hx),show max n (max x.depth (A0.depths r))=max x.depth (A0.depths r) by omega]
  ·rw [if_neg (by simpa using hx),show max n (max x.depth (A0.depths r))=max n (A0.depths r) by omega]
theorem R1b (t:A0):OkE t→J7 t=some (t.depth:Int):=by
 induction t using A0.ind with
 | h t ih=>
 intro ht
 have hn:=ht.nodes
 have hd:=A0.depth_nodes t
 rw [J7]
 rw [A0.depth_eq] at hd
 have:=Ay t ht (fun x hx=>ih x hx (ht.kid hx)) BB (Nat.le_refl _) t.Kids 0 0 rfl (by omega) (by omega)
 rw [A0.depth_eq]
 rw [show max 0 (A0.depths t.Kids)=A0.depths t.Kids by omega] at this
 exact this
theorem C1e (n:Int)(d:Int)(m:Int):F7 ⟨n,d⟩ m=some ⟨n,max d m⟩:=by
 unfold F7
 by_cases h:m > d
 ·rw [if_pos (decide_eq_true h),show max d m=m by omega]
 ·rw [if_neg (by simpa using h),show max d m=d by omega]
theorem I18 (e:A0)(ht:OkE e)(ih:∀ x∈e.Kids,N8 x=some (x.all Tb)):∀ (r:List A0) (k:Nat),e.Kids.drop k=r→J9 e k=some (A0.alls Tb r)
 | [],k,h=>by rw [J9,(C3 h).1,if_neg (by simp)]; rfl
 | x::r,k,h=>by
  obtain ⟨e1,e2,e3,e4,e5⟩:=V3 h
  have:=ht.kids
  rw [J9,e1,if_pos rfl,e2,ob,ih x e5,ob,w1 (by omega),I18 e ht ih r (k+1) e3,A0.alls]
  cases x.all Tb <;> simp
theorem D1e (e:A0):OkE e→N8 e=some (e.all Tb):=by
 induction e using A0.ind with
 | h e ih=>
 intro ht
 have h1:=I18 e ht (fun x hx=>ih x hx (ht.kid hx)) e.Kids 0 rfl
 rw [show ((0:Nat):Int)=0 from rfl] at h1
 rw [N8,h1,A0.all_eq,B1e,E1i,ob]
 generalize A0.alls Tb e.Kids=A
 have hb:(bif (bif (ar e.Op != (e.Kids.length:Int)) then true else (bif (e.Op != 0) then (e.NV != 0) else false)) then true else (bif (bif (e.Op != 3) then (e.Op != 4) else false) then (!(e.Name == [])) else false)) = !(ef1 e&&ef2 e&&ef3 e):=by
  unfold ef1 ef2 ef3
  simp only [bne]
  cases ar e.Op == (e.Kids.length:Int) <;> cases e.NV == 0 <;> cases e.Op == 0 <;> cases e.Name == [] <;> cases e.Op == 3 <;> cases e.Op == 4 <;> rfl
 rw [hb]
 unfold Tb ef4
 cases (ef1 e&&ef2 e&&ef3 e) <;> cases (bif e.Op == 4 then true else e.Op == 5) <;> cases e.place <;> simp [ob]
theorem C15 (e:A0)(ht:OkE e)(ih:∀ x∈e.Kids,K7 x=some (x.all Nd)):∀ (r:List A0) (k:Nat),e.Kids.drop k=r→O8 e k=some (A0.alls Nd r)
 | [],k,h=>by rw [O8,(C3 h).1,if_neg (by simp)]; rfl
 | x::r,k,h=>by
  obtain ⟨e1,e2,e3,e4,e5⟩:=V3 h
  have:=ht.kids
  rw [O8,e1,if_pos rfl,e2,ob,ih x e5,ob,w1 (by omega),C15 e ht ih r (k+1) e3,A0.alls]
  cases x.all Nd <;> simp
theorem S1b (e:A0):OkE e→K7 e=some (e.all Nd):=by
 induction e using A0.ind with
 | h e ih=>
 intro ht
 have h1:=C15 e ht (fun x hx=>ih x hx (ht.kid hx)) e.Kids 0 rfl
 rw [show ((0:Nat):Int)=0 from rfl] at h1
 rw [K7,h1,A0.all_eq,Kp e.Name ht.name]
 generalize A0.alls Nd e.Kids=A
 unfold Nd
 cases (bif e.Op == 3 then true else e.Op == 4) <;> cases T5 e.Name <;> simp [ob]
theorem Yz (e:A0)(ht:OkE e)(ih:∀ x∈e.Kids,J5 x=some (x.all Xc)):∀ (r:List A0) (k:Nat),e.Kids.drop k=r→X6 e k=some (A0.alls Xc r)
 | [],k,h=>by rw [X6,(C3 h).1,if_neg (by simp)]; rfl
 | x::r,k,h=>by
  obtain ⟨e1,e2,e3,e4,e5⟩:=V3 h
  have:=ht.kids
  rw [X6,e1,if_pos rfl,e2,ob,ih x e5,ob,w1 (by omega),Yz e ht ih r (k+1) e3,A0.alls]
  cases x.all Xc <;> simp
theorem J18 (e:A0):OkE e→J5 e=some (e.all Xc):=by
 induction e using A0.ind with
 | h e ih=>
 intro ht
 have h1:=Yz e ht (fun x hx=>ih x hx (ht.kid hx)) e.Kids 0 rfl
 rw [show ((0:Nat):Int)=0 from rfl] at h1
 rw [J5,h1,A0.all_eq]
 have:Xc e = !(bif (e.Op == 0) then (bif (decide (e.NV < 0)) then true else (decide (e.NV > 1048576))) else false):=by
  unfold Xc G9
  rw [V12,F16]
  cases e.Op == 0 <;> cases decide (e.NV≥0) <;> cases decide (e.NV≤1048576) <;> rfl
 rw [this]
 cases (bif (e.Op == 0) then (bif (decide (e.NV < 0)) then true else (decide (e.NV > 1048576))) else false) <;> simp
theorem T1b (s:J1)(e:A0)(ht:OkE e)(h : -4 * (BB:Int)≤s.nodes∧s.nodes≤4 * BB):Gg s e true=some ⟨s.nodes+e.nodes,max s.depth e.depth⟩:=by
 have hn:=ht.nodes
 unfold BB at hn h
 unfold Gg
 rw [Q1b e ht,R1b e ht]
 simp only [Bool.not_true,cond_false,ob,C1e]
 rw [if_neg (by simp),ob,if_neg (by simp),wr (n:=s.nodes+(e.nodes:Int)) (by omega) (by omega)]
theorem Wu (e:A0)(ht:OkE e):Wa e=some (Ba e):=by
 have hp:1≤e.depth:=by rw [A0.depth_eq]; omega
 unfold Wa Ba
 rw [T1b _ e ht (by simp only; unfold BB; omega),D1e e ht,S1b e ht,J18 e ht]
 simp only [ob,Xz]
 rw [show (0:Int)+(e.nodes:Int)=e.nodes by omega,show max (0:Int) (e.depth:Int)=e.depth by omega]
theorem E1a (e:A0)(ht:OkE e)(ih:∀ x∈e.Kids,∀ n,∃ m,T8 x n=some m):∀ (r:List A0) (k:Nat) (n:Int),e.Kids.drop k=r→∃ m,L9 e n k=some m
 | [],k,n,h=>by rw [L9,(C3 h).1]; exact ⟨_,rfl⟩
 | x::r,k,n,h=>by
  obtain ⟨e1,e2,e3,e4,e5⟩:=V3 h
  have:=ht.kids
  rw [L9,e1,e2]
  cases decide (n≥0) with
  | false=>exact ⟨_,rfl⟩
  | true=>
   obtain ⟨m,hm⟩:=ih x e5 n
   rw [cond_true,if_pos rfl,ob,hm,ob,w1 (by omega)]
   exact E1a e ht ih r (k+1) m e3
theorem U1b (e:A0):OkE e→∀ n,∃ m,T8 e n=some m:=by
 induction e using A0.ind with
 | h e ih=>
 intro ht n
 rw [T8]
 exact E1a e ht (fun x hx=>ih x hx (ht.kid hx)) e.Kids 0 _ rfl
theorem E1e (e:A0)(ht:OkE e)(n:Int):∃ b,Ig e n=some b:=by
 obtain ⟨m,hm⟩:=U1b e ht n
 unfold Ig
 rw [hm]
 exact ⟨_,rfl⟩
theorem C11 (t:C0)(ht:Ok t)(ih:∀ x∈t.Of,∀ n,∃ m,C7 x n=some m):∀ (r:List C0) (k:Nat) (n:Int),t.Of.drop k=r→∃ m,N9 t n k=some m
 | [],k,n,h=>by rw [N9,(C3 h).1]; exact ⟨_,rfl⟩
 | x::r,k,n,h=>by
  obtain ⟨e1,e2,e3,e4,e5⟩:=V3 h
  have:=ht.ofs
  rw [N9,e1,e2]
  cases decide (n≥0) with
  | false=>exact ⟨_,rfl⟩
  | true=>
   obtain ⟨m,hm⟩:=ih x e5 n
   rw [cond_true,if_pos rfl,ob,hm,ob,w1 (by omega)]
   exact C11 t ht ih r (k+1) m e3
theorem K18 (t:C0)(ht:Ok t)(ih:∀ x∈t.Of,∀ n,∃ m,C7 x n=some m):∀ (r:List Str) (k:Nat) (n:Int),t.Names.drop k=r→∃ m,M9 t n k=some m
 | [],k,n,h=>by rw [M9,(C3 h).1]; exact C11 t ht ih t.Of 0 n rfl
 | x::r,k,n,h=>by
  obtain ⟨e1,e2,e3,e4,e5⟩:=V3 h
  have:=ht.names
  rw [M9,e1,e2]
  cases decide (n≥0) with
  | false=>exact C11 t ht ih t.Of 0 n rfl
  | true=>
   rw [cond_true,if_pos rfl,ob,w1 (by omega)]
   exact K18 t ht ih r (k+1) _ e3
theorem V1b (t:C0):Ok t→∀ n,∃ m,C7 t n=some m:=by
 induction t using C0.ind with
 | h t ih=>
 intro ht n
 rw [C7]
 exact K18 t ht (fun x hx=>ih x hx (ht.kid hx)) t.Names 0 _ rfl
theorem F1e (t:C0)(ht:Ok t)(n:Int):∃ b,Jg t n=some b:=by
 obtain ⟨m,hm⟩:=V1b t ht n
 unfold Jg
 rw [hm]
 exact ⟨_,rfl⟩
end Go.Proofs.YtmnhfbekncjnfaaGreatDoor

namespace Go.Proofs.YtmnhfbekncjnfaaGreatDoor
open Go.Am
def D15:List Str:=[[43],[45],[42],[47],[37],[61,61],[33,61],[60],[60,61],[62],[62,61],[38,38],[124,124]]
end Go.Proofs.YtmnhfbekncjnfaaGreatDoor

set_option linter.unusedSimpArgs false
set_option linter.unusedVariables false
namespace Go.Proofs.YtmnhfbekncjnfaaGreatDoor
open Go.Am
def Lg (n:Int):Prop:=-1099511627776≤n∧n≤1099511627776
theorem El {n:Int}(h:Lg n):(Lib.itoa n).length≤19:=V1f (by unfold Lg at h; omega)
theorem E1g (k:Nat)(h:k < 1099511627777):Ng [IntKind.u8.wrap (IntKind.i64.wrap (48+Int.tmod (k:Int) 10))]=[UInt8.ofNat (48+k % 10)]:=by
 have e:Int.tmod (k:Int) 10=((k % 10:Nat):Int):=by rw [Int.tmod_eq_emod_of_nonneg (by omega)]; omega
 have:k % 10 < 10:=Nat.mod_lt _ (by decide)
 rw [e,wr (by omega) (by omega),P19 (by omega) (by omega)]
 unfold Ng
 rw [List.map_cons,List.map_nil,show ((48:Int)+((k % 10:Nat):Int)).toNat=48+k % 10 by omega]
theorem X12 (k:Nat):k < 1099511627777→W4 (k:Int)=some (Lib.decDigits k):=by
 induction k using Nat.strongRecOn with
 | ind k ih=>
 intro h
 rw [W4,if_neg (by simp),E1g k h,Lib.decDigits]
 by_cases h10:k < 10
 ·rw [if_pos (decide_eq_true (by omega)),dif_pos h10,Nat.mod_eq_of_lt h10]
 ·have e:IntKind.i64.wrap (Int.tdiv (k:Int) 10)=((k / 10:Nat):Int):=by
   rw [Int.tdiv_eq_ediv_of_nonneg (by omega),wr (by omega) (by omega)]; rfl
  have hl:(Lib.decDigits (k / 10)).length≤18:=Dg 17 _ (by omega)
  rw [if_neg (by simp; omega),dif_neg h10,e,ih (k / 10) (by omega) (by omega),ob,if_pos (decide_eq_true (by unfold maxLen; simp; omega))]
theorem Oq {n:Int}(h:Lg n):W4 n=some (Lib.itoa n):=by
 unfold Lg at h
 unfold Lib.itoa
 by_cases h0:n < 0
 ·have e:IntKind.i64.wrap (0 - n)=(n.natAbs:Int):=by rw [wr (by omega) (by omega)]; omega
  have hl:(Lib.decDigits n.natAbs).length≤18:=Dg 17 _ (by omega)
  rw [W4,if_pos (decide_eq_true h0),e,X12 _ (by omega),ob,if_pos h0,if_pos (decide_eq_true (by unfold maxLen; omega))]
  rfl
 ·rw [if_neg h0]
  have:=X12 n.toNat (by omega)
  rw [show ((n.toNat:Nat):Int)=n by omega] at this
  exact this
def LL:Nat:=70368744177664
theorem fit {n:Nat}{α:Type}{x:Option α}(h:n≤LL):(if decide (n≤maxLen)=true then x else none)=x:=by
 rw [if_pos (decide_eq_true (by unfold LL at h; unfold maxLen; omega))]
def lv (o:Int):Int:=
 bif o == 23 then 0 else bif o == 20 then 1 else bif o == 19 then 2 else bif (bif decide (o≥13) then decide (o≤18) else false) then 3
 else bif (bif o == 8 then true else o == 9) then 4 else bif (bif (bif o == 10 then true else o == 11) then true else o == 12) then 5 else bif (bif o == 6 then true else o == 7) then 6 else 7
theorem E15 (o:Int):Pg o=some (lv o):=by
 unfold Pg lv
 cases o == 23 <;> cases o == 20 <;> cases o == 19 <;> cases (bif decide (o≥13) then decide (o≤18) else false) <;> cases (bif o == 8 then true else o == 9) <;>
  cases (bif (bif o == 10 then true else o == 11) then true else o == 12) <;> cases (bif o == 6 then true else o == 7) <;> rfl
theorem F1g (o:Int):(o < 0∨23 < o)∨o=0∨o=1∨o=2∨o=3∨o=4∨o=5∨o=6∨o=7∨o=8∨o=9∨o=10∨o=11∨o=12∨o=13∨o=14∨o=15∨o=16∨o=17∨o=18∨o=19∨o=20∨o=21∨o=22∨o=23:=by omega
theorem far {o k:Int}(h:o < 0∨23 < o)(hk:0≤k∧k≤23):(o == k)=false:=beq_eq_false_iff_ne.2 (by omega)
def sign (o:Int):Str:=D15.getD (o - 8).toNat []
theorem Mh {o:Int}(h:8≤o)(h':o≤20):o=8∨o=9∨o=10∨o=11∨o=12∨o=13∨o=14∨o=15∨o=16∨o=17∨o=18∨o=19∨o=20:=by omega
theorem F1a {o:Int}(h:8≤o)(h':o≤20):idx D15 (IntKind.i64.wrap (o - 8))=some (sign o)∧Yn o=some (sign o)∧(sign o).length≤2:=by
 rcases Mh h h' with rfl | rfl | rfl | rfl | rfl | rfl | rfl | rfl | rfl | rfl | rfl | rfl | rfl
 all_goals exact ⟨rfl,rfl,by decide⟩
def par (req:Int)(p:Int×Str):Str:=bif decide (lv p.1≥req) then p.2 else [40]++p.2++[41]
def etx (op n:Int)(nm:Str)(ks:List (Int×Str)):Str:=
 let k:=fun i=>ks.getD i (0,[])
 bif op == 0 then Lib.itoa n else bif op == 1 then [116,114,117,101] else bif op == 2 then [102,97,108,115,101] else bif op == 3 then nm
 else bif op == 4 then (k 0).2++([46]++nm) else bif op == 5 then (k 0).2++[91]++(k 1).2++[93] else bif op == 6 then [45]++par 6 (k 0) else bif op == 7 then [33]++par 6 (k 0)
 else bif op == 21 then [109,105,110,40]++(k 0).2++[44,32]++(k 1).2++[41] else bif op == 22 then [109,97,120,40]++(k 0).2++[44,32]++(k 1).2++[41]
 else bif op == 23 then par 1 (k 0)++[32,63,32]++(k 1).2++[32,58,32]++(k 2).2
 else par (bif lv op == 3 then 4 else lv op) (k 0)++([32]++sign op++[32])++par (lv op+1) (k 1)
mutual
def A0.text:A0→Str
 | .mk op n nm ks=>etx op n nm (A0.texts ks)
def A0.texts:List A0→List (Int×Str)
 | []=>[]
 | x::r=>(x.Op,A0.text x)::A0.texts r
end
theorem W1b {α:Type}{l:List α}(h:l.length=2):∃ a b,l=[a,b]:=by
 match l,h with
 | [a,b],_=>exact ⟨a,b,rfl⟩
theorem G1l {α:Type}{l:List α}(h:l.length=3):∃ a b c,l=[a,b,c]:=by
 match l,h with
 | [a,b,c],_=>exact ⟨a,b,c,rfl⟩
inductive Yg:A0→Prop
 | lit (n):Yg (.mk 0 n [] [])
 | tt:Yg (.mk 1 0 [] [])
 | ff:Yg (.mk 2 0 [] [])
 | name (nm):Yg (.mk 3 0 nm [])
 | field (nm k):Yg (.mk 4 0 nm [k])
 | index (a b):Yg (.mk 5 0 [] [a,b])
 | neg (k):Yg (.mk 6 0 [] [k])
 | not (k):Yg (.mk 7 0 [] [k])
 | bin (o a b) (h:8≤o) (h':o≤20):Yg (.mk o 0 [] [a,b])
 | min (a b):Yg (.mk 21 0 [] [a,b])
 | max (a b):Yg (.mk 22 0 [] [a,b])
 | cond (a b c):Yg (.mk 23 0 [] [a,b,c])
theorem G1g (e:A0)(h:Tb e=true):Yg e:=by
 obtain ⟨op,n,nm,ks⟩:=e
 unfold Tb at h
 simp only [Bool.and_eq_true] at h
 obtain ⟨⟨⟨h1,h2⟩,h3⟩,_⟩:=h
 have e1:ar op=(ks.length:Int):=by simpa [ef1] using h1
 have e2:op≠0→n=0:=fun hne=>by
  have:=beq_eq_false_iff_ne.2 hne
  simp only [ef2,this] at h2
  cases hn:n == 0 with
  | true=>simpa using hn
  | false=>rw [hn] at h2; cases h2
 have e3:op≠3→op≠4→nm=[]:=fun hne hne'=>by
  have:=beq_eq_false_iff_ne.2 hne
  have h4:=beq_eq_false_iff_ne.2 hne'
  simp only [ef3,this,h4] at h3
  cases hn:nm == [] with
  | true=>simpa using hn
  | false=>rw [hn] at h3; cases h3
 rcases F1g op with h | h
 ·have:ar op = -1:=by
   have f:=fun k hk=>far (k:=k) h hk
   have hr:(bif decide (op≥8) then decide (op≤22) else false)=false:=by
    rcases h with h | h
    ·rw [decide_eq_false (by omega)]; rfl
    ·rw [decide_eq_false (show ¬ op≤22 by omega)]; cases decide (op≥8) <;> rfl
   unfold ar
   rw [hr,f 0 (by decide),f 1 (by decide),f 2 (by decide),f 3 (by decide),f 4 (by decide),f 6 (by decide),f 7 (by decide),f 5 (by decide),f 23 (by decide)]
   rfl
  omega
 by_cases hb:8≤op∧op≤20
 ·have e4:ar op=2:=by rcases Mh hb.1 hb.2 with rfl | rfl | rfl | rfl | rfl | rfl | rfl | rfl | rfl | rfl | rfl | rfl | rfl <;> rfl
  obtain ⟨a,b,rfl⟩:=W1b (l:=ks) (by omega)
  obtain rfl:=e2 (by omega)
  obtain rfl:=e3 (by omega) (by omega)
  exact .bin _ _ _ hb.1 hb.2
 have hc:op=0∨op=1∨op=2∨op=3∨op=4∨op=5∨op=6∨op=7∨op=21∨op=22∨op=23:=by omega
 rcases hc with rfl | rfl | rfl | rfl | rfl | rfl | rfl | rfl | rfl | rfl | rfl
 ·obtain rfl:=List.eq_nil_of_length_eq_zero (l:=ks) (by have:ar 0=0:=rfl; omega)
  obtain rfl:=e3 (by decide) (by decide)
  exact .lit n
 ·obtain rfl:=List.eq_nil_of_length_eq_zero (l:=ks) (by have:ar 1=0:=rfl; omega)
  obtain rfl:=e3 (by decide) (by decide)
  obtain rfl:=e2 (by decide)
  exact .tt
 ·obtain rfl:=List.eq_nil_of_length_eq_zero (l:=ks) (by have:ar 2=0:=rfl; omega)
  obtain rfl:=e3 (by decide) (by decide)
  obtain rfl:=e2 (by decide)
  exact .ff
 ·obtain rfl:=List.eq_nil_of_length_eq_zero (l:=ks) (by have:ar 3=0:=rfl; omega)
  obtain rfl:=e2 (by decide)
  exact .name nm
 ·obtain ⟨k,rfl⟩:=List.length_eq_one_iff.1 (show ks.length=1 by have:ar 4=1:=rfl; omega)
  obtain rfl:=e2 (by decide)
  exact .field nm k
 ·obtain ⟨a,b,rfl⟩:=W1b (l:=ks) (by have:ar 5=2:=rfl; omega)
  obtain rfl:=e3 (by decide) (by decide)
  obtain rfl:=e2 (by decide)
  exact .index a b
 ·obtain ⟨k,rfl⟩:=List.length_eq_one_iff.1 (show ks.length=1 by have:ar 6=1:=rfl; omega)
  obtain rfl:=e3 (by decide) (by decide)
  obtain rfl:=e2 (by decide)
  exact .neg k
 ·obtain ⟨k,rfl⟩:=List.length_eq_one_iff.1 (show ks.length=1 by have:ar 7=1:=rfl; omega)
  obtain rfl:=e3 (by decide) (by decide)
  obtain rfl:=e2 (by decide)
  exact .not k
 ·obtain ⟨a,b,rfl⟩:=W1b (l:=ks) (by have:ar 21=2:=rfl; omega)
  obtain rfl:=e3 (by decide) (by decide)
  obtain rfl:=e2 (by decide)
  exact .min a b
 ·obtain ⟨a,b,rfl⟩:=W1b (l:=ks) (by have:ar 22=2:=rfl; omega)
  obtain rfl:=e3 (by decide) (by decide)
  obtain rfl:=e2 (by decide)
  exact .max a b
 ·obtain ⟨a,b,c,rfl⟩:=G1l (l:=ks) (by have:ar 23=3:=rfl; omega)
  obtain rfl:=e3 (by decide) (by decide)
  obtain rfl:=e2 (by decide)
  exact .cond a b c
structure Xj (e:A0):Prop where
 form:e.all Tb=true
 numb:e.all Xc=true
 ok:OkE e
theorem Xj.kid {e k:A0}(h:Xj e)(hk:k∈e.Kids):Xj k:=by
 have h1:=h.form
 have h2:=h.numb
 rw [A0.all_eq,Bool.and_eq_true] at h1 h2
 exact ⟨A0.alls_mem h1.2 hk,A0.alls_mem h2.2 hk,h.ok.kid hk⟩
theorem Xj.shape {e:A0}(h:Xj e):Yg e:=by
 have h1:=h.form
 rw [A0.all_eq,Bool.and_eq_true] at h1
 exact G1g e h1.1
theorem Xj.small {n:Int}(h:Xj (.mk 0 n [] [])):Lg n:=by
 have h2:=h.numb
 rw [A0.all_eq,Bool.and_eq_true] at h2
 have h3:=h2.1
 unfold Xc G9 at h3
 simp at h3
 unfold Lg
 omega
theorem L18 {e:A0}(ht:OkE e)(h:Ba e=0):Xj e:=by
 unfold Ba Ue at h
 cases hb:(bif decide ((e.nodes:Int) > 1024) then true else decide ((e.depth:Int) > 12)) <;> rw [hb] at h
 ·cases hf:e.all Tb <;> rw [hf] at h
  ·cases h
  ·cases hn:e.all Nd <;> rw [hn] at h
   ·cases h
   ·cases hu:e.all Xc <;> rw [hu] at h
    ·cases h
    ·exact ⟨hf,hu,ht⟩
 ·cases h
theorem Rg (r:Int)(p:Int×Str):(par r p).length≤p.2.length+2:=by
 unfold par
 cases decide (lv p.1≥r) <;> simp <;> omega
theorem Ju {o:Int}(a b:A0)(h:8≤o)(h':o≤20):(A0.mk o 0 [] [a,b]).text=par (bif lv o == 3 then 4 else lv o) (a.Op,a.text)++([32]++sign o++[32])++par (lv o+1) (b.Op,b.text):=by
 rcases Mh h h' with rfl | rfl | rfl | rfl | rfl | rfl | rfl | rfl | rfl | rfl | rfl | rfl | rfl
 all_goals rfl
theorem H1g (e:A0):Xj e→e.text.length≤40 * e.bulk:=by
 induction e using A0.ind with
 | h e ih=>
 intro hf
 have ih':=fun k hk=>ih k hk (hf.kid hk)
 cases hf.shape with
 | lit n=>
  have:=El hf.small
  show (Lib.itoa n).length≤_
  simp only [A0.bulk,A0.bulks]; omega
 | tt=>decide
 | ff=>decide
 | name nm=>show nm.length≤_; simp only [A0.bulk,A0.bulks]; omega
 | field nm k=>
  have:=ih' k (by simp)
  show (k.text++([46]++nm)).length≤_
  simp only [A0.bulk,A0.bulks,List.length_append,List.length_cons,List.length_nil]; omega
 | index a b=>
  have:=ih' a (by simp); have:=ih' b (by simp)
  show (a.text++[91]++b.text++[93]).length≤_
  simp only [A0.bulk,A0.bulks,List.length_append,List.length_cons,List.length_nil]; omega
 | neg k=>
  have:=ih' k (by simp); have:=Rg 6 (k.Op,k.text)
  show ([45]++par 6 (k.Op,k.text)).length≤_
  simp only [A0.bulk,A0.bulks,List.length_append,List.length_cons,List.length_nil] at *; omega
 | not k=>
  have:=ih' k (by simp); have:=Rg 6 (k.Op,k.text)
  show ([33]++par 6 (k.Op,k.text)).length≤_
  simp only [A0.bulk,A0.bulks,List.length_append,List.length_cons,List.length_nil] at *; omega
 | bin o a b h h'=>
  have:=ih' a (by simp); have:=ih' b (by simp)
  have:=Rg (bif lv o == 3 then 4 else lv o) (a.Op,a.text); have:=Rg (lv o+1) (b.Op,b.text)
  have:=(F1a h h').2.2
  rw [Ju a b h h']
  simp only [A0.bulk,A0.bulks,List.length_append,List.length_cons,List.length_nil] at *; omega
 | min a b=>
  have:=ih' a (by simp); have:=ih' b (by simp)
  show ([109,105,110,40]++a.text++[44,32]++b.text++[41]).length≤_
  simp only [A0.bulk,A0.bulks,List.length_append,List.length_cons,List.length_nil]; omega
 | max a b=>
  have:=ih' a (by simp); have:=ih' b (by simp)
  show ([109,97,120,40]++a.text++[44,32]++b.text++[41]).length≤_
  simp only [A0.bulk,A0.bulks,List.length_append,List.length_cons,List.length_nil]; omega
 | cond a b c=>
  have:=ih' a (by simp); have:=ih' b (by simp); have:=ih' c (by simp)
  have:=Rg 1 (a.Op,a.text)
  show (par 1 (a.Op,a.text)++[32,63,32]++b.text++[32,58,32]++c.text).length≤_
  simp only [A0.bulk,A0.bulks,List.length_append,List.length_cons,List.length_nil] at *; omega
end Go.Proofs.YtmnhfbekncjnfaaGreatDoor

set_option linter.unusedSimpArgs false
set_option linter.unusedVariables false
namespace Go.Proofs.YtmnhfbekncjnfaaGreatDoor
open Go.Am
theorem Ys {k:A0}(hk:T1 k=some k.text)(hl:k.text.length≤40 * k.bulk)(ho:k.bulk≤BB)(req:Int):Af k req=some (par req (k.Op,k.text)):=by
 rw [Af,E15,ob,hk,V12]
 unfold par
 cases h:decide (lv k.Op≥req) with
 | true=>rfl
 | false=>
  unfold BB at ho
  rw [Bool.not_false,if_pos (by simp),ob,fit (by unfold LL; omega),fit (by unfold LL; simp; omega)]
  rfl
theorem I1g (e:A0):Xj e→T1 e=some e.text:=by
 induction e using A0.ind with
 | h e ih=>
 intro hf
 have ih':=fun k hk=>ih k hk (hf.kid hk)
 have hl:=fun k hk=>H1g k (hf.kid hk)
 have hko:=fun k hk=>(hf.kid (k:=k) hk).ok
 have hb:=hf.ok
 unfold OkE BB at hb
 cases hf.shape with
 | lit n=>rw [T1,if_pos (by simp),Oq hf.small,ob]; rfl
 | tt=>rw [T1,if_neg (by simp),if_pos (by simp)]; rfl
 | ff=>rw [T1,if_neg (by simp),if_neg (by simp),if_pos (by simp)]; rfl
 | name nm=>rw [T1,if_neg (by simp),if_neg (by simp),if_neg (by simp),if_pos (by simp)]; rfl
 | field nm k=>
  have i1:=ih' k (by simp)
  have l1:=hl k (by simp)
  simp only [A0.bulk,A0.bulks] at hb
  rw [T1,if_neg (by simp),if_neg (by simp),if_neg (by simp),if_neg (by simp),if_pos (by simp),show idx (A0.mk 4 0 nm [k]).Kids 0=some k from rfl,ob,i1,ob,fit (by unfold LL; omega),fit (by unfold LL; simp; omega)]
  show some ((k.text++[46])++nm)=some (k.text++([46]++nm))
  rw [List.append_assoc]
 | index x y=>
  have i1:=ih' x (by simp); have i2:=ih' y (by simp)
  have l1:=hl x (by simp); have l2:=hl y (by simp)
  simp only [A0.bulk,A0.bulks] at hb
  rw [T1,if_neg (by simp),if_neg (by simp),if_neg (by simp),if_neg (by simp),if_neg (by simp),if_pos (by simp),show idx (A0.mk 5 0 [] [x,y]).Kids 0=some x from rfl,ob,i1,ob,fit (by unfold LL; omega),
   show idx (A0.mk 5 0 [] [x,y]).Kids 1=some y from rfl,ob,i2,ob,fit (by unfold LL; simp; omega),fit (by unfold LL; simp; omega)]
  rfl
 | neg k=>
  have i1:=ih' k (by simp)
  have l1:=hl k (by simp)
  have p1:=Rg 6 (k.Op,k.text)
  simp only [A0.bulk,A0.bulks] at hb p1
  rw [T1,if_neg (by simp),if_neg (by simp),if_neg (by simp),if_neg (by simp),if_neg (by simp),if_neg (by simp),if_pos (by simp),show idx (A0.mk 6 0 [] [k]).Kids 0=some k from rfl,ob,Ys i1 l1 (hko k (by simp)),ob,fit (by unfold LL; omega)]
  rfl
 | not k=>
  have i1:=ih' k (by simp)
  have l1:=hl k (by simp)
  have p1:=Rg 6 (k.Op,k.text)
  simp only [A0.bulk,A0.bulks] at hb p1
  rw [T1,if_neg (by simp),if_neg (by simp),if_neg (by simp),if_neg (by simp),if_neg (by simp),if_neg (by simp),if_neg (by simp),if_pos (by simp),show idx (A0.mk 7 0 [] [k]).Kids 0=some k from rfl,ob,Ys i1 l1 (hko k (by simp)),ob,fit (by unfold LL; omega)]
  rfl
 | bin o x y h h'=>
  have i1:=ih' x (by simp); have i2:=ih' y (by simp)
  have l1:=hl x (by simp); have l2:=hl y (by simp)
  obtain ⟨_,g1,g2⟩:=F1a h h'
  have p1:=Rg (bif lv o == 3 then 4 else lv o) (x.Op,x.text)
  have p2:=Rg (lv o+1) (y.Op,y.text)
  simp only [A0.bulk,A0.bulks] at hb p1 p2
  have hw:IntKind.i64.wrap (lv o+1)=lv o+1:=by rcases Mh h h' with rfl | rfl | rfl | rfl | rfl | rfl | rfl | rfl | rfl | rfl | rfl | rfl | rfl <;> rfl
  have e1:∀ left,left=(bif lv o == 3 then 4 else lv o)→Cb (A0.mk o 0 [] [x,y]) (lv o) left=some (A0.mk o 0 [] [x,y]).text:=by
   rintro _ rfl
   rw [Cb,show idx (A0.mk o 0 [] [x,y]).Kids 0=some x from rfl,ob,Ys i1 l1 (hko x (by simp)),ob,fit (by unfold LL; omega),g1,ob,fit (by unfold LL; simp; omega),fit (by unfold LL; simp; omega),
    show idx (A0.mk o 0 [] [x,y]).Kids 1=some y from rfl,ob,hw,Ys i2 l2 (hko y (by simp)),ob,fit (by unfold LL; simp; omega),Ju x y h h']
   simp
  have n:∀ k:Int,k < 8∨20 < k→(o == k)=false:=fun k hk=>beq_eq_false_iff_ne.2 (by omega)
  rw [T1]
  simp only [n 0 (by decide),n 1 (by decide),n 2 (by decide),n 3 (by decide),n 4 (by decide),n 5 (by decide),n 6 (by decide),n 7 (by decide),n 21 (by decide),n 22 (by decide),n 23 (by decide)]
  rw [if_neg (by simp),if_neg (by simp),if_neg (by simp),if_neg (by simp),if_neg (by simp),if_neg (by simp),if_neg (by simp),if_neg (by simp),if_neg (by simp),if_neg (by simp),if_neg (by simp),E15,ob]
  cases h3:lv o == 3 with
  | true=>rw [if_pos (by simp)]; exact e1 4 (by rw [h3]; rfl)
  | false=>rw [if_neg (by simp)]; exact e1 (lv o) (by rw [h3]; rfl)
 | min x y=>
  have i1:=ih' x (by simp); have i2:=ih' y (by simp)
  have l1:=hl x (by simp); have l2:=hl y (by simp)
  simp only [A0.bulk,A0.bulks] at hb
  rw [T1,if_neg (by simp),if_neg (by simp),if_neg (by simp),if_neg (by simp),if_neg (by simp),if_neg (by simp),if_neg (by simp),if_neg (by simp),if_pos (by simp),show idx (A0.mk 21 0 [] [x,y]).Kids 0=some x from rfl,ob,i1,ob,
   fit (by unfold LL; omega),fit (by unfold LL; simp; omega),show idx (A0.mk 21 0 [] [x,y]).Kids 1=some y from rfl,ob,i2,ob,fit (by unfold LL; simp; omega),fit (by unfold LL; simp; omega)]
  rfl
 | max x y=>
  have i1:=ih' x (by simp); have i2:=ih' y (by simp)
  have l1:=hl x (by simp); have l2:=hl y (by simp)
  simp only [A0.bulk,A0.bulks] at hb
  rw [T1,if_neg (by simp),if_neg (by simp),if_neg (by simp),if_neg (by simp),if_neg (by simp),if_neg (by simp),if_neg (by simp),if_neg (by simp),if_neg (by simp),if_pos (by simp),show idx (A0.mk 22 0 [] [x,y]).Kids 0=some x from rfl,ob,i1,ob,
   fit (by unfold LL; omega),fit (by unfold LL; simp; omega),show idx (A0.mk 22 0 [] [x,y]).Kids 1=some y from rfl,ob,i2,ob,fit (by unfold LL; simp; omega),fit (by unfold LL; simp; omega)]
  rfl
 | cond x y z=>
  have i1:=ih' x (by simp); have i2:=ih' y (by simp); have i3:=ih' z (by simp)
  have l1:=hl x (by simp); have l2:=hl y (by simp); have l3:=hl z (by simp)
  have p1:=Rg 1 (x.Op,x.text)
  simp only [A0.bulk,A0.bulks] at hb p1
  rw [T1,if_neg (by simp),if_neg (by simp),if_neg (by simp),if_neg (by simp),if_neg (by simp),if_neg (by simp),if_neg (by simp),if_neg (by simp),if_neg (by simp),if_neg (by simp),if_pos (by simp),
   show idx (A0.mk 23 0 [] [x,y,z]).Kids 0=some x from rfl,ob,Ys i1 l1 (hko x (by simp)),ob,fit (by unfold LL; omega),show idx (A0.mk 23 0 [] [x,y,z]).Kids 1=some y from rfl,ob,i2,ob,
   fit (by unfold LL; simp; omega),fit (by unfold LL; simp; omega),show idx (A0.mk 23 0 [] [x,y,z]).Kids 2=some z from rfl,ob,i3,ob,fit (by unfold LL; simp; omega)]
  rfl
def Np (s:Str):Str×Int:=bif decide ((s.length:Int) > 8192) then ([],5) else (s,0)
theorem F15 (b:Str):Qg b=some (Np b):=by
 unfold Qg Np
 cases decide ((b.length:Int) > 8192) <;> rfl
def Om (e:A0):Str×Int:=bif Ba e != 0 then ([],Ba e) else Np e.text
theorem Y15 (e:A0)(ht:OkE e):Hd e=some (Om e):=by
 unfold Hd Om
 rw [Wu e ht,ob]
 cases h:Ba e != 0 with
 | true=>rfl
 | false=>
  have hf:=L18 ht (by simpa using h)
  rw [if_neg (by simp),I1g e hf,ob,F15,ob]
  rfl
end Go.Proofs.YtmnhfbekncjnfaaGreatDoor

set_option linter.unusedSimpArgs false
set_option linter.unusedVariables false
set_option maxHeartbeats 800000
namespace Go.Proofs.YtmnhfbekncjnfaaGreatDoor
open Go.Am
def V5:Bool→List Str→List Str→Str
 | f,n::ns,t::ts=>(bif f then [] else [44,32])++(n++[58,32]++t)++V5 false ns ts
 | _,_,_=>[]
def ttx (k lo hi sz:Int)(nm:Str)(ns:List Str)(ks:List Str):Str:=
 bif k == 0 then [98,111,111,108] else bif k == 1 then [105,110,116,91]++Lib.itoa lo++[46,46]++Lib.itoa hi++[93]
 else bif k == 2 then [97,114,114,97,121,32]++Lib.itoa sz++[32,111,102,32]++ks.getD 0 []
 else bif k == 3 then [114,101,99,111,114,100,32,123]++V5 true ns ks++[125] else nm
mutual
def C0.text:C0→Str
 | .mk k lo hi sz nm ns ks=>ttx k lo hi sz nm ns (C0.texts ks)
def C0.texts:List C0→List Str
 | []=>[]
 | x::r=>C0.text x::C0.texts r
end
inductive Pp:C0→Prop
 | bool:Pp (.mk 0 0 0 0 [] [] [])
 | int (lo hi) (h:Lg lo) (h':Lg hi):Pp (.mk 1 lo hi 0 [] [] [])
 | array (sz k) (h:Lg sz):Pp (.mk 2 0 0 sz [] [] [k])
 | record (ns ks) (h:ns.length=ks.length) (h':1≤ks.length):Pp (.mk 3 0 0 0 [] ns ks)
 | name (nm):Pp (.mk 4 0 0 0 nm [] [])
theorem G1e (t:C0)(h:X8 t=true)(hn:Zh t=true):Pp t:=by
 obtain ⟨k,lo,hi,sz,nm,ns,ks⟩:=t
 unfold X8 at h
 unfold Zh at hn
 simp only [Bool.and_eq_true] at h hn
 obtain ⟨⟨⟨⟨⟨h1,h2⟩,h3⟩,h4⟩,h5⟩,h6⟩:=h
 obtain ⟨u1,u2⟩:=hn
 have hk:k=0∨k=1∨k=2∨k=3∨k=4:=by
  unfold fm1 at h1
  simp at h1
  omega
 rcases hk with rfl | rfl | rfl | rfl | rfl
 ·simp [fm2,fm3,fm4,fm5,fm6] at h2 h3 h4 h5 h6
  obtain ⟨rfl,rfl⟩:=h2
  subst h3 h4 h5 h6
  exact .bool
 ·simp [fm2,fm3,fm4,fm5,fm6] at h3 h4 h5 h6
  simp [nm2,G9] at u2
  subst h3 h4 h5 h6
  exact .int _ _ (by unfold Lg; omega) (by unfold Lg; omega)
 ·simp [fm2,fm3,fm4,fm5,fm6] at h2 h4 h5 h6
  simp [nm1,G9] at u1
  obtain ⟨rfl,rfl⟩:=h2
  obtain ⟨k,rfl⟩:=List.length_eq_one_iff.1 (show ks.length=1 by omega)
  subst h4 h5
  exact .array _ _ (by unfold Lg; omega)
 ·simp [fm2,fm3,fm4,fm5,fm6] at h2 h3 h4 h6
  obtain ⟨rfl,rfl⟩:=h2
  subst h3 h4
  exact .record _ _ (by omega) (by omega)
 ·simp [fm2,fm3,fm4,fm5,fm6] at h2 h3 h5 h6
  obtain ⟨rfl,rfl⟩:=h2
  subst h3 h5 h6
  exact .name _
structure Pl (t:C0):Prop where
 form:t.all X8=true
 numb:t.all Zh=true
 ok:Ok t
theorem Pl.kid {t k:C0}(h:Pl t)(hk:k∈t.Of):Pl k:=by
 have h1:=h.form
 have h2:=h.numb
 rw [C0.all_eq,Bool.and_eq_true] at h1 h2
 exact ⟨C0.alls_mem h1.2 hk,C0.alls_mem h2.2 hk,h.ok.kid hk⟩
theorem Pl.shape {t:C0}(h:Pl t):Pp t:=by
 have h1:=h.form
 have h2:=h.numb
 rw [C0.all_eq,Bool.and_eq_true] at h1 h2
 exact G1e t h1.1 h2.1
theorem M18 {t:C0}(ht:Ok t)(h:Oc t=0):Pl t:=by
 unfold Oc Ue at h
 cases hb:(bif decide ((t.nodes:Int) > 1024) then true else decide ((t.depth:Int) > 12)) <;> rw [hb] at h
 ·cases hf:t.all X8 <;> rw [hf] at h
  ·cases h
  ·cases hn:t.all Yf <;> rw [hn] at h
   ·cases h
   ·cases hu:t.all Zh <;> rw [hu] at h
    ·cases h
    ·exact ⟨hf,hu,ht⟩
 ·cases h
theorem N18:∀ (f:Bool) (ns:List Str) (ks:List C0),(∀ k∈ks,k.text.length≤64 * k.bulk)→(V5 f ns (C0.texts ks)).length≤64 * ((ns.map fun s=>s.length+1).sum+C0.bulks ks)
 | f,[],ks,_=>by cases ks <;> simp [V5]
 | f,n::ns,[],_=>by simp [V5,C0.texts]
 | f,n::ns,k::ks,h=>by
  have:=N18 false ns ks (fun x hx=>h x (List.mem_cons_of_mem _ hx))
  have:=h k List.mem_cons_self
  simp only [V5,C0.texts,C0.bulks,List.map_cons,List.sum_cons,List.length_append,List.length_cons,List.length_nil] at *
  cases f <;> simp <;> omega
theorem G15 (t:C0):Pl t→t.text.length≤64 * t.bulk:=by
 induction t using C0.ind with
 | h t ih=>
 intro hf
 have ih':=fun k hk=>ih k hk (hf.kid hk)
 cases hf.shape with
 | bool=>decide
 | int lo hi h h'=>
  have:=El h; have:=El h'
  show ([105,110,116,91]++Lib.itoa lo++[46,46]++Lib.itoa hi++[93]).length≤_
  simp only [C0.bulk,C0.bulks,List.map_nil,List.sum_nil,List.length_append,List.length_cons,List.length_nil]; omega
 | array sz k h=>
  have:=El h; have:=ih' k (by simp)
  show ([97,114,114,97,121,32]++Lib.itoa sz++[32,111,102,32]++k.text).length≤_
  simp only [C0.bulk,C0.bulks,List.map_nil,List.sum_nil,List.length_append,List.length_cons,List.length_nil]; omega
 | record ns ks h h'=>
  have:=N18 true ns ks ih'
  show ([114,101,99,111,114,100,32,123]++V5 true ns (C0.texts ks)++[125]).length≤_
  simp only [C0.bulk,List.length_append,List.length_cons,List.length_nil]; omega
 | name nm=>show nm.length≤_; simp only [C0.bulk,C0.bulks]; omega
theorem Yi (f:Bool)(n:Str)(ns:List Str)(k:C0)(ks:List C0):V5 f (n::ns) (C0.texts (k::ks))=(bif f then [] else [44,32])++(n++[58,32]++k.text)++V5 false ns (C0.texts ks):=rfl
theorem J1g {t:C0}(h:t.Names.length=t.Of.length){k:Nat}{x:C0}{r:List C0}(hr:t.Of.drop k=x::r):∃ n ns,t.Names.drop k=n::ns∧idx t.Names (k:Int)=some n:=by
 have hk:=(V3 hr).2.2.2.1
 cases hn:t.Names.drop k with
 | nil=>have:=(C3 hn).2; omega
 | cons n ns=>exact ⟨n,ns,rfl,(V3 hn).2.1⟩
theorem O18 (t:C0)(ht:Pl t)(hlen:t.Names.length=t.Of.length)(ih:∀ k∈t.Of,T3 k=some k.text) :
  ∀ (r:List C0) (k:Nat) (ns:List Str) (b:Str),t.Of.drop k=r→t.Names.drop k=ns→b.length+64 * ((ns.map fun s=>s.length+1).sum+C0.bulks r)+1≤LL→
   O9 t b k=some (b++V5 (k == 0) ns (C0.texts r)++[125])
 | [],k,ns,b,h,hn,hb=>by
  rw [O9,(C3 h).1,if_neg (by simp),fit (by omega)]
  have:V5 (k == 0) ns (C0.texts [])=[]:=by cases ns <;> rfl
  rw [this]
  simp
 | x::r,k,ns,b,h,hn,hb=>by
  obtain ⟨e1,e2,e3,e4,e5⟩:=V3 h
  obtain ⟨n,ms,hm,hi⟩:=J1g hlen h
  rw [hm] at hn
  subst hn
  have hms:=(V3 hm).2.2.1
  have hof:=ht.ok.ofs
  have hxl:=G15 x (ht.kid e5)
  simp only [List.map_cons,List.sum_cons,C0.bulks] at hb
  have step:∀ c:Str,c.length≤b.length+2→Db t c k=some (c++(n++[58,32]++x.text)++V5 false ms (C0.texts r)++[125]):=fun c hc=>by
   rw [Db,hi,ob,fit (by omega),fit (by simp; omega),e2,ob,ih x e5,ob,fit (by simp; omega),w1 (by omega),O18 t ht hlen ih r (k+1) ms _ e3 hms (by simp; omega)]
   simp
  rw [O9,e1,if_pos rfl]
  cases k with
  | zero=>
   rw [if_neg (by simp),step b (by omega)]
   simp [Yi]
  | succ k=>
   rw [if_pos (decide_eq_true (by omega)),fit (by omega),step (b++[44,32]) (by simp)]
   simp [Yi]
theorem H1e (t:C0):Pl t→T3 t=some t.text:=by
 induction t using C0.ind with
 | h t ih=>
 intro hf
 have ih':=fun k hk=>ih k hk (hf.kid hk)
 have hb:=hf.ok
 unfold Ok BB at hb
 cases hf.shape with
 | bool=>rw [T3,if_neg (by simp),if_neg (by simp),if_neg (by simp),if_neg (by simp)]; rfl
 | int lo hi h h'=>
  have:=El h; have:=El h'
  rw [T3,if_pos (by simp),Oq h,ob,fit (by unfold LL; omega),fit (by unfold LL; simp; omega),Oq h',ob,fit (by unfold LL; simp; omega),fit (by unfold LL; simp; omega)]
  rfl
 | array sz k h=>
  have:=El h
  have i1:=ih' k (by simp)
  have l1:=G15 k (hf.kid (by simp))
  simp only [C0.bulk,C0.bulks,List.map_nil,List.sum_nil,List.length_nil] at hb
  rw [T3,if_neg (by simp),if_pos (by simp),Oq h,ob,fit (by unfold LL; omega),fit (by unfold LL; simp; omega),show idx (C0.mk 2 0 0 sz [] [] [k]).Of 0=some k from rfl,ob,i1,ob,fit (by unfold LL; simp; omega)]
  rfl
 | record ns ks h h'=>
  simp only [C0.bulk] at hb
  have:=O18 (.mk 3 0 0 0 [] ns ks) hf h ih' ks 0 ns [114,101,99,111,114,100,32,123] rfl rfl (by unfold LL; simp; omega)
  rw [show ((0:Nat):Int)=0 from rfl] at this
  rw [T3,if_neg (by simp),if_neg (by simp),if_neg (by simp),if_pos (by simp),this]
  rfl
 | name nm=>rw [T3,if_neg (by simp),if_neg (by simp),if_pos (by simp)]; rfl
def Pm (t:C0):Str×Int:=bif Oc t != 0 then ([],Oc t) else Np t.text
theorem Z15 (t:C0)(ht:Ok t):Id t=some (Pm t):=by
 unfold Id Pm
 rw [Vu t ht,ob]
 cases h:Oc t != 0 with
 | true=>rfl
 | false=>
  have hf:=M18 ht (by simpa using h)
  rw [if_neg (by simp),H1e t hf,ob,F15,ob]
  rfl
end Go.Proofs.YtmnhfbekncjnfaaGreatDoor

set_option linter.unusedSimpArgs false
set_option linter.unusedVariables false
namespace Go.Proofs.YtmnhfbekncjnfaaGreatDoor
open Go.Am
theorem X1b {α:Type}{l:List α}{k:Nat}(h:k < l.length):∃ y,idx l (k:Int)=some y∧l.drop k=y::l.drop (k+1)∧y∈l:=by
 refine ⟨l[k],?_,List.drop_eq_getElem_cons h,List.getElem_mem h⟩
 unfold idx
 rw [if_pos (by omega)]
 simp [h]
theorem z0:(0:Int)=((0:Nat):Int):=rfl
theorem Ku {α:Type}{p:α→α→Bool}:∀ l:List α,(∀ x∈l,p x x=true)→eqL p l l=true
 | [],_=>rfl
 | x::r,h=>by rw [eqL,h x List.mem_cons_self,Ku r fun y hy=>h y (List.mem_cons_of_mem _ hy)]; rfl
theorem H15 (t u:C0)(ht:Ok t)(hl:t.Of.length=u.Of.length)(ih:∀ x∈t.Of,∀ y,R5 x y=some (x.same y)) :
  ∀ (r:List C0) (k:Nat),t.Of.drop k=r→O6 t u k=some (eqL C0.same r (u.Of.drop k))
 | [],k,h=>by
  rw [O6,(C3 h).1,if_neg (by simp),List.drop_eq_nil_of_le (by have:=(C3 h).2; omega)]; rfl
 | x::r,k,h=>by
  obtain ⟨e1,e2,e3,e4,e5⟩:=V3 h
  obtain ⟨y,f1,f2,f3⟩:=X1b (l:=u.Of) (k:=k) (by omega)
  have:=ht.ofs
  rw [O6,e1,if_pos rfl,e2,ob,f1,ob,ih x e5 y,ob,w1 (by omega),H15 t u ht hl ih r (k+1) e3,f2,eqL]
  cases x.same y <;> simp
theorem I15 (t u:C0)(ht:Ok t)(hl:t.Names.length=u.Names.length)(b:Bool)(hb:O6 t u 0=some b) :
  ∀ (r:List Str) (k:Nat),t.Names.drop k=r→P8 t u k=some (eqL (fun x y=>x == y) r (u.Names.drop k)&&b)
 | [],k,h=>by
  rw [P8,(C3 h).1,if_neg (by simp),List.drop_eq_nil_of_le (by have:=(C3 h).2; omega),hb]; rfl
 | x::r,k,h=>by
  obtain ⟨e1,e2,e3,e4,e5⟩:=V3 h
  obtain ⟨y,f1,f2,f3⟩:=X1b (l:=u.Names) (k:=k) (by omega)
  have:=ht.names
  rw [P8,e1,if_pos rfl,e2,ob,f1,ob,w1 (by omega),I15 t u ht hl b hb r (k+1) e3,f2,eqL]
  cases x == y <;> simp
theorem I1e (t:C0):Ok t→∀ u,R5 t u=some (t.same u):=by
 induction t using C0.ind with
 | h t ih=>
 intro ht u
 have ih':=fun x hx=>ih x hx (ht.kid hx)
 rw [R5]
 show (if Y13 t u=true then _ else _)=_
 cases hd:Y13 t u with
 | true=>rw [if_pos rfl,T1d hd]
 | false=>
  obtain ⟨h1,h2,h3⟩:=Z1f hd
  have h4:=H15 t u ht h3 ih' t.Of 0 rfl
  have h5:=I15 t u ht h2 _ h4 t.Names 0 rfl
  rw [if_neg (by simp),z0,h5,h1]
  rfl
theorem J1e (t:C0):t.same t=true:=by
 induction t using C0.ind with
 | h t ih=>
 rw [C0.same_eq,Ku t.Names (fun x _=>by simp),Ku t.Of ih]
 simp
mutual
def A0.same:A0→A0→Bool
 | .mk o n nm ks,t=>o == t.Op&&n == t.NV&&nm == t.Name&&A0.sames ks t.Kids
def A0.sames:List A0→List A0→Bool
 | [],[]=>true
 | x::r,y::s=>A0.same x y&&A0.sames r s
 | [],_::_=>false
 | _::_,[]=>false
end
theorem A0.sames_eq:∀ l m:List A0,A0.sames l m=eqL A0.same l m
 | [],[]=>rfl
 | x::r,y::s=>by simp only [A0.sames,eqL,A0.sames_eq r s]
 | [],_::_=>rfl
 | _::_,[]=>rfl
theorem A0.same_eq (t u:A0):t.same u=(t.Op == u.Op&&t.NV == u.NV&&t.Name == u.Name&&eqL A0.same t.Kids u.Kids):=by
 rw [← A0.sames_eq]
 cases t
 rfl
theorem K1e (t u:A0)(ht:OkE t)(hl:t.Kids.length=u.Kids.length)(ih:∀ x∈t.Kids,∀ y,M3 x y=some (x.same y)) :
  ∀ (r:List A0) (k:Nat),t.Kids.drop k=r→C5 t u k=some (eqL A0.same r (u.Kids.drop k))
 | [],k,h=>by
  rw [C5,(C3 h).1,if_neg (by simp),List.drop_eq_nil_of_le (by have:=(C3 h).2; omega)]; rfl
 | x::r,k,h=>by
  obtain ⟨e1,e2,e3,e4,e5⟩:=V3 h
  obtain ⟨y,f1,f2,f3⟩:=X1b (l:=u.Kids) (k:=k) (by omega)
  have:=ht.kids
  rw [C5,e1,if_pos rfl,e2,ob,f1,ob,ih x e5 y,ob,w1 (by omega),K1e t u ht hl ih r (k+1) e3,f2,eqL]
  cases x.same y <;> simp
theorem Y1b (t:A0):OkE t→∀ u,M3 t u=some (t.same u):=by
 induction t using A0.ind with
 | h t ih=>
 intro ht u
 have ih':=fun x hx=>ih x hx (ht.kid hx)
 rw [M3,A0.same_eq]
 by_cases hl:t.Kids.length=u.Kids.length
 ·have h4:=K1e t u ht hl ih' t.Kids 0 rfl
  have hb:(bif (bif (bif (t.Op != u.Op) then true else (t.NV != u.NV)) then true else (!(t.Name == u.Name))) then true else ((t.Kids.length:Int) != (u.Kids.length:Int))) = !(t.Op == u.Op&&t.NV == u.NV&&t.Name == u.Name):=by
   have:((t.Kids.length:Int) != (u.Kids.length:Int))=false:=by simp; omega
   rw [this]
   unfold bne
   cases t.Op == u.Op <;> cases t.NV == u.NV <;> cases t.Name == u.Name <;> rfl
  rw [hb,z0,h4]
  cases (t.Op == u.Op&&t.NV == u.NV&&t.Name == u.Name) <;> simp
 ·have:((t.Kids.length:Int) != (u.Kids.length:Int))=true:=by simp; omega
  rw [this,Uy _ hl,Bool.and_false]
  generalize (bif (bif (t.Op != u.Op) then true else (t.NV != u.NV)) then true else (!(t.Name == u.Name)))=b
  cases b <;> rfl
theorem Z1b (t:A0):t.same t=true:=by
 induction t using A0.ind with
 | h t ih=>
 rw [A0.same_eq,Ku t.Kids ih]
 simp
end Go.Proofs.YtmnhfbekncjnfaaGreatDoor

namespace Go.Proofs.YtmnhfbekncjnfaaGreatDoor
open Go.Am
mutual
def K0.bulk:K0→Nat
 | .mk y0 y1 y2 y3 y4 y5 y6 y7 y8 y9 y10=>1+(A0.bulk y1+(A0.bulk y2+((y3.length+1)+((A0.bulks y4+1)+(1+(1+(1+(((y8.map fun _=>1).sum+1)+((K0.bulks y9+1)+((K0.bulks y10+1)+(0)))))))))))+1
def K0.bulks:List K0→Nat
 | []=>0
 | x::r=>K0.bulk x+K0.bulks r
end
mutual
def Z0.bulk:Z0→Nat
 | .mk y0 y1 y2 y3 y4 y5 y6 y7=>1+((y1.length+1)+(C0.bulk y2+(1+(A0.bulk y4+((Z0.bulks y5+1)+((Z0.bulks y6+1)+((K0.bulks y7+1)+(0))))))))+1
def Z0.bulks:List Z0→Nat
 | []=>0
 | x::r=>Z0.bulk x+Z0.bulks r
end
mutual
def X1.bulk:X1→Nat
 | .mk y0 y1=>(Z0.bulks y0+1)+((K0.bulks y1+1)+(0))+1
def X1.bulks:List X1→Nat
 | []=>0
 | x::r=>X1.bulk x+X1.bulks r
end
end Go.Proofs.YtmnhfbekncjnfaaGreatDoor

set_option linter.unusedSimpArgs false
set_option linter.unusedVariables false
set_option maxHeartbeats 1000000
namespace Go.Proofs.YtmnhfbekncjnfaaGreatDoor
open Go.Am
end Go.Proofs.YtmnhfbekncjnfaaGreatDoor

set_option linter.unusedSimpArgs false
set_option linter.unusedVariables false
set_option maxHeartbeats 1000000
namespace Go.Proofs.YtmnhfbekncjnfaaGreatDoor
open Go.Am
end Go.Proofs.YtmnhfbekncjnfaaGreatDoor

set_option linter.unusedSimpArgs false
set_option linter.unusedVariables false
set_option maxHeartbeats 1000000
namespace Go.Proofs.YtmnhfbekncjnfaaGreatDoor
open Go.Am
end Go.Proofs.YtmnhfbekncjnfaaGreatDoor

set_option linter.unusedSimpArgs false
set_option linter.unusedVariables false
set_option maxHeartbeats 1000000
namespace Go.Proofs.YtmnhfbekncjnfaaGreatDoor
open Go.Am
end Go.Proofs.YtmnhfbekncjnfaaGreatDoor

namespace Go.Proofs.YtmnhfbekncjnfaaGreatDoor
open Go.Am
set_option maxRecDepth 100000
set_option maxHeartbeats 4000000
end Go.Proofs.YtmnhfbekncjnfaaGreatDoor

set_option linter.unusedSimpArgs false
set_option linter.unusedVariables false
namespace Go.Proofs.YtmnhfbekncjnfaaGreatDoor
open Go.Am
def NN (p:UInt8→Bool):Str→Prop
 | []=>True
 | c::_=>p c=false
def dg (c:UInt8):Bool:=Q4 c.toNat
def K1g (s:Str):Nat:=s.foldl (fun a c=>10 * a+(c.toNat - 48)) 0
theorem Vy (m:Nat)(h:m < 10):(UInt8.ofNat (48+m)).toNat=48+m:=by simp; omega
theorem Ql (k:Nat):K1g (Lib.decDigits k)=k∧(∀ c∈Lib.decDigits k,dg c=true)∧Lib.decDigits k≠[]:=by
 induction k using Nat.strongRecOn with
 | ind k ih=>
 have one:∀ m,m < 10→dg (UInt8.ofNat (48+m))=true:=fun m hm=>by
  unfold dg Q4
  rw [Vy m hm,decide_eq_true (by omega),decide_eq_true (by omega)]; rfl
 rw [Lib.decDigits]
 by_cases h:k < 10
 ·rw [dif_pos h]
  refine ⟨?_,?_,by simp⟩
  ·simp only [K1g,List.foldl_cons,List.foldl_nil,Vy k h]; omega
  ·intro c hc
   simp only [List.mem_singleton] at hc
   rw [hc]; exact one k h
 ·rw [dif_neg h]
  obtain ⟨i1,i2,i3⟩:=ih (k / 10) (by omega)
  refine ⟨?_,?_,by simp⟩
  ·unfold K1g at i1 ⊢
   rw [List.foldl_append,i1,List.foldl_cons,List.foldl_nil,Vy _ (by omega)]; omega
  ·intro c hc
   rw [List.mem_append] at hc
   rcases hc with hc | hc
   ·exact i2 c hc
   ·simp only [List.mem_singleton] at hc
    rw [hc]; exact one _ (by omega)
theorem N1k {o:Int}(h:8≤o)(h':o≤20):∃ l m:Nat,lv o=l∧(bif lv o == 3 then 4 else lv o)=(m:Int)∧1≤l∧l≤m∧m≤5:=by
 rcases Mh h h' with rfl | rfl | rfl | rfl | rfl | rfl | rfl | rfl | rfl | rfl | rfl | rfl | rfl
 all_goals first | exact ⟨4,4,rfl,rfl,by omega,by omega,by omega⟩ | exact ⟨5,5,rfl,rfl,by omega,by omega,by omega⟩ | exact ⟨3,4,rfl,rfl,by omega,by omega,by omega⟩ | exact ⟨2,2,rfl,rfl,by omega,by omega,by omega⟩ | exact ⟨1,1,rfl,rfl,by omega,by omega,by omega⟩
theorem F1i {o:Int}(h:8≤o)(n:Int)(nm:Str)(ks:List A0):(A0.mk o n nm ks).place=true→False:=by
 intro hp
 rw [A0.place_eq] at hp
 simp only [beq_eq_false_iff_ne.mpr (show o≠3 by omega),beq_eq_false_iff_ne.mpr (show o≠4 by omega),beq_eq_false_iff_ne.mpr (show o≠5 by omega),cond_false] at hp
 cases hp
theorem Cy:∀ (i:Nat) (s:Str),Nc i s=true→∀ c∈s,ld c=true
 | _,[],_,c,hc=>by cases hc
 | i,a::s,h,c,hc=>by
  simp only [Nc,Bool.and_eq_true] at h
  cases hc with
  | head=>
   have h1:=h.1
   unfold W13 at h1
   unfold ld
   cases h2:X4 a.toNat with
   | true=>rfl
   | false=>rw [h2] at h1; simp only [Bool.false_or,Bool.and_eq_true] at h1; exact h1.2
  | tail _ hc=>exact Cy (i+1) s h.2 c hc
theorem Z13 {s:Str}(h:T5 s=true):(∀ c∈s,ld c=true)∧(∃ c t,s=c::t∧X4 c.toNat=true)∧Yh s=false:=by
 unfold T5 at h
 cases h1:(bif decide ((s.length:Int)≤12) then word s else false) with
 | false=>rw [h1] at h; cases h
 | true=>
  rw [h1] at h
  have h2:word s=true:=by
   cases hl:decide ((s.length:Int)≤12) with
   | false=>rw [hl] at h1; cases h1
   | true=>rw [hl] at h1; exact h1
  unfold word at h2
  rw [Bool.and_eq_true] at h2
  refine ⟨Cy 0 s h2.1,?_,by simpa using h⟩
  match s,h2 with
  | [],h2=>exact absurd h2.2 (by decide)
  | c::t,h2=>
   refine ⟨c,t,rfl,?_⟩
   have h3:=h2.1
   simp only [Nc,Bool.and_eq_true,W13] at h3
   simpa using h3.1
structure Wy (e:A0):Prop where
 f:Xj e
 n:e.all Nd=true
theorem Wy.kid {e k:A0}(h:Wy e)(hk:k∈e.Kids):Wy k:=by
 have h1:=h.n
 rw [A0.all_eq,Bool.and_eq_true] at h1
 exact ⟨h.f.kid hk,A0.alls_mem h1.2 hk⟩
theorem L1g {e:A0}(ht:OkE e)(h:Ba e=0):Wy e:=by
 refine ⟨L18 ht h,?_⟩
 cases hn:e.all Nd with
 | true=>rfl
 | false=>
  unfold Ba Ue at h
  rw [hn] at h
  cases hb:(bif decide ((e.nodes:Int) > 1024) then true else decide ((e.depth:Int) > 12)) <;> rw [hb] at h
  ·cases hf:e.all Tb <;> rw [hf] at h <;> cases h
  ·cases h
end Go.Proofs.YtmnhfbekncjnfaaGreatDoor

set_option linter.unusedSimpArgs false
set_option linter.unusedVariables false
set_option maxHeartbeats 2000000
namespace Go.Proofs.YtmnhfbekncjnfaaGreatDoor
open Go.Am
abbrev z:A0:=⟨0,0,[],[]⟩
end Go.Proofs.YtmnhfbekncjnfaaGreatDoor

set_option linter.unusedSimpArgs false
set_option linter.unusedVariables false
set_option maxHeartbeats 4000000
namespace Go.Proofs.YtmnhfbekncjnfaaGreatDoor
open Go.Am
end Go.Proofs.YtmnhfbekncjnfaaGreatDoor

set_option linter.unusedSimpArgs false
set_option linter.unusedVariables false
set_option maxHeartbeats 4000000
namespace Go.Proofs.YtmnhfbekncjnfaaGreatDoor
open Go.Am
end Go.Proofs.YtmnhfbekncjnfaaGreatDoor

set_option linter.unusedSimpArgs false
set_option linter.unusedVariables false
namespace Go.Proofs.YtmnhfbekncjnfaaGreatDoor
open Go.Am
end Go.Proofs.YtmnhfbekncjnfaaGreatDoor

namespace Go.Proofs.YtmnhfbekncjnfaaGreatDoor
open Go.Am
def skp:Bool→List UInt8→Nat
 | _,[]=>0
 | false,c::r=>if (c.toNat:Int) == 35 then skp true r+1 else if (c.toNat:Int) == 32||((c.toNat:Int) == 9||(c.toNat:Int) == 10) then skp false r+1 else 0
 | true,c::r=>if (c.toNat:Int) == 10 then skp false r+1 else skp true r+1
theorem Dy:∀ (b:Bool) (r:List UInt8),skp b r≤r.length
 | true,[]=>Nat.le_refl _
 | false,[]=>Nat.le_refl _
 | false,c::r=>by
  have h1:=Dy true r
  have h2:=Dy false r
  simp only [skp,List.length_cons]
  split
  ·omega
  ·split <;> omega
 | true,c::r=>by
  have h1:=Dy true r
  have h2:=Dy false r
  simp only [skp,List.length_cons]
  split <;> omega
theorem J15 (s:Str)(hs:s.length≤BB):∀ (r:Str) (k:Nat),s.drop k=r→L8 s k=some ((k+skp false r:Nat):Int)∧Ea s k=some ((k+skp true r:Nat):Int)
 | [],k,h=>by
  have h1:L8 s k=some ((k+skp false []:Nat):Int):=by rw [L8,(C3 h).1]; simp [skp]
  refine ⟨h1,?_⟩
  rw [Ea,(C3 h).1]
  simpa [ob,skp] using h1
 | c::r,k,h=>by
  obtain ⟨h1,h2,h3,h4,_⟩:=V3 h
  obtain ⟨i1,i2⟩:=J15 s hs r (k+1) h3
  have e2:((c.toNat:Int) == 10)=false→Ea s k=some ((k+skp true (c::r):Nat):Int):=fun hc=>by
   rw [Ea,h1,if_pos rfl,h2,ob]
   have:((c.toNat:Int) != 10)=true:=by simp only [bne,hc]; rfl
   rw [this,cond_true,if_pos rfl,w1 (by omega),i2]
   simp only [skp,hc]
   simp; omega
  have e1:L8 s k=some ((k+skp false (c::r):Nat):Int):=by
   rw [L8,h1,if_pos rfl,h2]
   simp only [ob]
   cases h35:(c.toNat:Int) == 35 with
   | true=>
    rw [if_pos rfl,e2 (by have:=eq_of_beq h35; rw [this]; rfl)]
    simp only [skp,h35,if_true]
    have:((c.toNat:Int) == 10)=false:=by have:=eq_of_beq h35; rw [this]; rfl
    simp [this]
   | false=>
    rw [if_neg (by simp)]
    simp only [w1 (show k≤BB by omega),i1,skp,h35]
    by_cases h32:(c.toNat:Int)=32 <;> by_cases h9:(c.toNat:Int)=9 <;> by_cases h10:(c.toNat:Int)=10 <;> simp [ob,h32,h9,h10] <;> omega
  refine ⟨e1,?_⟩
  cases h10:(c.toNat:Int) == 10 with
  | false=>exact e2 h10
  | true=>
   rw [Ea,h1,if_pos rfl,h2,ob]
   have:((c.toNat:Int) != 10)=false:=by simp only [bne,h10]; rfl
   rw [this,cond_true,if_neg (by simp),e1]
   have h35:((c.toNat:Int) == 35)=false:=by have:=eq_of_beq h10; rw [this]; rfl
   simp [skp,h10,h35]
theorem M1g (s:Str)(hs:s.length≤BB)(k:Nat):Ml s k=some ((k+skp false (s.drop k):Nat):Int):=(J15 s hs _ k rfl).1
theorem G1i {s:List UInt8}(hne:s≠[])(hall:s.all ld=true):Hr s=Yh s:=by
 unfold Hr Yh
 rw [W17 hall]
 have hz:((s.length:Int) == 0)=false:=beq_eq_false_iff_ne.2 (by have:=List.length_pos_iff.2 hne; omega)
 have hn:(s == [])=false:=by cases s with
  | nil=>exact absurd rfl hne
  | cons _ _=>rfl
 rw [hz,hn]
 cases hk:Lib.contains kw ([32]++s++[32]) with
 | false=>simp
 | true=>rw [B1a hall hk]; rfl
theorem P18 (s:Str)(hs:s.length≤BB):∀ (r:Str) (k:Nat),s.drop k=r→G6 s k=some ((k+E4 r:Nat):Int)
 | [],k,h=>by rw [G6,(C3 h).1]; simp [E4,ob]
 | c::r,k,h=>by
  obtain ⟨h1,h2,h3,h4,_⟩:=V3 h
  have ih:=P18 s hs r (k+1) h3
  rw [G6,h1,if_pos rfl,h2,ob,if_pos rfl,Ir,ob,w1 (by omega),ih]
  simp only [E4,ld]
  cases hl:X4 c.toNat <;> cases hd:Q4 c.toNat <;> simp [Ao,hd,ob] <;> omega
theorem K15:∀ r:List UInt8,(r.take (E4 r)).all ld=true
 | []=>rfl
 | c::r=>by
  simp only [E4]
  cases h:ld c with
  | false=>rfl
  | true=>simp only [cond_true,List.take_succ_cons,List.all_cons,h,K15 r]; rfl
def nv (n:Nat)(l:List UInt8):Nat:=l.foldl (fun n c=>10 * n+(c.toNat - 48)) n
theorem Zs (n:Nat):nv n []=n:=rfl
theorem Fl (n:Nat)(c:UInt8)(r:List UInt8):nv n (c::r)=nv (10 * n+(c.toNat - 48)) r:=by unfold nv; rw [List.foldl_cons]
theorem E1h (r:List UInt8):∀ n:Nat,n≤nv n r:=by
 induction r with
 | nil=>intro n; rw [Zs]; exact Nat.le_refl _
 | cons c r ih=>intro n; rw [Fl]; have:=ih (10 * n+(c.toNat - 48)); omega
def A14 (n:Nat):Int:=if n > 1048576 then 3 else 0
theorem D11 {n:Nat}(h:n > 1048576):A14 n=3:=if_pos h
theorem B14 {n:Nat}(h:n≤1048576):A14 n=0:=if_neg (by omega)
def Rl (w:List UInt8):Bool:=decide ((w.length:Int) > 1)&&((w.getD 0 0).toNat:Int) == 48
def Ym (w:List UInt8):Int:=if w.all (fun c=>Q4 c.toNat) && !Rl w then A14 (nv 0 w) else 6
theorem Nh {n:Nat}:Q4 n=true ↔ 48≤n∧n≤57:=by
 unfold Q4
 by_cases h:48≤n
 ·rw [show decide ((n:Int)≥48)=true from decide_eq_true (by omega),cond_true,decide_eq_true_iff]; omega
 ·rw [show decide ((n:Int)≥48)=false from decide_eq_false (by omega),cond_false]; simp; omega
theorem N1g {c:UInt8}(h:Q4 c.toNat=true):IntKind.i64.wrap (IntKind.u8.wrap ((c.toNat:Int) - 48))=((c.toNat - 48:Nat):Int):=by
 have:=Nh.1 h
 rw [P19 (by omega) (by omega),wr (by omega) (by omega)]; omega
theorem L15 (s:Str)(n v7:Int):U3 s n v7=if (decide (v7 < ((s).length:Int)))=true then
  idx s v7>>=fun x1=>
  T6 (x1.toNat:Int)>>=fun x2=>
  if (!x2)=true then
   some 6
  else
   idx s v7>>=fun x3=>
   U3 s (min (IntKind.i64.wrap ((IntKind.i64.wrap (10 * n))+(IntKind.i64.wrap (IntKind.u8.wrap ((x3.toNat:Int) - 48))))) 1048577) (IntKind.i64.wrap (v7+1))
 else
  idx s 0>>=fun x4=>
  if (bif ((x4.toNat:Int) == 48) then (decide (((s).length:Int) > 1)) else false)=true then
   some 6
  else
   if (decide (n > 1048576))=true then
    some 3
   else
    some 0:=U3.eq_1 s n v7
theorem A1c (s:Str)(hs:s.length≤BB)(hne:s≠[]):∀ (r:Str) (k m:Nat) (n:Int),s.drop k=r→(m≤1048576→n=m)→(m > 1048576→n=1048577)→
  U3 s n k=some (if r.all (fun c=>Q4 c.toNat) && !Rl s then A14 (nv m r) else 6):=by
 intro r
 induction r with
 | nil=>
  intro k m n h hn hn'
  refine (L15 s n k).trans ?_
  rw [(C3 h).1,if_neg (by simp)]
  have h0:idx s 0=some (s.getD 0 0):=getD_some (List.length_pos_iff.2 hne)
  rw [h0,ob]
  have hb:(bif (((s.getD 0 0).toNat:Int) == 48) then decide ((s.length:Int) > 1) else false)=Rl s:=by
   unfold Rl
   cases ((s.getD 0 0).toNat:Int) == 48 <;> simp
  rw [hb]
  rw [Zs,List.all_nil,Bool.true_and]
  rcases Bool.eq_false_or_eq_true (Rl s) with hz | hz
  ·rw [hz,if_pos rfl,Bool.not_true,if_neg (by simp)]
  ·rw [hz,if_neg (by simp),Bool.not_false,if_pos rfl]
   rcases Nat.lt_or_ge 1048576 m with hm | hm
   ·rw [D11 hm,if_pos (decide_eq_true (by have:=hn' hm; omega))]
   ·rw [B14 hm,if_neg (by have:=hn hm; simp; omega)]
 | cons c r ihr=>
  intro k m n h hn hn'
  obtain ⟨h1,h2,h3,h4,_⟩:=V3 h
  refine (L15 s n k).trans ?_
  rw [h1,if_pos rfl,h2,ob,Ao,ob]
  cases hd:Q4 c.toNat with
  | false=>simp [hd]
  | true=>
   have hc:=Nh.1 hd
   have hnn:0≤n∧n≤1048577:=by
    by_cases hm:m > 1048576
    ·have:=hn' hm; omega
    ·have:=hn (Nat.le_of_not_lt hm); omega
   have e:IntKind.i64.wrap (IntKind.i64.wrap (10 * n)+IntKind.i64.wrap (IntKind.u8.wrap ((c.toNat:Int) - 48)))=10 * n+((c.toNat - 48:Nat):Int):=by
    rw [N1g hd,wr (n:=10 * _) (by omega) (by omega),wr (by omega) (by omega)]
   have ih:=ihr (k+1) (10 * m+(c.toNat - 48)) (min (10 * n+((c.toNat - 48:Nat):Int)) 1048577) h3 (fun hm=>by have:=hn (by omega); omega) (fun hm=>by
    by_cases hm2:m > 1048576
    ·have:=hn' hm2; omega
    ·have:=hn (Nat.le_of_not_lt hm2); omega)
   simp only [Bool.not_true,Bool.false_eq_true,if_false,ob,e,w1 (show k≤BB by omega)]
   rw [ih,List.all_cons,hd,Bool.true_and]
   rw [Fl]
theorem B1c (s:Str)(hs:s.length≤BB)(hne:s≠[]):Fe s=some (Ym s):=A1c s hs hne s 0 0 0 rfl (fun _=>rfl) (fun h=>by omega)
theorem M15 (s:Str)(hs:s.length≤BB):∀ (r:Str) (k m:Nat),s.drop k=r→m≤1048576→r.all (fun c=>Q4 c.toNat)=true→B9 s m k=some (A14 (nv m r)):=by
 intro r
 induction r with
 | nil=>intro k m h hm _; rw [B9,(C3 h).1,if_neg (by simp)]; rw [Zs,B14 hm]
 | cons c r ihr=>
  intro k m h hm ha
  obtain ⟨h1,h2,h3,h4,_⟩:=V3 h
  rw [List.all_cons,Bool.and_eq_true] at ha
  have hc:=Nh.1 ha.1
  have e:IntKind.i64.wrap (IntKind.i64.wrap ((m:Int) * 10)+IntKind.i64.wrap (IntKind.u8.wrap ((c.toNat:Int) - 48)))=((10 * m+(c.toNat - 48):Nat):Int):=by
   rw [N1g ha.1,wr (n:=(m:Int) * 10) (by omega) (by omega),wr (by omega) (by omega)]; omega
  rw [B9,h1,if_pos rfl,h2,ob,e]
  rw [Fl]
  by_cases hb:10 * m+(c.toNat - 48) > 1048576
  ·rw [if_pos (decide_eq_true (by omega)),D11 (by have:=E1h r (10 * m+(c.toNat - 48)); omega)]
  ·rw [if_neg (by simp; omega),w1 (by omega)]
   exact ihr (k+1) _ h3 (by omega) ha.2
theorem N15 (s:Str)(hs:s.length≤BB)(hall:(v:Int)→B9 s 0 0=some v→True):∀ (r:Str) (k:Nat),s.drop k=r→Fd s k=if r.all (fun c=>Q4 c.toNat) then B9 s 0 0 else some 6
 | [],k,h=>by rw [Fd,(C3 h).1,if_neg (by simp)]; rfl
 | c::r,k,h=>by
  obtain ⟨h1,h2,h3,h4,_⟩:=V3 h
  rw [Fd,h1,if_pos rfl,h2,ob,Jr,ob]
  cases hd:Q4 c.toNat with
  | false=>simp [hd]
  | true=>simp only [Bool.not_true,Bool.false_eq_true,if_false,w1 (show k≤BB by omega),N15 s hs hall r (k+1) h3,List.all_cons,hd,Bool.true_and]
theorem Q18 (s:Str)(hs:s.length≤BB)(hne:s≠[]):To s=some (Ym s):=by
 unfold To Ym
 have h0:idx s 0=some (s.getD 0 0):=getD_some (List.length_pos_iff.2 hne)
 have hr:=N15 s hs (fun _ _=>trivial) s 0 rfl
 rw [h0,show (0:Int)=((0:Nat):Int) from rfl,hr]
 unfold Rl
 cases hl:decide ((s.length:Int) > 1) with
 | false=>
  simp only [Bool.false_eq_true,if_false,ob,cond_false,Bool.false_and,Bool.not_false,Bool.and_true]
  cases ha:s.all (fun c=>Q4 c.toNat) with
  | false=>rfl
  | true=>exact M15 s hs s 0 0 rfl (by omega) ha
 | true=>
  simp only [if_true,ob,cond_true,Bool.true_and]
  cases hz:((s.getD 0 0).toNat:Int) == 48 with
  | true=>simp
  | false=>
   simp only [Bool.false_eq_true,if_false,Bool.not_false,Bool.and_true]
   cases ha:s.all (fun c=>Q4 c.toNat) with
   | false=>rfl
   | true=>exact M15 s hs s 0 0 rfl (by omega) ha
def Ug (s:List UInt8):Bool:=s == [46,46]||s == [61,61]||s == [33,61]||s == [60,61]||s == [62,61]||s == [38,38]||s == [124,124]
def C1c:List UInt8:=[59,58,44,46,61,43,45,42,47,37,60,62,33,63,40,41,91,93,123,125]
def Mi (c:UInt8):Bool:=C1c.contains c
theorem N19 (a b:UInt8):Fc [a,b]=some (Ug [a,b]):=by
 unfold Fc H7 Ug
 cases ([a,b] == [46,46]:Bool) <;> cases ([a,b] == [61,61]:Bool) <;> cases ([a,b] == [33,61]:Bool) <;> cases ([a,b] == [60,61]:Bool) <;> cases ([a,b] == [62,61]:Bool) <;> cases ([a,b] == [38,38]:Bool) <;> cases ([a,b] == [124,124]:Bool) <;> simp
set_option maxRecDepth 100000 in
theorem O19:∀ a:UInt8,Fc [a]=some (Mi a):=by
 have:∀ n:Fin 256,Fc [UInt8.ofNat n.val]=some (Mi (UInt8.ofNat n.val)):=by decide
 intro a
 have h:=this ⟨a.toNat,a.toNat_lt⟩
 simpa using h
end Go.Proofs.YtmnhfbekncjnfaaGreatDoor

namespace Go.Proofs.YtmnhfbekncjnfaaGreatDoor
open Go.Am
theorem L1e (c:UInt8):∀ l:List UInt8,0≤Lib.indexByte l c ↔ l.contains c=true
 | []=>by simp [Lib.indexByte]
 | b::l=>by
  have ih:=L1e c l
  have hg:=Lib.indexByte_ge l c
  by_cases hb:b=c
  ·subst hb
   simp [Lib.indexByte]
  ·have h1:(b == c)=false:=beq_eq_false_iff_ne.2 hb
   have h2:(c == b)=false:=beq_eq_false_iff_ne.2 fun e=>hb e.symm
   unfold Lib.indexByte
   rw [h1,List.contains_cons,h2,Bool.false_or,← ih,if_neg (by simp)]
   by_cases h:Lib.indexByte l c = -1
   ·rw [if_pos (by rw [h]; rfl),h]
   ·rw [if_neg (by simpa using h)]
    omega
theorem O1k (c:UInt8)(l:List UInt8):decide (Lib.indexByte l c≥0)=l.contains c:=by
 rw [Bool.eq_iff_iff,decide_eq_true_iff]
 exact L1e c l
theorem Ni {s r:List UInt8}{k n:Nat}(h:s.drop k=r)(hk:k≤s.length)(hn:n≤r.length):slc s (k:Int) ((k+n:Nat):Int)=some (r.take n):=by
 have hl:r.length=s.length - k:=by rw [← h,List.length_drop]
 unfold slc
 rw [if_pos ⟨by omega,by omega,by omega⟩,← h]
 simp only [Int.toNat_natCast]
 rw [List.drop_take]
 congr 2
 congr 1
 omega
theorem Y12 (c:UInt8)(r:Str):Q9 (c::r)=some (if Mi c then [c] else []):=by
 unfold Q9
 have h0:idx (c::r) 0=some c:=rfl
 rw [h0,ob]
 have hb:=O1k c C1c
 unfold Ll
 rw [ob]
 have e:((c.toNat:Int).toNat.toUInt8)=c:=by simp
 rw [e]
 unfold C1c at hb
 rw [hb]
 unfold Mi C1c
 have h1:slc (c::r) 0 1=some [c]:=by
  have:=Ni (s:=c::r) (k:=0) (n:=1) rfl (by omega) (by simp)
  simpa using this
 rw [h1]
 split <;> rfl
theorem O1g (c:UInt8):Mb [c]=some (if Mi c then [c] else []):=by
 unfold Mb
 rw [if_neg (by simp)]
 exact Y12 c []
theorem P1g (a b:UInt8)(r:Str):Mb (a::b::r)=some (if Ug [a,b] then [a,b] else if Mi a then [a] else []):=by
 unfold Mb
 have h2:slc (a::b::r) 0 2=some [a,b]:=by
  have:=Ni (s:=a::b::r) (k:=0) (n:=2) rfl (by omega) (by simp)
  simpa using this
 rw [if_pos (decide_eq_true (by simp only [List.length_cons]; omega)),h2,ob]
 unfold S4 Ug
 rw [h2,Y12]
 cases ([a,b] == [46,46]:Bool) <;> cases ([a,b] == [61,61]:Bool) <;> cases ([a,b] == [33,61]:Bool) <;> cases ([a,b] == [60,61]:Bool) <;> cases ([a,b] == [62,61]:Bool) <;> cases ([a,b] == [38,38]:Bool) <;> cases ([a,b] == [124,124]:Bool) <;> simp [ob]
def nxt (r:List UInt8)(k:Int):F0×Int:=
 if X4 (r.getD 0 0).toNat then
  if Yh (r.take (E4 r)) then (F0.mk 2 (r.take (E4 r)) k,0)
  else if decide (((r.take (E4 r)).length:Int) > 12) then (F0.mk 0 (r.take (E4 r)) k,7)
  else (F0.mk 0 (r.take (E4 r)) k,0)
 else if Q4 (r.getD 0 0).toNat then (F0.mk 1 (r.take (E4 r)) k,Ym (r.take (E4 r)))
 else if decide (2≤r.length)&&Ug (r.take 2) then (F0.mk 3 (r.take 2) k,0)
 else if Mi (r.getD 0 0) then (F0.mk 3 [r.getD 0 0] k,0)
 else (F0.mk 3 [] k,6)
theorem Lu {c:UInt8}{t:List UInt8}(h:ld c=true):1≤E4 (c::t):=by simp [E4,h]
theorem H1i (s:Str)(hs8:s.length≤8192){c:UInt8}{t:Str}{k:Nat}(h:s.drop k=c::t):Dd s k=some (nxt (c::t) k):=by
 have hs:s.length≤BB:=by unfold BB; omega
 obtain ⟨h1,h2,h3,h4,_⟩:=V3 h
 have hle:=Ws (c::t)
 have hlen:(c::t).length=s.length - k:=by rw [← h,List.length_drop]
 have hrun:Bh s k=some ((k+E4 (c::t):Nat):Int):=P18 s hs _ k h
 have hslc:=Ni h (by omega) hle
 have ht8:((c::t).take (E4 (c::t))).length≤8192:=by rw [List.length_take]; omega
 have htl:((c::t).take (E4 (c::t))).length≤BB:=by unfold BB; omega
 unfold Dd nxt
 rw [h2,ob,Ir,ob,hrun]
 simp only [List.getD_cons_zero]
 cases hl:X4 c.toNat with
 | true=>
  simp only [if_true,ob,hslc]
  rw [show W6 ((c::t).take (E4 (c::t)))=some (Yh ((c::t).take (E4 (c::t)))) from Wz _ (by omega),ob]
  cases Yh ((c::t).take (E4 (c::t))) with
  | true=>rfl
  | false=>
   cases decide ((((c::t).take (E4 (c::t))).length:Int) > 12) <;> rfl
 | false=>
  simp only [Bool.false_eq_true,if_false,Ao,ob]
  cases hd:Q4 c.toNat with
  | true=>
   simp only [if_true,ob,hslc]
   have hld:ld c=true:=by unfold ld; rw [hl,hd]; rfl
   have hp:=Lu (t:=t) hld
   rw [B1c _ htl (by intro he; have:=congrArg List.length he; rw [List.length_take] at this; simp at this; omega)]
   rfl
  | false=>
   simp only [Bool.false_eq_true,if_false]
   have hsl:slc s (k:Int) ((s.length:Nat):Int)=some (c::t):=by
    have:=Ni (n:=(c::t).length) h (by omega) (Nat.le_refl _)
    rw [List.take_length] at this
    rw [← this,hlen]
    congr 1; omega
   rw [hsl,ob]
   cases t with
   | nil=>
    rw [O1g,ob]
    cases Mi c <;> rfl
   | cons b t=>
    rw [P1g,ob]
    cases hz:Ug [c,b] with
    | true=>simp [hz]
    | false=>cases hy:Mi c <;> simp [hz,hy]
def R18 (x:F0×Int):F0×Int:=if x.2=0 then x else (F0.mk 0 [] 0,x.2)
theorem D1c (w:List UInt8):Ym w=0∨Ym w=3∨Ym w=6:=by
 unfold Ym A14
 split
 ·split <;> simp
 ·simp
theorem Q1g (s:Str)(hs8:s.length≤8192){c:UInt8}{t:Str}{k:Nat}(h:s.drop k=c::t):Vq s k=some (R18 (nxt (c::t) k)):=by
 have hs:s.length≤BB:=by unfold BB; omega
 obtain ⟨h1,h2,h3,h4,_⟩:=V3 h
 have hle:=Ws (c::t)
 have hlen:(c::t).length=s.length - k:=by rw [← h,List.length_drop]
 have hrun:Fh s k=some ((k+E4 (c::t):Nat):Int):=X13 s hs _ k h
 have hslc:=Ni h (by omega) hle
 have ht8:((c::t).take (E4 (c::t))).length≤8192:=by rw [List.length_take]; omega
 have htl:((c::t).take (E4 (c::t))).length≤BB:=by unfold BB; omega
 have hne:ld c=true→(c::t).take (E4 (c::t))≠[]:=fun hld he=>by
  have hp:=Lu (t:=t) hld
  have:=congrArg List.length he
  rw [List.length_take] at this
  simp at this
  omega
 unfold Vq nxt
 rw [hrun,ob,h2,ob,Wj,ob]
 simp only [List.getD_cons_zero]
 cases hl:X4 c.toNat with
 | true=>
  have hld:ld c=true:=by unfold ld; rw [hl]; rfl
  simp only [if_true,ob,hslc]
  rw [Xs _ (by omega),G1i (hne hld) (K15 _),ob]
  cases Yh ((c::t).take (E4 (c::t))) with
  | true=>rfl
  | false=>cases decide ((((c::t).take (E4 (c::t))).length:Int) > 12) <;> rfl
 | false=>
  simp only [Bool.false_eq_true,if_false,Jr,ob]
  cases hd:Q4 c.toNat with
  | true=>
   have hld:ld c=true:=by unfold ld; rw [hl,hd]; rfl
   simp only [if_true,ob,hslc]
   rw [Q18 _ htl (hne hld),ob]
   unfold R18
   rcases D1c ((c::t).take (E4 (c::t))) with hn | hn | hn <;> rw [hn] <;> rfl
  | false=>
   simp only [Bool.false_eq_true,if_false]
   rw [wr (n:=(k:Int)+2) (by omega) (by omega),wr (n:=(k:Int)+1) (by omega) (by omega)]
   have hs1:slc s (k:Int) ((k:Int)+1)=some [c]:=by
    have:=Ni (n:=1) h (by omega) (by simp)
    simpa using this
   have fin:(slc s (k:Int) ((k:Int)+1)>>=fun x14=>Fc x14>>=fun x15=>if x15=true then slc s (k:Int) ((k:Int)+1)>>=fun x16=>some ((F0.mk 3 x16 (k:Int)),(0:Int)) else some ((F0.mk 0 [] 0),6))=some (R18 (if Mi c then (F0.mk 3 [c] (k:Int),0) else (F0.mk 3 [] (k:Int),6))):=by
    rw [hs1,ob,O19,ob]
    cases Mi c <;> rfl
   cases t with
   | nil=>
    simp only [List.length_cons,List.length_nil] at hlen
    have:decide ((k:Int)+2≤(s.length:Int))=false:=decide_eq_false (by omega)
    rw [this]
    simp only [Bool.false_eq_true,if_false,ob,cond_false]
    exact fin
   | cons b t=>
    simp only [List.length_cons] at hlen
    have:decide ((k:Int)+2≤(s.length:Int))=true:=decide_eq_true (by omega)
    have hs2:slc s (k:Int) ((k:Int)+2)=some [c,b]:=by
     have:=Ni (n:=2) h (by omega) (by simp)
     simpa using this
    rw [this]
    simp only [if_true,hs2,ob,N19,cond_true]
    cases hz:Ug [c,b] with
    | true=>simp [R18,hz]
    | false=>
     simp only [Bool.false_eq_true,if_false]
     rw [fin]
     simp [hz]
def Ad:Nat→List UInt8→Nat→List F0×Int×Int
 | 0,_,_=>([],0,0)
 | n+1,r,k=>
  match r.drop (skp false r) with
  | []=>([],0,0)
  | c::t=>
   let x:=nxt (c::t) ((k+skp false r:Nat):Int)
   if x.2=0 then
    let z:=Ad n ((c::t).drop x.1.Text.length) (k+skp false r+x.1.Text.length)
    if z.2.2=0 then (x.1::z.1,0,0) else z
   else ([],((k+skp false r:Nat):Int),x.2)
theorem Zf {c:UInt8}{t:List UInt8}{k:Int}(h:(nxt (c::t) k).2=0):1≤(nxt (c::t) k).1.Text.length∧(nxt (c::t) k).1.Text.length≤(c::t).length∧(nxt (c::t) k).1.At=k∧(c::t).take (nxt (c::t) k).1.Text.length=(nxt (c::t) k).1.Text:=by
 have hle:=Ws (c::t)
 have key:∀ {n:Nat},1≤n→n≤(c::t).length→1≤((c::t).take n).length∧((c::t).take n).length≤(c::t).length∧(c::t).take ((c::t).take n).length=(c::t).take n:=fun h1 h2=>by
  rw [List.length_take,Nat.min_eq_left h2]; exact ⟨h1,h2,rfl⟩
 revert h
 unfold nxt
 simp only [List.getD_cons_zero]
 cases hl:X4 c.toNat with
 | true=>
  have hld:ld c=true:=by unfold ld; rw [hl]; rfl
  obtain ⟨a1,a2,a3⟩:=key (Lu (t:=t) hld) hle
  simp only [if_true]
  split
  ·exact fun _=>⟨a1,a2,rfl,a3⟩
  ·split
   ·intro h; cases h
   ·exact fun _=>⟨a1,a2,rfl,a3⟩
 | false=>
  simp only [Bool.false_eq_true,if_false]
  cases hd:Q4 c.toNat with
  | true=>
   have hld:ld c=true:=by unfold ld; rw [hl,hd]; rfl
   obtain ⟨a1,a2,a3⟩:=key (Lu (t:=t) hld) hle
   exact fun _=>⟨a1,a2,rfl,a3⟩
  | false=>
   simp only [Bool.false_eq_true,if_false]
   split
   ·rename_i h2
    rw [Bool.and_eq_true] at h2
    obtain ⟨a1,a2,a3⟩:=key (n:=2) (by omega) (of_decide_eq_true h2.1)
    exact fun _=>⟨a1,a2,rfl,a3⟩
   ·split
    ·exact fun _=>⟨by simp,by simp,rfl,by simp⟩
    ·intro h; cases h
def Pq (s:Str)(out:List F0)(k:Nat):Option (List F0×Int×Int):=
 if k < s.length then
  Dd s k>>=fun x2=>
  if (x2.2 != 0)=true then some ([],(k:Int),x2.2)
  else if (decide ((out.length+1) * 33≤140737488355328))=true then B3 s (out++[x2.1]) (IntKind.i64.wrap ((k:Int)+((x2.1.Text).length:Int)))
  else none
 else some (out,0,0)
theorem M1e (s:Str)(hs:s.length≤BB)(out:List F0):∀ (r:Str) (k:Nat),s.drop k=r→B3 s out k=Pq s out (k+skp false r)∧V7 s out k=Pq s out (k+skp true r)
 | [],k,h=>by
  obtain ⟨h1,h2⟩:=C3 h
  have e1:B3 s out k=Pq s out (k+skp false []):=by
   rw [B3,h1,if_neg (by simp)]
   unfold Pq
   rw [if_neg (by simp [skp]; omega)]
  refine ⟨e1,?_⟩
  rw [V7,h1]
  simpa [ob,skp] using e1
 | c::r,k,h=>by
  obtain ⟨h1,h2,h3,h4,_⟩:=V3 h
  obtain ⟨i1,i2⟩:=M1e s hs out r (k+1) h3
  have e2:((c.toNat:Int) == 10)=false→V7 s out k=Pq s out (k+skp true (c::r)):=fun hc=>by
   rw [V7,h1,if_pos rfl,h2,ob]
   have:((c.toNat:Int) != 10)=true:=by simp only [bne,hc]; rfl
   rw [this,cond_true,if_pos rfl,w1 (by omega),i2]
   simp only [skp,hc]
   congr 1
   simp; omega
  have e1:B3 s out k=Pq s out (k+skp false (c::r)):=by
   have hj:B3 s out k=Pa s out k c ((c.toNat:Int) == 32||((c.toNat:Int) == 9||(c.toNat:Int) == 10)):=by
    rw [B3,h1,if_pos rfl,h2,ob]
    cases h32:(c.toNat:Int) == 32 with
    | true=>rfl
    | false=>cases h9:(c.toNat:Int) == 9 <;> simp
   rw [hj,Pa]
   cases hb:((c.toNat:Int) == 32||((c.toNat:Int) == 9||(c.toNat:Int) == 10)) with
   | true=>
    have h35:((c.toNat:Int) == 35)=false:=by
     cases hx:(c.toNat:Int) == 35 with
     | false=>rfl
     | true=>rw [eq_of_beq hx] at hb; cases hb
    rw [if_pos rfl,w1 (by omega),i1]
    simp only [skp,h35,hb]
    congr 1
    simp; omega
   | false=>
    rw [if_neg (by simp)]
    cases h35:(c.toNat:Int) == 35 with
    | true=>
     rw [if_pos rfl,e2 (by have:=eq_of_beq h35; rw [this]; rfl)]
     have h10:((c.toNat:Int) == 10)=false:=by have:=eq_of_beq h35; rw [this]; rfl
     simp [skp,h35,h10]
    | false=>
     rw [if_neg (by simp)]
     simp only [skp,h35,hb]
     unfold Pq
     rw [if_pos (by simpa using h4)]
     rfl
  refine ⟨e1,?_⟩
  cases h10:(c.toNat:Int) == 10 with
  | false=>exact e2 h10
  | true=>
   rw [V7,h1,if_pos rfl,h2,ob]
   have:((c.toNat:Int) != 10)=false:=by simp only [bne,h10]; rfl
   rw [this,cond_true,if_neg (by simp),e1]
   have h35:((c.toNat:Int) == 35)=false:=by have:=eq_of_beq h10; rw [this]; rfl
   simp [skp,h10,h35]
theorem I1i:∀ (n:Nat) (r:List UInt8) (k:Nat),(Ad n r k).2.2=0→(Ad n r k).2=(0,0)
 | 0,_,_,_=>rfl
 | n+1,r,k,h=>by
  revert h
  unfold Ad
  split
  ·exact fun _=>rfl
  ·rename_i c t _
   simp only
   split
   ·split
    ·exact fun _=>rfl
    ·rename_i hz
     exact fun h=>absurd h hz
   ·rename_i hx
    exact fun h=>absurd h hx
def Gl (out:List F0)(z:List F0×Int×Int):List F0×Int×Int:=if z.2.2=0 then (out++z.1,0,0) else z
theorem G1a (s:Str)(hs8:s.length≤8192):∀ (n k:Nat) (out:List F0),s.length - k < n→k≤s.length→out.length≤k→
  B3 s out k=some (Gl out (Ad n (s.drop k) k))∧(Ml s k>>=fun a=>Nj s out a)=some (Gl out (Ad n (s.drop k) k))
 | 0,k,out,h,_,_=>by omega
 | n+1,k,out,h,hk,ho=>by
  have hs:s.length≤BB:=by unfold BB; omega
  have hb:=Dy false (s.drop k)
  rw [List.length_drop] at hb
  rw [(M1e s hs out _ k rfl).1,M1g s hs k,ob]
  generalize hj:k+skp false (s.drop k)=j at *
  have hdj:(s.drop k).drop (skp false (s.drop k))=s.drop j:=by rw [List.drop_drop,hj]
  unfold Pq
  rw [Nj]
  unfold Ad
  rw [hdj,hj]
  cases hd:s.drop j with
  | nil=>
   obtain ⟨h1,h2⟩:=C3 hd
   rw [h1,if_neg (by omega),if_neg (by simp)]
   unfold Gl
   simp
  | cons c t=>
   obtain ⟨h1,h2,h3,h4,_⟩:=V3 hd
   rw [h1,if_pos h4,if_pos rfl,H1i s hs8 hd,Q1g s hs8 hd,ob,ob]
   simp only
   unfold R18
   by_cases hx:(nxt (c::t) (j:Int)).2=0
   ·obtain ⟨b1,b2,b3,b4⟩:=Zf hx
    have hlen:(c::t).length=s.length - j:=by rw [← hd,List.length_drop]
    rw [if_pos hx,if_pos hx]
    have hne:((nxt (c::t) (j:Int)).2 != 0)=false:=by rw [hx]; rfl
    have hroom:decide ((out.length+1) * 33≤140737488355328)=true:=decide_eq_true (by omega)
    simp only [hne,hroom,Bool.false_eq_true,if_false,if_true]
    generalize hxx:nxt (c::t) (j:Int)=x at *
    rw [wr (by omega) (by omega),show (j:Int)+((x.1.Text).length:Int)=((j+x.1.Text.length:Nat):Int) from rfl]
    have hdd:(c::t).drop x.1.Text.length=s.drop (j+x.1.Text.length):=by rw [← hd,List.drop_drop]
    rw [hdd]
    obtain ⟨i1,i2⟩:=G1a s hs8 n (j+x.1.Text.length) (out++[x.1]) (by omega) (by omega) (by rw [List.length_append]; have:[x.1].length=1:=rfl; omega)
    rw [i1,i2]
    generalize Ad n (s.drop (j+x.1.Text.length)) (j+x.1.Text.length)=z
    unfold Gl
    by_cases hz:z.2.2=0
    ·rw [if_pos hz,if_pos hz,if_pos rfl,List.append_assoc]
     exact ⟨rfl,rfl⟩
    ·rw [if_neg hz,if_neg hz,if_neg hz]
     exact ⟨rfl,rfl⟩
   ·have hne:((nxt (c::t) (j:Int)).2 != 0)=true:=by simpa using hx
    have hne2:((F0.mk 0 [] 0,(nxt (c::t) (j:Int)).2):F0×Int).2=(nxt (c::t) (j:Int)).2:=rfl
    rw [if_neg hx,if_neg hx,hne,if_pos rfl]
    unfold Gl
    simp [hx]
def W5 (s:Str):List F0×Int×Int:=if s.length > 8192 then ([],0,5) else Ad (s.length+1) s 0
theorem Z12 (s:Str):Ye s=some (W5 s)∧Jq s=some (W5 s):=by
 unfold Ye Jq W5
 by_cases h:s.length > 8192
 ·rw [if_pos h]; simp [h]; omega
 ·have h1:decide ((s.length:Int) > 8192)=false:=decide_eq_false (by omega)
  obtain ⟨i1,i2⟩:=G1a s (by omega) (s.length+1) 0 [] (by omega) (by omega) (by simp)
  rw [h1,if_neg (by simp),if_neg h,if_neg (by simp)]
  have hw:Gl [] (Ad (s.length+1) s 0)=Ad (s.length+1) s 0:=by
   unfold Gl
   split
   ·rename_i hz
    have:=I1i _ _ _ hz
    rw [List.nil_append,← this]
   ·rfl
  rw [List.drop_zero,hw] at i1 i2
  exact ⟨i1,i2⟩
end Go.Proofs.YtmnhfbekncjnfaaGreatDoor

namespace Go.Proofs.YtmnhfbekncjnfaaGreatDoor
open Go.Am
abbrev mk (l:List F0)(k:Nat)(e:Int):B0:=B0.mk l (k:Int) e
theorem Hl {α:Type}(l:List α)(k:Nat):idx l (k:Int)=l[k]?:=by
 unfold idx
 rw [if_pos (by omega)]
 simp
theorem Ve {α:Type}{l:List α}{k:Nat}{x:α}(h:l[k]?=some x):k < l.length:=(List.getElem?_eq_some_iff.1 h).1
theorem H1a {α:Type}{l:List α}{k:Nat}(h:l[k]?=none):l.length≤k:=List.getElem?_eq_none_iff.1 h
theorem dlt {α:Type}{l:List α}{k:Nat}{x:α}(h:l[k]?=some x):decide ((k:Int) < (l.length:Int))=true:=by have:=Ve h; exact decide_eq_true (by omega)
theorem S18 {α:Type}{l:List α}{k:Nat}(h:l[k]?=none):decide ((k:Int) < (l.length:Int))=false:=by have:=H1a h; exact decide_eq_false (by omega)
theorem dge {α:Type}{l:List α}{k:Nat}{x:α}(h:l[k]?=some x):decide ((k:Int)≥(l.length:Int))=false:=by have:=Ve h; exact decide_eq_false (by omega)
theorem E1c {α:Type}{l:List α}{k:Nat}(h:l[k]?=none):decide ((k:Int)≥(l.length:Int))=true:=by have:=H1a h; exact decide_eq_true (by omega)
def isT (l:List F0)(k:Nat)(t:Str):Bool:=match l[k]? with
 | some x=>x.Text == t&&(x.Kind == 2||x.Kind == 3)
 | none=>false
def Y4 (l:List F0)(k:Nat)(c:Int):Bool:=match l[k]? with
 | some x=>x.Kind == c
 | none=>false
def txt (l:List F0)(k:Nat):Str:=match l[k]? with
 | some x=>x.Text
 | none=>[]
def off (l:List F0)(e:Int)(k:Nat):Int:=match l[k]? with
 | some x=>x.At
 | none=>e
def step (b:Bool)(k:Nat):Nat:=bif b then k+1 else k
theorem Jb (k:Nat):step true k=k+1:=rfl
theorem Z7 (k:Nat):step false k=k:=rfl
theorem A4 {l:List F0}{k:Nat}{t:Str}(h:isT l k t=true):k < l.length:=by
 unfold isT at h
 split at h
 ·rename_i hx; exact Ve hx
 ·cases h
theorem Od {l:List F0}{k:Nat}{c:Int}(h:Y4 l k c=true):k < l.length:=by
 unfold Y4 at h
 split at h
 ·rename_i hx; exact Ve hx
 ·cases h
theorem Ag {l:List F0}{k:Nat}{t:Str}(h:isT l k t=true):Y4 l k 0=false∧Y4 l k 1=false∧txt l k=t:=by
 unfold isT at h
 unfold Y4 txt
 split at h
 ·rename_i x hx
  rw [Bool.and_eq_true] at h
  have ht:=eq_of_beq h.1
  rw [Bool.or_eq_true] at h
  rcases h.2 with h2 | h2 <;> rw [eq_of_beq h2] <;> exact ⟨rfl,rfl,ht⟩
 ·cases h
theorem N1e {l:List F0}{k:Nat}(h:Y4 l k 0=true)(t:Str):isT l k t=false:=by
 cases h':isT l k t with
 | false=>rfl
 | true=>rw [(Ag h').1] at h; cases h
section
set_option linter.unusedSectionVars false
variable (l:List F0)(e:Int)(hl:l.length≤BB)
include hl
theorem H1l (k:Nat)(t:Str):H6 t (mk l k e)=some (isT l k t):=by
 unfold H6 isT
 simp only
 cases h:l[k]? with
 | none=>rw [E1c h,if_pos rfl]
 | some x=>
  rw [dge h,if_neg (by simp),Hl,h,ob]
  show some _=some (x.Text == t&&(x.Kind == 2||x.Kind == 3))
  cases x.Text == t <;> cases x.Kind == 2 <;> rfl
theorem B4 (k:Nat)(t:Str):L0 t (mk l k e)=some (isT l k t,mk l (step (isT l k t) k) e):=by
 unfold L0
 rw [H1l l e hl,ob]
 cases h:isT l k t with
 | false=>rfl
 | true=>
  have:=A4 h
  simp only [Bool.not_true,Bool.false_eq_true,if_false]
  rw [w1 (by omega)]
  rfl
theorem R1g (k:Nat):I4 (mk l k e)=some (Y4 l k 0):=by
 unfold I4 Y4
 simp only
 cases h:l[k]? with
 | none=>rw [S18 h,if_neg (by simp),ob]; rfl
 | some x=>rw [dlt h,if_pos rfl,Hl,h,ob]; rfl
theorem Ey (k:Nat):Q3 (mk l k e)=some (.pn (off l e k)):=by
 unfold Q3 off
 simp only
 cases h:l[k]? with
 | none=>rw [S18 h,if_neg (by simp)]
 | some x=>rw [dlt h,if_pos rfl,Hl,h,ob]
theorem O1e (k:Nat)(c:Int):A5 c (mk l k e)=if Y4 l k c=true then some (.ok (txt l k,mk l (k+1) e)) else some (.pn (off l e k)):=by
 unfold A5
 rw [Ey l e hl,ob]
 unfold Y4 txt
 simp only
 cases h:l[k]? with
 | none=>rw [E1c h,Bool.not_true,if_neg (by simp),ob,cond_true,if_pos rfl,if_neg (by simp)]
 | some x=>
  have:=Ve h
  rw [dge h,Bool.not_false,if_pos rfl,Hl,h,ob,cond_false]
  cases hk:x.Kind == c with
  | false=>simp only [bne,hk,Bool.not_false,if_true,Bool.false_eq_true,if_false]
  | true=>
   simp only [bne,hk,Bool.not_true,Bool.false_eq_true,if_false,if_true]
   unfold T4
   simp only
   rw [w1 (by omega),wr (n:=((k+1:Nat):Int) - 1) (by omega) (by unfold BB at *; omega),show ((k+1:Nat):Int) - 1=(k:Int) by omega,Hl,h,ob]
theorem A13 (k:Nat):U2 (mk l k e)=if Y4 l k 0=true then some (.ok (txt l k,mk l (k+1) e)) else some (.pn (off l e k)):=by
 unfold U2
 rw [O1e l e hl]
 cases Y4 l k 0 <;> rfl
theorem We (k:Nat)(t:Str):R0 t (mk l k e)=if isT l k t=true then some (.ok (mk l (k+1) e)) else some (.pn (off l e k)):=by
 unfold R0
 rw [B4 l e hl,ob]
 cases h:isT l k t with
 | true=>rfl
 | false=>
  simp only [Bool.not_false,if_true,step,cond_false,Bool.false_eq_true,if_false]
  rw [Ey l e hl,ob]
theorem Y1 (k:Nat)(t:Str):C1 l k t=some (isT l k t):=by
 unfold C1 isT
 cases h:l[k]? with
 | none=>rw [S18 h]; rfl
 | some x=>
  rw [dlt h,Hl,h]
  simp only [if_true,ob,Bool.true_and,cond_true]
  by_cases h2:x.Kind=2 <;> by_cases h3:x.Kind=3 <;> by_cases ht:x.Text=t <;> first | (simp [ob,h2,h3,ht]; done) | (simp [ob,h2,h3,ht]; rw [beq_eq_false_iff_ne.2 h2,beq_eq_false_iff_ne.2 h3]; simp)
theorem Yj (k:Nat):Ma l k=if Y4 l k 0=true then some (txt l k,((k+1:Nat):Int),true) else some ([],(k:Int),false):=by
 unfold Ma Y4 txt
 cases h:l[k]? with
 | none=>rw [S18 h]; rfl
 | some x=>
  have:=Ve h
  rw [dlt h,Hl,h,if_pos rfl,ob,cond_true,w1 (by omega)]
  show _=if (x.Kind == 0)=true then some (x.Text,((k+1:Nat):Int),true) else some ([],(k:Int),false)
  cases h2:x.Kind == 0 <;> rfl
end
end Go.Proofs.YtmnhfbekncjnfaaGreatDoor

namespace Go.Proofs.YtmnhfbekncjnfaaGreatDoor
open Go.Am
structure Tok (x:F0):Prop where
 len:x.Text.length≤8192
 word:x.Kind=2→∃ c t,x.Text=c::t∧X4 c.toNat=true
 num:x.Kind=1→x.Text≠[]∧x.Text.all (fun c=>Q4 c.toNat)=true∧x.Text.length≤7∧nv 0 x.Text≤1048576
def Ta (l:List F0):Prop:=l.length≤BB∧∀ x∈l,Tok x
theorem Xy {l:List F0}(h:Ta l)(k:Nat):(txt l k).length≤8192:=by
 unfold txt
 cases hx:l[k]? with
 | none=>simp
 | some x=>exact (h.2 x (List.mem_of_getElem? hx)).len
def isS (l:List F0)(k:Nat)(t:Str):Bool:=match l[k]? with
 | some x=>x.Kind == 3&&x.Text == t
 | none=>false
def F1h (t:Str):Bool:=match t with
 | c::_=>!X4 c.toNat
 | []=>true
theorem Xb {l:List F0}(h:Ta l){k:Nat}{t:Str}(ht:F1h t=true):isT l k t=isS l k t:=by
 unfold isT isS
 cases hx:l[k]? with
 | none=>rfl
 | some x=>
  simp only
  by_cases h2:x.Kind=2
  ·obtain ⟨c,r,e,hc⟩:=(h.2 x (List.mem_of_getElem? hx)).word h2
   have:(x.Text == t)=false:=beq_eq_false_iff_ne.2 fun he=>by
    rw [← he,e] at ht
    simp [F1h,hc] at ht
   rw [this,h2]
   rfl
  ·rw [beq_eq_false_iff_ne.2 h2,Bool.false_or,Bool.and_comm]
def opT (t:Str):Int×Int:=
 if t == [124,124] then (20,1) else if t == [38,38] then (19,2) else if t == [61,61] then (13,3) else if t == [33,61] then (14,3) else if t == [60] then (15,3) else if t == [60,61] then (16,3)
 else if t == [62] then (17,3) else if t == [62,61] then (18,3) else if t == [43] then (8,4) else if t == [45] then (9,4) else if t == [42] then (10,5) else if t == [47] then (11,5) else if t == [37] then (12,5) else (0,0)
def ops:List Str:=[[124,124],[38,38],[61,61],[33,61],[60],[60,61],[62],[62,61],[43],[45],[42],[47],[37]]
theorem Zj (t:Str):t∈ops∨∀ s∈ops,(t == s)=false:=by
 by_cases h:t∈ops
 ·exact .inl h
 ·exact .inr fun s hs=>beq_eq_false_iff_ne.2 fun e=>h (e ▸ hs)
theorem Bg (l:List F0)(k:Nat)(n:Int):W3 l k n=some (match l[k]? with
  | some x=>if x.Kind == 3 then ((opT x.Text).1,(opT x.Text).2 == n) else (0,false)
  | none=>(0,false)):=by
 unfold W3
 cases h:l[k]? with
 | none=>rw [E1c h,Bool.not_true,if_neg (by simp),ob,cond_true,if_pos rfl]
 | some x=>
  rw [dge h,Bool.not_false,if_pos rfl,Hl,h,ob,cond_false]
  cases h3:x.Kind == 3 with
  | false=>simp only [bne,h3,Bool.not_false,if_true,Bool.false_eq_true,if_false]
  | true=>
   simp only [bne,h3,Bool.not_true,Bool.false_eq_true,if_false,if_true,ob]
   unfold opT
   generalize (x.Text == [124,124])=b0
   generalize (x.Text == [38,38])=b1
   generalize (x.Text == [61,61])=b2
   generalize (x.Text == [33,61])=b3
   generalize (x.Text == [60])=b4
   generalize (x.Text == [60,61])=b5
   generalize (x.Text == [62])=b6
   generalize (x.Text == [62,61])=b7
   generalize (x.Text == [43])=b8
   generalize (x.Text == [45])=b9
   generalize (x.Text == [42])=b10
   generalize (x.Text == [47])=b11
   generalize (x.Text == [37])=b12
   cases b0 with
   | true=>rfl
   | false=>
    cases b1 with
    | true=>rfl
    | false=>
     cases b2 with
     | true=>rfl
     | false=>
      cases b3 with
      | true=>rfl
      | false=>
       cases b4 with
       | true=>rfl
       | false=>
        cases b5 with
        | true=>rfl
        | false=>
         cases b6 with
         | true=>rfl
         | false=>
          cases b7 with
          | true=>rfl
          | false=>
           cases b8 with
           | true=>rfl
           | false=>
            cases b9 with
            | true=>rfl
            | false=>
             cases b10 with
             | true=>rfl
             | false=>
              cases b11 with
              | true=>rfl
              | false=>
               cases b12 with
               | true=>rfl
               | false=>
                rfl
theorem Qp (op:Int)(a b:A0):Xn op a b=some (A0.mk op 0 [] [a,b]):=rfl
theorem Rp {t:Str}(h:∀ s∈ops,(t == s)=false):opT t=(0,0):=by
 unfold opT
 have a:=fun s hs=>h s hs
 rw [a [124,124] (by decide),a [38,38] (by decide),a [61,61] (by decide),a [33,61] (by decide),a [60] (by decide),a [60,61] (by decide),a [62] (by decide),a [62,61] (by decide),a [43] (by decide),a [45] (by decide),a [42] (by decide),a [47] (by decide),a [37] (by decide)]
 rfl
theorem P1k (t:Str):((opT t).2 == 1)=(t == [124,124])∧(((opT t).2 == 1)=true→(opT t).1=(20:Int)):=by
 rcases Zj t with h | h
 ·simp only [ops,List.mem_cons,List.not_mem_nil,or_false] at h
  rcases h with rfl | rfl | rfl | rfl | rfl | rfl | rfl | rfl | rfl | rfl | rfl | rfl | rfl <;> decide
 ·rw [Rp h,h [124,124] (by decide)]
  decide
theorem L1j (t:Str):((opT t).2 == 2)=(t == [38,38])∧(((opT t).2 == 2)=true→(opT t).1=(19:Int)):=by
 rcases Zj t with h | h
 ·simp only [ops,List.mem_cons,List.not_mem_nil,or_false] at h
  rcases h with rfl | rfl | rfl | rfl | rfl | rfl | rfl | rfl | rfl | rfl | rfl | rfl | rfl <;> decide
 ·rw [Rp h,h [38,38] (by decide)]
  decide
theorem M1j (t:Str):((opT t).2 == 4)=(t == [43]||t == [45])∧(((opT t).2 == 4)=true→(opT t).1=(if t == [43] then 8 else 9:Int)):=by
 rcases Zj t with h | h
 ·simp only [ops,List.mem_cons,List.not_mem_nil,or_false] at h
  rcases h with rfl | rfl | rfl | rfl | rfl | rfl | rfl | rfl | rfl | rfl | rfl | rfl | rfl <;> decide
 ·rw [Rp h,h [43] (by decide),h [45] (by decide)]
  decide
theorem J1i (t:Str):((opT t).2 == 5)=(t == [42]||t == [47]||t == [37])∧(((opT t).2 == 5)=true→(opT t).1=(if t == [42] then 10 else if t == [47] then 11 else 12:Int)):=by
 rcases Zj t with h | h
 ·simp only [ops,List.mem_cons,List.not_mem_nil,or_false] at h
  rcases h with rfl | rfl | rfl | rfl | rfl | rfl | rfl | rfl | rfl | rfl | rfl | rfl | rfl <;> decide
 ·rw [Rp h,h [42] (by decide),h [47] (by decide),h [37] (by decide)]
  decide
theorem N1j (t:Str):((opT t).2 == 3)=(t == [61,61]||t == [33,61]||t == [60]||t == [60,61]||t == [62]||t == [62,61])∧(((opT t).2 == 3)=true→(opT t).1=(if t == [61,61] then 13 else if t == [33,61] then 14 else if t == [60] then 15 else if t == [60,61] then 16 else if t == [62] then 17 else 18:Int)):=by
 rcases Zj t with h | h
 ·simp only [ops,List.mem_cons,List.not_mem_nil,or_false] at h
  rcases h with rfl | rfl | rfl | rfl | rfl | rfl | rfl | rfl | rfl | rfl | rfl | rfl | rfl <;> decide
 ·rw [Rp h,h [61,61] (by decide),h [33,61] (by decide),h [60] (by decide),h [60,61] (by decide),h [62] (by decide),h [62,61] (by decide)]
  decide
theorem B13:∀ (r:List UInt8) (n:Nat),r.all (fun c=>Q4 c.toNat)=true→Lib.decFrom n r=some (nv n r)
 | [],n,_=>by rw [Zs]; rfl
 | c::r,n,h=>by
  rw [List.all_cons,Bool.and_eq_true] at h
  have hc:=Nh.1 h.1
  have hd:Lib.digitVal c=some (c.toNat - 48):=if_pos hc
  unfold Lib.decFrom
  rw [hd,Fl,Nat.mul_comm 10 n]
  exact B13 r _ h.2
theorem K1i {s:Str}(hne:s≠[])(h:s.all (fun c=>Q4 c.toNat)=true):Lib.atoi s=some (nv 0 s:Int):=by
 cases s with
 | nil=>exact absurd rfl hne
 | cons c r=>
  have hc:=Nh.1 (by rw [List.all_cons,Bool.and_eq_true] at h; exact h.1)
  have h1:(c == 45)=false:=beq_eq_false_iff_ne.2 fun e=>by rw [e] at hc; exact absurd hc.1 (by decide)
  have h2:(c == 43)=false:=beq_eq_false_iff_ne.2 fun e=>by rw [e] at hc; exact absurd hc.1 (by decide)
  unfold Lib.atoi
  simp only [h1,h2,Bool.false_eq_true,if_false]
  unfold Lib.decNat
  rw [if_neg (by simp),B13 _ 0 h]
  rfl
theorem L1i {s:Str}(hne:s≠[])(h:s.all (fun c=>Q4 c.toNat)=true)(hl:s.length≤7):Zr s=some (nv 0 s:Int):=by
 unfold Zr
 rw [if_pos (decide_eq_true (by omega)),K1i hne h]
section
set_option linter.unusedSectionVars false
variable (l:List F0)(e:Int)(hl:Ta l)
include hl
theorem Qm {k:Nat}{t:Str}(h:isS l k t=true):k < l.length:=by
 unfold isS at h
 split at h
 ·rename_i hx; exact Ve hx
 ·cases h
theorem Q1k (k:Nat):∃ o b,I6 (mk l k e)=some (20,b,mk l (step b k) e)∧W3 l k 1=some (o,b)∧(b=true→o=20∧k < l.length):=by
 unfold I6
 rw [B4 l e hl.1,Xb hl rfl,ob,Bg]
 have hlt:=Qm l hl (k:=k) (t:=[124,124])
 revert hlt
 unfold isS
 cases h:l[k]? with
 | none=>exact fun _=>⟨_,_,rfl,rfl,nofun⟩
 | some x=>
  simp only
  obtain ⟨h1,h2⟩:=P1k x.Text
  cases hk:x.Kind == 3 with
  | false=>exact fun _=>⟨_,_,rfl,rfl,nofun⟩
  | true=>
   simp only [Bool.true_and,if_true,h1]
   rw [h1] at h2
   exact fun hlt=>⟨_,_,rfl,rfl,fun hb=>⟨h2 hb,hlt hb⟩⟩
theorem O1j (k:Nat):∃ o b,N5 (mk l k e)=some (19,b,mk l (step b k) e)∧W3 l k 2=some (o,b)∧(b=true→o=19∧k < l.length):=by
 unfold N5
 rw [B4 l e hl.1,Xb hl rfl,ob,Bg]
 have hlt:=Qm l hl (k:=k) (t:=[38,38])
 revert hlt
 unfold isS
 cases h:l[k]? with
 | none=>exact fun _=>⟨_,_,rfl,rfl,nofun⟩
 | some x=>
  simp only
  obtain ⟨h1,h2⟩:=L1j x.Text
  cases hk:x.Kind == 3 with
  | false=>exact fun _=>⟨_,_,rfl,rfl,nofun⟩
  | true=>
   simp only [Bool.true_and,if_true,h1]
   rw [h1] at h2
   exact fun hlt=>⟨_,_,rfl,rfl,fun hb=>⟨h2 hb,hlt hb⟩⟩
theorem R1k (k:Nat):∃ o,W3 l k 4=some (o,(isS l k [43]||isS l k [45]))∧((isS l k [43]||isS l k [45])=true→o=(if isS l k [43] then 8 else 9:Int)):=by
 rw [Bg]
 unfold isS
 cases h:l[k]? with
 | none=>exact ⟨_,rfl,nofun⟩
 | some x=>
  simp only
  obtain ⟨h1,h2⟩:=M1j x.Text
  rcases Bool.eq_false_or_eq_true (x.Kind == 3) with hk | hk
  ·rw [h1] at h2
   simp only [hk,Bool.true_and,if_true,h1]
   exact ⟨_,rfl,h2⟩
  ·simp only [hk,Bool.false_and,Bool.or_false,Bool.false_eq_true,if_false]
   exact ⟨_,rfl,nofun⟩
theorem P1j (k:Nat):∃ o,W3 l k 5=some (o,(isS l k [42]||isS l k [47]||isS l k [37]))∧((isS l k [42]||isS l k [47]||isS l k [37])=true→o=(if isS l k [42] then 10 else if isS l k [47] then 11 else 12:Int)):=by
 rw [Bg]
 unfold isS
 cases h:l[k]? with
 | none=>exact ⟨_,rfl,nofun⟩
 | some x=>
  simp only
  obtain ⟨h1,h2⟩:=J1i x.Text
  rcases Bool.eq_false_or_eq_true (x.Kind == 3) with hk | hk
  ·rw [h1] at h2
   simp only [hk,Bool.true_and,if_true,h1]
   exact ⟨_,rfl,h2⟩
  ·simp only [hk,Bool.false_and,Bool.or_false,Bool.false_eq_true,if_false]
   exact ⟨_,rfl,nofun⟩
theorem S1k (k:Nat):∃ o,W3 l k 3=some (o,(isS l k [61,61]||isS l k [33,61]||isS l k [60]||isS l k [60,61]||isS l k [62]||isS l k [62,61]))∧((isS l k [61,61]||isS l k [33,61]||isS l k [60]||isS l k [60,61]||isS l k [62]||isS l k [62,61])=true→o=(if isS l k [61,61] then 13 else if isS l k [33,61] then 14 else if isS l k [60] then 15 else if isS l k [60,61] then 16 else if isS l k [62] then 17 else 18:Int)):=by
 rw [Bg]
 unfold isS
 cases h:l[k]? with
 | none=>exact ⟨_,rfl,nofun⟩
 | some x=>
  simp only
  obtain ⟨h1,h2⟩:=N1j x.Text
  rcases Bool.eq_false_or_eq_true (x.Kind == 3) with hk | hk
  ·rw [h1] at h2
   simp only [hk,Bool.true_and,if_true,h1]
   exact ⟨_,rfl,h2⟩
  ·simp only [hk,Bool.false_and,Bool.or_false,Bool.false_eq_true,if_false]
   exact ⟨_,rfl,nofun⟩
theorem Q1j (k:Nat):∃ o o' b,M5 (mk l k e)=some (o',b,mk l (step b k) e)∧W3 l k 4=some (o,b)∧(b=true→o=o'∧k < l.length):=by
 obtain ⟨o,h1,h2⟩:=R1k l hl k
 unfold M5
 rw [B4 l e hl.1,Xb hl rfl,ob]
 cases ha:isS l k [43] with
 | true=>rw [ha] at h1 h2; exact ⟨_,_,_,rfl,h1,fun _=>⟨h2 rfl,Qm l hl ha⟩⟩
 | false=>
  rw [ha] at h1 h2
  simp only [step,cond_false,Bool.false_eq_true,if_false]
  rw [B4 l e hl.1,Xb hl rfl,ob]
  exact ⟨_,_,isS l k [45],rfl,h1,fun hb=>⟨h2 (by rw [hb]; rfl),Qm l hl hb⟩⟩
theorem M1i (k:Nat):∃ o o' b,D4 (mk l k e)=some (o',b,mk l (step b k) e)∧W3 l k 5=some (o,b)∧(b=true→o=o'∧k < l.length):=by
 obtain ⟨o,h1,h2⟩:=P1j l hl k
 unfold D4
 rw [B4 l e hl.1,Xb hl rfl,ob]
 cases ha:isS l k [42] with
 | true=>rw [ha] at h1 h2; exact ⟨_,_,_,rfl,h1,fun _=>⟨h2 rfl,Qm l hl ha⟩⟩
 | false=>
  rw [ha] at h1 h2
  simp only [step,cond_false,Bool.false_eq_true,if_false]
  rw [B4 l e hl.1,Xb hl rfl,ob]
  cases hb:isS l k [47] with
  | true=>rw [hb] at h1 h2; exact ⟨_,_,_,rfl,h1,fun _=>⟨h2 rfl,Qm l hl hb⟩⟩
  | false=>
   rw [hb] at h1 h2
   simp only [step,cond_false,Bool.false_eq_true,if_false]
   rw [B4 l e hl.1,Xb hl rfl,ob]
   exact ⟨_,_,isS l k [37],rfl,h1,fun hc=>⟨h2 (by rw [hc]; rfl),Qm l hl hc⟩⟩
def Mu (k:Nat):Int:=(nv 0 (txt l k):Int)
theorem E11 (k:Nat):P3 (mk l k e)=if Y4 l k 1=true then some (.ok (Mu l k,mk l (k+1) e)) else some (.pn (off l e k)):=by
 unfold P3
 rw [O1e l e hl.1]
 cases h:Y4 l k 1 with
 | false=>rfl
 | true=>
  have hx:Zr (txt l k)=some (Mu l k):=by
   unfold Y4 at h
   unfold Mu txt
   cases hk:l[k]? with
   | none=>rw [hk] at h; cases h
   | some x=>
    rw [hk] at h
    obtain ⟨n1,n2,n3,_⟩:=(hl.2 x (List.mem_of_getElem? hk)).num (eq_of_beq h)
    exact L1i n1 n2 n3
  rw [if_pos rfl,ob]
  simp only [hx,ob]
  rfl
theorem T18 (x:F0)(k:Nat)(hx:l[k]?=some x)(hall:x.Text.all (fun c=>Q4 c.toNat)=true)(hnv:nv 0 x.Text≤1048576)(hlen:x.Text.length≤7) :
  ∀ (r:Str) (i m:Nat),x.Text.drop i=r→nv m r≤1048576→r.all (fun c=>Q4 c.toNat)=true→Gd l k m i=some ((nv m r:Int),((k+1:Nat):Int),true):=by
 have hk:=Ve hx
 have hB:=hl.1
 intro r
 induction r with
 | nil=>
  intro i m h hm _
  rw [Gd,Hl,hx,ob,(C3 h).1,if_neg (by simp),w1 (by omega),Zs]
 | cons c r ih=>
  intro i m h hm ha
  obtain ⟨h1,h2,h3,h4,_⟩:=V3 h
  rw [List.all_cons,Bool.and_eq_true] at ha
  rw [Fl] at hm ⊢
  have hc:=Nh.1 ha.1
  have hle:=E1h r (10 * m+(c.toNat - 48))
  have e1:IntKind.i64.wrap (IntKind.i64.wrap (10 * (m:Int))+IntKind.i64.wrap (IntKind.u8.wrap ((c.toNat:Int) - 48)))=((10 * m+(c.toNat - 48):Nat):Int):=by
   rw [N1g ha.1,wr (n:=10 * (m:Int)) (by omega) (by omega),wr (by omega) (by omega)]; omega
  rw [Gd,Hl,hx,ob,h1,if_pos rfl,ob,h2,ob,e1,w1 (by unfold BB; omega)]
  exact ih (i+1) _ h3 hm ha.2
theorem Oh (k:Nat):Gh l k=if Y4 l k 1=true then some (Mu l k,((k+1:Nat):Int),true) else some (0,(k:Int),false):=by
 unfold Gh Y4 Mu txt
 cases h:l[k]? with
 | none=>rw [E1c h,Bool.not_true,if_neg (by simp),ob,cond_true,if_pos rfl,if_neg (by simp)]
 | some x=>
  rw [dge h,Bool.not_false,if_pos rfl,Hl,h,ob,cond_false]
  simp only
  cases hk:x.Kind == 1 with
  | false=>simp only [bne,hk,Bool.not_false,if_true,Bool.false_eq_true,if_false]
  | true=>
   simp only [bne,hk,Bool.not_true,Bool.false_eq_true,if_false,if_true]
   obtain ⟨n1,n2,n3,n4⟩:=(hl.2 x (List.mem_of_getElem? h)).num (eq_of_beq hk)
   exact T18 l hl x k h n2 n4 n3 x.Text 0 0 rfl n4 n2
end
end Go.Proofs.YtmnhfbekncjnfaaGreatDoor

namespace Go.Proofs.YtmnhfbekncjnfaaGreatDoor
open Go.Am
def J {α:Type}(l:List F0)(e:Int)(lo:Nat)(P:α→Nat→Prop)(p:Option (Pn (α×B0)))(r:Option (α×Int×Bool)):Prop:=
 (∃ v j,lo≤j∧j≤l.length∧P v j∧p=some (.ok (v,mk l j e))∧r=some (v,((j:Nat):Int),true))∨
 (∃ v j,j≤l.length∧p=some (.pn (off l e j))∧r=some (v,((j:Nat):Int),false))
section
variable {l:List F0}{e:Int}{α β:Type}
theorem J.ok {lo:Nat}{P:α→Nat→Prop}(v:α)(j:Nat)(h1:lo≤j)(h2:j≤l.length)(hP:P v j):J l e lo P (some (.ok (v,mk l j e))) (some (v,((j:Nat):Int),true)):=.inl ⟨v,j,h1,h2,hP,rfl,rfl⟩
theorem J.pn {lo:Nat}{P:α→Nat→Prop}(v:α)(j:Nat)(h2:j≤l.length):J l e lo P (some (.pn (off l e j))) (some (v,((j:Nat):Int),false)):=.inr ⟨v,j,h2,rfl,rfl⟩
theorem J.mono {lo lo':Nat}{P P':α→Nat→Prop}{p:Option (Pn (α×B0))}{r:Option (α×Int×Bool)}(h:J l e lo P p r)(hl:lo'≤lo)(hP:∀ v j,lo≤j→P v j→P' v j):J l e lo' P' p r:=by
 rcases h with ⟨v,j,h1,h2,h0,h3,h4⟩ | h
 ·exact .inl ⟨v,j,Nat.le_trans hl h1,h2,hP v j h1 h0,h3,h4⟩
 ·exact .inr h
theorem J.bind {lo lo':Nat}{P:α→Nat→Prop}{Q:β→Nat→Prop}{p:Option (Pn (α×B0))}{r:Option (α×Int×Bool)}(h:J l e lo P p r){F:Pn (α×B0)→Option (Pn (β×B0))}{g:α×Int×Bool→Option (β×Int×Bool)}(hF:∀ n,F (.pn n)=some (.pn n))
  (hg:∀ v (j:Nat),j≤l.length→∃ v',g (v,(j:Int),false)=some (v',(j:Int),false)) (hf:∀ v (j:Nat),lo≤j→j≤l.length→P v j→J l e lo' Q (F (.ok (v,mk l j e))) (g (v,(j:Int),true))) :
  J l e lo' Q (p>>=F) (r>>=g):=by
 rcases h with ⟨v,j,h1,h2,h0,rfl,rfl⟩ | ⟨v,j,h2,rfl,rfl⟩
 ·exact hf v j h1 h2 h0
 ·obtain ⟨v',hv⟩:=hg v j h2
  rw [ob,ob,hv,hF]
  exact .pn v' j h2
theorem J.same {lo:Nat}{P:α→Nat→Prop}{p:Option (Pn (α×B0))}{r:Option (α×Int×Bool)}(h:J l e lo P p r){F:Pn (α×B0)→Option (Pn (α×B0))}(hF:∀ n,F (.pn n)=some (.pn n))(hF2:∀ x,F (.ok x)=some (.ok (x.1,x.2))):J l e lo P (p>>=F) r:=by
 rcases h with ⟨v,j,h1,h2,h0,rfl,rfl⟩ | ⟨v,j,h2,rfl,rfl⟩
 ·rw [ob,hF2]; exact .ok v j h1 h2 h0
 ·rw [ob,hF]; exact .pn v j h2
theorem J.rsame {lo:Nat}{P:α→Nat→Prop}{p:Option (Pn (α×B0))}{r:Option (α×Int×Bool)}(h:J l e lo P p r):J l e lo P p (r>>=fun x=>some (x.1,x.2.1,x.2.2)):=by
 rcases h with ⟨v,j,h1,h2,h0,rfl,rfl⟩ | ⟨v,j,h2,rfl,rfl⟩
 ·exact .ok v j h1 h2 h0
 ·exact .pn v j h2
end
def BE (k:Nat)(v:A0)(j:Nat):Prop:=v.bulk≤9000 * (j - k)
def BO (o:Nat)(k:Nat)(v:A0)(j:Nat):Prop:=v.bulk≤o+9000 * (j - k)
theorem Yy (op n:Int)(s:Str):(A0.mk op n s []).bulk=s.length+5:=by rw [A0.bulk_eq]; rfl
theorem G1h (op n:Int)(s:Str)(a:A0):(A0.mk op n s [a]).bulk=s.length+a.bulk+5:=by rw [A0.bulk_eq]; simp only [A0.bulks]; omega
theorem G16 (op n:Int)(s:Str)(a b:A0):(A0.mk op n s [a,b]).bulk=s.length+a.bulk+b.bulk+5:=by rw [A0.bulk_eq]; simp only [A0.bulks]; omega
theorem T1k (op n:Int)(s:Str)(a b c:A0):(A0.mk op n s [a,b,c]).bulk=s.length+a.bulk+b.bulk+c.bulk+5:=by rw [A0.bulk_eq]; simp only [A0.bulks]; omega
structure PE (l:List F0)(e:Int)(k:Nat):Prop where
 expr:J l e (k+1) (BE k) (S0 (mk l k e)) (V1 l k)
 un:J l e (k+1) (BE k) (V2 (mk l k e)) (I3 l k)
 prodL:∀ o,J l e k (BO o.bulk k) (O2 (mk l k e) o) (P1 l 5 o k)
 prod:J l e (k+1) (BE k) (L3 (mk l k e)) (B1 l k 5)
 sumL:∀ o,J l e k (BO o.bulk k) (N2 (mk l k e) o) (P1 l 4 o k)
 sum:J l e (k+1) (BE k) (Z3 (mk l k e)) (B1 l k 4)
 cmp:J l e (k+1) (BE k) (X2 (mk l k e)) (B1 l k 3)
 andL:∀ o,J l e k (BO o.bulk k) (L2 (mk l k e) o) (P1 l 2 o k)
 and:J l e (k+1) (BE k) (R4 (mk l k e)) (B1 l k 2)
 orL:∀ o,J l e k (BO o.bulk k) (W2 (mk l k e) o) (P1 l 1 o k)
 or:J l e (k+1) (BE k) (J6 (mk l k e)) (B1 l k 1)
 placeL:∀ op name kids,J l e k (BO (A0.mk op 0 name kids).bulk k) (F3 (mk l k e) op name kids) (S3 l op 0 name kids k)
section
set_option linter.unusedSectionVars false
variable {l:List F0}{e:Int}(hl:Ta l)
include hl
theorem Zy {k:Nat}{n:Int}{o:A0}{un:B0→Option (Pn (A0×B0))}{chain:B0→A0→Option (Pn (A0×B0))}{b:Bool}{op op':Int}{F:Pn (A0×B0)→Option (Pn (A0×B0))}(hF:∀ n,F (.pn n)=some (.pn n))(hF2:∀ x,F (.ok x)=chain x.2 (A0.mk op' 0 [] [o,x.1]))(hk:k≤l.length)(hn:n≠3)
  (hb:W3 l k n=some (op,b)) (hop:b=true→op=op'∧k < l.length)
  (hun:k < l.length→J l e (k+2) (BE (k+1)) (un (mk l (k+1) e)) (B1 l ((k+1:Nat):Int) (IntKind.i64.wrap (n+1))))
  (hch:∀ j,k < j→j≤l.length→∀ o,J l e j (BO o.bulk j) (chain (mk l j e) o) (P1 l n o (j:Int))) :
  J l e k (BO o.bulk k) (if (!b)=true then some (.ok (o,mk l (step b k) e)) else un (mk l (step b k) e)>>=F) (P1 l n o (k:Int)):=by
 rw [P1,hb,ob]
 cases b with
 | false=>exact .ok o k (Nat.le_refl _) hk (by unfold BO; omega)
 | true=>
  obtain ⟨rfl,hlt⟩:=hop rfl
  have hB:=hl.1
  simp only [Bool.not_true,Bool.false_eq_true,if_false,step,cond_true]
  rw [w1 (by omega)]
  refine J.bind (hun hlt) hF ?_ ?_
  ·exact fun v j hj=>⟨v,rfl⟩
  intro v j h1 h2 h0
  simp only [Bool.not_true,Bool.false_eq_true,if_false,Qp,ob,beq_eq_false_iff_ne.2 hn]
  rw [hF2]
  refine (hch j (by omega) h2 _).mono (by omega) fun v' j' h3 h4=>?_
  unfold BO at h4 ⊢
  unfold BE at h0
  rw [G16] at h4
  simp only [List.length_nil] at h4
  omega
theorem U18 (k:Nat)(n:Nat)(hn:n < 6):B1 l k n=(B1 l k ((n+1:Nat):Int)>>=fun x2=>if (!x2.2.2)=true then some (x2.1,x2.2.1,false) else P1 l n x2.1 x2.2.1):=by
 rw [B1,if_neg (by simp; omega),w1 (by unfold BB; omega)]
theorem Az (k:Nat):B1 l k 6=(I3 l k>>=fun x1=>some (x1.1,x1.2.1,x1.2.2)):=by
 rw [B1]
 simp only [beq_self_eq_true,if_true]
theorem Bz {k:Nat}{n:Nat}{p:Option (Pn (A0×B0))}{chain:B0→A0→Option (Pn (A0×B0))}{F:Pn (A0×B0)→Option (Pn (A0×B0))}(hF:∀ n,F (.pn n)=some (.pn n))(hF2:∀ x,F (.ok x)=chain x.2 x.1)(hn:n < 6)(h:J l e (k+1) (BE k) p (B1 l k ((n+1:Nat):Int)))
  (hch:∀ j,k < j→j≤l.length→∀ o,J l e j (BO o.bulk j) (chain (mk l j e) o) (P1 l n o (j:Int))) :
  J l e (k+1) (BE k) (p>>=F) (B1 l k n):=by
 rw [U18 hl k n hn]
 refine J.bind h hF ?_ ?_
 ·exact fun v j _=>⟨v,rfl⟩
 ·intro v j h1 h2 h0
  rw [hF2]
  refine (hch j (by omega) h2 v).mono h1 fun v' j' h3 h4=>?_
  unfold BO at h4
  unfold BE at h0 ⊢
  omega
section
variable {k:Nat}(hk:k≤l.length)(IH:∀ j,k < j→j≤l.length→PE l e j)
include hk IH
theorem N1i (o:A0):J l e k (BO o.bulk k) (O2 (mk l k e) o) (P1 l 5 o k):=by
 obtain ⟨op,op',b,h1,h2,h3⟩:=M1i l e hl k
 rw [O2,h1,ob]
 have hB:=hl.1
 refine Zy hl (chain:=O2) (fun _=>rfl) (fun _=>rfl) hk (by decide) h2 h3 (fun hlt=>?_) fun j h4 h5 o=>(IH j h4 h5).prodL o
 rw [show IntKind.i64.wrap (5+1)=6 by decide,Az hl]
 exact J.rsame (IH (k+1) (by omega) (by omega)).un
theorem R1j (o:A0):J l e k (BO o.bulk k) (N2 (mk l k e) o) (P1 l 4 o k):=by
 obtain ⟨op,op',b,h1,h2,h3⟩:=Q1j l e hl k
 rw [N2,h1,ob]
 refine Zy hl (chain:=N2) (fun _=>rfl) (fun _=>rfl) hk (by decide) h2 h3 (fun hlt=>?_) fun j h4 h5 o=>(IH j h4 h5).sumL o
 rw [show IntKind.i64.wrap (4+1)=5 by decide]
 exact (IH (k+1) (by omega) (by omega)).prod
theorem S1j (o:A0):J l e k (BO o.bulk k) (L2 (mk l k e) o) (P1 l 2 o k):=by
 obtain ⟨op,b,h1,h2,h3⟩:=O1j l e hl k
 rw [L2,h1,ob]
 refine Zy hl (chain:=L2) (fun _=>rfl) (fun _=>rfl) hk (by decide) h2 h3 (fun hlt=>?_) fun j h4 h5 o=>(IH j h4 h5).andL o
 rw [show IntKind.i64.wrap (2+1)=3 by decide]
 exact (IH (k+1) (by omega) (by omega)).cmp
theorem U1k (o:A0):J l e k (BO o.bulk k) (W2 (mk l k e) o) (P1 l 1 o k):=by
 obtain ⟨op,b,h1,h2,h3⟩:=Q1k l e hl k
 rw [W2,h1,ob]
 refine Zy hl (chain:=W2) (fun _=>rfl) (fun _=>rfl) hk (by decide) h2 h3 (fun hlt=>?_) fun j h4 h5 o=>(IH j h4 h5).orL o
 rw [show IntKind.i64.wrap (1+1)=2 by decide]
 exact (IH (k+1) (by omega) (by omega)).and
theorem T1j (hu:J l e (k+1) (BE k) (V2 (mk l k e)) (I3 l k)):J l e (k+1) (BE k) (L3 (mk l k e)) (B1 l k 5):=by
 rw [L3,Y7]
 refine J.same ?_ (fun _=>rfl) fun _=>rfl
 refine Bz hl (n:=5) (chain:=O2) ?_ ?_ (by decide) ?_ fun j h4 h5 o=>(IH j h4 h5).prodL o
 ·exact fun _=>rfl
 ·exact fun _=>rfl
 show J l e (k+1) (BE k) _ (B1 l k 6)
 rw [Az hl]
 exact J.rsame hu
theorem V1k (h:J l e (k+1) (BE k) (L3 (mk l k e)) (B1 l k 5)):J l e (k+1) (BE k) (Z3 (mk l k e)) (B1 l k 4):=by
 rw [Z3,X7]
 refine J.same ?_ (fun _=>rfl) fun _=>rfl
 refine Bz hl (n:=4) (chain:=N2) ?_ ?_ (by decide) h fun j h4 h5 o=>(IH j h4 h5).sumL o
 ·exact fun _=>rfl
 ·exact fun _=>rfl
theorem W1k (h:J l e (k+1) (BE k) (X2 (mk l k e)) (B1 l k 3)):J l e (k+1) (BE k) (R4 (mk l k e)) (B1 l k 2):=by
 rw [R4,W7]
 refine J.same ?_ (fun _=>rfl) fun _=>rfl
 refine Bz hl (n:=2) (chain:=L2) ?_ ?_ (by decide) h fun j h4 h5 o=>(IH j h4 h5).andL o
 ·exact fun _=>rfl
 ·exact fun _=>rfl
theorem I1l (h:J l e (k+1) (BE k) (R4 (mk l k e)) (B1 l k 2)):J l e (k+1) (BE k) (J6 (mk l k e)) (B1 l k 1):=by
 rw [J6,Z9]
 refine J.same ?_ (fun _=>rfl) fun _=>rfl
 refine Bz hl (n:=1) (chain:=W2) ?_ ?_ (by decide) h fun j h4 h5 o=>(IH j h4 h5).orL o
 ·exact fun _=>rfl
 ·exact fun _=>rfl
end
end
end Go.Proofs.YtmnhfbekncjnfaaGreatDoor

namespace Go.Proofs.YtmnhfbekncjnfaaGreatDoor
open Go.Am
section
set_option linter.unusedSectionVars false
variable {l:List F0}{e:Int}(hl:Ta l)
include hl
section
variable {k:Nat}(hk:k≤l.length)(IH:∀ j,k < j→j≤l.length→PE l e j)
include hk IH
theorem U1j {op:Int}{x1:A0×B0}(hlt:k < l.length)(hop:W3 l k 3=some (op,true))(p:B0)(hp:p=mk l (k+1) e) :
  J l e k (BO x1.1.bulk k) (A1 p x1 op) (P1 l 3 x1.1 k):=by
 subst hp
 have hB:=hl.1
 rw [A1,P1,hop,ob]
 simp only [Bool.not_true,Bool.false_eq_true,if_false]
 rw [w1 (by omega),show IntKind.i64.wrap (3+1)=4 by decide]
 refine J.bind (IH (k+1) (by omega) (by omega)).sum ?_ ?_ ?_
 ·exact fun _=>rfl
 ·exact fun v j _=>⟨v,rfl⟩
 ·intro v j h1 h2 h0
  simp only [Bool.not_true,Bool.false_eq_true,if_false,Qp,ob,beq_self_eq_true,if_true]
  refine .ok _ j (by omega) h2 ?_
  unfold BO
  unfold BE at h0
  rw [G16]
  simp only [List.length_nil]
  omega
theorem V1j (x1:A0×B0)(hx:x1.2=mk l k e):J l e k (BO x1.1.bulk k) (L0 [61,61] x1.2>>=fun x2=>
 if x2.1=true then
  A1 x2.2 x1 13
 else
  L0 [33,61] x2.2>>=fun x4=>
  if x4.1=true then
   A1 x4.2 x1 14
  else
   L0 [60] x4.2>>=fun x5=>
   if x5.1=true then
    A1 x5.2 x1 15
   else
    L0 [60,61] x5.2>>=fun x6=>
    if x6.1=true then
     A1 x6.2 x1 16
    else
     L0 [62] x6.2>>=fun x7=>
     if x7.1=true then
      A1 x7.2 x1 17
     else
      L0 [62,61] x7.2>>=fun x8=>
      if x8.1=true then
       A1 x8.2 x1 18
      else
       some (.ok (x1.1,x8.2))) (P1 l 3 x1.1 k):=by
 obtain ⟨o,h1,h2⟩:=S1k l hl k
 have done:∀ {t:Str} {op:Int},isS l k t=true→W3 l k 3=some (op,true)→J l e k (BO x1.1.bulk k) (A1 (mk l (step true k) e) x1 op) (P1 l 3 x1.1 k):=fun ht hop=>
  U1j hl hk IH (Qm l hl ht) hop _ rfl
 rw [hx,B4 l e hl.1,Xb hl rfl,ob]
 cases c0:isS l k [61,61] with
 | true=>rw [c0] at h1 h2; rw [h2 rfl] at h1; exact done c0 h1
 | false=>
  simp only [Z7,Bool.false_eq_true,if_false]
  rw [B4 l e hl.1,Xb hl rfl,ob]
  cases c1:isS l k [33,61] with
  | true=>rw [c0,c1] at h1 h2; rw [h2 rfl] at h1; exact done c1 h1
  | false=>
   simp only [Z7,Bool.false_eq_true,if_false]
   rw [B4 l e hl.1,Xb hl rfl,ob]
   cases c2:isS l k [60] with
   | true=>rw [c0,c1,c2] at h1 h2; rw [h2 rfl] at h1; exact done c2 h1
   | false=>
    simp only [Z7,Bool.false_eq_true,if_false]
    rw [B4 l e hl.1,Xb hl rfl,ob]
    cases c3:isS l k [60,61] with
    | true=>rw [c0,c1,c2,c3] at h1 h2; rw [h2 rfl] at h1; exact done c3 h1
    | false=>
     simp only [Z7,Bool.false_eq_true,if_false]
     rw [B4 l e hl.1,Xb hl rfl,ob]
     cases c4:isS l k [62] with
     | true=>rw [c0,c1,c2,c3,c4] at h1 h2; rw [h2 rfl] at h1; exact done c4 h1
     | false=>
      simp only [Z7,Bool.false_eq_true,if_false]
      rw [B4 l e hl.1,Xb hl rfl,ob]
      cases c5:isS l k [62,61] with
      | true=>rw [c0,c1,c2,c3,c4,c5] at h1 h2; rw [h2 rfl] at h1; exact done c5 h1
      | false=>
       rw [c0,c1,c2,c3,c4,c5] at h1
       simp only [Z7,Bool.false_eq_true,if_false]
       rw [P1,h1,ob]
       exact .ok _ k (Nat.le_refl _) hk (by unfold BO; omega)
end
theorem X1k {k:Nat}(hk:k≤l.length)(IH:∀ j,k < j→j≤l.length→PE l e j)(h:J l e (k+1) (BE k) (Z3 (mk l k e)) (B1 l k 4)):J l e (k+1) (BE k) (X2 (mk l k e)) (B1 l k 3):=by
 rw [X2,show (3:Int)=((3:Nat):Int) from rfl,U18 hl k 3 (by decide)]
 refine J.bind (p:=Z3 (mk l k e)) (r:=B1 l k ((3+1:Nat):Int)) h ?_ ?_ ?_
 ·exact fun _=>rfl
 ·exact fun v j _=>⟨v,rfl⟩
 ·intro v j h1 h2 h0
  refine (V1j hl h2 (fun i h3 h4=>IH i (by omega) h4) (v,mk l j e) rfl).mono h1 fun v' j' h3 h4=>?_
  unfold BO at h4
  unfold BE at h0 ⊢
  simp only at h4
  omega
section
variable {k:Nat}(hk:k≤l.length)(IH:∀ j,k < j→j≤l.length→PE l e j)
include hk IH
theorem S1g (op:Int)(name:Str)(kids:List A0):J l e k (BO (A0.mk op 0 name kids).bulk k) (F3 (mk l k e) op name kids) (S3 l op 0 name kids k):=by
 have hB:=hl.1
 rw [F3,B4 l e hB,ob,S3,Y1 l hB,ob]
 cases hd:isT l k [46] with
 | true=>
  have hlt:=A4 hd
  simp only [Jb,Bool.not_true,Bool.false_eq_true,if_false,if_true,ob,cond_true]
  rw [w1 (by omega),A13 l e hB,Yj l hB]
  cases hn:Y4 l (k+1) 0 with
  | true=>
   have:=Od hn
   simp only [if_true,ob,Bool.not_true,Bool.false_eq_true,if_false]
   refine ((IH (k+1+1) (by omega) (by omega)).placeL _ _ _).mono (by omega) fun v' j' h3 h4=>?_
   have ht:=Xy hl (k+1)
   unfold BO at h4 ⊢
   rw [G1h] at h4
   omega
  | false=>exact .pn _ (k+1) (by omega)
 | false=>
  simp only [Z7,Bool.not_false,Bool.false_eq_true,if_false,if_true]
  rw [B4 l e hB,ob,Y1 l hB,ob]
  cases hi:isT l k [91] with
  | true=>
   have hlt:=A4 hi
   simp only [Jb,if_true,cond_false]
   rw [ob,if_neg (by simp),w1 (by omega)]
   refine J.bind (IH (k+1) (by omega) (by omega)).expr ?_ ?_ ?_
   ·exact fun _=>rfl
   ·exact fun v j _=>⟨v,rfl⟩
   ·intro v j h1 h2 h0
    simp only [Bool.not_true,Bool.not_false,if_true,cond_false]
    rw [We l e hB,Y1 l hB,ob]
    cases hn:isT l j [93] with
    | true=>
     have:=A4 hn
     simp only [if_true,ob,Bool.not_true,Bool.false_eq_true,if_false,Qp]
     rw [w1 (by omega)]
     refine ((IH (j+1) (by omega) (by omega)).placeL _ _ _).mono (by omega) fun v' j' h3 h4=>?_
     unfold BO at h4 ⊢
     unfold BE at h0
     rw [G16] at h4
     simp only [List.length_nil] at h4
     omega
    | false=>exact .pn _ j h2
  | false=>
   simp only [Z7,Bool.false_eq_true,if_false,cond_false]
   exact .ok _ k (Nat.le_refl _) hk (by unfold BO; omega)
end
end
end Go.Proofs.YtmnhfbekncjnfaaGreatDoor

namespace Go.Proofs.YtmnhfbekncjnfaaGreatDoor
open Go.Am
section
set_option linter.unusedSectionVars false
variable {l:List F0}{e:Int}(hl:Ta l)
include hl
section
variable {k:Nat}(hk:k≤l.length)(IH:∀ j,k < j→j≤l.length→PE l e j)
include hk IH
theorem O1i:J l e (k+1) (BE k) (O5 (mk l k e)) (Z8 l k):=by
 have hB:=hl.1
 rw [O5,Z8,A13 l e hB,Yj l hB]
 cases hn:Y4 l k 0 with
 | true=>
  have:=Od hn
  simp only [if_true,ob,Bool.not_true,Bool.false_eq_true,if_false]
  refine ((IH (k+1) (by omega) (by omega)).placeL _ _ _).mono (Nat.le_refl _) fun v' j' h3 h4=>?_
  have ht:=Xy hl k
  unfold BO at h4
  unfold BE
  rw [Yy] at h4
  omega
 | false=>exact .pn _ k hk
theorem P1e (op:Int)(hlt:k < l.length):J l e (k+1) (BE k) (K6 op (mk l (k+1) e)) (Fa l k op):=by
 have hB:=hl.1
 rw [K6,We l e hB,Fa,w1 (by omega),Y1 l hB,ob]
 cases ho:isT l (k+1) [40] with
 | false=>exact .pn _ (k+1) (by omega)
 | true=>
  have h1:=A4 ho
  simp only [if_true,ob,Bool.not_true,Bool.false_eq_true,if_false]
  rw [wr (n:=(k:Int)+2) (by omega) (by unfold BB at hB; omega),show (k:Int)+2=((k+1+1:Nat):Int) by omega]
  refine J.bind (IH (k+1+1) (by omega) (by omega)).expr ?_ ?_ ?_
  ·exact fun _=>rfl
  ·exact fun v j _=>⟨v,rfl⟩
  intro v j h2 h3 h0
  simp only [Bool.not_true,Bool.not_false,if_true,cond_false]
  rw [We l e hB,Y1 l hB,ob]
  cases hc:isT l j [44] with
  | false=>exact .pn _ j h3
  | true=>
   have h4:=A4 hc
   simp only [if_true,ob,Bool.not_true,Bool.false_eq_true,if_false]
   rw [w1 (by omega)]
   refine J.bind (IH (j+1) (by omega) (by omega)).expr ?_ ?_ ?_
   ·exact fun _=>rfl
   ·exact fun v j _=>⟨v,rfl⟩
   intro v2 j2 h5 h6 h00
   simp only [Bool.not_true,Bool.not_false,if_true,cond_false]
   rw [We l e hB,Y1 l hB,ob]
   cases hd:isT l j2 [41] with
   | false=>exact .pn _ j2 h6
   | true=>
    have h7:=A4 hd
    simp only [if_true,ob,Bool.not_true,Bool.false_eq_true,if_false,Qp]
    rw [w1 (by omega)]
    refine .ok _ (j2+1) (by omega) (by omega) ?_
    unfold BE at h0 h00 ⊢
    rw [G16]
    simp only [List.length_nil]
    omega
theorem Q1e:J l e (k+1) (BE k) (Z5 (mk l k e)) (F4 l k):=by
 have hB:=hl.1
 rw [Z5,F4,R1g l e hB,ob]
 have hw:∀ t,isT l k t=true→Y4 l k 0=false:=fun t h=>(Ag h).1
 cases hn:Y4 l k 0 with
 | true=>
  have hf:∀ t,isT l k t=false:=fun t=>by
   cases h:isT l k t with
   | false=>rfl
   | true=>rw [hw t h] at hn; cases hn
  have hd:Y4 l k 1=false:=by
   unfold Y4 at hn ⊢
   split at hn
   ·rw [eq_of_beq hn]; rfl
   ·rfl
  simp only [if_true,Y1 l hB,ob,hf,Bool.false_eq_true,if_false,Bool.not_false,cond_false]
  rw [Oh l hl,hd]
  simp only [Bool.false_eq_true,if_false,ob]
  refine J.same ?_ (fun _=>rfl) fun _=>rfl
  exact J.rsame (O1i hl hk IH)
 | false=>
  simp only [Bool.false_eq_true,if_false]
  rw [B4 l e hB,ob,Y1 l hB,ob]
  cases h1:isT l k [116,114,117,101] with
  | true=>
   have:=A4 h1
   simp only [Jb,if_true]
   rw [w1 (by omega)]
   exact .ok _ (k+1) (Nat.le_refl _) (by omega) (by unfold BE; rw [Yy]; simp only [List.length_nil]; omega)
  | false=>
   simp only [Z7,Bool.false_eq_true,if_false]
   rw [B4 l e hB,ob,Y1 l hB,ob]
   cases h2:isT l k [102,97,108,115,101] with
   | true=>
    have:=A4 h2
    simp only [Jb,if_true]
    rw [w1 (by omega)]
    exact .ok _ (k+1) (Nat.le_refl _) (by omega) (by unfold BE; rw [Yy]; simp only [List.length_nil]; omega)
   | false=>
    simp only [Z7,Bool.false_eq_true,if_false]
    rw [B4 l e hB,ob,Y1 l hB,ob,Y1 l hB]
    cases h3:isT l k [109,105,110] with
    | true=>
     have hlt:=A4 h3
     have h4:isT l k [109,97,120]=false:=by
      cases h:isT l k [109,97,120] with
      | false=>rfl
      | true=>have:=(Ag h3).2.2.symm.trans (Ag h).2.2; simp at this
     simp only [Jb,if_true,Bool.not_true,Bool.false_eq_true,if_false,ob,cond_true]
     rw [Fg,Y1 l hB,ob,h4,if_neg (by simp)]
     refine J.same ?_ (fun _=>rfl) fun _=>rfl
     exact J.rsame (P1e hl hk IH 21 hlt)
    | false=>
     simp only [Z7,Bool.false_eq_true,if_false,Bool.not_false,if_true,ob,cond_false]
     rw [B4 l e hB,ob]
     cases h4:isT l k [109,97,120] with
     | true=>
      have hlt:=A4 h4
      simp only [Jb,if_true]
      rw [Fg,Y1 l hB,ob,h4,if_pos rfl]
      refine J.same ?_ (fun _=>rfl) fun _=>rfl
      exact J.rsame (P1e hl hk IH 22 hlt)
     | false=>
      simp only [Z7,Bool.false_eq_true,if_false]
      rw [B4 l e hB,ob,Y1 l hB,ob]
      cases h5:isT l k [40] with
      | true=>
       have hlt:=A4 h5
       simp only [Jb,if_true]
       rw [w1 (by omega)]
       refine J.bind (IH (k+1) (by omega) (by omega)).expr ?_ ?_ ?_
       ·exact fun _=>rfl
       ·exact fun v j _=>⟨v,rfl⟩
       intro v j h6 h7 h0
       simp only [Bool.not_true,Bool.not_false,if_true,cond_false]
       rw [We l e hB,Y1 l hB,ob]
       cases hd:isT l j [41] with
       | false=>exact .pn _ j h7
       | true=>
        have h8:=A4 hd
        simp only [if_true,ob,Bool.not_true,Bool.false_eq_true,if_false]
        rw [w1 (by omega)]
        refine .ok _ (j+1) (by omega) (by omega) ?_
        unfold BE at h0 ⊢
        omega
      | false=>
       simp only [Z7,Bool.false_eq_true,if_false]
       rw [E11 l e hl,Oh l hl]
       cases h6:Y4 l k 1 with
       | true=>
        have:=Od h6
        simp only [if_true,ob]
        exact .ok _ (k+1) (Nat.le_refl _) (by omega) (by unfold BE; rw [Yy]; simp only [List.length_nil]; omega)
       | false=>
        simp only [Bool.false_eq_true,if_false,ob]
        rw [Z8,Yj l hB,hn]
        exact .pn _ k hk
theorem P1i:J l e (k+1) (BE k) (V2 (mk l k e)) (I3 l k):=by
 have hB:=hl.1
 have go:∀ op:Int,k < l.length→J l e (k+1) (BE k) (V2 (mk l (k+1) e)>>=fun x4=>match x4 with | .pn nn=>some (.pn nn) | .ok x4=>some (.ok ((A0.mk op 0 [] [x4.1]),x4.2))) (Wb l k op):=fun op hlt=>by
  rw [Wb,w1 (by omega)]
  refine J.bind (IH (k+1) (by omega) (by omega)).un ?_ ?_ ?_
  ·exact fun _=>rfl
  ·exact fun v j _=>⟨v,rfl⟩
  ·intro v j h1 h2 h0
   refine .ok _ j (by omega) h2 ?_
   unfold BE at h0 ⊢
   rw [G1h]
   simp only [List.length_nil]
   omega
 rw [V2,I3,B4 l e hB,ob,Y1 l hB,ob]
 cases h1:isT l k [45] with
 | true=>
  have hlt:=A4 h1
  have h2:isT l k [33]=false:=by
   cases h:isT l k [33] with
   | false=>rfl
   | true=>have:=(Ag h1).2.2.symm.trans (Ag h).2.2; simp at this
  simp only [Jb,if_true,Bool.not_true,Bool.false_eq_true,if_false,ob,cond_false]
  rw [Y1 l hB,ob,h2,if_neg (by simp)]
  exact go 6 hlt
 | false=>
  simp only [Z7,Bool.false_eq_true,if_false,Bool.not_false,if_true]
  rw [B4 l e hB,ob,Y1 l hB,ob]
  cases h2:isT l k [33] with
  | true=>
   have hlt:=A4 h2
   simp only [Jb,if_true,Bool.not_true,Bool.false_eq_true,if_false,cond_true,ob]
   exact go 7 hlt
  | false=>
   simp only [Z7,Bool.false_eq_true,if_false,Bool.not_false,if_true,cond_true]
   refine J.same ?_ (fun _=>rfl) fun _=>rfl
   exact J.rsame (Q1e hl hk IH)
theorem W1j (ho:J l e (k+1) (BE k) (J6 (mk l k e)) (B1 l k 1)):J l e (k+1) (BE k) (S0 (mk l k e)) (V1 l k):=by
 have hB:=hl.1
 rw [S0,V1]
 refine J.bind ho ?_ ?_ ?_
 ·exact fun _=>rfl
 ·exact fun v j _=>⟨v,rfl⟩
 intro v j h1 h2 h0
 simp only [Bool.not_true,Bool.not_false,if_true,cond_false]
 rw [B4 l e hB,ob,Y1 l hB,ob]
 cases hq:isT l j [63] with
 | false=>exact .ok _ j h1 h2 h0
 | true=>
  have h3:=A4 hq
  simp only [Jb,Bool.not_true,Bool.false_eq_true,if_false]
  rw [w1 (by omega)]
  refine J.bind (IH (j+1) (by omega) (by omega)).expr ?_ ?_ ?_
  ·exact fun _=>rfl
  ·exact fun v j _=>⟨v,rfl⟩
  intro v2 j2 h4 h5 h00
  simp only [Bool.not_true,Bool.false_eq_true,if_false]
  rw [We l e hB,Y1 l hB,ob]
  cases hc:isT l j2 [58] with
  | false=>exact .pn _ j2 h5
  | true=>
   have h6:=A4 hc
   simp only [if_true,ob,Bool.not_true,Bool.false_eq_true,if_false]
   rw [w1 (by omega)]
   refine J.bind (IH (j2+1) (by omega) (by omega)).expr ?_ ?_ ?_
   ·exact fun _=>rfl
   ·exact fun v j _=>⟨v,rfl⟩
   ·intro v3 j3 h7 h8 h000
    refine .ok _ j3 (by omega) h8 ?_
    unfold BE at h0 h00 h000 ⊢
    rw [T1k]
    simp only [List.length_nil]
    omega
end
theorem R1e:∀ (n k:Nat),l.length - k < n→k≤l.length→PE l e k
 | 0,k,h,_=>absurd h (Nat.not_lt_zero _)
 | n+1,k,h,hk=>by
  have IH:∀ j,k < j→j≤l.length→PE l e j:=fun j h1 h2=>R1e n j (by omega) h2
  have u:=P1i hl hk IH
  have p5:=T1j hl hk IH u
  have p4:=V1k hl hk IH p5
  have p3:=X1k hl hk IH p4
  have p2:=W1k hl hk IH p3
  have p1:=I1l hl hk IH p2
  exact ⟨W1j hl hk IH p1,u,N1i hl hk IH,p5,R1j hl hk IH,p4,p3,S1j hl hk IH,p2,U1k hl hk IH,p1,S1g hl hk IH⟩
theorem H1h {k:Nat}(hk:k≤l.length):PE l e k:=R1e hl _ k (Nat.lt_succ_self _) hk
end
end Go.Proofs.YtmnhfbekncjnfaaGreatDoor

namespace Go.Proofs.YtmnhfbekncjnfaaGreatDoor
open Go.Am
theorem X1j (r:List UInt8):∀ m:Nat,m * 10 ^ r.length≤nv m r:=by
 induction r with
 | nil=>intro m; rw [Zs]; simp
 | cons c r ih=>
  intro m
  rw [Fl]
  refine Nat.le_trans ?_ (ih _)
  rw [List.length_cons,Nat.pow_succ]
  calc m * (10 ^ r.length * 10)=(10 * m) * 10 ^ r.length:=by rw [Nat.mul_comm (10 ^ r.length) 10,← Nat.mul_assoc,Nat.mul_comm m 10]
   _≤(10 * m+(c.toNat - 48)) * 10 ^ r.length:=Nat.mul_le_mul_right _ (by omega)
theorem Y1j {w:Str}(hne:w≠[])(h:Ym w=0):w.all (fun c=>Q4 c.toNat)=true∧w.length≤7∧nv 0 w≤1048576:=by
 unfold Ym at h
 split at h
 ·rename_i hc
  rw [Bool.and_eq_true] at hc
  obtain ⟨h1,h2⟩:=hc
  have h3:nv 0 w≤1048576:=by
   rcases Nat.lt_or_ge 1048576 (nv 0 w) with hb | hb
   ·rw [D11 hb] at h; cases h
   ·exact hb
  refine ⟨h1,?_,h3⟩
  cases w with
  | nil=>exact absurd rfl hne
  | cons c r=>
   rw [List.all_cons,Bool.and_eq_true] at h1
   have hc:=Nh.1 h1.1
   have hz:Rl (c::r)=false:=by simpa using h2
   unfold Rl at hz
   by_cases h48:c.toNat=48
   ·have hb:(((c::r).getD 0 0).toNat:Int) == 48:=by simp [h48]
    rw [hb,Bool.and_true] at hz
    have:=of_decide_eq_false hz
    omega
   ·rw [Fl] at h3
    have hp:=X1j r (10 * 0+(c.toNat - 48))
    have h5:1 * 10 ^ r.length≤(10 * 0+(c.toNat - 48)) * 10 ^ r.length:=Nat.mul_le_mul_right _ (by omega)
    rcases Nat.lt_or_ge 6 r.length with h6 | h6
    ·have:=Nat.pow_le_pow_right (show 1≤10 by decide) (show 7≤r.length from h6)
     omega
    ·rw [List.length_cons]; omega
 ·cases h
theorem I1a {c:UInt8}{t:List UInt8}{k:Int}(hlen:(c::t).length≤8192)(h:(nxt (c::t) k).2=0):Tok (nxt (c::t) k).1:=by
 have htx:=Zf h
 have hl8:(nxt (c::t) k).1.Text.length≤8192:=by omega
 refine ⟨hl8,fun hk=>?_,fun hk=>?_⟩
 ·revert h hk
  unfold nxt
  simp only [List.getD_cons_zero]
  cases hl:X4 c.toNat with
  | true=>
   have hld:ld c=true:=by unfold ld; rw [hl]; rfl
   intro h hk
   have hw:∃ r,(c::t).take (E4 (c::t))=c::r:=by
    simp only [E4,hld,cond_true,List.take_succ_cons]
    exact ⟨_,rfl⟩
   obtain ⟨r,hr⟩:=hw
   simp only [if_true] at hk ⊢
   split at hk
   ·rename_i hres
    rw [if_pos hres]
    exact ⟨c,r,hr,hl⟩
   ·split at hk <;> cases hk
  | false=>
   simp only [Bool.false_eq_true,if_false]
   intro h hk
   split at hk
   ·cases hk
   ·split at hk
    ·cases hk
    ·split at hk <;> cases hk
 ·revert h hk
  unfold nxt
  simp only [List.getD_cons_zero]
  cases hl:X4 c.toNat with
  | true=>
   intro h hk
   simp only [if_true] at hk
   split at hk
   ·cases hk
   ·split at hk <;> cases hk
  | false=>
   simp only [Bool.false_eq_true,if_false]
   intro h hk
   cases hd:Q4 c.toNat with
   | true=>
    have hld:ld c=true:=by unfold ld; rw [hl,hd]; rfl
    have hne:(c::t).take (E4 (c::t))≠[]:=by
     simp only [E4,hld,cond_true,List.take_succ_cons]
     exact List.cons_ne_nil _ _
    rw [hd,if_pos rfl] at h
    rw [if_pos rfl]
    obtain ⟨n1,n2,n3⟩:=Y1j hne h
    exact ⟨hne,n1,n2,n3⟩
   | false=>
    rw [hd,if_neg (by simp)] at hk
    split at hk
    ·cases hk
    ·split at hk <;> cases hk
theorem V18:∀ (n:Nat) (r:List UInt8) (k:Nat),r.length≤8192→(Ad n r k).2.2=0→(∀ x∈(Ad n r k).1,Tok x)∧(Ad n r k).1.length≤r.length
 | 0,r,k,_,_=>⟨fun x hx=>(by cases hx),Nat.zero_le _⟩
 | n+1,r,k,hl,h=>by
  revert h
  unfold Ad
  split
  ·exact fun _=>⟨fun x hx=>(by cases hx),Nat.zero_le _⟩
  ·rename_i c t hd
   have hle:(c::t).length≤r.length:=by rw [← hd,List.length_drop]; omega
   simp only
   split
   ·rename_i hx
    obtain ⟨b1,b2,b3,b4⟩:=Zf hx
    have hdl:((c::t).drop (nxt (c::t) ((k+skp false r:Nat):Int)).1.Text.length).length≤(c::t).length - 1:=by rw [List.length_drop]; omega
    have ih:=V18 n ((c::t).drop (nxt (c::t) ((k+skp false r:Nat):Int)).1.Text.length) (k+skp false r+(nxt (c::t) ((k+skp false r:Nat):Int)).1.Text.length) (by omega)
    split
    ·rename_i hz
     obtain ⟨i1,i2⟩:=ih hz
     intro _
     refine ⟨fun x hx'=>?_,?_⟩
     ·rcases List.mem_cons.1 hx' with rfl | hx'
      ·exact I1a (by omega) hx
      ·exact i1 x hx'
     ·simp only [List.length_cons] at *
      omega
    ·rename_i hz
     exact fun h=>absurd h hz
   ·rename_i hx
    exact fun h=>absurd h hx
theorem Sp {s:Str}(h:(W5 s).2.2=0):Ta (W5 s).1∧(W5 s).1.length≤8192:=by
 unfold W5 at h ⊢
 by_cases hl:s.length > 8192
 ·rw [if_pos hl] at h; cases h
 ·rw [if_neg hl] at h ⊢
  obtain ⟨h1,h2⟩:=V18 _ s 0 (by omega) h
  exact ⟨⟨by unfold BB; omega,h1⟩,by omega⟩
end Go.Proofs.YtmnhfbekncjnfaaGreatDoor

namespace Go.Proofs.YtmnhfbekncjnfaaGreatDoor
open Go.Am
theorem Nu (text:Str)(l:List F0)(k:Nat):Oj text l k=some (off l (text.length:Int) k):=by
 unfold Oj off
 cases h:l[k]? with
 | none=>rw [S18 h,if_neg (by simp)]
 | some x=>rw [dlt h,if_pos rfl,Hl,h,ob]
theorem C14 (text:Str):∃ v,O3 text=some v∧Lq text=some v∧OkE v.1:=by
 have hz:OkE (A0.mk 0 0 [] []):=by unfold OkE; rw [Yy]; unfold BB; simp
 obtain ⟨x1,x2⟩:=Z12 text
 unfold O3 Lq Td
 rw [x1,x2,ob,ob]
 generalize hL:W5 text=L
 by_cases h0:L.2.2=0
 ·have hb:(L.2.2 != 0)=false:=by rw [h0]; rfl
  obtain ⟨ht,hlen⟩:=Sp (s:=text) (by rw [hL]; exact h0)
  rw [hL] at ht hlen
  simp only [hb,Bool.false_eq_true,if_false]
  have hJ:=(H1h (l:=L.1) (e:=(text.length:Int)) ht (Nat.zero_le _)).expr
  unfold L6
  rcases hJ with ⟨v,j,h1,h2,h3,h4,h5⟩ | ⟨v,j,h2,h4,h5⟩
  ·have h4':S0 (B0.mk L.1 0 (text.length:Int))=some (.ok (v,mk L.1 j (text.length:Int))):=h4
   have h5':V1 L.1 0=some (v,((j:Nat):Int),true):=h5
   have hv:OkE v:=by unfold OkE; unfold BE at h3; unfold BB; omega
   rw [h4',h5',ob,ob]
   simp only [ob,Bool.not_true,cond_false]
   cases hj:decide ((j:Int) < (L.1.length:Int)) with
   | true=>
    simp only [if_true,Ey L.1 _ ht.1,Nu,ob]
    exact ⟨_,rfl,rfl,hz⟩
   | false=>
    simp only [Bool.false_eq_true,if_false,ob]
    rw [Zx v hv,Wu v hv]
    simp only [ob,bne_self_eq_false,Bool.false_eq_true,if_false]
    by_cases hc:(Ba v != 0)=true
    ·rw [if_pos hc]; exact ⟨_,rfl,rfl,hz⟩
    ·rw [if_neg hc]; exact ⟨_,rfl,rfl,hv⟩
  ·have h4':S0 (B0.mk L.1 0 (text.length:Int))=some (.pn (off L.1 (text.length:Int) j)):=h4
   have h5':V1 L.1 0=some (v,((j:Nat):Int),false):=h5
   rw [h4',h5',ob,ob]
   simp only [ob,Bool.not_false,cond_true,if_true,Nu]
   exact ⟨_,rfl,rfl,hz⟩
 ·have hb:(L.2.2 != 0)=true:=by simpa using h0
  simp only [hb,if_true,ob]
  exact ⟨_,rfl,rfl,hz⟩
end Go.Proofs.YtmnhfbekncjnfaaGreatDoor

namespace Go.Proofs.YtmnhfbekncjnfaaGreatDoor
open Go.Am
def BT (k:Nat)(v:C0)(j:Nat):Prop:=v.bulk≤9000 * (j - k)
def Kr (ns:List Str):Nat:=(ns.map fun s=>s.length+1).sum
def BF (ns:List Str)(os:List C0)(k:Nat)(v:C0)(j:Nat):Prop:=v.bulk≤Kr ns+C0.bulks os+8+9000 * (j - k)
theorem W18 (ns:List Str)(s:Str):Kr (ns++[s])=Kr ns+s.length+1:=by unfold Kr; simp; omega
theorem Ou:∀ (os:List C0) (t:C0),C0.bulks (os++[t])=C0.bulks os+t.bulk
 | [],t=>by simp only [List.nil_append,C0.bulks]; omega
 | x::r,t=>by simp only [List.cons_append,C0.bulks,Ou r t]; omega
theorem Zi (a b c d:Int)(s:Str)(ns:List Str)(os:List C0):(C0.mk a b c d s ns os).bulk=s.length+Kr ns+C0.bulks os+8:=by rw [C0.bulk_eq]; rfl
structure PT (l:List F0)(e:Int)(k:Nat):Prop where
 typ:J l e (k+1) (BT k) (E3 (mk l k e)) (L7 l k)
 fld:∀ ns os,ns.length≤k→os.length≤k→J l e k (BF ns os k) (Y6 (mk l k e) ns os) (M7 l ns os ((k:Int) - 1))
section
set_option linter.unusedSectionVars false
variable {l:List F0}{e:Int}(hl:Ta l)
include hl
theorem F1c {k:Nat}(hk:k≤l.length):J l e (k+1) (fun _ _=>True) (E2 (mk l k e)) (G4 l k):=by
 have hB:=hl.1
 unfold E2 G4
 rw [B4 l e hB,ob,Y1 l hB,ob]
 cases h:isT l k [45] with
 | true=>
  have hlt:=A4 h
  simp only [Jb,if_true]
  rw [w1 (by omega),E11 l e hl,Oh l hl]
  cases h1:Y4 l (k+1) 1 with
  | true=>have:=Od h1; exact .ok _ (k+1+1) (by omega) (by omega) trivial
  | false=>exact .pn _ (k+1) (by omega)
 | false=>
  simp only [Z7,Bool.false_eq_true,if_false]
  rw [E11 l e hl,Oh l hl]
  cases h1:Y4 l k 1 with
  | true=>have:=Od h1; exact .ok _ (k+1) (by omega) (by omega) trivial
  | false=>exact .pn _ k hk
section
variable {k:Nat}(hk:k≤l.length)(IH:∀ j,k < j→j≤l.length→PT l e j)
include hk IH
theorem Y1k:J l e (k+1) (BT k) (E3 (mk l k e)) (L7 l k):=by
 have hB:=hl.1
 rw [E3,L7,B4 l e hB,ob,Y1 l hB,ob]
 cases h1:isT l k [98,111,111,108] with
 | true=>
  have:=A4 h1
  simp only [Jb,if_true]
  rw [w1 (by omega)]
  exact .ok _ (k+1) (Nat.le_refl _) (by omega) (by unfold BT; rw [Zi]; simp only [List.length_nil,Kr,List.map_nil,List.sum_nil,C0.bulks]; omega)
 | false=>
  simp only [Z7,Bool.false_eq_true,if_false]
  rw [B4 l e hB,ob,Y1 l hB,ob]
  cases h2:isT l k [105,110,116] with
  | true=>
   have hlt:=A4 h2
   simp only [Jb,if_true]
   rw [w1 (by omega)]
   refine J.rsame ?_
   unfold Vk
   rw [We l e hB,Y1 l hB,ob]
   cases h3:isT l (k+1) [91] with
   | false=>exact .pn _ (k+1) (by omega)
   | true=>
    have h4:=A4 h3
    simp only [if_true,ob,Bool.not_true,Bool.false_eq_true,if_false]
    rw [w1 (by omega)]
    refine J.bind (F1c hl (k:=k+1+1) (by omega)) ?_ ?_ ?_
    ·exact fun _=>rfl
    ·exact fun v j _=>⟨_,rfl⟩
    intro v j h5 h6 _
    simp only [Bool.not_true,Bool.not_false,if_true,cond_false]
    rw [We l e hB,Y1 l hB,ob]
    cases h7:isT l j [46,46] with
    | false=>exact .pn _ j h6
    | true=>
     have h8:=A4 h7
     simp only [if_true,ob,Bool.not_true,Bool.false_eq_true,if_false]
     rw [w1 (by omega)]
     refine J.bind (F1c hl (k:=j+1) (by omega)) ?_ ?_ ?_
     ·exact fun _=>rfl
     ·exact fun v j _=>⟨_,rfl⟩
     intro v2 j2 h9 h10 _
     simp only [Bool.not_true,Bool.not_false,if_true,cond_false]
     rw [We l e hB,Y1 l hB,ob]
     cases h11:isT l j2 [93] with
     | false=>exact .pn _ j2 h10
     | true=>
      have h12:=A4 h11
      simp only [if_true,ob,Bool.not_true,Bool.false_eq_true,if_false]
      rw [w1 (by omega)]
      exact .ok _ (j2+1) (by omega) (by omega) (by unfold BT; rw [Zi]; simp only [List.length_nil,Kr,List.map_nil,List.sum_nil,C0.bulks]; omega)
  | false=>
   simp only [Z7,Bool.false_eq_true,if_false]
   rw [B4 l e hB,ob,Y1 l hB,ob]
   cases h3:isT l k [97,114,114,97,121] with
   | true=>
    have hlt:=A4 h3
    simp only [Jb,if_true]
    rw [w1 (by omega)]
    refine J.bind (F1c hl (k:=k+1) (by omega)) ?_ ?_ ?_
    ·exact fun _=>rfl
    ·exact fun v j _=>⟨_,rfl⟩
    intro v j h5 h6 _
    simp only [Bool.not_true,Bool.not_false,if_true,cond_false]
    rw [We l e hB,Y1 l hB,ob]
    cases h7:isT l j [111,102] with
    | false=>exact .pn _ j h6
    | true=>
     have h8:=A4 h7
     simp only [if_true,ob,Bool.not_true,Bool.false_eq_true,if_false]
     rw [w1 (by omega)]
     refine J.bind (IH (j+1) (by omega) (by omega)).typ ?_ ?_ ?_
     ·exact fun _=>rfl
     ·exact fun v j _=>⟨_,rfl⟩
     intro v2 j2 h9 h10 h0
     refine .ok _ j2 (by omega) h10 ?_
     unfold BT at h0 ⊢
     rw [Zi]
     simp only [List.length_nil,Kr,List.map_nil,List.sum_nil,C0.bulks]
     omega
   | false=>
    simp only [Z7,Bool.false_eq_true,if_false]
    rw [B4 l e hB,ob,Y1 l hB,ob]
    cases h4:isT l k [114,101,99,111,114,100] with
    | true=>
     have hlt:=A4 h4
     simp only [Jb,if_true]
     rw [w1 (by omega)]
     refine J.rsame ?_
     rw [Wo,We l e hB,Y1 l hB,ob]
     cases h5:isT l (k+1) [123] with
     | false=>exact .pn _ (k+1) (by omega)
     | true=>
      have h6:=A4 h5
      simp only [if_true,ob,Bool.not_true,Bool.false_eq_true,if_false]
      have hf:=(IH (k+1+1) (by omega) (by omega)).fld [] [] (Nat.zero_le _) (Nat.zero_le _)
      rw [show ((k+1+1:Nat):Int) - 1=((k+1:Nat):Int) by omega] at hf
      refine hf.mono (by omega) fun v j h7 h8=>?_
      unfold BF at h8
      unfold BT
      simp only [Kr,List.map_nil,List.sum_nil,C0.bulks] at h8
      omega
    | false=>
     simp only [Z7,Bool.false_eq_true,if_false]
     rw [A13 l e hB,Yj l hB]
     cases h5:Y4 l k 0 with
     | false=>exact .pn _ k hk
     | true=>
      have:=Od h5
      have ht:=Xy hl k
      exact .ok _ (k+1) (Nat.le_refl _) (by omega) (by unfold BT; rw [Zi]; simp only [Kr,List.map_nil,List.sum_nil,C0.bulks]; omega)
theorem Z1k (ns:List Str)(os:List C0)(hn:ns.length≤k)(ho:os.length≤k):J l e k (BF ns os k) (Y6 (mk l k e) ns os) (M7 l ns os ((k:Int) - 1)):=by
 have hB:=hl.1
 rw [Y6,M7,Nl,wr (n:=(k:Int) - 1+1) (by omega) (by unfold BB at hB; omega),show (k:Int) - 1+1=(k:Int) by omega,A13 l e hB,Yj l hB]
 cases h1:Y4 l k 0 with
 | false=>exact .pn _ k hk
 | true=>
  have h2:=Od h1
  have ht:=Xy hl k
  simp only [if_true,ob,Bool.not_true,Bool.not_false,cond_false]
  rw [We l e hB,Y1 l hB,ob]
  cases h3:isT l (k+1) [58] with
  | false=>exact .pn _ (k+1) (by omega)
  | true=>
   have h4:=A4 h3
   simp only [if_true,ob,Bool.not_true,Bool.false_eq_true,if_false]
   rw [w1 (by omega)]
   rcases (IH (k+1+1) (by omega) (by omega)).typ with ⟨v,j,h5,h6,h0,h7,h8⟩ | ⟨v,j,h6,h7,h8⟩
   ·rw [h7,h8,ob,ob,ob]
    have r1:decide ((ns.length+1) * 17≤140737488355328)=true:=decide_eq_true (by unfold BB at hB; omega)
    have r2:decide ((os.length+1) * 97≤140737488355328)=true:=decide_eq_true (by unfold BB at hB; omega)
    simp only [r1,r2,if_true,Bool.not_true,Bool.false_eq_true,if_false]
    rw [B4 l e hB,Y1 l hB,ob,ob]
    unfold BT at h0
    cases h9:isT l j [44] with
    | true=>
     have h10:=A4 h9
     have h11:isT l j [125]=false:=by
      cases h:isT l j [125] with
      | false=>rfl
      | true=>have:=(Ag h9).2.2.symm.trans (Ag h).2.2; simp at this
     simp only [h11,Jb,Bool.not_true,Bool.false_eq_true,if_false]
     rw [Y1 l hB,ob,h9]
     simp only [Bool.not_true,Bool.false_eq_true,if_false]
     have hf:=(IH (j+1) (by omega) (by omega)).fld (ns++[txt l k]) (os++[v]) (by rw [List.length_append]; simp only [List.length_singleton]; omega) (by rw [List.length_append]; simp only [List.length_singleton]; omega)
     rw [show ((j+1:Nat):Int) - 1=(j:Int) by omega] at hf
     refine hf.mono (by omega) fun v' j' h12 h13=>?_
     unfold BF at h13 ⊢
     rw [W18,Ou] at h13
     omega
    | false=>
     simp only [Z7,Bool.not_false,if_true]
     rw [We l e hB]
     cases h10:isT l j [125] with
     | true=>
      have h11:=A4 h10
      simp only [if_true,ob]
      rw [w1 (by omega)]
      refine .ok _ (j+1) (by omega) (by omega) ?_
      unfold BF
      rw [Zi,W18,Ou]
      simp only [List.length_nil]
      omega
     | false=>
      simp only [Bool.false_eq_true,if_false,ob]
      rw [Y1 l hB,ob,h9]
      exact .pn _ j h6
   ·rw [h7,h8,ob,ob,ob]
    exact .pn _ j h6
end
theorem S1e:∀ (n k:Nat),l.length - k < n→k≤l.length→PT l e k
 | 0,k,h,_=>absurd h (Nat.not_lt_zero _)
 | n+1,k,h,hk=>by
  have IH:∀ j,k < j→j≤l.length→PT l e j:=fun j h1 h2=>S1e n j (by omega) h2
  exact ⟨Y1k hl hk IH,Z1k hl hk IH⟩
theorem I1h {k:Nat}(hk:k≤l.length):PT l e k:=S1e hl _ k (Nat.lt_succ_self _) hk
end
end Go.Proofs.YtmnhfbekncjnfaaGreatDoor

namespace Go.Proofs.YtmnhfbekncjnfaaGreatDoor
open Go.Am
theorem D14 (text:Str):∃ v,G8 text=some v∧Nq text=some v∧Ok v.1:=by
 have hz:Ok (C0.mk 0 0 0 0 [] [] []):=by unfold Ok; rw [Zi]; unfold BB; decide
 obtain ⟨x1,x2⟩:=Z12 text
 unfold G8 Nq Je
 rw [x1,x2,ob,ob]
 generalize hL:W5 text=L
 by_cases h0:L.2.2=0
 ·have hb:(L.2.2 != 0)=false:=by rw [h0]; rfl
  obtain ⟨ht,hlen⟩:=Sp (s:=text) (by rw [hL]; exact h0)
  rw [hL] at ht hlen
  simp only [hb,Bool.false_eq_true,if_false]
  have hJ:=(I1h (l:=L.1) (e:=(text.length:Int)) ht (Nat.zero_le _)).typ
  unfold Ra
  rcases hJ with ⟨v,j,h1,h2,h3,h4,h5⟩ | ⟨v,j,h2,h4,h5⟩
  ·have h4':E3 (B0.mk L.1 0 (text.length:Int))=some (.ok (v,mk L.1 j (text.length:Int))):=h4
   have h5':L7 L.1 0=some (v,((j:Nat):Int),true):=h5
   have hv:Ok v:=by unfold Ok; unfold BT at h3; unfold BB; omega
   rw [h4',h5',ob,ob]
   simp only [ob,Bool.not_true,cond_false]
   cases hj:decide ((j:Int) < (L.1.length:Int)) with
   | true=>
    simp only [if_true,Ey L.1 _ ht.1,Nu,ob]
    exact ⟨_,rfl,rfl,hz⟩
   | false=>
    simp only [Bool.false_eq_true,if_false,ob]
    rw [Yx v hv,Vu v hv]
    simp only [ob,bne_self_eq_false,Bool.false_eq_true,if_false]
    by_cases hc:(Oc v != 0)=true
    ·rw [if_pos hc]; exact ⟨_,rfl,rfl,hz⟩
    ·rw [if_neg hc]; exact ⟨_,rfl,rfl,hv⟩
  ·have h4':E3 (B0.mk L.1 0 (text.length:Int))=some (.pn (off L.1 (text.length:Int) j)):=h4
   have h5':L7 L.1 0=some (v,((j:Nat):Int),false):=h5
   rw [h4',h5',ob,ob]
   simp only [ob,Bool.not_false,cond_true,if_true,Nu]
   exact ⟨_,rfl,rfl,hz⟩
 ·have hb:(L.2.2 != 0)=true:=by simpa using h0
  simp only [hb,if_true,ob]
  exact ⟨_,rfl,rfl,hz⟩
end Go.Proofs.YtmnhfbekncjnfaaGreatDoor

namespace Go.Proofs.YtmnhfbekncjnfaaGreatDoor
open Go.Am
section
set_option linter.unusedSectionVars false
variable {l:List F0}{e:Int}(hl:Ta l)
include hl
end
end Go.Proofs.YtmnhfbekncjnfaaGreatDoor

namespace Go.Proofs.YtmnhfbekncjnfaaGreatDoor
open Go.Am
section
set_option linter.unusedSectionVars false
variable {l:List F0}{e:Int}(hl:Ta l)
include hl
end
end Go.Proofs.YtmnhfbekncjnfaaGreatDoor

namespace Go.Proofs.YtmnhfbekncjnfaaGreatDoor
open Go.Am
section
set_option linter.unusedSectionVars false
variable {l:List F0}{e:Int}(hl:Ta l)
include hl
end
end Go.Proofs.YtmnhfbekncjnfaaGreatDoor

namespace Go.Proofs.YtmnhfbekncjnfaaGreatDoor
open Go.Am
section
variable {l:List F0}{e:Int}{α β:Type}
end
def BL (out:List K0)(k:Nat)(v:List K0)(j:Nat):Prop:=K0.bulks v≤K0.bulks out+9000 * (j - k)
def BK (k:Nat)(v:List K0)(j:Nat):Prop:=K0.bulks v≤9000 * (j - k)
structure PS (l:List F0)(e:Int)(k:Nat):Prop where
 sts:∀ out,out.length≤k→J l e k (BL out k) (Sa (mk l k e) out) (Tg l k out)
 blk:J l e (k+1) (BK k) (Aa (mk l k e)) (Di l k)
section
set_option linter.unusedSectionVars false
variable {l:List F0}{e:Int}(hl:Ta l)
include hl
section
variable {k:Nat}(hk:k≤l.length)(IH:∀ j,k < j→j≤l.length→PS l e j)
include hk IH
end
end
end Go.Proofs.YtmnhfbekncjnfaaGreatDoor

namespace Go.Proofs.YtmnhfbekncjnfaaGreatDoor
open Go.Am
section
set_option linter.unusedSectionVars false
variable {l:List F0}{e:Int}(hl:Ta l)
include hl
end
end Go.Proofs.YtmnhfbekncjnfaaGreatDoor

namespace Go.Proofs.YtmnhfbekncjnfaaGreatDoor
open Go.Am
end Go.Proofs.YtmnhfbekncjnfaaGreatDoor

namespace Go.Proofs.YtmnhfbekncjnfaaGreatDoor
open Go.Am
abbrev LxR:=List F0×Int×Int
def lx (r:List UInt8)(k:Nat):LxR:=Ad (r.length+1) r k
def J1h (a:F0)(z:LxR):LxR:=if z.2.2=0 then (a::z.1,0,0) else z
theorem O15:∀ (n m:Nat) (r:List UInt8) (k:Nat),r.length < n→r.length < m→Ad n r k=Ad m r k
 | 0,_,_,_,h,_=>absurd h (Nat.not_lt_zero _)
 | _+1,0,_,_,_,h=>absurd h (Nat.not_lt_zero _)
 | n+1,m+1,r,k,hn,hm=>by
  unfold Ad
  cases hd:r.drop (skp false r) with
  | nil=>rfl
  | cons c t=>
   have hle:(c::t).length≤r.length:=by rw [← hd,List.length_drop]; omega
   simp only
   by_cases hx:(nxt (c::t) ((k+skp false r:Nat):Int)).2=0
   ·obtain ⟨b1,b2,_,_⟩:=Zf hx
    rw [if_pos hx,if_pos hx,O15 n m _ _ (by rw [List.length_drop]; omega) (by rw [List.length_drop]; omega)]
   ·rw [if_neg hx,if_neg hx]
theorem Z1j {r:List UInt8}(h:r.drop (skp false r)=[])(k:Nat):lx r k=([],0,0):=by
 unfold lx Ad
 rw [h]
theorem Q1i {r t:List UInt8}{c:UInt8}(h:r.drop (skp false r)=c::t)(k:Nat)(hx:(nxt (c::t) ((k+skp false r:Nat):Int)).2=0) :
  lx r k=J1h (nxt (c::t) ((k+skp false r:Nat):Int)).1 (lx ((c::t).drop (nxt (c::t) ((k+skp false r:Nat):Int)).1.Text.length) (k+skp false r+(nxt (c::t) ((k+skp false r:Nat):Int)).1.Text.length)):=by
 have hle:(c::t).length≤r.length:=by rw [← h,List.length_drop]; omega
 obtain ⟨b1,b2,_,_⟩:=Zf hx
 have hf:=O15 r.length (((c::t).drop (nxt (c::t) ((k+skp false r:Nat):Int)).1.Text.length).length+1) ((c::t).drop (nxt (c::t) ((k+skp false r:Nat):Int)).1.Text.length) (k+skp false r+(nxt (c::t) ((k+skp false r:Nat):Int)).1.Text.length) (by rw [List.length_drop]; omega) (Nat.lt_succ_self _)
 unfold lx
 rw [Ad]
 rw [h]
 simp only
 rw [if_pos hx,hf]
 rfl
theorem A1k {r t:List UInt8}{c:UInt8}(h:r.drop (skp false r)=c::t)(k:Nat)(hx:¬(nxt (c::t) ((k+skp false r:Nat):Int)).2=0):lx r k=([],((k+skp false r:Nat):Int),(nxt (c::t) ((k+skp false r:Nat):Int)).2):=by
 unfold lx
 rw [Ad]
 rw [h]
 simp only
 rw [if_neg hx]
theorem R1i (s:Str):W5 s=if s.length > 8192 then ([],0,5) else lx s 0:=rfl
def brk (d:UInt8):Bool:=!ld d && !(d == 46||d == 61||d == 38||d == 124)
theorem Oi {d:UInt8}(h:brk d=true)(c:UInt8):Ug [c,d]=false:=by
 unfold brk at h
 rw [Bool.and_eq_true,Bool.not_eq_true',Bool.not_eq_true',Bool.or_eq_false_iff,Bool.or_eq_false_iff,Bool.or_eq_false_iff] at h
 obtain ⟨_,⟨⟨h1,h2⟩,h3⟩,h4⟩:=h
 have f:∀ a b:UInt8,(d == b)=false→(([c,d]:List UInt8) == [a,b])=false:=fun a b hb=>beq_eq_false_iff_ne.2 fun e=>by
  injection e with _ e
  injection e with e _
  rw [e] at hb
  simp at hb
 unfold Ug
 rw [f 46 46 h1,f 61 61 h2,f 33 61 h2,f 60 61 h2,f 62 61 h2,f 38 38 h3,f 124 124 h4]
 rfl
end Go.Proofs.YtmnhfbekncjnfaaGreatDoor

namespace Go.Proofs.YtmnhfbekncjnfaaGreatDoor
open Go.Am
section
variable {l l':List F0}{s:Nat}{w:Bool}{α β:Type}
end
section
set_option linter.unusedSectionVars false
variable {l l':List F0}{s:Nat}{w:Bool}{α β:Type}(hl:Ta l)(hl':Ta l')(hs:l.length+s+8≤BB)
include hl hl' hs
end
end Go.Proofs.YtmnhfbekncjnfaaGreatDoor

namespace Go.Proofs.YtmnhfbekncjnfaaGreatDoor
open Go.Am
section
set_option linter.unusedSectionVars false
variable {l l':List F0}{s:Nat}{w:Bool}{α β:Type}(hl:Ta l)(hl':Ta l')(hs:l.length+s+8≤BB)
include hl hl' hs
end
end Go.Proofs.YtmnhfbekncjnfaaGreatDoor

namespace Go.Proofs.YtmnhfbekncjnfaaGreatDoor
open Go.Am
section
set_option linter.unusedSectionVars false
variable {l l':List F0}{s:Nat}{α β:Type}(hl:Ta l)(hl':Ta l')(hs:l.length+s+8≤BB)
include hl hl' hs
end
end Go.Proofs.YtmnhfbekncjnfaaGreatDoor

namespace Go.Proofs.YtmnhfbekncjnfaaGreatDoor
open Go.Am
def G1c (l:List F0)(e:Int)(v:A0)(j:Nat)(ok:Bool):A0×Int×Int:=
 if ok&&j == l.length then (if Ba v != 0 then ((A0.mk 0 0 [] []),0,Ba v) else (v,0,0)) else (A0.mk 0 0 [] [],off l e j,6)
theorem A16 (text:Str)(h:(W5 text).2.2=0):∃ v j ok,V1 (W5 text).1 ((0:Nat):Int)=some (v,((j:Nat):Int),ok)∧j≤(W5 text).1.length∧
  O3 text=some (G1c (W5 text).1 (text.length:Int) v j ok)∧OkE (G1c (W5 text).1 (text.length:Int) v j ok).1:=by
 have hz:OkE (A0.mk 0 0 [] []):=by unfold OkE; rw [Yy]; unfold BB; simp
 obtain ⟨x1,_⟩:=Z12 text
 obtain ⟨ht,hlen⟩:=Sp h
 have hb:((W5 text).2.2 != 0)=false:=by rw [h]; rfl
 unfold O3 Td
 rw [x1,ob]
 simp only [hb,Bool.false_eq_true,if_false]
 unfold L6 G1c
 rcases (H1h (l:=(W5 text).1) (e:=(text.length:Int)) ht (Nat.zero_le _)).expr with ⟨v,j,h1,h2,h3,h4,h5⟩ | ⟨v,j,h2,h4,h5⟩
 ·have h4':S0 (B0.mk (W5 text).1 0 (text.length:Int))=some (.ok (v,mk (W5 text).1 j (text.length:Int))):=h4
  have hv:OkE v:=by unfold OkE; unfold BE at h3; unfold BB; omega
  refine ⟨v,j,true,h5,h2,?_⟩
  rw [h4',ob]
  simp only [ob,Bool.true_and]
  by_cases hj:j=(W5 text).1.length
  ·have e1:decide ((j:Int) < ((W5 text).1.length:Int))=false:=decide_eq_false (by omega)
   have e2:(j == (W5 text).1.length)=true:=by simpa using hj
   rw [e1,if_neg (by simp),e2]
   simp only [ob,bne_self_eq_false,Bool.false_eq_true,if_false,if_true]
   rw [Zx v hv,ob]
   by_cases hc:(Ba v != 0)=true
   ·exact ⟨by rw [if_pos hc,if_pos hc],by rw [if_pos hc]; exact hz⟩
   ·exact ⟨by rw [if_neg hc,if_neg hc],by rw [if_neg hc]; exact hv⟩
  ·have e1:decide ((j:Int) < ((W5 text).1.length:Int))=true:=decide_eq_true (by omega)
   have e2:(j == (W5 text).1.length)=false:=by simpa using hj
   rw [e1,if_pos rfl,e2,Ey (W5 text).1 _ ht.1,ob]
   exact ⟨rfl,hz⟩
 ·have h4':S0 (B0.mk (W5 text).1 0 (text.length:Int))=some (.pn (off (W5 text).1 (text.length:Int) j)):=h4
  refine ⟨v,j,false,h5,h2,?_⟩
  rw [h4',ob]
  exact ⟨rfl,hz⟩
theorem B1k (r:List UInt8)(k k':Int):nxt r k'=((F0.mk (nxt r k).1.Kind (nxt r k).1.Text k'),(nxt r k).2):=by
 unfold nxt
 split
 ·split
  ·rfl
  ·split <;> rfl
 ·split
  ·rfl
  ·split
   ·rfl
   ·split <;> rfl
theorem J1a {c:UInt8}(h:([46,61,33,60,62,38,124]:List UInt8).contains c=false)(t:List UInt8):Ug (c::t)=false:=by
 have f:∀ a∈([46,61,33,60,62,38,124]:List UInt8),∀ b:UInt8,((c::t) == [a,b])=false:=fun a ha b=>beq_eq_false_iff_ne.2 fun e=>by
  injection e with e _
  subst e
  rw [List.contains_iff_mem.2 ha] at h
  cases h
 unfold Ug
 rw [f 46 (by decide),f 61 (by decide),f 33 (by decide),f 60 (by decide),f 62 (by decide),f 38 (by decide),f 124 (by decide)]
 rfl
theorem T1g {c:UInt8}{t:List UInt8}{k:Int}(h:(nxt (c::t) k).2=0)(r:List UInt8):skp false (c::r)=0:=by
 have no:∀ d:UInt8,X4 d.toNat=false→Q4 d.toNat=false→([46,61,33,60,62,38,124]:List UInt8).contains d=false→Mi d=false→c=d→False:=fun d h1 h2 h3 h4 e=>by
  subst e
  revert h
  unfold nxt
  simp only [List.getD_cons_zero,h1,h2,h4,Bool.false_eq_true,if_false]
  have:Ug ((c::t).take 2)=false:=by rw [List.take_succ_cons]; exact J1a h3 _
  rw [this,Bool.and_false,if_neg (by simp)]
  intro h
  cases h
 have u:∀ d:UInt8,((c.toNat:Int) == (d.toNat:Int))=true→c=d:=fun d h=>UInt8.toNat_inj.1 (by have:=eq_of_beq h; omega)
 simp only [skp]
 by_cases h1:((c.toNat:Int) == 35)=true
 ·exact (no 35 rfl rfl rfl rfl (u 35 h1)).elim
 rw [if_neg h1]
 by_cases h2:((c.toNat:Int) == 32)=true
 ·exact (no 32 rfl rfl rfl rfl (u 32 h2)).elim
 by_cases h3:((c.toNat:Int) == 9)=true
 ·exact (no 9 rfl rfl rfl rfl (u 9 h3)).elim
 by_cases h4:((c.toNat:Int) == 10)=true
 ·exact (no 10 rfl rfl rfl rfl (u 10 h4)).elim
 rw [if_neg]
 simp only [Bool.or_eq_true,not_or]
 exact ⟨h2,h3,h4⟩
def key (x:F0):Int×Str:=(x.Kind,x.Text)
theorem A1l {l:List F0}{k:Nat}{x:F0}(h:l[k]?=some x){t:Str}(hn:(x.Text == t)=false):isT l k t=false:=by
 unfold isT
 rw [h]
 simp only [hn,Bool.false_and]
theorem U1g {l:List F0}(hl:Ta l){p q:Nat}{v:A0}(ho:∃ x,l[p]?=some x∧x.Kind=3∧x.Text=[40])(h:V1 l ((p+1:Nat):Int)=some (v,(q:Int),true))(hc:∃ x,l[q]?=some x∧x.Kind=3∧x.Text=[41]) :
  I3 l p=some (v,((q+1:Nat):Int),true):=by
 have hB:=hl.1
 obtain ⟨x,hx,hk,ht⟩:=ho
 obtain ⟨y,hy,hyk,hyt⟩:=hc
 have hp:=Ve hx
 have hq:=Ve hy
 have no:∀ t:Str,(([40]:Str) == t)=false→isT l p t=false:=fun t h=>A1l hx (by rw [ht]; exact h)
 have hop:isT l p [40]=true:=by unfold isT; rw [hx]; simp only [hk,ht]; decide
 have hcl:isT l q [41]=true:=by unfold isT; rw [hy]; simp only [hyk,hyt]; decide
 have pr:F4 l p=some (v,((q+1:Nat):Int),true):=by
  rw [F4]
  simp only [Y1 l hB,ob,no [116,114,117,101] (by decide),no [102,97,108,115,101] (by decide),no [109,105,110] (by decide),no [109,97,120] (by decide),hop,Bool.not_false,if_true,Bool.false_eq_true,if_false,cond_false]
  rw [w1 (by omega),h,ob]
  simp only [Bool.not_true,Bool.not_false,if_true,cond_false]
  rw [Y1 l hB,ob,hcl]
  simp only [Bool.not_true,Bool.false_eq_true,if_false]
  rw [w1 (by omega)]
 rw [I3]
 simp only [Y1 l hB,ob,no [45] (by decide),no [33] (by decide),Bool.not_false,if_true,cond_true]
 rw [pr,ob]
end Go.Proofs.YtmnhfbekncjnfaaGreatDoor

namespace Go.Proofs.YtmnhfbekncjnfaaGreatDoor
open Go.Am
end Go.Proofs.YtmnhfbekncjnfaaGreatDoor

namespace Go.Proofs.YtmnhfbekncjnfaaGreatDoor
open Go.Am
end Go.Proofs.YtmnhfbekncjnfaaGreatDoor

namespace Go.Proofs.YtmnhfbekncjnfaaGreatDoor
open Go.Am
end Go.Proofs.YtmnhfbekncjnfaaGreatDoor

namespace Go.Proofs.YtmnhfbekncjnfaaGreatDoor
open Go.Am
def tk:Nat→List UInt8→List (Int×Str)×Int
 | 0,_=>([],0)
 | n+1,r=>
  match r.drop (skp false r) with
  | []=>([],0)
  | c::t=>if (nxt (c::t) 0).2=0 then (key (nxt (c::t) 0).1::(tk n ((c::t).drop (nxt (c::t) 0).1.Text.length)).1,(tk n ((c::t).drop (nxt (c::t) 0).1.Text.length)).2) else ([],(nxt (c::t) 0).2)
def txk (r:List UInt8):List (Int×Str)×Int:=tk (r.length+1) r
theorem K1a:∀ (n m:Nat) (r:List UInt8),r.length < n→r.length < m→tk n r=tk m r
 | 0,_,_,h,_=>absurd h (Nat.not_lt_zero _)
 | _+1,0,_,_,h=>absurd h (Nat.not_lt_zero _)
 | n+1,m+1,r,hn,hm=>by
  unfold tk
  cases hd:r.drop (skp false r) with
  | nil=>rfl
  | cons c t=>
   have hle:(c::t).length≤r.length:=by rw [← hd,List.length_drop]; omega
   simp only
   by_cases hx:(nxt (c::t) 0).2=0
   ·obtain ⟨b1,b2,_,_⟩:=Zf hx
    rw [if_pos hx,if_pos hx,K1a n m _ (by rw [List.length_drop]; omega) (by rw [List.length_drop]; omega)]
   ·rw [if_neg hx,if_neg hx]
theorem Bt {r:List UInt8}(h:r.drop (skp false r)=[]):txk r=([],0):=by
 unfold txk tk
 rw [h]
theorem Tp {r t:List UInt8}{c:UInt8}(h:r.drop (skp false r)=c::t)(hx:(nxt (c::t) 0).2=0) :
  txk r=(key (nxt (c::t) 0).1::(txk ((c::t).drop (nxt (c::t) 0).1.Text.length)).1,(txk ((c::t).drop (nxt (c::t) 0).1.Text.length)).2):=by
 have hle:(c::t).length≤r.length:=by rw [← h,List.length_drop]; omega
 obtain ⟨b1,b2,_,_⟩:=Zf hx
 have hf:=K1a r.length (((c::t).drop (nxt (c::t) 0).1.Text.length).length+1) ((c::t).drop (nxt (c::t) 0).1.Text.length) (by rw [List.length_drop]; omega) (Nat.lt_succ_self _)
 unfold txk
 rw [tk]
 rw [h]
 simp only
 rw [if_pos hx,hf]
theorem Cz {r t:List UInt8}{c:UInt8}(h:r.drop (skp false r)=c::t)(hx:¬(nxt (c::t) 0).2=0):txk r=([],(nxt (c::t) 0).2):=by
 unfold txk
 rw [tk]
 rw [h]
 simp only
 rw [if_neg hx]
theorem T1e:∀ (n:Nat) (r:List UInt8) (k:Nat),r.length < n→(lx r k).2.2=(txk r).2∧((txk r).2=0→(lx r k).1.map key=(txk r).1)
 | 0,_,_,h=>absurd h (Nat.not_lt_zero _)
 | n+1,r,k,h=>by
  cases hd:r.drop (skp false r) with
  | nil=>rw [Z1j hd,Bt hd]; exact ⟨rfl,fun _=>rfl⟩
  | cons c t=>
   have hlen:(c::t).length=r.length - skp false r:=by rw [← hd,List.length_drop]
   have e:=B1k (c::t) 0 ((k+skp false r:Nat):Int)
   by_cases hx:(nxt (c::t) 0).2=0
   ·have hx':(nxt (c::t) ((k+skp false r:Nat):Int)).2=0:=by rw [e]; exact hx
    obtain ⟨b1,b2,_,_⟩:=Zf hx
    rw [Q1i hd k hx',Tp hd hx,e]
    obtain ⟨i1,i2⟩:=T1e n ((c::t).drop (nxt (c::t) 0).1.Text.length) (k+skp false r+(nxt (c::t) 0).1.Text.length) (by rw [List.length_drop]; omega)
    unfold J1h
    simp only
    split
    ·rename_i hz
     rw [i1] at hz
     exact ⟨hz.symm,fun _=>by rw [List.map_cons,i2 hz]; rfl⟩
    ·rename_i hz
     exact ⟨i1,fun h0=>absurd (i1.trans h0) hz⟩
   ·rw [A1k hd k (by rw [e]; exact hx),Cz hd hx,e]
    exact ⟨rfl,fun h0=>absurd h0 hx⟩
def E14 (z:List (Int×Str)):List F0:=z.map fun x=>F0.mk x.1 x.2 0
theorem V1g (z:List (Int×Str)):(E14 z).map key=z:=by
 unfold E14
 rw [List.map_map]
 exact List.map_id'' (fun x=>rfl) z
theorem L1a:∀ (n:Nat) (r:List UInt8),r.length < n→r.length≤8192→(∀ x∈E14 (txk r).1,Tok x)∧(txk r).1.length≤r.length
 | 0,_,h,_=>absurd h (Nat.not_lt_zero _)
 | n+1,r,h,h8=>by
  cases hd:r.drop (skp false r) with
  | nil=>rw [Bt hd]; exact ⟨nofun,Nat.zero_le _⟩
  | cons c t=>
   have hlen:(c::t).length=r.length - skp false r:=by rw [← hd,List.length_drop]
   have hl1:(c::t).length=t.length+1:=rfl
   by_cases hx:(nxt (c::t) 0).2=0
   case neg=>rw [Cz hd hx]; exact ⟨nofun,Nat.zero_le _⟩
   obtain ⟨b1,b2,b3,_⟩:=Zf hx
   rw [Tp hd hx]
   obtain ⟨i1,i2⟩:=L1a n ((c::t).drop (nxt (c::t) 0).1.Text.length) (by rw [List.length_drop]; omega) (by rw [List.length_drop]; omega)
   rw [List.length_drop] at i2
   refine ⟨fun x hm=>?_,by rw [List.length_cons]; omega⟩
   rcases List.mem_cons.1 hm with rfl | hm
   ·have:=I1a (by omega) hx
    exact ⟨this.len,this.word,this.num⟩
   ·exact i1 x hm
def At (C:Int)(l:List F0)(k:Nat)(r:Str):Prop:=(txk r).1=(l.drop k).map key∧(txk r).2=C
theorem U1e {d:UInt8}(h:d=32∨d=9∨d=10)(r:Str):txk (d::r)=txk r:=by
 have hs:skp false (d::r)=skp false r+1:=by rcases h with rfl | rfl | rfl <;> rfl
 have hd:(d::r).drop (skp false (d::r))=r.drop (skp false r):=by rw [hs,List.drop_succ_cons]
 cases hb:r.drop (skp false r) with
 | nil=>rw [Bt hb,Bt (hd.trans hb)]
 | cons c t=>
  by_cases hx:(nxt (c::t) 0).2=0
  ·rw [Tp hb hx,Tp (hd.trans hb) hx]
  ·rw [Cz hb hx,Cz (hd.trans hb) hx]
section
variable {C:Int}{l:List F0}{k:Nat}{r:Str}
theorem At.blank {d:UInt8}(hd:d=32∨d=9∨d=10)(h:At C l k (d::r)):At C l k r:=by
 unfold At at h ⊢
 rw [U1e hd] at h
 exact h
theorem At.sp (h:At C l k (32::r)):At C l k r:=At.blank (.inl rfl) h
theorem At.tok {w:Str}{kd:Int}(hne:w≠[])(hn:∀ q:Int,nxt (w++r) q=(F0.mk kd w q,0))(h:At C l k (w++r)):∃ x,l[k]?=some x∧x.Kind=kd∧x.Text=w∧At C l (k+1) r:=by
 obtain ⟨h2,h1⟩:=h
 obtain ⟨c,t,rfl⟩:∃ c t,w=c::t:=by
  cases w with
  | nil=>exact absurd rfl hne
  | cons c t=>exact ⟨c,t,rfl⟩
 have hs:skp false (c::t++r)=0:=T1g (k:=0) (t:=t++r) (by rw [← List.cons_append,hn]) (t++r)
 have hd:(c::t++r).drop (skp false (c::t++r))=c::(t++r):=by rw [hs]; rfl
 have e:txk (c::t++r)=((kd,c::t)::(txk r).1,(txk r).2):=by
  have hn':nxt (c::(t++r)) 0=(F0.mk kd (c::t) 0,0):=hn 0
  rw [Tp hd (by rw [hn']),hn']
  simp only
  rw [← List.cons_append,List.drop_left]
  rfl
 rw [e] at h1 h2
 cases hl:l.drop k with
 | nil=>rw [hl] at h2; cases h2
 | cons x y=>
  rw [hl,List.map_cons] at h2
  injection h2 with h4 h5
  injection h4 with h6 h7
  obtain ⟨_,i2,i3,_,_⟩:=V3 hl
  rw [Hl] at i2
  exact ⟨x,i2,h6.symm,h7.symm,by rw [i3]; exact h5,h1⟩
theorem Fy:∀ {w:Str},(∀ c∈w,ld c=true)→NN ld r→E4 (w++r)=w.length
 | [],_,hr=>by
  cases r with
  | nil=>rfl
  | cons c r=>have:ld c=false:=hr; simp [E4,this]
 | c::w,h,hr=>by
  simp only [List.cons_append,E4,h c List.mem_cons_self,cond_true,List.length_cons]
  rw [Fy (fun c hc=>h c (List.mem_cons_of_mem _ hc)) hr]
theorem X18 {w:Str}(h:∀ c∈w,ld c=true)(hh:∃ c t,w=c::t∧X4 c.toNat=true)(hr:NN ld r)(q:Int) :
  nxt (w++r) q=if Yh w then (F0.mk 2 w q,0) else if decide ((w.length:Int) > 12) then (F0.mk 0 w q,7) else (F0.mk 0 w q,0):=by
 have h1:=Fy h hr
 have h2:(w++r).take w.length=w:=List.take_left
 obtain ⟨c,t,hc,hl⟩:=hh
 have h3:(w++r).getD 0 0=c:=by rw [hc]; rfl
 unfold nxt
 rw [h1,h2,h3,hl,if_pos rfl]
def kwB (w:Str):Bool:=w.all ld&&(match w with | c::_=>X4 c.toNat | []=>false)&&Yh w
theorem C1k {w:Str}(h:kwB w=true):(∀ c∈w,ld c=true)∧(∃ c t,w=c::t∧X4 c.toNat=true)∧Yh w=true:=by
 unfold kwB at h
 rw [Bool.and_eq_true,Bool.and_eq_true] at h
 refine ⟨List.all_eq_true.1 h.1.1,?_,h.2⟩
 cases w with
 | nil=>exact absurd h.1.2 (by decide)
 | cons c t=>exact ⟨c,t,rfl,h.1.2⟩
theorem V1e {x:F0}(h:l[k]?=some x)(hk:x.Kind=2∨x.Kind=3)(t:Str):isT l k t=(x.Text == t):=by
 unfold isT
 rw [h]
 simp only
 rcases hk with hk | hk <;> rw [hk] <;> cases x.Text == t <;> rfl
theorem At.kw {w:Str}(hw:kwB w=true)(hr:NN ld r)(h:At C l k (w++r)):(∃ x,l[k]?=some x∧x.Kind=2∧x.Text=w)∧At C l (k+1) r:=by
 obtain ⟨h1,h2,h3⟩:=C1k hw
 obtain ⟨x,a,b,c,d⟩:=At.tok (kd:=2) (by obtain ⟨c,t,e,_⟩:=h2; rw [e]; exact List.cons_ne_nil _ _) (fun q=>by rw [X18 h1 h2 hr,h3,if_pos rfl]) h
 exact ⟨⟨x,a,b,c⟩,d⟩
theorem W1g {w:Str}(h:T5 w=true):¬(w.length:Int) > 12:=by
 unfold T5 at h
 intro hg
 rw [decide_eq_false (by omega)] at h
 cases h
theorem At.nm {w:Str}(hw:T5 w=true)(hr:NN ld r)(h:At C l k (w++r)):Y4 l k 0=true∧txt l k=w∧At C l (k+1) r:=by
 obtain ⟨h1,h2,h3⟩:=Z13 hw
 have h4:=W1g hw
 obtain ⟨x,a,b,c,d⟩:=At.tok (kd:=0) (by obtain ⟨c,t,e,_⟩:=h2; rw [e]; exact List.cons_ne_nil _ _) (fun q=>by rw [X18 h1 h2 hr,h3,if_neg (by simp),decide_eq_false h4,if_neg (by simp)]) h
 refine ⟨?_,?_,d⟩
 ·unfold Y4; rw [a]; simp only [b]; rfl
 ·unfold txt; rw [a]; exact c
theorem At.s1 {c:UInt8}(hc:(Mi c && !X4 c.toNat && !Q4 c.toNat)=true)(ht:Ug ((c::r).take 2)=false)(h:At C l k (c::r)):(∃ x,l[k]?=some x∧x.Kind=3∧x.Text=[c])∧At C l (k+1) r:=by
 rw [Bool.and_eq_true,Bool.and_eq_true,Bool.not_eq_true',Bool.not_eq_true'] at hc
 obtain ⟨x,a,b,d,e⟩:=At.tok (w:=[c]) (kd:=3) (by simp) (fun q=>by
  unfold nxt
  rw [List.singleton_append,List.getD_cons_zero,hc.1.2,if_neg (by simp),hc.2,if_neg (by simp),ht,Bool.and_false,if_neg (by simp),hc.1.1,if_pos rfl]) h
 exact ⟨⟨x,a,b,d⟩,e⟩
theorem At.s2 {c d:UInt8}(hc:(!X4 c.toNat && !Q4 c.toNat&&Ug [c,d])=true)(h:At C l k (c::d::r)):(∃ x,l[k]?=some x∧x.Kind=3∧x.Text=[c,d])∧At C l (k+1) r:=by
 rw [Bool.and_eq_true,Bool.and_eq_true,Bool.not_eq_true',Bool.not_eq_true'] at hc
 obtain ⟨x,a,b,d,e⟩:=At.tok (w:=[c,d]) (kd:=3) (by simp) (fun q=>by
  have ht:(decide (2≤([c,d]++r).length)&&Ug (([c,d]++r).take 2))=true:=by
   rw [show ([c,d]++r).take 2=[c,d] from rfl,hc.2,Bool.and_true]
   exact decide_eq_true (by simp)
  unfold nxt
  rw [ht,if_pos rfl,show ([c,d]++r).take 2=[c,d] from rfl,show ([c,d]++r).getD 0 0=c from rfl,hc.1.1,if_neg (by simp),hc.1.2,if_neg (by simp)]) h
 exact ⟨⟨x,a,b,d⟩,e⟩
def p1B (c:UInt8):Bool:=Mi c && !X4 c.toNat && !Q4 c.toNat && !([46,61,33,60,62,38,124]:List UInt8).contains c
theorem At.p1 {c:UInt8}(hc:p1B c=true)(h:At C l k (c::r)):(∃ x,l[k]?=some x∧x.Kind=3∧x.Text=[c])∧At C l (k+1) r:=by
 unfold p1B at hc
 rw [Bool.and_eq_true,Bool.not_eq_true'] at hc
 exact At.s1 hc.1 (by rw [List.take_succ_cons]; exact J1a hc.2 _) h
def Lr (d:UInt8):Bool:=!(d == 46||d == 61||d == 38||d == 124)
theorem W1e {d:UInt8}(h:Lr d=true)(c:UInt8)(t:Str):Ug ((c::d::t).take 2)=false:=by
 unfold Lr at h
 rw [Bool.not_eq_true',Bool.or_eq_false_iff,Bool.or_eq_false_iff,Bool.or_eq_false_iff] at h
 obtain ⟨⟨⟨h1,h2⟩,h3⟩,h4⟩:=h
 have f:∀ a b:UInt8,(d == b)=false→(([c,d]:List UInt8) == [a,b])=false:=fun a b hb=>beq_eq_false_iff_ne.2 fun e=>by
  injection e with _ e
  injection e with e _
  rw [e] at hb
  simp at hb
 show Ug [c,d]=false
 unfold Ug
 rw [f 46 46 h1,f 61 61 h2,f 33 61 h2,f 60 61 h2,f 62 61 h2,f 38 38 h3,f 124 124 h4]
 rfl
theorem Y18 {c:UInt8}(h:X4 c.toNat=true):Lr c=true:=by
 cases hn:Lr c with
 | true=>rfl
 | false=>
  unfold Lr at hn
  simp only [Bool.not_eq_false',Bool.or_eq_true,beq_iff_eq] at hn
  rcases hn with ((rfl | rfl) | rfl) | rfl <;> exact absurd h (by decide)
theorem At.n1 {c d:UInt8}{t:Str}(hc:(Mi c && !X4 c.toNat && !Q4 c.toNat)=true)(hd:Lr d=true)(hr:r=d::t)(h:At C l k (c::r)):(∃ x,l[k]?=some x∧x.Kind=3∧x.Text=[c])∧At C l (k+1) r:=
 At.s1 hc (by rw [hr]; exact W1e hd c t) h
theorem U5 {c:Str}(h:∃ x,l[k]?=some x∧x.Kind=3∧x.Text=c)(t:Str):isT l k t=(c == t):=by
 obtain ⟨x,a,b,d⟩:=h
 rw [V1e a (.inr b),d]
theorem T7 {c:Str}(h:∃ x,l[k]?=some x∧x.Kind=2∧x.Text=c)(t:Str):isT l k t=(c == t):=by
 obtain ⟨x,a,b,d⟩:=h
 rw [V1e a (.inl b),d]
theorem P4 {kd:Int}{c:Str}(h:∃ x,l[k]?=some x∧x.Kind=kd∧x.Text=c):k < l.length:=by
 obtain ⟨x,a,_⟩:=h
 exact Ve a
theorem S1i (m:Nat):1≤m→((Lib.decDigits m).getD 0 0).toNat≠48:=by
 induction m using Nat.strongRecOn with
 | ind m ih=>
 intro h1
 rw [Lib.decDigits]
 by_cases h:m < 10
 ·rw [dif_pos h]
  show (UInt8.ofNat (48+m)).toNat≠48
  rw [Vy m h]; omega
 ·rw [dif_neg h]
  have i:=ih (m / 10) (by omega) (by omega)
  obtain ⟨_,_,i3⟩:=Ql (m / 10)
  cases hd:Lib.decDigits (m / 10) with
  | nil=>exact absurd hd i3
  | cons c t=>rw [hd] at i; exact i
theorem D1k {m:Nat}(h:m≤1048576):Ym (Lib.decDigits m)=0∧nv 0 (Lib.decDigits m)=m:=by
 obtain ⟨d1,d2,d3⟩:=Ql m
 have hn:nv 0 (Lib.decDigits m)=m:=d1
 refine ⟨?_,hn⟩
 have ha:(Lib.decDigits m).all (fun c=>Q4 c.toNat)=true:=List.all_eq_true.2 d2
 have hz:Rl (Lib.decDigits m)=false:=by
  unfold Rl
  rcases Nat.eq_zero_or_pos m with h0 | h0
  ·subst h0; decide +kernel
  ·have:=S1i m h0
   have h1:((((Lib.decDigits m).getD 0 0).toNat:Int) == 48)=false:=beq_eq_false_iff_ne.2 (by omega)
   rw [h1,Bool.and_false]
 unfold Ym
 rw [ha,hz,hn,B14 h]
 rfl
theorem E1k {c:UInt8}(h:Q4 c.toNat=true):X4 c.toNat=false:=by
 have:=Nh.1 h
 unfold X4
 rw [decide_eq_false (by omega)]
 rfl
theorem At.num {m:Nat}(hm:m≤1048576)(hr:NN ld r)(h:At C l k (Lib.decDigits m++r)):Y4 l k 1=true∧Mu l k=m∧At C l (k+1) r:=by
 obtain ⟨d1,d2,d3⟩:=Ql m
 obtain ⟨n1,n2⟩:=D1k hm
 have hld:∀ c∈Lib.decDigits m,ld c=true:=fun c hc=>by
  have:Q4 c.toNat=true:=d2 c hc
  unfold ld
  rw [this]
  cases X4 c.toNat <;> rfl
 obtain ⟨x,a,b,c,d⟩:=At.tok (kd:=1) d3 (fun q=>by
  have h1:=Fy hld hr
  have h2:(Lib.decDigits m++r).take (Lib.decDigits m).length=Lib.decDigits m:=List.take_left
  have h3:∃ c,(Lib.decDigits m++r).getD 0 0=c∧Q4 c.toNat=true:=by
   cases hd:Lib.decDigits m with
   | nil=>exact absurd hd d3
   | cons c t=>exact ⟨c,rfl,d2 c (by rw [hd]; exact List.mem_cons_self)⟩
  obtain ⟨c,h4,h5⟩:=h3
  unfold nxt
  rw [h1,h2,h4,E1k h5,if_neg (by simp),h5,if_pos rfl,n1]) h
 refine ⟨?_,?_,d⟩
 ·unfold Y4; rw [a]; simp only [b]; rfl
 ·unfold Mu txt; rw [a]; simp only [c]; rw [n2]
theorem Dz (h:Y4 l k 1=true)(t:Str):isT l k t=false:=by
 cases h':isT l k t with
 | false=>rfl
 | true=>rw [(Ag h').2.1] at h; cases h
theorem At.int (hl:Ta l){n:Int}(h1 : -1048576≤n)(h2:n≤1048576)(hr:NN ld r)(h:At C l k (Lib.itoa n++r)):∃ k',k < k'∧k'≤l.length∧At C l k' r∧G4 l k=some (n,((k':Nat):Int),true):=by
 have hB:=hl.1
 unfold Lib.itoa at h
 by_cases hn:n < 0
 ·rw [if_pos hn] at h
  obtain ⟨m,hm⟩:∃ m:Nat,n.natAbs=m:=⟨_,rfl⟩
  rw [hm] at h
  obtain ⟨a,b⟩:=At.p1 (by decide) (show At C l k (45::(Lib.decDigits m++r)) from h)
  obtain ⟨c,d,e⟩:=At.num (m:=m) (by omega) hr b
  have hlt:=Od c
  refine ⟨k+1+1,by omega,by omega,e,?_⟩
  unfold G4
  rw [Y1 l hB,ob,U5 a,if_pos (by decide),w1 (by omega),Oh l hl,c,if_pos rfl,ob,d]
  simp only
  rw [wr (by omega) (by omega)]
  congr 2
  omega
 ·rw [if_neg hn] at h
  obtain ⟨m,hm⟩:∃ m:Nat,n.toNat=m:=⟨_,rfl⟩
  rw [hm] at h
  obtain ⟨c,d,e⟩:=At.num (m:=m) (by omega) hr h
  have hlt:=Od c
  refine ⟨k+1,by omega,by omega,e,?_⟩
  unfold G4
  rw [Y1 l hB,ob,Dz c,if_neg (by simp),Oh l hl,c,if_pos rfl,ob,d]
  simp only
  congr 2
  omega
end
end Go.Proofs.YtmnhfbekncjnfaaGreatDoor

namespace Go.Proofs.YtmnhfbekncjnfaaGreatDoor
open Go.Am
def TPl (l:List F0)(k:Nat):Prop:=isT l k [46]=false∧isT l k [91]=false
def TSt (l:List F0)(k n:Nat):Prop:=TPl l k∧∀ m:Nat,n≤m→m≤5→∃ o,W3 l k m=some (o,false)
def X1g (l:List F0)(k:Nat):Prop:=TSt l k 1∧isT l k [63]=false
theorem TSt.mono {l:List F0}{k n m:Nat}(h:TSt l k n)(hm:n≤m):TSt l k m:=⟨h.1,fun i h1 h2=>h.2 i (by omega) h2⟩
def F1k (t:Str):Bool:=!(t == [46]) && !(t == [91]) && !(t == [63])&&(opT t).2 == 0
theorem Gy {l:List F0}{k:Nat}{t:Str}(h:∃ x,l[k]?=some x∧x.Kind=3∧x.Text=t)(hc:F1k t=true):X1g l k:=by
 unfold F1k at hc
 rw [Bool.and_eq_true,Bool.and_eq_true,Bool.and_eq_true,Bool.not_eq_true',Bool.not_eq_true',Bool.not_eq_true'] at hc
 refine ⟨⟨⟨by rw [U5 h]; exact hc.1.1.1,by rw [U5 h]; exact hc.1.1.2⟩,fun m h1 _=>?_⟩,by rw [U5 h]; exact hc.1.2⟩
 obtain ⟨x,a,b,c⟩:=h
 rw [Bg,a]
 simp only [b,c]
 rw [if_pos (by decide),eq_of_beq hc.2]
 have:((0:Int) == (m:Int))=false:=beq_eq_false_iff_ne.2 (by omega)
 rw [this]
 exact ⟨_,rfl⟩
theorem Y1g {l:List F0}{k:Nat}(h:l[k]?=none):X1g l k:=by
 have no:∀ t,isT l k t=false:=fun t=>by unfold isT; rw [h]
 exact ⟨⟨⟨no _,no _⟩,fun m _ _=>by rw [Bg,h]; exact ⟨_,rfl⟩⟩,no _⟩
structure RkE (l:List F0)(e:A0)(k k':Nat):Prop where
 lt:k < k'
 le:k'≤l.length
 lev:∀ n:Nat,1≤n→n≤6→(n:Int)≤lv e.Op→TSt l k' n→B1 l k n=some (e,((k':Nat):Int),true)
 b:∀ n:Nat,1≤n→n≤5→n≠3→(n:Int)≤lv e.Op→TSt l k' (n+1)→B1 l k n=P1 l n e ((k':Nat):Int)
 c:X1g l k'→V1 l k=some (e,((k':Nat):Int),true)
 q:e.place=true→Y4 l k 0=true∧Z8 l k=S3 l e.Op e.NV e.Name e.Kids ((k':Nat):Int)
structure Rk (C:Int)(l:List F0)(e:A0):Prop where
 rd:∀ k r,NN ld r→At C l k (e.text++r)→∃ k',RkE l e k k'∧At C l k' r
 f:∃ c t,e.text=c::t∧Lr c=true
section
set_option linter.unusedSectionVars false
variable {C:Int}{l:List F0}(hl:Ta l)
include hl
theorem M1a {q n:Nat}(e:A0)(hs:TSt l q n)(h5:n≤5):P1 l n e q=some (e,((q:Nat):Int),true):=by
 obtain ⟨o,ho⟩:=hs.2 n (Nat.le_refl _) h5
 rw [P1,ho,ob]
 rfl
theorem Z18 {p q n:Nat}{e:A0}(h:B1 l p ((n+1:Nat):Int)=some (e,((q:Nat):Int),true))(hn:n < 6):B1 l p n=P1 l n e q:=by
 rw [U18 hl p n hn,h,ob]
 rfl
theorem Pu {p q m:Nat}{e:A0}(hm:m≤6)(h:B1 l p m=some (e,((q:Nat):Int),true)):∀ d n:Nat,n+d=m→TSt l q n→B1 l p n=some (e,((q:Nat):Int),true)
 | 0,n,hn,_=>by
  have:n=m:=by omega
  rw [this]; exact h
 | d+1,n,hn,hs=>by
  rw [Z18 hl (Pu hm h d (n+1) (by omega) (hs.mono (Nat.le_succ _))) (by omega),M1a hl e hs (by omega)]
theorem toX {p q:Nat}{e:A0}(h:B1 l p ((1:Nat):Int)=some (e,((q:Nat):Int),true))(hs:isT l q [63]=false):V1 l p=some (e,((q:Nat):Int),true):=by
 rw [V1]
 rw [show ((1:Nat):Int)=1 from rfl] at h
 rw [h,ob]
 simp only [Bool.not_true,Bool.not_false,if_true,cond_false]
 rw [Y1 l hl.1,ob,hs]
 rfl
theorem un6 {p:Nat}{x:A0×Int×Bool}(h:B1 l p ((6:Nat):Int)=some x):I3 l p=some x:=by
 have e:=Az hl p
 rw [show ((6:Nat):Int)=6 from rfl] at h
 rw [h] at e
 cases hu:I3 l p with
 | none=>rw [hu] at e; cases e
 | some y=>rw [hu,ob] at e; exact e.symm
theorem G1k {p:Nat}{x:A0×Int×Bool}(h:I3 l p=some x):B1 l p ((6:Nat):Int)=some x:=by
 have e:=Az hl p
 rw [h,ob] at e
 exact e
theorem RkE.of {e:A0}{k k':Nat}(h1:k < k')(h2:k'≤l.length)(hu:TPl l k'→I3 l k=some (e,((k':Nat):Int),true))(q:e.place=true→Y4 l k 0=true∧Z8 l k=S3 l e.Op e.NV e.Name e.Kids ((k':Nat):Int)):RkE l e k k':=by
 have lev:∀ n:Nat,1≤n→n≤6→TSt l k' n→B1 l k n=some (e,((k':Nat):Int),true):=fun n h1 h6 hs=>
  Pu hl (Nat.le_refl _) (G1k hl (hu hs.1)) (6 - n) n (by omega) hs
 exact ⟨h1,h2,fun n h1 h6 _ hs=>lev n h1 h6 hs,fun n h1 h5 _ _ hs=>Z18 hl (lev (n+1) (by omega) (by omega) hs) (by omega),fun hs=>toX hl (lev 1 (by omega) (by omega) hs.1) hs.2,q⟩
theorem Rk.par {e:A0}(h:Rk C l e){n:Nat}{N:Int}(hN:N=n)(h1:1≤n)(h6:n≤6)(k:Nat)(r:Str)(hr:NN ld r)(ha:At C l k (YtmnhfbekncjnfaaGreatDoor.par N (e.Op,e.text)++r)) :
  ∃ k',k < k'∧k'≤l.length∧At C l k' r∧(TSt l k' n→B1 l k n=some (e,((k':Nat):Int),true))∧(n≤5→n≠3→TSt l k' (n+1)→B1 l k n=P1 l n e ((k':Nat):Int)):=by
 unfold YtmnhfbekncjnfaaGreatDoor.par at ha
 cases hd:decide (lv e.Op≥N) with
 | true=>
  rw [hd] at ha
  have:=of_decide_eq_true hd
  obtain ⟨k',a,b⟩:=h.rd k r hr ha
  exact ⟨k',a.lt,a.le,b,fun hs=>a.lev n h1 h6 (by omega) hs,fun h5 h3 hs=>a.b n h1 h5 h3 (by omega) hs⟩
 | false=>
  rw [hd] at ha
  have e1:[40]++e.text++[41]++r=40::(e.text++(41::r)):=by simp
  have ha':At C l k (40::(e.text++(41::r))):=by rw [← e1]; exact ha
  obtain ⟨p1,p2⟩:=At.p1 (by decide) ha'
  obtain ⟨k1,a,b⟩:=h.rd (k+1) (41::r) (by exact rfl) p2
  obtain ⟨q1,q2⟩:=At.p1 (by decide) b
  have hq:=P4 q1
  have hx:=a.c (Gy q1 (by decide))
  have hu:=U1g hl p1 hx q1
  have:=a.lt
  have lev:∀ n:Nat,1≤n→n≤6→TSt l (k1+1) n→B1 l k n=some (e,((k1+1:Nat):Int),true):=fun n h1 h6 hs=>
   Pu hl (Nat.le_refl _) (G1k hl hu) (6 - n) n (by omega) hs
  exact ⟨k1+1,by omega,by omega,q2,fun hs=>lev n h1 h6 hs,fun h5 _ hs=>Z18 hl (lev (n+1) (by omega) (by omega) hs) (by omega)⟩
theorem Hy {e:A0}(h:Rk C l e)(N:Int):∃ c t,YtmnhfbekncjnfaaGreatDoor.par N (e.Op,e.text)=c::t∧Lr c=true:=by
 unfold YtmnhfbekncjnfaaGreatDoor.par
 cases decide (lv e.Op≥N) with
 | true=>exact h.f
 | false=>exact ⟨40,_,rfl,by decide⟩
theorem H1c {q:Nat}(hs:TPl l q)(a b:Int)(c:Str)(d:List A0):S3 l a b c d q=some (A0.mk a b c d,((q:Nat):Int),true):=by
 rw [S3]
 simp only [Y1 l hl.1,ob,hs.1,hs.2,Bool.not_false,if_true,Bool.false_eq_true,if_false,cond_false]
theorem Z1g {k:Nat}{x:A0×Int×Bool}(hk:Y4 l k 0=true)(h:Z8 l k=some x):I3 l k=some x:=by
 have hB:=hl.1
 have hf:=N1e hk
 have hd:Y4 l k 1=false:=by
  unfold Y4 at hk ⊢
  split at hk
  ·rw [eq_of_beq hk]; rfl
  ·rfl
 have pr:F4 l k=some x:=by
  rw [F4]
  simp only [Y1 l hB,ob,hf,Bool.not_false,if_true,Bool.false_eq_true,if_false,cond_false]
  rw [Oh l hl,hd]
  simp only [Bool.false_eq_true,if_false,ob]
  rw [h,ob]
 rw [I3]
 simp only [Y1 l hB,ob,hf,Bool.not_false,if_true,cond_true]
 rw [pr,ob]
theorem Ct {k:Nat}{x:A0×Int×Bool}(h1:isT l k [45]=false)(h2:isT l k [33]=false)(h:F4 l k=some x):I3 l k=some x:=by
 rw [I3]
 simp only [Y1 l hl.1,ob,h1,h2,Bool.not_false,if_true,cond_true]
 rw [h,ob]
theorem RkE.place {e:A0}{k k':Nat}(h1:k < k')(h2:k'≤l.length)(hk:Y4 l k 0=true)(h:Z8 l k=S3 l e.Op e.NV e.Name e.Kids ((k':Nat):Int)):RkE l e k k':=by
 refine RkE.of hl h1 h2 (fun hs=>Z1g hl hk ?_) fun _=>⟨hk,h⟩
 rw [h,H1c hl hs]
 cases e
 rfl
theorem At.sign {k:Nat}{r:Str}{o:Int}(h:8≤o)(h':o≤20)(ha:At C l k (YtmnhfbekncjnfaaGreatDoor.sign o++32::r)):(∃ x,l[k]?=some x∧x.Kind=3∧x.Text=YtmnhfbekncjnfaaGreatDoor.sign o)∧At C l (k+1) (32::r):=by
 rcases Mh h h' with rfl | rfl | rfl | rfl | rfl | rfl | rfl | rfl | rfl | rfl | rfl | rfl | rfl
 ·exact At.s1 (c:=43) (by decide) (Oi (by decide) _) ha
 ·exact At.s1 (c:=45) (by decide) (Oi (by decide) _) ha
 ·exact At.s1 (c:=42) (by decide) (Oi (by decide) _) ha
 ·exact At.s1 (c:=47) (by decide) (Oi (by decide) _) ha
 ·exact At.s1 (c:=37) (by decide) (Oi (by decide) _) ha
 ·exact At.s2 (c:=61) (d:=61) (by decide) ha
 ·exact At.s2 (c:=33) (d:=61) (by decide) ha
 ·exact At.s1 (c:=60) (by decide) (Oi (by decide) _) ha
 ·exact At.s2 (c:=60) (d:=61) (by decide) ha
 ·exact At.s1 (c:=62) (by decide) (Oi (by decide) _) ha
 ·exact At.s2 (c:=62) (d:=61) (by decide) ha
 ·exact At.s2 (c:=38) (d:=38) (by decide) ha
 ·exact At.s2 (c:=124) (d:=124) (by decide) ha
theorem T1i {o:Int}(h:8≤o)(h':o≤20):opT (YtmnhfbekncjnfaaGreatDoor.sign o)=(o,lv o)∧(YtmnhfbekncjnfaaGreatDoor.sign o == [46])=false∧(YtmnhfbekncjnfaaGreatDoor.sign o == [91])=false:=by
 rcases Mh h h' with rfl | rfl | rfl | rfl | rfl | rfl | rfl | rfl | rfl | rfl | rfl | rfl | rfl
 all_goals decide
theorem Rk.bin {o:Int}{a b:A0}(h:8≤o)(h':o≤20)(ha:Rk C l a)(hb:Rk C l b):Rk C l (.mk o 0 [] [a,b]):=by
 have hB:=hl.1
 obtain ⟨L,m,e1,e2,h1,hlm,h5⟩:=N1k h h'
 have hm3:m≠3:=by
  intro hm
  rw [hm] at e2
  cases h3:lv o == 3 with
  | true=>rw [h3] at e2; simp at e2
  | false=>rw [h3] at e2; have:lv o=3:=e2; rw [this] at h3; simp at h3
 have hL3:L=3→m=4:=fun hL=>by
  have:lv o=3:=by rw [e1,hL]; rfl
  rw [this] at e2
  simp at e2
  omega
 have hLm:L≠3→m=L:=fun hL=>by
  have:(lv o == 3)=false:=beq_eq_false_iff_ne.2 (by omega)
  rw [this] at e2
  simp at e2
  omega
 refine ⟨fun k r hr hA=>?_,?_⟩
 ·rw [Ju a b h h'] at hA
  have ea:YtmnhfbekncjnfaaGreatDoor.par (bif lv o == 3 then 4 else lv o) (a.Op,a.text)++([32]++YtmnhfbekncjnfaaGreatDoor.sign o++[32])++YtmnhfbekncjnfaaGreatDoor.par (lv o+1) (b.Op,b.text)++r
    = YtmnhfbekncjnfaaGreatDoor.par (bif lv o == 3 then 4 else lv o) (a.Op,a.text)++(32::(YtmnhfbekncjnfaaGreatDoor.sign o++32::(YtmnhfbekncjnfaaGreatDoor.par (lv o+1) (b.Op,b.text)++r))):=by simp
  rw [ea] at hA
  obtain ⟨k1,p1,p2,p3,p4,p5⟩:=ha.par hl (n:=m) e2 (by omega) (by omega) k _ (by exact rfl) hA
  obtain ⟨q1,q2⟩:=At.sign hl h h' (At.sp p3)
  have hk1:=P4 q1
  obtain ⟨k',r1,r2,r3,r4,r5⟩:=hb.par hl (n:=L+1) (by omega) (by omega) (by omega) (k1+1) r hr (At.sp q2)
  obtain ⟨s1,s2,s3⟩:=T1i hl h h'
  have hbin:∀ n:Nat,W3 l k1 n=some (o,((L:Int) == (n:Int))):=fun n=>by
   obtain ⟨x,a1,a2,a3⟩:=q1
   rw [Bg,a1]
   simp only [a2,a3,s1,e1]
   rfl
  have st1:TSt l k1 (L+1):=⟨⟨by rw [U5 q1]; exact s2,by rw [U5 q1]; exact s3⟩,fun i i1 _=>⟨o,by rw [hbin]; rw [beq_eq_false_iff_ne.2 (by omega)]⟩⟩
  have step:TSt l k' (L+1)→P1 l L a k1=if (L:Int)=3 then some (A0.mk o 0 [] [a,b],((k':Nat):Int),true) else P1 l L (A0.mk o 0 [] [a,b]) ((k':Nat):Int):=fun hs=>by
   rw [P1,hbin,ob]
   simp only [beq_self_eq_true,Bool.not_true,Bool.false_eq_true,if_false]
   rw [w1 (by omega),w1 (by unfold BB; omega),r4 hs,ob]
   simp only [Bool.not_true,Bool.false_eq_true,if_false,Qp,ob]
   by_cases h3:(L:Int)=3
   ·rw [if_pos h3,if_pos (by simpa using h3)]
   ·rw [if_neg h3,if_neg (by simpa using h3)]
  have first:B1 l k L=P1 l L a k1:=by
   by_cases h3:L=3
   ·have hm4:=hL3 h3
    subst h3
    refine Z18 hl ?_ (by omega)
    rw [hm4] at p4
    exact p4 st1
   ·rw [hLm h3] at p5
    exact p5 (by omega) h3 st1
  have bL:L≠3→TSt l k' (L+1)→B1 l k L=P1 l L (A0.mk o 0 [] [a,b]) ((k':Nat):Int):=fun h3 hs=>by
   rw [first,step hs,if_neg (by omega)]
  have levL:TSt l k' L→B1 l k L=some (A0.mk o 0 [] [a,b],((k':Nat):Int),true):=fun hs=>by
   by_cases h3:L=3
   ·rw [first,step (hs.mono (Nat.le_succ _)),if_pos (by omega)]
   ·rw [bL h3 (hs.mono (Nat.le_succ _)),M1a hl _ hs (by omega)]
  have lev:∀ n:Nat,1≤n→n≤L→TSt l k' n→B1 l k n=some (A0.mk o 0 [] [a,b],((k':Nat):Int),true):=fun n h1 h2 hs=>
   Pu hl (by omega) (levL (hs.mono h2)) (L - n) n (by omega) hs
  have hop:(A0.mk o 0 [] [a,b]).Op=o:=rfl
  refine ⟨k',⟨by omega,r2,fun n h1 h6 hn hs=>lev n h1 (by rw [hop] at hn; omega) hs,fun n h1 h5 h3 hn hs=>?_,fun hs=>toX hl (lev 1 (by omega) (by omega) hs.1) hs.2,fun hp=>absurd hp (fun hp=>F1i h _ _ _ hp)⟩,r3⟩
  rw [hop] at hn
  by_cases hnL:n=L
  ·subst hnL; exact bL h3 hs
  ·exact Z18 hl (lev (n+1) (by omega) (by omega) hs) (by omega)
 ·rw [Ju a b h h']
  obtain ⟨c,t,hc,hn⟩:=Hy hl ha (bif lv o == 3 then 4 else lv o)
  exact ⟨c,_,by rw [hc]; rfl,hn⟩
theorem N1a {a b:A0}(ha:Rk C l a)(hb:Rk C l b){k:Nat}{r:Str}(o:Int)(hk:k < l.length)(h:At C l (k+1) (40::(a.text++[44,32]++b.text++[41]++r))) :
  ∃ k',k < k'∧k'≤l.length∧At C l k' r∧Fa l k o=some (⟨o,0,[],[a,b]⟩,((k':Nat):Int),true):=by
 have hB:=hl.1
 have e1:a.text++[44,32]++b.text++[41]++r=a.text++(44::(32::(b.text++(41::r)))):=by simp
 rw [e1] at h
 obtain ⟨p1,p2⟩:=At.p1 (by decide) h
 obtain ⟨k1,q1,q2⟩:=ha.rd (k+1+1) _ (by exact rfl) p2
 obtain ⟨r1,r2⟩:=At.p1 (by decide) q2
 obtain ⟨k2,s1,s2⟩:=hb.rd (k1+1) _ (by exact rfl) (At.sp r2)
 obtain ⟨t1,t2⟩:=At.p1 (by decide) s2
 have hp:=P4 p1
 have hr:=P4 r1
 have ht:=P4 t1
 have:=q1.lt
 have:=s1.lt
 refine ⟨k2+1,by omega,by omega,t2,?_⟩
 rw [Fa,w1 (by omega),Y1 l hB,ob,U5 p1,wr (n:=(k:Int)+2) (by omega) (by unfold BB at hB; omega),show (k:Int)+2=((k+1+1:Nat):Int) by omega,q1.c (Gy r1 (by decide))]
 simp only [beq_self_eq_true,Bool.not_true,Bool.false_eq_true,if_false,ob,Bool.not_false,if_true,cond_false]
 rw [Y1 l hB,ob,U5 r1,w1 (by omega),s1.c (Gy t1 (by decide))]
 simp only [beq_self_eq_true,Bool.not_true,Bool.false_eq_true,if_false,ob,Bool.not_false,if_true,cond_false]
 rw [Y1 l hB,ob,U5 t1]
 simp only [beq_self_eq_true,Bool.not_true,Bool.false_eq_true,if_false,Qp,ob]
 rw [w1 (by omega)]
theorem K1h (e:A0):Wy e→Rk C l e:=by
 have hB:=hl.1
 induction e using A0.ind with
 | h e ih=>
 intro hf
 have ih':=fun k hk=>ih k hk (hf.kid hk)
 have hnm:=hf.n
 rw [A0.all_eq,Bool.and_eq_true] at hnm
 have hfo:=hf.f.form
 rw [A0.all_eq,Bool.and_eq_true] at hfo
 have h2:=hf.f.numb
 rw [A0.all_eq,Bool.and_eq_true] at h2
 cases hf.f.shape with
 | lit n=>
  have h0:0≤n∧n≤1048576:=by
   have h3:=h2.1
   unfold Xc G9 at h3
   simp at h3
   omega
  obtain ⟨m,rfl⟩:∃ m:Nat,n=m:=⟨n.toNat,by omega⟩
  obtain ⟨d1,d2,d3⟩:=Ql m
  have ht:(A0.mk 0 (m:Int) [] []).text=Lib.decDigits m:=by
   show Lib.itoa (m:Int)=_
   unfold Lib.itoa
   rw [if_neg (by omega)]
   rfl
  refine ⟨fun k r hr hA=>?_,?_⟩
  ·rw [ht] at hA
   obtain ⟨a,b,c⟩:=At.num (by omega) hr hA
   have hlt:=Od a
   refine ⟨k+1,RkE.of hl (by omega) (by omega) (fun _=>Ct hl (Dz a _) (Dz a _) ?_) (fun hp=>by cases hp),c⟩
   rw [F4]
   simp only [Y1 l hB,ob,Dz a,Bool.not_false,if_true,Bool.false_eq_true,if_false,cond_false]
   rw [Oh l hl,a,if_pos rfl,ob,b]
   rfl
  ·rw [ht]
   cases hd:Lib.decDigits m with
   | nil=>exact absurd hd d3
   | cons c t=>
    refine ⟨c,t,rfl,?_⟩
    have hc:Q4 c.toNat=true:=d2 c (by rw [hd]; exact List.mem_cons_self)
    cases hn:Lr c with
    | true=>rfl
    | false=>
     unfold Lr at hn
     simp only [Bool.not_eq_false',Bool.or_eq_true,beq_iff_eq] at hn
     rcases hn with ((rfl | rfl) | rfl) | rfl <;> exact absurd hc (by decide)
 | tt=>
  refine ⟨fun k r hr hA=>?_,116,_,rfl,by decide⟩
  obtain ⟨a,b⟩:=At.kw (w:=[116,114,117,101]) (by decide +kernel) hr hA
  have hlt:=P4 a
  refine ⟨k+1,RkE.of hl (by omega) (by omega) (fun _=>Ct hl (by rw [T7 a]; rfl) (by rw [T7 a]; rfl) ?_) (fun hp=>by cases hp),b⟩
  rw [F4,Y1 l hB,ob,T7 a,if_pos (by decide),w1 (by omega)]
 | ff=>
  refine ⟨fun k r hr hA=>?_,102,_,rfl,by decide⟩
  obtain ⟨a,b⟩:=At.kw (w:=[102,97,108,115,101]) (by decide +kernel) hr hA
  have hlt:=P4 a
  refine ⟨k+1,RkE.of hl (by omega) (by omega) (fun _=>Ct hl (by rw [T7 a]; rfl) (by rw [T7 a]; rfl) ?_) (fun hp=>by cases hp),b⟩
  rw [F4,Y1 l hB,ob,T7 a,if_neg (by decide),Y1 l hB,ob,T7 a,if_pos (by decide),w1 (by omega)]
 | name nm=>
  have hn:T5 nm=true:=hnm.1
  obtain ⟨_,⟨c,t,hc,hlo⟩,_⟩:=Z13 hn
  refine ⟨fun k r hr hA=>?_,c,t,hc,Y18 hlo⟩
  obtain ⟨a,b,d⟩:=At.nm hn hr (show At C l k (nm++r) from hA)
  have hlt:=Od a
  refine ⟨k+1,RkE.place hl (by omega) (by omega) a ?_,d⟩
  rw [Z8,Yj l hB,a,if_pos rfl,ob,b]
  rfl
 | field nm e=>
  have he:=ih' e (by simp)
  have hpk:e.place=true:=by
   have h4:=hfo.1
   simp only [Tb,ef4,Bool.and_eq_true] at h4
   have h5:=h4.2
   rw [A0.place_eq] at h5
   exact h5
  have hn:T5 nm=true:=hnm.1
  obtain ⟨_,⟨c,t,hc,hlo⟩,_⟩:=Z13 hn
  have ht:(A0.mk 4 0 nm [e]).text=e.text++([46]++nm):=rfl
  refine ⟨fun k r hr hA=>?_,?_⟩
  ·rw [ht,List.append_assoc,List.append_assoc] at hA
   obtain ⟨k1,a,b⟩:=he.rd k _ (by exact rfl) hA
   obtain ⟨p1,p2⟩:=At.n1 (c:=46) (r:=nm++r) (d:=c) (t:=t++r) (by decide) (Y18 hlo) (by rw [hc]; rfl) b
   obtain ⟨q1,q2,q3⟩:=At.nm hn hr p2
   have hp:=P4 p1
   have hq:=Od q1
   have:=a.lt
   obtain ⟨m1,m2⟩:=a.q hpk
   refine ⟨k1+1+1,RkE.place hl (by omega) (by omega) m1 ?_,q3⟩
   rw [m2,S3,Y1 l hB,ob,U5 p1]
   simp only [beq_self_eq_true,Bool.not_true,Bool.false_eq_true,if_false,ob,cond_true,if_true]
   rw [w1 (by omega),Yj l hB,q1,if_pos rfl,ob,q2]
   cases e
   rfl
  ·obtain ⟨c,t,hc,hn⟩:=he.f
   exact ⟨c,_,by rw [ht,hc]; rfl,hn⟩
 | index x y=>
  have hx:=ih' x (by simp)
  have hy:=ih' y (by simp)
  have hpk:x.place=true:=by
   have h4:=hfo.1
   simp only [Tb,ef4,Bool.and_eq_true] at h4
   have h5:=h4.2
   rw [A0.place_eq] at h5
   exact h5
  have ht:(A0.mk 5 0 [] [x,y]).text=x.text++[91]++y.text++[93]:=rfl
  refine ⟨fun k r hr hA=>?_,?_⟩
  ·have e1:x.text++[91]++y.text++[93]++r=x.text++(91::(y.text++(93::r))):=by simp
   rw [ht,e1] at hA
   obtain ⟨k1,a,b⟩:=hx.rd k _ (by exact rfl) hA
   obtain ⟨p1,p2⟩:=At.p1 (by decide) b
   obtain ⟨k2,c,d⟩:=hy.rd (k1+1) _ (by exact rfl) p2
   obtain ⟨q1,q2⟩:=At.p1 (by decide) d
   have hp:=P4 p1
   have hq:=P4 q1
   have:=a.lt
   have:=c.lt
   obtain ⟨m1,m2⟩:=a.q hpk
   refine ⟨k2+1,RkE.place hl (by omega) (by omega) m1 ?_,q2⟩
   have n46:isT l k1 [46]=false:=by rw [U5 p1]; rfl
   rw [m2,S3,Y1 l hB,ob,n46]
   simp only [Bool.not_false,if_true,cond_false]
   rw [Y1 l hB,ob,U5 p1]
   simp only [beq_self_eq_true,if_true]
   rw [ob,if_neg (by simp),w1 (by omega),c.c (Gy q1 (by decide)),ob]
   simp only [Bool.not_true,Bool.not_false,if_true,cond_false]
   rw [Y1 l hB,ob,U5 q1]
   simp only [beq_self_eq_true,Bool.not_true,Bool.false_eq_true,if_false,Qp,ob]
   rw [w1 (by omega)]
   cases x
   rfl
  ·obtain ⟨c,t,hc,hn⟩:=hx.f
   exact ⟨c,_,by rw [ht,hc]; rfl,hn⟩
 | neg e=>
  have he:=ih' e (by simp)
  have ht:(A0.mk 6 0 [] [e]).text=45::YtmnhfbekncjnfaaGreatDoor.par 6 (e.Op,e.text):=rfl
  refine ⟨fun k r hr hA=>?_,45,_,ht,by decide⟩
  rw [ht,List.cons_append] at hA
  obtain ⟨p1,p2⟩:=At.p1 (by decide) hA
  obtain ⟨k',a1,a2,a3,a4,_⟩:=he.par hl (n:=6) rfl (by decide) (by decide) (k+1) r hr p2
  have hp:=P4 p1
  refine ⟨k',RkE.of hl (by omega) a2 (fun hs=>?_) (fun hp=>by cases hp),a3⟩
  have hu:=un6 hl (a4 ⟨hs,fun m h1 h2=>by omega⟩)
  rw [I3,Y1 l hB,ob,U5 p1]
  simp only [beq_self_eq_true,Bool.not_true,Bool.false_eq_true,if_false,ob,cond_false]
  rw [Y1 l hB,ob,U5 p1,if_neg (by decide),Wb,w1 (by omega),hu,ob]
  rfl
 | not e=>
  have he:=ih' e (by simp)
  have ht:(A0.mk 7 0 [] [e]).text=33::YtmnhfbekncjnfaaGreatDoor.par 6 (e.Op,e.text):=rfl
  refine ⟨fun k r hr hA=>?_,33,_,ht,by decide⟩
  rw [ht,List.cons_append] at hA
  obtain ⟨c,t,hc,hn⟩:=Hy hl he 6
  obtain ⟨p1,p2⟩:=At.n1 (c:=33) (d:=c) (t:=t++r) (by decide) hn (by rw [hc]; rfl) hA
  obtain ⟨k',a1,a2,a3,a4,_⟩:=he.par hl (n:=6) rfl (by decide) (by decide) (k+1) r hr p2
  have hp:=P4 p1
  refine ⟨k',RkE.of hl (by omega) a2 (fun hs=>?_) (fun hp=>by cases hp),a3⟩
  have hu:=un6 hl (a4 ⟨hs,fun m h1 h2=>by omega⟩)
  have n45:isT l k [45]=false:=by rw [U5 p1]; rfl
  rw [I3,Y1 l hB,ob,n45]
  simp only [Bool.not_false,if_true,cond_true]
  rw [Y1 l hB,ob,U5 p1]
  simp only [beq_self_eq_true,Bool.not_true,Bool.false_eq_true,if_false]
  rw [ob,if_pos rfl,Wb,w1 (by omega),hu,ob]
  rfl
 | bin o x y h h'=>exact Rk.bin hl h h' (ih' x (by simp)) (ih' y (by simp))
 | min x y=>
  have hx:=ih' x (by simp)
  have hy:=ih' y (by simp)
  refine ⟨fun k r hr hA=>?_,109,_,rfl,by decide⟩
  have ht:(A0.mk 21 0 [] [x,y]).text++r=[109,105,110]++(40::(x.text++[44,32]++y.text++[41]++r)):=by
   show ([109,105,110,40]++x.text++[44,32]++y.text++[41])++r=_
   simp
  rw [ht] at hA
  obtain ⟨a,b⟩:=At.kw (w:=[109,105,110]) (by decide +kernel) (by exact rfl) hA
  have hlt:=P4 a
  obtain ⟨k',p1,p2,p3,p4⟩:=N1a hl hx hy 21 hlt b
  refine ⟨k',RkE.of hl p1 p2 (fun _=>Ct hl (by rw [T7 a]; rfl) (by rw [T7 a]; rfl) ?_) (fun hp=>by cases hp),p3⟩
  rw [F4]
  simp only [Y1 l hB,ob,T7 a]
  rw [if_neg (by decide),if_neg (by decide),if_neg (by decide),ob,if_pos (by decide),Fg,Y1 l hB,ob,T7 a,if_neg (by decide),p4,ob]
 | max x y=>
  have hx:=ih' x (by simp)
  have hy:=ih' y (by simp)
  refine ⟨fun k r hr hA=>?_,109,_,rfl,by decide⟩
  have ht:(A0.mk 22 0 [] [x,y]).text++r=[109,97,120]++(40::(x.text++[44,32]++y.text++[41]++r)):=by
   show ([109,97,120,40]++x.text++[44,32]++y.text++[41])++r=_
   simp
  rw [ht] at hA
  obtain ⟨a,b⟩:=At.kw (w:=[109,97,120]) (by decide +kernel) (by exact rfl) hA
  have hlt:=P4 a
  obtain ⟨k',p1,p2,p3,p4⟩:=N1a hl hx hy 22 hlt b
  refine ⟨k',RkE.of hl p1 p2 (fun _=>Ct hl (by rw [T7 a]; rfl) (by rw [T7 a]; rfl) ?_) (fun hp=>by cases hp),p3⟩
  rw [F4]
  simp only [Y1 l hB,ob,T7 a]
  rw [if_neg (by decide),if_neg (by decide),if_pos (by decide),ob,if_pos (by decide),Fg,Y1 l hB,ob,T7 a,if_pos (by decide),p4,ob]
 | cond x y z=>
  have hx:=ih' x (by simp)
  have hy:=ih' y (by simp)
  have hz:=ih' z (by simp)
  refine ⟨fun k r hr hA=>?_,?_⟩
  ·have ht:(A0.mk 23 0 [] [x,y,z]).text++r=YtmnhfbekncjnfaaGreatDoor.par 1 (x.Op,x.text)++(32::63::32::(y.text++(32::58::32::(z.text++r)))):=by
    show YtmnhfbekncjnfaaGreatDoor.par 1 (x.Op,x.text)++[32,63,32]++y.text++[32,58,32]++z.text++r=_
    simp
   rw [ht] at hA
   obtain ⟨k1,a1,a2,a3,a4,_⟩:=hx.par hl (n:=1) rfl (by decide) (by decide) k _ (by exact rfl) hA
   obtain ⟨p1,p2⟩:=At.p1 (by decide) (At.sp a3)
   obtain ⟨k2,b1,b2⟩:=hy.rd (k1+1) _ (by exact rfl) (At.sp p2)
   obtain ⟨q1,q2⟩:=At.p1 (by decide) (At.sp b2)
   obtain ⟨k3,c1,c2⟩:=hz.rd (k2+1) _ hr (At.sp q2)
   have hp:=P4 p1
   have hq:=P4 q1
   have:=b1.lt
   have:=c1.lt
   have st1:TSt l k1 1:=by
    refine ⟨⟨by rw [U5 p1]; rfl,by rw [U5 p1]; rfl⟩,fun m m1 _=>?_⟩
    obtain ⟨t,u1,u2,u3⟩:=p1
    rw [Bg,u1]
    simp only [u2,u3]
    rw [if_pos (by decide),show opT [63]=(0,0) by decide]
    have:((0:Int) == (m:Int))=false:=beq_eq_false_iff_ne.2 (by omega)
    rw [this]
    exact ⟨_,rfl⟩
   have lv0:lv 23=0:=rfl
   have hop:(A0.mk 23 0 [] [x,y,z]).Op=23:=rfl
   refine ⟨k3,⟨by omega,c1.le,fun n h1 _ hn=>by rw [hop] at hn; omega,fun n h1 _ _ hn=>by rw [hop] at hn; omega,fun hs=>?_,fun hp=>by cases hp⟩,c2⟩
   rw [V1]
   have e1:=a4 st1
   rw [show ((1:Nat):Int)=1 from rfl] at e1
   rw [e1,ob]
   simp only [Bool.not_true,Bool.not_false,if_true,cond_false]
   rw [Y1 l hB,ob,U5 p1]
   simp only [beq_self_eq_true,Bool.not_true,Bool.false_eq_true,if_false]
   rw [w1 (by omega),b1.c (Gy q1 (by decide)),ob]
   simp only [Bool.not_true,Bool.false_eq_true,if_false]
   rw [Y1 l hB,ob,U5 q1]
   simp only [beq_self_eq_true,Bool.not_true,Bool.false_eq_true,if_false]
   rw [w1 (by omega),c1.c hs,ob]
   rfl
  ·obtain ⟨c,t,hc,hn⟩:=Hy hl hx 1
   refine ⟨c,t++([32,63,32]++y.text++[32,58,32]++z.text),?_,hn⟩
   show YtmnhfbekncjnfaaGreatDoor.par 1 (x.Op,x.text)++[32,63,32]++y.text++[32,58,32]++z.text=_
   rw [hc]
   simp
end
end Go.Proofs.YtmnhfbekncjnfaaGreatDoor

namespace Go.Proofs.YtmnhfbekncjnfaaGreatDoor
open Go.Am
structure Fi (t:C0):Prop where
 f:Pl t
 n:t.all Yf=true
theorem Fi.kid {t k:C0}(h:Fi t)(hk:k∈t.Of):Fi k:=by
 have h1:=h.n
 rw [C0.all_eq,Bool.and_eq_true] at h1
 exact ⟨h.f.kid hk,C0.alls_mem h1.2 hk⟩
theorem X1e {t:C0}(ht:Ok t)(h:Oc t=0):Fi t:=by
 refine ⟨M18 ht h,?_⟩
 cases hn:t.all Yf with
 | true=>rfl
 | false=>
  unfold Oc Ue at h
  rw [hn] at h
  cases hb:(bif decide ((t.nodes:Int) > 1024) then true else decide ((t.depth:Int) > 12)) <;> rw [hb] at h
  ·cases hf:t.all X8 <;> rw [hf] at h <;> cases h
  ·cases h
theorem Fi.names {t:C0}(h:Fi t):(t.Kind=4→T5 t.Name=true)∧∀ s∈t.Names,T5 s=true:=by
 have h1:=h.n
 rw [C0.all_eq,Bool.and_eq_true] at h1
 have h2:=h1.1
 unfold Yf na1 at h2
 rw [Bool.and_eq_true] at h2
 refine ⟨fun hk=>?_,List.all_eq_true.1 h2.2⟩
 have h3:=h2.1
 rw [hk] at h3
 exact h3
theorem Fi.nums {t:C0}(h:Fi t):(t.Kind=1→(-1048576≤t.Low∧t.Low≤1048576)∧-1048576≤t.High∧t.High≤1048576)∧(t.Kind=2→1≤t.Size∧t.Size≤32):=by
 have h1:=h.f.numb
 rw [C0.all_eq,Bool.and_eq_true] at h1
 have h2:=h1.1
 unfold Zh nm1 nm2 at h2
 rw [Bool.and_eq_true] at h2
 constructor
 ·intro hk
  have h3:=h2.2
  rw [hk] at h3
  simp [G9] at h3
  omega
 ·intro hk
  have h3:=h2.1
  rw [hk] at h3
  simp [G9] at h3
  omega
def RT (C:Int)(l:List F0)(t:C0):Prop:=∀ k r,NN ld r→At C l k (t.text++r)→∃ k',k < k'∧k'≤l.length∧At C l k' r∧L7 l k=some (t,((k':Nat):Int),true)
section
set_option linter.unusedSectionVars false
variable {C:Int}{l:List F0}(hl:Ta l)
include hl
theorem Y1e:∀ (ks:List C0) (ns:List Str),(∀ t∈ks,RT C l t)→(∀ s∈ns,T5 s=true)→ns.length=ks.length→ks≠[]→∀ (a:List Str) (b:List C0) (k:Nat) (r:Str),k < l.length→a.length≤k→b.length≤k→At C l (k+1) (V5 true ns (C0.texts ks)++125::r)→
  ∃ k',k < k'∧k'≤l.length∧At C l k' r∧M7 l a b k=some (C0.mk 3 0 0 0 [] (a++ns) (b++ks),((k':Nat):Int),true)
 | [],_,_,_,_,h,_,_,_,_,_,_,_,_=>absurd rfl h
 | _::_,[],_,_,h,_,_,_,_,_,_,_,_,_=>by cases h
 | t::ks,n::ns,ht,hn,hlen,_,a,b,k,r,hk,ha,hb,hA=>by
  have hB:=hl.1
  have e1:V5 true (n::ns) (C0.texts (t::ks))++125::r=n++(58::32::(t.text++(V5 false ns (C0.texts ks)++125::r))):=by
   rw [Yi]; simp
  rw [e1] at hA
  obtain ⟨p1,p2,p3⟩:=At.nm (hn n List.mem_cons_self) (by exact rfl) hA
  obtain ⟨q1,q2⟩:=At.p1 (by decide) p3
  have hnn:NN ld (V5 false ns (C0.texts ks)++125::r):=by
   cases ns with
   | nil=>exact rfl
   | cons m ns=>cases ks with
    | nil=>exact rfl
    | cons t' ks=>rw [Yi]; exact rfl
  obtain ⟨k2,s1,s2,s3,s4⟩:=ht t List.mem_cons_self (k+1+1+1) _ hnn (At.sp q2)
  have hp:=Od p1
  have hq:=P4 q1
  have r1:decide ((a.length+1) * 17≤140737488355328)=true:=decide_eq_true (by unfold BB at hB; omega)
  have r2:decide ((b.length+1) * 97≤140737488355328)=true:=decide_eq_true (by unfold BB at hB; omega)
  have par:Nl l ((k+1:Nat):Int)=some (Z0.mk 4 n t 0 (A0.mk 0 0 [] []) [] [] [],((k2:Nat):Int),true):=by
   rw [Nl,Yj l hB,p1,if_pos rfl,ob]
   simp only [Bool.not_true,Bool.not_false,if_true,cond_false]
   rw [Y1 l hB,ob,U5 q1]
   simp only [beq_self_eq_true,Bool.not_true,Bool.false_eq_true,if_false]
   rw [w1 (by omega),s4,ob,p2]
  cases ks with
  | nil=>
   have hns:ns=[]:=by simpa using hlen
   subst hns
   obtain ⟨u1,u2⟩:=At.p1 (by decide) (show At C l k2 (125::r) from s3)
   have hu:=P4 u1
   refine ⟨k2+1,by omega,by omega,u2,?_⟩
   rw [M7,w1 (by omega),par,ob]
   simp only [r1,r2,Bool.not_true,Bool.false_eq_true,if_false,if_true]
   rw [Y1 l hB,ob,U5 u1]
   simp only [beq_self_eq_true,if_true]
   rw [w1 (by omega)]
  | cons t' ks=>
   cases ns with
   | nil=>simp at hlen
   | cons n' ns=>
    have e2:V5 false (n'::ns) (C0.texts (t'::ks))++125::r=44::32::(V5 true (n'::ns) (C0.texts (t'::ks))++125::r):=by
     rw [Yi,Yi]; simp
    rw [e2] at s3
    obtain ⟨u1,u2⟩:=At.p1 (by decide) s3
    have hu:=P4 u1
    obtain ⟨k',v1,v2,v3,v4⟩:=Y1e (t'::ks) (n'::ns) (fun t h=>ht t (List.mem_cons_of_mem _ h)) (fun s h=>hn s (List.mem_cons_of_mem _ h)) (by simpa using hlen) (List.cons_ne_nil _ _) (a++[n]) (b++[t]) k2 r hu (by rw [List.length_append]; simp only [List.length_singleton]; omega) (by rw [List.length_append]; simp only [List.length_singleton]; omega) (At.sp u2)
    refine ⟨k',by omega,v2,v3,?_⟩
    rw [M7,w1 (by omega),par,ob]
    simp only [r1,r2,Bool.not_true,Bool.false_eq_true,if_false,if_true]
    have n125:isT l k2 [125]=false:=by rw [U5 u1]; rfl
    rw [Y1 l hB,ob,n125,if_neg (by simp),Y1 l hB,ob,U5 u1]
    simp only [beq_self_eq_true,Bool.not_true,Bool.false_eq_true,if_false]
    rw [v4]
    simp
theorem L1h (t:C0):Fi t→RT C l t:=by
 have hB:=hl.1
 induction t using C0.ind with
 | h t ih=>
 intro hf
 have ih':=fun k hk=>ih k hk (hf.kid hk)
 have hnm:=hf.names
 have hnu:=hf.nums
 cases hf.f.shape with
 | bool=>
  intro k r hr hA
  obtain ⟨a,b⟩:=At.kw (w:=[98,111,111,108]) (by decide +kernel) hr hA
  have hlt:=P4 a
  refine ⟨k+1,by omega,by omega,b,?_⟩
  rw [L7,Y1 l hB,ob,T7 a,if_pos (by decide),w1 (by omega)]
 | int lo hi h h'=>
  intro k r hr hA
  obtain ⟨⟨b1,b2⟩,b3,b4⟩:=hnu.1 rfl
  have e1:(C0.mk 1 lo hi 0 [] [] []).text++r=[105,110,116]++(91::(Lib.itoa lo++(46::46::(Lib.itoa hi++(93::r))))):=by
   show [105,110,116,91]++Lib.itoa lo++[46,46]++Lib.itoa hi++[93]++r=_
   simp
  rw [e1] at hA
  obtain ⟨p1,p2⟩:=At.kw (w:=[105,110,116]) (by decide +kernel) (by exact rfl) hA
  obtain ⟨q1,q2⟩:=At.p1 (by decide) p2
  obtain ⟨k1,c1,c2,c3,c4⟩:=At.int hl b1 b2 (by exact rfl) q2
  obtain ⟨u1,u2⟩:=At.s2 (by decide) c3
  obtain ⟨k2,d1,d2,d3,d4⟩:=At.int hl b3 b4 (by exact rfl) u2
  obtain ⟨v1,v2⟩:=At.p1 (by decide) d3
  have hp:=P4 p1
  have hq:=P4 q1
  have hu:=P4 u1
  have hv:=P4 v1
  refine ⟨k2+1,by omega,by omega,v2,?_⟩
  rw [L7,Y1 l hB,ob,T7 p1,if_neg (by decide),Y1 l hB,ob,T7 p1,if_pos (by decide),w1 (by omega)]
  unfold Vk
  rw [Y1 l hB,ob,U5 q1]
  simp only [beq_self_eq_true,Bool.not_true,Bool.false_eq_true,if_false]
  rw [w1 (by omega),c4,ob]
  simp only [Bool.not_true,Bool.not_false,if_true,cond_false]
  rw [Y1 l hB,ob,U5 u1]
  simp only [beq_self_eq_true,Bool.not_true,Bool.false_eq_true,if_false]
  rw [w1 (by omega),d4,ob]
  simp only [Bool.not_true,Bool.not_false,if_true,cond_false]
  rw [Y1 l hB,ob,U5 v1]
  simp only [beq_self_eq_true,Bool.not_true,Bool.false_eq_true,if_false,ob]
  rw [w1 (by omega)]
 | array sz t h=>
  intro k r hr hA
  have ht:=ih' t (by simp)
  obtain ⟨b1,b2⟩:=hnu.2 rfl
  have e1:(C0.mk 2 0 0 sz [] [] [t]).text++r=[97,114,114,97,121]++(32::(Lib.itoa sz++(32::([111,102]++(32::(t.text++r)))))):=by
   show [97,114,114,97,121,32]++Lib.itoa sz++[32,111,102,32]++t.text++r=_
   simp
  rw [e1] at hA
  obtain ⟨p1,p2⟩:=At.kw (w:=[97,114,114,97,121]) (by decide +kernel) (by exact rfl) hA
  have b1':(-1048576:Int)≤sz:=by have:(1:Int)≤sz:=b1; omega
  have b2':sz≤(1048576:Int):=by have:sz≤(32:Int):=b2; omega
  obtain ⟨k1,c1,c2,c3,c4⟩:=At.int hl b1' b2' (by exact rfl) (At.sp p2)
  obtain ⟨u1,u2⟩:=At.kw (w:=[111,102]) (by decide +kernel) (by exact rfl) (At.sp c3)
  obtain ⟨k2,d1,d2,d3,d4⟩:=ht (k1+1) r hr (At.sp u2)
  have hp:=P4 p1
  have hu:=P4 u1
  refine ⟨k2,by omega,d2,d3,?_⟩
  rw [L7,Y1 l hB,ob,T7 p1,if_neg (by decide),Y1 l hB,ob,T7 p1,if_neg (by decide),Y1 l hB,ob,T7 p1,if_pos (by decide),w1 (by omega),c4,ob]
  simp only [Bool.not_true,Bool.not_false,if_true,cond_false]
  rw [Y1 l hB,ob,T7 u1]
  simp only [beq_self_eq_true,Bool.not_true,Bool.false_eq_true,if_false]
  rw [w1 (by omega),d4,ob]
 | record ns ks h h'=>
  intro k r hr hA
  have e1:(C0.mk 3 0 0 0 [] ns ks).text++r=[114,101,99,111,114,100]++(32::123::(V5 true ns (C0.texts ks)++125::r)):=by
   show [114,101,99,111,114,100,32,123]++V5 true ns (C0.texts ks)++[125]++r=_
   simp
  rw [e1] at hA
  obtain ⟨p1,p2⟩:=At.kw (w:=[114,101,99,111,114,100]) (by decide +kernel) (by exact rfl) hA
  obtain ⟨q1,q2⟩:=At.p1 (by decide) (At.sp p2)
  have hp:=P4 p1
  have hq:=P4 q1
  obtain ⟨k',v1,v2,v3,v4⟩:=Y1e hl ks ns (fun t ht=>ih' t ht) hnm.2 h (by intro e; rw [e] at h'; simp at h') [] [] (k+1) r hq (Nat.zero_le _) (Nat.zero_le _) q2
  refine ⟨k',by omega,v2,v3,?_⟩
  rw [L7,Y1 l hB,ob,T7 p1,if_neg (by decide),Y1 l hB,ob,T7 p1,if_neg (by decide),Y1 l hB,ob,T7 p1,if_neg (by decide),Y1 l hB,ob,T7 p1,if_pos (by decide),w1 (by omega),Wo,Y1 l hB,ob,U5 q1]
  simp only [beq_self_eq_true,Bool.not_true,Bool.false_eq_true,if_false]
  rw [v4]
  rfl
 | name nm=>
  intro k r hr hA
  obtain ⟨a,b,d⟩:=At.nm (hnm.1 rfl) hr (show At C l k (nm++r) from hA)
  have hlt:=Od a
  have hf:=N1e a
  refine ⟨k+1,by omega,by omega,d,?_⟩
  rw [L7]
  simp only [Y1 l hB,ob,hf,Bool.false_eq_true,if_false]
  rw [Yj l hB,a,if_pos rfl,ob,b]
end
theorem O1a (s:Str):At (txk s).2 (E14 (txk s).1) 0 s:=⟨by rw [List.drop_zero,V1g],rfl⟩
theorem P15 {s:Str}(h:s.length≤8192):Ta (E14 (txk s).1):=by
 obtain ⟨h1,h2⟩:=L1a (s.length+1) s (Nat.lt_succ_self _) h
 refine ⟨?_,h1⟩
 unfold E14
 rw [List.length_map]
 unfold BB
 omega
theorem C13 {C:Int}{l:List F0}{k:Nat}(h:At C l k []):C=0∧l.length≤k:=by
 obtain ⟨h1,h2⟩:=h
 rw [Bt rfl] at h1 h2
 refine ⟨h2.symm,?_⟩
 cases hl:l.drop k with
 | nil=>exact List.drop_eq_nil_iff.1 hl
 | cons x y=>rw [hl] at h1; cases h1
theorem P1a {s:Str}(h8:s.length≤8192)(h:(txk s).2=0):(W5 s).2.2=0∧At 0 (W5 s).1 0 s:=by
 have e:W5 s=lx s 0:=by rw [R1i,if_neg (by omega)]
 obtain ⟨h1,h2⟩:=T1e (s.length+1) s 0 (Nat.lt_succ_self _)
 rw [e]
 exact ⟨h1.trans h,by rw [List.drop_zero]; exact (h2 h).symm,h⟩
theorem Z1e {e:A0}(hf:Wy e)(h8:e.text.length≤8192)(hc:Ba e=0):O3 e.text=some (e,0,0):=by
 have t0:=P15 h8
 obtain ⟨k1,a1,a2⟩:=(K1h t0 e hf).rd 0 [] trivial (by rw [List.append_nil]; exact O1a e.text)
 obtain ⟨b1,_⟩:=C13 a2
 obtain ⟨c1,c2⟩:=P1a h8 b1
 obtain ⟨t1,_⟩:=Sp c1
 obtain ⟨k2,d1,d2⟩:=(K1h t1 e hf).rd 0 [] trivial (by rw [List.append_nil]; exact c2)
 obtain ⟨_,d3⟩:=C13 d2
 have d4:=d1.le
 have d5:=d1.c (Y1g (List.getElem?_eq_none d3))
 obtain ⟨v,j,ok,r1,r2,r3,_⟩:=A16 e.text c1
 have m5:=r1.symm.trans d5
 injection m5 with m5
 injection m5 with m6 m7
 injection m7 with m7 m8
 subst m6; subst m8
 rw [r3]
 unfold G1c
 have:(j == (W5 v.text).1.length)=true:=by rw [beq_iff_eq]; omega
 rw [this,Bool.true_and,if_pos rfl,hc]
 rfl
theorem A1f {t:C0}(hf:Fi t)(h8:t.text.length≤8192)(hc:Oc t=0):G8 t.text=some (t,0,0):=by
 have t0:=P15 h8
 obtain ⟨k1,_,_,a2,_⟩:=L1h t0 t hf 0 [] trivial (by rw [List.append_nil]; exact O1a t.text)
 obtain ⟨b1,_⟩:=C13 a2
 obtain ⟨c1,c2⟩:=P1a h8 b1
 obtain ⟨t1,_⟩:=Sp c1
 obtain ⟨k2,_,d4,d2,d5⟩:=L1h t1 t hf 0 [] trivial (by rw [List.append_nil]; exact c2)
 obtain ⟨_,d3⟩:=C13 d2
 have hb:((W5 t.text).2.2 != 0)=false:=by rw [c1]; rfl
 unfold G8 Je
 rw [(Z12 t.text).1,ob]
 simp only [hb,Bool.false_eq_true,if_false]
 unfold Ra
 rcases (I1h (l:=(W5 t.text).1) (e:=(t.text.length:Int)) t1 (Nat.zero_le _)).typ with ⟨v,j,h1,h2,h3,h4,h5⟩ | ⟨v,j,h2,h4,h5⟩
 ·have m5:=h5.symm.trans d5
  injection m5 with m5
  injection m5 with m6 m7
  injection m7 with m7 m8
  subst m6
  have h4':E3 (B0.mk (W5 v.text).1 0 (v.text.length:Int))=some (.ok (v,mk (W5 v.text).1 j (v.text.length:Int))):=h4
  rw [h4',ob]
  simp only [ob]
  rw [decide_eq_false (show ¬(j:Int) < ((W5 v.text).1.length:Int) by omega),if_neg (by simp)]
  simp only [ob,bne_self_eq_false,Bool.false_eq_true,if_false]
  rw [Yx v hf.f.ok,ob,hc]
  rfl
 ·have m5:=h5.symm.trans d5
  injection m5 with m5
  injection m5 with m6 m7
  injection m7 with m7 m8
  cases m8
theorem Zz (s:Str):(Np s=(s,0)∧s.length≤8192)∨(Np s).2≠0:=by
 unfold Np
 by_cases h:(s.length:Int) > 8192
 ·rw [decide_eq_true h]; exact .inr (show (5:Int)≠0 by decide)
 ·rw [decide_eq_false h]; exact .inl ⟨rfl,by omega⟩
theorem I1c (t:C0)(ht:Ok t):O4 t=some true:=by
 unfold O4
 obtain ⟨f,hf⟩:=F1e t ht 400
 rw [hf,ob]
 cases f with
 | false=>rfl
 | true=>
  rw [if_pos rfl,Z15 t ht,ob]
  obtain ⟨v,hv,_⟩:=D14 (Pm t).1
  by_cases h0:(Pm t).2=0
  ·have hc:Oc t=0:=by
    unfold Pm at h0
    cases hb:Oc t != 0 with
    | true=>rw [hb] at h0; exact h0
    | false=>simpa using hb
   have hp:Pm t=(t.text,0)∧t.text.length≤8192:=by
    unfold Pm at h0 ⊢
    rw [hc] at h0 ⊢
    rcases Zz t.text with h | h
    ·exact h
    ·exact absurd h0 h
   rw [hp.1]
   simp only
   rw [A1f (X1e ht hc) hp.2 hc,ob]
   simp only [bne_self_eq_false,beq_self_eq_true,Bool.not_false,Bool.and_self,if_true]
   rw [I1e t ht,J1e,ob]
   rfl
  ·have hz:((Pm t).2 == 0)=false:=by simpa using h0
   rw [hv,ob,hz]
   rfl
theorem Dt (a:A0)(t:C0)(ha:OkE a)(ht:Ok t)(hk:Ud=some true):Na a t=some true:=by
 unfold Na
 rw [hk,ob]
 simp only [Bool.not_true,Bool.false_eq_true,if_false]
 obtain ⟨f,hf⟩:=E1e a ha 400
 rw [hf,ob]
 cases f with
 | false=>exact I1c t ht
 | true=>
  rw [if_pos rfl,Y15 a ha,ob]
  obtain ⟨v,hv,_⟩:=C14 (Om a).1
  by_cases h0:(Om a).2=0
  ·have hc:Ba a=0:=by
    unfold Om at h0
    cases hb:Ba a != 0 with
    | true=>rw [hb] at h0; exact h0
    | false=>simpa using hb
   have hp:Om a=(a.text,0)∧a.text.length≤8192:=by
    unfold Om at h0 ⊢
    rw [hc] at h0 ⊢
    rcases Zz a.text with h | h
    ·exact h
    ·exact absurd h0 h
   rw [hp.1]
   simp only
   rw [Z1e (L1g ha hc) hp.2 hc,ob]
   simp only [bne_self_eq_false,beq_self_eq_true,Bool.not_false,Bool.and_self,if_true]
   rw [Y1b a ha,Z1b,ob]
   exact I1c t ht
  ·have hz:((Om a).2 == 0)=false:=by simpa using h0
   rw [hv,ob,hz]
   exact I1c t ht
end Go.Proofs.YtmnhfbekncjnfaaGreatDoor

set_option maxHeartbeats 1000000
namespace Go.Proofs.YtmnhfbekncjnfaaGreatDoor
open Go.Am
section
set_option linter.unusedSectionVars false
variable {C:Int}{l:List F0}(hl:Ta l)
include hl
end
end Go.Proofs.YtmnhfbekncjnfaaGreatDoor

set_option maxHeartbeats 400000
set_option maxRecDepth 4000
namespace Go.Proofs.YtmnhfbekncjnfaaGreatDoor
open Go.Am
section
set_option linter.unusedSectionVars false
variable {C:Int}{l:List F0}(hl:Ta l)
include hl
end
end Go.Proofs.YtmnhfbekncjnfaaGreatDoor

namespace Go.Proofs.YtmnhfbekncjnfaaGreatDoor
open Go.Am
theorem F11:Ud=some true:=V13 60 true (by kernel_rfl)
end Go.Proofs.YtmnhfbekncjnfaaGreatDoor

