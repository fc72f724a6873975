/- A part of the proof of ParserTypes. -/
import Derived.Test.YtmnhfbekncjnfaaGreatDoorDgB
import Derived.Lib.Atoi
import Derived.KernelRfl
namespace Go.Proofs.YtmnhfbekncjnfaaGreatDoor
open Go.Am
theorem ob {α β:Type}(a:α)(f:α→Option β):(some a>>=f)=f a:=rfl
theorem I7 {α:Type}{l:List α}{k:Nat}{x:α}{r:List α}(h:l.drop k=x::r):decide ((k:Int) < (l.length:Int))=true∧idx l (k:Int)=some x∧l.drop (k+1)=r∧k < l.length∧x∈l:=by
 have hk:k < l.length:=by
  rcases Nat.lt_or_ge k l.length with h1 | h1
  ·exact h1
  ·rw [List.drop_eq_nil_of_le h1] at h; cases h
 have hx:=List.drop_eq_getElem_cons hk
 rw [h] at hx
 obtain ⟨e1,e2⟩:=List.cons.inj hx
 refine ⟨decide_eq_true (by omega),?_,e2.symm,hk,?_⟩
 ·unfold idx
  rw [if_pos (by omega),e1]
  simp [hk]
 ·rw [e1]; exact List.getElem_mem hk
theorem N4 {α:Type}{l:List α}{k:Nat}(h:l.drop k=[]):decide ((k:Int) < (l.length:Int))=false∧l.length≤k:=by
 have:=List.drop_eq_nil_iff.1 h
 exact ⟨decide_eq_false (by omega),this⟩
def BB:Nat:=68719476736
theorem wr {n:Int}(h : -4611686018427387904≤n)(h':n≤4611686018427387904):IntKind.i64.wrap n=n:=G17 (by omega) (by omega)
theorem w1 {k:Nat}(h:k≤BB):IntKind.i64.wrap ((k:Int)+1)=((k+1:Nat):Int):=by
 unfold BB at h
 rw [wr (by omega) (by omega)]; rfl
def W8 (n:Int):Bool:=bif decide (n≥97) then decide (n≤122) else false
def Z6 (n:Int):Bool:=bif decide (n≥48) then decide (n≤57) else false
def Y14 (i:Nat)(c:UInt8):Bool:=W8 c.toNat||(i != 0&&Z6 c.toNat)
def Pe:Nat→List UInt8→Bool
 | _,[]=>true
 | i,c::r=>Y14 i c&&Pe (i+1) r
def C6 (s:List UInt8):Bool:=Pe 0 s && !(s == [])
def kw:List UInt8:=[32,116,121,112,101,32,115,101,99,114,101,116,32,112,117,98,108,105,99,32,114,97,110,100,111,109,32,118,97,114,32,104,97,116,99,104,32,102,117,110,99,32,114,101,116,117,114,110,32,98,101,103,105,110,32,101,110,100,32,98,111,111,108,32,105,110,116,32,97,114,114,97,121,32,111,102,32,114,101,99,111,114,100,32,116,114,117,101,32,102,97,108,115,101,32,99,97,108,108,32,114,101,108,101,97,115,101,32,111,117,116,112,117,116,32,119,97,105,116,32,105,102,32,101,108,115,101,32,119,104,105,108,101,32,108,105,109,105,116,32,102,111,114,32,116,111,32,115,101,116,116,108,101,32,109,105,110,32,109,97,120,32]
def Ij (s:List UInt8):Bool:=bif (bif !(s == []) then !Lib.contains s [32] else false) then Lib.contains kw ([32]++s++[32]) else false
def Nd (s:List UInt8):Bool:=bif (bif decide ((s.length:Int)≤12) then C6 s else false) then !Ij s else false
theorem getD_some {s:List UInt8}{k:Nat}(h:k < s.length):s[k]?=some (s.getD k 0):=by simp [List.getD,h]
def ld (c:UInt8):Bool:=bif W8 c.toNat then true else Z6 c.toNat
def N3:List UInt8→Nat
 | []=>0
 | c::r=>bif ld c then N3 r+1 else 0
theorem Vo:∀ s:List UInt8,N3 s≤s.length
 | []=>Nat.le_refl _
 | c::r=>by
  simp only [N3,List.length_cons]
  have:=Vo r
  cases ld c <;> simp <;> omega
def En (s:List UInt8):Bool:=bif ((s.length:Nat):Int) == 0 then false else bif s.all (fun c=>W8 c.toNat) then Lib.contains kw ([32]++s++[32]) else false
set_option maxRecDepth 100000 in
theorem Bt:kw.length=162:=rfl
theorem X11 {s sub:List UInt8}{i:Nat}(hi:i+sub.length≤s.length)(h:((s.take (i+sub.length)).drop i == sub)=true):Lib.contains s sub=true:=by
 have ho:Lib.occAt s sub i=true:=by
  rw [Lib.occAt_iff_take s sub i hi]
  rw [List.drop_take] at h
  simpa using h
 rcases Lib.index_spec s sub with ⟨_,h2⟩ | ⟨j,h1,_⟩
 ·rw [h2 i (by omega)] at ho; cases ho
 ·unfold Lib.contains
  rw [h1]
  exact decide_eq_true (by omega)
theorem Jq {s sub:List UInt8}(h:∀ i,i+sub.length≤s.length→((s.take (i+sub.length)).drop i == sub)=false)(hne:sub≠[]):Lib.contains s sub=false:=by
 rcases Lib.index_spec s sub with ⟨h1,_⟩ | ⟨j,h1,h2,h3,_⟩
 ·unfold Lib.contains
  rw [h1]; rfl
 ·rcases Lib.occAt_room h3 with hr | hr
  ·have:=h j hr
   rw [Lib.occAt_iff_take s sub j hr] at h3
   rw [List.drop_take] at this
   have e:j+sub.length - j=sub.length:=by omega
   rw [e,h3] at this
   cases this
  ·exact absurd hr hne
def Z14 (s:List UInt8):Bool:=
 bif (bif (bif (bif decide (((s.length:Nat):Int) < 1) then true else decide (((s.length:Nat):Int) > 12)) then true else !W8 (s.getD 0 0).toNat) then true else En s) then false else ((N3 s:Nat):Int) == ((s.length:Nat):Int)
theorem Hu:∀ (r:List UInt8) (i:Nat),1≤i→Pe i r=r.all ld
 | [],_,_=>rfl
 | c::r,i,h=>by
  have hi:(i != 0)=true:=by simp; omega
  simp only [Pe,List.all_cons,Hu r (i+1) (by omega),Y14,hi,Bool.true_and,ld]
  cases W8 c.toNat <;> rfl
theorem S13:∀ s:List UInt8,(((N3 s:Nat):Int) == ((s.length:Nat):Int))=s.all ld
 | []=>rfl
 | c::r=>by
  have h:=S13 r
  have hle:=Vo r
  simp only [N3,List.length_cons,List.all_cons,← h]
  cases ld c with
  | false=>
   simp only [cond_false,Bool.false_and]
   apply beq_eq_false_iff_ne.2
   omega
  | true=>
   simp only [cond_true,Bool.true_and]
   rw [Bool.eq_iff_iff,beq_iff_eq,beq_iff_eq]
   omega
set_option maxRecDepth 100000 in
theorem Z17:kw.all (fun c=>W8 c.toNat||c == 32)=true:=by decide
theorem Ct {s sub:List UInt8}(h:Lib.contains s sub=true)(hne:sub≠[]):∀ c∈sub,c∈s:=by
 rcases Lib.index_spec s sub with ⟨h1,_⟩ | ⟨j,h1,h2,h3,_⟩
 ·unfold Lib.contains at h
  rw [h1] at h
  cases h
 ·rcases Lib.occAt_room h3 with hr | hr
  ·rw [Lib.occAt_iff_take s sub j hr] at h3
   have e:(s.drop j).take sub.length=sub:=by simpa using h3
   intro c hc
   rw [← e] at hc
   exact List.mem_of_mem_drop (List.mem_of_mem_take hc)
  ·exact absurd hr hne
theorem Y11:ld 32=false:=by decide
theorem Z11 {s:List UInt8}(h:s.all ld=true):Lib.contains s [32]=false:=by
 cases hc:Lib.contains s [32] with
 | false=>rfl
 | true=>
  have:=Ct hc (by simp) 32 (by simp)
  have:=List.all_eq_true.1 h 32 this
  rw [Y11] at this
  cases this
theorem T13 {s:List UInt8}(h:s.all ld=true)(hc:Lib.contains kw ([32]++s++[32])=true):s.all (fun c=>W8 c.toNat)=true:=by
 rw [List.all_eq_true]
 intro c hcs
 have h1:=Ct hc (by simp) c (by simp [hcs])
 have h2:=List.all_eq_true.1 Z17 c h1
 have h3:=List.all_eq_true.1 h c hcs
 cases hl:W8 c.toNat with
 | true=>rfl
 | false=>
  rw [hl,Bool.false_or,beq_iff_eq] at h2
  subst h2
  rw [Y11] at h3
  cases h3
theorem J19 (s:List UInt8):Z14 s=Nd s:=by
 unfold Z14 Nd
 rw [S13]
 cases s with
 | nil=>rfl
 | cons c r=>
  have h1:decide ((((c::r).length:Nat):Int) < 1)=false:=decide_eq_false (by simp only [List.length_cons]; omega)
  have h12:decide ((((c::r).length:Nat):Int) > 12) = !decide ((((c::r).length:Nat):Int)≤12):=by
   rw [← decide_not]; exact decide_eq_decide.2 Int.not_le.symm
  have hw:C6 (c::r)=(W8 c.toNat&&r.all ld):=by
   unfold C6
   simp only [Pe,Y14,Hu r 1 (Nat.le_refl _)]
   simp
  rw [h1,h12,hw,cond_false,List.all_cons]
  show (bif (bif (bif !decide ((((c::r).length:Nat):Int)≤12) then true else !W8 c.toNat) then true else En (c::r)) then false else (ld c&&r.all ld))=_
  cases h12':decide ((((c::r).length:Nat):Int)≤12) with
  | false=>rfl
  | true=>
   cases hl:W8 c.toNat with
   | false=>rfl
   | true=>
    have hlc:ld c=true:=by unfold ld; rw [hl]; rfl
    rw [hlc]
    cases ha:r.all ld with
    | false=>cases En (c::r) <;> rfl
    | true=>
     have hall:(c::r).all ld=true:=by rw [List.all_cons,hlc,ha]; rfl
     have hns:=Z11 hall
     have e:En (c::r)=Ij (c::r):=by
      unfold En Ij
      rw [hns]
      have hz:((((c::r).length:Nat):Int) == 0)=false:=beq_eq_false_iff_ne.2 (by simp only [List.length_cons]; omega)
      rw [hz]
      cases hk:Lib.contains kw ([32]++(c::r)++[32]) with
      | false=>simp
      | true=>
       rw [T13 hall hk]
       rfl
     rw [e]
     cases Ij (c::r) <;> rfl
theorem Fn (n:Int):L6 n=some (W8 n):=rfl
theorem Gk (n:Int):C5 n=some (Z6 n):=rfl
theorem Lx (s:Str)(hs:s.length≤BB):∀ (r:Str) (k:Nat),s.drop k=r→D3 s k=some (Pe k r && !(s == []))
 | [],k,h=>by rw [D3,(N4 h).1]; simp [Pe]
 | c::r,k,h=>by
  obtain ⟨h1,h2,h3,h4,_⟩:=I7 h
  have ih:=Lx s hs r (k+1) h3
  rw [D3,h1,if_pos rfl,h2,ob,Fn,ob,w1 (by omega),ih]
  have e:((k:Int) == 0)=(k == 0):=by cases k <;> rfl
  simp only [e,Pe,Y14,bne]
  cases hl:W8 c.toNat <;> cases hk:k == 0 <;> cases hd:Z6 c.toNat <;> simp [Gk,hd]
theorem N16 (s:Str)(hs:s.length≤BB):Xb s=some (C6 s):=Lx s hs s 0 rfl
theorem Kq (s t:Str)(hs:s.length≤4000000000):Xc s t=some (Lib.contains s t):=by
 unfold Xc
 rw [if_pos (decide_eq_true (by omega))]
theorem Iu (s:Str)(hs:s.length≤4000000000):G5 s=some (Ij s):=by
 unfold G5
 have h1:decide (1+s.length≤maxLen)=true:=decide_eq_true (by unfold maxLen; omega)
 have h2:decide (([32]++s).length+1≤maxLen)=true:=decide_eq_true (by unfold maxLen; simp; omega)
 rw [Kq s _ hs]
 have h3:=Kq kw (([32]++s)++[32]) (by rw [Bt]; omega)
 unfold kw at h3
 unfold Ij kw
 rw [h1,h2,h3]
 cases s == [] <;> cases Lib.contains s [32] <;> simp
theorem O16 (s:Str)(hs:s.length≤BB):D9 s=some (Nd s):=by
 unfold D9 Yb Nd
 rw [N16 s hs]
 cases h:decide ((s.length:Int)≤12) with
 | false=>simp
 | true=>
  have h':s.length≤12:=by have:=of_decide_eq_true h; omega
  rw [Iu s (by omega)]
  cases C6 s <;> simp
theorem Ug (n:Int):Da n=some (W8 n):=rfl
theorem Gn (n:Int):Qd n=some (Z6 n):=rfl
theorem Ny (s:Str)(hs:s.length≤BB):∀ (r:Str) (k:Nat),s.drop k=r→T8 s k=some ((k+N3 r:Nat):Int)
 | [],k,h=>by rw [T8,(N4 h).1]; simp [N3,ob]
 | c::r,k,h=>by
  obtain ⟨h1,h2,h3,h4,_⟩:=I7 h
  have ih:=Ny s hs r (k+1) h3
  rw [T8,h1,if_pos rfl,h2,ob,if_pos rfl,Ug,ob,w1 (by omega),ih]
  simp only [N3,ld]
  cases hl:W8 c.toNat <;> cases hd:Z6 c.toNat <;> simp [Gn,hd,ob] <;> omega
theorem I1a (s:Str)(hs:s.length≤BB):Fe s 0=some ((N3 s:Nat):Int):=by
 have:=Ny s hs s 0 rfl
 unfold Fe
 rw [Nat.zero_add] at this
 exact this
theorem A18 (s:Str)(hs:s.length≤4000000000):∀ (n k:Nat),n+k=163→(∀ i,i < k→i+([32]++s++[32]).length≤kw.length→((kw.take (i+([32]++s++[32]).length)).drop i == [32]++s++[32])=false)→
  H4 s k=some (Lib.contains kw ([32]++s++[32])):=by
 have hl:([32]++s++[32]).length=s.length+2:=by simp
 intro n
 induction n with
 | zero=>
  intro k hk hi
  rw [H4,wr (n:=(k:Int)+_) (by omega) (by omega),wr (by omega) (by omega),if_neg (by simp; omega),Jq (fun i h=>hi i (by rw [Bt] at h; omega) h) (by simp)]
 | succ n ih=>
  intro k hk hi
  rw [H4,wr (n:=(k:Int)+_) (by omega) (by omega),wr (by omega) (by omega)]
  by_cases hr:k+([32]++s++[32]).length≤kw.length
  ·have hr':=hr
   rw [Bt,hl] at hr'
   rw [if_pos (decide_eq_true (by omega))]
   have hs2:slc kw (k:Int) ((k:Int)+(s.length:Int)+2)=some ((kw.take (k+([32]++s++[32]).length)).drop k):=by
    unfold slc
    rw [if_pos ⟨by omega,by omega,by rw [Bt]; omega⟩,hl]
    rw [show ((k:Int)+(s.length:Int)+2).toNat=k+(s.length+2) by omega]
    rfl
   unfold kw at hs2
   rw [hs2,ob,if_pos (decide_eq_true (by unfold maxLen; omega)),if_pos (decide_eq_true (by unfold maxLen; simp; omega))]
   cases he:((kw.take (k+([32]++s++[32]).length)).drop k == [32]++s++[32]) with
   | true=>
    have:=X11 hr he
    rw [this]
    unfold kw at he
    rw [he,if_pos rfl]
   | false=>
    have he':=he
    unfold kw at he'
    rw [he',if_neg (by simp),w1 (by unfold BB; omega)]
    refine ih (k+1) (by omega) fun i hik=>?_
    rcases Nat.lt_or_eq_of_le (Nat.le_of_lt_succ hik) with h | h
    ·exact hi i h
    ·subst h; exact fun _=>he
  ·have hr':=hr
   rw [Bt,hl] at hr'
   rw [if_neg (by simp; omega),Jq (fun i h=>hi i (by omega) h) (by simp)]
theorem A12 (s:Str)(hs:s.length≤4000000000):∀ (r:Str) (k:Nat),s.drop k=r→I4 s k=some (bif r.all (fun c=>W8 c.toNat) then Lib.contains kw ([32]++s++[32]) else false)
 | [],k,h=>by rw [I4,(N4 h).1,if_neg (by simp)]; exact A18 s hs 163 0 rfl (fun i h=>by omega)
 | c::r,k,h=>by
  obtain ⟨h1,h2,h3,h4,_⟩:=I7 h
  have ih:=A12 s hs r (k+1) h3
  rw [I4,h1,if_pos rfl,h2,ob,Ug,ob,w1 (by unfold BB; omega),ih,List.all_cons]
  cases W8 c.toNat <;> simp
theorem Wo (s:Str)(hs:s.length≤4000000000):V9 s=some (En s):=by
 unfold V9 En
 have:=A12 s hs s 0 rfl
 rw [show (0:Int)=((0:Nat):Int) from rfl,this]
 cases ((s.length:Int) == ((0:Nat):Int)) <;> simp
theorem Dt (s:Str)(hs:s.length≤BB):Ac s=some (Nd s):=by
 rw [← J19]
 unfold Ac Qg Z14
 cases h:(bif decide ((s.length:Int) < 1) then true else decide ((s.length:Int) > 12)) with
 | true=>simp [ob]
 | false=>
  have h':1≤s.length∧s.length≤12:=by
   cases h1:decide ((s.length:Int) < 1) with
   | true=>rw [h1] at h; cases h
   | false=>
    rw [h1] at h
    have:=of_decide_eq_false h1
    have:=of_decide_eq_false (show decide ((s.length:Int) > 12)=false from h)
    omega
  have h0:idx s 0=some (s.getD 0 0):=getD_some (by omega)
  rw [h0,Wo s (by omega),I1a s hs]
  simp only [Bool.not_false,if_true,ob,Ug,cond_false]
  cases W8 (s.getD 0 0).toNat <;> cases En s <;> simp [ob]
end Go.Proofs.YtmnhfbekncjnfaaGreatDoor

set_option linter.unusedSimpArgs false
namespace Go.Proofs.YtmnhfbekncjnfaaGreatDoor
open Go.Am
theorem C0.ind {P:C0→Prop}(h:∀ t:C0,(∀ x∈t.Of,P x)→P t):∀ t,P t:=by
 intro t
 refine C0.rec (motive_1:=P) (motive_2:=fun l=>∀ x∈l,P x) ?_ ?_ ?_ t
 ·intro k l h' s n ns of ih
  exact h _ ih
 ·intro x hx; cases hx
 ·intro x r hx hr y hy
  cases hy with
  | head=>exact hx
  | tail _ hy=>exact hr y hy
mutual
def C0.depth:C0→Nat
 | .mk _ _ _ _ _ _ of=>C0.depths of+1
def C0.depths:List C0→Nat
 | []=>0
 | t::r=>max (C0.depth t) (C0.depths r)
end
theorem C0.depth_eq (t:C0):t.depth=C0.depths t.Of+1:=by cases t; simp [C0.depth,C0.Of]
def Qe (a b c:Int):Bool:=bif decide (a≥b) then decide (a≤c) else false
mutual
def C0.all (p:C0→Bool):C0→Bool
 | .mk k l h s n ns of=>p (.mk k l h s n ns of)&&C0.alls p of
def C0.alls (p:C0→Bool):List C0→Bool
 | []=>true
 | t::r=>C0.all p t&&C0.alls p r
end
theorem C0.all_eq (p:C0→Bool)(t:C0):t.all p=(p t&&C0.alls p t.Of):=by cases t; rfl
mutual
def C0.nodes:C0→Nat
 | .mk _ _ _ _ _ _ of=>C0.nodess of+1
def C0.nodess:List C0→Nat
 | []=>0
 | t::r=>C0.nodes t+C0.nodess r
end
theorem C0.nodes_eq (t:C0):t.nodes=C0.nodess t.Of+1:=by cases t; rfl
mutual
theorem C0.depth_nodes:∀ t:C0,t.depth≤t.nodes
 | .mk _ _ _ _ _ _ of=>by simp only [C0.depth,C0.nodes]; have:=C0.depths_nodess of; omega
theorem C0.depths_nodess:∀ l:List C0,C0.depths l≤C0.nodess l
 | []=>Nat.le_refl _
 | t::r=>by simp only [C0.depths,C0.nodess]; have:=C0.depth_nodes t; have:=C0.depths_nodess r; omega
end
def fm1 (t:C0):Bool:=bif decide (t.Kind≥0) then decide (t.Kind≤4) else false
def fm2 (t:C0):Bool:=bif t.Kind == 1 then true else bif t.Low == 0 then t.High == 0 else false
def fm3 (t:C0):Bool:=bif t.Kind == 2 then true else t.Size == 0
def fm4 (t:C0):Bool:=bif t.Kind == 4 then true else t.Name == []
def fm5 (t:C0):Bool:=bif t.Kind == 3 then true else ((t.Names).length:Int) == 0
def fm6 (t:C0):Bool:=bif t.Kind == 2 then ((t.Of).length:Int) == 1 else bif t.Kind == 3 then (bif decide (((t.Of).length:Int)≥1) then ((t.Of).length:Int) == ((t.Names).length:Int) else false) else ((t.Of).length:Int) == 0
def nm1 (t:C0):Bool:=bif t.Kind == 2 then Qe t.Size 1 32 else bif t.Kind == 3 then decide (((t.Of).length:Int)≤32) else true
def nm2 (t:C0):Bool:=bif t.Kind == 1 then (bif Qe t.Low (-1048576) 1048576 then Qe t.High t.Low 1048576 else false) else true
def na1 (t:C0):Bool:=bif t.Kind == 4 then Nd t.Name else true
def R9 (t:C0):Bool:=fm1 t&&fm2 t&&fm3 t&&fm4 t&&fm5 t&&fm6 t
def Ll (t:C0):Bool:=nm1 t&&nm2 t
def Vg (t:C0):Bool:=na1 t&&t.Names.all Nd
theorem Mx (a b c:Bool):(a || !b || !c)=(a || !(b&&c)):=by cases a <;> cases b <;> cases c <;> rfl
def Lk (n d:Int)(f m u:Bool):Int:=
 bif (bif decide (n > 1024) then true else decide (d > 12)) then 4 else bif f then 1 else bif m then 7 else bif u then 3 else 0
theorem A15 (a b:Int):decide (a < b) = !decide (a≥b):=by
 rw [← decide_not]; exact decide_eq_decide.2 Int.not_le.symm
theorem B15 (a b:Int):decide (a > b) = !decide (a≤b):=by
 rw [← decide_not]; exact decide_eq_decide.2 Int.not_le.symm
def B12 (t:C0):Bool:=bif decide (t.Kind < 0) then true else decide (t.Kind > 4)
def C12 (t:C0):Bool:=
 bif (bif (bif (bif t.Kind != 1 then (bif t.Low != 0 then true else t.High != 0) else false) then true else (bif t.Kind != 2 then t.Size != 0 else false)) then true else (bif t.Kind != 4 then !(t.Name == []) else false)) then true else
  (bif t.Kind != 3 then ((t.Names).length:Int) != 0 else false)
def D12 (t:C0):Bool:=
 bif (bif (bif t.Kind == 2 then ((t.Of).length:Int) != 1 else false) then true else
  (bif t.Kind == 3 then (bif decide (((t.Of).length:Int) < 1) then true else ((t.Of).length:Int) != ((t.Names).length:Int)) else false)) then true else
  (bif (bif t.Kind != 2 then t.Kind != 3 else false) then ((t.Of).length:Int) != 0 else false)
theorem K19 (t:C0):fm1 t = !B12 t:=by
 unfold fm1 B12
 rw [A15,B15]
 cases decide (t.Kind≥0) <;> cases decide (t.Kind≤4) <;> rfl
theorem L19 (t:C0):(fm2 t&&fm3 t&&fm4 t&&fm5 t) = !C12 t:=by
 unfold fm2 fm3 fm4 fm5 C12
 simp only [bne]
 generalize (t.Kind == 1)=a
 generalize (t.Kind == 2)=b
 generalize (t.Kind == 3)=c
 generalize (t.Kind == 4)=d
 generalize (t.Low == 0)=e
 generalize (t.High == 0)=f
 generalize (t.Size == 0)=g
 generalize (t.Name == [])=h
 generalize (((t.Names).length:Int) == 0)=i
 cases a <;> cases b <;> cases c <;> cases d <;> cases e <;> cases f <;> cases g <;> cases h <;> cases i <;> rfl
theorem M19 (t:C0):fm6 t = !D12 t:=by
 have hx:(t.Kind == 2)=true→(t.Kind == 3)=false:=fun h=>by
  have:t.Kind=2:=by simpa using h
  rw [this]; rfl
 unfold fm6 D12
 rw [A15]
 simp only [bne]
 revert hx
 generalize (t.Kind == 2)=b
 generalize (t.Kind == 3)=c
 generalize (((t.Of).length:Int) == 1)=d
 generalize (((t.Of).length:Int) == 0)=e
 generalize (((t.Of).length:Int) == ((t.Names).length:Int))=f
 generalize (decide (((t.Of).length:Int)≥1))=g
 intro hx
 cases b <;> cases c <;> first | (exact absurd (hx rfl) (by decide)) | (cases d <;> cases e <;> cases f <;> cases g <;> rfl)
theorem B18 (t:C0):R9 t=(!B12 t && !C12 t && !D12 t):=by
 rw [← K19,← L19,← M19]
 unfold R9
 simp only [Bool.and_assoc]
def Lf (n:Int):Bool:=bif decide (n≥-1048576) then decide (n≤1048576) else false
def Ml (t:C0):Bool:=
 bif (bif (bif t.Kind == 1 then (bif (bif !Lf t.Low then true else !Lf t.High) then true else decide (t.Low > t.High)) else false) then true else
  (bif t.Kind == 2 then (bif decide (t.Size < 1) then true else decide (t.Size > 32)) else false)) then true else decide (((t.Of).length:Int) > 32)
theorem E12 (t:C0)(hf:R9 t=true):Ll t = !Ml t:=by
 have hk1:(t.Kind == 1)=true→(t.Kind == 2)=false∧(t.Kind == 3)=false:=fun h=>by
  have:t.Kind=1:=by simpa using h
  rw [this]; exact ⟨rfl,rfl⟩
 have hk2:(t.Kind == 2)=true→(t.Kind == 3)=false:=fun h=>by
  have:t.Kind=2:=by simpa using h
  rw [this]; rfl
 have h6:fm6 t=true:=by
  unfold R9 at hf
  simp only [Bool.and_eq_true] at hf
  exact hf.2
 have hin:(bif Qe t.Low (-1048576) 1048576 then Qe t.High t.Low 1048576 else false) = !(bif (bif !Lf t.Low then true else !Lf t.High) then true else decide (t.Low > t.High)):=by
  unfold Qe Lf
  by_cases a1:t.Low≥-1048576 <;> by_cases a2:t.Low≤1048576 <;> by_cases a3:t.High≥-1048576 <;> by_cases a4:t.High≤1048576 <;> by_cases a5:t.High≥t.Low <;>
   simp [a1,a2,a3,a4,a5] <;> omega
 have hsz:Qe t.Size 1 32 = !(bif decide (t.Size < 1) then true else decide (t.Size > 32)):=by
  unfold Qe
  rw [A15,B15]
  cases decide (t.Size≥1) <;> cases decide (t.Size≤32) <;> rfl
 unfold Ll Ml nm1 nm2
 rw [hin,hsz,B15 (((t.Of).length:Int))]
 have hl:(t.Kind == 3)=false→decide (((t.Of).length:Int)≤32)=true:=fun h3=>by
  unfold fm6 at h6
  rw [h3] at h6
  cases h2:t.Kind == 2 with
  | true=>
   rw [h2] at h6
   have:((t.Of).length:Int)=1:=by simpa using h6
   exact decide_eq_true (by omega)
  | false=>
   rw [h2] at h6
   have:((t.Of).length:Int)=0:=by simpa using h6
   exact decide_eq_true (by omega)
 revert hk1 hk2 hl
 generalize (bif (bif !Lf t.Low then true else !Lf t.High) then true else decide (t.Low > t.High))=X
 generalize (bif decide (t.Size < 1) then true else decide (t.Size > 32))=Y
 generalize decide (((t.Of).length:Int)≤32)=Z
 generalize (t.Kind == 1)=a
 generalize (t.Kind == 2)=b
 generalize (t.Kind == 3)=c
 intro hk1 hk2 hl
 cases a <;> cases b <;> cases c <;> first | exact absurd (hk1 rfl).1 (by decide) | exact absurd (hk1 rfl).2 (by decide) | exact absurd (hk2 rfl) (by decide) | (cases X <;> cases Y <;> cases Z <;> first | rfl | exact absurd (hl rfl) (by decide))
theorem D13 (t:C0):t.all R9=true→t.all Ll=t.all fun t=>!Ml t:=by
 induction t using C0.ind with
 | h t ih=>
 intro hf
 rw [C0.all_eq,Bool.and_eq_true] at hf
 rw [C0.all_eq,C0.all_eq,E12 t hf.1]
 congr 1
 have:∀ l:List C0,(∀ x∈l,x.all R9=true→x.all Ll=x.all fun t=>!Ml t)→C0.alls R9 l=true→C0.alls Ll l=C0.alls (fun t=>!Ml t) l:=by
  intro l
  induction l with
  | nil=>intros; rfl
  | cons x r ihr=>
   intro h1 h2
   simp only [C0.alls,Bool.and_eq_true] at h2
   simp only [C0.alls]
   rw [h1 x List.mem_cons_self h2.1,ihr (fun y hy=>h1 y (List.mem_cons_of_mem _ hy)) h2.2]
 exact this t.Of ih hf.2
def Et (t:C0):Int:=Lk t.nodes t.depth (!t.all R9) (!t.all Vg) (!t.all Ll)
def eqL {α:Type}(p:α→α→Bool):List α→List α→Bool
 | [],[]=>true
 | x::r,y::s=>p x y&&eqL p r s
 | _,_=>false
theorem Oy {α:Type}(p:α→α→Bool):∀ {l m:List α},l.length≠m.length→eqL p l m=false
 | [],[],h=>absurd rfl h
 | [],_::_,_=>rfl
 | _::_,[],_=>rfl
 | x::r,y::s,h=>by rw [eqL,Oy p (l:=r) (m:=s) (by simpa using h),Bool.and_false]
mutual
def C0.same:C0→C0→Bool
 | .mk k l h s n ns of,t=>k == t.Kind&&l == t.Low&&h == t.High&&s == t.Size&&n == t.Name&&eqL (fun x y=>x == y) ns t.Names&&C0.sames of t.Of
def C0.sames:List C0→List C0→Bool
 | [],[]=>true
 | x::r,y::s=>C0.same x y&&C0.sames r s
 | [],_::_=>false
 | _::_,[]=>false
end
theorem C0.sames_eq:∀ l m:List C0,C0.sames l m=eqL C0.same l m
 | [],[]=>rfl
 | x::r,y::s=>by simp only [C0.sames,eqL,C0.sames_eq r s]
 | [],_::_=>rfl
 | _::_,[]=>rfl
theorem C0.same_eq (t u:C0):t.same u=(t.Kind == u.Kind&&t.Low == u.Low&&t.High == u.High&&t.Size == u.Size&&t.Name == u.Name&&eqL (fun x y=>x == y) t.Names u.Names&&eqL C0.same t.Of u.Of):=by
 rw [← C0.sames_eq]
 cases t
 rfl
def Py (t u:C0):Bool:=
 bif (bif (bif (bif (bif (bif t.Kind != u.Kind then true else t.Low != u.Low) then true else t.High != u.High) then true else t.Size != u.Size) then true else !(t.Name == u.Name)) then true else
  ((t.Names).length:Int) != ((u.Names).length:Int)) then true else ((t.Of).length:Int) != ((u.Of).length:Int)
theorem P16 {t u:C0}(h:Py t u=true):t.same u=false:=by
 have hn:((t.Names).length:Int)≠((u.Names).length:Int)→eqL (fun x y=>x == y) t.Names u.Names=false:=fun h=>Oy _ fun e=>h (by omega)
 have ho:((t.Of).length:Int)≠((u.Of).length:Int)→eqL C0.same t.Of u.Of=false:=fun h=>Oy _ fun e=>h (by omega)
 unfold Py at h
 rw [C0.same_eq]
 by_cases h1:((t.Names).length:Int)=((u.Names).length:Int)
 ·by_cases h2:((t.Of).length:Int)=((u.Of).length:Int)
  ·rw [h1,h2] at h
   revert h
   simp only [bne,beq_self_eq_true,Bool.not_true]
   cases t.Kind == u.Kind <;> cases t.Low == u.Low <;> cases t.High == u.High <;> cases t.Size == u.Size <;> cases t.Name == u.Name <;> simp
  ·rw [ho h2,Bool.and_false]
 ·rw [hn h1,Bool.and_false,Bool.false_and]
theorem C18 {t u:C0}(h:Py t u=false):t.same u=(eqL (fun x y=>x == y) t.Names u.Names&&eqL C0.same t.Of u.Of)∧t.Names.length=u.Names.length∧t.Of.length=u.Of.length:=by
 unfold Py at h
 simp only [bne] at h
 have key:t.Kind == u.Kind∧t.Low == u.Low∧t.High == u.High∧t.Size == u.Size∧t.Name == u.Name∧((t.Names).length:Int) == ((u.Names).length:Int)∧((t.Of).length:Int) == ((u.Of).length:Int):=by
  revert h
  cases t.Kind == u.Kind <;> cases t.Low == u.Low <;> cases t.High == u.High <;> cases t.Size == u.Size <;> cases t.Name == u.Name <;> cases ((t.Names).length:Int) == ((u.Names).length:Int) <;> cases ((t.Of).length:Int) == ((u.Of).length:Int) <;> simp
 obtain ⟨k1,k2,k3,k4,k5,k6,k7⟩:=key
 refine ⟨by rw [C0.same_eq,k1,k2,k3,k4,k5]; rfl,?_,?_⟩
 ·have:(t.Names.length:Int)=u.Names.length:=by simpa using k6
  omega
 ·have:(t.Of.length:Int)=u.Of.length:=by simpa using k7
  omega
end Go.Proofs.YtmnhfbekncjnfaaGreatDoor

set_option linter.unusedSimpArgs false
namespace Go.Proofs.YtmnhfbekncjnfaaGreatDoor
open Go.Am
mutual
def C0.bulk:C0→Nat
 | .mk _ _ _ _ n ns of=>1+(1+(1+(1+((n.length+1)+(((ns.map fun s=>s.length+1).sum+1)+((C0.bulks of+1)+0))))))+1
def C0.bulks:List C0→Nat
 | []=>0
 | x::r=>C0.bulk x+C0.bulks r
end
theorem C0.bulk_eq (t:C0):t.bulk=t.Name.length+(t.Names.map fun s=>s.length+1).sum+C0.bulks t.Of+8:=by cases t; simp only [C0.bulk]; omega
theorem C0.bulk_kid {t:C0}:∀ {l:List C0},t∈l→t.bulk≤C0.bulks l
 | x::r,h=>by
  simp only [C0.bulks]
  cases h with
  | head=>omega
  | tail _ h=>have:=C0.bulk_kid h; omega
theorem C0.bulk_len:∀ l:List C0,l.length≤C0.bulks l
 | []=>Nat.le_refl _
 | x::r=>by
  simp only [C0.bulks,List.length_cons]
  have:=C0.bulk_len r
  have:=C0.bulk_eq x
  omega
theorem F12 {s:Str}:∀ {l:List Str},s∈l→s.length+1≤(l.map fun s=>s.length+1).sum
 | x::r,h=>by
  simp only [List.map_cons,List.sum_cons]
  cases h with
  | head=>omega
  | tail _ h=>have:=F12 h; omega
theorem G12:∀ l:List Str,l.length≤(l.map fun s=>s.length+1).sum
 | []=>Nat.le_refl _
 | x::r=>by simp only [List.map_cons,List.sum_cons,List.length_cons]; have:=G12 r; omega
mutual
theorem C0.nodes_bulk:∀ t:C0,t.nodes≤t.bulk
 | .mk _ _ _ _ _ _ of=>by simp only [C0.nodes,C0.bulk]; have:=C0.nodess_bulk of; omega
theorem C0.nodess_bulk:∀ l:List C0,C0.nodess l≤C0.bulks l
 | []=>Nat.le_refl _
 | x::r=>by simp only [C0.nodess,C0.bulks]; have:=C0.nodes_bulk x; have:=C0.nodess_bulk r; omega
end
def Ok (t:C0):Prop:=t.bulk≤BB
theorem Ok.kid {t x:C0}(h:Ok t)(hx:x∈t.Of):Ok x:=by
 unfold Ok at *
 have:=C0.bulk_kid hx
 have:=C0.bulk_eq t
 omega
theorem Ok.ofs {t:C0}(h:Ok t):t.Of.length≤BB:=by
 unfold Ok at *
 have:=C0.bulk_len t.Of
 have:=C0.bulk_eq t
 omega
theorem Ok.names {t:C0}(h:Ok t):t.Names.length≤BB:=by
 unfold Ok at *
 have:=G12 t.Names
 have:=C0.bulk_eq t
 omega
theorem Ok.name1 {t:C0}(h:Ok t){s:Str}(hs:s∈t.Names):s.length≤BB:=by
 unfold Ok at *
 have:=F12 hs
 have:=C0.bulk_eq t
 omega
theorem Ok.name {t:C0}(h:Ok t):t.Name.length≤BB:=by
 unfold Ok at *
 have:=C0.bulk_eq t
 omega
theorem Ok.nodes {t:C0}(h:Ok t):t.nodes≤BB:=Nat.le_trans (C0.nodes_bulk t) h
theorem bor (a b:Bool):(bif a then true else b)=(a||b):=by cases a <;> rfl
theorem D18 (d:Int)(o:I0):W4 d o=some ⟨o.nodes,max o.depth d,o.badForm,o.badName,o.badNumber⟩:=rfl
theorem E18 (b:Bool)(o:I0):O1 b o=some ⟨o.nodes,o.depth,o.badForm || !b,o.badName,o.badNumber⟩:=by unfold O1; rw [bor]
theorem Nx (b:Bool)(o:I0):O2 b o=some ⟨o.nodes,o.depth,o.badForm,o.badName,o.badNumber || !b⟩:=by unfold O2; rw [bor]
theorem Ox (a b c:Int):E6 a b c=some (Qe a b c):=rfl
theorem H12 (s:Str)(hs:s.length≤BB)(o:I0):E3 s o=some ⟨o.nodes,o.depth,o.badForm,o.badName || !Nd s,o.badNumber⟩:=by
 unfold E3
 rw [O16 s hs]
 cases h:o.badName <;> simp
theorem F18 (o:I0):A4 o=some (Lk o.nodes o.depth o.badForm o.badName o.badNumber):=by
 unfold A4 Lk
 cases (bif decide (o.nodes > 1024) then true else decide (o.depth > 12)) <;> cases o.badForm <;> cases o.badName <;> cases o.badNumber <;> rfl
def Nl (o:I0)(d:Int)(n m:Nat)(f a u:Bool):I0:=⟨o.nodes+n,max o.depth (d+m),o.badForm || !f,o.badName || !a,o.badNumber || !u⟩
theorem Q16 (t:C0)(d:Int)(hd:0≤d)(ht:Ok t)
  (ih:∀ x∈t.Of,∀ (d:Int) (o:I0),0≤d→d+x.nodes≤4 * BB→0≤o.nodes→o.nodes+x.nodes≤4 * BB→J4 x d o=some (Nl o d x.nodes (x.depth - 1) (x.all R9) (x.all Vg) (x.all Ll))) :
  ∀ (r:List C0) (k:Nat) (o:I0),t.Of.drop k=r→(∀ x∈r,x∈t.Of)→d+1+C0.nodess r≤4 * BB→0≤o.nodes→o.nodes+C0.nodess r≤4 * BB→d≤o.depth→
   C4 t d o k=some (Nl o d (C0.nodess r) (C0.depths r) (C0.alls R9 r) (C0.alls Vg r) (C0.alls Ll r))
 | [],k,o,h,_,_,_,_,h5=>by
  rw [C4,(N4 h).1]
  simp only [Nl,C0.nodess,C0.depths,C0.alls,Bool.not_true,Bool.or_false]
  rw [if_neg (by simp),show o.nodes+((0:Nat):Int)=o.nodes by omega,show max o.depth (d+((0:Nat):Int))=o.depth by omega]
 | x::r,k,o,h,hm,hb,h3,h4,h5=>by
  obtain ⟨e1,e2,e3,e4,e5⟩:=I7 h
  simp only [C0.nodess] at hb h4
  have hdp:1≤x.depth:=by rw [C0.depth_eq]; omega
  have hof:=ht.ofs
  unfold BB at hb h4 hof
  rw [C4,e1,if_pos rfl,e2,ob,wr (n:=d+1) (by omega) (by omega),ih x e5 (d+1) o (by omega) (by unfold BB; omega) h3 (by unfold BB; omega),ob,w1 (by unfold BB; omega),
   Q16 t d hd ht ih r (k+1) _ e3 (fun y hy=>hm y (List.mem_cons_of_mem _ hy)) (by unfold BB; omega) (by simp only [Nl]; omega) (by simp only [Nl]; unfold BB; omega) (by simp only [Nl]; omega)]
  simp only [Nl,C0.nodess,C0.depths,C0.alls,Mx]
  rw [show o.nodes+(x.nodes:Int)+(C0.nodess r:Nat)=o.nodes+((x.nodes+C0.nodess r:Nat):Int) by omega,
   show max (max o.depth (d+1+((x.depth - 1:Nat):Int))) (d+(C0.depths r:Nat))=max o.depth (d+((max x.depth (C0.depths r):Nat):Int)) by omega]
theorem R16 (t:C0)(d:Int)(ht:Ok t)(R:I0→Option I0)(hR:∀ o,C4 t d o 0=R o) :
  ∀ (r:List Str) (k:Nat) (o:I0),t.Names.drop k=r→F3 t d o k=R ⟨o.nodes,o.depth,o.badForm,o.badName || !r.all Nd,o.badNumber⟩
 | [],k,o,h=>by
  rw [F3,(N4 h).1,if_neg (by simp),hR]
  simp
 | x::r,k,o,h=>by
  obtain ⟨e1,e2,e3,e4,e5⟩:=I7 h
  have:=ht.names
  rw [F3,e1,if_pos rfl,e2,ob,H12 x (ht.name1 e5),ob,w1 (by omega),R16 t d ht R hR r (k+1) _ e3]
  simp only [List.all_cons,Mx]
theorem J1a (t:C0)(d:Int)(ht:Ok t)(o:I0):K5 t d o=F3 t d ⟨o.nodes,o.depth,o.badForm,o.badName || !na1 t,o.badNumber⟩ 0:=by
 rw [K5,H12 _ ht.name,ob,E7,E7]
 unfold na1
 cases h:t.Kind == 4 <;> simp
theorem K1a (t:C0)(d:Int)(o:I0):J5 t d o=K5 t d ⟨o.nodes,o.depth,o.badForm,o.badName,o.badNumber || !nm2 t⟩:=by
 rw [J5]
 unfold nm2
 simp only [Ox,Nx,ob]
 cases h:t.Kind == 1 <;> cases Qe t.Low (-1048576) 1048576 <;> simp [ob]
theorem L1a (t:C0):Ok t→∀ (d:Int) (o:I0),0≤d→d+t.nodes≤4 * BB→0≤o.nodes→o.nodes+t.nodes≤4 * BB→
  J4 t d o=some (Nl o d t.nodes (t.depth - 1) (t.all R9) (t.all Vg) (t.all Ll)):=by
 induction t using C0.ind with
 | h t ih=>
 intro ht d o hd hb h3 h4
 have h5:=fun o h3 h4 hd'=>Q16 t d hd ht (fun x hx=>ih x hx (ht.kid hx)) t.Of 0 o rfl (fun _ h=>h) (by rw [C0.nodes_eq] at hb; omega) h3 h4 hd'
 have l4:=R16 t d ht _ (fun o=>rfl) t.Names 0
 rw [C0.nodes_eq] at hb h4
 unfold BB at hb h4
 rw [J4]
 simp only [D18,E18,Ox,Nx,ob,K1a,J1a t d ht]
 rw [wr (n:=o.nodes+1) (by omega) (by omega)]
 have fin:∀ b6 u1,fm6 t=b6→nm1 t=u1→
   F3 t d ⟨o.nodes+1,max o.depth d,(((((o.badForm || !fm1 t) || !fm2 t) || !fm3 t) || !fm4 t) || !fm5 t) || !b6,o.badName || !na1 t,(o.badNumber || !u1) || !nm2 t⟩ 0
    = some (Nl o d t.nodes (t.depth - 1) (t.all R9) (t.all Vg) (t.all Ll)):=by
  rintro _ _ rfl rfl
  have:=l4 ⟨o.nodes+1,max o.depth d,(((((o.badForm || !fm1 t) || !fm2 t) || !fm3 t) || !fm4 t) || !fm5 t) || !fm6 t,o.badName || !na1 t,(o.badNumber || !nm1 t) || !nm2 t⟩ rfl
  rw [show ((0:Nat):Int)=0 from rfl] at this h5
  rw [this,h5 _ (by simp only; omega) (by simp only; unfold BB; omega) (by simp only; omega)]
  simp only [Nl,C0.all_eq,C0.nodes_eq,C0.depth_eq,R9,Vg,Ll,Mx,Bool.or_assoc,← Bool.not_and]
  simp only [Mx,Bool.and_assoc]
  rw [show o.nodes+1+(C0.nodess t.Of:Int)=o.nodes+((C0.nodess t.Of+1:Nat):Int) by omega,show max (max o.depth d) (d+(C0.depths t.Of:Int))=max o.depth (d+((C0.depths t.Of+1 - 1:Nat):Int)) by omega]
 have h2:(t.Kind == 2)=true∨(t.Kind == 2)=false:=by cases t.Kind == 2 <;> simp
 have h3:(t.Kind == 3)=true∨(t.Kind == 3)=false:=by cases t.Kind == 3 <;> simp
 rcases h2 with h2 | h2
 ·rw [if_pos h2]
  exact fin ((t.Of.length:Int) == 1) (Qe t.Size 1 32) (by unfold fm6; rw [h2,cond_true]) (by unfold nm1; rw [h2,cond_true])
 ·rw [if_neg (by rw [h2]; simp)]
  rcases h3 with h3 | h3
  ·rw [if_pos h3]
   exact fin (bif decide ((t.Of.length:Int)≥1) then (t.Of.length:Int) == (t.Names.length:Int) else false) (decide ((t.Of.length:Int)≤32)) (by unfold fm6; rw [h2,h3,cond_false,cond_true]) (by unfold nm1; rw [h2,h3,cond_false,cond_true])
  ·rw [if_neg (by rw [h3]; simp)]
   have:=fin ((t.Of.length:Int) == 0) true (by unfold fm6; rw [h2,h3,cond_false,cond_false]) (by unfold nm1; rw [h2,h3,cond_false,cond_false])
   rw [Bool.not_true,Bool.or_false] at this
   exact this
theorem I12 (t:C0)(ht:Ok t):Ga t=some (Et t):=by
 have hn:=ht.nodes
 unfold BB at hn
 have hp:1≤t.depth:=by rw [C0.depth_eq]; omega
 unfold Ga
 rw [L1a t ht 1 _ (by omega) (by unfold BB; omega) (by simp) (by simp only; unfold BB; omega),ob,F18,ob]
 unfold Nl Et
 simp only [Bool.false_or]
 rw [show (0:Int)+(t.nodes:Int)=t.nodes by omega,show max 0 ((1:Int)+((t.depth - 1:Nat):Int))=t.depth by omega]
end Go.Proofs.YtmnhfbekncjnfaaGreatDoor

set_option linter.unusedSimpArgs false
namespace Go.Proofs.YtmnhfbekncjnfaaGreatDoor
open Go.Am
theorem J12 (t:C0)(ht:Ok t)(ih:∀ x∈t.Of,U5 x=some (x.nodes:Int)) :
  ∀ (r:List C0) (k:Nat) (n:Nat),t.Of.drop k=r→n+C0.nodess r≤BB→S6 t (n:Int) k=some ((n+C0.nodess r:Nat):Int)
 | [],k,n,h,hb=>by rw [S6,(N4 h).1,if_neg (by simp)]; simp [C0.nodess]
 | x::r,k,n,h,hb=>by
  obtain ⟨e1,e2,e3,e4,e5⟩:=I7 h
  have:=ht.ofs
  simp only [C0.nodess] at hb
  have hb':=hb
  unfold BB at hb'
  rw [S6,e1,if_pos rfl,e2,ob,ih x e5,ob,wr (n:=(n:Int)+_) (by omega) (by omega),w1 (by omega),show (n:Int)+(x.nodes:Int)=((n+x.nodes:Nat):Int) by omega,J12 t ht ih r (k+1) _ e3 (by omega)]
  simp only [C0.nodess,Nat.add_assoc]
theorem S16 (t:C0):Ok t→U5 t=some (t.nodes:Int):=by
 induction t using C0.ind with
 | h t ih=>
 intro ht
 have hn:=ht.nodes
 rw [C0.nodes_eq] at hn
 rw [U5]
 have:=J12 t ht (fun x hx=>ih x hx (ht.kid hx)) t.Of 0 1 rfl (by omega)
 rw [C0.nodes_eq,Nat.add_comm]
 exact this
theorem Iv (t:C0)(ht:Ok t)(ih:∀ x∈t.Of,V5 x=some (x.depth:Int))(B:Nat)(hB:B≤BB) :
  ∀ (r:List C0) (k:Nat) (n:Nat),t.Of.drop k=r→n≤B→C0.depths r≤B→Z4 t (n:Int) k=some ((max n (C0.depths r)+1:Nat):Int)
 | [],k,n,h,hb,_=>by
  rw [Z4,(N4 h).1,if_neg (by simp),w1 (by omega)]
  simp [C0.depths]
 | x::r,k,n,h,hb,hd=>by
  obtain ⟨e1,e2,e3,e4,e5⟩:=I7 h
  have:=ht.ofs
  simp only [C0.depths] at hd
  rw [Z4,e1,if_pos rfl,e2,ob,ih x e5,ob,w1 (by omega),Iv t ht ih B hB r (k+1) _ e3 (by omega) (by omega),Iv t ht ih B hB r (k+1) _ e3 (by omega) (by omega)]
  simp only [C0.depths]
  by_cases hx:(x.depth:Int) > (n:Int)
  ·rw [if_pos (decide_eq_true hx),show max n (max x.depth (C0.depths r))=max x.depth (C0.depths r) by omega]
  ·rw [if_neg (by simpa using hx),show max n (max x.depth (C0.depths r))=max n (C0.depths r) by omega]
theorem T16 (t:C0):Ok t→V5 t=some (t.depth:Int):=by
 induction t using C0.ind with
 | h t ih=>
 intro ht
 have hn:=ht.nodes
 have hd:=C0.depth_nodes t
 rw [V5]
 rw [C0.depth_eq] at hd
 have:=Iv t ht (fun x hx=>ih x hx (ht.kid hx)) BB (Nat.le_refl _) t.Of 0 0 rfl (by omega) (by omega)
 rw [C0.depth_eq]
 rw [show max 0 (C0.depths t.Of)=C0.depths t.Of by omega] at this
 exact this
theorem N19 (t:C0)(ht:Ok t):Ld ⟨0,0⟩ t true=some ⟨t.nodes,t.depth⟩:=by
 have hn:=ht.nodes
 unfold BB at hn
 have hp:1≤t.depth:=by rw [C0.depth_eq]; omega
 unfold Ld
 rw [S16 t ht,T16 t ht]
 simp only [Bool.not_true,cond_false,ob,Pb]
 rw [if_neg (by simp),ob,if_neg (by simp),wr (n:=(0:Int)+(t.nodes:Int)) (by omega) (by omega),if_pos (decide_eq_true (by omega)),ob]
 rw [show (0:Int)+(t.nodes:Int)=t.nodes by omega]
theorem U13 (t:C0)(ht:Ok t)(ih:∀ x∈t.Of,T6 x=some (x.all R9)):∀ (r:List C0) (k:Nat),t.Of.drop k=r→M7 t k=some (C0.alls R9 r)
 | [],k,h=>by rw [M7,(N4 h).1,if_neg (by simp)]; rfl
 | x::r,k,h=>by
  obtain ⟨e1,e2,e3,e4,e5⟩:=I7 h
  have:=ht.ofs
  rw [M7,e1,if_pos rfl,e2,ob,ih x e5,ob,w1 (by omega),U13 t ht ih r (k+1) e3,C0.alls]
  cases x.all R9 <;> simp
theorem G18 (t:C0):Ok t→T6 t=some (t.all R9):=by
 induction t using C0.ind with
 | h t ih=>
 intro ht
 have h1:=U13 t ht (fun x hx=>ih x hx (ht.kid hx)) t.Of 0 rfl
 rw [show ((0:Nat):Int)=0 from rfl] at h1
 rw [T6,h1,C0.all_eq,B18]
 show (if B12 t=true then some false else if C12 t=true then some false else if D12 t=true then some false else some (C0.alls R9 t.Of))=_
 cases B12 t <;> cases C12 t <;> cases D12 t <;> simp
theorem Lz (t:C0)(ht:Ok t)(ih:∀ x∈t.Of,W5 x=some (x.all Vg)):∀ (r:List C0) (k:Nat),t.Of.drop k=r→A5 t k=some (C0.alls Vg r)
 | [],k,h=>by rw [A5,(N4 h).1,if_neg (by simp)]; rfl
 | x::r,k,h=>by
  obtain ⟨e1,e2,e3,e4,e5⟩:=I7 h
  have:=ht.ofs
  rw [A5,e1,if_pos rfl,e2,ob,ih x e5,ob,w1 (by omega),Lz t ht ih r (k+1) e3,C0.alls]
  cases x.all Vg <;> simp
theorem Mz (t:C0)(ht:Ok t)(b:Bool)(hb:A5 t 0=some b):∀ (r:List Str) (k:Nat),t.Names.drop k=r→U6 t k=some (r.all Nd&&b)
 | [],k,h=>by rw [U6,(N4 h).1,if_neg (by simp),hb]; rfl
 | x::r,k,h=>by
  obtain ⟨e1,e2,e3,e4,e5⟩:=I7 h
  have:=ht.names
  rw [U6,e1,if_pos rfl,e2,ob,Dt x (ht.name1 e5),ob,w1 (by omega),Mz t ht b hb r (k+1) e3,List.all_cons]
  cases Nd x <;> simp
theorem U16 (t:C0):Ok t→W5 t=some (t.all Vg):=by
 induction t using C0.ind with
 | h t ih=>
 intro ht
 have h2:=Lz t ht (fun x hx=>ih x hx (ht.kid hx)) t.Of 0 rfl
 have h1:=Mz t ht _ h2 t.Names 0 rfl
 rw [show ((0:Nat):Int)=0 from rfl] at h1
 rw [W5,h1,C0.all_eq,Dt t.Name ht.name]
 unfold Vg na1
 cases t.Kind == 4 <;> cases Nd t.Name <;> simp
theorem Px (t:C0)(ht:Ok t)(ih:∀ x∈t.Of,K4 x=some (x.all fun t=>!Ml t)):∀ (r:List C0) (k:Nat),t.Of.drop k=r→L5 t k=some (C0.alls (fun t=>!Ml t) r)
 | [],k,h=>by rw [L5,(N4 h).1,if_neg (by simp)]; rfl
 | x::r,k,h=>by
  obtain ⟨e1,e2,e3,e4,e5⟩:=I7 h
  have:=ht.ofs
  rw [L5,e1,if_pos rfl,e2,ob,ih x e5,ob,w1 (by omega),Px t ht ih r (k+1) e3,C0.alls]
  cases x.all (fun t=>!Ml t) <;> simp
theorem V16 (n:Int):Ie n=some (Lf n):=rfl
theorem E13 (t:C0):Ok t→K4 t=some (t.all fun t=>!Ml t):=by
 induction t using C0.ind with
 | h t ih=>
 intro ht
 have h1:=Px t ht (fun x hx=>ih x hx (ht.kid hx)) t.Of 0 rfl
 rw [show ((0:Nat):Int)=0 from rfl] at h1
 rw [K4,h1,C0.all_eq]
 simp only [V16]
 generalize C0.alls (fun t=>!Ml t) t.Of=A
 unfold Ml
 generalize decide ((t.Of.length:Int) > 32)=b1
 generalize (bif t.Kind == 2 then (bif decide (t.Size < 1) then true else decide (t.Size > 32)) else false)=b2
 generalize decide (t.Low > t.High)=b3
 cases t.Kind == 1 <;> cases Lf t.Low <;> cases Lf t.High <;> cases b1 <;> cases b2 <;> cases b3 <;> rfl
theorem F13 (s:Q1)(f m u:Bool):Kd s f m u=some (Lk s.nodes s.depth (!f) (!m) (!u)):=by
 unfold Kd Lk
 cases (bif decide (s.nodes > 1024) then true else decide (s.depth > 12)) <;> cases f <;> cases m <;> cases u <;> rfl
theorem E10 (t:C0)(ht:Ok t):Ya t=some (Et t):=by
 unfold Ya Et
 rw [N19 t ht,G18 t ht,U16 t ht,E13 t ht]
 simp only [ob,F13]
 cases hf:t.all R9 with
 | true=>rw [D13 t hf]
 | false=>unfold Lk; rfl
end Go.Proofs.YtmnhfbekncjnfaaGreatDoor

set_option linter.unusedSimpArgs false
set_option linter.unusedVariables false
namespace Go.Proofs.YtmnhfbekncjnfaaGreatDoor
open Go.Am
mutual
def B0.bulk:B0→Nat
 | .mk _ _ n ks=>1+(1+((n.length+1)+((B0.bulks ks+1)+0)))+1
def B0.bulks:List B0→Nat
 | []=>0
 | x::r=>B0.bulk x+B0.bulks r
end
def ar (o:Int):Int:=
 bif (bif (bif (bif (o == 0) then true else (o == 1)) then true else (o == 2)) then true else (o == 3)) then 0
 else bif (bif (bif (o == 4) then true else (o == 6)) then true else (o == 7)) then 1
 else bif (bif (o == 5) then true else (bif (decide (o≥8)) then (decide (o≤22)) else false)) then 2
 else bif (o == 23) then 3 else -1
theorem b3 {o:Int}(h:(bif o == 4 then true else o == 5)=true):(o == 3)=false:=by
 apply beq_eq_false_iff_ne.2
 rintro rfl
 cases h
end Go.Proofs.YtmnhfbekncjnfaaGreatDoor

set_option linter.unusedSimpArgs false
set_option linter.unusedVariables false
namespace Go.Proofs.YtmnhfbekncjnfaaGreatDoor
open Go.Am
end Go.Proofs.YtmnhfbekncjnfaaGreatDoor

set_option linter.unusedSimpArgs false
set_option linter.unusedVariables false
namespace Go.Proofs.YtmnhfbekncjnfaaGreatDoor
open Go.Am
theorem S18 {α:Type}{l:List α}{k:Nat}(h:k < l.length):∃ y,idx l (k:Int)=some y∧l.drop k=y::l.drop (k+1)∧y∈l:=by
 refine ⟨l[k],?_,List.drop_eq_getElem_cons h,List.getElem_mem h⟩
 unfold idx
 rw [if_pos (by omega)]
 simp [h]
theorem z0:(0:Int)=((0:Nat):Int):=rfl
theorem Jv {α:Type}{p:α→α→Bool}:∀ l:List α,(∀ x∈l,p x x=true)→eqL p l l=true
 | [],_=>rfl
 | x::r,h=>by rw [eqL,h x List.mem_cons_self,Jv r fun y hy=>h y (List.mem_cons_of_mem _ hy)]; rfl
theorem Nz (t u:C0)(ht:Ok t)(hl:t.Of.length=u.Of.length)(ih:∀ x∈t.Of,∀ y,L4 x y=some (x.same y)) :
  ∀ (r:List C0) (k:Nat),t.Of.drop k=r→Y4 t u k=some (eqL C0.same r (u.Of.drop k))
 | [],k,h=>by
  rw [Y4,(N4 h).1,if_neg (by simp),List.drop_eq_nil_of_le (by have:=(N4 h).2; omega)]; rfl
 | x::r,k,h=>by
  obtain ⟨e1,e2,e3,e4,e5⟩:=I7 h
  obtain ⟨y,f1,f2,f3⟩:=S18 (l:=u.Of) (k:=k) (by omega)
  have:=ht.ofs
  rw [Y4,e1,if_pos rfl,e2,ob,f1,ob,ih x e5 y,ob,w1 (by omega),Nz t u ht hl ih r (k+1) e3,f2,eqL]
  cases x.same y <;> simp
theorem Oz (t u:C0)(ht:Ok t)(hl:t.Names.length=u.Names.length)(b:Bool)(hb:Y4 t u 0=some b) :
  ∀ (r:List Str) (k:Nat),t.Names.drop k=r→R6 t u k=some (eqL (fun x y=>x == y) r (u.Names.drop k)&&b)
 | [],k,h=>by
  rw [R6,(N4 h).1,if_neg (by simp),List.drop_eq_nil_of_le (by have:=(N4 h).2; omega),hb]; rfl
 | x::r,k,h=>by
  obtain ⟨e1,e2,e3,e4,e5⟩:=I7 h
  obtain ⟨y,f1,f2,f3⟩:=S18 (l:=u.Names) (k:=k) (by omega)
  have:=ht.names
  rw [R6,e1,if_pos rfl,e2,ob,f1,ob,w1 (by omega),Oz t u ht hl b hb r (k+1) e3,f2,eqL]
  cases x == y <;> simp
theorem W16 (t:C0):Ok t→∀ u,L4 t u=some (t.same u):=by
 induction t using C0.ind with
 | h t ih=>
 intro ht u
 have ih':=fun x hx=>ih x hx (ht.kid hx)
 rw [L4]
 show (if Py t u=true then _ else _)=_
 cases hd:Py t u with
 | true=>rw [if_pos rfl,P16 hd]
 | false=>
  obtain ⟨h1,h2,h3⟩:=C18 hd
  have h4:=Nz t u ht h3 ih' t.Of 0 rfl
  have h5:=Oz t u ht h2 _ h4 t.Names 0 rfl
  rw [if_neg (by simp),z0,h5,h1]
  rfl
theorem X16 (t:C0):t.same t=true:=by
 induction t using C0.ind with
 | h t ih=>
 rw [C0.same_eq,Jv t.Names (fun x _=>by simp),Jv t.Of ih]
 simp
end Go.Proofs.YtmnhfbekncjnfaaGreatDoor

namespace Go.Proofs.YtmnhfbekncjnfaaGreatDoor
open Go.Am
mutual
def R0.bulk:R0→Nat
 | .mk y0 y1 y2 y3 y4 y5 y6 y7 y8 y9 y10=>1+(B0.bulk y1+(B0.bulk y2+((y3.length+1)+((B0.bulks y4+1)+(1+(1+(1+(((y8.map fun _=>1).sum+1)+((R0.bulks y9+1)+((R0.bulks y10+1)+(0)))))))))))+1
def R0.bulks:List R0→Nat
 | []=>0
 | x::r=>R0.bulk x+R0.bulks r
end
end Go.Proofs.YtmnhfbekncjnfaaGreatDoor

set_option linter.unusedSimpArgs false
set_option linter.unusedVariables false
set_option maxHeartbeats 1000000
namespace Go.Proofs.YtmnhfbekncjnfaaGreatDoor
open Go.Am
end Go.Proofs.YtmnhfbekncjnfaaGreatDoor

set_option linter.unusedSimpArgs false
set_option linter.unusedVariables false
set_option maxHeartbeats 1000000
namespace Go.Proofs.YtmnhfbekncjnfaaGreatDoor
open Go.Am
end Go.Proofs.YtmnhfbekncjnfaaGreatDoor

set_option linter.unusedSimpArgs false
set_option linter.unusedVariables false
set_option maxHeartbeats 1000000
namespace Go.Proofs.YtmnhfbekncjnfaaGreatDoor
open Go.Am
end Go.Proofs.YtmnhfbekncjnfaaGreatDoor

set_option linter.unusedSimpArgs false
set_option linter.unusedVariables false
set_option maxHeartbeats 1000000
namespace Go.Proofs.YtmnhfbekncjnfaaGreatDoor
open Go.Am
end Go.Proofs.YtmnhfbekncjnfaaGreatDoor

set_option linter.unusedSimpArgs false
set_option linter.unusedVariables false
namespace Go.Proofs.YtmnhfbekncjnfaaGreatDoor
open Go.Am
end Go.Proofs.YtmnhfbekncjnfaaGreatDoor

namespace Go.Proofs.YtmnhfbekncjnfaaGreatDoor
open Go.Am
def skp:Bool→List UInt8→Nat
 | _,[]=>0
 | false,c::r=>if (c.toNat:Int) == 35 then skp true r+1 else if (c.toNat:Int) == 32||((c.toNat:Int) == 9||(c.toNat:Int) == 10) then skp false r+1 else 0
 | true,c::r=>if (c.toNat:Int) == 10 then skp false r+1 else skp true r+1
theorem Ft:∀ (b:Bool) (r:List UInt8),skp b r≤r.length
 | true,[]=>Nat.le_refl _
 | false,[]=>Nat.le_refl _
 | false,c::r=>by
  have h1:=Ft true r
  have h2:=Ft false r
  simp only [skp,List.length_cons]
  split
  ·omega
  ·split <;> omega
 | true,c::r=>by
  have h1:=Ft true r
  have h2:=Ft false r
  simp only [skp,List.length_cons]
  split <;> omega
theorem Pz (s:Str)(hs:s.length≤BB):∀ (r:Str) (k:Nat),s.drop k=r→T3 s k=some ((k+skp false r:Nat):Int)∧Q6 s k=some ((k+skp true r:Nat):Int)
 | [],k,h=>by
  have h1:T3 s k=some ((k+skp false []:Nat):Int):=by rw [T3,(N4 h).1]; simp [skp]
  refine ⟨h1,?_⟩
  rw [Q6,(N4 h).1]
  simpa [ob,skp] using h1
 | c::r,k,h=>by
  obtain ⟨h1,h2,h3,h4,_⟩:=I7 h
  obtain ⟨i1,i2⟩:=Pz s hs r (k+1) h3
  have e2:((c.toNat:Int) == 10)=false→Q6 s k=some ((k+skp true (c::r):Nat):Int):=fun hc=>by
   rw [Q6,h1,if_pos rfl,h2,ob]
   have:((c.toNat:Int) != 10)=true:=by simp only [bne,hc]; rfl
   rw [this,cond_true,if_pos rfl,w1 (by omega),i2]
   simp only [skp,hc]
   simp; omega
  have e1:T3 s k=some ((k+skp false (c::r):Nat):Int):=by
   rw [T3,h1,if_pos rfl,h2]
   simp only [ob]
   cases h35:(c.toNat:Int) == 35 with
   | true=>
    rw [if_pos rfl,e2 (by have:=eq_of_beq h35; rw [this]; rfl)]
    simp only [skp,h35,if_true]
    have:((c.toNat:Int) == 10)=false:=by have:=eq_of_beq h35; rw [this]; rfl
    simp [this]
   | false=>
    rw [if_neg (by simp)]
    simp only [w1 (show k≤BB by omega),i1,skp,h35]
    by_cases h32:(c.toNat:Int)=32 <;> by_cases h9:(c.toNat:Int)=9 <;> by_cases h10:(c.toNat:Int)=10 <;> simp [ob,h32,h9,h10] <;> omega
  refine ⟨e1,?_⟩
  cases h10:(c.toNat:Int) == 10 with
  | false=>exact e2 h10
  | true=>
   rw [Q6,h1,if_pos rfl,h2,ob]
   have:((c.toNat:Int) != 10)=false:=by simp only [bne,h10]; rfl
   rw [this,cond_true,if_neg (by simp),e1]
   have h35:((c.toNat:Int) == 35)=false:=by have:=eq_of_beq h10; rw [this]; rfl
   simp [skp,h10,h35]
theorem H18 (s:Str)(hs:s.length≤BB)(k:Nat):Pd s k=some ((k+skp false (s.drop k):Nat):Int):=(Pz s hs _ k rfl).1
theorem O19 {s:List UInt8}(hne:s≠[])(hall:s.all ld=true):En s=Ij s:=by
 unfold En Ij
 rw [Z11 hall]
 have hz:((s.length:Int) == 0)=false:=beq_eq_false_iff_ne.2 (by have:=List.length_pos_iff.2 hne; omega)
 have hn:(s == [])=false:=by cases s with
  | nil=>exact absurd rfl hne
  | cons _ _=>rfl
 rw [hz,hn]
 cases hk:Lib.contains kw ([32]++s++[32]) with
 | false=>simp
 | true=>rw [T13 hall hk]; rfl
theorem K12 (s:Str)(hs:s.length≤BB):∀ (r:Str) (k:Nat),s.drop k=r→U4 s k=some ((k+N3 r:Nat):Int)
 | [],k,h=>by rw [U4,(N4 h).1]; simp [N3,ob]
 | c::r,k,h=>by
  obtain ⟨h1,h2,h3,h4,_⟩:=I7 h
  have ih:=K12 s hs r (k+1) h3
  rw [U4,h1,if_pos rfl,h2,ob,if_pos rfl,Fn,ob,w1 (by omega),ih]
  simp only [N3,ld]
  cases hl:W8 c.toNat <;> cases hd:Z6 c.toNat <;> simp [Gk,hd,ob] <;> omega
theorem Qz:∀ r:List UInt8,(r.take (N3 r)).all ld=true
 | []=>rfl
 | c::r=>by
  simp only [N3]
  cases h:ld c with
  | false=>rfl
  | true=>simp only [cond_true,List.take_succ_cons,List.all_cons,h,Qz r]; rfl
def nv (n:Nat)(l:List UInt8):Nat:=l.foldl (fun n c=>10 * n+(c.toNat - 48)) n
theorem Xo (n:Nat):nv n []=n:=rfl
theorem Wh (n:Nat)(c:UInt8)(r:List UInt8):nv n (c::r)=nv (10 * n+(c.toNat - 48)) r:=by unfold nv; rw [List.foldl_cons]
theorem T18 (r:List UInt8):∀ n:Nat,n≤nv n r:=by
 induction r with
 | nil=>intro n; rw [Xo]; exact Nat.le_refl _
 | cons c r ih=>intro n; rw [Wh]; have:=ih (10 * n+(c.toNat - 48)); omega
def Qy (n:Nat):Int:=if n > 1048576 then 3 else 0
theorem Kv {n:Nat}(h:n > 1048576):Qy n=3:=if_pos h
theorem V13 {n:Nat}(h:n≤1048576):Qy n=0:=if_neg (by omega)
def Mm (w:List UInt8):Bool:=decide ((w.length:Int) > 1)&&((w.getD 0 0).toNat:Int) == 48
def Hn (w:List UInt8):Int:=if w.all (fun c=>Z6 c.toNat) && !Mm w then Qy (nv 0 w) else 6
theorem Tf {n:Nat}:Z6 n=true ↔ 48≤n∧n≤57:=by
 unfold Z6
 by_cases h:48≤n
 ·rw [show decide ((n:Int)≥48)=true from decide_eq_true (by omega),cond_true,decide_eq_true_iff]; omega
 ·rw [show decide ((n:Int)≥48)=false from decide_eq_false (by omega),cond_false]; simp; omega
theorem I18 {c:UInt8}(h:Z6 c.toNat=true):IntKind.i64.wrap (IntKind.u8.wrap ((c.toNat:Int) - 48))=((c.toNat - 48:Nat):Int):=by
 have:=Tf.1 h
 rw [V18 (by omega) (by omega),wr (by omega) (by omega)]; omega
theorem Rz (s:Str)(n v7:Int):Z2 s n v7=if (decide (v7 < ((s).length:Int)))=true then
  idx s v7>>=fun x1=>
  C5 (x1.toNat:Int)>>=fun x2=>
  if (!x2)=true then
   some 6
  else
   idx s v7>>=fun x3=>
   Z2 s (min (IntKind.i64.wrap ((IntKind.i64.wrap (10 * n))+(IntKind.i64.wrap (IntKind.u8.wrap ((x3.toNat:Int) - 48))))) 1048577) (IntKind.i64.wrap (v7+1))
 else
  idx s 0>>=fun x4=>
  if (bif ((x4.toNat:Int) == 48) then (decide (((s).length:Int) > 1)) else false)=true then
   some 6
  else
   if (decide (n > 1048576))=true then
    some 3
   else
    some 0:=Z2.eq_1 s n v7
theorem C15 (s:Str)(hs:s.length≤BB)(hne:s≠[]):∀ (r:Str) (k m:Nat) (n:Int),s.drop k=r→(m≤1048576→n=m)→(m > 1048576→n=1048577)→
  Z2 s n k=some (if r.all (fun c=>Z6 c.toNat) && !Mm s then Qy (nv m r) else 6):=by
 intro r
 induction r with
 | nil=>
  intro k m n h hn hn'
  refine (Rz s n k).trans ?_
  rw [(N4 h).1,if_neg (by simp)]
  have h0:idx s 0=some (s.getD 0 0):=getD_some (List.length_pos_iff.2 hne)
  rw [h0,ob]
  have hb:(bif (((s.getD 0 0).toNat:Int) == 48) then decide ((s.length:Int) > 1) else false)=Mm s:=by
   unfold Mm
   cases ((s.getD 0 0).toNat:Int) == 48 <;> simp
  rw [hb]
  rw [Xo,List.all_nil,Bool.true_and]
  rcases Bool.eq_false_or_eq_true (Mm s) with hz | hz
  ·rw [hz,if_pos rfl,Bool.not_true,if_neg (by simp)]
  ·rw [hz,if_neg (by simp),Bool.not_false,if_pos rfl]
   rcases Nat.lt_or_ge 1048576 m with hm | hm
   ·rw [Kv hm,if_pos (decide_eq_true (by have:=hn' hm; omega))]
   ·rw [V13 hm,if_neg (by have:=hn hm; simp; omega)]
 | cons c r ihr=>
  intro k m n h hn hn'
  obtain ⟨h1,h2,h3,h4,_⟩:=I7 h
  refine (Rz s n k).trans ?_
  rw [h1,if_pos rfl,h2,ob,Gk,ob]
  cases hd:Z6 c.toNat with
  | false=>simp [hd]
  | true=>
   have hc:=Tf.1 hd
   have hnn:0≤n∧n≤1048577:=by
    by_cases hm:m > 1048576
    ·have:=hn' hm; omega
    ·have:=hn (Nat.le_of_not_lt hm); omega
   have e:IntKind.i64.wrap (IntKind.i64.wrap (10 * n)+IntKind.i64.wrap (IntKind.u8.wrap ((c.toNat:Int) - 48)))=10 * n+((c.toNat - 48:Nat):Int):=by
    rw [I18 hd,wr (n:=10 * _) (by omega) (by omega),wr (by omega) (by omega)]
   have ih:=ihr (k+1) (10 * m+(c.toNat - 48)) (min (10 * n+((c.toNat - 48:Nat):Int)) 1048577) h3 (fun hm=>by have:=hn (by omega); omega) (fun hm=>by
    by_cases hm2:m > 1048576
    ·have:=hn' hm2; omega
    ·have:=hn (Nat.le_of_not_lt hm2); omega)
   simp only [Bool.not_true,Bool.false_eq_true,if_false,ob,e,w1 (show k≤BB by omega)]
   rw [ih,List.all_cons,hd,Bool.true_and]
   rw [Wh]
theorem D15 (s:Str)(hs:s.length≤BB)(hne:s≠[]):Wb s=some (Hn s):=C15 s hs hne s 0 0 0 rfl (fun _=>rfl) (fun h=>by omega)
theorem Sz (s:Str)(hs:s.length≤BB):∀ (r:Str) (k m:Nat),s.drop k=r→m≤1048576→r.all (fun c=>Z6 c.toNat)=true→V3 s m k=some (Qy (nv m r)):=by
 intro r
 induction r with
 | nil=>intro k m h hm _; rw [V3,(N4 h).1,if_neg (by simp)]; rw [Xo,V13 hm]
 | cons c r ihr=>
  intro k m h hm ha
  obtain ⟨h1,h2,h3,h4,_⟩:=I7 h
  rw [List.all_cons,Bool.and_eq_true] at ha
  have hc:=Tf.1 ha.1
  have e:IntKind.i64.wrap (IntKind.i64.wrap ((m:Int) * 10)+IntKind.i64.wrap (IntKind.u8.wrap ((c.toNat:Int) - 48)))=((10 * m+(c.toNat - 48):Nat):Int):=by
   rw [I18 ha.1,wr (n:=(m:Int) * 10) (by omega) (by omega),wr (by omega) (by omega)]; omega
  rw [V3,h1,if_pos rfl,h2,ob,e]
  rw [Wh]
  by_cases hb:10 * m+(c.toNat - 48) > 1048576
  ·rw [if_pos (decide_eq_true (by omega)),Kv (by have:=T18 r (10 * m+(c.toNat - 48)); omega)]
  ·rw [if_neg (by simp; omega),w1 (by omega)]
   exact ihr (k+1) _ h3 (by omega) ha.2
theorem Tz (s:Str)(hs:s.length≤BB)(hall:(v:Int)→V3 s 0 0=some v→True):∀ (r:Str) (k:Nat),s.drop k=r→S5 s k=if r.all (fun c=>Z6 c.toNat) then V3 s 0 0 else some 6
 | [],k,h=>by rw [S5,(N4 h).1,if_neg (by simp)]; rfl
 | c::r,k,h=>by
  obtain ⟨h1,h2,h3,h4,_⟩:=I7 h
  rw [S5,h1,if_pos rfl,h2,ob,Gn,ob]
  cases hd:Z6 c.toNat with
  | false=>simp [hd]
  | true=>simp only [Bool.not_true,Bool.false_eq_true,if_false,w1 (show k≤BB by omega),Tz s hs hall r (k+1) h3,List.all_cons,hd,Bool.true_and]
theorem L12 (s:Str)(hs:s.length≤BB)(hne:s≠[]):Ge s=some (Hn s):=by
 unfold Ge Hn
 have h0:idx s 0=some (s.getD 0 0):=getD_some (List.length_pos_iff.2 hne)
 have hr:=Tz s hs (fun _ _=>trivial) s 0 rfl
 rw [h0,show (0:Int)=((0:Nat):Int) from rfl,hr]
 unfold Mm
 cases hl:decide ((s.length:Int) > 1) with
 | false=>
  simp only [Bool.false_eq_true,if_false,ob,cond_false,Bool.false_and,Bool.not_false,Bool.and_true]
  cases ha:s.all (fun c=>Z6 c.toNat) with
  | false=>rfl
  | true=>exact Sz s hs s 0 0 rfl (by omega) ha
 | true=>
  simp only [if_true,ob,cond_true,Bool.true_and]
  cases hz:((s.getD 0 0).toNat:Int) == 48 with
  | true=>simp
  | false=>
   simp only [Bool.false_eq_true,if_false,Bool.not_false,Bool.and_true]
   cases ha:s.all (fun c=>Z6 c.toNat) with
   | false=>rfl
   | true=>exact Sz s hs s 0 0 rfl (by omega) ha
def Lv (s:List UInt8):Bool:=s == [46,46]||s == [61,61]||s == [33,61]||s == [60,61]||s == [62,61]||s == [38,38]||s == [124,124]
def E15:List UInt8:=[59,58,44,46,61,43,45,42,47,37,60,62,33,63,40,41,91,93,123,125]
def Ol (c:UInt8):Bool:=E15.contains c
theorem G13 (a b:UInt8):D7 [a,b]=some (Lv [a,b]):=by
 unfold D7 W3 Lv
 cases ([a,b] == [46,46]:Bool) <;> cases ([a,b] == [61,61]:Bool) <;> cases ([a,b] == [33,61]:Bool) <;> cases ([a,b] == [60,61]:Bool) <;> cases ([a,b] == [62,61]:Bool) <;> cases ([a,b] == [38,38]:Bool) <;> cases ([a,b] == [124,124]:Bool) <;> simp
set_option maxRecDepth 100000 in
theorem H13:∀ a:UInt8,D7 [a]=some (Ol a):=by
 have:∀ n:Fin 256,D7 [UInt8.ofNat n.val]=some (Ol (UInt8.ofNat n.val)):=by decide
 intro a
 have h:=this ⟨a.toNat,a.toNat_lt⟩
 simpa using h
end Go.Proofs.YtmnhfbekncjnfaaGreatDoor

namespace Go.Proofs.YtmnhfbekncjnfaaGreatDoor
open Go.Am
theorem Y16 (c:UInt8):∀ l:List UInt8,0≤Lib.indexByte l c ↔ l.contains c=true
 | []=>by simp [Lib.indexByte]
 | b::l=>by
  have ih:=Y16 c l
  have hg:=Lib.indexByte_ge l c
  by_cases hb:b=c
  ·subst hb
   simp [Lib.indexByte]
  ·have h1:(b == c)=false:=beq_eq_false_iff_ne.2 hb
   have h2:(c == b)=false:=beq_eq_false_iff_ne.2 fun e=>hb e.symm
   unfold Lib.indexByte
   rw [h1,List.contains_cons,h2,Bool.false_or,← ih,if_neg (by simp)]
   by_cases h:Lib.indexByte l c = -1
   ·rw [if_pos (by rw [h]; rfl),h]
   ·rw [if_neg (by simpa using h)]
    omega
theorem S1a (c:UInt8)(l:List UInt8):decide (Lib.indexByte l c≥0)=l.contains c:=by
 rw [Bool.eq_iff_iff,decide_eq_true_iff]
 exact Y16 c l
theorem Uf {s r:List UInt8}{k n:Nat}(h:s.drop k=r)(hk:k≤s.length)(hn:n≤r.length):slc s (k:Int) ((k+n:Nat):Int)=some (r.take n):=by
 have hl:r.length=s.length - k:=by rw [← h,List.length_drop]
 unfold slc
 rw [if_pos ⟨by omega,by omega,by omega⟩,← h]
 simp only [Int.toNat_natCast]
 rw [List.drop_take]
 congr 2
 congr 1
 omega
theorem Qx (c:UInt8)(r:Str):O7 (c::r)=some (if Ol c then [c] else []):=by
 unfold O7
 have h0:idx (c::r) 0=some c:=rfl
 rw [h0,ob]
 have hb:=S1a c E15
 unfold Di
 rw [ob]
 have e:((c.toNat:Int).toNat.toUInt8)=c:=by simp
 rw [e]
 unfold E15 at hb
 rw [hb]
 unfold Ol E15
 have h1:slc (c::r) 0 1=some [c]:=by
  have:=Uf (s:=c::r) (k:=0) (n:=1) rfl (by omega) (by simp)
  simpa using this
 rw [h1]
 split <;> rfl
theorem J18 (c:UInt8):L9 [c]=some (if Ol c then [c] else []):=by
 unfold L9
 rw [if_neg (by simp)]
 exact Qx c []
theorem K18 (a b:UInt8)(r:Str):L9 (a::b::r)=some (if Lv [a,b] then [a,b] else if Ol a then [a] else []):=by
 unfold L9
 have h2:slc (a::b::r) 0 2=some [a,b]:=by
  have:=Uf (s:=a::b::r) (k:=0) (n:=2) rfl (by omega) (by simp)
  simpa using this
 rw [if_pos (decide_eq_true (by simp only [List.length_cons]; omega)),h2,ob]
 unfold P3 Lv
 rw [h2,Qx]
 cases ([a,b] == [46,46]:Bool) <;> cases ([a,b] == [61,61]:Bool) <;> cases ([a,b] == [33,61]:Bool) <;> cases ([a,b] == [60,61]:Bool) <;> cases ([a,b] == [62,61]:Bool) <;> cases ([a,b] == [38,38]:Bool) <;> cases ([a,b] == [124,124]:Bool) <;> simp [ob]
def nxt (r:List UInt8)(k:Int):F0×Int:=
 if W8 (r.getD 0 0).toNat then
  if Ij (r.take (N3 r)) then (F0.mk 2 (r.take (N3 r)) k,0)
  else if decide (((r.take (N3 r)).length:Int) > 12) then (F0.mk 0 (r.take (N3 r)) k,7)
  else (F0.mk 0 (r.take (N3 r)) k,0)
 else if Z6 (r.getD 0 0).toNat then (F0.mk 1 (r.take (N3 r)) k,Hn (r.take (N3 r)))
 else if decide (2≤r.length)&&Lv (r.take 2) then (F0.mk 3 (r.take 2) k,0)
 else if Ol (r.getD 0 0) then (F0.mk 3 [r.getD 0 0] k,0)
 else (F0.mk 3 [] k,6)
theorem Dq {c:UInt8}{t:List UInt8}(h:ld c=true):1≤N3 (c::t):=by simp [N3,h]
theorem P19 (s:Str)(hs8:s.length≤8192){c:UInt8}{t:Str}{k:Nat}(h:s.drop k=c::t):Va s k=some (nxt (c::t) k):=by
 have hs:s.length≤BB:=by unfold BB; omega
 obtain ⟨h1,h2,h3,h4,_⟩:=I7 h
 have hle:=Vo (c::t)
 have hlen:(c::t).length=s.length - k:=by rw [← h,List.length_drop]
 have hrun:Ae s k=some ((k+N3 (c::t):Nat):Int):=K12 s hs _ k h
 have hslc:=Uf h (by omega) hle
 have ht8:((c::t).take (N3 (c::t))).length≤8192:=by rw [List.length_take]; omega
 have htl:((c::t).take (N3 (c::t))).length≤BB:=by unfold BB; omega
 unfold Va nxt
 rw [h2,ob,Fn,ob,hrun]
 simp only [List.getD_cons_zero]
 cases hl:W8 c.toNat with
 | true=>
  simp only [if_true,ob,hslc]
  rw [show G5 ((c::t).take (N3 (c::t)))=some (Ij ((c::t).take (N3 (c::t)))) from Iu _ (by omega),ob]
  cases Ij ((c::t).take (N3 (c::t))) with
  | true=>rfl
  | false=>
   cases decide ((((c::t).take (N3 (c::t))).length:Int) > 12) <;> rfl
 | false=>
  simp only [Bool.false_eq_true,if_false,Gk,ob]
  cases hd:Z6 c.toNat with
  | true=>
   simp only [if_true,ob,hslc]
   have hld:ld c=true:=by unfold ld; rw [hl,hd]; rfl
   have hp:=Dq (t:=t) hld
   rw [D15 _ htl (by intro he; have:=congrArg List.length he; rw [List.length_take] at this; simp at this; omega)]
   rfl
  | false=>
   simp only [Bool.false_eq_true,if_false]
   have hsl:slc s (k:Int) ((s.length:Nat):Int)=some (c::t):=by
    have:=Uf (n:=(c::t).length) h (by omega) (Nat.le_refl _)
    rw [List.take_length] at this
    rw [← this,hlen]
    congr 1; omega
   rw [hsl,ob]
   cases t with
   | nil=>
    rw [J18,ob]
    cases Ol c <;> rfl
   | cons b t=>
    rw [K18,ob]
    cases hz:Lv [c,b] with
    | true=>simp [hz]
    | false=>cases hy:Ol c <;> simp [hz,hy]
def M12 (x:F0×Int):F0×Int:=if x.2=0 then x else (F0.mk 0 [] 0,x.2)
theorem F15 (w:List UInt8):Hn w=0∨Hn w=3∨Hn w=6:=by
 unfold Hn Qy
 split
 ·split <;> simp
 ·simp
theorem L18 (s:Str)(hs8:s.length≤8192){c:UInt8}{t:Str}{k:Nat}(h:s.drop k=c::t):Jf s k=some (M12 (nxt (c::t) k)):=by
 have hs:s.length≤BB:=by unfold BB; omega
 obtain ⟨h1,h2,h3,h4,_⟩:=I7 h
 have hle:=Vo (c::t)
 have hlen:(c::t).length=s.length - k:=by rw [← h,List.length_drop]
 have hrun:Fe s k=some ((k+N3 (c::t):Nat):Int):=Ny s hs _ k h
 have hslc:=Uf h (by omega) hle
 have ht8:((c::t).take (N3 (c::t))).length≤8192:=by rw [List.length_take]; omega
 have htl:((c::t).take (N3 (c::t))).length≤BB:=by unfold BB; omega
 have hne:ld c=true→(c::t).take (N3 (c::t))≠[]:=fun hld he=>by
  have hp:=Dq (t:=t) hld
  have:=congrArg List.length he
  rw [List.length_take] at this
  simp at this
  omega
 unfold Jf nxt
 rw [hrun,ob,h2,ob,Ug,ob]
 simp only [List.getD_cons_zero]
 cases hl:W8 c.toNat with
 | true=>
  have hld:ld c=true:=by unfold ld; rw [hl]; rfl
  simp only [if_true,ob,hslc]
  rw [Wo _ (by omega),O19 (hne hld) (Qz _),ob]
  cases Ij ((c::t).take (N3 (c::t))) with
  | true=>rfl
  | false=>cases decide ((((c::t).take (N3 (c::t))).length:Int) > 12) <;> rfl
 | false=>
  simp only [Bool.false_eq_true,if_false,Gn,ob]
  cases hd:Z6 c.toNat with
  | true=>
   have hld:ld c=true:=by unfold ld; rw [hl,hd]; rfl
   simp only [if_true,ob,hslc]
   rw [L12 _ htl (hne hld),ob]
   unfold M12
   rcases F15 ((c::t).take (N3 (c::t))) with hn | hn | hn <;> rw [hn] <;> rfl
  | false=>
   simp only [Bool.false_eq_true,if_false]
   rw [wr (n:=(k:Int)+2) (by omega) (by omega),wr (n:=(k:Int)+1) (by omega) (by omega)]
   have hs1:slc s (k:Int) ((k:Int)+1)=some [c]:=by
    have:=Uf (n:=1) h (by omega) (by simp)
    simpa using this
   have fin:(slc s (k:Int) ((k:Int)+1)>>=fun x14=>D7 x14>>=fun x15=>if x15=true then slc s (k:Int) ((k:Int)+1)>>=fun x16=>some ((F0.mk 3 x16 (k:Int)),(0:Int)) else some ((F0.mk 0 [] 0),6))=some (M12 (if Ol c then (F0.mk 3 [c] (k:Int),0) else (F0.mk 3 [] (k:Int),6))):=by
    rw [hs1,ob,H13,ob]
    cases Ol c <;> rfl
   cases t with
   | nil=>
    simp only [List.length_cons,List.length_nil] at hlen
    have:decide ((k:Int)+2≤(s.length:Int))=false:=decide_eq_false (by omega)
    rw [this]
    simp only [Bool.false_eq_true,if_false,ob,cond_false]
    exact fin
   | cons b t=>
    simp only [List.length_cons] at hlen
    have:decide ((k:Int)+2≤(s.length:Int))=true:=decide_eq_true (by omega)
    have hs2:slc s (k:Int) ((k:Int)+2)=some [c,b]:=by
     have:=Uf (n:=2) h (by omega) (by simp)
     simpa using this
    rw [this]
    simp only [if_true,hs2,ob,G13,cond_true]
    cases hz:Lv [c,b] with
    | true=>simp [M12,hz]
    | false=>
     simp only [Bool.false_eq_true,if_false]
     rw [fin]
     simp [hz]
def Vf:Nat→List UInt8→Nat→List F0×Int×Int
 | 0,_,_=>([],0,0)
 | n+1,r,k=>
  match r.drop (skp false r) with
  | []=>([],0,0)
  | c::t=>
   let x:=nxt (c::t) ((k+skp false r:Nat):Int)
   if x.2=0 then
    let z:=Vf n ((c::t).drop x.1.Text.length) (k+skp false r+x.1.Text.length)
    if z.2.2=0 then (x.1::z.1,0,0) else z
   else ([],((k+skp false r:Nat):Int),x.2)
theorem Mv {c:UInt8}{t:List UInt8}{k:Int}(h:(nxt (c::t) k).2=0):1≤(nxt (c::t) k).1.Text.length∧(nxt (c::t) k).1.Text.length≤(c::t).length∧(nxt (c::t) k).1.At=k∧(c::t).take (nxt (c::t) k).1.Text.length=(nxt (c::t) k).1.Text:=by
 have hle:=Vo (c::t)
 have key:∀ {n:Nat},1≤n→n≤(c::t).length→1≤((c::t).take n).length∧((c::t).take n).length≤(c::t).length∧(c::t).take ((c::t).take n).length=(c::t).take n:=fun h1 h2=>by
  rw [List.length_take,Nat.min_eq_left h2]; exact ⟨h1,h2,rfl⟩
 revert h
 unfold nxt
 simp only [List.getD_cons_zero]
 cases hl:W8 c.toNat with
 | true=>
  have hld:ld c=true:=by unfold ld; rw [hl]; rfl
  obtain ⟨a1,a2,a3⟩:=key (Dq (t:=t) hld) hle
  simp only [if_true]
  split
  ·exact fun _=>⟨a1,a2,rfl,a3⟩
  ·split
   ·intro h; cases h
   ·exact fun _=>⟨a1,a2,rfl,a3⟩
 | false=>
  simp only [Bool.false_eq_true,if_false]
  cases hd:Z6 c.toNat with
  | true=>
   have hld:ld c=true:=by unfold ld; rw [hl,hd]; rfl
   obtain ⟨a1,a2,a3⟩:=key (Dq (t:=t) hld) hle
   exact fun _=>⟨a1,a2,rfl,a3⟩
  | false=>
   simp only [Bool.false_eq_true,if_false]
   split
   ·rename_i h2
    rw [Bool.and_eq_true] at h2
    obtain ⟨a1,a2,a3⟩:=key (n:=2) (by omega) (of_decide_eq_true h2.1)
    exact fun _=>⟨a1,a2,rfl,a3⟩
   ·split
    ·exact fun _=>⟨by simp,by simp,rfl,by simp⟩
    ·intro h; cases h
def Nm (s:Str)(out:List F0)(k:Nat):Option (List F0×Int×Int):=
 if k < s.length then
  Va s k>>=fun x2=>
  if (x2.2 != 0)=true then some ([],(k:Int),x2.2)
  else if (decide ((out.length+1) * 33≤140737488355328))=true then L2 s (out++[x2.1]) (IntKind.i64.wrap ((k:Int)+((x2.1.Text).length:Int)))
  else none
 else some (out,0,0)
theorem Z16 (s:Str)(hs:s.length≤BB)(out:List F0):∀ (r:Str) (k:Nat),s.drop k=r→L2 s out k=Nm s out (k+skp false r)∧B6 s out k=Nm s out (k+skp true r)
 | [],k,h=>by
  obtain ⟨h1,h2⟩:=N4 h
  have e1:L2 s out k=Nm s out (k+skp false []):=by
   rw [L2,h1,if_neg (by simp)]
   unfold Nm
   rw [if_neg (by simp [skp]; omega)]
  refine ⟨e1,?_⟩
  rw [B6,h1]
  simpa [ob,skp] using e1
 | c::r,k,h=>by
  obtain ⟨h1,h2,h3,h4,_⟩:=I7 h
  obtain ⟨i1,i2⟩:=Z16 s hs out r (k+1) h3
  have e2:((c.toNat:Int) == 10)=false→B6 s out k=Nm s out (k+skp true (c::r)):=fun hc=>by
   rw [B6,h1,if_pos rfl,h2,ob]
   have:((c.toNat:Int) != 10)=true:=by simp only [bne,hc]; rfl
   rw [this,cond_true,if_pos rfl,w1 (by omega),i2]
   simp only [skp,hc]
   congr 1
   simp; omega
  have e1:L2 s out k=Nm s out (k+skp false (c::r)):=by
   have hj:L2 s out k=O8 s out k c ((c.toNat:Int) == 32||((c.toNat:Int) == 9||(c.toNat:Int) == 10)):=by
    rw [L2,h1,if_pos rfl,h2,ob]
    cases h32:(c.toNat:Int) == 32 with
    | true=>rfl
    | false=>cases h9:(c.toNat:Int) == 9 <;> simp
   rw [hj,O8]
   cases hb:((c.toNat:Int) == 32||((c.toNat:Int) == 9||(c.toNat:Int) == 10)) with
   | true=>
    have h35:((c.toNat:Int) == 35)=false:=by
     cases hx:(c.toNat:Int) == 35 with
     | false=>rfl
     | true=>rw [eq_of_beq hx] at hb; cases hb
    rw [if_pos rfl,w1 (by omega),i1]
    simp only [skp,h35,hb]
    congr 1
    simp; omega
   | false=>
    rw [if_neg (by simp)]
    cases h35:(c.toNat:Int) == 35 with
    | true=>
     rw [if_pos rfl,e2 (by have:=eq_of_beq h35; rw [this]; rfl)]
     have h10:((c.toNat:Int) == 10)=false:=by have:=eq_of_beq h35; rw [this]; rfl
     simp [skp,h35,h10]
    | false=>
     rw [if_neg (by simp)]
     simp only [skp,h35,hb]
     unfold Nm
     rw [if_pos (by simpa using h4)]
     rfl
  refine ⟨e1,?_⟩
  cases h10:(c.toNat:Int) == 10 with
  | false=>exact e2 h10
  | true=>
   rw [B6,h1,if_pos rfl,h2,ob]
   have:((c.toNat:Int) != 10)=false:=by simp only [bne,h10]; rfl
   rw [this,cond_true,if_neg (by simp),e1]
   have h35:((c.toNat:Int) == 35)=false:=by have:=eq_of_beq h10; rw [this]; rfl
   simp [skp,h10,h35]
theorem Q19:∀ (n:Nat) (r:List UInt8) (k:Nat),(Vf n r k).2.2=0→(Vf n r k).2=(0,0)
 | 0,_,_,_=>rfl
 | n+1,r,k,h=>by
  revert h
  unfold Vf
  split
  ·exact fun _=>rfl
  ·rename_i c t _
   simp only
   split
   ·split
    ·exact fun _=>rfl
    ·rename_i hz
     exact fun h=>absurd h hz
   ·rename_i hx
    exact fun h=>absurd h hx
def Xh (out:List F0)(z:List F0×Int×Int):List F0×Int×Int:=if z.2.2=0 then (out++z.1,0,0) else z
theorem W13 (s:Str)(hs8:s.length≤8192):∀ (n k:Nat) (out:List F0),s.length - k < n→k≤s.length→out.length≤k→
  L2 s out k=some (Xh out (Vf n (s.drop k) k))∧(Pd s k>>=fun a=>Ea s out a)=some (Xh out (Vf n (s.drop k) k))
 | 0,k,out,h,_,_=>by omega
 | n+1,k,out,h,hk,ho=>by
  have hs:s.length≤BB:=by unfold BB; omega
  have hb:=Ft false (s.drop k)
  rw [List.length_drop] at hb
  rw [(Z16 s hs out _ k rfl).1,H18 s hs k,ob]
  generalize hj:k+skp false (s.drop k)=j at *
  have hdj:(s.drop k).drop (skp false (s.drop k))=s.drop j:=by rw [List.drop_drop,hj]
  unfold Nm
  rw [Ea]
  unfold Vf
  rw [hdj,hj]
  cases hd:s.drop j with
  | nil=>
   obtain ⟨h1,h2⟩:=N4 hd
   rw [h1,if_neg (by omega),if_neg (by simp)]
   unfold Xh
   simp
  | cons c t=>
   obtain ⟨h1,h2,h3,h4,_⟩:=I7 hd
   rw [h1,if_pos h4,if_pos rfl,P19 s hs8 hd,L18 s hs8 hd,ob,ob]
   simp only
   unfold M12
   by_cases hx:(nxt (c::t) (j:Int)).2=0
   ·obtain ⟨b1,b2,b3,b4⟩:=Mv hx
    have hlen:(c::t).length=s.length - j:=by rw [← hd,List.length_drop]
    rw [if_pos hx,if_pos hx]
    have hne:((nxt (c::t) (j:Int)).2 != 0)=false:=by rw [hx]; rfl
    have hroom:decide ((out.length+1) * 33≤140737488355328)=true:=decide_eq_true (by omega)
    simp only [hne,hroom,Bool.false_eq_true,if_false,if_true]
    generalize hxx:nxt (c::t) (j:Int)=x at *
    rw [wr (by omega) (by omega),show (j:Int)+((x.1.Text).length:Int)=((j+x.1.Text.length:Nat):Int) from rfl]
    have hdd:(c::t).drop x.1.Text.length=s.drop (j+x.1.Text.length):=by rw [← hd,List.drop_drop]
    rw [hdd]
    obtain ⟨i1,i2⟩:=W13 s hs8 n (j+x.1.Text.length) (out++[x.1]) (by omega) (by omega) (by rw [List.length_append]; have:[x.1].length=1:=rfl; omega)
    rw [i1,i2]
    generalize Vf n (s.drop (j+x.1.Text.length)) (j+x.1.Text.length)=z
    unfold Xh
    by_cases hz:z.2.2=0
    ·rw [if_pos hz,if_pos hz,if_pos rfl,List.append_assoc]
     exact ⟨rfl,rfl⟩
    ·rw [if_neg hz,if_neg hz,if_neg hz]
     exact ⟨rfl,rfl⟩
   ·have hne:((nxt (c::t) (j:Int)).2 != 0)=true:=by simpa using hx
    have hne2:((F0.mk 0 [] 0,(nxt (c::t) (j:Int)).2):F0×Int).2=(nxt (c::t) (j:Int)).2:=rfl
    rw [if_neg hx,if_neg hx,hne,if_pos rfl]
    unfold Xh
    simp [hx]
def Gt (s:Str):List F0×Int×Int:=if s.length > 8192 then ([],0,5) else Vf (s.length+1) s 0
theorem M1a (s:Str):Kc s=some (Gt s)∧Wi s=some (Gt s):=by
 unfold Kc Wi Gt
 by_cases h:s.length > 8192
 ·rw [if_pos h]; simp [h]; omega
 ·have h1:decide ((s.length:Int) > 8192)=false:=decide_eq_false (by omega)
  obtain ⟨i1,i2⟩:=W13 s (by omega) (s.length+1) 0 [] (by omega) (by omega) (by simp)
  rw [h1,if_neg (by simp),if_neg h,if_neg (by simp)]
  have hw:Xh [] (Vf (s.length+1) s 0)=Vf (s.length+1) s 0:=by
   unfold Xh
   split
   ·rename_i hz
    have:=Q19 _ _ _ hz
    rw [List.nil_append,← this]
   ·rfl
  rw [List.drop_zero,hw] at i1 i2
  exact ⟨i1,i2⟩
end Go.Proofs.YtmnhfbekncjnfaaGreatDoor

namespace Go.Proofs.YtmnhfbekncjnfaaGreatDoor
open Go.Am
abbrev mk (l:List F0)(k:Nat)(e:Int):A0:=A0.mk l (k:Int) e
theorem Jn {α:Type}(l:List α)(k:Nat):idx l (k:Int)=l[k]?:=by
 unfold idx
 rw [if_pos (by omega)]
 simp
theorem Yh {α:Type}{l:List α}{k:Nat}{x:α}(h:l[k]?=some x):k < l.length:=(List.getElem?_eq_some_iff.1 h).1
theorem X13 {α:Type}{l:List α}{k:Nat}(h:l[k]?=none):l.length≤k:=List.getElem?_eq_none_iff.1 h
theorem dlt {α:Type}{l:List α}{k:Nat}{x:α}(h:l[k]?=some x):decide ((k:Int) < (l.length:Int))=true:=by have:=Yh h; exact decide_eq_true (by omega)
theorem G15 {α:Type}{l:List α}{k:Nat}(h:l[k]?=none):decide ((k:Int) < (l.length:Int))=false:=by have:=X13 h; exact decide_eq_false (by omega)
theorem dge {α:Type}{l:List α}{k:Nat}{x:α}(h:l[k]?=some x):decide ((k:Int)≥(l.length:Int))=false:=by have:=Yh h; exact decide_eq_false (by omega)
theorem M18 {α:Type}{l:List α}{k:Nat}(h:l[k]?=none):decide ((k:Int)≥(l.length:Int))=true:=by have:=X13 h; exact decide_eq_true (by omega)
def isT (l:List F0)(k:Nat)(t:Str):Bool:=match l[k]? with
 | some x=>x.Text == t&&(x.Kind == 2||x.Kind == 3)
 | none=>false
def Ic (l:List F0)(k:Nat)(c:Int):Bool:=match l[k]? with
 | some x=>x.Kind == c
 | none=>false
def txt (l:List F0)(k:Nat):Str:=match l[k]? with
 | some x=>x.Text
 | none=>[]
def off (l:List F0)(e:Int)(k:Nat):Int:=match l[k]? with
 | some x=>x.At
 | none=>e
def step (b:Bool)(k:Nat):Nat:=bif b then k+1 else k
theorem Yo (k:Nat):step true k=k+1:=rfl
theorem Zo (k:Nat):step false k=k:=rfl
theorem Eb {l:List F0}{k:Nat}{t:Str}(h:isT l k t=true):k < l.length:=by
 unfold isT at h
 split at h
 ·rename_i hx; exact Yh hx
 ·cases h
theorem Rx {l:List F0}{k:Nat}{c:Int}(h:Ic l k c=true):k < l.length:=by
 unfold Ic at h
 split at h
 ·rename_i hx; exact Yh hx
 ·cases h
theorem N12 {l:List F0}{k:Nat}{t:Str}(h:isT l k t=true):Ic l k 0=false∧Ic l k 1=false∧txt l k=t:=by
 unfold isT at h
 unfold Ic txt
 split at h
 ·rename_i x hx
  rw [Bool.and_eq_true] at h
  have ht:=eq_of_beq h.1
  rw [Bool.or_eq_true] at h
  rcases h.2 with h2 | h2 <;> rw [eq_of_beq h2] <;> exact ⟨rfl,rfl,ht⟩
 ·cases h
section
set_option linter.unusedSectionVars false
variable (l:List F0)(e:Int)(hl:l.length≤BB)
include hl
theorem B1b (k:Nat)(t:Str):V4 t (mk l k e)=some (isT l k t):=by
 unfold V4 isT
 simp only
 cases h:l[k]? with
 | none=>rw [M18 h,if_pos rfl]
 | some x=>
  rw [dge h,if_neg (by simp),Jn,h,ob]
  show some _=some (x.Text == t&&(x.Kind == 2||x.Kind == 3))
  cases x.Text == t <;> cases x.Kind == 2 <;> rfl
theorem Pl (k:Nat)(t:Str):L0 t (mk l k e)=some (isT l k t,mk l (step (isT l k t) k) e):=by
 unfold L0
 rw [B1b l e hl,ob]
 cases h:isT l k t with
 | false=>rfl
 | true=>
  have:=Eb h
  simp only [Bool.not_true,Bool.false_eq_true,if_false]
  rw [w1 (by omega)]
  rfl
theorem O12 (k:Nat):V2 (mk l k e)=some (.pn (off l e k)):=by
 unfold V2 off
 simp only
 cases h:l[k]? with
 | none=>rw [G15 h,if_neg (by simp)]
 | some x=>rw [dlt h,if_pos rfl,Jn,h,ob]
theorem A17 (k:Nat)(c:Int):Y3 c (mk l k e)=if Ic l k c=true then some (.ok (txt l k,mk l (k+1) e)) else some (.pn (off l e k)):=by
 unfold Y3
 rw [O12 l e hl,ob]
 unfold Ic txt
 simp only
 cases h:l[k]? with
 | none=>rw [M18 h,Bool.not_true,if_neg (by simp),ob,cond_true,if_pos rfl,if_neg (by simp)]
 | some x=>
  have:=Yh h
  rw [dge h,Bool.not_false,if_pos rfl,Jn,h,ob,cond_false]
  cases hk:x.Kind == c with
  | false=>simp only [bne,hk,Bool.not_false,if_true,Bool.false_eq_true,if_false]
  | true=>
   simp only [bne,hk,Bool.not_true,Bool.false_eq_true,if_false,if_true]
   unfold R3
   simp only
   rw [w1 (by omega),wr (n:=((k+1:Nat):Int) - 1) (by omega) (by unfold BB at *; omega),show ((k+1:Nat):Int) - 1=(k:Int) by omega,Jn,h,ob]
theorem B17 (k:Nat):I2 (mk l k e)=if Ic l k 0=true then some (.ok (txt l k,mk l (k+1) e)) else some (.pn (off l e k)):=by
 unfold I2
 rw [A17 l e hl]
 cases Ic l k 0 <;> rfl
theorem Ql (k:Nat)(t:Str):P0 t (mk l k e)=if isT l k t=true then some (.ok (mk l (k+1) e)) else some (.pn (off l e k)):=by
 unfold P0
 rw [Pl l e hl,ob]
 cases h:isT l k t with
 | true=>rfl
 | false=>
  simp only [Bool.not_false,if_true,step,cond_false,Bool.false_eq_true,if_false]
  rw [O12 l e hl,ob]
theorem Wg (k:Nat)(t:Str):Y0 l k t=some (isT l k t):=by
 unfold Y0 isT
 cases h:l[k]? with
 | none=>rw [G15 h]; rfl
 | some x=>
  rw [dlt h,Jn,h]
  simp only [if_true,ob,Bool.true_and,cond_true]
  by_cases h2:x.Kind=2 <;> by_cases h3:x.Kind=3 <;> by_cases ht:x.Text=t <;> first | (simp [ob,h2,h3,ht]; done) | (simp [ob,h2,h3,ht]; rw [beq_eq_false_iff_ne.2 h2,beq_eq_false_iff_ne.2 h3]; simp)
theorem C17 (k:Nat):F6 l k=if Ic l k 0=true then some (txt l k,((k+1:Nat):Int),true) else some ([],(k:Int),false):=by
 unfold F6 Ic txt
 cases h:l[k]? with
 | none=>rw [G15 h]; rfl
 | some x=>
  have:=Yh h
  rw [dlt h,Jn,h,if_pos rfl,ob,cond_true,w1 (by omega)]
  show _=if (x.Kind == 0)=true then some (x.Text,((k+1:Nat):Int),true) else some ([],(k:Int),false)
  cases h2:x.Kind == 0 <;> rfl
end
end Go.Proofs.YtmnhfbekncjnfaaGreatDoor

namespace Go.Proofs.YtmnhfbekncjnfaaGreatDoor
open Go.Am
structure Tok (x:F0):Prop where
 len:x.Text.length≤8192
 C6:x.Kind=2→∃ c t,x.Text=c::t∧W8 c.toNat=true
 num:x.Kind=1→x.Text≠[]∧x.Text.all (fun c=>Z6 c.toNat)=true∧x.Text.length≤7∧nv 0 x.Text≤1048576
def Td (l:List F0):Prop:=l.length≤BB∧∀ x∈l,Tok x
theorem Y13 {l:List F0}(h:Td l)(k:Nat):(txt l k).length≤8192:=by
 unfold txt
 cases hx:l[k]? with
 | none=>simp
 | some x=>exact (h.2 x (List.mem_of_getElem? hx)).len
theorem Sx:∀ (r:List UInt8) (n:Nat),r.all (fun c=>Z6 c.toNat)=true→Lib.decFrom n r=some (nv n r)
 | [],n,_=>by rw [Xo]; rfl
 | c::r,n,h=>by
  rw [List.all_cons,Bool.and_eq_true] at h
  have hc:=Tf.1 h.1
  have hd:Lib.digitVal c=some (c.toNat - 48):=if_pos hc
  unfold Lib.decFrom
  rw [hd,Wh,Nat.mul_comm 10 n]
  exact Sx r _ h.2
theorem R19 {s:Str}(hne:s≠[])(h:s.all (fun c=>Z6 c.toNat)=true):Lib.atoi s=some (nv 0 s:Int):=by
 cases s with
 | nil=>exact absurd rfl hne
 | cons c r=>
  have hc:=Tf.1 (by rw [List.all_cons,Bool.and_eq_true] at h; exact h.1)
  have h1:(c == 45)=false:=beq_eq_false_iff_ne.2 fun e=>by rw [e] at hc; exact absurd hc.1 (by decide)
  have h2:(c == 43)=false:=beq_eq_false_iff_ne.2 fun e=>by rw [e] at hc; exact absurd hc.1 (by decide)
  unfold Lib.atoi
  simp only [h1,h2,Bool.false_eq_true,if_false]
  unfold Lib.decNat
  rw [if_neg (by simp),Sx _ 0 h]
  rfl
theorem S19 {s:Str}(hne:s≠[])(h:s.all (fun c=>Z6 c.toNat)=true)(hl:s.length≤7):Yn s=some (nv 0 s:Int):=by
 unfold Yn
 rw [if_pos (decide_eq_true (by omega)),R19 hne h]
section
set_option linter.unusedSectionVars false
variable (l:List F0)(e:Int)(hl:Td l)
include hl
def Tx (k:Nat):Int:=(nv 0 (txt l k):Int)
theorem P12 (k:Nat):U2 (mk l k e)=if Ic l k 1=true then some (.ok (Tx l k,mk l (k+1) e)) else some (.pn (off l e k)):=by
 unfold U2
 rw [A17 l e hl.1]
 cases h:Ic l k 1 with
 | false=>rfl
 | true=>
  have hx:Yn (txt l k)=some (Tx l k):=by
   unfold Ic at h
   unfold Tx txt
   cases hk:l[k]? with
   | none=>rw [hk] at h; cases h
   | some x=>
    rw [hk] at h
    obtain ⟨n1,n2,n3,_⟩:=(hl.2 x (List.mem_of_getElem? hk)).num (eq_of_beq h)
    exact S19 n1 n2 n3
  rw [if_pos rfl,ob]
  simp only [hx,ob]
  rfl
theorem Q12 (x:F0)(k:Nat)(hx:l[k]?=some x)(hall:x.Text.all (fun c=>Z6 c.toNat)=true)(hnv:nv 0 x.Text≤1048576)(hlen:x.Text.length≤7) :
  ∀ (r:Str) (i m:Nat),x.Text.drop i=r→nv m r≤1048576→r.all (fun c=>Z6 c.toNat)=true→T5 l k m i=some ((nv m r:Int),((k+1:Nat):Int),true):=by
 have hk:=Yh hx
 have hB:=hl.1
 intro r
 induction r with
 | nil=>
  intro i m h hm _
  rw [T5,Jn,hx,ob,(N4 h).1,if_neg (by simp),w1 (by omega),Xo]
 | cons c r ih=>
  intro i m h hm ha
  obtain ⟨h1,h2,h3,h4,_⟩:=I7 h
  rw [List.all_cons,Bool.and_eq_true] at ha
  rw [Wh] at hm ⊢
  have hc:=Tf.1 ha.1
  have hle:=T18 r (10 * m+(c.toNat - 48))
  have e1:IntKind.i64.wrap (IntKind.i64.wrap (10 * (m:Int))+IntKind.i64.wrap (IntKind.u8.wrap ((c.toNat:Int) - 48)))=((10 * m+(c.toNat - 48):Nat):Int):=by
   rw [I18 ha.1,wr (n:=10 * (m:Int)) (by omega) (by omega),wr (by omega) (by omega)]; omega
  rw [T5,Jn,hx,ob,h1,if_pos rfl,ob,h2,ob,e1,w1 (by unfold BB; omega)]
  exact ih (i+1) _ h3 hm ha.2
theorem R12 (k:Nat):Fa l k=if Ic l k 1=true then some (Tx l k,((k+1:Nat):Int),true) else some (0,(k:Int),false):=by
 unfold Fa Ic Tx txt
 cases h:l[k]? with
 | none=>rw [M18 h,Bool.not_true,if_neg (by simp),ob,cond_true,if_pos rfl,if_neg (by simp)]
 | some x=>
  rw [dge h,Bool.not_false,if_pos rfl,Jn,h,ob,cond_false]
  simp only
  cases hk:x.Kind == 1 with
  | false=>simp only [bne,hk,Bool.not_false,if_true,Bool.false_eq_true,if_false]
  | true=>
   simp only [bne,hk,Bool.not_true,Bool.false_eq_true,if_false,if_true]
   obtain ⟨n1,n2,n3,n4⟩:=(hl.2 x (List.mem_of_getElem? h)).num (eq_of_beq hk)
   exact Q12 l hl x k h n2 n4 n3 x.Text 0 0 rfl n4 n2
end
end Go.Proofs.YtmnhfbekncjnfaaGreatDoor

namespace Go.Proofs.YtmnhfbekncjnfaaGreatDoor
open Go.Am
def J {α:Type}(l:List F0)(e:Int)(lo:Nat)(P:α→Nat→Prop)(p:Option (Pn (α×A0)))(r:Option (α×Int×Bool)):Prop:=
 (∃ v j,lo≤j∧j≤l.length∧P v j∧p=some (.ok (v,mk l j e))∧r=some (v,((j:Nat):Int),true))∨
 (∃ v j,j≤l.length∧p=some (.pn (off l e j))∧r=some (v,((j:Nat):Int),false))
section
variable {l:List F0}{e:Int}{α β:Type}
theorem J.ok {lo:Nat}{P:α→Nat→Prop}(v:α)(j:Nat)(h1:lo≤j)(h2:j≤l.length)(hP:P v j):J l e lo P (some (.ok (v,mk l j e))) (some (v,((j:Nat):Int),true)):=.inl ⟨v,j,h1,h2,hP,rfl,rfl⟩
theorem J.pn {lo:Nat}{P:α→Nat→Prop}(v:α)(j:Nat)(h2:j≤l.length):J l e lo P (some (.pn (off l e j))) (some (v,((j:Nat):Int),false)):=.inr ⟨v,j,h2,rfl,rfl⟩
theorem J.mono {lo lo':Nat}{P P':α→Nat→Prop}{p:Option (Pn (α×A0))}{r:Option (α×Int×Bool)}(h:J l e lo P p r)(hl:lo'≤lo)(hP:∀ v j,lo≤j→P v j→P' v j):J l e lo' P' p r:=by
 rcases h with ⟨v,j,h1,h2,h0,h3,h4⟩ | h
 ·exact .inl ⟨v,j,Nat.le_trans hl h1,h2,hP v j h1 h0,h3,h4⟩
 ·exact .inr h
theorem J.bind {lo lo':Nat}{P:α→Nat→Prop}{Q:β→Nat→Prop}{p:Option (Pn (α×A0))}{r:Option (α×Int×Bool)}(h:J l e lo P p r){F:Pn (α×A0)→Option (Pn (β×A0))}{g:α×Int×Bool→Option (β×Int×Bool)}(hF:∀ n,F (.pn n)=some (.pn n))
  (hg:∀ v (j:Nat),j≤l.length→∃ v',g (v,(j:Int),false)=some (v',(j:Int),false)) (hf:∀ v (j:Nat),lo≤j→j≤l.length→P v j→J l e lo' Q (F (.ok (v,mk l j e))) (g (v,(j:Int),true))) :
  J l e lo' Q (p>>=F) (r>>=g):=by
 rcases h with ⟨v,j,h1,h2,h0,rfl,rfl⟩ | ⟨v,j,h2,rfl,rfl⟩
 ·exact hf v j h1 h2 h0
 ·obtain ⟨v',hv⟩:=hg v j h2
  rw [ob,ob,hv,hF]
  exact .pn v' j h2
theorem J.rsame {lo:Nat}{P:α→Nat→Prop}{p:Option (Pn (α×A0))}{r:Option (α×Int×Bool)}(h:J l e lo P p r):J l e lo P p (r>>=fun x=>some (x.1,x.2.1,x.2.2)):=by
 rcases h with ⟨v,j,h1,h2,h0,rfl,rfl⟩ | ⟨v,j,h2,rfl,rfl⟩
 ·exact .ok v j h1 h2 h0
 ·exact .pn v j h2
end
def BE (k:Nat)(v:B0)(j:Nat):Prop:=v.bulk≤9000 * (j - k)
def BO (o:Nat)(k:Nat)(v:B0)(j:Nat):Prop:=v.bulk≤o+9000 * (j - k)
structure PE (l:List F0)(e:Int)(k:Nat):Prop where
 expr:J l e (k+1) (BE k) (Z0 (mk l k e)) (R2 l k)
 un:J l e (k+1) (BE k) (O3 (mk l k e)) (Tm l k)
 prodL:∀ o,J l e k (BO o.bulk k) (M3 (mk l k e) o) (W9 l 5 o k)
 prod:J l e (k+1) (BE k) (P4 (mk l k e)) (U9 l k 5)
 sumL:∀ o,J l e k (BO o.bulk k) (L3 (mk l k e) o) (W9 l 4 o k)
 sum:J l e (k+1) (BE k) (L7 (mk l k e)) (U9 l k 4)
 cmp:J l e (k+1) (BE k) (S3 (mk l k e)) (U9 l k 3)
 andL:∀ o,J l e k (BO o.bulk k) (K3 (mk l k e) o) (W9 l 2 o k)
 and:J l e (k+1) (BE k) (K7 (mk l k e)) (U9 l k 2)
 orL:∀ o,J l e k (BO o.bulk k) (F4 (mk l k e) o) (W9 l 1 o k)
 or:J l e (k+1) (BE k) (Ba (mk l k e)) (U9 l k 1)
 placeL:∀ op name kids,J l e k (BO (B0.mk op 0 name kids).bulk k) (I3 (mk l k e) op name kids) (Ve l op 0 name kids k)
section
set_option linter.unusedSectionVars false
variable {l:List F0}{e:Int}(hl:Td l)
include hl
section
variable {k:Nat}(hk:k≤l.length)(IH:∀ j,k < j→j≤l.length→PE l e j)
include hk IH
end
end
end Go.Proofs.YtmnhfbekncjnfaaGreatDoor

namespace Go.Proofs.YtmnhfbekncjnfaaGreatDoor
open Go.Am
section
set_option linter.unusedSectionVars false
variable {l:List F0}{e:Int}(hl:Td l)
include hl
section
variable {k:Nat}(hk:k≤l.length)(IH:∀ j,k < j→j≤l.length→PE l e j)
include hk IH
end
section
variable {k:Nat}(hk:k≤l.length)(IH:∀ j,k < j→j≤l.length→PE l e j)
include hk IH
end
end
end Go.Proofs.YtmnhfbekncjnfaaGreatDoor

namespace Go.Proofs.YtmnhfbekncjnfaaGreatDoor
open Go.Am
section
set_option linter.unusedSectionVars false
variable {l:List F0}{e:Int}(hl:Td l)
include hl
section
variable {k:Nat}(hk:k≤l.length)(IH:∀ j,k < j→j≤l.length→PE l e j)
include hk IH
end
end
end Go.Proofs.YtmnhfbekncjnfaaGreatDoor

namespace Go.Proofs.YtmnhfbekncjnfaaGreatDoor
open Go.Am
theorem N1a (r:List UInt8):∀ m:Nat,m * 10 ^ r.length≤nv m r:=by
 induction r with
 | nil=>intro m; rw [Xo]; simp
 | cons c r ih=>
  intro m
  rw [Wh]
  refine Nat.le_trans ?_ (ih _)
  rw [List.length_cons,Nat.pow_succ]
  calc m * (10 ^ r.length * 10)=(10 * m) * 10 ^ r.length:=by rw [Nat.mul_comm (10 ^ r.length) 10,← Nat.mul_assoc,Nat.mul_comm m 10]
   _≤(10 * m+(c.toNat - 48)) * 10 ^ r.length:=Nat.mul_le_mul_right _ (by omega)
theorem O1a {w:Str}(hne:w≠[])(h:Hn w=0):w.all (fun c=>Z6 c.toNat)=true∧w.length≤7∧nv 0 w≤1048576:=by
 unfold Hn at h
 split at h
 ·rename_i hc
  rw [Bool.and_eq_true] at hc
  obtain ⟨h1,h2⟩:=hc
  have h3:nv 0 w≤1048576:=by
   rcases Nat.lt_or_ge 1048576 (nv 0 w) with hb | hb
   ·rw [Kv hb] at h; cases h
   ·exact hb
  refine ⟨h1,?_,h3⟩
  cases w with
  | nil=>exact absurd rfl hne
  | cons c r=>
   rw [List.all_cons,Bool.and_eq_true] at h1
   have hc:=Tf.1 h1.1
   have hz:Mm (c::r)=false:=by simpa using h2
   unfold Mm at hz
   by_cases h48:c.toNat=48
   ·have hb:(((c::r).getD 0 0).toNat:Int) == 48:=by simp [h48]
    rw [hb,Bool.and_true] at hz
    have:=of_decide_eq_false hz
    omega
   ·rw [Wh] at h3
    have hp:=N1a r (10 * 0+(c.toNat - 48))
    have h5:1 * 10 ^ r.length≤(10 * 0+(c.toNat - 48)) * 10 ^ r.length:=Nat.mul_le_mul_right _ (by omega)
    rcases Nat.lt_or_ge 6 r.length with h6 | h6
    ·have:=Nat.pow_le_pow_right (show 1≤10 by decide) (show 7≤r.length from h6)
     omega
    ·rw [List.length_cons]; omega
 ·cases h
theorem T19 {c:UInt8}{t:List UInt8}{k:Int}(hlen:(c::t).length≤8192)(h:(nxt (c::t) k).2=0):Tok (nxt (c::t) k).1:=by
 have htx:=Mv h
 have hl8:(nxt (c::t) k).1.Text.length≤8192:=by omega
 refine ⟨hl8,fun hk=>?_,fun hk=>?_⟩
 ·revert h hk
  unfold nxt
  simp only [List.getD_cons_zero]
  cases hl:W8 c.toNat with
  | true=>
   have hld:ld c=true:=by unfold ld; rw [hl]; rfl
   intro h hk
   have hw:∃ r,(c::t).take (N3 (c::t))=c::r:=by
    simp only [N3,hld,cond_true,List.take_succ_cons]
    exact ⟨_,rfl⟩
   obtain ⟨r,hr⟩:=hw
   simp only [if_true] at hk ⊢
   split at hk
   ·rename_i hres
    rw [if_pos hres]
    exact ⟨c,r,hr,hl⟩
   ·split at hk <;> cases hk
  | false=>
   simp only [Bool.false_eq_true,if_false]
   intro h hk
   split at hk
   ·cases hk
   ·split at hk
    ·cases hk
    ·split at hk <;> cases hk
 ·revert h hk
  unfold nxt
  simp only [List.getD_cons_zero]
  cases hl:W8 c.toNat with
  | true=>
   intro h hk
   simp only [if_true] at hk
   split at hk
   ·cases hk
   ·split at hk <;> cases hk
  | false=>
   simp only [Bool.false_eq_true,if_false]
   intro h hk
   cases hd:Z6 c.toNat with
   | true=>
    have hld:ld c=true:=by unfold ld; rw [hl,hd]; rfl
    have hne:(c::t).take (N3 (c::t))≠[]:=by
     simp only [N3,hld,cond_true,List.take_succ_cons]
     exact List.cons_ne_nil _ _
    rw [hd,if_pos rfl] at h
    rw [if_pos rfl]
    obtain ⟨n1,n2,n3⟩:=O1a hne h
    exact ⟨hne,n1,n2,n3⟩
   | false=>
    rw [hd,if_neg (by simp)] at hk
    split at hk
    ·cases hk
    ·split at hk <;> cases hk
theorem S12:∀ (n:Nat) (r:List UInt8) (k:Nat),r.length≤8192→(Vf n r k).2.2=0→(∀ x∈(Vf n r k).1,Tok x)∧(Vf n r k).1.length≤r.length
 | 0,r,k,_,_=>⟨fun x hx=>(by cases hx),Nat.zero_le _⟩
 | n+1,r,k,hl,h=>by
  revert h
  unfold Vf
  split
  ·exact fun _=>⟨fun x hx=>(by cases hx),Nat.zero_le _⟩
  ·rename_i c t hd
   have hle:(c::t).length≤r.length:=by rw [← hd,List.length_drop]; omega
   simp only
   split
   ·rename_i hx
    obtain ⟨b1,b2,b3,b4⟩:=Mv hx
    have hdl:((c::t).drop (nxt (c::t) ((k+skp false r:Nat):Int)).1.Text.length).length≤(c::t).length - 1:=by rw [List.length_drop]; omega
    have ih:=S12 n ((c::t).drop (nxt (c::t) ((k+skp false r:Nat):Int)).1.Text.length) (k+skp false r+(nxt (c::t) ((k+skp false r:Nat):Int)).1.Text.length) (by omega)
    split
    ·rename_i hz
     obtain ⟨i1,i2⟩:=ih hz
     intro _
     refine ⟨fun x hx'=>?_,?_⟩
     ·rcases List.mem_cons.1 hx' with rfl | hx'
      ·exact T19 (by omega) hx
      ·exact i1 x hx'
     ·simp only [List.length_cons] at *
      omega
    ·rename_i hz
     exact fun h=>absurd h hz
   ·rename_i hx
    exact fun h=>absurd h hx
theorem N18 {s:Str}(h:(Gt s).2.2=0):Td (Gt s).1∧(Gt s).1.length≤8192:=by
 unfold Gt at h ⊢
 by_cases hl:s.length > 8192
 ·rw [if_pos hl] at h; cases h
 ·rw [if_neg hl] at h ⊢
  obtain ⟨h1,h2⟩:=S12 _ s 0 (by omega) h
  exact ⟨⟨by unfold BB; omega,h1⟩,by omega⟩
end Go.Proofs.YtmnhfbekncjnfaaGreatDoor

namespace Go.Proofs.YtmnhfbekncjnfaaGreatDoor
open Go.Am
theorem T12 (text:Str)(l:List F0)(k:Nat):He text l k=some (off l (text.length:Int) k):=by
 unfold He off
 cases h:l[k]? with
 | none=>rw [G15 h,if_neg (by simp)]
 | some x=>rw [dlt h,if_pos rfl,Jn,h,ob]
end Go.Proofs.YtmnhfbekncjnfaaGreatDoor

namespace Go.Proofs.YtmnhfbekncjnfaaGreatDoor
open Go.Am
def BT (k:Nat)(v:C0)(j:Nat):Prop:=v.bulk≤9000 * (j - k)
def Kn (ns:List Str):Nat:=(ns.map fun s=>s.length+1).sum
def BF (ns:List Str)(os:List C0)(k:Nat)(v:C0)(j:Nat):Prop:=v.bulk≤Kn ns+C0.bulks os+8+9000 * (j - k)
theorem U12 (ns:List Str)(s:Str):Kn (ns++[s])=Kn ns+s.length+1:=by unfold Kn; simp; omega
theorem Eq:∀ (os:List C0) (t:C0),C0.bulks (os++[t])=C0.bulks os+t.bulk
 | [],t=>by simp only [List.nil_append,C0.bulks]; omega
 | x::r,t=>by simp only [List.cons_append,C0.bulks,Eq r t]; omega
theorem Eg (a b c d:Int)(s:Str)(ns:List Str)(os:List C0):(C0.mk a b c d s ns os).bulk=s.length+Kn ns+C0.bulks os+8:=by rw [C0.bulk_eq]; rfl
structure PT (l:List F0)(e:Int)(k:Nat):Prop where
 typ:J l e (k+1) (BT k) (T2 (mk l k e)) (U8 l k)
 fld:∀ ns os,ns.length≤k→os.length≤k→J l e k (BF ns os k) (I5 (mk l k e) ns os) (A9 l ns os ((k:Int) - 1))
section
set_option linter.unusedSectionVars false
variable {l:List F0}{e:Int}(hl:Td l)
include hl
theorem H15 {k:Nat}(hk:k≤l.length):J l e (k+1) (fun _ _=>True) (V1 (mk l k e)) (Q3 l k):=by
 have hB:=hl.1
 unfold V1 Q3
 rw [Pl l e hB,ob,Wg l hB,ob]
 cases h:isT l k [45] with
 | true=>
  have hlt:=Eb h
  simp only [Yo,if_true]
  rw [w1 (by omega),P12 l e hl,R12 l hl]
  cases h1:Ic l (k+1) 1 with
  | true=>have:=Rx h1; exact .ok _ (k+1+1) (by omega) (by omega) trivial
  | false=>exact .pn _ (k+1) (by omega)
 | false=>
  simp only [Zo,Bool.false_eq_true,if_false]
  rw [P12 l e hl,R12 l hl]
  cases h1:Ic l k 1 with
  | true=>have:=Rx h1; exact .ok _ (k+1) (by omega) (by omega) trivial
  | false=>exact .pn _ k hk
section
variable {k:Nat}(hk:k≤l.length)(IH:∀ j,k < j→j≤l.length→PT l e j)
include hk IH
theorem T1a:J l e (k+1) (BT k) (T2 (mk l k e)) (U8 l k):=by
 have hB:=hl.1
 rw [T2,U8,Pl l e hB,ob,Wg l hB,ob]
 cases h1:isT l k [98,111,111,108] with
 | true=>
  have:=Eb h1
  simp only [Yo,if_true]
  rw [w1 (by omega)]
  exact .ok _ (k+1) (Nat.le_refl _) (by omega) (by unfold BT; rw [Eg]; simp only [List.length_nil,Kn,List.map_nil,List.sum_nil,C0.bulks]; omega)
 | false=>
  simp only [Zo,Bool.false_eq_true,if_false]
  rw [Pl l e hB,ob,Wg l hB,ob]
  cases h2:isT l k [105,110,116] with
  | true=>
   have hlt:=Eb h2
   simp only [Yo,if_true]
   rw [w1 (by omega)]
   refine J.rsame ?_
   unfold Xe
   rw [Ql l e hB,Wg l hB,ob]
   cases h3:isT l (k+1) [91] with
   | false=>exact .pn _ (k+1) (by omega)
   | true=>
    have h4:=Eb h3
    simp only [if_true,ob,Bool.not_true,Bool.false_eq_true,if_false]
    rw [w1 (by omega)]
    refine J.bind (H15 hl (k:=k+1+1) (by omega)) ?_ ?_ ?_
    ·exact fun _=>rfl
    ·exact fun v j _=>⟨_,rfl⟩
    intro v j h5 h6 _
    simp only [Bool.not_true,Bool.not_false,if_true,cond_false]
    rw [Ql l e hB,Wg l hB,ob]
    cases h7:isT l j [46,46] with
    | false=>exact .pn _ j h6
    | true=>
     have h8:=Eb h7
     simp only [if_true,ob,Bool.not_true,Bool.false_eq_true,if_false]
     rw [w1 (by omega)]
     refine J.bind (H15 hl (k:=j+1) (by omega)) ?_ ?_ ?_
     ·exact fun _=>rfl
     ·exact fun v j _=>⟨_,rfl⟩
     intro v2 j2 h9 h10 _
     simp only [Bool.not_true,Bool.not_false,if_true,cond_false]
     rw [Ql l e hB,Wg l hB,ob]
     cases h11:isT l j2 [93] with
     | false=>exact .pn _ j2 h10
     | true=>
      have h12:=Eb h11
      simp only [if_true,ob,Bool.not_true,Bool.false_eq_true,if_false]
      rw [w1 (by omega)]
      exact .ok _ (j2+1) (by omega) (by omega) (by unfold BT; rw [Eg]; simp only [List.length_nil,Kn,List.map_nil,List.sum_nil,C0.bulks]; omega)
  | false=>
   simp only [Zo,Bool.false_eq_true,if_false]
   rw [Pl l e hB,ob,Wg l hB,ob]
   cases h3:isT l k [97,114,114,97,121] with
   | true=>
    have hlt:=Eb h3
    simp only [Yo,if_true]
    rw [w1 (by omega)]
    refine J.bind (H15 hl (k:=k+1) (by omega)) ?_ ?_ ?_
    ·exact fun _=>rfl
    ·exact fun v j _=>⟨_,rfl⟩
    intro v j h5 h6 _
    simp only [Bool.not_true,Bool.not_false,if_true,cond_false]
    rw [Ql l e hB,Wg l hB,ob]
    cases h7:isT l j [111,102] with
    | false=>exact .pn _ j h6
    | true=>
     have h8:=Eb h7
     simp only [if_true,ob,Bool.not_true,Bool.false_eq_true,if_false]
     rw [w1 (by omega)]
     refine J.bind (IH (j+1) (by omega) (by omega)).typ ?_ ?_ ?_
     ·exact fun _=>rfl
     ·exact fun v j _=>⟨_,rfl⟩
     intro v2 j2 h9 h10 h0
     refine .ok _ j2 (by omega) h10 ?_
     unfold BT at h0 ⊢
     rw [Eg]
     simp only [List.length_nil,Kn,List.map_nil,List.sum_nil,C0.bulks]
     omega
   | false=>
    simp only [Zo,Bool.false_eq_true,if_false]
    rw [Pl l e hB,ob,Wg l hB,ob]
    cases h4:isT l k [114,101,99,111,114,100] with
    | true=>
     have hlt:=Eb h4
     simp only [Yo,if_true]
     rw [w1 (by omega)]
     refine J.rsame ?_
     rw [Dl,Ql l e hB,Wg l hB,ob]
     cases h5:isT l (k+1) [123] with
     | false=>exact .pn _ (k+1) (by omega)
     | true=>
      have h6:=Eb h5
      simp only [if_true,ob,Bool.not_true,Bool.false_eq_true,if_false]
      have hf:=(IH (k+1+1) (by omega) (by omega)).fld [] [] (Nat.zero_le _) (Nat.zero_le _)
      rw [show ((k+1+1:Nat):Int) - 1=((k+1:Nat):Int) by omega] at hf
      refine hf.mono (by omega) fun v j h7 h8=>?_
      unfold BF at h8
      unfold BT
      simp only [Kn,List.map_nil,List.sum_nil,C0.bulks] at h8
      omega
    | false=>
     simp only [Zo,Bool.false_eq_true,if_false]
     rw [B17 l e hB,C17 l hB]
     cases h5:Ic l k 0 with
     | false=>exact .pn _ k hk
     | true=>
      have:=Rx h5
      have ht:=Y13 hl k
      exact .ok _ (k+1) (Nat.le_refl _) (by omega) (by unfold BT; rw [Eg]; simp only [Kn,List.map_nil,List.sum_nil,C0.bulks]; omega)
theorem U1a (ns:List Str)(os:List C0)(hn:ns.length≤k)(ho:os.length≤k):J l e k (BF ns os k) (I5 (mk l k e) ns os) (A9 l ns os ((k:Int) - 1)):=by
 have hB:=hl.1
 rw [I5,A9,An,wr (n:=(k:Int) - 1+1) (by omega) (by unfold BB at hB; omega),show (k:Int) - 1+1=(k:Int) by omega,B17 l e hB,C17 l hB]
 cases h1:Ic l k 0 with
 | false=>exact .pn _ k hk
 | true=>
  have h2:=Rx h1
  have ht:=Y13 hl k
  simp only [if_true,ob,Bool.not_true,Bool.not_false,cond_false]
  rw [Ql l e hB,Wg l hB,ob]
  cases h3:isT l (k+1) [58] with
  | false=>exact .pn _ (k+1) (by omega)
  | true=>
   have h4:=Eb h3
   simp only [if_true,ob,Bool.not_true,Bool.false_eq_true,if_false]
   rw [w1 (by omega)]
   rcases (IH (k+1+1) (by omega) (by omega)).typ with ⟨v,j,h5,h6,h0,h7,h8⟩ | ⟨v,j,h6,h7,h8⟩
   ·rw [h7,h8,ob,ob,ob]
    have r1:decide ((ns.length+1) * 17≤140737488355328)=true:=decide_eq_true (by unfold BB at hB; omega)
    have r2:decide ((os.length+1) * 97≤140737488355328)=true:=decide_eq_true (by unfold BB at hB; omega)
    simp only [r1,r2,if_true,Bool.not_true,Bool.false_eq_true,if_false]
    rw [Pl l e hB,Wg l hB,ob,ob]
    unfold BT at h0
    cases h9:isT l j [44] with
    | true=>
     have h10:=Eb h9
     have h11:isT l j [125]=false:=by
      cases h:isT l j [125] with
      | false=>rfl
      | true=>have:=(N12 h9).2.2.symm.trans (N12 h).2.2; simp at this
     simp only [h11,Yo,Bool.not_true,Bool.false_eq_true,if_false]
     rw [Wg l hB,ob,h9]
     simp only [Bool.not_true,Bool.false_eq_true,if_false]
     have hf:=(IH (j+1) (by omega) (by omega)).fld (ns++[txt l k]) (os++[v]) (by rw [List.length_append]; simp only [List.length_singleton]; omega) (by rw [List.length_append]; simp only [List.length_singleton]; omega)
     rw [show ((j+1:Nat):Int) - 1=(j:Int) by omega] at hf
     refine hf.mono (by omega) fun v' j' h12 h13=>?_
     unfold BF at h13 ⊢
     rw [U12,Eq] at h13
     omega
    | false=>
     simp only [Zo,Bool.not_false,if_true]
     rw [Ql l e hB]
     cases h10:isT l j [125] with
     | true=>
      have h11:=Eb h10
      simp only [if_true,ob]
      rw [w1 (by omega)]
      refine .ok _ (j+1) (by omega) (by omega) ?_
      unfold BF
      rw [Eg,U12,Eq]
      simp only [List.length_nil]
      omega
     | false=>
      simp only [Bool.false_eq_true,if_false,ob]
      rw [Wg l hB,ob,h9]
      exact .pn _ j h6
   ·rw [h7,h8,ob,ob,ob]
    exact .pn _ j h6
end
theorem D17:∀ (n k:Nat),l.length - k < n→k≤l.length→PT l e k
 | 0,k,h,_=>absurd h (Nat.not_lt_zero _)
 | n+1,k,h,hk=>by
  have IH:∀ j,k < j→j≤l.length→PT l e j:=fun j h1 h2=>D17 n j (by omega) h2
  exact ⟨T1a hl hk IH,U1a hl hk IH⟩
theorem V1a {k:Nat}(hk:k≤l.length):PT l e k:=D17 hl _ k (Nat.lt_succ_self _) hk
end
end Go.Proofs.YtmnhfbekncjnfaaGreatDoor

namespace Go.Proofs.YtmnhfbekncjnfaaGreatDoor
open Go.Am
theorem Ry (text:Str):∃ v,Ha text=some v∧Za text=some v∧Ok v.1:=by
 have hz:Ok (C0.mk 0 0 0 0 [] [] []):=by unfold Ok; rw [Eg]; unfold BB; decide
 obtain ⟨x1,x2⟩:=M1a text
 unfold Ha Za We
 rw [x1,x2,ob,ob]
 generalize hL:Gt text=L
 by_cases h0:L.2.2=0
 ·have hb:(L.2.2 != 0)=false:=by rw [h0]; rfl
  obtain ⟨ht,hlen⟩:=N18 (s:=text) (by rw [hL]; exact h0)
  rw [hL] at ht hlen
  simp only [hb,Bool.false_eq_true,if_false]
  have hJ:=(V1a (l:=L.1) (e:=(text.length:Int)) ht (Nat.zero_le _)).typ
  unfold Xa
  rcases hJ with ⟨v,j,h1,h2,h3,h4,h5⟩ | ⟨v,j,h2,h4,h5⟩
  ·have h4':T2 (A0.mk L.1 0 (text.length:Int))=some (.ok (v,mk L.1 j (text.length:Int))):=h4
   have h5':U8 L.1 0=some (v,((j:Nat):Int),true):=h5
   have hv:Ok v:=by unfold Ok; unfold BT at h3; unfold BB; omega
   rw [h4',h5',ob,ob]
   simp only [ob,Bool.not_true,cond_false]
   cases hj:decide ((j:Int) < (L.1.length:Int)) with
   | true=>
    simp only [if_true,O12 L.1 _ ht.1,T12,ob]
    exact ⟨_,rfl,rfl,hz⟩
   | false=>
    simp only [Bool.false_eq_true,if_false,ob]
    rw [I12 v hv,E10 v hv]
    simp only [ob,bne_self_eq_false,Bool.false_eq_true,if_false]
    by_cases hc:(Et v != 0)=true
    ·rw [if_pos hc]; exact ⟨_,rfl,rfl,hz⟩
    ·rw [if_neg hc]; exact ⟨_,rfl,rfl,hv⟩
  ·have h4':T2 (A0.mk L.1 0 (text.length:Int))=some (.pn (off L.1 (text.length:Int) j)):=h4
   have h5':U8 L.1 0=some (v,((j:Nat):Int),false):=h5
   rw [h4',h5',ob,ob]
   simp only [ob,Bool.not_false,cond_true,if_true,T12]
   exact ⟨_,rfl,rfl,hz⟩
 ·have hb:(L.2.2 != 0)=true:=by simpa using h0
  simp only [hb,if_true,ob]
  exact ⟨_,rfl,rfl,hz⟩
theorem Nv (text:Str)(hk:Jb=some true):Qb text=some true:=by
 unfold Qb
 rw [hk,ob]
 simp only [Bool.not_true,Bool.false_eq_true,if_false]
 cases decide ((text.length:Int) > 2000) with
 | true=>rfl
 | false=>
  obtain ⟨v,h1,h2,h3⟩:=Ry text
  simp only [Bool.false_eq_true,if_false]
  rw [h1,h2,ob,ob]
  simp only [beq_self_eq_true,cond_true,if_true]
  rw [W16 v.1 h3,ob,X16]
end Go.Proofs.YtmnhfbekncjnfaaGreatDoor

namespace Go.Proofs.YtmnhfbekncjnfaaGreatDoor
open Go.Am
section
set_option linter.unusedSectionVars false
variable {l:List F0}{e:Int}(hl:Td l)
include hl
end
end Go.Proofs.YtmnhfbekncjnfaaGreatDoor

namespace Go.Proofs.YtmnhfbekncjnfaaGreatDoor
open Go.Am
section
set_option linter.unusedSectionVars false
variable {l:List F0}{e:Int}(hl:Td l)
include hl
end
end Go.Proofs.YtmnhfbekncjnfaaGreatDoor

namespace Go.Proofs.YtmnhfbekncjnfaaGreatDoor
open Go.Am
section
set_option linter.unusedSectionVars false
variable {l:List F0}{e:Int}(hl:Td l)
include hl
end
end Go.Proofs.YtmnhfbekncjnfaaGreatDoor

namespace Go.Proofs.YtmnhfbekncjnfaaGreatDoor
open Go.Am
section
variable {l:List F0}{e:Int}{α β:Type}
end
def BL (out:List R0)(k:Nat)(v:List R0)(j:Nat):Prop:=R0.bulks v≤R0.bulks out+9000 * (j - k)
def BK (k:Nat)(v:List R0)(j:Nat):Prop:=R0.bulks v≤9000 * (j - k)
structure PS (l:List F0)(e:Int)(k:Nat):Prop where
 sts:∀ out,out.length≤k→J l e k (BL out k) (V8 (mk l k e) out) (Sd l k out)
 blk:J l e (k+1) (BK k) (Z7 (mk l k e)) (Kf l k)
section
set_option linter.unusedSectionVars false
variable {l:List F0}{e:Int}(hl:Td l)
include hl
section
variable {k:Nat}(hk:k≤l.length)(IH:∀ j,k < j→j≤l.length→PS l e j)
include hk IH
end
end
end Go.Proofs.YtmnhfbekncjnfaaGreatDoor

namespace Go.Proofs.YtmnhfbekncjnfaaGreatDoor
open Go.Am
section
set_option linter.unusedSectionVars false
variable {l:List F0}{e:Int}(hl:Td l)
include hl
end
end Go.Proofs.YtmnhfbekncjnfaaGreatDoor

namespace Go.Proofs.YtmnhfbekncjnfaaGreatDoor
open Go.Am
end Go.Proofs.YtmnhfbekncjnfaaGreatDoor

namespace Go.Proofs.YtmnhfbekncjnfaaGreatDoor
open Go.Am
end Go.Proofs.YtmnhfbekncjnfaaGreatDoor

namespace Go.Proofs.YtmnhfbekncjnfaaGreatDoor
open Go.Am
section
variable {l l':List F0}{s:Nat}{w:Bool}{α β:Type}
end
section
set_option linter.unusedSectionVars false
variable {l l':List F0}{s:Nat}{w:Bool}{α β:Type}(hl:Td l)(hl':Td l')(hs:l.length+s+8≤BB)
include hl hl' hs
end
end Go.Proofs.YtmnhfbekncjnfaaGreatDoor

namespace Go.Proofs.YtmnhfbekncjnfaaGreatDoor
open Go.Am
section
set_option linter.unusedSectionVars false
variable {l l':List F0}{s:Nat}{w:Bool}{α β:Type}(hl:Td l)(hl':Td l')(hs:l.length+s+8≤BB)
include hl hl' hs
end
end Go.Proofs.YtmnhfbekncjnfaaGreatDoor

namespace Go.Proofs.YtmnhfbekncjnfaaGreatDoor
open Go.Am
section
set_option linter.unusedSectionVars false
variable {l l':List F0}{s:Nat}{α β:Type}(hl:Td l)(hl':Td l')(hs:l.length+s+8≤BB)
include hl hl' hs
end
end Go.Proofs.YtmnhfbekncjnfaaGreatDoor

namespace Go.Proofs.YtmnhfbekncjnfaaGreatDoor
open Go.Am
theorem Ov:Jb=some true:=My 60 true (by kernel_rfl)
end Go.Proofs.YtmnhfbekncjnfaaGreatDoor

