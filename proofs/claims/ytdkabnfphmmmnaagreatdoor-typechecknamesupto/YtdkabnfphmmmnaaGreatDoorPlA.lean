/- A part of the proof of TypecheckNames. -/
import Derived.Test.YtdkabnfphmmmnaaGreatDoorDgB
namespace Go.Proofs.YtdkabnfphmmmnaaGreatDoor
open Go.Am
theorem ob {α β:Type}(a:α)(f:α→Option β):(some a>>=f)=f a:=rfl
theorem C1 {α:Type}{l:List α}{k:Nat}{x:α}{r:List α}(h:l.drop k=x::r):decide ((k:Int) < (l.length:Int))=true∧idx l (k:Int)=some x∧l.drop (k+1)=r∧k < l.length∧x∈l:=by
 have hk:k < l.length:=by
  rcases Nat.lt_or_ge k l.length with h1 | h1
  ·exact h1
  ·rw [List.drop_eq_nil_of_le h1] at h; cases h
 have hx:=List.drop_eq_getElem_cons hk
 rw [h] at hx
 obtain ⟨e1,e2⟩:=List.cons.inj hx
 refine ⟨decide_eq_true (by omega),?_,e2.symm,hk,?_⟩
 ·unfold idx
  rw [if_pos (by omega),e1]
  simp [hk]
 ·rw [e1]; exact List.getElem_mem hk
theorem Y0 {α:Type}{l:List α}{k:Nat}(h:l.drop k=[]):decide ((k:Int) < (l.length:Int))=false∧l.length≤k:=by
 have:=List.drop_eq_nil_iff.1 h
 exact ⟨decide_eq_false (by omega),this⟩
def BB:Nat:=68719476736
theorem wr {n:Int}(h : -4611686018427387904≤n)(h':n≤4611686018427387904):IntKind.i64.wrap n=n:=X1p (by omega) (by omega)
theorem w1 {k:Nat}(h:k≤BB):IntKind.i64.wrap ((k:Int)+1)=((k+1:Nat):Int):=by
 unfold BB at h
 rw [wr (by omega) (by omega)]; rfl
def Zi (n:Int):Bool:=bif decide (n≥97) then decide (n≤122) else false
def K1c (n:Int):Bool:=bif decide (n≥48) then decide (n≤57) else false
def Q1l (i:Nat)(c:UInt8):Bool:=Zi c.toNat||(i != 0&&K1c c.toNat)
def Ak:Nat→List UInt8→Bool
 | _,[]=>true
 | i,c::r=>Q1l i c&&Ak (i+1) r
def Aj (s:List UInt8):Bool:=Ak 0 s && !(s == [])
def kw:List UInt8:=[32,116,121,112,101,32,115,101,99,114,101,116,32,112,117,98,108,105,99,32,114,97,110,100,111,109,32,118,97,114,32,104,97,116,99,104,32,102,117,110,99,32,114,101,116,117,114,110,32,98,101,103,105,110,32,101,110,100,32,98,111,111,108,32,105,110,116,32,97,114,114,97,121,32,111,102,32,114,101,99,111,114,100,32,116,114,117,101,32,102,97,108,115,101,32,99,97,108,108,32,114,101,108,101,97,115,101,32,111,117,116,112,117,116,32,119,97,105,116,32,105,102,32,101,108,115,101,32,119,104,105,108,101,32,108,105,109,105,116,32,102,111,114,32,116,111,32,115,101,116,116,108,101,32,109,105,110,32,109,97,120,32]
def L1c (s:List UInt8):Bool:=bif (bif !(s == []) then !Lib.contains s [32] else false) then Lib.contains kw ([32]++s++[32]) else false
def T2 (s:List UInt8):Bool:=bif (bif decide ((s.length:Int)≤12) then Aj s else false) then !L1c s else false
theorem getD_some {s:List UInt8}{k:Nat}(h:k < s.length):s[k]?=some (s.getD k 0):=by simp [List.getD,h]
def ld (c:UInt8):Bool:=bif Zi c.toNat then true else K1c c.toNat
def Hx:List UInt8→Nat
 | []=>0
 | c::r=>bif ld c then Hx r+1 else 0
theorem O1j:∀ s:List UInt8,Hx s≤s.length
 | []=>Nat.le_refl _
 | c::r=>by
  simp only [Hx,List.length_cons]
  have:=O1j r
  cases ld c <;> simp <;> omega
def K15 (s:List UInt8):Bool:=bif ((s.length:Nat):Int) == 0 then false else bif s.all (fun c=>Zi c.toNat) then Lib.contains kw ([32]++s++[32]) else false
set_option maxRecDepth 100000 in
theorem L15:kw.length=162:=rfl
theorem I1g {s sub:List UInt8}{i:Nat}(hi:i+sub.length≤s.length)(h:((s.take (i+sub.length)).drop i == sub)=true):Lib.contains s sub=true:=by
 have ho:Lib.occAt s sub i=true:=by
  rw [Lib.occAt_iff_take s sub i hi]
  rw [List.drop_take] at h
  simpa using h
 rcases Lib.index_spec s sub with ⟨_,h2⟩ | ⟨j,h1,_⟩
 ·rw [h2 i (by omega)] at ho; cases ho
 ·unfold Lib.contains
  rw [h1]
  exact decide_eq_true (by omega)
theorem T11 {s sub:List UInt8}(h:∀ i,i+sub.length≤s.length→((s.take (i+sub.length)).drop i == sub)=false)(hne:sub≠[]):Lib.contains s sub=false:=by
 rcases Lib.index_spec s sub with ⟨h1,_⟩ | ⟨j,h1,h2,h3,_⟩
 ·unfold Lib.contains
  rw [h1]; rfl
 ·rcases Lib.occAt_room h3 with hr | hr
  ·have:=h j hr
   rw [Lib.occAt_iff_take s sub j hr] at h3
   rw [List.drop_take] at this
   have e:j+sub.length - j=sub.length:=by omega
   rw [e,h3] at this
   cases this
  ·exact absurd hr hne
def R1l (s:List UInt8):Bool:=
 bif (bif (bif (bif decide (((s.length:Nat):Int) < 1) then true else decide (((s.length:Nat):Int) > 12)) then true else !Zi (s.getD 0 0).toNat) then true else K15 s) then false else ((Hx s:Nat):Int) == ((s.length:Nat):Int)
theorem N17:∀ (r:List UInt8) (i:Nat),1≤i→Ak i r=r.all ld
 | [],_,_=>rfl
 | c::r,i,h=>by
  have hi:(i != 0)=true:=by simp; omega
  simp only [Ak,List.all_cons,N17 r (i+1) (by omega),Q1l,hi,Bool.true_and,ld]
  cases Zi c.toNat <;> rfl
theorem P1j:∀ s:List UInt8,(((Hx s:Nat):Int) == ((s.length:Nat):Int))=s.all ld
 | []=>rfl
 | c::r=>by
  have h:=P1j r
  have hle:=O1j r
  simp only [Hx,List.length_cons,List.all_cons,← h]
  cases ld c with
  | false=>
   simp only [cond_false,Bool.false_and]
   apply beq_eq_false_iff_ne.2
   omega
  | true=>
   simp only [cond_true,Bool.true_and]
   rw [Bool.eq_iff_iff,beq_iff_eq,beq_iff_eq]
   omega
set_option maxRecDepth 100000 in
theorem O1q:kw.all (fun c=>Zi c.toNat||c == 32)=true:=by decide
theorem M15 {s sub:List UInt8}(h:Lib.contains s sub=true)(hne:sub≠[]):∀ c∈sub,c∈s:=by
 rcases Lib.index_spec s sub with ⟨h1,_⟩ | ⟨j,h1,h2,h3,_⟩
 ·unfold Lib.contains at h
  rw [h1] at h
  cases h
 ·rcases Lib.occAt_room h3 with hr | hr
  ·rw [Lib.occAt_iff_take s sub j hr] at h3
   have e:(s.drop j).take sub.length=sub:=by simpa using h3
   intro c hc
   rw [← e] at hc
   exact List.mem_of_mem_drop (List.mem_of_mem_take hc)
  ·exact absurd hr hne
theorem J1g:ld 32=false:=by decide
theorem P1q {s:List UInt8}(h:s.all ld=true):Lib.contains s [32]=false:=by
 cases hc:Lib.contains s [32] with
 | false=>rfl
 | true=>
  have:=M15 hc (by simp) 32 (by simp)
  have:=List.all_eq_true.1 h 32 this
  rw [J1g] at this
  cases this
theorem W1s {s:List UInt8}(h:s.all ld=true)(hc:Lib.contains kw ([32]++s++[32])=true):s.all (fun c=>Zi c.toNat)=true:=by
 rw [List.all_eq_true]
 intro c hcs
 have h1:=M15 hc (by simp) c (by simp [hcs])
 have h2:=List.all_eq_true.1 O1q c h1
 have h3:=List.all_eq_true.1 h c hcs
 cases hl:Zi c.toNat with
 | true=>rfl
 | false=>
  rw [hl,Bool.false_or,beq_iff_eq] at h2
  subst h2
  rw [J1g] at h3
  cases h3
theorem X1s (s:List UInt8):R1l s=T2 s:=by
 unfold R1l T2
 rw [P1j]
 cases s with
 | nil=>rfl
 | cons c r=>
  have h1:decide ((((c::r).length:Nat):Int) < 1)=false:=decide_eq_false (by simp only [List.length_cons]; omega)
  have h12:decide ((((c::r).length:Nat):Int) > 12) = !decide ((((c::r).length:Nat):Int)≤12):=by
   rw [← decide_not]; exact decide_eq_decide.2 Int.not_le.symm
  have hw:Aj (c::r)=(Zi c.toNat&&r.all ld):=by
   unfold Aj
   simp only [Ak,Q1l,N17 r 1 (Nat.le_refl _)]
   simp
  rw [h1,h12,hw,cond_false,List.all_cons]
  show (bif (bif (bif !decide ((((c::r).length:Nat):Int)≤12) then true else !Zi c.toNat) then true else K15 (c::r)) then false else (ld c&&r.all ld))=_
  cases h12':decide ((((c::r).length:Nat):Int)≤12) with
  | false=>rfl
  | true=>
   cases hl:Zi c.toNat with
   | false=>rfl
   | true=>
    have hlc:ld c=true:=by unfold ld; rw [hl]; rfl
    rw [hlc]
    cases ha:r.all ld with
    | false=>cases K15 (c::r) <;> rfl
    | true=>
     have hall:(c::r).all ld=true:=by rw [List.all_cons,hlc,ha]; rfl
     have hns:=P1q hall
     have e:K15 (c::r)=L1c (c::r):=by
      unfold K15 L1c
      rw [hns]
      have hz:((((c::r).length:Nat):Int) == 0)=false:=beq_eq_false_iff_ne.2 (by simp only [List.length_cons]; omega)
      rw [hz]
      cases hk:Lib.contains kw ([32]++(c::r)++[32]) with
      | false=>simp
      | true=>
       rw [W1s hall hk]
       rfl
     rw [e]
     cases L1c (c::r) <;> rfl
theorem Q1i (n:Int):Rk n=some (Zi n):=rfl
theorem S1l (n:Int):Yl n=some (K1c n):=rfl
theorem Z1a (s:Str)(hs:s.length≤BB):∀ (r:Str) (k:Nat),s.drop k=r→J8 s k=some (Ak k r && !(s == []))
 | [],k,h=>by rw [J8,(Y0 h).1]; simp [Ak]
 | c::r,k,h=>by
  obtain ⟨h1,h2,h3,h4,_⟩:=C1 h
  have ih:=Z1a s hs r (k+1) h3
  rw [J8,h1,if_pos rfl,h2,ob,Q1i,ob,w1 (by omega),ih]
  have e:((k:Int) == 0)=(k == 0):=by cases k <;> rfl
  simp only [e,Ak,Q1l,bne]
  cases hl:Zi c.toNat <;> cases hk:k == 0 <;> cases hd:K1c c.toNat <;> simp [S1l,hd]
theorem Y1n (s:Str)(hs:s.length≤BB):Gn s=some (Aj s):=Z1a s hs s 0 rfl
theorem U11 (s t:Str)(hs:s.length≤4000000000):En s t=some (Lib.contains s t):=by
 unfold En
 rw [if_pos (decide_eq_true (by omega))]
theorem R1i (s:Str)(hs:s.length≤4000000000):Yg s=some (L1c s):=by
 unfold Yg
 have h1:decide (1+s.length≤maxLen)=true:=decide_eq_true (by unfold maxLen; omega)
 have h2:decide (([32]++s).length+1≤maxLen)=true:=decide_eq_true (by unfold maxLen; simp; omega)
 rw [U11 s _ hs]
 have h3:=U11 kw (([32]++s)++[32]) (by rw [L15]; omega)
 unfold kw at h3
 unfold L1c kw
 rw [h1,h2,h3]
 cases s == [] <;> cases Lib.contains s [32] <;> simp
theorem U1d (s:Str)(hs:s.length≤BB):Jf s=some (T2 s):=by
 unfold Jf Hn T2
 rw [Y1n s hs]
 cases h:decide ((s.length:Int)≤12) with
 | false=>simp
 | true=>
  have h':s.length≤12:=by have:=of_decide_eq_true h; omega
  rw [R1i s (by omega)]
  cases Aj s <;> simp
theorem Pu (n:Int):Jh n=some (Zi n):=rfl
theorem S1i (n:Int):Cq n=some (K1c n):=rfl
theorem Q1j (s:Str)(hs:s.length≤BB):∀ (r:Str) (k:Nat),s.drop k=r→Sc s k=some ((k+Hx r:Nat):Int)
 | [],k,h=>by rw [Sc,(Y0 h).1]; simp [Hx,ob]
 | c::r,k,h=>by
  obtain ⟨h1,h2,h3,h4,_⟩:=C1 h
  have ih:=Q1j s hs r (k+1) h3
  rw [Sc,h1,if_pos rfl,h2,ob,if_pos rfl,Pu,ob,w1 (by omega),ih]
  simp only [Hx,ld]
  cases hl:Zi c.toNat <;> cases hd:K1c c.toNat <;> simp [S1i,hd,ob] <;> omega
theorem M1u (s:Str)(hs:s.length≤BB):Vq s 0=some ((Hx s:Nat):Int):=by
 have:=Q1j s hs s 0 rfl
 unfold Vq
 rw [Nat.zero_add] at this
 exact this
theorem Q1q (s:Str)(hs:s.length≤4000000000):∀ (n k:Nat),n+k=163→(∀ i,i < k→i+([32]++s++[32]).length≤kw.length→((kw.take (i+([32]++s++[32]).length)).drop i == [32]++s++[32])=false)→
  P6 s k=some (Lib.contains kw ([32]++s++[32])):=by
 have hl:([32]++s++[32]).length=s.length+2:=by simp
 intro n
 induction n with
 | zero=>
  intro k hk hi
  rw [P6,wr (n:=(k:Int)+_) (by omega) (by omega),wr (by omega) (by omega),if_neg (by simp; omega),T11 (fun i h=>hi i (by rw [L15] at h; omega) h) (by simp)]
 | succ n ih=>
  intro k hk hi
  rw [P6,wr (n:=(k:Int)+_) (by omega) (by omega),wr (by omega) (by omega)]
  by_cases hr:k+([32]++s++[32]).length≤kw.length
  ·have hr':=hr
   rw [L15,hl] at hr'
   rw [if_pos (decide_eq_true (by omega))]
   have hs2:slc kw (k:Int) ((k:Int)+(s.length:Int)+2)=some ((kw.take (k+([32]++s++[32]).length)).drop k):=by
    unfold slc
    rw [if_pos ⟨by omega,by omega,by rw [L15]; omega⟩,hl]
    rw [show ((k:Int)+(s.length:Int)+2).toNat=k+(s.length+2) by omega]
    rfl
   unfold kw at hs2
   rw [hs2,ob,if_pos (decide_eq_true (by unfold maxLen; omega)),if_pos (decide_eq_true (by unfold maxLen; simp; omega))]
   cases he:((kw.take (k+([32]++s++[32]).length)).drop k == [32]++s++[32]) with
   | true=>
    have:=I1g hr he
    rw [this]
    unfold kw at he
    rw [he,if_pos rfl]
   | false=>
    have he':=he
    unfold kw at he'
    rw [he',if_neg (by simp),w1 (by unfold BB; omega)]
    refine ih (k+1) (by omega) fun i hik=>?_
    rcases Nat.lt_or_eq_of_le (Nat.le_of_lt_succ hik) with h | h
    ·exact hi i h
    ·subst h; exact fun _=>he
  ·have hr':=hr
   rw [L15,hl] at hr'
   rw [if_neg (by simp; omega),T11 (fun i h=>hi i (by omega) h) (by simp)]
theorem K1g (s:Str)(hs:s.length≤4000000000):∀ (r:Str) (k:Nat),s.drop k=r→Q6 s k=some (bif r.all (fun c=>Zi c.toNat) then Lib.contains kw ([32]++s++[32]) else false)
 | [],k,h=>by rw [Q6,(Y0 h).1,if_neg (by simp)]; exact Q1q s hs 163 0 rfl (fun i h=>by omega)
 | c::r,k,h=>by
  obtain ⟨h1,h2,h3,h4,_⟩:=C1 h
  have ih:=K1g s hs r (k+1) h3
  rw [Q6,h1,if_pos rfl,h2,ob,Pu,ob,w1 (by unfold BB; omega),ih,List.all_cons]
  cases Zi c.toNat <;> simp
theorem M1c (s:Str)(hs:s.length≤4000000000):Kh s=some (K15 s):=by
 unfold Kh K15
 have:=K1g s hs s 0 rfl
 rw [show (0:Int)=((0:Nat):Int) from rfl,this]
 cases ((s.length:Int) == ((0:Nat):Int)) <;> simp
theorem We (s:Str)(hs:s.length≤BB):C6 s=some (T2 s):=by
 rw [← X1s]
 unfold C6 Wn R1l
 cases h:(bif decide ((s.length:Int) < 1) then true else decide ((s.length:Int) > 12)) with
 | true=>simp [ob]
 | false=>
  have h':1≤s.length∧s.length≤12:=by
   cases h1:decide ((s.length:Int) < 1) with
   | true=>rw [h1] at h; cases h
   | false=>
    rw [h1] at h
    have:=of_decide_eq_false h1
    have:=of_decide_eq_false (show decide ((s.length:Int) > 12)=false from h)
    omega
  have h0:idx s 0=some (s.getD 0 0):=getD_some (by omega)
  rw [h0,M1c s (by omega),M1u s hs]
  simp only [Bool.not_false,if_true,ob,Pu,cond_false]
  cases Zi (s.getD 0 0).toNat <;> cases K15 s <;> simp [ob]
end Go.Proofs.YtdkabnfphmmmnaaGreatDoor

set_option linter.unusedSimpArgs false
namespace Go.Proofs.YtdkabnfphmmmnaaGreatDoor
open Go.Am
theorem A0.ind {P:A0→Prop}(h:∀ t:A0,(∀ x∈t.Of,P x)→P t):∀ t,P t:=by
 intro t
 refine A0.rec (motive_1:=P) (motive_2:=fun l=>∀ x∈l,P x) ?_ ?_ ?_ t
 ·intro k l h' s n ns of ih
  exact h _ ih
 ·intro x hx; cases hx
 ·intro x r hx hr y hy
  cases hy with
  | head=>exact hx
  | tail _ hy=>exact hr y hy
mutual
def A0.depth:A0→Nat
 | .mk _ _ _ _ _ _ of=>A0.depths of+1
def A0.depths:List A0→Nat
 | []=>0
 | t::r=>max (A0.depth t) (A0.depths r)
end
theorem A0.depth_eq (t:A0):t.depth=A0.depths t.Of+1:=by cases t; simp [A0.depth,A0.Of]
theorem A0.depth_le:∀ {l:List A0} {t:A0},t∈l→t.depth≤A0.depths l
 | x::r,t,h=>by
  simp only [A0.depths]
  cases h with
  | head=>omega
  | tail _ h=>have:=A0.depth_le h; omega
def X1 (a b c:Int):Bool:=bif decide (a≥b) then decide (a≤c) else false
mutual
def A0.all (p:A0→Bool):A0→Bool
 | .mk k l h s n ns of=>p (.mk k l h s n ns of)&&A0.alls p of
def A0.alls (p:A0→Bool):List A0→Bool
 | []=>true
 | t::r=>A0.all p t&&A0.alls p r
end
theorem A0.all_eq (p:A0→Bool)(t:A0):t.all p=(p t&&A0.alls p t.Of):=by cases t; rfl
mutual
def A0.nodes:A0→Nat
 | .mk _ _ _ _ _ _ of=>A0.nodess of+1
def A0.nodess:List A0→Nat
 | []=>0
 | t::r=>A0.nodes t+A0.nodess r
end
theorem A0.nodes_eq (t:A0):t.nodes=A0.nodess t.Of+1:=by cases t; rfl
mutual
theorem A0.depth_nodes:∀ t:A0,t.depth≤t.nodes
 | .mk _ _ _ _ _ _ of=>by simp only [A0.depth,A0.nodes]; have:=A0.depths_nodess of; omega
theorem A0.depths_nodess:∀ l:List A0,A0.depths l≤A0.nodess l
 | []=>Nat.le_refl _
 | t::r=>by simp only [A0.depths,A0.nodess]; have:=A0.depth_nodes t; have:=A0.depths_nodess r; omega
end
def fm1 (t:A0):Bool:=bif decide (t.Kind≥0) then decide (t.Kind≤4) else false
def fm2 (t:A0):Bool:=bif t.Kind == 1 then true else bif t.Low == 0 then t.High == 0 else false
def fm3 (t:A0):Bool:=bif t.Kind == 2 then true else t.Size == 0
def fm4 (t:A0):Bool:=bif t.Kind == 4 then true else t.Name == []
def fm5 (t:A0):Bool:=bif t.Kind == 3 then true else ((t.Names).length:Int) == 0
def fm6 (t:A0):Bool:=bif t.Kind == 2 then ((t.Of).length:Int) == 1 else bif t.Kind == 3 then (bif decide (((t.Of).length:Int)≥1) then ((t.Of).length:Int) == ((t.Names).length:Int) else false) else ((t.Of).length:Int) == 0
def nm1 (t:A0):Bool:=bif t.Kind == 2 then X1 t.Size 1 32 else bif t.Kind == 3 then decide (((t.Of).length:Int)≤32) else true
def nm2 (t:A0):Bool:=bif t.Kind == 1 then (bif X1 t.Low (-1048576) 1048576 then X1 t.High t.Low 1048576 else false) else true
def na1 (t:A0):Bool:=bif t.Kind == 4 then T2 t.Name else true
def D3 (t:A0):Bool:=fm1 t&&fm2 t&&fm3 t&&fm4 t&&fm5 t&&fm6 t
def H9 (t:A0):Bool:=nm1 t&&nm2 t
def J5 (t:A0):Bool:=na1 t&&t.Names.all T2
theorem Br (a b c:Bool):(a || !b || !c)=(a || !(b&&c)):=by cases a <;> cases b <;> cases c <;> rfl
def Cc (n d:Int)(f m u:Bool):Int:=
 bif (bif decide (n > 1024) then true else decide (d > 12)) then 4 else bif f then 1 else bif m then 7 else bif u then 3 else 0
theorem D11 (a b:Int):decide (a < b) = !decide (a≥b):=by
 rw [← decide_not]; exact decide_eq_decide.2 Int.not_le.symm
theorem E11 (a b:Int):decide (a > b) = !decide (a≤b):=by
 rw [← decide_not]; exact decide_eq_decide.2 Int.not_le.symm
def L1g (t:A0):Bool:=bif decide (t.Kind < 0) then true else decide (t.Kind > 4)
def M1g (t:A0):Bool:=
 bif (bif (bif (bif t.Kind != 1 then (bif t.Low != 0 then true else t.High != 0) else false) then true else (bif t.Kind != 2 then t.Size != 0 else false)) then true else (bif t.Kind != 4 then !(t.Name == []) else false)) then true else
  (bif t.Kind != 3 then ((t.Names).length:Int) != 0 else false)
def N1g (t:A0):Bool:=
 bif (bif (bif t.Kind == 2 then ((t.Of).length:Int) != 1 else false) then true else
  (bif t.Kind == 3 then (bif decide (((t.Of).length:Int) < 1) then true else ((t.Of).length:Int) != ((t.Names).length:Int)) else false)) then true else
  (bif (bif t.Kind != 2 then t.Kind != 3 else false) then ((t.Of).length:Int) != 0 else false)
theorem Y1s (t:A0):fm1 t = !L1g t:=by
 unfold fm1 L1g
 rw [D11,E11]
 cases decide (t.Kind≥0) <;> cases decide (t.Kind≤4) <;> rfl
theorem Z1s (t:A0):(fm2 t&&fm3 t&&fm4 t&&fm5 t) = !M1g t:=by
 unfold fm2 fm3 fm4 fm5 M1g
 simp only [bne]
 generalize (t.Kind == 1)=a
 generalize (t.Kind == 2)=b
 generalize (t.Kind == 3)=c
 generalize (t.Kind == 4)=d
 generalize (t.Low == 0)=e
 generalize (t.High == 0)=f
 generalize (t.Size == 0)=g
 generalize (t.Name == [])=h
 generalize (((t.Names).length:Int) == 0)=i
 cases a <;> cases b <;> cases c <;> cases d <;> cases e <;> cases f <;> cases g <;> cases h <;> cases i <;> rfl
theorem A1t (t:A0):fm6 t = !N1g t:=by
 have hx:(t.Kind == 2)=true→(t.Kind == 3)=false:=fun h=>by
  have:t.Kind=2:=by simpa using h
  rw [this]; rfl
 unfold fm6 N1g
 rw [D11]
 simp only [bne]
 revert hx
 generalize (t.Kind == 2)=b
 generalize (t.Kind == 3)=c
 generalize (((t.Of).length:Int) == 1)=d
 generalize (((t.Of).length:Int) == 0)=e
 generalize (((t.Of).length:Int) == ((t.Names).length:Int))=f
 generalize (decide (((t.Of).length:Int)≥1))=g
 intro hx
 cases b <;> cases c <;> first | (exact absurd (hx rfl) (by decide)) | (cases d <;> cases e <;> cases f <;> cases g <;> rfl)
theorem R1q (t:A0):D3 t=(!L1g t && !M1g t && !N1g t):=by
 rw [← Y1s,← Z1s,← A1t]
 unfold D3
 simp only [Bool.and_assoc]
def Xf (n:Int):Bool:=bif decide (n≥-1048576) then decide (n≤1048576) else false
def Wp (t:A0):Bool:=
 bif (bif (bif t.Kind == 1 then (bif (bif !Xf t.Low then true else !Xf t.High) then true else decide (t.Low > t.High)) else false) then true else
  (bif t.Kind == 2 then (bif decide (t.Size < 1) then true else decide (t.Size > 32)) else false)) then true else decide (((t.Of).length:Int) > 32)
theorem O1g (t:A0)(hf:D3 t=true):H9 t = !Wp t:=by
 have hk1:(t.Kind == 1)=true→(t.Kind == 2)=false∧(t.Kind == 3)=false:=fun h=>by
  have:t.Kind=1:=by simpa using h
  rw [this]; exact ⟨rfl,rfl⟩
 have hk2:(t.Kind == 2)=true→(t.Kind == 3)=false:=fun h=>by
  have:t.Kind=2:=by simpa using h
  rw [this]; rfl
 have h6:fm6 t=true:=by
  unfold D3 at hf
  simp only [Bool.and_eq_true] at hf
  exact hf.2
 have hin:(bif X1 t.Low (-1048576) 1048576 then X1 t.High t.Low 1048576 else false) = !(bif (bif !Xf t.Low then true else !Xf t.High) then true else decide (t.Low > t.High)):=by
  unfold X1 Xf
  by_cases a1:t.Low≥-1048576 <;> by_cases a2:t.Low≤1048576 <;> by_cases a3:t.High≥-1048576 <;> by_cases a4:t.High≤1048576 <;> by_cases a5:t.High≥t.Low <;>
   simp [a1,a2,a3,a4,a5] <;> omega
 have hsz:X1 t.Size 1 32 = !(bif decide (t.Size < 1) then true else decide (t.Size > 32)):=by
  unfold X1
  rw [D11,E11]
  cases decide (t.Size≥1) <;> cases decide (t.Size≤32) <;> rfl
 unfold H9 Wp nm1 nm2
 rw [hin,hsz,E11 (((t.Of).length:Int))]
 have hl:(t.Kind == 3)=false→decide (((t.Of).length:Int)≤32)=true:=fun h3=>by
  unfold fm6 at h6
  rw [h3] at h6
  cases h2:t.Kind == 2 with
  | true=>
   rw [h2] at h6
   have:((t.Of).length:Int)=1:=by simpa using h6
   exact decide_eq_true (by omega)
  | false=>
   rw [h2] at h6
   have:((t.Of).length:Int)=0:=by simpa using h6
   exact decide_eq_true (by omega)
 revert hk1 hk2 hl
 generalize (bif (bif !Xf t.Low then true else !Xf t.High) then true else decide (t.Low > t.High))=X
 generalize (bif decide (t.Size < 1) then true else decide (t.Size > 32))=Y
 generalize decide (((t.Of).length:Int)≤32)=Z
 generalize (t.Kind == 1)=a
 generalize (t.Kind == 2)=b
 generalize (t.Kind == 3)=c
 intro hk1 hk2 hl
 cases a <;> cases b <;> cases c <;> first | exact absurd (hk1 rfl).1 (by decide) | exact absurd (hk1 rfl).2 (by decide) | exact absurd (hk2 rfl) (by decide) | (cases X <;> cases Y <;> cases Z <;> first | rfl | exact absurd (hl rfl) (by decide))
theorem T1i (t:A0):t.all D3=true→t.all H9=t.all fun t=>!Wp t:=by
 induction t using A0.ind with
 | h t ih=>
 intro hf
 rw [A0.all_eq,Bool.and_eq_true] at hf
 rw [A0.all_eq,A0.all_eq,O1g t hf.1]
 congr 1
 have:∀ l:List A0,(∀ x∈l,x.all D3=true→x.all H9=x.all fun t=>!Wp t)→A0.alls D3 l=true→A0.alls H9 l=A0.alls (fun t=>!Wp t) l:=by
  intro l
  induction l with
  | nil=>intros; rfl
  | cons x r ihr=>
   intro h1 h2
   simp only [A0.alls,Bool.and_eq_true] at h2
   simp only [A0.alls]
   rw [h1 x List.mem_cons_self h2.1,ihr (fun y hy=>h1 y (List.mem_cons_of_mem _ hy)) h2.2]
 exact this t.Of ih hf.2
def G8 (t:A0):Int:=Cc t.nodes t.depth (!t.all D3) (!t.all J5) (!t.all H9)
mutual
def A0.cnt:A0→Int
 | .mk k _ _ s _ _ of=>min (bif k == 2 then min s 33 * A0.cnt1 of else bif k == 3 then A0.cnts of else 1) 33
def A0.cnt1:List A0→Int
 | []=>0
 | t::_=>A0.cnt t
def A0.cnts:List A0→Int
 | []=>0
 | t::r=>A0.cnt t+A0.cnts r
end
theorem A0.cnt_eq (t:A0):t.cnt=min (bif t.Kind == 2 then min t.Size 33 * A0.cnt1 t.Of else bif t.Kind == 3 then A0.cnts t.Of else 1) 33:=by cases t; rfl
theorem A0.cnt_le (t:A0):t.cnt≤33:=by rw [A0.cnt_eq]; omega
theorem A0.alls_mem {p:A0→Bool}:∀ {l:List A0} {t:A0},A0.alls p l=true→t∈l→t.all p=true
 | x::r,t,h,hm=>by
  simp only [A0.alls,Bool.and_eq_true] at h
  cases hm with
  | head=>exact h.1
  | tail _ hm=>exact A0.alls_mem h.2 hm
structure T3 (t:A0):Prop where
 form:t.all D3=true
 num:t.all H9=true
theorem T3.kid {t x:A0}(h:T3 t)(hx:x∈t.Of):T3 x:=by
 have h1:=h.form
 have h2:=h.num
 rw [A0.all_eq,Bool.and_eq_true] at h1 h2
 exact ⟨A0.alls_mem h1.2 hx,A0.alls_mem h2.2 hx⟩
theorem T3.here {t:A0}(h:T3 t):D3 t=true∧H9 t=true:=by
 have h1:=h.form
 have h2:=h.num
 rw [A0.all_eq,Bool.and_eq_true] at h1 h2
 exact ⟨h1.1,h2.1⟩
theorem T3.arr {t:A0}(h:T3 t)(hk:(t.Kind == 2)=true):∃ x,t.Of=[x]∧1≤t.Size∧t.Size≤32:=by
 obtain ⟨h1,h2⟩:=h.here
 simp only [D3,H9,Bool.and_eq_true] at h1 h2
 have h6:=h1.2
 have hn:=h2.1
 unfold fm6 at h6
 unfold nm1 X1 at hn
 rw [hk] at h6 hn
 simp only [cond_true] at h6 hn
 have hl:t.Of.length=1:=by have:(t.Of.length:Int)=1:=by simpa using h6
                           omega
 obtain ⟨x,hx⟩:=List.length_eq_one_iff.1 hl
 cases hd:decide (t.Size≥1) with
 | false=>rw [hd] at hn; cases hn
 | true=>
  rw [hd] at hn
  exact ⟨x,hx,of_decide_eq_true hd,of_decide_eq_true hn⟩
theorem T3.recd {t:A0}(h:T3 t)(hk:(t.Kind == 3)=true):t.Of.length≤32∧t.Of.length=t.Names.length∧1≤t.Of.length:=by
 obtain ⟨h1,h2⟩:=h.here
 simp only [D3,H9,Bool.and_eq_true] at h1 h2
 have h6:=h1.2
 have hn:=h2.1
 have hk2:(t.Kind == 2)=false:=by
  have:t.Kind=3:=by simpa using hk
  rw [this]; rfl
 unfold fm6 at h6
 unfold nm1 at hn
 rw [hk,hk2] at h6 hn
 simp only [cond_true,cond_false] at h6 hn
 have hn':(t.Of.length:Int)≤32:=of_decide_eq_true hn
 cases hd:decide ((t.Of.length:Int)≥1) with
 | false=>rw [hd] at h6; cases h6
 | true=>
  rw [hd] at h6
  have:=of_decide_eq_true hd
  have h6':(t.Of.length:Int)=t.Names.length:=by simpa using h6
  omega
theorem A0.cnts_bound:∀ l:List A0,(∀ x∈l,0≤x.cnt)→0≤A0.cnts l∧A0.cnts l≤33 * l.length
 | [],_=>by simp [A0.cnts]
 | x::r,h=>by
  have h1:=h x List.mem_cons_self
  have h2:=A0.cnt_le x
  have h3:=A0.cnts_bound r fun y hy=>h y (List.mem_cons_of_mem _ hy)
  simp only [A0.cnts,List.length_cons]
  omega
theorem A0.cnt_ge (t:A0):T3 t→0≤t.cnt:=by
 induction t using A0.ind with
 | h t ih=>
 intro hf
 rw [A0.cnt_eq]
 cases h2:t.Kind == 2 with
 | true=>
  obtain ⟨x,hx,s1,s2⟩:=hf.arr h2
  have:=ih x (by rw [hx]; exact List.mem_cons_self) (hf.kid (by rw [hx]; exact List.mem_cons_self))
  rw [hx]
  simp only [cond_true,A0.cnt1]
  have:0≤min t.Size 33 * x.cnt:=Int.mul_nonneg (by omega) this
  omega
 | false=>
  cases h3:t.Kind == 3 with
  | true=>
   have:=A0.cnts_bound t.Of fun x hx=>ih x hx (hf.kid hx)
   simp only [cond_true,cond_false]
   omega
  | false=>simp only [cond_false]; omega
mutual
def A0.some (p:A0→Bool):A0→Bool
 | .mk k l h s n ns of=>p (.mk k l h s n ns of)||A0.somes p of
def A0.somes (p:A0→Bool):List A0→Bool
 | []=>false
 | t::r=>A0.some p t||A0.somes p r
end
theorem A0.some_eq (p:A0→Bool)(t:A0):t.some p=(p t||t.Of.any (A0.some p)):=by
 have:∀ l,A0.somes p l=l.any (A0.some p):=fun l=>by
  induction l with
  | nil=>rfl
  | cons x r ih=>simp [A0.somes,ih]
 cases t
 simp only [A0.some,A0.Of,this]
def Nm (t:A0):Bool:=t.Kind == 4
def tw (seen:List (List UInt8)):List (List UInt8)→Bool
 | []=>false
 | x::r=>(seen.any fun y=>x == y)||tw (seen++[x]) r
def Ao (t:A0):Bool:=tw [] t.Names
def P1g (t:A0):Int:=bif t.some Nm then 7 else bif t.some Ao then 8 else bif decide (t.cnt > 32) then 4 else 0
theorem N1c {t:A0}(h:G8 t=0):T3 t:=by
 unfold G8 Cc at h
 constructor
 ·cases hf:t.all D3 with
  | true=>rfl
  | false=>
   rw [hf] at h
   revert h
   cases (bif decide ((t.nodes:Int) > 1024) then true else decide ((t.depth:Int) > 12)) <;> simp
 ·cases hf:t.all H9 with
  | true=>rfl
  | false=>
   rw [hf] at h
   revert h
   cases (bif decide ((t.nodes:Int) > 1024) then true else decide ((t.depth:Int) > 12)) <;> cases t.all D3 <;> cases t.all J5 <;> simp
def Bk (t:A0):Int:=bif G8 t != 0 then G8 t else P1g t
def eqL {α:Type}(p:α→α→Bool):List α→List α→Bool
 | [],[]=>true
 | x::r,y::s=>p x y&&eqL p r s
 | _,_=>false
theorem Uk {α:Type}(p:α→α→Bool):∀ {l m:List α},l.length≠m.length→eqL p l m=false
 | [],[],h=>absurd rfl h
 | [],_::_,_=>rfl
 | _::_,[],_=>rfl
 | x::r,y::s,h=>by rw [eqL,Uk p (l:=r) (m:=s) (by simpa using h),Bool.and_false]
mutual
def A0.same:A0→A0→Bool
 | .mk k l h s n ns of,t=>k == t.Kind&&l == t.Low&&h == t.High&&s == t.Size&&n == t.Name&&eqL (fun x y=>x == y) ns t.Names&&A0.sames of t.Of
def A0.sames:List A0→List A0→Bool
 | [],[]=>true
 | x::r,y::s=>A0.same x y&&A0.sames r s
 | [],_::_=>false
 | _::_,[]=>false
end
theorem A0.sames_eq:∀ l m:List A0,A0.sames l m=eqL A0.same l m
 | [],[]=>rfl
 | x::r,y::s=>by simp only [A0.sames,eqL,A0.sames_eq r s]
 | [],_::_=>rfl
 | _::_,[]=>rfl
theorem A0.same_eq (t u:A0):t.same u=(t.Kind == u.Kind&&t.Low == u.Low&&t.High == u.High&&t.Size == u.Size&&t.Name == u.Name&&eqL (fun x y=>x == y) t.Names u.Names&&eqL A0.same t.Of u.Of):=by
 rw [← A0.sames_eq]
 cases t
 rfl
def O1c (t u:A0):Bool:=
 bif (bif (bif (bif (bif (bif t.Kind != u.Kind then true else t.Low != u.Low) then true else t.High != u.High) then true else t.Size != u.Size) then true else !(t.Name == u.Name)) then true else
  ((t.Names).length:Int) != ((u.Names).length:Int)) then true else ((t.Of).length:Int) != ((u.Of).length:Int)
theorem Z1n {t u:A0}(h:O1c t u=true):t.same u=false:=by
 have hn:((t.Names).length:Int)≠((u.Names).length:Int)→eqL (fun x y=>x == y) t.Names u.Names=false:=fun h=>Uk _ fun e=>h (by omega)
 have ho:((t.Of).length:Int)≠((u.Of).length:Int)→eqL A0.same t.Of u.Of=false:=fun h=>Uk _ fun e=>h (by omega)
 unfold O1c at h
 rw [A0.same_eq]
 by_cases h1:((t.Names).length:Int)=((u.Names).length:Int)
 ·by_cases h2:((t.Of).length:Int)=((u.Of).length:Int)
  ·rw [h1,h2] at h
   revert h
   simp only [bne,beq_self_eq_true,Bool.not_true]
   cases t.Kind == u.Kind <;> cases t.Low == u.Low <;> cases t.High == u.High <;> cases t.Size == u.Size <;> cases t.Name == u.Name <;> simp
  ·rw [ho h2,Bool.and_false]
 ·rw [hn h1,Bool.and_false,Bool.false_and]
theorem S1q {t u:A0}(h:O1c t u=false):t.same u=(eqL (fun x y=>x == y) t.Names u.Names&&eqL A0.same t.Of u.Of)∧t.Names.length=u.Names.length∧t.Of.length=u.Of.length:=by
 unfold O1c at h
 simp only [bne] at h
 have key:t.Kind == u.Kind∧t.Low == u.Low∧t.High == u.High∧t.Size == u.Size∧t.Name == u.Name∧((t.Names).length:Int) == ((u.Names).length:Int)∧((t.Of).length:Int) == ((u.Of).length:Int):=by
  revert h
  cases t.Kind == u.Kind <;> cases t.Low == u.Low <;> cases t.High == u.High <;> cases t.Size == u.Size <;> cases t.Name == u.Name <;> cases ((t.Names).length:Int) == ((u.Names).length:Int) <;> cases ((t.Of).length:Int) == ((u.Of).length:Int) <;> simp
 obtain ⟨k1,k2,k3,k4,k5,k6,k7⟩:=key
 refine ⟨by rw [A0.same_eq,k1,k2,k3,k4,k5]; rfl,?_,?_⟩
 ·have:(t.Names.length:Int)=u.Names.length:=by simpa using k6
  omega
 ·have:(t.Of.length:Int)=u.Of.length:=by simpa using k7
  omega
end Go.Proofs.YtdkabnfphmmmnaaGreatDoor

set_option linter.unusedSimpArgs false
namespace Go.Proofs.YtdkabnfphmmmnaaGreatDoor
open Go.Am
mutual
def A0.bulk:A0→Nat
 | .mk _ _ _ _ n ns of=>1+(1+(1+(1+((n.length+1)+(((ns.map fun s=>s.length+1).sum+1)+((A0.bulks of+1)+0))))))+1
def A0.bulks:List A0→Nat
 | []=>0
 | x::r=>A0.bulk x+A0.bulks r
end
theorem A0.bulk_eq (t:A0):t.bulk=t.Name.length+(t.Names.map fun s=>s.length+1).sum+A0.bulks t.Of+8:=by cases t; simp only [A0.bulk]; omega
theorem A0.bulk_kid {t:A0}:∀ {l:List A0},t∈l→t.bulk≤A0.bulks l
 | x::r,h=>by
  simp only [A0.bulks]
  cases h with
  | head=>omega
  | tail _ h=>have:=A0.bulk_kid h; omega
theorem A0.bulk_len:∀ l:List A0,l.length≤A0.bulks l
 | []=>Nat.le_refl _
 | x::r=>by
  simp only [A0.bulks,List.length_cons]
  have:=A0.bulk_len r
  have:=A0.bulk_eq x
  omega
theorem O18 {s:Str}:∀ {l:List Str},s∈l→s.length+1≤(l.map fun s=>s.length+1).sum
 | x::r,h=>by
  simp only [List.map_cons,List.sum_cons]
  cases h with
  | head=>omega
  | tail _ h=>have:=O18 h; omega
theorem Q1g:∀ l:List Str,l.length≤(l.map fun s=>s.length+1).sum
 | []=>Nat.le_refl _
 | x::r=>by simp only [List.map_cons,List.sum_cons,List.length_cons]; have:=Q1g r; omega
mutual
theorem A0.nodes_bulk:∀ t:A0,t.nodes≤t.bulk
 | .mk _ _ _ _ _ _ of=>by simp only [A0.nodes,A0.bulk]; have:=A0.nodess_bulk of; omega
theorem A0.nodess_bulk:∀ l:List A0,A0.nodess l≤A0.bulks l
 | []=>Nat.le_refl _
 | x::r=>by simp only [A0.nodess,A0.bulks]; have:=A0.nodes_bulk x; have:=A0.nodess_bulk r; omega
end
def Ok (t:A0):Prop:=t.bulk≤BB
theorem Ok.kid {t x:A0}(h:Ok t)(hx:x∈t.Of):Ok x:=by
 unfold Ok at *
 have:=A0.bulk_kid hx
 have:=A0.bulk_eq t
 omega
theorem Ok.ofs {t:A0}(h:Ok t):t.Of.length≤BB:=by
 unfold Ok at *
 have:=A0.bulk_len t.Of
 have:=A0.bulk_eq t
 omega
theorem Ok.names {t:A0}(h:Ok t):t.Names.length≤BB:=by
 unfold Ok at *
 have:=Q1g t.Names
 have:=A0.bulk_eq t
 omega
theorem Ok.name1 {t:A0}(h:Ok t){s:Str}(hs:s∈t.Names):s.length≤BB:=by
 unfold Ok at *
 have:=O18 hs
 have:=A0.bulk_eq t
 omega
theorem Ok.name {t:A0}(h:Ok t):t.Name.length≤BB:=by
 unfold Ok at *
 have:=A0.bulk_eq t
 omega
theorem Ok.nodes {t:A0}(h:Ok t):t.nodes≤BB:=Nat.le_trans (A0.nodes_bulk t) h
theorem bor (a b:Bool):(bif a then true else b)=(a||b):=by cases a <;> rfl
theorem P18 (d:Int)(o:F0):E7 d o=some ⟨o.nodes,max o.depth d,o.badForm,o.badName,o.badNumber⟩:=rfl
theorem Q18 (b:Bool)(o:F0):V0 b o=some ⟨o.nodes,o.depth,o.badForm || !b,o.badName,o.badNumber⟩:=by unfold V0; rw [bor]
theorem Us (b:Bool)(o:F0):O1 b o=some ⟨o.nodes,o.depth,o.badForm,o.badName,o.badNumber || !b⟩:=by unfold O1; rw [bor]
theorem Fi (a b c:Int):H3 a b c=some (X1 a b c):=rfl
theorem F11 (s:Str)(hs:s.length≤BB)(o:F0):W3 s o=some ⟨o.nodes,o.depth,o.badForm,o.badName || !T2 s,o.badNumber⟩:=by
 unfold W3
 rw [U1d s hs]
 cases h:o.badName <;> simp
theorem R18 (o:F0):M5 o=some (Cc o.nodes o.depth o.badForm o.badName o.badNumber):=by
 unfold M5 Cc
 cases (bif decide (o.nodes > 1024) then true else decide (o.depth > 12)) <;> cases o.badForm <;> cases o.badName <;> cases o.badNumber <;> rfl
def Ae (o:F0)(d:Int)(n m:Nat)(f a u:Bool):F0:=⟨o.nodes+n,max o.depth (d+m),o.badForm || !f,o.badName || !a,o.badNumber || !u⟩
theorem A1o (t:A0)(d:Int)(hd:0≤d)(ht:Ok t)
  (ih:∀ x∈t.Of,∀ (d:Int) (o:F0),0≤d→d+x.nodes≤4 * BB→0≤o.nodes→o.nodes+x.nodes≤4 * BB→G4 x d o=some (Ae o d x.nodes (x.depth - 1) (x.all D3) (x.all J5) (x.all H9))) :
  ∀ (r:List A0) (k:Nat) (o:F0),t.Of.drop k=r→(∀ x∈r,x∈t.Of)→d+1+A0.nodess r≤4 * BB→0≤o.nodes→o.nodes+A0.nodess r≤4 * BB→d≤o.depth→
   T5 t d o k=some (Ae o d (A0.nodess r) (A0.depths r) (A0.alls D3 r) (A0.alls J5 r) (A0.alls H9 r))
 | [],k,o,h,_,_,_,_,h5=>by
  rw [T5,(Y0 h).1]
  simp only [Ae,A0.nodess,A0.depths,A0.alls,Bool.not_true,Bool.or_false]
  rw [if_neg (by simp),show o.nodes+((0:Nat):Int)=o.nodes by omega,show max o.depth (d+((0:Nat):Int))=o.depth by omega]
 | x::r,k,o,h,hm,hb,h3,h4,h5=>by
  obtain ⟨e1,e2,e3,e4,e5⟩:=C1 h
  simp only [A0.nodess] at hb h4
  have hdp:1≤x.depth:=by rw [A0.depth_eq]; omega
  have hof:=ht.ofs
  unfold BB at hb h4 hof
  rw [T5,e1,if_pos rfl,e2,ob,wr (n:=d+1) (by omega) (by omega),ih x e5 (d+1) o (by omega) (by unfold BB; omega) h3 (by unfold BB; omega),ob,w1 (by unfold BB; omega),
   A1o t d hd ht ih r (k+1) _ e3 (fun y hy=>hm y (List.mem_cons_of_mem _ hy)) (by unfold BB; omega) (by simp only [Ae]; omega) (by simp only [Ae]; unfold BB; omega) (by simp only [Ae]; omega)]
  simp only [Ae,A0.nodess,A0.depths,A0.alls,Br]
  rw [show o.nodes+(x.nodes:Int)+(A0.nodess r:Nat)=o.nodes+((x.nodes+A0.nodess r:Nat):Int) by omega,
   show max (max o.depth (d+1+((x.depth - 1:Nat):Int))) (d+(A0.depths r:Nat))=max o.depth (d+((max x.depth (A0.depths r):Nat):Int)) by omega]
theorem B1o (t:A0)(d:Int)(ht:Ok t)(R:F0→Option F0)(hR:∀ o,T5 t d o 0=R o) :
  ∀ (r:List Str) (k:Nat) (o:F0),t.Names.drop k=r→Q4 t d o k=R ⟨o.nodes,o.depth,o.badForm,o.badName || !r.all T2,o.badNumber⟩
 | [],k,o,h=>by
  rw [Q4,(Y0 h).1,if_neg (by simp),hR]
  simp
 | x::r,k,o,h=>by
  obtain ⟨e1,e2,e3,e4,e5⟩:=C1 h
  have:=ht.names
  rw [Q4,e1,if_pos rfl,e2,ob,F11 x (ht.name1 e5),ob,w1 (by omega),B1o t d ht R hR r (k+1) _ e3]
  simp only [List.all_cons,Br]
theorem N1u (t:A0)(d:Int)(ht:Ok t)(o:F0):Q7 t d o=Q4 t d ⟨o.nodes,o.depth,o.badForm,o.badName || !na1 t,o.badNumber⟩ 0:=by
 rw [Q7,F11 _ ht.name,ob,Qa,Qa]
 unfold na1
 cases h:t.Kind == 4 <;> simp
theorem O1u (t:A0)(d:Int)(o:F0):P7 t d o=Q7 t d ⟨o.nodes,o.depth,o.badForm,o.badName,o.badNumber || !nm2 t⟩:=by
 rw [P7]
 unfold nm2
 simp only [Fi,Us,ob]
 cases h:t.Kind == 1 <;> cases X1 t.Low (-1048576) 1048576 <;> simp [ob]
theorem C1o (t:A0):Ok t→∀ (d:Int) (o:F0),0≤d→d+t.nodes≤4 * BB→0≤o.nodes→o.nodes+t.nodes≤4 * BB→
  G4 t d o=some (Ae o d t.nodes (t.depth - 1) (t.all D3) (t.all J5) (t.all H9)):=by
 induction t using A0.ind with
 | h t ih=>
 intro ht d o hd hb h3 h4
 have h5:=fun o h3 h4 hd'=>A1o t d hd ht (fun x hx=>ih x hx (ht.kid hx)) t.Of 0 o rfl (fun _ h=>h) (by rw [A0.nodes_eq] at hb; omega) h3 h4 hd'
 have l4:=B1o t d ht _ (fun o=>rfl) t.Names 0
 rw [A0.nodes_eq] at hb h4
 unfold BB at hb h4
 rw [G4]
 simp only [P18,Q18,Fi,Us,ob,O1u,N1u t d ht]
 rw [wr (n:=o.nodes+1) (by omega) (by omega)]
 have fin:∀ b6 u1,fm6 t=b6→nm1 t=u1→
   Q4 t d ⟨o.nodes+1,max o.depth d,(((((o.badForm || !fm1 t) || !fm2 t) || !fm3 t) || !fm4 t) || !fm5 t) || !b6,o.badName || !na1 t,(o.badNumber || !u1) || !nm2 t⟩ 0
    = some (Ae o d t.nodes (t.depth - 1) (t.all D3) (t.all J5) (t.all H9)):=by
  rintro _ _ rfl rfl
  have:=l4 ⟨o.nodes+1,max o.depth d,(((((o.badForm || !fm1 t) || !fm2 t) || !fm3 t) || !fm4 t) || !fm5 t) || !fm6 t,o.badName || !na1 t,(o.badNumber || !nm1 t) || !nm2 t⟩ rfl
  rw [show ((0:Nat):Int)=0 from rfl] at this h5
  rw [this,h5 _ (by simp only; omega) (by simp only; unfold BB; omega) (by simp only; omega)]
  simp only [Ae,A0.all_eq,A0.nodes_eq,A0.depth_eq,D3,J5,H9,Br,Bool.or_assoc,← Bool.not_and]
  simp only [Br,Bool.and_assoc]
  rw [show o.nodes+1+(A0.nodess t.Of:Int)=o.nodes+((A0.nodess t.Of+1:Nat):Int) by omega,show max (max o.depth d) (d+(A0.depths t.Of:Int))=max o.depth (d+((A0.depths t.Of+1 - 1:Nat):Int)) by omega]
 have h2:(t.Kind == 2)=true∨(t.Kind == 2)=false:=by cases t.Kind == 2 <;> simp
 have h3:(t.Kind == 3)=true∨(t.Kind == 3)=false:=by cases t.Kind == 3 <;> simp
 rcases h2 with h2 | h2
 ·rw [if_pos h2]
  exact fin ((t.Of.length:Int) == 1) (X1 t.Size 1 32) (by unfold fm6; rw [h2,cond_true]) (by unfold nm1; rw [h2,cond_true])
 ·rw [if_neg (by rw [h2]; simp)]
  rcases h3 with h3 | h3
  ·rw [if_pos h3]
   exact fin (bif decide ((t.Of.length:Int)≥1) then (t.Of.length:Int) == (t.Names.length:Int) else false) (decide ((t.Of.length:Int)≤32)) (by unfold fm6; rw [h2,h3,cond_false,cond_true]) (by unfold nm1; rw [h2,h3,cond_false,cond_true])
  ·rw [if_neg (by rw [h3]; simp)]
   have:=fin ((t.Of.length:Int) == 0) true (by unfold fm6; rw [h2,h3,cond_false,cond_false]) (by unfold nm1; rw [h2,h3,cond_false,cond_false])
   rw [Bool.not_true,Bool.or_false] at this
   exact this
theorem N15 (t:A0)(ht:Ok t):Yb t=some (G8 t):=by
 have hn:=ht.nodes
 unfold BB at hn
 have hp:1≤t.depth:=by rw [A0.depth_eq]; omega
 unfold Yb
 rw [C1o t ht 1 _ (by omega) (by unfold BB; omega) (by simp) (by simp only; unfold BB; omega),ob,R18,ob]
 unfold Ae G8
 simp only [Bool.false_or]
 rw [show (0:Int)+(t.nodes:Int)=t.nodes by omega,show max 0 ((1:Int)+((t.depth - 1:Nat):Int))=t.depth by omega]
end Go.Proofs.YtdkabnfphmmmnaaGreatDoor

set_option linter.unusedSimpArgs false
namespace Go.Proofs.YtdkabnfphmmmnaaGreatDoor
open Go.Am
theorem R1g (t:A0)(ht:Ok t)(ih:∀ x∈t.Of,N8 x=some (x.nodes:Int)) :
  ∀ (r:List A0) (k:Nat) (n:Nat),t.Of.drop k=r→n+A0.nodess r≤BB→Y9 t (n:Int) k=some ((n+A0.nodess r:Nat):Int)
 | [],k,n,h,hb=>by rw [Y9,(Y0 h).1,if_neg (by simp)]; simp [A0.nodess]
 | x::r,k,n,h,hb=>by
  obtain ⟨e1,e2,e3,e4,e5⟩:=C1 h
  have:=ht.ofs
  simp only [A0.nodess] at hb
  have hb':=hb
  unfold BB at hb'
  rw [Y9,e1,if_pos rfl,e2,ob,ih x e5,ob,wr (n:=(n:Int)+_) (by omega) (by omega),w1 (by omega),show (n:Int)+(x.nodes:Int)=((n+x.nodes:Nat):Int) by omega,R1g t ht ih r (k+1) _ e3 (by omega)]
  simp only [A0.nodess,Nat.add_assoc]
theorem D1o (t:A0):Ok t→N8 t=some (t.nodes:Int):=by
 induction t using A0.ind with
 | h t ih=>
 intro ht
 have hn:=ht.nodes
 rw [A0.nodes_eq] at hn
 rw [N8]
 have:=R1g t ht (fun x hx=>ih x hx (ht.kid hx)) t.Of 0 1 rfl (by omega)
 rw [A0.nodes_eq,Nat.add_comm]
 exact this
theorem S18 (t:A0)(ht:Ok t)(ih:∀ x∈t.Of,O8 x=some (x.depth:Int))(B:Nat)(hB:B≤BB) :
  ∀ (r:List A0) (k:Nat) (n:Nat),t.Of.drop k=r→n≤B→A0.depths r≤B→J7 t (n:Int) k=some ((max n (A0.depths r)+1:Nat):Int)
 | [],k,n,h,hb,_=>by
  rw [J7,(Y0 h).1,if_neg (by simp),w1 (by omega)]
  simp [A0.depths]
 | x::r,k,n,h,hb,hd=>by
  obtain ⟨e1,e2,e3,e4,e5⟩:=C1 h
  have:=ht.ofs
  simp only [A0.depths] at hd
  rw [J7,e1,if_pos rfl,e2,ob,ih x e5,ob,w1 (by omega),S18 t ht ih B hB r (k+1) _ e3 (by omega) (by omega),S18 t ht ih B hB r (k+1) _ e3 (by omega) (by omega)]
  simp only [A0.depths]
  by_cases hx:(x.depth:Int) > (n:Int)
  ·rw [if_pos (decide_eq_true hx),show max n (max x.depth (A0.depths r))=max x.depth (A0.depths r) by omega]
  ·rw [if_neg (by simpa using hx),show max n (max x.depth (A0.depths r))=max n (A0.depths r) by omega]
theorem E1o (t:A0):Ok t→O8 t=some (t.depth:Int):=by
 induction t using A0.ind with
 | h t ih=>
 intro ht
 have hn:=ht.nodes
 have hd:=A0.depth_nodes t
 rw [O8]
 rw [A0.depth_eq] at hd
 have:=S18 t ht (fun x hx=>ih x hx (ht.kid hx)) BB (Nat.le_refl _) t.Of 0 0 rfl (by omega) (by omega)
 rw [A0.depth_eq]
 rw [show max 0 (A0.depths t.Of)=A0.depths t.Of by omega] at this
 exact this
theorem R1j (t:A0)(ht:Ok t)(ih:∀ x∈t.Of,Da x=some (x.all D3)):∀ (r:List A0) (k:Nat),t.Of.drop k=r→Gb t k=some (A0.alls D3 r)
 | [],k,h=>by rw [Gb,(Y0 h).1,if_neg (by simp)]; rfl
 | x::r,k,h=>by
  obtain ⟨e1,e2,e3,e4,e5⟩:=C1 h
  have:=ht.ofs
  rw [Gb,e1,if_pos rfl,e2,ob,ih x e5,ob,w1 (by omega),R1j t ht ih r (k+1) e3,A0.alls]
  cases x.all D3 <;> simp
theorem T1q (t:A0):Ok t→Da t=some (t.all D3):=by
 induction t using A0.ind with
 | h t ih=>
 intro ht
 have h1:=R1j t ht (fun x hx=>ih x hx (ht.kid hx)) t.Of 0 rfl
 rw [show ((0:Nat):Int)=0 from rfl] at h1
 rw [Da,h1,A0.all_eq,R1q]
 show (if L1g t=true then some false else if M1g t=true then some false else if N1g t=true then some false else some (A0.alls D3 t.Of))=_
 cases L1g t <;> cases M1g t <;> cases N1g t <;> simp
theorem V1d (t:A0)(ht:Ok t)(ih:∀ x∈t.Of,T8 x=some (x.all J5)):∀ (r:List A0) (k:Nat),t.Of.drop k=r→L7 t k=some (A0.alls J5 r)
 | [],k,h=>by rw [L7,(Y0 h).1,if_neg (by simp)]; rfl
 | x::r,k,h=>by
  obtain ⟨e1,e2,e3,e4,e5⟩:=C1 h
  have:=ht.ofs
  rw [L7,e1,if_pos rfl,e2,ob,ih x e5,ob,w1 (by omega),V1d t ht ih r (k+1) e3,A0.alls]
  cases x.all J5 <;> simp
theorem W1d (t:A0)(ht:Ok t)(b:Bool)(hb:L7 t 0=some b):∀ (r:List Str) (k:Nat),t.Names.drop k=r→Ga t k=some (r.all T2&&b)
 | [],k,h=>by rw [Ga,(Y0 h).1,if_neg (by simp),hb]; rfl
 | x::r,k,h=>by
  obtain ⟨e1,e2,e3,e4,e5⟩:=C1 h
  have:=ht.names
  rw [Ga,e1,if_pos rfl,e2,ob,We x (ht.name1 e5),ob,w1 (by omega),W1d t ht b hb r (k+1) e3,List.all_cons]
  cases T2 x <;> simp
theorem F1o (t:A0):Ok t→T8 t=some (t.all J5):=by
 induction t using A0.ind with
 | h t ih=>
 intro ht
 have h2:=V1d t ht (fun x hx=>ih x hx (ht.kid hx)) t.Of 0 rfl
 have h1:=W1d t ht _ h2 t.Names 0 rfl
 rw [show ((0:Nat):Int)=0 from rfl] at h1
 rw [T8,h1,A0.all_eq,We t.Name ht.name]
 unfold J5 na1
 cases t.Kind == 4 <;> cases T2 t.Name <;> simp
theorem A1b (t:A0)(ht:Ok t)(ih:∀ x∈t.Of,R6 x=some (x.all fun t=>!Wp t)):∀ (r:List A0) (k:Nat),t.Of.drop k=r→W7 t k=some (A0.alls (fun t=>!Wp t) r)
 | [],k,h=>by rw [W7,(Y0 h).1,if_neg (by simp)]; rfl
 | x::r,k,h=>by
  obtain ⟨e1,e2,e3,e4,e5⟩:=C1 h
  have:=ht.ofs
  rw [W7,e1,if_pos rfl,e2,ob,ih x e5,ob,w1 (by omega),A1b t ht ih r (k+1) e3,A0.alls]
  cases x.all (fun t=>!Wp t) <;> simp
theorem Wv (n:Int):Tc n=some (Xf n):=rfl
theorem U1i (t:A0):Ok t→R6 t=some (t.all fun t=>!Wp t):=by
 induction t using A0.ind with
 | h t ih=>
 intro ht
 have h1:=A1b t ht (fun x hx=>ih x hx (ht.kid hx)) t.Of 0 rfl
 rw [show ((0:Nat):Int)=0 from rfl] at h1
 rw [R6,h1,A0.all_eq]
 simp only [Wv]
 generalize A0.alls (fun t=>!Wp t) t.Of=A
 unfold Wp
 generalize decide ((t.Of.length:Int) > 32)=b1
 generalize (bif t.Kind == 2 then (bif decide (t.Size < 1) then true else decide (t.Size > 32)) else false)=b2
 generalize decide (t.Low > t.High)=b3
 cases t.Kind == 1 <;> cases Xf t.Low <;> cases Xf t.High <;> cases b1 <;> cases b2 <;> cases b3 <;> rfl
theorem V1i (s:R0)(f m u:Bool):Ti s f m u=some (Cc s.nodes s.depth (!f) (!m) (!u)):=by
 unfold Ti Cc
 cases (bif decide (s.nodes > 1024) then true else decide (s.depth > 12)) <;> cases f <;> cases m <;> cases u <;> rfl
end Go.Proofs.YtdkabnfphmmmnaaGreatDoor

set_option linter.unusedSimpArgs false
set_option linter.unusedVariables false
namespace Go.Proofs.YtdkabnfphmmmnaaGreatDoor
open Go.Am
theorem B0.ind {P:B0→Prop}(h:∀ t:B0,(∀ x∈t.Kids,P x)→P t):∀ t,P t:=by
 intro t
 refine B0.rec (motive_1:=P) (motive_2:=fun l=>∀ x∈l,P x) ?_ ?_ ?_ t
 ·intro k l n of ih
  exact h _ ih
 ·intro x hx; cases hx
 ·intro x r hx hr y hy
  cases hy with
  | head=>exact hx
  | tail _ hy=>exact hr y hy
mutual
def B0.depth:B0→Nat
 | .mk _ _ _ of=>B0.depths of+1
def B0.depths:List B0→Nat
 | []=>0
 | t::r=>max (B0.depth t) (B0.depths r)
end
theorem B0.depth_eq (t:B0):t.depth=B0.depths t.Kids+1:=by cases t; simp [B0.depth,B0.Kids]
mutual
def B0.all (p:B0→Bool):B0→Bool
 | .mk k l n of=>p (.mk k l n of)&&B0.alls p of
def B0.alls (p:B0→Bool):List B0→Bool
 | []=>true
 | t::r=>B0.all p t&&B0.alls p r
end
theorem B0.all_eq (p:B0→Bool)(t:B0):t.all p=(p t&&B0.alls p t.Kids):=by cases t; rfl
mutual
def B0.nodes:B0→Nat
 | .mk _ _ _ of=>B0.nodess of+1
def B0.nodess:List B0→Nat
 | []=>0
 | t::r=>B0.nodes t+B0.nodess r
end
theorem B0.nodes_eq (t:B0):t.nodes=B0.nodess t.Kids+1:=by cases t; rfl
mutual
theorem B0.depth_nodes:∀ t:B0,t.depth≤t.nodes
 | .mk _ _ _ of=>by simp only [B0.depth,B0.nodes]; have:=B0.depths_nodess of; omega
theorem B0.depths_nodess:∀ l:List B0,B0.depths l≤B0.nodess l
 | []=>Nat.le_refl _
 | t::r=>by simp only [B0.depths,B0.nodess]; have:=B0.depth_nodes t; have:=B0.depths_nodess r; omega
end
mutual
def B0.bulk:B0→Nat
 | .mk _ _ n ks=>1+(1+((n.length+1)+((B0.bulks ks+1)+0)))+1
def B0.bulks:List B0→Nat
 | []=>0
 | x::r=>B0.bulk x+B0.bulks r
end
theorem B0.bulk_eq (t:B0):t.bulk=t.Name.length+B0.bulks t.Kids+5:=by cases t; simp only [B0.bulk]; omega
theorem B0.bulk_kid {t:B0}:∀ {l:List B0},t∈l→t.bulk≤B0.bulks l
 | x::r,h=>by
  simp only [B0.bulks]
  cases h with
  | head=>omega
  | tail _ h=>have:=B0.bulk_kid h; omega
theorem B0.bulk_len:∀ l:List B0,l.length≤B0.bulks l
 | []=>Nat.le_refl _
 | x::r=>by
  simp only [B0.bulks,List.length_cons]
  have:=B0.bulk_len r
  have:=B0.bulk_eq x
  omega
mutual
theorem B0.nodes_bulk:∀ t:B0,t.nodes≤t.bulk
 | .mk _ _ _ of=>by simp only [B0.nodes,B0.bulk]; have:=B0.nodess_bulk of; omega
theorem B0.nodess_bulk:∀ l:List B0,B0.nodess l≤B0.bulks l
 | []=>Nat.le_refl _
 | x::r=>by simp only [B0.nodess,B0.bulks]; have:=B0.nodes_bulk x; have:=B0.nodess_bulk r; omega
end
def OkE (t:B0):Prop:=t.bulk≤BB
theorem OkE.kid {t x:B0}(h:OkE t)(hx:x∈t.Kids):OkE x:=by
 unfold OkE at *
 have:=B0.bulk_kid hx
 have:=B0.bulk_eq t
 omega
theorem OkE.kids {t:B0}(h:OkE t):t.Kids.length≤BB:=by
 unfold OkE at *
 have:=B0.bulk_len t.Kids
 have:=B0.bulk_eq t
 omega
theorem OkE.name {t:B0}(h:OkE t):t.Name.length≤BB:=by
 unfold OkE at *
 have:=B0.bulk_eq t
 omega
theorem OkE.nodes {t:B0}(h:OkE t):t.nodes≤BB:=Nat.le_trans (B0.nodes_bulk t) h
theorem B0.alls_mem {p:B0→Bool}:∀ {l:List B0} {t:B0},B0.alls p l=true→t∈l→t.all p=true
 | x::r,t,h,hm=>by
  simp only [B0.alls,Bool.and_eq_true] at h
  cases hm with
  | head=>exact h.1
  | tail _ hm=>exact B0.alls_mem h.2 hm
def ar (o:Int):Int:=
 bif (bif (bif (bif (o == 0) then true else (o == 1)) then true else (o == 2)) then true else (o == 3)) then 0
 else bif (bif (bif (o == 4) then true else (o == 6)) then true else (o == 7)) then 1
 else bif (bif (o == 5) then true else (bif (decide (o≥8)) then (decide (o≤22)) else false)) then 2
 else bif (o == 23) then 3 else -1
theorem B1t (o:Int):Un o=some (ar o):=by
 unfold Un ar
 cases (bif (bif (bif (o == 0) then true else (o == 1)) then true else (o == 2)) then true else (o == 3)) <;> cases (bif (bif (o == 4) then true else (o == 6)) then true else (o == 7)) <;>
  cases (bif (o == 5) then true else (bif (decide (o≥8)) then (decide (o≤22)) else false)) <;> cases o == 23 <;> rfl
theorem U1q (o:Int):Qj o=some (ar o):=by
 by_cases h:o=23
 ·subst h; rfl
 have h':(o == 23)=false:=beq_eq_false_iff_ne.2 h
 simp only [Qj,Ra,Zc,ar,h']
 cases o == 0 <;> cases o == 1 <;> cases o == 2 <;> cases o == 3 <;> first | rfl | skip
 cases o == 4 <;> cases o == 6 <;> cases o == 7 <;> first | rfl | skip
 cases o == 5 <;> cases (bif decide (o≥8) then decide (o≤22) else false) <;> rfl
mutual
def B0.place:B0→Bool
 | .mk op _ _ ks=>bif op == 3 then true else bif (bif op == 4 then true else op == 5) then B0.place1 ks else false
def B0.place1:List B0→Bool
 | []=>false
 | x::_=>B0.place x
end
theorem B0.place_eq (e:B0):e.place=(bif e.Op == 3 then true else bif (bif e.Op == 4 then true else e.Op == 5) then B0.place1 e.Kids else false):=by cases e; simp only [B0.place]
theorem b3 {o:Int}(h:(bif o == 4 then true else o == 5)=true):(o == 3)=false:=by
 apply beq_eq_false_iff_ne.2
 rintro rfl
 cases h
theorem X1d (e:B0):Zg e=some e.place:=by
 unfold Zg
 induction e using B0.ind with
 | h e ih=>
 rw [Ad,B0.place_eq]
 cases hb:(bif e.Op == 4 then true else e.Op == 5) with
 | false=>cases e.Op == 3 <;> simp
 | true=>
  rw [b3 hb]
  cases hk:e.Kids with
  | nil=>rfl
  | cons k r=>
   have:=ih k (by rw [hk]; simp)
   have h0:idx (k::r) 0=some k:=rfl
   have h1:(((k::r).length:Int) == 0)=false:=beq_eq_false_iff_ne.2 (by simp only [List.length_cons]; omega)
   simp only [h1,h0,ob,this,cond_true,cond_false,B0.place1]
   simp
theorem Y1d (e:B0):Lb e=some e.place:=by
 induction e using B0.ind with
 | h e ih=>
 rw [Lb,B0.place_eq]
 cases h3:e.Op == 3 with
 | true=>simp
 | false=>
  cases hb:(bif e.Op == 4 then true else e.Op == 5) with
  | false=>simp [ob]
  | true=>
   cases hk:e.Kids with
   | nil=>simp [ob,B0.place1]
   | cons k r=>
    have:=ih k (by rw [hk]; simp)
    have h0:idx (k::r) 0=some k:=rfl
    have h1:decide (((k::r).length:Int) > 0)=true:=decide_eq_true (by simp only [List.length_cons]; omega)
    simp only [h1,h0,ob,cond_true,cond_false,B0.place1]
    simp [ob,this]
def ef1 (e:B0):Bool:=ar e.Op == (e.Kids.length:Int)
def ef2 (e:B0):Bool:=bif e.NV == 0 then true else e.Op == 0
def ef3 (e:B0):Bool:=bif e.Name == [] then true else bif e.Op == 3 then true else e.Op == 4
def ef4 (e:B0):Bool:=bif (bif e.Op == 4 then true else e.Op == 5) then e.place else true
def B2 (e:B0):Bool:=ef1 e&&ef2 e&&ef3 e&&ef4 e
def J4 (e:B0):Bool:=bif (bif e.Op == 3 then true else e.Op == 4) then T2 e.Name else true
def K4 (e:B0):Bool:=bif e.Op == 0 then X1 e.NV 0 1048576 else true
def Xy (e:B0):Int:=Cc e.nodes e.depth (!e.all B2) (!e.all J4) (!e.all K4)
theorem S1j (e:B0)(d:Int)(hd:0≤d)(ht:OkE e)
  (ih:∀ x∈e.Kids,∀ (d:Int) (o:F0),0≤d→d+x.nodes≤4 * BB→0≤o.nodes→o.nodes+x.nodes≤4 * BB→Y2 x d o=some (Ae o d x.nodes (x.depth - 1) (x.all B2) (x.all J4) (x.all K4))) :
  ∀ (r:List B0) (k:Nat) (o:F0),e.Kids.drop k=r→d+1+B0.nodess r≤4 * BB→0≤o.nodes→o.nodes+B0.nodess r≤4 * BB→d≤o.depth→
   F4 e d o k=some (Ae o d (B0.nodess r) (B0.depths r) (B0.alls B2 r) (B0.alls J4 r) (B0.alls K4 r))
 | [],k,o,h,_,_,_,h5=>by
  rw [F4,(Y0 h).1]
  simp only [Ae,B0.nodess,B0.depths,B0.alls,Bool.not_true,Bool.or_false]
  rw [if_neg (by simp),show o.nodes+((0:Nat):Int)=o.nodes by omega,show max o.depth (d+((0:Nat):Int))=o.depth by omega]
 | x::r,k,o,h,hb,h3,h4,h5=>by
  obtain ⟨e1,e2,e3,e4,e5⟩:=C1 h
  simp only [B0.nodess] at hb h4
  have hdp:1≤x.depth:=by rw [B0.depth_eq]; omega
  have hof:=ht.kids
  unfold BB at hb h4 hof
  rw [F4,e1,if_pos rfl,e2,ob,wr (n:=d+1) (by omega) (by omega),ih x e5 (d+1) o (by omega) (by unfold BB; omega) h3 (by unfold BB; omega),ob,w1 (by unfold BB; omega),
   S1j e d hd ht ih r (k+1) _ e3 (by unfold BB; omega) (by simp only [Ae]; omega) (by simp only [Ae]; unfold BB; omega) (by simp only [Ae]; omega)]
  simp only [Ae,B0.nodess,B0.depths,B0.alls,Br]
  rw [show o.nodes+(x.nodes:Int)+(B0.nodess r:Nat)=o.nodes+((x.nodes+B0.nodess r:Nat):Int) by omega,
   show max (max o.depth (d+1+((x.depth - 1:Nat):Int))) (d+(B0.depths r:Nat))=max o.depth (d+((max x.depth (B0.depths r):Nat):Int)) by omega]
theorem V1q (e:B0)(ht:OkE e)(d:Int)(o:F0):T9 e d o=F4 e d ⟨o.nodes,o.depth,o.badForm,o.badName || !J4 e,o.badNumber || !K4 e⟩ 0:=by
 rw [T9,F11 _ ht.name,ob]
 simp only [Bd,Cd,Fi,Us,ob]
 unfold J4 K4
 cases (bif e.Op == 3 then true else e.Op == 4) <;> cases e.Op == 0 <;> simp
theorem S1g (e:B0):OkE e→∀ (d:Int) (o:F0),0≤d→d+e.nodes≤4 * BB→0≤o.nodes→o.nodes+e.nodes≤4 * BB→
  Y2 e d o=some (Ae o d e.nodes (e.depth - 1) (e.all B2) (e.all J4) (e.all K4)):=by
 induction e using B0.ind with
 | h e ih=>
 intro ht d o hd hb h3 h4
 have h5:=fun o h3 h4 hd'=>S1j e d hd ht (fun x hx=>ih x hx (ht.kid hx)) e.Kids 0 o rfl (by rw [B0.nodes_eq] at hb; omega) h3 h4 hd'
 rw [B0.nodes_eq] at hb h4
 unfold BB at hb h4
 rw [Y2]
 simp only [P18,Q18,U1q,X1d,ob,V1q e ht]
 rw [wr (n:=o.nodes+1) (by omega) (by omega)]
 rw [show ((0:Nat):Int)=0 from rfl] at h5
 have fin:∀ f:Bool,ef4 e=f→F4 e d ⟨o.nodes+1,max o.depth d,(((o.badForm || !ef1 e) || !ef2 e) || !ef3 e) || !f,o.badName || !J4 e,o.badNumber || !K4 e⟩ 0=some (Ae o d e.nodes (e.depth - 1) (e.all B2) (e.all J4) (e.all K4)):=by
  rintro _ rfl
  rw [h5 _ (by simp only; omega) (by simp only; unfold BB; omega) (by simp only; omega)]
  simp only [Ae,B0.all_eq,B0.nodes_eq,B0.depth_eq,B2,Br,Bool.or_assoc,← Bool.not_and]
  simp only [Br,Bool.and_assoc]
  rw [show o.nodes+1+(B0.nodess e.Kids:Int)=o.nodes+((B0.nodess e.Kids+1:Nat):Int) by omega,show max (max o.depth d) (d+(B0.depths e.Kids:Int))=max o.depth (d+((B0.depths e.Kids+1 - 1:Nat):Int)) by omega]
 cases hb:(bif e.Op == 4 then true else e.Op == 5) with
 | true=>
  rw [if_pos rfl]
  exact fin e.place (by unfold ef4; rw [hb]; rfl)
 | false=>
  rw [if_neg (by simp)]
  have:=fin true (by unfold ef4; rw [hb]; rfl)
  rw [Bool.not_true,Bool.or_false] at this
  exact this
theorem T1g (e:B0)(ht:OkE e):Ue e=some (Xy e):=by
 have hn:=ht.nodes
 unfold BB at hn
 have hp:1≤e.depth:=by rw [B0.depth_eq]; omega
 unfold Ue
 rw [S1g e ht 1 _ (by omega) (by unfold BB; omega) (by simp) (by simp only; unfold BB; omega),ob,R18,ob]
 unfold Ae Xy
 simp only [Bool.false_or]
 rw [show (0:Int)+(e.nodes:Int)=e.nodes by omega,show max 0 ((1:Int)+((e.depth - 1:Nat):Int))=e.depth by omega]
end Go.Proofs.YtdkabnfphmmmnaaGreatDoor

set_option linter.unusedSimpArgs false
set_option linter.unusedVariables false
namespace Go.Proofs.YtdkabnfphmmmnaaGreatDoor
open Go.Am
theorem Z1d (t:B0)(ht:OkE t)(ih:∀ x∈t.Kids,Q8 x=some (x.nodes:Int)) :
  ∀ (r:List B0) (k:Nat) (n:Nat),t.Kids.drop k=r→n+B0.nodess r≤BB→Ba t (n:Int) k=some ((n+B0.nodess r:Nat):Int)
 | [],k,n,h,hb=>by rw [Ba,(Y0 h).1,if_neg (by simp)]; simp [B0.nodess]
 | x::r,k,n,h,hb=>by
  obtain ⟨e1,e2,e3,e4,e5⟩:=C1 h
  have:=ht.kids
  simp only [B0.nodess] at hb
  have hb':=hb
  unfold BB at hb'
  rw [Ba,e1,if_pos rfl,e2,ob,ih x e5,ob,wr (n:=(n:Int)+_) (by omega) (by omega),w1 (by omega),show (n:Int)+(x.nodes:Int)=((n+x.nodes:Nat):Int) by omega,Z1d t ht ih r (k+1) _ e3 (by omega)]
  simp only [B0.nodess,Nat.add_assoc]
theorem T1l (t:B0):OkE t→Q8 t=some (t.nodes:Int):=by
 induction t using B0.ind with
 | h t ih=>
 intro ht
 have hn:=ht.nodes
 rw [B0.nodes_eq] at hn
 rw [Q8]
 have:=Z1d t ht (fun x hx=>ih x hx (ht.kid hx)) t.Kids 0 1 rfl (by omega)
 rw [B0.nodes_eq,Nat.add_comm]
 exact this
theorem O15 (t:B0)(ht:OkE t)(ih:∀ x∈t.Kids,R8 x=some (x.depth:Int))(B:Nat)(hB:B≤BB) :
  ∀ (r:List B0) (k:Nat) (n:Nat),t.Kids.drop k=r→n≤B→B0.depths r≤B→K7 t (n:Int) k=some ((max n (B0.depths r)+1:Nat):Int)
 | [],k,n,h,hb,_=>by
  rw [K7,(Y0 h).1,if_neg (by simp),w1 (by omega)]
  simp [B0.depths]
 | x::r,k,n,h,hb,hd=>by
  obtain ⟨e1,e2,e3,e4,e5⟩:=C1 h
  have:=ht.kids
  simp only [B0.depths] at hd
  rw [K7,e1,if_pos rfl,e2,ob,ih x e5,ob,w1 (by omega),O15 t ht ih B hB r (k+1) _ e3 (by omega) (by omega),O15 t ht ih B hB r (k+1) _ e3 (by omega) (by omega)]
  simp only [B0.depths]
  by_cases hx:(x.depth:Int) > (n:Int)
  ·rw [if_pos (decide_eq_true hx),show max n (max x.depth (B0.depths r))=max x.depth (B0.depths r) by omega]
  ·rw [if_neg (by simpa using hx),show max n (max x.depth (B0.depths r))=max n (B0.depths r) by omega]
theorem U1l (t:B0):OkE t→R8 t=some (t.depth:Int):=by
 induction t using B0.ind with
 | h t ih=>
 intro ht
 have hn:=ht.nodes
 have hd:=B0.depth_nodes t
 rw [R8]
 rw [B0.depth_eq] at hd
 have:=O15 t ht (fun x hx=>ih x hx (ht.kid hx)) BB (Nat.le_refl _) t.Kids 0 0 rfl (by omega) (by omega)
 rw [B0.depth_eq]
 rw [show max 0 (B0.depths t.Kids)=B0.depths t.Kids by omega] at this
 exact this
theorem Cr (n:Int)(d:Int)(m:Int):O6 ⟨n,d⟩ m=some ⟨n,max d m⟩:=by
 unfold O6
 by_cases h:m > d
 ·rw [if_pos (decide_eq_true h),show max d m=m by omega]
 ·rw [if_neg (by simpa using h),show max d m=d by omega]
theorem U1g (e:B0)(ht:OkE e)(ih:∀ x∈e.Kids,O4 x=some (x.all B2)):∀ (r:List B0) (k:Nat),e.Kids.drop k=r→Hb e k=some (B0.alls B2 r)
 | [],k,h=>by rw [Hb,(Y0 h).1,if_neg (by simp)]; rfl
 | x::r,k,h=>by
  obtain ⟨e1,e2,e3,e4,e5⟩:=C1 h
  have:=ht.kids
  rw [Hb,e1,if_pos rfl,e2,ob,ih x e5,ob,w1 (by omega),U1g e ht ih r (k+1) e3,B0.alls]
  cases x.all B2 <;> simp
theorem Xv (e:B0):OkE e→O4 e=some (e.all B2):=by
 induction e using B0.ind with
 | h e ih=>
 intro ht
 have h1:=U1g e ht (fun x hx=>ih x hx (ht.kid hx)) e.Kids 0 rfl
 rw [show ((0:Nat):Int)=0 from rfl] at h1
 rw [O4,h1,B0.all_eq,Y1d,B1t,ob]
 generalize B0.alls B2 e.Kids=A
 have hb:(bif (bif (ar e.Op != (e.Kids.length:Int)) then true else (bif (e.Op != 0) then (e.NV != 0) else false)) then true else (bif (bif (e.Op != 3) then (e.Op != 4) else false) then (!(e.Name == [])) else false)) = !(ef1 e&&ef2 e&&ef3 e):=by
  unfold ef1 ef2 ef3
  simp only [bne]
  cases ar e.Op == (e.Kids.length:Int) <;> cases e.NV == 0 <;> cases e.Op == 0 <;> cases e.Name == [] <;> cases e.Op == 3 <;> cases e.Op == 4 <;> rfl
 rw [hb]
 unfold B2 ef4
 cases (ef1 e&&ef2 e&&ef3 e) <;> cases (bif e.Op == 4 then true else e.Op == 5) <;> cases e.place <;> simp [ob]
theorem A1e (e:B0)(ht:OkE e)(ih:∀ x∈e.Kids,B4 x=some (x.all J4)):∀ (r:List B0) (k:Nat),e.Kids.drop k=r→Ha e k=some (B0.alls J4 r)
 | [],k,h=>by rw [Ha,(Y0 h).1,if_neg (by simp)]; rfl
 | x::r,k,h=>by
  obtain ⟨e1,e2,e3,e4,e5⟩:=C1 h
  have:=ht.kids
  rw [Ha,e1,if_pos rfl,e2,ob,ih x e5,ob,w1 (by omega),A1e e ht ih r (k+1) e3,B0.alls]
  cases x.all J4 <;> simp
theorem Vs (e:B0):OkE e→B4 e=some (e.all J4):=by
 induction e using B0.ind with
 | h e ih=>
 intro ht
 have h1:=A1e e ht (fun x hx=>ih x hx (ht.kid hx)) e.Kids 0 rfl
 rw [show ((0:Nat):Int)=0 from rfl] at h1
 rw [B4,h1,B0.all_eq,We e.Name ht.name]
 generalize B0.alls J4 e.Kids=A
 unfold J4
 cases (bif e.Op == 3 then true else e.Op == 4) <;> cases T2 e.Name <;> simp [ob]
theorem O17 (e:B0)(ht:OkE e)(ih:∀ x∈e.Kids,I3 x=some (x.all K4)):∀ (r:List B0) (k:Nat),e.Kids.drop k=r→X7 e k=some (B0.alls K4 r)
 | [],k,h=>by rw [X7,(Y0 h).1,if_neg (by simp)]; rfl
 | x::r,k,h=>by
  obtain ⟨e1,e2,e3,e4,e5⟩:=C1 h
  have:=ht.kids
  rw [X7,e1,if_pos rfl,e2,ob,ih x e5,ob,w1 (by omega),O17 e ht ih r (k+1) e3,B0.alls]
  cases x.all K4 <;> simp
theorem Bo (e:B0):OkE e→I3 e=some (e.all K4):=by
 induction e using B0.ind with
 | h e ih=>
 intro ht
 have h1:=O17 e ht (fun x hx=>ih x hx (ht.kid hx)) e.Kids 0 rfl
 rw [show ((0:Nat):Int)=0 from rfl] at h1
 rw [I3,h1,B0.all_eq]
 have:K4 e = !(bif (e.Op == 0) then (bif (decide (e.NV < 0)) then true else (decide (e.NV > 1048576))) else false):=by
  unfold K4 X1
  rw [D11,E11]
  cases e.Op == 0 <;> cases decide (e.NV≥0) <;> cases decide (e.NV≤1048576) <;> rfl
 rw [this]
 cases (bif (e.Op == 0) then (bif (decide (e.NV < 0)) then true else (decide (e.NV > 1048576))) else false) <;> simp
theorem T1j (e:B0)(ht:OkE e)(ih:∀ x∈e.Kids,∀ n,∃ m,F5 x n=some m):∀ (r:List B0) (k:Nat) (n:Int),e.Kids.drop k=r→∃ m,Db e n k=some m
 | [],k,n,h=>by rw [Db,(Y0 h).1]; exact ⟨_,rfl⟩
 | x::r,k,n,h=>by
  obtain ⟨e1,e2,e3,e4,e5⟩:=C1 h
  have:=ht.kids
  rw [Db,e1,e2]
  cases decide (n≥0) with
  | false=>exact ⟨_,rfl⟩
  | true=>
   obtain ⟨m,hm⟩:=ih x e5 n
   rw [cond_true,if_pos rfl,ob,hm,ob,w1 (by omega)]
   exact T1j e ht ih r (k+1) m e3
theorem Ws (e:B0):OkE e→∀ n,∃ m,F5 e n=some m:=by
 induction e using B0.ind with
 | h e ih=>
 intro ht n
 rw [F5]
 exact T1j e ht (fun x hx=>ih x hx (ht.kid hx)) e.Kids 0 _ rfl
theorem T18 (t:A0)(ht:Ok t)(ih:∀ x∈t.Of,∀ n,∃ m,U7 x n=some m):∀ (r:List A0) (k:Nat) (n:Int),t.Of.drop k=r→∃ m,Cb t n k=some m
 | [],k,n,h=>by rw [Cb,(Y0 h).1]; exact ⟨_,rfl⟩
 | x::r,k,n,h=>by
  obtain ⟨e1,e2,e3,e4,e5⟩:=C1 h
  have:=ht.ofs
  rw [Cb,e1,e2]
  cases decide (n≥0) with
  | false=>exact ⟨_,rfl⟩
  | true=>
   obtain ⟨m,hm⟩:=ih x e5 n
   rw [cond_true,if_pos rfl,ob,hm,ob,w1 (by omega)]
   exact T18 t ht ih r (k+1) m e3
theorem V1g (t:A0)(ht:Ok t)(ih:∀ x∈t.Of,∀ n,∃ m,U7 x n=some m):∀ (r:List Str) (k:Nat) (n:Int),t.Names.drop k=r→∃ m,Bb t n k=some m
 | [],k,n,h=>by rw [Bb,(Y0 h).1]; exact T18 t ht ih t.Of 0 n rfl
 | x::r,k,n,h=>by
  obtain ⟨e1,e2,e3,e4,e5⟩:=C1 h
  have:=ht.names
  rw [Bb,e1,e2]
  cases decide (n≥0) with
  | false=>exact T18 t ht ih t.Of 0 n rfl
  | true=>
   rw [cond_true,if_pos rfl,ob,w1 (by omega)]
   exact V1g t ht ih r (k+1) _ e3
theorem V1l (t:A0):Ok t→∀ n,∃ m,U7 t n=some m:=by
 induction t using A0.ind with
 | h t ih=>
 intro ht n
 rw [U7]
 exact V1g t ht (fun x hx=>ih x hx (ht.kid hx)) t.Names 0 _ rfl
end Go.Proofs.YtdkabnfphmmmnaaGreatDoor

set_option linter.unusedSimpArgs false
set_option linter.unusedVariables false
namespace Go.Proofs.YtdkabnfphmmmnaaGreatDoor
open Go.Am
end Go.Proofs.YtdkabnfphmmmnaaGreatDoor

set_option linter.unusedSimpArgs false
set_option linter.unusedVariables false
namespace Go.Proofs.YtdkabnfphmmmnaaGreatDoor
open Go.Am
end Go.Proofs.YtdkabnfphmmmnaaGreatDoor

set_option linter.unusedSimpArgs false
set_option linter.unusedVariables false
set_option maxHeartbeats 800000
namespace Go.Proofs.YtdkabnfphmmmnaaGreatDoor
open Go.Am
end Go.Proofs.YtdkabnfphmmmnaaGreatDoor

set_option linter.unusedSimpArgs false
set_option linter.unusedVariables false
namespace Go.Proofs.YtdkabnfphmmmnaaGreatDoor
open Go.Am
theorem P16 {α:Type}{l:List α}{k:Nat}(h:k < l.length):∃ y,idx l (k:Int)=some y∧l.drop k=y::l.drop (k+1)∧y∈l:=by
 refine ⟨l[k],?_,List.drop_eq_getElem_cons h,List.getElem_mem h⟩
 unfold idx
 rw [if_pos (by omega)]
 simp [h]
theorem z0:(0:Int)=((0:Nat):Int):=rfl
theorem B1e (t u:A0)(ht:Ok t)(hl:t.Of.length=u.Of.length)(ih:∀ x∈t.Of,∀ y,M8 x y=some (x.same y)) :
  ∀ (r:List A0) (k:Nat),t.Of.drop k=r→I7 t u k=some (eqL A0.same r (u.Of.drop k))
 | [],k,h=>by
  rw [I7,(Y0 h).1,if_neg (by simp),List.drop_eq_nil_of_le (by have:=(Y0 h).2; omega)]; rfl
 | x::r,k,h=>by
  obtain ⟨e1,e2,e3,e4,e5⟩:=C1 h
  obtain ⟨y,f1,f2,f3⟩:=P16 (l:=u.Of) (k:=k) (by omega)
  have:=ht.ofs
  rw [I7,e1,if_pos rfl,e2,ob,f1,ob,ih x e5 y,ob,w1 (by omega),B1e t u ht hl ih r (k+1) e3,f2,eqL]
  cases x.same y <;> simp
theorem C1e (t u:A0)(ht:Ok t)(hl:t.Names.length=u.Names.length)(b:Bool)(hb:I7 t u 0=some b) :
  ∀ (r:List Str) (k:Nat),t.Names.drop k=r→X9 t u k=some (eqL (fun x y=>x == y) r (u.Names.drop k)&&b)
 | [],k,h=>by
  rw [X9,(Y0 h).1,if_neg (by simp),List.drop_eq_nil_of_le (by have:=(Y0 h).2; omega),hb]; rfl
 | x::r,k,h=>by
  obtain ⟨e1,e2,e3,e4,e5⟩:=C1 h
  obtain ⟨y,f1,f2,f3⟩:=P16 (l:=u.Names) (k:=k) (by omega)
  have:=ht.names
  rw [X9,e1,if_pos rfl,e2,ob,f1,ob,w1 (by omega),C1e t u ht hl b hb r (k+1) e3,f2,eqL]
  cases x == y <;> simp
theorem G1o (t:A0):Ok t→∀ u,M8 t u=some (t.same u):=by
 induction t using A0.ind with
 | h t ih=>
 intro ht u
 have ih':=fun x hx=>ih x hx (ht.kid hx)
 rw [M8]
 show (if O1c t u=true then _ else _)=_
 cases hd:O1c t u with
 | true=>rw [if_pos rfl,Z1n hd]
 | false=>
  obtain ⟨h1,h2,h3⟩:=S1q hd
  have h4:=B1e t u ht h3 ih' t.Of 0 rfl
  have h5:=C1e t u ht h2 _ h4 t.Names 0 rfl
  rw [if_neg (by simp),z0,h5,h1]
  rfl
theorem W1g (s u:List Str)(hs:s.length≤BB)(hl:s.length=u.length):∀ (r:List Str) (k:Nat),s.drop k=r→K1 s u k=some (eqL (fun x y=>x == y) r (u.drop k))
 | [],k,h=>by
  rw [K1,(Y0 h).1,if_neg (by simp),List.drop_eq_nil_of_le (by have:=(Y0 h).2; omega)]; rfl
 | x::r,k,h=>by
  obtain ⟨e1,e2,e3,e4,e5⟩:=C1 h
  obtain ⟨y,f1,f2,f3⟩:=P16 (l:=u) (k:=k) (by omega)
  rw [K1,e1,if_pos rfl,e2,ob,f1,ob,w1 (by omega),W1g s u hs hl r (k+1) e3,f2,eqL]
  cases x == y <;> simp
theorem H1o (s u:List Str)(hs:s.length≤BB):X2 s u=some (eqL (fun x y=>x == y) s u):=by
 unfold X2
 by_cases hl:s.length=u.length
 ·rw [if_neg (by simp; omega),z0,W1g s u hs hl s 0 rfl]; rfl
 ·rw [if_pos (by simp; omega),Uk _ hl]
theorem X1g (s u:List A0)(hs:s.length≤BB)(hl:s.length=u.length)(ih:∀ x∈s,∀ y,D7 x y=some (x.same y)) :
  ∀ (r:List A0) (k:Nat),s.drop k=r→F1 s u k=some (eqL A0.same r (u.drop k))
 | [],k,h=>by
  rw [F1,(Y0 h).1,if_neg (by simp),List.drop_eq_nil_of_le (by have:=(Y0 h).2; omega)]; rfl
 | x::r,k,h=>by
  obtain ⟨e1,e2,e3,e4,e5⟩:=C1 h
  obtain ⟨y,f1,f2,f3⟩:=P16 (l:=u) (k:=k) (by omega)
  rw [F1,e1,if_pos rfl,e2,ob,f1,ob,ih x e5 y,ob,w1 (by omega),X1g s u hs hl ih r (k+1) e3,f2,eqL]
  cases x.same y <;> simp
theorem W1l (t:A0):Ok t→∀ u,D7 t u=some (t.same u):=by
 induction t using A0.ind with
 | h t ih=>
 intro ht u
 have ih':=fun x hx=>ih x hx (ht.kid hx)
 have hO:N2 t.Of u.Of=some (eqL A0.same t.Of u.Of):=by
  rw [N2]
  by_cases hl:t.Of.length=u.Of.length
  ·rw [if_neg (by simp; omega),z0,X1g t.Of u.Of ht.ofs hl ih' t.Of 0 rfl]; rfl
  ·rw [if_pos (by simp; omega),Uk _ hl]
 rw [D7,hO,H1o _ _ ht.names,A0.same_eq]
 generalize eqL A0.same t.Of u.Of=a
 generalize eqL (fun x y=>x == y) t.Names u.Names=b
 cases t.Kind == u.Kind <;> cases t.Low == u.Low <;> cases t.High == u.High <;> cases t.Size == u.Size <;> cases t.Name == u.Name <;> cases b <;> cases a <;> rfl
mutual
def B0.same:B0→B0→Bool
 | .mk o n nm ks,t=>o == t.Op&&n == t.NV&&nm == t.Name&&B0.sames ks t.Kids
def B0.sames:List B0→List B0→Bool
 | [],[]=>true
 | x::r,y::s=>B0.same x y&&B0.sames r s
 | [],_::_=>false
 | _::_,[]=>false
end
theorem B0.sames_eq:∀ l m:List B0,B0.sames l m=eqL B0.same l m
 | [],[]=>rfl
 | x::r,y::s=>by simp only [B0.sames,eqL,B0.sames_eq r s]
 | [],_::_=>rfl
 | _::_,[]=>rfl
theorem B0.same_eq (t u:B0):t.same u=(t.Op == u.Op&&t.NV == u.NV&&t.Name == u.Name&&eqL B0.same t.Kids u.Kids):=by
 rw [← B0.sames_eq]
 cases t
 rfl
theorem I1o (s u:List B0)(hs:s.length≤BB)(hl:s.length=u.length)(ih:∀ x∈s,∀ y,U5 x y=some (x.same y)) :
  ∀ (r:List B0) (k:Nat),s.drop k=r→G1 s u k=some (eqL B0.same r (u.drop k))
 | [],k,h=>by
  rw [G1,(Y0 h).1,if_neg (by simp),List.drop_eq_nil_of_le (by have:=(Y0 h).2; omega)]; rfl
 | x::r,k,h=>by
  obtain ⟨e1,e2,e3,e4,e5⟩:=C1 h
  obtain ⟨y,f1,f2,f3⟩:=P16 (l:=u) (k:=k) (by omega)
  rw [G1,e1,if_pos rfl,e2,ob,f1,ob,ih x e5 y,ob,w1 (by omega),I1o s u hs hl ih r (k+1) e3,f2,eqL]
  cases x.same y <;> simp
theorem W1q (s u:List B0)(hs:s.length≤BB)(ih:∀ x∈s,∀ y,U5 x y=some (x.same y)):O2 s u=some (eqL B0.same s u):=by
 rw [O2]
 by_cases hl:s.length=u.length
 ·rw [if_neg (by simp; omega),z0,I1o s u hs hl ih s 0 rfl]; rfl
 ·rw [if_pos (by simp; omega),Uk _ hl]
theorem X1l (t:B0):OkE t→∀ u,U5 t u=some (t.same u):=by
 induction t using B0.ind with
 | h t ih=>
 intro ht u
 rw [U5,W1q t.Kids u.Kids ht.kids (fun x hx=>ih x hx (ht.kid hx)),B0.same_eq]
 generalize eqL B0.same t.Kids u.Kids=a
 cases t.Op == u.Op <;> cases t.NV == u.NV <;> cases t.Name == u.Name <;> cases a <;> rfl
theorem J1o (t u:B0)(ht:OkE t)(hl:t.Kids.length=u.Kids.length)(ih:∀ x∈t.Kids,∀ y,P8 x y=some (x.same y)) :
  ∀ (r:List B0) (k:Nat),t.Kids.drop k=r→Z9 t u k=some (eqL B0.same r (u.Kids.drop k))
 | [],k,h=>by
  rw [Z9,(Y0 h).1,if_neg (by simp),List.drop_eq_nil_of_le (by have:=(Y0 h).2; omega)]; rfl
 | x::r,k,h=>by
  obtain ⟨e1,e2,e3,e4,e5⟩:=C1 h
  obtain ⟨y,f1,f2,f3⟩:=P16 (l:=u.Kids) (k:=k) (by omega)
  have:=ht.kids
  rw [Z9,e1,if_pos rfl,e2,ob,f1,ob,ih x e5 y,ob,w1 (by omega),J1o t u ht hl ih r (k+1) e3,f2,eqL]
  cases x.same y <;> simp
theorem Y1l (t:B0):OkE t→∀ u,P8 t u=some (t.same u):=by
 induction t using B0.ind with
 | h t ih=>
 intro ht u
 have ih':=fun x hx=>ih x hx (ht.kid hx)
 rw [P8,B0.same_eq]
 by_cases hl:t.Kids.length=u.Kids.length
 ·have h4:=J1o t u ht hl ih' t.Kids 0 rfl
  have hb:(bif (bif (bif (t.Op != u.Op) then true else (t.NV != u.NV)) then true else (!(t.Name == u.Name))) then true else ((t.Kids.length:Int) != (u.Kids.length:Int))) = !(t.Op == u.Op&&t.NV == u.NV&&t.Name == u.Name):=by
   have:((t.Kids.length:Int) != (u.Kids.length:Int))=false:=by simp; omega
   rw [this]
   unfold bne
   cases t.Op == u.Op <;> cases t.NV == u.NV <;> cases t.Name == u.Name <;> rfl
  rw [hb,z0,h4]
  cases (t.Op == u.Op&&t.NV == u.NV&&t.Name == u.Name) <;> simp
 ·have:((t.Kids.length:Int) != (u.Kids.length:Int))=true:=by simp; omega
  rw [this,Uk _ hl,Bool.and_false]
  generalize (bif (bif (t.Op != u.Op) then true else (t.NV != u.NV)) then true else (!(t.Name == u.Name)))=b
  cases b <;> rfl
def Id (e:B0):Bool:=e.same ⟨0,0,[],[]⟩
def Vk (t:A0):Bool:=t.same ⟨0,0,0,0,[],[],[]⟩
theorem Yv (e:B0)(h:OkE e):Aa e=some (Id e):=by unfold Aa; rw [Y1l e h]; rfl
theorem K1o (t:A0)(h:Ok t):Ih t=some (Vk t):=by unfold Ih; rw [G1o t h]; rfl
theorem U18 {e:B0}(h:Id e=true):e=⟨0,0,[],[]⟩:=by
 unfold Id at h
 rw [B0.same_eq] at h
 obtain ⟨o,n,nm,ks⟩:=e
 simp only [Bool.and_eq_true,beq_iff_eq] at h
 obtain ⟨⟨⟨rfl,rfl⟩,rfl⟩,h4⟩:=h
 cases ks with
 | nil=>rfl
 | cons x r=>cases h4
theorem X1q {t:A0}(h:Vk t=true):t=⟨0,0,0,0,[],[],[]⟩:=by
 unfold Vk at h
 rw [A0.same_eq] at h
 obtain ⟨a,b,c,d,nm,ns,ks⟩:=t
 simp only [Bool.and_eq_true,beq_iff_eq] at h
 obtain ⟨⟨⟨⟨⟨⟨rfl,rfl⟩,rfl⟩,rfl⟩,rfl⟩,h5⟩,h4⟩:=h
 cases ks with
 | nil=>
  cases ns with
  | nil=>rfl
  | cons x r=>cases h5
 | cons x r=>cases h4
end Go.Proofs.YtdkabnfphmmmnaaGreatDoor

namespace Go.Proofs.YtdkabnfphmmmnaaGreatDoor
open Go.Am
mutual
def C0.bulk:C0→Nat
 | .mk y0 y1 y2 y3 y4 y5 y6 y7 y8 y9 y10=>1+(B0.bulk y1+(B0.bulk y2+((y3.length+1)+((B0.bulks y4+1)+(1+(1+(1+(((y8.map fun _=>1).sum+1)+((C0.bulks y9+1)+((C0.bulks y10+1)+(0)))))))))))+1
def C0.bulks:List C0→Nat
 | []=>0
 | x::r=>C0.bulk x+C0.bulks r
end
mutual
def D0.bulk:D0→Nat
 | .mk y0 y1 y2 y3 y4 y5 y6 y7=>1+((y1.length+1)+(A0.bulk y2+(1+(B0.bulk y4+((D0.bulks y5+1)+((D0.bulks y6+1)+((C0.bulks y7+1)+(0))))))))+1
def D0.bulks:List D0→Nat
 | []=>0
 | x::r=>D0.bulk x+D0.bulks r
end
mutual
def O0.bulk:O0→Nat
 | .mk y0 y1=>(D0.bulks y0+1)+((C0.bulks y1+1)+(0))+1
def O0.bulks:List O0→Nat
 | []=>0
 | x::r=>O0.bulk x+O0.bulks r
end
end Go.Proofs.YtdkabnfphmmmnaaGreatDoor

set_option linter.unusedSimpArgs false
set_option linter.unusedVariables false
set_option maxHeartbeats 1000000
namespace Go.Proofs.YtdkabnfphmmmnaaGreatDoor
open Go.Am
def uPl (v:Int):Bool:=bif (bif (v == 0) then true else (v == 1)) then true else (v == 2)
def uVa (v:Int):Bool:=bif (bif (bif (v == 0) then true else (v == 3)) then true else (v == 5)) then true else (v == 6)
def uNm (v:Int):Bool:=bif (bif (v == 1) then true else (v == 2)) then true else (v == 7)
def uNn (v:Int):Bool:=bif (v == 4) then true else (v == 6)
def uTh (v:Int):Bool:=bif (bif (v == 5) then true else (v == 6)) then true else (v == 7)
def okV (v:Int):Bool:=!(bif decide (v < 0) then true else decide (v > 8))
def stU (v:Int):Z1×Bool:=(⟨uPl v,uVa v,uNm v,v == 1,uNn v,v == 7,v == 8,uTh v,v == 5⟩,okV v)
theorem Y1g (v:Int):Se v=some (stU v):=by
 have h:(v < 0∨8 < v)∨v=0∨v=1∨v=2∨v=3∨v=4∨v=5∨v=6∨v=7∨v=8:=by omega
 rcases h with h | rfl | rfl | rfl | rfl | rfl | rfl | rfl | rfl | rfl
 ·have f:∀ k:Int,0≤k∧k≤8→(v == k)=false:=fun k hk=>beq_eq_false_iff_ne.2 (by omega)
  have hv:okV v=false:=by
   unfold okV
   rcases h with h | h
   ·rw [decide_eq_true h]; rfl
   ·rw [decide_eq_true (show v > 8 from h)]; cases decide (v < 0) <;> rfl
  unfold Se stU uPl uVa uNm uNn uTh
  rw [hv]
  simp only [f 0 (by decide),f 1 (by decide),f 2 (by decide),f 3 (by decide),f 4 (by decide),f 5 (by decide),f 6 (by decide),f 7 (by decide),f 8 (by decide)]
  rfl
 all_goals rfl
def oN (e:B0)(u:Bool):Nat:=bif (bif !u then Id e else false) then 0 else e.nodes
def oD (e:B0)(u:Bool):Nat:=bif (bif !u then Id e else false) then 0 else e.depth
def oF (e:B0)(u:Bool):Bool:=bif u then e.all B2 else Id e
theorem Z1l (e:B0)(u:Bool):oN e u≤e.bulk:=by
 unfold oN
 have:=B0.nodes_bulk e
 cases (bif !u then Id e else false) <;> simp <;> omega
def Co:Int→List Int→Bool
 | _,[]=>true
 | l,n::r=>(bif X1 n 0 1048576 then decide (n > l) else false)&&Co n r
def Lh (s:C0):Bool:=
 bif s.Verb == 4 then X1 s.NV 0 1048576 else bif s.Verb == 6 then X1 s.NV 0 4096
 else bif s.Verb == 7 then (bif (bif X1 s.Low (-1048576) 1048576 then X1 s.High s.Low 1048576 else false) then decide (s.High - s.Low < 4096) else false)
 else bif s.Verb == 8 then X1 (s.Numbers.length:Int) 1 32&&Co (-1) s.Numbers else true
def sform (s:C0):Bool:=
 okV s.Verb&&oF s.Place (uPl s.Verb)&&(bif uPl s.Verb then s.Place.place else true)&&oF s.Value (uVa s.Verb)&&(bif uNm s.Verb then true else s.Name == [])&&(bif s.Verb == 1 then true else ((s.Args.length:Int) == 0))&&B0.alls B2 s.Args
 && (bif uNn s.Verb then true else s.NV == 0)&&(bif s.Verb == 7 then true else (bif s.Low == 0 then s.High == 0 else false))&&(bif s.Verb == 8 then true else ((s.Numbers.length:Int) == 0))
 && (bif uTh s.Verb then true else ((s.Then.length:Int) == 0))&&(bif s.Verb == 5 then true else ((s.Else.length:Int) == 0))
def N9 (s:C0):Bool:=s.Place.all J4&&s.Value.all J4&&(bif uNm s.Verb then T2 s.Name else true)&&B0.alls J4 s.Args
def snumb (s:C0):Bool:=s.Place.all K4&&s.Value.all K4&&B0.alls K4 s.Args&&Lh s
mutual
def C0.nds:C0→Nat
 | .mk v pl va nm ar n lo hi ns th el=>1+(oN pl (uPl v)+(oN va (uVa v)+(B0.nodess ar+(C0.ndss th+C0.ndss el))))
def C0.ndss:List C0→Nat
 | []=>0
 | x::r=>C0.nds x+C0.ndss r
end
mutual
def C0.dps:C0→Nat→Nat
 | .mk v pl va nm ar n lo hi ns th el,d=>max d (max (oD pl (uPl v)) (max (oD va (uVa v)) (max (B0.depths ar) (max (C0.dpss th (d+1)) (C0.dpss el (d+1))))))
def C0.dpss:List C0→Nat→Nat
 | [],_=>0
 | x::r,d=>max (C0.dps x d) (C0.dpss r d)
end
mutual
def C0.all (p:C0→Bool):C0→Bool
 | .mk v pl va nm ar n lo hi ns th el=>p (.mk v pl va nm ar n lo hi ns th el)&&(C0.alls p th&&C0.alls p el)
def C0.alls (p:C0→Bool):List C0→Bool
 | []=>true
 | x::r=>C0.all p x&&C0.alls p r
end
theorem C0.nds_eq (s:C0):s.nds=1+(oN s.Place (uPl s.Verb)+(oN s.Value (uVa s.Verb)+(B0.nodess s.Args+(C0.ndss s.Then+C0.ndss s.Else)))):=by cases s; simp only [C0.nds]
theorem C0.dps_eq (s:C0)(d:Nat):s.dps d=max d (max (oD s.Place (uPl s.Verb)) (max (oD s.Value (uVa s.Verb)) (max (B0.depths s.Args) (max (C0.dpss s.Then (d+1)) (C0.dpss s.Else (d+1)))))):=by cases s; simp only [C0.dps]
theorem C0.all_eq (p:C0→Bool)(s:C0):s.all p=(p s&&(C0.alls p s.Then&&C0.alls p s.Else)):=by cases s; simp only [C0.all]
theorem C0.ind {P:C0→Prop}(h:∀ s:C0,(∀ x∈s.Then,P x)→(∀ x∈s.Else,P x)→P s):∀ s,P s:=by
 intro s
 refine C0.rec (motive_1:=P) (motive_2:=fun l=>∀ x∈l,P x) ?_ ?_ ?_ s
 ·intro v pl va nm ar n lo hi ns th el i1 i2
  exact h _ i1 i2
 ·intro x hx; cases hx
 ·intro x r hx hr y hy
  cases hy with
  | head=>exact hx
  | tail _ hy=>exact hr y hy
theorem C0.inds {Q:List C0→Prop}(h:∀ l:List C0,(∀ x∈l,Q x.Then∧Q x.Else)→Q l):∀ l,Q l:=by
 have key:∀ s:C0,Q s.Then∧Q s.Else:=fun s=>by
  induction s using C0.ind with
  | h s i1 i2=>exact ⟨h _ i1,h _ i2⟩
 exact fun l=>h l fun x _=>key x
theorem C0.bulk_eq (s:C0):s.bulk=s.Place.bulk+s.Value.bulk+s.Name.length+B0.bulks s.Args+(s.Numbers.map fun _=>1).sum+C0.bulks s.Then+C0.bulks s.Else+10:=by
 cases s; simp only [C0.bulk]; omega
theorem Z1g:∀ l:List Int,(l.map fun _=>1).sum=l.length
 | []=>rfl
 | x::r=>by simp only [List.map_cons,List.sum_cons,List.length_cons,Z1g r]; omega
theorem C0.bulk_mem {s:C0}:∀ {l:List C0},s∈l→s.bulk≤C0.bulks l
 | x::r,h=>by
  simp only [C0.bulks]
  cases h with
  | head=>omega
  | tail _ h=>have:=C0.bulk_mem h; omega
theorem C0.bulk_len:∀ l:List C0,l.length≤C0.bulks l
 | []=>Nat.le_refl _
 | x::r=>by
  simp only [C0.bulks,List.length_cons]
  have:=C0.bulk_len r
  have:=C0.bulk_eq x
  omega
mutual
theorem C0.nds_bulk:∀ s:C0,s.nds≤s.bulk
 | .mk v pl va nm ar n lo hi ns th el=>by
  have:=Z1l pl (uPl v)
  have:=Z1l va (uVa v)
  have:=B0.nodess_bulk ar
  have:=C0.ndss_bulk th
  have:=C0.ndss_bulk el
  simp only [C0.nds,C0.bulk]; omega
theorem C0.ndss_bulk:∀ l:List C0,C0.ndss l≤C0.bulks l
 | []=>Nat.le_refl _
 | x::r=>by
  have:=C0.nds_bulk x
  have:=C0.ndss_bulk r
  simp only [C0.ndss,C0.bulks]; omega
end
def OkS (l:List C0):Prop:=C0.bulks l≤BB
structure Lr (s:C0):Prop where
 place:OkE s.Place
 value:OkE s.Value
 name:s.Name.length≤BB
 args:s.Args.length≤BB
 arg:∀ a∈s.Args,OkE a
 nums:s.Numbers.length≤BB
 thens:OkS s.Then
 elses:OkS s.Else
theorem OkS.mem {l:List C0}(h:OkS l){s:C0}(hs:s∈l):Lr s:=by
 unfold OkS at h
 have h1:=C0.bulk_mem hs
 have h2:=C0.bulk_eq s
 have h3:=Z1g s.Numbers
 have h4:=B0.bulk_len s.Args
 refine ⟨?_,?_,?_,?_,fun a ha=>?_,?_,?_,?_⟩ <;> first | (unfold OkE; omega) | (unfold OkS; omega) | omega | skip
 have:=B0.bulk_kid ha
 unfold OkE; omega
theorem OkS.len {l:List C0}(h:OkS l):l.length≤BB:=Nat.le_trans (C0.bulk_len l) h
def S3 (o:F0)(n m:Nat)(f a u:Bool):F0:=⟨o.nodes+n,max o.depth m,o.badForm || !f,o.badName || !a,o.badNumber || !u⟩
theorem Q3 (o:F0)(n m n' m':Nat)(f a u f' a' u':Bool):S3 (S3 o n m f a u) n' m' f' a' u'=S3 o (n+n') (max m m') (f&&f') (a&&a') (u&&u'):=by
 simp only [S3,Br]
 rw [show o.nodes+(n:Int)+(n':Int)=o.nodes+((n+n':Nat):Int) by omega,show max (max o.depth (m:Int)) (m':Int)=max o.depth ((max m m':Nat):Int) by omega]
theorem Ck (o:F0)(h:0≤o.depth):S3 o 0 0 true true true=o:=by
 simp only [S3,Bool.not_true,Bool.or_false]
 rw [show o.nodes+((0:Nat):Int)=o.nodes by omega,show max o.depth ((0:Nat):Int)=o.depth by omega]
theorem B1b (o:F0)(n m:Nat)(f a u:Bool):(S3 o n m f a u).nodes=o.nodes+n:=rfl
theorem Do (o:F0)(n m:Nat)(f a u:Bool):(S3 o n m f a u).depth=max o.depth m:=rfl
theorem N7 (o:F0)(h:0≤o.depth)(b:Bool):V0 b o=some (S3 o 0 0 b true true):=by
 rw [Q18]
 simp only [S3,Bool.not_true,Bool.or_false]
 rw [show o.nodes+((0:Nat):Int)=o.nodes by omega,show max o.depth ((0:Nat):Int)=o.depth by omega]
theorem He (o:F0)(h:0≤o.depth)(b:Bool):O1 b o=some (S3 o 0 0 true true b):=by
 rw [Us]
 simp only [S3,Bool.not_true,Bool.or_false]
 rw [show o.nodes+((0:Nat):Int)=o.nodes by omega,show max o.depth ((0:Nat):Int)=o.depth by omega]
theorem D1e (o:F0)(h:0≤o.depth)(s:Str)(hs:s.length≤BB):W3 s o=some (S3 o 0 0 true (T2 s) true):=by
 rw [F11 s hs]
 simp only [S3,Bool.not_true,Bool.or_false]
 rw [show o.nodes+((0:Nat):Int)=o.nodes by omega,show max o.depth ((0:Nat):Int)=o.depth by omega]
structure E4 (o:F0)(n:Nat):Prop where
 dep:0≤o.depth
 low:0≤o.nodes
 high:o.nodes+n≤3 * BB
theorem E4.x {o:F0}{n k m:Nat}{f a u:Bool}(h:E4 o (k+n)):E4 (S3 o k m f a u) n:=by
 obtain ⟨h1,h2,h3⟩:=h
 refine ⟨?_,?_,?_⟩
 ·rw [Do]; omega
 ·rw [B1b]; omega
 ·rw [B1b]; omega
theorem E4.less {o:F0}{n k:Nat}(h:E4 o n)(hk:k≤n):E4 o k:=⟨h.dep,h.low,by have:=h.high; omega⟩
theorem E4.x0 {o:F0}{n m:Nat}{f a u:Bool}(h:E4 o n):E4 (S3 o 0 m f a u) n:=E4.x (by rw [Nat.zero_add]; exact h)
theorem P15 (e:B0)(h:OkE e)(o:F0)(hr:E4 o e.nodes):Y2 e 1 o=some (S3 o e.nodes e.depth (e.all B2) (e.all J4) (e.all K4)):=by
 have hn:=h.nodes
 have hp:1≤e.depth:=by rw [B0.depth_eq]; omega
 have h3:=hr.high
 unfold BB at hn h3
 rw [S1g e h 1 o (by omega) (by unfold BB; omega) hr.low (by unfold BB; omega)]
 simp only [Ae,S3]
 rw [show (1:Int)+((e.depth - 1:Nat):Int)=e.depth by omega]
theorem A1h (t:A0)(h:Ok t)(o:F0)(hr:E4 o t.nodes):G4 t 1 o=some (S3 o t.nodes t.depth (t.all D3) (t.all J5) (t.all H9)):=by
 have hn:=h.nodes
 have hp:1≤t.depth:=by rw [A0.depth_eq]; omega
 have h3:=hr.high
 unfold BB at hn h3
 rw [C1o t h 1 o (by omega) (by unfold BB; omega) hr.low (by unfold BB; omega)]
 simp only [Ae,S3]
 rw [show (1:Int)+((t.depth - 1:Nat):Int)=t.depth by omega]
theorem B1h:(B0.mk 0 0 [] []).all B2=true∧(B0.mk 0 0 [] []).all J4=true∧(B0.mk 0 0 [] []).all K4=true:=⟨rfl,rfl,rfl⟩
theorem V18 (e:B0)(u:Bool)(h:OkE e)(o:F0)(hr:E4 o (oN e u)):J3 e u o=some (S3 o (oN e u) (oD e u) (oF e u) (e.all J4) (e.all K4)):=by
 unfold J3
 rw [X1l e h]
 show ((if (!u)=true then some (Id e) else some default)>>=_)=_
 unfold oN oD oF at *
 cases u with
 | true=>
  simp only [Bool.not_true,cond_false,cond_true] at *
  rw [if_neg (by simp),ob,if_neg (by simp),N7 o hr.dep,ob,P15 e h _ hr.x0,ob,Q3]
  simp
 | false=>
  simp only [Bool.not_false,cond_false,cond_true] at *
  rw [if_pos trivial,ob]
  cases hz:Id e with
  | true=>
   rw [if_pos rfl,U18 hz,B1h.2.1,B1h.2.2]
   exact congrArg some (Ck o hr.dep).symm
  | false=>
   rw [hz] at hr
   rw [if_neg (by simp),N7 o hr.dep,ob,P15 e h _ hr.x0,ob,Q3]
   simp
theorem L1o (o:F0)(h:0≤o.nodes)(h':o.nodes+1≤3 * BB)(d:Nat):E7 (d:Int) ⟨IntKind.i64.wrap (o.nodes+1),o.depth,o.badForm,o.badName,o.badNumber⟩=some (S3 o 1 d true true true):=by
 unfold BB at h'
 rw [P18,wr (by omega) (by omega)]
 simp only [S3,Bool.not_true,Bool.or_false]
 rfl
theorem E1e (s:C0)(hs:Lr s)(K:F0→Option F0)(F:F0→Int→Option F0)
  (hF:∀ (o:F0) (k:Int),F o k=if decide (k < (s.Args.length:Int))=true then idx s.Args k>>=fun x=>Y2 x 1 o>>=fun y=>F y (IntKind.i64.wrap (k+1)) else K o) :
  ∀ (r:List B0) (k:Nat) (o:F0),s.Args.drop k=r→E4 o (B0.nodess r)→F o (k:Int)=K (S3 o (B0.nodess r) (B0.depths r) (B0.alls B2 r) (B0.alls J4 r) (B0.alls K4 r))
 | [],k,o,h,hr=>by
  rw [hF,(Y0 h).1,if_neg (by simp)]
  simp only [B0.nodess,B0.depths,B0.alls]
  rw [Ck o hr.dep]
 | x::r,k,o,h,hr=>by
  obtain ⟨e1,e2,e3,e4,e5⟩:=C1 h
  have:=hs.args
  simp only [B0.nodess] at hr
  rw [hF,e1,if_pos rfl,e2,ob,P15 x (hs.arg x e5) o (hr.less (by omega)),ob,w1 (by omega),E1e s hs K F hF r (k+1) _ e3 hr.x,Q3]
  rfl
theorem U1j (s:C0)(hs:Lr s):∀ (r:List Int) (k:Nat) (last:Int) (o:F0),s.Numbers.drop k=r→0≤o.depth→K3 s o last k=some (S3 o 0 0 true true (Co last r))
 | [],k,last,o,h,h0=>by rw [K3,(Y0 h).1,if_neg (by simp)]; exact congrArg some (Ck o h0).symm
 | x::r,k,last,o,h,h0=>by
  obtain ⟨e1,e2,e3,e4,e5⟩:=C1 h
  have:=hs.nums
  rw [K3,e1,if_pos rfl,e2,ob,Fi,ob,He _ h0,ob,w1 (by omega),U1j s hs r (k+1) x _ e3 (by rw [Do]; omega),Q3]
  rfl
theorem M1o (s:C0)(hs:Lr s)(o:F0)(h0:0≤o.depth):A7 s o=some (S3 o 0 0 true true (Lh s)):=by
 unfold A7 Lh
 simp only [Fi]
 cases s.Verb == 4 with
 | true=>rw [if_pos rfl,ob,He _ h0,ob]; rfl
 | false=>
  rw [if_neg (by simp)]
  cases s.Verb == 6 with
  | true=>rw [if_pos rfl,ob,He _ h0,ob]; rfl
  | false=>
   rw [if_neg (by simp)]
   cases s.Verb == 7 with
   | true=>
    rw [if_pos rfl,ob]
    cases hl:X1 s.Low (-1048576) 1048576 with
    | false=>rw [if_neg (by simp),ob,He _ h0,ob]; rfl
    | true=>
     rw [if_pos rfl,ob]
     cases hh:X1 s.High s.Low 1048576 with
     | false=>rw [He _ h0,ob]; rfl
     | true=>
      have:IntKind.i64.wrap (s.High - s.Low)=s.High - s.Low:=by
       simp [X1] at hl hh
       exact wr (by omega) (by omega)
      rw [this,He _ h0,ob]; rfl
   | false=>
    rw [if_neg (by simp)]
    cases s.Verb == 8 with
    | true=>
     rw [if_pos rfl,ob,He _ h0,ob,show (0:Int)=((0:Nat):Int) from rfl,U1j s hs s.Numbers 0 (-1) _ rfl (by rw [Do]; omega),Q3]
     simp
    | false=>exact congrArg some (Ck o h0).symm
theorem F1e (l:List C0):OkS l→∀ (d:Nat) (o:F0),d+C0.bulks l≤3 * BB→E4 o (C0.ndss l)→
  Z2 l d o=some (S3 o (C0.ndss l) (C0.dpss l d) (C0.alls sform l) (C0.alls N9 l) (C0.alls snumb l)):=by
 induction l using C0.inds with
 | h l ih=>
 intro hl d o hd hr
 have main:∀ (r:List C0) (k:Nat) (o:F0),l.drop k=r→E4 o (C0.ndss r)→V4 l d o k=some (S3 o (C0.ndss r) (C0.dpss r d) (C0.alls sform r) (C0.alls N9 r) (C0.alls snumb r)):=by
  intro r
  induction r with
  | nil=>
   intro k o h hr
   rw [V4,(Y0 h).1,if_neg (by simp)]
   exact congrArg some (Ck o hr.dep).symm
  | cons s r ihr=>
   intro k o h hr
   obtain ⟨e1,e2,e3,e4,e5⟩:=C1 h
   have hs:=hl.mem e5
   have hlen:=hl.len
   obtain ⟨i1,i2⟩:=ih s e5
   have hbm:=C0.bulk_mem e5
   have hbe:=C0.bulk_eq s
   simp only [C0.ndss,C0.nds_eq] at hr
   have hhi:=hr.high
   unfold BB at hhi hd
   have hwd:IntKind.i64.wrap ((d:Int)+1)=((d+1:Nat):Int):=by rw [wr (by omega) (by omega)]; rfl
   have tail:∀ o:F0,E4 o (C0.ndss s.Then+C0.ndss s.Else+C0.ndss r)→
     (V0 (bif (stU s.Verb).1.n then true else (s.NV == 0)) o>>=fun x14=>
      V0 (bif (stU s.Verb).1.bounds then true else (bif (s.Low == 0) then (s.High == 0) else false)) x14>>=fun x15=>
      V0 (bif (stU s.Verb).1.numbers then true else (((s.Numbers).length:Int) == 0)) x15>>=fun x16=>
      V0 (bif (stU s.Verb).1.thenV then true else (((s.Then).length:Int) == 0)) x16>>=fun x17=>
      V0 (bif (stU s.Verb).1.other then true else (((s.Else).length:Int) == 0)) x17>>=fun x18=>
      A7 s x18>>=fun x19=>
      Z2 s.Then (IntKind.i64.wrap ((d:Int)+1)) x19>>=fun x20=>
      Z2 s.Else (IntKind.i64.wrap ((d:Int)+1)) x20>>=fun x21=>
      V4 l d x21 (IntKind.i64.wrap ((k:Int)+1)))
     = some (S3 o (C0.ndss s.Then+C0.ndss s.Else+C0.ndss r) (max (C0.dpss s.Then (d+1)) (max (C0.dpss s.Else (d+1)) (C0.dpss r d)))
       ((bif uNn s.Verb then true else s.NV == 0)&&(bif s.Verb == 7 then true else (bif s.Low == 0 then s.High == 0 else false))&&(bif s.Verb == 8 then true else ((s.Numbers.length:Int) == 0))
         && (bif uTh s.Verb then true else ((s.Then.length:Int) == 0))&&(bif s.Verb == 5 then true else ((s.Else.length:Int) == 0))&&C0.alls sform s.Then&&C0.alls sform s.Else&&C0.alls sform r)
       (C0.alls N9 s.Then&&C0.alls N9 s.Else&&C0.alls N9 r) (Lh s&&C0.alls snumb s.Then&&C0.alls snumb s.Else&&C0.alls snumb r)):=by
    intro o hr
    have q1:=hr.x0 (m:=0) (f:=bif (stU s.Verb).1.n then true else (s.NV == 0)) (a:=true) (u:=true)
    have q2:=q1.x0 (m:=0) (f:=bif (stU s.Verb).1.bounds then true else (bif (s.Low == 0) then (s.High == 0) else false)) (a:=true) (u:=true)
    have q3:=q2.x0 (m:=0) (f:=bif (stU s.Verb).1.numbers then true else (((s.Numbers).length:Int) == 0)) (a:=true) (u:=true)
    have q4:=q3.x0 (m:=0) (f:=bif (stU s.Verb).1.thenV then true else (((s.Then).length:Int) == 0)) (a:=true) (u:=true)
    have q5:=q4.x0 (m:=0) (f:=bif (stU s.Verb).1.other then true else (((s.Else).length:Int) == 0)) (a:=true) (u:=true)
    have q6:=q5.x0 (m:=0) (f:=true) (a:=true) (u:=Lh s)
    rw [N7 o hr.dep,ob,N7 _ q1.dep,ob,N7 _ q2.dep,ob,N7 _ q3.dep,ob,N7 _ q4.dep,ob,M1o s hs _ q5.dep,ob,hwd,
     i1 hs.thens (d+1) _ (by unfold BB; omega) (q6.less (by omega)),ob,i2 hs.elses (d+1) _ (by unfold BB; omega) (E4.x (q6.less (by omega))),ob,w1 (by omega),ihr (k+1) _ e3 (E4.x (E4.x (q6.less (by omega))))]
    simp only [Q3,stU,Bool.true_and,Bool.and_true,Bool.and_assoc,Nat.zero_add,Nat.add_assoc,Nat.zero_max]
    simp only [← Nat.max_assoc]
   have args:=E1e s hs _ (fun o k'=>C9 l d o s (stU s.Verb) k k') (fun o k'=>C9.eq_1 l d o s (stU s.Verb) k k') s.Args 0
   rw [show ((0:Nat):Int)=0 from rfl] at args
   have j3:∀ o:F0,E4 o (B0.nodess s.Args+(C0.ndss s.Then+C0.ndss s.Else+C0.ndss r))→G6 l d o s (stU s.Verb) k
     = some (S3 o (B0.nodess s.Args+(C0.ndss s.Then+C0.ndss s.Else+C0.ndss r)) (max (B0.depths s.Args) (max (C0.dpss s.Then (d+1)) (max (C0.dpss s.Else (d+1)) (C0.dpss r d))))
       ((bif s.Verb == 1 then true else ((s.Args.length:Int) == 0))&&(B0.alls B2 s.Args&&((bif uNn s.Verb then true else s.NV == 0)&&(bif s.Verb == 7 then true else (bif s.Low == 0 then s.High == 0 else false))&&(bif s.Verb == 8 then true else ((s.Numbers.length:Int) == 0))
         && (bif uTh s.Verb then true else ((s.Then.length:Int) == 0))&&(bif s.Verb == 5 then true else ((s.Else.length:Int) == 0))&&C0.alls sform s.Then&&C0.alls sform s.Else&&C0.alls sform r)))
       (B0.alls J4 s.Args&&(C0.alls N9 s.Then&&C0.alls N9 s.Else&&C0.alls N9 r)) (B0.alls K4 s.Args&&(Lh s&&C0.alls snumb s.Then&&C0.alls snumb s.Else&&C0.alls snumb r))):=by
    intro o hr
    rw [G6,N7 o hr.dep,ob,args _ rfl (hr.x0.less (by omega)),tail _ (E4.x hr.x0)]
    simp only [Q3,stU,Bool.true_and,Bool.and_assoc,Nat.zero_add,Nat.zero_max]
   have j2:∀ o:F0,E4 o (oN s.Value (uVa s.Verb)+(B0.nodess s.Args+(C0.ndss s.Then+C0.ndss s.Else+C0.ndss r)))→F6 l d o s (stU s.Verb) k
     = (G6 l d (S3 o (oN s.Value (uVa s.Verb)) (oD s.Value (uVa s.Verb)) (oF s.Value (uVa s.Verb)&&(bif uNm s.Verb then true else s.Name == [])) (s.Value.all J4&&(bif uNm s.Verb then T2 s.Name else true)) (s.Value.all K4)) s (stU s.Verb) k):=by
    intro o hr
    have q1:E4 (S3 o (oN s.Value (uVa s.Verb)) (oD s.Value (uVa s.Verb)) (oF s.Value (uVa s.Verb)) (s.Value.all J4) (s.Value.all K4)) 0:=E4.x (hr.less (by omega))
    rw [F6]
    show (J3 s.Value (uVa s.Verb) o>>=_)=_
    rw [V18 s.Value (uVa s.Verb) hs.value o (hr.less (by omega)),ob,N7 _ q1.dep,ob,D1e _ (q1.x0).dep s.Name hs.name]
    simp only [Q3,stU]
    cases uNm s.Verb with
    | true=>rw [if_pos rfl,ob]; simp
    | false=>rw [if_neg (by simp)]; simp
   rw [V4,e1,if_pos rfl,e2,ob,L1o o hr.low (by unfold BB; omega) d,ob,Y1g,ob,N7 _ (show 0≤(S3 o 1 d true true true).depth by rw [Do]; have:=hr.dep; omega),ob,Q3]
   have hr1:E4 (S3 o (1+0) (max d 0) (true&&(stU s.Verb).2) (true&&true) (true&&true)) (oN s.Place (uPl s.Verb)+(oN s.Value (uVa s.Verb)+(B0.nodess s.Args+(C0.ndss s.Then+C0.ndss s.Else+C0.ndss r)))):=E4.x (hr.less (by omega))
   have hopt:=V18 s.Place (uPl s.Verb) hs.place _ (hr1.less (k:=oN s.Place (uPl s.Verb)) (by omega))
   show (J3 s.Place (uPl s.Verb) _>>=_)=_
   rw [hopt,ob,X1d,Q3]
   have hr2:∀ f,E4 (S3 o (1+0+oN s.Place (uPl s.Verb)) (max (max d 0) (oD s.Place (uPl s.Verb))) f (true&&true&&s.Place.all J4) (true&&true&&s.Place.all K4)) (oN s.Value (uVa s.Verb)+(B0.nodess s.Args+(C0.ndss s.Then+C0.ndss s.Else+C0.ndss r))):=fun f=>E4.x (hr.less (by omega))
   have fin:∀ b:Bool,(bif uPl s.Verb then s.Place.place else true)=b→
     F6 l d (S3 o (1+0+oN s.Place (uPl s.Verb)) (max (max d 0) (oD s.Place (uPl s.Verb))) (true&&(stU s.Verb).2&&oF s.Place (uPl s.Verb)&&b) (true&&true&&s.Place.all J4) (true&&true&&s.Place.all K4)) s (stU s.Verb) k
      = some (S3 o (C0.ndss (s::r)) (C0.dpss (s::r) d) (C0.alls sform (s::r)) (C0.alls N9 (s::r)) (C0.alls snumb (s::r))):=by
    rintro _ rfl
    rw [j2 _ (hr2 _),j3 _ (E4.x (hr2 _)),Q3,Q3]
    simp only [C0.ndss,C0.dpss,C0.alls,C0.nds_eq,C0.dps_eq,C0.all_eq,sform,N9,snumb,stU,Bool.true_and,Bool.and_assoc,Nat.add_assoc,Nat.max_assoc,Nat.zero_add]
    congr 1
   cases hu:uPl s.Verb with
   | true=>
    rw [hu] at fin hr2
    rw [if_pos (show (stU s.Verb).1.place=true from hu),ob,N7 _ (hr2 _).dep,ob,Q3]
    have:=fin s.Place.place rfl
    simpa using this
   | false=>
    rw [hu] at fin
    rw [if_neg (by rw [show (stU s.Verb).1.place=false from hu]; simp)]
    have:=fin true rfl
    rw [Bool.and_true] at this
    exact this
 rw [Z2]
 exact main l 0 o rfl hr
end Go.Proofs.YtdkabnfphmmmnaaGreatDoor

set_option linter.unusedSimpArgs false
set_option linter.unusedVariables false
set_option maxHeartbeats 1000000
namespace Go.Proofs.YtdkabnfphmmmnaaGreatDoor
open Go.Am
def isK (k:Int):Bool:=bif decide (k≥0) then decide (k≤6) else false
def uV2 (k:Int):Bool:=bif k == 5 then true else k == 6
def tN (t:A0)(u:Bool):Nat:=bif (bif !u then Vk t else false) then 0 else t.nodes
def tD (t:A0)(u:Bool):Nat:=bif (bif !u then Vk t else false) then 0 else t.depth
theorem P1v (t:A0)(u:Bool):tN t u≤t.bulk:=by
 unfold tN
 have:=A0.nodes_bulk t
 cases (bif !u then Vk t else false) <;> simp <;> omega
def pOk (x:D0):Bool:=bif x.Kind == 4 then x.Init == 0 else false
def vOk (x:D0):Bool:=x.Kind == 4
def Eo (d:D0):Bool:=bif X1 d.Init (-1048576) 1048576 then (bif d.TypeV.Kind != 0 then true else X1 d.Init 0 1) else false
def Zs (d:D0):Bool:=bif (bif ((d.Params.length:Int) == 0) then ((d.Vars.length:Int) == 0) else false) then ((d.Body.length:Int) == 0) else false
def dform (d:D0):Bool:=
 isK d.Kind&&d.TypeV.all D3&&oF d.Value (uV2 d.Kind)&&(bif d.Kind == 4 then true else d.Init == 0)&&(bif d.Kind == 6 then true else Zs d)&&d.Params.all pOk&&d.Vars.all vOk&&C0.alls sform d.Body
def Kc (d:D0):Bool:=d.TypeV.all J5&&T2 d.Name&&d.Value.all J4&&C0.alls N9 d.Body
def dnumb (d:D0):Bool:=d.TypeV.all H9&&d.Value.all K4&&Eo d&&C0.alls snumb d.Body
mutual
def D0.nds:D0→Nat
 | .mk k nm t i v ps vs bd=>1+(tN t (isK k)+(oN v (uV2 k)+(D0.ndss ps+(D0.ndss vs+C0.ndss bd))))
def D0.ndss:List D0→Nat
 | []=>0
 | x::r=>D0.nds x+D0.ndss r
end
mutual
def D0.dps:D0→Nat
 | .mk k nm t i v ps vs bd=>max (tD t (isK k)) (max (oD v (uV2 k)) (max (D0.dpss ps) (max (D0.dpss vs) (C0.dpss bd 1))))
def D0.dpss:List D0→Nat
 | []=>0
 | x::r=>max (D0.dps x) (D0.dpss r)
end
mutual
def D0.all (p:D0→Bool):D0→Bool
 | .mk k nm t i v ps vs bd=>p (.mk k nm t i v ps vs bd)&&(D0.alls p ps&&D0.alls p vs)
def D0.alls (p:D0→Bool):List D0→Bool
 | []=>true
 | x::r=>D0.all p x&&D0.alls p r
end
theorem D0.nds_eq (d:D0):d.nds=1+(tN d.TypeV (isK d.Kind)+(oN d.Value (uV2 d.Kind)+(D0.ndss d.Params+(D0.ndss d.Vars+C0.ndss d.Body)))):=by cases d; simp only [D0.nds]
theorem D0.dps_eq (d:D0):d.dps=max (tD d.TypeV (isK d.Kind)) (max (oD d.Value (uV2 d.Kind)) (max (D0.dpss d.Params) (max (D0.dpss d.Vars) (C0.dpss d.Body 1)))):=by cases d; simp only [D0.dps]
theorem D0.all_eq (p:D0→Bool)(d:D0):d.all p=(p d&&(D0.alls p d.Params&&D0.alls p d.Vars)):=by cases d; simp only [D0.all]
theorem D0.ind {P:D0→Prop}(h:∀ d:D0,(∀ x∈d.Params,P x)→(∀ x∈d.Vars,P x)→P d):∀ d,P d:=by
 intro d
 refine D0.rec (motive_1:=P) (motive_2:=fun l=>∀ x∈l,P x) ?_ ?_ ?_ d
 ·intro k nm t i v ps vs bd i1 i2
  exact h _ i1 i2
 ·intro x hx; cases hx
 ·intro x r hx hr y hy
  cases hy with
  | head=>exact hx
  | tail _ hy=>exact hr y hy
theorem D0.inds {Q:List D0→Prop}(h:∀ l:List D0,(∀ x∈l,Q x.Params∧Q x.Vars)→Q l):∀ l,Q l:=by
 have key:∀ s:D0,Q s.Params∧Q s.Vars:=fun s=>by
  induction s using D0.ind with
  | h s i1 i2=>exact ⟨h _ i1,h _ i2⟩
 exact fun l=>h l fun x _=>key x
theorem D0.bulk_eq (d:D0):d.bulk=d.Name.length+d.TypeV.bulk+d.Value.bulk+D0.bulks d.Params+D0.bulks d.Vars+C0.bulks d.Body+7:=by cases d; simp only [D0.bulk]; omega
theorem D0.bulk_mem {s:D0}:∀ {l:List D0},s∈l→s.bulk≤D0.bulks l
 | x::r,h=>by
  simp only [D0.bulks]
  cases h with
  | head=>omega
  | tail _ h=>have:=D0.bulk_mem h; omega
theorem D0.bulk_len:∀ l:List D0,l.length≤D0.bulks l
 | []=>Nat.le_refl _
 | x::r=>by
  simp only [D0.bulks,List.length_cons]
  have:=D0.bulk_len r
  have:=D0.bulk_eq x
  omega
mutual
theorem D0.nds_bulk:∀ d:D0,d.nds≤d.bulk
 | .mk k nm t i v ps vs bd=>by
  have:=P1v t (isK k)
  have:=Z1l v (uV2 k)
  have:=D0.ndss_bulk ps
  have:=D0.ndss_bulk vs
  have:=C0.ndss_bulk bd
  simp only [D0.nds,D0.bulk]; omega
theorem D0.ndss_bulk:∀ l:List D0,D0.ndss l≤D0.bulks l
 | []=>Nat.le_refl _
 | x::r=>by
  have:=D0.nds_bulk x
  have:=D0.ndss_bulk r
  simp only [D0.ndss,D0.bulks]; omega
end
def OkD (l:List D0):Prop:=D0.bulks l≤BB
structure D1w (d:D0):Prop where
 type:Ok d.TypeV
 value:OkE d.Value
 name:d.Name.length≤BB
 params:OkD d.Params
 vars:OkD d.Vars
 body:OkS d.Body
theorem OkD.mem {l:List D0}(h:OkD l){d:D0}(hd:d∈l):D1w d:=by
 unfold OkD at h
 have h1:=D0.bulk_mem hd
 have h2:=D0.bulk_eq d
 refine ⟨?_,?_,?_,?_,?_,?_⟩ <;> first | (unfold OkE; omega) | (unfold OkS; omega) | (unfold OkD; omega) | (unfold Ok; omega) | omega
theorem OkD.len {l:List D0}(h:OkD l):l.length≤BB:=Nat.le_trans (D0.bulk_len l) h
theorem G1e:(A0.mk 0 0 0 0 [] [] []).all J5=true∧(A0.mk 0 0 0 0 [] [] []).all H9=true:=⟨rfl,rfl⟩
theorem P1c (c:List D0)(hc:c.length≤BB)(q:D0→Bool)(K:F0→Option F0)(F:F0→Int→Option F0)
  (hF:∀ (o:F0) (k:Int),F o k=if decide (k < (c.length:Int))=true then idx c k>>=fun x=>V0 (q x) o>>=fun y=>F y (IntKind.i64.wrap (k+1)) else K o) :
  ∀ (r:List D0) (k:Nat) (o:F0),c.drop k=r→0≤o.depth→F o (k:Int)=K (S3 o 0 0 (r.all q) true true)
 | [],k,o,h,hr=>by
  rw [hF,(Y0 h).1,if_neg (by simp),List.all_nil,Ck o hr]
 | x::r,k,o,h,hr=>by
  obtain ⟨e1,e2,e3,e4,e5⟩:=C1 h
  rw [hF,e1,if_pos rfl,e2,ob,N7 o hr,ob,w1 (by omega),P1c c hc q K F hF r (k+1) _ e3 (by rw [Do]; omega),Q3]
  rfl
theorem N1o (l:List D0):OkD l→∀ (o:F0),E4 o (D0.ndss l)→
  C5 l o=some (S3 o (D0.ndss l) (D0.dpss l) (D0.alls dform l) (D0.alls Kc l) (D0.alls dnumb l)):=by
 induction l using D0.inds with
 | h l ih=>
 intro hl o hr
 have main:∀ (r:List D0) (k:Nat) (o:F0),l.drop k=r→E4 o (D0.ndss r)→H6 l o k=some (S3 o (D0.ndss r) (D0.dpss r) (D0.alls dform r) (D0.alls Kc r) (D0.alls dnumb r)):=by
  intro r
  induction r with
  | nil=>
   intro k o h hr
   rw [H6,(Y0 h).1,if_neg (by simp)]
   exact congrArg some (Ck o hr.dep).symm
  | cons d r ihr=>
   intro k o h hr
   obtain ⟨e1,e2,e3,e4,e5⟩:=C1 h
   have hs:=hl.mem e5
   have hlen:=hl.len
   obtain ⟨i1,i2⟩:=ih d e5
   simp only [D0.ndss,D0.nds_eq] at hr
   have hhi:=hr.high
   have hbB:C0.bulks d.Body≤BB:=hs.body
   have hlow:=hr.low
   unfold BB at hhi
   have l4:=P1c d.Vars hs.vars.len vOk _ (fun o k'=>E9 l o d k k') (fun o k'=>E9.eq_1 l o d k k') d.Vars 0
   have l3:=P1c d.Params hs.params.len pOk _ (fun o k'=>I6 l o d k k') (fun o k'=>I6.eq_1 l o d k k') d.Params 0
   rw [show ((0:Nat):Int)=0 from rfl] at l4 l3
   have tail:∀ o:F0,E4 o (D0.ndss d.Params+(D0.ndss d.Vars+(C0.ndss d.Body+D0.ndss r)))→
     I6 l o d k 0=some (S3 o (D0.ndss d.Params+(D0.ndss d.Vars+(C0.ndss d.Body+D0.ndss r))) (max (D0.dpss d.Params) (max (D0.dpss d.Vars) (max (C0.dpss d.Body 1) (D0.dpss r))))
      (d.Params.all pOk&&(d.Vars.all vOk&&(D0.alls dform d.Params&&(D0.alls dform d.Vars&&(C0.alls sform d.Body&&D0.alls dform r)))))
      (D0.alls Kc d.Params&&(D0.alls Kc d.Vars&&(C0.alls N9 d.Body&&D0.alls Kc r)))
      (D0.alls dnumb d.Params&&(D0.alls dnumb d.Vars&&(C0.alls snumb d.Body&&D0.alls dnumb r)))):=by
    intro o hr
    have q1:=hr.x0 (m:=0) (f:=d.Params.all pOk) (a:=true) (u:=true)
    have q2:=q1.x0 (m:=0) (f:=d.Vars.all vOk) (a:=true) (u:=true)
    rw [l3 o rfl hr.dep,l4 _ rfl q1.dep,i1 hs.params _ (q2.less (by omega)),ob,i2 hs.vars _ (E4.x (q2.less (by omega))),ob,
     show (1:Int)=((1:Nat):Int) from rfl,F1e d.Body hs.body 1 _ (by unfold BB at *; omega) (E4.x (E4.x (q2.less (by omega)))),ob,show ((k:Int)+((1:Nat):Int))=(k:Int)+1 from rfl,w1 (by omega),ihr (k+1) _ e3 (E4.x (E4.x (E4.x (q2.less (by omega)))))]
    simp only [Q3,Bool.true_and,Bool.and_assoc,Nat.zero_add,Nat.zero_max,Nat.add_assoc,Nat.max_assoc]
   have hin:(if ((X1 d.Init (-1048576) 1048576)&&(!(d.TypeV.Kind != 0)))=true then H3 d.Init 0 1 else some default)=some (bif (X1 d.Init (-1048576) 1048576)&&(!(d.TypeV.Kind != 0)) then X1 d.Init 0 1 else default):=by
    rw [Fi]
    cases ((X1 d.Init (-1048576) 1048576)&&(!(d.TypeV.Kind != 0))) <;> rfl
   have j2:∀ (x2:Bool×Bool) (o:F0),x2=(isK d.Kind,uV2 d.Kind)→E4 o (oN d.Value (uV2 d.Kind)+(D0.ndss d.Params+(D0.ndss d.Vars+(C0.ndss d.Body+D0.ndss r))))→
     D9 l o d x2 k=some (S3 o (oN d.Value (uV2 d.Kind)+(D0.ndss d.Params+(D0.ndss d.Vars+(C0.ndss d.Body+D0.ndss r)))) (max (oD d.Value (uV2 d.Kind)) (max (D0.dpss d.Params) (max (D0.dpss d.Vars) (max (C0.dpss d.Body 1) (D0.dpss r)))))
      (oF d.Value (uV2 d.Kind)&&((bif d.Kind == 4 then true else d.Init == 0)&&((bif d.Kind == 6 then true else Zs d)&&(d.Params.all pOk&&(d.Vars.all vOk&&(D0.alls dform d.Params&&(D0.alls dform d.Vars&&(C0.alls sform d.Body&&D0.alls dform r))))))))
      (T2 d.Name&&(d.Value.all J4&&(D0.alls Kc d.Params&&(D0.alls Kc d.Vars&&(C0.alls N9 d.Body&&D0.alls Kc r)))))
      (d.Value.all K4&&(Eo d&&(D0.alls dnumb d.Params&&(D0.alls dnumb d.Vars&&(C0.alls snumb d.Body&&D0.alls dnumb r)))))):=by
    rintro _ o rfl hr
    have q1:=hr.x0 (m:=0) (f:=true) (a:=T2 d.Name) (u:=true)
    have q2:=E4.x (m:=oD d.Value (uV2 d.Kind)) (f:=oF d.Value (uV2 d.Kind)) (a:=d.Value.all J4) (u:=d.Value.all K4) q1
    have hio:(bif X1 d.Init (-1048576) 1048576 then (bif (d.TypeV.Kind != 0) then true else (bif (X1 d.Init (-1048576) 1048576)&&(!(d.TypeV.Kind != 0)) then X1 d.Init 0 1 else default)) else false)=Eo d:=by
     unfold Eo
     cases X1 d.Init (-1048576) 1048576 <;> cases (d.TypeV.Kind != 0) <;> rfl
    rw [D9,D1e o hr.dep d.Name hs.name,ob,V18 d.Value (uV2 d.Kind) hs.value _ (q1.less (by omega)),ob,N7 _ q2.dep,ob,Fi,ob,hin,ob,hio,He _ (q2.x0).dep,ob,N7 _ (q2.x0.x0).dep,ob,tail _ (q2.x0.x0.x0)]
    simp only [Q3,Bool.true_and,Bool.and_true,Bool.and_assoc,Nat.zero_add,Nat.add_zero,Nat.zero_max,Nat.max_zero,Nat.add_assoc,Nat.max_assoc,Zs]
   have hwn:(F0.mk (IntKind.i64.wrap (o.nodes+1)) o.depth o.badForm o.badName o.badNumber)=S3 o 1 0 true true true:=by
    rw [wr (by omega) (by omega)]
    simp only [S3,Bool.not_true,Bool.or_false]
    have:=hr.dep
    rw [show max o.depth ((0:Nat):Int)=o.depth by omega]
    rfl
   have q1:E4 (S3 o 1 0 true true true) (tN d.TypeV (isK d.Kind)+(oN d.Value (uV2 d.Kind)+(D0.ndss d.Params+(D0.ndss d.Vars+(C0.ndss d.Body+D0.ndss r))))):=E4.x (hr.less (by omega))
   have q2:=q1.x0 (m:=0) (f:=isK d.Kind) (a:=true) (u:=true)
   rw [H6,e1,if_pos rfl,e2,ob,show Bj d.Kind=some (isK d.Kind,uV2 d.Kind) from rfl,ob]
   show (V0 (isK d.Kind) _>>=_)=_
   rw [hwn,N7 _ q1.dep,ob,W1l d.TypeV hs.type]
   show ((if (!(isK d.Kind))=true then some (Vk d.TypeV) else some default)>>=_)=_
   cases hk:isK d.Kind with
   | true=>
    rw [hk] at q2
    have q3:=q2
    unfold tN at q3
    simp only [Bool.not_true,cond_false] at q3
    rw [if_neg (by simp),ob]
    rw [if_pos (show (bif (true,uV2 d.Kind).1 then true else !default)=true from rfl),A1h d.TypeV hs.type _ (q3.less (by omega)),ob,j2 _ _ (by rw [hk]) (E4.x q3)]
    simp only [Q3,D0.ndss,D0.dpss,D0.alls,D0.nds_eq,D0.dps_eq,D0.all_eq,dform,Kc,dnumb,hk,tN,tD,Bool.not_true,cond_false,Bool.true_and,Bool.and_assoc,Nat.add_assoc,Nat.max_assoc,Nat.zero_max,Nat.zero_add]
    congr 1
    simp only [S3]
    congr 1
    all_goals first
     | (congr 1; congr 1; ac_rfl)
     | (congr 1; congr 1)
     | skip
   | false=>
    rw [hk] at q2
    rw [if_pos (show (!false)=true from rfl),ob]
    show (if (!(Vk d.TypeV))=true then _ else _)=_
    cases hz:Vk d.TypeV with
    | true=>
     unfold tN at q2
     rw [hz] at q2
     simp only [Bool.not_false,cond_true,Nat.zero_add] at q2
     rw [if_neg (by simp),j2 _ _ (by rw [hk]) q2]
     have hzt:=X1q hz
     simp only [Q3,D0.ndss,D0.dpss,D0.alls,D0.nds_eq,D0.dps_eq,D0.all_eq,dform,Kc,dnumb,hk,tN,tD,hz,Bool.not_false,cond_true,Bool.true_and,Bool.false_and,Bool.and_assoc,Nat.add_assoc,Nat.max_assoc,Nat.zero_max,Nat.zero_add]
     rw [hzt,G1e.1,G1e.2]
     simp only [Bool.true_and]
     congr 1
     simp only [S3]
     congr 1
     all_goals first
      | (congr 1; congr 1; ac_rfl)
      | (congr 1; congr 1)
      | skip
    | false=>
     have q3:=q2
     unfold tN at q3
     rw [hz] at q3
     simp only [Bool.not_false,cond_false,cond_true] at q3
     rw [if_pos (by simp),A1h d.TypeV hs.type _ (q3.less (by omega)),ob,j2 _ _ (by rw [hk]) (E4.x q3)]
     simp only [Q3,D0.ndss,D0.dpss,D0.alls,D0.nds_eq,D0.dps_eq,D0.all_eq,dform,Kc,dnumb,hk,tN,tD,hz,Bool.not_false,cond_true,cond_false,Bool.true_and,Bool.false_and,Bool.and_assoc,Nat.add_assoc,Nat.max_assoc,Nat.zero_max,Nat.zero_add]
     congr 1
     simp only [S3]
     congr 1
     all_goals first
      | (congr 1; congr 1; ac_rfl)
      | (congr 1; congr 1)
      | skip
 rw [C5]
 exact main l 0 o rfl hr
structure OkP (p:O0):Prop where
 decls:OkD p.Decls
 body:OkS p.Body
def Q15 (p:O0):Nat:=D0.ndss p.Decls+C0.ndss p.Body
def R15 (p:O0):Nat:=max (D0.dpss p.Decls) (C0.dpss p.Body 1)
def Y6 (p:O0):Int:=
 Cc (Q15 p) (R15 p) (!(D0.alls dform p.Decls&&C0.alls sform p.Body)) (!(D0.alls Kc p.Decls&&C0.alls N9 p.Body)) (!(D0.alls dnumb p.Decls&&C0.alls snumb p.Body))
theorem A1m (p:O0)(h:OkP p):Bh p=some (S3 ⟨0,0,false,false,false⟩ (Q15 p) (R15 p) (D0.alls dform p.Decls&&C0.alls sform p.Body) (D0.alls Kc p.Decls&&C0.alls N9 p.Body) (D0.alls dnumb p.Decls&&C0.alls snumb p.Body)):=by
 have h1:=D0.ndss_bulk p.Decls
 have h2:=C0.ndss_bulk p.Body
 have h3:D0.bulks p.Decls≤BB:=h.decls
 have h4:C0.bulks p.Body≤BB:=h.body
 have hr:E4 ⟨0,0,false,false,false⟩ (D0.ndss p.Decls+C0.ndss p.Body):=⟨Int.le_refl _,Int.le_refl _,by simp only; omega⟩
 unfold Bh
 rw [N1o p.Decls h.decls _ (hr.less (by omega)),ob,show (1:Int)=((1:Nat):Int) from rfl,F1e p.Body h.body 1 _ (by unfold BB at *; omega) (E4.x hr),ob,Q3]
 rfl
theorem O1o (n m:Nat)(f a u:Bool):M5 (S3 ⟨0,0,false,false,false⟩ n m f a u)=some (Cc n m (!f) (!a) (!u)):=by
 rw [R18]
 simp only [S3,Bool.false_or]
 rw [show (0:Int)+(n:Int)=n by omega,show max (0:Int) (m:Int)=m by omega]
theorem Y1q (p:O0)(h:OkP p):Rj p=some (Y6 p):=by
 unfold Rj
 rw [A1m p h,ob,O1o,ob]
 rfl
end Go.Proofs.YtdkabnfphmmmnaaGreatDoor

set_option linter.unusedSimpArgs false
set_option linter.unusedVariables false
set_option maxHeartbeats 1000000
namespace Go.Proofs.YtdkabnfphmmmnaaGreatDoor
open Go.Am
theorem ifs {b c:Bool}{X:Option Bool}{y:Bool}(h:b = !c)(hx:X=some y):(if b=true then some false else X)=some (c&&y):=by
 subst h
 rw [hx]
 cases c <;> rfl
theorem ifd (c a:Bool):(if c=true then some a else some default)=some (bif c then a else default):=by cases c <;> rfl
theorem rUP (v:Int):Gd v=some (uPl v):=rfl
theorem rUV (v:Int):Hd v=some (uVa v):=rfl
theorem rUN (v:Int):Zb v=some (uNm v):=rfl
theorem E1w (v:Int):Bq v=some (uNn v):=rfl
theorem rUT (v:Int):Tk v=some (uTh v):=rfl
theorem rDT (k:Int):Hh k=some (isK k):=rfl
theorem rDV (k:Int):Fd k=some (uV2 k):=rfl
def szX (s:R0)(n m:Nat):R0:=⟨s.nodes+n,max s.depth m⟩
theorem Zv (s:R0)(n m n' m':Nat):szX (szX s n m) n' m'=szX s (n+n') (max m m'):=by
 simp only [szX]
 rw [show s.nodes+(n:Int)+(n':Int)=s.nodes+((n+n':Nat):Int) by omega,show max (max s.depth (m:Int)) (m':Int)=max s.depth ((max m m':Nat):Int) by omega]
structure D6 (s:R0)(n:Nat):Prop where
 dep:0≤s.depth
 low:0≤s.nodes
 high:s.nodes+n≤3 * BB
theorem D6.x {s:R0}{n k m:Nat}(h:D6 s (k+n)):D6 (szX s k m) n:=by
 obtain ⟨h1,h2,h3⟩:=h
 refine ⟨?_,?_,?_⟩ <;> simp only [szX] <;> omega
theorem D6.less {s:R0}{n k:Nat}(h:D6 s n)(hk:k≤n):D6 s k:=⟨h.dep,h.low,by have:=h.high; omega⟩
theorem Qu (s:R0)(h:0≤s.depth):szX s 0 0=s:=by
 simp only [szX]
 rw [show s.nodes+((0:Nat):Int)=s.nodes by omega,show max s.depth ((0:Nat):Int)=s.depth by omega]
theorem G11 (s:R0)(e:B0)(u:Bool)(h:OkE e)(hr:D6 s (oN e u)):M9 s e u=some (szX s (oN e u) (oD e u)):=by
 have hn:=h.nodes
 have hh:=hr.high
 have hl:=hr.low
 unfold M9
 rw [Yv e h,ifd,ob,T1l e h,U1l e h]
 unfold oN oD at *
 cases u with
 | true=>
  simp only [Bool.not_true,cond_false] at *
  unfold BB at hh hn
  rw [if_neg (by simp),ob,ob,Cr,ob,wr (n:=s.nodes+(e.nodes:Int)) (by omega) (by omega)]
  rfl
 | false=>
  simp only [Bool.not_false,cond_true] at *
  cases hz:Id e with
  | true=>rw [if_pos rfl]; exact congrArg some (Qu s hr.dep).symm
  | false=>
   rw [hz] at hh
   simp only [cond_false] at hh
   unfold BB at hh hn
   rw [if_neg (by simp),ob,ob,Cr,ob,wr (n:=s.nodes+(e.nodes:Int)) (by omega) (by omega)]
   rfl
theorem Z1q (s:R0)(t:A0)(u:Bool)(h:Ok t)(hr:D6 s (tN t u)):Si s t u=some (szX s (tN t u) (tD t u)):=by
 have hn:=h.nodes
 have hh:=hr.high
 have hl:=hr.low
 unfold Si
 rw [K1o t h,ifd,ob,D1o t h,E1o t h]
 unfold tN tD at *
 cases u with
 | true=>
  simp only [Bool.not_true,cond_false] at *
  unfold BB at hh hn
  rw [if_neg (by simp),ob,ob,Cr,ob,wr (n:=s.nodes+(t.nodes:Int)) (by omega) (by omega)]
  rfl
 | false=>
  simp only [Bool.not_false,cond_true] at *
  cases hz:Vk t with
  | true=>rw [if_pos rfl]; exact congrArg some (Qu s hr.dep).symm
  | false=>
   rw [hz] at hh
   simp only [cond_false] at hh
   unfold BB at hh hn
   rw [if_neg (by simp),ob,ob,Cr,ob,wr (n:=s.nodes+(t.nodes:Int)) (by omega) (by omega)]
   rfl
theorem P1u (s:R0)(hr:D6 s 1)(d:Nat):O6 ⟨IntKind.i64.wrap (s.nodes+1),s.depth⟩ (d:Int)=some (szX s 1 d):=by
 have hh:=hr.high
 have hl:=hr.low
 unfold BB at hh
 rw [Cr,wr (n:=s.nodes+1) (by omega) (by omega)]
 rfl
theorem Q1c (e:B0):oN e true=e.nodes∧oD e true=e.depth:=⟨rfl,rfl⟩
theorem H1e (s:C0)(hs:Lr s)(K:R0→Option R0)(F:R0→Int→Option R0)
  (hF:∀ (o:R0) (k:Int),F o k=if decide (k < (s.Args.length:Int))=true then idx s.Args k>>=fun x=>M9 o x true>>=fun y=>F y (IntKind.i64.wrap (k+1)) else K o) :
  ∀ (r:List B0) (k:Nat) (o:R0),s.Args.drop k=r→D6 o (B0.nodess r)→F o (k:Int)=K (szX o (B0.nodess r) (B0.depths r))
 | [],k,o,h,hr=>by
  rw [hF,(Y0 h).1,if_neg (by simp)]
  simp only [B0.nodess,B0.depths]
  rw [Qu o hr.dep]
 | x::r,k,o,h,hr=>by
  obtain ⟨e1,e2,e3,e4,e5⟩:=C1 h
  have:=hs.args
  simp only [B0.nodess] at hr
  rw [hF,e1,if_pos rfl,e2,ob,G11 o x true (hs.arg x e5) (hr.less (by rw [(Q1c x).1]; omega)),ob,(Q1c x).1,(Q1c x).2,w1 (by omega),H1e s hs K F hF r (k+1) _ e3 hr.x,Zv]
  rfl
theorem S15 (l:List C0):OkS l→∀ (d:Nat) (o:R0),d+C0.bulks l≤3 * BB→D6 o (C0.ndss l)→V7 o l d=some (szX o (C0.ndss l) (C0.dpss l d)):=by
 induction l using C0.inds with
 | h l ih=>
 intro hl d o hd hr
 have main:∀ (r:List C0) (k:Nat) (o:R0),l.drop k=r→D6 o (C0.ndss r)→Eb l d o k=some (szX o (C0.ndss r) (C0.dpss r d)):=by
  intro r
  induction r with
  | nil=>
   intro k o h hr
   rw [Eb,(Y0 h).1,if_neg (by simp)]
   exact congrArg some (Qu o hr.dep).symm
  | cons s r ihr=>
   intro k o h hr
   obtain ⟨e1,e2,e3,e4,e5⟩:=C1 h
   have hs:=hl.mem e5
   have hlen:=hl.len
   obtain ⟨i1,i2⟩:=ih s e5
   have hbm:=C0.bulk_mem e5
   have hbe:=C0.bulk_eq s
   simp only [C0.ndss,C0.nds_eq] at hr
   unfold BB at hd
   have hwd:IntKind.i64.wrap ((d:Int)+1)=((d+1:Nat):Int):=by rw [wr (by omega) (by omega)]; rfl
   have args:=H1e s hs _ (fun o k'=>Od l d o s k k') (fun o k'=>Od.eq_1 l d o s k k') s.Args 0
   rw [show ((0:Nat):Int)=0 from rfl] at args
   have q1:D6 (szX o 1 d) (oN s.Place (uPl s.Verb)+(oN s.Value (uVa s.Verb)+(B0.nodess s.Args+(C0.ndss s.Then+(C0.ndss s.Else+C0.ndss r))))):=D6.x (hr.less (by omega))
   have q2:=D6.x (m:=oD s.Place (uPl s.Verb)) q1
   have q3:=D6.x (m:=oD s.Value (uVa s.Verb)) q2
   have q4:=D6.x (m:=B0.depths s.Args) q3
   have q5:=D6.x (m:=C0.dpss s.Then (d+1)) q4
   have q6:=D6.x (m:=C0.dpss s.Else (d+1)) q5
   rw [Eb,e1,if_pos rfl,e2,ob,P1u o (hr.less (by omega)) d,ob,rUP,ob,G11 _ s.Place _ hs.place (q1.less (by omega)),ob,rUV,ob,G11 _ s.Value _ hs.value (q2.less (by omega)),ob,
    args _ rfl (q3.less (by omega)),hwd,i1 hs.thens (d+1) _ (by unfold BB; omega) (q4.less (by omega)),ob,i2 hs.elses (d+1) _ (by unfold BB; omega) (q5.less (by omega)),ob,w1 (by omega),ihr (k+1) _ e3 q6]
   simp only [Zv,C0.ndss,C0.dpss,C0.nds_eq,C0.dps_eq,Nat.add_assoc,Nat.max_assoc]
 rw [V7]
 exact main l 0 o rfl hr
theorem C1h (l:List D0):OkD l→∀ (o:R0),D6 o (D0.ndss l)→Ca o l=some (szX o (D0.ndss l) (D0.dpss l)):=by
 induction l using D0.inds with
 | h l ih=>
 intro hl o hr
 have main:∀ (r:List D0) (k:Nat) (o:R0),l.drop k=r→D6 o (D0.ndss r)→Fb l o k=some (szX o (D0.ndss r) (D0.dpss r)):=by
  intro r
  induction r with
  | nil=>
   intro k o h hr
   rw [Fb,(Y0 h).1,if_neg (by simp)]
   exact congrArg some (Qu o hr.dep).symm
  | cons s r ihr=>
   intro k o h hr
   obtain ⟨e1,e2,e3,e4,e5⟩:=C1 h
   have hs:=hl.mem e5
   have hlen:=hl.len
   obtain ⟨i1,i2⟩:=ih s e5
   have hbB:C0.bulks s.Body≤BB:=hs.body
   simp only [D0.ndss,D0.nds_eq] at hr
   have hh:=hr.high
   have hlo:=hr.low
   have hw:(R0.mk (IntKind.i64.wrap (o.nodes+1)) o.depth)=szX o 1 0:=by
    unfold BB at hh
    rw [wr (by omega) (by omega)]
    have:=hr.dep
    simp only [szX]
    rw [show max o.depth ((0:Nat):Int)=o.depth by omega]
    rfl
   have q1:D6 (szX o 1 0) (tN s.TypeV (isK s.Kind)+(oN s.Value (uV2 s.Kind)+(D0.ndss s.Params+(D0.ndss s.Vars+(C0.ndss s.Body+D0.ndss r))))):=D6.x (hr.less (by omega))
   have q2:=D6.x (m:=tD s.TypeV (isK s.Kind)) q1
   have q3:=D6.x (m:=oD s.Value (uV2 s.Kind)) q2
   have q4:=D6.x (m:=D0.dpss s.Params) q3
   have q5:=D6.x (m:=D0.dpss s.Vars) q4
   have q6:=D6.x (m:=C0.dpss s.Body 1) q5
   rw [Fb,e1,if_pos rfl,e2,ob,rDT,ob,hw,Z1q _ s.TypeV _ hs.type (q1.less (by omega)),ob,rDV,ob,G11 _ s.Value _ hs.value (q2.less (by omega)),ob,i1 hs.params _ (q3.less (by omega)),ob,i2 hs.vars _ (q4.less (by omega)),ob,
    show (1:Int)=((1:Nat):Int) from rfl,S15 s.Body hs.body 1 _ (by unfold BB at *; omega) (q5.less (by omega)),ob,show ((k:Int)+((1:Nat):Int))=(k:Int)+1 from rfl,w1 (by omega),ihr (k+1) _ e3 q6]
   simp only [Zv,D0.ndss,D0.dpss,D0.nds_eq,D0.dps_eq,Nat.add_assoc,Nat.max_assoc,Nat.zero_max]
 rw [Ca]
 exact main l 0 o rfl hr
theorem B1m (s:C0)(hs:Lr s)(p:B0→Bool)(g:B0→Option Bool)(hg:∀ x∈s.Args,g x=some (x.all p))(K:Option Bool)(F:Int→Option Bool)(y:Bool)(hK:K=some y)
  (hF:∀ k:Int,F k=if decide (k < (s.Args.length:Int))=true then idx s.Args k>>=fun x=>g x>>=fun b=>if (!b)=true then some false else F (IntKind.i64.wrap (k+1)) else K) :
  ∀ (r:List B0) (k:Nat),s.Args.drop k=r→F (k:Int)=some (B0.alls p r&&y)
 | [],k,h=>by rw [hF,(Y0 h).1,if_neg (by simp),hK]; rfl
 | x::r,k,h=>by
  obtain ⟨e1,e2,e3,e4,e5⟩:=C1 h
  have:=hs.args
  rw [hF,e1,if_pos rfl,e2,ob,hg x e5,ob,w1 (by omega),B1m s hs p g hg K F y hK hF r (k+1) e3,B0.alls]
  cases x.all p <;> simp
theorem V11 (l:List C0):OkS l→X6 l=some (C0.alls sform l):=by
 induction l using C0.inds with
 | h l ih=>
 intro hl
 have main:∀ (r:List C0) (k:Nat),l.drop k=r→Ea l k=some (C0.alls sform r):=by
  intro r
  induction r with
  | nil=>intro k h; rw [Ea,(Y0 h).1,if_neg (by simp)]; rfl
  | cons s r ihr=>
   intro k h
   obtain ⟨e1,e2,e3,e4,e5⟩:=C1 h
   have hs:=hl.mem e5
   have hlen:=hl.len
   obtain ⟨i1,i2⟩:=ih s e5
   have l2:=B1m s hs B2 O4 (fun x hx=>Xv x (hs.arg x hx)) _ (fun k'=>Rc l s k k') (C0.alls sform s.Then&&C0.alls sform s.Else&&C0.alls sform r)
    (by
     rw [i1 hs.thens,ob,i2 hs.elses,ifd,ob,w1 (by omega),ihr (k+1) e3]
     cases C0.alls sform s.Then <;> cases C0.alls sform s.Else <;> simp)
    (fun k'=>Rc.eq_1 l s k k') s.Args 0 rfl
   rw [show ((0:Nat):Int)=0 from rfl] at l2
   rw [Ea,e1,if_pos rfl,e2,ob]
   simp only [rUP,rUV,rUN,E1w,rUT,Y1d,Xv _ hs.place,Xv _ hs.value,Yv _ hs.place,Yv _ hs.value,ifd,ob]
   have:=ifs (b:=bif decide (s.Verb < 0) then true else decide (s.Verb > 8)) (c:=okV s.Verb) (by unfold okV; rw [Bool.not_not])
    (ifs (c:=oF s.Place (uPl s.Verb)&&(bif uPl s.Verb then s.Place.place else true)) (b:=bif (bif uPl s.Verb then (bif (!(bif uPl s.Verb then s.Place.place else default)) then true else (!(bif (uPl s.Verb&&(!(!(bif uPl s.Verb then s.Place.place else default)))) then s.Place.all B2 else default))) else false) then true else (bif (!(bif (!(bif uPl s.Verb then (bif (!(bif uPl s.Verb then s.Place.place else default)) then true else (!(bif (uPl s.Verb&&(!(!(bif uPl s.Verb then s.Place.place else default)))) then s.Place.all B2 else default))) else false)) then uPl s.Verb else default)) then (!(bif ((!(bif uPl s.Verb then (bif (!(bif uPl s.Verb then s.Place.place else default)) then true else (!(bif (uPl s.Verb&&(!(!(bif uPl s.Verb then s.Place.place else default)))) then s.Place.all B2 else default))) else false))&&(!(bif (!(bif uPl s.Verb then (bif (!(bif uPl s.Verb then s.Place.place else default)) then true else (!(bif (uPl s.Verb&&(!(!(bif uPl s.Verb then s.Place.place else default)))) then s.Place.all B2 else default))) else false)) then uPl s.Verb else default))) then Id s.Place else default)) else false))
     (by unfold oF; cases uPl s.Verb <;> cases s.Place.place <;> cases s.Place.all B2 <;> cases Id s.Place <;> rfl)
    (ifs (c:=oF s.Value (uVa s.Verb)) (b:=bif (bif uVa s.Verb then (!(bif uVa s.Verb then s.Value.all B2 else default)) else false) then true else (bif (!(bif (!(bif uVa s.Verb then (!(bif uVa s.Verb then s.Value.all B2 else default)) else false)) then uVa s.Verb else default)) then (!(bif ((!(bif uVa s.Verb then (!(bif uVa s.Verb then s.Value.all B2 else default)) else false))&&(!(bif (!(bif uVa s.Verb then (!(bif uVa s.Verb then s.Value.all B2 else default)) else false)) then uVa s.Verb else default))) then Id s.Value else default)) else false))
     (by unfold oF; cases uVa s.Verb <;> cases s.Value.all B2 <;> cases Id s.Value <;> rfl)
    (ifs (c:=(bif uNm s.Verb then true else s.Name == [])&&(bif s.Verb == 1 then true else ((s.Args.length:Int) == 0))&&(bif uNn s.Verb then true else s.NV == 0)&&(bif s.Verb == 7 then true else (bif s.Low == 0 then s.High == 0 else false))&&(bif s.Verb == 8 then true else ((s.Numbers.length:Int) == 0)))
     (b:=bif (bif (bif (bif (bif (!(uNm s.Verb)) then (!(s.Name == [])) else false) then true else (bif (s.Verb != 1) then (((s.Args).length:Int) != 0) else false)) then true else (bif (!(bif (!(bif (bif (!(uNm s.Verb)) then (!(s.Name == [])) else false) then true else (bif (s.Verb != 1) then (((s.Args).length:Int) != 0) else false))) then uNn s.Verb else default)) then (s.NV != 0) else false)) then true else (bif (s.Verb != 7) then (bif (s.Low != 0) then true else (s.High != 0)) else false)) then true else (bif (s.Verb != 8) then (((s.Numbers).length:Int) != 0) else false))
     (by
      unfold bne
      generalize (s.Verb == 1)=a1; generalize (s.Verb == 7)=a2; generalize (s.Verb == 8)=a3; generalize (s.Name == [])=a4; generalize ((s.Args.length:Int) == 0)=a5; generalize (s.NV == 0)=a6; generalize (s.Low == 0)=a7; generalize (s.High == 0)=a8
      generalize ((s.Numbers.length:Int) == 0)=a9; generalize uNm s.Verb=b1; generalize uNn s.Verb=b2
      cases b1 <;> cases a4 <;> cases a1 <;> cases a5 <;> cases b2 <;> cases a6 <;> first | rfl | (cases a2 <;> cases a7 <;> cases a8 <;> cases a3 <;> cases a9 <;> rfl))
    (ifs (c:=(bif uTh s.Verb then true else ((s.Then.length:Int) == 0))&&(bif s.Verb == 5 then true else ((s.Else.length:Int) == 0))) (b:=bif (bif (!(uTh s.Verb)) then (((s.Then).length:Int) != 0) else false) then true else (bif (s.Verb != 5) then (((s.Else).length:Int) != 0) else false))
     (by
      unfold bne
      generalize (s.Verb == 5)=a1; generalize ((s.Then.length:Int) == 0)=a2; generalize ((s.Else.length:Int) == 0)=a3
      generalize uTh s.Verb=a0
      cases a0 <;> cases a1 <;> cases a2 <;> cases a3 <;> rfl) l2))))
   refine this.trans ?_
   simp only [C0.alls,C0.all_eq,sform,Bool.and_assoc]
   congr 1
   generalize B0.alls B2 s.Args=x
   generalize (bif s.Verb == 1 then true else ((s.Args.length:Int) == 0))=y
   ac_rfl
 rw [X6]
 exact main l 0 rfl
end Go.Proofs.YtdkabnfphmmmnaaGreatDoor

set_option linter.unusedSimpArgs false
set_option linter.unusedVariables false
set_option maxHeartbeats 1000000
namespace Go.Proofs.YtdkabnfphmmmnaaGreatDoor
open Go.Am
theorem D1h (c:List D0)(hc:c.length≤BB)(q:D0→Bool)(K:Option Bool)(F:Int→Option Bool)(y:Bool)(hK:K=some y)
  (hF:∀ (r:List D0) (k:Nat) (x:D0),c.drop k=x::r→F (k:Int)=if q x=true then F (IntKind.i64.wrap ((k:Int)+1)) else some false) (hE:∀ k:Nat,c.drop k=[]→F (k:Int)=K) :
  ∀ (r:List D0) (k:Nat),c.drop k=r→F (k:Int)=some (r.all q&&y)
 | [],k,h=>by rw [hE k h,hK]; rfl
 | x::r,k,h=>by
  obtain ⟨e1,e2,e3,e4,e5⟩:=C1 h
  rw [hF r k x h,w1 (by omega),D1h c hc q K F y hK hF hE r (k+1) e3,List.all_cons]
  cases q x <;> simp
theorem O1e (l:List D0):OkD l→S8 l=some (D0.alls dform l):=by
 induction l using D0.inds with
 | h l ih=>
 intro hl
 have main:∀ (r:List D0) (k:Nat),l.drop k=r→Fa l k=some (D0.alls dform r):=by
  intro r
  induction r with
  | nil=>intro k h; rw [Fa,(Y0 h).1,if_neg (by simp)]; rfl
  | cons d r ihr=>
   intro k h
   obtain ⟨e1,e2,e3,e4,e5⟩:=C1 h
   have hs:=hl.mem e5
   have hlen:=hl.len
   obtain ⟨i1,i2⟩:=ih d e5
   have l3:=D1h d.Vars hs.vars.len vOk _ (fun k'=>R5 l d k k') (D0.alls dform d.Params&&D0.alls dform d.Vars&&C0.alls sform d.Body&&D0.alls dform r) rfl
    (fun r' k' x hx=>by
     obtain ⟨f1,f2,f3,f4,f5⟩:=C1 hx
     show R5 l d k k'=_
     rw [R5,f1,if_pos rfl,f2,ob]
     unfold vOk bne
     cases (x.Kind == 4) <;> rfl)
    (fun k' hx=>by
     show R5 l d k k'=_
     rw [R5,(Y0 hx).1,if_neg (by simp),i1 hs.params,ob,i2 hs.vars,ifd,ob,V11 d.Body hs.body,ifd,ob,w1 (by omega),ihr (k+1) e3]
     cases D0.alls dform d.Params <;> cases D0.alls dform d.Vars <;> cases C0.alls sform d.Body <;> simp) d.Vars 0 rfl
   have l2:=D1h d.Params hs.params.len pOk _ (fun k'=>Q5 l d k k') (d.Vars.all vOk&&(D0.alls dform d.Params&&D0.alls dform d.Vars&&C0.alls sform d.Body&&D0.alls dform r)) rfl
    (fun r' k' x hx=>by
     obtain ⟨f1,f2,f3,f4,f5⟩:=C1 hx
     show Q5 l d k k'=_
     rw [Q5,f1,if_pos rfl,f2,ob]
     unfold pOk bne
     cases (x.Kind == 4)
     ·rfl
     ·simp only [Bool.not_true,Bool.not_false,if_true,ob,cond_true,cond_false]
      cases (x.Init == 0) <;> rfl)
    (fun k' hx=>by
     show Q5 l d k k'=_
     rw [Q5,(Y0 hx).1,if_neg (by simp)]
     exact l3) d.Params 0 rfl
   rw [show ((0:Nat):Int)=0 from rfl] at l2
   rw [Fa,e1,if_pos rfl,e2,ob]
   simp only [rDT,rDV,T1q _ hs.type,Xv _ hs.value,Yv _ hs.value,ifd,ob]
   have:=ifs (b:=bif (!(isK d.Kind)) then true else (!(bif (!(!(isK d.Kind))) then d.TypeV.all D3 else default))) (c:=isK d.Kind&&d.TypeV.all D3) (by cases isK d.Kind <;> cases d.TypeV.all D3 <;> rfl)
    (ifs (c:=oF d.Value (uV2 d.Kind)&&(bif d.Kind == 4 then true else d.Init == 0)) (b:=bif (bif (bif uV2 d.Kind then (!(bif uV2 d.Kind then d.Value.all B2 else default)) else false) then true else (bif (!(bif (!(bif uV2 d.Kind then (!(bif uV2 d.Kind then d.Value.all B2 else default)) else false)) then uV2 d.Kind else default)) then (!(bif ((!(bif uV2 d.Kind then (!(bif uV2 d.Kind then d.Value.all B2 else default)) else false))&&(!(bif (!(bif uV2 d.Kind then (!(bif uV2 d.Kind then d.Value.all B2 else default)) else false)) then uV2 d.Kind else default))) then Id d.Value else default)) else false)) then true else (bif (d.Kind != 4) then (d.Init != 0) else false))
     (by
      unfold oF bne
      generalize (d.Kind == 4)=a1
      generalize (d.Init == 0)=a2
      generalize uV2 d.Kind=a3
      cases a3 <;> cases d.Value.all B2 <;> cases Id d.Value <;> cases a1 <;> cases a2 <;> rfl)
    (ifs (c:=bif d.Kind == 6 then true else Zs d) (b:=bif (d.Kind != 6) then (bif (bif (((d.Params).length:Int) != 0) then true else (((d.Vars).length:Int) != 0)) then true else (((d.Body).length:Int) != 0)) else false)
     (by
      unfold Zs bne
      cases (d.Kind == 6) <;> cases ((d.Params.length:Int) == 0) <;> cases ((d.Vars.length:Int) == 0) <;> cases ((d.Body.length:Int) == 0) <;> rfl) l2))
   refine this.trans ?_
   simp only [D0.alls,D0.all_eq,dform,Bool.and_assoc]
   congr 1
   ac_rfl
 rw [S8]
 exact main l 0 rfl
theorem P1o (s:C0)(hs:Lr s)(p:B0→Bool)(g:B0→Option Bool)(hg:∀ x∈s.Args,g x=some (x.all p))(K:Option Bool)(F:Int→Option Bool)(y:Bool)(hK:K=some y)
  (hF:∀ k:Int,F k=if decide (k < (s.Args.length:Int))=true then idx s.Args k>>=fun x=>g x>>=fun b=>if (!b)=true then some false else F (IntKind.i64.wrap (k+1)) else K):F 0=some (B0.alls p s.Args&&y):=
 B1m s hs p g hg K F y hK hF s.Args 0 rfl
theorem Yy (l:List C0):OkS l→Y5 l=some (C0.alls N9 l):=by
 induction l using C0.inds with
 | h l ih=>
 intro hl
 have main:∀ (r:List C0) (k:Nat),l.drop k=r→X8 l k=some (C0.alls N9 r):=by
  intro r
  induction r with
  | nil=>intro k h; rw [X8,(Y0 h).1,if_neg (by simp)]; rfl
  | cons s r ihr=>
   intro k h
   obtain ⟨e1,e2,e3,e4,e5⟩:=C1 h
   have hs:=hl.mem e5
   have hlen:=hl.len
   obtain ⟨i1,i2⟩:=ih s e5
   have l2:=P1o s hs J4 B4 (fun x hx=>Vs x (hs.arg x hx)) _ (fun k'=>Ub l s k k') (C0.alls N9 r) (by rw [w1 (by omega),ihr (k+1) e3]) (fun k'=>Ub.eq_1 l s k k')
   rw [X8,e1,if_pos rfl,e2,ob]
   simp only [rUN,We _ hs.name,Vs _ hs.place,Vs _ hs.value,i1 hs.thens,i2 hs.elses,ifd,ob,l2]
   simp only [C0.alls,C0.all_eq,N9]
   generalize uNm s.Verb=a1
   generalize T2 s.Name=a2
   generalize s.Place.all J4=a3
   generalize s.Value.all J4=a4
   generalize C0.alls N9 s.Then=a5
   generalize C0.alls N9 s.Else=a6
   cases a1 <;> cases a2 <;> cases a3 <;> cases a4 <;> cases a5 <;> cases a6 <;> simp
 rw [Y5]
 exact main l 0 rfl
theorem R1c (l:List D0):OkD l→M7 l=some (D0.alls Kc l):=by
 induction l using D0.inds with
 | h l ih=>
 intro hl
 have main:∀ (r:List D0) (k:Nat),l.drop k=r→Y8 l k=some (D0.alls Kc r):=by
  intro r
  induction r with
  | nil=>intro k h; rw [Y8,(Y0 h).1,if_neg (by simp)]; rfl
  | cons d r ihr=>
   intro k h
   obtain ⟨e1,e2,e3,e4,e5⟩:=C1 h
   have hs:=hl.mem e5
   have hlen:=hl.len
   obtain ⟨i1,i2⟩:=ih d e5
   rw [Y8,e1,if_pos rfl,e2,ob]
   simp only [We _ hs.name,F1o _ hs.type,Vs _ hs.value,i1 hs.params,i2 hs.vars,Yy _ hs.body,ifd,ob,w1 (show k≤BB by omega),ihr (k+1) e3]
   simp only [D0.alls,D0.all_eq,Kc]
   generalize T2 d.Name=a2
   generalize d.TypeV.all J5=a3
   generalize d.Value.all J4=a4
   generalize D0.alls Kc d.Params=a5
   generalize D0.alls Kc d.Vars=a6
   generalize C0.alls N9 d.Body=a1
   cases a1 <;> cases a2 <;> cases a3 <;> cases a4 <;> cases a5 <;> cases a6 <;> simp
 rw [M7]
 exact main l 0 rfl
theorem C1m (x:Int):X1 x 0 1048576=(bif decide (x < 0) then false else !decide (x > 1048576)):=by
 unfold X1
 rw [D11,E11]
 cases decide (x≥0) <;> cases decide (x≤1048576) <;> rfl
theorem Q1o (s:C0)(hs:Lr s):∀ (r:List Int) (k:Nat) (last:Int),s.Numbers.drop k=r→(k=0∧last = -1∨0 < k∧idx s.Numbers ((k - 1:Nat):Int)=some last)→T4 s k=some (Co last r)
 | [],k,last,h,h0=>by rw [T4,(Y0 h).1,if_neg (by simp)]; rfl
 | x::r,k,last,h,h0=>by
  obtain ⟨e1,e2,e3,e4,e5⟩:=C1 h
  have hnl:=hs.nums
  have ih:=Q1o s hs r (k+1) x e3 (.inr ⟨by omega,e2⟩)
  unfold BB at hnl
  rw [show Co last (x::r)=((bif X1 x 0 1048576 then decide (x > last) else false)&&Co x r) from rfl,C1m,T4,e1,if_pos rfl,e2,ob,w1 (by unfold BB; omega),ih]
  by_cases hx:x < 0
  ·rw [decide_eq_true hx]; rfl
  ·rw [decide_eq_false hx,if_pos (show (!false)=true from rfl),ob]
   cases hB:decide (x > 1048576) with
   | true=>rfl
   | false=>
    rcases h0 with ⟨rfl,rfl⟩ | ⟨hk,hl⟩
    ·have hk:decide (((0:Nat):Int) > 0)=false:=by decide
     rw [hk,decide_eq_true (show x > -1 by omega)]
     cases Co x r <;> rfl
    ·have hk':decide ((k:Int) > 0)=true:=decide_eq_true (by omega)
     have hw:IntKind.i64.wrap ((k:Int) - 1)=((k - 1:Nat):Int):=by rw [wr (by omega) (by omega)]; omega
     have hd:decide (x≤last) = !decide (x > last):=by rw [← decide_not]; exact decide_eq_decide.2 (by omega)
     rw [hk',hw,hl]
     show (if decide (x≤last)=true then some false else some (Co x r))=some (decide (x > last)&&Co x r)
     rw [hd]
     cases decide (x > last) <;> cases Co x r <;> rfl
theorem A1r (s:C0)(hs:Lr s):Pd s=some (Lh s):=by
 unfold Pd Lh
 cases s.Verb == 4 with
 | true=>rw [if_pos rfl]; rfl
 | false=>
  rw [if_neg (by simp)]
  cases s.Verb == 6 with
  | true=>rw [if_pos rfl]; rfl
  | false=>
   rw [if_neg (by simp)]
   cases s.Verb == 7 with
   | true=>
    rw [if_pos rfl,Wv,ob,Wv,ifd,ob]
    show some _=some (bif (bif X1 s.Low (-1048576) 1048576 then X1 s.High s.Low 1048576 else false) then decide (s.High - s.Low < 4096) else false)
    congr 1
    by_cases hb:(-1048576≤s.Low∧s.Low≤1048576)∧(-1048576≤s.High∧s.High≤1048576)
    ·obtain ⟨⟨b1,b2⟩,b3,b4⟩:=hb
     rw [wr (n:=s.High - s.Low) (by omega) (by omega),wr (n:=s.High - s.Low+1) (by omega) (by omega)]
     unfold Xf X1
     rw [decide_eq_true (show s.Low≥-1048576 from b1),decide_eq_true b2,decide_eq_true (show s.High≥-1048576 from b3),decide_eq_true b4]
     simp only [cond_true]
     have e:decide (s.High - s.Low+1≤4096)=decide (s.High - s.Low < 4096):=decide_eq_decide.2 (by omega)
     rw [e]
     show (bif decide (s.Low≤s.High) then decide (s.High - s.Low < 4096) else false)=(bif (bif decide (s.Low≤s.High) then true else false) then decide (s.High - s.Low < 4096) else false)
     cases decide (s.Low≤s.High) <;> rfl
    ·unfold Xf X1
     by_cases h1 : -1048576≤s.Low∧s.Low≤1048576
     ·obtain ⟨b1,b2⟩:=h1
      rw [decide_eq_true (show s.Low≥-1048576 from b1),decide_eq_true b2]
      simp only [cond_true]
      by_cases h2:s.High≤1048576
      ·have h3:¬ s.High≥-1048576:=fun h=>hb ⟨⟨b1,b2⟩,h,h2⟩
       rw [decide_eq_false h3,decide_eq_false (show ¬ s.High≥s.Low by omega)]
       rfl
      ·rw [decide_eq_false h2]
       cases decide (s.High≥-1048576) <;> cases decide (s.High≥s.Low) <;> rfl
     ·have:(bif decide (s.Low≥-1048576) then decide (s.Low≤1048576) else false)=false:=by
       by_cases h2 : -1048576≤s.Low
       ·rw [decide_eq_true (show s.Low≥-1048576 from h2),decide_eq_false (fun h=>h1 ⟨h2,h⟩)]; rfl
       ·rw [decide_eq_false (show ¬ s.Low≥-1048576 from h2)]; rfl
      rw [this]
      rfl
   | false=>
    rw [if_neg (by simp)]
    cases s.Verb == 8 with
    | true=>
     have:=Q1o s hs s.Numbers 0 (-1) rfl (.inl ⟨rfl,rfl⟩)
     rw [show ((0:Nat):Int)=0 from rfl] at this
     rw [if_pos rfl,this,D11,E11]
     show _=some (X1 (s.Numbers.length:Int) 1 32&&Co (-1) s.Numbers)
     unfold X1
     cases decide ((s.Numbers.length:Int)≥1) <;> cases decide ((s.Numbers.length:Int)≤32) <;> simp
    | false=>rfl
theorem Ru (l:List C0):OkS l→U4 l=some (C0.alls snumb l):=by
 induction l using C0.inds with
 | h l ih=>
 intro hl
 have main:∀ (r:List C0) (k:Nat),l.drop k=r→B7 l k=some (C0.alls snumb r):=by
  intro r
  induction r with
  | nil=>intro k h; rw [B7,(Y0 h).1,if_neg (by simp)]; rfl
  | cons s r ihr=>
   intro k h
   obtain ⟨e1,e2,e3,e4,e5⟩:=C1 h
   have hs:=hl.mem e5
   have hlen:=hl.len
   obtain ⟨i1,i2⟩:=ih s e5
   have l2:=P1o s hs K4 I3 (fun x hx=>Bo x (hs.arg x hx)) _ (fun k'=>Ia l s k k') (C0.alls snumb r) (by rw [w1 (by omega),ihr (k+1) e3]) (fun k'=>Ia.eq_1 l s k k')
   rw [B7,e1,if_pos rfl,e2,ob]
   simp only [A1r s hs,Bo _ hs.place,Bo _ hs.value,i1 hs.thens,i2 hs.elses,ifd,ob,l2]
   simp only [C0.alls,C0.all_eq,snumb]
   generalize Lh s=a2
   generalize s.Place.all K4=a3
   generalize s.Value.all K4=a4
   generalize C0.alls snumb s.Then=a5
   generalize C0.alls snumb s.Else=a6
   cases a2 <;> cases a3 <;> cases a4 <;> cases a5 <;> cases a6 <;> simp
 rw [U4]
 exact main l 0 rfl
def H11 (d:D0):Bool:=(d.TypeV.all fun t=>!Wp t)&&d.Value.all K4&&Eo d&&C0.alls snumb d.Body
theorem W18 (l:List D0):OkD l→S5 l=some (D0.alls H11 l):=by
 induction l using D0.inds with
 | h l ih=>
 intro hl
 have main:∀ (r:List D0) (k:Nat),l.drop k=r→C7 l k=some (D0.alls H11 r):=by
  intro r
  induction r with
  | nil=>intro k h; rw [C7,(Y0 h).1,if_neg (by simp)]; rfl
  | cons d r ihr=>
   intro k h
   obtain ⟨e1,e2,e3,e4,e5⟩:=C1 h
   have hs:=hl.mem e5
   have hlen:=hl.len
   obtain ⟨i1,i2⟩:=ih d e5
   rw [C7,e1,if_pos rfl,e2,ob,Wv,ob]
   simp only [U1i _ hs.type,Bo _ hs.value,i1 hs.params,i2 hs.vars,Ru _ hs.body,ifd,ob,w1 (show k≤BB by omega),ihr (k+1) e3]
   have hi:(bif (!(Xf d.Init)) then true else (bif (d.TypeV.Kind == 0) then (bif (decide (d.Init < 0)) then true else (decide (d.Init > 1))) else false)) = !(Eo d):=by
    unfold Eo Xf X1 bne
    rw [D11,E11 d.Init 1]
    cases decide (d.Init≥-1048576) <;> cases decide (d.Init≤1048576) <;> cases (d.TypeV.Kind == 0) <;> cases decide (d.Init≥0) <;> cases decide (d.Init≤1) <;> rfl
   rw [hi]
   simp only [D0.alls,D0.all_eq,H11]
   generalize Eo d=a2
   generalize (d.TypeV.all fun t=>!Wp t)=a3
   generalize d.Value.all K4=a4
   generalize D0.alls H11 d.Params=a5
   generalize D0.alls H11 d.Vars=a6
   generalize C0.alls snumb d.Body=a1
   cases a1 <;> cases a2 <;> cases a3 <;> cases a4 <;> cases a5 <;> cases a6 <;> simp
 rw [S5]
 exact main l 0 rfl
theorem R1o (l:List D0):D0.alls dform l=true→D0.alls H11 l=D0.alls dnumb l:=by
 induction l using D0.inds with
 | h l ih=>
 induction l with
 | nil=>intro _; rfl
 | cons d r ihr=>
  intro h
  simp only [D0.alls,D0.all_eq,Bool.and_eq_true] at h
  obtain ⟨⟨h1,h2,h3⟩,h4⟩:=h
  obtain ⟨i1,i2⟩:=ih d List.mem_cons_self
  have h5:d.TypeV.all D3=true:=by
   unfold dform at h1
   simp only [Bool.and_eq_true] at h1
   exact h1.1.1.1.1.1.1.2
  simp only [D0.alls,D0.all_eq,H11,dnumb,← T1i d.TypeV h5,i1 h2,i2 h3,ihr (fun x hx=>ih x (List.mem_cons_of_mem _ hx)) h4]
theorem B1r (p:O0)(h:OkP p):Ol p=some ⟨Q15 p,R15 p⟩:=by
 have h1:=D0.ndss_bulk p.Decls
 have h2:=C0.ndss_bulk p.Body
 have h3:D0.bulks p.Decls≤BB:=h.decls
 have h4:C0.bulks p.Body≤BB:=h.body
 have hr:D6 ⟨0,0⟩ (D0.ndss p.Decls+C0.ndss p.Body):=⟨Int.le_refl _,Int.le_refl _,by simp only; omega⟩
 unfold Ol
 rw [C1h p.Decls h.decls _ (hr.less (by omega)),ob,show (1:Int)=((1:Nat):Int) from rfl,S15 p.Body h.body 1 _ (by unfold BB at *; omega) (D6.x hr),ob,Zv]
 unfold szX Q15 R15
 simp only
 rw [show (0:Int)+((D0.ndss p.Decls+C0.ndss p.Body:Nat):Int)=((D0.ndss p.Decls+C0.ndss p.Body:Nat):Int) by omega,show max (0:Int) ((max (D0.dpss p.Decls) (C0.dpss p.Body 1):Nat):Int)=((max (D0.dpss p.Decls) (C0.dpss p.Body 1):Nat):Int) by omega]
theorem Q1v (a b:Bool):(bif a then (bif a then b else default) else false)=(a&&b):=by cases a <;> rfl
theorem S1o (p:O0)(h:OkP p):Ql p=some (Y6 p):=by
 unfold Ql
 simp only [B1r p h,O1e _ h.decls,V11 _ h.body,R1c _ h.decls,Yy _ h.body,W18 _ h.decls,Ru _ h.body,ifd,ob,V1i,Q1v]
 unfold Y6
 cases hf:D0.alls dform p.Decls with
 | false=>unfold Cc; rfl
 | true=>rw [R1o p.Decls hf]
theorem P17 (l:List C0):OkS l→∀ n,∃ m,S4 l n=some m:=by
 induction l using C0.inds with
 | h l ih=>
 intro hl n
 have main:∀ (r:List C0) (k:Nat) (n:Int),l.drop k=r→∃ m,H7 l n k=some m:=by
  intro r
  induction r with
  | nil=>intro k n h; rw [H7,(Y0 h).1]; exact ⟨_,rfl⟩
  | cons s r ihr=>
   intro k n h
   obtain ⟨e1,e2,e3,e4,e5⟩:=C1 h
   have hs:=hl.mem e5
   have hlen:=hl.len
   obtain ⟨i1,i2⟩:=ih s e5
   have tail:∀ n:Int,∃ m,(if decide ((s.Numbers.length:Int) > 100)=true then some (-1) else S4 s.Then n>>=fun x6=>S4 s.Else x6>>=fun x7=>H7 l x7 (IntKind.i64.wrap ((k:Int)+1)))=some m:=fun n=>by
    cases decide ((s.Numbers.length:Int) > 100) with
    | true=>exact ⟨_,rfl⟩
    | false=>
     obtain ⟨a,ha⟩:=i1 hs.thens n
     obtain ⟨b,hb⟩:=i2 hs.elses a
     rw [if_neg (by simp),ha,ob,hb,ob,w1 (by omega)]
     exact ihr (k+1) b e3
   have l2:∀ (q:List B0) (j:Nat) (n:Int),s.Args.drop j=q→∃ m,V9 l s n k j=some m:=by
    intro q
    induction q with
    | nil=>intro j n hj; rw [V9,(Y0 hj).1,cond_false,if_neg (by simp)]; exact tail n
    | cons a q ihq=>
     intro j n hj
     obtain ⟨f1,f2,f3,f4,f5⟩:=C1 hj
     have:=hs.args
     rw [V9,f1,cond_true,f2]
     cases decide (n≥0) with
     | false=>rw [if_neg (by simp)]; exact tail n
     | true=>
      obtain ⟨m,hm⟩:=Ws a (hs.arg a f5) n
      rw [if_pos rfl,ob,hm,ob,w1 (by omega)]
      exact ihq (j+1) m f3
   rw [H7,e1,cond_true,e2]
   cases decide (n≥0) with
   | false=>exact ⟨_,rfl⟩
   | true=>
    rw [if_pos rfl,ob]
    obtain ⟨a,ha⟩:=Ws s.Place hs.place (IntKind.i64.wrap ((IntKind.i64.wrap (n - 1)) - (IntKind.i64.wrap (Int.tdiv ((s.Name).length:Int) 16))))
    obtain ⟨b,hb⟩:=Ws s.Value hs.value a
    rw [ha,ob,hb,ob]
    exact l2 s.Args 0 b rfl
 rw [S4]
 exact main l 0 n rfl
theorem D1m (l:List D0):OkD l→∀ n,∃ m,L8 l n=some m:=by
 induction l using D0.inds with
 | h l ih=>
 intro hl n
 have main:∀ (r:List D0) (k:Nat) (n:Int),l.drop k=r→∃ m,W9 l n k=some m:=by
  intro r
  induction r with
  | nil=>intro k n h; rw [W9,(Y0 h).1]; exact ⟨_,rfl⟩
  | cons d r ihr=>
   intro k n h
   obtain ⟨e1,e2,e3,e4,e5⟩:=C1 h
   have hs:=hl.mem e5
   have hlen:=hl.len
   obtain ⟨i1,i2⟩:=ih d e5
   rw [W9,e1,cond_true,e2]
   cases decide (n≥0) with
   | false=>exact ⟨_,rfl⟩
   | true=>
    rw [if_pos rfl,ob]
    obtain ⟨a,ha⟩:=V1l d.TypeV hs.type (IntKind.i64.wrap ((IntKind.i64.wrap (n - 1)) - (IntKind.i64.wrap (Int.tdiv ((d.Name).length:Int) 16))))
    obtain ⟨b,hb⟩:=Ws d.Value hs.value a
    obtain ⟨c,hc⟩:=i1 hs.params b
    obtain ⟨e,he⟩:=i2 hs.vars c
    obtain ⟨f,hf⟩:=P17 d.Body hs.body e
    rw [ha,ob,hb,ob,hc,ob,he,ob,hf,ob,w1 (by omega)]
    exact ihr (k+1) f e3
 rw [L8]
 exact main l 0 n rfl
theorem T1o (p:O0)(h:OkP p)(n:Int):∃ b,Tq p n=some b:=by
 obtain ⟨a,ha⟩:=D1m p.Decls h.decls n
 obtain ⟨b,hb⟩:=P17 p.Body h.body a
 unfold Tq
 rw [ha,ob,hb]
 exact ⟨_,rfl⟩
theorem Zy {p:O0}(h:p.bulk≤4200000):OkP p:=by
 cases p
 simp only [O0.bulk] at h
 exact ⟨by unfold OkD BB; simp only; omega,by unfold OkS BB; simp only; omega⟩
end Go.Proofs.YtdkabnfphmmmnaaGreatDoor

set_option linter.unusedSimpArgs false
namespace Go.Proofs.YtdkabnfphmmmnaaGreatDoor
open Go.Am
def Su {α:Type}(p:α→Bool):List α→Nat→Int
 | [],_=>-1
 | x::r,i=>bif p x then (i:Int) else Su p r (i+1)
theorem E1h {α:Type}(p:α→Bool):∀ (l:List α) (k:Nat),0≤Su p l k ↔ l.any p=true
 | [],k=>by simp [Su]
 | x::r,k=>by
  have ih:=E1h p r (k+1)
  rw [List.any_cons,Bool.or_eq_true,← ih]
  show 0≤(bif p x then (k:Int) else Su p r (k+1)) ↔ _
  cases hp:p x with
  | true=>simp
  | false=>simp
theorem X18 {α:Type}(p:α→Bool)(l:List α)(k:Nat):decide (Su p l k≥0)=l.any p:=by
 rw [Bool.eq_iff_iff,decide_eq_true_eq]
 exact E1h p l k
theorem E1m {α:Type}{l:List α}{k:Nat}(h:k≤l.length):slc l 0 (k:Int)=some (l.take k):=by
 unfold slc
 rw [if_pos ⟨by omega,by omega,by omega⟩]
 simp
theorem I11:(0:Int)=((0:Nat):Int):=rfl
theorem V1j (s:List A0)(hs:s.length≤BB)(ih:∀ x∈s,Ge x=some (x.some Nm)) :
  ∀ (r:List A0) (k:Nat),s.drop k=r→C2 s k=some (Su (A0.some Nm) r k)
 | [],k,h=>by rw [C2,(Y0 h).1,if_neg (by simp)]; rfl
 | x::r,k,h=>by
  obtain ⟨e1,e2,e3,e4,e5⟩:=C1 h
  rw [C2,e1,if_pos rfl,e2,ob,ih x e5,ob,w1 (by omega),V1j s hs ih r (k+1) e3,Su]
  cases A0.some Nm x <;> simp
theorem C1r (t:A0):Ok t→Ge t=some (t.some Nm):=by
 induction t using A0.ind with
 | h t ih=>
 intro ht
 have:=V1j t.Of ht.ofs (fun x hx=>ih x hx (ht.kid hx)) t.Of 0 rfl
 rw [← I11] at this
 rw [Ge,X5,Z6,this,ob,A0.some_eq,X18]
 show _=some ((t.Kind == 4)||_)
 cases t.Kind == 4 <;> simp
theorem F1h (s:List Str)(v:Str)(hs:s.length≤BB):∀ (r:List Str) (k:Nat),s.drop k=r→L2 s v k=some (Su (fun y=>v == y) r k)
 | [],k,h=>by rw [L2,(Y0 h).1,if_neg (by simp)]; rfl
 | x::r,k,h=>by
  obtain ⟨e1,e2,e3,e4,e5⟩:=C1 h
  rw [L2,e1,if_pos rfl,e2,ob,w1 (by omega),F1h s v hs r (k+1) e3,Su]
  cases v == x <;> simp
theorem G1h (s:List Str)(v:Str)(hs:s.length≤BB):Z4 s v=some (s.any fun y=>v == y):=by
 unfold Z4 L9
 have:=F1h s v hs s 0 rfl
 rw [← I11] at this
 rw [this,ob,← X18 (fun y=>v == y) s 0]
theorem I1e (s:List A0)(hs:s.length≤BB)(ih:∀ x∈s,Gc x=some (x.some Ao)) :
  ∀ (r:List A0) (k:Nat),s.drop k=r→Q2 s k=some (Su (A0.some Ao) r k)
 | [],k,h=>by rw [Q2,(Y0 h).1,if_neg (by simp)]; rfl
 | x::r,k,h=>by
  obtain ⟨e1,e2,e3,e4,e5⟩:=C1 h
  rw [Q2,e1,if_pos rfl,e2,ob,ih x e5,ob,w1 (by omega),I1e s hs ih r (k+1) e3,Su]
  cases A0.some Ao x <;> simp
theorem W1j (t:A0)(ht:Ok t)(b:Bool)(hb:G3 t.Of=some b) :
  ∀ (r:List Str) (k:Nat),t.Names.drop k=r→Ie t k=some (tw (t.Names.take k) r||b)
 | [],k,h=>by rw [Ie,(Y0 h).1,if_neg (by simp),hb,ob]; rfl
 | x::r,k,h=>by
  obtain ⟨e1,e2,e3,e4,e5⟩:=C1 h
  have:=ht.names
  have hx:t.Names[k]?=Option.some x:=by
   have:=congrArg List.head? h
   simpa using this
  rw [Ie,e1,if_pos rfl,e2,ob,E1m (by omega),ob,G1h _ _ (by simp; omega),ob,w1 (by omega),W1j t ht b hb r (k+1) e3,tw,List.take_add_one,hx]
  show _=some (((t.Names.take k).any fun y=>x == y)||tw (t.Names.take k++[x]) r||b)
  cases (t.Names.take k).any fun y=>x == y <;> simp
theorem H1h (t:A0):Ok t→Gc t=some (t.some Ao):=by
 induction t using A0.ind with
 | h t ih=>
 intro ht
 have h1:=I1e t.Of ht.ofs (fun x hx=>ih x hx (ht.kid hx)) t.Of 0 rfl
 have h2:G3 t.Of=some (t.Of.any (A0.some Ao)):=by
  rw [← I11] at h1
  rw [G3,H8,h1,ob,X18]
 rw [Gc,I11,W1j t ht _ h2 t.Names 0 rfl,A0.some_eq]
 rfl
theorem J1e {t:A0}(hf:T3 t)(h3:(t.Kind == 3)=true){l:List A0}(hl:∀ x∈l,x∈t.Of)(hn:l.length≤t.Of.length):0≤A0.cnts l∧A0.cnts l≤1056:=by
 have h1:=A0.cnts_bound l fun y hy=>A0.cnt_ge y (hf.kid (hl y hy))
 have h2:=(hf.recd h3).1
 omega
theorem X1j (t:A0)(hf:T3 t)(h3:(t.Kind == 3)=true)(ih:∀ x∈t.Of,Oa x=some x.cnt) :
  ∀ (r:List A0) (k:Nat) (n:Int),t.Of.drop k=r→0≤n→n+A0.cnts r≤2000→Ke t n k=some (min (n+A0.cnts r) 33)
 | [],k,n,h,_,_=>by
  rw [Ke,(Y0 h).1,if_neg (by simp)]
  simp [A0.cnts]
 | x::r,k,n,h,h0,hb=>by
  obtain ⟨e1,e2,e3,e4,e5⟩:=C1 h
  have:=(hf.recd h3).1
  have hr:=J1e hf h3 (l:=r) (fun y hy=>List.mem_of_mem_drop (i:=k+1) (by rw [e3]; exact hy)) (by rw [← e3]; simp)
  have hc:=A0.cnt_le x
  have hc':=A0.cnt_ge x (hf.kid e5)
  simp only [A0.cnts] at hb
  rw [Ke,e1,if_pos rfl,e2,ob,ih x e5,ob,wr (n:=n+_) (by omega) (by omega),w1 (by unfold BB; omega),X1j t hf h3 ih r (k+1) _ e3 (by omega) (by omega)]
  simp only [A0.cnts,Int.add_assoc]
theorem I1h (t:A0):T3 t→Oa t=some t.cnt:=by
 induction t using A0.ind with
 | h t ih=>
 intro hf
 have ih':=fun x hx=>ih x hx (hf.kid hx)
 rw [Oa,A0.cnt_eq]
 cases h2:t.Kind == 2 with
 | true=>
  obtain ⟨x,hx,s1,s2⟩:=hf.arr h2
  have hm:x∈t.Of:=by rw [hx]; exact List.mem_cons_self
  have hc:=A0.cnt_le x
  have hc':=A0.cnt_ge x (hf.kid hm)
  have hi:idx t.Of 0=some x:=by rw [hx]; rfl
  have hb:0≤min t.Size 33 * x.cnt:=Int.mul_nonneg (by omega) hc'
  have hb':min t.Size 33 * x.cnt≤33 * 33:=Int.mul_le_mul (by omega) hc hc' (by omega)
  rw [if_pos rfl,hi,ob,ih' x hm,ob,wr (by omega) (by omega),hx]
  rfl
 | false=>
  cases h3:t.Kind == 3 with
  | true=>
   have hr:=J1e hf h3 (l:=t.Of) (fun _ h=>h) (Nat.le_refl _)
   rw [if_neg (by simp),if_pos rfl,I11,X1j t hf h3 ih' t.Of 0 _ rfl (by omega) (by omega)]
   simp
  | false=>rfl
theorem F1m (t:A0)(ht:Ok t):Ml t=some (Bk t):=by
 unfold Ml Bk
 rw [N15 t ht,ob]
 cases h:G8 t != 0 with
 | true=>rfl
 | false=>
  have hf:=N1c (show G8 t=0 by simpa using h)
  unfold Aq P1g
  rw [C1r t ht,H1h t ht,I1h t hf]
  cases t.some Nm <;> cases t.some Ao <;> by_cases hc:t.cnt > 32 <;> simp [ob,hc]
theorem At {α:Type}{l:List α}{k:Nat}(h:k < l.length):∃ y,idx l (k:Int)=some y∧l.drop k=y::l.drop (k+1)∧y∈l:=by
 refine ⟨l[k],?_,List.drop_eq_getElem_cons h,List.getElem_mem h⟩
 unfold idx
 rw [if_pos (by omega)]
 simp [h]
end Go.Proofs.YtdkabnfphmmmnaaGreatDoor

set_option linter.unusedSimpArgs false
namespace Go.Proofs.YtdkabnfphmmmnaaGreatDoor
open Go.Am
end Go.Proofs.YtdkabnfphmmmnaaGreatDoor

set_option linter.unusedSimpArgs false
namespace Go.Proofs.YtdkabnfphmmmnaaGreatDoor
open Go.Am
theorem C1b (s u:List Str)(hs:s.length≤BB)(hl:s.length=u.length):∀ (r:List Str) (k:Nat),s.drop k=r→K1 s u k=some (eqL (fun x y=>x == y) r (u.drop k))
 | [],k,h=>by
  rw [K1,(Y0 h).1,if_neg (by simp),List.drop_eq_nil_of_le (by have:=(Y0 h).2; omega)]; rfl
 | x::r,k,h=>by
  obtain ⟨e1,e2,e3,e4,e5⟩:=C1 h
  obtain ⟨y,f1,f2,f3⟩:=At (l:=u) (k:=k) (by omega)
  rw [K1,e1,if_pos rfl,e2,ob,f1,ob,w1 (by omega),C1b s u hs hl r (k+1) e3,f2,eqL]
  cases x == y <;> simp
theorem W1i (s u:List Str)(hs:s.length≤BB):X2 s u=some (eqL (fun x y=>x == y) s u):=by
 unfold X2
 by_cases hl:s.length=u.length
 ·rw [if_neg (by simp; omega),I11,C1b s u hs hl s 0 rfl]; rfl
 ·rw [if_pos (by simp; omega),Uk _ hl]
theorem D1b (s u:List A0)(hs:s.length≤BB)(hl:s.length=u.length)(ih:∀ x∈s,∀ y,Fe x y=some (x.same y)) :
  ∀ (r:List A0) (k:Nat),s.drop k=r→E1 s u k=some (eqL A0.same r (u.drop k))
 | [],k,h=>by
  rw [E1,(Y0 h).1,if_neg (by simp),List.drop_eq_nil_of_le (by have:=(Y0 h).2; omega)]; rfl
 | x::r,k,h=>by
  obtain ⟨e1,e2,e3,e4,e5⟩:=C1 h
  obtain ⟨y,f1,f2,f3⟩:=At (l:=u) (k:=k) (by omega)
  rw [E1,e1,if_pos rfl,e2,ob,f1,ob,ih x e5 y,ob,w1 (by omega),D1b s u hs hl ih r (k+1) e3,f2,eqL]
  cases x.same y <;> simp
theorem D1r (t:A0):Ok t→∀ u,Fe t u=some (t.same u):=by
 induction t using A0.ind with
 | h t ih=>
 intro ht u
 have ih':=fun x hx=>ih x hx (ht.kid hx)
 have hO:D2 t.Of u.Of=some (eqL A0.same t.Of u.Of):=by
  rw [D2]
  by_cases hl:t.Of.length=u.Of.length
  ·rw [if_neg (by simp; omega),I11,D1b t.Of u.Of ht.ofs hl ih' t.Of 0 rfl]; rfl
  ·rw [if_pos (by simp; omega),Uk _ hl]
 rw [Fe,hO,W1i _ _ ht.names,A0.same_eq]
 generalize eqL A0.same t.Of u.Of=a
 generalize eqL (fun x y=>x == y) t.Names u.Names=b
 cases t.Kind == u.Kind <;> cases t.Low == u.Low <;> cases t.High == u.High <;> cases t.Size == u.Size <;> cases t.Name == u.Name <;> cases b <;> cases a <;> rfl
end Go.Proofs.YtdkabnfphmmmnaaGreatDoor

set_option linter.unusedSimpArgs false
namespace Go.Proofs.YtdkabnfphmmmnaaGreatDoor
open Go.Am
structure Val (t:A0):Prop where
 ok:Ok t
 fine:T3 t
 nm:t.some Nm=false
 cnt:t.cnt≤32
theorem Val.of {t:A0}(hok:Ok t)(h:Bk t=0):Val t∧t.some Ao=false:=by
 unfold Bk at h
 cases hc:G8 t != 0 with
 | true=>
  rw [hc] at h
  simp only [cond_true] at h
  rw [h] at hc
  cases hc
 | false=>
  rw [hc] at h
  have hf:=N1c (show G8 t=0 by simpa using hc)
  simp only [cond_false,P1g] at h
  cases h1:t.some Nm with
  | true=>rw [h1] at h; cases h
  | false=>
   cases h2:t.some Ao with
   | true=>rw [h1,h2] at h; cases h
   | false=>
    rw [h1,h2] at h
    by_cases h3:t.cnt > 32
    ·rw [decide_eq_true h3] at h; cases h
    ·exact ⟨⟨hok,hf,h1,by omega⟩,rfl⟩
theorem Val.kid0 {t x:A0}(h:Val t)(hx:x∈t.Of)(hc:x.cnt≤32):Val x:=by
 refine ⟨h.ok.kid hx,h.fine.kid hx,?_,hc⟩
 have:=h.nm
 rw [A0.some_eq,Bool.or_eq_false_iff] at this
 cases hn:x.some Nm with
 | false=>rfl
 | true=>
  have h2:=List.any_eq_true.2 ⟨x,hx,hn⟩
  rw [this.2] at h2
  cases h2
theorem Val.cnt_pos (t:A0):Val t→1≤t.cnt:=by
 induction t using A0.ind with
 | h t ih=>
 intro h
 have hc:=h.cnt
 rw [A0.cnt_eq] at hc ⊢
 cases h2:t.Kind == 2 with
 | true=>
  obtain ⟨x,hx,s1,s2⟩:=h.fine.arr h2
  have hm:x∈t.Of:=by rw [hx]; exact List.mem_cons_self
  rw [hx,h2] at hc
  rw [hx]
  simp only [cond_true,A0.cnt1] at hc ⊢
  have h0:=A0.cnt_ge x (h.fine.kid hm)
  have hle:x.cnt≤32:=by
   have:1 * x.cnt≤min t.Size 33 * x.cnt:=Int.mul_le_mul_of_nonneg_right (by omega) h0
   omega
  have:=ih x hm (h.kid0 hm hle)
  have:1 * 1≤min t.Size 33 * x.cnt:=Int.mul_le_mul (by omega) this (by omega) (by omega)
  omega
 | false=>
  cases h3:t.Kind == 3 with
  | true=>
   rw [h2,h3] at hc
   simp only [cond_true,cond_false] at hc ⊢
   obtain ⟨r1,r2,r3⟩:=h.fine.recd h3
   cases hl:t.Of with
   | nil=>rw [hl] at r3; simp at r3
   | cons x r=>
    have hm:x∈t.Of:=by rw [hl]; exact List.mem_cons_self
    have hb:=A0.cnts_bound r fun y hy=>A0.cnt_ge y (h.fine.kid (by rw [hl]; exact List.mem_cons_of_mem _ hy))
    rw [hl] at hc
    simp only [A0.cnts] at hc ⊢
    have:=ih x hm (h.kid0 hm (by omega))
    omega
  | false=>show 1≤min (1:Int) 33; omega
theorem Val.arr {t:A0}(h:Val t)(h2:(t.Kind == 2)=true):∃ x,t.Of=[x]∧1≤t.Size∧t.Size≤32∧Val x∧t.cnt=t.Size * x.cnt:=by
 obtain ⟨x,hx,s1,s2⟩:=h.fine.arr h2
 have hm:x∈t.Of:=by rw [hx]; exact List.mem_cons_self
 have h0:=A0.cnt_ge x (h.fine.kid hm)
 have hc:=h.cnt
 have e:=A0.cnt_eq t
 rw [hx,h2] at e
 simp only [cond_true,A0.cnt1] at e
 rw [show min t.Size 33=t.Size by omega] at e
 have hle:x.cnt≤32:=by
  have:1 * x.cnt≤t.Size * x.cnt:=Int.mul_le_mul_of_nonneg_right (by omega) h0
  omega
 exact ⟨x,hx,s1,s2,h.kid0 hm hle,by omega⟩
theorem J1h {x:A0}:∀ {l:List A0},(∀ y∈l,0≤y.cnt)→x∈l→x.cnt≤A0.cnts l
 | y::r,h,hx=>by
  have h1:=A0.cnts_bound r fun z hz=>h z (List.mem_cons_of_mem _ hz)
  have h2:=h y List.mem_cons_self
  simp only [A0.cnts]
  cases hx with
  | head=>omega
  | tail _ hx=>have:=J1h (fun z hz=>h z (List.mem_cons_of_mem _ hz)) hx; omega
theorem Val.recd {t:A0}(h:Val t)(h3:(t.Kind == 3)=true):t.Of.length=t.Names.length∧t.Of.length≤32∧(∀ x∈t.Of,Val x)∧t.cnt=A0.cnts t.Of:=by
 obtain ⟨r1,r2,r3⟩:=h.fine.recd h3
 have hn:=fun y hy=>A0.cnt_ge y (h.fine.kid hy)
 have hc:=h.cnt
 have e:=A0.cnt_eq t
 have h2:(t.Kind == 2)=false:=by
  have:t.Kind=3:=by simpa using h3
  rw [this]; rfl
 rw [h2,h3] at e
 simp only [cond_true,cond_false] at e
 refine ⟨r2,r1,fun x hx=>?_,by omega⟩
 have:=J1h hn hx
 exact h.kid0 hx (by omega)
theorem Val.leaf {t:A0}(h:Val t)(h2:(t.Kind == 2)=false)(h3:(t.Kind == 3)=false):t.cnt=1∧(t.Kind=0∨t.Kind=1):=by
 have e:=A0.cnt_eq t
 rw [h2,h3] at e
 refine ⟨by rw [e]; rfl,?_⟩
 have hn:=h.nm
 rw [A0.some_eq,Bool.or_eq_false_iff] at hn
 have hf:=h.fine.here.1
 unfold D3 fm1 at hf
 simp only [Bool.and_eq_true] at hf
 have h1:=hf.1.1.1.1.1
 cases hd:decide (t.Kind≥0) with
 | false=>rw [hd] at h1; cases h1
 | true=>
  rw [hd] at h1
  have a1:=of_decide_eq_true hd
  have a2:t.Kind≤4:=of_decide_eq_true h1
  have a3:t.Kind≠2:=by simpa using h2
  have a4:t.Kind≠3:=by simpa using h3
  have a5:t.Kind≠4:=by
   have:=hn.1
   unfold Nm at this
   simpa using this
  omega
def rep {β:Type}(f:Nat→List β):Nat→Nat→List β
 | _,0=>[]
 | k,n+1=>f k++rep f (k+1) n
def nx (path name:Str):Str:=(path++[46])++name
mutual
def A0.sc:A0→Str→List S0
 | .mk k l h s _ ns of,path=>bif k == 0 then [⟨path,true,0,1⟩] else bif k == 1 then [⟨path,false,l,h⟩] else bif k == 2 then A0.scA of path s.toNat else bif k == 3 then A0.scR of ns path else []
def A0.scA:List A0→Str→Nat→List S0
 | [],_,_=>[]
 | x::_,path,n=>rep (fun i=>A0.sc x (nx path (Lib.decDigits i))) 0 n
def A0.scR:List A0→List Str→Str→List S0
 | x::r,n::ns,path=>A0.sc x (nx path n)++A0.scR r ns path
 | _,_,_=>[]
end
theorem A0.sc_eq (t:A0)(path:Str):t.sc path=bif t.Kind == 0 then [⟨path,true,0,1⟩] else bif t.Kind == 1 then [⟨path,false,t.Low,t.High⟩] else bif t.Kind == 2 then A0.scA t.Of path t.Size.toNat else bif t.Kind == 3 then A0.scR t.Of t.Names path else []:=by cases t; rfl
theorem C1t {k:Nat}(h:k < 100):(Lib.decDigits k).length≤2:=by
 have h2:∀ k < 10,(Lib.decDigits k).length=1:=fun k hk=>by rw [Lib.decDigits,dif_pos hk]; rfl
 rw [Lib.decDigits]
 split
 ·simp
 ·rw [List.length_append,h2 _ (by omega)]; simp
theorem D1t {k:Nat}(h:k < 100):L1a (k:Int)=some (Lib.decDigits k):=by
 unfold L1a
 rw [if_pos (decide_eq_true (by omega))]
 rfl
theorem U1o (s:Str)(h:s.length≤BB):Kf s=some s:=by
 unfold Kf Y1b
 unfold BB at h
 rw [if_pos (decide_eq_true (by omega))]
 rfl
def Fo (path:Str)(t:A0):List S0:=bif t.Kind == 0 then [⟨path,true,0,1⟩] else bif t.Kind == 1 then [⟨path,false,t.Low,t.High⟩] else []
theorem E1r (path:Str)(a:Int)(x:A0)(s:List S0)(hp:path.length≤BB)(hs:s.length≤1000):Pc path a x s=some (true,s++Fo path x):=by
 unfold Pc Fo
 have hs':(s.length+1) * 41≤140737488355328:=by omega
 rw [U1o path hp]
 cases x.Kind == 0 <;> cases x.Kind == 1 <;> simp [ob,hs']
theorem Y1j (path:Str)(t x:A0)(hx:t.Of=[x])(hs:t.Size≤32)(hp:path.length+t.bulk≤BB)(c:Nat)(hc:x.cnt=c)
  (ih:∀ (path:Str) (s:Int) (s1:List S0),path.length+x.bulk≤BB→0≤s→s+c≤1000→s1.length+c≤1000→G5 path x s s1=some (true,s+c,s1++x.sc path)) (hl:∀ path,(x.sc path).length=c) :
  ∀ (n k:Nat) (o:Int) (l:List S0),((k+n:Nat):Int)=t.Size→0≤o→o+(n * c:Nat)≤1000→l.length+n * c≤1000→
   G7 path t o l k=some (true,o+(n * c:Nat),l++rep (fun i=>x.sc (nx path (Lib.decDigits i))) k n)
 | 0,k,o,l,hk,_,_,_=>by
  rw [G7,if_neg (by simp; omega)]
  simp [rep]
 | n+1,k,o,l,hk,h0,h1,h2=>by
  have hd:=C1t (k:=k) (by omega)
  have hbx:=A0.bulk_eq t
  rw [hx] at hbx
  simp only [A0.bulks] at hbx
  unfold BB at hp
  rw [Nat.add_mul,Nat.one_mul] at h1 h2
  rw [G7,if_pos (decide_eq_true (by omega)),if_pos (decide_eq_true (by unfold maxLen; omega)),D1t (by omega),ob,if_pos (decide_eq_true (by unfold maxLen; simp; omega)),hx,show idx [x] 0=some x from rfl,ob,
   ih _ o l (by unfold BB; simp; omega) h0 (by omega) (by omega),ob]
  simp only [Bool.not_true,Bool.false_eq_true,if_false]
  rw [w1 (by unfold BB; omega),Y1j path t x hx hs (by unfold BB; omega) c hc ih hl n (k+1) _ _ (by omega) (by omega) (by omega) (by rw [List.length_append,hl]; omega)]
  rw [rep,Nat.add_mul,Nat.one_mul,List.append_assoc]
  congr 3
  omega
theorem Z1j (path:Str)(t:A0)(hp:path.length+t.bulk≤BB)(hln:t.Of.length=t.Names.length)(hv:∀ x∈t.Of,Val x)
  (ih:∀ x∈t.Of,∀ (path:Str) (s:Int) (s1:List S0),path.length+x.bulk≤BB→0≤s→s+x.cnt≤1000→s1.length+x.cnt≤1000→G5 path x s s1=some (true,s+x.cnt,s1++x.sc path)) (hl:∀ x∈t.Of,∀ path,((x.sc path).length:Int)=x.cnt) :
  ∀ (r:List A0) (k:Nat) (o:Int) (l:List S0),t.Of.drop k=r→0≤o→o+A0.cnts r≤1000→l.length+A0.cnts r≤1000→
   F7 path t o l k=some (true,o+A0.cnts r,l++A0.scR r (t.Names.drop k) path)
 | [],k,o,l,h,_,_,_=>by
  rw [F7,(Y0 h).1,if_neg (by simp)]
  simp [A0.cnts,A0.scR]
 | x::r,k,o,l,h,h0,h1,h2=>by
  obtain ⟨e1,e2,e3,e4,e5⟩:=C1 h
  obtain ⟨y,f1,f2,f3⟩:=At (l:=t.Names) (k:=k) (by omega)
  have hof:=(hv x e5).ok
  have hofs:t.Of.length≤BB:=by have:=A0.bulk_len t.Of; have:=A0.bulk_eq t; omega
  have hc:=Val.cnt_pos x (hv x e5)
  have hr:=A0.cnts_bound r fun y hy=>by have:=Val.cnt_pos y (hv y (List.mem_of_mem_drop (i:=k+1) (by rw [e3]; exact hy))); omega
  have hbx:=A0.bulk_eq t
  have hb1:=A0.bulk_kid e5
  have hb2:=O18 f3
  unfold BB at hp hofs
  simp only [A0.cnts] at h1 h2
  rw [F7,e1,if_pos rfl,e2,ob,if_pos (decide_eq_true (by unfold maxLen; omega)),f1,ob,if_pos (decide_eq_true (by unfold maxLen; simp; omega)),
   ih x e5 _ o l (by unfold BB; simp; omega) h0 (by omega) (by omega),ob]
  simp only [Bool.not_true,Bool.false_eq_true,if_false]
  have hlx:=hl x e5 ((path++[46])++y)
  rw [w1 (by unfold BB; omega),Z1j path t (by unfold BB; omega) hln hv ih hl r (k+1) _ _ e3 (by omega) (by omega) (by rw [List.length_append]; omega)]
  rw [f2,A0.scR,A0.cnts,List.append_assoc,Int.add_assoc]
  rfl
theorem A1k {β:Type}{f:Nat→List β}{c:Nat}(h:∀ i,(f i).length=c):∀ n k,(rep f k n).length=n * c
 | 0,k=>by simp [rep]
 | n+1,k=>by rw [rep,List.length_append,h,A1k h n,Nat.add_mul]; omega
theorem K1h (t:A0):Val t→∀ path,((t.sc path).length:Int)=t.cnt:=by
 induction t using A0.ind with
 | h t ih=>
 intro hv path
 rw [A0.sc_eq]
 cases h2:t.Kind == 2 with
 | true=>
  obtain ⟨x,hx,s1,s2,hvx,e⟩:=hv.arr h2
  have hk:t.Kind=2:=by simpa using h2
  have ihx:=ih x (by rw [hx]; exact List.mem_cons_self) hvx
  have hcp:=Val.cnt_pos x hvx
  rw [hk,hx,e]
  show ((A0.scA [x] path t.Size.toNat).length:Int)=_
  rw [A0.scA,A1k (c:=x.cnt.toNat) (fun i=>by have:=ihx (nx path (Lib.decDigits i)); omega)]
  rw [Int.natCast_mul,show ((t.Size.toNat:Nat):Int)=t.Size by omega,show ((x.cnt.toNat:Nat):Int)=x.cnt by omega]
 | false=>
  cases h3:t.Kind == 3 with
  | true=>
   obtain ⟨r1,r2,r3,e⟩:=hv.recd h3
   have hk:t.Kind=3:=by simpa using h3
   rw [hk,e]
   show ((A0.scR t.Of t.Names path).length:Int)=_
   have key:∀ (l:List A0) (ns:List Str),l.length=ns.length→(∀ x∈l,x∈t.Of)→((A0.scR l ns path).length:Int)=A0.cnts l:=by
    intro l
    induction l with
    | nil=>intro ns _ _; rfl
    | cons x r ihr=>
     intro ns hl hm
     cases ns with
     | nil=>simp at hl
     | cons n ns=>
      have h1:=ih x (hm x List.mem_cons_self) (r3 x (hm x List.mem_cons_self)) (nx path n)
      have h2:=ihr ns (by simpa using hl) fun y hy=>hm y (List.mem_cons_of_mem _ hy)
      rw [A0.scR,List.length_append,A0.cnts]
      omega
   exact key t.Of t.Names r1 fun _ h=>h
  | false=>
   obtain ⟨e,hk⟩:=hv.leaf h2 h3
   rw [e]
   rcases hk with hk | hk <;> rw [hk] <;> rfl
theorem E1t (t:A0):Val t→∀ (path:Str) (s:Int) (s1:List S0),path.length+t.bulk≤BB→0≤s→s+t.cnt≤1000→s1.length+t.cnt≤1000→G5 path t s s1=some (true,s+t.cnt,s1++t.sc path):=by
 induction t using A0.ind with
 | h t ih=>
 intro hv path s s1 hp h0 h1 h2
 have hcp:=Val.cnt_pos t hv
 rw [G5,E1r path s t s1 (by omega) (by omega),ob,A0.sc_eq]
 show (if (!true)=true then _ else _)=_
 rw [if_neg (by simp)]
 cases hk2:t.Kind == 2 with
 | true=>
  obtain ⟨x,hx,s1',s2',hvx,e⟩:=hv.arr hk2
  have hk:t.Kind=2:=by simpa using hk2
  have hm:x∈t.Of:=by rw [hx]; exact List.mem_cons_self
  have hcx:=Val.cnt_pos x hvx
  obtain ⟨c,hc⟩:∃ c:Nat,x.cnt=c:=⟨x.cnt.toNat,by omega⟩
  have en:((t.Size.toNat * c:Nat):Int)=t.cnt:=by rw [e,hc,Int.natCast_mul,show ((t.Size.toNat:Nat):Int)=t.Size by omega]
  have:=Y1j path t x hx s2' hp c hc (fun p s l a b c' d=>by have:=ih x hm hvx p s l a b (by omega) (by omega); rw [hc] at this; exact this) (fun p=>by have:=K1h x hvx p; omega) t.Size.toNat 0 s s1 (by omega) h0 (by omega) (by omega)
  rw [if_pos rfl]
  have hls:Fo path t=[]:=by unfold Fo; rw [hk]; rfl
  show G7 path t s (s1++Fo path t) ((0:Nat):Int)=_
  rw [hls,List.append_nil,this,en,hk,hx]
  rfl
 | false=>
  rw [if_neg (by simp)]
  cases hk3:t.Kind == 3 with
  | true=>
   obtain ⟨r1,r2,r3,e⟩:=hv.recd hk3
   have hk:t.Kind=3:=by simpa using hk3
   have:=Z1j path t hp r1 r3 (fun x hx=>ih x hx (r3 x hx)) (fun x hx=>K1h x (r3 x hx)) t.Of 0 s s1 rfl h0 (by omega) (by omega)
   rw [if_pos rfl]
   have hls:Fo path t=[]:=by unfold Fo; rw [hk]; rfl
   show F7 path t s (s1++Fo path t) ((0:Nat):Int)=_
   rw [hls,List.append_nil,this,e,hk]
   rfl
  | false=>
   obtain ⟨e,hk⟩:=hv.leaf hk2 hk3
   rw [if_neg (by simp),wr (by omega) (by omega),e]
   unfold Fo
   rcases hk with hk | hk <;> rw [hk] <;> rfl
def Fg (t:A0):List S0×Int:=bif Bk t != 0 then ([],Bk t) else (t.sc [],0)
theorem G1m (t:A0)(ht:Ok t):Qi t=some (Fg t):=by
 unfold Qi Fg
 rw [F1m t ht,ob]
 cases h:Bk t != 0 with
 | true=>rfl
 | false=>
  have hv:=(Val.of ht (by simpa using h)).1
  have hc:=hv.cnt
  unfold Zl
  have:=E1t t hv [] 0 [] (by unfold Ok at ht; simpa using ht) (by omega) (by omega) (by simp; omega)
  rw [this,ob,if_neg (by simp),ob]
  rfl
end Go.Proofs.YtdkabnfphmmmnaaGreatDoor

set_option linter.unusedSimpArgs false
namespace Go.Proofs.YtdkabnfphmmmnaaGreatDoor
open Go.Am
theorem B1k (t:A0)(ht:Ok t)(ih:∀ x∈t.Of,Ee x=some (x.depth:Int))(B:Nat)(hB:B≤BB) :
  ∀ (r:List A0) (k:Nat) (n:Nat),t.Of.drop k=r→n≤B→A0.depths r≤B→Je t (n:Int) k=some ((max n (A0.depths r)+1:Nat):Int)
 | [],k,n,h,hb,_=>by
  rw [Je,(Y0 h).1,if_neg (by simp),w1 (by omega)]
  simp [A0.depths]
 | x::r,k,n,h,hb,hd=>by
  obtain ⟨e1,e2,e3,e4,e5⟩:=C1 h
  have:=ht.ofs
  simp only [A0.depths] at hd
  rw [Je,e1,if_pos rfl,e2,ob,ih x e5,ob,w1 (by omega),show max (n:Int) (x.depth:Int)=((max n x.depth:Nat):Int) by omega,B1k t ht ih B hB r (k+1) _ e3 (by omega) (by omega)]
  simp only [A0.depths]
  rw [show max (max n x.depth) (A0.depths r)=max n (max x.depth (A0.depths r)) by omega]
theorem V1o (t:A0):Ok t→Ee t=some (t.depth:Int):=by
 induction t using A0.ind with
 | h t ih=>
 intro ht
 have hn:=ht.nodes
 have hd:=A0.depth_nodes t
 rw [Ee]
 rw [A0.depth_eq] at hd
 have:=B1k t ht (fun x hx=>ih x hx (ht.kid hx)) BB (Nat.le_refl _) t.Of 0 0 rfl (by omega) (by omega)
 rw [A0.depth_eq]
 rw [show max 0 (A0.depths t.Of)=A0.depths t.Of by omega] at this
 exact this
structure Out (t:A0):Prop where
 val:Val t
 names:t.all J5=true
 deep:t.depth≤12
def KK:Nat:=169728
theorem H1m {s:Str}(h:T2 s=true):s.length≤12:=by
 unfold T2 at h
 by_cases hl:(s.length:Int)≤12
 ·omega
 ·rw [decide_eq_false hl] at h; simp at h
theorem K1e:∀ {l:List Str},l.all T2=true→(l.map fun s=>s.length+1).sum≤13 * l.length
 | [],_=>by simp
 | s::r,h=>by
  simp only [List.all_cons,Bool.and_eq_true] at h
  have:=H1m h.1
  have:=K1e h.2
  simp only [List.map_cons,List.sum_cons,List.length_cons]
  omega
theorem L1h {p:A0→Bool}{t:A0}(h:t.all p=true):p t=true∧∀ x∈t.Of,x.all p=true:=by
 rw [A0.all_eq,Bool.and_eq_true] at h
 exact ⟨h.1,fun x hx=>A0.alls_mem h.2 hx⟩
theorem X1i {t:A0}(hf:T3 t)(hn:t.some Nm=false)(ha:t.all J5=true):t.Name.length+(t.Names.map fun s=>s.length+1).sum+8≤424:=by
 obtain ⟨h1,_⟩:=hf.here
 have h2:=(L1h ha).1
 unfold J5 at h2
 simp only [Bool.and_eq_true] at h2
 have h3:=K1e h2.2
 rw [A0.some_eq,Bool.or_eq_false_iff] at hn
 have hk4:(t.Kind == 4)=false:=hn.1
 unfold D3 at h1
 simp only [Bool.and_eq_true] at h1
 have f4:=h1.1.1.2
 have f5:=h1.1.2
 unfold fm4 at f4
 unfold fm5 at f5
 rw [hk4] at f4
 have hnm:t.Name=[]:=by simpa using f4
 rw [hnm]
 cases hk3:t.Kind == 3 with
 | true=>
  have:=(hf.recd hk3)
  simp only [List.length_nil]
  omega
 | false=>
  rw [hk3] at f5
  have:(t.Names.length:Int)=0:=by simpa using f5
  simp only [List.length_nil]
  omega
theorem M1h {c:Nat}:∀ {l:List A0} {d:Nat},(∀ x∈l,(x.bulk:Int)≤c * (x.cnt * x.depth)∧1≤x.cnt∧x.depth≤d)→(A0.bulks l:Int)≤c * (A0.cnts l * d)
 | [],d,_=>by simp [A0.bulks,A0.cnts]
 | x::r,d,h=>by
  obtain ⟨h1,h2,h3⟩:=h x List.mem_cons_self
  have h4:=M1h (c:=c) (d:=d) fun y hy=>h y (List.mem_cons_of_mem _ hy)
  simp only [A0.bulks,A0.cnts]
  have h5:x.cnt * (x.depth:Int)≤x.cnt * d:=Int.mul_le_mul_of_nonneg_left (by omega) (by omega)
  have h6:(c:Int) * (x.cnt * x.depth)≤c * (x.cnt * d):=Int.mul_le_mul_of_nonneg_left h5 (by omega)
  rw [Int.add_mul,Int.mul_add]
  omega
theorem W1o (t:A0):Val t→t.all J5=true→(t.bulk:Int)≤(424:Nat) * (t.cnt * t.depth):=by
 induction t using A0.ind with
 | h t ih=>
 intro hv ha
 have hw:=X1i hv.fine hv.nm ha
 have hb:=A0.bulk_eq t
 have hc:=Val.cnt_pos t hv
 have hd:=A0.depth_eq t
 have hk:=(L1h ha).2
 have key:∀ c:Int,(A0.bulks t.Of:Int)≤(424:Nat) * (c * A0.depths t.Of)→0≤c→c≤t.cnt→(t.bulk:Int)≤(424:Nat) * (t.cnt * t.depth):=fun c h1 h0 h2=>by
  have h3:c * (A0.depths t.Of:Int)≤t.cnt * A0.depths t.Of:=Int.mul_le_mul_of_nonneg_right h2 (by omega)
  have h4:t.cnt * (t.depth:Int)=t.cnt * A0.depths t.Of+t.cnt:=by rw [hd,Int.natCast_add,Int.mul_add]; simp
  rw [h4]
  omega
 cases hk2:t.Kind == 2 with
 | true=>
  obtain ⟨x,hx,s1,s2,hvx,e⟩:=hv.arr hk2
  have hm:x∈t.Of:=by rw [hx]; exact List.mem_cons_self
  have hcx:=Val.cnt_pos x hvx
  have:=ih x hm hvx (hk x hm)
  refine key x.cnt ?_ (by omega) ?_
  ·rw [hx]
   simp only [A0.bulks,A0.depths]
   rw [show max x.depth 0=x.depth by omega]
   omega
  ·rw [e]
   have:1 * x.cnt≤t.Size * x.cnt:=Int.mul_le_mul_of_nonneg_right (by omega) (by omega)
   omega
 | false=>
  cases hk3:t.Kind == 3 with
  | true=>
   obtain ⟨r1,r2,r3,e⟩:=hv.recd hk3
   refine key t.cnt ?_ (by omega) (Int.le_refl _)
   rw [e]
   exact M1h fun x hx=>⟨ih x hx (r3 x hx) (hk x hx),Val.cnt_pos x (r3 x hx),A0.depth_le hx⟩
  | false=>
   refine key 0 ?_ (Int.le_refl _) (by omega)
   have hf:=hv.fine.here.1
   unfold D3 fm6 at hf
   rw [hk2,hk3] at hf
   simp only [cond_false,Bool.and_eq_true] at hf
   have hl:(t.Of.length:Int)=0:=by simpa using hf.2
   rw [List.eq_nil_of_length_eq_zero (by omega:t.Of.length=0)]
   simp [A0.bulks]
theorem Out.bulk {t:A0}(h:Out t):t.bulk≤KK:=by
 have h1:=W1o t h.val h.names
 have h2:=Val.cnt_pos t h.val
 have h3:=h.val.cnt
 have h4:=h.deep
 have:t.cnt * (t.depth:Int)≤32 * 12:=Int.mul_le_mul h3 (by omega) (by omega) (by omega)
 unfold KK
 omega
mutual
def A0.rp (m:List (Str×A0)):A0→Option A0
 | .mk k l h s n ns of=>bif k == 4 then mgt n m else (A0.rps m of).map fun of'=>A0.mk k l h s n ns of'
def A0.rps (m:List (Str×A0)):List A0→Option (List A0)
 | []=>Option.some []
 | x::r=>(A0.rp m x).bind fun y=>(A0.rps m r).map fun s=>y::s
end
theorem A0.rp_eq (m:List (Str×A0))(t:A0):t.rp m=bif t.Kind == 4 then mgt t.Name m else (A0.rps m t.Of).map fun of'=>A0.mk t.Kind t.Low t.High t.Size t.Name t.Names of':=by cases t; rfl
def MOk (m:List (Str×A0)):Prop:=∀ p∈m,Out p.2
theorem C1k {k:Str}{x:A0}:∀ {m:List (Str×A0)},mgt k m=some x→∃ k',(k',x)∈m
 | [],h=>by cases h
 | (k',y)::r,h=>by
  unfold mgt at h
  cases hk:k == k' with
  | true=>rw [hk] at h; cases h; exact ⟨k',List.mem_cons_self⟩
  | false=>rw [hk] at h; obtain ⟨k2,h2⟩:=C1k h; exact ⟨k2,List.mem_cons_of_mem _ h2⟩
theorem MOk.get {m:List (Str×A0)}(h:MOk m){k:Str}{x:A0}(hg:mgt k m=some x):Out x:=by
 obtain ⟨k',hm⟩:=C1k hg
 exact h _ hm
theorem F1r {m:List (Str×A0)}(hm:MOk m)(t:A0):∀ y,t.rp m=some y→
  (t.all D3=true→y.all D3=true)∧(t.all H9=true→y.all H9=true)∧(t.all J5=true→y.all J5=true)∧y.some Nm=false∧y.bulk≤t.bulk+t.nodes * KK:=by
 induction t using A0.ind with
 | h t ih=>
 intro y hy
 rw [A0.rp_eq] at hy
 cases hk:t.Kind == 4 with
 | true=>
  rw [hk] at hy
  have ho:=hm.get hy
  have hb:=ho.bulk
  refine ⟨fun _=>ho.val.fine.form,fun _=>ho.val.fine.num,fun _=>ho.names,ho.val.nm,?_⟩
  rw [A0.nodes_eq,Nat.add_mul]
  omega
 | false=>
  rw [hk,cond_false] at hy
  obtain ⟨of,ho,rfl⟩:=Option.map_eq_some_iff.1 hy
  have key:∀ (l:List A0) (of:List A0),(∀ x∈l,x∈t.Of)→A0.rps m l=some of→of.length=l.length∧(A0.alls D3 l=true→A0.alls D3 of=true)∧(A0.alls H9 l=true→A0.alls H9 of=true)∧
    (A0.alls J5 l=true→A0.alls J5 of=true)∧of.any (A0.some Nm)=false∧A0.bulks of≤A0.bulks l+A0.nodess l * KK:=by
   intro l
   induction l with
   | nil=>intro of _ h; cases h; exact ⟨rfl,fun h=>h,fun h=>h,fun h=>h,rfl,by simp [A0.bulks]⟩
   | cons x r ihr=>
    intro of hl h
    rw [A0.rps] at h
    obtain ⟨z,hz,h2⟩:=Option.bind_eq_some_iff.1 h
    obtain ⟨s,hs,rfl⟩:=Option.map_eq_some_iff.1 h2
    obtain ⟨a1,a2,a3,a4,a5⟩:=ih x (hl x List.mem_cons_self) z hz
    obtain ⟨b0,b1,b2,b3,b4,b5⟩:=ihr s (fun y hy=>hl y (List.mem_cons_of_mem _ hy)) hs
    simp only [A0.alls,Bool.and_eq_true,List.any_cons,Bool.or_eq_false_iff,A0.bulks,A0.nodess,List.length_cons,Nat.add_mul]
    exact ⟨by omega,fun h=>⟨a1 h.1,b1 h.2⟩,fun h=>⟨a2 h.1,b2 h.2⟩,fun h=>⟨a3 h.1,b3 h.2⟩,⟨a4,b4⟩,by omega⟩
  obtain ⟨k0,k1,k2,k3,k4,k5⟩:=key t.Of of (fun _ h=>h) ho
  have e1:D3 (A0.mk t.Kind t.Low t.High t.Size t.Name t.Names of)=D3 t:=by
   unfold D3 fm1 fm2 fm3 fm4 fm5 fm6
   simp only [k0]
  have e2:H9 (A0.mk t.Kind t.Low t.High t.Size t.Name t.Names of)=H9 t:=by
   unfold H9 nm1 nm2
   simp only [k0]
  have e3:J5 (A0.mk t.Kind t.Low t.High t.Size t.Name t.Names of)=J5 t:=rfl
  simp only [A0.all_eq,Bool.and_eq_true,e1,e2,e3,A0.some_eq,Bool.or_eq_false_iff]
  refine ⟨fun h=>⟨h.1,k1 h.2⟩,fun h=>⟨h.1,k2 h.2⟩,fun h=>⟨h.1,k3 h.2⟩,⟨hk,k4⟩,?_⟩
  rw [A0.bulk_eq,A0.bulk_eq t,A0.nodes_eq,Nat.add_mul]
  simp only
  omega
theorem D1s (m:List (Str×A0))(t:A0)(ht:Ok t)(x2:List Str)(ih:∀ x∈t.Of,L4 x m=some (x,true)) :
  ∀ (r:List A0) (k:Nat) (a:List A0),t.Of.drop k=r→a.length=k→D5 m t x2 a k=some (⟨t.Kind,t.Low,t.High,t.Size,t.Name,x2,a++r⟩,true)
 | [],k,a,h,ha=>by rw [D5,(Y0 h).1,if_neg (by simp)]; simp
 | x::r,k,a,h,ha=>by
  obtain ⟨e1,e2,e3,e4,e5⟩:=C1 h
  have:=ht.ofs
  unfold BB at this
  rw [D5,e1,if_pos rfl,e2,ob,ih x e5,ob]
  simp only [Bool.not_true,Bool.false_eq_true,if_false]
  rw [if_pos (decide_eq_true (by omega)),w1 (by unfold BB; omega),D1s m t ht x2 ih r (k+1) (a++[x]) e3 (by simp; omega)]
  simp
theorem D1k {p:A0→Bool}{l:List A0}(h:l.any p=false){x:A0}(hx:x∈l):p x=false:=by
 cases hp:p x with
 | false=>rfl
 | true=>have h2:=List.any_eq_true.2 ⟨x,hx,hp⟩; rw [h] at h2; cases h2
theorem E1s (m:List (Str×A0))(t:A0)(ht:Ok t)(ih:∀ x∈t.Of,L4 x m=some (x,true)):Za m t=some (t,true):=by
 have hnm:=ht.names
 unfold BB at hnm
 rw [Za]
 unfold K9
 rw [if_pos (decide_eq_true (by omega)),ob,I11,D1s m t ht t.Names ih t.Of 0 [] rfl rfl,List.nil_append]
 cases t
 rfl
theorem Q1u (m:List (Str×A0))(t:A0):Ok t→t.some Nm=false→L4 t m=some (t,true):=by
 induction t using A0.ind with
 | h t ih=>
 intro ht hn
 rw [A0.some_eq,Bool.or_eq_false_iff] at hn
 have hk:(t.Kind == 4)=false:=hn.1
 rw [L4,hk,if_neg (by simp)]
 exact E1s m t ht fun x hx=>ih x hx (ht.kid hx) (D1k hn.2 hx)
def Qg:Option A0→A0×Bool
 | some x=>(x,true)
 | none=>(zTy,false)
 where zTy:A0:=A0.mk 0 0 0 0 [] [] []
theorem F1s (m:List (Str×A0))(t:A0)(ht:Ok t)(x2:List Str)(ih:∀ x∈t.Of,L4 x m=some (Qg (x.rp m))) :
  ∀ (r:List A0) (k:Nat) (a:List A0),t.Of.drop k=r→a.length=k→D5 m t x2 a k=some (Qg ((A0.rps m r).map fun s=>⟨t.Kind,t.Low,t.High,t.Size,t.Name,x2,a++s⟩))
 | [],k,a,h,ha=>by rw [D5,(Y0 h).1,if_neg (by simp)]; simp [A0.rps,Qg]
 | x::r,k,a,h,ha=>by
  obtain ⟨e1,e2,e3,e4,e5⟩:=C1 h
  have:=ht.ofs
  unfold BB at this
  rw [D5,e1,if_pos rfl,e2,ob,ih x e5,ob,A0.rps]
  cases hx:x.rp m with
  | none=>simp [Qg,Qg.zTy]
  | some y=>
   simp only [Qg,Bool.not_true,Bool.false_eq_true,if_false,Option.bind_some]
   rw [if_pos (decide_eq_true (by omega)),w1 (by unfold BB; omega),F1s m t ht x2 ih r (k+1) (a++[y]) e3 (by simp; omega)]
   cases A0.rps m r <;> simp [Qg]
theorem Y1i {m:List (Str×A0)}(hm:MOk m)(t:A0):Ok t→L4 t m=some (Qg (t.rp m)):=by
 induction t using A0.ind with
 | h t ih=>
 intro ht
 rw [L4,A0.rp_eq]
 cases hk:t.Kind == 4 with
 | true=>
  rw [if_pos rfl,ob,cond_true]
  cases hg:mgt t.Name m with
  | none=>rfl
  | some x=>
   have ho:=hm.get hg
   have hb:=ho.val.ok
   have:=E1s m x hb fun z hz=>Q1u m z (hb.kid hz) (by
    have:=ho.val.nm
    rw [A0.some_eq,Bool.or_eq_false_iff] at this
    exact D1k this.2 hz)
   simp only [Option.isSome_some,Bool.not_true,Bool.false_eq_true,if_false,Option.getD_some]
   rw [this]
   rfl
 | false=>
  have hnm:=ht.names
  unfold BB at hnm
  rw [if_neg (by simp),cond_false,Za]
  unfold K9
  rw [if_pos (decide_eq_true (by omega)),ob,I11,F1s m t ht t.Names (fun x hx=>ih x hx (ht.kid hx)) t.Of 0 [] rfl rfl]
  simp
def Ld (m:List (Str×A0))(t:A0):A0×Int:=
 bif G8 t != 0 then (Qg.zTy,G8 t) else match t.rp m with
  | none=>(Qg.zTy,7)
  | some x=>bif x.some Ao then (Qg.zTy,8) else bif (decide ((x.depth:Int) > 12)||decide (x.cnt > 32)) then (Qg.zTy,4) else (x,0)
theorem Z1i {t:A0}(h:G8 t=0):t.nodes≤1024∧t.all J5=true:=by
 unfold G8 Cc at h
 by_cases h1:(t.nodes:Int) > 1024
 ·rw [decide_eq_true h1] at h; simp at h
 ·refine ⟨by omega,?_⟩
  revert h
  cases (bif decide ((t.nodes:Int) > 1024) then true else decide ((t.depth:Int) > 12)) <;> cases t.all D3 <;> cases t.all J5 <;> simp
theorem E1k {m:List (Str×A0)}(hm:MOk m){t x:A0}(hb:t.bulk≤4200000)(hc:G8 t=0)(hx:t.rp m=some x):Ok x∧T3 x∧x.some Nm=false∧x.all J5=true:=by
 obtain ⟨h1,h2,h3,h4,h5⟩:=F1r hm t x hx
 have hf:=N1c hc
 obtain ⟨hn,hna⟩:=Z1i hc
 refine ⟨?_,⟨h1 hf.form,h2 hf.num⟩,h4,h3 hna⟩
 have:t.nodes * KK≤1024 * KK:=Nat.mul_le_mul_right _ hn
 unfold Ok BB
 unfold KK at *
 omega
theorem N1h {m:List (Str×A0)}(hm:MOk m){t:A0}(hb:t.bulk≤4200000)(h:(Ld m t).2=0):Out (Ld m t).1∧(Ld m t).1.some Ao=false:=by
 unfold Ld at h ⊢
 cases hc:G8 t != 0 with
 | true=>rw [hc] at h; simp only [cond_true] at h; rw [h] at hc; cases hc
 | false=>
  have hc':G8 t=0:=by simpa using hc
  rw [hc] at h
  simp only [cond_false] at h ⊢
  cases hx:t.rp m with
  | none=>rw [hx] at h; simp at h
  | some x=>
   rw [hx] at h
   simp only at h ⊢
   obtain ⟨a1,a2,a3,a4⟩:=E1k hm hb hc' hx
   cases h2:x.some Ao with
   | true=>rw [h2] at h; simp at h
   | false=>
    rw [h2] at h
    by_cases h3:(x.depth:Int) > 12
    ·rw [decide_eq_true h3] at h; simp at h
    ·by_cases h4:x.cnt > 32
     ·rw [decide_eq_true h4] at h; simp at h
     ·rw [decide_eq_false h3,decide_eq_false h4]
      exact ⟨⟨⟨a1,a2,a3,by simp only [cond_false,Bool.or_false]; omega⟩,a4,by simp only [cond_false,Bool.or_false]; omega⟩,h2⟩
theorem Q17 {m:List (Str×A0)}(hm:MOk m)(t:A0)(hb:t.bulk≤4200000):Le t m=some (Ld m t):=by
 have ht:Ok t:=by unfold Ok BB; omega
 unfold Le Ld
 rw [N15 t ht,ob,Y1i hm t ht]
 cases hc:G8 t != 0 with
 | true=>rfl
 | false=>
  rw [if_neg (by simp),ob]
  cases hx:t.rp m with
  | none=>rfl
  | some x=>
   obtain ⟨a1,a2,a3,a4⟩:=E1k hm hb (by simpa using hc) hx
   simp only [Qg,Bool.not_true,Bool.false_eq_true,if_false]
   rw [H1h x a1,V1o x a1,I1h x a2]
   simp only [ob]
   cases x.some Ao <;> cases decide ((x.depth:Int) > 12) <;> cases h4:decide (x.cnt > 32) <;> simp only [ob,Bool.not_false,Bool.not_true,Bool.false_eq_true,if_true,if_false,cond_true,cond_false,Bool.or_true,Bool.true_or,Bool.or_false,Qg.zTy,h4]
end Go.Proofs.YtdkabnfphmmmnaaGreatDoor

set_option linter.unusedSimpArgs false
namespace Go.Proofs.YtdkabnfphmmmnaaGreatDoor
open Go.Am
theorem F1k {k:Str}{x:A0}:∀ {m:List (Str×A0)},mgt k m=none→mpt k x m=m++[(k,x)]
 | [],_=>rfl
 | (k',y)::r,h=>by
  unfold mgt at h
  unfold mpt
  cases hk:k == k' with
  | true=>rw [hk] at h; cases h
  | false=>rw [hk] at h; rw [cond_false,F1k h]; rfl
def Ho:List D0→List (Str×A0)→List (Str×A0)×Int
 | [],m=>(m,0)
 | d::r,m=>bif d.Kind != 0 then Ho r m else bif !T2 d.Name then ([],7) else bif (mgt d.Name m).isSome then ([],8) else
   bif (Ld m d.TypeV).2 != 0 then ([],(Ld m d.TypeV).2) else Ho r (m++[(d.Name,(Ld m d.TypeV).1)])
def DOk (ds:List D0):Prop:=ds.length≤5000000∧∀ d∈ds,d.TypeV.bulk≤4200000∧d.Name.length≤BB
theorem MOk.snoc {m:List (Str×A0)}(hm:MOk m){d:D0}(hb:d.TypeV.bulk≤4200000)(h:(Ld m d.TypeV).2=0)(k:Str):MOk (m++[(k,(Ld m d.TypeV).1)]):=by
 intro p hp
 rw [List.mem_append] at hp
 rcases hp with hp | hp
 ·exact hm p hp
 ·simp at hp
  subst hp
  exact (N1h hm hb h).1
def T15 (e:List (Str×A0)×Int)(t:A0):A0×Int:=bif e.2 != 0 then (Qg.zTy,e.2) else Ld e.1 t
theorem S1c {ds:List D0}:∀ (r:List D0) (m:List (Str×A0)),(∀ d∈r,d.TypeV.bulk≤4200000)→MOk m→MOk (Ho r m).1∧(Ho r m).1.length≤m.length+r.length
 | [],m,_,hm=>⟨hm,by simp [Ho]⟩
 | d::r,m,hd,hm=>by
  have hn:MOk []:=fun p hp=>by cases hp
  have hr:=fun x hx=>hd x (List.mem_cons_of_mem _ hx)
  rw [Ho]
  cases d.Kind != 0 with
  | true=>have:=S1c (ds:=ds) r m hr hm; exact ⟨this.1,by simp only [cond_true,List.length_cons]; omega⟩
  | false=>
   cases T2 d.Name with
   | false=>exact ⟨hn,by simp⟩
   | true=>
    cases (mgt d.Name m).isSome with
    | true=>exact ⟨hn,by simp⟩
    | false=>
     cases h:(Ld m d.TypeV).2 != 0 with
     | true=>exact ⟨hn,by simp⟩
     | false=>
      have:=S1c (ds:=ds) r _ hr (hm.snoc (hd d List.mem_cons_self) (by simpa using h) d.Name)
      refine ⟨this.1,?_⟩
      have h2:=this.2
      simp only [List.length_append,List.length_cons,List.length_nil,cond_false,Bool.not_true] at h2 ⊢
      omega
theorem Y18 (ds:List D0)(hd:DOk ds)(t:A0)(ht:t.bulk≤4200000):∀ (r:List D0) (k:Nat) (m:List (Str×A0)),ds.drop k=r→MOk m→V6 ds t m k=some (T15 (Ho r m) t)
 | [],k,m,h,hm=>by
  rw [V6,(Y0 h).1,if_neg (by simp),Q17 hm t ht]
  rfl
 | d::r,k,m,h,hm=>by
  obtain ⟨e1,e2,e3,e4,e5⟩:=C1 h
  have hl:=hd.1
  obtain ⟨hb,hn⟩:=hd.2 d e5
  rw [V6,e1,if_pos rfl,e2,ob,w1 (by unfold BB; omega),Y18 ds hd t ht r (k+1) m e3 hm,U1d _ hn,ob,Ho]
  cases d.Kind != 0 with
  | true=>rfl
  | false=>
   rw [if_neg (by simp),cond_false]
   cases T2 d.Name with
   | false=>rfl
   | true=>
    rw [if_neg (by simp),ob]
    cases hg:mgt d.Name m with
    | some y=>rfl
    | none=>
     rw [Q17 hm _ hb]
     simp only [Option.isSome_none,Bool.false_eq_true,if_false,Bool.not_true,cond_false,ob]
     cases hc:(Ld m d.TypeV).2 != 0 with
     | true=>simp only [if_true,cond_true,T15,hc,Qg.zTy]
     | false=>
      have hm2:=hm.snoc hb (by simpa using hc) d.Name
      rw [if_neg (by simp),F1k hg,Y18 ds hd t ht r (k+1) _ e3 hm2]
      rfl
def U2 (ds:List D0)(t:A0):A0×Int:=T15 (Ho ds []) t
theorem MOk.nil:MOk []:=fun p hp=>by cases hp
theorem X1o (ds:List D0)(hd:DOk ds)(t:A0)(ht:t.bulk≤4200000):Tj ds t=some (U2 ds t):=by
 unfold Tj U2
 exact Y18 ds hd t ht ds 0 [] rfl .nil
end Go.Proofs.YtdkabnfphmmmnaaGreatDoor

set_option linter.unusedSimpArgs false
namespace Go.Proofs.YtdkabnfphmmmnaaGreatDoor
open Go.Am
abbrev zT:A0:=A0.mk 0 0 0 0 [] [] []
def nT (a b:Int):A0:=A0.mk 1 a b 0 [] [] []
theorem ifB {α:Type}(b:Bool)(x y:α):(if b=true then some x else some y)=some (bif b then x else y):=by cases b <;> rfl
theorem ifO {α:Type}{b:Bool}{X Y:Option α}{x y:α}(hx:b=true→X=some x)(hy:b=false→Y=some y):(if b=true then X else Y)=some (bif b then x else y):=by
 cases b with
 | true=>exact hx rfl
 | false=>exact hy rfl
abbrev wi (n:Int):Int:=IntKind.i64.wrap n
mutual
def I0.find (nm:Str):I0→Option N0
 | .mk a vs=>match mgt nm vs with
  | some v=>some v
  | none=>lkO nm a
def lkO (nm:Str):Option I0→Option N0
 | none=>none
 | some s=>s.find nm
end
theorem Y1o {P:Option I0→Prop}(h0:P none)(h1:∀ a vs,P a→P (some (.mk a vs))):∀ s,P s:=by
 have key:∀ s:I0,P (some s):=fun s=>I0.rec (motive_1:=fun s=>P (some s)) (motive_2:=P) (fun a vs ih=>h1 a vs ih) h0 (fun x hx=>hx) s
 intro s
 cases s with
 | none=>exact h0
 | some s=>exact key s
def Yf (s:Option I0)(nm:Str):N0×Bool:=match lkO nm s with
 | some v=>(v,true)
 | none=>(N0.mk zT false,false)
theorem G1r (nm:Str):∀ s,A3 nm s=some (Yf s nm):=by
 refine Y1o ?_ ?_
 ·rw [A3]; rfl
 ·intro a vs ih
  rw [A3]
  simp only [Option.isNone,Bool.not_false,if_true,ob]
  unfold Yf
  simp only [lkO,I0.find]
  cases hm:mgt nm vs with
  | some v=>rfl
  | none=>
   simp only [Option.isSome,Bool.false_eq_true,if_false]
   exact ih
theorem U15 (s:Option I0)(nm:Str):W4 s nm=some (Yf s nm):=G1r nm s
def Gj (t:A0):A0×Int:=bif (bif t.Kind == 1 then (bif decide (t.Low < (-1048576)) then true else decide (t.High > 1048576)) else false) then (zT,3) else (t,0)
theorem F1t (t:A0):R7 t=some (Gj t):=ifB _ _ _
theorem Az (a b:Int):F2 a b=some (nT a b):=rfl
theorem G1s (k:Int)(l:List A0)(hl:l.length≤BB):∀ (r:List A0) (i:Nat),l.drop i=r→L3 k l i=some (r.all fun t=>t.Kind == k)
 | [],i,h=>by
  rw [L3,(Y0 h).1]
  rfl
 | x::r,i,h=>by
  obtain ⟨h1,h2,h3,h4,_⟩:=C1 h
  rw [L3,h1,h2]
  simp only [if_true,ob,List.all_cons]
  rw [w1 (by omega),G1s k l hl r (i+1) h3]
  show (if (!(x.Kind == k))=true then some false else _)=_
  cases x.Kind == k <;> rfl
theorem Sl (k:Int)(l:List A0)(hl:l.length≤BB):E5 k l=some (l.all fun t=>t.Kind == k):=G1s k l hl l 0 rfl
def Io (op:Int)(a b:A0):A0:=
 bif op == 8 then nT (wi (a.Low+b.Low)) (wi (a.High+b.High))
 else bif op == 9 then nT (wi (a.Low - b.High)) (wi (a.High - b.Low))
 else bif op == 10 then nT (min (min (min (wi (a.Low * b.Low)) (wi (a.Low * b.High))) (wi (a.High * b.Low))) (wi (a.High * b.High))) (max (max (max (wi (a.Low * b.Low)) (wi (a.Low * b.High))) (wi (a.High * b.Low))) (wi (a.High * b.High)))
 else bif op == 11 then (bif (bif decide (a.Low≥0) then decide (b.Low≥0) else false) then nT 0 (max a.High (wi (0 - a.Low))) else nT (wi (0 - max a.High (wi (0 - a.Low)))) (max a.High (wi (0 - a.Low))))
 else bif op == 12 then nT (bif decide (b.Low < 0) then min (wi (b.Low+1)) 0 else 0) (bif decide (b.High > 0) then max (wi (b.High - 1)) 0 else 0)
 else bif op == 21 then nT (min a.Low b.Low) (min a.High b.High)
 else nT (max a.Low b.Low) (max a.High b.High)
theorem H1r (op:Int)(a b:A0):S7 op a b=some (Io op a b):=by
 unfold S7 Io
 cases op == 8
 case true=>rfl
 cases op == 9
 case true=>rfl
 cases op == 10
 case true=>rfl
 cases op == 11
 case true=>
  simp only [Bool.false_eq_true,if_false,if_true,Ze,ob,cond_false,cond_true]
  cases (bif decide (a.Low≥0) then decide (b.Low≥0) else false) <;> rfl
 cases op == 12
 case true=>
  simp only [Bool.false_eq_true,if_false,if_true,cond_false,cond_true,F8,E8,Az,ob]
  cases decide (b.Low < 0) <;> cases decide (b.High > 0) <;> rfl
 cases op == 21 <;> rfl
def opT (op:Int)(k:List A0):A0×Int:=
 bif op == 6 then (bif k.all (fun t=>t.Kind == 1) then Gj (nT (wi (0 - (k.getD 0 zT).High)) (wi (0 - (k.getD 0 zT).Low))) else (zT,9))
 else bif (op == 7||op == 19||op == 20) then (bif k.all (fun t=>t.Kind == 0) then (zT,0) else (zT,9))
 else bif (op == 13||op == 14) then (bif (k.all (fun t=>t.Kind == 1)||k.all (fun t=>t.Kind == 0)) then (zT,0) else (zT,9))
 else bif (op == 15||op == 16||op == 17||op == 18) then (bif k.all (fun t=>t.Kind == 1) then (zT,0) else (zT,9))
 else bif op == 23 then (bif (k.getD 0 zT).Kind != 0 then (zT,9) else bif (k.drop 1).all (fun t=>t.Kind == 1) then (nT (min (k.getD 1 zT).Low (k.getD 2 zT).Low) (max (k.getD 1 zT).High (k.getD 2 zT).High),0)
  else bif (k.drop 1).all (fun t=>t.Kind == 0) then (zT,0) else (zT,9))
 else bif k.all (fun t=>t.Kind == 1) then Gj (Io op (k.getD 0 zT) (k.getD 1 zT)) else (zT,9)
theorem V15 (t:A0):(R7 t>>=fun x=>some (x.1,x.2))=some (Gj t):=by rw [F1t]; rfl
theorem Z1o {op:Int}{n:Nat}(h:ar op=n)(h6:6≤op):(n=1∧(op=6∨op=7))∨(n=2∧8≤op∧op≤22)∨(n=3∧op=23):=by
 unfold ar at h
 have e:∀ k:Int,k < 6→(op == k)=false:=fun k hk=>beq_eq_false_iff_ne.2 (by omega)
 rw [e 0 (by omega),e 1 (by omega),e 2 (by omega),e 3 (by omega),e 4 (by omega),e 5 (by omega)] at h
 simp only [cond_false] at h
 by_cases a:op=6
 ·subst a; simp at h; omega
 by_cases b:op=7
 ·subst b; simp at h; omega
 rw [beq_eq_false_iff_ne.2 a,beq_eq_false_iff_ne.2 b,decide_eq_true (show op≥8 by omega)] at h
 simp only [cond_false,cond_true] at h
 by_cases c:op≤22
 ·rw [decide_eq_true c] at h; simp only [cond_true] at h; omega
 ·rw [decide_eq_false c] at h
  simp only [cond_false] at h
  by_cases d:op=23
  ·subst d; simp at h; omega
  ·rw [beq_eq_false_iff_ne.2 d] at h; simp only [cond_false] at h; omega
theorem O1h (op:Int)(k:List A0)(h:ar op=(k.length:Int))(h6:6≤op):V8 op k=some (opT op k):=by
 unfold V8
 rcases Z1o h h6 with ⟨hn,rfl | rfl⟩ | ⟨hn,h8,h22⟩ | ⟨hn,rfl⟩
 ·match k,hn with
  | [a],_=>
   rw [Sl _ _ (by simp [BB]),Sl _ _ (by simp [BB])]
   simp only [ob]
   unfold opT
   simp only [show ((6:Int) == 6)=true from rfl,if_true,cond_true,show idx [a] 0=some a from rfl,ob,Az,V15,List.getD_cons_zero]
   exact ifB _ _ _
 ·match k,hn with
  | [a],_=>
   rw [Sl _ _ (by simp [BB]),Sl _ _ (by simp [BB])]
   simp only [ob,K6]
   unfold opT
   simp only [show ((7:Int) == 6)=false from rfl,show ((7:Int) == 7)=true from rfl,Bool.false_eq_true,if_false,if_true,cond_true,cond_false,Bool.true_or]
   exact ifB _ _ _
 ·match k,hn with
  | [a,b],_=>
   rw [Sl _ _ (by simp [BB]),Sl _ _ (by simp [BB])]
   simp only [ob]
   generalize hI:[a,b].all (fun t=>t.Kind == 1)=I
   generalize hB:[a,b].all (fun t=>t.Kind == 0)=B
   unfold opT
   simp only [hI,hB]
   have gen:∀ x:Int,x=op→(x=8∨x=9∨x=10∨x=11∨x=12∨x=13∨x=14∨x=15∨x=16∨x=17∨x=18∨x=19∨x=20∨x=21∨x=22):=fun x hx=>by omega
   have fin:∀ op,(bif I then Gj (Io op a b) else ((zT,9):A0×Int))=bif I then Gj (Io op a b) else (zT,9):=fun _=>rfl
   rcases gen op rfl with rfl | rfl | rfl | rfl | rfl | rfl | rfl | rfl | rfl | rfl | rfl | rfl | rfl | rfl | rfl <;>
    (first
     | (cases I <;> cases B <;> rfl)
     | (cases I
        ·rfl
        ·show (idx [a,b] 0>>=fun x16=>idx [a,b] 1>>=fun x17=>S7 _ x16 x17>>=fun x18=>R7 x18>>=fun x19=>some (x19.1,x19.2))=_
         rw [show idx [a,b] 0=some a from rfl,show idx [a,b] 1=some b from rfl]
         simp only [ob,H1r,V15]
         rfl))
 ·match k,hn with
  | [a,b,c],_=>
   rw [Sl _ _ (by simp [BB]),Sl _ _ (by simp [BB])]
   simp only [ob]
   show (slc [a,b,c] 1 (([a,b,c].length:Nat):Int)>>=_)=_
   rw [show slc [a,b,c] 1 (([a,b,c].length:Nat):Int)=some [b,c] from rfl]
   simp only [ob,show idx [a,b,c] 0=some a from rfl]
   rw [Sl _ _ (by simp [BB]),Sl _ _ (by simp [BB])]
   simp only [ob,show idx [b,c] 0=some b from rfl,show idx [b,c] 1=some c from rfl,Az]
   show _=some (bif a.Kind != 0 then (zT,9) else bif [b,c].all (fun t=>t.Kind == 1) then (nT (min b.Low c.Low) (max b.High c.High),0) else bif [b,c].all (fun t=>t.Kind == 0) then (zT,0) else (zT,9))
   rw [ifB ([b,c].all fun t=>t.Kind == 0),ifB ([b,c].all fun t=>t.Kind == 1),ifB (a.Kind != 0)]
def Dq:List Str→List A0→Str→A0×Int
 | n::ns,t::ts,nm=>bif n == nm then (t,0) else Dq ns ts nm
 | _,_,_=>(zT,7)
def Aw (t:A0)(nm:Str):A0×Int:=bif t.Kind != 3 then (zT,9) else Dq t.Names t.Of nm
theorem A1p (t:A0)(nm:Str)(hl:t.Of.length=t.Names.length)(hb:t.Names.length≤BB):∀ (r:List Str) (i:Nat),t.Names.drop i=r→Y3 t nm i=some (Dq r (t.Of.drop i) nm)
 | [],i,h=>by
  rw [Y3,(Y0 h).1]
  rfl
 | x::r,i,h=>by
  obtain ⟨h1,h2,h3,h4,_⟩:=C1 h
  obtain ⟨y,g1,g2,_⟩:=At (l:=t.Of) (k:=i) (by omega)
  rw [Y3,h1,h2,g2]
  simp only [if_true,ob,g1]
  rw [w1 (by omega),A1p t nm hl hb r (i+1) h3]
  exact ifB _ _ _
theorem G1t (t:A0)(nm:Str)(hf:T3 t):T6 t nm=some (Aw t nm):=by
 unfold T6 Aw
 cases hk:t.Kind == 3 with
 | false=>
  have:(t.Kind != 3)=true:=by simp [bne,hk]
  rw [this]; rfl
 | true=>
  have:(t.Kind != 3)=false:=by simp [bne,hk]
  rw [this]
  obtain ⟨a,b,_⟩:=hf.recd hk
  exact A1p t nm b (by unfold BB; omega) t.Names 0 rfl
theorem E1b {nm:Str}:∀ {ns:List Str} {ts:List A0},(∀ t∈ts,T3 t)→(Dq ns ts nm).2=0→T3 (Dq ns ts nm).1
 | [],_,_,h=>by simp [Dq] at h
 | _::_,[],_,h=>by simp [Dq] at h
 | n::ns,t::ts,hf,h=>by
  simp only [Dq] at h ⊢
  cases hn:n == nm with
  | true=>exact hf t List.mem_cons_self
  | false=>
   rw [hn] at h
   exact E1b (fun t ht=>hf t (List.mem_cons_of_mem _ ht)) h
theorem T3.zT:T3 zT:=⟨rfl,rfl⟩
theorem T3.rng {t:A0}(h:T3 t)(hk:(t.Kind == 1)=true) : -1048576≤t.Low∧t.Low≤t.High∧t.High≤1048576:=by
 have hn:=h.here.2
 simp only [H9,Bool.and_eq_true] at hn
 have h2:=hn.2
 unfold nm2 X1 at h2
 rw [hk] at h2
 simp only [cond_true] at h2
 by_cases a:t.Low≥-1048576
 ·by_cases b:t.Low≤1048576
  ·by_cases c:t.High≥t.Low
   ·by_cases d:t.High≤1048576
    ·exact ⟨a,c,d⟩
    ·simp [a,b,c,d] at h2
   ·simp [a,b,c] at h2
  ·simp [a,b] at h2
 ·simp [a] at h2
theorem T3.nT {a b:Int}(h1 : -1048576≤a)(h2:a≤b)(h3:b≤1048576):T3 (nT a b):=by
 refine ⟨?_,?_⟩
 ·rfl
 ·rw [A0.all_eq]
  have:nm2 (Go.Proofs.YtdkabnfphmmmnaaGreatDoor.nT a b)=true:=by
   show (bif X1 a (-1048576) 1048576 then X1 b a 1048576 else false)=true
   unfold X1
   rw [decide_eq_true (show a≥-1048576 by omega),decide_eq_true (show a≤1048576 by omega),decide_eq_true (show b≥a by omega),decide_eq_true (show b≤1048576 by omega)]
   rfl
  show (H9 (Go.Proofs.YtdkabnfphmmmnaaGreatDoor.nT a b)&&true)=true
  simp only [H9,this,Bool.and_true]
  rfl
theorem I1r {a b:Int}(h:(Gj (nT a b)).2=0) : -1048576≤a∧b≤1048576∧Gj (nT a b)=(nT a b,0):=by
 unfold Gj at h ⊢
 have e:((nT a b).Kind == 1)=true:=rfl
 rw [e] at h ⊢
 simp only [cond_true] at h ⊢
 show _∧_∧(bif (bif decide (a < -1048576) then true else decide (b > 1048576)) then _ else _)=_
 change (bif (bif decide (a < -1048576) then true else decide (b > 1048576)) then ((zT,3):A0×Int) else (nT a b,0)).2=0 at h
 by_cases p:a < -1048576
 ·simp [p] at h
 ·by_cases q:b > 1048576
  ·simp [p,q] at h
  ·refine ⟨by omega,by omega,?_⟩
   simp [p,q]
theorem W15 {a b:Int}(hab:a≤b)(h:(Gj (nT a b)).2=0):T3 (Gj (nT a b)).1:=by
 obtain ⟨h1,h2,h3⟩:=I1r h
 rw [h3]
 exact .nT h1 hab h2
theorem wis {n:Int}(h : -4611686018427387904≤n)(h':n≤4611686018427387904):wi n=n:=wr h h'
theorem I1m {op:Int}{a b:A0}(ha:T3 a)(hb:T3 b)(ka:(a.Kind == 1)=true)(kb:(b.Kind == 1)=true):∃ lo hi,Io op a b=nT lo hi∧lo≤hi:=by
 obtain ⟨a1,a2,a3⟩:=ha.rng ka
 obtain ⟨b1,b2,b3⟩:=hb.rng kb
 unfold Io
 cases op == 8
 case true=>exact ⟨_,_,rfl,by rw [wis (by omega) (by omega),wis (by omega) (by omega)]; omega⟩
 cases op == 9
 case true=>exact ⟨_,_,rfl,by rw [wis (by omega) (by omega),wis (by omega) (by omega)]; omega⟩
 cases op == 10
 case true=>exact ⟨_,_,rfl,by omega⟩
 cases op == 11
 case true=>
  have e:wi (0 - a.Low) = -a.Low:=by rw [wis (by omega) (by omega)]; omega
  simp only [cond_false,cond_true,e]
  by_cases p:a.Low≥0
  ·by_cases q:b.Low≥0
   ·rw [decide_eq_true p,decide_eq_true q]; exact ⟨_,_,rfl,by omega⟩
   ·rw [decide_eq_true p,decide_eq_false q]; exact ⟨_,_,rfl,by rw [wis (by omega) (by omega)]; omega⟩
  ·rw [decide_eq_false p]; exact ⟨_,_,rfl,by rw [wis (by omega) (by omega)]; omega⟩
 cases op == 12
 case true=>
  refine ⟨_,_,rfl,?_⟩
  cases decide (b.Low < 0) <;> cases decide (b.High > 0) <;> simp only [cond_true,cond_false] <;> omega
 cases op == 21
 case true=>exact ⟨_,_,rfl,by omega⟩
 exact ⟨_,_,rfl,by omega⟩
theorem J1r {op:Int}{k:List A0}(h:ar op=(k.length:Int))(h6:6≤op)(hk:∀ t∈k,T3 t)(h0:(opT op k).2=0):T3 (opT op k).1:=by
 have zf:∀ (c:Bool) {x:A0×Int},(x.2=0→T3 x.1)→(bif c then x else ((zT,9):A0×Int)).2=0→T3 (bif c then x else ((zT,9):A0×Int)).1:=fun c x hx hc=>by
  cases c with
  | true=>exact hx hc
  | false=>exact absurd hc (by simp)
 unfold opT at h0 ⊢
 rcases Z1o h h6 with ⟨hn,rfl | rfl⟩ | ⟨hn,h8,h22⟩ | ⟨hn,rfl⟩
 ·match k,hn,hk with
  | [a],_,hk=>
   simp only [show ((6:Int) == 6)=true from rfl,cond_true,List.getD_cons_zero] at h0 ⊢
   cases ha:a.Kind == 1 with
   | false=>simp [ha] at h0
   | true=>
    obtain ⟨a1,a2,a3⟩:=(hk a List.mem_cons_self).rng ha
    simp only [List.all_cons,List.all_nil,ha,Bool.and_true,cond_true] at h0 ⊢
    exact W15 (by rw [wis (by omega) (by omega),wis (by omega) (by omega)]; omega) h0
 ·simp only [show ((7:Int) == 6)=false from rfl,show ((7:Int) == 7)=true from rfl,cond_true,cond_false,Bool.true_or] at h0 ⊢
  exact zf _ (fun _=>.zT) h0
 ·match k,hn,hk with
  | [a,b],_,hk=>
   rw [show (op == 6)=false from beq_eq_false_iff_ne.2 (by omega),show (op == 23)=false from beq_eq_false_iff_ne.2 (by omega)] at h0 ⊢
   simp only [cond_false] at h0 ⊢
   cases c1:(op == 7||op == 19||op == 20) with
   | true=>rw [c1] at h0; simp only [cond_true] at h0 ⊢; exact zf _ (fun _=>.zT) h0
   | false=>
    rw [c1] at h0
    simp only [cond_false] at h0 ⊢
    cases c2:(op == 13||op == 14) with
    | true=>rw [c2] at h0; simp only [cond_true] at h0 ⊢; exact zf _ (fun _=>.zT) h0
    | false=>
     rw [c2] at h0
     simp only [cond_false] at h0 ⊢
     cases c3:(op == 15||op == 16||op == 17||op == 18) with
     | true=>rw [c3] at h0; simp only [cond_true] at h0 ⊢; exact zf _ (fun _=>.zT) h0
     | false=>
      rw [c3] at h0
      simp only [cond_false,List.all_cons,List.all_nil,Bool.and_true] at h0 ⊢
      cases ha:a.Kind == 1 with
      | false=>rw [ha] at h0; exact absurd h0 (by simp)
      | true=>
       cases hb:b.Kind == 1 with
       | false=>rw [ha,hb] at h0; exact absurd h0 (by simp)
       | true=>
        rw [ha,hb] at h0
        obtain ⟨lo,hi,e,hle⟩:=I1m (op:=op) (hk a List.mem_cons_self) (hk b (List.mem_cons_of_mem _ List.mem_cons_self)) ha hb
        simp only [Bool.and_self,cond_true,List.getD_cons_zero,List.getD_cons_succ,e] at h0 ⊢
        exact W15 hle h0
 ·match k,hn,hk with
  | [a,b,c],_,hk=>
   change (bif a.Kind != 0 then ((zT,9):A0×Int) else bif [b,c].all (fun t=>t.Kind == 1) then (nT (min b.Low c.Low) (max b.High c.High),0) else bif [b,c].all (fun t=>t.Kind == 0) then (zT,0) else (zT,9)).2=0 at h0
   show T3 (bif a.Kind != 0 then ((zT,9):A0×Int) else bif [b,c].all (fun t=>t.Kind == 1) then (nT (min b.Low c.Low) (max b.High c.High),0) else bif [b,c].all (fun t=>t.Kind == 0) then (zT,0) else (zT,9)).1
   cases h1:a.Kind != 0 with
   | true=>rw [h1] at h0; exact absurd h0 (by simp)
   | false=>
    rw [h1] at h0
    simp only [cond_false] at h0 ⊢
    cases h2:[b,c].all (fun t=>t.Kind == 1) with
    | true=>
     simp only [List.all_cons,List.all_nil,Bool.and_true,Bool.and_eq_true] at h2
     obtain ⟨b1,b2,b3⟩:=(hk b (List.mem_cons_of_mem _ List.mem_cons_self)).rng h2.1
     obtain ⟨c1,c2,c3⟩:=(hk c (List.mem_cons_of_mem _ (List.mem_cons_of_mem _ List.mem_cons_self))).rng h2.2
     exact .nT (by omega) (by omega) (by omega)
    | false=>
     rw [h2] at h0
     exact zf _ (fun _=>.zT) h0
def Xk (σ:Str→Option N0)(o n:Int)(s:Str)(k:List A0):A0×Int:=
 bif o == 0 then Gj (nT n n)
 else bif (o == 1||o == 2) then (zT,0)
 else bif o == 3 then (match σ s with | some v=>(v.typ,0) | none=>(zT,7))
 else bif o == 4 then Aw (k.getD 0 zT) s
 else bif o == 5 then (bif (bif (k.getD 0 zT).Kind != 2 then true else (k.getD 1 zT).Kind != 1) then (zT,9) else ((k.getD 0 zT).Of.getD 0 zT,0))
 else opT o k
mutual
def B0.ty (σ:Str→Option N0):B0→A0×Int
 | .mk o n s ks=>bif (B0.tys σ ks).2 != 0 then (zT,(B0.tys σ ks).2) else Xk σ o n s (B0.tys σ ks).1
def B0.tys (σ:Str→Option N0):List B0→List A0×Int
 | []=>([],0)
 | x::r=>bif (B0.ty σ x).2 != 0 then ([],(B0.ty σ x).2) else bif (B0.tys σ r).2 != 0 then ([],(B0.tys σ r).2) else ((B0.ty σ x).1::(B0.tys σ r).1,0)
end
theorem B0.ty_eq (σ:Str→Option N0)(e:B0):e.ty σ=bif (B0.tys σ e.Kids).2 != 0 then (zT,(B0.tys σ e.Kids).2) else Xk σ e.Op e.NV e.Name (B0.tys σ e.Kids).1:=by cases e; simp only [B0.ty]
theorem G1k (σ:Str→Option N0):∀ l:List B0,(B0.tys σ l).2=0→(B0.tys σ l).1.length=l.length
 | [],_=>rfl
 | x::r,h=>by
  simp only [B0.tys] at h ⊢
  cases h1:(B0.ty σ x).2 != 0 with
  | true=>rw [h1] at h; simp only [cond_true] at h; rw [h] at h1; exact absurd h1 (by simp)
  | false=>
   rw [h1] at h
   simp only [cond_false] at h ⊢
   cases h2:(B0.tys σ r).2 != 0 with
   | true=>rw [h2] at h; simp only [cond_true] at h; rw [h] at h2; exact absurd h2 (by simp)
   | false=>
    simp only [cond_false,List.length_cons]
    rw [G1k σ r (by simpa using h2)]
theorem P1h {σ:Str→Option N0}:∀ {l:List B0},(∀ x∈l,(x.ty σ).2=0→T3 (x.ty σ).1)→∀ t∈(B0.tys σ l).1,T3 t
 | [],_,t,ht=>by simp [B0.tys] at ht
 | x::r,hx,t,ht=>by
  simp only [B0.tys] at ht
  cases h1:(B0.ty σ x).2 != 0 with
  | true=>rw [h1] at ht; simp at ht
  | false=>
   rw [h1] at ht
   simp only [cond_false] at ht
   cases h2:(B0.tys σ r).2 != 0 with
   | true=>rw [h2] at ht; simp at ht
   | false=>
    rw [h2] at ht
    simp only [cond_false,List.mem_cons] at ht
    rcases ht with rfl | ht
    ·exact hx x List.mem_cons_self (by simpa using h1)
    ·exact P1h (fun y hy=>hx y (List.mem_cons_of_mem _ hy)) t ht
def SF (σ:Str→Option N0):Prop:=∀ nm v,σ nm=some v→T3 v.typ
theorem Q1h {o:Int}{n:Nat}(h:ar o=n)(h6:o < 6):(n=0∧(o=0∨o=1∨o=2∨o=3))∨(n=1∧o=4)∨(n=2∧o=5):=by
 unfold ar at h
 by_cases a0:o=0
 ·subst a0; simp at h; omega
 by_cases a1:o=1
 ·subst a1; simp at h; omega
 by_cases a2:o=2
 ·subst a2; simp at h; omega
 by_cases a3:o=3
 ·subst a3; simp at h; omega
 by_cases a4:o=4
 ·subst a4; simp at h; omega
 by_cases a5:o=5
 ·subst a5; simp at h; omega
 rw [beq_eq_false_iff_ne.2 a0,beq_eq_false_iff_ne.2 a1,beq_eq_false_iff_ne.2 a2,beq_eq_false_iff_ne.2 a3,beq_eq_false_iff_ne.2 a4,beq_eq_false_iff_ne.2 a5,
  beq_eq_false_iff_ne.2 (show o≠6 by omega),beq_eq_false_iff_ne.2 (show o≠7 by omega),decide_eq_false (show ¬ o≥8 by omega),beq_eq_false_iff_ne.2 (show o≠23 by omega)] at h
 simp only [cond_false] at h
 omega
theorem J1m {σ:Str→Option N0}(hσ:SF σ){o n:Int}{s:Str}{k:List A0}(h:ar o=(k.length:Int))(hk:∀ t∈k,T3 t)(h0:(Xk σ o n s k).2=0):T3 (Xk σ o n s k).1:=by
 by_cases h6:o < 6
 ·rcases Q1h h h6 with ⟨hn,rfl | rfl | rfl | rfl⟩ | ⟨hn,rfl⟩ | ⟨hn,rfl⟩
  ·exact W15 (Int.le_refl _) h0
  ·exact .zT
  ·exact .zT
  ·change (match σ s with | some v=>(v.typ,(0:Int)) | none=>(zT,7)).2=0 at h0
   show T3 (match σ s with | some v=>(v.typ,(0:Int)) | none=>(zT,7)).1
   cases hs:σ s with
   | none=>rw [hs] at h0; exact absurd h0 (by simp)
   | some v=>exact hσ s v hs
  ·match k,hn,hk with
   | [a],_,hk=>
    change (Aw a s).2=0 at h0
    show T3 (Aw a s).1
    have ha:=hk a List.mem_cons_self
    unfold Aw at h0 ⊢
    cases h1:a.Kind != 3 with
    | true=>rw [h1] at h0; exact absurd h0 (by simp)
    | false=>
     rw [h1] at h0
     exact E1b (fun t ht=>ha.kid ht) h0
  ·match k,hn,hk with
   | [a,b],_,hk=>
    change (bif (bif a.Kind != 2 then true else b.Kind != 1) then ((zT,9):A0×Int) else (a.Of.getD 0 zT,0)).2=0 at h0
    show T3 (bif (bif a.Kind != 2 then true else b.Kind != 1) then ((zT,9):A0×Int) else (a.Of.getD 0 zT,0)).1
    have ha:=hk a List.mem_cons_self
    cases h1:a.Kind != 2 with
    | true=>rw [h1] at h0; exact absurd h0 (by simp)
    | false=>
     rw [h1] at h0
     obtain ⟨x,hx,_,_⟩:=ha.arr (by simpa [bne] using h1)
     cases h2:b.Kind != 1 with
     | true=>rw [h2] at h0; exact absurd h0 (by simp)
     | false=>
      simp only [cond_false,hx,List.getD_cons_zero]
      exact ha.kid (by rw [hx]; exact List.mem_cons_self)
 ·unfold Xk at h0 ⊢
  rw [beq_eq_false_iff_ne.2 (show o≠0 by omega),beq_eq_false_iff_ne.2 (show o≠1 by omega),beq_eq_false_iff_ne.2 (show o≠2 by omega),beq_eq_false_iff_ne.2 (show o≠3 by omega),beq_eq_false_iff_ne.2 (show o≠4 by omega),beq_eq_false_iff_ne.2 (show o≠5 by omega)] at h0 ⊢
  exact J1r h (by omega) hk h0
theorem H1t (s:Option I0)(e:B0)(k:List A0)(h:ar e.Op=(k.length:Int))(hk:∀ t∈k,T3 t) :
  (if (e.Op == 0)=true then F2 e.NV e.NV>>=fun x2=>R7 x2>>=fun x3=>some (x3.1,x3.2) else if (e.Op == 1)=true then I8 s e k (e.Op == 1) else I8 s e k (e.Op == 2)) =
   some (Xk (fun nm=>lkO nm s) e.Op e.NV e.Name k):=by
 have tl:∀ v,I8 s e k v=if v=true then some (zT,0) else (if (e.Op == 3)=true then (W4 s e.Name>>=fun x4=>if (!x4.2)=true then some (zT,7) else some (x4.1.typ,0)) else
   if (e.Op == 4)=true then (idx k 0>>=fun x5=>T6 x5 e.Name>>=fun x6=>some (x6.1,x6.2)) else
   if (e.Op == 5)=true then (idx k 0>>=fun x7=>(if (!(x7.Kind != 2))=true then idx k 1 else some default)>>=fun x8=>if (bif (x7.Kind != 2) then true else (x8.Kind != 1))=true then some (zT,9) else (idx k 0>>=fun x9=>idx x9.Of 0>>=fun x10=>some (x10,0))) else
   (V8 e.Op k>>=fun x11=>some (x11.1,x11.2))):=fun v=>rfl
 unfold Xk
 simp only [Az,ob,V15,tl,U15]
 by_cases h6:e.Op < 6
 ·rcases Q1h h h6 with ⟨hn,ho | ho | ho | ho⟩ | ⟨hn,ho⟩ | ⟨hn,ho⟩
  ·rw [ho]; rfl
  ·rw [ho]; rfl
  ·rw [ho]; rfl
  ·rw [ho]
   show (if (!(Yf s e.Name).2)=true then some ((zT,7):A0×Int) else some ((Yf s e.Name).1.typ,0))=some (match lkO e.Name s with | some v=>(v.typ,0) | none=>(zT,7))
   unfold Yf
   cases lkO e.Name s <;> rfl
  ·rw [ho]
   match k,hn,hk with
   | [a],_,hk=>
    show (T6 a e.Name>>=fun x6=>some (x6.1,x6.2))=some (Aw a e.Name)
    rw [G1t a e.Name (hk a List.mem_cons_self)]
    rfl
  ·rw [ho]
   match k,hn,hk with
   | [a,b],_,hk=>
    have ha:=hk a List.mem_cons_self
    show ((if (!(a.Kind != 2))=true then some b else some default)>>=fun x8=>if (bif (a.Kind != 2) then true else (x8.Kind != 1))=true then some ((zT,9):A0×Int) else (idx a.Of 0>>=fun x10=>some (x10,0)))=some (bif (bif a.Kind != 2 then true else b.Kind != 1) then (zT,9) else (a.Of.getD 0 zT,0))
    cases h1:a.Kind != 2 with
    | true=>rfl
    | false=>
     obtain ⟨x,hx,_,_⟩:=ha.arr (by simpa [bne] using h1)
     rw [hx]
     simp only [Bool.not_false,if_true,ob,cond_false]
     cases h2:b.Kind != 1 <;> rfl
 ·have f:∀ n:Int,n < 6→(e.Op == n)=false:=fun n hn=>beq_eq_false_iff_ne.2 (by omega)
  rw [f 0 (by omega),f 1 (by omega),f 2 (by omega),f 3 (by omega),f 4 (by omega),f 5 (by omega),O1h e.Op k h (by omega)]
  rfl
theorem B1p (s:Option I0)(e:B0)(ho:OkE e)(hf:B2 e=true)
  (ih:∀ x∈e.Kids,F3 s x=some (x.ty fun nm=>lkO nm s)∧((x.ty fun nm=>lkO nm s).2=0→T3 (x.ty fun nm=>lkO nm s).1)) :
  ∀ (r:List B0) (i:Nat) (k:List A0),e.Kids.drop i=r→k.length=i∧i≤e.Kids.length→(∀ t∈k,T3 t)→
   Ab s e k i=some (bif (B0.tys (fun nm=>lkO nm s) r).2 != 0 then (zT,(B0.tys (fun nm=>lkO nm s) r).2) else Xk (fun nm=>lkO nm s) e.Op e.NV e.Name (k++(B0.tys (fun nm=>lkO nm s) r).1))
 | [],i,k,h,hi,hk=>by
  obtain ⟨h1,h2⟩:=Y0 h
  rw [Ab,h1]
  have hl:k.length=e.Kids.length:=by omega
  have har:ar e.Op=(k.length:Int):=by
   simp only [B2,Bool.and_eq_true] at hf
   have:=hf.1.1.1
   unfold ef1 at this
   rw [hl]
   simpa using this
  simp only [Bool.false_eq_true,if_false,B0.tys,List.append_nil]
  exact H1t s e k har hk
 | x::r,i,k,h,hi,hk=>by
  obtain ⟨h1,h2,h3,h4,h5⟩:=C1 h
  obtain ⟨i1,i2⟩:=ih x h5
  have hb:=ho.kids
  rw [Ab,h1,h2]
  simp only [if_true,ob,i1,B0.tys]
  cases hc:(x.ty fun nm=>lkO nm s).2 != 0 with
  | true=>simp only [if_true,cond_true,hc]
  | false=>
   have hz:(x.ty fun nm=>lkO nm s).2=0:=by simpa using hc
   rw [decide_eq_true (show (k.length+1) * 97≤140737488355328 by unfold BB at hb; omega)]
   simp only [Bool.false_eq_true,if_false,if_true,cond_false]
   rw [w1 (by omega),B1p s e ho hf ih r (i+1) (k++[(x.ty fun nm=>lkO nm s).1]) h3 ⟨by simp [hi.1],by omega⟩ (fun t ht=>by
    rcases List.mem_append.1 ht with ht | ht
    ·exact hk t ht
    ·simp at ht; subst ht; exact i2 hz)]
   cases h2:(B0.tys (fun nm=>lkO nm s) r).2 != 0 with
   | true=>simp only [cond_true,h2]
   | false=>simp only [cond_false,List.append_assoc,List.singleton_append]; rfl
theorem I1t (s:Option I0)(hs:SF fun nm=>lkO nm s)(e:B0):OkE e→e.all B2=true→F3 s e=some (e.ty fun nm=>lkO nm s)∧((e.ty fun nm=>lkO nm s).2=0→T3 (e.ty fun nm=>lkO nm s).1):=by
 refine B0.ind (P:=fun e=>OkE e→e.all B2=true→F3 s e=some (e.ty fun nm=>lkO nm s)∧((e.ty fun nm=>lkO nm s).2=0→T3 (e.ty fun nm=>lkO nm s).1)) ?_ e
 intro e ih ho hf
 rw [B0.all_eq,Bool.and_eq_true] at hf
 have ih':∀ x∈e.Kids,F3 s x=some (x.ty fun nm=>lkO nm s)∧((x.ty fun nm=>lkO nm s).2=0→T3 (x.ty fun nm=>lkO nm s).1):=fun x hx=>ih x hx (ho.kid hx) (B0.alls_mem hf.2 hx)
 have hb:=ho.kids
 refine ⟨?_,fun h0=>?_⟩
 ·rw [F3,decide_eq_true (show 0≤((e.Kids.length:Nat):Int)∧((e.Kids.length:Nat):Int).toNat * 97≤140737488355328 by unfold BB at hb; rw [Int.toNat_natCast]; omega),if_pos rfl]
  have:=B1p s e ho hf.1 ih' e.Kids 0 [] rfl ⟨rfl,Nat.zero_le _⟩ (fun t ht=>by cases ht)
  rw [B0.ty_eq]
  exact this
 ·rw [B0.ty_eq] at h0 ⊢
  cases hc:(B0.tys (fun nm=>lkO nm s) e.Kids).2 != 0 with
  | true=>rw [hc] at h0; simp only [cond_true] at h0; rw [h0] at hc; exact absurd hc (by simp)
  | false=>
   rw [hc] at h0
   simp only [cond_false] at h0 ⊢
   refine J1m hs ?_ (P1h fun x hx=>(ih' x hx).2) h0
   rw [G1k _ _ (by simpa using hc)]
   have:=hf.1
   simp only [B2,Bool.and_eq_true] at this
   simpa [ef1] using this.1.1.1
end Go.Proofs.YtdkabnfphmmmnaaGreatDoor

set_option linter.unusedSimpArgs false
set_option linter.unusedVariables false
namespace Go.Proofs.YtdkabnfphmmmnaaGreatDoor
open Go.Am
theorem okz:Ok zT:=by unfold Ok; simp only [A0.bulk_eq,A0.bulks,BB]; decide
theorem okn (a b:Int):Ok (nT a b):=by unfold Ok nT; simp only [A0.bulk_eq,A0.bulks,BB]; decide
def FO (t:A0):Prop:=T3 t∧Ok t
theorem FO.z:FO zT:=⟨.zT,okz⟩
theorem J1t {m:List (Str×A0)}(hm:MOk m){t:A0}(hb:t.bulk≤4200000):FO (Ld m t).1:=by
 by_cases h:(Ld m t).2=0
 ·have:=(N1h hm hb h).1.val
  exact ⟨this.fine,this.ok⟩
 ·have:(Ld m t).1=zT:=by
   unfold Ld at h ⊢
   cases hc:G8 t != 0 with
   | true=>rfl
   | false=>
    rw [hc] at h
    simp only [cond_false] at h ⊢
    cases hx:t.rp m with
    | none=>rfl
    | some x=>
     rw [hx] at h
     simp only at h ⊢
     cases h2:x.some Ao with
     | true=>rfl
     | false=>
      rw [h2] at h
      simp only [cond_false] at h ⊢
      cases h3:(decide ((x.depth:Int) > 12)||decide (x.cnt > 32)) with
      | true=>rfl
      | false=>rw [h3] at h; exact absurd rfl h
  rw [this]
  exact .z
theorem Jo {ds:List D0}(hd:DOk ds){t:A0}(ht:t.bulk≤4200000):FO (U2 ds t).1:=by
 unfold U2 T15
 cases (Ho ds []).2 != 0 with
 | true=>exact .z
 | false=>exact J1t (S1c (ds:=ds) ds [] (fun d h=>(hd.2 d h).1) .nil).1 ht
theorem DOk.take {ds:List D0}(h:DOk ds)(i:Nat):DOk (ds.take i):=⟨by have:=h.1; simp; omega,fun d hd=>h.2 d (List.mem_of_mem_take hd)⟩
structure CkP (p:O0):Prop where
 okp:OkP p
 dok:DOk p.Decls
 small:∀ d∈p.Decls,d.TypeV.bulk≤4200000∧(∀ v∈d.Params,v.TypeV.bulk≤4200000)∧(∀ v∈d.Vars,v.TypeV.bulk≤4200000)
 dform:D0.alls dform p.Decls=true
 sform:C0.alls sform p.Body=true
 dnumb:D0.alls dnumb p.Decls=true
 snumb:C0.alls snumb p.Body=true
theorem X15 {n d:Int}{f m u:Bool}(h:Cc n d f m u=0):f=false∧u=false:=by
 unfold Cc at h
 generalize (bif decide (n > 1024) then true else decide (d > 12))=q at h
 cases q <;> cases f <;> cases m <;> cases u <;> simp at h ⊢
theorem CkP.of {p:O0}(hb:p.bulk≤4200000)(hc:Y6 p=0):CkP p:=by
 have hz:=X15 hc
 simp only [Bool.not_eq_false',Bool.and_eq_true] at hz
 obtain ⟨⟨f1,f2⟩,u1,u2⟩:=hz
 have hbd:D0.bulks p.Decls≤4200000:=by cases p; simp only [O0.bulk] at hb; simp only; omega
 have sm:∀ {l:List D0} {d:D0},d∈l→D0.bulks l≤4200000→d.TypeV.bulk≤4200000∧d.Name.length≤4200000∧D0.bulks d.Params≤4200000∧D0.bulks d.Vars≤4200000:=fun {l d} hd hl=>by
  have h1:=D0.bulk_mem hd
  have h2:=D0.bulk_eq d
  omega
 refine ⟨Zy hb,⟨by have:=D0.bulk_len p.Decls; omega,fun d hd=>?_⟩,fun d hd=>?_,f1,f2,u1,u2⟩
 ·have:=sm hd hbd
  exact ⟨this.1,by unfold BB; omega⟩
 ·have:=sm hd hbd
  exact ⟨this.1,fun v hv=>(sm hv this.2.2.1).1,fun v hv=>(sm hv this.2.2.2).1⟩
theorem CkP.dec {p:O0}(h:CkP p){d:D0}(hd:d∈p.Decls):Go.Proofs.YtdkabnfphmmmnaaGreatDoor.dform d=true∧Go.Proofs.YtdkabnfphmmmnaaGreatDoor.dnumb d=true:=by
 have key:∀ {q:D0→Bool} {l:List D0},D0.alls q l=true→d∈l→q d=true:=by
  intro q l
  induction l with
  | nil=>intro _ hm; cases hm
  | cons x r ih=>
   intro ha hm
   simp only [D0.alls,Bool.and_eq_true] at ha
   cases hm with
   | head=>rw [D0.all_eq,Bool.and_eq_true] at ha; exact ha.1.1
   | tail _ hm=>exact ih ha.2 hm
 exact ⟨key h.dform hd,key h.dnumb hd⟩
theorem Z18 {c:J0}(h:CkP c.p){i:Nat}(hi:i≤c.p.Decls.length){t:A0}(ht:t.bulk≤4200000):C4 c t i=some (U2 (c.p.Decls.take i) t):=by
 unfold C4
 rw [E1m hi,ob,X1o _ (h.dok.take i) t ht]
 rfl
theorem Ko {c:J0}(h:CkP c.p){i:Nat}(hi:i≤c.p.Decls.length){t:A0}(ht:t.bulk≤4200000):P2 c t i=some (U2 (c.p.Decls.take i) t).1:=by
 unfold P2
 rw [Z18 h hi ht]
 rfl
def SO (s:Option I0):Prop:=∀ nm v,lkO nm s=some v→FO v.typ
theorem SO.f {s:Option I0}(h:SO s):SF fun nm=>lkO nm s:=fun nm v e=>(h nm v e).1
def MF (m:List (Str×N0)):Prop:=∀ q∈m,FO q.2.typ
theorem C1p {α:Type}{k:Str}{x:α}:∀ {m:List (Str×α)},mgt k m=some x→∃ k',(k',x)∈m
 | [],h=>by cases h
 | (k',y)::r,h=>by
  simp only [mgt] at h
  cases hk:k == k' with
  | true=>rw [hk] at h; cases h; exact ⟨k',List.mem_cons_self⟩
  | false=>rw [hk] at h; obtain ⟨q,hq⟩:=C1p h; exact ⟨q,List.mem_cons_of_mem _ hq⟩
theorem MF.put {m:List (Str×N0)}(h:MF m)(k:Str){x:N0}(hx:FO x.typ):MF (mpt k x m):=by
 induction m with
 | nil=>intro q hq; simp [mpt] at hq; subst hq; exact hx
 | cons p r ih=>
  obtain ⟨k',y⟩:=p
  intro q hq
  simp only [mpt] at hq
  cases hk:k == k' with
  | true=>
   rw [hk] at hq
   rcases List.mem_cons.1 hq with rfl | hq
   ·exact hx
   ·exact h q (List.mem_cons_of_mem _ hq)
  | false=>
   rw [hk] at hq
   rcases List.mem_cons.1 hq with rfl | hq
   ·exact h _ List.mem_cons_self
   ·exact ih (fun q hq=>h q (List.mem_cons_of_mem _ hq)) q hq
theorem SO.ext {s:Option I0}(h:SO s){m:List (Str×N0)}(hm:MF m):SO (some (.mk s m)):=by
 intro nm v e
 simp only [lkO,I0.find] at e
 cases hg:mgt nm m with
 | some y=>rw [hg] at e; cases e; obtain ⟨k',hk⟩:=C1p hg; exact hm _ hk
 | none=>rw [hg] at e; exact h nm v e
theorem SO.none:SO none:=fun nm v e=>by simp [lkO] at e
theorem R1h {nm:Str}:∀ {ns:List Str} {ts:List A0},(∀ t∈ts,Ok t)→Ok (Dq ns ts nm).1
 | [],_,_=>okz
 | _::_,[],_=>okz
 | n::ns,t::ts,hf=>by
  simp only [Dq]
  cases n == nm with
  | true=>exact hf t List.mem_cons_self
  | false=>exact R1h fun t ht=>hf t (List.mem_cons_of_mem _ ht)
theorem D1p (op:Int)(a b:A0):∃ lo hi,Io op a b=nT lo hi:=by
 unfold Io
 cases op == 8 <;> cases op == 9 <;> cases op == 10 <;> cases op == 11 <;> cases op == 12 <;> cases op == 21 <;> cases (bif decide (a.Low≥0) then decide (b.Low≥0) else false) <;> exact ⟨_,_,rfl⟩
theorem A19 (a b:Int):Ok (Gj (nT a b)).1:=by
 unfold Gj
 cases (bif (nT a b).Kind == 1 then (bif decide ((nT a b).Low < (-1048576)) then true else decide ((nT a b).High > 1048576)) else false) with
 | true=>exact okz
 | false=>exact okn _ _
theorem I9 {c:Bool}{x y:A0×Int}(hx:Ok x.1)(hy:Ok y.1):Ok (bif c then x else y).1:=by cases c; exact hy; exact hx
theorem R1u (op:Int)(k:List A0):Ok (opT op k).1:=by
 obtain ⟨lo,hi,e⟩:=D1p op (k.getD 0 zT) (k.getD 1 zT)
 unfold opT
 rw [e]
 refine I9 (I9 (A19 _ _) okz) (I9 (I9 okz okz) (I9 (I9 okz okz) (I9 (I9 okz okz) (I9 (I9 okz (I9 (okn _ _) (I9 okz okz))) (I9 (A19 _ _) okz)))))
theorem H1k {l:List A0}(h:∀ t∈l,Ok t)(i:Nat):Ok (l.getD i zT):=by
 unfold List.getD
 cases hx:l[i]? with
 | none=>exact okz
 | some x=>exact h x (List.mem_of_getElem? hx)
theorem K1r {σ:Str→Option N0}(hσ:∀ nm v,σ nm=some v→Ok v.typ)(o n:Int)(s:Str){k:List A0}(hk:∀ t∈k,Ok t):Ok (Xk σ o n s k).1:=by
 have hk0:=H1k hk 0
 unfold Xk
 refine I9 (A19 _ _) (I9 okz (I9 ?_ (I9 ?_ (I9 (I9 okz ?_) (R1u _ _)))))
 ·cases hs:σ s with
  | none=>exact okz
  | some v=>exact hσ s v hs
 ·unfold Aw
  exact I9 okz (R1h fun t ht=>hk0.kid ht)
 ·exact H1k (fun t ht=>hk0.kid ht) 0
mutual
theorem H1s {σ:Str→Option N0}(hσ:∀ nm v,σ nm=some v→Ok v.typ):∀ e:B0,Ok (e.ty σ).1
 | .mk o n s ks=>by
  simp only [B0.ty]
  exact I9 okz (K1r hσ o n s (E1p hσ ks))
theorem E1p {σ:Str→Option N0}(hσ:∀ nm v,σ nm=some v→Ok v.typ):∀ (l:List B0),∀ t∈(B0.tys σ l).1,Ok t
 | [],t,ht=>by simp [B0.tys] at ht
 | x::r,t,ht=>by
  have h1:=H1s hσ x
  have h2:=E1p hσ r
  simp only [B0.tys] at ht
  cases c1:(B0.ty σ x).2 != 0 with
  | true=>rw [c1] at ht; simp at ht
  | false=>
   rw [c1] at ht
   simp only [cond_false] at ht
   cases c2:(B0.tys σ r).2 != 0 with
   | true=>rw [c2] at ht; simp at ht
   | false=>
    rw [c2] at ht
    simp only [cond_false,List.mem_cons] at ht
    rcases ht with rfl | ht
    ·exact h1
    ·exact h2 t ht
end
abbrev tyS (s:Option I0)(e:B0):A0×Int:=e.ty fun nm=>lkO nm s
theorem S1u {s:Option I0}(h:SO s)(e:B0):Ok (tyS s e).1:=H1s (fun nm v hv=>(h nm v hv).2) e
theorem Y15 {s:Option I0}(h:SO s){e:B0}(ho:OkE e)(hf:e.all B2=true):F3 s e=some (tyS s e):=(I1t s h.f e ho hf).1
def scT (t:A0):Bool:=bif t.Kind == 0 then true else t.Kind == 1
def T1c (a b:A0)(place:Bool):Bool:=bif (bif scT a then true else scT b) then a.Kind == b.Kind else (bif place then a.same b else false)
theorem S1h {a:A0}(ha:Ok a)(b:A0)(place:Bool):W5 a b place=some (T1c a b place):=by
 unfold W5 T1c
 rw [show V5 a=some (scT a) from rfl,ob]
 cases scT a with
 | true=>rfl
 | false=>
  rw [show (if (!false)=true then V5 b else some default)=some (scT b) from rfl,ob]
  cases scT b with
  | true=>rfl
  | false=>
   cases place with
   | false=>rfl
   | true=>
    simp only [cond_false,Bool.false_eq_true,if_false,if_true]
    rw [D1r a ha b]
    rfl
def plE (e:B0):Bool:=bif (bif (e.Op == 3) then true else (e.Op == 4)) then true else (e.Op == 5)
def Tu (s:Option I0)(e:B0)(to:A0):Int:=bif (bif (tyS s e).2 == 0 then !T1c (tyS s e).1 to (plE e) else false) then 9 else (tyS s e).2
theorem F1b {s:Option I0}(h:SO s){e:B0}(ho:OkE e)(hf:e.all B2=true)(to:A0):K8 s e to=some (Tu s e to):=by
 unfold K8 Tu
 rw [Y15 h ho hf,ob]
 cases hc:(tyS s e).2 == 0 with
 | false=>rfl
 | true=>
  rw [show (if true=true then Kg e else some default)=some (plE e) from rfl,ob,if_pos rfl,S1h (S1u h e),ob]
  exact ifB _ _ _
structure B19 (c:J0)(n:Nat):Prop where
 p:CkP c.p
 at_:c.atV=n
 le:n≤c.p.Decls.length
theorem F1p {x:C0}(h:sform x=true):(uPl x.Verb=true→x.Place.all B2=true)∧(uVa x.Verb=true→x.Value.all B2=true)∧B0.alls B2 x.Args=true:=by
 unfold sform at h
 simp only [Bool.and_eq_true] at h
 obtain ⟨⟨⟨⟨⟨⟨⟨⟨⟨⟨⟨_,h1⟩,_⟩,h2⟩,_⟩,_⟩,h3⟩,_⟩,_⟩,_⟩,_⟩,_⟩:=h
 refine ⟨fun hu=>?_,fun hu=>?_,h3⟩
 ·rw [hu] at h1; exact h1
 ·rw [hu] at h2; exact h2
theorem I1k {s:Option I0}(h:SO s){e:B0}(ho:OkE e)(hf:e.all B2=true):W8 s e=some (bif (bif (tyS s e).2 == 0 then (tyS s e).1.Kind != 0 else false) then 9 else (tyS s e).2):=by
 unfold W8
 rw [Y15 h ho hf,ob]
 exact ifB _ _ _
structure WfS (l:List C0):Prop where
 ok:OkS l
 form:C0.alls sform l=true
 numb:C0.alls snumb l=true
theorem Tm {q:C0→Bool}{x:C0}:∀ {l:List C0},C0.alls q l=true→x∈l→q x=true∧C0.alls q x.Then=true∧C0.alls q x.Else=true
 | y::r,h,hm=>by
  simp only [C0.alls,Bool.and_eq_true] at h
  cases hm with
  | head=>have:=h.1; rw [C0.all_eq,Bool.and_eq_true,Bool.and_eq_true] at this; exact this
  | tail _ hm=>exact Tm h.2 hm
theorem WfS.kids {l:List C0}(h:WfS l){x:C0}(hx:x∈l):WfS x.Then∧WfS x.Else:=by
 have a:=Tm h.form hx
 have b:=Tm h.numb hx
 have o:=h.ok.mem hx
 exact ⟨⟨o.thens,a.2.1,b.2.1⟩,o.elses,a.2.2,b.2.2⟩
theorem L1r {x:C0}(h:snumb x=true)(h7:x.Verb=7):T3 (nT x.Low x.High):=by
 unfold snumb at h
 simp only [Bool.and_eq_true] at h
 have hn:=h.2
 unfold Lh at hn
 rw [h7] at hn
 simp only [show ((7:Int) == 4)=false from rfl,show ((7:Int) == 6)=false from rfl,show ((7:Int) == 7)=true from rfl,cond_false,cond_true,X1] at hn
 by_cases a:x.Low≥-1048576
 ·by_cases b:x.High≥x.Low
  ·by_cases d:x.High≤1048576
   ·exact .nT a b d
   ·simp [a,b,d] at hn
  ·simp [a,b] at hn
 ·simp [a] at hn
def inK (d:D0):Bool:=bif (bif (d.Kind == 1) then true else (d.Kind == 2)) then true else (d.Kind == 3)
def inM (ds:List D0)(vs:Bool):List D0→Nat→List (Str×N0)→List (Str×N0)
 | [],_,m=>m
 | d::r,k,m=>inM ds vs r (k+1) (bif (bif inK d then true else (bif vs then (d.Kind == 4) else false)) then mpt d.Name ⟨(U2 (ds.take k) d.TypeV).1,inK d⟩ m else m)
theorem C19 {c:J0}(hc:CkP c.p){i:Nat}(hi:i≤c.p.Decls.length)(vs:Bool)(x1:List (Str×N0)×Option I0) :
  ∀ (r:List D0) (k:Nat) (m:List (Str×N0)),(c.p.Decls.take i).drop k=r→J2 c vs m x1 (c.p.Decls.take i) k=some (some (.mk x1.2 (inM c.p.Decls vs r k m)))
 | [],k,m,h=>by
  rw [J2,(Y0 h).1]
  rfl
 | d::r,k,m,h=>by
  obtain ⟨h1,h2,h3,h4,h5⟩:=C1 h
  have hl:=hc.okp.decls.len
  have hk:k≤c.p.Decls.length:=by simp at h4; omega
  rw [J2,h1,h2]
  simp only [if_true,ob,inM]
  rw [Ko hc hk (hc.small d (List.mem_of_mem_take h5)).1]
  simp only [ob]
  rw [w1 (by omega)]
  show (if (bif inK d then true else (bif vs then (d.Kind == 4) else false))=true then _ else _)=_
  cases (bif inK d then true else (bif vs then (d.Kind == 4) else false)) with
  | true=>exact C19 hc hi vs x1 r (k+1) _ h3
  | false=>exact C19 hc hi vs x1 r (k+1) m h3
def inS (p:O0)(i:Nat)(vs:Bool):Option I0:=some (.mk none (inM p.Decls vs (p.Decls.take i) 0 []))
theorem Z15 {c:J0}(hc:CkP c.p){i:Nat}(hi:i≤c.p.Decls.length)(vs:Bool):D4 c i vs=some (inS c.p i vs):=by
 unfold D4
 rw [show X3 none=some ([],none) from rfl,ob,E1m hi,ob]
 exact C19 hc hi vs ([],none) (c.p.Decls.take i) 0 [] rfl
theorem G1p {p:O0}(hp:CkP p)(vs:Bool):∀ (r:List D0) (k:Nat) (m:List (Str×N0)),(∀ d∈r,d∈p.Decls)→MF m→MF (inM p.Decls vs r k m)
 | [],_,_,_,hm=>hm
 | d::r,k,m,hd,hm=>by
  simp only [inM]
  refine G1p hp vs r (k+1) _ (fun d hd'=>hd d (List.mem_cons_of_mem _ hd')) ?_
  cases (bif inK d then true else (bif vs then (d.Kind == 4) else false)) with
  | true=>exact hm.put _ (Jo (hp.dok.take k) (hp.small d (hd d List.mem_cons_self)).1)
  | false=>exact hm
theorem T1h {p:O0}(hp:CkP p)(i:Nat)(vs:Bool):SO (inS p i vs):=
 SO.none.ext (G1p hp vs _ 0 [] (fun d hd=>List.mem_of_mem_take hd) fun q hq=>by cases hq)
theorem M1r {t:A0}(ht:Ok t):(Fg t).1.length≤BB:=by
 unfold Fg
 cases hc:Bk t != 0 with
 | true=>exact Nat.zero_le _
 | false=>
  have hv:=(Val.of ht (by simpa using hc)).1
  have h1:=K1h t hv []
  have h2:=hv.cnt
  simp only [cond_false]
  unfold BB
  omega
end Go.Proofs.YtdkabnfphmmmnaaGreatDoor

set_option linter.unusedSimpArgs false
set_option linter.unusedVariables false
namespace Go.Proofs.YtdkabnfphmmmnaaGreatDoor
open Go.Am
theorem K1m {n d:Int}{f m u:Bool}(h:Cc n d f m u=0):n≤1024∧d≤12∧f=false∧m=false∧u=false:=by
 unfold Cc at h
 by_cases h1:n > 1024
 ·rw [decide_eq_true h1] at h
  revert h; cases f <;> cases m <;> cases u <;> simp
 ·by_cases h2:d > 12
  ·rw [decide_eq_true h2,decide_eq_false h1] at h
   revert h; cases f <;> cases m <;> cases u <;> simp
  ·rw [decide_eq_false h1,decide_eq_false h2] at h
   revert h; cases f <;> cases m <;> cases u <;> simp <;> omega
def tOf (p:O0)(z:Int)(e:B0):A0×Int:=bif z != 0 then (zT,z) else bif Xy e != 0 then (zT,Xy e) else tyS (inS p p.Decls.length true) e
theorem T1u {p:O0}(hb:p.bulk≤4200000){z:Int×Int}(hz:A4 p=some z)(hp:z.2=0→CkP p){e:B0}(ho:OkE e):Ve p e=some (tOf p z.2 e):=by
 unfold Ve tOf
 rw [hz,ob]
 cases hc:z.2 != 0 with
 | true=>rfl
 | false=>
  have hp':=hp (by simpa using hc)
  rw [if_neg (by simp),T1g e ho,ob]
  cases h2:Xy e != 0 with
  | true=>rfl
  | false=>
   have hf:e.all B2=true:=by
    have:=(K1m (show Xy e=0 by simpa using h2)).2.2.1
    simpa using this
   rw [if_neg (by simp),ob,Z15 (c:=J0.mk p 0 false []) hp' (Nat.le_refl _),ob,Y15 (T1h hp' _ _) ho hf,ob]
   rfl
def rgT (t:A0×Int):Int×Int×Int:=bif t.2 != 0 then (0,0,t.2) else bif t.1.Kind != 1 then (0,0,9) else (t.1.Low,t.1.High,0)
theorem N1r {p:O0}(hb:p.bulk≤4200000){z:Int×Int}(hz:A4 p=some z)(hp:z.2=0→CkP p){e:B0}(ho:OkE e):Ed p e=some (rgT (tOf p z.2 e)):=by
 unfold Ed rgT
 rw [T1u hb hz hp ho,ob]
 cases (tOf p z.2 e).2 != 0 with
 | true=>rfl
 | false=>cases (tOf p z.2 e).1.Kind != 1 <;> rfl
end Go.Proofs.YtdkabnfphmmmnaaGreatDoor

set_option linter.unusedSimpArgs false
set_option linter.unusedVariables false
namespace Go.Proofs.YtdkabnfphmmmnaaGreatDoor
open Go.Am
def Rg (kind:Int)(nm:Str):List D0→Nat→Option Nat
 | [],_=>none
 | d::r,k=>bif (bif (d.Kind == kind) then (d.Name == nm) else false) then some k else Rg kind nm r (k+1)
def L1m:Option Nat→Int
 | none=>-1
 | some j=>(j:Int)
theorem H1p (kind:Int)(name:Str)(l:List D0)(hl:l.length≤BB):∀ (r:List D0) (k:Nat),l.drop k=r→B3 kind name l k=some (L1m (Rg kind name r k))
 | [],k,h=>by
  rw [B3,(Y0 h).1]
  rfl
 | d::r,k,h=>by
  obtain ⟨h1,h2,h3,h4,_⟩:=C1 h
  rw [B3,h1,h2]
  simp only [if_true,ob,Rg]
  cases (bif (d.Kind == kind) then (d.Name == name) else false) with
  | true=>rfl
  | false=>
   simp only [Bool.false_eq_true,if_false]
   rw [w1 (by omega)]
   exact H1p kind name l hl r (k+1) h3
theorem G1b {kind:Int}{nm:Str}{l:List D0}:∀ {r:List D0} {k j:Nat},l.drop k=r→Rg kind nm r k=some j→∃ d,l[j]?=some d∧(d.Kind == kind)=true∧(d.Name == nm)=true
 | [],k,j,_,h=>by cases h
 | d::r,k,j,hd,h=>by
  obtain ⟨_,h2,h3,h4,_⟩:=C1 hd
  simp only [Rg] at h
  cases hc:(bif (d.Kind == kind) then (d.Name == nm) else false) with
  | true=>
   rw [hc] at h
   cases h
   refine ⟨d,by simpa using Jk h2,?_⟩
   cases h5:d.Kind == kind with
   | true=>rw [h5] at hc; exact ⟨rfl,hc⟩
   | false=>rw [h5] at hc; cases hc
  | false=>rw [hc] at h; exact G1b h3 h
theorem U1h {kind:Int}{nm:Str}{ds:List D0}{n j:Nat}(h:Rg kind nm (ds.take n) 0=some j):j < n∧j < ds.length∧idx ds (j:Int)=some (ds.getD j default)∧ds.getD j default∈ds∧((ds.getD j default).Kind == kind)=true∧((ds.getD j default).Name == nm)=true:=by
 obtain ⟨d,h1,h2,h3⟩:=G1b (l:=ds.take n) (k:=0) rfl h
 have h4:=(List.getElem?_eq_some_iff.1 h1).1
 rw [List.getElem?_take] at h1
 have hj:j < n∧j < ds.length:=by simp at h4; omega
 rw [if_pos hj.1] at h1
 have e:ds.getD j default=d:=by simp [List.getD,h1]
 obtain ⟨d',g1,_,g3⟩:=At (l:=ds) hj.2
 have:ds[j]?=some d':=by simpa using Jk g1
 rw [this] at h1
 cases h1
 rw [e]
 exact ⟨hj.1,hj.2,g1,g3,h2,h3⟩
theorem J1k {c:J0}{n:Nat}(h:B19 c n)(kind:Int)(name:Str):L6 c kind name c.atV=some (L1m (Rg kind name (c.p.Decls.take n) 0)):=by
 unfold L6
 have hl:=h.p.okp.decls.len
 rw [h.at_,E1m h.le,ob]
 exact H1p kind name _ (by simp; omega) _ 0 rfl
mutual
def B0.root:B0→Str
 | .mk o _ s ks=>bif o == 3 then s else B0.roots s ks
def B0.roots:Str→List B0→Str
 | s,[]=>s
 | _,x::_=>B0.root x
end
theorem K1t:∀ e:B0,N6 e=some e.root:=by
 intro e
 induction e using B0.ind with
 | h e ih=>
 rw [N6]
 obtain ⟨o,n,s,ks⟩:=e
 simp only [B0.root]
 cases ho:o == 3 with
 | true=>simp only [bne,ho]; rfl
 | false=>
  simp only [bne,ho]
  cases ks with
  | nil=>rfl
  | cons x r=>
   rw [decide_eq_true (show (((x::r).length:Nat):Int) > 0 by simp),show idx (x::r) 0=some x from rfl,ob]
   exact ih x List.mem_cons_self
def Dk (s:Option I0)(e:B0):A0×Int:=bif (tyS s e).2 != 0 then (zT,(tyS s e).2) else bif (Yf s e.root).1.fixed then (zT,15) else ((tyS s e).1,0)
theorem V1h {s:Option I0}(h:SO s){e:B0}(ho:OkE e)(hf:e.all B2=true):O9 s e=some (Dk s e):=by
 unfold O9 Dk
 rw [Y15 h ho hf,ob,show Sk e=N6 e from rfl,K1t,ob,U15,ob]
 exact ifO (fun _=>rfl) fun _=>ifB _ _ _
def Lo (s:Option I0)(e:B0):Int:=bif (bif (tyS s e).2 == 0 then (tyS s e).1.Kind != 0 else false) then 9 else (tyS s e).2
def U1c (s:Option I0)(e:B0):Int:=bif (bif (tyS s e).2 == 0 then !scT (tyS s e).1 else false) then 9 else (tyS s e).2
def asS (s:Option I0)(pl va:B0):Int:=bif (Dk s pl).2 != 0 then (Dk s pl).2 else Tu s va (Dk s pl).1
def A16 (ds:List D0)(s:Option I0)(z:Int):List B0→List D0→Int
 | a::q,v::vs=>bif Tu s a (U2 ds v.TypeV).1 != 0 then Tu s a (U2 ds v.TypeV).1 else A16 ds s z q vs
 | _,_=>z
def Q16 (ds:List D0)(s:Option I0)(t:A0)(ar:List B0)(d:D0):Int:=
 bif (ar.length:Int) != (d.Params.length:Int) then 2 else A16 ds s (bif !T1c (U2 ds d.TypeV).1 t true then 9 else 0) ar d.Params
def J11 (ds:List D0)(n:Nat)(s:Option I0)(pl:B0)(nm:Str)(ar:List B0):Int:=
 bif (Dk s pl).2 != 0 then (Dk s pl).2 else match Rg 6 nm (ds.take n) 0 with
  | none=>7
  | some j=>Q16 (ds.take j) s (Dk s pl).1 ar (ds.getD j default)
def D19 (ds:List D0)(n:Nat)(loc:Bool)(s:Option I0)(pl:B0)(nm:Str):Int:=
 bif (Dk s pl).2 != 0 then (Dk s pl).2 else bif loc then 15 else match Rg 5 nm (ds.take n) 0 with
  | none=>7
  | some j=>bif !T1c (U2 (ds.take j) (ds.getD j default).TypeV).1 (Dk s pl).1 false then 9 else 0
def Gi (ds:List D0)(nm:Str):Bool:=ds.any fun d=>d.Name == nm
def Bw (s:Option I0)(nm:Str)(lo hi:Int):Option I0:=some (.mk s [(nm,⟨nT lo hi,true⟩)])
mutual
def C0.st (ds:List D0)(n:Nat)(loc:Bool):C0→Option I0→Bool→Int
 | .mk v pl va nm ar _ lo hi _ th el,s,last=>
  bif v == 0 then asS s pl va else bif v == 1 then J11 ds n s pl nm ar else bif v == 2 then D19 ds n loc s pl nm else bif v == 3 then U1c s va
  else bif v == 5 then (bif Lo s va != 0 then Lo s va else bif C0.sts ds n loc th s false != 0 then C0.sts ds n loc th s false else C0.sts ds n loc el s false)
  else bif v == 6 then (bif Lo s va != 0 then Lo s va else C0.sts ds n loc th s false)
  else bif v == 7 then (bif (bif Gi ds nm then true else (Yf s nm).2) then 8 else C0.sts ds n loc th (Bw s nm lo hi) false)
  else bif v == 8 then (bif !last then 15 else 0) else 0
def C0.sts (ds:List D0)(n:Nat)(loc:Bool):List C0→Option I0→Bool→Int
 | [],_,_=>0
 | x::r,s,top=>bif C0.st ds n loc x s (bif top then r.isEmpty else false) != 0 then C0.st ds n loc x s (bif top then r.isEmpty else false) else C0.sts ds n loc r s top
end
theorem C0.st_eq (ds:List D0)(n:Nat)(loc:Bool)(x:C0)(s:Option I0)(last:Bool):x.st ds n loc s last =
  bif x.Verb == 0 then asS s x.Place x.Value else bif x.Verb == 1 then J11 ds n s x.Place x.Name x.Args else bif x.Verb == 2 then D19 ds n loc s x.Place x.Name else bif x.Verb == 3 then U1c s x.Value
  else bif x.Verb == 5 then (bif Lo s x.Value != 0 then Lo s x.Value else bif C0.sts ds n loc x.Then s false != 0 then C0.sts ds n loc x.Then s false else C0.sts ds n loc x.Else s false)
  else bif x.Verb == 6 then (bif Lo s x.Value != 0 then Lo s x.Value else C0.sts ds n loc x.Then s false)
  else bif x.Verb == 7 then (bif (bif Gi ds x.Name then true else (Yf s x.Name).2) then 8 else C0.sts ds n loc x.Then (Bw s x.Name x.Low x.High) false)
  else bif x.Verb == 8 then (bif !last then 15 else 0) else 0:=by cases x; simp only [C0.st]
theorem L1t {c:J0}{n:Nat}(hc:B19 c n){s:Option I0}(hs:SO s){x:C0}(ho:Lr x)(hp:x.Place.all B2=true)(ha:B0.alls B2 x.Args=true):F9 c s x=some (J11 c.p.Decls n s x.Place x.Name x.Args):=by
 unfold F9 J11
 rw [V1h hs ho.place hp,ob,J1k hc,ob]
 refine ifO (fun _=>rfl) fun _=>?_
 cases hf:Rg 6 x.Name (c.p.Decls.take n) 0 with
 | none=>rfl
 | some j=>
  obtain ⟨_,hj,g3,g4,_,_⟩:=U1h hf
  show _=some (Q16 (c.p.Decls.take j) s (Dk s x.Place).1 x.Args (c.p.Decls.getD j default))
  generalize c.p.Decls.getD j default=d at g3 g4 ⊢
  rw [show L1m (some j)=(j:Int) from rfl,decide_eq_false (by omega),g3]
  simp only [Bool.false_eq_true,if_false,ob]
  unfold Q16
  refine ifO (fun _=>rfl) fun hl=>?_
  have hl':x.Args.length=d.Params.length:=by
   have:(x.Args.length:Int)=(d.Params.length:Int):=by simpa [bne] using hl
   omega
  obtain ⟨sm1,sm2,_⟩:=hc.p.small d g4
  have main:∀ (q:List B0) (k:Nat),x.Args.drop k=q→C3 c s x (Dk s x.Place) d j k=some (A16 (c.p.Decls.take j) s (bif !T1c (U2 (c.p.Decls.take j) d.TypeV).1 (Dk s x.Place).1 true then 9 else 0) q (d.Params.drop k)):=by
   intro q
   induction q with
   | nil=>
    intro k h
    rw [C3,(Y0 h).1]
    simp only [Bool.false_eq_true,if_false,A16]
    rw [Ko hc.p (by omega) sm1,ob,S1h (Jo (hc.p.dok.take j) sm1).2,ob]
    exact ifB _ _ _
   | cons a q ih=>
    intro k h
    obtain ⟨e1,e2,e3,e4,e5⟩:=C1 h
    obtain ⟨v,v1,v2,v3⟩:=At (l:=d.Params) (k:=k) (by omega)
    rw [C3,e1,e2,v2]
    simp only [if_true,ob,v1,A16]
    rw [Ko hc.p (by omega) (sm2 v v3),ob,F1b hs (ho.arg a e5) (B0.alls_mem ha e5),ob]
    have:=ho.args
    rw [w1 (by omega)]
    exact ifO (fun _=>rfl) fun _=>ih (k+1) e3
  exact main x.Args 0 rfl
theorem M1m {c:J0}{n:Nat}(hc:B19 c n){s:Option I0}(hs:SO s){x:C0}(ho:Lr x)(hp:x.Place.all B2=true):W6 c s x=some (D19 c.p.Decls n c.localV s x.Place x.Name):=by
 unfold W6 D19
 rw [V1h hs ho.place hp,ob,J1k hc,ob]
 refine ifO (fun _=>rfl) fun _=>ifO (fun _=>rfl) fun _=>?_
 cases hf:Rg 5 x.Name (c.p.Decls.take n) 0 with
 | none=>rfl
 | some j=>
  obtain ⟨_,hj,g3,g4,_,_⟩:=U1h hf
  have sm:=(hc.p.small _ g4).1
  rw [show L1m (some j)=(j:Int) from rfl,decide_eq_false (by omega),g3]
  simp only [Bool.false_eq_true,if_false,ob]
  rw [Ko hc.p (by omega) sm,ob,S1h (Jo (hc.p.dok.take j) sm).2,ob]
  exact ifB _ _ _
def V1c (c:J0):Prop:=∀ nm,(mgt nm c.names).getD ebool.zero=Gi c.p.Decls nm
def SEq (c:J0)(n:Nat)(l:List C0):Prop:=WfS l→∀ s,SO s→∀ top,U1 c s l top=some (C0.sts c.p.Decls n c.localV l s top)
theorem M1t {c:J0}{n:Nat}(hc:B19 c n)(hN:V1c c){s:Option I0}(hs:SO s){x:C0}(ho:Lr x)(hf:sform x=true)(hn:snumb x=true)(wt:WfS x.Then∧WfS x.Else)(ih:SEq c n x.Then∧SEq c n x.Else)(last:Bool):Ic c s x last=some (x.st c.p.Decls n c.localV s last):=by
 obtain ⟨u1,u2,u3⟩:=F1p hf
 rw [Ic,C0.st_eq]
 refine ifO (fun h=>?_) fun _=>ifO (fun h=>?_) fun _=>ifO (fun h=>?_) fun _=>ifO (fun h=>?_) fun _=>ifO (fun h=>?_) fun _=>ifO (fun h=>?_) fun _=>ifO (fun h=>?_) fun _=>ifO (fun _=>ifB _ _ _) fun _=>rfl
 ·have e:x.Verb=0:=by simpa using h
  unfold asS
  rw [V1h hs ho.place (u1 (by rw [e]; rfl)),ob,F1b hs ho.value (u2 (by rw [e]; rfl)),ob]
  exact ifB _ _ _
 ·have e:x.Verb=1:=by simpa using h
  rw [L1t hc hs ho (u1 (by rw [e]; rfl)) u3,ob]
 ·have e:x.Verb=2:=by simpa using h
  rw [M1m hc hs ho (u1 (by rw [e]; rfl)),ob]
 ·have e:x.Verb=3:=by simpa using h
  unfold U1c
  rw [Y15 hs ho.value (u2 (by rw [e]; rfl)),ob]
  cases (tyS s x.Value).2 == 0 with
  | false=>rfl
  | true=>exact ifB _ _ _
 ·have e:x.Verb=5:=by simpa using h
  rw [I1k hs ho.value (u2 (by rw [e]; rfl)),ob,ih.1 wt.1 s hs,ob,ih.2 wt.2 s hs,ob]
  exact ifO (fun _=>rfl) fun _=>ifO (fun _=>rfl) fun _=>rfl
 ·have e:x.Verb=6:=by simpa using h
  rw [I1k hs ho.value (u2 (by rw [e]; rfl)),ob,ih.1 wt.1 s hs,ob]
  exact ifO (fun _=>rfl) fun _=>rfl
 ·have e:x.Verb=7:=by simpa using h
  rw [Eg,ob,hN]
  have h1:(if (!Gi c.p.Decls x.Name)=true then Tb s x.Name else some default)=some (bif Gi c.p.Decls x.Name then default else (Yf s x.Name).2):=by
   unfold Tb
   rw [U15,ob]
   cases Gi c.p.Decls x.Name <;> rfl
  rw [h1,ob,show X3 s=some ([],s) from rfl,ob,Az,ob,ob]
  show (((if (bif Gi c.p.Decls x.Name then true else (bif Gi c.p.Decls x.Name then default else (Yf s x.Name).2))=true then some 8 else (U1 c (Bw s x.Name x.Low x.High) x.Then false>>=fun x6=>some x6))>>=fun x9=>some x9)=_)
  rw [ih.1 wt.1 (Bw s x.Name x.Low x.High) (hs.ext (m:=[(x.Name,⟨nT x.Low x.High,true⟩)]) fun q hq=>by rw [List.mem_singleton.1 hq]; exact ⟨L1r hn e,okn _ _⟩) false,ob]
  cases Gi c.p.Decls x.Name with
  | true=>rfl
  | false=>cases (Yf s x.Name).2 <;> rfl
theorem R1v {α:Type}{l r:List α}{x:α}{k:Nat}(h:l.drop k=x::r)(hl:l.length≤BB):((k:Int) == IntKind.i64.wrap ((l.length:Int) - 1))=r.isEmpty:=by
 obtain ⟨_,_,h3,h4,_⟩:=C1 h
 rw [wr (by unfold BB at hl; omega) (by unfold BB at hl; omega)]
 have h5:l.length=k+1+r.length:=by
  have:=congrArg List.length h3
  simp at this; omega
 cases r with
 | nil=>simp at h5; rw [h5]; simp
 | cons y q=>simp at h5; rw [h5]; simp; omega
theorem W1h {c:J0}{n:Nat}(hc:B19 c n)(hN:V1c c){l:List C0}(hw:WfS l)(ih:∀ x∈l,SEq c n x.Then∧SEq c n x.Else){s:Option I0}(hs:SO s)(top:Bool) :
  ∀ (r:List C0) (k:Nat),l.drop k=r→M4 c s l top k=some (C0.sts c.p.Decls n c.localV r s top)
 | [],k,h=>by
  rw [M4,(Y0 h).1]
  rfl
 | x::r,k,h=>by
  obtain ⟨h1,h2,h3,h4,h5⟩:=C1 h
  have hl:=hw.ok.len
  rw [M4,h1,h2]
  simp only [if_true,ob,C0.sts]
  rw [R1v h hl,M1t hc hN hs (hw.ok.mem h5) (Tm hw.form h5).1 (Tm hw.numb h5).1 (hw.kids h5) (ih x h5),ob,w1 (by omega)]
  exact ifO (fun _=>rfl) fun _=>W1h hc hN hw ih hs top r (k+1) h3
theorem X1h {c:J0}{n:Nat}(hc:B19 c n)(hN:V1c c)(l:List C0):SEq c n l:=by
 refine C0.inds (Q:=SEq c n) (fun l ih hw s hs top=>?_) l
 rw [U1]
 exact W1h hc hN hw ih hs top l 0 rfl
def fnM (ds:List D0):List D0→List (Str×N0)→List (Str×N0)×Int
 | [],m=>(m,0)
 | v::r,m=>bif (U2 ds v.TypeV).2 != 0 then ([],(U2 ds v.TypeV).2) else fnM ds r (mpt v.Name ⟨(U2 ds v.TypeV).1,false⟩ m)
theorem H1b (ds:List D0)(b:List D0):∀ (a:List D0) (m:List (Str×N0)),fnM ds (a++b) m=bif (fnM ds a m).2 != 0 then ([],(fnM ds a m).2) else fnM ds b (fnM ds a m).1
 | [],m=>rfl
 | v::r,m=>by
  simp only [List.cons_append,fnM]
  cases hc:(U2 ds v.TypeV).2 != 0 with
  | true=>simp only [cond_true,hc]
  | false=>exact H1b ds b r _
theorem Y1h {ds:List D0}(hd:DOk ds):∀ {l:List D0} {m:List (Str×N0)},(∀ v∈l,v.TypeV.bulk≤4200000)→MF m→MF (fnM ds l m).1
 | [],m,_,hm=>hm
 | v::r,m,hl,hm=>by
  simp only [fnM]
  cases (U2 ds v.TypeV).2 != 0 with
  | true=>exact fun q hq=>by cases hq
  | false=>exact Y1h hd (fun w hw=>hl w (List.mem_cons_of_mem _ hw)) (hm.put _ (Jo hd (hl v List.mem_cons_self)))
def fnS (ds:List D0)(i:Nat)(d:D0)(res:A0):Int:=
 bif (fnM (ds.take i) (d.Params++d.Vars) []).2 != 0 then (fnM (ds.take i) (d.Params++d.Vars) []).2 else
 bif C0.sts ds i true d.Body (some (.mk none (fnM (ds.take i) (d.Params++d.Vars) []).1)) false != 0 then C0.sts ds i true d.Body (some (.mk none (fnM (ds.take i) (d.Params++d.Vars) []).1)) false else
 Tu (some (.mk none (fnM (ds.take i) (d.Params++d.Vars) []).1)) d.Value res
theorem A1j {c:J0}(hc:CkP c.p)(hN:V1c c){i:Nat}(hi:i < c.p.Decls.length)(res:A0){d:D0}(g1:idx c.p.Decls i=some d)(g3:d∈c.p.Decls)(hk6:d.Kind=6):B6 c i res=some (fnS c.p.Decls i d res):=by
 obtain ⟨sm1,sm2,sm3⟩:=hc.small d g3
 have od:=hc.okp.decls.mem g3
 obtain ⟨df,dn⟩:=hc.dec g3
 unfold B6
 rw [g1,ob,show X3 none=some ([],none) from rfl,ob]
 have bf:C0.alls sform d.Body=true∧d.Value.all B2=true:=by
  unfold dform at df
  simp only [Bool.and_eq_true] at df
  refine ⟨df.2,?_⟩
  have:=df.1.1.1.1.1.2
  rw [show uV2 d.Kind=true by rw [hk6]; rfl] at this
  exact this
 have bn:C0.alls snumb d.Body=true:=by
  unfold dnumb at dn
  simp only [Bool.and_eq_true] at dn
  exact dn.2
 have end_:∀ m,MF m→P1 c i res d m ([],none) (2:Nat)=some (bif C0.sts c.p.Decls i true d.Body (some (.mk none m)) false != 0 then C0.sts c.p.Decls i true d.Body (some (.mk none m)) false else Tu (some (.mk none m)) d.Value res):=fun m hm=>by
  rw [P1,show decide (((2:Nat):Int) < (([d.Params,d.Vars]).length:Int))=false from rfl]
  simp only [Bool.false_eq_true,if_false,ob]
  have hs:SO (some (.mk none m)):=SO.none.ext hm
  have hcc:B19 (J0.mk c.p i true c.names) i:=⟨hc,rfl,by simp only; omega⟩
  rw [X1h hcc hN d.Body ⟨od.body,bf.1,bn⟩ _ hs false,ob,F1b hs od.value bf.2,ob]
  exact ifO (fun _=>rfl) fun _=>rfl
 have inner:∀ (l:List D0),(∀ v∈l,v.TypeV.bulk≤4200000)→l.length≤BB→∀ (v:Nat),v≤5→
   ∀ (r:List D0) (k:Nat) (m:List (Str×N0)),l.drop k=r→U3 c i res d m ([],none) v l k=if ((fnM (c.p.Decls.take i) r m).2 != 0)=true then some (fnM (c.p.Decls.take i) r m).2 else P1 c i res d (fnM (c.p.Decls.take i) r m).1 ([],none) ((v+1:Nat):Int):=by
  intro l hl hb v hv r
  induction r with
  | nil=>
   intro k m h
   rw [U3,(Y0 h).1]
   simp only [Bool.false_eq_true,if_false]
   rw [w1 (by unfold BB; omega)]
   rfl
  | cons y r ih=>
   intro k m h
   obtain ⟨e1,e2,e3,e4,e5⟩:=C1 h
   rw [U3,e1,e2]
   simp only [if_true,ob,fnM]
   rw [Z18 hc (by omega) (hl y e5),ob,w1 (by omega)]
   by_cases hz:((U2 (c.p.Decls.take i) y.TypeV).2 != 0)=true
   ·simp only [if_true,cond_true,hz]
   ·simp only [Bool.not_eq_true] at hz
    simp only [hz,Bool.false_eq_true,if_false,cond_false]
    exact ih (k+1) _ e3
 rw [show (0:Int)=((0:Nat):Int) from rfl,P1,show decide (((0:Nat):Int) < (([d.Params,d.Vars]).length:Int))=true from rfl,show idx [d.Params,d.Vars] ((0:Nat):Int)=some d.Params from rfl]
 simp only [if_true,ob]
 have p1:=inner d.Params sm2 od.params.len 0 (by omega) d.Params 0 [] rfl
 rw [show ((0:Nat):Int)=0 from rfl] at p1 ⊢
 rw [p1]
 unfold fnS
 rw [H1b]
 cases hz:(fnM (c.p.Decls.take i) d.Params []).2 != 0 with
 | true=>simp only [if_true,cond_true,hz]
 | false=>
  simp only [Bool.false_eq_true,if_false,cond_false]
  rw [P1,show decide (((0+1:Nat):Int) < (([d.Params,d.Vars]).length:Int))=true from rfl,show idx [d.Params,d.Vars] ((0+1:Nat):Int)=some d.Vars from rfl]
  simp only [if_true,ob]
  have p2:=inner d.Vars sm3 od.vars.len 1 (by omega) d.Vars 0 (fnM (c.p.Decls.take i) d.Params []).1 rfl
  rw [show ((0:Nat):Int)=0 from rfl] at p2
  rw [show ((0+1:Nat):Int)=((1:Nat):Int) from rfl,p2,show ((1+1:Nat):Int)=((2:Nat):Int) from rfl,
   end_ _ (Y1h (hc.dok.take i) sm3 (Y1h (hc.dok.take i) sm2 fun q hq=>by cases hq))]
  exact ifO (fun _=>rfl) fun _=>rfl
def Eq (p:O0)(i:Nat)(d:D0):Int:=
 bif (U2 (p.Decls.take i) d.TypeV).2 != 0 then (U2 (p.Decls.take i) d.TypeV).2
 else bif d.Kind == 5 then (bif !scT (U2 (p.Decls.take i) d.TypeV).1 then 9 else Tu (inS p i false) d.Value (U2 (p.Decls.take i) d.TypeV).1)
 else bif d.Kind == 6 then fnS p.Decls i d (U2 (p.Decls.take i) d.TypeV).1 else 0
theorem N1t {c:J0}(hc:CkP c.p)(hN:V1c c){i:Nat}{d:D0}(hi:i < c.p.Decls.length)(g1:idx c.p.Decls i=some d)(g3:d∈c.p.Decls):G9 c i=some (Eq c.p i d):=by
 have sm1:=(hc.small d g3).1
 obtain ⟨df,dn⟩:=hc.dec g3
 unfold G9 Eq
 rw [g1,ob,Z18 hc (by omega) sm1,ob]
 refine ifO (fun _=>rfl) fun _=>ifO (fun h5=>?_) fun _=>ifO (fun h6=>?_) fun _=>rfl
 ·have e:d.Kind=5:=by simpa using h5
  rw [show V5 (U2 (List.take i c.p.Decls) d.TypeV).1=some (scT (U2 (List.take i c.p.Decls) d.TypeV).1) from rfl,ob]
  refine ifO (fun _=>rfl) fun _=>?_
  have vf:d.Value.all B2=true:=by
   unfold dform at df
   simp only [Bool.and_eq_true] at df
   have:=df.1.1.1.1.1.2
   rw [show uV2 d.Kind=true by rw [e]; rfl] at this
   exact this
  rw [Z15 hc (by omega),ob,F1b (T1h hc i false) (hc.okp.decls.mem g3).value vf,ob]
 ·have e:d.Kind=6:=by simpa using h6
  rw [A1j hc hN hi _ g1 g3 e,ob]
end Go.Proofs.YtdkabnfphmmmnaaGreatDoor

set_option linter.unusedSimpArgs false
set_option linter.unusedVariables false
namespace Go.Proofs.YtdkabnfphmmmnaaGreatDoor
open Go.Am
theorem W1c {α:Type}(k k':Str)(x:α):∀ m:List (Str×α),mgt k (mpt k' x m)=bif k == k' then some x else mgt k m
 | []=>rfl
 | (a,y)::r=>by
  simp only [mpt]
  cases h1:k' == a with
  | true=>
   have e:k'=a:=eq_of_beq h1
   subst e
   simp only [cond_true,mgt]
   cases k == k' <;> rfl
  | false=>
   simp only [cond_false,mgt]
   rw [W1c k k' x r]
   cases h2:k == a with
   | false=>rfl
   | true=>
    have e:k=a:=eq_of_beq h2
    subst e
    have:(k == k')=false:=by
     rw [beq_eq_false_iff_ne] at h1 ⊢
     exact fun h=>h1 h.symm
    rw [this]; rfl
def Sn (m:List (Str×Bool))(seen:List Str):Prop:=∀ nm,(mgt nm m).getD ebool.zero=seen.any fun y=>y == nm
theorem Sn.nil:Sn [] []:=fun nm=>rfl
theorem U1u (a b:Str):(a == b)=(b == a):=by
 cases h:b == a with
 | true=>rw [eq_of_beq h]; exact beq_self_eq_true a
 | false=>rw [beq_eq_false_iff_ne] at h ⊢; exact fun e=>h e.symm
theorem Sn.put {m:List (Str×Bool)}{seen:List Str}(h:Sn m seen)(x:Str):Sn (mpt x true m) (x::seen):=fun nm=>by
 rw [W1c,List.any_cons,U1u nm x]
 cases x == nm with
 | true=>rfl
 | false=>exact h nm
def Uu (ds:List D0):List D0→List Str→Bool
 | [],_=>false
 | v::r,seen=>bif (bif Gi ds v.Name then true else seen.any fun y=>y == v.Name) then true else Uu ds r (v.Name::seen)
def Dl (ds:List D0):List D0→List Str→Nat→Int
 | [],_,_=>-1
 | d::r,seen,k=>bif seen.any (fun y=>y == d.Name) then (k:Int) else bif Uu ds (d.Params++d.Vars) [] then (k:Int) else Dl ds r (d.Name::seen) (k+1)
theorem V1u {c:J0}(hc:OkP c.p)(hN:V1c c):N5 c=some (Dl c.p.Decls c.p.Decls [] 0):=by
 have hl:=hc.decls.len
 have outer:∀ (r:List D0) (k:Nat) (m:List (Str×Bool)) (seen:List Str),c.p.Decls.drop k=r→Sn m seen→I2 c m k=some (Dl c.p.Decls r seen k):=by
  intro r
  induction r with
  | nil=>
   intro k m seen h hs
   rw [I2,(Y0 h).1]
   rfl
  | cons d r ih=>
   intro k m seen h hs
   obtain ⟨e1,e2,e3,e4,e5⟩:=C1 h
   have od:=hc.decls.mem e5
   rw [I2,e1,e2]
   simp only [if_true,ob,Dl]
   rw [hs d.Name]
   refine ifO (fun _=>rfl) fun _=>?_
   have end_:∀ m2,N1 c (mpt d.Name true m) m2 k k d (2:Nat)=some (Dl c.p.Decls r (d.Name::seen) (k+1)):=fun m2=>by
    rw [N1,show decide (((2:Nat):Int) < (([d.Params,d.Vars]).length:Int))=false from rfl]
    simp only [Bool.false_eq_true,if_false]
    rw [w1 (by omega)]
    exact ih (k+1) _ _ e3 (hs.put d.Name)
   have inner:∀ (l:List D0),l.length≤BB→∀ (v:Nat),v≤5→∀ (t:List D0),(∀ m2 sn,Sn m2 sn→N1 c (mpt d.Name true m) m2 k k d ((v+1:Nat):Int)=some (bif Uu c.p.Decls t sn then (k:Int) else Dl c.p.Decls r (d.Name::seen) (k+1)))→
     ∀ (q:List D0) (j:Nat) (m2:List (Str×Bool)) (sn:List Str),l.drop j=q→Sn m2 sn→P3 c (mpt d.Name true m) m2 k k d v l j=some (bif Uu c.p.Decls (q++t) sn then (k:Int) else Dl c.p.Decls r (d.Name::seen) (k+1)):=by
    intro l hb v hv t hK q
    induction q with
    | nil=>
     intro j m2 sn h hs2
     rw [P3,(Y0 h).1]
     simp only [Bool.false_eq_true,if_false]
     rw [w1 (by unfold BB; omega)]
     exact hK m2 sn hs2
    | cons y q ih2=>
     intro j m2 sn h hs2
     obtain ⟨f1,f2,f3,f4,f5⟩:=C1 h
     rw [P3,f1,f2]
     simp only [if_true,ob,List.cons_append,Uu]
     rw [hN y.Name,hs2 y.Name,w1 (by omega)]
     cases (bif Gi c.p.Decls y.Name then true else sn.any fun z=>z == y.Name) with
     | true=>rfl
     | false=>exact ih2 (j+1) _ _ f3 (hs2.put y.Name)
   have two:∀ m2 sn,Sn m2 sn→N1 c (mpt d.Name true m) m2 k k d ((1+1:Nat):Int)=some (bif Uu c.p.Decls [] sn then (k:Int) else Dl c.p.Decls r (d.Name::seen) (k+1)):=fun m2 sn _=>end_ m2
   have one:∀ m2 sn,Sn m2 sn→N1 c (mpt d.Name true m) m2 k k d ((0+1:Nat):Int)=some (bif Uu c.p.Decls d.Vars sn then (k:Int) else Dl c.p.Decls r (d.Name::seen) (k+1)):=fun m2 sn hs2=>by
    rw [N1,show decide (((0+1:Nat):Int) < (([d.Params,d.Vars]).length:Int))=true from rfl,show idx [d.Params,d.Vars] ((0+1:Nat):Int)=some d.Vars from rfl]
    simp only [if_true,ob]
    have:=inner d.Vars od.vars.len 1 (by omega) [] two d.Vars 0 m2 sn rfl hs2
    rw [List.append_nil] at this
    exact this
   rw [show (0:Int)=((0:Nat):Int) from rfl,N1,show decide (((0:Nat):Int) < (([d.Params,d.Vars]).length:Int))=true from rfl,show idx [d.Params,d.Vars] ((0:Nat):Int)=some d.Params from rfl]
   simp only [if_true,ob]
   exact (inner d.Params od.params.len 0 (by omega) d.Vars one d.Params 0 _ _ rfl .nil).trans (ifB _ _ _ ▸ by cases Uu c.p.Decls (d.Params++d.Vars) [] <;> rfl)
 exact outer c.p.Decls 0 [] [] rfl .nil
def plI (a b:Int):Int:=min (wi (a+b)) 1073741824
def tmI (a b:Int):Int:=min (wi (a * b)) 1073741824
def adA (a b:K0):K0:=⟨plI a.steps b.steps,plI a.outputs b.outputs⟩
def rdA (n:Int)(b:K0):K0:=⟨tmI n (plI 1 b.steps),tmI n b.outputs⟩
def mxA (a b:K0):K0:=⟨max a.steps b.steps,max a.outputs b.outputs⟩
mutual
def C0.am (m:List (Str×K0)):C0→K0
 | .mk v _ _ nm _ n lo hi _ th el=>bif v == 3 then ⟨0,1⟩ else bif v == 1 then (mgt nm m).getD K0.zero else bif v == 5 then mxA (C0.ams m th ⟨0,0⟩) (C0.ams m el ⟨0,0⟩)
  else bif v == 6 then rdA n (C0.ams m th ⟨0,0⟩) else bif v == 7 then rdA (wi (wi (hi - lo)+1)) (C0.ams m th ⟨0,0⟩) else ⟨0,0⟩
def C0.ams (m:List (Str×K0)):List C0→K0→K0
 | [],a=>a
 | x::r,a=>C0.ams m r (adA (adA a ⟨1,0⟩) (C0.am m x))
end
theorem C0.am_eq (m:List (Str×K0))(x:C0):x.am m=bif x.Verb == 3 then ⟨0,1⟩ else bif x.Verb == 1 then (mgt x.Name m).getD K0.zero else bif x.Verb == 5 then mxA (C0.ams m x.Then ⟨0,0⟩) (C0.ams m x.Else ⟨0,0⟩)
  else bif x.Verb == 6 then rdA x.NV (C0.ams m x.Then ⟨0,0⟩) else bif x.Verb == 7 then rdA (wi (wi (x.High - x.Low)+1)) (C0.ams m x.Then ⟨0,0⟩) else ⟨0,0⟩:=by cases x; simp only [C0.am]
theorem K1k (m:List (Str×K0))(l:List C0):OkS l→V1 l m=some (C0.ams m l ⟨0,0⟩):=by
 refine C0.inds (Q:=fun l=>OkS l→V1 l m=some (C0.ams m l ⟨0,0⟩)) (fun l ih ho=>?_) l
 have one:∀ x∈l,Jc x m=some (x.am m):=fun x hx=>by
  have o1:=ho.mem hx
  rw [Jc,C0.am_eq]
  refine ifO (fun _=>rfl) fun _=>ifO (fun _=>rfl) fun _=>ifO (fun _=>?_) fun _=>ifO (fun _=>?_) fun _=>ifO (fun _=>?_) fun _=>rfl
  ·rw [(ih x hx).1 o1.thens,ob,(ih x hx).2 o1.elses]; rfl
  ·rw [(ih x hx).1 o1.thens]; rfl
  ·rw [(ih x hx).1 o1.thens]; rfl
 have main:∀ (r:List C0) (k:Nat) (a:K0),l.drop k=r→N4 l m a k=some (C0.ams m r a):=by
  intro r
  induction r with
  | nil=>
   intro k a h
   rw [N4,(Y0 h).1]
   rfl
  | cons x r ih2=>
   intro k a h
   obtain ⟨e1,e2,e3,e4,e5⟩:=C1 h
   have:=ho.len
   rw [N4,e1,e2]
   simp only [if_true,ob]
   rw [show T7 a (K0.mk 1 0)=some (adA a ⟨1,0⟩) from rfl,ob,one x e5,ob,show T7 (adA a ⟨1,0⟩) (x.am m)=some (adA (adA a ⟨1,0⟩) (x.am m)) from rfl,ob,w1 (by omega)]
   exact ih2 (k+1) _ e3
 rw [V1]
 exact main l 0 _ rfl
def amM:List D0→List (Str×K0)→List (Str×K0)
 | [],m=>m
 | d::r,m=>amM r (bif d.Kind == 6 then mpt d.Name (C0.ams m d.Body ⟨0,0⟩) m else m)
def amP (p:O0):K0:=C0.ams (amM p.Decls []) p.Body ⟨0,0⟩
theorem I1b (p:O0)(hp:OkP p):Nd p=some (amP p):=by
 have hl:=hp.decls.len
 have main:∀ (r:List D0) (k:Nat) (m:List (Str×K0)),p.Decls.drop k=r→V3 p m k=some (C0.ams (amM r m) p.Body ⟨0,0⟩):=by
  intro r
  induction r with
  | nil=>
   intro k m h
   rw [V3,(Y0 h).1]
   simp only [Bool.false_eq_true,if_false]
   rw [K1k m p.Body hp.body]
   rfl
  | cons d r ih=>
   intro k m h
   obtain ⟨e1,e2,e3,e4,e5⟩:=C1 h
   rw [V3,e1,e2]
   simp only [if_true,ob,amM]
   rw [w1 (by omega),K1k m d.Body (hp.decls.mem e5).body,ob]
   cases d.Kind == 6 with
   | true=>exact ih (k+1) _ e3
   | false=>exact ih (k+1) m e3
 exact main p.Decls 0 [] rfl
def prS:List S0→Int→Int
 | [],n=>n
 | y::r,n=>prS r (tmI n (wi (wi (y.High - y.Low)+1)))
def Vu (ds:List D0):List D0→Nat→List (Int×Int)→Int→Int→List (Int×Int)×Int×Int
 | [],_,m,a,b=>(m,a,b)
 | d::r,k,m,a,b=>
  bif (bif !(O7 d.Kind m).isSome then d.Kind != 4 else false) then Vu ds r (k+1) m a (bif d.Kind == 5 then wi (b+1) else b)
  else Vu ds r (k+1) (bif (O7 d.Kind m).isSome then Dn d.Kind (prS (Fg (U2 (ds.take k) d.TypeV).1).1 ((O7 d.Kind m).getD ei64.zero)) m else m)
   (wi (a+((Fg (U2 (ds.take k) d.TypeV).1).1.length:Int))) (bif d.Kind == 5 then wi (b+1) else b)
def N1m (z:List (Int×Int)×Int×Int)(a:K0):Bool:=
 decide (z.2.1 > 64)||(decide (z.2.2 > 8)||(decide ((O7 1 z.1).getD ei64.zero > 4096)||(decide ((O7 2 z.1).getD ei64.zero > 4096)||(decide ((O7 3 z.1).getD ei64.zero > 256)||(decide (a.steps > 4096)||decide (a.outputs > 8))))))
def F1w:List (Int×Int):=Dn 3 1 (Dn 2 1 (Dn 1 1 []))
def E19 (p:O0):Int:=bif N1m (Vu p.Decls p.Decls 0 F1w 0 0) (amP p) then 4 else 0
theorem I1p {c:J0}(hc:CkP c.p):Ua c=some (E19 c.p):=by
 have hl:=hc.okp.decls.len
 have main:∀ (r:List D0) (k:Nat) (m:List (Int×Int)) (a b:Int),c.p.Decls.drop k=r→W1 c m a b k=some (bif N1m (Vu c.p.Decls r k m a b) (amP c.p) then 4 else 0):=by
  intro r
  induction r with
  | nil=>
   intro k m a b h
   rw [W1,(Y0 h).1]
   simp only [Bool.false_eq_true,if_false]
   rw [I1b c.p hc.okp]
   simp only [ob]
   show _=some (bif decide (a > 64)||(decide (b > 8)||(decide ((O7 1 m).getD ei64.zero > 4096)||(decide ((O7 2 m).getD ei64.zero > 4096)||(decide ((O7 3 m).getD ei64.zero > 256)||(decide ((amP c.p).steps > 4096)||decide ((amP c.p).outputs > 8)))))) then 4 else 0)
   cases decide (a > 64)
   case true=>rfl
   cases decide (b > 8)
   case true=>rfl
   cases decide ((O7 1 m).getD ei64.zero > 4096)
   case true=>rfl
   cases decide ((O7 2 m).getD ei64.zero > 4096)
   case true=>rfl
   cases decide ((O7 3 m).getD ei64.zero > 256)
   case true=>rfl
   cases decide ((amP c.p).steps > 4096)
   case true=>rfl
   cases decide ((amP c.p).outputs > 8) <;> rfl
  | cons d r ih=>
   intro k m a b h
   obtain ⟨e1,e2,e3,e4,e5⟩:=C1 h
   have sm:=(hc.small d e5).1
   rw [W1,e1,e2]
   simp only [if_true,ob,Vu]
   have j2:∀ b',O5 c m d a b' k (O7 d.Kind m) k=some (bif N1m (bif (bif !(O7 d.Kind m).isSome then d.Kind != 4 else false) then Vu c.p.Decls r (k+1) m a b'
     else Vu c.p.Decls r (k+1) (bif (O7 d.Kind m).isSome then Dn d.Kind (prS (Fg (U2 (c.p.Decls.take k) d.TypeV).1).1 ((O7 d.Kind m).getD ei64.zero)) m else m) (wi (a+((Fg (U2 (c.p.Decls.take k) d.TypeV).1).1.length:Int))) b') (amP c.p) then 4 else 0):=fun b'=>by
    rw [O5,w1 (by omega)]
    cases (bif !(O7 d.Kind m).isSome then d.Kind != 4 else false) with
    | true=>exact ih (k+1) m a b' e3
    | false=>
     simp only [Bool.false_eq_true,if_false,cond_false]
     have ho:=(Jo (hc.dok.take k) sm).2
     rw [Ko hc (by omega) sm,ob,G1m _ ho,ob]
     have hb:=M1r ho
     have inner:∀ (q:List S0) (j:Nat) (n a':Int),(Fg (U2 (c.p.Decls.take k) d.TypeV).1).1.drop j=q→M3 c m d a' b' n (O7 d.Kind m) k (Fg (U2 (c.p.Decls.take k) d.TypeV).1) j =
       some (bif N1m (Vu c.p.Decls r (k+1) (bif (O7 d.Kind m).isSome then Dn d.Kind (prS q n) m else m) a' b') (amP c.p) then 4 else 0):=by
      intro q
      induction q with
      | nil=>
       intro j n a' h
       rw [M3,(Y0 h).1]
       simp only [Bool.false_eq_true,if_false]
       rw [w1 (by omega)]
       cases (O7 d.Kind m).isSome with
       | true=>exact ih (k+1) _ a' b' e3
       | false=>exact ih (k+1) m a' b' e3
      | cons y q ih2=>
       intro j n a' h
       obtain ⟨f1,f2,f3,f4,f5⟩:=C1 h
       rw [M3,f1,f2]
       simp only [if_true,ob,prS]
       rw [w1 (by omega),show Dd n (IntKind.i64.wrap (IntKind.i64.wrap (y.High - y.Low)+1))=some (tmI n (wi (wi (y.High - y.Low)+1))) from rfl,ob]
       have t:=ih2 (j+1) (tmI n (wi (wi (y.High - y.Low)+1))) a' f3
       have f:=ih2 (j+1) n a' f3
       cases hs:(O7 d.Kind m).isSome with
       | true=>rw [hs] at t; exact t
       | false=>rw [hs] at f; exact f
     exact inner _ 0 _ _ rfl
   cases d.Kind == 5 with
   | true=>exact j2 _
   | false=>exact j2 b
 exact main c.p.Decls 0 _ 0 0 rfl
def Wu (p:O0):List D0→Nat→Option (Int×Int)
 | [],_=>none
 | d::r,k=>bif Eq p k d != 0 then some ((k:Int),Eq p k d) else Wu p r (k+1)
def Ix (p:O0):Int:=C0.sts p.Decls p.Decls.length false p.Body (inS p p.Decls.length true) true
def tck (p:O0):Int×Int:=
 bif Y6 p != 0 then (-1,Y6 p) else bif decide (Dl p.Decls p.Decls [] 0≥0) then (Dl p.Decls p.Decls [] 0,8) else
 match Wu p p.Decls 0 with
 | some z=>z
 | none=>bif Ix p != 0 then (-1,Ix p) else (-1,E19 p)
theorem Bz {p:O0}(hb:p.bulk≤4200000):A4 p=some (tck p):=by
 unfold A4 tck
 rw [Y1q p (Zy hb),ob]
 refine ifO (fun _=>rfl) fun hc=>?_
 have hp:=CkP.of hb (by simpa using hc)
 have hl:=hp.okp.decls.len
 have nms:∀ (r:List D0) (k:Nat) (m:List (Str×Bool)) (l:List D0),p.Decls.drop k=r→p.Decls=l++r→(∀ nm,(mgt nm m).getD ebool.zero=Gi l nm)→
   ∃ m',P5 p m k=(some (J0.mk p ((p.Decls).length:Int) false m')>>=fun x3=>N5 x3>>=fun x4=>if (decide (x4≥0))=true then some (x4,8) else R4 p x3 0)∧∀ nm,(mgt nm m').getD ebool.zero=Gi p.Decls nm:=by
  intro r
  induction r with
  | nil=>
   intro k m l h hr hm
   rw [P5,(Y0 h).1]
   simp only [Bool.false_eq_true,if_false]
   exact ⟨m,rfl,by rw [hr,List.append_nil]; exact hm⟩
  | cons d r ih=>
   intro k m l h hr hm
   obtain ⟨h1,h2,h3,h4,_⟩:=C1 h
   rw [P5,h1,h2]
   simp only [if_true,ob]
   rw [w1 (by omega)]
   refine ih (k+1) _ (l++[d]) h3 (by rw [hr]; simp) fun nm=>?_
   rw [W1c]
   unfold Gi at hm ⊢
   rw [List.any_append,List.any_cons,List.any_nil,Bool.or_false,← hm nm,U1u nm d.Name]
   cases d.Name == nm with
   | true=>simp
   | false=>simp
 obtain ⟨m,e,hN⟩:=nms p.Decls 0 [] [] rfl rfl fun nm=>rfl
 rw [show (0:Int)=((0:Nat):Int) from rfl,e]
 simp only [ob]
 rw [V1u (c:=J0.mk p (p.Decls.length:Int) false m) hp.okp hN,ob]
 refine ifO (fun _=>rfl) fun _=>?_
 have main:∀ (r:List D0) (k:Nat),p.Decls.drop k=r→R4 p (J0.mk p (p.Decls.length:Int) false m) k=some (match Wu p r k with | some z=>z | none=>bif Ix p != 0 then (-1,Ix p) else (-1,E19 p)):=by
  intro r
  induction r with
  | nil=>
   intro k h
   rw [R4,(Y0 h).1]
   simp only [Bool.false_eq_true,if_false]
   rw [Z15 (c:=J0.mk p (p.Decls.length:Int) false m) hp (Nat.le_refl _),ob,
    X1h (c:=J0.mk p (p.Decls.length:Int) false m) (n:=p.Decls.length) ⟨hp,rfl,Nat.le_refl _⟩ hN p.Body ⟨hp.okp.body,hp.sform,hp.snumb⟩ _ (T1h hp _ true) true,ob,
    I1p (c:=J0.mk p (p.Decls.length:Int) false m) hp,ob]
   exact ifB _ _ _
  | cons d r ih=>
   intro k h
   obtain ⟨h1,h2,h3,h4,h5⟩:=C1 h
   rw [R4,h1]
   simp only [if_true,Wu]
   rw [N1t (c:=J0.mk p (p.Decls.length:Int) false m) hp hN h4 h2 h5,ob,w1 (by omega)]
   cases hz:Eq p k d != 0 with
   | true=>simp only [hz,if_true,cond_true]
   | false=>simp only [hz,Bool.false_eq_true,if_false,cond_false]; exact ih (k+1) h3
 exact main p.Decls 0 rfl
end Go.Proofs.YtdkabnfphmmmnaaGreatDoor

set_option linter.unusedSimpArgs false
set_option linter.unusedVariables false
namespace Go.Proofs.YtdkabnfphmmmnaaGreatDoor
open Go.Am
end Go.Proofs.YtdkabnfphmmmnaaGreatDoor

set_option linter.unusedSimpArgs false
set_option linter.unusedVariables false
namespace Go.Proofs.YtdkabnfphmmmnaaGreatDoor
open Go.Am
end Go.Proofs.YtdkabnfphmmmnaaGreatDoor

set_option linter.unusedSimpArgs false
set_option linter.unusedVariables false
namespace Go.Proofs.YtdkabnfphmmmnaaGreatDoor
open Go.Am
end Go.Proofs.YtdkabnfphmmmnaaGreatDoor

