/- A part of the proof of CatalogMakes. -/
import Derived.Test.YtbaijagfgceilaaGreatDoorDgC
import Derived.ProofKit
import Derived.Lib.Atoi
namespace Go.Proofs.YtbaijagfgceilaaGreatDoor
set_option linter.unusedSectionVars false
open Go.Am
theorem ob {α β:Type}(a:α)(f:α→Option β):(some a>>=f)=f a:=rfl
theorem C3 {α:Type}{l:List α}{k:Nat}{x:α}{r:List α}(h:l.drop k=x::r):decide ((k:Int) < (l.length:Int))=true∧idx l (k:Int)=some x∧l.drop (k+1)=r∧k < l.length∧x∈l:=by
 have hk:k < l.length:=by
  rcases Nat.lt_or_ge k l.length with h1 | h1
  ·exact h1
  ·rw [List.drop_eq_nil_of_le h1] at h; cases h
 have a:=List.drop_eq_getElem_cons hk
 rw [h] at a
 obtain ⟨b,c⟩:=List.cons.inj a
 refine ⟨zqj (by omega),?_,c.symm,hk,?_⟩
 ·unfold idx
  rw [zp (by omega),b]
  simp [hk]
 ·rw [b]; exact List.getElem_mem hk
theorem D2 {α:Type}{l:List α}{k:Nat}(h:l.drop k=[]):decide ((k:Int) < (l.length:Int))=false∧l.length≤k:=by
 have:=List.drop_eq_nil_iff.1 h
 exact ⟨zqs (by omega),this⟩
def BB:Nat:=68719476736
theorem wr {n:Int}(h : -4611686018427387904≤n)(h':n≤4611686018427387904):IntKind.i64.wrap n=n:=C1u (by omega) (by omega)
theorem w1 {k:Nat}(h:k≤BB):IntKind.i64.wrap ((k:Int)+1)=((k+1:Nat):Int):=by
 unfold BB at h
 rw [wr (by omega) (by omega)]; rfl
def M6 (n:Int):Bool:=bif decide (n≥97) then decide (n≤122) else false
def J6 (n:Int):Bool:=bif decide (n≥48) then decide (n≤57) else false
def R1f (i:Nat)(c:UInt8):Bool:=M6 c.toNat||(i != 0&&J6 c.toNat)
def Yg:Nat→List UInt8→Bool
 | _,[]=>true
 | i,c::r=>R1f i c&&Yg (i+1) r
def word (s:List UInt8):Bool:=Yg 0 s && !(s == [])
def kw:List UInt8:=[32,116,121,112,101,32,115,101,99,114,101,116,32,112,117,98,108,105,99,32,114,97,110,100,111,109,32,118,97,114,32,104,97,116,99,104,32,102,117,110,99,32,114,101,116,117,114,110,32,98,101,103,105,110,32,101,110,100,32,98,111,111,108,32,105,110,116,32,97,114,114,97,121,32,111,102,32,114,101,99,111,114,100,32,116,114,117,101,32,102,97,108,115,101,32,99,97,108,108,32,114,101,108,101,97,115,101,32,111,117,116,112,117,116,32,119,97,105,116,32,105,102,32,101,108,115,101,32,119,104,105,108,101,32,108,105,109,105,116,32,102,111,114,32,116,111,32,115,101,116,116,108,101,32,109,105,110,32,109,97,120,32]
def Nn (s:List UInt8):Bool:=bif (bif !(s == []) then !Lib.contains s [32] else false) then Lib.contains kw ([32]++s++[32]) else false
def W3 (s:List UInt8):Bool:=bif (bif decide ((s.length:Int)≤12) then word s else false) then !Nn s else false
theorem getD_some {s:List UInt8}{k:Nat}(h:k < s.length):s[k]?=some (s.getD k 0):=by simp [List.getD,h]
def ld (c:UInt8):Bool:=bif M6 c.toNat then true else J6 c.toNat
def D6:List UInt8→Nat
 | []=>0
 | c::r=>bif ld c then D6 r+1 else 0
theorem O12:∀ s:List UInt8,D6 s≤s.length
 | []=>zqr _
 | c::r=>by
  simp only [D6,zqd]
  have:=O12 r
  cases ld c <;> simp <;> omega
def I10 (s:List UInt8):Bool:=bif ((s.length:Nat):Int) == 0 then false else bif s.all (fun c=>M6 c.toNat) then Lib.contains kw ([32]++s++[32]) else false
set_option maxRecDepth 100000 in
theorem P18:kw.length=162:=rfl
theorem M1k {s sub:List UInt8}{i:Nat}(hi:i+sub.length≤s.length)(h:((s.take (i+sub.length)).drop i == sub)=true):Lib.contains s sub=true:=by
 have a:Lib.occAt s sub i=true:=by
  rw [Lib.occAt_iff_take s sub i hi]
  rw [List.drop_take] at h
  simpa using h
 rcases Lib.index_spec s sub with ⟨_,h2⟩ | ⟨j,h1,_⟩
 ·rw [h2 i (by omega)] at a; cases a
 ·unfold Lib.contains
  rw [h1]
  exact zqj (by omega)
theorem O15 {s sub:List UInt8}(h:∀ i,i+sub.length≤s.length→((s.take (i+sub.length)).drop i == sub)=false)(b:sub≠[]):Lib.contains s sub=false:=by
 rcases Lib.index_spec s sub with ⟨h1,_⟩ | ⟨j,h1,h2,a,_⟩
 ·unfold Lib.contains
  rw [h1]; rfl
 ·rcases Lib.occAt_room a with hr | hr
  ·have:=h j hr
   rw [Lib.occAt_iff_take s sub j hr] at a
   rw [List.drop_take] at this
   have e:j+sub.length - j=sub.length:=by omega
   rw [e,a] at this
   cases this
  ·exact absurd hr b
def L1p (s:List UInt8):Bool:=
 bif (bif (bif (bif decide (((s.length:Nat):Int) < 1) then true else decide (((s.length:Nat):Int) > 12)) then true else !M6 (s.getD 0 0).toNat) then true else I10 s) then false else ((D6 s:Nat):Int) == ((s.length:Nat):Int)
theorem U1a:∀ (r:List UInt8) (i:Nat),1≤i→Yg i r=r.all ld
 | [],_,_=>rfl
 | c::r,i,h=>by
  have hi:(i != 0)=true:=by simp; omega
  simp only [Yg,List.all_cons,U1a r (i+1) (by omega),R1f,hi,Bool.true_and,ld]
  cases M6 c.toNat <;> rfl
theorem O1n:∀ s:List UInt8,(((D6 s:Nat):Int) == ((s.length:Nat):Int))=s.all ld
 | []=>rfl
 | c::r=>by
  have h:=O1n r
  have a:=O12 r
  simp only [D6,zqd,List.all_cons,← h]
  cases ld c with
  | false=>
   simp only [zql,Bool.false_and]
   apply zqn.2
   omega
  | true=>
   simp only [zqk,Bool.true_and]
   rw [Bool.eq_iff_iff,beq_iff_eq,beq_iff_eq]
   omega
set_option maxRecDepth 100000 in
theorem V1u:kw.all (fun c=>M6 c.toNat||c == 32)=true:=by decide
theorem Q18 {s sub:List UInt8}(h:Lib.contains s sub=true)(b:sub≠[]):∀ c∈sub,c∈s:=by
 rcases Lib.index_spec s sub with ⟨h1,_⟩ | ⟨j,h1,h2,a,_⟩
 ·unfold Lib.contains at h
  rw [h1] at h
  cases h
 ·rcases Lib.occAt_room a with hr | hr
  ·rw [Lib.occAt_iff_take s sub j hr] at a
   have e:(s.drop j).take sub.length=sub:=by simpa using a
   intro c hc
   rw [← e] at hc
   exact List.mem_of_mem_drop (List.mem_of_mem_take hc)
  ·exact absurd hr b
theorem N1k:ld 32=false:=by decide
theorem O1k {s:List UInt8}(h:s.all ld=true):Lib.contains s [32]=false:=by
 cases hc:Lib.contains s [32] with
 | false=>rfl
 | true=>
  have:=Q18 hc (by simp) 32 (by simp)
  have:=List.all_eq_true.1 h 32 this
  rw [N1k] at this
  cases this
theorem P1n {s:List UInt8}(h:s.all ld=true)(hc:Lib.contains kw ([32]++s++[32])=true):s.all (fun c=>M6 c.toNat)=true:=by
 rw [List.all_eq_true]
 intro c a
 have h1:=Q18 hc (by simp) c (by simp [a])
 have h2:=List.all_eq_true.1 V1u c h1
 have b:=List.all_eq_true.1 h c a
 cases hl:M6 c.toNat with
 | true=>rfl
 | false=>
  rw [hl,Bool.false_or,beq_iff_eq] at h2
  subst h2
  rw [N1k] at b
  cases b
theorem I1x (s:List UInt8):L1p s=W3 s:=by
 unfold L1p W3
 rw [O1n]
 cases s with
 | nil=>rfl
 | cons c r=>
  have h1:decide ((((c::r).length:Nat):Int) < 1)=false:=zqs (by simp only [zqd]; omega)
  have f:decide ((((c::r).length:Nat):Int) > 12) = !decide ((((c::r).length:Nat):Int)≤12):=by
   rw [← decide_not]; exact decide_eq_decide.2 Int.not_le.symm
  have g:word (c::r)=(M6 c.toNat&&r.all ld):=by
   unfold word
   simp only [Yg,R1f,U1a r 1 (zqr _)]
   simp
  rw [h1,f,g,zql,List.all_cons]
  show (bif (bif (bif !decide ((((c::r).length:Nat):Int)≤12) then true else !M6 c.toNat) then true else I10 (c::r)) then false else (ld c&&r.all ld))=_
  cases h12':decide ((((c::r).length:Nat):Int)≤12) with
  | false=>rfl
  | true=>
   cases hl:M6 c.toNat with
   | false=>rfl
   | true=>
    have b:ld c=true:=by unfold ld; rw [hl]; rfl
    rw [b]
    cases ha:r.all ld with
    | false=>cases I10 (c::r) <;> rfl
    | true=>
     have a:(c::r).all ld=true:=by rw [List.all_cons,b,ha]; rfl
     have d:=O1k a
     have e:I10 (c::r)=Nn (c::r):=by
      unfold I10 Nn
      rw [d]
      have hz:((((c::r).length:Nat):Int) == 0)=false:=zqn.2 (by simp only [zqd]; omega)
      rw [hz]
      cases hk:Lib.contains kw ([32]++(c::r)++[32]) with
      | false=>simp
      | true=>
       rw [P1n a hk]
       rfl
     rw [e]
     cases Nn (c::r) <;> rfl
theorem J10 (n:Int):Mg n=some (M6 n):=rfl
theorem Xv (n:Int):Pd n=some (J6 n):=rfl
theorem G1e (s:Str)(hs:s.length≤BB):∀ (r:Str) (k:Nat),s.drop k=r→Na s k=some (Yg k r && !(s == []))
 | [],k,h=>by rw [Na,(D2 h).1]; simp [Yg]
 | c::r,k,h=>by
  obtain ⟨h1,h2,a,d,_⟩:=C3 h
  have b:=G1e s hs r (k+1) a
  rw [Na,h1,zp rfl,h2,ob,J10,ob,w1 (by omega),b]
  have e:((k:Int) == 0)=(k == 0):=by cases k <;> rfl
  simp only [e,Yg,R1f,bne]
  cases hl:M6 c.toNat <;> cases hk:k == 0 <;> cases hd:J6 c.toNat <;> simp [Xv,hd]
theorem T1r (s:Str)(hs:s.length≤BB):Aq s=some (word s):=G1e s hs s 0 rfl
theorem P15 (s t:Str)(hs:s.length≤4000000000):Wp s t=some (Lib.contains s t):=by
 unfold Wp
 rw [zp (zqj (by omega))]
theorem V1a (s:Str)(hs:s.length≤4000000000):Ce s=some (Nn s):=by
 unfold Ce
 have h1:decide (1+s.length≤maxLen)=true:=zqj (by unfold maxLen; omega)
 have h2:decide (([32]++s).length+1≤maxLen)=true:=zqj (by unfold maxLen; simp; omega)
 rw [P15 s _ hs]
 have a:=P15 kw (([32]++s)++[32]) (by rw [P18]; omega)
 unfold kw at a
 unfold Nn kw
 rw [h1,h2,a]
 cases s == [] <;> cases Lib.contains s [32] <;> simp
theorem U1r (s:Str)(hs:s.length≤BB):Mk s=some (W3 s):=by
 unfold Mk Bq W3
 rw [T1r s hs]
 cases h:decide ((s.length:Int)≤12) with
 | false=>simp
 | true=>
  have h':s.length≤12:=by have:=of_decide_eq_true h; omega
  rw [V1a s (by omega)]
  cases word s <;> simp
theorem Nq (n:Int):Vg n=some (M6 n):=rfl
theorem K10 (n:Int):El n=some (J6 n):=rfl
theorem S1f (s:Str)(hs:s.length≤BB):∀ (r:Str) (k:Nat),s.drop k=r→Af s k=some ((k+D6 r:Nat):Int)
 | [],k,h=>by rw [Af,(D2 h).1]; simp [D6,ob]
 | c::r,k,h=>by
  obtain ⟨h1,h2,a,d,_⟩:=C3 h
  have b:=S1f s hs r (k+1) a
  rw [Af,h1,zp rfl,h2,ob,zp rfl,Nq,ob,w1 (by omega),b]
  simp only [D6,ld]
  cases hl:M6 c.toNat <;> cases hd:J6 c.toNat <;> simp [K10,hd,ob] <;> omega
theorem E1z (s:Str)(hs:s.length≤BB):Lm s 0=some ((D6 s:Nat):Int):=by
 have:=S1f s hs s 0 rfl
 unfold Lm
 rw [Nat.zero_add] at this
 exact this
theorem W1u (s:Str)(hs:s.length≤4000000000):∀ (n k:Nat),n+k=163→(∀ i,i < k→i+([32]++s++[32]).length≤kw.length→((kw.take (i+([32]++s++[32]).length)).drop i == [32]++s++[32])=false)→
  K8 s k=some (Lib.contains kw ([32]++s++[32])):=by
 have hl:([32]++s++[32]).length=s.length+2:=by simp
 intro n
 induction n with
 | zero=>
  intro k hk hi
  rw [K8,wr (n:=(k:Int)+_) (by omega) (by omega),wr (by omega) (by omega),zn (by simp; omega),O15 (fun i h=>hi i (by rw [P18] at h; omega) h) (by simp)]
 | succ n e=>
  intro k hk hi
  rw [K8,wr (n:=(k:Int)+_) (by omega) (by omega),wr (by omega) (by omega)]
  by_cases hr:k+([32]++s++[32]).length≤kw.length
  ·have a:=hr
   rw [P18,hl] at a
   rw [zp (zqj (by omega))]
   have b:slc kw (k:Int) ((k:Int)+(s.length:Int)+2)=some ((kw.take (k+([32]++s++[32]).length)).drop k):=by
    unfold slc
    rw [zp ⟨by omega,by omega,by rw [P18]; omega⟩,hl]
    rw [show ((k:Int)+(s.length:Int)+2).toNat=k+(s.length+2) by omega]
    rfl
   unfold kw at b
   rw [b,ob,zp (zqj (by unfold maxLen; omega)),zp (zqj (by unfold maxLen; simp; omega))]
   cases he:((kw.take (k+([32]++s++[32]).length)).drop k == [32]++s++[32]) with
   | true=>
    have:=M1k hr he
    rw [this]
    unfold kw at he
    rw [he,zp rfl]
   | false=>
    have c:=he
    unfold kw at c
    rw [c,zn (by simp),w1 (by unfold BB; omega)]
    refine e (k+1) (by omega) fun i d=>?_
    rcases Nat.lt_or_eq_of_le (Nat.le_of_lt_succ d) with h | h
    ·exact hi i h
    ·subst h; exact fun _=>he
  ·have a:=hr
   rw [P18,hl] at a
   rw [zn (by simp; omega),O15 (fun i h=>hi i (by omega) h) (by simp)]
theorem P1k (s:Str)(hs:s.length≤4000000000):∀ (r:Str) (k:Nat),s.drop k=r→L8 s k=some (bif r.all (fun c=>M6 c.toNat) then Lib.contains kw ([32]++s++[32]) else false)
 | [],k,h=>by rw [L8,(D2 h).1,zn (by simp)]; exact W1u s hs 163 0 rfl (fun i h=>by omega)
 | c::r,k,h=>by
  obtain ⟨h1,h2,a,d,_⟩:=C3 h
  have b:=P1k s hs r (k+1) a
  rw [L8,h1,zp rfl,h2,ob,Nq,ob,w1 (by unfold BB; omega),b,List.all_cons]
  cases M6 c.toNat <;> simp
theorem P12 (s:Str)(hs:s.length≤4000000000):Ng s=some (I10 s):=by
 unfold Ng I10
 have:=P1k s hs s 0 rfl
 rw [show (0:Int)=((0:Nat):Int) from rfl,this]
 cases ((s.length:Int) == ((0:Nat):Int)) <;> simp
theorem Rm (s:Str)(hs:s.length≤BB):Gd s=some (W3 s):=by
 rw [← I1x]
 unfold Gd Kq L1p
 cases h:(bif decide ((s.length:Int) < 1) then true else decide ((s.length:Int) > 12)) with
 | true=>simp [ob]
 | false=>
  have h':1≤s.length∧s.length≤12:=by
   cases h1:decide ((s.length:Int) < 1) with
   | true=>rw [h1] at h; cases h
   | false=>
    rw [h1] at h
    have:=of_decide_eq_false h1
    have:=of_decide_eq_false (show decide ((s.length:Int) > 12)=false from h)
    omega
  have a:idx s 0=some (s.getD 0 0):=getD_some (by omega)
  rw [a,P12 s (by omega),E1z s hs]
  simp only [zqg,zt,ob,Nq,zql]
  cases M6 (s.getD 0 0).toNat <;> cases I10 s <;> simp [ob]
set_option linter.unusedSimpArgs false
theorem F0.ind {P:F0→Prop}(h:∀ t:F0,(∀ x∈t.Of,P x)→P t):∀ t,P t:=by
 intro t
 refine F0.rec (motive_1:=P) (motive_2:=fun l=>∀ x∈l,P x) ?_ ?_ ?_ t
 ·intro k l h' s n ns of c
  exact h _ c
 ·intro x b; cases b
 ·intro x r b hr y a
  cases a with
  | head=>exact b
  | tail _ a=>exact hr y a
mutual
def F0.depth:F0→Nat
 | .mk _ _ _ _ _ _ of=>F0.depths of+1
def F0.depths:List F0→Nat
 | []=>0
 | t::r=>max (F0.depth t) (F0.depths r)
end
theorem F0.depth_eq (t:F0):t.depth=F0.depths t.Of+1:=by cases t; simp [F0.depth,F0.Of]
def E2 (a b c:Int):Bool:=bif decide (a≥b) then decide (a≤c) else false
mutual
def F0.all (p:F0→Bool):F0→Bool
 | .mk k l h s n ns of=>p (.mk k l h s n ns of)&&F0.alls p of
def F0.alls (p:F0→Bool):List F0→Bool
 | []=>true
 | t::r=>F0.all p t&&F0.alls p r
end
theorem F0.all_eq (p:F0→Bool)(t:F0):t.all p=(p t&&F0.alls p t.Of):=by cases t; rfl
mutual
def F0.nodes:F0→Nat
 | .mk _ _ _ _ _ _ of=>F0.nodess of+1
def F0.nodess:List F0→Nat
 | []=>0
 | t::r=>F0.nodes t+F0.nodess r
end
theorem F0.nodes_eq (t:F0):t.nodes=F0.nodess t.Of+1:=by cases t; rfl
mutual
theorem F0.depth_nodes:∀ t:F0,t.depth≤t.nodes
 | .mk _ _ _ _ _ _ of=>by simp only [F0.depth,F0.nodes]; have:=F0.depths_nodess of; omega
theorem F0.depths_nodess:∀ l:List F0,F0.depths l≤F0.nodess l
 | []=>zqr _
 | t::r=>by simp only [F0.depths,F0.nodess]; have:=F0.depth_nodes t; have:=F0.depths_nodess r; omega
end
def fm1 (t:F0):Bool:=bif decide (t.Kind≥0) then decide (t.Kind≤4) else false
def fm2 (t:F0):Bool:=bif t.Kind == 1 then true else bif t.Low == 0 then t.High == 0 else false
def fm3 (t:F0):Bool:=bif t.Kind == 2 then true else t.Size == 0
def fm4 (t:F0):Bool:=bif t.Kind == 4 then true else t.Name == []
def fm5 (t:F0):Bool:=bif t.Kind == 3 then true else ((t.Names).length:Int) == 0
def fm6 (t:F0):Bool:=bif t.Kind == 2 then ((t.Of).length:Int) == 1 else bif t.Kind == 3 then (bif decide (((t.Of).length:Int)≥1) then ((t.Of).length:Int) == ((t.Names).length:Int) else false) else ((t.Of).length:Int) == 0
def nm1 (t:F0):Bool:=bif t.Kind == 2 then E2 t.Size 1 32 else bif t.Kind == 3 then decide (((t.Of).length:Int)≤32) else true
def nm2 (t:F0):Bool:=bif t.Kind == 1 then (bif E2 t.Low (-1048576) 1048576 then E2 t.High t.Low 1048576 else false) else true
def na1 (t:F0):Bool:=bif t.Kind == 4 then W3 t.Name else true
def Xa (t:F0):Bool:=fm1 t&&fm2 t&&fm3 t&&fm4 t&&fm5 t&&fm6 t
def Sm (t:F0):Bool:=nm1 t&&nm2 t
def Li (t:F0):Bool:=na1 t&&t.Names.all W3
theorem Fu (a b c:Bool):(a || !b || !c)=(a || !(b&&c)):=by cases a <;> cases b <;> cases c <;> rfl
def Gn (n d:Int)(f m u:Bool):Int:=
 bif (bif decide (n > 1024) then true else decide (d > 12)) then 4 else bif f then 1 else bif m then 7 else bif u then 3 else 0
theorem P14 (a b:Int):decide (a < b) = !decide (a≥b):=by
 rw [← decide_not]; exact decide_eq_decide.2 Int.not_le.symm
theorem Q14 (a b:Int):decide (a > b) = !decide (a≤b):=by
 rw [← decide_not]; exact decide_eq_decide.2 Int.not_le.symm
def Q1k (t:F0):Bool:=bif decide (t.Kind < 0) then true else decide (t.Kind > 4)
def R1k (t:F0):Bool:=
 bif (bif (bif (bif t.Kind != 1 then (bif t.Low != 0 then true else t.High != 0) else false) then true else (bif t.Kind != 2 then t.Size != 0 else false)) then true else (bif t.Kind != 4 then !(t.Name == []) else false)) then true else
  (bif t.Kind != 3 then ((t.Names).length:Int) != 0 else false)
def S1k (t:F0):Bool:=
 bif (bif (bif t.Kind == 2 then ((t.Of).length:Int) != 1 else false) then true else
  (bif t.Kind == 3 then (bif decide (((t.Of).length:Int) < 1) then true else ((t.Of).length:Int) != ((t.Names).length:Int)) else false)) then true else
  (bif (bif t.Kind != 2 then t.Kind != 3 else false) then ((t.Of).length:Int) != 0 else false)
theorem J1x (t:F0):fm1 t = !Q1k t:=by
 unfold fm1 Q1k
 rw [P14,Q14]
 cases decide (t.Kind≥0) <;> cases decide (t.Kind≤4) <;> rfl
theorem K1x (t:F0):(fm2 t&&fm3 t&&fm4 t&&fm5 t) = !R1k t:=by
 unfold fm2 fm3 fm4 fm5 R1k
 simp only [bne]
 generalize (t.Kind == 1)=a
 generalize (t.Kind == 2)=b
 generalize (t.Kind == 3)=c
 generalize (t.Kind == 4)=d
 generalize (t.Low == 0)=e
 generalize (t.High == 0)=f
 generalize (t.Size == 0)=g
 generalize (t.Name == [])=h
 generalize (((t.Names).length:Int) == 0)=i
 cases a <;> cases b <;> cases c <;> cases d <;> cases e <;> cases f <;> cases g <;> cases h <;> cases i <;> rfl
theorem L1x (t:F0):fm6 t = !S1k t:=by
 have a:(t.Kind == 2)=true→(t.Kind == 3)=false:=fun h=>by
  have:t.Kind=2:=by simpa using h
  rw [this]; rfl
 unfold fm6 S1k
 rw [P14]
 simp only [bne]
 revert a
 generalize (t.Kind == 2)=b
 generalize (t.Kind == 3)=c
 generalize (((t.Of).length:Int) == 1)=d
 generalize (((t.Of).length:Int) == 0)=e
 generalize (((t.Of).length:Int) == ((t.Names).length:Int))=f
 generalize (decide (((t.Of).length:Int)≥1))=g
 intro a
 cases b <;> cases c <;> first | (exact absurd (a rfl) (by decide)) | (cases d <;> cases e <;> cases f <;> cases g <;> rfl)
theorem X1u (t:F0):Xa t=(!Q1k t && !R1k t && !S1k t):=by
 rw [← J1x,← K1x,← L1x]
 unfold Xa
 simp only [Bool.and_assoc]
def Th (n:Int):Bool:=bif decide (n≥-1048576) then decide (n≤1048576) else false
def Gs (t:F0):Bool:=
 bif (bif (bif t.Kind == 1 then (bif (bif !Th t.Low then true else !Th t.High) then true else decide (t.Low > t.High)) else false) then true else
  (bif t.Kind == 2 then (bif decide (t.Size < 1) then true else decide (t.Size > 32)) else false)) then true else decide (((t.Of).length:Int) > 32)
theorem T1k (t:F0)(hf:Xa t=true):Sm t = !Gs t:=by
 have d:(t.Kind == 1)=true→(t.Kind == 2)=false∧(t.Kind == 3)=false:=fun h=>by
  have:t.Kind=1:=by simpa using h
  rw [this]; exact ⟨rfl,rfl⟩
 have e:(t.Kind == 2)=true→(t.Kind == 3)=false:=fun h=>by
  have:t.Kind=2:=by simpa using h
  rw [this]; rfl
 have f:fm6 t=true:=by
  unfold Xa at hf
  simp only [zqi] at hf
  exact hf.2
 have g:(bif E2 t.Low (-1048576) 1048576 then E2 t.High t.Low 1048576 else false) = !(bif (bif !Th t.Low then true else !Th t.High) then true else decide (t.Low > t.High)):=by
  unfold E2 Th
  by_cases a1:t.Low≥-1048576 <;> by_cases a2:t.Low≤1048576 <;> by_cases a3:t.High≥-1048576 <;> by_cases a4:t.High≤1048576 <;> by_cases a5:t.High≥t.Low <;>
   simp [a1,a2,a3,a4,a5] <;> omega
 have i:E2 t.Size 1 32 = !(bif decide (t.Size < 1) then true else decide (t.Size > 32)):=by
  unfold E2
  rw [P14,Q14]
  cases decide (t.Size≥1) <;> cases decide (t.Size≤32) <;> rfl
 unfold Sm Gs nm1 nm2
 rw [g,i,Q14 (((t.Of).length:Int))]
 have hl:(t.Kind == 3)=false→decide (((t.Of).length:Int)≤32)=true:=fun j=>by
  unfold fm6 at f
  rw [j] at f
  cases h2:t.Kind == 2 with
  | true=>
   rw [h2] at f
   have:((t.Of).length:Int)=1:=by simpa using f
   exact zqj (by omega)
  | false=>
   rw [h2] at f
   have:((t.Of).length:Int)=0:=by simpa using f
   exact zqj (by omega)
 revert d e hl
 generalize (bif (bif !Th t.Low then true else !Th t.High) then true else decide (t.Low > t.High))=X
 generalize (bif decide (t.Size < 1) then true else decide (t.Size > 32))=Y
 generalize decide (((t.Of).length:Int)≤32)=Z
 generalize (t.Kind == 1)=a
 generalize (t.Kind == 2)=b
 generalize (t.Kind == 3)=c
 intro d e hl
 cases a <;> cases b <;> cases c <;> first | exact absurd (d rfl).1 (by decide) | exact absurd (d rfl).2 (by decide) | exact absurd (e rfl) (by decide) | (cases X <;> cases Y <;> cases Z <;> first | rfl | exact absurd (hl rfl) (by decide))
theorem W1m (t:F0):t.all Xa=true→t.all Sm=t.all fun t=>!Gs t:=by
 induction t using F0.ind with
 | h t b=>
 intro hf
 rw [F0.all_eq,zqi] at hf
 rw [F0.all_eq,F0.all_eq,T1k t hf.1]
 congr 1
 have:∀ l:List F0,(∀ x∈l,x.all Xa=true→x.all Sm=x.all fun t=>!Gs t)→F0.alls Xa l=true→F0.alls Sm l=F0.alls (fun t=>!Gs t) l:=by
  intro l
  induction l with
  | nil=>intros; rfl
  | cons x r a=>
   intro h1 h2
   simp only [F0.alls,zqi] at h2
   simp only [F0.alls]
   rw [h1 x zqp h2.1,a (fun y c=>h1 y (zqq _ c)) h2.2]
 exact this t.Of b hf.2
theorem F0.alls_mem {p:F0→Bool}:∀ {l:List F0} {t:F0},F0.alls p l=true→t∈l→t.all p=true
 | x::r,t,h,hm=>by
  simp only [F0.alls,zqi] at h
  cases hm with
  | head=>exact h.1
  | tail _ hm=>exact F0.alls_mem h.2 hm
def eqL {α:Type}(p:α→α→Bool):List α→List α→Bool
 | [],[]=>true
 | x::r,y::s=>p x y&&eqL p r s
 | _,_=>false
theorem Ij {α:Type}(p:α→α→Bool):∀ {l m:List α},l.length≠m.length→eqL p l m=false
 | [],[],h=>absurd rfl h
 | [],_::_,_=>rfl
 | _::_,[],_=>rfl
 | x::r,y::s,h=>by rw [eqL,Ij p (l:=r) (m:=s) (by simpa using h),Bool.and_false]
mutual
def F0.same:F0→F0→Bool
 | .mk k l h s n ns of,t=>k == t.Kind&&l == t.Low&&h == t.High&&s == t.Size&&n == t.Name&&eqL (fun x y=>x == y) ns t.Names&&F0.sames of t.Of
def F0.sames:List F0→List F0→Bool
 | [],[]=>true
 | x::r,y::s=>F0.same x y&&F0.sames r s
 | [],_::_=>false
 | _::_,[]=>false
end
theorem F0.sames_eq:∀ l m:List F0,F0.sames l m=eqL F0.same l m
 | [],[]=>rfl
 | x::r,y::s=>by simp only [F0.sames,eqL,F0.sames_eq r s]
 | [],_::_=>rfl
 | _::_,[]=>rfl
theorem F0.same_eq (t u:F0):t.same u=(t.Kind == u.Kind&&t.Low == u.Low&&t.High == u.High&&t.Size == u.Size&&t.Name == u.Name&&eqL (fun x y=>x == y) t.Names u.Names&&eqL F0.same t.Of u.Of):=by
 rw [← F0.sames_eq]
 cases t
 rfl
def T1f (t u:F0):Bool:=
 bif (bif (bif (bif (bif (bif t.Kind != u.Kind then true else t.Low != u.Low) then true else t.High != u.High) then true else t.Size != u.Size) then true else !(t.Name == u.Name)) then true else
  ((t.Names).length:Int) != ((u.Names).length:Int)) then true else ((t.Of).length:Int) != ((u.Of).length:Int)
theorem V1r {t u:F0}(h:T1f t u=true):t.same u=false:=by
 have hn:((t.Names).length:Int)≠((u.Names).length:Int)→eqL (fun x y=>x == y) t.Names u.Names=false:=fun h=>Ij _ fun e=>h (by omega)
 have a:((t.Of).length:Int)≠((u.Of).length:Int)→eqL F0.same t.Of u.Of=false:=fun h=>Ij _ fun e=>h (by omega)
 unfold T1f at h
 rw [F0.same_eq]
 by_cases h1:((t.Names).length:Int)=((u.Names).length:Int)
 ·by_cases h2:((t.Of).length:Int)=((u.Of).length:Int)
  ·rw [h1,h2] at h
   revert h
   simp only [bne,zqm,zqf]
   cases t.Kind == u.Kind <;> cases t.Low == u.Low <;> cases t.High == u.High <;> cases t.Size == u.Size <;> cases t.Name == u.Name <;> simp
  ·rw [a h2,Bool.and_false]
 ·rw [hn h1,Bool.and_false,Bool.false_and]
theorem Y1u {t u:F0}(h:T1f t u=false):t.same u=(eqL (fun x y=>x == y) t.Names u.Names&&eqL F0.same t.Of u.Of)∧t.Names.length=u.Names.length∧t.Of.length=u.Of.length:=by
 unfold T1f at h
 simp only [bne] at h
 have key:t.Kind == u.Kind∧t.Low == u.Low∧t.High == u.High∧t.Size == u.Size∧t.Name == u.Name∧((t.Names).length:Int) == ((u.Names).length:Int)∧((t.Of).length:Int) == ((u.Of).length:Int):=by
  revert h
  cases t.Kind == u.Kind <;> cases t.Low == u.Low <;> cases t.High == u.High <;> cases t.Size == u.Size <;> cases t.Name == u.Name <;> cases ((t.Names).length:Int) == ((u.Names).length:Int) <;> cases ((t.Of).length:Int) == ((u.Of).length:Int) <;> simp
 obtain ⟨e,g,b,a,d,c,f⟩:=key
 refine ⟨by rw [F0.same_eq,e,g,b,a,d]; rfl,?_,?_⟩
 ·have:(t.Names.length:Int)=u.Names.length:=by simpa using c
  omega
 ·have:(t.Of.length:Int)=u.Of.length:=by simpa using f
  omega
mutual
def F0.bulk:F0→Nat
 | .mk _ _ _ _ n ns of=>1+(1+(1+(1+((n.length+1)+(((ns.map fun s=>s.length+1).sum+1)+((F0.bulks of+1)+0))))))+1
def F0.bulks:List F0→Nat
 | []=>0
 | x::r=>F0.bulk x+F0.bulks r
end
theorem F0.bulk_eq (t:F0):t.bulk=t.Name.length+(t.Names.map fun s=>s.length+1).sum+F0.bulks t.Of+8:=by cases t; simp only [F0.bulk]; omega
theorem F0.bulk_kid {t:F0}:∀ {l:List F0},t∈l→t.bulk≤F0.bulks l
 | x::r,h=>by
  simp only [F0.bulks]
  cases h with
  | head=>omega
  | tail _ h=>have:=F0.bulk_kid h; omega
theorem F0.bulk_len:∀ l:List F0,l.length≤F0.bulks l
 | []=>zqr _
 | x::r=>by
  simp only [F0.bulks,zqd]
  have:=F0.bulk_len r
  have:=F0.bulk_eq x
  omega
theorem U1k {s:Str}:∀ {l:List Str},s∈l→s.length+1≤(l.map fun s=>s.length+1).sum
 | x::r,h=>by
  simp only [List.map_cons,List.sum_cons]
  cases h with
  | head=>omega
  | tail _ h=>have:=U1k h; omega
theorem V1k:∀ l:List Str,l.length≤(l.map fun s=>s.length+1).sum
 | []=>zqr _
 | x::r=>by simp only [List.map_cons,List.sum_cons,zqd]; have:=V1k r; omega
mutual
theorem F0.nodes_bulk:∀ t:F0,t.nodes≤t.bulk
 | .mk _ _ _ _ _ _ of=>by simp only [F0.nodes,F0.bulk]; have:=F0.nodess_bulk of; omega
theorem F0.nodess_bulk:∀ l:List F0,F0.nodess l≤F0.bulks l
 | []=>zqr _
 | x::r=>by simp only [F0.nodess,F0.bulks]; have:=F0.nodes_bulk x; have:=F0.nodess_bulk r; omega
end
def Ok (t:F0):Prop:=t.bulk≤BB
theorem Ok.kid {t x:F0}(h:Ok t)(a:x∈t.Of):Ok x:=by
 unfold Ok at *
 have:=F0.bulk_kid a
 have:=F0.bulk_eq t
 omega
theorem Ok.ofs {t:F0}(h:Ok t):t.Of.length≤BB:=by
 unfold Ok at *
 have:=F0.bulk_len t.Of
 have:=F0.bulk_eq t
 omega
theorem Ok.names {t:F0}(h:Ok t):t.Names.length≤BB:=by
 unfold Ok at *
 have:=V1k t.Names
 have:=F0.bulk_eq t
 omega
theorem Ok.name1 {t:F0}(h:Ok t){s:Str}(hs:s∈t.Names):s.length≤BB:=by
 unfold Ok at *
 have:=U1k hs
 have:=F0.bulk_eq t
 omega
theorem Ok.name {t:F0}(h:Ok t):t.Name.length≤BB:=by
 unfold Ok at *
 have:=F0.bulk_eq t
 omega
theorem Ok.nodes {t:F0}(h:Ok t):t.nodes≤BB:=Nat.le_trans (F0.nodes_bulk t) h
theorem bor (a b:Bool):(bif a then true else b)=(a||b):=by cases a <;> rfl
theorem A1c (d:Int)(o:J0):K9 d o=some ⟨o.nodes,max o.depth d,o.badForm,o.badName,o.badNumber⟩:=rfl
theorem B1c (b:Bool)(o:J0):F1 b o=some ⟨o.nodes,o.depth,o.badForm || !b,o.badName,o.badNumber⟩:=by unfold F1; rw [bor]
theorem Yv (b:Bool)(o:J0):S2 b o=some ⟨o.nodes,o.depth,o.badForm,o.badName,o.badNumber || !b⟩:=by unfold S2; rw [bor]
theorem Ck (a b c:Int):J4 a b c=some (E2 a b c):=rfl
theorem R14 (s:Str)(hs:s.length≤BB)(o:J0):V5 s o=some ⟨o.nodes,o.depth,o.badForm,o.badName || !W3 s,o.badNumber⟩:=by
 unfold V5
 rw [U1r s hs]
 cases h:o.badName <;> simp
theorem Z1u (o:J0):Dc o=some (Gn o.nodes o.depth o.badForm o.badName o.badNumber):=by
 unfold Dc Gn
 cases (bif decide (o.nodes > 1024) then true else decide (o.depth > 12)) <;> cases o.badForm <;> cases o.badName <;> cases o.badNumber <;> rfl
def Eh (o:J0)(d:Int)(n m:Nat)(f a u:Bool):J0:=⟨o.nodes+n,max o.depth (d+m),o.badForm || !f,o.badName || !a,o.badNumber || !u⟩
theorem W1r (t:F0)(d:Int)(m:0≤d)(ht:Ok t)
  (b:∀ x∈t.Of,∀ (d:Int) (o:J0),0≤d→d+x.nodes≤4 * BB→0≤o.nodes→o.nodes+x.nodes≤4 * BB→Y6 x d o=some (Eh o d x.nodes (x.depth - 1) (x.all Xa) (x.all Li) (x.all Sm))) :
  ∀ (r:List F0) (k:Nat) (o:J0),t.Of.drop k=r→(∀ x∈r,x∈t.Of)→d+1+F0.nodess r≤4 * BB→0≤o.nodes→o.nodes+F0.nodess r≤4 * BB→d≤o.depth→
   R7 t d o k=some (Eh o d (F0.nodess r) (F0.depths r) (F0.alls Xa r) (F0.alls Li r) (F0.alls Sm r))
 | [],k,o,h,_,_,_,_,q=>by
  rw [R7,(D2 h).1]
  simp only [Eh,F0.nodess,F0.depths,F0.alls,zqf,Bool.or_false]
  rw [zn (by simp),show o.nodes+((0:Nat):Int)=o.nodes by omega,show max o.depth (d+((0:Nat):Int))=o.depth by omega]
 | x::r,k,o,h,hm,hb,l,c,q=>by
  obtain ⟨j,e,p,s,f⟩:=C3 h
  simp only [F0.nodess] at hb c
  have g:1≤x.depth:=by rw [F0.depth_eq]; omega
  have a:=ht.ofs
  unfold BB at hb c a
  rw [R7,j,zp rfl,e,ob,wr (n:=d+1) (by omega) (by omega),b x f (d+1) o (by omega) (by unfold BB; omega) l (by unfold BB; omega),ob,w1 (by unfold BB; omega),
   W1r t d m ht b r (k+1) _ p (fun y i=>hm y (zqq _ i)) (by unfold BB; omega) (by simp only [Eh]; omega) (by simp only [Eh]; unfold BB; omega) (by simp only [Eh]; omega)]
  simp only [Eh,F0.nodess,F0.depths,F0.alls,Fu]
  rw [show o.nodes+(x.nodes:Int)+(F0.nodess r:Nat)=o.nodes+((x.nodes+F0.nodess r:Nat):Int) by omega,
   show max (max o.depth (d+1+((x.depth - 1:Nat):Int))) (d+(F0.depths r:Nat))=max o.depth (d+((max x.depth (F0.depths r):Nat):Int)) by omega]
theorem X1r (t:F0)(d:Int)(ht:Ok t)(R:J0→Option J0)(a:∀ o,R7 t d o 0=R o) :
  ∀ (r:List Str) (k:Nat) (o:J0),t.Names.drop k=r→O6 t d o k=R ⟨o.nodes,o.depth,o.badForm,o.badName || !r.all W3,o.badNumber⟩
 | [],k,o,h=>by
  rw [O6,(D2 h).1,zn (by simp),a]
  simp
 | x::r,k,o,h=>by
  obtain ⟨e,b,f,g,c⟩:=C3 h
  have:=ht.names
  rw [O6,e,zp rfl,b,ob,R14 x (ht.name1 c),ob,w1 (by omega),X1r t d ht R a r (k+1) _ f]
  simp only [List.all_cons,Fu]
theorem F1z (t:F0)(d:Int)(ht:Ok t)(o:J0):Ba t d o=O6 t d ⟨o.nodes,o.depth,o.badForm,o.badName || !na1 t,o.badNumber⟩ 0:=by
 rw [Ba,R14 _ ht.name,ob,Bd,Bd]
 unfold na1
 cases h:t.Kind == 4 <;> simp
theorem G1z (t:F0)(d:Int)(o:J0):Aa t d o=Ba t d ⟨o.nodes,o.depth,o.badForm,o.badName,o.badNumber || !nm2 t⟩:=by
 rw [Aa]
 unfold nm2
 simp only [Ck,Yv,ob]
 cases h:t.Kind == 1 <;> cases E2 t.Low (-1048576) 1048576 <;> simp [ob]
theorem H1z (t:F0):Ok t→∀ (d:Int) (o:J0),0≤d→d+t.nodes≤4 * BB→0≤o.nodes→o.nodes+t.nodes≤4 * BB→
  Y6 t d o=some (Eh o d t.nodes (t.depth - 1) (t.all Xa) (t.all Li) (t.all Sm)):=by
 induction t using F0.ind with
 | h t j=>
 intro ht d o k hb h3 b
 have i:=fun o h3 b c=>W1r t d k ht (fun x g=>j x g (ht.kid g)) t.Of 0 o rfl (fun _ h=>h) (by rw [F0.nodes_eq] at hb; omega) h3 b c
 have l:=X1r t d ht _ (fun o=>rfl) t.Names 0
 rw [F0.nodes_eq] at hb b
 unfold BB at hb b
 rw [Y6]
 simp only [A1c,B1c,Ck,Yv,ob,G1z,F1z t d ht]
 rw [wr (n:=o.nodes+1) (by omega) (by omega)]
 have a:∀ f e,fm6 t=f→nm1 t=e→
   O6 t d ⟨o.nodes+1,max o.depth d,(((((o.badForm || !fm1 t) || !fm2 t) || !fm3 t) || !fm4 t) || !fm5 t) || !f,o.badName || !na1 t,(o.badNumber || !e) || !nm2 t⟩ 0
    = some (Eh o d t.nodes (t.depth - 1) (t.all Xa) (t.all Li) (t.all Sm)):=by
  rintro _ _ rfl rfl
  have:=l ⟨o.nodes+1,max o.depth d,(((((o.badForm || !fm1 t) || !fm2 t) || !fm3 t) || !fm4 t) || !fm5 t) || !fm6 t,o.badName || !na1 t,(o.badNumber || !nm1 t) || !nm2 t⟩ rfl
  rw [show ((0:Nat):Int)=0 from rfl] at this i
  rw [this,i _ (by simp only; omega) (by simp only; unfold BB; omega) (by simp only; omega)]
  simp only [Eh,F0.all_eq,F0.nodes_eq,F0.depth_eq,Xa,Li,Sm,Fu,Bool.or_assoc,← Bool.not_and]
  simp only [Fu,Bool.and_assoc]
  rw [show o.nodes+1+(F0.nodess t.Of:Int)=o.nodes+((F0.nodess t.Of+1:Nat):Int) by omega,show max (max o.depth d) (d+(F0.depths t.Of:Int))=max o.depth (d+((F0.depths t.Of+1 - 1:Nat):Int)) by omega]
 have h2:(t.Kind == 2)=true∨(t.Kind == 2)=false:=by cases t.Kind == 2 <;> simp
 have h3:(t.Kind == 3)=true∨(t.Kind == 3)=false:=by cases t.Kind == 3 <;> simp
 rcases h2 with h2 | h2
 ·rw [zp h2]
  exact a ((t.Of.length:Int) == 1) (E2 t.Size 1 32) (by unfold fm6; rw [h2,zqk]) (by unfold nm1; rw [h2,zqk])
 ·rw [zn (by rw [h2]; simp)]
  rcases h3 with h3 | h3
  ·rw [zp h3]
   exact a (bif decide ((t.Of.length:Int)≥1) then (t.Of.length:Int) == (t.Names.length:Int) else false) (decide ((t.Of.length:Int)≤32)) (by unfold fm6; rw [h2,h3,zql,zqk]) (by unfold nm1; rw [h2,h3,zql,zqk])
  ·rw [zn (by rw [h3]; simp)]
   have:=a ((t.Of.length:Int) == 0) true (by unfold fm6; rw [h2,h3,zql,zql]) (by unfold nm1; rw [h2,h3,zql,zql])
   rw [zqf,Bool.or_false] at this
   exact this
theorem W1k (t:F0)(ht:Ok t)(b:∀ x∈t.Of,Qa x=some (x.nodes:Int)) :
  ∀ (r:List F0) (k:Nat) (n:Nat),t.Of.drop k=r→n+F0.nodess r≤BB→Jc t (n:Int) k=some ((n+F0.nodess r:Nat):Int)
 | [],k,n,h,hb=>by rw [Jc,(D2 h).1,zn (by simp)]; simp [F0.nodess]
 | x::r,k,n,h,hb=>by
  obtain ⟨e,c,f,g,d⟩:=C3 h
  have:=ht.ofs
  simp only [F0.nodess] at hb
  have a:=hb
  unfold BB at a
  rw [Jc,e,zp rfl,c,ob,b x d,ob,wr (n:=(n:Int)+_) (by omega) (by omega),w1 (by omega),show (n:Int)+(x.nodes:Int)=((n+x.nodes:Nat):Int) by omega,W1k t ht b r (k+1) _ f (by omega)]
  simp only [F0.nodess,Nat.add_assoc]
theorem Y1r (t:F0):Ok t→Qa t=some (t.nodes:Int):=by
 induction t using F0.ind with
 | h t b=>
 intro ht
 have hn:=ht.nodes
 rw [F0.nodes_eq] at hn
 rw [Qa]
 have:=W1k t ht (fun x a=>b x a (ht.kid a)) t.Of 0 1 rfl (by omega)
 rw [F0.nodes_eq,Nat.add_comm]
 exact this
theorem C1c (t:F0)(ht:Ok t)(a:∀ x∈t.Of,Ra x=some (x.depth:Int))(B:Nat)(b:B≤BB) :
  ∀ (r:List F0) (k:Nat) (n:Nat),t.Of.drop k=r→n≤B→F0.depths r≤B→P9 t (n:Int) k=some ((max n (F0.depths r)+1:Nat):Int)
 | [],k,n,h,hb,_=>by
  rw [P9,(D2 h).1,zn (by simp),w1 (by omega)]
  simp [F0.depths]
 | x::r,k,n,h,hb,f=>by
  obtain ⟨g,d,c,i,e⟩:=C3 h
  have:=ht.ofs
  simp only [F0.depths] at f
  rw [P9,g,zp rfl,d,ob,a x e,ob,w1 (by omega),C1c t ht a B b r (k+1) _ c (by omega) (by omega),C1c t ht a B b r (k+1) _ c (by omega) (by omega)]
  simp only [F0.depths]
  by_cases hx:(x.depth:Int) > (n:Int)
  ·rw [zp (zqj hx),show max n (max x.depth (F0.depths r))=max x.depth (F0.depths r) by omega]
  ·rw [zn (by simpa using hx),show max n (max x.depth (F0.depths r))=max n (F0.depths r) by omega]
theorem Z1r (t:F0):Ok t→Ra t=some (t.depth:Int):=by
 induction t using F0.ind with
 | h t c=>
 intro ht
 have hn:=ht.nodes
 have b:=F0.depth_nodes t
 rw [Ra]
 rw [F0.depth_eq] at b
 have:=C1c t ht (fun x a=>c x a (ht.kid a)) BB (zqr _) t.Of 0 0 rfl (by omega) (by omega)
 rw [F0.depth_eq]
 rw [show max 0 (F0.depths t.Of)=F0.depths t.Of by omega] at this
 exact this
theorem Q1n (t:F0)(ht:Ok t)(a:∀ x∈t.Of,Nc x=some (x.all Xa)):∀ (r:List F0) (k:Nat),t.Of.drop k=r→Nd t k=some (F0.alls Xa r)
 | [],k,h=>by rw [Nd,(D2 h).1,zn (by simp)]; rfl
 | x::r,k,h=>by
  obtain ⟨d,b,e,f,c⟩:=C3 h
  have:=ht.ofs
  rw [Nd,d,zp rfl,b,ob,a x c,ob,w1 (by omega),Q1n t ht a r (k+1) e,F0.alls]
  cases x.all Xa <;> simp
theorem A1v (t:F0):Ok t→Nc t=some (t.all Xa):=by
 induction t using F0.ind with
 | h t b=>
 intro ht
 have h1:=Q1n t ht (fun x a=>b x a (ht.kid a)) t.Of 0 rfl
 rw [show ((0:Nat):Int)=0 from rfl] at h1
 rw [Nc,h1,F0.all_eq,X1u]
 show (if Q1k t=true then some false else if R1k t=true then some false else if S1k t=true then some false else some (F0.alls Xa t.Of))=_
 cases Q1k t <;> cases R1k t <;> cases S1k t <;> simp
theorem A1h (t:F0)(ht:Ok t)(a:∀ x∈t.Of,Wa x=some (x.all Li)):∀ (r:List F0) (k:Nat),t.Of.drop k=r→R9 t k=some (F0.alls Li r)
 | [],k,h=>by rw [R9,(D2 h).1,zn (by simp)]; rfl
 | x::r,k,h=>by
  obtain ⟨d,b,e,f,c⟩:=C3 h
  have:=ht.ofs
  rw [R9,d,zp rfl,b,ob,a x c,ob,w1 (by omega),A1h t ht a r (k+1) e,F0.alls]
  cases x.all Li <;> simp
theorem B1h (t:F0)(ht:Ok t)(b:Bool)(hb:R9 t 0=some b):∀ (r:List Str) (k:Nat),t.Names.drop k=r→Sc t k=some (r.all W3&&b)
 | [],k,h=>by rw [Sc,(D2 h).1,zn (by simp),hb]; rfl
 | x::r,k,h=>by
  obtain ⟨d,a,e,f,c⟩:=C3 h
  have:=ht.names
  rw [Sc,d,zp rfl,a,ob,Rm x (ht.name1 c),ob,w1 (by omega),B1h t ht b hb r (k+1) e,List.all_cons]
  cases W3 x <;> simp
theorem A1s (t:F0):Ok t→Wa t=some (t.all Li):=by
 induction t using F0.ind with
 | h t b=>
 intro ht
 have h2:=A1h t ht (fun x a=>b x a (ht.kid a)) t.Of 0 rfl
 have h1:=B1h t ht _ h2 t.Names 0 rfl
 rw [show ((0:Nat):Int)=0 from rfl] at h1
 rw [Wa,h1,F0.all_eq,Rm t.Name ht.name]
 unfold Li na1
 cases t.Kind == 4 <;> cases W3 t.Name <;> simp
theorem H1e (t:F0)(ht:Ok t)(a:∀ x∈t.Of,N8 x=some (x.all fun t=>!Gs t)):∀ (r:List F0) (k:Nat),t.Of.drop k=r→Ea t k=some (F0.alls (fun t=>!Gs t) r)
 | [],k,h=>by rw [Ea,(D2 h).1,zn (by simp)]; rfl
 | x::r,k,h=>by
  obtain ⟨d,b,e,f,c⟩:=C3 h
  have:=ht.ofs
  rw [Ea,d,zp rfl,b,ob,a x c,ob,w1 (by omega),H1e t ht a r (k+1) e,F0.alls]
  cases x.all (fun t=>!Gs t) <;> simp
theorem Ez (n:Int):Df n=some (Th n):=rfl
theorem X1m (t:F0):Ok t→N8 t=some (t.all fun t=>!Gs t):=by
 induction t using F0.ind with
 | h t b=>
 intro ht
 have h1:=H1e t ht (fun x a=>b x a (ht.kid a)) t.Of 0 rfl
 rw [show ((0:Nat):Int)=0 from rfl] at h1
 rw [N8,h1,F0.all_eq]
 simp only [Ez]
 generalize F0.alls (fun t=>!Gs t) t.Of=A
 unfold Gs
 generalize decide ((t.Of.length:Int) > 32)=b1
 generalize (bif t.Kind == 2 then (bif decide (t.Size < 1) then true else decide (t.Size > 32)) else false)=b2
 generalize decide (t.Low > t.High)=b3
 cases t.Kind == 1 <;> cases Th t.Low <;> cases Th t.High <;> cases b1 <;> cases b2 <;> cases b3 <;> rfl
theorem Y1m (s:O0)(f m u:Bool):Uk s f m u=some (Gn s.nodes s.depth (!f) (!m) (!u)):=by
 unfold Uk Gn
 cases (bif decide (s.nodes > 1024) then true else decide (s.depth > 12)) <;> cases f <;> cases m <;> cases u <;> rfl
set_option linter.unusedVariables false
theorem A0.ind {P:A0→Prop}(h:∀ t:A0,(∀ x∈t.Kids,P x)→P t):∀ t,P t:=by
 intro t
 refine A0.rec (motive_1:=P) (motive_2:=fun l=>∀ x∈l,P x) ?_ ?_ ?_ t
 ·intro k l n of c
  exact h _ c
 ·intro x a; cases a
 ·intro x r a hr y b
  cases b with
  | head=>exact a
  | tail _ b=>exact hr y b
mutual
def A0.depth:A0→Nat
 | .mk _ _ _ of=>A0.depths of+1
def A0.depths:List A0→Nat
 | []=>0
 | t::r=>max (A0.depth t) (A0.depths r)
end
theorem A0.depth_eq (t:A0):t.depth=A0.depths t.Kids+1:=by cases t; simp [A0.depth,A0.Kids]
mutual
def A0.all (p:A0→Bool):A0→Bool
 | .mk k l n of=>p (.mk k l n of)&&A0.alls p of
def A0.alls (p:A0→Bool):List A0→Bool
 | []=>true
 | t::r=>A0.all p t&&A0.alls p r
end
theorem A0.all_eq (p:A0→Bool)(t:A0):t.all p=(p t&&A0.alls p t.Kids):=by cases t; rfl
mutual
def A0.nodes:A0→Nat
 | .mk _ _ _ of=>A0.nodess of+1
def A0.nodess:List A0→Nat
 | []=>0
 | t::r=>A0.nodes t+A0.nodess r
end
theorem A0.nodes_eq (t:A0):t.nodes=A0.nodess t.Kids+1:=by cases t; rfl
mutual
theorem A0.depth_nodes:∀ t:A0,t.depth≤t.nodes
 | .mk _ _ _ of=>by simp only [A0.depth,A0.nodes]; have:=A0.depths_nodess of; omega
theorem A0.depths_nodess:∀ l:List A0,A0.depths l≤A0.nodess l
 | []=>zqr _
 | t::r=>by simp only [A0.depths,A0.nodess]; have:=A0.depth_nodes t; have:=A0.depths_nodess r; omega
end
mutual
def A0.bulk:A0→Nat
 | .mk _ _ n ks=>1+(1+((n.length+1)+((A0.bulks ks+1)+0)))+1
def A0.bulks:List A0→Nat
 | []=>0
 | x::r=>A0.bulk x+A0.bulks r
end
theorem A0.bulk_eq (t:A0):t.bulk=t.Name.length+A0.bulks t.Kids+5:=by cases t; simp only [A0.bulk]; omega
theorem A0.bulk_kid {t:A0}:∀ {l:List A0},t∈l→t.bulk≤A0.bulks l
 | x::r,h=>by
  simp only [A0.bulks]
  cases h with
  | head=>omega
  | tail _ h=>have:=A0.bulk_kid h; omega
theorem A0.bulk_len:∀ l:List A0,l.length≤A0.bulks l
 | []=>zqr _
 | x::r=>by
  simp only [A0.bulks,zqd]
  have:=A0.bulk_len r
  have:=A0.bulk_eq x
  omega
mutual
theorem A0.nodes_bulk:∀ t:A0,t.nodes≤t.bulk
 | .mk _ _ _ of=>by simp only [A0.nodes,A0.bulk]; have:=A0.nodess_bulk of; omega
theorem A0.nodess_bulk:∀ l:List A0,A0.nodess l≤A0.bulks l
 | []=>zqr _
 | x::r=>by simp only [A0.nodess,A0.bulks]; have:=A0.nodes_bulk x; have:=A0.nodess_bulk r; omega
end
def OkE (t:A0):Prop:=t.bulk≤BB
theorem OkE.kid {t x:A0}(h:OkE t)(a:x∈t.Kids):OkE x:=by
 unfold OkE at *
 have:=A0.bulk_kid a
 have:=A0.bulk_eq t
 omega
theorem OkE.kids {t:A0}(h:OkE t):t.Kids.length≤BB:=by
 unfold OkE at *
 have:=A0.bulk_len t.Kids
 have:=A0.bulk_eq t
 omega
theorem OkE.name {t:A0}(h:OkE t):t.Name.length≤BB:=by
 unfold OkE at *
 have:=A0.bulk_eq t
 omega
theorem OkE.nodes {t:A0}(h:OkE t):t.nodes≤BB:=Nat.le_trans (A0.nodes_bulk t) h
theorem A0.alls_mem {p:A0→Bool}:∀ {l:List A0} {t:A0},A0.alls p l=true→t∈l→t.all p=true
 | x::r,t,h,hm=>by
  simp only [A0.alls,zqi] at h
  cases hm with
  | head=>exact h.1
  | tail _ hm=>exact A0.alls_mem h.2 hm
def ar (o:Int):Int:=
 bif (bif (bif (bif (o == 0) then true else (o == 1)) then true else (o == 2)) then true else (o == 3)) then 0
 else bif (bif (bif (o == 4) then true else (o == 6)) then true else (o == 7)) then 1
 else bif (bif (o == 5) then true else (bif (decide (o≥8)) then (decide (o≤22)) else false)) then 2
 else bif (o == 23) then 3 else -1
theorem M1x (o:Int):Jq o=some (ar o):=by
 unfold Jq ar
 cases (bif (bif (bif (o == 0) then true else (o == 1)) then true else (o == 2)) then true else (o == 3)) <;> cases (bif (bif (o == 4) then true else (o == 6)) then true else (o == 7)) <;>
  cases (bif (o == 5) then true else (bif (decide (o≥8)) then (decide (o≤22)) else false)) <;> cases o == 23 <;> rfl
theorem B1v (o:Int):Jm o=some (ar o):=by
 by_cases h:o=23
 ·subst h; rfl
 have h':(o == 23)=false:=zqn.2 h
 simp only [Jm,Cd,Kf,ar,h']
 cases o == 0 <;> cases o == 1 <;> cases o == 2 <;> cases o == 3 <;> first | rfl | skip
 cases o == 4 <;> cases o == 6 <;> cases o == 7 <;> first | rfl | skip
 cases o == 5 <;> cases (bif decide (o≥8) then decide (o≤22) else false) <;> rfl
mutual
def A0.place:A0→Bool
 | .mk op _ _ ks=>bif op == 3 then true else bif (bif op == 4 then true else op == 5) then A0.place1 ks else false
def A0.place1:List A0→Bool
 | []=>false
 | x::_=>A0.place x
end
theorem A0.place_eq (e:A0):e.place=(bif e.Op == 3 then true else bif (bif e.Op == 4 then true else e.Op == 5) then A0.place1 e.Kids else false):=by cases e; simp only [A0.place]
theorem b3 {o:Int}(h:(bif o == 4 then true else o == 5)=true):(o == 3)=false:=by
 apply zqn.2
 rintro rfl
 cases h
theorem C1h (e:A0):Aj e=some e.place:=by
 unfold Aj
 induction e using A0.ind with
 | h e a=>
 rw [Lf,A0.place_eq]
 cases hb:(bif e.Op == 4 then true else e.Op == 5) with
 | false=>cases e.Op == 3 <;> simp
 | true=>
  rw [b3 hb]
  cases hk:e.Kids with
  | nil=>rfl
  | cons k r=>
   have:=a k (by rw [hk]; simp)
   have b:idx (k::r) 0=some k:=rfl
   have h1:(((k::r).length:Int) == 0)=false:=zqn.2 (by simp only [zqd]; omega)
   simp only [h1,b,ob,this,zqk,zql,A0.place1]
   simp
theorem D1h (e:A0):Sd e=some e.place:=by
 induction e using A0.ind with
 | h e a=>
 rw [Sd,A0.place_eq]
 cases h3:e.Op == 3 with
 | true=>simp
 | false=>
  cases hb:(bif e.Op == 4 then true else e.Op == 5) with
  | false=>simp [ob]
  | true=>
   cases hk:e.Kids with
   | nil=>simp [ob,A0.place1]
   | cons k r=>
    have:=a k (by rw [hk]; simp)
    have b:idx (k::r) 0=some k:=rfl
    have h1:decide (((k::r).length:Int) > 0)=true:=zqj (by simp only [zqd]; omega)
    simp only [h1,b,ob,zqk,zql,A0.place1]
    simp [ob,this]
def ef1 (e:A0):Bool:=ar e.Op == (e.Kids.length:Int)
def ef2 (e:A0):Bool:=bif e.NV == 0 then true else e.Op == 0
def ef3 (e:A0):Bool:=bif e.Name == [] then true else bif e.Op == 3 then true else e.Op == 4
def ef4 (e:A0):Bool:=bif (bif e.Op == 4 then true else e.Op == 5) then e.place else true
def B5 (e:A0):Bool:=ef1 e&&ef2 e&&ef3 e&&ef4 e
def L6 (e:A0):Bool:=bif (bif e.Op == 3 then true else e.Op == 4) then W3 e.Name else true
def R6 (e:A0):Bool:=bif e.Op == 0 then E2 e.NV 0 1048576 else true
theorem R1n (e:A0)(d:Int)(m:0≤d)(ht:OkE e)
  (b:∀ x∈e.Kids,∀ (d:Int) (o:J0),0≤d→d+x.nodes≤4 * BB→0≤o.nodes→o.nodes+x.nodes≤4 * BB→R4 x d o=some (Eh o d x.nodes (x.depth - 1) (x.all B5) (x.all L6) (x.all R6))) :
  ∀ (r:List A0) (k:Nat) (o:J0),e.Kids.drop k=r→d+1+A0.nodess r≤4 * BB→0≤o.nodes→o.nodes+A0.nodess r≤4 * BB→d≤o.depth→
   I6 e d o k=some (Eh o d (A0.nodess r) (A0.depths r) (A0.alls B5 r) (A0.alls L6 r) (A0.alls R6 r))
 | [],k,o,h,_,_,_,q=>by
  rw [I6,(D2 h).1]
  simp only [Eh,A0.nodess,A0.depths,A0.alls,zqf,Bool.or_false]
  rw [zn (by simp),show o.nodes+((0:Nat):Int)=o.nodes by omega,show max o.depth (d+((0:Nat):Int))=o.depth by omega]
 | x::r,k,o,h,hb,l,c,q=>by
  obtain ⟨j,f,p,s,g⟩:=C3 h
  simp only [A0.nodess] at hb c
  have i:1≤x.depth:=by rw [A0.depth_eq]; omega
  have a:=ht.kids
  unfold BB at hb c a
  rw [I6,j,zp rfl,f,ob,wr (n:=d+1) (by omega) (by omega),b x g (d+1) o (by omega) (by unfold BB; omega) l (by unfold BB; omega),ob,w1 (by unfold BB; omega),
   R1n e d m ht b r (k+1) _ p (by unfold BB; omega) (by simp only [Eh]; omega) (by simp only [Eh]; unfold BB; omega) (by simp only [Eh]; omega)]
  simp only [Eh,A0.nodess,A0.depths,A0.alls,Fu]
  rw [show o.nodes+(x.nodes:Int)+(A0.nodess r:Nat)=o.nodes+((x.nodes+A0.nodess r:Nat):Int) by omega,
   show max (max o.depth (d+1+((x.depth - 1:Nat):Int))) (d+(A0.depths r:Nat))=max o.depth (d+((max x.depth (A0.depths r):Nat):Int)) by omega]
theorem C1v (e:A0)(ht:OkE e)(d:Int)(o:J0):Cc e d o=I6 e d ⟨o.nodes,o.depth,o.badForm,o.badName || !L6 e,o.badNumber || !R6 e⟩ 0:=by
 rw [Cc,R14 _ ht.name,ob]
 simp only [Mf,Nf,Ck,Yv,ob]
 unfold L6 R6
 cases (bif e.Op == 3 then true else e.Op == 4) <;> cases e.Op == 0 <;> simp
theorem D1v (e:A0):OkE e→∀ (d:Int) (o:J0),0≤d→d+e.nodes≤4 * BB→0≤o.nodes→o.nodes+e.nodes≤4 * BB→
  R4 e d o=some (Eh o d e.nodes (e.depth - 1) (e.all B5) (e.all L6) (e.all R6)):=by
 induction e using A0.ind with
 | h e k=>
 intro ht d o l hb g b
 have j:=fun o g b c=>R1n e d l ht (fun x i=>k x i (ht.kid i)) e.Kids 0 o rfl (by rw [A0.nodes_eq] at hb; omega) g b c
 rw [A0.nodes_eq] at hb b
 unfold BB at hb b
 rw [R4]
 simp only [A1c,B1c,B1v,C1h,ob,C1v e ht]
 rw [wr (n:=o.nodes+1) (by omega) (by omega)]
 rw [show ((0:Nat):Int)=0 from rfl] at j
 have a:∀ f:Bool,ef4 e=f→I6 e d ⟨o.nodes+1,max o.depth d,(((o.badForm || !ef1 e) || !ef2 e) || !ef3 e) || !f,o.badName || !L6 e,o.badNumber || !R6 e⟩ 0=some (Eh o d e.nodes (e.depth - 1) (e.all B5) (e.all L6) (e.all R6)):=by
  rintro _ rfl
  rw [j _ (by simp only; omega) (by simp only; unfold BB; omega) (by simp only; omega)]
  simp only [Eh,A0.all_eq,A0.nodes_eq,A0.depth_eq,B5,Fu,Bool.or_assoc,← Bool.not_and]
  simp only [Fu,Bool.and_assoc]
  rw [show o.nodes+1+(A0.nodess e.Kids:Int)=o.nodes+((A0.nodess e.Kids+1:Nat):Int) by omega,show max (max o.depth d) (d+(A0.depths e.Kids:Int))=max o.depth (d+((A0.depths e.Kids+1 - 1:Nat):Int)) by omega]
 cases hb:(bif e.Op == 4 then true else e.Op == 5) with
 | true=>
  rw [zp rfl]
  exact a e.place (by unfold ef4; rw [hb]; rfl)
 | false=>
  rw [zn (by simp)]
  have:=a true (by unfold ef4; rw [hb]; rfl)
  rw [zqf,Bool.or_false] at this
  exact this
theorem E1h (t:A0)(ht:OkE t)(b:∀ x∈t.Kids,Sa x=some (x.nodes:Int)) :
  ∀ (r:List A0) (k:Nat) (n:Nat),t.Kids.drop k=r→n+A0.nodess r≤BB→Lc t (n:Int) k=some ((n+A0.nodess r:Nat):Int)
 | [],k,n,h,hb=>by rw [Lc,(D2 h).1,zn (by simp)]; simp [A0.nodess]
 | x::r,k,n,h,hb=>by
  obtain ⟨e,c,f,g,d⟩:=C3 h
  have:=ht.kids
  simp only [A0.nodess] at hb
  have a:=hb
  unfold BB at a
  rw [Lc,e,zp rfl,c,ob,b x d,ob,wr (n:=(n:Int)+_) (by omega) (by omega),w1 (by omega),show (n:Int)+(x.nodes:Int)=((n+x.nodes:Nat):Int) by omega,E1h t ht b r (k+1) _ f (by omega)]
  simp only [A0.nodess,Nat.add_assoc]
theorem M1p (t:A0):OkE t→Sa t=some (t.nodes:Int):=by
 induction t using A0.ind with
 | h t b=>
 intro ht
 have hn:=ht.nodes
 rw [A0.nodes_eq] at hn
 rw [Sa]
 have:=E1h t ht (fun x a=>b x a (ht.kid a)) t.Kids 0 1 rfl (by omega)
 rw [A0.nodes_eq,Nat.add_comm]
 exact this
theorem R18 (t:A0)(ht:OkE t)(a:∀ x∈t.Kids,Ua x=some (x.depth:Int))(B:Nat)(b:B≤BB) :
  ∀ (r:List A0) (k:Nat) (n:Nat),t.Kids.drop k=r→n≤B→A0.depths r≤B→Q9 t (n:Int) k=some ((max n (A0.depths r)+1:Nat):Int)
 | [],k,n,h,hb,_=>by
  rw [Q9,(D2 h).1,zn (by simp),w1 (by omega)]
  simp [A0.depths]
 | x::r,k,n,h,hb,f=>by
  obtain ⟨g,d,c,i,e⟩:=C3 h
  have:=ht.kids
  simp only [A0.depths] at f
  rw [Q9,g,zp rfl,d,ob,a x e,ob,w1 (by omega),R18 t ht a B b r (k+1) _ c (by omega) (by omega),R18 t ht a B b r (k+1) _ c (by omega) (by omega)]
  simp only [A0.depths]
  by_cases hx:(x.depth:Int) > (n:Int)
  ·rw [zp (zqj hx),show max n (max x.depth (A0.depths r))=max x.depth (A0.depths r) by omega]
  ·rw [zn (by simpa using hx),show max n (max x.depth (A0.depths r))=max n (A0.depths r) by omega]
theorem N1p (t:A0):OkE t→Ua t=some (t.depth:Int):=by
 induction t using A0.ind with
 | h t c=>
 intro ht
 have hn:=ht.nodes
 have b:=A0.depth_nodes t
 rw [Ua]
 rw [A0.depth_eq] at b
 have:=R18 t ht (fun x a=>c x a (ht.kid a)) BB (zqr _) t.Kids 0 0 rfl (by omega) (by omega)
 rw [A0.depth_eq]
 rw [show max 0 (A0.depths t.Kids)=A0.depths t.Kids by omega] at this
 exact this
theorem Gu (n:Int)(d:Int)(m:Int):M8 ⟨n,d⟩ m=some ⟨n,max d m⟩:=by
 unfold M8
 by_cases h:m > d
 ·rw [zp (zqj h),show max d m=m by omega]
 ·rw [zn (by simpa using h),show max d m=d by omega]
theorem X1k (e:A0)(ht:OkE e)(a:∀ x∈e.Kids,N6 x=some (x.all B5)):∀ (r:List A0) (k:Nat),e.Kids.drop k=r→Od e k=some (A0.alls B5 r)
 | [],k,h=>by rw [Od,(D2 h).1,zn (by simp)]; rfl
 | x::r,k,h=>by
  obtain ⟨d,b,f,g,c⟩:=C3 h
  have:=ht.kids
  rw [Od,d,zp rfl,b,ob,a x c,ob,w1 (by omega),X1k e ht a r (k+1) f,A0.alls]
  cases x.all B5 <;> simp
theorem Fz (e:A0):OkE e→N6 e=some (e.all B5):=by
 induction e using A0.ind with
 | h e b=>
 intro ht
 have h1:=X1k e ht (fun x a=>b x a (ht.kid a)) e.Kids 0 rfl
 rw [show ((0:Nat):Int)=0 from rfl] at h1
 rw [N6,h1,A0.all_eq,D1h,M1x,ob]
 generalize A0.alls B5 e.Kids=A
 have hb:(bif (bif (ar e.Op != (e.Kids.length:Int)) then true else (bif (e.Op != 0) then (e.NV != 0) else false)) then true else (bif (bif (e.Op != 3) then (e.Op != 4) else false) then (!(e.Name == [])) else false)) = !(ef1 e&&ef2 e&&ef3 e):=by
  unfold ef1 ef2 ef3
  simp only [bne]
  cases ar e.Op == (e.Kids.length:Int) <;> cases e.NV == 0 <;> cases e.Op == 0 <;> cases e.Name == [] <;> cases e.Op == 3 <;> cases e.Op == 4 <;> rfl
 rw [hb]
 unfold B5 ef4
 cases (ef1 e&&ef2 e&&ef3 e) <;> cases (bif e.Op == 4 then true else e.Op == 5) <;> cases e.place <;> simp [ob]
theorem F1h (e:A0)(ht:OkE e)(a:∀ x∈e.Kids,Z5 x=some (x.all L6)):∀ (r:List A0) (k:Nat),e.Kids.drop k=r→Tc e k=some (A0.alls L6 r)
 | [],k,h=>by rw [Tc,(D2 h).1,zn (by simp)]; rfl
 | x::r,k,h=>by
  obtain ⟨d,b,f,g,c⟩:=C3 h
  have:=ht.kids
  rw [Tc,d,zp rfl,b,ob,a x c,ob,w1 (by omega),F1h e ht a r (k+1) f,A0.alls]
  cases x.all L6 <;> simp
theorem Zv (e:A0):OkE e→Z5 e=some (e.all L6):=by
 induction e using A0.ind with
 | h e b=>
 intro ht
 have h1:=F1h e ht (fun x a=>b x a (ht.kid a)) e.Kids 0 rfl
 rw [show ((0:Nat):Int)=0 from rfl] at h1
 rw [Z5,h1,A0.all_eq,Rm e.Name ht.name]
 generalize A0.alls L6 e.Kids=A
 unfold L6
 cases (bif e.Op == 3 then true else e.Op == 4) <;> cases W3 e.Name <;> simp [ob]
theorem W1a (e:A0)(ht:OkE e)(a:∀ x∈e.Kids,M4 x=some (x.all R6)):∀ (r:List A0) (k:Nat),e.Kids.drop k=r→Fa e k=some (A0.alls R6 r)
 | [],k,h=>by rw [Fa,(D2 h).1,zn (by simp)]; rfl
 | x::r,k,h=>by
  obtain ⟨d,b,f,g,c⟩:=C3 h
  have:=ht.kids
  rw [Fa,d,zp rfl,b,ob,a x c,ob,w1 (by omega),W1a e ht a r (k+1) f,A0.alls]
  cases x.all R6 <;> simp
theorem Oq (e:A0):OkE e→M4 e=some (e.all R6):=by
 induction e using A0.ind with
 | h e b=>
 intro ht
 have h1:=W1a e ht (fun x a=>b x a (ht.kid a)) e.Kids 0 rfl
 rw [show ((0:Nat):Int)=0 from rfl] at h1
 rw [M4,h1,A0.all_eq]
 have:R6 e = !(bif (e.Op == 0) then (bif (decide (e.NV < 0)) then true else (decide (e.NV > 1048576))) else false):=by
  unfold R6 E2
  rw [P14,Q14]
  cases e.Op == 0 <;> cases decide (e.NV≥0) <;> cases decide (e.NV≤1048576) <;> rfl
 rw [this]
 cases (bif (e.Op == 0) then (bif (decide (e.NV < 0)) then true else (decide (e.NV > 1048576))) else false) <;> simp
def S18:List Str:=[[43],[45],[42],[47],[37],[61,61],[33,61],[60],[60,61],[62],[62,61],[38,38],[124,124]]
def E3 (n:Int):Prop:=-1099511627776≤n∧n≤1099511627776
theorem Jw {n:Int}(h:E3 n):(Lib.itoa n).length≤19:=I1k (by unfold E3 at h; omega)
theorem Kw {n:Int}(h:E3 n):Tg n=some (Lib.itoa n):=by
 unfold Tg
 rw [zp (zqj (by unfold E3 at h; omega))]
theorem E1v (k:Nat)(h:k < 1099511627777):Bl [IntKind.u8.wrap (IntKind.i64.wrap (48+Int.tmod (k:Int) 10))]=[UInt8.ofNat (48+k % 10)]:=by
 have e:Int.tmod (k:Int) 10=((k % 10:Nat):Int):=by rw [Int.tmod_eq_emod_of_nonneg (by omega)]; omega
 have:k % 10 < 10:=Nat.mod_lt _ (by decide)
 rw [e,wr (by omega) (by omega),C1n (by omega) (by omega)]
 unfold Bl
 rw [List.map_cons,List.map_nil,show ((48:Int)+((k % 10:Nat):Int)).toNat=48+k % 10 by omega]
theorem I1e (k:Nat):k < 1099511627777→Jb (k:Int)=some (Lib.decDigits k):=by
 induction k using Nat.strongRecOn with
 | ind k a=>
 intro h
 rw [Jb,zn (by simp),E1v k h,Lib.decDigits]
 by_cases h10:k < 10
 ·rw [zp (zqj (by omega)),dif_pos h10,Nat.mod_eq_of_lt h10]
 ·have e:IntKind.i64.wrap (Int.tdiv (k:Int) 10)=((k / 10:Nat):Int):=by
   rw [Int.tdiv_eq_ediv_of_nonneg (by omega),wr (by omega) (by omega)]; rfl
  have hl:(Lib.decDigits (k / 10)).length≤18:=Ih 17 _ (by omega)
  rw [zn (by simp; omega),dif_neg h10,e,a (k / 10) (by omega) (by omega),ob,zp (zqj (by unfold maxLen; simp; omega))]
theorem B1s {n:Int}(h:E3 n):Jb n=some (Lib.itoa n):=by
 unfold E3 at h
 unfold Lib.itoa
 by_cases h0:n < 0
 ·have e:IntKind.i64.wrap (0 - n)=(n.natAbs:Int):=by rw [wr (by omega) (by omega)]; omega
  have hl:(Lib.decDigits n.natAbs).length≤18:=Ih 17 _ (by omega)
  rw [Jb,zp (zqj h0),e,I1e _ (by omega),ob,zp h0,zp (zqj (by unfold maxLen; omega))]
  rfl
 ·rw [zn h0]
  have:=I1e n.toNat (by omega)
  rw [show ((n.toNat:Nat):Int)=n by omega] at this
  exact this
def lv (o:Int):Int:=
 bif o == 23 then 0 else bif o == 20 then 1 else bif o == 19 then 2 else bif (bif decide (o≥13) then decide (o≤18) else false) then 3
 else bif (bif o == 8 then true else o == 9) then 4 else bif (bif (bif o == 10 then true else o == 11) then true else o == 12) then 5 else bif (bif o == 6 then true else o == 7) then 6 else 7
theorem F1v (o:Int):(o < 0∨23 < o)∨o=0∨o=1∨o=2∨o=3∨o=4∨o=5∨o=6∨o=7∨o=8∨o=9∨o=10∨o=11∨o=12∨o=13∨o=14∨o=15∨o=16∨o=17∨o=18∨o=19∨o=20∨o=21∨o=22∨o=23:=by omega
theorem far {o k:Int}(h:o < 0∨23 < o)(hk:0≤k∧k≤23):(o == k)=false:=zqn.2 (by omega)
def sign (o:Int):Str:=S18.getD (o - 8).toNat []
theorem Hu {o:Int}(h:8≤o)(h':o≤20):o=8∨o=9∨o=10∨o=11∨o=12∨o=13∨o=14∨o=15∨o=16∨o=17∨o=18∨o=19∨o=20:=by omega
def par (req:Int)(p:Int×Str):Str:=bif decide (lv p.1≥req) then p.2 else [40]++p.2++[41]
def etx (op n:Int)(nm:Str)(ks:List (Int×Str)):Str:=
 let k:=fun i=>ks.getD i (0,[])
 bif op == 0 then Lib.itoa n else bif op == 1 then [116,114,117,101] else bif op == 2 then [102,97,108,115,101] else bif op == 3 then nm
 else bif op == 4 then (k 0).2++([46]++nm) else bif op == 5 then (k 0).2++[91]++(k 1).2++[93] else bif op == 6 then [45]++par 6 (k 0) else bif op == 7 then [33]++par 6 (k 0)
 else bif op == 21 then [109,105,110,40]++(k 0).2++[44,32]++(k 1).2++[41] else bif op == 22 then [109,97,120,40]++(k 0).2++[44,32]++(k 1).2++[41]
 else bif op == 23 then par 1 (k 0)++[32,63,32]++(k 1).2++[32,58,32]++(k 2).2
 else par (bif lv op == 3 then 4 else lv op) (k 0)++([32]++sign op++[32])++par (lv op+1) (k 1)
mutual
def A0.text:A0→Str
 | .mk op n nm ks=>etx op n nm (A0.texts ks)
def A0.texts:List A0→List (Int×Str)
 | []=>[]
 | x::r=>(x.Op,A0.text x)::A0.texts r
end
theorem O1p {α:Type}{l:List α}(h:l.length=2):∃ a b,l=[a,b]:=by
 match l,h with
 | [a,b],_=>exact ⟨a,b,rfl⟩
theorem C22 {α:Type}{l:List α}(h:l.length=3):∃ a b c,l=[a,b,c]:=by
 match l,h with
 | [a,b,c],_=>exact ⟨a,b,c,rfl⟩
inductive Rl:A0→Prop
 | lit (n):Rl (.mk 0 n [] [])
 | tt:Rl (.mk 1 0 [] [])
 | ff:Rl (.mk 2 0 [] [])
 | name (nm):Rl (.mk 3 0 nm [])
 | field (nm k):Rl (.mk 4 0 nm [k])
 | index (a b):Rl (.mk 5 0 [] [a,b])
 | neg (k):Rl (.mk 6 0 [] [k])
 | not (k):Rl (.mk 7 0 [] [k])
 | bin (o a b) (h:8≤o) (h':o≤20):Rl (.mk o 0 [] [a,b])
 | min (a b):Rl (.mk 21 0 [] [a,b])
 | max (a b):Rl (.mk 22 0 [] [a,b])
 | cond (a b c):Rl (.mk 23 0 [] [a,b,c])
theorem G1v (e:A0)(h:B5 e=true):Rl e:=by
 obtain ⟨op,n,nm,ks⟩:=e
 unfold B5 at h
 simp only [zqi] at h
 obtain ⟨⟨⟨h1,h2⟩,m⟩,_⟩:=h
 have q:ar op=(ks.length:Int):=by simpa [ef1] using h1
 have d:op≠0→n=0:=fun i=>by
  have:=zqn.2 i
  simp only [ef2,this] at h2
  cases hn:n == 0 with
  | true=>simpa using hn
  | false=>rw [hn] at h2; cases h2
 have g:op≠3→op≠4→nm=[]:=fun i j=>by
  have:=zqn.2 i
  have o:=zqn.2 j
  simp only [ef3,this,o] at m
  cases hn:nm == [] with
  | true=>simpa using hn
  | false=>rw [hn] at m; cases m
 rcases F1v op with h | h
 ·have:ar op = -1:=by
   have f:=fun k hk=>far (k:=k) h hk
   have hr:(bif decide (op≥8) then decide (op≤22) else false)=false:=by
    rcases h with h | h
    ·rw [zqs (by omega)]; rfl
    ·rw [zqs (show ¬ op≤22 by omega)]; cases decide (op≥8) <;> rfl
   unfold ar
   rw [hr,f 0 (by decide),f 1 (by decide),f 2 (by decide),f 3 (by decide),f 4 (by decide),f 6 (by decide),f 7 (by decide),f 5 (by decide),f 23 (by decide)]
   rfl
  omega
 by_cases hb:8≤op∧op≤20
 ·have p:ar op=2:=by rcases Hu hb.1 hb.2 with rfl | rfl | rfl | rfl | rfl | rfl | rfl | rfl | rfl | rfl | rfl | rfl | rfl <;> rfl
  obtain ⟨a,b,rfl⟩:=O1p (l:=ks) (by omega)
  obtain rfl:=d (by omega)
  obtain rfl:=g (by omega) (by omega)
  exact .bin _ _ _ hb.1 hb.2
 have hc:op=0∨op=1∨op=2∨op=3∨op=4∨op=5∨op=6∨op=7∨op=21∨op=22∨op=23:=by omega
 rcases hc with rfl | rfl | rfl | rfl | rfl | rfl | rfl | rfl | rfl | rfl | rfl
 ·obtain rfl:=List.eq_nil_of_length_eq_zero (l:=ks) (by have:ar 0=0:=rfl; omega)
  obtain rfl:=g (by decide) (by decide)
  exact .lit n
 ·obtain rfl:=List.eq_nil_of_length_eq_zero (l:=ks) (by have:ar 1=0:=rfl; omega)
  obtain rfl:=g (by decide) (by decide)
  obtain rfl:=d (by decide)
  exact .tt
 ·obtain rfl:=List.eq_nil_of_length_eq_zero (l:=ks) (by have:ar 2=0:=rfl; omega)
  obtain rfl:=g (by decide) (by decide)
  obtain rfl:=d (by decide)
  exact .ff
 ·obtain rfl:=List.eq_nil_of_length_eq_zero (l:=ks) (by have:ar 3=0:=rfl; omega)
  obtain rfl:=d (by decide)
  exact .name nm
 ·obtain ⟨k,rfl⟩:=List.length_eq_one_iff.1 (show ks.length=1 by have:ar 4=1:=rfl; omega)
  obtain rfl:=d (by decide)
  exact .field nm k
 ·obtain ⟨a,b,rfl⟩:=O1p (l:=ks) (by have:ar 5=2:=rfl; omega)
  obtain rfl:=g (by decide) (by decide)
  obtain rfl:=d (by decide)
  exact .index a b
 ·obtain ⟨k,rfl⟩:=List.length_eq_one_iff.1 (show ks.length=1 by have:ar 6=1:=rfl; omega)
  obtain rfl:=g (by decide) (by decide)
  obtain rfl:=d (by decide)
  exact .neg k
 ·obtain ⟨k,rfl⟩:=List.length_eq_one_iff.1 (show ks.length=1 by have:ar 7=1:=rfl; omega)
  obtain rfl:=g (by decide) (by decide)
  obtain rfl:=d (by decide)
  exact .not k
 ·obtain ⟨a,b,rfl⟩:=O1p (l:=ks) (by have:ar 21=2:=rfl; omega)
  obtain rfl:=g (by decide) (by decide)
  obtain rfl:=d (by decide)
  exact .min a b
 ·obtain ⟨a,b,rfl⟩:=O1p (l:=ks) (by have:ar 22=2:=rfl; omega)
  obtain rfl:=g (by decide) (by decide)
  obtain rfl:=d (by decide)
  exact .max a b
 ·obtain ⟨a,b,c,rfl⟩:=C22 (l:=ks) (by have:ar 23=3:=rfl; omega)
  obtain rfl:=g (by decide) (by decide)
  obtain rfl:=d (by decide)
  exact .cond a b c
structure Uh (e:A0):Prop where
 form:e.all B5=true
 numb:e.all R6=true
 ok:OkE e
theorem Uh.kid {e k:A0}(h:Uh e)(hk:k∈e.Kids):Uh k:=by
 have h1:=h.form
 have h2:=h.numb
 rw [A0.all_eq,zqi] at h1 h2
 exact ⟨A0.alls_mem h1.2 hk,A0.alls_mem h2.2 hk,h.ok.kid hk⟩
theorem Uh.shape {e:A0}(h:Uh e):Rl e:=by
 have h1:=h.form
 rw [A0.all_eq,zqi] at h1
 exact G1v e h1.1
theorem Y1k {o:Int}(a b:A0)(h:8≤o)(h':o≤20):(A0.mk o 0 [] [a,b]).text=par (bif lv o == 3 then 4 else lv o) (a.Op,a.text)++([32]++sign o++[32])++par (lv o+1) (b.Op,b.text):=by
 rcases Hu h h' with rfl | rfl | rfl | rfl | rfl | rfl | rfl | rfl | rfl | rfl | rfl | rfl | rfl
 all_goals rfl
set_option maxHeartbeats 800000
def Td:Bool→List Str→List Str→Str
 | f,n::ns,t::ts=>(bif f then [] else [44,32])++(n++[58,32]++t)++Td false ns ts
 | _,_,_=>[]
def ttx (k lo hi sz:Int)(nm:Str)(ns:List Str)(ks:List Str):Str:=
 bif k == 0 then [98,111,111,108] else bif k == 1 then [105,110,116,91]++Lib.itoa lo++[46,46]++Lib.itoa hi++[93]
 else bif k == 2 then [97,114,114,97,121,32]++Lib.itoa sz++[32,111,102,32]++ks.getD 0 []
 else bif k == 3 then [114,101,99,111,114,100,32,123]++Td true ns ks++[125] else nm
mutual
def F0.text:F0→Str
 | .mk k lo hi sz nm ns ks=>ttx k lo hi sz nm ns (F0.texts ks)
def F0.texts:List F0→List Str
 | []=>[]
 | x::r=>F0.text x::F0.texts r
end
inductive Wx:F0→Prop
 | bool:Wx (.mk 0 0 0 0 [] [] [])
 | int (lo hi) (h:E3 lo) (h':E3 hi):Wx (.mk 1 lo hi 0 [] [] [])
 | array (sz k) (h:E3 sz):Wx (.mk 2 0 0 sz [] [] [k])
 | record (ns ks) (h:ns.length=ks.length) (h':1≤ks.length):Wx (.mk 3 0 0 0 [] ns ks)
 | name (nm):Wx (.mk 4 0 0 0 nm [] [])
theorem C1s (t:F0)(h:Xa t=true)(hn:Sm t=true):Wx t:=by
 obtain ⟨k,lo,hi,sz,nm,ns,ks⟩:=t
 unfold Xa at h
 unfold Sm at hn
 simp only [zqi] at h hn
 obtain ⟨⟨⟨⟨⟨h1,h2⟩,c⟩,b⟩,d⟩,a⟩:=h
 obtain ⟨e,f⟩:=hn
 have hk:k=0∨k=1∨k=2∨k=3∨k=4:=by
  unfold fm1 at h1
  simp at h1
  omega
 rcases hk with rfl | rfl | rfl | rfl | rfl
 ·simp [fm2,fm3,fm4,fm5,fm6] at h2 c b d a
  obtain ⟨rfl,rfl⟩:=h2
  subst c b d a
  exact .bool
 ·simp [fm2,fm3,fm4,fm5,fm6] at c b d a
  simp [nm2,E2] at f
  subst c b d a
  exact .int _ _ (by unfold E3; omega) (by unfold E3; omega)
 ·simp [fm2,fm3,fm4,fm5,fm6] at h2 b d a
  simp [nm1,E2] at e
  obtain ⟨rfl,rfl⟩:=h2
  obtain ⟨k,rfl⟩:=List.length_eq_one_iff.1 (show ks.length=1 by omega)
  subst b d
  exact .array _ _ (by unfold E3; omega)
 ·simp [fm2,fm3,fm4,fm5,fm6] at h2 c b a
  obtain ⟨rfl,rfl⟩:=h2
  subst c b
  exact .record _ _ (by omega) (by omega)
 ·simp [fm2,fm3,fm4,fm5,fm6] at h2 c d a
  obtain ⟨rfl,rfl⟩:=h2
  subst c d a
  exact .name _
structure L19 (t:F0):Prop where
 form:t.all Xa=true
 numb:t.all Sm=true
 ok:Ok t
theorem L19.kid {t k:F0}(h:L19 t)(hk:k∈t.Of):L19 k:=by
 have h1:=h.form
 have h2:=h.numb
 rw [F0.all_eq,zqi] at h1 h2
 exact ⟨F0.alls_mem h1.2 hk,F0.alls_mem h2.2 hk,h.ok.kid hk⟩
theorem L19.shape {t:F0}(h:L19 t):Wx t:=by
 have h1:=h.form
 have h2:=h.numb
 rw [F0.all_eq,zqi] at h1 h2
 exact C1s t h1.1 h2.1
theorem Gz (f:Bool)(n:Str)(ns:List Str)(k:F0)(ks:List F0):Td f (n::ns) (F0.texts (k::ks))=(bif f then [] else [44,32])++(n++[58,32]++k.text)++Td false ns (F0.texts ks):=rfl
theorem S14 {α:Type}{l:List α}{k:Nat}(h:k < l.length):∃ y,idx l (k:Int)=some y∧l.drop k=y::l.drop (k+1)∧y∈l:=by
 refine ⟨l[k],?_,List.drop_eq_getElem_cons h,List.getElem_mem h⟩
 unfold idx
 rw [zp (by omega)]
 simp [h]
theorem z0:(0:Int)=((0:Nat):Int):=rfl
theorem Tm {α:Type}{p:α→α→Bool}:∀ l:List α,(∀ x∈l,p x x=true)→eqL p l l=true
 | [],_=>rfl
 | x::r,h=>by rw [eqL,h x zqp,Tm r fun y a=>h y (zqq _ a)]; rfl
theorem G1h (t u:F0)(ht:Ok t)(hl:t.Of.length=u.Of.length)(a:∀ x∈t.Of,∀ y,R8 x y=some (x.same y)) :
  ∀ (r:List F0) (k:Nat),t.Of.drop k=r→L9 t u k=some (eqL F0.same r (u.Of.drop k))
 | [],k,h=>by
  rw [L9,(D2 h).1,zn (by simp),List.drop_eq_nil_of_le (by have:=(D2 h).2; omega)]; rfl
 | x::r,k,h=>by
  obtain ⟨f,b,g,i,c⟩:=C3 h
  obtain ⟨y,d,e,f3⟩:=S14 (l:=u.Of) (k:=k) (by omega)
  have:=ht.ofs
  rw [L9,f,zp rfl,b,ob,d,ob,a x c y,ob,w1 (by omega),G1h t u ht hl a r (k+1) g,e,eqL]
  cases x.same y <;> simp
theorem H1h (t u:F0)(ht:Ok t)(hl:t.Names.length=u.Names.length)(b:Bool)(hb:L9 t u 0=some b) :
  ∀ (r:List Str) (k:Nat),t.Names.drop k=r→Ec t u k=some (eqL (fun x y=>x == y) r (u.Names.drop k)&&b)
 | [],k,h=>by
  rw [Ec,(D2 h).1,zn (by simp),List.drop_eq_nil_of_le (by have:=(D2 h).2; omega),hb]; rfl
 | x::r,k,h=>by
  obtain ⟨d,a,f,g,i⟩:=C3 h
  obtain ⟨y,c,e,f3⟩:=S14 (l:=u.Names) (k:=k) (by omega)
  have:=ht.names
  rw [Ec,d,zp rfl,a,ob,c,ob,w1 (by omega),H1h t u ht hl b hb r (k+1) f,e,eqL]
  cases x == y <;> simp
theorem I1h (t:F0):Ok t→∀ u,R8 t u=some (t.same u):=by
 induction t using F0.ind with
 | h t d=>
 intro ht u
 have a:=fun x b=>d x b (ht.kid b)
 rw [R8]
 show (if T1f t u=true then _ else _)=_
 cases hd:T1f t u with
 | true=>rw [zp rfl,V1r hd]
 | false=>
  obtain ⟨h1,h2,c⟩:=Y1u hd
  have e:=G1h t u ht c a t.Of 0 rfl
  have f:=H1h t u ht h2 _ e t.Names 0 rfl
  rw [zn (by simp),z0,f,h1]
  rfl
theorem D1s (t:F0):t.same t=true:=by
 induction t using F0.ind with
 | h t a=>
 rw [F0.same_eq,Tm t.Names (fun x _=>by simp),Tm t.Of a]
 simp
theorem Z1k (s u:List Str)(hs:s.length≤BB)(hl:s.length=u.length):∀ (r:List Str) (k:Nat),s.drop k=r→L3 s u k=some (eqL (fun x y=>x == y) r (u.drop k))
 | [],k,h=>by
  rw [L3,(D2 h).1,zn (by simp),List.drop_eq_nil_of_le (by have:=(D2 h).2; omega)]; rfl
 | x::r,k,h=>by
  obtain ⟨d,a,e,g,f⟩:=C3 h
  obtain ⟨y,b,c,f3⟩:=S14 (l:=u) (k:=k) (by omega)
  rw [L3,d,zp rfl,a,ob,b,ob,w1 (by omega),Z1k s u hs hl r (k+1) e,c,eqL]
  cases x == y <;> simp
theorem E1s (s u:List Str)(hs:s.length≤BB):Z7 s u=some (eqL (fun x y=>x == y) s u):=by
 unfold Z7
 by_cases hl:s.length=u.length
 ·rw [zn (by simp; omega),z0,Z1k s u hs hl s 0 rfl]; rfl
 ·rw [zp (by simp; omega),Ij _ hl]
theorem A1l (s u:List F0)(hs:s.length≤BB)(hl:s.length=u.length)(a:∀ x∈s,∀ y,J9 x y=some (x.same y)) :
  ∀ (r:List F0) (k:Nat),s.drop k=r→A2 s u k=some (eqL F0.same r (u.drop k))
 | [],k,h=>by
  rw [A2,(D2 h).1,zn (by simp),List.drop_eq_nil_of_le (by have:=(D2 h).2; omega)]; rfl
 | x::r,k,h=>by
  obtain ⟨f,b,g,i,c⟩:=C3 h
  obtain ⟨y,d,e,f3⟩:=S14 (l:=u) (k:=k) (by omega)
  rw [A2,f,zp rfl,b,ob,d,ob,a x c y,ob,w1 (by omega),A1l s u hs hl a r (k+1) g,e,eqL]
  cases x.same y <;> simp
theorem P1p (t:F0):Ok t→∀ u,J9 t u=some (t.same u):=by
 induction t using F0.ind with
 | h t e=>
 intro ht u
 have c:=fun x d=>e x d (ht.kid d)
 have f:O3 t.Of u.Of=some (eqL F0.same t.Of u.Of):=by
  rw [O3]
  by_cases hl:t.Of.length=u.Of.length
  ·rw [zn (by simp; omega),z0,A1l t.Of u.Of ht.ofs hl c t.Of 0 rfl]; rfl
  ·rw [zp (by simp; omega),Ij _ hl]
 rw [J9,f,E1s _ _ ht.names,F0.same_eq]
 generalize eqL F0.same t.Of u.Of=a
 generalize eqL (fun x y=>x == y) t.Names u.Names=b
 cases t.Kind == u.Kind <;> cases t.Low == u.Low <;> cases t.High == u.High <;> cases t.Size == u.Size <;> cases t.Name == u.Name <;> cases b <;> cases a <;> rfl
mutual
def A0.same:A0→A0→Bool
 | .mk o n nm ks,t=>o == t.Op&&n == t.NV&&nm == t.Name&&A0.sames ks t.Kids
def A0.sames:List A0→List A0→Bool
 | [],[]=>true
 | x::r,y::s=>A0.same x y&&A0.sames r s
 | [],_::_=>false
 | _::_,[]=>false
end
theorem A0.sames_eq:∀ l m:List A0,A0.sames l m=eqL A0.same l m
 | [],[]=>rfl
 | x::r,y::s=>by simp only [A0.sames,eqL,A0.sames_eq r s]
 | [],_::_=>rfl
 | _::_,[]=>rfl
theorem A0.same_eq (t u:A0):t.same u=(t.Op == u.Op&&t.NV == u.NV&&t.Name == u.Name&&eqL A0.same t.Kids u.Kids):=by
 rw [← A0.sames_eq]
 cases t
 rfl
theorem F1s (s u:List A0)(hs:s.length≤BB)(hl:s.length=u.length)(a:∀ x∈s,∀ y,S7 x y=some (x.same y)) :
  ∀ (r:List A0) (k:Nat),s.drop k=r→B2 s u k=some (eqL A0.same r (u.drop k))
 | [],k,h=>by
  rw [B2,(D2 h).1,zn (by simp),List.drop_eq_nil_of_le (by have:=(D2 h).2; omega)]; rfl
 | x::r,k,h=>by
  obtain ⟨f,b,g,i,c⟩:=C3 h
  obtain ⟨y,d,e,f3⟩:=S14 (l:=u) (k:=k) (by omega)
  rw [B2,f,zp rfl,b,ob,d,ob,a x c y,ob,w1 (by omega),F1s s u hs hl a r (k+1) g,e,eqL]
  cases x.same y <;> simp
theorem H1v (s u:List A0)(hs:s.length≤BB)(a:∀ x∈s,∀ y,S7 x y=some (x.same y)):P3 s u=some (eqL A0.same s u):=by
 rw [P3]
 by_cases hl:s.length=u.length
 ·rw [zn (by simp; omega),z0,F1s s u hs hl a s 0 rfl]; rfl
 ·rw [zp (by simp; omega),Ij _ hl]
theorem Q1p (t:A0):OkE t→∀ u,S7 t u=some (t.same u):=by
 induction t using A0.ind with
 | h t c=>
 intro ht u
 rw [S7,H1v t.Kids u.Kids ht.kids (fun x b=>c x b (ht.kid b)),A0.same_eq]
 generalize eqL A0.same t.Kids u.Kids=a
 cases t.Op == u.Op <;> cases t.NV == u.NV <;> cases t.Name == u.Name <;> cases a <;> rfl
theorem G1s (t u:A0)(ht:OkE t)(hl:t.Kids.length=u.Kids.length)(a:∀ x∈t.Kids,∀ y,Y5 x y=some (x.same y)) :
  ∀ (r:List A0) (k:Nat),t.Kids.drop k=r→Fc t u k=some (eqL A0.same r (u.Kids.drop k))
 | [],k,h=>by
  rw [Fc,(D2 h).1,zn (by simp),List.drop_eq_nil_of_le (by have:=(D2 h).2; omega)]; rfl
 | x::r,k,h=>by
  obtain ⟨f,b,g,i,c⟩:=C3 h
  obtain ⟨y,d,e,f3⟩:=S14 (l:=u.Kids) (k:=k) (by omega)
  have:=ht.kids
  rw [Fc,f,zp rfl,b,ob,d,ob,a x c y,ob,w1 (by omega),G1s t u ht hl a r (k+1) g,e,eqL]
  cases x.same y <;> simp
theorem Pq (t:A0):OkE t→∀ u,Y5 t u=some (t.same u):=by
 induction t using A0.ind with
 | h t d=>
 intro ht u
 have a:=fun x c=>d x c (ht.kid c)
 rw [Y5,A0.same_eq]
 by_cases hl:t.Kids.length=u.Kids.length
 ·have e:=G1s t u ht hl a t.Kids 0 rfl
  have hb:(bif (bif (bif (t.Op != u.Op) then true else (t.NV != u.NV)) then true else (!(t.Name == u.Name))) then true else ((t.Kids.length:Int) != (u.Kids.length:Int))) = !(t.Op == u.Op&&t.NV == u.NV&&t.Name == u.Name):=by
   have:((t.Kids.length:Int) != (u.Kids.length:Int))=false:=by simp; omega
   rw [this]
   unfold bne
   cases t.Op == u.Op <;> cases t.NV == u.NV <;> cases t.Name == u.Name <;> rfl
  rw [hb,z0,e]
  cases (t.Op == u.Op&&t.NV == u.NV&&t.Name == u.Name) <;> simp
 ·have:((t.Kids.length:Int) != (u.Kids.length:Int))=true:=by simp; omega
  rw [this,Ij _ hl,Bool.and_false]
  generalize (bif (bif (t.Op != u.Op) then true else (t.NV != u.NV)) then true else (!(t.Name == u.Name)))=b
  cases b <;> rfl
theorem Aw (t:A0):t.same t=true:=by
 induction t using A0.ind with
 | h t a=>
 rw [A0.same_eq,Tm t.Kids a]
 simp
def Bh (e:A0):Bool:=e.same ⟨0,0,[],[]⟩
def Ps (t:F0):Bool:=t.same ⟨0,0,0,0,[],[],[]⟩
theorem Hz (e:A0)(h:OkE e):Kc e=some (Bh e):=by unfold Kc; rw [Pq e h]; rfl
theorem H1s (t:F0)(h:Ok t):Gj t=some (Ps t):=by unfold Gj; rw [I1h t h]; rfl
theorem Hd {e:A0}(h:Bh e=true):e=⟨0,0,[],[]⟩:=by
 unfold Bh at h
 rw [A0.same_eq] at h
 obtain ⟨o,n,nm,ks⟩:=e
 simp only [zqi,beq_iff_eq] at h
 obtain ⟨⟨⟨rfl,rfl⟩,rfl⟩,a⟩:=h
 cases ks with
 | nil=>rfl
 | cons x r=>cases a
theorem I1v {t:F0}(h:Ps t=true):t=⟨0,0,0,0,[],[],[]⟩:=by
 unfold Ps at h
 rw [F0.same_eq] at h
 obtain ⟨a,b,c,d,nm,ns,ks⟩:=t
 simp only [zqi,beq_iff_eq] at h
 obtain ⟨⟨⟨⟨⟨⟨rfl,rfl⟩,rfl⟩,rfl⟩,rfl⟩,e⟩,f⟩:=h
 cases ks with
 | nil=>
  cases ns with
  | nil=>rfl
  | cons x r=>cases e
 | cons x r=>cases f
mutual
def C0.bulk:C0→Nat
 | .mk y0 y1 y2 y3 y4 y5 y6 y7 y8 y9 y10=>1+(A0.bulk y1+(A0.bulk y2+((y3.length+1)+((A0.bulks y4+1)+(1+(1+(1+(((y8.map fun _=>1).sum+1)+((C0.bulks y9+1)+((C0.bulks y10+1)+(0)))))))))))+1
def C0.bulks:List C0→Nat
 | []=>0
 | x::r=>C0.bulk x+C0.bulks r
end
mutual
def B0.bulk:B0→Nat
 | .mk y0 y1 y2 y3 y4 y5 y6 y7=>1+((y1.length+1)+(F0.bulk y2+(1+(A0.bulk y4+((B0.bulks y5+1)+((B0.bulks y6+1)+((C0.bulks y7+1)+(0))))))))+1
def B0.bulks:List B0→Nat
 | []=>0
 | x::r=>B0.bulk x+B0.bulks r
end
mutual
def S0.bulk:S0→Nat
 | .mk y0 y1=>(B0.bulks y0+1)+((C0.bulks y1+1)+(0))+1
def S0.bulks:List S0→Nat
 | []=>0
 | x::r=>S0.bulk x+S0.bulks r
end
set_option maxHeartbeats 1000000
def uPl (v:Int):Bool:=bif (bif (v == 0) then true else (v == 1)) then true else (v == 2)
def uVa (v:Int):Bool:=bif (bif (bif (v == 0) then true else (v == 3)) then true else (v == 5)) then true else (v == 6)
def uNm (v:Int):Bool:=bif (bif (v == 1) then true else (v == 2)) then true else (v == 7)
def uNn (v:Int):Bool:=bif (v == 4) then true else (v == 6)
def uTh (v:Int):Bool:=bif (bif (v == 5) then true else (v == 6)) then true else (v == 7)
def okV (v:Int):Bool:=!(bif decide (v < 0) then true else decide (v > 8))
def stU (v:Int):Z2×Bool:=(⟨uPl v,uVa v,uNm v,v == 1,uNn v,v == 7,v == 8,uTh v,v == 5⟩,okV v)
theorem B1l (v:Int):Ug v=some (stU v):=by
 have h:(v < 0∨8 < v)∨v=0∨v=1∨v=2∨v=3∨v=4∨v=5∨v=6∨v=7∨v=8:=by omega
 rcases h with h | rfl | rfl | rfl | rfl | rfl | rfl | rfl | rfl | rfl
 ·have f:∀ k:Int,0≤k∧k≤8→(v == k)=false:=fun k hk=>zqn.2 (by omega)
  have hv:okV v=false:=by
   unfold okV
   rcases h with h | h
   ·rw [zqj h]; rfl
   ·rw [zqj (show v > 8 from h)]; cases decide (v < 0) <;> rfl
  unfold Ug stU uPl uVa uNm uNn uTh
  rw [hv]
  simp only [f 0 (by decide),f 1 (by decide),f 2 (by decide),f 3 (by decide),f 4 (by decide),f 5 (by decide),f 6 (by decide),f 7 (by decide),f 8 (by decide)]
  rfl
 all_goals rfl
def oN (e:A0)(u:Bool):Nat:=bif (bif !u then Bh e else false) then 0 else e.nodes
def oD (e:A0)(u:Bool):Nat:=bif (bif !u then Bh e else false) then 0 else e.depth
def oF (e:A0)(u:Bool):Bool:=bif u then e.all B5 else Bh e
theorem R1p (e:A0)(u:Bool):oN e u≤e.bulk:=by
 unfold oN
 have:=A0.nodes_bulk e
 cases (bif !u then Bh e else false) <;> simp <;> omega
def Vh:Int→List Int→Bool
 | _,[]=>true
 | l,n::r=>(bif E2 n 0 1048576 then decide (n > l) else false)&&Vh n r
def Bg (s:C0):Bool:=
 bif s.Verb == 4 then E2 s.NV 0 1048576 else bif s.Verb == 6 then E2 s.NV 0 4096
 else bif s.Verb == 7 then (bif (bif E2 s.Low (-1048576) 1048576 then E2 s.High s.Low 1048576 else false) then decide (s.High - s.Low < 4096) else false)
 else bif s.Verb == 8 then E2 (s.Numbers.length:Int) 1 32&&Vh (-1) s.Numbers else true
def G7 (s:C0):Bool:=
 okV s.Verb&&oF s.Place (uPl s.Verb)&&(bif uPl s.Verb then s.Place.place else true)&&oF s.Value (uVa s.Verb)&&(bif uNm s.Verb then true else s.Name == [])&&(bif s.Verb == 1 then true else ((s.Args.length:Int) == 0))&&A0.alls B5 s.Args
 && (bif uNn s.Verb then true else s.NV == 0)&&(bif s.Verb == 7 then true else (bif s.Low == 0 then s.High == 0 else false))&&(bif s.Verb == 8 then true else ((s.Numbers.length:Int) == 0))
 && (bif uTh s.Verb then true else ((s.Then.length:Int) == 0))&&(bif s.Verb == 5 then true else ((s.Else.length:Int) == 0))
def Ga (s:C0):Bool:=s.Place.all L6&&s.Value.all L6&&(bif uNm s.Verb then W3 s.Name else true)&&A0.alls L6 s.Args
def D9 (s:C0):Bool:=s.Place.all R6&&s.Value.all R6&&A0.alls R6 s.Args&&Bg s
mutual
def C0.nds:C0→Nat
 | .mk v pl va nm ar n lo hi ns th el=>1+(oN pl (uPl v)+(oN va (uVa v)+(A0.nodess ar+(C0.ndss th+C0.ndss el))))
def C0.ndss:List C0→Nat
 | []=>0
 | x::r=>C0.nds x+C0.ndss r
end
mutual
def C0.dps:C0→Nat→Nat
 | .mk v pl va nm ar n lo hi ns th el,d=>max d (max (oD pl (uPl v)) (max (oD va (uVa v)) (max (A0.depths ar) (max (C0.dpss th (d+1)) (C0.dpss el (d+1))))))
def C0.dpss:List C0→Nat→Nat
 | [],_=>0
 | x::r,d=>max (C0.dps x d) (C0.dpss r d)
end
mutual
def C0.all (p:C0→Bool):C0→Bool
 | .mk v pl va nm ar n lo hi ns th el=>p (.mk v pl va nm ar n lo hi ns th el)&&(C0.alls p th&&C0.alls p el)
def C0.alls (p:C0→Bool):List C0→Bool
 | []=>true
 | x::r=>C0.all p x&&C0.alls p r
end
theorem C0.nds_eq (s:C0):s.nds=1+(oN s.Place (uPl s.Verb)+(oN s.Value (uVa s.Verb)+(A0.nodess s.Args+(C0.ndss s.Then+C0.ndss s.Else)))):=by cases s; simp only [C0.nds]
theorem C0.dps_eq (s:C0)(d:Nat):s.dps d=max d (max (oD s.Place (uPl s.Verb)) (max (oD s.Value (uVa s.Verb)) (max (A0.depths s.Args) (max (C0.dpss s.Then (d+1)) (C0.dpss s.Else (d+1)))))):=by cases s; simp only [C0.dps]
theorem C0.all_eq (p:C0→Bool)(s:C0):s.all p=(p s&&(C0.alls p s.Then&&C0.alls p s.Else)):=by cases s; simp only [C0.all]
theorem C0.ind {P:C0→Prop}(h:∀ s:C0,(∀ x∈s.Then,P x)→(∀ x∈s.Else,P x)→P s):∀ s,P s:=by
 intro s
 refine C0.rec (motive_1:=P) (motive_2:=fun l=>∀ x∈l,P x) ?_ ?_ ?_ s
 ·intro v pl va nm ar n lo hi ns th el d c
  exact h _ d c
 ·intro x b; cases b
 ·intro x r b hr y a
  cases a with
  | head=>exact b
  | tail _ a=>exact hr y a
theorem C0.inds {Q:List C0→Prop}(h:∀ l:List C0,(∀ x∈l,Q x.Then∧Q x.Else)→Q l):∀ l,Q l:=by
 have key:∀ s:C0,Q s.Then∧Q s.Else:=fun s=>by
  induction s using C0.ind with
  | h s a b=>exact ⟨h _ a,h _ b⟩
 exact fun l=>h l fun x _=>key x
theorem C0.bulk_eq (s:C0):s.bulk=s.Place.bulk+s.Value.bulk+s.Name.length+A0.bulks s.Args+(s.Numbers.map fun _=>1).sum+C0.bulks s.Then+C0.bulks s.Else+10:=by
 cases s; simp only [C0.bulk]; omega
theorem C1l:∀ l:List Int,(l.map fun _=>1).sum=l.length
 | []=>rfl
 | x::r=>by simp only [List.map_cons,List.sum_cons,zqd,C1l r]; omega
theorem C0.bulk_mem {s:C0}:∀ {l:List C0},s∈l→s.bulk≤C0.bulks l
 | x::r,h=>by
  simp only [C0.bulks]
  cases h with
  | head=>omega
  | tail _ h=>have:=C0.bulk_mem h; omega
theorem C0.bulk_len:∀ l:List C0,l.length≤C0.bulks l
 | []=>zqr _
 | x::r=>by
  simp only [C0.bulks,zqd]
  have:=C0.bulk_len r
  have:=C0.bulk_eq x
  omega
mutual
theorem C0.nds_bulk:∀ s:C0,s.nds≤s.bulk
 | .mk v pl va nm ar n lo hi ns th el=>by
  have:=R1p pl (uPl v)
  have:=R1p va (uVa v)
  have:=A0.nodess_bulk ar
  have:=C0.ndss_bulk th
  have:=C0.ndss_bulk el
  simp only [C0.nds,C0.bulk]; omega
theorem C0.ndss_bulk:∀ l:List C0,C0.ndss l≤C0.bulks l
 | []=>zqr _
 | x::r=>by
  have:=C0.nds_bulk x
  have:=C0.ndss_bulk r
  simp only [C0.ndss,C0.bulks]; omega
end
def OkS (l:List C0):Prop:=C0.bulks l≤BB
structure L10 (s:C0):Prop where
 place:OkE s.Place
 value:OkE s.Value
 name:s.Name.length≤BB
 args:s.Args.length≤BB
 arg:∀ a∈s.Args,OkE a
 nums:s.Numbers.length≤BB
 thens:OkS s.Then
 elses:OkS s.Else
theorem OkS.mem {l:List C0}(h:OkS l){s:C0}(hs:s∈l):L10 s:=by
 unfold OkS at h
 have h1:=C0.bulk_mem hs
 have h2:=C0.bulk_eq s
 have b:=C1l s.Numbers
 have c:=A0.bulk_len s.Args
 refine ⟨?_,?_,?_,?_,fun a ha=>?_,?_,?_,?_⟩ <;> first | (unfold OkE; omega) | (unfold OkS; omega) | omega | skip
 have:=A0.bulk_kid ha
 unfold OkE; omega
theorem OkS.len {l:List C0}(h:OkS l):l.length≤BB:=Nat.le_trans (C0.bulk_len l) h
def J5 (o:J0)(n m:Nat)(f a u:Bool):J0:=⟨o.nodes+n,max o.depth m,o.badForm || !f,o.badName || !a,o.badNumber || !u⟩
theorem C5 (o:J0)(n m n' b:Nat)(f a u d e c:Bool):J5 (J5 o n m f a u) n' b d e c=J5 o (n+n') (max m b) (f&&d) (a&&e) (u&&c):=by
 simp only [J5,Fu]
 rw [show o.nodes+(n:Int)+(n':Int)=o.nodes+((n+n':Nat):Int) by omega,show max (max o.depth (m:Int)) (b:Int)=max o.depth ((max m b:Nat):Int) by omega]
theorem Um (o:J0)(h:0≤o.depth):J5 o 0 0 true true true=o:=by
 simp only [J5,zqf,Bool.or_false]
 rw [show o.nodes+((0:Nat):Int)=o.nodes by omega,show max o.depth ((0:Nat):Int)=o.depth by omega]
theorem J1e (o:J0)(n m:Nat)(f a u:Bool):(J5 o n m f a u).nodes=o.nodes+n:=rfl
theorem Qq (o:J0)(n m:Nat)(f a u:Bool):(J5 o n m f a u).depth=max o.depth m:=rfl
theorem T9 (o:J0)(h:0≤o.depth)(b:Bool):F1 b o=some (J5 o 0 0 b true true):=by
 rw [B1c]
 simp only [J5,zqf,Bool.or_false]
 rw [show o.nodes+((0:Nat):Int)=o.nodes by omega,show max o.depth ((0:Nat):Int)=o.depth by omega]
theorem Jg (o:J0)(h:0≤o.depth)(b:Bool):S2 b o=some (J5 o 0 0 true true b):=by
 rw [Yv]
 simp only [J5,zqf,Bool.or_false]
 rw [show o.nodes+((0:Nat):Int)=o.nodes by omega,show max o.depth ((0:Nat):Int)=o.depth by omega]
theorem J1h (o:J0)(h:0≤o.depth)(s:Str)(hs:s.length≤BB):V5 s o=some (J5 o 0 0 true (W3 s) true):=by
 rw [R14 s hs]
 simp only [J5,zqf,Bool.or_false]
 rw [show o.nodes+((0:Nat):Int)=o.nodes by omega,show max o.depth ((0:Nat):Int)=o.depth by omega]
structure E6 (o:J0)(n:Nat):Prop where
 dep:0≤o.depth
 low:0≤o.nodes
 high:o.nodes+n≤3 * BB
theorem E6.x {o:J0}{n k m:Nat}{f a u:Bool}(h:E6 o (k+n)):E6 (J5 o k m f a u) n:=by
 obtain ⟨h1,h2,b⟩:=h
 refine ⟨?_,?_,?_⟩
 ·rw [Qq]; omega
 ·rw [J1e]; omega
 ·rw [J1e]; omega
theorem E6.less {o:J0}{n k:Nat}(h:E6 o n)(hk:k≤n):E6 o k:=⟨h.dep,h.low,by have:=h.high; omega⟩
theorem E6.x0 {o:J0}{n m:Nat}{f a u:Bool}(h:E6 o n):E6 (J5 o 0 m f a u) n:=E6.x (by rw [Nat.zero_add]; exact h)
theorem T18 (e:A0)(h:OkE e)(o:J0)(hr:E6 o e.nodes):R4 e 1 o=some (J5 o e.nodes e.depth (e.all B5) (e.all L6) (e.all R6)):=by
 have hn:=h.nodes
 have hp:1≤e.depth:=by rw [A0.depth_eq]; omega
 have a:=hr.high
 unfold BB at hn a
 rw [D1v e h 1 o (by omega) (by unfold BB; omega) hr.low (by unfold BB; omega)]
 simp only [Eh,J5]
 rw [show (1:Int)+((e.depth - 1:Nat):Int)=e.depth by omega]
theorem D1l (t:F0)(h:Ok t)(o:J0)(hr:E6 o t.nodes):Y6 t 1 o=some (J5 o t.nodes t.depth (t.all Xa) (t.all Li) (t.all Sm)):=by
 have hn:=h.nodes
 have hp:1≤t.depth:=by rw [F0.depth_eq]; omega
 have a:=hr.high
 unfold BB at hn a
 rw [H1z t h 1 o (by omega) (by unfold BB; omega) hr.low (by unfold BB; omega)]
 simp only [Eh,J5]
 rw [show (1:Int)+((t.depth - 1:Nat):Int)=t.depth by omega]
theorem E1l:(A0.mk 0 0 [] []).all B5=true∧(A0.mk 0 0 [] []).all L6=true∧(A0.mk 0 0 [] []).all R6=true:=⟨rfl,rfl,rfl⟩
theorem D1c (e:A0)(u:Bool)(h:OkE e)(o:J0)(hr:E6 o (oN e u)):N4 e u o=some (J5 o (oN e u) (oD e u) (oF e u) (e.all L6) (e.all R6)):=by
 unfold N4
 rw [Q1p e h]
 show ((if (!u)=true then some (Bh e) else some default)>>=_)=_
 unfold oN oD oF at *
 cases u with
 | true=>
  simp only [zqf,zql,zqk] at *
  rw [zn (by simp),ob,zn (by simp),T9 o hr.dep,ob,T18 e h _ hr.x0,ob,C5]
  simp
 | false=>
  simp only [zqg,zql,zqk] at *
  rw [zp trivial,ob]
  cases hz:Bh e with
  | true=>
   rw [zp rfl,Hd hz,E1l.2.1,E1l.2.2]
   exact congrArg some (Um o hr.dep).symm
  | false=>
   rw [hz] at hr
   rw [zn (by simp),T9 o hr.dep,ob,T18 e h _ hr.x0,ob,C5]
   simp
theorem I1s (o:J0)(h:0≤o.nodes)(h':o.nodes+1≤3 * BB)(d:Nat):K9 (d:Int) ⟨IntKind.i64.wrap (o.nodes+1),o.depth,o.badForm,o.badName,o.badNumber⟩=some (J5 o 1 d true true true):=by
 unfold BB at h'
 rw [A1c,wr (by omega) (by omega)]
 simp only [J5,zqf,Bool.or_false]
 rfl
theorem K1h (s:C0)(hs:L10 s)(K:J0→Option J0)(F:J0→Int→Option J0)
  (a:∀ (o:J0) (k:Int),F o k=if decide (k < (s.Args.length:Int))=true then idx s.Args k>>=fun x=>R4 x 1 o>>=fun y=>F y (IntKind.i64.wrap (k+1)) else K o) :
  ∀ (r:List A0) (k:Nat) (o:J0),s.Args.drop k=r→E6 o (A0.nodess r)→F o (k:Int)=K (J5 o (A0.nodess r) (A0.depths r) (A0.alls B5 r) (A0.alls L6 r) (A0.alls R6 r))
 | [],k,o,h,hr=>by
  rw [a,(D2 h).1,zn (by simp)]
  simp only [A0.nodess,A0.depths,A0.alls]
  rw [Um o hr.dep]
 | x::r,k,o,h,hr=>by
  obtain ⟨d,b,e,f,c⟩:=C3 h
  have:=hs.args
  simp only [A0.nodess] at hr
  rw [a,d,zp rfl,b,ob,T18 x (hs.arg x c) o (hr.less (by omega)),ob,w1 (by omega),K1h s hs K F a r (k+1) _ e hr.x,C5]
  rfl
theorem S1n (s:C0)(hs:L10 s):∀ (r:List Int) (k:Nat) (a:Int) (o:J0),s.Numbers.drop k=r→0≤o.depth→S4 s o a k=some (J5 o 0 0 true true (Vh a r))
 | [],k,a,o,h,b=>by rw [S4,(D2 h).1,zn (by simp)]; exact congrArg some (Um o b).symm
 | x::r,k,a,o,h,b=>by
  obtain ⟨d,c,e,g,f⟩:=C3 h
  have:=hs.nums
  rw [S4,d,zp rfl,c,ob,Ck,ob,Jg _ b,ob,w1 (by omega),S1n s hs r (k+1) x _ e (by rw [Qq]; omega),C5]
  rfl
theorem J1s (s:C0)(hs:L10 s)(o:J0)(a:0≤o.depth):Z8 s o=some (J5 o 0 0 true true (Bg s)):=by
 unfold Z8 Bg
 simp only [Ck]
 cases s.Verb == 4 with
 | true=>rw [zp rfl,ob,Jg _ a,ob]; rfl
 | false=>
  rw [zn (by simp)]
  cases s.Verb == 6 with
  | true=>rw [zp rfl,ob,Jg _ a,ob]; rfl
  | false=>
   rw [zn (by simp)]
   cases s.Verb == 7 with
   | true=>
    rw [zp rfl,ob]
    cases hl:E2 s.Low (-1048576) 1048576 with
    | false=>rw [zn (by simp),ob,Jg _ a,ob]; rfl
    | true=>
     rw [zp rfl,ob]
     cases hh:E2 s.High s.Low 1048576 with
     | false=>rw [Jg _ a,ob]; rfl
     | true=>
      have:IntKind.i64.wrap (s.High - s.Low)=s.High - s.Low:=by
       simp [E2] at hl hh
       exact wr (by omega) (by omega)
      rw [this,Jg _ a,ob]; rfl
   | false=>
    rw [zn (by simp)]
    cases s.Verb == 8 with
    | true=>
     rw [zp rfl,ob,Jg _ a,ob,show (0:Int)=((0:Nat):Int) from rfl,S1n s hs s.Numbers 0 (-1) _ rfl (by rw [Qq]; omega),C5]
     simp
    | false=>exact congrArg some (Um o a).symm
theorem L1h (l:List C0):OkS l→∀ (d:Nat) (o:J0),d+C0.bulks l≤3 * BB→E6 o (C0.ndss l)→
  C4 l d o=some (J5 o (C0.ndss l) (C0.dpss l d) (C0.alls G7 l) (C0.alls Ga l) (C0.alls D9 l)):=by
 induction l using C0.inds with
 | h l S=>
 intro hl d o W hr
 have j:∀ (r:List C0) (k:Nat) (o:J0),l.drop k=r→E6 o (C0.ndss r)→T6 l d o k=some (J5 o (C0.ndss r) (C0.dpss r d) (C0.alls G7 r) (C0.alls Ga r) (C0.alls D9 r)):=by
  intro r
  induction r with
  | nil=>
   intro k o h hr
   rw [T6,(D2 h).1,zn (by simp)]
   exact congrArg some (Um o hr.dep).symm
  | cons s r G=>
   intro k o h hr
   obtain ⟨U,N,X,Y,z⟩:=C3 h
   have hs:=hl.mem z
   have K:=hl.len
   obtain ⟨V,R⟩:=S s z
   have Q:=C0.bulk_mem z
   have T:=C0.bulk_eq s
   simp only [C0.ndss,C0.nds_eq] at hr
   have D:=hr.high
   unfold BB at D W
   have w:IntKind.i64.wrap ((d:Int)+1)=((d+1:Nat):Int):=by rw [wr (by omega) (by omega)]; rfl
   have i:∀ o:J0,E6 o (C0.ndss s.Then+C0.ndss s.Else+C0.ndss r)→
     (F1 (bif (stU s.Verb).1.n then true else (s.NV == 0)) o>>=fun F=>
      F1 (bif (stU s.Verb).1.bounds then true else (bif (s.Low == 0) then (s.High == 0) else false)) F>>=fun H=>
      F1 (bif (stU s.Verb).1.numbers then true else (((s.Numbers).length:Int) == 0)) H>>=fun v=>
      F1 (bif (stU s.Verb).1.thenV then true else (((s.Then).length:Int) == 0)) v>>=fun B=>
      F1 (bif (stU s.Verb).1.other then true else (((s.Else).length:Int) == 0)) B>>=fun y=>
      Z8 s y>>=fun E=>
      C4 s.Then (IntKind.i64.wrap ((d:Int)+1)) E>>=fun A=>
      C4 s.Else (IntKind.i64.wrap ((d:Int)+1)) A>>=fun C=>
      T6 l d C (IntKind.i64.wrap ((k:Int)+1)))
     = some (J5 o (C0.ndss s.Then+C0.ndss s.Else+C0.ndss r) (max (C0.dpss s.Then (d+1)) (max (C0.dpss s.Else (d+1)) (C0.dpss r d)))
       ((bif uNn s.Verb then true else s.NV == 0)&&(bif s.Verb == 7 then true else (bif s.Low == 0 then s.High == 0 else false))&&(bif s.Verb == 8 then true else ((s.Numbers.length:Int) == 0))
         && (bif uTh s.Verb then true else ((s.Then.length:Int) == 0))&&(bif s.Verb == 5 then true else ((s.Else.length:Int) == 0))&&C0.alls G7 s.Then&&C0.alls G7 s.Else&&C0.alls G7 r)
       (C0.alls Ga s.Then&&C0.alls Ga s.Else&&C0.alls Ga r) (Bg s&&C0.alls D9 s.Then&&C0.alls D9 s.Else&&C0.alls D9 r)):=by
    intro o hr
    have p:=hr.x0 (m:=0) (f:=bif (stU s.Verb).1.n then true else (s.NV == 0)) (a:=true) (u:=true)
    have J:=p.x0 (m:=0) (f:=bif (stU s.Verb).1.bounds then true else (bif (s.Low == 0) then (s.High == 0) else false)) (a:=true) (u:=true)
    have I:=J.x0 (m:=0) (f:=bif (stU s.Verb).1.numbers then true else (((s.Numbers).length:Int) == 0)) (a:=true) (u:=true)
    have L:=I.x0 (m:=0) (f:=bif (stU s.Verb).1.thenV then true else (((s.Then).length:Int) == 0)) (a:=true) (u:=true)
    have M:=L.x0 (m:=0) (f:=bif (stU s.Verb).1.other then true else (((s.Else).length:Int) == 0)) (a:=true) (u:=true)
    have q:=M.x0 (m:=0) (f:=true) (a:=true) (u:=Bg s)
    rw [T9 o hr.dep,ob,T9 _ p.dep,ob,T9 _ J.dep,ob,T9 _ I.dep,ob,T9 _ L.dep,ob,J1s s hs _ M.dep,ob,w,
     V hs.thens (d+1) _ (by unfold BB; omega) (q.less (by omega)),ob,R hs.elses (d+1) _ (by unfold BB; omega) (E6.x (q.less (by omega))),ob,w1 (by omega),G (k+1) _ X (E6.x (E6.x (q.less (by omega))))]
    simp only [C5,stU,Bool.true_and,Bool.and_true,Bool.and_assoc,Nat.zero_add,Nat.add_assoc,Nat.zero_max]
    simp only [← Nat.max_assoc]
   have args:=K1h s hs _ (fun o k'=>Gb l d o s (stU s.Verb) k k') (fun o k'=>Gb.eq_1 l d o s (stU s.Verb) k k') s.Args 0
   rw [show ((0:Nat):Int)=0 from rfl] at args
   have O:∀ o:J0,E6 o (A0.nodess s.Args+(C0.ndss s.Then+C0.ndss s.Else+C0.ndss r))→F8 l d o s (stU s.Verb) k
     = some (J5 o (A0.nodess s.Args+(C0.ndss s.Then+C0.ndss s.Else+C0.ndss r)) (max (A0.depths s.Args) (max (C0.dpss s.Then (d+1)) (max (C0.dpss s.Else (d+1)) (C0.dpss r d))))
       ((bif s.Verb == 1 then true else ((s.Args.length:Int) == 0))&&(A0.alls B5 s.Args&&((bif uNn s.Verb then true else s.NV == 0)&&(bif s.Verb == 7 then true else (bif s.Low == 0 then s.High == 0 else false))&&(bif s.Verb == 8 then true else ((s.Numbers.length:Int) == 0))
         && (bif uTh s.Verb then true else ((s.Then.length:Int) == 0))&&(bif s.Verb == 5 then true else ((s.Else.length:Int) == 0))&&C0.alls G7 s.Then&&C0.alls G7 s.Else&&C0.alls G7 r)))
       (A0.alls L6 s.Args&&(C0.alls Ga s.Then&&C0.alls Ga s.Else&&C0.alls Ga r)) (A0.alls R6 s.Args&&(Bg s&&C0.alls D9 s.Then&&C0.alls D9 s.Else&&C0.alls D9 r))):=by
    intro o hr
    rw [F8,T9 o hr.dep,ob,args _ rfl (hr.x0.less (by omega)),i _ (E6.x hr.x0)]
    simp only [C5,stU,Bool.true_and,Bool.and_assoc,Nat.zero_add,Nat.zero_max]
   have P:∀ o:J0,E6 o (oN s.Value (uVa s.Verb)+(A0.nodess s.Args+(C0.ndss s.Then+C0.ndss s.Else+C0.ndss r)))→E8 l d o s (stU s.Verb) k
     = (F8 l d (J5 o (oN s.Value (uVa s.Verb)) (oD s.Value (uVa s.Verb)) (oF s.Value (uVa s.Verb)&&(bif uNm s.Verb then true else s.Name == [])) (s.Value.all L6&&(bif uNm s.Verb then W3 s.Name else true)) (s.Value.all R6)) s (stU s.Verb) k):=by
    intro o hr
    have p:E6 (J5 o (oN s.Value (uVa s.Verb)) (oD s.Value (uVa s.Verb)) (oF s.Value (uVa s.Verb)) (s.Value.all L6) (s.Value.all R6)) 0:=E6.x (hr.less (by omega))
    rw [E8]
    show (N4 s.Value (uVa s.Verb) o>>=_)=_
    rw [D1c s.Value (uVa s.Verb) hs.value o (hr.less (by omega)),ob,T9 _ p.dep,ob,J1h _ (p.x0).dep s.Name hs.name]
    simp only [C5,stU]
    cases uNm s.Verb with
    | true=>rw [zp rfl,ob]; simp
    | false=>rw [zn (by simp)]; simp
   rw [T6,U,zp rfl,N,ob,I1s o hr.low (by unfold BB; omega) d,ob,B1l,ob,T9 _ (show 0≤(J5 o 1 d true true true).depth by rw [Qq]; have:=hr.dep; omega),ob,C5]
   have t:E6 (J5 o (1+0) (max d 0) (true&&(stU s.Verb).2) (true&&true) (true&&true)) (oN s.Place (uPl s.Verb)+(oN s.Value (uVa s.Verb)+(A0.nodess s.Args+(C0.ndss s.Then+C0.ndss s.Else+C0.ndss r)))):=E6.x (hr.less (by omega))
   have g:=D1c s.Place (uPl s.Verb) hs.place _ (t.less (k:=oN s.Place (uPl s.Verb)) (by omega))
   show (N4 s.Place (uPl s.Verb) _>>=_)=_
   rw [g,ob,C1h,C5]
   have c:∀ f,E6 (J5 o (1+0+oN s.Place (uPl s.Verb)) (max (max d 0) (oD s.Place (uPl s.Verb))) f (true&&true&&s.Place.all L6) (true&&true&&s.Place.all R6)) (oN s.Value (uVa s.Verb)+(A0.nodess s.Args+(C0.ndss s.Then+C0.ndss s.Else+C0.ndss r))):=fun f=>E6.x (hr.less (by omega))
   have e:∀ b:Bool,(bif uPl s.Verb then s.Place.place else true)=b→
     E8 l d (J5 o (1+0+oN s.Place (uPl s.Verb)) (max (max d 0) (oD s.Place (uPl s.Verb))) (true&&(stU s.Verb).2&&oF s.Place (uPl s.Verb)&&b) (true&&true&&s.Place.all L6) (true&&true&&s.Place.all R6)) s (stU s.Verb) k
      = some (J5 o (C0.ndss (s::r)) (C0.dpss (s::r) d) (C0.alls G7 (s::r)) (C0.alls Ga (s::r)) (C0.alls D9 (s::r))):=by
    rintro _ rfl
    rw [P _ (c _),O _ (E6.x (c _)),C5,C5]
    simp only [C0.ndss,C0.dpss,C0.alls,C0.nds_eq,C0.dps_eq,C0.all_eq,G7,Ga,D9,stU,Bool.true_and,Bool.and_assoc,Nat.add_assoc,Nat.max_assoc,Nat.zero_add]
    congr 1
   cases hu:uPl s.Verb with
   | true=>
    rw [hu] at e c
    rw [zp (show (stU s.Verb).1.place=true from hu),ob,T9 _ (c _).dep,ob,C5]
    have:=e s.Place.place rfl
    simpa using this
   | false=>
    rw [hu] at e
    rw [zn (by rw [show (stU s.Verb).1.place=false from hu]; simp)]
    have:=e true rfl
    rw [Bool.and_true] at this
    exact this
 rw [C4]
 exact j l 0 o rfl hr
def isK (k:Int):Bool:=bif decide (k≥0) then decide (k≤6) else false
def uV2 (k:Int):Bool:=bif k == 5 then true else k == 6
def tN (t:F0)(u:Bool):Nat:=bif (bif !u then Ps t else false) then 0 else t.nodes
def tD (t:F0)(u:Bool):Nat:=bif (bif !u then Ps t else false) then 0 else t.depth
theorem R20 (t:F0)(u:Bool):tN t u≤t.bulk:=by
 unfold tN
 have:=F0.nodes_bulk t
 cases (bif !u then Ps t else false) <;> simp <;> omega
def pOk (x:B0):Bool:=bif x.Kind == 4 then x.Init == 0 else false
def vOk (x:B0):Bool:=x.Kind == 4
def Bo (d:B0):Bool:=bif E2 d.Init (-1048576) 1048576 then (bif d.TypeV.Kind != 0 then true else E2 d.Init 0 1) else false
def Hn (d:B0):Bool:=bif (bif ((d.Params.length:Int) == 0) then ((d.Vars.length:Int) == 0) else false) then ((d.Body.length:Int) == 0) else false
def Z6 (d:B0):Bool:=
 isK d.Kind&&d.TypeV.all Xa&&oF d.Value (uV2 d.Kind)&&(bif d.Kind == 4 then true else d.Init == 0)&&(bif d.Kind == 6 then true else Hn d)&&d.Params.all pOk&&d.Vars.all vOk&&C0.alls G7 d.Body
def Pb (d:B0):Bool:=d.TypeV.all Li&&W3 d.Name&&d.Value.all L6&&C0.alls Ga d.Body
def Uf (d:B0):Bool:=d.TypeV.all Sm&&d.Value.all R6&&Bo d&&C0.alls D9 d.Body
mutual
def B0.nds:B0→Nat
 | .mk k nm t i v ps vs bd=>1+(tN t (isK k)+(oN v (uV2 k)+(B0.ndss ps+(B0.ndss vs+C0.ndss bd))))
def B0.ndss:List B0→Nat
 | []=>0
 | x::r=>B0.nds x+B0.ndss r
end
mutual
def B0.dps:B0→Nat
 | .mk k nm t i v ps vs bd=>max (tD t (isK k)) (max (oD v (uV2 k)) (max (B0.dpss ps) (max (B0.dpss vs) (C0.dpss bd 1))))
def B0.dpss:List B0→Nat
 | []=>0
 | x::r=>max (B0.dps x) (B0.dpss r)
end
mutual
def B0.all (p:B0→Bool):B0→Bool
 | .mk k nm t i v ps vs bd=>p (.mk k nm t i v ps vs bd)&&(B0.alls p ps&&B0.alls p vs)
def B0.alls (p:B0→Bool):List B0→Bool
 | []=>true
 | x::r=>B0.all p x&&B0.alls p r
end
theorem B0.nds_eq (d:B0):d.nds=1+(tN d.TypeV (isK d.Kind)+(oN d.Value (uV2 d.Kind)+(B0.ndss d.Params+(B0.ndss d.Vars+C0.ndss d.Body)))):=by cases d; simp only [B0.nds]
theorem B0.dps_eq (d:B0):d.dps=max (tD d.TypeV (isK d.Kind)) (max (oD d.Value (uV2 d.Kind)) (max (B0.dpss d.Params) (max (B0.dpss d.Vars) (C0.dpss d.Body 1)))):=by cases d; simp only [B0.dps]
theorem B0.all_eq (p:B0→Bool)(d:B0):d.all p=(p d&&(B0.alls p d.Params&&B0.alls p d.Vars)):=by cases d; simp only [B0.all]
theorem B0.ind {P:B0→Prop}(h:∀ d:B0,(∀ x∈d.Params,P x)→(∀ x∈d.Vars,P x)→P d):∀ d,P d:=by
 intro d
 refine B0.rec (motive_1:=P) (motive_2:=fun l=>∀ x∈l,P x) ?_ ?_ ?_ d
 ·intro k nm t i v ps vs bd e c
  exact h _ e c
 ·intro x b; cases b
 ·intro x r b hr y a
  cases a with
  | head=>exact b
  | tail _ a=>exact hr y a
theorem B0.inds {Q:List B0→Prop}(h:∀ l:List B0,(∀ x∈l,Q x.Params∧Q x.Vars)→Q l):∀ l,Q l:=by
 have key:∀ s:B0,Q s.Params∧Q s.Vars:=fun s=>by
  induction s using B0.ind with
  | h s a b=>exact ⟨h _ a,h _ b⟩
 exact fun l=>h l fun x _=>key x
theorem B0.bulk_eq (d:B0):d.bulk=d.Name.length+d.TypeV.bulk+d.Value.bulk+B0.bulks d.Params+B0.bulks d.Vars+C0.bulks d.Body+7:=by cases d; simp only [B0.bulk]; omega
theorem B0.bulk_mem {s:B0}:∀ {l:List B0},s∈l→s.bulk≤B0.bulks l
 | x::r,h=>by
  simp only [B0.bulks]
  cases h with
  | head=>omega
  | tail _ h=>have:=B0.bulk_mem h; omega
theorem B0.bulk_len:∀ l:List B0,l.length≤B0.bulks l
 | []=>zqr _
 | x::r=>by
  simp only [B0.bulks,zqd]
  have:=B0.bulk_len r
  have:=B0.bulk_eq x
  omega
mutual
theorem B0.nds_bulk:∀ d:B0,d.nds≤d.bulk
 | .mk k nm t i v ps vs bd=>by
  have:=R20 t (isK k)
  have:=R1p v (uV2 k)
  have:=B0.ndss_bulk ps
  have:=B0.ndss_bulk vs
  have:=C0.ndss_bulk bd
  simp only [B0.nds,B0.bulk]; omega
theorem B0.ndss_bulk:∀ l:List B0,B0.ndss l≤B0.bulks l
 | []=>zqr _
 | x::r=>by
  have:=B0.nds_bulk x
  have:=B0.ndss_bulk r
  simp only [B0.ndss,B0.bulks]; omega
end
def OkD (l:List B0):Prop:=B0.bulks l≤BB
structure I1z (d:B0):Prop where
 type:Ok d.TypeV
 value:OkE d.Value
 name:d.Name.length≤BB
 params:OkD d.Params
 vars:OkD d.Vars
 body:OkS d.Body
theorem OkD.mem {l:List B0}(h:OkD l){d:B0}(a:d∈l):I1z d:=by
 unfold OkD at h
 have h1:=B0.bulk_mem a
 have h2:=B0.bulk_eq d
 refine ⟨?_,?_,?_,?_,?_,?_⟩ <;> first | (unfold OkE; omega) | (unfold OkS; omega) | (unfold OkD; omega) | (unfold Ok; omega) | omega
theorem OkD.len {l:List B0}(h:OkD l):l.length≤BB:=Nat.le_trans (B0.bulk_len l) h
theorem M1h:(F0.mk 0 0 0 0 [] [] []).all Li=true∧(F0.mk 0 0 0 0 [] [] []).all Sm=true:=⟨rfl,rfl⟩
theorem U1f (c:List B0)(hc:c.length≤BB)(q:B0→Bool)(K:J0→Option J0)(F:J0→Int→Option J0)
  (a:∀ (o:J0) (k:Int),F o k=if decide (k < (c.length:Int))=true then idx c k>>=fun x=>F1 (q x) o>>=fun y=>F y (IntKind.i64.wrap (k+1)) else K o) :
  ∀ (r:List B0) (k:Nat) (o:J0),c.drop k=r→0≤o.depth→F o (k:Int)=K (J5 o 0 0 (r.all q) true true)
 | [],k,o,h,hr=>by
  rw [a,(D2 h).1,zn (by simp),List.all_nil,Um o hr]
 | x::r,k,o,h,hr=>by
  obtain ⟨d,b,e,g,f⟩:=C3 h
  rw [a,d,zp rfl,b,ob,T9 o hr,ob,w1 (by omega),U1f c hc q K F a r (k+1) _ e (by rw [Qq]; omega),C5]
  rfl
theorem K1s (l:List B0):OkD l→∀ (o:J0),E6 o (B0.ndss l)→
  X6 l o=some (J5 o (B0.ndss l) (B0.dpss l) (B0.alls Z6 l) (B0.alls Pb l) (B0.alls Uf l)):=by
 induction l using B0.inds with
 | h l F=>
 intro hl o hr
 have i:∀ (r:List B0) (k:Nat) (o:J0),l.drop k=r→E6 o (B0.ndss r)→G8 l o k=some (J5 o (B0.ndss r) (B0.dpss r) (B0.alls Z6 r) (B0.alls Pb r) (B0.alls Uf r)):=by
  intro r
  induction r with
  | nil=>
   intro k o h hr
   rw [G8,(D2 h).1,zn (by simp)]
   exact congrArg some (Um o hr.dep).symm
  | cons d r v=>
   intro k o h hr
   obtain ⟨G,C,I,J,w⟩:=C3 h
   have hs:=hl.mem w
   have z:=hl.len
   obtain ⟨H,E⟩:=F d w
   simp only [B0.ndss,B0.nds_eq] at hr
   have t:=hr.high
   have D:C0.bulks d.Body≤BB:=hs.body
   have y:=hr.low
   unfold BB at t
   have B:=U1f d.Vars hs.vars.len vOk _ (fun o k'=>Ib l o d k k') (fun o k'=>Ib.eq_1 l o d k k') d.Vars 0
   have A:=U1f d.Params hs.params.len pOk _ (fun o k'=>H8 l o d k k') (fun o k'=>H8.eq_1 l o d k k') d.Params 0
   rw [show ((0:Nat):Int)=0 from rfl] at B A
   have g:∀ o:J0,E6 o (B0.ndss d.Params+(B0.ndss d.Vars+(C0.ndss d.Body+B0.ndss r)))→
     H8 l o d k 0=some (J5 o (B0.ndss d.Params+(B0.ndss d.Vars+(C0.ndss d.Body+B0.ndss r))) (max (B0.dpss d.Params) (max (B0.dpss d.Vars) (max (C0.dpss d.Body 1) (B0.dpss r))))
      (d.Params.all pOk&&(d.Vars.all vOk&&(B0.alls Z6 d.Params&&(B0.alls Z6 d.Vars&&(C0.alls G7 d.Body&&B0.alls Z6 r)))))
      (B0.alls Pb d.Params&&(B0.alls Pb d.Vars&&(C0.alls Ga d.Body&&B0.alls Pb r)))
      (B0.alls Uf d.Params&&(B0.alls Uf d.Vars&&(C0.alls D9 d.Body&&B0.alls Uf r)))):=by
    intro o hr
    have e:=hr.x0 (m:=0) (f:=d.Params.all pOk) (a:=true) (u:=true)
    have b:=e.x0 (m:=0) (f:=d.Vars.all vOk) (a:=true) (u:=true)
    rw [A o rfl hr.dep,B _ rfl e.dep,H hs.params _ (b.less (by omega)),ob,E hs.vars _ (E6.x (b.less (by omega))),ob,
     show (1:Int)=((1:Nat):Int) from rfl,L1h d.Body hs.body 1 _ (by unfold BB at *; omega) (E6.x (E6.x (b.less (by omega)))),ob,show ((k:Int)+((1:Nat):Int))=(k:Int)+1 from rfl,w1 (by omega),v (k+1) _ I (E6.x (E6.x (E6.x (b.less (by omega)))))]
    simp only [C5,Bool.true_and,Bool.and_assoc,Nat.zero_add,Nat.zero_max,Nat.add_assoc,Nat.max_assoc]
   have j:(if ((E2 d.Init (-1048576) 1048576)&&(!(d.TypeV.Kind != 0)))=true then J4 d.Init 0 1 else some default)=some (bif (E2 d.Init (-1048576) 1048576)&&(!(d.TypeV.Kind != 0)) then E2 d.Init 0 1 else default):=by
    rw [Ck]
    cases ((E2 d.Init (-1048576) 1048576)&&(!(d.TypeV.Kind != 0))) <;> rfl
   have q:∀ (x2:Bool×Bool) (o:J0),x2=(isK d.Kind,uV2 d.Kind)→E6 o (oN d.Value (uV2 d.Kind)+(B0.ndss d.Params+(B0.ndss d.Vars+(C0.ndss d.Body+B0.ndss r))))→
     Hb l o d x2 k=some (J5 o (oN d.Value (uV2 d.Kind)+(B0.ndss d.Params+(B0.ndss d.Vars+(C0.ndss d.Body+B0.ndss r)))) (max (oD d.Value (uV2 d.Kind)) (max (B0.dpss d.Params) (max (B0.dpss d.Vars) (max (C0.dpss d.Body 1) (B0.dpss r)))))
      (oF d.Value (uV2 d.Kind)&&((bif d.Kind == 4 then true else d.Init == 0)&&((bif d.Kind == 6 then true else Hn d)&&(d.Params.all pOk&&(d.Vars.all vOk&&(B0.alls Z6 d.Params&&(B0.alls Z6 d.Vars&&(C0.alls G7 d.Body&&B0.alls Z6 r))))))))
      (W3 d.Name&&(d.Value.all L6&&(B0.alls Pb d.Params&&(B0.alls Pb d.Vars&&(C0.alls Ga d.Body&&B0.alls Pb r)))))
      (d.Value.all R6&&(Bo d&&(B0.alls Uf d.Params&&(B0.alls Uf d.Vars&&(C0.alls D9 d.Body&&B0.alls Uf r)))))):=by
    rintro _ o rfl hr
    have e:=hr.x0 (m:=0) (f:=true) (a:=W3 d.Name) (u:=true)
    have b:=E6.x (m:=oD d.Value (uV2 d.Kind)) (f:=oF d.Value (uV2 d.Kind)) (a:=d.Value.all L6) (u:=d.Value.all R6) e
    have n:(bif E2 d.Init (-1048576) 1048576 then (bif (d.TypeV.Kind != 0) then true else (bif (E2 d.Init (-1048576) 1048576)&&(!(d.TypeV.Kind != 0)) then E2 d.Init 0 1 else default)) else false)=Bo d:=by
     unfold Bo
     cases E2 d.Init (-1048576) 1048576 <;> cases (d.TypeV.Kind != 0) <;> rfl
    rw [Hb,J1h o hr.dep d.Name hs.name,ob,D1c d.Value (uV2 d.Kind) hs.value _ (e.less (by omega)),ob,T9 _ b.dep,ob,Ck,ob,j,ob,n,Jg _ (b.x0).dep,ob,T9 _ (b.x0.x0).dep,ob,g _ (b.x0.x0.x0)]
    simp only [C5,Bool.true_and,Bool.and_true,Bool.and_assoc,Nat.zero_add,Nat.add_zero,Nat.zero_max,Nat.max_zero,Nat.add_assoc,Nat.max_assoc,Hn]
   have s:(J0.mk (IntKind.i64.wrap (o.nodes+1)) o.depth o.badForm o.badName o.badNumber)=J5 o 1 0 true true true:=by
    rw [wr (by omega) (by omega)]
    simp only [J5,zqf,Bool.or_false]
    have:=hr.dep
    rw [show max o.depth ((0:Nat):Int)=o.depth by omega]
    rfl
   have e:E6 (J5 o 1 0 true true true) (tN d.TypeV (isK d.Kind)+(oN d.Value (uV2 d.Kind)+(B0.ndss d.Params+(B0.ndss d.Vars+(C0.ndss d.Body+B0.ndss r))))):=E6.x (hr.less (by omega))
   have b:=e.x0 (m:=0) (f:=isK d.Kind) (a:=true) (u:=true)
   rw [G8,G,zp rfl,C,ob,show Pl d.Kind=some (isK d.Kind,uV2 d.Kind) from rfl,ob]
   show (F1 (isK d.Kind) _>>=_)=_
   rw [s,T9 _ e.dep,ob,P1p d.TypeV hs.type]
   show ((if (!(isK d.Kind))=true then some (Ps d.TypeV) else some default)>>=_)=_
   cases hk:isK d.Kind with
   | true=>
    rw [hk] at b
    have c:=b
    unfold tN at c
    simp only [zqf,zql] at c
    rw [zn (by simp),ob]
    rw [zp (show (bif (true,uV2 d.Kind).1 then true else !default)=true from rfl),D1l d.TypeV hs.type _ (c.less (by omega)),ob,q _ _ (by rw [hk]) (E6.x c)]
    simp only [C5,B0.ndss,B0.dpss,B0.alls,B0.nds_eq,B0.dps_eq,B0.all_eq,Z6,Pb,Uf,hk,tN,tD,zqf,zql,Bool.true_and,Bool.and_assoc,Nat.add_assoc,Nat.max_assoc,Nat.zero_max,Nat.zero_add]
    congr 1
    simp only [J5]
    congr 1
    all_goals first
     | (congr 1; congr 1; ac_rfl)
     | (congr 1; congr 1)
     | skip
   | false=>
    rw [hk] at b
    rw [zp (show (!false)=true from rfl),ob]
    show (if (!(Ps d.TypeV))=true then _ else _)=_
    cases hz:Ps d.TypeV with
    | true=>
     unfold tN at b
     rw [hz] at b
     simp only [zqg,zqk,Nat.zero_add] at b
     rw [zn (by simp),q _ _ (by rw [hk]) b]
     have p:=I1v hz
     simp only [C5,B0.ndss,B0.dpss,B0.alls,B0.nds_eq,B0.dps_eq,B0.all_eq,Z6,Pb,Uf,hk,tN,tD,hz,zqg,zqk,Bool.true_and,Bool.false_and,Bool.and_assoc,Nat.add_assoc,Nat.max_assoc,Nat.zero_max,Nat.zero_add]
     rw [p,M1h.1,M1h.2]
     simp only [Bool.true_and]
     congr 1
     simp only [J5]
     congr 1
     all_goals first
      | (congr 1; congr 1; ac_rfl)
      | (congr 1; congr 1)
      | skip
    | false=>
     have c:=b
     unfold tN at c
     rw [hz] at c
     simp only [zqg,zql,zqk] at c
     rw [zp (by simp),D1l d.TypeV hs.type _ (c.less (by omega)),ob,q _ _ (by rw [hk]) (E6.x c)]
     simp only [C5,B0.ndss,B0.dpss,B0.alls,B0.nds_eq,B0.dps_eq,B0.all_eq,Z6,Pb,Uf,hk,tN,tD,hz,zqg,zqk,zql,Bool.true_and,Bool.false_and,Bool.and_assoc,Nat.add_assoc,Nat.max_assoc,Nat.zero_max,Nat.zero_add]
     congr 1
     simp only [J5]
     congr 1
     all_goals first
      | (congr 1; congr 1; ac_rfl)
      | (congr 1; congr 1)
      | skip
 rw [X6]
 exact i l 0 o rfl hr
structure OkP (p:S0):Prop where
 decls:OkD p.Decls
 body:OkS p.Body
def Q12 (p:S0):Nat:=B0.ndss p.Decls+C0.ndss p.Body
def R12 (p:S0):Nat:=max (B0.dpss p.Decls) (C0.dpss p.Body 1)
def F6 (p:S0):Int:=
 Gn (Q12 p) (R12 p) (!(B0.alls Z6 p.Decls&&C0.alls G7 p.Body)) (!(B0.alls Pb p.Decls&&C0.alls Ga p.Body)) (!(B0.alls Uf p.Decls&&C0.alls D9 p.Body))
theorem S1p (p:S0)(h:OkP p):Bj p=some (J5 ⟨0,0,false,false,false⟩ (Q12 p) (R12 p) (B0.alls Z6 p.Decls&&C0.alls G7 p.Body) (B0.alls Pb p.Decls&&C0.alls Ga p.Body) (B0.alls Uf p.Decls&&C0.alls D9 p.Body)):=by
 have h1:=B0.ndss_bulk p.Decls
 have h2:=C0.ndss_bulk p.Body
 have a:B0.bulks p.Decls≤BB:=h.decls
 have b:C0.bulks p.Body≤BB:=h.body
 have hr:E6 ⟨0,0,false,false,false⟩ (B0.ndss p.Decls+C0.ndss p.Body):=⟨Int.le_refl _,Int.le_refl _,by simp only; omega⟩
 unfold Bj
 rw [K1s p.Decls h.decls _ (hr.less (by omega)),ob,show (1:Int)=((1:Nat):Int) from rfl,L1h p.Body h.body 1 _ (by unfold BB at *; omega) (E6.x hr),ob,C5]
 rfl
theorem L1s (n m:Nat)(f a u:Bool):Dc (J5 ⟨0,0,false,false,false⟩ n m f a u)=some (Gn n m (!f) (!a) (!u)):=by
 rw [Z1u]
 simp only [J5,Bool.false_or]
 rw [show (0:Int)+(n:Int)=n by omega,show max (0:Int) (m:Int)=m by omega]
theorem F1l (p:S0)(h:OkP p):Km p=some (F6 p):=by
 unfold Km
 rw [S1p p h,ob,L1s,ob]
 rfl
theorem ifs {b c:Bool}{X:Option Bool}{y:Bool}(h:b = !c)(a:X=some y):(if b=true then some false else X)=some (c&&y):=by
 subst h
 rw [a]
 cases c <;> rfl
theorem ifd (c a:Bool):(if c=true then some a else some default)=some (bif c then a else default):=by cases c <;> rfl
theorem rUP (v:Int):Sf v=some (uPl v):=rfl
theorem rUV (v:Int):Tf v=some (uVa v):=rfl
theorem rUN (v:Int):Hj v=some (uNm v):=rfl
theorem D22 (v:Int):Ns v=some (uNn v):=rfl
theorem rUT (v:Int):Fn v=some (uTh v):=rfl
theorem rDT (k:Int):Fj k=some (isK k):=rfl
theorem rDV (k:Int):Rf k=some (uV2 k):=rfl
def szX (s:O0)(n m:Nat):O0:=⟨s.nodes+n,max s.depth m⟩
theorem Iz (s:O0)(n m n' a:Nat):szX (szX s n m) n' a=szX s (n+n') (max m a):=by
 simp only [szX]
 rw [show s.nodes+(n:Int)+(n':Int)=s.nodes+((n+n':Nat):Int) by omega,show max (max s.depth (m:Int)) (a:Int)=max s.depth ((max m a:Nat):Int) by omega]
structure B8 (s:O0)(n:Nat):Prop where
 dep:0≤s.depth
 low:0≤s.nodes
 high:s.nodes+n≤3 * BB
theorem B8.x {s:O0}{n k m:Nat}(h:B8 s (k+n)):B8 (szX s k m) n:=by
 obtain ⟨h1,h2,a⟩:=h
 refine ⟨?_,?_,?_⟩ <;> simp only [szX] <;> omega
theorem B8.less {s:O0}{n k:Nat}(h:B8 s n)(hk:k≤n):B8 s k:=⟨h.dep,h.low,by have:=h.high; omega⟩
theorem Xx (s:O0)(h:0≤s.depth):szX s 0 0=s:=by
 simp only [szX]
 rw [show s.nodes+((0:Nat):Int)=s.nodes by omega,show max s.depth ((0:Nat):Int)=s.depth by omega]
theorem T14 (s:O0)(e:A0)(u:Bool)(h:OkE e)(hr:B8 s (oN e u)):Nb s e u=some (szX s (oN e u) (oD e u)):=by
 have hn:=h.nodes
 have a:=hr.high
 have hl:=hr.low
 unfold Nb
 rw [Hz e h,ifd,ob,M1p e h,N1p e h]
 unfold oN oD at *
 cases u with
 | true=>
  simp only [zqf,zql] at *
  unfold BB at a hn
  rw [zn (by simp),ob,ob,Gu,ob,wr (n:=s.nodes+(e.nodes:Int)) (by omega) (by omega)]
  rfl
 | false=>
  simp only [zqg,zqk] at *
  cases hz:Bh e with
  | true=>rw [zp rfl]; exact congrArg some (Xx s hr.dep).symm
  | false=>
   rw [hz] at a
   simp only [zql] at a
   unfold BB at a hn
   rw [zn (by simp),ob,ob,Gu,ob,wr (n:=s.nodes+(e.nodes:Int)) (by omega) (by omega)]
   rfl
theorem J1v (s:O0)(t:F0)(u:Bool)(h:Ok t)(hr:B8 s (tN t u)):Tk s t u=some (szX s (tN t u) (tD t u)):=by
 have hn:=h.nodes
 have a:=hr.high
 have hl:=hr.low
 unfold Tk
 rw [H1s t h,ifd,ob,Y1r t h,Z1r t h]
 unfold tN tD at *
 cases u with
 | true=>
  simp only [zqf,zql] at *
  unfold BB at a hn
  rw [zn (by simp),ob,ob,Gu,ob,wr (n:=s.nodes+(t.nodes:Int)) (by omega) (by omega)]
  rfl
 | false=>
  simp only [zqg,zqk] at *
  cases hz:Ps t with
  | true=>rw [zp rfl]; exact congrArg some (Xx s hr.dep).symm
  | false=>
   rw [hz] at a
   simp only [zql] at a
   unfold BB at a hn
   rw [zn (by simp),ob,ob,Gu,ob,wr (n:=s.nodes+(t.nodes:Int)) (by omega) (by omega)]
   rfl
theorem J1z (s:O0)(hr:B8 s 1)(d:Nat):M8 ⟨IntKind.i64.wrap (s.nodes+1),s.depth⟩ (d:Int)=some (szX s 1 d):=by
 have a:=hr.high
 have hl:=hr.low
 unfold BB at a
 rw [Gu,wr (n:=s.nodes+1) (by omega) (by omega)]
 rfl
theorem V1f (e:A0):oN e true=e.nodes∧oD e true=e.depth:=⟨rfl,rfl⟩
theorem N1h (s:C0)(hs:L10 s)(K:O0→Option O0)(F:O0→Int→Option O0)
  (a:∀ (o:O0) (k:Int),F o k=if decide (k < (s.Args.length:Int))=true then idx s.Args k>>=fun x=>Nb o x true>>=fun y=>F y (IntKind.i64.wrap (k+1)) else K o) :
  ∀ (r:List A0) (k:Nat) (o:O0),s.Args.drop k=r→B8 o (A0.nodess r)→F o (k:Int)=K (szX o (A0.nodess r) (A0.depths r))
 | [],k,o,h,hr=>by
  rw [a,(D2 h).1,zn (by simp)]
  simp only [A0.nodess,A0.depths]
  rw [Xx o hr.dep]
 | x::r,k,o,h,hr=>by
  obtain ⟨d,b,e,f,c⟩:=C3 h
  have:=hs.args
  simp only [A0.nodess] at hr
  rw [a,d,zp rfl,b,ob,T14 o x true (hs.arg x c) (hr.less (by rw [(V1f x).1]; omega)),ob,(V1f x).1,(V1f x).2,w1 (by omega),N1h s hs K F a r (k+1) _ e hr.x,Iz]
  rfl
theorem U18 (l:List C0):OkS l→∀ (d:Nat) (o:O0),d+C0.bulks l≤3 * BB→B8 o (C0.ndss l)→Da o l d=some (szX o (C0.ndss l) (C0.dpss l d)):=by
 induction l using C0.inds with
 | h l w=>
 intro hl d o B hr
 have a:∀ (r:List C0) (k:Nat) (o:O0),l.drop k=r→B8 o (C0.ndss r)→Ld l d o k=some (szX o (C0.ndss r) (C0.dpss r d)):=by
  intro r
  induction r with
  | nil=>
   intro k o h hr
   rw [Ld,(D2 h).1,zn (by simp)]
   exact congrArg some (Xx o hr.dep).symm
  | cons s r e=>
   intro k o h hr
   obtain ⟨z,q,C,D,c⟩:=C3 h
   have hs:=hl.mem c
   have i:=hl.len
   obtain ⟨A,v⟩:=w s c
   have u:=C0.bulk_mem c
   have y:=C0.bulk_eq s
   simp only [C0.ndss,C0.nds_eq] at hr
   unfold BB at B
   have b:IntKind.i64.wrap ((d:Int)+1)=((d+1:Nat):Int):=by rw [wr (by omega) (by omega)]; rfl
   have args:=N1h s hs _ (fun o k'=>Zf l d o s k k') (fun o k'=>Zf.eq_1 l d o s k k') s.Args 0
   rw [show ((0:Nat):Int)=0 from rfl] at args
   have n:B8 (szX o 1 d) (oN s.Place (uPl s.Verb)+(oN s.Value (uVa s.Verb)+(A0.nodess s.Args+(C0.ndss s.Then+(C0.ndss s.Else+C0.ndss r))))):=B8.x (hr.less (by omega))
   have g:=B8.x (m:=oD s.Place (uPl s.Verb)) n
   have f:=B8.x (m:=oD s.Value (uVa s.Verb)) g
   have j:=B8.x (m:=A0.depths s.Args) f
   have p:=B8.x (m:=C0.dpss s.Then (d+1)) j
   have t:=B8.x (m:=C0.dpss s.Else (d+1)) p
   rw [Ld,z,zp rfl,q,ob,J1z o (hr.less (by omega)) d,ob,rUP,ob,T14 _ s.Place _ hs.place (n.less (by omega)),ob,rUV,ob,T14 _ s.Value _ hs.value (g.less (by omega)),ob,
    args _ rfl (f.less (by omega)),b,A hs.thens (d+1) _ (by unfold BB; omega) (j.less (by omega)),ob,v hs.elses (d+1) _ (by unfold BB; omega) (p.less (by omega)),ob,w1 (by omega),e (k+1) _ C t]
   simp only [Iz,C0.ndss,C0.dpss,C0.nds_eq,C0.dps_eq,Nat.add_assoc,Nat.max_assoc]
 rw [Da]
 exact a l 0 o rfl hr
theorem G1l (l:List B0):OkD l→∀ (o:O0),B8 o (B0.ndss l)→Mc o l=some (szX o (B0.ndss l) (B0.dpss l)):=by
 induction l using B0.inds with
 | h l v=>
 intro hl o hr
 have a:∀ (r:List B0) (k:Nat) (o:O0),l.drop k=r→B8 o (B0.ndss r)→Md l o k=some (szX o (B0.ndss r) (B0.dpss r)):=by
  intro r
  induction r with
  | nil=>
   intro k o h hr
   rw [Md,(D2 h).1,zn (by simp)]
   exact congrArg some (Xx o hr.dep).symm
  | cons s r b=>
   intro k o h hr
   obtain ⟨z,n,B,C,e⟩:=C3 h
   have hs:=hl.mem e
   have f:=hl.len
   obtain ⟨A,u⟩:=v s e
   have q:C0.bulks s.Body≤BB:=hs.body
   simp only [B0.ndss,B0.nds_eq] at hr
   have w:=hr.high
   have t:=hr.low
   have y:(O0.mk (IntKind.i64.wrap (o.nodes+1)) o.depth)=szX o 1 0:=by
    unfold BB at w
    rw [wr (by omega) (by omega)]
    have:=hr.dep
    simp only [szX]
    rw [show max o.depth ((0:Nat):Int)=o.depth by omega]
    rfl
   have i:B8 (szX o 1 0) (tN s.TypeV (isK s.Kind)+(oN s.Value (uV2 s.Kind)+(B0.ndss s.Params+(B0.ndss s.Vars+(C0.ndss s.Body+B0.ndss r))))):=B8.x (hr.less (by omega))
   have d:=B8.x (m:=tD s.TypeV (isK s.Kind)) i
   have c:=B8.x (m:=oD s.Value (uV2 s.Kind)) d
   have g:=B8.x (m:=B0.dpss s.Params) c
   have j:=B8.x (m:=B0.dpss s.Vars) g
   have p:=B8.x (m:=C0.dpss s.Body 1) j
   rw [Md,z,zp rfl,n,ob,rDT,ob,y,J1v _ s.TypeV _ hs.type (i.less (by omega)),ob,rDV,ob,T14 _ s.Value _ hs.value (d.less (by omega)),ob,A hs.params _ (c.less (by omega)),ob,u hs.vars _ (g.less (by omega)),ob,
    show (1:Int)=((1:Nat):Int) from rfl,U18 s.Body hs.body 1 _ (by unfold BB at *; omega) (j.less (by omega)),ob,show ((k:Int)+((1:Nat):Int))=(k:Int)+1 from rfl,w1 (by omega),b (k+1) _ B p]
   simp only [Iz,B0.ndss,B0.dpss,B0.nds_eq,B0.dps_eq,Nat.add_assoc,Nat.max_assoc,Nat.zero_max]
 rw [Mc]
 exact a l 0 o rfl hr
theorem T1p (s:C0)(hs:L10 s)(p:A0→Bool)(g:A0→Option Bool)(hg:∀ x∈s.Args,g x=some (x.all p))(K:Option Bool)(F:Int→Option Bool)(y:Bool)(c:K=some y)
  (a:∀ k:Int,F k=if decide (k < (s.Args.length:Int))=true then idx s.Args k>>=fun x=>g x>>=fun b=>if (!b)=true then some false else F (IntKind.i64.wrap (k+1)) else K) :
  ∀ (r:List A0) (k:Nat),s.Args.drop k=r→F (k:Int)=some (A0.alls p r&&y)
 | [],k,h=>by rw [a,(D2 h).1,zn (by simp),c]; rfl
 | x::r,k,h=>by
  obtain ⟨f,d,i,j,e⟩:=C3 h
  have:=hs.args
  rw [a,f,zp rfl,d,ob,hg x e,ob,w1 (by omega),T1p s hs p g hg K F y c a r (k+1) i,A0.alls]
  cases x.all p <;> simp
theorem Q15 (l:List C0):OkS l→U8 l=some (C0.alls G7 l):=by
 induction l using C0.inds with
 | h l m=>
 intro hl
 have a:∀ (r:List C0) (k:Nat),l.drop k=r→Oc l k=some (C0.alls G7 r):=by
  intro r
  induction r with
  | nil=>intro k h; rw [Oc,(D2 h).1,zn (by simp)]; rfl
  | cons s r d=>
   intro k h
   obtain ⟨n,i,q,t,f⟩:=C3 h
   have hs:=hl.mem f
   have g:=hl.len
   obtain ⟨o,j⟩:=m s f
   have e:=T1p s hs B5 N6 (fun x p=>Fz x (hs.arg x p)) _ (fun k'=>Cf l s k k') (C0.alls G7 s.Then&&C0.alls G7 s.Else&&C0.alls G7 r)
    (by
     rw [o hs.thens,ob,j hs.elses,ifd,ob,w1 (by omega),d (k+1) q]
     cases C0.alls G7 s.Then <;> cases C0.alls G7 s.Else <;> simp)
    (fun k'=>Cf.eq_1 l s k k') s.Args 0 rfl
   rw [show ((0:Nat):Int)=0 from rfl] at e
   rw [Oc,n,zp rfl,i,ob]
   simp only [rUP,rUV,rUN,D22,rUT,D1h,Fz _ hs.place,Fz _ hs.value,Hz _ hs.place,Hz _ hs.value,ifd,ob]
   have:=ifs (b:=bif decide (s.Verb < 0) then true else decide (s.Verb > 8)) (c:=okV s.Verb) (by unfold okV; rw [Bool.not_not])
    (ifs (c:=oF s.Place (uPl s.Verb)&&(bif uPl s.Verb then s.Place.place else true)) (b:=bif (bif uPl s.Verb then (bif (!(bif uPl s.Verb then s.Place.place else default)) then true else (!(bif (uPl s.Verb&&(!(!(bif uPl s.Verb then s.Place.place else default)))) then s.Place.all B5 else default))) else false) then true else (bif (!(bif (!(bif uPl s.Verb then (bif (!(bif uPl s.Verb then s.Place.place else default)) then true else (!(bif (uPl s.Verb&&(!(!(bif uPl s.Verb then s.Place.place else default)))) then s.Place.all B5 else default))) else false)) then uPl s.Verb else default)) then (!(bif ((!(bif uPl s.Verb then (bif (!(bif uPl s.Verb then s.Place.place else default)) then true else (!(bif (uPl s.Verb&&(!(!(bif uPl s.Verb then s.Place.place else default)))) then s.Place.all B5 else default))) else false))&&(!(bif (!(bif uPl s.Verb then (bif (!(bif uPl s.Verb then s.Place.place else default)) then true else (!(bif (uPl s.Verb&&(!(!(bif uPl s.Verb then s.Place.place else default)))) then s.Place.all B5 else default))) else false)) then uPl s.Verb else default))) then Bh s.Place else default)) else false))
     (by unfold oF; cases uPl s.Verb <;> cases s.Place.place <;> cases s.Place.all B5 <;> cases Bh s.Place <;> rfl)
    (ifs (c:=oF s.Value (uVa s.Verb)) (b:=bif (bif uVa s.Verb then (!(bif uVa s.Verb then s.Value.all B5 else default)) else false) then true else (bif (!(bif (!(bif uVa s.Verb then (!(bif uVa s.Verb then s.Value.all B5 else default)) else false)) then uVa s.Verb else default)) then (!(bif ((!(bif uVa s.Verb then (!(bif uVa s.Verb then s.Value.all B5 else default)) else false))&&(!(bif (!(bif uVa s.Verb then (!(bif uVa s.Verb then s.Value.all B5 else default)) else false)) then uVa s.Verb else default))) then Bh s.Value else default)) else false))
     (by unfold oF; cases uVa s.Verb <;> cases s.Value.all B5 <;> cases Bh s.Value <;> rfl)
    (ifs (c:=(bif uNm s.Verb then true else s.Name == [])&&(bif s.Verb == 1 then true else ((s.Args.length:Int) == 0))&&(bif uNn s.Verb then true else s.NV == 0)&&(bif s.Verb == 7 then true else (bif s.Low == 0 then s.High == 0 else false))&&(bif s.Verb == 8 then true else ((s.Numbers.length:Int) == 0)))
     (b:=bif (bif (bif (bif (bif (!(uNm s.Verb)) then (!(s.Name == [])) else false) then true else (bif (s.Verb != 1) then (((s.Args).length:Int) != 0) else false)) then true else (bif (!(bif (!(bif (bif (!(uNm s.Verb)) then (!(s.Name == [])) else false) then true else (bif (s.Verb != 1) then (((s.Args).length:Int) != 0) else false))) then uNn s.Verb else default)) then (s.NV != 0) else false)) then true else (bif (s.Verb != 7) then (bif (s.Low != 0) then true else (s.High != 0)) else false)) then true else (bif (s.Verb != 8) then (((s.Numbers).length:Int) != 0) else false))
     (by
      unfold bne
      generalize (s.Verb == 1)=a1; generalize (s.Verb == 7)=a2; generalize (s.Verb == 8)=a3; generalize (s.Name == [])=a4; generalize ((s.Args.length:Int) == 0)=a5; generalize (s.NV == 0)=a6; generalize (s.Low == 0)=a7; generalize (s.High == 0)=a8
      generalize ((s.Numbers.length:Int) == 0)=a9; generalize uNm s.Verb=b1; generalize uNn s.Verb=b2
      cases b1 <;> cases a4 <;> cases a1 <;> cases a5 <;> cases b2 <;> cases a6 <;> first | rfl | (cases a2 <;> cases a7 <;> cases a8 <;> cases a3 <;> cases a9 <;> rfl))
    (ifs (c:=(bif uTh s.Verb then true else ((s.Then.length:Int) == 0))&&(bif s.Verb == 5 then true else ((s.Else.length:Int) == 0))) (b:=bif (bif (!(uTh s.Verb)) then (((s.Then).length:Int) != 0) else false) then true else (bif (s.Verb != 5) then (((s.Else).length:Int) != 0) else false))
     (by
      unfold bne
      generalize (s.Verb == 5)=a1; generalize ((s.Then.length:Int) == 0)=a2; generalize ((s.Else.length:Int) == 0)=a3
      generalize uTh s.Verb=a0
      cases a0 <;> cases a1 <;> cases a2 <;> cases a3 <;> rfl) e))))
   refine this.trans ?_
   simp only [C0.alls,C0.all_eq,G7,Bool.and_assoc]
   congr 1
   generalize A0.alls B5 s.Args=x
   generalize (bif s.Verb == 1 then true else ((s.Args.length:Int) == 0))=y
   ac_rfl
 rw [U8]
 exact a l 0 rfl
theorem H1l (c:List B0)(hc:c.length≤BB)(q:B0→Bool)(K:Option Bool)(F:Int→Option Bool)(y:Bool)(d:K=some y)
  (a:∀ (r:List B0) (k:Nat) (x:B0),c.drop k=x::r→F (k:Int)=if q x=true then F (IntKind.i64.wrap ((k:Int)+1)) else some false) (b:∀ k:Nat,c.drop k=[]→F (k:Int)=K) :
  ∀ (r:List B0) (k:Nat),c.drop k=r→F (k:Int)=some (r.all q&&y)
 | [],k,h=>by rw [b k h,d]; rfl
 | x::r,k,h=>by
  obtain ⟨j,f,e,i,g⟩:=C3 h
  rw [a r k x h,w1 (by omega),H1l c hc q K F y d a b r (k+1) e,List.all_cons]
  cases q x <;> simp
theorem M1i (l:List B0):OkD l→Va l=some (B0.alls Z6 l):=by
 induction l using B0.inds with
 | h l t=>
 intro hl
 have e:∀ (r:List B0) (k:Nat),l.drop k=r→Rc l k=some (B0.alls Z6 r):=by
  intro r
  induction r with
  | nil=>intro k h; rw [Rc,(D2 h).1,zn (by simp)]; rfl
  | cons d r g=>
   intro k h
   obtain ⟨u,o,z,A,m⟩:=C3 h
   have hs:=hl.mem m
   have n:=hl.len
   obtain ⟨w,s⟩:=t d m
   have y:=H1l d.Vars hs.vars.len vOk _ (fun k'=>L7 l d k k') (B0.alls Z6 d.Params&&B0.alls Z6 d.Vars&&C0.alls G7 d.Body&&B0.alls Z6 r) rfl
    (fun p k' x a=>by
     obtain ⟨f,i,f3,v,q⟩:=C3 a
     show L7 l d k k'=_
     rw [L7,f,zp rfl,i,ob]
     unfold vOk bne
     cases (x.Kind == 4) <;> rfl)
    (fun k' a=>by
     show L7 l d k k'=_
     rw [L7,(D2 a).1,zn (by simp),w hs.params,ob,s hs.vars,ifd,ob,Q15 d.Body hs.body,ifd,ob,w1 (by omega),g (k+1) z]
     cases B0.alls Z6 d.Params <;> cases B0.alls Z6 d.Vars <;> cases C0.alls G7 d.Body <;> simp) d.Vars 0 rfl
   have j:=H1l d.Params hs.params.len pOk _ (fun k'=>K7 l d k k') (d.Vars.all vOk&&(B0.alls Z6 d.Params&&B0.alls Z6 d.Vars&&C0.alls G7 d.Body&&B0.alls Z6 r)) rfl
    (fun p k' x a=>by
     obtain ⟨f,i,f3,v,q⟩:=C3 a
     show K7 l d k k'=_
     rw [K7,f,zp rfl,i,ob]
     unfold pOk bne
     cases (x.Kind == 4)
     ·rfl
     ·simp only [zqf,zqg,zt,ob,zqk,zql]
      cases (x.Init == 0) <;> rfl)
    (fun k' a=>by
     show K7 l d k k'=_
     rw [K7,(D2 a).1,zn (by simp)]
     exact y) d.Params 0 rfl
   rw [show ((0:Nat):Int)=0 from rfl] at j
   rw [Rc,u,zp rfl,o,ob]
   simp only [rDT,rDV,A1v _ hs.type,Fz _ hs.value,Hz _ hs.value,ifd,ob]
   have:=ifs (b:=bif (!(isK d.Kind)) then true else (!(bif (!(!(isK d.Kind))) then d.TypeV.all Xa else default))) (c:=isK d.Kind&&d.TypeV.all Xa) (by cases isK d.Kind <;> cases d.TypeV.all Xa <;> rfl)
    (ifs (c:=oF d.Value (uV2 d.Kind)&&(bif d.Kind == 4 then true else d.Init == 0)) (b:=bif (bif (bif uV2 d.Kind then (!(bif uV2 d.Kind then d.Value.all B5 else default)) else false) then true else (bif (!(bif (!(bif uV2 d.Kind then (!(bif uV2 d.Kind then d.Value.all B5 else default)) else false)) then uV2 d.Kind else default)) then (!(bif ((!(bif uV2 d.Kind then (!(bif uV2 d.Kind then d.Value.all B5 else default)) else false))&&(!(bif (!(bif uV2 d.Kind then (!(bif uV2 d.Kind then d.Value.all B5 else default)) else false)) then uV2 d.Kind else default))) then Bh d.Value else default)) else false)) then true else (bif (d.Kind != 4) then (d.Init != 0) else false))
     (by
      unfold oF bne
      generalize (d.Kind == 4)=a1
      generalize (d.Init == 0)=a2
      generalize uV2 d.Kind=a3
      cases a3 <;> cases d.Value.all B5 <;> cases Bh d.Value <;> cases a1 <;> cases a2 <;> rfl)
    (ifs (c:=bif d.Kind == 6 then true else Hn d) (b:=bif (d.Kind != 6) then (bif (bif (((d.Params).length:Int) != 0) then true else (((d.Vars).length:Int) != 0)) then true else (((d.Body).length:Int) != 0)) else false)
     (by
      unfold Hn bne
      cases (d.Kind == 6) <;> cases ((d.Params.length:Int) == 0) <;> cases ((d.Vars.length:Int) == 0) <;> cases ((d.Body.length:Int) == 0) <;> rfl) j))
   refine this.trans ?_
   simp only [B0.alls,B0.all_eq,Z6,Bool.and_assoc]
   congr 1
   ac_rfl
 rw [Va]
 exact e l 0 rfl
theorem M1s (s:C0)(hs:L10 s)(p:A0→Bool)(g:A0→Option Bool)(hg:∀ x∈s.Args,g x=some (x.all p))(K:Option Bool)(F:Int→Option Bool)(y:Bool)(c:K=some y)
  (a:∀ k:Int,F k=if decide (k < (s.Args.length:Int))=true then idx s.Args k>>=fun x=>g x>>=fun b=>if (!b)=true then some false else F (IntKind.i64.wrap (k+1)) else K):F 0=some (A0.alls p s.Args&&y):=
 T1p s hs p g hg K F y c a s.Args 0 rfl
theorem S12 (l:List C0):OkS l→W7 l=some (C0.alls Ga l):=by
 induction l using C0.inds with
 | h l i=>
 intro hl
 have a:∀ (r:List C0) (k:Nat),l.drop k=r→Cb l k=some (C0.alls Ga r):=by
  intro r
  induction r with
  | nil=>intro k h; rw [Cb,(D2 h).1,zn (by simp)]; rfl
  | cons s r b=>
   intro k h
   obtain ⟨j,e,o,p,c⟩:=C3 h
   have hs:=hl.mem c
   have d:=hl.len
   obtain ⟨m,g⟩:=i s c
   have f:=M1s s hs L6 Z5 (fun x n=>Zv x (hs.arg x n)) _ (fun k'=>Zd l s k k') (C0.alls Ga r) (by rw [w1 (by omega),b (k+1) o]) (fun k'=>Zd.eq_1 l s k k')
   rw [Cb,j,zp rfl,e,ob]
   simp only [rUN,Rm _ hs.name,Zv _ hs.place,Zv _ hs.value,m hs.thens,g hs.elses,ifd,ob,f]
   simp only [C0.alls,C0.all_eq,Ga]
   generalize uNm s.Verb=a1
   generalize W3 s.Name=a2
   generalize s.Place.all L6=a3
   generalize s.Value.all L6=a4
   generalize C0.alls Ga s.Then=a5
   generalize C0.alls Ga s.Else=a6
   cases a1 <;> cases a2 <;> cases a3 <;> cases a4 <;> cases a5 <;> cases a6 <;> simp
 rw [W7]
 exact a l 0 rfl
theorem W1f (l:List B0):OkD l→S9 l=some (B0.alls Pb l):=by
 induction l using B0.inds with
 | h l i=>
 intro hl
 have a:∀ (r:List B0) (k:Nat),l.drop k=r→Db l k=some (B0.alls Pb r):=by
  intro r
  induction r with
  | nil=>intro k h; rw [Db,(D2 h).1,zn (by simp)]; rfl
  | cons d r b=>
   intro k h
   obtain ⟨j,f,n,o,c⟩:=C3 h
   have hs:=hl.mem c
   have e:=hl.len
   obtain ⟨m,g⟩:=i d c
   rw [Db,j,zp rfl,f,ob]
   simp only [Rm _ hs.name,A1s _ hs.type,Zv _ hs.value,m hs.params,g hs.vars,S12 _ hs.body,ifd,ob,w1 (show k≤BB by omega),b (k+1) n]
   simp only [B0.alls,B0.all_eq,Pb]
   generalize W3 d.Name=a2
   generalize d.TypeV.all Li=a3
   generalize d.Value.all L6=a4
   generalize B0.alls Pb d.Params=a5
   generalize B0.alls Pb d.Vars=a6
   generalize C0.alls Ga d.Body=a1
   cases a1 <;> cases a2 <;> cases a3 <;> cases a4 <;> cases a5 <;> cases a6 <;> simp
 rw [S9]
 exact a l 0 rfl
theorem U1p (x:Int):E2 x 0 1048576=(bif decide (x < 0) then false else !decide (x > 1048576)):=by
 unfold E2
 rw [P14,Q14]
 cases decide (x≥0) <;> cases decide (x≤1048576) <;> rfl
theorem N1s (s:C0)(hs:L10 s):∀ (r:List Int) (k:Nat) (a:Int),s.Numbers.drop k=r→(k=0∧a = -1∨0 < k∧idx s.Numbers ((k - 1:Nat):Int)=some a)→P6 s k=some (Vh a r)
 | [],k,a,h,e=>by rw [P6,(D2 h).1,zn (by simp)]; rfl
 | x::r,k,a,h,e=>by
  obtain ⟨i,d,l,m,n⟩:=C3 h
  have c:=hs.nums
  have f:=N1s s hs r (k+1) x l (.inr ⟨by omega,d⟩)
  unfold BB at c
  rw [show Vh a (x::r)=((bif E2 x 0 1048576 then decide (x > a) else false)&&Vh x r) from rfl,U1p,P6,i,zp rfl,d,ob,w1 (by unfold BB; omega),f]
  by_cases hx:x < 0
  ·rw [zqj hx]; rfl
  ·rw [zqs hx,zp (show (!false)=true from rfl),ob]
   cases hB:decide (x > 1048576) with
   | true=>rfl
   | false=>
    rcases e with ⟨rfl,rfl⟩ | ⟨hk,hl⟩
    ·have hk:decide (((0:Nat):Int) > 0)=false:=by decide
     rw [hk,zqj (show x > -1 by omega)]
     cases Vh x r <;> rfl
    ·have b:decide ((k:Int) > 0)=true:=zqj (by omega)
     have g:IntKind.i64.wrap ((k:Int) - 1)=((k - 1:Nat):Int):=by rw [wr (by omega) (by omega)]; omega
     have j:decide (x≤a) = !decide (x > a):=by rw [← decide_not]; exact decide_eq_decide.2 (by omega)
     rw [b,g,hl]
     show (if decide (x≤a)=true then some false else some (Vh x r))=some (decide (x > a)&&Vh x r)
     rw [j]
     cases decide (x > a) <;> cases Vh x r <;> rfl
theorem K1v (s:C0)(hs:L10 s):Ag s=some (Bg s):=by
 unfold Ag Bg
 cases s.Verb == 4 with
 | true=>rw [zp rfl]; rfl
 | false=>
  rw [zn (by simp)]
  cases s.Verb == 6 with
  | true=>rw [zp rfl]; rfl
  | false=>
   rw [zn (by simp)]
   cases s.Verb == 7 with
   | true=>
    rw [zp rfl,Ez,ob,Ez,ifd,ob]
    show some _=some (bif (bif E2 s.Low (-1048576) 1048576 then E2 s.High s.Low 1048576 else false) then decide (s.High - s.Low < 4096) else false)
    congr 1
    by_cases hb:(-1048576≤s.Low∧s.Low≤1048576)∧(-1048576≤s.High∧s.High≤1048576)
    ·obtain ⟨⟨b,a⟩,b3,c⟩:=hb
     rw [wr (n:=s.High - s.Low) (by omega) (by omega),wr (n:=s.High - s.Low+1) (by omega) (by omega)]
     unfold Th E2
     rw [zqj (show s.Low≥-1048576 from b),zqj a,zqj (show s.High≥-1048576 from b3),zqj c]
     simp only [zqk]
     have e:decide (s.High - s.Low+1≤4096)=decide (s.High - s.Low < 4096):=decide_eq_decide.2 (by omega)
     rw [e]
     show (bif decide (s.Low≤s.High) then decide (s.High - s.Low < 4096) else false)=(bif (bif decide (s.Low≤s.High) then true else false) then decide (s.High - s.Low < 4096) else false)
     cases decide (s.Low≤s.High) <;> rfl
    ·unfold Th E2
     by_cases h1 : -1048576≤s.Low∧s.Low≤1048576
     ·obtain ⟨b,a⟩:=h1
      rw [zqj (show s.Low≥-1048576 from b),zqj a]
      simp only [zqk]
      by_cases h2:s.High≤1048576
      ·have d:¬ s.High≥-1048576:=fun h=>hb ⟨⟨b,a⟩,h,h2⟩
       rw [zqs d,zqs (show ¬ s.High≥s.Low by omega)]
       rfl
      ·rw [zqs h2]
       cases decide (s.High≥-1048576) <;> cases decide (s.High≥s.Low) <;> rfl
     ·have:(bif decide (s.Low≥-1048576) then decide (s.Low≤1048576) else false)=false:=by
       by_cases h2 : -1048576≤s.Low
       ·rw [zqj (show s.Low≥-1048576 from h2),zqs (fun h=>h1 ⟨h2,h⟩)]; rfl
       ·rw [zqs (show ¬ s.Low≥-1048576 from h2)]; rfl
      rw [this]
      rfl
   | false=>
    rw [zn (by simp)]
    cases s.Verb == 8 with
    | true=>
     have:=N1s s hs s.Numbers 0 (-1) rfl (.inl ⟨rfl,rfl⟩)
     rw [show ((0:Nat):Int)=0 from rfl] at this
     rw [zp rfl,this,P14,Q14]
     show _=some (E2 (s.Numbers.length:Int) 1 32&&Vh (-1) s.Numbers)
     unfold E2
     cases decide ((s.Numbers.length:Int)≥1) <;> cases decide ((s.Numbers.length:Int)≤32) <;> simp
    | false=>rfl
theorem Yx (l:List C0):OkS l→Q6 l=some (C0.alls D9 l):=by
 induction l using C0.inds with
 | h l i=>
 intro hl
 have a:∀ (r:List C0) (k:Nat),l.drop k=r→A9 l k=some (C0.alls D9 r):=by
  intro r
  induction r with
  | nil=>intro k h; rw [A9,(D2 h).1,zn (by simp)]; rfl
  | cons s r b=>
   intro k h
   obtain ⟨j,e,o,p,c⟩:=C3 h
   have hs:=hl.mem c
   have d:=hl.len
   obtain ⟨m,g⟩:=i s c
   have f:=M1s s hs R6 M4 (fun x n=>Oq x (hs.arg x n)) _ (fun k'=>Uc l s k k') (C0.alls D9 r) (by rw [w1 (by omega),b (k+1) o]) (fun k'=>Uc.eq_1 l s k k')
   rw [A9,j,zp rfl,e,ob]
   simp only [K1v s hs,Oq _ hs.place,Oq _ hs.value,m hs.thens,g hs.elses,ifd,ob,f]
   simp only [C0.alls,C0.all_eq,D9]
   generalize Bg s=a2
   generalize s.Place.all R6=a3
   generalize s.Value.all R6=a4
   generalize C0.alls D9 s.Then=a5
   generalize C0.alls D9 s.Else=a6
   cases a2 <;> cases a3 <;> cases a4 <;> cases a5 <;> cases a6 <;> simp
 rw [Q6]
 exact a l 0 rfl
def U14 (d:B0):Bool:=(d.TypeV.all fun t=>!Gs t)&&d.Value.all R6&&Bo d&&C0.alls D9 d.Body
theorem E1c (l:List B0):OkD l→M7 l=some (B0.alls U14 l):=by
 induction l using B0.inds with
 | h l i=>
 intro hl
 have a:∀ (r:List B0) (k:Nat),l.drop k=r→B9 l k=some (B0.alls U14 r):=by
  intro r
  induction r with
  | nil=>intro k h; rw [B9,(D2 h).1,zn (by simp)]; rfl
  | cons d r b=>
   intro k h
   obtain ⟨j,f,n,o,c⟩:=C3 h
   have hs:=hl.mem c
   have e:=hl.len
   obtain ⟨m,g⟩:=i d c
   rw [B9,j,zp rfl,f,ob,Ez,ob]
   simp only [X1m _ hs.type,Oq _ hs.value,m hs.params,g hs.vars,Yx _ hs.body,ifd,ob,w1 (show k≤BB by omega),b (k+1) n]
   have hi:(bif (!(Th d.Init)) then true else (bif (d.TypeV.Kind == 0) then (bif (decide (d.Init < 0)) then true else (decide (d.Init > 1))) else false)) = !(Bo d):=by
    unfold Bo Th E2 bne
    rw [P14,Q14 d.Init 1]
    cases decide (d.Init≥-1048576) <;> cases decide (d.Init≤1048576) <;> cases (d.TypeV.Kind == 0) <;> cases decide (d.Init≥0) <;> cases decide (d.Init≤1) <;> rfl
   rw [hi]
   simp only [B0.alls,B0.all_eq,U14]
   generalize Bo d=a2
   generalize (d.TypeV.all fun t=>!Gs t)=a3
   generalize d.Value.all R6=a4
   generalize B0.alls U14 d.Params=a5
   generalize B0.alls U14 d.Vars=a6
   generalize C0.alls D9 d.Body=a1
   cases a1 <;> cases a2 <;> cases a3 <;> cases a4 <;> cases a5 <;> cases a6 <;> simp
 rw [M7]
 exact a l 0 rfl
theorem O1s (l:List B0):B0.alls Z6 l=true→B0.alls U14 l=B0.alls Uf l:=by
 induction l using B0.inds with
 | h l b=>
 induction l with
 | nil=>intro _; rfl
 | cons d r a=>
  intro h
  simp only [B0.alls,B0.all_eq,zqi] at h
  obtain ⟨⟨h1,h2,c⟩,i⟩:=h
  obtain ⟨e,f⟩:=b d zqp
  have j:d.TypeV.all Xa=true:=by
   unfold Z6 at h1
   simp only [zqi] at h1
   exact h1.1.1.1.1.1.1.2
  simp only [B0.alls,B0.all_eq,U14,Uf,← W1m d.TypeV j,e h2,f c,a (fun x g=>b x (zqq _ g)) i]
theorem L1v (p:S0)(h:OkP p):Xn p=some ⟨Q12 p,R12 p⟩:=by
 have h1:=B0.ndss_bulk p.Decls
 have h2:=C0.ndss_bulk p.Body
 have a:B0.bulks p.Decls≤BB:=h.decls
 have b:C0.bulks p.Body≤BB:=h.body
 have hr:B8 ⟨0,0⟩ (B0.ndss p.Decls+C0.ndss p.Body):=⟨Int.le_refl _,Int.le_refl _,by simp only; omega⟩
 unfold Xn
 rw [G1l p.Decls h.decls _ (hr.less (by omega)),ob,show (1:Int)=((1:Nat):Int) from rfl,U18 p.Body h.body 1 _ (by unfold BB at *; omega) (B8.x hr),ob,Iz]
 unfold szX Q12 R12
 simp only
 rw [show (0:Int)+((B0.ndss p.Decls+C0.ndss p.Body:Nat):Int)=((B0.ndss p.Decls+C0.ndss p.Body:Nat):Int) by omega,show max (0:Int) ((max (B0.dpss p.Decls) (C0.dpss p.Body 1):Nat):Int)=((max (B0.dpss p.Decls) (C0.dpss p.Body 1):Nat):Int) by omega]
theorem S20 (a b:Bool):(bif a then (bif a then b else default) else false)=(a&&b):=by cases a <;> rfl
theorem P1s (p:S0)(h:OkP p):Zn p=some (F6 p):=by
 unfold Zn
 simp only [L1v p h,M1i _ h.decls,Q15 _ h.body,W1f _ h.decls,S12 _ h.body,E1c _ h.decls,Yx _ h.body,ifd,ob,Y1m,S20]
 unfold F6
 cases hf:B0.alls Z6 p.Decls with
 | false=>unfold Gn; rfl
 | true=>rw [O1s p.Decls hf]
theorem I1l {p:S0}(h:p.bulk≤4200000):OkP p:=by
 cases p
 simp only [S0.bulk] at h
 exact ⟨by unfold OkD BB; simp only; omega,by unfold OkS BB; simp only; omega⟩
set_option maxRecDepth 100000
set_option maxHeartbeats 4000000
def NN (p:UInt8→Bool):Str→Prop
 | []=>True
 | c::_=>p c=false
def dg (c:UInt8):Bool:=J6 c.toNat
def M1v (s:Str):Nat:=s.foldl (fun a c=>10 * a+(c.toNat - 48)) 0
theorem M19 (m:Nat)(h:m < 10):(UInt8.ofNat (48+m)).toNat=48+m:=by simp; omega
theorem Gl (k:Nat):M1v (Lib.decDigits k)=k∧(∀ c∈Lib.decDigits k,dg c=true)∧Lib.decDigits k≠[]:=by
 induction k using Nat.strongRecOn with
 | ind k d=>
 have one:∀ m,m < 10→dg (UInt8.ofNat (48+m))=true:=fun m hm=>by
  unfold dg J6
  rw [M19 m hm,zqj (by omega),zqj (by omega)]; rfl
 rw [Lib.decDigits]
 by_cases h:k < 10
 ·rw [dif_pos h]
  refine ⟨?_,?_,by simp⟩
  ·simp only [M1v,List.foldl_cons,List.foldl_nil,M19 k h]; omega
  ·intro c hc
   simp only [List.mem_singleton] at hc
   rw [hc]; exact one k h
 ·rw [dif_neg h]
  obtain ⟨a,b,e⟩:=d (k / 10) (by omega)
  refine ⟨?_,?_,by simp⟩
  ·unfold M1v at a ⊢
   rw [List.foldl_append,a,List.foldl_cons,List.foldl_nil,M19 _ (by omega)]; omega
  ·intro c hc
   rw [List.mem_append] at hc
   rcases hc with hc | hc
   ·exact b c hc
   ·simp only [List.mem_singleton] at hc
    rw [hc]; exact one _ (by omega)
theorem T20 {o:Int}(h:8≤o)(h':o≤20):∃ l m:Nat,lv o=l∧(bif lv o == 3 then 4 else lv o)=(m:Int)∧1≤l∧l≤m∧m≤5:=by
 rcases Hu h h' with rfl | rfl | rfl | rfl | rfl | rfl | rfl | rfl | rfl | rfl | rfl | rfl | rfl
 all_goals first | exact ⟨4,4,rfl,rfl,by omega,by omega,by omega⟩ | exact ⟨5,5,rfl,rfl,by omega,by omega,by omega⟩ | exact ⟨3,4,rfl,rfl,by omega,by omega,by omega⟩ | exact ⟨2,2,rfl,rfl,by omega,by omega,by omega⟩ | exact ⟨1,1,rfl,rfl,by omega,by omega,by omega⟩
theorem N1x {o:Int}(h:8≤o)(n:Int)(nm:Str)(ks:List A0):(A0.mk o n nm ks).place=true→False:=by
 intro hp
 rw [A0.place_eq] at hp
 simp only [zqn.mpr (show o≠3 by omega),zqn.mpr (show o≠4 by omega),zqn.mpr (show o≠5 by omega),zql] at hp
 cases hp
theorem V18:∀ (i:Nat) (s:Str),Yg i s=true→∀ c∈s,ld c=true
 | _,[],_,c,hc=>by cases hc
 | i,a::s,h,c,hc=>by
  simp only [Yg,zqi] at h
  cases hc with
  | head=>
   have h1:=h.1
   unfold R1f at h1
   unfold ld
   cases h2:M6 a.toNat with
   | true=>rfl
   | false=>rw [h2] at h1; simp only [Bool.false_or,zqi] at h1; exact h1.2
  | tail _ hc=>exact V18 (i+1) s h.2 c hc
theorem X1f {s:Str}(h:W3 s=true):(∀ c∈s,ld c=true)∧(∃ c t,s=c::t∧M6 c.toNat=true)∧Nn s=false:=by
 unfold W3 at h
 cases h1:(bif decide ((s.length:Int)≤12) then word s else false) with
 | false=>rw [h1] at h; cases h
 | true=>
  rw [h1] at h
  have h2:word s=true:=by
   cases hl:decide ((s.length:Int)≤12) with
   | false=>rw [hl] at h1; cases h1
   | true=>rw [hl] at h1; exact h1
  unfold word at h2
  rw [zqi] at h2
  refine ⟨V18 0 s h2.1,?_,by simpa using h⟩
  match s,h2 with
  | [],h2=>exact absurd h2.2 (by decide)
  | c::t,h2=>
   refine ⟨c,t,rfl,?_⟩
   have a:=h2.1
   simp only [Yg,zqi,R1f] at a
   simpa using a.1
structure Jz (e:A0):Prop where
 f:Uh e
 n:e.all L6=true
theorem Jz.kid {e k:A0}(h:Jz e)(hk:k∈e.Kids):Jz k:=by
 have h1:=h.n
 rw [A0.all_eq,zqi] at h1
 exact ⟨h.f.kid hk,A0.alls_mem h1.2 hk⟩
set_option maxHeartbeats 2000000
structure Qs (l:List C0):Prop where
 form:C0.alls G7 l=true
 numb:C0.alls D9 l=true
 ok:OkS l
theorem C0.alls_mem {p:C0→Bool}:∀ {l:List C0} {t:C0},C0.alls p l=true→t∈l→t.all p=true
 | x::r,t,h,hm=>by
  simp only [C0.alls,zqi] at h
  cases hm with
  | head=>exact h.1
  | tail _ hm=>exact C0.alls_mem h.2 hm
abbrev z:A0:=⟨0,0,[],[]⟩
inductive Xk:C0→Prop
 | set (pl va) (h:Uh pl) (h':Uh va):Xk (.mk 0 pl va [] [] 0 0 0 [] [] [])
 | call (pl nm ar) (h:Uh pl) (h':∀ a∈ar,Uh a):Xk (.mk 1 pl z nm ar 0 0 0 [] [] [])
 | rel (pl nm) (h:Uh pl):Xk (.mk 2 pl z nm [] 0 0 0 [] [] [])
 | out (va) (h:Uh va):Xk (.mk 3 z va [] [] 0 0 0 [] [] [])
 | wait (n) (h:E3 n):Xk (.mk 4 z z [] [] n 0 0 [] [] [])
 | cond (va th el) (h:Uh va) (h1:Qs th) (h2:Qs el):Xk (.mk 5 z va [] [] 0 0 0 [] th el)
 | loop (va n th) (h:Uh va) (hn:E3 n) (h1:Qs th):Xk (.mk 6 z va [] [] n 0 0 [] th [])
 | count (nm lo hi th) (h:E3 lo) (h':E3 hi) (h1:Qs th):Xk (.mk 7 z z nm [] 0 lo hi [] th [])
 | settle (ns) (h:∀ n∈ns,E3 n):Xk (.mk 8 z z [] [] 0 0 0 ns [] [])
theorem X1a:∀ (l:List Int) (a:Int),Vh a l=true→∀ n∈l,E3 n
 | x::r,a,h,n,hn=>by
  simp only [Vh,zqi] at h
  cases hn with
  | head=>
   have h1:=h.1
   unfold E2 at h1
   simp at h1
   unfold E3
   omega
  | tail _ hn=>exact X1a r x h.2 n hn
theorem Q1s (s:C0)(hs:L10 s)(hf:s.all G7=true)(hn:s.all D9=true):Xk s:=by
 rw [C0.all_eq,zqi,zqi] at hf hn
 obtain ⟨q,ft,A⟩:=hf
 obtain ⟨r,D,z⟩:=hn
 have p:Qs s.Then:=⟨ft,D,hs.thens⟩
 have x:Qs s.Else:=⟨A,z,hs.elses⟩
 unfold G7 at q
 unfold D9 at r
 simp only [zqi] at q r
 obtain ⟨⟨⟨⟨⟨⟨⟨⟨⟨⟨⟨l,e⟩,F⟩,d⟩,k⟩,g⟩,E⟩,j⟩,f⟩,i⟩,c⟩,b⟩:=q
 obtain ⟨⟨⟨B,C⟩,y⟩,m⟩:=r
 have t:s.Place.all B5=true→Uh s.Place:=fun h=>⟨h,B,hs.place⟩
 have o:s.Value.all B5=true→Uh s.Value:=fun h=>⟨h,C,hs.value⟩
 have w:∀ a∈s.Args,Uh a:=fun a ha=>⟨A0.alls_mem E ha,A0.alls_mem y ha,hs.arg a ha⟩
 obtain ⟨v,pl,va,nm,ar,n,lo,hi,ns,th,el⟩:=s
 simp only at *
 have hv:v=0∨v=1∨v=2∨v=3∨v=4∨v=5∨v=6∨v=7∨v=8:=by
  unfold okV at l
  by_cases h1:v < 0
  ·rw [zqj h1] at l; cases l
  ·by_cases h2:v > 8
   ·rw [zqs h1,zqj h2] at l; cases l
   ·omega
 rcases hv with rfl | rfl | rfl | rfl | rfl | rfl | rfl | rfl | rfl
 ·simp [oF,uPl,uVa,uNm,uNn,uTh] at e d k g j f i c b
  obtain ⟨rfl,rfl⟩:=f
  subst k g j i c b
  exact .set _ _ (t e) (o d)
 ·simp [oF,uPl,uVa,uNm,uNn,uTh] at e d k g j f i c b
  obtain ⟨rfl,rfl⟩:=f
  obtain rfl:=Hd d
  subst j i c b
  exact .call _ _ _ (t e) w
 ·simp [oF,uPl,uVa,uNm,uNn,uTh] at e d k g j f i c b
  obtain ⟨rfl,rfl⟩:=f
  obtain rfl:=Hd d
  subst g j i c b
  exact .rel _ _ (t e)
 ·simp [oF,uPl,uVa,uNm,uNn,uTh] at e d k g j f i c b
  obtain ⟨rfl,rfl⟩:=f
  obtain rfl:=Hd e
  subst k g j i c b
  exact .out _ (o d)
 ·simp [oF,uPl,uVa,uNm,uNn,uTh] at e d k g j f i c b
  obtain ⟨rfl,rfl⟩:=f
  obtain rfl:=Hd e
  obtain rfl:=Hd d
  subst k g i c b
  simp [Bg,E2] at m
  exact .wait _ (by unfold E3; omega)
 ·simp [oF,uPl,uVa,uNm,uNn,uTh] at e d k g j f i c b
  obtain ⟨rfl,rfl⟩:=f
  obtain rfl:=Hd e
  subst k g j i
  exact .cond _ _ _ (o d) p x
 ·simp [oF,uPl,uVa,uNm,uNn,uTh] at e d k g j f i c b
  obtain ⟨rfl,rfl⟩:=f
  obtain rfl:=Hd e
  subst k g i b
  simp [Bg,E2] at m
  exact .loop _ _ _ (o d) (by unfold E3; omega) p
 ·simp [oF,uPl,uVa,uNm,uNn,uTh] at e d k g j f i c b
  obtain rfl:=Hd e
  obtain rfl:=Hd d
  subst g j i b
  simp [Bg,E2] at m
  exact .count _ _ _ _ (by unfold E3; omega) (by unfold E3; omega) p
 ·simp [oF,uPl,uVa,uNm,uNn,uTh] at e d k g j f i c b
  obtain ⟨rfl,rfl⟩:=f
  obtain rfl:=Hd e
  obtain rfl:=Hd d
  subst k g j c b
  have u:(E2 (ns.length:Int) 1 32&&Vh (-1) ns)=true:=m
  rw [zqi] at u
  exact .settle _ (X1a ns _ u.2)
theorem Qs.mem {l:List C0}(h:Qs l){s:C0}(hs:s∈l):Xk s:=Q1s s (h.ok.mem hs) (C0.alls_mem h.form hs) (C0.alls_mem h.numb hs)
def exl:Bool→List A0→Str
 | _,[]=>[]
 | f,x::r=>(bif f then [] else [44,32])++x.text++exl false r
def nul:Bool→List Int→Str
 | _,[]=>[]
 | f,x::r=>(bif f then [] else [44,32])++Lib.itoa x++nul false r
mutual
def C0.text:C0→Str→Str
 | .mk v pl va nm ar n lo hi ns th el,m=>
  bif v == 5 then [105,102,32]++va.text++([32,123,10]++C0.lines th (m++[9])++(m++[125]))++(bif decide ((el.length:Int) > 0) then [32,101,108,115,101]++([32,123,10]++C0.lines el (m++[9])++(m++[125])) else [])
  else bif v == 6 then [119,104,105,108,101,32]++va.text++([32,108,105,109,105,116,32]++Lib.itoa n)++([32,123,10]++C0.lines th (m++[9])++(m++[125]))
  else bif v == 7 then [102,111,114,32]++nm++[32,61,32]++Lib.itoa lo++[32,116,111,32]++Lib.itoa hi++([32,123,10]++C0.lines th (m++[9])++(m++[125]))
  else (bif v == 0 then pl.text++[32,61,32]++va.text else bif v == 1 then pl.text++([32,61,32,99,97,108,108,32]++nm++[40])++exl true ar++[41]
   else bif v == 2 then pl.text++([32,61,32,114,101,108,101,97,115,101,32]++nm) else bif v == 3 then [111,117,116,112,117,116,32]++va.text
   else bif v == 4 then [119,97,105,116,32]++Lib.itoa n else bif v == 8 then [115,101,116,116,108,101,32]++nul true ns else [])++[59]
def C0.lines:List C0→Str→Str
 | [],_=>[]
 | x::r,m=>m++C0.text x m++[10]++C0.lines r m
end
theorem V1p (x:C0)(r:List C0)(m:Str):C0.lines (x::r) m=m++C0.text x m++[10]++C0.lines r m:=by simp only [C0.lines]
set_option maxHeartbeats 4000000
structure O1w (l:List B0):Prop where
 form:B0.alls Z6 l=true
 numb:B0.alls Uf l=true
 ok:OkD l
theorem B0.alls_mem {p:B0→Bool}:∀ {l:List B0} {t:B0},B0.alls p l=true→t∈l→t.all p=true
 | x::r,t,h,hm=>by
  simp only [B0.alls,zqi] at h
  cases hm with
  | head=>exact h.1
  | tail _ hm=>exact B0.alls_mem h.2 hm
def Kb (nm:Str)(t:F0):Str:=nm++[58,32]++t.text
def Bw (d:B0):Str:=bif d.Init != 0 then [32,61,32]++(bif d.TypeV.Kind == 0 then [116,114,117,101] else Lib.itoa d.Init) else []
def V14 (d:B0):Str:=[118,97,114,32]++Kb d.Name d.TypeV++Bw d++[59,10]
def W14:Bool→List B0→Str
 | _,[]=>[]
 | f,x::r=>(bif f then [] else [44,32])++Kb x.Name x.TypeV++W14 false r
def Cw:List B0→Str
 | []=>[]
 | x::r=>[9]++V14 x++Cw r
def W1p (d:B0):Str:=[102,117,110,99,32]++d.Name++[40]++W14 true d.Params++[41,58,32]++d.TypeV.text++[32,123,10]++Cw d.Vars++C0.lines d.Body [9]++[9,114,101,116,117,114,110,32]++d.Value.text++[59,10,125,10]
def Rs (d:B0):Str:=
 bif d.Kind == 4 then V14 d else bif d.Kind == 6 then W1p d else bif d.Kind == 0 then [116,121,112,101,32]++d.Name++[32,61,32]++d.TypeV.text++[59,10]
 else bif d.Kind == 1 then [115,101,99,114,101,116,32]++Kb d.Name d.TypeV++[59,10] else bif d.Kind == 2 then [112,117,98,108,105,99,32]++Kb d.Name d.TypeV++[59,10]
 else bif d.Kind == 3 then [114,97,110,100,111,109,32]++Kb d.Name d.TypeV++[59,10] else [104,97,116,99,104,32]++Kb d.Name d.TypeV++[32,61,32]++d.Value.text++[59,10]
def Co:List B0→Str
 | []=>[]
 | x::r=>Rs x++Co r
def Wh (p:S0):Str:=Co p.Decls++[98,101,103,105,110,10]++C0.lines p.Body [9]++[101,110,100,10]
structure U20 (p:S0):Prop where
 decls:O1w p.Decls
 body:Qs p.Body
 small:B0.bulks p.Decls+C0.bulks p.Body≤1048576
theorem N1v {p:S0}(a:OkP p)(hs:B0.bulks p.Decls+C0.bulks p.Body≤1048576)(h:F6 p=0):U20 p:=by
 unfold F6 Gn at h
 cases hb:(bif decide ((Q12 p:Int) > 1024) then true else decide ((R12 p:Int) > 12)) <;> rw [hb] at h
 ·cases hf:(B0.alls Z6 p.Decls&&C0.alls G7 p.Body) <;> rw [hf] at h
  ·cases h
  ·cases hn:(B0.alls Pb p.Decls&&C0.alls Ga p.Body) <;> rw [hn] at h
   ·cases h
   ·cases hu:(B0.alls Uf p.Decls&&C0.alls D9 p.Body) <;> rw [hu] at h
    ·cases h
    ·rw [zqi] at hf hu
     exact ⟨⟨hf.1,hu.1,a.decls⟩,⟨hf.2,hu.2,a.body⟩,hs⟩
 ·cases h
theorem R1s {α:Type}(s u:List α)(hs:s.length≤BB)(hl:s.length=u.length)(p:α→α→Bool)(F:Int→Option Bool)(K:Option Bool)
  (a:∀ (k:Nat) x y,x∈s→idx s k=some x→idx u k=some y→decide ((k:Int) < (s.length:Int))=true→F k=if p x y=true then F (IntKind.i64.wrap ((k:Int)+1)) else some false)
  (b:∀ k:Nat,decide ((k:Int) < (s.length:Int))=false→F k=K) :
  ∀ (r:List α) (k:Nat),s.drop k=r→F (k:Int)=if eqL p r (u.drop k)=true then K else some false
 | [],k,h=>by
  rw [b k (D2 h).1,List.drop_eq_nil_of_le (by have:=(D2 h).2; omega)]; rfl
 | x::r,k,h=>by
  obtain ⟨f,c,i,j,d⟩:=C3 h
  obtain ⟨y,e,g,f3⟩:=S14 (l:=u) (k:=k) (by omega)
  rw [a k x y d c e f,w1 (by omega),R1s s u hs hl p F K a b r (k+1) i,g,eqL]
  cases p x y <;> simp
theorem N19 {α:Type}(s u:List α)(hs:s.length≤BB)(hl:s.length=u.length)(p:α→α→Bool)(F:Int→Option Bool)(K:Option Bool)
  (a:∀ (k:Nat) x y,x∈s→idx s k=some x→idx u k=some y→decide ((k:Int) < (s.length:Int))=true→F k=if p x y=true then F (IntKind.i64.wrap ((k:Int)+1)) else some false)
  (b:∀ k:Nat,decide ((k:Int) < (s.length:Int))=false→F k=K):F 0=if eqL p s u=true then K else some false:=
 R1s s u hs hl p F K a b s 0 rfl
theorem K1z (b:Bool):(if b=true then some true else some false:Option Bool)=some b:=by cases b <;> rfl
mutual
def C0.same:C0→C0→Bool
 | .mk v pl va nm ar n lo hi ns th el,t=>(v == t.Verb&&nm == t.Name&&n == t.NV&&lo == t.Low&&hi == t.High)&&eqL (fun x y=>x == y) ns t.Numbers&&pl.same t.Place&&va.same t.Value&&eqL A0.same ar t.Args&&C0.sames th t.Then&&C0.sames el t.Else
def C0.sames:List C0→List C0→Bool
 | [],[]=>true
 | x::r,y::s=>C0.same x y&&C0.sames r s
 | [],_::_=>false
 | _::_,[]=>false
end
theorem C0.sames_eq:∀ l m:List C0,C0.sames l m=eqL C0.same l m
 | [],[]=>rfl
 | x::r,y::s=>by simp only [C0.sames,eqL,C0.sames_eq r s]
 | [],_::_=>rfl
 | _::_,[]=>rfl
def stA (s t:C0):Bool:=s.Verb == t.Verb&&s.Name == t.Name&&s.NV == t.NV&&s.Low == t.Low&&s.High == t.High
theorem C0.same_eq (s t:C0):s.same t=(stA s t&&eqL (fun x y=>x == y) s.Numbers t.Numbers&&s.Place.same t.Place&&s.Value.same t.Value&&eqL A0.same s.Args t.Args&&C0.sames s.Then t.Then&&C0.sames s.Else t.Else):=by
 cases s; rfl
theorem nbo (a b:Bool):(bif !a then true else !b) = !(a&&b):=by cases a <;> rfl
theorem O1x (a b:Bool):(bif a then b else false)=(a&&b):=by cases a <;> rfl
theorem O1v {α:Type}[Inhabited α](c:Bool)(X:Option α){a:α}(h:X=some a):(if c=true then X else some default)=some (bif c then a else default):=by subst h; cases c <;> rfl
theorem E22 {α β:Type}(l:List α)(m:List β):((l.length:Int) == (m.length:Int))=(l.length == m.length):=by
 by_cases h:l.length=m.length
 ·simp [h]
 ·rw [zqn.mpr h,zqn.mpr (by omega)]
theorem Y1a (l:List C0):OkS l→∀ m,T7 l m=some (C0.sames l m):=by
 induction l using C0.inds with
 | h l s=>
 intro hl m
 rw [T7,C0.sames_eq]
 by_cases hh:l.length=m.length
 ·rw [zn (by simp; omega),N19 l m hl.len hh C0.same (Za l m) (some true)
   (fun k x y q h1 h2 t=>by
    have i:=hl.mem q
    obtain ⟨u,r⟩:=s x q
    rw [Za,t,zp rfl,h1,ob,h2,ob]
    simp only [bne,nbo,C0.same_eq,E22]
    unfold stA
    generalize (x.Verb == y.Verb&&x.Name == y.Name&&x.NV == y.NV&&x.Low == y.Low&&x.High == y.High)=A
    cases A with
    | false=>simp
    | true=>
    by_cases g1:x.Args.length=y.Args.length
    ·by_cases g2:x.Numbers.length=y.Numbers.length
     ·rw [beq_iff_eq.mpr g1,beq_iff_eq.mpr g2,zn (by simp),
       N19 x.Args y.Args i.args g1 A0.same (Ab l m x y k) (O8 l m x y k 0)
        (fun j a b ha p o n=>by rw [Ab,n,zp rfl,p,ob,o,ob,Pq a (i.arg a ha),ob]; cases a.same b <;> simp)
        (fun j h=>by rw [Ab,h,zn (by simp)]),
       N19 x.Numbers y.Numbers i.nums g2 (fun x y=>x == y) (O8 l m x y k) _
        (fun j a b ha p o n=>by rw [O8,n,zp rfl,p,ob,o,ob]; unfold bne; cases a == b <;> simp)
        (fun j h=>by rw [O8,h,zn (by simp)])]
      simp only [nbo,Pq _ i.place,Pq _ i.value,u i.thens,r i.elses,O1v _ _ rfl,ob]
      generalize eqL (fun x y=>x == y) x.Numbers y.Numbers=b
      generalize x.Place.same y.Place=c
      generalize x.Value.same y.Value=d
      generalize eqL A0.same x.Args y.Args=e
      generalize C0.sames x.Then y.Then=f
      generalize C0.sames x.Else y.Else=g
      cases b <;> cases c <;> cases d <;> cases e <;> cases f <;> cases g <;> rfl
     ·rw [Ij _ g2,zqn.mpr g2]; simp
    ·rw [Ij _ g1,zqn.mpr g1]; simp)
   (fun k h=>by rw [Za,h,zn (by simp)]),K1z]
 ·rw [zp (by simp; omega),Ij _ hh]
mutual
def B0.same:B0→B0→Bool
 | .mk k nm t i v ps vs bd,e=>(k == e.Kind&&nm == e.Name&&i == e.Init)&&t.same e.TypeV&&v.same e.Value&&B0.sames ps e.Params&&B0.sames vs e.Vars&&C0.sames bd e.Body
def B0.sames:List B0→List B0→Bool
 | [],[]=>true
 | x::r,y::s=>B0.same x y&&B0.sames r s
 | [],_::_=>false
 | _::_,[]=>false
end
theorem B0.sames_eq:∀ l m:List B0,B0.sames l m=eqL B0.same l m
 | [],[]=>rfl
 | x::r,y::s=>by simp only [B0.sames,eqL,B0.sames_eq r s]
 | [],_::_=>rfl
 | _::_,[]=>rfl
theorem B0.same_eq (s t:B0):s.same t=((s.Kind == t.Kind&&s.Name == t.Name&&s.Init == t.Init)&&s.TypeV.same t.TypeV&&s.Value.same t.Value&&B0.sames s.Params t.Params&&B0.sames s.Vars t.Vars&&C0.sames s.Body t.Body):=by
 cases s; rfl
theorem Z1m (l:List B0):OkD l→∀ m,M9 l m=some (B0.sames l m):=by
 induction l using B0.inds with
 | h l o=>
 intro hl m
 rw [M9,B0.sames_eq]
 by_cases hh:l.length=m.length
 ·rw [zn (by simp; omega),N19 l m hl.len hh B0.same (Bb l m) (some true)
   (fun k x y b h1 h2 i=>by
    have a:=hl.mem b
    obtain ⟨j,n⟩:=o x b
    rw [Bb,i,zp rfl,h1,ob,h2,ob]
    simp only [bne,nbo,O1x,I1h _ a.type,Pq _ a.value,j a.params,n a.vars,Y1a _ a.body,O1v _ _ rfl,ob,B0.same_eq]
    generalize (x.Kind == y.Kind&&x.Name == y.Name&&x.Init == y.Init)=A
    generalize x.TypeV.same y.TypeV=c
    generalize x.Value.same y.Value=d
    generalize B0.sames x.Params y.Params=e
    generalize B0.sames x.Vars y.Vars=f
    generalize C0.sames x.Body y.Body=g
    cases A <;> cases c <;> cases d <;> cases e <;> cases f <;> cases g <;> rfl)
   (fun k h=>by rw [Bb,h,zn (by simp)]),K1z]
 ·rw [zp (by simp; omega),Ij _ hh]
theorem K1e (l:List C0):C0.sames l l=true:=by
 induction l using C0.inds with
 | h l d=>
 rw [C0.sames_eq]
 refine Tm l fun x e=>?_
 obtain ⟨b,c⟩:=d x e
 rw [C0.same_eq,b,c,Aw,Aw,Tm x.Args (fun a _=>Aw a),Tm x.Numbers (fun a _=>by simp)]
 simp [stA]
theorem X1p (l:List B0):B0.sames l l=true:=by
 induction l using B0.inds with
 | h l c=>
 rw [B0.sames_eq]
 refine Tm l fun x d=>?_
 obtain ⟨a,b⟩:=c x d
 rw [B0.same_eq,a,b,Aw,D1s,K1e]
 simp
def S1i (p q:S0):Bool:=B0.sames p.Decls q.Decls&&C0.sames p.Body q.Body
theorem J1l (p q:S0)(h:OkP p):Cl p q=some (S1i p q):=by
 unfold Cl
 simp only [Z1m _ h.decls,Y1a _ h.body,O1v _ _ rfl,ob,S1i]
 cases B0.sames p.Decls q.Decls <;> rfl
def skp:Bool→List UInt8→Nat
 | _,[]=>0
 | false,c::r=>if (c.toNat:Int) == 35 then skp true r+1 else if (c.toNat:Int) == 32||((c.toNat:Int) == 9||(c.toNat:Int) == 10) then skp false r+1 else 0
 | true,c::r=>if (c.toNat:Int) == 10 then skp false r+1 else skp true r+1
theorem T12:∀ (b:Bool) (r:List UInt8),skp b r≤r.length
 | true,[]=>zqr _
 | false,[]=>zqr _
 | false,c::r=>by
  have h1:=T12 true r
  have h2:=T12 false r
  simp only [skp,zqd]
  split
  ·omega
  ·split <;> omega
 | true,c::r=>by
  have h1:=T12 true r
  have h2:=T12 false r
  simp only [skp,zqd]
  split <;> omega
theorem O1h (s:Str)(hs:s.length≤BB):∀ (r:Str) (k:Nat),s.drop k=r→B7 s k=some ((k+skp false r:Nat):Int)∧Gc s k=some ((k+skp true r:Nat):Int)
 | [],k,h=>by
  have h1:B7 s k=some ((k+skp false []:Nat):Int):=by rw [B7,(D2 h).1]; simp [skp]
  refine ⟨h1,?_⟩
  rw [Gc,(D2 h).1]
  simpa [ob,skp] using h1
 | c::r,k,h=>by
  obtain ⟨h1,h2,f,i,_⟩:=C3 h
  obtain ⟨g,e⟩:=O1h s hs r (k+1) f
  have b:((c.toNat:Int) == 10)=false→Gc s k=some ((k+skp true (c::r):Nat):Int):=fun hc=>by
   rw [Gc,h1,zp rfl,h2,ob]
   have:((c.toNat:Int) != 10)=true:=by simp only [bne,hc]; rfl
   rw [this,zqk,zp rfl,w1 (by omega),e]
   simp only [skp,hc]
   simp; omega
  have d:B7 s k=some ((k+skp false (c::r):Nat):Int):=by
   rw [B7,h1,zp rfl,h2]
   simp only [ob]
   cases a:(c.toNat:Int) == 35 with
   | true=>
    rw [zp rfl,b (by have:=eq_of_beq a; rw [this]; rfl)]
    simp only [skp,a,zt]
    have:((c.toNat:Int) == 10)=false:=by have:=eq_of_beq a; rw [this]; rfl
    simp [this]
   | false=>
    rw [zn (by simp)]
    simp only [w1 (show k≤BB by omega),g,skp,a]
    by_cases h32:(c.toNat:Int)=32 <;> by_cases h9:(c.toNat:Int)=9 <;> by_cases h10:(c.toNat:Int)=10 <;> simp [ob,h32,h9,h10] <;> omega
  refine ⟨d,?_⟩
  cases h10:(c.toNat:Int) == 10 with
  | false=>exact b h10
  | true=>
   rw [Gc,h1,zp rfl,h2,ob]
   have:((c.toNat:Int) != 10)=false:=by simp only [bne,h10]; rfl
   rw [this,zqk,zn (by simp),d]
   have a:((c.toNat:Int) == 35)=false:=by have:=eq_of_beq h10; rw [this]; rfl
   simp [skp,h10,a]
theorem P1v (s:Str)(hs:s.length≤BB)(k:Nat):Dl s k=some ((k+skp false (s.drop k):Nat):Int):=(O1h s hs _ k rfl).1
theorem P1x {s:List UInt8}(b:s≠[])(a:s.all ld=true):I10 s=Nn s:=by
 unfold I10 Nn
 rw [O1k a]
 have hz:((s.length:Int) == 0)=false:=zqn.2 (by have:=List.length_pos_iff.2 b; omega)
 have hn:(s == [])=false:=by cases s with
  | nil=>exact absurd rfl b
  | cons _ _=>rfl
 rw [hz,hn]
 cases hk:Lib.contains kw ([32]++s++[32]) with
 | false=>simp
 | true=>rw [P1n a hk]; rfl
theorem K1l (s:Str)(hs:s.length≤BB):∀ (r:Str) (k:Nat),s.drop k=r→Se s k=some ((k+D6 r:Nat):Int)
 | [],k,h=>by rw [Se,(D2 h).1]; simp [D6,ob]
 | c::r,k,h=>by
  obtain ⟨h1,h2,a,d,_⟩:=C3 h
  have b:=K1l s hs r (k+1) a
  rw [Se,h1,zp rfl,h2,ob,zp rfl,J10,ob,w1 (by omega),b]
  simp only [D6,ld]
  cases hl:M6 c.toNat <;> cases hd:J6 c.toNat <;> simp [Xv,hd,ob] <;> omega
theorem P1h:∀ r:List UInt8,(r.take (D6 r)).all ld=true
 | []=>rfl
 | c::r=>by
  simp only [D6]
  cases h:ld c with
  | false=>rfl
  | true=>simp only [zqk,List.take_succ_cons,List.all_cons,h,P1h r]; rfl
def nv (n:Nat)(l:List UInt8):Nat:=l.foldl (fun n c=>10 * n+(c.toNat - 48)) n
theorem U12 (n:Nat):nv n []=n:=rfl
theorem Is (n:Nat)(c:UInt8)(r:List UInt8):nv n (c::r)=nv (10 * n+(c.toNat - 48)) r:=by unfold nv; rw [List.foldl_cons]
theorem P1w (r:List UInt8):∀ n:Nat,n≤nv n r:=by
 induction r with
 | nil=>intro n; rw [U12]; exact zqr _
 | cons c r a=>intro n; rw [Is]; have:=a (10 * n+(c.toNat - 48)); omega
def Y1f (n:Nat):Int:=if n > 1048576 then 3 else 0
theorem F1c {n:Nat}(h:n > 1048576):Y1f n=3:=zp h
theorem Z1f {n:Nat}(h:n≤1048576):Y1f n=0:=zn (by omega)
def Ss (w:List UInt8):Bool:=decide ((w.length:Int) > 1)&&((w.getD 0 0).toNat:Int) == 48
def Qu (w:List UInt8):Int:=if w.all (fun c=>J6 c.toNat) && !Ss w then Y1f (nv 0 w) else 6
theorem Vm {n:Nat}:J6 n=true ↔ 48≤n∧n≤57:=by
 unfold J6
 by_cases h:48≤n
 ·rw [show decide ((n:Int)≥48)=true from zqj (by omega),zqk,decide_eq_true_iff]; omega
 ·rw [show decide ((n:Int)≥48)=false from zqs (by omega),zql]; simp; omega
theorem Q1v {c:UInt8}(h:J6 c.toNat=true):IntKind.i64.wrap (IntKind.u8.wrap ((c.toNat:Int) - 48))=((c.toNat - 48:Nat):Int):=by
 have:=Vm.1 h
 rw [C1n (by omega) (by omega),wr (by omega) (by omega)]; omega
theorem Q1h (s:Str)(n a:Int):Q8 s n a=if (decide (a < ((s).length:Int)))=true then
  idx s a>>=fun x1=>
  Pd (x1.toNat:Int)>>=fun x2=>
  if (!x2)=true then
   some 6
  else
   idx s a>>=fun c=>
   Q8 s (min (IntKind.i64.wrap ((IntKind.i64.wrap (10 * n))+(IntKind.i64.wrap (IntKind.u8.wrap ((c.toNat:Int) - 48))))) 1048577) (IntKind.i64.wrap (a+1))
 else
  idx s 0>>=fun b=>
  if (bif ((b.toNat:Int) == 48) then (decide (((s).length:Int) > 1)) else false)=true then
   some 6
  else
   if (decide (n > 1048576))=true then
    some 3
   else
    some 0:=Q8.eq_1 s n a
theorem Y1p (s:Str)(hs:s.length≤BB)(b:s≠[]):∀ (r:Str) (k m:Nat) (n:Int),s.drop k=r→(m≤1048576→n=m)→(m > 1048576→n=1048577)→
  Q8 s n k=some (if r.all (fun c=>J6 c.toNat) && !Ss s then Y1f (nv m r) else 6):=by
 intro r
 induction r with
 | nil=>
  intro k m n h hn a
  refine (Q1h s n k).trans ?_
  rw [(D2 h).1,zn (by simp)]
  have j:idx s 0=some (s.getD 0 0):=getD_some (List.length_pos_iff.2 b)
  rw [j,ob]
  have hb:(bif (((s.getD 0 0).toNat:Int) == 48) then decide ((s.length:Int) > 1) else false)=Ss s:=by
   unfold Ss
   cases ((s.getD 0 0).toNat:Int) == 48 <;> simp
  rw [hb]
  rw [U12,List.all_nil,Bool.true_and]
  rcases Bool.eq_false_or_eq_true (Ss s) with hz | hz
  ·rw [hz,zp rfl,zqf,zn (by simp)]
  ·rw [hz,zn (by simp),zqg,zp rfl]
   rcases Nat.lt_or_ge 1048576 m with hm | hm
   ·rw [F1c hm,zp (zqj (by have:=a hm; omega))]
   ·rw [Z1f hm,zn (by have:=hn hm; simp; omega)]
 | cons c r d=>
  intro k m n h hn a
  obtain ⟨h1,h2,i,l,_⟩:=C3 h
  refine (Q1h s n k).trans ?_
  rw [h1,zp rfl,h2,ob,Xv,ob]
  cases hd:J6 c.toNat with
  | false=>simp [hd]
  | true=>
   have hc:=Vm.1 hd
   have f:0≤n∧n≤1048577:=by
    by_cases hm:m > 1048576
    ·have:=a hm; omega
    ·have:=hn (Nat.le_of_not_lt hm); omega
   have e:IntKind.i64.wrap (IntKind.i64.wrap (10 * n)+IntKind.i64.wrap (IntKind.u8.wrap ((c.toNat:Int) - 48)))=10 * n+((c.toNat - 48:Nat):Int):=by
    rw [Q1v hd,wr (n:=10 * _) (by omega) (by omega),wr (by omega) (by omega)]
   have g:=d (k+1) (10 * m+(c.toNat - 48)) (min (10 * n+((c.toNat - 48:Nat):Int)) 1048577) i (fun hm=>by have:=hn (by omega); omega) (fun hm=>by
    by_cases hm2:m > 1048576
    ·have:=a hm2; omega
    ·have:=hn (Nat.le_of_not_lt hm2); omega)
   simp only [zqf,zqa,zw,ob,e,w1 (show k≤BB by omega)]
   rw [g,List.all_cons,hd,Bool.true_and]
   rw [Is]
theorem Z1p (s:Str)(hs:s.length≤BB)(a:s≠[]):Xp s=some (Qu s):=Y1p s hs a s 0 0 0 rfl (fun _=>rfl) (fun h=>by omega)
theorem R1h (s:Str)(hs:s.length≤BB):∀ (r:Str) (k m:Nat),s.drop k=r→m≤1048576→r.all (fun c=>J6 c.toNat)=true→D7 s m k=some (Y1f (nv m r)):=by
 intro r
 induction r with
 | nil=>intro k m h hm _; rw [D7,(D2 h).1,zn (by simp)]; rw [U12,Z1f hm]
 | cons c r a=>
  intro k m h hm ha
  obtain ⟨h1,h2,b,d,_⟩:=C3 h
  rw [List.all_cons,zqi] at ha
  have hc:=Vm.1 ha.1
  have e:IntKind.i64.wrap (IntKind.i64.wrap ((m:Int) * 10)+IntKind.i64.wrap (IntKind.u8.wrap ((c.toNat:Int) - 48)))=((10 * m+(c.toNat - 48):Nat):Int):=by
   rw [Q1v ha.1,wr (n:=(m:Int) * 10) (by omega) (by omega),wr (by omega) (by omega)]; omega
  rw [D7,h1,zp rfl,h2,ob,e]
  rw [Is]
  by_cases hb:10 * m+(c.toNat - 48) > 1048576
  ·rw [zp (zqj (by omega)),F1c (by have:=P1w r (10 * m+(c.toNat - 48)); omega)]
  ·rw [zn (by simp; omega),w1 (by omega)]
   exact a (k+1) _ b (by omega) ha.2
theorem S1h (s:Str)(hs:s.length≤BB)(a:(v:Int)→D7 s 0 0=some v→True):∀ (r:Str) (k:Nat),s.drop k=r→Oa s k=if r.all (fun c=>J6 c.toNat) then D7 s 0 0 else some 6
 | [],k,h=>by rw [Oa,(D2 h).1,zn (by simp)]; rfl
 | c::r,k,h=>by
  obtain ⟨h1,h2,b,d,_⟩:=C3 h
  rw [Oa,h1,zp rfl,h2,ob,K10,ob]
  cases hd:J6 c.toNat with
  | false=>simp [hd]
  | true=>simp only [zqf,zqa,zw,w1 (show k≤BB by omega),S1h s hs a r (k+1) b,List.all_cons,hd,Bool.true_and]
theorem L1l (s:Str)(hs:s.length≤BB)(a:s≠[]):Mm s=some (Qu s):=by
 unfold Mm Qu
 have b:idx s 0=some (s.getD 0 0):=getD_some (List.length_pos_iff.2 a)
 have hr:=S1h s hs (fun _ _=>trivial) s 0 rfl
 rw [b,show (0:Int)=((0:Nat):Int) from rfl,hr]
 unfold Ss
 cases hl:decide ((s.length:Int) > 1) with
 | false=>
  simp only [zqa,zw,ob,zql,Bool.false_and,zqg,Bool.and_true]
  cases ha:s.all (fun c=>J6 c.toNat) with
  | false=>rfl
  | true=>exact R1h s hs s 0 0 rfl (by omega) ha
 | true=>
  simp only [zt,ob,zqk,Bool.true_and]
  cases hz:((s.getD 0 0).toNat:Int) == 48 with
  | true=>simp
  | false=>
   simp only [zqa,zw,zqg,Bool.and_true]
   cases ha:s.all (fun c=>J6 c.toNat) with
   | false=>rfl
   | true=>exact R1h s hs s 0 0 rfl (by omega) ha
def Gi (s:List UInt8):Bool:=s == [46,46]||s == [61,61]||s == [33,61]||s == [60,61]||s == [62,61]||s == [38,38]||s == [124,124]
def A1q:List UInt8:=[59,58,44,46,61,43,45,42,47,37,60,62,33,63,40,41,91,93,123,125]
def Ml (c:UInt8):Bool:=A1q.contains c
theorem A1n (a b:UInt8):Fd [a,b]=some (Gi [a,b]):=by
 unfold Fd E7 Gi
 cases ([a,b] == [46,46]:Bool) <;> cases ([a,b] == [61,61]:Bool) <;> cases ([a,b] == [33,61]:Bool) <;> cases ([a,b] == [60,61]:Bool) <;> cases ([a,b] == [62,61]:Bool) <;> cases ([a,b] == [38,38]:Bool) <;> cases ([a,b] == [124,124]:Bool) <;> simp
set_option maxRecDepth 100000 in
theorem B1n:∀ a:UInt8,Fd [a]=some (Ml a):=by
 have:∀ n:Fin 256,Fd [UInt8.ofNat n.val]=some (Ml (UInt8.ofNat n.val)):=by decide
 intro a
 have h:=this ⟨a.toNat,a.toNat_lt⟩
 simpa using h
theorem S1s (c:UInt8):∀ l:List UInt8,0≤Lib.indexByte l c ↔ l.contains c=true
 | []=>by simp [Lib.indexByte]
 | b::l=>by
  have a:=S1s c l
  have hg:=Lib.indexByte_ge l c
  by_cases hb:b=c
  ·subst hb
   simp [Lib.indexByte]
  ·have h1:(b == c)=false:=zqn.2 hb
   have h2:(c == b)=false:=zqn.2 fun e=>hb e.symm
   unfold Lib.indexByte
   rw [h1,List.contains_cons,h2,Bool.false_or,← a,zn (by simp)]
   by_cases h:Lib.indexByte l c = -1
   ·rw [zp (by rw [h]; rfl),h]
   ·rw [zn (by simpa using h)]
    omega
theorem V20 (c:UInt8)(l:List UInt8):decide (Lib.indexByte l c≥0)=l.contains c:=by
 rw [Bool.eq_iff_iff,decide_eq_true_iff]
 exact S1s c l
theorem So {s r:List UInt8}{k n:Nat}(h:s.drop k=r)(hk:k≤s.length)(hn:n≤r.length):slc s (k:Int) ((k+n:Nat):Int)=some (r.take n):=by
 have hl:r.length=s.length - k:=by rw [← h,List.length_drop]
 unfold slc
 rw [zp ⟨by omega,by omega,by omega⟩,← h]
 simp only [Int.toNat_natCast]
 rw [List.drop_take]
 congr 2
 congr 1
 omega
theorem L1e (c:UInt8)(r:Str):Kh (c::r)=some (if Ml c then [c] else []):=by
 unfold Kh
 have a:idx (c::r) 0=some c:=rfl
 rw [a,ob]
 have hb:=V20 c A1q
 unfold Rz
 rw [ob]
 have e:((c.toNat:Int).toNat.toUInt8)=c:=by simp
 rw [e]
 unfold A1q at hb
 rw [hb]
 unfold Ml A1q
 have h1:slc (c::r) 0 1=some [c]:=by
  have:=So (s:=c::r) (k:=0) (n:=1) rfl (by omega) (by simp)
  simpa using this
 rw [h1]
 split <;> rfl
theorem R1v (c:UInt8):Zj [c]=some (if Ml c then [c] else []):=by
 unfold Zj
 rw [zn (by simp)]
 exact L1e c []
theorem S1v (a b:UInt8)(r:Str):Zj (a::b::r)=some (if Gi [a,b] then [a,b] else if Ml a then [a] else []):=by
 unfold Zj
 have h2:slc (a::b::r) 0 2=some [a,b]:=by
  have:=So (s:=a::b::r) (k:=0) (n:=2) rfl (by omega) (by simp)
  simpa using this
 rw [zp (zqj (by simp only [zqd]; omega)),h2,ob]
 unfold U9 Gi
 rw [h2,L1e]
 cases ([a,b] == [46,46]:Bool) <;> cases ([a,b] == [61,61]:Bool) <;> cases ([a,b] == [33,61]:Bool) <;> cases ([a,b] == [60,61]:Bool) <;> cases ([a,b] == [62,61]:Bool) <;> cases ([a,b] == [38,38]:Bool) <;> cases ([a,b] == [124,124]:Bool) <;> simp [ob]
def nxt (r:List UInt8)(k:Int):I0×Int:=
 if M6 (r.getD 0 0).toNat then
  if Nn (r.take (D6 r)) then (I0.mk 2 (r.take (D6 r)) k,0)
  else if decide (((r.take (D6 r)).length:Int) > 12) then (I0.mk 0 (r.take (D6 r)) k,7)
  else (I0.mk 0 (r.take (D6 r)) k,0)
 else if J6 (r.getD 0 0).toNat then (I0.mk 1 (r.take (D6 r)) k,Qu (r.take (D6 r)))
 else if decide (2≤r.length)&&Gi (r.take 2) then (I0.mk 3 (r.take 2) k,0)
 else if Ml (r.getD 0 0) then (I0.mk 3 [r.getD 0 0] k,0)
 else (I0.mk 3 [] k,6)
theorem X14 {c:UInt8}{t:List UInt8}(h:ld c=true):1≤D6 (c::t):=by simp [D6,h]
theorem Q1x (s:Str)(o:s.length≤8192){c:UInt8}{t:Str}{k:Nat}(h:s.drop k=c::t):Dn s k=some (nxt (c::t) k):=by
 have hs:s.length≤BB:=by unfold BB; omega
 obtain ⟨h1,h2,q,p,_⟩:=C3 h
 have i:=O12 (c::t)
 have d:(c::t).length=s.length - k:=by rw [← h,List.length_drop]
 have e:Lt s k=some ((k+D6 (c::t):Nat):Int):=K1l s hs _ k h
 have a:=So h (by omega) i
 have m:((c::t).take (D6 (c::t))).length≤8192:=by rw [List.length_take]; omega
 have f:((c::t).take (D6 (c::t))).length≤BB:=by unfold BB; omega
 unfold Dn nxt
 rw [h2,ob,J10,ob,e]
 simp only [List.getD_cons_zero]
 cases hl:M6 c.toNat with
 | true=>
  simp only [zt,ob,a]
  rw [show Ce ((c::t).take (D6 (c::t)))=some (Nn ((c::t).take (D6 (c::t)))) from V1a _ (by omega),ob]
  cases Nn ((c::t).take (D6 (c::t))) with
  | true=>rfl
  | false=>
   cases decide ((((c::t).take (D6 (c::t))).length:Int) > 12) <;> rfl
 | false=>
  simp only [zqa,zw,Xv,ob]
  cases hd:J6 c.toNat with
  | true=>
   simp only [zt,ob,a]
   have j:ld c=true:=by unfold ld; rw [hl,hd]; rfl
   have hp:=X14 (t:=t) j
   rw [Z1p _ f (by intro l; have:=congrArg List.length l; rw [List.length_take] at this; simp at this; omega)]
   rfl
  | false=>
   simp only [zqa,zw]
   have g:slc s (k:Int) ((s.length:Nat):Int)=some (c::t):=by
    have:=So (n:=(c::t).length) h (by omega) (zqr _)
    rw [List.take_length] at this
    rw [← this,d]
    congr 1; omega
   rw [g,ob]
   cases t with
   | nil=>
    rw [R1v,ob]
    cases Ml c <;> rfl
   | cons b t=>
    rw [S1v,ob]
    cases hz:Gi [c,b] with
    | true=>simp [hz]
    | false=>cases hy:Ml c <;> simp [hz,hy]
def M1l (x:I0×Int):I0×Int:=if x.2=0 then x else (I0.mk 0 [] 0,x.2)
theorem B1q (w:List UInt8):Qu w=0∨Qu w=3∨Qu w=6:=by
 unfold Qu Y1f
 split
 ·split <;> simp
 ·simp
theorem T1v (s:Str)(w:s.length≤8192){c:UInt8}{t:Str}{k:Nat}(h:s.drop k=c::t):Wn s k=some (M1l (nxt (c::t) k)):=by
 have hs:s.length≤BB:=by unfold BB; omega
 obtain ⟨h1,h2,y,x,_⟩:=C3 h
 have r:=O12 (c::t)
 have d:(c::t).length=s.length - k:=by rw [← h,List.length_drop]
 have g:Lm s k=some ((k+D6 (c::t):Nat):Int):=S1f s hs _ k h
 have e:=So h (by omega) r
 have v:((c::t).take (D6 (c::t))).length≤8192:=by rw [List.length_take]; omega
 have l:((c::t).take (D6 (c::t))).length≤BB:=by unfold BB; omega
 have f:ld c=true→(c::t).take (D6 (c::t))≠[]:=fun a u=>by
  have hp:=X14 (t:=t) a
  have:=congrArg List.length u
  rw [List.length_take] at this
  simp at this
  omega
 unfold Wn nxt
 rw [g,ob,h2,ob,Nq,ob]
 simp only [List.getD_cons_zero]
 cases hl:M6 c.toNat with
 | true=>
  have a:ld c=true:=by unfold ld; rw [hl]; rfl
  simp only [zt,ob,e]
  rw [P12 _ (by omega),P1x (f a) (P1h _),ob]
  cases Nn ((c::t).take (D6 (c::t))) with
  | true=>rfl
  | false=>cases decide ((((c::t).take (D6 (c::t))).length:Int) > 12) <;> rfl
 | false=>
  simp only [zqa,zw,K10,ob]
  cases hd:J6 c.toNat with
  | true=>
   have a:ld c=true:=by unfold ld; rw [hl,hd]; rfl
   simp only [zt,ob,e]
   rw [L1l _ l (f a),ob]
   unfold M1l
   rcases B1q ((c::t).take (D6 (c::t))) with hn | hn | hn <;> rw [hn] <;> rfl
  | false=>
   simp only [zqa,zw]
   rw [wr (n:=(k:Int)+2) (by omega) (by omega),wr (n:=(k:Int)+1) (by omega) (by omega)]
   have j:slc s (k:Int) ((k:Int)+1)=some [c]:=by
    have:=So (n:=1) h (by omega) (by simp)
    simpa using this
   have i:(slc s (k:Int) ((k:Int)+1)>>=fun p=>Fd p>>=fun q=>if q=true then slc s (k:Int) ((k:Int)+1)>>=fun m=>some ((I0.mk 3 m (k:Int)),(0:Int)) else some ((I0.mk 0 [] 0),6))=some (M1l (if Ml c then (I0.mk 3 [c] (k:Int),0) else (I0.mk 3 [] (k:Int),6))):=by
    rw [j,ob,B1n,ob]
    cases Ml c <;> rfl
   cases t with
   | nil=>
    simp only [zqd,zqe] at d
    have:decide ((k:Int)+2≤(s.length:Int))=false:=zqs (by omega)
    rw [this]
    simp only [zqa,zw,ob,zql]
    exact i
   | cons b t=>
    simp only [zqd] at d
    have:decide ((k:Int)+2≤(s.length:Int))=true:=zqj (by omega)
    have o:slc s (k:Int) ((k:Int)+2)=some [c,b]:=by
     have:=So (n:=2) h (by omega) (by simp)
     simpa using this
    rw [this]
    simp only [zt,o,ob,A1n,zqk]
    cases hz:Gi [c,b] with
    | true=>simp [M1l,hz]
    | false=>
     simp only [zqa,zw]
     rw [i]
     simp [hz]
def Gg:Nat→List UInt8→Nat→List I0×Int×Int
 | 0,_,_=>([],0,0)
 | n+1,r,k=>
  match r.drop (skp false r) with
  | []=>([],0,0)
  | c::t=>
   let x:=nxt (c::t) ((k+skp false r:Nat):Int)
   if x.2=0 then
    let z:=Gg n ((c::t).drop x.1.Text.length) (k+skp false r+x.1.Text.length)
    if z.2.2=0 then (x.1::z.1,0,0) else z
   else ([],((k+skp false r:Nat):Int),x.2)
theorem Dk {c:UInt8}{t:List UInt8}{k:Int}(h:(nxt (c::t) k).2=0):1≤(nxt (c::t) k).1.Text.length∧(nxt (c::t) k).1.Text.length≤(c::t).length∧(nxt (c::t) k).1.At=k∧(c::t).take (nxt (c::t) k).1.Text.length=(nxt (c::t) k).1.Text:=by
 have f:=O12 (c::t)
 have key:∀ {n:Nat},1≤n→n≤(c::t).length→1≤((c::t).take n).length∧((c::t).take n).length≤(c::t).length∧(c::t).take ((c::t).take n).length=(c::t).take n:=fun h1 h2=>by
  rw [List.length_take,Nat.min_eq_left h2]; exact ⟨h1,h2,rfl⟩
 revert h
 unfold nxt
 simp only [List.getD_cons_zero]
 cases hl:M6 c.toNat with
 | true=>
  have a:ld c=true:=by unfold ld; rw [hl]; rfl
  obtain ⟨b,d,e⟩:=key (X14 (t:=t) a) f
  simp only [zt]
  split
  ·exact fun _=>⟨b,d,rfl,e⟩
  ·split
   ·intro h; cases h
   ·exact fun _=>⟨b,d,rfl,e⟩
 | false=>
  simp only [zqa,zw]
  cases hd:J6 c.toNat with
  | true=>
   have a:ld c=true:=by unfold ld; rw [hl,hd]; rfl
   obtain ⟨b,d,e⟩:=key (X14 (t:=t) a) f
   exact fun _=>⟨b,d,rfl,e⟩
  | false=>
   simp only [zqa,zw]
   split
   ·rename_i h2
    rw [zqi] at h2
    obtain ⟨b,d,e⟩:=key (n:=2) (by omega) (of_decide_eq_true h2.1)
    exact fun _=>⟨b,d,rfl,e⟩
   ·split
    ·exact fun _=>⟨by simp,by simp,rfl,by simp⟩
    ·intro h; cases h
def Kz (s:Str)(out:List I0)(k:Nat):Option (List I0×Int×Int):=
 if k < s.length then
  Dn s k>>=fun x2=>
  if (x2.2 != 0)=true then some ([],(k:Int),x2.2)
  else if (decide ((out.length+1) * 33≤140737488355328))=true then A6 s (out++[x2.1]) (IntKind.i64.wrap ((k:Int)+((x2.1.Text).length:Int)))
  else none
 else some (out,0,0)
theorem T1s (s:Str)(hs:s.length≤BB)(out:List I0):∀ (r:Str) (k:Nat),s.drop k=r→A6 s out k=Kz s out (k+skp false r)∧Te s out k=Kz s out (k+skp true r)
 | [],k,h=>by
  obtain ⟨h1,h2⟩:=D2 h
  have d:A6 s out k=Kz s out (k+skp false []):=by
   rw [A6,h1,zn (by simp)]
   unfold Kz
   rw [zn (by simp [skp]; omega)]
  refine ⟨d,?_⟩
  rw [Te,h1]
  simpa [ob,skp] using d
 | c::r,k,h=>by
  obtain ⟨h1,h2,j,i,_⟩:=C3 h
  obtain ⟨l,g⟩:=T1s s hs out r (k+1) j
  have e:((c.toNat:Int) == 10)=false→Te s out k=Kz s out (k+skp true (c::r)):=fun hc=>by
   rw [Te,h1,zp rfl,h2,ob]
   have:((c.toNat:Int) != 10)=true:=by simp only [bne,hc]; rfl
   rw [this,zqk,zp rfl,w1 (by omega),g]
   simp only [skp,hc]
   congr 1
   simp; omega
  have d:A6 s out k=Kz s out (k+skp false (c::r)):=by
   have f:A6 s out k=Si s out k c ((c.toNat:Int) == 32||((c.toNat:Int) == 9||(c.toNat:Int) == 10)):=by
    rw [A6,h1,zp rfl,h2,ob]
    cases h32:(c.toNat:Int) == 32 with
    | true=>rfl
    | false=>cases h9:(c.toNat:Int) == 9 <;> simp
   rw [f,Si]
   cases hb:((c.toNat:Int) == 32||((c.toNat:Int) == 9||(c.toNat:Int) == 10)) with
   | true=>
    have a:((c.toNat:Int) == 35)=false:=by
     cases hx:(c.toNat:Int) == 35 with
     | false=>rfl
     | true=>rw [eq_of_beq hx] at hb; cases hb
    rw [zp rfl,w1 (by omega),l]
    simp only [skp,a,hb]
    congr 1
    simp; omega
   | false=>
    rw [zn (by simp)]
    cases a:(c.toNat:Int) == 35 with
    | true=>
     rw [zp rfl,e (by have:=eq_of_beq a; rw [this]; rfl)]
     have b:((c.toNat:Int) == 10)=false:=by have:=eq_of_beq a; rw [this]; rfl
     simp [skp,a,b]
    | false=>
     rw [zn (by simp)]
     simp only [skp,a,hb]
     unfold Kz
     rw [zp (by simpa using i)]
     rfl
  refine ⟨d,?_⟩
  cases b:(c.toNat:Int) == 10 with
  | false=>exact e b
  | true=>
   rw [Te,h1,zp rfl,h2,ob]
   have:((c.toNat:Int) != 10)=false:=by simp only [bne,b]; rfl
   rw [this,zqk,zn (by simp),d]
   have a:((c.toNat:Int) == 35)=false:=by have:=eq_of_beq b; rw [this]; rfl
   simp [skp,b,a]
theorem R1x:∀ (n:Nat) (r:List UInt8) (k:Nat),(Gg n r k).2.2=0→(Gg n r k).2=(0,0)
 | 0,_,_,_=>rfl
 | n+1,r,k,h=>by
  revert h
  unfold Gg
  split
  ·exact fun _=>rfl
  ·rename_i c t _
   simp only
   split
   ·split
    ·exact fun _=>rfl
    ·rename_i hz
     exact fun h=>absurd h hz
   ·rename_i a
    exact fun h=>absurd h a
def Hl (out:List I0)(z:List I0×Int×Int):List I0×Int×Int:=if z.2.2=0 then (out++z.1,0,0) else z
theorem N1l (s:Str)(d:s.length≤8192):∀ (n k:Nat) (out:List I0),s.length - k < n→k≤s.length→out.length≤k→A6 s out k=some (Hl out (Gg n (s.drop k) k))
 | 0,k,out,h,_,_=>by omega
 | n+1,k,out,h,hk,m=>by
  have hs:s.length≤BB:=by unfold BB; omega
  have hb:=T12 false (s.drop k)
  rw [List.length_drop] at hb
  rw [(T1s s hs out _ k rfl).1]
  generalize hj:k+skp false (s.drop k)=j at *
  have e:(s.drop k).drop (skp false (s.drop k))=s.drop j:=by rw [List.drop_drop,hj]
  unfold Kz
  unfold Gg
  rw [e,hj]
  cases hd:s.drop j with
  | nil=>
   obtain ⟨h1,h2⟩:=D2 hd
   rw [zn (by omega)]
   unfold Hl
   simp
  | cons c t=>
   obtain ⟨h1,h2,p,i,_⟩:=C3 hd
   rw [zp i,Q1x s d hd,ob]
   simp only
   by_cases hx:(nxt (c::t) (j:Int)).2=0
   ·obtain ⟨q,l,b3,o⟩:=Dk hx
    have g:(c::t).length=s.length - j:=by rw [← hd,List.length_drop]
    rw [zp hx]
    have b:((nxt (c::t) (j:Int)).2 != 0)=false:=by rw [hx]; rfl
    have a:decide ((out.length+1) * 33≤140737488355328)=true:=zqj (by omega)
    simp only [b,a,zqa,zw,zt]
    generalize hxx:nxt (c::t) (j:Int)=x at *
    rw [wr (by omega) (by omega),show (j:Int)+((x.1.Text).length:Int)=((j+x.1.Text.length:Nat):Int) from rfl]
    have f:(c::t).drop x.1.Text.length=s.drop (j+x.1.Text.length):=by rw [← hd,List.drop_drop]
    rw [f,N1l s d n (j+x.1.Text.length) (out++[x.1]) (by omega) (by omega) (by rw [zqc]; have:[x.1].length=1:=rfl; omega)]
    generalize Gg n (s.drop (j+x.1.Text.length)) (j+x.1.Text.length)=z
    unfold Hl
    by_cases hz:z.2.2=0
    ·rw [zp hz,zp hz,zp rfl,List.append_assoc]
     rfl
    ·rw [zn hz,zn hz,zn hz]
   ·have b:((nxt (c::t) (j:Int)).2 != 0)=true:=by simpa using hx
    rw [zn hx,b,zp rfl]
    unfold Hl
    simp [hx]
theorem O1l (s:Str)(e:s.length≤8192):∀ (n k:Nat) (out:List I0),s.length - k < n→k≤s.length→out.length≤k→(Dl s k>>=fun a=>Wg s out a)=some (Hl out (Gg n (s.drop k) k))
 | 0,k,out,h,_,_=>by omega
 | n+1,k,out,h,hk,o=>by
  have hs:s.length≤BB:=by unfold BB; omega
  have hb:=T12 false (s.drop k)
  rw [List.length_drop] at hb
  rw [P1v s hs k,ob]
  generalize hj:k+skp false (s.drop k)=j at *
  have f:(s.drop k).drop (skp false (s.drop k))=s.drop j:=by rw [List.drop_drop,hj]
  rw [Wg]
  unfold Gg
  rw [f,hj]
  cases hd:s.drop j with
  | nil=>
   obtain ⟨h1,h2⟩:=D2 hd
   rw [h1,zn (by simp)]
   unfold Hl
   simp
  | cons c t=>
   obtain ⟨h1,h2,q,m,_⟩:=C3 hd
   rw [h1,zp rfl,T1v s e hd,ob]
   simp only
   unfold M1l
   by_cases hx:(nxt (c::t) (j:Int)).2=0
   ·obtain ⟨r,l,b3,p⟩:=Dk hx
    have i:(c::t).length=s.length - j:=by rw [← hd,List.length_drop]
    rw [zp hx,zp hx]
    have d:((nxt (c::t) (j:Int)).2 != 0)=false:=by rw [hx]; rfl
    have b:decide ((out.length+1) * 33≤140737488355328)=true:=zqj (by omega)
    simp only [d,b,zqa,zw,zt]
    generalize hxx:nxt (c::t) (j:Int)=x at *
    rw [wr (by omega) (by omega),show (j:Int)+((x.1.Text).length:Int)=((j+x.1.Text.length:Nat):Int) from rfl]
    have g:(c::t).drop x.1.Text.length=s.drop (j+x.1.Text.length):=by rw [← hd,List.drop_drop]
    rw [g,O1l s e n (j+x.1.Text.length) (out++[x.1]) (by omega) (by omega) (by rw [zqc]; have:[x.1].length=1:=rfl; omega)]
    generalize Gg n (s.drop (j+x.1.Text.length)) (j+x.1.Text.length)=z
    unfold Hl
    by_cases hz:z.2.2=0
    ·rw [zp hz,zp hz,zp rfl,List.append_assoc]
     rfl
    ·rw [zn hz,zn hz,zn hz]
   ·have d:((nxt (c::t) (j:Int)).2 != 0)=true:=by simpa using hx
    rw [zn hx,zn hx,d,zp rfl]
    unfold Hl
    simp [hx]
def Ha (s:Str):List I0×Int×Int:=if s.length > 8192 then ([],0,5) else Gg (s.length+1) s 0
theorem P1l (s:Str):Hl [] (Gg (s.length+1) s 0)=Gg (s.length+1) s 0:=by
 unfold Hl
 split
 ·rename_i hz
  have:=R1x _ _ _ hz
  rw [List.nil_append,← this]
 ·rfl
theorem T1n (s:Str):Cp s=some (Ha s):=by
 unfold Cp Ha
 by_cases h:s.length > 8192
 ·rw [zp h]; simp [h]; omega
 ·have h1:decide ((s.length:Int) > 8192)=false:=zqs (by omega)
  have a:=N1l s (by omega) (s.length+1) 0 [] (by omega) (by omega) (by simp)
  rw [h1,zn (by simp),zn h]
  rw [List.drop_zero,P1l] at a
  exact a
theorem S1x (s:Str):Ip s=some (Ha s):=by
 unfold Ip Ha
 by_cases h:s.length > 8192
 ·rw [zp h]; simp [h]; omega
 ·have h1:decide ((s.length:Int) > 8192)=false:=zqs (by omega)
  have a:=O1l s (by omega) (s.length+1) 0 [] (by omega) (by omega) (by simp)
  rw [h1,zn (by simp),zn h]
  rw [List.drop_zero,P1l] at a
  exact a
theorem L1z (s:Str):Cp s=some (Ha s)∧Ip s=some (Ha s):=⟨T1n s,S1x s⟩
abbrev mk (l:List I0)(k:Nat)(e:Int):D0:=D0.mk l (k:Int) e
theorem To {α:Type}(l:List α)(k:Nat):idx l (k:Int)=l[k]?:=by
 unfold idx
 rw [zp (by omega)]
 simp
theorem Jj {α:Type}{l:List α}{k:Nat}{x:α}(h:l[k]?=some x):k < l.length:=(zqu.1 h).1
theorem U1n {α:Type}{l:List α}{k:Nat}(h:l[k]?=none):l.length≤k:=List.getElem?_eq_none_iff.1 h
theorem dlt {α:Type}{l:List α}{k:Nat}{x:α}(h:l[k]?=some x):decide ((k:Int) < (l.length:Int))=true:=by have:=Jj h; exact zqj (by omega)
theorem Q1l {α:Type}{l:List α}{k:Nat}(h:l[k]?=none):decide ((k:Int) < (l.length:Int))=false:=by have:=U1n h; exact zqs (by omega)
theorem dge {α:Type}{l:List α}{k:Nat}{x:α}(h:l[k]?=some x):decide ((k:Int)≥(l.length:Int))=false:=by have:=Jj h; exact zqs (by omega)
theorem C1q {α:Type}{l:List α}{k:Nat}(h:l[k]?=none):decide ((k:Int)≥(l.length:Int))=true:=by have:=U1n h; exact zqj (by omega)
def isT (l:List I0)(k:Nat)(t:Str):Bool:=match l[k]? with
 | some x=>x.Text == t&&(x.Kind == 2||x.Kind == 3)
 | none=>false
def T3 (l:List I0)(k:Nat)(c:Int):Bool:=match l[k]? with
 | some x=>x.Kind == c
 | none=>false
def txt (l:List I0)(k:Nat):Str:=match l[k]? with
 | some x=>x.Text
 | none=>[]
def off (l:List I0)(e:Int)(k:Nat):Int:=match l[k]? with
 | some x=>x.At
 | none=>e
def step (b:Bool)(k:Nat):Nat:=bif b then k+1 else k
theorem X3 (k:Nat):step true k=k+1:=rfl
theorem I3 (k:Nat):step false k=k:=rfl
theorem P1 {l:List I0}{k:Nat}{t:Str}(h:isT l k t=true):k < l.length:=by
 unfold isT at h
 split at h
 ·rename_i a; exact Jj a
 ·cases h
theorem C7 {l:List I0}{k:Nat}{c:Int}(h:T3 l k c=true):k < l.length:=by
 unfold T3 at h
 split at h
 ·rename_i a; exact Jj a
 ·cases h
theorem X7 {l:List I0}{k:Nat}{t:Str}(h:isT l k t=true):T3 l k 0=false∧T3 l k 1=false∧txt l k=t:=by
 unfold isT at h
 unfold T3 txt
 split at h
 ·rename_i x a
  rw [zqi] at h
  have ht:=eq_of_beq h.1
  rw [Bool.or_eq_true] at h
  rcases h.2 with h2 | h2 <;> rw [eq_of_beq h2] <;> exact ⟨rfl,rfl,ht⟩
 ·cases h
theorem V8 {l:List I0}{k:Nat}{t t':Str}(h:isT l k t=true)(hn:(t == t')=false):isT l k t'=false:=by
 cases h':isT l k t' with
 | false=>rfl
 | true=>
  have:=(X7 h).2.2.symm.trans (X7 h').2.2
  rw [this] at hn
  simp at hn
theorem W18 {l:List I0}{k:Nat}(h:T3 l k 0=true)(t:Str):isT l k t=false:=by
 cases h':isT l k t with
 | false=>rfl
 | true=>rw [(X7 h').1] at h; cases h
section
variable (l:List I0)(e:Int)(hl:l.length≤BB)
include hl
theorem M1z (k:Nat)(t:Str):De t (mk l k e)=some (isT l k t):=by
 unfold De isT
 simp only
 cases h:l[k]? with
 | none=>rw [C1q h,zp rfl]
 | some x=>
  rw [dge h,zn (by simp),To,h,ob]
  show some _=some (x.Text == t&&(x.Kind == 2||x.Kind == 3))
  cases x.Text == t <;> cases x.Kind == 2 <;> rfl
theorem O2 (k:Nat)(t:Str):R0 t (mk l k e)=some (isT l k t,mk l (step (isT l k t) k) e):=by
 unfold R0
 rw [M1z l e hl,ob]
 cases h:isT l k t with
 | false=>rfl
 | true=>
  have:=P1 h
  simp only [zqf,zqa,zw]
  rw [w1 (by omega)]
  rfl
theorem Y14 (k:Nat):Q7 (mk l k e)=some (T3 l k 0):=by
 unfold Q7 T3
 simp only
 cases h:l[k]? with
 | none=>rw [Q1l h,zn (by simp),ob]; rfl
 | some x=>rw [dlt h,zp rfl,To,h,ob]; rfl
theorem M1e (k:Nat):H9 (mk l k e)=some (.pn (off l e k)):=by
 unfold H9 off
 simp only
 cases h:l[k]? with
 | none=>rw [Q1l h,zn (by simp)]
 | some x=>rw [dlt h,zp rfl,To,h,ob]
theorem U1s (k:Nat)(c:Int):Ac c (mk l k e)=if T3 l k c=true then some (.ok (txt l k,mk l (k+1) e)) else some (.pn (off l e k)):=by
 unfold Ac
 rw [M1e l e hl,ob]
 unfold T3 txt
 simp only
 cases h:l[k]? with
 | none=>rw [C1q h,zqf,zn (by simp),ob,zqk,zp rfl,zn (by simp)]
 | some x=>
  have:=Jj h
  rw [dge h,zqg,zp rfl,To,h,ob,zql]
  cases hk:x.Kind == c with
  | false=>simp only [bne,hk,zqg,zt,zqa,zw]
  | true=>
   simp only [bne,hk,zqf,zqa,zw,zt]
   unfold Zb
   simp only
   rw [w1 (by omega),wr (n:=((k+1:Nat):Int) - 1) (by omega) (by unfold BB at *; omega),show ((k+1:Nat):Int) - 1=(k:Int) by omega,To,h,ob]
theorem Wm (k:Nat):H3 (mk l k e)=if T3 l k 0=true then some (.ok (txt l k,mk l (k+1) e)) else some (.pn (off l e k)):=by
 unfold H3
 rw [U1s l e hl]
 cases T3 l k 0 <;> rfl
theorem R3 (k:Nat)(t:Str):U0 t (mk l k e)=if isT l k t=true then some (.ok (mk l (k+1) e)) else some (.pn (off l e k)):=by
 unfold U0
 rw [O2 l e hl,ob]
 cases h:isT l k t with
 | true=>rfl
 | false=>
  simp only [zqg,zt,step,zql,zqa,zw]
  rw [M1e l e hl,ob]
theorem A1 (k:Nat)(t:Str):B1 l k t=some (isT l k t):=by
 unfold B1 isT
 cases h:l[k]? with
 | none=>rw [Q1l h]; rfl
 | some x=>
  rw [dlt h,To,h]
  simp only [zt,ob,Bool.true_and,zqk]
  by_cases h2:x.Kind=2 <;> by_cases h3:x.Kind=3 <;> by_cases ht:x.Text=t <;> first | (simp [ob,h2,h3,ht]; done) | (simp [ob,h2,h3,ht]; rw [zqn.2 h2,zqn.2 h3]; simp)
theorem A8 (k:Nat):S8 l k=if T3 l k 0=true then some (txt l k,((k+1:Nat):Int),true) else some ([],(k:Int),false):=by
 unfold S8 T3 txt
 cases h:l[k]? with
 | none=>rw [Q1l h]; rfl
 | some x=>
  have:=Jj h
  rw [dlt h,To,h,zp rfl,ob,zqk,w1 (by omega)]
  show _=if (x.Kind == 0)=true then some (x.Text,((k+1:Nat):Int),true) else some ([],(k:Int),false)
  cases h2:x.Kind == 0 <;> rfl
end
structure Tok (x:I0):Prop where
 len:x.Text.length≤8192
 word:x.Kind=2→∃ c t,x.Text=c::t∧M6 c.toNat=true
 num:x.Kind=1→x.Text≠[]∧x.Text.all (fun c=>J6 c.toNat)=true∧x.Text.length≤7∧nv 0 x.Text≤1048576
def Yf (l:List I0):Prop:=l.length≤BB∧∀ x∈l,Tok x
theorem Kj {l:List I0}(h:Yf l)(k:Nat):(txt l k).length≤8192:=by
 unfold txt
 cases hx:l[k]? with
 | none=>simp
 | some x=>exact (h.2 x (List.mem_of_getElem? hx)).len
def isS (l:List I0)(k:Nat)(t:Str):Bool:=match l[k]? with
 | some x=>x.Kind == 3&&x.Text == t
 | none=>false
def Q1w (t:Str):Bool:=match t with
 | c::_=>!M6 c.toNat
 | []=>true
theorem Og {l:List I0}(h:Yf l){k:Nat}{t:Str}(ht:Q1w t=true):isT l k t=isS l k t:=by
 unfold isT isS
 cases hx:l[k]? with
 | none=>rfl
 | some x=>
  simp only
  by_cases h2:x.Kind=2
  ·obtain ⟨c,r,e,hc⟩:=(h.2 x (List.mem_of_getElem? hx)).word h2
   have:(x.Text == t)=false:=zqn.2 fun a=>by
    rw [← a,e] at ht
    simp [Q1w,hc] at ht
   rw [this,h2]
   rfl
  ·rw [zqn.2 h2,Bool.false_or,Bool.and_comm]
def opT (t:Str):Int×Int:=
 if t == [124,124] then (20,1) else if t == [38,38] then (19,2) else if t == [61,61] then (13,3) else if t == [33,61] then (14,3) else if t == [60] then (15,3) else if t == [60,61] then (16,3)
 else if t == [62] then (17,3) else if t == [62,61] then (18,3) else if t == [43] then (8,4) else if t == [45] then (9,4) else if t == [42] then (10,5) else if t == [47] then (11,5) else if t == [37] then (12,5) else (0,0)
def ops:List Str:=[[124,124],[38,38],[61,61],[33,61],[60],[60,61],[62],[62,61],[43],[45],[42],[47],[37]]
theorem Rq (t:Str):t∈ops∨∀ s∈ops,(t == s)=false:=by
 by_cases h:t∈ops
 ·exact .inl h
 ·exact .inr fun s hs=>zqn.2 fun e=>h (e ▸ hs)
theorem Ek (l:List I0)(k:Nat)(n:Int):T4 l k n=some (match l[k]? with
  | some x=>if x.Kind == 3 then ((opT x.Text).1,(opT x.Text).2 == n) else (0,false)
  | none=>(0,false)):=by
 unfold T4
 cases h:l[k]? with
 | none=>rw [C1q h,zqf,zn (by simp),ob,zqk,zp rfl]
 | some x=>
  rw [dge h,zqg,zp rfl,To,h,ob,zql]
  cases h3:x.Kind == 3 with
  | false=>simp only [bne,h3,zqg,zt,zqa,zw]
  | true=>
   simp only [bne,h3,zqf,zqa,zw,zt,ob]
   unfold opT
   generalize (x.Text == [124,124])=b0
   generalize (x.Text == [38,38])=b1
   generalize (x.Text == [61,61])=b2
   generalize (x.Text == [33,61])=b3
   generalize (x.Text == [60])=b4
   generalize (x.Text == [60,61])=b5
   generalize (x.Text == [62])=b6
   generalize (x.Text == [62,61])=b7
   generalize (x.Text == [43])=b8
   generalize (x.Text == [45])=b9
   generalize (x.Text == [42])=b10
   generalize (x.Text == [47])=b11
   generalize (x.Text == [37])=b12
   cases b0 with
   | true=>rfl
   | false=>
    cases b1 with
    | true=>rfl
    | false=>
     cases b2 with
     | true=>rfl
     | false=>
      cases b3 with
      | true=>rfl
      | false=>
       cases b4 with
       | true=>rfl
       | false=>
        cases b5 with
        | true=>rfl
        | false=>
         cases b6 with
         | true=>rfl
         | false=>
          cases b7 with
          | true=>rfl
          | false=>
           cases b8 with
           | true=>rfl
           | false=>
            cases b9 with
            | true=>rfl
            | false=>
             cases b10 with
             | true=>rfl
             | false=>
              cases b11 with
              | true=>rfl
              | false=>
               cases b12 with
               | true=>rfl
               | false=>
                rfl
theorem Zx (op:Int)(a b:A0):En op a b=some (A0.mk op 0 [] [a,b]):=rfl
theorem Ay {t:Str}(h:∀ s∈ops,(t == s)=false):opT t=(0,0):=by
 unfold opT
 have a:=fun s hs=>h s hs
 rw [a [124,124] (by decide),a [38,38] (by decide),a [61,61] (by decide),a [33,61] (by decide),a [60] (by decide),a [60,61] (by decide),a [62] (by decide),a [62,61] (by decide),a [43] (by decide),a [45] (by decide),a [42] (by decide),a [47] (by decide),a [37] (by decide)]
 rfl
theorem W20 (t:Str):((opT t).2 == 1)=(t == [124,124])∧(((opT t).2 == 1)=true→(opT t).1=(20:Int)):=by
 rcases Rq t with h | h
 ·simp only [ops,List.mem_cons,List.not_mem_nil,or_false] at h
  rcases h with rfl | rfl | rfl | rfl | rfl | rfl | rfl | rfl | rfl | rfl | rfl | rfl | rfl <;> decide
 ·rw [Ay h,h [124,124] (by decide)]
  decide
theorem N1z (t:Str):((opT t).2 == 2)=(t == [38,38])∧(((opT t).2 == 2)=true→(opT t).1=(19:Int)):=by
 rcases Rq t with h | h
 ·simp only [ops,List.mem_cons,List.not_mem_nil,or_false] at h
  rcases h with rfl | rfl | rfl | rfl | rfl | rfl | rfl | rfl | rfl | rfl | rfl | rfl | rfl <;> decide
 ·rw [Ay h,h [38,38] (by decide)]
  decide
theorem O1z (t:Str):((opT t).2 == 4)=(t == [43]||t == [45])∧(((opT t).2 == 4)=true→(opT t).1=(if t == [43] then 8 else 9:Int)):=by
 rcases Rq t with h | h
 ·simp only [ops,List.mem_cons,List.not_mem_nil,or_false] at h
  rcases h with rfl | rfl | rfl | rfl | rfl | rfl | rfl | rfl | rfl | rfl | rfl | rfl | rfl <;> decide
 ·rw [Ay h,h [43] (by decide),h [45] (by decide)]
  decide
theorem T1x (t:Str):((opT t).2 == 5)=(t == [42]||t == [47]||t == [37])∧(((opT t).2 == 5)=true→(opT t).1=(if t == [42] then 10 else if t == [47] then 11 else 12:Int)):=by
 rcases Rq t with h | h
 ·simp only [ops,List.mem_cons,List.not_mem_nil,or_false] at h
  rcases h with rfl | rfl | rfl | rfl | rfl | rfl | rfl | rfl | rfl | rfl | rfl | rfl | rfl <;> decide
 ·rw [Ay h,h [42] (by decide),h [47] (by decide),h [37] (by decide)]
  decide
theorem P1z (t:Str):((opT t).2 == 3)=(t == [61,61]||t == [33,61]||t == [60]||t == [60,61]||t == [62]||t == [62,61])∧(((opT t).2 == 3)=true→(opT t).1=(if t == [61,61] then 13 else if t == [33,61] then 14 else if t == [60] then 15 else if t == [60,61] then 16 else if t == [62] then 17 else 18:Int)):=by
 rcases Rq t with h | h
 ·simp only [ops,List.mem_cons,List.not_mem_nil,or_false] at h
  rcases h with rfl | rfl | rfl | rfl | rfl | rfl | rfl | rfl | rfl | rfl | rfl | rfl | rfl <;> decide
 ·rw [Ay h,h [61,61] (by decide),h [33,61] (by decide),h [60] (by decide),h [60,61] (by decide),h [62] (by decide),h [62,61] (by decide)]
  decide
theorem N1e:∀ (r:List UInt8) (n:Nat),r.all (fun c=>J6 c.toNat)=true→Lib.decFrom n r=some (nv n r)
 | [],n,_=>by rw [U12]; rfl
 | c::r,n,h=>by
  rw [List.all_cons,zqi] at h
  have hc:=Vm.1 h.1
  have a:Lib.digitVal c=some (c.toNat - 48):=zp hc
  unfold Lib.decFrom
  rw [a,Is,Nat.mul_comm 10 n]
  exact N1e r _ h.2
theorem U1x {s:Str}(a:s≠[])(h:s.all (fun c=>J6 c.toNat)=true):Lib.atoi s=some (nv 0 s:Int):=by
 cases s with
 | nil=>exact absurd rfl a
 | cons c r=>
  have hc:=Vm.1 (by rw [List.all_cons,zqi] at h; exact h.1)
  have h1:(c == 45)=false:=zqn.2 fun e=>by rw [e] at hc; exact absurd hc.1 (by decide)
  have h2:(c == 43)=false:=zqn.2 fun e=>by rw [e] at hc; exact absurd hc.1 (by decide)
  unfold Lib.atoi
  simp only [h1,h2,zqa,zw]
  unfold Lib.decNat
  rw [zn (by simp),N1e _ 0 h]
  rfl
theorem V1x {s:Str}(a:s≠[])(h:s.all (fun c=>J6 c.toNat)=true)(hl:s.length≤7):O17 s=some (nv 0 s:Int):=by
 unfold O17
 rw [zp (zqj (by omega)),U1x a h]
section
variable (l:List I0)(e:Int)(hl:Yf l)
include hl
theorem Iu {k:Nat}{t:Str}(h:isS l k t=true):k < l.length:=by
 unfold isS at h
 split at h
 ·rename_i a; exact Jj a
 ·cases h
theorem X20 (k:Nat):∃ o b,Ue (mk l k e)=some (20,b,mk l (step b k) e)∧T4 l k 1=some (o,b)∧(b=true→o=20∧k < l.length):=by
 unfold Ue
 rw [O2 l e hl.1,Og hl rfl,ob,Ek]
 have a:=Iu l hl (k:=k) (t:=[124,124])
 revert a
 unfold isS
 cases h:l[k]? with
 | none=>exact fun _=>⟨_,_,rfl,rfl,nofun⟩
 | some x=>
  simp only
  obtain ⟨h1,h2⟩:=W20 x.Text
  cases hk:x.Kind == 3 with
  | false=>exact fun _=>⟨_,_,rfl,rfl,nofun⟩
  | true=>
   simp only [Bool.true_and,zt,h1]
   rw [h1] at h2
   exact fun a=>⟨_,_,rfl,rfl,fun hb=>⟨h2 hb,a hb⟩⟩
theorem Q1z (k:Nat):∃ o b,Wd (mk l k e)=some (19,b,mk l (step b k) e)∧T4 l k 2=some (o,b)∧(b=true→o=19∧k < l.length):=by
 unfold Wd
 rw [O2 l e hl.1,Og hl rfl,ob,Ek]
 have a:=Iu l hl (k:=k) (t:=[38,38])
 revert a
 unfold isS
 cases h:l[k]? with
 | none=>exact fun _=>⟨_,_,rfl,rfl,nofun⟩
 | some x=>
  simp only
  obtain ⟨h1,h2⟩:=N1z x.Text
  cases hk:x.Kind == 3 with
  | false=>exact fun _=>⟨_,_,rfl,rfl,nofun⟩
  | true=>
   simp only [Bool.true_and,zt,h1]
   rw [h1] at h2
   exact fun a=>⟨_,_,rfl,rfl,fun hb=>⟨h2 hb,a hb⟩⟩
theorem Y20 (k:Nat):∃ o,T4 l k 4=some (o,(isS l k [43]||isS l k [45]))∧((isS l k [43]||isS l k [45])=true→o=(if isS l k [43] then 8 else 9:Int)):=by
 rw [Ek]
 unfold isS
 cases h:l[k]? with
 | none=>exact ⟨_,rfl,nofun⟩
 | some x=>
  simp only
  obtain ⟨h1,h2⟩:=O1z x.Text
  rcases Bool.eq_false_or_eq_true (x.Kind == 3) with hk | hk
  ·rw [h1] at h2
   simp only [hk,Bool.true_and,zt,h1]
   exact ⟨_,rfl,h2⟩
  ·simp only [hk,Bool.false_and,Bool.or_false,zqa,zw]
   exact ⟨_,rfl,nofun⟩
theorem R1z (k:Nat):∃ o,T4 l k 5=some (o,(isS l k [42]||isS l k [47]||isS l k [37]))∧((isS l k [42]||isS l k [47]||isS l k [37])=true→o=(if isS l k [42] then 10 else if isS l k [47] then 11 else 12:Int)):=by
 rw [Ek]
 unfold isS
 cases h:l[k]? with
 | none=>exact ⟨_,rfl,nofun⟩
 | some x=>
  simp only
  obtain ⟨h1,h2⟩:=T1x x.Text
  rcases Bool.eq_false_or_eq_true (x.Kind == 3) with hk | hk
  ·rw [h1] at h2
   simp only [hk,Bool.true_and,zt,h1]
   exact ⟨_,rfl,h2⟩
  ·simp only [hk,Bool.false_and,Bool.or_false,zqa,zw]
   exact ⟨_,rfl,nofun⟩
theorem Z20 (k:Nat):∃ o,T4 l k 3=some (o,(isS l k [61,61]||isS l k [33,61]||isS l k [60]||isS l k [60,61]||isS l k [62]||isS l k [62,61]))∧((isS l k [61,61]||isS l k [33,61]||isS l k [60]||isS l k [60,61]||isS l k [62]||isS l k [62,61])=true→o=(if isS l k [61,61] then 13 else if isS l k [33,61] then 14 else if isS l k [60] then 15 else if isS l k [60,61] then 16 else if isS l k [62] then 17 else 18:Int)):=by
 rw [Ek]
 unfold isS
 cases h:l[k]? with
 | none=>exact ⟨_,rfl,nofun⟩
 | some x=>
  simp only
  obtain ⟨h1,h2⟩:=P1z x.Text
  rcases Bool.eq_false_or_eq_true (x.Kind == 3) with hk | hk
  ·rw [h1] at h2
   simp only [hk,Bool.true_and,zt,h1]
   exact ⟨_,rfl,h2⟩
  ·simp only [hk,Bool.false_and,Bool.or_false,zqa,zw]
   exact ⟨_,rfl,nofun⟩
theorem S1z (k:Nat):∃ o o' b,Vd (mk l k e)=some (o',b,mk l (step b k) e)∧T4 l k 4=some (o,b)∧(b=true→o=o'∧k < l.length):=by
 obtain ⟨o,h1,h2⟩:=Y20 l hl k
 unfold Vd
 rw [O2 l e hl.1,Og hl rfl,ob]
 cases ha:isS l k [43] with
 | true=>rw [ha] at h1 h2; exact ⟨_,_,_,rfl,h1,fun _=>⟨h2 rfl,Iu l hl ha⟩⟩
 | false=>
  rw [ha] at h1 h2
  simp only [step,zql,zqa,zw]
  rw [O2 l e hl.1,Og hl rfl,ob]
  exact ⟨_,_,isS l k [45],rfl,h1,fun hb=>⟨h2 (by rw [hb]; rfl),Iu l hl hb⟩⟩
theorem W1x (k:Nat):∃ o o' b,Ia (mk l k e)=some (o',b,mk l (step b k) e)∧T4 l k 5=some (o,b)∧(b=true→o=o'∧k < l.length):=by
 obtain ⟨o,h1,h2⟩:=R1z l hl k
 unfold Ia
 rw [O2 l e hl.1,Og hl rfl,ob]
 cases ha:isS l k [42] with
 | true=>rw [ha] at h1 h2; exact ⟨_,_,_,rfl,h1,fun _=>⟨h2 rfl,Iu l hl ha⟩⟩
 | false=>
  rw [ha] at h1 h2
  simp only [step,zql,zqa,zw]
  rw [O2 l e hl.1,Og hl rfl,ob]
  cases hb:isS l k [47] with
  | true=>rw [hb] at h1 h2; exact ⟨_,_,_,rfl,h1,fun _=>⟨h2 rfl,Iu l hl hb⟩⟩
  | false=>
   rw [hb] at h1 h2
   simp only [step,zql,zqa,zw]
   rw [O2 l e hl.1,Og hl rfl,ob]
   exact ⟨_,_,isS l k [37],rfl,h1,fun hc=>⟨h2 (by rw [hc]; rfl),Iu l hl hc⟩⟩
def Z14 (k:Nat):Int:=(nv 0 (txt l k):Int)
theorem G1c (k:Nat):P7 (mk l k e)=if T3 l k 1=true then some (.ok (Z14 l k,mk l (k+1) e)) else some (.pn (off l e k)):=by
 unfold P7
 rw [U1s l e hl.1]
 cases h:T3 l k 1 with
 | false=>rfl
 | true=>
  have a:O17 (txt l k)=some (Z14 l k):=by
   unfold T3 at h
   unfold Z14 txt
   cases hk:l[k]? with
   | none=>rw [hk] at h; cases h
   | some x=>
    rw [hk] at h
    obtain ⟨n1,c,b,_⟩:=(hl.2 x (List.mem_of_getElem? hk)).num (eq_of_beq h)
    exact V1x n1 c b
  rw [zp rfl,ob]
  simp only [a,ob]
  rfl
theorem R1l (x:I0)(k:Nat)(a:l[k]?=some x)(b:x.Text.all (fun c=>J6 c.toNat)=true)(e:nv 0 x.Text≤1048576)(d:x.Text.length≤7) :
  ∀ (r:Str) (i m:Nat),x.Text.drop i=r→nv m r≤1048576→r.all (fun c=>J6 c.toNat)=true→Pa l k m i=some ((nv m r:Int),((k+1:Nat):Int),true):=by
 have hk:=Jj a
 have q:=hl.1
 intro r
 induction r with
 | nil=>
  intro i m h hm _
  rw [Pa,To,a,ob,(D2 h).1,zn (by simp),w1 (by omega),U12]
 | cons c r f=>
  intro i m h hm ha
  obtain ⟨h1,h2,j,p,_⟩:=C3 h
  rw [List.all_cons,zqi] at ha
  rw [Is] at hm ⊢
  have hc:=Vm.1 ha.1
  have o:=P1w r (10 * m+(c.toNat - 48))
  have g:IntKind.i64.wrap (IntKind.i64.wrap (10 * (m:Int))+IntKind.i64.wrap (IntKind.u8.wrap ((c.toNat:Int) - 48)))=((10 * m+(c.toNat - 48):Nat):Int):=by
   rw [Q1v ha.1,wr (n:=10 * (m:Int)) (by omega) (by omega),wr (by omega) (by omega)]; omega
  rw [Pa,To,a,ob,h1,zp rfl,ob,h2,ob,g,w1 (by unfold BB; omega)]
  exact f (i+1) _ j hm ha.2
theorem Fk (k:Nat):Xg l k=if T3 l k 1=true then some (Z14 l k,((k+1:Nat):Int),true) else some (0,(k:Int),false):=by
 unfold Xg T3 Z14 txt
 cases h:l[k]? with
 | none=>rw [C1q h,zqf,zn (by simp),ob,zqk,zp rfl,zn (by simp)]
 | some x=>
  rw [dge h,zqg,zp rfl,To,h,ob,zql]
  simp only
  cases hk:x.Kind == 1 with
  | false=>simp only [bne,hk,zqg,zt,zqa,zw]
  | true=>
   simp only [bne,hk,zqf,zqa,zw,zt]
   obtain ⟨n1,b,c,a⟩:=(hl.2 x (List.mem_of_getElem? h)).num (eq_of_beq hk)
   exact R1l l hl x k h b a c x.Text 0 0 rfl a b
end
def J {α:Type}(l:List I0)(e:Int)(lo:Nat)(P:α→Nat→Prop)(p:Option (Pn (α×D0)))(r:Option (α×Int×Bool)):Prop:=
 (∃ v j,lo≤j∧j≤l.length∧P v j∧p=some (.ok (v,mk l j e))∧r=some (v,((j:Nat):Int),true))∨
 (∃ v j,j≤l.length∧p=some (.pn (off l e j))∧r=some (v,((j:Nat):Int),false))
section
variable {l:List I0}{e:Int}{α β:Type}
theorem J.ok {lo:Nat}{P:α→Nat→Prop}(v:α)(j:Nat)(h1:lo≤j)(h2:j≤l.length)(hP:P v j):J l e lo P (some (.ok (v,mk l j e))) (some (v,((j:Nat):Int),true)):=.inl ⟨v,j,h1,h2,hP,rfl,rfl⟩
theorem J.pn {lo:Nat}{P:α→Nat→Prop}(v:α)(j:Nat)(h2:j≤l.length):J l e lo P (some (.pn (off l e j))) (some (v,((j:Nat):Int),false)):=.inr ⟨v,j,h2,rfl,rfl⟩
theorem J.mono {lo a:Nat}{P P':α→Nat→Prop}{p:Option (Pn (α×D0))}{r:Option (α×Int×Bool)}(h:J l e lo P p r)(hl:a≤lo)(hP:∀ v j,lo≤j→P v j→P' v j):J l e a P' p r:=by
 rcases h with ⟨v,j,h1,h2,c,b,d⟩ | h
 ·exact .inl ⟨v,j,Nat.le_trans hl h1,h2,hP v j h1 c,b,d⟩
 ·exact .inr h
theorem J.bind {lo a:Nat}{P:α→Nat→Prop}{Q:β→Nat→Prop}{p:Option (Pn (α×D0))}{r:Option (α×Int×Bool)}(h:J l e lo P p r){F:Pn (α×D0)→Option (Pn (β×D0))}{g:α×Int×Bool→Option (β×Int×Bool)}(b:∀ n,F (.pn n)=some (.pn n))
  (hg:∀ v (j:Nat),j≤l.length→∃ v',g (v,(j:Int),false)=some (v',(j:Int),false)) (hf:∀ v (j:Nat),lo≤j→j≤l.length→P v j→J l e a Q (F (.ok (v,mk l j e))) (g (v,(j:Int),true))) :
  J l e a Q (p>>=F) (r>>=g):=by
 rcases h with ⟨v,j,h1,h2,c,rfl,rfl⟩ | ⟨v,j,h2,rfl,rfl⟩
 ·exact hf v j h1 h2 c
 ·obtain ⟨v',hv⟩:=hg v j h2
  rw [ob,ob,hv,b]
  exact .pn v' j h2
theorem J.same {lo:Nat}{P:α→Nat→Prop}{p:Option (Pn (α×D0))}{r:Option (α×Int×Bool)}(h:J l e lo P p r){F:Pn (α×D0)→Option (Pn (α×D0))}(b:∀ n,F (.pn n)=some (.pn n))(a:∀ x,F (.ok x)=some (.ok (x.1,x.2))):J l e lo P (p>>=F) r:=by
 rcases h with ⟨v,j,h1,h2,c,rfl,rfl⟩ | ⟨v,j,h2,rfl,rfl⟩
 ·rw [ob,a]; exact .ok v j h1 h2 c
 ·rw [ob,b]; exact .pn v j h2
theorem J.rsame {lo:Nat}{P:α→Nat→Prop}{p:Option (Pn (α×D0))}{r:Option (α×Int×Bool)}(h:J l e lo P p r):J l e lo P p (r>>=fun x=>some (x.1,x.2.1,x.2.2)):=by
 rcases h with ⟨v,j,h1,h2,a,rfl,rfl⟩ | ⟨v,j,h2,rfl,rfl⟩
 ·exact .ok v j h1 h2 a
 ·exact .pn v j h2
end
def BE (k:Nat)(v:A0)(j:Nat):Prop:=v.bulk≤9000 * (j - k)
def BO (o:Nat)(k:Nat)(v:A0)(j:Nat):Prop:=v.bulk≤o+9000 * (j - k)
theorem Hg (op n:Int)(s:Str):(A0.mk op n s []).bulk=s.length+5:=by rw [A0.bulk_eq]; rfl
theorem R1w (op n:Int)(s:Str)(a:A0):(A0.mk op n s [a]).bulk=s.length+a.bulk+5:=by rw [A0.bulk_eq]; simp only [A0.bulks]; omega
theorem T1i (op n:Int)(s:Str)(a b:A0):(A0.mk op n s [a,b]).bulk=s.length+a.bulk+b.bulk+5:=by rw [A0.bulk_eq]; simp only [A0.bulks]; omega
theorem A21 (op n:Int)(s:Str)(a b c:A0):(A0.mk op n s [a,b,c]).bulk=s.length+a.bulk+b.bulk+c.bulk+5:=by rw [A0.bulk_eq]; simp only [A0.bulks]; omega
structure PE (l:List I0)(e:Int)(k:Nat):Prop where
 expr:J l e (k+1) (BE k) (Q1 (mk l k e)) (W1 l k)
 un:J l e (k+1) (BE k) (D5 (mk l k e)) (U3 l k)
 prodL:∀ o,J l e k (BO o.bulk k) (H4 (mk l k e) o) (X1 l 5 o k)
 prod:J l e (k+1) (BE k) (A7 (mk l k e)) (O1 l k 5)
 sumL:∀ o,J l e k (BO o.bulk k) (G4 (mk l k e) o) (X1 l 4 o k)
 sum:J l e (k+1) (BE k) (J8 (mk l k e)) (O1 l k 4)
 cmp:J l e (k+1) (BE k) (B6 (mk l k e)) (O1 l k 3)
 andL:∀ o,J l e k (BO o.bulk k) (F4 (mk l k e) o) (X1 l 2 o k)
 and:J l e (k+1) (BE k) (Ja (mk l k e)) (O1 l k 2)
 orL:∀ o,J l e k (BO o.bulk k) (U5 (mk l k e) o) (X1 l 1 o k)
 or:J l e (k+1) (BE k) (Ee (mk l k e)) (O1 l k 1)
 placeL:∀ op name kids,J l e k (BO (A0.mk op 0 name kids).bulk k) (S6 (mk l k e) op name kids) (A5 l op 0 name kids k)
section
variable {l:List I0}{e:Int}(hl:Yf l)
include hl
theorem O19 {k:Nat}{n:Int}{o:A0}{un:D0→Option (Pn (A0×D0))}{chain:D0→A0→Option (Pn (A0×D0))}{b:Bool}{op a:Int}{F:Pn (A0×D0)→Option (Pn (A0×D0))}(m:∀ n,F (.pn n)=some (.pn n))(h:∀ x,F (.ok x)=chain x.2 (A0.mk a 0 [] [o,x.1]))(hk:k≤l.length)(hn:n≠3)
  (hb:T4 l k n=some (op,b)) (d:b=true→op=a∧k < l.length)
  (f:k < l.length→J l e (k+2) (BE (k+1)) (un (mk l (k+1) e)) (O1 l ((k+1:Nat):Int) (IntKind.i64.wrap (n+1))))
  (i:∀ j,k < j→j≤l.length→∀ o,J l e j (BO o.bulk j) (chain (mk l j e) o) (X1 l n o (j:Int))) :
  J l e k (BO o.bulk k) (if (!b)=true then some (.ok (o,mk l (step b k) e)) else un (mk l (step b k) e)>>=F) (X1 l n o (k:Int)):=by
 rw [X1,hb,ob]
 cases b with
 | false=>exact .ok o k (zqr _) hk (by unfold BO; omega)
 | true=>
  obtain ⟨rfl,c⟩:=d rfl
  have t:=hl.1
  simp only [zqf,zqa,zw,step,zqk]
  rw [w1 (by omega)]
  refine J.bind (f c) m ?_ ?_
  ·exact fun v j q=>⟨v,rfl⟩
  intro v j h1 h2 p
  simp only [zqf,zqa,zw,Zx,ob,zqn.2 hn]
  rw [h]
  refine (i j (by omega) h2 _).mono (by omega) fun v' r s g=>?_
  unfold BO at g ⊢
  unfold BE at p
  rw [T1i] at g
  simp only [zqe] at g
  omega
theorem O1e (k:Nat)(n:Nat)(hn:n < 6):O1 l k n=(O1 l k ((n+1:Nat):Int)>>=fun x2=>if (!x2.2.2)=true then some (x2.1,x2.2.1,false) else X1 l n x2.1 x2.2.1):=by
 rw [O1,zn (by simp; omega),w1 (by unfold BB; omega)]
theorem P19 (k:Nat):O1 l k 6=(U3 l k>>=fun x1=>some (x1.1,x1.2.1,x1.2.2)):=by
 rw [O1]
 simp only [zqm,zt]
theorem Q19 {k:Nat}{n:Nat}{p:Option (Pn (A0×D0))}{chain:D0→A0→Option (Pn (A0×D0))}{F:Pn (A0×D0)→Option (Pn (A0×D0))}(c:∀ n,F (.pn n)=some (.pn n))(a:∀ x,F (.ok x)=chain x.2 x.1)(hn:n < 6)(h:J l e (k+1) (BE k) p (O1 l k ((n+1:Nat):Int)))
  (b:∀ j,k < j→j≤l.length→∀ o,J l e j (BO o.bulk j) (chain (mk l j e) o) (X1 l n o (j:Int))) :
  J l e (k+1) (BE k) (p>>=F) (O1 l k n):=by
 rw [O1e hl k n hn]
 refine J.bind h c ?_ ?_
 ·exact fun v j _=>⟨v,rfl⟩
 ·intro v j h1 h2 f
  rw [a]
  refine (b j (by omega) h2 v).mono h1 fun v' g i d=>?_
  unfold BO at d
  unfold BE at f ⊢
  omega
section
variable {k:Nat}(hk:k≤l.length)(IH:∀ j,k < j→j≤l.length→PE l e j)
include hk IH
theorem X1x (o:A0):J l e k (BO o.bulk k) (H4 (mk l k e) o) (X1 l 5 o k):=by
 obtain ⟨op,c,b,h1,h2,a⟩:=W1x l e hl k
 rw [H4,h1,ob]
 have h:=hl.1
 refine O19 hl (chain:=H4) (fun _=>rfl) (fun _=>rfl) hk (by decide) h2 a (fun d=>?_) fun j f g o=>(IH j f g).prodL o
 rw [show IntKind.i64.wrap (5+1)=6 by decide,P19 hl]
 exact J.rsame (IH (k+1) (by omega) (by omega)).un
theorem T1z (o:A0):J l e k (BO o.bulk k) (G4 (mk l k e) o) (X1 l 4 o k):=by
 obtain ⟨op,c,b,h1,h2,a⟩:=S1z l e hl k
 rw [G4,h1,ob]
 refine O19 hl (chain:=G4) (fun _=>rfl) (fun _=>rfl) hk (by decide) h2 a (fun d=>?_) fun j f g o=>(IH j f g).sumL o
 rw [show IntKind.i64.wrap (4+1)=5 by decide]
 exact (IH (k+1) (by omega) (by omega)).prod
theorem U1z (o:A0):J l e k (BO o.bulk k) (F4 (mk l k e) o) (X1 l 2 o k):=by
 obtain ⟨op,b,h1,h2,a⟩:=Q1z l e hl k
 rw [F4,h1,ob]
 refine O19 hl (chain:=F4) (fun _=>rfl) (fun _=>rfl) hk (by decide) h2 a (fun c=>?_) fun j d f o=>(IH j d f).andL o
 rw [show IntKind.i64.wrap (2+1)=3 by decide]
 exact (IH (k+1) (by omega) (by omega)).cmp
theorem B21 (o:A0):J l e k (BO o.bulk k) (U5 (mk l k e) o) (X1 l 1 o k):=by
 obtain ⟨op,b,h1,h2,a⟩:=X20 l e hl k
 rw [U5,h1,ob]
 refine O19 hl (chain:=U5) (fun _=>rfl) (fun _=>rfl) hk (by decide) h2 a (fun c=>?_) fun j d f o=>(IH j d f).orL o
 rw [show IntKind.i64.wrap (1+1)=2 by decide]
 exact (IH (k+1) (by omega) (by omega)).and
theorem V1z (a:J l e (k+1) (BE k) (D5 (mk l k e)) (U3 l k)):J l e (k+1) (BE k) (A7 (mk l k e)) (O1 l k 5):=by
 rw [A7,Ei]
 refine J.same ?_ (fun _=>rfl) fun _=>rfl
 refine Q19 hl (n:=5) (chain:=H4) ?_ ?_ (by decide) ?_ fun j b c o=>(IH j b c).prodL o
 ·exact fun _=>rfl
 ·exact fun _=>rfl
 show J l e (k+1) (BE k) _ (O1 l k 6)
 rw [P19 hl]
 exact J.rsame a
theorem C21 (h:J l e (k+1) (BE k) (A7 (mk l k e)) (O1 l k 5)):J l e (k+1) (BE k) (J8 (mk l k e)) (O1 l k 4):=by
 rw [J8,Di]
 refine J.same ?_ (fun _=>rfl) fun _=>rfl
 refine Q19 hl (n:=4) (chain:=G4) ?_ ?_ (by decide) h fun j a b o=>(IH j a b).sumL o
 ·exact fun _=>rfl
 ·exact fun _=>rfl
theorem D21 (h:J l e (k+1) (BE k) (B6 (mk l k e)) (O1 l k 3)):J l e (k+1) (BE k) (Ja (mk l k e)) (O1 l k 2):=by
 rw [Ja,Ci]
 refine J.same ?_ (fun _=>rfl) fun _=>rfl
 refine Q19 hl (n:=2) (chain:=F4) ?_ ?_ (by decide) h fun j a b o=>(IH j a b).andL o
 ·exact fun _=>rfl
 ·exact fun _=>rfl
theorem F22 (h:J l e (k+1) (BE k) (Ja (mk l k e)) (O1 l k 2)):J l e (k+1) (BE k) (Ee (mk l k e)) (O1 l k 1):=by
 rw [Ee,Ll]
 refine J.same ?_ (fun _=>rfl) fun _=>rfl
 refine Q19 hl (n:=1) (chain:=U5) ?_ ?_ (by decide) h fun j a b o=>(IH j a b).orL o
 ·exact fun _=>rfl
 ·exact fun _=>rfl
end
end
section
variable {l:List I0}{e:Int}(hl:Yf l)
include hl
section
variable {k:Nat}(hk:k≤l.length)(IH:∀ j,k < j→j≤l.length→PE l e j)
include hk IH
theorem W1z {op:Int}{x1:A0×D0}(b:k < l.length)(a:T4 l k 3=some (op,true))(p:D0)(hp:p=mk l (k+1) e) :
  J l e k (BO x1.1.bulk k) (V1 p x1 op) (X1 l 3 x1.1 k):=by
 subst hp
 have d:=hl.1
 rw [V1,X1,a,ob]
 simp only [zqf,zqa,zw]
 rw [w1 (by omega),show IntKind.i64.wrap (3+1)=4 by decide]
 refine J.bind (IH (k+1) (by omega) (by omega)).sum ?_ ?_ ?_
 ·exact fun _=>rfl
 ·exact fun v j _=>⟨v,rfl⟩
 ·intro v j h1 h2 c
  simp only [zqf,zqa,zw,Zx,ob,zqm,zt]
  refine .ok _ j (by omega) h2 ?_
  unfold BO
  unfold BE at c
  rw [T1i]
  simp only [zqe]
  omega
theorem X1z (x1:A0×D0)(i:x1.2=mk l k e):J l e k (BO x1.1.bulk k) (R0 [61,61] x1.2>>=fun x2=>
 if x2.1=true then
  V1 x2.2 x1 13
 else
  R0 [33,61] x2.2>>=fun b=>
  if b.1=true then
   V1 b.2 x1 14
  else
   R0 [60] b.2>>=fun c=>
   if c.1=true then
    V1 c.2 x1 15
   else
    R0 [60,61] c.2>>=fun h=>
    if h.1=true then
     V1 h.2 x1 16
    else
     R0 [62] h.2>>=fun d=>
     if d.1=true then
      V1 d.2 x1 17
     else
      R0 [62,61] d.2>>=fun g=>
      if g.1=true then
       V1 g.2 x1 18
      else
       some (.ok (x1.1,g.2))) (X1 l 3 x1.1 k):=by
 obtain ⟨o,h1,h2⟩:=Z20 l hl k
 have a:∀ {t:Str} {op:Int},isS l k t=true→T4 l k 3=some (op,true)→J l e k (BO x1.1.bulk k) (V1 (mk l (step true k) e) x1 op) (X1 l 3 x1.1 k):=fun ht f=>
  W1z hl hk IH (Iu l hl ht) f _ rfl
 rw [i,O2 l e hl.1,Og hl rfl,ob]
 cases c0:isS l k [61,61] with
 | true=>rw [c0] at h1 h2; rw [h2 rfl] at h1; exact a c0 h1
 | false=>
  simp only [I3,zqa,zw]
  rw [O2 l e hl.1,Og hl rfl,ob]
  cases c1:isS l k [33,61] with
  | true=>rw [c0,c1] at h1 h2; rw [h2 rfl] at h1; exact a c1 h1
  | false=>
   simp only [I3,zqa,zw]
   rw [O2 l e hl.1,Og hl rfl,ob]
   cases c2:isS l k [60] with
   | true=>rw [c0,c1,c2] at h1 h2; rw [h2 rfl] at h1; exact a c2 h1
   | false=>
    simp only [I3,zqa,zw]
    rw [O2 l e hl.1,Og hl rfl,ob]
    cases c3:isS l k [60,61] with
    | true=>rw [c0,c1,c2,c3] at h1 h2; rw [h2 rfl] at h1; exact a c3 h1
    | false=>
     simp only [I3,zqa,zw]
     rw [O2 l e hl.1,Og hl rfl,ob]
     cases c4:isS l k [62] with
     | true=>rw [c0,c1,c2,c3,c4] at h1 h2; rw [h2 rfl] at h1; exact a c4 h1
     | false=>
      simp only [I3,zqa,zw]
      rw [O2 l e hl.1,Og hl rfl,ob]
      cases c5:isS l k [62,61] with
      | true=>rw [c0,c1,c2,c3,c4,c5] at h1 h2; rw [h2 rfl] at h1; exact a c5 h1
      | false=>
       rw [c0,c1,c2,c3,c4,c5] at h1
       simp only [I3,zqa,zw]
       rw [X1,h1,ob]
       exact .ok _ k (zqr _) hk (by unfold BO; omega)
end
theorem E21 {k:Nat}(hk:k≤l.length)(IH:∀ j,k < j→j≤l.length→PE l e j)(h:J l e (k+1) (BE k) (J8 (mk l k e)) (O1 l k 4)):J l e (k+1) (BE k) (B6 (mk l k e)) (O1 l k 3):=by
 rw [B6,show (3:Int)=((3:Nat):Int) from rfl,O1e hl k 3 (by decide)]
 refine J.bind (p:=J8 (mk l k e)) (r:=O1 l k ((3+1:Nat):Int)) h ?_ ?_ ?_
 ·exact fun _=>rfl
 ·exact fun v j _=>⟨v,rfl⟩
 ·intro v j h1 h2 c
  refine (X1z hl h2 (fun i b a=>IH i (by omega) a) (v,mk l j e) rfl).mono h1 fun v' d b a=>?_
  unfold BO at a
  unfold BE at c ⊢
  simp only at a
  omega
section
variable {k:Nat}(hk:k≤l.length)(IH:∀ j,k < j→j≤l.length→PE l e j)
include hk IH
theorem U1v (op:Int)(name:Str)(kids:List A0):J l e k (BO (A0.mk op 0 name kids).bulk k) (S6 (mk l k e) op name kids) (A5 l op 0 name kids k):=by
 have a:=hl.1
 rw [S6,O2 l e a,ob,A5,A1 l a,ob]
 cases hd:isT l k [46] with
 | true=>
  have c:=P1 hd
  simp only [X3,zqf,zqa,zw,zt,ob,zqk]
  rw [w1 (by omega),Wm l e a,A8 l a]
  cases hn:T3 l (k+1) 0 with
  | true=>
   have:=C7 hn
   simp only [zt,ob,zqf,zqa,zw]
   refine ((IH (k+1+1) (by omega) (by omega)).placeL _ _ _).mono (by omega) fun v' f d b=>?_
   have ht:=Kj hl (k+1)
   unfold BO at b ⊢
   rw [R1w] at b
   omega
  | false=>exact .pn _ (k+1) (by omega)
 | false=>
  simp only [I3,zqg,zqa,zw,zt]
  rw [O2 l e a,ob,A1 l a,ob]
  cases hi:isT l k [91] with
  | true=>
   have c:=P1 hi
   simp only [X3,zt,zql]
   rw [ob,zn (by simp),w1 (by omega)]
   refine J.bind (IH (k+1) (by omega) (by omega)).expr ?_ ?_ ?_
   ·exact fun _=>rfl
   ·exact fun v j _=>⟨v,rfl⟩
   ·intro v j h1 h2 g
    simp only [zqf,zqg,zt,zql]
    rw [R3 l e a,A1 l a,ob]
    cases hn:isT l j [93] with
    | true=>
     have:=P1 hn
     simp only [zt,ob,zqf,zqa,zw,Zx]
     rw [w1 (by omega)]
     refine ((IH (j+1) (by omega) (by omega)).placeL _ _ _).mono (by omega) fun v' f d b=>?_
     unfold BO at b ⊢
     unfold BE at g
     rw [T1i] at b
     simp only [zqe] at b
     omega
    | false=>exact .pn _ j h2
  | false=>
   simp only [I3,zqa,zw,zql]
   exact .ok _ k (zqr _) hk (by unfold BO; omega)
end
end
section
variable {l:List I0}{e:Int}(hl:Yf l)
include hl
section
variable {k:Nat}(hk:k≤l.length)(IH:∀ j,k < j→j≤l.length→PE l e j)
include hk IH
theorem V1n:J l e (k+1) (BE k) (Ya (mk l k e)) (F7 l k):=by
 have a:=hl.1
 rw [Ya,F7,Wm l e a,A8 l a]
 cases hn:T3 l k 0 with
 | true=>
  have:=C7 hn
  simp only [zt,ob,zqf,zqa,zw]
  refine ((IH (k+1) (by omega) (by omega)).placeL _ _ _).mono (zqr _) fun v' d c b=>?_
  have ht:=Kj hl k
  unfold BO at b
  unfold BE
  rw [Hg] at b
  omega
 | false=>exact .pn _ k hk
theorem V1s (op:Int)(f:k < l.length):J l e (k+1) (BE k) (Ve op (mk l (k+1) e)) (Ub l k op):=by
 have a:=hl.1
 rw [Ve,R3 l e a,Ub,w1 (by omega),A1 l a,ob]
 cases ho:isT l (k+1) [40] with
 | false=>exact .pn _ (k+1) (by omega)
 | true=>
  have h1:=P1 ho
  simp only [zt,ob,zqf,zqa,zw]
  rw [wr (n:=(k:Int)+2) (by omega) (by unfold BB at a; omega),show (k:Int)+2=((k+1+1:Nat):Int) by omega]
  refine J.bind (IH (k+1+1) (by omega) (by omega)).expr ?_ ?_ ?_
  ·exact fun _=>rfl
  ·exact fun v j _=>⟨v,rfl⟩
  intro v j h2 g h
  simp only [zqf,zqg,zt,zql]
  rw [R3 l e a,A1 l a,ob]
  cases hc:isT l j [44] with
  | false=>exact .pn _ j g
  | true=>
   have m:=P1 hc
   simp only [zt,ob,zqf,zqa,zw]
   rw [w1 (by omega)]
   refine J.bind (IH (j+1) (by omega) (by omega)).expr ?_ ?_ ?_
   ·exact fun _=>rfl
   ·exact fun v j _=>⟨v,rfl⟩
   intro o b p d c
   simp only [zqf,zqg,zt,zql]
   rw [R3 l e a,A1 l a,ob]
   cases hd:isT l b [41] with
   | false=>exact .pn _ b d
   | true=>
    have i:=P1 hd
    simp only [zt,ob,zqf,zqa,zw,Zx]
    rw [w1 (by omega)]
    refine .ok _ (b+1) (by omega) (by omega) ?_
    unfold BE at h c ⊢
    rw [T1i]
    simp only [zqe]
    omega
theorem W1s:J l e (k+1) (BE k) (Jf (mk l k e)) (H5 l k):=by
 have a:=hl.1
 rw [Jf,H5,Y14 l e a,ob]
 have m:∀ t,isT l k t=true→T3 l k 0=false:=fun t h=>(X7 h).1
 cases hn:T3 l k 0 with
 | true=>
  have hf:∀ t,isT l k t=false:=fun t=>by
   cases h:isT l k t with
   | false=>rfl
   | true=>rw [m t h] at hn; cases hn
  have d:T3 l k 1=false:=by
   unfold T3 at hn ⊢
   split at hn
   ·rw [eq_of_beq hn]; rfl
   ·rfl
  simp only [zt,A1 l a,ob,hf,zqa,zw,zqg,zql]
  rw [Fk l hl,d]
  simp only [zqa,zw,ob]
  refine J.same ?_ (fun _=>rfl) fun _=>rfl
  exact J.rsame (V1n hl hk IH)
 | false=>
  simp only [zqa,zw]
  rw [O2 l e a,ob,A1 l a,ob]
  cases h1:isT l k [116,114,117,101] with
  | true=>
   have:=P1 h1
   simp only [X3,zt]
   rw [w1 (by omega)]
   exact .ok _ (k+1) (zqr _) (by omega) (by unfold BE; rw [Hg]; simp only [zqe]; omega)
  | false=>
   simp only [I3,zqa,zw]
   rw [O2 l e a,ob,A1 l a,ob]
   cases h2:isT l k [102,97,108,115,101] with
   | true=>
    have:=P1 h2
    simp only [X3,zt]
    rw [w1 (by omega)]
    exact .ok _ (k+1) (zqr _) (by omega) (by unfold BE; rw [Hg]; simp only [zqe]; omega)
   | false=>
    simp only [I3,zqa,zw]
    rw [O2 l e a,ob,A1 l a,ob,A1 l a]
    cases h3:isT l k [109,105,110] with
    | true=>
     have b:=P1 h3
     have c:isT l k [109,97,120]=false:=by
      cases h:isT l k [109,97,120] with
      | false=>rfl
      | true=>have:=(X7 h3).2.2.symm.trans (X7 h).2.2; simp at this
     simp only [X3,zt,zqf,zqa,zw,ob,zqk]
     rw [Lh,A1 l a,ob,c,zn (by simp)]
     refine J.same ?_ (fun _=>rfl) fun _=>rfl
     exact J.rsame (V1s hl hk IH 21 b)
    | false=>
     simp only [I3,zqa,zw,zqg,zt,ob,zql]
     rw [O2 l e a,ob]
     cases c:isT l k [109,97,120] with
     | true=>
      have b:=P1 c
      simp only [X3,zt]
      rw [Lh,A1 l a,ob,c,zp rfl]
      refine J.same ?_ (fun _=>rfl) fun _=>rfl
      exact J.rsame (V1s hl hk IH 22 b)
     | false=>
      simp only [I3,zqa,zw]
      rw [O2 l e a,ob,A1 l a,ob]
      cases h5:isT l k [40] with
      | true=>
       have b:=P1 h5
       simp only [X3,zt]
       rw [w1 (by omega)]
       refine J.bind (IH (k+1) (by omega) (by omega)).expr ?_ ?_ ?_
       ·exact fun _=>rfl
       ·exact fun v j _=>⟨v,rfl⟩
       intro v j f g i
       simp only [zqf,zqg,zt,zql]
       rw [R3 l e a,A1 l a,ob]
       cases d:isT l j [41] with
       | false=>exact .pn _ j g
       | true=>
        have n:=P1 d
        simp only [zt,ob,zqf,zqa,zw]
        rw [w1 (by omega)]
        refine .ok _ (j+1) (by omega) (by omega) ?_
        unfold BE at i ⊢
        omega
      | false=>
       simp only [I3,zqa,zw]
       rw [G1c l e hl,Fk l hl]
       cases f:T3 l k 1 with
       | true=>
        have:=C7 f
        simp only [zt,ob]
        exact .ok _ (k+1) (zqr _) (by omega) (by unfold BE; rw [Hg]; simp only [zqe]; omega)
       | false=>
        simp only [zqa,zw,ob]
        rw [F7,A8 l a,hn]
        exact .pn _ k hk
theorem Y1x:J l e (k+1) (BE k) (D5 (mk l k e)) (U3 l k):=by
 have b:=hl.1
 have d:∀ op:Int,k < l.length→J l e (k+1) (BE k) (D5 (mk l (k+1) e)>>=fun c=>match c with | .pn nn=>some (.pn nn) | .ok c=>some (.ok ((A0.mk op 0 [] [c.1]),c.2))) (Fe l k op):=fun op a=>by
  rw [Fe,w1 (by omega)]
  refine J.bind (IH (k+1) (by omega) (by omega)).un ?_ ?_ ?_
  ·exact fun _=>rfl
  ·exact fun v j _=>⟨v,rfl⟩
  ·intro v j h1 h2 f
   refine .ok _ j (by omega) h2 ?_
   unfold BE at f ⊢
   rw [R1w]
   simp only [zqe]
   omega
 rw [D5,U3,O2 l e b,ob,A1 l b,ob]
 cases h1:isT l k [45] with
 | true=>
  have a:=P1 h1
  have h2:isT l k [33]=false:=by
   cases h:isT l k [33] with
   | false=>rfl
   | true=>have:=(X7 h1).2.2.symm.trans (X7 h).2.2; simp at this
  simp only [X3,zt,zqf,zqa,zw,ob,zql]
  rw [A1 l b,ob,h2,zn (by simp)]
  exact d 6 a
 | false=>
  simp only [I3,zqa,zw,zqg,zt]
  rw [O2 l e b,ob,A1 l b,ob]
  cases h2:isT l k [33] with
  | true=>
   have a:=P1 h2
   simp only [X3,zt,zqf,zqa,zw,zqk,ob]
   exact d 7 a
  | false=>
   simp only [I3,zqa,zw,zqg,zt,zqk]
   refine J.same ?_ (fun _=>rfl) fun _=>rfl
   exact J.rsame (W1s hl hk IH)
theorem Y1z (i:J l e (k+1) (BE k) (Ee (mk l k e)) (O1 l k 1)):J l e (k+1) (BE k) (Q1 (mk l k e)) (W1 l k):=by
 have b:=hl.1
 rw [Q1,W1]
 refine J.bind i ?_ ?_ ?_
 ·exact fun _=>rfl
 ·exact fun v j _=>⟨v,rfl⟩
 intro v j h1 h2 f
 simp only [zqf,zqg,zt,zql]
 rw [O2 l e b,ob,A1 l b,ob]
 cases hq:isT l j [63] with
 | false=>exact .ok _ j h1 h2 f
 | true=>
  have r:=P1 hq
  simp only [X3,zqf,zqa,zw]
  rw [w1 (by omega)]
  refine J.bind (IH (j+1) (by omega) (by omega)).expr ?_ ?_ ?_
  ·exact fun _=>rfl
  ·exact fun v j _=>⟨v,rfl⟩
  intro q c p m d
  simp only [zqf,zqa,zw]
  rw [R3 l e b,A1 l b,ob]
  cases hc:isT l c [58] with
  | false=>exact .pn _ c m
  | true=>
   have o:=P1 hc
   simp only [zt,ob,zqf,zqa,zw]
   rw [w1 (by omega)]
   refine J.bind (IH (c+1) (by omega) (by omega)).expr ?_ ?_ ?_
   ·exact fun _=>rfl
   ·exact fun v j _=>⟨v,rfl⟩
   ·intro s g n h a
    refine .ok _ g (by omega) h ?_
    unfold BE at f d a ⊢
    rw [A21]
    simp only [zqe]
    omega
end
theorem X1s:∀ (n k:Nat),l.length - k < n→k≤l.length→PE l e k
 | 0,k,h,_=>absurd h (Nat.not_lt_zero _)
 | n+1,k,h,hk=>by
  have IH:∀ j,k < j→j≤l.length→PE l e j:=fun j h1 h2=>X1s n j (by omega) h2
  have u:=Y1x hl hk IH
  have d:=V1z hl hk IH u
  have b:=C21 hl hk IH d
  have c:=E21 hl hk IH b
  have a:=D21 hl hk IH c
  have p1:=F22 hl hk IH a
  exact ⟨Y1z hl hk IH p1,u,X1x hl hk IH,d,T1z hl hk IH,b,c,U1z hl hk IH,a,B21 hl hk IH,p1,U1v hl hk IH⟩
theorem Dw {k:Nat}(hk:k≤l.length):PE l e k:=X1s hl _ k (Nat.lt_succ_self _) hk
end
theorem Z1z (r:List UInt8):∀ m:Nat,m * 10 ^ r.length≤nv m r:=by
 induction r with
 | nil=>intro m; rw [U12]; simp
 | cons c r a=>
  intro m
  rw [Is]
  refine Nat.le_trans ?_ (a _)
  rw [zqd,Nat.pow_succ]
  calc m * (10 ^ r.length * 10)=(10 * m) * 10 ^ r.length:=by rw [Nat.mul_comm (10 ^ r.length) 10,← Nat.mul_assoc,Nat.mul_comm m 10]
   _≤(10 * m+(c.toNat - 48)) * 10 ^ r.length:=Nat.mul_le_mul_right _ (by omega)
theorem A20 {w:Str}(a:w≠[])(h:Qu w=0):w.all (fun c=>J6 c.toNat)=true∧w.length≤7∧nv 0 w≤1048576:=by
 unfold Qu at h
 split at h
 ·rename_i hc
  rw [zqi] at hc
  obtain ⟨h1,h2⟩:=hc
  have b:nv 0 w≤1048576:=by
   rcases Nat.lt_or_ge 1048576 (nv 0 w) with hb | hb
   ·rw [F1c hb] at h; cases h
   ·exact hb
  refine ⟨h1,?_,b⟩
  cases w with
  | nil=>exact absurd rfl a
  | cons c r=>
   rw [List.all_cons,zqi] at h1
   have hc:=Vm.1 h1.1
   have hz:Ss (c::r)=false:=by simpa using h2
   unfold Ss at hz
   by_cases h48:c.toNat=48
   ·have hb:(((c::r).getD 0 0).toNat:Int) == 48:=by simp [h48]
    rw [hb,Bool.and_true] at hz
    have:=of_decide_eq_false hz
    omega
   ·rw [Is] at b
    have hp:=Z1z r (10 * 0+(c.toNat - 48))
    have d:1 * 10 ^ r.length≤(10 * 0+(c.toNat - 48)) * 10 ^ r.length:=Nat.mul_le_mul_right _ (by omega)
    rcases Nat.lt_or_ge 6 r.length with h6 | h6
    ·have:=Nat.pow_le_pow_right (show 1≤10 by decide) (show 7≤r.length from h6)
     omega
    ·rw [zqd]; omega
 ·cases h
theorem Z1x {c:UInt8}{t:List UInt8}{k:Int}(f:(c::t).length≤8192)(h:(nxt (c::t) k).2=0):Tok (nxt (c::t) k).1:=by
 have g:=Dk h
 have e:(nxt (c::t) k).1.Text.length≤8192:=by omega
 refine ⟨e,fun hk=>?_,fun hk=>?_⟩
 ·revert h hk
  unfold nxt
  simp only [List.getD_cons_zero]
  cases hl:M6 c.toNat with
  | true=>
   have a:ld c=true:=by unfold ld; rw [hl]; rfl
   intro h hk
   have i:∃ r,(c::t).take (D6 (c::t))=c::r:=by
    simp only [D6,a,zqk,List.take_succ_cons]
    exact ⟨_,rfl⟩
   obtain ⟨r,hr⟩:=i
   simp only [zt] at hk ⊢
   split at hk
   ·rename_i b
    rw [zp b]
    exact ⟨c,r,hr,hl⟩
   ·split at hk <;> cases hk
  | false=>
   simp only [zqa,zw]
   intro h hk
   split at hk
   ·cases hk
   ·split at hk
    ·cases hk
    ·split at hk <;> cases hk
 ·revert h hk
  unfold nxt
  simp only [List.getD_cons_zero]
  cases hl:M6 c.toNat with
  | true=>
   intro h hk
   simp only [zt] at hk
   split at hk
   ·cases hk
   ·split at hk <;> cases hk
  | false=>
   simp only [zqa,zw]
   intro h hk
   cases hd:J6 c.toNat with
   | true=>
    have a:ld c=true:=by unfold ld; rw [hl,hd]; rfl
    have d:(c::t).take (D6 (c::t))≠[]:=by
     simp only [D6,a,zqk,List.take_succ_cons]
     exact List.cons_ne_nil _ _
    rw [hd,zp rfl] at h
    rw [zp rfl]
    obtain ⟨n1,l,j⟩:=A20 d h
    exact ⟨d,n1,l,j⟩
   | false=>
    rw [hd,zn (by simp)] at hk
    split at hk
    ·cases hk
    ·split at hk <;> cases hk
theorem S1l:∀ (n:Nat) (r:List UInt8) (k:Nat),r.length≤8192→(Gg n r k).2.2=0→(∀ x∈(Gg n r k).1,Tok x)∧(Gg n r k).1.length≤r.length
 | 0,r,k,_,_=>⟨fun x a=>(by cases a),Nat.zero_le _⟩
 | n+1,r,k,hl,h=>by
  revert h
  unfold Gg
  split
  ·exact fun _=>⟨fun x a=>(by cases a),Nat.zero_le _⟩
  ·rename_i c t f
   have g:(c::t).length≤r.length:=by rw [← f,List.length_drop]; omega
   simp only
   split
   ·rename_i a
    obtain ⟨m,j,b3,l⟩:=Dk a
    have b:((c::t).drop (nxt (c::t) ((k+skp false r:Nat):Int)).1.Text.length).length≤(c::t).length - 1:=by rw [List.length_drop]; omega
    have d:=S1l n ((c::t).drop (nxt (c::t) ((k+skp false r:Nat):Int)).1.Text.length) (k+skp false r+(nxt (c::t) ((k+skp false r:Nat):Int)).1.Text.length) (by omega)
    split
    ·rename_i hz
     obtain ⟨e,i⟩:=d hz
     intro _
     refine ⟨fun x hx'=>?_,?_⟩
     ·rcases List.mem_cons.1 hx' with rfl | hx'
      ·exact Z1x (by omega) a
      ·exact e x hx'
     ·simp only [zqd] at *
      omega
    ·rename_i hz
     exact fun h=>absurd h hz
   ·rename_i a
    exact fun h=>absurd h a
theorem H1c {s:Str}(h:(Ha s).2.2=0):Yf (Ha s).1∧(Ha s).1.length≤8192:=by
 unfold Ha at h ⊢
 by_cases hl:s.length > 8192
 ·rw [zp hl] at h; cases h
 ·rw [zn hl] at h ⊢
  obtain ⟨h1,h2⟩:=S1l _ s 0 (by omega) h
  exact ⟨⟨by unfold BB; omega,h1⟩,by omega⟩
theorem T1l (text:Str)(l:List I0)(k:Nat):Nm text l k=some (off l (text.length:Int) k):=by
 unfold Nm off
 cases h:l[k]? with
 | none=>rw [Q1l h,zn (by simp)]
 | some x=>rw [dlt h,zp rfl,To,h,ob]
def BT (k:Nat)(v:F0)(j:Nat):Prop:=v.bulk≤9000 * (j - k)
def M10 (ns:List Str):Nat:=(ns.map fun s=>s.length+1).sum
def BF (ns:List Str)(os:List F0)(k:Nat)(v:F0)(j:Nat):Prop:=v.bulk≤M10 ns+F0.bulks os+8+9000 * (j - k)
theorem U1l (ns:List Str)(s:Str):M10 (ns++[s])=M10 ns+s.length+1:=by unfold M10; simp; omega
theorem A15:∀ (os:List F0) (t:F0),F0.bulks (os++[t])=F0.bulks os+t.bulk
 | [],t=>by simp only [List.nil_append,F0.bulks]; omega
 | x::r,t=>by simp only [List.cons_append,F0.bulks,A15 r t]; omega
theorem Ju (a b c d:Int)(s:Str)(ns:List Str)(os:List F0):(F0.mk a b c d s ns os).bulk=s.length+M10 ns+F0.bulks os+8:=by rw [F0.bulk_eq]; rfl
structure PT (l:List I0)(e:Int)(k:Nat):Prop where
 typ:J l e (k+1) (BT k) (L5 (mk l k e)) (O9 l k)
 fld:∀ ns os,ns.length≤k→os.length≤k→J l e k (BF ns os k) (Y9 (mk l k e) ns os) (T8 l ns os ((k:Int) - 1))
section
variable {l:List I0}{e:Int}(hl:Yf l)
include hl
theorem Ts {k:Nat}(hk:k≤l.length):J l e (k+1) (fun _ _=>True) (U2 (mk l k e)) (K4 l k):=by
 have a:=hl.1
 unfold U2 K4
 rw [O2 l e a,ob,A1 l a,ob]
 cases h:isT l k [45] with
 | true=>
  have b:=P1 h
  simp only [X3,zt]
  rw [w1 (by omega),G1c l e hl,Fk l hl]
  cases h1:T3 l (k+1) 1 with
  | true=>have:=C7 h1; exact .ok _ (k+1+1) (by omega) (by omega) trivial
  | false=>exact .pn _ (k+1) (by omega)
 | false=>
  simp only [I3,zqa,zw]
  rw [G1c l e hl,Fk l hl]
  cases h1:T3 l k 1 with
  | true=>have:=C7 h1; exact .ok _ (k+1) (by omega) (by omega) trivial
  | false=>exact .pn _ k hk
section
variable {k:Nat}(hk:k≤l.length)(IH:∀ j,k < j→j≤l.length→PT l e j)
include hk IH
theorem F21:J l e (k+1) (BT k) (L5 (mk l k e)) (O9 l k):=by
 have a:=hl.1
 rw [L5,O9,O2 l e a,ob,A1 l a,ob]
 cases h1:isT l k [98,111,111,108] with
 | true=>
  have:=P1 h1
  simp only [X3,zt]
  rw [w1 (by omega)]
  exact .ok _ (k+1) (zqr _) (by omega) (by unfold BT; rw [Ju]; simp only [zqe,M10,List.map_nil,List.sum_nil,F0.bulks]; omega)
 | false=>
  simp only [I3,zqa,zw]
  rw [O2 l e a,ob,A1 l a,ob]
  cases h2:isT l k [105,110,116] with
  | true=>
   have c:=P1 h2
   simp only [X3,zt]
   rw [w1 (by omega)]
   refine J.rsame ?_
   unfold Dj
   rw [R3 l e a,A1 l a,ob]
   cases h3:isT l (k+1) [91] with
   | false=>exact .pn _ (k+1) (by omega)
   | true=>
    have m:=P1 h3
    simp only [zt,ob,zqf,zqa,zw]
    rw [w1 (by omega)]
    refine J.bind (Ts hl (k:=k+1+1) (by omega)) ?_ ?_ ?_
    ·exact fun _=>rfl
    ·exact fun v j _=>⟨_,rfl⟩
    intro v j f h _
    simp only [zqf,zqg,zt,zql]
    rw [R3 l e a,A1 l a,ob]
    cases g:isT l j [46,46] with
    | false=>exact .pn _ j h
    | true=>
     have i:=P1 g
     simp only [zt,ob,zqf,zqa,zw]
     rw [w1 (by omega)]
     refine J.bind (Ts hl (k:=j+1) (by omega)) ?_ ?_ ?_
     ·exact fun _=>rfl
     ·exact fun v j _=>⟨_,rfl⟩
     intro p d o b _
     simp only [zqf,zqg,zt,zql]
     rw [R3 l e a,A1 l a,ob]
     cases h11:isT l d [93] with
     | false=>exact .pn _ d b
     | true=>
      have n:=P1 h11
      simp only [zt,ob,zqf,zqa,zw]
      rw [w1 (by omega)]
      exact .ok _ (d+1) (by omega) (by omega) (by unfold BT; rw [Ju]; simp only [zqe,M10,List.map_nil,List.sum_nil,F0.bulks]; omega)
  | false=>
   simp only [I3,zqa,zw]
   rw [O2 l e a,ob,A1 l a,ob]
   cases h3:isT l k [97,114,114,97,121] with
   | true=>
    have c:=P1 h3
    simp only [X3,zt]
    rw [w1 (by omega)]
    refine J.bind (Ts hl (k:=k+1) (by omega)) ?_ ?_ ?_
    ·exact fun _=>rfl
    ·exact fun v j _=>⟨_,rfl⟩
    intro v j f h _
    simp only [zqf,zqg,zt,zql]
    rw [R3 l e a,A1 l a,ob]
    cases g:isT l j [111,102] with
    | false=>exact .pn _ j h
    | true=>
     have i:=P1 g
     simp only [zt,ob,zqf,zqa,zw]
     rw [w1 (by omega)]
     refine J.bind (IH (j+1) (by omega) (by omega)).typ ?_ ?_ ?_
     ·exact fun _=>rfl
     ·exact fun v j _=>⟨_,rfl⟩
     intro p d o b q
     refine .ok _ d (by omega) b ?_
     unfold BT at q ⊢
     rw [Ju]
     simp only [zqe,M10,List.map_nil,List.sum_nil,F0.bulks]
     omega
   | false=>
    simp only [I3,zqa,zw]
    rw [O2 l e a,ob,A1 l a,ob]
    cases m:isT l k [114,101,99,111,114,100] with
    | true=>
     have c:=P1 m
     simp only [X3,zt]
     rw [w1 (by omega)]
     refine J.rsame ?_
     rw [Eq,R3 l e a,A1 l a,ob]
     cases f:isT l (k+1) [123] with
     | false=>exact .pn _ (k+1) (by omega)
     | true=>
      have h:=P1 f
      simp only [zt,ob,zqf,zqa,zw]
      have hf:=(IH (k+1+1) (by omega) (by omega)).fld [] [] (Nat.zero_le _) (Nat.zero_le _)
      rw [show ((k+1+1:Nat):Int) - 1=((k+1:Nat):Int) by omega] at hf
      refine hf.mono (by omega) fun v j g i=>?_
      unfold BF at i
      unfold BT
      simp only [M10,List.map_nil,List.sum_nil,F0.bulks] at i
      omega
    | false=>
     simp only [I3,zqa,zw]
     rw [Wm l e a,A8 l a]
     cases f:T3 l k 0 with
     | false=>exact .pn _ k hk
     | true=>
      have:=C7 f
      have ht:=Kj hl k
      exact .ok _ (k+1) (zqr _) (by omega) (by unfold BT; rw [Ju]; simp only [M10,List.map_nil,List.sum_nil,F0.bulks]; omega)
theorem G21 (ns:List Str)(os:List F0)(hn:ns.length≤k)(t:os.length≤k):J l e k (BF ns os k) (Y9 (mk l k e) ns os) (T8 l ns os ((k:Int) - 1)):=by
 have a:=hl.1
 rw [Y9,T8,O4,wr (n:=(k:Int) - 1+1) (by omega) (by unfold BB at a; omega),show (k:Int) - 1+1=(k:Int) by omega,Wm l e a,A8 l a]
 cases h1:T3 l k 0 with
 | false=>exact .pn _ k hk
 | true=>
  have h2:=C7 h1
  have ht:=Kj hl k
  simp only [zt,ob,zqf,zqg,zql]
  rw [R3 l e a,A1 l a,ob]
  cases h3:isT l (k+1) [58] with
  | false=>exact .pn _ (k+1) (by omega)
  | true=>
   have s:=P1 h3
   simp only [zt,ob,zqf,zqa,zw]
   rw [w1 (by omega)]
   rcases (IH (k+1+1) (by omega) (by omega)).typ with ⟨v,j,u,g,q,f,i⟩ | ⟨v,j,g,f,i⟩
   ·rw [f,i,ob,ob,ob]
    have o:decide ((ns.length+1) * 17≤140737488355328)=true:=zqj (by unfold BB at a; omega)
    have m:decide ((os.length+1) * 97≤140737488355328)=true:=zqj (by unfold BB at a; omega)
    simp only [o,m,zt,zqf,zqa,zw]
    rw [O2 l e a,A1 l a,ob,ob]
    unfold BT at q
    cases h9:isT l j [44] with
    | true=>
     have d:=P1 h9
     have b:isT l j [125]=false:=by
      cases h:isT l j [125] with
      | false=>rfl
      | true=>have:=(X7 h9).2.2.symm.trans (X7 h).2.2; simp at this
     simp only [b,X3,zqf,zqa,zw]
     rw [A1 l a,ob,h9]
     simp only [zqf,zqa,zw]
     have hf:=(IH (j+1) (by omega) (by omega)).fld (ns++[txt l k]) (os++[v]) (by rw [zqc]; simp only [List.length_singleton]; omega) (by rw [zqc]; simp only [List.length_singleton]; omega)
     rw [show ((j+1:Nat):Int) - 1=(j:Int) by omega] at hf
     refine hf.mono (by omega) fun v' r p c=>?_
     unfold BF at c ⊢
     rw [U1l,A15] at c
     omega
    | false=>
     simp only [I3,zqg,zt]
     rw [R3 l e a]
     cases d:isT l j [125] with
     | true=>
      have b:=P1 d
      simp only [zt,ob]
      rw [w1 (by omega)]
      refine .ok _ (j+1) (by omega) (by omega) ?_
      unfold BF
      rw [Ju,U1l,A15]
      simp only [zqe]
      omega
     | false=>
      simp only [zqa,zw,ob]
      rw [A1 l a,ob,h9]
      exact .pn _ j g
   ·rw [f,i,ob,ob,ob]
    exact .pn _ j g
end
theorem Y1s:∀ (n k:Nat),l.length - k < n→k≤l.length→PT l e k
 | 0,k,h,_=>absurd h (Nat.not_lt_zero _)
 | n+1,k,h,hk=>by
  have IH:∀ j,k < j→j≤l.length→PT l e j:=fun j h1 h2=>Y1s n j (by omega) h2
  exact ⟨F21 hl hk IH,G21 hl hk IH⟩
theorem U1i {k:Nat}(hk:k≤l.length):PT l e k:=Y1s hl _ k (Nat.lt_succ_self _) hk
end
def Fh (k:Int)(n:Str)(t:F0)(i:Int):B0:=B0.mk k n t i (A0.mk 0 0 [] []) [] [] []
def BV (k:Nat)(v:B0)(j:Nat):Prop:=(∃ n t i,v=Fh 4 n t i)∧v.bulk≤9000 * (j - k)
def BP (k:Nat)(v:B0)(j:Nat):Prop:=(∃ n t,v=Fh 4 n t 0)∧v.bulk+9000≤9000 * (j - k)
section
variable {l:List I0}{e:Int}(hl:Yf l)
include hl
theorem T1h (k:Int)(n:Str)(t:F0)(i:Int):(Fh k n t i).bulk=n.length+t.bulk+12:=by
 unfold Fh
 simp only [B0.bulk,B0.bulks,C0.bulks,Hg,zqe]
 omega
theorem A1g {k:Nat}(hk:k≤l.length):J l e (k+1) (BP k) (X2 4 (mk l k e)) (O4 l k):=by
 have a:=hl.1
 unfold X2
 rw [O4,Wm l e a,A8 l a]
 cases h1:T3 l k 0 with
 | false=>exact .pn _ k hk
 | true=>
  have h2:=C7 h1
  have ht:=Kj hl k
  simp only [zt,ob,zqf,zqg,zql]
  rw [R3 l e a,A1 l a,ob]
  cases h3:isT l (k+1) [58] with
  | false=>exact .pn _ (k+1) (by omega)
  | true=>
   have d:=P1 h3
   simp only [zt,ob,zqf,zqa,zw]
   rw [w1 (by omega)]
   refine J.bind (U1i hl (k:=k+1+1) (by omega)).typ ?_ ?_ ?_
   ·exact fun _=>rfl
   ·exact fun v j _=>⟨_,rfl⟩
   intro v j f b c
   refine .ok _ j (by omega) b ⟨⟨_,_,rfl⟩,?_⟩
   have:=T1h hl 4 (txt l k) v 0
   unfold Fh at this
   unfold BT at c
   rw [this]
   omega
theorem P1e {k j:Nat}{d:B0}(g:j≤l.length)(hk:k≤j){P:B0→Nat→Prop}(hP:P d (j+1)){F:Pn D0→Option (Pn (B0×D0))}(f:∀ n,F (.pn n)=some (.pn n))(a:∀ x,F (.ok x)=some (.ok (d,x))) :
  J l e (k+1) P (U0 [59] (mk l j e)>>=F) (B1 l j [59]>>=fun c=>if (!c)=true then some (d,(j:Int),false) else some (d,IntKind.i64.wrap ((j:Int)+1),true)):=by
 have b:=hl.1
 rw [R3 l e b,A1 l b,ob]
 cases h:isT l j [59] with
 | false=>simp only [zqa,zw,ob,f,zqg,zt]; exact .pn _ j g
 | true=>
  have:=P1 h
  simp only [zt,ob,a,zqf,zqa,zw]
  rw [w1 (by omega)]
  exact .ok _ (j+1) (by omega) (by omega) hP
theorem Q1e {k:Nat}(hk:k≤l.length):J l e (k+1) (BV k) (D8 (mk l k e)) (Ca l k):=by
 have b:=hl.1
 unfold D8 Ca
 refine J.bind (A1g hl hk) ?_ ?_ ?_
 ·exact fun _=>rfl
 ·exact fun v j _=>⟨_,rfl⟩
 rintro v j h1 h2 ⟨⟨n,t,rfl⟩,h0⟩
 have hb:∀ i (g:Nat),j≤g→BV k (Fh 4 n t i) g:=fun i g h=>⟨⟨n,t,i,rfl⟩,by rw [T1h hl] at h0 ⊢; omega⟩
 simp only [zqf,zqa,zw]
 rw [O2 l e b,ob,A1 l b,ob]
 cases h3:isT l j [61] with
 | false=>
  simp only [I3,zqa,zw]
  unfold K6
  exact P1e hl (d:=Fh 4 n t 0) h2 (by omega) (hb 0 _ (by omega)) (fun _=>rfl) (fun _=>rfl)
 | true=>
  have q:=P1 h3
  simp only [X3,zt]
  rw [w1 (by omega),O2 l e b,ob,Fi,A1 l b,ob]
  cases h5:isT l (j+1) [116,114,117,101] with
  | true=>
   have o:=P1 h5
   simp only [X3,zt,ob,zqf,zqa,zw]
   rw [w1 (by omega)]
   unfold K6
   exact P1e hl (d:=Fh 4 n t 1) (j:=j+1+1) (by omega) (by omega) (hb 1 _ (by omega)) (fun _=>rfl) (fun _=>rfl)
  | false=>
   simp only [I3,zqa,zw]
   rw [O2 l e b,ob,A1 l b,ob]
   cases o:isT l (j+1) [102,97,108,115,101] with
   | true=>
    have p:=P1 o
    simp only [X3,zt,ob,zqf,zqa,zw]
    rw [w1 (by omega)]
    unfold K6
    exact P1e hl (d:=Fh 4 n t 0) (j:=j+1+1) (by omega) (by omega) (hb 0 _ (by omega)) (fun _=>rfl) (fun _=>rfl)
   | false=>
    simp only [I3,zqa,zw]
    rcases Ts hl (e:=e) (k:=j+1) (by omega) with ⟨v,f,p,c,_,m,a⟩ | ⟨v,f,c,m,a⟩
    ·rw [m,a,ob,ob,ob]
     simp only [zqf,zqa,zw]
     unfold K6
     exact P1e hl (d:=Fh 4 n t v) (j:=f) c (by omega) (hb v _ (by omega)) (fun _=>rfl) (fun _=>rfl)
    ·rw [m,a,ob,ob,ob]
     exact .pn _ f c
end
def BS (k:Nat)(v:C0)(j:Nat):Prop:=v.bulk≤9000 * (j - k)
theorem ba {α β γ:Type}(x:Option α)(f:α→β)(g:β→Option γ):((x>>=fun a=>some (f a))>>=g)=(x>>=fun a=>g (f a)):=by cases x <;> rfl
abbrev zE:A0:=A0.mk 0 0 [] []
def B15 (l:List I0)(x:C0×Int×Bool):Option (C0×Int×Bool):=J7 l x.1.Verb x.1.Place x.1.Value x.1.Name x.1.Args x.1.NV x.1.Low x.1.High x.1.Numbers x.1.Then x.1.Else x.2.1 x.2.2
section
variable {l:List I0}{e:Int}(hl:Yf l)
include hl
theorem Pg (s:C0)(j:Int):B15 l (s,j,false)=some (s,j,false):=by cases s; rfl
theorem Uo (s:C0)(j:Nat)(b:j≤l.length):B15 l (s,(j:Int),true)=if isT l j [59]=true then some (s,((j+1:Nat):Int),true) else some (s,(j:Int),false):=by
 have a:=hl.1
 unfold B15 J7
 simp only [zqf,zqg,zt,zql]
 rw [A1 l a,ob]
 cases h:isT l j [59] with
 | false=>cases s; rfl
 | true=>
  have:=P1 h
  simp only [zqf,zqa,zw,zt]
  rw [w1 (by omega)]
  cases s; rfl
theorem R19 {lo j:Nat}{s:C0}(b:j≤l.length)(hk:lo≤j+1){P:C0→Nat→Prop}(hP:P s (j+1)){F:Pn D0→Option (Pn (C0×D0))}(c:∀ n,F (.pn n)=some (.pn n))(a:∀ x,F (.ok x)=some (.ok (s,x))) :
  J l e lo P (U0 [59] (mk l j e)>>=F) (B15 l (s,(j:Int),true)):=by
 rw [R3 l e hl.1,Uo hl s j b]
 cases h:isT l j [59] with
 | false=>simp only [zqa,zw,ob,c]; exact .pn _ j b
 | true=>
  have:=P1 h
  simp only [zt,ob,a]
  exact .ok _ (j+1) hk (by omega) hP
theorem Us (a:Int)(p v:A0)(n:Str)(e:List A0)(b c d:Int)(t u:List C0):(C0.mk a p v n e b c d [] t u).bulk=p.bulk+v.bulk+n.length+A0.bulks e+C0.bulks t+C0.bulks u+10:=by
 rw [C0.bulk_eq]; simp only [List.map_nil,List.sum_nil]; omega
theorem R1e:∀ (os:List A0) (t:A0),A0.bulks (os++[t])=A0.bulks os+t.bulk
 | [],t=>by simp only [List.nil_append,A0.bulks]; omega
 | x::r,t=>by simp only [List.cons_append,A0.bulks,R1e r t]; omega
theorem Z1s (p:A0)(nm:Str)(x1:A0×D0)(d:Str×D0)(h1:x1.1=p)(r:d.1=nm):∀ (n j:Nat) (a:List A0),l.length - j < n→j≤l.length→a.length≤j→
  J l e j (fun v q=>v.bulk≤p.bulk+nm.length+A0.bulks a+9000 * (q - j)+15) (Q4 (mk l j e) x1 d a)
   ((B1 l j [41]>>=fun d=>if d=true then some (a,IntKind.i64.wrap ((j:Int)+1),true) else B1 l j [44]>>=fun x=>if (!x)=true then some (a,(j:Int),false) else U4 l j a)>>=fun f=>
     B15 l (C0.mk 1 p zE nm f.1 0 0 0 [] [] [],f.2.1,f.2.2))
 | 0,j,a,h,_,_=>absurd h (Nat.not_lt_zero _)
 | n+1,j,a,h,w,ha=>by
  have c:=hl.1
  rw [Q4,O2 l e c,ob,A1 l c,ob]
  cases hc:isT l j [44] with
  | true=>
   have z:=P1 hc
   have s:isT l j [41]=false:=by
    cases h:isT l j [41] with
    | false=>rfl
    | true=>have:=(X7 hc).2.2.symm.trans (X7 h).2.2; simp at this
   simp only [s,X3,zt,zqa,zw]
   rw [A1 l c,ob,hc]
   simp only [zqf,zqa,zw]
   rw [U4,w1 (by omega)]
   rcases (Dw (e:=e) hl (k:=j+1) (by omega)).expr with ⟨v,i,A,g,y,o,b⟩ | ⟨v,i,g,o,b⟩
   ·have u:decide ((a.length+1) * 57≤140737488355328)=true:=zqj (by unfold BB at c; omega)
    rw [o,b,ob,ob]
    simp only [u,zt,zqf,zqa,zw]
    refine (Z1s p nm x1 d h1 r n i (a++[v]) (by omega) g (by rw [zqc]; simp only [List.length_singleton]; omega)).mono (by omega) fun v' q t m=>?_
    unfold BE at y
    rw [R1e hl] at m
    omega
   ·rw [o,b,ob,ob]
    simp only [zqg,zt,ob]
    rw [Pg hl]
    exact .pn _ i g
  | false=>
   simp only [I3,zqa,zw]
   rw [R3 l e c]
   cases hd:isT l j [41] with
   | true=>
    have z:=P1 hd
    simp only [zt,ob]
    rw [w1 (by omega),h1,r]
    refine R19 hl (by omega) (by omega) ?_ (fun _=>rfl) (fun _=>rfl)
    rw [Us hl]
    simp only [C0.bulks,Hg,zqe]
    omega
   | false=>
    simp only [zqa,zw,ob]
    rw [A1 l c,ob,hc]
    simp only [zqg,zt,ob]
    rw [Pg hl]
    exact .pn _ j w
theorem V1v {k:Nat}(hk:k≤l.length):J l e (k+1) (BS k) (I9 (mk l k e)) (V7 l k>>=B15 l):=by
 have a:=hl.1
 have IH:∀ j,k < j→j≤l.length→PE l e j:=fun j _ h=>Dw hl h
 unfold I9 V7
 rcases V1n hl hk IH with ⟨v,j,h1,h2,z,p,m⟩ | ⟨v,j,h2,p,m⟩
 case inr=>
  rw [p,m,ob,ob]
  simp only [zqg,zqf,zqa,zw,ob,zqk,zt]
  rw [Pg hl]
  exact .pn _ j h2
 unfold BE at z
 rw [p,m,ob,ob]
 simp only [zqf,zqg,zt,zql]
 rw [R3 l e a,A1 l a,ob]
 cases h5:isT l j [61] with
 | false=>
  simp only [zqa,zw,zqg,zt,ob]
  rw [Pg hl]
  exact .pn _ j h2
 | true=>
  have A:=P1 h5
  simp only [zt,ob,zqf,zqa,zw]
  rw [O2 l e a,ob,w1 (by omega),A1 l a,ob]
  cases h7:isT l (j+1) [99,97,108,108] with
  | true=>
   have q:=P1 h7
   have r:isT l (j+1) [114,101,108,101,97,115,101]=false:=by
    cases h:isT l (j+1) [114,101,108,101,97,115,101] with
    | false=>rfl
    | true=>have:=(X7 h7).2.2.symm.trans (X7 h).2.2; simp at this
   simp only [r,X3,zt,zqa,zw]
   rw [A1 l a,ob,h7,zp rfl,w1 (by omega),Wm l e a,A8 l a]
   cases h10:T3 l (j+1+1) 0 with
   | false=>
    simp only [zqa,zw,ob,zqg,zt]
    rw [Pg hl]
    exact .pn _ (j+1+1) (by omega)
   | true=>
    have i:=C7 h10
    have ht:=Kj hl (j+1+1)
    simp only [zt,ob,zqf,zqa,zw]
    unfold Qf
    rw [R3 l e a,A1 l a,ob]
    cases h12:isT l (j+1+1+1) [40] with
    | false=>
     simp only [zqa,zw,ob,zqg,zt]
     rw [Pg hl]
     exact .pn _ (j+1+1+1) (by omega)
    | true=>
     have y:=P1 h12
     simp only [zt,ob,zqf,zqa,zw]
     rw [M1z l e a,ob,w1 (by omega),A1 l a,ob]
     cases h14:isT l (j+1+1+1+1) [41] with
     | true=>
      have w:=P1 h14
      simp only [zqf,zqa,zw,zt,ob]
      rw [R3 l e a,h14,zp rfl,ob,wr (n:=((j+1+1+1:Nat):Int)+2) (by omega) (by unfold BB at a; omega),show ((j+1+1+1:Nat):Int)+2=((j+1+1+1+1+1:Nat):Int) by omega]
      refine R19 hl (s:=C0.mk 1 v zE (txt l (j+1+1)) [] 0 0 0 [] [] []) (by omega) (by omega) ?_ (fun _=>rfl) (fun _=>rfl)
      unfold BS
      rw [Us hl]
      simp only [C0.bulks,A0.bulks,Hg,zqe]
      omega
     | false=>
      simp only [zqg,zt,zqa,zw]
      rw [U4,w1 (by omega)]
      rcases (Dw (e:=e) hl (k:=j+1+1+1+1) (by omega)).expr with ⟨g,b,u,f,o,c,d⟩ | ⟨g,b,f,c,d⟩
      ·rw [c,d,ob,ob]
       have t:decide ((0+1) * 57≤140737488355328)=true:=by decide
       simp only [t,zt,zqf,zqa,zw,zqe,List.nil_append]
       unfold La
       rw [ba]
       refine (Z1s hl v (txt l (j+1+1)) (v,mk l j e) (txt l (j+1+1),mk l (j+1+1+1) e) rfl rfl (l.length - b+1) b [g] (by omega) f (by simp only [List.length_singleton]; omega)).mono (by omega) fun v' C B x=>?_
       unfold BS
       unfold BE at o
       simp only [A0.bulks] at x
       omega
      ·rw [c,d,ob,ob]
       simp only [zqg,zt,ob]
       rw [Pg hl]
       exact .pn _ b f
  | false=>
   simp only [I3,zqa,zw]
   rw [O2 l e a,ob]
   cases q:isT l (j+1) [114,101,108,101,97,115,101] with
   | true=>
    have r:=P1 q
    simp only [X3,zt]
    rw [w1 (by omega),Wm l e a,A8 l a]
    cases h10:T3 l (j+1+1) 0 with
    | false=>
     simp only [zqa,zw,ob]
     rw [Pg hl]
     exact .pn _ (j+1+1) (by omega)
    | true=>
     have i:=C7 h10
     have ht:=Kj hl (j+1+1)
     simp only [zt,ob]
     refine R19 hl (s:=C0.mk 2 v zE (txt l (j+1+1)) [] 0 0 0 [] [] []) (by omega) (by omega) ?_ (fun _=>rfl) (fun _=>rfl)
     unfold BS
     rw [Us hl]
     simp only [C0.bulks,A0.bulks,Hg,zqe]
     omega
   | false=>
    simp only [I3,zqa,zw]
    rw [A1 l a,ob,h7]
    simp only [zqa,zw]
    rcases (Dw (e:=e) hl (k:=j+1) (by omega)).expr with ⟨g,b,u,f,o,c,d⟩ | ⟨g,b,f,c,d⟩
    ·rw [c,d,ob,ob]
     simp only [ob]
     refine R19 hl (s:=C0.mk 0 v g [] [] 0 0 0 [] [] []) f (by omega) ?_ (fun _=>rfl) (fun _=>rfl)
     unfold BS
     unfold BE at o
     rw [Us hl]
     simp only [C0.bulks,A0.bulks,zqe]
     omega
    ·rw [c,d,ob,ob]
     simp only [ob]
     rw [Pg hl]
     exact .pn _ b f
end
def S1w:Pn (C0×D0)→Pn (C0×Bool×D0)
 | .ok x=>.ok (x.1,true,x.2)
 | .pn n=>.pn n
section
variable {l:List I0}{e:Int}(hl:Yf l)
include hl
theorem B20 (a:Int)(ns:List Int):(C0.mk a zE zE [] [] 0 0 0 ns [] []).bulk=ns.length+20:=by
 rw [C0.bulk_eq]
 simp only [Hg,A0.bulks,C0.bulks,zqe]
 have:(ns.map fun _=>1).sum=ns.length:=by induction ns with
  | nil=>rfl
  | cons x r b=>simp only [List.map_cons,List.sum_cons,zqd,b]; omega
 omega
theorem C15 (k:Nat):Bf l k=some (T3 l k 0||((isT l k [111,117,116,112,117,116]||(isT l k [119,97,105,116]||(isT l k [105,102]||(isT l k [119,104,105,108,101]||(isT l k [102,111,114]||(isT l k [115,101,116,116,108,101])))))))):=by
 have a:=hl.1
 unfold Bf
 rw [A8 l a]
 cases T3 l k 0 with
 | true=>rfl
 | false=>
  simp only [zqa,zw,ob,zqg,zt,A1 l a,zql]
  generalize isT l k [111,117,116,112,117,116]=b0
  generalize isT l k [119,97,105,116]=b1
  generalize isT l k [105,102]=b2
  generalize isT l k [119,104,105,108,101]=b3
  generalize isT l k [102,111,114]=b4
  generalize isT l k [115,101,116,116,108,101]=b5
  cases b0 with
  | true=>rfl
  | false=>
  simp only [zqg,zqa,zt,zw,ob,zql,Bool.false_or]
  cases b1 with
  | true=>rfl
  | false=>
  simp only [zqg,zqa,zt,zw,ob,zql,Bool.false_or]
  cases b2 with
  | true=>rfl
  | false=>
  simp only [zqg,zqa,zt,zw,ob,zql,Bool.false_or]
  cases b3 with
  | true=>rfl
  | false=>
  simp only [zqg,zqa,zt,zw,ob,zql,Bool.false_or]
  cases b4 with
  | true=>rfl
  | false=>
  simp only [zqg,zqa,zt,zw,ob,zql,Bool.false_or]
theorem A1t:∀ (n j:Nat) (ns:List Int),l.length - j < n→j≤l.length→ns.length≤j→
  ∃ p:Option (Pn (C0×D0)),F5 (mk l j e) ns=p.map S1w∧
  J l e j (fun v o=>v.bulk≤ns.length+20+9000 * (o - j)) p
   ((B1 l j [44]>>=fun x2=>if (!x2)=true then some (ns,(j:Int),true) else M5 l (IntKind.i64.wrap ((j:Int)+1)) ns)>>=fun a=>
     B15 l (C0.mk 8 zE zE [] [] 0 0 0 a.1 [] [],a.2.1,a.2.2))
 | 0,j,ns,h,_,_=>absurd h (Nat.not_lt_zero _)
 | n+1,j,ns,h,m,ha=>by
  have f:=hl.1
  rw [F5,O2 l e f,ob,A1 l f,ob]
  cases hc:isT l j [44] with
  | true=>
   have w:=P1 hc
   simp only [X3,zt,zqf,zqa,zw]
   rw [w1 (by omega),M5]
   rcases Ts hl (e:=e) (k:=j+1) (by omega) with ⟨v,d,u,g,_,i,b⟩ | ⟨v,d,g,i,b⟩
   ·have s:decide ((ns.length+1) * 9≤140737488355328)=true:=zqj (by unfold BB at f; omega)
    rw [i,b,ob,ob]
    simp only [s,zt,zqf,zqa,zw]
    obtain ⟨p,t,q⟩:=A1t n d (ns++[v]) (by omega) g (by rw [zqc]; simp only [List.length_singleton]; omega)
    refine ⟨p,t,q.mono (by omega) fun v' o r c=>?_⟩
    rw [zqc] at c
    simp only [List.length_singleton] at c
    omega
   ·rw [i,b,ob,ob]
    simp only [zqg,zt,ob]
    rw [Pg hl]
    exact ⟨some (.pn (off l e d)),rfl,.pn _ d g⟩
  | false=>
   simp only [I3,zqa,zw,zqg,zt,ob]
   rw [R3 l e f,Uo hl _ j m]
   cases h:isT l j [59] with
   | false=>exact ⟨some (.pn (off l e j)),rfl,.pn _ j m⟩
   | true=>
    have:=P1 h
    refine ⟨some (.ok (C0.mk 8 zE zE [] [] 0 0 0 ns [] [],mk l (j+1) e)),rfl,.ok _ (j+1) (by omega) (by omega) ?_⟩
    rw [B20 hl]
    omega
end
end Go.Proofs.YtbaijagfgceilaaGreatDoor

