/- A part of the proof of SyntaxRename. -/
import Derived.Test.YtbmlpamppbcdeaaGreatDoorDgB
import Derived.ProofKit
namespace Go.Proofs.YtbmlpamppbcdeaaGreatDoor
open Go.Am
theorem ob {α β:Type}(a:α)(f:α→Option β):(some a>>=f)=f a:=rfl
theorem P1 {α:Type}{l:List α}{k:Nat}{x:α}{r:List α}(h:l.drop k=x::r):decide ((k:Int) < (l.length:Int))=true∧idx l (k:Int)=some x∧l.drop (k+1)=r∧k < l.length∧x∈l:=by
 have hk:k < l.length:=by
  rcases Nat.lt_or_ge k l.length with h1 | h1
  ·exact h1
  ·rw [List.drop_eq_nil_of_le h1] at h; cases h
 have hx:=List.drop_eq_getElem_cons hk
 rw [h] at hx
 obtain ⟨e1,e2⟩:=List.cons.inj hx
 refine ⟨decide_eq_true (by omega),?_,e2.symm,hk,?_⟩
 ·unfold idx
  rw [if_pos (by omega),e1]
  simp [hk]
 ·rw [e1]; exact List.getElem_mem hk
theorem Z0 {α:Type}{l:List α}{k:Nat}(h:l.drop k=[]):decide ((k:Int) < (l.length:Int))=false∧l.length≤k:=by
 have:=List.drop_eq_nil_iff.1 h
 exact ⟨decide_eq_false (by omega),this⟩
def BB:Nat:=68719476736
theorem wr {n:Int}(h : -4611686018427387904≤n)(h':n≤4611686018427387904):IntKind.i64.wrap n=n:=Q1q (by omega) (by omega)
theorem w1 {k:Nat}(h:k≤BB):IntKind.i64.wrap ((k:Int)+1)=((k+1:Nat):Int):=by
 unfold BB at h
 rw [wr (by omega) (by omega)]; rfl
def Nn (n:Int):Bool:=bif decide (n≥97) then decide (n≤122) else false
def M1f (n:Int):Bool:=bif decide (n≥48) then decide (n≤57) else false
def G1n (i:Nat)(c:UInt8):Bool:=Nn c.toNat||(i != 0&&M1f c.toNat)
def Ko:Nat→List UInt8→Bool
 | _,[]=>true
 | i,c::r=>G1n i c&&Ko (i+1) r
def J5 (s:List UInt8):Bool:=Ko 0 s && !(s == [])
def kw:List UInt8:=[32,116,121,112,101,32,115,101,99,114,101,116,32,112,117,98,108,105,99,32,114,97,110,100,111,109,32,118,97,114,32,104,97,116,99,104,32,102,117,110,99,32,114,101,116,117,114,110,32,98,101,103,105,110,32,101,110,100,32,98,111,111,108,32,105,110,116,32,97,114,114,97,121,32,111,102,32,114,101,99,111,114,100,32,116,114,117,101,32,102,97,108,115,101,32,99,97,108,108,32,114,101,108,101,97,115,101,32,111,117,116,112,117,116,32,119,97,105,116,32,105,102,32,101,108,115,101,32,119,104,105,108,101,32,108,105,109,105,116,32,102,111,114,32,116,111,32,115,101,116,116,108,101,32,109,105,110,32,109,97,120,32]
def N1f (s:List UInt8):Bool:=bif (bif !(s == []) then !Lib.contains s [32] else false) then Lib.contains kw ([32]++s++[32]) else false
def C3 (s:List UInt8):Bool:=bif (bif decide ((s.length:Int)≤12) then J5 s else false) then !N1f s else false
theorem getD_some {s:List UInt8}{k:Nat}(h:k < s.length):s[k]?=some (s.getD k 0):=by simp [List.getD,h]
def ld (c:UInt8):Bool:=bif Nn c.toNat then true else M1f c.toNat
def K12:List UInt8→Nat
 | []=>0
 | c::r=>bif ld c then K12 r+1 else 0
theorem Q1l:∀ s:List UInt8,K12 s≤s.length
 | []=>Nat.le_refl _
 | c::r=>by
  simp only [K12,List.length_cons]
  have:=Q1l r
  cases ld c <;> simp <;> omega
def T19 (s:List UInt8):Bool:=bif ((s.length:Nat):Int) == 0 then false else bif s.all (fun c=>Nn c.toNat) then Lib.contains kw ([32]++s++[32]) else false
set_option maxRecDepth 100000 in
theorem U19:kw.length=162:=rfl
theorem J1j {s sub:List UInt8}{i:Nat}(hi:i+sub.length≤s.length)(h:((s.take (i+sub.length)).drop i == sub)=true):Lib.contains s sub=true:=by
 have ho:Lib.occAt s sub i=true:=by
  rw [Lib.occAt_iff_take s sub i hi]
  rw [List.drop_take] at h
  simpa using h
 rcases Lib.index_spec s sub with ⟨_,h2⟩ | ⟨j,h1,_⟩
 ·rw [h2 i (by omega)] at ho; cases ho
 ·unfold Lib.contains
  rw [h1]
  exact decide_eq_true (by omega)
theorem O16 {s sub:List UInt8}(h:∀ i,i+sub.length≤s.length→((s.take (i+sub.length)).drop i == sub)=false)(hne:sub≠[]):Lib.contains s sub=false:=by
 rcases Lib.index_spec s sub with ⟨h1,_⟩ | ⟨j,h1,h2,h3,_⟩
 ·unfold Lib.contains
  rw [h1]; rfl
 ·rcases Lib.occAt_room h3 with hr | hr
  ·have:=h j hr
   rw [Lib.occAt_iff_take s sub j hr] at h3
   rw [List.drop_take] at this
   have e:j+sub.length - j=sub.length:=by omega
   rw [e,h3] at this
   cases this
  ·exact absurd hr hne
def H1n (s:List UInt8):Bool:=
 bif (bif (bif (bif decide (((s.length:Nat):Int) < 1) then true else decide (((s.length:Nat):Int) > 12)) then true else !Nn (s.getD 0 0).toNat) then true else T19 s) then false else ((K12 s:Nat):Int) == ((s.length:Nat):Int)
theorem I1b:∀ (r:List UInt8) (i:Nat),1≤i→Ko i r=r.all ld
 | [],_,_=>rfl
 | c::r,i,h=>by
  have hi:(i != 0)=true:=by simp; omega
  simp only [Ko,List.all_cons,I1b r (i+1) (by omega),G1n,hi,Bool.true_and,ld]
  cases Nn c.toNat <;> rfl
theorem R1l:∀ s:List UInt8,(((K12 s:Nat):Int) == ((s.length:Nat):Int))=s.all ld
 | []=>rfl
 | c::r=>by
  have h:=R1l r
  have hle:=Q1l r
  simp only [K12,List.length_cons,List.all_cons,← h]
  cases ld c with
  | false=>
   simp only [cond_false,Bool.false_and]
   apply beq_eq_false_iff_ne.2
   omega
  | true=>
   simp only [cond_true,Bool.true_and]
   rw [Bool.eq_iff_iff,beq_iff_eq,beq_iff_eq]
   omega
set_option maxRecDepth 100000 in
theorem N1r:kw.all (fun c=>Nn c.toNat||c == 32)=true:=by decide
theorem V19 {s sub:List UInt8}(h:Lib.contains s sub=true)(hne:sub≠[]):∀ c∈sub,c∈s:=by
 rcases Lib.index_spec s sub with ⟨h1,_⟩ | ⟨j,h1,h2,h3,_⟩
 ·unfold Lib.contains at h
  rw [h1] at h
  cases h
 ·rcases Lib.occAt_room h3 with hr | hr
  ·rw [Lib.occAt_iff_take s sub j hr] at h3
   have e:(s.drop j).take sub.length=sub:=by simpa using h3
   intro c hc
   rw [← e] at hc
   exact List.mem_of_mem_drop (List.mem_of_mem_take hc)
  ·exact absurd hr hne
theorem K1j:ld 32=false:=by decide
theorem O1r {s:List UInt8}(h:s.all ld=true):Lib.contains s [32]=false:=by
 cases hc:Lib.contains s [32] with
 | false=>rfl
 | true=>
  have:=V19 hc (by simp) 32 (by simp)
  have:=List.all_eq_true.1 h 32 this
  rw [K1j] at this
  cases this
theorem J1t {s:List UInt8}(h:s.all ld=true)(hc:Lib.contains kw ([32]++s++[32])=true):s.all (fun c=>Nn c.toNat)=true:=by
 rw [List.all_eq_true]
 intro c hcs
 have h1:=V19 hc (by simp) c (by simp [hcs])
 have h2:=List.all_eq_true.1 N1r c h1
 have h3:=List.all_eq_true.1 h c hcs
 cases hl:Nn c.toNat with
 | true=>rfl
 | false=>
  rw [hl,Bool.false_or,beq_iff_eq] at h2
  subst h2
  rw [K1j] at h3
  cases h3
theorem K1t (s:List UInt8):H1n s=C3 s:=by
 unfold H1n C3
 rw [R1l]
 cases s with
 | nil=>rfl
 | cons c r=>
  have h1:decide ((((c::r).length:Nat):Int) < 1)=false:=decide_eq_false (by simp only [List.length_cons]; omega)
  have h12:decide ((((c::r).length:Nat):Int) > 12) = !decide ((((c::r).length:Nat):Int)≤12):=by
   rw [← decide_not]; exact decide_eq_decide.2 Int.not_le.symm
  have hw:J5 (c::r)=(Nn c.toNat&&r.all ld):=by
   unfold J5
   simp only [Ko,G1n,I1b r 1 (Nat.le_refl _)]
   simp
  rw [h1,h12,hw,cond_false,List.all_cons]
  show (bif (bif (bif !decide ((((c::r).length:Nat):Int)≤12) then true else !Nn c.toNat) then true else T19 (c::r)) then false else (ld c&&r.all ld))=_
  cases h12':decide ((((c::r).length:Nat):Int)≤12) with
  | false=>rfl
  | true=>
   cases hl:Nn c.toNat with
   | false=>rfl
   | true=>
    have hlc:ld c=true:=by unfold ld; rw [hl]; rfl
    rw [hlc]
    cases ha:r.all ld with
    | false=>cases T19 (c::r) <;> rfl
    | true=>
     have hall:(c::r).all ld=true:=by rw [List.all_cons,hlc,ha]; rfl
     have hns:=O1r hall
     have e:T19 (c::r)=N1f (c::r):=by
      unfold T19 N1f
      rw [hns]
      have hz:((((c::r).length:Nat):Int) == 0)=false:=beq_eq_false_iff_ne.2 (by simp only [List.length_cons]; omega)
      rw [hz]
      cases hk:Lib.contains kw ([32]++(c::r)++[32]) with
      | false=>simp
      | true=>
       rw [J1t hall hk]
       rfl
     rw [e]
     cases N1f (c::r) <;> rfl
theorem W1k (n:Int):Ej n=some (Nn n):=rfl
theorem I1n (n:Int):Bk n=some (M1f n):=rfl
theorem G1e (s:Str)(hs:s.length≤BB):∀ (r:Str) (k:Nat),s.drop k=r→S5 s k=some (Ko k r && !(s == []))
 | [],k,h=>by rw [S5,(Z0 h).1]; simp [Ko]
 | c::r,k,h=>by
  obtain ⟨h1,h2,h3,h4,_⟩:=P1 h
  have ih:=G1e s hs r (k+1) h3
  rw [S5,h1,if_pos rfl,h2,ob,W1k,ob,w1 (by omega),ih]
  have e:((k:Int) == 0)=(k == 0):=by cases k <;> rfl
  simp only [e,Ko,G1n,bne]
  cases hl:Nn c.toNat <;> cases hk:k == 0 <;> cases hd:M1f c.toNat <;> simp [I1n,hd]
theorem K1p (s:Str)(hs:s.length≤BB):Tl s=some (J5 s):=G1e s hs s 0 rfl
theorem P16 (s t:Str)(hs:s.length≤4000000000):Sm s t=some (Lib.contains s t):=by
 unfold Sm
 rw [if_pos (decide_eq_true (by omega))]
theorem X1k (s:Str)(hs:s.length≤4000000000):Fg s=some (N1f s):=by
 unfold Fg
 have h1:decide (1+s.length≤maxLen)=true:=decide_eq_true (by unfold maxLen; omega)
 have h2:decide (([32]++s).length+1≤maxLen)=true:=decide_eq_true (by unfold maxLen; simp; omega)
 rw [P16 s _ hs]
 have h3:=P16 kw (([32]++s)++[32]) (by rw [U19]; omega)
 unfold kw at h3
 unfold N1f kw
 rw [h1,h2,h3]
 cases s == [] <;> cases Lib.contains s [32] <;> simp
theorem W19 (s:Str)(hs:s.length≤BB):Q9 s=some (C3 s):=by
 unfold Q9 Ul C3
 rw [K1p s hs]
 cases h:decide ((s.length:Int)≤12) with
 | false=>simp
 | true=>
  have h':s.length≤12:=by have:=of_decide_eq_true h; omega
  rw [X1k s (by omega)]
  cases J5 s <;> simp
theorem Tz (n:Int):Em n=some (Nn n):=rfl
theorem Y1k (n:Int):Du n=some (M1f n):=rfl
theorem S1l (s:Str)(hs:s.length≤BB):∀ (r:Str) (k:Nat),s.drop k=r→Jh s k=some ((k+K12 r:Nat):Int)
 | [],k,h=>by rw [Jh,(Z0 h).1]; simp [K12,ob]
 | c::r,k,h=>by
  obtain ⟨h1,h2,h3,h4,_⟩:=P1 h
  have ih:=S1l s hs r (k+1) h3
  rw [Jh,h1,if_pos rfl,h2,ob,if_pos rfl,Tz,ob,w1 (by omega),ih]
  simp only [K12,ld]
  cases hl:Nn c.toNat <;> cases hd:M1f c.toNat <;> simp [Y1k,hd,ob] <;> omega
theorem H1u (s:Str)(hs:s.length≤BB):Wu s 0=some ((K12 s:Nat):Int):=by
 have:=S1l s hs s 0 rfl
 unfold Wu
 rw [Nat.zero_add] at this
 exact this
theorem P1r (s:Str)(hs:s.length≤4000000000):∀ (n k:Nat),n+k=163→(∀ i,i < k→i+([32]++s++[32]).length≤kw.length→((kw.take (i+([32]++s++[32]).length)).drop i == [32]++s++[32])=false)→
  F8 s k=some (Lib.contains kw ([32]++s++[32])):=by
 have hl:([32]++s++[32]).length=s.length+2:=by simp
 intro n
 induction n with
 | zero=>
  intro k hk hi
  rw [F8,wr (n:=(k:Int)+_) (by omega) (by omega),wr (by omega) (by omega),if_neg (by simp; omega),O16 (fun i h=>hi i (by rw [U19] at h; omega) h) (by simp)]
 | succ n ih=>
  intro k hk hi
  rw [F8,wr (n:=(k:Int)+_) (by omega) (by omega),wr (by omega) (by omega)]
  by_cases hr:k+([32]++s++[32]).length≤kw.length
  ·have hr':=hr
   rw [U19,hl] at hr'
   rw [if_pos (decide_eq_true (by omega))]
   have hs2:slc kw (k:Int) ((k:Int)+(s.length:Int)+2)=some ((kw.take (k+([32]++s++[32]).length)).drop k):=by
    unfold slc
    rw [if_pos ⟨by omega,by omega,by rw [U19]; omega⟩,hl]
    rw [show ((k:Int)+(s.length:Int)+2).toNat=k+(s.length+2) by omega]
    rfl
   unfold kw at hs2
   rw [hs2,ob,if_pos (decide_eq_true (by unfold maxLen; omega)),if_pos (decide_eq_true (by unfold maxLen; simp; omega))]
   cases he:((kw.take (k+([32]++s++[32]).length)).drop k == [32]++s++[32]) with
   | true=>
    have:=J1j hr he
    rw [this]
    unfold kw at he
    rw [he,if_pos rfl]
   | false=>
    have he':=he
    unfold kw at he'
    rw [he',if_neg (by simp),w1 (by unfold BB; omega)]
    refine ih (k+1) (by omega) fun i hik=>?_
    rcases Nat.lt_or_eq_of_le (Nat.le_of_lt_succ hik) with h | h
    ·exact hi i h
    ·subst h; exact fun _=>he
  ·have hr':=hr
   rw [U19,hl] at hr'
   rw [if_neg (by simp; omega),O16 (fun i h=>hi i (by omega) h) (by simp)]
theorem L1j (s:Str)(hs:s.length≤4000000000):∀ (r:Str) (k:Nat),s.drop k=r→G8 s k=some (bif r.all (fun c=>Nn c.toNat) then Lib.contains kw ([32]++s++[32]) else false)
 | [],k,h=>by rw [G8,(Z0 h).1,if_neg (by simp)]; exact P1r s hs 163 0 rfl (fun i h=>by omega)
 | c::r,k,h=>by
  obtain ⟨h1,h2,h3,h4,_⟩:=P1 h
  have ih:=L1j s hs r (k+1) h3
  rw [G8,h1,if_pos rfl,h2,ob,Tz,ob,w1 (by unfold BB; omega),ih,List.all_cons]
  cases Nn c.toNat <;> simp
theorem O1f (s:Str)(hs:s.length≤4000000000):Fm s=some (T19 s):=by
 unfold Fm T19
 have:=L1j s hs s 0 rfl
 rw [show (0:Int)=((0:Nat):Int) from rfl,this]
 cases ((s.length:Int) == ((0:Nat):Int)) <;> simp
theorem Kj (s:Str)(hs:s.length≤BB):T7 s=some (C3 s):=by
 rw [← K1t]
 unfold T7 Vr H1n
 cases h:(bif decide ((s.length:Int) < 1) then true else decide ((s.length:Int) > 12)) with
 | true=>simp [ob]
 | false=>
  have h':1≤s.length∧s.length≤12:=by
   cases h1:decide ((s.length:Int) < 1) with
   | true=>rw [h1] at h; cases h
   | false=>
    rw [h1] at h
    have:=of_decide_eq_false h1
    have:=of_decide_eq_false (show decide ((s.length:Int) > 12)=false from h)
    omega
  have h0:idx s 0=some (s.getD 0 0):=getD_some (by omega)
  rw [h0,O1f s (by omega),H1u s hs]
  simp only [Bool.not_false,if_true,ob,Tz,cond_false]
  cases Nn (s.getD 0 0).toNat <;> cases T19 s <;> simp [ob]
end Go.Proofs.YtbmlpamppbcdeaaGreatDoor

set_option linter.unusedSimpArgs false
namespace Go.Proofs.YtbmlpamppbcdeaaGreatDoor
open Go.Am
theorem F0.ind {P:F0→Prop}(h:∀ t:F0,(∀ x∈t.Of,P x)→P t):∀ t,P t:=by
 intro t
 refine F0.rec (motive_1:=P) (motive_2:=fun l=>∀ x∈l,P x) ?_ ?_ ?_ t
 ·intro k l h' s n ns of ih
  exact h _ ih
 ·intro x hx; cases hx
 ·intro x r hx hr y hy
  cases hy with
  | head=>exact hx
  | tail _ hy=>exact hr y hy
mutual
def F0.depth:F0→Nat
 | .mk _ _ _ _ _ _ of=>F0.depths of+1
def F0.depths:List F0→Nat
 | []=>0
 | t::r=>max (F0.depth t) (F0.depths r)
end
theorem F0.depth_eq (t:F0):t.depth=F0.depths t.Of+1:=by cases t; simp [F0.depth,F0.Of]
def U2 (a b c:Int):Bool:=bif decide (a≥b) then decide (a≤c) else false
mutual
def F0.all (p:F0→Bool):F0→Bool
 | .mk k l h s n ns of=>p (.mk k l h s n ns of)&&F0.alls p of
def F0.alls (p:F0→Bool):List F0→Bool
 | []=>true
 | t::r=>F0.all p t&&F0.alls p r
end
theorem F0.all_eq (p:F0→Bool)(t:F0):t.all p=(p t&&F0.alls p t.Of):=by cases t; rfl
mutual
def F0.nodes:F0→Nat
 | .mk _ _ _ _ _ _ of=>F0.nodess of+1
def F0.nodess:List F0→Nat
 | []=>0
 | t::r=>F0.nodes t+F0.nodess r
end
theorem F0.nodes_eq (t:F0):t.nodes=F0.nodess t.Of+1:=by cases t; rfl
mutual
theorem F0.depth_nodes:∀ t:F0,t.depth≤t.nodes
 | .mk _ _ _ _ _ _ of=>by simp only [F0.depth,F0.nodes]; have:=F0.depths_nodess of; omega
theorem F0.depths_nodess:∀ l:List F0,F0.depths l≤F0.nodess l
 | []=>Nat.le_refl _
 | t::r=>by simp only [F0.depths,F0.nodess]; have:=F0.depth_nodes t; have:=F0.depths_nodess r; omega
end
def fm1 (t:F0):Bool:=bif decide (t.Kind≥0) then decide (t.Kind≤4) else false
def fm2 (t:F0):Bool:=bif t.Kind == 1 then true else bif t.Low == 0 then t.High == 0 else false
def fm3 (t:F0):Bool:=bif t.Kind == 2 then true else t.Size == 0
def fm4 (t:F0):Bool:=bif t.Kind == 4 then true else t.Name == []
def fm5 (t:F0):Bool:=bif t.Kind == 3 then true else ((t.Names).length:Int) == 0
def fm6 (t:F0):Bool:=bif t.Kind == 2 then ((t.Of).length:Int) == 1 else bif t.Kind == 3 then (bif decide (((t.Of).length:Int)≥1) then ((t.Of).length:Int) == ((t.Names).length:Int) else false) else ((t.Of).length:Int) == 0
def nm1 (t:F0):Bool:=bif t.Kind == 2 then U2 t.Size 1 32 else bif t.Kind == 3 then decide (((t.Of).length:Int)≤32) else true
def nm2 (t:F0):Bool:=bif t.Kind == 1 then (bif U2 t.Low (-1048576) 1048576 then U2 t.High t.Low 1048576 else false) else true
def na1 (t:F0):Bool:=bif t.Kind == 4 then C3 t.Name else true
def Ua (t:F0):Bool:=fm1 t&&fm2 t&&fm3 t&&fm4 t&&fm5 t&&fm6 t
def Kp (t:F0):Bool:=nm1 t&&nm2 t
def Tk (t:F0):Bool:=na1 t&&t.Names.all C3
theorem Jv (a b c:Bool):(a || !b || !c)=(a || !(b&&c)):=by cases a <;> cases b <;> cases c <;> rfl
def Xt (n d:Int)(f m u:Bool):Int:=
 bif (bif decide (n > 1024) then true else decide (d > 12)) then 4 else bif f then 1 else bif m then 7 else bif u then 3 else 0
theorem B16 (a b:Int):decide (a < b) = !decide (a≥b):=by
 rw [← decide_not]; exact decide_eq_decide.2 Int.not_le.symm
theorem C16 (a b:Int):decide (a > b) = !decide (a≤b):=by
 rw [← decide_not]; exact decide_eq_decide.2 Int.not_le.symm
def M1j (t:F0):Bool:=bif decide (t.Kind < 0) then true else decide (t.Kind > 4)
def N1j (t:F0):Bool:=
 bif (bif (bif (bif t.Kind != 1 then (bif t.Low != 0 then true else t.High != 0) else false) then true else (bif t.Kind != 2 then t.Size != 0 else false)) then true else (bif t.Kind != 4 then !(t.Name == []) else false)) then true else
  (bif t.Kind != 3 then ((t.Names).length:Int) != 0 else false)
def O1j (t:F0):Bool:=
 bif (bif (bif t.Kind == 2 then ((t.Of).length:Int) != 1 else false) then true else
  (bif t.Kind == 3 then (bif decide (((t.Of).length:Int) < 1) then true else ((t.Of).length:Int) != ((t.Names).length:Int)) else false)) then true else
  (bif (bif t.Kind != 2 then t.Kind != 3 else false) then ((t.Of).length:Int) != 0 else false)
theorem L1t (t:F0):fm1 t = !M1j t:=by
 unfold fm1 M1j
 rw [B16,C16]
 cases decide (t.Kind≥0) <;> cases decide (t.Kind≤4) <;> rfl
theorem M1t (t:F0):(fm2 t&&fm3 t&&fm4 t&&fm5 t) = !N1j t:=by
 unfold fm2 fm3 fm4 fm5 N1j
 simp only [bne]
 generalize (t.Kind == 1)=a
 generalize (t.Kind == 2)=b
 generalize (t.Kind == 3)=c
 generalize (t.Kind == 4)=d
 generalize (t.Low == 0)=e
 generalize (t.High == 0)=f
 generalize (t.Size == 0)=g
 generalize (t.Name == [])=h
 generalize (((t.Names).length:Int) == 0)=i
 cases a <;> cases b <;> cases c <;> cases d <;> cases e <;> cases f <;> cases g <;> cases h <;> cases i <;> rfl
theorem N1t (t:F0):fm6 t = !O1j t:=by
 have hx:(t.Kind == 2)=true→(t.Kind == 3)=false:=fun h=>by
  have:t.Kind=2:=by simpa using h
  rw [this]; rfl
 unfold fm6 O1j
 rw [B16]
 simp only [bne]
 revert hx
 generalize (t.Kind == 2)=b
 generalize (t.Kind == 3)=c
 generalize (((t.Of).length:Int) == 1)=d
 generalize (((t.Of).length:Int) == 0)=e
 generalize (((t.Of).length:Int) == ((t.Names).length:Int))=f
 generalize (decide (((t.Of).length:Int)≥1))=g
 intro hx
 cases b <;> cases c <;> first | (exact absurd (hx rfl) (by decide)) | (cases d <;> cases e <;> cases f <;> cases g <;> rfl)
theorem Q1r (t:F0):Ua t=(!M1j t && !N1j t && !O1j t):=by
 rw [← L1t,← M1t,← N1t]
 unfold Ua
 simp only [Bool.and_assoc]
def Uk (n:Int):Bool:=bif decide (n≥-1048576) then decide (n≤1048576) else false
def Yt (t:F0):Bool:=
 bif (bif (bif t.Kind == 1 then (bif (bif !Uk t.Low then true else !Uk t.High) then true else decide (t.Low > t.High)) else false) then true else
  (bif t.Kind == 2 then (bif decide (t.Size < 1) then true else decide (t.Size > 32)) else false)) then true else decide (((t.Of).length:Int) > 32)
theorem P1j (t:F0)(hf:Ua t=true):Kp t = !Yt t:=by
 have hk1:(t.Kind == 1)=true→(t.Kind == 2)=false∧(t.Kind == 3)=false:=fun h=>by
  have:t.Kind=1:=by simpa using h
  rw [this]; exact ⟨rfl,rfl⟩
 have hk2:(t.Kind == 2)=true→(t.Kind == 3)=false:=fun h=>by
  have:t.Kind=2:=by simpa using h
  rw [this]; rfl
 have h6:fm6 t=true:=by
  unfold Ua at hf
  simp only [Bool.and_eq_true] at hf
  exact hf.2
 have hin:(bif U2 t.Low (-1048576) 1048576 then U2 t.High t.Low 1048576 else false) = !(bif (bif !Uk t.Low then true else !Uk t.High) then true else decide (t.Low > t.High)):=by
  unfold U2 Uk
  by_cases a1:t.Low≥-1048576 <;> by_cases a2:t.Low≤1048576 <;> by_cases a3:t.High≥-1048576 <;> by_cases a4:t.High≤1048576 <;> by_cases a5:t.High≥t.Low <;>
   simp [a1,a2,a3,a4,a5] <;> omega
 have hsz:U2 t.Size 1 32 = !(bif decide (t.Size < 1) then true else decide (t.Size > 32)):=by
  unfold U2
  rw [B16,C16]
  cases decide (t.Size≥1) <;> cases decide (t.Size≤32) <;> rfl
 unfold Kp Yt nm1 nm2
 rw [hin,hsz,C16 (((t.Of).length:Int))]
 have hl:(t.Kind == 3)=false→decide (((t.Of).length:Int)≤32)=true:=fun h3=>by
  unfold fm6 at h6
  rw [h3] at h6
  cases h2:t.Kind == 2 with
  | true=>
   rw [h2] at h6
   have:((t.Of).length:Int)=1:=by simpa using h6
   exact decide_eq_true (by omega)
  | false=>
   rw [h2] at h6
   have:((t.Of).length:Int)=0:=by simpa using h6
   exact decide_eq_true (by omega)
 revert hk1 hk2 hl
 generalize (bif (bif !Uk t.Low then true else !Uk t.High) then true else decide (t.Low > t.High))=X
 generalize (bif decide (t.Size < 1) then true else decide (t.Size > 32))=Y
 generalize decide (((t.Of).length:Int)≤32)=Z
 generalize (t.Kind == 1)=a
 generalize (t.Kind == 2)=b
 generalize (t.Kind == 3)=c
 intro hk1 hk2 hl
 cases a <;> cases b <;> cases c <;> first | exact absurd (hk1 rfl).1 (by decide) | exact absurd (hk1 rfl).2 (by decide) | exact absurd (hk2 rfl) (by decide) | (cases X <;> cases Y <;> cases Z <;> first | rfl | exact absurd (hl rfl) (by decide))
theorem Z1k (t:F0):t.all Ua=true→t.all Kp=t.all fun t=>!Yt t:=by
 induction t using F0.ind with
 | h t ih=>
 intro hf
 rw [F0.all_eq,Bool.and_eq_true] at hf
 rw [F0.all_eq,F0.all_eq,P1j t hf.1]
 congr 1
 have:∀ l:List F0,(∀ x∈l,x.all Ua=true→x.all Kp=x.all fun t=>!Yt t)→F0.alls Ua l=true→F0.alls Kp l=F0.alls (fun t=>!Yt t) l:=by
  intro l
  induction l with
  | nil=>intros; rfl
  | cons x r ihr=>
   intro h1 h2
   simp only [F0.alls,Bool.and_eq_true] at h2
   simp only [F0.alls]
   rw [h1 x List.mem_cons_self h2.1,ihr (fun y hy=>h1 y (List.mem_cons_of_mem _ hy)) h2.2]
 exact this t.Of ih hf.2
def eqL {α:Type}(p:α→α→Bool):List α→List α→Bool
 | [],[]=>true
 | x::r,y::s=>p x y&&eqL p r s
 | _,_=>false
theorem Km {α:Type}(p:α→α→Bool):∀ {l m:List α},l.length≠m.length→eqL p l m=false
 | [],[],h=>absurd rfl h
 | [],_::_,_=>rfl
 | _::_,[],_=>rfl
 | x::r,y::s,h=>by rw [eqL,Km p (l:=r) (m:=s) (by simpa using h),Bool.and_false]
mutual
def F0.same:F0→F0→Bool
 | .mk k l h s n ns of,t=>k == t.Kind&&l == t.Low&&h == t.High&&s == t.Size&&n == t.Name&&eqL (fun x y=>x == y) ns t.Names&&F0.sames of t.Of
def F0.sames:List F0→List F0→Bool
 | [],[]=>true
 | x::r,y::s=>F0.same x y&&F0.sames r s
 | [],_::_=>false
 | _::_,[]=>false
end
theorem F0.sames_eq:∀ l m:List F0,F0.sames l m=eqL F0.same l m
 | [],[]=>rfl
 | x::r,y::s=>by simp only [F0.sames,eqL,F0.sames_eq r s]
 | [],_::_=>rfl
 | _::_,[]=>rfl
theorem F0.same_eq (t u:F0):t.same u=(t.Kind == u.Kind&&t.Low == u.Low&&t.High == u.High&&t.Size == u.Size&&t.Name == u.Name&&eqL (fun x y=>x == y) t.Names u.Names&&eqL F0.same t.Of u.Of):=by
 rw [← F0.sames_eq]
 cases t
 rfl
def P1f (t u:F0):Bool:=
 bif (bif (bif (bif (bif (bif t.Kind != u.Kind then true else t.Low != u.Low) then true else t.High != u.High) then true else t.Size != u.Size) then true else !(t.Name == u.Name)) then true else
  ((t.Names).length:Int) != ((u.Names).length:Int)) then true else ((t.Of).length:Int) != ((u.Of).length:Int)
theorem L1p {t u:F0}(h:P1f t u=true):t.same u=false:=by
 have hn:((t.Names).length:Int)≠((u.Names).length:Int)→eqL (fun x y=>x == y) t.Names u.Names=false:=fun h=>Km _ fun e=>h (by omega)
 have ho:((t.Of).length:Int)≠((u.Of).length:Int)→eqL F0.same t.Of u.Of=false:=fun h=>Km _ fun e=>h (by omega)
 unfold P1f at h
 rw [F0.same_eq]
 by_cases h1:((t.Names).length:Int)=((u.Names).length:Int)
 ·by_cases h2:((t.Of).length:Int)=((u.Of).length:Int)
  ·rw [h1,h2] at h
   revert h
   simp only [bne,beq_self_eq_true,Bool.not_true]
   cases t.Kind == u.Kind <;> cases t.Low == u.Low <;> cases t.High == u.High <;> cases t.Size == u.Size <;> cases t.Name == u.Name <;> simp
  ·rw [ho h2,Bool.and_false]
 ·rw [hn h1,Bool.and_false,Bool.false_and]
theorem R1r {t u:F0}(h:P1f t u=false):t.same u=(eqL (fun x y=>x == y) t.Names u.Names&&eqL F0.same t.Of u.Of)∧t.Names.length=u.Names.length∧t.Of.length=u.Of.length:=by
 unfold P1f at h
 simp only [bne] at h
 have key:t.Kind == u.Kind∧t.Low == u.Low∧t.High == u.High∧t.Size == u.Size∧t.Name == u.Name∧((t.Names).length:Int) == ((u.Names).length:Int)∧((t.Of).length:Int) == ((u.Of).length:Int):=by
  revert h
  cases t.Kind == u.Kind <;> cases t.Low == u.Low <;> cases t.High == u.High <;> cases t.Size == u.Size <;> cases t.Name == u.Name <;> cases ((t.Names).length:Int) == ((u.Names).length:Int) <;> cases ((t.Of).length:Int) == ((u.Of).length:Int) <;> simp
 obtain ⟨k1,k2,k3,k4,k5,k6,k7⟩:=key
 refine ⟨by rw [F0.same_eq,k1,k2,k3,k4,k5]; rfl,?_,?_⟩
 ·have:(t.Names.length:Int)=u.Names.length:=by simpa using k6
  omega
 ·have:(t.Of.length:Int)=u.Of.length:=by simpa using k7
  omega
end Go.Proofs.YtbmlpamppbcdeaaGreatDoor

set_option linter.unusedSimpArgs false
namespace Go.Proofs.YtbmlpamppbcdeaaGreatDoor
open Go.Am
mutual
def F0.bulk:F0→Nat
 | .mk _ _ _ _ n ns of=>1+(1+(1+(1+((n.length+1)+(((ns.map fun s=>s.length+1).sum+1)+((F0.bulks of+1)+0))))))+1
def F0.bulks:List F0→Nat
 | []=>0
 | x::r=>F0.bulk x+F0.bulks r
end
theorem F0.bulk_eq (t:F0):t.bulk=t.Name.length+(t.Names.map fun s=>s.length+1).sum+F0.bulks t.Of+8:=by cases t; simp only [F0.bulk]; omega
theorem F0.bulk_kid {t:F0}:∀ {l:List F0},t∈l→t.bulk≤F0.bulks l
 | x::r,h=>by
  simp only [F0.bulks]
  cases h with
  | head=>omega
  | tail _ h=>have:=F0.bulk_kid h; omega
theorem F0.bulk_len:∀ l:List F0,l.length≤F0.bulks l
 | []=>Nat.le_refl _
 | x::r=>by
  simp only [F0.bulks,List.length_cons]
  have:=F0.bulk_len r
  have:=F0.bulk_eq x
  omega
theorem Q1j {s:Str}:∀ {l:List Str},s∈l→s.length+1≤(l.map fun s=>s.length+1).sum
 | x::r,h=>by
  simp only [List.map_cons,List.sum_cons]
  cases h with
  | head=>omega
  | tail _ h=>have:=Q1j h; omega
theorem R1j:∀ l:List Str,l.length≤(l.map fun s=>s.length+1).sum
 | []=>Nat.le_refl _
 | x::r=>by simp only [List.map_cons,List.sum_cons,List.length_cons]; have:=R1j r; omega
mutual
theorem F0.nodes_bulk:∀ t:F0,t.nodes≤t.bulk
 | .mk _ _ _ _ _ _ of=>by simp only [F0.nodes,F0.bulk]; have:=F0.nodess_bulk of; omega
theorem F0.nodess_bulk:∀ l:List F0,F0.nodess l≤F0.bulks l
 | []=>Nat.le_refl _
 | x::r=>by simp only [F0.nodess,F0.bulks]; have:=F0.nodes_bulk x; have:=F0.nodess_bulk r; omega
end
def Ok (t:F0):Prop:=t.bulk≤BB
theorem Ok.kid {t x:F0}(h:Ok t)(hx:x∈t.Of):Ok x:=by
 unfold Ok at *
 have:=F0.bulk_kid hx
 have:=F0.bulk_eq t
 omega
theorem Ok.ofs {t:F0}(h:Ok t):t.Of.length≤BB:=by
 unfold Ok at *
 have:=F0.bulk_len t.Of
 have:=F0.bulk_eq t
 omega
theorem Ok.names {t:F0}(h:Ok t):t.Names.length≤BB:=by
 unfold Ok at *
 have:=R1j t.Names
 have:=F0.bulk_eq t
 omega
theorem Ok.name1 {t:F0}(h:Ok t){s:Str}(hs:s∈t.Names):s.length≤BB:=by
 unfold Ok at *
 have:=Q1j hs
 have:=F0.bulk_eq t
 omega
theorem Ok.name {t:F0}(h:Ok t):t.Name.length≤BB:=by
 unfold Ok at *
 have:=F0.bulk_eq t
 omega
theorem Ok.nodes {t:F0}(h:Ok t):t.nodes≤BB:=Nat.le_trans (F0.nodes_bulk t) h
theorem bor (a b:Bool):(bif a then true else b)=(a||b):=by cases a <;> rfl
theorem F1c (d:Int)(o:J0):R5 d o=some ⟨o.nodes,max o.depth d,o.badForm,o.badName,o.badNumber⟩:=rfl
theorem G1c (b:Bool)(o:J0):T0 b o=some ⟨o.nodes,o.depth,o.badForm || !b,o.badName,o.badNumber⟩:=by unfold T0; rw [bor]
theorem Nx (b:Bool)(o:J0):U1 b o=some ⟨o.nodes,o.depth,o.badForm,o.badName,o.badNumber || !b⟩:=by unfold U1; rw [bor]
theorem Ym (a b c:Int):Y2 a b c=some (U2 a b c):=rfl
theorem D16 (s:Str)(hs:s.length≤BB)(o:J0):E3 s o=some ⟨o.nodes,o.depth,o.badForm,o.badName || !C3 s,o.badNumber⟩:=by
 unfold E3
 rw [W19 s hs]
 cases h:o.badName <;> simp
theorem S1r (o:J0):L4 o=some (Xt o.nodes o.depth o.badForm o.badName o.badNumber):=by
 unfold L4 Xt
 cases (bif decide (o.nodes > 1024) then true else decide (o.depth > 12)) <;> cases o.badForm <;> cases o.badName <;> cases o.badNumber <;> rfl
def Zj (o:J0)(d:Int)(n m:Nat)(f a u:Bool):J0:=⟨o.nodes+n,max o.depth (d+m),o.badForm || !f,o.badName || !a,o.badNumber || !u⟩
theorem M1p (t:F0)(d:Int)(hd:0≤d)(ht:Ok t)
  (ih:∀ x∈t.Of,∀ (d:Int) (o:J0),0≤d→d+x.nodes≤4 * BB→0≤o.nodes→o.nodes+x.nodes≤4 * BB→O3 x d o=some (Zj o d x.nodes (x.depth - 1) (x.all Ua) (x.all Tk) (x.all Kp))) :
  ∀ (r:List F0) (k:Nat) (o:J0),t.Of.drop k=r→(∀ x∈r,x∈t.Of)→d+1+F0.nodess r≤4 * BB→0≤o.nodes→o.nodes+F0.nodess r≤4 * BB→d≤o.depth→
   J4 t d o k=some (Zj o d (F0.nodess r) (F0.depths r) (F0.alls Ua r) (F0.alls Tk r) (F0.alls Kp r))
 | [],k,o,h,_,_,_,_,h5=>by
  rw [J4,(Z0 h).1]
  simp only [Zj,F0.nodess,F0.depths,F0.alls,Bool.not_true,Bool.or_false]
  rw [if_neg (by simp),show o.nodes+((0:Nat):Int)=o.nodes by omega,show max o.depth (d+((0:Nat):Int))=o.depth by omega]
 | x::r,k,o,h,hm,hb,h3,h4,h5=>by
  obtain ⟨e1,e2,e3,e4,e5⟩:=P1 h
  simp only [F0.nodess] at hb h4
  have hdp:1≤x.depth:=by rw [F0.depth_eq]; omega
  have hof:=ht.ofs
  unfold BB at hb h4 hof
  rw [J4,e1,if_pos rfl,e2,ob,wr (n:=d+1) (by omega) (by omega),ih x e5 (d+1) o (by omega) (by unfold BB; omega) h3 (by unfold BB; omega),ob,w1 (by unfold BB; omega),
   M1p t d hd ht ih r (k+1) _ e3 (fun y hy=>hm y (List.mem_cons_of_mem _ hy)) (by unfold BB; omega) (by simp only [Zj]; omega) (by simp only [Zj]; unfold BB; omega) (by simp only [Zj]; omega)]
  simp only [Zj,F0.nodess,F0.depths,F0.alls,Jv]
  rw [show o.nodes+(x.nodes:Int)+(F0.nodess r:Nat)=o.nodes+((x.nodes+F0.nodess r:Nat):Int) by omega,
   show max (max o.depth (d+1+((x.depth - 1:Nat):Int))) (d+(F0.depths r:Nat))=max o.depth (d+((max x.depth (F0.depths r):Nat):Int)) by omega]
theorem N1p (t:F0)(d:Int)(ht:Ok t)(R:J0→Option J0)(hR:∀ o,J4 t d o 0=R o) :
  ∀ (r:List Str) (k:Nat) (o:J0),t.Names.drop k=r→Q3 t d o k=R ⟨o.nodes,o.depth,o.badForm,o.badName || !r.all C3,o.badNumber⟩
 | [],k,o,h=>by
  rw [Q3,(Z0 h).1,if_neg (by simp),hR]
  simp
 | x::r,k,o,h=>by
  obtain ⟨e1,e2,e3,e4,e5⟩:=P1 h
  have:=ht.names
  rw [Q3,e1,if_pos rfl,e2,ob,D16 x (ht.name1 e5),ob,w1 (by omega),N1p t d ht R hR r (k+1) _ e3]
  simp only [List.all_cons,Jv]
theorem I1u (t:F0)(d:Int)(ht:Ok t)(o:J0):U5 t d o=Q3 t d ⟨o.nodes,o.depth,o.badForm,o.badName || !na1 t,o.badNumber⟩ 0:=by
 rw [U5,D16 _ ht.name,ob,I7,I7]
 unfold na1
 cases h:t.Kind == 4 <;> simp
theorem J1u (t:F0)(d:Int)(o:J0):T5 t d o=U5 t d ⟨o.nodes,o.depth,o.badForm,o.badName,o.badNumber || !nm2 t⟩:=by
 rw [T5]
 unfold nm2
 simp only [Ym,Nx,ob]
 cases h:t.Kind == 1 <;> cases U2 t.Low (-1048576) 1048576 <;> simp [ob]
theorem K1u (t:F0):Ok t→∀ (d:Int) (o:J0),0≤d→d+t.nodes≤4 * BB→0≤o.nodes→o.nodes+t.nodes≤4 * BB→
  O3 t d o=some (Zj o d t.nodes (t.depth - 1) (t.all Ua) (t.all Tk) (t.all Kp)):=by
 induction t using F0.ind with
 | h t ih=>
 intro ht d o hd hb h3 h4
 have h5:=fun o h3 h4 hd'=>M1p t d hd ht (fun x hx=>ih x hx (ht.kid hx)) t.Of 0 o rfl (fun _ h=>h) (by rw [F0.nodes_eq] at hb; omega) h3 h4 hd'
 have l4:=N1p t d ht _ (fun o=>rfl) t.Names 0
 rw [F0.nodes_eq] at hb h4
 unfold BB at hb h4
 rw [O3]
 simp only [F1c,G1c,Ym,Nx,ob,J1u,I1u t d ht]
 rw [wr (n:=o.nodes+1) (by omega) (by omega)]
 have fin:∀ b6 u1,fm6 t=b6→nm1 t=u1→
   Q3 t d ⟨o.nodes+1,max o.depth d,(((((o.badForm || !fm1 t) || !fm2 t) || !fm3 t) || !fm4 t) || !fm5 t) || !b6,o.badName || !na1 t,(o.badNumber || !u1) || !nm2 t⟩ 0
    = some (Zj o d t.nodes (t.depth - 1) (t.all Ua) (t.all Tk) (t.all Kp)):=by
  rintro _ _ rfl rfl
  have:=l4 ⟨o.nodes+1,max o.depth d,(((((o.badForm || !fm1 t) || !fm2 t) || !fm3 t) || !fm4 t) || !fm5 t) || !fm6 t,o.badName || !na1 t,(o.badNumber || !nm1 t) || !nm2 t⟩ rfl
  rw [show ((0:Nat):Int)=0 from rfl] at this h5
  rw [this,h5 _ (by simp only; omega) (by simp only; unfold BB; omega) (by simp only; omega)]
  simp only [Zj,F0.all_eq,F0.nodes_eq,F0.depth_eq,Ua,Tk,Kp,Jv,Bool.or_assoc,← Bool.not_and]
  simp only [Jv,Bool.and_assoc]
  rw [show o.nodes+1+(F0.nodess t.Of:Int)=o.nodes+((F0.nodess t.Of+1:Nat):Int) by omega,show max (max o.depth d) (d+(F0.depths t.Of:Int))=max o.depth (d+((F0.depths t.Of+1 - 1:Nat):Int)) by omega]
 have h2:(t.Kind == 2)=true∨(t.Kind == 2)=false:=by cases t.Kind == 2 <;> simp
 have h3:(t.Kind == 3)=true∨(t.Kind == 3)=false:=by cases t.Kind == 3 <;> simp
 rcases h2 with h2 | h2
 ·rw [if_pos h2]
  exact fin ((t.Of.length:Int) == 1) (U2 t.Size 1 32) (by unfold fm6; rw [h2,cond_true]) (by unfold nm1; rw [h2,cond_true])
 ·rw [if_neg (by rw [h2]; simp)]
  rcases h3 with h3 | h3
  ·rw [if_pos h3]
   exact fin (bif decide ((t.Of.length:Int)≥1) then (t.Of.length:Int) == (t.Names.length:Int) else false) (decide ((t.Of.length:Int)≤32)) (by unfold fm6; rw [h2,h3,cond_false,cond_true]) (by unfold nm1; rw [h2,h3,cond_false,cond_true])
  ·rw [if_neg (by rw [h3]; simp)]
   have:=fin ((t.Of.length:Int) == 0) true (by unfold fm6; rw [h2,h3,cond_false,cond_false]) (by unfold nm1; rw [h2,h3,cond_false,cond_false])
   rw [Bool.not_true,Bool.or_false] at this
   exact this
end Go.Proofs.YtbmlpamppbcdeaaGreatDoor

set_option linter.unusedSimpArgs false
namespace Go.Proofs.YtbmlpamppbcdeaaGreatDoor
open Go.Am
theorem S1j (t:F0)(ht:Ok t)(ih:∀ x∈t.Of,La x=some (x.nodes:Int)) :
  ∀ (r:List F0) (k:Nat) (n:Nat),t.Of.drop k=r→n+F0.nodess r≤BB→Lc t (n:Int) k=some ((n+F0.nodess r:Nat):Int)
 | [],k,n,h,hb=>by rw [Lc,(Z0 h).1,if_neg (by simp)]; simp [F0.nodess]
 | x::r,k,n,h,hb=>by
  obtain ⟨e1,e2,e3,e4,e5⟩:=P1 h
  have:=ht.ofs
  simp only [F0.nodess] at hb
  have hb':=hb
  unfold BB at hb'
  rw [Lc,e1,if_pos rfl,e2,ob,ih x e5,ob,wr (n:=(n:Int)+_) (by omega) (by omega),w1 (by omega),show (n:Int)+(x.nodes:Int)=((n+x.nodes:Nat):Int) by omega,S1j t ht ih r (k+1) _ e3 (by omega)]
  simp only [F0.nodess,Nat.add_assoc]
theorem O1p (t:F0):Ok t→La t=some (t.nodes:Int):=by
 induction t using F0.ind with
 | h t ih=>
 intro ht
 have hn:=ht.nodes
 rw [F0.nodes_eq] at hn
 rw [La]
 have:=S1j t ht (fun x hx=>ih x hx (ht.kid hx)) t.Of 0 1 rfl (by omega)
 rw [F0.nodes_eq,Nat.add_comm]
 exact this
theorem H1c (t:F0)(ht:Ok t)(ih:∀ x∈t.Of,Ma x=some (x.depth:Int))(B:Nat)(hB:B≤BB) :
  ∀ (r:List F0) (k:Nat) (n:Nat),t.Of.drop k=r→n≤B→F0.depths r≤B→F9 t (n:Int) k=some ((max n (F0.depths r)+1:Nat):Int)
 | [],k,n,h,hb,_=>by
  rw [F9,(Z0 h).1,if_neg (by simp),w1 (by omega)]
  simp [F0.depths]
 | x::r,k,n,h,hb,hd=>by
  obtain ⟨e1,e2,e3,e4,e5⟩:=P1 h
  have:=ht.ofs
  simp only [F0.depths] at hd
  rw [F9,e1,if_pos rfl,e2,ob,ih x e5,ob,w1 (by omega),H1c t ht ih B hB r (k+1) _ e3 (by omega) (by omega),H1c t ht ih B hB r (k+1) _ e3 (by omega) (by omega)]
  simp only [F0.depths]
  by_cases hx:(x.depth:Int) > (n:Int)
  ·rw [if_pos (decide_eq_true hx),show max n (max x.depth (F0.depths r))=max x.depth (F0.depths r) by omega]
  ·rw [if_neg (by simpa using hx),show max n (max x.depth (F0.depths r))=max n (F0.depths r) by omega]
theorem P1p (t:F0):Ok t→Ma t=some (t.depth:Int):=by
 induction t using F0.ind with
 | h t ih=>
 intro ht
 have hn:=ht.nodes
 have hd:=F0.depth_nodes t
 rw [Ma]
 rw [F0.depth_eq] at hd
 have:=H1c t ht (fun x hx=>ih x hx (ht.kid hx)) BB (Nat.le_refl _) t.Of 0 0 rfl (by omega) (by omega)
 rw [F0.depth_eq]
 rw [show max 0 (F0.depths t.Of)=F0.depths t.Of by omega] at this
 exact this
theorem T1l (t:F0)(ht:Ok t)(ih:∀ x∈t.Of,Sc x=some (x.all Ua)):∀ (r:List F0) (k:Nat),t.Of.drop k=r→We t k=some (F0.alls Ua r)
 | [],k,h=>by rw [We,(Z0 h).1,if_neg (by simp)]; rfl
 | x::r,k,h=>by
  obtain ⟨e1,e2,e3,e4,e5⟩:=P1 h
  have:=ht.ofs
  rw [We,e1,if_pos rfl,e2,ob,ih x e5,ob,w1 (by omega),T1l t ht ih r (k+1) e3,F0.alls]
  cases x.all Ua <;> simp
theorem T1r (t:F0):Ok t→Sc t=some (t.all Ua):=by
 induction t using F0.ind with
 | h t ih=>
 intro ht
 have h1:=T1l t ht (fun x hx=>ih x hx (ht.kid hx)) t.Of 0 rfl
 rw [show ((0:Nat):Int)=0 from rfl] at h1
 rw [Sc,h1,F0.all_eq,Q1r]
 show (if M1j t=true then some false else if N1j t=true then some false else if O1j t=true then some false else some (F0.alls Ua t.Of))=_
 cases M1j t <;> cases N1j t <;> cases O1j t <;> simp
theorem I1g (t:F0)(ht:Ok t)(ih:∀ x∈t.Of,Qa x=some (x.all Tk)):∀ (r:List F0) (k:Nat),t.Of.drop k=r→H9 t k=some (F0.alls Tk r)
 | [],k,h=>by rw [H9,(Z0 h).1,if_neg (by simp)]; rfl
 | x::r,k,h=>by
  obtain ⟨e1,e2,e3,e4,e5⟩:=P1 h
  have:=ht.ofs
  rw [H9,e1,if_pos rfl,e2,ob,ih x e5,ob,w1 (by omega),I1g t ht ih r (k+1) e3,F0.alls]
  cases x.all Tk <;> simp
theorem J1g (t:F0)(ht:Ok t)(b:Bool)(hb:H9 t 0=some b):∀ (r:List Str) (k:Nat),t.Names.drop k=r→Wc t k=some (r.all C3&&b)
 | [],k,h=>by rw [Wc,(Z0 h).1,if_neg (by simp),hb]; rfl
 | x::r,k,h=>by
  obtain ⟨e1,e2,e3,e4,e5⟩:=P1 h
  have:=ht.names
  rw [Wc,e1,if_pos rfl,e2,ob,Kj x (ht.name1 e5),ob,w1 (by omega),J1g t ht b hb r (k+1) e3,List.all_cons]
  cases C3 x <;> simp
theorem Q1p (t:F0):Ok t→Qa t=some (t.all Tk):=by
 induction t using F0.ind with
 | h t ih=>
 intro ht
 have h2:=I1g t ht (fun x hx=>ih x hx (ht.kid hx)) t.Of 0 rfl
 have h1:=J1g t ht _ h2 t.Names 0 rfl
 rw [show ((0:Nat):Int)=0 from rfl] at h1
 rw [Qa,h1,F0.all_eq,Kj t.Name ht.name]
 unfold Tk na1
 cases t.Kind == 4 <;> cases C3 t.Name <;> simp
theorem H1e (t:F0)(ht:Ok t)(ih:∀ x∈t.Of,H8 x=some (x.all fun t=>!Yt t)):∀ (r:List F0) (k:Nat),t.Of.drop k=r→V9 t k=some (F0.alls (fun t=>!Yt t) r)
 | [],k,h=>by rw [V9,(Z0 h).1,if_neg (by simp)]; rfl
 | x::r,k,h=>by
  obtain ⟨e1,e2,e3,e4,e5⟩:=P1 h
  have:=ht.ofs
  rw [V9,e1,if_pos rfl,e2,ob,ih x e5,ob,w1 (by omega),H1e t ht ih r (k+1) e3,F0.alls]
  cases x.all (fun t=>!Yt t) <;> simp
theorem B11 (n:Int):Kh n=some (Uk n):=rfl
theorem A1l (t:F0):Ok t→H8 t=some (t.all fun t=>!Yt t):=by
 induction t using F0.ind with
 | h t ih=>
 intro ht
 have h1:=H1e t ht (fun x hx=>ih x hx (ht.kid hx)) t.Of 0 rfl
 rw [show ((0:Nat):Int)=0 from rfl] at h1
 rw [H8,h1,F0.all_eq]
 simp only [B11]
 generalize F0.alls (fun t=>!Yt t) t.Of=A
 unfold Yt
 generalize decide ((t.Of.length:Int) > 32)=b1
 generalize (bif t.Kind == 2 then (bif decide (t.Size < 1) then true else decide (t.Size > 32)) else false)=b2
 generalize decide (t.Low > t.High)=b3
 cases t.Kind == 1 <;> cases Uk t.Low <;> cases Uk t.High <;> cases b1 <;> cases b2 <;> cases b3 <;> rfl
theorem B1l (s:Q0)(f m u:Bool):Dn s f m u=some (Xt s.nodes s.depth (!f) (!m) (!u)):=by
 unfold Dn Xt
 cases (bif decide (s.nodes > 1024) then true else decide (s.depth > 12)) <;> cases f <;> cases m <;> cases u <;> rfl
end Go.Proofs.YtbmlpamppbcdeaaGreatDoor

set_option linter.unusedSimpArgs false
set_option linter.unusedVariables false
namespace Go.Proofs.YtbmlpamppbcdeaaGreatDoor
open Go.Am
theorem A0.ind {P:A0→Prop}(h:∀ t:A0,(∀ x∈t.Kids,P x)→P t):∀ t,P t:=by
 intro t
 refine A0.rec (motive_1:=P) (motive_2:=fun l=>∀ x∈l,P x) ?_ ?_ ?_ t
 ·intro k l n of ih
  exact h _ ih
 ·intro x hx; cases hx
 ·intro x r hx hr y hy
  cases hy with
  | head=>exact hx
  | tail _ hy=>exact hr y hy
mutual
def A0.depth:A0→Nat
 | .mk _ _ _ of=>A0.depths of+1
def A0.depths:List A0→Nat
 | []=>0
 | t::r=>max (A0.depth t) (A0.depths r)
end
theorem A0.depth_eq (t:A0):t.depth=A0.depths t.Kids+1:=by cases t; simp [A0.depth,A0.Kids]
mutual
def A0.all (p:A0→Bool):A0→Bool
 | .mk k l n of=>p (.mk k l n of)&&A0.alls p of
def A0.alls (p:A0→Bool):List A0→Bool
 | []=>true
 | t::r=>A0.all p t&&A0.alls p r
end
theorem A0.all_eq (p:A0→Bool)(t:A0):t.all p=(p t&&A0.alls p t.Kids):=by cases t; rfl
mutual
def A0.nodes:A0→Nat
 | .mk _ _ _ of=>A0.nodess of+1
def A0.nodess:List A0→Nat
 | []=>0
 | t::r=>A0.nodes t+A0.nodess r
end
theorem A0.nodes_eq (t:A0):t.nodes=A0.nodess t.Kids+1:=by cases t; rfl
mutual
theorem A0.depth_nodes:∀ t:A0,t.depth≤t.nodes
 | .mk _ _ _ of=>by simp only [A0.depth,A0.nodes]; have:=A0.depths_nodess of; omega
theorem A0.depths_nodess:∀ l:List A0,A0.depths l≤A0.nodess l
 | []=>Nat.le_refl _
 | t::r=>by simp only [A0.depths,A0.nodess]; have:=A0.depth_nodes t; have:=A0.depths_nodess r; omega
end
mutual
def A0.bulk:A0→Nat
 | .mk _ _ n ks=>1+(1+((n.length+1)+((A0.bulks ks+1)+0)))+1
def A0.bulks:List A0→Nat
 | []=>0
 | x::r=>A0.bulk x+A0.bulks r
end
theorem A0.bulk_eq (t:A0):t.bulk=t.Name.length+A0.bulks t.Kids+5:=by cases t; simp only [A0.bulk]; omega
theorem A0.bulk_kid {t:A0}:∀ {l:List A0},t∈l→t.bulk≤A0.bulks l
 | x::r,h=>by
  simp only [A0.bulks]
  cases h with
  | head=>omega
  | tail _ h=>have:=A0.bulk_kid h; omega
theorem A0.bulk_len:∀ l:List A0,l.length≤A0.bulks l
 | []=>Nat.le_refl _
 | x::r=>by
  simp only [A0.bulks,List.length_cons]
  have:=A0.bulk_len r
  have:=A0.bulk_eq x
  omega
mutual
theorem A0.nodes_bulk:∀ t:A0,t.nodes≤t.bulk
 | .mk _ _ _ of=>by simp only [A0.nodes,A0.bulk]; have:=A0.nodess_bulk of; omega
theorem A0.nodess_bulk:∀ l:List A0,A0.nodess l≤A0.bulks l
 | []=>Nat.le_refl _
 | x::r=>by simp only [A0.nodess,A0.bulks]; have:=A0.nodes_bulk x; have:=A0.nodess_bulk r; omega
end
def OkE (t:A0):Prop:=t.bulk≤BB
theorem OkE.kid {t x:A0}(h:OkE t)(hx:x∈t.Kids):OkE x:=by
 unfold OkE at *
 have:=A0.bulk_kid hx
 have:=A0.bulk_eq t
 omega
theorem OkE.kids {t:A0}(h:OkE t):t.Kids.length≤BB:=by
 unfold OkE at *
 have:=A0.bulk_len t.Kids
 have:=A0.bulk_eq t
 omega
theorem OkE.name {t:A0}(h:OkE t):t.Name.length≤BB:=by
 unfold OkE at *
 have:=A0.bulk_eq t
 omega
theorem OkE.nodes {t:A0}(h:OkE t):t.nodes≤BB:=Nat.le_trans (A0.nodes_bulk t) h
def ar (o:Int):Int:=
 bif (bif (bif (bif (o == 0) then true else (o == 1)) then true else (o == 2)) then true else (o == 3)) then 0
 else bif (bif (bif (o == 4) then true else (o == 6)) then true else (o == 7)) then 1
 else bif (bif (o == 5) then true else (bif (decide (o≥8)) then (decide (o≤22)) else false)) then 2
 else bif (o == 23) then 3 else -1
theorem O1t (o:Int):Tr o=some (ar o):=by
 unfold Tr ar
 cases (bif (bif (bif (o == 0) then true else (o == 1)) then true else (o == 2)) then true else (o == 3)) <;> cases (bif (bif (o == 4) then true else (o == 6)) then true else (o == 7)) <;>
  cases (bif (o == 5) then true else (bif (decide (o≥8)) then (decide (o≤22)) else false)) <;> cases o == 23 <;> rfl
theorem U1r (o:Int):Jj o=some (ar o):=by
 by_cases h:o=23
 ·subst h; rfl
 have h':(o == 23)=false:=beq_eq_false_iff_ne.2 h
 simp only [Jj,N8,Ia,ar,h']
 cases o == 0 <;> cases o == 1 <;> cases o == 2 <;> cases o == 3 <;> first | rfl | skip
 cases o == 4 <;> cases o == 6 <;> cases o == 7 <;> first | rfl | skip
 cases o == 5 <;> cases (bif decide (o≥8) then decide (o≤22) else false) <;> rfl
mutual
def A0.place:A0→Bool
 | .mk op _ _ ks=>bif op == 3 then true else bif (bif op == 4 then true else op == 5) then A0.place1 ks else false
def A0.place1:List A0→Bool
 | []=>false
 | x::_=>A0.place x
end
theorem A0.place_eq (e:A0):e.place=(bif e.Op == 3 then true else bif (bif e.Op == 4 then true else e.Op == 5) then A0.place1 e.Kids else false):=by cases e; simp only [A0.place]
theorem b3 {o:Int}(h:(bif o == 4 then true else o == 5)=true):(o == 3)=false:=by
 apply beq_eq_false_iff_ne.2
 rintro rfl
 cases h
theorem K1g (e:A0):Dh e=some e.place:=by
 unfold Dh
 induction e using A0.ind with
 | h e ih=>
 rw [O8,A0.place_eq]
 cases hb:(bif e.Op == 4 then true else e.Op == 5) with
 | false=>cases e.Op == 3 <;> simp
 | true=>
  rw [b3 hb]
  cases hk:e.Kids with
  | nil=>rfl
  | cons k r=>
   have:=ih k (by rw [hk]; simp)
   have h0:idx (k::r) 0=some k:=rfl
   have h1:(((k::r).length:Int) == 0)=false:=beq_eq_false_iff_ne.2 (by simp only [List.length_cons]; omega)
   simp only [h1,h0,ob,this,cond_true,cond_false,A0.place1]
   simp
theorem L1g (e:A0):Df e=some e.place:=by
 induction e using A0.ind with
 | h e ih=>
 rw [Df,A0.place_eq]
 cases h3:e.Op == 3 with
 | true=>simp
 | false=>
  cases hb:(bif e.Op == 4 then true else e.Op == 5) with
  | false=>simp [ob]
  | true=>
   cases hk:e.Kids with
   | nil=>simp [ob,A0.place1]
   | cons k r=>
    have:=ih k (by rw [hk]; simp)
    have h0:idx (k::r) 0=some k:=rfl
    have h1:decide (((k::r).length:Int) > 0)=true:=decide_eq_true (by simp only [List.length_cons]; omega)
    simp only [h1,h0,ob,cond_true,cond_false,A0.place1]
    simp [ob,this]
def ef1 (e:A0):Bool:=ar e.Op == (e.Kids.length:Int)
def ef2 (e:A0):Bool:=bif e.NV == 0 then true else e.Op == 0
def ef3 (e:A0):Bool:=bif e.Name == [] then true else bif e.Op == 3 then true else e.Op == 4
def ef4 (e:A0):Bool:=bif (bif e.Op == 4 then true else e.Op == 5) then e.place else true
def B5 (e:A0):Bool:=ef1 e&&ef2 e&&ef3 e&&ef4 e
def A6 (e:A0):Bool:=bif (bif e.Op == 3 then true else e.Op == 4) then C3 e.Name else true
def B6 (e:A0):Bool:=bif e.Op == 0 then U2 e.NV 0 1048576 else true
theorem U1l (e:A0)(d:Int)(hd:0≤d)(ht:OkE e)
  (ih:∀ x∈e.Kids,∀ (d:Int) (o:J0),0≤d→d+x.nodes≤4 * BB→0≤o.nodes→o.nodes+x.nodes≤4 * BB→E2 x d o=some (Zj o d x.nodes (x.depth - 1) (x.all B5) (x.all A6) (x.all B6))) :
  ∀ (r:List A0) (k:Nat) (o:J0),e.Kids.drop k=r→d+1+A0.nodess r≤4 * BB→0≤o.nodes→o.nodes+A0.nodess r≤4 * BB→d≤o.depth→
   I3 e d o k=some (Zj o d (A0.nodess r) (A0.depths r) (A0.alls B5 r) (A0.alls A6 r) (A0.alls B6 r))
 | [],k,o,h,_,_,_,h5=>by
  rw [I3,(Z0 h).1]
  simp only [Zj,A0.nodess,A0.depths,A0.alls,Bool.not_true,Bool.or_false]
  rw [if_neg (by simp),show o.nodes+((0:Nat):Int)=o.nodes by omega,show max o.depth (d+((0:Nat):Int))=o.depth by omega]
 | x::r,k,o,h,hb,h3,h4,h5=>by
  obtain ⟨e1,e2,e3,e4,e5⟩:=P1 h
  simp only [A0.nodess] at hb h4
  have hdp:1≤x.depth:=by rw [A0.depth_eq]; omega
  have hof:=ht.kids
  unfold BB at hb h4 hof
  rw [I3,e1,if_pos rfl,e2,ob,wr (n:=d+1) (by omega) (by omega),ih x e5 (d+1) o (by omega) (by unfold BB; omega) h3 (by unfold BB; omega),ob,w1 (by unfold BB; omega),
   U1l e d hd ht ih r (k+1) _ e3 (by unfold BB; omega) (by simp only [Zj]; omega) (by simp only [Zj]; unfold BB; omega) (by simp only [Zj]; omega)]
  simp only [Zj,A0.nodess,A0.depths,A0.alls,Jv]
  rw [show o.nodes+(x.nodes:Int)+(A0.nodess r:Nat)=o.nodes+((x.nodes+A0.nodess r:Nat):Int) by omega,
   show max (max o.depth (d+1+((x.depth - 1:Nat):Int))) (d+(A0.depths r:Nat))=max o.depth (d+((max x.depth (A0.depths r):Nat):Int)) by omega]
theorem V1r (e:A0)(ht:OkE e)(d:Int)(o:J0):K6 e d o=I3 e d ⟨o.nodes,o.depth,o.badForm,o.badName || !A6 e,o.badNumber || !B6 e⟩ 0:=by
 rw [K6,D16 _ ht.name,ob]
 simp only [U8,V8,Ym,Nx,ob]
 unfold A6 B6
 cases (bif e.Op == 3 then true else e.Op == 4) <;> cases e.Op == 0 <;> simp
theorem W1r (e:A0):OkE e→∀ (d:Int) (o:J0),0≤d→d+e.nodes≤4 * BB→0≤o.nodes→o.nodes+e.nodes≤4 * BB→
  E2 e d o=some (Zj o d e.nodes (e.depth - 1) (e.all B5) (e.all A6) (e.all B6)):=by
 induction e using A0.ind with
 | h e ih=>
 intro ht d o hd hb h3 h4
 have h5:=fun o h3 h4 hd'=>U1l e d hd ht (fun x hx=>ih x hx (ht.kid hx)) e.Kids 0 o rfl (by rw [A0.nodes_eq] at hb; omega) h3 h4 hd'
 rw [A0.nodes_eq] at hb h4
 unfold BB at hb h4
 rw [E2]
 simp only [F1c,G1c,U1r,K1g,ob,V1r e ht]
 rw [wr (n:=o.nodes+1) (by omega) (by omega)]
 rw [show ((0:Nat):Int)=0 from rfl] at h5
 have fin:∀ f:Bool,ef4 e=f→I3 e d ⟨o.nodes+1,max o.depth d,(((o.badForm || !ef1 e) || !ef2 e) || !ef3 e) || !f,o.badName || !A6 e,o.badNumber || !B6 e⟩ 0=some (Zj o d e.nodes (e.depth - 1) (e.all B5) (e.all A6) (e.all B6)):=by
  rintro _ rfl
  rw [h5 _ (by simp only; omega) (by simp only; unfold BB; omega) (by simp only; omega)]
  simp only [Zj,A0.all_eq,A0.nodes_eq,A0.depth_eq,B5,Jv,Bool.or_assoc,← Bool.not_and]
  simp only [Jv,Bool.and_assoc]
  rw [show o.nodes+1+(A0.nodess e.Kids:Int)=o.nodes+((A0.nodess e.Kids+1:Nat):Int) by omega,show max (max o.depth d) (d+(A0.depths e.Kids:Int))=max o.depth (d+((A0.depths e.Kids+1 - 1:Nat):Int)) by omega]
 cases hb:(bif e.Op == 4 then true else e.Op == 5) with
 | true=>
  rw [if_pos rfl]
  exact fin e.place (by unfold ef4; rw [hb]; rfl)
 | false=>
  rw [if_neg (by simp)]
  have:=fin true (by unfold ef4; rw [hb]; rfl)
  rw [Bool.not_true,Bool.or_false] at this
  exact this
end Go.Proofs.YtbmlpamppbcdeaaGreatDoor

set_option linter.unusedSimpArgs false
set_option linter.unusedVariables false
namespace Go.Proofs.YtbmlpamppbcdeaaGreatDoor
open Go.Am
theorem M1g (t:A0)(ht:OkE t)(ih:∀ x∈t.Kids,Na x=some (x.nodes:Int)) :
  ∀ (r:List A0) (k:Nat) (n:Nat),t.Kids.drop k=r→n+A0.nodess r≤BB→Oc t (n:Int) k=some ((n+A0.nodess r:Nat):Int)
 | [],k,n,h,hb=>by rw [Oc,(Z0 h).1,if_neg (by simp)]; simp [A0.nodess]
 | x::r,k,n,h,hb=>by
  obtain ⟨e1,e2,e3,e4,e5⟩:=P1 h
  have:=ht.kids
  simp only [A0.nodess] at hb
  have hb':=hb
  unfold BB at hb'
  rw [Oc,e1,if_pos rfl,e2,ob,ih x e5,ob,wr (n:=(n:Int)+_) (by omega) (by omega),w1 (by omega),show (n:Int)+(x.nodes:Int)=((n+x.nodes:Nat):Int) by omega,M1g t ht ih r (k+1) _ e3 (by omega)]
  simp only [A0.nodess,Nat.add_assoc]
theorem J1n (t:A0):OkE t→Na t=some (t.nodes:Int):=by
 induction t using A0.ind with
 | h t ih=>
 intro ht
 have hn:=ht.nodes
 rw [A0.nodes_eq] at hn
 rw [Na]
 have:=M1g t ht (fun x hx=>ih x hx (ht.kid hx)) t.Kids 0 1 rfl (by omega)
 rw [A0.nodes_eq,Nat.add_comm]
 exact this
theorem X19 (t:A0)(ht:OkE t)(ih:∀ x∈t.Kids,Oa x=some (x.depth:Int))(B:Nat)(hB:B≤BB) :
  ∀ (r:List A0) (k:Nat) (n:Nat),t.Kids.drop k=r→n≤B→A0.depths r≤B→G9 t (n:Int) k=some ((max n (A0.depths r)+1:Nat):Int)
 | [],k,n,h,hb,_=>by
  rw [G9,(Z0 h).1,if_neg (by simp),w1 (by omega)]
  simp [A0.depths]
 | x::r,k,n,h,hb,hd=>by
  obtain ⟨e1,e2,e3,e4,e5⟩:=P1 h
  have:=ht.kids
  simp only [A0.depths] at hd
  rw [G9,e1,if_pos rfl,e2,ob,ih x e5,ob,w1 (by omega),X19 t ht ih B hB r (k+1) _ e3 (by omega) (by omega),X19 t ht ih B hB r (k+1) _ e3 (by omega) (by omega)]
  simp only [A0.depths]
  by_cases hx:(x.depth:Int) > (n:Int)
  ·rw [if_pos (decide_eq_true hx),show max n (max x.depth (A0.depths r))=max x.depth (A0.depths r) by omega]
  ·rw [if_neg (by simpa using hx),show max n (max x.depth (A0.depths r))=max n (A0.depths r) by omega]
theorem K1n (t:A0):OkE t→Oa t=some (t.depth:Int):=by
 induction t using A0.ind with
 | h t ih=>
 intro ht
 have hn:=ht.nodes
 have hd:=A0.depth_nodes t
 rw [Oa]
 rw [A0.depth_eq] at hd
 have:=X19 t ht (fun x hx=>ih x hx (ht.kid hx)) BB (Nat.le_refl _) t.Kids 0 0 rfl (by omega) (by omega)
 rw [A0.depth_eq]
 rw [show max 0 (A0.depths t.Kids)=A0.depths t.Kids by omega] at this
 exact this
theorem Kv (n:Int)(d:Int)(m:Int):E8 ⟨n,d⟩ m=some ⟨n,max d m⟩:=by
 unfold E8
 by_cases h:m > d
 ·rw [if_pos (decide_eq_true h),show max d m=m by omega]
 ·rw [if_neg (by simpa using h),show max d m=d by omega]
theorem T1j (e:A0)(ht:OkE e)(ih:∀ x∈e.Kids,L5 x=some (x.all B5)):∀ (r:List A0) (k:Nat),e.Kids.drop k=r→Xe e k=some (A0.alls B5 r)
 | [],k,h=>by rw [Xe,(Z0 h).1,if_neg (by simp)]; rfl
 | x::r,k,h=>by
  obtain ⟨e1,e2,e3,e4,e5⟩:=P1 h
  have:=ht.kids
  rw [Xe,e1,if_pos rfl,e2,ob,ih x e5,ob,w1 (by omega),T1j e ht ih r (k+1) e3,A0.alls]
  cases x.all B5 <;> simp
theorem C11 (e:A0):OkE e→L5 e=some (e.all B5):=by
 induction e using A0.ind with
 | h e ih=>
 intro ht
 have h1:=T1j e ht (fun x hx=>ih x hx (ht.kid hx)) e.Kids 0 rfl
 rw [show ((0:Nat):Int)=0 from rfl] at h1
 rw [L5,h1,A0.all_eq,L1g,O1t,ob]
 generalize A0.alls B5 e.Kids=A
 have hb:(bif (bif (ar e.Op != (e.Kids.length:Int)) then true else (bif (e.Op != 0) then (e.NV != 0) else false)) then true else (bif (bif (e.Op != 3) then (e.Op != 4) else false) then (!(e.Name == [])) else false)) = !(ef1 e&&ef2 e&&ef3 e):=by
  unfold ef1 ef2 ef3
  simp only [bne]
  cases ar e.Op == (e.Kids.length:Int) <;> cases e.NV == 0 <;> cases e.Op == 0 <;> cases e.Name == [] <;> cases e.Op == 3 <;> cases e.Op == 4 <;> rfl
 rw [hb]
 unfold B5 ef4
 cases (ef1 e&&ef2 e&&ef3 e) <;> cases (bif e.Op == 4 then true else e.Op == 5) <;> cases e.place <;> simp [ob]
theorem N1g (e:A0)(ht:OkE e)(ih:∀ x∈e.Kids,X4 x=some (x.all A6)):∀ (r:List A0) (k:Nat),e.Kids.drop k=r→Xc e k=some (A0.alls A6 r)
 | [],k,h=>by rw [Xc,(Z0 h).1,if_neg (by simp)]; rfl
 | x::r,k,h=>by
  obtain ⟨e1,e2,e3,e4,e5⟩:=P1 h
  have:=ht.kids
  rw [Xc,e1,if_pos rfl,e2,ob,ih x e5,ob,w1 (by omega),N1g e ht ih r (k+1) e3,A0.alls]
  cases x.all A6 <;> simp
theorem Ox (e:A0):OkE e→X4 e=some (e.all A6):=by
 induction e using A0.ind with
 | h e ih=>
 intro ht
 have h1:=N1g e ht (fun x hx=>ih x hx (ht.kid hx)) e.Kids 0 rfl
 rw [show ((0:Nat):Int)=0 from rfl] at h1
 rw [X4,h1,A0.all_eq,Kj e.Name ht.name]
 generalize A0.alls A6 e.Kids=A
 unfold A6
 cases (bif e.Op == 3 then true else e.Op == 4) <;> cases C3 e.Name <;> simp [ob]
theorem J1b (e:A0)(ht:OkE e)(ih:∀ x∈e.Kids,P3 x=some (x.all B6)):∀ (r:List A0) (k:Nat),e.Kids.drop k=r→W9 e k=some (A0.alls B6 r)
 | [],k,h=>by rw [W9,(Z0 h).1,if_neg (by simp)]; rfl
 | x::r,k,h=>by
  obtain ⟨e1,e2,e3,e4,e5⟩:=P1 h
  have:=ht.kids
  rw [W9,e1,if_pos rfl,e2,ob,ih x e5,ob,w1 (by omega),J1b e ht ih r (k+1) e3,A0.alls]
  cases x.all B6 <;> simp
theorem Ds (e:A0):OkE e→P3 e=some (e.all B6):=by
 induction e using A0.ind with
 | h e ih=>
 intro ht
 have h1:=J1b e ht (fun x hx=>ih x hx (ht.kid hx)) e.Kids 0 rfl
 rw [show ((0:Nat):Int)=0 from rfl] at h1
 rw [P3,h1,A0.all_eq]
 have:B6 e = !(bif (e.Op == 0) then (bif (decide (e.NV < 0)) then true else (decide (e.NV > 1048576))) else false):=by
  unfold B6 U2
  rw [B16,C16]
  cases e.Op == 0 <;> cases decide (e.NV≥0) <;> cases decide (e.NV≤1048576) <;> rfl
 rw [this]
 cases (bif (e.Op == 0) then (bif (decide (e.NV < 0)) then true else (decide (e.NV > 1048576))) else false) <;> simp
theorem V1l (e:A0)(ht:OkE e)(ih:∀ x∈e.Kids,∀ n,∃ m,L6 x n=some m):∀ (r:List A0) (k:Nat) (n:Int),e.Kids.drop k=r→∃ m,Se e n k=some m
 | [],k,n,h=>by rw [Se,(Z0 h).1]; exact ⟨_,rfl⟩
 | x::r,k,n,h=>by
  obtain ⟨e1,e2,e3,e4,e5⟩:=P1 h
  have:=ht.kids
  rw [Se,e1,e2]
  cases decide (n≥0) with
  | false=>exact ⟨_,rfl⟩
  | true=>
   obtain ⟨m,hm⟩:=ih x e5 n
   rw [cond_true,if_pos rfl,ob,hm,ob,w1 (by omega)]
   exact V1l e ht ih r (k+1) m e3
theorem Px (e:A0):OkE e→∀ n,∃ m,L6 e n=some m:=by
 induction e using A0.ind with
 | h e ih=>
 intro ht n
 rw [L6]
 exact V1l e ht (fun x hx=>ih x hx (ht.kid hx)) e.Kids 0 _ rfl
theorem I1c (t:F0)(ht:Ok t)(ih:∀ x∈t.Of,∀ n,∃ m,T9 x n=some m):∀ (r:List F0) (k:Nat) (n:Int),t.Of.drop k=r→∃ m,Re t n k=some m
 | [],k,n,h=>by rw [Re,(Z0 h).1]; exact ⟨_,rfl⟩
 | x::r,k,n,h=>by
  obtain ⟨e1,e2,e3,e4,e5⟩:=P1 h
  have:=ht.ofs
  rw [Re,e1,e2]
  cases decide (n≥0) with
  | false=>exact ⟨_,rfl⟩
  | true=>
   obtain ⟨m,hm⟩:=ih x e5 n
   rw [cond_true,if_pos rfl,ob,hm,ob,w1 (by omega)]
   exact I1c t ht ih r (k+1) m e3
theorem U1j (t:F0)(ht:Ok t)(ih:∀ x∈t.Of,∀ n,∃ m,T9 x n=some m):∀ (r:List Str) (k:Nat) (n:Int),t.Names.drop k=r→∃ m,Qe t n k=some m
 | [],k,n,h=>by rw [Qe,(Z0 h).1]; exact I1c t ht ih t.Of 0 n rfl
 | x::r,k,n,h=>by
  obtain ⟨e1,e2,e3,e4,e5⟩:=P1 h
  have:=ht.names
  rw [Qe,e1,e2]
  cases decide (n≥0) with
  | false=>exact I1c t ht ih t.Of 0 n rfl
  | true=>
   rw [cond_true,if_pos rfl,ob,w1 (by omega)]
   exact U1j t ht ih r (k+1) _ e3
theorem L1n (t:F0):Ok t→∀ n,∃ m,T9 t n=some m:=by
 induction t using F0.ind with
 | h t ih=>
 intro ht n
 rw [T9]
 exact U1j t ht (fun x hx=>ih x hx (ht.kid hx)) t.Names 0 _ rfl
end Go.Proofs.YtbmlpamppbcdeaaGreatDoor

set_option linter.unusedSimpArgs false
set_option linter.unusedVariables false
namespace Go.Proofs.YtbmlpamppbcdeaaGreatDoor
open Go.Am
end Go.Proofs.YtbmlpamppbcdeaaGreatDoor

set_option linter.unusedSimpArgs false
set_option linter.unusedVariables false
namespace Go.Proofs.YtbmlpamppbcdeaaGreatDoor
open Go.Am
end Go.Proofs.YtbmlpamppbcdeaaGreatDoor

set_option linter.unusedSimpArgs false
set_option linter.unusedVariables false
set_option maxHeartbeats 800000
namespace Go.Proofs.YtbmlpamppbcdeaaGreatDoor
open Go.Am
end Go.Proofs.YtbmlpamppbcdeaaGreatDoor

set_option linter.unusedSimpArgs false
set_option linter.unusedVariables false
namespace Go.Proofs.YtbmlpamppbcdeaaGreatDoor
open Go.Am
theorem E16 {α:Type}{l:List α}{k:Nat}(h:k < l.length):∃ y,idx l (k:Int)=some y∧l.drop k=y::l.drop (k+1)∧y∈l:=by
 refine ⟨l[k],?_,List.drop_eq_getElem_cons h,List.getElem_mem h⟩
 unfold idx
 rw [if_pos (by omega)]
 simp [h]
theorem z0:(0:Int)=((0:Nat):Int):=rfl
theorem Lo {α:Type}{p:α→α→Bool}:∀ l:List α,(∀ x∈l,p x x=true)→eqL p l l=true
 | [],_=>rfl
 | x::r,h=>by rw [eqL,h x List.mem_cons_self,Lo r fun y hy=>h y (List.mem_cons_of_mem _ hy)]; rfl
theorem O1g (t u:F0)(ht:Ok t)(hl:t.Of.length=u.Of.length)(ih:∀ x∈t.Of,∀ y,P8 x y=some (x.same y)) :
  ∀ (r:List F0) (k:Nat),t.Of.drop k=r→E9 t u k=some (eqL F0.same r (u.Of.drop k))
 | [],k,h=>by
  rw [E9,(Z0 h).1,if_neg (by simp),List.drop_eq_nil_of_le (by have:=(Z0 h).2; omega)]; rfl
 | x::r,k,h=>by
  obtain ⟨e1,e2,e3,e4,e5⟩:=P1 h
  obtain ⟨y,f1,f2,f3⟩:=E16 (l:=u.Of) (k:=k) (by omega)
  have:=ht.ofs
  rw [E9,e1,if_pos rfl,e2,ob,f1,ob,ih x e5 y,ob,w1 (by omega),O1g t u ht hl ih r (k+1) e3,f2,eqL]
  cases x.same y <;> simp
theorem P1g (t u:F0)(ht:Ok t)(hl:t.Names.length=u.Names.length)(b:Bool)(hb:E9 t u 0=some b) :
  ∀ (r:List Str) (k:Nat),t.Names.drop k=r→Kc t u k=some (eqL (fun x y=>x == y) r (u.Names.drop k)&&b)
 | [],k,h=>by
  rw [Kc,(Z0 h).1,if_neg (by simp),List.drop_eq_nil_of_le (by have:=(Z0 h).2; omega),hb]; rfl
 | x::r,k,h=>by
  obtain ⟨e1,e2,e3,e4,e5⟩:=P1 h
  obtain ⟨y,f1,f2,f3⟩:=E16 (l:=u.Names) (k:=k) (by omega)
  have:=ht.names
  rw [Kc,e1,if_pos rfl,e2,ob,f1,ob,w1 (by omega),P1g t u ht hl b hb r (k+1) e3,f2,eqL]
  cases x == y <;> simp
theorem Q1g (t:F0):Ok t→∀ u,P8 t u=some (t.same u):=by
 induction t using F0.ind with
 | h t ih=>
 intro ht u
 have ih':=fun x hx=>ih x hx (ht.kid hx)
 rw [P8]
 show (if P1f t u=true then _ else _)=_
 cases hd:P1f t u with
 | true=>rw [if_pos rfl,L1p hd]
 | false=>
  obtain ⟨h1,h2,h3⟩:=R1r hd
  have h4:=O1g t u ht h3 ih' t.Of 0 rfl
  have h5:=P1g t u ht h2 _ h4 t.Names 0 rfl
  rw [if_neg (by simp),z0,h5,h1]
  rfl
theorem R1p (t:F0):t.same t=true:=by
 induction t using F0.ind with
 | h t ih=>
 rw [F0.same_eq,Lo t.Names (fun x _=>by simp),Lo t.Of ih]
 simp
theorem V1j (s u:List Str)(hs:s.length≤BB)(hl:s.length=u.length):∀ (r:List Str) (k:Nat),s.drop k=r→W1 s u k=some (eqL (fun x y=>x == y) r (u.drop k))
 | [],k,h=>by
  rw [W1,(Z0 h).1,if_neg (by simp),List.drop_eq_nil_of_le (by have:=(Z0 h).2; omega)]; rfl
 | x::r,k,h=>by
  obtain ⟨e1,e2,e3,e4,e5⟩:=P1 h
  obtain ⟨y,f1,f2,f3⟩:=E16 (l:=u) (k:=k) (by omega)
  rw [W1,e1,if_pos rfl,e2,ob,f1,ob,w1 (by omega),V1j s u hs hl r (k+1) e3,f2,eqL]
  cases x == y <;> simp
theorem S1p (s u:List Str)(hs:s.length≤BB):G4 s u=some (eqL (fun x y=>x == y) s u):=by
 unfold G4
 by_cases hl:s.length=u.length
 ·rw [if_neg (by simp; omega),z0,V1j s u hs hl s 0 rfl]; rfl
 ·rw [if_pos (by simp; omega),Km _ hl]
theorem W1j (s u:List F0)(hs:s.length≤BB)(hl:s.length=u.length)(ih:∀ x∈s,∀ y,Y4 x y=some (x.same y)) :
  ∀ (r:List F0) (k:Nat),s.drop k=r→A1 s u k=some (eqL F0.same r (u.drop k))
 | [],k,h=>by
  rw [A1,(Z0 h).1,if_neg (by simp),List.drop_eq_nil_of_le (by have:=(Z0 h).2; omega)]; rfl
 | x::r,k,h=>by
  obtain ⟨e1,e2,e3,e4,e5⟩:=P1 h
  obtain ⟨y,f1,f2,f3⟩:=E16 (l:=u) (k:=k) (by omega)
  rw [A1,e1,if_pos rfl,e2,ob,f1,ob,ih x e5 y,ob,w1 (by omega),W1j s u hs hl ih r (k+1) e3,f2,eqL]
  cases x.same y <;> simp
theorem M1n (t:F0):Ok t→∀ u,Y4 t u=some (t.same u):=by
 induction t using F0.ind with
 | h t ih=>
 intro ht u
 have ih':=fun x hx=>ih x hx (ht.kid hx)
 have hO:R1 t.Of u.Of=some (eqL F0.same t.Of u.Of):=by
  rw [R1]
  by_cases hl:t.Of.length=u.Of.length
  ·rw [if_neg (by simp; omega),z0,W1j t.Of u.Of ht.ofs hl ih' t.Of 0 rfl]; rfl
  ·rw [if_pos (by simp; omega),Km _ hl]
 rw [Y4,hO,S1p _ _ ht.names,F0.same_eq]
 generalize eqL F0.same t.Of u.Of=a
 generalize eqL (fun x y=>x == y) t.Names u.Names=b
 cases t.Kind == u.Kind <;> cases t.Low == u.Low <;> cases t.High == u.High <;> cases t.Size == u.Size <;> cases t.Name == u.Name <;> cases b <;> cases a <;> rfl
mutual
def A0.same:A0→A0→Bool
 | .mk o n nm ks,t=>o == t.Op&&n == t.NV&&nm == t.Name&&A0.sames ks t.Kids
def A0.sames:List A0→List A0→Bool
 | [],[]=>true
 | x::r,y::s=>A0.same x y&&A0.sames r s
 | [],_::_=>false
 | _::_,[]=>false
end
theorem A0.sames_eq:∀ l m:List A0,A0.sames l m=eqL A0.same l m
 | [],[]=>rfl
 | x::r,y::s=>by simp only [A0.sames,eqL,A0.sames_eq r s]
 | [],_::_=>rfl
 | _::_,[]=>rfl
theorem A0.same_eq (t u:A0):t.same u=(t.Op == u.Op&&t.NV == u.NV&&t.Name == u.Name&&eqL A0.same t.Kids u.Kids):=by
 rw [← A0.sames_eq]
 cases t
 rfl
theorem T1p (s u:List A0)(hs:s.length≤BB)(hl:s.length=u.length)(ih:∀ x∈s,∀ y,H4 x y=some (x.same y)) :
  ∀ (r:List A0) (k:Nat),s.drop k=r→B1 s u k=some (eqL A0.same r (u.drop k))
 | [],k,h=>by
  rw [B1,(Z0 h).1,if_neg (by simp),List.drop_eq_nil_of_le (by have:=(Z0 h).2; omega)]; rfl
 | x::r,k,h=>by
  obtain ⟨e1,e2,e3,e4,e5⟩:=P1 h
  obtain ⟨y,f1,f2,f3⟩:=E16 (l:=u) (k:=k) (by omega)
  rw [B1,e1,if_pos rfl,e2,ob,f1,ob,ih x e5 y,ob,w1 (by omega),T1p s u hs hl ih r (k+1) e3,f2,eqL]
  cases x.same y <;> simp
theorem X1r (s u:List A0)(hs:s.length≤BB)(ih:∀ x∈s,∀ y,H4 x y=some (x.same y)):T1 s u=some (eqL A0.same s u):=by
 rw [T1]
 by_cases hl:s.length=u.length
 ·rw [if_neg (by simp; omega),z0,T1p s u hs hl ih s 0 rfl]; rfl
 ·rw [if_pos (by simp; omega),Km _ hl]
theorem N1n (t:A0):OkE t→∀ u,H4 t u=some (t.same u):=by
 induction t using A0.ind with
 | h t ih=>
 intro ht u
 rw [H4,X1r t.Kids u.Kids ht.kids (fun x hx=>ih x hx (ht.kid hx)),A0.same_eq]
 generalize eqL A0.same t.Kids u.Kids=a
 cases t.Op == u.Op <;> cases t.NV == u.NV <;> cases t.Name == u.Name <;> cases a <;> rfl
theorem U1p (t u:A0)(ht:OkE t)(hl:t.Kids.length=u.Kids.length)(ih:∀ x∈t.Kids,∀ y,W4 x y=some (x.same y)) :
  ∀ (r:List A0) (k:Nat),t.Kids.drop k=r→Mc t u k=some (eqL A0.same r (u.Kids.drop k))
 | [],k,h=>by
  rw [Mc,(Z0 h).1,if_neg (by simp),List.drop_eq_nil_of_le (by have:=(Z0 h).2; omega)]; rfl
 | x::r,k,h=>by
  obtain ⟨e1,e2,e3,e4,e5⟩:=P1 h
  obtain ⟨y,f1,f2,f3⟩:=E16 (l:=u.Kids) (k:=k) (by omega)
  have:=ht.kids
  rw [Mc,e1,if_pos rfl,e2,ob,f1,ob,ih x e5 y,ob,w1 (by omega),U1p t u ht hl ih r (k+1) e3,f2,eqL]
  cases x.same y <;> simp
theorem Es (t:A0):OkE t→∀ u,W4 t u=some (t.same u):=by
 induction t using A0.ind with
 | h t ih=>
 intro ht u
 have ih':=fun x hx=>ih x hx (ht.kid hx)
 rw [W4,A0.same_eq]
 by_cases hl:t.Kids.length=u.Kids.length
 ·have h4:=U1p t u ht hl ih' t.Kids 0 rfl
  have hb:(bif (bif (bif (t.Op != u.Op) then true else (t.NV != u.NV)) then true else (!(t.Name == u.Name))) then true else ((t.Kids.length:Int) != (u.Kids.length:Int))) = !(t.Op == u.Op&&t.NV == u.NV&&t.Name == u.Name):=by
   have:((t.Kids.length:Int) != (u.Kids.length:Int))=false:=by simp; omega
   rw [this]
   unfold bne
   cases t.Op == u.Op <;> cases t.NV == u.NV <;> cases t.Name == u.Name <;> rfl
  rw [hb,z0,h4]
  cases (t.Op == u.Op&&t.NV == u.NV&&t.Name == u.Name) <;> simp
 ·have:((t.Kids.length:Int) != (u.Kids.length:Int))=true:=by simp; omega
  rw [this,Km _ hl,Bool.and_false]
  generalize (bif (bif (t.Op != u.Op) then true else (t.NV != u.NV)) then true else (!(t.Name == u.Name)))=b
  cases b <;> rfl
theorem Qx (t:A0):t.same t=true:=by
 induction t using A0.ind with
 | h t ih=>
 rw [A0.same_eq,Lo t.Kids ih]
 simp
def Fi (e:A0):Bool:=e.same ⟨0,0,[],[]⟩
def Vo (t:F0):Bool:=t.same ⟨0,0,0,0,[],[],[]⟩
theorem D11 (e:A0)(h:OkE e):Nc e=some (Fi e):=by unfold Nc; rw [Es e h]; rfl
theorem V1p (t:F0)(h:Ok t):Dm t=some (Vo t):=by unfold Dm; rw [Q1g t h]; rfl
theorem J1c {e:A0}(h:Fi e=true):e=⟨0,0,[],[]⟩:=by
 unfold Fi at h
 rw [A0.same_eq] at h
 obtain ⟨o,n,nm,ks⟩:=e
 simp only [Bool.and_eq_true,beq_iff_eq] at h
 obtain ⟨⟨⟨rfl,rfl⟩,rfl⟩,h4⟩:=h
 cases ks with
 | nil=>rfl
 | cons x r=>cases h4
theorem Y1r {t:F0}(h:Vo t=true):t=⟨0,0,0,0,[],[],[]⟩:=by
 unfold Vo at h
 rw [F0.same_eq] at h
 obtain ⟨a,b,c,d,nm,ns,ks⟩:=t
 simp only [Bool.and_eq_true,beq_iff_eq] at h
 obtain ⟨⟨⟨⟨⟨⟨rfl,rfl⟩,rfl⟩,rfl⟩,rfl⟩,h5⟩,h4⟩:=h
 cases ks with
 | nil=>
  cases ns with
  | nil=>rfl
  | cons x r=>cases h5
 | cons x r=>cases h4
end Go.Proofs.YtbmlpamppbcdeaaGreatDoor

namespace Go.Proofs.YtbmlpamppbcdeaaGreatDoor
open Go.Am
mutual
def C0.bulk:C0→Nat
 | .mk y0 y1 y2 y3 y4 y5 y6 y7 y8 y9 y10=>1+(A0.bulk y1+(A0.bulk y2+((y3.length+1)+((A0.bulks y4+1)+(1+(1+(1+(((y8.map fun _=>1).sum+1)+((C0.bulks y9+1)+((C0.bulks y10+1)+(0)))))))))))+1
def C0.bulks:List C0→Nat
 | []=>0
 | x::r=>C0.bulk x+C0.bulks r
end
mutual
def D0.bulk:D0→Nat
 | .mk y0 y1 y2 y3 y4 y5 y6 y7=>1+((y1.length+1)+(F0.bulk y2+(1+(A0.bulk y4+((D0.bulks y5+1)+((D0.bulks y6+1)+((C0.bulks y7+1)+(0))))))))+1
def D0.bulks:List D0→Nat
 | []=>0
 | x::r=>D0.bulk x+D0.bulks r
end
mutual
def O0.bulk:O0→Nat
 | .mk y0 y1=>(D0.bulks y0+1)+((C0.bulks y1+1)+(0))+1
def O0.bulks:List O0→Nat
 | []=>0
 | x::r=>O0.bulk x+O0.bulks r
end
end Go.Proofs.YtbmlpamppbcdeaaGreatDoor

set_option linter.unusedSimpArgs false
set_option linter.unusedVariables false
set_option maxHeartbeats 1000000
namespace Go.Proofs.YtbmlpamppbcdeaaGreatDoor
open Go.Am
def uPl (v:Int):Bool:=bif (bif (v == 0) then true else (v == 1)) then true else (v == 2)
def uVa (v:Int):Bool:=bif (bif (bif (v == 0) then true else (v == 3)) then true else (v == 5)) then true else (v == 6)
def uNm (v:Int):Bool:=bif (bif (v == 1) then true else (v == 2)) then true else (v == 7)
def uNn (v:Int):Bool:=bif (v == 4) then true else (v == 6)
def uTh (v:Int):Bool:=bif (bif (v == 5) then true else (v == 6)) then true else (v == 7)
def okV (v:Int):Bool:=!(bif decide (v < 0) then true else decide (v > 8))
def stU (v:Int):I1×Bool:=(⟨uPl v,uVa v,uNm v,v == 1,uNn v,v == 7,v == 8,uTh v,v == 5⟩,okV v)
theorem Uz (v:Int):J7 v=some (stU v):=by
 have h:(v < 0∨8 < v)∨v=0∨v=1∨v=2∨v=3∨v=4∨v=5∨v=6∨v=7∨v=8:=by omega
 rcases h with h | rfl | rfl | rfl | rfl | rfl | rfl | rfl | rfl | rfl
 ·have f:∀ k:Int,0≤k∧k≤8→(v == k)=false:=fun k hk=>beq_eq_false_iff_ne.2 (by omega)
  have hv:okV v=false:=by
   unfold okV
   rcases h with h | h
   ·rw [decide_eq_true h]; rfl
   ·rw [decide_eq_true (show v > 8 from h)]; cases decide (v < 0) <;> rfl
  unfold J7 stU uPl uVa uNm uNn uTh
  rw [hv]
  simp only [f 0 (by decide),f 1 (by decide),f 2 (by decide),f 3 (by decide),f 4 (by decide),f 5 (by decide),f 6 (by decide),f 7 (by decide),f 8 (by decide)]
  rfl
 all_goals rfl
def oN (e:A0)(u:Bool):Nat:=bif (bif !u then Fi e else false) then 0 else e.nodes
def oD (e:A0)(u:Bool):Nat:=bif (bif !u then Fi e else false) then 0 else e.depth
def oF (e:A0)(u:Bool):Bool:=bif u then e.all B5 else Fi e
theorem O1n (e:A0)(u:Bool):oN e u≤e.bulk:=by
 unfold oN
 have:=A0.nodes_bulk e
 cases (bif !u then Fi e else false) <;> simp <;> omega
def Fs:Int→List Int→Bool
 | _,[]=>true
 | l,n::r=>(bif U2 n 0 1048576 then decide (n > l) else false)&&Fs n r
def Hn (s:C0):Bool:=
 bif s.Verb == 4 then U2 s.NV 0 1048576 else bif s.Verb == 6 then U2 s.NV 0 4096
 else bif s.Verb == 7 then (bif (bif U2 s.Low (-1048576) 1048576 then U2 s.High s.Low 1048576 else false) then decide (s.High - s.Low < 4096) else false)
 else bif s.Verb == 8 then U2 (s.Numbers.length:Int) 1 32&&Fs (-1) s.Numbers else true
def T8 (s:C0):Bool:=
 okV s.Verb&&oF s.Place (uPl s.Verb)&&(bif uPl s.Verb then s.Place.place else true)&&oF s.Value (uVa s.Verb)&&(bif uNm s.Verb then true else s.Name == [])&&(bif s.Verb == 1 then true else ((s.Args.length:Int) == 0))&&A0.alls B5 s.Args
 && (bif uNn s.Verb then true else s.NV == 0)&&(bif s.Verb == 7 then true else (bif s.Low == 0 then s.High == 0 else false))&&(bif s.Verb == 8 then true else ((s.Numbers.length:Int) == 0))
 && (bif uTh s.Verb then true else ((s.Then.length:Int) == 0))&&(bif s.Verb == 5 then true else ((s.Else.length:Int) == 0))
def Xb (s:C0):Bool:=s.Place.all A6&&s.Value.all A6&&(bif uNm s.Verb then C3 s.Name else true)&&A0.alls A6 s.Args
def Wa (s:C0):Bool:=s.Place.all B6&&s.Value.all B6&&A0.alls B6 s.Args&&Hn s
mutual
def C0.nds:C0→Nat
 | .mk v pl va nm ar n lo hi ns th el=>1+(oN pl (uPl v)+(oN va (uVa v)+(A0.nodess ar+(C0.ndss th+C0.ndss el))))
def C0.ndss:List C0→Nat
 | []=>0
 | x::r=>C0.nds x+C0.ndss r
end
mutual
def C0.dps:C0→Nat→Nat
 | .mk v pl va nm ar n lo hi ns th el,d=>max d (max (oD pl (uPl v)) (max (oD va (uVa v)) (max (A0.depths ar) (max (C0.dpss th (d+1)) (C0.dpss el (d+1))))))
def C0.dpss:List C0→Nat→Nat
 | [],_=>0
 | x::r,d=>max (C0.dps x d) (C0.dpss r d)
end
mutual
def C0.all (p:C0→Bool):C0→Bool
 | .mk v pl va nm ar n lo hi ns th el=>p (.mk v pl va nm ar n lo hi ns th el)&&(C0.alls p th&&C0.alls p el)
def C0.alls (p:C0→Bool):List C0→Bool
 | []=>true
 | x::r=>C0.all p x&&C0.alls p r
end
theorem C0.nds_eq (s:C0):s.nds=1+(oN s.Place (uPl s.Verb)+(oN s.Value (uVa s.Verb)+(A0.nodess s.Args+(C0.ndss s.Then+C0.ndss s.Else)))):=by cases s; simp only [C0.nds]
theorem C0.dps_eq (s:C0)(d:Nat):s.dps d=max d (max (oD s.Place (uPl s.Verb)) (max (oD s.Value (uVa s.Verb)) (max (A0.depths s.Args) (max (C0.dpss s.Then (d+1)) (C0.dpss s.Else (d+1)))))):=by cases s; simp only [C0.dps]
theorem C0.all_eq (p:C0→Bool)(s:C0):s.all p=(p s&&(C0.alls p s.Then&&C0.alls p s.Else)):=by cases s; simp only [C0.all]
theorem C0.ind {P:C0→Prop}(h:∀ s:C0,(∀ x∈s.Then,P x)→(∀ x∈s.Else,P x)→P s):∀ s,P s:=by
 intro s
 refine C0.rec (motive_1:=P) (motive_2:=fun l=>∀ x∈l,P x) ?_ ?_ ?_ s
 ·intro v pl va nm ar n lo hi ns th el i1 i2
  exact h _ i1 i2
 ·intro x hx; cases hx
 ·intro x r hx hr y hy
  cases hy with
  | head=>exact hx
  | tail _ hy=>exact hr y hy
theorem C0.inds {Q:List C0→Prop}(h:∀ l:List C0,(∀ x∈l,Q x.Then∧Q x.Else)→Q l):∀ l,Q l:=by
 have key:∀ s:C0,Q s.Then∧Q s.Else:=fun s=>by
  induction s using C0.ind with
  | h s i1 i2=>exact ⟨h _ i1,h _ i2⟩
 exact fun l=>h l fun x _=>key x
theorem C0.bulk_eq (s:C0):s.bulk=s.Place.bulk+s.Value.bulk+s.Name.length+A0.bulks s.Args+(s.Numbers.map fun _=>1).sum+C0.bulks s.Then+C0.bulks s.Else+10:=by
 cases s; simp only [C0.bulk]; omega
theorem X1j:∀ l:List Int,(l.map fun _=>1).sum=l.length
 | []=>rfl
 | x::r=>by simp only [List.map_cons,List.sum_cons,List.length_cons,X1j r]; omega
theorem C0.bulk_mem {s:C0}:∀ {l:List C0},s∈l→s.bulk≤C0.bulks l
 | x::r,h=>by
  simp only [C0.bulks]
  cases h with
  | head=>omega
  | tail _ h=>have:=C0.bulk_mem h; omega
theorem C0.bulk_len:∀ l:List C0,l.length≤C0.bulks l
 | []=>Nat.le_refl _
 | x::r=>by
  simp only [C0.bulks,List.length_cons]
  have:=C0.bulk_len r
  have:=C0.bulk_eq x
  omega
mutual
theorem C0.nds_bulk:∀ s:C0,s.nds≤s.bulk
 | .mk v pl va nm ar n lo hi ns th el=>by
  have:=O1n pl (uPl v)
  have:=O1n va (uVa v)
  have:=A0.nodess_bulk ar
  have:=C0.ndss_bulk th
  have:=C0.ndss_bulk el
  simp only [C0.nds,C0.bulk]; omega
theorem C0.ndss_bulk:∀ l:List C0,C0.ndss l≤C0.bulks l
 | []=>Nat.le_refl _
 | x::r=>by
  have:=C0.nds_bulk x
  have:=C0.ndss_bulk r
  simp only [C0.ndss,C0.bulks]; omega
end
def OkS (l:List C0):Prop:=C0.bulks l≤BB
structure F16 (s:C0):Prop where
 place:OkE s.Place
 value:OkE s.Value
 name:s.Name.length≤BB
 args:s.Args.length≤BB
 arg:∀ a∈s.Args,OkE a
 nums:s.Numbers.length≤BB
 thens:OkS s.Then
 elses:OkS s.Else
theorem OkS.mem {l:List C0}(h:OkS l){s:C0}(hs:s∈l):F16 s:=by
 unfold OkS at h
 have h1:=C0.bulk_mem hs
 have h2:=C0.bulk_eq s
 have h3:=X1j s.Numbers
 have h4:=A0.bulk_len s.Args
 refine ⟨?_,?_,?_,?_,fun a ha=>?_,?_,?_,?_⟩ <;> first | (unfold OkE; omega) | (unfold OkS; omega) | omega | skip
 have:=A0.bulk_kid ha
 unfold OkE; omega
theorem OkS.len {l:List C0}(h:OkS l):l.length≤BB:=Nat.le_trans (C0.bulk_len l) h
def I4 (o:J0)(n m:Nat)(f a u:Bool):J0:=⟨o.nodes+n,max o.depth m,o.badForm || !f,o.badName || !a,o.badNumber || !u⟩
theorem D4 (o:J0)(n m n' m':Nat)(f a u f' a' u':Bool):I4 (I4 o n m f a u) n' m' f' a' u'=I4 o (n+n') (max m m') (f&&f') (a&&a') (u&&u'):=by
 simp only [I4,Jv]
 rw [show o.nodes+(n:Int)+(n':Int)=o.nodes+((n+n':Nat):Int) by omega,show max (max o.depth (m:Int)) (m':Int)=max o.depth ((max m m':Nat):Int) by omega]
theorem Mo (o:J0)(h:0≤o.depth):I4 o 0 0 true true true=o:=by
 simp only [I4,Bool.not_true,Bool.or_false]
 rw [show o.nodes+((0:Nat):Int)=o.nodes by omega,show max o.depth ((0:Nat):Int)=o.depth by omega]
theorem I1e (o:J0)(n m:Nat)(f a u:Bool):(I4 o n m f a u).nodes=o.nodes+n:=rfl
theorem Gs (o:J0)(n m:Nat)(f a u:Bool):(I4 o n m f a u).depth=max o.depth m:=rfl
theorem P9 (o:J0)(h:0≤o.depth)(b:Bool):T0 b o=some (I4 o 0 0 b true true):=by
 rw [G1c]
 simp only [I4,Bool.not_true,Bool.or_false]
 rw [show o.nodes+((0:Nat):Int)=o.nodes by omega,show max o.depth ((0:Nat):Int)=o.depth by omega]
theorem Dj (o:J0)(h:0≤o.depth)(b:Bool):U1 b o=some (I4 o 0 0 true true b):=by
 rw [Nx]
 simp only [I4,Bool.not_true,Bool.or_false]
 rw [show o.nodes+((0:Nat):Int)=o.nodes by omega,show max o.depth ((0:Nat):Int)=o.depth by omega]
theorem R1g (o:J0)(h:0≤o.depth)(s:Str)(hs:s.length≤BB):E3 s o=some (I4 o 0 0 true (C3 s) true):=by
 rw [D16 s hs]
 simp only [I4,Bool.not_true,Bool.or_false]
 rw [show o.nodes+((0:Nat):Int)=o.nodes by omega,show max o.depth ((0:Nat):Int)=o.depth by omega]
structure Z4 (o:J0)(n:Nat):Prop where
 dep:0≤o.depth
 low:0≤o.nodes
 high:o.nodes+n≤3 * BB
theorem Z4.x {o:J0}{n k m:Nat}{f a u:Bool}(h:Z4 o (k+n)):Z4 (I4 o k m f a u) n:=by
 obtain ⟨h1,h2,h3⟩:=h
 refine ⟨?_,?_,?_⟩
 ·rw [Gs]; omega
 ·rw [I1e]; omega
 ·rw [I1e]; omega
theorem Z4.less {o:J0}{n k:Nat}(h:Z4 o n)(hk:k≤n):Z4 o k:=⟨h.dep,h.low,by have:=h.high; omega⟩
theorem Z4.x0 {o:J0}{n m:Nat}{f a u:Bool}(h:Z4 o n):Z4 (I4 o 0 m f a u) n:=Z4.x (by rw [Nat.zero_add]; exact h)
theorem Y19 (e:A0)(h:OkE e)(o:J0)(hr:Z4 o e.nodes):E2 e 1 o=some (I4 o e.nodes e.depth (e.all B5) (e.all A6) (e.all B6)):=by
 have hn:=h.nodes
 have hp:1≤e.depth:=by rw [A0.depth_eq]; omega
 have h3:=hr.high
 unfold BB at hn h3
 rw [W1r e h 1 o (by omega) (by unfold BB; omega) hr.low (by unfold BB; omega)]
 simp only [Zj,I4]
 rw [show (1:Int)+((e.depth - 1:Nat):Int)=e.depth by omega]
theorem Y1j (t:F0)(h:Ok t)(o:J0)(hr:Z4 o t.nodes):O3 t 1 o=some (I4 o t.nodes t.depth (t.all Ua) (t.all Tk) (t.all Kp)):=by
 have hn:=h.nodes
 have hp:1≤t.depth:=by rw [F0.depth_eq]; omega
 have h3:=hr.high
 unfold BB at hn h3
 rw [K1u t h 1 o (by omega) (by unfold BB; omega) hr.low (by unfold BB; omega)]
 simp only [Zj,I4]
 rw [show (1:Int)+((t.depth - 1:Nat):Int)=t.depth by omega]
theorem Z1j:(A0.mk 0 0 [] []).all B5=true∧(A0.mk 0 0 [] []).all A6=true∧(A0.mk 0 0 [] []).all B6=true:=⟨rfl,rfl,rfl⟩
theorem K1c (e:A0)(u:Bool)(h:OkE e)(o:J0)(hr:Z4 o (oN e u)):Q2 e u o=some (I4 o (oN e u) (oD e u) (oF e u) (e.all A6) (e.all B6)):=by
 unfold Q2
 rw [N1n e h]
 show ((if (!u)=true then some (Fi e) else some default)>>=_)=_
 unfold oN oD oF at *
 cases u with
 | true=>
  simp only [Bool.not_true,cond_false,cond_true] at *
  rw [if_neg (by simp),ob,if_neg (by simp),P9 o hr.dep,ob,Y19 e h _ hr.x0,ob,D4]
  simp
 | false=>
  simp only [Bool.not_false,cond_false,cond_true] at *
  rw [if_pos trivial,ob]
  cases hz:Fi e with
  | true=>
   rw [if_pos rfl,J1c hz,Z1j.2.1,Z1j.2.2]
   exact congrArg some (Mo o hr.dep).symm
  | false=>
   rw [hz] at hr
   rw [if_neg (by simp),P9 o hr.dep,ob,Y19 e h _ hr.x0,ob,D4]
   simp
theorem W1p (o:J0)(h:0≤o.nodes)(h':o.nodes+1≤3 * BB)(d:Nat):R5 (d:Int) ⟨IntKind.i64.wrap (o.nodes+1),o.depth,o.badForm,o.badName,o.badNumber⟩=some (I4 o 1 d true true true):=by
 unfold BB at h'
 rw [F1c,wr (by omega) (by omega)]
 simp only [I4,Bool.not_true,Bool.or_false]
 rfl
theorem S1g (s:C0)(hs:F16 s)(K:J0→Option J0)(F:J0→Int→Option J0)
  (hF:∀ (o:J0) (k:Int),F o k=if decide (k < (s.Args.length:Int))=true then idx s.Args k>>=fun x=>E2 x 1 o>>=fun y=>F y (IntKind.i64.wrap (k+1)) else K o) :
  ∀ (r:List A0) (k:Nat) (o:J0),s.Args.drop k=r→Z4 o (A0.nodess r)→F o (k:Int)=K (I4 o (A0.nodess r) (A0.depths r) (A0.alls B5 r) (A0.alls A6 r) (A0.alls B6 r))
 | [],k,o,h,hr=>by
  rw [hF,(Z0 h).1,if_neg (by simp)]
  simp only [A0.nodess,A0.depths,A0.alls]
  rw [Mo o hr.dep]
 | x::r,k,o,h,hr=>by
  obtain ⟨e1,e2,e3,e4,e5⟩:=P1 h
  have:=hs.args
  simp only [A0.nodess] at hr
  rw [hF,e1,if_pos rfl,e2,ob,Y19 x (hs.arg x e5) o (hr.less (by omega)),ob,w1 (by omega),S1g s hs K F hF r (k+1) _ e3 hr.x,D4]
  rfl
theorem W1l (s:C0)(hs:F16 s):∀ (r:List Int) (k:Nat) (last:Int) (o:J0),s.Numbers.drop k=r→0≤o.depth→F2 s o last k=some (I4 o 0 0 true true (Fs last r))
 | [],k,last,o,h,h0=>by rw [F2,(Z0 h).1,if_neg (by simp)]; exact congrArg some (Mo o h0).symm
 | x::r,k,last,o,h,h0=>by
  obtain ⟨e1,e2,e3,e4,e5⟩:=P1 h
  have:=hs.nums
  rw [F2,e1,if_pos rfl,e2,ob,Ym,ob,Dj _ h0,ob,w1 (by omega),W1l s hs r (k+1) x _ e3 (by rw [Gs]; omega),D4]
  rfl
theorem X1p (s:C0)(hs:F16 s)(o:J0)(h0:0≤o.depth):C5 s o=some (I4 o 0 0 true true (Hn s)):=by
 unfold C5 Hn
 simp only [Ym]
 cases s.Verb == 4 with
 | true=>rw [if_pos rfl,ob,Dj _ h0,ob]; rfl
 | false=>
  rw [if_neg (by simp)]
  cases s.Verb == 6 with
  | true=>rw [if_pos rfl,ob,Dj _ h0,ob]; rfl
  | false=>
   rw [if_neg (by simp)]
   cases s.Verb == 7 with
   | true=>
    rw [if_pos rfl,ob]
    cases hl:U2 s.Low (-1048576) 1048576 with
    | false=>rw [if_neg (by simp),ob,Dj _ h0,ob]; rfl
    | true=>
     rw [if_pos rfl,ob]
     cases hh:U2 s.High s.Low 1048576 with
     | false=>rw [Dj _ h0,ob]; rfl
     | true=>
      have:IntKind.i64.wrap (s.High - s.Low)=s.High - s.Low:=by
       simp [U2] at hl hh
       exact wr (by omega) (by omega)
      rw [this,Dj _ h0,ob]; rfl
   | false=>
    rw [if_neg (by simp)]
    cases s.Verb == 8 with
    | true=>
     rw [if_pos rfl,ob,Dj _ h0,ob,show (0:Int)=((0:Nat):Int) from rfl,W1l s hs s.Numbers 0 (-1) _ rfl (by rw [Gs]; omega),D4]
     simp
    | false=>exact congrArg some (Mo o h0).symm
theorem T1g (l:List C0):OkS l→∀ (d:Nat) (o:J0),d+C0.bulks l≤3 * BB→Z4 o (C0.ndss l)→
  J2 l d o=some (I4 o (C0.ndss l) (C0.dpss l d) (C0.alls T8 l) (C0.alls Xb l) (C0.alls Wa l)):=by
 induction l using C0.inds with
 | h l ih=>
 intro hl d o hd hr
 have main:∀ (r:List C0) (k:Nat) (o:J0),l.drop k=r→Z4 o (C0.ndss r)→R3 l d o k=some (I4 o (C0.ndss r) (C0.dpss r d) (C0.alls T8 r) (C0.alls Xb r) (C0.alls Wa r)):=by
  intro r
  induction r with
  | nil=>
   intro k o h hr
   rw [R3,(Z0 h).1,if_neg (by simp)]
   exact congrArg some (Mo o hr.dep).symm
  | cons s r ihr=>
   intro k o h hr
   obtain ⟨e1,e2,e3,e4,e5⟩:=P1 h
   have hs:=hl.mem e5
   have hlen:=hl.len
   obtain ⟨i1,i2⟩:=ih s e5
   have hbm:=C0.bulk_mem e5
   have hbe:=C0.bulk_eq s
   simp only [C0.ndss,C0.nds_eq] at hr
   have hhi:=hr.high
   unfold BB at hhi hd
   have hwd:IntKind.i64.wrap ((d:Int)+1)=((d+1:Nat):Int):=by rw [wr (by omega) (by omega)]; rfl
   have tail:∀ o:J0,Z4 o (C0.ndss s.Then+C0.ndss s.Else+C0.ndss r)→
     (T0 (bif (stU s.Verb).1.n then true else (s.NV == 0)) o>>=fun x14=>
      T0 (bif (stU s.Verb).1.bounds then true else (bif (s.Low == 0) then (s.High == 0) else false)) x14>>=fun x15=>
      T0 (bif (stU s.Verb).1.numbers then true else (((s.Numbers).length:Int) == 0)) x15>>=fun x16=>
      T0 (bif (stU s.Verb).1.thenV then true else (((s.Then).length:Int) == 0)) x16>>=fun x17=>
      T0 (bif (stU s.Verb).1.other then true else (((s.Else).length:Int) == 0)) x17>>=fun x18=>
      C5 s x18>>=fun x19=>
      J2 s.Then (IntKind.i64.wrap ((d:Int)+1)) x19>>=fun x20=>
      J2 s.Else (IntKind.i64.wrap ((d:Int)+1)) x20>>=fun x21=>
      R3 l d x21 (IntKind.i64.wrap ((k:Int)+1)))
     = some (I4 o (C0.ndss s.Then+C0.ndss s.Else+C0.ndss r) (max (C0.dpss s.Then (d+1)) (max (C0.dpss s.Else (d+1)) (C0.dpss r d)))
       ((bif uNn s.Verb then true else s.NV == 0)&&(bif s.Verb == 7 then true else (bif s.Low == 0 then s.High == 0 else false))&&(bif s.Verb == 8 then true else ((s.Numbers.length:Int) == 0))
         && (bif uTh s.Verb then true else ((s.Then.length:Int) == 0))&&(bif s.Verb == 5 then true else ((s.Else.length:Int) == 0))&&C0.alls T8 s.Then&&C0.alls T8 s.Else&&C0.alls T8 r)
       (C0.alls Xb s.Then&&C0.alls Xb s.Else&&C0.alls Xb r) (Hn s&&C0.alls Wa s.Then&&C0.alls Wa s.Else&&C0.alls Wa r)):=by
    intro o hr
    have q1:=hr.x0 (m:=0) (f:=bif (stU s.Verb).1.n then true else (s.NV == 0)) (a:=true) (u:=true)
    have q2:=q1.x0 (m:=0) (f:=bif (stU s.Verb).1.bounds then true else (bif (s.Low == 0) then (s.High == 0) else false)) (a:=true) (u:=true)
    have q3:=q2.x0 (m:=0) (f:=bif (stU s.Verb).1.numbers then true else (((s.Numbers).length:Int) == 0)) (a:=true) (u:=true)
    have q4:=q3.x0 (m:=0) (f:=bif (stU s.Verb).1.thenV then true else (((s.Then).length:Int) == 0)) (a:=true) (u:=true)
    have q5:=q4.x0 (m:=0) (f:=bif (stU s.Verb).1.other then true else (((s.Else).length:Int) == 0)) (a:=true) (u:=true)
    have q6:=q5.x0 (m:=0) (f:=true) (a:=true) (u:=Hn s)
    rw [P9 o hr.dep,ob,P9 _ q1.dep,ob,P9 _ q2.dep,ob,P9 _ q3.dep,ob,P9 _ q4.dep,ob,X1p s hs _ q5.dep,ob,hwd,
     i1 hs.thens (d+1) _ (by unfold BB; omega) (q6.less (by omega)),ob,i2 hs.elses (d+1) _ (by unfold BB; omega) (Z4.x (q6.less (by omega))),ob,w1 (by omega),ihr (k+1) _ e3 (Z4.x (Z4.x (q6.less (by omega))))]
    simp only [D4,stU,Bool.true_and,Bool.and_true,Bool.and_assoc,Nat.zero_add,Nat.add_assoc,Nat.zero_max]
    simp only [← Nat.max_assoc]
   have args:=S1g s hs _ (fun o k'=>C6 l d o s (stU s.Verb) k k') (fun o k'=>C6.eq_1 l d o s (stU s.Verb) k k') s.Args 0
   rw [show ((0:Nat):Int)=0 from rfl] at args
   have j3:∀ o:J0,Z4 o (A0.nodess s.Args+(C0.ndss s.Then+C0.ndss s.Else+C0.ndss r))→N4 l d o s (stU s.Verb) k
     = some (I4 o (A0.nodess s.Args+(C0.ndss s.Then+C0.ndss s.Else+C0.ndss r)) (max (A0.depths s.Args) (max (C0.dpss s.Then (d+1)) (max (C0.dpss s.Else (d+1)) (C0.dpss r d))))
       ((bif s.Verb == 1 then true else ((s.Args.length:Int) == 0))&&(A0.alls B5 s.Args&&((bif uNn s.Verb then true else s.NV == 0)&&(bif s.Verb == 7 then true else (bif s.Low == 0 then s.High == 0 else false))&&(bif s.Verb == 8 then true else ((s.Numbers.length:Int) == 0))
         && (bif uTh s.Verb then true else ((s.Then.length:Int) == 0))&&(bif s.Verb == 5 then true else ((s.Else.length:Int) == 0))&&C0.alls T8 s.Then&&C0.alls T8 s.Else&&C0.alls T8 r)))
       (A0.alls A6 s.Args&&(C0.alls Xb s.Then&&C0.alls Xb s.Else&&C0.alls Xb r)) (A0.alls B6 s.Args&&(Hn s&&C0.alls Wa s.Then&&C0.alls Wa s.Else&&C0.alls Wa r))):=by
    intro o hr
    rw [N4,P9 o hr.dep,ob,args _ rfl (hr.x0.less (by omega)),tail _ (Z4.x hr.x0)]
    simp only [D4,stU,Bool.true_and,Bool.and_assoc,Nat.zero_add,Nat.zero_max]
   have j2:∀ o:J0,Z4 o (oN s.Value (uVa s.Verb)+(A0.nodess s.Args+(C0.ndss s.Then+C0.ndss s.Else+C0.ndss r)))→M4 l d o s (stU s.Verb) k
     = (N4 l d (I4 o (oN s.Value (uVa s.Verb)) (oD s.Value (uVa s.Verb)) (oF s.Value (uVa s.Verb)&&(bif uNm s.Verb then true else s.Name == [])) (s.Value.all A6&&(bif uNm s.Verb then C3 s.Name else true)) (s.Value.all B6)) s (stU s.Verb) k):=by
    intro o hr
    have q1:Z4 (I4 o (oN s.Value (uVa s.Verb)) (oD s.Value (uVa s.Verb)) (oF s.Value (uVa s.Verb)) (s.Value.all A6) (s.Value.all B6)) 0:=Z4.x (hr.less (by omega))
    rw [M4]
    show (Q2 s.Value (uVa s.Verb) o>>=_)=_
    rw [K1c s.Value (uVa s.Verb) hs.value o (hr.less (by omega)),ob,P9 _ q1.dep,ob,R1g _ (q1.x0).dep s.Name hs.name]
    simp only [D4,stU]
    cases uNm s.Verb with
    | true=>rw [if_pos rfl,ob]; simp
    | false=>rw [if_neg (by simp)]; simp
   rw [R3,e1,if_pos rfl,e2,ob,W1p o hr.low (by unfold BB; omega) d,ob,Uz,ob,P9 _ (show 0≤(I4 o 1 d true true true).depth by rw [Gs]; have:=hr.dep; omega),ob,D4]
   have hr1:Z4 (I4 o (1+0) (max d 0) (true&&(stU s.Verb).2) (true&&true) (true&&true)) (oN s.Place (uPl s.Verb)+(oN s.Value (uVa s.Verb)+(A0.nodess s.Args+(C0.ndss s.Then+C0.ndss s.Else+C0.ndss r)))):=Z4.x (hr.less (by omega))
   have hopt:=K1c s.Place (uPl s.Verb) hs.place _ (hr1.less (k:=oN s.Place (uPl s.Verb)) (by omega))
   show (Q2 s.Place (uPl s.Verb) _>>=_)=_
   rw [hopt,ob,K1g,D4]
   have hr2:∀ f,Z4 (I4 o (1+0+oN s.Place (uPl s.Verb)) (max (max d 0) (oD s.Place (uPl s.Verb))) f (true&&true&&s.Place.all A6) (true&&true&&s.Place.all B6)) (oN s.Value (uVa s.Verb)+(A0.nodess s.Args+(C0.ndss s.Then+C0.ndss s.Else+C0.ndss r))):=fun f=>Z4.x (hr.less (by omega))
   have fin:∀ b:Bool,(bif uPl s.Verb then s.Place.place else true)=b→
     M4 l d (I4 o (1+0+oN s.Place (uPl s.Verb)) (max (max d 0) (oD s.Place (uPl s.Verb))) (true&&(stU s.Verb).2&&oF s.Place (uPl s.Verb)&&b) (true&&true&&s.Place.all A6) (true&&true&&s.Place.all B6)) s (stU s.Verb) k
      = some (I4 o (C0.ndss (s::r)) (C0.dpss (s::r) d) (C0.alls T8 (s::r)) (C0.alls Xb (s::r)) (C0.alls Wa (s::r))):=by
    rintro _ rfl
    rw [j2 _ (hr2 _),j3 _ (Z4.x (hr2 _)),D4,D4]
    simp only [C0.ndss,C0.dpss,C0.alls,C0.nds_eq,C0.dps_eq,C0.all_eq,T8,Xb,Wa,stU,Bool.true_and,Bool.and_assoc,Nat.add_assoc,Nat.max_assoc,Nat.zero_add]
    congr 1
   cases hu:uPl s.Verb with
   | true=>
    rw [hu] at fin hr2
    rw [if_pos (show (stU s.Verb).1.place=true from hu),ob,P9 _ (hr2 _).dep,ob,D4]
    have:=fin s.Place.place rfl
    simpa using this
   | false=>
    rw [hu] at fin
    rw [if_neg (by rw [show (stU s.Verb).1.place=false from hu]; simp)]
    have:=fin true rfl
    rw [Bool.and_true] at this
    exact this
 rw [J2]
 exact main l 0 o rfl hr
end Go.Proofs.YtbmlpamppbcdeaaGreatDoor

set_option linter.unusedSimpArgs false
set_option linter.unusedVariables false
set_option maxHeartbeats 1000000
namespace Go.Proofs.YtbmlpamppbcdeaaGreatDoor
open Go.Am
def isK (k:Int):Bool:=bif decide (k≥0) then decide (k≤6) else false
def uV2 (k:Int):Bool:=bif k == 5 then true else k == 6
def tN (t:F0)(u:Bool):Nat:=bif (bif !u then Vo t else false) then 0 else t.nodes
def tD (t:F0)(u:Bool):Nat:=bif (bif !u then Vo t else false) then 0 else t.depth
theorem D1v (t:F0)(u:Bool):tN t u≤t.bulk:=by
 unfold tN
 have:=F0.nodes_bulk t
 cases (bif !u then Vo t else false) <;> simp <;> omega
def pOk (x:D0):Bool:=bif x.Kind == 4 then x.Init == 0 else false
def vOk (x:D0):Bool:=x.Kind == 4
def Is (d:D0):Bool:=bif U2 d.Init (-1048576) 1048576 then (bif d.TypeV.Kind != 0 then true else U2 d.Init 0 1) else false
def Vx (d:D0):Bool:=bif (bif ((d.Params.length:Int) == 0) then ((d.Vars.length:Int) == 0) else false) then ((d.Body.length:Int) == 0) else false
def V7 (d:D0):Bool:=
 isK d.Kind&&d.TypeV.all Ua&&oF d.Value (uV2 d.Kind)&&(bif d.Kind == 4 then true else d.Init == 0)&&(bif d.Kind == 6 then true else Vx d)&&d.Params.all pOk&&d.Vars.all vOk&&C0.alls T8 d.Body
def Zg (d:D0):Bool:=d.TypeV.all Tk&&C3 d.Name&&d.Value.all A6&&C0.alls Xb d.Body
def Sj (d:D0):Bool:=d.TypeV.all Kp&&d.Value.all B6&&Is d&&C0.alls Wa d.Body
mutual
def D0.nds:D0→Nat
 | .mk k nm t i v ps vs bd=>1+(tN t (isK k)+(oN v (uV2 k)+(D0.ndss ps+(D0.ndss vs+C0.ndss bd))))
def D0.ndss:List D0→Nat
 | []=>0
 | x::r=>D0.nds x+D0.ndss r
end
mutual
def D0.dps:D0→Nat
 | .mk k nm t i v ps vs bd=>max (tD t (isK k)) (max (oD v (uV2 k)) (max (D0.dpss ps) (max (D0.dpss vs) (C0.dpss bd 1))))
def D0.dpss:List D0→Nat
 | []=>0
 | x::r=>max (D0.dps x) (D0.dpss r)
end
mutual
def D0.all (p:D0→Bool):D0→Bool
 | .mk k nm t i v ps vs bd=>p (.mk k nm t i v ps vs bd)&&(D0.alls p ps&&D0.alls p vs)
def D0.alls (p:D0→Bool):List D0→Bool
 | []=>true
 | x::r=>D0.all p x&&D0.alls p r
end
theorem D0.nds_eq (d:D0):d.nds=1+(tN d.TypeV (isK d.Kind)+(oN d.Value (uV2 d.Kind)+(D0.ndss d.Params+(D0.ndss d.Vars+C0.ndss d.Body)))):=by cases d; simp only [D0.nds]
theorem D0.dps_eq (d:D0):d.dps=max (tD d.TypeV (isK d.Kind)) (max (oD d.Value (uV2 d.Kind)) (max (D0.dpss d.Params) (max (D0.dpss d.Vars) (C0.dpss d.Body 1)))):=by cases d; simp only [D0.dps]
theorem D0.all_eq (p:D0→Bool)(d:D0):d.all p=(p d&&(D0.alls p d.Params&&D0.alls p d.Vars)):=by cases d; simp only [D0.all]
theorem D0.ind {P:D0→Prop}(h:∀ d:D0,(∀ x∈d.Params,P x)→(∀ x∈d.Vars,P x)→P d):∀ d,P d:=by
 intro d
 refine D0.rec (motive_1:=P) (motive_2:=fun l=>∀ x∈l,P x) ?_ ?_ ?_ d
 ·intro k nm t i v ps vs bd i1 i2
  exact h _ i1 i2
 ·intro x hx; cases hx
 ·intro x r hx hr y hy
  cases hy with
  | head=>exact hx
  | tail _ hy=>exact hr y hy
theorem D0.inds {Q:List D0→Prop}(h:∀ l:List D0,(∀ x∈l,Q x.Params∧Q x.Vars)→Q l):∀ l,Q l:=by
 have key:∀ s:D0,Q s.Params∧Q s.Vars:=fun s=>by
  induction s using D0.ind with
  | h s i1 i2=>exact ⟨h _ i1,h _ i2⟩
 exact fun l=>h l fun x _=>key x
theorem D0.bulk_eq (d:D0):d.bulk=d.Name.length+d.TypeV.bulk+d.Value.bulk+D0.bulks d.Params+D0.bulks d.Vars+C0.bulks d.Body+7:=by cases d; simp only [D0.bulk]; omega
theorem D0.bulk_mem {s:D0}:∀ {l:List D0},s∈l→s.bulk≤D0.bulks l
 | x::r,h=>by
  simp only [D0.bulks]
  cases h with
  | head=>omega
  | tail _ h=>have:=D0.bulk_mem h; omega
theorem D0.bulk_len:∀ l:List D0,l.length≤D0.bulks l
 | []=>Nat.le_refl _
 | x::r=>by
  simp only [D0.bulks,List.length_cons]
  have:=D0.bulk_len r
  have:=D0.bulk_eq x
  omega
mutual
theorem D0.nds_bulk:∀ d:D0,d.nds≤d.bulk
 | .mk k nm t i v ps vs bd=>by
  have:=D1v t (isK k)
  have:=O1n v (uV2 k)
  have:=D0.ndss_bulk ps
  have:=D0.ndss_bulk vs
  have:=C0.ndss_bulk bd
  simp only [D0.nds,D0.bulk]; omega
theorem D0.ndss_bulk:∀ l:List D0,D0.ndss l≤D0.bulks l
 | []=>Nat.le_refl _
 | x::r=>by
  have:=D0.nds_bulk x
  have:=D0.ndss_bulk r
  simp only [D0.ndss,D0.bulks]; omega
end
def OkD (l:List D0):Prop:=D0.bulks l≤BB
structure Q1v (d:D0):Prop where
 type:Ok d.TypeV
 value:OkE d.Value
 name:d.Name.length≤BB
 params:OkD d.Params
 vars:OkD d.Vars
 body:OkS d.Body
theorem OkD.mem {l:List D0}(h:OkD l){d:D0}(hd:d∈l):Q1v d:=by
 unfold OkD at h
 have h1:=D0.bulk_mem hd
 have h2:=D0.bulk_eq d
 refine ⟨?_,?_,?_,?_,?_,?_⟩ <;> first | (unfold OkE; omega) | (unfold OkS; omega) | (unfold OkD; omega) | (unfold Ok; omega) | omega
theorem OkD.len {l:List D0}(h:OkD l):l.length≤BB:=Nat.le_trans (D0.bulk_len l) h
theorem U1g:(F0.mk 0 0 0 0 [] [] []).all Tk=true∧(F0.mk 0 0 0 0 [] [] []).all Kp=true:=⟨rfl,rfl⟩
theorem Q1f (c:List D0)(hc:c.length≤BB)(q:D0→Bool)(K:J0→Option J0)(F:J0→Int→Option J0)
  (hF:∀ (o:J0) (k:Int),F o k=if decide (k < (c.length:Int))=true then idx c k>>=fun x=>T0 (q x) o>>=fun y=>F y (IntKind.i64.wrap (k+1)) else K o) :
  ∀ (r:List D0) (k:Nat) (o:J0),c.drop k=r→0≤o.depth→F o (k:Int)=K (I4 o 0 0 (r.all q) true true)
 | [],k,o,h,hr=>by
  rw [hF,(Z0 h).1,if_neg (by simp),List.all_nil,Mo o hr]
 | x::r,k,o,h,hr=>by
  obtain ⟨e1,e2,e3,e4,e5⟩:=P1 h
  rw [hF,e1,if_pos rfl,e2,ob,P9 o hr,ob,w1 (by omega),Q1f c hc q K F hF r (k+1) _ e3 (by rw [Gs]; omega),D4]
  rfl
theorem Y1p (l:List D0):OkD l→∀ (o:J0),Z4 o (D0.ndss l)→
  L3 l o=some (I4 o (D0.ndss l) (D0.dpss l) (D0.alls V7 l) (D0.alls Zg l) (D0.alls Sj l)):=by
 induction l using D0.inds with
 | h l ih=>
 intro hl o hr
 have main:∀ (r:List D0) (k:Nat) (o:J0),l.drop k=r→Z4 o (D0.ndss r)→P4 l o k=some (I4 o (D0.ndss r) (D0.dpss r) (D0.alls V7 r) (D0.alls Zg r) (D0.alls Sj r)):=by
  intro r
  induction r with
  | nil=>
   intro k o h hr
   rw [P4,(Z0 h).1,if_neg (by simp)]
   exact congrArg some (Mo o hr.dep).symm
  | cons d r ihr=>
   intro k o h hr
   obtain ⟨e1,e2,e3,e4,e5⟩:=P1 h
   have hs:=hl.mem e5
   have hlen:=hl.len
   obtain ⟨i1,i2⟩:=ih d e5
   simp only [D0.ndss,D0.nds_eq] at hr
   have hhi:=hr.high
   have hbB:C0.bulks d.Body≤BB:=hs.body
   have hlow:=hr.low
   unfold BB at hhi
   have l4:=Q1f d.Vars hs.vars.len vOk _ (fun o k'=>F6 l o d k k') (fun o k'=>F6.eq_1 l o d k k') d.Vars 0
   have l3:=Q1f d.Params hs.params.len pOk _ (fun o k'=>Q4 l o d k k') (fun o k'=>Q4.eq_1 l o d k k') d.Params 0
   rw [show ((0:Nat):Int)=0 from rfl] at l4 l3
   have tail:∀ o:J0,Z4 o (D0.ndss d.Params+(D0.ndss d.Vars+(C0.ndss d.Body+D0.ndss r)))→
     Q4 l o d k 0=some (I4 o (D0.ndss d.Params+(D0.ndss d.Vars+(C0.ndss d.Body+D0.ndss r))) (max (D0.dpss d.Params) (max (D0.dpss d.Vars) (max (C0.dpss d.Body 1) (D0.dpss r))))
      (d.Params.all pOk&&(d.Vars.all vOk&&(D0.alls V7 d.Params&&(D0.alls V7 d.Vars&&(C0.alls T8 d.Body&&D0.alls V7 r)))))
      (D0.alls Zg d.Params&&(D0.alls Zg d.Vars&&(C0.alls Xb d.Body&&D0.alls Zg r)))
      (D0.alls Sj d.Params&&(D0.alls Sj d.Vars&&(C0.alls Wa d.Body&&D0.alls Sj r)))):=by
    intro o hr
    have q1:=hr.x0 (m:=0) (f:=d.Params.all pOk) (a:=true) (u:=true)
    have q2:=q1.x0 (m:=0) (f:=d.Vars.all vOk) (a:=true) (u:=true)
    rw [l3 o rfl hr.dep,l4 _ rfl q1.dep,i1 hs.params _ (q2.less (by omega)),ob,i2 hs.vars _ (Z4.x (q2.less (by omega))),ob,
     show (1:Int)=((1:Nat):Int) from rfl,T1g d.Body hs.body 1 _ (by unfold BB at *; omega) (Z4.x (Z4.x (q2.less (by omega)))),ob,show ((k:Int)+((1:Nat):Int))=(k:Int)+1 from rfl,w1 (by omega),ihr (k+1) _ e3 (Z4.x (Z4.x (Z4.x (q2.less (by omega)))))]
    simp only [D4,Bool.true_and,Bool.and_assoc,Nat.zero_add,Nat.zero_max,Nat.add_assoc,Nat.max_assoc]
   have hin:(if ((U2 d.Init (-1048576) 1048576)&&(!(d.TypeV.Kind != 0)))=true then Y2 d.Init 0 1 else some default)=some (bif (U2 d.Init (-1048576) 1048576)&&(!(d.TypeV.Kind != 0)) then U2 d.Init 0 1 else default):=by
    rw [Ym]
    cases ((U2 d.Init (-1048576) 1048576)&&(!(d.TypeV.Kind != 0))) <;> rfl
   have j2:∀ (x2:Bool×Bool) (o:J0),x2=(isK d.Kind,uV2 d.Kind)→Z4 o (oN d.Value (uV2 d.Kind)+(D0.ndss d.Params+(D0.ndss d.Vars+(C0.ndss d.Body+D0.ndss r))))→
     D6 l o d x2 k=some (I4 o (oN d.Value (uV2 d.Kind)+(D0.ndss d.Params+(D0.ndss d.Vars+(C0.ndss d.Body+D0.ndss r)))) (max (oD d.Value (uV2 d.Kind)) (max (D0.dpss d.Params) (max (D0.dpss d.Vars) (max (C0.dpss d.Body 1) (D0.dpss r)))))
      (oF d.Value (uV2 d.Kind)&&((bif d.Kind == 4 then true else d.Init == 0)&&((bif d.Kind == 6 then true else Vx d)&&(d.Params.all pOk&&(d.Vars.all vOk&&(D0.alls V7 d.Params&&(D0.alls V7 d.Vars&&(C0.alls T8 d.Body&&D0.alls V7 r))))))))
      (C3 d.Name&&(d.Value.all A6&&(D0.alls Zg d.Params&&(D0.alls Zg d.Vars&&(C0.alls Xb d.Body&&D0.alls Zg r)))))
      (d.Value.all B6&&(Is d&&(D0.alls Sj d.Params&&(D0.alls Sj d.Vars&&(C0.alls Wa d.Body&&D0.alls Sj r)))))):=by
    rintro _ o rfl hr
    have q1:=hr.x0 (m:=0) (f:=true) (a:=C3 d.Name) (u:=true)
    have q2:=Z4.x (m:=oD d.Value (uV2 d.Kind)) (f:=oF d.Value (uV2 d.Kind)) (a:=d.Value.all A6) (u:=d.Value.all B6) q1
    have hio:(bif U2 d.Init (-1048576) 1048576 then (bif (d.TypeV.Kind != 0) then true else (bif (U2 d.Init (-1048576) 1048576)&&(!(d.TypeV.Kind != 0)) then U2 d.Init 0 1 else default)) else false)=Is d:=by
     unfold Is
     cases U2 d.Init (-1048576) 1048576 <;> cases (d.TypeV.Kind != 0) <;> rfl
    rw [D6,R1g o hr.dep d.Name hs.name,ob,K1c d.Value (uV2 d.Kind) hs.value _ (q1.less (by omega)),ob,P9 _ q2.dep,ob,Ym,ob,hin,ob,hio,Dj _ (q2.x0).dep,ob,P9 _ (q2.x0.x0).dep,ob,tail _ (q2.x0.x0.x0)]
    simp only [D4,Bool.true_and,Bool.and_true,Bool.and_assoc,Nat.zero_add,Nat.add_zero,Nat.zero_max,Nat.max_zero,Nat.add_assoc,Nat.max_assoc,Vx]
   have hwn:(J0.mk (IntKind.i64.wrap (o.nodes+1)) o.depth o.badForm o.badName o.badNumber)=I4 o 1 0 true true true:=by
    rw [wr (by omega) (by omega)]
    simp only [I4,Bool.not_true,Bool.or_false]
    have:=hr.dep
    rw [show max o.depth ((0:Nat):Int)=o.depth by omega]
    rfl
   have q1:Z4 (I4 o 1 0 true true true) (tN d.TypeV (isK d.Kind)+(oN d.Value (uV2 d.Kind)+(D0.ndss d.Params+(D0.ndss d.Vars+(C0.ndss d.Body+D0.ndss r))))):=Z4.x (hr.less (by omega))
   have q2:=q1.x0 (m:=0) (f:=isK d.Kind) (a:=true) (u:=true)
   rw [P4,e1,if_pos rfl,e2,ob,show Yh d.Kind=some (isK d.Kind,uV2 d.Kind) from rfl,ob]
   show (T0 (isK d.Kind) _>>=_)=_
   rw [hwn,P9 _ q1.dep,ob,M1n d.TypeV hs.type]
   show ((if (!(isK d.Kind))=true then some (Vo d.TypeV) else some default)>>=_)=_
   cases hk:isK d.Kind with
   | true=>
    rw [hk] at q2
    have q3:=q2
    unfold tN at q3
    simp only [Bool.not_true,cond_false] at q3
    rw [if_neg (by simp),ob]
    rw [if_pos (show (bif (true,uV2 d.Kind).1 then true else !default)=true from rfl),Y1j d.TypeV hs.type _ (q3.less (by omega)),ob,j2 _ _ (by rw [hk]) (Z4.x q3)]
    simp only [D4,D0.ndss,D0.dpss,D0.alls,D0.nds_eq,D0.dps_eq,D0.all_eq,V7,Zg,Sj,hk,tN,tD,Bool.not_true,cond_false,Bool.true_and,Bool.and_assoc,Nat.add_assoc,Nat.max_assoc,Nat.zero_max,Nat.zero_add]
    congr 1
    simp only [I4]
    congr 1
    all_goals first
     | (congr 1; congr 1; ac_rfl)
     | (congr 1; congr 1)
     | skip
   | false=>
    rw [hk] at q2
    rw [if_pos (show (!false)=true from rfl),ob]
    show (if (!(Vo d.TypeV))=true then _ else _)=_
    cases hz:Vo d.TypeV with
    | true=>
     unfold tN at q2
     rw [hz] at q2
     simp only [Bool.not_false,cond_true,Nat.zero_add] at q2
     rw [if_neg (by simp),j2 _ _ (by rw [hk]) q2]
     have hzt:=Y1r hz
     simp only [D4,D0.ndss,D0.dpss,D0.alls,D0.nds_eq,D0.dps_eq,D0.all_eq,V7,Zg,Sj,hk,tN,tD,hz,Bool.not_false,cond_true,Bool.true_and,Bool.false_and,Bool.and_assoc,Nat.add_assoc,Nat.max_assoc,Nat.zero_max,Nat.zero_add]
     rw [hzt,U1g.1,U1g.2]
     simp only [Bool.true_and]
     congr 1
     simp only [I4]
     congr 1
     all_goals first
      | (congr 1; congr 1; ac_rfl)
      | (congr 1; congr 1)
      | skip
    | false=>
     have q3:=q2
     unfold tN at q3
     rw [hz] at q3
     simp only [Bool.not_false,cond_false,cond_true] at q3
     rw [if_pos (by simp),Y1j d.TypeV hs.type _ (q3.less (by omega)),ob,j2 _ _ (by rw [hk]) (Z4.x q3)]
     simp only [D4,D0.ndss,D0.dpss,D0.alls,D0.nds_eq,D0.dps_eq,D0.all_eq,V7,Zg,Sj,hk,tN,tD,hz,Bool.not_false,cond_true,cond_false,Bool.true_and,Bool.false_and,Bool.and_assoc,Nat.add_assoc,Nat.max_assoc,Nat.zero_max,Nat.zero_add]
     congr 1
     simp only [I4]
     congr 1
     all_goals first
      | (congr 1; congr 1; ac_rfl)
      | (congr 1; congr 1)
      | skip
 rw [L3]
 exact main l 0 o rfl hr
structure OkP (p:O0):Prop where
 decls:OkD p.Decls
 body:OkS p.Body
def Z19 (p:O0):Nat:=D0.ndss p.Decls+C0.ndss p.Body
def A1a (p:O0):Nat:=max (D0.dpss p.Decls) (C0.dpss p.Body 1)
def Qh (p:O0):Int:=
 Xt (Z19 p) (A1a p) (!(D0.alls V7 p.Decls&&C0.alls T8 p.Body)) (!(D0.alls Zg p.Decls&&C0.alls Xb p.Body)) (!(D0.alls Sj p.Decls&&C0.alls Wa p.Body))
theorem P1n (p:O0)(h:OkP p):Ec p=some (I4 ⟨0,0,false,false,false⟩ (Z19 p) (A1a p) (D0.alls V7 p.Decls&&C0.alls T8 p.Body) (D0.alls Zg p.Decls&&C0.alls Xb p.Body) (D0.alls Sj p.Decls&&C0.alls Wa p.Body)):=by
 have h1:=D0.ndss_bulk p.Decls
 have h2:=C0.ndss_bulk p.Body
 have h3:D0.bulks p.Decls≤BB:=h.decls
 have h4:C0.bulks p.Body≤BB:=h.body
 have hr:Z4 ⟨0,0,false,false,false⟩ (D0.ndss p.Decls+C0.ndss p.Body):=⟨Int.le_refl _,Int.le_refl _,by simp only; omega⟩
 unfold Ec
 rw [Y1p p.Decls h.decls _ (hr.less (by omega)),ob,show (1:Int)=((1:Nat):Int) from rfl,T1g p.Body h.body 1 _ (by unfold BB at *; omega) (Z4.x hr),ob,D4]
 rfl
theorem Z1p (n m:Nat)(f a u:Bool):L4 (I4 ⟨0,0,false,false,false⟩ n m f a u)=some (Xt n m (!f) (!a) (!u)):=by
 rw [S1r]
 simp only [I4,Bool.false_or]
 rw [show (0:Int)+(n:Int)=n by omega,show max (0:Int) (m:Int)=m by omega]
theorem Z1r (p:O0)(h:OkP p):Gh p=some (Qh p):=by
 unfold Gh
 rw [P1n p h,ob,Z1p,ob]
 rfl
end Go.Proofs.YtbmlpamppbcdeaaGreatDoor

set_option linter.unusedSimpArgs false
set_option linter.unusedVariables false
set_option maxHeartbeats 1000000
namespace Go.Proofs.YtbmlpamppbcdeaaGreatDoor
open Go.Am
theorem ifs {b c:Bool}{X:Option Bool}{y:Bool}(h:b = !c)(hx:X=some y):(if b=true then some false else X)=some (c&&y):=by
 subst h
 rw [hx]
 cases c <;> rfl
theorem ifd (c a:Bool):(if c=true then some a else some default)=some (bif c then a else default):=by cases c <;> rfl
theorem rUP (v:Int):Ai v=some (uPl v):=rfl
theorem rUV (v:Int):Ci v=some (uVa v):=rfl
theorem rUN (v:Int):Hg v=some (uNm v):=rfl
theorem R1v (v:Int):Cu v=some (uNn v):=rfl
theorem rUT (v:Int):So v=some (uTh v):=rfl
theorem rDT (k:Int):Cm k=some (isK k):=rfl
theorem rDV (k:Int):Zh k=some (uV2 k):=rfl
def szX (s:Q0)(n m:Nat):Q0:=⟨s.nodes+n,max s.depth m⟩
theorem E11 (s:Q0)(n m n' m':Nat):szX (szX s n m) n' m'=szX s (n+n') (max m m'):=by
 simp only [szX]
 rw [show s.nodes+(n:Int)+(n':Int)=s.nodes+((n+n':Nat):Int) by omega,show max (max s.depth (m:Int)) (m':Int)=max s.depth ((max m m':Nat):Int) by omega]
structure W7 (s:Q0)(n:Nat):Prop where
 dep:0≤s.depth
 low:0≤s.nodes
 high:s.nodes+n≤3 * BB
theorem W7.x {s:Q0}{n k m:Nat}(h:W7 s (k+n)):W7 (szX s k m) n:=by
 obtain ⟨h1,h2,h3⟩:=h
 refine ⟨?_,?_,?_⟩ <;> simp only [szX] <;> omega
theorem W7.less {s:Q0}{n k:Nat}(h:W7 s n)(hk:k≤n):W7 s k:=⟨h.dep,h.low,by have:=h.high; omega⟩
theorem Vz (s:Q0)(h:0≤s.depth):szX s 0 0=s:=by
 simp only [szX]
 rw [show s.nodes+((0:Nat):Int)=s.nodes by omega,show max s.depth ((0:Nat):Int)=s.depth by omega]
theorem G16 (s:Q0)(e:A0)(u:Bool)(h:OkE e)(hr:W7 s (oN e u)):Tb s e u=some (szX s (oN e u) (oD e u)):=by
 have hn:=h.nodes
 have hh:=hr.high
 have hl:=hr.low
 unfold Tb
 rw [D11 e h,ifd,ob,J1n e h,K1n e h]
 unfold oN oD at *
 cases u with
 | true=>
  simp only [Bool.not_true,cond_false] at *
  unfold BB at hh hn
  rw [if_neg (by simp),ob,ob,Kv,ob,wr (n:=s.nodes+(e.nodes:Int)) (by omega) (by omega)]
  rfl
 | false=>
  simp only [Bool.not_false,cond_true] at *
  cases hz:Fi e with
  | true=>rw [if_pos rfl]; exact congrArg some (Vz s hr.dep).symm
  | false=>
   rw [hz] at hh
   simp only [cond_false] at hh
   unfold BB at hh hn
   rw [if_neg (by simp),ob,ob,Kv,ob,wr (n:=s.nodes+(e.nodes:Int)) (by omega) (by omega)]
   rfl
theorem A1s (s:Q0)(t:F0)(u:Bool)(h:Ok t)(hr:W7 s (tN t u)):Cn s t u=some (szX s (tN t u) (tD t u)):=by
 have hn:=h.nodes
 have hh:=hr.high
 have hl:=hr.low
 unfold Cn
 rw [V1p t h,ifd,ob,O1p t h,P1p t h]
 unfold tN tD at *
 cases u with
 | true=>
  simp only [Bool.not_true,cond_false] at *
  unfold BB at hh hn
  rw [if_neg (by simp),ob,ob,Kv,ob,wr (n:=s.nodes+(t.nodes:Int)) (by omega) (by omega)]
  rfl
 | false=>
  simp only [Bool.not_false,cond_true] at *
  cases hz:Vo t with
  | true=>rw [if_pos rfl]; exact congrArg some (Vz s hr.dep).symm
  | false=>
   rw [hz] at hh
   simp only [cond_false] at hh
   unfold BB at hh hn
   rw [if_neg (by simp),ob,ob,Kv,ob,wr (n:=s.nodes+(t.nodes:Int)) (by omega) (by omega)]
   rfl
theorem L1u (s:Q0)(hr:W7 s 1)(d:Nat):E8 ⟨IntKind.i64.wrap (s.nodes+1),s.depth⟩ (d:Int)=some (szX s 1 d):=by
 have hh:=hr.high
 have hl:=hr.low
 unfold BB at hh
 rw [Kv,wr (n:=s.nodes+1) (by omega) (by omega)]
 rfl
theorem R1f (e:A0):oN e true=e.nodes∧oD e true=e.depth:=⟨rfl,rfl⟩
theorem V1g (s:C0)(hs:F16 s)(K:Q0→Option Q0)(F:Q0→Int→Option Q0)
  (hF:∀ (o:Q0) (k:Int),F o k=if decide (k < (s.Args.length:Int))=true then idx s.Args k>>=fun x=>Tb o x true>>=fun y=>F y (IntKind.i64.wrap (k+1)) else K o) :
  ∀ (r:List A0) (k:Nat) (o:Q0),s.Args.drop k=r→W7 o (A0.nodess r)→F o (k:Int)=K (szX o (A0.nodess r) (A0.depths r))
 | [],k,o,h,hr=>by
  rw [hF,(Z0 h).1,if_neg (by simp)]
  simp only [A0.nodess,A0.depths]
  rw [Vz o hr.dep]
 | x::r,k,o,h,hr=>by
  obtain ⟨e1,e2,e3,e4,e5⟩:=P1 h
  have:=hs.args
  simp only [A0.nodess] at hr
  rw [hF,e1,if_pos rfl,e2,ob,G16 o x true (hs.arg x e5) (hr.less (by rw [(R1f x).1]; omega)),ob,(R1f x).1,(R1f x).2,w1 (by omega),V1g s hs K F hF r (k+1) _ e3 hr.x,E11]
  rfl
theorem B1a (l:List C0):OkS l→∀ (d:Nat) (o:Q0),d+C0.bulks l≤3 * BB→W7 o (C0.ndss l)→U9 o l d=some (szX o (C0.ndss l) (C0.dpss l d)):=by
 induction l using C0.inds with
 | h l ih=>
 intro hl d o hd hr
 have main:∀ (r:List C0) (k:Nat) (o:Q0),l.drop k=r→W7 o (C0.ndss r)→Te l d o k=some (szX o (C0.ndss r) (C0.dpss r d)):=by
  intro r
  induction r with
  | nil=>
   intro k o h hr
   rw [Te,(Z0 h).1,if_neg (by simp)]
   exact congrArg some (Vz o hr.dep).symm
  | cons s r ihr=>
   intro k o h hr
   obtain ⟨e1,e2,e3,e4,e5⟩:=P1 h
   have hs:=hl.mem e5
   have hlen:=hl.len
   obtain ⟨i1,i2⟩:=ih s e5
   have hbm:=C0.bulk_mem e5
   have hbe:=C0.bulk_eq s
   simp only [C0.ndss,C0.nds_eq] at hr
   unfold BB at hd
   have hwd:IntKind.i64.wrap ((d:Int)+1)=((d+1:Nat):Int):=by rw [wr (by omega) (by omega)]; rfl
   have args:=V1g s hs _ (fun o k'=>Ki l d o s k k') (fun o k'=>Ki.eq_1 l d o s k k') s.Args 0
   rw [show ((0:Nat):Int)=0 from rfl] at args
   have q1:W7 (szX o 1 d) (oN s.Place (uPl s.Verb)+(oN s.Value (uVa s.Verb)+(A0.nodess s.Args+(C0.ndss s.Then+(C0.ndss s.Else+C0.ndss r))))):=W7.x (hr.less (by omega))
   have q2:=W7.x (m:=oD s.Place (uPl s.Verb)) q1
   have q3:=W7.x (m:=oD s.Value (uVa s.Verb)) q2
   have q4:=W7.x (m:=A0.depths s.Args) q3
   have q5:=W7.x (m:=C0.dpss s.Then (d+1)) q4
   have q6:=W7.x (m:=C0.dpss s.Else (d+1)) q5
   rw [Te,e1,if_pos rfl,e2,ob,L1u o (hr.less (by omega)) d,ob,rUP,ob,G16 _ s.Place _ hs.place (q1.less (by omega)),ob,rUV,ob,G16 _ s.Value _ hs.value (q2.less (by omega)),ob,
    args _ rfl (q3.less (by omega)),hwd,i1 hs.thens (d+1) _ (by unfold BB; omega) (q4.less (by omega)),ob,i2 hs.elses (d+1) _ (by unfold BB; omega) (q5.less (by omega)),ob,w1 (by omega),ihr (k+1) _ e3 q6]
   simp only [E11,C0.ndss,C0.dpss,C0.nds_eq,C0.dps_eq,Nat.add_assoc,Nat.max_assoc]
 rw [U9]
 exact main l 0 o rfl hr
theorem A1k (l:List D0):OkD l→∀ (o:Q0),W7 o (D0.ndss l)→Rc o l=some (szX o (D0.ndss l) (D0.dpss l)):=by
 induction l using D0.inds with
 | h l ih=>
 intro hl o hr
 have main:∀ (r:List D0) (k:Nat) (o:Q0),l.drop k=r→W7 o (D0.ndss r)→Ue l o k=some (szX o (D0.ndss r) (D0.dpss r)):=by
  intro r
  induction r with
  | nil=>
   intro k o h hr
   rw [Ue,(Z0 h).1,if_neg (by simp)]
   exact congrArg some (Vz o hr.dep).symm
  | cons s r ihr=>
   intro k o h hr
   obtain ⟨e1,e2,e3,e4,e5⟩:=P1 h
   have hs:=hl.mem e5
   have hlen:=hl.len
   obtain ⟨i1,i2⟩:=ih s e5
   have hbB:C0.bulks s.Body≤BB:=hs.body
   simp only [D0.ndss,D0.nds_eq] at hr
   have hh:=hr.high
   have hlo:=hr.low
   have hw:(Q0.mk (IntKind.i64.wrap (o.nodes+1)) o.depth)=szX o 1 0:=by
    unfold BB at hh
    rw [wr (by omega) (by omega)]
    have:=hr.dep
    simp only [szX]
    rw [show max o.depth ((0:Nat):Int)=o.depth by omega]
    rfl
   have q1:W7 (szX o 1 0) (tN s.TypeV (isK s.Kind)+(oN s.Value (uV2 s.Kind)+(D0.ndss s.Params+(D0.ndss s.Vars+(C0.ndss s.Body+D0.ndss r))))):=W7.x (hr.less (by omega))
   have q2:=W7.x (m:=tD s.TypeV (isK s.Kind)) q1
   have q3:=W7.x (m:=oD s.Value (uV2 s.Kind)) q2
   have q4:=W7.x (m:=D0.dpss s.Params) q3
   have q5:=W7.x (m:=D0.dpss s.Vars) q4
   have q6:=W7.x (m:=C0.dpss s.Body 1) q5
   rw [Ue,e1,if_pos rfl,e2,ob,rDT,ob,hw,A1s _ s.TypeV _ hs.type (q1.less (by omega)),ob,rDV,ob,G16 _ s.Value _ hs.value (q2.less (by omega)),ob,i1 hs.params _ (q3.less (by omega)),ob,i2 hs.vars _ (q4.less (by omega)),ob,
    show (1:Int)=((1:Nat):Int) from rfl,B1a s.Body hs.body 1 _ (by unfold BB at *; omega) (q5.less (by omega)),ob,show ((k:Int)+((1:Nat):Int))=(k:Int)+1 from rfl,w1 (by omega),ihr (k+1) _ e3 q6]
   simp only [E11,D0.ndss,D0.dpss,D0.nds_eq,D0.dps_eq,Nat.add_assoc,Nat.max_assoc,Nat.zero_max]
 rw [Rc]
 exact main l 0 o rfl hr
theorem Q1n (s:C0)(hs:F16 s)(p:A0→Bool)(g:A0→Option Bool)(hg:∀ x∈s.Args,g x=some (x.all p))(K:Option Bool)(F:Int→Option Bool)(y:Bool)(hK:K=some y)
  (hF:∀ k:Int,F k=if decide (k < (s.Args.length:Int))=true then idx s.Args k>>=fun x=>g x>>=fun b=>if (!b)=true then some false else F (IntKind.i64.wrap (k+1)) else K) :
  ∀ (r:List A0) (k:Nat),s.Args.drop k=r→F (k:Int)=some (A0.alls p r&&y)
 | [],k,h=>by rw [hF,(Z0 h).1,if_neg (by simp),hK]; rfl
 | x::r,k,h=>by
  obtain ⟨e1,e2,e3,e4,e5⟩:=P1 h
  have:=hs.args
  rw [hF,e1,if_pos rfl,e2,ob,hg x e5,ob,w1 (by omega),Q1n s hs p g hg K F y hK hF r (k+1) e3,A0.alls]
  cases x.all p <;> simp
theorem Q16 (l:List C0):OkS l→Q8 l=some (C0.alls T8 l):=by
 induction l using C0.inds with
 | h l ih=>
 intro hl
 have main:∀ (r:List C0) (k:Nat),l.drop k=r→Tc l k=some (C0.alls T8 r):=by
  intro r
  induction r with
  | nil=>intro k h; rw [Tc,(Z0 h).1,if_neg (by simp)]; rfl
  | cons s r ihr=>
   intro k h
   obtain ⟨e1,e2,e3,e4,e5⟩:=P1 h
   have hs:=hl.mem e5
   have hlen:=hl.len
   obtain ⟨i1,i2⟩:=ih s e5
   have l2:=Q1n s hs B5 L5 (fun x hx=>C11 x (hs.arg x hx)) _ (fun k'=>Ih l s k k') (C0.alls T8 s.Then&&C0.alls T8 s.Else&&C0.alls T8 r)
    (by
     rw [i1 hs.thens,ob,i2 hs.elses,ifd,ob,w1 (by omega),ihr (k+1) e3]
     cases C0.alls T8 s.Then <;> cases C0.alls T8 s.Else <;> simp)
    (fun k'=>Ih.eq_1 l s k k') s.Args 0 rfl
   rw [show ((0:Nat):Int)=0 from rfl] at l2
   rw [Tc,e1,if_pos rfl,e2,ob]
   simp only [rUP,rUV,rUN,R1v,rUT,L1g,C11 _ hs.place,C11 _ hs.value,D11 _ hs.place,D11 _ hs.value,ifd,ob]
   have:=ifs (b:=bif decide (s.Verb < 0) then true else decide (s.Verb > 8)) (c:=okV s.Verb) (by unfold okV; rw [Bool.not_not])
    (ifs (c:=oF s.Place (uPl s.Verb)&&(bif uPl s.Verb then s.Place.place else true)) (b:=bif (bif uPl s.Verb then (bif (!(bif uPl s.Verb then s.Place.place else default)) then true else (!(bif (uPl s.Verb&&(!(!(bif uPl s.Verb then s.Place.place else default)))) then s.Place.all B5 else default))) else false) then true else (bif (!(bif (!(bif uPl s.Verb then (bif (!(bif uPl s.Verb then s.Place.place else default)) then true else (!(bif (uPl s.Verb&&(!(!(bif uPl s.Verb then s.Place.place else default)))) then s.Place.all B5 else default))) else false)) then uPl s.Verb else default)) then (!(bif ((!(bif uPl s.Verb then (bif (!(bif uPl s.Verb then s.Place.place else default)) then true else (!(bif (uPl s.Verb&&(!(!(bif uPl s.Verb then s.Place.place else default)))) then s.Place.all B5 else default))) else false))&&(!(bif (!(bif uPl s.Verb then (bif (!(bif uPl s.Verb then s.Place.place else default)) then true else (!(bif (uPl s.Verb&&(!(!(bif uPl s.Verb then s.Place.place else default)))) then s.Place.all B5 else default))) else false)) then uPl s.Verb else default))) then Fi s.Place else default)) else false))
     (by unfold oF; cases uPl s.Verb <;> cases s.Place.place <;> cases s.Place.all B5 <;> cases Fi s.Place <;> rfl)
    (ifs (c:=oF s.Value (uVa s.Verb)) (b:=bif (bif uVa s.Verb then (!(bif uVa s.Verb then s.Value.all B5 else default)) else false) then true else (bif (!(bif (!(bif uVa s.Verb then (!(bif uVa s.Verb then s.Value.all B5 else default)) else false)) then uVa s.Verb else default)) then (!(bif ((!(bif uVa s.Verb then (!(bif uVa s.Verb then s.Value.all B5 else default)) else false))&&(!(bif (!(bif uVa s.Verb then (!(bif uVa s.Verb then s.Value.all B5 else default)) else false)) then uVa s.Verb else default))) then Fi s.Value else default)) else false))
     (by unfold oF; cases uVa s.Verb <;> cases s.Value.all B5 <;> cases Fi s.Value <;> rfl)
    (ifs (c:=(bif uNm s.Verb then true else s.Name == [])&&(bif s.Verb == 1 then true else ((s.Args.length:Int) == 0))&&(bif uNn s.Verb then true else s.NV == 0)&&(bif s.Verb == 7 then true else (bif s.Low == 0 then s.High == 0 else false))&&(bif s.Verb == 8 then true else ((s.Numbers.length:Int) == 0)))
     (b:=bif (bif (bif (bif (bif (!(uNm s.Verb)) then (!(s.Name == [])) else false) then true else (bif (s.Verb != 1) then (((s.Args).length:Int) != 0) else false)) then true else (bif (!(bif (!(bif (bif (!(uNm s.Verb)) then (!(s.Name == [])) else false) then true else (bif (s.Verb != 1) then (((s.Args).length:Int) != 0) else false))) then uNn s.Verb else default)) then (s.NV != 0) else false)) then true else (bif (s.Verb != 7) then (bif (s.Low != 0) then true else (s.High != 0)) else false)) then true else (bif (s.Verb != 8) then (((s.Numbers).length:Int) != 0) else false))
     (by
      unfold bne
      generalize (s.Verb == 1)=a1; generalize (s.Verb == 7)=a2; generalize (s.Verb == 8)=a3; generalize (s.Name == [])=a4; generalize ((s.Args.length:Int) == 0)=a5; generalize (s.NV == 0)=a6; generalize (s.Low == 0)=a7; generalize (s.High == 0)=a8
      generalize ((s.Numbers.length:Int) == 0)=a9; generalize uNm s.Verb=b1; generalize uNn s.Verb=b2
      cases b1 <;> cases a4 <;> cases a1 <;> cases a5 <;> cases b2 <;> cases a6 <;> first | rfl | (cases a2 <;> cases a7 <;> cases a8 <;> cases a3 <;> cases a9 <;> rfl))
    (ifs (c:=(bif uTh s.Verb then true else ((s.Then.length:Int) == 0))&&(bif s.Verb == 5 then true else ((s.Else.length:Int) == 0))) (b:=bif (bif (!(uTh s.Verb)) then (((s.Then).length:Int) != 0) else false) then true else (bif (s.Verb != 5) then (((s.Else).length:Int) != 0) else false))
     (by
      unfold bne
      generalize (s.Verb == 5)=a1; generalize ((s.Then.length:Int) == 0)=a2; generalize ((s.Else.length:Int) == 0)=a3
      generalize uTh s.Verb=a0
      cases a0 <;> cases a1 <;> cases a2 <;> cases a3 <;> rfl) l2))))
   refine this.trans ?_
   simp only [C0.alls,C0.all_eq,T8,Bool.and_assoc]
   congr 1
   generalize A0.alls B5 s.Args=x
   generalize (bif s.Verb == 1 then true else ((s.Args.length:Int) == 0))=y
   ac_rfl
 rw [Q8]
 exact main l 0 rfl
end Go.Proofs.YtbmlpamppbcdeaaGreatDoor

set_option linter.unusedSimpArgs false
set_option linter.unusedVariables false
set_option maxHeartbeats 1000000
namespace Go.Proofs.YtbmlpamppbcdeaaGreatDoor
open Go.Am
theorem B1k (c:List D0)(hc:c.length≤BB)(q:D0→Bool)(K:Option Bool)(F:Int→Option Bool)(y:Bool)(hK:K=some y)
  (hF:∀ (r:List D0) (k:Nat) (x:D0),c.drop k=x::r→F (k:Int)=if q x=true then F (IntKind.i64.wrap ((k:Int)+1)) else some false) (hE:∀ k:Nat,c.drop k=[]→F (k:Int)=K) :
  ∀ (r:List D0) (k:Nat),c.drop k=r→F (k:Int)=some (r.all q&&y)
 | [],k,h=>by rw [hE k h,hK]; rfl
 | x::r,k,h=>by
  obtain ⟨e1,e2,e3,e4,e5⟩:=P1 h
  rw [hF r k x h,w1 (by omega),B1k c hc q K F y hK hF hE r (k+1) e3,List.all_cons]
  cases q x <;> simp
theorem H1h (l:List D0):OkD l→Pa l=some (D0.alls V7 l):=by
 induction l using D0.inds with
 | h l ih=>
 intro hl
 have main:∀ (r:List D0) (k:Nat),l.drop k=r→Uc l k=some (D0.alls V7 r):=by
  intro r
  induction r with
  | nil=>intro k h; rw [Uc,(Z0 h).1,if_neg (by simp)]; rfl
  | cons d r ihr=>
   intro k h
   obtain ⟨e1,e2,e3,e4,e5⟩:=P1 h
   have hs:=hl.mem e5
   have hlen:=hl.len
   obtain ⟨i1,i2⟩:=ih d e5
   have l3:=B1k d.Vars hs.vars.len vOk _ (fun k'=>Z6 l d k k') (D0.alls V7 d.Params&&D0.alls V7 d.Vars&&C0.alls T8 d.Body&&D0.alls V7 r) rfl
    (fun r' k' x hx=>by
     obtain ⟨f1,f2,f3,f4,f5⟩:=P1 hx
     show Z6 l d k k'=_
     rw [Z6,f1,if_pos rfl,f2,ob]
     unfold vOk bne
     cases (x.Kind == 4) <;> rfl)
    (fun k' hx=>by
     show Z6 l d k k'=_
     rw [Z6,(Z0 hx).1,if_neg (by simp),i1 hs.params,ob,i2 hs.vars,ifd,ob,Q16 d.Body hs.body,ifd,ob,w1 (by omega),ihr (k+1) e3]
     cases D0.alls V7 d.Params <;> cases D0.alls V7 d.Vars <;> cases C0.alls T8 d.Body <;> simp) d.Vars 0 rfl
   have l2:=B1k d.Params hs.params.len pOk _ (fun k'=>Y6 l d k k') (d.Vars.all vOk&&(D0.alls V7 d.Params&&D0.alls V7 d.Vars&&C0.alls T8 d.Body&&D0.alls V7 r)) rfl
    (fun r' k' x hx=>by
     obtain ⟨f1,f2,f3,f4,f5⟩:=P1 hx
     show Y6 l d k k'=_
     rw [Y6,f1,if_pos rfl,f2,ob]
     unfold pOk bne
     cases (x.Kind == 4)
     ·rfl
     ·simp only [Bool.not_true,Bool.not_false,if_true,ob,cond_true,cond_false]
      cases (x.Init == 0) <;> rfl)
    (fun k' hx=>by
     show Y6 l d k k'=_
     rw [Y6,(Z0 hx).1,if_neg (by simp)]
     exact l3) d.Params 0 rfl
   rw [show ((0:Nat):Int)=0 from rfl] at l2
   rw [Uc,e1,if_pos rfl,e2,ob]
   simp only [rDT,rDV,T1r _ hs.type,C11 _ hs.value,D11 _ hs.value,ifd,ob]
   have:=ifs (b:=bif (!(isK d.Kind)) then true else (!(bif (!(!(isK d.Kind))) then d.TypeV.all Ua else default))) (c:=isK d.Kind&&d.TypeV.all Ua) (by cases isK d.Kind <;> cases d.TypeV.all Ua <;> rfl)
    (ifs (c:=oF d.Value (uV2 d.Kind)&&(bif d.Kind == 4 then true else d.Init == 0)) (b:=bif (bif (bif uV2 d.Kind then (!(bif uV2 d.Kind then d.Value.all B5 else default)) else false) then true else (bif (!(bif (!(bif uV2 d.Kind then (!(bif uV2 d.Kind then d.Value.all B5 else default)) else false)) then uV2 d.Kind else default)) then (!(bif ((!(bif uV2 d.Kind then (!(bif uV2 d.Kind then d.Value.all B5 else default)) else false))&&(!(bif (!(bif uV2 d.Kind then (!(bif uV2 d.Kind then d.Value.all B5 else default)) else false)) then uV2 d.Kind else default))) then Fi d.Value else default)) else false)) then true else (bif (d.Kind != 4) then (d.Init != 0) else false))
     (by
      unfold oF bne
      generalize (d.Kind == 4)=a1
      generalize (d.Init == 0)=a2
      generalize uV2 d.Kind=a3
      cases a3 <;> cases d.Value.all B5 <;> cases Fi d.Value <;> cases a1 <;> cases a2 <;> rfl)
    (ifs (c:=bif d.Kind == 6 then true else Vx d) (b:=bif (d.Kind != 6) then (bif (bif (((d.Params).length:Int) != 0) then true else (((d.Vars).length:Int) != 0)) then true else (((d.Body).length:Int) != 0)) else false)
     (by
      unfold Vx bne
      cases (d.Kind == 6) <;> cases ((d.Params.length:Int) == 0) <;> cases ((d.Vars.length:Int) == 0) <;> cases ((d.Body.length:Int) == 0) <;> rfl) l2))
   refine this.trans ?_
   simp only [D0.alls,D0.all_eq,V7,Bool.and_assoc]
   congr 1
   ac_rfl
 rw [Pa]
 exact main l 0 rfl
theorem A1q (s:C0)(hs:F16 s)(p:A0→Bool)(g:A0→Option Bool)(hg:∀ x∈s.Args,g x=some (x.all p))(K:Option Bool)(F:Int→Option Bool)(y:Bool)(hK:K=some y)
  (hF:∀ k:Int,F k=if decide (k < (s.Args.length:Int))=true then idx s.Args k>>=fun x=>g x>>=fun b=>if (!b)=true then some false else F (IntKind.i64.wrap (k+1)) else K):F 0=some (A0.alls p s.Args&&y):=
 Q1n s hs p g hg K F y hK hF s.Args 0 rfl
theorem B14 (l:List C0):OkS l→M7 l=some (C0.alls Xb l):=by
 induction l using C0.inds with
 | h l ih=>
 intro hl
 have main:∀ (r:List C0) (k:Nat),l.drop k=r→Ya l k=some (C0.alls Xb r):=by
  intro r
  induction r with
  | nil=>intro k h; rw [Ya,(Z0 h).1,if_neg (by simp)]; rfl
  | cons s r ihr=>
   intro k h
   obtain ⟨e1,e2,e3,e4,e5⟩:=P1 h
   have hs:=hl.mem e5
   have hlen:=hl.len
   obtain ⟨i1,i2⟩:=ih s e5
   have l2:=A1q s hs A6 X4 (fun x hx=>Ox x (hs.arg x hx)) _ (fun k'=>Wf l s k k') (C0.alls Xb r) (by rw [w1 (by omega),ihr (k+1) e3]) (fun k'=>Wf.eq_1 l s k k')
   rw [Ya,e1,if_pos rfl,e2,ob]
   simp only [rUN,Kj _ hs.name,Ox _ hs.place,Ox _ hs.value,i1 hs.thens,i2 hs.elses,ifd,ob,l2]
   simp only [C0.alls,C0.all_eq,Xb]
   generalize uNm s.Verb=a1
   generalize C3 s.Name=a2
   generalize s.Place.all A6=a3
   generalize s.Value.all A6=a4
   generalize C0.alls Xb s.Then=a5
   generalize C0.alls Xb s.Else=a6
   cases a1 <;> cases a2 <;> cases a3 <;> cases a4 <;> cases a5 <;> cases a6 <;> simp
 rw [M7]
 exact main l 0 rfl
theorem S1f (l:List D0):OkD l→I9 l=some (D0.alls Zg l):=by
 induction l using D0.inds with
 | h l ih=>
 intro hl
 have main:∀ (r:List D0) (k:Nat),l.drop k=r→Za l k=some (D0.alls Zg r):=by
  intro r
  induction r with
  | nil=>intro k h; rw [Za,(Z0 h).1,if_neg (by simp)]; rfl
  | cons d r ihr=>
   intro k h
   obtain ⟨e1,e2,e3,e4,e5⟩:=P1 h
   have hs:=hl.mem e5
   have hlen:=hl.len
   obtain ⟨i1,i2⟩:=ih d e5
   rw [Za,e1,if_pos rfl,e2,ob]
   simp only [Kj _ hs.name,Q1p _ hs.type,Ox _ hs.value,i1 hs.params,i2 hs.vars,B14 _ hs.body,ifd,ob,w1 (show k≤BB by omega),ihr (k+1) e3]
   simp only [D0.alls,D0.all_eq,Zg]
   generalize C3 d.Name=a2
   generalize d.TypeV.all Tk=a3
   generalize d.Value.all A6=a4
   generalize D0.alls Zg d.Params=a5
   generalize D0.alls Zg d.Vars=a6
   generalize C0.alls Xb d.Body=a1
   cases a1 <;> cases a2 <;> cases a3 <;> cases a4 <;> cases a5 <;> cases a6 <;> simp
 rw [I9]
 exact main l 0 rfl
theorem R1n (x:Int):U2 x 0 1048576=(bif decide (x < 0) then false else !decide (x > 1048576)):=by
 unfold U2
 rw [B16,C16]
 cases decide (x≥0) <;> cases decide (x≤1048576) <;> rfl
theorem B1q (s:C0)(hs:F16 s):∀ (r:List Int) (k:Nat) (last:Int),s.Numbers.drop k=r→(k=0∧last = -1∨0 < k∧idx s.Numbers ((k - 1:Nat):Int)=some last)→X5 s k=some (Fs last r)
 | [],k,last,h,h0=>by rw [X5,(Z0 h).1,if_neg (by simp)]; rfl
 | x::r,k,last,h,h0=>by
  obtain ⟨e1,e2,e3,e4,e5⟩:=P1 h
  have hnl:=hs.nums
  have ih:=B1q s hs r (k+1) x e3 (.inr ⟨by omega,e2⟩)
  unfold BB at hnl
  rw [show Fs last (x::r)=((bif U2 x 0 1048576 then decide (x > last) else false)&&Fs x r) from rfl,R1n,X5,e1,if_pos rfl,e2,ob,w1 (by unfold BB; omega),ih]
  by_cases hx:x < 0
  ·rw [decide_eq_true hx]; rfl
  ·rw [decide_eq_false hx,if_pos (show (!false)=true from rfl),ob]
   cases hB:decide (x > 1048576) with
   | true=>rfl
   | false=>
    rcases h0 with ⟨rfl,rfl⟩ | ⟨hk,hl⟩
    ·have hk:decide (((0:Nat):Int) > 0)=false:=by decide
     rw [hk,decide_eq_true (show x > -1 by omega)]
     cases Fs x r <;> rfl
    ·have hk':decide ((k:Int) > 0)=true:=decide_eq_true (by omega)
     have hw:IntKind.i64.wrap ((k:Int) - 1)=((k - 1:Nat):Int):=by rw [wr (by omega) (by omega)]; omega
     have hd:decide (x≤last) = !decide (x > last):=by rw [← decide_not]; exact decide_eq_decide.2 (by omega)
     rw [hk',hw,hl]
     show (if decide (x≤last)=true then some false else some (Fs x r))=some (decide (x > last)&&Fs x r)
     rw [hd]
     cases decide (x > last) <;> cases Fs x r <;> rfl
theorem B1s (s:C0)(hs:F16 s):Li s=some (Hn s):=by
 unfold Li Hn
 cases s.Verb == 4 with
 | true=>rw [if_pos rfl]; rfl
 | false=>
  rw [if_neg (by simp)]
  cases s.Verb == 6 with
  | true=>rw [if_pos rfl]; rfl
  | false=>
   rw [if_neg (by simp)]
   cases s.Verb == 7 with
   | true=>
    rw [if_pos rfl,B11,ob,B11,ifd,ob]
    show some _=some (bif (bif U2 s.Low (-1048576) 1048576 then U2 s.High s.Low 1048576 else false) then decide (s.High - s.Low < 4096) else false)
    congr 1
    by_cases hb:(-1048576≤s.Low∧s.Low≤1048576)∧(-1048576≤s.High∧s.High≤1048576)
    ·obtain ⟨⟨b1,b2⟩,b3,b4⟩:=hb
     rw [wr (n:=s.High - s.Low) (by omega) (by omega),wr (n:=s.High - s.Low+1) (by omega) (by omega)]
     unfold Uk U2
     rw [decide_eq_true (show s.Low≥-1048576 from b1),decide_eq_true b2,decide_eq_true (show s.High≥-1048576 from b3),decide_eq_true b4]
     simp only [cond_true]
     have e:decide (s.High - s.Low+1≤4096)=decide (s.High - s.Low < 4096):=decide_eq_decide.2 (by omega)
     rw [e]
     show (bif decide (s.Low≤s.High) then decide (s.High - s.Low < 4096) else false)=(bif (bif decide (s.Low≤s.High) then true else false) then decide (s.High - s.Low < 4096) else false)
     cases decide (s.Low≤s.High) <;> rfl
    ·unfold Uk U2
     by_cases h1 : -1048576≤s.Low∧s.Low≤1048576
     ·obtain ⟨b1,b2⟩:=h1
      rw [decide_eq_true (show s.Low≥-1048576 from b1),decide_eq_true b2]
      simp only [cond_true]
      by_cases h2:s.High≤1048576
      ·have h3:¬ s.High≥-1048576:=fun h=>hb ⟨⟨b1,b2⟩,h,h2⟩
       rw [decide_eq_false h3,decide_eq_false (show ¬ s.High≥s.Low by omega)]
       rfl
      ·rw [decide_eq_false h2]
       cases decide (s.High≥-1048576) <;> cases decide (s.High≥s.Low) <;> rfl
     ·have:(bif decide (s.Low≥-1048576) then decide (s.Low≤1048576) else false)=false:=by
       by_cases h2 : -1048576≤s.Low
       ·rw [decide_eq_true (show s.Low≥-1048576 from h2),decide_eq_false (fun h=>h1 ⟨h2,h⟩)]; rfl
       ·rw [decide_eq_false (show ¬ s.Low≥-1048576 from h2)]; rfl
      rw [this]
      rfl
   | false=>
    rw [if_neg (by simp)]
    cases s.Verb == 8 with
    | true=>
     have:=B1q s hs s.Numbers 0 (-1) rfl (.inl ⟨rfl,rfl⟩)
     rw [show ((0:Nat):Int)=0 from rfl] at this
     rw [if_pos rfl,this,B16,C16]
     show _=some (U2 (s.Numbers.length:Int) 1 32&&Fs (-1) s.Numbers)
     unfold U2
     cases decide ((s.Numbers.length:Int)≥1) <;> cases decide ((s.Numbers.length:Int)≤32) <;> simp
    | false=>rfl
theorem Wz (l:List C0):OkS l→Y5 l=some (C0.alls Wa l):=by
 induction l using C0.inds with
 | h l ih=>
 intro hl
 have main:∀ (r:List C0) (k:Nat),l.drop k=r→W8 l k=some (C0.alls Wa r):=by
  intro r
  induction r with
  | nil=>intro k h; rw [W8,(Z0 h).1,if_neg (by simp)]; rfl
  | cons s r ihr=>
   intro k h
   obtain ⟨e1,e2,e3,e4,e5⟩:=P1 h
   have hs:=hl.mem e5
   have hlen:=hl.len
   obtain ⟨i1,i2⟩:=ih s e5
   have l2:=A1q s hs B6 P3 (fun x hx=>Ds x (hs.arg x hx)) _ (fun k'=>Yc l s k k') (C0.alls Wa r) (by rw [w1 (by omega),ihr (k+1) e3]) (fun k'=>Yc.eq_1 l s k k')
   rw [W8,e1,if_pos rfl,e2,ob]
   simp only [B1s s hs,Ds _ hs.place,Ds _ hs.value,i1 hs.thens,i2 hs.elses,ifd,ob,l2]
   simp only [C0.alls,C0.all_eq,Wa]
   generalize Hn s=a2
   generalize s.Place.all B6=a3
   generalize s.Value.all B6=a4
   generalize C0.alls Wa s.Then=a5
   generalize C0.alls Wa s.Else=a6
   cases a2 <;> cases a3 <;> cases a4 <;> cases a5 <;> cases a6 <;> simp
 rw [Y5]
 exact main l 0 rfl
def H16 (d:D0):Bool:=(d.TypeV.all fun t=>!Yt t)&&d.Value.all B6&&Is d&&C0.alls Wa d.Body
theorem L1c (l:List D0):OkD l→A7 l=some (D0.alls H16 l):=by
 induction l using D0.inds with
 | h l ih=>
 intro hl
 have main:∀ (r:List D0) (k:Nat),l.drop k=r→X8 l k=some (D0.alls H16 r):=by
  intro r
  induction r with
  | nil=>intro k h; rw [X8,(Z0 h).1,if_neg (by simp)]; rfl
  | cons d r ihr=>
   intro k h
   obtain ⟨e1,e2,e3,e4,e5⟩:=P1 h
   have hs:=hl.mem e5
   have hlen:=hl.len
   obtain ⟨i1,i2⟩:=ih d e5
   rw [X8,e1,if_pos rfl,e2,ob,B11,ob]
   simp only [A1l _ hs.type,Ds _ hs.value,i1 hs.params,i2 hs.vars,Wz _ hs.body,ifd,ob,w1 (show k≤BB by omega),ihr (k+1) e3]
   have hi:(bif (!(Uk d.Init)) then true else (bif (d.TypeV.Kind == 0) then (bif (decide (d.Init < 0)) then true else (decide (d.Init > 1))) else false)) = !(Is d):=by
    unfold Is Uk U2 bne
    rw [B16,C16 d.Init 1]
    cases decide (d.Init≥-1048576) <;> cases decide (d.Init≤1048576) <;> cases (d.TypeV.Kind == 0) <;> cases decide (d.Init≥0) <;> cases decide (d.Init≤1) <;> rfl
   rw [hi]
   simp only [D0.alls,D0.all_eq,H16]
   generalize Is d=a2
   generalize (d.TypeV.all fun t=>!Yt t)=a3
   generalize d.Value.all B6=a4
   generalize D0.alls H16 d.Params=a5
   generalize D0.alls H16 d.Vars=a6
   generalize C0.alls Wa d.Body=a1
   cases a1 <;> cases a2 <;> cases a3 <;> cases a4 <;> cases a5 <;> cases a6 <;> simp
 rw [A7]
 exact main l 0 rfl
theorem C1q (l:List D0):D0.alls V7 l=true→D0.alls H16 l=D0.alls Sj l:=by
 induction l using D0.inds with
 | h l ih=>
 induction l with
 | nil=>intro _; rfl
 | cons d r ihr=>
  intro h
  simp only [D0.alls,D0.all_eq,Bool.and_eq_true] at h
  obtain ⟨⟨h1,h2,h3⟩,h4⟩:=h
  obtain ⟨i1,i2⟩:=ih d List.mem_cons_self
  have h5:d.TypeV.all Ua=true:=by
   unfold V7 at h1
   simp only [Bool.and_eq_true] at h1
   exact h1.1.1.1.1.1.1.2
  simp only [D0.alls,D0.all_eq,H16,Sj,← Z1k d.TypeV h5,i1 h2,i2 h3,ihr (fun x hx=>ih x (List.mem_cons_of_mem _ hx)) h4]
theorem C1s (p:O0)(h:OkP p):Wp p=some ⟨Z19 p,A1a p⟩:=by
 have h1:=D0.ndss_bulk p.Decls
 have h2:=C0.ndss_bulk p.Body
 have h3:D0.bulks p.Decls≤BB:=h.decls
 have h4:C0.bulks p.Body≤BB:=h.body
 have hr:W7 ⟨0,0⟩ (D0.ndss p.Decls+C0.ndss p.Body):=⟨Int.le_refl _,Int.le_refl _,by simp only; omega⟩
 unfold Wp
 rw [A1k p.Decls h.decls _ (hr.less (by omega)),ob,show (1:Int)=((1:Nat):Int) from rfl,B1a p.Body h.body 1 _ (by unfold BB at *; omega) (W7.x hr),ob,E11]
 unfold szX Z19 A1a
 simp only
 rw [show (0:Int)+((D0.ndss p.Decls+C0.ndss p.Body:Nat):Int)=((D0.ndss p.Decls+C0.ndss p.Body:Nat):Int) by omega,show max (0:Int) ((max (D0.dpss p.Decls) (C0.dpss p.Body 1):Nat):Int)=((max (D0.dpss p.Decls) (C0.dpss p.Body 1):Nat):Int) by omega]
theorem E1v (a b:Bool):(bif a then (bif a then b else default) else false)=(a&&b):=by cases a <;> rfl
theorem D1q (p:O0)(h:OkP p):Yp p=some (Qh p):=by
 unfold Yp
 simp only [C1s p h,H1h _ h.decls,Q16 _ h.body,S1f _ h.decls,B14 _ h.body,L1c _ h.decls,Wz _ h.body,ifd,ob,B1l,E1v]
 unfold Qh
 cases hf:D0.alls V7 p.Decls with
 | false=>unfold Xt; rfl
 | true=>rw [C1q p.Decls hf]
theorem K1b (l:List C0):OkS l→∀ n,∃ m,V5 l n=some m:=by
 induction l using C0.inds with
 | h l ih=>
 intro hl n
 have main:∀ (r:List C0) (k:Nat) (n:Int),l.drop k=r→∃ m,C9 l n k=some m:=by
  intro r
  induction r with
  | nil=>intro k n h; rw [C9,(Z0 h).1]; exact ⟨_,rfl⟩
  | cons s r ihr=>
   intro k n h
   obtain ⟨e1,e2,e3,e4,e5⟩:=P1 h
   have hs:=hl.mem e5
   have hlen:=hl.len
   obtain ⟨i1,i2⟩:=ih s e5
   have tail:∀ n:Int,∃ m,(if decide ((s.Numbers.length:Int) > 100)=true then some (-1) else V5 s.Then n>>=fun x6=>V5 s.Else x6>>=fun x7=>C9 l x7 (IntKind.i64.wrap ((k:Int)+1)))=some m:=fun n=>by
    cases decide ((s.Numbers.length:Int) > 100) with
    | true=>exact ⟨_,rfl⟩
    | false=>
     obtain ⟨a,ha⟩:=i1 hs.thens n
     obtain ⟨b,hb⟩:=i2 hs.elses a
     rw [if_neg (by simp),ha,ob,hb,ob,w1 (by omega)]
     exact ihr (k+1) b e3
   have l2:∀ (q:List A0) (j:Nat) (n:Int),s.Args.drop j=q→∃ m,Hc l s n k j=some m:=by
    intro q
    induction q with
    | nil=>intro j n hj; rw [Hc,(Z0 hj).1,cond_false,if_neg (by simp)]; exact tail n
    | cons a q ihq=>
     intro j n hj
     obtain ⟨f1,f2,f3,f4,f5⟩:=P1 hj
     have:=hs.args
     rw [Hc,f1,cond_true,f2]
     cases decide (n≥0) with
     | false=>rw [if_neg (by simp)]; exact tail n
     | true=>
      obtain ⟨m,hm⟩:=Px a (hs.arg a f5) n
      rw [if_pos rfl,ob,hm,ob,w1 (by omega)]
      exact ihq (j+1) m f3
   rw [C9,e1,cond_true,e2]
   cases decide (n≥0) with
   | false=>exact ⟨_,rfl⟩
   | true=>
    rw [if_pos rfl,ob]
    obtain ⟨a,ha⟩:=Px s.Place hs.place (IntKind.i64.wrap ((IntKind.i64.wrap (n - 1)) - (IntKind.i64.wrap (Int.tdiv ((s.Name).length:Int) 16))))
    obtain ⟨b,hb⟩:=Px s.Value hs.value a
    rw [ha,ob,hb,ob]
    exact l2 s.Args 0 b rfl
 rw [V5]
 exact main l 0 n rfl
theorem S1n (l:List D0):OkD l→∀ n,∃ m,Ka l n=some m:=by
 induction l using D0.inds with
 | h l ih=>
 intro hl n
 have main:∀ (r:List D0) (k:Nat) (n:Int),l.drop k=r→∃ m,Ic l n k=some m:=by
  intro r
  induction r with
  | nil=>intro k n h; rw [Ic,(Z0 h).1]; exact ⟨_,rfl⟩
  | cons d r ihr=>
   intro k n h
   obtain ⟨e1,e2,e3,e4,e5⟩:=P1 h
   have hs:=hl.mem e5
   have hlen:=hl.len
   obtain ⟨i1,i2⟩:=ih d e5
   rw [Ic,e1,cond_true,e2]
   cases decide (n≥0) with
   | false=>exact ⟨_,rfl⟩
   | true=>
    rw [if_pos rfl,ob]
    obtain ⟨a,ha⟩:=L1n d.TypeV hs.type (IntKind.i64.wrap ((IntKind.i64.wrap (n - 1)) - (IntKind.i64.wrap (Int.tdiv ((d.Name).length:Int) 16))))
    obtain ⟨b,hb⟩:=Px d.Value hs.value a
    obtain ⟨c,hc⟩:=i1 hs.params b
    obtain ⟨e,he⟩:=i2 hs.vars c
    obtain ⟨f,hf⟩:=K1b d.Body hs.body e
    rw [ha,ob,hb,ob,hc,ob,he,ob,hf,ob,w1 (by omega)]
    exact ihr (k+1) f e3
 rw [Ka]
 exact main l 0 n rfl
theorem E1q (p:O0)(h:OkP p)(n:Int):∃ b,Tu p n=some b:=by
 obtain ⟨a,ha⟩:=S1n p.Decls h.decls n
 obtain ⟨b,hb⟩:=K1b p.Body h.body a
 unfold Tu
 rw [ha,ob,hb]
 exact ⟨_,rfl⟩
theorem Js {p:O0}(h:p.bulk≤4200000):OkP p:=by
 cases p
 simp only [O0.bulk] at h
 exact ⟨by unfold OkD BB; simp only; omega,by unfold OkS BB; simp only; omega⟩
end Go.Proofs.YtbmlpamppbcdeaaGreatDoor

namespace Go.Proofs.YtbmlpamppbcdeaaGreatDoor
open Go.Am
set_option maxRecDepth 100000
set_option maxHeartbeats 4000000
theorem M1c:Yk=some true:=L1f 200 _ (by kernel_rfl)
end Go.Proofs.YtbmlpamppbcdeaaGreatDoor

set_option linter.unusedSimpArgs false
set_option linter.unusedVariables false
namespace Go.Proofs.YtbmlpamppbcdeaaGreatDoor
open Go.Am
theorem F1q {α:Type}(s u:List α)(hs:s.length≤BB)(hl:s.length=u.length)(p:α→α→Bool)(F:Int→Option Bool)(K:Option Bool)
  (hF:∀ (k:Nat) x y,x∈s→idx s k=some x→idx u k=some y→decide ((k:Int) < (s.length:Int))=true→F k=if p x y=true then F (IntKind.i64.wrap ((k:Int)+1)) else some false)
  (hK:∀ k:Nat,decide ((k:Int) < (s.length:Int))=false→F k=K) :
  ∀ (r:List α) (k:Nat),s.drop k=r→F (k:Int)=if eqL p r (u.drop k)=true then K else some false
 | [],k,h=>by
  rw [hK k (Z0 h).1,List.drop_eq_nil_of_le (by have:=(Z0 h).2; omega)]; rfl
 | x::r,k,h=>by
  obtain ⟨e1,e2,e3,e4,e5⟩:=P1 h
  obtain ⟨y,f1,f2,f3⟩:=E16 (l:=u) (k:=k) (by omega)
  rw [hF k x y e5 e2 f1 e1,w1 (by omega),F1q s u hs hl p F K hF hK r (k+1) e3,f2,eqL]
  cases p x y <;> simp
theorem M1a {α:Type}(s u:List α)(hs:s.length≤BB)(hl:s.length=u.length)(p:α→α→Bool)(F:Int→Option Bool)(K:Option Bool)
  (hF:∀ (k:Nat) x y,x∈s→idx s k=some x→idx u k=some y→decide ((k:Int) < (s.length:Int))=true→F k=if p x y=true then F (IntKind.i64.wrap ((k:Int)+1)) else some false)
  (hK:∀ k:Nat,decide ((k:Int) < (s.length:Int))=false→F k=K):F 0=if eqL p s u=true then K else some false:=
 F1q s u hs hl p F K hF hK s 0 rfl
theorem M1u (b:Bool):(if b=true then some true else some false:Option Bool)=some b:=by cases b <;> rfl
mutual
def C0.same:C0→C0→Bool
 | .mk v pl va nm ar n lo hi ns th el,t=>(v == t.Verb&&nm == t.Name&&n == t.NV&&lo == t.Low&&hi == t.High)&&eqL (fun x y=>x == y) ns t.Numbers&&pl.same t.Place&&va.same t.Value&&eqL A0.same ar t.Args&&C0.sames th t.Then&&C0.sames el t.Else
def C0.sames:List C0→List C0→Bool
 | [],[]=>true
 | x::r,y::s=>C0.same x y&&C0.sames r s
 | [],_::_=>false
 | _::_,[]=>false
end
theorem C0.sames_eq:∀ l m:List C0,C0.sames l m=eqL C0.same l m
 | [],[]=>rfl
 | x::r,y::s=>by simp only [C0.sames,eqL,C0.sames_eq r s]
 | [],_::_=>rfl
 | _::_,[]=>rfl
def stA (s t:C0):Bool:=s.Verb == t.Verb&&s.Name == t.Name&&s.NV == t.NV&&s.Low == t.Low&&s.High == t.High
theorem C0.same_eq (s t:C0):s.same t=(stA s t&&eqL (fun x y=>x == y) s.Numbers t.Numbers&&s.Place.same t.Place&&s.Value.same t.Value&&eqL A0.same s.Args t.Args&&C0.sames s.Then t.Then&&C0.sames s.Else t.Else):=by
 cases s; rfl
theorem nbo (a b:Bool):(bif !a then true else !b) = !(a&&b):=by cases a <;> rfl
theorem P1t (a b:Bool):(bif a then b else false)=(a&&b):=by cases a <;> rfl
theorem D1s {α:Type}[Inhabited α](c:Bool)(X:Option α){a:α}(h:X=some a):(if c=true then X else some default)=some (bif c then a else default):=by subst h; cases c <;> rfl
theorem S1v {α β:Type}(l:List α)(m:List β):((l.length:Int) == (m.length:Int))=(l.length == m.length):=by
 by_cases h:l.length=m.length
 ·simp [h]
 ·rw [beq_eq_false_iff_ne.mpr h,beq_eq_false_iff_ne.mpr (by omega)]
theorem L1b (l:List C0):OkS l→∀ m,N7 l m=some (C0.sames l m):=by
 induction l using C0.inds with
 | h l ih=>
 intro hl m
 rw [N7,C0.sames_eq]
 by_cases hh:l.length=m.length
 ·rw [if_neg (by simp; omega),M1a l m hl.len hh C0.same (Eb l m) (some true)
   (fun k x y hx h1 h2 h3=>by
    have ho:=hl.mem hx
    obtain ⟨i1,i2⟩:=ih x hx
    rw [Eb,h3,if_pos rfl,h1,ob,h2,ob]
    simp only [bne,nbo,C0.same_eq,S1v]
    unfold stA
    generalize (x.Verb == y.Verb&&x.Name == y.Name&&x.NV == y.NV&&x.Low == y.Low&&x.High == y.High)=A
    cases A with
    | false=>simp
    | true=>
    by_cases g1:x.Args.length=y.Args.length
    ·by_cases g2:x.Numbers.length=y.Numbers.length
     ·rw [beq_iff_eq.mpr g1,beq_iff_eq.mpr g2,if_neg (by simp),
       M1a x.Args y.Args ho.args g1 A0.same (Fb l m x y k) (L8 l m x y k 0)
        (fun j a b ha q1 q2 q3=>by rw [Fb,q3,if_pos rfl,q1,ob,q2,ob,Es a (ho.arg a ha),ob]; cases a.same b <;> simp)
        (fun j h=>by rw [Fb,h,if_neg (by simp)]),
       M1a x.Numbers y.Numbers ho.nums g2 (fun x y=>x == y) (L8 l m x y k) _
        (fun j a b ha q1 q2 q3=>by rw [L8,q3,if_pos rfl,q1,ob,q2,ob]; unfold bne; cases a == b <;> simp)
        (fun j h=>by rw [L8,h,if_neg (by simp)])]
      simp only [nbo,Es _ ho.place,Es _ ho.value,i1 ho.thens,i2 ho.elses,D1s _ _ rfl,ob]
      generalize eqL (fun x y=>x == y) x.Numbers y.Numbers=b
      generalize x.Place.same y.Place=c
      generalize x.Value.same y.Value=d
      generalize eqL A0.same x.Args y.Args=e
      generalize C0.sames x.Then y.Then=f
      generalize C0.sames x.Else y.Else=g
      cases b <;> cases c <;> cases d <;> cases e <;> cases f <;> cases g <;> rfl
     ·rw [Km _ g2,beq_eq_false_iff_ne.mpr g2]; simp
    ·rw [Km _ g1,beq_eq_false_iff_ne.mpr g1]; simp)
   (fun k h=>by rw [Eb,h,if_neg (by simp)]),M1u]
 ·rw [if_pos (by simp; omega),Km _ hh]
mutual
def D0.same:D0→D0→Bool
 | .mk k nm t i v ps vs bd,e=>(k == e.Kind&&nm == e.Name&&i == e.Init)&&t.same e.TypeV&&v.same e.Value&&D0.sames ps e.Params&&D0.sames vs e.Vars&&C0.sames bd e.Body
def D0.sames:List D0→List D0→Bool
 | [],[]=>true
 | x::r,y::s=>D0.same x y&&D0.sames r s
 | [],_::_=>false
 | _::_,[]=>false
end
theorem D0.sames_eq:∀ l m:List D0,D0.sames l m=eqL D0.same l m
 | [],[]=>rfl
 | x::r,y::s=>by simp only [D0.sames,eqL,D0.sames_eq r s]
 | [],_::_=>rfl
 | _::_,[]=>rfl
theorem D0.same_eq (s t:D0):s.same t=((s.Kind == t.Kind&&s.Name == t.Name&&s.Init == t.Init)&&s.TypeV.same t.TypeV&&s.Value.same t.Value&&D0.sames s.Params t.Params&&D0.sames s.Vars t.Vars&&C0.sames s.Body t.Body):=by
 cases s; rfl
theorem C1l (l:List D0):OkD l→∀ m,K9 l m=some (D0.sames l m):=by
 induction l using D0.inds with
 | h l ih=>
 intro hl m
 rw [K9,D0.sames_eq]
 by_cases hh:l.length=m.length
 ·rw [if_neg (by simp; omega),M1a l m hl.len hh D0.same (Gb l m) (some true)
   (fun k x y hx h1 h2 h3=>by
    have ho:=hl.mem hx
    obtain ⟨i1,i2⟩:=ih x hx
    rw [Gb,h3,if_pos rfl,h1,ob,h2,ob]
    simp only [bne,nbo,P1t,Q1g _ ho.type,Es _ ho.value,i1 ho.params,i2 ho.vars,L1b _ ho.body,D1s _ _ rfl,ob,D0.same_eq]
    generalize (x.Kind == y.Kind&&x.Name == y.Name&&x.Init == y.Init)=A
    generalize x.TypeV.same y.TypeV=c
    generalize x.Value.same y.Value=d
    generalize D0.sames x.Params y.Params=e
    generalize D0.sames x.Vars y.Vars=f
    generalize C0.sames x.Body y.Body=g
    cases A <;> cases c <;> cases d <;> cases e <;> cases f <;> cases g <;> rfl)
   (fun k h=>by rw [Gb,h,if_neg (by simp)]),M1u]
 ·rw [if_pos (by simp; omega),Km _ hh]
theorem J1e (l:List C0):C0.sames l l=true:=by
 induction l using C0.inds with
 | h l ih=>
 rw [C0.sames_eq]
 refine Lo l fun x hx=>?_
 obtain ⟨i1,i2⟩:=ih x hx
 rw [C0.same_eq,i1,i2,Qx,Qx,Lo x.Args (fun a _=>Qx a),Lo x.Numbers (fun a _=>by simp)]
 simp [stA]
theorem T1n (l:List D0):D0.sames l l=true:=by
 induction l using D0.inds with
 | h l ih=>
 rw [D0.sames_eq]
 refine Lo l fun x hx=>?_
 obtain ⟨i1,i2⟩:=ih x hx
 rw [D0.same_eq,i1,i2,Qx,R1p,J1e]
 simp
def M1h (p q:O0):Bool:=D0.sames p.Decls q.Decls&&C0.sames p.Body q.Body
theorem Xz (p q:O0)(h:OkP p):Sg p q=some (M1h p q):=by
 unfold Sg
 simp only [C1l _ h.decls,L1b _ h.body,D1s _ _ rfl,ob,M1h]
 cases D0.sames p.Decls q.Decls <;> rfl
end Go.Proofs.YtbmlpamppbcdeaaGreatDoor

set_option linter.unusedSimpArgs false
set_option linter.unusedVariables false
namespace Go.Proofs.YtbmlpamppbcdeaaGreatDoor
open Go.Am
structure Rn (σ:Str→Str):Prop where
 inv:∀ a,σ (σ a)=a
 nm:∀ a,C3 (σ a)=C3 a
 nil:σ []=[]
variable {σ:Str→Str}
mutual
def A0.rn (σ:Str→Str):A0→A0
 | .mk o n s ks=>.mk o n (bif o == 3 then σ s else s) (A0.rns σ ks)
def A0.rns (σ:Str→Str):List A0→List A0
 | []=>[]
 | x::r=>A0.rn σ x::A0.rns σ r
end
mutual
def F0.rn (σ:Str→Str):F0→F0
 | .mk k l h s n ns of=>.mk k l h s (bif k == 4 then σ n else n) ns (F0.rns σ of)
def F0.rns (σ:Str→Str):List F0→List F0
 | []=>[]
 | x::r=>F0.rn σ x::F0.rns σ r
end
mutual
def C0.rn (σ:Str→Str):C0→C0
 | .mk v pl va nm ar n lo hi ns th el=>.mk v (pl.rn σ) (va.rn σ) (bif uNm v then σ nm else nm) (A0.rns σ ar) n lo hi ns (C0.rns σ th) (C0.rns σ el)
def C0.rns (σ:Str→Str):List C0→List C0
 | []=>[]
 | x::r=>C0.rn σ x::C0.rns σ r
end
mutual
def D0.rn (σ:Str→Str):D0→D0
 | .mk k nm t i v ps vs bd=>.mk k (σ nm) (t.rn σ) i (v.rn σ) (D0.rns σ ps) (D0.rns σ vs) (C0.rns σ bd)
def D0.rns (σ:Str→Str):List D0→List D0
 | []=>[]
 | x::r=>D0.rn σ x::D0.rns σ r
end
def O0.rn (σ:Str→Str)(p:O0):O0:=.mk (D0.rns σ p.Decls) (C0.rns σ p.Body)
theorem A0.rns_map:∀ l,A0.rns σ l=l.map (A0.rn σ)
 | []=>rfl
 | x::r=>by rw [A0.rns,A0.rns_map r]; rfl
theorem F0.rns_map:∀ l,F0.rns σ l=l.map (F0.rn σ)
 | []=>rfl
 | x::r=>by rw [F0.rns,F0.rns_map r]; rfl
theorem C0.rns_map:∀ l,C0.rns σ l=l.map (C0.rn σ)
 | []=>rfl
 | x::r=>by rw [C0.rns,C0.rns_map r]; rfl
theorem D0.rns_map:∀ l,D0.rns σ l=l.map (D0.rn σ)
 | []=>rfl
 | x::r=>by rw [D0.rns,D0.rns_map r]; rfl
theorem A0.rns_len (l:List A0):(A0.rns σ l).length=l.length:=by rw [A0.rns_map,List.length_map]
theorem F0.rns_len (l:List F0):(F0.rns σ l).length=l.length:=by rw [F0.rns_map,List.length_map]
theorem C0.rns_len (l:List C0):(C0.rns σ l).length=l.length:=by rw [C0.rns_map,List.length_map]
theorem D0.rns_len (l:List D0):(D0.rns σ l).length=l.length:=by rw [D0.rns_map,List.length_map]
mutual
theorem A0.nodes_rn:∀ e:A0,(e.rn σ).nodes=e.nodes
 | .mk o n s ks=>by simp only [A0.rn,A0.nodes]; rw [A0.nodess_rn ks]
theorem A0.nodess_rn:∀ l:List A0,A0.nodess (A0.rns σ l)=A0.nodess l
 | []=>rfl
 | x::r=>by simp only [A0.rns,A0.nodess]; rw [A0.nodes_rn x,A0.nodess_rn r]
end
mutual
theorem A0.depth_rn:∀ e:A0,(e.rn σ).depth=e.depth
 | .mk o n s ks=>by simp only [A0.rn,A0.depth]; rw [A0.depths_rn ks]
theorem A0.depths_rn:∀ l:List A0,A0.depths (A0.rns σ l)=A0.depths l
 | []=>rfl
 | x::r=>by simp only [A0.rns,A0.depths]; rw [A0.depth_rn x,A0.depths_rn r]
end
mutual
theorem A0.all_rn {q:A0→Bool}(h:∀ e,q (e.rn σ)=q e):∀ e:A0,(e.rn σ).all q=e.all q
 | .mk o n s ks=>by
  have:=h (.mk o n s ks)
  simp only [A0.rn,A0.all] at this ⊢
  rw [this,A0.alls_rn h ks]
theorem A0.alls_rn {q:A0→Bool}(h:∀ e,q (e.rn σ)=q e):∀ l:List A0,A0.alls q (A0.rns σ l)=A0.alls q l
 | []=>rfl
 | x::r=>by simp only [A0.rns,A0.alls]; rw [A0.all_rn h x,A0.alls_rn h r]
end
mutual
theorem A0.place_rn:∀ e:A0,(e.rn σ).place=e.place
 | .mk o n s ks=>by simp only [A0.rn,A0.place]; rw [A0.place1_rn ks]
theorem A0.place1_rn:∀ l:List A0,A0.place1 (A0.rns σ l)=A0.place1 l
 | []=>rfl
 | x::r=>by simp only [A0.rns,A0.place1]; exact A0.place_rn x
end
theorem C1k (e:A0):B5 (e.rn σ)=B5 e:=by
 have hp:=A0.place_rn (σ:=σ) e
 obtain ⟨o,n,s,ks⟩:=e
 simp only [A0.rn] at hp ⊢
 unfold B5 ef1 ef2 ef3 ef4
 rw [hp]
 simp only [A0.rns_len]
 cases o == 3 with
 | false=>rfl
 | true=>simp only [cond_true]; cases (σ s == []) <;> cases (s == []) <;> rfl
theorem N1c (hσ:Rn σ)(e:A0):A6 (e.rn σ)=A6 e:=by
 obtain ⟨o,n,s,ks⟩:=e
 simp only [A0.rn]
 unfold A6
 simp only
 cases o == 3 with
 | false=>rfl
 | true=>exact hσ.nm s
theorem O1c (e:A0):B6 (e.rn σ)=B6 e:=by
 obtain ⟨o,n,s,ks⟩:=e
 rfl
theorem P1c (e:A0):Fi (e.rn σ)=Fi e:=by
 by_cases h:Fi e=true
 ·rw [J1c h]; rfl
 ·by_cases h':Fi (e.rn σ)=true
  ·have:=J1c h'
   obtain ⟨o,n,s,ks⟩:=e
   simp only [A0.rn,A0.mk.injEq] at this
   obtain ⟨h1,h2,h3,h4⟩:=this
   subst h1
   cases ks with
   | nil=>subst h2; change s=[] at h3; subst h3; exact absurd rfl h
   | cons x r=>cases h4
  ·rw [Bool.not_eq_true] at h h'
   rw [h,h']
theorem U1n (e:A0)(u:Bool):oN (e.rn σ) u=oN e u:=by unfold oN; rw [P1c,A0.nodes_rn]
theorem V1n (e:A0)(u:Bool):oD (e.rn σ) u=oD e u:=by unfold oD; rw [P1c,A0.depth_rn]
theorem Q1s (e:A0)(u:Bool):oF (e.rn σ) u=oF e u:=by unfold oF; rw [P1c,A0.all_rn C1k]
mutual
theorem F0.nodes_rn:∀ e:F0,(e.rn σ).nodes=e.nodes
 | .mk k l h s n ns of=>by simp only [F0.rn,F0.nodes]; rw [F0.nodess_rn of]
theorem F0.nodess_rn:∀ l:List F0,F0.nodess (F0.rns σ l)=F0.nodess l
 | []=>rfl
 | x::r=>by simp only [F0.rns,F0.nodess]; rw [F0.nodes_rn x,F0.nodess_rn r]
end
mutual
theorem F0.depth_rn:∀ e:F0,(e.rn σ).depth=e.depth
 | .mk k l h s n ns of=>by simp only [F0.rn,F0.depth]; rw [F0.depths_rn of]
theorem F0.depths_rn:∀ l:List F0,F0.depths (F0.rns σ l)=F0.depths l
 | []=>rfl
 | x::r=>by simp only [F0.rns,F0.depths]; rw [F0.depth_rn x,F0.depths_rn r]
end
mutual
theorem F0.all_rn {q:F0→Bool}(h:∀ e,q (e.rn σ)=q e):∀ e:F0,(e.rn σ).all q=e.all q
 | .mk k l h' s n ns of=>by
  have:=h (.mk k l h' s n ns of)
  simp only [F0.rn,F0.all] at this ⊢
  rw [this,F0.alls_rn h of]
theorem F0.alls_rn {q:F0→Bool}(h:∀ e,q (e.rn σ)=q e):∀ l:List F0,F0.alls q (F0.rns σ l)=F0.alls q l
 | []=>rfl
 | x::r=>by simp only [F0.rns,F0.alls]; rw [F0.all_rn h x,F0.alls_rn h r]
end
theorem E1s (t:F0):Ua (t.rn σ)=Ua t:=by
 obtain ⟨k,l,h,s,n,ns,of⟩:=t
 simp only [F0.rn]
 unfold Ua fm1 fm2 fm3 fm4 fm5 fm6
 simp only [F0.rns_len]
 cases k == 4 <;> rfl
theorem Q1t (t:F0):Kp (t.rn σ)=Kp t:=by
 obtain ⟨k,l,h,s,n,ns,of⟩:=t
 simp only [F0.rn]
 unfold Kp nm1 nm2
 simp only [F0.rns_len]
theorem F1s (hσ:Rn σ)(t:F0):Tk (t.rn σ)=Tk t:=by
 obtain ⟨k,l,h,s,n,ns,of⟩:=t
 simp only [F0.rn]
 unfold Tk na1
 simp only
 cases k == 4 with
 | false=>rfl
 | true=>simp only [cond_true,hσ.nm]
theorem D1k (t:F0):Vo (t.rn σ)=Vo t:=by
 obtain ⟨k,l,h,s,n,ns,of⟩:=t
 simp only [F0.rn]
 unfold Vo
 simp only [F0.same]
 by_cases hk:k=0
 ·subst hk
  cases of <;> rfl
 ·rw [beq_eq_false_iff_ne.2 hk]
  simp only [Bool.false_and]
theorem F1v (t:F0)(u:Bool):tN (t.rn σ) u=tN t u:=by unfold tN; rw [D1k,F0.nodes_rn]
theorem G1v (t:F0)(u:Bool):tD (t.rn σ) u=tD t u:=by unfold tD; rw [D1k,F0.depth_rn]
mutual
theorem C0.nds_rn:∀ x:C0,(x.rn σ).nds=x.nds
 | .mk v pl va nm ar n lo hi ns th el=>by simp only [C0.rn,C0.nds]; rw [U1n,U1n,A0.nodess_rn,C0.ndss_rn th,C0.ndss_rn el]
theorem C0.ndss_rn:∀ l:List C0,C0.ndss (C0.rns σ l)=C0.ndss l
 | []=>rfl
 | x::r=>by simp only [C0.rns,C0.ndss]; rw [C0.nds_rn x,C0.ndss_rn r]
end
mutual
theorem C0.dps_rn:∀ (x:C0) (d:Nat),(x.rn σ).dps d=x.dps d
 | .mk v pl va nm ar n lo hi ns th el,d=>by simp only [C0.rn,C0.dps]; rw [V1n,V1n,A0.depths_rn,C0.dpss_rn th,C0.dpss_rn el]
theorem C0.dpss_rn:∀ (l:List C0) (d:Nat),C0.dpss (C0.rns σ l) d=C0.dpss l d
 | [],d=>rfl
 | x::r,d=>by simp only [C0.rns,C0.dpss]; rw [C0.dps_rn x,C0.dpss_rn r]
end
mutual
theorem C0.all_rn {q:C0→Bool}(h:∀ e,q (e.rn σ)=q e):∀ e:C0,(e.rn σ).all q=e.all q
 | .mk v pl va nm ar n lo hi ns th el=>by
  have:=h (.mk v pl va nm ar n lo hi ns th el)
  simp only [C0.rn,C0.all] at this ⊢
  rw [this,C0.alls_rn h th,C0.alls_rn h el]
theorem C0.alls_rn {q:C0→Bool}(h:∀ e,q (e.rn σ)=q e):∀ l:List C0,C0.alls q (C0.rns σ l)=C0.alls q l
 | []=>rfl
 | x::r=>by simp only [C0.rns,C0.alls]; rw [C0.all_rn h x,C0.alls_rn h r]
end
theorem G1q (x:C0):Hn (x.rn σ)=Hn x:=by
 obtain ⟨v,pl,va,nm,ar,n,lo,hi,ns,th,el⟩:=x
 simp only [C0.rn]
 unfold Hn
 rfl
theorem E1k (x:C0):T8 (x.rn σ)=T8 x:=by
 obtain ⟨v,pl,va,nm,ar,n,lo,hi,ns,th,el⟩:=x
 simp only [C0.rn]
 unfold T8
 simp only [Q1s,A0.place_rn,A0.rns_len,C0.rns_len,A0.alls_rn C1k]
 cases uNm v <;> rfl
theorem F1k (hσ:Rn σ)(x:C0):Xb (x.rn σ)=Xb x:=by
 obtain ⟨v,pl,va,nm,ar,n,lo,hi,ns,th,el⟩:=x
 simp only [C0.rn]
 unfold Xb
 simp only [A0.all_rn (N1c hσ),A0.alls_rn (N1c hσ)]
 cases uNm v with
 | false=>rfl
 | true=>simp only [cond_true,hσ.nm]
theorem G1k (x:C0):Wa (x.rn σ)=Wa x:=by
 have h:=G1q (σ:=σ) x
 obtain ⟨v,pl,va,nm,ar,n,lo,hi,ns,th,el⟩:=x
 simp only [C0.rn] at h ⊢
 unfold Wa
 rw [h]
 simp only [A0.all_rn O1c,A0.alls_rn O1c]
mutual
theorem D0.nds_rn:∀ x:D0,(x.rn σ).nds=x.nds
 | .mk k nm t i v ps vs bd=>by simp only [D0.rn,D0.nds]; rw [F1v,U1n,D0.ndss_rn ps,D0.ndss_rn vs,C0.ndss_rn]
theorem D0.ndss_rn:∀ l:List D0,D0.ndss (D0.rns σ l)=D0.ndss l
 | []=>rfl
 | x::r=>by simp only [D0.rns,D0.ndss]; rw [D0.nds_rn x,D0.ndss_rn r]
end
mutual
theorem D0.dps_rn:∀ x:D0,(x.rn σ).dps=x.dps
 | .mk k nm t i v ps vs bd=>by simp only [D0.rn,D0.dps]; rw [G1v,V1n,D0.dpss_rn ps,D0.dpss_rn vs,C0.dpss_rn]
theorem D0.dpss_rn:∀ l:List D0,D0.dpss (D0.rns σ l)=D0.dpss l
 | []=>rfl
 | x::r=>by simp only [D0.rns,D0.dpss]; rw [D0.dps_rn x,D0.dpss_rn r]
end
mutual
theorem D0.all_rn {q:D0→Bool}(h:∀ e,q (e.rn σ)=q e):∀ e:D0,(e.rn σ).all q=e.all q
 | .mk k nm t i v ps vs bd=>by
  have:=h (.mk k nm t i v ps vs bd)
  simp only [D0.rn,D0.all] at this ⊢
  rw [this,D0.alls_rn h ps,D0.alls_rn h vs]
theorem D0.alls_rn {q:D0→Bool}(h:∀ e,q (e.rn σ)=q e):∀ l:List D0,D0.alls q (D0.rns σ l)=D0.alls q l
 | []=>rfl
 | x::r=>by simp only [D0.rns,D0.alls]; rw [D0.all_rn h x,D0.alls_rn h r]
end
theorem I16 {q:D0→Bool}(h:∀ e,q (e.rn σ)=q e):∀ l:List D0,(D0.rns σ l).all q=l.all q
 | []=>rfl
 | x::r=>by rw [D0.rns,List.all_cons,List.all_cons,h,I16 h r]
theorem N1u (x:D0):pOk (x.rn σ)=pOk x:=by cases x; rfl
theorem O1u (x:D0):vOk (x.rn σ)=vOk x:=by cases x; rfl
theorem R1t (t:F0):(t.rn σ).Kind=t.Kind:=by cases t; rfl
theorem G1s (d:D0):V7 (d.rn σ)=V7 d:=by
 obtain ⟨k,nm,t,i,v,ps,vs,bd⟩:=d
 simp only [D0.rn]
 unfold V7 Vx
 simp only [F0.all_rn E1s,Q1s,D0.rns_len,C0.rns_len,I16 N1u,I16 O1u,C0.alls_rn E1k]
theorem H1s (hσ:Rn σ)(d:D0):Zg (d.rn σ)=Zg d:=by
 obtain ⟨k,nm,t,i,v,ps,vs,bd⟩:=d
 simp only [D0.rn]
 unfold Zg
 simp only [F0.all_rn (F1s hσ),hσ.nm,A0.all_rn (N1c hσ),C0.alls_rn (F1k hσ)]
theorem I1s (d:D0):Sj (d.rn σ)=Sj d:=by
 obtain ⟨k,nm,t,i,v,ps,vs,bd⟩:=d
 simp only [D0.rn]
 unfold Sj Is
 simp only [F0.all_rn Q1t,A0.all_rn O1c,C0.alls_rn G1k,R1t]
theorem H1q (hσ:Rn σ)(p:O0):Qh (p.rn σ)=Qh p:=by
 unfold Qh Z19 A1a O0.rn
 simp only [D0.ndss_rn,C0.ndss_rn,D0.dpss_rn,C0.dpss_rn,D0.alls_rn G1s,C0.alls_rn E1k,D0.alls_rn (H1s hσ),C0.alls_rn (F1k hσ),D0.alls_rn I1s,C0.alls_rn G1k]
end Go.Proofs.YtbmlpamppbcdeaaGreatDoor

set_option linter.unusedSimpArgs false
set_option linter.unusedVariables false
namespace Go.Proofs.YtbmlpamppbcdeaaGreatDoor
open Go.Am
theorem rmO {n k:Nat}(h:n≤4 * BB)(hk:k≤300):decide (n * k≤140737488355328)=true:=by
 have:n * k≤4 * BB * 300:=Nat.mul_le_mul h hk
 unfold BB at this
 exact decide_eq_true (by omega)
mutual
def A0.used:A0→List Str
 | .mk o _ s ks=>(bif o == 3 then [s] else [])++A0.useds ks
def A0.useds:List A0→List Str
 | []=>[]
 | x::r=>A0.used x++A0.useds r
end
mutual
def F0.used:F0→List Str
 | .mk k _ _ _ n _ of=>(bif k == 4 then [n] else [])++F0.useds of
def F0.useds:List F0→List Str
 | []=>[]
 | x::r=>F0.used x++F0.useds r
end
mutual
def C0.used:C0→List Str
 | .mk v pl va nm ar _ _ _ _ th el=>(bif uNm v then [nm] else [])++(pl.used++(va.used++(A0.useds ar++(C0.useds th++C0.useds el))))
def C0.useds:List C0→List Str
 | []=>[]
 | x::r=>C0.used x++C0.useds r
end
mutual
def D0.used:D0→List Str
 | .mk _ nm t _ v ps vs bd=>nm::(t.used++(v.used++(D0.useds ps++(D0.useds vs++C0.useds bd))))
def D0.useds:List D0→List Str
 | []=>[]
 | x::r=>D0.used x++D0.useds r
end
theorem A0.used_eq (e:A0):e.used=(bif e.Op == 3 then [e.Name] else [])++A0.useds e.Kids:=by cases e; simp only [A0.used]
theorem F0.used_eq (e:F0):e.used=(bif e.Kind == 4 then [e.Name] else [])++F0.useds e.Of:=by cases e; simp only [F0.used]
theorem C0.used_eq (s:C0):s.used=(bif uNm s.Verb then [s.Name] else [])++(s.Place.used++(s.Value.used++(A0.useds s.Args++(C0.useds s.Then++C0.useds s.Else)))):=by cases s; simp only [C0.used]
theorem D0.used_eq (d:D0):d.used=d.Name::(d.TypeV.used++(d.Value.used++(D0.useds d.Params++(D0.useds d.Vars++C0.useds d.Body)))):=by cases d; simp only [D0.used]
mutual
theorem A0.used_len:∀ e:A0,e.used.length+1≤e.bulk
 | .mk o n s ks=>by
  have:=A0.useds_len ks
  simp only [A0.used,A0.bulk,List.length_append]
  cases o == 3 <;> simp <;> omega
theorem A0.useds_len:∀ l:List A0,(A0.useds l).length≤A0.bulks l
 | []=>Nat.le_refl _
 | x::r=>by
  have:=A0.used_len x
  have:=A0.useds_len r
  simp only [A0.useds,A0.bulks,List.length_append]; omega
end
mutual
theorem F0.used_len:∀ e:F0,e.used.length+1≤e.bulk
 | .mk k l h s n ns of=>by
  have:=F0.useds_len of
  simp only [F0.used,F0.bulk,List.length_append]
  cases k == 4 <;> simp <;> omega
theorem F0.useds_len:∀ l:List F0,(F0.useds l).length≤F0.bulks l
 | []=>Nat.le_refl _
 | x::r=>by
  have:=F0.used_len x
  have:=F0.useds_len r
  simp only [F0.useds,F0.bulks,List.length_append]; omega
end
mutual
theorem C0.used_len:∀ e:C0,e.used.length+1≤e.bulk
 | .mk v pl va nm ar n lo hi ns th el=>by
  have h1:=C0.useds_len th
  have h2:=C0.useds_len el
  have h3:=A0.used_len pl
  have h4:=A0.used_len va
  have h5:=A0.useds_len ar
  simp only [C0.used,C0.bulk,List.length_append]
  cases uNm v <;> simp <;> omega
theorem C0.useds_len:∀ l:List C0,(C0.useds l).length≤C0.bulks l
 | []=>Nat.le_refl _
 | x::r=>by
  have:=C0.used_len x
  have:=C0.useds_len r
  simp only [C0.useds,C0.bulks,List.length_append]; omega
end
mutual
theorem D0.used_len:∀ e:D0,e.used.length+1≤e.bulk
 | .mk k nm t i v ps vs bd=>by
  have h1:=D0.useds_len ps
  have h2:=D0.useds_len vs
  have h3:=F0.used_len t
  have h4:=A0.used_len v
  have h5:=C0.useds_len bd
  simp only [D0.used,D0.bulk,List.length_append,List.length_cons]
  omega
theorem D0.useds_len:∀ l:List D0,(D0.useds l).length≤D0.bulks l
 | []=>Nat.le_refl _
 | x::r=>by
  have:=D0.used_len x
  have:=D0.useds_len r
  simp only [D0.useds,D0.bulks,List.length_append]; omega
end
theorem K1e (e:A0):OkE e→A8 e=some e.used:=by
 induction e using A0.ind with
 | h e ih=>
 intro ho
 have hb:A0.bulks e.Kids≤BB:=by
  have:=A0.bulk_eq e
  unfold OkE at ho; omega
 have main:∀ (r:List A0) (k:Nat) (out:List Str),e.Kids.drop k=r→out.length+A0.bulks r≤2 * BB→Ze e out k=some (out++A0.useds r):=by
  intro r
  induction r with
  | nil=>intro k out h _; rw [Ze,(Z0 h).1]; simp [A0.useds]
  | cons x r ihr=>
   intro k out h hl
   obtain ⟨e1,e2,e3,e4,e5⟩:=P1 h
   have hx:=A0.used_len x
   have hk:=ho.kids
   simp only [A0.bulks] at hl
   rw [Ze,e1,if_pos rfl,e2,ob,ih x e5 (ho.kid e5),ob,rmO (by omega) (by decide),if_pos rfl,w1 (by omega),ihr (k+1) _ e3 (by rw [List.length_append]; omega)]
   simp only [A0.useds,List.append_assoc]
 rw [A8,A0.used_eq]
 cases e.Op == 3 with
 | true=>
  rw [if_pos rfl,rmO (n:=0+1) (by unfold BB; omega) (by decide),if_pos rfl,Ni]
  exact main e.Kids 0 _ rfl (by simp; unfold BB at *; omega)
 | false=>
  rw [if_neg (by simp),Ni]
  exact main e.Kids 0 _ rfl (by simp; omega)
theorem P1u (e:F0):Ok e→Ig e=some e.used:=by
 induction e using F0.ind with
 | h e ih=>
 intro ho
 have hb:F0.bulks e.Of≤BB:=by
  have:=F0.bulk_eq e
  unfold Ok at ho; omega
 have main:∀ (r:List F0) (k:Nat) (out:List Str),e.Of.drop k=r→out.length+F0.bulks r≤2 * BB→Ye e out k=some (out++F0.useds r):=by
  intro r
  induction r with
  | nil=>intro k out h _; rw [Ye,(Z0 h).1]; simp [F0.useds]
  | cons x r ihr=>
   intro k out h hl
   obtain ⟨e1,e2,e3,e4,e5⟩:=P1 h
   have hx:=F0.used_len x
   have hk:=ho.ofs
   simp only [F0.bulks] at hl
   rw [Ye,e1,if_pos rfl,e2,ob,ih x e5 (ho.kid e5),ob,rmO (by omega) (by decide),if_pos rfl,w1 (by omega),ihr (k+1) _ e3 (by rw [List.length_append]; omega)]
   simp only [F0.useds,List.append_assoc]
 rw [Ig,F0.used_eq]
 cases e.Kind == 4 with
 | true=>
  rw [if_pos rfl,rmO (n:=0+1) (by unfold BB; omega) (by decide),if_pos rfl,Mi]
  exact main e.Of 0 _ rfl (by simp; unfold BB at *; omega)
 | false=>
  rw [if_neg (by simp),Mi]
  exact main e.Of 0 _ rfl (by simp; omega)
theorem I1q (l:List C0):OkS l→T6 l=some (C0.useds l):=by
 refine C0.inds (Q:=fun l=>OkS l→T6 l=some (C0.useds l)) (fun l ih ho=>?_) l
 have hl:=ho.len
 have main:∀ (r:List C0) (k:Nat) (out:List Str),l.drop k=r→out.length+C0.bulks r≤2 * BB→Zc l out k=some (out++C0.useds r):=by
  intro r
  induction r with
  | nil=>intro k out h _; rw [Zc,(Z0 h).1]; simp [C0.useds]
  | cons x r ihr=>
   intro k out h hl2
   obtain ⟨e1,e2,e3,e4,e5⟩:=P1 h
   have o1:=ho.mem e5
   simp only [C0.bulks] at hl2
   have b0:=C0.bulk_eq x
   have b1:=A0.used_len x.Place
   have b2:=A0.used_len x.Value
   have b3:=C0.useds_len x.Then
   have b4:=C0.useds_len x.Else
   have l3:∀ (q:List A0) (j:Nat) (out:List Str),x.Args.drop j=q→out.length+A0.bulks q+C0.bulks x.Then+C0.bulks x.Else+C0.bulks r≤2 * BB→Ad l x out k j=some (out++(A0.useds q++(C0.useds x.Then++(C0.useds x.Else++C0.useds r)))):=by
    intro q
    induction q with
    | nil=>
     intro j out h hq
     simp only [A0.bulks] at hq
     rw [Ad,(Z0 h).1,if_neg (by simp),(ih x e5).1 o1.thens,ob,rmO (by omega) (by decide),if_pos rfl,(ih x e5).2 o1.elses,ob,rmO (by rw [List.length_append]; omega) (by decide),if_pos rfl,w1 (by omega),ihr (k+1) _ e3 (by rw [List.length_append,List.length_append]; omega)]
     simp only [A0.useds,List.nil_append,List.append_assoc]
    | cons y q ihq=>
     intro j out h hq
     obtain ⟨f1,f2,f3,f4,f5⟩:=P1 h
     have hy:=A0.used_len y
     have hk:=o1.args
     simp only [A0.bulks] at hq
     rw [Ad,f1,if_pos rfl,f2,ob,K1e y (o1.arg y f5),ob,rmO (by omega) (by decide),if_pos rfl,w1 (by omega),ihq (j+1) _ f3 (by rw [List.length_append]; omega)]
     simp only [A0.useds,List.append_assoc]
   have j2:∀ out:List Str,out.length+(x.bulk - 1)+C0.bulks r≤2 * BB→Lh l x out k=some (out++(x.Place.used++(x.Value.used++(A0.useds x.Args++(C0.useds x.Then++(C0.useds x.Else++C0.useds r)))))):=fun out hq=>by
    rw [Lh,K1e _ o1.place,ob,rmO (by omega) (by decide),if_pos rfl,K1e _ o1.value,ob,rmO (by rw [List.length_append]; omega) (by decide),if_pos rfl]
    have:=l3 x.Args 0 ((out++x.Place.used)++x.Value.used) rfl (by rw [List.length_append,List.length_append]; omega)
    rw [show ((0:Nat):Int)=0 from rfl] at this
    rw [this]
    simp only [List.append_assoc]
   rw [Zc,e1,if_pos rfl,e2,ob,rUN,ob]
   simp only [C0.useds]
   rw [C0.used_eq]
   cases uNm x.Verb with
   | true=>
    rw [if_pos rfl,rmO (by omega) (by decide),if_pos rfl,j2 _ (by rw [List.length_append]; simp; omega)]
    simp only [cond_true,List.append_assoc]
   | false=>
    rw [if_neg (by simp),j2 _ (by omega)]
    simp only [cond_false,List.nil_append,List.append_assoc]
 rw [T6]
 have h0:C0.bulks l≤BB:=ho
 exact main l 0 [] rfl (by simp; omega)
theorem Q1u (l:List D0):OkD l→Ra l=some (D0.useds l):=by
 induction l using D0.inds with
 | h l ih=>
 intro ho
 have hl:=ho.len
 have main:∀ (r:List D0) (k:Nat) (out:List Str),l.drop k=r→out.length+D0.bulks r≤2 * BB→Cd l out k=some (out++D0.useds r):=by
  intro r
  induction r with
  | nil=>intro k out h _; rw [Cd,(Z0 h).1]; simp [D0.useds]
  | cons x r ihr=>
   intro k out h hl2
   obtain ⟨e1,e2,e3,e4,e5⟩:=P1 h
   have o1:=ho.mem e5
   obtain ⟨i1,i2⟩:=ih x e5
   simp only [D0.bulks] at hl2
   have b0:=D0.bulk_eq x
   have b1:=F0.used_len x.TypeV
   have b2:=A0.used_len x.Value
   have b3:=D0.useds_len x.Params
   have b4:=D0.useds_len x.Vars
   have b5:=C0.useds_len x.Body
   have g:∀ {n:Nat},n≤2 * BB→decide (n * 17≤140737488355328)=true:=fun h=>rmO (by omega) (by decide)
   rw [Cd,e1,if_pos rfl,e2,ob,g (by omega),if_pos rfl,P1u _ o1.type,ob,g (by simp only [List.length_append,List.length_cons,List.length_nil]; omega),if_pos rfl,
    K1e _ o1.value,ob,g (by simp only [List.length_append,List.length_cons,List.length_nil]; omega),if_pos rfl,i1 o1.params,ob,g (by simp only [List.length_append,List.length_cons,List.length_nil]; omega),if_pos rfl,
    i2 o1.vars,ob,g (by simp only [List.length_append,List.length_cons,List.length_nil]; omega),if_pos rfl,I1q _ o1.body,ob,g (by simp only [List.length_append,List.length_cons,List.length_nil]; omega),if_pos rfl,
    w1 (by omega),ihr (k+1) _ e3 (by simp only [List.length_append,List.length_cons,List.length_nil]; omega)]
   simp only [D0.useds,D0.used_eq,List.append_assoc,List.cons_append,List.nil_append]
 rw [Ra]
 have h0:D0.bulks l≤BB:=ho
 exact main l 0 [] rfl (by simp; omega)
theorem H1k:∀ a b:Str,Op.bytesLess a b=true ↔ a < b
 | [],[]=>by simp [Op.bytesLess]
 | a::x,[]=>by simp [Op.bytesLess]
 | [],b::y=>by simp [Op.bytesLess]
 | a::x,b::y=>by
  rw [Op.bytesLess,List.cons_lt_cons_iff,← H1k x y]
  simp
def Asc (l:List Str):Prop:=l.Pairwise (· < ·)
theorem Q1c {l out:List Str}(hl:l.length≤BB)(ho:out.length≤2 * BB):∀ (r:List Str) (k:Nat) (m:Str),l.drop k=r→m∈l→(∀ x∈l.take k,¬ x < m)→∃ m'∈l,(∀ x∈l,¬ x < m')∧Jg l out m k=Dd l (out++[m']) m' [] 0
 | [],k,m,h,hm,hq=>by
  refine ⟨m,hm,?_,?_⟩
  ·rw [List.take_of_length_le (Z0 h).2] at hq; exact hq
  ·rw [Jg,(Z0 h).1,if_neg (by simp),rmO (by unfold BB at *; omega) (by decide),if_pos rfl]
 | x::r,k,m,h,hm,hq=>by
  obtain ⟨e1,e2,e3,e4,e5⟩:=P1 h
  have htk:l.take (k+1)=l.take k++[x]:=by
   rw [List.take_add_one]
   have:l[k]?=some x:=by rw [← List.head?_drop,h]; rfl
   rw [this]; rfl
  rw [Jg,e1,if_pos rfl,e2,ob,ob,w1 (by omega)]
  cases hb:Op.bytesLess x m with
  | true=>
   refine Q1c hl ho r (k+1) x e3 e5 fun y hy=>?_
   rw [htk,List.mem_append,List.mem_singleton] at hy
   rcases hy with hy | rfl
   ·exact fun h=>hq y hy (List.lt_trans h ((H1k _ _).1 hb))
   ·exact List.lt_irrefl _
  | false=>
   refine Q1c hl ho r (k+1) m e3 hm fun y hy=>?_
   rw [htk,List.mem_append,List.mem_singleton] at hy
   rcases hy with hy | rfl
   ·exact hq y hy
   ·exact fun h=>by rw [(H1k _ _).2 h] at hb; cases hb
theorem R1c {l out:List Str}(hl:l.length≤BB){m:Str}:∀ (r:List Str) (k:Nat) (rest:List Str),l.drop k=r→rest.length+r.length≤2 * BB→Dd l out m rest k=X9 (rest++r.filter fun x=>!(x == m)) out
 | [],k,rest,h,_=>by
  rw [Dd,(Z0 h).1,if_neg (by simp),List.filter_nil,List.append_nil]
 | x::r,k,rest,h,hq=>by
  obtain ⟨e1,e2,e3,e4,e5⟩:=P1 h
  simp only [List.length_cons] at hq
  rw [Dd,e1,if_pos rfl,e2,ob,ob,w1 (by omega),List.filter_cons]
  cases !(x == m) with
  | true=>
   rw [if_pos rfl,rmO (by omega) (by decide),if_pos rfl,if_pos rfl,R1c hl r (k+1) _ e3 (by rw [List.length_append]; simp; omega),List.append_assoc]
   rfl
  | false=>rw [if_neg (by simp),if_neg (by simp),R1c hl r (k+1) _ e3 (by omega)]
theorem I1k:∀ (n:Nat) (left out:List Str),left.length≤n→n≤BB→out.length+n≤2 * BB→Asc out→(∀ a∈out,∀ b∈left,a < b)→∃ o,X9 left out=some (o,0)∧o.length≤out.length+left.length∧Asc o∧∀ nm,nm∈o ↔ nm∈out∨nm∈left
 | n,[],out,h,hn,ho,ha,_=>by
  refine ⟨out,?_,by simp,ha,fun nm=>by simp⟩
  rw [X9]
  rfl
 | 0,x::r,out,h,hn,ho,_,_=>by simp at h
 | n+1,x::r,out,h,hn,ho,ha,hab=>by
  obtain ⟨m,m1,m0,m2⟩:=Q1c (l:=x::r) (out:=out) (by omega) (by omega) (x::r) 0 x rfl List.mem_cons_self (fun y hy=>by simp at hy)
  have h3:=R1c (l:=x::r) (out:=out++[m]) (m:=m) (by omega) (x::r) 0 [] rfl (by simp only [List.length_nil]; omega)
  rw [List.nil_append] at h3
  have hlt:((x::r).filter fun y=>!(y == m)).length < (x::r).length:=by
   rw [List.length_filter_lt_length_iff_exists]
   exact ⟨m,m1,by simp⟩
  have hgt:∀ b∈(x::r).filter (fun y=>!(y == m)),m < b:=fun b hb=>by
   obtain ⟨q1,q2⟩:=List.mem_filter.1 hb
   have:=m0 b q1
   rcases List.le_total m b with h' | h'
   ·rcases Classical.em (m < b) with h2 | h2
    ·exact h2
    ·have:b=m:=List.le_antisymm h2 h'
     subst this
     simp at q2
   ·exact absurd (show ¬ b < m from this) (by
     intro _
     have:b=m:=List.le_antisymm h' this
     subst this
     simp at q2)
  obtain ⟨o,o1,o2,o4,o3⟩:=I1k n ((x::r).filter fun y=>!(y == m)) (out++[m]) (by omega) (by omega) (by rw [List.length_append]; simp; omega)
   (List.pairwise_append.2 ⟨ha,List.pairwise_singleton _ _,fun a ha b hb=>by rw [List.mem_singleton] at hb; subst hb; exact hab a ha _ m1⟩)
   (fun a ha b hb=>by
    rw [List.mem_append,List.mem_singleton] at ha
    rcases ha with ha | rfl
    ·exact hab a ha b (List.mem_filter.1 hb).1
    ·exact hgt b hb)
  refine ⟨o,?_,by rw [List.length_append] at o2; simp only [List.length_cons,List.length_nil] at o2 hlt ⊢; omega,o4,fun nm=>?_⟩
  ·rw [X9,decide_eq_true (show (((x::r).length:Nat):Int) > 0 by simp),if_pos rfl,show idx (x::r) 0=some x from rfl,ob]
   rw [show ((0:Nat):Int)=0 from rfl] at m2 h3
   rw [m2,h3,o1]
  ·rw [o3,List.mem_append,List.mem_filter,List.mem_singleton]
   by_cases e:nm=m
   ·subst e; simp [m1]
   ·simp only [e,or_false]
    rw [show (!(nm == m))=true by simpa using e]
    simp
theorem H1v {p:O0}{n:Nat}(h:p.bulk≤n):D0.bulks p.Decls+C0.bulks p.Body≤n:=by
 obtain ⟨ds,b⟩:=p
 simp only [O0.bulk] at h
 simp only
 omega
def Pf (p:O0):List Str:=D0.useds p.Decls++C0.useds p.Body
theorem W1g {p:O0}{n:Nat}(hb:p.bulk≤n):(Pf p).length≤n:=by
 have b1:=D0.useds_len p.Decls
 have b2:=C0.useds_len p.Body
 have h2:=H1v hb
 unfold Pf
 rw [List.length_append]
 omega
theorem S1t (p:O0)(hb:p.bulk≤4200000):∃ o,Zp p=some (bif Qh p != 0 then [] else o,Qh p)∧o.length≤BB∧Asc o∧∀ nm,nm∈o ↔ nm∈Pf p:=by
 have h:=Js hb
 have h2:=W1g hb
 unfold Pf at h2
 obtain ⟨o,o1,o2,o4,o3⟩:=I1k (D0.useds p.Decls++C0.useds p.Body).length (D0.useds p.Decls++C0.useds p.Body) [] (Nat.le_refl _) (by unfold BB; omega) (by simp only [List.length_nil]; unfold BB; omega) List.Pairwise.nil (fun a ha=>by cases ha)
 refine ⟨o,?_,by simp only [List.length_nil] at o2; unfold BB; omega,o4,fun nm=>(o3 nm).trans (by simp [Pf])⟩
 unfold Zp
 rw [D1q p h,ob]
 cases hc:Qh p != 0 with
 | true=>rfl
 | false=>
  have h0:Qh p=0:=by simpa using hc
  rw [if_neg (by simp),Q1u _ h.decls,ob,I1q _ h.body,ob,rmO (by rw [List.length_append] at h2; unfold BB; omega) (by decide),if_pos rfl,o1,h0]
  rfl
def swp (f t s:Str):Str:=bif s == f then t else s
theorem R1u {α:Type}(b:Bool)(x y:α):(if b=true then some x else some y)=some (bif b then x else y):=by cases b <;> rfl
theorem N1h (s f t:Str):Mk s f t=some (swp f t s):=by
 unfold Mk swp
 exact R1u _ _ _
theorem A0.rn_eq (σ:Str→Str)(e:A0):e.rn σ = .mk e.Op e.NV (bif e.Op == 3 then σ e.Name else e.Name) (A0.rns σ e.Kids):=by cases e; simp only [A0.rn]
theorem F0.rn_eq (σ:Str→Str)(t:F0):t.rn σ = .mk t.Kind t.Low t.High t.Size (bif t.Kind == 4 then σ t.Name else t.Name) t.Names (F0.rns σ t.Of):=by cases t; simp only [F0.rn]
theorem C0.rn_eq (σ:Str→Str)(s:C0):s.rn σ = .mk s.Verb (s.Place.rn σ) (s.Value.rn σ) (bif uNm s.Verb then σ s.Name else s.Name) (A0.rns σ s.Args) s.NV s.Low s.High s.Numbers (C0.rns σ s.Then) (C0.rns σ s.Else):=by cases s; simp only [C0.rn]
theorem D0.rn_eq (σ:Str→Str)(d:D0):d.rn σ = .mk d.Kind (σ d.Name) (d.TypeV.rn σ) d.Init (d.Value.rn σ) (D0.rns σ d.Params) (D0.rns σ d.Vars) (C0.rns σ d.Body):=by cases d; simp only [D0.rn]
theorem O1h (f t:Str)(e:A0):OkE e→G6 e f t=some (e.rn (swp f t)):=by
 induction e using A0.ind with
 | h e ih=>
 intro ho
 have hk:=ho.kids
 have main:∀ (r:List A0) (k:Nat) (nm:Str) (out:List A0),e.Kids.drop k=r→out.length+r.length≤BB→Db e f t nm out k=some (.mk e.Op e.NV nm (out++A0.rns (swp f t) r)):=by
  intro r
  induction r with
  | nil=>intro k nm out h _; rw [Db,(Z0 h).1]; simp [A0.rns]
  | cons x r ihr=>
   intro k nm out h hl
   obtain ⟨e1,e2,e3,e4,e5⟩:=P1 h
   simp only [List.length_cons] at hl
   rw [Db,e1,if_pos rfl,e2,ob,ih x e5 (ho.kid e5),ob,rmO (by omega) (by decide),if_pos rfl,w1 (by omega),ihr (k+1) nm _ e3 (by rw [List.length_append]; simp; omega)]
   simp only [A0.rns,List.append_assoc,List.cons_append,List.nil_append]
 rw [G6,A0.rn_eq]
 cases e.Op == 3 with
 | true=>
  rw [if_pos rfl,N1h,ob,Yf]
  exact main e.Kids 0 _ [] rfl (by simp; omega)
 | false=>
  rw [if_neg (by simp),Yf]
  exact main e.Kids 0 _ [] rfl (by simp; omega)
theorem I1v (f t:Str)(e:F0):Ok e→Zb e f t=some (e.rn (swp f t)):=by
 induction e using F0.ind with
 | h e ih=>
 intro ho
 have hk:=ho.ofs
 have hn:=ho.names
 have main:∀ (r:List F0) (k:Nat) (nm:Str) (ns:List Str) (out:List F0),e.Of.drop k=r→out.length+r.length≤BB→Cb e f t nm ns out k=some (.mk e.Kind e.Low e.High e.Size nm ns (out++F0.rns (swp f t) r)):=by
  intro r
  induction r with
  | nil=>intro k nm ns out h _; rw [Cb,(Z0 h).1]; simp [F0.rns]
  | cons x r ihr=>
   intro k nm ns out h hl
   obtain ⟨e1,e2,e3,e4,e5⟩:=P1 h
   simp only [List.length_cons] at hl
   rw [Cb,e1,if_pos rfl,e2,ob,ih x e5 (ho.kid e5),ob,rmO (by omega) (by decide),if_pos rfl,w1 (by omega),ihr (k+1) nm ns _ e3 (by rw [List.length_append]; simp; omega)]
   simp only [F0.rns,List.append_assoc,List.cons_append,List.nil_append]
 have names:∀ (r:List Str) (k:Nat) (nm:Str) (out:List Str),e.Names.drop k=r→out.length+r.length≤BB→Ab e f t nm out k=some (.mk e.Kind e.Low e.High e.Size nm (out++r) (F0.rns (swp f t) e.Of)):=by
  intro r
  induction r with
  | nil=>
   intro k nm out h _
   have:=main e.Of 0 nm out [] rfl (by simp; omega)
   rw [show ((0:Nat):Int)=0 from rfl] at this
   rw [Ab,(Z0 h).1,if_neg (by simp),this,List.append_nil]
   rfl
  | cons x r ihr=>
   intro k nm out h hl
   obtain ⟨e1,e2,e3,e4,e5⟩:=P1 h
   simp only [List.length_cons] at hl
   rw [Ab,e1,if_pos rfl,e2,ob,rmO (by omega) (by decide),if_pos rfl,w1 (by omega),ihr (k+1) nm _ e3 (by rw [List.length_append]; simp; omega),List.append_assoc]
   rfl
 rw [Zb,F0.rn_eq]
 cases e.Kind == 4 with
 | true=>
  rw [if_pos rfl,N1h,ob,Xf]
  exact names e.Names 0 _ [] rfl (by simp; omega)
 | false=>
  rw [if_neg (by simp),Xf]
  exact names e.Names 0 _ [] rfl (by simp; omega)
theorem R1s (f t:Str)(l:List C0):OkS l→D5 l f t=some (C0.rns (swp f t) l):=by
 refine C0.inds (Q:=fun l=>OkS l→D5 l f t=some (C0.rns (swp f t) l)) (fun l ih ho=>?_) l
 have hl:=ho.len
 have main:∀ (r:List C0) (k:Nat) (out:List C0),l.drop k=r→out.length+r.length≤BB→Y9 l f t out k=some (out++C0.rns (swp f t) r):=by
  intro r
  induction r with
  | nil=>intro k out h _; rw [Y9,(Z0 h).1]; simp [C0.rns]
  | cons x r ihr=>
   intro k out h hl2
   obtain ⟨e1,e2,e3,e4,e5⟩:=P1 h
   have o1:=ho.mem e5
   have ha:=o1.args
   have hm:=o1.nums
   simp only [List.length_cons] at hl2
   have l4:∀ (q:List Int) (j:Nat) (nm:Str) (ar:List A0) (ns:List Int),x.Numbers.drop j=q→ns.length+q.length≤BB→
     Aa l f t x (x.Place.rn (swp f t)) (x.Value.rn (swp f t)) nm ar ns (C0.rns (swp f t) x.Then) (C0.rns (swp f t) x.Else) out k j=some (out++(.mk x.Verb (x.Place.rn (swp f t)) (x.Value.rn (swp f t)) nm ar x.NV x.Low x.High (ns++q) (C0.rns (swp f t) x.Then) (C0.rns (swp f t) x.Else)::C0.rns (swp f t) r)):=by
    intro q
    induction q with
    | nil=>
     intro j nm ar ns h _
     rw [Aa,(Z0 h).1,if_neg (by simp),rmO (by omega) (by decide),if_pos rfl,w1 (by omega),ihr (k+1) _ e3 (by rw [List.length_append]; simp; omega),List.append_assoc,List.append_nil]
     rfl
    | cons y q ihq=>
     intro j nm ar ns h hq
     obtain ⟨f1,f2,f3,f4,f5⟩:=P1 h
     simp only [List.length_cons] at hq
     rw [Aa,f1,if_pos rfl,f2,ob,rmO (by omega) (by decide),if_pos rfl,w1 (by omega),ihq (j+1) nm ar _ f3 (by rw [List.length_append]; simp; omega),List.append_assoc]
     rfl
   have l3:∀ (q:List A0) (j:Nat) (nm:Str) (ar:List A0),x.Args.drop j=q→ar.length+q.length≤BB→
     Z9 l f t x (x.Place.rn (swp f t)) (x.Value.rn (swp f t)) nm ar (C0.rns (swp f t) x.Then) (C0.rns (swp f t) x.Else) out k j=some (out++(.mk x.Verb (x.Place.rn (swp f t)) (x.Value.rn (swp f t)) nm (ar++A0.rns (swp f t) q) x.NV x.Low x.High x.Numbers (C0.rns (swp f t) x.Then) (C0.rns (swp f t) x.Else)::C0.rns (swp f t) r)):=by
    intro q
    induction q with
    | nil=>
     intro j nm ar h _
     have:=l4 x.Numbers 0 nm ar [] rfl (by simp; omega)
     rw [show ((0:Nat):Int)=0 from rfl] at this
     rw [Z9,(Z0 h).1,if_neg (by simp),this]
     simp [A0.rns]
    | cons y q ihq=>
     intro j nm ar h hq
     obtain ⟨f1,f2,f3,f4,f5⟩:=P1 h
     simp only [List.length_cons] at hq
     rw [Z9,f1,if_pos rfl,f2,ob,O1h f t y (o1.arg y f5),ob,rmO (by omega) (by decide),if_pos rfl,w1 (by omega),ihq (j+1) nm _ f3 (by rw [List.length_append]; simp; omega),List.append_assoc]
     rfl
   have j2:∀ nm,Sd l f t x (x.Place.rn (swp f t)) (x.Value.rn (swp f t)) nm (C0.rns (swp f t) x.Then) (C0.rns (swp f t) x.Else) out k=some (out++(.mk x.Verb (x.Place.rn (swp f t)) (x.Value.rn (swp f t)) nm (A0.rns (swp f t) x.Args) x.NV x.Low x.High x.Numbers (C0.rns (swp f t) x.Then) (C0.rns (swp f t) x.Else)::C0.rns (swp f t) r)):=fun nm=>by
    rw [Sd]
    exact l3 x.Args 0 nm [] rfl (by simp; omega)
   rw [Y9,e1,if_pos rfl,e2,ob,O1h f t _ o1.place,ob,O1h f t _ o1.value,ob,(ih x e5).1 o1.thens,ob,(ih x e5).2 o1.elses,ob,rUN,ob]
   simp only [C0.rns]
   rw [C0.rn_eq]
   cases uNm x.Verb with
   | true=>rw [if_pos rfl,N1h,ob,j2]; rfl
   | false=>rw [if_neg (by simp),j2]; rfl
 rw [D5]
 exact main l 0 [] rfl (by simp; omega)
theorem J1v (f t:Str)(l:List D0):OkD l→I8 l f t=some (D0.rns (swp f t) l):=by
 induction l using D0.inds with
 | h l ih=>
 intro ho
 have hl:=ho.len
 have main:∀ (r:List D0) (k:Nat) (out:List D0),l.drop k=r→out.length+r.length≤BB→Ca l f t out k=some (out++D0.rns (swp f t) r):=by
  intro r
  induction r with
  | nil=>intro k out h _; rw [Ca,(Z0 h).1]; simp [D0.rns]
  | cons x r ihr=>
   intro k out h hl2
   obtain ⟨e1,e2,e3,e4,e5⟩:=P1 h
   have o1:=ho.mem e5
   obtain ⟨i1,i2⟩:=ih x e5
   simp only [List.length_cons] at hl2
   rw [Ca,e1,if_pos rfl,e2,ob,N1h,ob,I1v f t _ o1.type,ob,O1h f t _ o1.value,ob,i1 o1.params,ob,i2 o1.vars,ob,R1s f t _ o1.body,ob,rmO (by omega) (by decide),if_pos rfl,w1 (by omega),
    ihr (k+1) _ e3 (by rw [List.length_append]; simp; omega),List.append_assoc]
   simp only [D0.rns,D0.rn_eq]
   rfl
 rw [I8]
 exact main l 0 [] rfl (by simp; omega)
def S1c (p:O0)(f t:Str):O0×Int:=
 bif Qh p != 0 then (.mk [] [],Qh p) else bif !(C3 f&&C3 t) then (.mk [] [],7) else bif !(f == t)&&(Pf p).contains t then (.mk [] [],8) else (p.rn (swp f t),0)
theorem T1t (p:O0)(f t:Str)(hb:p.bulk≤4200000)(hf:f.length≤BB)(ht:t.length≤BB):Io p f t=some (S1c p f t):=by
 obtain ⟨o,o1,o2,o4,o3⟩:=S1t p hb
 have h:=Js hb
 unfold Io S1c
 rw [o1,ob]
 cases hc:Qh p != 0 with
 | true=>simp [hc]
 | false=>
  simp only [hc,cond_false,Bool.false_eq_true,if_false]
  rw [Kj f hf,ob]
  cases nf:C3 f with
  | false=>rfl
  | true=>
   rw [show (if (!(!true))=true then T7 t else some default)=some (C3 t) from Kj t ht,ob]
   cases nt:C3 t with
   | false=>rfl
   | true=>
    simp only [Bool.and_self,Bool.not_true,cond_false,cond_true,Bool.false_eq_true,if_false]
    have main:∀ (r:List Str) (k:Nat),o.drop k=r→Ta p f t (o,Qh p) k=some (bif !(f == t)&&r.contains t then (.mk [] [],8) else (p.rn (swp f t),0)):=by
     intro r
     induction r with
     | nil=>
      intro k h'
      rw [Ta,(Z0 h').1,if_neg (by simp),J1v f t _ h.decls,ob,R1s f t _ h.body,ob]
      simp [O0.rn]
     | cons x r ihr=>
      intro k h'
      obtain ⟨e1,e2,e3,e4,e5⟩:=P1 h'
      rw [Ta,e1,if_pos rfl,e2,ob,w1 (by omega),ihr (k+1) e3,List.contains_cons]
      have hbc:(t == x)=(x == t):=by
       by_cases e:x=t
       ·subst e; rfl
       ·rw [beq_eq_false_iff_ne.2 e,beq_eq_false_iff_ne.2 (Ne.symm e)]
      rw [hbc]
      cases x == t <;> cases f == t <;> simp
    have hm:=main o 0 rfl
    rw [show ((0:Nat):Int)=0 from rfl] at hm
    have hcon:o.contains t=(Pf p).contains t:=by
     rw [Bool.eq_iff_iff,List.contains_iff_mem,List.contains_iff_mem]
     exact o3 t
    rw [hm,hcon]
mutual
theorem A0.rn_congr {σ τ:Str→Str}:∀ e:A0,(∀ nm∈e.used,σ nm=τ nm)→e.rn σ=e.rn τ
 | .mk o n s ks=>fun h=>by
  simp only [A0.used,List.mem_append] at h
  simp only [A0.rn]
  rw [A0.rns_congr ks fun nm hn=>h nm (.inr hn)]
  cases ho:o == 3 with
  | false=>rfl
  | true=>rw [cond_true,cond_true,h s (.inl (by rw [ho]; simp))]
theorem A0.rns_congr {σ τ:Str→Str}:∀ l:List A0,(∀ nm∈A0.useds l,σ nm=τ nm)→A0.rns σ l=A0.rns τ l
 | []=>fun _=>rfl
 | x::r=>fun h=>by
  simp only [A0.useds,List.mem_append] at h
  simp only [A0.rns]
  rw [A0.rn_congr x fun nm hn=>h nm (.inl hn),A0.rns_congr r fun nm hn=>h nm (.inr hn)]
end
mutual
theorem F0.rn_congr {σ τ:Str→Str}:∀ e:F0,(∀ nm∈e.used,σ nm=τ nm)→e.rn σ=e.rn τ
 | .mk k l h' s n ns of=>fun h=>by
  simp only [F0.used,List.mem_append] at h
  simp only [F0.rn]
  rw [F0.rns_congr of fun nm hn=>h nm (.inr hn)]
  cases hk:k == 4 with
  | false=>rfl
  | true=>rw [cond_true,cond_true,h n (.inl (by rw [hk]; simp))]
theorem F0.rns_congr {σ τ:Str→Str}:∀ l:List F0,(∀ nm∈F0.useds l,σ nm=τ nm)→F0.rns σ l=F0.rns τ l
 | []=>fun _=>rfl
 | x::r=>fun h=>by
  simp only [F0.useds,List.mem_append] at h
  simp only [F0.rns]
  rw [F0.rn_congr x fun nm hn=>h nm (.inl hn),F0.rns_congr r fun nm hn=>h nm (.inr hn)]
end
mutual
theorem C0.rn_congr {σ τ:Str→Str}:∀ e:C0,(∀ nm∈e.used,σ nm=τ nm)→e.rn σ=e.rn τ
 | .mk v pl va nm ar n lo hi ns th el=>fun h=>by
  simp only [C0.used,List.mem_append] at h
  simp only [C0.rn]
  rw [A0.rn_congr pl fun nm hn=>h nm (.inr (.inl hn)),A0.rn_congr va fun nm hn=>h nm (.inr (.inr (.inl hn))),A0.rns_congr ar fun nm hn=>h nm (.inr (.inr (.inr (.inl hn)))),
   C0.rns_congr th fun nm hn=>h nm (.inr (.inr (.inr (.inr (.inl hn))))),C0.rns_congr el fun nm hn=>h nm (.inr (.inr (.inr (.inr (.inr hn)))))]
  cases hv:uNm v with
  | false=>rfl
  | true=>rw [cond_true,cond_true,h nm (.inl (by rw [hv]; simp))]
theorem C0.rns_congr {σ τ:Str→Str}:∀ l:List C0,(∀ nm∈C0.useds l,σ nm=τ nm)→C0.rns σ l=C0.rns τ l
 | []=>fun _=>rfl
 | x::r=>fun h=>by
  simp only [C0.useds,List.mem_append] at h
  simp only [C0.rns]
  rw [C0.rn_congr x fun nm hn=>h nm (.inl hn),C0.rns_congr r fun nm hn=>h nm (.inr hn)]
end
mutual
theorem D0.rn_congr {σ τ:Str→Str}:∀ e:D0,(∀ nm∈e.used,σ nm=τ nm)→e.rn σ=e.rn τ
 | .mk k nm t i v ps vs bd=>fun h=>by
  simp only [D0.used,List.mem_cons,List.mem_append] at h
  simp only [D0.rn]
  rw [h nm (.inl rfl),F0.rn_congr t fun nm hn=>h nm (.inr (.inl hn)),A0.rn_congr v fun nm hn=>h nm (.inr (.inr (.inl hn))),D0.rns_congr ps fun nm hn=>h nm (.inr (.inr (.inr (.inl hn)))),
   D0.rns_congr vs fun nm hn=>h nm (.inr (.inr (.inr (.inr (.inl hn))))),C0.rns_congr bd fun nm hn=>h nm (.inr (.inr (.inr (.inr (.inr hn)))))]
theorem D0.rns_congr {σ τ:Str→Str}:∀ l:List D0,(∀ nm∈D0.useds l,σ nm=τ nm)→D0.rns σ l=D0.rns τ l
 | []=>fun _=>rfl
 | x::r=>fun h=>by
  simp only [D0.useds,List.mem_append] at h
  simp only [D0.rns]
  rw [D0.rn_congr x fun nm hn=>h nm (.inl hn),D0.rns_congr r fun nm hn=>h nm (.inr hn)]
end
def trs (f t s:Str):Str:=bif s == f then t else bif s == t then f else s
theorem S1u {f t:Str}(hf:C3 f=true)(ht:C3 t=true):Rn (trs f t):=by
 have z:C3 []=false:=rfl
 have nf:([] == f)=false:=beq_eq_false_iff_ne.2 fun e=>by rw [← e,z] at hf; cases hf
 have nt:([] == t)=false:=beq_eq_false_iff_ne.2 fun e=>by rw [← e,z] at ht; cases ht
 refine ⟨fun a=>?_,fun a=>?_,?_⟩
 ·unfold trs
  by_cases h1:a=f
  ·subst h1
   rw [beq_self_eq_true,cond_true]
   by_cases h2:t=a
   ·subst h2; rw [beq_self_eq_true]; rfl
   ·rw [beq_eq_false_iff_ne.2 h2,beq_self_eq_true]; rfl
  ·by_cases h2:a=t
   ·subst h2; rw [beq_eq_false_iff_ne.2 h1,cond_false,beq_self_eq_true,cond_true,beq_self_eq_true]; rfl
   ·have e1:=beq_eq_false_iff_ne.2 h1
    have e2:=beq_eq_false_iff_ne.2 h2
    simp only [e1,e2,cond_false]
 ·unfold trs
  by_cases h1:a=f
  ·subst h1; rw [beq_self_eq_true,cond_true,hf,ht]
  ·rw [beq_eq_false_iff_ne.2 h1,cond_false]
   by_cases h2:a=t
   ·subst h2; rw [beq_self_eq_true,cond_true,hf,ht]
   ·rw [beq_eq_false_iff_ne.2 h2]; rfl
 ·unfold trs
  rw [nf,nt]
  rfl
theorem J1q {p:O0}{f t:Str}(h:t∈D0.useds p.Decls++C0.useds p.Body→f=t):p.rn (swp f t)=p.rn (trs f t):=by
 have key:∀ nm∈D0.useds p.Decls++C0.useds p.Body,swp f t nm=trs f t nm:=fun nm hn=>by
  unfold swp trs
  by_cases h1:nm=f
  ·rw [h1,beq_self_eq_true]; rfl
  ·rw [beq_eq_false_iff_ne.2 h1,cond_false,cond_false]
   by_cases h2:nm=t
   ·rw [h2] at hn h1; exact absurd (h hn).symm h1
   ·rw [beq_eq_false_iff_ne.2 h2]; rfl
 unfold O0.rn
 rw [D0.rns_congr _ fun nm hn=>key nm (List.mem_append.2 (.inl hn)),C0.rns_congr _ fun nm hn=>key nm (List.mem_append.2 (.inr hn))]
def Sh (σ:Str→Str):Prop:=∀ a,(σ a).length≤a.length+12
mutual
theorem A0.bulk_rn {σ:Str→Str}(h:Sh σ):∀ e:A0,(e.rn σ).bulk≤4 * e.bulk
 | .mk o n s ks=>by
  have h1:=A0.bulks_rn h ks
  have h2:=h s
  simp only [A0.rn,A0.bulk]
  cases o == 3 <;> simp only [cond_true,cond_false] <;> omega
theorem A0.bulks_rn {σ:Str→Str}(h:Sh σ):∀ l:List A0,A0.bulks (A0.rns σ l)≤4 * A0.bulks l
 | []=>by simp only [A0.rns,A0.bulks]; omega
 | x::r=>by
  have h1:=A0.bulk_rn h x
  have h2:=A0.bulks_rn h r
  simp only [A0.rns,A0.bulks]; omega
end
mutual
theorem F0.bulk_rn {σ:Str→Str}(h:Sh σ):∀ e:F0,(e.rn σ).bulk≤4 * e.bulk
 | .mk k l h' s n ns of=>by
  have h1:=F0.bulks_rn h of
  have h2:=h n
  simp only [F0.rn,F0.bulk]
  cases k == 4 <;> simp only [cond_true,cond_false] <;> omega
theorem F0.bulks_rn {σ:Str→Str}(h:Sh σ):∀ l:List F0,F0.bulks (F0.rns σ l)≤4 * F0.bulks l
 | []=>by simp only [F0.rns,F0.bulks]; omega
 | x::r=>by
  have h1:=F0.bulk_rn h x
  have h2:=F0.bulks_rn h r
  simp only [F0.rns,F0.bulks]; omega
end
mutual
theorem C0.bulk_rn {σ:Str→Str}(h:Sh σ):∀ e:C0,(e.rn σ).bulk≤4 * e.bulk
 | .mk v pl va nm ar n lo hi ns th el=>by
  have h1:=C0.bulks_rn h th
  have h2:=C0.bulks_rn h el
  have h3:=h nm
  have h4:=A0.bulk_rn h pl
  have h5:=A0.bulk_rn h va
  have h6:=A0.bulks_rn h ar
  simp only [C0.rn,C0.bulk]
  cases uNm v <;> simp only [cond_true,cond_false] <;> omega
theorem C0.bulks_rn {σ:Str→Str}(h:Sh σ):∀ l:List C0,C0.bulks (C0.rns σ l)≤4 * C0.bulks l
 | []=>by simp only [C0.rns,C0.bulks]; omega
 | x::r=>by
  have h1:=C0.bulk_rn h x
  have h2:=C0.bulks_rn h r
  simp only [C0.rns,C0.bulks]; omega
end
mutual
theorem D0.bulk_rn {σ:Str→Str}(h:Sh σ):∀ e:D0,(e.rn σ).bulk≤4 * e.bulk
 | .mk k nm t i v ps vs bd=>by
  have h1:=D0.bulks_rn h ps
  have h2:=D0.bulks_rn h vs
  have h3:=h nm
  have h4:=A0.bulk_rn h v
  have h5:=F0.bulk_rn h t
  have h6:=C0.bulks_rn h bd
  simp only [D0.rn,D0.bulk]
  omega
theorem D0.bulks_rn {σ:Str→Str}(h:Sh σ):∀ l:List D0,D0.bulks (D0.rns σ l)≤4 * D0.bulks l
 | []=>by simp only [D0.rns,D0.bulks]; omega
 | x::r=>by
  have h1:=D0.bulk_rn h x
  have h2:=D0.bulks_rn h r
  simp only [D0.rns,D0.bulks]; omega
end
theorem X1g {s:Str}(h:C3 s=true):s.length≤12:=by
 unfold C3 at h
 by_cases q:(s.length:Int)≤12
 ·omega
 ·rw [decide_eq_false q] at h; cases h
theorem U1t {p:O0}{σ:Str→Str}(h:Sh σ)(hb:p.bulk≤1048576):(p.rn σ).bulk≤4200000:=by
 have h1:=D0.bulks_rn h p.Decls
 have h2:=C0.bulks_rn h p.Body
 obtain ⟨ds,b⟩:=p
 simp only [O0.rn,O0.bulk] at hb h1 h2 ⊢
 omega
end Go.Proofs.YtbmlpamppbcdeaaGreatDoor

set_option linter.unusedSimpArgs false
set_option linter.unusedVariables false
namespace Go.Proofs.YtbmlpamppbcdeaaGreatDoor
open Go.Am
def Id (m:List (Str×Bool))(l:List Str):List (Str×Bool):=l.foldl (fun m s=>mpt s true m) m
theorem Rq (m:List (Str×Bool)):Id m []=m:=rfl
theorem Lj (m:List (Str×Bool))(a b:List Str):Id m (a++b)=Id (Id m a) b:=by simp [Id]
theorem Y1g (m:List (Str×Bool))(a:Str)(b:List Str):Id m (a::b)=Id (mpt a true m) b:=rfl
theorem T1f (m:List (Str×Bool))(b:Bool)(s:Str):Id m (bif b then [s] else [])=bif b then mpt s true m else m:=by cases b <;> rfl
theorem J1k (k:Str):∀ m:List (Str×Bool),(mpt k true m).map Prod.fst=bif (m.map Prod.fst).contains k then m.map Prod.fst else m.map Prod.fst++[k]
 | []=>rfl
 | (k',x)::r=>by
  simp only [mpt,List.map_cons,List.contains_cons]
  by_cases h:k=k'
  ·subst h; simp
  ·rw [beq_eq_false_iff_ne.2 h,cond_false,Bool.false_or,List.map_cons,J1k k r]
   cases (r.map Prod.fst).contains k <;> rfl
theorem Z1g:∀ (l:List Str) (m:List (Str×Bool)),(m.map Prod.fst).Nodup→((Id m l).map Prod.fst).Nodup∧((Id m l).length≤m.length+l.length)∧∀ nm,nm∈(Id m l).map Prod.fst ↔ nm∈m.map Prod.fst∨nm∈l
 | [],m,h=>⟨h,by simp [Rq],fun nm=>by simp [Rq]⟩
 | k::l,m,h=>by
  have hk:=J1k k m
  have hlen:(mpt k true m).length≤m.length+1:=by
   have:=congrArg List.length hk
   rw [List.length_map] at this
   rw [this]
   cases (m.map Prod.fst).contains k <;> simp
  have hmem:∀ nm,nm∈(mpt k true m).map Prod.fst ↔ nm∈m.map Prod.fst∨nm=k:=fun nm=>by
   rw [hk]
   cases hc:(m.map Prod.fst).contains k with
   | true=>
    rw [cond_true]
    refine ⟨.inl,fun h=>h.elim id fun h=>?_⟩
    subst h
    exact List.contains_iff_mem.1 hc
   | false=>rw [cond_false,List.mem_append,List.mem_singleton]
  have hnd:((mpt k true m).map Prod.fst).Nodup:=by
   rw [hk]
   cases hc:(m.map Prod.fst).contains k with
   | true=>exact h
   | false=>
    rw [cond_false,List.nodup_append]
    refine ⟨h,by simp,fun a ha b hb=>?_⟩
    rw [List.mem_singleton] at hb
    subst hb
    intro e
    subst e
    rw [List.contains_iff_mem.2 ha] at hc
    cases hc
  obtain ⟨h1,h2,h3⟩:=Z1g l (mpt k true m) hnd
  rw [Y1g]
  refine ⟨h1,by simp only [List.length_cons]; omega,fun nm=>(h3 nm).trans ?_⟩
  rw [hmem,List.mem_cons,or_assoc]
theorem K1q {m:List (Str×Bool)}(h:(m.map Prod.fst).Nodup):Asc (Wi m)∧∀ nm,nm∈Wi m ↔ nm∈m.map Prod.fst:=by
 have tot:∀ a b:List UInt8,(decide (a≤b)||decide (b≤a))=true:=fun a b=>by
  rcases List.le_total a b with h | h <;> simp [h]
 have tr:∀ a b c:List UInt8,decide (a≤b)=true→decide (b≤c)=true→decide (a≤c)=true:=fun a b c h1 h2=>by
  simp only [decide_eq_true_eq] at *
  exact List.le_trans h1 h2
 have hs:=List.pairwise_mergeSort tr tot (m.map Prod.fst)
 have hp:=List.mergeSort_perm (m.map Prod.fst) (fun x y=>decide (x≤y))
 refine ⟨?_,fun nm=>hp.mem_iff⟩
 have hn:(Wi m).Nodup:=hp.nodup_iff.2 h
 refine (List.Pairwise.and hs hn).imp fun {a b} q=>?_
 have hle:=of_decide_eq_true q.1
 rcases Classical.em (a < b) with h1 | h1
 ·exact h1
 ·exact absurd (List.le_antisymm hle h1) q.2
theorem L1e (e:A0):OkE e→∀ m,A5 e m=some (e,Id m e.used):=by
 induction e using A0.ind with
 | h e ih=>
 intro ho m
 have hk:=ho.kids
 have main:∀ (r:List A0) (k:Nat) (m:List (Str×Bool)) (out:List A0),e.Kids.drop k=r→out.length+r.length≤BB→J3 e.Kids m out k=some (out++r,Id m (A0.useds r)):=by
  intro r
  induction r with
  | nil=>intro k m out h _; rw [J3,(Z0 h).1]; simp [A0.useds,Rq]
  | cons x r ihr=>
   intro k m out h hl
   obtain ⟨e1,e2,e3,e4,e5⟩:=P1 h
   simp only [List.length_cons] at hl
   rw [J3,e1,if_pos rfl,e2,ob,ih x e5 (ho.kid e5),ob,rmO (by omega) (by decide),if_pos rfl,w1 (by omega),ihr (k+1) _ _ e3 (by rw [List.length_append]; simp; omega)]
   simp only [A0.useds,Lj,List.append_assoc,List.singleton_append]
 have j1:∀ m,Mb e m e.Name=some (e,Id m (A0.useds e.Kids)):=fun m=>by
  have hm:=main e.Kids 0 m [] rfl (by simp; omega)
  rw [show ((0:Nat):Int)=0 from rfl] at hm
  rw [Mb,L7,hm,ob,List.nil_append]
  cases e
  rfl
 rw [A5,A0.used_eq,Lj,T1f]
 cases e.Op == 3 with
 | true=>rw [if_pos rfl,Z7,ob,j1]; rfl
 | false=>rw [if_neg (by simp),j1]; rfl
theorem V1t (l:List A0)(hl:l.length≤BB)(ho:∀ x∈l,OkE x)(m:List (Str×Bool)):L7 l m=some (l,Id m (A0.useds l)):=by
 have main:∀ (r:List A0) (k:Nat) (m:List (Str×Bool)) (out:List A0),l.drop k=r→out.length+r.length≤BB→J3 l m out k=some (out++r,Id m (A0.useds r)):=by
  intro r
  induction r with
  | nil=>intro k m out h _; rw [J3,(Z0 h).1]; simp [A0.useds,Rq]
  | cons x r ihr=>
   intro k m out h hl
   obtain ⟨e1,e2,e3,e4,e5⟩:=P1 h
   simp only [List.length_cons] at hl
   rw [J3,e1,if_pos rfl,e2,ob,L1e x (ho x e5),ob,rmO (by omega) (by decide),if_pos rfl,w1 (by omega),ihr (k+1) _ _ e3 (by rw [List.length_append]; simp; omega)]
   simp only [A0.useds,Lj,List.append_assoc,List.singleton_append]
 rw [L7]
 exact main l 0 m [] rfl (by simp; omega)
theorem L1q (l:List Str)(h:l.length≤BB):R7 l=some l:=by
 unfold R7
 rw [rmO (by omega) (by decide),if_pos rfl]
theorem M1q (l:List Int)(h:l.length≤BB):Nd l=some l:=by
 unfold Nd
 rw [rmO (by omega) (by decide),if_pos rfl]
theorem T1u (e:F0):Ok e→∀ m,D9 e m=some (e,Id m e.used):=by
 induction e using F0.ind with
 | h e ih=>
 intro ho m
 have hk:=ho.ofs
 have main:∀ (r:List F0) (k:Nat) (m:List (Str×Bool)) (out:List F0),e.Of.drop k=r→out.length+r.length≤BB→D7 e.Of m out k=some (out++r,Id m (F0.useds r)):=by
  intro r
  induction r with
  | nil=>intro k m out h _; rw [D7,(Z0 h).1]; simp [F0.useds,Rq]
  | cons x r ihr=>
   intro k m out h hl
   obtain ⟨e1,e2,e3,e4,e5⟩:=P1 h
   simp only [List.length_cons] at hl
   rw [D7,e1,if_pos rfl,e2,ob,ih x e5 (ho.kid e5),ob,rmO (by omega) (by decide),if_pos rfl,w1 (by omega),ihr (k+1) _ _ e3 (by rw [List.length_append]; simp; omega)]
   simp only [F0.useds,Lj,List.append_assoc,List.singleton_append]
 have j1:∀ m,Jc e m e.Name=some (e,Id m (F0.useds e.Of)):=fun m=>by
  have hm:=main e.Of 0 m [] rfl (by simp; omega)
  rw [show ((0:Nat):Int)=0 from rfl] at hm
  rw [Jc,L1q _ ho.names,ob,Um,hm,ob,List.nil_append]
  cases e
  rfl
 rw [D9,F0.used_eq,Lj,T1f]
 cases e.Kind == 4 with
 | true=>rw [if_pos rfl,Z7,ob,j1]; rfl
 | false=>rw [if_neg (by simp),j1]; rfl
theorem N1q (l:List C0):OkS l→∀ m,T3 l m=some (l,Id m (C0.useds l)):=by
 refine C0.inds (Q:=fun l=>OkS l→∀ m,T3 l m=some (l,Id m (C0.useds l))) (fun l ih ho m=>?_) l
 have hl:=ho.len
 have one:∀ x∈l,∀ m,Pj x m=some (x,Id m x.used):=fun x hx m=>by
  have o1:=ho.mem hx
  obtain ⟨i1,i2⟩:=ih x hx
  have j1:∀ m,Nb x m x.Name=some (x,Id m (x.Place.used++(x.Value.used++(A0.useds x.Args++(C0.useds x.Then++C0.useds x.Else))))):=fun m=>by
   rw [Nb,L1e _ o1.place,ob,L1e _ o1.value,ob,V1t _ o1.args o1.arg,ob,M1q _ o1.nums,ob,i1 o1.thens,ob,i2 o1.elses,ob]
   simp only [Lj]
   cases x; rfl
  rw [Pj,Uz,ob,C0.used_eq,Lj,T1f]
  show (if uNm x.Verb=true then _ else _)=_
  cases uNm x.Verb with
  | true=>rw [if_pos rfl,Z7,ob,j1]; rfl
  | false=>rw [if_neg (by simp),j1]; rfl
 have main:∀ (r:List C0) (k:Nat) (m:List (Str×Bool)) (out:List C0),l.drop k=r→out.length+r.length≤BB→F7 l m out k=some (out++r,Id m (C0.useds r)):=by
  intro r
  induction r with
  | nil=>intro k m out h _; rw [F7,(Z0 h).1]; simp [C0.useds,Rq]
  | cons x r ihr=>
   intro k m out h hl
   obtain ⟨e1,e2,e3,e4,e5⟩:=P1 h
   simp only [List.length_cons] at hl
   rw [F7,e1,if_pos rfl,e2,ob,one x e5,ob,rmO (by omega) (by decide),if_pos rfl,w1 (by omega),ihr (k+1) _ _ e3 (by rw [List.length_append]; simp; omega)]
   simp only [C0.useds,Lj,List.append_assoc,List.singleton_append]
 rw [T3]
 exact main l 0 m [] rfl (by simp; omega)
theorem U1u (l:List D0):OkD l→∀ m,W5 l m=some (l,Id m (D0.useds l)):=by
 induction l using D0.inds with
 | h l ih=>
 intro ho m
 have hl:=ho.len
 have one:∀ x∈l,∀ m,Qj x m=some (x,Id m x.used):=fun x hx m=>by
  have o1:=ho.mem hx
  obtain ⟨i1,i2⟩:=ih x hx
  rw [Qj,Z7,ob,T1u _ o1.type,ob,L1e _ o1.value,ob,i1 o1.params,ob,i2 o1.vars,ob,N1q _ o1.body,ob,D0.used_eq,Y1g]
  simp only [Lj]
  cases x; rfl
 have main:∀ (r:List D0) (k:Nat) (m:List (Str×Bool)) (out:List D0),l.drop k=r→out.length+r.length≤BB→H7 l m out k=some (out++r,Id m (D0.useds r)):=by
  intro r
  induction r with
  | nil=>intro k m out h _; rw [H7,(Z0 h).1]; simp [D0.useds,Rq]
  | cons x r ihr=>
   intro k m out h hl
   obtain ⟨e1,e2,e3,e4,e5⟩:=P1 h
   simp only [List.length_cons] at hl
   rw [H7,e1,if_pos rfl,e2,ob,one x e5,ob,rmO (by omega) (by decide),if_pos rfl,w1 (by omega),ihr (k+1) _ _ e3 (by rw [List.length_append]; simp; omega)]
   simp only [D0.useds,Lj,List.append_assoc,List.singleton_append]
 rw [W5]
 exact main l 0 m [] rfl (by simp; omega)
theorem V1u (p:O0)(hb:p.bulk≤4200000):∃ o,Co p=some o∧o.length≤BB∧Asc o∧∀ nm,nm∈o ↔ nm∈Pf p:=by
 have h:=Js hb
 have h2:=W1g hb
 obtain ⟨k1,k2,k3⟩:=Z1g (Pf p) [] List.nodup_nil
 obtain ⟨s1,s2⟩:=K1q k1
 refine ⟨Wi (Id [] (Pf p)),?_,?_,s1,fun nm=>(s2 nm).trans ((k3 nm).trans (by simp))⟩
 ·unfold Co
  rw [U1u _ h.decls,ob,N1q _ h.body,ob]
  simp only [← Lj]
  change (if decide ((Id [] (Pf p)).length * 17≤140737488355328)=true then some (Wi (Id [] (Pf p))) else none)=_
  rw [rmO (by simp only [List.length_nil] at k2; unfold BB; omega) (by decide),if_pos rfl]
 ·simp only [Wi,List.length_mergeSort,List.length_map]
  simp only [List.length_nil] at k2
  unfold BB; omega
theorem P1h (s f t:Str):Sa s f t=some (swp f t s):=by
 unfold Sa swp
 exact R1u _ _ _
theorem Q1h (f t:Str)(e:A0):OkE e→U3 e f t=some (e.rn (swp f t)):=by
 induction e using A0.ind with
 | h e ih=>
 intro ho
 have hk:=ho.kids
 have main:∀ (r:List A0) (k:Nat) (out:List A0),e.Kids.drop k=r→out.length+r.length≤BB→S2 e.Kids f t out k=some (out++A0.rns (swp f t) r):=by
  intro r
  induction r with
  | nil=>intro k out h _; rw [S2,(Z0 h).1]; simp [A0.rns]
  | cons x r ihr=>
   intro k out h hl
   obtain ⟨e1,e2,e3,e4,e5⟩:=P1 h
   simp only [List.length_cons] at hl
   rw [S2,e1,if_pos rfl,e2,ob,ih x e5 (ho.kid e5),ob,rmO (by omega) (by decide),if_pos rfl,w1 (by omega),ihr (k+1) _ e3 (by rw [List.length_append]; simp; omega)]
   simp only [A0.rns,List.append_assoc,List.singleton_append]
 have j1:∀ nm,R8 e f t nm=some (.mk e.Op e.NV nm (A0.rns (swp f t) e.Kids)):=fun nm=>by
  have hm:=main e.Kids 0 [] rfl (by simp; omega)
  rw [show ((0:Nat):Int)=0 from rfl] at hm
  rw [R8,I5,hm,ob,List.nil_append]
 rw [U3,A0.rn_eq]
 cases e.Op == 3 with
 | true=>rw [if_pos rfl,P1h,ob,j1]; rfl
 | false=>rw [if_neg (by simp),j1]; rfl
theorem W1u (f t:Str)(l:List A0)(hl:l.length≤BB)(ho:∀ x∈l,OkE x):I5 l f t=some (A0.rns (swp f t) l):=by
 have main:∀ (r:List A0) (k:Nat) (out:List A0),l.drop k=r→out.length+r.length≤BB→S2 l f t out k=some (out++A0.rns (swp f t) r):=by
  intro r
  induction r with
  | nil=>intro k out h _; rw [S2,(Z0 h).1]; simp [A0.rns]
  | cons x r ihr=>
   intro k out h hl
   obtain ⟨e1,e2,e3,e4,e5⟩:=P1 h
   simp only [List.length_cons] at hl
   rw [S2,e1,if_pos rfl,e2,ob,Q1h f t x (ho x e5),ob,rmO (by omega) (by decide),if_pos rfl,w1 (by omega),ihr (k+1) _ e3 (by rw [List.length_append]; simp; omega)]
   simp only [A0.rns,List.append_assoc,List.singleton_append]
 rw [I5]
 exact main l 0 [] rfl (by simp; omega)
theorem K1v (f t:Str)(e:F0):Ok e→M6 e f t=some (e.rn (swp f t)):=by
 induction e using F0.ind with
 | h e ih=>
 intro ho
 have hk:=ho.ofs
 have main:∀ (r:List F0) (k:Nat) (out:List F0),e.Of.drop k=r→out.length+r.length≤BB→M5 e.Of f t out k=some (out++F0.rns (swp f t) r):=by
  intro r
  induction r with
  | nil=>intro k out h _; rw [M5,(Z0 h).1]; simp [F0.rns]
  | cons x r ihr=>
   intro k out h hl
   obtain ⟨e1,e2,e3,e4,e5⟩:=P1 h
   simp only [List.length_cons] at hl
   rw [M5,e1,if_pos rfl,e2,ob,ih x e5 (ho.kid e5),ob,rmO (by omega) (by decide),if_pos rfl,w1 (by omega),ihr (k+1) _ e3 (by rw [List.length_append]; simp; omega)]
   simp only [F0.rns,List.append_assoc,List.singleton_append]
 have j1:∀ nm,J9 e f t nm=some (.mk e.Kind e.Low e.High e.Size nm e.Names (F0.rns (swp f t) e.Of)):=fun nm=>by
  have hm:=main e.Of 0 [] rfl (by simp; omega)
  rw [show ((0:Nat):Int)=0 from rfl] at hm
  rw [J9,L1q _ ho.names,ob,Wj,hm,ob,List.nil_append]
 rw [M6,F0.rn_eq]
 cases e.Kind == 4 with
 | true=>rw [if_pos rfl,P1h,ob,j1]; rfl
 | false=>rw [if_neg (by simp),j1]; rfl
theorem S1s (f t:Str)(l:List C0):OkS l→O2 l f t=some (C0.rns (swp f t) l):=by
 refine C0.inds (Q:=fun l=>OkS l→O2 l f t=some (C0.rns (swp f t) l)) (fun l ih ho=>?_) l
 have hl:=ho.len
 have one:∀ x∈l,Qg x f t=some (x.rn (swp f t)):=fun x hx=>by
  have o1:=ho.mem hx
  obtain ⟨i1,i2⟩:=ih x hx
  have j1:∀ nm,S8 x f t nm=some (.mk x.Verb (x.Place.rn (swp f t)) (x.Value.rn (swp f t)) nm (A0.rns (swp f t) x.Args) x.NV x.Low x.High x.Numbers (C0.rns (swp f t) x.Then) (C0.rns (swp f t) x.Else)):=fun nm=>by
   rw [S8,Q1h f t _ o1.place,ob,Q1h f t _ o1.value,ob,W1u f t _ o1.args o1.arg,ob,M1q _ o1.nums,ob,i1 o1.thens,ob,i2 o1.elses,ob]
  rw [Qg,Uz,ob,C0.rn_eq]
  show (if uNm x.Verb=true then _ else _)=_
  cases uNm x.Verb with
  | true=>rw [if_pos rfl,P1h,ob,j1]; rfl
  | false=>rw [if_neg (by simp),j1]; rfl
 have main:∀ (r:List C0) (k:Nat) (out:List C0),l.drop k=r→out.length+r.length≤BB→N5 l f t out k=some (out++C0.rns (swp f t) r):=by
  intro r
  induction r with
  | nil=>intro k out h _; rw [N5,(Z0 h).1]; simp [C0.rns]
  | cons x r ihr=>
   intro k out h hl
   obtain ⟨e1,e2,e3,e4,e5⟩:=P1 h
   simp only [List.length_cons] at hl
   rw [N5,e1,if_pos rfl,e2,ob,one x e5,ob,rmO (by omega) (by decide),if_pos rfl,w1 (by omega),ihr (k+1) _ e3 (by rw [List.length_append]; simp; omega)]
   simp only [C0.rns,List.append_assoc,List.singleton_append]
 rw [O2]
 exact main l 0 [] rfl (by simp; omega)
theorem L1v (f t:Str)(l:List D0):OkD l→K3 l f t=some (D0.rns (swp f t) l):=by
 induction l using D0.inds with
 | h l ih=>
 intro ho
 have hl:=ho.len
 have one:∀ x∈l,Rg x f t=some (x.rn (swp f t)):=fun x hx=>by
  have o1:=ho.mem hx
  obtain ⟨i1,i2⟩:=ih x hx
  rw [Rg,P1h,ob,K1v f t _ o1.type,ob,Q1h f t _ o1.value,ob,i1 o1.params,ob,i2 o1.vars,ob,S1s f t _ o1.body,ob,D0.rn_eq]
 have main:∀ (r:List D0) (k:Nat) (out:List D0),l.drop k=r→out.length+r.length≤BB→P5 l f t out k=some (out++D0.rns (swp f t) r):=by
  intro r
  induction r with
  | nil=>intro k out h _; rw [P5,(Z0 h).1]; simp [D0.rns]
  | cons x r ihr=>
   intro k out h hl
   obtain ⟨e1,e2,e3,e4,e5⟩:=P1 h
   simp only [List.length_cons] at hl
   rw [P5,e1,if_pos rfl,e2,ob,one x e5,ob,rmO (by omega) (by decide),if_pos rfl,w1 (by omega),ihr (k+1) _ e3 (by rw [List.length_append]; simp; omega)]
   simp only [D0.rns,List.append_assoc,List.singleton_append]
 rw [K3]
 exact main l 0 [] rfl (by simp; omega)
theorem X1u (s:List Str)(v:Str)(hs:s.length≤BB):∀ (r:List Str) (k:Nat),s.drop k=r→∃ n,R2 s v k=some n∧decide (n≥0)=r.contains v
 | [],k,h=>by rw [R2,(Z0 h).1,if_neg (by simp)]; exact ⟨_,rfl,rfl⟩
 | x::r,k,h=>by
  obtain ⟨e1,e2,e3,e4,e5⟩:=P1 h
  obtain ⟨n,n1,n2⟩:=X1u s v hs r (k+1) e3
  rw [R2,e1,if_pos rfl,e2,ob,w1 (by omega),List.contains_cons]
  cases v == x with
  | true=>exact ⟨_,rfl,by simp⟩
  | false=>exact ⟨n,n1,by simpa using n2⟩
theorem O1q (s:List Str)(v:Str)(hs:s.length≤BB):I6 s v=some (s.contains v):=by
 obtain ⟨n,n1,n2⟩:=X1u s v hs s 0 rfl
 rw [show ((0:Nat):Int)=0 from rfl] at n1
 unfold I6 Ub
 rw [n1,ob,n2]
theorem X1l (p:O0)(f t:Str)(hb:p.bulk≤4200000)(hf:f.length≤BB)(ht:t.length≤BB):Ck p f t=some (S1c p f t):=by
 obtain ⟨o,o1,o2,o4,o3⟩:=V1u p hb
 have h:=Js hb
 have hcon:o.contains t=(Pf p).contains t:=by
  rw [Bool.eq_iff_iff,List.contains_iff_mem,List.contains_iff_mem]
  exact o3 t
 unfold Ck S1c
 rw [Z1r p h,ob]
 cases hc:Qh p != 0 with
 | true=>rfl
 | false=>
  simp only [cond_false,Bool.false_eq_true,if_false]
  rw [W19 f hf,ob]
  cases nf:C3 f with
  | false=>rfl
  | true=>
   rw [show (if (!(!true))=true then Q9 t else some default)=some (C3 t) from W19 t ht,ob]
   cases nt:C3 t with
   | false=>rfl
   | true=>
    simp only [Bool.and_self,Bool.not_true,cond_false,cond_true,Bool.false_eq_true,if_false]
    have hbc:(t == f)=(f == t):=by
     by_cases e:f=t
     ·subst e; rfl
     ·rw [beq_eq_false_iff_ne.2 e,beq_eq_false_iff_ne.2 (Ne.symm e)]
    have fin:(do
      let x6 ← K3 p.Decls f t
      let x7 ← O2 p.Body f t
      some (O0.mk x6 x7,(0:Int)))=some (p.rn (swp f t),0):=by
     rw [L1v f t _ h.decls,ob,S1s f t _ h.body,ob]
     rfl
    rw [hbc]
    cases f == t with
    | true=>
     simp only [Bool.not_true,Bool.false_eq_true,if_false,ob,cond_false,Bool.false_and]
     exact fin
    | false=>
     simp only [Bool.not_false,if_true,o1,ob,O1q o t o2,hcon,cond_true,Bool.true_and]
     cases (Pf p).contains t with
     | true=>rfl
     | false=>exact fin
theorem O0.rn_rn (σ τ:Str→Str)(p:O0)(hi:∀ a,τ (σ a)=a):(p.rn σ).rn τ=p:=by
 have hE:∀ l:List A0,A0.rns τ (A0.rns σ l)=l:=by
  have key:∀ e:A0,(e.rn σ).rn τ=e:=fun e=>by
   induction e using A0.ind with
   | h e ih=>
   rw [A0.rn_eq σ,A0.rn_eq τ]
   have:A0.rns τ (A0.rns σ e.Kids)=e.Kids:=by
    rw [A0.rns_map,A0.rns_map,List.map_map]
    exact (List.map_congr_left fun x hx=>ih x hx).trans (List.map_id _)
   simp only [this]
   cases e with
   | mk o n s k=>cases o == 3 <;> simp [hi]
  exact fun l=>by
   rw [A0.rns_map,A0.rns_map,List.map_map]
   exact (List.map_congr_left fun x _=>key x).trans (List.map_id _)
 have kE:∀ e:A0,(e.rn σ).rn τ=e:=fun e=>by have:=hE [e]; simpa [A0.rns] using this
 have kT:∀ e:F0,(e.rn σ).rn τ=e:=fun e=>by
  induction e using F0.ind with
  | h e ih=>
  rw [F0.rn_eq σ,F0.rn_eq τ]
  have:F0.rns τ (F0.rns σ e.Of)=e.Of:=by
   rw [F0.rns_map,F0.rns_map,List.map_map]
   exact (List.map_congr_left fun x hx=>ih x hx).trans (List.map_id _)
  simp only [this]
  cases e with
  | mk k l h s n ns of=>cases k == 4 <;> simp [hi]
 have hS:∀ l:List C0,C0.rns τ (C0.rns σ l)=l:=fun l=>by
  refine C0.inds (Q:=fun l=>C0.rns τ (C0.rns σ l)=l) (fun l ih=>?_) l
  rw [C0.rns_map,C0.rns_map,List.map_map]
  refine (List.map_congr_left fun x hx=>?_).trans (List.map_id _)
  obtain ⟨i1,i2⟩:=ih x hx
  show (x.rn σ).rn τ=x
  rw [C0.rn_eq σ,C0.rn_eq τ]
  simp only [kE,hE,i1,i2]
  cases x with
  | mk v pl va nm ar n lo h ns th el=>cases uNm v <;> simp [hi]
 have hD:∀ l:List D0,D0.rns τ (D0.rns σ l)=l:=fun l=>by
  induction l using D0.inds with
  | h l ih=>
  rw [D0.rns_map,D0.rns_map,List.map_map]
  refine (List.map_congr_left fun x hx=>?_).trans (List.map_id _)
  obtain ⟨i1,i2⟩:=ih x hx
  show (x.rn σ).rn τ=x
  rw [D0.rn_eq σ,D0.rn_eq τ]
  simp only [kE,kT,hS,i1,i2,hi]
  cases x; rfl
 obtain ⟨ds,b⟩:=p
 simp only [O0.rn,hD,hS]
theorem Y1l (σ:Str→Str)(p:O0):Pf (p.rn σ)=(Pf p).map σ:=by
 have hE:∀ e:A0,(e.rn σ).used=e.used.map σ∧True:=fun e=>by
  induction e using A0.ind with
  | h e ih=>
  refine ⟨?_,trivial⟩
  have:∀ l:List A0,(∀ x∈l,x∈e.Kids)→A0.useds (A0.rns σ l)=(A0.useds l).map σ:=by
   intro l
   induction l with
   | nil=>intro _; rfl
   | cons x r ihr=>intro h; simp only [A0.rns,A0.useds,List.map_append]; rw [(ih x (h x List.mem_cons_self)).1,ihr fun y hy=>h y (List.mem_cons_of_mem _ hy)]
  rw [A0.rn_eq,A0.used_eq,A0.used_eq e,List.map_append,← this e.Kids fun _ h=>h]
  cases e.Op == 3 <;> rfl
 have hEs:∀ l:List A0,A0.useds (A0.rns σ l)=(A0.useds l).map σ:=by
  intro l
  induction l with
  | nil=>rfl
  | cons x r ihr=>simp only [A0.rns,A0.useds,List.map_append]; rw [(hE x).1,ihr]
 have hT:∀ e:F0,(e.rn σ).used=e.used.map σ:=fun e=>by
  induction e using F0.ind with
  | h e ih=>
  have:∀ l:List F0,(∀ x∈l,x∈e.Of)→F0.useds (F0.rns σ l)=(F0.useds l).map σ:=by
   intro l
   induction l with
   | nil=>intro _; rfl
   | cons x r ihr=>intro h; simp only [F0.rns,F0.useds,List.map_append]; rw [ih x (h x List.mem_cons_self),ihr fun y hy=>h y (List.mem_cons_of_mem _ hy)]
  rw [F0.rn_eq,F0.used_eq,F0.used_eq e,List.map_append,← this e.Of fun _ h=>h]
  cases e.Kind == 4 <;> rfl
 have hS:∀ l:List C0,C0.useds (C0.rns σ l)=(C0.useds l).map σ:=fun l=>by
  refine C0.inds (Q:=fun l=>C0.useds (C0.rns σ l)=(C0.useds l).map σ) (fun l ih=>?_) l
  induction l with
  | nil=>rfl
  | cons x r ihr=>
   obtain ⟨i1,i2⟩:=ih x List.mem_cons_self
   simp only [C0.rns,C0.useds,List.map_append]
   rw [ihr fun y hy=>ih y (List.mem_cons_of_mem _ hy),C0.rn_eq,C0.used_eq,C0.used_eq x]
   simp only [(hE _).1,hEs,i1,i2,List.map_append]
   cases uNm x.Verb <;> rfl
 have hD:∀ l:List D0,D0.useds (D0.rns σ l)=(D0.useds l).map σ:=fun l=>by
  induction l using D0.inds with
  | h l ih=>
  induction l with
  | nil=>rfl
  | cons x r ihr=>
   obtain ⟨i1,i2⟩:=ih x List.mem_cons_self
   simp only [D0.rns,D0.useds,List.map_append]
   rw [ihr fun y hy=>ih y (List.mem_cons_of_mem _ hy),D0.rn_eq,D0.used_eq,D0.used_eq x]
   simp only [(hE _).1,hT,hS,i1,i2,List.map_append,List.map_cons]
 unfold Pf
 simp only [O0.rn,hD,hS,List.map_append]
theorem M1e (p:O0):M1h p p=true:=by unfold M1h; rw [T1n,J1e]; rfl
theorem B1b (p:O0)(f t:Str)(hb:p.bulk≤1048576)(hf:f.length≤1048576)(ht:t.length≤1048576)(hk:Yk=some true):Qk p f t=some true:=by
 have hb1:p.bulk≤4200000:=by omega
 have h:=Js hb1
 obtain ⟨b,hw⟩:=E1q p h 400
 unfold Qk
 rw [hk,ob,if_neg (by simp),hw,ob]
 cases (bif (bif (!b) then true else (decide (((f).length:Int) > 40))) then true else (decide (((t).length:Int) > 40))) with
 | true=>rfl
 | false=>
  have ep:=X1l p f t hb1 (by unfold BB; omega) (by unfold BB; omega)
  have er:=T1t p f t hb1 (by unfold BB; omega) (by unfold BB; omega)
  rw [if_neg (by simp),ep,ob,er,ob]
  unfold S1c
  cases hc:Qh p != 0 with
  | true=>
   simp only [cond_true,bne_self_eq_false,Bool.not_false,if_true]
   rw [show Sg (.mk [] []) (.mk [] [])=some true from Xz _ _ (Js (by simp [O0.bulk,D0.bulks,C0.bulks])),ob]
   rw [if_neg (by simp),if_pos hc]
  | false=>
   have h0:Qh p=0:=by simpa using hc
   rw [cond_false]
   cases hn:C3 f&&C3 t with
   | false=>
    simp only [Bool.not_false,cond_true,bne_self_eq_false,Bool.not_false,if_true]
    rw [show Sg (.mk [] []) (.mk [] [])=some true from Xz _ _ (Js (by simp [O0.bulk,D0.bulks,C0.bulks])),ob]
    rfl
   | true=>
    simp only [Bool.and_eq_true] at hn
    obtain ⟨q3,q4⟩:=hn
    simp only [Bool.not_true,cond_false]
    cases hu : !(f == t)&&(Pf p).contains t with
    | true=>
     simp only [cond_true,bne_self_eq_false,Bool.not_false,if_true]
     rw [show Sg (.mk [] []) (.mk [] [])=some true from Xz _ _ (Js (by simp [O0.bulk,D0.bulks,C0.bulks])),ob]
     rfl
    | false=>
     have q5:t∈Pf p→f=t:=fun hm=>by
      rcases Classical.em (f=t) with e | e
      ·exact e
      ·rw [beq_eq_false_iff_ne.2 e,List.contains_iff_mem.2 hm] at hu
       cases hu
     have hs:Sh (trs f t):=fun a=>by
      have:=X1g q3
      have:=X1g q4
      unfold trs
      cases a == f with
      | true=>simp only [cond_true]; omega
      | false=>cases a == t <;> simp only [cond_true,cond_false] <;> omega
     have hR:=S1u q3 q4
     have eq1:p.rn (swp f t)=p.rn (trs f t):=J1q q5
     have bq:=U1t hs hb
     have hq:=Js bq
     simp only [cond_false,bne_self_eq_false,Bool.not_false,if_true]
     rw [eq1,Xz _ _ hq,ob,M1e]
     simp only [Bool.not_true,cond_false,Bool.false_eq_true,if_false]
     have ep2:=X1l (p.rn (trs f t)) t f bq (by unfold BB; omega) (by unfold BB; omega)
     have hcode:S1c (p.rn (trs f t)) t f=((p.rn (trs f t)).rn (swp t f),0):=by
      unfold S1c
      rw [H1q hR,hc,cond_false,q3,q4]
      have:(!(t == f)&&(Pf (p.rn (trs f t))).contains f)=false:=by
       by_cases e:t=f
       ·subst e; simp
       ·rw [beq_eq_false_iff_ne.2 e,Bool.not_false,Bool.true_and]
        rw [Y1l]
        cases hcn:((Pf p).map (trs f t)).contains f with
        | false=>rfl
        | true=>
         obtain ⟨y,y1,y2⟩:=List.mem_map.1 (List.contains_iff_mem.1 hcn)
         have hy:y=trs f t f:=(hR.inv y).symm.trans (congrArg (trs f t) y2)
         rw [show trs f t f=t by unfold trs; rw [beq_self_eq_true]; rfl] at hy
         subst hy
         exact absurd (q5 y1).symm e
      rw [this]
      rfl
     rw [ep2,ob,hcode]
     have hback:(p.rn (trs f t)).rn (swp t f)=p:=by
      have e2:(p.rn (trs f t)).rn (swp t f)=(p.rn (trs f t)).rn (trs t f):=J1q fun hm=>by
       change f∈Pf (p.rn (trs f t)) at hm
       rw [Y1l] at hm
       obtain ⟨y,y1,y2⟩:=List.mem_map.1 hm
       have hy:y=trs f t f:=(hR.inv y).symm.trans (congrArg (trs f t) y2)
       rw [show trs f t f=t by unfold trs; rw [beq_self_eq_true]; rfl] at hy
       subst hy
       exact (q5 y1).symm
      rw [e2]
      refine O0.rn_rn _ _ p fun a=>?_
      have:trs t f=trs f t:=by
       funext s
       unfold trs
       by_cases h1:s=f
       ·subst h1
        by_cases h2:s=t
        ·subst h2; rfl
        ·rw [beq_eq_false_iff_ne.2 h2,beq_self_eq_true]; rfl
       ·by_cases h2:s=t
        ·subst h2; rw [beq_self_eq_true,beq_eq_false_iff_ne.2 h1]; rfl
        ·rw [beq_eq_false_iff_ne.2 h1,beq_eq_false_iff_ne.2 h2]; rfl
      rw [this]
      exact hR.inv a
     simp only [hback,Xz _ _ h,M1e,beq_self_eq_true,if_true,ob,cond_true]
end Go.Proofs.YtbmlpamppbcdeaaGreatDoor

