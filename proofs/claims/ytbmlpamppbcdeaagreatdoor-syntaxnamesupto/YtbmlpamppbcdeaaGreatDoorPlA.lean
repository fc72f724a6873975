/- A part of the proof of SyntaxNames. -/
import Derived.Test.YtbmlpamppbcdeaaGreatDoorDgB
import Derived.ProofKit
namespace Go.Proofs.YtbmlpamppbcdeaaGreatDoor
open Go.Am
theorem ob {α β:Type}(a:α)(f:α→Option β):(some a>>=f)=f a:=rfl
theorem Z1 {α:Type}{l:List α}{k:Nat}{x:α}{r:List α}(h:l.drop k=x::r):decide ((k:Int) < (l.length:Int))=true∧idx l (k:Int)=some x∧l.drop (k+1)=r∧k < l.length∧x∈l:=by
 have hk:k < l.length:=by
  rcases Nat.lt_or_ge k l.length with h1 | h1
  ·exact h1
  ·rw [List.drop_eq_nil_of_le h1] at h; cases h
 have hx:=List.drop_eq_getElem_cons hk
 rw [h] at hx
 obtain ⟨e1,e2⟩:=List.cons.inj hx
 refine ⟨decide_eq_true (by omega),?_,e2.symm,hk,?_⟩
 ·unfold idx
  rw [if_pos (by omega),e1]
  simp [hk]
 ·rw [e1]; exact List.getElem_mem hk
theorem K1 {α:Type}{l:List α}{k:Nat}(h:l.drop k=[]):decide ((k:Int) < (l.length:Int))=false∧l.length≤k:=by
 have:=List.drop_eq_nil_iff.1 h
 exact ⟨decide_eq_false (by omega),this⟩
def BB:Nat:=68719476736
theorem wr {n:Int}(h : -4611686018427387904≤n)(h':n≤4611686018427387904):IntKind.i64.wrap n=n:=P1k (by omega) (by omega)
theorem w1 {k:Nat}(h:k≤BB):IntKind.i64.wrap ((k:Int)+1)=((k+1:Nat):Int):=by
 unfold BB at h
 rw [wr (by omega) (by omega)]; rfl
def Zk (n:Int):Bool:=bif decide (n≥97) then decide (n≤122) else false
def M1a (n:Int):Bool:=bif decide (n≥48) then decide (n≤57) else false
def M1h (i:Nat)(c:UInt8):Bool:=Zk c.toNat||(i != 0&&M1a c.toNat)
def Rl:Nat→List UInt8→Bool
 | _,[]=>true
 | i,c::r=>M1h i c&&Rl (i+1) r
def W4 (s:List UInt8):Bool:=Rl 0 s && !(s == [])
def kw:List UInt8:=[32,116,121,112,101,32,115,101,99,114,101,116,32,112,117,98,108,105,99,32,114,97,110,100,111,109,32,118,97,114,32,104,97,116,99,104,32,102,117,110,99,32,114,101,116,117,114,110,32,98,101,103,105,110,32,101,110,100,32,98,111,111,108,32,105,110,116,32,97,114,114,97,121,32,111,102,32,114,101,99,111,114,100,32,116,114,117,101,32,102,97,108,115,101,32,99,97,108,108,32,114,101,108,101,97,115,101,32,111,117,116,112,117,116,32,119,97,105,116,32,105,102,32,101,108,115,101,32,119,104,105,108,101,32,108,105,109,105,116,32,102,111,114,32,116,111,32,115,101,116,116,108,101,32,109,105,110,32,109,97,120,32]
def N1a (s:List UInt8):Bool:=bif (bif !(s == []) then !Lib.contains s [32] else false) then Lib.contains kw ([32]++s++[32]) else false
def C9 (s:List UInt8):Bool:=bif (bif decide ((s.length:Int)≤12) then W4 s else false) then !N1a s else false
theorem getD_some {s:List UInt8}{k:Nat}(h:k < s.length):s[k]?=some (s.getD k 0):=by simp [List.getD,h]
def ld (c:UInt8):Bool:=bif Zk c.toNat then true else M1a c.toNat
def Ky:List UInt8→Nat
 | []=>0
 | c::r=>bif ld c then Ky r+1 else 0
theorem X1f:∀ s:List UInt8,Ky s≤s.length
 | []=>Nat.le_refl _
 | c::r=>by
  simp only [Ky,List.length_cons]
  have:=X1f r
  cases ld c <;> simp <;> omega
def X14 (s:List UInt8):Bool:=bif ((s.length:Nat):Int) == 0 then false else bif s.all (fun c=>Zk c.toNat) then Lib.contains kw ([32]++s++[32]) else false
set_option maxRecDepth 100000 in
theorem Y14:kw.length=162:=rfl
theorem V1d {s sub:List UInt8}{i:Nat}(hi:i+sub.length≤s.length)(h:((s.take (i+sub.length)).drop i == sub)=true):Lib.contains s sub=true:=by
 have ho:Lib.occAt s sub i=true:=by
  rw [Lib.occAt_iff_take s sub i hi]
  rw [List.drop_take] at h
  simpa using h
 rcases Lib.index_spec s sub with ⟨_,h2⟩ | ⟨j,h1,_⟩
 ·rw [h2 i (by omega)] at ho; cases ho
 ·unfold Lib.contains
  rw [h1]
  exact decide_eq_true (by omega)
theorem U11 {s sub:List UInt8}(h:∀ i,i+sub.length≤s.length→((s.take (i+sub.length)).drop i == sub)=false)(hne:sub≠[]):Lib.contains s sub=false:=by
 rcases Lib.index_spec s sub with ⟨h1,_⟩ | ⟨j,h1,h2,h3,_⟩
 ·unfold Lib.contains
  rw [h1]; rfl
 ·rcases Lib.occAt_room h3 with hr | hr
  ·have:=h j hr
   rw [Lib.occAt_iff_take s sub j hr] at h3
   rw [List.drop_take] at this
   have e:j+sub.length - j=sub.length:=by omega
   rw [e,h3] at this
   cases this
  ·exact absurd hr hne
def N1h (s:List UInt8):Bool:=
 bif (bif (bif (bif decide (((s.length:Nat):Int) < 1) then true else decide (((s.length:Nat):Int) > 12)) then true else !Zk (s.getD 0 0).toNat) then true else X14 s) then false else ((Ky s:Nat):Int) == ((s.length:Nat):Int)
theorem K16:∀ (r:List UInt8) (i:Nat),1≤i→Rl i r=r.all ld
 | [],_,_=>rfl
 | c::r,i,h=>by
  have hi:(i != 0)=true:=by simp; omega
  simp only [Rl,List.all_cons,K16 r (i+1) (by omega),M1h,hi,Bool.true_and,ld]
  cases Zk c.toNat <;> rfl
theorem Y1f:∀ s:List UInt8,(((Ky s:Nat):Int) == ((s.length:Nat):Int))=s.all ld
 | []=>rfl
 | c::r=>by
  have h:=Y1f r
  have hle:=X1f r
  simp only [Ky,List.length_cons,List.all_cons,← h]
  cases ld c with
  | false=>
   simp only [cond_false,Bool.false_and]
   apply beq_eq_false_iff_ne.2
   omega
  | true=>
   simp only [cond_true,Bool.true_and]
   rw [Bool.eq_iff_iff,beq_iff_eq,beq_iff_eq]
   omega
set_option maxRecDepth 100000 in
theorem M1l:kw.all (fun c=>Zk c.toNat||c == 32)=true:=by decide
theorem Z14 {s sub:List UInt8}(h:Lib.contains s sub=true)(hne:sub≠[]):∀ c∈sub,c∈s:=by
 rcases Lib.index_spec s sub with ⟨h1,_⟩ | ⟨j,h1,h2,h3,_⟩
 ·unfold Lib.contains at h
  rw [h1] at h
  cases h
 ·rcases Lib.occAt_room h3 with hr | hr
  ·rw [Lib.occAt_iff_take s sub j hr] at h3
   have e:(s.drop j).take sub.length=sub:=by simpa using h3
   intro c hc
   rw [← e] at hc
   exact List.mem_of_mem_drop (List.mem_of_mem_take hc)
  ·exact absurd hr hne
theorem W1d:ld 32=false:=by decide
theorem N1l {s:List UInt8}(h:s.all ld=true):Lib.contains s [32]=false:=by
 cases hc:Lib.contains s [32] with
 | false=>rfl
 | true=>
  have:=Z14 hc (by simp) 32 (by simp)
  have:=List.all_eq_true.1 h 32 this
  rw [W1d] at this
  cases this
theorem A1n {s:List UInt8}(h:s.all ld=true)(hc:Lib.contains kw ([32]++s++[32])=true):s.all (fun c=>Zk c.toNat)=true:=by
 rw [List.all_eq_true]
 intro c hcs
 have h1:=Z14 hc (by simp) c (by simp [hcs])
 have h2:=List.all_eq_true.1 M1l c h1
 have h3:=List.all_eq_true.1 h c hcs
 cases hl:Zk c.toNat with
 | true=>rfl
 | false=>
  rw [hl,Bool.false_or,beq_iff_eq] at h2
  subst h2
  rw [W1d] at h3
  cases h3
theorem B1n (s:List UInt8):N1h s=C9 s:=by
 unfold N1h C9
 rw [Y1f]
 cases s with
 | nil=>rfl
 | cons c r=>
  have h1:decide ((((c::r).length:Nat):Int) < 1)=false:=decide_eq_false (by simp only [List.length_cons]; omega)
  have h12:decide ((((c::r).length:Nat):Int) > 12) = !decide ((((c::r).length:Nat):Int)≤12):=by
   rw [← decide_not]; exact decide_eq_decide.2 Int.not_le.symm
  have hw:W4 (c::r)=(Zk c.toNat&&r.all ld):=by
   unfold W4
   simp only [Rl,M1h,K16 r 1 (Nat.le_refl _)]
   simp
  rw [h1,h12,hw,cond_false,List.all_cons]
  show (bif (bif (bif !decide ((((c::r).length:Nat):Int)≤12) then true else !Zk c.toNat) then true else X14 (c::r)) then false else (ld c&&r.all ld))=_
  cases h12':decide ((((c::r).length:Nat):Int)≤12) with
  | false=>rfl
  | true=>
   cases hl:Zk c.toNat with
   | false=>rfl
   | true=>
    have hlc:ld c=true:=by unfold ld; rw [hl]; rfl
    rw [hlc]
    cases ha:r.all ld with
    | false=>cases X14 (c::r) <;> rfl
    | true=>
     have hall:(c::r).all ld=true:=by rw [List.all_cons,hlc,ha]; rfl
     have hns:=N1l hall
     have e:X14 (c::r)=N1a (c::r):=by
      unfold X14 N1a
      rw [hns]
      have hz:((((c::r).length:Nat):Int) == 0)=false:=beq_eq_false_iff_ne.2 (by simp only [List.length_cons]; omega)
      rw [hz]
      cases hk:Lib.contains kw ([32]++(c::r)++[32]) with
      | false=>simp
      | true=>
       rw [A1n hall hk]
       rfl
     rw [e]
     cases N1a (c::r) <;> rfl
theorem E1f (n:Int):Eh n=some (Zk n):=rfl
theorem O1h (n:Int):Zh n=some (M1a n):=rfl
theorem F19 (s:Str)(hs:s.length≤BB):∀ (r:Str) (k:Nat),s.drop k=r→C5 s k=some (Rl k r && !(s == []))
 | [],k,h=>by rw [C5,(K1 h).1]; simp [Rl]
 | c::r,k,h=>by
  obtain ⟨h1,h2,h3,h4,_⟩:=Z1 h
  have ih:=F19 s hs r (k+1) h3
  rw [C5,h1,if_pos rfl,h2,ob,E1f,ob,w1 (by omega),ih]
  have e:((k:Int) == 0)=(k == 0):=by cases k <;> rfl
  simp only [e,Rl,M1h,bne]
  cases hl:Zk c.toNat <;> cases hk:k == 0 <;> cases hd:M1a c.toNat <;> simp [O1h,hd]
theorem P1j (s:Str)(hs:s.length≤BB):Jj s=some (W4 s):=F19 s hs s 0 rfl
theorem V11 (s t:Str)(hs:s.length≤4000000000):Ek s t=some (Lib.contains s t):=by
 unfold Ek
 rw [if_pos (decide_eq_true (by omega))]
theorem F1f (s:Str)(hs:s.length≤4000000000):Ge s=some (N1a s):=by
 unfold Ge
 have h1:decide (1+s.length≤maxLen)=true:=decide_eq_true (by unfold maxLen; omega)
 have h2:decide (([32]++s).length+1≤maxLen)=true:=decide_eq_true (by unfold maxLen; simp; omega)
 rw [V11 s _ hs]
 have h3:=V11 kw (([32]++s)++[32]) (by rw [Y14]; omega)
 unfold kw at h3
 unfold N1a kw
 rw [h1,h2,h3]
 cases s == [] <;> cases Lib.contains s [32] <;> simp
theorem Q1j (s:Str)(hs:s.length≤BB):Gg s=some (C9 s):=by
 unfold Gg Kj C9
 rw [P1j s hs]
 cases h:decide ((s.length:Int)≤12) with
 | false=>simp
 | true=>
  have h':s.length≤12:=by have:=of_decide_eq_true h; omega
  rw [F1f s (by omega)]
  cases W4 s <;> simp
theorem Uv (n:Int):Tj n=some (Zk n):=rfl
theorem G1f (n:Int):Uq n=some (M1a n):=rfl
theorem Z1f (s:Str)(hs:s.length≤BB):∀ (r:Str) (k:Nat),s.drop k=r→Ff s k=some ((k+Ky r:Nat):Int)
 | [],k,h=>by rw [Ff,(K1 h).1]; simp [Ky,ob]
 | c::r,k,h=>by
  obtain ⟨h1,h2,h3,h4,_⟩:=Z1 h
  have ih:=Z1f s hs r (k+1) h3
  rw [Ff,h1,if_pos rfl,h2,ob,if_pos rfl,Uv,ob,w1 (by omega),ih]
  simp only [Ky,ld]
  cases hl:Zk c.toNat <;> cases hd:M1a c.toNat <;> simp [G1f,hd,ob] <;> omega
theorem T1n (s:Str)(hs:s.length≤BB):Mr s 0=some ((Ky s:Nat):Int):=by
 have:=Z1f s hs s 0 rfl
 unfold Mr
 rw [Nat.zero_add] at this
 exact this
theorem O1l (s:Str)(hs:s.length≤4000000000):∀ (n k:Nat),n+k=163→(∀ i,i < k→i+([32]++s++[32]).length≤kw.length→((kw.take (i+([32]++s++[32]).length)).drop i == [32]++s++[32])=false)→
  K7 s k=some (Lib.contains kw ([32]++s++[32])):=by
 have hl:([32]++s++[32]).length=s.length+2:=by simp
 intro n
 induction n with
 | zero=>
  intro k hk hi
  rw [K7,wr (n:=(k:Int)+_) (by omega) (by omega),wr (by omega) (by omega),if_neg (by simp; omega),U11 (fun i h=>hi i (by rw [Y14] at h; omega) h) (by simp)]
 | succ n ih=>
  intro k hk hi
  rw [K7,wr (n:=(k:Int)+_) (by omega) (by omega),wr (by omega) (by omega)]
  by_cases hr:k+([32]++s++[32]).length≤kw.length
  ·have hr':=hr
   rw [Y14,hl] at hr'
   rw [if_pos (decide_eq_true (by omega))]
   have hs2:slc kw (k:Int) ((k:Int)+(s.length:Int)+2)=some ((kw.take (k+([32]++s++[32]).length)).drop k):=by
    unfold slc
    rw [if_pos ⟨by omega,by omega,by rw [Y14]; omega⟩,hl]
    rw [show ((k:Int)+(s.length:Int)+2).toNat=k+(s.length+2) by omega]
    rfl
   unfold kw at hs2
   rw [hs2,ob,if_pos (decide_eq_true (by unfold maxLen; omega)),if_pos (decide_eq_true (by unfold maxLen; simp; omega))]
   cases he:((kw.take (k+([32]++s++[32]).length)).drop k == [32]++s++[32]) with
   | true=>
    have:=V1d hr he
    rw [this]
    unfold kw at he
    rw [he,if_pos rfl]
   | false=>
    have he':=he
    unfold kw at he'
    rw [he',if_neg (by simp),w1 (by unfold BB; omega)]
    refine ih (k+1) (by omega) fun i hik=>?_
    rcases Nat.lt_or_eq_of_le (Nat.le_of_lt_succ hik) with h | h
    ·exact hi i h
    ·subst h; exact fun _=>he
  ·have hr':=hr
   rw [Y14,hl] at hr'
   rw [if_neg (by simp; omega),U11 (fun i h=>hi i (by omega) h) (by simp)]
theorem X1d (s:Str)(hs:s.length≤4000000000):∀ (r:Str) (k:Nat),s.drop k=r→L7 s k=some (bif r.all (fun c=>Zk c.toNat) then Lib.contains kw ([32]++s++[32]) else false)
 | [],k,h=>by rw [L7,(K1 h).1,if_neg (by simp)]; exact O1l s hs 163 0 rfl (fun i h=>by omega)
 | c::r,k,h=>by
  obtain ⟨h1,h2,h3,h4,_⟩:=Z1 h
  have ih:=X1d s hs r (k+1) h3
  rw [L7,h1,if_pos rfl,h2,ob,Uv,ob,w1 (by unfold BB; omega),ih,List.all_cons]
  cases Zk c.toNat <;> simp
theorem O1a (s:Str)(hs:s.length≤4000000000):Uj s=some (X14 s):=by
 unfold Uj X14
 have:=X1d s hs s 0 rfl
 rw [show (0:Int)=((0:Nat):Int) from rfl,this]
 cases ((s.length:Int) == ((0:Nat):Int)) <;> simp
theorem Sl (s:Str)(hs:s.length≤BB):Ub s=some (C9 s):=by
 rw [← B1n]
 unfold Ub To N1h
 cases h:(bif decide ((s.length:Int) < 1) then true else decide ((s.length:Int) > 12)) with
 | true=>simp [ob]
 | false=>
  have h':1≤s.length∧s.length≤12:=by
   cases h1:decide ((s.length:Int) < 1) with
   | true=>rw [h1] at h; cases h
   | false=>
    rw [h1] at h
    have:=of_decide_eq_false h1
    have:=of_decide_eq_false (show decide ((s.length:Int) > 12)=false from h)
    omega
  have h0:idx s 0=some (s.getD 0 0):=getD_some (by omega)
  rw [h0,O1a s (by omega),T1n s hs]
  simp only [Bool.not_false,if_true,ob,Uv,cond_false]
  cases Zk (s.getD 0 0).toNat <;> cases X14 s <;> simp [ob]
end Go.Proofs.YtbmlpamppbcdeaaGreatDoor

set_option linter.unusedSimpArgs false
namespace Go.Proofs.YtbmlpamppbcdeaaGreatDoor
open Go.Am
theorem D0.ind {P:D0→Prop}(h:∀ t:D0,(∀ x∈t.Of,P x)→P t):∀ t,P t:=by
 intro t
 refine D0.rec (motive_1:=P) (motive_2:=fun l=>∀ x∈l,P x) ?_ ?_ ?_ t
 ·intro k l h' s n ns of ih
  exact h _ ih
 ·intro x hx; cases hx
 ·intro x r hx hr y hy
  cases hy with
  | head=>exact hx
  | tail _ hy=>exact hr y hy
mutual
def D0.depth:D0→Nat
 | .mk _ _ _ _ _ _ of=>D0.depths of+1
def D0.depths:List D0→Nat
 | []=>0
 | t::r=>max (D0.depth t) (D0.depths r)
end
theorem D0.depth_eq (t:D0):t.depth=D0.depths t.Of+1:=by cases t; simp [D0.depth,D0.Of]
def Q2 (a b c:Int):Bool:=bif decide (a≥b) then decide (a≤c) else false
mutual
def D0.all (p:D0→Bool):D0→Bool
 | .mk k l h s n ns of=>p (.mk k l h s n ns of)&&D0.alls p of
def D0.alls (p:D0→Bool):List D0→Bool
 | []=>true
 | t::r=>D0.all p t&&D0.alls p r
end
theorem D0.all_eq (p:D0→Bool)(t:D0):t.all p=(p t&&D0.alls p t.Of):=by cases t; rfl
mutual
def D0.nodes:D0→Nat
 | .mk _ _ _ _ _ _ of=>D0.nodess of+1
def D0.nodess:List D0→Nat
 | []=>0
 | t::r=>D0.nodes t+D0.nodess r
end
theorem D0.nodes_eq (t:D0):t.nodes=D0.nodess t.Of+1:=by cases t; rfl
mutual
theorem D0.depth_nodes:∀ t:D0,t.depth≤t.nodes
 | .mk _ _ _ _ _ _ of=>by simp only [D0.depth,D0.nodes]; have:=D0.depths_nodess of; omega
theorem D0.depths_nodess:∀ l:List D0,D0.depths l≤D0.nodess l
 | []=>Nat.le_refl _
 | t::r=>by simp only [D0.depths,D0.nodess]; have:=D0.depth_nodes t; have:=D0.depths_nodess r; omega
end
def fm1 (t:D0):Bool:=bif decide (t.Kind≥0) then decide (t.Kind≤4) else false
def fm2 (t:D0):Bool:=bif t.Kind == 1 then true else bif t.Low == 0 then t.High == 0 else false
def fm3 (t:D0):Bool:=bif t.Kind == 2 then true else t.Size == 0
def fm4 (t:D0):Bool:=bif t.Kind == 4 then true else t.Name == []
def fm5 (t:D0):Bool:=bif t.Kind == 3 then true else ((t.Names).length:Int) == 0
def fm6 (t:D0):Bool:=bif t.Kind == 2 then ((t.Of).length:Int) == 1 else bif t.Kind == 3 then (bif decide (((t.Of).length:Int)≥1) then ((t.Of).length:Int) == ((t.Names).length:Int) else false) else ((t.Of).length:Int) == 0
def nm1 (t:D0):Bool:=bif t.Kind == 2 then Q2 t.Size 1 32 else bif t.Kind == 3 then decide (((t.Of).length:Int)≤32) else true
def nm2 (t:D0):Bool:=bif t.Kind == 1 then (bif Q2 t.Low (-1048576) 1048576 then Q2 t.High t.Low 1048576 else false) else true
def na1 (t:D0):Bool:=bif t.Kind == 4 then C9 t.Name else true
def Oc (t:D0):Bool:=fm1 t&&fm2 t&&fm3 t&&fm4 t&&fm5 t&&fm6 t
def Oq (t:D0):Bool:=nm1 t&&nm2 t
def Al (t:D0):Bool:=na1 t&&t.Names.all C9
theorem Tr (a b c:Bool):(a || !b || !c)=(a || !(b&&c)):=by cases a <;> cases b <;> cases c <;> rfl
def Pq (n d:Int)(f m u:Bool):Int:=
 bif (bif decide (n > 1024) then true else decide (d > 12)) then 4 else bif f then 1 else bif m then 7 else bif u then 3 else 0
theorem J11 (a b:Int):decide (a < b) = !decide (a≥b):=by
 rw [← decide_not]; exact decide_eq_decide.2 Int.not_le.symm
theorem K11 (a b:Int):decide (a > b) = !decide (a≤b):=by
 rw [← decide_not]; exact decide_eq_decide.2 Int.not_le.symm
def Y1d (t:D0):Bool:=bif decide (t.Kind < 0) then true else decide (t.Kind > 4)
def Z1d (t:D0):Bool:=
 bif (bif (bif (bif t.Kind != 1 then (bif t.Low != 0 then true else t.High != 0) else false) then true else (bif t.Kind != 2 then t.Size != 0 else false)) then true else (bif t.Kind != 4 then !(t.Name == []) else false)) then true else
  (bif t.Kind != 3 then ((t.Names).length:Int) != 0 else false)
def A1e (t:D0):Bool:=
 bif (bif (bif t.Kind == 2 then ((t.Of).length:Int) != 1 else false) then true else
  (bif t.Kind == 3 then (bif decide (((t.Of).length:Int) < 1) then true else ((t.Of).length:Int) != ((t.Names).length:Int)) else false)) then true else
  (bif (bif t.Kind != 2 then t.Kind != 3 else false) then ((t.Of).length:Int) != 0 else false)
theorem C1n (t:D0):fm1 t = !Y1d t:=by
 unfold fm1 Y1d
 rw [J11,K11]
 cases decide (t.Kind≥0) <;> cases decide (t.Kind≤4) <;> rfl
theorem D1n (t:D0):(fm2 t&&fm3 t&&fm4 t&&fm5 t) = !Z1d t:=by
 unfold fm2 fm3 fm4 fm5 Z1d
 simp only [bne]
 generalize (t.Kind == 1)=a
 generalize (t.Kind == 2)=b
 generalize (t.Kind == 3)=c
 generalize (t.Kind == 4)=d
 generalize (t.Low == 0)=e
 generalize (t.High == 0)=f
 generalize (t.Size == 0)=g
 generalize (t.Name == [])=h
 generalize (((t.Names).length:Int) == 0)=i
 cases a <;> cases b <;> cases c <;> cases d <;> cases e <;> cases f <;> cases g <;> cases h <;> cases i <;> rfl
theorem E1n (t:D0):fm6 t = !A1e t:=by
 have hx:(t.Kind == 2)=true→(t.Kind == 3)=false:=fun h=>by
  have:t.Kind=2:=by simpa using h
  rw [this]; rfl
 unfold fm6 A1e
 rw [J11]
 simp only [bne]
 revert hx
 generalize (t.Kind == 2)=b
 generalize (t.Kind == 3)=c
 generalize (((t.Of).length:Int) == 1)=d
 generalize (((t.Of).length:Int) == 0)=e
 generalize (((t.Of).length:Int) == ((t.Names).length:Int))=f
 generalize (decide (((t.Of).length:Int)≥1))=g
 intro hx
 cases b <;> cases c <;> first | (exact absurd (hx rfl) (by decide)) | (cases d <;> cases e <;> cases f <;> cases g <;> rfl)
theorem P1l (t:D0):Oc t=(!Y1d t && !Z1d t && !A1e t):=by
 rw [← C1n,← D1n,← E1n]
 unfold Oc
 simp only [Bool.and_assoc]
def Ki (n:Int):Bool:=bif decide (n≥-1048576) then decide (n≤1048576) else false
def Qq (t:D0):Bool:=
 bif (bif (bif t.Kind == 1 then (bif (bif !Ki t.Low then true else !Ki t.High) then true else decide (t.Low > t.High)) else false) then true else
  (bif t.Kind == 2 then (bif decide (t.Size < 1) then true else decide (t.Size > 32)) else false)) then true else decide (((t.Of).length:Int) > 32)
theorem B1e (t:D0)(hf:Oc t=true):Oq t = !Qq t:=by
 have hk1:(t.Kind == 1)=true→(t.Kind == 2)=false∧(t.Kind == 3)=false:=fun h=>by
  have:t.Kind=1:=by simpa using h
  rw [this]; exact ⟨rfl,rfl⟩
 have hk2:(t.Kind == 2)=true→(t.Kind == 3)=false:=fun h=>by
  have:t.Kind=2:=by simpa using h
  rw [this]; rfl
 have h6:fm6 t=true:=by
  unfold Oc at hf
  simp only [Bool.and_eq_true] at hf
  exact hf.2
 have hin:(bif Q2 t.Low (-1048576) 1048576 then Q2 t.High t.Low 1048576 else false) = !(bif (bif !Ki t.Low then true else !Ki t.High) then true else decide (t.Low > t.High)):=by
  unfold Q2 Ki
  by_cases a1:t.Low≥-1048576 <;> by_cases a2:t.Low≤1048576 <;> by_cases a3:t.High≥-1048576 <;> by_cases a4:t.High≤1048576 <;> by_cases a5:t.High≥t.Low <;>
   simp [a1,a2,a3,a4,a5] <;> omega
 have hsz:Q2 t.Size 1 32 = !(bif decide (t.Size < 1) then true else decide (t.Size > 32)):=by
  unfold Q2
  rw [J11,K11]
  cases decide (t.Size≥1) <;> cases decide (t.Size≤32) <;> rfl
 unfold Oq Qq nm1 nm2
 rw [hin,hsz,K11 (((t.Of).length:Int))]
 have hl:(t.Kind == 3)=false→decide (((t.Of).length:Int)≤32)=true:=fun h3=>by
  unfold fm6 at h6
  rw [h3] at h6
  cases h2:t.Kind == 2 with
  | true=>
   rw [h2] at h6
   have:((t.Of).length:Int)=1:=by simpa using h6
   exact decide_eq_true (by omega)
  | false=>
   rw [h2] at h6
   have:((t.Of).length:Int)=0:=by simpa using h6
   exact decide_eq_true (by omega)
 revert hk1 hk2 hl
 generalize (bif (bif !Ki t.Low then true else !Ki t.High) then true else decide (t.Low > t.High))=X
 generalize (bif decide (t.Size < 1) then true else decide (t.Size > 32))=Y
 generalize decide (((t.Of).length:Int)≤32)=Z
 generalize (t.Kind == 1)=a
 generalize (t.Kind == 2)=b
 generalize (t.Kind == 3)=c
 intro hk1 hk2 hl
 cases a <;> cases b <;> cases c <;> first | exact absurd (hk1 rfl).1 (by decide) | exact absurd (hk1 rfl).2 (by decide) | exact absurd (hk2 rfl) (by decide) | (cases X <;> cases Y <;> cases Z <;> first | rfl | exact absurd (hl rfl) (by decide))
theorem H1f (t:D0):t.all Oc=true→t.all Oq=t.all fun t=>!Qq t:=by
 induction t using D0.ind with
 | h t ih=>
 intro hf
 rw [D0.all_eq,Bool.and_eq_true] at hf
 rw [D0.all_eq,D0.all_eq,B1e t hf.1]
 congr 1
 have:∀ l:List D0,(∀ x∈l,x.all Oc=true→x.all Oq=x.all fun t=>!Qq t)→D0.alls Oc l=true→D0.alls Oq l=D0.alls (fun t=>!Qq t) l:=by
  intro l
  induction l with
  | nil=>intros; rfl
  | cons x r ihr=>
   intro h1 h2
   simp only [D0.alls,Bool.and_eq_true] at h2
   simp only [D0.alls]
   rw [h1 x List.mem_cons_self h2.1,ihr (fun y hy=>h1 y (List.mem_cons_of_mem _ hy)) h2.2]
 exact this t.Of ih hf.2
def eqL {α:Type}(p:α→α→Bool):List α→List α→Bool
 | [],[]=>true
 | x::r,y::s=>p x y&&eqL p r s
 | _,_=>false
theorem Rq {α:Type}(p:α→α→Bool):∀ {l m:List α},l.length≠m.length→eqL p l m=false
 | [],[],h=>absurd rfl h
 | [],_::_,_=>rfl
 | _::_,[],_=>rfl
 | x::r,y::s,h=>by rw [eqL,Rq p (l:=r) (m:=s) (by simpa using h),Bool.and_false]
mutual
def D0.same:D0→D0→Bool
 | .mk k l h s n ns of,t=>k == t.Kind&&l == t.Low&&h == t.High&&s == t.Size&&n == t.Name&&eqL (fun x y=>x == y) ns t.Names&&D0.sames of t.Of
def D0.sames:List D0→List D0→Bool
 | [],[]=>true
 | x::r,y::s=>D0.same x y&&D0.sames r s
 | [],_::_=>false
 | _::_,[]=>false
end
theorem D0.sames_eq:∀ l m:List D0,D0.sames l m=eqL D0.same l m
 | [],[]=>rfl
 | x::r,y::s=>by simp only [D0.sames,eqL,D0.sames_eq r s]
 | [],_::_=>rfl
 | _::_,[]=>rfl
theorem D0.same_eq (t u:D0):t.same u=(t.Kind == u.Kind&&t.Low == u.Low&&t.High == u.High&&t.Size == u.Size&&t.Name == u.Name&&eqL (fun x y=>x == y) t.Names u.Names&&eqL D0.same t.Of u.Of):=by
 rw [← D0.sames_eq]
 cases t
 rfl
def P1a (t u:D0):Bool:=
 bif (bif (bif (bif (bif (bif t.Kind != u.Kind then true else t.Low != u.Low) then true else t.High != u.High) then true else t.Size != u.Size) then true else !(t.Name == u.Name)) then true else
  ((t.Names).length:Int) != ((u.Names).length:Int)) then true else ((t.Of).length:Int) != ((u.Of).length:Int)
theorem R1j {t u:D0}(h:P1a t u=true):t.same u=false:=by
 have hn:((t.Names).length:Int)≠((u.Names).length:Int)→eqL (fun x y=>x == y) t.Names u.Names=false:=fun h=>Rq _ fun e=>h (by omega)
 have ho:((t.Of).length:Int)≠((u.Of).length:Int)→eqL D0.same t.Of u.Of=false:=fun h=>Rq _ fun e=>h (by omega)
 unfold P1a at h
 rw [D0.same_eq]
 by_cases h1:((t.Names).length:Int)=((u.Names).length:Int)
 ·by_cases h2:((t.Of).length:Int)=((u.Of).length:Int)
  ·rw [h1,h2] at h
   revert h
   simp only [bne,beq_self_eq_true,Bool.not_true]
   cases t.Kind == u.Kind <;> cases t.Low == u.Low <;> cases t.High == u.High <;> cases t.Size == u.Size <;> cases t.Name == u.Name <;> simp
  ·rw [ho h2,Bool.and_false]
 ·rw [hn h1,Bool.and_false,Bool.false_and]
theorem Q1l {t u:D0}(h:P1a t u=false):t.same u=(eqL (fun x y=>x == y) t.Names u.Names&&eqL D0.same t.Of u.Of)∧t.Names.length=u.Names.length∧t.Of.length=u.Of.length:=by
 unfold P1a at h
 simp only [bne] at h
 have key:t.Kind == u.Kind∧t.Low == u.Low∧t.High == u.High∧t.Size == u.Size∧t.Name == u.Name∧((t.Names).length:Int) == ((u.Names).length:Int)∧((t.Of).length:Int) == ((u.Of).length:Int):=by
  revert h
  cases t.Kind == u.Kind <;> cases t.Low == u.Low <;> cases t.High == u.High <;> cases t.Size == u.Size <;> cases t.Name == u.Name <;> cases ((t.Names).length:Int) == ((u.Names).length:Int) <;> cases ((t.Of).length:Int) == ((u.Of).length:Int) <;> simp
 obtain ⟨k1,k2,k3,k4,k5,k6,k7⟩:=key
 refine ⟨by rw [D0.same_eq,k1,k2,k3,k4,k5]; rfl,?_,?_⟩
 ·have:(t.Names.length:Int)=u.Names.length:=by simpa using k6
  omega
 ·have:(t.Of.length:Int)=u.Of.length:=by simpa using k7
  omega
end Go.Proofs.YtbmlpamppbcdeaaGreatDoor

set_option linter.unusedSimpArgs false
namespace Go.Proofs.YtbmlpamppbcdeaaGreatDoor
open Go.Am
mutual
def D0.bulk:D0→Nat
 | .mk _ _ _ _ n ns of=>1+(1+(1+(1+((n.length+1)+(((ns.map fun s=>s.length+1).sum+1)+((D0.bulks of+1)+0))))))+1
def D0.bulks:List D0→Nat
 | []=>0
 | x::r=>D0.bulk x+D0.bulks r
end
theorem D0.bulk_eq (t:D0):t.bulk=t.Name.length+(t.Names.map fun s=>s.length+1).sum+D0.bulks t.Of+8:=by cases t; simp only [D0.bulk]; omega
theorem D0.bulk_kid {t:D0}:∀ {l:List D0},t∈l→t.bulk≤D0.bulks l
 | x::r,h=>by
  simp only [D0.bulks]
  cases h with
  | head=>omega
  | tail _ h=>have:=D0.bulk_kid h; omega
theorem D0.bulk_len:∀ l:List D0,l.length≤D0.bulks l
 | []=>Nat.le_refl _
 | x::r=>by
  simp only [D0.bulks,List.length_cons]
  have:=D0.bulk_len r
  have:=D0.bulk_eq x
  omega
theorem C1e {s:Str}:∀ {l:List Str},s∈l→s.length+1≤(l.map fun s=>s.length+1).sum
 | x::r,h=>by
  simp only [List.map_cons,List.sum_cons]
  cases h with
  | head=>omega
  | tail _ h=>have:=C1e h; omega
theorem D1e:∀ l:List Str,l.length≤(l.map fun s=>s.length+1).sum
 | []=>Nat.le_refl _
 | x::r=>by simp only [List.map_cons,List.sum_cons,List.length_cons]; have:=D1e r; omega
mutual
theorem D0.nodes_bulk:∀ t:D0,t.nodes≤t.bulk
 | .mk _ _ _ _ _ _ of=>by simp only [D0.nodes,D0.bulk]; have:=D0.nodess_bulk of; omega
theorem D0.nodess_bulk:∀ l:List D0,D0.nodess l≤D0.bulks l
 | []=>Nat.le_refl _
 | x::r=>by simp only [D0.nodess,D0.bulks]; have:=D0.nodes_bulk x; have:=D0.nodess_bulk r; omega
end
def Ok (t:D0):Prop:=t.bulk≤BB
theorem Ok.kid {t x:D0}(h:Ok t)(hx:x∈t.Of):Ok x:=by
 unfold Ok at *
 have:=D0.bulk_kid hx
 have:=D0.bulk_eq t
 omega
theorem Ok.ofs {t:D0}(h:Ok t):t.Of.length≤BB:=by
 unfold Ok at *
 have:=D0.bulk_len t.Of
 have:=D0.bulk_eq t
 omega
theorem Ok.names {t:D0}(h:Ok t):t.Names.length≤BB:=by
 unfold Ok at *
 have:=D1e t.Names
 have:=D0.bulk_eq t
 omega
theorem Ok.name1 {t:D0}(h:Ok t){s:Str}(hs:s∈t.Names):s.length≤BB:=by
 unfold Ok at *
 have:=C1e hs
 have:=D0.bulk_eq t
 omega
theorem Ok.name {t:D0}(h:Ok t):t.Name.length≤BB:=by
 unfold Ok at *
 have:=D0.bulk_eq t
 omega
theorem Ok.nodes {t:D0}(h:Ok t):t.nodes≤BB:=Nat.le_trans (D0.nodes_bulk t) h
theorem bor (a b:Bool):(bif a then true else b)=(a||b):=by cases a <;> rfl
theorem J17 (d:Int)(o:J0):B5 d o=some ⟨o.nodes,max o.depth d,o.badForm,o.badName,o.badNumber⟩:=rfl
theorem K17 (b:Bool)(o:J0):S0 b o=some ⟨o.nodes,o.depth,o.badForm || !b,o.badName,o.badNumber⟩:=by unfold S0; rw [bor]
theorem Qt (b:Bool)(o:J0):Q1 b o=some ⟨o.nodes,o.depth,o.badForm,o.badName,o.badNumber || !b⟩:=by unfold Q1; rw [bor]
theorem Kk (a b c:Int):S2 a b c=some (Q2 a b c):=rfl
theorem L11 (s:Str)(hs:s.length≤BB)(o:J0):X2 s o=some ⟨o.nodes,o.depth,o.badForm,o.badName || !C9 s,o.badNumber⟩:=by
 unfold X2
 rw [Q1j s hs]
 cases h:o.badName <;> simp
theorem R1l (o:J0):D4 o=some (Pq o.nodes o.depth o.badForm o.badName o.badNumber):=by
 unfold D4 Pq
 cases (bif decide (o.nodes > 1024) then true else decide (o.depth > 12)) <;> cases o.badForm <;> cases o.badName <;> cases o.badNumber <;> rfl
def Xh (o:J0)(d:Int)(n m:Nat)(f a u:Bool):J0:=⟨o.nodes+n,max o.depth (d+m),o.badForm || !f,o.badName || !a,o.badNumber || !u⟩
theorem S1j (t:D0)(d:Int)(hd:0≤d)(ht:Ok t)
  (ih:∀ x∈t.Of,∀ (d:Int) (o:J0),0≤d→d+x.nodes≤4 * BB→0≤o.nodes→o.nodes+x.nodes≤4 * BB→G3 x d o=some (Xh o d x.nodes (x.depth - 1) (x.all Oc) (x.all Al) (x.all Oq))) :
  ∀ (r:List D0) (k:Nat) (o:J0),t.Of.drop k=r→(∀ x∈r,x∈t.Of)→d+1+D0.nodess r≤4 * BB→0≤o.nodes→o.nodes+D0.nodess r≤4 * BB→d≤o.depth→
   A4 t d o k=some (Xh o d (D0.nodess r) (D0.depths r) (D0.alls Oc r) (D0.alls Al r) (D0.alls Oq r))
 | [],k,o,h,_,_,_,_,h5=>by
  rw [A4,(K1 h).1]
  simp only [Xh,D0.nodess,D0.depths,D0.alls,Bool.not_true,Bool.or_false]
  rw [if_neg (by simp),show o.nodes+((0:Nat):Int)=o.nodes by omega,show max o.depth (d+((0:Nat):Int))=o.depth by omega]
 | x::r,k,o,h,hm,hb,h3,h4,h5=>by
  obtain ⟨e1,e2,e3,e4,e5⟩:=Z1 h
  simp only [D0.nodess] at hb h4
  have hdp:1≤x.depth:=by rw [D0.depth_eq]; omega
  have hof:=ht.ofs
  unfold BB at hb h4 hof
  rw [A4,e1,if_pos rfl,e2,ob,wr (n:=d+1) (by omega) (by omega),ih x e5 (d+1) o (by omega) (by unfold BB; omega) h3 (by unfold BB; omega),ob,w1 (by unfold BB; omega),
   S1j t d hd ht ih r (k+1) _ e3 (fun y hy=>hm y (List.mem_cons_of_mem _ hy)) (by unfold BB; omega) (by simp only [Xh]; omega) (by simp only [Xh]; unfold BB; omega) (by simp only [Xh]; omega)]
  simp only [Xh,D0.nodess,D0.depths,D0.alls,Tr]
  rw [show o.nodes+(x.nodes:Int)+(D0.nodess r:Nat)=o.nodes+((x.nodes+D0.nodess r:Nat):Int) by omega,
   show max (max o.depth (d+1+((x.depth - 1:Nat):Int))) (d+(D0.depths r:Nat))=max o.depth (d+((max x.depth (D0.depths r):Nat):Int)) by omega]
theorem T1j (t:D0)(d:Int)(ht:Ok t)(R:J0→Option J0)(hR:∀ o,A4 t d o 0=R o) :
  ∀ (r:List Str) (k:Nat) (o:J0),t.Names.drop k=r→I3 t d o k=R ⟨o.nodes,o.depth,o.badForm,o.badName || !r.all C9,o.badNumber⟩
 | [],k,o,h=>by
  rw [I3,(K1 h).1,if_neg (by simp),hR]
  simp
 | x::r,k,o,h=>by
  obtain ⟨e1,e2,e3,e4,e5⟩:=Z1 h
  have:=ht.names
  rw [I3,e1,if_pos rfl,e2,ob,L11 x (ht.name1 e5),ob,w1 (by omega),T1j t d ht R hR r (k+1) _ e3]
  simp only [List.all_cons,Tr]
theorem U1n (t:D0)(d:Int)(ht:Ok t)(o:J0):F5 t d o=I3 t d ⟨o.nodes,o.depth,o.badForm,o.badName || !na1 t,o.badNumber⟩ 0:=by
 rw [F5,L11 _ ht.name,ob,R6,R6]
 unfold na1
 cases h:t.Kind == 4 <;> simp
theorem V1n (t:D0)(d:Int)(o:J0):D5 t d o=F5 t d ⟨o.nodes,o.depth,o.badForm,o.badName,o.badNumber || !nm2 t⟩:=by
 rw [D5]
 unfold nm2
 simp only [Kk,Qt,ob]
 cases h:t.Kind == 1 <;> cases Q2 t.Low (-1048576) 1048576 <;> simp [ob]
theorem W1n (t:D0):Ok t→∀ (d:Int) (o:J0),0≤d→d+t.nodes≤4 * BB→0≤o.nodes→o.nodes+t.nodes≤4 * BB→
  G3 t d o=some (Xh o d t.nodes (t.depth - 1) (t.all Oc) (t.all Al) (t.all Oq)):=by
 induction t using D0.ind with
 | h t ih=>
 intro ht d o hd hb h3 h4
 have h5:=fun o h3 h4 hd'=>S1j t d hd ht (fun x hx=>ih x hx (ht.kid hx)) t.Of 0 o rfl (fun _ h=>h) (by rw [D0.nodes_eq] at hb; omega) h3 h4 hd'
 have l4:=T1j t d ht _ (fun o=>rfl) t.Names 0
 rw [D0.nodes_eq] at hb h4
 unfold BB at hb h4
 rw [G3]
 simp only [J17,K17,Kk,Qt,ob,V1n,U1n t d ht]
 rw [wr (n:=o.nodes+1) (by omega) (by omega)]
 have fin:∀ b6 u1,fm6 t=b6→nm1 t=u1→
   I3 t d ⟨o.nodes+1,max o.depth d,(((((o.badForm || !fm1 t) || !fm2 t) || !fm3 t) || !fm4 t) || !fm5 t) || !b6,o.badName || !na1 t,(o.badNumber || !u1) || !nm2 t⟩ 0
    = some (Xh o d t.nodes (t.depth - 1) (t.all Oc) (t.all Al) (t.all Oq)):=by
  rintro _ _ rfl rfl
  have:=l4 ⟨o.nodes+1,max o.depth d,(((((o.badForm || !fm1 t) || !fm2 t) || !fm3 t) || !fm4 t) || !fm5 t) || !fm6 t,o.badName || !na1 t,(o.badNumber || !nm1 t) || !nm2 t⟩ rfl
  rw [show ((0:Nat):Int)=0 from rfl] at this h5
  rw [this,h5 _ (by simp only; omega) (by simp only; unfold BB; omega) (by simp only; omega)]
  simp only [Xh,D0.all_eq,D0.nodes_eq,D0.depth_eq,Oc,Al,Oq,Tr,Bool.or_assoc,← Bool.not_and]
  simp only [Tr,Bool.and_assoc]
  rw [show o.nodes+1+(D0.nodess t.Of:Int)=o.nodes+((D0.nodess t.Of+1:Nat):Int) by omega,show max (max o.depth d) (d+(D0.depths t.Of:Int))=max o.depth (d+((D0.depths t.Of+1 - 1:Nat):Int)) by omega]
 have h2:(t.Kind == 2)=true∨(t.Kind == 2)=false:=by cases t.Kind == 2 <;> simp
 have h3:(t.Kind == 3)=true∨(t.Kind == 3)=false:=by cases t.Kind == 3 <;> simp
 rcases h2 with h2 | h2
 ·rw [if_pos h2]
  exact fin ((t.Of.length:Int) == 1) (Q2 t.Size 1 32) (by unfold fm6; rw [h2,cond_true]) (by unfold nm1; rw [h2,cond_true])
 ·rw [if_neg (by rw [h2]; simp)]
  rcases h3 with h3 | h3
  ·rw [if_pos h3]
   exact fin (bif decide ((t.Of.length:Int)≥1) then (t.Of.length:Int) == (t.Names.length:Int) else false) (decide ((t.Of.length:Int)≤32)) (by unfold fm6; rw [h2,h3,cond_false,cond_true]) (by unfold nm1; rw [h2,h3,cond_false,cond_true])
  ·rw [if_neg (by rw [h3]; simp)]
   have:=fin ((t.Of.length:Int) == 0) true (by unfold fm6; rw [h2,h3,cond_false,cond_false]) (by unfold nm1; rw [h2,h3,cond_false,cond_false])
   rw [Bool.not_true,Bool.or_false] at this
   exact this
end Go.Proofs.YtbmlpamppbcdeaaGreatDoor

set_option linter.unusedSimpArgs false
namespace Go.Proofs.YtbmlpamppbcdeaaGreatDoor
open Go.Am
theorem E1e (t:D0)(ht:Ok t)(ih:∀ x∈t.Of,H9 x=some (x.nodes:Int)) :
  ∀ (r:List D0) (k:Nat) (n:Nat),t.Of.drop k=r→n+D0.nodess r≤BB→Ta t (n:Int) k=some ((n+D0.nodess r:Nat):Int)
 | [],k,n,h,hb=>by rw [Ta,(K1 h).1,if_neg (by simp)]; simp [D0.nodess]
 | x::r,k,n,h,hb=>by
  obtain ⟨e1,e2,e3,e4,e5⟩:=Z1 h
  have:=ht.ofs
  simp only [D0.nodess] at hb
  have hb':=hb
  unfold BB at hb'
  rw [Ta,e1,if_pos rfl,e2,ob,ih x e5,ob,wr (n:=(n:Int)+_) (by omega) (by omega),w1 (by omega),show (n:Int)+(x.nodes:Int)=((n+x.nodes:Nat):Int) by omega,E1e t ht ih r (k+1) _ e3 (by omega)]
  simp only [D0.nodess,Nat.add_assoc]
theorem U1j (t:D0):Ok t→H9 t=some (t.nodes:Int):=by
 induction t using D0.ind with
 | h t ih=>
 intro ht
 have hn:=ht.nodes
 rw [D0.nodes_eq] at hn
 rw [H9]
 have:=E1e t ht (fun x hx=>ih x hx (ht.kid hx)) t.Of 0 1 rfl (by omega)
 rw [D0.nodes_eq,Nat.add_comm]
 exact this
theorem L17 (t:D0)(ht:Ok t)(ih:∀ x∈t.Of,I9 x=some (x.depth:Int))(B:Nat)(hB:B≤BB) :
  ∀ (r:List D0) (k:Nat) (n:Nat),t.Of.drop k=r→n≤B→D0.depths r≤B→F8 t (n:Int) k=some ((max n (D0.depths r)+1:Nat):Int)
 | [],k,n,h,hb,_=>by
  rw [F8,(K1 h).1,if_neg (by simp),w1 (by omega)]
  simp [D0.depths]
 | x::r,k,n,h,hb,hd=>by
  obtain ⟨e1,e2,e3,e4,e5⟩:=Z1 h
  have:=ht.ofs
  simp only [D0.depths] at hd
  rw [F8,e1,if_pos rfl,e2,ob,ih x e5,ob,w1 (by omega),L17 t ht ih B hB r (k+1) _ e3 (by omega) (by omega),L17 t ht ih B hB r (k+1) _ e3 (by omega) (by omega)]
  simp only [D0.depths]
  by_cases hx:(x.depth:Int) > (n:Int)
  ·rw [if_pos (decide_eq_true hx),show max n (max x.depth (D0.depths r))=max x.depth (D0.depths r) by omega]
  ·rw [if_neg (by simpa using hx),show max n (max x.depth (D0.depths r))=max n (D0.depths r) by omega]
theorem V1j (t:D0):Ok t→I9 t=some (t.depth:Int):=by
 induction t using D0.ind with
 | h t ih=>
 intro ht
 have hn:=ht.nodes
 have hd:=D0.depth_nodes t
 rw [I9]
 rw [D0.depth_eq] at hd
 have:=L17 t ht (fun x hx=>ih x hx (ht.kid hx)) BB (Nat.le_refl _) t.Of 0 0 rfl (by omega) (by omega)
 rw [D0.depth_eq]
 rw [show max 0 (D0.depths t.Of)=D0.depths t.Of by omega] at this
 exact this
theorem A1g (t:D0)(ht:Ok t)(ih:∀ x∈t.Of,Za x=some (x.all Oc)):∀ (r:List D0) (k:Nat),t.Of.drop k=r→Zc t k=some (D0.alls Oc r)
 | [],k,h=>by rw [Zc,(K1 h).1,if_neg (by simp)]; rfl
 | x::r,k,h=>by
  obtain ⟨e1,e2,e3,e4,e5⟩:=Z1 h
  have:=ht.ofs
  rw [Zc,e1,if_pos rfl,e2,ob,ih x e5,ob,w1 (by omega),A1g t ht ih r (k+1) e3,D0.alls]
  cases x.all Oc <;> simp
theorem S1l (t:D0):Ok t→Za t=some (t.all Oc):=by
 induction t using D0.ind with
 | h t ih=>
 intro ht
 have h1:=A1g t ht (fun x hx=>ih x hx (ht.kid hx)) t.Of 0 rfl
 rw [show ((0:Nat):Int)=0 from rfl] at h1
 rw [Za,h1,D0.all_eq,P1l]
 show (if Y1d t=true then some false else if Z1d t=true then some false else if A1e t=true then some false else some (D0.alls Oc t.Of))=_
 cases Y1d t <;> cases Z1d t <;> cases A1e t <;> simp
theorem F1b (t:D0)(ht:Ok t)(ih:∀ x∈t.Of,N9 x=some (x.all Al)):∀ (r:List D0) (k:Nat),t.Of.drop k=r→H8 t k=some (D0.alls Al r)
 | [],k,h=>by rw [H8,(K1 h).1,if_neg (by simp)]; rfl
 | x::r,k,h=>by
  obtain ⟨e1,e2,e3,e4,e5⟩:=Z1 h
  have:=ht.ofs
  rw [H8,e1,if_pos rfl,e2,ob,ih x e5,ob,w1 (by omega),F1b t ht ih r (k+1) e3,D0.alls]
  cases x.all Al <;> simp
theorem G1b (t:D0)(ht:Ok t)(b:Bool)(hb:H8 t 0=some b):∀ (r:List Str) (k:Nat),t.Names.drop k=r→Db t k=some (r.all C9&&b)
 | [],k,h=>by rw [Db,(K1 h).1,if_neg (by simp),hb]; rfl
 | x::r,k,h=>by
  obtain ⟨e1,e2,e3,e4,e5⟩:=Z1 h
  have:=ht.names
  rw [Db,e1,if_pos rfl,e2,ob,Sl x (ht.name1 e5),ob,w1 (by omega),G1b t ht b hb r (k+1) e3,List.all_cons]
  cases C9 x <;> simp
theorem W1j (t:D0):Ok t→N9 t=some (t.all Al):=by
 induction t using D0.ind with
 | h t ih=>
 intro ht
 have h2:=F1b t ht (fun x hx=>ih x hx (ht.kid hx)) t.Of 0 rfl
 have h1:=G1b t ht _ h2 t.Names 0 rfl
 rw [show ((0:Nat):Int)=0 from rfl] at h1
 rw [N9,h1,D0.all_eq,Sl t.Name ht.name]
 unfold Al na1
 cases t.Kind == 4 <;> cases C9 t.Name <;> simp
theorem G19 (t:D0)(ht:Ok t)(ih:∀ x∈t.Of,M7 x=some (x.all fun t=>!Qq t)):∀ (r:List D0) (k:Nat),t.Of.drop k=r→S8 t k=some (D0.alls (fun t=>!Qq t) r)
 | [],k,h=>by rw [S8,(K1 h).1,if_neg (by simp)]; rfl
 | x::r,k,h=>by
  obtain ⟨e1,e2,e3,e4,e5⟩:=Z1 h
  have:=ht.ofs
  rw [S8,e1,if_pos rfl,e2,ob,ih x e5,ob,w1 (by omega),G19 t ht ih r (k+1) e3,D0.alls]
  cases x.all (fun t=>!Qq t) <;> simp
theorem Gx (n:Int):Gf n=some (Ki n):=rfl
theorem I1f (t:D0):Ok t→M7 t=some (t.all fun t=>!Qq t):=by
 induction t using D0.ind with
 | h t ih=>
 intro ht
 have h1:=G19 t ht (fun x hx=>ih x hx (ht.kid hx)) t.Of 0 rfl
 rw [show ((0:Nat):Int)=0 from rfl] at h1
 rw [M7,h1,D0.all_eq]
 simp only [Gx]
 generalize D0.alls (fun t=>!Qq t) t.Of=A
 unfold Qq
 generalize decide ((t.Of.length:Int) > 32)=b1
 generalize (bif t.Kind == 2 then (bif decide (t.Size < 1) then true else decide (t.Size > 32)) else false)=b2
 generalize decide (t.Low > t.High)=b3
 cases t.Kind == 1 <;> cases Ki t.Low <;> cases Ki t.High <;> cases b1 <;> cases b2 <;> cases b3 <;> rfl
theorem J1f (s:P0)(f m u:Bool):Uk s f m u=some (Pq s.nodes s.depth (!f) (!m) (!u)):=by
 unfold Uk Pq
 cases (bif decide (s.nodes > 1024) then true else decide (s.depth > 12)) <;> cases f <;> cases m <;> cases u <;> rfl
end Go.Proofs.YtbmlpamppbcdeaaGreatDoor

set_option linter.unusedSimpArgs false
set_option linter.unusedVariables false
namespace Go.Proofs.YtbmlpamppbcdeaaGreatDoor
open Go.Am
theorem A0.ind {P:A0→Prop}(h:∀ t:A0,(∀ x∈t.Kids,P x)→P t):∀ t,P t:=by
 intro t
 refine A0.rec (motive_1:=P) (motive_2:=fun l=>∀ x∈l,P x) ?_ ?_ ?_ t
 ·intro k l n of ih
  exact h _ ih
 ·intro x hx; cases hx
 ·intro x r hx hr y hy
  cases hy with
  | head=>exact hx
  | tail _ hy=>exact hr y hy
mutual
def A0.depth:A0→Nat
 | .mk _ _ _ of=>A0.depths of+1
def A0.depths:List A0→Nat
 | []=>0
 | t::r=>max (A0.depth t) (A0.depths r)
end
theorem A0.depth_eq (t:A0):t.depth=A0.depths t.Kids+1:=by cases t; simp [A0.depth,A0.Kids]
mutual
def A0.all (p:A0→Bool):A0→Bool
 | .mk k l n of=>p (.mk k l n of)&&A0.alls p of
def A0.alls (p:A0→Bool):List A0→Bool
 | []=>true
 | t::r=>A0.all p t&&A0.alls p r
end
theorem A0.all_eq (p:A0→Bool)(t:A0):t.all p=(p t&&A0.alls p t.Kids):=by cases t; rfl
mutual
def A0.nodes:A0→Nat
 | .mk _ _ _ of=>A0.nodess of+1
def A0.nodess:List A0→Nat
 | []=>0
 | t::r=>A0.nodes t+A0.nodess r
end
theorem A0.nodes_eq (t:A0):t.nodes=A0.nodess t.Kids+1:=by cases t; rfl
mutual
theorem A0.depth_nodes:∀ t:A0,t.depth≤t.nodes
 | .mk _ _ _ of=>by simp only [A0.depth,A0.nodes]; have:=A0.depths_nodess of; omega
theorem A0.depths_nodess:∀ l:List A0,A0.depths l≤A0.nodess l
 | []=>Nat.le_refl _
 | t::r=>by simp only [A0.depths,A0.nodess]; have:=A0.depth_nodes t; have:=A0.depths_nodess r; omega
end
mutual
def A0.bulk:A0→Nat
 | .mk _ _ n ks=>1+(1+((n.length+1)+((A0.bulks ks+1)+0)))+1
def A0.bulks:List A0→Nat
 | []=>0
 | x::r=>A0.bulk x+A0.bulks r
end
theorem A0.bulk_eq (t:A0):t.bulk=t.Name.length+A0.bulks t.Kids+5:=by cases t; simp only [A0.bulk]; omega
theorem A0.bulk_kid {t:A0}:∀ {l:List A0},t∈l→t.bulk≤A0.bulks l
 | x::r,h=>by
  simp only [A0.bulks]
  cases h with
  | head=>omega
  | tail _ h=>have:=A0.bulk_kid h; omega
theorem A0.bulk_len:∀ l:List A0,l.length≤A0.bulks l
 | []=>Nat.le_refl _
 | x::r=>by
  simp only [A0.bulks,List.length_cons]
  have:=A0.bulk_len r
  have:=A0.bulk_eq x
  omega
mutual
theorem A0.nodes_bulk:∀ t:A0,t.nodes≤t.bulk
 | .mk _ _ _ of=>by simp only [A0.nodes,A0.bulk]; have:=A0.nodess_bulk of; omega
theorem A0.nodess_bulk:∀ l:List A0,A0.nodess l≤A0.bulks l
 | []=>Nat.le_refl _
 | x::r=>by simp only [A0.nodess,A0.bulks]; have:=A0.nodes_bulk x; have:=A0.nodess_bulk r; omega
end
def OkE (t:A0):Prop:=t.bulk≤BB
theorem OkE.kid {t x:A0}(h:OkE t)(hx:x∈t.Kids):OkE x:=by
 unfold OkE at *
 have:=A0.bulk_kid hx
 have:=A0.bulk_eq t
 omega
theorem OkE.kids {t:A0}(h:OkE t):t.Kids.length≤BB:=by
 unfold OkE at *
 have:=A0.bulk_len t.Kids
 have:=A0.bulk_eq t
 omega
theorem OkE.name {t:A0}(h:OkE t):t.Name.length≤BB:=by
 unfold OkE at *
 have:=A0.bulk_eq t
 omega
theorem OkE.nodes {t:A0}(h:OkE t):t.nodes≤BB:=Nat.le_trans (A0.nodes_bulk t) h
def ar (o:Int):Int:=
 bif (bif (bif (bif (o == 0) then true else (o == 1)) then true else (o == 2)) then true else (o == 3)) then 0
 else bif (bif (bif (o == 4) then true else (o == 6)) then true else (o == 7)) then 1
 else bif (bif (o == 5) then true else (bif (decide (o≥8)) then (decide (o≤22)) else false)) then 2
 else bif (o == 23) then 3 else -1
theorem F1n (o:Int):Ro o=some (ar o):=by
 unfold Ro ar
 cases (bif (bif (bif (o == 0) then true else (o == 1)) then true else (o == 2)) then true else (o == 3)) <;> cases (bif (bif (o == 4) then true else (o == 6)) then true else (o == 7)) <;>
  cases (bif (o == 5) then true else (bif (decide (o≥8)) then (decide (o≤22)) else false)) <;> cases o == 23 <;> rfl
theorem T1l (o:Int):Jh o=some (ar o):=by
 by_cases h:o=23
 ·subst h; rfl
 have h':(o == 23)=false:=beq_eq_false_iff_ne.2 h
 simp only [Jh,R7,D9,ar,h']
 cases o == 0 <;> cases o == 1 <;> cases o == 2 <;> cases o == 3 <;> first | rfl | skip
 cases o == 4 <;> cases o == 6 <;> cases o == 7 <;> first | rfl | skip
 cases o == 5 <;> cases (bif decide (o≥8) then decide (o≤22) else false) <;> rfl
mutual
def A0.place:A0→Bool
 | .mk op _ _ ks=>bif op == 3 then true else bif (bif op == 4 then true else op == 5) then A0.place1 ks else false
def A0.place1:List A0→Bool
 | []=>false
 | x::_=>A0.place x
end
theorem A0.place_eq (e:A0):e.place=(bif e.Op == 3 then true else bif (bif e.Op == 4 then true else e.Op == 5) then A0.place1 e.Kids else false):=by cases e; simp only [A0.place]
theorem b3 {o:Int}(h:(bif o == 4 then true else o == 5)=true):(o == 3)=false:=by
 apply beq_eq_false_iff_ne.2
 rintro rfl
 cases h
theorem H1b (e:A0):Ze e=some e.place:=by
 unfold Ze
 induction e using A0.ind with
 | h e ih=>
 rw [S7,A0.place_eq]
 cases hb:(bif e.Op == 4 then true else e.Op == 5) with
 | false=>cases e.Op == 3 <;> simp
 | true=>
  rw [b3 hb]
  cases hk:e.Kids with
  | nil=>rfl
  | cons k r=>
   have:=ih k (by rw [hk]; simp)
   have h0:idx (k::r) 0=some k:=rfl
   have h1:(((k::r).length:Int) == 0)=false:=beq_eq_false_iff_ne.2 (by simp only [List.length_cons]; omega)
   simp only [h1,h0,ob,this,cond_true,cond_false,A0.place1]
   simp
theorem I1b (e:A0):Gd e=some e.place:=by
 induction e using A0.ind with
 | h e ih=>
 rw [Gd,A0.place_eq]
 cases h3:e.Op == 3 with
 | true=>simp
 | false=>
  cases hb:(bif e.Op == 4 then true else e.Op == 5) with
  | false=>simp [ob]
  | true=>
   cases hk:e.Kids with
   | nil=>simp [ob,A0.place1]
   | cons k r=>
    have:=ih k (by rw [hk]; simp)
    have h0:idx (k::r) 0=some k:=rfl
    have h1:decide (((k::r).length:Int) > 0)=true:=decide_eq_true (by simp only [List.length_cons]; omega)
    simp only [h1,h0,ob,cond_true,cond_false,A0.place1]
    simp [ob,this]
def ef1 (e:A0):Bool:=ar e.Op == (e.Kids.length:Int)
def ef2 (e:A0):Bool:=bif e.NV == 0 then true else e.Op == 0
def ef3 (e:A0):Bool:=bif e.Name == [] then true else bif e.Op == 3 then true else e.Op == 4
def ef4 (e:A0):Bool:=bif (bif e.Op == 4 then true else e.Op == 5) then e.place else true
def S5 (e:A0):Bool:=ef1 e&&ef2 e&&ef3 e&&ef4 e
def F6 (e:A0):Bool:=bif (bif e.Op == 3 then true else e.Op == 4) then C9 e.Name else true
def T5 (e:A0):Bool:=bif e.Op == 0 then Q2 e.NV 0 1048576 else true
theorem B1g (e:A0)(d:Int)(hd:0≤d)(ht:OkE e)
  (ih:∀ x∈e.Kids,∀ (d:Int) (o:J0),0≤d→d+x.nodes≤4 * BB→0≤o.nodes→o.nodes+x.nodes≤4 * BB→C2 x d o=some (Xh o d x.nodes (x.depth - 1) (x.all S5) (x.all F6) (x.all T5))) :
  ∀ (r:List A0) (k:Nat) (o:J0),e.Kids.drop k=r→d+1+A0.nodess r≤4 * BB→0≤o.nodes→o.nodes+A0.nodess r≤4 * BB→d≤o.depth→
   C3 e d o k=some (Xh o d (A0.nodess r) (A0.depths r) (A0.alls S5 r) (A0.alls F6 r) (A0.alls T5 r))
 | [],k,o,h,_,_,_,h5=>by
  rw [C3,(K1 h).1]
  simp only [Xh,A0.nodess,A0.depths,A0.alls,Bool.not_true,Bool.or_false]
  rw [if_neg (by simp),show o.nodes+((0:Nat):Int)=o.nodes by omega,show max o.depth (d+((0:Nat):Int))=o.depth by omega]
 | x::r,k,o,h,hb,h3,h4,h5=>by
  obtain ⟨e1,e2,e3,e4,e5⟩:=Z1 h
  simp only [A0.nodess] at hb h4
  have hdp:1≤x.depth:=by rw [A0.depth_eq]; omega
  have hof:=ht.kids
  unfold BB at hb h4 hof
  rw [C3,e1,if_pos rfl,e2,ob,wr (n:=d+1) (by omega) (by omega),ih x e5 (d+1) o (by omega) (by unfold BB; omega) h3 (by unfold BB; omega),ob,w1 (by unfold BB; omega),
   B1g e d hd ht ih r (k+1) _ e3 (by unfold BB; omega) (by simp only [Xh]; omega) (by simp only [Xh]; unfold BB; omega) (by simp only [Xh]; omega)]
  simp only [Xh,A0.nodess,A0.depths,A0.alls,Tr]
  rw [show o.nodes+(x.nodes:Int)+(A0.nodess r:Nat)=o.nodes+((x.nodes+A0.nodess r:Nat):Int) by omega,
   show max (max o.depth (d+1+((x.depth - 1:Nat):Int))) (d+(A0.depths r:Nat))=max o.depth (d+((max x.depth (A0.depths r):Nat):Int)) by omega]
theorem U1l (e:A0)(ht:OkE e)(d:Int)(o:J0):U5 e d o=C3 e d ⟨o.nodes,o.depth,o.badForm,o.badName || !F6 e,o.badNumber || !T5 e⟩ 0:=by
 rw [U5,L11 _ ht.name,ob]
 simp only [U7,V7,Kk,Qt,ob]
 unfold F6 T5
 cases (bif e.Op == 3 then true else e.Op == 4) <;> cases e.Op == 0 <;> simp
theorem V1l (e:A0):OkE e→∀ (d:Int) (o:J0),0≤d→d+e.nodes≤4 * BB→0≤o.nodes→o.nodes+e.nodes≤4 * BB→
  C2 e d o=some (Xh o d e.nodes (e.depth - 1) (e.all S5) (e.all F6) (e.all T5)):=by
 induction e using A0.ind with
 | h e ih=>
 intro ht d o hd hb h3 h4
 have h5:=fun o h3 h4 hd'=>B1g e d hd ht (fun x hx=>ih x hx (ht.kid hx)) e.Kids 0 o rfl (by rw [A0.nodes_eq] at hb; omega) h3 h4 hd'
 rw [A0.nodes_eq] at hb h4
 unfold BB at hb h4
 rw [C2]
 simp only [J17,K17,T1l,H1b,ob,U1l e ht]
 rw [wr (n:=o.nodes+1) (by omega) (by omega)]
 rw [show ((0:Nat):Int)=0 from rfl] at h5
 have fin:∀ f:Bool,ef4 e=f→C3 e d ⟨o.nodes+1,max o.depth d,(((o.badForm || !ef1 e) || !ef2 e) || !ef3 e) || !f,o.badName || !F6 e,o.badNumber || !T5 e⟩ 0=some (Xh o d e.nodes (e.depth - 1) (e.all S5) (e.all F6) (e.all T5)):=by
  rintro _ rfl
  rw [h5 _ (by simp only; omega) (by simp only; unfold BB; omega) (by simp only; omega)]
  simp only [Xh,A0.all_eq,A0.nodes_eq,A0.depth_eq,S5,Tr,Bool.or_assoc,← Bool.not_and]
  simp only [Tr,Bool.and_assoc]
  rw [show o.nodes+1+(A0.nodess e.Kids:Int)=o.nodes+((A0.nodess e.Kids+1:Nat):Int) by omega,show max (max o.depth d) (d+(A0.depths e.Kids:Int))=max o.depth (d+((A0.depths e.Kids+1 - 1:Nat):Int)) by omega]
 cases hb:(bif e.Op == 4 then true else e.Op == 5) with
 | true=>
  rw [if_pos rfl]
  exact fin e.place (by unfold ef4; rw [hb]; rfl)
 | false=>
  rw [if_neg (by simp)]
  have:=fin true (by unfold ef4; rw [hb]; rfl)
  rw [Bool.not_true,Bool.or_false] at this
  exact this
end Go.Proofs.YtbmlpamppbcdeaaGreatDoor

set_option linter.unusedSimpArgs false
set_option linter.unusedVariables false
namespace Go.Proofs.YtbmlpamppbcdeaaGreatDoor
open Go.Am
theorem J1b (t:A0)(ht:OkE t)(ih:∀ x∈t.Kids,K9 x=some (x.nodes:Int)) :
  ∀ (r:List A0) (k:Nat) (n:Nat),t.Kids.drop k=r→n+A0.nodess r≤BB→Xa t (n:Int) k=some ((n+A0.nodess r:Nat):Int)
 | [],k,n,h,hb=>by rw [Xa,(K1 h).1,if_neg (by simp)]; simp [A0.nodess]
 | x::r,k,n,h,hb=>by
  obtain ⟨e1,e2,e3,e4,e5⟩:=Z1 h
  have:=ht.kids
  simp only [A0.nodess] at hb
  have hb':=hb
  unfold BB at hb'
  rw [Xa,e1,if_pos rfl,e2,ob,ih x e5,ob,wr (n:=(n:Int)+_) (by omega) (by omega),w1 (by omega),show (n:Int)+(x.nodes:Int)=((n+x.nodes:Nat):Int) by omega,J1b t ht ih r (k+1) _ e3 (by omega)]
  simp only [A0.nodess,Nat.add_assoc]
theorem P1h (t:A0):OkE t→K9 t=some (t.nodes:Int):=by
 induction t using A0.ind with
 | h t ih=>
 intro ht
 have hn:=ht.nodes
 rw [A0.nodes_eq] at hn
 rw [K9]
 have:=J1b t ht (fun x hx=>ih x hx (ht.kid hx)) t.Kids 0 1 rfl (by omega)
 rw [A0.nodes_eq,Nat.add_comm]
 exact this
theorem A15 (t:A0)(ht:OkE t)(ih:∀ x∈t.Kids,L9 x=some (x.depth:Int))(B:Nat)(hB:B≤BB) :
  ∀ (r:List A0) (k:Nat) (n:Nat),t.Kids.drop k=r→n≤B→A0.depths r≤B→G8 t (n:Int) k=some ((max n (A0.depths r)+1:Nat):Int)
 | [],k,n,h,hb,_=>by
  rw [G8,(K1 h).1,if_neg (by simp),w1 (by omega)]
  simp [A0.depths]
 | x::r,k,n,h,hb,hd=>by
  obtain ⟨e1,e2,e3,e4,e5⟩:=Z1 h
  have:=ht.kids
  simp only [A0.depths] at hd
  rw [G8,e1,if_pos rfl,e2,ob,ih x e5,ob,w1 (by omega),A15 t ht ih B hB r (k+1) _ e3 (by omega) (by omega),A15 t ht ih B hB r (k+1) _ e3 (by omega) (by omega)]
  simp only [A0.depths]
  by_cases hx:(x.depth:Int) > (n:Int)
  ·rw [if_pos (decide_eq_true hx),show max n (max x.depth (A0.depths r))=max x.depth (A0.depths r) by omega]
  ·rw [if_neg (by simpa using hx),show max n (max x.depth (A0.depths r))=max n (A0.depths r) by omega]
theorem Q1h (t:A0):OkE t→L9 t=some (t.depth:Int):=by
 induction t using A0.ind with
 | h t ih=>
 intro ht
 have hn:=ht.nodes
 have hd:=A0.depth_nodes t
 rw [L9]
 rw [A0.depth_eq] at hd
 have:=A15 t ht (fun x hx=>ih x hx (ht.kid hx)) BB (Nat.le_refl _) t.Kids 0 0 rfl (by omega) (by omega)
 rw [A0.depth_eq]
 rw [show max 0 (A0.depths t.Kids)=A0.depths t.Kids by omega] at this
 exact this
theorem Ur (n:Int)(d:Int)(m:Int):J7 ⟨n,d⟩ m=some ⟨n,max d m⟩:=by
 unfold J7
 by_cases h:m > d
 ·rw [if_pos (decide_eq_true h),show max d m=m by omega]
 ·rw [if_neg (by simpa using h),show max d m=d by omega]
theorem F1e (e:A0)(ht:OkE e)(ih:∀ x∈e.Kids,Z4 x=some (x.all S5)):∀ (r:List A0) (k:Nat),e.Kids.drop k=r→Ad e k=some (A0.alls S5 r)
 | [],k,h=>by rw [Ad,(K1 h).1,if_neg (by simp)]; rfl
 | x::r,k,h=>by
  obtain ⟨e1,e2,e3,e4,e5⟩:=Z1 h
  have:=ht.kids
  rw [Ad,e1,if_pos rfl,e2,ob,ih x e5,ob,w1 (by omega),F1e e ht ih r (k+1) e3,A0.alls]
  cases x.all S5 <;> simp
theorem Hx (e:A0):OkE e→Z4 e=some (e.all S5):=by
 induction e using A0.ind with
 | h e ih=>
 intro ht
 have h1:=F1e e ht (fun x hx=>ih x hx (ht.kid hx)) e.Kids 0 rfl
 rw [show ((0:Nat):Int)=0 from rfl] at h1
 rw [Z4,h1,A0.all_eq,I1b,F1n,ob]
 generalize A0.alls S5 e.Kids=A
 have hb:(bif (bif (ar e.Op != (e.Kids.length:Int)) then true else (bif (e.Op != 0) then (e.NV != 0) else false)) then true else (bif (bif (e.Op != 3) then (e.Op != 4) else false) then (!(e.Name == [])) else false)) = !(ef1 e&&ef2 e&&ef3 e):=by
  unfold ef1 ef2 ef3
  simp only [bne]
  cases ar e.Op == (e.Kids.length:Int) <;> cases e.NV == 0 <;> cases e.Op == 0 <;> cases e.Name == [] <;> cases e.Op == 3 <;> cases e.Op == 4 <;> rfl
 rw [hb]
 unfold S5 ef4
 cases (ef1 e&&ef2 e&&ef3 e) <;> cases (bif e.Op == 4 then true else e.Op == 5) <;> cases e.place <;> simp [ob]
theorem K1b (e:A0)(ht:OkE e)(ih:∀ x∈e.Kids,N4 x=some (x.all F6)):∀ (r:List A0) (k:Nat),e.Kids.drop k=r→Eb e k=some (A0.alls F6 r)
 | [],k,h=>by rw [Eb,(K1 h).1,if_neg (by simp)]; rfl
 | x::r,k,h=>by
  obtain ⟨e1,e2,e3,e4,e5⟩:=Z1 h
  have:=ht.kids
  rw [Eb,e1,if_pos rfl,e2,ob,ih x e5,ob,w1 (by omega),K1b e ht ih r (k+1) e3,A0.alls]
  cases x.all F6 <;> simp
theorem Rt (e:A0):OkE e→N4 e=some (e.all F6):=by
 induction e using A0.ind with
 | h e ih=>
 intro ht
 have h1:=K1b e ht (fun x hx=>ih x hx (ht.kid hx)) e.Kids 0 rfl
 rw [show ((0:Nat):Int)=0 from rfl] at h1
 rw [N4,h1,A0.all_eq,Sl e.Name ht.name]
 generalize A0.alls F6 e.Kids=A
 unfold F6
 cases (bif e.Op == 3 then true else e.Op == 4) <;> cases C9 e.Name <;> simp [ob]
theorem L16 (e:A0)(ht:OkE e)(ih:∀ x∈e.Kids,H3 x=some (x.all T5)):∀ (r:List A0) (k:Nat),e.Kids.drop k=r→T8 e k=some (A0.alls T5 r)
 | [],k,h=>by rw [T8,(K1 h).1,if_neg (by simp)]; rfl
 | x::r,k,h=>by
  obtain ⟨e1,e2,e3,e4,e5⟩:=Z1 h
  have:=ht.kids
  rw [T8,e1,if_pos rfl,e2,ob,ih x e5,ob,w1 (by omega),L16 e ht ih r (k+1) e3,A0.alls]
  cases x.all T5 <;> simp
theorem Bp (e:A0):OkE e→H3 e=some (e.all T5):=by
 induction e using A0.ind with
 | h e ih=>
 intro ht
 have h1:=L16 e ht (fun x hx=>ih x hx (ht.kid hx)) e.Kids 0 rfl
 rw [show ((0:Nat):Int)=0 from rfl] at h1
 rw [H3,h1,A0.all_eq]
 have:T5 e = !(bif (e.Op == 0) then (bif (decide (e.NV < 0)) then true else (decide (e.NV > 1048576))) else false):=by
  unfold T5 Q2
  rw [J11,K11]
  cases e.Op == 0 <;> cases decide (e.NV≥0) <;> cases decide (e.NV≤1048576) <;> rfl
 rw [this]
 cases (bif (e.Op == 0) then (bif (decide (e.NV < 0)) then true else (decide (e.NV > 1048576))) else false) <;> simp
theorem C1g (e:A0)(ht:OkE e)(ih:∀ x∈e.Kids,∀ n,∃ m,V5 x n=some m):∀ (r:List A0) (k:Nat) (n:Int),e.Kids.drop k=r→∃ m,Wc e n k=some m
 | [],k,n,h=>by rw [Wc,(K1 h).1]; exact ⟨_,rfl⟩
 | x::r,k,n,h=>by
  obtain ⟨e1,e2,e3,e4,e5⟩:=Z1 h
  have:=ht.kids
  rw [Wc,e1,e2]
  cases decide (n≥0) with
  | false=>exact ⟨_,rfl⟩
  | true=>
   obtain ⟨m,hm⟩:=ih x e5 n
   rw [cond_true,if_pos rfl,ob,hm,ob,w1 (by omega)]
   exact C1g e ht ih r (k+1) m e3
theorem Tt (e:A0):OkE e→∀ n,∃ m,V5 e n=some m:=by
 induction e using A0.ind with
 | h e ih=>
 intro ht n
 rw [V5]
 exact C1g e ht (fun x hx=>ih x hx (ht.kid hx)) e.Kids 0 _ rfl
theorem M17 (t:D0)(ht:Ok t)(ih:∀ x∈t.Of,∀ n,∃ m,Q8 x n=some m):∀ (r:List D0) (k:Nat) (n:Int),t.Of.drop k=r→∃ m,Uc t n k=some m
 | [],k,n,h=>by rw [Uc,(K1 h).1]; exact ⟨_,rfl⟩
 | x::r,k,n,h=>by
  obtain ⟨e1,e2,e3,e4,e5⟩:=Z1 h
  have:=ht.ofs
  rw [Uc,e1,e2]
  cases decide (n≥0) with
  | false=>exact ⟨_,rfl⟩
  | true=>
   obtain ⟨m,hm⟩:=ih x e5 n
   rw [cond_true,if_pos rfl,ob,hm,ob,w1 (by omega)]
   exact M17 t ht ih r (k+1) m e3
theorem G1e (t:D0)(ht:Ok t)(ih:∀ x∈t.Of,∀ n,∃ m,Q8 x n=some m):∀ (r:List Str) (k:Nat) (n:Int),t.Names.drop k=r→∃ m,Tc t n k=some m
 | [],k,n,h=>by rw [Tc,(K1 h).1]; exact M17 t ht ih t.Of 0 n rfl
 | x::r,k,n,h=>by
  obtain ⟨e1,e2,e3,e4,e5⟩:=Z1 h
  have:=ht.names
  rw [Tc,e1,e2]
  cases decide (n≥0) with
  | false=>exact M17 t ht ih t.Of 0 n rfl
  | true=>
   rw [cond_true,if_pos rfl,ob,w1 (by omega)]
   exact G1e t ht ih r (k+1) _ e3
theorem R1h (t:D0):Ok t→∀ n,∃ m,Q8 t n=some m:=by
 induction t using D0.ind with
 | h t ih=>
 intro ht n
 rw [Q8]
 exact G1e t ht (fun x hx=>ih x hx (ht.kid hx)) t.Names 0 _ rfl
end Go.Proofs.YtbmlpamppbcdeaaGreatDoor

set_option linter.unusedSimpArgs false
set_option linter.unusedVariables false
namespace Go.Proofs.YtbmlpamppbcdeaaGreatDoor
open Go.Am
end Go.Proofs.YtbmlpamppbcdeaaGreatDoor

set_option linter.unusedSimpArgs false
set_option linter.unusedVariables false
namespace Go.Proofs.YtbmlpamppbcdeaaGreatDoor
open Go.Am
end Go.Proofs.YtbmlpamppbcdeaaGreatDoor

set_option linter.unusedSimpArgs false
set_option linter.unusedVariables false
set_option maxHeartbeats 800000
namespace Go.Proofs.YtbmlpamppbcdeaaGreatDoor
open Go.Am
end Go.Proofs.YtbmlpamppbcdeaaGreatDoor

set_option linter.unusedSimpArgs false
set_option linter.unusedVariables false
namespace Go.Proofs.YtbmlpamppbcdeaaGreatDoor
open Go.Am
theorem O15 {α:Type}{l:List α}{k:Nat}(h:k < l.length):∃ y,idx l (k:Int)=some y∧l.drop k=y::l.drop (k+1)∧y∈l:=by
 refine ⟨l[k],?_,List.drop_eq_getElem_cons h,List.getElem_mem h⟩
 unfold idx
 rw [if_pos (by omega)]
 simp [h]
theorem z0:(0:Int)=((0:Nat):Int):=rfl
theorem L1b (t u:D0)(ht:Ok t)(hl:t.Of.length=u.Of.length)(ih:∀ x∈t.Of,∀ y,G9 x y=some (x.same y)) :
  ∀ (r:List D0) (k:Nat),t.Of.drop k=r→E8 t u k=some (eqL D0.same r (u.Of.drop k))
 | [],k,h=>by
  rw [E8,(K1 h).1,if_neg (by simp),List.drop_eq_nil_of_le (by have:=(K1 h).2; omega)]; rfl
 | x::r,k,h=>by
  obtain ⟨e1,e2,e3,e4,e5⟩:=Z1 h
  obtain ⟨y,f1,f2,f3⟩:=O15 (l:=u.Of) (k:=k) (by omega)
  have:=ht.ofs
  rw [E8,e1,if_pos rfl,e2,ob,f1,ob,ih x e5 y,ob,w1 (by omega),L1b t u ht hl ih r (k+1) e3,f2,eqL]
  cases x.same y <;> simp
theorem M1b (t u:D0)(ht:Ok t)(hl:t.Names.length=u.Names.length)(b:Bool)(hb:E8 t u 0=some b) :
  ∀ (r:List Str) (k:Nat),t.Names.drop k=r→Sa t u k=some (eqL (fun x y=>x == y) r (u.Names.drop k)&&b)
 | [],k,h=>by
  rw [Sa,(K1 h).1,if_neg (by simp),List.drop_eq_nil_of_le (by have:=(K1 h).2; omega),hb]; rfl
 | x::r,k,h=>by
  obtain ⟨e1,e2,e3,e4,e5⟩:=Z1 h
  obtain ⟨y,f1,f2,f3⟩:=O15 (l:=u.Names) (k:=k) (by omega)
  have:=ht.names
  rw [Sa,e1,if_pos rfl,e2,ob,f1,ob,w1 (by omega),M1b t u ht hl b hb r (k+1) e3,f2,eqL]
  cases x == y <;> simp
theorem X1j (t:D0):Ok t→∀ u,G9 t u=some (t.same u):=by
 induction t using D0.ind with
 | h t ih=>
 intro ht u
 have ih':=fun x hx=>ih x hx (ht.kid hx)
 rw [G9]
 show (if P1a t u=true then _ else _)=_
 cases hd:P1a t u with
 | true=>rw [if_pos rfl,R1j hd]
 | false=>
  obtain ⟨h1,h2,h3⟩:=Q1l hd
  have h4:=L1b t u ht h3 ih' t.Of 0 rfl
  have h5:=M1b t u ht h2 _ h4 t.Names 0 rfl
  rw [if_neg (by simp),z0,h5,h1]
  rfl
theorem H1e (s u:List Str)(hs:s.length≤BB)(hl:s.length=u.length):∀ (r:List Str) (k:Nat),s.drop k=r→U1 s u k=some (eqL (fun x y=>x == y) r (u.drop k))
 | [],k,h=>by
  rw [U1,(K1 h).1,if_neg (by simp),List.drop_eq_nil_of_le (by have:=(K1 h).2; omega)]; rfl
 | x::r,k,h=>by
  obtain ⟨e1,e2,e3,e4,e5⟩:=Z1 h
  obtain ⟨y,f1,f2,f3⟩:=O15 (l:=u) (k:=k) (by omega)
  rw [U1,e1,if_pos rfl,e2,ob,f1,ob,w1 (by omega),H1e s u hs hl r (k+1) e3,f2,eqL]
  cases x == y <;> simp
theorem Y1j (s u:List Str)(hs:s.length≤BB):W3 s u=some (eqL (fun x y=>x == y) s u):=by
 unfold W3
 by_cases hl:s.length=u.length
 ·rw [if_neg (by simp; omega),z0,H1e s u hs hl s 0 rfl]; rfl
 ·rw [if_pos (by simp; omega),Rq _ hl]
theorem I1e (s u:List D0)(hs:s.length≤BB)(hl:s.length=u.length)(ih:∀ x∈s,∀ y,P4 x y=some (x.same y)) :
  ∀ (r:List D0) (k:Nat),s.drop k=r→Y0 s u k=some (eqL D0.same r (u.drop k))
 | [],k,h=>by
  rw [Y0,(K1 h).1,if_neg (by simp),List.drop_eq_nil_of_le (by have:=(K1 h).2; omega)]; rfl
 | x::r,k,h=>by
  obtain ⟨e1,e2,e3,e4,e5⟩:=Z1 h
  obtain ⟨y,f1,f2,f3⟩:=O15 (l:=u) (k:=k) (by omega)
  rw [Y0,e1,if_pos rfl,e2,ob,f1,ob,ih x e5 y,ob,w1 (by omega),I1e s u hs hl ih r (k+1) e3,f2,eqL]
  cases x.same y <;> simp
theorem S1h (t:D0):Ok t→∀ u,P4 t u=some (t.same u):=by
 induction t using D0.ind with
 | h t ih=>
 intro ht u
 have ih':=fun x hx=>ih x hx (ht.kid hx)
 have hO:N1 t.Of u.Of=some (eqL D0.same t.Of u.Of):=by
  rw [N1]
  by_cases hl:t.Of.length=u.Of.length
  ·rw [if_neg (by simp; omega),z0,I1e t.Of u.Of ht.ofs hl ih' t.Of 0 rfl]; rfl
  ·rw [if_pos (by simp; omega),Rq _ hl]
 rw [P4,hO,Y1j _ _ ht.names,D0.same_eq]
 generalize eqL D0.same t.Of u.Of=a
 generalize eqL (fun x y=>x == y) t.Names u.Names=b
 cases t.Kind == u.Kind <;> cases t.Low == u.Low <;> cases t.High == u.High <;> cases t.Size == u.Size <;> cases t.Name == u.Name <;> cases b <;> cases a <;> rfl
mutual
def A0.same:A0→A0→Bool
 | .mk o n nm ks,t=>o == t.Op&&n == t.NV&&nm == t.Name&&A0.sames ks t.Kids
def A0.sames:List A0→List A0→Bool
 | [],[]=>true
 | x::r,y::s=>A0.same x y&&A0.sames r s
 | [],_::_=>false
 | _::_,[]=>false
end
theorem A0.sames_eq:∀ l m:List A0,A0.sames l m=eqL A0.same l m
 | [],[]=>rfl
 | x::r,y::s=>by simp only [A0.sames,eqL,A0.sames_eq r s]
 | [],_::_=>rfl
 | _::_,[]=>rfl
theorem A0.same_eq (t u:A0):t.same u=(t.Op == u.Op&&t.NV == u.NV&&t.Name == u.Name&&eqL A0.same t.Kids u.Kids):=by
 rw [← A0.sames_eq]
 cases t
 rfl
theorem Z1j (s u:List A0)(hs:s.length≤BB)(hl:s.length=u.length)(ih:∀ x∈s,∀ y,X3 x y=some (x.same y)) :
  ∀ (r:List A0) (k:Nat),s.drop k=r→Z0 s u k=some (eqL A0.same r (u.drop k))
 | [],k,h=>by
  rw [Z0,(K1 h).1,if_neg (by simp),List.drop_eq_nil_of_le (by have:=(K1 h).2; omega)]; rfl
 | x::r,k,h=>by
  obtain ⟨e1,e2,e3,e4,e5⟩:=Z1 h
  obtain ⟨y,f1,f2,f3⟩:=O15 (l:=u) (k:=k) (by omega)
  rw [Z0,e1,if_pos rfl,e2,ob,f1,ob,ih x e5 y,ob,w1 (by omega),Z1j s u hs hl ih r (k+1) e3,f2,eqL]
  cases x.same y <;> simp
theorem W1l (s u:List A0)(hs:s.length≤BB)(ih:∀ x∈s,∀ y,X3 x y=some (x.same y)):P1 s u=some (eqL A0.same s u):=by
 rw [P1]
 by_cases hl:s.length=u.length
 ·rw [if_neg (by simp; omega),z0,Z1j s u hs hl ih s 0 rfl]; rfl
 ·rw [if_pos (by simp; omega),Rq _ hl]
theorem T1h (t:A0):OkE t→∀ u,X3 t u=some (t.same u):=by
 induction t using A0.ind with
 | h t ih=>
 intro ht u
 rw [X3,W1l t.Kids u.Kids ht.kids (fun x hx=>ih x hx (ht.kid hx)),A0.same_eq]
 generalize eqL A0.same t.Kids u.Kids=a
 cases t.Op == u.Op <;> cases t.NV == u.NV <;> cases t.Name == u.Name <;> cases a <;> rfl
theorem A1k (t u:A0)(ht:OkE t)(hl:t.Kids.length=u.Kids.length)(ih:∀ x∈t.Kids,∀ y,J9 x y=some (x.same y)) :
  ∀ (r:List A0) (k:Nat),t.Kids.drop k=r→Ua t u k=some (eqL A0.same r (u.Kids.drop k))
 | [],k,h=>by
  rw [Ua,(K1 h).1,if_neg (by simp),List.drop_eq_nil_of_le (by have:=(K1 h).2; omega)]; rfl
 | x::r,k,h=>by
  obtain ⟨e1,e2,e3,e4,e5⟩:=Z1 h
  obtain ⟨y,f1,f2,f3⟩:=O15 (l:=u.Kids) (k:=k) (by omega)
  have:=ht.kids
  rw [Ua,e1,if_pos rfl,e2,ob,f1,ob,ih x e5 y,ob,w1 (by omega),A1k t u ht hl ih r (k+1) e3,f2,eqL]
  cases x.same y <;> simp
theorem U1h (t:A0):OkE t→∀ u,J9 t u=some (t.same u):=by
 induction t using A0.ind with
 | h t ih=>
 intro ht u
 have ih':=fun x hx=>ih x hx (ht.kid hx)
 rw [J9,A0.same_eq]
 by_cases hl:t.Kids.length=u.Kids.length
 ·have h4:=A1k t u ht hl ih' t.Kids 0 rfl
  have hb:(bif (bif (bif (t.Op != u.Op) then true else (t.NV != u.NV)) then true else (!(t.Name == u.Name))) then true else ((t.Kids.length:Int) != (u.Kids.length:Int))) = !(t.Op == u.Op&&t.NV == u.NV&&t.Name == u.Name):=by
   have:((t.Kids.length:Int) != (u.Kids.length:Int))=false:=by simp; omega
   rw [this]
   unfold bne
   cases t.Op == u.Op <;> cases t.NV == u.NV <;> cases t.Name == u.Name <;> rfl
  rw [hb,z0,h4]
  cases (t.Op == u.Op&&t.NV == u.NV&&t.Name == u.Name) <;> simp
 ·have:((t.Kids.length:Int) != (u.Kids.length:Int))=true:=by simp; omega
  rw [this,Rq _ hl,Bool.and_false]
  generalize (bif (bif (t.Op != u.Op) then true else (t.NV != u.NV)) then true else (!(t.Name == u.Name)))=b
  cases b <;> rfl
def Cj (e:A0):Bool:=e.same ⟨0,0,[],[]⟩
def Vq (t:D0):Bool:=t.same ⟨0,0,0,0,[],[],[]⟩
theorem Ix (e:A0)(h:OkE e):Wa e=some (Cj e):=by unfold Wa; rw [U1h e h]; rfl
theorem B1k (t:D0)(h:Ok t):Sj t=some (Vq t):=by unfold Sj; rw [X1j t h]; rfl
theorem X1l {e:A0}(h:Cj e=true):e=⟨0,0,[],[]⟩:=by
 unfold Cj at h
 rw [A0.same_eq] at h
 obtain ⟨o,n,nm,ks⟩:=e
 simp only [Bool.and_eq_true,beq_iff_eq] at h
 obtain ⟨⟨⟨rfl,rfl⟩,rfl⟩,h4⟩:=h
 cases ks with
 | nil=>rfl
 | cons x r=>cases h4
theorem Y1l {t:D0}(h:Vq t=true):t=⟨0,0,0,0,[],[],[]⟩:=by
 unfold Vq at h
 rw [D0.same_eq] at h
 obtain ⟨a,b,c,d,nm,ns,ks⟩:=t
 simp only [Bool.and_eq_true,beq_iff_eq] at h
 obtain ⟨⟨⟨⟨⟨⟨rfl,rfl⟩,rfl⟩,rfl⟩,rfl⟩,h5⟩,h4⟩:=h
 cases ks with
 | nil=>
  cases ns with
  | nil=>rfl
  | cons x r=>cases h5
 | cons x r=>cases h4
end Go.Proofs.YtbmlpamppbcdeaaGreatDoor

namespace Go.Proofs.YtbmlpamppbcdeaaGreatDoor
open Go.Am
mutual
def C0.bulk:C0→Nat
 | .mk y0 y1 y2 y3 y4 y5 y6 y7 y8 y9 y10=>1+(A0.bulk y1+(A0.bulk y2+((y3.length+1)+((A0.bulks y4+1)+(1+(1+(1+(((y8.map fun _=>1).sum+1)+((C0.bulks y9+1)+((C0.bulks y10+1)+(0)))))))))))+1
def C0.bulks:List C0→Nat
 | []=>0
 | x::r=>C0.bulk x+C0.bulks r
end
mutual
def F0.bulk:F0→Nat
 | .mk y0 y1 y2 y3 y4 y5 y6 y7=>1+((y1.length+1)+(D0.bulk y2+(1+(A0.bulk y4+((F0.bulks y5+1)+((F0.bulks y6+1)+((C0.bulks y7+1)+(0))))))))+1
def F0.bulks:List F0→Nat
 | []=>0
 | x::r=>F0.bulk x+F0.bulks r
end
mutual
def Q0.bulk:Q0→Nat
 | .mk y0 y1=>(F0.bulks y0+1)+((C0.bulks y1+1)+(0))+1
def Q0.bulks:List Q0→Nat
 | []=>0
 | x::r=>Q0.bulk x+Q0.bulks r
end
end Go.Proofs.YtbmlpamppbcdeaaGreatDoor

set_option linter.unusedSimpArgs false
set_option linter.unusedVariables false
set_option maxHeartbeats 1000000
namespace Go.Proofs.YtbmlpamppbcdeaaGreatDoor
open Go.Am
def uPl (v:Int):Bool:=bif (bif (v == 0) then true else (v == 1)) then true else (v == 2)
def uVa (v:Int):Bool:=bif (bif (bif (v == 0) then true else (v == 3)) then true else (v == 5)) then true else (v == 6)
def uNm (v:Int):Bool:=bif (bif (v == 1) then true else (v == 2)) then true else (v == 7)
def uNn (v:Int):Bool:=bif (v == 4) then true else (v == 6)
def uTh (v:Int):Bool:=bif (bif (v == 5) then true else (v == 6)) then true else (v == 7)
def okV (v:Int):Bool:=!(bif decide (v < 0) then true else decide (v > 8))
def stU (v:Int):G1×Bool:=(⟨uPl v,uVa v,uNm v,v == 1,uNn v,v == 7,v == 8,uTh v,v == 5⟩,okV v)
theorem B15 (v:Int):B8 v=some (stU v):=by
 have h:(v < 0∨8 < v)∨v=0∨v=1∨v=2∨v=3∨v=4∨v=5∨v=6∨v=7∨v=8:=by omega
 rcases h with h | rfl | rfl | rfl | rfl | rfl | rfl | rfl | rfl | rfl
 ·have f:∀ k:Int,0≤k∧k≤8→(v == k)=false:=fun k hk=>beq_eq_false_iff_ne.2 (by omega)
  have hv:okV v=false:=by
   unfold okV
   rcases h with h | h
   ·rw [decide_eq_true h]; rfl
   ·rw [decide_eq_true (show v > 8 from h)]; cases decide (v < 0) <;> rfl
  unfold B8 stU uPl uVa uNm uNn uTh
  rw [hv]
  simp only [f 0 (by decide),f 1 (by decide),f 2 (by decide),f 3 (by decide),f 4 (by decide),f 5 (by decide),f 6 (by decide),f 7 (by decide),f 8 (by decide)]
  rfl
 all_goals rfl
def oN (e:A0)(u:Bool):Nat:=bif (bif !u then Cj e else false) then 0 else e.nodes
def oD (e:A0)(u:Bool):Nat:=bif (bif !u then Cj e else false) then 0 else e.depth
def oF (e:A0)(u:Bool):Bool:=bif u then e.all S5 else Cj e
theorem V1h (e:A0)(u:Bool):oN e u≤e.bulk:=by
 unfold oN
 have:=A0.nodes_bulk e
 cases (bif !u then Cj e else false) <;> simp <;> omega
def Cp:Int→List Int→Bool
 | _,[]=>true
 | l,n::r=>(bif Q2 n 0 1048576 then decide (n > l) else false)&&Cp n r
def Dp (s:C0):Bool:=
 bif s.Verb == 4 then Q2 s.NV 0 1048576 else bif s.Verb == 6 then Q2 s.NV 0 4096
 else bif s.Verb == 7 then (bif (bif Q2 s.Low (-1048576) 1048576 then Q2 s.High s.Low 1048576 else false) then decide (s.High - s.Low < 4096) else false)
 else bif s.Verb == 8 then Q2 (s.Numbers.length:Int) 1 32&&Cp (-1) s.Numbers else true
def P9 (s:C0):Bool:=
 okV s.Verb&&oF s.Place (uPl s.Verb)&&(bif uPl s.Verb then s.Place.place else true)&&oF s.Value (uVa s.Verb)&&(bif uNm s.Verb then true else s.Name == [])&&(bif s.Verb == 1 then true else ((s.Args.length:Int) == 0))&&A0.alls S5 s.Args
 && (bif uNn s.Verb then true else s.NV == 0)&&(bif s.Verb == 7 then true else (bif s.Low == 0 then s.High == 0 else false))&&(bif s.Verb == 8 then true else ((s.Numbers.length:Int) == 0))
 && (bif uTh s.Verb then true else ((s.Then.length:Int) == 0))&&(bif s.Verb == 5 then true else ((s.Else.length:Int) == 0))
def Pd (s:C0):Bool:=s.Place.all F6&&s.Value.all F6&&(bif uNm s.Verb then C9 s.Name else true)&&A0.alls F6 s.Args
def Rc (s:C0):Bool:=s.Place.all T5&&s.Value.all T5&&A0.alls T5 s.Args&&Dp s
mutual
def C0.nds:C0→Nat
 | .mk v pl va nm ar n lo hi ns th el=>1+(oN pl (uPl v)+(oN va (uVa v)+(A0.nodess ar+(C0.ndss th+C0.ndss el))))
def C0.ndss:List C0→Nat
 | []=>0
 | x::r=>C0.nds x+C0.ndss r
end
mutual
def C0.dps:C0→Nat→Nat
 | .mk v pl va nm ar n lo hi ns th el,d=>max d (max (oD pl (uPl v)) (max (oD va (uVa v)) (max (A0.depths ar) (max (C0.dpss th (d+1)) (C0.dpss el (d+1))))))
def C0.dpss:List C0→Nat→Nat
 | [],_=>0
 | x::r,d=>max (C0.dps x d) (C0.dpss r d)
end
mutual
def C0.all (p:C0→Bool):C0→Bool
 | .mk v pl va nm ar n lo hi ns th el=>p (.mk v pl va nm ar n lo hi ns th el)&&(C0.alls p th&&C0.alls p el)
def C0.alls (p:C0→Bool):List C0→Bool
 | []=>true
 | x::r=>C0.all p x&&C0.alls p r
end
theorem C0.nds_eq (s:C0):s.nds=1+(oN s.Place (uPl s.Verb)+(oN s.Value (uVa s.Verb)+(A0.nodess s.Args+(C0.ndss s.Then+C0.ndss s.Else)))):=by cases s; simp only [C0.nds]
theorem C0.dps_eq (s:C0)(d:Nat):s.dps d=max d (max (oD s.Place (uPl s.Verb)) (max (oD s.Value (uVa s.Verb)) (max (A0.depths s.Args) (max (C0.dpss s.Then (d+1)) (C0.dpss s.Else (d+1)))))):=by cases s; simp only [C0.dps]
theorem C0.all_eq (p:C0→Bool)(s:C0):s.all p=(p s&&(C0.alls p s.Then&&C0.alls p s.Else)):=by cases s; simp only [C0.all]
theorem C0.ind {P:C0→Prop}(h:∀ s:C0,(∀ x∈s.Then,P x)→(∀ x∈s.Else,P x)→P s):∀ s,P s:=by
 intro s
 refine C0.rec (motive_1:=P) (motive_2:=fun l=>∀ x∈l,P x) ?_ ?_ ?_ s
 ·intro v pl va nm ar n lo hi ns th el i1 i2
  exact h _ i1 i2
 ·intro x hx; cases hx
 ·intro x r hx hr y hy
  cases hy with
  | head=>exact hx
  | tail _ hy=>exact hr y hy
theorem C0.inds {Q:List C0→Prop}(h:∀ l:List C0,(∀ x∈l,Q x.Then∧Q x.Else)→Q l):∀ l,Q l:=by
 have key:∀ s:C0,Q s.Then∧Q s.Else:=fun s=>by
  induction s using C0.ind with
  | h s i1 i2=>exact ⟨h _ i1,h _ i2⟩
 exact fun l=>h l fun x _=>key x
theorem C0.bulk_eq (s:C0):s.bulk=s.Place.bulk+s.Value.bulk+s.Name.length+A0.bulks s.Args+(s.Numbers.map fun _=>1).sum+C0.bulks s.Then+C0.bulks s.Else+10:=by
 cases s; simp only [C0.bulk]; omega
theorem J1e:∀ l:List Int,(l.map fun _=>1).sum=l.length
 | []=>rfl
 | x::r=>by simp only [List.map_cons,List.sum_cons,List.length_cons,J1e r]; omega
theorem C0.bulk_mem {s:C0}:∀ {l:List C0},s∈l→s.bulk≤C0.bulks l
 | x::r,h=>by
  simp only [C0.bulks]
  cases h with
  | head=>omega
  | tail _ h=>have:=C0.bulk_mem h; omega
theorem C0.bulk_len:∀ l:List C0,l.length≤C0.bulks l
 | []=>Nat.le_refl _
 | x::r=>by
  simp only [C0.bulks,List.length_cons]
  have:=C0.bulk_len r
  have:=C0.bulk_eq x
  omega
mutual
theorem C0.nds_bulk:∀ s:C0,s.nds≤s.bulk
 | .mk v pl va nm ar n lo hi ns th el=>by
  have:=V1h pl (uPl v)
  have:=V1h va (uVa v)
  have:=A0.nodess_bulk ar
  have:=C0.ndss_bulk th
  have:=C0.ndss_bulk el
  simp only [C0.nds,C0.bulk]; omega
theorem C0.ndss_bulk:∀ l:List C0,C0.ndss l≤C0.bulks l
 | []=>Nat.le_refl _
 | x::r=>by
  have:=C0.nds_bulk x
  have:=C0.ndss_bulk r
  simp only [C0.ndss,C0.bulks]; omega
end
def OkS (l:List C0):Prop:=C0.bulks l≤BB
structure M11 (s:C0):Prop where
 place:OkE s.Place
 value:OkE s.Value
 name:s.Name.length≤BB
 args:s.Args.length≤BB
 arg:∀ a∈s.Args,OkE a
 nums:s.Numbers.length≤BB
 thens:OkS s.Then
 elses:OkS s.Else
theorem OkS.mem {l:List C0}(h:OkS l){s:C0}(hs:s∈l):M11 s:=by
 unfold OkS at h
 have h1:=C0.bulk_mem hs
 have h2:=C0.bulk_eq s
 have h3:=J1e s.Numbers
 have h4:=A0.bulk_len s.Args
 refine ⟨?_,?_,?_,?_,fun a ha=>?_,?_,?_,?_⟩ <;> first | (unfold OkE; omega) | (unfold OkS; omega) | omega | skip
 have:=A0.bulk_kid ha
 unfold OkE; omega
theorem OkS.len {l:List C0}(h:OkS l):l.length≤BB:=Nat.le_trans (C0.bulk_len l) h
def Y3 (o:J0)(n m:Nat)(f a u:Bool):J0:=⟨o.nodes+n,max o.depth m,o.badForm || !f,o.badName || !a,o.badNumber || !u⟩
theorem T3 (o:J0)(n m n' m':Nat)(f a u f' a' u':Bool):Y3 (Y3 o n m f a u) n' m' f' a' u'=Y3 o (n+n') (max m m') (f&&f') (a&&a') (u&&u'):=by
 simp only [Y3,Tr]
 rw [show o.nodes+(n:Int)+(n':Int)=o.nodes+((n+n':Nat):Int) by omega,show max (max o.depth (m:Int)) (m':Int)=max o.depth ((max m m':Nat):Int) by omega]
theorem Tl (o:J0)(h:0≤o.depth):Y3 o 0 0 true true true=o:=by
 simp only [Y3,Bool.not_true,Bool.or_false]
 rw [show o.nodes+((0:Nat):Int)=o.nodes by omega,show max o.depth ((0:Nat):Int)=o.depth by omega]
theorem H19 (o:J0)(n m:Nat)(f a u:Bool):(Y3 o n m f a u).nodes=o.nodes+n:=rfl
theorem Ep (o:J0)(n m:Nat)(f a u:Bool):(Y3 o n m f a u).depth=max o.depth m:=rfl
theorem N8 (o:J0)(h:0≤o.depth)(b:Bool):S0 b o=some (Y3 o 0 0 b true true):=by
 rw [K17]
 simp only [Y3,Bool.not_true,Bool.or_false]
 rw [show o.nodes+((0:Nat):Int)=o.nodes by omega,show max o.depth ((0:Nat):Int)=o.depth by omega]
theorem Dh (o:J0)(h:0≤o.depth)(b:Bool):Q1 b o=some (Y3 o 0 0 true true b):=by
 rw [Qt]
 simp only [Y3,Bool.not_true,Bool.or_false]
 rw [show o.nodes+((0:Nat):Int)=o.nodes by omega,show max o.depth ((0:Nat):Int)=o.depth by omega]
theorem N1b (o:J0)(h:0≤o.depth)(s:Str)(hs:s.length≤BB):X2 s o=some (Y3 o 0 0 true (C9 s) true):=by
 rw [L11 s hs]
 simp only [Y3,Bool.not_true,Bool.or_false]
 rw [show o.nodes+((0:Nat):Int)=o.nodes by omega,show max o.depth ((0:Nat):Int)=o.depth by omega]
structure Q4 (o:J0)(n:Nat):Prop where
 dep:0≤o.depth
 low:0≤o.nodes
 high:o.nodes+n≤3 * BB
theorem Q4.x {o:J0}{n k m:Nat}{f a u:Bool}(h:Q4 o (k+n)):Q4 (Y3 o k m f a u) n:=by
 obtain ⟨h1,h2,h3⟩:=h
 refine ⟨?_,?_,?_⟩
 ·rw [Ep]; omega
 ·rw [H19]; omega
 ·rw [H19]; omega
theorem Q4.less {o:J0}{n k:Nat}(h:Q4 o n)(hk:k≤n):Q4 o k:=⟨h.dep,h.low,by have:=h.high; omega⟩
theorem Q4.x0 {o:J0}{n m:Nat}{f a u:Bool}(h:Q4 o n):Q4 (Y3 o 0 m f a u) n:=Q4.x (by rw [Nat.zero_add]; exact h)
theorem C15 (e:A0)(h:OkE e)(o:J0)(hr:Q4 o e.nodes):C2 e 1 o=some (Y3 o e.nodes e.depth (e.all S5) (e.all F6) (e.all T5)):=by
 have hn:=h.nodes
 have hp:1≤e.depth:=by rw [A0.depth_eq]; omega
 have h3:=hr.high
 unfold BB at hn h3
 rw [V1l e h 1 o (by omega) (by unfold BB; omega) hr.low (by unfold BB; omega)]
 simp only [Xh,Y3]
 rw [show (1:Int)+((e.depth - 1:Nat):Int)=e.depth by omega]
theorem K1e (t:D0)(h:Ok t)(o:J0)(hr:Q4 o t.nodes):G3 t 1 o=some (Y3 o t.nodes t.depth (t.all Oc) (t.all Al) (t.all Oq)):=by
 have hn:=h.nodes
 have hp:1≤t.depth:=by rw [D0.depth_eq]; omega
 have h3:=hr.high
 unfold BB at hn h3
 rw [W1n t h 1 o (by omega) (by unfold BB; omega) hr.low (by unfold BB; omega)]
 simp only [Xh,Y3]
 rw [show (1:Int)+((t.depth - 1:Nat):Int)=t.depth by omega]
theorem L1e:(A0.mk 0 0 [] []).all S5=true∧(A0.mk 0 0 [] []).all F6=true∧(A0.mk 0 0 [] []).all T5=true:=⟨rfl,rfl,rfl⟩
theorem N17 (e:A0)(u:Bool)(h:OkE e)(o:J0)(hr:Q4 o (oN e u)):P2 e u o=some (Y3 o (oN e u) (oD e u) (oF e u) (e.all F6) (e.all T5)):=by
 unfold P2
 rw [T1h e h]
 show ((if (!u)=true then some (Cj e) else some default)>>=_)=_
 unfold oN oD oF at *
 cases u with
 | true=>
  simp only [Bool.not_true,cond_false,cond_true] at *
  rw [if_neg (by simp),ob,if_neg (by simp),N8 o hr.dep,ob,C15 e h _ hr.x0,ob,T3]
  simp
 | false=>
  simp only [Bool.not_false,cond_false,cond_true] at *
  rw [if_pos trivial,ob]
  cases hz:Cj e with
  | true=>
   rw [if_pos rfl,X1l hz,L1e.2.1,L1e.2.2]
   exact congrArg some (Tl o hr.dep).symm
  | false=>
   rw [hz] at hr
   rw [if_neg (by simp),N8 o hr.dep,ob,C15 e h _ hr.x0,ob,T3]
   simp
theorem C1k (o:J0)(h:0≤o.nodes)(h':o.nodes+1≤3 * BB)(d:Nat):B5 (d:Int) ⟨IntKind.i64.wrap (o.nodes+1),o.depth,o.badForm,o.badName,o.badNumber⟩=some (Y3 o 1 d true true true):=by
 unfold BB at h'
 rw [J17,wr (by omega) (by omega)]
 simp only [Y3,Bool.not_true,Bool.or_false]
 rfl
theorem O1b (s:C0)(hs:M11 s)(K:J0→Option J0)(F:J0→Int→Option J0)
  (hF:∀ (o:J0) (k:Int),F o k=if decide (k < (s.Args.length:Int))=true then idx s.Args k>>=fun x=>C2 x 1 o>>=fun y=>F y (IntKind.i64.wrap (k+1)) else K o) :
  ∀ (r:List A0) (k:Nat) (o:J0),s.Args.drop k=r→Q4 o (A0.nodess r)→F o (k:Int)=K (Y3 o (A0.nodess r) (A0.depths r) (A0.alls S5 r) (A0.alls F6 r) (A0.alls T5 r))
 | [],k,o,h,hr=>by
  rw [hF,(K1 h).1,if_neg (by simp)]
  simp only [A0.nodess,A0.depths,A0.alls]
  rw [Tl o hr.dep]
 | x::r,k,o,h,hr=>by
  obtain ⟨e1,e2,e3,e4,e5⟩:=Z1 h
  have:=hs.args
  simp only [A0.nodess] at hr
  rw [hF,e1,if_pos rfl,e2,ob,C15 x (hs.arg x e5) o (hr.less (by omega)),ob,w1 (by omega),O1b s hs K F hF r (k+1) _ e3 hr.x,T3]
  rfl
theorem D1g (s:C0)(hs:M11 s):∀ (r:List Int) (k:Nat) (last:Int) (o:J0),s.Numbers.drop k=r→0≤o.depth→D2 s o last k=some (Y3 o 0 0 true true (Cp last r))
 | [],k,last,o,h,h0=>by rw [D2,(K1 h).1,if_neg (by simp)]; exact congrArg some (Tl o h0).symm
 | x::r,k,last,o,h,h0=>by
  obtain ⟨e1,e2,e3,e4,e5⟩:=Z1 h
  have:=hs.nums
  rw [D2,e1,if_pos rfl,e2,ob,Kk,ob,Dh _ h0,ob,w1 (by omega),D1g s hs r (k+1) x _ e3 (by rw [Ep]; omega),T3]
  rfl
theorem D1k (s:C0)(hs:M11 s)(o:J0)(h0:0≤o.depth):S4 s o=some (Y3 o 0 0 true true (Dp s)):=by
 unfold S4 Dp
 simp only [Kk]
 cases s.Verb == 4 with
 | true=>rw [if_pos rfl,ob,Dh _ h0,ob]; rfl
 | false=>
  rw [if_neg (by simp)]
  cases s.Verb == 6 with
  | true=>rw [if_pos rfl,ob,Dh _ h0,ob]; rfl
  | false=>
   rw [if_neg (by simp)]
   cases s.Verb == 7 with
   | true=>
    rw [if_pos rfl,ob]
    cases hl:Q2 s.Low (-1048576) 1048576 with
    | false=>rw [if_neg (by simp),ob,Dh _ h0,ob]; rfl
    | true=>
     rw [if_pos rfl,ob]
     cases hh:Q2 s.High s.Low 1048576 with
     | false=>rw [Dh _ h0,ob]; rfl
     | true=>
      have:IntKind.i64.wrap (s.High - s.Low)=s.High - s.Low:=by
       simp [Q2] at hl hh
       exact wr (by omega) (by omega)
      rw [this,Dh _ h0,ob]; rfl
   | false=>
    rw [if_neg (by simp)]
    cases s.Verb == 8 with
    | true=>
     rw [if_pos rfl,ob,Dh _ h0,ob,show (0:Int)=((0:Nat):Int) from rfl,D1g s hs s.Numbers 0 (-1) _ rfl (by rw [Ep]; omega),T3]
     simp
    | false=>exact congrArg some (Tl o h0).symm
theorem P1b (l:List C0):OkS l→∀ (d:Nat) (o:J0),d+C0.bulks l≤3 * BB→Q4 o (C0.ndss l)→
  F2 l d o=some (Y3 o (C0.ndss l) (C0.dpss l d) (C0.alls P9 l) (C0.alls Pd l) (C0.alls Rc l)):=by
 induction l using C0.inds with
 | h l ih=>
 intro hl d o hd hr
 have main:∀ (r:List C0) (k:Nat) (o:J0),l.drop k=r→Q4 o (C0.ndss r)→J3 l d o k=some (Y3 o (C0.ndss r) (C0.dpss r d) (C0.alls P9 r) (C0.alls Pd r) (C0.alls Rc r)):=by
  intro r
  induction r with
  | nil=>
   intro k o h hr
   rw [J3,(K1 h).1,if_neg (by simp)]
   exact congrArg some (Tl o hr.dep).symm
  | cons s r ihr=>
   intro k o h hr
   obtain ⟨e1,e2,e3,e4,e5⟩:=Z1 h
   have hs:=hl.mem e5
   have hlen:=hl.len
   obtain ⟨i1,i2⟩:=ih s e5
   have hbm:=C0.bulk_mem e5
   have hbe:=C0.bulk_eq s
   simp only [C0.ndss,C0.nds_eq] at hr
   have hhi:=hr.high
   unfold BB at hhi hd
   have hwd:IntKind.i64.wrap ((d:Int)+1)=((d+1:Nat):Int):=by rw [wr (by omega) (by omega)]; rfl
   have tail:∀ o:J0,Q4 o (C0.ndss s.Then+C0.ndss s.Else+C0.ndss r)→
     (S0 (bif (stU s.Verb).1.n then true else (s.NV == 0)) o>>=fun x14=>
      S0 (bif (stU s.Verb).1.bounds then true else (bif (s.Low == 0) then (s.High == 0) else false)) x14>>=fun x15=>
      S0 (bif (stU s.Verb).1.numbers then true else (((s.Numbers).length:Int) == 0)) x15>>=fun x16=>
      S0 (bif (stU s.Verb).1.thenV then true else (((s.Then).length:Int) == 0)) x16>>=fun x17=>
      S0 (bif (stU s.Verb).1.other then true else (((s.Else).length:Int) == 0)) x17>>=fun x18=>
      S4 s x18>>=fun x19=>
      F2 s.Then (IntKind.i64.wrap ((d:Int)+1)) x19>>=fun x20=>
      F2 s.Else (IntKind.i64.wrap ((d:Int)+1)) x20>>=fun x21=>
      J3 l d x21 (IntKind.i64.wrap ((k:Int)+1)))
     = some (Y3 o (C0.ndss s.Then+C0.ndss s.Else+C0.ndss r) (max (C0.dpss s.Then (d+1)) (max (C0.dpss s.Else (d+1)) (C0.dpss r d)))
       ((bif uNn s.Verb then true else s.NV == 0)&&(bif s.Verb == 7 then true else (bif s.Low == 0 then s.High == 0 else false))&&(bif s.Verb == 8 then true else ((s.Numbers.length:Int) == 0))
         && (bif uTh s.Verb then true else ((s.Then.length:Int) == 0))&&(bif s.Verb == 5 then true else ((s.Else.length:Int) == 0))&&C0.alls P9 s.Then&&C0.alls P9 s.Else&&C0.alls P9 r)
       (C0.alls Pd s.Then&&C0.alls Pd s.Else&&C0.alls Pd r) (Dp s&&C0.alls Rc s.Then&&C0.alls Rc s.Else&&C0.alls Rc r)):=by
    intro o hr
    have q1:=hr.x0 (m:=0) (f:=bif (stU s.Verb).1.n then true else (s.NV == 0)) (a:=true) (u:=true)
    have q2:=q1.x0 (m:=0) (f:=bif (stU s.Verb).1.bounds then true else (bif (s.Low == 0) then (s.High == 0) else false)) (a:=true) (u:=true)
    have q3:=q2.x0 (m:=0) (f:=bif (stU s.Verb).1.numbers then true else (((s.Numbers).length:Int) == 0)) (a:=true) (u:=true)
    have q4:=q3.x0 (m:=0) (f:=bif (stU s.Verb).1.thenV then true else (((s.Then).length:Int) == 0)) (a:=true) (u:=true)
    have q5:=q4.x0 (m:=0) (f:=bif (stU s.Verb).1.other then true else (((s.Else).length:Int) == 0)) (a:=true) (u:=true)
    have q6:=q5.x0 (m:=0) (f:=true) (a:=true) (u:=Dp s)
    rw [N8 o hr.dep,ob,N8 _ q1.dep,ob,N8 _ q2.dep,ob,N8 _ q3.dep,ob,N8 _ q4.dep,ob,D1k s hs _ q5.dep,ob,hwd,
     i1 hs.thens (d+1) _ (by unfold BB; omega) (q6.less (by omega)),ob,i2 hs.elses (d+1) _ (by unfold BB; omega) (Q4.x (q6.less (by omega))),ob,w1 (by omega),ihr (k+1) _ e3 (Q4.x (Q4.x (q6.less (by omega))))]
    simp only [T3,stU,Bool.true_and,Bool.and_true,Bool.and_assoc,Nat.zero_add,Nat.add_assoc,Nat.zero_max]
    simp only [← Nat.max_assoc]
   have args:=O1b s hs _ (fun o k'=>N5 l d o s (stU s.Verb) k k') (fun o k'=>N5.eq_1 l d o s (stU s.Verb) k k') s.Args 0
   rw [show ((0:Nat):Int)=0 from rfl] at args
   have j3:∀ o:J0,Q4 o (A0.nodess s.Args+(C0.ndss s.Then+C0.ndss s.Else+C0.ndss r))→G4 l d o s (stU s.Verb) k
     = some (Y3 o (A0.nodess s.Args+(C0.ndss s.Then+C0.ndss s.Else+C0.ndss r)) (max (A0.depths s.Args) (max (C0.dpss s.Then (d+1)) (max (C0.dpss s.Else (d+1)) (C0.dpss r d))))
       ((bif s.Verb == 1 then true else ((s.Args.length:Int) == 0))&&(A0.alls S5 s.Args&&((bif uNn s.Verb then true else s.NV == 0)&&(bif s.Verb == 7 then true else (bif s.Low == 0 then s.High == 0 else false))&&(bif s.Verb == 8 then true else ((s.Numbers.length:Int) == 0))
         && (bif uTh s.Verb then true else ((s.Then.length:Int) == 0))&&(bif s.Verb == 5 then true else ((s.Else.length:Int) == 0))&&C0.alls P9 s.Then&&C0.alls P9 s.Else&&C0.alls P9 r)))
       (A0.alls F6 s.Args&&(C0.alls Pd s.Then&&C0.alls Pd s.Else&&C0.alls Pd r)) (A0.alls T5 s.Args&&(Dp s&&C0.alls Rc s.Then&&C0.alls Rc s.Else&&C0.alls Rc r))):=by
    intro o hr
    rw [G4,N8 o hr.dep,ob,args _ rfl (hr.x0.less (by omega)),tail _ (Q4.x hr.x0)]
    simp only [T3,stU,Bool.true_and,Bool.and_assoc,Nat.zero_add,Nat.zero_max]
   have j2:∀ o:J0,Q4 o (oN s.Value (uVa s.Verb)+(A0.nodess s.Args+(C0.ndss s.Then+C0.ndss s.Else+C0.ndss r)))→F4 l d o s (stU s.Verb) k
     = (G4 l d (Y3 o (oN s.Value (uVa s.Verb)) (oD s.Value (uVa s.Verb)) (oF s.Value (uVa s.Verb)&&(bif uNm s.Verb then true else s.Name == [])) (s.Value.all F6&&(bif uNm s.Verb then C9 s.Name else true)) (s.Value.all T5)) s (stU s.Verb) k):=by
    intro o hr
    have q1:Q4 (Y3 o (oN s.Value (uVa s.Verb)) (oD s.Value (uVa s.Verb)) (oF s.Value (uVa s.Verb)) (s.Value.all F6) (s.Value.all T5)) 0:=Q4.x (hr.less (by omega))
    rw [F4]
    show (P2 s.Value (uVa s.Verb) o>>=_)=_
    rw [N17 s.Value (uVa s.Verb) hs.value o (hr.less (by omega)),ob,N8 _ q1.dep,ob,N1b _ (q1.x0).dep s.Name hs.name]
    simp only [T3,stU]
    cases uNm s.Verb with
    | true=>rw [if_pos rfl,ob]; simp
    | false=>rw [if_neg (by simp)]; simp
   rw [J3,e1,if_pos rfl,e2,ob,C1k o hr.low (by unfold BB; omega) d,ob,B15,ob,N8 _ (show 0≤(Y3 o 1 d true true true).depth by rw [Ep]; have:=hr.dep; omega),ob,T3]
   have hr1:Q4 (Y3 o (1+0) (max d 0) (true&&(stU s.Verb).2) (true&&true) (true&&true)) (oN s.Place (uPl s.Verb)+(oN s.Value (uVa s.Verb)+(A0.nodess s.Args+(C0.ndss s.Then+C0.ndss s.Else+C0.ndss r)))):=Q4.x (hr.less (by omega))
   have hopt:=N17 s.Place (uPl s.Verb) hs.place _ (hr1.less (k:=oN s.Place (uPl s.Verb)) (by omega))
   show (P2 s.Place (uPl s.Verb) _>>=_)=_
   rw [hopt,ob,H1b,T3]
   have hr2:∀ f,Q4 (Y3 o (1+0+oN s.Place (uPl s.Verb)) (max (max d 0) (oD s.Place (uPl s.Verb))) f (true&&true&&s.Place.all F6) (true&&true&&s.Place.all T5)) (oN s.Value (uVa s.Verb)+(A0.nodess s.Args+(C0.ndss s.Then+C0.ndss s.Else+C0.ndss r))):=fun f=>Q4.x (hr.less (by omega))
   have fin:∀ b:Bool,(bif uPl s.Verb then s.Place.place else true)=b→
     F4 l d (Y3 o (1+0+oN s.Place (uPl s.Verb)) (max (max d 0) (oD s.Place (uPl s.Verb))) (true&&(stU s.Verb).2&&oF s.Place (uPl s.Verb)&&b) (true&&true&&s.Place.all F6) (true&&true&&s.Place.all T5)) s (stU s.Verb) k
      = some (Y3 o (C0.ndss (s::r)) (C0.dpss (s::r) d) (C0.alls P9 (s::r)) (C0.alls Pd (s::r)) (C0.alls Rc (s::r))):=by
    rintro _ rfl
    rw [j2 _ (hr2 _),j3 _ (Q4.x (hr2 _)),T3,T3]
    simp only [C0.ndss,C0.dpss,C0.alls,C0.nds_eq,C0.dps_eq,C0.all_eq,P9,Pd,Rc,stU,Bool.true_and,Bool.and_assoc,Nat.add_assoc,Nat.max_assoc,Nat.zero_add]
    congr 1
   cases hu:uPl s.Verb with
   | true=>
    rw [hu] at fin hr2
    rw [if_pos (show (stU s.Verb).1.place=true from hu),ob,N8 _ (hr2 _).dep,ob,T3]
    have:=fin s.Place.place rfl
    simpa using this
   | false=>
    rw [hu] at fin
    rw [if_neg (by rw [show (stU s.Verb).1.place=false from hu]; simp)]
    have:=fin true rfl
    rw [Bool.and_true] at this
    exact this
 rw [F2]
 exact main l 0 o rfl hr
end Go.Proofs.YtbmlpamppbcdeaaGreatDoor

set_option linter.unusedSimpArgs false
set_option linter.unusedVariables false
set_option maxHeartbeats 1000000
namespace Go.Proofs.YtbmlpamppbcdeaaGreatDoor
open Go.Am
def isK (k:Int):Bool:=bif decide (k≥0) then decide (k≤6) else false
def uV2 (k:Int):Bool:=bif k == 5 then true else k == 6
def tN (t:D0)(u:Bool):Nat:=bif (bif !u then Vq t else false) then 0 else t.nodes
def tD (t:D0)(u:Bool):Nat:=bif (bif !u then Vq t else false) then 0 else t.depth
theorem L1o (t:D0)(u:Bool):tN t u≤t.bulk:=by
 unfold tN
 have:=D0.nodes_bulk t
 cases (bif !u then Vq t else false) <;> simp <;> omega
def pOk (x:F0):Bool:=bif x.Kind == 4 then x.Init == 0 else false
def vOk (x:F0):Bool:=x.Kind == 4
def Vr (d:F0):Bool:=bif Q2 d.Init (-1048576) 1048576 then (bif d.TypeV.Kind != 0 then true else Q2 d.Init 0 1) else false
def Mz (d:F0):Bool:=bif (bif ((d.Params.length:Int) == 0) then ((d.Vars.length:Int) == 0) else false) then ((d.Body.length:Int) == 0) else false
def Y8 (d:F0):Bool:=
 isK d.Kind&&d.TypeV.all Oc&&oF d.Value (uV2 d.Kind)&&(bif d.Kind == 4 then true else d.Init == 0)&&(bif d.Kind == 6 then true else Mz d)&&d.Params.all pOk&&d.Vars.all vOk&&C0.alls P9 d.Body
def Qh (d:F0):Bool:=d.TypeV.all Al&&C9 d.Name&&d.Value.all F6&&C0.alls Pd d.Body
def Mk (d:F0):Bool:=d.TypeV.all Oq&&d.Value.all T5&&Vr d&&C0.alls Rc d.Body
mutual
def F0.nds:F0→Nat
 | .mk k nm t i v ps vs bd=>1+(tN t (isK k)+(oN v (uV2 k)+(F0.ndss ps+(F0.ndss vs+C0.ndss bd))))
def F0.ndss:List F0→Nat
 | []=>0
 | x::r=>F0.nds x+F0.ndss r
end
mutual
def F0.dps:F0→Nat
 | .mk k nm t i v ps vs bd=>max (tD t (isK k)) (max (oD v (uV2 k)) (max (F0.dpss ps) (max (F0.dpss vs) (C0.dpss bd 1))))
def F0.dpss:List F0→Nat
 | []=>0
 | x::r=>max (F0.dps x) (F0.dpss r)
end
mutual
def F0.all (p:F0→Bool):F0→Bool
 | .mk k nm t i v ps vs bd=>p (.mk k nm t i v ps vs bd)&&(F0.alls p ps&&F0.alls p vs)
def F0.alls (p:F0→Bool):List F0→Bool
 | []=>true
 | x::r=>F0.all p x&&F0.alls p r
end
theorem F0.nds_eq (d:F0):d.nds=1+(tN d.TypeV (isK d.Kind)+(oN d.Value (uV2 d.Kind)+(F0.ndss d.Params+(F0.ndss d.Vars+C0.ndss d.Body)))):=by cases d; simp only [F0.nds]
theorem F0.dps_eq (d:F0):d.dps=max (tD d.TypeV (isK d.Kind)) (max (oD d.Value (uV2 d.Kind)) (max (F0.dpss d.Params) (max (F0.dpss d.Vars) (C0.dpss d.Body 1)))):=by cases d; simp only [F0.dps]
theorem F0.all_eq (p:F0→Bool)(d:F0):d.all p=(p d&&(F0.alls p d.Params&&F0.alls p d.Vars)):=by cases d; simp only [F0.all]
theorem F0.ind {P:F0→Prop}(h:∀ d:F0,(∀ x∈d.Params,P x)→(∀ x∈d.Vars,P x)→P d):∀ d,P d:=by
 intro d
 refine F0.rec (motive_1:=P) (motive_2:=fun l=>∀ x∈l,P x) ?_ ?_ ?_ d
 ·intro k nm t i v ps vs bd i1 i2
  exact h _ i1 i2
 ·intro x hx; cases hx
 ·intro x r hx hr y hy
  cases hy with
  | head=>exact hx
  | tail _ hy=>exact hr y hy
theorem F0.inds {Q:List F0→Prop}(h:∀ l:List F0,(∀ x∈l,Q x.Params∧Q x.Vars)→Q l):∀ l,Q l:=by
 have key:∀ s:F0,Q s.Params∧Q s.Vars:=fun s=>by
  induction s using F0.ind with
  | h s i1 i2=>exact ⟨h _ i1,h _ i2⟩
 exact fun l=>h l fun x _=>key x
theorem F0.bulk_eq (d:F0):d.bulk=d.Name.length+d.TypeV.bulk+d.Value.bulk+F0.bulks d.Params+F0.bulks d.Vars+C0.bulks d.Body+7:=by cases d; simp only [F0.bulk]; omega
theorem F0.bulk_mem {s:F0}:∀ {l:List F0},s∈l→s.bulk≤F0.bulks l
 | x::r,h=>by
  simp only [F0.bulks]
  cases h with
  | head=>omega
  | tail _ h=>have:=F0.bulk_mem h; omega
theorem F0.bulk_len:∀ l:List F0,l.length≤F0.bulks l
 | []=>Nat.le_refl _
 | x::r=>by
  simp only [F0.bulks,List.length_cons]
  have:=F0.bulk_len r
  have:=F0.bulk_eq x
  omega
mutual
theorem F0.nds_bulk:∀ d:F0,d.nds≤d.bulk
 | .mk k nm t i v ps vs bd=>by
  have:=L1o t (isK k)
  have:=V1h v (uV2 k)
  have:=F0.ndss_bulk ps
  have:=F0.ndss_bulk vs
  have:=C0.ndss_bulk bd
  simp only [F0.nds,F0.bulk]; omega
theorem F0.ndss_bulk:∀ l:List F0,F0.ndss l≤F0.bulks l
 | []=>Nat.le_refl _
 | x::r=>by
  have:=F0.nds_bulk x
  have:=F0.ndss_bulk r
  simp only [F0.ndss,F0.bulks]; omega
end
def OkD (l:List F0):Prop:=F0.bulks l≤BB
structure S1o (d:F0):Prop where
 type:Ok d.TypeV
 value:OkE d.Value
 name:d.Name.length≤BB
 params:OkD d.Params
 vars:OkD d.Vars
 body:OkS d.Body
theorem OkD.mem {l:List F0}(h:OkD l){d:F0}(hd:d∈l):S1o d:=by
 unfold OkD at h
 have h1:=F0.bulk_mem hd
 have h2:=F0.bulk_eq d
 refine ⟨?_,?_,?_,?_,?_,?_⟩ <;> first | (unfold OkE; omega) | (unfold OkS; omega) | (unfold OkD; omega) | (unfold Ok; omega) | omega
theorem OkD.len {l:List F0}(h:OkD l):l.length≤BB:=Nat.le_trans (F0.bulk_len l) h
theorem Q1b:(D0.mk 0 0 0 0 [] [] []).all Al=true∧(D0.mk 0 0 0 0 [] [] []).all Oq=true:=⟨rfl,rfl⟩
theorem Q1a (c:List F0)(hc:c.length≤BB)(q:F0→Bool)(K:J0→Option J0)(F:J0→Int→Option J0)
  (hF:∀ (o:J0) (k:Int),F o k=if decide (k < (c.length:Int))=true then idx c k>>=fun x=>S0 (q x) o>>=fun y=>F y (IntKind.i64.wrap (k+1)) else K o) :
  ∀ (r:List F0) (k:Nat) (o:J0),c.drop k=r→0≤o.depth→F o (k:Int)=K (Y3 o 0 0 (r.all q) true true)
 | [],k,o,h,hr=>by
  rw [hF,(K1 h).1,if_neg (by simp),List.all_nil,Tl o hr]
 | x::r,k,o,h,hr=>by
  obtain ⟨e1,e2,e3,e4,e5⟩:=Z1 h
  rw [hF,e1,if_pos rfl,e2,ob,N8 o hr,ob,w1 (by omega),Q1a c hc q K F hF r (k+1) _ e3 (by rw [Ep]; omega),T3]
  rfl
theorem E1k (l:List F0):OkD l→∀ (o:J0),Q4 o (F0.ndss l)→
  E3 l o=some (Y3 o (F0.ndss l) (F0.dpss l) (F0.alls Y8 l) (F0.alls Qh l) (F0.alls Mk l)):=by
 induction l using F0.inds with
 | h l ih=>
 intro hl o hr
 have main:∀ (r:List F0) (k:Nat) (o:J0),l.drop k=r→Q4 o (F0.ndss r)→H4 l o k=some (Y3 o (F0.ndss r) (F0.dpss r) (F0.alls Y8 r) (F0.alls Qh r) (F0.alls Mk r)):=by
  intro r
  induction r with
  | nil=>
   intro k o h hr
   rw [H4,(K1 h).1,if_neg (by simp)]
   exact congrArg some (Tl o hr.dep).symm
  | cons d r ihr=>
   intro k o h hr
   obtain ⟨e1,e2,e3,e4,e5⟩:=Z1 h
   have hs:=hl.mem e5
   have hlen:=hl.len
   obtain ⟨i1,i2⟩:=ih d e5
   simp only [F0.ndss,F0.nds_eq] at hr
   have hhi:=hr.high
   have hbB:C0.bulks d.Body≤BB:=hs.body
   have hlow:=hr.low
   unfold BB at hhi
   have l4:=Q1a d.Vars hs.vars.len vOk _ (fun o k'=>Q5 l o d k k') (fun o k'=>Q5.eq_1 l o d k k') d.Vars 0
   have l3:=Q1a d.Params hs.params.len pOk _ (fun o k'=>I4 l o d k k') (fun o k'=>I4.eq_1 l o d k k') d.Params 0
   rw [show ((0:Nat):Int)=0 from rfl] at l4 l3
   have tail:∀ o:J0,Q4 o (F0.ndss d.Params+(F0.ndss d.Vars+(C0.ndss d.Body+F0.ndss r)))→
     I4 l o d k 0=some (Y3 o (F0.ndss d.Params+(F0.ndss d.Vars+(C0.ndss d.Body+F0.ndss r))) (max (F0.dpss d.Params) (max (F0.dpss d.Vars) (max (C0.dpss d.Body 1) (F0.dpss r))))
      (d.Params.all pOk&&(d.Vars.all vOk&&(F0.alls Y8 d.Params&&(F0.alls Y8 d.Vars&&(C0.alls P9 d.Body&&F0.alls Y8 r)))))
      (F0.alls Qh d.Params&&(F0.alls Qh d.Vars&&(C0.alls Pd d.Body&&F0.alls Qh r)))
      (F0.alls Mk d.Params&&(F0.alls Mk d.Vars&&(C0.alls Rc d.Body&&F0.alls Mk r)))):=by
    intro o hr
    have q1:=hr.x0 (m:=0) (f:=d.Params.all pOk) (a:=true) (u:=true)
    have q2:=q1.x0 (m:=0) (f:=d.Vars.all vOk) (a:=true) (u:=true)
    rw [l3 o rfl hr.dep,l4 _ rfl q1.dep,i1 hs.params _ (q2.less (by omega)),ob,i2 hs.vars _ (Q4.x (q2.less (by omega))),ob,
     show (1:Int)=((1:Nat):Int) from rfl,P1b d.Body hs.body 1 _ (by unfold BB at *; omega) (Q4.x (Q4.x (q2.less (by omega)))),ob,show ((k:Int)+((1:Nat):Int))=(k:Int)+1 from rfl,w1 (by omega),ihr (k+1) _ e3 (Q4.x (Q4.x (Q4.x (q2.less (by omega)))))]
    simp only [T3,Bool.true_and,Bool.and_assoc,Nat.zero_add,Nat.zero_max,Nat.add_assoc,Nat.max_assoc]
   have hin:(if ((Q2 d.Init (-1048576) 1048576)&&(!(d.TypeV.Kind != 0)))=true then S2 d.Init 0 1 else some default)=some (bif (Q2 d.Init (-1048576) 1048576)&&(!(d.TypeV.Kind != 0)) then Q2 d.Init 0 1 else default):=by
    rw [Kk]
    cases ((Q2 d.Init (-1048576) 1048576)&&(!(d.TypeV.Kind != 0))) <;> rfl
   have j2:∀ (x2:Bool×Bool) (o:J0),x2=(isK d.Kind,uV2 d.Kind)→Q4 o (oN d.Value (uV2 d.Kind)+(F0.ndss d.Params+(F0.ndss d.Vars+(C0.ndss d.Body+F0.ndss r))))→
     P5 l o d x2 k=some (Y3 o (oN d.Value (uV2 d.Kind)+(F0.ndss d.Params+(F0.ndss d.Vars+(C0.ndss d.Body+F0.ndss r)))) (max (oD d.Value (uV2 d.Kind)) (max (F0.dpss d.Params) (max (F0.dpss d.Vars) (max (C0.dpss d.Body 1) (F0.dpss r)))))
      (oF d.Value (uV2 d.Kind)&&((bif d.Kind == 4 then true else d.Init == 0)&&((bif d.Kind == 6 then true else Mz d)&&(d.Params.all pOk&&(d.Vars.all vOk&&(F0.alls Y8 d.Params&&(F0.alls Y8 d.Vars&&(C0.alls P9 d.Body&&F0.alls Y8 r))))))))
      (C9 d.Name&&(d.Value.all F6&&(F0.alls Qh d.Params&&(F0.alls Qh d.Vars&&(C0.alls Pd d.Body&&F0.alls Qh r)))))
      (d.Value.all T5&&(Vr d&&(F0.alls Mk d.Params&&(F0.alls Mk d.Vars&&(C0.alls Rc d.Body&&F0.alls Mk r)))))):=by
    rintro _ o rfl hr
    have q1:=hr.x0 (m:=0) (f:=true) (a:=C9 d.Name) (u:=true)
    have q2:=Q4.x (m:=oD d.Value (uV2 d.Kind)) (f:=oF d.Value (uV2 d.Kind)) (a:=d.Value.all F6) (u:=d.Value.all T5) q1
    have hio:(bif Q2 d.Init (-1048576) 1048576 then (bif (d.TypeV.Kind != 0) then true else (bif (Q2 d.Init (-1048576) 1048576)&&(!(d.TypeV.Kind != 0)) then Q2 d.Init 0 1 else default)) else false)=Vr d:=by
     unfold Vr
     cases Q2 d.Init (-1048576) 1048576 <;> cases (d.TypeV.Kind != 0) <;> rfl
    rw [P5,N1b o hr.dep d.Name hs.name,ob,N17 d.Value (uV2 d.Kind) hs.value _ (q1.less (by omega)),ob,N8 _ q2.dep,ob,Kk,ob,hin,ob,hio,Dh _ (q2.x0).dep,ob,N8 _ (q2.x0.x0).dep,ob,tail _ (q2.x0.x0.x0)]
    simp only [T3,Bool.true_and,Bool.and_true,Bool.and_assoc,Nat.zero_add,Nat.add_zero,Nat.zero_max,Nat.max_zero,Nat.add_assoc,Nat.max_assoc,Mz]
   have hwn:(J0.mk (IntKind.i64.wrap (o.nodes+1)) o.depth o.badForm o.badName o.badNumber)=Y3 o 1 0 true true true:=by
    rw [wr (by omega) (by omega)]
    simp only [Y3,Bool.not_true,Bool.or_false]
    have:=hr.dep
    rw [show max o.depth ((0:Nat):Int)=o.depth by omega]
    rfl
   have q1:Q4 (Y3 o 1 0 true true true) (tN d.TypeV (isK d.Kind)+(oN d.Value (uV2 d.Kind)+(F0.ndss d.Params+(F0.ndss d.Vars+(C0.ndss d.Body+F0.ndss r))))):=Q4.x (hr.less (by omega))
   have q2:=q1.x0 (m:=0) (f:=isK d.Kind) (a:=true) (u:=true)
   rw [H4,e1,if_pos rfl,e2,ob,show Tf d.Kind=some (isK d.Kind,uV2 d.Kind) from rfl,ob]
   show (S0 (isK d.Kind) _>>=_)=_
   rw [hwn,N8 _ q1.dep,ob,S1h d.TypeV hs.type]
   show ((if (!(isK d.Kind))=true then some (Vq d.TypeV) else some default)>>=_)=_
   cases hk:isK d.Kind with
   | true=>
    rw [hk] at q2
    have q3:=q2
    unfold tN at q3
    simp only [Bool.not_true,cond_false] at q3
    rw [if_neg (by simp),ob]
    rw [if_pos (show (bif (true,uV2 d.Kind).1 then true else !default)=true from rfl),K1e d.TypeV hs.type _ (q3.less (by omega)),ob,j2 _ _ (by rw [hk]) (Q4.x q3)]
    simp only [T3,F0.ndss,F0.dpss,F0.alls,F0.nds_eq,F0.dps_eq,F0.all_eq,Y8,Qh,Mk,hk,tN,tD,Bool.not_true,cond_false,Bool.true_and,Bool.and_assoc,Nat.add_assoc,Nat.max_assoc,Nat.zero_max,Nat.zero_add]
    congr 1
    simp only [Y3]
    congr 1
    all_goals first
     | (congr 1; congr 1; ac_rfl)
     | (congr 1; congr 1)
     | skip
   | false=>
    rw [hk] at q2
    rw [if_pos (show (!false)=true from rfl),ob]
    show (if (!(Vq d.TypeV))=true then _ else _)=_
    cases hz:Vq d.TypeV with
    | true=>
     unfold tN at q2
     rw [hz] at q2
     simp only [Bool.not_false,cond_true,Nat.zero_add] at q2
     rw [if_neg (by simp),j2 _ _ (by rw [hk]) q2]
     have hzt:=Y1l hz
     simp only [T3,F0.ndss,F0.dpss,F0.alls,F0.nds_eq,F0.dps_eq,F0.all_eq,Y8,Qh,Mk,hk,tN,tD,hz,Bool.not_false,cond_true,Bool.true_and,Bool.false_and,Bool.and_assoc,Nat.add_assoc,Nat.max_assoc,Nat.zero_max,Nat.zero_add]
     rw [hzt,Q1b.1,Q1b.2]
     simp only [Bool.true_and]
     congr 1
     simp only [Y3]
     congr 1
     all_goals first
      | (congr 1; congr 1; ac_rfl)
      | (congr 1; congr 1)
      | skip
    | false=>
     have q3:=q2
     unfold tN at q3
     rw [hz] at q3
     simp only [Bool.not_false,cond_false,cond_true] at q3
     rw [if_pos (by simp),K1e d.TypeV hs.type _ (q3.less (by omega)),ob,j2 _ _ (by rw [hk]) (Q4.x q3)]
     simp only [T3,F0.ndss,F0.dpss,F0.alls,F0.nds_eq,F0.dps_eq,F0.all_eq,Y8,Qh,Mk,hk,tN,tD,hz,Bool.not_false,cond_true,cond_false,Bool.true_and,Bool.false_and,Bool.and_assoc,Nat.add_assoc,Nat.max_assoc,Nat.zero_max,Nat.zero_add]
     congr 1
     simp only [Y3]
     congr 1
     all_goals first
      | (congr 1; congr 1; ac_rfl)
      | (congr 1; congr 1)
      | skip
 rw [E3]
 exact main l 0 o rfl hr
structure OkP (p:Q0):Prop where
 decls:OkD p.Decls
 body:OkS p.Body
def I19 (p:Q0):Nat:=F0.ndss p.Decls+C0.ndss p.Body
def J19 (p:Q0):Nat:=max (F0.dpss p.Decls) (C0.dpss p.Body 1)
def Fp (p:Q0):Int:=
 Pq (I19 p) (J19 p) (!(F0.alls Y8 p.Decls&&C0.alls P9 p.Body)) (!(F0.alls Qh p.Decls&&C0.alls Pd p.Body)) (!(F0.alls Mk p.Decls&&C0.alls Rc p.Body))
theorem W1h (p:Q0)(h:OkP p):Ma p=some (Y3 ⟨0,0,false,false,false⟩ (I19 p) (J19 p) (F0.alls Y8 p.Decls&&C0.alls P9 p.Body) (F0.alls Qh p.Decls&&C0.alls Pd p.Body) (F0.alls Mk p.Decls&&C0.alls Rc p.Body)):=by
 have h1:=F0.ndss_bulk p.Decls
 have h2:=C0.ndss_bulk p.Body
 have h3:F0.bulks p.Decls≤BB:=h.decls
 have h4:C0.bulks p.Body≤BB:=h.body
 have hr:Q4 ⟨0,0,false,false,false⟩ (F0.ndss p.Decls+C0.ndss p.Body):=⟨Int.le_refl _,Int.le_refl _,by simp only; omega⟩
 unfold Ma
 rw [E1k p.Decls h.decls _ (hr.less (by omega)),ob,show (1:Int)=((1:Nat):Int) from rfl,P1b p.Body h.body 1 _ (by unfold BB at *; omega) (Q4.x hr),ob,T3]
 rfl
theorem F1k (n m:Nat)(f a u:Bool):D4 (Y3 ⟨0,0,false,false,false⟩ n m f a u)=some (Pq n m (!f) (!a) (!u)):=by
 rw [R1l]
 simp only [Y3,Bool.false_or]
 rw [show (0:Int)+(n:Int)=n by omega,show max (0:Int) (m:Int)=m by omega]
theorem Z1l (p:Q0)(h:OkP p):Df p=some (Fp p):=by
 unfold Df
 rw [W1h p h,ob,F1k,ob]
 rfl
end Go.Proofs.YtbmlpamppbcdeaaGreatDoor

set_option linter.unusedSimpArgs false
set_option linter.unusedVariables false
set_option maxHeartbeats 1000000
namespace Go.Proofs.YtbmlpamppbcdeaaGreatDoor
open Go.Am
theorem ifs {b c:Bool}{X:Option Bool}{y:Bool}(h:b = !c)(hx:X=some y):(if b=true then some false else X)=some (c&&y):=by
 subst h
 rw [hx]
 cases c <;> rfl
theorem ifd (c a:Bool):(if c=true then some a else some default)=some (bif c then a else default):=by cases c <;> rfl
theorem rUP (v:Int):Wf v=some (uPl v):=rfl
theorem rUV (v:Int):Xf v=some (uVa v):=rfl
theorem rUN (v:Int):Fh v=some (uNm v):=rfl
theorem T1o (v:Int):Tq v=some (uNn v):=rfl
theorem rUT (v:Int):Xl v=some (uTh v):=rfl
theorem rDT (k:Int):Rj k=some (isK k):=rfl
theorem rDV (k:Int):Uf k=some (uV2 k):=rfl
def szX (s:P0)(n m:Nat):P0:=⟨s.nodes+n,max s.depth m⟩
theorem Jx (s:P0)(n m n' m':Nat):szX (szX s n m) n' m'=szX s (n+n') (max m m'):=by
 simp only [szX]
 rw [show s.nodes+(n:Int)+(n':Int)=s.nodes+((n+n':Nat):Int) by omega,show max (max s.depth (m:Int)) (m':Int)=max s.depth ((max m m':Nat):Int) by omega]
structure Z6 (s:P0)(n:Nat):Prop where
 dep:0≤s.depth
 low:0≤s.nodes
 high:s.nodes+n≤3 * BB
theorem Z6.x {s:P0}{n k m:Nat}(h:Z6 s (k+n)):Z6 (szX s k m) n:=by
 obtain ⟨h1,h2,h3⟩:=h
 refine ⟨?_,?_,?_⟩ <;> simp only [szX] <;> omega
theorem Z6.less {s:P0}{n k:Nat}(h:Z6 s n)(hk:k≤n):Z6 s k:=⟨h.dep,h.low,by have:=h.high; omega⟩
theorem Vv (s:P0)(h:0≤s.depth):szX s 0 0=s:=by
 simp only [szX]
 rw [show s.nodes+((0:Nat):Int)=s.nodes by omega,show max s.depth ((0:Nat):Int)=s.depth by omega]
theorem N11 (s:P0)(e:A0)(u:Bool)(h:OkE e)(hr:Z6 s (oN e u)):Ga s e u=some (szX s (oN e u) (oD e u)):=by
 have hn:=h.nodes
 have hh:=hr.high
 have hl:=hr.low
 unfold Ga
 rw [Ix e h,ifd,ob,P1h e h,Q1h e h]
 unfold oN oD at *
 cases u with
 | true=>
  simp only [Bool.not_true,cond_false] at *
  unfold BB at hh hn
  rw [if_neg (by simp),ob,ob,Ur,ob,wr (n:=s.nodes+(e.nodes:Int)) (by omega) (by omega)]
  rfl
 | false=>
  simp only [Bool.not_false,cond_true] at *
  cases hz:Cj e with
  | true=>rw [if_pos rfl]; exact congrArg some (Vv s hr.dep).symm
  | false=>
   rw [hz] at hh
   simp only [cond_false] at hh
   unfold BB at hh hn
   rw [if_neg (by simp),ob,ob,Ur,ob,wr (n:=s.nodes+(e.nodes:Int)) (by omega) (by omega)]
   rfl
theorem A1m (s:P0)(t:D0)(u:Bool)(h:Ok t)(hr:Z6 s (tN t u)):Tk s t u=some (szX s (tN t u) (tD t u)):=by
 have hn:=h.nodes
 have hh:=hr.high
 have hl:=hr.low
 unfold Tk
 rw [B1k t h,ifd,ob,U1j t h,V1j t h]
 unfold tN tD at *
 cases u with
 | true=>
  simp only [Bool.not_true,cond_false] at *
  unfold BB at hh hn
  rw [if_neg (by simp),ob,ob,Ur,ob,wr (n:=s.nodes+(t.nodes:Int)) (by omega) (by omega)]
  rfl
 | false=>
  simp only [Bool.not_false,cond_true] at *
  cases hz:Vq t with
  | true=>rw [if_pos rfl]; exact congrArg some (Vv s hr.dep).symm
  | false=>
   rw [hz] at hh
   simp only [cond_false] at hh
   unfold BB at hh hn
   rw [if_neg (by simp),ob,ob,Ur,ob,wr (n:=s.nodes+(t.nodes:Int)) (by omega) (by omega)]
   rfl
theorem X1n (s:P0)(hr:Z6 s 1)(d:Nat):J7 ⟨IntKind.i64.wrap (s.nodes+1),s.depth⟩ (d:Int)=some (szX s 1 d):=by
 have hh:=hr.high
 have hl:=hr.low
 unfold BB at hh
 rw [Ur,wr (n:=s.nodes+1) (by omega) (by omega)]
 rfl
theorem R1a (e:A0):oN e true=e.nodes∧oD e true=e.depth:=⟨rfl,rfl⟩
theorem R1b (s:C0)(hs:M11 s)(K:P0→Option P0)(F:P0→Int→Option P0)
  (hF:∀ (o:P0) (k:Int),F o k=if decide (k < (s.Args.length:Int))=true then idx s.Args k>>=fun x=>Ga o x true>>=fun y=>F y (IntKind.i64.wrap (k+1)) else K o) :
  ∀ (r:List A0) (k:Nat) (o:P0),s.Args.drop k=r→Z6 o (A0.nodess r)→F o (k:Int)=K (szX o (A0.nodess r) (A0.depths r))
 | [],k,o,h,hr=>by
  rw [hF,(K1 h).1,if_neg (by simp)]
  simp only [A0.nodess,A0.depths]
  rw [Vv o hr.dep]
 | x::r,k,o,h,hr=>by
  obtain ⟨e1,e2,e3,e4,e5⟩:=Z1 h
  have:=hs.args
  simp only [A0.nodess] at hr
  rw [hF,e1,if_pos rfl,e2,ob,N11 o x true (hs.arg x e5) (hr.less (by rw [(R1a x).1]; omega)),ob,(R1a x).1,(R1a x).2,w1 (by omega),R1b s hs K F hF r (k+1) _ e3 hr.x,Jx]
  rfl
theorem D15 (l:List C0):OkS l→∀ (d:Nat) (o:P0),d+C0.bulks l≤3 * BB→Z6 o (C0.ndss l)→R8 o l d=some (szX o (C0.ndss l) (C0.dpss l d)):=by
 induction l using C0.inds with
 | h l ih=>
 intro hl d o hd hr
 have main:∀ (r:List C0) (k:Nat) (o:P0),l.drop k=r→Z6 o (C0.ndss r)→Xc l d o k=some (szX o (C0.ndss r) (C0.dpss r d)):=by
  intro r
  induction r with
  | nil=>
   intro k o h hr
   rw [Xc,(K1 h).1,if_neg (by simp)]
   exact congrArg some (Vv o hr.dep).symm
  | cons s r ihr=>
   intro k o h hr
   obtain ⟨e1,e2,e3,e4,e5⟩:=Z1 h
   have hs:=hl.mem e5
   have hlen:=hl.len
   obtain ⟨i1,i2⟩:=ih s e5
   have hbm:=C0.bulk_mem e5
   have hbe:=C0.bulk_eq s
   simp only [C0.ndss,C0.nds_eq] at hr
   unfold BB at hd
   have hwd:IntKind.i64.wrap ((d:Int)+1)=((d+1:Nat):Int):=by rw [wr (by omega) (by omega)]; rfl
   have args:=R1b s hs _ (fun o k'=>Hg l d o s k k') (fun o k'=>Hg.eq_1 l d o s k k') s.Args 0
   rw [show ((0:Nat):Int)=0 from rfl] at args
   have q1:Z6 (szX o 1 d) (oN s.Place (uPl s.Verb)+(oN s.Value (uVa s.Verb)+(A0.nodess s.Args+(C0.ndss s.Then+(C0.ndss s.Else+C0.ndss r))))):=Z6.x (hr.less (by omega))
   have q2:=Z6.x (m:=oD s.Place (uPl s.Verb)) q1
   have q3:=Z6.x (m:=oD s.Value (uVa s.Verb)) q2
   have q4:=Z6.x (m:=A0.depths s.Args) q3
   have q5:=Z6.x (m:=C0.dpss s.Then (d+1)) q4
   have q6:=Z6.x (m:=C0.dpss s.Else (d+1)) q5
   rw [Xc,e1,if_pos rfl,e2,ob,X1n o (hr.less (by omega)) d,ob,rUP,ob,N11 _ s.Place _ hs.place (q1.less (by omega)),ob,rUV,ob,N11 _ s.Value _ hs.value (q2.less (by omega)),ob,
    args _ rfl (q3.less (by omega)),hwd,i1 hs.thens (d+1) _ (by unfold BB; omega) (q4.less (by omega)),ob,i2 hs.elses (d+1) _ (by unfold BB; omega) (q5.less (by omega)),ob,w1 (by omega),ihr (k+1) _ e3 q6]
   simp only [Jx,C0.ndss,C0.dpss,C0.nds_eq,C0.dps_eq,Nat.add_assoc,Nat.max_assoc]
 rw [R8]
 exact main l 0 o rfl hr
theorem M1e (l:List F0):OkD l→∀ (o:P0),Z6 o (F0.ndss l)→Ya o l=some (szX o (F0.ndss l) (F0.dpss l)):=by
 induction l using F0.inds with
 | h l ih=>
 intro hl o hr
 have main:∀ (r:List F0) (k:Nat) (o:P0),l.drop k=r→Z6 o (F0.ndss r)→Yc l o k=some (szX o (F0.ndss r) (F0.dpss r)):=by
  intro r
  induction r with
  | nil=>
   intro k o h hr
   rw [Yc,(K1 h).1,if_neg (by simp)]
   exact congrArg some (Vv o hr.dep).symm
  | cons s r ihr=>
   intro k o h hr
   obtain ⟨e1,e2,e3,e4,e5⟩:=Z1 h
   have hs:=hl.mem e5
   have hlen:=hl.len
   obtain ⟨i1,i2⟩:=ih s e5
   have hbB:C0.bulks s.Body≤BB:=hs.body
   simp only [F0.ndss,F0.nds_eq] at hr
   have hh:=hr.high
   have hlo:=hr.low
   have hw:(P0.mk (IntKind.i64.wrap (o.nodes+1)) o.depth)=szX o 1 0:=by
    unfold BB at hh
    rw [wr (by omega) (by omega)]
    have:=hr.dep
    simp only [szX]
    rw [show max o.depth ((0:Nat):Int)=o.depth by omega]
    rfl
   have q1:Z6 (szX o 1 0) (tN s.TypeV (isK s.Kind)+(oN s.Value (uV2 s.Kind)+(F0.ndss s.Params+(F0.ndss s.Vars+(C0.ndss s.Body+F0.ndss r))))):=Z6.x (hr.less (by omega))
   have q2:=Z6.x (m:=tD s.TypeV (isK s.Kind)) q1
   have q3:=Z6.x (m:=oD s.Value (uV2 s.Kind)) q2
   have q4:=Z6.x (m:=F0.dpss s.Params) q3
   have q5:=Z6.x (m:=F0.dpss s.Vars) q4
   have q6:=Z6.x (m:=C0.dpss s.Body 1) q5
   rw [Yc,e1,if_pos rfl,e2,ob,rDT,ob,hw,A1m _ s.TypeV _ hs.type (q1.less (by omega)),ob,rDV,ob,N11 _ s.Value _ hs.value (q2.less (by omega)),ob,i1 hs.params _ (q3.less (by omega)),ob,i2 hs.vars _ (q4.less (by omega)),ob,
    show (1:Int)=((1:Nat):Int) from rfl,D15 s.Body hs.body 1 _ (by unfold BB at *; omega) (q5.less (by omega)),ob,show ((k:Int)+((1:Nat):Int))=(k:Int)+1 from rfl,w1 (by omega),ihr (k+1) _ e3 q6]
   simp only [Jx,F0.ndss,F0.dpss,F0.nds_eq,F0.dps_eq,Nat.add_assoc,Nat.max_assoc,Nat.zero_max]
 rw [Ya]
 exact main l 0 o rfl hr
theorem X1h (s:C0)(hs:M11 s)(p:A0→Bool)(g:A0→Option Bool)(hg:∀ x∈s.Args,g x=some (x.all p))(K:Option Bool)(F:Int→Option Bool)(y:Bool)(hK:K=some y)
  (hF:∀ k:Int,F k=if decide (k < (s.Args.length:Int))=true then idx s.Args k>>=fun x=>g x>>=fun b=>if (!b)=true then some false else F (IntKind.i64.wrap (k+1)) else K) :
  ∀ (r:List A0) (k:Nat),s.Args.drop k=r→F (k:Int)=some (A0.alls p r&&y)
 | [],k,h=>by rw [hF,(K1 h).1,if_neg (by simp),hK]; rfl
 | x::r,k,h=>by
  obtain ⟨e1,e2,e3,e4,e5⟩:=Z1 h
  have:=hs.args
  rw [hF,e1,if_pos rfl,e2,ob,hg x e5,ob,w1 (by omega),X1h s hs p g hg K F y hK hF r (k+1) e3,A0.alls]
  cases x.all p <;> simp
theorem W11 (l:List C0):OkS l→T7 l=some (C0.alls P9 l):=by
 induction l using C0.inds with
 | h l ih=>
 intro hl
 have main:∀ (r:List C0) (k:Nat),l.drop k=r→Ab l k=some (C0.alls P9 r):=by
  intro r
  induction r with
  | nil=>intro k h; rw [Ab,(K1 h).1,if_neg (by simp)]; rfl
  | cons s r ihr=>
   intro k h
   obtain ⟨e1,e2,e3,e4,e5⟩:=Z1 h
   have hs:=hl.mem e5
   have hlen:=hl.len
   obtain ⟨i1,i2⟩:=ih s e5
   have l2:=X1h s hs S5 Z4 (fun x hx=>Hx x (hs.arg x hx)) _ (fun k'=>Ef l s k k') (C0.alls P9 s.Then&&C0.alls P9 s.Else&&C0.alls P9 r)
    (by
     rw [i1 hs.thens,ob,i2 hs.elses,ifd,ob,w1 (by omega),ihr (k+1) e3]
     cases C0.alls P9 s.Then <;> cases C0.alls P9 s.Else <;> simp)
    (fun k'=>Ef.eq_1 l s k k') s.Args 0 rfl
   rw [show ((0:Nat):Int)=0 from rfl] at l2
   rw [Ab,e1,if_pos rfl,e2,ob]
   simp only [rUP,rUV,rUN,T1o,rUT,I1b,Hx _ hs.place,Hx _ hs.value,Ix _ hs.place,Ix _ hs.value,ifd,ob]
   have:=ifs (b:=bif decide (s.Verb < 0) then true else decide (s.Verb > 8)) (c:=okV s.Verb) (by unfold okV; rw [Bool.not_not])
    (ifs (c:=oF s.Place (uPl s.Verb)&&(bif uPl s.Verb then s.Place.place else true)) (b:=bif (bif uPl s.Verb then (bif (!(bif uPl s.Verb then s.Place.place else default)) then true else (!(bif (uPl s.Verb&&(!(!(bif uPl s.Verb then s.Place.place else default)))) then s.Place.all S5 else default))) else false) then true else (bif (!(bif (!(bif uPl s.Verb then (bif (!(bif uPl s.Verb then s.Place.place else default)) then true else (!(bif (uPl s.Verb&&(!(!(bif uPl s.Verb then s.Place.place else default)))) then s.Place.all S5 else default))) else false)) then uPl s.Verb else default)) then (!(bif ((!(bif uPl s.Verb then (bif (!(bif uPl s.Verb then s.Place.place else default)) then true else (!(bif (uPl s.Verb&&(!(!(bif uPl s.Verb then s.Place.place else default)))) then s.Place.all S5 else default))) else false))&&(!(bif (!(bif uPl s.Verb then (bif (!(bif uPl s.Verb then s.Place.place else default)) then true else (!(bif (uPl s.Verb&&(!(!(bif uPl s.Verb then s.Place.place else default)))) then s.Place.all S5 else default))) else false)) then uPl s.Verb else default))) then Cj s.Place else default)) else false))
     (by unfold oF; cases uPl s.Verb <;> cases s.Place.place <;> cases s.Place.all S5 <;> cases Cj s.Place <;> rfl)
    (ifs (c:=oF s.Value (uVa s.Verb)) (b:=bif (bif uVa s.Verb then (!(bif uVa s.Verb then s.Value.all S5 else default)) else false) then true else (bif (!(bif (!(bif uVa s.Verb then (!(bif uVa s.Verb then s.Value.all S5 else default)) else false)) then uVa s.Verb else default)) then (!(bif ((!(bif uVa s.Verb then (!(bif uVa s.Verb then s.Value.all S5 else default)) else false))&&(!(bif (!(bif uVa s.Verb then (!(bif uVa s.Verb then s.Value.all S5 else default)) else false)) then uVa s.Verb else default))) then Cj s.Value else default)) else false))
     (by unfold oF; cases uVa s.Verb <;> cases s.Value.all S5 <;> cases Cj s.Value <;> rfl)
    (ifs (c:=(bif uNm s.Verb then true else s.Name == [])&&(bif s.Verb == 1 then true else ((s.Args.length:Int) == 0))&&(bif uNn s.Verb then true else s.NV == 0)&&(bif s.Verb == 7 then true else (bif s.Low == 0 then s.High == 0 else false))&&(bif s.Verb == 8 then true else ((s.Numbers.length:Int) == 0)))
     (b:=bif (bif (bif (bif (bif (!(uNm s.Verb)) then (!(s.Name == [])) else false) then true else (bif (s.Verb != 1) then (((s.Args).length:Int) != 0) else false)) then true else (bif (!(bif (!(bif (bif (!(uNm s.Verb)) then (!(s.Name == [])) else false) then true else (bif (s.Verb != 1) then (((s.Args).length:Int) != 0) else false))) then uNn s.Verb else default)) then (s.NV != 0) else false)) then true else (bif (s.Verb != 7) then (bif (s.Low != 0) then true else (s.High != 0)) else false)) then true else (bif (s.Verb != 8) then (((s.Numbers).length:Int) != 0) else false))
     (by
      unfold bne
      generalize (s.Verb == 1)=a1; generalize (s.Verb == 7)=a2; generalize (s.Verb == 8)=a3; generalize (s.Name == [])=a4; generalize ((s.Args.length:Int) == 0)=a5; generalize (s.NV == 0)=a6; generalize (s.Low == 0)=a7; generalize (s.High == 0)=a8
      generalize ((s.Numbers.length:Int) == 0)=a9; generalize uNm s.Verb=b1; generalize uNn s.Verb=b2
      cases b1 <;> cases a4 <;> cases a1 <;> cases a5 <;> cases b2 <;> cases a6 <;> first | rfl | (cases a2 <;> cases a7 <;> cases a8 <;> cases a3 <;> cases a9 <;> rfl))
    (ifs (c:=(bif uTh s.Verb then true else ((s.Then.length:Int) == 0))&&(bif s.Verb == 5 then true else ((s.Else.length:Int) == 0))) (b:=bif (bif (!(uTh s.Verb)) then (((s.Then).length:Int) != 0) else false) then true else (bif (s.Verb != 5) then (((s.Else).length:Int) != 0) else false))
     (by
      unfold bne
      generalize (s.Verb == 5)=a1; generalize ((s.Then.length:Int) == 0)=a2; generalize ((s.Else.length:Int) == 0)=a3
      generalize uTh s.Verb=a0
      cases a0 <;> cases a1 <;> cases a2 <;> cases a3 <;> rfl) l2))))
   refine this.trans ?_
   simp only [C0.alls,C0.all_eq,P9,Bool.and_assoc]
   congr 1
   generalize A0.alls S5 s.Args=x
   generalize (bif s.Verb == 1 then true else ((s.Args.length:Int) == 0))=y
   ac_rfl
 rw [T7]
 exact main l 0 rfl
end Go.Proofs.YtbmlpamppbcdeaaGreatDoor

set_option linter.unusedSimpArgs false
set_option linter.unusedVariables false
set_option maxHeartbeats 1000000
namespace Go.Proofs.YtbmlpamppbcdeaaGreatDoor
open Go.Am
theorem N1e (c:List F0)(hc:c.length≤BB)(q:F0→Bool)(K:Option Bool)(F:Int→Option Bool)(y:Bool)(hK:K=some y)
  (hF:∀ (r:List F0) (k:Nat) (x:F0),c.drop k=x::r→F (k:Int)=if q x=true then F (IntKind.i64.wrap ((k:Int)+1)) else some false) (hE:∀ k:Nat,c.drop k=[]→F (k:Int)=K) :
  ∀ (r:List F0) (k:Nat),c.drop k=r→F (k:Int)=some (r.all q&&y)
 | [],k,h=>by rw [hE k h,hK]; rfl
 | x::r,k,h=>by
  obtain ⟨e1,e2,e3,e4,e5⟩:=Z1 h
  rw [hF r k x h,w1 (by omega),N1e c hc q K F y hK hF hE r (k+1) e3,List.all_cons]
  cases q x <;> simp
theorem D1c (l:List F0):OkD l→M9 l=some (F0.alls Y8 l):=by
 induction l using F0.inds with
 | h l ih=>
 intro hl
 have main:∀ (r:List F0) (k:Nat),l.drop k=r→Cb l k=some (F0.alls Y8 r):=by
  intro r
  induction r with
  | nil=>intro k h; rw [Cb,(K1 h).1,if_neg (by simp)]; rfl
  | cons d r ihr=>
   intro k h
   obtain ⟨e1,e2,e3,e4,e5⟩:=Z1 h
   have hs:=hl.mem e5
   have hlen:=hl.len
   obtain ⟨i1,i2⟩:=ih d e5
   have l3:=N1e d.Vars hs.vars.len vOk _ (fun k'=>J6 l d k k') (F0.alls Y8 d.Params&&F0.alls Y8 d.Vars&&C0.alls P9 d.Body&&F0.alls Y8 r) rfl
    (fun r' k' x hx=>by
     obtain ⟨f1,f2,f3,f4,f5⟩:=Z1 hx
     show J6 l d k k'=_
     rw [J6,f1,if_pos rfl,f2,ob]
     unfold vOk bne
     cases (x.Kind == 4) <;> rfl)
    (fun k' hx=>by
     show J6 l d k k'=_
     rw [J6,(K1 hx).1,if_neg (by simp),i1 hs.params,ob,i2 hs.vars,ifd,ob,W11 d.Body hs.body,ifd,ob,w1 (by omega),ihr (k+1) e3]
     cases F0.alls Y8 d.Params <;> cases F0.alls Y8 d.Vars <;> cases C0.alls P9 d.Body <;> simp) d.Vars 0 rfl
   have l2:=N1e d.Params hs.params.len pOk _ (fun k'=>I6 l d k k') (d.Vars.all vOk&&(F0.alls Y8 d.Params&&F0.alls Y8 d.Vars&&C0.alls P9 d.Body&&F0.alls Y8 r)) rfl
    (fun r' k' x hx=>by
     obtain ⟨f1,f2,f3,f4,f5⟩:=Z1 hx
     show I6 l d k k'=_
     rw [I6,f1,if_pos rfl,f2,ob]
     unfold pOk bne
     cases (x.Kind == 4)
     ·rfl
     ·simp only [Bool.not_true,Bool.not_false,if_true,ob,cond_true,cond_false]
      cases (x.Init == 0) <;> rfl)
    (fun k' hx=>by
     show I6 l d k k'=_
     rw [I6,(K1 hx).1,if_neg (by simp)]
     exact l3) d.Params 0 rfl
   rw [show ((0:Nat):Int)=0 from rfl] at l2
   rw [Cb,e1,if_pos rfl,e2,ob]
   simp only [rDT,rDV,S1l _ hs.type,Hx _ hs.value,Ix _ hs.value,ifd,ob]
   have:=ifs (b:=bif (!(isK d.Kind)) then true else (!(bif (!(!(isK d.Kind))) then d.TypeV.all Oc else default))) (c:=isK d.Kind&&d.TypeV.all Oc) (by cases isK d.Kind <;> cases d.TypeV.all Oc <;> rfl)
    (ifs (c:=oF d.Value (uV2 d.Kind)&&(bif d.Kind == 4 then true else d.Init == 0)) (b:=bif (bif (bif uV2 d.Kind then (!(bif uV2 d.Kind then d.Value.all S5 else default)) else false) then true else (bif (!(bif (!(bif uV2 d.Kind then (!(bif uV2 d.Kind then d.Value.all S5 else default)) else false)) then uV2 d.Kind else default)) then (!(bif ((!(bif uV2 d.Kind then (!(bif uV2 d.Kind then d.Value.all S5 else default)) else false))&&(!(bif (!(bif uV2 d.Kind then (!(bif uV2 d.Kind then d.Value.all S5 else default)) else false)) then uV2 d.Kind else default))) then Cj d.Value else default)) else false)) then true else (bif (d.Kind != 4) then (d.Init != 0) else false))
     (by
      unfold oF bne
      generalize (d.Kind == 4)=a1
      generalize (d.Init == 0)=a2
      generalize uV2 d.Kind=a3
      cases a3 <;> cases d.Value.all S5 <;> cases Cj d.Value <;> cases a1 <;> cases a2 <;> rfl)
    (ifs (c:=bif d.Kind == 6 then true else Mz d) (b:=bif (d.Kind != 6) then (bif (bif (((d.Params).length:Int) != 0) then true else (((d.Vars).length:Int) != 0)) then true else (((d.Body).length:Int) != 0)) else false)
     (by
      unfold Mz bne
      cases (d.Kind == 6) <;> cases ((d.Params.length:Int) == 0) <;> cases ((d.Vars.length:Int) == 0) <;> cases ((d.Body.length:Int) == 0) <;> rfl) l2))
   refine this.trans ?_
   simp only [F0.alls,F0.all_eq,Y8,Bool.and_assoc]
   congr 1
   ac_rfl
 rw [M9]
 exact main l 0 rfl
theorem G1k (s:C0)(hs:M11 s)(p:A0→Bool)(g:A0→Option Bool)(hg:∀ x∈s.Args,g x=some (x.all p))(K:Option Bool)(F:Int→Option Bool)(y:Bool)(hK:K=some y)
  (hF:∀ k:Int,F k=if decide (k < (s.Args.length:Int))=true then idx s.Args k>>=fun x=>g x>>=fun b=>if (!b)=true then some false else F (IntKind.i64.wrap (k+1)) else K):F 0=some (A0.alls p s.Args&&y):=
 X1h s hs p g hg K F y hK hF s.Args 0 rfl
theorem Nz (l:List C0):OkS l→U6 l=some (C0.alls Pd l):=by
 induction l using C0.inds with
 | h l ih=>
 intro hl
 have main:∀ (r:List C0) (k:Nat),l.drop k=r→R9 l k=some (C0.alls Pd r):=by
  intro r
  induction r with
  | nil=>intro k h; rw [R9,(K1 h).1,if_neg (by simp)]; rfl
  | cons s r ihr=>
   intro k h
   obtain ⟨e1,e2,e3,e4,e5⟩:=Z1 h
   have hs:=hl.mem e5
   have hlen:=hl.len
   obtain ⟨i1,i2⟩:=ih s e5
   have l2:=G1k s hs F6 N4 (fun x hx=>Rt x (hs.arg x hx)) _ (fun k'=>Yd l s k k') (C0.alls Pd r) (by rw [w1 (by omega),ihr (k+1) e3]) (fun k'=>Yd.eq_1 l s k k')
   rw [R9,e1,if_pos rfl,e2,ob]
   simp only [rUN,Sl _ hs.name,Rt _ hs.place,Rt _ hs.value,i1 hs.thens,i2 hs.elses,ifd,ob,l2]
   simp only [C0.alls,C0.all_eq,Pd]
   generalize uNm s.Verb=a1
   generalize C9 s.Name=a2
   generalize s.Place.all F6=a3
   generalize s.Value.all F6=a4
   generalize C0.alls Pd s.Then=a5
   generalize C0.alls Pd s.Else=a6
   cases a1 <;> cases a2 <;> cases a3 <;> cases a4 <;> cases a5 <;> cases a6 <;> simp
 rw [U6]
 exact main l 0 rfl
theorem S1a (l:List F0):OkD l→I8 l=some (F0.alls Qh l):=by
 induction l using F0.inds with
 | h l ih=>
 intro hl
 have main:∀ (r:List F0) (k:Nat),l.drop k=r→S9 l k=some (F0.alls Qh r):=by
  intro r
  induction r with
  | nil=>intro k h; rw [S9,(K1 h).1,if_neg (by simp)]; rfl
  | cons d r ihr=>
   intro k h
   obtain ⟨e1,e2,e3,e4,e5⟩:=Z1 h
   have hs:=hl.mem e5
   have hlen:=hl.len
   obtain ⟨i1,i2⟩:=ih d e5
   rw [S9,e1,if_pos rfl,e2,ob]
   simp only [Sl _ hs.name,W1j _ hs.type,Rt _ hs.value,i1 hs.params,i2 hs.vars,Nz _ hs.body,ifd,ob,w1 (show k≤BB by omega),ihr (k+1) e3]
   simp only [F0.alls,F0.all_eq,Qh]
   generalize C9 d.Name=a2
   generalize d.TypeV.all Al=a3
   generalize d.Value.all F6=a4
   generalize F0.alls Qh d.Params=a5
   generalize F0.alls Qh d.Vars=a6
   generalize C0.alls Pd d.Body=a1
   cases a1 <;> cases a2 <;> cases a3 <;> cases a4 <;> cases a5 <;> cases a6 <;> simp
 rw [I8]
 exact main l 0 rfl
theorem Y1h (x:Int):Q2 x 0 1048576=(bif decide (x < 0) then false else !decide (x > 1048576)):=by
 unfold Q2
 rw [J11,K11]
 cases decide (x≥0) <;> cases decide (x≤1048576) <;> rfl
theorem H1k (s:C0)(hs:M11 s):∀ (r:List Int) (k:Nat) (last:Int),s.Numbers.drop k=r→(k=0∧last = -1∨0 < k∧idx s.Numbers ((k - 1:Nat):Int)=some last)→J5 s k=some (Cp last r)
 | [],k,last,h,h0=>by rw [J5,(K1 h).1,if_neg (by simp)]; rfl
 | x::r,k,last,h,h0=>by
  obtain ⟨e1,e2,e3,e4,e5⟩:=Z1 h
  have hnl:=hs.nums
  have ih:=H1k s hs r (k+1) x e3 (.inr ⟨by omega,e2⟩)
  unfold BB at hnl
  rw [show Cp last (x::r)=((bif Q2 x 0 1048576 then decide (x > last) else false)&&Cp x r) from rfl,Y1h,J5,e1,if_pos rfl,e2,ob,w1 (by unfold BB; omega),ih]
  by_cases hx:x < 0
  ·rw [decide_eq_true hx]; rfl
  ·rw [decide_eq_false hx,if_pos (show (!false)=true from rfl),ob]
   cases hB:decide (x > 1048576) with
   | true=>rfl
   | false=>
    rcases h0 with ⟨rfl,rfl⟩ | ⟨hk,hl⟩
    ·have hk:decide (((0:Nat):Int) > 0)=false:=by decide
     rw [hk,decide_eq_true (show x > -1 by omega)]
     cases Cp x r <;> rfl
    ·have hk':decide ((k:Int) > 0)=true:=decide_eq_true (by omega)
     have hw:IntKind.i64.wrap ((k:Int) - 1)=((k - 1:Nat):Int):=by rw [wr (by omega) (by omega)]; omega
     have hd:decide (x≤last) = !decide (x > last):=by rw [← decide_not]; exact decide_eq_decide.2 (by omega)
     rw [hk',hw,hl]
     show (if decide (x≤last)=true then some false else some (Cp x r))=some (decide (x > last)&&Cp x r)
     rw [hd]
     cases decide (x > last) <;> cases Cp x r <;> rfl
theorem B1m (s:C0)(hs:M11 s):Ig s=some (Dp s):=by
 unfold Ig Dp
 cases s.Verb == 4 with
 | true=>rw [if_pos rfl]; rfl
 | false=>
  rw [if_neg (by simp)]
  cases s.Verb == 6 with
  | true=>rw [if_pos rfl]; rfl
  | false=>
   rw [if_neg (by simp)]
   cases s.Verb == 7 with
   | true=>
    rw [if_pos rfl,Gx,ob,Gx,ifd,ob]
    show some _=some (bif (bif Q2 s.Low (-1048576) 1048576 then Q2 s.High s.Low 1048576 else false) then decide (s.High - s.Low < 4096) else false)
    congr 1
    by_cases hb:(-1048576≤s.Low∧s.Low≤1048576)∧(-1048576≤s.High∧s.High≤1048576)
    ·obtain ⟨⟨b1,b2⟩,b3,b4⟩:=hb
     rw [wr (n:=s.High - s.Low) (by omega) (by omega),wr (n:=s.High - s.Low+1) (by omega) (by omega)]
     unfold Ki Q2
     rw [decide_eq_true (show s.Low≥-1048576 from b1),decide_eq_true b2,decide_eq_true (show s.High≥-1048576 from b3),decide_eq_true b4]
     simp only [cond_true]
     have e:decide (s.High - s.Low+1≤4096)=decide (s.High - s.Low < 4096):=decide_eq_decide.2 (by omega)
     rw [e]
     show (bif decide (s.Low≤s.High) then decide (s.High - s.Low < 4096) else false)=(bif (bif decide (s.Low≤s.High) then true else false) then decide (s.High - s.Low < 4096) else false)
     cases decide (s.Low≤s.High) <;> rfl
    ·unfold Ki Q2
     by_cases h1 : -1048576≤s.Low∧s.Low≤1048576
     ·obtain ⟨b1,b2⟩:=h1
      rw [decide_eq_true (show s.Low≥-1048576 from b1),decide_eq_true b2]
      simp only [cond_true]
      by_cases h2:s.High≤1048576
      ·have h3:¬ s.High≥-1048576:=fun h=>hb ⟨⟨b1,b2⟩,h,h2⟩
       rw [decide_eq_false h3,decide_eq_false (show ¬ s.High≥s.Low by omega)]
       rfl
      ·rw [decide_eq_false h2]
       cases decide (s.High≥-1048576) <;> cases decide (s.High≥s.Low) <;> rfl
     ·have:(bif decide (s.Low≥-1048576) then decide (s.Low≤1048576) else false)=false:=by
       by_cases h2 : -1048576≤s.Low
       ·rw [decide_eq_true (show s.Low≥-1048576 from h2),decide_eq_false (fun h=>h1 ⟨h2,h⟩)]; rfl
       ·rw [decide_eq_false (show ¬ s.Low≥-1048576 from h2)]; rfl
      rw [this]
      rfl
   | false=>
    rw [if_neg (by simp)]
    cases s.Verb == 8 with
    | true=>
     have:=H1k s hs s.Numbers 0 (-1) rfl (.inl ⟨rfl,rfl⟩)
     rw [show ((0:Nat):Int)=0 from rfl] at this
     rw [if_pos rfl,this,J11,K11]
     show _=some (Q2 (s.Numbers.length:Int) 1 32&&Cp (-1) s.Numbers)
     unfold Q2
     cases decide ((s.Numbers.length:Int)≥1) <;> cases decide ((s.Numbers.length:Int)≤32) <;> simp
    | false=>rfl
theorem Wv (l:List C0):OkS l→K5 l=some (C0.alls Rc l):=by
 induction l using C0.inds with
 | h l ih=>
 intro hl
 have main:∀ (r:List C0) (k:Nat),l.drop k=r→W7 l k=some (C0.alls Rc r):=by
  intro r
  induction r with
  | nil=>intro k h; rw [W7,(K1 h).1,if_neg (by simp)]; rfl
  | cons s r ihr=>
   intro k h
   obtain ⟨e1,e2,e3,e4,e5⟩:=Z1 h
   have hs:=hl.mem e5
   have hlen:=hl.len
   obtain ⟨i1,i2⟩:=ih s e5
   have l2:=G1k s hs T5 H3 (fun x hx=>Bp x (hs.arg x hx)) _ (fun k'=>Fb l s k k') (C0.alls Rc r) (by rw [w1 (by omega),ihr (k+1) e3]) (fun k'=>Fb.eq_1 l s k k')
   rw [W7,e1,if_pos rfl,e2,ob]
   simp only [B1m s hs,Bp _ hs.place,Bp _ hs.value,i1 hs.thens,i2 hs.elses,ifd,ob,l2]
   simp only [C0.alls,C0.all_eq,Rc]
   generalize Dp s=a2
   generalize s.Place.all T5=a3
   generalize s.Value.all T5=a4
   generalize C0.alls Rc s.Then=a5
   generalize C0.alls Rc s.Else=a6
   cases a2 <;> cases a3 <;> cases a4 <;> cases a5 <;> cases a6 <;> simp
 rw [K5]
 exact main l 0 rfl
def O11 (d:F0):Bool:=(d.TypeV.all fun t=>!Qq t)&&d.Value.all T5&&Vr d&&C0.alls Rc d.Body
theorem O17 (l:List F0):OkD l→K6 l=some (F0.alls O11 l):=by
 induction l using F0.inds with
 | h l ih=>
 intro hl
 have main:∀ (r:List F0) (k:Nat),l.drop k=r→X7 l k=some (F0.alls O11 r):=by
  intro r
  induction r with
  | nil=>intro k h; rw [X7,(K1 h).1,if_neg (by simp)]; rfl
  | cons d r ihr=>
   intro k h
   obtain ⟨e1,e2,e3,e4,e5⟩:=Z1 h
   have hs:=hl.mem e5
   have hlen:=hl.len
   obtain ⟨i1,i2⟩:=ih d e5
   rw [X7,e1,if_pos rfl,e2,ob,Gx,ob]
   simp only [I1f _ hs.type,Bp _ hs.value,i1 hs.params,i2 hs.vars,Wv _ hs.body,ifd,ob,w1 (show k≤BB by omega),ihr (k+1) e3]
   have hi:(bif (!(Ki d.Init)) then true else (bif (d.TypeV.Kind == 0) then (bif (decide (d.Init < 0)) then true else (decide (d.Init > 1))) else false)) = !(Vr d):=by
    unfold Vr Ki Q2 bne
    rw [J11,K11 d.Init 1]
    cases decide (d.Init≥-1048576) <;> cases decide (d.Init≤1048576) <;> cases (d.TypeV.Kind == 0) <;> cases decide (d.Init≥0) <;> cases decide (d.Init≤1) <;> rfl
   rw [hi]
   simp only [F0.alls,F0.all_eq,O11]
   generalize Vr d=a2
   generalize (d.TypeV.all fun t=>!Qq t)=a3
   generalize d.Value.all T5=a4
   generalize F0.alls O11 d.Params=a5
   generalize F0.alls O11 d.Vars=a6
   generalize C0.alls Rc d.Body=a1
   cases a1 <;> cases a2 <;> cases a3 <;> cases a4 <;> cases a5 <;> cases a6 <;> simp
 rw [K6]
 exact main l 0 rfl
theorem I1k (l:List F0):F0.alls Y8 l=true→F0.alls O11 l=F0.alls Mk l:=by
 induction l using F0.inds with
 | h l ih=>
 induction l with
 | nil=>intro _; rfl
 | cons d r ihr=>
  intro h
  simp only [F0.alls,F0.all_eq,Bool.and_eq_true] at h
  obtain ⟨⟨h1,h2,h3⟩,h4⟩:=h
  obtain ⟨i1,i2⟩:=ih d List.mem_cons_self
  have h5:d.TypeV.all Oc=true:=by
   unfold Y8 at h1
   simp only [Bool.and_eq_true] at h1
   exact h1.1.1.1.1.1.1.2
  simp only [F0.alls,F0.all_eq,O11,Mk,← H1f d.TypeV h5,i1 h2,i2 h3,ihr (fun x hx=>ih x (List.mem_cons_of_mem _ hx)) h4]
theorem C1m (p:Q0)(h:OkP p):Xm p=some ⟨I19 p,J19 p⟩:=by
 have h1:=F0.ndss_bulk p.Decls
 have h2:=C0.ndss_bulk p.Body
 have h3:F0.bulks p.Decls≤BB:=h.decls
 have h4:C0.bulks p.Body≤BB:=h.body
 have hr:Z6 ⟨0,0⟩ (F0.ndss p.Decls+C0.ndss p.Body):=⟨Int.le_refl _,Int.le_refl _,by simp only; omega⟩
 unfold Xm
 rw [M1e p.Decls h.decls _ (hr.less (by omega)),ob,show (1:Int)=((1:Nat):Int) from rfl,D15 p.Body h.body 1 _ (by unfold BB at *; omega) (Z6.x hr),ob,Jx]
 unfold szX I19 J19
 simp only
 rw [show (0:Int)+((F0.ndss p.Decls+C0.ndss p.Body:Nat):Int)=((F0.ndss p.Decls+C0.ndss p.Body:Nat):Int) by omega,show max (0:Int) ((max (F0.dpss p.Decls) (C0.dpss p.Body 1):Nat):Int)=((max (F0.dpss p.Decls) (C0.dpss p.Body 1):Nat):Int) by omega]
theorem M1o (a b:Bool):(bif a then (bif a then b else default) else false)=(a&&b):=by cases a <;> rfl
theorem J1k (p:Q0)(h:OkP p):Zm p=some (Fp p):=by
 unfold Zm
 simp only [C1m p h,D1c _ h.decls,W11 _ h.body,S1a _ h.decls,Nz _ h.body,O17 _ h.decls,Wv _ h.body,ifd,ob,J1f,M1o]
 unfold Fp
 cases hf:F0.alls Y8 p.Decls with
 | false=>unfold Pq; rfl
 | true=>rw [I1k p.Decls hf]
theorem M16 (l:List C0):OkS l→∀ n,∃ m,H5 l n=some m:=by
 induction l using C0.inds with
 | h l ih=>
 intro hl n
 have main:∀ (r:List C0) (k:Nat) (n:Int),l.drop k=r→∃ m,C8 l n k=some m:=by
  intro r
  induction r with
  | nil=>intro k n h; rw [C8,(K1 h).1]; exact ⟨_,rfl⟩
  | cons s r ihr=>
   intro k n h
   obtain ⟨e1,e2,e3,e4,e5⟩:=Z1 h
   have hs:=hl.mem e5
   have hlen:=hl.len
   obtain ⟨i1,i2⟩:=ih s e5
   have tail:∀ n:Int,∃ m,(if decide ((s.Numbers.length:Int) > 100)=true then some (-1) else H5 s.Then n>>=fun x6=>H5 s.Else x6>>=fun x7=>C8 l x7 (IntKind.i64.wrap ((k:Int)+1)))=some m:=fun n=>by
    cases decide ((s.Numbers.length:Int) > 100) with
    | true=>exact ⟨_,rfl⟩
    | false=>
     obtain ⟨a,ha⟩:=i1 hs.thens n
     obtain ⟨b,hb⟩:=i2 hs.elses a
     rw [if_neg (by simp),ha,ob,hb,ob,w1 (by omega)]
     exact ihr (k+1) b e3
   have l2:∀ (q:List A0) (j:Nat) (n:Int),s.Args.drop j=q→∃ m,Pa l s n k j=some m:=by
    intro q
    induction q with
    | nil=>intro j n hj; rw [Pa,(K1 hj).1,cond_false,if_neg (by simp)]; exact tail n
    | cons a q ihq=>
     intro j n hj
     obtain ⟨f1,f2,f3,f4,f5⟩:=Z1 hj
     have:=hs.args
     rw [Pa,f1,cond_true,f2]
     cases decide (n≥0) with
     | false=>rw [if_neg (by simp)]; exact tail n
     | true=>
      obtain ⟨m,hm⟩:=Tt a (hs.arg a f5) n
      rw [if_pos rfl,ob,hm,ob,w1 (by omega)]
      exact ihq (j+1) m f3
   rw [C8,e1,cond_true,e2]
   cases decide (n≥0) with
   | false=>exact ⟨_,rfl⟩
   | true=>
    rw [if_pos rfl,ob]
    obtain ⟨a,ha⟩:=Tt s.Place hs.place (IntKind.i64.wrap ((IntKind.i64.wrap (n - 1)) - (IntKind.i64.wrap (Int.tdiv ((s.Name).length:Int) 16))))
    obtain ⟨b,hb⟩:=Tt s.Value hs.value a
    rw [ha,ob,hb,ob]
    exact l2 s.Args 0 b rfl
 rw [H5]
 exact main l 0 n rfl
theorem Z1h (l:List F0):OkD l→∀ n,∃ m,F9 l n=some m:=by
 induction l using F0.inds with
 | h l ih=>
 intro hl n
 have main:∀ (r:List F0) (k:Nat) (n:Int),l.drop k=r→∃ m,Qa l n k=some m:=by
  intro r
  induction r with
  | nil=>intro k n h; rw [Qa,(K1 h).1]; exact ⟨_,rfl⟩
  | cons d r ihr=>
   intro k n h
   obtain ⟨e1,e2,e3,e4,e5⟩:=Z1 h
   have hs:=hl.mem e5
   have hlen:=hl.len
   obtain ⟨i1,i2⟩:=ih d e5
   rw [Qa,e1,cond_true,e2]
   cases decide (n≥0) with
   | false=>exact ⟨_,rfl⟩
   | true=>
    rw [if_pos rfl,ob]
    obtain ⟨a,ha⟩:=R1h d.TypeV hs.type (IntKind.i64.wrap ((IntKind.i64.wrap (n - 1)) - (IntKind.i64.wrap (Int.tdiv ((d.Name).length:Int) 16))))
    obtain ⟨b,hb⟩:=Tt d.Value hs.value a
    obtain ⟨c,hc⟩:=i1 hs.params b
    obtain ⟨e,he⟩:=i2 hs.vars c
    obtain ⟨f,hf⟩:=M16 d.Body hs.body e
    rw [ha,ob,hb,ob,hc,ob,he,ob,hf,ob,w1 (by omega)]
    exact ihr (k+1) f e3
 rw [F9]
 exact main l 0 n rfl
theorem K1k (p:Q0)(h:OkP p)(n:Int):∃ b,Kr p n=some b:=by
 obtain ⟨a,ha⟩:=Z1h p.Decls h.decls n
 obtain ⟨b,hb⟩:=M16 p.Body h.body a
 unfold Kr
 rw [ha,ob,hb]
 exact ⟨_,rfl⟩
theorem O1e {p:Q0}(h:p.bulk≤4200000):OkP p:=by
 cases p
 simp only [Q0.bulk] at h
 exact ⟨by unfold OkD BB; simp only; omega,by unfold OkS BB; simp only; omega⟩
end Go.Proofs.YtbmlpamppbcdeaaGreatDoor

namespace Go.Proofs.YtbmlpamppbcdeaaGreatDoor
open Go.Am
set_option maxRecDepth 100000
set_option maxHeartbeats 4000000
theorem P17:Ni=some true:=L1a 200 _ (by kernel_rfl)
end Go.Proofs.YtbmlpamppbcdeaaGreatDoor

set_option linter.unusedSimpArgs false
set_option linter.unusedVariables false
namespace Go.Proofs.YtbmlpamppbcdeaaGreatDoor
open Go.Am
end Go.Proofs.YtbmlpamppbcdeaaGreatDoor

set_option linter.unusedSimpArgs false
set_option linter.unusedVariables false
namespace Go.Proofs.YtbmlpamppbcdeaaGreatDoor
open Go.Am
variable {σ:Str→Str}
end Go.Proofs.YtbmlpamppbcdeaaGreatDoor

set_option linter.unusedSimpArgs false
set_option linter.unusedVariables false
namespace Go.Proofs.YtbmlpamppbcdeaaGreatDoor
open Go.Am
theorem rmO {n k:Nat}(h:n≤4 * BB)(hk:k≤300):decide (n * k≤140737488355328)=true:=by
 have:n * k≤4 * BB * 300:=Nat.mul_le_mul h hk
 unfold BB at this
 exact decide_eq_true (by omega)
mutual
def A0.used:A0→List Str
 | .mk o _ s ks=>(bif o == 3 then [s] else [])++A0.useds ks
def A0.useds:List A0→List Str
 | []=>[]
 | x::r=>A0.used x++A0.useds r
end
mutual
def D0.used:D0→List Str
 | .mk k _ _ _ n _ of=>(bif k == 4 then [n] else [])++D0.useds of
def D0.useds:List D0→List Str
 | []=>[]
 | x::r=>D0.used x++D0.useds r
end
mutual
def C0.used:C0→List Str
 | .mk v pl va nm ar _ _ _ _ th el=>(bif uNm v then [nm] else [])++(pl.used++(va.used++(A0.useds ar++(C0.useds th++C0.useds el))))
def C0.useds:List C0→List Str
 | []=>[]
 | x::r=>C0.used x++C0.useds r
end
mutual
def F0.used:F0→List Str
 | .mk _ nm t _ v ps vs bd=>nm::(t.used++(v.used++(F0.useds ps++(F0.useds vs++C0.useds bd))))
def F0.useds:List F0→List Str
 | []=>[]
 | x::r=>F0.used x++F0.useds r
end
theorem A0.used_eq (e:A0):e.used=(bif e.Op == 3 then [e.Name] else [])++A0.useds e.Kids:=by cases e; simp only [A0.used]
theorem D0.used_eq (e:D0):e.used=(bif e.Kind == 4 then [e.Name] else [])++D0.useds e.Of:=by cases e; simp only [D0.used]
theorem C0.used_eq (s:C0):s.used=(bif uNm s.Verb then [s.Name] else [])++(s.Place.used++(s.Value.used++(A0.useds s.Args++(C0.useds s.Then++C0.useds s.Else)))):=by cases s; simp only [C0.used]
theorem F0.used_eq (d:F0):d.used=d.Name::(d.TypeV.used++(d.Value.used++(F0.useds d.Params++(F0.useds d.Vars++C0.useds d.Body)))):=by cases d; simp only [F0.used]
mutual
theorem A0.used_len:∀ e:A0,e.used.length+1≤e.bulk
 | .mk o n s ks=>by
  have:=A0.useds_len ks
  simp only [A0.used,A0.bulk,List.length_append]
  cases o == 3 <;> simp <;> omega
theorem A0.useds_len:∀ l:List A0,(A0.useds l).length≤A0.bulks l
 | []=>Nat.le_refl _
 | x::r=>by
  have:=A0.used_len x
  have:=A0.useds_len r
  simp only [A0.useds,A0.bulks,List.length_append]; omega
end
mutual
theorem D0.used_len:∀ e:D0,e.used.length+1≤e.bulk
 | .mk k l h s n ns of=>by
  have:=D0.useds_len of
  simp only [D0.used,D0.bulk,List.length_append]
  cases k == 4 <;> simp <;> omega
theorem D0.useds_len:∀ l:List D0,(D0.useds l).length≤D0.bulks l
 | []=>Nat.le_refl _
 | x::r=>by
  have:=D0.used_len x
  have:=D0.useds_len r
  simp only [D0.useds,D0.bulks,List.length_append]; omega
end
mutual
theorem C0.used_len:∀ e:C0,e.used.length+1≤e.bulk
 | .mk v pl va nm ar n lo hi ns th el=>by
  have h1:=C0.useds_len th
  have h2:=C0.useds_len el
  have h3:=A0.used_len pl
  have h4:=A0.used_len va
  have h5:=A0.useds_len ar
  simp only [C0.used,C0.bulk,List.length_append]
  cases uNm v <;> simp <;> omega
theorem C0.useds_len:∀ l:List C0,(C0.useds l).length≤C0.bulks l
 | []=>Nat.le_refl _
 | x::r=>by
  have:=C0.used_len x
  have:=C0.useds_len r
  simp only [C0.useds,C0.bulks,List.length_append]; omega
end
mutual
theorem F0.used_len:∀ e:F0,e.used.length+1≤e.bulk
 | .mk k nm t i v ps vs bd=>by
  have h1:=F0.useds_len ps
  have h2:=F0.useds_len vs
  have h3:=D0.used_len t
  have h4:=A0.used_len v
  have h5:=C0.useds_len bd
  simp only [F0.used,F0.bulk,List.length_append,List.length_cons]
  omega
theorem F0.useds_len:∀ l:List F0,(F0.useds l).length≤F0.bulks l
 | []=>Nat.le_refl _
 | x::r=>by
  have:=F0.used_len x
  have:=F0.useds_len r
  simp only [F0.useds,F0.bulks,List.length_append]; omega
end
theorem K19 (e:A0):OkE e→D7 e=some e.used:=by
 induction e using A0.ind with
 | h e ih=>
 intro ho
 have hb:A0.bulks e.Kids≤BB:=by
  have:=A0.bulk_eq e
  unfold OkE at ho; omega
 have main:∀ (r:List A0) (k:Nat) (out:List Str),e.Kids.drop k=r→out.length+A0.bulks r≤2 * BB→Dd e out k=some (out++A0.useds r):=by
  intro r
  induction r with
  | nil=>intro k out h _; rw [Dd,(K1 h).1]; simp [A0.useds]
  | cons x r ihr=>
   intro k out h hl
   obtain ⟨e1,e2,e3,e4,e5⟩:=Z1 h
   have hx:=A0.used_len x
   have hk:=ho.kids
   simp only [A0.bulks] at hl
   rw [Dd,e1,if_pos rfl,e2,ob,ih x e5 (ho.kid e5),ob,rmO (by omega) (by decide),if_pos rfl,w1 (by omega),ihr (k+1) _ e3 (by rw [List.length_append]; omega)]
   simp only [A0.useds,List.append_assoc]
 rw [D7,A0.used_eq]
 cases e.Op == 3 with
 | true=>
  rw [if_pos rfl,rmO (n:=0+1) (by unfold BB; omega) (by decide),if_pos rfl,Kg]
  exact main e.Kids 0 _ rfl (by simp; unfold BB at *; omega)
 | false=>
  rw [if_neg (by simp),Kg]
  exact main e.Kids 0 _ rfl (by simp; omega)
theorem Y1n (e:D0):Ok e→Ie e=some e.used:=by
 induction e using D0.ind with
 | h e ih=>
 intro ho
 have hb:D0.bulks e.Of≤BB:=by
  have:=D0.bulk_eq e
  unfold Ok at ho; omega
 have main:∀ (r:List D0) (k:Nat) (out:List Str),e.Of.drop k=r→out.length+D0.bulks r≤2 * BB→Cd e out k=some (out++D0.useds r):=by
  intro r
  induction r with
  | nil=>intro k out h _; rw [Cd,(K1 h).1]; simp [D0.useds]
  | cons x r ihr=>
   intro k out h hl
   obtain ⟨e1,e2,e3,e4,e5⟩:=Z1 h
   have hx:=D0.used_len x
   have hk:=ho.ofs
   simp only [D0.bulks] at hl
   rw [Cd,e1,if_pos rfl,e2,ob,ih x e5 (ho.kid e5),ob,rmO (by omega) (by decide),if_pos rfl,w1 (by omega),ihr (k+1) _ e3 (by rw [List.length_append]; omega)]
   simp only [D0.useds,List.append_assoc]
 rw [Ie,D0.used_eq]
 cases e.Kind == 4 with
 | true=>
  rw [if_pos rfl,rmO (n:=0+1) (by unfold BB; omega) (by decide),if_pos rfl,Jg]
  exact main e.Of 0 _ rfl (by simp; unfold BB at *; omega)
 | false=>
  rw [if_neg (by simp),Jg]
  exact main e.Of 0 _ rfl (by simp; omega)
theorem L1k (l:List C0):OkS l→B6 l=some (C0.useds l):=by
 refine C0.inds (Q:=fun l=>OkS l→B6 l=some (C0.useds l)) (fun l ih ho=>?_) l
 have hl:=ho.len
 have main:∀ (r:List C0) (k:Nat) (out:List Str),l.drop k=r→out.length+C0.bulks r≤2 * BB→Gb l out k=some (out++C0.useds r):=by
  intro r
  induction r with
  | nil=>intro k out h _; rw [Gb,(K1 h).1]; simp [C0.useds]
  | cons x r ihr=>
   intro k out h hl2
   obtain ⟨e1,e2,e3,e4,e5⟩:=Z1 h
   have o1:=ho.mem e5
   simp only [C0.bulks] at hl2
   have b0:=C0.bulk_eq x
   have b1:=A0.used_len x.Place
   have b2:=A0.used_len x.Value
   have b3:=C0.useds_len x.Then
   have b4:=C0.useds_len x.Else
   have l3:∀ (q:List A0) (j:Nat) (out:List Str),x.Args.drop j=q→out.length+A0.bulks q+C0.bulks x.Then+C0.bulks x.Else+C0.bulks r≤2 * BB→Hb l x out k j=some (out++(A0.useds q++(C0.useds x.Then++(C0.useds x.Else++C0.useds r)))):=by
    intro q
    induction q with
    | nil=>
     intro j out h hq
     simp only [A0.bulks] at hq
     rw [Hb,(K1 h).1,if_neg (by simp),(ih x e5).1 o1.thens,ob,rmO (by omega) (by decide),if_pos rfl,(ih x e5).2 o1.elses,ob,rmO (by rw [List.length_append]; omega) (by decide),if_pos rfl,w1 (by omega),ihr (k+1) _ e3 (by rw [List.length_append,List.length_append]; omega)]
     simp only [A0.useds,List.nil_append,List.append_assoc]
    | cons y q ihq=>
     intro j out h hq
     obtain ⟨f1,f2,f3,f4,f5⟩:=Z1 h
     have hy:=A0.used_len y
     have hk:=o1.args
     simp only [A0.bulks] at hq
     rw [Hb,f1,if_pos rfl,f2,ob,K19 y (o1.arg y f5),ob,rmO (by omega) (by decide),if_pos rfl,w1 (by omega),ihq (j+1) _ f3 (by rw [List.length_append]; omega)]
     simp only [A0.useds,List.append_assoc]
   have j2:∀ out:List Str,out.length+(x.bulk - 1)+C0.bulks r≤2 * BB→Jf l x out k=some (out++(x.Place.used++(x.Value.used++(A0.useds x.Args++(C0.useds x.Then++(C0.useds x.Else++C0.useds r)))))):=fun out hq=>by
    rw [Jf,K19 _ o1.place,ob,rmO (by omega) (by decide),if_pos rfl,K19 _ o1.value,ob,rmO (by rw [List.length_append]; omega) (by decide),if_pos rfl]
    have:=l3 x.Args 0 ((out++x.Place.used)++x.Value.used) rfl (by rw [List.length_append,List.length_append]; omega)
    rw [show ((0:Nat):Int)=0 from rfl] at this
    rw [this]
    simp only [List.append_assoc]
   rw [Gb,e1,if_pos rfl,e2,ob,rUN,ob]
   simp only [C0.useds]
   rw [C0.used_eq]
   cases uNm x.Verb with
   | true=>
    rw [if_pos rfl,rmO (by omega) (by decide),if_pos rfl,j2 _ (by rw [List.length_append]; simp; omega)]
    simp only [cond_true,List.append_assoc]
   | false=>
    rw [if_neg (by simp),j2 _ (by omega)]
    simp only [cond_false,List.nil_append,List.append_assoc]
 rw [B6]
 have h0:C0.bulks l≤BB:=ho
 exact main l 0 [] rfl (by simp; omega)
theorem Z1n (l:List F0):OkD l→O9 l=some (F0.useds l):=by
 induction l using F0.inds with
 | h l ih=>
 intro ho
 have hl:=ho.len
 have main:∀ (r:List F0) (k:Nat) (out:List Str),l.drop k=r→out.length+F0.bulks r≤2 * BB→Ib l out k=some (out++F0.useds r):=by
  intro r
  induction r with
  | nil=>intro k out h _; rw [Ib,(K1 h).1]; simp [F0.useds]
  | cons x r ihr=>
   intro k out h hl2
   obtain ⟨e1,e2,e3,e4,e5⟩:=Z1 h
   have o1:=ho.mem e5
   obtain ⟨i1,i2⟩:=ih x e5
   simp only [F0.bulks] at hl2
   have b0:=F0.bulk_eq x
   have b1:=D0.used_len x.TypeV
   have b2:=A0.used_len x.Value
   have b3:=F0.useds_len x.Params
   have b4:=F0.useds_len x.Vars
   have b5:=C0.useds_len x.Body
   have g:∀ {n:Nat},n≤2 * BB→decide (n * 17≤140737488355328)=true:=fun h=>rmO (by omega) (by decide)
   rw [Ib,e1,if_pos rfl,e2,ob,g (by omega),if_pos rfl,Y1n _ o1.type,ob,g (by simp only [List.length_append,List.length_cons,List.length_nil]; omega),if_pos rfl,
    K19 _ o1.value,ob,g (by simp only [List.length_append,List.length_cons,List.length_nil]; omega),if_pos rfl,i1 o1.params,ob,g (by simp only [List.length_append,List.length_cons,List.length_nil]; omega),if_pos rfl,
    i2 o1.vars,ob,g (by simp only [List.length_append,List.length_cons,List.length_nil]; omega),if_pos rfl,L1k _ o1.body,ob,g (by simp only [List.length_append,List.length_cons,List.length_nil]; omega),if_pos rfl,
    w1 (by omega),ihr (k+1) _ e3 (by simp only [List.length_append,List.length_cons,List.length_nil]; omega)]
   simp only [F0.useds,F0.used_eq,List.append_assoc,List.cons_append,List.nil_append]
 rw [O9]
 have h0:F0.bulks l≤BB:=ho
 exact main l 0 [] rfl (by simp; omega)
theorem P1e:∀ a b:Str,Op.bytesLess a b=true ↔ a < b
 | [],[]=>by simp [Op.bytesLess]
 | a::x,[]=>by simp [Op.bytesLess]
 | [],b::y=>by simp [Op.bytesLess]
 | a::x,b::y=>by
  rw [Op.bytesLess,List.cons_lt_cons_iff,← P1e x y]
  simp
def Asc (l:List Str):Prop:=l.Pairwise (· < ·)
theorem S1b {l:List Str}(h:Asc l):l.Nodup:=h.imp fun {a b} hab e=>by subst e; exact absurd hab (List.lt_irrefl a)
theorem A1o {l m:List Str}(h1:Asc l)(h2:Asc m)(h:∀ x,x∈l ↔ x∈m):l=m:=
 List.Perm.eq_of_pairwise (fun a b _ _ p q=>absurd (List.lt_trans p q) (List.lt_irrefl a)) h1 h2 ((List.perm_ext_iff_of_nodup (S1b h1) (S1b h2)).2 h)
theorem Q17 {l out:List Str}(hl:l.length≤BB)(ho:out.length≤2 * BB):∀ (r:List Str) (k:Nat) (m:Str),l.drop k=r→m∈l→(∀ x∈l.take k,¬ x < m)→∃ m'∈l,(∀ x∈l,¬ x < m')∧Je l out m k=Jb l (out++[m']) m' [] 0
 | [],k,m,h,hm,hq=>by
  refine ⟨m,hm,?_,?_⟩
  ·rw [List.take_of_length_le (K1 h).2] at hq; exact hq
  ·rw [Je,(K1 h).1,if_neg (by simp),rmO (by unfold BB at *; omega) (by decide),if_pos rfl]
 | x::r,k,m,h,hm,hq=>by
  obtain ⟨e1,e2,e3,e4,e5⟩:=Z1 h
  have htk:l.take (k+1)=l.take k++[x]:=by
   rw [List.take_add_one]
   have:l[k]?=some x:=by rw [← List.head?_drop,h]; rfl
   rw [this]; rfl
  rw [Je,e1,if_pos rfl,e2,ob,ob,w1 (by omega)]
  cases hb:Op.bytesLess x m with
  | true=>
   refine Q17 hl ho r (k+1) x e3 e5 fun y hy=>?_
   rw [htk,List.mem_append,List.mem_singleton] at hy
   rcases hy with hy | rfl
   ·exact fun h=>hq y hy (List.lt_trans h ((P1e _ _).1 hb))
   ·exact List.lt_irrefl _
  | false=>
   refine Q17 hl ho r (k+1) m e3 hm fun y hy=>?_
   rw [htk,List.mem_append,List.mem_singleton] at hy
   rcases hy with hy | rfl
   ·exact hq y hy
   ·exact fun h=>by rw [(P1e _ _).2 h] at hb; cases hb
theorem R17 {l out:List Str}(hl:l.length≤BB){m:Str}:∀ (r:List Str) (k:Nat) (rest:List Str),l.drop k=r→rest.length+r.length≤2 * BB→Jb l out m rest k=U8 (rest++r.filter fun x=>!(x == m)) out
 | [],k,rest,h,_=>by
  rw [Jb,(K1 h).1,if_neg (by simp),List.filter_nil,List.append_nil]
 | x::r,k,rest,h,hq=>by
  obtain ⟨e1,e2,e3,e4,e5⟩:=Z1 h
  simp only [List.length_cons] at hq
  rw [Jb,e1,if_pos rfl,e2,ob,ob,w1 (by omega),List.filter_cons]
  cases !(x == m) with
  | true=>
   rw [if_pos rfl,rmO (by omega) (by decide),if_pos rfl,if_pos rfl,R17 hl r (k+1) _ e3 (by rw [List.length_append]; simp; omega),List.append_assoc]
   rfl
  | false=>rw [if_neg (by simp),if_neg (by simp),R17 hl r (k+1) _ e3 (by omega)]
theorem Q1e:∀ (n:Nat) (left out:List Str),left.length≤n→n≤BB→out.length+n≤2 * BB→Asc out→(∀ a∈out,∀ b∈left,a < b)→∃ o,U8 left out=some (o,0)∧o.length≤out.length+left.length∧Asc o∧∀ nm,nm∈o ↔ nm∈out∨nm∈left
 | n,[],out,h,hn,ho,ha,_=>by
  refine ⟨out,?_,by simp,ha,fun nm=>by simp⟩
  rw [U8]
  rfl
 | 0,x::r,out,h,hn,ho,_,_=>by simp at h
 | n+1,x::r,out,h,hn,ho,ha,hab=>by
  obtain ⟨m,m1,m0,m2⟩:=Q17 (l:=x::r) (out:=out) (by omega) (by omega) (x::r) 0 x rfl List.mem_cons_self (fun y hy=>by simp at hy)
  have h3:=R17 (l:=x::r) (out:=out++[m]) (m:=m) (by omega) (x::r) 0 [] rfl (by simp only [List.length_nil]; omega)
  rw [List.nil_append] at h3
  have hlt:((x::r).filter fun y=>!(y == m)).length < (x::r).length:=by
   rw [List.length_filter_lt_length_iff_exists]
   exact ⟨m,m1,by simp⟩
  have hgt:∀ b∈(x::r).filter (fun y=>!(y == m)),m < b:=fun b hb=>by
   obtain ⟨q1,q2⟩:=List.mem_filter.1 hb
   have:=m0 b q1
   rcases List.le_total m b with h' | h'
   ·rcases Classical.em (m < b) with h2 | h2
    ·exact h2
    ·have:b=m:=List.le_antisymm h2 h'
     subst this
     simp at q2
   ·exact absurd (show ¬ b < m from this) (by
     intro _
     have:b=m:=List.le_antisymm h' this
     subst this
     simp at q2)
  obtain ⟨o,o1,o2,o4,o3⟩:=Q1e n ((x::r).filter fun y=>!(y == m)) (out++[m]) (by omega) (by omega) (by rw [List.length_append]; simp; omega)
   (List.pairwise_append.2 ⟨ha,List.pairwise_singleton _ _,fun a ha b hb=>by rw [List.mem_singleton] at hb; subst hb; exact hab a ha _ m1⟩)
   (fun a ha b hb=>by
    rw [List.mem_append,List.mem_singleton] at ha
    rcases ha with ha | rfl
    ·exact hab a ha b (List.mem_filter.1 hb).1
    ·exact hgt b hb)
  refine ⟨o,?_,by rw [List.length_append] at o2; simp only [List.length_cons,List.length_nil] at o2 hlt ⊢; omega,o4,fun nm=>?_⟩
  ·rw [U8,decide_eq_true (show (((x::r).length:Nat):Int) > 0 by simp),if_pos rfl,show idx (x::r) 0=some x from rfl,ob]
   rw [show ((0:Nat):Int)=0 from rfl] at m2 h3
   rw [m2,h3,o1]
  ·rw [o3,List.mem_append,List.mem_filter,List.mem_singleton]
   by_cases e:nm=m
   ·subst e; simp [m1]
   ·simp only [e,or_false]
    rw [show (!(nm == m))=true by simpa using e]
    simp
theorem N1o {p:Q0}{n:Nat}(h:p.bulk≤n):F0.bulks p.Decls+C0.bulks p.Body≤n:=by
 obtain ⟨ds,b⟩:=p
 simp only [Q0.bulk] at h
 simp only
 omega
def Wq (p:Q0):List Str:=F0.useds p.Decls++C0.useds p.Body
theorem T1b {p:Q0}{n:Nat}(hb:p.bulk≤n):(Wq p).length≤n:=by
 have b1:=F0.useds_len p.Decls
 have b2:=C0.useds_len p.Body
 have h2:=N1o hb
 unfold Wq
 rw [List.length_append]
 omega
theorem G1n (p:Q0)(hb:p.bulk≤4200000):∃ o,An p=some (bif Fp p != 0 then [] else o,Fp p)∧o.length≤BB∧Asc o∧∀ nm,nm∈o ↔ nm∈Wq p:=by
 have h:=O1e hb
 have h2:=T1b hb
 unfold Wq at h2
 obtain ⟨o,o1,o2,o4,o3⟩:=Q1e (F0.useds p.Decls++C0.useds p.Body).length (F0.useds p.Decls++C0.useds p.Body) [] (Nat.le_refl _) (by unfold BB; omega) (by simp only [List.length_nil]; unfold BB; omega) List.Pairwise.nil (fun a ha=>by cases ha)
 refine ⟨o,?_,by simp only [List.length_nil] at o2; unfold BB; omega,o4,fun nm=>(o3 nm).trans (by simp [Wq])⟩
 unfold An
 rw [J1k p h,ob]
 cases hc:Fp p != 0 with
 | true=>rfl
 | false=>
  have h0:Fp p=0:=by simpa using hc
  rw [if_neg (by simp),Z1n _ h.decls,ob,L1k _ h.body,ob,rmO (by rw [List.length_append] at h2; unfold BB; omega) (by decide),if_pos rfl,o1,h0]
  rfl
end Go.Proofs.YtbmlpamppbcdeaaGreatDoor

set_option linter.unusedSimpArgs false
set_option linter.unusedVariables false
namespace Go.Proofs.YtbmlpamppbcdeaaGreatDoor
open Go.Am
def Pb (m:List (Str×Bool))(l:List Str):List (Str×Bool):=l.foldl (fun m s=>mpt s true m) m
theorem Nn (m:List (Str×Bool)):Pb m []=m:=rfl
theorem Kh (m:List (Str×Bool))(a b:List Str):Pb m (a++b)=Pb (Pb m a) b:=by simp [Pb]
theorem U1b (m:List (Str×Bool))(a:Str)(b:List Str):Pb m (a::b)=Pb (mpt a true m) b:=rfl
theorem T1a (m:List (Str×Bool))(b:Bool)(s:Str):Pb m (bif b then [s] else [])=bif b then mpt s true m else m:=by cases b <;> rfl
theorem R1e (k:Str):∀ m:List (Str×Bool),(mpt k true m).map Prod.fst=bif (m.map Prod.fst).contains k then m.map Prod.fst else m.map Prod.fst++[k]
 | []=>rfl
 | (k',x)::r=>by
  simp only [mpt,List.map_cons,List.contains_cons]
  by_cases h:k=k'
  ·subst h; simp
  ·rw [beq_eq_false_iff_ne.2 h,cond_false,Bool.false_or,List.map_cons,R1e k r]
   cases (r.map Prod.fst).contains k <;> rfl
theorem V1b:∀ (l:List Str) (m:List (Str×Bool)),(m.map Prod.fst).Nodup→((Pb m l).map Prod.fst).Nodup∧((Pb m l).length≤m.length+l.length)∧∀ nm,nm∈(Pb m l).map Prod.fst ↔ nm∈m.map Prod.fst∨nm∈l
 | [],m,h=>⟨h,by simp [Nn],fun nm=>by simp [Nn]⟩
 | k::l,m,h=>by
  have hk:=R1e k m
  have hlen:(mpt k true m).length≤m.length+1:=by
   have:=congrArg List.length hk
   rw [List.length_map] at this
   rw [this]
   cases (m.map Prod.fst).contains k <;> simp
  have hmem:∀ nm,nm∈(mpt k true m).map Prod.fst ↔ nm∈m.map Prod.fst∨nm=k:=fun nm=>by
   rw [hk]
   cases hc:(m.map Prod.fst).contains k with
   | true=>
    rw [cond_true]
    refine ⟨.inl,fun h=>h.elim id fun h=>?_⟩
    subst h
    exact List.contains_iff_mem.1 hc
   | false=>rw [cond_false,List.mem_append,List.mem_singleton]
  have hnd:((mpt k true m).map Prod.fst).Nodup:=by
   rw [hk]
   cases hc:(m.map Prod.fst).contains k with
   | true=>exact h
   | false=>
    rw [cond_false,List.nodup_append]
    refine ⟨h,by simp,fun a ha b hb=>?_⟩
    rw [List.mem_singleton] at hb
    subst hb
    intro e
    subst e
    rw [List.contains_iff_mem.2 ha] at hc
    cases hc
  obtain ⟨h1,h2,h3⟩:=V1b l (mpt k true m) hnd
  rw [U1b]
  refine ⟨h1,by simp only [List.length_cons]; omega,fun nm=>(h3 nm).trans ?_⟩
  rw [hmem,List.mem_cons,or_assoc]
theorem M1k {m:List (Str×Bool)}(h:(m.map Prod.fst).Nodup):Asc (Ug m)∧∀ nm,nm∈Ug m ↔ nm∈m.map Prod.fst:=by
 have tot:∀ a b:List UInt8,(decide (a≤b)||decide (b≤a))=true:=fun a b=>by
  rcases List.le_total a b with h | h <;> simp [h]
 have tr:∀ a b c:List UInt8,decide (a≤b)=true→decide (b≤c)=true→decide (a≤c)=true:=fun a b c h1 h2=>by
  simp only [decide_eq_true_eq] at *
  exact List.le_trans h1 h2
 have hs:=List.pairwise_mergeSort tr tot (m.map Prod.fst)
 have hp:=List.mergeSort_perm (m.map Prod.fst) (fun x y=>decide (x≤y))
 refine ⟨?_,fun nm=>hp.mem_iff⟩
 have hn:(Ug m).Nodup:=hp.nodup_iff.2 h
 refine (List.Pairwise.and hs hn).imp fun {a b} q=>?_
 have hle:=of_decide_eq_true q.1
 rcases Classical.em (a < b) with h1 | h1
 ·exact h1
 ·exact absurd (List.le_antisymm hle h1) q.2
theorem L19 (e:A0):OkE e→∀ m,R4 e m=some (e,Pb m e.used):=by
 induction e using A0.ind with
 | h e ih=>
 intro ho m
 have hk:=ho.kids
 have main:∀ (r:List A0) (k:Nat) (m:List (Str×Bool)) (out:List A0),e.Kids.drop k=r→out.length+r.length≤BB→D3 e.Kids m out k=some (out++r,Pb m (A0.useds r)):=by
  intro r
  induction r with
  | nil=>intro k m out h _; rw [D3,(K1 h).1]; simp [A0.useds,Nn]
  | cons x r ihr=>
   intro k m out h hl
   obtain ⟨e1,e2,e3,e4,e5⟩:=Z1 h
   simp only [List.length_cons] at hl
   rw [D3,e1,if_pos rfl,e2,ob,ih x e5 (ho.kid e5),ob,rmO (by omega) (by decide),if_pos rfl,w1 (by omega),ihr (k+1) _ _ e3 (by rw [List.length_append]; simp; omega)]
   simp only [A0.useds,Kh,List.append_assoc,List.singleton_append]
 have j1:∀ m,Y9 e m e.Name=some (e,Pb m (A0.useds e.Kids)):=fun m=>by
  have hm:=main e.Kids 0 m [] rfl (by simp; omega)
  rw [show ((0:Nat):Int)=0 from rfl] at hm
  rw [Y9,T6,hm,ob,List.nil_append]
  cases e
  rfl
 rw [R4,A0.used_eq,Kh,T1a]
 cases e.Op == 3 with
 | true=>rw [if_pos rfl,C7,ob,j1]; rfl
 | false=>rw [if_neg (by simp),j1]; rfl
theorem H1n (l:List A0)(hl:l.length≤BB)(ho:∀ x∈l,OkE x)(m:List (Str×Bool)):T6 l m=some (l,Pb m (A0.useds l)):=by
 have main:∀ (r:List A0) (k:Nat) (m:List (Str×Bool)) (out:List A0),l.drop k=r→out.length+r.length≤BB→D3 l m out k=some (out++r,Pb m (A0.useds r)):=by
  intro r
  induction r with
  | nil=>intro k m out h _; rw [D3,(K1 h).1]; simp [A0.useds,Nn]
  | cons x r ihr=>
   intro k m out h hl
   obtain ⟨e1,e2,e3,e4,e5⟩:=Z1 h
   simp only [List.length_cons] at hl
   rw [D3,e1,if_pos rfl,e2,ob,L19 x (ho x e5),ob,rmO (by omega) (by decide),if_pos rfl,w1 (by omega),ihr (k+1) _ _ e3 (by rw [List.length_append]; simp; omega)]
   simp only [A0.useds,Kh,List.append_assoc,List.singleton_append]
 rw [T6]
 exact main l 0 m [] rfl (by simp; omega)
theorem B1o (l:List Str)(h:l.length≤BB):Ea l=some l:=by
 unfold Ea
 rw [rmO (by omega) (by decide),if_pos rfl]
theorem C1o (l:List Int)(h:l.length≤BB):Wg l=some l:=by
 unfold Wg
 rw [rmO (by omega) (by decide),if_pos rfl]
theorem D1o (e:D0):Ok e→∀ m,D8 e m=some (e,Pb m e.used):=by
 induction e using D0.ind with
 | h e ih=>
 intro ho m
 have hk:=ho.ofs
 have main:∀ (r:List D0) (k:Nat) (m:List (Str×Bool)) (out:List D0),e.Of.drop k=r→out.length+r.length≤BB→N6 e.Of m out k=some (out++r,Pb m (D0.useds r)):=by
  intro r
  induction r with
  | nil=>intro k m out h _; rw [N6,(K1 h).1]; simp [D0.useds,Nn]
  | cons x r ihr=>
   intro k m out h hl
   obtain ⟨e1,e2,e3,e4,e5⟩:=Z1 h
   simp only [List.length_cons] at hl
   rw [N6,e1,if_pos rfl,e2,ob,ih x e5 (ho.kid e5),ob,rmO (by omega) (by decide),if_pos rfl,w1 (by omega),ihr (k+1) _ _ e3 (by rw [List.length_append]; simp; omega)]
   simp only [D0.useds,Kh,List.append_assoc,List.singleton_append]
 have j1:∀ m,Ra e m e.Name=some (e,Pb m (D0.useds e.Of)):=fun m=>by
  have hm:=main e.Of 0 m [] rfl (by simp; omega)
  rw [show ((0:Nat):Int)=0 from rfl] at hm
  rw [Ra,B1o _ ho.names,ob,Gk,hm,ob,List.nil_append]
  cases e
  rfl
 rw [D8,D0.used_eq,Kh,T1a]
 cases e.Kind == 4 with
 | true=>rw [if_pos rfl,C7,ob,j1]; rfl
 | false=>rw [if_neg (by simp),j1]; rfl
theorem N1k (l:List C0):OkS l→∀ m,L3 l m=some (l,Pb m (C0.useds l)):=by
 refine C0.inds (Q:=fun l=>OkS l→∀ m,L3 l m=some (l,Pb m (C0.useds l))) (fun l ih ho m=>?_) l
 have hl:=ho.len
 have one:∀ x∈l,∀ m,Oh x m=some (x,Pb m x.used):=fun x hx m=>by
  have o1:=ho.mem hx
  obtain ⟨i1,i2⟩:=ih x hx
  have j1:∀ m,Z9 x m x.Name=some (x,Pb m (x.Place.used++(x.Value.used++(A0.useds x.Args++(C0.useds x.Then++C0.useds x.Else))))):=fun m=>by
   rw [Z9,L19 _ o1.place,ob,L19 _ o1.value,ob,H1n _ o1.args o1.arg,ob,C1o _ o1.nums,ob,i1 o1.thens,ob,i2 o1.elses,ob]
   simp only [Kh]
   cases x; rfl
  rw [Oh,B15,ob,C0.used_eq,Kh,T1a]
  show (if uNm x.Verb=true then _ else _)=_
  cases uNm x.Verb with
  | true=>rw [if_pos rfl,C7,ob,j1]; rfl
  | false=>rw [if_neg (by simp),j1]; rfl
 have main:∀ (r:List C0) (k:Nat) (m:List (Str×Bool)) (out:List C0),l.drop k=r→out.length+r.length≤BB→P6 l m out k=some (out++r,Pb m (C0.useds r)):=by
  intro r
  induction r with
  | nil=>intro k m out h _; rw [P6,(K1 h).1]; simp [C0.useds,Nn]
  | cons x r ihr=>
   intro k m out h hl
   obtain ⟨e1,e2,e3,e4,e5⟩:=Z1 h
   simp only [List.length_cons] at hl
   rw [P6,e1,if_pos rfl,e2,ob,one x e5,ob,rmO (by omega) (by decide),if_pos rfl,w1 (by omega),ihr (k+1) _ _ e3 (by rw [List.length_append]; simp; omega)]
   simp only [C0.useds,Kh,List.append_assoc,List.singleton_append]
 rw [L3]
 exact main l 0 m [] rfl (by simp; omega)
theorem E1o (l:List F0):OkD l→∀ m,I5 l m=some (l,Pb m (F0.useds l)):=by
 induction l using F0.inds with
 | h l ih=>
 intro ho m
 have hl:=ho.len
 have one:∀ x∈l,∀ m,Ph x m=some (x,Pb m x.used):=fun x hx m=>by
  have o1:=ho.mem hx
  obtain ⟨i1,i2⟩:=ih x hx
  rw [Ph,C7,ob,D1o _ o1.type,ob,L19 _ o1.value,ob,i1 o1.params,ob,i2 o1.vars,ob,N1k _ o1.body,ob,F0.used_eq,U1b]
  simp only [Kh]
  cases x; rfl
 have main:∀ (r:List F0) (k:Nat) (m:List (Str×Bool)) (out:List F0),l.drop k=r→out.length+r.length≤BB→Q6 l m out k=some (out++r,Pb m (F0.useds r)):=by
  intro r
  induction r with
  | nil=>intro k m out h _; rw [Q6,(K1 h).1]; simp [F0.useds,Nn]
  | cons x r ihr=>
   intro k m out h hl
   obtain ⟨e1,e2,e3,e4,e5⟩:=Z1 h
   simp only [List.length_cons] at hl
   rw [Q6,e1,if_pos rfl,e2,ob,one x e5,ob,rmO (by omega) (by decide),if_pos rfl,w1 (by omega),ihr (k+1) _ _ e3 (by rw [List.length_append]; simp; omega)]
   simp only [F0.useds,Kh,List.append_assoc,List.singleton_append]
 rw [I5]
 exact main l 0 m [] rfl (by simp; omega)
theorem F1o (p:Q0)(hb:p.bulk≤4200000):∃ o,Ml p=some o∧o.length≤BB∧Asc o∧∀ nm,nm∈o ↔ nm∈Wq p:=by
 have h:=O1e hb
 have h2:=T1b hb
 obtain ⟨k1,k2,k3⟩:=V1b (Wq p) [] List.nodup_nil
 obtain ⟨s1,s2⟩:=M1k k1
 refine ⟨Ug (Pb [] (Wq p)),?_,?_,s1,fun nm=>(s2 nm).trans ((k3 nm).trans (by simp))⟩
 ·unfold Ml
  rw [E1o _ h.decls,ob,N1k _ h.body,ob]
  simp only [← Kh]
  change (if decide ((Pb [] (Wq p)).length * 17≤140737488355328)=true then some (Ug (Pb [] (Wq p))) else none)=_
  rw [rmO (by simp only [List.length_nil] at k2; unfold BB; omega) (by decide),if_pos rfl]
 ·simp only [Ug,List.length_mergeSort,List.length_map]
  simp only [List.length_nil] at k2
  unfold BB; omega
theorem S17 (p:Q0)(hb:p.bulk≤1048576)(hk:Ni=some true):Aj p=some true:=by
 have hb1:p.bulk≤4200000:=by omega
 have h:=O1e hb1
 obtain ⟨o,o1,o2,o4,o3⟩:=F1o p hb1
 obtain ⟨q,q1,q2,q4,q3⟩:=G1n p hb1
 have e:o=q:=A1o o4 q4 fun nm=>(o3 nm).trans (q3 nm).symm
 subst e
 obtain ⟨b,hw⟩:=K1k p h 400
 unfold Aj Qo
 rw [hk,ob,if_neg (by simp),hw,ob]
 cases b with
 | false=>rfl
 | true=>
  rw [if_neg (by simp),Z1l p h,ob,q1]
  have loop:∀ (a:List Str) (c c':Int),a.length≤BB→∀ (r:List Str) (k:Nat),a.drop k=r→L5 (a,c) (a,c') k=some true:=by
   intro a c c' ha r
   induction r with
   | nil=>intro k h; rw [L5,(K1 h).1,if_neg (by simp)]
   | cons x r ihr=>
    intro k h
    obtain ⟨e1,e2,e3,e4,e5⟩:=Z1 h
    rw [L5,e1,if_pos rfl,e2,ob,ob,beq_self_eq_true,if_neg (by simp),w1 (by omega)]
    exact ihr (k+1) e3
  cases hc:Fp p != 0 with
  | true=>
   simp only [if_true,ob,cond_true,bne_self_eq_false,cond_false,Bool.false_eq_true,if_false]
   exact loop [] _ _ (Nat.zero_le _) [] 0 rfl
  | false=>
   have h0:Fp p=0:=by simpa using hc
   simp only [Bool.false_eq_true,if_false,o1,ob,cond_false,h0,bne_self_eq_false]
   exact loop o _ _ o2 o 0 rfl
end Go.Proofs.YtbmlpamppbcdeaaGreatDoor

