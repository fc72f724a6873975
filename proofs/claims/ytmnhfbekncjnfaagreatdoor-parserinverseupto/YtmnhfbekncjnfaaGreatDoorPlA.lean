/- A part of the proof of ParserInverse. -/
import Derived.Test.YtmnhfbekncjnfaaGreatDoorDgC
import Derived.ProofKit
import Derived.Lib.Atoi
namespace Go.Proofs.YtmnhfbekncjnfaaGreatDoor
set_option linter.unusedSectionVars false
open Go.Am
theorem ob {α β:Type}(a:α)(f:α→Option β):(some a>>=f)=f a:=rfl
theorem I2 {α:Type}{l:List α}{k:Nat}{x:α}{r:List α}(h:l.drop k=x::r):decide ((k:Int) < (l.length:Int))=true∧idx l (k:Int)=some x∧l.drop (k+1)=r∧k < l.length∧x∈l:=by
 have hk:k < l.length:=by
  rcases Nat.lt_or_ge k l.length with h1 | h1
  ·exact h1
  ·rw [List.drop_eq_nil_of_le h1] at h; cases h
 have hx:=List.drop_eq_getElem_cons hk
 rw [h] at hx
 obtain ⟨e1,e2⟩:=List.cons.inj hx
 refine ⟨zqj (by omega),?_,e2.symm,hk,?_⟩
 ·unfold idx
  rw [zp (by omega),e1]
  simp [hk]
 ·rw [e1]; exact List.getElem_mem hk
theorem W1 {α:Type}{l:List α}{k:Nat}(h:l.drop k=[]):decide ((k:Int) < (l.length:Int))=false∧l.length≤k:=by
 have:=List.drop_eq_nil_iff.1 h
 exact ⟨zqs (by omega),this⟩
def BB:Nat:=68719476736
theorem wr {n:Int}(h : -4611686018427387904≤n)(h':n≤4611686018427387904):IntKind.i64.wrap n=n:=Y1q (by omega) (by omega)
theorem w1 {k:Nat}(h:k≤BB):IntKind.i64.wrap ((k:Int)+1)=((k+1:Nat):Int):=by
 unfold BB at h
 rw [wr (by omega) (by omega)]; rfl
def X6 (n:Int):Bool:=bif decide (n≥97) then decide (n≤122) else false
def P8 (n:Int):Bool:=bif decide (n≥48) then decide (n≤57) else false
def K1d (i:Nat)(c:UInt8):Bool:=X6 c.toNat||(i != 0&&P8 c.toNat)
def Rg:Nat→List UInt8→Bool
 | _,[]=>true
 | i,c::r=>K1d i c&&Rg (i+1) r
def word (s:List UInt8):Bool:=Rg 0 s && !(s == [])
def kw:List UInt8:=[32,116,121,112,101,32,115,101,99,114,101,116,32,112,117,98,108,105,99,32,114,97,110,100,111,109,32,118,97,114,32,104,97,116,99,104,32,102,117,110,99,32,114,101,116,117,114,110,32,98,101,103,105,110,32,101,110,100,32,98,111,111,108,32,105,110,116,32,97,114,114,97,121,32,111,102,32,114,101,99,111,114,100,32,116,114,117,101,32,102,97,108,115,101,32,99,97,108,108,32,114,101,108,101,97,115,101,32,111,117,116,112,117,116,32,119,97,105,116,32,105,102,32,101,108,115,101,32,119,104,105,108,101,32,108,105,109,105,116,32,102,111,114,32,116,111,32,115,101,116,116,108,101,32,109,105,110,32,109,97,120,32]
def Er (s:List UInt8):Bool:=bif (bif !(s == []) then !Lib.contains s [32] else false) then Lib.contains kw ([32]++s++[32]) else false
def P3 (s:List UInt8):Bool:=bif (bif decide ((s.length:Int)≤12) then word s else false) then !Er s else false
theorem getD_some {s:List UInt8}{k:Nat}(h:k < s.length):s[k]?=some (s.getD k 0):=by simp [List.getD,h]
def ld (c:UInt8):Bool:=bif X6 c.toNat then true else P8 c.toNat
def Q8:List UInt8→Nat
 | []=>0
 | c::r=>bif ld c then Q8 r+1 else 0
theorem O17:∀ s:List UInt8,Q8 s≤s.length
 | []=>zqr _
 | c::r=>by
  simp only [Q8,zqd]
  have:=O17 r
  cases ld c <;> simp <;> omega
def L16 (s:List UInt8):Bool:=bif ((s.length:Nat):Int) == 0 then false else bif s.all (fun c=>X6 c.toNat) then Lib.contains kw ([32]++s++[32]) else false
set_option maxRecDepth 100000 in
theorem M16:kw.length=162:=rfl
theorem O1h {s sub:List UInt8}{i:Nat}(hi:i+sub.length≤s.length)(h:((s.take (i+sub.length)).drop i == sub)=true):Lib.contains s sub=true:=by
 have ho:Lib.occAt s sub i=true:=by
  rw [Lib.occAt_iff_take s sub i hi]
  rw [List.drop_take] at h
  simpa using h
 rcases Lib.index_spec s sub with ⟨_,h2⟩ | ⟨j,h1,_⟩
 ·rw [h2 i (by omega)] at ho; cases ho
 ·unfold Lib.contains
  rw [h1]
  exact zqj (by omega)
theorem N13 {s sub:List UInt8}(h:∀ i,i+sub.length≤s.length→((s.take (i+sub.length)).drop i == sub)=false)(hne:sub≠[]):Lib.contains s sub=false:=by
 rcases Lib.index_spec s sub with ⟨h1,_⟩ | ⟨j,h1,h2,h3,_⟩
 ·unfold Lib.contains
  rw [h1]; rfl
 ·rcases Lib.occAt_room h3 with hr | hr
  ·have:=h j hr
   rw [Lib.occAt_iff_take s sub j hr] at h3
   rw [List.drop_take] at this
   have e:j+sub.length - j=sub.length:=by omega
   rw [e,h3] at this
   cases this
  ·exact absurd hr hne
def K1m (s:List UInt8):Bool:=
 bif (bif (bif (bif decide (((s.length:Nat):Int) < 1) then true else decide (((s.length:Nat):Int) > 12)) then true else !X6 (s.getD 0 0).toNat) then true else L16 s) then false else ((Q8 s:Nat):Int) == ((s.length:Nat):Int)
theorem T18:∀ (r:List UInt8) (i:Nat),1≤i→Rg i r=r.all ld
 | [],_,_=>rfl
 | c::r,i,h=>by
  have hi:(i != 0)=true:=by simp; omega
  simp only [Rg,List.all_cons,T18 r (i+1) (by omega),K1d,hi,Bool.true_and,ld]
  cases X6 c.toNat <;> rfl
theorem G1k:∀ s:List UInt8,(((Q8 s:Nat):Int) == ((s.length:Nat):Int))=s.all ld
 | []=>rfl
 | c::r=>by
  have h:=G1k r
  have hle:=O17 r
  simp only [Q8,zqd,List.all_cons,← h]
  cases ld c with
  | false=>
   simp only [zql,Bool.false_and]
   apply zqn.2
   omega
  | true=>
   simp only [zqk,Bool.true_and]
   rw [Bool.eq_iff_iff,beq_iff_eq,beq_iff_eq]
   omega
set_option maxRecDepth 100000 in
theorem R1r:kw.all (fun c=>X6 c.toNat||c == 32)=true:=by decide
theorem N16 {s sub:List UInt8}(h:Lib.contains s sub=true)(hne:sub≠[]):∀ c∈sub,c∈s:=by
 rcases Lib.index_spec s sub with ⟨h1,_⟩ | ⟨j,h1,h2,h3,_⟩
 ·unfold Lib.contains at h
  rw [h1] at h
  cases h
 ·rcases Lib.occAt_room h3 with hr | hr
  ·rw [Lib.occAt_iff_take s sub j hr] at h3
   have e:(s.drop j).take sub.length=sub:=by simpa using h3
   intro c hc
   rw [← e] at hc
   exact List.mem_of_mem_drop (List.mem_of_mem_take hc)
  ·exact absurd hr hne
theorem P1h:ld 32=false:=by decide
theorem S1r {s:List UInt8}(h:s.all ld=true):Lib.contains s [32]=false:=by
 cases hc:Lib.contains s [32] with
 | false=>rfl
 | true=>
  have:=N16 hc (by simp) 32 (by simp)
  have:=List.all_eq_true.1 h 32 this
  rw [P1h] at this
  cases this
theorem Y1t {s:List UInt8}(h:s.all ld=true)(hc:Lib.contains kw ([32]++s++[32])=true):s.all (fun c=>X6 c.toNat)=true:=by
 rw [List.all_eq_true]
 intro c hcs
 have h1:=N16 hc (by simp) c (by simp [hcs])
 have h2:=List.all_eq_true.1 R1r c h1
 have h3:=List.all_eq_true.1 h c hcs
 cases hl:X6 c.toNat with
 | true=>rfl
 | false=>
  rw [hl,Bool.false_or,beq_iff_eq] at h2
  subst h2
  rw [P1h] at h3
  cases h3
theorem Z1t (s:List UInt8):K1m s=P3 s:=by
 unfold K1m P3
 rw [G1k]
 cases s with
 | nil=>rfl
 | cons c r=>
  have h1:decide ((((c::r).length:Nat):Int) < 1)=false:=zqs (by simp only [zqd]; omega)
  have h12:decide ((((c::r).length:Nat):Int) > 12) = !decide ((((c::r).length:Nat):Int)≤12):=by
   rw [← decide_not]; exact decide_eq_decide.2 Int.not_le.symm
  have hw:word (c::r)=(X6 c.toNat&&r.all ld):=by
   unfold word
   simp only [Rg,K1d,T18 r 1 (zqr _)]
   simp
  rw [h1,h12,hw,zql,List.all_cons]
  show (bif (bif (bif !decide ((((c::r).length:Nat):Int)≤12) then true else !X6 c.toNat) then true else L16 (c::r)) then false else (ld c&&r.all ld))=_
  cases h12':decide ((((c::r).length:Nat):Int)≤12) with
  | false=>rfl
  | true=>
   cases hl:X6 c.toNat with
   | false=>rfl
   | true=>
    have hlc:ld c=true:=by unfold ld; rw [hl]; rfl
    rw [hlc]
    cases ha:r.all ld with
    | false=>cases L16 (c::r) <;> rfl
    | true=>
     have hall:(c::r).all ld=true:=by rw [List.all_cons,hlc,ha]; rfl
     have hns:=S1r hall
     have e:L16 (c::r)=Er (c::r):=by
      unfold L16 Er
      rw [hns]
      have hz:((((c::r).length:Nat):Int) == 0)=false:=zqn.2 (by simp only [zqd]; omega)
      rw [hz]
      cases hk:Lib.contains kw ([32]++(c::r)++[32]) with
      | false=>simp
      | true=>
       rw [Y1t hall hk]
       rfl
     rw [e]
     cases Er (c::r) <;> rfl
theorem Fz (n:Int):Eg n=some (X6 n):=rfl
theorem Zu (n:Int):Nd n=some (P8 n):=rfl
theorem Z1b (s:Str)(hs:s.length≤BB):∀ (r:Str) (k:Nat),s.drop k=r→Ma s k=some (Rg k r && !(s == []))
 | [],k,h=>by rw [Ma,(W1 h).1]; simp [Rg]
 | c::r,k,h=>by
  obtain ⟨h1,h2,h3,h4,_⟩:=I2 h
  have ih:=Z1b s hs r (k+1) h3
  rw [Ma,h1,zp rfl,h2,ob,Fz,ob,w1 (by omega),ih]
  have e:((k:Int) == 0)=(k == 0):=by cases k <;> rfl
  simp only [e,Rg,K1d,bne]
  cases hl:X6 c.toNat <;> cases hk:k == 0 <;> cases hd:P8 c.toNat <;> simp [Zu,hd]
theorem R1o (s:Str)(hs:s.length≤BB):Dp s=some (word s):=Z1b s hs s 0 rfl
theorem O13 (s t:Str)(hs:s.length≤4000000000):Bp s t=some (Lib.contains s t):=by
 unfold Bp
 rw [zp (zqj (by omega))]
theorem U18 (s:Str)(hs:s.length≤4000000000):Zd s=some (Er s):=by
 unfold Zd
 have h1:decide (1+s.length≤maxLen)=true:=zqj (by unfold maxLen; omega)
 have h2:decide (([32]++s).length+1≤maxLen)=true:=zqj (by unfold maxLen; simp; omega)
 rw [O13 s _ hs]
 have h3:=O13 kw (([32]++s)++[32]) (by rw [M16]; omega)
 unfold kw at h3
 unfold Er kw
 rw [h1,h2,h3]
 cases s == [] <;> cases Lib.contains s [32] <;> simp
theorem S1o (s:Str)(hs:s.length≤BB):Ek s=some (P3 s):=by
 unfold Ek Ep P3
 rw [R1o s hs]
 cases h:decide ((s.length:Int)≤12) with
 | false=>simp
 | true=>
  have h':s.length≤12:=by have:=of_decide_eq_true h; omega
  rw [U18 s (by omega)]
  cases word s <;> simp
theorem Tw (n:Int):Pi n=some (X6 n):=rfl
theorem P1j (n:Int):Nr n=some (P8 n):=rfl
theorem H1k (s:Str)(hs:s.length≤BB):∀ (r:Str) (k:Nat),s.drop k=r→Se s k=some ((k+Q8 r:Nat):Int)
 | [],k,h=>by rw [Se,(W1 h).1]; simp [Q8,ob]
 | c::r,k,h=>by
  obtain ⟨h1,h2,h3,h4,_⟩:=I2 h
  have ih:=H1k s hs r (k+1) h3
  rw [Se,h1,zp rfl,h2,ob,zp rfl,Tw,ob,w1 (by omega),ih]
  simp only [Q8,ld]
  cases hl:X6 c.toNat <;> cases hd:P8 c.toNat <;> simp [P1j,hd,ob] <;> omega
theorem M1v (s:Str)(hs:s.length≤BB):Ts s 0=some ((Q8 s:Nat):Int):=by
 have:=H1k s hs s 0 rfl
 unfold Ts
 rw [Nat.zero_add] at this
 exact this
theorem T1r (s:Str)(hs:s.length≤4000000000):∀ (n k:Nat),n+k=163→(∀ i,i < k→i+([32]++s++[32]).length≤kw.length→((kw.take (i+([32]++s++[32]).length)).drop i == [32]++s++[32])=false)→
  A8 s k=some (Lib.contains kw ([32]++s++[32])):=by
 have hl:([32]++s++[32]).length=s.length+2:=by simp
 intro n
 induction n with
 | zero=>
  intro k hk hi
  rw [A8,wr (n:=(k:Int)+_) (by omega) (by omega),wr (by omega) (by omega),zn (by simp; omega),N13 (fun i h=>hi i (by rw [M16] at h; omega) h) (by simp)]
 | succ n ih=>
  intro k hk hi
  rw [A8,wr (n:=(k:Int)+_) (by omega) (by omega),wr (by omega) (by omega)]
  by_cases hr:k+([32]++s++[32]).length≤kw.length
  ·have hr':=hr
   rw [M16,hl] at hr'
   rw [zp (zqj (by omega))]
   have hs2:slc kw (k:Int) ((k:Int)+(s.length:Int)+2)=some ((kw.take (k+([32]++s++[32]).length)).drop k):=by
    unfold slc
    rw [zp ⟨by omega,by omega,by rw [M16]; omega⟩,hl]
    rw [show ((k:Int)+(s.length:Int)+2).toNat=k+(s.length+2) by omega]
    rfl
   unfold kw at hs2
   rw [hs2,ob,zp (zqj (by unfold maxLen; omega)),zp (zqj (by unfold maxLen; simp; omega))]
   cases he:((kw.take (k+([32]++s++[32]).length)).drop k == [32]++s++[32]) with
   | true=>
    have:=O1h hr he
    rw [this]
    unfold kw at he
    rw [he,zp rfl]
   | false=>
    have he':=he
    unfold kw at he'
    rw [he',zn (by simp),w1 (by unfold BB; omega)]
    refine ih (k+1) (by omega) fun i hik=>?_
    rcases Nat.lt_or_eq_of_le (Nat.le_of_lt_succ hik) with h | h
    ·exact hi i h
    ·subst h; exact fun _=>he
  ·have hr':=hr
   rw [M16,hl] at hr'
   rw [zn (by simp; omega),N13 (fun i h=>hi i (by omega) h) (by simp)]
theorem Q1h (s:Str)(hs:s.length≤4000000000):∀ (r:Str) (k:Nat),s.drop k=r→B8 s k=some (bif r.all (fun c=>X6 c.toNat) then Lib.contains kw ([32]++s++[32]) else false)
 | [],k,h=>by rw [B8,(W1 h).1,zn (by simp)]; exact T1r s hs 163 0 rfl (fun i h=>by omega)
 | c::r,k,h=>by
  obtain ⟨h1,h2,h3,h4,_⟩:=I2 h
  have ih:=Q1h s hs r (k+1) h3
  rw [B8,h1,zp rfl,h2,ob,Tw,ob,w1 (by unfold BB; omega),ih,List.all_cons]
  cases X6 c.toNat <;> simp
theorem L1d (s:Str)(hs:s.length≤4000000000):Qi s=some (L16 s):=by
 unfold Qi L16
 have:=Q1h s hs s 0 rfl
 rw [show (0:Int)=((0:Nat):Int) from rfl,this]
 cases ((s.length:Int) == ((0:Nat):Int)) <;> simp
theorem Ql (s:Str)(hs:s.length≤BB):Ad s=some (P3 s):=by
 rw [← Z1t]
 unfold Ad Jp K1m
 cases h:(bif decide ((s.length:Int) < 1) then true else decide ((s.length:Int) > 12)) with
 | true=>simp [ob]
 | false=>
  have h':1≤s.length∧s.length≤12:=by
   cases h1:decide ((s.length:Int) < 1) with
   | true=>rw [h1] at h; cases h
   | false=>
    rw [h1] at h
    have:=of_decide_eq_false h1
    have:=of_decide_eq_false (show decide ((s.length:Int) > 12)=false from h)
    omega
  have h0:idx s 0=some (s.getD 0 0):=getD_some (by omega)
  rw [h0,L1d s (by omega),M1v s hs]
  simp only [zqg,zt,ob,Tw,zql]
  cases X6 (s.getD 0 0).toNat <;> cases L16 s <;> simp [ob]
set_option linter.unusedSimpArgs false
theorem E0.ind {P:E0→Prop}(h:∀ t:E0,(∀ x∈t.Of,P x)→P t):∀ t,P t:=by
 intro t
 refine E0.rec (motive_1:=P) (motive_2:=fun l=>∀ x∈l,P x) ?_ ?_ ?_ t
 ·intro k l h' s n ns of ih
  exact h _ ih
 ·intro x hx; cases hx
 ·intro x r hx hr y hy
  cases hy with
  | head=>exact hx
  | tail _ hy=>exact hr y hy
mutual
def E0.depth:E0→Nat
 | .mk _ _ _ _ _ _ of=>E0.depths of+1
def E0.depths:List E0→Nat
 | []=>0
 | t::r=>max (E0.depth t) (E0.depths r)
end
theorem E0.depth_eq (t:E0):t.depth=E0.depths t.Of+1:=by cases t; simp [E0.depth,E0.Of]
def A2 (a b c:Int):Bool:=bif decide (a≥b) then decide (a≤c) else false
mutual
def E0.all (p:E0→Bool):E0→Bool
 | .mk k l h s n ns of=>p (.mk k l h s n ns of)&&E0.alls p of
def E0.alls (p:E0→Bool):List E0→Bool
 | []=>true
 | t::r=>E0.all p t&&E0.alls p r
end
theorem E0.all_eq (p:E0→Bool)(t:E0):t.all p=(p t&&E0.alls p t.Of):=by cases t; rfl
mutual
def E0.nodes:E0→Nat
 | .mk _ _ _ _ _ _ of=>E0.nodess of+1
def E0.nodess:List E0→Nat
 | []=>0
 | t::r=>E0.nodes t+E0.nodess r
end
theorem E0.nodes_eq (t:E0):t.nodes=E0.nodess t.Of+1:=by cases t; rfl
mutual
theorem E0.depth_nodes:∀ t:E0,t.depth≤t.nodes
 | .mk _ _ _ _ _ _ of=>by simp only [E0.depth,E0.nodes]; have:=E0.depths_nodess of; omega
theorem E0.depths_nodess:∀ l:List E0,E0.depths l≤E0.nodess l
 | []=>zqr _
 | t::r=>by simp only [E0.depths,E0.nodess]; have:=E0.depth_nodes t; have:=E0.depths_nodess r; omega
end
def fm1 (t:E0):Bool:=bif decide (t.Kind≥0) then decide (t.Kind≤4) else false
def fm2 (t:E0):Bool:=bif t.Kind == 1 then true else bif t.Low == 0 then t.High == 0 else false
def fm3 (t:E0):Bool:=bif t.Kind == 2 then true else t.Size == 0
def fm4 (t:E0):Bool:=bif t.Kind == 4 then true else t.Name == []
def fm5 (t:E0):Bool:=bif t.Kind == 3 then true else ((t.Names).length:Int) == 0
def fm6 (t:E0):Bool:=bif t.Kind == 2 then ((t.Of).length:Int) == 1 else bif t.Kind == 3 then (bif decide (((t.Of).length:Int)≥1) then ((t.Of).length:Int) == ((t.Names).length:Int) else false) else ((t.Of).length:Int) == 0
def nm1 (t:E0):Bool:=bif t.Kind == 2 then A2 t.Size 1 32 else bif t.Kind == 3 then decide (((t.Of).length:Int)≤32) else true
def nm2 (t:E0):Bool:=bif t.Kind == 1 then (bif A2 t.Low (-1048576) 1048576 then A2 t.High t.Low 1048576 else false) else true
def na1 (t:E0):Bool:=bif t.Kind == 4 then P3 t.Name else true
def Xa (t:E0):Bool:=fm1 t&&fm2 t&&fm3 t&&fm4 t&&fm5 t&&fm6 t
def Rl (t:E0):Bool:=nm1 t&&nm2 t
def Ci (t:E0):Bool:=na1 t&&t.Names.all P3
theorem Ht (a b c:Bool):(a || !b || !c)=(a || !(b&&c)):=by cases a <;> cases b <;> cases c <;> rfl
def Fh (n d:Int)(f m u:Bool):Int:=
 bif (bif decide (n > 1024) then true else decide (d > 12)) then 4 else bif f then 1 else bif m then 7 else bif u then 3 else 0
theorem Ey (a b:Int):decide (a < b) = !decide (a≥b):=by
 rw [← decide_not]; exact decide_eq_decide.2 Int.not_le.symm
theorem T12 (a b:Int):decide (a > b) = !decide (a≤b):=by
 rw [← decide_not]; exact decide_eq_decide.2 Int.not_le.symm
def R1h (t:E0):Bool:=bif decide (t.Kind < 0) then true else decide (t.Kind > 4)
def S1h (t:E0):Bool:=
 bif (bif (bif (bif t.Kind != 1 then (bif t.Low != 0 then true else t.High != 0) else false) then true else (bif t.Kind != 2 then t.Size != 0 else false)) then true else (bif t.Kind != 4 then !(t.Name == []) else false)) then true else
  (bif t.Kind != 3 then ((t.Names).length:Int) != 0 else false)
def T1h (t:E0):Bool:=
 bif (bif (bif t.Kind == 2 then ((t.Of).length:Int) != 1 else false) then true else
  (bif t.Kind == 3 then (bif decide (((t.Of).length:Int) < 1) then true else ((t.Of).length:Int) != ((t.Names).length:Int)) else false)) then true else
  (bif (bif t.Kind != 2 then t.Kind != 3 else false) then ((t.Of).length:Int) != 0 else false)
theorem A1u (t:E0):fm1 t = !R1h t:=by
 unfold fm1 R1h
 rw [Ey,T12]
 cases decide (t.Kind≥0) <;> cases decide (t.Kind≤4) <;> rfl
theorem B1u (t:E0):(fm2 t&&fm3 t&&fm4 t&&fm5 t) = !S1h t:=by
 unfold fm2 fm3 fm4 fm5 S1h
 simp only [bne]
 generalize (t.Kind == 1)=a
 generalize (t.Kind == 2)=b
 generalize (t.Kind == 3)=c
 generalize (t.Kind == 4)=d
 generalize (t.Low == 0)=e
 generalize (t.High == 0)=f
 generalize (t.Size == 0)=g
 generalize (t.Name == [])=h
 generalize (((t.Names).length:Int) == 0)=i
 cases a <;> cases b <;> cases c <;> cases d <;> cases e <;> cases f <;> cases g <;> cases h <;> cases i <;> rfl
theorem C1u (t:E0):fm6 t = !T1h t:=by
 have hx:(t.Kind == 2)=true→(t.Kind == 3)=false:=fun h=>by
  have:t.Kind=2:=by simpa using h
  rw [this]; rfl
 unfold fm6 T1h
 rw [Ey]
 simp only [bne]
 revert hx
 generalize (t.Kind == 2)=b
 generalize (t.Kind == 3)=c
 generalize (((t.Of).length:Int) == 1)=d
 generalize (((t.Of).length:Int) == 0)=e
 generalize (((t.Of).length:Int) == ((t.Names).length:Int))=f
 generalize (decide (((t.Of).length:Int)≥1))=g
 intro hx
 cases b <;> cases c <;> first | (exact absurd (hx rfl) (by decide)) | (cases d <;> cases e <;> cases f <;> cases g <;> rfl)
theorem U1r (t:E0):Xa t=(!R1h t && !S1h t && !T1h t):=by
 rw [← A1u,← B1u,← C1u]
 unfold Xa
 simp only [Bool.and_assoc]
def Oh (n:Int):Bool:=bif decide (n≥-1048576) then decide (n≤1048576) else false
def Gr (t:E0):Bool:=
 bif (bif (bif t.Kind == 1 then (bif (bif !Oh t.Low then true else !Oh t.High) then true else decide (t.Low > t.High)) else false) then true else
  (bif t.Kind == 2 then (bif decide (t.Size < 1) then true else decide (t.Size > 32)) else false)) then true else decide (((t.Of).length:Int) > 32)
theorem U1h (t:E0)(hf:Xa t=true):Rl t = !Gr t:=by
 have hk1:(t.Kind == 1)=true→(t.Kind == 2)=false∧(t.Kind == 3)=false:=fun h=>by
  have:t.Kind=1:=by simpa using h
  rw [this]; exact ⟨rfl,rfl⟩
 have hk2:(t.Kind == 2)=true→(t.Kind == 3)=false:=fun h=>by
  have:t.Kind=2:=by simpa using h
  rw [this]; rfl
 have h6:fm6 t=true:=by
  unfold Xa at hf
  simp only [zqi] at hf
  exact hf.2
 have hin:(bif A2 t.Low (-1048576) 1048576 then A2 t.High t.Low 1048576 else false) = !(bif (bif !Oh t.Low then true else !Oh t.High) then true else decide (t.Low > t.High)):=by
  unfold A2 Oh
  by_cases a1:t.Low≥-1048576 <;> by_cases a2:t.Low≤1048576 <;> by_cases a3:t.High≥-1048576 <;> by_cases a4:t.High≤1048576 <;> by_cases a5:t.High≥t.Low <;>
   simp [a1,a2,a3,a4,a5] <;> omega
 have hsz:A2 t.Size 1 32 = !(bif decide (t.Size < 1) then true else decide (t.Size > 32)):=by
  unfold A2
  rw [Ey,T12]
  cases decide (t.Size≥1) <;> cases decide (t.Size≤32) <;> rfl
 unfold Rl Gr nm1 nm2
 rw [hin,hsz,T12 (((t.Of).length:Int))]
 have hl:(t.Kind == 3)=false→decide (((t.Of).length:Int)≤32)=true:=fun h3=>by
  unfold fm6 at h6
  rw [h3] at h6
  cases h2:t.Kind == 2 with
  | true=>
   rw [h2] at h6
   have:((t.Of).length:Int)=1:=by simpa using h6
   exact zqj (by omega)
  | false=>
   rw [h2] at h6
   have:((t.Of).length:Int)=0:=by simpa using h6
   exact zqj (by omega)
 revert hk1 hk2 hl
 generalize (bif (bif !Oh t.Low then true else !Oh t.High) then true else decide (t.Low > t.High))=X
 generalize (bif decide (t.Size < 1) then true else decide (t.Size > 32))=Y
 generalize decide (((t.Of).length:Int)≤32)=Z
 generalize (t.Kind == 1)=a
 generalize (t.Kind == 2)=b
 generalize (t.Kind == 3)=c
 intro hk1 hk2 hl
 cases a <;> cases b <;> cases c <;> first | exact absurd (hk1 rfl).1 (by decide) | exact absurd (hk1 rfl).2 (by decide) | exact absurd (hk2 rfl) (by decide) | (cases X <;> cases Y <;> cases Z <;> first | rfl | exact absurd (hl rfl) (by decide))
theorem Q1j (t:E0):t.all Xa=true→t.all Rl=t.all fun t=>!Gr t:=by
 induction t using E0.ind with
 | h t ih=>
 intro hf
 rw [E0.all_eq,zqi] at hf
 rw [E0.all_eq,E0.all_eq,U1h t hf.1]
 congr 1
 have:∀ l:List E0,(∀ x∈l,x.all Xa=true→x.all Rl=x.all fun t=>!Gr t)→E0.alls Xa l=true→E0.alls Rl l=E0.alls (fun t=>!Gr t) l:=by
  intro l
  induction l with
  | nil=>intros; rfl
  | cons x r ihr=>
   intro h1 h2
   simp only [E0.alls,zqi] at h2
   simp only [E0.alls]
   rw [h1 x zqp h2.1,ihr (fun y hy=>h1 y (zqq _ hy)) h2.2]
 exact this t.Of ih hf.2
theorem E0.alls_mem {p:E0→Bool}:∀ {l:List E0} {t:E0},E0.alls p l=true→t∈l→t.all p=true
 | x::r,t,h,hm=>by
  simp only [E0.alls,zqi] at h
  cases hm with
  | head=>exact h.1
  | tail _ hm=>exact E0.alls_mem h.2 hm
def eqL {α:Type}(p:α→α→Bool):List α→List α→Bool
 | [],[]=>true
 | x::r,y::s=>p x y&&eqL p r s
 | _,_=>false
theorem Ej {α:Type}(p:α→α→Bool):∀ {l m:List α},l.length≠m.length→eqL p l m=false
 | [],[],h=>absurd rfl h
 | [],_::_,_=>rfl
 | _::_,[],_=>rfl
 | x::r,y::s,h=>by rw [eqL,Ej p (l:=r) (m:=s) (by simpa using h),Bool.and_false]
mutual
def E0.same:E0→E0→Bool
 | .mk k l h s n ns of,t=>k == t.Kind&&l == t.Low&&h == t.High&&s == t.Size&&n == t.Name&&eqL (fun x y=>x == y) ns t.Names&&E0.sames of t.Of
def E0.sames:List E0→List E0→Bool
 | [],[]=>true
 | x::r,y::s=>E0.same x y&&E0.sames r s
 | [],_::_=>false
 | _::_,[]=>false
end
theorem E0.sames_eq:∀ l m:List E0,E0.sames l m=eqL E0.same l m
 | [],[]=>rfl
 | x::r,y::s=>by simp only [E0.sames,eqL,E0.sames_eq r s]
 | [],_::_=>rfl
 | _::_,[]=>rfl
theorem E0.same_eq (t u:E0):t.same u=(t.Kind == u.Kind&&t.Low == u.Low&&t.High == u.High&&t.Size == u.Size&&t.Name == u.Name&&eqL (fun x y=>x == y) t.Names u.Names&&eqL E0.same t.Of u.Of):=by
 rw [← E0.sames_eq]
 cases t
 rfl
def M1d (t u:E0):Bool:=
 bif (bif (bif (bif (bif (bif t.Kind != u.Kind then true else t.Low != u.Low) then true else t.High != u.High) then true else t.Size != u.Size) then true else !(t.Name == u.Name)) then true else
  ((t.Names).length:Int) != ((u.Names).length:Int)) then true else ((t.Of).length:Int) != ((u.Of).length:Int)
theorem T1o {t u:E0}(h:M1d t u=true):t.same u=false:=by
 have hn:((t.Names).length:Int)≠((u.Names).length:Int)→eqL (fun x y=>x == y) t.Names u.Names=false:=fun h=>Ej _ fun e=>h (by omega)
 have ho:((t.Of).length:Int)≠((u.Of).length:Int)→eqL E0.same t.Of u.Of=false:=fun h=>Ej _ fun e=>h (by omega)
 unfold M1d at h
 rw [E0.same_eq]
 by_cases h1:((t.Names).length:Int)=((u.Names).length:Int)
 ·by_cases h2:((t.Of).length:Int)=((u.Of).length:Int)
  ·rw [h1,h2] at h
   revert h
   simp only [bne,zqm,zqf]
   cases t.Kind == u.Kind <;> cases t.Low == u.Low <;> cases t.High == u.High <;> cases t.Size == u.Size <;> cases t.Name == u.Name <;> simp
  ·rw [ho h2,Bool.and_false]
 ·rw [hn h1,Bool.and_false,Bool.false_and]
theorem V1r {t u:E0}(h:M1d t u=false):t.same u=(eqL (fun x y=>x == y) t.Names u.Names&&eqL E0.same t.Of u.Of)∧t.Names.length=u.Names.length∧t.Of.length=u.Of.length:=by
 unfold M1d at h
 simp only [bne] at h
 have key:t.Kind == u.Kind∧t.Low == u.Low∧t.High == u.High∧t.Size == u.Size∧t.Name == u.Name∧((t.Names).length:Int) == ((u.Names).length:Int)∧((t.Of).length:Int) == ((u.Of).length:Int):=by
  revert h
  cases t.Kind == u.Kind <;> cases t.Low == u.Low <;> cases t.High == u.High <;> cases t.Size == u.Size <;> cases t.Name == u.Name <;> cases ((t.Names).length:Int) == ((u.Names).length:Int) <;> cases ((t.Of).length:Int) == ((u.Of).length:Int) <;> simp
 obtain ⟨k1,k2,k3,k4,k5,k6,k7⟩:=key
 refine ⟨by rw [E0.same_eq,k1,k2,k3,k4,k5]; rfl,?_,?_⟩
 ·have:(t.Names.length:Int)=u.Names.length:=by simpa using k6
  omega
 ·have:(t.Of.length:Int)=u.Of.length:=by simpa using k7
  omega
mutual
def E0.bulk:E0→Nat
 | .mk _ _ _ _ n ns of=>1+(1+(1+(1+((n.length+1)+(((ns.map fun s=>s.length+1).sum+1)+((E0.bulks of+1)+0))))))+1
def E0.bulks:List E0→Nat
 | []=>0
 | x::r=>E0.bulk x+E0.bulks r
end
theorem E0.bulk_eq (t:E0):t.bulk=t.Name.length+(t.Names.map fun s=>s.length+1).sum+E0.bulks t.Of+8:=by cases t; simp only [E0.bulk]; omega
theorem E0.bulk_kid {t:E0}:∀ {l:List E0},t∈l→t.bulk≤E0.bulks l
 | x::r,h=>by
  simp only [E0.bulks]
  cases h with
  | head=>omega
  | tail _ h=>have:=E0.bulk_kid h; omega
theorem E0.bulk_len:∀ l:List E0,l.length≤E0.bulks l
 | []=>zqr _
 | x::r=>by
  simp only [E0.bulks,zqd]
  have:=E0.bulk_len r
  have:=E0.bulk_eq x
  omega
theorem V1h {s:Str}:∀ {l:List Str},s∈l→s.length+1≤(l.map fun s=>s.length+1).sum
 | x::r,h=>by
  simp only [List.map_cons,List.sum_cons]
  cases h with
  | head=>omega
  | tail _ h=>have:=V1h h; omega
theorem W1h:∀ l:List Str,l.length≤(l.map fun s=>s.length+1).sum
 | []=>zqr _
 | x::r=>by simp only [List.map_cons,List.sum_cons,zqd]; have:=W1h r; omega
mutual
theorem E0.nodes_bulk:∀ t:E0,t.nodes≤t.bulk
 | .mk _ _ _ _ _ _ of=>by simp only [E0.nodes,E0.bulk]; have:=E0.nodess_bulk of; omega
theorem E0.nodess_bulk:∀ l:List E0,E0.nodess l≤E0.bulks l
 | []=>zqr _
 | x::r=>by simp only [E0.nodess,E0.bulks]; have:=E0.nodes_bulk x; have:=E0.nodess_bulk r; omega
end
def Ok (t:E0):Prop:=t.bulk≤BB
theorem Ok.kid {t x:E0}(h:Ok t)(hx:x∈t.Of):Ok x:=by
 unfold Ok at *
 have:=E0.bulk_kid hx
 have:=E0.bulk_eq t
 omega
theorem Ok.ofs {t:E0}(h:Ok t):t.Of.length≤BB:=by
 unfold Ok at *
 have:=E0.bulk_len t.Of
 have:=E0.bulk_eq t
 omega
theorem Ok.names {t:E0}(h:Ok t):t.Names.length≤BB:=by
 unfold Ok at *
 have:=W1h t.Names
 have:=E0.bulk_eq t
 omega
theorem Ok.name1 {t:E0}(h:Ok t){s:Str}(hs:s∈t.Names):s.length≤BB:=by
 unfold Ok at *
 have:=V1h hs
 have:=E0.bulk_eq t
 omega
theorem Ok.name {t:E0}(h:Ok t):t.Name.length≤BB:=by
 unfold Ok at *
 have:=E0.bulk_eq t
 omega
theorem Ok.nodes {t:E0}(h:Ok t):t.nodes≤BB:=Nat.le_trans (E0.nodes_bulk t) h
theorem bor (a b:Bool):(bif a then true else b)=(a||b):=by cases a <;> rfl
theorem A1a (d:Int)(o:I0):C9 d o=some ⟨o.nodes,max o.depth d,o.badForm,o.badName,o.badNumber⟩:=rfl
theorem B1a (b:Bool)(o:I0):D1 b o=some ⟨o.nodes,o.depth,o.badForm || !b,o.badName,o.badNumber⟩:=by unfold D1; rw [bor]
theorem Av (b:Bool)(o:I0):O2 b o=some ⟨o.nodes,o.depth,o.badForm,o.badName,o.badNumber || !b⟩:=by unfold O2; rw [bor]
theorem Yj (a b c:Int):B4 a b c=some (A2 a b c):=rfl
theorem U12 (s:Str)(hs:s.length≤BB)(o:I0):A5 s o=some ⟨o.nodes,o.depth,o.badForm,o.badName || !P3 s,o.badNumber⟩:=by
 unfold A5
 rw [S1o s hs]
 cases h:o.badName <;> simp
theorem X1h (o:I0):D9 o=some (Fh o.nodes o.depth o.badForm o.badName o.badNumber):=by
 unfold D9 Fh
 cases (bif decide (o.nodes > 1024) then true else decide (o.depth > 12)) <;> cases o.badForm <;> cases o.badName <;> cases o.badNumber <;> rfl
def Sg (o:I0)(d:Int)(n m:Nat)(f a u:Bool):I0:=⟨o.nodes+n,max o.depth (d+m),o.badForm || !f,o.badName || !a,o.badNumber || !u⟩
theorem U1o (t:E0)(d:Int)(hd:0≤d)(ht:Ok t)
  (ih:∀ x∈t.Of,∀ (d:Int) (o:I0),0≤d→d+x.nodes≤4 * BB→0≤o.nodes→o.nodes+x.nodes≤4 * BB→N6 x d o=some (Sg o d x.nodes (x.depth - 1) (x.all Xa) (x.all Ci) (x.all Rl))) :
  ∀ (r:List E0) (k:Nat) (o:I0),t.Of.drop k=r→(∀ x∈r,x∈t.Of)→d+1+E0.nodess r≤4 * BB→0≤o.nodes→o.nodes+E0.nodess r≤4 * BB→d≤o.depth→
   I7 t d o k=some (Sg o d (E0.nodess r) (E0.depths r) (E0.alls Xa r) (E0.alls Ci r) (E0.alls Rl r))
 | [],k,o,h,_,_,_,_,h5=>by
  rw [I7,(W1 h).1]
  simp only [Sg,E0.nodess,E0.depths,E0.alls,zqf,Bool.or_false]
  rw [zn (by simp),show o.nodes+((0:Nat):Int)=o.nodes by omega,show max o.depth (d+((0:Nat):Int))=o.depth by omega]
 | x::r,k,o,h,hm,hb,h3,h4,h5=>by
  obtain ⟨e1,e2,e3,e4,e5⟩:=I2 h
  simp only [E0.nodess] at hb h4
  have hdp:1≤x.depth:=by rw [E0.depth_eq]; omega
  have hof:=ht.ofs
  unfold BB at hb h4 hof
  rw [I7,e1,zp rfl,e2,ob,wr (n:=d+1) (by omega) (by omega),ih x e5 (d+1) o (by omega) (by unfold BB; omega) h3 (by unfold BB; omega),ob,w1 (by unfold BB; omega),
   U1o t d hd ht ih r (k+1) _ e3 (fun y hy=>hm y (zqq _ hy)) (by unfold BB; omega) (by simp only [Sg]; omega) (by simp only [Sg]; unfold BB; omega) (by simp only [Sg]; omega)]
  simp only [Sg,E0.nodess,E0.depths,E0.alls,Ht]
  rw [show o.nodes+(x.nodes:Int)+(E0.nodess r:Nat)=o.nodes+((x.nodes+E0.nodess r:Nat):Int) by omega,
   show max (max o.depth (d+1+((x.depth - 1:Nat):Int))) (d+(E0.depths r:Nat))=max o.depth (d+((max x.depth (E0.depths r):Nat):Int)) by omega]
theorem V1o (t:E0)(d:Int)(ht:Ok t)(R:I0→Option I0)(hR:∀ o,I7 t d o 0=R o) :
  ∀ (r:List Str) (k:Nat) (o:I0),t.Names.drop k=r→D6 t d o k=R ⟨o.nodes,o.depth,o.badForm,o.badName || !r.all P3,o.badNumber⟩
 | [],k,o,h=>by
  rw [D6,(W1 h).1,zn (by simp),hR]
  simp
 | x::r,k,o,h=>by
  obtain ⟨e1,e2,e3,e4,e5⟩:=I2 h
  have:=ht.names
  rw [D6,e1,zp rfl,e2,ob,U12 x (ht.name1 e5),ob,w1 (by omega),V1o t d ht R hR r (k+1) _ e3]
  simp only [List.all_cons,Ht]
theorem N1v (t:E0)(d:Int)(ht:Ok t)(o:I0):Da t d o=D6 t d ⟨o.nodes,o.depth,o.badForm,o.badName || !na1 t,o.badNumber⟩ 0:=by
 rw [Da,U12 _ ht.name,ob,Bd,Bd]
 unfold na1
 cases h:t.Kind == 4 <;> simp
theorem O1v (t:E0)(d:Int)(o:I0):Ca t d o=Da t d ⟨o.nodes,o.depth,o.badForm,o.badName,o.badNumber || !nm2 t⟩:=by
 rw [Ca]
 unfold nm2
 simp only [Yj,Av,ob]
 cases h:t.Kind == 1 <;> cases A2 t.Low (-1048576) 1048576 <;> simp [ob]
theorem P1v (t:E0):Ok t→∀ (d:Int) (o:I0),0≤d→d+t.nodes≤4 * BB→0≤o.nodes→o.nodes+t.nodes≤4 * BB→
  N6 t d o=some (Sg o d t.nodes (t.depth - 1) (t.all Xa) (t.all Ci) (t.all Rl)):=by
 induction t using E0.ind with
 | h t ih=>
 intro ht d o hd hb h3 h4
 have h5:=fun o h3 h4 hd'=>U1o t d hd ht (fun x hx=>ih x hx (ht.kid hx)) t.Of 0 o rfl (fun _ h=>h) (by rw [E0.nodes_eq] at hb; omega) h3 h4 hd'
 have l4:=V1o t d ht _ (fun o=>rfl) t.Names 0
 rw [E0.nodes_eq] at hb h4
 unfold BB at hb h4
 rw [N6]
 simp only [A1a,B1a,Yj,Av,ob,O1v,N1v t d ht]
 rw [wr (n:=o.nodes+1) (by omega) (by omega)]
 have fin:∀ b6 u1,fm6 t=b6→nm1 t=u1→
   D6 t d ⟨o.nodes+1,max o.depth d,(((((o.badForm || !fm1 t) || !fm2 t) || !fm3 t) || !fm4 t) || !fm5 t) || !b6,o.badName || !na1 t,(o.badNumber || !u1) || !nm2 t⟩ 0
    = some (Sg o d t.nodes (t.depth - 1) (t.all Xa) (t.all Ci) (t.all Rl)):=by
  rintro _ _ rfl rfl
  have:=l4 ⟨o.nodes+1,max o.depth d,(((((o.badForm || !fm1 t) || !fm2 t) || !fm3 t) || !fm4 t) || !fm5 t) || !fm6 t,o.badName || !na1 t,(o.badNumber || !nm1 t) || !nm2 t⟩ rfl
  rw [show ((0:Nat):Int)=0 from rfl] at this h5
  rw [this,h5 _ (by simp only; omega) (by simp only; unfold BB; omega) (by simp only; omega)]
  simp only [Sg,E0.all_eq,E0.nodes_eq,E0.depth_eq,Xa,Ci,Rl,Ht,Bool.or_assoc,← Bool.not_and]
  simp only [Ht,Bool.and_assoc]
  rw [show o.nodes+1+(E0.nodess t.Of:Int)=o.nodes+((E0.nodess t.Of+1:Nat):Int) by omega,show max (max o.depth d) (d+(E0.depths t.Of:Int))=max o.depth (d+((E0.depths t.Of+1 - 1:Nat):Int)) by omega]
 have h2:(t.Kind == 2)=true∨(t.Kind == 2)=false:=by cases t.Kind == 2 <;> simp
 have h3:(t.Kind == 3)=true∨(t.Kind == 3)=false:=by cases t.Kind == 3 <;> simp
 rcases h2 with h2 | h2
 ·rw [zp h2]
  exact fin ((t.Of.length:Int) == 1) (A2 t.Size 1 32) (by unfold fm6; rw [h2,zqk]) (by unfold nm1; rw [h2,zqk])
 ·rw [zn (by rw [h2]; simp)]
  rcases h3 with h3 | h3
  ·rw [zp h3]
   exact fin (bif decide ((t.Of.length:Int)≥1) then (t.Of.length:Int) == (t.Names.length:Int) else false) (decide ((t.Of.length:Int)≤32)) (by unfold fm6; rw [h2,h3,zql,zqk]) (by unfold nm1; rw [h2,h3,zql,zqk])
  ·rw [zn (by rw [h3]; simp)]
   have:=fin ((t.Of.length:Int) == 0) true (by unfold fm6; rw [h2,h3,zql,zql]) (by unfold nm1; rw [h2,h3,zql,zql])
   rw [zqf,Bool.or_false] at this
   exact this
theorem Y1h (t:E0)(ht:Ok t)(ih:∀ x∈t.Of,Qa x=some (x.nodes:Int)) :
  ∀ (r:List E0) (k:Nat) (n:Nat),t.Of.drop k=r→n+E0.nodess r≤BB→Ic t (n:Int) k=some ((n+E0.nodess r:Nat):Int)
 | [],k,n,h,hb=>by rw [Ic,(W1 h).1,zn (by simp)]; simp [E0.nodess]
 | x::r,k,n,h,hb=>by
  obtain ⟨e1,e2,e3,e4,e5⟩:=I2 h
  have:=ht.ofs
  simp only [E0.nodess] at hb
  have hb':=hb
  unfold BB at hb'
  rw [Ic,e1,zp rfl,e2,ob,ih x e5,ob,wr (n:=(n:Int)+_) (by omega) (by omega),w1 (by omega),show (n:Int)+(x.nodes:Int)=((n+x.nodes:Nat):Int) by omega,Y1h t ht ih r (k+1) _ e3 (by omega)]
  simp only [E0.nodess,Nat.add_assoc]
theorem W1o (t:E0):Ok t→Qa t=some (t.nodes:Int):=by
 induction t using E0.ind with
 | h t ih=>
 intro ht
 have hn:=ht.nodes
 rw [E0.nodes_eq] at hn
 rw [Qa]
 have:=Y1h t ht (fun x hx=>ih x hx (ht.kid hx)) t.Of 0 1 rfl (by omega)
 rw [E0.nodes_eq,Nat.add_comm]
 exact this
theorem C1a (t:E0)(ht:Ok t)(ih:∀ x∈t.Of,Ra x=some (x.depth:Int))(B:Nat)(hB:B≤BB) :
  ∀ (r:List E0) (k:Nat) (n:Nat),t.Of.drop k=r→n≤B→E0.depths r≤B→H9 t (n:Int) k=some ((max n (E0.depths r)+1:Nat):Int)
 | [],k,n,h,hb,_=>by
  rw [H9,(W1 h).1,zn (by simp),w1 (by omega)]
  simp [E0.depths]
 | x::r,k,n,h,hb,hd=>by
  obtain ⟨e1,e2,e3,e4,e5⟩:=I2 h
  have:=ht.ofs
  simp only [E0.depths] at hd
  rw [H9,e1,zp rfl,e2,ob,ih x e5,ob,w1 (by omega),C1a t ht ih B hB r (k+1) _ e3 (by omega) (by omega),C1a t ht ih B hB r (k+1) _ e3 (by omega) (by omega)]
  simp only [E0.depths]
  by_cases hx:(x.depth:Int) > (n:Int)
  ·rw [zp (zqj hx),show max n (max x.depth (E0.depths r))=max x.depth (E0.depths r) by omega]
  ·rw [zn (by simpa using hx),show max n (max x.depth (E0.depths r))=max n (E0.depths r) by omega]
theorem X1o (t:E0):Ok t→Ra t=some (t.depth:Int):=by
 induction t using E0.ind with
 | h t ih=>
 intro ht
 have hn:=ht.nodes
 have hd:=E0.depth_nodes t
 rw [Ra]
 rw [E0.depth_eq] at hd
 have:=C1a t ht (fun x hx=>ih x hx (ht.kid hx)) BB (zqr _) t.Of 0 0 rfl (by omega) (by omega)
 rw [E0.depth_eq]
 rw [show max 0 (E0.depths t.Of)=E0.depths t.Of by omega] at this
 exact this
theorem I1k (t:E0)(ht:Ok t)(ih:∀ x∈t.Of,Jc x=some (x.all Xa)):∀ (r:List E0) (k:Nat),t.Of.drop k=r→Gd t k=some (E0.alls Xa r)
 | [],k,h=>by rw [Gd,(W1 h).1,zn (by simp)]; rfl
 | x::r,k,h=>by
  obtain ⟨e1,e2,e3,e4,e5⟩:=I2 h
  have:=ht.ofs
  rw [Gd,e1,zp rfl,e2,ob,ih x e5,ob,w1 (by omega),I1k t ht ih r (k+1) e3,E0.alls]
  cases x.all Xa <;> simp
theorem W1r (t:E0):Ok t→Jc t=some (t.all Xa):=by
 induction t using E0.ind with
 | h t ih=>
 intro ht
 have h1:=I1k t ht (fun x hx=>ih x hx (ht.kid hx)) t.Of 0 rfl
 rw [show ((0:Nat):Int)=0 from rfl] at h1
 rw [Jc,h1,E0.all_eq,U1r]
 show (if R1h t=true then some false else if S1h t=true then some false else if T1h t=true then some false else some (E0.alls Xa t.Of))=_
 cases R1h t <;> cases S1h t <;> cases T1h t <;> simp
theorem S1e (t:E0)(ht:Ok t)(ih:∀ x∈t.Of,Sa x=some (x.all Ci)):∀ (r:List E0) (k:Nat),t.Of.drop k=r→I9 t k=some (E0.alls Ci r)
 | [],k,h=>by rw [I9,(W1 h).1,zn (by simp)]; rfl
 | x::r,k,h=>by
  obtain ⟨e1,e2,e3,e4,e5⟩:=I2 h
  have:=ht.ofs
  rw [I9,e1,zp rfl,e2,ob,ih x e5,ob,w1 (by omega),S1e t ht ih r (k+1) e3,E0.alls]
  cases x.all Ci <;> simp
theorem T1e (t:E0)(ht:Ok t)(b:Bool)(hb:I9 t 0=some b):∀ (r:List Str) (k:Nat),t.Names.drop k=r→Kc t k=some (r.all P3&&b)
 | [],k,h=>by rw [Kc,(W1 h).1,zn (by simp),hb]; rfl
 | x::r,k,h=>by
  obtain ⟨e1,e2,e3,e4,e5⟩:=I2 h
  have:=ht.names
  rw [Kc,e1,zp rfl,e2,ob,Ql x (ht.name1 e5),ob,w1 (by omega),T1e t ht b hb r (k+1) e3,List.all_cons]
  cases P3 x <;> simp
theorem Y1o (t:E0):Ok t→Sa t=some (t.all Ci):=by
 induction t using E0.ind with
 | h t ih=>
 intro ht
 have h2:=S1e t ht (fun x hx=>ih x hx (ht.kid hx)) t.Of 0 rfl
 have h1:=T1e t ht _ h2 t.Names 0 rfl
 rw [show ((0:Nat):Int)=0 from rfl] at h1
 rw [Sa,h1,E0.all_eq,Ql t.Name ht.name]
 unfold Ci na1
 cases t.Kind == 4 <;> cases P3 t.Name <;> simp
theorem A1c (t:E0)(ht:Ok t)(ih:∀ x∈t.Of,D8 x=some (x.all fun t=>!Gr t)):∀ (r:List E0) (k:Nat),t.Of.drop k=r→Ea t k=some (E0.alls (fun t=>!Gr t) r)
 | [],k,h=>by rw [Ea,(W1 h).1,zn (by simp)]; rfl
 | x::r,k,h=>by
  obtain ⟨e1,e2,e3,e4,e5⟩:=I2 h
  have:=ht.ofs
  rw [Ea,e1,zp rfl,e2,ob,ih x e5,ob,w1 (by omega),A1c t ht ih r (k+1) e3,E0.alls]
  cases x.all (fun t=>!Gr t) <;> simp
theorem Fy (n:Int):Te n=some (Oh n):=rfl
theorem R1j (t:E0):Ok t→D8 t=some (t.all fun t=>!Gr t):=by
 induction t using E0.ind with
 | h t ih=>
 intro ht
 have h1:=A1c t ht (fun x hx=>ih x hx (ht.kid hx)) t.Of 0 rfl
 rw [show ((0:Nat):Int)=0 from rfl] at h1
 rw [D8,h1,E0.all_eq]
 simp only [Fy]
 generalize E0.alls (fun t=>!Gr t) t.Of=A
 unfold Gr
 generalize decide ((t.Of.length:Int) > 32)=b1
 generalize (bif t.Kind == 2 then (bif decide (t.Size < 1) then true else decide (t.Size > 32)) else false)=b2
 generalize decide (t.Low > t.High)=b3
 cases t.Kind == 1 <;> cases Oh t.Low <;> cases Oh t.High <;> cases b1 <;> cases b2 <;> cases b3 <;> rfl
theorem S1j (s:R0)(f m u:Bool):Gk s f m u=some (Fh s.nodes s.depth (!f) (!m) (!u)):=by
 unfold Gk Fh
 cases (bif decide (s.nodes > 1024) then true else decide (s.depth > 12)) <;> cases f <;> cases m <;> cases u <;> rfl
set_option linter.unusedVariables false
theorem A0.ind {P:A0→Prop}(h:∀ t:A0,(∀ x∈t.Kids,P x)→P t):∀ t,P t:=by
 intro t
 refine A0.rec (motive_1:=P) (motive_2:=fun l=>∀ x∈l,P x) ?_ ?_ ?_ t
 ·intro k l n of ih
  exact h _ ih
 ·intro x hx; cases hx
 ·intro x r hx hr y hy
  cases hy with
  | head=>exact hx
  | tail _ hy=>exact hr y hy
mutual
def A0.depth:A0→Nat
 | .mk _ _ _ of=>A0.depths of+1
def A0.depths:List A0→Nat
 | []=>0
 | t::r=>max (A0.depth t) (A0.depths r)
end
theorem A0.depth_eq (t:A0):t.depth=A0.depths t.Kids+1:=by cases t; simp [A0.depth,A0.Kids]
mutual
def A0.all (p:A0→Bool):A0→Bool
 | .mk k l n of=>p (.mk k l n of)&&A0.alls p of
def A0.alls (p:A0→Bool):List A0→Bool
 | []=>true
 | t::r=>A0.all p t&&A0.alls p r
end
theorem A0.all_eq (p:A0→Bool)(t:A0):t.all p=(p t&&A0.alls p t.Kids):=by cases t; rfl
mutual
def A0.nodes:A0→Nat
 | .mk _ _ _ of=>A0.nodess of+1
def A0.nodess:List A0→Nat
 | []=>0
 | t::r=>A0.nodes t+A0.nodess r
end
theorem A0.nodes_eq (t:A0):t.nodes=A0.nodess t.Kids+1:=by cases t; rfl
mutual
theorem A0.depth_nodes:∀ t:A0,t.depth≤t.nodes
 | .mk _ _ _ of=>by simp only [A0.depth,A0.nodes]; have:=A0.depths_nodess of; omega
theorem A0.depths_nodess:∀ l:List A0,A0.depths l≤A0.nodess l
 | []=>zqr _
 | t::r=>by simp only [A0.depths,A0.nodess]; have:=A0.depth_nodes t; have:=A0.depths_nodess r; omega
end
mutual
def A0.bulk:A0→Nat
 | .mk _ _ n ks=>1+(1+((n.length+1)+((A0.bulks ks+1)+0)))+1
def A0.bulks:List A0→Nat
 | []=>0
 | x::r=>A0.bulk x+A0.bulks r
end
theorem A0.bulk_eq (t:A0):t.bulk=t.Name.length+A0.bulks t.Kids+5:=by cases t; simp only [A0.bulk]; omega
theorem A0.bulk_kid {t:A0}:∀ {l:List A0},t∈l→t.bulk≤A0.bulks l
 | x::r,h=>by
  simp only [A0.bulks]
  cases h with
  | head=>omega
  | tail _ h=>have:=A0.bulk_kid h; omega
theorem A0.bulk_len:∀ l:List A0,l.length≤A0.bulks l
 | []=>zqr _
 | x::r=>by
  simp only [A0.bulks,zqd]
  have:=A0.bulk_len r
  have:=A0.bulk_eq x
  omega
mutual
theorem A0.nodes_bulk:∀ t:A0,t.nodes≤t.bulk
 | .mk _ _ _ of=>by simp only [A0.nodes,A0.bulk]; have:=A0.nodess_bulk of; omega
theorem A0.nodess_bulk:∀ l:List A0,A0.nodess l≤A0.bulks l
 | []=>zqr _
 | x::r=>by simp only [A0.nodess,A0.bulks]; have:=A0.nodes_bulk x; have:=A0.nodess_bulk r; omega
end
def OkE (t:A0):Prop:=t.bulk≤BB
theorem OkE.kid {t x:A0}(h:OkE t)(hx:x∈t.Kids):OkE x:=by
 unfold OkE at *
 have:=A0.bulk_kid hx
 have:=A0.bulk_eq t
 omega
theorem OkE.kids {t:A0}(h:OkE t):t.Kids.length≤BB:=by
 unfold OkE at *
 have:=A0.bulk_len t.Kids
 have:=A0.bulk_eq t
 omega
theorem OkE.name {t:A0}(h:OkE t):t.Name.length≤BB:=by
 unfold OkE at *
 have:=A0.bulk_eq t
 omega
theorem OkE.nodes {t:A0}(h:OkE t):t.nodes≤BB:=Nat.le_trans (A0.nodes_bulk t) h
theorem A0.alls_mem {p:A0→Bool}:∀ {l:List A0} {t:A0},A0.alls p l=true→t∈l→t.all p=true
 | x::r,t,h,hm=>by
  simp only [A0.alls,zqi] at h
  cases hm with
  | head=>exact h.1
  | tail _ hm=>exact A0.alls_mem h.2 hm
def ar (o:Int):Int:=
 bif (bif (bif (bif (o == 0) then true else (o == 1)) then true else (o == 2)) then true else (o == 3)) then 0
 else bif (bif (bif (o == 4) then true else (o == 6)) then true else (o == 7)) then 1
 else bif (bif (o == 5) then true else (bif (decide (o≥8)) then (decide (o≤22)) else false)) then 2
 else bif (o == 23) then 3 else -1
theorem D1u (o:Int):Ip o=some (ar o):=by
 unfold Ip ar
 cases (bif (bif (bif (o == 0) then true else (o == 1)) then true else (o == 2)) then true else (o == 3)) <;> cases (bif (bif (o == 4) then true else (o == 6)) then true else (o == 7)) <;>
  cases (bif (o == 5) then true else (bif (decide (o≥8)) then (decide (o≤22)) else false)) <;> cases o == 23 <;> rfl
theorem X1r (o:Int):Jl o=some (ar o):=by
 by_cases h:o=23
 ·subst h; rfl
 have h':(o == 23)=false:=zqn.2 h
 simp only [Jl,Zc,Bf,ar,h']
 cases o == 0 <;> cases o == 1 <;> cases o == 2 <;> cases o == 3 <;> first | rfl | skip
 cases o == 4 <;> cases o == 6 <;> cases o == 7 <;> first | rfl | skip
 cases o == 5 <;> cases (bif decide (o≥8) then decide (o≤22) else false) <;> rfl
mutual
def A0.place:A0→Bool
 | .mk op _ _ ks=>bif op == 3 then true else bif (bif op == 4 then true else op == 5) then A0.place1 ks else false
def A0.place1:List A0→Bool
 | []=>false
 | x::_=>A0.place x
end
theorem A0.place_eq (e:A0):e.place=(bif e.Op == 3 then true else bif (bif e.Op == 4 then true else e.Op == 5) then A0.place1 e.Kids else false):=by cases e; simp only [A0.place]
theorem b3 {o:Int}(h:(bif o == 4 then true else o == 5)=true):(o == 3)=false:=by
 apply zqn.2
 rintro rfl
 cases h
theorem U1e (e:A0):Ni e=some e.place:=by
 unfold Ni
 induction e using A0.ind with
 | h e ih=>
 rw [Cf,A0.place_eq]
 cases hb:(bif e.Op == 4 then true else e.Op == 5) with
 | false=>cases e.Op == 3 <;> simp
 | true=>
  rw [b3 hb]
  cases hk:e.Kids with
  | nil=>rfl
  | cons k r=>
   have:=ih k (by rw [hk]; simp)
   have h0:idx (k::r) 0=some k:=rfl
   have h1:(((k::r).length:Int) == 0)=false:=zqn.2 (by simp only [zqd]; omega)
   simp only [h1,h0,ob,this,zqk,zql,A0.place1]
   simp
theorem V1e (e:A0):Od e=some e.place:=by
 induction e using A0.ind with
 | h e ih=>
 rw [Od,A0.place_eq]
 cases h3:e.Op == 3 with
 | true=>simp
 | false=>
  cases hb:(bif e.Op == 4 then true else e.Op == 5) with
  | false=>simp [ob]
  | true=>
   cases hk:e.Kids with
   | nil=>simp [ob,A0.place1]
   | cons k r=>
    have:=ih k (by rw [hk]; simp)
    have h0:idx (k::r) 0=some k:=rfl
    have h1:decide (((k::r).length:Int) > 0)=true:=zqj (by simp only [zqd]; omega)
    simp only [h1,h0,ob,zqk,zql,A0.place1]
    simp [ob,this]
def ef1 (e:A0):Bool:=ar e.Op == (e.Kids.length:Int)
def ef2 (e:A0):Bool:=bif e.NV == 0 then true else e.Op == 0
def ef3 (e:A0):Bool:=bif e.Name == [] then true else bif e.Op == 3 then true else e.Op == 4
def ef4 (e:A0):Bool:=bif (bif e.Op == 4 then true else e.Op == 5) then e.place else true
def A4 (e:A0):Bool:=ef1 e&&ef2 e&&ef3 e&&ef4 e
def Y4 (e:A0):Bool:=bif (bif e.Op == 3 then true else e.Op == 4) then P3 e.Name else true
def I5 (e:A0):Bool:=bif e.Op == 0 then A2 e.NV 0 1048576 else true
def Sl (e:A0):Int:=Fh e.nodes e.depth (!e.all A4) (!e.all Y4) (!e.all I5)
theorem J1k (e:A0)(d:Int)(hd:0≤d)(ht:OkE e)
  (ih:∀ x∈e.Kids,∀ (d:Int) (o:I0),0≤d→d+x.nodes≤4 * BB→0≤o.nodes→o.nodes+x.nodes≤4 * BB→S3 x d o=some (Sg o d x.nodes (x.depth - 1) (x.all A4) (x.all Y4) (x.all I5))) :
  ∀ (r:List A0) (k:Nat) (o:I0),e.Kids.drop k=r→d+1+A0.nodess r≤4 * BB→0≤o.nodes→o.nodes+A0.nodess r≤4 * BB→d≤o.depth→
   R5 e d o k=some (Sg o d (A0.nodess r) (A0.depths r) (A0.alls A4 r) (A0.alls Y4 r) (A0.alls I5 r))
 | [],k,o,h,_,_,_,h5=>by
  rw [R5,(W1 h).1]
  simp only [Sg,A0.nodess,A0.depths,A0.alls,zqf,Bool.or_false]
  rw [zn (by simp),show o.nodes+((0:Nat):Int)=o.nodes by omega,show max o.depth (d+((0:Nat):Int))=o.depth by omega]
 | x::r,k,o,h,hb,h3,h4,h5=>by
  obtain ⟨e1,e2,e3,e4,e5⟩:=I2 h
  simp only [A0.nodess] at hb h4
  have hdp:1≤x.depth:=by rw [A0.depth_eq]; omega
  have hof:=ht.kids
  unfold BB at hb h4 hof
  rw [R5,e1,zp rfl,e2,ob,wr (n:=d+1) (by omega) (by omega),ih x e5 (d+1) o (by omega) (by unfold BB; omega) h3 (by unfold BB; omega),ob,w1 (by unfold BB; omega),
   J1k e d hd ht ih r (k+1) _ e3 (by unfold BB; omega) (by simp only [Sg]; omega) (by simp only [Sg]; unfold BB; omega) (by simp only [Sg]; omega)]
  simp only [Sg,A0.nodess,A0.depths,A0.alls,Ht]
  rw [show o.nodes+(x.nodes:Int)+(A0.nodess r:Nat)=o.nodes+((x.nodes+A0.nodess r:Nat):Int) by omega,
   show max (max o.depth (d+1+((x.depth - 1:Nat):Int))) (d+(A0.depths r:Nat))=max o.depth (d+((max x.depth (A0.depths r):Nat):Int)) by omega]
theorem Y1r (e:A0)(ht:OkE e)(d:Int)(o:I0):Ac e d o=R5 e d ⟨o.nodes,o.depth,o.badForm,o.badName || !Y4 e,o.badNumber || !I5 e⟩ 0:=by
 rw [Ac,U12 _ ht.name,ob]
 simp only [Df,Ef,Yj,Av,ob]
 unfold Y4 I5
 cases (bif e.Op == 3 then true else e.Op == 4) <;> cases e.Op == 0 <;> simp
theorem Z1h (e:A0):OkE e→∀ (d:Int) (o:I0),0≤d→d+e.nodes≤4 * BB→0≤o.nodes→o.nodes+e.nodes≤4 * BB→
  S3 e d o=some (Sg o d e.nodes (e.depth - 1) (e.all A4) (e.all Y4) (e.all I5)):=by
 induction e using A0.ind with
 | h e ih=>
 intro ht d o hd hb h3 h4
 have h5:=fun o h3 h4 hd'=>J1k e d hd ht (fun x hx=>ih x hx (ht.kid hx)) e.Kids 0 o rfl (by rw [A0.nodes_eq] at hb; omega) h3 h4 hd'
 rw [A0.nodes_eq] at hb h4
 unfold BB at hb h4
 rw [S3]
 simp only [A1a,B1a,X1r,U1e,ob,Y1r e ht]
 rw [wr (n:=o.nodes+1) (by omega) (by omega)]
 rw [show ((0:Nat):Int)=0 from rfl] at h5
 have fin:∀ f:Bool,ef4 e=f→R5 e d ⟨o.nodes+1,max o.depth d,(((o.badForm || !ef1 e) || !ef2 e) || !ef3 e) || !f,o.badName || !Y4 e,o.badNumber || !I5 e⟩ 0=some (Sg o d e.nodes (e.depth - 1) (e.all A4) (e.all Y4) (e.all I5)):=by
  rintro _ rfl
  rw [h5 _ (by simp only; omega) (by simp only; unfold BB; omega) (by simp only; omega)]
  simp only [Sg,A0.all_eq,A0.nodes_eq,A0.depth_eq,A4,Ht,Bool.or_assoc,← Bool.not_and]
  simp only [Ht,Bool.and_assoc]
  rw [show o.nodes+1+(A0.nodess e.Kids:Int)=o.nodes+((A0.nodess e.Kids+1:Nat):Int) by omega,show max (max o.depth d) (d+(A0.depths e.Kids:Int))=max o.depth (d+((A0.depths e.Kids+1 - 1:Nat):Int)) by omega]
 cases hb:(bif e.Op == 4 then true else e.Op == 5) with
 | true=>
  rw [zp rfl]
  exact fin e.place (by unfold ef4; rw [hb]; rfl)
 | false=>
  rw [zn (by simp)]
  have:=fin true (by unfold ef4; rw [hb]; rfl)
  rw [zqf,Bool.or_false] at this
  exact this
theorem A1i (e:A0)(ht:OkE e):Pg e=some (Sl e):=by
 have hn:=ht.nodes
 unfold BB at hn
 have hp:1≤e.depth:=by rw [A0.depth_eq]; omega
 unfold Pg
 rw [Z1h e ht 1 _ (by omega) (by unfold BB; omega) (by simp) (by simp only; unfold BB; omega),ob,X1h,ob]
 unfold Sg Sl
 simp only [Bool.false_or]
 rw [show (0:Int)+(e.nodes:Int)=e.nodes by omega,show max 0 ((1:Int)+((e.depth - 1:Nat):Int))=e.depth by omega]
theorem W1e (t:A0)(ht:OkE t)(ih:∀ x∈t.Kids,Na x=some (x.nodes:Int)) :
  ∀ (r:List A0) (k:Nat) (n:Nat),t.Kids.drop k=r→n+A0.nodess r≤BB→Ec t (n:Int) k=some ((n+A0.nodess r:Nat):Int)
 | [],k,n,h,hb=>by rw [Ec,(W1 h).1,zn (by simp)]; simp [A0.nodess]
 | x::r,k,n,h,hb=>by
  obtain ⟨e1,e2,e3,e4,e5⟩:=I2 h
  have:=ht.kids
  simp only [A0.nodess] at hb
  have hb':=hb
  unfold BB at hb'
  rw [Ec,e1,zp rfl,e2,ob,ih x e5,ob,wr (n:=(n:Int)+_) (by omega) (by omega),w1 (by omega),show (n:Int)+(x.nodes:Int)=((n+x.nodes:Nat):Int) by omega,W1e t ht ih r (k+1) _ e3 (by omega)]
  simp only [A0.nodess,Nat.add_assoc]
theorem L1m (t:A0):OkE t→Na t=some (t.nodes:Int):=by
 induction t using A0.ind with
 | h t ih=>
 intro ht
 have hn:=ht.nodes
 rw [A0.nodes_eq] at hn
 rw [Na]
 have:=W1e t ht (fun x hx=>ih x hx (ht.kid hx)) t.Kids 0 1 rfl (by omega)
 rw [A0.nodes_eq,Nat.add_comm]
 exact this
theorem O16 (t:A0)(ht:OkE t)(ih:∀ x∈t.Kids,Oa x=some (x.depth:Int))(B:Nat)(hB:B≤BB) :
  ∀ (r:List A0) (k:Nat) (n:Nat),t.Kids.drop k=r→n≤B→A0.depths r≤B→F9 t (n:Int) k=some ((max n (A0.depths r)+1:Nat):Int)
 | [],k,n,h,hb,_=>by
  rw [F9,(W1 h).1,zn (by simp),w1 (by omega)]
  simp [A0.depths]
 | x::r,k,n,h,hb,hd=>by
  obtain ⟨e1,e2,e3,e4,e5⟩:=I2 h
  have:=ht.kids
  simp only [A0.depths] at hd
  rw [F9,e1,zp rfl,e2,ob,ih x e5,ob,w1 (by omega),O16 t ht ih B hB r (k+1) _ e3 (by omega) (by omega),O16 t ht ih B hB r (k+1) _ e3 (by omega) (by omega)]
  simp only [A0.depths]
  by_cases hx:(x.depth:Int) > (n:Int)
  ·rw [zp (zqj hx),show max n (max x.depth (A0.depths r))=max x.depth (A0.depths r) by omega]
  ·rw [zn (by simpa using hx),show max n (max x.depth (A0.depths r))=max n (A0.depths r) by omega]
theorem M1m (t:A0):OkE t→Oa t=some (t.depth:Int):=by
 induction t using A0.ind with
 | h t ih=>
 intro ht
 have hn:=ht.nodes
 have hd:=A0.depth_nodes t
 rw [Oa]
 rw [A0.depth_eq] at hd
 have:=O16 t ht (fun x hx=>ih x hx (ht.kid hx)) BB (zqr _) t.Kids 0 0 rfl (by omega) (by omega)
 rw [A0.depth_eq]
 rw [show max 0 (A0.depths t.Kids)=A0.depths t.Kids by omega] at this
 exact this
theorem It (n:Int)(d:Int)(m:Int):C8 ⟨n,d⟩ m=some ⟨n,max d m⟩:=by
 unfold C8
 by_cases h:m > d
 ·rw [zp (zqj h),show max d m=m by omega]
 ·rw [zn (by simpa using h),show max d m=d by omega]
theorem B1i (e:A0)(ht:OkE e)(ih:∀ x∈e.Kids,X5 x=some (x.all A4)):∀ (r:List A0) (k:Nat),e.Kids.drop k=r→Fd e k=some (A0.alls A4 r)
 | [],k,h=>by rw [Fd,(W1 h).1,zn (by simp)]; rfl
 | x::r,k,h=>by
  obtain ⟨e1,e2,e3,e4,e5⟩:=I2 h
  have:=ht.kids
  rw [Fd,e1,zp rfl,e2,ob,ih x e5,ob,w1 (by omega),B1i e ht ih r (k+1) e3,A0.alls]
  cases x.all A4 <;> simp
theorem Gy (e:A0):OkE e→X5 e=some (e.all A4):=by
 induction e using A0.ind with
 | h e ih=>
 intro ht
 have h1:=B1i e ht (fun x hx=>ih x hx (ht.kid hx)) e.Kids 0 rfl
 rw [show ((0:Nat):Int)=0 from rfl] at h1
 rw [X5,h1,A0.all_eq,V1e,D1u,ob]
 generalize A0.alls A4 e.Kids=A
 have hb:(bif (bif (ar e.Op != (e.Kids.length:Int)) then true else (bif (e.Op != 0) then (e.NV != 0) else false)) then true else (bif (bif (e.Op != 3) then (e.Op != 4) else false) then (!(e.Name == [])) else false)) = !(ef1 e&&ef2 e&&ef3 e):=by
  unfold ef1 ef2 ef3
  simp only [bne]
  cases ar e.Op == (e.Kids.length:Int) <;> cases e.NV == 0 <;> cases e.Op == 0 <;> cases e.Name == [] <;> cases e.Op == 3 <;> cases e.Op == 4 <;> rfl
 rw [hb]
 unfold A4 ef4
 cases (ef1 e&&ef2 e&&ef3 e) <;> cases (bif e.Op == 4 then true else e.Op == 5) <;> cases e.place <;> simp [ob]
theorem X1e (e:A0)(ht:OkE e)(ih:∀ x∈e.Kids,G5 x=some (x.all Y4)):∀ (r:List A0) (k:Nat),e.Kids.drop k=r→Fc e k=some (A0.alls Y4 r)
 | [],k,h=>by rw [Fc,(W1 h).1,zn (by simp)]; rfl
 | x::r,k,h=>by
  obtain ⟨e1,e2,e3,e4,e5⟩:=I2 h
  have:=ht.kids
  rw [Fc,e1,zp rfl,e2,ob,ih x e5,ob,w1 (by omega),X1e e ht ih r (k+1) e3,A0.alls]
  cases x.all Y4 <;> simp
theorem Bv (e:A0):OkE e→G5 e=some (e.all Y4):=by
 induction e using A0.ind with
 | h e ih=>
 intro ht
 have h1:=X1e e ht (fun x hx=>ih x hx (ht.kid hx)) e.Kids 0 rfl
 rw [show ((0:Nat):Int)=0 from rfl] at h1
 rw [G5,h1,A0.all_eq,Ql e.Name ht.name]
 generalize A0.alls Y4 e.Kids=A
 unfold Y4
 cases (bif e.Op == 3 then true else e.Op == 4) <;> cases P3 e.Name <;> simp [ob]
theorem V18 (e:A0)(ht:OkE e)(ih:∀ x∈e.Kids,C4 x=some (x.all I5)):∀ (r:List A0) (k:Nat),e.Kids.drop k=r→Z9 e k=some (A0.alls I5 r)
 | [],k,h=>by rw [Z9,(W1 h).1,zn (by simp)]; rfl
 | x::r,k,h=>by
  obtain ⟨e1,e2,e3,e4,e5⟩:=I2 h
  have:=ht.kids
  rw [Z9,e1,zp rfl,e2,ob,ih x e5,ob,w1 (by omega),V18 e ht ih r (k+1) e3,A0.alls]
  cases x.all I5 <;> simp
theorem Qp (e:A0):OkE e→C4 e=some (e.all I5):=by
 induction e using A0.ind with
 | h e ih=>
 intro ht
 have h1:=V18 e ht (fun x hx=>ih x hx (ht.kid hx)) e.Kids 0 rfl
 rw [show ((0:Nat):Int)=0 from rfl] at h1
 rw [C4,h1,A0.all_eq]
 have:I5 e = !(bif (e.Op == 0) then (bif (decide (e.NV < 0)) then true else (decide (e.NV > 1048576))) else false):=by
  unfold I5 A2
  rw [Ey,T12]
  cases e.Op == 0 <;> cases decide (e.NV≥0) <;> cases decide (e.NV≤1048576) <;> rfl
 rw [this]
 cases (bif (e.Op == 0) then (bif (decide (e.NV < 0)) then true else (decide (e.NV > 1048576))) else false) <;> simp
theorem K1k (e:A0)(ht:OkE e)(ih:∀ x∈e.Kids,∀ n,∃ m,Q6 x n=some m):∀ (r:List A0) (k:Nat) (n:Int),e.Kids.drop k=r→∃ m,Hd e n k=some m
 | [],k,n,h=>by rw [Hd,(W1 h).1]; exact ⟨_,rfl⟩
 | x::r,k,n,h=>by
  obtain ⟨e1,e2,e3,e4,e5⟩:=I2 h
  have:=ht.kids
  rw [Hd,e1,e2]
  cases decide (n≥0) with
  | false=>exact ⟨_,rfl⟩
  | true=>
   obtain ⟨m,hm⟩:=ih x e5 n
   rw [zqk,zp rfl,ob,hm,ob,w1 (by omega)]
   exact K1k e ht ih r (k+1) m e3
theorem Cv (e:A0):OkE e→∀ n,∃ m,Q6 e n=some m:=by
 induction e using A0.ind with
 | h e ih=>
 intro ht n
 rw [Q6]
 exact K1k e ht (fun x hx=>ih x hx (ht.kid hx)) e.Kids 0 _ rfl
theorem D1a (t:E0)(ht:Ok t)(ih:∀ x∈t.Of,∀ n,∃ m,Fa x n=some m):∀ (r:List E0) (k:Nat) (n:Int),t.Of.drop k=r→∃ m,Jd t n k=some m
 | [],k,n,h=>by rw [Jd,(W1 h).1]; exact ⟨_,rfl⟩
 | x::r,k,n,h=>by
  obtain ⟨e1,e2,e3,e4,e5⟩:=I2 h
  have:=ht.ofs
  rw [Jd,e1,e2]
  cases decide (n≥0) with
  | false=>exact ⟨_,rfl⟩
  | true=>
   obtain ⟨m,hm⟩:=ih x e5 n
   rw [zqk,zp rfl,ob,hm,ob,w1 (by omega)]
   exact D1a t ht ih r (k+1) m e3
theorem C1i (t:E0)(ht:Ok t)(ih:∀ x∈t.Of,∀ n,∃ m,Fa x n=some m):∀ (r:List Str) (k:Nat) (n:Int),t.Names.drop k=r→∃ m,Id t n k=some m
 | [],k,n,h=>by rw [Id,(W1 h).1]; exact D1a t ht ih t.Of 0 n rfl
 | x::r,k,n,h=>by
  obtain ⟨e1,e2,e3,e4,e5⟩:=I2 h
  have:=ht.names
  rw [Id,e1,e2]
  cases decide (n≥0) with
  | false=>exact D1a t ht ih t.Of 0 n rfl
  | true=>
   rw [zqk,zp rfl,ob,w1 (by omega)]
   exact C1i t ht ih r (k+1) _ e3
theorem N1m (t:E0):Ok t→∀ n,∃ m,Fa t n=some m:=by
 induction t using E0.ind with
 | h t ih=>
 intro ht n
 rw [Fa]
 exact C1i t ht (fun x hx=>ih x hx (ht.kid hx)) t.Names 0 _ rfl
def Y1e:List Str:=[[43],[45],[42],[47],[37],[61,61],[33,61],[60],[60,61],[62],[62,61],[38,38],[124,124]]
def S6 (n:Int):Prop:=-1099511627776≤n∧n≤1099511627776
theorem Ha {n:Int}(h:S6 n):(Lib.itoa n).length≤19:=Q1r (by unfold S6 at h; omega)
theorem Z1r (k:Nat)(h:k < 1099511627777):Tk [IntKind.u8.wrap (IntKind.i64.wrap (48+Int.tmod (k:Int) 10))]=[UInt8.ofNat (48+k % 10)]:=by
 have e:Int.tmod (k:Int) 10=((k % 10:Nat):Int):=by rw [Int.tmod_eq_emod_of_nonneg (by omega)]; omega
 have:k % 10 < 10:=Nat.mod_lt _ (by decide)
 rw [e,wr (by omega) (by omega),V1j (by omega) (by omega)]
 unfold Tk
 rw [List.map_cons,List.map_nil,show ((48:Int)+((k % 10:Nat):Int)).toNat=48+k % 10 by omega]
theorem B1c (k:Nat):k < 1099511627777→N3 (k:Int)=some (Lib.decDigits k):=by
 induction k using Nat.strongRecOn with
 | ind k ih=>
 intro h
 rw [N3,zn (by simp),Z1r k h,Lib.decDigits]
 by_cases h10:k < 10
 ·rw [zp (zqj (by omega)),dif_pos h10,Nat.mod_eq_of_lt h10]
 ·have e:IntKind.i64.wrap (Int.tdiv (k:Int) 10)=((k / 10:Nat):Int):=by
   rw [Int.tdiv_eq_ediv_of_nonneg (by omega),wr (by omega) (by omega)]; rfl
  have hl:(Lib.decDigits (k / 10)).length≤18:=Ck 17 _ (by omega)
  rw [zn (by simp; omega),dif_neg h10,e,ih (k / 10) (by omega) (by omega),ob,zp (zqj (by unfold maxLen; simp; omega))]
theorem Xe {n:Int}(h:S6 n):N3 n=some (Lib.itoa n):=by
 unfold S6 at h
 unfold Lib.itoa
 by_cases h0:n < 0
 ·have e:IntKind.i64.wrap (0 - n)=(n.natAbs:Int):=by rw [wr (by omega) (by omega)]; omega
  have hl:(Lib.decDigits n.natAbs).length≤18:=Ck 17 _ (by omega)
  rw [N3,zp (zqj h0),e,B1c _ (by omega),ob,zp h0,zp (zqj (by unfold maxLen; omega))]
  rfl
 ·rw [zn h0]
  have:=B1c n.toNat (by omega)
  rw [show ((n.toNat:Nat):Int)=n by omega] at this
  exact this
def LL:Nat:=70368744177664
theorem fit {n:Nat}{α:Type}{x:Option α}(h:n≤LL):(if decide (n≤maxLen)=true then x else none)=x:=by
 rw [zp (zqj (by unfold LL at h; unfold maxLen; omega))]
def lv (o:Int):Int:=
 bif o == 23 then 0 else bif o == 20 then 1 else bif o == 19 then 2 else bif (bif decide (o≥13) then decide (o≤18) else false) then 3
 else bif (bif o == 8 then true else o == 9) then 4 else bif (bif (bif o == 10 then true else o == 11) then true else o == 12) then 5 else bif (bif o == 6 then true else o == 7) then 6 else 7
theorem Z1e (o:Int):Vk o=some (lv o):=by
 unfold Vk lv
 cases o == 23 <;> cases o == 20 <;> cases o == 19 <;> cases (bif decide (o≥13) then decide (o≤18) else false) <;> cases (bif o == 8 then true else o == 9) <;>
  cases (bif (bif o == 10 then true else o == 11) then true else o == 12) <;> cases (bif o == 6 then true else o == 7) <;> rfl
theorem A1s (o:Int):(o < 0∨23 < o)∨o=0∨o=1∨o=2∨o=3∨o=4∨o=5∨o=6∨o=7∨o=8∨o=9∨o=10∨o=11∨o=12∨o=13∨o=14∨o=15∨o=16∨o=17∨o=18∨o=19∨o=20∨o=21∨o=22∨o=23:=by omega
theorem far {o k:Int}(h:o < 0∨23 < o)(hk:0≤k∧k≤23):(o == k)=false:=zqn.2 (by omega)
def sign (o:Int):Str:=Y1e.getD (o - 8).toNat []
theorem Tl {o:Int}(h:8≤o)(h':o≤20):o=8∨o=9∨o=10∨o=11∨o=12∨o=13∨o=14∨o=15∨o=16∨o=17∨o=18∨o=19∨o=20:=by omega
theorem L1k {o:Int}(h:8≤o)(h':o≤20):idx Y1e (IntKind.i64.wrap (o - 8))=some (sign o)∧Wu o=some (sign o)∧(sign o).length≤2:=by
 rcases Tl h h' with rfl | rfl | rfl | rfl | rfl | rfl | rfl | rfl | rfl | rfl | rfl | rfl | rfl
 all_goals exact ⟨rfl,rfl,by decide⟩
def par (req:Int)(p:Int×Str):Str:=bif decide (lv p.1≥req) then p.2 else [40]++p.2++[41]
def etx (op n:Int)(nm:Str)(ks:List (Int×Str)):Str:=
 let k:=fun i=>ks.getD i (0,[])
 bif op == 0 then Lib.itoa n else bif op == 1 then [116,114,117,101] else bif op == 2 then [102,97,108,115,101] else bif op == 3 then nm
 else bif op == 4 then (k 0).2++([46]++nm) else bif op == 5 then (k 0).2++[91]++(k 1).2++[93] else bif op == 6 then [45]++par 6 (k 0) else bif op == 7 then [33]++par 6 (k 0)
 else bif op == 21 then [109,105,110,40]++(k 0).2++[44,32]++(k 1).2++[41] else bif op == 22 then [109,97,120,40]++(k 0).2++[44,32]++(k 1).2++[41]
 else bif op == 23 then par 1 (k 0)++[32,63,32]++(k 1).2++[32,58,32]++(k 2).2
 else par (bif lv op == 3 then 4 else lv op) (k 0)++([32]++sign op++[32])++par (lv op+1) (k 1)
mutual
def A0.text:A0→Str
 | .mk op n nm ks=>etx op n nm (A0.texts ks)
def A0.texts:List A0→List (Int×Str)
 | []=>[]
 | x::r=>(x.Op,A0.text x)::A0.texts r
end
theorem O1m {α:Type}{l:List α}(h:l.length=2):∃ a b,l=[a,b]:=by
 match l,h with
 | [a,b],_=>exact ⟨a,b,rfl⟩
theorem D1y {α:Type}{l:List α}(h:l.length=3):∃ a b c,l=[a,b,c]:=by
 match l,h with
 | [a,b,c],_=>exact ⟨a,b,c,rfl⟩
inductive Dl:A0→Prop
 | lit (n):Dl (.mk 0 n [] [])
 | tt:Dl (.mk 1 0 [] [])
 | ff:Dl (.mk 2 0 [] [])
 | name (nm):Dl (.mk 3 0 nm [])
 | field (nm k):Dl (.mk 4 0 nm [k])
 | index (a b):Dl (.mk 5 0 [] [a,b])
 | neg (k):Dl (.mk 6 0 [] [k])
 | not (k):Dl (.mk 7 0 [] [k])
 | bin (o a b) (h:8≤o) (h':o≤20):Dl (.mk o 0 [] [a,b])
 | min (a b):Dl (.mk 21 0 [] [a,b])
 | max (a b):Dl (.mk 22 0 [] [a,b])
 | cond (a b c):Dl (.mk 23 0 [] [a,b,c])
theorem B1s (e:A0)(h:A4 e=true):Dl e:=by
 obtain ⟨op,n,nm,ks⟩:=e
 unfold A4 at h
 simp only [zqi] at h
 obtain ⟨⟨⟨h1,h2⟩,h3⟩,_⟩:=h
 have e1:ar op=(ks.length:Int):=by simpa [ef1] using h1
 have e2:op≠0→n=0:=fun hne=>by
  have:=zqn.2 hne
  simp only [ef2,this] at h2
  cases hn:n == 0 with
  | true=>simpa using hn
  | false=>rw [hn] at h2; cases h2
 have e3:op≠3→op≠4→nm=[]:=fun hne hne'=>by
  have:=zqn.2 hne
  have h4:=zqn.2 hne'
  simp only [ef3,this,h4] at h3
  cases hn:nm == [] with
  | true=>simpa using hn
  | false=>rw [hn] at h3; cases h3
 rcases A1s op with h | h
 ·have:ar op = -1:=by
   have f:=fun k hk=>far (k:=k) h hk
   have hr:(bif decide (op≥8) then decide (op≤22) else false)=false:=by
    rcases h with h | h
    ·rw [zqs (by omega)]; rfl
    ·rw [zqs (show ¬ op≤22 by omega)]; cases decide (op≥8) <;> rfl
   unfold ar
   rw [hr,f 0 (by decide),f 1 (by decide),f 2 (by decide),f 3 (by decide),f 4 (by decide),f 6 (by decide),f 7 (by decide),f 5 (by decide),f 23 (by decide)]
   rfl
  omega
 by_cases hb:8≤op∧op≤20
 ·have e4:ar op=2:=by rcases Tl hb.1 hb.2 with rfl | rfl | rfl | rfl | rfl | rfl | rfl | rfl | rfl | rfl | rfl | rfl | rfl <;> rfl
  obtain ⟨a,b,rfl⟩:=O1m (l:=ks) (by omega)
  obtain rfl:=e2 (by omega)
  obtain rfl:=e3 (by omega) (by omega)
  exact .bin _ _ _ hb.1 hb.2
 have hc:op=0∨op=1∨op=2∨op=3∨op=4∨op=5∨op=6∨op=7∨op=21∨op=22∨op=23:=by omega
 rcases hc with rfl | rfl | rfl | rfl | rfl | rfl | rfl | rfl | rfl | rfl | rfl
 ·obtain rfl:=List.eq_nil_of_length_eq_zero (l:=ks) (by have:ar 0=0:=rfl; omega)
  obtain rfl:=e3 (by decide) (by decide)
  exact .lit n
 ·obtain rfl:=List.eq_nil_of_length_eq_zero (l:=ks) (by have:ar 1=0:=rfl; omega)
  obtain rfl:=e3 (by decide) (by decide)
  obtain rfl:=e2 (by decide)
  exact .tt
 ·obtain rfl:=List.eq_nil_of_length_eq_zero (l:=ks) (by have:ar 2=0:=rfl; omega)
  obtain rfl:=e3 (by decide) (by decide)
  obtain rfl:=e2 (by decide)
  exact .ff
 ·obtain rfl:=List.eq_nil_of_length_eq_zero (l:=ks) (by have:ar 3=0:=rfl; omega)
  obtain rfl:=e2 (by decide)
  exact .name nm
 ·obtain ⟨k,rfl⟩:=List.length_eq_one_iff.1 (show ks.length=1 by have:ar 4=1:=rfl; omega)
  obtain rfl:=e2 (by decide)
  exact .field nm k
 ·obtain ⟨a,b,rfl⟩:=O1m (l:=ks) (by have:ar 5=2:=rfl; omega)
  obtain rfl:=e3 (by decide) (by decide)
  obtain rfl:=e2 (by decide)
  exact .index a b
 ·obtain ⟨k,rfl⟩:=List.length_eq_one_iff.1 (show ks.length=1 by have:ar 6=1:=rfl; omega)
  obtain rfl:=e3 (by decide) (by decide)
  obtain rfl:=e2 (by decide)
  exact .neg k
 ·obtain ⟨k,rfl⟩:=List.length_eq_one_iff.1 (show ks.length=1 by have:ar 7=1:=rfl; omega)
  obtain rfl:=e3 (by decide) (by decide)
  obtain rfl:=e2 (by decide)
  exact .not k
 ·obtain ⟨a,b,rfl⟩:=O1m (l:=ks) (by have:ar 21=2:=rfl; omega)
  obtain rfl:=e3 (by decide) (by decide)
  obtain rfl:=e2 (by decide)
  exact .min a b
 ·obtain ⟨a,b,rfl⟩:=O1m (l:=ks) (by have:ar 22=2:=rfl; omega)
  obtain rfl:=e3 (by decide) (by decide)
  obtain rfl:=e2 (by decide)
  exact .max a b
 ·obtain ⟨a,b,c,rfl⟩:=D1y (l:=ks) (by have:ar 23=3:=rfl; omega)
  obtain rfl:=e3 (by decide) (by decide)
  obtain rfl:=e2 (by decide)
  exact .cond a b c
structure Ya (e:A0):Prop where
 form:e.all A4=true
 numb:e.all I5=true
 ok:OkE e
theorem Ya.kid {e k:A0}(h:Ya e)(hk:k∈e.Kids):Ya k:=by
 have h1:=h.form
 have h2:=h.numb
 rw [A0.all_eq,zqi] at h1 h2
 exact ⟨A0.alls_mem h1.2 hk,A0.alls_mem h2.2 hk,h.ok.kid hk⟩
theorem Ya.shape {e:A0}(h:Ya e):Dl e:=by
 have h1:=h.form
 rw [A0.all_eq,zqi] at h1
 exact B1s e h1.1
theorem Ya.small {n:Int}(h:Ya (.mk 0 n [] [])):S6 n:=by
 have h2:=h.numb
 rw [A0.all_eq,zqi] at h2
 have h3:=h2.1
 unfold I5 A2 at h3
 simp at h3
 unfold S6
 omega
theorem C1s {e:A0}(ht:OkE e)(h:Sl e=0):Ya e:=by
 unfold Sl Fh at h
 cases hb:(bif decide ((e.nodes:Int) > 1024) then true else decide ((e.depth:Int) > 12)) <;> rw [hb] at h
 ·cases hf:e.all A4 <;> rw [hf] at h
  ·cases h
  ·cases hn:e.all Y4 <;> rw [hn] at h
   ·cases h
   ·cases hu:e.all I5 <;> rw [hu] at h
    ·cases h
    ·exact ⟨hf,hu,ht⟩
 ·cases h
theorem Xk (r:Int)(p:Int×Str):(par r p).length≤p.2.length+2:=by
 unfold par
 cases decide (lv p.1≥r) <;> simp <;> omega
theorem V12 {o:Int}(a b:A0)(h:8≤o)(h':o≤20):(A0.mk o 0 [] [a,b]).text=par (bif lv o == 3 then 4 else lv o) (a.Op,a.text)++([32]++sign o++[32])++par (lv o+1) (b.Op,b.text):=by
 rcases Tl h h' with rfl | rfl | rfl | rfl | rfl | rfl | rfl | rfl | rfl | rfl | rfl | rfl | rfl
 all_goals rfl
theorem K6 (e:A0):Ya e→e.text.length≤40 * e.bulk:=by
 induction e using A0.ind with
 | h e ih=>
 intro hf
 have ih':=fun k hk=>ih k hk (hf.kid hk)
 cases hf.shape with
 | lit n=>
  have:=Ha hf.small
  show (Lib.itoa n).length≤_
  simp only [A0.bulk,A0.bulks]; omega
 | tt=>decide
 | ff=>decide
 | name nm=>show nm.length≤_; simp only [A0.bulk,A0.bulks]; omega
 | field nm k=>
  have:=ih' k (by simp)
  show (k.text++([46]++nm)).length≤_
  simp only [A0.bulk,A0.bulks,zqc,zqd,zqe]; omega
 | index a b=>
  have:=ih' a (by simp); have:=ih' b (by simp)
  show (a.text++[91]++b.text++[93]).length≤_
  simp only [A0.bulk,A0.bulks,zqc,zqd,zqe]; omega
 | neg k=>
  have:=ih' k (by simp); have:=Xk 6 (k.Op,k.text)
  show ([45]++par 6 (k.Op,k.text)).length≤_
  simp only [A0.bulk,A0.bulks,zqc,zqd,zqe] at *; omega
 | not k=>
  have:=ih' k (by simp); have:=Xk 6 (k.Op,k.text)
  show ([33]++par 6 (k.Op,k.text)).length≤_
  simp only [A0.bulk,A0.bulks,zqc,zqd,zqe] at *; omega
 | bin o a b h h'=>
  have:=ih' a (by simp); have:=ih' b (by simp)
  have:=Xk (bif lv o == 3 then 4 else lv o) (a.Op,a.text); have:=Xk (lv o+1) (b.Op,b.text)
  have:=(L1k h h').2.2
  rw [V12 a b h h']
  simp only [A0.bulk,A0.bulks,zqc,zqd,zqe] at *; omega
 | min a b=>
  have:=ih' a (by simp); have:=ih' b (by simp)
  show ([109,105,110,40]++a.text++[44,32]++b.text++[41]).length≤_
  simp only [A0.bulk,A0.bulks,zqc,zqd,zqe]; omega
 | max a b=>
  have:=ih' a (by simp); have:=ih' b (by simp)
  show ([109,97,120,40]++a.text++[44,32]++b.text++[41]).length≤_
  simp only [A0.bulk,A0.bulks,zqc,zqd,zqe]; omega
 | cond a b c=>
  have:=ih' a (by simp); have:=ih' b (by simp); have:=ih' c (by simp)
  have:=Xk 1 (a.Op,a.text)
  show (par 1 (a.Op,a.text)++[32,63,32]++b.text++[32,58,32]++c.text).length≤_
  simp only [A0.bulk,A0.bulks,zqc,zqd,zqe] at *; omega
theorem V10 {k:A0}(hk:L1 k=some k.text)(hl:k.text.length≤40 * k.bulk)(ho:k.bulk≤BB)(req:Int):Ij k req=some (par req (k.Op,k.text)):=by
 rw [Ij,Z1e,ob,hk,Ey]
 unfold par
 cases h:decide (lv k.Op≥req) with
 | true=>rfl
 | false=>
  unfold BB at ho
  rw [zqg,zp (by simp),ob,fit (by unfold LL; omega),fit (by unfold LL; simp; omega)]
  rfl
theorem Tg (e:A0):Ya e→L1 e=some e.text:=by
 induction e using A0.ind with
 | h e ih=>
 intro hf
 have ih':=fun k hk=>ih k hk (hf.kid hk)
 have hl:=fun k hk=>K6 k (hf.kid hk)
 have hko:=fun k hk=>(hf.kid (k:=k) hk).ok
 have hb:=hf.ok
 unfold OkE BB at hb
 cases hf.shape with
 | lit n=>rw [L1,zp (by simp),Xe hf.small,ob]; rfl
 | tt=>rw [L1,zn (by simp),zp (by simp)]; rfl
 | ff=>rw [L1,zn (by simp),zn (by simp),zp (by simp)]; rfl
 | name nm=>rw [L1,zn (by simp),zn (by simp),zn (by simp),zp (by simp)]; rfl
 | field nm k=>
  have i1:=ih' k (by simp)
  have l1:=hl k (by simp)
  simp only [A0.bulk,A0.bulks] at hb
  rw [L1,zn (by simp),zn (by simp),zn (by simp),zn (by simp),zp (by simp),show idx (A0.mk 4 0 nm [k]).Kids 0=some k from rfl,ob,i1,ob,fit (by unfold LL; omega),fit (by unfold LL; simp; omega)]
  show some ((k.text++[46])++nm)=some (k.text++([46]++nm))
  rw [List.append_assoc]
 | index x y=>
  have i1:=ih' x (by simp); have i2:=ih' y (by simp)
  have l1:=hl x (by simp); have l2:=hl y (by simp)
  simp only [A0.bulk,A0.bulks] at hb
  rw [L1,zn (by simp),zn (by simp),zn (by simp),zn (by simp),zn (by simp),zp (by simp),show idx (A0.mk 5 0 [] [x,y]).Kids 0=some x from rfl,ob,i1,ob,fit (by unfold LL; omega),
   show idx (A0.mk 5 0 [] [x,y]).Kids 1=some y from rfl,ob,i2,ob,fit (by unfold LL; simp; omega),fit (by unfold LL; simp; omega)]
  rfl
 | neg k=>
  have i1:=ih' k (by simp)
  have l1:=hl k (by simp)
  have p1:=Xk 6 (k.Op,k.text)
  simp only [A0.bulk,A0.bulks] at hb p1
  rw [L1,zn (by simp),zn (by simp),zn (by simp),zn (by simp),zn (by simp),zn (by simp),zp (by simp),show idx (A0.mk 6 0 [] [k]).Kids 0=some k from rfl,ob,V10 i1 l1 (hko k (by simp)),ob,fit (by unfold LL; omega)]
  rfl
 | not k=>
  have i1:=ih' k (by simp)
  have l1:=hl k (by simp)
  have p1:=Xk 6 (k.Op,k.text)
  simp only [A0.bulk,A0.bulks] at hb p1
  rw [L1,zn (by simp),zn (by simp),zn (by simp),zn (by simp),zn (by simp),zn (by simp),zn (by simp),zp (by simp),show idx (A0.mk 7 0 [] [k]).Kids 0=some k from rfl,ob,V10 i1 l1 (hko k (by simp)),ob,fit (by unfold LL; omega)]
  rfl
 | bin o x y h h'=>
  have i1:=ih' x (by simp); have i2:=ih' y (by simp)
  have l1:=hl x (by simp); have l2:=hl y (by simp)
  obtain ⟨_,g1,g2⟩:=L1k h h'
  have p1:=Xk (bif lv o == 3 then 4 else lv o) (x.Op,x.text)
  have p2:=Xk (lv o+1) (y.Op,y.text)
  simp only [A0.bulk,A0.bulks] at hb p1 p2
  have hw:IntKind.i64.wrap (lv o+1)=lv o+1:=by rcases Tl h h' with rfl | rfl | rfl | rfl | rfl | rfl | rfl | rfl | rfl | rfl | rfl | rfl | rfl <;> rfl
  have e1:∀ left,left=(bif lv o == 3 then 4 else lv o)→Pf (A0.mk o 0 [] [x,y]) (lv o) left=some (A0.mk o 0 [] [x,y]).text:=by
   rintro _ rfl
   rw [Pf,show idx (A0.mk o 0 [] [x,y]).Kids 0=some x from rfl,ob,V10 i1 l1 (hko x (by simp)),ob,fit (by unfold LL; omega),g1,ob,fit (by unfold LL; simp; omega),fit (by unfold LL; simp; omega),
    show idx (A0.mk o 0 [] [x,y]).Kids 1=some y from rfl,ob,hw,V10 i2 l2 (hko y (by simp)),ob,fit (by unfold LL; simp; omega),V12 x y h h']
   simp
  have n:∀ k:Int,k < 8∨20 < k→(o == k)=false:=fun k hk=>zqn.2 (by omega)
  rw [L1]
  simp only [n 0 (by decide),n 1 (by decide),n 2 (by decide),n 3 (by decide),n 4 (by decide),n 5 (by decide),n 6 (by decide),n 7 (by decide),n 21 (by decide),n 22 (by decide),n 23 (by decide)]
  rw [zn (by simp),zn (by simp),zn (by simp),zn (by simp),zn (by simp),zn (by simp),zn (by simp),zn (by simp),zn (by simp),zn (by simp),zn (by simp),Z1e,ob]
  cases h3:lv o == 3 with
  | true=>rw [zp (by simp)]; exact e1 4 (by rw [h3]; rfl)
  | false=>rw [zn (by simp)]; exact e1 (lv o) (by rw [h3]; rfl)
 | min x y=>
  have i1:=ih' x (by simp); have i2:=ih' y (by simp)
  have l1:=hl x (by simp); have l2:=hl y (by simp)
  simp only [A0.bulk,A0.bulks] at hb
  rw [L1,zn (by simp),zn (by simp),zn (by simp),zn (by simp),zn (by simp),zn (by simp),zn (by simp),zn (by simp),zp (by simp),show idx (A0.mk 21 0 [] [x,y]).Kids 0=some x from rfl,ob,i1,ob,
   fit (by unfold LL; omega),fit (by unfold LL; simp; omega),show idx (A0.mk 21 0 [] [x,y]).Kids 1=some y from rfl,ob,i2,ob,fit (by unfold LL; simp; omega),fit (by unfold LL; simp; omega)]
  rfl
 | max x y=>
  have i1:=ih' x (by simp); have i2:=ih' y (by simp)
  have l1:=hl x (by simp); have l2:=hl y (by simp)
  simp only [A0.bulk,A0.bulks] at hb
  rw [L1,zn (by simp),zn (by simp),zn (by simp),zn (by simp),zn (by simp),zn (by simp),zn (by simp),zn (by simp),zn (by simp),zp (by simp),show idx (A0.mk 22 0 [] [x,y]).Kids 0=some x from rfl,ob,i1,ob,
   fit (by unfold LL; omega),fit (by unfold LL; simp; omega),show idx (A0.mk 22 0 [] [x,y]).Kids 1=some y from rfl,ob,i2,ob,fit (by unfold LL; simp; omega),fit (by unfold LL; simp; omega)]
  rfl
 | cond x y z=>
  have i1:=ih' x (by simp); have i2:=ih' y (by simp); have i3:=ih' z (by simp)
  have l1:=hl x (by simp); have l2:=hl y (by simp); have l3:=hl z (by simp)
  have p1:=Xk 1 (x.Op,x.text)
  simp only [A0.bulk,A0.bulks] at hb p1
  rw [L1,zn (by simp),zn (by simp),zn (by simp),zn (by simp),zn (by simp),zn (by simp),zn (by simp),zn (by simp),zn (by simp),zn (by simp),zp (by simp),
   show idx (A0.mk 23 0 [] [x,y,z]).Kids 0=some x from rfl,ob,V10 i1 l1 (hko x (by simp)),ob,fit (by unfold LL; omega),show idx (A0.mk 23 0 [] [x,y,z]).Kids 1=some y from rfl,ob,i2,ob,
   fit (by unfold LL; simp; omega),fit (by unfold LL; simp; omega),show idx (A0.mk 23 0 [] [x,y,z]).Kids 2=some z from rfl,ob,i3,ob,fit (by unfold LL; simp; omega)]
  rfl
def W10 (s:Str):Str×Int:=bif decide ((s.length:Int) > 8192) then ([],5) else (s,0)
theorem Z1o (b:Str):Vm b=some (W10 b):=by
 unfold Vm W10
 cases decide ((b.length:Int) > 8192) <;> rfl
set_option maxHeartbeats 800000
def R8:Bool→List Str→List Str→Str
 | f,n::ns,t::ts=>(bif f then [] else [44,32])++(n++[58,32]++t)++R8 false ns ts
 | _,_,_=>[]
def ttx (k lo hi sz:Int)(nm:Str)(ns:List Str)(ks:List Str):Str:=
 bif k == 0 then [98,111,111,108] else bif k == 1 then [105,110,116,91]++Lib.itoa lo++[46,46]++Lib.itoa hi++[93]
 else bif k == 2 then [97,114,114,97,121,32]++Lib.itoa sz++[32,111,102,32]++ks.getD 0 []
 else bif k == 3 then [114,101,99,111,114,100,32,123]++R8 true ns ks++[125] else nm
mutual
def E0.text:E0→Str
 | .mk k lo hi sz nm ns ks=>ttx k lo hi sz nm ns (E0.texts ks)
def E0.texts:List E0→List Str
 | []=>[]
 | x::r=>E0.text x::E0.texts r
end
inductive Uw:E0→Prop
 | bool:Uw (.mk 0 0 0 0 [] [] [])
 | int (lo hi) (h:S6 lo) (h':S6 hi):Uw (.mk 1 lo hi 0 [] [] [])
 | array (sz k) (h:S6 sz):Uw (.mk 2 0 0 sz [] [] [k])
 | record (ns ks) (h:ns.length=ks.length) (h':1≤ks.length):Uw (.mk 3 0 0 0 [] ns ks)
 | name (nm):Uw (.mk 4 0 0 0 nm [] [])
theorem A1p (t:E0)(h:Xa t=true)(hn:Rl t=true):Uw t:=by
 obtain ⟨k,lo,hi,sz,nm,ns,ks⟩:=t
 unfold Xa at h
 unfold Rl at hn
 simp only [zqi] at h hn
 obtain ⟨⟨⟨⟨⟨h1,h2⟩,h3⟩,h4⟩,h5⟩,h6⟩:=h
 obtain ⟨u1,u2⟩:=hn
 have hk:k=0∨k=1∨k=2∨k=3∨k=4:=by
  unfold fm1 at h1
  simp at h1
  omega
 rcases hk with rfl | rfl | rfl | rfl | rfl
 ·simp [fm2,fm3,fm4,fm5,fm6] at h2 h3 h4 h5 h6
  obtain ⟨rfl,rfl⟩:=h2
  subst h3 h4 h5 h6
  exact .bool
 ·simp [fm2,fm3,fm4,fm5,fm6] at h3 h4 h5 h6
  simp [nm2,A2] at u2
  subst h3 h4 h5 h6
  exact .int _ _ (by unfold S6; omega) (by unfold S6; omega)
 ·simp [fm2,fm3,fm4,fm5,fm6] at h2 h4 h5 h6
  simp [nm1,A2] at u1
  obtain ⟨rfl,rfl⟩:=h2
  obtain ⟨k,rfl⟩:=List.length_eq_one_iff.1 (show ks.length=1 by omega)
  subst h4 h5
  exact .array _ _ (by unfold S6; omega)
 ·simp [fm2,fm3,fm4,fm5,fm6] at h2 h3 h4 h6
  obtain ⟨rfl,rfl⟩:=h2
  subst h3 h4
  exact .record _ _ (by omega) (by omega)
 ·simp [fm2,fm3,fm4,fm5,fm6] at h2 h3 h5 h6
  obtain ⟨rfl,rfl⟩:=h2
  subst h3 h5 h6
  exact .name _
structure Sr (t:E0):Prop where
 form:t.all Xa=true
 numb:t.all Rl=true
 ok:Ok t
theorem Sr.kid {t k:E0}(h:Sr t)(hk:k∈t.Of):Sr k:=by
 have h1:=h.form
 have h2:=h.numb
 rw [E0.all_eq,zqi] at h1 h2
 exact ⟨E0.alls_mem h1.2 hk,E0.alls_mem h2.2 hk,h.ok.kid hk⟩
theorem Sr.shape {t:E0}(h:Sr t):Uw t:=by
 have h1:=h.form
 have h2:=h.numb
 rw [E0.all_eq,zqi] at h1 h2
 exact A1p t h1.1 h2.1
theorem D1i:∀ (f:Bool) (ns:List Str) (ks:List E0),(∀ k∈ks,k.text.length≤64 * k.bulk)→(R8 f ns (E0.texts ks)).length≤64 * ((ns.map fun s=>s.length+1).sum+E0.bulks ks)
 | f,[],ks,_=>by cases ks <;> simp [R8]
 | f,n::ns,[],_=>by simp [R8,E0.texts]
 | f,n::ns,k::ks,h=>by
  have:=D1i false ns ks (fun x hx=>h x (zqq _ hx))
  have:=h k zqp
  simp only [R8,E0.texts,E0.bulks,List.map_cons,List.sum_cons,zqc,zqd,zqe] at *
  cases f <;> simp <;> omega
theorem Cg (t:E0):Sr t→t.text.length≤64 * t.bulk:=by
 induction t using E0.ind with
 | h t ih=>
 intro hf
 have ih':=fun k hk=>ih k hk (hf.kid hk)
 cases hf.shape with
 | bool=>decide
 | int lo hi h h'=>
  have:=Ha h; have:=Ha h'
  show ([105,110,116,91]++Lib.itoa lo++[46,46]++Lib.itoa hi++[93]).length≤_
  simp only [E0.bulk,E0.bulks,List.map_nil,List.sum_nil,zqc,zqd,zqe]; omega
 | array sz k h=>
  have:=Ha h; have:=ih' k (by simp)
  show ([97,114,114,97,121,32]++Lib.itoa sz++[32,111,102,32]++k.text).length≤_
  simp only [E0.bulk,E0.bulks,List.map_nil,List.sum_nil,zqc,zqd,zqe]; omega
 | record ns ks h h'=>
  have:=D1i true ns ks ih'
  show ([114,101,99,111,114,100,32,123]++R8 true ns (E0.texts ks)++[125]).length≤_
  simp only [E0.bulk,zqc,zqd,zqe]; omega
 | name nm=>show nm.length≤_; simp only [E0.bulk,E0.bulks]; omega
theorem Ko (f:Bool)(n:Str)(ns:List Str)(k:E0)(ks:List E0):R8 f (n::ns) (E0.texts (k::ks))=(bif f then [] else [44,32])++(n++[58,32]++k.text)++R8 false ns (E0.texts ks):=rfl
theorem D1s {t:E0}(h:t.Names.length=t.Of.length){k:Nat}{x:E0}{r:List E0}(hr:t.Of.drop k=x::r):∃ n ns,t.Names.drop k=n::ns∧idx t.Names (k:Int)=some n:=by
 have hk:=(I2 hr).2.2.2.1
 cases hn:t.Names.drop k with
 | nil=>have:=(W1 hn).2; omega
 | cons n ns=>exact ⟨n,ns,rfl,(I2 hn).2.1⟩
theorem E1i (t:E0)(ht:Sr t)(hlen:t.Names.length=t.Of.length)(ih:∀ k∈t.Of,T2 k=some k.text) :
  ∀ (r:List E0) (k:Nat) (ns:List Str) (b:Str),t.Of.drop k=r→t.Names.drop k=ns→b.length+64 * ((ns.map fun s=>s.length+1).sum+E0.bulks r)+1≤LL→
   Kd t b k=some (b++R8 (k == 0) ns (E0.texts r)++[125])
 | [],k,ns,b,h,hn,hb=>by
  rw [Kd,(W1 h).1,zn (by simp),fit (by omega)]
  have:R8 (k == 0) ns (E0.texts [])=[]:=by cases ns <;> rfl
  rw [this]
  simp
 | x::r,k,ns,b,h,hn,hb=>by
  obtain ⟨e1,e2,e3,e4,e5⟩:=I2 h
  obtain ⟨n,ms,hm,hi⟩:=D1s hlen h
  rw [hm] at hn
  subst hn
  have hms:=(I2 hm).2.2.1
  have hof:=ht.ok.ofs
  have hxl:=Cg x (ht.kid e5)
  simp only [List.map_cons,List.sum_cons,E0.bulks] at hb
  have step:∀ c:Str,c.length≤b.length+2→Qf t c k=some (c++(n++[58,32]++x.text)++R8 false ms (E0.texts r)++[125]):=fun c hc=>by
   rw [Qf,hi,ob,fit (by omega),fit (by simp; omega),e2,ob,ih x e5,ob,fit (by simp; omega),w1 (by omega),E1i t ht hlen ih r (k+1) ms _ e3 hms (by simp; omega)]
   simp
  rw [Kd,e1,zp rfl]
  cases k with
  | zero=>
   rw [zn (by simp),step b (by omega)]
   simp [Ko]
  | succ k=>
   rw [zp (zqj (by omega)),fit (by omega),step (b++[44,32]) (by simp)]
   simp [Ko]
theorem Ph (t:E0):Sr t→T2 t=some t.text:=by
 induction t using E0.ind with
 | h t ih=>
 intro hf
 have ih':=fun k hk=>ih k hk (hf.kid hk)
 have hb:=hf.ok
 unfold Ok BB at hb
 cases hf.shape with
 | bool=>rw [T2,zn (by simp),zn (by simp),zn (by simp),zn (by simp)]; rfl
 | int lo hi h h'=>
  have:=Ha h; have:=Ha h'
  rw [T2,zp (by simp),Xe h,ob,fit (by unfold LL; omega),fit (by unfold LL; simp; omega),Xe h',ob,fit (by unfold LL; simp; omega),fit (by unfold LL; simp; omega)]
  rfl
 | array sz k h=>
  have:=Ha h
  have i1:=ih' k (by simp)
  have l1:=Cg k (hf.kid (by simp))
  simp only [E0.bulk,E0.bulks,List.map_nil,List.sum_nil,zqe] at hb
  rw [T2,zn (by simp),zp (by simp),Xe h,ob,fit (by unfold LL; omega),fit (by unfold LL; simp; omega),show idx (E0.mk 2 0 0 sz [] [] [k]).Of 0=some k from rfl,ob,i1,ob,fit (by unfold LL; simp; omega)]
  rfl
 | record ns ks h h'=>
  simp only [E0.bulk] at hb
  have:=E1i (.mk 3 0 0 0 [] ns ks) hf h ih' ks 0 ns [114,101,99,111,114,100,32,123] rfl rfl (by unfold LL; simp; omega)
  rw [show ((0:Nat):Int)=0 from rfl] at this
  rw [T2,zn (by simp),zn (by simp),zn (by simp),zp (by simp),this]
  rfl
 | name nm=>rw [T2,zn (by simp),zn (by simp),zp (by simp)]; rfl
theorem W12 {α:Type}{l:List α}{k:Nat}(h:k < l.length):∃ y,idx l (k:Int)=some y∧l.drop k=y::l.drop (k+1)∧y∈l:=by
 refine ⟨l[k],?_,List.drop_eq_getElem_cons h,List.getElem_mem h⟩
 unfold idx
 rw [zp (by omega)]
 simp [h]
theorem z0:(0:Int)=((0:Nat):Int):=rfl
theorem Ul {α:Type}{p:α→α→Bool}:∀ l:List α,(∀ x∈l,p x x=true)→eqL p l l=true
 | [],_=>rfl
 | x::r,h=>by rw [eqL,h x zqp,Ul r fun y hy=>h y (zqq _ hy)]; rfl
theorem A1f (t u:E0)(ht:Ok t)(hl:t.Of.length=u.Of.length)(ih:∀ x∈t.Of,∀ y,M8 x y=some (x.same y)) :
  ∀ (r:List E0) (k:Nat),t.Of.drop k=r→G9 t u k=some (eqL E0.same r (u.Of.drop k))
 | [],k,h=>by
  rw [G9,(W1 h).1,zn (by simp),List.drop_eq_nil_of_le (by have:=(W1 h).2; omega)]; rfl
 | x::r,k,h=>by
  obtain ⟨e1,e2,e3,e4,e5⟩:=I2 h
  obtain ⟨y,f1,f2,f3⟩:=W12 (l:=u.Of) (k:=k) (by omega)
  have:=ht.ofs
  rw [G9,e1,zp rfl,e2,ob,f1,ob,ih x e5 y,ob,w1 (by omega),A1f t u ht hl ih r (k+1) e3,f2,eqL]
  cases x.same y <;> simp
theorem B1f (t u:E0)(ht:Ok t)(hl:t.Names.length=u.Names.length)(b:Bool)(hb:G9 t u 0=some b) :
  ∀ (r:List Str) (k:Nat),t.Names.drop k=r→Hc t u k=some (eqL (fun x y=>x == y) r (u.Names.drop k)&&b)
 | [],k,h=>by
  rw [Hc,(W1 h).1,zn (by simp),List.drop_eq_nil_of_le (by have:=(W1 h).2; omega),hb]; rfl
 | x::r,k,h=>by
  obtain ⟨e1,e2,e3,e4,e5⟩:=I2 h
  obtain ⟨y,f1,f2,f3⟩:=W12 (l:=u.Names) (k:=k) (by omega)
  have:=ht.names
  rw [Hc,e1,zp rfl,e2,ob,f1,ob,w1 (by omega),B1f t u ht hl b hb r (k+1) e3,f2,eqL]
  cases x == y <;> simp
theorem C1f (t:E0):Ok t→∀ u,M8 t u=some (t.same u):=by
 induction t using E0.ind with
 | h t ih=>
 intro ht u
 have ih':=fun x hx=>ih x hx (ht.kid hx)
 rw [M8]
 show (if M1d t u=true then _ else _)=_
 cases hd:M1d t u with
 | true=>rw [zp rfl,T1o hd]
 | false=>
  obtain ⟨h1,h2,h3⟩:=V1r hd
  have h4:=A1f t u ht h3 ih' t.Of 0 rfl
  have h5:=B1f t u ht h2 _ h4 t.Names 0 rfl
  rw [zn (by simp),z0,h5,h1]
  rfl
theorem B1p (t:E0):t.same t=true:=by
 induction t using E0.ind with
 | h t ih=>
 rw [E0.same_eq,Ul t.Names (fun x _=>by simp),Ul t.Of ih]
 simp
theorem F1i (s u:List Str)(hs:s.length≤BB)(hl:s.length=u.length):∀ (r:List Str) (k:Nat),s.drop k=r→D3 s u k=some (eqL (fun x y=>x == y) r (u.drop k))
 | [],k,h=>by
  rw [D3,(W1 h).1,zn (by simp),List.drop_eq_nil_of_le (by have:=(W1 h).2; omega)]; rfl
 | x::r,k,h=>by
  obtain ⟨e1,e2,e3,e4,e5⟩:=I2 h
  obtain ⟨y,f1,f2,f3⟩:=W12 (l:=u) (k:=k) (by omega)
  rw [D3,e1,zp rfl,e2,ob,f1,ob,w1 (by omega),F1i s u hs hl r (k+1) e3,f2,eqL]
  cases x == y <;> simp
theorem C1p (s u:List Str)(hs:s.length≤BB):Q7 s u=some (eqL (fun x y=>x == y) s u):=by
 unfold Q7
 by_cases hl:s.length=u.length
 ·rw [zn (by simp; omega),z0,F1i s u hs hl s 0 rfl]; rfl
 ·rw [zp (by simp; omega),Ej _ hl]
theorem G1i (s u:List E0)(hs:s.length≤BB)(hl:s.length=u.length)(ih:∀ x∈s,∀ y,K9 x y=some (x.same y)) :
  ∀ (r:List E0) (k:Nat),s.drop k=r→X1 s u k=some (eqL E0.same r (u.drop k))
 | [],k,h=>by
  rw [X1,(W1 h).1,zn (by simp),List.drop_eq_nil_of_le (by have:=(W1 h).2; omega)]; rfl
 | x::r,k,h=>by
  obtain ⟨e1,e2,e3,e4,e5⟩:=I2 h
  obtain ⟨y,f1,f2,f3⟩:=W12 (l:=u) (k:=k) (by omega)
  rw [X1,e1,zp rfl,e2,ob,f1,ob,ih x e5 y,ob,w1 (by omega),G1i s u hs hl ih r (k+1) e3,f2,eqL]
  cases x.same y <;> simp
theorem P1m (t:E0):Ok t→∀ u,K9 t u=some (t.same u):=by
 induction t using E0.ind with
 | h t ih=>
 intro ht u
 have ih':=fun x hx=>ih x hx (ht.kid hx)
 have hO:F3 t.Of u.Of=some (eqL E0.same t.Of u.Of):=by
  rw [F3]
  by_cases hl:t.Of.length=u.Of.length
  ·rw [zn (by simp; omega),z0,G1i t.Of u.Of ht.ofs hl ih' t.Of 0 rfl]; rfl
  ·rw [zp (by simp; omega),Ej _ hl]
 rw [K9,hO,C1p _ _ ht.names,E0.same_eq]
 generalize eqL E0.same t.Of u.Of=a
 generalize eqL (fun x y=>x == y) t.Names u.Names=b
 cases t.Kind == u.Kind <;> cases t.Low == u.Low <;> cases t.High == u.High <;> cases t.Size == u.Size <;> cases t.Name == u.Name <;> cases b <;> cases a <;> rfl
mutual
def A0.same:A0→A0→Bool
 | .mk o n nm ks,t=>o == t.Op&&n == t.NV&&nm == t.Name&&A0.sames ks t.Kids
def A0.sames:List A0→List A0→Bool
 | [],[]=>true
 | x::r,y::s=>A0.same x y&&A0.sames r s
 | [],_::_=>false
 | _::_,[]=>false
end
theorem A0.sames_eq:∀ l m:List A0,A0.sames l m=eqL A0.same l m
 | [],[]=>rfl
 | x::r,y::s=>by simp only [A0.sames,eqL,A0.sames_eq r s]
 | [],_::_=>rfl
 | _::_,[]=>rfl
theorem A0.same_eq (t u:A0):t.same u=(t.Op == u.Op&&t.NV == u.NV&&t.Name == u.Name&&eqL A0.same t.Kids u.Kids):=by
 rw [← A0.sames_eq]
 cases t
 rfl
theorem D1p (s u:List A0)(hs:s.length≤BB)(hl:s.length=u.length)(ih:∀ x∈s,∀ y,J7 x y=some (x.same y)) :
  ∀ (r:List A0) (k:Nat),s.drop k=r→Y1 s u k=some (eqL A0.same r (u.drop k))
 | [],k,h=>by
  rw [Y1,(W1 h).1,zn (by simp),List.drop_eq_nil_of_le (by have:=(W1 h).2; omega)]; rfl
 | x::r,k,h=>by
  obtain ⟨e1,e2,e3,e4,e5⟩:=I2 h
  obtain ⟨y,f1,f2,f3⟩:=W12 (l:=u) (k:=k) (by omega)
  rw [Y1,e1,zp rfl,e2,ob,f1,ob,ih x e5 y,ob,w1 (by omega),D1p s u hs hl ih r (k+1) e3,f2,eqL]
  cases x.same y <;> simp
theorem E1s (s u:List A0)(hs:s.length≤BB)(ih:∀ x∈s,∀ y,J7 x y=some (x.same y)):H3 s u=some (eqL A0.same s u):=by
 rw [H3]
 by_cases hl:s.length=u.length
 ·rw [zn (by simp; omega),z0,D1p s u hs hl ih s 0 rfl]; rfl
 ·rw [zp (by simp; omega),Ej _ hl]
theorem Q1m (t:A0):OkE t→∀ u,J7 t u=some (t.same u):=by
 induction t using A0.ind with
 | h t ih=>
 intro ht u
 rw [J7,E1s t.Kids u.Kids ht.kids (fun x hx=>ih x hx (ht.kid hx)),A0.same_eq]
 generalize eqL A0.same t.Kids u.Kids=a
 cases t.Op == u.Op <;> cases t.NV == u.NV <;> cases t.Name == u.Name <;> cases a <;> rfl
theorem E1p (t u:A0)(ht:OkE t)(hl:t.Kids.length=u.Kids.length)(ih:∀ x∈t.Kids,∀ y,Z3 x y=some (x.same y)) :
  ∀ (r:List A0) (k:Nat),t.Kids.drop k=r→Bc t u k=some (eqL A0.same r (u.Kids.drop k))
 | [],k,h=>by
  rw [Bc,(W1 h).1,zn (by simp),List.drop_eq_nil_of_le (by have:=(W1 h).2; omega)]; rfl
 | x::r,k,h=>by
  obtain ⟨e1,e2,e3,e4,e5⟩:=I2 h
  obtain ⟨y,f1,f2,f3⟩:=W12 (l:=u.Kids) (k:=k) (by omega)
  have:=ht.kids
  rw [Bc,e1,zp rfl,e2,ob,f1,ob,ih x e5 y,ob,w1 (by omega),E1p t u ht hl ih r (k+1) e3,f2,eqL]
  cases x.same y <;> simp
theorem Km (t:A0):OkE t→∀ u,Z3 t u=some (t.same u):=by
 induction t using A0.ind with
 | h t ih=>
 intro ht u
 have ih':=fun x hx=>ih x hx (ht.kid hx)
 rw [Z3,A0.same_eq]
 by_cases hl:t.Kids.length=u.Kids.length
 ·have h4:=E1p t u ht hl ih' t.Kids 0 rfl
  have hb:(bif (bif (bif (t.Op != u.Op) then true else (t.NV != u.NV)) then true else (!(t.Name == u.Name))) then true else ((t.Kids.length:Int) != (u.Kids.length:Int))) = !(t.Op == u.Op&&t.NV == u.NV&&t.Name == u.Name):=by
   have:((t.Kids.length:Int) != (u.Kids.length:Int))=false:=by simp; omega
   rw [this]
   unfold bne
   cases t.Op == u.Op <;> cases t.NV == u.NV <;> cases t.Name == u.Name <;> rfl
  rw [hb,z0,h4]
  cases (t.Op == u.Op&&t.NV == u.NV&&t.Name == u.Name) <;> simp
 ·have:((t.Kids.length:Int) != (u.Kids.length:Int))=true:=by simp; omega
  rw [this,Ej _ hl,Bool.and_false]
  generalize (bif (bif (t.Op != u.Op) then true else (t.NV != u.NV)) then true else (!(t.Name == u.Name)))=b
  cases b <;> rfl
theorem Rp (t:A0):t.same t=true:=by
 induction t using A0.ind with
 | h t ih=>
 rw [A0.same_eq,Ul t.Kids ih]
 simp
def Ah (e:A0):Bool:=e.same ⟨0,0,[],[]⟩
def Tr (t:E0):Bool:=t.same ⟨0,0,0,0,[],[],[]⟩
theorem Hy (e:A0)(h:OkE e):Dc e=some (Ah e):=by unfold Dc; rw [Km e h]; rfl
theorem F1p (t:E0)(h:Ok t):Ri t=some (Tr t):=by unfold Ri; rw [C1f t h]; rfl
theorem Cd {e:A0}(h:Ah e=true):e=⟨0,0,[],[]⟩:=by
 unfold Ah at h
 rw [A0.same_eq] at h
 obtain ⟨o,n,nm,ks⟩:=e
 simp only [zqi,beq_iff_eq] at h
 obtain ⟨⟨⟨rfl,rfl⟩,rfl⟩,h4⟩:=h
 cases ks with
 | nil=>rfl
 | cons x r=>cases h4
theorem F1s {t:E0}(h:Tr t=true):t=⟨0,0,0,0,[],[],[]⟩:=by
 unfold Tr at h
 rw [E0.same_eq] at h
 obtain ⟨a,b,c,d,nm,ns,ks⟩:=t
 simp only [zqi,beq_iff_eq] at h
 obtain ⟨⟨⟨⟨⟨⟨rfl,rfl⟩,rfl⟩,rfl⟩,rfl⟩,h5⟩,h4⟩:=h
 cases ks with
 | nil=>
  cases ns with
  | nil=>rfl
  | cons x r=>cases h5
 | cons x r=>cases h4
mutual
def B0.bulk:B0→Nat
 | .mk y0 y1 y2 y3 y4 y5 y6 y7 y8 y9 y10=>1+(A0.bulk y1+(A0.bulk y2+((y3.length+1)+((A0.bulks y4+1)+(1+(1+(1+(((y8.map fun _=>1).sum+1)+((B0.bulks y9+1)+((B0.bulks y10+1)+(0)))))))))))+1
def B0.bulks:List B0→Nat
 | []=>0
 | x::r=>B0.bulk x+B0.bulks r
end
mutual
def C0.bulk:C0→Nat
 | .mk y0 y1 y2 y3 y4 y5 y6 y7=>1+((y1.length+1)+(E0.bulk y2+(1+(A0.bulk y4+((C0.bulks y5+1)+((C0.bulks y6+1)+((B0.bulks y7+1)+(0))))))))+1
def C0.bulks:List C0→Nat
 | []=>0
 | x::r=>C0.bulk x+C0.bulks r
end
mutual
def O0.bulk:O0→Nat
 | .mk y0 y1=>(C0.bulks y0+1)+((B0.bulks y1+1)+(0))+1
def O0.bulks:List O0→Nat
 | []=>0
 | x::r=>O0.bulk x+O0.bulks r
end
set_option maxHeartbeats 1000000
def uPl (v:Int):Bool:=bif (bif (v == 0) then true else (v == 1)) then true else (v == 2)
def uVa (v:Int):Bool:=bif (bif (bif (v == 0) then true else (v == 3)) then true else (v == 5)) then true else (v == 6)
def uNm (v:Int):Bool:=bif (bif (v == 1) then true else (v == 2)) then true else (v == 7)
def uNn (v:Int):Bool:=bif (v == 4) then true else (v == 6)
def uTh (v:Int):Bool:=bif (bif (v == 5) then true else (v == 6)) then true else (v == 7)
def okV (v:Int):Bool:=!(bif decide (v < 0) then true else decide (v > 8))
def stU (v:Int):U2×Bool:=(⟨uPl v,uVa v,uNm v,v == 1,uNn v,v == 7,v == 8,uTh v,v == 5⟩,okV v)
theorem H1i (v:Int):Qg v=some (stU v):=by
 have h:(v < 0∨8 < v)∨v=0∨v=1∨v=2∨v=3∨v=4∨v=5∨v=6∨v=7∨v=8:=by omega
 rcases h with h | rfl | rfl | rfl | rfl | rfl | rfl | rfl | rfl | rfl
 ·have f:∀ k:Int,0≤k∧k≤8→(v == k)=false:=fun k hk=>zqn.2 (by omega)
  have hv:okV v=false:=by
   unfold okV
   rcases h with h | h
   ·rw [zqj h]; rfl
   ·rw [zqj (show v > 8 from h)]; cases decide (v < 0) <;> rfl
  unfold Qg stU uPl uVa uNm uNn uTh
  rw [hv]
  simp only [f 0 (by decide),f 1 (by decide),f 2 (by decide),f 3 (by decide),f 4 (by decide),f 5 (by decide),f 6 (by decide),f 7 (by decide),f 8 (by decide)]
  rfl
 all_goals rfl
def oN (e:A0)(u:Bool):Nat:=bif (bif !u then Ah e else false) then 0 else e.nodes
def oD (e:A0)(u:Bool):Nat:=bif (bif !u then Ah e else false) then 0 else e.depth
def oF (e:A0)(u:Bool):Bool:=bif u then e.all A4 else Ah e
theorem R1m (e:A0)(u:Bool):oN e u≤e.bulk:=by
 unfold oN
 have:=A0.nodes_bulk e
 cases (bif !u then Ah e else false) <;> simp <;> omega
def Qh:Int→List Int→Bool
 | _,[]=>true
 | l,n::r=>(bif A2 n 0 1048576 then decide (n > l) else false)&&Qh n r
def Vf (s:B0):Bool:=
 bif s.Verb == 4 then A2 s.NV 0 1048576 else bif s.Verb == 6 then A2 s.NV 0 4096
 else bif s.Verb == 7 then (bif (bif A2 s.Low (-1048576) 1048576 then A2 s.High s.Low 1048576 else false) then decide (s.High - s.Low < 4096) else false)
 else bif s.Verb == 8 then A2 (s.Numbers.length:Int) 1 32&&Qh (-1) s.Numbers else true
def V6 (s:B0):Bool:=
 okV s.Verb&&oF s.Place (uPl s.Verb)&&(bif uPl s.Verb then s.Place.place else true)&&oF s.Value (uVa s.Verb)&&(bif uNm s.Verb then true else s.Name == [])&&(bif s.Verb == 1 then true else ((s.Args.length:Int) == 0))&&A0.alls A4 s.Args
 && (bif uNn s.Verb then true else s.NV == 0)&&(bif s.Verb == 7 then true else (bif s.Low == 0 then s.High == 0 else false))&&(bif s.Verb == 8 then true else ((s.Numbers.length:Int) == 0))
 && (bif uTh s.Verb then true else ((s.Then.length:Int) == 0))&&(bif s.Verb == 5 then true else ((s.Else.length:Int) == 0))
def Ia (s:B0):Bool:=s.Place.all Y4&&s.Value.all Y4&&(bif uNm s.Verb then P3 s.Name else true)&&A0.alls Y4 s.Args
def Z8 (s:B0):Bool:=s.Place.all I5&&s.Value.all I5&&A0.alls I5 s.Args&&Vf s
mutual
def B0.nds:B0→Nat
 | .mk v pl va nm ar n lo hi ns th el=>1+(oN pl (uPl v)+(oN va (uVa v)+(A0.nodess ar+(B0.ndss th+B0.ndss el))))
def B0.ndss:List B0→Nat
 | []=>0
 | x::r=>B0.nds x+B0.ndss r
end
mutual
def B0.dps:B0→Nat→Nat
 | .mk v pl va nm ar n lo hi ns th el,d=>max d (max (oD pl (uPl v)) (max (oD va (uVa v)) (max (A0.depths ar) (max (B0.dpss th (d+1)) (B0.dpss el (d+1))))))
def B0.dpss:List B0→Nat→Nat
 | [],_=>0
 | x::r,d=>max (B0.dps x d) (B0.dpss r d)
end
mutual
def B0.all (p:B0→Bool):B0→Bool
 | .mk v pl va nm ar n lo hi ns th el=>p (.mk v pl va nm ar n lo hi ns th el)&&(B0.alls p th&&B0.alls p el)
def B0.alls (p:B0→Bool):List B0→Bool
 | []=>true
 | x::r=>B0.all p x&&B0.alls p r
end
theorem B0.nds_eq (s:B0):s.nds=1+(oN s.Place (uPl s.Verb)+(oN s.Value (uVa s.Verb)+(A0.nodess s.Args+(B0.ndss s.Then+B0.ndss s.Else)))):=by cases s; simp only [B0.nds]
theorem B0.dps_eq (s:B0)(d:Nat):s.dps d=max d (max (oD s.Place (uPl s.Verb)) (max (oD s.Value (uVa s.Verb)) (max (A0.depths s.Args) (max (B0.dpss s.Then (d+1)) (B0.dpss s.Else (d+1)))))):=by cases s; simp only [B0.dps]
theorem B0.all_eq (p:B0→Bool)(s:B0):s.all p=(p s&&(B0.alls p s.Then&&B0.alls p s.Else)):=by cases s; simp only [B0.all]
theorem B0.ind {P:B0→Prop}(h:∀ s:B0,(∀ x∈s.Then,P x)→(∀ x∈s.Else,P x)→P s):∀ s,P s:=by
 intro s
 refine B0.rec (motive_1:=P) (motive_2:=fun l=>∀ x∈l,P x) ?_ ?_ ?_ s
 ·intro v pl va nm ar n lo hi ns th el i1 i2
  exact h _ i1 i2
 ·intro x hx; cases hx
 ·intro x r hx hr y hy
  cases hy with
  | head=>exact hx
  | tail _ hy=>exact hr y hy
theorem B0.inds {Q:List B0→Prop}(h:∀ l:List B0,(∀ x∈l,Q x.Then∧Q x.Else)→Q l):∀ l,Q l:=by
 have key:∀ s:B0,Q s.Then∧Q s.Else:=fun s=>by
  induction s using B0.ind with
  | h s i1 i2=>exact ⟨h _ i1,h _ i2⟩
 exact fun l=>h l fun x _=>key x
theorem B0.bulk_eq (s:B0):s.bulk=s.Place.bulk+s.Value.bulk+s.Name.length+A0.bulks s.Args+(s.Numbers.map fun _=>1).sum+B0.bulks s.Then+B0.bulks s.Else+10:=by
 cases s; simp only [B0.bulk]; omega
theorem Nf:∀ l:List Int,(l.map fun _=>1).sum=l.length
 | []=>rfl
 | x::r=>by simp only [List.map_cons,List.sum_cons,zqd,Nf r]; omega
theorem B0.bulk_mem {s:B0}:∀ {l:List B0},s∈l→s.bulk≤B0.bulks l
 | x::r,h=>by
  simp only [B0.bulks]
  cases h with
  | head=>omega
  | tail _ h=>have:=B0.bulk_mem h; omega
theorem B0.bulk_len:∀ l:List B0,l.length≤B0.bulks l
 | []=>zqr _
 | x::r=>by
  simp only [B0.bulks,zqd]
  have:=B0.bulk_len r
  have:=B0.bulk_eq x
  omega
mutual
theorem B0.nds_bulk:∀ s:B0,s.nds≤s.bulk
 | .mk v pl va nm ar n lo hi ns th el=>by
  have:=R1m pl (uPl v)
  have:=R1m va (uVa v)
  have:=A0.nodess_bulk ar
  have:=B0.ndss_bulk th
  have:=B0.ndss_bulk el
  simp only [B0.nds,B0.bulk]; omega
theorem B0.ndss_bulk:∀ l:List B0,B0.ndss l≤B0.bulks l
 | []=>zqr _
 | x::r=>by
  have:=B0.nds_bulk x
  have:=B0.ndss_bulk r
  simp only [B0.ndss,B0.bulks]; omega
end
def OkS (l:List B0):Prop:=B0.bulks l≤BB
structure Gz (s:B0):Prop where
 place:OkE s.Place
 value:OkE s.Value
 name:s.Name.length≤BB
 args:s.Args.length≤BB
 arg:∀ a∈s.Args,OkE a
 nums:s.Numbers.length≤BB
 thens:OkS s.Then
 elses:OkS s.Else
theorem OkS.mem {l:List B0}(h:OkS l){s:B0}(hs:s∈l):Gz s:=by
 unfold OkS at h
 have h1:=B0.bulk_mem hs
 have h2:=B0.bulk_eq s
 have h3:=Nf s.Numbers
 have h4:=A0.bulk_len s.Args
 refine ⟨?_,?_,?_,?_,fun a ha=>?_,?_,?_,?_⟩ <;> first | (unfold OkE; omega) | (unfold OkS; omega) | omega | skip
 have:=A0.bulk_kid ha
 unfold OkE; omega
theorem OkS.len {l:List B0}(h:OkS l):l.length≤BB:=Nat.le_trans (B0.bulk_len l) h
def Q4 (o:I0)(n m:Nat)(f a u:Bool):I0:=⟨o.nodes+n,max o.depth m,o.badForm || !f,o.badName || !a,o.badNumber || !u⟩
theorem L4 (o:I0)(n m n' m':Nat)(f a u f' a' u':Bool):Q4 (Q4 o n m f a u) n' m' f' a' u'=Q4 o (n+n') (max m m') (f&&f') (a&&a') (u&&u'):=by
 simp only [Q4,Ht]
 rw [show o.nodes+(n:Int)+(n':Int)=o.nodes+((n+n':Nat):Int) by omega,show max (max o.depth (m:Int)) (m':Int)=max o.depth ((max m m':Nat):Int) by omega]
theorem Vl (o:I0)(h:0≤o.depth):Q4 o 0 0 true true true=o:=by
 simp only [Q4,zqf,Bool.or_false]
 rw [show o.nodes+((0:Nat):Int)=o.nodes by omega,show max o.depth ((0:Nat):Int)=o.depth by omega]
theorem C1c (o:I0)(n m:Nat)(f a u:Bool):(Q4 o n m f a u).nodes=o.nodes+n:=rfl
theorem Sp (o:I0)(n m:Nat)(f a u:Bool):(Q4 o n m f a u).depth=max o.depth m:=rfl
theorem O9 (o:I0)(h:0≤o.depth)(b:Bool):D1 b o=some (Q4 o 0 0 b true true):=by
 rw [B1a]
 simp only [Q4,zqf,Bool.or_false]
 rw [show o.nodes+((0:Nat):Int)=o.nodes by omega,show max o.depth ((0:Nat):Int)=o.depth by omega]
theorem Dg (o:I0)(h:0≤o.depth)(b:Bool):O2 b o=some (Q4 o 0 0 true true b):=by
 rw [Av]
 simp only [Q4,zqf,Bool.or_false]
 rw [show o.nodes+((0:Nat):Int)=o.nodes by omega,show max o.depth ((0:Nat):Int)=o.depth by omega]
theorem D1f (o:I0)(h:0≤o.depth)(s:Str)(hs:s.length≤BB):A5 s o=some (Q4 o 0 0 true (P3 s) true):=by
 rw [U12 s hs]
 simp only [Q4,zqf,Bool.or_false]
 rw [show o.nodes+((0:Nat):Int)=o.nodes by omega,show max o.depth ((0:Nat):Int)=o.depth by omega]
structure M5 (o:I0)(n:Nat):Prop where
 dep:0≤o.depth
 low:0≤o.nodes
 high:o.nodes+n≤3 * BB
theorem M5.x {o:I0}{n k m:Nat}{f a u:Bool}(h:M5 o (k+n)):M5 (Q4 o k m f a u) n:=by
 obtain ⟨h1,h2,h3⟩:=h
 refine ⟨?_,?_,?_⟩
 ·rw [Sp]; omega
 ·rw [C1c]; omega
 ·rw [C1c]; omega
theorem M5.less {o:I0}{n k:Nat}(h:M5 o n)(hk:k≤n):M5 o k:=⟨h.dep,h.low,by have:=h.high; omega⟩
theorem M5.x0 {o:I0}{n m:Nat}{f a u:Bool}(h:M5 o n):M5 (Q4 o 0 m f a u) n:=M5.x (by rw [Nat.zero_add]; exact h)
theorem P16 (e:A0)(h:OkE e)(o:I0)(hr:M5 o e.nodes):S3 e 1 o=some (Q4 o e.nodes e.depth (e.all A4) (e.all Y4) (e.all I5)):=by
 have hn:=h.nodes
 have hp:1≤e.depth:=by rw [A0.depth_eq]; omega
 have h3:=hr.high
 unfold BB at hn h3
 rw [Z1h e h 1 o (by omega) (by unfold BB; omega) hr.low (by unfold BB; omega)]
 simp only [Sg,Q4]
 rw [show (1:Int)+((e.depth - 1:Nat):Int)=e.depth by omega]
theorem I1i (t:E0)(h:Ok t)(o:I0)(hr:M5 o t.nodes):N6 t 1 o=some (Q4 o t.nodes t.depth (t.all Xa) (t.all Ci) (t.all Rl)):=by
 have hn:=h.nodes
 have hp:1≤t.depth:=by rw [E0.depth_eq]; omega
 have h3:=hr.high
 unfold BB at hn h3
 rw [P1v t h 1 o (by omega) (by unfold BB; omega) hr.low (by unfold BB; omega)]
 simp only [Sg,Q4]
 rw [show (1:Int)+((t.depth - 1:Nat):Int)=t.depth by omega]
theorem J1i:(A0.mk 0 0 [] []).all A4=true∧(A0.mk 0 0 [] []).all Y4=true∧(A0.mk 0 0 [] []).all I5=true:=⟨rfl,rfl,rfl⟩
theorem E1a (e:A0)(u:Bool)(h:OkE e)(o:I0)(hr:M5 o (oN e u)):E4 e u o=some (Q4 o (oN e u) (oD e u) (oF e u) (e.all Y4) (e.all I5)):=by
 unfold E4
 rw [Q1m e h]
 show ((if (!u)=true then some (Ah e) else some default)>>=_)=_
 unfold oN oD oF at *
 cases u with
 | true=>
  simp only [zqf,zql,zqk] at *
  rw [zn (by simp),ob,zn (by simp),O9 o hr.dep,ob,P16 e h _ hr.x0,ob,L4]
  simp
 | false=>
  simp only [zqg,zql,zqk] at *
  rw [zp trivial,ob]
  cases hz:Ah e with
  | true=>
   rw [zp rfl,Cd hz,J1i.2.1,J1i.2.2]
   exact congrArg some (Vl o hr.dep).symm
  | false=>
   rw [hz] at hr
   rw [zn (by simp),O9 o hr.dep,ob,P16 e h _ hr.x0,ob,L4]
   simp
theorem G1p (o:I0)(h:0≤o.nodes)(h':o.nodes+1≤3 * BB)(d:Nat):C9 (d:Int) ⟨IntKind.i64.wrap (o.nodes+1),o.depth,o.badForm,o.badName,o.badNumber⟩=some (Q4 o 1 d true true true):=by
 unfold BB at h'
 rw [A1a,wr (by omega) (by omega)]
 simp only [Q4,zqf,Bool.or_false]
 rfl
theorem E1f (s:B0)(hs:Gz s)(K:I0→Option I0)(F:I0→Int→Option I0)
  (hF:∀ (o:I0) (k:Int),F o k=if decide (k < (s.Args.length:Int))=true then idx s.Args k>>=fun x=>S3 x 1 o>>=fun y=>F y (IntKind.i64.wrap (k+1)) else K o) :
  ∀ (r:List A0) (k:Nat) (o:I0),s.Args.drop k=r→M5 o (A0.nodess r)→F o (k:Int)=K (Q4 o (A0.nodess r) (A0.depths r) (A0.alls A4 r) (A0.alls Y4 r) (A0.alls I5 r))
 | [],k,o,h,hr=>by
  rw [hF,(W1 h).1,zn (by simp)]
  simp only [A0.nodess,A0.depths,A0.alls]
  rw [Vl o hr.dep]
 | x::r,k,o,h,hr=>by
  obtain ⟨e1,e2,e3,e4,e5⟩:=I2 h
  have:=hs.args
  simp only [A0.nodess] at hr
  rw [hF,e1,zp rfl,e2,ob,P16 x (hs.arg x e5) o (hr.less (by omega)),ob,w1 (by omega),E1f s hs K F hF r (k+1) _ e3 hr.x,L4]
  rfl
theorem M1k (s:B0)(hs:Gz s):∀ (r:List Int) (k:Nat) (last:Int) (o:I0),s.Numbers.drop k=r→0≤o.depth→H4 s o last k=some (Q4 o 0 0 true true (Qh last r))
 | [],k,last,o,h,h0=>by rw [H4,(W1 h).1,zn (by simp)]; exact congrArg some (Vl o h0).symm
 | x::r,k,last,o,h,h0=>by
  obtain ⟨e1,e2,e3,e4,e5⟩:=I2 h
  have:=hs.nums
  rw [H4,e1,zp rfl,e2,ob,Yj,ob,Dg _ h0,ob,w1 (by omega),M1k s hs r (k+1) x _ e3 (by rw [Sp]; omega),L4]
  rfl
theorem H1p (s:B0)(hs:Gz s)(o:I0)(h0:0≤o.depth):V8 s o=some (Q4 o 0 0 true true (Vf s)):=by
 unfold V8 Vf
 simp only [Yj]
 cases s.Verb == 4 with
 | true=>rw [zp rfl,ob,Dg _ h0,ob]; rfl
 | false=>
  rw [zn (by simp)]
  cases s.Verb == 6 with
  | true=>rw [zp rfl,ob,Dg _ h0,ob]; rfl
  | false=>
   rw [zn (by simp)]
   cases s.Verb == 7 with
   | true=>
    rw [zp rfl,ob]
    cases hl:A2 s.Low (-1048576) 1048576 with
    | false=>rw [zn (by simp),ob,Dg _ h0,ob]; rfl
    | true=>
     rw [zp rfl,ob]
     cases hh:A2 s.High s.Low 1048576 with
     | false=>rw [Dg _ h0,ob]; rfl
     | true=>
      have:IntKind.i64.wrap (s.High - s.Low)=s.High - s.Low:=by
       simp [A2] at hl hh
       exact wr (by omega) (by omega)
      rw [this,Dg _ h0,ob]; rfl
   | false=>
    rw [zn (by simp)]
    cases s.Verb == 8 with
    | true=>
     rw [zp rfl,ob,Dg _ h0,ob,show (0:Int)=((0:Nat):Int) from rfl,M1k s hs s.Numbers 0 (-1) _ rfl (by rw [Sp]; omega),L4]
     simp
    | false=>exact congrArg some (Vl o h0).symm
theorem F1f (l:List B0):OkS l→∀ (d:Nat) (o:I0),d+B0.bulks l≤3 * BB→M5 o (B0.ndss l)→
  U3 l d o=some (Q4 o (B0.ndss l) (B0.dpss l d) (B0.alls V6 l) (B0.alls Ia l) (B0.alls Z8 l)):=by
 induction l using B0.inds with
 | h l ih=>
 intro hl d o hd hr
 have main:∀ (r:List B0) (k:Nat) (o:I0),l.drop k=r→M5 o (B0.ndss r)→J6 l d o k=some (Q4 o (B0.ndss r) (B0.dpss r d) (B0.alls V6 r) (B0.alls Ia r) (B0.alls Z8 r)):=by
  intro r
  induction r with
  | nil=>
   intro k o h hr
   rw [J6,(W1 h).1,zn (by simp)]
   exact congrArg some (Vl o hr.dep).symm
  | cons s r ihr=>
   intro k o h hr
   obtain ⟨e1,e2,e3,e4,e5⟩:=I2 h
   have hs:=hl.mem e5
   have hlen:=hl.len
   obtain ⟨i1,i2⟩:=ih s e5
   have hbm:=B0.bulk_mem e5
   have hbe:=B0.bulk_eq s
   simp only [B0.ndss,B0.nds_eq] at hr
   have hhi:=hr.high
   unfold BB at hhi hd
   have hwd:IntKind.i64.wrap ((d:Int)+1)=((d+1:Nat):Int):=by rw [wr (by omega) (by omega)]; rfl
   have tail:∀ o:I0,M5 o (B0.ndss s.Then+B0.ndss s.Else+B0.ndss r)→
     (D1 (bif (stU s.Verb).1.n then true else (s.NV == 0)) o>>=fun x14=>
      D1 (bif (stU s.Verb).1.bounds then true else (bif (s.Low == 0) then (s.High == 0) else false)) x14>>=fun x15=>
      D1 (bif (stU s.Verb).1.numbers then true else (((s.Numbers).length:Int) == 0)) x15>>=fun x16=>
      D1 (bif (stU s.Verb).1.thenV then true else (((s.Then).length:Int) == 0)) x16>>=fun x17=>
      D1 (bif (stU s.Verb).1.other then true else (((s.Else).length:Int) == 0)) x17>>=fun x18=>
      V8 s x18>>=fun x19=>
      U3 s.Then (IntKind.i64.wrap ((d:Int)+1)) x19>>=fun x20=>
      U3 s.Else (IntKind.i64.wrap ((d:Int)+1)) x20>>=fun x21=>
      J6 l d x21 (IntKind.i64.wrap ((k:Int)+1)))
     = some (Q4 o (B0.ndss s.Then+B0.ndss s.Else+B0.ndss r) (max (B0.dpss s.Then (d+1)) (max (B0.dpss s.Else (d+1)) (B0.dpss r d)))
       ((bif uNn s.Verb then true else s.NV == 0)&&(bif s.Verb == 7 then true else (bif s.Low == 0 then s.High == 0 else false))&&(bif s.Verb == 8 then true else ((s.Numbers.length:Int) == 0))
         && (bif uTh s.Verb then true else ((s.Then.length:Int) == 0))&&(bif s.Verb == 5 then true else ((s.Else.length:Int) == 0))&&B0.alls V6 s.Then&&B0.alls V6 s.Else&&B0.alls V6 r)
       (B0.alls Ia s.Then&&B0.alls Ia s.Else&&B0.alls Ia r) (Vf s&&B0.alls Z8 s.Then&&B0.alls Z8 s.Else&&B0.alls Z8 r)):=by
    intro o hr
    have q1:=hr.x0 (m:=0) (f:=bif (stU s.Verb).1.n then true else (s.NV == 0)) (a:=true) (u:=true)
    have q2:=q1.x0 (m:=0) (f:=bif (stU s.Verb).1.bounds then true else (bif (s.Low == 0) then (s.High == 0) else false)) (a:=true) (u:=true)
    have q3:=q2.x0 (m:=0) (f:=bif (stU s.Verb).1.numbers then true else (((s.Numbers).length:Int) == 0)) (a:=true) (u:=true)
    have q4:=q3.x0 (m:=0) (f:=bif (stU s.Verb).1.thenV then true else (((s.Then).length:Int) == 0)) (a:=true) (u:=true)
    have q5:=q4.x0 (m:=0) (f:=bif (stU s.Verb).1.other then true else (((s.Else).length:Int) == 0)) (a:=true) (u:=true)
    have q6:=q5.x0 (m:=0) (f:=true) (a:=true) (u:=Vf s)
    rw [O9 o hr.dep,ob,O9 _ q1.dep,ob,O9 _ q2.dep,ob,O9 _ q3.dep,ob,O9 _ q4.dep,ob,H1p s hs _ q5.dep,ob,hwd,
     i1 hs.thens (d+1) _ (by unfold BB; omega) (q6.less (by omega)),ob,i2 hs.elses (d+1) _ (by unfold BB; omega) (M5.x (q6.less (by omega))),ob,w1 (by omega),ihr (k+1) _ e3 (M5.x (M5.x (q6.less (by omega))))]
    simp only [L4,stU,Bool.true_and,Bool.and_true,Bool.and_assoc,Nat.zero_add,Nat.add_assoc,Nat.zero_max]
    simp only [← Nat.max_assoc]
   have args:=E1f s hs _ (fun o k'=>Gb l d o s (stU s.Verb) k k') (fun o k'=>Gb.eq_1 l d o s (stU s.Verb) k k') s.Args 0
   rw [show ((0:Nat):Int)=0 from rfl] at args
   have j3:∀ o:I0,M5 o (A0.nodess s.Args+(B0.ndss s.Then+B0.ndss s.Else+B0.ndss r))→W7 l d o s (stU s.Verb) k
     = some (Q4 o (A0.nodess s.Args+(B0.ndss s.Then+B0.ndss s.Else+B0.ndss r)) (max (A0.depths s.Args) (max (B0.dpss s.Then (d+1)) (max (B0.dpss s.Else (d+1)) (B0.dpss r d))))
       ((bif s.Verb == 1 then true else ((s.Args.length:Int) == 0))&&(A0.alls A4 s.Args&&((bif uNn s.Verb then true else s.NV == 0)&&(bif s.Verb == 7 then true else (bif s.Low == 0 then s.High == 0 else false))&&(bif s.Verb == 8 then true else ((s.Numbers.length:Int) == 0))
         && (bif uTh s.Verb then true else ((s.Then.length:Int) == 0))&&(bif s.Verb == 5 then true else ((s.Else.length:Int) == 0))&&B0.alls V6 s.Then&&B0.alls V6 s.Else&&B0.alls V6 r)))
       (A0.alls Y4 s.Args&&(B0.alls Ia s.Then&&B0.alls Ia s.Else&&B0.alls Ia r)) (A0.alls I5 s.Args&&(Vf s&&B0.alls Z8 s.Then&&B0.alls Z8 s.Else&&B0.alls Z8 r))):=by
    intro o hr
    rw [W7,O9 o hr.dep,ob,args _ rfl (hr.x0.less (by omega)),tail _ (M5.x hr.x0)]
    simp only [L4,stU,Bool.true_and,Bool.and_assoc,Nat.zero_add,Nat.zero_max]
   have j2:∀ o:I0,M5 o (oN s.Value (uVa s.Verb)+(A0.nodess s.Args+(B0.ndss s.Then+B0.ndss s.Else+B0.ndss r)))→V7 l d o s (stU s.Verb) k
     = (W7 l d (Q4 o (oN s.Value (uVa s.Verb)) (oD s.Value (uVa s.Verb)) (oF s.Value (uVa s.Verb)&&(bif uNm s.Verb then true else s.Name == [])) (s.Value.all Y4&&(bif uNm s.Verb then P3 s.Name else true)) (s.Value.all I5)) s (stU s.Verb) k):=by
    intro o hr
    have q1:M5 (Q4 o (oN s.Value (uVa s.Verb)) (oD s.Value (uVa s.Verb)) (oF s.Value (uVa s.Verb)) (s.Value.all Y4) (s.Value.all I5)) 0:=M5.x (hr.less (by omega))
    rw [V7]
    show (E4 s.Value (uVa s.Verb) o>>=_)=_
    rw [E1a s.Value (uVa s.Verb) hs.value o (hr.less (by omega)),ob,O9 _ q1.dep,ob,D1f _ (q1.x0).dep s.Name hs.name]
    simp only [L4,stU]
    cases uNm s.Verb with
    | true=>rw [zp rfl,ob]; simp
    | false=>rw [zn (by simp)]; simp
   rw [J6,e1,zp rfl,e2,ob,G1p o hr.low (by unfold BB; omega) d,ob,H1i,ob,O9 _ (show 0≤(Q4 o 1 d true true true).depth by rw [Sp]; have:=hr.dep; omega),ob,L4]
   have hr1:M5 (Q4 o (1+0) (max d 0) (true&&(stU s.Verb).2) (true&&true) (true&&true)) (oN s.Place (uPl s.Verb)+(oN s.Value (uVa s.Verb)+(A0.nodess s.Args+(B0.ndss s.Then+B0.ndss s.Else+B0.ndss r)))):=M5.x (hr.less (by omega))
   have hopt:=E1a s.Place (uPl s.Verb) hs.place _ (hr1.less (k:=oN s.Place (uPl s.Verb)) (by omega))
   show (E4 s.Place (uPl s.Verb) _>>=_)=_
   rw [hopt,ob,U1e,L4]
   have hr2:∀ f,M5 (Q4 o (1+0+oN s.Place (uPl s.Verb)) (max (max d 0) (oD s.Place (uPl s.Verb))) f (true&&true&&s.Place.all Y4) (true&&true&&s.Place.all I5)) (oN s.Value (uVa s.Verb)+(A0.nodess s.Args+(B0.ndss s.Then+B0.ndss s.Else+B0.ndss r))):=fun f=>M5.x (hr.less (by omega))
   have fin:∀ b:Bool,(bif uPl s.Verb then s.Place.place else true)=b→
     V7 l d (Q4 o (1+0+oN s.Place (uPl s.Verb)) (max (max d 0) (oD s.Place (uPl s.Verb))) (true&&(stU s.Verb).2&&oF s.Place (uPl s.Verb)&&b) (true&&true&&s.Place.all Y4) (true&&true&&s.Place.all I5)) s (stU s.Verb) k
      = some (Q4 o (B0.ndss (s::r)) (B0.dpss (s::r) d) (B0.alls V6 (s::r)) (B0.alls Ia (s::r)) (B0.alls Z8 (s::r))):=by
    rintro _ rfl
    rw [j2 _ (hr2 _),j3 _ (M5.x (hr2 _)),L4,L4]
    simp only [B0.ndss,B0.dpss,B0.alls,B0.nds_eq,B0.dps_eq,B0.all_eq,V6,Ia,Z8,stU,Bool.true_and,Bool.and_assoc,Nat.add_assoc,Nat.max_assoc,Nat.zero_add]
    congr 1
   cases hu:uPl s.Verb with
   | true=>
    rw [hu] at fin hr2
    rw [zp (show (stU s.Verb).1.place=true from hu),ob,O9 _ (hr2 _).dep,ob,L4]
    have:=fin s.Place.place rfl
    simpa using this
   | false=>
    rw [hu] at fin
    rw [zn (by rw [show (stU s.Verb).1.place=false from hu]; simp)]
    have:=fin true rfl
    rw [Bool.and_true] at this
    exact this
 rw [U3]
 exact main l 0 o rfl hr
def isK (k:Int):Bool:=bif decide (k≥0) then decide (k≤6) else false
def uV2 (k:Int):Bool:=bif k == 5 then true else k == 6
def tN (t:E0)(u:Bool):Nat:=bif (bif !u then Tr t else false) then 0 else t.nodes
def tD (t:E0)(u:Bool):Nat:=bif (bif !u then Tr t else false) then 0 else t.depth
theorem C1x (t:E0)(u:Bool):tN t u≤t.bulk:=by
 unfold tN
 have:=E0.nodes_bulk t
 cases (bif !u then Tr t else false) <;> simp <;> omega
def pOk (x:C0):Bool:=bif x.Kind == 4 then x.Init == 0 else false
def vOk (x:C0):Bool:=x.Kind == 4
def Wl (d:C0):Bool:=bif A2 d.Init (-1048576) 1048576 then (bif d.TypeV.Kind != 0 then true else A2 d.Init 0 1) else false
def Lm (d:C0):Bool:=bif (bif ((d.Params.length:Int) == 0) then ((d.Vars.length:Int) == 0) else false) then ((d.Body.length:Int) == 0) else false
def H6 (d:C0):Bool:=
 isK d.Kind&&d.TypeV.all Xa&&oF d.Value (uV2 d.Kind)&&(bif d.Kind == 4 then true else d.Init == 0)&&(bif d.Kind == 6 then true else Lm d)&&d.Params.all pOk&&d.Vars.all vOk&&B0.alls V6 d.Body
def Nb (d:C0):Bool:=d.TypeV.all Ci&&P3 d.Name&&d.Value.all Y4&&B0.alls Ia d.Body
def Qd (d:C0):Bool:=d.TypeV.all Rl&&d.Value.all I5&&Wl d&&B0.alls Z8 d.Body
mutual
def C0.nds:C0→Nat
 | .mk k nm t i v ps vs bd=>1+(tN t (isK k)+(oN v (uV2 k)+(C0.ndss ps+(C0.ndss vs+B0.ndss bd))))
def C0.ndss:List C0→Nat
 | []=>0
 | x::r=>C0.nds x+C0.ndss r
end
mutual
def C0.dps:C0→Nat
 | .mk k nm t i v ps vs bd=>max (tD t (isK k)) (max (oD v (uV2 k)) (max (C0.dpss ps) (max (C0.dpss vs) (B0.dpss bd 1))))
def C0.dpss:List C0→Nat
 | []=>0
 | x::r=>max (C0.dps x) (C0.dpss r)
end
mutual
def C0.all (p:C0→Bool):C0→Bool
 | .mk k nm t i v ps vs bd=>p (.mk k nm t i v ps vs bd)&&(C0.alls p ps&&C0.alls p vs)
def C0.alls (p:C0→Bool):List C0→Bool
 | []=>true
 | x::r=>C0.all p x&&C0.alls p r
end
theorem C0.nds_eq (d:C0):d.nds=1+(tN d.TypeV (isK d.Kind)+(oN d.Value (uV2 d.Kind)+(C0.ndss d.Params+(C0.ndss d.Vars+B0.ndss d.Body)))):=by cases d; simp only [C0.nds]
theorem C0.dps_eq (d:C0):d.dps=max (tD d.TypeV (isK d.Kind)) (max (oD d.Value (uV2 d.Kind)) (max (C0.dpss d.Params) (max (C0.dpss d.Vars) (B0.dpss d.Body 1)))):=by cases d; simp only [C0.dps]
theorem C0.all_eq (p:C0→Bool)(d:C0):d.all p=(p d&&(C0.alls p d.Params&&C0.alls p d.Vars)):=by cases d; simp only [C0.all]
theorem C0.ind {P:C0→Prop}(h:∀ d:C0,(∀ x∈d.Params,P x)→(∀ x∈d.Vars,P x)→P d):∀ d,P d:=by
 intro d
 refine C0.rec (motive_1:=P) (motive_2:=fun l=>∀ x∈l,P x) ?_ ?_ ?_ d
 ·intro k nm t i v ps vs bd i1 i2
  exact h _ i1 i2
 ·intro x hx; cases hx
 ·intro x r hx hr y hy
  cases hy with
  | head=>exact hx
  | tail _ hy=>exact hr y hy
theorem C0.inds {Q:List C0→Prop}(h:∀ l:List C0,(∀ x∈l,Q x.Params∧Q x.Vars)→Q l):∀ l,Q l:=by
 have key:∀ s:C0,Q s.Params∧Q s.Vars:=fun s=>by
  induction s using C0.ind with
  | h s i1 i2=>exact ⟨h _ i1,h _ i2⟩
 exact fun l=>h l fun x _=>key x
theorem C0.bulk_eq (d:C0):d.bulk=d.Name.length+d.TypeV.bulk+d.Value.bulk+C0.bulks d.Params+C0.bulks d.Vars+B0.bulks d.Body+7:=by cases d; simp only [C0.bulk]; omega
theorem C0.bulk_mem {s:C0}:∀ {l:List C0},s∈l→s.bulk≤C0.bulks l
 | x::r,h=>by
  simp only [C0.bulks]
  cases h with
  | head=>omega
  | tail _ h=>have:=C0.bulk_mem h; omega
theorem C0.bulk_len:∀ l:List C0,l.length≤C0.bulks l
 | []=>zqr _
 | x::r=>by
  simp only [C0.bulks,zqd]
  have:=C0.bulk_len r
  have:=C0.bulk_eq x
  omega
mutual
theorem C0.nds_bulk:∀ d:C0,d.nds≤d.bulk
 | .mk k nm t i v ps vs bd=>by
  have:=C1x t (isK k)
  have:=R1m v (uV2 k)
  have:=C0.ndss_bulk ps
  have:=C0.ndss_bulk vs
  have:=B0.ndss_bulk bd
  simp only [C0.nds,C0.bulk]; omega
theorem C0.ndss_bulk:∀ l:List C0,C0.ndss l≤C0.bulks l
 | []=>zqr _
 | x::r=>by
  have:=C0.nds_bulk x
  have:=C0.ndss_bulk r
  simp only [C0.ndss,C0.bulks]; omega
end
def OkD (l:List C0):Prop:=C0.bulks l≤BB
structure Q1v (d:C0):Prop where
 type:Ok d.TypeV
 value:OkE d.Value
 name:d.Name.length≤BB
 params:OkD d.Params
 vars:OkD d.Vars
 body:OkS d.Body
theorem OkD.mem {l:List C0}(h:OkD l){d:C0}(hd:d∈l):Q1v d:=by
 unfold OkD at h
 have h1:=C0.bulk_mem hd
 have h2:=C0.bulk_eq d
 refine ⟨?_,?_,?_,?_,?_,?_⟩ <;> first | (unfold OkE; omega) | (unfold OkS; omega) | (unfold OkD; omega) | (unfold Ok; omega) | omega
theorem OkD.len {l:List C0}(h:OkD l):l.length≤BB:=Nat.le_trans (C0.bulk_len l) h
theorem G1f:(E0.mk 0 0 0 0 [] [] []).all Ci=true∧(E0.mk 0 0 0 0 [] [] []).all Rl=true:=⟨rfl,rfl⟩
theorem N1d (c:List C0)(hc:c.length≤BB)(q:C0→Bool)(K:I0→Option I0)(F:I0→Int→Option I0)
  (hF:∀ (o:I0) (k:Int),F o k=if decide (k < (c.length:Int))=true then idx c k>>=fun x=>D1 (q x) o>>=fun y=>F y (IntKind.i64.wrap (k+1)) else K o) :
  ∀ (r:List C0) (k:Nat) (o:I0),c.drop k=r→0≤o.depth→F o (k:Int)=K (Q4 o 0 0 (r.all q) true true)
 | [],k,o,h,hr=>by
  rw [hF,(W1 h).1,zn (by simp),List.all_nil,Vl o hr]
 | x::r,k,o,h,hr=>by
  obtain ⟨e1,e2,e3,e4,e5⟩:=I2 h
  rw [hF,e1,zp rfl,e2,ob,O9 o hr,ob,w1 (by omega),N1d c hc q K F hF r (k+1) _ e3 (by rw [Sp]; omega),L4]
  rfl
theorem I1p (l:List C0):OkD l→∀ (o:I0),M5 o (C0.ndss l)→
  M6 l o=some (Q4 o (C0.ndss l) (C0.dpss l) (C0.alls H6 l) (C0.alls Nb l) (C0.alls Qd l)):=by
 induction l using C0.inds with
 | h l ih=>
 intro hl o hr
 have main:∀ (r:List C0) (k:Nat) (o:I0),l.drop k=r→M5 o (C0.ndss r)→X7 l o k=some (Q4 o (C0.ndss r) (C0.dpss r) (C0.alls H6 r) (C0.alls Nb r) (C0.alls Qd r)):=by
  intro r
  induction r with
  | nil=>
   intro k o h hr
   rw [X7,(W1 h).1,zn (by simp)]
   exact congrArg some (Vl o hr.dep).symm
  | cons d r ihr=>
   intro k o h hr
   obtain ⟨e1,e2,e3,e4,e5⟩:=I2 h
   have hs:=hl.mem e5
   have hlen:=hl.len
   obtain ⟨i1,i2⟩:=ih d e5
   simp only [C0.ndss,C0.nds_eq] at hr
   have hhi:=hr.high
   have hbB:B0.bulks d.Body≤BB:=hs.body
   have hlow:=hr.low
   unfold BB at hhi
   have l4:=N1d d.Vars hs.vars.len vOk _ (fun o k'=>Ib l o d k k') (fun o k'=>Ib.eq_1 l o d k k') d.Vars 0
   have l3:=N1d d.Params hs.params.len pOk _ (fun o k'=>Y7 l o d k k') (fun o k'=>Y7.eq_1 l o d k k') d.Params 0
   rw [show ((0:Nat):Int)=0 from rfl] at l4 l3
   have tail:∀ o:I0,M5 o (C0.ndss d.Params+(C0.ndss d.Vars+(B0.ndss d.Body+C0.ndss r)))→
     Y7 l o d k 0=some (Q4 o (C0.ndss d.Params+(C0.ndss d.Vars+(B0.ndss d.Body+C0.ndss r))) (max (C0.dpss d.Params) (max (C0.dpss d.Vars) (max (B0.dpss d.Body 1) (C0.dpss r))))
      (d.Params.all pOk&&(d.Vars.all vOk&&(C0.alls H6 d.Params&&(C0.alls H6 d.Vars&&(B0.alls V6 d.Body&&C0.alls H6 r)))))
      (C0.alls Nb d.Params&&(C0.alls Nb d.Vars&&(B0.alls Ia d.Body&&C0.alls Nb r)))
      (C0.alls Qd d.Params&&(C0.alls Qd d.Vars&&(B0.alls Z8 d.Body&&C0.alls Qd r)))):=by
    intro o hr
    have q1:=hr.x0 (m:=0) (f:=d.Params.all pOk) (a:=true) (u:=true)
    have q2:=q1.x0 (m:=0) (f:=d.Vars.all vOk) (a:=true) (u:=true)
    rw [l3 o rfl hr.dep,l4 _ rfl q1.dep,i1 hs.params _ (q2.less (by omega)),ob,i2 hs.vars _ (M5.x (q2.less (by omega))),ob,
     show (1:Int)=((1:Nat):Int) from rfl,F1f d.Body hs.body 1 _ (by unfold BB at *; omega) (M5.x (M5.x (q2.less (by omega)))),ob,show ((k:Int)+((1:Nat):Int))=(k:Int)+1 from rfl,w1 (by omega),ihr (k+1) _ e3 (M5.x (M5.x (M5.x (q2.less (by omega)))))]
    simp only [L4,Bool.true_and,Bool.and_assoc,Nat.zero_add,Nat.zero_max,Nat.add_assoc,Nat.max_assoc]
   have hin:(if ((A2 d.Init (-1048576) 1048576)&&(!(d.TypeV.Kind != 0)))=true then B4 d.Init 0 1 else some default)=some (bif (A2 d.Init (-1048576) 1048576)&&(!(d.TypeV.Kind != 0)) then A2 d.Init 0 1 else default):=by
    rw [Yj]
    cases ((A2 d.Init (-1048576) 1048576)&&(!(d.TypeV.Kind != 0))) <;> rfl
   have j2:∀ (x2:Bool×Bool) (o:I0),x2=(isK d.Kind,uV2 d.Kind)→M5 o (oN d.Value (uV2 d.Kind)+(C0.ndss d.Params+(C0.ndss d.Vars+(B0.ndss d.Body+C0.ndss r))))→
     Hb l o d x2 k=some (Q4 o (oN d.Value (uV2 d.Kind)+(C0.ndss d.Params+(C0.ndss d.Vars+(B0.ndss d.Body+C0.ndss r)))) (max (oD d.Value (uV2 d.Kind)) (max (C0.dpss d.Params) (max (C0.dpss d.Vars) (max (B0.dpss d.Body 1) (C0.dpss r)))))
      (oF d.Value (uV2 d.Kind)&&((bif d.Kind == 4 then true else d.Init == 0)&&((bif d.Kind == 6 then true else Lm d)&&(d.Params.all pOk&&(d.Vars.all vOk&&(C0.alls H6 d.Params&&(C0.alls H6 d.Vars&&(B0.alls V6 d.Body&&C0.alls H6 r))))))))
      (P3 d.Name&&(d.Value.all Y4&&(C0.alls Nb d.Params&&(C0.alls Nb d.Vars&&(B0.alls Ia d.Body&&C0.alls Nb r)))))
      (d.Value.all I5&&(Wl d&&(C0.alls Qd d.Params&&(C0.alls Qd d.Vars&&(B0.alls Z8 d.Body&&C0.alls Qd r)))))):=by
    rintro _ o rfl hr
    have q1:=hr.x0 (m:=0) (f:=true) (a:=P3 d.Name) (u:=true)
    have q2:=M5.x (m:=oD d.Value (uV2 d.Kind)) (f:=oF d.Value (uV2 d.Kind)) (a:=d.Value.all Y4) (u:=d.Value.all I5) q1
    have hio:(bif A2 d.Init (-1048576) 1048576 then (bif (d.TypeV.Kind != 0) then true else (bif (A2 d.Init (-1048576) 1048576)&&(!(d.TypeV.Kind != 0)) then A2 d.Init 0 1 else default)) else false)=Wl d:=by
     unfold Wl
     cases A2 d.Init (-1048576) 1048576 <;> cases (d.TypeV.Kind != 0) <;> rfl
    rw [Hb,D1f o hr.dep d.Name hs.name,ob,E1a d.Value (uV2 d.Kind) hs.value _ (q1.less (by omega)),ob,O9 _ q2.dep,ob,Yj,ob,hin,ob,hio,Dg _ (q2.x0).dep,ob,O9 _ (q2.x0.x0).dep,ob,tail _ (q2.x0.x0.x0)]
    simp only [L4,Bool.true_and,Bool.and_true,Bool.and_assoc,Nat.zero_add,Nat.add_zero,Nat.zero_max,Nat.max_zero,Nat.add_assoc,Nat.max_assoc,Lm]
   have hwn:(I0.mk (IntKind.i64.wrap (o.nodes+1)) o.depth o.badForm o.badName o.badNumber)=Q4 o 1 0 true true true:=by
    rw [wr (by omega) (by omega)]
    simp only [Q4,zqf,Bool.or_false]
    have:=hr.dep
    rw [show max o.depth ((0:Nat):Int)=o.depth by omega]
    rfl
   have q1:M5 (Q4 o 1 0 true true true) (tN d.TypeV (isK d.Kind)+(oN d.Value (uV2 d.Kind)+(C0.ndss d.Params+(C0.ndss d.Vars+(B0.ndss d.Body+C0.ndss r))))):=M5.x (hr.less (by omega))
   have q2:=q1.x0 (m:=0) (f:=isK d.Kind) (a:=true) (u:=true)
   rw [X7,e1,zp rfl,e2,ob,show Bl d.Kind=some (isK d.Kind,uV2 d.Kind) from rfl,ob]
   show (D1 (isK d.Kind) _>>=_)=_
   rw [hwn,O9 _ q1.dep,ob,P1m d.TypeV hs.type]
   show ((if (!(isK d.Kind))=true then some (Tr d.TypeV) else some default)>>=_)=_
   cases hk:isK d.Kind with
   | true=>
    rw [hk] at q2
    have q3:=q2
    unfold tN at q3
    simp only [zqf,zql] at q3
    rw [zn (by simp),ob]
    rw [zp (show (bif (true,uV2 d.Kind).1 then true else !default)=true from rfl),I1i d.TypeV hs.type _ (q3.less (by omega)),ob,j2 _ _ (by rw [hk]) (M5.x q3)]
    simp only [L4,C0.ndss,C0.dpss,C0.alls,C0.nds_eq,C0.dps_eq,C0.all_eq,H6,Nb,Qd,hk,tN,tD,zqf,zql,Bool.true_and,Bool.and_assoc,Nat.add_assoc,Nat.max_assoc,Nat.zero_max,Nat.zero_add]
    congr 1
    simp only [Q4]
    congr 1
    all_goals first
     | (congr 1; congr 1; ac_rfl)
     | (congr 1; congr 1)
     | skip
   | false=>
    rw [hk] at q2
    rw [zp (show (!false)=true from rfl),ob]
    show (if (!(Tr d.TypeV))=true then _ else _)=_
    cases hz:Tr d.TypeV with
    | true=>
     unfold tN at q2
     rw [hz] at q2
     simp only [zqg,zqk,Nat.zero_add] at q2
     rw [zn (by simp),j2 _ _ (by rw [hk]) q2]
     have hzt:=F1s hz
     simp only [L4,C0.ndss,C0.dpss,C0.alls,C0.nds_eq,C0.dps_eq,C0.all_eq,H6,Nb,Qd,hk,tN,tD,hz,zqg,zqk,Bool.true_and,Bool.false_and,Bool.and_assoc,Nat.add_assoc,Nat.max_assoc,Nat.zero_max,Nat.zero_add]
     rw [hzt,G1f.1,G1f.2]
     simp only [Bool.true_and]
     congr 1
     simp only [Q4]
     congr 1
     all_goals first
      | (congr 1; congr 1; ac_rfl)
      | (congr 1; congr 1)
      | skip
    | false=>
     have q3:=q2
     unfold tN at q3
     rw [hz] at q3
     simp only [zqg,zql,zqk] at q3
     rw [zp (by simp),I1i d.TypeV hs.type _ (q3.less (by omega)),ob,j2 _ _ (by rw [hk]) (M5.x q3)]
     simp only [L4,C0.ndss,C0.dpss,C0.alls,C0.nds_eq,C0.dps_eq,C0.all_eq,H6,Nb,Qd,hk,tN,tD,hz,zqg,zqk,zql,Bool.true_and,Bool.false_and,Bool.and_assoc,Nat.add_assoc,Nat.max_assoc,Nat.zero_max,Nat.zero_add]
     congr 1
     simp only [Q4]
     congr 1
     all_goals first
      | (congr 1; congr 1; ac_rfl)
      | (congr 1; congr 1)
      | skip
 rw [M6]
 exact main l 0 o rfl hr
structure OkP (p:O0):Prop where
 decls:OkD p.Decls
 body:OkS p.Body
def X10 (p:O0):Nat:=C0.ndss p.Decls+B0.ndss p.Body
def Y10 (p:O0):Nat:=max (C0.dpss p.Decls) (B0.dpss p.Body 1)
def Wf (p:O0):Int:=
 Fh (X10 p) (Y10 p) (!(C0.alls H6 p.Decls&&B0.alls V6 p.Body)) (!(C0.alls Nb p.Decls&&B0.alls Ia p.Body)) (!(C0.alls Qd p.Decls&&B0.alls Z8 p.Body))
theorem S1m (p:O0)(h:OkP p):Vi p=some (Q4 ⟨0,0,false,false,false⟩ (X10 p) (Y10 p) (C0.alls H6 p.Decls&&B0.alls V6 p.Body) (C0.alls Nb p.Decls&&B0.alls Ia p.Body) (C0.alls Qd p.Decls&&B0.alls Z8 p.Body)):=by
 have h1:=C0.ndss_bulk p.Decls
 have h2:=B0.ndss_bulk p.Body
 have h3:C0.bulks p.Decls≤BB:=h.decls
 have h4:B0.bulks p.Body≤BB:=h.body
 have hr:M5 ⟨0,0,false,false,false⟩ (C0.ndss p.Decls+B0.ndss p.Body):=⟨Int.le_refl _,Int.le_refl _,by simp only; omega⟩
 unfold Vi
 rw [I1p p.Decls h.decls _ (hr.less (by omega)),ob,show (1:Int)=((1:Nat):Int) from rfl,F1f p.Body h.body 1 _ (by unfold BB at *; omega) (M5.x hr),ob,L4]
 rfl
theorem J1p (n m:Nat)(f a u:Bool):D9 (Q4 ⟨0,0,false,false,false⟩ n m f a u)=some (Fh n m (!f) (!a) (!u)):=by
 rw [X1h]
 simp only [Q4,Bool.false_or]
 rw [show (0:Int)+(n:Int)=n by omega,show max (0:Int) (m:Int)=m by omega]
theorem G1s (p:O0)(h:OkP p):Ml p=some (Wf p):=by
 unfold Ml
 rw [S1m p h,ob,J1p,ob]
 rfl
theorem ifs {b c:Bool}{X:Option Bool}{y:Bool}(h:b = !c)(hx:X=some y):(if b=true then some false else X)=some (c&&y):=by
 subst h
 rw [hx]
 cases c <;> rfl
theorem ifd (c a:Bool):(if c=true then some a else some default)=some (bif c then a else default):=by cases c <;> rfl
theorem rUP (v:Int):Gf v=some (uPl v):=rfl
theorem rUV (v:Int):Jf v=some (uVa v):=rfl
theorem rUN (v:Int):Aj v=some (uNm v):=rfl
theorem E1y (v:Int):Rr v=some (uNn v):=rfl
theorem rUT (v:Int):Jm v=some (uTh v):=rfl
theorem rDT (k:Int):Zi k=some (isK k):=rfl
theorem rDV (k:Int):Ff k=some (uV2 k):=rfl
def szX (s:R0)(n m:Nat):R0:=⟨s.nodes+n,max s.depth m⟩
theorem Iy (s:R0)(n m n' m':Nat):szX (szX s n m) n' m'=szX s (n+n') (max m m'):=by
 simp only [szX]
 rw [show s.nodes+(n:Int)+(n':Int)=s.nodes+((n+n':Nat):Int) by omega,show max (max s.depth (m:Int)) (m':Int)=max s.depth ((max m m':Nat):Int) by omega]
structure R7 (s:R0)(n:Nat):Prop where
 dep:0≤s.depth
 low:0≤s.nodes
 high:s.nodes+n≤3 * BB
theorem R7.x {s:R0}{n k m:Nat}(h:R7 s (k+n)):R7 (szX s k m) n:=by
 obtain ⟨h1,h2,h3⟩:=h
 refine ⟨?_,?_,?_⟩ <;> simp only [szX] <;> omega
theorem R7.less {s:R0}{n k:Nat}(h:R7 s n)(hk:k≤n):R7 s k:=⟨h.dep,h.low,by have:=h.high; omega⟩
theorem Vw (s:R0)(h:0≤s.depth):szX s 0 0=s:=by
 simp only [szX]
 rw [show s.nodes+((0:Nat):Int)=s.nodes by omega,show max s.depth ((0:Nat):Int)=s.depth by omega]
theorem X12 (s:R0)(e:A0)(u:Bool)(h:OkE e)(hr:R7 s (oN e u)):Mb s e u=some (szX s (oN e u) (oD e u)):=by
 have hn:=h.nodes
 have hh:=hr.high
 have hl:=hr.low
 unfold Mb
 rw [Hy e h,ifd,ob,L1m e h,M1m e h]
 unfold oN oD at *
 cases u with
 | true=>
  simp only [zqf,zql] at *
  unfold BB at hh hn
  rw [zn (by simp),ob,ob,It,ob,wr (n:=s.nodes+(e.nodes:Int)) (by omega) (by omega)]
  rfl
 | false=>
  simp only [zqg,zqk] at *
  cases hz:Ah e with
  | true=>rw [zp rfl]; exact congrArg some (Vw s hr.dep).symm
  | false=>
   rw [hz] at hh
   simp only [zql] at hh
   unfold BB at hh hn
   rw [zn (by simp),ob,ob,It,ob,wr (n:=s.nodes+(e.nodes:Int)) (by omega) (by omega)]
   rfl
theorem H1s (s:R0)(t:E0)(u:Bool)(h:Ok t)(hr:R7 s (tN t u)):Hk s t u=some (szX s (tN t u) (tD t u)):=by
 have hn:=h.nodes
 have hh:=hr.high
 have hl:=hr.low
 unfold Hk
 rw [F1p t h,ifd,ob,W1o t h,X1o t h]
 unfold tN tD at *
 cases u with
 | true=>
  simp only [zqf,zql] at *
  unfold BB at hh hn
  rw [zn (by simp),ob,ob,It,ob,wr (n:=s.nodes+(t.nodes:Int)) (by omega) (by omega)]
  rfl
 | false=>
  simp only [zqg,zqk] at *
  cases hz:Tr t with
  | true=>rw [zp rfl]; exact congrArg some (Vw s hr.dep).symm
  | false=>
   rw [hz] at hh
   simp only [zql] at hh
   unfold BB at hh hn
   rw [zn (by simp),ob,ob,It,ob,wr (n:=s.nodes+(t.nodes:Int)) (by omega) (by omega)]
   rfl
theorem R1v (s:R0)(hr:R7 s 1)(d:Nat):C8 ⟨IntKind.i64.wrap (s.nodes+1),s.depth⟩ (d:Int)=some (szX s 1 d):=by
 have hh:=hr.high
 have hl:=hr.low
 unfold BB at hh
 rw [It,wr (n:=s.nodes+1) (by omega) (by omega)]
 rfl
theorem O1d (e:A0):oN e true=e.nodes∧oD e true=e.depth:=⟨rfl,rfl⟩
theorem H1f (s:B0)(hs:Gz s)(K:R0→Option R0)(F:R0→Int→Option R0)
  (hF:∀ (o:R0) (k:Int),F o k=if decide (k < (s.Args.length:Int))=true then idx s.Args k>>=fun x=>Mb o x true>>=fun y=>F y (IntKind.i64.wrap (k+1)) else K o) :
  ∀ (r:List A0) (k:Nat) (o:R0),s.Args.drop k=r→R7 o (A0.nodess r)→F o (k:Int)=K (szX o (A0.nodess r) (A0.depths r))
 | [],k,o,h,hr=>by
  rw [hF,(W1 h).1,zn (by simp)]
  simp only [A0.nodess,A0.depths]
  rw [Vw o hr.dep]
 | x::r,k,o,h,hr=>by
  obtain ⟨e1,e2,e3,e4,e5⟩:=I2 h
  have:=hs.args
  simp only [A0.nodess] at hr
  rw [hF,e1,zp rfl,e2,ob,X12 o x true (hs.arg x e5) (hr.less (by rw [(O1d x).1]; omega)),ob,(O1d x).1,(O1d x).2,w1 (by omega),H1f s hs K F hF r (k+1) _ e3 hr.x,Iy]
  rfl
theorem Q16 (l:List B0):OkS l→∀ (d:Nat) (o:R0),d+B0.bulks l≤3 * BB→R7 o (B0.ndss l)→Ga o l d=some (szX o (B0.ndss l) (B0.dpss l d)):=by
 induction l using B0.inds with
 | h l ih=>
 intro hl d o hd hr
 have main:∀ (r:List B0) (k:Nat) (o:R0),l.drop k=r→R7 o (B0.ndss r)→Ld l d o k=some (szX o (B0.ndss r) (B0.dpss r d)):=by
  intro r
  induction r with
  | nil=>
   intro k o h hr
   rw [Ld,(W1 h).1,zn (by simp)]
   exact congrArg some (Vw o hr.dep).symm
  | cons s r ihr=>
   intro k o h hr
   obtain ⟨e1,e2,e3,e4,e5⟩:=I2 h
   have hs:=hl.mem e5
   have hlen:=hl.len
   obtain ⟨i1,i2⟩:=ih s e5
   have hbm:=B0.bulk_mem e5
   have hbe:=B0.bulk_eq s
   simp only [B0.ndss,B0.nds_eq] at hr
   unfold BB at hd
   have hwd:IntKind.i64.wrap ((d:Int)+1)=((d+1:Nat):Int):=by rw [wr (by omega) (by omega)]; rfl
   have args:=H1f s hs _ (fun o k'=>Sf l d o s k k') (fun o k'=>Sf.eq_1 l d o s k k') s.Args 0
   rw [show ((0:Nat):Int)=0 from rfl] at args
   have q1:R7 (szX o 1 d) (oN s.Place (uPl s.Verb)+(oN s.Value (uVa s.Verb)+(A0.nodess s.Args+(B0.ndss s.Then+(B0.ndss s.Else+B0.ndss r))))):=R7.x (hr.less (by omega))
   have q2:=R7.x (m:=oD s.Place (uPl s.Verb)) q1
   have q3:=R7.x (m:=oD s.Value (uVa s.Verb)) q2
   have q4:=R7.x (m:=A0.depths s.Args) q3
   have q5:=R7.x (m:=B0.dpss s.Then (d+1)) q4
   have q6:=R7.x (m:=B0.dpss s.Else (d+1)) q5
   rw [Ld,e1,zp rfl,e2,ob,R1v o (hr.less (by omega)) d,ob,rUP,ob,X12 _ s.Place _ hs.place (q1.less (by omega)),ob,rUV,ob,X12 _ s.Value _ hs.value (q2.less (by omega)),ob,
    args _ rfl (q3.less (by omega)),hwd,i1 hs.thens (d+1) _ (by unfold BB; omega) (q4.less (by omega)),ob,i2 hs.elses (d+1) _ (by unfold BB; omega) (q5.less (by omega)),ob,w1 (by omega),ihr (k+1) _ e3 q6]
   simp only [Iy,B0.ndss,B0.dpss,B0.nds_eq,B0.dps_eq,Nat.add_assoc,Nat.max_assoc]
 rw [Ga]
 exact main l 0 o rfl hr
theorem K1i (l:List C0):OkD l→∀ (o:R0),R7 o (C0.ndss l)→Mc o l=some (szX o (C0.ndss l) (C0.dpss l)):=by
 induction l using C0.inds with
 | h l ih=>
 intro hl o hr
 have main:∀ (r:List C0) (k:Nat) (o:R0),l.drop k=r→R7 o (C0.ndss r)→Md l o k=some (szX o (C0.ndss r) (C0.dpss r)):=by
  intro r
  induction r with
  | nil=>
   intro k o h hr
   rw [Md,(W1 h).1,zn (by simp)]
   exact congrArg some (Vw o hr.dep).symm
  | cons s r ihr=>
   intro k o h hr
   obtain ⟨e1,e2,e3,e4,e5⟩:=I2 h
   have hs:=hl.mem e5
   have hlen:=hl.len
   obtain ⟨i1,i2⟩:=ih s e5
   have hbB:B0.bulks s.Body≤BB:=hs.body
   simp only [C0.ndss,C0.nds_eq] at hr
   have hh:=hr.high
   have hlo:=hr.low
   have hw:(R0.mk (IntKind.i64.wrap (o.nodes+1)) o.depth)=szX o 1 0:=by
    unfold BB at hh
    rw [wr (by omega) (by omega)]
    have:=hr.dep
    simp only [szX]
    rw [show max o.depth ((0:Nat):Int)=o.depth by omega]
    rfl
   have q1:R7 (szX o 1 0) (tN s.TypeV (isK s.Kind)+(oN s.Value (uV2 s.Kind)+(C0.ndss s.Params+(C0.ndss s.Vars+(B0.ndss s.Body+C0.ndss r))))):=R7.x (hr.less (by omega))
   have q2:=R7.x (m:=tD s.TypeV (isK s.Kind)) q1
   have q3:=R7.x (m:=oD s.Value (uV2 s.Kind)) q2
   have q4:=R7.x (m:=C0.dpss s.Params) q3
   have q5:=R7.x (m:=C0.dpss s.Vars) q4
   have q6:=R7.x (m:=B0.dpss s.Body 1) q5
   rw [Md,e1,zp rfl,e2,ob,rDT,ob,hw,H1s _ s.TypeV _ hs.type (q1.less (by omega)),ob,rDV,ob,X12 _ s.Value _ hs.value (q2.less (by omega)),ob,i1 hs.params _ (q3.less (by omega)),ob,i2 hs.vars _ (q4.less (by omega)),ob,
    show (1:Int)=((1:Nat):Int) from rfl,Q16 s.Body hs.body 1 _ (by unfold BB at *; omega) (q5.less (by omega)),ob,show ((k:Int)+((1:Nat):Int))=(k:Int)+1 from rfl,w1 (by omega),ihr (k+1) _ e3 q6]
   simp only [Iy,C0.ndss,C0.dpss,C0.nds_eq,C0.dps_eq,Nat.add_assoc,Nat.max_assoc,Nat.zero_max]
 rw [Mc]
 exact main l 0 o rfl hr
theorem T1m (s:B0)(hs:Gz s)(p:A0→Bool)(g:A0→Option Bool)(hg:∀ x∈s.Args,g x=some (x.all p))(K:Option Bool)(F:Int→Option Bool)(y:Bool)(hK:K=some y)
  (hF:∀ k:Int,F k=if decide (k < (s.Args.length:Int))=true then idx s.Args k>>=fun x=>g x>>=fun b=>if (!b)=true then some false else F (IntKind.i64.wrap (k+1)) else K) :
  ∀ (r:List A0) (k:Nat),s.Args.drop k=r→F (k:Int)=some (A0.alls p r&&y)
 | [],k,h=>by rw [hF,(W1 h).1,zn (by simp),hK]; rfl
 | x::r,k,h=>by
  obtain ⟨e1,e2,e3,e4,e5⟩:=I2 h
  have:=hs.args
  rw [hF,e1,zp rfl,e2,ob,hg x e5,ob,w1 (by omega),T1m s hs p g hg K F y hK hF r (k+1) e3,A0.alls]
  cases x.all p <;> simp
theorem P13 (l:List B0):OkS l→N8 l=some (B0.alls V6 l):=by
 induction l using B0.inds with
 | h l ih=>
 intro hl
 have main:∀ (r:List B0) (k:Nat),l.drop k=r→Nc l k=some (B0.alls V6 r):=by
  intro r
  induction r with
  | nil=>intro k h; rw [Nc,(W1 h).1,zn (by simp)]; rfl
  | cons s r ihr=>
   intro k h
   obtain ⟨e1,e2,e3,e4,e5⟩:=I2 h
   have hs:=hl.mem e5
   have hlen:=hl.len
   obtain ⟨i1,i2⟩:=ih s e5
   have l2:=T1m s hs A4 X5 (fun x hx=>Gy x (hs.arg x hx)) _ (fun k'=>We l s k k') (B0.alls V6 s.Then&&B0.alls V6 s.Else&&B0.alls V6 r)
    (by
     rw [i1 hs.thens,ob,i2 hs.elses,ifd,ob,w1 (by omega),ihr (k+1) e3]
     cases B0.alls V6 s.Then <;> cases B0.alls V6 s.Else <;> simp)
    (fun k'=>We.eq_1 l s k k') s.Args 0 rfl
   rw [show ((0:Nat):Int)=0 from rfl] at l2
   rw [Nc,e1,zp rfl,e2,ob]
   simp only [rUP,rUV,rUN,E1y,rUT,V1e,Gy _ hs.place,Gy _ hs.value,Hy _ hs.place,Hy _ hs.value,ifd,ob]
   have:=ifs (b:=bif decide (s.Verb < 0) then true else decide (s.Verb > 8)) (c:=okV s.Verb) (by unfold okV; rw [Bool.not_not])
    (ifs (c:=oF s.Place (uPl s.Verb)&&(bif uPl s.Verb then s.Place.place else true)) (b:=bif (bif uPl s.Verb then (bif (!(bif uPl s.Verb then s.Place.place else default)) then true else (!(bif (uPl s.Verb&&(!(!(bif uPl s.Verb then s.Place.place else default)))) then s.Place.all A4 else default))) else false) then true else (bif (!(bif (!(bif uPl s.Verb then (bif (!(bif uPl s.Verb then s.Place.place else default)) then true else (!(bif (uPl s.Verb&&(!(!(bif uPl s.Verb then s.Place.place else default)))) then s.Place.all A4 else default))) else false)) then uPl s.Verb else default)) then (!(bif ((!(bif uPl s.Verb then (bif (!(bif uPl s.Verb then s.Place.place else default)) then true else (!(bif (uPl s.Verb&&(!(!(bif uPl s.Verb then s.Place.place else default)))) then s.Place.all A4 else default))) else false))&&(!(bif (!(bif uPl s.Verb then (bif (!(bif uPl s.Verb then s.Place.place else default)) then true else (!(bif (uPl s.Verb&&(!(!(bif uPl s.Verb then s.Place.place else default)))) then s.Place.all A4 else default))) else false)) then uPl s.Verb else default))) then Ah s.Place else default)) else false))
     (by unfold oF; cases uPl s.Verb <;> cases s.Place.place <;> cases s.Place.all A4 <;> cases Ah s.Place <;> rfl)
    (ifs (c:=oF s.Value (uVa s.Verb)) (b:=bif (bif uVa s.Verb then (!(bif uVa s.Verb then s.Value.all A4 else default)) else false) then true else (bif (!(bif (!(bif uVa s.Verb then (!(bif uVa s.Verb then s.Value.all A4 else default)) else false)) then uVa s.Verb else default)) then (!(bif ((!(bif uVa s.Verb then (!(bif uVa s.Verb then s.Value.all A4 else default)) else false))&&(!(bif (!(bif uVa s.Verb then (!(bif uVa s.Verb then s.Value.all A4 else default)) else false)) then uVa s.Verb else default))) then Ah s.Value else default)) else false))
     (by unfold oF; cases uVa s.Verb <;> cases s.Value.all A4 <;> cases Ah s.Value <;> rfl)
    (ifs (c:=(bif uNm s.Verb then true else s.Name == [])&&(bif s.Verb == 1 then true else ((s.Args.length:Int) == 0))&&(bif uNn s.Verb then true else s.NV == 0)&&(bif s.Verb == 7 then true else (bif s.Low == 0 then s.High == 0 else false))&&(bif s.Verb == 8 then true else ((s.Numbers.length:Int) == 0)))
     (b:=bif (bif (bif (bif (bif (!(uNm s.Verb)) then (!(s.Name == [])) else false) then true else (bif (s.Verb != 1) then (((s.Args).length:Int) != 0) else false)) then true else (bif (!(bif (!(bif (bif (!(uNm s.Verb)) then (!(s.Name == [])) else false) then true else (bif (s.Verb != 1) then (((s.Args).length:Int) != 0) else false))) then uNn s.Verb else default)) then (s.NV != 0) else false)) then true else (bif (s.Verb != 7) then (bif (s.Low != 0) then true else (s.High != 0)) else false)) then true else (bif (s.Verb != 8) then (((s.Numbers).length:Int) != 0) else false))
     (by
      unfold bne
      generalize (s.Verb == 1)=a1; generalize (s.Verb == 7)=a2; generalize (s.Verb == 8)=a3; generalize (s.Name == [])=a4; generalize ((s.Args.length:Int) == 0)=a5; generalize (s.NV == 0)=a6; generalize (s.Low == 0)=a7; generalize (s.High == 0)=a8
      generalize ((s.Numbers.length:Int) == 0)=a9; generalize uNm s.Verb=b1; generalize uNn s.Verb=b2
      cases b1 <;> cases a4 <;> cases a1 <;> cases a5 <;> cases b2 <;> cases a6 <;> first | rfl | (cases a2 <;> cases a7 <;> cases a8 <;> cases a3 <;> cases a9 <;> rfl))
    (ifs (c:=(bif uTh s.Verb then true else ((s.Then.length:Int) == 0))&&(bif s.Verb == 5 then true else ((s.Else.length:Int) == 0))) (b:=bif (bif (!(uTh s.Verb)) then (((s.Then).length:Int) != 0) else false) then true else (bif (s.Verb != 5) then (((s.Else).length:Int) != 0) else false))
     (by
      unfold bne
      generalize (s.Verb == 5)=a1; generalize ((s.Then.length:Int) == 0)=a2; generalize ((s.Else.length:Int) == 0)=a3
      generalize uTh s.Verb=a0
      cases a0 <;> cases a1 <;> cases a2 <;> cases a3 <;> rfl) l2))))
   refine this.trans ?_
   simp only [B0.alls,B0.all_eq,V6,Bool.and_assoc]
   congr 1
   generalize A0.alls A4 s.Args=x
   generalize (bif s.Verb == 1 then true else ((s.Args.length:Int) == 0))=y
   ac_rfl
 rw [N8]
 exact main l 0 rfl
theorem L1i (c:List C0)(hc:c.length≤BB)(q:C0→Bool)(K:Option Bool)(F:Int→Option Bool)(y:Bool)(hK:K=some y)
  (hF:∀ (r:List C0) (k:Nat) (x:C0),c.drop k=x::r→F (k:Int)=if q x=true then F (IntKind.i64.wrap ((k:Int)+1)) else some false) (hE:∀ k:Nat,c.drop k=[]→F (k:Int)=K) :
  ∀ (r:List C0) (k:Nat),c.drop k=r→F (k:Int)=some (r.all q&&y)
 | [],k,h=>by rw [hE k h,hK]; rfl
 | x::r,k,h=>by
  obtain ⟨e1,e2,e3,e4,e5⟩:=I2 h
  rw [hF r k x h,w1 (by omega),L1i c hc q K F y hK hF hE r (k+1) e3,List.all_cons]
  cases q x <;> simp
theorem V1f (l:List C0):OkD l→Va l=some (C0.alls H6 l):=by
 induction l using C0.inds with
 | h l ih=>
 intro hl
 have main:∀ (r:List C0) (k:Nat),l.drop k=r→Oc l k=some (C0.alls H6 r):=by
  intro r
  induction r with
  | nil=>intro k h; rw [Oc,(W1 h).1,zn (by simp)]; rfl
  | cons d r ihr=>
   intro k h
   obtain ⟨e1,e2,e3,e4,e5⟩:=I2 h
   have hs:=hl.mem e5
   have hlen:=hl.len
   obtain ⟨i1,i2⟩:=ih d e5
   have l3:=L1i d.Vars hs.vars.len vOk _ (fun k'=>B7 l d k k') (C0.alls H6 d.Params&&C0.alls H6 d.Vars&&B0.alls V6 d.Body&&C0.alls H6 r) rfl
    (fun r' k' x hx=>by
     obtain ⟨f1,f2,f3,f4,f5⟩:=I2 hx
     show B7 l d k k'=_
     rw [B7,f1,zp rfl,f2,ob]
     unfold vOk bne
     cases (x.Kind == 4) <;> rfl)
    (fun k' hx=>by
     show B7 l d k k'=_
     rw [B7,(W1 hx).1,zn (by simp),i1 hs.params,ob,i2 hs.vars,ifd,ob,P13 d.Body hs.body,ifd,ob,w1 (by omega),ihr (k+1) e3]
     cases C0.alls H6 d.Params <;> cases C0.alls H6 d.Vars <;> cases B0.alls V6 d.Body <;> simp) d.Vars 0 rfl
   have l2:=L1i d.Params hs.params.len pOk _ (fun k'=>A7 l d k k') (d.Vars.all vOk&&(C0.alls H6 d.Params&&C0.alls H6 d.Vars&&B0.alls V6 d.Body&&C0.alls H6 r)) rfl
    (fun r' k' x hx=>by
     obtain ⟨f1,f2,f3,f4,f5⟩:=I2 hx
     show A7 l d k k'=_
     rw [A7,f1,zp rfl,f2,ob]
     unfold pOk bne
     cases (x.Kind == 4)
     ·rfl
     ·simp only [zqf,zqg,zt,ob,zqk,zql]
      cases (x.Init == 0) <;> rfl)
    (fun k' hx=>by
     show A7 l d k k'=_
     rw [A7,(W1 hx).1,zn (by simp)]
     exact l3) d.Params 0 rfl
   rw [show ((0:Nat):Int)=0 from rfl] at l2
   rw [Oc,e1,zp rfl,e2,ob]
   simp only [rDT,rDV,W1r _ hs.type,Gy _ hs.value,Hy _ hs.value,ifd,ob]
   have:=ifs (b:=bif (!(isK d.Kind)) then true else (!(bif (!(!(isK d.Kind))) then d.TypeV.all Xa else default))) (c:=isK d.Kind&&d.TypeV.all Xa) (by cases isK d.Kind <;> cases d.TypeV.all Xa <;> rfl)
    (ifs (c:=oF d.Value (uV2 d.Kind)&&(bif d.Kind == 4 then true else d.Init == 0)) (b:=bif (bif (bif uV2 d.Kind then (!(bif uV2 d.Kind then d.Value.all A4 else default)) else false) then true else (bif (!(bif (!(bif uV2 d.Kind then (!(bif uV2 d.Kind then d.Value.all A4 else default)) else false)) then uV2 d.Kind else default)) then (!(bif ((!(bif uV2 d.Kind then (!(bif uV2 d.Kind then d.Value.all A4 else default)) else false))&&(!(bif (!(bif uV2 d.Kind then (!(bif uV2 d.Kind then d.Value.all A4 else default)) else false)) then uV2 d.Kind else default))) then Ah d.Value else default)) else false)) then true else (bif (d.Kind != 4) then (d.Init != 0) else false))
     (by
      unfold oF bne
      generalize (d.Kind == 4)=a1
      generalize (d.Init == 0)=a2
      generalize uV2 d.Kind=a3
      cases a3 <;> cases d.Value.all A4 <;> cases Ah d.Value <;> cases a1 <;> cases a2 <;> rfl)
    (ifs (c:=bif d.Kind == 6 then true else Lm d) (b:=bif (d.Kind != 6) then (bif (bif (((d.Params).length:Int) != 0) then true else (((d.Vars).length:Int) != 0)) then true else (((d.Body).length:Int) != 0)) else false)
     (by
      unfold Lm bne
      cases (d.Kind == 6) <;> cases ((d.Params.length:Int) == 0) <;> cases ((d.Vars.length:Int) == 0) <;> cases ((d.Body.length:Int) == 0) <;> rfl) l2))
   refine this.trans ?_
   simp only [C0.alls,C0.all_eq,H6,Bool.and_assoc]
   congr 1
   ac_rfl
 rw [Va]
 exact main l 0 rfl
theorem K1p (s:B0)(hs:Gz s)(p:A0→Bool)(g:A0→Option Bool)(hg:∀ x∈s.Args,g x=some (x.all p))(K:Option Bool)(F:Int→Option Bool)(y:Bool)(hK:K=some y)
  (hF:∀ k:Int,F k=if decide (k < (s.Args.length:Int))=true then idx s.Args k>>=fun x=>g x>>=fun b=>if (!b)=true then some false else F (IntKind.i64.wrap (k+1)) else K):F 0=some (A0.alls p s.Args&&y):=
 T1m s hs p g hg K F y hK hF s.Args 0 rfl
theorem Z10 (l:List B0):OkS l→L7 l=some (B0.alls Ia l):=by
 induction l using B0.inds with
 | h l ih=>
 intro hl
 have main:∀ (r:List B0) (k:Nat),l.drop k=r→Ab l k=some (B0.alls Ia r):=by
  intro r
  induction r with
  | nil=>intro k h; rw [Ab,(W1 h).1,zn (by simp)]; rfl
  | cons s r ihr=>
   intro k h
   obtain ⟨e1,e2,e3,e4,e5⟩:=I2 h
   have hs:=hl.mem e5
   have hlen:=hl.len
   obtain ⟨i1,i2⟩:=ih s e5
   have l2:=K1p s hs Y4 G5 (fun x hx=>Bv x (hs.arg x hx)) _ (fun k'=>Wd l s k k') (B0.alls Ia r) (by rw [w1 (by omega),ihr (k+1) e3]) (fun k'=>Wd.eq_1 l s k k')
   rw [Ab,e1,zp rfl,e2,ob]
   simp only [rUN,Ql _ hs.name,Bv _ hs.place,Bv _ hs.value,i1 hs.thens,i2 hs.elses,ifd,ob,l2]
   simp only [B0.alls,B0.all_eq,Ia]
   generalize uNm s.Verb=a1
   generalize P3 s.Name=a2
   generalize s.Place.all Y4=a3
   generalize s.Value.all Y4=a4
   generalize B0.alls Ia s.Then=a5
   generalize B0.alls Ia s.Else=a6
   cases a1 <;> cases a2 <;> cases a3 <;> cases a4 <;> cases a5 <;> cases a6 <;> simp
 rw [L7]
 exact main l 0 rfl
theorem P1d (l:List C0):OkD l→L9 l=some (C0.alls Nb l):=by
 induction l using C0.inds with
 | h l ih=>
 intro hl
 have main:∀ (r:List C0) (k:Nat),l.drop k=r→Bb l k=some (C0.alls Nb r):=by
  intro r
  induction r with
  | nil=>intro k h; rw [Bb,(W1 h).1,zn (by simp)]; rfl
  | cons d r ihr=>
   intro k h
   obtain ⟨e1,e2,e3,e4,e5⟩:=I2 h
   have hs:=hl.mem e5
   have hlen:=hl.len
   obtain ⟨i1,i2⟩:=ih d e5
   rw [Bb,e1,zp rfl,e2,ob]
   simp only [Ql _ hs.name,Y1o _ hs.type,Bv _ hs.value,i1 hs.params,i2 hs.vars,Z10 _ hs.body,ifd,ob,w1 (show k≤BB by omega),ihr (k+1) e3]
   simp only [C0.alls,C0.all_eq,Nb]
   generalize P3 d.Name=a2
   generalize d.TypeV.all Ci=a3
   generalize d.Value.all Y4=a4
   generalize C0.alls Nb d.Params=a5
   generalize C0.alls Nb d.Vars=a6
   generalize B0.alls Ia d.Body=a1
   cases a1 <;> cases a2 <;> cases a3 <;> cases a4 <;> cases a5 <;> cases a6 <;> simp
 rw [L9]
 exact main l 0 rfl
theorem U1m (x:Int):A2 x 0 1048576=(bif decide (x < 0) then false else !decide (x > 1048576)):=by
 unfold A2
 rw [Ey,T12]
 cases decide (x≥0) <;> cases decide (x≤1048576) <;> rfl
theorem L1p (s:B0)(hs:Gz s):∀ (r:List Int) (k:Nat) (last:Int),s.Numbers.drop k=r→(k=0∧last = -1∨0 < k∧idx s.Numbers ((k - 1:Nat):Int)=some last)→E6 s k=some (Qh last r)
 | [],k,last,h,h0=>by rw [E6,(W1 h).1,zn (by simp)]; rfl
 | x::r,k,last,h,h0=>by
  obtain ⟨e1,e2,e3,e4,e5⟩:=I2 h
  have hnl:=hs.nums
  have ih:=L1p s hs r (k+1) x e3 (.inr ⟨by omega,e2⟩)
  unfold BB at hnl
  rw [show Qh last (x::r)=((bif A2 x 0 1048576 then decide (x > last) else false)&&Qh x r) from rfl,U1m,E6,e1,zp rfl,e2,ob,w1 (by unfold BB; omega),ih]
  by_cases hx:x < 0
  ·rw [zqj hx]; rfl
  ·rw [zqs hx,zp (show (!false)=true from rfl),ob]
   cases hB:decide (x > 1048576) with
   | true=>rfl
   | false=>
    rcases h0 with ⟨rfl,rfl⟩ | ⟨hk,hl⟩
    ·have hk:decide (((0:Nat):Int) > 0)=false:=by decide
     rw [hk,zqj (show x > -1 by omega)]
     cases Qh x r <;> rfl
    ·have hk':decide ((k:Int) > 0)=true:=zqj (by omega)
     have hw:IntKind.i64.wrap ((k:Int) - 1)=((k - 1:Nat):Int):=by rw [wr (by omega) (by omega)]; omega
     have hd:decide (x≤last) = !decide (x > last):=by rw [← decide_not]; exact decide_eq_decide.2 (by omega)
     rw [hk',hw,hl]
     show (if decide (x≤last)=true then some false else some (Qh x r))=some (decide (x > last)&&Qh x r)
     rw [hd]
     cases decide (x > last) <;> cases Qh x r <;> rfl
theorem I1s (s:B0)(hs:Gz s):Tf s=some (Vf s):=by
 unfold Tf Vf
 cases s.Verb == 4 with
 | true=>rw [zp rfl]; rfl
 | false=>
  rw [zn (by simp)]
  cases s.Verb == 6 with
  | true=>rw [zp rfl]; rfl
  | false=>
   rw [zn (by simp)]
   cases s.Verb == 7 with
   | true=>
    rw [zp rfl,Fy,ob,Fy,ifd,ob]
    show some _=some (bif (bif A2 s.Low (-1048576) 1048576 then A2 s.High s.Low 1048576 else false) then decide (s.High - s.Low < 4096) else false)
    congr 1
    by_cases hb:(-1048576≤s.Low∧s.Low≤1048576)∧(-1048576≤s.High∧s.High≤1048576)
    ·obtain ⟨⟨b1,b2⟩,b3,b4⟩:=hb
     rw [wr (n:=s.High - s.Low) (by omega) (by omega),wr (n:=s.High - s.Low+1) (by omega) (by omega)]
     unfold Oh A2
     rw [zqj (show s.Low≥-1048576 from b1),zqj b2,zqj (show s.High≥-1048576 from b3),zqj b4]
     simp only [zqk]
     have e:decide (s.High - s.Low+1≤4096)=decide (s.High - s.Low < 4096):=decide_eq_decide.2 (by omega)
     rw [e]
     show (bif decide (s.Low≤s.High) then decide (s.High - s.Low < 4096) else false)=(bif (bif decide (s.Low≤s.High) then true else false) then decide (s.High - s.Low < 4096) else false)
     cases decide (s.Low≤s.High) <;> rfl
    ·unfold Oh A2
     by_cases h1 : -1048576≤s.Low∧s.Low≤1048576
     ·obtain ⟨b1,b2⟩:=h1
      rw [zqj (show s.Low≥-1048576 from b1),zqj b2]
      simp only [zqk]
      by_cases h2:s.High≤1048576
      ·have h3:¬ s.High≥-1048576:=fun h=>hb ⟨⟨b1,b2⟩,h,h2⟩
       rw [zqs h3,zqs (show ¬ s.High≥s.Low by omega)]
       rfl
      ·rw [zqs h2]
       cases decide (s.High≥-1048576) <;> cases decide (s.High≥s.Low) <;> rfl
     ·have:(bif decide (s.Low≥-1048576) then decide (s.Low≤1048576) else false)=false:=by
       by_cases h2 : -1048576≤s.Low
       ·rw [zqj (show s.Low≥-1048576 from h2),zqs (fun h=>h1 ⟨h2,h⟩)]; rfl
       ·rw [zqs (show ¬ s.Low≥-1048576 from h2)]; rfl
      rw [this]
      rfl
   | false=>
    rw [zn (by simp)]
    cases s.Verb == 8 with
    | true=>
     have:=L1p s hs s.Numbers 0 (-1) rfl (.inl ⟨rfl,rfl⟩)
     rw [show ((0:Nat):Int)=0 from rfl] at this
     rw [zp rfl,this,Ey,T12]
     show _=some (A2 (s.Numbers.length:Int) 1 32&&Qh (-1) s.Numbers)
     unfold A2
     cases decide ((s.Numbers.length:Int)≥1) <;> cases decide ((s.Numbers.length:Int)≤32) <;> simp
    | false=>rfl
theorem Ww (l:List B0):OkS l→F6 l=some (B0.alls Z8 l):=by
 induction l using B0.inds with
 | h l ih=>
 intro hl
 have main:∀ (r:List B0) (k:Nat),l.drop k=r→W8 l k=some (B0.alls Z8 r):=by
  intro r
  induction r with
  | nil=>intro k h; rw [W8,(W1 h).1,zn (by simp)]; rfl
  | cons s r ihr=>
   intro k h
   obtain ⟨e1,e2,e3,e4,e5⟩:=I2 h
   have hs:=hl.mem e5
   have hlen:=hl.len
   obtain ⟨i1,i2⟩:=ih s e5
   have l2:=K1p s hs I5 C4 (fun x hx=>Qp x (hs.arg x hx)) _ (fun k'=>Rc l s k k') (B0.alls Z8 r) (by rw [w1 (by omega),ihr (k+1) e3]) (fun k'=>Rc.eq_1 l s k k')
   rw [W8,e1,zp rfl,e2,ob]
   simp only [I1s s hs,Qp _ hs.place,Qp _ hs.value,i1 hs.thens,i2 hs.elses,ifd,ob,l2]
   simp only [B0.alls,B0.all_eq,Z8]
   generalize Vf s=a2
   generalize s.Place.all I5=a3
   generalize s.Value.all I5=a4
   generalize B0.alls Z8 s.Then=a5
   generalize B0.alls Z8 s.Else=a6
   cases a2 <;> cases a3 <;> cases a4 <;> cases a5 <;> cases a6 <;> simp
 rw [F6]
 exact main l 0 rfl
def Y12 (d:C0):Bool:=(d.TypeV.all fun t=>!Gr t)&&d.Value.all I5&&Wl d&&B0.alls Z8 d.Body
theorem F1a (l:List C0):OkD l→C7 l=some (C0.alls Y12 l):=by
 induction l using C0.inds with
 | h l ih=>
 intro hl
 have main:∀ (r:List C0) (k:Nat),l.drop k=r→X8 l k=some (C0.alls Y12 r):=by
  intro r
  induction r with
  | nil=>intro k h; rw [X8,(W1 h).1,zn (by simp)]; rfl
  | cons d r ihr=>
   intro k h
   obtain ⟨e1,e2,e3,e4,e5⟩:=I2 h
   have hs:=hl.mem e5
   have hlen:=hl.len
   obtain ⟨i1,i2⟩:=ih d e5
   rw [X8,e1,zp rfl,e2,ob,Fy,ob]
   simp only [R1j _ hs.type,Qp _ hs.value,i1 hs.params,i2 hs.vars,Ww _ hs.body,ifd,ob,w1 (show k≤BB by omega),ihr (k+1) e3]
   have hi:(bif (!(Oh d.Init)) then true else (bif (d.TypeV.Kind == 0) then (bif (decide (d.Init < 0)) then true else (decide (d.Init > 1))) else false)) = !(Wl d):=by
    unfold Wl Oh A2 bne
    rw [Ey,T12 d.Init 1]
    cases decide (d.Init≥-1048576) <;> cases decide (d.Init≤1048576) <;> cases (d.TypeV.Kind == 0) <;> cases decide (d.Init≥0) <;> cases decide (d.Init≤1) <;> rfl
   rw [hi]
   simp only [C0.alls,C0.all_eq,Y12]
   generalize Wl d=a2
   generalize (d.TypeV.all fun t=>!Gr t)=a3
   generalize d.Value.all I5=a4
   generalize C0.alls Y12 d.Params=a5
   generalize C0.alls Y12 d.Vars=a6
   generalize B0.alls Z8 d.Body=a1
   cases a1 <;> cases a2 <;> cases a3 <;> cases a4 <;> cases a5 <;> cases a6 <;> simp
 rw [C7]
 exact main l 0 rfl
theorem M1p (l:List C0):C0.alls H6 l=true→C0.alls Y12 l=C0.alls Qd l:=by
 induction l using C0.inds with
 | h l ih=>
 induction l with
 | nil=>intro _; rfl
 | cons d r ihr=>
  intro h
  simp only [C0.alls,C0.all_eq,zqi] at h
  obtain ⟨⟨h1,h2,h3⟩,h4⟩:=h
  obtain ⟨i1,i2⟩:=ih d zqp
  have h5:d.TypeV.all Xa=true:=by
   unfold H6 at h1
   simp only [zqi] at h1
   exact h1.1.1.1.1.1.1.2
  simp only [C0.alls,C0.all_eq,Y12,Qd,← Q1j d.TypeV h5,i1 h2,i2 h3,ihr (fun x hx=>ih x (zqq _ hx)) h4]
theorem J1s (p:O0)(h:OkP p):Zm p=some ⟨X10 p,Y10 p⟩:=by
 have h1:=C0.ndss_bulk p.Decls
 have h2:=B0.ndss_bulk p.Body
 have h3:C0.bulks p.Decls≤BB:=h.decls
 have h4:B0.bulks p.Body≤BB:=h.body
 have hr:R7 ⟨0,0⟩ (C0.ndss p.Decls+B0.ndss p.Body):=⟨Int.le_refl _,Int.le_refl _,by simp only; omega⟩
 unfold Zm
 rw [K1i p.Decls h.decls _ (hr.less (by omega)),ob,show (1:Int)=((1:Nat):Int) from rfl,Q16 p.Body h.body 1 _ (by unfold BB at *; omega) (R7.x hr),ob,Iy]
 unfold szX X10 Y10
 simp only
 rw [show (0:Int)+((C0.ndss p.Decls+B0.ndss p.Body:Nat):Int)=((C0.ndss p.Decls+B0.ndss p.Body:Nat):Int) by omega,show max (0:Int) ((max (C0.dpss p.Decls) (B0.dpss p.Body 1):Nat):Int)=((max (C0.dpss p.Decls) (B0.dpss p.Body 1):Nat):Int) by omega]
theorem D1x (a b:Bool):(bif a then (bif a then b else default) else false)=(a&&b):=by cases a <;> rfl
theorem N1p (p:O0)(h:OkP p):Bn p=some (Wf p):=by
 unfold Bn
 simp only [J1s p h,V1f _ h.decls,P13 _ h.body,P1d _ h.decls,Z10 _ h.body,F1a _ h.decls,Ww _ h.body,ifd,ob,S1j,D1x]
 unfold Wf
 cases hf:C0.alls H6 p.Decls with
 | false=>unfold Fh; rfl
 | true=>rw [M1p p.Decls hf]
theorem W18 (l:List B0):OkS l→∀ n,∃ m,G6 l n=some m:=by
 induction l using B0.inds with
 | h l ih=>
 intro hl n
 have main:∀ (r:List B0) (k:Nat) (n:Int),l.drop k=r→∃ m,N9 l n k=some m:=by
  intro r
  induction r with
  | nil=>intro k n h; rw [N9,(W1 h).1]; exact ⟨_,rfl⟩
  | cons s r ihr=>
   intro k n h
   obtain ⟨e1,e2,e3,e4,e5⟩:=I2 h
   have hs:=hl.mem e5
   have hlen:=hl.len
   obtain ⟨i1,i2⟩:=ih s e5
   have tail:∀ n:Int,∃ m,(if decide ((s.Numbers.length:Int) > 100)=true then some (-1) else G6 s.Then n>>=fun x6=>G6 s.Else x6>>=fun x7=>N9 l x7 (IntKind.i64.wrap ((k:Int)+1)))=some m:=fun n=>by
    cases decide ((s.Numbers.length:Int) > 100) with
    | true=>exact ⟨_,rfl⟩
    | false=>
     obtain ⟨a,ha⟩:=i1 hs.thens n
     obtain ⟨b,hb⟩:=i2 hs.elses a
     rw [zn (by simp),ha,ob,hb,ob,w1 (by omega)]
     exact ihr (k+1) b e3
   have l2:∀ (q:List A0) (j:Nat) (n:Int),s.Args.drop j=q→∃ m,Sc l s n k j=some m:=by
    intro q
    induction q with
    | nil=>intro j n hj; rw [Sc,(W1 hj).1,zql,zn (by simp)]; exact tail n
    | cons a q ihq=>
     intro j n hj
     obtain ⟨f1,f2,f3,f4,f5⟩:=I2 hj
     have:=hs.args
     rw [Sc,f1,zqk,f2]
     cases decide (n≥0) with
     | false=>rw [zn (by simp)]; exact tail n
     | true=>
      obtain ⟨m,hm⟩:=Cv a (hs.arg a f5) n
      rw [zp rfl,ob,hm,ob,w1 (by omega)]
      exact ihq (j+1) m f3
   rw [N9,e1,zqk,e2]
   cases decide (n≥0) with
   | false=>exact ⟨_,rfl⟩
   | true=>
    rw [zp rfl,ob]
    obtain ⟨a,ha⟩:=Cv s.Place hs.place (IntKind.i64.wrap ((IntKind.i64.wrap (n - 1)) - (IntKind.i64.wrap (Int.tdiv ((s.Name).length:Int) 16))))
    obtain ⟨b,hb⟩:=Cv s.Value hs.value a
    rw [ha,ob,hb,ob]
    exact l2 s.Args 0 b rfl
 rw [G6]
 exact main l 0 n rfl
theorem V1m (l:List C0):OkD l→∀ n,∃ m,Wa l n=some m:=by
 induction l using C0.inds with
 | h l ih=>
 intro hl n
 have main:∀ (r:List C0) (k:Nat) (n:Int),l.drop k=r→∃ m,Tc l n k=some m:=by
  intro r
  induction r with
  | nil=>intro k n h; rw [Tc,(W1 h).1]; exact ⟨_,rfl⟩
  | cons d r ihr=>
   intro k n h
   obtain ⟨e1,e2,e3,e4,e5⟩:=I2 h
   have hs:=hl.mem e5
   have hlen:=hl.len
   obtain ⟨i1,i2⟩:=ih d e5
   rw [Tc,e1,zqk,e2]
   cases decide (n≥0) with
   | false=>exact ⟨_,rfl⟩
   | true=>
    rw [zp rfl,ob]
    obtain ⟨a,ha⟩:=N1m d.TypeV hs.type (IntKind.i64.wrap ((IntKind.i64.wrap (n - 1)) - (IntKind.i64.wrap (Int.tdiv ((d.Name).length:Int) 16))))
    obtain ⟨b,hb⟩:=Cv d.Value hs.value a
    obtain ⟨c,hc⟩:=i1 hs.params b
    obtain ⟨e,he⟩:=i2 hs.vars c
    obtain ⟨f,hf⟩:=W18 d.Body hs.body e
    rw [ha,ob,hb,ob,hc,ob,he,ob,hf,ob,w1 (by omega)]
    exact ihr (k+1) f e3
 rw [Wa]
 exact main l 0 n rfl
theorem O1p (p:O0)(h:OkP p)(n:Int):∃ b,Gt p n=some b:=by
 obtain ⟨a,ha⟩:=V1m p.Decls h.decls n
 obtain ⟨b,hb⟩:=W18 p.Body h.body a
 unfold Gt
 rw [ha,ob,hb]
 exact ⟨_,rfl⟩
theorem S1v {p:O0}(h:p.bulk≤4200000):OkP p:=by
 cases p
 simp only [O0.bulk] at h
 exact ⟨by unfold OkD BB; simp only; omega,by unfold OkS BB; simp only; omega⟩
set_option maxRecDepth 100000
set_option maxHeartbeats 4000000
def NN (p:UInt8→Bool):Str→Prop
 | []=>True
 | c::_=>p c=false
def dg (c:UInt8):Bool:=P8 c.toNat
def K1s (s:Str):Nat:=s.foldl (fun a c=>10 * a+(c.toNat - 48)) 0
theorem P17 (m:Nat)(h:m < 10):(UInt8.ofNat (48+m)).toNat=48+m:=by simp; omega
theorem Ur (k:Nat):K1s (Lib.decDigits k)=k∧(∀ c∈Lib.decDigits k,dg c=true)∧Lib.decDigits k≠[]:=by
 induction k using Nat.strongRecOn with
 | ind k ih=>
 have one:∀ m,m < 10→dg (UInt8.ofNat (48+m))=true:=fun m hm=>by
  unfold dg P8
  rw [P17 m hm,zqj (by omega),zqj (by omega)]; rfl
 rw [Lib.decDigits]
 by_cases h:k < 10
 ·rw [dif_pos h]
  refine ⟨?_,?_,by simp⟩
  ·simp only [K1s,List.foldl_cons,List.foldl_nil,P17 k h]; omega
  ·intro c hc
   simp only [List.mem_singleton] at hc
   rw [hc]; exact one k h
 ·rw [dif_neg h]
  obtain ⟨i1,i2,i3⟩:=ih (k / 10) (by omega)
  refine ⟨?_,?_,by simp⟩
  ·unfold K1s at i1 ⊢
   rw [List.foldl_append,i1,List.foldl_cons,List.foldl_nil,P17 _ (by omega)]; omega
  ·intro c hc
   rw [List.mem_append] at hc
   rcases hc with hc | hc
   ·exact i2 c hc
   ·simp only [List.mem_singleton] at hc
    rw [hc]; exact one _ (by omega)
theorem E1x {o:Int}(h:8≤o)(h':o≤20):∃ l m:Nat,lv o=l∧(bif lv o == 3 then 4 else lv o)=(m:Int)∧1≤l∧l≤m∧m≤5:=by
 rcases Tl h h' with rfl | rfl | rfl | rfl | rfl | rfl | rfl | rfl | rfl | rfl | rfl | rfl | rfl
 all_goals first | exact ⟨4,4,rfl,rfl,by omega,by omega,by omega⟩ | exact ⟨5,5,rfl,rfl,by omega,by omega,by omega⟩ | exact ⟨3,4,rfl,rfl,by omega,by omega,by omega⟩ | exact ⟨2,2,rfl,rfl,by omega,by omega,by omega⟩ | exact ⟨1,1,rfl,rfl,by omega,by omega,by omega⟩
theorem E1u {o:Int}(h:8≤o)(n:Int)(nm:Str)(ks:List A0):(A0.mk o n nm ks).place=true→False:=by
 intro hp
 rw [A0.place_eq] at hp
 simp only [zqn.mpr (show o≠3 by omega),zqn.mpr (show o≠4 by omega),zqn.mpr (show o≠5 by omega),zql] at hp
 cases hp
theorem R16:∀ (i:Nat) (s:Str),Rg i s=true→∀ c∈s,ld c=true
 | _,[],_,c,hc=>by cases hc
 | i,a::s,h,c,hc=>by
  simp only [Rg,zqi] at h
  cases hc with
  | head=>
   have h1:=h.1
   unfold K1d at h1
   unfold ld
   cases h2:X6 a.toNat with
   | true=>rfl
   | false=>rw [h2] at h1; simp only [Bool.false_or,zqi] at h1; exact h1.2
  | tail _ hc=>exact R16 (i+1) s h.2 c hc
theorem Q1d {s:Str}(h:P3 s=true):(∀ c∈s,ld c=true)∧(∃ c t,s=c::t∧X6 c.toNat=true)∧Er s=false:=by
 unfold P3 at h
 cases h1:(bif decide ((s.length:Int)≤12) then word s else false) with
 | false=>rw [h1] at h; cases h
 | true=>
  rw [h1] at h
  have h2:word s=true:=by
   cases hl:decide ((s.length:Int)≤12) with
   | false=>rw [hl] at h1; cases h1
   | true=>rw [hl] at h1; exact h1
  unfold word at h2
  rw [zqi] at h2
  refine ⟨R16 0 s h2.1,?_,by simpa using h⟩
  match s,h2 with
  | [],h2=>exact absurd h2.2 (by decide)
  | c::t,h2=>
   refine ⟨c,t,rfl,?_⟩
   have h3:=h2.1
   simp only [Rg,zqi,K1d] at h3
   simpa using h3.1
structure Vr (e:A0):Prop where
 f:Ya e
 n:e.all Y4=true
theorem Vr.kid {e k:A0}(h:Vr e)(hk:k∈e.Kids):Vr k:=by
 have h1:=h.n
 rw [A0.all_eq,zqi] at h1
 exact ⟨h.f.kid hk,A0.alls_mem h1.2 hk⟩
theorem L1s {e:A0}(ht:OkE e)(h:Sl e=0):Vr e:=by
 refine ⟨C1s ht h,?_⟩
 cases hn:e.all Y4 with
 | true=>rfl
 | false=>
  unfold Sl Fh at h
  rw [hn] at h
  cases hb:(bif decide ((e.nodes:Int) > 1024) then true else decide ((e.depth:Int) > 12)) <;> rw [hb] at h
  ·cases hf:e.all A4 <;> rw [hf] at h <;> cases h
  ·cases h
set_option maxHeartbeats 2000000
structure Mm (l:List B0):Prop where
 form:B0.alls V6 l=true
 numb:B0.alls Z8 l=true
 ok:OkS l
theorem B0.alls_mem {p:B0→Bool}:∀ {l:List B0} {t:B0},B0.alls p l=true→t∈l→t.all p=true
 | x::r,t,h,hm=>by
  simp only [B0.alls,zqi] at h
  cases hm with
  | head=>exact h.1
  | tail _ hm=>exact B0.alls_mem h.2 hm
abbrev z:A0:=⟨0,0,[],[]⟩
inductive Lk:B0→Prop
 | set (pl va) (h:Ya pl) (h':Ya va):Lk (.mk 0 pl va [] [] 0 0 0 [] [] [])
 | call (pl nm ar) (h:Ya pl) (h':∀ a∈ar,Ya a):Lk (.mk 1 pl z nm ar 0 0 0 [] [] [])
 | rel (pl nm) (h:Ya pl):Lk (.mk 2 pl z nm [] 0 0 0 [] [] [])
 | out (va) (h:Ya va):Lk (.mk 3 z va [] [] 0 0 0 [] [] [])
 | wait (n) (h:S6 n):Lk (.mk 4 z z [] [] n 0 0 [] [] [])
 | cond (va th el) (h:Ya va) (h1:Mm th) (h2:Mm el):Lk (.mk 5 z va [] [] 0 0 0 [] th el)
 | loop (va n th) (h:Ya va) (hn:S6 n) (h1:Mm th):Lk (.mk 6 z va [] [] n 0 0 [] th [])
 | count (nm lo hi th) (h:S6 lo) (h':S6 hi) (h1:Mm th):Lk (.mk 7 z z nm [] 0 lo hi [] th [])
 | settle (ns) (h:∀ n∈ns,S6 n):Lk (.mk 8 z z [] [] 0 0 0 ns [] [])
theorem X18:∀ (l:List Int) (last:Int),Qh last l=true→∀ n∈l,S6 n
 | x::r,last,h,n,hn=>by
  simp only [Qh,zqi] at h
  cases hn with
  | head=>
   have h1:=h.1
   unfold A2 at h1
   simp at h1
   unfold S6
   omega
  | tail _ hn=>exact X18 r x h.2 n hn
theorem P1p (s:B0)(hs:Gz s)(hf:s.all V6=true)(hn:s.all Z8=true):Lk s:=by
 rw [B0.all_eq,zqi,zqi] at hf hn
 obtain ⟨f0,ft,fe⟩:=hf
 obtain ⟨n0,nt,ne⟩:=hn
 have FT:Mm s.Then:=⟨ft,nt,hs.thens⟩
 have FE:Mm s.Else:=⟨fe,ne,hs.elses⟩
 unfold V6 at f0
 unfold Z8 at n0
 simp only [zqi] at f0 n0
 obtain ⟨⟨⟨⟨⟨⟨⟨⟨⟨⟨⟨g0,g1⟩,g2⟩,g3⟩,g4⟩,g5⟩,g6⟩,g7⟩,g8⟩,g9⟩,g10⟩,g11⟩:=f0
 obtain ⟨⟨⟨m1,m2⟩,m3⟩,m4⟩:=n0
 have FP:s.Place.all A4=true→Ya s.Place:=fun h=>⟨h,m1,hs.place⟩
 have FV:s.Value.all A4=true→Ya s.Value:=fun h=>⟨h,m2,hs.value⟩
 have FA:∀ a∈s.Args,Ya a:=fun a ha=>⟨A0.alls_mem g6 ha,A0.alls_mem m3 ha,hs.arg a ha⟩
 obtain ⟨v,pl,va,nm,ar,n,lo,hi,ns,th,el⟩:=s
 simp only at *
 have hv:v=0∨v=1∨v=2∨v=3∨v=4∨v=5∨v=6∨v=7∨v=8:=by
  unfold okV at g0
  by_cases h1:v < 0
  ·rw [zqj h1] at g0; cases g0
  ·by_cases h2:v > 8
   ·rw [zqs h1,zqj h2] at g0; cases g0
   ·omega
 rcases hv with rfl | rfl | rfl | rfl | rfl | rfl | rfl | rfl | rfl
 ·simp [oF,uPl,uVa,uNm,uNn,uTh] at g1 g3 g4 g5 g7 g8 g9 g10 g11
  obtain ⟨rfl,rfl⟩:=g8
  subst g4 g5 g7 g9 g10 g11
  exact .set _ _ (FP g1) (FV g3)
 ·simp [oF,uPl,uVa,uNm,uNn,uTh] at g1 g3 g4 g5 g7 g8 g9 g10 g11
  obtain ⟨rfl,rfl⟩:=g8
  obtain rfl:=Cd g3
  subst g7 g9 g10 g11
  exact .call _ _ _ (FP g1) FA
 ·simp [oF,uPl,uVa,uNm,uNn,uTh] at g1 g3 g4 g5 g7 g8 g9 g10 g11
  obtain ⟨rfl,rfl⟩:=g8
  obtain rfl:=Cd g3
  subst g5 g7 g9 g10 g11
  exact .rel _ _ (FP g1)
 ·simp [oF,uPl,uVa,uNm,uNn,uTh] at g1 g3 g4 g5 g7 g8 g9 g10 g11
  obtain ⟨rfl,rfl⟩:=g8
  obtain rfl:=Cd g1
  subst g4 g5 g7 g9 g10 g11
  exact .out _ (FV g3)
 ·simp [oF,uPl,uVa,uNm,uNn,uTh] at g1 g3 g4 g5 g7 g8 g9 g10 g11
  obtain ⟨rfl,rfl⟩:=g8
  obtain rfl:=Cd g1
  obtain rfl:=Cd g3
  subst g4 g5 g9 g10 g11
  simp [Vf,A2] at m4
  exact .wait _ (by unfold S6; omega)
 ·simp [oF,uPl,uVa,uNm,uNn,uTh] at g1 g3 g4 g5 g7 g8 g9 g10 g11
  obtain ⟨rfl,rfl⟩:=g8
  obtain rfl:=Cd g1
  subst g4 g5 g7 g9
  exact .cond _ _ _ (FV g3) FT FE
 ·simp [oF,uPl,uVa,uNm,uNn,uTh] at g1 g3 g4 g5 g7 g8 g9 g10 g11
  obtain ⟨rfl,rfl⟩:=g8
  obtain rfl:=Cd g1
  subst g4 g5 g9 g11
  simp [Vf,A2] at m4
  exact .loop _ _ _ (FV g3) (by unfold S6; omega) FT
 ·simp [oF,uPl,uVa,uNm,uNn,uTh] at g1 g3 g4 g5 g7 g8 g9 g10 g11
  obtain rfl:=Cd g1
  obtain rfl:=Cd g3
  subst g5 g7 g9 g11
  simp [Vf,A2] at m4
  exact .count _ _ _ _ (by unfold S6; omega) (by unfold S6; omega) FT
 ·simp [oF,uPl,uVa,uNm,uNn,uTh] at g1 g3 g4 g5 g7 g8 g9 g10 g11
  obtain ⟨rfl,rfl⟩:=g8
  obtain rfl:=Cd g1
  obtain rfl:=Cd g3
  subst g4 g5 g7 g10 g11
  have m5:(A2 (ns.length:Int) 1 32&&Qh (-1) ns)=true:=m4
  rw [zqi] at m5
  exact .settle _ (X18 ns _ m5.2)
theorem Mm.mem {l:List B0}(h:Mm l){s:B0}(hs:s∈l):Lk s:=P1p s (h.ok.mem hs) (B0.alls_mem h.form hs) (B0.alls_mem h.numb hs)
def exl:Bool→List A0→Str
 | _,[]=>[]
 | f,x::r=>(bif f then [] else [44,32])++x.text++exl false r
def nul:Bool→List Int→Str
 | _,[]=>[]
 | f,x::r=>(bif f then [] else [44,32])++Lib.itoa x++nul false r
mutual
def B0.text:B0→Str→Str
 | .mk v pl va nm ar n lo hi ns th el,m=>
  bif v == 5 then [105,102,32]++va.text++([32,123,10]++B0.lines th (m++[9])++(m++[125]))++(bif decide ((el.length:Int) > 0) then [32,101,108,115,101]++([32,123,10]++B0.lines el (m++[9])++(m++[125])) else [])
  else bif v == 6 then [119,104,105,108,101,32]++va.text++([32,108,105,109,105,116,32]++Lib.itoa n)++([32,123,10]++B0.lines th (m++[9])++(m++[125]))
  else bif v == 7 then [102,111,114,32]++nm++[32,61,32]++Lib.itoa lo++[32,116,111,32]++Lib.itoa hi++([32,123,10]++B0.lines th (m++[9])++(m++[125]))
  else (bif v == 0 then pl.text++[32,61,32]++va.text else bif v == 1 then pl.text++([32,61,32,99,97,108,108,32]++nm++[40])++exl true ar++[41]
   else bif v == 2 then pl.text++([32,61,32,114,101,108,101,97,115,101,32]++nm) else bif v == 3 then [111,117,116,112,117,116,32]++va.text
   else bif v == 4 then [119,97,105,116,32]++Lib.itoa n else bif v == 8 then [115,101,116,116,108,101,32]++nul true ns else [])++[59]
def B0.lines:List B0→Str→Str
 | [],_=>[]
 | x::r,m=>m++B0.text x m++[10]++B0.lines r m
end
theorem Pb (x:B0)(r:List B0)(m:Str):B0.lines (x::r) m=m++B0.text x m++[10]++B0.lines r m:=by simp only [B0.lines]
theorem R1d:∀ (f:Bool) (l:List A0),(∀ a∈l,Ya a)→(exl f l).length≤42 * A0.bulks l
 | f,[],_=>by simp [exl]
 | f,x::r,h=>by
  have:=R1d false r (fun a ha=>h a (zqq _ ha))
  have:=K6 x (h x zqp)
  have:=A0.bulk_eq x
  simp only [exl,A0.bulks,zqc]
  cases f <;> simp <;> omega
theorem S1d:∀ (f:Bool) (l:List Int),(∀ a∈l,S6 a)→(nul f l).length≤21 * l.length
 | f,[],_=>by simp [nul]
 | f,x::r,h=>by
  have:=S1d false r (fun a ha=>h a (zqq _ ha))
  have:=Ha (h x zqp)
  simp only [nul,zqc,zqd]
  cases f <;> simp <;> omega
theorem Xl (l:List B0):Mm l→∀ m:Str,m.length+B0.bulks l≤2097152→(B0.lines l m).length≤8000000 * B0.bulks l:=by
 induction l using B0.inds with
 | h l ih=>
 intro hf m hm
 have main:∀ r:List B0,(∀ x∈r,x∈l)→m.length+B0.bulks r≤2097152→(B0.lines r m).length≤8000000 * B0.bulks r:=by
  intro r
  induction r with
  | nil=>intro _ _; simp [B0.lines]
  | cons s r ihr=>
   intro hr hm
   simp only [B0.bulks] at hm ⊢
   have h1:=ihr (fun x hx=>hr x (zqq _ hx)) (by omega)
   have hs:=hr s zqp
   obtain ⟨i1,i2⟩:=ih s hs
   rw [Pb]
   have key:(B0.text s m).length+m.length+1≤8000000 * s.bulk:=by
    cases hf.mem hs with
    | set pl va h h'=>
     have:=K6 pl h; have:=K6 va h'
     show (pl.text++[32,61,32]++va.text++[59]).length+_+_≤_
     simp only [B0.bulk,B0.bulks,List.map_nil,List.sum_nil,A0.bulks,zqc,zqd,zqe] at *; omega
    | call pl nm ar h h'=>
     have:=K6 pl h; have:=R1d true ar h'
     show (pl.text++([32,61,32,99,97,108,108,32]++nm++[40])++exl true ar++[41]++[59]).length+_+_≤_
     simp only [B0.bulk,B0.bulks,List.map_nil,List.sum_nil,A0.bulks,A0.bulk,zqc,zqd,zqe] at *; omega
    | rel pl nm h=>
     have:=K6 pl h
     show (pl.text++([32,61,32,114,101,108,101,97,115,101,32]++nm)++[59]).length+_+_≤_
     simp only [B0.bulk,B0.bulks,List.map_nil,List.sum_nil,A0.bulks,A0.bulk,zqc,zqd,zqe] at *; omega
    | out va h=>
     have:=K6 va h
     show ([111,117,116,112,117,116,32]++va.text++[59]).length+_+_≤_
     simp only [B0.bulk,B0.bulks,List.map_nil,List.sum_nil,A0.bulks,A0.bulk,zqc,zqd,zqe] at *; omega
    | wait n h=>
     have:=Ha h
     show ([119,97,105,116,32]++Lib.itoa n++[59]).length+_+_≤_
     simp only [B0.bulk,B0.bulks,List.map_nil,List.sum_nil,A0.bulks,A0.bulk,zqc,zqd,zqe] at *; omega
    | cond va th el h f1 f2=>
     have hb:(B0.mk 5 z va [] [] 0 0 0 [] th el).bulk=va.bulk+B0.bulks th+B0.bulks el+15:=by simp only [B0.bulk,List.map_nil,List.sum_nil,A0.bulks,A0.bulk,zqe]; omega
     rw [hb] at hm ⊢
     have a1:=K6 va h
     have a2:=i1 f1 (m++[9]) (by simp only [zqc,zqd,zqe]; omega)
     have a3:=i2 f2 (m++[9]) (by simp only [zqc,zqd,zqe]; omega)
     simp only at a2 a3
     show ([105,102,32]++va.text++([32,123,10]++B0.lines th (m++[9])++(m++[125]))++(bif decide ((el.length:Int) > 0) then [32,101,108,115,101]++([32,123,10]++B0.lines el (m++[9])++(m++[125])) else [])).length+_+_≤_
     cases decide ((el.length:Int) > 0) <;> simp only [zqk,zql,zqc,zqd,zqe] <;> omega
    | loop va n th h hn f1=>
     have hb:(B0.mk 6 z va [] [] n 0 0 [] th []).bulk=va.bulk+B0.bulks th+15:=by simp only [B0.bulk,B0.bulks,List.map_nil,List.sum_nil,A0.bulks,A0.bulk,zqe]; omega
     rw [hb] at hm ⊢
     have a1:=K6 va h
     have a0:=Ha hn
     have a2:=i1 f1 (m++[9]) (by simp only [zqc,zqd,zqe]; omega)
     simp only at a2
     show ([119,104,105,108,101,32]++va.text++([32,108,105,109,105,116,32]++Lib.itoa n)++([32,123,10]++B0.lines th (m++[9])++(m++[125]))).length+_+_≤_
     simp only [zqc,zqd,zqe]; omega
    | count nm lo hi th h h' f1=>
     have hb:(B0.mk 7 z z nm [] 0 lo hi [] th []).bulk=nm.length+B0.bulks th+20:=by simp only [B0.bulk,B0.bulks,List.map_nil,List.sum_nil,A0.bulks,A0.bulk,zqe]; omega
     rw [hb] at hm ⊢
     have a1:=Ha h
     have a0:=Ha h'
     have a2:=i1 f1 (m++[9]) (by simp only [zqc,zqd,zqe]; omega)
     simp only at a2
     show ([102,111,114,32]++nm++[32,61,32]++Lib.itoa lo++[32,116,111,32]++Lib.itoa hi++([32,123,10]++B0.lines th (m++[9])++(m++[125]))).length+_+_≤_
     simp only [zqc,zqd,zqe]; omega
    | settle ns h=>
     have:=S1d true ns h
     have hb:(B0.mk 8 z z [] [] 0 0 0 ns [] []).bulk=ns.length+20:=by simp only [B0.bulk,B0.bulks,Nf,A0.bulks,A0.bulk,zqe]; omega
     rw [hb] at hm ⊢
     show ([115,101,116,116,108,101,32]++nul true ns++[59]).length+_+_≤_
     simp only [zqc,zqd,zqe]; omega
   simp only [zqc,zqd,zqe] at *
   omega
 exact main l (fun _ h=>h) hm
set_option maxHeartbeats 4000000
theorem G1a (l:List A0)(hl:l.length≤BB)(hf:∀ a∈l,Ya a):∀ (r:List A0) (k:Nat) (b:Str),l.drop k=r→b.length+42 * A0.bulks r≤LL→Uc l b k=some (b++exl (k == 0) r)
 | [],k,b,h,hb=>by rw [Uc,(W1 h).1,zn (by simp)]; simp [exl]
 | x::r,k,b,h,hb=>by
  obtain ⟨e1,e2,e3,e4,e5⟩:=I2 h
  have hx:=K6 x (hf x e5)
  have hbx:=A0.bulk_eq x
  simp only [A0.bulks] at hb
  rw [Uc,e1,zp rfl]
  cases k with
  | zero=>
   rw [zn (by simp),Bj,e2,ob,Tg x (hf x e5),ob,fit (by omega),w1 (by omega),G1a l hl hf r 1 _ e3 (by simp only [zqc]; omega)]
   simp [exl]
  | succ k=>
   rw [zp (zqj (by omega)),fit (by omega),Bj,e2,ob,Tg x (hf x e5),ob,fit (by simp only [zqc,zqd,zqe]; omega),w1 (by omega),
    G1a l hl hf r (k+1+1) _ e3 (by simp only [zqc,zqd,zqe]; omega)]
   simp [exl]
theorem Q1p (l:List A0)(hl:l.length≤BB)(hf:∀ a∈l,Ya a)(hb:42 * A0.bulks l≤LL):Dn l=some (exl true l):=by
 unfold Dn
 rw [show (0:Int)=((0:Nat):Int) from rfl,G1a l hl hf l 0 [] rfl (by simpa using hb)]
 rfl
theorem S16 (l:List B0)(m:Str)(s:B0)(hl:s.Numbers.length≤BB)(hf:∀ a∈s.Numbers,S6 a)(i:Int):∀ (r:List Int) (k:Nat) (b:Str),s.Numbers.drop k=r→b.length+21 * r.length+2≤LL→
  Kf l m s b i k=R3 l m (b++nul (k == 0) r++[59,10]) (IntKind.i64.wrap (i+1))
 | [],k,b,h,hb=>by
  rw [Kf,(W1 h).1,zn (by simp),fit (by simp only [zqe] at hb; omega)]
  simp [nul]
 | x::r,k,b,h,hb=>by
  obtain ⟨e1,e2,e3,e4,e5⟩:=I2 h
  have hx:=Ha (hf x e5)
  simp only [zqd] at hb
  rw [Kf,e1,zp rfl]
  cases k with
  | zero=>
   rw [zn (by simp),Nh,e2,ob,Xe (hf x e5),ob,fit (by omega),w1 (by omega),S16 l m s hl hf i r 1 _ e3 (by simp only [zqc]; omega)]
   simp [nul]
  | succ k=>
   rw [zp (zqj (by omega)),fit (by omega),Nh,e2,ob,Xe (hf x e5),ob,fit (by simp only [zqc,zqd,zqe]; omega),w1 (by omega),
    S16 l m s hl hf i r (k+1+1) _ e3 (by simp only [zqc,zqd,zqe]; omega)]
   simp [nul]
theorem I1f (l:List B0):Mm l→∀ m:Str,m.length+B0.bulks l≤2097152→Jb l m=some (B0.lines l m):=by
 induction l using B0.inds with
 | h l ih=>
 intro hf m hm
 have main:∀ (r:List B0) (k:Nat) (o:Str),l.drop k=r→m.length+B0.bulks r≤2097152→o.length+8000000 * B0.bulks r≤LL→R3 l m o k=some (o++B0.lines r m):=by
  intro r
  induction r with
  | nil=>
   intro k o hdr hm hb
   rw [R3,(W1 hdr).1,zn (by simp)]
   simp [B0.lines]
  | cons s r ihr=>
   intro k o hdr hm hbn
   obtain ⟨e1,e2,e3,e4,e5⟩:=I2 hdr
   have hlen:=hf.ok.len
   obtain ⟨i1,i2⟩:=ih s e5
   simp only [B0.bulks] at hm hbn
   have hm1:m.length≤2097152:=by omega
   cases hf.mem e5 with
   | set pl va h h'=>
     have a1:=K6 pl h; have a2:=K6 va h'
     have hb:(B0.mk 0 pl va [] [] 0 0 0 [] [] []).bulk=pl.bulk+va.bulk+10:=by simp only [B0.bulk,B0.bulks,List.map_nil,List.sum_nil,Nf,A0.bulks,A0.bulk,zqe]; omega
     rw [hb] at hm hbn
     have et:B0.text (B0.mk 0 pl va [] [] 0 0 0 [] [] []) m=pl.text++[32,61,32]++va.text++[59]:=rfl
     rw [R3,e1,zp rfl,e2,ob,fit (by (try simp only [zqc,zqd,zqe]); (try unfold LL at *); omega),zp (by simp),Tg pl h,ob,fit (by (try simp only [zqc,zqd,zqe]); (try unfold LL at *); omega),fit (by (try simp only [zqc,zqd,zqe]); (try unfold LL at *); omega),Tg va h',ob,fit (by (try simp only [zqc,zqd,zqe]); (try unfold LL at *); omega),fit (by (try simp only [zqc,zqd,zqe]); (try unfold LL at *); omega),Y5,zn (by simp),Z5,zn (by simp),A6,zn (by simp),B6,zn (by simp),C6,zn (by simp),D5,zn (by simp),E5,zn (by simp),K4,zn (by simp),w1 (by omega),ihr (k+1) _ e3 (by omega) (by simp only [zqc,zqd,zqe]; omega),Pb,et]
     simp
   | call pl nm ar h h'=>
     have a1:=K6 pl h; have a2:=R1d true ar h'
     have har:=(hf.ok.mem e5).args
     have hb:(B0.mk 1 pl z nm ar 0 0 0 [] [] []).bulk=pl.bulk+nm.length+A0.bulks ar+15:=by simp only [B0.bulk,B0.bulks,List.map_nil,List.sum_nil,Nf,A0.bulks,A0.bulk,zqe]; omega
     rw [hb] at hm hbn
     have et:B0.text (B0.mk 1 pl z nm ar 0 0 0 [] [] []) m=pl.text++([32,61,32,99,97,108,108,32]++nm++[40])++exl true ar++[41]++[59]:=rfl
     rw [R3,e1,zp rfl,e2,ob,fit (by (try simp only [zqc,zqd,zqe]); (try unfold LL at *); omega),zn (by simp),Y5,zp (by simp),Tg pl h,ob,fit (by (try simp only [zqc,zqd,zqe]); (try unfold LL at *); omega),fit (by (try simp only [zqc,zqd,zqe]); (try unfold LL at *); omega),fit (by (try simp only [zqc,zqd,zqe]); (try unfold LL at *); omega),fit (by (try simp only [zqc,zqd,zqe]); (try unfold LL at *); omega),Q1p ar har h' (by unfold LL at *; omega),ob,fit (by (try simp only [zqc,zqd,zqe]); (try unfold LL at *); omega),fit (by (try simp only [zqc,zqd,zqe]); (try unfold LL at *); omega),Z5,zn (by simp),A6,zn (by simp),B6,zn (by simp),C6,zn (by simp),D5,zn (by simp),E5,zn (by simp),K4,zn (by simp),w1 (by omega),ihr (k+1) _ e3 (by omega) (by simp only [zqc,zqd,zqe]; omega),Pb,et]
     simp
   | rel pl nm h=>
     have a1:=K6 pl h
     have hb:(B0.mk 2 pl z nm [] 0 0 0 [] [] []).bulk=pl.bulk+nm.length+15:=by simp only [B0.bulk,B0.bulks,List.map_nil,List.sum_nil,Nf,A0.bulks,A0.bulk,zqe]; omega
     rw [hb] at hm hbn
     have et:B0.text (B0.mk 2 pl z nm [] 0 0 0 [] [] []) m=pl.text++([32,61,32,114,101,108,101,97,115,101,32]++nm)++[59]:=rfl
     rw [R3,e1,zp rfl,e2,ob,fit (by (try simp only [zqc,zqd,zqe]); (try unfold LL at *); omega),zn (by simp),Y5,zn (by simp),Z5,zp (by simp),Tg pl h,ob,fit (by (try simp only [zqc,zqd,zqe]); (try unfold LL at *); omega),fit (by (try simp only [zqc,zqd,zqe]); (try unfold LL at *); omega),fit (by (try simp only [zqc,zqd,zqe]); (try unfold LL at *); omega),fit (by (try simp only [zqc,zqd,zqe]); (try unfold LL at *); omega),A6,zn (by simp),B6,zn (by simp),C6,zn (by simp),D5,zn (by simp),E5,zn (by simp),K4,zn (by simp),w1 (by omega),ihr (k+1) _ e3 (by omega) (by simp only [zqc,zqd,zqe]; omega),Pb,et]
     simp
   | out va h=>
     have a1:=K6 va h
     have hb:(B0.mk 3 z va [] [] 0 0 0 [] [] []).bulk=va.bulk+15:=by simp only [B0.bulk,B0.bulks,List.map_nil,List.sum_nil,Nf,A0.bulks,A0.bulk,zqe]; omega
     rw [hb] at hm hbn
     have et:B0.text (B0.mk 3 z va [] [] 0 0 0 [] [] []) m=[111,117,116,112,117,116,32]++va.text++[59]:=rfl
     rw [R3,e1,zp rfl,e2,ob,fit (by (try simp only [zqc,zqd,zqe]); (try unfold LL at *); omega),zn (by simp),Y5,zn (by simp),Z5,zn (by simp),A6,zp (by simp),fit (by (try simp only [zqc,zqd,zqe]); (try unfold LL at *); omega),Tg va h,ob,fit (by (try simp only [zqc,zqd,zqe]); (try unfold LL at *); omega),fit (by (try simp only [zqc,zqd,zqe]); (try unfold LL at *); omega),B6,zn (by simp),C6,zn (by simp),D5,zn (by simp),E5,zn (by simp),K4,zn (by simp),w1 (by omega),ihr (k+1) _ e3 (by omega) (by simp only [zqc,zqd,zqe]; omega),Pb,et]
     simp
   | wait n h=>
     have a1:=Ha h
     have hb:(B0.mk 4 z z [] [] n 0 0 [] [] []).bulk=20:=by simp only [B0.bulk,B0.bulks,List.map_nil,List.sum_nil,Nf,A0.bulks,A0.bulk,zqe]; omega
     rw [hb] at hm hbn
     have et:B0.text (B0.mk 4 z z [] [] n 0 0 [] [] []) m=[119,97,105,116,32]++Lib.itoa n++[59]:=rfl
     rw [R3,e1,zp rfl,e2,ob,fit (by (try simp only [zqc,zqd,zqe]); (try unfold LL at *); omega),zn (by simp),Y5,zn (by simp),Z5,zn (by simp),A6,zn (by simp),B6,zp (by simp),fit (by (try simp only [zqc,zqd,zqe]); (try unfold LL at *); omega),Xe h,ob,fit (by (try simp only [zqc,zqd,zqe]); (try unfold LL at *); omega),fit (by (try simp only [zqc,zqd,zqe]); (try unfold LL at *); omega),C6,zn (by simp),D5,zn (by simp),E5,zn (by simp),K4,zn (by simp),w1 (by omega),ihr (k+1) _ e3 (by omega) (by simp only [zqc,zqd,zqe]; omega),Pb,et]
     simp
   | cond va th el h f1 f2=>
     have a1:=K6 va h
     have hb:(B0.mk 5 z va [] [] 0 0 0 [] th el).bulk=va.bulk+B0.bulks th+B0.bulks el+15:=by simp only [B0.bulk,B0.bulks,List.map_nil,List.sum_nil,Nf,A0.bulks,A0.bulk,zqe]; omega
     rw [hb] at hm hbn
     have l1:=Xl th f1 (m++[9]) (by simp only [zqc,zqd,zqe]; omega)
     have l2:=Xl el f2 (m++[9]) (by simp only [zqc,zqd,zqe]; omega)
     have r1:=i1 f1 (m++[9]) (by simp only [zqc,zqd,zqe]; omega)
     have r2:=i2 f2 (m++[9]) (by simp only [zqc,zqd,zqe]; omega)
     simp only at r1 r2
     have et:B0.text (B0.mk 5 z va [] [] 0 0 0 [] th el) m=[105,102,32]++va.text++([32,123,10]++B0.lines th (m++[9])++(m++[125]))++(bif decide ((el.length:Int) > 0) then [32,101,108,115,101]++([32,123,10]++B0.lines el (m++[9])++(m++[125])) else []):=rfl
     rw [R3,e1,zp rfl,e2,ob,fit (by (try simp only [zqc,zqd,zqe]); (try unfold LL at *); omega),zn (by simp),Y5,zn (by simp),Z5,zn (by simp),A6,zn (by simp),B6,zn (by simp),C6,zp (by simp),fit (by (try simp only [zqc,zqd,zqe]); (try unfold LL at *); omega),Tg va h,ob,fit (by (try simp only [zqc,zqd,zqe]); (try unfold LL at *); omega),fit (by (try simp only [zqc,zqd,zqe]); (try unfold LL at *); omega),fit (by (try simp only [zqc,zqd,zqe]); (try unfold LL at *); omega),r1,ob,fit (by (try simp only [zqc,zqd,zqe]); (try unfold LL at *); omega),fit (by (try simp only [zqc,zqd,zqe]); (try unfold LL at *); omega),fit (by (try simp only [zqc,zqd,zqe]); (try unfold LL at *); omega)]
     cases hd:decide ((el.length:Int) > 0) with
     | false=>
      rw [hd] at et
      rw [zn (by simp),Cj,fit (by (try simp only [zqc,zqd,zqe]); (try unfold LL at *); omega),D5,zn (by simp),E5,zn (by simp),K4,zn (by simp),w1 (by omega),ihr (k+1) _ e3 (by omega) (by simp only [zqc,zqd,zqe]; omega),Pb,et]
      simp
     | true=>
      rw [hd] at et
      rw [zp rfl,fit (by (try simp only [zqc,zqd,zqe]); (try unfold LL at *); omega),fit (by (try simp only [zqc,zqd,zqe]); (try unfold LL at *); omega),r2,ob,fit (by (try simp only [zqc,zqd,zqe]); (try unfold LL at *); omega),fit (by (try simp only [zqc,zqd,zqe]); (try unfold LL at *); omega),fit (by (try simp only [zqc,zqd,zqe]); (try unfold LL at *); omega),Cj,fit (by (try simp only [zqc,zqd,zqe]); (try unfold LL at *); omega),D5,zn (by simp),E5,zn (by simp),K4,zn (by simp),w1 (by omega),ihr (k+1) _ e3 (by omega) (by simp only [zqc,zqd,zqe]; omega),Pb,et]
      simp
   | loop va n th h hn f1=>
     have a1:=K6 va h; have a2:=Ha hn
     have hb:(B0.mk 6 z va [] [] n 0 0 [] th []).bulk=va.bulk+B0.bulks th+15:=by simp only [B0.bulk,B0.bulks,List.map_nil,List.sum_nil,Nf,A0.bulks,A0.bulk,zqe]; omega
     rw [hb] at hm hbn
     have l1:=Xl th f1 (m++[9]) (by simp only [zqc,zqd,zqe]; omega)
     have r1:=i1 f1 (m++[9]) (by simp only [zqc,zqd,zqe]; omega)
     simp only at r1
     have et:B0.text (B0.mk 6 z va [] [] n 0 0 [] th []) m=[119,104,105,108,101,32]++va.text++([32,108,105,109,105,116,32]++Lib.itoa n)++([32,123,10]++B0.lines th (m++[9])++(m++[125])):=rfl
     rw [R3,e1,zp rfl,e2,ob,fit (by (try simp only [zqc,zqd,zqe]); (try unfold LL at *); omega),zn (by simp),Y5,zn (by simp),Z5,zn (by simp),A6,zn (by simp),B6,zn (by simp),C6,zn (by simp),D5,zp (by simp),fit (by (try simp only [zqc,zqd,zqe]); (try unfold LL at *); omega),Tg va h,ob,fit (by (try simp only [zqc,zqd,zqe]); (try unfold LL at *); omega),fit (by (try simp only [zqc,zqd,zqe]); (try unfold LL at *); omega),Xe hn,ob,fit (by (try simp only [zqc,zqd,zqe]); (try unfold LL at *); omega),fit (by (try simp only [zqc,zqd,zqe]); (try unfold LL at *); omega),fit (by (try simp only [zqc,zqd,zqe]); (try unfold LL at *); omega),r1,ob,fit (by (try simp only [zqc,zqd,zqe]); (try unfold LL at *); omega),fit (by (try simp only [zqc,zqd,zqe]); (try unfold LL at *); omega),fit (by (try simp only [zqc,zqd,zqe]); (try unfold LL at *); omega),E5,zn (by simp),K4,zn (by simp),w1 (by omega),ihr (k+1) _ e3 (by omega) (by simp only [zqc,zqd,zqe]; omega),Pb,et]
     simp
   | count nm lo hi th h h' f1=>
     have a1:=Ha h; have a2:=Ha h'
     have hb:(B0.mk 7 z z nm [] 0 lo hi [] th []).bulk=nm.length+B0.bulks th+20:=by simp only [B0.bulk,B0.bulks,List.map_nil,List.sum_nil,Nf,A0.bulks,A0.bulk,zqe]; omega
     rw [hb] at hm hbn
     have l1:=Xl th f1 (m++[9]) (by simp only [zqc,zqd,zqe]; omega)
     have r1:=i1 f1 (m++[9]) (by simp only [zqc,zqd,zqe]; omega)
     simp only at r1
     have et:B0.text (B0.mk 7 z z nm [] 0 lo hi [] th []) m=[102,111,114,32]++nm++[32,61,32]++Lib.itoa lo++[32,116,111,32]++Lib.itoa hi++([32,123,10]++B0.lines th (m++[9])++(m++[125])):=rfl
     rw [R3,e1,zp rfl,e2,ob,fit (by (try simp only [zqc,zqd,zqe]); (try unfold LL at *); omega),zn (by simp),Y5,zn (by simp),Z5,zn (by simp),A6,zn (by simp),B6,zn (by simp),C6,zn (by simp),D5,zn (by simp),E5,zp (by simp),fit (by (try simp only [zqc,zqd,zqe]); (try unfold LL at *); omega),fit (by (try simp only [zqc,zqd,zqe]); (try unfold LL at *); omega),fit (by (try simp only [zqc,zqd,zqe]); (try unfold LL at *); omega),Xe h,ob,fit (by (try simp only [zqc,zqd,zqe]); (try unfold LL at *); omega),fit (by (try simp only [zqc,zqd,zqe]); (try unfold LL at *); omega),Xe h',ob,fit (by (try simp only [zqc,zqd,zqe]); (try unfold LL at *); omega),fit (by (try simp only [zqc,zqd,zqe]); (try unfold LL at *); omega),fit (by (try simp only [zqc,zqd,zqe]); (try unfold LL at *); omega),r1,ob,fit (by (try simp only [zqc,zqd,zqe]); (try unfold LL at *); omega),fit (by (try simp only [zqc,zqd,zqe]); (try unfold LL at *); omega),fit (by (try simp only [zqc,zqd,zqe]); (try unfold LL at *); omega),K4,zn (by simp),w1 (by omega),ihr (k+1) _ e3 (by omega) (by simp only [zqc,zqd,zqe]; omega),Pb,et]
     simp
   | settle ns h=>
     have a1:=S1d true ns h
     have hnl:=(hf.ok.mem e5).nums
     have hb:(B0.mk 8 z z [] [] 0 0 0 ns [] []).bulk=ns.length+20:=by simp only [B0.bulk,B0.bulks,List.map_nil,List.sum_nil,Nf,A0.bulks,A0.bulk,zqe]; omega
     rw [hb] at hm hbn
     have et:B0.text (B0.mk 8 z z [] [] 0 0 0 ns [] []) m=[115,101,116,116,108,101,32]++nul true ns++[59]:=rfl
     have:=S16 l m (B0.mk 8 z z [] [] 0 0 0 ns [] []) hnl h (k:Int) ns 0 (o++m++[115,101,116,116,108,101,32]) rfl (by simp only [zqc,zqd,zqe]; omega)
     rw [show ((0:Nat):Int)=0 from rfl,show ((0:Nat) == 0)=true from rfl] at this
     rw [R3,e1,zp rfl,e2,ob,fit (by (try simp only [zqc,zqd,zqe]); (try unfold LL at *); omega),zn (by simp),Y5,zn (by simp),Z5,zn (by simp),A6,zn (by simp),B6,zn (by simp),C6,zn (by simp),D5,zn (by simp),E5,zn (by simp),K4,zp (by simp),fit (by (try simp only [zqc,zqd,zqe]); (try unfold LL at *); omega),this,w1 (by omega),ihr (k+1) _ e3 (by omega) (by simp only [zqc,zqd,zqe]; omega),Pb,et]
     simp
 rw [Jb,show (0:Int)=((0:Nat):Int) from rfl,main l 0 [] rfl hm (by unfold LL; simp only [zqe]; omega)]
 rfl
structure Jy (l:List C0):Prop where
 form:C0.alls H6 l=true
 numb:C0.alls Qd l=true
 ok:OkD l
theorem C0.alls_mem {p:C0→Bool}:∀ {l:List C0} {t:C0},C0.alls p l=true→t∈l→t.all p=true
 | x::r,t,h,hm=>by
  simp only [C0.alls,zqi] at h
  cases hm with
  | head=>exact h.1
  | tail _ hm=>exact C0.alls_mem h.2 hm
structure Dv (d:C0):Prop where
 type:Sr d.TypeV
 init:S6 d.Init
structure Xw (d:C0):Prop where
 kind:0≤d.Kind∧d.Kind≤6
 self:Dv d
 value:uV2 d.Kind=true→Ya d.Value
 params:∀ x∈d.Params,Dv x
 vars:∀ x∈d.Vars,Dv x
 plen:d.Params.length≤BB
 vlen:d.Vars.length≤BB
 body:Mm d.Body
theorem Jy.var {l:List C0}(h:Jy l){d:C0}(hd:d∈l):Dv d:=by
 have hf:=C0.alls_mem h.form hd
 have hn:=C0.alls_mem h.numb hd
 rw [C0.all_eq,zqi] at hf hn
 have f0:=hf.1
 have n0:=hn.1
 unfold H6 at f0
 unfold Qd at n0
 simp only [zqi] at f0 n0
 have n1:=n0.1.2
 refine ⟨⟨f0.1.1.1.1.1.1.2,n0.1.1.1,(h.ok.mem hd).type⟩,?_⟩
 unfold Wl A2 at n1
 by_cases h1:d.Init≥-1048576
 ·by_cases h2:d.Init≤1048576
  ·unfold S6; omega
  ·rw [zqj h1,zqs h2] at n1; cases n1
 ·rw [zqs h1] at n1; cases n1
theorem Jy.mem {l:List C0}(h:Jy l){d:C0}(hd:d∈l):Xw d:=by
 have hf:=C0.alls_mem h.form hd
 have hn:=C0.alls_mem h.numb hd
 have ho:=h.ok.mem hd
 rw [C0.all_eq,zqi,zqi] at hf hn
 obtain ⟨f0,fp,fv⟩:=hf
 obtain ⟨n0,np,nv⟩:=hn
 have FP:Jy d.Params:=⟨fp,np,ho.params⟩
 have FV:Jy d.Vars:=⟨fv,nv,ho.vars⟩
 unfold H6 at f0
 unfold Qd at n0
 simp only [zqi] at f0 n0
 refine ⟨?_,h.var hd,fun hu=>?_,fun x hx=>FP.var hx,fun x hx=>FV.var hx,ho.params.len,ho.vars.len,f0.2,n0.2,ho.body⟩
 ·have:=f0.1.1.1.1.1.1.1
  unfold isK at this
  simp at this
  omega
 ·have:=f0.1.1.1.1.1.2
  unfold oF at this
  rw [hu] at this
  exact ⟨this,n0.1.1.2,ho.value⟩
def O8 (nm:Str)(t:E0):Str:=nm++[58,32]++t.text
def Wr (d:C0):Str:=bif d.Init != 0 then [32,61,32]++(bif d.TypeV.Kind == 0 then [116,114,117,101] else Lib.itoa d.Init) else []
def Hr (d:C0):Str:=[118,97,114,32]++O8 d.Name d.TypeV++Wr d++[59,10]
def Qm:Bool→List C0→Str
 | _,[]=>[]
 | f,x::r=>(bif f then [] else [44,32])++O8 x.Name x.TypeV++Qm false r
def Di:List C0→Str
 | []=>[]
 | x::r=>[9]++Hr x++Di r
def Hz (d:C0):Str:=[102,117,110,99,32]++d.Name++[40]++Qm true d.Params++[41,58,32]++d.TypeV.text++[32,123,10]++Di d.Vars++B0.lines d.Body [9]++[9,114,101,116,117,114,110,32]++d.Value.text++[59,10,125,10]
def N7 (d:C0):Str:=
 bif d.Kind == 4 then Hr d else bif d.Kind == 6 then Hz d else bif d.Kind == 0 then [116,121,112,101,32]++d.Name++[32,61,32]++d.TypeV.text++[59,10]
 else bif d.Kind == 1 then [115,101,99,114,101,116,32]++O8 d.Name d.TypeV++[59,10] else bif d.Kind == 2 then [112,117,98,108,105,99,32]++O8 d.Name d.TypeV++[59,10]
 else bif d.Kind == 3 then [114,97,110,100,111,109,32]++O8 d.Name d.TypeV++[59,10] else [104,97,116,99,104,32]++O8 d.Name d.TypeV++[32,61,32]++d.Value.text++[59,10]
def Mk:List C0→Str
 | []=>[]
 | x::r=>N7 x++Mk r
def Tp (p:O0):Str:=Mk p.Decls++[98,101,103,105,110,10]++B0.lines p.Body [9]++[101,110,100,10]
theorem J1f {d:C0}(h:Dv d):(Wr d).length≤22:=by
 have:=Ha h.init
 unfold Wr
 cases (d.Init != 0) <;> cases (d.TypeV.Kind == 0) <;> simp <;> omega
theorem Z12 {d:C0}(h:Dv d):(Hr d).length≤100 * d.bulk:=by
 have h1:=J1f h
 have h2:=Cg _ h.type
 have h3:=C0.bulk_eq d
 unfold Hr O8
 simp only [zqc,zqd,zqe]; omega
theorem M1i:∀ (f:Bool) (l:List C0),(∀ x∈l,Dv x)→(Qm f l).length≤100 * C0.bulks l
 | f,[],_=>by simp [Qm]
 | f,x::r,h=>by
  have h0:=M1i false r (fun y hy=>h y (zqq _ hy))
  have h2:=Cg _ (h x zqp).type
  have h3:=C0.bulk_eq x
  simp only [Qm,C0.bulks,O8]
  cases f <;> simp only [zqk,zql,zqc,zqd,zqe] <;> omega
theorem K1f:∀ (l:List C0),(∀ x∈l,Dv x)→(Di l).length≤101 * C0.bulks l
 | [],_=>by simp [Di]
 | x::r,h=>by
  have h0:=K1f r (fun y hy=>h y (zqq _ hy))
  have h2:=Z12 (h x zqp)
  have h3:=C0.bulk_eq x
  simp only [Di,C0.bulks,zqc,zqd,zqe]; omega
theorem N1i {d:C0}(h:Xw d)(hk:d.Kind=6)(hb:d.bulk≤1048576):(Hz d).length≤8000000 * d.bulk:=by
 have h1:=M1i true _ h.params
 have h2:=K1f _ h.vars
 have h3:=C0.bulk_eq d
 have h4:=Cg _ h.self.type
 have h5:=K6 _ (h.value (by rw [hk]; rfl))
 have h6:=Xl _ h.body [9] (by simp only [zqd,zqe]; omega)
 unfold Hz
 simp only [zqc,zqd,zqe]; omega
theorem kinds {d:C0}(h:Xw d):d.Kind=0∨d.Kind=1∨d.Kind=2∨d.Kind=3∨d.Kind=4∨d.Kind=5∨d.Kind=6:=by have:=h.kind; omega
theorem R1p {d:C0}(h:Xw d)(hb:d.bulk≤1048576):(N7 d).length≤8000000 * d.bulk:=by
 have h2:=Cg _ h.self.type
 have h3:=C0.bulk_eq d
 have h4:=Z12 h.self
 rcases kinds h with hk | hk | hk | hk | hk | hk | hk
 ·unfold N7; rw [hk]; show ([116,121,112,101,32]++d.Name++[32,61,32]++d.TypeV.text++[59,10]).length≤_; simp only [zqc,zqd,zqe]; omega
 ·unfold N7; rw [hk]; show ([115,101,99,114,101,116,32]++(d.Name++[58,32]++d.TypeV.text)++[59,10]).length≤_; simp only [zqc,zqd,zqe]; omega
 ·unfold N7; rw [hk]; show ([112,117,98,108,105,99,32]++(d.Name++[58,32]++d.TypeV.text)++[59,10]).length≤_; simp only [zqc,zqd,zqe]; omega
 ·unfold N7; rw [hk]; show ([114,97,110,100,111,109,32]++(d.Name++[58,32]++d.TypeV.text)++[59,10]).length≤_; simp only [zqc,zqd,zqe]; omega
 ·unfold N7; rw [hk]; show (Hr d).length≤_; omega
 ·have h5:=K6 _ (h.value (by rw [hk]; rfl))
  unfold N7; rw [hk]; show ([104,97,116,99,104,32]++(d.Name++[58,32]++d.TypeV.text)++[32,61,32]++d.Value.text++[59,10]).length≤_; simp only [zqc,zqd,zqe]; omega
 ·have:=N1i h hk hb
  unfold N7; rw [hk]; show (Hz d).length≤_; omega
structure G1t (p:O0):Prop where
 decls:Jy p.Decls
 body:Mm p.Body
 small:C0.bulks p.Decls+B0.bulks p.Body≤1048576
theorem O1i {p:O0}(ho:OkP p)(hs:C0.bulks p.Decls+B0.bulks p.Body≤1048576)(h:Wf p=0):G1t p:=by
 unfold Wf Fh at h
 cases hb:(bif decide ((X10 p:Int) > 1024) then true else decide ((Y10 p:Int) > 12)) <;> rw [hb] at h
 ·cases hf:(C0.alls H6 p.Decls&&B0.alls V6 p.Body) <;> rw [hf] at h
  ·cases h
  ·cases hn:(C0.alls Nb p.Decls&&B0.alls Ia p.Body) <;> rw [hn] at h
   ·cases h
   ·cases hu:(C0.alls Qd p.Decls&&B0.alls Z8 p.Body) <;> rw [hu] at h
    ·cases h
    ·rw [zqi] at hf hu
     exact ⟨⟨hf.1,hu.1,ho.decls⟩,⟨hf.2,hu.2,ho.body⟩,hs⟩
 ·cases h
def Yw (p:O0):Str×Int:=bif Wf p != 0 then ([],Wf p) else W10 (Tp p)
theorem N1k {d:C0}(h:Dv d)(hb:100 * d.bulk≤LL):Hg d=some (Hr d):=by
 have h1:=J1f h
 have h2:=Cg _ h.type
 have h3:=C0.bulk_eq d
 have h4:=Ha h.init
 rw [Hg,fit (by (try simp only [zqc,zqd,zqe]); (try unfold LL at *); omega),fit (by (try simp only [zqc,zqd,zqe]); (try unfold LL at *); omega),Ph _ h.type,ob,fit (by (try simp only [zqc,zqd,zqe]); (try unfold LL at *); omega)]
 unfold Hr Wr O8
 cases hi:(d.Init != 0) with
 | false=>
  rw [zql,zn (by simp),La,hi,zql,zn (by simp),fit (by (try simp only [zqc,zqd,zqe]); (try unfold LL at *); omega)]
  simp
 | true=>
  rw [zqk]
  cases hk:(d.TypeV.Kind == 0) with
  | true=>
   have hk':(d.TypeV.Kind != 0)=false:=by unfold bne; rw [hk]; rfl
   rw [zp rfl,fit (by (try simp only [zqc,zqd,zqe]); (try unfold LL at *); omega),La,hi,zqk,hk',zn (by simp),fit (by (try simp only [zqc,zqd,zqe]); (try unfold LL at *); omega)]
   simp
  | false=>
   have hk':(d.TypeV.Kind != 0)=true:=by unfold bne; rw [hk]; rfl
   rw [zn (by simp),La,hi,zqk,hk',zp rfl,fit (by (try simp only [zqc,zqd,zqe]); (try unfold LL at *); omega),Xe h.init,ob,fit (by (try simp only [zqc,zqd,zqe]); (try unfold LL at *); omega),fit (by (try simp only [zqc,zqd,zqe]); (try unfold LL at *); omega)]
   simp
theorem O1k (d:C0)(h:Xw d)(hk:d.Kind=6)(hb0:d.bulk≤1048576):∀ (r:List C0) (k:Nat) (b:Str),d.Vars.drop k=r→b.length+101 * C0.bulks r+8000000 * B0.bulks d.Body+40 * d.Value.bulk+20≤LL→
  I8 d b k=some (b++Di r++B0.lines d.Body [9]++[9,114,101,116,117,114,110,32]++d.Value.text++[59,10,125,10])
 | [],k,b,hr,hb=>by
  have h3:=C0.bulk_eq d
  have h5:=h.value (by rw [hk]; rfl)
  have h6:=Xl _ h.body [9] (by simp only [zqd,zqe]; omega)
  have h7:=K6 _ h5
  simp only [C0.bulks] at hb
  rw [I8,(W1 hr).1,zn (by simp),I1f _ h.body [9] (by simp only [zqd,zqe]; omega),ob,fit (by (try simp only [zqc,zqd,zqe]); (try unfold LL at *); omega),fit (by (try simp only [zqc,zqd,zqe]); (try unfold LL at *); omega),Tg _ h5,ob,fit (by (try simp only [zqc,zqd,zqe]); (try unfold LL at *); omega),fit (by (try simp only [zqc,zqd,zqe]); (try unfold LL at *); omega)]
  simp [Di]
 | x::r,k,b,hr,hb=>by
  obtain ⟨e1,e2,e3,e4,e5⟩:=I2 hr
  have hv:=h.vars x e5
  have h2:=Z12 hv
  have h3:=C0.bulk_eq x
  have:=h.vlen
  simp only [C0.bulks] at hb
  rw [I8,e1,zp rfl,fit (by (try simp only [zqc,zqd,zqe]); (try unfold LL at *); omega),e2,ob,N1k hv (by omega),ob,fit (by (try simp only [zqc,zqd,zqe]); (try unfold LL at *); omega),w1 (by omega),O1k d h hk hb0 r (k+1) _ e3 (by (try simp only [zqc,zqd,zqe]); omega)]
  simp [Di]
theorem P1i (d:C0)(h:Xw d)(hk:d.Kind=6)(hb0:d.bulk≤1048576):∀ (r:List C0) (k:Nat) (b:Str),d.Params.drop k=r→b.length+100 * C0.bulks r+64 * d.TypeV.bulk+101 * C0.bulks d.Vars+8000000 * B0.bulks d.Body+40 * d.Value.bulk+40≤LL→
  J8 d b k=some (b++Qm (k == 0) r++[41,58,32]++d.TypeV.text++[32,123,10]++Di d.Vars++B0.lines d.Body [9]++[9,114,101,116,117,114,110,32]++d.Value.text++[59,10,125,10])
 | [],k,b,hr,hb=>by
  have h4:=Cg _ h.self.type
  simp only [C0.bulks] at hb
  have:=O1k d h hk hb0 d.Vars 0 (b++[41,58,32]++d.TypeV.text++[32,123,10]) rfl (by (try simp only [zqc,zqd,zqe]); omega)
  rw [show ((0:Nat):Int)=0 from rfl] at this
  rw [J8,(W1 hr).1,zn (by simp),fit (by (try simp only [zqc,zqd,zqe]); (try unfold LL at *); omega),Ph _ h.self.type,ob,fit (by (try simp only [zqc,zqd,zqe]); (try unfold LL at *); omega),fit (by (try simp only [zqc,zqd,zqe]); (try unfold LL at *); omega),this]
  simp [Qm]
 | x::r,k,b,hr,hb=>by
  obtain ⟨e1,e2,e3,e4,e5⟩:=I2 hr
  have hv:=h.params x e5
  have h2:=Cg _ hv.type
  have h3:=C0.bulk_eq x
  have:=h.plen
  simp only [C0.bulks] at hb
  rw [J8,e1,zp rfl]
  cases k with
  | zero=>
   rw [zn (by simp),Uf,e2,ob,fit (by (try simp only [zqc,zqd,zqe]); (try unfold LL at *); omega),fit (by (try simp only [zqc,zqd,zqe]); (try unfold LL at *); omega),ob,Ph _ hv.type,ob,fit (by (try simp only [zqc,zqd,zqe]); (try unfold LL at *); omega),w1 (by omega),P1i d h hk hb0 r 1 _ e3 (by (try simp only [zqc,zqd,zqe]); omega)]
   simp [Qm,O8]
  | succ k=>
   rw [zp (zqj (by omega)),fit (by (try simp only [zqc,zqd,zqe]); (try unfold LL at *); omega),Uf,e2,ob,fit (by (try simp only [zqc,zqd,zqe]); (try unfold LL at *); omega),fit (by (try simp only [zqc,zqd,zqe]); (try unfold LL at *); omega),ob,Ph _ hv.type,ob,fit (by (try simp only [zqc,zqd,zqe]); (try unfold LL at *); omega),w1 (by omega),P1i d h hk hb0 r (k+1+1) _ e3 (by (try simp only [zqc,zqd,zqe]); omega)]
   simp [Qm,O8]
theorem F1u {d:C0}(h:Xw d)(hk:d.Kind=6)(hb0:d.bulk≤1048576):Dj d=some (Hz d):=by
 have h3:=C0.bulk_eq d
 have:=P1i d h hk hb0 d.Params 0 ([102,117,110,99,32]++d.Name++[40]) rfl (by unfold LL; simp only [zqc,zqd,zqe]; omega)
 rw [show ((0:Nat):Int)=0 from rfl,show ((0:Nat) == 0)=true from rfl] at this
 rw [Dj,fit (by unfold LL; omega),fit (by unfold LL; simp only [zqc,zqd,zqe]; omega),this]
 unfold Hz
 simp
theorem P1k (p:O0)(h:G1t p):∀ (r:List C0) (k:Nat) (b:Str),p.Decls.drop k=r→b.length+8000000 * C0.bulks r+8000000 * B0.bulks p.Body+20≤LL→
  R9 p b k=some (b++Mk r++[98,101,103,105,110,10]++B0.lines p.Body [9]++[101,110,100,10])
 | [],k,b,hr,hb=>by
  have h0:=h.small
  have h6:=Xl _ h.body [9] (by simp only [zqd,zqe]; omega)
  simp only [C0.bulks] at hb
  rw [R9,(W1 hr).1,zn (by simp),fit (by (try simp only [zqc,zqd,zqe]); (try unfold LL at *); omega),I1f _ h.body [9] (by simp only [zqd,zqe]; omega),ob,fit (by (try simp only [zqc,zqd,zqe]); (try unfold LL at *); omega),fit (by (try simp only [zqc,zqd,zqe]); (try unfold LL at *); omega)]
  simp [Mk]
 | d::r,k,b,hr,hb=>by
  obtain ⟨e1,e2,e3,e4,e5⟩:=I2 hr
  have h0:=h.small
  have hx:=h.decls.mem e5
  have hxb:d.bulk≤1048576:=by have:=C0.bulk_mem e5; omega
  have hT:=R1p hx hxb
  have hlen:=h.decls.ok.len
  have h2:=Cg _ hx.self.type
  have h3:=C0.bulk_eq d
  have hv:=Z12 hx.self
  simp only [C0.bulks] at hb
  have fin:R9 p (b++N7 d) (IntKind.i64.wrap ((k:Int)+1))=some (b++Mk (d::r)++[98,101,103,105,110,10]++B0.lines p.Body [9]++[101,110,100,10]):=by
   rw [w1 (by omega),P1k p h r (k+1) _ e3 (by (try simp only [zqc,zqd,zqe]); omega)]
   simp [Mk]
  rw [← fin,R9,e1,zp rfl,e2,ob]
  rcases kinds hx with hk | hk | hk | hk | hk | hk | hk
  ·have et:N7 d=[116,121,112,101,32]++d.Name++[32,61,32]++d.TypeV.text++[59,10]:=by unfold N7; rw [hk]; rfl
   rw [zp (by rw [hk]; simp),fit (by (try simp only [zqc,zqd,zqe]); (try unfold LL at *); omega),fit (by (try simp only [zqc,zqd,zqe]); (try unfold LL at *); omega),fit (by (try simp only [zqc,zqd,zqe]); (try unfold LL at *); omega),Ph _ hx.self.type,ob,fit (by (try simp only [zqc,zqd,zqe]); (try unfold LL at *); omega),fit (by (try simp only [zqc,zqd,zqe]); (try unfold LL at *); omega),S9,zn (by rw [hk]; simp),T9,zn (by rw [hk]; simp),U9,zn (by rw [hk]; simp),V9,zn (by rw [hk]; simp),W9,zn (by rw [hk]; simp),X9,zn (by rw [hk]; simp),et]
   congr 1; simp
  ·have et:N7 d=[115,101,99,114,101,116,32]++(d.Name++[58,32]++d.TypeV.text)++[59,10]:=by unfold N7; rw [hk]; rfl
   rw [zn (by rw [hk]; simp),S9,zp (by rw [hk]; simp),fit (by (try simp only [zqc,zqd,zqe]); (try unfold LL at *); omega),fit (by (try simp only [zqc,zqd,zqe]); (try unfold LL at *); omega),fit (by (try simp only [zqc,zqd,zqe]); (try unfold LL at *); omega),Ph _ hx.self.type,ob,fit (by (try simp only [zqc,zqd,zqe]); (try unfold LL at *); omega),fit (by (try simp only [zqc,zqd,zqe]); (try unfold LL at *); omega),T9,zn (by rw [hk]; simp),U9,zn (by rw [hk]; simp),V9,zn (by rw [hk]; simp),W9,zn (by rw [hk]; simp),X9,zn (by rw [hk]; simp),et]
   congr 1; simp
  ·have et:N7 d=[112,117,98,108,105,99,32]++(d.Name++[58,32]++d.TypeV.text)++[59,10]:=by unfold N7; rw [hk]; rfl
   rw [zn (by rw [hk]; simp),S9,zn (by rw [hk]; simp),T9,zp (by rw [hk]; simp),fit (by (try simp only [zqc,zqd,zqe]); (try unfold LL at *); omega),fit (by (try simp only [zqc,zqd,zqe]); (try unfold LL at *); omega),fit (by (try simp only [zqc,zqd,zqe]); (try unfold LL at *); omega),Ph _ hx.self.type,ob,fit (by (try simp only [zqc,zqd,zqe]); (try unfold LL at *); omega),fit (by (try simp only [zqc,zqd,zqe]); (try unfold LL at *); omega),U9,zn (by rw [hk]; simp),V9,zn (by rw [hk]; simp),W9,zn (by rw [hk]; simp),X9,zn (by rw [hk]; simp),et]
   congr 1; simp
  ·have et:N7 d=[114,97,110,100,111,109,32]++(d.Name++[58,32]++d.TypeV.text)++[59,10]:=by unfold N7; rw [hk]; rfl
   rw [zn (by rw [hk]; simp),S9,zn (by rw [hk]; simp),T9,zn (by rw [hk]; simp),U9,zp (by rw [hk]; simp),fit (by (try simp only [zqc,zqd,zqe]); (try unfold LL at *); omega),fit (by (try simp only [zqc,zqd,zqe]); (try unfold LL at *); omega),fit (by (try simp only [zqc,zqd,zqe]); (try unfold LL at *); omega),Ph _ hx.self.type,ob,fit (by (try simp only [zqc,zqd,zqe]); (try unfold LL at *); omega),fit (by (try simp only [zqc,zqd,zqe]); (try unfold LL at *); omega),V9,zn (by rw [hk]; simp),W9,zn (by rw [hk]; simp),X9,zn (by rw [hk]; simp),et]
   congr 1; simp
  ·have et:N7 d=Hr d:=by unfold N7; rw [hk]; rfl
   rw [zn (by rw [hk]; simp),S9,zn (by rw [hk]; simp),T9,zn (by rw [hk]; simp),U9,zn (by rw [hk]; simp),V9,zp (by rw [hk]; simp),N1k hx.self (by omega),ob,fit (by omega),W9,zn (by rw [hk]; simp),X9,zn (by rw [hk]; simp),et]
  ·have h5:=hx.value (by rw [hk]; rfl)
   have h6:=K6 _ h5
   have et:N7 d=[104,97,116,99,104,32]++(d.Name++[58,32]++d.TypeV.text)++[32,61,32]++d.Value.text++[59,10]:=by unfold N7; rw [hk]; rfl
   rw [zn (by rw [hk]; simp),S9,zn (by rw [hk]; simp),T9,zn (by rw [hk]; simp),U9,zn (by rw [hk]; simp),V9,zn (by rw [hk]; simp),W9,zp (by rw [hk]; simp),fit (by (try simp only [zqc,zqd,zqe]); (try unfold LL at *); omega),fit (by (try simp only [zqc,zqd,zqe]); (try unfold LL at *); omega),fit (by (try simp only [zqc,zqd,zqe]); (try unfold LL at *); omega),Ph _ hx.self.type,ob,fit (by (try simp only [zqc,zqd,zqe]); (try unfold LL at *); omega),fit (by (try simp only [zqc,zqd,zqe]); (try unfold LL at *); omega),Tg _ h5,ob,fit (by (try simp only [zqc,zqd,zqe]); (try unfold LL at *); omega),fit (by (try simp only [zqc,zqd,zqe]); (try unfold LL at *); omega),X9,zn (by rw [hk]; simp),et]
   congr 1; simp
  ·have et:N7 d=Hz d:=by unfold N7; rw [hk]; rfl
   have h7:=N1i hx hk hxb
   rw [zn (by rw [hk]; simp),S9,zn (by rw [hk]; simp),T9,zn (by rw [hk]; simp),U9,zn (by rw [hk]; simp),V9,zn (by rw [hk]; simp),W9,zn (by rw [hk]; simp),X9,zp (by rw [hk]; simp),F1u hx hk hxb,ob,fit (by omega),et]
theorem S1p (p:O0)(ho:OkP p)(hs:C0.bulks p.Decls+B0.bulks p.Body≤1048576):En p=some (Yw p):=by
 unfold En Yw
 rw [N1p p ho,ob]
 cases h:Wf p != 0 with
 | true=>rfl
 | false=>
  have hf:=O1i ho hs (by simpa using h)
  have:=P1k p hf p.Decls 0 [] rfl (by unfold LL; simp only [zqe]; omega)
  rw [show ((0:Nat):Int)=0 from rfl] at this
  rw [zn (by simp),Yu,this,ob,Z1o,ob]
  rfl
theorem T1p {p:O0}(h:p.bulk≤1048576):C0.bulks p.Decls+B0.bulks p.Body≤1048576:=by
 cases p
 simp only [O0.bulk] at h
 simp only; omega
theorem U1p {α:Type}(s u:List α)(hs:s.length≤BB)(hl:s.length=u.length)(p:α→α→Bool)(F:Int→Option Bool)(K:Option Bool)
  (hF:∀ (k:Nat) x y,x∈s→idx s k=some x→idx u k=some y→decide ((k:Int) < (s.length:Int))=true→F k=if p x y=true then F (IntKind.i64.wrap ((k:Int)+1)) else some false)
  (hK:∀ k:Nat,decide ((k:Int) < (s.length:Int))=false→F k=K) :
  ∀ (r:List α) (k:Nat),s.drop k=r→F (k:Int)=if eqL p r (u.drop k)=true then K else some false
 | [],k,h=>by
  rw [hK k (W1 h).1,List.drop_eq_nil_of_le (by have:=(W1 h).2; omega)]; rfl
 | x::r,k,h=>by
  obtain ⟨e1,e2,e3,e4,e5⟩:=I2 h
  obtain ⟨y,f1,f2,f3⟩:=W12 (l:=u) (k:=k) (by omega)
  rw [hF k x y e5 e2 f1 e1,w1 (by omega),U1p s u hs hl p F K hF hK r (k+1) e3,f2,eqL]
  cases p x y <;> simp
theorem Q17 {α:Type}(s u:List α)(hs:s.length≤BB)(hl:s.length=u.length)(p:α→α→Bool)(F:Int→Option Bool)(K:Option Bool)
  (hF:∀ (k:Nat) x y,x∈s→idx s k=some x→idx u k=some y→decide ((k:Int) < (s.length:Int))=true→F k=if p x y=true then F (IntKind.i64.wrap ((k:Int)+1)) else some false)
  (hK:∀ k:Nat,decide ((k:Int) < (s.length:Int))=false→F k=K):F 0=if eqL p s u=true then K else some false:=
 U1p s u hs hl p F K hF hK s 0 rfl
theorem T1v (b:Bool):(if b=true then some true else some false:Option Bool)=some b:=by cases b <;> rfl
mutual
def B0.same:B0→B0→Bool
 | .mk v pl va nm ar n lo hi ns th el,t=>(v == t.Verb&&nm == t.Name&&n == t.NV&&lo == t.Low&&hi == t.High)&&eqL (fun x y=>x == y) ns t.Numbers&&pl.same t.Place&&va.same t.Value&&eqL A0.same ar t.Args&&B0.sames th t.Then&&B0.sames el t.Else
def B0.sames:List B0→List B0→Bool
 | [],[]=>true
 | x::r,y::s=>B0.same x y&&B0.sames r s
 | [],_::_=>false
 | _::_,[]=>false
end
theorem B0.sames_eq:∀ l m:List B0,B0.sames l m=eqL B0.same l m
 | [],[]=>rfl
 | x::r,y::s=>by simp only [B0.sames,eqL,B0.sames_eq r s]
 | [],_::_=>rfl
 | _::_,[]=>rfl
def stA (s t:B0):Bool:=s.Verb == t.Verb&&s.Name == t.Name&&s.NV == t.NV&&s.Low == t.Low&&s.High == t.High
theorem B0.same_eq (s t:B0):s.same t=(stA s t&&eqL (fun x y=>x == y) s.Numbers t.Numbers&&s.Place.same t.Place&&s.Value.same t.Value&&eqL A0.same s.Args t.Args&&B0.sames s.Then t.Then&&B0.sames s.Else t.Else):=by
 cases s; rfl
theorem nbo (a b:Bool):(bif !a then true else !b) = !(a&&b):=by cases a <;> rfl
theorem G1u (a b:Bool):(bif a then b else false)=(a&&b):=by cases a <;> rfl
theorem M1s {α:Type}[Inhabited α](c:Bool)(X:Option α){a:α}(h:X=some a):(if c=true then X else some default)=some (bif c then a else default):=by subst h; cases c <;> rfl
theorem F1y {α β:Type}(l:List α)(m:List β):((l.length:Int) == (m.length:Int))=(l.length == m.length):=by
 by_cases h:l.length=m.length
 ·simp [h]
 ·rw [zqn.mpr h,zqn.mpr (by omega)]
theorem Y18 (l:List B0):OkS l→∀ m,M7 l m=some (B0.sames l m):=by
 induction l using B0.inds with
 | h l ih=>
 intro hl m
 rw [M7,B0.sames_eq]
 by_cases hh:l.length=m.length
 ·rw [zn (by simp; omega),Q17 l m hl.len hh B0.same (Cb l m) (some true)
   (fun k x y hx h1 h2 h3=>by
    have ho:=hl.mem hx
    obtain ⟨i1,i2⟩:=ih x hx
    rw [Cb,h3,zp rfl,h1,ob,h2,ob]
    simp only [bne,nbo,B0.same_eq,F1y]
    unfold stA
    generalize (x.Verb == y.Verb&&x.Name == y.Name&&x.NV == y.NV&&x.Low == y.Low&&x.High == y.High)=A
    cases A with
    | false=>simp
    | true=>
    by_cases g1:x.Args.length=y.Args.length
    ·by_cases g2:x.Numbers.length=y.Numbers.length
     ·rw [beq_iff_eq.mpr g1,beq_iff_eq.mpr g2,zn (by simp),
       Q17 x.Args y.Args ho.args g1 A0.same (Db l m x y k) (K8 l m x y k 0)
        (fun j a b ha q1 q2 q3=>by rw [Db,q3,zp rfl,q1,ob,q2,ob,Km a (ho.arg a ha),ob]; cases a.same b <;> simp)
        (fun j h=>by rw [Db,h,zn (by simp)]),
       Q17 x.Numbers y.Numbers ho.nums g2 (fun x y=>x == y) (K8 l m x y k) _
        (fun j a b ha q1 q2 q3=>by rw [K8,q3,zp rfl,q1,ob,q2,ob]; unfold bne; cases a == b <;> simp)
        (fun j h=>by rw [K8,h,zn (by simp)])]
      simp only [nbo,Km _ ho.place,Km _ ho.value,i1 ho.thens,i2 ho.elses,M1s _ _ rfl,ob]
      generalize eqL (fun x y=>x == y) x.Numbers y.Numbers=b
      generalize x.Place.same y.Place=c
      generalize x.Value.same y.Value=d
      generalize eqL A0.same x.Args y.Args=e
      generalize B0.sames x.Then y.Then=f
      generalize B0.sames x.Else y.Else=g
      cases b <;> cases c <;> cases d <;> cases e <;> cases f <;> cases g <;> rfl
     ·rw [Ej _ g2,zqn.mpr g2]; simp
    ·rw [Ej _ g1,zqn.mpr g1]; simp)
   (fun k h=>by rw [Cb,h,zn (by simp)]),T1v]
 ·rw [zp (by simp; omega),Ej _ hh]
mutual
def C0.same:C0→C0→Bool
 | .mk k nm t i v ps vs bd,e=>(k == e.Kind&&nm == e.Name&&i == e.Init)&&t.same e.TypeV&&v.same e.Value&&C0.sames ps e.Params&&C0.sames vs e.Vars&&B0.sames bd e.Body
def C0.sames:List C0→List C0→Bool
 | [],[]=>true
 | x::r,y::s=>C0.same x y&&C0.sames r s
 | [],_::_=>false
 | _::_,[]=>false
end
theorem C0.sames_eq:∀ l m:List C0,C0.sames l m=eqL C0.same l m
 | [],[]=>rfl
 | x::r,y::s=>by simp only [C0.sames,eqL,C0.sames_eq r s]
 | [],_::_=>rfl
 | _::_,[]=>rfl
theorem C0.same_eq (s t:C0):s.same t=((s.Kind == t.Kind&&s.Name == t.Name&&s.Init == t.Init)&&s.TypeV.same t.TypeV&&s.Value.same t.Value&&C0.sames s.Params t.Params&&C0.sames s.Vars t.Vars&&B0.sames s.Body t.Body):=by
 cases s; rfl
theorem T1j (l:List C0):OkD l→∀ m,M9 l m=some (C0.sames l m):=by
 induction l using C0.inds with
 | h l ih=>
 intro hl m
 rw [M9,C0.sames_eq]
 by_cases hh:l.length=m.length
 ·rw [zn (by simp; omega),Q17 l m hl.len hh C0.same (Eb l m) (some true)
   (fun k x y hx h1 h2 h3=>by
    have ho:=hl.mem hx
    obtain ⟨i1,i2⟩:=ih x hx
    rw [Eb,h3,zp rfl,h1,ob,h2,ob]
    simp only [bne,nbo,G1u,C1f _ ho.type,Km _ ho.value,i1 ho.params,i2 ho.vars,Y18 _ ho.body,M1s _ _ rfl,ob,C0.same_eq]
    generalize (x.Kind == y.Kind&&x.Name == y.Name&&x.Init == y.Init)=A
    generalize x.TypeV.same y.TypeV=c
    generalize x.Value.same y.Value=d
    generalize C0.sames x.Params y.Params=e
    generalize C0.sames x.Vars y.Vars=f
    generalize B0.sames x.Body y.Body=g
    cases A <;> cases c <;> cases d <;> cases e <;> cases f <;> cases g <;> rfl)
   (fun k h=>by rw [Eb,h,zn (by simp)]),T1v]
 ·rw [zp (by simp; omega),Ej _ hh]
theorem D1c (l:List B0):B0.sames l l=true:=by
 induction l using B0.inds with
 | h l ih=>
 rw [B0.sames_eq]
 refine Ul l fun x hx=>?_
 obtain ⟨i1,i2⟩:=ih x hx
 rw [B0.same_eq,i1,i2,Rp,Rp,Ul x.Args (fun a _=>Rp a),Ul x.Numbers (fun a _=>by simp)]
 simp [stA]
theorem W1m (l:List C0):C0.sames l l=true:=by
 induction l using C0.inds with
 | h l ih=>
 rw [C0.sames_eq]
 refine Ul l fun x hx=>?_
 obtain ⟨i1,i2⟩:=ih x hx
 rw [C0.same_eq,i1,i2,Rp,B1p,D1c]
 simp
def A1g (p q:O0):Bool:=C0.sames p.Decls q.Decls&&B0.sames p.Body q.Body
theorem N1s (p q:O0)(h:OkP p):Cn p q=some (A1g p q):=by
 unfold Cn
 simp only [T1j _ h.decls,Y18 _ h.body,M1s _ _ rfl,ob,A1g]
 cases C0.sames p.Decls q.Decls <;> rfl
def skp:Bool→List UInt8→Nat
 | _,[]=>0
 | false,c::r=>if (c.toNat:Int) == 35 then skp true r+1 else if (c.toNat:Int) == 32||((c.toNat:Int) == 9||(c.toNat:Int) == 10) then skp false r+1 else 0
 | true,c::r=>if (c.toNat:Int) == 10 then skp false r+1 else skp true r+1
theorem T16:∀ (b:Bool) (r:List UInt8),skp b r≤r.length
 | true,[]=>zqr _
 | false,[]=>zqr _
 | false,c::r=>by
  have h1:=T16 true r
  have h2:=T16 false r
  simp only [skp,zqd]
  split
  ·omega
  ·split <;> omega
 | true,c::r=>by
  have h1:=T16 true r
  have h2:=T16 false r
  simp only [skp,zqd]
  split <;> omega
theorem Q1i (s:Str)(hs:s.length≤BB):∀ (r:Str) (k:Nat),s.drop k=r→Oe s k=some ((k+Q8 r:Nat):Int)
 | [],k,h=>by rw [Oe,(W1 h).1]; simp [Q8,ob]
 | c::r,k,h=>by
  obtain ⟨h1,h2,h3,h4,_⟩:=I2 h
  have ih:=Q1i s hs r (k+1) h3
  rw [Oe,h1,zp rfl,h2,ob,zp rfl,Fz,ob,w1 (by omega),ih]
  simp only [Q8,ld]
  cases hl:X6 c.toNat <;> cases hd:P8 c.toNat <;> simp [Zu,hd,ob] <;> omega
def nv (n:Nat)(l:List UInt8):Nat:=l.foldl (fun n c=>10 * n+(c.toNat - 48)) n
theorem U16 (n:Nat):nv n []=n:=rfl
theorem Jv (n:Nat)(c:UInt8)(r:List UInt8):nv n (c::r)=nv (10 * n+(c.toNat - 48)) r:=by unfold nv; rw [List.foldl_cons]
theorem F1x (r:List UInt8):∀ n:Nat,n≤nv n r:=by
 induction r with
 | nil=>intro n; rw [U16]; exact zqr _
 | cons c r ih=>intro n; rw [Jv]; have:=ih (10 * n+(c.toNat - 48)); omega
def X1m (n:Nat):Int:=if n > 1048576 then 3 else 0
theorem R1i {n:Nat}(h:n > 1048576):X1m n=3:=zp h
theorem Q1k {n:Nat}(h:n≤1048576):X1m n=0:=zn (by omega)
def Ev (w:List UInt8):Bool:=decide ((w.length:Int) > 1)&&((w.getD 0 0).toNat:Int) == 48
def T1d (w:List UInt8):Int:=if w.all (fun c=>P8 c.toNat) && !Ev w then X1m (nv 0 w) else 6
theorem Un {n:Nat}:P8 n=true ↔ 48≤n∧n≤57:=by
 unfold P8
 by_cases h:48≤n
 ·rw [show decide ((n:Int)≥48)=true from zqj (by omega),zqk,decide_eq_true_iff]; omega
 ·rw [show decide ((n:Int)≥48)=false from zqs (by omega),zql]; simp; omega
theorem U1v {c:UInt8}(h:P8 c.toNat=true):IntKind.i64.wrap (IntKind.u8.wrap ((c.toNat:Int) - 48))=((c.toNat - 48:Nat):Int):=by
 have:=Un.1 h
 rw [V1j (by omega) (by omega),wr (by omega) (by omega)]; omega
theorem L1f (s:Str)(n v7:Int):L8 s n v7=if (decide (v7 < ((s).length:Int)))=true then
  idx s v7>>=fun x1=>
  Nd (x1.toNat:Int)>>=fun x2=>
  if (!x2)=true then
   some 6
  else
   idx s v7>>=fun x3=>
   L8 s (min (IntKind.i64.wrap ((IntKind.i64.wrap (10 * n))+(IntKind.i64.wrap (IntKind.u8.wrap ((x3.toNat:Int) - 48))))) 1048577) (IntKind.i64.wrap (v7+1))
 else
  idx s 0>>=fun x4=>
  if (bif ((x4.toNat:Int) == 48) then (decide (((s).length:Int) > 1)) else false)=true then
   some 6
  else
   if (decide (n > 1048576))=true then
    some 3
   else
    some 0:=L8.eq_1 s n v7
theorem Y1m (s:Str)(hs:s.length≤BB)(hne:s≠[]):∀ (r:Str) (k m:Nat) (n:Int),s.drop k=r→(m≤1048576→n=m)→(m > 1048576→n=1048577)→
  L8 s n k=some (if r.all (fun c=>P8 c.toNat) && !Ev s then X1m (nv m r) else 6):=by
 intro r
 induction r with
 | nil=>
  intro k m n h hn hn'
  refine (L1f s n k).trans ?_
  rw [(W1 h).1,zn (by simp)]
  have h0:idx s 0=some (s.getD 0 0):=getD_some (List.length_pos_iff.2 hne)
  rw [h0,ob]
  have hb:(bif (((s.getD 0 0).toNat:Int) == 48) then decide ((s.length:Int) > 1) else false)=Ev s:=by
   unfold Ev
   cases ((s.getD 0 0).toNat:Int) == 48 <;> simp
  rw [hb]
  rw [U16,List.all_nil,Bool.true_and]
  rcases Bool.eq_false_or_eq_true (Ev s) with hz | hz
  ·rw [hz,zp rfl,zqf,zn (by simp)]
  ·rw [hz,zn (by simp),zqg,zp rfl]
   rcases Nat.lt_or_ge 1048576 m with hm | hm
   ·rw [R1i hm,zp (zqj (by have:=hn' hm; omega))]
   ·rw [Q1k hm,zn (by have:=hn hm; simp; omega)]
 | cons c r ihr=>
  intro k m n h hn hn'
  obtain ⟨h1,h2,h3,h4,_⟩:=I2 h
  refine (L1f s n k).trans ?_
  rw [h1,zp rfl,h2,ob,Zu,ob]
  cases hd:P8 c.toNat with
  | false=>simp [hd]
  | true=>
   have hc:=Un.1 hd
   have hnn:0≤n∧n≤1048577:=by
    by_cases hm:m > 1048576
    ·have:=hn' hm; omega
    ·have:=hn (Nat.le_of_not_lt hm); omega
   have e:IntKind.i64.wrap (IntKind.i64.wrap (10 * n)+IntKind.i64.wrap (IntKind.u8.wrap ((c.toNat:Int) - 48)))=10 * n+((c.toNat - 48:Nat):Int):=by
    rw [U1v hd,wr (n:=10 * _) (by omega) (by omega),wr (by omega) (by omega)]
   have ih:=ihr (k+1) (10 * m+(c.toNat - 48)) (min (10 * n+((c.toNat - 48:Nat):Int)) 1048577) h3 (fun hm=>by have:=hn (by omega); omega) (fun hm=>by
    by_cases hm2:m > 1048576
    ·have:=hn' hm2; omega
    ·have:=hn (Nat.le_of_not_lt hm2); omega)
   simp only [zqf,zqa,zw,ob,e,w1 (show k≤BB by omega)]
   rw [ih,List.all_cons,hd,Bool.true_and]
   rw [Jv]
theorem Z1m (s:Str)(hs:s.length≤BB)(hne:s≠[]):Cp s=some (T1d s):=Y1m s hs hne s 0 0 0 rfl (fun _=>rfl) (fun h=>by omega)
def Vn (s:List UInt8):Bool:=s == [46,46]||s == [61,61]||s == [33,61]||s == [60,61]||s == [62,61]||s == [38,38]||s == [124,124]
def A1n:List UInt8:=[59,58,44,46,61,43,45,42,47,37,60,62,33,63,40,41,91,93,123,125]
def Zw (c:UInt8):Bool:=A1n.contains c
theorem V1p (c:UInt8):∀ l:List UInt8,0≤Lib.indexByte l c ↔ l.contains c=true
 | []=>by simp [Lib.indexByte]
 | b::l=>by
  have ih:=V1p c l
  have hg:=Lib.indexByte_ge l c
  by_cases hb:b=c
  ·subst hb
   simp [Lib.indexByte]
  ·have h1:(b == c)=false:=zqn.2 hb
   have h2:(c == b)=false:=zqn.2 fun e=>hb e.symm
   unfold Lib.indexByte
   rw [h1,List.contains_cons,h2,Bool.false_or,← ih,zn (by simp)]
   by_cases h:Lib.indexByte l c = -1
   ·rw [zp (by rw [h]; rfl),h]
   ·rw [zn (by simpa using h)]
    omega
theorem G1x (c:UInt8)(l:List UInt8):decide (Lib.indexByte l c≥0)=l.contains c:=by
 rw [Bool.eq_iff_iff,decide_eq_true_iff]
 exact V1p c l
theorem A13 {s r:List UInt8}{k n:Nat}(h:s.drop k=r)(hk:k≤s.length)(hn:n≤r.length):slc s (k:Int) ((k+n:Nat):Int)=some (r.take n):=by
 have hl:r.length=s.length - k:=by rw [← h,List.length_drop]
 unfold slc
 rw [zp ⟨by omega,by omega,by omega⟩,← h]
 simp only [Int.toNat_natCast]
 rw [List.drop_take]
 congr 2
 congr 1
 omega
theorem E1c (c:UInt8)(r:Str):Eh (c::r)=some (if Zw c then [c] else []):=by
 unfold Eh
 have h0:idx (c::r) 0=some c:=rfl
 rw [h0,ob]
 have hb:=G1x c A1n
 unfold Oy
 rw [ob]
 have e:((c.toNat:Int).toNat.toUInt8)=c:=by simp
 rw [e]
 unfold A1n at hb
 rw [hb]
 unfold Zw A1n
 have h1:slc (c::r) 0 1=some [c]:=by
  have:=A13 (s:=c::r) (k:=0) (n:=1) rfl (by omega) (by simp)
  simpa using this
 rw [h1]
 split <;> rfl
theorem O1s (c:UInt8):Vj [c]=some (if Zw c then [c] else []):=by
 unfold Vj
 rw [zn (by simp)]
 exact E1c c []
theorem P1s (a b:UInt8)(r:Str):Vj (a::b::r)=some (if Vn [a,b] then [a,b] else if Zw a then [a] else []):=by
 unfold Vj
 have h2:slc (a::b::r) 0 2=some [a,b]:=by
  have:=A13 (s:=a::b::r) (k:=0) (n:=2) rfl (by omega) (by simp)
  simpa using this
 rw [zp (zqj (by simp only [zqd]; omega)),h2,ob]
 unfold Q9 Vn
 rw [h2,E1c]
 cases ([a,b] == [46,46]:Bool) <;> cases ([a,b] == [61,61]:Bool) <;> cases ([a,b] == [33,61]:Bool) <;> cases ([a,b] == [60,61]:Bool) <;> cases ([a,b] == [62,61]:Bool) <;> cases ([a,b] == [38,38]:Bool) <;> cases ([a,b] == [124,124]:Bool) <;> simp [ob]
def nxt (r:List UInt8)(k:Int):K0×Int:=
 if X6 (r.getD 0 0).toNat then
  if Er (r.take (Q8 r)) then (K0.mk 2 (r.take (Q8 r)) k,0)
  else if decide (((r.take (Q8 r)).length:Int) > 12) then (K0.mk 0 (r.take (Q8 r)) k,7)
  else (K0.mk 0 (r.take (Q8 r)) k,0)
 else if P8 (r.getD 0 0).toNat then (K0.mk 1 (r.take (Q8 r)) k,T1d (r.take (Q8 r)))
 else if decide (2≤r.length)&&Vn (r.take 2) then (K0.mk 3 (r.take 2) k,0)
 else if Zw (r.getD 0 0) then (K0.mk 3 [r.getD 0 0] k,0)
 else (K0.mk 3 [] k,6)
theorem H1a {c:UInt8}{t:List UInt8}(h:ld c=true):1≤Q8 (c::t):=by simp [Q8,h]
theorem H1u (s:Str)(hs8:s.length≤8192){c:UInt8}{t:Str}{k:Nat}(h:s.drop k=c::t):Em s k=some (nxt (c::t) k):=by
 have hs:s.length≤BB:=by unfold BB; omega
 obtain ⟨h1,h2,h3,h4,_⟩:=I2 h
 have hle:=O17 (c::t)
 have hlen:(c::t).length=s.length - k:=by rw [← h,List.length_drop]
 have hrun:Ps s k=some ((k+Q8 (c::t):Nat):Int):=Q1i s hs _ k h
 have hslc:=A13 h (by omega) hle
 have ht8:((c::t).take (Q8 (c::t))).length≤8192:=by rw [List.length_take]; omega
 have htl:((c::t).take (Q8 (c::t))).length≤BB:=by unfold BB; omega
 unfold Em nxt
 rw [h2,ob,Fz,ob,hrun]
 simp only [List.getD_cons_zero]
 cases hl:X6 c.toNat with
 | true=>
  simp only [zt,ob,hslc]
  rw [show Zd ((c::t).take (Q8 (c::t)))=some (Er ((c::t).take (Q8 (c::t)))) from U18 _ (by omega),ob]
  cases Er ((c::t).take (Q8 (c::t))) with
  | true=>rfl
  | false=>
   cases decide ((((c::t).take (Q8 (c::t))).length:Int) > 12) <;> rfl
 | false=>
  simp only [zqa,zw,Zu,ob]
  cases hd:P8 c.toNat with
  | true=>
   simp only [zt,ob,hslc]
   have hld:ld c=true:=by unfold ld; rw [hl,hd]; rfl
   have hp:=H1a (t:=t) hld
   rw [Z1m _ htl (by intro he; have:=congrArg List.length he; rw [List.length_take] at this; simp at this; omega)]
   rfl
  | false=>
   simp only [zqa,zw]
   have hsl:slc s (k:Int) ((s.length:Nat):Int)=some (c::t):=by
    have:=A13 (n:=(c::t).length) h (by omega) (zqr _)
    rw [List.take_length] at this
    rw [← this,hlen]
    congr 1; omega
   rw [hsl,ob]
   cases t with
   | nil=>
    rw [O1s,ob]
    cases Zw c <;> rfl
   | cons b t=>
    rw [P1s,ob]
    cases hz:Vn [c,b] with
    | true=>simp [hz]
    | false=>cases hy:Zw c <;> simp [hz,hy]
def Wh:Nat→List UInt8→Nat→List K0×Int×Int
 | 0,_,_=>([],0,0)
 | n+1,r,k=>
  match r.drop (skp false r) with
  | []=>([],0,0)
  | c::t=>
   let x:=nxt (c::t) ((k+skp false r:Nat):Int)
   if x.2=0 then
    let z:=Wh n ((c::t).drop x.1.Text.length) (k+skp false r+x.1.Text.length)
    if z.2.2=0 then (x.1::z.1,0,0) else z
   else ([],((k+skp false r:Nat):Int),x.2)
theorem Zj {c:UInt8}{t:List UInt8}{k:Int}(h:(nxt (c::t) k).2=0):1≤(nxt (c::t) k).1.Text.length∧(nxt (c::t) k).1.Text.length≤(c::t).length∧(nxt (c::t) k).1.At=k∧(c::t).take (nxt (c::t) k).1.Text.length=(nxt (c::t) k).1.Text:=by
 have hle:=O17 (c::t)
 have key:∀ {n:Nat},1≤n→n≤(c::t).length→1≤((c::t).take n).length∧((c::t).take n).length≤(c::t).length∧(c::t).take ((c::t).take n).length=(c::t).take n:=fun h1 h2=>by
  rw [List.length_take,Nat.min_eq_left h2]; exact ⟨h1,h2,rfl⟩
 revert h
 unfold nxt
 simp only [List.getD_cons_zero]
 cases hl:X6 c.toNat with
 | true=>
  have hld:ld c=true:=by unfold ld; rw [hl]; rfl
  obtain ⟨a1,a2,a3⟩:=key (H1a (t:=t) hld) hle
  simp only [zt]
  split
  ·exact fun _=>⟨a1,a2,rfl,a3⟩
  ·split
   ·intro h; cases h
   ·exact fun _=>⟨a1,a2,rfl,a3⟩
 | false=>
  simp only [zqa,zw]
  cases hd:P8 c.toNat with
  | true=>
   have hld:ld c=true:=by unfold ld; rw [hl,hd]; rfl
   obtain ⟨a1,a2,a3⟩:=key (H1a (t:=t) hld) hle
   exact fun _=>⟨a1,a2,rfl,a3⟩
  | false=>
   simp only [zqa,zw]
   split
   ·rename_i h2
    rw [zqi] at h2
    obtain ⟨a1,a2,a3⟩:=key (n:=2) (by omega) (of_decide_eq_true h2.1)
    exact fun _=>⟨a1,a2,rfl,a3⟩
   ·split
    ·exact fun _=>⟨by simp,by simp,rfl,by simp⟩
    ·intro h; cases h
def Ky (s:Str)(out:List K0)(k:Nat):Option (List K0×Int×Int):=
 if k < s.length then
  Em s k>>=fun x2=>
  if (x2.2 != 0)=true then some ([],(k:Int),x2.2)
  else if (decide ((out.length+1) * 33≤140737488355328))=true then J5 s (out++[x2.1]) (IntKind.i64.wrap ((k:Int)+((x2.1.Text).length:Int)))
  else none
 else some (out,0,0)
theorem W1p (s:Str)(hs:s.length≤BB)(out:List K0):∀ (r:Str) (k:Nat),s.drop k=r→J5 s out k=Ky s out (k+skp false r)∧Pe s out k=Ky s out (k+skp true r)
 | [],k,h=>by
  obtain ⟨h1,h2⟩:=W1 h
  have e1:J5 s out k=Ky s out (k+skp false []):=by
   rw [J5,h1,zn (by simp)]
   unfold Ky
   rw [zn (by simp [skp]; omega)]
  refine ⟨e1,?_⟩
  rw [Pe,h1]
  simpa [ob,skp] using e1
 | c::r,k,h=>by
  obtain ⟨h1,h2,h3,h4,_⟩:=I2 h
  obtain ⟨i1,i2⟩:=W1p s hs out r (k+1) h3
  have e2:((c.toNat:Int) == 10)=false→Pe s out k=Ky s out (k+skp true (c::r)):=fun hc=>by
   rw [Pe,h1,zp rfl,h2,ob]
   have:((c.toNat:Int) != 10)=true:=by simp only [bne,hc]; rfl
   rw [this,zqk,zp rfl,w1 (by omega),i2]
   simp only [skp,hc]
   congr 1
   simp; omega
  have e1:J5 s out k=Ky s out (k+skp false (c::r)):=by
   have hj:J5 s out k=Ki s out k c ((c.toNat:Int) == 32||((c.toNat:Int) == 9||(c.toNat:Int) == 10)):=by
    rw [J5,h1,zp rfl,h2,ob]
    cases h32:(c.toNat:Int) == 32 with
    | true=>rfl
    | false=>cases h9:(c.toNat:Int) == 9 <;> simp
   rw [hj,Ki]
   cases hb:((c.toNat:Int) == 32||((c.toNat:Int) == 9||(c.toNat:Int) == 10)) with
   | true=>
    have h35:((c.toNat:Int) == 35)=false:=by
     cases hx:(c.toNat:Int) == 35 with
     | false=>rfl
     | true=>rw [eq_of_beq hx] at hb; cases hb
    rw [zp rfl,w1 (by omega),i1]
    simp only [skp,h35,hb]
    congr 1
    simp; omega
   | false=>
    rw [zn (by simp)]
    cases h35:(c.toNat:Int) == 35 with
    | true=>
     rw [zp rfl,e2 (by have:=eq_of_beq h35; rw [this]; rfl)]
     have h10:((c.toNat:Int) == 10)=false:=by have:=eq_of_beq h35; rw [this]; rfl
     simp [skp,h35,h10]
    | false=>
     rw [zn (by simp)]
     simp only [skp,h35,hb]
     unfold Ky
     rw [zp (by simpa using h4)]
     rfl
  refine ⟨e1,?_⟩
  cases h10:(c.toNat:Int) == 10 with
  | false=>exact e2 h10
  | true=>
   rw [Pe,h1,zp rfl,h2,ob]
   have:((c.toNat:Int) != 10)=false:=by simp only [bne,h10]; rfl
   rw [this,zqk,zn (by simp),e1]
   have h35:((c.toNat:Int) == 35)=false:=by have:=eq_of_beq h10; rw [this]; rfl
   simp [skp,h10,h35]
theorem I1u:∀ (n:Nat) (r:List UInt8) (k:Nat),(Wh n r k).2.2=0→(Wh n r k).2=(0,0)
 | 0,_,_,_=>rfl
 | n+1,r,k,h=>by
  revert h
  unfold Wh
  split
  ·exact fun _=>rfl
  ·rename_i c t _
   simp only
   split
   ·split
    ·exact fun _=>rfl
    ·rename_i hz
     exact fun h=>absurd h hz
   ·rename_i hx
    exact fun h=>absurd h hx
def Kv (out:List K0)(z:List K0×Int×Int):List K0×Int×Int:=if z.2.2=0 then (out++z.1,0,0) else z
theorem S1i (s:Str)(hs8:s.length≤8192):∀ (n k:Nat) (out:List K0),s.length - k < n→k≤s.length→out.length≤k→J5 s out k=some (Kv out (Wh n (s.drop k) k))
 | 0,k,out,h,_,_=>by omega
 | n+1,k,out,h,hk,ho=>by
  have hs:s.length≤BB:=by unfold BB; omega
  have hb:=T16 false (s.drop k)
  rw [List.length_drop] at hb
  rw [(W1p s hs out _ k rfl).1]
  generalize hj:k+skp false (s.drop k)=j at *
  have hdj:(s.drop k).drop (skp false (s.drop k))=s.drop j:=by rw [List.drop_drop,hj]
  unfold Ky
  unfold Wh
  rw [hdj,hj]
  cases hd:s.drop j with
  | nil=>
   obtain ⟨h1,h2⟩:=W1 hd
   rw [zn (by omega)]
   unfold Kv
   simp
  | cons c t=>
   obtain ⟨h1,h2,h3,h4,_⟩:=I2 hd
   rw [zp h4,H1u s hs8 hd,ob]
   simp only
   by_cases hx:(nxt (c::t) (j:Int)).2=0
   ·obtain ⟨b1,b2,b3,b4⟩:=Zj hx
    have hlen:(c::t).length=s.length - j:=by rw [← hd,List.length_drop]
    rw [zp hx]
    have hne:((nxt (c::t) (j:Int)).2 != 0)=false:=by rw [hx]; rfl
    have hroom:decide ((out.length+1) * 33≤140737488355328)=true:=zqj (by omega)
    simp only [hne,hroom,zqa,zw,zt]
    generalize hxx:nxt (c::t) (j:Int)=x at *
    rw [wr (by omega) (by omega),show (j:Int)+((x.1.Text).length:Int)=((j+x.1.Text.length:Nat):Int) from rfl]
    have hdd:(c::t).drop x.1.Text.length=s.drop (j+x.1.Text.length):=by rw [← hd,List.drop_drop]
    rw [hdd,S1i s hs8 n (j+x.1.Text.length) (out++[x.1]) (by omega) (by omega) (by rw [zqc]; have:[x.1].length=1:=rfl; omega)]
    generalize Wh n (s.drop (j+x.1.Text.length)) (j+x.1.Text.length)=z
    unfold Kv
    by_cases hz:z.2.2=0
    ·rw [zp hz,zp hz,zp rfl,List.append_assoc]
     rfl
    ·rw [zn hz,zn hz,zn hz]
   ·have hne:((nxt (c::t) (j:Int)).2 != 0)=true:=by simpa using hx
    rw [zn hx,hne,zp rfl]
    unfold Kv
    simp [hx]
def N5 (s:Str):List K0×Int×Int:=if s.length > 8192 then ([],0,5) else Wh (s.length+1) s 0
theorem Q1s (s:Str):Kv [] (Wh (s.length+1) s 0)=Wh (s.length+1) s 0:=by
 unfold Kv
 split
 ·rename_i hz
  have:=I1u _ _ _ hz
  rw [List.nil_append,← this]
 ·rfl
theorem R1k (s:Str):Co s=some (N5 s):=by
 unfold Co N5
 by_cases h:s.length > 8192
 ·rw [zp h]; simp [h]; omega
 ·have h1:decide ((s.length:Int) > 8192)=false:=zqs (by omega)
  have i1:=S1i s (by omega) (s.length+1) 0 [] (by omega) (by omega) (by simp)
  rw [h1,zn (by simp),zn h]
  rw [List.drop_zero,Q1s] at i1
  exact i1
abbrev mk (l:List K0)(k:Nat)(e:Int):D0:=D0.mk l (k:Int) e
theorem Up {α:Type}(l:List α)(k:Nat):idx l (k:Int)=l[k]?:=by
 unfold idx
 rw [zp (by omega)]
 simp
theorem Fj {α:Type}{l:List α}{k:Nat}{x:α}(h:l[k]?=some x):k < l.length:=(zqu.1 h).1
theorem S1k {α:Type}{l:List α}{k:Nat}(h:l[k]?=none):l.length≤k:=List.getElem?_eq_none_iff.1 h
theorem dlt {α:Type}{l:List α}{k:Nat}{x:α}(h:l[k]?=some x):decide ((k:Int) < (l.length:Int))=true:=by have:=Fj h; exact zqj (by omega)
theorem B1n {α:Type}{l:List α}{k:Nat}(h:l[k]?=none):decide ((k:Int) < (l.length:Int))=false:=by have:=S1k h; exact zqs (by omega)
theorem dge {α:Type}{l:List α}{k:Nat}{x:α}(h:l[k]?=some x):decide ((k:Int)≥(l.length:Int))=false:=by have:=Fj h; exact zqs (by omega)
theorem C1n {α:Type}{l:List α}{k:Nat}(h:l[k]?=none):decide ((k:Int)≥(l.length:Int))=true:=by have:=S1k h; exact zqj (by omega)
def isT (l:List K0)(k:Nat)(t:Str):Bool:=match l[k]? with
 | some x=>x.Text == t&&(x.Kind == 2||x.Kind == 3)
 | none=>false
def L3 (l:List K0)(k:Nat)(c:Int):Bool:=match l[k]? with
 | some x=>x.Kind == c
 | none=>false
def txt (l:List K0)(k:Nat):Str:=match l[k]? with
 | some x=>x.Text
 | none=>[]
def off (l:List K0)(e:Int)(k:Nat):Int:=match l[k]? with
 | some x=>x.At
 | none=>e
def step (b:Bool)(k:Nat):Nat:=bif b then k+1 else k
theorem Q3 (k:Nat):step true k=k+1:=rfl
theorem Z2 (k:Nat):step false k=k:=rfl
theorem N1 {l:List K0}{k:Nat}{t:Str}(h:isT l k t=true):k < l.length:=by
 unfold isT at h
 split at h
 ·rename_i hx; exact Fj hx
 ·cases h
theorem T6 {l:List K0}{k:Nat}{c:Int}(h:L3 l k c=true):k < l.length:=by
 unfold L3 at h
 split at h
 ·rename_i hx; exact Fj hx
 ·cases h
theorem O7 {l:List K0}{k:Nat}{t:Str}(h:isT l k t=true):L3 l k 0=false∧L3 l k 1=false∧txt l k=t:=by
 unfold isT at h
 unfold L3 txt
 split at h
 ·rename_i x hx
  rw [zqi] at h
  have ht:=eq_of_beq h.1
  rw [Bool.or_eq_true] at h
  rcases h.2 with h2 | h2 <;> rw [eq_of_beq h2] <;> exact ⟨rfl,rfl,ht⟩
 ·cases h
theorem S8 {l:List K0}{k:Nat}{t t':Str}(h:isT l k t=true)(hn:(t == t')=false):isT l k t'=false:=by
 cases h':isT l k t' with
 | false=>rfl
 | true=>
  have:=(O7 h).2.2.symm.trans (O7 h').2.2
  rw [this] at hn
  simp at hn
theorem V16 {l:List K0}{k:Nat}(h:L3 l k 0=true)(t:Str):isT l k t=false:=by
 cases h':isT l k t with
 | false=>rfl
 | true=>rw [(O7 h').1] at h; cases h
section
variable (l:List K0)(e:Int)(hl:l.length≤BB)
include hl
theorem V1v (k:Nat)(t:Str):Ae t (mk l k e)=some (isT l k t):=by
 unfold Ae isT
 simp only
 cases h:l[k]? with
 | none=>rw [C1n h,zp rfl]
 | some x=>
  rw [dge h,zn (by simp),Up,h,ob]
  show some _=some (x.Text == t&&(x.Kind == 2||x.Kind == 3))
  cases x.Text == t <;> cases x.Kind == 2 <;> rfl
theorem F2 (k:Nat)(t:Str):S0 t (mk l k e)=some (isT l k t,mk l (step (isT l k t) k) e):=by
 unfold S0
 rw [V1v l e hl,ob]
 cases h:isT l k t with
 | false=>rfl
 | true=>
  have:=N1 h
  simp only [zqf,zqa,zw]
  rw [w1 (by omega)]
  rfl
theorem B13 (k:Nat):G7 (mk l k e)=some (L3 l k 0):=by
 unfold G7 L3
 simp only
 cases h:l[k]? with
 | none=>rw [B1n h,zn (by simp),ob]; rfl
 | some x=>rw [dlt h,zp rfl,Up,h,ob]; rfl
theorem F1c (k:Nat):Y6 (mk l k e)=some (.pn (off l e k)):=by
 unfold Y6 off
 simp only
 cases h:l[k]? with
 | none=>rw [B1n h,zn (by simp)]
 | some x=>rw [dlt h,zp rfl,Up,h,ob]
theorem X1p (k:Nat)(c:Int):Yb c (mk l k e)=if L3 l k c=true then some (.ok (txt l k,mk l (k+1) e)) else some (.pn (off l e k)):=by
 unfold Yb
 rw [F1c l e hl,ob]
 unfold L3 txt
 simp only
 cases h:l[k]? with
 | none=>rw [C1n h,zqf,zn (by simp),ob,zqk,zp rfl,zn (by simp)]
 | some x=>
  have:=Fj h
  rw [dge h,zqg,zp rfl,Up,h,ob,zql]
  cases hk:x.Kind == c with
  | false=>simp only [bne,hk,zqg,zt,zqa,zw]
  | true=>
   simp only [bne,hk,zqf,zqa,zw,zt]
   unfold Xb
   simp only
   rw [w1 (by omega),wr (n:=((k+1:Nat):Int) - 1) (by omega) (by unfold BB at *; omega),show ((k+1:Nat):Int) - 1=(k:Int) by omega,Up,h,ob]
theorem Yl (k:Nat):Y2 (mk l k e)=if L3 l k 0=true then some (.ok (txt l k,mk l (k+1) e)) else some (.pn (off l e k)):=by
 unfold Y2
 rw [X1p l e hl]
 cases L3 l k 0 <;> rfl
theorem J3 (k:Nat)(t:Str):U0 t (mk l k e)=if isT l k t=true then some (.ok (mk l (k+1) e)) else some (.pn (off l e k)):=by
 unfold U0
 rw [F2 l e hl,ob]
 cases h:isT l k t with
 | true=>rfl
 | false=>
  simp only [zqg,zt,step,zql,zqa,zw]
  rw [F1c l e hl,ob]
theorem Y0 (k:Nat)(t:Str):B1 l k t=some (isT l k t):=by
 unfold B1 isT
 cases h:l[k]? with
 | none=>rw [B1n h]; rfl
 | some x=>
  rw [dlt h,Up,h]
  simp only [zt,ob,Bool.true_and,zqk]
  by_cases h2:x.Kind=2 <;> by_cases h3:x.Kind=3 <;> by_cases ht:x.Text=t <;> first | (simp [ob,h2,h3,ht]; done) | (simp [ob,h2,h3,ht]; rw [zqn.2 h2,zqn.2 h3]; simp)
theorem D7 (k:Nat):Lb l k=if L3 l k 0=true then some (txt l k,((k+1:Nat):Int),true) else some ([],(k:Int),false):=by
 unfold Lb L3 txt
 cases h:l[k]? with
 | none=>rw [B1n h]; rfl
 | some x=>
  have:=Fj h
  rw [dlt h,Up,h,zp rfl,ob,zqk,w1 (by omega)]
  show _=if (x.Kind == 0)=true then some (x.Text,((k+1:Nat):Int),true) else some ([],(k:Int),false)
  cases h2:x.Kind == 0 <;> rfl
end
structure Tok (x:K0):Prop where
 len:x.Text.length≤8192
 word:x.Kind=2→∃ c t,x.Text=c::t∧X6 c.toNat=true
 num:x.Kind=1→x.Text≠[]∧x.Text.all (fun c=>P8 c.toNat)=true∧x.Text.length≤7∧nv 0 x.Text≤1048576
def Ee (l:List K0):Prop:=l.length≤BB∧∀ x∈l,Tok x
theorem Gj {l:List K0}(h:Ee l)(k:Nat):(txt l k).length≤8192:=by
 unfold txt
 cases hx:l[k]? with
 | none=>simp
 | some x=>exact (h.2 x (List.mem_of_getElem? hx)).len
def isS (l:List K0)(k:Nat)(t:Str):Bool:=match l[k]? with
 | some x=>x.Kind == 3&&x.Text == t
 | none=>false
def H1t (t:Str):Bool:=match t with
 | c::_=>!X6 c.toNat
 | []=>true
theorem Ig {l:List K0}(h:Ee l){k:Nat}{t:Str}(ht:H1t t=true):isT l k t=isS l k t:=by
 unfold isT isS
 cases hx:l[k]? with
 | none=>rfl
 | some x=>
  simp only
  by_cases h2:x.Kind=2
  ·obtain ⟨c,r,e,hc⟩:=(h.2 x (List.mem_of_getElem? hx)).word h2
   have:(x.Text == t)=false:=zqn.2 fun he=>by
    rw [← he,e] at ht
    simp [H1t,hc] at ht
   rw [this,h2]
   rfl
  ·rw [zqn.2 h2,Bool.false_or,Bool.and_comm]
def opT (t:Str):Int×Int:=
 if t == [124,124] then (20,1) else if t == [38,38] then (19,2) else if t == [61,61] then (13,3) else if t == [33,61] then (14,3) else if t == [60] then (15,3) else if t == [60,61] then (16,3)
 else if t == [62] then (17,3) else if t == [62,61] then (18,3) else if t == [43] then (8,4) else if t == [45] then (9,4) else if t == [42] then (10,5) else if t == [47] then (11,5) else if t == [37] then (12,5) else (0,0)
def ops:List Str:=[[124,124],[38,38],[61,61],[33,61],[60],[60,61],[62],[62,61],[43],[45],[42],[47],[37]]
theorem Vp (t:Str):t∈ops∨∀ s∈ops,(t == s)=false:=by
 by_cases h:t∈ops
 ·exact .inl h
 ·exact .inr fun s hs=>zqn.2 fun e=>h (e ▸ hs)
theorem Ug (l:List K0)(k:Nat)(n:Int):S4 l k n=some (match l[k]? with
  | some x=>if x.Kind == 3 then ((opT x.Text).1,(opT x.Text).2 == n) else (0,false)
  | none=>(0,false)):=by
 unfold S4
 cases h:l[k]? with
 | none=>rw [C1n h,zqf,zn (by simp),ob,zqk,zp rfl]
 | some x=>
  rw [dge h,zqg,zp rfl,Up,h,ob,zql]
  cases h3:x.Kind == 3 with
  | false=>simp only [bne,h3,zqg,zt,zqa,zw]
  | true=>
   simp only [bne,h3,zqf,zqa,zw,zt,ob]
   unfold opT
   generalize (x.Text == [124,124])=b0
   generalize (x.Text == [38,38])=b1
   generalize (x.Text == [61,61])=b2
   generalize (x.Text == [33,61])=b3
   generalize (x.Text == [60])=b4
   generalize (x.Text == [60,61])=b5
   generalize (x.Text == [62])=b6
   generalize (x.Text == [62,61])=b7
   generalize (x.Text == [43])=b8
   generalize (x.Text == [45])=b9
   generalize (x.Text == [42])=b10
   generalize (x.Text == [47])=b11
   generalize (x.Text == [37])=b12
   cases b0 with
   | true=>rfl
   | false=>
    cases b1 with
    | true=>rfl
    | false=>
     cases b2 with
     | true=>rfl
     | false=>
      cases b3 with
      | true=>rfl
      | false=>
       cases b4 with
       | true=>rfl
       | false=>
        cases b5 with
        | true=>rfl
        | false=>
         cases b6 with
         | true=>rfl
         | false=>
          cases b7 with
          | true=>rfl
          | false=>
           cases b8 with
           | true=>rfl
           | false=>
            cases b9 with
            | true=>rfl
            | false=>
             cases b10 with
             | true=>rfl
             | false=>
              cases b11 with
              | true=>rfl
              | false=>
               cases b12 with
               | true=>rfl
               | false=>
                rfl
theorem Ax (op:Int)(a b:A0):Vu op a b=some (A0.mk op 0 [] [a,b]):=rfl
theorem Bx {t:Str}(h:∀ s∈ops,(t == s)=false):opT t=(0,0):=by
 unfold opT
 have a:=fun s hs=>h s hs
 rw [a [124,124] (by decide),a [38,38] (by decide),a [61,61] (by decide),a [33,61] (by decide),a [60] (by decide),a [60,61] (by decide),a [62] (by decide),a [62,61] (by decide),a [43] (by decide),a [45] (by decide),a [42] (by decide),a [47] (by decide),a [37] (by decide)]
 rfl
theorem H1x (t:Str):((opT t).2 == 1)=(t == [124,124])∧(((opT t).2 == 1)=true→(opT t).1=(20:Int)):=by
 rcases Vp t with h | h
 ·simp only [ops,List.mem_cons,List.not_mem_nil,or_false] at h
  rcases h with rfl | rfl | rfl | rfl | rfl | rfl | rfl | rfl | rfl | rfl | rfl | rfl | rfl <;> decide
 ·rw [Bx h,h [124,124] (by decide)]
  decide
theorem W1v (t:Str):((opT t).2 == 2)=(t == [38,38])∧(((opT t).2 == 2)=true→(opT t).1=(19:Int)):=by
 rcases Vp t with h | h
 ·simp only [ops,List.mem_cons,List.not_mem_nil,or_false] at h
  rcases h with rfl | rfl | rfl | rfl | rfl | rfl | rfl | rfl | rfl | rfl | rfl | rfl | rfl <;> decide
 ·rw [Bx h,h [38,38] (by decide)]
  decide
theorem X1v (t:Str):((opT t).2 == 4)=(t == [43]||t == [45])∧(((opT t).2 == 4)=true→(opT t).1=(if t == [43] then 8 else 9:Int)):=by
 rcases Vp t with h | h
 ·simp only [ops,List.mem_cons,List.not_mem_nil,or_false] at h
  rcases h with rfl | rfl | rfl | rfl | rfl | rfl | rfl | rfl | rfl | rfl | rfl | rfl | rfl <;> decide
 ·rw [Bx h,h [43] (by decide),h [45] (by decide)]
  decide
theorem J1u (t:Str):((opT t).2 == 5)=(t == [42]||t == [47]||t == [37])∧(((opT t).2 == 5)=true→(opT t).1=(if t == [42] then 10 else if t == [47] then 11 else 12:Int)):=by
 rcases Vp t with h | h
 ·simp only [ops,List.mem_cons,List.not_mem_nil,or_false] at h
  rcases h with rfl | rfl | rfl | rfl | rfl | rfl | rfl | rfl | rfl | rfl | rfl | rfl | rfl <;> decide
 ·rw [Bx h,h [42] (by decide),h [47] (by decide),h [37] (by decide)]
  decide
theorem Y1v (t:Str):((opT t).2 == 3)=(t == [61,61]||t == [33,61]||t == [60]||t == [60,61]||t == [62]||t == [62,61])∧(((opT t).2 == 3)=true→(opT t).1=(if t == [61,61] then 13 else if t == [33,61] then 14 else if t == [60] then 15 else if t == [60,61] then 16 else if t == [62] then 17 else 18:Int)):=by
 rcases Vp t with h | h
 ·simp only [ops,List.mem_cons,List.not_mem_nil,or_false] at h
  rcases h with rfl | rfl | rfl | rfl | rfl | rfl | rfl | rfl | rfl | rfl | rfl | rfl | rfl <;> decide
 ·rw [Bx h,h [61,61] (by decide),h [33,61] (by decide),h [60] (by decide),h [60,61] (by decide),h [62] (by decide),h [62,61] (by decide)]
  decide
theorem G1c:∀ (r:List UInt8) (n:Nat),r.all (fun c=>P8 c.toNat)=true→Lib.decFrom n r=some (nv n r)
 | [],n,_=>by rw [U16]; rfl
 | c::r,n,h=>by
  rw [List.all_cons,zqi] at h
  have hc:=Un.1 h.1
  have hd:Lib.digitVal c=some (c.toNat - 48):=zp hc
  unfold Lib.decFrom
  rw [hd,Jv,Nat.mul_comm 10 n]
  exact G1c r _ h.2
theorem K1u {s:Str}(hne:s≠[])(h:s.all (fun c=>P8 c.toNat)=true):Lib.atoi s=some (nv 0 s:Int):=by
 cases s with
 | nil=>exact absurd rfl hne
 | cons c r=>
  have hc:=Un.1 (by rw [List.all_cons,zqi] at h; exact h.1)
  have h1:(c == 45)=false:=zqn.2 fun e=>by rw [e] at hc; exact absurd hc.1 (by decide)
  have h2:(c == 43)=false:=zqn.2 fun e=>by rw [e] at hc; exact absurd hc.1 (by decide)
  unfold Lib.atoi
  simp only [h1,h2,zqa,zw]
  unfold Lib.decNat
  rw [zn (by simp),G1c _ 0 h]
  rfl
theorem L1u {s:Str}(hne:s≠[])(h:s.all (fun c=>P8 c.toNat)=true)(hl:s.length≤7):N15 s=some (nv 0 s:Int):=by
 unfold N15
 rw [zp (zqj (by omega)),K1u hne h]
section
variable (l:List K0)(e:Int)(hl:Ee l)
include hl
theorem Jt {k:Nat}{t:Str}(h:isS l k t=true):k < l.length:=by
 unfold isS at h
 split at h
 ·rename_i hx; exact Fj hx
 ·cases h
theorem I1x (k:Nat):∃ o b,Qe (mk l k e)=some (20,b,mk l (step b k) e)∧S4 l k 1=some (o,b)∧(b=true→o=20∧k < l.length):=by
 unfold Qe
 rw [F2 l e hl.1,Ig hl rfl,ob,Ug]
 have hlt:=Jt l hl (k:=k) (t:=[124,124])
 revert hlt
 unfold isS
 cases h:l[k]? with
 | none=>exact fun _=>⟨_,_,rfl,rfl,nofun⟩
 | some x=>
  simp only
  obtain ⟨h1,h2⟩:=H1x x.Text
  cases hk:x.Kind == 3 with
  | false=>exact fun _=>⟨_,_,rfl,rfl,nofun⟩
  | true=>
   simp only [Bool.true_and,zt,h1]
   rw [h1] at h2
   exact fun hlt=>⟨_,_,rfl,rfl,fun hb=>⟨h2 hb,hlt hb⟩⟩
theorem Z1v (k:Nat):∃ o b,Td (mk l k e)=some (19,b,mk l (step b k) e)∧S4 l k 2=some (o,b)∧(b=true→o=19∧k < l.length):=by
 unfold Td
 rw [F2 l e hl.1,Ig hl rfl,ob,Ug]
 have hlt:=Jt l hl (k:=k) (t:=[38,38])
 revert hlt
 unfold isS
 cases h:l[k]? with
 | none=>exact fun _=>⟨_,_,rfl,rfl,nofun⟩
 | some x=>
  simp only
  obtain ⟨h1,h2⟩:=W1v x.Text
  cases hk:x.Kind == 3 with
  | false=>exact fun _=>⟨_,_,rfl,rfl,nofun⟩
  | true=>
   simp only [Bool.true_and,zt,h1]
   rw [h1] at h2
   exact fun hlt=>⟨_,_,rfl,rfl,fun hb=>⟨h2 hb,hlt hb⟩⟩
theorem J1x (k:Nat):∃ o,S4 l k 4=some (o,(isS l k [43]||isS l k [45]))∧((isS l k [43]||isS l k [45])=true→o=(if isS l k [43] then 8 else 9:Int)):=by
 rw [Ug]
 unfold isS
 cases h:l[k]? with
 | none=>exact ⟨_,rfl,nofun⟩
 | some x=>
  simp only
  obtain ⟨h1,h2⟩:=X1v x.Text
  rcases Bool.eq_false_or_eq_true (x.Kind == 3) with hk | hk
  ·rw [h1] at h2
   simp only [hk,Bool.true_and,zt,h1]
   exact ⟨_,rfl,h2⟩
  ·simp only [hk,Bool.false_and,Bool.or_false,zqa,zw]
   exact ⟨_,rfl,nofun⟩
theorem A1w (k:Nat):∃ o,S4 l k 5=some (o,(isS l k [42]||isS l k [47]||isS l k [37]))∧((isS l k [42]||isS l k [47]||isS l k [37])=true→o=(if isS l k [42] then 10 else if isS l k [47] then 11 else 12:Int)):=by
 rw [Ug]
 unfold isS
 cases h:l[k]? with
 | none=>exact ⟨_,rfl,nofun⟩
 | some x=>
  simp only
  obtain ⟨h1,h2⟩:=J1u x.Text
  rcases Bool.eq_false_or_eq_true (x.Kind == 3) with hk | hk
  ·rw [h1] at h2
   simp only [hk,Bool.true_and,zt,h1]
   exact ⟨_,rfl,h2⟩
  ·simp only [hk,Bool.false_and,Bool.or_false,zqa,zw]
   exact ⟨_,rfl,nofun⟩
theorem K1x (k:Nat):∃ o,S4 l k 3=some (o,(isS l k [61,61]||isS l k [33,61]||isS l k [60]||isS l k [60,61]||isS l k [62]||isS l k [62,61]))∧((isS l k [61,61]||isS l k [33,61]||isS l k [60]||isS l k [60,61]||isS l k [62]||isS l k [62,61])=true→o=(if isS l k [61,61] then 13 else if isS l k [33,61] then 14 else if isS l k [60] then 15 else if isS l k [60,61] then 16 else if isS l k [62] then 17 else 18:Int)):=by
 rw [Ug]
 unfold isS
 cases h:l[k]? with
 | none=>exact ⟨_,rfl,nofun⟩
 | some x=>
  simp only
  obtain ⟨h1,h2⟩:=Y1v x.Text
  rcases Bool.eq_false_or_eq_true (x.Kind == 3) with hk | hk
  ·rw [h1] at h2
   simp only [hk,Bool.true_and,zt,h1]
   exact ⟨_,rfl,h2⟩
  ·simp only [hk,Bool.false_and,Bool.or_false,zqa,zw]
   exact ⟨_,rfl,nofun⟩
theorem B1w (k:Nat):∃ o o' b,Sd (mk l k e)=some (o',b,mk l (step b k) e)∧S4 l k 4=some (o,b)∧(b=true→o=o'∧k < l.length):=by
 obtain ⟨o,h1,h2⟩:=J1x l hl k
 unfold Sd
 rw [F2 l e hl.1,Ig hl rfl,ob]
 cases ha:isS l k [43] with
 | true=>rw [ha] at h1 h2; exact ⟨_,_,_,rfl,h1,fun _=>⟨h2 rfl,Jt l hl ha⟩⟩
 | false=>
  rw [ha] at h1 h2
  simp only [step,zql,zqa,zw]
  rw [F2 l e hl.1,Ig hl rfl,ob]
  exact ⟨_,_,isS l k [45],rfl,h1,fun hb=>⟨h2 (by rw [hb]; rfl),Jt l hl hb⟩⟩
theorem M1u (k:Nat):∃ o o' b,Ja (mk l k e)=some (o',b,mk l (step b k) e)∧S4 l k 5=some (o,b)∧(b=true→o=o'∧k < l.length):=by
 obtain ⟨o,h1,h2⟩:=A1w l hl k
 unfold Ja
 rw [F2 l e hl.1,Ig hl rfl,ob]
 cases ha:isS l k [42] with
 | true=>rw [ha] at h1 h2; exact ⟨_,_,_,rfl,h1,fun _=>⟨h2 rfl,Jt l hl ha⟩⟩
 | false=>
  rw [ha] at h1 h2
  simp only [step,zql,zqa,zw]
  rw [F2 l e hl.1,Ig hl rfl,ob]
  cases hb:isS l k [47] with
  | true=>rw [hb] at h1 h2; exact ⟨_,_,_,rfl,h1,fun _=>⟨h2 rfl,Jt l hl hb⟩⟩
  | false=>
   rw [hb] at h1 h2
   simp only [step,zql,zqa,zw]
   rw [F2 l e hl.1,Ig hl rfl,ob]
   exact ⟨_,_,isS l k [37],rfl,h1,fun hc=>⟨h2 (by rw [hc]; rfl),Jt l hl hc⟩⟩
def C13 (k:Nat):Int:=(nv 0 (txt l k):Int)
theorem I1a (k:Nat):H7 (mk l k e)=if L3 l k 1=true then some (.ok (C13 l k,mk l (k+1) e)) else some (.pn (off l e k)):=by
 unfold H7
 rw [X1p l e hl.1]
 cases h:L3 l k 1 with
 | false=>rfl
 | true=>
  have hx:N15 (txt l k)=some (C13 l k):=by
   unfold L3 at h
   unfold C13 txt
   cases hk:l[k]? with
   | none=>rw [hk] at h; cases h
   | some x=>
    rw [hk] at h
    obtain ⟨n1,n2,n3,_⟩:=(hl.2 x (List.mem_of_getElem? hk)).num (eq_of_beq h)
    exact L1u n1 n2 n3
  rw [zp rfl,ob]
  simp only [hx,ob]
  rfl
theorem T1i (x:K0)(k:Nat)(hx:l[k]?=some x)(hall:x.Text.all (fun c=>P8 c.toNat)=true)(hnv:nv 0 x.Text≤1048576)(hlen:x.Text.length≤7) :
  ∀ (r:Str) (i m:Nat),x.Text.drop i=r→nv m r≤1048576→r.all (fun c=>P8 c.toNat)=true→Jh l k m i=some ((nv m r:Int),((k+1:Nat):Int),true):=by
 have hk:=Fj hx
 have hB:=hl.1
 intro r
 induction r with
 | nil=>
  intro i m h hm _
  rw [Jh,Up,hx,ob,(W1 h).1,zn (by simp),w1 (by omega),U16]
 | cons c r ih=>
  intro i m h hm ha
  obtain ⟨h1,h2,h3,h4,_⟩:=I2 h
  rw [List.all_cons,zqi] at ha
  rw [Jv] at hm ⊢
  have hc:=Un.1 ha.1
  have hle:=F1x r (10 * m+(c.toNat - 48))
  have e1:IntKind.i64.wrap (IntKind.i64.wrap (10 * (m:Int))+IntKind.i64.wrap (IntKind.u8.wrap ((c.toNat:Int) - 48)))=((10 * m+(c.toNat - 48):Nat):Int):=by
   rw [U1v ha.1,wr (n:=10 * (m:Int)) (by omega) (by omega),wr (by omega) (by omega)]; omega
  rw [Jh,Up,hx,ob,h1,zp rfl,ob,h2,ob,e1,w1 (by unfold BB; omega)]
  exact ih (i+1) _ h3 hm ha.2
theorem Ak (k:Nat):Kl l k=if L3 l k 1=true then some (C13 l k,((k+1:Nat):Int),true) else some (0,(k:Int),false):=by
 unfold Kl L3 C13 txt
 cases h:l[k]? with
 | none=>rw [C1n h,zqf,zn (by simp),ob,zqk,zp rfl,zn (by simp)]
 | some x=>
  rw [dge h,zqg,zp rfl,Up,h,ob,zql]
  simp only
  cases hk:x.Kind == 1 with
  | false=>simp only [bne,hk,zqg,zt,zqa,zw]
  | true=>
   simp only [bne,hk,zqf,zqa,zw,zt]
   obtain ⟨n1,n2,n3,n4⟩:=(hl.2 x (List.mem_of_getElem? h)).num (eq_of_beq hk)
   exact T1i l hl x k h n2 n4 n3 x.Text 0 0 rfl n4 n2
end
end Go.Proofs.YtmnhfbekncjnfaaGreatDoor

