/- A part of the proof of ParserParses. -/
import Derived.Test.YtmnhfbekncjnfaaGreatDoorDgC
import Derived.Lib.Atoi
namespace Go.Proofs.YtmnhfbekncjnfaaGreatDoor
open Go.Am
theorem ob {α β:Type}(a:α)(f:α→Option β):(some a>>=f)=f a:=rfl
theorem I3 {α:Type}{l:List α}{k:Nat}{x:α}{r:List α}(h:l.drop k=x::r):decide ((k:Int) < (l.length:Int))=true∧idx l (k:Int)=some x∧l.drop (k+1)=r∧k < l.length∧x∈l:=by
 have hk:k < l.length:=by
  rcases Nat.lt_or_ge k l.length with h1 | h1
  ·exact h1
  ·rw [List.drop_eq_nil_of_le h1] at h; cases h
 have hx:=List.drop_eq_getElem_cons hk
 rw [h] at hx
 obtain ⟨e1,e2⟩:=List.cons.inj hx
 refine ⟨decide_eq_true (by omega),?_,e2.symm,hk,?_⟩
 ·unfold idx
  rw [if_pos (by omega),e1]
  simp [hk]
 ·rw [e1]; exact List.getElem_mem hk
theorem J2 {α:Type}{l:List α}{k:Nat}(h:l.drop k=[]):decide ((k:Int) < (l.length:Int))=false∧l.length≤k:=by
 have:=List.drop_eq_nil_iff.1 h
 exact ⟨decide_eq_false (by omega),this⟩
def BB:Nat:=68719476736
theorem wr {n:Int}(h : -4611686018427387904≤n)(h':n≤4611686018427387904):IntKind.i64.wrap n=n:=Z1o (by omega) (by omega)
theorem w1 {k:Nat}(h:k≤BB):IntKind.i64.wrap ((k:Int)+1)=((k+1:Nat):Int):=by
 unfold BB at h
 rw [wr (by omega) (by omega)]; rfl
def Ae (n:Int):Bool:=bif decide (n≥97) then decide (n≤122) else false
def Nc (n:Int):Bool:=bif decide (n≥48) then decide (n≤57) else false
def L1l (i:Nat)(c:UInt8):Bool:=Ae c.toNat||(i != 0&&Nc c.toNat)
def Mm:Nat→List UInt8→Bool
 | _,[]=>true
 | i,c::r=>L1l i c&&Mm (i+1) r
def word (s:List UInt8):Bool:=Mm 0 s && !(s == [])
def kw:List UInt8:=[32,116,121,112,101,32,115,101,99,114,101,116,32,112,117,98,108,105,99,32,114,97,110,100,111,109,32,118,97,114,32,104,97,116,99,104,32,102,117,110,99,32,114,101,116,117,114,110,32,98,101,103,105,110,32,101,110,100,32,98,111,111,108,32,105,110,116,32,97,114,114,97,121,32,111,102,32,114,101,99,111,114,100,32,116,114,117,101,32,102,97,108,115,101,32,99,97,108,108,32,114,101,108,101,97,115,101,32,111,117,116,112,117,116,32,119,97,105,116,32,105,102,32,101,108,115,101,32,119,104,105,108,101,32,108,105,109,105,116,32,102,111,114,32,116,111,32,115,101,116,116,108,101,32,109,105,110,32,109,97,120,32]
def Qu (s:List UInt8):Bool:=bif (bif !(s == []) then !Lib.contains s [32] else false) then Lib.contains kw ([32]++s++[32]) else false
def Ba (s:List UInt8):Bool:=bif (bif decide ((s.length:Int)≤12) then word s else false) then !Qu s else false
theorem getD_some {s:List UInt8}{k:Nat}(h:k < s.length):s[k]?=some (s.getD k 0):=by simp [List.getD,h]
def ld (c:UInt8):Bool:=bif Ae c.toNat then true else Nc c.toNat
def F6:List UInt8→Nat
 | []=>0
 | c::r=>bif ld c then F6 r+1 else 0
theorem Q11:∀ s:List UInt8,F6 s≤s.length
 | []=>Nat.le_refl _
 | c::r=>by
  simp only [F6,List.length_cons]
  have:=Q11 r
  cases ld c <;> simp <;> omega
def Rz (s:List UInt8):Bool:=bif ((s.length:Nat):Int) == 0 then false else bif s.all (fun c=>Ae c.toNat) then Lib.contains kw ([32]++s++[32]) else false
set_option maxRecDepth 100000 in
theorem O17:kw.length=162:=rfl
theorem Z1h {s sub:List UInt8}{i:Nat}(hi:i+sub.length≤s.length)(h:((s.take (i+sub.length)).drop i == sub)=true):Lib.contains s sub=true:=by
 have ho:Lib.occAt s sub i=true:=by
  rw [Lib.occAt_iff_take s sub i hi]
  rw [List.drop_take] at h
  simpa using h
 rcases Lib.index_spec s sub with ⟨_,h2⟩ | ⟨j,h1,_⟩
 ·rw [h2 i (by omega)] at ho; cases ho
 ·unfold Lib.contains
  rw [h1]
  exact decide_eq_true (by omega)
theorem E14 {s sub:List UInt8}(h:∀ i,i+sub.length≤s.length→((s.take (i+sub.length)).drop i == sub)=false)(hne:sub≠[]):Lib.contains s sub=false:=by
 rcases Lib.index_spec s sub with ⟨h1,_⟩ | ⟨j,h1,h2,h3,_⟩
 ·unfold Lib.contains
  rw [h1]; rfl
 ·rcases Lib.occAt_room h3 with hr | hr
  ·have:=h j hr
   rw [Lib.occAt_iff_take s sub j hr] at h3
   rw [List.drop_take] at this
   have e:j+sub.length - j=sub.length:=by omega
   rw [e,h3] at this
   cases this
  ·exact absurd hr hne
def M1l (s:List UInt8):Bool:=
 bif (bif (bif (bif decide (((s.length:Nat):Int) < 1) then true else decide (((s.length:Nat):Int) > 12)) then true else !Ae (s.getD 0 0).toNat) then true else Rz s) then false else ((F6 s:Nat):Int) == ((s.length:Nat):Int)
theorem H19:∀ (r:List UInt8) (i:Nat),1≤i→Mm i r=r.all ld
 | [],_,_=>rfl
 | c::r,i,h=>by
  have hi:(i != 0)=true:=by simp; omega
  simp only [Mm,List.all_cons,H19 r (i+1) (by omega),L1l,hi,Bool.true_and,ld]
  cases Ae c.toNat <;> rfl
theorem A1k:∀ s:List UInt8,(((F6 s:Nat):Int) == ((s.length:Nat):Int))=s.all ld
 | []=>rfl
 | c::r=>by
  have h:=A1k r
  have hle:=Q11 r
  simp only [F6,List.length_cons,List.all_cons,← h]
  cases ld c with
  | false=>
   simp only [cond_false,Bool.false_and]
   apply beq_eq_false_iff_ne.2
   omega
  | true=>
   simp only [cond_true,Bool.true_and]
   rw [Bool.eq_iff_iff,beq_iff_eq,beq_iff_eq]
   omega
set_option maxRecDepth 100000 in
theorem S1p:kw.all (fun c=>Ae c.toNat||c == 32)=true:=by decide
theorem P17 {s sub:List UInt8}(h:Lib.contains s sub=true)(hne:sub≠[]):∀ c∈sub,c∈s:=by
 rcases Lib.index_spec s sub with ⟨h1,_⟩ | ⟨j,h1,h2,h3,_⟩
 ·unfold Lib.contains at h
  rw [h1] at h
  cases h
 ·rcases Lib.occAt_room h3 with hr | hr
  ·rw [Lib.occAt_iff_take s sub j hr] at h3
   have e:(s.drop j).take sub.length=sub:=by simpa using h3
   intro c hc
   rw [← e] at hc
   exact List.mem_of_mem_drop (List.mem_of_mem_take hc)
  ·exact absurd hr hne
theorem A1i:ld 32=false:=by decide
theorem B1i {s:List UInt8}(h:s.all ld=true):Lib.contains s [32]=false:=by
 cases hc:Lib.contains s [32] with
 | false=>rfl
 | true=>
  have:=P17 hc (by simp) 32 (by simp)
  have:=List.all_eq_true.1 h 32 this
  rw [A1i] at this
  cases this
theorem B1k {s:List UInt8}(h:s.all ld=true)(hc:Lib.contains kw ([32]++s++[32])=true):s.all (fun c=>Ae c.toNat)=true:=by
 rw [List.all_eq_true]
 intro c hcs
 have h1:=P17 hc (by simp) c (by simp [hcs])
 have h2:=List.all_eq_true.1 S1p c h1
 have h3:=List.all_eq_true.1 h c hcs
 cases hl:Ae c.toNat with
 | true=>rfl
 | false=>
  rw [hl,Bool.false_or,beq_iff_eq] at h2
  subst h2
  rw [A1i] at h3
  cases h3
theorem Q1r (s:List UInt8):M1l s=Ba s:=by
 unfold M1l Ba
 rw [A1k]
 cases s with
 | nil=>rfl
 | cons c r=>
  have h1:decide ((((c::r).length:Nat):Int) < 1)=false:=decide_eq_false (by simp only [List.length_cons]; omega)
  have h12:decide ((((c::r).length:Nat):Int) > 12) = !decide ((((c::r).length:Nat):Int)≤12):=by
   rw [← decide_not]; exact decide_eq_decide.2 Int.not_le.symm
  have hw:word (c::r)=(Ae c.toNat&&r.all ld):=by
   unfold word
   simp only [Mm,L1l,H19 r 1 (Nat.le_refl _)]
   simp
  rw [h1,h12,hw,cond_false,List.all_cons]
  show (bif (bif (bif !decide ((((c::r).length:Nat):Int)≤12) then true else !Ae c.toNat) then true else Rz (c::r)) then false else (ld c&&r.all ld))=_
  cases h12':decide ((((c::r).length:Nat):Int)≤12) with
  | false=>rfl
  | true=>
   cases hl:Ae c.toNat with
   | false=>rfl
   | true=>
    have hlc:ld c=true:=by unfold ld; rw [hl]; rfl
    rw [hlc]
    cases ha:r.all ld with
    | false=>cases Rz (c::r) <;> rfl
    | true=>
     have hall:(c::r).all ld=true:=by rw [List.all_cons,hlc,ha]; rfl
     have hns:=B1i hall
     have e:Rz (c::r)=Qu (c::r):=by
      unfold Rz Qu
      rw [hns]
      have hz:((((c::r).length:Nat):Int) == 0)=false:=beq_eq_false_iff_ne.2 (by simp only [List.length_cons]; omega)
      rw [hz]
      cases hk:Lib.contains kw ([32]++(c::r)++[32]) with
      | false=>simp
      | true=>
       rw [B1k hall hk]
       rfl
     rw [e]
     cases Qu (c::r) <;> rfl
theorem Sz (n:Int):Sb n=some (Ae n):=rfl
theorem Wv (n:Int):M9 n=some (Nc n):=rfl
theorem R1c (s:Str)(hs:s.length≤BB):∀ (r:Str) (k:Nat),s.drop k=r→W5 s k=some (Mm k r && !(s == []))
 | [],k,h=>by rw [W5,(J2 h).1]; simp [Mm]
 | c::r,k,h=>by
  obtain ⟨h1,h2,h3,h4,_⟩:=I3 h
  have ih:=R1c s hs r (k+1) h3
  rw [W5,h1,if_pos rfl,h2,ob,Sz,ob,w1 (by omega),ih]
  have e:((k:Int) == 0)=(k == 0):=by cases k <;> rfl
  simp only [e,Mm,L1l,bne]
  cases hl:Ae c.toNat <;> cases hk:k == 0 <;> cases hd:Nc c.toNat <;> simp [Wv,hd]
theorem L1n (s:Str)(hs:s.length≤BB):Ti s=some (word s):=R1c s hs s 0 rfl
theorem F14 (s t:Str)(hs:s.length≤4000000000):Ck s t=some (Lib.contains s t):=by
 unfold Ck
 rw [if_pos (decide_eq_true (by omega))]
theorem I19 (s:Str)(hs:s.length≤4000000000):Q9 s=some (Qu s):=by
 unfold Q9
 have h1:decide (1+s.length≤maxLen)=true:=decide_eq_true (by unfold maxLen; omega)
 have h2:decide (([32]++s).length+1≤maxLen)=true:=decide_eq_true (by unfold maxLen; simp; omega)
 rw [F14 s _ hs]
 have h3:=F14 kw (([32]++s)++[32]) (by rw [O17]; omega)
 unfold kw at h3
 unfold Qu kw
 rw [h1,h2,h3]
 cases s == [] <;> cases Lib.contains s [32] <;> simp
theorem M1n (s:Str)(hs:s.length≤BB):Bf s=some (Ba s):=by
 unfold Bf Ui Ba
 rw [L1n s hs]
 cases h:decide ((s.length:Int)≤12) with
 | false=>simp
 | true=>
  have h':s.length≤12:=by have:=of_decide_eq_true h; omega
  rw [I19 s (by omega)]
  cases word s <;> simp
theorem Aq (n:Int):Og n=some (Ae n):=rfl
theorem Tz (n:Int):El n=some (Nc n):=rfl
theorem D1e (s:Str)(hs:s.length≤BB):∀ (r:Str) (k:Nat),s.drop k=r→Me s k=some ((k+F6 r:Nat):Int)
 | [],k,h=>by rw [Me,(J2 h).1]; simp [F6,ob]
 | c::r,k,h=>by
  obtain ⟨h1,h2,h3,h4,_⟩:=I3 h
  have ih:=D1e s hs r (k+1) h3
  rw [Me,h1,if_pos rfl,h2,ob,if_pos rfl,Aq,ob,w1 (by omega),ih]
  simp only [F6,ld]
  cases hl:Ae c.toNat <;> cases hd:Nc c.toNat <;> simp [Tz,hd,ob] <;> omega
theorem X1s (s:Str)(hs:s.length≤BB):Wl s 0=some ((F6 s:Nat):Int):=by
 have:=D1e s hs s 0 rfl
 unfold Wl
 rw [Nat.zero_add] at this
 exact this
theorem T1p (s:Str)(hs:s.length≤4000000000):∀ (n k:Nat),n+k=163→(∀ i,i < k→i+([32]++s++[32]).length≤kw.length→((kw.take (i+([32]++s++[32]).length)).drop i == [32]++s++[32])=false)→
  W7 s k=some (Lib.contains kw ([32]++s++[32])):=by
 have hl:([32]++s++[32]).length=s.length+2:=by simp
 intro n
 induction n with
 | zero=>
  intro k hk hi
  rw [W7,wr (n:=(k:Int)+_) (by omega) (by omega),wr (by omega) (by omega),if_neg (by simp; omega),E14 (fun i h=>hi i (by rw [O17] at h; omega) h) (by simp)]
 | succ n ih=>
  intro k hk hi
  rw [W7,wr (n:=(k:Int)+_) (by omega) (by omega),wr (by omega) (by omega)]
  by_cases hr:k+([32]++s++[32]).length≤kw.length
  ·have hr':=hr
   rw [O17,hl] at hr'
   rw [if_pos (decide_eq_true (by omega))]
   have hs2:slc kw (k:Int) ((k:Int)+(s.length:Int)+2)=some ((kw.take (k+([32]++s++[32]).length)).drop k):=by
    unfold slc
    rw [if_pos ⟨by omega,by omega,by rw [O17]; omega⟩,hl]
    rw [show ((k:Int)+(s.length:Int)+2).toNat=k+(s.length+2) by omega]
    rfl
   unfold kw at hs2
   rw [hs2,ob,if_pos (decide_eq_true (by unfold maxLen; omega)),if_pos (decide_eq_true (by unfold maxLen; simp; omega))]
   cases he:((kw.take (k+([32]++s++[32]).length)).drop k == [32]++s++[32]) with
   | true=>
    have:=Z1h hr he
    rw [this]
    unfold kw at he
    rw [he,if_pos rfl]
   | false=>
    have he':=he
    unfold kw at he'
    rw [he',if_neg (by simp),w1 (by unfold BB; omega)]
    refine ih (k+1) (by omega) fun i hik=>?_
    rcases Nat.lt_or_eq_of_le (Nat.le_of_lt_succ hik) with h | h
    ·exact hi i h
    ·subst h; exact fun _=>he
  ·have hr':=hr
   rw [O17,hl] at hr'
   rw [if_neg (by simp; omega),E14 (fun i h=>hi i (by omega) h) (by simp)]
theorem C1i (s:Str)(hs:s.length≤4000000000):∀ (r:Str) (k:Nat),s.drop k=r→X7 s k=some (bif r.all (fun c=>Ae c.toNat) then Lib.contains kw ([32]++s++[32]) else false)
 | [],k,h=>by rw [X7,(J2 h).1,if_neg (by simp)]; exact T1p s hs 163 0 rfl (fun i h=>by omega)
 | c::r,k,h=>by
  obtain ⟨h1,h2,h3,h4,_⟩:=I3 h
  have ih:=C1i s hs r (k+1) h3
  rw [X7,h1,if_pos rfl,h2,ob,Aq,ob,w1 (by unfold BB; omega),ih,List.all_cons]
  cases Ae c.toNat <;> simp
theorem R11 (s:Str)(hs:s.length≤4000000000):Eg s=some (Rz s):=by
 unfold Eg Rz
 have:=C1i s hs s 0 rfl
 rw [show (0:Int)=((0:Nat):Int) from rfl,this]
 cases ((s.length:Int) == ((0:Nat):Int)) <;> simp
theorem Nm (s:Str)(hs:s.length≤BB):Tc s=some (Ba s):=by
 rw [← Q1r]
 unfold Tc Qp M1l
 cases h:(bif decide ((s.length:Int) < 1) then true else decide ((s.length:Int) > 12)) with
 | true=>simp [ob]
 | false=>
  have h':1≤s.length∧s.length≤12:=by
   cases h1:decide ((s.length:Int) < 1) with
   | true=>rw [h1] at h; cases h
   | false=>
    rw [h1] at h
    have:=of_decide_eq_false h1
    have:=of_decide_eq_false (show decide ((s.length:Int) > 12)=false from h)
    omega
  have h0:idx s 0=some (s.getD 0 0):=getD_some (by omega)
  rw [h0,R11 s (by omega),X1s s hs]
  simp only [Bool.not_false,if_true,ob,Aq,cond_false]
  cases Ae (s.getD 0 0).toNat <;> cases Rz s <;> simp [ob]
end Go.Proofs.YtmnhfbekncjnfaaGreatDoor

set_option linter.unusedSimpArgs false
namespace Go.Proofs.YtmnhfbekncjnfaaGreatDoor
open Go.Am
theorem I0.ind {P:I0→Prop}(h:∀ t:I0,(∀ x∈t.Of,P x)→P t):∀ t,P t:=by
 intro t
 refine I0.rec (motive_1:=P) (motive_2:=fun l=>∀ x∈l,P x) ?_ ?_ ?_ t
 ·intro k l h' s n ns of ih
  exact h _ ih
 ·intro x hx; cases hx
 ·intro x r hx hr y hy
  cases hy with
  | head=>exact hx
  | tail _ hy=>exact hr y hy
mutual
def I0.depth:I0→Nat
 | .mk _ _ _ _ _ _ of=>I0.depths of+1
def I0.depths:List I0→Nat
 | []=>0
 | t::r=>max (I0.depth t) (I0.depths r)
end
theorem I0.depth_eq (t:I0):t.depth=I0.depths t.Of+1:=by cases t; simp [I0.depth,I0.Of]
def S3 (a b c:Int):Bool:=bif decide (a≥b) then decide (a≤c) else false
mutual
def I0.all (p:I0→Bool):I0→Bool
 | .mk k l h s n ns of=>p (.mk k l h s n ns of)&&I0.alls p of
def I0.alls (p:I0→Bool):List I0→Bool
 | []=>true
 | t::r=>I0.all p t&&I0.alls p r
end
theorem I0.all_eq (p:I0→Bool)(t:I0):t.all p=(p t&&I0.alls p t.Of):=by cases t; rfl
mutual
def I0.nodes:I0→Nat
 | .mk _ _ _ _ _ _ of=>I0.nodess of+1
def I0.nodess:List I0→Nat
 | []=>0
 | t::r=>I0.nodes t+I0.nodess r
end
theorem I0.nodes_eq (t:I0):t.nodes=I0.nodess t.Of+1:=by cases t; rfl
mutual
theorem I0.depth_nodes:∀ t:I0,t.depth≤t.nodes
 | .mk _ _ _ _ _ _ of=>by simp only [I0.depth,I0.nodes]; have:=I0.depths_nodess of; omega
theorem I0.depths_nodess:∀ l:List I0,I0.depths l≤I0.nodess l
 | []=>Nat.le_refl _
 | t::r=>by simp only [I0.depths,I0.nodess]; have:=I0.depth_nodes t; have:=I0.depths_nodess r; omega
end
def fm1 (t:I0):Bool:=bif decide (t.Kind≥0) then decide (t.Kind≤4) else false
def fm2 (t:I0):Bool:=bif t.Kind == 1 then true else bif t.Low == 0 then t.High == 0 else false
def fm3 (t:I0):Bool:=bif t.Kind == 2 then true else t.Size == 0
def fm4 (t:I0):Bool:=bif t.Kind == 4 then true else t.Name == []
def fm5 (t:I0):Bool:=bif t.Kind == 3 then true else ((t.Names).length:Int) == 0
def fm6 (t:I0):Bool:=bif t.Kind == 2 then ((t.Of).length:Int) == 1 else bif t.Kind == 3 then (bif decide (((t.Of).length:Int)≥1) then ((t.Of).length:Int) == ((t.Names).length:Int) else false) else ((t.Of).length:Int) == 0
def nm1 (t:I0):Bool:=bif t.Kind == 2 then S3 t.Size 1 32 else bif t.Kind == 3 then decide (((t.Of).length:Int)≤32) else true
def nm2 (t:I0):Bool:=bif t.Kind == 1 then (bif S3 t.Low (-1048576) 1048576 then S3 t.High t.Low 1048576 else false) else true
def na1 (t:I0):Bool:=bif t.Kind == 4 then Ba t.Name else true
def Yc (t:I0):Bool:=fm1 t&&fm2 t&&fm3 t&&fm4 t&&fm5 t&&fm6 t
def Bs (t:I0):Bool:=nm1 t&&nm2 t
def Pl (t:I0):Bool:=na1 t&&t.Names.all Ba
theorem Cu (a b c:Bool):(a || !b || !c)=(a || !(b&&c)):=by cases a <;> cases b <;> cases c <;> rfl
def Cs (n d:Int)(f m u:Bool):Int:=
 bif (bif decide (n > 1024) then true else decide (d > 12)) then 4 else bif f then 1 else bif m then 7 else bif u then 3 else 0
theorem M13 (a b:Int):decide (a < b) = !decide (a≥b):=by
 rw [← decide_not]; exact decide_eq_decide.2 Int.not_le.symm
theorem N13 (a b:Int):decide (a > b) = !decide (a≤b):=by
 rw [← decide_not]; exact decide_eq_decide.2 Int.not_le.symm
def D1i (t:I0):Bool:=bif decide (t.Kind < 0) then true else decide (t.Kind > 4)
def E1i (t:I0):Bool:=
 bif (bif (bif (bif t.Kind != 1 then (bif t.Low != 0 then true else t.High != 0) else false) then true else (bif t.Kind != 2 then t.Size != 0 else false)) then true else (bif t.Kind != 4 then !(t.Name == []) else false)) then true else
  (bif t.Kind != 3 then ((t.Names).length:Int) != 0 else false)
def F1i (t:I0):Bool:=
 bif (bif (bif t.Kind == 2 then ((t.Of).length:Int) != 1 else false) then true else
  (bif t.Kind == 3 then (bif decide (((t.Of).length:Int) < 1) then true else ((t.Of).length:Int) != ((t.Names).length:Int)) else false)) then true else
  (bif (bif t.Kind != 2 then t.Kind != 3 else false) then ((t.Of).length:Int) != 0 else false)
theorem R1r (t:I0):fm1 t = !D1i t:=by
 unfold fm1 D1i
 rw [M13,N13]
 cases decide (t.Kind≥0) <;> cases decide (t.Kind≤4) <;> rfl
theorem S1r (t:I0):(fm2 t&&fm3 t&&fm4 t&&fm5 t) = !E1i t:=by
 unfold fm2 fm3 fm4 fm5 E1i
 simp only [bne]
 generalize (t.Kind == 1)=a
 generalize (t.Kind == 2)=b
 generalize (t.Kind == 3)=c
 generalize (t.Kind == 4)=d
 generalize (t.Low == 0)=e
 generalize (t.High == 0)=f
 generalize (t.Size == 0)=g
 generalize (t.Name == [])=h
 generalize (((t.Names).length:Int) == 0)=i
 cases a <;> cases b <;> cases c <;> cases d <;> cases e <;> cases f <;> cases g <;> cases h <;> cases i <;> rfl
theorem T1r (t:I0):fm6 t = !F1i t:=by
 have hx:(t.Kind == 2)=true→(t.Kind == 3)=false:=fun h=>by
  have:t.Kind=2:=by simpa using h
  rw [this]; rfl
 unfold fm6 F1i
 rw [M13]
 simp only [bne]
 revert hx
 generalize (t.Kind == 2)=b
 generalize (t.Kind == 3)=c
 generalize (((t.Of).length:Int) == 1)=d
 generalize (((t.Of).length:Int) == 0)=e
 generalize (((t.Of).length:Int) == ((t.Names).length:Int))=f
 generalize (decide (((t.Of).length:Int)≥1))=g
 intro hx
 cases b <;> cases c <;> first | (exact absurd (hx rfl) (by decide)) | (cases d <;> cases e <;> cases f <;> cases g <;> rfl)
theorem U1p (t:I0):Yc t=(!D1i t && !E1i t && !F1i t):=by
 rw [← R1r,← S1r,← T1r]
 unfold Yc
 simp only [Bool.and_assoc]
def Vh (n:Int):Bool:=bif decide (n≥-1048576) then decide (n≤1048576) else false
def Ds (t:I0):Bool:=
 bif (bif (bif t.Kind == 1 then (bif (bif !Vh t.Low then true else !Vh t.High) then true else decide (t.Low > t.High)) else false) then true else
  (bif t.Kind == 2 then (bif decide (t.Size < 1) then true else decide (t.Size > 32)) else false)) then true else decide (((t.Of).length:Int) > 32)
theorem G1i (t:I0)(hf:Yc t=true):Bs t = !Ds t:=by
 have hk1:(t.Kind == 1)=true→(t.Kind == 2)=false∧(t.Kind == 3)=false:=fun h=>by
  have:t.Kind=1:=by simpa using h
  rw [this]; exact ⟨rfl,rfl⟩
 have hk2:(t.Kind == 2)=true→(t.Kind == 3)=false:=fun h=>by
  have:t.Kind=2:=by simpa using h
  rw [this]; rfl
 have h6:fm6 t=true:=by
  unfold Yc at hf
  simp only [Bool.and_eq_true] at hf
  exact hf.2
 have hin:(bif S3 t.Low (-1048576) 1048576 then S3 t.High t.Low 1048576 else false) = !(bif (bif !Vh t.Low then true else !Vh t.High) then true else decide (t.Low > t.High)):=by
  unfold S3 Vh
  by_cases a1:t.Low≥-1048576 <;> by_cases a2:t.Low≤1048576 <;> by_cases a3:t.High≥-1048576 <;> by_cases a4:t.High≤1048576 <;> by_cases a5:t.High≥t.Low <;>
   simp [a1,a2,a3,a4,a5] <;> omega
 have hsz:S3 t.Size 1 32 = !(bif decide (t.Size < 1) then true else decide (t.Size > 32)):=by
  unfold S3
  rw [M13,N13]
  cases decide (t.Size≥1) <;> cases decide (t.Size≤32) <;> rfl
 unfold Bs Ds nm1 nm2
 rw [hin,hsz,N13 (((t.Of).length:Int))]
 have hl:(t.Kind == 3)=false→decide (((t.Of).length:Int)≤32)=true:=fun h3=>by
  unfold fm6 at h6
  rw [h3] at h6
  cases h2:t.Kind == 2 with
  | true=>
   rw [h2] at h6
   have:((t.Of).length:Int)=1:=by simpa using h6
   exact decide_eq_true (by omega)
  | false=>
   rw [h2] at h6
   have:((t.Of).length:Int)=0:=by simpa using h6
   exact decide_eq_true (by omega)
 revert hk1 hk2 hl
 generalize (bif (bif !Vh t.Low then true else !Vh t.High) then true else decide (t.Low > t.High))=X
 generalize (bif decide (t.Size < 1) then true else decide (t.Size > 32))=Y
 generalize decide (((t.Of).length:Int)≤32)=Z
 generalize (t.Kind == 1)=a
 generalize (t.Kind == 2)=b
 generalize (t.Kind == 3)=c
 intro hk1 hk2 hl
 cases a <;> cases b <;> cases c <;> first | exact absurd (hk1 rfl).1 (by decide) | exact absurd (hk1 rfl).2 (by decide) | exact absurd (hk2 rfl) (by decide) | (cases X <;> cases Y <;> cases Z <;> first | rfl | exact absurd (hl rfl) (by decide))
theorem K1j (t:I0):t.all Yc=true→t.all Bs=t.all fun t=>!Ds t:=by
 induction t using I0.ind with
 | h t ih=>
 intro hf
 rw [I0.all_eq,Bool.and_eq_true] at hf
 rw [I0.all_eq,I0.all_eq,G1i t hf.1]
 congr 1
 have:∀ l:List I0,(∀ x∈l,x.all Yc=true→x.all Bs=x.all fun t=>!Ds t)→I0.alls Yc l=true→I0.alls Bs l=I0.alls (fun t=>!Ds t) l:=by
  intro l
  induction l with
  | nil=>intros; rfl
  | cons x r ihr=>
   intro h1 h2
   simp only [I0.alls,Bool.and_eq_true] at h2
   simp only [I0.alls]
   rw [h1 x List.mem_cons_self h2.1,ihr (fun y hy=>h1 y (List.mem_cons_of_mem _ hy)) h2.2]
 exact this t.Of ih hf.2
def eqL {α:Type}(p:α→α→Bool):List α→List α→Bool
 | [],[]=>true
 | x::r,y::s=>p x y&&eqL p r s
 | _,_=>false
theorem Nj {α:Type}(p:α→α→Bool):∀ {l m:List α},l.length≠m.length→eqL p l m=false
 | [],[],h=>absurd rfl h
 | [],_::_,_=>rfl
 | _::_,[],_=>rfl
 | x::r,y::s,h=>by rw [eqL,Nj p (l:=r) (m:=s) (by simpa using h),Bool.and_false]
mutual
def I0.same:I0→I0→Bool
 | .mk k l h s n ns of,t=>k == t.Kind&&l == t.Low&&h == t.High&&s == t.Size&&n == t.Name&&eqL (fun x y=>x == y) ns t.Names&&I0.sames of t.Of
def I0.sames:List I0→List I0→Bool
 | [],[]=>true
 | x::r,y::s=>I0.same x y&&I0.sames r s
 | [],_::_=>false
 | _::_,[]=>false
end
theorem I0.sames_eq:∀ l m:List I0,I0.sames l m=eqL I0.same l m
 | [],[]=>rfl
 | x::r,y::s=>by simp only [I0.sames,eqL,I0.sames_eq r s]
 | [],_::_=>rfl
 | _::_,[]=>rfl
theorem I0.same_eq (t u:I0):t.same u=(t.Kind == u.Kind&&t.Low == u.Low&&t.High == u.High&&t.Size == u.Size&&t.Name == u.Name&&eqL (fun x y=>x == y) t.Names u.Names&&eqL I0.same t.Of u.Of):=by
 rw [← I0.sames_eq]
 cases t
 rfl
def E1e (t u:I0):Bool:=
 bif (bif (bif (bif (bif (bif t.Kind != u.Kind then true else t.Low != u.Low) then true else t.High != u.High) then true else t.Size != u.Size) then true else !(t.Name == u.Name)) then true else
  ((t.Names).length:Int) != ((u.Names).length:Int)) then true else ((t.Of).length:Int) != ((u.Of).length:Int)
theorem N1n {t u:I0}(h:E1e t u=true):t.same u=false:=by
 have hn:((t.Names).length:Int)≠((u.Names).length:Int)→eqL (fun x y=>x == y) t.Names u.Names=false:=fun h=>Nj _ fun e=>h (by omega)
 have ho:((t.Of).length:Int)≠((u.Of).length:Int)→eqL I0.same t.Of u.Of=false:=fun h=>Nj _ fun e=>h (by omega)
 unfold E1e at h
 rw [I0.same_eq]
 by_cases h1:((t.Names).length:Int)=((u.Names).length:Int)
 ·by_cases h2:((t.Of).length:Int)=((u.Of).length:Int)
  ·rw [h1,h2] at h
   revert h
   simp only [bne,beq_self_eq_true,Bool.not_true]
   cases t.Kind == u.Kind <;> cases t.Low == u.Low <;> cases t.High == u.High <;> cases t.Size == u.Size <;> cases t.Name == u.Name <;> simp
  ·rw [ho h2,Bool.and_false]
 ·rw [hn h1,Bool.and_false,Bool.false_and]
theorem V1p {t u:I0}(h:E1e t u=false):t.same u=(eqL (fun x y=>x == y) t.Names u.Names&&eqL I0.same t.Of u.Of)∧t.Names.length=u.Names.length∧t.Of.length=u.Of.length:=by
 unfold E1e at h
 simp only [bne] at h
 have key:t.Kind == u.Kind∧t.Low == u.Low∧t.High == u.High∧t.Size == u.Size∧t.Name == u.Name∧((t.Names).length:Int) == ((u.Names).length:Int)∧((t.Of).length:Int) == ((u.Of).length:Int):=by
  revert h
  cases t.Kind == u.Kind <;> cases t.Low == u.Low <;> cases t.High == u.High <;> cases t.Size == u.Size <;> cases t.Name == u.Name <;> cases ((t.Names).length:Int) == ((u.Names).length:Int) <;> cases ((t.Of).length:Int) == ((u.Of).length:Int) <;> simp
 obtain ⟨k1,k2,k3,k4,k5,k6,k7⟩:=key
 refine ⟨by rw [I0.same_eq,k1,k2,k3,k4,k5]; rfl,?_,?_⟩
 ·have:(t.Names.length:Int)=u.Names.length:=by simpa using k6
  omega
 ·have:(t.Of.length:Int)=u.Of.length:=by simpa using k7
  omega
end Go.Proofs.YtmnhfbekncjnfaaGreatDoor

set_option linter.unusedSimpArgs false
namespace Go.Proofs.YtmnhfbekncjnfaaGreatDoor
open Go.Am
mutual
def I0.bulk:I0→Nat
 | .mk _ _ _ _ n ns of=>1+(1+(1+(1+((n.length+1)+(((ns.map fun s=>s.length+1).sum+1)+((I0.bulks of+1)+0))))))+1
def I0.bulks:List I0→Nat
 | []=>0
 | x::r=>I0.bulk x+I0.bulks r
end
theorem I0.bulk_eq (t:I0):t.bulk=t.Name.length+(t.Names.map fun s=>s.length+1).sum+I0.bulks t.Of+8:=by cases t; simp only [I0.bulk]; omega
theorem I0.bulk_kid {t:I0}:∀ {l:List I0},t∈l→t.bulk≤I0.bulks l
 | x::r,h=>by
  simp only [I0.bulks]
  cases h with
  | head=>omega
  | tail _ h=>have:=I0.bulk_kid h; omega
theorem I0.bulk_len:∀ l:List I0,l.length≤I0.bulks l
 | []=>Nat.le_refl _
 | x::r=>by
  simp only [I0.bulks,List.length_cons]
  have:=I0.bulk_len r
  have:=I0.bulk_eq x
  omega
theorem H1i {s:Str}:∀ {l:List Str},s∈l→s.length+1≤(l.map fun s=>s.length+1).sum
 | x::r,h=>by
  simp only [List.map_cons,List.sum_cons]
  cases h with
  | head=>omega
  | tail _ h=>have:=H1i h; omega
theorem I1i:∀ l:List Str,l.length≤(l.map fun s=>s.length+1).sum
 | []=>Nat.le_refl _
 | x::r=>by simp only [List.map_cons,List.sum_cons,List.length_cons]; have:=I1i r; omega
mutual
theorem I0.nodes_bulk:∀ t:I0,t.nodes≤t.bulk
 | .mk _ _ _ _ _ _ of=>by simp only [I0.nodes,I0.bulk]; have:=I0.nodess_bulk of; omega
theorem I0.nodess_bulk:∀ l:List I0,I0.nodess l≤I0.bulks l
 | []=>Nat.le_refl _
 | x::r=>by simp only [I0.nodess,I0.bulks]; have:=I0.nodes_bulk x; have:=I0.nodess_bulk r; omega
end
def Ok (t:I0):Prop:=t.bulk≤BB
theorem Ok.kid {t x:I0}(h:Ok t)(hx:x∈t.Of):Ok x:=by
 unfold Ok at *
 have:=I0.bulk_kid hx
 have:=I0.bulk_eq t
 omega
theorem Ok.ofs {t:I0}(h:Ok t):t.Of.length≤BB:=by
 unfold Ok at *
 have:=I0.bulk_len t.Of
 have:=I0.bulk_eq t
 omega
theorem Ok.names {t:I0}(h:Ok t):t.Names.length≤BB:=by
 unfold Ok at *
 have:=I1i t.Names
 have:=I0.bulk_eq t
 omega
theorem Ok.name1 {t:I0}(h:Ok t){s:Str}(hs:s∈t.Names):s.length≤BB:=by
 unfold Ok at *
 have:=H1i hs
 have:=I0.bulk_eq t
 omega
theorem Ok.name {t:I0}(h:Ok t):t.Name.length≤BB:=by
 unfold Ok at *
 have:=I0.bulk_eq t
 omega
theorem Ok.nodes {t:I0}(h:Ok t):t.nodes≤BB:=Nat.le_trans (I0.nodes_bulk t) h
theorem bor (a b:Bool):(bif a then true else b)=(a||b):=by cases a <;> rfl
theorem K1a (d:Int)(o:J0):V5 d o=some ⟨o.nodes,max o.depth d,o.badForm,o.badName,o.badNumber⟩:=rfl
theorem L1a (b:Bool)(o:J0):Z0 b o=some ⟨o.nodes,o.depth,o.badForm || !b,o.badName,o.badNumber⟩:=by unfold Z0; rw [bor]
theorem Xv (b:Bool)(o:J0):I2 b o=some ⟨o.nodes,o.depth,o.badForm,o.badName,o.badNumber || !b⟩:=by unfold I2; rw [bor]
theorem Rk (a b c:Int):X3 a b c=some (S3 a b c):=rfl
theorem O13 (s:Str)(hs:s.length≤BB)(o:J0):C4 s o=some ⟨o.nodes,o.depth,o.badForm,o.badName || !Ba s,o.badNumber⟩:=by
 unfold C4
 rw [M1n s hs]
 cases h:o.badName <;> simp
theorem W1p (o:J0):X5 o=some (Cs o.nodes o.depth o.badForm o.badName o.badNumber):=by
 unfold X5 Cs
 cases (bif decide (o.nodes > 1024) then true else decide (o.depth > 12)) <;> cases o.badForm <;> cases o.badName <;> cases o.badNumber <;> rfl
def Ih (o:J0)(d:Int)(n m:Nat)(f a u:Bool):J0:=⟨o.nodes+n,max o.depth (d+m),o.badForm || !f,o.badName || !a,o.badNumber || !u⟩
theorem O1n (t:I0)(d:Int)(hd:0≤d)(ht:Ok t)
  (ih:∀ x∈t.Of,∀ (d:Int) (o:J0),0≤d→d+x.nodes≤4 * BB→0≤o.nodes→o.nodes+x.nodes≤4 * BB→L6 x d o=some (Ih o d x.nodes (x.depth - 1) (x.all Yc) (x.all Pl) (x.all Bs))) :
  ∀ (r:List I0) (k:Nat) (o:J0),t.Of.drop k=r→(∀ x∈r,x∈t.Of)→d+1+I0.nodess r≤4 * BB→0≤o.nodes→o.nodes+I0.nodess r≤4 * BB→d≤o.depth→
   H7 t d o k=some (Ih o d (I0.nodess r) (I0.depths r) (I0.alls Yc r) (I0.alls Pl r) (I0.alls Bs r))
 | [],k,o,h,_,_,_,_,h5=>by
  rw [H7,(J2 h).1]
  simp only [Ih,I0.nodess,I0.depths,I0.alls,Bool.not_true,Bool.or_false]
  rw [if_neg (by simp),show o.nodes+((0:Nat):Int)=o.nodes by omega,show max o.depth (d+((0:Nat):Int))=o.depth by omega]
 | x::r,k,o,h,hm,hb,h3,h4,h5=>by
  obtain ⟨e1,e2,e3,e4,e5⟩:=I3 h
  simp only [I0.nodess] at hb h4
  have hdp:1≤x.depth:=by rw [I0.depth_eq]; omega
  have hof:=ht.ofs
  unfold BB at hb h4 hof
  rw [H7,e1,if_pos rfl,e2,ob,wr (n:=d+1) (by omega) (by omega),ih x e5 (d+1) o (by omega) (by unfold BB; omega) h3 (by unfold BB; omega),ob,w1 (by unfold BB; omega),
   O1n t d hd ht ih r (k+1) _ e3 (fun y hy=>hm y (List.mem_cons_of_mem _ hy)) (by unfold BB; omega) (by simp only [Ih]; omega) (by simp only [Ih]; unfold BB; omega) (by simp only [Ih]; omega)]
  simp only [Ih,I0.nodess,I0.depths,I0.alls,Cu]
  rw [show o.nodes+(x.nodes:Int)+(I0.nodess r:Nat)=o.nodes+((x.nodes+I0.nodess r:Nat):Int) by omega,
   show max (max o.depth (d+1+((x.depth - 1:Nat):Int))) (d+(I0.depths r:Nat))=max o.depth (d+((max x.depth (I0.depths r):Nat):Int)) by omega]
theorem P1n (t:I0)(d:Int)(ht:Ok t)(R:J0→Option J0)(hR:∀ o,H7 t d o 0=R o) :
  ∀ (r:List Str) (k:Nat) (o:J0),t.Names.drop k=r→Y5 t d o k=R ⟨o.nodes,o.depth,o.badForm,o.badName || !r.all Ba,o.badNumber⟩
 | [],k,o,h=>by
  rw [Y5,(J2 h).1,if_neg (by simp),hR]
  simp
 | x::r,k,o,h=>by
  obtain ⟨e1,e2,e3,e4,e5⟩:=I3 h
  have:=ht.names
  rw [Y5,e1,if_pos rfl,e2,ob,O13 x (ht.name1 e5),ob,w1 (by omega),P1n t d ht R hR r (k+1) _ e3]
  simp only [List.all_cons,Cu]
theorem Y1s (t:I0)(d:Int)(ht:Ok t)(o:J0):V9 t d o=Y5 t d ⟨o.nodes,o.depth,o.badForm,o.badName || !na1 t,o.badNumber⟩ 0:=by
 rw [V9,O13 _ ht.name,ob,Uc,Uc]
 unfold na1
 cases h:t.Kind == 4 <;> simp
theorem Z1s (t:I0)(d:Int)(o:J0):U9 t d o=V9 t d ⟨o.nodes,o.depth,o.badForm,o.badName,o.badNumber || !nm2 t⟩:=by
 rw [U9]
 unfold nm2
 simp only [Rk,Xv,ob]
 cases h:t.Kind == 1 <;> cases S3 t.Low (-1048576) 1048576 <;> simp [ob]
theorem A1t (t:I0):Ok t→∀ (d:Int) (o:J0),0≤d→d+t.nodes≤4 * BB→0≤o.nodes→o.nodes+t.nodes≤4 * BB→
  L6 t d o=some (Ih o d t.nodes (t.depth - 1) (t.all Yc) (t.all Pl) (t.all Bs)):=by
 induction t using I0.ind with
 | h t ih=>
 intro ht d o hd hb h3 h4
 have h5:=fun o h3 h4 hd'=>O1n t d hd ht (fun x hx=>ih x hx (ht.kid hx)) t.Of 0 o rfl (fun _ h=>h) (by rw [I0.nodes_eq] at hb; omega) h3 h4 hd'
 have l4:=P1n t d ht _ (fun o=>rfl) t.Names 0
 rw [I0.nodes_eq] at hb h4
 unfold BB at hb h4
 rw [L6]
 simp only [K1a,L1a,Rk,Xv,ob,Z1s,Y1s t d ht]
 rw [wr (n:=o.nodes+1) (by omega) (by omega)]
 have fin:∀ b6 u1,fm6 t=b6→nm1 t=u1→
   Y5 t d ⟨o.nodes+1,max o.depth d,(((((o.badForm || !fm1 t) || !fm2 t) || !fm3 t) || !fm4 t) || !fm5 t) || !b6,o.badName || !na1 t,(o.badNumber || !u1) || !nm2 t⟩ 0
    = some (Ih o d t.nodes (t.depth - 1) (t.all Yc) (t.all Pl) (t.all Bs)):=by
  rintro _ _ rfl rfl
  have:=l4 ⟨o.nodes+1,max o.depth d,(((((o.badForm || !fm1 t) || !fm2 t) || !fm3 t) || !fm4 t) || !fm5 t) || !fm6 t,o.badName || !na1 t,(o.badNumber || !nm1 t) || !nm2 t⟩ rfl
  rw [show ((0:Nat):Int)=0 from rfl] at this h5
  rw [this,h5 _ (by simp only; omega) (by simp only; unfold BB; omega) (by simp only; omega)]
  simp only [Ih,I0.all_eq,I0.nodes_eq,I0.depth_eq,Yc,Pl,Bs,Cu,Bool.or_assoc,← Bool.not_and]
  simp only [Cu,Bool.and_assoc]
  rw [show o.nodes+1+(I0.nodess t.Of:Int)=o.nodes+((I0.nodess t.Of+1:Nat):Int) by omega,show max (max o.depth d) (d+(I0.depths t.Of:Int))=max o.depth (d+((I0.depths t.Of+1 - 1:Nat):Int)) by omega]
 have h2:(t.Kind == 2)=true∨(t.Kind == 2)=false:=by cases t.Kind == 2 <;> simp
 have h3:(t.Kind == 3)=true∨(t.Kind == 3)=false:=by cases t.Kind == 3 <;> simp
 rcases h2 with h2 | h2
 ·rw [if_pos h2]
  exact fin ((t.Of.length:Int) == 1) (S3 t.Size 1 32) (by unfold fm6; rw [h2,cond_true]) (by unfold nm1; rw [h2,cond_true])
 ·rw [if_neg (by rw [h2]; simp)]
  rcases h3 with h3 | h3
  ·rw [if_pos h3]
   exact fin (bif decide ((t.Of.length:Int)≥1) then (t.Of.length:Int) == (t.Names.length:Int) else false) (decide ((t.Of.length:Int)≤32)) (by unfold fm6; rw [h2,h3,cond_false,cond_true]) (by unfold nm1; rw [h2,h3,cond_false,cond_true])
  ·rw [if_neg (by rw [h3]; simp)]
   have:=fin ((t.Of.length:Int) == 0) true (by unfold fm6; rw [h2,h3,cond_false,cond_false]) (by unfold nm1; rw [h2,h3,cond_false,cond_false])
   rw [Bool.not_true,Bool.or_false] at this
   exact this
end Go.Proofs.YtmnhfbekncjnfaaGreatDoor

set_option linter.unusedSimpArgs false
namespace Go.Proofs.YtmnhfbekncjnfaaGreatDoor
open Go.Am
theorem J1i (t:I0)(ht:Ok t)(ih:∀ x∈t.Of,Ja x=some (x.nodes:Int)) :
  ∀ (r:List I0) (k:Nat) (n:Nat),t.Of.drop k=r→n+I0.nodess r≤BB→Ac t (n:Int) k=some ((n+I0.nodess r:Nat):Int)
 | [],k,n,h,hb=>by rw [Ac,(J2 h).1,if_neg (by simp)]; simp [I0.nodess]
 | x::r,k,n,h,hb=>by
  obtain ⟨e1,e2,e3,e4,e5⟩:=I3 h
  have:=ht.ofs
  simp only [I0.nodess] at hb
  have hb':=hb
  unfold BB at hb'
  rw [Ac,e1,if_pos rfl,e2,ob,ih x e5,ob,wr (n:=(n:Int)+_) (by omega) (by omega),w1 (by omega),show (n:Int)+(x.nodes:Int)=((n+x.nodes:Nat):Int) by omega,J1i t ht ih r (k+1) _ e3 (by omega)]
  simp only [I0.nodess,Nat.add_assoc]
theorem Q1n (t:I0):Ok t→Ja t=some (t.nodes:Int):=by
 induction t using I0.ind with
 | h t ih=>
 intro ht
 have hn:=ht.nodes
 rw [I0.nodes_eq] at hn
 rw [Ja]
 have:=J1i t ht (fun x hx=>ih x hx (ht.kid hx)) t.Of 0 1 rfl (by omega)
 rw [I0.nodes_eq,Nat.add_comm]
 exact this
theorem M1a (t:I0)(ht:Ok t)(ih:∀ x∈t.Of,Ka x=some (x.depth:Int))(B:Nat)(hB:B≤BB) :
  ∀ (r:List I0) (k:Nat) (n:Nat),t.Of.drop k=r→n≤B→I0.depths r≤B→E9 t (n:Int) k=some ((max n (I0.depths r)+1:Nat):Int)
 | [],k,n,h,hb,_=>by
  rw [E9,(J2 h).1,if_neg (by simp),w1 (by omega)]
  simp [I0.depths]
 | x::r,k,n,h,hb,hd=>by
  obtain ⟨e1,e2,e3,e4,e5⟩:=I3 h
  have:=ht.ofs
  simp only [I0.depths] at hd
  rw [E9,e1,if_pos rfl,e2,ob,ih x e5,ob,w1 (by omega),M1a t ht ih B hB r (k+1) _ e3 (by omega) (by omega),M1a t ht ih B hB r (k+1) _ e3 (by omega) (by omega)]
  simp only [I0.depths]
  by_cases hx:(x.depth:Int) > (n:Int)
  ·rw [if_pos (decide_eq_true hx),show max n (max x.depth (I0.depths r))=max x.depth (I0.depths r) by omega]
  ·rw [if_neg (by simpa using hx),show max n (max x.depth (I0.depths r))=max n (I0.depths r) by omega]
theorem R1n (t:I0):Ok t→Ka t=some (t.depth:Int):=by
 induction t using I0.ind with
 | h t ih=>
 intro ht
 have hn:=ht.nodes
 have hd:=I0.depth_nodes t
 rw [Ka]
 rw [I0.depth_eq] at hd
 have:=M1a t ht (fun x hx=>ih x hx (ht.kid hx)) BB (Nat.le_refl _) t.Of 0 0 rfl (by omega) (by omega)
 rw [I0.depth_eq]
 rw [show max 0 (I0.depths t.Of)=I0.depths t.Of by omega] at this
 exact this
theorem C1k (t:I0)(ht:Ok t)(ih:∀ x∈t.Of,Bc x=some (x.all Yc)):∀ (r:List I0) (k:Nat),t.Of.drop k=r→Cd t k=some (I0.alls Yc r)
 | [],k,h=>by rw [Cd,(J2 h).1,if_neg (by simp)]; rfl
 | x::r,k,h=>by
  obtain ⟨e1,e2,e3,e4,e5⟩:=I3 h
  have:=ht.ofs
  rw [Cd,e1,if_pos rfl,e2,ob,ih x e5,ob,w1 (by omega),C1k t ht ih r (k+1) e3,I0.alls]
  cases x.all Yc <;> simp
theorem X1p (t:I0):Ok t→Bc t=some (t.all Yc):=by
 induction t using I0.ind with
 | h t ih=>
 intro ht
 have h1:=C1k t ht (fun x hx=>ih x hx (ht.kid hx)) t.Of 0 rfl
 rw [show ((0:Nat):Int)=0 from rfl] at h1
 rw [Bc,h1,I0.all_eq,U1p]
 show (if D1i t=true then some false else if E1i t=true then some false else if F1i t=true then some false else some (I0.alls Yc t.Of))=_
 cases D1i t <;> cases E1i t <;> cases F1i t <;> simp
theorem D1f (t:I0)(ht:Ok t)(ih:∀ x∈t.Of,La x=some (x.all Pl)):∀ (r:List I0) (k:Nat),t.Of.drop k=r→F9 t k=some (I0.alls Pl r)
 | [],k,h=>by rw [F9,(J2 h).1,if_neg (by simp)]; rfl
 | x::r,k,h=>by
  obtain ⟨e1,e2,e3,e4,e5⟩:=I3 h
  have:=ht.ofs
  rw [F9,e1,if_pos rfl,e2,ob,ih x e5,ob,w1 (by omega),D1f t ht ih r (k+1) e3,I0.alls]
  cases x.all Pl <;> simp
theorem E1f (t:I0)(ht:Ok t)(b:Bool)(hb:F9 t 0=some b):∀ (r:List Str) (k:Nat),t.Names.drop k=r→Cc t k=some (r.all Ba&&b)
 | [],k,h=>by rw [Cc,(J2 h).1,if_neg (by simp),hb]; rfl
 | x::r,k,h=>by
  obtain ⟨e1,e2,e3,e4,e5⟩:=I3 h
  have:=ht.names
  rw [Cc,e1,if_pos rfl,e2,ob,Nm x (ht.name1 e5),ob,w1 (by omega),E1f t ht b hb r (k+1) e3,List.all_cons]
  cases Ba x <;> simp
theorem S1n (t:I0):Ok t→La t=some (t.all Pl):=by
 induction t using I0.ind with
 | h t ih=>
 intro ht
 have h2:=D1f t ht (fun x hx=>ih x hx (ht.kid hx)) t.Of 0 rfl
 have h1:=E1f t ht _ h2 t.Names 0 rfl
 rw [show ((0:Nat):Int)=0 from rfl] at h1
 rw [La,h1,I0.all_eq,Nm t.Name ht.name]
 unfold Pl na1
 cases t.Kind == 4 <;> cases Ba t.Name <;> simp
theorem S1c (t:I0)(ht:Ok t)(ih:∀ x∈t.Of,Z7 x=some (x.all fun t=>!Ds t)):∀ (r:List I0) (k:Nat),t.Of.drop k=r→W9 t k=some (I0.alls (fun t=>!Ds t) r)
 | [],k,h=>by rw [W9,(J2 h).1,if_neg (by simp)]; rfl
 | x::r,k,h=>by
  obtain ⟨e1,e2,e3,e4,e5⟩:=I3 h
  have:=ht.ofs
  rw [W9,e1,if_pos rfl,e2,ob,ih x e5,ob,w1 (by omega),S1c t ht ih r (k+1) e3,I0.alls]
  cases x.all (fun t=>!Ds t) <;> simp
theorem Ry (n:Int):Oe n=some (Vh n):=rfl
theorem L1j (t:I0):Ok t→Z7 t=some (t.all fun t=>!Ds t):=by
 induction t using I0.ind with
 | h t ih=>
 intro ht
 have h1:=S1c t ht (fun x hx=>ih x hx (ht.kid hx)) t.Of 0 rfl
 rw [show ((0:Nat):Int)=0 from rfl] at h1
 rw [Z7,h1,I0.all_eq]
 simp only [Ry]
 generalize I0.alls (fun t=>!Ds t) t.Of=A
 unfold Ds
 generalize decide ((t.Of.length:Int) > 32)=b1
 generalize (bif t.Kind == 2 then (bif decide (t.Size < 1) then true else decide (t.Size > 32)) else false)=b2
 generalize decide (t.Low > t.High)=b3
 cases t.Kind == 1 <;> cases Vh t.Low <;> cases Vh t.High <;> cases b1 <;> cases b2 <;> cases b3 <;> rfl
theorem M1j (s:P0)(f m u:Bool):Xk s f m u=some (Cs s.nodes s.depth (!f) (!m) (!u)):=by
 unfold Xk Cs
 cases (bif decide (s.nodes > 1024) then true else decide (s.depth > 12)) <;> cases f <;> cases m <;> cases u <;> rfl
end Go.Proofs.YtmnhfbekncjnfaaGreatDoor

set_option linter.unusedSimpArgs false
set_option linter.unusedVariables false
namespace Go.Proofs.YtmnhfbekncjnfaaGreatDoor
open Go.Am
theorem A0.ind {P:A0→Prop}(h:∀ t:A0,(∀ x∈t.Kids,P x)→P t):∀ t,P t:=by
 intro t
 refine A0.rec (motive_1:=P) (motive_2:=fun l=>∀ x∈l,P x) ?_ ?_ ?_ t
 ·intro k l n of ih
  exact h _ ih
 ·intro x hx; cases hx
 ·intro x r hx hr y hy
  cases hy with
  | head=>exact hx
  | tail _ hy=>exact hr y hy
mutual
def A0.depth:A0→Nat
 | .mk _ _ _ of=>A0.depths of+1
def A0.depths:List A0→Nat
 | []=>0
 | t::r=>max (A0.depth t) (A0.depths r)
end
theorem A0.depth_eq (t:A0):t.depth=A0.depths t.Kids+1:=by cases t; simp [A0.depth,A0.Kids]
mutual
def A0.all (p:A0→Bool):A0→Bool
 | .mk k l n of=>p (.mk k l n of)&&A0.alls p of
def A0.alls (p:A0→Bool):List A0→Bool
 | []=>true
 | t::r=>A0.all p t&&A0.alls p r
end
theorem A0.all_eq (p:A0→Bool)(t:A0):t.all p=(p t&&A0.alls p t.Kids):=by cases t; rfl
mutual
def A0.nodes:A0→Nat
 | .mk _ _ _ of=>A0.nodess of+1
def A0.nodess:List A0→Nat
 | []=>0
 | t::r=>A0.nodes t+A0.nodess r
end
theorem A0.nodes_eq (t:A0):t.nodes=A0.nodess t.Kids+1:=by cases t; rfl
mutual
theorem A0.depth_nodes:∀ t:A0,t.depth≤t.nodes
 | .mk _ _ _ of=>by simp only [A0.depth,A0.nodes]; have:=A0.depths_nodess of; omega
theorem A0.depths_nodess:∀ l:List A0,A0.depths l≤A0.nodess l
 | []=>Nat.le_refl _
 | t::r=>by simp only [A0.depths,A0.nodess]; have:=A0.depth_nodes t; have:=A0.depths_nodess r; omega
end
mutual
def A0.bulk:A0→Nat
 | .mk _ _ n ks=>1+(1+((n.length+1)+((A0.bulks ks+1)+0)))+1
def A0.bulks:List A0→Nat
 | []=>0
 | x::r=>A0.bulk x+A0.bulks r
end
theorem A0.bulk_eq (t:A0):t.bulk=t.Name.length+A0.bulks t.Kids+5:=by cases t; simp only [A0.bulk]; omega
theorem A0.bulk_kid {t:A0}:∀ {l:List A0},t∈l→t.bulk≤A0.bulks l
 | x::r,h=>by
  simp only [A0.bulks]
  cases h with
  | head=>omega
  | tail _ h=>have:=A0.bulk_kid h; omega
theorem A0.bulk_len:∀ l:List A0,l.length≤A0.bulks l
 | []=>Nat.le_refl _
 | x::r=>by
  simp only [A0.bulks,List.length_cons]
  have:=A0.bulk_len r
  have:=A0.bulk_eq x
  omega
mutual
theorem A0.nodes_bulk:∀ t:A0,t.nodes≤t.bulk
 | .mk _ _ _ of=>by simp only [A0.nodes,A0.bulk]; have:=A0.nodess_bulk of; omega
theorem A0.nodess_bulk:∀ l:List A0,A0.nodess l≤A0.bulks l
 | []=>Nat.le_refl _
 | x::r=>by simp only [A0.nodess,A0.bulks]; have:=A0.nodes_bulk x; have:=A0.nodess_bulk r; omega
end
def OkE (t:A0):Prop:=t.bulk≤BB
theorem OkE.kid {t x:A0}(h:OkE t)(hx:x∈t.Kids):OkE x:=by
 unfold OkE at *
 have:=A0.bulk_kid hx
 have:=A0.bulk_eq t
 omega
theorem OkE.kids {t:A0}(h:OkE t):t.Kids.length≤BB:=by
 unfold OkE at *
 have:=A0.bulk_len t.Kids
 have:=A0.bulk_eq t
 omega
theorem OkE.name {t:A0}(h:OkE t):t.Name.length≤BB:=by
 unfold OkE at *
 have:=A0.bulk_eq t
 omega
theorem OkE.nodes {t:A0}(h:OkE t):t.nodes≤BB:=Nat.le_trans (A0.nodes_bulk t) h
def ar (o:Int):Int:=
 bif (bif (bif (bif (o == 0) then true else (o == 1)) then true else (o == 2)) then true else (o == 3)) then 0
 else bif (bif (bif (o == 4) then true else (o == 6)) then true else (o == 7)) then 1
 else bif (bif (o == 5) then true else (bif (decide (o≥8)) then (decide (o≤22)) else false)) then 2
 else bif (o == 23) then 3 else -1
theorem U1r (o:Int):Pp o=some (ar o):=by
 unfold Pp ar
 cases (bif (bif (bif (o == 0) then true else (o == 1)) then true else (o == 2)) then true else (o == 3)) <;> cases (bif (bif (o == 4) then true else (o == 6)) then true else (o == 7)) <;>
  cases (bif (o == 5) then true else (bif (decide (o≥8)) then (decide (o≤22)) else false)) <;> cases o == 23 <;> rfl
theorem Y1p (o:Int):Mg o=some (ar o):=by
 by_cases h:o=23
 ·subst h; rfl
 have h':(o == 23)=false:=beq_eq_false_iff_ne.2 h
 simp only [Mg,G8,Ea,ar,h']
 cases o == 0 <;> cases o == 1 <;> cases o == 2 <;> cases o == 3 <;> first | rfl | skip
 cases o == 4 <;> cases o == 6 <;> cases o == 7 <;> first | rfl | skip
 cases o == 5 <;> cases (bif decide (o≥8) then decide (o≤22) else false) <;> rfl
mutual
def A0.place:A0→Bool
 | .mk op _ _ ks=>bif op == 3 then true else bif (bif op == 4 then true else op == 5) then A0.place1 ks else false
def A0.place1:List A0→Bool
 | []=>false
 | x::_=>A0.place x
end
theorem A0.place_eq (e:A0):e.place=(bif e.Op == 3 then true else bif (bif e.Op == 4 then true else e.Op == 5) then A0.place1 e.Kids else false):=by cases e; simp only [A0.place]
theorem b3 {o:Int}(h:(bif o == 4 then true else o == 5)=true):(o == 3)=false:=by
 apply beq_eq_false_iff_ne.2
 rintro rfl
 cases h
theorem F1f (e:A0):Ke e=some e.place:=by
 unfold Ke
 induction e using A0.ind with
 | h e ih=>
 rw [H8,A0.place_eq]
 cases hb:(bif e.Op == 4 then true else e.Op == 5) with
 | false=>cases e.Op == 3 <;> simp
 | true=>
  rw [b3 hb]
  cases hk:e.Kids with
  | nil=>rfl
  | cons k r=>
   have:=ih k (by rw [hk]; simp)
   have h0:idx (k::r) 0=some k:=rfl
   have h1:(((k::r).length:Int) == 0)=false:=beq_eq_false_iff_ne.2 (by simp only [List.length_cons]; omega)
   simp only [h1,h0,ob,this,cond_true,cond_false,A0.place1]
   simp
theorem G1f (e:A0):Hd e=some e.place:=by
 induction e using A0.ind with
 | h e ih=>
 rw [Hd,A0.place_eq]
 cases h3:e.Op == 3 with
 | true=>simp
 | false=>
  cases hb:(bif e.Op == 4 then true else e.Op == 5) with
  | false=>simp [ob]
  | true=>
   cases hk:e.Kids with
   | nil=>simp [ob,A0.place1]
   | cons k r=>
    have:=ih k (by rw [hk]; simp)
    have h0:idx (k::r) 0=some k:=rfl
    have h1:decide (((k::r).length:Int) > 0)=true:=decide_eq_true (by simp only [List.length_cons]; omega)
    simp only [h1,h0,ob,cond_true,cond_false,A0.place1]
    simp [ob,this]
def ef1 (e:A0):Bool:=ar e.Op == (e.Kids.length:Int)
def ef2 (e:A0):Bool:=bif e.NV == 0 then true else e.Op == 0
def ef3 (e:A0):Bool:=bif e.Name == [] then true else bif e.Op == 3 then true else e.Op == 4
def ef4 (e:A0):Bool:=bif (bif e.Op == 4 then true else e.Op == 5) then e.place else true
def E6 (e:A0):Bool:=ef1 e&&ef2 e&&ef3 e&&ef4 e
def W6 (e:A0):Bool:=bif (bif e.Op == 3 then true else e.Op == 4) then Ba e.Name else true
def N6 (e:A0):Bool:=bif e.Op == 0 then S3 e.NV 0 1048576 else true
theorem D1k (e:A0)(d:Int)(hd:0≤d)(ht:OkE e)
  (ih:∀ x∈e.Kids,∀ (d:Int) (o:J0),0≤d→d+x.nodes≤4 * BB→0≤o.nodes→o.nodes+x.nodes≤4 * BB→B3 x d o=some (Ih o d x.nodes (x.depth - 1) (x.all E6) (x.all W6) (x.all N6))) :
  ∀ (r:List A0) (k:Nat) (o:J0),e.Kids.drop k=r→d+1+A0.nodess r≤4 * BB→0≤o.nodes→o.nodes+A0.nodess r≤4 * BB→d≤o.depth→
   E4 e d o k=some (Ih o d (A0.nodess r) (A0.depths r) (A0.alls E6 r) (A0.alls W6 r) (A0.alls N6 r))
 | [],k,o,h,_,_,_,h5=>by
  rw [E4,(J2 h).1]
  simp only [Ih,A0.nodess,A0.depths,A0.alls,Bool.not_true,Bool.or_false]
  rw [if_neg (by simp),show o.nodes+((0:Nat):Int)=o.nodes by omega,show max o.depth (d+((0:Nat):Int))=o.depth by omega]
 | x::r,k,o,h,hb,h3,h4,h5=>by
  obtain ⟨e1,e2,e3,e4,e5⟩:=I3 h
  simp only [A0.nodess] at hb h4
  have hdp:1≤x.depth:=by rw [A0.depth_eq]; omega
  have hof:=ht.kids
  unfold BB at hb h4 hof
  rw [E4,e1,if_pos rfl,e2,ob,wr (n:=d+1) (by omega) (by omega),ih x e5 (d+1) o (by omega) (by unfold BB; omega) h3 (by unfold BB; omega),ob,w1 (by unfold BB; omega),
   D1k e d hd ht ih r (k+1) _ e3 (by unfold BB; omega) (by simp only [Ih]; omega) (by simp only [Ih]; unfold BB; omega) (by simp only [Ih]; omega)]
  simp only [Ih,A0.nodess,A0.depths,A0.alls,Cu]
  rw [show o.nodes+(x.nodes:Int)+(A0.nodess r:Nat)=o.nodes+((x.nodes+A0.nodess r:Nat):Int) by omega,
   show max (max o.depth (d+1+((x.depth - 1:Nat):Int))) (d+(A0.depths r:Nat))=max o.depth (d+((max x.depth (A0.depths r):Nat):Int)) by omega]
theorem Z1p (e:A0)(ht:OkE e)(d:Int)(o:J0):Q6 e d o=E4 e d ⟨o.nodes,o.depth,o.badForm,o.badName || !W6 e,o.badNumber || !N6 e⟩ 0:=by
 rw [Q6,O13 _ ht.name,ob]
 simp only [O8,P8,Rk,Xv,ob]
 unfold W6 N6
 cases (bif e.Op == 3 then true else e.Op == 4) <;> cases e.Op == 0 <;> simp
theorem A1q (e:A0):OkE e→∀ (d:Int) (o:J0),0≤d→d+e.nodes≤4 * BB→0≤o.nodes→o.nodes+e.nodes≤4 * BB→
  B3 e d o=some (Ih o d e.nodes (e.depth - 1) (e.all E6) (e.all W6) (e.all N6)):=by
 induction e using A0.ind with
 | h e ih=>
 intro ht d o hd hb h3 h4
 have h5:=fun o h3 h4 hd'=>D1k e d hd ht (fun x hx=>ih x hx (ht.kid hx)) e.Kids 0 o rfl (by rw [A0.nodes_eq] at hb; omega) h3 h4 hd'
 rw [A0.nodes_eq] at hb h4
 unfold BB at hb h4
 rw [B3]
 simp only [K1a,L1a,Y1p,F1f,ob,Z1p e ht]
 rw [wr (n:=o.nodes+1) (by omega) (by omega)]
 rw [show ((0:Nat):Int)=0 from rfl] at h5
 have fin:∀ f:Bool,ef4 e=f→E4 e d ⟨o.nodes+1,max o.depth d,(((o.badForm || !ef1 e) || !ef2 e) || !ef3 e) || !f,o.badName || !W6 e,o.badNumber || !N6 e⟩ 0=some (Ih o d e.nodes (e.depth - 1) (e.all E6) (e.all W6) (e.all N6)):=by
  rintro _ rfl
  rw [h5 _ (by simp only; omega) (by simp only; unfold BB; omega) (by simp only; omega)]
  simp only [Ih,A0.all_eq,A0.nodes_eq,A0.depth_eq,E6,Cu,Bool.or_assoc,← Bool.not_and]
  simp only [Cu,Bool.and_assoc]
  rw [show o.nodes+1+(A0.nodess e.Kids:Int)=o.nodes+((A0.nodess e.Kids+1:Nat):Int) by omega,show max (max o.depth d) (d+(A0.depths e.Kids:Int))=max o.depth (d+((A0.depths e.Kids+1 - 1:Nat):Int)) by omega]
 cases hb:(bif e.Op == 4 then true else e.Op == 5) with
 | true=>
  rw [if_pos rfl]
  exact fin e.place (by unfold ef4; rw [hb]; rfl)
 | false=>
  rw [if_neg (by simp)]
  have:=fin true (by unfold ef4; rw [hb]; rfl)
  rw [Bool.not_true,Bool.or_false] at this
  exact this
end Go.Proofs.YtmnhfbekncjnfaaGreatDoor

set_option linter.unusedSimpArgs false
set_option linter.unusedVariables false
namespace Go.Proofs.YtmnhfbekncjnfaaGreatDoor
open Go.Am
theorem H1f (t:A0)(ht:OkE t)(ih:∀ x∈t.Kids,Ha x=some (x.nodes:Int)) :
  ∀ (r:List A0) (k:Nat) (n:Nat),t.Kids.drop k=r→n+A0.nodess r≤BB→Xb t (n:Int) k=some ((n+A0.nodess r:Nat):Int)
 | [],k,n,h,hb=>by rw [Xb,(J2 h).1,if_neg (by simp)]; simp [A0.nodess]
 | x::r,k,n,h,hb=>by
  obtain ⟨e1,e2,e3,e4,e5⟩:=I3 h
  have:=ht.kids
  simp only [A0.nodess] at hb
  have hb':=hb
  unfold BB at hb'
  rw [Xb,e1,if_pos rfl,e2,ob,ih x e5,ob,wr (n:=(n:Int)+_) (by omega) (by omega),w1 (by omega),show (n:Int)+(x.nodes:Int)=((n+x.nodes:Nat):Int) by omega,H1f t ht ih r (k+1) _ e3 (by omega)]
  simp only [A0.nodess,Nat.add_assoc]
theorem N1l (t:A0):OkE t→Ha t=some (t.nodes:Int):=by
 induction t using A0.ind with
 | h t ih=>
 intro ht
 have hn:=ht.nodes
 rw [A0.nodes_eq] at hn
 rw [Ha]
 have:=H1f t ht (fun x hx=>ih x hx (ht.kid hx)) t.Kids 0 1 rfl (by omega)
 rw [A0.nodes_eq,Nat.add_comm]
 exact this
theorem Q17 (t:A0)(ht:OkE t)(ih:∀ x∈t.Kids,Ia x=some (x.depth:Int))(B:Nat)(hB:B≤BB) :
  ∀ (r:List A0) (k:Nat) (n:Nat),t.Kids.drop k=r→n≤B→A0.depths r≤B→C9 t (n:Int) k=some ((max n (A0.depths r)+1:Nat):Int)
 | [],k,n,h,hb,_=>by
  rw [C9,(J2 h).1,if_neg (by simp),w1 (by omega)]
  simp [A0.depths]
 | x::r,k,n,h,hb,hd=>by
  obtain ⟨e1,e2,e3,e4,e5⟩:=I3 h
  have:=ht.kids
  simp only [A0.depths] at hd
  rw [C9,e1,if_pos rfl,e2,ob,ih x e5,ob,w1 (by omega),Q17 t ht ih B hB r (k+1) _ e3 (by omega) (by omega),Q17 t ht ih B hB r (k+1) _ e3 (by omega) (by omega)]
  simp only [A0.depths]
  by_cases hx:(x.depth:Int) > (n:Int)
  ·rw [if_pos (decide_eq_true hx),show max n (max x.depth (A0.depths r))=max x.depth (A0.depths r) by omega]
  ·rw [if_neg (by simpa using hx),show max n (max x.depth (A0.depths r))=max n (A0.depths r) by omega]
theorem O1l (t:A0):OkE t→Ia t=some (t.depth:Int):=by
 induction t using A0.ind with
 | h t ih=>
 intro ht
 have hn:=ht.nodes
 have hd:=A0.depth_nodes t
 rw [Ia]
 rw [A0.depth_eq] at hd
 have:=Q17 t ht (fun x hx=>ih x hx (ht.kid hx)) BB (Nat.le_refl _) t.Kids 0 0 rfl (by omega) (by omega)
 rw [A0.depth_eq]
 rw [show max 0 (A0.depths t.Kids)=A0.depths t.Kids by omega] at this
 exact this
theorem Du (n:Int)(d:Int)(m:Int):Y7 ⟨n,d⟩ m=some ⟨n,max d m⟩:=by
 unfold Y7
 by_cases h:m > d
 ·rw [if_pos (decide_eq_true h),show max d m=m by omega]
 ·rw [if_neg (by simpa using h),show max d m=d by omega]
theorem K1i (e:A0)(ht:OkE e)(ih:∀ x∈e.Kids,S5 x=some (x.all E6)):∀ (r:List A0) (k:Nat),e.Kids.drop k=r→Bd e k=some (A0.alls E6 r)
 | [],k,h=>by rw [Bd,(J2 h).1,if_neg (by simp)]; rfl
 | x::r,k,h=>by
  obtain ⟨e1,e2,e3,e4,e5⟩:=I3 h
  have:=ht.kids
  rw [Bd,e1,if_pos rfl,e2,ob,ih x e5,ob,w1 (by omega),K1i e ht ih r (k+1) e3,A0.alls]
  cases x.all E6 <;> simp
theorem Sy (e:A0):OkE e→S5 e=some (e.all E6):=by
 induction e using A0.ind with
 | h e ih=>
 intro ht
 have h1:=K1i e ht (fun x hx=>ih x hx (ht.kid hx)) e.Kids 0 rfl
 rw [show ((0:Nat):Int)=0 from rfl] at h1
 rw [S5,h1,A0.all_eq,G1f,U1r,ob]
 generalize A0.alls E6 e.Kids=A
 have hb:(bif (bif (ar e.Op != (e.Kids.length:Int)) then true else (bif (e.Op != 0) then (e.NV != 0) else false)) then true else (bif (bif (e.Op != 3) then (e.Op != 4) else false) then (!(e.Name == [])) else false)) = !(ef1 e&&ef2 e&&ef3 e):=by
  unfold ef1 ef2 ef3
  simp only [bne]
  cases ar e.Op == (e.Kids.length:Int) <;> cases e.NV == 0 <;> cases e.Op == 0 <;> cases e.Name == [] <;> cases e.Op == 3 <;> cases e.Op == 4 <;> rfl
 rw [hb]
 unfold E6 ef4
 cases (ef1 e&&ef2 e&&ef3 e) <;> cases (bif e.Op == 4 then true else e.Op == 5) <;> cases e.place <;> simp [ob]
theorem I1f (e:A0)(ht:OkE e)(ih:∀ x∈e.Kids,J5 x=some (x.all W6)):∀ (r:List A0) (k:Nat),e.Kids.drop k=r→Yb e k=some (A0.alls W6 r)
 | [],k,h=>by rw [Yb,(J2 h).1,if_neg (by simp)]; rfl
 | x::r,k,h=>by
  obtain ⟨e1,e2,e3,e4,e5⟩:=I3 h
  have:=ht.kids
  rw [Yb,e1,if_pos rfl,e2,ob,ih x e5,ob,w1 (by omega),I1f e ht ih r (k+1) e3,A0.alls]
  cases x.all W6 <;> simp
theorem Yv (e:A0):OkE e→J5 e=some (e.all W6):=by
 induction e using A0.ind with
 | h e ih=>
 intro ht
 have h1:=I1f e ht (fun x hx=>ih x hx (ht.kid hx)) e.Kids 0 rfl
 rw [show ((0:Nat):Int)=0 from rfl] at h1
 rw [J5,h1,A0.all_eq,Nm e.Name ht.name]
 generalize A0.alls W6 e.Kids=A
 unfold W6
 cases (bif e.Op == 3 then true else e.Op == 4) <;> cases Ba e.Name <;> simp [ob]
theorem J19 (e:A0)(ht:OkE e)(ih:∀ x∈e.Kids,J4 x=some (x.all N6)):∀ (r:List A0) (k:Nat),e.Kids.drop k=r→R9 e k=some (A0.alls N6 r)
 | [],k,h=>by rw [R9,(J2 h).1,if_neg (by simp)]; rfl
 | x::r,k,h=>by
  obtain ⟨e1,e2,e3,e4,e5⟩:=I3 h
  have:=ht.kids
  rw [R9,e1,if_pos rfl,e2,ob,ih x e5,ob,w1 (by omega),J19 e ht ih r (k+1) e3,A0.alls]
  cases x.all N6 <;> simp
theorem Bq (e:A0):OkE e→J4 e=some (e.all N6):=by
 induction e using A0.ind with
 | h e ih=>
 intro ht
 have h1:=J19 e ht (fun x hx=>ih x hx (ht.kid hx)) e.Kids 0 rfl
 rw [show ((0:Nat):Int)=0 from rfl] at h1
 rw [J4,h1,A0.all_eq]
 have:N6 e = !(bif (e.Op == 0) then (bif (decide (e.NV < 0)) then true else (decide (e.NV > 1048576))) else false):=by
  unfold N6 S3
  rw [M13,N13]
  cases e.Op == 0 <;> cases decide (e.NV≥0) <;> cases decide (e.NV≤1048576) <;> rfl
 rw [this]
 cases (bif (e.Op == 0) then (bif (decide (e.NV < 0)) then true else (decide (e.NV > 1048576))) else false) <;> simp
end Go.Proofs.YtmnhfbekncjnfaaGreatDoor

set_option linter.unusedSimpArgs false
set_option linter.unusedVariables false
namespace Go.Proofs.YtmnhfbekncjnfaaGreatDoor
open Go.Am
theorem P13 {α:Type}{l:List α}{k:Nat}(h:k < l.length):∃ y,idx l (k:Int)=some y∧l.drop k=y::l.drop (k+1)∧y∈l:=by
 refine ⟨l[k],?_,List.drop_eq_getElem_cons h,List.getElem_mem h⟩
 unfold idx
 rw [if_pos (by omega)]
 simp [h]
theorem z0:(0:Int)=((0:Nat):Int):=rfl
theorem Om {α:Type}{p:α→α→Bool}:∀ l:List α,(∀ x∈l,p x x=true)→eqL p l l=true
 | [],_=>rfl
 | x::r,h=>by rw [eqL,h x List.mem_cons_self,Om r fun y hy=>h y (List.mem_cons_of_mem _ hy)]; rfl
theorem J1f (t u:I0)(ht:Ok t)(hl:t.Of.length=u.Of.length)(ih:∀ x∈t.Of,∀ y,J8 x y=some (x.same y)) :
  ∀ (r:List I0) (k:Nat),t.Of.drop k=r→D9 t u k=some (eqL I0.same r (u.Of.drop k))
 | [],k,h=>by
  rw [D9,(J2 h).1,if_neg (by simp),List.drop_eq_nil_of_le (by have:=(J2 h).2; omega)]; rfl
 | x::r,k,h=>by
  obtain ⟨e1,e2,e3,e4,e5⟩:=I3 h
  obtain ⟨y,f1,f2,f3⟩:=P13 (l:=u.Of) (k:=k) (by omega)
  have:=ht.ofs
  rw [D9,e1,if_pos rfl,e2,ob,f1,ob,ih x e5 y,ob,w1 (by omega),J1f t u ht hl ih r (k+1) e3,f2,eqL]
  cases x.same y <;> simp
theorem K1f (t u:I0)(ht:Ok t)(hl:t.Names.length=u.Names.length)(b:Bool)(hb:D9 t u 0=some b) :
  ∀ (r:List Str) (k:Nat),t.Names.drop k=r→Zb t u k=some (eqL (fun x y=>x == y) r (u.Names.drop k)&&b)
 | [],k,h=>by
  rw [Zb,(J2 h).1,if_neg (by simp),List.drop_eq_nil_of_le (by have:=(J2 h).2; omega),hb]; rfl
 | x::r,k,h=>by
  obtain ⟨e1,e2,e3,e4,e5⟩:=I3 h
  obtain ⟨y,f1,f2,f3⟩:=P13 (l:=u.Names) (k:=k) (by omega)
  have:=ht.names
  rw [Zb,e1,if_pos rfl,e2,ob,f1,ob,w1 (by omega),K1f t u ht hl b hb r (k+1) e3,f2,eqL]
  cases x == y <;> simp
theorem L1f (t:I0):Ok t→∀ u,J8 t u=some (t.same u):=by
 induction t using I0.ind with
 | h t ih=>
 intro ht u
 have ih':=fun x hx=>ih x hx (ht.kid hx)
 rw [J8]
 show (if E1e t u=true then _ else _)=_
 cases hd:E1e t u with
 | true=>rw [if_pos rfl,N1n hd]
 | false=>
  obtain ⟨h1,h2,h3⟩:=V1p hd
  have h4:=J1f t u ht h3 ih' t.Of 0 rfl
  have h5:=K1f t u ht h2 _ h4 t.Names 0 rfl
  rw [if_neg (by simp),z0,h5,h1]
  rfl
theorem T1n (t:I0):t.same t=true:=by
 induction t using I0.ind with
 | h t ih=>
 rw [I0.same_eq,Om t.Names (fun x _=>by simp),Om t.Of ih]
 simp
theorem L1i (s u:List Str)(hs:s.length≤BB)(hl:s.length=u.length):∀ (r:List Str) (k:Nat),s.drop k=r→M3 s u k=some (eqL (fun x y=>x == y) r (u.drop k))
 | [],k,h=>by
  rw [M3,(J2 h).1,if_neg (by simp),List.drop_eq_nil_of_le (by have:=(J2 h).2; omega)]; rfl
 | x::r,k,h=>by
  obtain ⟨e1,e2,e3,e4,e5⟩:=I3 h
  obtain ⟨y,f1,f2,f3⟩:=P13 (l:=u) (k:=k) (by omega)
  rw [M3,e1,if_pos rfl,e2,ob,f1,ob,w1 (by omega),L1i s u hs hl r (k+1) e3,f2,eqL]
  cases x == y <;> simp
theorem U1n (s u:List Str)(hs:s.length≤BB):O7 s u=some (eqL (fun x y=>x == y) s u):=by
 unfold O7
 by_cases hl:s.length=u.length
 ·rw [if_neg (by simp; omega),z0,L1i s u hs hl s 0 rfl]; rfl
 ·rw [if_pos (by simp; omega),Nj _ hl]
theorem M1i (s u:List I0)(hs:s.length≤BB)(hl:s.length=u.length)(ih:∀ x∈s,∀ y,H9 x y=some (x.same y)) :
  ∀ (r:List I0) (k:Nat),s.drop k=r→B2 s u k=some (eqL I0.same r (u.drop k))
 | [],k,h=>by
  rw [B2,(J2 h).1,if_neg (by simp),List.drop_eq_nil_of_le (by have:=(J2 h).2; omega)]; rfl
 | x::r,k,h=>by
  obtain ⟨e1,e2,e3,e4,e5⟩:=I3 h
  obtain ⟨y,f1,f2,f3⟩:=P13 (l:=u) (k:=k) (by omega)
  rw [B2,e1,if_pos rfl,e2,ob,f1,ob,ih x e5 y,ob,w1 (by omega),M1i s u hs hl ih r (k+1) e3,f2,eqL]
  cases x.same y <;> simp
theorem P1l (t:I0):Ok t→∀ u,H9 t u=some (t.same u):=by
 induction t using I0.ind with
 | h t ih=>
 intro ht u
 have ih':=fun x hx=>ih x hx (ht.kid hx)
 have hO:P3 t.Of u.Of=some (eqL I0.same t.Of u.Of):=by
  rw [P3]
  by_cases hl:t.Of.length=u.Of.length
  ·rw [if_neg (by simp; omega),z0,M1i t.Of u.Of ht.ofs hl ih' t.Of 0 rfl]; rfl
  ·rw [if_pos (by simp; omega),Nj _ hl]
 rw [H9,hO,U1n _ _ ht.names,I0.same_eq]
 generalize eqL I0.same t.Of u.Of=a
 generalize eqL (fun x y=>x == y) t.Names u.Names=b
 cases t.Kind == u.Kind <;> cases t.Low == u.Low <;> cases t.High == u.High <;> cases t.Size == u.Size <;> cases t.Name == u.Name <;> cases b <;> cases a <;> rfl
mutual
def A0.same:A0→A0→Bool
 | .mk o n nm ks,t=>o == t.Op&&n == t.NV&&nm == t.Name&&A0.sames ks t.Kids
def A0.sames:List A0→List A0→Bool
 | [],[]=>true
 | x::r,y::s=>A0.same x y&&A0.sames r s
 | [],_::_=>false
 | _::_,[]=>false
end
theorem A0.sames_eq:∀ l m:List A0,A0.sames l m=eqL A0.same l m
 | [],[]=>rfl
 | x::r,y::s=>by simp only [A0.sames,eqL,A0.sames_eq r s]
 | [],_::_=>rfl
 | _::_,[]=>rfl
theorem A0.same_eq (t u:A0):t.same u=(t.Op == u.Op&&t.NV == u.NV&&t.Name == u.Name&&eqL A0.same t.Kids u.Kids):=by
 rw [← A0.sames_eq]
 cases t
 rfl
theorem V1n (s u:List A0)(hs:s.length≤BB)(hl:s.length=u.length)(ih:∀ x∈s,∀ y,J7 x y=some (x.same y)) :
  ∀ (r:List A0) (k:Nat),s.drop k=r→C2 s u k=some (eqL A0.same r (u.drop k))
 | [],k,h=>by
  rw [C2,(J2 h).1,if_neg (by simp),List.drop_eq_nil_of_le (by have:=(J2 h).2; omega)]; rfl
 | x::r,k,h=>by
  obtain ⟨e1,e2,e3,e4,e5⟩:=I3 h
  obtain ⟨y,f1,f2,f3⟩:=P13 (l:=u) (k:=k) (by omega)
  rw [C2,e1,if_pos rfl,e2,ob,f1,ob,ih x e5 y,ob,w1 (by omega),V1n s u hs hl ih r (k+1) e3,f2,eqL]
  cases x.same y <;> simp
theorem B1q (s u:List A0)(hs:s.length≤BB)(ih:∀ x∈s,∀ y,J7 x y=some (x.same y)):Q3 s u=some (eqL A0.same s u):=by
 rw [Q3]
 by_cases hl:s.length=u.length
 ·rw [if_neg (by simp; omega),z0,V1n s u hs hl ih s 0 rfl]; rfl
 ·rw [if_pos (by simp; omega),Nj _ hl]
theorem Q1l (t:A0):OkE t→∀ u,J7 t u=some (t.same u):=by
 induction t using A0.ind with
 | h t ih=>
 intro ht u
 rw [J7,B1q t.Kids u.Kids ht.kids (fun x hx=>ih x hx (ht.kid hx)),A0.same_eq]
 generalize eqL A0.same t.Kids u.Kids=a
 cases t.Op == u.Op <;> cases t.NV == u.NV <;> cases t.Name == u.Name <;> cases a <;> rfl
theorem W1n (t u:A0)(ht:OkE t)(hl:t.Kids.length=u.Kids.length)(ih:∀ x∈t.Kids,∀ y,U3 x y=some (x.same y)) :
  ∀ (r:List A0) (k:Nat),t.Kids.drop k=r→Z6 t u k=some (eqL A0.same r (u.Kids.drop k))
 | [],k,h=>by
  rw [Z6,(J2 h).1,if_neg (by simp),List.drop_eq_nil_of_le (by have:=(J2 h).2; omega)]; rfl
 | x::r,k,h=>by
  obtain ⟨e1,e2,e3,e4,e5⟩:=I3 h
  obtain ⟨y,f1,f2,f3⟩:=P13 (l:=u.Kids) (k:=k) (by omega)
  have:=ht.kids
  rw [Z6,e1,if_pos rfl,e2,ob,f1,ob,ih x e5 y,ob,w1 (by omega),W1n t u ht hl ih r (k+1) e3,f2,eqL]
  cases x.same y <;> simp
theorem Cq (t:A0):OkE t→∀ u,U3 t u=some (t.same u):=by
 induction t using A0.ind with
 | h t ih=>
 intro ht u
 have ih':=fun x hx=>ih x hx (ht.kid hx)
 rw [U3,A0.same_eq]
 by_cases hl:t.Kids.length=u.Kids.length
 ·have h4:=W1n t u ht hl ih' t.Kids 0 rfl
  have hb:(bif (bif (bif (t.Op != u.Op) then true else (t.NV != u.NV)) then true else (!(t.Name == u.Name))) then true else ((t.Kids.length:Int) != (u.Kids.length:Int))) = !(t.Op == u.Op&&t.NV == u.NV&&t.Name == u.Name):=by
   have:((t.Kids.length:Int) != (u.Kids.length:Int))=false:=by simp; omega
   rw [this]
   unfold bne
   cases t.Op == u.Op <;> cases t.NV == u.NV <;> cases t.Name == u.Name <;> rfl
  rw [hb,z0,h4]
  cases (t.Op == u.Op&&t.NV == u.NV&&t.Name == u.Name) <;> simp
 ·have:((t.Kids.length:Int) != (u.Kids.length:Int))=true:=by simp; omega
  rw [this,Nj _ hl,Bool.and_false]
  generalize (bif (bif (t.Op != u.Op) then true else (t.NV != u.NV)) then true else (!(t.Name == u.Name)))=b
  cases b <;> rfl
theorem Zv (t:A0):t.same t=true:=by
 induction t using A0.ind with
 | h t ih=>
 rw [A0.same_eq,Om t.Kids ih]
 simp
def Ki (e:A0):Bool:=e.same ⟨0,0,[],[]⟩
def Rs (t:I0):Bool:=t.same ⟨0,0,0,0,[],[],[]⟩
theorem Ty (e:A0)(h:OkE e):Wb e=some (Ki e):=by unfold Wb; rw [Cq e h]; rfl
theorem X1n (t:I0)(h:Ok t):Xi t=some (Rs t):=by unfold Xi; rw [L1f t h]; rfl
theorem C1q {e:A0}(h:Ki e=true):e=⟨0,0,[],[]⟩:=by
 unfold Ki at h
 rw [A0.same_eq] at h
 obtain ⟨o,n,nm,ks⟩:=e
 simp only [Bool.and_eq_true,beq_iff_eq] at h
 obtain ⟨⟨⟨rfl,rfl⟩,rfl⟩,h4⟩:=h
 cases ks with
 | nil=>rfl
 | cons x r=>cases h4
theorem D1q {t:I0}(h:Rs t=true):t=⟨0,0,0,0,[],[],[]⟩:=by
 unfold Rs at h
 rw [I0.same_eq] at h
 obtain ⟨a,b,c,d,nm,ns,ks⟩:=t
 simp only [Bool.and_eq_true,beq_iff_eq] at h
 obtain ⟨⟨⟨⟨⟨⟨rfl,rfl⟩,rfl⟩,rfl⟩,rfl⟩,h5⟩,h4⟩:=h
 cases ks with
 | nil=>
  cases ns with
  | nil=>rfl
  | cons x r=>cases h5
 | cons x r=>cases h4
end Go.Proofs.YtmnhfbekncjnfaaGreatDoor

namespace Go.Proofs.YtmnhfbekncjnfaaGreatDoor
open Go.Am
mutual
def D0.bulk:D0→Nat
 | .mk y0 y1 y2 y3 y4 y5 y6 y7 y8 y9 y10=>1+(A0.bulk y1+(A0.bulk y2+((y3.length+1)+((A0.bulks y4+1)+(1+(1+(1+(((y8.map fun _=>1).sum+1)+((D0.bulks y9+1)+((D0.bulks y10+1)+(0)))))))))))+1
def D0.bulks:List D0→Nat
 | []=>0
 | x::r=>D0.bulk x+D0.bulks r
end
mutual
def C0.bulk:C0→Nat
 | .mk y0 y1 y2 y3 y4 y5 y6 y7=>1+((y1.length+1)+(I0.bulk y2+(1+(A0.bulk y4+((C0.bulks y5+1)+((C0.bulks y6+1)+((D0.bulks y7+1)+(0))))))))+1
def C0.bulks:List C0→Nat
 | []=>0
 | x::r=>C0.bulk x+C0.bulks r
end
mutual
def A1.bulk:A1→Nat
 | .mk y0 y1=>(C0.bulks y0+1)+((D0.bulks y1+1)+(0))+1
def A1.bulks:List A1→Nat
 | []=>0
 | x::r=>A1.bulk x+A1.bulks r
end
end Go.Proofs.YtmnhfbekncjnfaaGreatDoor

set_option linter.unusedSimpArgs false
set_option linter.unusedVariables false
set_option maxHeartbeats 1000000
namespace Go.Proofs.YtmnhfbekncjnfaaGreatDoor
open Go.Am
def uPl (v:Int):Bool:=bif (bif (v == 0) then true else (v == 1)) then true else (v == 2)
def uVa (v:Int):Bool:=bif (bif (bif (v == 0) then true else (v == 3)) then true else (v == 5)) then true else (v == 6)
def uNm (v:Int):Bool:=bif (bif (v == 1) then true else (v == 2)) then true else (v == 7)
def uNn (v:Int):Bool:=bif (v == 4) then true else (v == 6)
def uTh (v:Int):Bool:=bif (bif (v == 5) then true else (v == 6)) then true else (v == 7)
def okV (v:Int):Bool:=!(bif decide (v < 0) then true else decide (v > 8))
def stU (v:Int):A3×Bool:=(⟨uPl v,uVa v,uNm v,v == 1,uNn v,v == 7,v == 8,uTh v,v == 5⟩,okV v)
theorem N1i (v:Int):Sg v=some (stU v):=by
 have h:(v < 0∨8 < v)∨v=0∨v=1∨v=2∨v=3∨v=4∨v=5∨v=6∨v=7∨v=8:=by omega
 rcases h with h | rfl | rfl | rfl | rfl | rfl | rfl | rfl | rfl | rfl
 ·have f:∀ k:Int,0≤k∧k≤8→(v == k)=false:=fun k hk=>beq_eq_false_iff_ne.2 (by omega)
  have hv:okV v=false:=by
   unfold okV
   rcases h with h | h
   ·rw [decide_eq_true h]; rfl
   ·rw [decide_eq_true (show v > 8 from h)]; cases decide (v < 0) <;> rfl
  unfold Sg stU uPl uVa uNm uNn uTh
  rw [hv]
  simp only [f 0 (by decide),f 1 (by decide),f 2 (by decide),f 3 (by decide),f 4 (by decide),f 5 (by decide),f 6 (by decide),f 7 (by decide),f 8 (by decide)]
  rfl
 all_goals rfl
def oN (e:A0)(u:Bool):Nat:=bif (bif !u then Ki e else false) then 0 else e.nodes
def oD (e:A0)(u:Bool):Nat:=bif (bif !u then Ki e else false) then 0 else e.depth
def oF (e:A0)(u:Bool):Bool:=bif u then e.all E6 else Ki e
theorem R1l (e:A0)(u:Bool):oN e u≤e.bulk:=by
 unfold oN
 have:=A0.nodes_bulk e
 cases (bif !u then Ki e else false) <;> simp <;> omega
def Dq:Int→List Int→Bool
 | _,[]=>true
 | l,n::r=>(bif S3 n 0 1048576 then decide (n > l) else false)&&Dq n r
def Eq (s:D0):Bool:=
 bif s.Verb == 4 then S3 s.NV 0 1048576 else bif s.Verb == 6 then S3 s.NV 0 4096
 else bif s.Verb == 7 then (bif (bif S3 s.Low (-1048576) 1048576 then S3 s.High s.Low 1048576 else false) then decide (s.High - s.Low < 4096) else false)
 else bif s.Verb == 8 then S3 (s.Numbers.length:Int) 1 32&&Dq (-1) s.Numbers else true
def Sa (s:D0):Bool:=
 okV s.Verb&&oF s.Place (uPl s.Verb)&&(bif uPl s.Verb then s.Place.place else true)&&oF s.Value (uVa s.Verb)&&(bif uNm s.Verb then true else s.Name == [])&&(bif s.Verb == 1 then true else ((s.Args.length:Int) == 0))&&A0.alls E6 s.Args
 && (bif uNn s.Verb then true else s.NV == 0)&&(bif s.Verb == 7 then true else (bif s.Low == 0 then s.High == 0 else false))&&(bif s.Verb == 8 then true else ((s.Numbers.length:Int) == 0))
 && (bif uTh s.Verb then true else ((s.Then.length:Int) == 0))&&(bif s.Verb == 5 then true else ((s.Else.length:Int) == 0))
def Pd (s:D0):Bool:=s.Place.all W6&&s.Value.all W6&&(bif uNm s.Verb then Ba s.Name else true)&&A0.alls W6 s.Args
def Zc (s:D0):Bool:=s.Place.all N6&&s.Value.all N6&&A0.alls N6 s.Args&&Eq s
mutual
def D0.nds:D0→Nat
 | .mk v pl va nm ar n lo hi ns th el=>1+(oN pl (uPl v)+(oN va (uVa v)+(A0.nodess ar+(D0.ndss th+D0.ndss el))))
def D0.ndss:List D0→Nat
 | []=>0
 | x::r=>D0.nds x+D0.ndss r
end
mutual
def D0.dps:D0→Nat→Nat
 | .mk v pl va nm ar n lo hi ns th el,d=>max d (max (oD pl (uPl v)) (max (oD va (uVa v)) (max (A0.depths ar) (max (D0.dpss th (d+1)) (D0.dpss el (d+1))))))
def D0.dpss:List D0→Nat→Nat
 | [],_=>0
 | x::r,d=>max (D0.dps x d) (D0.dpss r d)
end
mutual
def D0.all (p:D0→Bool):D0→Bool
 | .mk v pl va nm ar n lo hi ns th el=>p (.mk v pl va nm ar n lo hi ns th el)&&(D0.alls p th&&D0.alls p el)
def D0.alls (p:D0→Bool):List D0→Bool
 | []=>true
 | x::r=>D0.all p x&&D0.alls p r
end
theorem D0.nds_eq (s:D0):s.nds=1+(oN s.Place (uPl s.Verb)+(oN s.Value (uVa s.Verb)+(A0.nodess s.Args+(D0.ndss s.Then+D0.ndss s.Else)))):=by cases s; simp only [D0.nds]
theorem D0.dps_eq (s:D0)(d:Nat):s.dps d=max d (max (oD s.Place (uPl s.Verb)) (max (oD s.Value (uVa s.Verb)) (max (A0.depths s.Args) (max (D0.dpss s.Then (d+1)) (D0.dpss s.Else (d+1)))))):=by cases s; simp only [D0.dps]
theorem D0.all_eq (p:D0→Bool)(s:D0):s.all p=(p s&&(D0.alls p s.Then&&D0.alls p s.Else)):=by cases s; simp only [D0.all]
theorem D0.ind {P:D0→Prop}(h:∀ s:D0,(∀ x∈s.Then,P x)→(∀ x∈s.Else,P x)→P s):∀ s,P s:=by
 intro s
 refine D0.rec (motive_1:=P) (motive_2:=fun l=>∀ x∈l,P x) ?_ ?_ ?_ s
 ·intro v pl va nm ar n lo hi ns th el i1 i2
  exact h _ i1 i2
 ·intro x hx; cases hx
 ·intro x r hx hr y hy
  cases hy with
  | head=>exact hx
  | tail _ hy=>exact hr y hy
theorem D0.inds {Q:List D0→Prop}(h:∀ l:List D0,(∀ x∈l,Q x.Then∧Q x.Else)→Q l):∀ l,Q l:=by
 have key:∀ s:D0,Q s.Then∧Q s.Else:=fun s=>by
  induction s using D0.ind with
  | h s i1 i2=>exact ⟨h _ i1,h _ i2⟩
 exact fun l=>h l fun x _=>key x
theorem D0.bulk_eq (s:D0):s.bulk=s.Place.bulk+s.Value.bulk+s.Name.length+A0.bulks s.Args+(s.Numbers.map fun _=>1).sum+D0.bulks s.Then+D0.bulks s.Else+10:=by
 cases s; simp only [D0.bulk]; omega
theorem O1i:∀ l:List Int,(l.map fun _=>1).sum=l.length
 | []=>rfl
 | x::r=>by simp only [List.map_cons,List.sum_cons,List.length_cons,O1i r]; omega
theorem D0.bulk_mem {s:D0}:∀ {l:List D0},s∈l→s.bulk≤D0.bulks l
 | x::r,h=>by
  simp only [D0.bulks]
  cases h with
  | head=>omega
  | tail _ h=>have:=D0.bulk_mem h; omega
theorem D0.bulk_len:∀ l:List D0,l.length≤D0.bulks l
 | []=>Nat.le_refl _
 | x::r=>by
  simp only [D0.bulks,List.length_cons]
  have:=D0.bulk_len r
  have:=D0.bulk_eq x
  omega
mutual
theorem D0.nds_bulk:∀ s:D0,s.nds≤s.bulk
 | .mk v pl va nm ar n lo hi ns th el=>by
  have:=R1l pl (uPl v)
  have:=R1l va (uVa v)
  have:=A0.nodess_bulk ar
  have:=D0.ndss_bulk th
  have:=D0.ndss_bulk el
  simp only [D0.nds,D0.bulk]; omega
theorem D0.ndss_bulk:∀ l:List D0,D0.ndss l≤D0.bulks l
 | []=>Nat.le_refl _
 | x::r=>by
  have:=D0.nds_bulk x
  have:=D0.ndss_bulk r
  simp only [D0.ndss,D0.bulks]; omega
end
def OkS (l:List D0):Prop:=D0.bulks l≤BB
structure Q13 (s:D0):Prop where
 place:OkE s.Place
 value:OkE s.Value
 name:s.Name.length≤BB
 args:s.Args.length≤BB
 arg:∀ a∈s.Args,OkE a
 nums:s.Numbers.length≤BB
 thens:OkS s.Then
 elses:OkS s.Else
theorem OkS.mem {l:List D0}(h:OkS l){s:D0}(hs:s∈l):Q13 s:=by
 unfold OkS at h
 have h1:=D0.bulk_mem hs
 have h2:=D0.bulk_eq s
 have h3:=O1i s.Numbers
 have h4:=A0.bulk_len s.Args
 refine ⟨?_,?_,?_,?_,fun a ha=>?_,?_,?_,?_⟩ <;> first | (unfold OkE; omega) | (unfold OkS; omega) | omega | skip
 have:=A0.bulk_kid ha
 unfold OkE; omega
theorem OkS.len {l:List D0}(h:OkS l):l.length≤BB:=Nat.le_trans (D0.bulk_len l) h
def W4 (o:J0)(n m:Nat)(f a u:Bool):J0:=⟨o.nodes+n,max o.depth m,o.badForm || !f,o.badName || !a,o.badNumber || !u⟩
theorem T4 (o:J0)(n m n' m':Nat)(f a u f' a' u':Bool):W4 (W4 o n m f a u) n' m' f' a' u'=W4 o (n+n') (max m m') (f&&f') (a&&a') (u&&u'):=by
 simp only [W4,Cu]
 rw [show o.nodes+(n:Int)+(n':Int)=o.nodes+((n+n':Nat):Int) by omega,show max (max o.depth (m:Int)) (m':Int)=max o.depth ((max m m':Nat):Int) by omega]
theorem Pm (o:J0)(h:0≤o.depth):W4 o 0 0 true true true=o:=by
 simp only [W4,Bool.not_true,Bool.or_false]
 rw [show o.nodes+((0:Nat):Int)=o.nodes by omega,show max o.depth ((0:Nat):Int)=o.depth by omega]
theorem T1c (o:J0)(n m:Nat)(f a u:Bool):(W4 o n m f a u).nodes=o.nodes+n:=rfl
theorem Fq (o:J0)(n m:Nat)(f a u:Bool):(W4 o n m f a u).depth=max o.depth m:=rfl
theorem L9 (o:J0)(h:0≤o.depth)(b:Bool):Z0 b o=some (W4 o 0 0 b true true):=by
 rw [L1a]
 simp only [W4,Bool.not_true,Bool.or_false]
 rw [show o.nodes+((0:Nat):Int)=o.nodes by omega,show max o.depth ((0:Nat):Int)=o.depth by omega]
theorem Dg (o:J0)(h:0≤o.depth)(b:Bool):I2 b o=some (W4 o 0 0 true true b):=by
 rw [Xv]
 simp only [W4,Bool.not_true,Bool.or_false]
 rw [show o.nodes+((0:Nat):Int)=o.nodes by omega,show max o.depth ((0:Nat):Int)=o.depth by omega]
theorem M1f (o:J0)(h:0≤o.depth)(s:Str)(hs:s.length≤BB):C4 s o=some (W4 o 0 0 true (Ba s) true):=by
 rw [O13 s hs]
 simp only [W4,Bool.not_true,Bool.or_false]
 rw [show o.nodes+((0:Nat):Int)=o.nodes by omega,show max o.depth ((0:Nat):Int)=o.depth by omega]
structure M5 (o:J0)(n:Nat):Prop where
 dep:0≤o.depth
 low:0≤o.nodes
 high:o.nodes+n≤3 * BB
theorem M5.x {o:J0}{n k m:Nat}{f a u:Bool}(h:M5 o (k+n)):M5 (W4 o k m f a u) n:=by
 obtain ⟨h1,h2,h3⟩:=h
 refine ⟨?_,?_,?_⟩
 ·rw [Fq]; omega
 ·rw [T1c]; omega
 ·rw [T1c]; omega
theorem M5.less {o:J0}{n k:Nat}(h:M5 o n)(hk:k≤n):M5 o k:=⟨h.dep,h.low,by have:=h.high; omega⟩
theorem M5.x0 {o:J0}{n m:Nat}{f a u:Bool}(h:M5 o n):M5 (W4 o 0 m f a u) n:=M5.x (by rw [Nat.zero_add]; exact h)
theorem R17 (e:A0)(h:OkE e)(o:J0)(hr:M5 o e.nodes):B3 e 1 o=some (W4 o e.nodes e.depth (e.all E6) (e.all W6) (e.all N6)):=by
 have hn:=h.nodes
 have hp:1≤e.depth:=by rw [A0.depth_eq]; omega
 have h3:=hr.high
 unfold BB at hn h3
 rw [A1q e h 1 o (by omega) (by unfold BB; omega) hr.low (by unfold BB; omega)]
 simp only [Ih,W4]
 rw [show (1:Int)+((e.depth - 1:Nat):Int)=e.depth by omega]
theorem P1i (t:I0)(h:Ok t)(o:J0)(hr:M5 o t.nodes):L6 t 1 o=some (W4 o t.nodes t.depth (t.all Yc) (t.all Pl) (t.all Bs)):=by
 have hn:=h.nodes
 have hp:1≤t.depth:=by rw [I0.depth_eq]; omega
 have h3:=hr.high
 unfold BB at hn h3
 rw [A1t t h 1 o (by omega) (by unfold BB; omega) hr.low (by unfold BB; omega)]
 simp only [Ih,W4]
 rw [show (1:Int)+((t.depth - 1:Nat):Int)=t.depth by omega]
theorem Q1i:(A0.mk 0 0 [] []).all E6=true∧(A0.mk 0 0 [] []).all W6=true∧(A0.mk 0 0 [] []).all N6=true:=⟨rfl,rfl,rfl⟩
theorem N1a (e:A0)(u:Bool)(h:OkE e)(o:J0)(hr:M5 o (oN e u)):L4 e u o=some (W4 o (oN e u) (oD e u) (oF e u) (e.all W6) (e.all N6)):=by
 unfold L4
 rw [Q1l e h]
 show ((if (!u)=true then some (Ki e) else some default)>>=_)=_
 unfold oN oD oF at *
 cases u with
 | true=>
  simp only [Bool.not_true,cond_false,cond_true] at *
  rw [if_neg (by simp),ob,if_neg (by simp),L9 o hr.dep,ob,R17 e h _ hr.x0,ob,T4]
  simp
 | false=>
  simp only [Bool.not_false,cond_false,cond_true] at *
  rw [if_pos trivial,ob]
  cases hz:Ki e with
  | true=>
   rw [if_pos rfl,C1q hz,Q1i.2.1,Q1i.2.2]
   exact congrArg some (Pm o hr.dep).symm
  | false=>
   rw [hz] at hr
   rw [if_neg (by simp),L9 o hr.dep,ob,R17 e h _ hr.x0,ob,T4]
   simp
theorem Y1n (o:J0)(h:0≤o.nodes)(h':o.nodes+1≤3 * BB)(d:Nat):V5 (d:Int) ⟨IntKind.i64.wrap (o.nodes+1),o.depth,o.badForm,o.badName,o.badNumber⟩=some (W4 o 1 d true true true):=by
 unfold BB at h'
 rw [K1a,wr (by omega) (by omega)]
 simp only [W4,Bool.not_true,Bool.or_false]
 rfl
theorem N1f (s:D0)(hs:Q13 s)(K:J0→Option J0)(F:J0→Int→Option J0)
  (hF:∀ (o:J0) (k:Int),F o k=if decide (k < (s.Args.length:Int))=true then idx s.Args k>>=fun x=>B3 x 1 o>>=fun y=>F y (IntKind.i64.wrap (k+1)) else K o) :
  ∀ (r:List A0) (k:Nat) (o:J0),s.Args.drop k=r→M5 o (A0.nodess r)→F o (k:Int)=K (W4 o (A0.nodess r) (A0.depths r) (A0.alls E6 r) (A0.alls W6 r) (A0.alls N6 r))
 | [],k,o,h,hr=>by
  rw [hF,(J2 h).1,if_neg (by simp)]
  simp only [A0.nodess,A0.depths,A0.alls]
  rw [Pm o hr.dep]
 | x::r,k,o,h,hr=>by
  obtain ⟨e1,e2,e3,e4,e5⟩:=I3 h
  have:=hs.args
  simp only [A0.nodess] at hr
  rw [hF,e1,if_pos rfl,e2,ob,R17 x (hs.arg x e5) o (hr.less (by omega)),ob,w1 (by omega),N1f s hs K F hF r (k+1) _ e3 hr.x,T4]
  rfl
theorem E1k (s:D0)(hs:Q13 s):∀ (r:List Int) (k:Nat) (last:Int) (o:J0),s.Numbers.drop k=r→0≤o.depth→P4 s o last k=some (W4 o 0 0 true true (Dq last r))
 | [],k,last,o,h,h0=>by rw [P4,(J2 h).1,if_neg (by simp)]; exact congrArg some (Pm o h0).symm
 | x::r,k,last,o,h,h0=>by
  obtain ⟨e1,e2,e3,e4,e5⟩:=I3 h
  have:=hs.nums
  rw [P4,e1,if_pos rfl,e2,ob,Rk,ob,Dg _ h0,ob,w1 (by omega),E1k s hs r (k+1) x _ e3 (by rw [Fq]; omega),T4]
  rfl
theorem Z1n (s:D0)(hs:Q13 s)(o:J0)(h0:0≤o.depth):Q8 s o=some (W4 o 0 0 true true (Eq s)):=by
 unfold Q8 Eq
 simp only [Rk]
 cases s.Verb == 4 with
 | true=>rw [if_pos rfl,ob,Dg _ h0,ob]; rfl
 | false=>
  rw [if_neg (by simp)]
  cases s.Verb == 6 with
  | true=>rw [if_pos rfl,ob,Dg _ h0,ob]; rfl
  | false=>
   rw [if_neg (by simp)]
   cases s.Verb == 7 with
   | true=>
    rw [if_pos rfl,ob]
    cases hl:S3 s.Low (-1048576) 1048576 with
    | false=>rw [if_neg (by simp),ob,Dg _ h0,ob]; rfl
    | true=>
     rw [if_pos rfl,ob]
     cases hh:S3 s.High s.Low 1048576 with
     | false=>rw [Dg _ h0,ob]; rfl
     | true=>
      have:IntKind.i64.wrap (s.High - s.Low)=s.High - s.Low:=by
       simp [S3] at hl hh
       exact wr (by omega) (by omega)
      rw [this,Dg _ h0,ob]; rfl
   | false=>
    rw [if_neg (by simp)]
    cases s.Verb == 8 with
    | true=>
     rw [if_pos rfl,ob,Dg _ h0,ob,show (0:Int)=((0:Nat):Int) from rfl,E1k s hs s.Numbers 0 (-1) _ rfl (by rw [Fq]; omega),T4]
     simp
    | false=>exact congrArg some (Pm o h0).symm
theorem O1f (l:List D0):OkS l→∀ (d:Nat) (o:J0),d+D0.bulks l≤3 * BB→M5 o (D0.ndss l)→
  G4 l d o=some (W4 o (D0.ndss l) (D0.dpss l d) (D0.alls Sa l) (D0.alls Pd l) (D0.alls Zc l)):=by
 induction l using D0.inds with
 | h l ih=>
 intro hl d o hd hr
 have main:∀ (r:List D0) (k:Nat) (o:J0),l.drop k=r→M5 o (D0.ndss r)→D6 l d o k=some (W4 o (D0.ndss r) (D0.dpss r d) (D0.alls Sa r) (D0.alls Pd r) (D0.alls Zc r)):=by
  intro r
  induction r with
  | nil=>
   intro k o h hr
   rw [D6,(J2 h).1,if_neg (by simp)]
   exact congrArg some (Pm o hr.dep).symm
  | cons s r ihr=>
   intro k o h hr
   obtain ⟨e1,e2,e3,e4,e5⟩:=I3 h
   have hs:=hl.mem e5
   have hlen:=hl.len
   obtain ⟨i1,i2⟩:=ih s e5
   have hbm:=D0.bulk_mem e5
   have hbe:=D0.bulk_eq s
   simp only [D0.ndss,D0.nds_eq] at hr
   have hhi:=hr.high
   unfold BB at hhi hd
   have hwd:IntKind.i64.wrap ((d:Int)+1)=((d+1:Nat):Int):=by rw [wr (by omega) (by omega)]; rfl
   have tail:∀ o:J0,M5 o (D0.ndss s.Then+D0.ndss s.Else+D0.ndss r)→
     (Z0 (bif (stU s.Verb).1.n then true else (s.NV == 0)) o>>=fun x14=>
      Z0 (bif (stU s.Verb).1.bounds then true else (bif (s.Low == 0) then (s.High == 0) else false)) x14>>=fun x15=>
      Z0 (bif (stU s.Verb).1.numbers then true else (((s.Numbers).length:Int) == 0)) x15>>=fun x16=>
      Z0 (bif (stU s.Verb).1.thenV then true else (((s.Then).length:Int) == 0)) x16>>=fun x17=>
      Z0 (bif (stU s.Verb).1.other then true else (((s.Else).length:Int) == 0)) x17>>=fun x18=>
      Q8 s x18>>=fun x19=>
      G4 s.Then (IntKind.i64.wrap ((d:Int)+1)) x19>>=fun x20=>
      G4 s.Else (IntKind.i64.wrap ((d:Int)+1)) x20>>=fun x21=>
      D6 l d x21 (IntKind.i64.wrap ((k:Int)+1)))
     = some (W4 o (D0.ndss s.Then+D0.ndss s.Else+D0.ndss r) (max (D0.dpss s.Then (d+1)) (max (D0.dpss s.Else (d+1)) (D0.dpss r d)))
       ((bif uNn s.Verb then true else s.NV == 0)&&(bif s.Verb == 7 then true else (bif s.Low == 0 then s.High == 0 else false))&&(bif s.Verb == 8 then true else ((s.Numbers.length:Int) == 0))
         && (bif uTh s.Verb then true else ((s.Then.length:Int) == 0))&&(bif s.Verb == 5 then true else ((s.Else.length:Int) == 0))&&D0.alls Sa s.Then&&D0.alls Sa s.Else&&D0.alls Sa r)
       (D0.alls Pd s.Then&&D0.alls Pd s.Else&&D0.alls Pd r) (Eq s&&D0.alls Zc s.Then&&D0.alls Zc s.Else&&D0.alls Zc r)):=by
    intro o hr
    have q1:=hr.x0 (m:=0) (f:=bif (stU s.Verb).1.n then true else (s.NV == 0)) (a:=true) (u:=true)
    have q2:=q1.x0 (m:=0) (f:=bif (stU s.Verb).1.bounds then true else (bif (s.Low == 0) then (s.High == 0) else false)) (a:=true) (u:=true)
    have q3:=q2.x0 (m:=0) (f:=bif (stU s.Verb).1.numbers then true else (((s.Numbers).length:Int) == 0)) (a:=true) (u:=true)
    have q4:=q3.x0 (m:=0) (f:=bif (stU s.Verb).1.thenV then true else (((s.Then).length:Int) == 0)) (a:=true) (u:=true)
    have q5:=q4.x0 (m:=0) (f:=bif (stU s.Verb).1.other then true else (((s.Else).length:Int) == 0)) (a:=true) (u:=true)
    have q6:=q5.x0 (m:=0) (f:=true) (a:=true) (u:=Eq s)
    rw [L9 o hr.dep,ob,L9 _ q1.dep,ob,L9 _ q2.dep,ob,L9 _ q3.dep,ob,L9 _ q4.dep,ob,Z1n s hs _ q5.dep,ob,hwd,
     i1 hs.thens (d+1) _ (by unfold BB; omega) (q6.less (by omega)),ob,i2 hs.elses (d+1) _ (by unfold BB; omega) (M5.x (q6.less (by omega))),ob,w1 (by omega),ihr (k+1) _ e3 (M5.x (M5.x (q6.less (by omega))))]
    simp only [T4,stU,Bool.true_and,Bool.and_true,Bool.and_assoc,Nat.zero_add,Nat.add_assoc,Nat.zero_max]
    simp only [← Nat.max_assoc]
   have args:=N1f s hs _ (fun o k'=>Fb l d o s (stU s.Verb) k k') (fun o k'=>Fb.eq_1 l d o s (stU s.Verb) k k') s.Args 0
   rw [show ((0:Nat):Int)=0 from rfl] at args
   have j3:∀ o:J0,M5 o (A0.nodess s.Args+(D0.ndss s.Then+D0.ndss s.Else+D0.ndss r))→T7 l d o s (stU s.Verb) k
     = some (W4 o (A0.nodess s.Args+(D0.ndss s.Then+D0.ndss s.Else+D0.ndss r)) (max (A0.depths s.Args) (max (D0.dpss s.Then (d+1)) (max (D0.dpss s.Else (d+1)) (D0.dpss r d))))
       ((bif s.Verb == 1 then true else ((s.Args.length:Int) == 0))&&(A0.alls E6 s.Args&&((bif uNn s.Verb then true else s.NV == 0)&&(bif s.Verb == 7 then true else (bif s.Low == 0 then s.High == 0 else false))&&(bif s.Verb == 8 then true else ((s.Numbers.length:Int) == 0))
         && (bif uTh s.Verb then true else ((s.Then.length:Int) == 0))&&(bif s.Verb == 5 then true else ((s.Else.length:Int) == 0))&&D0.alls Sa s.Then&&D0.alls Sa s.Else&&D0.alls Sa r)))
       (A0.alls W6 s.Args&&(D0.alls Pd s.Then&&D0.alls Pd s.Else&&D0.alls Pd r)) (A0.alls N6 s.Args&&(Eq s&&D0.alls Zc s.Then&&D0.alls Zc s.Else&&D0.alls Zc r))):=by
    intro o hr
    rw [T7,L9 o hr.dep,ob,args _ rfl (hr.x0.less (by omega)),tail _ (M5.x hr.x0)]
    simp only [T4,stU,Bool.true_and,Bool.and_assoc,Nat.zero_add,Nat.zero_max]
   have j2:∀ o:J0,M5 o (oN s.Value (uVa s.Verb)+(A0.nodess s.Args+(D0.ndss s.Then+D0.ndss s.Else+D0.ndss r)))→S7 l d o s (stU s.Verb) k
     = (T7 l d (W4 o (oN s.Value (uVa s.Verb)) (oD s.Value (uVa s.Verb)) (oF s.Value (uVa s.Verb)&&(bif uNm s.Verb then true else s.Name == [])) (s.Value.all W6&&(bif uNm s.Verb then Ba s.Name else true)) (s.Value.all N6)) s (stU s.Verb) k):=by
    intro o hr
    have q1:M5 (W4 o (oN s.Value (uVa s.Verb)) (oD s.Value (uVa s.Verb)) (oF s.Value (uVa s.Verb)) (s.Value.all W6) (s.Value.all N6)) 0:=M5.x (hr.less (by omega))
    rw [S7]
    show (L4 s.Value (uVa s.Verb) o>>=_)=_
    rw [N1a s.Value (uVa s.Verb) hs.value o (hr.less (by omega)),ob,L9 _ q1.dep,ob,M1f _ (q1.x0).dep s.Name hs.name]
    simp only [T4,stU]
    cases uNm s.Verb with
    | true=>rw [if_pos rfl,ob]; simp
    | false=>rw [if_neg (by simp)]; simp
   rw [D6,e1,if_pos rfl,e2,ob,Y1n o hr.low (by unfold BB; omega) d,ob,N1i,ob,L9 _ (show 0≤(W4 o 1 d true true true).depth by rw [Fq]; have:=hr.dep; omega),ob,T4]
   have hr1:M5 (W4 o (1+0) (max d 0) (true&&(stU s.Verb).2) (true&&true) (true&&true)) (oN s.Place (uPl s.Verb)+(oN s.Value (uVa s.Verb)+(A0.nodess s.Args+(D0.ndss s.Then+D0.ndss s.Else+D0.ndss r)))):=M5.x (hr.less (by omega))
   have hopt:=N1a s.Place (uPl s.Verb) hs.place _ (hr1.less (k:=oN s.Place (uPl s.Verb)) (by omega))
   show (L4 s.Place (uPl s.Verb) _>>=_)=_
   rw [hopt,ob,F1f,T4]
   have hr2:∀ f,M5 (W4 o (1+0+oN s.Place (uPl s.Verb)) (max (max d 0) (oD s.Place (uPl s.Verb))) f (true&&true&&s.Place.all W6) (true&&true&&s.Place.all N6)) (oN s.Value (uVa s.Verb)+(A0.nodess s.Args+(D0.ndss s.Then+D0.ndss s.Else+D0.ndss r))):=fun f=>M5.x (hr.less (by omega))
   have fin:∀ b:Bool,(bif uPl s.Verb then s.Place.place else true)=b→
     S7 l d (W4 o (1+0+oN s.Place (uPl s.Verb)) (max (max d 0) (oD s.Place (uPl s.Verb))) (true&&(stU s.Verb).2&&oF s.Place (uPl s.Verb)&&b) (true&&true&&s.Place.all W6) (true&&true&&s.Place.all N6)) s (stU s.Verb) k
      = some (W4 o (D0.ndss (s::r)) (D0.dpss (s::r) d) (D0.alls Sa (s::r)) (D0.alls Pd (s::r)) (D0.alls Zc (s::r))):=by
    rintro _ rfl
    rw [j2 _ (hr2 _),j3 _ (M5.x (hr2 _)),T4,T4]
    simp only [D0.ndss,D0.dpss,D0.alls,D0.nds_eq,D0.dps_eq,D0.all_eq,Sa,Pd,Zc,stU,Bool.true_and,Bool.and_assoc,Nat.add_assoc,Nat.max_assoc,Nat.zero_add]
    congr 1
   cases hu:uPl s.Verb with
   | true=>
    rw [hu] at fin hr2
    rw [if_pos (show (stU s.Verb).1.place=true from hu),ob,L9 _ (hr2 _).dep,ob,T4]
    have:=fin s.Place.place rfl
    simpa using this
   | false=>
    rw [hu] at fin
    rw [if_neg (by rw [show (stU s.Verb).1.place=false from hu]; simp)]
    have:=fin true rfl
    rw [Bool.and_true] at this
    exact this
 rw [G4]
 exact main l 0 o rfl hr
end Go.Proofs.YtmnhfbekncjnfaaGreatDoor

set_option linter.unusedSimpArgs false
set_option linter.unusedVariables false
set_option maxHeartbeats 1000000
namespace Go.Proofs.YtmnhfbekncjnfaaGreatDoor
open Go.Am
def isK (k:Int):Bool:=bif decide (k≥0) then decide (k≤6) else false
def uV2 (k:Int):Bool:=bif k == 5 then true else k == 6
def tN (t:I0)(u:Bool):Nat:=bif (bif !u then Rs t else false) then 0 else t.nodes
def tD (t:I0)(u:Bool):Nat:=bif (bif !u then Rs t else false) then 0 else t.depth
theorem B1u (t:I0)(u:Bool):tN t u≤t.bulk:=by
 unfold tN
 have:=I0.nodes_bulk t
 cases (bif !u then Rs t else false) <;> simp <;> omega
def pOk (x:C0):Bool:=bif x.Kind == 4 then x.Init == 0 else false
def vOk (x:C0):Bool:=x.Kind == 4
def Eu (d:C0):Bool:=bif S3 d.Init (-1048576) 1048576 then (bif d.TypeV.Kind != 0 then true else S3 d.Init 0 1) else false
def S11 (d:C0):Bool:=bif (bif ((d.Params.length:Int) == 0) then ((d.Vars.length:Int) == 0) else false) then ((d.Body.length:Int) == 0) else false
def Z9 (d:C0):Bool:=
 isK d.Kind&&d.TypeV.all Yc&&oF d.Value (uV2 d.Kind)&&(bif d.Kind == 4 then true else d.Init == 0)&&(bif d.Kind == 6 then true else S11 d)&&d.Params.all pOk&&d.Vars.all vOk&&D0.alls Sa d.Body
def Eh (d:C0):Bool:=d.TypeV.all Pl&&Ba d.Name&&d.Value.all W6&&D0.alls Pd d.Body
def Sk (d:C0):Bool:=d.TypeV.all Bs&&d.Value.all N6&&Eu d&&D0.alls Zc d.Body
mutual
def C0.nds:C0→Nat
 | .mk k nm t i v ps vs bd=>1+(tN t (isK k)+(oN v (uV2 k)+(C0.ndss ps+(C0.ndss vs+D0.ndss bd))))
def C0.ndss:List C0→Nat
 | []=>0
 | x::r=>C0.nds x+C0.ndss r
end
mutual
def C0.dps:C0→Nat
 | .mk k nm t i v ps vs bd=>max (tD t (isK k)) (max (oD v (uV2 k)) (max (C0.dpss ps) (max (C0.dpss vs) (D0.dpss bd 1))))
def C0.dpss:List C0→Nat
 | []=>0
 | x::r=>max (C0.dps x) (C0.dpss r)
end
mutual
def C0.all (p:C0→Bool):C0→Bool
 | .mk k nm t i v ps vs bd=>p (.mk k nm t i v ps vs bd)&&(C0.alls p ps&&C0.alls p vs)
def C0.alls (p:C0→Bool):List C0→Bool
 | []=>true
 | x::r=>C0.all p x&&C0.alls p r
end
theorem C0.nds_eq (d:C0):d.nds=1+(tN d.TypeV (isK d.Kind)+(oN d.Value (uV2 d.Kind)+(C0.ndss d.Params+(C0.ndss d.Vars+D0.ndss d.Body)))):=by cases d; simp only [C0.nds]
theorem C0.dps_eq (d:C0):d.dps=max (tD d.TypeV (isK d.Kind)) (max (oD d.Value (uV2 d.Kind)) (max (C0.dpss d.Params) (max (C0.dpss d.Vars) (D0.dpss d.Body 1)))):=by cases d; simp only [C0.dps]
theorem C0.all_eq (p:C0→Bool)(d:C0):d.all p=(p d&&(C0.alls p d.Params&&C0.alls p d.Vars)):=by cases d; simp only [C0.all]
theorem C0.ind {P:C0→Prop}(h:∀ d:C0,(∀ x∈d.Params,P x)→(∀ x∈d.Vars,P x)→P d):∀ d,P d:=by
 intro d
 refine C0.rec (motive_1:=P) (motive_2:=fun l=>∀ x∈l,P x) ?_ ?_ ?_ d
 ·intro k nm t i v ps vs bd i1 i2
  exact h _ i1 i2
 ·intro x hx; cases hx
 ·intro x r hx hr y hy
  cases hy with
  | head=>exact hx
  | tail _ hy=>exact hr y hy
theorem C0.inds {Q:List C0→Prop}(h:∀ l:List C0,(∀ x∈l,Q x.Params∧Q x.Vars)→Q l):∀ l,Q l:=by
 have key:∀ s:C0,Q s.Params∧Q s.Vars:=fun s=>by
  induction s using C0.ind with
  | h s i1 i2=>exact ⟨h _ i1,h _ i2⟩
 exact fun l=>h l fun x _=>key x
theorem C0.bulk_eq (d:C0):d.bulk=d.Name.length+d.TypeV.bulk+d.Value.bulk+C0.bulks d.Params+C0.bulks d.Vars+D0.bulks d.Body+7:=by cases d; simp only [C0.bulk]; omega
theorem C0.bulk_mem {s:C0}:∀ {l:List C0},s∈l→s.bulk≤C0.bulks l
 | x::r,h=>by
  simp only [C0.bulks]
  cases h with
  | head=>omega
  | tail _ h=>have:=C0.bulk_mem h; omega
theorem C0.bulk_len:∀ l:List C0,l.length≤C0.bulks l
 | []=>Nat.le_refl _
 | x::r=>by
  simp only [C0.bulks,List.length_cons]
  have:=C0.bulk_len r
  have:=C0.bulk_eq x
  omega
mutual
theorem C0.nds_bulk:∀ d:C0,d.nds≤d.bulk
 | .mk k nm t i v ps vs bd=>by
  have:=B1u t (isK k)
  have:=R1l v (uV2 k)
  have:=C0.ndss_bulk ps
  have:=C0.ndss_bulk vs
  have:=D0.ndss_bulk bd
  simp only [C0.nds,C0.bulk]; omega
theorem C0.ndss_bulk:∀ l:List C0,C0.ndss l≤C0.bulks l
 | []=>Nat.le_refl _
 | x::r=>by
  have:=C0.nds_bulk x
  have:=C0.ndss_bulk r
  simp only [C0.ndss,C0.bulks]; omega
end
def OkD (l:List C0):Prop:=C0.bulks l≤BB
structure Y1u (d:C0):Prop where
 type:Ok d.TypeV
 value:OkE d.Value
 name:d.Name.length≤BB
 params:OkD d.Params
 vars:OkD d.Vars
 body:OkS d.Body
theorem OkD.mem {l:List C0}(h:OkD l){d:C0}(hd:d∈l):Y1u d:=by
 unfold OkD at h
 have h1:=C0.bulk_mem hd
 have h2:=C0.bulk_eq d
 refine ⟨?_,?_,?_,?_,?_,?_⟩ <;> first | (unfold OkE; omega) | (unfold OkS; omega) | (unfold OkD; omega) | (unfold Ok; omega) | omega
theorem OkD.len {l:List C0}(h:OkD l):l.length≤BB:=Nat.le_trans (C0.bulk_len l) h
theorem P1f:(I0.mk 0 0 0 0 [] [] []).all Pl=true∧(I0.mk 0 0 0 0 [] [] []).all Bs=true:=⟨rfl,rfl⟩
theorem F1e (c:List C0)(hc:c.length≤BB)(q:C0→Bool)(K:J0→Option J0)(F:J0→Int→Option J0)
  (hF:∀ (o:J0) (k:Int),F o k=if decide (k < (c.length:Int))=true then idx c k>>=fun x=>Z0 (q x) o>>=fun y=>F y (IntKind.i64.wrap (k+1)) else K o) :
  ∀ (r:List C0) (k:Nat) (o:J0),c.drop k=r→0≤o.depth→F o (k:Int)=K (W4 o 0 0 (r.all q) true true)
 | [],k,o,h,hr=>by
  rw [hF,(J2 h).1,if_neg (by simp),List.all_nil,Pm o hr]
 | x::r,k,o,h,hr=>by
  obtain ⟨e1,e2,e3,e4,e5⟩:=I3 h
  rw [hF,e1,if_pos rfl,e2,ob,L9 o hr,ob,w1 (by omega),F1e c hc q K F hF r (k+1) _ e3 (by rw [Fq]; omega),T4]
  rfl
theorem A1o (l:List C0):OkD l→∀ (o:J0),M5 o (C0.ndss l)→
  J6 l o=some (W4 o (C0.ndss l) (C0.dpss l) (C0.alls Z9 l) (C0.alls Eh l) (C0.alls Sk l)):=by
 induction l using C0.inds with
 | h l ih=>
 intro hl o hr
 have main:∀ (r:List C0) (k:Nat) (o:J0),l.drop k=r→M5 o (C0.ndss r)→U7 l o k=some (W4 o (C0.ndss r) (C0.dpss r) (C0.alls Z9 r) (C0.alls Eh r) (C0.alls Sk r)):=by
  intro r
  induction r with
  | nil=>
   intro k o h hr
   rw [U7,(J2 h).1,if_neg (by simp)]
   exact congrArg some (Pm o hr.dep).symm
  | cons d r ihr=>
   intro k o h hr
   obtain ⟨e1,e2,e3,e4,e5⟩:=I3 h
   have hs:=hl.mem e5
   have hlen:=hl.len
   obtain ⟨i1,i2⟩:=ih d e5
   simp only [C0.ndss,C0.nds_eq] at hr
   have hhi:=hr.high
   have hbB:D0.bulks d.Body≤BB:=hs.body
   have hlow:=hr.low
   unfold BB at hhi
   have l4:=F1e d.Vars hs.vars.len vOk _ (fun o k'=>Hb l o d k k') (fun o k'=>Hb.eq_1 l o d k k') d.Vars 0
   have l3:=F1e d.Params hs.params.len pOk _ (fun o k'=>V7 l o d k k') (fun o k'=>V7.eq_1 l o d k k') d.Params 0
   rw [show ((0:Nat):Int)=0 from rfl] at l4 l3
   have tail:∀ o:J0,M5 o (C0.ndss d.Params+(C0.ndss d.Vars+(D0.ndss d.Body+C0.ndss r)))→
     V7 l o d k 0=some (W4 o (C0.ndss d.Params+(C0.ndss d.Vars+(D0.ndss d.Body+C0.ndss r))) (max (C0.dpss d.Params) (max (C0.dpss d.Vars) (max (D0.dpss d.Body 1) (C0.dpss r))))
      (d.Params.all pOk&&(d.Vars.all vOk&&(C0.alls Z9 d.Params&&(C0.alls Z9 d.Vars&&(D0.alls Sa d.Body&&C0.alls Z9 r)))))
      (C0.alls Eh d.Params&&(C0.alls Eh d.Vars&&(D0.alls Pd d.Body&&C0.alls Eh r)))
      (C0.alls Sk d.Params&&(C0.alls Sk d.Vars&&(D0.alls Zc d.Body&&C0.alls Sk r)))):=by
    intro o hr
    have q1:=hr.x0 (m:=0) (f:=d.Params.all pOk) (a:=true) (u:=true)
    have q2:=q1.x0 (m:=0) (f:=d.Vars.all vOk) (a:=true) (u:=true)
    rw [l3 o rfl hr.dep,l4 _ rfl q1.dep,i1 hs.params _ (q2.less (by omega)),ob,i2 hs.vars _ (M5.x (q2.less (by omega))),ob,
     show (1:Int)=((1:Nat):Int) from rfl,O1f d.Body hs.body 1 _ (by unfold BB at *; omega) (M5.x (M5.x (q2.less (by omega)))),ob,show ((k:Int)+((1:Nat):Int))=(k:Int)+1 from rfl,w1 (by omega),ihr (k+1) _ e3 (M5.x (M5.x (M5.x (q2.less (by omega)))))]
    simp only [T4,Bool.true_and,Bool.and_assoc,Nat.zero_add,Nat.zero_max,Nat.add_assoc,Nat.max_assoc]
   have hin:(if ((S3 d.Init (-1048576) 1048576)&&(!(d.TypeV.Kind != 0)))=true then X3 d.Init 0 1 else some default)=some (bif (S3 d.Init (-1048576) 1048576)&&(!(d.TypeV.Kind != 0)) then S3 d.Init 0 1 else default):=by
    rw [Rk]
    cases ((S3 d.Init (-1048576) 1048576)&&(!(d.TypeV.Kind != 0))) <;> rfl
   have j2:∀ (x2:Bool×Bool) (o:J0),x2=(isK d.Kind,uV2 d.Kind)→M5 o (oN d.Value (uV2 d.Kind)+(C0.ndss d.Params+(C0.ndss d.Vars+(D0.ndss d.Body+C0.ndss r))))→
     Gb l o d x2 k=some (W4 o (oN d.Value (uV2 d.Kind)+(C0.ndss d.Params+(C0.ndss d.Vars+(D0.ndss d.Body+C0.ndss r)))) (max (oD d.Value (uV2 d.Kind)) (max (C0.dpss d.Params) (max (C0.dpss d.Vars) (max (D0.dpss d.Body 1) (C0.dpss r)))))
      (oF d.Value (uV2 d.Kind)&&((bif d.Kind == 4 then true else d.Init == 0)&&((bif d.Kind == 6 then true else S11 d)&&(d.Params.all pOk&&(d.Vars.all vOk&&(C0.alls Z9 d.Params&&(C0.alls Z9 d.Vars&&(D0.alls Sa d.Body&&C0.alls Z9 r))))))))
      (Ba d.Name&&(d.Value.all W6&&(C0.alls Eh d.Params&&(C0.alls Eh d.Vars&&(D0.alls Pd d.Body&&C0.alls Eh r)))))
      (d.Value.all N6&&(Eu d&&(C0.alls Sk d.Params&&(C0.alls Sk d.Vars&&(D0.alls Zc d.Body&&C0.alls Sk r)))))):=by
    rintro _ o rfl hr
    have q1:=hr.x0 (m:=0) (f:=true) (a:=Ba d.Name) (u:=true)
    have q2:=M5.x (m:=oD d.Value (uV2 d.Kind)) (f:=oF d.Value (uV2 d.Kind)) (a:=d.Value.all W6) (u:=d.Value.all N6) q1
    have hio:(bif S3 d.Init (-1048576) 1048576 then (bif (d.TypeV.Kind != 0) then true else (bif (S3 d.Init (-1048576) 1048576)&&(!(d.TypeV.Kind != 0)) then S3 d.Init 0 1 else default)) else false)=Eu d:=by
     unfold Eu
     cases S3 d.Init (-1048576) 1048576 <;> cases (d.TypeV.Kind != 0) <;> rfl
    rw [Gb,M1f o hr.dep d.Name hs.name,ob,N1a d.Value (uV2 d.Kind) hs.value _ (q1.less (by omega)),ob,L9 _ q2.dep,ob,Rk,ob,hin,ob,hio,Dg _ (q2.x0).dep,ob,L9 _ (q2.x0.x0).dep,ob,tail _ (q2.x0.x0.x0)]
    simp only [T4,Bool.true_and,Bool.and_true,Bool.and_assoc,Nat.zero_add,Nat.add_zero,Nat.zero_max,Nat.max_zero,Nat.add_assoc,Nat.max_assoc,S11]
   have hwn:(J0.mk (IntKind.i64.wrap (o.nodes+1)) o.depth o.badForm o.badName o.badNumber)=W4 o 1 0 true true true:=by
    rw [wr (by omega) (by omega)]
    simp only [W4,Bool.not_true,Bool.or_false]
    have:=hr.dep
    rw [show max o.depth ((0:Nat):Int)=o.depth by omega]
    rfl
   have q1:M5 (W4 o 1 0 true true true) (tN d.TypeV (isK d.Kind)+(oN d.Value (uV2 d.Kind)+(C0.ndss d.Params+(C0.ndss d.Vars+(D0.ndss d.Body+C0.ndss r))))):=M5.x (hr.less (by omega))
   have q2:=q1.x0 (m:=0) (f:=isK d.Kind) (a:=true) (u:=true)
   rw [U7,e1,if_pos rfl,e2,ob,show Ll d.Kind=some (isK d.Kind,uV2 d.Kind) from rfl,ob]
   show (Z0 (isK d.Kind) _>>=_)=_
   rw [hwn,L9 _ q1.dep,ob,P1l d.TypeV hs.type]
   show ((if (!(isK d.Kind))=true then some (Rs d.TypeV) else some default)>>=_)=_
   cases hk:isK d.Kind with
   | true=>
    rw [hk] at q2
    have q3:=q2
    unfold tN at q3
    simp only [Bool.not_true,cond_false] at q3
    rw [if_neg (by simp),ob]
    rw [if_pos (show (bif (true,uV2 d.Kind).1 then true else !default)=true from rfl),P1i d.TypeV hs.type _ (q3.less (by omega)),ob,j2 _ _ (by rw [hk]) (M5.x q3)]
    simp only [T4,C0.ndss,C0.dpss,C0.alls,C0.nds_eq,C0.dps_eq,C0.all_eq,Z9,Eh,Sk,hk,tN,tD,Bool.not_true,cond_false,Bool.true_and,Bool.and_assoc,Nat.add_assoc,Nat.max_assoc,Nat.zero_max,Nat.zero_add]
    congr 1
    simp only [W4]
    congr 1
    all_goals first
     | (congr 1; congr 1; ac_rfl)
     | (congr 1; congr 1)
     | skip
   | false=>
    rw [hk] at q2
    rw [if_pos (show (!false)=true from rfl),ob]
    show (if (!(Rs d.TypeV))=true then _ else _)=_
    cases hz:Rs d.TypeV with
    | true=>
     unfold tN at q2
     rw [hz] at q2
     simp only [Bool.not_false,cond_true,Nat.zero_add] at q2
     rw [if_neg (by simp),j2 _ _ (by rw [hk]) q2]
     have hzt:=D1q hz
     simp only [T4,C0.ndss,C0.dpss,C0.alls,C0.nds_eq,C0.dps_eq,C0.all_eq,Z9,Eh,Sk,hk,tN,tD,hz,Bool.not_false,cond_true,Bool.true_and,Bool.false_and,Bool.and_assoc,Nat.add_assoc,Nat.max_assoc,Nat.zero_max,Nat.zero_add]
     rw [hzt,P1f.1,P1f.2]
     simp only [Bool.true_and]
     congr 1
     simp only [W4]
     congr 1
     all_goals first
      | (congr 1; congr 1; ac_rfl)
      | (congr 1; congr 1)
      | skip
    | false=>
     have q3:=q2
     unfold tN at q3
     rw [hz] at q3
     simp only [Bool.not_false,cond_false,cond_true] at q3
     rw [if_pos (by simp),P1i d.TypeV hs.type _ (q3.less (by omega)),ob,j2 _ _ (by rw [hk]) (M5.x q3)]
     simp only [T4,C0.ndss,C0.dpss,C0.alls,C0.nds_eq,C0.dps_eq,C0.all_eq,Z9,Eh,Sk,hk,tN,tD,hz,Bool.not_false,cond_true,cond_false,Bool.true_and,Bool.false_and,Bool.and_assoc,Nat.add_assoc,Nat.max_assoc,Nat.zero_max,Nat.zero_add]
     congr 1
     simp only [W4]
     congr 1
     all_goals first
      | (congr 1; congr 1; ac_rfl)
      | (congr 1; congr 1)
      | skip
 rw [J6]
 exact main l 0 o rfl hr
structure OkP (p:A1):Prop where
 decls:OkD p.Decls
 body:OkS p.Body
def U1c (p:A1):Nat:=C0.ndss p.Decls+D0.ndss p.Body
def V1c (p:A1):Nat:=max (C0.dpss p.Decls) (D0.dpss p.Body 1)
def W1c (p:A1):Int:=
 Cs (U1c p) (V1c p) (!(C0.alls Z9 p.Decls&&D0.alls Sa p.Body)) (!(C0.alls Eh p.Decls&&D0.alls Pd p.Body)) (!(C0.alls Sk p.Decls&&D0.alls Zc p.Body))
theorem S1l (p:A1)(h:OkP p):Bj p=some (W4 ⟨0,0,false,false,false⟩ (U1c p) (V1c p) (C0.alls Z9 p.Decls&&D0.alls Sa p.Body) (C0.alls Eh p.Decls&&D0.alls Pd p.Body) (C0.alls Sk p.Decls&&D0.alls Zc p.Body)):=by
 have h1:=C0.ndss_bulk p.Decls
 have h2:=D0.ndss_bulk p.Body
 have h3:C0.bulks p.Decls≤BB:=h.decls
 have h4:D0.bulks p.Body≤BB:=h.body
 have hr:M5 ⟨0,0,false,false,false⟩ (C0.ndss p.Decls+D0.ndss p.Body):=⟨Int.le_refl _,Int.le_refl _,by simp only; omega⟩
 unfold Bj
 rw [A1o p.Decls h.decls _ (hr.less (by omega)),ob,show (1:Int)=((1:Nat):Int) from rfl,O1f p.Body h.body 1 _ (by unfold BB at *; omega) (M5.x hr),ob,T4]
 rfl
theorem B1o (n m:Nat)(f a u:Bool):X5 (W4 ⟨0,0,false,false,false⟩ n m f a u)=some (Cs n m (!f) (!a) (!u)):=by
 rw [W1p]
 simp only [W4,Bool.false_or]
 rw [show (0:Int)+(n:Int)=n by omega,show max (0:Int) (m:Int)=m by omega]
theorem E1q (p:A1)(h:OkP p):Bm p=some (W1c p):=by
 unfold Bm
 rw [S1l p h,ob,B1o,ob]
 rfl
end Go.Proofs.YtmnhfbekncjnfaaGreatDoor

set_option linter.unusedSimpArgs false
set_option linter.unusedVariables false
set_option maxHeartbeats 1000000
namespace Go.Proofs.YtmnhfbekncjnfaaGreatDoor
open Go.Am
theorem ifs {b c:Bool}{X:Option Bool}{y:Bool}(h:b = !c)(hx:X=some y):(if b=true then some false else X)=some (c&&y):=by
 subst h
 rw [hx]
 cases c <;> rfl
theorem ifd (c a:Bool):(if c=true then some a else some default)=some (bif c then a else default):=by cases c <;> rfl
theorem rUP (v:Int):Xe v=some (uPl v):=rfl
theorem rUV (v:Int):Ye v=some (uVa v):=rfl
theorem rUN (v:Int):Fj v=some (uNm v):=rfl
theorem Z1u (v:Int):Ps v=some (uNn v):=rfl
theorem rUT (v:Int):Bn v=some (uTh v):=rfl
theorem rDT (k:Int):Ej k=some (isK k):=rfl
theorem rDV (k:Int):We k=some (uV2 k):=rfl
def szX (s:P0)(n m:Nat):P0:=⟨s.nodes+n,max s.depth m⟩
theorem Uy (s:P0)(n m n' m':Nat):szX (szX s n m) n' m'=szX s (n+n') (max m m'):=by
 simp only [szX]
 rw [show s.nodes+(n:Int)+(n':Int)=s.nodes+((n+n':Nat):Int) by omega,show max (max s.depth (m:Int)) (m':Int)=max s.depth ((max m m':Nat):Int) by omega]
structure P7 (s:P0)(n:Nat):Prop where
 dep:0≤s.depth
 low:0≤s.nodes
 high:s.nodes+n≤3 * BB
theorem P7.x {s:P0}{n k m:Nat}(h:P7 s (k+n)):P7 (szX s k m) n:=by
 obtain ⟨h1,h2,h3⟩:=h
 refine ⟨?_,?_,?_⟩ <;> simp only [szX] <;> omega
theorem P7.less {s:P0}{n k:Nat}(h:P7 s n)(hk:k≤n):P7 s k:=⟨h.dep,h.low,by have:=h.high; omega⟩
theorem Qx (s:P0)(h:0≤s.depth):szX s 0 0=s:=by
 simp only [szX]
 rw [show s.nodes+((0:Nat):Int)=s.nodes by omega,show max s.depth ((0:Nat):Int)=s.depth by omega]
theorem R13 (s:P0)(e:A0)(u:Bool)(h:OkE e)(hr:P7 s (oN e u)):Jb s e u=some (szX s (oN e u) (oD e u)):=by
 have hn:=h.nodes
 have hh:=hr.high
 have hl:=hr.low
 unfold Jb
 rw [Ty e h,ifd,ob,N1l e h,O1l e h]
 unfold oN oD at *
 cases u with
 | true=>
  simp only [Bool.not_true,cond_false] at *
  unfold BB at hh hn
  rw [if_neg (by simp),ob,ob,Du,ob,wr (n:=s.nodes+(e.nodes:Int)) (by omega) (by omega)]
  rfl
 | false=>
  simp only [Bool.not_false,cond_true] at *
  cases hz:Ki e with
  | true=>rw [if_pos rfl]; exact congrArg some (Qx s hr.dep).symm
  | false=>
   rw [hz] at hh
   simp only [cond_false] at hh
   unfold BB at hh hn
   rw [if_neg (by simp),ob,ob,Du,ob,wr (n:=s.nodes+(e.nodes:Int)) (by omega) (by omega)]
   rfl
theorem F1q (s:P0)(t:I0)(u:Bool)(h:Ok t)(hr:P7 s (tN t u)):Yk s t u=some (szX s (tN t u) (tD t u)):=by
 have hn:=h.nodes
 have hh:=hr.high
 have hl:=hr.low
 unfold Yk
 rw [X1n t h,ifd,ob,Q1n t h,R1n t h]
 unfold tN tD at *
 cases u with
 | true=>
  simp only [Bool.not_true,cond_false] at *
  unfold BB at hh hn
  rw [if_neg (by simp),ob,ob,Du,ob,wr (n:=s.nodes+(t.nodes:Int)) (by omega) (by omega)]
  rfl
 | false=>
  simp only [Bool.not_false,cond_true] at *
  cases hz:Rs t with
  | true=>rw [if_pos rfl]; exact congrArg some (Qx s hr.dep).symm
  | false=>
   rw [hz] at hh
   simp only [cond_false] at hh
   unfold BB at hh hn
   rw [if_neg (by simp),ob,ob,Du,ob,wr (n:=s.nodes+(t.nodes:Int)) (by omega) (by omega)]
   rfl
theorem B1t (s:P0)(hr:P7 s 1)(d:Nat):Y7 ⟨IntKind.i64.wrap (s.nodes+1),s.depth⟩ (d:Int)=some (szX s 1 d):=by
 have hh:=hr.high
 have hl:=hr.low
 unfold BB at hh
 rw [Du,wr (n:=s.nodes+1) (by omega) (by omega)]
 rfl
theorem G1e (e:A0):oN e true=e.nodes∧oD e true=e.depth:=⟨rfl,rfl⟩
theorem Q1f (s:D0)(hs:Q13 s)(K:P0→Option P0)(F:P0→Int→Option P0)
  (hF:∀ (o:P0) (k:Int),F o k=if decide (k < (s.Args.length:Int))=true then idx s.Args k>>=fun x=>Jb o x true>>=fun y=>F y (IntKind.i64.wrap (k+1)) else K o) :
  ∀ (r:List A0) (k:Nat) (o:P0),s.Args.drop k=r→P7 o (A0.nodess r)→F o (k:Int)=K (szX o (A0.nodess r) (A0.depths r))
 | [],k,o,h,hr=>by
  rw [hF,(J2 h).1,if_neg (by simp)]
  simp only [A0.nodess,A0.depths]
  rw [Qx o hr.dep]
 | x::r,k,o,h,hr=>by
  obtain ⟨e1,e2,e3,e4,e5⟩:=I3 h
  have:=hs.args
  simp only [A0.nodess] at hr
  rw [hF,e1,if_pos rfl,e2,ob,R13 o x true (hs.arg x e5) (hr.less (by rw [(G1e x).1]; omega)),ob,(G1e x).1,(G1e x).2,w1 (by omega),Q1f s hs K F hF r (k+1) _ e3 hr.x,Uy]
  rfl
theorem S17 (l:List D0):OkS l→∀ (d:Nat) (o:P0),d+D0.bulks l≤3 * BB→P7 o (D0.ndss l)→X9 o l d=some (szX o (D0.ndss l) (D0.dpss l d)):=by
 induction l using D0.inds with
 | h l ih=>
 intro hl d o hd hr
 have main:∀ (r:List D0) (k:Nat) (o:P0),l.drop k=r→P7 o (D0.ndss r)→Dd l d o k=some (szX o (D0.ndss r) (D0.dpss r d)):=by
  intro r
  induction r with
  | nil=>
   intro k o h hr
   rw [Dd,(J2 h).1,if_neg (by simp)]
   exact congrArg some (Qx o hr.dep).symm
  | cons s r ihr=>
   intro k o h hr
   obtain ⟨e1,e2,e3,e4,e5⟩:=I3 h
   have hs:=hl.mem e5
   have hlen:=hl.len
   obtain ⟨i1,i2⟩:=ih s e5
   have hbm:=D0.bulk_mem e5
   have hbe:=D0.bulk_eq s
   simp only [D0.ndss,D0.nds_eq] at hr
   unfold BB at hd
   have hwd:IntKind.i64.wrap ((d:Int)+1)=((d+1:Nat):Int):=by rw [wr (by omega) (by omega)]; rfl
   have args:=Q1f s hs _ (fun o k'=>Ef l d o s k k') (fun o k'=>Ef.eq_1 l d o s k k') s.Args 0
   rw [show ((0:Nat):Int)=0 from rfl] at args
   have q1:P7 (szX o 1 d) (oN s.Place (uPl s.Verb)+(oN s.Value (uVa s.Verb)+(A0.nodess s.Args+(D0.ndss s.Then+(D0.ndss s.Else+D0.ndss r))))):=P7.x (hr.less (by omega))
   have q2:=P7.x (m:=oD s.Place (uPl s.Verb)) q1
   have q3:=P7.x (m:=oD s.Value (uVa s.Verb)) q2
   have q4:=P7.x (m:=A0.depths s.Args) q3
   have q5:=P7.x (m:=D0.dpss s.Then (d+1)) q4
   have q6:=P7.x (m:=D0.dpss s.Else (d+1)) q5
   rw [Dd,e1,if_pos rfl,e2,ob,B1t o (hr.less (by omega)) d,ob,rUP,ob,R13 _ s.Place _ hs.place (q1.less (by omega)),ob,rUV,ob,R13 _ s.Value _ hs.value (q2.less (by omega)),ob,
    args _ rfl (q3.less (by omega)),hwd,i1 hs.thens (d+1) _ (by unfold BB; omega) (q4.less (by omega)),ob,i2 hs.elses (d+1) _ (by unfold BB; omega) (q5.less (by omega)),ob,w1 (by omega),ihr (k+1) _ e3 q6]
   simp only [Uy,D0.ndss,D0.dpss,D0.nds_eq,D0.dps_eq,Nat.add_assoc,Nat.max_assoc]
 rw [X9]
 exact main l 0 o rfl hr
theorem R1i (l:List C0):OkD l→∀ (o:P0),P7 o (C0.ndss l)→Ec o l=some (szX o (C0.ndss l) (C0.dpss l)):=by
 induction l using C0.inds with
 | h l ih=>
 intro hl o hr
 have main:∀ (r:List C0) (k:Nat) (o:P0),l.drop k=r→P7 o (C0.ndss r)→Ed l o k=some (szX o (C0.ndss r) (C0.dpss r)):=by
  intro r
  induction r with
  | nil=>
   intro k o h hr
   rw [Ed,(J2 h).1,if_neg (by simp)]
   exact congrArg some (Qx o hr.dep).symm
  | cons s r ihr=>
   intro k o h hr
   obtain ⟨e1,e2,e3,e4,e5⟩:=I3 h
   have hs:=hl.mem e5
   have hlen:=hl.len
   obtain ⟨i1,i2⟩:=ih s e5
   have hbB:D0.bulks s.Body≤BB:=hs.body
   simp only [C0.ndss,C0.nds_eq] at hr
   have hh:=hr.high
   have hlo:=hr.low
   have hw:(P0.mk (IntKind.i64.wrap (o.nodes+1)) o.depth)=szX o 1 0:=by
    unfold BB at hh
    rw [wr (by omega) (by omega)]
    have:=hr.dep
    simp only [szX]
    rw [show max o.depth ((0:Nat):Int)=o.depth by omega]
    rfl
   have q1:P7 (szX o 1 0) (tN s.TypeV (isK s.Kind)+(oN s.Value (uV2 s.Kind)+(C0.ndss s.Params+(C0.ndss s.Vars+(D0.ndss s.Body+C0.ndss r))))):=P7.x (hr.less (by omega))
   have q2:=P7.x (m:=tD s.TypeV (isK s.Kind)) q1
   have q3:=P7.x (m:=oD s.Value (uV2 s.Kind)) q2
   have q4:=P7.x (m:=C0.dpss s.Params) q3
   have q5:=P7.x (m:=C0.dpss s.Vars) q4
   have q6:=P7.x (m:=D0.dpss s.Body 1) q5
   rw [Ed,e1,if_pos rfl,e2,ob,rDT,ob,hw,F1q _ s.TypeV _ hs.type (q1.less (by omega)),ob,rDV,ob,R13 _ s.Value _ hs.value (q2.less (by omega)),ob,i1 hs.params _ (q3.less (by omega)),ob,i2 hs.vars _ (q4.less (by omega)),ob,
    show (1:Int)=((1:Nat):Int) from rfl,S17 s.Body hs.body 1 _ (by unfold BB at *; omega) (q5.less (by omega)),ob,show ((k:Int)+((1:Nat):Int))=(k:Int)+1 from rfl,w1 (by omega),ihr (k+1) _ e3 q6]
   simp only [Uy,C0.ndss,C0.dpss,C0.nds_eq,C0.dps_eq,Nat.add_assoc,Nat.max_assoc,Nat.zero_max]
 rw [Ec]
 exact main l 0 o rfl hr
theorem T1l (s:D0)(hs:Q13 s)(p:A0→Bool)(g:A0→Option Bool)(hg:∀ x∈s.Args,g x=some (x.all p))(K:Option Bool)(F:Int→Option Bool)(y:Bool)(hK:K=some y)
  (hF:∀ k:Int,F k=if decide (k < (s.Args.length:Int))=true then idx s.Args k>>=fun x=>g x>>=fun b=>if (!b)=true then some false else F (IntKind.i64.wrap (k+1)) else K) :
  ∀ (r:List A0) (k:Nat),s.Args.drop k=r→F (k:Int)=some (A0.alls p r&&y)
 | [],k,h=>by rw [hF,(J2 h).1,if_neg (by simp),hK]; rfl
 | x::r,k,h=>by
  obtain ⟨e1,e2,e3,e4,e5⟩:=I3 h
  have:=hs.args
  rw [hF,e1,if_pos rfl,e2,ob,hg x e5,ob,w1 (by omega),T1l s hs p g hg K F y hK hF r (k+1) e3,A0.alls]
  cases x.all p <;> simp
theorem G14 (l:List D0):OkS l→K8 l=some (D0.alls Sa l):=by
 induction l using D0.inds with
 | h l ih=>
 intro hl
 have main:∀ (r:List D0) (k:Nat),l.drop k=r→Fc l k=some (D0.alls Sa r):=by
  intro r
  induction r with
  | nil=>intro k h; rw [Fc,(J2 h).1,if_neg (by simp)]; rfl
  | cons s r ihr=>
   intro k h
   obtain ⟨e1,e2,e3,e4,e5⟩:=I3 h
   have hs:=hl.mem e5
   have hlen:=hl.len
   obtain ⟨i1,i2⟩:=ih s e5
   have l2:=T1l s hs E6 S5 (fun x hx=>Sy x (hs.arg x hx)) _ (fun k'=>Re l s k k') (D0.alls Sa s.Then&&D0.alls Sa s.Else&&D0.alls Sa r)
    (by
     rw [i1 hs.thens,ob,i2 hs.elses,ifd,ob,w1 (by omega),ihr (k+1) e3]
     cases D0.alls Sa s.Then <;> cases D0.alls Sa s.Else <;> simp)
    (fun k'=>Re.eq_1 l s k k') s.Args 0 rfl
   rw [show ((0:Nat):Int)=0 from rfl] at l2
   rw [Fc,e1,if_pos rfl,e2,ob]
   simp only [rUP,rUV,rUN,Z1u,rUT,G1f,Sy _ hs.place,Sy _ hs.value,Ty _ hs.place,Ty _ hs.value,ifd,ob]
   have:=ifs (b:=bif decide (s.Verb < 0) then true else decide (s.Verb > 8)) (c:=okV s.Verb) (by unfold okV; rw [Bool.not_not])
    (ifs (c:=oF s.Place (uPl s.Verb)&&(bif uPl s.Verb then s.Place.place else true)) (b:=bif (bif uPl s.Verb then (bif (!(bif uPl s.Verb then s.Place.place else default)) then true else (!(bif (uPl s.Verb&&(!(!(bif uPl s.Verb then s.Place.place else default)))) then s.Place.all E6 else default))) else false) then true else (bif (!(bif (!(bif uPl s.Verb then (bif (!(bif uPl s.Verb then s.Place.place else default)) then true else (!(bif (uPl s.Verb&&(!(!(bif uPl s.Verb then s.Place.place else default)))) then s.Place.all E6 else default))) else false)) then uPl s.Verb else default)) then (!(bif ((!(bif uPl s.Verb then (bif (!(bif uPl s.Verb then s.Place.place else default)) then true else (!(bif (uPl s.Verb&&(!(!(bif uPl s.Verb then s.Place.place else default)))) then s.Place.all E6 else default))) else false))&&(!(bif (!(bif uPl s.Verb then (bif (!(bif uPl s.Verb then s.Place.place else default)) then true else (!(bif (uPl s.Verb&&(!(!(bif uPl s.Verb then s.Place.place else default)))) then s.Place.all E6 else default))) else false)) then uPl s.Verb else default))) then Ki s.Place else default)) else false))
     (by unfold oF; cases uPl s.Verb <;> cases s.Place.place <;> cases s.Place.all E6 <;> cases Ki s.Place <;> rfl)
    (ifs (c:=oF s.Value (uVa s.Verb)) (b:=bif (bif uVa s.Verb then (!(bif uVa s.Verb then s.Value.all E6 else default)) else false) then true else (bif (!(bif (!(bif uVa s.Verb then (!(bif uVa s.Verb then s.Value.all E6 else default)) else false)) then uVa s.Verb else default)) then (!(bif ((!(bif uVa s.Verb then (!(bif uVa s.Verb then s.Value.all E6 else default)) else false))&&(!(bif (!(bif uVa s.Verb then (!(bif uVa s.Verb then s.Value.all E6 else default)) else false)) then uVa s.Verb else default))) then Ki s.Value else default)) else false))
     (by unfold oF; cases uVa s.Verb <;> cases s.Value.all E6 <;> cases Ki s.Value <;> rfl)
    (ifs (c:=(bif uNm s.Verb then true else s.Name == [])&&(bif s.Verb == 1 then true else ((s.Args.length:Int) == 0))&&(bif uNn s.Verb then true else s.NV == 0)&&(bif s.Verb == 7 then true else (bif s.Low == 0 then s.High == 0 else false))&&(bif s.Verb == 8 then true else ((s.Numbers.length:Int) == 0)))
     (b:=bif (bif (bif (bif (bif (!(uNm s.Verb)) then (!(s.Name == [])) else false) then true else (bif (s.Verb != 1) then (((s.Args).length:Int) != 0) else false)) then true else (bif (!(bif (!(bif (bif (!(uNm s.Verb)) then (!(s.Name == [])) else false) then true else (bif (s.Verb != 1) then (((s.Args).length:Int) != 0) else false))) then uNn s.Verb else default)) then (s.NV != 0) else false)) then true else (bif (s.Verb != 7) then (bif (s.Low != 0) then true else (s.High != 0)) else false)) then true else (bif (s.Verb != 8) then (((s.Numbers).length:Int) != 0) else false))
     (by
      unfold bne
      generalize (s.Verb == 1)=a1; generalize (s.Verb == 7)=a2; generalize (s.Verb == 8)=a3; generalize (s.Name == [])=a4; generalize ((s.Args.length:Int) == 0)=a5; generalize (s.NV == 0)=a6; generalize (s.Low == 0)=a7; generalize (s.High == 0)=a8
      generalize ((s.Numbers.length:Int) == 0)=a9; generalize uNm s.Verb=b1; generalize uNn s.Verb=b2
      cases b1 <;> cases a4 <;> cases a1 <;> cases a5 <;> cases b2 <;> cases a6 <;> first | rfl | (cases a2 <;> cases a7 <;> cases a8 <;> cases a3 <;> cases a9 <;> rfl))
    (ifs (c:=(bif uTh s.Verb then true else ((s.Then.length:Int) == 0))&&(bif s.Verb == 5 then true else ((s.Else.length:Int) == 0))) (b:=bif (bif (!(uTh s.Verb)) then (((s.Then).length:Int) != 0) else false) then true else (bif (s.Verb != 5) then (((s.Else).length:Int) != 0) else false))
     (by
      unfold bne
      generalize (s.Verb == 5)=a1; generalize ((s.Then.length:Int) == 0)=a2; generalize ((s.Else.length:Int) == 0)=a3
      generalize uTh s.Verb=a0
      cases a0 <;> cases a1 <;> cases a2 <;> cases a3 <;> rfl) l2))))
   refine this.trans ?_
   simp only [D0.alls,D0.all_eq,Sa,Bool.and_assoc]
   congr 1
   generalize A0.alls E6 s.Args=x
   generalize (bif s.Verb == 1 then true else ((s.Args.length:Int) == 0))=y
   ac_rfl
 rw [K8]
 exact main l 0 rfl
end Go.Proofs.YtmnhfbekncjnfaaGreatDoor

set_option linter.unusedSimpArgs false
set_option linter.unusedVariables false
set_option maxHeartbeats 1000000
namespace Go.Proofs.YtmnhfbekncjnfaaGreatDoor
open Go.Am
theorem S1i (c:List C0)(hc:c.length≤BB)(q:C0→Bool)(K:Option Bool)(F:Int→Option Bool)(y:Bool)(hK:K=some y)
  (hF:∀ (r:List C0) (k:Nat) (x:C0),c.drop k=x::r→F (k:Int)=if q x=true then F (IntKind.i64.wrap ((k:Int)+1)) else some false) (hE:∀ k:Nat,c.drop k=[]→F (k:Int)=K) :
  ∀ (r:List C0) (k:Nat),c.drop k=r→F (k:Int)=some (r.all q&&y)
 | [],k,h=>by rw [hE k h,hK]; rfl
 | x::r,k,h=>by
  obtain ⟨e1,e2,e3,e4,e5⟩:=I3 h
  rw [hF r k x h,w1 (by omega),S1i c hc q K F y hK hF hE r (k+1) e3,List.all_cons]
  cases q x <;> simp
theorem H1g (l:List C0):OkD l→Oa l=some (C0.alls Z9 l):=by
 induction l using C0.inds with
 | h l ih=>
 intro hl
 have main:∀ (r:List C0) (k:Nat),l.drop k=r→Gc l k=some (C0.alls Z9 r):=by
  intro r
  induction r with
  | nil=>intro k h; rw [Gc,(J2 h).1,if_neg (by simp)]; rfl
  | cons d r ihr=>
   intro k h
   obtain ⟨e1,e2,e3,e4,e5⟩:=I3 h
   have hs:=hl.mem e5
   have hlen:=hl.len
   obtain ⟨i1,i2⟩:=ih d e5
   have l3:=S1i d.Vars hs.vars.len vOk _ (fun k'=>D7 l d k k') (C0.alls Z9 d.Params&&C0.alls Z9 d.Vars&&D0.alls Sa d.Body&&C0.alls Z9 r) rfl
    (fun r' k' x hx=>by
     obtain ⟨f1,f2,f3,f4,f5⟩:=I3 hx
     show D7 l d k k'=_
     rw [D7,f1,if_pos rfl,f2,ob]
     unfold vOk bne
     cases (x.Kind == 4) <;> rfl)
    (fun k' hx=>by
     show D7 l d k k'=_
     rw [D7,(J2 hx).1,if_neg (by simp),i1 hs.params,ob,i2 hs.vars,ifd,ob,G14 d.Body hs.body,ifd,ob,w1 (by omega),ihr (k+1) e3]
     cases C0.alls Z9 d.Params <;> cases C0.alls Z9 d.Vars <;> cases D0.alls Sa d.Body <;> simp) d.Vars 0 rfl
   have l2:=S1i d.Params hs.params.len pOk _ (fun k'=>C7 l d k k') (d.Vars.all vOk&&(C0.alls Z9 d.Params&&C0.alls Z9 d.Vars&&D0.alls Sa d.Body&&C0.alls Z9 r)) rfl
    (fun r' k' x hx=>by
     obtain ⟨f1,f2,f3,f4,f5⟩:=I3 hx
     show C7 l d k k'=_
     rw [C7,f1,if_pos rfl,f2,ob]
     unfold pOk bne
     cases (x.Kind == 4)
     ·rfl
     ·simp only [Bool.not_true,Bool.not_false,if_true,ob,cond_true,cond_false]
      cases (x.Init == 0) <;> rfl)
    (fun k' hx=>by
     show C7 l d k k'=_
     rw [C7,(J2 hx).1,if_neg (by simp)]
     exact l3) d.Params 0 rfl
   rw [show ((0:Nat):Int)=0 from rfl] at l2
   rw [Gc,e1,if_pos rfl,e2,ob]
   simp only [rDT,rDV,X1p _ hs.type,Sy _ hs.value,Ty _ hs.value,ifd,ob]
   have:=ifs (b:=bif (!(isK d.Kind)) then true else (!(bif (!(!(isK d.Kind))) then d.TypeV.all Yc else default))) (c:=isK d.Kind&&d.TypeV.all Yc) (by cases isK d.Kind <;> cases d.TypeV.all Yc <;> rfl)
    (ifs (c:=oF d.Value (uV2 d.Kind)&&(bif d.Kind == 4 then true else d.Init == 0)) (b:=bif (bif (bif uV2 d.Kind then (!(bif uV2 d.Kind then d.Value.all E6 else default)) else false) then true else (bif (!(bif (!(bif uV2 d.Kind then (!(bif uV2 d.Kind then d.Value.all E6 else default)) else false)) then uV2 d.Kind else default)) then (!(bif ((!(bif uV2 d.Kind then (!(bif uV2 d.Kind then d.Value.all E6 else default)) else false))&&(!(bif (!(bif uV2 d.Kind then (!(bif uV2 d.Kind then d.Value.all E6 else default)) else false)) then uV2 d.Kind else default))) then Ki d.Value else default)) else false)) then true else (bif (d.Kind != 4) then (d.Init != 0) else false))
     (by
      unfold oF bne
      generalize (d.Kind == 4)=a1
      generalize (d.Init == 0)=a2
      generalize uV2 d.Kind=a3
      cases a3 <;> cases d.Value.all E6 <;> cases Ki d.Value <;> cases a1 <;> cases a2 <;> rfl)
    (ifs (c:=bif d.Kind == 6 then true else S11 d) (b:=bif (d.Kind != 6) then (bif (bif (((d.Params).length:Int) != 0) then true else (((d.Vars).length:Int) != 0)) then true else (((d.Body).length:Int) != 0)) else false)
     (by
      unfold S11 bne
      cases (d.Kind == 6) <;> cases ((d.Params.length:Int) == 0) <;> cases ((d.Vars.length:Int) == 0) <;> cases ((d.Body.length:Int) == 0) <;> rfl) l2))
   refine this.trans ?_
   simp only [C0.alls,C0.all_eq,Z9,Bool.and_assoc]
   congr 1
   ac_rfl
 rw [Oa]
 exact main l 0 rfl
theorem C1o (s:D0)(hs:Q13 s)(p:A0→Bool)(g:A0→Option Bool)(hg:∀ x∈s.Args,g x=some (x.all p))(K:Option Bool)(F:Int→Option Bool)(y:Bool)(hK:K=some y)
  (hF:∀ k:Int,F k=if decide (k < (s.Args.length:Int))=true then idx s.Args k>>=fun x=>g x>>=fun b=>if (!b)=true then some false else F (IntKind.i64.wrap (k+1)) else K):F 0=some (A0.alls p s.Args&&y):=
 T1l s hs p g hg K F y hK hF s.Args 0 rfl
theorem T11 (l:List D0):OkS l→L7 l=some (D0.alls Pd l):=by
 induction l using D0.inds with
 | h l ih=>
 intro hl
 have main:∀ (r:List D0) (k:Nat),l.drop k=r→Ua l k=some (D0.alls Pd r):=by
  intro r
  induction r with
  | nil=>intro k h; rw [Ua,(J2 h).1,if_neg (by simp)]; rfl
  | cons s r ihr=>
   intro k h
   obtain ⟨e1,e2,e3,e4,e5⟩:=I3 h
   have hs:=hl.mem e5
   have hlen:=hl.len
   obtain ⟨i1,i2⟩:=ih s e5
   have l2:=C1o s hs W6 J5 (fun x hx=>Yv x (hs.arg x hx)) _ (fun k'=>Ud l s k k') (D0.alls Pd r) (by rw [w1 (by omega),ihr (k+1) e3]) (fun k'=>Ud.eq_1 l s k k')
   rw [Ua,e1,if_pos rfl,e2,ob]
   simp only [rUN,Nm _ hs.name,Yv _ hs.place,Yv _ hs.value,i1 hs.thens,i2 hs.elses,ifd,ob,l2]
   simp only [D0.alls,D0.all_eq,Pd]
   generalize uNm s.Verb=a1
   generalize Ba s.Name=a2
   generalize s.Place.all W6=a3
   generalize s.Value.all W6=a4
   generalize D0.alls Pd s.Then=a5
   generalize D0.alls Pd s.Else=a6
   cases a1 <;> cases a2 <;> cases a3 <;> cases a4 <;> cases a5 <;> cases a6 <;> simp
 rw [L7]
 exact main l 0 rfl
theorem H1e (l:List C0):OkD l→I9 l=some (C0.alls Eh l):=by
 induction l using C0.inds with
 | h l ih=>
 intro hl
 have main:∀ (r:List C0) (k:Nat),l.drop k=r→Va l k=some (C0.alls Eh r):=by
  intro r
  induction r with
  | nil=>intro k h; rw [Va,(J2 h).1,if_neg (by simp)]; rfl
  | cons d r ihr=>
   intro k h
   obtain ⟨e1,e2,e3,e4,e5⟩:=I3 h
   have hs:=hl.mem e5
   have hlen:=hl.len
   obtain ⟨i1,i2⟩:=ih d e5
   rw [Va,e1,if_pos rfl,e2,ob]
   simp only [Nm _ hs.name,S1n _ hs.type,Yv _ hs.value,i1 hs.params,i2 hs.vars,T11 _ hs.body,ifd,ob,w1 (show k≤BB by omega),ihr (k+1) e3]
   simp only [C0.alls,C0.all_eq,Eh]
   generalize Ba d.Name=a2
   generalize d.TypeV.all Pl=a3
   generalize d.Value.all W6=a4
   generalize C0.alls Eh d.Params=a5
   generalize C0.alls Eh d.Vars=a6
   generalize D0.alls Pd d.Body=a1
   cases a1 <;> cases a2 <;> cases a3 <;> cases a4 <;> cases a5 <;> cases a6 <;> simp
 rw [I9]
 exact main l 0 rfl
theorem U1l (x:Int):S3 x 0 1048576=(bif decide (x < 0) then false else !decide (x > 1048576)):=by
 unfold S3
 rw [M13,N13]
 cases decide (x≥0) <;> cases decide (x≤1048576) <;> rfl
theorem D1o (s:D0)(hs:Q13 s):∀ (r:List Int) (k:Nat) (last:Int),s.Numbers.drop k=r→(k=0∧last = -1∨0 < k∧idx s.Numbers ((k - 1:Nat):Int)=some last)→A6 s k=some (Dq last r)
 | [],k,last,h,h0=>by rw [A6,(J2 h).1,if_neg (by simp)]; rfl
 | x::r,k,last,h,h0=>by
  obtain ⟨e1,e2,e3,e4,e5⟩:=I3 h
  have hnl:=hs.nums
  have ih:=D1o s hs r (k+1) x e3 (.inr ⟨by omega,e2⟩)
  unfold BB at hnl
  rw [show Dq last (x::r)=((bif S3 x 0 1048576 then decide (x > last) else false)&&Dq x r) from rfl,U1l,A6,e1,if_pos rfl,e2,ob,w1 (by unfold BB; omega),ih]
  by_cases hx:x < 0
  ·rw [decide_eq_true hx]; rfl
  ·rw [decide_eq_false hx,if_pos (show (!false)=true from rfl),ob]
   cases hB:decide (x > 1048576) with
   | true=>rfl
   | false=>
    rcases h0 with ⟨rfl,rfl⟩ | ⟨hk,hl⟩
    ·have hk:decide (((0:Nat):Int) > 0)=false:=by decide
     rw [hk,decide_eq_true (show x > -1 by omega)]
     cases Dq x r <;> rfl
    ·have hk':decide ((k:Int) > 0)=true:=decide_eq_true (by omega)
     have hw:IntKind.i64.wrap ((k:Int) - 1)=((k - 1:Nat):Int):=by rw [wr (by omega) (by omega)]; omega
     have hd:decide (x≤last) = !decide (x > last):=by rw [← decide_not]; exact decide_eq_decide.2 (by omega)
     rw [hk',hw,hl]
     show (if decide (x≤last)=true then some false else some (Dq x r))=some (decide (x > last)&&Dq x r)
     rw [hd]
     cases decide (x > last) <;> cases Dq x r <;> rfl
theorem G1q (s:D0)(hs:Q13 s):Ff s=some (Eq s):=by
 unfold Ff Eq
 cases s.Verb == 4 with
 | true=>rw [if_pos rfl]; rfl
 | false=>
  rw [if_neg (by simp)]
  cases s.Verb == 6 with
  | true=>rw [if_pos rfl]; rfl
  | false=>
   rw [if_neg (by simp)]
   cases s.Verb == 7 with
   | true=>
    rw [if_pos rfl,Ry,ob,Ry,ifd,ob]
    show some _=some (bif (bif S3 s.Low (-1048576) 1048576 then S3 s.High s.Low 1048576 else false) then decide (s.High - s.Low < 4096) else false)
    congr 1
    by_cases hb:(-1048576≤s.Low∧s.Low≤1048576)∧(-1048576≤s.High∧s.High≤1048576)
    ·obtain ⟨⟨b1,b2⟩,b3,b4⟩:=hb
     rw [wr (n:=s.High - s.Low) (by omega) (by omega),wr (n:=s.High - s.Low+1) (by omega) (by omega)]
     unfold Vh S3
     rw [decide_eq_true (show s.Low≥-1048576 from b1),decide_eq_true b2,decide_eq_true (show s.High≥-1048576 from b3),decide_eq_true b4]
     simp only [cond_true]
     have e:decide (s.High - s.Low+1≤4096)=decide (s.High - s.Low < 4096):=decide_eq_decide.2 (by omega)
     rw [e]
     show (bif decide (s.Low≤s.High) then decide (s.High - s.Low < 4096) else false)=(bif (bif decide (s.Low≤s.High) then true else false) then decide (s.High - s.Low < 4096) else false)
     cases decide (s.Low≤s.High) <;> rfl
    ·unfold Vh S3
     by_cases h1 : -1048576≤s.Low∧s.Low≤1048576
     ·obtain ⟨b1,b2⟩:=h1
      rw [decide_eq_true (show s.Low≥-1048576 from b1),decide_eq_true b2]
      simp only [cond_true]
      by_cases h2:s.High≤1048576
      ·have h3:¬ s.High≥-1048576:=fun h=>hb ⟨⟨b1,b2⟩,h,h2⟩
       rw [decide_eq_false h3,decide_eq_false (show ¬ s.High≥s.Low by omega)]
       rfl
      ·rw [decide_eq_false h2]
       cases decide (s.High≥-1048576) <;> cases decide (s.High≥s.Low) <;> rfl
     ·have:(bif decide (s.Low≥-1048576) then decide (s.Low≤1048576) else false)=false:=by
       by_cases h2 : -1048576≤s.Low
       ·rw [decide_eq_true (show s.Low≥-1048576 from h2),decide_eq_false (fun h=>h1 ⟨h2,h⟩)]; rfl
       ·rw [decide_eq_false (show ¬ s.Low≥-1048576 from h2)]; rfl
      rw [this]
      rfl
   | false=>
    rw [if_neg (by simp)]
    cases s.Verb == 8 with
    | true=>
     have:=D1o s hs s.Numbers 0 (-1) rfl (.inl ⟨rfl,rfl⟩)
     rw [show ((0:Nat):Int)=0 from rfl] at this
     rw [if_pos rfl,this,M13,N13]
     show _=some (S3 (s.Numbers.length:Int) 1 32&&Dq (-1) s.Numbers)
     unfold S3
     cases decide ((s.Numbers.length:Int)≥1) <;> cases decide ((s.Numbers.length:Int)≤32) <;> simp
    | false=>rfl
theorem Rx (l:List D0):OkS l→B6 l=some (D0.alls Zc l):=by
 induction l using D0.inds with
 | h l ih=>
 intro hl
 have main:∀ (r:List D0) (k:Nat),l.drop k=r→R8 l k=some (D0.alls Zc r):=by
  intro r
  induction r with
  | nil=>intro k h; rw [R8,(J2 h).1,if_neg (by simp)]; rfl
  | cons s r ihr=>
   intro k h
   obtain ⟨e1,e2,e3,e4,e5⟩:=I3 h
   have hs:=hl.mem e5
   have hlen:=hl.len
   obtain ⟨i1,i2⟩:=ih s e5
   have l2:=C1o s hs N6 J4 (fun x hx=>Bq x (hs.arg x hx)) _ (fun k'=>Hc l s k k') (D0.alls Zc r) (by rw [w1 (by omega),ihr (k+1) e3]) (fun k'=>Hc.eq_1 l s k k')
   rw [R8,e1,if_pos rfl,e2,ob]
   simp only [G1q s hs,Bq _ hs.place,Bq _ hs.value,i1 hs.thens,i2 hs.elses,ifd,ob,l2]
   simp only [D0.alls,D0.all_eq,Zc]
   generalize Eq s=a2
   generalize s.Place.all N6=a3
   generalize s.Value.all N6=a4
   generalize D0.alls Zc s.Then=a5
   generalize D0.alls Zc s.Else=a6
   cases a2 <;> cases a3 <;> cases a4 <;> cases a5 <;> cases a6 <;> simp
 rw [B6]
 exact main l 0 rfl
def S13 (d:C0):Bool:=(d.TypeV.all fun t=>!Ds t)&&d.Value.all N6&&Eu d&&D0.alls Zc d.Body
theorem O1a (l:List C0):OkD l→E7 l=some (C0.alls S13 l):=by
 induction l using C0.inds with
 | h l ih=>
 intro hl
 have main:∀ (r:List C0) (k:Nat),l.drop k=r→S8 l k=some (C0.alls S13 r):=by
  intro r
  induction r with
  | nil=>intro k h; rw [S8,(J2 h).1,if_neg (by simp)]; rfl
  | cons d r ihr=>
   intro k h
   obtain ⟨e1,e2,e3,e4,e5⟩:=I3 h
   have hs:=hl.mem e5
   have hlen:=hl.len
   obtain ⟨i1,i2⟩:=ih d e5
   rw [S8,e1,if_pos rfl,e2,ob,Ry,ob]
   simp only [L1j _ hs.type,Bq _ hs.value,i1 hs.params,i2 hs.vars,Rx _ hs.body,ifd,ob,w1 (show k≤BB by omega),ihr (k+1) e3]
   have hi:(bif (!(Vh d.Init)) then true else (bif (d.TypeV.Kind == 0) then (bif (decide (d.Init < 0)) then true else (decide (d.Init > 1))) else false)) = !(Eu d):=by
    unfold Eu Vh S3 bne
    rw [M13,N13 d.Init 1]
    cases decide (d.Init≥-1048576) <;> cases decide (d.Init≤1048576) <;> cases (d.TypeV.Kind == 0) <;> cases decide (d.Init≥0) <;> cases decide (d.Init≤1) <;> rfl
   rw [hi]
   simp only [C0.alls,C0.all_eq,S13]
   generalize Eu d=a2
   generalize (d.TypeV.all fun t=>!Ds t)=a3
   generalize d.Value.all N6=a4
   generalize C0.alls S13 d.Params=a5
   generalize C0.alls S13 d.Vars=a6
   generalize D0.alls Zc d.Body=a1
   cases a1 <;> cases a2 <;> cases a3 <;> cases a4 <;> cases a5 <;> cases a6 <;> simp
 rw [E7]
 exact main l 0 rfl
theorem E1o (l:List C0):C0.alls Z9 l=true→C0.alls S13 l=C0.alls Sk l:=by
 induction l using C0.inds with
 | h l ih=>
 induction l with
 | nil=>intro _; rfl
 | cons d r ihr=>
  intro h
  simp only [C0.alls,C0.all_eq,Bool.and_eq_true] at h
  obtain ⟨⟨h1,h2,h3⟩,h4⟩:=h
  obtain ⟨i1,i2⟩:=ih d List.mem_cons_self
  have h5:d.TypeV.all Yc=true:=by
   unfold Z9 at h1
   simp only [Bool.and_eq_true] at h1
   exact h1.1.1.1.1.1.1.2
  simp only [C0.alls,C0.all_eq,S13,Sk,← K1j d.TypeV h5,i1 h2,i2 h3,ihr (fun x hx=>ih x (List.mem_cons_of_mem _ hx)) h4]
theorem H1q (p:A1)(h:OkP p):Sn p=some ⟨U1c p,V1c p⟩:=by
 have h1:=C0.ndss_bulk p.Decls
 have h2:=D0.ndss_bulk p.Body
 have h3:C0.bulks p.Decls≤BB:=h.decls
 have h4:D0.bulks p.Body≤BB:=h.body
 have hr:P7 ⟨0,0⟩ (C0.ndss p.Decls+D0.ndss p.Body):=⟨Int.le_refl _,Int.le_refl _,by simp only; omega⟩
 unfold Sn
 rw [R1i p.Decls h.decls _ (hr.less (by omega)),ob,show (1:Int)=((1:Nat):Int) from rfl,S17 p.Body h.body 1 _ (by unfold BB at *; omega) (P7.x hr),ob,Uy]
 unfold szX U1c V1c
 simp only
 rw [show (0:Int)+((C0.ndss p.Decls+D0.ndss p.Body:Nat):Int)=((C0.ndss p.Decls+D0.ndss p.Body:Nat):Int) by omega,show max (0:Int) ((max (C0.dpss p.Decls) (D0.dpss p.Body 1):Nat):Int)=((max (C0.dpss p.Decls) (D0.dpss p.Body 1):Nat):Int) by omega]
theorem C1u (a b:Bool):(bif a then (bif a then b else default) else false)=(a&&b):=by cases a <;> rfl
theorem F1o (p:A1)(h:OkP p):Un p=some (W1c p):=by
 unfold Un
 simp only [H1q p h,H1g _ h.decls,G14 _ h.body,H1e _ h.decls,T11 _ h.body,O1a _ h.decls,Rx _ h.body,ifd,ob,M1j,C1u]
 unfold W1c
 cases hf:C0.alls Z9 p.Decls with
 | false=>unfold Cs; rfl
 | true=>rw [E1o p.Decls hf]
theorem C1t {p:A1}(h:p.bulk≤4200000):OkP p:=by
 cases p
 simp only [A1.bulk] at h
 exact ⟨by unfold OkD BB; simp only; omega,by unfold OkS BB; simp only; omega⟩
end Go.Proofs.YtmnhfbekncjnfaaGreatDoor

set_option linter.unusedSimpArgs false
set_option linter.unusedVariables false
namespace Go.Proofs.YtmnhfbekncjnfaaGreatDoor
open Go.Am
theorem G1o {α:Type}(s u:List α)(hs:s.length≤BB)(hl:s.length=u.length)(p:α→α→Bool)(F:Int→Option Bool)(K:Option Bool)
  (hF:∀ (k:Nat) x y,x∈s→idx s k=some x→idx u k=some y→decide ((k:Int) < (s.length:Int))=true→F k=if p x y=true then F (IntKind.i64.wrap ((k:Int)+1)) else some false)
  (hK:∀ k:Nat,decide ((k:Int) < (s.length:Int))=false→F k=K) :
  ∀ (r:List α) (k:Nat),s.drop k=r→F (k:Int)=if eqL p r (u.drop k)=true then K else some false
 | [],k,h=>by
  rw [hK k (J2 h).1,List.drop_eq_nil_of_le (by have:=(J2 h).2; omega)]; rfl
 | x::r,k,h=>by
  obtain ⟨e1,e2,e3,e4,e5⟩:=I3 h
  obtain ⟨y,f1,f2,f3⟩:=P13 (l:=u) (k:=k) (by omega)
  rw [hF k x y e5 e2 f1 e1,w1 (by omega),G1o s u hs hl p F K hF hK r (k+1) e3,f2,eqL]
  cases p x y <;> simp
theorem F18 {α:Type}(s u:List α)(hs:s.length≤BB)(hl:s.length=u.length)(p:α→α→Bool)(F:Int→Option Bool)(K:Option Bool)
  (hF:∀ (k:Nat) x y,x∈s→idx s k=some x→idx u k=some y→decide ((k:Int) < (s.length:Int))=true→F k=if p x y=true then F (IntKind.i64.wrap ((k:Int)+1)) else some false)
  (hK:∀ k:Nat,decide ((k:Int) < (s.length:Int))=false→F k=K):F 0=if eqL p s u=true then K else some false:=
 G1o s u hs hl p F K hF hK s 0 rfl
theorem D1t (b:Bool):(if b=true then some true else some false:Option Bool)=some b:=by cases b <;> rfl
mutual
def D0.same:D0→D0→Bool
 | .mk v pl va nm ar n lo hi ns th el,t=>(v == t.Verb&&nm == t.Name&&n == t.NV&&lo == t.Low&&hi == t.High)&&eqL (fun x y=>x == y) ns t.Numbers&&pl.same t.Place&&va.same t.Value&&eqL A0.same ar t.Args&&D0.sames th t.Then&&D0.sames el t.Else
def D0.sames:List D0→List D0→Bool
 | [],[]=>true
 | x::r,y::s=>D0.same x y&&D0.sames r s
 | [],_::_=>false
 | _::_,[]=>false
end
theorem D0.sames_eq:∀ l m:List D0,D0.sames l m=eqL D0.same l m
 | [],[]=>rfl
 | x::r,y::s=>by simp only [D0.sames,eqL,D0.sames_eq r s]
 | [],_::_=>rfl
 | _::_,[]=>rfl
def stA (s t:D0):Bool:=s.Verb == t.Verb&&s.Name == t.Name&&s.NV == t.NV&&s.Low == t.Low&&s.High == t.High
theorem D0.same_eq (s t:D0):s.same t=(stA s t&&eqL (fun x y=>x == y) s.Numbers t.Numbers&&s.Place.same t.Place&&s.Value.same t.Value&&eqL A0.same s.Args t.Args&&D0.sames s.Then t.Then&&D0.sames s.Else t.Else):=by
 cases s; rfl
theorem nbo (a b:Bool):(bif !a then true else !b) = !(a&&b):=by cases a <;> rfl
theorem V1r (a b:Bool):(bif a then b else false)=(a&&b):=by cases a <;> rfl
theorem I1q {α:Type}[Inhabited α](c:Bool)(X:Option α){a:α}(h:X=some a):(if c=true then X else some default)=some (bif c then a else default):=by subst h; cases c <;> rfl
theorem A1v {α β:Type}(l:List α)(m:List β):((l.length:Int) == (m.length:Int))=(l.length == m.length):=by
 by_cases h:l.length=m.length
 ·simp [h]
 ·rw [beq_eq_false_iff_ne.mpr h,beq_eq_false_iff_ne.mpr (by omega)]
theorem K19 (l:List D0):OkS l→∀ m,M7 l m=some (D0.sames l m):=by
 induction l using D0.inds with
 | h l ih=>
 intro hl m
 rw [M7,D0.sames_eq]
 by_cases hh:l.length=m.length
 ·rw [if_neg (by simp; omega),F18 l m hl.len hh D0.same (Wa l m) (some true)
   (fun k x y hx h1 h2 h3=>by
    have ho:=hl.mem hx
    obtain ⟨i1,i2⟩:=ih x hx
    rw [Wa,h3,if_pos rfl,h1,ob,h2,ob]
    simp only [bne,nbo,D0.same_eq,A1v]
    unfold stA
    generalize (x.Verb == y.Verb&&x.Name == y.Name&&x.NV == y.NV&&x.Low == y.Low&&x.High == y.High)=A
    cases A with
    | false=>simp
    | true=>
    by_cases g1:x.Args.length=y.Args.length
    ·by_cases g2:x.Numbers.length=y.Numbers.length
     ·rw [beq_iff_eq.mpr g1,beq_iff_eq.mpr g2,if_neg (by simp),
       F18 x.Args y.Args ho.args g1 A0.same (Xa l m x y k) (F8 l m x y k 0)
        (fun j a b ha q1 q2 q3=>by rw [Xa,q3,if_pos rfl,q1,ob,q2,ob,Cq a (ho.arg a ha),ob]; cases a.same b <;> simp)
        (fun j h=>by rw [Xa,h,if_neg (by simp)]),
       F18 x.Numbers y.Numbers ho.nums g2 (fun x y=>x == y) (F8 l m x y k) _
        (fun j a b ha q1 q2 q3=>by rw [F8,q3,if_pos rfl,q1,ob,q2,ob]; unfold bne; cases a == b <;> simp)
        (fun j h=>by rw [F8,h,if_neg (by simp)])]
      simp only [nbo,Cq _ ho.place,Cq _ ho.value,i1 ho.thens,i2 ho.elses,I1q _ _ rfl,ob]
      generalize eqL (fun x y=>x == y) x.Numbers y.Numbers=b
      generalize x.Place.same y.Place=c
      generalize x.Value.same y.Value=d
      generalize eqL A0.same x.Args y.Args=e
      generalize D0.sames x.Then y.Then=f
      generalize D0.sames x.Else y.Else=g
      cases b <;> cases c <;> cases d <;> cases e <;> cases f <;> cases g <;> rfl
     ·rw [Nj _ g2,beq_eq_false_iff_ne.mpr g2]; simp
    ·rw [Nj _ g1,beq_eq_false_iff_ne.mpr g1]; simp)
   (fun k h=>by rw [Wa,h,if_neg (by simp)]),D1t]
 ·rw [if_pos (by simp; omega),Nj _ hh]
mutual
def C0.same:C0→C0→Bool
 | .mk k nm t i v ps vs bd,e=>(k == e.Kind&&nm == e.Name&&i == e.Init)&&t.same e.TypeV&&v.same e.Value&&C0.sames ps e.Params&&C0.sames vs e.Vars&&D0.sames bd e.Body
def C0.sames:List C0→List C0→Bool
 | [],[]=>true
 | x::r,y::s=>C0.same x y&&C0.sames r s
 | [],_::_=>false
 | _::_,[]=>false
end
theorem C0.sames_eq:∀ l m:List C0,C0.sames l m=eqL C0.same l m
 | [],[]=>rfl
 | x::r,y::s=>by simp only [C0.sames,eqL,C0.sames_eq r s]
 | [],_::_=>rfl
 | _::_,[]=>rfl
theorem C0.same_eq (s t:C0):s.same t=((s.Kind == t.Kind&&s.Name == t.Name&&s.Init == t.Init)&&s.TypeV.same t.TypeV&&s.Value.same t.Value&&C0.sames s.Params t.Params&&C0.sames s.Vars t.Vars&&D0.sames s.Body t.Body):=by
 cases s; rfl
theorem N1j (l:List C0):OkD l→∀ m,J9 l m=some (C0.sames l m):=by
 induction l using C0.inds with
 | h l ih=>
 intro hl m
 rw [J9,C0.sames_eq]
 by_cases hh:l.length=m.length
 ·rw [if_neg (by simp; omega),F18 l m hl.len hh C0.same (Ya l m) (some true)
   (fun k x y hx h1 h2 h3=>by
    have ho:=hl.mem hx
    obtain ⟨i1,i2⟩:=ih x hx
    rw [Ya,h3,if_pos rfl,h1,ob,h2,ob]
    simp only [bne,nbo,V1r,L1f _ ho.type,Cq _ ho.value,i1 ho.params,i2 ho.vars,K19 _ ho.body,I1q _ _ rfl,ob,C0.same_eq]
    generalize (x.Kind == y.Kind&&x.Name == y.Name&&x.Init == y.Init)=A
    generalize x.TypeV.same y.TypeV=c
    generalize x.Value.same y.Value=d
    generalize C0.sames x.Params y.Params=e
    generalize C0.sames x.Vars y.Vars=f
    generalize D0.sames x.Body y.Body=g
    cases A <;> cases c <;> cases d <;> cases e <;> cases f <;> cases g <;> rfl)
   (fun k h=>by rw [Ya,h,if_neg (by simp)]),D1t]
 ·rw [if_pos (by simp; omega),Nj _ hh]
theorem X1c (l:List D0):D0.sames l l=true:=by
 induction l using D0.inds with
 | h l ih=>
 rw [D0.sames_eq]
 refine Om l fun x hx=>?_
 obtain ⟨i1,i2⟩:=ih x hx
 rw [D0.same_eq,i1,i2,Zv,Zv,Om x.Args (fun a _=>Zv a),Om x.Numbers (fun a _=>by simp)]
 simp [stA]
theorem V1l (l:List C0):C0.sames l l=true:=by
 induction l using C0.inds with
 | h l ih=>
 rw [C0.sames_eq]
 refine Om l fun x hx=>?_
 obtain ⟨i1,i2⟩:=ih x hx
 rw [C0.same_eq,i1,i2,Zv,T1n,X1c]
 simp
def M1g (p q:A1):Bool:=C0.sames p.Decls q.Decls&&D0.sames p.Body q.Body
theorem J1q (p q:A1)(h:OkP p):Wn p q=some (M1g p q):=by
 unfold Wn
 simp only [N1j _ h.decls,K19 _ h.body,I1q _ _ rfl,ob,M1g]
 cases C0.sames p.Decls q.Decls <;> rfl
end Go.Proofs.YtmnhfbekncjnfaaGreatDoor

namespace Go.Proofs.YtmnhfbekncjnfaaGreatDoor
open Go.Am
def skp:Bool→List UInt8→Nat
 | _,[]=>0
 | false,c::r=>if (c.toNat:Int) == 35 then skp true r+1 else if (c.toNat:Int) == 32||((c.toNat:Int) == 9||(c.toNat:Int) == 10) then skp false r+1 else 0
 | true,c::r=>if (c.toNat:Int) == 10 then skp false r+1 else skp true r+1
theorem T17:∀ (b:Bool) (r:List UInt8),skp b r≤r.length
 | true,[]=>Nat.le_refl _
 | false,[]=>Nat.le_refl _
 | false,c::r=>by
  have h1:=T17 true r
  have h2:=T17 false r
  simp only [skp,List.length_cons]
  split
  ·omega
  ·split <;> omega
 | true,c::r=>by
  have h1:=T17 true r
  have h2:=T17 false r
  simp only [skp,List.length_cons]
  split <;> omega
theorem R1f (s:Str)(hs:s.length≤BB):∀ (r:Str) (k:Nat),s.drop k=r→R6 s k=some ((k+skp false r:Nat):Int)∧Vb s k=some ((k+skp true r:Nat):Int)
 | [],k,h=>by
  have h1:R6 s k=some ((k+skp false []:Nat):Int):=by rw [R6,(J2 h).1]; simp [skp]
  refine ⟨h1,?_⟩
  rw [Vb,(J2 h).1]
  simpa [ob,skp] using h1
 | c::r,k,h=>by
  obtain ⟨h1,h2,h3,h4,_⟩:=I3 h
  obtain ⟨i1,i2⟩:=R1f s hs r (k+1) h3
  have e2:((c.toNat:Int) == 10)=false→Vb s k=some ((k+skp true (c::r):Nat):Int):=fun hc=>by
   rw [Vb,h1,if_pos rfl,h2,ob]
   have:((c.toNat:Int) != 10)=true:=by simp only [bne,hc]; rfl
   rw [this,cond_true,if_pos rfl,w1 (by omega),i2]
   simp only [skp,hc]
   simp; omega
  have e1:R6 s k=some ((k+skp false (c::r):Nat):Int):=by
   rw [R6,h1,if_pos rfl,h2]
   simp only [ob]
   cases h35:(c.toNat:Int) == 35 with
   | true=>
    rw [if_pos rfl,e2 (by have:=eq_of_beq h35; rw [this]; rfl)]
    simp only [skp,h35,if_true]
    have:((c.toNat:Int) == 10)=false:=by have:=eq_of_beq h35; rw [this]; rfl
    simp [this]
   | false=>
    rw [if_neg (by simp)]
    simp only [w1 (show k≤BB by omega),i1,skp,h35]
    by_cases h32:(c.toNat:Int)=32 <;> by_cases h9:(c.toNat:Int)=9 <;> by_cases h10:(c.toNat:Int)=10 <;> simp [ob,h32,h9,h10] <;> omega
  refine ⟨e1,?_⟩
  cases h10:(c.toNat:Int) == 10 with
  | false=>exact e2 h10
  | true=>
   rw [Vb,h1,if_pos rfl,h2,ob]
   have:((c.toNat:Int) != 10)=false:=by simp only [bne,h10]; rfl
   rw [this,cond_true,if_neg (by simp),e1]
   have h35:((c.toNat:Int) == 35)=false:=by have:=eq_of_beq h10; rw [this]; rfl
   simp [skp,h10,h35]
theorem K1q (s:Str)(hs:s.length≤BB)(k:Nat):Dl s k=some ((k+skp false (s.drop k):Nat):Int):=(R1f s hs _ k rfl).1
theorem W1r {s:List UInt8}(hne:s≠[])(hall:s.all ld=true):Rz s=Qu s:=by
 unfold Rz Qu
 rw [B1i hall]
 have hz:((s.length:Int) == 0)=false:=beq_eq_false_iff_ne.2 (by have:=List.length_pos_iff.2 hne; omega)
 have hn:(s == [])=false:=by cases s with
  | nil=>exact absurd rfl hne
  | cons _ _=>rfl
 rw [hz,hn]
 cases hk:Lib.contains kw ([32]++s++[32]) with
 | false=>simp
 | true=>rw [B1k hall hk]; rfl
theorem T1i (s:Str)(hs:s.length≤BB):∀ (r:Str) (k:Nat),s.drop k=r→W8 s k=some ((k+F6 r:Nat):Int)
 | [],k,h=>by rw [W8,(J2 h).1]; simp [F6,ob]
 | c::r,k,h=>by
  obtain ⟨h1,h2,h3,h4,_⟩:=I3 h
  have ih:=T1i s hs r (k+1) h3
  rw [W8,h1,if_pos rfl,h2,ob,if_pos rfl,Sz,ob,w1 (by omega),ih]
  simp only [F6,ld]
  cases hl:Ae c.toNat <;> cases hd:Nc c.toNat <;> simp [Wv,hd,ob] <;> omega
theorem S1f:∀ r:List UInt8,(r.take (F6 r)).all ld=true
 | []=>rfl
 | c::r=>by
  simp only [F6]
  cases h:ld c with
  | false=>rfl
  | true=>simp only [cond_true,List.take_succ_cons,List.all_cons,h,S1f r]; rfl
def nv (n:Nat)(l:List UInt8):Nat:=l.foldl (fun n c=>10 * n+(c.toNat - 48)) n
theorem U11 (n:Nat):nv n []=n:=rfl
theorem Es (n:Nat)(c:UInt8)(r:List UInt8):nv n (c::r)=nv (10 * n+(c.toNat - 48)) r:=by unfold nv; rw [List.foldl_cons]
theorem X1q (r:List UInt8):∀ n:Nat,n≤nv n r:=by
 induction r with
 | nil=>intro n; rw [U11]; exact Nat.le_refl _
 | cons c r ih=>intro n; rw [Es]; have:=ih (10 * n+(c.toNat - 48)); omega
def I1e (n:Nat):Int:=if n > 1048576 then 3 else 0
theorem P1a {n:Nat}(h:n > 1048576):I1e n=3:=if_pos h
theorem F1k {n:Nat}(h:n≤1048576):I1e n=0:=if_neg (by omega)
def Vy (w:List UInt8):Bool:=decide ((w.length:Int) > 1)&&((w.getD 0 0).toNat:Int) == 48
def Uz (w:List UInt8):Int:=if w.all (fun c=>Nc c.toNat) && !Vy w then I1e (nv 0 w) else 6
theorem Jo {n:Nat}:Nc n=true ↔ 48≤n∧n≤57:=by
 unfold Nc
 by_cases h:48≤n
 ·rw [show decide ((n:Int)≥48)=true from decide_eq_true (by omega),cond_true,decide_eq_true_iff]; omega
 ·rw [show decide ((n:Int)≥48)=false from decide_eq_false (by omega),cond_false]; simp; omega
theorem L1q {c:UInt8}(h:Nc c.toNat=true):IntKind.i64.wrap (IntKind.u8.wrap ((c.toNat:Int) - 48))=((c.toNat - 48:Nat):Int):=by
 have:=Jo.1 h
 rw [C1r (by omega) (by omega),wr (by omega) (by omega)]; omega
theorem T1f (s:Str)(n v7:Int):I5 s n v7=if (decide (v7 < ((s).length:Int)))=true then
  idx s v7>>=fun x1=>
  M9 (x1.toNat:Int)>>=fun x2=>
  if (!x2)=true then
   some 6
  else
   idx s v7>>=fun x3=>
   I5 s (min (IntKind.i64.wrap ((IntKind.i64.wrap (10 * n))+(IntKind.i64.wrap (IntKind.u8.wrap ((x3.toNat:Int) - 48))))) 1048577) (IntKind.i64.wrap (v7+1))
 else
  idx s 0>>=fun x4=>
  if (bif ((x4.toNat:Int) == 48) then (decide (((s).length:Int) > 1)) else false)=true then
   some 6
  else
   if (decide (n > 1048576))=true then
    some 3
   else
    some 0:=I5.eq_1 s n v7
theorem W1l (s:Str)(hs:s.length≤BB)(hne:s≠[]):∀ (r:Str) (k m:Nat) (n:Int),s.drop k=r→(m≤1048576→n=m)→(m > 1048576→n=1048577)→
  I5 s n k=some (if r.all (fun c=>Nc c.toNat) && !Vy s then I1e (nv m r) else 6):=by
 intro r
 induction r with
 | nil=>
  intro k m n h hn hn'
  refine (T1f s n k).trans ?_
  rw [(J2 h).1,if_neg (by simp)]
  have h0:idx s 0=some (s.getD 0 0):=getD_some (List.length_pos_iff.2 hne)
  rw [h0,ob]
  have hb:(bif (((s.getD 0 0).toNat:Int) == 48) then decide ((s.length:Int) > 1) else false)=Vy s:=by
   unfold Vy
   cases ((s.getD 0 0).toNat:Int) == 48 <;> simp
  rw [hb]
  rw [U11,List.all_nil,Bool.true_and]
  rcases Bool.eq_false_or_eq_true (Vy s) with hz | hz
  ·rw [hz,if_pos rfl,Bool.not_true,if_neg (by simp)]
  ·rw [hz,if_neg (by simp),Bool.not_false,if_pos rfl]
   rcases Nat.lt_or_ge 1048576 m with hm | hm
   ·rw [P1a hm,if_pos (decide_eq_true (by have:=hn' hm; omega))]
   ·rw [F1k hm,if_neg (by have:=hn hm; simp; omega)]
 | cons c r ihr=>
  intro k m n h hn hn'
  obtain ⟨h1,h2,h3,h4,_⟩:=I3 h
  refine (T1f s n k).trans ?_
  rw [h1,if_pos rfl,h2,ob,Wv,ob]
  cases hd:Nc c.toNat with
  | false=>simp [hd]
  | true=>
   have hc:=Jo.1 hd
   have hnn:0≤n∧n≤1048577:=by
    by_cases hm:m > 1048576
    ·have:=hn' hm; omega
    ·have:=hn (Nat.le_of_not_lt hm); omega
   have e:IntKind.i64.wrap (IntKind.i64.wrap (10 * n)+IntKind.i64.wrap (IntKind.u8.wrap ((c.toNat:Int) - 48)))=10 * n+((c.toNat - 48:Nat):Int):=by
    rw [L1q hd,wr (n:=10 * _) (by omega) (by omega),wr (by omega) (by omega)]
   have ih:=ihr (k+1) (10 * m+(c.toNat - 48)) (min (10 * n+((c.toNat - 48:Nat):Int)) 1048577) h3 (fun hm=>by have:=hn (by omega); omega) (fun hm=>by
    by_cases hm2:m > 1048576
    ·have:=hn' hm2; omega
    ·have:=hn (Nat.le_of_not_lt hm2); omega)
   simp only [Bool.not_true,Bool.false_eq_true,if_false,ob,e,w1 (show k≤BB by omega)]
   rw [ih,List.all_cons,hd,Bool.true_and]
   rw [Es]
theorem X1l (s:Str)(hs:s.length≤BB)(hne:s≠[]):Qi s=some (Uz s):=W1l s hs hne s 0 0 0 rfl (fun _=>rfl) (fun h=>by omega)
theorem U1f (s:Str)(hs:s.length≤BB):∀ (r:Str) (k m:Nat),s.drop k=r→m≤1048576→r.all (fun c=>Nc c.toNat)=true→T6 s m k=some (I1e (nv m r)):=by
 intro r
 induction r with
 | nil=>intro k m h hm _; rw [T6,(J2 h).1,if_neg (by simp)]; rw [U11,F1k hm]
 | cons c r ihr=>
  intro k m h hm ha
  obtain ⟨h1,h2,h3,h4,_⟩:=I3 h
  rw [List.all_cons,Bool.and_eq_true] at ha
  have hc:=Jo.1 ha.1
  have e:IntKind.i64.wrap (IntKind.i64.wrap ((m:Int) * 10)+IntKind.i64.wrap (IntKind.u8.wrap ((c.toNat:Int) - 48)))=((10 * m+(c.toNat - 48):Nat):Int):=by
   rw [L1q ha.1,wr (n:=(m:Int) * 10) (by omega) (by omega),wr (by omega) (by omega)]; omega
  rw [T6,h1,if_pos rfl,h2,ob,e]
  rw [Es]
  by_cases hb:10 * m+(c.toNat - 48) > 1048576
  ·rw [if_pos (decide_eq_true (by omega)),P1a (by have:=X1q r (10 * m+(c.toNat - 48)); omega)]
  ·rw [if_neg (by simp; omega),w1 (by omega)]
   exact ihr (k+1) _ h3 (by omega) ha.2
theorem V1f (s:Str)(hs:s.length≤BB)(hall:(v:Int)→T6 s 0 0=some v→True):∀ (r:Str) (k:Nat),s.drop k=r→Fa s k=if r.all (fun c=>Nc c.toNat) then T6 s 0 0 else some 6
 | [],k,h=>by rw [Fa,(J2 h).1,if_neg (by simp)]; rfl
 | c::r,k,h=>by
  obtain ⟨h1,h2,h3,h4,_⟩:=I3 h
  rw [Fa,h1,if_pos rfl,h2,ob,Tz,ob]
  cases hd:Nc c.toNat with
  | false=>simp [hd]
  | true=>simp only [Bool.not_true,Bool.false_eq_true,if_false,w1 (show k≤BB by omega),V1f s hs hall r (k+1) h3,List.all_cons,hd,Bool.true_and]
theorem U1i (s:Str)(hs:s.length≤BB)(hne:s≠[]):Xl s=some (Uz s):=by
 unfold Xl Uz
 have h0:idx s 0=some (s.getD 0 0):=getD_some (List.length_pos_iff.2 hne)
 have hr:=V1f s hs (fun _ _=>trivial) s 0 rfl
 rw [h0,show (0:Int)=((0:Nat):Int) from rfl,hr]
 unfold Vy
 cases hl:decide ((s.length:Int) > 1) with
 | false=>
  simp only [Bool.false_eq_true,if_false,ob,cond_false,Bool.false_and,Bool.not_false,Bool.and_true]
  cases ha:s.all (fun c=>Nc c.toNat) with
  | false=>rfl
  | true=>exact U1f s hs s 0 0 rfl (by omega) ha
 | true=>
  simp only [if_true,ob,cond_true,Bool.true_and]
  cases hz:((s.getD 0 0).toNat:Int) == 48 with
  | true=>simp
  | false=>
   simp only [Bool.false_eq_true,if_false,Bool.not_false,Bool.and_true]
   cases ha:s.all (fun c=>Nc c.toNat) with
   | false=>rfl
   | true=>exact U1f s hs s 0 0 rfl (by omega) ha
def Q1a (s:List UInt8):Bool:=s == [46,46]||s == [61,61]||s == [33,61]||s == [60,61]||s == [62,61]||s == [38,38]||s == [124,124]
def Y1l:List UInt8:=[59,58,44,46,61,43,45,42,47,37,60,62,33,63,40,41,91,93,123,125]
def Sx (c:UInt8):Bool:=Y1l.contains c
theorem O1j (a b:UInt8):Sc [a,b]=some (Q1a [a,b]):=by
 unfold Sc U6 Q1a
 cases ([a,b] == [46,46]:Bool) <;> cases ([a,b] == [61,61]:Bool) <;> cases ([a,b] == [33,61]:Bool) <;> cases ([a,b] == [60,61]:Bool) <;> cases ([a,b] == [62,61]:Bool) <;> cases ([a,b] == [38,38]:Bool) <;> cases ([a,b] == [124,124]:Bool) <;> simp
set_option maxRecDepth 100000 in
theorem P1j:∀ a:UInt8,Sc [a]=some (Sx a):=by
 have:∀ n:Fin 256,Sc [UInt8.ofNat n.val]=some (Sx (UInt8.ofNat n.val)):=by decide
 intro a
 have h:=this ⟨a.toNat,a.toNat_lt⟩
 simpa using h
end Go.Proofs.YtmnhfbekncjnfaaGreatDoor

namespace Go.Proofs.YtmnhfbekncjnfaaGreatDoor
open Go.Am
theorem H1o (c:UInt8):∀ l:List UInt8,0≤Lib.indexByte l c ↔ l.contains c=true
 | []=>by simp [Lib.indexByte]
 | b::l=>by
  have ih:=H1o c l
  have hg:=Lib.indexByte_ge l c
  by_cases hb:b=c
  ·subst hb
   simp [Lib.indexByte]
  ·have h1:(b == c)=false:=beq_eq_false_iff_ne.2 hb
   have h2:(c == b)=false:=beq_eq_false_iff_ne.2 fun e=>hb e.symm
   unfold Lib.indexByte
   rw [h1,List.contains_cons,h2,Bool.false_or,← ih,if_neg (by simp)]
   by_cases h:Lib.indexByte l c = -1
   ·rw [if_pos (by rw [h]; rfl),h]
   ·rw [if_neg (by simpa using h)]
    omega
theorem D1u (c:UInt8)(l:List UInt8):decide (Lib.indexByte l c≥0)=l.contains c:=by
 rw [Bool.eq_iff_iff,decide_eq_true_iff]
 exact H1o c l
theorem Ko {s r:List UInt8}{k n:Nat}(h:s.drop k=r)(hk:k≤s.length)(hn:n≤r.length):slc s (k:Int) ((k+n:Nat):Int)=some (r.take n):=by
 have hl:r.length=s.length - k:=by rw [← h,List.length_drop]
 unfold slc
 rw [if_pos ⟨by omega,by omega,by omega⟩,← h]
 simp only [Int.toNat_natCast]
 rw [List.drop_take]
 congr 2
 congr 1
 omega
theorem Y1c (c:UInt8)(r:Str):Gd (c::r)=some (if Sx c then [c] else []):=by
 unfold Gd
 have h0:idx (c::r) 0=some c:=rfl
 rw [h0,ob]
 have hb:=D1u c Y1l
 unfold Ms
 rw [ob]
 have e:((c.toNat:Int).toNat.toUInt8)=c:=by simp
 rw [e]
 unfold Y1l at hb
 rw [hb]
 unfold Sx Y1l
 have h1:slc (c::r) 0 1=some [c]:=by
  have:=Ko (s:=c::r) (k:=0) (n:=1) rfl (by omega) (by simp)
  simpa using this
 rw [h1]
 split <;> rfl
theorem M1q (c:UInt8):Qf [c]=some (if Sx c then [c] else []):=by
 unfold Qf
 rw [if_neg (by simp)]
 exact Y1c c []
theorem N1q (a b:UInt8)(r:Str):Qf (a::b::r)=some (if Q1a [a,b] then [a,b] else if Sx a then [a] else []):=by
 unfold Qf
 have h2:slc (a::b::r) 0 2=some [a,b]:=by
  have:=Ko (s:=a::b::r) (k:=0) (n:=2) rfl (by omega) (by simp)
  simpa using this
 rw [if_pos (decide_eq_true (by simp only [List.length_cons]; omega)),h2,ob]
 unfold O6 Q1a
 rw [h2,Y1c]
 cases ([a,b] == [46,46]:Bool) <;> cases ([a,b] == [61,61]:Bool) <;> cases ([a,b] == [33,61]:Bool) <;> cases ([a,b] == [60,61]:Bool) <;> cases ([a,b] == [62,61]:Bool) <;> cases ([a,b] == [38,38]:Bool) <;> cases ([a,b] == [124,124]:Bool) <;> simp [ob]
def nxt (r:List UInt8)(k:Int):K0×Int:=
 if Ae (r.getD 0 0).toNat then
  if Qu (r.take (F6 r)) then (K0.mk 2 (r.take (F6 r)) k,0)
  else if decide (((r.take (F6 r)).length:Int) > 12) then (K0.mk 0 (r.take (F6 r)) k,7)
  else (K0.mk 0 (r.take (F6 r)) k,0)
 else if Nc (r.getD 0 0).toNat then (K0.mk 1 (r.take (F6 r)) k,Uz (r.take (F6 r)))
 else if decide (2≤r.length)&&Q1a (r.take 2) then (K0.mk 3 (r.take 2) k,0)
 else if Sx (r.getD 0 0) then (K0.mk 3 [r.getD 0 0] k,0)
 else (K0.mk 3 [] k,6)
theorem T13 {c:UInt8}{t:List UInt8}(h:ld c=true):1≤F6 (c::t):=by simp [F6,h]
theorem X1r (s:Str)(hs8:s.length≤8192){c:UInt8}{t:Str}{k:Nat}(h:s.drop k=c::t):Mh s k=some (nxt (c::t) k):=by
 have hs:s.length≤BB:=by unfold BB; omega
 obtain ⟨h1,h2,h3,h4,_⟩:=I3 h
 have hle:=Q11 (c::t)
 have hlen:(c::t).length=s.length - k:=by rw [← h,List.length_drop]
 have hrun:Tl s k=some ((k+F6 (c::t):Nat):Int):=T1i s hs _ k h
 have hslc:=Ko h (by omega) hle
 have ht8:((c::t).take (F6 (c::t))).length≤8192:=by rw [List.length_take]; omega
 have htl:((c::t).take (F6 (c::t))).length≤BB:=by unfold BB; omega
 unfold Mh nxt
 rw [h2,ob,Sz,ob,hrun]
 simp only [List.getD_cons_zero]
 cases hl:Ae c.toNat with
 | true=>
  simp only [if_true,ob,hslc]
  rw [show Q9 ((c::t).take (F6 (c::t)))=some (Qu ((c::t).take (F6 (c::t)))) from I19 _ (by omega),ob]
  cases Qu ((c::t).take (F6 (c::t))) with
  | true=>rfl
  | false=>
   cases decide ((((c::t).take (F6 (c::t))).length:Int) > 12) <;> rfl
 | false=>
  simp only [Bool.false_eq_true,if_false,Wv,ob]
  cases hd:Nc c.toNat with
  | true=>
   simp only [if_true,ob,hslc]
   have hld:ld c=true:=by unfold ld; rw [hl,hd]; rfl
   have hp:=T13 (t:=t) hld
   rw [X1l _ htl (by intro he; have:=congrArg List.length he; rw [List.length_take] at this; simp at this; omega)]
   rfl
  | false=>
   simp only [Bool.false_eq_true,if_false]
   have hsl:slc s (k:Int) ((s.length:Nat):Int)=some (c::t):=by
    have:=Ko (n:=(c::t).length) h (by omega) (Nat.le_refl _)
    rw [List.take_length] at this
    rw [← this,hlen]
    congr 1; omega
   rw [hsl,ob]
   cases t with
   | nil=>
    rw [M1q,ob]
    cases Sx c <;> rfl
   | cons b t=>
    rw [N1q,ob]
    cases hz:Q1a [c,b] with
    | true=>simp [hz]
    | false=>cases hy:Sx c <;> simp [hz,hy]
def V1i (x:K0×Int):K0×Int:=if x.2=0 then x else (K0.mk 0 [] 0,x.2)
theorem Z1l (w:List UInt8):Uz w=0∨Uz w=3∨Uz w=6:=by
 unfold Uz I1e
 split
 ·split <;> simp
 ·simp
theorem O1q (s:Str)(hs8:s.length≤8192){c:UInt8}{t:Str}{k:Nat}(h:s.drop k=c::t):On s k=some (V1i (nxt (c::t) k)):=by
 have hs:s.length≤BB:=by unfold BB; omega
 obtain ⟨h1,h2,h3,h4,_⟩:=I3 h
 have hle:=Q11 (c::t)
 have hlen:(c::t).length=s.length - k:=by rw [← h,List.length_drop]
 have hrun:Wl s k=some ((k+F6 (c::t):Nat):Int):=D1e s hs _ k h
 have hslc:=Ko h (by omega) hle
 have ht8:((c::t).take (F6 (c::t))).length≤8192:=by rw [List.length_take]; omega
 have htl:((c::t).take (F6 (c::t))).length≤BB:=by unfold BB; omega
 have hne:ld c=true→(c::t).take (F6 (c::t))≠[]:=fun hld he=>by
  have hp:=T13 (t:=t) hld
  have:=congrArg List.length he
  rw [List.length_take] at this
  simp at this
  omega
 unfold On nxt
 rw [hrun,ob,h2,ob,Aq,ob]
 simp only [List.getD_cons_zero]
 cases hl:Ae c.toNat with
 | true=>
  have hld:ld c=true:=by unfold ld; rw [hl]; rfl
  simp only [if_true,ob,hslc]
  rw [R11 _ (by omega),W1r (hne hld) (S1f _),ob]
  cases Qu ((c::t).take (F6 (c::t))) with
  | true=>rfl
  | false=>cases decide ((((c::t).take (F6 (c::t))).length:Int) > 12) <;> rfl
 | false=>
  simp only [Bool.false_eq_true,if_false,Tz,ob]
  cases hd:Nc c.toNat with
  | true=>
   have hld:ld c=true:=by unfold ld; rw [hl,hd]; rfl
   simp only [if_true,ob,hslc]
   rw [U1i _ htl (hne hld),ob]
   unfold V1i
   rcases Z1l ((c::t).take (F6 (c::t))) with hn | hn | hn <;> rw [hn] <;> rfl
  | false=>
   simp only [Bool.false_eq_true,if_false]
   rw [wr (n:=(k:Int)+2) (by omega) (by omega),wr (n:=(k:Int)+1) (by omega) (by omega)]
   have hs1:slc s (k:Int) ((k:Int)+1)=some [c]:=by
    have:=Ko (n:=1) h (by omega) (by simp)
    simpa using this
   have fin:(slc s (k:Int) ((k:Int)+1)>>=fun x14=>Sc x14>>=fun x15=>if x15=true then slc s (k:Int) ((k:Int)+1)>>=fun x16=>some ((K0.mk 3 x16 (k:Int)),(0:Int)) else some ((K0.mk 0 [] 0),6))=some (V1i (if Sx c then (K0.mk 3 [c] (k:Int),0) else (K0.mk 3 [] (k:Int),6))):=by
    rw [hs1,ob,P1j,ob]
    cases Sx c <;> rfl
   cases t with
   | nil=>
    simp only [List.length_cons,List.length_nil] at hlen
    have:decide ((k:Int)+2≤(s.length:Int))=false:=decide_eq_false (by omega)
    rw [this]
    simp only [Bool.false_eq_true,if_false,ob,cond_false]
    exact fin
   | cons b t=>
    simp only [List.length_cons] at hlen
    have:decide ((k:Int)+2≤(s.length:Int))=true:=decide_eq_true (by omega)
    have hs2:slc s (k:Int) ((k:Int)+2)=some [c,b]:=by
     have:=Ko (n:=2) h (by omega) (by simp)
     simpa using this
    rw [this]
    simp only [if_true,hs2,ob,O1j,cond_true]
    cases hz:Q1a [c,b] with
    | true=>simp [V1i,hz]
    | false=>
     simp only [Bool.false_eq_true,if_false]
     rw [fin]
     simp [hz]
def Lo:Nat→List UInt8→Nat→List K0×Int×Int
 | 0,_,_=>([],0,0)
 | n+1,r,k=>
  match r.drop (skp false r) with
  | []=>([],0,0)
  | c::t=>
   let x:=nxt (c::t) ((k+skp false r:Nat):Int)
   if x.2=0 then
    let z:=Lo n ((c::t).drop x.1.Text.length) (k+skp false r+x.1.Text.length)
    if z.2.2=0 then (x.1::z.1,0,0) else z
   else ([],((k+skp false r:Nat):Int),x.2)
theorem R1a {c:UInt8}{t:List UInt8}{k:Int}(h:(nxt (c::t) k).2=0):1≤(nxt (c::t) k).1.Text.length∧(nxt (c::t) k).1.Text.length≤(c::t).length∧(nxt (c::t) k).1.At=k∧(c::t).take (nxt (c::t) k).1.Text.length=(nxt (c::t) k).1.Text:=by
 have hle:=Q11 (c::t)
 have key:∀ {n:Nat},1≤n→n≤(c::t).length→1≤((c::t).take n).length∧((c::t).take n).length≤(c::t).length∧(c::t).take ((c::t).take n).length=(c::t).take n:=fun h1 h2=>by
  rw [List.length_take,Nat.min_eq_left h2]; exact ⟨h1,h2,rfl⟩
 revert h
 unfold nxt
 simp only [List.getD_cons_zero]
 cases hl:Ae c.toNat with
 | true=>
  have hld:ld c=true:=by unfold ld; rw [hl]; rfl
  obtain ⟨a1,a2,a3⟩:=key (T13 (t:=t) hld) hle
  simp only [if_true]
  split
  ·exact fun _=>⟨a1,a2,rfl,a3⟩
  ·split
   ·intro h; cases h
   ·exact fun _=>⟨a1,a2,rfl,a3⟩
 | false=>
  simp only [Bool.false_eq_true,if_false]
  cases hd:Nc c.toNat with
  | true=>
   have hld:ld c=true:=by unfold ld; rw [hl,hd]; rfl
   obtain ⟨a1,a2,a3⟩:=key (T13 (t:=t) hld) hle
   exact fun _=>⟨a1,a2,rfl,a3⟩
  | false=>
   simp only [Bool.false_eq_true,if_false]
   split
   ·rename_i h2
    rw [Bool.and_eq_true] at h2
    obtain ⟨a1,a2,a3⟩:=key (n:=2) (by omega) (of_decide_eq_true h2.1)
    exact fun _=>⟨a1,a2,rfl,a3⟩
   ·split
    ·exact fun _=>⟨by simp,by simp,rfl,by simp⟩
    ·intro h; cases h
def Wy (s:Str)(out:List K0)(k:Nat):Option (List K0×Int×Int):=
 if k < s.length then
  Mh s k>>=fun x2=>
  if (x2.2 != 0)=true then some ([],(k:Int),x2.2)
  else if (decide ((out.length+1) * 33≤140737488355328))=true then F4 s (out++[x2.1]) (IntKind.i64.wrap ((k:Int)+((x2.1.Text).length:Int)))
  else none
 else some (out,0,0)
theorem I1o (s:Str)(hs:s.length≤BB)(out:List K0):∀ (r:Str) (k:Nat),s.drop k=r→F4 s out k=Wy s out (k+skp false r)∧Ab s out k=Wy s out (k+skp true r)
 | [],k,h=>by
  obtain ⟨h1,h2⟩:=J2 h
  have e1:F4 s out k=Wy s out (k+skp false []):=by
   rw [F4,h1,if_neg (by simp)]
   unfold Wy
   rw [if_neg (by simp [skp]; omega)]
  refine ⟨e1,?_⟩
  rw [Ab,h1]
  simpa [ob,skp] using e1
 | c::r,k,h=>by
  obtain ⟨h1,h2,h3,h4,_⟩:=I3 h
  obtain ⟨i1,i2⟩:=I1o s hs out r (k+1) h3
  have e2:((c.toNat:Int) == 10)=false→Ab s out k=Wy s out (k+skp true (c::r)):=fun hc=>by
   rw [Ab,h1,if_pos rfl,h2,ob]
   have:((c.toNat:Int) != 10)=true:=by simp only [bne,hc]; rfl
   rw [this,cond_true,if_pos rfl,w1 (by omega),i2]
   simp only [skp,hc]
   congr 1
   simp; omega
  have e1:F4 s out k=Wy s out (k+skp false (c::r)):=by
   have hj:F4 s out k=Ie s out k c ((c.toNat:Int) == 32||((c.toNat:Int) == 9||(c.toNat:Int) == 10)):=by
    rw [F4,h1,if_pos rfl,h2,ob]
    cases h32:(c.toNat:Int) == 32 with
    | true=>rfl
    | false=>cases h9:(c.toNat:Int) == 9 <;> simp
   rw [hj,Ie]
   cases hb:((c.toNat:Int) == 32||((c.toNat:Int) == 9||(c.toNat:Int) == 10)) with
   | true=>
    have h35:((c.toNat:Int) == 35)=false:=by
     cases hx:(c.toNat:Int) == 35 with
     | false=>rfl
     | true=>rw [eq_of_beq hx] at hb; cases hb
    rw [if_pos rfl,w1 (by omega),i1]
    simp only [skp,h35,hb]
    congr 1
    simp; omega
   | false=>
    rw [if_neg (by simp)]
    cases h35:(c.toNat:Int) == 35 with
    | true=>
     rw [if_pos rfl,e2 (by have:=eq_of_beq h35; rw [this]; rfl)]
     have h10:((c.toNat:Int) == 10)=false:=by have:=eq_of_beq h35; rw [this]; rfl
     simp [skp,h35,h10]
    | false=>
     rw [if_neg (by simp)]
     simp only [skp,h35,hb]
     unfold Wy
     rw [if_pos (by simpa using h4)]
     rfl
  refine ⟨e1,?_⟩
  cases h10:(c.toNat:Int) == 10 with
  | false=>exact e2 h10
  | true=>
   rw [Ab,h1,if_pos rfl,h2,ob]
   have:((c.toNat:Int) != 10)=false:=by simp only [bne,h10]; rfl
   rw [this,cond_true,if_neg (by simp),e1]
   have h35:((c.toNat:Int) == 35)=false:=by have:=eq_of_beq h10; rw [this]; rfl
   simp [skp,h10,h35]
theorem Y1r:∀ (n:Nat) (r:List UInt8) (k:Nat),(Lo n r k).2.2=0→(Lo n r k).2=(0,0)
 | 0,_,_,_=>rfl
 | n+1,r,k,h=>by
  revert h
  unfold Lo
  split
  ·exact fun _=>rfl
  ·rename_i c t _
   simp only
   split
   ·split
    ·exact fun _=>rfl
    ·rename_i hz
     exact fun h=>absurd h hz
   ·rename_i hx
    exact fun h=>absurd h hx
def Fs (out:List K0)(z:List K0×Int×Int):List K0×Int×Int:=if z.2.2=0 then (out++z.1,0,0) else z
theorem G1k (s:Str)(hs8:s.length≤8192):∀ (n k:Nat) (out:List K0),s.length - k < n→k≤s.length→out.length≤k→
  F4 s out k=some (Fs out (Lo n (s.drop k) k))∧(Dl s k>>=fun a=>Pg s out a)=some (Fs out (Lo n (s.drop k) k))
 | 0,k,out,h,_,_=>by omega
 | n+1,k,out,h,hk,ho=>by
  have hs:s.length≤BB:=by unfold BB; omega
  have hb:=T17 false (s.drop k)
  rw [List.length_drop] at hb
  rw [(I1o s hs out _ k rfl).1,K1q s hs k,ob]
  generalize hj:k+skp false (s.drop k)=j at *
  have hdj:(s.drop k).drop (skp false (s.drop k))=s.drop j:=by rw [List.drop_drop,hj]
  unfold Wy
  rw [Pg]
  unfold Lo
  rw [hdj,hj]
  cases hd:s.drop j with
  | nil=>
   obtain ⟨h1,h2⟩:=J2 hd
   rw [h1,if_neg (by omega),if_neg (by simp)]
   unfold Fs
   simp
  | cons c t=>
   obtain ⟨h1,h2,h3,h4,_⟩:=I3 hd
   rw [h1,if_pos h4,if_pos rfl,X1r s hs8 hd,O1q s hs8 hd,ob,ob]
   simp only
   unfold V1i
   by_cases hx:(nxt (c::t) (j:Int)).2=0
   ·obtain ⟨b1,b2,b3,b4⟩:=R1a hx
    have hlen:(c::t).length=s.length - j:=by rw [← hd,List.length_drop]
    rw [if_pos hx,if_pos hx]
    have hne:((nxt (c::t) (j:Int)).2 != 0)=false:=by rw [hx]; rfl
    have hroom:decide ((out.length+1) * 33≤140737488355328)=true:=decide_eq_true (by omega)
    simp only [hne,hroom,Bool.false_eq_true,if_false,if_true]
    generalize hxx:nxt (c::t) (j:Int)=x at *
    rw [wr (by omega) (by omega),show (j:Int)+((x.1.Text).length:Int)=((j+x.1.Text.length:Nat):Int) from rfl]
    have hdd:(c::t).drop x.1.Text.length=s.drop (j+x.1.Text.length):=by rw [← hd,List.drop_drop]
    rw [hdd]
    obtain ⟨i1,i2⟩:=G1k s hs8 n (j+x.1.Text.length) (out++[x.1]) (by omega) (by omega) (by rw [List.length_append]; have:[x.1].length=1:=rfl; omega)
    rw [i1,i2]
    generalize Lo n (s.drop (j+x.1.Text.length)) (j+x.1.Text.length)=z
    unfold Fs
    by_cases hz:z.2.2=0
    ·rw [if_pos hz,if_pos hz,if_pos rfl,List.append_assoc]
     exact ⟨rfl,rfl⟩
    ·rw [if_neg hz,if_neg hz,if_neg hz]
     exact ⟨rfl,rfl⟩
   ·have hne:((nxt (c::t) (j:Int)).2 != 0)=true:=by simpa using hx
    have hne2:((K0.mk 0 [] 0,(nxt (c::t) (j:Int)).2):K0×Int).2=(nxt (c::t) (j:Int)).2:=rfl
    rw [if_neg hx,if_neg hx,hne,if_pos rfl]
    unfold Fs
    simp [hx]
def U17 (s:Str):List K0×Int×Int:=if s.length > 8192 then ([],0,5) else Lo (s.length+1) s 0
theorem E1t (s:Str):Qj s=some (U17 s)∧Mt s=some (U17 s):=by
 unfold Qj Mt U17
 by_cases h:s.length > 8192
 ·rw [if_pos h]; simp [h]; omega
 ·have h1:decide ((s.length:Int) > 8192)=false:=decide_eq_false (by omega)
  obtain ⟨i1,i2⟩:=G1k s (by omega) (s.length+1) 0 [] (by omega) (by omega) (by simp)
  rw [h1,if_neg (by simp),if_neg h,if_neg (by simp)]
  have hw:Fs [] (Lo (s.length+1) s 0)=Lo (s.length+1) s 0:=by
   unfold Fs
   split
   ·rename_i hz
    have:=Y1r _ _ _ hz
    rw [List.nil_append,← this]
   ·rfl
  rw [List.drop_zero,hw] at i1 i2
  exact ⟨i1,i2⟩
end Go.Proofs.YtmnhfbekncjnfaaGreatDoor

namespace Go.Proofs.YtmnhfbekncjnfaaGreatDoor
open Go.Am
abbrev mk (l:List K0)(k:Nat)(e:Int):B0:=B0.mk l (k:Int) e
theorem Gs {α:Type}(l:List α)(k:Nat):idx l (k:Int)=l[k]?:=by
 unfold idx
 rw [if_pos (by omega)]
 simp
theorem Yo {α:Type}{l:List α}{k:Nat}{x:α}(h:l[k]?=some x):k < l.length:=(List.getElem?_eq_some_iff.1 h).1
theorem H1k {α:Type}{l:List α}{k:Nat}(h:l[k]?=none):l.length≤k:=List.getElem?_eq_none_iff.1 h
theorem dlt {α:Type}{l:List α}{k:Nat}{x:α}(h:l[k]?=some x):decide ((k:Int) < (l.length:Int))=true:=by have:=Yo h; exact decide_eq_true (by omega)
theorem W1i {α:Type}{l:List α}{k:Nat}(h:l[k]?=none):decide ((k:Int) < (l.length:Int))=false:=by have:=H1k h; exact decide_eq_false (by omega)
theorem dge {α:Type}{l:List α}{k:Nat}{x:α}(h:l[k]?=some x):decide ((k:Int)≥(l.length:Int))=false:=by have:=Yo h; exact decide_eq_false (by omega)
theorem A1m {α:Type}{l:List α}{k:Nat}(h:l[k]?=none):decide ((k:Int)≥(l.length:Int))=true:=by have:=H1k h; exact decide_eq_true (by omega)
def isT (l:List K0)(k:Nat)(t:Str):Bool:=match l[k]? with
 | some x=>x.Text == t&&(x.Kind == 2||x.Kind == 3)
 | none=>false
def G6 (l:List K0)(k:Nat)(c:Int):Bool:=match l[k]? with
 | some x=>x.Kind == c
 | none=>false
def txt (l:List K0)(k:Nat):Str:=match l[k]? with
 | some x=>x.Text
 | none=>[]
def off (l:List K0)(e:Int)(k:Nat):Int:=match l[k]? with
 | some x=>x.At
 | none=>e
def step (b:Bool)(k:Nat):Nat:=bif b then k+1 else k
theorem B4 (k:Nat):step true k=k+1:=rfl
theorem J3 (k:Nat):step false k=k:=rfl
theorem R1 {l:List K0}{k:Nat}{t:Str}(h:isT l k t=true):k < l.length:=by
 unfold isT at h
 split at h
 ·rename_i hx; exact Yo hx
 ·cases h
theorem Wh {l:List K0}{k:Nat}{c:Int}(h:G6 l k c=true):k < l.length:=by
 unfold G6 at h
 split at h
 ·rename_i hx; exact Yo hx
 ·cases h
theorem Pb {l:List K0}{k:Nat}{t:Str}(h:isT l k t=true):G6 l k 0=false∧G6 l k 1=false∧txt l k=t:=by
 unfold isT at h
 unfold G6 txt
 split at h
 ·rename_i x hx
  rw [Bool.and_eq_true] at h
  have ht:=eq_of_beq h.1
  rw [Bool.or_eq_true] at h
  rcases h.2 with h2 | h2 <;> rw [eq_of_beq h2] <;> exact ⟨rfl,rfl,ht⟩
 ·cases h
section
set_option linter.unusedSectionVars false
variable (l:List K0)(e:Int)(hl:l.length≤BB)
include hl
theorem F1t (k:Nat)(t:Str):X8 t (mk l k e)=some (isT l k t):=by
 unfold X8 isT
 simp only
 cases h:l[k]? with
 | none=>rw [A1m h,if_pos rfl]
 | some x=>
  rw [dge h,if_neg (by simp),Gs,h,ob]
  show some _=some (x.Text == t&&(x.Kind == 2||x.Kind == 3))
  cases x.Text == t <;> cases x.Kind == 2 <;> rfl
theorem O2 (k:Nat)(t:Str):R0 t (mk l k e)=some (isT l k t,mk l (step (isT l k t) k) e):=by
 unfold R0
 rw [F1t l e hl,ob]
 cases h:isT l k t with
 | false=>rfl
 | true=>
  have:=R1 h
  simp only [Bool.not_true,Bool.false_eq_true,if_false]
  rw [w1 (by omega)]
  rfl
theorem U13 (k:Nat):Z4 (mk l k e)=some (G6 l k 0):=by
 unfold Z4 G6
 simp only
 cases h:l[k]? with
 | none=>rw [W1i h,if_neg (by simp),ob]; rfl
 | some x=>rw [dlt h,if_pos rfl,Gs,h,ob]; rfl
theorem X1i (k:Nat):F5 (mk l k e)=some (.pn (off l e k)):=by
 unfold F5 off
 simp only
 cases h:l[k]? with
 | none=>rw [W1i h,if_neg (by simp)]
 | some x=>rw [dlt h,if_pos rfl,Gs,h,ob]
theorem J1o (k:Nat)(c:Int):Y6 c (mk l k e)=if G6 l k c=true then some (.ok (txt l k,mk l (k+1) e)) else some (.pn (off l e k)):=by
 unfold Y6
 rw [X1i l e hl,ob]
 unfold G6 txt
 simp only
 cases h:l[k]? with
 | none=>rw [A1m h,Bool.not_true,if_neg (by simp),ob,cond_true,if_pos rfl,if_neg (by simp)]
 | some x=>
  have:=Yo h
  rw [dge h,Bool.not_false,if_pos rfl,Gs,h,ob,cond_false]
  cases hk:x.Kind == c with
  | false=>simp only [bne,hk,Bool.not_false,if_true,Bool.false_eq_true,if_false]
  | true=>
   simp only [bne,hk,Bool.not_true,Bool.false_eq_true,if_false,if_true]
   unfold P6
   simp only
   rw [w1 (by omega),wr (n:=((k+1:Nat):Int) - 1) (by omega) (by unfold BB at *; omega),show ((k+1:Nat):Int) - 1=(k:Int) by omega,Gs,h,ob]
theorem Qm (k:Nat):X2 (mk l k e)=if G6 l k 0=true then some (.ok (txt l k,mk l (k+1) e)) else some (.pn (off l e k)):=by
 unfold X2
 rw [J1o l e hl]
 cases G6 l k 0 <;> rfl
theorem T3 (k:Nat)(t:Str):T0 t (mk l k e)=if isT l k t=true then some (.ok (mk l (k+1) e)) else some (.pn (off l e k)):=by
 unfold T0
 rw [O2 l e hl,ob]
 cases h:isT l k t with
 | true=>rfl
 | false=>
  simp only [Bool.not_false,if_true,step,cond_false,Bool.false_eq_true,if_false]
  rw [X1i l e hl,ob]
theorem L2 (k:Nat)(t:Str):Y0 l k t=some (isT l k t):=by
 unfold Y0 isT
 cases h:l[k]? with
 | none=>rw [W1i h]; rfl
 | some x=>
  rw [dlt h,Gs,h]
  simp only [if_true,ob,Bool.true_and,cond_true]
  by_cases h2:x.Kind=2 <;> by_cases h3:x.Kind=3 <;> by_cases ht:x.Text=t <;> first | (simp [ob,h2,h3,ht]; done) | (simp [ob,h2,h3,ht]; rw [beq_eq_false_iff_ne.2 h2,beq_eq_false_iff_ne.2 h3]; simp)
theorem Xh (k:Nat):I8 l k=if G6 l k 0=true then some (txt l k,((k+1:Nat):Int),true) else some ([],(k:Int),false):=by
 unfold I8 G6 txt
 cases h:l[k]? with
 | none=>rw [W1i h]; rfl
 | some x=>
  have:=Yo h
  rw [dlt h,Gs,h,if_pos rfl,ob,cond_true,w1 (by omega)]
  show _=if (x.Kind == 0)=true then some (x.Text,((k+1:Nat):Int),true) else some ([],(k:Int),false)
  cases h2:x.Kind == 0 <;> rfl
end
end Go.Proofs.YtmnhfbekncjnfaaGreatDoor

namespace Go.Proofs.YtmnhfbekncjnfaaGreatDoor
open Go.Am
structure Tok (x:K0):Prop where
 len:x.Text.length≤8192
 word:x.Kind=2→∃ c t,x.Text=c::t∧Ae c.toNat=true
 num:x.Kind=1→x.Text≠[]∧x.Text.all (fun c=>Nc c.toNat)=true∧x.Text.length≤7∧nv 0 x.Text≤1048576
def Tk (l:List K0):Prop:=l.length≤BB∧∀ x∈l,Tok x
theorem Oj {l:List K0}(h:Tk l)(k:Nat):(txt l k).length≤8192:=by
 unfold txt
 cases hx:l[k]? with
 | none=>simp
 | some x=>exact (h.2 x (List.mem_of_getElem? hx)).len
def isS (l:List K0)(k:Nat)(t:Str):Bool:=match l[k]? with
 | some x=>x.Kind == 3&&x.Text == t
 | none=>false
def Y1q (t:Str):Bool:=match t with
 | c::_=>!Ae c.toNat
 | []=>true
theorem Gg {l:List K0}(h:Tk l){k:Nat}{t:Str}(ht:Y1q t=true):isT l k t=isS l k t:=by
 unfold isT isS
 cases hx:l[k]? with
 | none=>rfl
 | some x=>
  simp only
  by_cases h2:x.Kind=2
  ·obtain ⟨c,r,e,hc⟩:=(h.2 x (List.mem_of_getElem? hx)).word h2
   have:(x.Text == t)=false:=beq_eq_false_iff_ne.2 fun he=>by
    rw [← he,e] at ht
    simp [Y1q,hc] at ht
   rw [this,h2]
   rfl
  ·rw [beq_eq_false_iff_ne.2 h2,Bool.false_or,Bool.and_comm]
def opT (t:Str):Int×Int:=
 if t == [124,124] then (20,1) else if t == [38,38] then (19,2) else if t == [61,61] then (13,3) else if t == [33,61] then (14,3) else if t == [60] then (15,3) else if t == [60,61] then (16,3)
 else if t == [62] then (17,3) else if t == [62,61] then (18,3) else if t == [43] then (8,4) else if t == [45] then (9,4) else if t == [42] then (10,5) else if t == [47] then (11,5) else if t == [37] then (12,5) else (0,0)
def ops:List Str:=[[124,124],[38,38],[61,61],[33,61],[60],[60,61],[62],[62,61],[43],[45],[42],[47],[37]]
theorem Gq (t:Str):t∈ops∨∀ s∈ops,(t == s)=false:=by
 by_cases h:t∈ops
 ·exact .inl h
 ·exact .inr fun s hs=>beq_eq_false_iff_ne.2 fun e=>h (e ▸ hs)
theorem Tx (l:List K0)(k:Nat)(n:Int):K5 l k n=some (match l[k]? with
  | some x=>if x.Kind == 3 then ((opT x.Text).1,(opT x.Text).2 == n) else (0,false)
  | none=>(0,false)):=by
 unfold K5
 cases h:l[k]? with
 | none=>rw [A1m h,Bool.not_true,if_neg (by simp),ob,cond_true,if_pos rfl]
 | some x=>
  rw [dge h,Bool.not_false,if_pos rfl,Gs,h,ob,cond_false]
  cases h3:x.Kind == 3 with
  | false=>simp only [bne,h3,Bool.not_false,if_true,Bool.false_eq_true,if_false]
  | true=>
   simp only [bne,h3,Bool.not_true,Bool.false_eq_true,if_false,if_true,ob]
   unfold opT
   generalize (x.Text == [124,124])=b0
   generalize (x.Text == [38,38])=b1
   generalize (x.Text == [61,61])=b2
   generalize (x.Text == [33,61])=b3
   generalize (x.Text == [60])=b4
   generalize (x.Text == [60,61])=b5
   generalize (x.Text == [62])=b6
   generalize (x.Text == [62,61])=b7
   generalize (x.Text == [43])=b8
   generalize (x.Text == [45])=b9
   generalize (x.Text == [42])=b10
   generalize (x.Text == [47])=b11
   generalize (x.Text == [37])=b12
   cases b0 with
   | true=>rfl
   | false=>
    cases b1 with
    | true=>rfl
    | false=>
     cases b2 with
     | true=>rfl
     | false=>
      cases b3 with
      | true=>rfl
      | false=>
       cases b4 with
       | true=>rfl
       | false=>
        cases b5 with
        | true=>rfl
        | false=>
         cases b6 with
         | true=>rfl
         | false=>
          cases b7 with
          | true=>rfl
          | false=>
           cases b8 with
           | true=>rfl
           | false=>
            cases b9 with
            | true=>rfl
            | false=>
             cases b10 with
             | true=>rfl
             | false=>
              cases b11 with
              | true=>rfl
              | false=>
               cases b12 with
               | true=>rfl
               | false=>
                rfl
theorem Z1c (op:Int)(a b:A0):Wm op a b=some (A0.mk op 0 [] [a,b]):=rfl
theorem Ux {t:Str}(h:∀ s∈ops,(t == s)=false):opT t=(0,0):=by
 unfold opT
 have a:=fun s hs=>h s hs
 rw [a [124,124] (by decide),a [38,38] (by decide),a [61,61] (by decide),a [33,61] (by decide),a [60] (by decide),a [60,61] (by decide),a [62] (by decide),a [62,61] (by decide),a [43] (by decide),a [45] (by decide),a [42] (by decide),a [47] (by decide),a [37] (by decide)]
 rfl
theorem E1u (t:Str):((opT t).2 == 1)=(t == [124,124])∧(((opT t).2 == 1)=true→(opT t).1=(20:Int)):=by
 rcases Gq t with h | h
 ·simp only [ops,List.mem_cons,List.not_mem_nil,or_false] at h
  rcases h with rfl | rfl | rfl | rfl | rfl | rfl | rfl | rfl | rfl | rfl | rfl | rfl | rfl <;> decide
 ·rw [Ux h,h [124,124] (by decide)]
  decide
theorem G1t (t:Str):((opT t).2 == 2)=(t == [38,38])∧(((opT t).2 == 2)=true→(opT t).1=(19:Int)):=by
 rcases Gq t with h | h
 ·simp only [ops,List.mem_cons,List.not_mem_nil,or_false] at h
  rcases h with rfl | rfl | rfl | rfl | rfl | rfl | rfl | rfl | rfl | rfl | rfl | rfl | rfl <;> decide
 ·rw [Ux h,h [38,38] (by decide)]
  decide
theorem H1t (t:Str):((opT t).2 == 4)=(t == [43]||t == [45])∧(((opT t).2 == 4)=true→(opT t).1=(if t == [43] then 8 else 9:Int)):=by
 rcases Gq t with h | h
 ·simp only [ops,List.mem_cons,List.not_mem_nil,or_false] at h
  rcases h with rfl | rfl | rfl | rfl | rfl | rfl | rfl | rfl | rfl | rfl | rfl | rfl | rfl <;> decide
 ·rw [Ux h,h [43] (by decide),h [45] (by decide)]
  decide
theorem Z1r (t:Str):((opT t).2 == 5)=(t == [42]||t == [47]||t == [37])∧(((opT t).2 == 5)=true→(opT t).1=(if t == [42] then 10 else if t == [47] then 11 else 12:Int)):=by
 rcases Gq t with h | h
 ·simp only [ops,List.mem_cons,List.not_mem_nil,or_false] at h
  rcases h with rfl | rfl | rfl | rfl | rfl | rfl | rfl | rfl | rfl | rfl | rfl | rfl | rfl <;> decide
 ·rw [Ux h,h [42] (by decide),h [47] (by decide),h [37] (by decide)]
  decide
theorem I1t (t:Str):((opT t).2 == 3)=(t == [61,61]||t == [33,61]||t == [60]||t == [60,61]||t == [62]||t == [62,61])∧(((opT t).2 == 3)=true→(opT t).1=(if t == [61,61] then 13 else if t == [33,61] then 14 else if t == [60] then 15 else if t == [60,61] then 16 else if t == [62] then 17 else 18:Int)):=by
 rcases Gq t with h | h
 ·simp only [ops,List.mem_cons,List.not_mem_nil,or_false] at h
  rcases h with rfl | rfl | rfl | rfl | rfl | rfl | rfl | rfl | rfl | rfl | rfl | rfl | rfl <;> decide
 ·rw [Ux h,h [61,61] (by decide),h [33,61] (by decide),h [60] (by decide),h [60,61] (by decide),h [62] (by decide),h [62,61] (by decide)]
  decide
theorem A1d:∀ (r:List UInt8) (n:Nat),r.all (fun c=>Nc c.toNat)=true→Lib.decFrom n r=some (nv n r)
 | [],n,_=>by rw [U11]; rfl
 | c::r,n,h=>by
  rw [List.all_cons,Bool.and_eq_true] at h
  have hc:=Jo.1 h.1
  have hd:Lib.digitVal c=some (c.toNat - 48):=if_pos hc
  unfold Lib.decFrom
  rw [hd,Es,Nat.mul_comm 10 n]
  exact A1d r _ h.2
theorem A1s {s:Str}(hne:s≠[])(h:s.all (fun c=>Nc c.toNat)=true):Lib.atoi s=some (nv 0 s:Int):=by
 cases s with
 | nil=>exact absurd rfl hne
 | cons c r=>
  have hc:=Jo.1 (by rw [List.all_cons,Bool.and_eq_true] at h; exact h.1)
  have h1:(c == 45)=false:=beq_eq_false_iff_ne.2 fun e=>by rw [e] at hc; exact absurd hc.1 (by decide)
  have h2:(c == 43)=false:=beq_eq_false_iff_ne.2 fun e=>by rw [e] at hc; exact absurd hc.1 (by decide)
  unfold Lib.atoi
  simp only [h1,h2,Bool.false_eq_true,if_false]
  unfold Lib.decNat
  rw [if_neg (by simp),A1d _ 0 h]
  rfl
theorem B1s {s:Str}(hne:s≠[])(h:s.all (fun c=>Nc c.toNat)=true)(hl:s.length≤7):I10 s=some (nv 0 s:Int):=by
 unfold I10
 rw [if_pos (decide_eq_true (by omega)),A1s hne h]
section
set_option linter.unusedSectionVars false
variable (l:List K0)(e:Int)(hl:Tk l)
include hl
theorem Fu {k:Nat}{t:Str}(h:isS l k t=true):k < l.length:=by
 unfold isS at h
 split at h
 ·rename_i hx; exact Yo hx
 ·cases h
theorem F1u (k:Nat):∃ o b,Y8 (mk l k e)=some (20,b,mk l (step b k) e)∧K5 l k 1=some (o,b)∧(b=true→o=20∧k < l.length):=by
 unfold Y8
 rw [O2 l e hl.1,Gg hl rfl,ob,Tx]
 have hlt:=Fu l hl (k:=k) (t:=[124,124])
 revert hlt
 unfold isS
 cases h:l[k]? with
 | none=>exact fun _=>⟨_,_,rfl,rfl,nofun⟩
 | some x=>
  simp only
  obtain ⟨h1,h2⟩:=E1u x.Text
  cases hk:x.Kind == 3 with
  | false=>exact fun _=>⟨_,_,rfl,rfl,nofun⟩
  | true=>
   simp only [Bool.true_and,if_true,h1]
   rw [h1] at h2
   exact fun hlt=>⟨_,_,rfl,rfl,fun hb=>⟨h2 hb,hlt hb⟩⟩
theorem J1t (k:Nat):∃ o b,D8 (mk l k e)=some (19,b,mk l (step b k) e)∧K5 l k 2=some (o,b)∧(b=true→o=19∧k < l.length):=by
 unfold D8
 rw [O2 l e hl.1,Gg hl rfl,ob,Tx]
 have hlt:=Fu l hl (k:=k) (t:=[38,38])
 revert hlt
 unfold isS
 cases h:l[k]? with
 | none=>exact fun _=>⟨_,_,rfl,rfl,nofun⟩
 | some x=>
  simp only
  obtain ⟨h1,h2⟩:=G1t x.Text
  cases hk:x.Kind == 3 with
  | false=>exact fun _=>⟨_,_,rfl,rfl,nofun⟩
  | true=>
   simp only [Bool.true_and,if_true,h1]
   rw [h1] at h2
   exact fun hlt=>⟨_,_,rfl,rfl,fun hb=>⟨h2 hb,hlt hb⟩⟩
theorem G1u (k:Nat):∃ o,K5 l k 4=some (o,(isS l k [43]||isS l k [45]))∧((isS l k [43]||isS l k [45])=true→o=(if isS l k [43] then 8 else 9:Int)):=by
 rw [Tx]
 unfold isS
 cases h:l[k]? with
 | none=>exact ⟨_,rfl,nofun⟩
 | some x=>
  simp only
  obtain ⟨h1,h2⟩:=H1t x.Text
  rcases Bool.eq_false_or_eq_true (x.Kind == 3) with hk | hk
  ·rw [h1] at h2
   simp only [hk,Bool.true_and,if_true,h1]
   exact ⟨_,rfl,h2⟩
  ·simp only [hk,Bool.false_and,Bool.or_false,Bool.false_eq_true,if_false]
   exact ⟨_,rfl,nofun⟩
theorem K1t (k:Nat):∃ o,K5 l k 5=some (o,(isS l k [42]||isS l k [47]||isS l k [37]))∧((isS l k [42]||isS l k [47]||isS l k [37])=true→o=(if isS l k [42] then 10 else if isS l k [47] then 11 else 12:Int)):=by
 rw [Tx]
 unfold isS
 cases h:l[k]? with
 | none=>exact ⟨_,rfl,nofun⟩
 | some x=>
  simp only
  obtain ⟨h1,h2⟩:=Z1r x.Text
  rcases Bool.eq_false_or_eq_true (x.Kind == 3) with hk | hk
  ·rw [h1] at h2
   simp only [hk,Bool.true_and,if_true,h1]
   exact ⟨_,rfl,h2⟩
  ·simp only [hk,Bool.false_and,Bool.or_false,Bool.false_eq_true,if_false]
   exact ⟨_,rfl,nofun⟩
theorem H1u (k:Nat):∃ o,K5 l k 3=some (o,(isS l k [61,61]||isS l k [33,61]||isS l k [60]||isS l k [60,61]||isS l k [62]||isS l k [62,61]))∧((isS l k [61,61]||isS l k [33,61]||isS l k [60]||isS l k [60,61]||isS l k [62]||isS l k [62,61])=true→o=(if isS l k [61,61] then 13 else if isS l k [33,61] then 14 else if isS l k [60] then 15 else if isS l k [60,61] then 16 else if isS l k [62] then 17 else 18:Int)):=by
 rw [Tx]
 unfold isS
 cases h:l[k]? with
 | none=>exact ⟨_,rfl,nofun⟩
 | some x=>
  simp only
  obtain ⟨h1,h2⟩:=I1t x.Text
  rcases Bool.eq_false_or_eq_true (x.Kind == 3) with hk | hk
  ·rw [h1] at h2
   simp only [hk,Bool.true_and,if_true,h1]
   exact ⟨_,rfl,h2⟩
  ·simp only [hk,Bool.false_and,Bool.or_false,Bool.false_eq_true,if_false]
   exact ⟨_,rfl,nofun⟩
theorem L1t (k:Nat):∃ o o' b,C8 (mk l k e)=some (o',b,mk l (step b k) e)∧K5 l k 4=some (o,b)∧(b=true→o=o'∧k < l.length):=by
 obtain ⟨o,h1,h2⟩:=G1u l hl k
 unfold C8
 rw [O2 l e hl.1,Gg hl rfl,ob]
 cases ha:isS l k [43] with
 | true=>rw [ha] at h1 h2; exact ⟨_,_,_,rfl,h1,fun _=>⟨h2 rfl,Fu l hl ha⟩⟩
 | false=>
  rw [ha] at h1 h2
  simp only [step,cond_false,Bool.false_eq_true,if_false]
  rw [O2 l e hl.1,Gg hl rfl,ob]
  exact ⟨_,_,isS l k [45],rfl,h1,fun hb=>⟨h2 (by rw [hb]; rfl),Fu l hl hb⟩⟩
theorem C1s (k:Nat):∃ o o' b,R5 (mk l k e)=some (o',b,mk l (step b k) e)∧K5 l k 5=some (o,b)∧(b=true→o=o'∧k < l.length):=by
 obtain ⟨o,h1,h2⟩:=K1t l hl k
 unfold R5
 rw [O2 l e hl.1,Gg hl rfl,ob]
 cases ha:isS l k [42] with
 | true=>rw [ha] at h1 h2; exact ⟨_,_,_,rfl,h1,fun _=>⟨h2 rfl,Fu l hl ha⟩⟩
 | false=>
  rw [ha] at h1 h2
  simp only [step,cond_false,Bool.false_eq_true,if_false]
  rw [O2 l e hl.1,Gg hl rfl,ob]
  cases hb:isS l k [47] with
  | true=>rw [hb] at h1 h2; exact ⟨_,_,_,rfl,h1,fun _=>⟨h2 rfl,Fu l hl hb⟩⟩
  | false=>
   rw [hb] at h1 h2
   simp only [step,cond_false,Bool.false_eq_true,if_false]
   rw [O2 l e hl.1,Gg hl rfl,ob]
   exact ⟨_,_,isS l k [37],rfl,h1,fun hc=>⟨h2 (by rw [hc]; rfl),Fu l hl hc⟩⟩
def B1d (k:Nat):Int:=(nv 0 (txt l k):Int)
theorem S1a (k:Nat):A5 (mk l k e)=if G6 l k 1=true then some (.ok (B1d l k,mk l (k+1) e)) else some (.pn (off l e k)):=by
 unfold A5
 rw [J1o l e hl.1]
 cases h:G6 l k 1 with
 | false=>rfl
 | true=>
  have hx:I10 (txt l k)=some (B1d l k):=by
   unfold G6 at h
   unfold B1d txt
   cases hk:l[k]? with
   | none=>rw [hk] at h; cases h
   | some x=>
    rw [hk] at h
    obtain ⟨n1,n2,n3,_⟩:=(hl.2 x (List.mem_of_getElem? hk)).num (eq_of_beq h)
    exact B1s n1 n2 n3
  rw [if_pos rfl,ob]
  simp only [hx,ob]
  rfl
theorem Y1i (x:K0)(k:Nat)(hx:l[k]?=some x)(hall:x.Text.all (fun c=>Nc c.toNat)=true)(hnv:nv 0 x.Text≤1048576)(hlen:x.Text.length≤7) :
  ∀ (r:Str) (i m:Nat),x.Text.drop i=r→nv m r≤1048576→r.all (fun c=>Nc c.toNat)=true→Ga l k m i=some ((nv m r:Int),((k+1:Nat):Int),true):=by
 have hk:=Yo hx
 have hB:=hl.1
 intro r
 induction r with
 | nil=>
  intro i m h hm _
  rw [Ga,Gs,hx,ob,(J2 h).1,if_neg (by simp),w1 (by omega),U11]
 | cons c r ih=>
  intro i m h hm ha
  obtain ⟨h1,h2,h3,h4,_⟩:=I3 h
  rw [List.all_cons,Bool.and_eq_true] at ha
  rw [Es] at hm ⊢
  have hc:=Jo.1 ha.1
  have hle:=X1q r (10 * m+(c.toNat - 48))
  have e1:IntKind.i64.wrap (IntKind.i64.wrap (10 * (m:Int))+IntKind.i64.wrap (IntKind.u8.wrap ((c.toNat:Int) - 48)))=((10 * m+(c.toNat - 48):Nat):Int):=by
   rw [L1q ha.1,wr (n:=10 * (m:Int)) (by omega) (by omega),wr (by omega) (by omega)]; omega
  rw [Ga,Gs,hx,ob,h1,if_pos rfl,ob,h2,ob,e1,w1 (by unfold BB; omega)]
  exact ih (i+1) _ h3 hm ha.2
theorem V13 (k:Nat):Qg l k=if G6 l k 1=true then some (B1d l k,((k+1:Nat):Int),true) else some (0,(k:Int),false):=by
 unfold Qg G6 B1d txt
 cases h:l[k]? with
 | none=>rw [A1m h,Bool.not_true,if_neg (by simp),ob,cond_true,if_pos rfl,if_neg (by simp)]
 | some x=>
  rw [dge h,Bool.not_false,if_pos rfl,Gs,h,ob,cond_false]
  simp only
  cases hk:x.Kind == 1 with
  | false=>simp only [bne,hk,Bool.not_false,if_true,Bool.false_eq_true,if_false]
  | true=>
   simp only [bne,hk,Bool.not_true,Bool.false_eq_true,if_false,if_true]
   obtain ⟨n1,n2,n3,n4⟩:=(hl.2 x (List.mem_of_getElem? h)).num (eq_of_beq hk)
   exact Y1i l hl x k h n2 n4 n3 x.Text 0 0 rfl n4 n2
end
end Go.Proofs.YtmnhfbekncjnfaaGreatDoor

namespace Go.Proofs.YtmnhfbekncjnfaaGreatDoor
open Go.Am
def J {α:Type}(l:List K0)(e:Int)(lo:Nat)(P:α→Nat→Prop)(p:Option (Pn (α×B0)))(r:Option (α×Int×Bool)):Prop:=
 (∃ v j,lo≤j∧j≤l.length∧P v j∧p=some (.ok (v,mk l j e))∧r=some (v,((j:Nat):Int),true))∨
 (∃ v j,j≤l.length∧p=some (.pn (off l e j))∧r=some (v,((j:Nat):Int),false))
section
variable {l:List K0}{e:Int}{α β:Type}
theorem J.ok {lo:Nat}{P:α→Nat→Prop}(v:α)(j:Nat)(h1:lo≤j)(h2:j≤l.length)(hP:P v j):J l e lo P (some (.ok (v,mk l j e))) (some (v,((j:Nat):Int),true)):=.inl ⟨v,j,h1,h2,hP,rfl,rfl⟩
theorem J.pn {lo:Nat}{P:α→Nat→Prop}(v:α)(j:Nat)(h2:j≤l.length):J l e lo P (some (.pn (off l e j))) (some (v,((j:Nat):Int),false)):=.inr ⟨v,j,h2,rfl,rfl⟩
theorem J.mono {lo lo':Nat}{P P':α→Nat→Prop}{p:Option (Pn (α×B0))}{r:Option (α×Int×Bool)}(h:J l e lo P p r)(hl:lo'≤lo)(hP:∀ v j,lo≤j→P v j→P' v j):J l e lo' P' p r:=by
 rcases h with ⟨v,j,h1,h2,h0,h3,h4⟩ | h
 ·exact .inl ⟨v,j,Nat.le_trans hl h1,h2,hP v j h1 h0,h3,h4⟩
 ·exact .inr h
theorem J.bind {lo lo':Nat}{P:α→Nat→Prop}{Q:β→Nat→Prop}{p:Option (Pn (α×B0))}{r:Option (α×Int×Bool)}(h:J l e lo P p r){F:Pn (α×B0)→Option (Pn (β×B0))}{g:α×Int×Bool→Option (β×Int×Bool)}(hF:∀ n,F (.pn n)=some (.pn n))
  (hg:∀ v (j:Nat),j≤l.length→∃ v',g (v,(j:Int),false)=some (v',(j:Int),false)) (hf:∀ v (j:Nat),lo≤j→j≤l.length→P v j→J l e lo' Q (F (.ok (v,mk l j e))) (g (v,(j:Int),true))) :
  J l e lo' Q (p>>=F) (r>>=g):=by
 rcases h with ⟨v,j,h1,h2,h0,rfl,rfl⟩ | ⟨v,j,h2,rfl,rfl⟩
 ·exact hf v j h1 h2 h0
 ·obtain ⟨v',hv⟩:=hg v j h2
  rw [ob,ob,hv,hF]
  exact .pn v' j h2
theorem J.same {lo:Nat}{P:α→Nat→Prop}{p:Option (Pn (α×B0))}{r:Option (α×Int×Bool)}(h:J l e lo P p r){F:Pn (α×B0)→Option (Pn (α×B0))}(hF:∀ n,F (.pn n)=some (.pn n))(hF2:∀ x,F (.ok x)=some (.ok (x.1,x.2))):J l e lo P (p>>=F) r:=by
 rcases h with ⟨v,j,h1,h2,h0,rfl,rfl⟩ | ⟨v,j,h2,rfl,rfl⟩
 ·rw [ob,hF2]; exact .ok v j h1 h2 h0
 ·rw [ob,hF]; exact .pn v j h2
theorem J.rsame {lo:Nat}{P:α→Nat→Prop}{p:Option (Pn (α×B0))}{r:Option (α×Int×Bool)}(h:J l e lo P p r):J l e lo P p (r>>=fun x=>some (x.1,x.2.1,x.2.2)):=by
 rcases h with ⟨v,j,h1,h2,h0,rfl,rfl⟩ | ⟨v,j,h2,rfl,rfl⟩
 ·exact .ok v j h1 h2 h0
 ·exact .pn v j h2
end
def BE (k:Nat)(v:A0)(j:Nat):Prop:=v.bulk≤9000 * (j - k)
def BO (o:Nat)(k:Nat)(v:A0)(j:Nat):Prop:=v.bulk≤o+9000 * (j - k)
theorem Yf (op n:Int)(s:Str):(A0.mk op n s []).bulk=s.length+5:=by rw [A0.bulk_eq]; rfl
theorem Z1q (op n:Int)(s:Str)(a:A0):(A0.mk op n s [a]).bulk=s.length+a.bulk+5:=by rw [A0.bulk_eq]; simp only [A0.bulks]; omega
theorem N1g (op n:Int)(s:Str)(a b:A0):(A0.mk op n s [a,b]).bulk=s.length+a.bulk+b.bulk+5:=by rw [A0.bulk_eq]; simp only [A0.bulks]; omega
theorem I1u (op n:Int)(s:Str)(a b c:A0):(A0.mk op n s [a,b,c]).bulk=s.length+a.bulk+b.bulk+c.bulk+5:=by rw [A0.bulk_eq]; simp only [A0.bulks]; omega
structure PE (l:List K0)(e:Int)(k:Nat):Prop where
 expr:J l e (k+1) (BE k) (G1 (mk l k e)) (T2 l k)
 un:J l e (k+1) (BE k) (W3 (mk l k e)) (Ag l k)
 prodL:∀ o,J l e k (BO o.bulk k) (H3 (mk l k e) o) (V2 l 5 o k)
 prod:J l e (k+1) (BE k) (S4 (mk l k e)) (R2 l k 5)
 sumL:∀ o,J l e k (BO o.bulk k) (F3 (mk l k e) o) (V2 l 4 o k)
 sum:J l e (k+1) (BE k) (Q5 (mk l k e)) (R2 l k 4)
 cmp:J l e (k+1) (BE k) (Z3 (mk l k e)) (R2 l k 3)
 andL:∀ o,J l e k (BO o.bulk k) (E3 (mk l k e) o) (V2 l 2 o k)
 and:J l e (k+1) (BE k) (K6 (mk l k e)) (R2 l k 2)
 orL:∀ o,J l e k (BO o.bulk k) (Y3 (mk l k e) o) (V2 l 1 o k)
 or:J l e (k+1) (BE k) (Z8 (mk l k e)) (R2 l k 1)
 placeL:∀ op name kids,J l e k (BO (A0.mk op 0 name kids).bulk k) (K4 (mk l k e) op name kids) (Yd l op 0 name kids k)
section
set_option linter.unusedSectionVars false
variable {l:List K0}{e:Int}(hl:Tk l)
include hl
theorem G18 {k:Nat}{n:Int}{o:A0}{un:B0→Option (Pn (A0×B0))}{chain:B0→A0→Option (Pn (A0×B0))}{b:Bool}{op op':Int}{F:Pn (A0×B0)→Option (Pn (A0×B0))}(hF:∀ n,F (.pn n)=some (.pn n))(hF2:∀ x,F (.ok x)=chain x.2 (A0.mk op' 0 [] [o,x.1]))(hk:k≤l.length)(hn:n≠3)
  (hb:K5 l k n=some (op,b)) (hop:b=true→op=op'∧k < l.length)
  (hun:k < l.length→J l e (k+2) (BE (k+1)) (un (mk l (k+1) e)) (R2 l ((k+1:Nat):Int) (IntKind.i64.wrap (n+1))))
  (hch:∀ j,k < j→j≤l.length→∀ o,J l e j (BO o.bulk j) (chain (mk l j e) o) (V2 l n o (j:Int))) :
  J l e k (BO o.bulk k) (if (!b)=true then some (.ok (o,mk l (step b k) e)) else un (mk l (step b k) e)>>=F) (V2 l n o (k:Int)):=by
 rw [V2,hb,ob]
 cases b with
 | false=>exact .ok o k (Nat.le_refl _) hk (by unfold BO; omega)
 | true=>
  obtain ⟨rfl,hlt⟩:=hop rfl
  have hB:=hl.1
  simp only [Bool.not_true,Bool.false_eq_true,if_false,step,cond_true]
  rw [w1 (by omega)]
  refine J.bind (hun hlt) hF ?_ ?_
  ·exact fun v j hj=>⟨v,rfl⟩
  intro v j h1 h2 h0
  simp only [Bool.not_true,Bool.false_eq_true,if_false,Z1c,ob,beq_eq_false_iff_ne.2 hn]
  rw [hF2]
  refine (hch j (by omega) h2 _).mono (by omega) fun v' j' h3 h4=>?_
  unfold BO at h4 ⊢
  unfold BE at h0
  rw [N1g] at h4
  simp only [List.length_nil] at h4
  omega
theorem K1o (k:Nat)(n:Nat)(hn:n < 6):R2 l k n=(R2 l k ((n+1:Nat):Int)>>=fun x2=>if (!x2.2.2)=true then some (x2.1,x2.2.1,false) else V2 l n x2.1 x2.2.1):=by
 rw [R2,if_neg (by simp; omega),w1 (by unfold BB; omega)]
theorem I1k (k:Nat):R2 l k 6=(Ag l k>>=fun x1=>some (x1.1,x1.2.1,x1.2.2)):=by
 rw [R2]
 simp only [beq_self_eq_true,if_true]
theorem H18 {k:Nat}{n:Nat}{p:Option (Pn (A0×B0))}{chain:B0→A0→Option (Pn (A0×B0))}{F:Pn (A0×B0)→Option (Pn (A0×B0))}(hF:∀ n,F (.pn n)=some (.pn n))(hF2:∀ x,F (.ok x)=chain x.2 x.1)(hn:n < 6)(h:J l e (k+1) (BE k) p (R2 l k ((n+1:Nat):Int)))
  (hch:∀ j,k < j→j≤l.length→∀ o,J l e j (BO o.bulk j) (chain (mk l j e) o) (V2 l n o (j:Int))) :
  J l e (k+1) (BE k) (p>>=F) (R2 l k n):=by
 rw [K1o hl k n hn]
 refine J.bind h hF ?_ ?_
 ·exact fun v j _=>⟨v,rfl⟩
 ·intro v j h1 h2 h0
  rw [hF2]
  refine (hch j (by omega) h2 v).mono h1 fun v' j' h3 h4=>?_
  unfold BO at h4
  unfold BE at h0 ⊢
  omega
section
variable {k:Nat}(hk:k≤l.length)(IH:∀ j,k < j→j≤l.length→PE l e j)
include hk IH
theorem D1s (o:A0):J l e k (BO o.bulk k) (H3 (mk l k e) o) (V2 l 5 o k):=by
 obtain ⟨op,op',b,h1,h2,h3⟩:=C1s l e hl k
 rw [H3,h1,ob]
 have hB:=hl.1
 refine G18 hl (chain:=H3) (fun _=>rfl) (fun _=>rfl) hk (by decide) h2 h3 (fun hlt=>?_) fun j h4 h5 o=>(IH j h4 h5).prodL o
 rw [show IntKind.i64.wrap (5+1)=6 by decide,I1k hl]
 exact J.rsame (IH (k+1) (by omega) (by omega)).un
theorem M1t (o:A0):J l e k (BO o.bulk k) (F3 (mk l k e) o) (V2 l 4 o k):=by
 obtain ⟨op,op',b,h1,h2,h3⟩:=L1t l e hl k
 rw [F3,h1,ob]
 refine G18 hl (chain:=F3) (fun _=>rfl) (fun _=>rfl) hk (by decide) h2 h3 (fun hlt=>?_) fun j h4 h5 o=>(IH j h4 h5).sumL o
 rw [show IntKind.i64.wrap (4+1)=5 by decide]
 exact (IH (k+1) (by omega) (by omega)).prod
theorem N1t (o:A0):J l e k (BO o.bulk k) (E3 (mk l k e) o) (V2 l 2 o k):=by
 obtain ⟨op,b,h1,h2,h3⟩:=J1t l e hl k
 rw [E3,h1,ob]
 refine G18 hl (chain:=E3) (fun _=>rfl) (fun _=>rfl) hk (by decide) h2 h3 (fun hlt=>?_) fun j h4 h5 o=>(IH j h4 h5).andL o
 rw [show IntKind.i64.wrap (2+1)=3 by decide]
 exact (IH (k+1) (by omega) (by omega)).cmp
theorem J1u (o:A0):J l e k (BO o.bulk k) (Y3 (mk l k e) o) (V2 l 1 o k):=by
 obtain ⟨op,b,h1,h2,h3⟩:=F1u l e hl k
 rw [Y3,h1,ob]
 refine G18 hl (chain:=Y3) (fun _=>rfl) (fun _=>rfl) hk (by decide) h2 h3 (fun hlt=>?_) fun j h4 h5 o=>(IH j h4 h5).orL o
 rw [show IntKind.i64.wrap (1+1)=2 by decide]
 exact (IH (k+1) (by omega) (by omega)).and
theorem O1t (hu:J l e (k+1) (BE k) (W3 (mk l k e)) (Ag l k)):J l e (k+1) (BE k) (S4 (mk l k e)) (R2 l k 5):=by
 rw [S4,Db]
 refine J.same ?_ (fun _=>rfl) fun _=>rfl
 refine H18 hl (n:=5) (chain:=H3) ?_ ?_ (by decide) ?_ fun j h4 h5 o=>(IH j h4 h5).prodL o
 ·exact fun _=>rfl
 ·exact fun _=>rfl
 show J l e (k+1) (BE k) _ (R2 l k 6)
 rw [I1k hl]
 exact J.rsame hu
theorem K1u (h:J l e (k+1) (BE k) (S4 (mk l k e)) (R2 l k 5)):J l e (k+1) (BE k) (Q5 (mk l k e)) (R2 l k 4):=by
 rw [Q5,Cb]
 refine J.same ?_ (fun _=>rfl) fun _=>rfl
 refine H18 hl (n:=4) (chain:=F3) ?_ ?_ (by decide) h fun j h4 h5 o=>(IH j h4 h5).sumL o
 ·exact fun _=>rfl
 ·exact fun _=>rfl
theorem L1u (h:J l e (k+1) (BE k) (Z3 (mk l k e)) (R2 l k 3)):J l e (k+1) (BE k) (K6 (mk l k e)) (R2 l k 2):=by
 rw [K6,Bb]
 refine J.same ?_ (fun _=>rfl) fun _=>rfl
 refine H18 hl (n:=2) (chain:=E3) ?_ ?_ (by decide) h fun j h4 h5 o=>(IH j h4 h5).andL o
 ·exact fun _=>rfl
 ·exact fun _=>rfl
theorem B1v (h:J l e (k+1) (BE k) (K6 (mk l k e)) (R2 l k 2)):J l e (k+1) (BE k) (Z8 (mk l k e)) (R2 l k 1):=by
 rw [Z8,Qd]
 refine J.same ?_ (fun _=>rfl) fun _=>rfl
 refine H18 hl (n:=1) (chain:=Y3) ?_ ?_ (by decide) h fun j h4 h5 o=>(IH j h4 h5).orL o
 ·exact fun _=>rfl
 ·exact fun _=>rfl
end
end
end Go.Proofs.YtmnhfbekncjnfaaGreatDoor

namespace Go.Proofs.YtmnhfbekncjnfaaGreatDoor
open Go.Am
section
set_option linter.unusedSectionVars false
variable {l:List K0}{e:Int}(hl:Tk l)
include hl
section
variable {k:Nat}(hk:k≤l.length)(IH:∀ j,k < j→j≤l.length→PE l e j)
include hk IH
theorem P1t {op:Int}{x1:A0×B0}(hlt:k < l.length)(hop:K5 l k 3=some (op,true))(p:B0)(hp:p=mk l (k+1) e) :
  J l e k (BO x1.1.bulk k) (Q1 p x1 op) (V2 l 3 x1.1 k):=by
 subst hp
 have hB:=hl.1
 rw [Q1,V2,hop,ob]
 simp only [Bool.not_true,Bool.false_eq_true,if_false]
 rw [w1 (by omega),show IntKind.i64.wrap (3+1)=4 by decide]
 refine J.bind (IH (k+1) (by omega) (by omega)).sum ?_ ?_ ?_
 ·exact fun _=>rfl
 ·exact fun v j _=>⟨v,rfl⟩
 ·intro v j h1 h2 h0
  simp only [Bool.not_true,Bool.false_eq_true,if_false,Z1c,ob,beq_self_eq_true,if_true]
  refine .ok _ j (by omega) h2 ?_
  unfold BO
  unfold BE at h0
  rw [N1g]
  simp only [List.length_nil]
  omega
theorem Q1t (x1:A0×B0)(hx:x1.2=mk l k e):J l e k (BO x1.1.bulk k) (R0 [61,61] x1.2>>=fun x2=>
 if x2.1=true then
  Q1 x2.2 x1 13
 else
  R0 [33,61] x2.2>>=fun x4=>
  if x4.1=true then
   Q1 x4.2 x1 14
  else
   R0 [60] x4.2>>=fun x5=>
   if x5.1=true then
    Q1 x5.2 x1 15
   else
    R0 [60,61] x5.2>>=fun x6=>
    if x6.1=true then
     Q1 x6.2 x1 16
    else
     R0 [62] x6.2>>=fun x7=>
     if x7.1=true then
      Q1 x7.2 x1 17
     else
      R0 [62,61] x7.2>>=fun x8=>
      if x8.1=true then
       Q1 x8.2 x1 18
      else
       some (.ok (x1.1,x8.2))) (V2 l 3 x1.1 k):=by
 obtain ⟨o,h1,h2⟩:=H1u l hl k
 have done:∀ {t:Str} {op:Int},isS l k t=true→K5 l k 3=some (op,true)→J l e k (BO x1.1.bulk k) (Q1 (mk l (step true k) e) x1 op) (V2 l 3 x1.1 k):=fun ht hop=>
  P1t hl hk IH (Fu l hl ht) hop _ rfl
 rw [hx,O2 l e hl.1,Gg hl rfl,ob]
 cases c0:isS l k [61,61] with
 | true=>rw [c0] at h1 h2; rw [h2 rfl] at h1; exact done c0 h1
 | false=>
  simp only [J3,Bool.false_eq_true,if_false]
  rw [O2 l e hl.1,Gg hl rfl,ob]
  cases c1:isS l k [33,61] with
  | true=>rw [c0,c1] at h1 h2; rw [h2 rfl] at h1; exact done c1 h1
  | false=>
   simp only [J3,Bool.false_eq_true,if_false]
   rw [O2 l e hl.1,Gg hl rfl,ob]
   cases c2:isS l k [60] with
   | true=>rw [c0,c1,c2] at h1 h2; rw [h2 rfl] at h1; exact done c2 h1
   | false=>
    simp only [J3,Bool.false_eq_true,if_false]
    rw [O2 l e hl.1,Gg hl rfl,ob]
    cases c3:isS l k [60,61] with
    | true=>rw [c0,c1,c2,c3] at h1 h2; rw [h2 rfl] at h1; exact done c3 h1
    | false=>
     simp only [J3,Bool.false_eq_true,if_false]
     rw [O2 l e hl.1,Gg hl rfl,ob]
     cases c4:isS l k [62] with
     | true=>rw [c0,c1,c2,c3,c4] at h1 h2; rw [h2 rfl] at h1; exact done c4 h1
     | false=>
      simp only [J3,Bool.false_eq_true,if_false]
      rw [O2 l e hl.1,Gg hl rfl,ob]
      cases c5:isS l k [62,61] with
      | true=>rw [c0,c1,c2,c3,c4,c5] at h1 h2; rw [h2 rfl] at h1; exact done c5 h1
      | false=>
       rw [c0,c1,c2,c3,c4,c5] at h1
       simp only [J3,Bool.false_eq_true,if_false]
       rw [V2,h1,ob]
       exact .ok _ k (Nat.le_refl _) hk (by unfold BO; omega)
end
theorem M1u {k:Nat}(hk:k≤l.length)(IH:∀ j,k < j→j≤l.length→PE l e j)(h:J l e (k+1) (BE k) (Q5 (mk l k e)) (R2 l k 4)):J l e (k+1) (BE k) (Z3 (mk l k e)) (R2 l k 3):=by
 rw [Z3,show (3:Int)=((3:Nat):Int) from rfl,K1o hl k 3 (by decide)]
 refine J.bind (p:=Q5 (mk l k e)) (r:=R2 l k ((3+1:Nat):Int)) h ?_ ?_ ?_
 ·exact fun _=>rfl
 ·exact fun v j _=>⟨v,rfl⟩
 ·intro v j h1 h2 h0
  refine (Q1t hl h2 (fun i h3 h4=>IH i (by omega) h4) (v,mk l j e) rfl).mono h1 fun v' j' h3 h4=>?_
  unfold BO at h4
  unfold BE at h0 ⊢
  simp only at h4
  omega
section
variable {k:Nat}(hk:k≤l.length)(IH:∀ j,k < j→j≤l.length→PE l e j)
include hk IH
theorem P1q (op:Int)(name:Str)(kids:List A0):J l e k (BO (A0.mk op 0 name kids).bulk k) (K4 (mk l k e) op name kids) (Yd l op 0 name kids k):=by
 have hB:=hl.1
 rw [K4,O2 l e hB,ob,Yd,L2 l hB,ob]
 cases hd:isT l k [46] with
 | true=>
  have hlt:=R1 hd
  simp only [B4,Bool.not_true,Bool.false_eq_true,if_false,if_true,ob,cond_true]
  rw [w1 (by omega),Qm l e hB,Xh l hB]
  cases hn:G6 l (k+1) 0 with
  | true=>
   have:=Wh hn
   simp only [if_true,ob,Bool.not_true,Bool.false_eq_true,if_false]
   refine ((IH (k+1+1) (by omega) (by omega)).placeL _ _ _).mono (by omega) fun v' j' h3 h4=>?_
   have ht:=Oj hl (k+1)
   unfold BO at h4 ⊢
   rw [Z1q] at h4
   omega
  | false=>exact .pn _ (k+1) (by omega)
 | false=>
  simp only [J3,Bool.not_false,Bool.false_eq_true,if_false,if_true]
  rw [O2 l e hB,ob,L2 l hB,ob]
  cases hi:isT l k [91] with
  | true=>
   have hlt:=R1 hi
   simp only [B4,if_true,cond_false]
   rw [ob,if_neg (by simp),w1 (by omega)]
   refine J.bind (IH (k+1) (by omega) (by omega)).expr ?_ ?_ ?_
   ·exact fun _=>rfl
   ·exact fun v j _=>⟨v,rfl⟩
   ·intro v j h1 h2 h0
    simp only [Bool.not_true,Bool.not_false,if_true,cond_false]
    rw [T3 l e hB,L2 l hB,ob]
    cases hn:isT l j [93] with
    | true=>
     have:=R1 hn
     simp only [if_true,ob,Bool.not_true,Bool.false_eq_true,if_false,Z1c]
     rw [w1 (by omega)]
     refine ((IH (j+1) (by omega) (by omega)).placeL _ _ _).mono (by omega) fun v' j' h3 h4=>?_
     unfold BO at h4 ⊢
     unfold BE at h0
     rw [N1g] at h4
     simp only [List.length_nil] at h4
     omega
    | false=>exact .pn _ j h2
  | false=>
   simp only [J3,Bool.false_eq_true,if_false,cond_false]
   exact .ok _ k (Nat.le_refl _) hk (by unfold BO; omega)
end
end
end Go.Proofs.YtmnhfbekncjnfaaGreatDoor

namespace Go.Proofs.YtmnhfbekncjnfaaGreatDoor
open Go.Am
section
set_option linter.unusedSectionVars false
variable {l:List K0}{e:Int}(hl:Tk l)
include hl
section
variable {k:Nat}(hk:k≤l.length)(IH:∀ j,k < j→j≤l.length→PE l e j)
include hk IH
theorem J1k:J l e (k+1) (BE k) (H6 (mk l k e)) (Di l k):=by
 have hB:=hl.1
 rw [H6,Di,Qm l e hB,Xh l hB]
 cases hn:G6 l k 0 with
 | true=>
  have:=Wh hn
  simp only [if_true,ob,Bool.not_true,Bool.false_eq_true,if_false]
  refine ((IH (k+1) (by omega) (by omega)).placeL _ _ _).mono (Nat.le_refl _) fun v' j' h3 h4=>?_
  have ht:=Oj hl k
  unfold BO at h4
  unfold BE
  rw [Yf] at h4
  omega
 | false=>exact .pn _ k hk
theorem L1o (op:Int)(hlt:k < l.length):J l e (k+1) (BE k) (A9 op (mk l (k+1) e)) (Rg l k op):=by
 have hB:=hl.1
 rw [A9,T3 l e hB,Rg,w1 (by omega),L2 l hB,ob]
 cases ho:isT l (k+1) [40] with
 | false=>exact .pn _ (k+1) (by omega)
 | true=>
  have h1:=R1 ho
  simp only [if_true,ob,Bool.not_true,Bool.false_eq_true,if_false]
  rw [wr (n:=(k:Int)+2) (by omega) (by unfold BB at hB; omega),show (k:Int)+2=((k+1+1:Nat):Int) by omega]
  refine J.bind (IH (k+1+1) (by omega) (by omega)).expr ?_ ?_ ?_
  ·exact fun _=>rfl
  ·exact fun v j _=>⟨v,rfl⟩
  intro v j h2 h3 h0
  simp only [Bool.not_true,Bool.not_false,if_true,cond_false]
  rw [T3 l e hB,L2 l hB,ob]
  cases hc:isT l j [44] with
  | false=>exact .pn _ j h3
  | true=>
   have h4:=R1 hc
   simp only [if_true,ob,Bool.not_true,Bool.false_eq_true,if_false]
   rw [w1 (by omega)]
   refine J.bind (IH (j+1) (by omega) (by omega)).expr ?_ ?_ ?_
   ·exact fun _=>rfl
   ·exact fun v j _=>⟨v,rfl⟩
   intro v2 j2 h5 h6 h00
   simp only [Bool.not_true,Bool.not_false,if_true,cond_false]
   rw [T3 l e hB,L2 l hB,ob]
   cases hd:isT l j2 [41] with
   | false=>exact .pn _ j2 h6
   | true=>
    have h7:=R1 hd
    simp only [if_true,ob,Bool.not_true,Bool.false_eq_true,if_false,Z1c]
    rw [w1 (by omega)]
    refine .ok _ (j2+1) (by omega) (by omega) ?_
    unfold BE at h0 h00 ⊢
    rw [N1g]
    simp only [List.length_nil]
    omega
theorem M1o:J l e (k+1) (BE k) (N8 (mk l k e)) (Zn l k):=by
 have hB:=hl.1
 rw [N8,Zn,U13 l e hB,ob]
 have hw:∀ t,isT l k t=true→G6 l k 0=false:=fun t h=>(Pb h).1
 cases hn:G6 l k 0 with
 | true=>
  have hf:∀ t,isT l k t=false:=fun t=>by
   cases h:isT l k t with
   | false=>rfl
   | true=>rw [hw t h] at hn; cases hn
  have hd:G6 l k 1=false:=by
   unfold G6 at hn ⊢
   split at hn
   ·rw [eq_of_beq hn]; rfl
   ·rfl
  simp only [if_true,L2 l hB,ob,hf,Bool.false_eq_true,if_false,Bool.not_false,cond_false]
  rw [V13 l hl,hd]
  simp only [Bool.false_eq_true,if_false,ob]
  refine J.same ?_ (fun _=>rfl) fun _=>rfl
  exact J.rsame (J1k hl hk IH)
 | false=>
  simp only [Bool.false_eq_true,if_false]
  rw [O2 l e hB,ob,L2 l hB,ob]
  cases h1:isT l k [116,114,117,101] with
  | true=>
   have:=R1 h1
   simp only [B4,if_true]
   rw [w1 (by omega)]
   exact .ok _ (k+1) (Nat.le_refl _) (by omega) (by unfold BE; rw [Yf]; simp only [List.length_nil]; omega)
  | false=>
   simp only [J3,Bool.false_eq_true,if_false]
   rw [O2 l e hB,ob,L2 l hB,ob]
   cases h2:isT l k [102,97,108,115,101] with
   | true=>
    have:=R1 h2
    simp only [B4,if_true]
    rw [w1 (by omega)]
    exact .ok _ (k+1) (Nat.le_refl _) (by omega) (by unfold BE; rw [Yf]; simp only [List.length_nil]; omega)
   | false=>
    simp only [J3,Bool.false_eq_true,if_false]
    rw [O2 l e hB,ob,L2 l hB,ob,L2 l hB]
    cases h3:isT l k [109,105,110] with
    | true=>
     have hlt:=R1 h3
     have h4:isT l k [109,97,120]=false:=by
      cases h:isT l k [109,97,120] with
      | false=>rfl
      | true=>have:=(Pb h3).2.2.symm.trans (Pb h).2.2; simp at this
     simp only [B4,if_true,Bool.not_true,Bool.false_eq_true,if_false,ob,cond_true]
     rw [Ao,L2 l hB,ob,h4,if_neg (by simp)]
     refine J.same ?_ (fun _=>rfl) fun _=>rfl
     exact J.rsame (L1o hl hk IH 21 hlt)
    | false=>
     simp only [J3,Bool.false_eq_true,if_false,Bool.not_false,if_true,ob,cond_false]
     rw [O2 l e hB,ob]
     cases h4:isT l k [109,97,120] with
     | true=>
      have hlt:=R1 h4
      simp only [B4,if_true]
      rw [Ao,L2 l hB,ob,h4,if_pos rfl]
      refine J.same ?_ (fun _=>rfl) fun _=>rfl
      exact J.rsame (L1o hl hk IH 22 hlt)
     | false=>
      simp only [J3,Bool.false_eq_true,if_false]
      rw [O2 l e hB,ob,L2 l hB,ob]
      cases h5:isT l k [40] with
      | true=>
       have hlt:=R1 h5
       simp only [B4,if_true]
       rw [w1 (by omega)]
       refine J.bind (IH (k+1) (by omega) (by omega)).expr ?_ ?_ ?_
       ·exact fun _=>rfl
       ·exact fun v j _=>⟨v,rfl⟩
       intro v j h6 h7 h0
       simp only [Bool.not_true,Bool.not_false,if_true,cond_false]
       rw [T3 l e hB,L2 l hB,ob]
       cases hd:isT l j [41] with
       | false=>exact .pn _ j h7
       | true=>
        have h8:=R1 hd
        simp only [if_true,ob,Bool.not_true,Bool.false_eq_true,if_false]
        rw [w1 (by omega)]
        refine .ok _ (j+1) (by omega) (by omega) ?_
        unfold BE at h0 ⊢
        omega
      | false=>
       simp only [J3,Bool.false_eq_true,if_false]
       rw [S1a l e hl,V13 l hl]
       cases h6:G6 l k 1 with
       | true=>
        have:=Wh h6
        simp only [if_true,ob]
        exact .ok _ (k+1) (Nat.le_refl _) (by omega) (by unfold BE; rw [Yf]; simp only [List.length_nil]; omega)
       | false=>
        simp only [Bool.false_eq_true,if_false,ob]
        rw [Di,Xh l hB,hn]
        exact .pn _ k hk
theorem E1s:J l e (k+1) (BE k) (W3 (mk l k e)) (Ag l k):=by
 have hB:=hl.1
 have go:∀ op:Int,k < l.length→J l e (k+1) (BE k) (W3 (mk l (k+1) e)>>=fun x4=>match x4 with | .pn nn=>some (.pn nn) | .ok x4=>some (.ok ((A0.mk op 0 [] [x4.1]),x4.2))) (Wi l k op):=fun op hlt=>by
  rw [Wi,w1 (by omega)]
  refine J.bind (IH (k+1) (by omega) (by omega)).un ?_ ?_ ?_
  ·exact fun _=>rfl
  ·exact fun v j _=>⟨v,rfl⟩
  ·intro v j h1 h2 h0
   refine .ok _ j (by omega) h2 ?_
   unfold BE at h0 ⊢
   rw [Z1q]
   simp only [List.length_nil]
   omega
 rw [W3,Ag,O2 l e hB,ob,L2 l hB,ob]
 cases h1:isT l k [45] with
 | true=>
  have hlt:=R1 h1
  have h2:isT l k [33]=false:=by
   cases h:isT l k [33] with
   | false=>rfl
   | true=>have:=(Pb h1).2.2.symm.trans (Pb h).2.2; simp at this
  simp only [B4,if_true,Bool.not_true,Bool.false_eq_true,if_false,ob,cond_false]
  rw [L2 l hB,ob,h2,if_neg (by simp)]
  exact go 6 hlt
 | false=>
  simp only [J3,Bool.false_eq_true,if_false,Bool.not_false,if_true]
  rw [O2 l e hB,ob,L2 l hB,ob]
  cases h2:isT l k [33] with
  | true=>
   have hlt:=R1 h2
   simp only [B4,if_true,Bool.not_true,Bool.false_eq_true,if_false,cond_true,ob]
   exact go 7 hlt
  | false=>
   simp only [J3,Bool.false_eq_true,if_false,Bool.not_false,if_true,cond_true]
   refine J.same ?_ (fun _=>rfl) fun _=>rfl
   exact J.rsame (M1o hl hk IH)
theorem R1t (ho:J l e (k+1) (BE k) (Z8 (mk l k e)) (R2 l k 1)):J l e (k+1) (BE k) (G1 (mk l k e)) (T2 l k):=by
 have hB:=hl.1
 rw [G1,T2]
 refine J.bind ho ?_ ?_ ?_
 ·exact fun _=>rfl
 ·exact fun v j _=>⟨v,rfl⟩
 intro v j h1 h2 h0
 simp only [Bool.not_true,Bool.not_false,if_true,cond_false]
 rw [O2 l e hB,ob,L2 l hB,ob]
 cases hq:isT l j [63] with
 | false=>exact .ok _ j h1 h2 h0
 | true=>
  have h3:=R1 hq
  simp only [B4,Bool.not_true,Bool.false_eq_true,if_false]
  rw [w1 (by omega)]
  refine J.bind (IH (j+1) (by omega) (by omega)).expr ?_ ?_ ?_
  ·exact fun _=>rfl
  ·exact fun v j _=>⟨v,rfl⟩
  intro v2 j2 h4 h5 h00
  simp only [Bool.not_true,Bool.false_eq_true,if_false]
  rw [T3 l e hB,L2 l hB,ob]
  cases hc:isT l j2 [58] with
  | false=>exact .pn _ j2 h5
  | true=>
   have h6:=R1 hc
   simp only [if_true,ob,Bool.not_true,Bool.false_eq_true,if_false]
   rw [w1 (by omega)]
   refine J.bind (IH (j2+1) (by omega) (by omega)).expr ?_ ?_ ?_
   ·exact fun _=>rfl
   ·exact fun v j _=>⟨v,rfl⟩
   ·intro v3 j3 h7 h8 h000
    refine .ok _ j3 (by omega) h8 ?_
    unfold BE at h0 h00 h000 ⊢
    rw [I1u]
    simp only [List.length_nil]
    omega
end
theorem N1o:∀ (n k:Nat),l.length - k < n→k≤l.length→PE l e k
 | 0,k,h,_=>absurd h (Nat.not_lt_zero _)
 | n+1,k,h,hk=>by
  have IH:∀ j,k < j→j≤l.length→PE l e j:=fun j h1 h2=>N1o n j (by omega) h2
  have u:=E1s hl hk IH
  have p5:=O1t hl hk IH u
  have p4:=K1u hl hk IH p5
  have p3:=M1u hl hk IH p4
  have p2:=L1u hl hk IH p3
  have p1:=B1v hl hk IH p2
  exact ⟨R1t hl hk IH p1,u,D1s hl hk IH,p5,M1t hl hk IH,p4,p3,N1t hl hk IH,p2,J1u hl hk IH,p1,P1q hl hk IH⟩
theorem Aw {k:Nat}(hk:k≤l.length):PE l e k:=N1o hl _ k (Nat.lt_succ_self _) hk
end
end Go.Proofs.YtmnhfbekncjnfaaGreatDoor

namespace Go.Proofs.YtmnhfbekncjnfaaGreatDoor
open Go.Am
theorem S1t (r:List UInt8):∀ m:Nat,m * 10 ^ r.length≤nv m r:=by
 induction r with
 | nil=>intro m; rw [U11]; simp
 | cons c r ih=>
  intro m
  rw [Es]
  refine Nat.le_trans ?_ (ih _)
  rw [List.length_cons,Nat.pow_succ]
  calc m * (10 ^ r.length * 10)=(10 * m) * 10 ^ r.length:=by rw [Nat.mul_comm (10 ^ r.length) 10,← Nat.mul_assoc,Nat.mul_comm m 10]
   _≤(10 * m+(c.toNat - 48)) * 10 ^ r.length:=Nat.mul_le_mul_right _ (by omega)
theorem T1t {w:Str}(hne:w≠[])(h:Uz w=0):w.all (fun c=>Nc c.toNat)=true∧w.length≤7∧nv 0 w≤1048576:=by
 unfold Uz at h
 split at h
 ·rename_i hc
  rw [Bool.and_eq_true] at hc
  obtain ⟨h1,h2⟩:=hc
  have h3:nv 0 w≤1048576:=by
   rcases Nat.lt_or_ge 1048576 (nv 0 w) with hb | hb
   ·rw [P1a hb] at h; cases h
   ·exact hb
  refine ⟨h1,?_,h3⟩
  cases w with
  | nil=>exact absurd rfl hne
  | cons c r=>
   rw [List.all_cons,Bool.and_eq_true] at h1
   have hc:=Jo.1 h1.1
   have hz:Vy (c::r)=false:=by simpa using h2
   unfold Vy at hz
   by_cases h48:c.toNat=48
   ·have hb:(((c::r).getD 0 0).toNat:Int) == 48:=by simp [h48]
    rw [hb,Bool.and_true] at hz
    have:=of_decide_eq_false hz
    omega
   ·rw [Es] at h3
    have hp:=S1t r (10 * 0+(c.toNat - 48))
    have h5:1 * 10 ^ r.length≤(10 * 0+(c.toNat - 48)) * 10 ^ r.length:=Nat.mul_le_mul_right _ (by omega)
    rcases Nat.lt_or_ge 6 r.length with h6 | h6
    ·have:=Nat.pow_le_pow_right (show 1≤10 by decide) (show 7≤r.length from h6)
     omega
    ·rw [List.length_cons]; omega
 ·cases h
theorem F1s {c:UInt8}{t:List UInt8}{k:Int}(hlen:(c::t).length≤8192)(h:(nxt (c::t) k).2=0):Tok (nxt (c::t) k).1:=by
 have htx:=R1a h
 have hl8:(nxt (c::t) k).1.Text.length≤8192:=by omega
 refine ⟨hl8,fun hk=>?_,fun hk=>?_⟩
 ·revert h hk
  unfold nxt
  simp only [List.getD_cons_zero]
  cases hl:Ae c.toNat with
  | true=>
   have hld:ld c=true:=by unfold ld; rw [hl]; rfl
   intro h hk
   have hw:∃ r,(c::t).take (F6 (c::t))=c::r:=by
    simp only [F6,hld,cond_true,List.take_succ_cons]
    exact ⟨_,rfl⟩
   obtain ⟨r,hr⟩:=hw
   simp only [if_true] at hk ⊢
   split at hk
   ·rename_i hres
    rw [if_pos hres]
    exact ⟨c,r,hr,hl⟩
   ·split at hk <;> cases hk
  | false=>
   simp only [Bool.false_eq_true,if_false]
   intro h hk
   split at hk
   ·cases hk
   ·split at hk
    ·cases hk
    ·split at hk <;> cases hk
 ·revert h hk
  unfold nxt
  simp only [List.getD_cons_zero]
  cases hl:Ae c.toNat with
  | true=>
   intro h hk
   simp only [if_true] at hk
   split at hk
   ·cases hk
   ·split at hk <;> cases hk
  | false=>
   simp only [Bool.false_eq_true,if_false]
   intro h hk
   cases hd:Nc c.toNat with
   | true=>
    have hld:ld c=true:=by unfold ld; rw [hl,hd]; rfl
    have hne:(c::t).take (F6 (c::t))≠[]:=by
     simp only [F6,hld,cond_true,List.take_succ_cons]
     exact List.cons_ne_nil _ _
    rw [hd,if_pos rfl] at h
    rw [if_pos rfl]
    obtain ⟨n1,n2,n3⟩:=T1t hne h
    exact ⟨hne,n1,n2,n3⟩
   | false=>
    rw [hd,if_neg (by simp)] at hk
    split at hk
    ·cases hk
    ·split at hk <;> cases hk
theorem Z1i:∀ (n:Nat) (r:List UInt8) (k:Nat),r.length≤8192→(Lo n r k).2.2=0→(∀ x∈(Lo n r k).1,Tok x)∧(Lo n r k).1.length≤r.length
 | 0,r,k,_,_=>⟨fun x hx=>(by cases hx),Nat.zero_le _⟩
 | n+1,r,k,hl,h=>by
  revert h
  unfold Lo
  split
  ·exact fun _=>⟨fun x hx=>(by cases hx),Nat.zero_le _⟩
  ·rename_i c t hd
   have hle:(c::t).length≤r.length:=by rw [← hd,List.length_drop]; omega
   simp only
   split
   ·rename_i hx
    obtain ⟨b1,b2,b3,b4⟩:=R1a hx
    have hdl:((c::t).drop (nxt (c::t) ((k+skp false r:Nat):Int)).1.Text.length).length≤(c::t).length - 1:=by rw [List.length_drop]; omega
    have ih:=Z1i n ((c::t).drop (nxt (c::t) ((k+skp false r:Nat):Int)).1.Text.length) (k+skp false r+(nxt (c::t) ((k+skp false r:Nat):Int)).1.Text.length) (by omega)
    split
    ·rename_i hz
     obtain ⟨i1,i2⟩:=ih hz
     intro _
     refine ⟨fun x hx'=>?_,?_⟩
     ·rcases List.mem_cons.1 hx' with rfl | hx'
      ·exact F1s (by omega) hx
      ·exact i1 x hx'
     ·simp only [List.length_cons] at *
      omega
    ·rename_i hz
     exact fun h=>absurd h hz
   ·rename_i hx
    exact fun h=>absurd h hx
theorem Q1q {s:Str}(h:(U17 s).2.2=0):Tk (U17 s).1∧(U17 s).1.length≤8192:=by
 unfold U17 at h ⊢
 by_cases hl:s.length > 8192
 ·rw [if_pos hl] at h; cases h
 ·rw [if_neg hl] at h ⊢
  obtain ⟨h1,h2⟩:=Z1i _ s 0 (by omega) h
  exact ⟨⟨by unfold BB; omega,h1⟩,by omega⟩
end Go.Proofs.YtmnhfbekncjnfaaGreatDoor

namespace Go.Proofs.YtmnhfbekncjnfaaGreatDoor
open Go.Am
theorem A1j (text:Str)(l:List K0)(k:Nat):Yl text l k=some (off l (text.length:Int) k):=by
 unfold Yl off
 cases h:l[k]? with
 | none=>rw [W1i h,if_neg (by simp)]
 | some x=>rw [dlt h,if_pos rfl,Gs,h,ob]
end Go.Proofs.YtmnhfbekncjnfaaGreatDoor

namespace Go.Proofs.YtmnhfbekncjnfaaGreatDoor
open Go.Am
def BT (k:Nat)(v:I0)(j:Nat):Prop:=v.bulk≤9000 * (j - k)
def Vz (ns:List Str):Nat:=(ns.map fun s=>s.length+1).sum
def BF (ns:List Str)(os:List I0)(k:Nat)(v:I0)(j:Nat):Prop:=v.bulk≤Vz ns+I0.bulks os+8+9000 * (j - k)
theorem B1j (ns:List Str)(s:Str):Vz (ns++[s])=Vz ns+s.length+1:=by unfold Vz; simp; omega
theorem W13:∀ (os:List I0) (t:I0),I0.bulks (os++[t])=I0.bulks os+t.bulk
 | [],t=>by simp only [List.nil_append,I0.bulks]; omega
 | x::r,t=>by simp only [List.cons_append,I0.bulks,W13 r t]; omega
theorem Gu (a b c d:Int)(s:Str)(ns:List Str)(os:List I0):(I0.mk a b c d s ns os).bulk=s.length+Vz ns+I0.bulks os+8:=by rw [I0.bulk_eq]; rfl
structure PT (l:List K0)(e:Int)(k:Nat):Prop where
 typ:J l e (k+1) (BT k) (Y4 (mk l k e)) (Bg l k)
 fld:∀ ns os,ns.length≤k→os.length≤k→J l e k (BF ns os k) (S9 (mk l k e) ns os) (Ue l ns os ((k:Int) - 1))
section
set_option linter.unusedSectionVars false
variable {l:List K0}{e:Int}(hl:Tk l)
include hl
theorem Ss {k:Nat}(hk:k≤l.length):J l e (k+1) (fun _ _=>True) (U2 (mk l k e)) (T5 l k):=by
 have hB:=hl.1
 unfold U2 T5
 rw [O2 l e hB,ob,L2 l hB,ob]
 cases h:isT l k [45] with
 | true=>
  have hlt:=R1 h
  simp only [B4,if_true]
  rw [w1 (by omega),S1a l e hl,V13 l hl]
  cases h1:G6 l (k+1) 1 with
  | true=>have:=Wh h1; exact .ok _ (k+1+1) (by omega) (by omega) trivial
  | false=>exact .pn _ (k+1) (by omega)
 | false=>
  simp only [J3,Bool.false_eq_true,if_false]
  rw [S1a l e hl,V13 l hl]
  cases h1:G6 l k 1 with
  | true=>have:=Wh h1; exact .ok _ (k+1) (by omega) (by omega) trivial
  | false=>exact .pn _ k hk
section
variable {k:Nat}(hk:k≤l.length)(IH:∀ j,k < j→j≤l.length→PT l e j)
include hk IH
theorem N1u:J l e (k+1) (BT k) (Y4 (mk l k e)) (Bg l k):=by
 have hB:=hl.1
 rw [Y4,Bg,O2 l e hB,ob,L2 l hB,ob]
 cases h1:isT l k [98,111,111,108] with
 | true=>
  have:=R1 h1
  simp only [B4,if_true]
  rw [w1 (by omega)]
  exact .ok _ (k+1) (Nat.le_refl _) (by omega) (by unfold BT; rw [Gu]; simp only [List.length_nil,Vz,List.map_nil,List.sum_nil,I0.bulks]; omega)
 | false=>
  simp only [J3,Bool.false_eq_true,if_false]
  rw [O2 l e hB,ob,L2 l hB,ob]
  cases h2:isT l k [105,110,116] with
  | true=>
   have hlt:=R1 h2
   simp only [B4,if_true]
   rw [w1 (by omega)]
   refine J.rsame ?_
   unfold Xm
   rw [T3 l e hB,L2 l hB,ob]
   cases h3:isT l (k+1) [91] with
   | false=>exact .pn _ (k+1) (by omega)
   | true=>
    have h4:=R1 h3
    simp only [if_true,ob,Bool.not_true,Bool.false_eq_true,if_false]
    rw [w1 (by omega)]
    refine J.bind (Ss hl (k:=k+1+1) (by omega)) ?_ ?_ ?_
    ·exact fun _=>rfl
    ·exact fun v j _=>⟨_,rfl⟩
    intro v j h5 h6 _
    simp only [Bool.not_true,Bool.not_false,if_true,cond_false]
    rw [T3 l e hB,L2 l hB,ob]
    cases h7:isT l j [46,46] with
    | false=>exact .pn _ j h6
    | true=>
     have h8:=R1 h7
     simp only [if_true,ob,Bool.not_true,Bool.false_eq_true,if_false]
     rw [w1 (by omega)]
     refine J.bind (Ss hl (k:=j+1) (by omega)) ?_ ?_ ?_
     ·exact fun _=>rfl
     ·exact fun v j _=>⟨_,rfl⟩
     intro v2 j2 h9 h10 _
     simp only [Bool.not_true,Bool.not_false,if_true,cond_false]
     rw [T3 l e hB,L2 l hB,ob]
     cases h11:isT l j2 [93] with
     | false=>exact .pn _ j2 h10
     | true=>
      have h12:=R1 h11
      simp only [if_true,ob,Bool.not_true,Bool.false_eq_true,if_false]
      rw [w1 (by omega)]
      exact .ok _ (j2+1) (by omega) (by omega) (by unfold BT; rw [Gu]; simp only [List.length_nil,Vz,List.map_nil,List.sum_nil,I0.bulks]; omega)
  | false=>
   simp only [J3,Bool.false_eq_true,if_false]
   rw [O2 l e hB,ob,L2 l hB,ob]
   cases h3:isT l k [97,114,114,97,121] with
   | true=>
    have hlt:=R1 h3
    simp only [B4,if_true]
    rw [w1 (by omega)]
    refine J.bind (Ss hl (k:=k+1) (by omega)) ?_ ?_ ?_
    ·exact fun _=>rfl
    ·exact fun v j _=>⟨_,rfl⟩
    intro v j h5 h6 _
    simp only [Bool.not_true,Bool.not_false,if_true,cond_false]
    rw [T3 l e hB,L2 l hB,ob]
    cases h7:isT l j [111,102] with
    | false=>exact .pn _ j h6
    | true=>
     have h8:=R1 h7
     simp only [if_true,ob,Bool.not_true,Bool.false_eq_true,if_false]
     rw [w1 (by omega)]
     refine J.bind (IH (j+1) (by omega) (by omega)).typ ?_ ?_ ?_
     ·exact fun _=>rfl
     ·exact fun v j _=>⟨_,rfl⟩
     intro v2 j2 h9 h10 h0
     refine .ok _ j2 (by omega) h10 ?_
     unfold BT at h0 ⊢
     rw [Gu]
     simp only [List.length_nil,Vz,List.map_nil,List.sum_nil,I0.bulks]
     omega
   | false=>
    simp only [J3,Bool.false_eq_true,if_false]
    rw [O2 l e hB,ob,L2 l hB,ob]
    cases h4:isT l k [114,101,99,111,114,100] with
    | true=>
     have hlt:=R1 h4
     simp only [B4,if_true]
     rw [w1 (by omega)]
     refine J.rsame ?_
     rw [Uw,T3 l e hB,L2 l hB,ob]
     cases h5:isT l (k+1) [123] with
     | false=>exact .pn _ (k+1) (by omega)
     | true=>
      have h6:=R1 h5
      simp only [if_true,ob,Bool.not_true,Bool.false_eq_true,if_false]
      have hf:=(IH (k+1+1) (by omega) (by omega)).fld [] [] (Nat.zero_le _) (Nat.zero_le _)
      rw [show ((k+1+1:Nat):Int) - 1=((k+1:Nat):Int) by omega] at hf
      refine hf.mono (by omega) fun v j h7 h8=>?_
      unfold BF at h8
      unfold BT
      simp only [Vz,List.map_nil,List.sum_nil,I0.bulks] at h8
      omega
    | false=>
     simp only [J3,Bool.false_eq_true,if_false]
     rw [Qm l e hB,Xh l hB]
     cases h5:G6 l k 0 with
     | false=>exact .pn _ k hk
     | true=>
      have:=Wh h5
      have ht:=Oj hl k
      exact .ok _ (k+1) (Nat.le_refl _) (by omega) (by unfold BT; rw [Gu]; simp only [Vz,List.map_nil,List.sum_nil,I0.bulks]; omega)
theorem O1u (ns:List Str)(os:List I0)(hn:ns.length≤k)(ho:os.length≤k):J l e k (BF ns os k) (S9 (mk l k e) ns os) (Ue l ns os ((k:Int) - 1)):=by
 have hB:=hl.1
 rw [S9,Ue,V6,wr (n:=(k:Int) - 1+1) (by omega) (by unfold BB at hB; omega),show (k:Int) - 1+1=(k:Int) by omega,Qm l e hB,Xh l hB]
 cases h1:G6 l k 0 with
 | false=>exact .pn _ k hk
 | true=>
  have h2:=Wh h1
  have ht:=Oj hl k
  simp only [if_true,ob,Bool.not_true,Bool.not_false,cond_false]
  rw [T3 l e hB,L2 l hB,ob]
  cases h3:isT l (k+1) [58] with
  | false=>exact .pn _ (k+1) (by omega)
  | true=>
   have h4:=R1 h3
   simp only [if_true,ob,Bool.not_true,Bool.false_eq_true,if_false]
   rw [w1 (by omega)]
   rcases (IH (k+1+1) (by omega) (by omega)).typ with ⟨v,j,h5,h6,h0,h7,h8⟩ | ⟨v,j,h6,h7,h8⟩
   ·rw [h7,h8,ob,ob,ob]
    have r1:decide ((ns.length+1) * 17≤140737488355328)=true:=decide_eq_true (by unfold BB at hB; omega)
    have r2:decide ((os.length+1) * 97≤140737488355328)=true:=decide_eq_true (by unfold BB at hB; omega)
    simp only [r1,r2,if_true,Bool.not_true,Bool.false_eq_true,if_false]
    rw [O2 l e hB,L2 l hB,ob,ob]
    unfold BT at h0
    cases h9:isT l j [44] with
    | true=>
     have h10:=R1 h9
     have h11:isT l j [125]=false:=by
      cases h:isT l j [125] with
      | false=>rfl
      | true=>have:=(Pb h9).2.2.symm.trans (Pb h).2.2; simp at this
     simp only [h11,B4,Bool.not_true,Bool.false_eq_true,if_false]
     rw [L2 l hB,ob,h9]
     simp only [Bool.not_true,Bool.false_eq_true,if_false]
     have hf:=(IH (j+1) (by omega) (by omega)).fld (ns++[txt l k]) (os++[v]) (by rw [List.length_append]; simp only [List.length_singleton]; omega) (by rw [List.length_append]; simp only [List.length_singleton]; omega)
     rw [show ((j+1:Nat):Int) - 1=(j:Int) by omega] at hf
     refine hf.mono (by omega) fun v' j' h12 h13=>?_
     unfold BF at h13 ⊢
     rw [B1j,W13] at h13
     omega
    | false=>
     simp only [J3,Bool.not_false,if_true]
     rw [T3 l e hB]
     cases h10:isT l j [125] with
     | true=>
      have h11:=R1 h10
      simp only [if_true,ob]
      rw [w1 (by omega)]
      refine .ok _ (j+1) (by omega) (by omega) ?_
      unfold BF
      rw [Gu,B1j,W13]
      simp only [List.length_nil]
      omega
     | false=>
      simp only [Bool.false_eq_true,if_false,ob]
      rw [L2 l hB,ob,h9]
      exact .pn _ j h6
   ·rw [h7,h8,ob,ob,ob]
    exact .pn _ j h6
end
theorem O1o:∀ (n k:Nat),l.length - k < n→k≤l.length→PT l e k
 | 0,k,h,_=>absurd h (Nat.not_lt_zero _)
 | n+1,k,h,hk=>by
  have IH:∀ j,k < j→j≤l.length→PT l e j:=fun j h1 h2=>O1o n j (by omega) h2
  exact ⟨N1u hl hk IH,O1u hl hk IH⟩
theorem O1g {k:Nat}(hk:k≤l.length):PT l e k:=O1o hl _ k (Nat.lt_succ_self _) hk
end
end Go.Proofs.YtmnhfbekncjnfaaGreatDoor

namespace Go.Proofs.YtmnhfbekncjnfaaGreatDoor
open Go.Am
end Go.Proofs.YtmnhfbekncjnfaaGreatDoor

namespace Go.Proofs.YtmnhfbekncjnfaaGreatDoor
open Go.Am
def Jh (k:Int)(n:Str)(t:I0)(i:Int):C0:=C0.mk k n t i (A0.mk 0 0 [] []) [] [] []
def BV (k:Nat)(v:C0)(j:Nat):Prop:=(∃ n t i,v=Jh 4 n t i)∧v.bulk≤9000 * (j - k)
def BP (k:Nat)(v:C0)(j:Nat):Prop:=(∃ n t,v=Jh 4 n t 0)∧v.bulk+9000≤9000 * (j - k)
section
set_option linter.unusedSectionVars false
variable {l:List K0}{e:Int}(hl:Tk l)
include hl
theorem W1f (k:Int)(n:Str)(t:I0)(i:Int):(Jh k n t i).bulk=n.length+t.bulk+12:=by
 unfold Jh
 simp only [C0.bulk,C0.bulks,D0.bulks,Yf,List.length_nil]
 omega
theorem J1e {k:Nat}(hk:k≤l.length):J l e (k+1) (BP k) (Z2 4 (mk l k e)) (V6 l k):=by
 have hB:=hl.1
 unfold Z2
 rw [V6,Qm l e hB,Xh l hB]
 cases h1:G6 l k 0 with
 | false=>exact .pn _ k hk
 | true=>
  have h2:=Wh h1
  have ht:=Oj hl k
  simp only [if_true,ob,Bool.not_true,Bool.not_false,cond_false]
  rw [T3 l e hB,L2 l hB,ob]
  cases h3:isT l (k+1) [58] with
  | false=>exact .pn _ (k+1) (by omega)
  | true=>
   have h4:=R1 h3
   simp only [if_true,ob,Bool.not_true,Bool.false_eq_true,if_false]
   rw [w1 (by omega)]
   refine J.bind (O1g hl (k:=k+1+1) (by omega)).typ ?_ ?_ ?_
   ·exact fun _=>rfl
   ·exact fun v j _=>⟨_,rfl⟩
   intro v j h5 h6 h0
   refine .ok _ j (by omega) h6 ⟨⟨_,_,rfl⟩,?_⟩
   have:=W1f hl 4 (txt l k) v 0
   unfold Jh at this
   unfold BT at h0
   rw [this]
   omega
theorem C1d {k j:Nat}{d:C0}(hj:j≤l.length)(hk:k≤j){P:C0→Nat→Prop}(hP:P d (j+1)){F:Pn B0→Option (Pn (C0×B0))}(hF:∀ n,F (.pn n)=some (.pn n))(hF2:∀ x,F (.ok x)=some (.ok (d,x))) :
  J l e (k+1) P (T0 [59] (mk l j e)>>=F) (Y0 l j [59]>>=fun x4=>if (!x4)=true then some (d,(j:Int),false) else some (d,IntKind.i64.wrap ((j:Int)+1),true)):=by
 have hB:=hl.1
 rw [T3 l e hB,L2 l hB,ob]
 cases h:isT l j [59] with
 | false=>simp only [Bool.false_eq_true,if_false,ob,hF,Bool.not_false,if_true]; exact .pn _ j hj
 | true=>
  have:=R1 h
  simp only [if_true,ob,hF2,Bool.not_true,Bool.false_eq_true,if_false]
  rw [w1 (by omega)]
  exact .ok _ (j+1) (by omega) (by omega) hP
theorem D1d {k:Nat}(hk:k≤l.length):J l e (k+1) (BV k) (R7 (mk l k e)) (Fg l k):=by
 have hB:=hl.1
 unfold R7 Fg
 refine J.bind (J1e hl hk) ?_ ?_ ?_
 ·exact fun _=>rfl
 ·exact fun v j _=>⟨_,rfl⟩
 rintro v j h1 h2 ⟨⟨n,t,rfl⟩,h0⟩
 have hb:∀ i (j':Nat),j≤j'→BV k (Jh 4 n t i) j':=fun i j' h=>⟨⟨n,t,i,rfl⟩,by rw [W1f hl] at h0 ⊢; omega⟩
 simp only [Bool.not_true,Bool.false_eq_true,if_false]
 rw [O2 l e hB,ob,L2 l hB,ob]
 cases h3:isT l j [61] with
 | false=>
  simp only [J3,Bool.false_eq_true,if_false]
  unfold A8
  exact C1d hl (d:=Jh 4 n t 0) h2 (by omega) (hb 0 _ (by omega)) (fun _=>rfl) (fun _=>rfl)
 | true=>
  have h4:=R1 h3
  simp only [B4,if_true]
  rw [w1 (by omega),O2 l e hB,ob,Ns,L2 l hB,ob]
  cases h5:isT l (j+1) [116,114,117,101] with
  | true=>
   have h6:=R1 h5
   simp only [B4,if_true,ob,Bool.not_true,Bool.false_eq_true,if_false]
   rw [w1 (by omega)]
   unfold A8
   exact C1d hl (d:=Jh 4 n t 1) (j:=j+1+1) (by omega) (by omega) (hb 1 _ (by omega)) (fun _=>rfl) (fun _=>rfl)
  | false=>
   simp only [J3,Bool.false_eq_true,if_false]
   rw [O2 l e hB,ob,L2 l hB,ob]
   cases h6:isT l (j+1) [102,97,108,115,101] with
   | true=>
    have h7:=R1 h6
    simp only [B4,if_true,ob,Bool.not_true,Bool.false_eq_true,if_false]
    rw [w1 (by omega)]
    unfold A8
    exact C1d hl (d:=Jh 4 n t 0) (j:=j+1+1) (by omega) (by omega) (hb 0 _ (by omega)) (fun _=>rfl) (fun _=>rfl)
   | false=>
    simp only [J3,Bool.false_eq_true,if_false]
    rcases Ss hl (e:=e) (k:=j+1) (by omega) with ⟨v,j2,h7,h8,_,h9,h10⟩ | ⟨v,j2,h8,h9,h10⟩
    ·rw [h9,h10,ob,ob,ob]
     simp only [Bool.not_true,Bool.false_eq_true,if_false]
     unfold A8
     exact C1d hl (d:=Jh 4 n t v) (j:=j2) h8 (by omega) (hb v _ (by omega)) (fun _=>rfl) (fun _=>rfl)
    ·rw [h9,h10,ob,ob,ob]
     exact .pn _ j2 h8
end
end Go.Proofs.YtmnhfbekncjnfaaGreatDoor

namespace Go.Proofs.YtmnhfbekncjnfaaGreatDoor
open Go.Am
def BS (k:Nat)(v:D0)(j:Nat):Prop:=v.bulk≤9000 * (j - k)
theorem ba {α β γ:Type}(x:Option α)(f:α→β)(g:β→Option γ):((x>>=fun a=>some (f a))>>=g)=(x>>=fun a=>g (f a)):=by cases x <;> rfl
abbrev zE:A0:=A0.mk 0 0 [] []
def X13 (l:List K0)(x:D0×Int×Bool):Option (D0×Int×Bool):=A7 l x.1.Verb x.1.Place x.1.Value x.1.Name x.1.Args x.1.NV x.1.Low x.1.High x.1.Numbers x.1.Then x.1.Else x.2.1 x.2.2
section
set_option linter.unusedSectionVars false
variable {l:List K0}{e:Int}(hl:Tk l)
include hl
theorem Hg (s:D0)(j:Int):X13 l (s,j,false)=some (s,j,false):=by cases s; rfl
theorem T1a (s:D0)(j:Nat)(hj:j≤l.length):X13 l (s,(j:Int),true)=if isT l j [59]=true then some (s,((j+1:Nat):Int),true) else some (s,(j:Int),false):=by
 have hB:=hl.1
 unfold X13 A7
 simp only [Bool.not_true,Bool.not_false,if_true,cond_false]
 rw [L2 l hB,ob]
 cases h:isT l j [59] with
 | false=>cases s; rfl
 | true=>
  have:=R1 h
  simp only [Bool.not_true,Bool.false_eq_true,if_false,if_true]
  rw [w1 (by omega)]
  cases s; rfl
theorem I18 {lo j:Nat}{s:D0}(hj:j≤l.length)(hk:lo≤j+1){P:D0→Nat→Prop}(hP:P s (j+1)){F:Pn B0→Option (Pn (D0×B0))}(hF:∀ n,F (.pn n)=some (.pn n))(hF2:∀ x,F (.ok x)=some (.ok (s,x))) :
  J l e lo P (T0 [59] (mk l j e)>>=F) (X13 l (s,(j:Int),true)):=by
 rw [T3 l e hl.1,T1a hl s j hj]
 cases h:isT l j [59] with
 | false=>simp only [Bool.false_eq_true,if_false,ob,hF]; exact .pn _ j hj
 | true=>
  have:=R1 h
  simp only [if_true,ob,hF2]
  exact .ok _ (j+1) hk (by omega) hP
theorem Ts (a:Int)(p v:A0)(n:Str)(az:List A0)(b c d:Int)(t u:List D0):(D0.mk a p v n az b c d [] t u).bulk=p.bulk+v.bulk+n.length+A0.bulks az+D0.bulks t+D0.bulks u+10:=by
 rw [D0.bulk_eq]; simp only [List.map_nil,List.sum_nil]; omega
theorem E1d:∀ (os:List A0) (t:A0),A0.bulks (os++[t])=A0.bulks os+t.bulk
 | [],t=>by simp only [List.nil_append,A0.bulks]; omega
 | x::r,t=>by simp only [List.cons_append,A0.bulks,E1d r t]; omega
theorem P1o (p:A0)(nm:Str)(x1:A0×B0)(x4:Str×B0)(h1:x1.1=p)(h4:x4.1=nm):∀ (n j:Nat) (az:List A0),l.length - j < n→j≤l.length→az.length≤j→
  J l e j (fun v j'=>v.bulk≤p.bulk+nm.length+A0.bulks az+9000 * (j' - j)+15) (O4 (mk l j e) x1 x4 az)
   ((Y0 l j [41]>>=fun x4=>if x4=true then some (az,IntKind.i64.wrap ((j:Int)+1),true) else Y0 l j [44]>>=fun x5=>if (!x5)=true then some (az,(j:Int),false) else B7 l j az)>>=fun x7=>
     X13 l (D0.mk 1 p zE nm x7.1 0 0 0 [] [] [],x7.2.1,x7.2.2))
 | 0,j,az,h,_,_=>absurd h (Nat.not_lt_zero _)
 | n+1,j,az,h,hj,ha=>by
  have hB:=hl.1
  rw [O4,O2 l e hB,ob,L2 l hB,ob]
  cases hc:isT l j [44] with
  | true=>
   have h5:=R1 hc
   have h6:isT l j [41]=false:=by
    cases h:isT l j [41] with
    | false=>rfl
    | true=>have:=(Pb hc).2.2.symm.trans (Pb h).2.2; simp at this
   simp only [h6,B4,if_true,Bool.false_eq_true,if_false]
   rw [L2 l hB,ob,hc]
   simp only [Bool.not_true,Bool.false_eq_true,if_false]
   rw [B7,w1 (by omega)]
   rcases (Aw (e:=e) hl (k:=j+1) (by omega)).expr with ⟨v,j2,h7,h8,h0,h9,h10⟩ | ⟨v,j2,h8,h9,h10⟩
   ·have r1:decide ((az.length+1) * 57≤140737488355328)=true:=decide_eq_true (by unfold BB at hB; omega)
    rw [h9,h10,ob,ob]
    simp only [r1,if_true,Bool.not_true,Bool.false_eq_true,if_false]
    refine (P1o p nm x1 x4 h1 h4 n j2 (az++[v]) (by omega) h8 (by rw [List.length_append]; simp only [List.length_singleton]; omega)).mono (by omega) fun v' j' h11 h12=>?_
    unfold BE at h0
    rw [E1d hl] at h12
    omega
   ·rw [h9,h10,ob,ob]
    simp only [Bool.not_false,if_true,ob]
    rw [Hg hl]
    exact .pn _ j2 h8
  | false=>
   simp only [J3,Bool.false_eq_true,if_false]
   rw [T3 l e hB]
   cases hd:isT l j [41] with
   | true=>
    have h5:=R1 hd
    simp only [if_true,ob]
    rw [w1 (by omega),h1,h4]
    refine I18 hl (by omega) (by omega) ?_ (fun _=>rfl) (fun _=>rfl)
    rw [Ts hl]
    simp only [D0.bulks,Yf,List.length_nil]
    omega
   | false=>
    simp only [Bool.false_eq_true,if_false,ob]
    rw [L2 l hB,ob,hc]
    simp only [Bool.not_false,if_true,ob]
    rw [Hg hl]
    exact .pn _ j hj
theorem R1q {k:Nat}(hk:k≤l.length):J l e (k+1) (BS k) (G9 (mk l k e)) (Tg l k>>=X13 l):=by
 have hB:=hl.1
 have IH:∀ j,k < j→j≤l.length→PE l e j:=fun j _ h=>Aw hl h
 unfold G9 Tg
 rcases J1k hl hk IH with ⟨v,j,h1,h2,h0,h3,h4⟩ | ⟨v,j,h2,h3,h4⟩
 case inr=>
  rw [h3,h4,ob,ob]
  simp only [Bool.not_false,Bool.not_true,Bool.false_eq_true,if_false,ob,cond_true,if_true]
  rw [Hg hl]
  exact .pn _ j h2
 unfold BE at h0
 rw [h3,h4,ob,ob]
 simp only [Bool.not_true,Bool.not_false,if_true,cond_false]
 rw [T3 l e hB,L2 l hB,ob]
 cases h5:isT l j [61] with
 | false=>
  simp only [Bool.false_eq_true,if_false,Bool.not_false,if_true,ob]
  rw [Hg hl]
  exact .pn _ j h2
 | true=>
  have h6:=R1 h5
  simp only [if_true,ob,Bool.not_true,Bool.false_eq_true,if_false]
  rw [O2 l e hB,ob,w1 (by omega),L2 l hB,ob]
  cases h7:isT l (j+1) [99,97,108,108] with
  | true=>
   have h8:=R1 h7
   have h9:isT l (j+1) [114,101,108,101,97,115,101]=false:=by
    cases h:isT l (j+1) [114,101,108,101,97,115,101] with
    | false=>rfl
    | true=>have:=(Pb h7).2.2.symm.trans (Pb h).2.2; simp at this
   simp only [h9,B4,if_true,Bool.false_eq_true,if_false]
   rw [L2 l hB,ob,h7,if_pos rfl,w1 (by omega),Qm l e hB,Xh l hB]
   cases h10:G6 l (j+1+1) 0 with
   | false=>
    simp only [Bool.false_eq_true,if_false,ob,Bool.not_false,if_true]
    rw [Hg hl]
    exact .pn _ (j+1+1) (by omega)
   | true=>
    have h11:=Wh h10
    have ht:=Oj hl (j+1+1)
    simp only [if_true,ob,Bool.not_true,Bool.false_eq_true,if_false]
    unfold Ml
    rw [T3 l e hB,L2 l hB,ob]
    cases h12:isT l (j+1+1+1) [40] with
    | false=>
     simp only [Bool.false_eq_true,if_false,ob,Bool.not_false,if_true]
     rw [Hg hl]
     exact .pn _ (j+1+1+1) (by omega)
    | true=>
     have h13:=R1 h12
     simp only [if_true,ob,Bool.not_true,Bool.false_eq_true,if_false]
     rw [F1t l e hB,ob,w1 (by omega),L2 l hB,ob]
     cases h14:isT l (j+1+1+1+1) [41] with
     | true=>
      have h15:=R1 h14
      simp only [Bool.not_true,Bool.false_eq_true,if_false,if_true,ob]
      rw [T3 l e hB,h14,if_pos rfl,ob,wr (n:=((j+1+1+1:Nat):Int)+2) (by omega) (by unfold BB at hB; omega),show ((j+1+1+1:Nat):Int)+2=((j+1+1+1+1+1:Nat):Int) by omega]
      refine I18 hl (s:=D0.mk 1 v zE (txt l (j+1+1)) [] 0 0 0 [] [] []) (by omega) (by omega) ?_ (fun _=>rfl) (fun _=>rfl)
      unfold BS
      rw [Ts hl]
      simp only [D0.bulks,A0.bulks,Yf,List.length_nil]
      omega
     | false=>
      simp only [Bool.not_false,if_true,Bool.false_eq_true,if_false]
      rw [B7,w1 (by omega)]
      rcases (Aw (e:=e) hl (k:=j+1+1+1+1) (by omega)).expr with ⟨v2,j2,k1,k2,k0,k3,k4⟩ | ⟨v2,j2,k2,k3,k4⟩
      ·rw [k3,k4,ob,ob]
       have r1:decide ((0+1) * 57≤140737488355328)=true:=by decide
       simp only [r1,if_true,Bool.not_true,Bool.false_eq_true,if_false,List.length_nil,List.nil_append]
       unfold Ma
       rw [ba]
       refine (P1o hl v (txt l (j+1+1)) (v,mk l j e) (txt l (j+1+1),mk l (j+1+1+1) e) rfl rfl (l.length - j2+1) j2 [v2] (by omega) k2 (by simp only [List.length_singleton]; omega)).mono (by omega) fun v' j' m1 m2=>?_
       unfold BS
       unfold BE at k0
       simp only [A0.bulks] at m2
       omega
      ·rw [k3,k4,ob,ob]
       simp only [Bool.not_false,if_true,ob]
       rw [Hg hl]
       exact .pn _ j2 k2
  | false=>
   simp only [J3,Bool.false_eq_true,if_false]
   rw [O2 l e hB,ob]
   cases h8:isT l (j+1) [114,101,108,101,97,115,101] with
   | true=>
    have h9:=R1 h8
    simp only [B4,if_true]
    rw [w1 (by omega),Qm l e hB,Xh l hB]
    cases h10:G6 l (j+1+1) 0 with
    | false=>
     simp only [Bool.false_eq_true,if_false,ob]
     rw [Hg hl]
     exact .pn _ (j+1+1) (by omega)
    | true=>
     have h11:=Wh h10
     have ht:=Oj hl (j+1+1)
     simp only [if_true,ob]
     refine I18 hl (s:=D0.mk 2 v zE (txt l (j+1+1)) [] 0 0 0 [] [] []) (by omega) (by omega) ?_ (fun _=>rfl) (fun _=>rfl)
     unfold BS
     rw [Ts hl]
     simp only [D0.bulks,A0.bulks,Yf,List.length_nil]
     omega
   | false=>
    simp only [J3,Bool.false_eq_true,if_false]
    rw [L2 l hB,ob,h7]
    simp only [Bool.false_eq_true,if_false]
    rcases (Aw (e:=e) hl (k:=j+1) (by omega)).expr with ⟨v2,j2,k1,k2,k0,k3,k4⟩ | ⟨v2,j2,k2,k3,k4⟩
    ·rw [k3,k4,ob,ob]
     simp only [ob]
     refine I18 hl (s:=D0.mk 0 v v2 [] [] 0 0 0 [] [] []) k2 (by omega) ?_ (fun _=>rfl) (fun _=>rfl)
     unfold BS
     unfold BE at k0
     rw [Ts hl]
     simp only [D0.bulks,A0.bulks,List.length_nil]
     omega
    ·rw [k3,k4,ob,ob]
     simp only [ob]
     rw [Hg hl]
     exact .pn _ j2 k2
end
end Go.Proofs.YtmnhfbekncjnfaaGreatDoor

namespace Go.Proofs.YtmnhfbekncjnfaaGreatDoor
open Go.Am
def A1r:Pn (D0×B0)→Pn (D0×Bool×B0)
 | .ok x=>.ok (x.1,true,x.2)
 | .pn n=>.pn n
section
set_option linter.unusedSectionVars false
variable {l:List K0}{e:Int}(hl:Tk l)
include hl
theorem U1t (a:Int)(ns:List Int):(D0.mk a zE zE [] [] 0 0 0 ns [] []).bulk=ns.length+20:=by
 rw [D0.bulk_eq]
 simp only [Yf,A0.bulks,D0.bulks,List.length_nil]
 have:(ns.map fun _=>1).sum=ns.length:=by induction ns with
  | nil=>rfl
  | cons x r ih=>simp only [List.map_cons,List.sum_cons,List.length_cons,ih]; omega
 omega
theorem S1q (k:Nat):Dm l k=some (G6 l k 0||((isT l k [111,117,116,112,117,116]||(isT l k [119,97,105,116]||(isT l k [105,102]||(isT l k [119,104,105,108,101]||(isT l k [102,111,114]||(isT l k [115,101,116,116,108,101])))))))):=by
 have hB:=hl.1
 unfold Dm
 rw [Xh l hB]
 cases G6 l k 0 with
 | true=>rfl
 | false=>
  simp only [Bool.false_eq_true,if_false,ob,Bool.not_false,if_true,L2 l hB,cond_false]
  generalize isT l k [111,117,116,112,117,116]=b0
  generalize isT l k [119,97,105,116]=b1
  generalize isT l k [105,102]=b2
  generalize isT l k [119,104,105,108,101]=b3
  generalize isT l k [102,111,114]=b4
  generalize isT l k [115,101,116,116,108,101]=b5
  cases b0 with
  | true=>rfl
  | false=>
  simp only [Bool.not_false,Bool.false_eq_true,if_true,if_false,ob,cond_false,Bool.false_or]
  cases b1 with
  | true=>rfl
  | false=>
  simp only [Bool.not_false,Bool.false_eq_true,if_true,if_false,ob,cond_false,Bool.false_or]
  cases b2 with
  | true=>rfl
  | false=>
  simp only [Bool.not_false,Bool.false_eq_true,if_true,if_false,ob,cond_false,Bool.false_or]
  cases b3 with
  | true=>rfl
  | false=>
  simp only [Bool.not_false,Bool.false_eq_true,if_true,if_false,ob,cond_false,Bool.false_or]
  cases b4 with
  | true=>rfl
  | false=>
  simp only [Bool.not_false,Bool.false_eq_true,if_true,if_false,ob,cond_false,Bool.false_or]
theorem Q1o:∀ (n j:Nat) (ns:List Int),l.length - j < n→j≤l.length→ns.length≤j→
  ∃ p:Option (Pn (D0×B0)),V4 (mk l j e) ns=p.map A1r∧
  J l e j (fun v j'=>v.bulk≤ns.length+20+9000 * (j' - j)) p
   ((Y0 l j [44]>>=fun x2=>if (!x2)=true then some (ns,(j:Int),true) else B8 l (IntKind.i64.wrap ((j:Int)+1)) ns)>>=fun x13=>
     X13 l (D0.mk 8 zE zE [] [] 0 0 0 x13.1 [] [],x13.2.1,x13.2.2))
 | 0,j,ns,h,_,_=>absurd h (Nat.not_lt_zero _)
 | n+1,j,ns,h,hj,ha=>by
  have hB:=hl.1
  rw [V4,O2 l e hB,ob,L2 l hB,ob]
  cases hc:isT l j [44] with
  | true=>
   have h5:=R1 hc
   simp only [B4,if_true,Bool.not_true,Bool.false_eq_true,if_false]
   rw [w1 (by omega),B8]
   rcases Ss hl (e:=e) (k:=j+1) (by omega) with ⟨v,j2,h7,h8,_,h9,h10⟩ | ⟨v,j2,h8,h9,h10⟩
   ·have r1:decide ((ns.length+1) * 9≤140737488355328)=true:=decide_eq_true (by unfold BB at hB; omega)
    rw [h9,h10,ob,ob]
    simp only [r1,if_true,Bool.not_true,Bool.false_eq_true,if_false]
    obtain ⟨p,e1,e2⟩:=Q1o n j2 (ns++[v]) (by omega) h8 (by rw [List.length_append]; simp only [List.length_singleton]; omega)
    refine ⟨p,e1,e2.mono (by omega) fun v' j' h11 h12=>?_⟩
    rw [List.length_append] at h12
    simp only [List.length_singleton] at h12
    omega
   ·rw [h9,h10,ob,ob]
    simp only [Bool.not_false,if_true,ob]
    rw [Hg hl]
    exact ⟨some (.pn (off l e j2)),rfl,.pn _ j2 h8⟩
  | false=>
   simp only [J3,Bool.false_eq_true,if_false,Bool.not_false,if_true,ob]
   rw [T3 l e hB,T1a hl _ j hj]
   cases h:isT l j [59] with
   | false=>exact ⟨some (.pn (off l e j)),rfl,.pn _ j hj⟩
   | true=>
    have:=R1 h
    refine ⟨some (.ok (D0.mk 8 zE zE [] [] 0 0 0 ns [] [],mk l (j+1) e)),rfl,.ok _ (j+1) (by omega) (by omega) ?_⟩
    rw [U1t hl]
    omega
end
end Go.Proofs.YtmnhfbekncjnfaaGreatDoor

namespace Go.Proofs.YtmnhfbekncjnfaaGreatDoor
open Go.Am
def JB {α:Type}(l:List K0)(e:Int)(lo:Nat)(P:α→Nat→Prop)(p:Option (Pn (α×Bool×B0)))(r:Option (α×Int×Bool)):Prop:=
 (∃ v j,lo≤j∧j≤l.length∧P v j∧p=some (.ok (v,true,mk l j e))∧r=some (v,((j:Nat):Int),true))∨
 (∃ v j,j≤l.length∧p=some (.pn (off l e j))∧r=some (v,((j:Nat):Int),false))
section
variable {l:List K0}{e:Int}{α β:Type}
theorem JB.ok {lo:Nat}{P:α→Nat→Prop}(v:α)(j:Nat)(h1:lo≤j)(h2:j≤l.length)(hP:P v j):JB l e lo P (some (.ok (v,true,mk l j e))) (some (v,((j:Nat):Int),true)):=.inl ⟨v,j,h1,h2,hP,rfl,rfl⟩
theorem JB.pn {lo:Nat}{P:α→Nat→Prop}(v:α)(j:Nat)(h2:j≤l.length):JB l e lo P (some (.pn (off l e j))) (some (v,((j:Nat):Int),false)):=.inr ⟨v,j,h2,rfl,rfl⟩
theorem JB.bind {lo lo':Nat}{P:α→Nat→Prop}{Q:β→Nat→Prop}{p:Option (Pn (α×B0))}{r:Option (α×Int×Bool)}(h:J l e lo P p r){F:Pn (α×B0)→Option (Pn (β×Bool×B0))}{g:α×Int×Bool→Option (β×Int×Bool)}(hF:∀ n,F (.pn n)=some (.pn n))
  (hg:∀ v (j:Nat),j≤l.length→∃ v',g (v,(j:Int),false)=some (v',(j:Int),false)) (hf:∀ v (j:Nat),lo≤j→j≤l.length→P v j→JB l e lo' Q (F (.ok (v,mk l j e))) (g (v,(j:Int),true))) :
  JB l e lo' Q (p>>=F) (r>>=g):=by
 rcases h with ⟨v,j,h1,h2,h0,rfl,rfl⟩ | ⟨v,j,h2,rfl,rfl⟩
 ·exact hf v j h1 h2 h0
 ·obtain ⟨v',hv⟩:=hg v j h2
  rw [ob,ob,hv,hF]
  exact .pn v' j h2
theorem JB.rsame {lo:Nat}{P:α→Nat→Prop}{p:Option (Pn (α×Bool×B0))}{r:Option (α×Int×Bool)}(h:JB l e lo P p r):JB l e lo P p (r>>=fun x=>some (x.1,x.2.1,x.2.2)):=by
 rcases h with ⟨v,j,h1,h2,h0,rfl,rfl⟩ | ⟨v,j,h2,rfl,rfl⟩
 ·exact .ok v j h1 h2 h0
 ·exact .pn v j h2
theorem JB.lift {lo:Nat}{P:α→Nat→Prop}{p:Option (Pn (α×B0))}{r:Option (α×Int×Bool)}(h:J l e lo P p r){F:Pn (α×B0)→Option (Pn (α×Bool×B0))}(hF:∀ n,F (.pn n)=some (.pn n))(hF2:∀ x,F (.ok x)=some (.ok (x.1,true,x.2))):JB l e lo P (p>>=F) r:=by
 rcases h with ⟨v,j,h1,h2,h0,rfl,rfl⟩ | ⟨v,j,h2,rfl,rfl⟩
 ·rw [ob,hF2]; exact .ok v j h1 h2 h0
 ·rw [ob,hF]; exact .pn v j h2
end
theorem JB.ofMap {l:List K0}{e:Int}{lo:Nat}{P:D0→Nat→Prop}{p:Option (Pn (D0×B0))}{r:Option (D0×Int×Bool)}(h:J l e lo P p r):JB l e lo P (p.map A1r) r:=by
 rcases h with ⟨v,j,h1,h2,h0,rfl,rfl⟩ | ⟨v,j,h2,rfl,rfl⟩
 ·exact .ok v j h1 h2 h0
 ·exact .pn v j h2
def beg (l:List K0)(k:Nat):Bool:=G6 l k 0||((isT l k [111,117,116,112,117,116]||(isT l k [119,97,105,116]||(isT l k [105,102]||(isT l k [119,104,105,108,101]||(isT l k [102,111,114]||(isT l k [115,101,116,116,108,101])))))))
theorem Gl {l:List K0}{k:Nat}{t t':Str}(h:isT l k t=true)(hn:(t == t')=false):isT l k t'=false:=by
 cases h':isT l k t' with
 | false=>rfl
 | true=>
  have:=(Pb h).2.2.symm.trans (Pb h').2.2
  rw [this] at hn
  simp at hn
theorem V1t {l:List K0}{k:Nat}(h:G6 l k 0=true)(t:Str):isT l k t=false:=by
 cases h':isT l k t with
 | false=>rfl
 | true=>rw [(Pb h').1] at h; cases h
abbrev zS:D0:=D0.mk 0 zE zE [] [] 0 0 0 [] [] []
def BL (out:List D0)(k:Nat)(v:List D0)(j:Nat):Prop:=D0.bulks v≤D0.bulks out+9000 * (j - k)
def BK (k:Nat)(v:List D0)(j:Nat):Prop:=D0.bulks v≤9000 * (j - k)
structure PS (l:List K0)(e:Int)(k:Nat):Prop where
 sts:∀ out,out.length≤k→J l e k (BL out k) (P5 (mk l k e) out) (Ta l k out)
 blk:J l e (k+1) (BK k) (I6 (mk l k e)) (Cg l k)
theorem F1d:∀ (os:List D0) (t:D0),D0.bulks (os++[t])=D0.bulks os+t.bulk
 | [],t=>by simp only [List.nil_append,D0.bulks]; omega
 | x::r,t=>by simp only [List.cons_append,D0.bulks,F1d r t]; omega
section
set_option linter.unusedSectionVars false
variable {l:List K0}{e:Int}(hl:Tk l)
include hl
theorem K1k {lo j:Nat}{s:D0}(hj:j≤l.length)(hk:lo≤j+1){P:D0→Nat→Prop}(hP:P s (j+1)){F:Pn B0→Option (Pn (D0×Bool×B0))}(hF:∀ n,F (.pn n)=some (.pn n))(hF2:∀ x,F (.ok x)=some (.ok (s,true,x))) :
  JB l e lo P (T0 [59] (mk l j e)>>=F) (X13 l (s,(j:Int),true)):=by
 rw [T3 l e hl.1,T1a hl s j hj]
 cases h:isT l j [59] with
 | false=>simp only [Bool.false_eq_true,if_false,ob,hF]; exact .pn _ j hj
 | true=>
  have:=R1 h
  simp only [if_true,ob,hF2]
  exact .ok _ (j+1) hk (by omega) hP
section
variable {k:Nat}(hk:k≤l.length)(IH:∀ j,k < j→j≤l.length→PS l e j)
include hk IH
theorem P1u (hb:beg l k=false):G7 (mk l k e)=some (.ok (zS,false,mk l k e)):=by
 have hB:=hl.1
 unfold beg at hb
 simp only [Bool.or_eq_false_iff] at hb
 obtain ⟨h0,h1,h2,h3,h4,h5,h6⟩:=hb
 rw [G7]
 simp only [U13 l e hB,O2 l e hB,h0,h1,h2,h3,h4,h5,h6,J3,ob,Bool.false_eq_true,if_false]
theorem C1v (hb:beg l k=true):JB l e (k+1) (BS k) (G7 (mk l k e)) (Nl l k):=by
 have hB:=hl.1
 rw [G7,Nl,U13 l e hB,ob]
 cases h0:G6 l k 0 with
 | true=>
  have hf:=V1t h0
  simp only [if_true,L2 l hB,ob,hf,Bool.false_eq_true,if_false]
  refine JB.lift (R1q hl hk) ?_ ?_
  ·exact fun _=>rfl
  ·exact fun _=>rfl
 | false=>
 simp only [Bool.false_eq_true,if_false]
 rw [O2 l e hB,ob]
 cases h1:isT l k [111,117,116,112,117,116] with
 | true=>
  have hlt:=R1 h1
  simp only [B4,if_true,L2 l hB,ob,h1,Gl h1 (t':=[105,102]) rfl,Gl h1 (t':=[119,104,105,108,101]) rfl,Gl h1 (t':=[102,111,114]) rfl,Bool.false_eq_true,if_false]
  rw [w1 (by omega)]
  refine JB.bind (Aw (e:=e) hl (k:=k+1) (by omega)).expr ?_ ?_ ?_
  ·exact fun _=>rfl
  ·exact fun v j _=>⟨_,Hg hl (D0.mk 3 zE v [] [] 0 0 0 [] [] []) j⟩
  intro v j h2 h3 h4
  refine K1k hl (s:=D0.mk 3 zE v [] [] 0 0 0 [] [] []) h3 (by omega) ?_ (fun _=>rfl) (fun _=>rfl)
  unfold BS
  unfold BE at h4
  rw [Ts hl]
  simp only [D0.bulks,A0.bulks,Yf,List.length_nil]
  omega
 | false=>
 simp only [J3,Bool.false_eq_true,if_false]
 rw [O2 l e hB,ob]
 cases h2:isT l k [119,97,105,116] with
 | true=>
  have hlt:=R1 h2
  simp only [B4,if_true,L2 l hB,ob,h2,h1,Gl h2 (t':=[105,102]) rfl,Gl h2 (t':=[119,104,105,108,101]) rfl,Gl h2 (t':=[102,111,114]) rfl,Bool.false_eq_true,if_false]
  rw [w1 (by omega)]
  refine JB.bind (Ss (e:=e) hl (k:=k+1) (by omega)) ?_ ?_ ?_
  ·exact fun _=>rfl
  ·exact fun v j _=>⟨_,Hg hl (D0.mk 4 zE zE [] [] v 0 0 [] [] []) j⟩
  intro v j h3 h4 _
  refine K1k hl (s:=D0.mk 4 zE zE [] [] v 0 0 [] [] []) h4 (by omega) ?_ (fun _=>rfl) (fun _=>rfl)
  unfold BS
  rw [Ts hl]
  simp only [D0.bulks,A0.bulks,Yf,List.length_nil]
  omega
 | false=>
 simp only [J3,Bool.false_eq_true,if_false]
 rw [O2 l e hB,ob]
 cases h3:isT l k [115,101,116,116,108,101] with
 | true=>
  have hlt:=R1 h3
  simp only [B4,if_true,L2 l hB,ob,h3,h2,h1,Gl h3 (t':=[105,102]) rfl,Gl h3 (t':=[119,104,105,108,101]) rfl,Gl h3 (t':=[102,111,114]) rfl,Bool.false_eq_true,if_false]
  rw [w1 (by omega),An,B8]
  rcases Ss hl (e:=e) (k:=k+1) (by omega) with ⟨v,j,h7,h8,_,h9,h10⟩ | ⟨v,j,h8,h9,h10⟩
  ·have r1:decide ((0+1) * 9≤140737488355328)=true:=by decide
   rw [h9,h10,ob,ob]
   simp only [r1,if_true,Bool.not_true,Bool.false_eq_true,if_false,List.length_nil,List.nil_append]
   obtain ⟨p,e1,e2⟩:=Q1o (e:=e) hl (l.length - j+1) j [v] (by omega) h8 (by simp only [List.length_singleton]; omega)
   rw [e1]
   refine JB.ofMap (e2.mono (by omega) fun v' j' h11 h12=>?_)
   unfold BS
   simp only [List.length_singleton] at h12
   omega
  ·rw [h9,h10,ob,ob]
   simp only [Bool.not_false,if_true,ob]
   exact (show JB l e (k+1) (BS k) (some (.pn (off l e j))) (X13 l (D0.mk 8 zE zE [] [] 0 0 0 [] [] [],(j:Int),false)) from by rw [Hg hl]; exact .pn _ j h8)
 | false=>
 simp only [J3,Bool.false_eq_true,if_false]
 rw [O2 l e hB,ob]
 cases h4:isT l k [105,102] with
 | true=>
  have hlt:=R1 h4
  simp only [B4,if_true,L2 l hB,ob,h4]
  rw [w1 (by omega)]
  refine JB.rsame ?_
  rw [Gn]
  refine JB.bind (Aw (e:=e) hl (k:=k+1) (by omega)).expr ?_ ?_ ?_
  ·exact fun _=>rfl
  ·exact fun v j _=>⟨_,rfl⟩
  intro v j h5 h6 h7
  simp only [Bool.not_true,Bool.false_eq_true,if_false]
  refine JB.bind (IH j (by omega) h6).blk ?_ ?_ ?_
  ·exact fun _=>rfl
  ·exact fun v j _=>⟨_,rfl⟩
  intro v2 j2 h8 h9 h10
  simp only [Bool.not_true,Bool.false_eq_true,if_false]
  rw [O2 l e hB,ob,L2 l hB,ob]
  unfold BE at h7
  unfold BK at h10
  cases h11:isT l j2 [101,108,115,101] with
  | true=>
   have h12:=R1 h11
   simp only [B4,if_true]
   rw [w1 (by omega)]
   refine JB.bind (IH (j2+1) (by omega) (by omega)).blk ?_ ?_ ?_
   ·exact fun _=>rfl
   ·exact fun v j _=>⟨_,rfl⟩
   intro v3 j3 h13 h14 h15
   refine .ok _ j3 (by omega) h14 ?_
   unfold BS
   unfold BK at h15
   rw [Ts hl]
   simp only [A0.bulks,Yf,List.length_nil]
   omega
  | false=>
   simp only [J3,Bool.false_eq_true,if_false]
   refine .ok _ j2 (by omega) h9 ?_
   unfold BS
   rw [Ts hl]
   simp only [A0.bulks,D0.bulks,Yf,List.length_nil]
   omega
 | false=>
 simp only [J3,Bool.false_eq_true,if_false]
 rw [O2 l e hB,ob]
 cases h5:isT l k [119,104,105,108,101] with
 | true=>
  have hlt:=R1 h5
  simp only [B4,if_true,L2 l hB,ob,h4,h5,Bool.false_eq_true,if_false]
  rw [w1 (by omega)]
  refine JB.rsame ?_
  rw [Mz]
  refine JB.bind (Aw (e:=e) hl (k:=k+1) (by omega)).expr ?_ ?_ ?_
  ·exact fun _=>rfl
  ·exact fun v j _=>⟨_,rfl⟩
  intro v j h6 h7 h8
  simp only [Bool.not_true,Bool.not_false,if_true,cond_false]
  rw [T3 l e hB,L2 l hB,ob]
  cases h9:isT l j [108,105,109,105,116] with
  | false=>exact .pn _ j h7
  | true=>
   have h10:=R1 h9
   simp only [if_true,ob,Bool.not_true,Bool.false_eq_true,if_false]
   rw [w1 (by omega)]
   refine JB.bind (Ss (e:=e) hl (k:=j+1) (by omega)) ?_ ?_ ?_
   ·exact fun _=>rfl
   ·exact fun v j _=>⟨_,rfl⟩
   intro v2 j2 h11 h12 _
   simp only [Bool.not_true,Bool.false_eq_true,if_false]
   refine JB.bind (IH j2 (by omega) h12).blk ?_ ?_ ?_
   ·exact fun _=>rfl
   ·exact fun v j _=>⟨_,rfl⟩
   intro v3 j3 h13 h14 h15
   refine .ok _ j3 (by omega) h14 ?_
   unfold BS
   unfold BE at h8
   unfold BK at h15
   rw [Ts hl]
   simp only [A0.bulks,D0.bulks,Yf,List.length_nil]
   omega
 | false=>
 simp only [J3,Bool.false_eq_true,if_false]
 rw [O2 l e hB,ob]
 cases h6:isT l k [102,111,114] with
 | false=>
  unfold beg at hb
  rw [h0,h1,h2,h3,h4,h5,h6] at hb
  cases hb
 | true=>
  have hlt:=R1 h6
  simp only [B4,if_true,L2 l hB,ob,h4,h5,h6,Bool.false_eq_true,if_false]
  rw [w1 (by omega)]
  refine JB.rsame ?_
  rw [Nu,Qm l e hB,Xh l hB]
  cases h7:G6 l (k+1) 0 with
  | false=>exact .pn _ (k+1) (by omega)
  | true=>
   have h8:=Wh h7
   have ht:=Oj hl (k+1)
   simp only [if_true,ob,Bool.not_true,Bool.not_false,cond_false]
   rw [T3 l e hB,L2 l hB,ob]
   cases h9:isT l (k+1+1) [61] with
   | false=>exact .pn _ (k+1+1) (by omega)
   | true=>
    have h10:=R1 h9
    simp only [if_true,ob,Bool.not_true,Bool.false_eq_true,if_false]
    rw [w1 (by omega)]
    refine JB.bind (Ss (e:=e) hl (k:=k+1+1+1) (by omega)) ?_ ?_ ?_
    ·exact fun _=>rfl
    ·exact fun v j _=>⟨_,rfl⟩
    intro v j h11 h12 _
    simp only [Bool.not_true,Bool.not_false,if_true,cond_false]
    rw [T3 l e hB,L2 l hB,ob]
    cases h13:isT l j [116,111] with
    | false=>exact .pn _ j h12
    | true=>
     have h14:=R1 h13
     simp only [if_true,ob,Bool.not_true,Bool.false_eq_true,if_false]
     rw [w1 (by omega)]
     refine JB.bind (Ss (e:=e) hl (k:=j+1) (by omega)) ?_ ?_ ?_
     ·exact fun _=>rfl
     ·exact fun v j _=>⟨_,rfl⟩
     intro v2 j2 h15 h16 _
     simp only [Bool.not_true,Bool.false_eq_true,if_false]
     refine JB.bind (IH j2 (by omega) h16).blk ?_ ?_ ?_
     ·exact fun _=>rfl
     ·exact fun v j _=>⟨_,rfl⟩
     intro v3 j3 h17 h18 h19
     refine .ok _ j3 (by omega) h18 ?_
     unfold BS
     unfold BK at h19
     rw [Ts hl]
     simp only [A0.bulks,D0.bulks,Yf,List.length_nil]
     omega
theorem Q1u (out:List D0)(ho:out.length≤k):J l e k (BL out k) (P5 (mk l k e) out) (Ta l k out):=by
 have hB:=hl.1
 rw [P5,Ta,S1q hl k,ob]
 cases hb:beg l k with
 | false=>
  rw [P1u hl hk IH hb,ob]
  unfold beg at hb
  rw [hb]
  simp only [Bool.not_false,if_true,Bool.false_eq_true,if_false]
  exact .ok _ k (Nat.le_refl _) hk (by unfold BL; omega)
 | true=>
  have hb':=hb
  unfold beg at hb'
  rw [hb',if_pos rfl]
  rcases C1v hl hk IH hb with ⟨v,j,h1,h2,h3,h4,h5⟩ | ⟨v,j,h2,h4,h5⟩
  ·have r1:decide ((out.length+1) * 257≤140737488355328)=true:=decide_eq_true (by unfold BB at hB; omega)
   rw [h4,h5,ob,ob]
   simp only [r1,if_true,Bool.not_true,Bool.false_eq_true,if_false]
   refine ((IH j (by omega) h2).sts (out++[v]) (by rw [List.length_append]; simp only [List.length_singleton]; omega)).mono (by omega) fun v' j' h6 h7=>?_
   unfold BL at h7 ⊢
   unfold BS at h3
   rw [F1d] at h7
   omega
  ·rw [h4,h5,ob,ob]
   simp only [Bool.not_false,if_true]
   exact .pn _ j h2
theorem R1u:J l e (k+1) (BK k) (I6 (mk l k e)) (Cg l k):=by
 have hB:=hl.1
 rw [I6,Cg,T3 l e hB,L2 l hB,ob]
 cases h1:isT l k [123] with
 | false=>exact .pn _ k hk
 | true=>
  have h2:=R1 h1
  simp only [if_true,ob,Bool.not_true,Bool.false_eq_true,if_false]
  rw [w1 (by omega),A4,K7]
  refine J.bind ((IH (k+1) (by omega) (by omega)).sts [] (Nat.zero_le _)) ?_ ?_ ?_
  ·exact fun _=>rfl
  ·exact fun v j _=>⟨_,rfl⟩
  intro v j h3 h4 h5
  simp only [Bool.not_true,Bool.not_false,if_true,cond_false]
  rw [T3 l e hB,L2 l hB,ob]
  cases h6:isT l j [125] with
  | false=>exact .pn _ j h4
  | true=>
   have h7:=R1 h6
   simp only [if_true,ob,Bool.not_true,Bool.false_eq_true,if_false]
   rw [w1 (by omega)]
   refine .ok _ (j+1) (by omega) (by omega) ?_
   unfold BK
   unfold BL at h5
   simp only [D0.bulks] at h5
   omega
end
theorem R1o:∀ (n k:Nat),l.length - k < n→k≤l.length→PS l e k
 | 0,k,h,_=>absurd h (Nat.not_lt_zero _)
 | n+1,k,h,hk=>by
  have IH:∀ j,k < j→j≤l.length→PS l e j:=fun j h1 h2=>R1o n j (by omega) h2
  exact ⟨Q1u hl hk IH,R1u hl hk IH⟩
theorem S1u {k:Nat}(hk:k≤l.length):PS l e k:=R1o hl _ k (Nat.lt_succ_self _) hk
theorem L1k {k:Nat}(hk:k≤l.length):J l e k (BK k) (A4 (mk l k e)) (K7 l k):=by
 rw [A4,K7]
 refine ((S1u hl hk).sts [] (Nat.zero_le _)).mono (Nat.le_refl _) fun v j _ h=>?_
 unfold BK
 unfold BL at h
 simp only [D0.bulks] at h
 omega
end
end Go.Proofs.YtmnhfbekncjnfaaGreatDoor

