/- A part of the proof of ParserLayout. -/
import Derived.Test.YtmnhfbekncjnfaaGreatDoorDgC
import Derived.ProofKit
import Derived.Lib.Atoi
namespace Go.Proofs.YtmnhfbekncjnfaaGreatDoor
open Go.Am
theorem ob {α β:Type}(a:α)(f:α→Option β):(some a>>=f)=f a:=rfl
theorem Z7 {α:Type}{l:List α}{k:Nat}{x:α}{r:List α}(h:l.drop k=x::r):decide ((k:Int) < (l.length:Int))=true∧idx l (k:Int)=some x∧l.drop (k+1)=r∧k < l.length∧x∈l:=by
 have hk:k < l.length:=by
  rcases Nat.lt_or_ge k l.length with h1 | h1
  ·exact h1
  ·rw [List.drop_eq_nil_of_le h1] at h; cases h
 have hx:=List.drop_eq_getElem_cons hk
 rw [h] at hx
 obtain ⟨e1,e2⟩:=List.cons.inj hx
 refine ⟨decide_eq_true (by omega),?_,e2.symm,hk,?_⟩
 ·unfold idx
  rw [if_pos (by omega),e1]
  simp [hk]
 ·rw [e1]; exact List.getElem_mem hk
theorem S4 {α:Type}{l:List α}{k:Nat}(h:l.drop k=[]):decide ((k:Int) < (l.length:Int))=false∧l.length≤k:=by
 have:=List.drop_eq_nil_iff.1 h
 exact ⟨decide_eq_false (by omega),this⟩
def BB:Nat:=68719476736
theorem wr {n:Int}(h : -4611686018427387904≤n)(h':n≤4611686018427387904):IntKind.i64.wrap n=n:=Q1f (by omega) (by omega)
theorem w1 {k:Nat}(h:k≤BB):IntKind.i64.wrap ((k:Int)+1)=((k+1:Nat):Int):=by
 unfold BB at h
 rw [wr (by omega) (by omega)]; rfl
def Me (n:Int):Bool:=bif decide (n≥97) then decide (n≤122) else false
def G9 (n:Int):Bool:=bif decide (n≥48) then decide (n≤57) else false
def S1j (i:Nat)(c:UInt8):Bool:=Me c.toNat||(i != 0&&G9 c.toNat)
def Ns:Nat→List UInt8→Bool
 | _,[]=>true
 | i,c::r=>S1j i c&&Ns (i+1) r
def word (s:List UInt8):Bool:=Ns 0 s && !(s == [])
def kw:List UInt8:=[32,116,121,112,101,32,115,101,99,114,101,116,32,112,117,98,108,105,99,32,114,97,110,100,111,109,32,118,97,114,32,104,97,116,99,104,32,102,117,110,99,32,114,101,116,117,114,110,32,98,101,103,105,110,32,101,110,100,32,98,111,111,108,32,105,110,116,32,97,114,114,97,121,32,111,102,32,114,101,99,111,114,100,32,116,114,117,101,32,102,97,108,115,101,32,99,97,108,108,32,114,101,108,101,97,115,101,32,111,117,116,112,117,116,32,119,97,105,116,32,105,102,32,101,108,115,101,32,119,104,105,108,101,32,108,105,109,105,116,32,102,111,114,32,116,111,32,115,101,116,116,108,101,32,109,105,110,32,109,97,120,32]
def Ww (s:List UInt8):Bool:=bif (bif !(s == []) then !Lib.contains s [32] else false) then Lib.contains kw ([32]++s++[32]) else false
def Eh (s:List UInt8):Bool:=bif (bif decide ((s.length:Int)≤12) then word s else false) then !Ww s else false
theorem getD_some {s:List UInt8}{k:Nat}(h:k < s.length):s[k]?=some (s.getD k 0):=by simp [List.getD,h]
def ld (c:UInt8):Bool:=bif Me c.toNat then true else G9 c.toNat
def M4:List UInt8→Nat
 | []=>0
 | c::r=>bif ld c then M4 r+1 else 0
theorem Ir:∀ s:List UInt8,M4 s≤s.length
 | []=>Nat.le_refl _
 | c::r=>by
  simp only [M4,List.length_cons]
  have:=Ir r
  cases ld c <;> simp <;> omega
def E1c (s:List UInt8):Bool:=bif ((s.length:Nat):Int) == 0 then false else bif s.all (fun c=>Me c.toNat) then Lib.contains kw ([32]++s++[32]) else false
set_option maxRecDepth 100000 in
theorem Sz:kw.length=162:=rfl
theorem S18 {s sub:List UInt8}{i:Nat}(hi:i+sub.length≤s.length)(h:((s.take (i+sub.length)).drop i == sub)=true):Lib.contains s sub=true:=by
 have ho:Lib.occAt s sub i=true:=by
  rw [Lib.occAt_iff_take s sub i hi]
  rw [List.drop_take] at h
  simpa using h
 rcases Lib.index_spec s sub with ⟨_,h2⟩ | ⟨j,h1,_⟩
 ·rw [h2 i (by omega)] at ho; cases ho
 ·unfold Lib.contains
  rw [h1]
  exact decide_eq_true (by omega)
theorem Ox {s sub:List UInt8}(h:∀ i,i+sub.length≤s.length→((s.take (i+sub.length)).drop i == sub)=false)(hne:sub≠[]):Lib.contains s sub=false:=by
 rcases Lib.index_spec s sub with ⟨h1,_⟩ | ⟨j,h1,h2,h3,_⟩
 ·unfold Lib.contains
  rw [h1]; rfl
 ·rcases Lib.occAt_room h3 with hr | hr
  ·have:=h j hr
   rw [Lib.occAt_iff_take s sub j hr] at h3
   rw [List.drop_take] at this
   have e:j+sub.length - j=sub.length:=by omega
   rw [e,h3] at this
   cases this
  ·exact absurd hr hne
set_option maxRecDepth 100000 in
theorem I1g:kw.all (fun c=>Me c.toNat||c == 32)=true:=by decide
theorem Tz {s sub:List UInt8}(h:Lib.contains s sub=true)(hne:sub≠[]):∀ c∈sub,c∈s:=by
 rcases Lib.index_spec s sub with ⟨h1,_⟩ | ⟨j,h1,h2,h3,_⟩
 ·unfold Lib.contains at h
  rw [h1] at h
  cases h
 ·rcases Lib.occAt_room h3 with hr | hr
  ·rw [Lib.occAt_iff_take s sub j hr] at h3
   have e:(s.drop j).take sub.length=sub:=by simpa using h3
   intro c hc
   rw [← e] at hc
   exact List.mem_of_mem_drop (List.mem_of_mem_take hc)
  ·exact absurd hr hne
theorem T18:ld 32=false:=by decide
theorem J1g {s:List UInt8}(h:s.all ld=true):Lib.contains s [32]=false:=by
 cases hc:Lib.contains s [32] with
 | false=>rfl
 | true=>
  have:=Tz hc (by simp) 32 (by simp)
  have:=List.all_eq_true.1 h 32 this
  rw [T18] at this
  cases this
theorem K1i {s:List UInt8}(h:s.all ld=true)(hc:Lib.contains kw ([32]++s++[32])=true):s.all (fun c=>Me c.toNat)=true:=by
 rw [List.all_eq_true]
 intro c hcs
 have h1:=Tz hc (by simp) c (by simp [hcs])
 have h2:=List.all_eq_true.1 I1g c h1
 have h3:=List.all_eq_true.1 h c hcs
 cases hl:Me c.toNat with
 | true=>rfl
 | false=>
  rw [hl,Bool.false_or,beq_iff_eq] at h2
  subst h2
  rw [T18] at h3
  cases h3
theorem Iu (n:Int):Ma n=some (Me n):=rfl
theorem Br (n:Int):V8 n=some (G9 n):=rfl
theorem V13 (s:Str)(hs:s.length≤BB):∀ (r:Str) (k:Nat),s.drop k=r→B6 s k=some (Ns k r && !(s == []))
 | [],k,h=>by rw [B6,(S4 h).1]; simp [Ns]
 | c::r,k,h=>by
  obtain ⟨h1,h2,h3,h4,_⟩:=Z7 h
  have ih:=V13 s hs r (k+1) h3
  rw [B6,h1,if_pos rfl,h2,ob,Iu,ob,w1 (by omega),ih]
  have e:((k:Int) == 0)=(k == 0):=by cases k <;> rfl
  simp only [e,Ns,S1j,bne]
  cases hl:Me c.toNat <;> cases hk:k == 0 <;> cases hd:G9 c.toNat <;> simp [Br,hd]
theorem C1e (s:Str)(hs:s.length≤BB):Kg s=some (word s):=V13 s hs s 0 rfl
theorem Px (s t:Str)(hs:s.length≤4000000000):Uh s t=some (Lib.contains s t):=by
 unfold Uh
 rw [if_pos (decide_eq_true (by omega))]
theorem C11 (s:Str)(hs:s.length≤4000000000):Y8 s=some (Ww s):=by
 unfold Y8
 have h1:decide (1+s.length≤maxLen)=true:=decide_eq_true (by unfold maxLen; omega)
 have h2:decide (([32]++s).length+1≤maxLen)=true:=decide_eq_true (by unfold maxLen; simp; omega)
 rw [Px s _ hs]
 have h3:=Px kw (([32]++s)++[32]) (by rw [Sz]; omega)
 unfold kw at h3
 unfold Ww kw
 rw [h1,h2,h3]
 cases s == [] <;> cases Lib.contains s [32] <;> simp
theorem D1e (s:Str)(hs:s.length≤BB):Yc s=some (Eh s):=by
 unfold Yc Lg Eh
 rw [C1e s hs]
 cases h:decide ((s.length:Int)≤12) with
 | false=>simp
 | true=>
  have h':s.length≤12:=by have:=of_decide_eq_true h; omega
  rw [C11 s (by omega)]
  cases word s <;> simp
theorem Ps (n:Int):Ng n=some (Me n):=rfl
theorem Ju (n:Int):Si n=some (G9 n):=rfl
theorem P1a (s:Str)(hs:s.length≤BB):∀ (r:Str) (k:Nat),s.drop k=r→Mc s k=some ((k+M4 r:Nat):Int)
 | [],k,h=>by rw [Mc,(S4 h).1]; simp [M4,ob]
 | c::r,k,h=>by
  obtain ⟨h1,h2,h3,h4,_⟩:=Z7 h
  have ih:=P1a s hs r (k+1) h3
  rw [Mc,h1,if_pos rfl,h2,ob,if_pos rfl,Ps,ob,w1 (by omega),ih]
  simp only [M4,ld]
  cases hl:Me c.toNat <;> cases hd:G9 c.toNat <;> simp [Ju,hd,ob] <;> omega
theorem K1g (s:Str)(hs:s.length≤4000000000):∀ (n k:Nat),n+k=163→(∀ i,i < k→i+([32]++s++[32]).length≤kw.length→((kw.take (i+([32]++s++[32]).length)).drop i == [32]++s++[32])=false)→
  O7 s k=some (Lib.contains kw ([32]++s++[32])):=by
 have hl:([32]++s++[32]).length=s.length+2:=by simp
 intro n
 induction n with
 | zero=>
  intro k hk hi
  rw [O7,wr (n:=(k:Int)+_) (by omega) (by omega),wr (by omega) (by omega),if_neg (by simp; omega),Ox (fun i h=>hi i (by rw [Sz] at h; omega) h) (by simp)]
 | succ n ih=>
  intro k hk hi
  rw [O7,wr (n:=(k:Int)+_) (by omega) (by omega),wr (by omega) (by omega)]
  by_cases hr:k+([32]++s++[32]).length≤kw.length
  ·have hr':=hr
   rw [Sz,hl] at hr'
   rw [if_pos (decide_eq_true (by omega))]
   have hs2:slc kw (k:Int) ((k:Int)+(s.length:Int)+2)=some ((kw.take (k+([32]++s++[32]).length)).drop k):=by
    unfold slc
    rw [if_pos ⟨by omega,by omega,by rw [Sz]; omega⟩,hl]
    rw [show ((k:Int)+(s.length:Int)+2).toNat=k+(s.length+2) by omega]
    rfl
   unfold kw at hs2
   rw [hs2,ob,if_pos (decide_eq_true (by unfold maxLen; omega)),if_pos (decide_eq_true (by unfold maxLen; simp; omega))]
   cases he:((kw.take (k+([32]++s++[32]).length)).drop k == [32]++s++[32]) with
   | true=>
    have:=S18 hr he
    rw [this]
    unfold kw at he
    rw [he,if_pos rfl]
   | false=>
    have he':=he
    unfold kw at he'
    rw [he',if_neg (by simp),w1 (by unfold BB; omega)]
    refine ih (k+1) (by omega) fun i hik=>?_
    rcases Nat.lt_or_eq_of_le (Nat.le_of_lt_succ hik) with h | h
    ·exact hi i h
    ·subst h; exact fun _=>he
  ·have hr':=hr
   rw [Sz,hl] at hr'
   rw [if_neg (by simp; omega),Ox (fun i h=>hi i (by omega) h) (by simp)]
theorem U18 (s:Str)(hs:s.length≤4000000000):∀ (r:Str) (k:Nat),s.drop k=r→P7 s k=some (bif r.all (fun c=>Me c.toNat) then Lib.contains kw ([32]++s++[32]) else false)
 | [],k,h=>by rw [P7,(S4 h).1,if_neg (by simp)]; exact K1g s hs 163 0 rfl (fun i h=>by omega)
 | c::r,k,h=>by
  obtain ⟨h1,h2,h3,h4,_⟩:=Z7 h
  have ih:=U18 s hs r (k+1) h3
  rw [P7,h1,if_pos rfl,h2,ob,Ps,ob,w1 (by unfold BB; omega),ih,List.all_cons]
  cases Me c.toNat <;> simp
theorem Z14 (s:Str)(hs:s.length≤4000000000):Og s=some (E1c s):=by
 unfold Og E1c
 have:=U18 s hs s 0 rfl
 rw [show (0:Int)=((0:Nat):Int) from rfl,this]
 cases ((s.length:Int) == ((0:Nat):Int)) <;> simp
end Go.Proofs.YtmnhfbekncjnfaaGreatDoor

set_option linter.unusedSimpArgs false
namespace Go.Proofs.YtmnhfbekncjnfaaGreatDoor
open Go.Am
theorem J0.ind {P:J0→Prop}(h:∀ t:J0,(∀ x∈t.Of,P x)→P t):∀ t,P t:=by
 intro t
 refine J0.rec (motive_1:=P) (motive_2:=fun l=>∀ x∈l,P x) ?_ ?_ ?_ t
 ·intro k l h' s n ns of ih
  exact h _ ih
 ·intro x hx; cases hx
 ·intro x r hx hr y hy
  cases hy with
  | head=>exact hx
  | tail _ hy=>exact hr y hy
mutual
def J0.depth:J0→Nat
 | .mk _ _ _ _ _ _ of=>J0.depths of+1
def J0.depths:List J0→Nat
 | []=>0
 | t::r=>max (J0.depth t) (J0.depths r)
end
theorem J0.depth_eq (t:J0):t.depth=J0.depths t.Of+1:=by cases t; simp [J0.depth,J0.Of]
def A7 (a b c:Int):Bool:=bif decide (a≥b) then decide (a≤c) else false
mutual
def J0.all (p:J0→Bool):J0→Bool
 | .mk k l h s n ns of=>p (.mk k l h s n ns of)&&J0.alls p of
def J0.alls (p:J0→Bool):List J0→Bool
 | []=>true
 | t::r=>J0.all p t&&J0.alls p r
end
theorem J0.all_eq (p:J0→Bool)(t:J0):t.all p=(p t&&J0.alls p t.Of):=by cases t; rfl
mutual
def J0.nodes:J0→Nat
 | .mk _ _ _ _ _ _ of=>J0.nodess of+1
def J0.nodess:List J0→Nat
 | []=>0
 | t::r=>J0.nodes t+J0.nodess r
end
theorem J0.nodes_eq (t:J0):t.nodes=J0.nodess t.Of+1:=by cases t; rfl
def fm1 (t:J0):Bool:=bif decide (t.Kind≥0) then decide (t.Kind≤4) else false
def fm2 (t:J0):Bool:=bif t.Kind == 1 then true else bif t.Low == 0 then t.High == 0 else false
def fm3 (t:J0):Bool:=bif t.Kind == 2 then true else t.Size == 0
def fm4 (t:J0):Bool:=bif t.Kind == 4 then true else t.Name == []
def fm5 (t:J0):Bool:=bif t.Kind == 3 then true else ((t.Names).length:Int) == 0
def fm6 (t:J0):Bool:=bif t.Kind == 2 then ((t.Of).length:Int) == 1 else bif t.Kind == 3 then (bif decide (((t.Of).length:Int)≥1) then ((t.Of).length:Int) == ((t.Names).length:Int) else false) else ((t.Of).length:Int) == 0
def nm1 (t:J0):Bool:=bif t.Kind == 2 then A7 t.Size 1 32 else bif t.Kind == 3 then decide (((t.Of).length:Int)≤32) else true
def nm2 (t:J0):Bool:=bif t.Kind == 1 then (bif A7 t.Low (-1048576) 1048576 then A7 t.High t.Low 1048576 else false) else true
def na1 (t:J0):Bool:=bif t.Kind == 4 then Eh t.Name else true
def Xw (t:J0):Bool:=fm1 t&&fm2 t&&fm3 t&&fm4 t&&fm5 t&&fm6 t
def Uz (t:J0):Bool:=nm1 t&&nm2 t
def Ot (t:J0):Bool:=na1 t&&t.Names.all Eh
theorem Xp (a b c:Bool):(a || !b || !c)=(a || !(b&&c)):=by cases a <;> cases b <;> cases c <;> rfl
def Uv (n d:Int)(f m u:Bool):Int:=
 bif (bif decide (n > 1024) then true else decide (d > 12)) then 4 else bif f then 1 else bif m then 7 else bif u then 3 else 0
def eqL {α:Type}(p:α→α→Bool):List α→List α→Bool
 | [],[]=>true
 | x::r,y::s=>p x y&&eqL p r s
 | _,_=>false
theorem Fh {α:Type}(p:α→α→Bool):∀ {l m:List α},l.length≠m.length→eqL p l m=false
 | [],[],h=>absurd rfl h
 | [],_::_,_=>rfl
 | _::_,[],_=>rfl
 | x::r,y::s,h=>by rw [eqL,Fh p (l:=r) (m:=s) (by simpa using h),Bool.and_false]
mutual
def J0.same:J0→J0→Bool
 | .mk k l h s n ns of,t=>k == t.Kind&&l == t.Low&&h == t.High&&s == t.Size&&n == t.Name&&eqL (fun x y=>x == y) ns t.Names&&J0.sames of t.Of
def J0.sames:List J0→List J0→Bool
 | [],[]=>true
 | x::r,y::s=>J0.same x y&&J0.sames r s
 | [],_::_=>false
 | _::_,[]=>false
end
theorem J0.sames_eq:∀ l m:List J0,J0.sames l m=eqL J0.same l m
 | [],[]=>rfl
 | x::r,y::s=>by simp only [J0.sames,eqL,J0.sames_eq r s]
 | [],_::_=>rfl
 | _::_,[]=>rfl
theorem J0.same_eq (t u:J0):t.same u=(t.Kind == u.Kind&&t.Low == u.Low&&t.High == u.High&&t.Size == u.Size&&t.Name == u.Name&&eqL (fun x y=>x == y) t.Names u.Names&&eqL J0.same t.Of u.Of):=by
 rw [← J0.sames_eq]
 cases t
 rfl
def A15 (t u:J0):Bool:=
 bif (bif (bif (bif (bif (bif t.Kind != u.Kind then true else t.Low != u.Low) then true else t.High != u.High) then true else t.Size != u.Size) then true else !(t.Name == u.Name)) then true else
  ((t.Names).length:Int) != ((u.Names).length:Int)) then true else ((t.Of).length:Int) != ((u.Of).length:Int)
theorem E1e {t u:J0}(h:A15 t u=true):t.same u=false:=by
 have hn:((t.Names).length:Int)≠((u.Names).length:Int)→eqL (fun x y=>x == y) t.Names u.Names=false:=fun h=>Fh _ fun e=>h (by omega)
 have ho:((t.Of).length:Int)≠((u.Of).length:Int)→eqL J0.same t.Of u.Of=false:=fun h=>Fh _ fun e=>h (by omega)
 unfold A15 at h
 rw [J0.same_eq]
 by_cases h1:((t.Names).length:Int)=((u.Names).length:Int)
 ·by_cases h2:((t.Of).length:Int)=((u.Of).length:Int)
  ·rw [h1,h2] at h
   revert h
   simp only [bne,beq_self_eq_true,Bool.not_true]
   cases t.Kind == u.Kind <;> cases t.Low == u.Low <;> cases t.High == u.High <;> cases t.Size == u.Size <;> cases t.Name == u.Name <;> simp
  ·rw [ho h2,Bool.and_false]
 ·rw [hn h1,Bool.and_false,Bool.false_and]
theorem L1g {t u:J0}(h:A15 t u=false):t.same u=(eqL (fun x y=>x == y) t.Names u.Names&&eqL J0.same t.Of u.Of)∧t.Names.length=u.Names.length∧t.Of.length=u.Of.length:=by
 unfold A15 at h
 simp only [bne] at h
 have key:t.Kind == u.Kind∧t.Low == u.Low∧t.High == u.High∧t.Size == u.Size∧t.Name == u.Name∧((t.Names).length:Int) == ((u.Names).length:Int)∧((t.Of).length:Int) == ((u.Of).length:Int):=by
  revert h
  cases t.Kind == u.Kind <;> cases t.Low == u.Low <;> cases t.High == u.High <;> cases t.Size == u.Size <;> cases t.Name == u.Name <;> cases ((t.Names).length:Int) == ((u.Names).length:Int) <;> cases ((t.Of).length:Int) == ((u.Of).length:Int) <;> simp
 obtain ⟨k1,k2,k3,k4,k5,k6,k7⟩:=key
 refine ⟨by rw [J0.same_eq,k1,k2,k3,k4,k5]; rfl,?_,?_⟩
 ·have:(t.Names.length:Int)=u.Names.length:=by simpa using k6
  omega
 ·have:(t.Of.length:Int)=u.Of.length:=by simpa using k7
  omega
end Go.Proofs.YtmnhfbekncjnfaaGreatDoor

set_option linter.unusedSimpArgs false
namespace Go.Proofs.YtmnhfbekncjnfaaGreatDoor
open Go.Am
mutual
def J0.bulk:J0→Nat
 | .mk _ _ _ _ n ns of=>1+(1+(1+(1+((n.length+1)+(((ns.map fun s=>s.length+1).sum+1)+((J0.bulks of+1)+0))))))+1
def J0.bulks:List J0→Nat
 | []=>0
 | x::r=>J0.bulk x+J0.bulks r
end
theorem J0.bulk_eq (t:J0):t.bulk=t.Name.length+(t.Names.map fun s=>s.length+1).sum+J0.bulks t.Of+8:=by cases t; simp only [J0.bulk]; omega
theorem J0.bulk_kid {t:J0}:∀ {l:List J0},t∈l→t.bulk≤J0.bulks l
 | x::r,h=>by
  simp only [J0.bulks]
  cases h with
  | head=>omega
  | tail _ h=>have:=J0.bulk_kid h; omega
theorem J0.bulk_len:∀ l:List J0,l.length≤J0.bulks l
 | []=>Nat.le_refl _
 | x::r=>by
  simp only [J0.bulks,List.length_cons]
  have:=J0.bulk_len r
  have:=J0.bulk_eq x
  omega
theorem V18 {s:Str}:∀ {l:List Str},s∈l→s.length+1≤(l.map fun s=>s.length+1).sum
 | x::r,h=>by
  simp only [List.map_cons,List.sum_cons]
  cases h with
  | head=>omega
  | tail _ h=>have:=V18 h; omega
theorem W18:∀ l:List Str,l.length≤(l.map fun s=>s.length+1).sum
 | []=>Nat.le_refl _
 | x::r=>by simp only [List.map_cons,List.sum_cons,List.length_cons]; have:=W18 r; omega
mutual
theorem J0.nodes_bulk:∀ t:J0,t.nodes≤t.bulk
 | .mk _ _ _ _ _ _ of=>by simp only [J0.nodes,J0.bulk]; have:=J0.nodess_bulk of; omega
theorem J0.nodess_bulk:∀ l:List J0,J0.nodess l≤J0.bulks l
 | []=>Nat.le_refl _
 | x::r=>by simp only [J0.nodess,J0.bulks]; have:=J0.nodes_bulk x; have:=J0.nodess_bulk r; omega
end
def Ok (t:J0):Prop:=t.bulk≤BB
theorem Ok.kid {t x:J0}(h:Ok t)(hx:x∈t.Of):Ok x:=by
 unfold Ok at *
 have:=J0.bulk_kid hx
 have:=J0.bulk_eq t
 omega
theorem Ok.ofs {t:J0}(h:Ok t):t.Of.length≤BB:=by
 unfold Ok at *
 have:=J0.bulk_len t.Of
 have:=J0.bulk_eq t
 omega
theorem Ok.names {t:J0}(h:Ok t):t.Names.length≤BB:=by
 unfold Ok at *
 have:=W18 t.Names
 have:=J0.bulk_eq t
 omega
theorem Ok.name1 {t:J0}(h:Ok t){s:Str}(hs:s∈t.Names):s.length≤BB:=by
 unfold Ok at *
 have:=V18 hs
 have:=J0.bulk_eq t
 omega
theorem Ok.name {t:J0}(h:Ok t):t.Name.length≤BB:=by
 unfold Ok at *
 have:=J0.bulk_eq t
 omega
theorem Ok.nodes {t:J0}(h:Ok t):t.nodes≤BB:=Nat.le_trans (J0.nodes_bulk t) h
theorem bor (a b:Bool):(bif a then true else b)=(a||b):=by cases a <;> rfl
theorem Y11 (d:Int)(o:I0):A6 d o=some ⟨o.nodes,max o.depth d,o.badForm,o.badName,o.badNumber⟩:=rfl
theorem Z11 (b:Bool)(o:I0):W0 b o=some ⟨o.nodes,o.depth,o.badForm || !b,o.badName,o.badNumber⟩:=by unfold W0; rw [bor]
theorem Cr (b:Bool)(o:I0):E2 b o=some ⟨o.nodes,o.depth,o.badForm,o.badName,o.badNumber || !b⟩:=by unfold E2; rw [bor]
theorem Fi (a b c:Int):T3 a b c=some (A7 a b c):=rfl
theorem Yw (s:Str)(hs:s.length≤BB)(o:I0):Y3 s o=some ⟨o.nodes,o.depth,o.badForm,o.badName || !Eh s,o.badNumber⟩:=by
 unfold Y3
 rw [D1e s hs]
 cases h:o.badName <;> simp
theorem X18 (o:I0):C6 o=some (Uv o.nodes o.depth o.badForm o.badName o.badNumber):=by
 unfold C6 Uv
 cases (bif decide (o.nodes > 1024) then true else decide (o.depth > 12)) <;> cases o.badForm <;> cases o.badName <;> cases o.badNumber <;> rfl
def Oe (o:I0)(d:Int)(n m:Nat)(f a u:Bool):I0:=⟨o.nodes+n,max o.depth (d+m),o.badForm || !f,o.badName || !a,o.badNumber || !u⟩
theorem F1e (t:J0)(d:Int)(hd:0≤d)(ht:Ok t)
  (ih:∀ x∈t.Of,∀ (d:Int) (o:I0),0≤d→d+x.nodes≤4 * BB→0≤o.nodes→o.nodes+x.nodes≤4 * BB→N6 x d o=some (Oe o d x.nodes (x.depth - 1) (x.all Xw) (x.all Ot) (x.all Uz))) :
  ∀ (r:List J0) (k:Nat) (o:I0),t.Of.drop k=r→(∀ x∈r,x∈t.Of)→d+1+J0.nodess r≤4 * BB→0≤o.nodes→o.nodes+J0.nodess r≤4 * BB→d≤o.depth→
   D7 t d o k=some (Oe o d (J0.nodess r) (J0.depths r) (J0.alls Xw r) (J0.alls Ot r) (J0.alls Uz r))
 | [],k,o,h,_,_,_,_,h5=>by
  rw [D7,(S4 h).1]
  simp only [Oe,J0.nodess,J0.depths,J0.alls,Bool.not_true,Bool.or_false]
  rw [if_neg (by simp),show o.nodes+((0:Nat):Int)=o.nodes by omega,show max o.depth (d+((0:Nat):Int))=o.depth by omega]
 | x::r,k,o,h,hm,hb,h3,h4,h5=>by
  obtain ⟨e1,e2,e3,e4,e5⟩:=Z7 h
  simp only [J0.nodess] at hb h4
  have hdp:1≤x.depth:=by rw [J0.depth_eq]; omega
  have hof:=ht.ofs
  unfold BB at hb h4 hof
  rw [D7,e1,if_pos rfl,e2,ob,wr (n:=d+1) (by omega) (by omega),ih x e5 (d+1) o (by omega) (by unfold BB; omega) h3 (by unfold BB; omega),ob,w1 (by unfold BB; omega),
   F1e t d hd ht ih r (k+1) _ e3 (fun y hy=>hm y (List.mem_cons_of_mem _ hy)) (by unfold BB; omega) (by simp only [Oe]; omega) (by simp only [Oe]; unfold BB; omega) (by simp only [Oe]; omega)]
  simp only [Oe,J0.nodess,J0.depths,J0.alls,Xp]
  rw [show o.nodes+(x.nodes:Int)+(J0.nodess r:Nat)=o.nodes+((x.nodes+J0.nodess r:Nat):Int) by omega,
   show max (max o.depth (d+1+((x.depth - 1:Nat):Int))) (d+(J0.depths r:Nat))=max o.depth (d+((max x.depth (J0.depths r):Nat):Int)) by omega]
theorem G1e (t:J0)(d:Int)(ht:Ok t)(R:I0→Option I0)(hR:∀ o,D7 t d o 0=R o) :
  ∀ (r:List Str) (k:Nat) (o:I0),t.Names.drop k=r→D6 t d o k=R ⟨o.nodes,o.depth,o.badForm,o.badName || !r.all Eh,o.badNumber⟩
 | [],k,o,h=>by
  rw [D6,(S4 h).1,if_neg (by simp),hR]
  simp
 | x::r,k,o,h=>by
  obtain ⟨e1,e2,e3,e4,e5⟩:=Z7 h
  have:=ht.names
  rw [D6,e1,if_pos rfl,e2,ob,Yw x (ht.name1 e5),ob,w1 (by omega),G1e t d ht R hR r (k+1) _ e3]
  simp only [List.all_cons,Xp]
theorem T1j (t:J0)(d:Int)(ht:Ok t)(o:I0):D9 t d o=D6 t d ⟨o.nodes,o.depth,o.badForm,o.badName || !na1 t,o.badNumber⟩ 0:=by
 rw [D9,Yw _ ht.name,ob,Eb,Eb]
 unfold na1
 cases h:t.Kind == 4 <;> simp
theorem U1j (t:J0)(d:Int)(o:I0):C9 t d o=D9 t d ⟨o.nodes,o.depth,o.badForm,o.badName,o.badNumber || !nm2 t⟩:=by
 rw [C9]
 unfold nm2
 simp only [Fi,Cr,ob]
 cases h:t.Kind == 1 <;> cases A7 t.Low (-1048576) 1048576 <;> simp [ob]
theorem V1j (t:J0):Ok t→∀ (d:Int) (o:I0),0≤d→d+t.nodes≤4 * BB→0≤o.nodes→o.nodes+t.nodes≤4 * BB→
  N6 t d o=some (Oe o d t.nodes (t.depth - 1) (t.all Xw) (t.all Ot) (t.all Uz)):=by
 induction t using J0.ind with
 | h t ih=>
 intro ht d o hd hb h3 h4
 have h5:=fun o h3 h4 hd'=>F1e t d hd ht (fun x hx=>ih x hx (ht.kid hx)) t.Of 0 o rfl (fun _ h=>h) (by rw [J0.nodes_eq] at hb; omega) h3 h4 hd'
 have l4:=G1e t d ht _ (fun o=>rfl) t.Names 0
 rw [J0.nodes_eq] at hb h4
 unfold BB at hb h4
 rw [N6]
 simp only [Y11,Z11,Fi,Cr,ob,U1j,T1j t d ht]
 rw [wr (n:=o.nodes+1) (by omega) (by omega)]
 have fin:∀ b6 u1,fm6 t=b6→nm1 t=u1→
   D6 t d ⟨o.nodes+1,max o.depth d,(((((o.badForm || !fm1 t) || !fm2 t) || !fm3 t) || !fm4 t) || !fm5 t) || !b6,o.badName || !na1 t,(o.badNumber || !u1) || !nm2 t⟩ 0
    = some (Oe o d t.nodes (t.depth - 1) (t.all Xw) (t.all Ot) (t.all Uz)):=by
  rintro _ _ rfl rfl
  have:=l4 ⟨o.nodes+1,max o.depth d,(((((o.badForm || !fm1 t) || !fm2 t) || !fm3 t) || !fm4 t) || !fm5 t) || !fm6 t,o.badName || !na1 t,(o.badNumber || !nm1 t) || !nm2 t⟩ rfl
  rw [show ((0:Nat):Int)=0 from rfl] at this h5
  rw [this,h5 _ (by simp only; omega) (by simp only; unfold BB; omega) (by simp only; omega)]
  simp only [Oe,J0.all_eq,J0.nodes_eq,J0.depth_eq,Xw,Ot,Uz,Xp,Bool.or_assoc,← Bool.not_and]
  simp only [Xp,Bool.and_assoc]
  rw [show o.nodes+1+(J0.nodess t.Of:Int)=o.nodes+((J0.nodess t.Of+1:Nat):Int) by omega,show max (max o.depth d) (d+(J0.depths t.Of:Int))=max o.depth (d+((J0.depths t.Of+1 - 1:Nat):Int)) by omega]
 have h2:(t.Kind == 2)=true∨(t.Kind == 2)=false:=by cases t.Kind == 2 <;> simp
 have h3:(t.Kind == 3)=true∨(t.Kind == 3)=false:=by cases t.Kind == 3 <;> simp
 rcases h2 with h2 | h2
 ·rw [if_pos h2]
  exact fin ((t.Of.length:Int) == 1) (A7 t.Size 1 32) (by unfold fm6; rw [h2,cond_true]) (by unfold nm1; rw [h2,cond_true])
 ·rw [if_neg (by rw [h2]; simp)]
  rcases h3 with h3 | h3
  ·rw [if_pos h3]
   exact fin (bif decide ((t.Of.length:Int)≥1) then (t.Of.length:Int) == (t.Names.length:Int) else false) (decide ((t.Of.length:Int)≤32)) (by unfold fm6; rw [h2,h3,cond_false,cond_true]) (by unfold nm1; rw [h2,h3,cond_false,cond_true])
  ·rw [if_neg (by rw [h3]; simp)]
   have:=fin ((t.Of.length:Int) == 0) true (by unfold fm6; rw [h2,h3,cond_false,cond_false]) (by unfold nm1; rw [h2,h3,cond_false,cond_false])
   rw [Bool.not_true,Bool.or_false] at this
   exact this
end Go.Proofs.YtmnhfbekncjnfaaGreatDoor

set_option linter.unusedSimpArgs false
namespace Go.Proofs.YtmnhfbekncjnfaaGreatDoor
open Go.Am
end Go.Proofs.YtmnhfbekncjnfaaGreatDoor

set_option linter.unusedSimpArgs false
set_option linter.unusedVariables false
namespace Go.Proofs.YtmnhfbekncjnfaaGreatDoor
open Go.Am
theorem A0.ind {P:A0→Prop}(h:∀ t:A0,(∀ x∈t.Kids,P x)→P t):∀ t,P t:=by
 intro t
 refine A0.rec (motive_1:=P) (motive_2:=fun l=>∀ x∈l,P x) ?_ ?_ ?_ t
 ·intro k l n of ih
  exact h _ ih
 ·intro x hx; cases hx
 ·intro x r hx hr y hy
  cases hy with
  | head=>exact hx
  | tail _ hy=>exact hr y hy
mutual
def A0.depth:A0→Nat
 | .mk _ _ _ of=>A0.depths of+1
def A0.depths:List A0→Nat
 | []=>0
 | t::r=>max (A0.depth t) (A0.depths r)
end
theorem A0.depth_eq (t:A0):t.depth=A0.depths t.Kids+1:=by cases t; simp [A0.depth,A0.Kids]
mutual
def A0.all (p:A0→Bool):A0→Bool
 | .mk k l n of=>p (.mk k l n of)&&A0.alls p of
def A0.alls (p:A0→Bool):List A0→Bool
 | []=>true
 | t::r=>A0.all p t&&A0.alls p r
end
theorem A0.all_eq (p:A0→Bool)(t:A0):t.all p=(p t&&A0.alls p t.Kids):=by cases t; rfl
mutual
def A0.nodes:A0→Nat
 | .mk _ _ _ of=>A0.nodess of+1
def A0.nodess:List A0→Nat
 | []=>0
 | t::r=>A0.nodes t+A0.nodess r
end
theorem A0.nodes_eq (t:A0):t.nodes=A0.nodess t.Kids+1:=by cases t; rfl
mutual
def A0.bulk:A0→Nat
 | .mk _ _ n ks=>1+(1+((n.length+1)+((A0.bulks ks+1)+0)))+1
def A0.bulks:List A0→Nat
 | []=>0
 | x::r=>A0.bulk x+A0.bulks r
end
theorem A0.bulk_eq (t:A0):t.bulk=t.Name.length+A0.bulks t.Kids+5:=by cases t; simp only [A0.bulk]; omega
theorem A0.bulk_kid {t:A0}:∀ {l:List A0},t∈l→t.bulk≤A0.bulks l
 | x::r,h=>by
  simp only [A0.bulks]
  cases h with
  | head=>omega
  | tail _ h=>have:=A0.bulk_kid h; omega
theorem A0.bulk_len:∀ l:List A0,l.length≤A0.bulks l
 | []=>Nat.le_refl _
 | x::r=>by
  simp only [A0.bulks,List.length_cons]
  have:=A0.bulk_len r
  have:=A0.bulk_eq x
  omega
mutual
theorem A0.nodes_bulk:∀ t:A0,t.nodes≤t.bulk
 | .mk _ _ _ of=>by simp only [A0.nodes,A0.bulk]; have:=A0.nodess_bulk of; omega
theorem A0.nodess_bulk:∀ l:List A0,A0.nodess l≤A0.bulks l
 | []=>Nat.le_refl _
 | x::r=>by simp only [A0.nodess,A0.bulks]; have:=A0.nodes_bulk x; have:=A0.nodess_bulk r; omega
end
def OkE (t:A0):Prop:=t.bulk≤BB
theorem OkE.kid {t x:A0}(h:OkE t)(hx:x∈t.Kids):OkE x:=by
 unfold OkE at *
 have:=A0.bulk_kid hx
 have:=A0.bulk_eq t
 omega
theorem OkE.kids {t:A0}(h:OkE t):t.Kids.length≤BB:=by
 unfold OkE at *
 have:=A0.bulk_len t.Kids
 have:=A0.bulk_eq t
 omega
theorem OkE.name {t:A0}(h:OkE t):t.Name.length≤BB:=by
 unfold OkE at *
 have:=A0.bulk_eq t
 omega
theorem OkE.nodes {t:A0}(h:OkE t):t.nodes≤BB:=Nat.le_trans (A0.nodes_bulk t) h
def ar (o:Int):Int:=
 bif (bif (bif (bif (o == 0) then true else (o == 1)) then true else (o == 2)) then true else (o == 3)) then 0
 else bif (bif (bif (o == 4) then true else (o == 6)) then true else (o == 7)) then 1
 else bif (bif (o == 5) then true else (bif (decide (o≥8)) then (decide (o≤22)) else false)) then 2
 else bif (o == 23) then 3 else -1
theorem M1g (o:Int):Be o=some (ar o):=by
 by_cases h:o=23
 ·subst h; rfl
 have h':(o == 23)=false:=beq_eq_false_iff_ne.2 h
 simp only [Be,V7,H9,ar,h']
 cases o == 0 <;> cases o == 1 <;> cases o == 2 <;> cases o == 3 <;> first | rfl | skip
 cases o == 4 <;> cases o == 6 <;> cases o == 7 <;> first | rfl | skip
 cases o == 5 <;> cases (bif decide (o≥8) then decide (o≤22) else false) <;> rfl
mutual
def A0.place:A0→Bool
 | .mk op _ _ ks=>bif op == 3 then true else bif (bif op == 4 then true else op == 5) then A0.place1 ks else false
def A0.place1:List A0→Bool
 | []=>false
 | x::_=>A0.place x
end
theorem A0.place_eq (e:A0):e.place=(bif e.Op == 3 then true else bif (bif e.Op == 4 then true else e.Op == 5) then A0.place1 e.Kids else false):=by cases e; simp only [A0.place]
theorem b3 {o:Int}(h:(bif o == 4 then true else o == 5)=true):(o == 3)=false:=by
 apply beq_eq_false_iff_ne.2
 rintro rfl
 cases h
theorem A16 (e:A0):Lc e=some e.place:=by
 unfold Lc
 induction e using A0.ind with
 | h e ih=>
 rw [W7,A0.place_eq]
 cases hb:(bif e.Op == 4 then true else e.Op == 5) with
 | false=>cases e.Op == 3 <;> simp
 | true=>
  rw [b3 hb]
  cases hk:e.Kids with
  | nil=>rfl
  | cons k r=>
   have:=ih k (by rw [hk]; simp)
   have h0:idx (k::r) 0=some k:=rfl
   have h1:(((k::r).length:Int) == 0)=false:=beq_eq_false_iff_ne.2 (by simp only [List.length_cons]; omega)
   simp only [h1,h0,ob,this,cond_true,cond_false,A0.place1]
   simp
def ef1 (e:A0):Bool:=ar e.Op == (e.Kids.length:Int)
def ef2 (e:A0):Bool:=bif e.NV == 0 then true else e.Op == 0
def ef3 (e:A0):Bool:=bif e.Name == [] then true else bif e.Op == 3 then true else e.Op == 4
def ef4 (e:A0):Bool:=bif (bif e.Op == 4 then true else e.Op == 5) then e.place else true
def Bl (e:A0):Bool:=ef1 e&&ef2 e&&ef3 e&&ef4 e
def Ib (e:A0):Bool:=bif (bif e.Op == 3 then true else e.Op == 4) then Eh e.Name else true
def Jb (e:A0):Bool:=bif e.Op == 0 then A7 e.NV 0 1048576 else true
def Vz (e:A0):Int:=Uv e.nodes e.depth (!e.all Bl) (!e.all Ib) (!e.all Jb)
theorem Q1a (e:A0)(d:Int)(hd:0≤d)(ht:OkE e)
  (ih:∀ x∈e.Kids,∀ (d:Int) (o:I0),0≤d→d+x.nodes≤4 * BB→0≤o.nodes→o.nodes+x.nodes≤4 * BB→X2 x d o=some (Oe o d x.nodes (x.depth - 1) (x.all Bl) (x.all Ib) (x.all Jb))) :
  ∀ (r:List A0) (k:Nat) (o:I0),e.Kids.drop k=r→d+1+A0.nodess r≤4 * BB→0≤o.nodes→o.nodes+A0.nodess r≤4 * BB→d≤o.depth→
   B4 e d o k=some (Oe o d (A0.nodess r) (A0.depths r) (A0.alls Bl r) (A0.alls Ib r) (A0.alls Jb r))
 | [],k,o,h,_,_,_,h5=>by
  rw [B4,(S4 h).1]
  simp only [Oe,A0.nodess,A0.depths,A0.alls,Bool.not_true,Bool.or_false]
  rw [if_neg (by simp),show o.nodes+((0:Nat):Int)=o.nodes by omega,show max o.depth (d+((0:Nat):Int))=o.depth by omega]
 | x::r,k,o,h,hb,h3,h4,h5=>by
  obtain ⟨e1,e2,e3,e4,e5⟩:=Z7 h
  simp only [A0.nodess] at hb h4
  have hdp:1≤x.depth:=by rw [A0.depth_eq]; omega
  have hof:=ht.kids
  unfold BB at hb h4 hof
  rw [B4,e1,if_pos rfl,e2,ob,wr (n:=d+1) (by omega) (by omega),ih x e5 (d+1) o (by omega) (by unfold BB; omega) h3 (by unfold BB; omega),ob,w1 (by unfold BB; omega),
   Q1a e d hd ht ih r (k+1) _ e3 (by unfold BB; omega) (by simp only [Oe]; omega) (by simp only [Oe]; unfold BB; omega) (by simp only [Oe]; omega)]
  simp only [Oe,A0.nodess,A0.depths,A0.alls,Xp]
  rw [show o.nodes+(x.nodes:Int)+(A0.nodess r:Nat)=o.nodes+((x.nodes+A0.nodess r:Nat):Int) by omega,
   show max (max o.depth (d+1+((x.depth - 1:Nat):Int))) (d+(A0.depths r:Nat))=max o.depth (d+((max x.depth (A0.depths r):Nat):Int)) by omega]
theorem N1g (e:A0)(ht:OkE e)(d:Int)(o:I0):S6 e d o=B4 e d ⟨o.nodes,o.depth,o.badForm,o.badName || !Ib e,o.badNumber || !Jb e⟩ 0:=by
 rw [S6,Yw _ ht.name,ob]
 simp only [C8,D8,Fi,Cr,ob]
 unfold Ib Jb
 cases (bif e.Op == 3 then true else e.Op == 4) <;> cases e.Op == 0 <;> simp
theorem Y18 (e:A0):OkE e→∀ (d:Int) (o:I0),0≤d→d+e.nodes≤4 * BB→0≤o.nodes→o.nodes+e.nodes≤4 * BB→
  X2 e d o=some (Oe o d e.nodes (e.depth - 1) (e.all Bl) (e.all Ib) (e.all Jb)):=by
 induction e using A0.ind with
 | h e ih=>
 intro ht d o hd hb h3 h4
 have h5:=fun o h3 h4 hd'=>Q1a e d hd ht (fun x hx=>ih x hx (ht.kid hx)) e.Kids 0 o rfl (by rw [A0.nodes_eq] at hb; omega) h3 h4 hd'
 rw [A0.nodes_eq] at hb h4
 unfold BB at hb h4
 rw [X2]
 simp only [Y11,Z11,M1g,A16,ob,N1g e ht]
 rw [wr (n:=o.nodes+1) (by omega) (by omega)]
 rw [show ((0:Nat):Int)=0 from rfl] at h5
 have fin:∀ f:Bool,ef4 e=f→B4 e d ⟨o.nodes+1,max o.depth d,(((o.badForm || !ef1 e) || !ef2 e) || !ef3 e) || !f,o.badName || !Ib e,o.badNumber || !Jb e⟩ 0=some (Oe o d e.nodes (e.depth - 1) (e.all Bl) (e.all Ib) (e.all Jb)):=by
  rintro _ rfl
  rw [h5 _ (by simp only; omega) (by simp only; unfold BB; omega) (by simp only; omega)]
  simp only [Oe,A0.all_eq,A0.nodes_eq,A0.depth_eq,Bl,Xp,Bool.or_assoc,← Bool.not_and]
  simp only [Xp,Bool.and_assoc]
  rw [show o.nodes+1+(A0.nodess e.Kids:Int)=o.nodes+((A0.nodess e.Kids+1:Nat):Int) by omega,show max (max o.depth d) (d+(A0.depths e.Kids:Int))=max o.depth (d+((A0.depths e.Kids+1 - 1:Nat):Int)) by omega]
 cases hb:(bif e.Op == 4 then true else e.Op == 5) with
 | true=>
  rw [if_pos rfl]
  exact fin e.place (by unfold ef4; rw [hb]; rfl)
 | false=>
  rw [if_neg (by simp)]
  have:=fin true (by unfold ef4; rw [hb]; rfl)
  rw [Bool.not_true,Bool.or_false] at this
  exact this
theorem Z18 (e:A0)(ht:OkE e):Ha e=some (Vz e):=by
 have hn:=ht.nodes
 unfold BB at hn
 have hp:1≤e.depth:=by rw [A0.depth_eq]; omega
 unfold Ha
 rw [Y18 e ht 1 _ (by omega) (by unfold BB; omega) (by simp) (by simp only; unfold BB; omega),ob,X18,ob]
 unfold Oe Vz
 simp only [Bool.false_or]
 rw [show (0:Int)+(e.nodes:Int)=e.nodes by omega,show max 0 ((1:Int)+((e.depth - 1:Nat):Int))=e.depth by omega]
end Go.Proofs.YtmnhfbekncjnfaaGreatDoor

set_option linter.unusedSimpArgs false
set_option linter.unusedVariables false
namespace Go.Proofs.YtmnhfbekncjnfaaGreatDoor
open Go.Am
end Go.Proofs.YtmnhfbekncjnfaaGreatDoor

namespace Go.Proofs.YtmnhfbekncjnfaaGreatDoor
open Go.Am
end Go.Proofs.YtmnhfbekncjnfaaGreatDoor

set_option linter.unusedSimpArgs false
set_option linter.unusedVariables false
namespace Go.Proofs.YtmnhfbekncjnfaaGreatDoor
open Go.Am
end Go.Proofs.YtmnhfbekncjnfaaGreatDoor

set_option linter.unusedSimpArgs false
set_option linter.unusedVariables false
namespace Go.Proofs.YtmnhfbekncjnfaaGreatDoor
open Go.Am
end Go.Proofs.YtmnhfbekncjnfaaGreatDoor

set_option linter.unusedSimpArgs false
set_option linter.unusedVariables false
set_option maxHeartbeats 800000
namespace Go.Proofs.YtmnhfbekncjnfaaGreatDoor
open Go.Am
def Qj:Bool→List Str→List Str→Str
 | f,n::ns,t::ts=>(bif f then [] else [44,32])++(n++[58,32]++t)++Qj false ns ts
 | _,_,_=>[]
end Go.Proofs.YtmnhfbekncjnfaaGreatDoor

set_option linter.unusedSimpArgs false
set_option linter.unusedVariables false
namespace Go.Proofs.YtmnhfbekncjnfaaGreatDoor
open Go.Am
theorem Zw {α:Type}{l:List α}{k:Nat}(h:k < l.length):∃ y,idx l (k:Int)=some y∧l.drop k=y::l.drop (k+1)∧y∈l:=by
 refine ⟨l[k],?_,List.drop_eq_getElem_cons h,List.getElem_mem h⟩
 unfold idx
 rw [if_pos (by omega)]
 simp [h]
theorem z0:(0:Int)=((0:Nat):Int):=rfl
theorem Rj {α:Type}{p:α→α→Bool}:∀ l:List α,(∀ x∈l,p x x=true)→eqL p l l=true
 | [],_=>rfl
 | x::r,h=>by rw [eqL,h x List.mem_cons_self,Rj r fun y hy=>h y (List.mem_cons_of_mem _ hy)]; rfl
theorem B16 (t u:J0)(ht:Ok t)(hl:t.Of.length=u.Of.length)(ih:∀ x∈t.Of,∀ y,K9 x y=some (x.same y)) :
  ∀ (r:List J0) (k:Nat),t.Of.drop k=r→O8 t u k=some (eqL J0.same r (u.Of.drop k))
 | [],k,h=>by
  rw [O8,(S4 h).1,if_neg (by simp),List.drop_eq_nil_of_le (by have:=(S4 h).2; omega)]; rfl
 | x::r,k,h=>by
  obtain ⟨e1,e2,e3,e4,e5⟩:=Z7 h
  obtain ⟨y,f1,f2,f3⟩:=Zw (l:=u.Of) (k:=k) (by omega)
  have:=ht.ofs
  rw [O8,e1,if_pos rfl,e2,ob,f1,ob,ih x e5 y,ob,w1 (by omega),B16 t u ht hl ih r (k+1) e3,f2,eqL]
  cases x.same y <;> simp
theorem C16 (t u:J0)(ht:Ok t)(hl:t.Names.length=u.Names.length)(b:Bool)(hb:O8 t u 0=some b) :
  ∀ (r:List Str) (k:Nat),t.Names.drop k=r→Ta t u k=some (eqL (fun x y=>x == y) r (u.Names.drop k)&&b)
 | [],k,h=>by
  rw [Ta,(S4 h).1,if_neg (by simp),List.drop_eq_nil_of_le (by have:=(S4 h).2; omega),hb]; rfl
 | x::r,k,h=>by
  obtain ⟨e1,e2,e3,e4,e5⟩:=Z7 h
  obtain ⟨y,f1,f2,f3⟩:=Zw (l:=u.Names) (k:=k) (by omega)
  have:=ht.names
  rw [Ta,e1,if_pos rfl,e2,ob,f1,ob,w1 (by omega),C16 t u ht hl b hb r (k+1) e3,f2,eqL]
  cases x == y <;> simp
theorem H1e (t:J0):Ok t→∀ u,K9 t u=some (t.same u):=by
 induction t using J0.ind with
 | h t ih=>
 intro ht u
 have ih':=fun x hx=>ih x hx (ht.kid hx)
 rw [K9]
 show (if A15 t u=true then _ else _)=_
 cases hd:A15 t u with
 | true=>rw [if_pos rfl,E1e hd]
 | false=>
  obtain ⟨h1,h2,h3⟩:=L1g hd
  have h4:=B16 t u ht h3 ih' t.Of 0 rfl
  have h5:=C16 t u ht h2 _ h4 t.Names 0 rfl
  rw [if_neg (by simp),z0,h5,h1]
  rfl
theorem I1e (t:J0):t.same t=true:=by
 induction t using J0.ind with
 | h t ih=>
 rw [J0.same_eq,Rj t.Names (fun x _=>by simp),Rj t.Of ih]
 simp
theorem A19 (s u:List Str)(hs:s.length≤BB)(hl:s.length=u.length):∀ (r:List Str) (k:Nat),s.drop k=r→I3 s u k=some (eqL (fun x y=>x == y) r (u.drop k))
 | [],k,h=>by
  rw [I3,(S4 h).1,if_neg (by simp),List.drop_eq_nil_of_le (by have:=(S4 h).2; omega)]; rfl
 | x::r,k,h=>by
  obtain ⟨e1,e2,e3,e4,e5⟩:=Z7 h
  obtain ⟨y,f1,f2,f3⟩:=Zw (l:=u) (k:=k) (by omega)
  rw [I3,e1,if_pos rfl,e2,ob,f1,ob,w1 (by omega),A19 s u hs hl r (k+1) e3,f2,eqL]
  cases x == y <;> simp
theorem J1e (s u:List Str)(hs:s.length≤BB):H7 s u=some (eqL (fun x y=>x == y) s u):=by
 unfold H7
 by_cases hl:s.length=u.length
 ·rw [if_neg (by simp; omega),z0,A19 s u hs hl s 0 rfl]; rfl
 ·rw [if_pos (by simp; omega),Fh _ hl]
theorem B19 (s u:List J0)(hs:s.length≤BB)(hl:s.length=u.length)(ih:∀ x∈s,∀ y,Q8 x y=some (x.same y)) :
  ∀ (r:List J0) (k:Nat),s.drop k=r→Y1 s u k=some (eqL J0.same r (u.drop k))
 | [],k,h=>by
  rw [Y1,(S4 h).1,if_neg (by simp),List.drop_eq_nil_of_le (by have:=(S4 h).2; omega)]; rfl
 | x::r,k,h=>by
  obtain ⟨e1,e2,e3,e4,e5⟩:=Z7 h
  obtain ⟨y,f1,f2,f3⟩:=Zw (l:=u) (k:=k) (by omega)
  rw [Y1,e1,if_pos rfl,e2,ob,f1,ob,ih x e5 y,ob,w1 (by omega),B19 s u hs hl ih r (k+1) e3,f2,eqL]
  cases x.same y <;> simp
theorem F1c (t:J0):Ok t→∀ u,Q8 t u=some (t.same u):=by
 induction t using J0.ind with
 | h t ih=>
 intro ht u
 have ih':=fun x hx=>ih x hx (ht.kid hx)
 have hO:L3 t.Of u.Of=some (eqL J0.same t.Of u.Of):=by
  rw [L3]
  by_cases hl:t.Of.length=u.Of.length
  ·rw [if_neg (by simp; omega),z0,B19 t.Of u.Of ht.ofs hl ih' t.Of 0 rfl]; rfl
  ·rw [if_pos (by simp; omega),Fh _ hl]
 rw [Q8,hO,J1e _ _ ht.names,J0.same_eq]
 generalize eqL J0.same t.Of u.Of=a
 generalize eqL (fun x y=>x == y) t.Names u.Names=b
 cases t.Kind == u.Kind <;> cases t.Low == u.Low <;> cases t.High == u.High <;> cases t.Size == u.Size <;> cases t.Name == u.Name <;> cases b <;> cases a <;> rfl
mutual
def A0.same:A0→A0→Bool
 | .mk o n nm ks,t=>o == t.Op&&n == t.NV&&nm == t.Name&&A0.sames ks t.Kids
def A0.sames:List A0→List A0→Bool
 | [],[]=>true
 | x::r,y::s=>A0.same x y&&A0.sames r s
 | [],_::_=>false
 | _::_,[]=>false
end
theorem A0.sames_eq:∀ l m:List A0,A0.sames l m=eqL A0.same l m
 | [],[]=>rfl
 | x::r,y::s=>by simp only [A0.sames,eqL,A0.sames_eq r s]
 | [],_::_=>rfl
 | _::_,[]=>rfl
theorem A0.same_eq (t u:A0):t.same u=(t.Op == u.Op&&t.NV == u.NV&&t.Name == u.Name&&eqL A0.same t.Kids u.Kids):=by
 rw [← A0.sames_eq]
 cases t
 rfl
theorem K1e (s u:List A0)(hs:s.length≤BB)(hl:s.length=u.length)(ih:∀ x∈s,∀ y,E7 x y=some (x.same y)) :
  ∀ (r:List A0) (k:Nat),s.drop k=r→Z1 s u k=some (eqL A0.same r (u.drop k))
 | [],k,h=>by
  rw [Z1,(S4 h).1,if_neg (by simp),List.drop_eq_nil_of_le (by have:=(S4 h).2; omega)]; rfl
 | x::r,k,h=>by
  obtain ⟨e1,e2,e3,e4,e5⟩:=Z7 h
  obtain ⟨y,f1,f2,f3⟩:=Zw (l:=u) (k:=k) (by omega)
  rw [Z1,e1,if_pos rfl,e2,ob,f1,ob,ih x e5 y,ob,w1 (by omega),K1e s u hs hl ih r (k+1) e3,f2,eqL]
  cases x.same y <;> simp
theorem O1g (s u:List A0)(hs:s.length≤BB)(ih:∀ x∈s,∀ y,E7 x y=some (x.same y)):M3 s u=some (eqL A0.same s u):=by
 rw [M3]
 by_cases hl:s.length=u.length
 ·rw [if_neg (by simp; omega),z0,K1e s u hs hl ih s 0 rfl]; rfl
 ·rw [if_pos (by simp; omega),Fh _ hl]
theorem G1c (t:A0):OkE t→∀ u,E7 t u=some (t.same u):=by
 induction t using A0.ind with
 | h t ih=>
 intro ht u
 rw [E7,O1g t.Kids u.Kids ht.kids (fun x hx=>ih x hx (ht.kid hx)),A0.same_eq]
 generalize eqL A0.same t.Kids u.Kids=a
 cases t.Op == u.Op <;> cases t.NV == u.NV <;> cases t.Name == u.Name <;> cases a <;> rfl
theorem L1e (t u:A0)(ht:OkE t)(hl:t.Kids.length=u.Kids.length)(ih:∀ x∈t.Kids,∀ y,Q3 x y=some (x.same y)) :
  ∀ (r:List A0) (k:Nat),t.Kids.drop k=r→Z6 t u k=some (eqL A0.same r (u.Kids.drop k))
 | [],k,h=>by
  rw [Z6,(S4 h).1,if_neg (by simp),List.drop_eq_nil_of_le (by have:=(S4 h).2; omega)]; rfl
 | x::r,k,h=>by
  obtain ⟨e1,e2,e3,e4,e5⟩:=Z7 h
  obtain ⟨y,f1,f2,f3⟩:=Zw (l:=u.Kids) (k:=k) (by omega)
  have:=ht.kids
  rw [Z6,e1,if_pos rfl,e2,ob,f1,ob,ih x e5 y,ob,w1 (by omega),L1e t u ht hl ih r (k+1) e3,f2,eqL]
  cases x.same y <;> simp
theorem Qm (t:A0):OkE t→∀ u,Q3 t u=some (t.same u):=by
 induction t using A0.ind with
 | h t ih=>
 intro ht u
 have ih':=fun x hx=>ih x hx (ht.kid hx)
 rw [Q3,A0.same_eq]
 by_cases hl:t.Kids.length=u.Kids.length
 ·have h4:=L1e t u ht hl ih' t.Kids 0 rfl
  have hb:(bif (bif (bif (t.Op != u.Op) then true else (t.NV != u.NV)) then true else (!(t.Name == u.Name))) then true else ((t.Kids.length:Int) != (u.Kids.length:Int))) = !(t.Op == u.Op&&t.NV == u.NV&&t.Name == u.Name):=by
   have:((t.Kids.length:Int) != (u.Kids.length:Int))=false:=by simp; omega
   rw [this]
   unfold bne
   cases t.Op == u.Op <;> cases t.NV == u.NV <;> cases t.Name == u.Name <;> rfl
  rw [hb,z0,h4]
  cases (t.Op == u.Op&&t.NV == u.NV&&t.Name == u.Name) <;> simp
 ·have:((t.Kids.length:Int) != (u.Kids.length:Int))=true:=by simp; omega
  rw [this,Fh _ hl,Bool.and_false]
  generalize (bif (bif (t.Op != u.Op) then true else (t.NV != u.NV)) then true else (!(t.Name == u.Name)))=b
  cases b <;> rfl
theorem Rm (t:A0):t.same t=true:=by
 induction t using A0.ind with
 | h t ih=>
 rw [A0.same_eq,Rj t.Kids ih]
 simp
def Pt (e:A0):Bool:=e.same ⟨0,0,[],[]⟩
def Qt (t:J0):Bool:=t.same ⟨0,0,0,0,[],[],[]⟩
theorem P1g {e:A0}(h:Pt e=true):e=⟨0,0,[],[]⟩:=by
 unfold Pt at h
 rw [A0.same_eq] at h
 obtain ⟨o,n,nm,ks⟩:=e
 simp only [Bool.and_eq_true,beq_iff_eq] at h
 obtain ⟨⟨⟨rfl,rfl⟩,rfl⟩,h4⟩:=h
 cases ks with
 | nil=>rfl
 | cons x r=>cases h4
theorem Q1g {t:J0}(h:Qt t=true):t=⟨0,0,0,0,[],[],[]⟩:=by
 unfold Qt at h
 rw [J0.same_eq] at h
 obtain ⟨a,b,c,d,nm,ns,ks⟩:=t
 simp only [Bool.and_eq_true,beq_iff_eq] at h
 obtain ⟨⟨⟨⟨⟨⟨rfl,rfl⟩,rfl⟩,rfl⟩,rfl⟩,h5⟩,h4⟩:=h
 cases ks with
 | nil=>
  cases ns with
  | nil=>rfl
  | cons x r=>cases h5
 | cons x r=>cases h4
end Go.Proofs.YtmnhfbekncjnfaaGreatDoor

namespace Go.Proofs.YtmnhfbekncjnfaaGreatDoor
open Go.Am
mutual
def E0.bulk:E0→Nat
 | .mk y0 y1 y2 y3 y4 y5 y6 y7 y8 y9 y10=>1+(A0.bulk y1+(A0.bulk y2+((y3.length+1)+((A0.bulks y4+1)+(1+(1+(1+(((y8.map fun _=>1).sum+1)+((E0.bulks y9+1)+((E0.bulks y10+1)+(0)))))))))))+1
def E0.bulks:List E0→Nat
 | []=>0
 | x::r=>E0.bulk x+E0.bulks r
end
mutual
def D0.bulk:D0→Nat
 | .mk y0 y1 y2 y3 y4 y5 y6 y7=>1+((y1.length+1)+(J0.bulk y2+(1+(A0.bulk y4+((D0.bulks y5+1)+((D0.bulks y6+1)+((E0.bulks y7+1)+(0))))))))+1
def D0.bulks:List D0→Nat
 | []=>0
 | x::r=>D0.bulk x+D0.bulks r
end
mutual
def B1.bulk:B1→Nat
 | .mk y0 y1=>(D0.bulks y0+1)+((E0.bulks y1+1)+(0))+1
def B1.bulks:List B1→Nat
 | []=>0
 | x::r=>B1.bulk x+B1.bulks r
end
end Go.Proofs.YtmnhfbekncjnfaaGreatDoor

set_option linter.unusedSimpArgs false
set_option linter.unusedVariables false
set_option maxHeartbeats 1000000
namespace Go.Proofs.YtmnhfbekncjnfaaGreatDoor
open Go.Am
def uPl (v:Int):Bool:=bif (bif (v == 0) then true else (v == 1)) then true else (v == 2)
def uVa (v:Int):Bool:=bif (bif (bif (v == 0) then true else (v == 3)) then true else (v == 5)) then true else (v == 6)
def uNm (v:Int):Bool:=bif (bif (v == 1) then true else (v == 2)) then true else (v == 7)
def uNn (v:Int):Bool:=bif (v == 4) then true else (v == 6)
def uTh (v:Int):Bool:=bif (bif (v == 5) then true else (v == 6)) then true else (v == 7)
def okV (v:Int):Bool:=!(bif decide (v < 0) then true else decide (v > 8))
def stU (v:Int):W2×Bool:=(⟨uPl v,uVa v,uNm v,v == 1,uNn v,v == 7,v == 8,uTh v,v == 5⟩,okV v)
theorem C19 (v:Int):Ee v=some (stU v):=by
 have h:(v < 0∨8 < v)∨v=0∨v=1∨v=2∨v=3∨v=4∨v=5∨v=6∨v=7∨v=8:=by omega
 rcases h with h | rfl | rfl | rfl | rfl | rfl | rfl | rfl | rfl | rfl
 ·have f:∀ k:Int,0≤k∧k≤8→(v == k)=false:=fun k hk=>beq_eq_false_iff_ne.2 (by omega)
  have hv:okV v=false:=by
   unfold okV
   rcases h with h | h
   ·rw [decide_eq_true h]; rfl
   ·rw [decide_eq_true (show v > 8 from h)]; cases decide (v < 0) <;> rfl
  unfold Ee stU uPl uVa uNm uNn uTh
  rw [hv]
  simp only [f 0 (by decide),f 1 (by decide),f 2 (by decide),f 3 (by decide),f 4 (by decide),f 5 (by decide),f 6 (by decide),f 7 (by decide),f 8 (by decide)]
  rfl
 all_goals rfl
def oN (e:A0)(u:Bool):Nat:=bif (bif !u then Pt e else false) then 0 else e.nodes
def oD (e:A0)(u:Bool):Nat:=bif (bif !u then Pt e else false) then 0 else e.depth
def oF (e:A0)(u:Bool):Bool:=bif u then e.all Bl else Pt e
theorem H1c (e:A0)(u:Bool):oN e u≤e.bulk:=by
 unfold oN
 have:=A0.nodes_bulk e
 cases (bif !u then Pt e else false) <;> simp <;> omega
def I1c:Int→List Int→Bool
 | _,[]=>true
 | l,n::r=>(bif A7 n 0 1048576 then decide (n > l) else false)&&I1c n r
def Vv (s:E0):Bool:=
 bif s.Verb == 4 then A7 s.NV 0 1048576 else bif s.Verb == 6 then A7 s.NV 0 4096
 else bif s.Verb == 7 then (bif (bif A7 s.Low (-1048576) 1048576 then A7 s.High s.Low 1048576 else false) then decide (s.High - s.Low < 4096) else false)
 else bif s.Verb == 8 then A7 (s.Numbers.length:Int) 1 32&&I1c (-1) s.Numbers else true
def Gi (s:E0):Bool:=
 okV s.Verb&&oF s.Place (uPl s.Verb)&&(bif uPl s.Verb then s.Place.place else true)&&oF s.Value (uVa s.Verb)&&(bif uNm s.Verb then true else s.Name == [])&&(bif s.Verb == 1 then true else ((s.Args.length:Int) == 0))&&A0.alls Bl s.Args
 && (bif uNn s.Verb then true else s.NV == 0)&&(bif s.Verb == 7 then true else (bif s.Low == 0 then s.High == 0 else false))&&(bif s.Verb == 8 then true else ((s.Numbers.length:Int) == 0))
 && (bif uTh s.Verb then true else ((s.Then.length:Int) == 0))&&(bif s.Verb == 5 then true else ((s.Else.length:Int) == 0))
def Hi (s:E0):Bool:=s.Place.all Ib&&s.Value.all Ib&&(bif uNm s.Verb then Eh s.Name else true)&&A0.alls Ib s.Args
def Ii (s:E0):Bool:=s.Place.all Jb&&s.Value.all Jb&&A0.alls Jb s.Args&&Vv s
mutual
def E0.nds:E0→Nat
 | .mk v pl va nm ar n lo hi ns th el=>1+(oN pl (uPl v)+(oN va (uVa v)+(A0.nodess ar+(E0.ndss th+E0.ndss el))))
def E0.ndss:List E0→Nat
 | []=>0
 | x::r=>E0.nds x+E0.ndss r
end
mutual
def E0.dps:E0→Nat→Nat
 | .mk v pl va nm ar n lo hi ns th el,d=>max d (max (oD pl (uPl v)) (max (oD va (uVa v)) (max (A0.depths ar) (max (E0.dpss th (d+1)) (E0.dpss el (d+1))))))
def E0.dpss:List E0→Nat→Nat
 | [],_=>0
 | x::r,d=>max (E0.dps x d) (E0.dpss r d)
end
mutual
def E0.all (p:E0→Bool):E0→Bool
 | .mk v pl va nm ar n lo hi ns th el=>p (.mk v pl va nm ar n lo hi ns th el)&&(E0.alls p th&&E0.alls p el)
def E0.alls (p:E0→Bool):List E0→Bool
 | []=>true
 | x::r=>E0.all p x&&E0.alls p r
end
theorem E0.nds_eq (s:E0):s.nds=1+(oN s.Place (uPl s.Verb)+(oN s.Value (uVa s.Verb)+(A0.nodess s.Args+(E0.ndss s.Then+E0.ndss s.Else)))):=by cases s; simp only [E0.nds]
theorem E0.dps_eq (s:E0)(d:Nat):s.dps d=max d (max (oD s.Place (uPl s.Verb)) (max (oD s.Value (uVa s.Verb)) (max (A0.depths s.Args) (max (E0.dpss s.Then (d+1)) (E0.dpss s.Else (d+1)))))):=by cases s; simp only [E0.dps]
theorem E0.all_eq (p:E0→Bool)(s:E0):s.all p=(p s&&(E0.alls p s.Then&&E0.alls p s.Else)):=by cases s; simp only [E0.all]
theorem E0.ind {P:E0→Prop}(h:∀ s:E0,(∀ x∈s.Then,P x)→(∀ x∈s.Else,P x)→P s):∀ s,P s:=by
 intro s
 refine E0.rec (motive_1:=P) (motive_2:=fun l=>∀ x∈l,P x) ?_ ?_ ?_ s
 ·intro v pl va nm ar n lo hi ns th el i1 i2
  exact h _ i1 i2
 ·intro x hx; cases hx
 ·intro x r hx hr y hy
  cases hy with
  | head=>exact hx
  | tail _ hy=>exact hr y hy
theorem E0.inds {Q:List E0→Prop}(h:∀ l:List E0,(∀ x∈l,Q x.Then∧Q x.Else)→Q l):∀ l,Q l:=by
 have key:∀ s:E0,Q s.Then∧Q s.Else:=fun s=>by
  induction s using E0.ind with
  | h s i1 i2=>exact ⟨h _ i1,h _ i2⟩
 exact fun l=>h l fun x _=>key x
theorem E0.bulk_eq (s:E0):s.bulk=s.Place.bulk+s.Value.bulk+s.Name.length+A0.bulks s.Args+(s.Numbers.map fun _=>1).sum+E0.bulks s.Then+E0.bulks s.Else+10:=by
 cases s; simp only [E0.bulk]; omega
theorem D19:∀ l:List Int,(l.map fun _=>1).sum=l.length
 | []=>rfl
 | x::r=>by simp only [List.map_cons,List.sum_cons,List.length_cons,D19 r]; omega
theorem E0.bulk_mem {s:E0}:∀ {l:List E0},s∈l→s.bulk≤E0.bulks l
 | x::r,h=>by
  simp only [E0.bulks]
  cases h with
  | head=>omega
  | tail _ h=>have:=E0.bulk_mem h; omega
theorem E0.bulk_len:∀ l:List E0,l.length≤E0.bulks l
 | []=>Nat.le_refl _
 | x::r=>by
  simp only [E0.bulks,List.length_cons]
  have:=E0.bulk_len r
  have:=E0.bulk_eq x
  omega
mutual
theorem E0.nds_bulk:∀ s:E0,s.nds≤s.bulk
 | .mk v pl va nm ar n lo hi ns th el=>by
  have:=H1c pl (uPl v)
  have:=H1c va (uVa v)
  have:=A0.nodess_bulk ar
  have:=E0.ndss_bulk th
  have:=E0.ndss_bulk el
  simp only [E0.nds,E0.bulk]; omega
theorem E0.ndss_bulk:∀ l:List E0,E0.ndss l≤E0.bulks l
 | []=>Nat.le_refl _
 | x::r=>by
  have:=E0.nds_bulk x
  have:=E0.ndss_bulk r
  simp only [E0.ndss,E0.bulks]; omega
end
def OkS (l:List E0):Prop:=E0.bulks l≤BB
structure J1c (s:E0):Prop where
 place:OkE s.Place
 value:OkE s.Value
 name:s.Name.length≤BB
 args:s.Args.length≤BB
 arg:∀ a∈s.Args,OkE a
 nums:s.Numbers.length≤BB
 thens:OkS s.Then
 elses:OkS s.Else
theorem OkS.mem {l:List E0}(h:OkS l){s:E0}(hs:s∈l):J1c s:=by
 unfold OkS at h
 have h1:=E0.bulk_mem hs
 have h2:=E0.bulk_eq s
 have h3:=D19 s.Numbers
 have h4:=A0.bulk_len s.Args
 refine ⟨?_,?_,?_,?_,fun a ha=>?_,?_,?_,?_⟩ <;> first | (unfold OkE; omega) | (unfold OkS; omega) | omega | skip
 have:=A0.bulk_kid ha
 unfold OkE; omega
theorem OkS.len {l:List E0}(h:OkS l):l.length≤BB:=Nat.le_trans (E0.bulk_len l) h
def Y4 (o:I0)(n m:Nat)(f a u:Bool):I0:=⟨o.nodes+n,max o.depth m,o.badForm || !f,o.badName || !a,o.badNumber || !u⟩
theorem T4 (o:I0)(n m n' m':Nat)(f a u f' a' u':Bool):Y4 (Y4 o n m f a u) n' m' f' a' u'=Y4 o (n+n') (max m m') (f&&f') (a&&a') (u&&u'):=by
 simp only [Y4,Xp]
 rw [show o.nodes+(n:Int)+(n':Int)=o.nodes+((n+n':Nat):Int) by omega,show max (max o.depth (m:Int)) (m':Int)=max o.depth ((max m m':Nat):Int) by omega]
theorem Sj (o:I0)(h:0≤o.depth):Y4 o 0 0 true true true=o:=by
 simp only [Y4,Bool.not_true,Bool.or_false]
 rw [show o.nodes+((0:Nat):Int)=o.nodes by omega,show max o.depth ((0:Nat):Int)=o.depth by omega]
theorem W13 (o:I0)(n m:Nat)(f a u:Bool):(Y4 o n m f a u).nodes=o.nodes+n:=rfl
theorem Sm (o:I0)(n m:Nat)(f a u:Bool):(Y4 o n m f a u).depth=max o.depth m:=rfl
theorem U8 (o:I0)(h:0≤o.depth)(b:Bool):W0 b o=some (Y4 o 0 0 b true true):=by
 rw [Z11]
 simp only [Y4,Bool.not_true,Bool.or_false]
 rw [show o.nodes+((0:Nat):Int)=o.nodes by omega,show max o.depth ((0:Nat):Int)=o.depth by omega]
theorem Td (o:I0)(h:0≤o.depth)(b:Bool):E2 b o=some (Y4 o 0 0 true true b):=by
 rw [Cr]
 simp only [Y4,Bool.not_true,Bool.or_false]
 rw [show o.nodes+((0:Nat):Int)=o.nodes by omega,show max o.depth ((0:Nat):Int)=o.depth by omega]
theorem D16 (o:I0)(h:0≤o.depth)(s:Str)(hs:s.length≤BB):Y3 s o=some (Y4 o 0 0 true (Eh s) true):=by
 rw [Yw s hs]
 simp only [Y4,Bool.not_true,Bool.or_false]
 rw [show o.nodes+((0:Nat):Int)=o.nodes by omega,show max o.depth ((0:Nat):Int)=o.depth by omega]
structure P5 (o:I0)(n:Nat):Prop where
 dep:0≤o.depth
 low:0≤o.nodes
 high:o.nodes+n≤3 * BB
theorem P5.x {o:I0}{n k m:Nat}{f a u:Bool}(h:P5 o (k+n)):P5 (Y4 o k m f a u) n:=by
 obtain ⟨h1,h2,h3⟩:=h
 refine ⟨?_,?_,?_⟩
 ·rw [Sm]; omega
 ·rw [W13]; omega
 ·rw [W13]; omega
theorem P5.less {o:I0}{n k:Nat}(h:P5 o n)(hk:k≤n):P5 o k:=⟨h.dep,h.low,by have:=h.high; omega⟩
theorem P5.x0 {o:I0}{n m:Nat}{f a u:Bool}(h:P5 o n):P5 (Y4 o 0 m f a u) n:=P5.x (by rw [Nat.zero_add]; exact h)
theorem Wz (e:A0)(h:OkE e)(o:I0)(hr:P5 o e.nodes):X2 e 1 o=some (Y4 o e.nodes e.depth (e.all Bl) (e.all Ib) (e.all Jb)):=by
 have hn:=h.nodes
 have hp:1≤e.depth:=by rw [A0.depth_eq]; omega
 have h3:=hr.high
 unfold BB at hn h3
 rw [Y18 e h 1 o (by omega) (by unfold BB; omega) hr.low (by unfold BB; omega)]
 simp only [Oe,Y4]
 rw [show (1:Int)+((e.depth - 1:Nat):Int)=e.depth by omega]
theorem E19 (t:J0)(h:Ok t)(o:I0)(hr:P5 o t.nodes):N6 t 1 o=some (Y4 o t.nodes t.depth (t.all Xw) (t.all Ot) (t.all Uz)):=by
 have hn:=h.nodes
 have hp:1≤t.depth:=by rw [J0.depth_eq]; omega
 have h3:=hr.high
 unfold BB at hn h3
 rw [V1j t h 1 o (by omega) (by unfold BB; omega) hr.low (by unfold BB; omega)]
 simp only [Oe,Y4]
 rw [show (1:Int)+((t.depth - 1:Nat):Int)=t.depth by omega]
theorem F19:(A0.mk 0 0 [] []).all Bl=true∧(A0.mk 0 0 [] []).all Ib=true∧(A0.mk 0 0 [] []).all Jb=true:=⟨rfl,rfl,rfl⟩
theorem A12 (e:A0)(u:Bool)(h:OkE e)(o:I0)(hr:P5 o (oN e u)):G4 e u o=some (Y4 o (oN e u) (oD e u) (oF e u) (e.all Ib) (e.all Jb)):=by
 unfold G4
 rw [G1c e h]
 show ((if (!u)=true then some (Pt e) else some default)>>=_)=_
 unfold oN oD oF at *
 cases u with
 | true=>
  simp only [Bool.not_true,cond_false,cond_true] at *
  rw [if_neg (by simp),ob,if_neg (by simp),U8 o hr.dep,ob,Wz e h _ hr.x0,ob,T4]
  simp
 | false=>
  simp only [Bool.not_false,cond_false,cond_true] at *
  rw [if_pos trivial,ob]
  cases hz:Pt e with
  | true=>
   rw [if_pos rfl,P1g hz,F19.2.1,F19.2.2]
   exact congrArg some (Sj o hr.dep).symm
  | false=>
   rw [hz] at hr
   rw [if_neg (by simp),U8 o hr.dep,ob,Wz e h _ hr.x0,ob,T4]
   simp
theorem M1e (o:I0)(h:0≤o.nodes)(h':o.nodes+1≤3 * BB)(d:Nat):A6 (d:Int) ⟨IntKind.i64.wrap (o.nodes+1),o.depth,o.badForm,o.badName,o.badNumber⟩=some (Y4 o 1 d true true true):=by
 unfold BB at h'
 rw [Y11,wr (by omega) (by omega)]
 simp only [Y4,Bool.not_true,Bool.or_false]
 rfl
theorem E16 (s:E0)(hs:J1c s)(K:I0→Option I0)(F:I0→Int→Option I0)
  (hF:∀ (o:I0) (k:Int),F o k=if decide (k < (s.Args.length:Int))=true then idx s.Args k>>=fun x=>X2 x 1 o>>=fun y=>F y (IntKind.i64.wrap (k+1)) else K o) :
  ∀ (r:List A0) (k:Nat) (o:I0),s.Args.drop k=r→P5 o (A0.nodess r)→F o (k:Int)=K (Y4 o (A0.nodess r) (A0.depths r) (A0.alls Bl r) (A0.alls Ib r) (A0.alls Jb r))
 | [],k,o,h,hr=>by
  rw [hF,(S4 h).1,if_neg (by simp)]
  simp only [A0.nodess,A0.depths,A0.alls]
  rw [Sj o hr.dep]
 | x::r,k,o,h,hr=>by
  obtain ⟨e1,e2,e3,e4,e5⟩:=Z7 h
  have:=hs.args
  simp only [A0.nodess] at hr
  rw [hF,e1,if_pos rfl,e2,ob,Wz x (hs.arg x e5) o (hr.less (by omega)),ob,w1 (by omega),E16 s hs K F hF r (k+1) _ e3 hr.x,T4]
  rfl
theorem R1a (s:E0)(hs:J1c s):∀ (r:List Int) (k:Nat) (last:Int) (o:I0),s.Numbers.drop k=r→0≤o.depth→L4 s o last k=some (Y4 o 0 0 true true (I1c last r))
 | [],k,last,o,h,h0=>by rw [L4,(S4 h).1,if_neg (by simp)]; exact congrArg some (Sj o h0).symm
 | x::r,k,last,o,h,h0=>by
  obtain ⟨e1,e2,e3,e4,e5⟩:=Z7 h
  have:=hs.nums
  rw [L4,e1,if_pos rfl,e2,ob,Fi,ob,Td _ h0,ob,w1 (by omega),R1a s hs r (k+1) x _ e3 (by rw [Sm]; omega),T4]
  rfl
theorem N1e (s:E0)(hs:J1c s)(o:I0)(h0:0≤o.depth):E8 s o=some (Y4 o 0 0 true true (Vv s)):=by
 unfold E8 Vv
 simp only [Fi]
 cases s.Verb == 4 with
 | true=>rw [if_pos rfl,ob,Td _ h0,ob]; rfl
 | false=>
  rw [if_neg (by simp)]
  cases s.Verb == 6 with
  | true=>rw [if_pos rfl,ob,Td _ h0,ob]; rfl
  | false=>
   rw [if_neg (by simp)]
   cases s.Verb == 7 with
   | true=>
    rw [if_pos rfl,ob]
    cases hl:A7 s.Low (-1048576) 1048576 with
    | false=>rw [if_neg (by simp),ob,Td _ h0,ob]; rfl
    | true=>
     rw [if_pos rfl,ob]
     cases hh:A7 s.High s.Low 1048576 with
     | false=>rw [Td _ h0,ob]; rfl
     | true=>
      have:IntKind.i64.wrap (s.High - s.Low)=s.High - s.Low:=by
       simp [A7] at hl hh
       exact wr (by omega) (by omega)
      rw [this,Td _ h0,ob]; rfl
   | false=>
    rw [if_neg (by simp)]
    cases s.Verb == 8 with
    | true=>
     rw [if_pos rfl,ob,Td _ h0,ob,show (0:Int)=((0:Nat):Int) from rfl,R1a s hs s.Numbers 0 (-1) _ rfl (by rw [Sm]; omega),T4]
     simp
    | false=>exact congrArg some (Sj o h0).symm
theorem F16 (l:List E0):OkS l→∀ (d:Nat) (o:I0),d+E0.bulks l≤3 * BB→P5 o (E0.ndss l)→
  D4 l d o=some (Y4 o (E0.ndss l) (E0.dpss l d) (E0.alls Gi l) (E0.alls Hi l) (E0.alls Ii l)):=by
 induction l using E0.inds with
 | h l ih=>
 intro hl d o hd hr
 have main:∀ (r:List E0) (k:Nat) (o:I0),l.drop k=r→P5 o (E0.ndss r)→H6 l d o k=some (Y4 o (E0.ndss r) (E0.dpss r d) (E0.alls Gi r) (E0.alls Hi r) (E0.alls Ii r)):=by
  intro r
  induction r with
  | nil=>
   intro k o h hr
   rw [H6,(S4 h).1,if_neg (by simp)]
   exact congrArg some (Sj o hr.dep).symm
  | cons s r ihr=>
   intro k o h hr
   obtain ⟨e1,e2,e3,e4,e5⟩:=Z7 h
   have hs:=hl.mem e5
   have hlen:=hl.len
   obtain ⟨i1,i2⟩:=ih s e5
   have hbm:=E0.bulk_mem e5
   have hbe:=E0.bulk_eq s
   simp only [E0.ndss,E0.nds_eq] at hr
   have hhi:=hr.high
   unfold BB at hhi hd
   have hwd:IntKind.i64.wrap ((d:Int)+1)=((d+1:Nat):Int):=by rw [wr (by omega) (by omega)]; rfl
   have tail:∀ o:I0,P5 o (E0.ndss s.Then+E0.ndss s.Else+E0.ndss r)→
     (W0 (bif (stU s.Verb).1.n then true else (s.NV == 0)) o>>=fun x14=>
      W0 (bif (stU s.Verb).1.bounds then true else (bif (s.Low == 0) then (s.High == 0) else false)) x14>>=fun x15=>
      W0 (bif (stU s.Verb).1.numbers then true else (((s.Numbers).length:Int) == 0)) x15>>=fun x16=>
      W0 (bif (stU s.Verb).1.thenV then true else (((s.Then).length:Int) == 0)) x16>>=fun x17=>
      W0 (bif (stU s.Verb).1.other then true else (((s.Else).length:Int) == 0)) x17>>=fun x18=>
      E8 s x18>>=fun x19=>
      D4 s.Then (IntKind.i64.wrap ((d:Int)+1)) x19>>=fun x20=>
      D4 s.Else (IntKind.i64.wrap ((d:Int)+1)) x20>>=fun x21=>
      H6 l d x21 (IntKind.i64.wrap ((k:Int)+1)))
     = some (Y4 o (E0.ndss s.Then+E0.ndss s.Else+E0.ndss r) (max (E0.dpss s.Then (d+1)) (max (E0.dpss s.Else (d+1)) (E0.dpss r d)))
       ((bif uNn s.Verb then true else s.NV == 0)&&(bif s.Verb == 7 then true else (bif s.Low == 0 then s.High == 0 else false))&&(bif s.Verb == 8 then true else ((s.Numbers.length:Int) == 0))
         && (bif uTh s.Verb then true else ((s.Then.length:Int) == 0))&&(bif s.Verb == 5 then true else ((s.Else.length:Int) == 0))&&E0.alls Gi s.Then&&E0.alls Gi s.Else&&E0.alls Gi r)
       (E0.alls Hi s.Then&&E0.alls Hi s.Else&&E0.alls Hi r) (Vv s&&E0.alls Ii s.Then&&E0.alls Ii s.Else&&E0.alls Ii r)):=by
    intro o hr
    have q1:=hr.x0 (m:=0) (f:=bif (stU s.Verb).1.n then true else (s.NV == 0)) (a:=true) (u:=true)
    have q2:=q1.x0 (m:=0) (f:=bif (stU s.Verb).1.bounds then true else (bif (s.Low == 0) then (s.High == 0) else false)) (a:=true) (u:=true)
    have q3:=q2.x0 (m:=0) (f:=bif (stU s.Verb).1.numbers then true else (((s.Numbers).length:Int) == 0)) (a:=true) (u:=true)
    have q4:=q3.x0 (m:=0) (f:=bif (stU s.Verb).1.thenV then true else (((s.Then).length:Int) == 0)) (a:=true) (u:=true)
    have q5:=q4.x0 (m:=0) (f:=bif (stU s.Verb).1.other then true else (((s.Else).length:Int) == 0)) (a:=true) (u:=true)
    have q6:=q5.x0 (m:=0) (f:=true) (a:=true) (u:=Vv s)
    rw [U8 o hr.dep,ob,U8 _ q1.dep,ob,U8 _ q2.dep,ob,U8 _ q3.dep,ob,U8 _ q4.dep,ob,N1e s hs _ q5.dep,ob,hwd,
     i1 hs.thens (d+1) _ (by unfold BB; omega) (q6.less (by omega)),ob,i2 hs.elses (d+1) _ (by unfold BB; omega) (P5.x (q6.less (by omega))),ob,w1 (by omega),ihr (k+1) _ e3 (P5.x (P5.x (q6.less (by omega))))]
    simp only [T4,stU,Bool.true_and,Bool.and_true,Bool.and_assoc,Nat.zero_add,Nat.add_assoc,Nat.zero_max]
    simp only [← Nat.max_assoc]
   have args:=E16 s hs _ (fun o k'=>Aa l d o s (stU s.Verb) k k') (fun o k'=>Aa.eq_1 l d o s (stU s.Verb) k k') s.Args 0
   rw [show ((0:Nat):Int)=0 from rfl] at args
   have j3:∀ o:I0,P5 o (A0.nodess s.Args+(E0.ndss s.Then+E0.ndss s.Else+E0.ndss r))→L7 l d o s (stU s.Verb) k
     = some (Y4 o (A0.nodess s.Args+(E0.ndss s.Then+E0.ndss s.Else+E0.ndss r)) (max (A0.depths s.Args) (max (E0.dpss s.Then (d+1)) (max (E0.dpss s.Else (d+1)) (E0.dpss r d))))
       ((bif s.Verb == 1 then true else ((s.Args.length:Int) == 0))&&(A0.alls Bl s.Args&&((bif uNn s.Verb then true else s.NV == 0)&&(bif s.Verb == 7 then true else (bif s.Low == 0 then s.High == 0 else false))&&(bif s.Verb == 8 then true else ((s.Numbers.length:Int) == 0))
         && (bif uTh s.Verb then true else ((s.Then.length:Int) == 0))&&(bif s.Verb == 5 then true else ((s.Else.length:Int) == 0))&&E0.alls Gi s.Then&&E0.alls Gi s.Else&&E0.alls Gi r)))
       (A0.alls Ib s.Args&&(E0.alls Hi s.Then&&E0.alls Hi s.Else&&E0.alls Hi r)) (A0.alls Jb s.Args&&(Vv s&&E0.alls Ii s.Then&&E0.alls Ii s.Else&&E0.alls Ii r))):=by
    intro o hr
    rw [L7,U8 o hr.dep,ob,args _ rfl (hr.x0.less (by omega)),tail _ (P5.x hr.x0)]
    simp only [T4,stU,Bool.true_and,Bool.and_assoc,Nat.zero_add,Nat.zero_max]
   have j2:∀ o:I0,P5 o (oN s.Value (uVa s.Verb)+(A0.nodess s.Args+(E0.ndss s.Then+E0.ndss s.Else+E0.ndss r)))→K7 l d o s (stU s.Verb) k
     = (L7 l d (Y4 o (oN s.Value (uVa s.Verb)) (oD s.Value (uVa s.Verb)) (oF s.Value (uVa s.Verb)&&(bif uNm s.Verb then true else s.Name == [])) (s.Value.all Ib&&(bif uNm s.Verb then Eh s.Name else true)) (s.Value.all Jb)) s (stU s.Verb) k):=by
    intro o hr
    have q1:P5 (Y4 o (oN s.Value (uVa s.Verb)) (oD s.Value (uVa s.Verb)) (oF s.Value (uVa s.Verb)) (s.Value.all Ib) (s.Value.all Jb)) 0:=P5.x (hr.less (by omega))
    rw [K7]
    show (G4 s.Value (uVa s.Verb) o>>=_)=_
    rw [A12 s.Value (uVa s.Verb) hs.value o (hr.less (by omega)),ob,U8 _ q1.dep,ob,D16 _ (q1.x0).dep s.Name hs.name]
    simp only [T4,stU]
    cases uNm s.Verb with
    | true=>rw [if_pos rfl,ob]; simp
    | false=>rw [if_neg (by simp)]; simp
   rw [H6,e1,if_pos rfl,e2,ob,M1e o hr.low (by unfold BB; omega) d,ob,C19,ob,U8 _ (show 0≤(Y4 o 1 d true true true).depth by rw [Sm]; have:=hr.dep; omega),ob,T4]
   have hr1:P5 (Y4 o (1+0) (max d 0) (true&&(stU s.Verb).2) (true&&true) (true&&true)) (oN s.Place (uPl s.Verb)+(oN s.Value (uVa s.Verb)+(A0.nodess s.Args+(E0.ndss s.Then+E0.ndss s.Else+E0.ndss r)))):=P5.x (hr.less (by omega))
   have hopt:=A12 s.Place (uPl s.Verb) hs.place _ (hr1.less (k:=oN s.Place (uPl s.Verb)) (by omega))
   show (G4 s.Place (uPl s.Verb) _>>=_)=_
   rw [hopt,ob,A16,T4]
   have hr2:∀ f,P5 (Y4 o (1+0+oN s.Place (uPl s.Verb)) (max (max d 0) (oD s.Place (uPl s.Verb))) f (true&&true&&s.Place.all Ib) (true&&true&&s.Place.all Jb)) (oN s.Value (uVa s.Verb)+(A0.nodess s.Args+(E0.ndss s.Then+E0.ndss s.Else+E0.ndss r))):=fun f=>P5.x (hr.less (by omega))
   have fin:∀ b:Bool,(bif uPl s.Verb then s.Place.place else true)=b→
     K7 l d (Y4 o (1+0+oN s.Place (uPl s.Verb)) (max (max d 0) (oD s.Place (uPl s.Verb))) (true&&(stU s.Verb).2&&oF s.Place (uPl s.Verb)&&b) (true&&true&&s.Place.all Ib) (true&&true&&s.Place.all Jb)) s (stU s.Verb) k
      = some (Y4 o (E0.ndss (s::r)) (E0.dpss (s::r) d) (E0.alls Gi (s::r)) (E0.alls Hi (s::r)) (E0.alls Ii (s::r))):=by
    rintro _ rfl
    rw [j2 _ (hr2 _),j3 _ (P5.x (hr2 _)),T4,T4]
    simp only [E0.ndss,E0.dpss,E0.alls,E0.nds_eq,E0.dps_eq,E0.all_eq,Gi,Hi,Ii,stU,Bool.true_and,Bool.and_assoc,Nat.add_assoc,Nat.max_assoc,Nat.zero_add]
    congr 1
   cases hu:uPl s.Verb with
   | true=>
    rw [hu] at fin hr2
    rw [if_pos (show (stU s.Verb).1.place=true from hu),ob,U8 _ (hr2 _).dep,ob,T4]
    have:=fin s.Place.place rfl
    simpa using this
   | false=>
    rw [hu] at fin
    rw [if_neg (by rw [show (stU s.Verb).1.place=false from hu]; simp)]
    have:=fin true rfl
    rw [Bool.and_true] at this
    exact this
 rw [D4]
 exact main l 0 o rfl hr
end Go.Proofs.YtmnhfbekncjnfaaGreatDoor

set_option linter.unusedSimpArgs false
set_option linter.unusedVariables false
set_option maxHeartbeats 1000000
namespace Go.Proofs.YtmnhfbekncjnfaaGreatDoor
open Go.Am
def isK (k:Int):Bool:=bif decide (k≥0) then decide (k≤6) else false
def uV2 (k:Int):Bool:=bif k == 5 then true else k == 6
def tN (t:J0)(u:Bool):Nat:=bif (bif !u then Qt t else false) then 0 else t.nodes
def tD (t:J0)(u:Bool):Nat:=bif (bif !u then Qt t else false) then 0 else t.depth
theorem X1k (t:J0)(u:Bool):tN t u≤t.bulk:=by
 unfold tN
 have:=J0.nodes_bulk t
 cases (bif !u then Qt t else false) <;> simp <;> omega
def pOk (x:D0):Bool:=bif x.Kind == 4 then x.Init == 0 else false
def vOk (x:D0):Bool:=x.Kind == 4
def X13 (d:D0):Bool:=bif A7 d.Init (-1048576) 1048576 then (bif d.TypeV.Kind != 0 then true else A7 d.Init 0 1) else false
def B15 (d:D0):Bool:=bif (bif ((d.Params.length:Int) == 0) then ((d.Vars.length:Int) == 0) else false) then ((d.Body.length:Int) == 0) else false
def Ck (d:D0):Bool:=
 isK d.Kind&&d.TypeV.all Xw&&oF d.Value (uV2 d.Kind)&&(bif d.Kind == 4 then true else d.Init == 0)&&(bif d.Kind == 6 then true else B15 d)&&d.Params.all pOk&&d.Vars.all vOk&&E0.alls Gi d.Body
def Dk (d:D0):Bool:=d.TypeV.all Ot&&Eh d.Name&&d.Value.all Ib&&E0.alls Hi d.Body
def Ek (d:D0):Bool:=d.TypeV.all Uz&&d.Value.all Jb&&X13 d&&E0.alls Ii d.Body
mutual
def D0.nds:D0→Nat
 | .mk k nm t i v ps vs bd=>1+(tN t (isK k)+(oN v (uV2 k)+(D0.ndss ps+(D0.ndss vs+E0.ndss bd))))
def D0.ndss:List D0→Nat
 | []=>0
 | x::r=>D0.nds x+D0.ndss r
end
mutual
def D0.dps:D0→Nat
 | .mk k nm t i v ps vs bd=>max (tD t (isK k)) (max (oD v (uV2 k)) (max (D0.dpss ps) (max (D0.dpss vs) (E0.dpss bd 1))))
def D0.dpss:List D0→Nat
 | []=>0
 | x::r=>max (D0.dps x) (D0.dpss r)
end
mutual
def D0.all (p:D0→Bool):D0→Bool
 | .mk k nm t i v ps vs bd=>p (.mk k nm t i v ps vs bd)&&(D0.alls p ps&&D0.alls p vs)
def D0.alls (p:D0→Bool):List D0→Bool
 | []=>true
 | x::r=>D0.all p x&&D0.alls p r
end
theorem D0.nds_eq (d:D0):d.nds=1+(tN d.TypeV (isK d.Kind)+(oN d.Value (uV2 d.Kind)+(D0.ndss d.Params+(D0.ndss d.Vars+E0.ndss d.Body)))):=by cases d; simp only [D0.nds]
theorem D0.dps_eq (d:D0):d.dps=max (tD d.TypeV (isK d.Kind)) (max (oD d.Value (uV2 d.Kind)) (max (D0.dpss d.Params) (max (D0.dpss d.Vars) (E0.dpss d.Body 1)))):=by cases d; simp only [D0.dps]
theorem D0.all_eq (p:D0→Bool)(d:D0):d.all p=(p d&&(D0.alls p d.Params&&D0.alls p d.Vars)):=by cases d; simp only [D0.all]
theorem D0.ind {P:D0→Prop}(h:∀ d:D0,(∀ x∈d.Params,P x)→(∀ x∈d.Vars,P x)→P d):∀ d,P d:=by
 intro d
 refine D0.rec (motive_1:=P) (motive_2:=fun l=>∀ x∈l,P x) ?_ ?_ ?_ d
 ·intro k nm t i v ps vs bd i1 i2
  exact h _ i1 i2
 ·intro x hx; cases hx
 ·intro x r hx hr y hy
  cases hy with
  | head=>exact hx
  | tail _ hy=>exact hr y hy
theorem D0.inds {Q:List D0→Prop}(h:∀ l:List D0,(∀ x∈l,Q x.Params∧Q x.Vars)→Q l):∀ l,Q l:=by
 have key:∀ s:D0,Q s.Params∧Q s.Vars:=fun s=>by
  induction s using D0.ind with
  | h s i1 i2=>exact ⟨h _ i1,h _ i2⟩
 exact fun l=>h l fun x _=>key x
theorem D0.bulk_eq (d:D0):d.bulk=d.Name.length+d.TypeV.bulk+d.Value.bulk+D0.bulks d.Params+D0.bulks d.Vars+E0.bulks d.Body+7:=by cases d; simp only [D0.bulk]; omega
theorem D0.bulk_mem {s:D0}:∀ {l:List D0},s∈l→s.bulk≤D0.bulks l
 | x::r,h=>by
  simp only [D0.bulks]
  cases h with
  | head=>omega
  | tail _ h=>have:=D0.bulk_mem h; omega
theorem D0.bulk_len:∀ l:List D0,l.length≤D0.bulks l
 | []=>Nat.le_refl _
 | x::r=>by
  simp only [D0.bulks,List.length_cons]
  have:=D0.bulk_len r
  have:=D0.bulk_eq x
  omega
mutual
theorem D0.nds_bulk:∀ d:D0,d.nds≤d.bulk
 | .mk k nm t i v ps vs bd=>by
  have:=X1k t (isK k)
  have:=H1c v (uV2 k)
  have:=D0.ndss_bulk ps
  have:=D0.ndss_bulk vs
  have:=E0.ndss_bulk bd
  simp only [D0.nds,D0.bulk]; omega
theorem D0.ndss_bulk:∀ l:List D0,D0.ndss l≤D0.bulks l
 | []=>Nat.le_refl _
 | x::r=>by
  have:=D0.nds_bulk x
  have:=D0.ndss_bulk r
  simp only [D0.ndss,D0.bulks]; omega
end
def OkD (l:List D0):Prop:=D0.bulks l≤BB
structure U1l (d:D0):Prop where
 type:Ok d.TypeV
 value:OkE d.Value
 name:d.Name.length≤BB
 params:OkD d.Params
 vars:OkD d.Vars
 body:OkS d.Body
theorem OkD.mem {l:List D0}(h:OkD l){d:D0}(hd:d∈l):U1l d:=by
 unfold OkD at h
 have h1:=D0.bulk_mem hd
 have h2:=D0.bulk_eq d
 refine ⟨?_,?_,?_,?_,?_,?_⟩ <;> first | (unfold OkE; omega) | (unfold OkS; omega) | (unfold OkD; omega) | (unfold Ok; omega) | omega
theorem OkD.len {l:List D0}(h:OkD l):l.length≤BB:=Nat.le_trans (D0.bulk_len l) h
theorem G16:(J0.mk 0 0 0 0 [] [] []).all Ot=true∧(J0.mk 0 0 0 0 [] [] []).all Uz=true:=⟨rfl,rfl⟩
theorem C15 (c:List D0)(hc:c.length≤BB)(q:D0→Bool)(K:I0→Option I0)(F:I0→Int→Option I0)
  (hF:∀ (o:I0) (k:Int),F o k=if decide (k < (c.length:Int))=true then idx c k>>=fun x=>W0 (q x) o>>=fun y=>F y (IntKind.i64.wrap (k+1)) else K o) :
  ∀ (r:List D0) (k:Nat) (o:I0),c.drop k=r→0≤o.depth→F o (k:Int)=K (Y4 o 0 0 (r.all q) true true)
 | [],k,o,h,hr=>by
  rw [hF,(S4 h).1,if_neg (by simp),List.all_nil,Sj o hr]
 | x::r,k,o,h,hr=>by
  obtain ⟨e1,e2,e3,e4,e5⟩:=Z7 h
  rw [hF,e1,if_pos rfl,e2,ob,U8 o hr,ob,w1 (by omega),C15 c hc q K F hF r (k+1) _ e3 (by rw [Sm]; omega),T4]
  rfl
theorem O1e (l:List D0):OkD l→∀ (o:I0),P5 o (D0.ndss l)→
  K6 l o=some (Y4 o (D0.ndss l) (D0.dpss l) (D0.alls Ck l) (D0.alls Dk l) (D0.alls Ek l)):=by
 induction l using D0.inds with
 | h l ih=>
 intro hl o hr
 have main:∀ (r:List D0) (k:Nat) (o:I0),l.drop k=r→P5 o (D0.ndss r)→M7 l o k=some (Y4 o (D0.ndss r) (D0.dpss r) (D0.alls Ck r) (D0.alls Dk r) (D0.alls Ek r)):=by
  intro r
  induction r with
  | nil=>
   intro k o h hr
   rw [M7,(S4 h).1,if_neg (by simp)]
   exact congrArg some (Sj o hr.dep).symm
  | cons d r ihr=>
   intro k o h hr
   obtain ⟨e1,e2,e3,e4,e5⟩:=Z7 h
   have hs:=hl.mem e5
   have hlen:=hl.len
   obtain ⟨i1,i2⟩:=ih d e5
   simp only [D0.ndss,D0.nds_eq] at hr
   have hhi:=hr.high
   have hbB:E0.bulks d.Body≤BB:=hs.body
   have hlow:=hr.low
   unfold BB at hhi
   have l4:=C15 d.Vars hs.vars.len vOk _ (fun o k'=>Ca l o d k k') (fun o k'=>Ca.eq_1 l o d k k') d.Vars 0
   have l3:=C15 d.Params hs.params.len pOk _ (fun o k'=>N7 l o d k k') (fun o k'=>N7.eq_1 l o d k k') d.Params 0
   rw [show ((0:Nat):Int)=0 from rfl] at l4 l3
   have tail:∀ o:I0,P5 o (D0.ndss d.Params+(D0.ndss d.Vars+(E0.ndss d.Body+D0.ndss r)))→
     N7 l o d k 0=some (Y4 o (D0.ndss d.Params+(D0.ndss d.Vars+(E0.ndss d.Body+D0.ndss r))) (max (D0.dpss d.Params) (max (D0.dpss d.Vars) (max (E0.dpss d.Body 1) (D0.dpss r))))
      (d.Params.all pOk&&(d.Vars.all vOk&&(D0.alls Ck d.Params&&(D0.alls Ck d.Vars&&(E0.alls Gi d.Body&&D0.alls Ck r)))))
      (D0.alls Dk d.Params&&(D0.alls Dk d.Vars&&(E0.alls Hi d.Body&&D0.alls Dk r)))
      (D0.alls Ek d.Params&&(D0.alls Ek d.Vars&&(E0.alls Ii d.Body&&D0.alls Ek r)))):=by
    intro o hr
    have q1:=hr.x0 (m:=0) (f:=d.Params.all pOk) (a:=true) (u:=true)
    have q2:=q1.x0 (m:=0) (f:=d.Vars.all vOk) (a:=true) (u:=true)
    rw [l3 o rfl hr.dep,l4 _ rfl q1.dep,i1 hs.params _ (q2.less (by omega)),ob,i2 hs.vars _ (P5.x (q2.less (by omega))),ob,
     show (1:Int)=((1:Nat):Int) from rfl,F16 d.Body hs.body 1 _ (by unfold BB at *; omega) (P5.x (P5.x (q2.less (by omega)))),ob,show ((k:Int)+((1:Nat):Int))=(k:Int)+1 from rfl,w1 (by omega),ihr (k+1) _ e3 (P5.x (P5.x (P5.x (q2.less (by omega)))))]
    simp only [T4,Bool.true_and,Bool.and_assoc,Nat.zero_add,Nat.zero_max,Nat.add_assoc,Nat.max_assoc]
   have hin:(if ((A7 d.Init (-1048576) 1048576)&&(!(d.TypeV.Kind != 0)))=true then T3 d.Init 0 1 else some default)=some (bif (A7 d.Init (-1048576) 1048576)&&(!(d.TypeV.Kind != 0)) then A7 d.Init 0 1 else default):=by
    rw [Fi]
    cases ((A7 d.Init (-1048576) 1048576)&&(!(d.TypeV.Kind != 0))) <;> rfl
   have j2:∀ (x2:Bool×Bool) (o:I0),x2=(isK d.Kind,uV2 d.Kind)→P5 o (oN d.Value (uV2 d.Kind)+(D0.ndss d.Params+(D0.ndss d.Vars+(E0.ndss d.Body+D0.ndss r))))→
     Ba l o d x2 k=some (Y4 o (oN d.Value (uV2 d.Kind)+(D0.ndss d.Params+(D0.ndss d.Vars+(E0.ndss d.Body+D0.ndss r)))) (max (oD d.Value (uV2 d.Kind)) (max (D0.dpss d.Params) (max (D0.dpss d.Vars) (max (E0.dpss d.Body 1) (D0.dpss r)))))
      (oF d.Value (uV2 d.Kind)&&((bif d.Kind == 4 then true else d.Init == 0)&&((bif d.Kind == 6 then true else B15 d)&&(d.Params.all pOk&&(d.Vars.all vOk&&(D0.alls Ck d.Params&&(D0.alls Ck d.Vars&&(E0.alls Gi d.Body&&D0.alls Ck r))))))))
      (Eh d.Name&&(d.Value.all Ib&&(D0.alls Dk d.Params&&(D0.alls Dk d.Vars&&(E0.alls Hi d.Body&&D0.alls Dk r)))))
      (d.Value.all Jb&&(X13 d&&(D0.alls Ek d.Params&&(D0.alls Ek d.Vars&&(E0.alls Ii d.Body&&D0.alls Ek r)))))):=by
    rintro _ o rfl hr
    have q1:=hr.x0 (m:=0) (f:=true) (a:=Eh d.Name) (u:=true)
    have q2:=P5.x (m:=oD d.Value (uV2 d.Kind)) (f:=oF d.Value (uV2 d.Kind)) (a:=d.Value.all Ib) (u:=d.Value.all Jb) q1
    have hio:(bif A7 d.Init (-1048576) 1048576 then (bif (d.TypeV.Kind != 0) then true else (bif (A7 d.Init (-1048576) 1048576)&&(!(d.TypeV.Kind != 0)) then A7 d.Init 0 1 else default)) else false)=X13 d:=by
     unfold X13
     cases A7 d.Init (-1048576) 1048576 <;> cases (d.TypeV.Kind != 0) <;> rfl
    rw [Ba,D16 o hr.dep d.Name hs.name,ob,A12 d.Value (uV2 d.Kind) hs.value _ (q1.less (by omega)),ob,U8 _ q2.dep,ob,Fi,ob,hin,ob,hio,Td _ (q2.x0).dep,ob,U8 _ (q2.x0.x0).dep,ob,tail _ (q2.x0.x0.x0)]
    simp only [T4,Bool.true_and,Bool.and_true,Bool.and_assoc,Nat.zero_add,Nat.add_zero,Nat.zero_max,Nat.max_zero,Nat.add_assoc,Nat.max_assoc,B15]
   have hwn:(I0.mk (IntKind.i64.wrap (o.nodes+1)) o.depth o.badForm o.badName o.badNumber)=Y4 o 1 0 true true true:=by
    rw [wr (by omega) (by omega)]
    simp only [Y4,Bool.not_true,Bool.or_false]
    have:=hr.dep
    rw [show max o.depth ((0:Nat):Int)=o.depth by omega]
    rfl
   have q1:P5 (Y4 o 1 0 true true true) (tN d.TypeV (isK d.Kind)+(oN d.Value (uV2 d.Kind)+(D0.ndss d.Params+(D0.ndss d.Vars+(E0.ndss d.Body+D0.ndss r))))):=P5.x (hr.less (by omega))
   have q2:=q1.x0 (m:=0) (f:=isK d.Kind) (a:=true) (u:=true)
   rw [M7,e1,if_pos rfl,e2,ob,show Aj d.Kind=some (isK d.Kind,uV2 d.Kind) from rfl,ob]
   show (W0 (isK d.Kind) _>>=_)=_
   rw [hwn,U8 _ q1.dep,ob,F1c d.TypeV hs.type]
   show ((if (!(isK d.Kind))=true then some (Qt d.TypeV) else some default)>>=_)=_
   cases hk:isK d.Kind with
   | true=>
    rw [hk] at q2
    have q3:=q2
    unfold tN at q3
    simp only [Bool.not_true,cond_false] at q3
    rw [if_neg (by simp),ob]
    rw [if_pos (show (bif (true,uV2 d.Kind).1 then true else !default)=true from rfl),E19 d.TypeV hs.type _ (q3.less (by omega)),ob,j2 _ _ (by rw [hk]) (P5.x q3)]
    simp only [T4,D0.ndss,D0.dpss,D0.alls,D0.nds_eq,D0.dps_eq,D0.all_eq,Ck,Dk,Ek,hk,tN,tD,Bool.not_true,cond_false,Bool.true_and,Bool.and_assoc,Nat.add_assoc,Nat.max_assoc,Nat.zero_max,Nat.zero_add]
    congr 1
    simp only [Y4]
    congr 1
    all_goals first
     | (congr 1; congr 1; ac_rfl)
     | (congr 1; congr 1)
     | skip
   | false=>
    rw [hk] at q2
    rw [if_pos (show (!false)=true from rfl),ob]
    show (if (!(Qt d.TypeV))=true then _ else _)=_
    cases hz:Qt d.TypeV with
    | true=>
     unfold tN at q2
     rw [hz] at q2
     simp only [Bool.not_false,cond_true,Nat.zero_add] at q2
     rw [if_neg (by simp),j2 _ _ (by rw [hk]) q2]
     have hzt:=Q1g hz
     simp only [T4,D0.ndss,D0.dpss,D0.alls,D0.nds_eq,D0.dps_eq,D0.all_eq,Ck,Dk,Ek,hk,tN,tD,hz,Bool.not_false,cond_true,Bool.true_and,Bool.false_and,Bool.and_assoc,Nat.add_assoc,Nat.max_assoc,Nat.zero_max,Nat.zero_add]
     rw [hzt,G16.1,G16.2]
     simp only [Bool.true_and]
     congr 1
     simp only [Y4]
     congr 1
     all_goals first
      | (congr 1; congr 1; ac_rfl)
      | (congr 1; congr 1)
      | skip
    | false=>
     have q3:=q2
     unfold tN at q3
     rw [hz] at q3
     simp only [Bool.not_false,cond_false,cond_true] at q3
     rw [if_pos (by simp),E19 d.TypeV hs.type _ (q3.less (by omega)),ob,j2 _ _ (by rw [hk]) (P5.x q3)]
     simp only [T4,D0.ndss,D0.dpss,D0.alls,D0.nds_eq,D0.dps_eq,D0.all_eq,Ck,Dk,Ek,hk,tN,tD,hz,Bool.not_false,cond_true,cond_false,Bool.true_and,Bool.false_and,Bool.and_assoc,Nat.add_assoc,Nat.max_assoc,Nat.zero_max,Nat.zero_add]
     congr 1
     simp only [Y4]
     congr 1
     all_goals first
      | (congr 1; congr 1; ac_rfl)
      | (congr 1; congr 1)
      | skip
 rw [K6]
 exact main l 0 o rfl hr
structure OkP (p:B1):Prop where
 decls:OkD p.Decls
 body:OkS p.Body
def P1e (p:B1):Nat:=D0.ndss p.Decls+E0.ndss p.Body
def Q1e (p:B1):Nat:=max (D0.dpss p.Decls) (E0.dpss p.Body 1)
def Y13 (p:B1):Int:=
 Uv (P1e p) (Q1e p) (!(D0.alls Ck p.Decls&&E0.alls Gi p.Body)) (!(D0.alls Dk p.Decls&&E0.alls Hi p.Body)) (!(D0.alls Ek p.Decls&&E0.alls Ii p.Body))
theorem K1c (p:B1)(h:OkP p):Tg p=some (Y4 ⟨0,0,false,false,false⟩ (P1e p) (Q1e p) (D0.alls Ck p.Decls&&E0.alls Gi p.Body) (D0.alls Dk p.Decls&&E0.alls Hi p.Body) (D0.alls Ek p.Decls&&E0.alls Ii p.Body)):=by
 have h1:=D0.ndss_bulk p.Decls
 have h2:=E0.ndss_bulk p.Body
 have h3:D0.bulks p.Decls≤BB:=h.decls
 have h4:E0.bulks p.Body≤BB:=h.body
 have hr:P5 ⟨0,0,false,false,false⟩ (D0.ndss p.Decls+E0.ndss p.Body):=⟨Int.le_refl _,Int.le_refl _,by simp only; omega⟩
 unfold Tg
 rw [O1e p.Decls h.decls _ (hr.less (by omega)),ob,show (1:Int)=((1:Nat):Int) from rfl,F16 p.Body h.body 1 _ (by unfold BB at *; omega) (P5.x hr),ob,T4]
 rfl
theorem R1e (n m:Nat)(f a u:Bool):C6 (Y4 ⟨0,0,false,false,false⟩ n m f a u)=some (Uv n m (!f) (!a) (!u)):=by
 rw [X18]
 simp only [Y4,Bool.false_or]
 rw [show (0:Int)+(n:Int)=n by omega,show max (0:Int) (m:Int)=m by omega]
theorem R1g (p:B1)(h:OkP p):Lj p=some (Y13 p):=by
 unfold Lj
 rw [K1c p h,ob,R1e,ob]
 rfl
end Go.Proofs.YtmnhfbekncjnfaaGreatDoor

set_option linter.unusedSimpArgs false
set_option linter.unusedVariables false
set_option maxHeartbeats 1000000
namespace Go.Proofs.YtmnhfbekncjnfaaGreatDoor
open Go.Am
end Go.Proofs.YtmnhfbekncjnfaaGreatDoor

set_option linter.unusedSimpArgs false
set_option linter.unusedVariables false
set_option maxHeartbeats 1000000
namespace Go.Proofs.YtmnhfbekncjnfaaGreatDoor
open Go.Am
theorem W1j {p:B1}(h:p.bulk≤4200000):OkP p:=by
 cases p
 simp only [B1.bulk] at h
 exact ⟨by unfold OkD BB; simp only; omega,by unfold OkS BB; simp only; omega⟩
end Go.Proofs.YtmnhfbekncjnfaaGreatDoor

namespace Go.Proofs.YtmnhfbekncjnfaaGreatDoor
open Go.Am
set_option maxRecDepth 100000
set_option maxHeartbeats 4000000
end Go.Proofs.YtmnhfbekncjnfaaGreatDoor

set_option linter.unusedSimpArgs false
set_option linter.unusedVariables false
namespace Go.Proofs.YtmnhfbekncjnfaaGreatDoor
open Go.Am
def dg (c:UInt8):Bool:=G9 c.toNat
end Go.Proofs.YtmnhfbekncjnfaaGreatDoor

set_option linter.unusedSimpArgs false
set_option linter.unusedVariables false
namespace Go.Proofs.YtmnhfbekncjnfaaGreatDoor
open Go.Am
theorem S1e {α:Type}(s u:List α)(hs:s.length≤BB)(hl:s.length=u.length)(p:α→α→Bool)(F:Int→Option Bool)(K:Option Bool)
  (hF:∀ (k:Nat) x y,x∈s→idx s k=some x→idx u k=some y→decide ((k:Int) < (s.length:Int))=true→F k=if p x y=true then F (IntKind.i64.wrap ((k:Int)+1)) else some false)
  (hK:∀ k:Nat,decide ((k:Int) < (s.length:Int))=false→F k=K) :
  ∀ (r:List α) (k:Nat),s.drop k=r→F (k:Int)=if eqL p r (u.drop k)=true then K else some false
 | [],k,h=>by
  rw [hK k (S4 h).1,List.drop_eq_nil_of_le (by have:=(S4 h).2; omega)]; rfl
 | x::r,k,h=>by
  obtain ⟨e1,e2,e3,e4,e5⟩:=Z7 h
  obtain ⟨y,f1,f2,f3⟩:=Zw (l:=u) (k:=k) (by omega)
  rw [hF k x y e5 e2 f1 e1,w1 (by omega),S1e s u hs hl p F K hF hK r (k+1) e3,f2,eqL]
  cases p x y <;> simp
theorem L10 {α:Type}(s u:List α)(hs:s.length≤BB)(hl:s.length=u.length)(p:α→α→Bool)(F:Int→Option Bool)(K:Option Bool)
  (hF:∀ (k:Nat) x y,x∈s→idx s k=some x→idx u k=some y→decide ((k:Int) < (s.length:Int))=true→F k=if p x y=true then F (IntKind.i64.wrap ((k:Int)+1)) else some false)
  (hK:∀ k:Nat,decide ((k:Int) < (s.length:Int))=false→F k=K):F 0=if eqL p s u=true then K else some false:=
 S1e s u hs hl p F K hF hK s 0 rfl
theorem X1j (b:Bool):(if b=true then some true else some false:Option Bool)=some b:=by cases b <;> rfl
mutual
def E0.same:E0→E0→Bool
 | .mk v pl va nm ar n lo hi ns th el,t=>(v == t.Verb&&nm == t.Name&&n == t.NV&&lo == t.Low&&hi == t.High)&&eqL (fun x y=>x == y) ns t.Numbers&&pl.same t.Place&&va.same t.Value&&eqL A0.same ar t.Args&&E0.sames th t.Then&&E0.sames el t.Else
def E0.sames:List E0→List E0→Bool
 | [],[]=>true
 | x::r,y::s=>E0.same x y&&E0.sames r s
 | [],_::_=>false
 | _::_,[]=>false
end
theorem E0.sames_eq:∀ l m:List E0,E0.sames l m=eqL E0.same l m
 | [],[]=>rfl
 | x::r,y::s=>by simp only [E0.sames,eqL,E0.sames_eq r s]
 | [],_::_=>rfl
 | _::_,[]=>rfl
def stA (s t:E0):Bool:=s.Verb == t.Verb&&s.Name == t.Name&&s.NV == t.NV&&s.Low == t.Low&&s.High == t.High
theorem E0.same_eq (s t:E0):s.same t=(stA s t&&eqL (fun x y=>x == y) s.Numbers t.Numbers&&s.Place.same t.Place&&s.Value.same t.Value&&eqL A0.same s.Args t.Args&&E0.sames s.Then t.Then&&E0.sames s.Else t.Else):=by
 cases s; rfl
theorem nbo (a b:Bool):(bif !a then true else !b) = !(a&&b):=by cases a <;> rfl
theorem L1i (a b:Bool):(bif a then b else false)=(a&&b):=by cases a <;> rfl
theorem S1g {α:Type}[Inhabited α](c:Bool)(X:Option α){a:α}(h:X=some a):(if c=true then X else some default)=some (bif c then a else default):=by subst h; cases c <;> rfl
theorem V1l {α β:Type}(l:List α)(m:List β):((l.length:Int) == (m.length:Int))=(l.length == m.length):=by
 by_cases h:l.length=m.length
 ·simp [h]
 ·rw [beq_eq_false_iff_ne.mpr h,beq_eq_false_iff_ne.mpr (by omega)]
theorem D11 (l:List E0):OkS l→∀ m,F7 l m=some (E0.sames l m):=by
 induction l using E0.inds with
 | h l ih=>
 intro hl m
 rw [F7,E0.sames_eq]
 by_cases hh:l.length=m.length
 ·rw [if_neg (by simp; omega),L10 l m hl.len hh E0.same (Q9 l m) (some true)
   (fun k x y hx h1 h2 h3=>by
    have ho:=hl.mem hx
    obtain ⟨i1,i2⟩:=ih x hx
    rw [Q9,h3,if_pos rfl,h1,ob,h2,ob]
    simp only [bne,nbo,E0.same_eq,V1l]
    unfold stA
    generalize (x.Verb == y.Verb&&x.Name == y.Name&&x.NV == y.NV&&x.Low == y.Low&&x.High == y.High)=A
    cases A with
    | false=>simp
    | true=>
    by_cases g1:x.Args.length=y.Args.length
    ·by_cases g2:x.Numbers.length=y.Numbers.length
     ·rw [beq_iff_eq.mpr g1,beq_iff_eq.mpr g2,if_neg (by simp),
       L10 x.Args y.Args ho.args g1 A0.same (R9 l m x y k) (U7 l m x y k 0)
        (fun j a b ha q1 q2 q3=>by rw [R9,q3,if_pos rfl,q1,ob,q2,ob,Qm a (ho.arg a ha),ob]; cases a.same b <;> simp)
        (fun j h=>by rw [R9,h,if_neg (by simp)]),
       L10 x.Numbers y.Numbers ho.nums g2 (fun x y=>x == y) (U7 l m x y k) _
        (fun j a b ha q1 q2 q3=>by rw [U7,q3,if_pos rfl,q1,ob,q2,ob]; unfold bne; cases a == b <;> simp)
        (fun j h=>by rw [U7,h,if_neg (by simp)])]
      simp only [nbo,Qm _ ho.place,Qm _ ho.value,i1 ho.thens,i2 ho.elses,S1g _ _ rfl,ob]
      generalize eqL (fun x y=>x == y) x.Numbers y.Numbers=b
      generalize x.Place.same y.Place=c
      generalize x.Value.same y.Value=d
      generalize eqL A0.same x.Args y.Args=e
      generalize E0.sames x.Then y.Then=f
      generalize E0.sames x.Else y.Else=g
      cases b <;> cases c <;> cases d <;> cases e <;> cases f <;> cases g <;> rfl
     ·rw [Fh _ g2,beq_eq_false_iff_ne.mpr g2]; simp
    ·rw [Fh _ g1,beq_eq_false_iff_ne.mpr g1]; simp)
   (fun k h=>by rw [Q9,h,if_neg (by simp)]),X1j]
 ·rw [if_pos (by simp; omega),Fh _ hh]
mutual
def D0.same:D0→D0→Bool
 | .mk k nm t i v ps vs bd,e=>(k == e.Kind&&nm == e.Name&&i == e.Init)&&t.same e.TypeV&&v.same e.Value&&D0.sames ps e.Params&&D0.sames vs e.Vars&&E0.sames bd e.Body
def D0.sames:List D0→List D0→Bool
 | [],[]=>true
 | x::r,y::s=>D0.same x y&&D0.sames r s
 | [],_::_=>false
 | _::_,[]=>false
end
theorem D0.sames_eq:∀ l m:List D0,D0.sames l m=eqL D0.same l m
 | [],[]=>rfl
 | x::r,y::s=>by simp only [D0.sames,eqL,D0.sames_eq r s]
 | [],_::_=>rfl
 | _::_,[]=>rfl
theorem D0.same_eq (s t:D0):s.same t=((s.Kind == t.Kind&&s.Name == t.Name&&s.Init == t.Init)&&s.TypeV.same t.TypeV&&s.Value.same t.Value&&D0.sames s.Params t.Params&&D0.sames s.Vars t.Vars&&E0.sames s.Body t.Body):=by
 cases s; rfl
theorem Y19 (l:List D0):OkD l→∀ m,S8 l m=some (D0.sames l m):=by
 induction l using D0.inds with
 | h l ih=>
 intro hl m
 rw [S8,D0.sames_eq]
 by_cases hh:l.length=m.length
 ·rw [if_neg (by simp; omega),L10 l m hl.len hh D0.same (S9 l m) (some true)
   (fun k x y hx h1 h2 h3=>by
    have ho:=hl.mem hx
    obtain ⟨i1,i2⟩:=ih x hx
    rw [S9,h3,if_pos rfl,h1,ob,h2,ob]
    simp only [bne,nbo,L1i,H1e _ ho.type,Qm _ ho.value,i1 ho.params,i2 ho.vars,D11 _ ho.body,S1g _ _ rfl,ob,D0.same_eq]
    generalize (x.Kind == y.Kind&&x.Name == y.Name&&x.Init == y.Init)=A
    generalize x.TypeV.same y.TypeV=c
    generalize x.Value.same y.Value=d
    generalize D0.sames x.Params y.Params=e
    generalize D0.sames x.Vars y.Vars=f
    generalize E0.sames x.Body y.Body=g
    cases A <;> cases c <;> cases d <;> cases e <;> cases f <;> cases g <;> rfl)
   (fun k h=>by rw [S9,h,if_neg (by simp)]),X1j]
 ·rw [if_pos (by simp; omega),Fh _ hh]
theorem Z13 (l:List E0):E0.sames l l=true:=by
 induction l using E0.inds with
 | h l ih=>
 rw [E0.sames_eq]
 refine Rj l fun x hx=>?_
 obtain ⟨i1,i2⟩:=ih x hx
 rw [E0.same_eq,i1,i2,Rm,Rm,Rj x.Args (fun a _=>Rm a),Rj x.Numbers (fun a _=>by simp)]
 simp [stA]
theorem L1c (l:List D0):D0.sames l l=true:=by
 induction l using D0.inds with
 | h l ih=>
 rw [D0.sames_eq]
 refine Rj l fun x hx=>?_
 obtain ⟨i1,i2⟩:=ih x hx
 rw [D0.same_eq,i1,i2,Rm,I1e,Z13]
 simp
def C17 (p q:B1):Bool:=D0.sames p.Decls q.Decls&&E0.sames p.Body q.Body
theorem T1g (p q:B1)(h:OkP p):Yk p q=some (C17 p q):=by
 unfold Yk
 simp only [Y19 _ h.decls,D11 _ h.body,S1g _ _ rfl,ob,C17]
 cases D0.sames p.Decls q.Decls <;> rfl
end Go.Proofs.YtmnhfbekncjnfaaGreatDoor

namespace Go.Proofs.YtmnhfbekncjnfaaGreatDoor
open Go.Am
def skp:Bool→List UInt8→Nat
 | _,[]=>0
 | false,c::r=>if (c.toNat:Int) == 35 then skp true r+1 else if (c.toNat:Int) == 32||((c.toNat:Int) == 9||(c.toNat:Int) == 10) then skp false r+1 else 0
 | true,c::r=>if (c.toNat:Int) == 10 then skp false r+1 else skp true r+1
theorem Xz:∀ (b:Bool) (r:List UInt8),skp b r≤r.length
 | true,[]=>Nat.le_refl _
 | false,[]=>Nat.le_refl _
 | false,c::r=>by
  have h1:=Xz true r
  have h2:=Xz false r
  simp only [skp,List.length_cons]
  split
  ·omega
  ·split <;> omega
 | true,c::r=>by
  have h1:=Xz true r
  have h2:=Xz false r
  simp only [skp,List.length_cons]
  split <;> omega
theorem H16 (s:Str)(hs:s.length≤BB):∀ (r:Str) (k:Nat),s.drop k=r→T6 s k=some ((k+skp false r:Nat):Int)∧Qa s k=some ((k+skp true r:Nat):Int)
 | [],k,h=>by
  have h1:T6 s k=some ((k+skp false []:Nat):Int):=by rw [T6,(S4 h).1]; simp [skp]
  refine ⟨h1,?_⟩
  rw [Qa,(S4 h).1]
  simpa [ob,skp] using h1
 | c::r,k,h=>by
  obtain ⟨h1,h2,h3,h4,_⟩:=Z7 h
  obtain ⟨i1,i2⟩:=H16 s hs r (k+1) h3
  have e2:((c.toNat:Int) == 10)=false→Qa s k=some ((k+skp true (c::r):Nat):Int):=fun hc=>by
   rw [Qa,h1,if_pos rfl,h2,ob]
   have:((c.toNat:Int) != 10)=true:=by simp only [bne,hc]; rfl
   rw [this,cond_true,if_pos rfl,w1 (by omega),i2]
   simp only [skp,hc]
   simp; omega
  have e1:T6 s k=some ((k+skp false (c::r):Nat):Int):=by
   rw [T6,h1,if_pos rfl,h2]
   simp only [ob]
   cases h35:(c.toNat:Int) == 35 with
   | true=>
    rw [if_pos rfl,e2 (by have:=eq_of_beq h35; rw [this]; rfl)]
    simp only [skp,h35,if_true]
    have:((c.toNat:Int) == 10)=false:=by have:=eq_of_beq h35; rw [this]; rfl
    simp [this]
   | false=>
    rw [if_neg (by simp)]
    simp only [w1 (show k≤BB by omega),i1,skp,h35]
    by_cases h32:(c.toNat:Int)=32 <;> by_cases h9:(c.toNat:Int)=9 <;> by_cases h10:(c.toNat:Int)=10 <;> simp [ob,h32,h9,h10] <;> omega
  refine ⟨e1,?_⟩
  cases h10:(c.toNat:Int) == 10 with
  | false=>exact e2 h10
  | true=>
   rw [Qa,h1,if_pos rfl,h2,ob]
   have:((c.toNat:Int) != 10)=false:=by simp only [bne,h10]; rfl
   rw [this,cond_true,if_neg (by simp),e1]
   have h35:((c.toNat:Int) == 35)=false:=by have:=eq_of_beq h10; rw [this]; rfl
   simp [skp,h10,h35]
theorem U1g (s:Str)(hs:s.length≤BB)(k:Nat):Ri s k=some ((k+skp false (s.drop k):Nat):Int):=(H16 s hs _ k rfl).1
theorem M1i {s:List UInt8}(hne:s≠[])(hall:s.all ld=true):E1c s=Ww s:=by
 unfold E1c Ww
 rw [J1g hall]
 have hz:((s.length:Int) == 0)=false:=beq_eq_false_iff_ne.2 (by have:=List.length_pos_iff.2 hne; omega)
 have hn:(s == [])=false:=by cases s with
  | nil=>exact absurd rfl hne
  | cons _ _=>rfl
 rw [hz,hn]
 cases hk:Lib.contains kw ([32]++s++[32]) with
 | false=>simp
 | true=>rw [K1i hall hk]; rfl
theorem G19 (s:Str)(hs:s.length≤BB):∀ (r:Str) (k:Nat),s.drop k=r→I8 s k=some ((k+M4 r:Nat):Int)
 | [],k,h=>by rw [I8,(S4 h).1]; simp [M4,ob]
 | c::r,k,h=>by
  obtain ⟨h1,h2,h3,h4,_⟩:=Z7 h
  have ih:=G19 s hs r (k+1) h3
  rw [I8,h1,if_pos rfl,h2,ob,if_pos rfl,Iu,ob,w1 (by omega),ih]
  simp only [M4,ld]
  cases hl:Me c.toNat <;> cases hd:G9 c.toNat <;> simp [Br,hd,ob] <;> omega
theorem I16:∀ r:List UInt8,(r.take (M4 r)).all ld=true
 | []=>rfl
 | c::r=>by
  simp only [M4]
  cases h:ld c with
  | false=>rfl
  | true=>simp only [cond_true,List.take_succ_cons,List.all_cons,h,I16 r]; rfl
def nv (n:Nat)(l:List UInt8):Nat:=l.foldl (fun n c=>10 * n+(c.toNat - 48)) n
theorem Wv (n:Nat):nv n []=n:=rfl
theorem Ho (n:Nat)(c:UInt8)(r:List UInt8):nv n (c::r)=nv (10 * n+(c.toNat - 48)) r:=by unfold nv; rw [List.foldl_cons]
theorem R1h (r:List UInt8):∀ n:Nat,n≤nv n r:=by
 induction r with
 | nil=>intro n; rw [Wv]; exact Nat.le_refl _
 | cons c r ih=>intro n; rw [Ho]; have:=ih (10 * n+(c.toNat - 48)); omega
def D15 (n:Nat):Int:=if n > 1048576 then 3 else 0
theorem B12 {n:Nat}(h:n > 1048576):D15 n=3:=if_pos h
theorem S1a {n:Nat}(h:n≤1048576):D15 n=0:=if_neg (by omega)
def Rt (w:List UInt8):Bool:=decide ((w.length:Int) > 1)&&((w.getD 0 0).toNat:Int) == 48
def Ku (w:List UInt8):Int:=if w.all (fun c=>G9 c.toNat) && !Rt w then D15 (nv 0 w) else 6
theorem Il {n:Nat}:G9 n=true ↔ 48≤n∧n≤57:=by
 unfold G9
 by_cases h:48≤n
 ·rw [show decide ((n:Int)≥48)=true from decide_eq_true (by omega),cond_true,decide_eq_true_iff]; omega
 ·rw [show decide ((n:Int)≥48)=false from decide_eq_false (by omega),cond_false]; simp; omega
theorem V1g {c:UInt8}(h:G9 c.toNat=true):IntKind.i64.wrap (IntKind.u8.wrap ((c.toNat:Int) - 48))=((c.toNat - 48:Nat):Int):=by
 have:=Il.1 h
 rw [X1h (by omega) (by omega),wr (by omega) (by omega)]; omega
theorem J16 (s:Str)(n v7:Int):L5 s n v7=if (decide (v7 < ((s).length:Int)))=true then
  idx s v7>>=fun x1=>
  V8 (x1.toNat:Int)>>=fun x2=>
  if (!x2)=true then
   some 6
  else
   idx s v7>>=fun x3=>
   L5 s (min (IntKind.i64.wrap ((IntKind.i64.wrap (10 * n))+(IntKind.i64.wrap (IntKind.u8.wrap ((x3.toNat:Int) - 48))))) 1048577) (IntKind.i64.wrap (v7+1))
 else
  idx s 0>>=fun x4=>
  if (bif ((x4.toNat:Int) == 48) then (decide (((s).length:Int) > 1)) else false)=true then
   some 6
  else
   if (decide (n > 1048576))=true then
    some 3
   else
    some 0:=L5.eq_1 s n v7
theorem M1c (s:Str)(hs:s.length≤BB)(hne:s≠[]):∀ (r:Str) (k m:Nat) (n:Int),s.drop k=r→(m≤1048576→n=m)→(m > 1048576→n=1048577)→
  L5 s n k=some (if r.all (fun c=>G9 c.toNat) && !Rt s then D15 (nv m r) else 6):=by
 intro r
 induction r with
 | nil=>
  intro k m n h hn hn'
  refine (J16 s n k).trans ?_
  rw [(S4 h).1,if_neg (by simp)]
  have h0:idx s 0=some (s.getD 0 0):=getD_some (List.length_pos_iff.2 hne)
  rw [h0,ob]
  have hb:(bif (((s.getD 0 0).toNat:Int) == 48) then decide ((s.length:Int) > 1) else false)=Rt s:=by
   unfold Rt
   cases ((s.getD 0 0).toNat:Int) == 48 <;> simp
  rw [hb]
  rw [Wv,List.all_nil,Bool.true_and]
  rcases Bool.eq_false_or_eq_true (Rt s) with hz | hz
  ·rw [hz,if_pos rfl,Bool.not_true,if_neg (by simp)]
  ·rw [hz,if_neg (by simp),Bool.not_false,if_pos rfl]
   rcases Nat.lt_or_ge 1048576 m with hm | hm
   ·rw [B12 hm,if_pos (decide_eq_true (by have:=hn' hm; omega))]
   ·rw [S1a hm,if_neg (by have:=hn hm; simp; omega)]
 | cons c r ihr=>
  intro k m n h hn hn'
  obtain ⟨h1,h2,h3,h4,_⟩:=Z7 h
  refine (J16 s n k).trans ?_
  rw [h1,if_pos rfl,h2,ob,Br,ob]
  cases hd:G9 c.toNat with
  | false=>simp [hd]
  | true=>
   have hc:=Il.1 hd
   have hnn:0≤n∧n≤1048577:=by
    by_cases hm:m > 1048576
    ·have:=hn' hm; omega
    ·have:=hn (Nat.le_of_not_lt hm); omega
   have e:IntKind.i64.wrap (IntKind.i64.wrap (10 * n)+IntKind.i64.wrap (IntKind.u8.wrap ((c.toNat:Int) - 48)))=10 * n+((c.toNat - 48:Nat):Int):=by
    rw [V1g hd,wr (n:=10 * _) (by omega) (by omega),wr (by omega) (by omega)]
   have ih:=ihr (k+1) (10 * m+(c.toNat - 48)) (min (10 * n+((c.toNat - 48:Nat):Int)) 1048577) h3 (fun hm=>by have:=hn (by omega); omega) (fun hm=>by
    by_cases hm2:m > 1048576
    ·have:=hn' hm2; omega
    ·have:=hn (Nat.le_of_not_lt hm2); omega)
   simp only [Bool.not_true,Bool.false_eq_true,if_false,ob,e,w1 (show k≤BB by omega)]
   rw [ih,List.all_cons,hd,Bool.true_and]
   rw [Ho]
theorem N1c (s:Str)(hs:s.length≤BB)(hne:s≠[]):Hg s=some (Ku s):=M1c s hs hne s 0 0 0 rfl (fun _=>rfl) (fun h=>by omega)
theorem K16 (s:Str)(hs:s.length≤BB):∀ (r:Str) (k m:Nat),s.drop k=r→m≤1048576→r.all (fun c=>G9 c.toNat)=true→V6 s m k=some (D15 (nv m r)):=by
 intro r
 induction r with
 | nil=>intro k m h hm _; rw [V6,(S4 h).1,if_neg (by simp)]; rw [Wv,S1a hm]
 | cons c r ihr=>
  intro k m h hm ha
  obtain ⟨h1,h2,h3,h4,_⟩:=Z7 h
  rw [List.all_cons,Bool.and_eq_true] at ha
  have hc:=Il.1 ha.1
  have e:IntKind.i64.wrap (IntKind.i64.wrap ((m:Int) * 10)+IntKind.i64.wrap (IntKind.u8.wrap ((c.toNat:Int) - 48)))=((10 * m+(c.toNat - 48):Nat):Int):=by
   rw [V1g ha.1,wr (n:=(m:Int) * 10) (by omega) (by omega),wr (by omega) (by omega)]; omega
  rw [V6,h1,if_pos rfl,h2,ob,e]
  rw [Ho]
  by_cases hb:10 * m+(c.toNat - 48) > 1048576
  ·rw [if_pos (decide_eq_true (by omega)),B12 (by have:=R1h r (10 * m+(c.toNat - 48)); omega)]
  ·rw [if_neg (by simp; omega),w1 (by omega)]
   exact ihr (k+1) _ h3 (by omega) ha.2
theorem L16 (s:Str)(hs:s.length≤BB)(hall:(v:Int)→V6 s 0 0=some v→True):∀ (r:Str) (k:Nat),s.drop k=r→I9 s k=if r.all (fun c=>G9 c.toNat) then V6 s 0 0 else some 6
 | [],k,h=>by rw [I9,(S4 h).1,if_neg (by simp)]; rfl
 | c::r,k,h=>by
  obtain ⟨h1,h2,h3,h4,_⟩:=Z7 h
  rw [I9,h1,if_pos rfl,h2,ob,Ju,ob]
  cases hd:G9 c.toNat with
  | false=>simp [hd]
  | true=>simp only [Bool.not_true,Bool.false_eq_true,if_false,w1 (show k≤BB by omega),L16 s hs hall r (k+1) h3,List.all_cons,hd,Bool.true_and]
theorem H19 (s:Str)(hs:s.length≤BB)(hne:s≠[]):Ij s=some (Ku s):=by
 unfold Ij Ku
 have h0:idx s 0=some (s.getD 0 0):=getD_some (List.length_pos_iff.2 hne)
 have hr:=L16 s hs (fun _ _=>trivial) s 0 rfl
 rw [h0,show (0:Int)=((0:Nat):Int) from rfl,hr]
 unfold Rt
 cases hl:decide ((s.length:Int) > 1) with
 | false=>
  simp only [Bool.false_eq_true,if_false,ob,cond_false,Bool.false_and,Bool.not_false,Bool.and_true]
  cases ha:s.all (fun c=>G9 c.toNat) with
  | false=>rfl
  | true=>exact K16 s hs s 0 0 rfl (by omega) ha
 | true=>
  simp only [if_true,ob,cond_true,Bool.true_and]
  cases hz:((s.getD 0 0).toNat:Int) == 48 with
  | true=>simp
  | false=>
   simp only [Bool.false_eq_true,if_false,Bool.not_false,Bool.and_true]
   cases ha:s.all (fun c=>G9 c.toNat) with
   | false=>rfl
   | true=>exact K16 s hs s 0 0 rfl (by omega) ha
def Vi (s:List UInt8):Bool:=s == [46,46]||s == [61,61]||s == [33,61]||s == [60,61]||s == [62,61]||s == [38,38]||s == [124,124]
def O1c:List UInt8:=[59,58,44,46,61,43,45,42,47,37,60,62,33,63,40,41,91,93,123,125]
def Hq (c:UInt8):Bool:=O1c.contains c
theorem Z19 (a b:UInt8):Db [a,b]=some (Vi [a,b]):=by
 unfold Db W6 Vi
 cases ([a,b] == [46,46]:Bool) <;> cases ([a,b] == [61,61]:Bool) <;> cases ([a,b] == [33,61]:Bool) <;> cases ([a,b] == [60,61]:Bool) <;> cases ([a,b] == [62,61]:Bool) <;> cases ([a,b] == [38,38]:Bool) <;> cases ([a,b] == [124,124]:Bool) <;> simp
set_option maxRecDepth 100000 in
theorem A1a:∀ a:UInt8,Db [a]=some (Hq a):=by
 have:∀ n:Fin 256,Db [UInt8.ofNat n.val]=some (Hq (UInt8.ofNat n.val)):=by decide
 intro a
 have h:=this ⟨a.toNat,a.toNat_lt⟩
 simpa using h
end Go.Proofs.YtmnhfbekncjnfaaGreatDoor

namespace Go.Proofs.YtmnhfbekncjnfaaGreatDoor
open Go.Am
theorem T1e (c:UInt8):∀ l:List UInt8,0≤Lib.indexByte l c ↔ l.contains c=true
 | []=>by simp [Lib.indexByte]
 | b::l=>by
  have ih:=T1e c l
  have hg:=Lib.indexByte_ge l c
  by_cases hb:b=c
  ·subst hb
   simp [Lib.indexByte]
  ·have h1:(b == c)=false:=beq_eq_false_iff_ne.2 hb
   have h2:(c == b)=false:=beq_eq_false_iff_ne.2 fun e=>hb e.symm
   unfold Lib.indexByte
   rw [h1,List.contains_cons,h2,Bool.false_or,← ih,if_neg (by simp)]
   by_cases h:Lib.indexByte l c = -1
   ·rw [if_pos (by rw [h]; rfl),h]
   ·rw [if_neg (by simpa using h)]
    omega
theorem Y1k (c:UInt8)(l:List UInt8):decide (Lib.indexByte l c≥0)=l.contains c:=by
 rw [Bool.eq_iff_iff,decide_eq_true_iff]
 exact T1e c l
theorem Jl {s r:List UInt8}{k n:Nat}(h:s.drop k=r)(hk:k≤s.length)(hn:n≤r.length):slc s (k:Int) ((k+n:Nat):Int)=some (r.take n):=by
 have hl:r.length=s.length - k:=by rw [← h,List.length_drop]
 unfold slc
 rw [if_pos ⟨by omega,by omega,by omega⟩,← h]
 simp only [Int.toNat_natCast]
 rw [List.drop_take]
 congr 2
 congr 1
 omega
theorem A14 (c:UInt8)(r:Str):Nb (c::r)=some (if Hq c then [c] else []):=by
 unfold Nb
 have h0:idx (c::r) 0=some c:=rfl
 rw [h0,ob]
 have hb:=Y1k c O1c
 unfold Qo
 rw [ob]
 have e:((c.toNat:Int).toNat.toUInt8)=c:=by simp
 rw [e]
 unfold O1c at hb
 rw [hb]
 unfold Hq O1c
 have h1:slc (c::r) 0 1=some [c]:=by
  have:=Jl (s:=c::r) (k:=0) (n:=1) rfl (by omega) (by simp)
  simpa using this
 rw [h1]
 split <;> rfl
theorem W1g (c:UInt8):Jd [c]=some (if Hq c then [c] else []):=by
 unfold Jd
 rw [if_neg (by simp)]
 exact A14 c []
theorem X1g (a b:UInt8)(r:Str):Jd (a::b::r)=some (if Vi [a,b] then [a,b] else if Hq a then [a] else []):=by
 unfold Jd
 have h2:slc (a::b::r) 0 2=some [a,b]:=by
  have:=Jl (s:=a::b::r) (k:=0) (n:=2) rfl (by omega) (by simp)
  simpa using this
 rw [if_pos (decide_eq_true (by simp only [List.length_cons]; omega)),h2,ob]
 unfold Q6 Vi
 rw [h2,A14]
 cases ([a,b] == [46,46]:Bool) <;> cases ([a,b] == [61,61]:Bool) <;> cases ([a,b] == [33,61]:Bool) <;> cases ([a,b] == [60,61]:Bool) <;> cases ([a,b] == [62,61]:Bool) <;> cases ([a,b] == [38,38]:Bool) <;> cases ([a,b] == [124,124]:Bool) <;> simp [ob]
def nxt (r:List UInt8)(k:Int):K0×Int:=
 if Me (r.getD 0 0).toNat then
  if Ww (r.take (M4 r)) then (K0.mk 2 (r.take (M4 r)) k,0)
  else if decide (((r.take (M4 r)).length:Int) > 12) then (K0.mk 0 (r.take (M4 r)) k,7)
  else (K0.mk 0 (r.take (M4 r)) k,0)
 else if G9 (r.getD 0 0).toNat then (K0.mk 1 (r.take (M4 r)) k,Ku (r.take (M4 r)))
 else if decide (2≤r.length)&&Vi (r.take 2) then (K0.mk 3 (r.take 2) k,0)
 else if Hq (r.getD 0 0) then (K0.mk 3 [r.getD 0 0] k,0)
 else (K0.mk 3 [] k,6)
theorem Ax {c:UInt8}{t:List UInt8}(h:ld c=true):1≤M4 (c::t):=by simp [M4,h]
theorem N1i (s:Str)(hs8:s.length≤8192){c:UInt8}{t:Str}{k:Nat}(h:s.drop k=c::t):Ef s k=some (nxt (c::t) k):=by
 have hs:s.length≤BB:=by unfold BB; omega
 obtain ⟨h1,h2,h3,h4,_⟩:=Z7 h
 have hle:=Ir (c::t)
 have hlen:(c::t).length=s.length - k:=by rw [← h,List.length_drop]
 have hrun:Fj s k=some ((k+M4 (c::t):Nat):Int):=G19 s hs _ k h
 have hslc:=Jl h (by omega) hle
 have ht8:((c::t).take (M4 (c::t))).length≤8192:=by rw [List.length_take]; omega
 have htl:((c::t).take (M4 (c::t))).length≤BB:=by unfold BB; omega
 unfold Ef nxt
 rw [h2,ob,Iu,ob,hrun]
 simp only [List.getD_cons_zero]
 cases hl:Me c.toNat with
 | true=>
  simp only [if_true,ob,hslc]
  rw [show Y8 ((c::t).take (M4 (c::t)))=some (Ww ((c::t).take (M4 (c::t)))) from C11 _ (by omega),ob]
  cases Ww ((c::t).take (M4 (c::t))) with
  | true=>rfl
  | false=>
   cases decide ((((c::t).take (M4 (c::t))).length:Int) > 12) <;> rfl
 | false=>
  simp only [Bool.false_eq_true,if_false,Br,ob]
  cases hd:G9 c.toNat with
  | true=>
   simp only [if_true,ob,hslc]
   have hld:ld c=true:=by unfold ld; rw [hl,hd]; rfl
   have hp:=Ax (t:=t) hld
   rw [N1c _ htl (by intro he; have:=congrArg List.length he; rw [List.length_take] at this; simp at this; omega)]
   rfl
  | false=>
   simp only [Bool.false_eq_true,if_false]
   have hsl:slc s (k:Int) ((s.length:Nat):Int)=some (c::t):=by
    have:=Jl (n:=(c::t).length) h (by omega) (Nat.le_refl _)
    rw [List.take_length] at this
    rw [← this,hlen]
    congr 1; omega
   rw [hsl,ob]
   cases t with
   | nil=>
    rw [W1g,ob]
    cases Hq c <;> rfl
   | cons b t=>
    rw [X1g,ob]
    cases hz:Vi [c,b] with
    | true=>simp [hz]
    | false=>cases hy:Hq c <;> simp [hz,hy]
def I19 (x:K0×Int):K0×Int:=if x.2=0 then x else (K0.mk 0 [] 0,x.2)
theorem P1c (w:List UInt8):Ku w=0∨Ku w=3∨Ku w=6:=by
 unfold Ku D15
 split
 ·split <;> simp
 ·simp
theorem Y1g (s:Str)(hs8:s.length≤8192){c:UInt8}{t:Str}{k:Nat}(h:s.drop k=c::t):Sk s k=some (I19 (nxt (c::t) k)):=by
 have hs:s.length≤BB:=by unfold BB; omega
 obtain ⟨h1,h2,h3,h4,_⟩:=Z7 h
 have hle:=Ir (c::t)
 have hlen:(c::t).length=s.length - k:=by rw [← h,List.length_drop]
 have hrun:Lt s k=some ((k+M4 (c::t):Nat):Int):=P1a s hs _ k h
 have hslc:=Jl h (by omega) hle
 have ht8:((c::t).take (M4 (c::t))).length≤8192:=by rw [List.length_take]; omega
 have htl:((c::t).take (M4 (c::t))).length≤BB:=by unfold BB; omega
 have hne:ld c=true→(c::t).take (M4 (c::t))≠[]:=fun hld he=>by
  have hp:=Ax (t:=t) hld
  have:=congrArg List.length he
  rw [List.length_take] at this
  simp at this
  omega
 unfold Sk nxt
 rw [hrun,ob,h2,ob,Ps,ob]
 simp only [List.getD_cons_zero]
 cases hl:Me c.toNat with
 | true=>
  have hld:ld c=true:=by unfold ld; rw [hl]; rfl
  simp only [if_true,ob,hslc]
  rw [Z14 _ (by omega),M1i (hne hld) (I16 _),ob]
  cases Ww ((c::t).take (M4 (c::t))) with
  | true=>rfl
  | false=>cases decide ((((c::t).take (M4 (c::t))).length:Int) > 12) <;> rfl
 | false=>
  simp only [Bool.false_eq_true,if_false,Ju,ob]
  cases hd:G9 c.toNat with
  | true=>
   have hld:ld c=true:=by unfold ld; rw [hl,hd]; rfl
   simp only [if_true,ob,hslc]
   rw [H19 _ htl (hne hld),ob]
   unfold I19
   rcases P1c ((c::t).take (M4 (c::t))) with hn | hn | hn <;> rw [hn] <;> rfl
  | false=>
   simp only [Bool.false_eq_true,if_false]
   rw [wr (n:=(k:Int)+2) (by omega) (by omega),wr (n:=(k:Int)+1) (by omega) (by omega)]
   have hs1:slc s (k:Int) ((k:Int)+1)=some [c]:=by
    have:=Jl (n:=1) h (by omega) (by simp)
    simpa using this
   have fin:(slc s (k:Int) ((k:Int)+1)>>=fun x14=>Db x14>>=fun x15=>if x15=true then slc s (k:Int) ((k:Int)+1)>>=fun x16=>some ((K0.mk 3 x16 (k:Int)),(0:Int)) else some ((K0.mk 0 [] 0),6))=some (I19 (if Hq c then (K0.mk 3 [c] (k:Int),0) else (K0.mk 3 [] (k:Int),6))):=by
    rw [hs1,ob,A1a,ob]
    cases Hq c <;> rfl
   cases t with
   | nil=>
    simp only [List.length_cons,List.length_nil] at hlen
    have:decide ((k:Int)+2≤(s.length:Int))=false:=decide_eq_false (by omega)
    rw [this]
    simp only [Bool.false_eq_true,if_false,ob,cond_false]
    exact fin
   | cons b t=>
    simp only [List.length_cons] at hlen
    have:decide ((k:Int)+2≤(s.length:Int))=true:=decide_eq_true (by omega)
    have hs2:slc s (k:Int) ((k:Int)+2)=some [c,b]:=by
     have:=Jl (n:=2) h (by omega) (by simp)
     simpa using this
    rw [this]
    simp only [if_true,hs2,ob,Z19,cond_true]
    cases hz:Vi [c,b] with
    | true=>simp [I19,hz]
    | false=>
     simp only [Bool.false_eq_true,if_false]
     rw [fin]
     simp [hz]
def Ye:Nat→List UInt8→Nat→List K0×Int×Int
 | 0,_,_=>([],0,0)
 | n+1,r,k=>
  match r.drop (skp false r) with
  | []=>([],0,0)
  | c::t=>
   let x:=nxt (c::t) ((k+skp false r:Nat):Int)
   if x.2=0 then
    let z:=Ye n ((c::t).drop x.1.Text.length) (k+skp false r+x.1.Text.length)
    if z.2.2=0 then (x.1::z.1,0,0) else z
   else ([],((k+skp false r:Nat):Int),x.2)
theorem Kl {c:UInt8}{t:List UInt8}{k:Int}(h:(nxt (c::t) k).2=0):1≤(nxt (c::t) k).1.Text.length∧(nxt (c::t) k).1.Text.length≤(c::t).length∧(nxt (c::t) k).1.At=k∧(c::t).take (nxt (c::t) k).1.Text.length=(nxt (c::t) k).1.Text:=by
 have hle:=Ir (c::t)
 have key:∀ {n:Nat},1≤n→n≤(c::t).length→1≤((c::t).take n).length∧((c::t).take n).length≤(c::t).length∧(c::t).take ((c::t).take n).length=(c::t).take n:=fun h1 h2=>by
  rw [List.length_take,Nat.min_eq_left h2]; exact ⟨h1,h2,rfl⟩
 revert h
 unfold nxt
 simp only [List.getD_cons_zero]
 cases hl:Me c.toNat with
 | true=>
  have hld:ld c=true:=by unfold ld; rw [hl]; rfl
  obtain ⟨a1,a2,a3⟩:=key (Ax (t:=t) hld) hle
  simp only [if_true]
  split
  ·exact fun _=>⟨a1,a2,rfl,a3⟩
  ·split
   ·intro h; cases h
   ·exact fun _=>⟨a1,a2,rfl,a3⟩
 | false=>
  simp only [Bool.false_eq_true,if_false]
  cases hd:G9 c.toNat with
  | true=>
   have hld:ld c=true:=by unfold ld; rw [hl,hd]; rfl
   obtain ⟨a1,a2,a3⟩:=key (Ax (t:=t) hld) hle
   exact fun _=>⟨a1,a2,rfl,a3⟩
  | false=>
   simp only [Bool.false_eq_true,if_false]
   split
   ·rename_i h2
    rw [Bool.and_eq_true] at h2
    obtain ⟨a1,a2,a3⟩:=key (n:=2) (by omega) (of_decide_eq_true h2.1)
    exact fun _=>⟨a1,a2,rfl,a3⟩
   ·split
    ·exact fun _=>⟨by simp,by simp,rfl,by simp⟩
    ·intro h; cases h
def Tt (s:Str)(out:List K0)(k:Nat):Option (List K0×Int×Int):=
 if k < s.length then
  Ef s k>>=fun x2=>
  if (x2.2 != 0)=true then some ([],(k:Int),x2.2)
  else if (decide ((out.length+1) * 33≤140737488355328))=true then C4 s (out++[x2.1]) (IntKind.i64.wrap ((k:Int)+((x2.1.Text).length:Int)))
  else none
 else some (out,0,0)
theorem U1e (s:Str)(hs:s.length≤BB)(out:List K0):∀ (r:Str) (k:Nat),s.drop k=r→C4 s out k=Tt s out (k+skp false r)∧U9 s out k=Tt s out (k+skp true r)
 | [],k,h=>by
  obtain ⟨h1,h2⟩:=S4 h
  have e1:C4 s out k=Tt s out (k+skp false []):=by
   rw [C4,h1,if_neg (by simp)]
   unfold Tt
   rw [if_neg (by simp [skp]; omega)]
  refine ⟨e1,?_⟩
  rw [U9,h1]
  simpa [ob,skp] using e1
 | c::r,k,h=>by
  obtain ⟨h1,h2,h3,h4,_⟩:=Z7 h
  obtain ⟨i1,i2⟩:=U1e s hs out r (k+1) h3
  have e2:((c.toNat:Int) == 10)=false→U9 s out k=Tt s out (k+skp true (c::r)):=fun hc=>by
   rw [U9,h1,if_pos rfl,h2,ob]
   have:((c.toNat:Int) != 10)=true:=by simp only [bne,hc]; rfl
   rw [this,cond_true,if_pos rfl,w1 (by omega),i2]
   simp only [skp,hc]
   congr 1
   simp; omega
  have e1:C4 s out k=Tt s out (k+skp false (c::r)):=by
   have hj:C4 s out k=Kc s out k c ((c.toNat:Int) == 32||((c.toNat:Int) == 9||(c.toNat:Int) == 10)):=by
    rw [C4,h1,if_pos rfl,h2,ob]
    cases h32:(c.toNat:Int) == 32 with
    | true=>rfl
    | false=>cases h9:(c.toNat:Int) == 9 <;> simp
   rw [hj,Kc]
   cases hb:((c.toNat:Int) == 32||((c.toNat:Int) == 9||(c.toNat:Int) == 10)) with
   | true=>
    have h35:((c.toNat:Int) == 35)=false:=by
     cases hx:(c.toNat:Int) == 35 with
     | false=>rfl
     | true=>rw [eq_of_beq hx] at hb; cases hb
    rw [if_pos rfl,w1 (by omega),i1]
    simp only [skp,h35,hb]
    congr 1
    simp; omega
   | false=>
    rw [if_neg (by simp)]
    cases h35:(c.toNat:Int) == 35 with
    | true=>
     rw [if_pos rfl,e2 (by have:=eq_of_beq h35; rw [this]; rfl)]
     have h10:((c.toNat:Int) == 10)=false:=by have:=eq_of_beq h35; rw [this]; rfl
     simp [skp,h35,h10]
    | false=>
     rw [if_neg (by simp)]
     simp only [skp,h35,hb]
     unfold Tt
     rw [if_pos (by simpa using h4)]
     rfl
  refine ⟨e1,?_⟩
  cases h10:(c.toNat:Int) == 10 with
  | false=>exact e2 h10
  | true=>
   rw [U9,h1,if_pos rfl,h2,ob]
   have:((c.toNat:Int) != 10)=false:=by simp only [bne,h10]; rfl
   rw [this,cond_true,if_neg (by simp),e1]
   have h35:((c.toNat:Int) == 35)=false:=by have:=eq_of_beq h10; rw [this]; rfl
   simp [skp,h10,h35]
theorem O1i:∀ (n:Nat) (r:List UInt8) (k:Nat),(Ye n r k).2.2=0→(Ye n r k).2=(0,0)
 | 0,_,_,_=>rfl
 | n+1,r,k,h=>by
  revert h
  unfold Ye
  split
  ·exact fun _=>rfl
  ·rename_i c t _
   simp only
   split
   ·split
    ·exact fun _=>rfl
    ·rename_i hz
     exact fun h=>absurd h hz
   ·rename_i hx
    exact fun h=>absurd h hx
def Io (out:List K0)(z:List K0×Int×Int):List K0×Int×Int:=if z.2.2=0 then (out++z.1,0,0) else z
theorem T1a (s:Str)(hs8:s.length≤8192):∀ (n k:Nat) (out:List K0),s.length - k < n→k≤s.length→out.length≤k→
  C4 s out k=some (Io out (Ye n (s.drop k) k))∧(Ri s k>>=fun a=>Ce s out a)=some (Io out (Ye n (s.drop k) k))
 | 0,k,out,h,_,_=>by omega
 | n+1,k,out,h,hk,ho=>by
  have hs:s.length≤BB:=by unfold BB; omega
  have hb:=Xz false (s.drop k)
  rw [List.length_drop] at hb
  rw [(U1e s hs out _ k rfl).1,U1g s hs k,ob]
  generalize hj:k+skp false (s.drop k)=j at *
  have hdj:(s.drop k).drop (skp false (s.drop k))=s.drop j:=by rw [List.drop_drop,hj]
  unfold Tt
  rw [Ce]
  unfold Ye
  rw [hdj,hj]
  cases hd:s.drop j with
  | nil=>
   obtain ⟨h1,h2⟩:=S4 hd
   rw [h1,if_neg (by omega),if_neg (by simp)]
   unfold Io
   simp
  | cons c t=>
   obtain ⟨h1,h2,h3,h4,_⟩:=Z7 hd
   rw [h1,if_pos h4,if_pos rfl,N1i s hs8 hd,Y1g s hs8 hd,ob,ob]
   simp only
   unfold I19
   by_cases hx:(nxt (c::t) (j:Int)).2=0
   ·obtain ⟨b1,b2,b3,b4⟩:=Kl hx
    have hlen:(c::t).length=s.length - j:=by rw [← hd,List.length_drop]
    rw [if_pos hx,if_pos hx]
    have hne:((nxt (c::t) (j:Int)).2 != 0)=false:=by rw [hx]; rfl
    have hroom:decide ((out.length+1) * 33≤140737488355328)=true:=decide_eq_true (by omega)
    simp only [hne,hroom,Bool.false_eq_true,if_false,if_true]
    generalize hxx:nxt (c::t) (j:Int)=x at *
    rw [wr (by omega) (by omega),show (j:Int)+((x.1.Text).length:Int)=((j+x.1.Text.length:Nat):Int) from rfl]
    have hdd:(c::t).drop x.1.Text.length=s.drop (j+x.1.Text.length):=by rw [← hd,List.drop_drop]
    rw [hdd]
    obtain ⟨i1,i2⟩:=T1a s hs8 n (j+x.1.Text.length) (out++[x.1]) (by omega) (by omega) (by rw [List.length_append]; have:[x.1].length=1:=rfl; omega)
    rw [i1,i2]
    generalize Ye n (s.drop (j+x.1.Text.length)) (j+x.1.Text.length)=z
    unfold Io
    by_cases hz:z.2.2=0
    ·rw [if_pos hz,if_pos hz,if_pos rfl,List.append_assoc]
     exact ⟨rfl,rfl⟩
    ·rw [if_neg hz,if_neg hz,if_neg hz]
     exact ⟨rfl,rfl⟩
   ·have hne:((nxt (c::t) (j:Int)).2 != 0)=true:=by simpa using hx
    have hne2:((K0.mk 0 [] 0,(nxt (c::t) (j:Int)).2):K0×Int).2=(nxt (c::t) (j:Int)).2:=rfl
    rw [if_neg hx,if_neg hx,hne,if_pos rfl]
    unfold Io
    simp [hx]
def N3 (s:Str):List K0×Int×Int:=if s.length > 8192 then ([],0,5) else Ye (s.length+1) s 0
theorem J19 (s:Str):Jh s=some (N3 s)∧Pp s=some (N3 s):=by
 unfold Jh Pp N3
 by_cases h:s.length > 8192
 ·rw [if_pos h]; simp [h]; omega
 ·have h1:decide ((s.length:Int) > 8192)=false:=decide_eq_false (by omega)
  obtain ⟨i1,i2⟩:=T1a s (by omega) (s.length+1) 0 [] (by omega) (by omega) (by simp)
  rw [h1,if_neg (by simp),if_neg h,if_neg (by simp)]
  have hw:Io [] (Ye (s.length+1) s 0)=Ye (s.length+1) s 0:=by
   unfold Io
   split
   ·rename_i hz
    have:=O1i _ _ _ hz
    rw [List.nil_append,← this]
   ·rfl
  rw [List.drop_zero,hw] at i1 i2
  exact ⟨i1,i2⟩
end Go.Proofs.YtmnhfbekncjnfaaGreatDoor

namespace Go.Proofs.YtmnhfbekncjnfaaGreatDoor
open Go.Am
abbrev mk (l:List K0)(k:Nat)(e:Int):B0:=B0.mk l (k:Int) e
theorem Tm {α:Type}(l:List α)(k:Nat):idx l (k:Int)=l[k]?:=by
 unfold idx
 rw [if_pos (by omega)]
 simp
theorem Ui {α:Type}{l:List α}{k:Nat}{x:α}(h:l[k]?=some x):k < l.length:=(List.getElem?_eq_some_iff.1 h).1
theorem U1a {α:Type}{l:List α}{k:Nat}(h:l[k]?=none):l.length≤k:=List.getElem?_eq_none_iff.1 h
theorem dlt {α:Type}{l:List α}{k:Nat}{x:α}(h:l[k]?=some x):decide ((k:Int) < (l.length:Int))=true:=by have:=Ui h; exact decide_eq_true (by omega)
theorem Q1c {α:Type}{l:List α}{k:Nat}(h:l[k]?=none):decide ((k:Int) < (l.length:Int))=false:=by have:=U1a h; exact decide_eq_false (by omega)
theorem dge {α:Type}{l:List α}{k:Nat}{x:α}(h:l[k]?=some x):decide ((k:Int)≥(l.length:Int))=false:=by have:=Ui h; exact decide_eq_false (by omega)
theorem R1c {α:Type}{l:List α}{k:Nat}(h:l[k]?=none):decide ((k:Int)≥(l.length:Int))=true:=by have:=U1a h; exact decide_eq_true (by omega)
def isT (l:List K0)(k:Nat)(t:Str):Bool:=match l[k]? with
 | some x=>x.Text == t&&(x.Kind == 2||x.Kind == 3)
 | none=>false
def N4 (l:List K0)(k:Nat)(c:Int):Bool:=match l[k]? with
 | some x=>x.Kind == c
 | none=>false
def txt (l:List K0)(k:Nat):Str:=match l[k]? with
 | some x=>x.Text
 | none=>[]
def off (l:List K0)(e:Int)(k:Nat):Int:=match l[k]? with
 | some x=>x.At
 | none=>e
def step (b:Bool)(k:Nat):Nat:=bif b then k+1 else k
theorem X3 (k:Nat):step true k=k+1:=rfl
theorem D3 (k:Nat):step false k=k:=rfl
theorem J1 {l:List K0}{k:Nat}{t:Str}(h:isT l k t=true):k < l.length:=by
 unfold isT at h
 split at h
 ·rename_i hx; exact Ui hx
 ·cases h
theorem Pf {l:List K0}{k:Nat}{c:Int}(h:N4 l k c=true):k < l.length:=by
 unfold N4 at h
 split at h
 ·rename_i hx; exact Ui hx
 ·cases h
theorem Ja {l:List K0}{k:Nat}{t:Str}(h:isT l k t=true):N4 l k 0=false∧N4 l k 1=false∧txt l k=t:=by
 unfold isT at h
 unfold N4 txt
 split at h
 ·rename_i x hx
  rw [Bool.and_eq_true] at h
  have ht:=eq_of_beq h.1
  rw [Bool.or_eq_true] at h
  rcases h.2 with h2 | h2 <;> rw [eq_of_beq h2] <;> exact ⟨rfl,rfl,ht⟩
 ·cases h
theorem Wi {l:List K0}{k:Nat}{t t':Str}(h:isT l k t=true)(hn:(t == t')=false):isT l k t'=false:=by
 cases h':isT l k t' with
 | false=>rfl
 | true=>
  have:=(Ja h).2.2.symm.trans (Ja h').2.2
  rw [this] at hn
  simp at hn
theorem Y1j {l:List K0}{k:Nat}(h:N4 l k 0=true)(t:Str):isT l k t=false:=by
 cases h':isT l k t with
 | false=>rfl
 | true=>rw [(Ja h').1] at h; cases h
section
set_option linter.unusedSectionVars false
variable (l:List K0)(e:Int)(hl:l.length≤BB)
include hl
theorem Z1j (k:Nat)(t:Str):J8 t (mk l k e)=some (isT l k t):=by
 unfold J8 isT
 simp only
 cases h:l[k]? with
 | none=>rw [R1c h,if_pos rfl]
 | some x=>
  rw [dge h,if_neg (by simp),Tm,h,ob]
  show some _=some (x.Text == t&&(x.Kind == 2||x.Kind == 3))
  cases x.Text == t <;> cases x.Kind == 2 <;> rfl
theorem N2 (k:Nat)(t:Str):O0 t (mk l k e)=some (isT l k t,mk l (step (isT l k t) k) e):=by
 unfold O0
 rw [Z1j l e hl,ob]
 cases h:isT l k t with
 | false=>rfl
 | true=>
  have:=J1 h
  simp only [Bool.not_true,Bool.false_eq_true,if_false]
  rw [w1 (by omega)]
  rfl
theorem Bx (k:Nat):B5 (mk l k e)=some (N4 l k 0):=by
 unfold B5 N4
 simp only
 cases h:l[k]? with
 | none=>rw [Q1c h,if_neg (by simp),ob]; rfl
 | some x=>rw [dlt h,if_pos rfl,Tm,h,ob]; rfl
theorem B14 (k:Nat):I5 (mk l k e)=some (.pn (off l e k)):=by
 unfold I5 off
 simp only
 cases h:l[k]? with
 | none=>rw [Q1c h,if_neg (by simp)]
 | some x=>rw [dlt h,if_pos rfl,Tm,h,ob]
theorem V1e (k:Nat)(c:Int):Y6 c (mk l k e)=if N4 l k c=true then some (.ok (txt l k,mk l (k+1) e)) else some (.pn (off l e k)):=by
 unfold Y6
 rw [B14 l e hl,ob]
 unfold N4 txt
 simp only
 cases h:l[k]? with
 | none=>rw [R1c h,Bool.not_true,if_neg (by simp),ob,cond_true,if_pos rfl,if_neg (by simp)]
 | some x=>
  have:=Ui h
  rw [dge h,Bool.not_false,if_pos rfl,Tm,h,ob,cond_false]
  cases hk:x.Kind == c with
  | false=>simp only [bne,hk,Bool.not_false,if_true,Bool.false_eq_true,if_false]
  | true=>
   simp only [bne,hk,Bool.not_true,Bool.false_eq_true,if_false,if_true]
   unfold R6
   simp only
   rw [w1 (by omega),wr (n:=((k+1:Nat):Int) - 1) (by omega) (by unfold BB at *; omega),show ((k+1:Nat):Int) - 1=(k:Int) by omega,Tm,h,ob]
theorem Tj (k:Nat):T2 (mk l k e)=if N4 l k 0=true then some (.ok (txt l k,mk l (k+1) e)) else some (.pn (off l e k)):=by
 unfold T2
 rw [V1e l e hl]
 cases N4 l k 0 <;> rfl
theorem P3 (k:Nat)(t:Str):R0 t (mk l k e)=if isT l k t=true then some (.ok (mk l (k+1) e)) else some (.pn (off l e k)):=by
 unfold R0
 rw [N2 l e hl,ob]
 cases h:isT l k t with
 | true=>rfl
 | false=>
  simp only [Bool.not_false,if_true,step,cond_false,Bool.false_eq_true,if_false]
  rw [B14 l e hl,ob]
theorem F2 (k:Nat)(t:Str):T0 l k t=some (isT l k t):=by
 unfold T0 isT
 cases h:l[k]? with
 | none=>rw [Q1c h]; rfl
 | some x=>
  rw [dlt h,Tm,h]
  simp only [if_true,ob,Bool.true_and,cond_true]
  by_cases h2:x.Kind=2 <;> by_cases h3:x.Kind=3 <;> by_cases ht:x.Text=t <;> first | (simp [ob,h2,h3,ht]; done) | (simp [ob,h2,h3,ht]; rw [beq_eq_false_iff_ne.2 h2,beq_eq_false_iff_ne.2 h3]; simp)
theorem Gd (k:Nat):X7 l k=if N4 l k 0=true then some (txt l k,((k+1:Nat):Int),true) else some ([],(k:Int),false):=by
 unfold X7 N4 txt
 cases h:l[k]? with
 | none=>rw [Q1c h]; rfl
 | some x=>
  have:=Ui h
  rw [dlt h,Tm,h,if_pos rfl,ob,cond_true,w1 (by omega)]
  show _=if (x.Kind == 0)=true then some (x.Text,((k+1:Nat):Int),true) else some ([],(k:Int),false)
  cases h2:x.Kind == 0 <;> rfl
end
end Go.Proofs.YtmnhfbekncjnfaaGreatDoor

namespace Go.Proofs.YtmnhfbekncjnfaaGreatDoor
open Go.Am
structure Tok (x:K0):Prop where
 len:x.Text.length≤8192
 word:x.Kind=2→∃ c t,x.Text=c::t∧Me c.toNat=true
 num:x.Kind=1→x.Text≠[]∧x.Text.all (fun c=>G9 c.toNat)=true∧x.Text.length≤7∧nv 0 x.Text≤1048576
def Yf (l:List K0):Prop:=l.length≤BB∧∀ x∈l,Tok x
theorem Gh {l:List K0}(h:Yf l)(k:Nat):(txt l k).length≤8192:=by
 unfold txt
 cases hx:l[k]? with
 | none=>simp
 | some x=>exact (h.2 x (List.mem_of_getElem? hx)).len
def isS (l:List K0)(k:Nat)(t:Str):Bool:=match l[k]? with
 | some x=>x.Kind == 3&&x.Text == t
 | none=>false
def S1h (t:Str):Bool:=match t with
 | c::_=>!Me c.toNat
 | []=>true
theorem Vd {l:List K0}(h:Yf l){k:Nat}{t:Str}(ht:S1h t=true):isT l k t=isS l k t:=by
 unfold isT isS
 cases hx:l[k]? with
 | none=>rfl
 | some x=>
  simp only
  by_cases h2:x.Kind=2
  ·obtain ⟨c,r,e,hc⟩:=(h.2 x (List.mem_of_getElem? hx)).word h2
   have:(x.Text == t)=false:=beq_eq_false_iff_ne.2 fun he=>by
    rw [← he,e] at ht
    simp [S1h,hc] at ht
   rw [this,h2]
   rfl
  ·rw [beq_eq_false_iff_ne.2 h2,Bool.false_or,Bool.and_comm]
def opT (t:Str):Int×Int:=
 if t == [124,124] then (20,1) else if t == [38,38] then (19,2) else if t == [61,61] then (13,3) else if t == [33,61] then (14,3) else if t == [60] then (15,3) else if t == [60,61] then (16,3)
 else if t == [62] then (17,3) else if t == [62,61] then (18,3) else if t == [43] then (8,4) else if t == [45] then (9,4) else if t == [42] then (10,5) else if t == [47] then (11,5) else if t == [37] then (12,5) else (0,0)
def ops:List Str:=[[124,124],[38,38],[61,61],[33,61],[60],[60,61],[62],[62,61],[43],[45],[42],[47],[37]]
theorem Um (t:Str):t∈ops∨∀ s∈ops,(t == s)=false:=by
 by_cases h:t∈ops
 ·exact .inl h
 ·exact .inr fun s hs=>beq_eq_false_iff_ne.2 fun e=>h (e ▸ hs)
theorem Ll (l:List K0)(k:Nat)(n:Int):N5 l k n=some (match l[k]? with
  | some x=>if x.Kind == 3 then ((opT x.Text).1,(opT x.Text).2 == n) else (0,false)
  | none=>(0,false)):=by
 unfold N5
 cases h:l[k]? with
 | none=>rw [R1c h,Bool.not_true,if_neg (by simp),ob,cond_true,if_pos rfl]
 | some x=>
  rw [dge h,Bool.not_false,if_pos rfl,Tm,h,ob,cond_false]
  cases h3:x.Kind == 3 with
  | false=>simp only [bne,h3,Bool.not_false,if_true,Bool.false_eq_true,if_false]
  | true=>
   simp only [bne,h3,Bool.not_true,Bool.false_eq_true,if_false,if_true,ob]
   unfold opT
   generalize (x.Text == [124,124])=b0
   generalize (x.Text == [38,38])=b1
   generalize (x.Text == [61,61])=b2
   generalize (x.Text == [33,61])=b3
   generalize (x.Text == [60])=b4
   generalize (x.Text == [60,61])=b5
   generalize (x.Text == [62])=b6
   generalize (x.Text == [62,61])=b7
   generalize (x.Text == [43])=b8
   generalize (x.Text == [45])=b9
   generalize (x.Text == [42])=b10
   generalize (x.Text == [47])=b11
   generalize (x.Text == [37])=b12
   cases b0 with
   | true=>rfl
   | false=>
    cases b1 with
    | true=>rfl
    | false=>
     cases b2 with
     | true=>rfl
     | false=>
      cases b3 with
      | true=>rfl
      | false=>
       cases b4 with
       | true=>rfl
       | false=>
        cases b5 with
        | true=>rfl
        | false=>
         cases b6 with
         | true=>rfl
         | false=>
          cases b7 with
          | true=>rfl
          | false=>
           cases b8 with
           | true=>rfl
           | false=>
            cases b9 with
            | true=>rfl
            | false=>
             cases b10 with
             | true=>rfl
             | false=>
              cases b11 with
              | true=>rfl
              | false=>
               cases b12 with
               | true=>rfl
               | false=>
                rfl
theorem Qs (op:Int)(a b:A0):Yq op a b=some (A0.mk op 0 [] [a,b]):=rfl
theorem Rs {t:Str}(h:∀ s∈ops,(t == s)=false):opT t=(0,0):=by
 unfold opT
 have a:=fun s hs=>h s hs
 rw [a [124,124] (by decide),a [38,38] (by decide),a [61,61] (by decide),a [33,61] (by decide),a [60] (by decide),a [60,61] (by decide),a [62] (by decide),a [62,61] (by decide),a [43] (by decide),a [45] (by decide),a [42] (by decide),a [47] (by decide),a [37] (by decide)]
 rfl
theorem Z1k (t:Str):((opT t).2 == 1)=(t == [124,124])∧(((opT t).2 == 1)=true→(opT t).1=(20:Int)):=by
 rcases Um t with h | h
 ·simp only [ops,List.mem_cons,List.not_mem_nil,or_false] at h
  rcases h with rfl | rfl | rfl | rfl | rfl | rfl | rfl | rfl | rfl | rfl | rfl | rfl | rfl <;> decide
 ·rw [Rs h,h [124,124] (by decide)]
  decide
theorem A1k (t:Str):((opT t).2 == 2)=(t == [38,38])∧(((opT t).2 == 2)=true→(opT t).1=(19:Int)):=by
 rcases Um t with h | h
 ·simp only [ops,List.mem_cons,List.not_mem_nil,or_false] at h
  rcases h with rfl | rfl | rfl | rfl | rfl | rfl | rfl | rfl | rfl | rfl | rfl | rfl | rfl <;> decide
 ·rw [Rs h,h [38,38] (by decide)]
  decide
theorem B1k (t:Str):((opT t).2 == 4)=(t == [43]||t == [45])∧(((opT t).2 == 4)=true→(opT t).1=(if t == [43] then 8 else 9:Int)):=by
 rcases Um t with h | h
 ·simp only [ops,List.mem_cons,List.not_mem_nil,or_false] at h
  rcases h with rfl | rfl | rfl | rfl | rfl | rfl | rfl | rfl | rfl | rfl | rfl | rfl | rfl <;> decide
 ·rw [Rs h,h [43] (by decide),h [45] (by decide)]
  decide
theorem P1i (t:Str):((opT t).2 == 5)=(t == [42]||t == [47]||t == [37])∧(((opT t).2 == 5)=true→(opT t).1=(if t == [42] then 10 else if t == [47] then 11 else 12:Int)):=by
 rcases Um t with h | h
 ·simp only [ops,List.mem_cons,List.not_mem_nil,or_false] at h
  rcases h with rfl | rfl | rfl | rfl | rfl | rfl | rfl | rfl | rfl | rfl | rfl | rfl | rfl <;> decide
 ·rw [Rs h,h [42] (by decide),h [47] (by decide),h [37] (by decide)]
  decide
theorem C1k (t:Str):((opT t).2 == 3)=(t == [61,61]||t == [33,61]||t == [60]||t == [60,61]||t == [62]||t == [62,61])∧(((opT t).2 == 3)=true→(opT t).1=(if t == [61,61] then 13 else if t == [33,61] then 14 else if t == [60] then 15 else if t == [60,61] then 16 else if t == [62] then 17 else 18:Int)):=by
 rcases Um t with h | h
 ·simp only [ops,List.mem_cons,List.not_mem_nil,or_false] at h
  rcases h with rfl | rfl | rfl | rfl | rfl | rfl | rfl | rfl | rfl | rfl | rfl | rfl | rfl <;> decide
 ·rw [Rs h,h [61,61] (by decide),h [33,61] (by decide),h [60] (by decide),h [60,61] (by decide),h [62] (by decide),h [62,61] (by decide)]
  decide
theorem C14:∀ (r:List UInt8) (n:Nat),r.all (fun c=>G9 c.toNat)=true→Lib.decFrom n r=some (nv n r)
 | [],n,_=>by rw [Wv]; rfl
 | c::r,n,h=>by
  rw [List.all_cons,Bool.and_eq_true] at h
  have hc:=Il.1 h.1
  have hd:Lib.digitVal c=some (c.toNat - 48):=if_pos hc
  unfold Lib.decFrom
  rw [hd,Ho,Nat.mul_comm 10 n]
  exact C14 r _ h.2
theorem Q1i {s:Str}(hne:s≠[])(h:s.all (fun c=>G9 c.toNat)=true):Lib.atoi s=some (nv 0 s:Int):=by
 cases s with
 | nil=>exact absurd rfl hne
 | cons c r=>
  have hc:=Il.1 (by rw [List.all_cons,Bool.and_eq_true] at h; exact h.1)
  have h1:(c == 45)=false:=beq_eq_false_iff_ne.2 fun e=>by rw [e] at hc; exact absurd hc.1 (by decide)
  have h2:(c == 43)=false:=beq_eq_false_iff_ne.2 fun e=>by rw [e] at hc; exact absurd hc.1 (by decide)
  unfold Lib.atoi
  simp only [h1,h2,Bool.false_eq_true,if_false]
  unfold Lib.decNat
  rw [if_neg (by simp),C14 _ 0 h]
  rfl
theorem R1i {s:Str}(hne:s≠[])(h:s.all (fun c=>G9 c.toNat)=true)(hl:s.length≤7):Yu s=some (nv 0 s:Int):=by
 unfold Yu
 rw [if_pos (decide_eq_true (by omega)),Q1i hne h]
section
set_option linter.unusedSectionVars false
variable (l:List K0)(e:Int)(hl:Yf l)
include hl
theorem Yp {k:Nat}{t:Str}(h:isS l k t=true):k < l.length:=by
 unfold isS at h
 split at h
 ·rename_i hx; exact Ui hx
 ·cases h
theorem A1l (k:Nat):∃ o b,K8 (mk l k e)=some (20,b,mk l (step b k) e)∧N5 l k 1=some (o,b)∧(b=true→o=20∧k < l.length):=by
 unfold K8
 rw [N2 l e hl.1,Vd hl rfl,ob,Ll]
 have hlt:=Yp l hl (k:=k) (t:=[124,124])
 revert hlt
 unfold isS
 cases h:l[k]? with
 | none=>exact fun _=>⟨_,_,rfl,rfl,nofun⟩
 | some x=>
  simp only
  obtain ⟨h1,h2⟩:=Z1k x.Text
  cases hk:x.Kind == 3 with
  | false=>exact fun _=>⟨_,_,rfl,rfl,nofun⟩
  | true=>
   simp only [Bool.true_and,if_true,h1]
   rw [h1] at h2
   exact fun hlt=>⟨_,_,rfl,rfl,fun hb=>⟨h2 hb,hlt hb⟩⟩
theorem D1k (k:Nat):∃ o b,T7 (mk l k e)=some (19,b,mk l (step b k) e)∧N5 l k 2=some (o,b)∧(b=true→o=19∧k < l.length):=by
 unfold T7
 rw [N2 l e hl.1,Vd hl rfl,ob,Ll]
 have hlt:=Yp l hl (k:=k) (t:=[38,38])
 revert hlt
 unfold isS
 cases h:l[k]? with
 | none=>exact fun _=>⟨_,_,rfl,rfl,nofun⟩
 | some x=>
  simp only
  obtain ⟨h1,h2⟩:=A1k x.Text
  cases hk:x.Kind == 3 with
  | false=>exact fun _=>⟨_,_,rfl,rfl,nofun⟩
  | true=>
   simp only [Bool.true_and,if_true,h1]
   rw [h1] at h2
   exact fun hlt=>⟨_,_,rfl,rfl,fun hb=>⟨h2 hb,hlt hb⟩⟩
theorem B1l (k:Nat):∃ o,N5 l k 4=some (o,(isS l k [43]||isS l k [45]))∧((isS l k [43]||isS l k [45])=true→o=(if isS l k [43] then 8 else 9:Int)):=by
 rw [Ll]
 unfold isS
 cases h:l[k]? with
 | none=>exact ⟨_,rfl,nofun⟩
 | some x=>
  simp only
  obtain ⟨h1,h2⟩:=B1k x.Text
  rcases Bool.eq_false_or_eq_true (x.Kind == 3) with hk | hk
  ·rw [h1] at h2
   simp only [hk,Bool.true_and,if_true,h1]
   exact ⟨_,rfl,h2⟩
  ·simp only [hk,Bool.false_and,Bool.or_false,Bool.false_eq_true,if_false]
   exact ⟨_,rfl,nofun⟩
theorem E1k (k:Nat):∃ o,N5 l k 5=some (o,(isS l k [42]||isS l k [47]||isS l k [37]))∧((isS l k [42]||isS l k [47]||isS l k [37])=true→o=(if isS l k [42] then 10 else if isS l k [47] then 11 else 12:Int)):=by
 rw [Ll]
 unfold isS
 cases h:l[k]? with
 | none=>exact ⟨_,rfl,nofun⟩
 | some x=>
  simp only
  obtain ⟨h1,h2⟩:=P1i x.Text
  rcases Bool.eq_false_or_eq_true (x.Kind == 3) with hk | hk
  ·rw [h1] at h2
   simp only [hk,Bool.true_and,if_true,h1]
   exact ⟨_,rfl,h2⟩
  ·simp only [hk,Bool.false_and,Bool.or_false,Bool.false_eq_true,if_false]
   exact ⟨_,rfl,nofun⟩
theorem C1l (k:Nat):∃ o,N5 l k 3=some (o,(isS l k [61,61]||isS l k [33,61]||isS l k [60]||isS l k [60,61]||isS l k [62]||isS l k [62,61]))∧((isS l k [61,61]||isS l k [33,61]||isS l k [60]||isS l k [60,61]||isS l k [62]||isS l k [62,61])=true→o=(if isS l k [61,61] then 13 else if isS l k [33,61] then 14 else if isS l k [60] then 15 else if isS l k [60,61] then 16 else if isS l k [62] then 17 else 18:Int)):=by
 rw [Ll]
 unfold isS
 cases h:l[k]? with
 | none=>exact ⟨_,rfl,nofun⟩
 | some x=>
  simp only
  obtain ⟨h1,h2⟩:=C1k x.Text
  rcases Bool.eq_false_or_eq_true (x.Kind == 3) with hk | hk
  ·rw [h1] at h2
   simp only [hk,Bool.true_and,if_true,h1]
   exact ⟨_,rfl,h2⟩
  ·simp only [hk,Bool.false_and,Bool.or_false,Bool.false_eq_true,if_false]
   exact ⟨_,rfl,nofun⟩
theorem F1k (k:Nat):∃ o o' b,S7 (mk l k e)=some (o',b,mk l (step b k) e)∧N5 l k 4=some (o,b)∧(b=true→o=o'∧k < l.length):=by
 obtain ⟨o,h1,h2⟩:=B1l l hl k
 unfold S7
 rw [N2 l e hl.1,Vd hl rfl,ob]
 cases ha:isS l k [43] with
 | true=>rw [ha] at h1 h2; exact ⟨_,_,_,rfl,h1,fun _=>⟨h2 rfl,Yp l hl ha⟩⟩
 | false=>
  rw [ha] at h1 h2
  simp only [step,cond_false,Bool.false_eq_true,if_false]
  rw [N2 l e hl.1,Vd hl rfl,ob]
  exact ⟨_,_,isS l k [45],rfl,h1,fun hb=>⟨h2 (by rw [hb]; rfl),Yp l hl hb⟩⟩
theorem S1i (k:Nat):∃ o o' b,X5 (mk l k e)=some (o',b,mk l (step b k) e)∧N5 l k 5=some (o,b)∧(b=true→o=o'∧k < l.length):=by
 obtain ⟨o,h1,h2⟩:=E1k l hl k
 unfold X5
 rw [N2 l e hl.1,Vd hl rfl,ob]
 cases ha:isS l k [42] with
 | true=>rw [ha] at h1 h2; exact ⟨_,_,_,rfl,h1,fun _=>⟨h2 rfl,Yp l hl ha⟩⟩
 | false=>
  rw [ha] at h1 h2
  simp only [step,cond_false,Bool.false_eq_true,if_false]
  rw [N2 l e hl.1,Vd hl rfl,ob]
  cases hb:isS l k [47] with
  | true=>rw [hb] at h1 h2; exact ⟨_,_,_,rfl,h1,fun _=>⟨h2 rfl,Yp l hl hb⟩⟩
  | false=>
   rw [hb] at h1 h2
   simp only [step,cond_false,Bool.false_eq_true,if_false]
   rw [N2 l e hl.1,Vd hl rfl,ob]
   exact ⟨_,_,isS l k [37],rfl,h1,fun hc=>⟨h2 (by rw [hc]; rfl),Yp l hl hc⟩⟩
def Dx (k:Nat):Int:=(nv 0 (txt l k):Int)
theorem C12 (k:Nat):C5 (mk l k e)=if N4 l k 1=true then some (.ok (Dx l k,mk l (k+1) e)) else some (.pn (off l e k)):=by
 unfold C5
 rw [V1e l e hl.1]
 cases h:N4 l k 1 with
 | false=>rfl
 | true=>
  have hx:Yu (txt l k)=some (Dx l k):=by
   unfold N4 at h
   unfold Dx txt
   cases hk:l[k]? with
   | none=>rw [hk] at h; cases h
   | some x=>
    rw [hk] at h
    obtain ⟨n1,n2,n3,_⟩:=(hl.2 x (List.mem_of_getElem? hk)).num (eq_of_beq h)
    exact R1i n1 n2 n3
  rw [if_pos rfl,ob]
  simp only [hx,ob]
  rfl
theorem K19 (x:K0)(k:Nat)(hx:l[k]?=some x)(hall:x.Text.all (fun c=>G9 c.toNat)=true)(hnv:nv 0 x.Text≤1048576)(hlen:x.Text.length≤7) :
  ∀ (r:Str) (i m:Nat),x.Text.drop i=r→nv m r≤1048576→r.all (fun c=>G9 c.toNat)=true→Gf l k m i=some ((nv m r:Int),((k+1:Nat):Int),true):=by
 have hk:=Ui hx
 have hB:=hl.1
 intro r
 induction r with
 | nil=>
  intro i m h hm _
  rw [Gf,Tm,hx,ob,(S4 h).1,if_neg (by simp),w1 (by omega),Wv]
 | cons c r ih=>
  intro i m h hm ha
  obtain ⟨h1,h2,h3,h4,_⟩:=Z7 h
  rw [List.all_cons,Bool.and_eq_true] at ha
  rw [Ho] at hm ⊢
  have hc:=Il.1 ha.1
  have hle:=R1h r (10 * m+(c.toNat - 48))
  have e1:IntKind.i64.wrap (IntKind.i64.wrap (10 * (m:Int))+IntKind.i64.wrap (IntKind.u8.wrap ((c.toNat:Int) - 48)))=((10 * m+(c.toNat - 48):Nat):Int):=by
   rw [V1g ha.1,wr (n:=10 * (m:Int)) (by omega) (by omega),wr (by omega) (by omega)]; omega
  rw [Gf,Tm,hx,ob,h1,if_pos rfl,ob,h2,ob,e1,w1 (by unfold BB; omega)]
  exact ih (i+1) _ h3 hm ha.2
theorem Uj (k:Nat):De l k=if N4 l k 1=true then some (Dx l k,((k+1:Nat):Int),true) else some (0,(k:Int),false):=by
 unfold De N4 Dx txt
 cases h:l[k]? with
 | none=>rw [R1c h,Bool.not_true,if_neg (by simp),ob,cond_true,if_pos rfl,if_neg (by simp)]
 | some x=>
  rw [dge h,Bool.not_false,if_pos rfl,Tm,h,ob,cond_false]
  simp only
  cases hk:x.Kind == 1 with
  | false=>simp only [bne,hk,Bool.not_false,if_true,Bool.false_eq_true,if_false]
  | true=>
   simp only [bne,hk,Bool.not_true,Bool.false_eq_true,if_false,if_true]
   obtain ⟨n1,n2,n3,n4⟩:=(hl.2 x (List.mem_of_getElem? h)).num (eq_of_beq hk)
   exact K19 l hl x k h n2 n4 n3 x.Text 0 0 rfl n4 n2
end
end Go.Proofs.YtmnhfbekncjnfaaGreatDoor

namespace Go.Proofs.YtmnhfbekncjnfaaGreatDoor
open Go.Am
def J {α:Type}(l:List K0)(e:Int)(lo:Nat)(P:α→Nat→Prop)(p:Option (Pn (α×B0)))(r:Option (α×Int×Bool)):Prop:=
 (∃ v j,lo≤j∧j≤l.length∧P v j∧p=some (.ok (v,mk l j e))∧r=some (v,((j:Nat):Int),true))∨
 (∃ v j,j≤l.length∧p=some (.pn (off l e j))∧r=some (v,((j:Nat):Int),false))
section
variable {l:List K0}{e:Int}{α β:Type}
theorem J.ok {lo:Nat}{P:α→Nat→Prop}(v:α)(j:Nat)(h1:lo≤j)(h2:j≤l.length)(hP:P v j):J l e lo P (some (.ok (v,mk l j e))) (some (v,((j:Nat):Int),true)):=.inl ⟨v,j,h1,h2,hP,rfl,rfl⟩
theorem J.pn {lo:Nat}{P:α→Nat→Prop}(v:α)(j:Nat)(h2:j≤l.length):J l e lo P (some (.pn (off l e j))) (some (v,((j:Nat):Int),false)):=.inr ⟨v,j,h2,rfl,rfl⟩
theorem J.mono {lo lo':Nat}{P P':α→Nat→Prop}{p:Option (Pn (α×B0))}{r:Option (α×Int×Bool)}(h:J l e lo P p r)(hl:lo'≤lo)(hP:∀ v j,lo≤j→P v j→P' v j):J l e lo' P' p r:=by
 rcases h with ⟨v,j,h1,h2,h0,h3,h4⟩ | h
 ·exact .inl ⟨v,j,Nat.le_trans hl h1,h2,hP v j h1 h0,h3,h4⟩
 ·exact .inr h
theorem J.bind {lo lo':Nat}{P:α→Nat→Prop}{Q:β→Nat→Prop}{p:Option (Pn (α×B0))}{r:Option (α×Int×Bool)}(h:J l e lo P p r){F:Pn (α×B0)→Option (Pn (β×B0))}{g:α×Int×Bool→Option (β×Int×Bool)}(hF:∀ n,F (.pn n)=some (.pn n))
  (hg:∀ v (j:Nat),j≤l.length→∃ v',g (v,(j:Int),false)=some (v',(j:Int),false)) (hf:∀ v (j:Nat),lo≤j→j≤l.length→P v j→J l e lo' Q (F (.ok (v,mk l j e))) (g (v,(j:Int),true))) :
  J l e lo' Q (p>>=F) (r>>=g):=by
 rcases h with ⟨v,j,h1,h2,h0,rfl,rfl⟩ | ⟨v,j,h2,rfl,rfl⟩
 ·exact hf v j h1 h2 h0
 ·obtain ⟨v',hv⟩:=hg v j h2
  rw [ob,ob,hv,hF]
  exact .pn v' j h2
theorem J.same {lo:Nat}{P:α→Nat→Prop}{p:Option (Pn (α×B0))}{r:Option (α×Int×Bool)}(h:J l e lo P p r){F:Pn (α×B0)→Option (Pn (α×B0))}(hF:∀ n,F (.pn n)=some (.pn n))(hF2:∀ x,F (.ok x)=some (.ok (x.1,x.2))):J l e lo P (p>>=F) r:=by
 rcases h with ⟨v,j,h1,h2,h0,rfl,rfl⟩ | ⟨v,j,h2,rfl,rfl⟩
 ·rw [ob,hF2]; exact .ok v j h1 h2 h0
 ·rw [ob,hF]; exact .pn v j h2
theorem J.rsame {lo:Nat}{P:α→Nat→Prop}{p:Option (Pn (α×B0))}{r:Option (α×Int×Bool)}(h:J l e lo P p r):J l e lo P p (r>>=fun x=>some (x.1,x.2.1,x.2.2)):=by
 rcases h with ⟨v,j,h1,h2,h0,rfl,rfl⟩ | ⟨v,j,h2,rfl,rfl⟩
 ·exact .ok v j h1 h2 h0
 ·exact .pn v j h2
end
def BE (k:Nat)(v:A0)(j:Nat):Prop:=v.bulk≤9000 * (j - k)
def BO (o:Nat)(k:Nat)(v:A0)(j:Nat):Prop:=v.bulk≤o+9000 * (j - k)
theorem Wc (op n:Int)(s:Str):(A0.mk op n s []).bulk=s.length+5:=by rw [A0.bulk_eq]; rfl
theorem T1h (op n:Int)(s:Str)(a:A0):(A0.mk op n s [a]).bulk=s.length+a.bulk+5:=by rw [A0.bulk_eq]; simp only [A0.bulks]; omega
theorem D17 (op n:Int)(s:Str)(a b:A0):(A0.mk op n s [a,b]).bulk=s.length+a.bulk+b.bulk+5:=by rw [A0.bulk_eq]; simp only [A0.bulks]; omega
theorem D1l (op n:Int)(s:Str)(a b c:A0):(A0.mk op n s [a,b,c]).bulk=s.length+a.bulk+b.bulk+c.bulk+5:=by rw [A0.bulk_eq]; simp only [A0.bulks]; omega
structure PE (l:List K0)(e:Int)(k:Nat):Prop where
 expr:J l e (k+1) (BE k) (C1 (mk l k e)) (A2 l k)
 un:J l e (k+1) (BE k) (S3 (mk l k e)) (Za l k)
 prodL:∀ o,J l e k (BO o.bulk k) (C3 (mk l k e) o) (L2 l 5 o k)
 prod:J l e (k+1) (BE k) (Q4 (mk l k e)) (I2 l k 5)
 sumL:∀ o,J l e k (BO o.bulk k) (B3 (mk l k e) o) (L2 l 4 o k)
 sum:J l e (k+1) (BE k) (V5 (mk l k e)) (I2 l k 4)
 cmp:J l e (k+1) (BE k) (V3 (mk l k e)) (I2 l k 3)
 andL:∀ o,J l e k (BO o.bulk k) (A3 (mk l k e) o) (L2 l 2 o k)
 and:J l e (k+1) (BE k) (M6 (mk l k e)) (I2 l k 2)
 orL:∀ o,J l e k (BO o.bulk k) (U3 (mk l k e) o) (L2 l 1 o k)
 or:J l e (k+1) (BE k) (L8 (mk l k e)) (I2 l k 1)
 placeL:∀ op name kids,J l e k (BO (A0.mk op 0 name kids).bulk k) (F4 (mk l k e) op name kids) (Z8 l op 0 name kids k)
section
set_option linter.unusedSectionVars false
variable {l:List K0}{e:Int}(hl:Yf l)
include hl
theorem M10 {k:Nat}{n:Int}{o:A0}{un:B0→Option (Pn (A0×B0))}{chain:B0→A0→Option (Pn (A0×B0))}{b:Bool}{op op':Int}{F:Pn (A0×B0)→Option (Pn (A0×B0))}(hF:∀ n,F (.pn n)=some (.pn n))(hF2:∀ x,F (.ok x)=chain x.2 (A0.mk op' 0 [] [o,x.1]))(hk:k≤l.length)(hn:n≠3)
  (hb:N5 l k n=some (op,b)) (hop:b=true→op=op'∧k < l.length)
  (hun:k < l.length→J l e (k+2) (BE (k+1)) (un (mk l (k+1) e)) (I2 l ((k+1:Nat):Int) (IntKind.i64.wrap (n+1))))
  (hch:∀ j,k < j→j≤l.length→∀ o,J l e j (BO o.bulk j) (chain (mk l j e) o) (L2 l n o (j:Int))) :
  J l e k (BO o.bulk k) (if (!b)=true then some (.ok (o,mk l (step b k) e)) else un (mk l (step b k) e)>>=F) (L2 l n o (k:Int)):=by
 rw [L2,hb,ob]
 cases b with
 | false=>exact .ok o k (Nat.le_refl _) hk (by unfold BO; omega)
 | true=>
  obtain ⟨rfl,hlt⟩:=hop rfl
  have hB:=hl.1
  simp only [Bool.not_true,Bool.false_eq_true,if_false,step,cond_true]
  rw [w1 (by omega)]
  refine J.bind (hun hlt) hF ?_ ?_
  ·exact fun v j hj=>⟨v,rfl⟩
  intro v j h1 h2 h0
  simp only [Bool.not_true,Bool.false_eq_true,if_false,Qs,ob,beq_eq_false_iff_ne.2 hn]
  rw [hF2]
  refine (hch j (by omega) h2 _).mono (by omega) fun v' j' h3 h4=>?_
  unfold BO at h4 ⊢
  unfold BE at h0
  rw [D17] at h4
  simp only [List.length_nil] at h4
  omega
theorem W1e (k:Nat)(n:Nat)(hn:n < 6):I2 l k n=(I2 l k ((n+1:Nat):Int)>>=fun x2=>if (!x2.2.2)=true then some (x2.1,x2.2.1,false) else L2 l n x2.1 x2.2.1):=by
 rw [I2,if_neg (by simp; omega),w1 (by unfold BB; omega)]
theorem V1a (k:Nat):I2 l k 6=(Za l k>>=fun x1=>some (x1.1,x1.2.1,x1.2.2)):=by
 rw [I2]
 simp only [beq_self_eq_true,if_true]
theorem N10 {k:Nat}{n:Nat}{p:Option (Pn (A0×B0))}{chain:B0→A0→Option (Pn (A0×B0))}{F:Pn (A0×B0)→Option (Pn (A0×B0))}(hF:∀ n,F (.pn n)=some (.pn n))(hF2:∀ x,F (.ok x)=chain x.2 x.1)(hn:n < 6)(h:J l e (k+1) (BE k) p (I2 l k ((n+1:Nat):Int)))
  (hch:∀ j,k < j→j≤l.length→∀ o,J l e j (BO o.bulk j) (chain (mk l j e) o) (L2 l n o (j:Int))) :
  J l e (k+1) (BE k) (p>>=F) (I2 l k n):=by
 rw [W1e hl k n hn]
 refine J.bind h hF ?_ ?_
 ·exact fun v j _=>⟨v,rfl⟩
 ·intro v j h1 h2 h0
  rw [hF2]
  refine (hch j (by omega) h2 v).mono h1 fun v' j' h3 h4=>?_
  unfold BO at h4
  unfold BE at h0 ⊢
  omega
section
variable {k:Nat}(hk:k≤l.length)(IH:∀ j,k < j→j≤l.length→PE l e j)
include hk IH
theorem T1i (o:A0):J l e k (BO o.bulk k) (C3 (mk l k e) o) (L2 l 5 o k):=by
 obtain ⟨op,op',b,h1,h2,h3⟩:=S1i l e hl k
 rw [C3,h1,ob]
 have hB:=hl.1
 refine M10 hl (chain:=C3) (fun _=>rfl) (fun _=>rfl) hk (by decide) h2 h3 (fun hlt=>?_) fun j h4 h5 o=>(IH j h4 h5).prodL o
 rw [show IntKind.i64.wrap (5+1)=6 by decide,V1a hl]
 exact J.rsame (IH (k+1) (by omega) (by omega)).un
theorem G1k (o:A0):J l e k (BO o.bulk k) (B3 (mk l k e) o) (L2 l 4 o k):=by
 obtain ⟨op,op',b,h1,h2,h3⟩:=F1k l e hl k
 rw [B3,h1,ob]
 refine M10 hl (chain:=B3) (fun _=>rfl) (fun _=>rfl) hk (by decide) h2 h3 (fun hlt=>?_) fun j h4 h5 o=>(IH j h4 h5).sumL o
 rw [show IntKind.i64.wrap (4+1)=5 by decide]
 exact (IH (k+1) (by omega) (by omega)).prod
theorem H1k (o:A0):J l e k (BO o.bulk k) (A3 (mk l k e) o) (L2 l 2 o k):=by
 obtain ⟨op,b,h1,h2,h3⟩:=D1k l e hl k
 rw [A3,h1,ob]
 refine M10 hl (chain:=A3) (fun _=>rfl) (fun _=>rfl) hk (by decide) h2 h3 (fun hlt=>?_) fun j h4 h5 o=>(IH j h4 h5).andL o
 rw [show IntKind.i64.wrap (2+1)=3 by decide]
 exact (IH (k+1) (by omega) (by omega)).cmp
theorem E1l (o:A0):J l e k (BO o.bulk k) (U3 (mk l k e) o) (L2 l 1 o k):=by
 obtain ⟨op,b,h1,h2,h3⟩:=A1l l e hl k
 rw [U3,h1,ob]
 refine M10 hl (chain:=U3) (fun _=>rfl) (fun _=>rfl) hk (by decide) h2 h3 (fun hlt=>?_) fun j h4 h5 o=>(IH j h4 h5).orL o
 rw [show IntKind.i64.wrap (1+1)=2 by decide]
 exact (IH (k+1) (by omega) (by omega)).and
theorem I1k (hu:J l e (k+1) (BE k) (S3 (mk l k e)) (Za l k)):J l e (k+1) (BE k) (Q4 (mk l k e)) (I2 l k 5):=by
 rw [Q4,X9]
 refine J.same ?_ (fun _=>rfl) fun _=>rfl
 refine N10 hl (n:=5) (chain:=C3) ?_ ?_ (by decide) ?_ fun j h4 h5 o=>(IH j h4 h5).prodL o
 ·exact fun _=>rfl
 ·exact fun _=>rfl
 show J l e (k+1) (BE k) _ (I2 l k 6)
 rw [V1a hl]
 exact J.rsame hu
theorem F1l (h:J l e (k+1) (BE k) (Q4 (mk l k e)) (I2 l k 5)):J l e (k+1) (BE k) (V5 (mk l k e)) (I2 l k 4):=by
 rw [V5,W9]
 refine J.same ?_ (fun _=>rfl) fun _=>rfl
 refine N10 hl (n:=4) (chain:=B3) ?_ ?_ (by decide) h fun j h4 h5 o=>(IH j h4 h5).sumL o
 ·exact fun _=>rfl
 ·exact fun _=>rfl
theorem G1l (h:J l e (k+1) (BE k) (V3 (mk l k e)) (I2 l k 3)):J l e (k+1) (BE k) (M6 (mk l k e)) (I2 l k 2):=by
 rw [M6,V9]
 refine J.same ?_ (fun _=>rfl) fun _=>rfl
 refine N10 hl (n:=2) (chain:=A3) ?_ ?_ (by decide) h fun j h4 h5 o=>(IH j h4 h5).andL o
 ·exact fun _=>rfl
 ·exact fun _=>rfl
theorem W1l (h:J l e (k+1) (BE k) (M6 (mk l k e)) (I2 l k 2)):J l e (k+1) (BE k) (L8 (mk l k e)) (I2 l k 1):=by
 rw [L8,Vb]
 refine J.same ?_ (fun _=>rfl) fun _=>rfl
 refine N10 hl (n:=1) (chain:=U3) ?_ ?_ (by decide) h fun j h4 h5 o=>(IH j h4 h5).orL o
 ·exact fun _=>rfl
 ·exact fun _=>rfl
end
end
end Go.Proofs.YtmnhfbekncjnfaaGreatDoor

namespace Go.Proofs.YtmnhfbekncjnfaaGreatDoor
open Go.Am
section
set_option linter.unusedSectionVars false
variable {l:List K0}{e:Int}(hl:Yf l)
include hl
section
variable {k:Nat}(hk:k≤l.length)(IH:∀ j,k < j→j≤l.length→PE l e j)
include hk IH
theorem J1k {op:Int}{x1:A0×B0}(hlt:k < l.length)(hop:N5 l k 3=some (op,true))(p:B0)(hp:p=mk l (k+1) e) :
  J l e k (BO x1.1.bulk k) (L1 p x1 op) (L2 l 3 x1.1 k):=by
 subst hp
 have hB:=hl.1
 rw [L1,L2,hop,ob]
 simp only [Bool.not_true,Bool.false_eq_true,if_false]
 rw [w1 (by omega),show IntKind.i64.wrap (3+1)=4 by decide]
 refine J.bind (IH (k+1) (by omega) (by omega)).sum ?_ ?_ ?_
 ·exact fun _=>rfl
 ·exact fun v j _=>⟨v,rfl⟩
 ·intro v j h1 h2 h0
  simp only [Bool.not_true,Bool.false_eq_true,if_false,Qs,ob,beq_self_eq_true,if_true]
  refine .ok _ j (by omega) h2 ?_
  unfold BO
  unfold BE at h0
  rw [D17]
  simp only [List.length_nil]
  omega
theorem K1k (x1:A0×B0)(hx:x1.2=mk l k e):J l e k (BO x1.1.bulk k) (O0 [61,61] x1.2>>=fun x2=>
 if x2.1=true then
  L1 x2.2 x1 13
 else
  O0 [33,61] x2.2>>=fun x4=>
  if x4.1=true then
   L1 x4.2 x1 14
  else
   O0 [60] x4.2>>=fun x5=>
   if x5.1=true then
    L1 x5.2 x1 15
   else
    O0 [60,61] x5.2>>=fun x6=>
    if x6.1=true then
     L1 x6.2 x1 16
    else
     O0 [62] x6.2>>=fun x7=>
     if x7.1=true then
      L1 x7.2 x1 17
     else
      O0 [62,61] x7.2>>=fun x8=>
      if x8.1=true then
       L1 x8.2 x1 18
      else
       some (.ok (x1.1,x8.2))) (L2 l 3 x1.1 k):=by
 obtain ⟨o,h1,h2⟩:=C1l l hl k
 have done:∀ {t:Str} {op:Int},isS l k t=true→N5 l k 3=some (op,true)→J l e k (BO x1.1.bulk k) (L1 (mk l (step true k) e) x1 op) (L2 l 3 x1.1 k):=fun ht hop=>
  J1k hl hk IH (Yp l hl ht) hop _ rfl
 rw [hx,N2 l e hl.1,Vd hl rfl,ob]
 cases c0:isS l k [61,61] with
 | true=>rw [c0] at h1 h2; rw [h2 rfl] at h1; exact done c0 h1
 | false=>
  simp only [D3,Bool.false_eq_true,if_false]
  rw [N2 l e hl.1,Vd hl rfl,ob]
  cases c1:isS l k [33,61] with
  | true=>rw [c0,c1] at h1 h2; rw [h2 rfl] at h1; exact done c1 h1
  | false=>
   simp only [D3,Bool.false_eq_true,if_false]
   rw [N2 l e hl.1,Vd hl rfl,ob]
   cases c2:isS l k [60] with
   | true=>rw [c0,c1,c2] at h1 h2; rw [h2 rfl] at h1; exact done c2 h1
   | false=>
    simp only [D3,Bool.false_eq_true,if_false]
    rw [N2 l e hl.1,Vd hl rfl,ob]
    cases c3:isS l k [60,61] with
    | true=>rw [c0,c1,c2,c3] at h1 h2; rw [h2 rfl] at h1; exact done c3 h1
    | false=>
     simp only [D3,Bool.false_eq_true,if_false]
     rw [N2 l e hl.1,Vd hl rfl,ob]
     cases c4:isS l k [62] with
     | true=>rw [c0,c1,c2,c3,c4] at h1 h2; rw [h2 rfl] at h1; exact done c4 h1
     | false=>
      simp only [D3,Bool.false_eq_true,if_false]
      rw [N2 l e hl.1,Vd hl rfl,ob]
      cases c5:isS l k [62,61] with
      | true=>rw [c0,c1,c2,c3,c4,c5] at h1 h2; rw [h2 rfl] at h1; exact done c5 h1
      | false=>
       rw [c0,c1,c2,c3,c4,c5] at h1
       simp only [D3,Bool.false_eq_true,if_false]
       rw [L2,h1,ob]
       exact .ok _ k (Nat.le_refl _) hk (by unfold BO; omega)
end
theorem H1l {k:Nat}(hk:k≤l.length)(IH:∀ j,k < j→j≤l.length→PE l e j)(h:J l e (k+1) (BE k) (V5 (mk l k e)) (I2 l k 4)):J l e (k+1) (BE k) (V3 (mk l k e)) (I2 l k 3):=by
 rw [V3,show (3:Int)=((3:Nat):Int) from rfl,W1e hl k 3 (by decide)]
 refine J.bind (p:=V5 (mk l k e)) (r:=I2 l k ((3+1:Nat):Int)) h ?_ ?_ ?_
 ·exact fun _=>rfl
 ·exact fun v j _=>⟨v,rfl⟩
 ·intro v j h1 h2 h0
  refine (K1k hl h2 (fun i h3 h4=>IH i (by omega) h4) (v,mk l j e) rfl).mono h1 fun v' j' h3 h4=>?_
  unfold BO at h4
  unfold BE at h0 ⊢
  simp only at h4
  omega
section
variable {k:Nat}(hk:k≤l.length)(IH:∀ j,k < j→j≤l.length→PE l e j)
include hk IH
theorem Z1g (op:Int)(name:Str)(kids:List A0):J l e k (BO (A0.mk op 0 name kids).bulk k) (F4 (mk l k e) op name kids) (Z8 l op 0 name kids k):=by
 have hB:=hl.1
 rw [F4,N2 l e hB,ob,Z8,F2 l hB,ob]
 cases hd:isT l k [46] with
 | true=>
  have hlt:=J1 hd
  simp only [X3,Bool.not_true,Bool.false_eq_true,if_false,if_true,ob,cond_true]
  rw [w1 (by omega),Tj l e hB,Gd l hB]
  cases hn:N4 l (k+1) 0 with
  | true=>
   have:=Pf hn
   simp only [if_true,ob,Bool.not_true,Bool.false_eq_true,if_false]
   refine ((IH (k+1+1) (by omega) (by omega)).placeL _ _ _).mono (by omega) fun v' j' h3 h4=>?_
   have ht:=Gh hl (k+1)
   unfold BO at h4 ⊢
   rw [T1h] at h4
   omega
  | false=>exact .pn _ (k+1) (by omega)
 | false=>
  simp only [D3,Bool.not_false,Bool.false_eq_true,if_false,if_true]
  rw [N2 l e hB,ob,F2 l hB,ob]
  cases hi:isT l k [91] with
  | true=>
   have hlt:=J1 hi
   simp only [X3,if_true,cond_false]
   rw [ob,if_neg (by simp),w1 (by omega)]
   refine J.bind (IH (k+1) (by omega) (by omega)).expr ?_ ?_ ?_
   ·exact fun _=>rfl
   ·exact fun v j _=>⟨v,rfl⟩
   ·intro v j h1 h2 h0
    simp only [Bool.not_true,Bool.not_false,if_true,cond_false]
    rw [P3 l e hB,F2 l hB,ob]
    cases hn:isT l j [93] with
    | true=>
     have:=J1 hn
     simp only [if_true,ob,Bool.not_true,Bool.false_eq_true,if_false,Qs]
     rw [w1 (by omega)]
     refine ((IH (j+1) (by omega) (by omega)).placeL _ _ _).mono (by omega) fun v' j' h3 h4=>?_
     unfold BO at h4 ⊢
     unfold BE at h0
     rw [D17] at h4
     simp only [List.length_nil] at h4
     omega
    | false=>exact .pn _ j h2
  | false=>
   simp only [D3,Bool.false_eq_true,if_false,cond_false]
   exact .ok _ k (Nat.le_refl _) hk (by unfold BO; omega)
end
end
end Go.Proofs.YtmnhfbekncjnfaaGreatDoor

namespace Go.Proofs.YtmnhfbekncjnfaaGreatDoor
open Go.Am
section
set_option linter.unusedSectionVars false
variable {l:List K0}{e:Int}(hl:Yf l)
include hl
section
variable {k:Nat}(hk:k≤l.length)(IH:∀ j,k < j→j≤l.length→PE l e j)
include hk IH
theorem W1a:J l e (k+1) (BE k) (I6 (mk l k e)) (Y9 l k):=by
 have hB:=hl.1
 rw [I6,Y9,Tj l e hB,Gd l hB]
 cases hn:N4 l k 0 with
 | true=>
  have:=Pf hn
  simp only [if_true,ob,Bool.not_true,Bool.false_eq_true,if_false]
  refine ((IH (k+1) (by omega) (by omega)).placeL _ _ _).mono (Nat.le_refl _) fun v' j' h3 h4=>?_
  have ht:=Gh hl k
  unfold BO at h4
  unfold BE
  rw [Wc] at h4
  omega
 | false=>exact .pn _ k hk
theorem X1e (op:Int)(hlt:k < l.length):J l e (k+1) (BE k) (M8 op (mk l (k+1) e)) (Ia l k op):=by
 have hB:=hl.1
 rw [M8,P3 l e hB,Ia,w1 (by omega),F2 l hB,ob]
 cases ho:isT l (k+1) [40] with
 | false=>exact .pn _ (k+1) (by omega)
 | true=>
  have h1:=J1 ho
  simp only [if_true,ob,Bool.not_true,Bool.false_eq_true,if_false]
  rw [wr (n:=(k:Int)+2) (by omega) (by unfold BB at hB; omega),show (k:Int)+2=((k+1+1:Nat):Int) by omega]
  refine J.bind (IH (k+1+1) (by omega) (by omega)).expr ?_ ?_ ?_
  ·exact fun _=>rfl
  ·exact fun v j _=>⟨v,rfl⟩
  intro v j h2 h3 h0
  simp only [Bool.not_true,Bool.not_false,if_true,cond_false]
  rw [P3 l e hB,F2 l hB,ob]
  cases hc:isT l j [44] with
  | false=>exact .pn _ j h3
  | true=>
   have h4:=J1 hc
   simp only [if_true,ob,Bool.not_true,Bool.false_eq_true,if_false]
   rw [w1 (by omega)]
   refine J.bind (IH (j+1) (by omega) (by omega)).expr ?_ ?_ ?_
   ·exact fun _=>rfl
   ·exact fun v j _=>⟨v,rfl⟩
   intro v2 j2 h5 h6 h00
   simp only [Bool.not_true,Bool.not_false,if_true,cond_false]
   rw [P3 l e hB,F2 l hB,ob]
   cases hd:isT l j2 [41] with
   | false=>exact .pn _ j2 h6
   | true=>
    have h7:=J1 hd
    simp only [if_true,ob,Bool.not_true,Bool.false_eq_true,if_false,Qs]
    rw [w1 (by omega)]
    refine .ok _ (j2+1) (by omega) (by omega) ?_
    unfold BE at h0 h00 ⊢
    rw [D17]
    simp only [List.length_nil]
    omega
theorem Y1e:J l e (k+1) (BE k) (B8 (mk l k e)) (Af l k):=by
 have hB:=hl.1
 rw [B8,Af,Bx l e hB,ob]
 have hw:∀ t,isT l k t=true→N4 l k 0=false:=fun t h=>(Ja h).1
 cases hn:N4 l k 0 with
 | true=>
  have hf:∀ t,isT l k t=false:=fun t=>by
   cases h:isT l k t with
   | false=>rfl
   | true=>rw [hw t h] at hn; cases hn
  have hd:N4 l k 1=false:=by
   unfold N4 at hn ⊢
   split at hn
   ·rw [eq_of_beq hn]; rfl
   ·rfl
  simp only [if_true,F2 l hB,ob,hf,Bool.false_eq_true,if_false,Bool.not_false,cond_false]
  rw [Uj l hl,hd]
  simp only [Bool.false_eq_true,if_false,ob]
  refine J.same ?_ (fun _=>rfl) fun _=>rfl
  exact J.rsame (W1a hl hk IH)
 | false=>
  simp only [Bool.false_eq_true,if_false]
  rw [N2 l e hB,ob,F2 l hB,ob]
  cases h1:isT l k [116,114,117,101] with
  | true=>
   have:=J1 h1
   simp only [X3,if_true]
   rw [w1 (by omega)]
   exact .ok _ (k+1) (Nat.le_refl _) (by omega) (by unfold BE; rw [Wc]; simp only [List.length_nil]; omega)
  | false=>
   simp only [D3,Bool.false_eq_true,if_false]
   rw [N2 l e hB,ob,F2 l hB,ob]
   cases h2:isT l k [102,97,108,115,101] with
   | true=>
    have:=J1 h2
    simp only [X3,if_true]
    rw [w1 (by omega)]
    exact .ok _ (k+1) (Nat.le_refl _) (by omega) (by unfold BE; rw [Wc]; simp only [List.length_nil]; omega)
   | false=>
    simp only [D3,Bool.false_eq_true,if_false]
    rw [N2 l e hB,ob,F2 l hB,ob,F2 l hB]
    cases h3:isT l k [109,105,110] with
    | true=>
     have hlt:=J1 h3
     have h4:isT l k [109,97,120]=false:=by
      cases h:isT l k [109,97,120] with
      | false=>rfl
      | true=>have:=(Ja h3).2.2.symm.trans (Ja h).2.2; simp at this
     simp only [X3,if_true,Bool.not_true,Bool.false_eq_true,if_false,ob,cond_true]
     rw [Zc,F2 l hB,ob,h4,if_neg (by simp)]
     refine J.same ?_ (fun _=>rfl) fun _=>rfl
     exact J.rsame (X1e hl hk IH 21 hlt)
    | false=>
     simp only [D3,Bool.false_eq_true,if_false,Bool.not_false,if_true,ob,cond_false]
     rw [N2 l e hB,ob]
     cases h4:isT l k [109,97,120] with
     | true=>
      have hlt:=J1 h4
      simp only [X3,if_true]
      rw [Zc,F2 l hB,ob,h4,if_pos rfl]
      refine J.same ?_ (fun _=>rfl) fun _=>rfl
      exact J.rsame (X1e hl hk IH 22 hlt)
     | false=>
      simp only [D3,Bool.false_eq_true,if_false]
      rw [N2 l e hB,ob,F2 l hB,ob]
      cases h5:isT l k [40] with
      | true=>
       have hlt:=J1 h5
       simp only [X3,if_true]
       rw [w1 (by omega)]
       refine J.bind (IH (k+1) (by omega) (by omega)).expr ?_ ?_ ?_
       ·exact fun _=>rfl
       ·exact fun v j _=>⟨v,rfl⟩
       intro v j h6 h7 h0
       simp only [Bool.not_true,Bool.not_false,if_true,cond_false]
       rw [P3 l e hB,F2 l hB,ob]
       cases hd:isT l j [41] with
       | false=>exact .pn _ j h7
       | true=>
        have h8:=J1 hd
        simp only [if_true,ob,Bool.not_true,Bool.false_eq_true,if_false]
        rw [w1 (by omega)]
        refine .ok _ (j+1) (by omega) (by omega) ?_
        unfold BE at h0 ⊢
        omega
      | false=>
       simp only [D3,Bool.false_eq_true,if_false]
       rw [C12 l e hl,Uj l hl]
       cases h6:N4 l k 1 with
       | true=>
        have:=Pf h6
        simp only [if_true,ob]
        exact .ok _ (k+1) (Nat.le_refl _) (by omega) (by unfold BE; rw [Wc]; simp only [List.length_nil]; omega)
       | false=>
        simp only [Bool.false_eq_true,if_false,ob]
        rw [Y9,Gd l hB,hn]
        exact .pn _ k hk
theorem U1i:J l e (k+1) (BE k) (S3 (mk l k e)) (Za l k):=by
 have hB:=hl.1
 have go:∀ op:Int,k < l.length→J l e (k+1) (BE k) (S3 (mk l (k+1) e)>>=fun x4=>match x4 with | .pn nn=>some (.pn nn) | .ok x4=>some (.ok ((A0.mk op 0 [] [x4.1]),x4.2))) (Ra l k op):=fun op hlt=>by
  rw [Ra,w1 (by omega)]
  refine J.bind (IH (k+1) (by omega) (by omega)).un ?_ ?_ ?_
  ·exact fun _=>rfl
  ·exact fun v j _=>⟨v,rfl⟩
  ·intro v j h1 h2 h0
   refine .ok _ j (by omega) h2 ?_
   unfold BE at h0 ⊢
   rw [T1h]
   simp only [List.length_nil]
   omega
 rw [S3,Za,N2 l e hB,ob,F2 l hB,ob]
 cases h1:isT l k [45] with
 | true=>
  have hlt:=J1 h1
  have h2:isT l k [33]=false:=by
   cases h:isT l k [33] with
   | false=>rfl
   | true=>have:=(Ja h1).2.2.symm.trans (Ja h).2.2; simp at this
  simp only [X3,if_true,Bool.not_true,Bool.false_eq_true,if_false,ob,cond_false]
  rw [F2 l hB,ob,h2,if_neg (by simp)]
  exact go 6 hlt
 | false=>
  simp only [D3,Bool.false_eq_true,if_false,Bool.not_false,if_true]
  rw [N2 l e hB,ob,F2 l hB,ob]
  cases h2:isT l k [33] with
  | true=>
   have hlt:=J1 h2
   simp only [X3,if_true,Bool.not_true,Bool.false_eq_true,if_false,cond_true,ob]
   exact go 7 hlt
  | false=>
   simp only [D3,Bool.false_eq_true,if_false,Bool.not_false,if_true,cond_true]
   refine J.same ?_ (fun _=>rfl) fun _=>rfl
   exact J.rsame (Y1e hl hk IH)
theorem L1k (ho:J l e (k+1) (BE k) (L8 (mk l k e)) (I2 l k 1)):J l e (k+1) (BE k) (C1 (mk l k e)) (A2 l k):=by
 have hB:=hl.1
 rw [C1,A2]
 refine J.bind ho ?_ ?_ ?_
 ·exact fun _=>rfl
 ·exact fun v j _=>⟨v,rfl⟩
 intro v j h1 h2 h0
 simp only [Bool.not_true,Bool.not_false,if_true,cond_false]
 rw [N2 l e hB,ob,F2 l hB,ob]
 cases hq:isT l j [63] with
 | false=>exact .ok _ j h1 h2 h0
 | true=>
  have h3:=J1 hq
  simp only [X3,Bool.not_true,Bool.false_eq_true,if_false]
  rw [w1 (by omega)]
  refine J.bind (IH (j+1) (by omega) (by omega)).expr ?_ ?_ ?_
  ·exact fun _=>rfl
  ·exact fun v j _=>⟨v,rfl⟩
  intro v2 j2 h4 h5 h00
  simp only [Bool.not_true,Bool.false_eq_true,if_false]
  rw [P3 l e hB,F2 l hB,ob]
  cases hc:isT l j2 [58] with
  | false=>exact .pn _ j2 h5
  | true=>
   have h6:=J1 hc
   simp only [if_true,ob,Bool.not_true,Bool.false_eq_true,if_false]
   rw [w1 (by omega)]
   refine J.bind (IH (j2+1) (by omega) (by omega)).expr ?_ ?_ ?_
   ·exact fun _=>rfl
   ·exact fun v j _=>⟨v,rfl⟩
   ·intro v3 j3 h7 h8 h000
    refine .ok _ j3 (by omega) h8 ?_
    unfold BE at h0 h00 h000 ⊢
    rw [D1l]
    simp only [List.length_nil]
    omega
end
theorem Z1e:∀ (n k:Nat),l.length - k < n→k≤l.length→PE l e k
 | 0,k,h,_=>absurd h (Nat.not_lt_zero _)
 | n+1,k,h,hk=>by
  have IH:∀ j,k < j→j≤l.length→PE l e j:=fun j h1 h2=>Z1e n j (by omega) h2
  have u:=U1i hl hk IH
  have p5:=I1k hl hk IH u
  have p4:=F1l hl hk IH p5
  have p3:=H1l hl hk IH p4
  have p2:=G1l hl hk IH p3
  have p1:=W1l hl hk IH p2
  exact ⟨L1k hl hk IH p1,u,T1i hl hk IH,p5,G1k hl hk IH,p4,p3,H1k hl hk IH,p2,E1l hl hk IH,p1,Z1g hl hk IH⟩
theorem So {k:Nat}(hk:k≤l.length):PE l e k:=Z1e hl _ k (Nat.lt_succ_self _) hk
end
end Go.Proofs.YtmnhfbekncjnfaaGreatDoor

namespace Go.Proofs.YtmnhfbekncjnfaaGreatDoor
open Go.Am
theorem M1k (r:List UInt8):∀ m:Nat,m * 10 ^ r.length≤nv m r:=by
 induction r with
 | nil=>intro m; rw [Wv]; simp
 | cons c r ih=>
  intro m
  rw [Ho]
  refine Nat.le_trans ?_ (ih _)
  rw [List.length_cons,Nat.pow_succ]
  calc m * (10 ^ r.length * 10)=(10 * m) * 10 ^ r.length:=by rw [Nat.mul_comm (10 ^ r.length) 10,← Nat.mul_assoc,Nat.mul_comm m 10]
   _≤(10 * m+(c.toNat - 48)) * 10 ^ r.length:=Nat.mul_le_mul_right _ (by omega)
theorem N1k {w:Str}(hne:w≠[])(h:Ku w=0):w.all (fun c=>G9 c.toNat)=true∧w.length≤7∧nv 0 w≤1048576:=by
 unfold Ku at h
 split at h
 ·rename_i hc
  rw [Bool.and_eq_true] at hc
  obtain ⟨h1,h2⟩:=hc
  have h3:nv 0 w≤1048576:=by
   rcases Nat.lt_or_ge 1048576 (nv 0 w) with hb | hb
   ·rw [B12 hb] at h; cases h
   ·exact hb
  refine ⟨h1,?_,h3⟩
  cases w with
  | nil=>exact absurd rfl hne
  | cons c r=>
   rw [List.all_cons,Bool.and_eq_true] at h1
   have hc:=Il.1 h1.1
   have hz:Rt (c::r)=false:=by simpa using h2
   unfold Rt at hz
   by_cases h48:c.toNat=48
   ·have hb:(((c::r).getD 0 0).toNat:Int) == 48:=by simp [h48]
    rw [hb,Bool.and_true] at hz
    have:=of_decide_eq_false hz
    omega
   ·rw [Ho] at h3
    have hp:=M1k r (10 * 0+(c.toNat - 48))
    have h5:1 * 10 ^ r.length≤(10 * 0+(c.toNat - 48)) * 10 ^ r.length:=Nat.mul_le_mul_right _ (by omega)
    rcases Nat.lt_or_ge 6 r.length with h6 | h6
    ·have:=Nat.pow_le_pow_right (show 1≤10 by decide) (show 7≤r.length from h6)
     omega
    ·rw [List.length_cons]; omega
 ·cases h
theorem V1i {c:UInt8}{t:List UInt8}{k:Int}(hlen:(c::t).length≤8192)(h:(nxt (c::t) k).2=0):Tok (nxt (c::t) k).1:=by
 have htx:=Kl h
 have hl8:(nxt (c::t) k).1.Text.length≤8192:=by omega
 refine ⟨hl8,fun hk=>?_,fun hk=>?_⟩
 ·revert h hk
  unfold nxt
  simp only [List.getD_cons_zero]
  cases hl:Me c.toNat with
  | true=>
   have hld:ld c=true:=by unfold ld; rw [hl]; rfl
   intro h hk
   have hw:∃ r,(c::t).take (M4 (c::t))=c::r:=by
    simp only [M4,hld,cond_true,List.take_succ_cons]
    exact ⟨_,rfl⟩
   obtain ⟨r,hr⟩:=hw
   simp only [if_true] at hk ⊢
   split at hk
   ·rename_i hres
    rw [if_pos hres]
    exact ⟨c,r,hr,hl⟩
   ·split at hk <;> cases hk
  | false=>
   simp only [Bool.false_eq_true,if_false]
   intro h hk
   split at hk
   ·cases hk
   ·split at hk
    ·cases hk
    ·split at hk <;> cases hk
 ·revert h hk
  unfold nxt
  simp only [List.getD_cons_zero]
  cases hl:Me c.toNat with
  | true=>
   intro h hk
   simp only [if_true] at hk
   split at hk
   ·cases hk
   ·split at hk <;> cases hk
  | false=>
   simp only [Bool.false_eq_true,if_false]
   intro h hk
   cases hd:G9 c.toNat with
   | true=>
    have hld:ld c=true:=by unfold ld; rw [hl,hd]; rfl
    have hne:(c::t).take (M4 (c::t))≠[]:=by
     simp only [M4,hld,cond_true,List.take_succ_cons]
     exact List.cons_ne_nil _ _
    rw [hd,if_pos rfl] at h
    rw [if_pos rfl]
    obtain ⟨n1,n2,n3⟩:=N1k hne h
    exact ⟨hne,n1,n2,n3⟩
   | false=>
    rw [hd,if_neg (by simp)] at hk
    split at hk
    ·cases hk
    ·split at hk <;> cases hk
theorem L19:∀ (n:Nat) (r:List UInt8) (k:Nat),r.length≤8192→(Ye n r k).2.2=0→(∀ x∈(Ye n r k).1,Tok x)∧(Ye n r k).1.length≤r.length
 | 0,r,k,_,_=>⟨fun x hx=>(by cases hx),Nat.zero_le _⟩
 | n+1,r,k,hl,h=>by
  revert h
  unfold Ye
  split
  ·exact fun _=>⟨fun x hx=>(by cases hx),Nat.zero_le _⟩
  ·rename_i c t hd
   have hle:(c::t).length≤r.length:=by rw [← hd,List.length_drop]; omega
   simp only
   split
   ·rename_i hx
    obtain ⟨b1,b2,b3,b4⟩:=Kl hx
    have hdl:((c::t).drop (nxt (c::t) ((k+skp false r:Nat):Int)).1.Text.length).length≤(c::t).length - 1:=by rw [List.length_drop]; omega
    have ih:=L19 n ((c::t).drop (nxt (c::t) ((k+skp false r:Nat):Int)).1.Text.length) (k+skp false r+(nxt (c::t) ((k+skp false r:Nat):Int)).1.Text.length) (by omega)
    split
    ·rename_i hz
     obtain ⟨i1,i2⟩:=ih hz
     intro _
     refine ⟨fun x hx'=>?_,?_⟩
     ·rcases List.mem_cons.1 hx' with rfl | hx'
      ·exact V1i (by omega) hx
      ·exact i1 x hx'
     ·simp only [List.length_cons] at *
      omega
    ·rename_i hz
     exact fun h=>absurd h hz
   ·rename_i hx
    exact fun h=>absurd h hx
theorem Gx {s:Str}(h:(N3 s).2.2=0):Yf (N3 s).1∧(N3 s).1.length≤8192:=by
 unfold N3 at h ⊢
 by_cases hl:s.length > 8192
 ·rw [if_pos hl] at h; cases h
 ·rw [if_neg hl] at h ⊢
  obtain ⟨h1,h2⟩:=L19 _ s 0 (by omega) h
  exact ⟨⟨by unfold BB; omega,h1⟩,by omega⟩
end Go.Proofs.YtmnhfbekncjnfaaGreatDoor

namespace Go.Proofs.YtmnhfbekncjnfaaGreatDoor
open Go.Am
end Go.Proofs.YtmnhfbekncjnfaaGreatDoor

namespace Go.Proofs.YtmnhfbekncjnfaaGreatDoor
open Go.Am
def BT (k:Nat)(v:J0)(j:Nat):Prop:=v.bulk≤9000 * (j - k)
def Lu (ns:List Str):Nat:=(ns.map fun s=>s.length+1).sum
def BF (ns:List Str)(os:List J0)(k:Nat)(v:J0)(j:Nat):Prop:=v.bulk≤Lu ns+J0.bulks os+8+9000 * (j - k)
theorem M19 (ns:List Str)(s:Str):Lu (ns++[s])=Lu ns+s.length+1:=by unfold Lu; simp; omega
theorem Hx:∀ (os:List J0) (t:J0),J0.bulks (os++[t])=J0.bulks os+t.bulk
 | [],t=>by simp only [List.nil_append,J0.bulks]; omega
 | x::r,t=>by simp only [List.cons_append,J0.bulks,Hx r t]; omega
theorem Zp (a b c d:Int)(s:Str)(ns:List Str)(os:List J0):(J0.mk a b c d s ns os).bulk=s.length+Lu ns+J0.bulks os+8:=by rw [J0.bulk_eq]; rfl
structure PT (l:List K0)(e:Int)(k:Nat):Prop where
 typ:J l e (k+1) (BT k) (A5 (mk l k e)) (Sa l k)
 fld:∀ ns os,ns.length≤k→os.length≤k→J l e k (BF ns os k) (A9 (mk l k e) ns os) (J9 l ns os ((k:Int) - 1))
section
set_option linter.unusedSectionVars false
variable {l:List K0}{e:Int}(hl:Yf l)
include hl
theorem To {k:Nat}(hk:k≤l.length):J l e (k+1) (fun _ _=>True) (R2 (mk l k e)) (M5 l k):=by
 have hB:=hl.1
 unfold R2 M5
 rw [N2 l e hB,ob,F2 l hB,ob]
 cases h:isT l k [45] with
 | true=>
  have hlt:=J1 h
  simp only [X3,if_true]
  rw [w1 (by omega),C12 l e hl,Uj l hl]
  cases h1:N4 l (k+1) 1 with
  | true=>have:=Pf h1; exact .ok _ (k+1+1) (by omega) (by omega) trivial
  | false=>exact .pn _ (k+1) (by omega)
 | false=>
  simp only [D3,Bool.false_eq_true,if_false]
  rw [C12 l e hl,Uj l hl]
  cases h1:N4 l k 1 with
  | true=>have:=Pf h1; exact .ok _ (k+1) (by omega) (by omega) trivial
  | false=>exact .pn _ k hk
section
variable {k:Nat}(hk:k≤l.length)(IH:∀ j,k < j→j≤l.length→PT l e j)
include hk IH
theorem I1l:J l e (k+1) (BT k) (A5 (mk l k e)) (Sa l k):=by
 have hB:=hl.1
 rw [A5,Sa,N2 l e hB,ob,F2 l hB,ob]
 cases h1:isT l k [98,111,111,108] with
 | true=>
  have:=J1 h1
  simp only [X3,if_true]
  rw [w1 (by omega)]
  exact .ok _ (k+1) (Nat.le_refl _) (by omega) (by unfold BT; rw [Zp]; simp only [List.length_nil,Lu,List.map_nil,List.sum_nil,J0.bulks]; omega)
 | false=>
  simp only [D3,Bool.false_eq_true,if_false]
  rw [N2 l e hB,ob,F2 l hB,ob]
  cases h2:isT l k [105,110,116] with
  | true=>
   have hlt:=J1 h2
   simp only [X3,if_true]
   rw [w1 (by omega)]
   refine J.rsame ?_
   unfold Pg
   rw [P3 l e hB,F2 l hB,ob]
   cases h3:isT l (k+1) [91] with
   | false=>exact .pn _ (k+1) (by omega)
   | true=>
    have h4:=J1 h3
    simp only [if_true,ob,Bool.not_true,Bool.false_eq_true,if_false]
    rw [w1 (by omega)]
    refine J.bind (To hl (k:=k+1+1) (by omega)) ?_ ?_ ?_
    ·exact fun _=>rfl
    ·exact fun v j _=>⟨_,rfl⟩
    intro v j h5 h6 _
    simp only [Bool.not_true,Bool.not_false,if_true,cond_false]
    rw [P3 l e hB,F2 l hB,ob]
    cases h7:isT l j [46,46] with
    | false=>exact .pn _ j h6
    | true=>
     have h8:=J1 h7
     simp only [if_true,ob,Bool.not_true,Bool.false_eq_true,if_false]
     rw [w1 (by omega)]
     refine J.bind (To hl (k:=j+1) (by omega)) ?_ ?_ ?_
     ·exact fun _=>rfl
     ·exact fun v j _=>⟨_,rfl⟩
     intro v2 j2 h9 h10 _
     simp only [Bool.not_true,Bool.not_false,if_true,cond_false]
     rw [P3 l e hB,F2 l hB,ob]
     cases h11:isT l j2 [93] with
     | false=>exact .pn _ j2 h10
     | true=>
      have h12:=J1 h11
      simp only [if_true,ob,Bool.not_true,Bool.false_eq_true,if_false]
      rw [w1 (by omega)]
      exact .ok _ (j2+1) (by omega) (by omega) (by unfold BT; rw [Zp]; simp only [List.length_nil,Lu,List.map_nil,List.sum_nil,J0.bulks]; omega)
  | false=>
   simp only [D3,Bool.false_eq_true,if_false]
   rw [N2 l e hB,ob,F2 l hB,ob]
   cases h3:isT l k [97,114,114,97,121] with
   | true=>
    have hlt:=J1 h3
    simp only [X3,if_true]
    rw [w1 (by omega)]
    refine J.bind (To hl (k:=k+1) (by omega)) ?_ ?_ ?_
    ·exact fun _=>rfl
    ·exact fun v j _=>⟨_,rfl⟩
    intro v j h5 h6 _
    simp only [Bool.not_true,Bool.not_false,if_true,cond_false]
    rw [P3 l e hB,F2 l hB,ob]
    cases h7:isT l j [111,102] with
    | false=>exact .pn _ j h6
    | true=>
     have h8:=J1 h7
     simp only [if_true,ob,Bool.not_true,Bool.false_eq_true,if_false]
     rw [w1 (by omega)]
     refine J.bind (IH (j+1) (by omega) (by omega)).typ ?_ ?_ ?_
     ·exact fun _=>rfl
     ·exact fun v j _=>⟨_,rfl⟩
     intro v2 j2 h9 h10 h0
     refine .ok _ j2 (by omega) h10 ?_
     unfold BT at h0 ⊢
     rw [Zp]
     simp only [List.length_nil,Lu,List.map_nil,List.sum_nil,J0.bulks]
     omega
   | false=>
    simp only [D3,Bool.false_eq_true,if_false]
    rw [N2 l e hB,ob,F2 l hB,ob]
    cases h4:isT l k [114,101,99,111,114,100] with
    | true=>
     have hlt:=J1 h4
     simp only [X3,if_true]
     rw [w1 (by omega)]
     refine J.rsame ?_
     rw [Jj,P3 l e hB,F2 l hB,ob]
     cases h5:isT l (k+1) [123] with
     | false=>exact .pn _ (k+1) (by omega)
     | true=>
      have h6:=J1 h5
      simp only [if_true,ob,Bool.not_true,Bool.false_eq_true,if_false]
      have hf:=(IH (k+1+1) (by omega) (by omega)).fld [] [] (Nat.zero_le _) (Nat.zero_le _)
      rw [show ((k+1+1:Nat):Int) - 1=((k+1:Nat):Int) by omega] at hf
      refine hf.mono (by omega) fun v j h7 h8=>?_
      unfold BF at h8
      unfold BT
      simp only [Lu,List.map_nil,List.sum_nil,J0.bulks] at h8
      omega
    | false=>
     simp only [D3,Bool.false_eq_true,if_false]
     rw [Tj l e hB,Gd l hB]
     cases h5:N4 l k 0 with
     | false=>exact .pn _ k hk
     | true=>
      have:=Pf h5
      have ht:=Gh hl k
      exact .ok _ (k+1) (Nat.le_refl _) (by omega) (by unfold BT; rw [Zp]; simp only [Lu,List.map_nil,List.sum_nil,J0.bulks]; omega)
theorem J1l (ns:List Str)(os:List J0)(hn:ns.length≤k)(ho:os.length≤k):J l e k (BF ns os k) (A9 (mk l k e) ns os) (J9 l ns os ((k:Int) - 1)):=by
 have hB:=hl.1
 rw [A9,J9,J5,wr (n:=(k:Int) - 1+1) (by omega) (by unfold BB at hB; omega),show (k:Int) - 1+1=(k:Int) by omega,Tj l e hB,Gd l hB]
 cases h1:N4 l k 0 with
 | false=>exact .pn _ k hk
 | true=>
  have h2:=Pf h1
  have ht:=Gh hl k
  simp only [if_true,ob,Bool.not_true,Bool.not_false,cond_false]
  rw [P3 l e hB,F2 l hB,ob]
  cases h3:isT l (k+1) [58] with
  | false=>exact .pn _ (k+1) (by omega)
  | true=>
   have h4:=J1 h3
   simp only [if_true,ob,Bool.not_true,Bool.false_eq_true,if_false]
   rw [w1 (by omega)]
   rcases (IH (k+1+1) (by omega) (by omega)).typ with ⟨v,j,h5,h6,h0,h7,h8⟩ | ⟨v,j,h6,h7,h8⟩
   ·rw [h7,h8,ob,ob,ob]
    have r1:decide ((ns.length+1) * 17≤140737488355328)=true:=decide_eq_true (by unfold BB at hB; omega)
    have r2:decide ((os.length+1) * 97≤140737488355328)=true:=decide_eq_true (by unfold BB at hB; omega)
    simp only [r1,r2,if_true,Bool.not_true,Bool.false_eq_true,if_false]
    rw [N2 l e hB,F2 l hB,ob,ob]
    unfold BT at h0
    cases h9:isT l j [44] with
    | true=>
     have h10:=J1 h9
     have h11:isT l j [125]=false:=by
      cases h:isT l j [125] with
      | false=>rfl
      | true=>have:=(Ja h9).2.2.symm.trans (Ja h).2.2; simp at this
     simp only [h11,X3,Bool.not_true,Bool.false_eq_true,if_false]
     rw [F2 l hB,ob,h9]
     simp only [Bool.not_true,Bool.false_eq_true,if_false]
     have hf:=(IH (j+1) (by omega) (by omega)).fld (ns++[txt l k]) (os++[v]) (by rw [List.length_append]; simp only [List.length_singleton]; omega) (by rw [List.length_append]; simp only [List.length_singleton]; omega)
     rw [show ((j+1:Nat):Int) - 1=(j:Int) by omega] at hf
     refine hf.mono (by omega) fun v' j' h12 h13=>?_
     unfold BF at h13 ⊢
     rw [M19,Hx] at h13
     omega
    | false=>
     simp only [D3,Bool.not_false,if_true]
     rw [P3 l e hB]
     cases h10:isT l j [125] with
     | true=>
      have h11:=J1 h10
      simp only [if_true,ob]
      rw [w1 (by omega)]
      refine .ok _ (j+1) (by omega) (by omega) ?_
      unfold BF
      rw [Zp,M19,Hx]
      simp only [List.length_nil]
      omega
     | false=>
      simp only [Bool.false_eq_true,if_false,ob]
      rw [F2 l hB,ob,h9]
      exact .pn _ j h6
   ·rw [h7,h8,ob,ob,ob]
    exact .pn _ j h6
end
theorem A1f:∀ (n k:Nat),l.length - k < n→k≤l.length→PT l e k
 | 0,k,h,_=>absurd h (Nat.not_lt_zero _)
 | n+1,k,h,hk=>by
  have IH:∀ j,k < j→j≤l.length→PT l e j:=fun j h1 h2=>A1f n j (by omega) h2
  exact ⟨I1l hl hk IH,J1l hl hk IH⟩
theorem E17 {k:Nat}(hk:k≤l.length):PT l e k:=A1f hl _ k (Nat.lt_succ_self _) hk
end
end Go.Proofs.YtmnhfbekncjnfaaGreatDoor

namespace Go.Proofs.YtmnhfbekncjnfaaGreatDoor
open Go.Am
end Go.Proofs.YtmnhfbekncjnfaaGreatDoor

namespace Go.Proofs.YtmnhfbekncjnfaaGreatDoor
open Go.Am
def Ze (k:Int)(n:Str)(t:J0)(i:Int):D0:=D0.mk k n t i (A0.mk 0 0 [] []) [] [] []
def BV (k:Nat)(v:D0)(j:Nat):Prop:=(∃ n t i,v=Ze 4 n t i)∧v.bulk≤9000 * (j - k)
def BP (k:Nat)(v:D0)(j:Nat):Prop:=(∃ n t,v=Ze 4 n t 0)∧v.bulk+9000≤9000 * (j - k)
section
set_option linter.unusedSectionVars false
variable {l:List K0}{e:Int}(hl:Yf l)
include hl
theorem M16 (k:Int)(n:Str)(t:J0)(i:Int):(Ze k n t i).bulk=n.length+t.bulk+12:=by
 unfold Ze
 simp only [D0.bulk,D0.bulks,E0.bulks,Wc,List.length_nil]
 omega
theorem E15 {k:Nat}(hk:k≤l.length):J l e (k+1) (BP k) (U2 4 (mk l k e)) (J5 l k):=by
 have hB:=hl.1
 unfold U2
 rw [J5,Tj l e hB,Gd l hB]
 cases h1:N4 l k 0 with
 | false=>exact .pn _ k hk
 | true=>
  have h2:=Pf h1
  have ht:=Gh hl k
  simp only [if_true,ob,Bool.not_true,Bool.not_false,cond_false]
  rw [P3 l e hB,F2 l hB,ob]
  cases h3:isT l (k+1) [58] with
  | false=>exact .pn _ (k+1) (by omega)
  | true=>
   have h4:=J1 h3
   simp only [if_true,ob,Bool.not_true,Bool.false_eq_true,if_false]
   rw [w1 (by omega)]
   refine J.bind (E17 hl (k:=k+1+1) (by omega)).typ ?_ ?_ ?_
   ·exact fun _=>rfl
   ·exact fun v j _=>⟨_,rfl⟩
   intro v j h5 h6 h0
   refine .ok _ j (by omega) h6 ⟨⟨_,_,rfl⟩,?_⟩
   have:=M16 hl 4 (txt l k) v 0
   unfold Ze at this
   unfold BT at h0
   rw [this]
   omega
theorem D14 {k j:Nat}{d:D0}(hj:j≤l.length)(hk:k≤j){P:D0→Nat→Prop}(hP:P d (j+1)){F:Pn B0→Option (Pn (D0×B0))}(hF:∀ n,F (.pn n)=some (.pn n))(hF2:∀ x,F (.ok x)=some (.ok (d,x))) :
  J l e (k+1) P (R0 [59] (mk l j e)>>=F) (T0 l j [59]>>=fun x4=>if (!x4)=true then some (d,(j:Int),false) else some (d,IntKind.i64.wrap ((j:Int)+1),true)):=by
 have hB:=hl.1
 rw [P3 l e hB,F2 l hB,ob]
 cases h:isT l j [59] with
 | false=>simp only [Bool.false_eq_true,if_false,ob,hF,Bool.not_false,if_true]; exact .pn _ j hj
 | true=>
  have:=J1 h
  simp only [if_true,ob,hF2,Bool.not_true,Bool.false_eq_true,if_false]
  rw [w1 (by omega)]
  exact .ok _ (j+1) (by omega) (by omega) hP
theorem E14 {k:Nat}(hk:k≤l.length):J l e (k+1) (BV k) (J7 (mk l k e)) (Ac l k):=by
 have hB:=hl.1
 unfold J7 Ac
 refine J.bind (E15 hl hk) ?_ ?_ ?_
 ·exact fun _=>rfl
 ·exact fun v j _=>⟨_,rfl⟩
 rintro v j h1 h2 ⟨⟨n,t,rfl⟩,h0⟩
 have hb:∀ i (j':Nat),j≤j'→BV k (Ze 4 n t i) j':=fun i j' h=>⟨⟨n,t,i,rfl⟩,by rw [M16 hl] at h0 ⊢; omega⟩
 simp only [Bool.not_true,Bool.false_eq_true,if_false]
 rw [N2 l e hB,ob,F2 l hB,ob]
 cases h3:isT l j [61] with
 | false=>
  simp only [D3,Bool.false_eq_true,if_false]
  unfold O6
  exact D14 hl (d:=Ze 4 n t 0) h2 (by omega) (hb 0 _ (by omega)) (fun _=>rfl) (fun _=>rfl)
 | true=>
  have h4:=J1 h3
  simp only [X3,if_true]
  rw [w1 (by omega),N2 l e hB,ob,Vk,F2 l hB,ob]
  cases h5:isT l (j+1) [116,114,117,101] with
  | true=>
   have h6:=J1 h5
   simp only [X3,if_true,ob,Bool.not_true,Bool.false_eq_true,if_false]
   rw [w1 (by omega)]
   unfold O6
   exact D14 hl (d:=Ze 4 n t 1) (j:=j+1+1) (by omega) (by omega) (hb 1 _ (by omega)) (fun _=>rfl) (fun _=>rfl)
  | false=>
   simp only [D3,Bool.false_eq_true,if_false]
   rw [N2 l e hB,ob,F2 l hB,ob]
   cases h6:isT l (j+1) [102,97,108,115,101] with
   | true=>
    have h7:=J1 h6
    simp only [X3,if_true,ob,Bool.not_true,Bool.false_eq_true,if_false]
    rw [w1 (by omega)]
    unfold O6
    exact D14 hl (d:=Ze 4 n t 0) (j:=j+1+1) (by omega) (by omega) (hb 0 _ (by omega)) (fun _=>rfl) (fun _=>rfl)
   | false=>
    simp only [D3,Bool.false_eq_true,if_false]
    rcases To hl (e:=e) (k:=j+1) (by omega) with ⟨v,j2,h7,h8,_,h9,h10⟩ | ⟨v,j2,h8,h9,h10⟩
    ·rw [h9,h10,ob,ob,ob]
     simp only [Bool.not_true,Bool.false_eq_true,if_false]
     unfold O6
     exact D14 hl (d:=Ze 4 n t v) (j:=j2) h8 (by omega) (hb v _ (by omega)) (fun _=>rfl) (fun _=>rfl)
    ·rw [h9,h10,ob,ob,ob]
     exact .pn _ j2 h8
end
end Go.Proofs.YtmnhfbekncjnfaaGreatDoor

namespace Go.Proofs.YtmnhfbekncjnfaaGreatDoor
open Go.Am
def BS (k:Nat)(v:E0)(j:Nat):Prop:=v.bulk≤9000 * (j - k)
theorem ba {α β γ:Type}(x:Option α)(f:α→β)(g:β→Option γ):((x>>=fun a=>some (f a))>>=g)=(x>>=fun a=>g (f a)):=by cases x <;> rfl
abbrev zE:A0:=A0.mk 0 0 [] []
def Ix (l:List K0)(x:E0×Int×Bool):Option (E0×Int×Bool):=E6 l x.1.Verb x.1.Place x.1.Value x.1.Name x.1.Args x.1.NV x.1.Low x.1.High x.1.Numbers x.1.Then x.1.Else x.2.1 x.2.2
section
set_option linter.unusedSectionVars false
variable {l:List K0}{e:Int}(hl:Yf l)
include hl
theorem Wd (s:E0)(j:Int):Ix l (s,j,false)=some (s,j,false):=by cases s; rfl
theorem D12 (s:E0)(j:Nat)(hj:j≤l.length):Ix l (s,(j:Int),true)=if isT l j [59]=true then some (s,((j+1:Nat):Int),true) else some (s,(j:Int),false):=by
 have hB:=hl.1
 unfold Ix E6
 simp only [Bool.not_true,Bool.not_false,if_true,cond_false]
 rw [F2 l hB,ob]
 cases h:isT l j [59] with
 | false=>cases s; rfl
 | true=>
  have:=J1 h
  simp only [Bool.not_true,Bool.false_eq_true,if_false,if_true]
  rw [w1 (by omega)]
  cases s; rfl
theorem O10 {lo j:Nat}{s:E0}(hj:j≤l.length)(hk:lo≤j+1){P:E0→Nat→Prop}(hP:P s (j+1)){F:Pn B0→Option (Pn (E0×B0))}(hF:∀ n,F (.pn n)=some (.pn n))(hF2:∀ x,F (.ok x)=some (.ok (s,x))) :
  J l e lo P (R0 [59] (mk l j e)>>=F) (Ix l (s,(j:Int),true)):=by
 rw [P3 l e hl.1,D12 hl s j hj]
 cases h:isT l j [59] with
 | false=>simp only [Bool.false_eq_true,if_false,ob,hF]; exact .pn _ j hj
 | true=>
  have:=J1 h
  simp only [if_true,ob,hF2]
  exact .ok _ (j+1) hk (by omega) hP
theorem Uo (a:Int)(p v:A0)(n:Str)(az:List A0)(b c d:Int)(t u:List E0):(E0.mk a p v n az b c d [] t u).bulk=p.bulk+v.bulk+n.length+A0.bulks az+E0.bulks t+E0.bulks u+10:=by
 rw [E0.bulk_eq]; simp only [List.map_nil,List.sum_nil]; omega
theorem F14:∀ (os:List A0) (t:A0),A0.bulks (os++[t])=A0.bulks os+t.bulk
 | [],t=>by simp only [List.nil_append,A0.bulks]; omega
 | x::r,t=>by simp only [List.cons_append,A0.bulks,F14 r t]; omega
theorem B1f (p:A0)(nm:Str)(x1:A0×B0)(x4:Str×B0)(h1:x1.1=p)(h4:x4.1=nm):∀ (n j:Nat) (az:List A0),l.length - j < n→j≤l.length→az.length≤j→
  J l e j (fun v j'=>v.bulk≤p.bulk+nm.length+A0.bulks az+9000 * (j' - j)+15) (K4 (mk l j e) x1 x4 az)
   ((T0 l j [41]>>=fun x4=>if x4=true then some (az,IntKind.i64.wrap ((j:Int)+1),true) else T0 l j [44]>>=fun x5=>if (!x5)=true then some (az,(j:Int),false) else F6 l j az)>>=fun x7=>
     Ix l (E0.mk 1 p zE nm x7.1 0 0 0 [] [] [],x7.2.1,x7.2.2))
 | 0,j,az,h,_,_=>absurd h (Nat.not_lt_zero _)
 | n+1,j,az,h,hj,ha=>by
  have hB:=hl.1
  rw [K4,N2 l e hB,ob,F2 l hB,ob]
  cases hc:isT l j [44] with
  | true=>
   have h5:=J1 hc
   have h6:isT l j [41]=false:=by
    cases h:isT l j [41] with
    | false=>rfl
    | true=>have:=(Ja hc).2.2.symm.trans (Ja h).2.2; simp at this
   simp only [h6,X3,if_true,Bool.false_eq_true,if_false]
   rw [F2 l hB,ob,hc]
   simp only [Bool.not_true,Bool.false_eq_true,if_false]
   rw [F6,w1 (by omega)]
   rcases (So (e:=e) hl (k:=j+1) (by omega)).expr with ⟨v,j2,h7,h8,h0,h9,h10⟩ | ⟨v,j2,h8,h9,h10⟩
   ·have r1:decide ((az.length+1) * 57≤140737488355328)=true:=decide_eq_true (by unfold BB at hB; omega)
    rw [h9,h10,ob,ob]
    simp only [r1,if_true,Bool.not_true,Bool.false_eq_true,if_false]
    refine (B1f p nm x1 x4 h1 h4 n j2 (az++[v]) (by omega) h8 (by rw [List.length_append]; simp only [List.length_singleton]; omega)).mono (by omega) fun v' j' h11 h12=>?_
    unfold BE at h0
    rw [F14 hl] at h12
    omega
   ·rw [h9,h10,ob,ob]
    simp only [Bool.not_false,if_true,ob]
    rw [Wd hl]
    exact .pn _ j2 h8
  | false=>
   simp only [D3,Bool.false_eq_true,if_false]
   rw [P3 l e hB]
   cases hd:isT l j [41] with
   | true=>
    have h5:=J1 hd
    simp only [if_true,ob]
    rw [w1 (by omega),h1,h4]
    refine O10 hl (by omega) (by omega) ?_ (fun _=>rfl) (fun _=>rfl)
    rw [Uo hl]
    simp only [E0.bulks,Wc,List.length_nil]
    omega
   | false=>
    simp only [Bool.false_eq_true,if_false,ob]
    rw [F2 l hB,ob,hc]
    simp only [Bool.not_false,if_true,ob]
    rw [Wd hl]
    exact .pn _ j hj
theorem A1h {k:Nat}(hk:k≤l.length):J l e (k+1) (BS k) (P8 (mk l k e)) (Bc l k>>=Ix l):=by
 have hB:=hl.1
 have IH:∀ j,k < j→j≤l.length→PE l e j:=fun j _ h=>So hl h
 unfold P8 Bc
 rcases W1a hl hk IH with ⟨v,j,h1,h2,h0,h3,h4⟩ | ⟨v,j,h2,h3,h4⟩
 case inr=>
  rw [h3,h4,ob,ob]
  simp only [Bool.not_false,Bool.not_true,Bool.false_eq_true,if_false,ob,cond_true,if_true]
  rw [Wd hl]
  exact .pn _ j h2
 unfold BE at h0
 rw [h3,h4,ob,ob]
 simp only [Bool.not_true,Bool.not_false,if_true,cond_false]
 rw [P3 l e hB,F2 l hB,ob]
 cases h5:isT l j [61] with
 | false=>
  simp only [Bool.false_eq_true,if_false,Bool.not_false,if_true,ob]
  rw [Wd hl]
  exact .pn _ j h2
 | true=>
  have h6:=J1 h5
  simp only [if_true,ob,Bool.not_true,Bool.false_eq_true,if_false]
  rw [N2 l e hB,ob,w1 (by omega),F2 l hB,ob]
  cases h7:isT l (j+1) [99,97,108,108] with
  | true=>
   have h8:=J1 h7
   have h9:isT l (j+1) [114,101,108,101,97,115,101]=false:=by
    cases h:isT l (j+1) [114,101,108,101,97,115,101] with
    | false=>rfl
    | true=>have:=(Ja h7).2.2.symm.trans (Ja h).2.2; simp at this
   simp only [h9,X3,if_true,Bool.false_eq_true,if_false]
   rw [F2 l hB,ob,h7,if_pos rfl,w1 (by omega),Tj l e hB,Gd l hB]
   cases h10:N4 l (j+1+1) 0 with
   | false=>
    simp only [Bool.false_eq_true,if_false,ob,Bool.not_false,if_true]
    rw [Wd hl]
    exact .pn _ (j+1+1) (by omega)
   | true=>
    have h11:=Pf h10
    have ht:=Gh hl (j+1+1)
    simp only [if_true,ob,Bool.not_true,Bool.false_eq_true,if_false]
    unfold Jf
    rw [P3 l e hB,F2 l hB,ob]
    cases h12:isT l (j+1+1+1) [40] with
    | false=>
     simp only [Bool.false_eq_true,if_false,ob,Bool.not_false,if_true]
     rw [Wd hl]
     exact .pn _ (j+1+1+1) (by omega)
    | true=>
     have h13:=J1 h12
     simp only [if_true,ob,Bool.not_true,Bool.false_eq_true,if_false]
     rw [Z1j l e hB,ob,w1 (by omega),F2 l hB,ob]
     cases h14:isT l (j+1+1+1+1) [41] with
     | true=>
      have h15:=J1 h14
      simp only [Bool.not_true,Bool.false_eq_true,if_false,if_true,ob]
      rw [P3 l e hB,h14,if_pos rfl,ob,wr (n:=((j+1+1+1:Nat):Int)+2) (by omega) (by unfold BB at hB; omega),show ((j+1+1+1:Nat):Int)+2=((j+1+1+1+1+1:Nat):Int) by omega]
      refine O10 hl (s:=E0.mk 1 v zE (txt l (j+1+1)) [] 0 0 0 [] [] []) (by omega) (by omega) ?_ (fun _=>rfl) (fun _=>rfl)
      unfold BS
      rw [Uo hl]
      simp only [E0.bulks,A0.bulks,Wc,List.length_nil]
      omega
     | false=>
      simp only [Bool.not_false,if_true,Bool.false_eq_true,if_false]
      rw [F6,w1 (by omega)]
      rcases (So (e:=e) hl (k:=j+1+1+1+1) (by omega)).expr with ⟨v2,j2,k1,k2,k0,k3,k4⟩ | ⟨v2,j2,k2,k3,k4⟩
      ·rw [k3,k4,ob,ob]
       have r1:decide ((0+1) * 57≤140737488355328)=true:=by decide
       simp only [r1,if_true,Bool.not_true,Bool.false_eq_true,if_false,List.length_nil,List.nil_append]
       unfold L9
       rw [ba]
       refine (B1f hl v (txt l (j+1+1)) (v,mk l j e) (txt l (j+1+1),mk l (j+1+1+1) e) rfl rfl (l.length - j2+1) j2 [v2] (by omega) k2 (by simp only [List.length_singleton]; omega)).mono (by omega) fun v' j' m1 m2=>?_
       unfold BS
       unfold BE at k0
       simp only [A0.bulks] at m2
       omega
      ·rw [k3,k4,ob,ob]
       simp only [Bool.not_false,if_true,ob]
       rw [Wd hl]
       exact .pn _ j2 k2
  | false=>
   simp only [D3,Bool.false_eq_true,if_false]
   rw [N2 l e hB,ob]
   cases h8:isT l (j+1) [114,101,108,101,97,115,101] with
   | true=>
    have h9:=J1 h8
    simp only [X3,if_true]
    rw [w1 (by omega),Tj l e hB,Gd l hB]
    cases h10:N4 l (j+1+1) 0 with
    | false=>
     simp only [Bool.false_eq_true,if_false,ob]
     rw [Wd hl]
     exact .pn _ (j+1+1) (by omega)
    | true=>
     have h11:=Pf h10
     have ht:=Gh hl (j+1+1)
     simp only [if_true,ob]
     refine O10 hl (s:=E0.mk 2 v zE (txt l (j+1+1)) [] 0 0 0 [] [] []) (by omega) (by omega) ?_ (fun _=>rfl) (fun _=>rfl)
     unfold BS
     rw [Uo hl]
     simp only [E0.bulks,A0.bulks,Wc,List.length_nil]
     omega
   | false=>
    simp only [D3,Bool.false_eq_true,if_false]
    rw [F2 l hB,ob,h7]
    simp only [Bool.false_eq_true,if_false]
    rcases (So (e:=e) hl (k:=j+1) (by omega)).expr with ⟨v2,j2,k1,k2,k0,k3,k4⟩ | ⟨v2,j2,k2,k3,k4⟩
    ·rw [k3,k4,ob,ob]
     simp only [ob]
     refine O10 hl (s:=E0.mk 0 v v2 [] [] 0 0 0 [] [] []) k2 (by omega) ?_ (fun _=>rfl) (fun _=>rfl)
     unfold BS
     unfold BE at k0
     rw [Uo hl]
     simp only [E0.bulks,A0.bulks,List.length_nil]
     omega
    ·rw [k3,k4,ob,ob]
     simp only [ob]
     rw [Wd hl]
     exact .pn _ j2 k2
end
end Go.Proofs.YtmnhfbekncjnfaaGreatDoor

namespace Go.Proofs.YtmnhfbekncjnfaaGreatDoor
open Go.Am
def U1h:Pn (E0×B0)→Pn (E0×Bool×B0)
 | .ok x=>.ok (x.1,true,x.2)
 | .pn n=>.pn n
section
set_option linter.unusedSectionVars false
variable {l:List K0}{e:Int}(hl:Yf l)
include hl
theorem O1k (a:Int)(ns:List Int):(E0.mk a zE zE [] [] 0 0 0 ns [] []).bulk=ns.length+20:=by
 rw [E0.bulk_eq]
 simp only [Wc,A0.bulks,E0.bulks,List.length_nil]
 have:(ns.map fun _=>1).sum=ns.length:=by induction ns with
  | nil=>rfl
  | cons x r ih=>simp only [List.map_cons,List.sum_cons,List.length_cons,ih]; omega
 omega
theorem E12 (k:Nat):Fe l k=some (N4 l k 0||((isT l k [111,117,116,112,117,116]||(isT l k [119,97,105,116]||(isT l k [105,102]||(isT l k [119,104,105,108,101]||(isT l k [102,111,114]||(isT l k [115,101,116,116,108,101])))))))):=by
 have hB:=hl.1
 unfold Fe
 rw [Gd l hB]
 cases N4 l k 0 with
 | true=>rfl
 | false=>
  simp only [Bool.false_eq_true,if_false,ob,Bool.not_false,if_true,F2 l hB,cond_false]
  generalize isT l k [111,117,116,112,117,116]=b0
  generalize isT l k [119,97,105,116]=b1
  generalize isT l k [105,102]=b2
  generalize isT l k [119,104,105,108,101]=b3
  generalize isT l k [102,111,114]=b4
  generalize isT l k [115,101,116,116,108,101]=b5
  cases b0 with
  | true=>rfl
  | false=>
  simp only [Bool.not_false,Bool.false_eq_true,if_true,if_false,ob,cond_false,Bool.false_or]
  cases b1 with
  | true=>rfl
  | false=>
  simp only [Bool.not_false,Bool.false_eq_true,if_true,if_false,ob,cond_false,Bool.false_or]
  cases b2 with
  | true=>rfl
  | false=>
  simp only [Bool.not_false,Bool.false_eq_true,if_true,if_false,ob,cond_false,Bool.false_or]
  cases b3 with
  | true=>rfl
  | false=>
  simp only [Bool.not_false,Bool.false_eq_true,if_true,if_false,ob,cond_false,Bool.false_or]
  cases b4 with
  | true=>rfl
  | false=>
  simp only [Bool.not_false,Bool.false_eq_true,if_true,if_false,ob,cond_false,Bool.false_or]
theorem C1f:∀ (n j:Nat) (ns:List Int),l.length - j < n→j≤l.length→ns.length≤j→
  ∃ p:Option (Pn (E0×B0)),W4 (mk l j e) ns=p.map U1h∧
  J l e j (fun v j'=>v.bulk≤ns.length+20+9000 * (j' - j)) p
   ((T0 l j [44]>>=fun x2=>if (!x2)=true then some (ns,(j:Int),true) else P6 l (IntKind.i64.wrap ((j:Int)+1)) ns)>>=fun x13=>
     Ix l (E0.mk 8 zE zE [] [] 0 0 0 x13.1 [] [],x13.2.1,x13.2.2))
 | 0,j,ns,h,_,_=>absurd h (Nat.not_lt_zero _)
 | n+1,j,ns,h,hj,ha=>by
  have hB:=hl.1
  rw [W4,N2 l e hB,ob,F2 l hB,ob]
  cases hc:isT l j [44] with
  | true=>
   have h5:=J1 hc
   simp only [X3,if_true,Bool.not_true,Bool.false_eq_true,if_false]
   rw [w1 (by omega),P6]
   rcases To hl (e:=e) (k:=j+1) (by omega) with ⟨v,j2,h7,h8,_,h9,h10⟩ | ⟨v,j2,h8,h9,h10⟩
   ·have r1:decide ((ns.length+1) * 9≤140737488355328)=true:=decide_eq_true (by unfold BB at hB; omega)
    rw [h9,h10,ob,ob]
    simp only [r1,if_true,Bool.not_true,Bool.false_eq_true,if_false]
    obtain ⟨p,e1,e2⟩:=C1f n j2 (ns++[v]) (by omega) h8 (by rw [List.length_append]; simp only [List.length_singleton]; omega)
    refine ⟨p,e1,e2.mono (by omega) fun v' j' h11 h12=>?_⟩
    rw [List.length_append] at h12
    simp only [List.length_singleton] at h12
    omega
   ·rw [h9,h10,ob,ob]
    simp only [Bool.not_false,if_true,ob]
    rw [Wd hl]
    exact ⟨some (.pn (off l e j2)),rfl,.pn _ j2 h8⟩
  | false=>
   simp only [D3,Bool.false_eq_true,if_false,Bool.not_false,if_true,ob]
   rw [P3 l e hB,D12 hl _ j hj]
   cases h:isT l j [59] with
   | false=>exact ⟨some (.pn (off l e j)),rfl,.pn _ j hj⟩
   | true=>
    have:=J1 h
    refine ⟨some (.ok (E0.mk 8 zE zE [] [] 0 0 0 ns [] [],mk l (j+1) e)),rfl,.ok _ (j+1) (by omega) (by omega) ?_⟩
    rw [O1k hl]
    omega
end
end Go.Proofs.YtmnhfbekncjnfaaGreatDoor

namespace Go.Proofs.YtmnhfbekncjnfaaGreatDoor
open Go.Am
def JB {α:Type}(l:List K0)(e:Int)(lo:Nat)(P:α→Nat→Prop)(p:Option (Pn (α×Bool×B0)))(r:Option (α×Int×Bool)):Prop:=
 (∃ v j,lo≤j∧j≤l.length∧P v j∧p=some (.ok (v,true,mk l j e))∧r=some (v,((j:Nat):Int),true))∨
 (∃ v j,j≤l.length∧p=some (.pn (off l e j))∧r=some (v,((j:Nat):Int),false))
section
variable {l:List K0}{e:Int}{α β:Type}
theorem JB.ok {lo:Nat}{P:α→Nat→Prop}(v:α)(j:Nat)(h1:lo≤j)(h2:j≤l.length)(hP:P v j):JB l e lo P (some (.ok (v,true,mk l j e))) (some (v,((j:Nat):Int),true)):=.inl ⟨v,j,h1,h2,hP,rfl,rfl⟩
theorem JB.pn {lo:Nat}{P:α→Nat→Prop}(v:α)(j:Nat)(h2:j≤l.length):JB l e lo P (some (.pn (off l e j))) (some (v,((j:Nat):Int),false)):=.inr ⟨v,j,h2,rfl,rfl⟩
theorem JB.bind {lo lo':Nat}{P:α→Nat→Prop}{Q:β→Nat→Prop}{p:Option (Pn (α×B0))}{r:Option (α×Int×Bool)}(h:J l e lo P p r){F:Pn (α×B0)→Option (Pn (β×Bool×B0))}{g:α×Int×Bool→Option (β×Int×Bool)}(hF:∀ n,F (.pn n)=some (.pn n))
  (hg:∀ v (j:Nat),j≤l.length→∃ v',g (v,(j:Int),false)=some (v',(j:Int),false)) (hf:∀ v (j:Nat),lo≤j→j≤l.length→P v j→JB l e lo' Q (F (.ok (v,mk l j e))) (g (v,(j:Int),true))) :
  JB l e lo' Q (p>>=F) (r>>=g):=by
 rcases h with ⟨v,j,h1,h2,h0,rfl,rfl⟩ | ⟨v,j,h2,rfl,rfl⟩
 ·exact hf v j h1 h2 h0
 ·obtain ⟨v',hv⟩:=hg v j h2
  rw [ob,ob,hv,hF]
  exact .pn v' j h2
theorem JB.rsame {lo:Nat}{P:α→Nat→Prop}{p:Option (Pn (α×Bool×B0))}{r:Option (α×Int×Bool)}(h:JB l e lo P p r):JB l e lo P p (r>>=fun x=>some (x.1,x.2.1,x.2.2)):=by
 rcases h with ⟨v,j,h1,h2,h0,rfl,rfl⟩ | ⟨v,j,h2,rfl,rfl⟩
 ·exact .ok v j h1 h2 h0
 ·exact .pn v j h2
theorem JB.lift {lo:Nat}{P:α→Nat→Prop}{p:Option (Pn (α×B0))}{r:Option (α×Int×Bool)}(h:J l e lo P p r){F:Pn (α×B0)→Option (Pn (α×Bool×B0))}(hF:∀ n,F (.pn n)=some (.pn n))(hF2:∀ x,F (.ok x)=some (.ok (x.1,true,x.2))):JB l e lo P (p>>=F) r:=by
 rcases h with ⟨v,j,h1,h2,h0,rfl,rfl⟩ | ⟨v,j,h2,rfl,rfl⟩
 ·rw [ob,hF2]; exact .ok v j h1 h2 h0
 ·rw [ob,hF]; exact .pn v j h2
end
theorem JB.ofMap {l:List K0}{e:Int}{lo:Nat}{P:E0→Nat→Prop}{p:Option (Pn (E0×B0))}{r:Option (E0×Int×Bool)}(h:J l e lo P p r):JB l e lo P (p.map U1h) r:=by
 rcases h with ⟨v,j,h1,h2,h0,rfl,rfl⟩ | ⟨v,j,h2,rfl,rfl⟩
 ·exact .ok v j h1 h2 h0
 ·exact .pn v j h2
def beg (l:List K0)(k:Nat):Bool:=N4 l k 0||((isT l k [111,117,116,112,117,116]||(isT l k [119,97,105,116]||(isT l k [105,102]||(isT l k [119,104,105,108,101]||(isT l k [102,111,114]||(isT l k [115,101,116,116,108,101])))))))
abbrev zS:E0:=E0.mk 0 zE zE [] [] 0 0 0 [] [] []
def BL (out:List E0)(k:Nat)(v:List E0)(j:Nat):Prop:=E0.bulks v≤E0.bulks out+9000 * (j - k)
def BK (k:Nat)(v:List E0)(j:Nat):Prop:=E0.bulks v≤9000 * (j - k)
structure PS (l:List K0)(e:Int)(k:Nat):Prop where
 sts:∀ out,out.length≤k→J l e k (BL out k) (S5 (mk l k e) out) (L6 l k out)
 blk:J l e (k+1) (BK k) (J6 (mk l k e)) (Ab l k)
theorem G14:∀ (os:List E0) (t:E0),E0.bulks (os++[t])=E0.bulks os+t.bulk
 | [],t=>by simp only [List.nil_append,E0.bulks]; omega
 | x::r,t=>by simp only [List.cons_append,E0.bulks,G14 r t]; omega
section
set_option linter.unusedSectionVars false
variable {l:List K0}{e:Int}(hl:Yf l)
include hl
theorem X1a {lo j:Nat}{s:E0}(hj:j≤l.length)(hk:lo≤j+1){P:E0→Nat→Prop}(hP:P s (j+1)){F:Pn B0→Option (Pn (E0×Bool×B0))}(hF:∀ n,F (.pn n)=some (.pn n))(hF2:∀ x,F (.ok x)=some (.ok (s,true,x))) :
  JB l e lo P (R0 [59] (mk l j e)>>=F) (Ix l (s,(j:Int),true)):=by
 rw [P3 l e hl.1,D12 hl s j hj]
 cases h:isT l j [59] with
 | false=>simp only [Bool.false_eq_true,if_false,ob,hF]; exact .pn _ j hj
 | true=>
  have:=J1 h
  simp only [if_true,ob,hF2]
  exact .ok _ (j+1) hk (by omega) hP
section
variable {k:Nat}(hk:k≤l.length)(IH:∀ j,k < j→j≤l.length→PS l e j)
include hk IH
theorem K1l (hb:beg l k=false):C7 (mk l k e)=some (.ok (zS,false,mk l k e)):=by
 have hB:=hl.1
 unfold beg at hb
 simp only [Bool.or_eq_false_iff] at hb
 obtain ⟨h0,h1,h2,h3,h4,h5,h6⟩:=hb
 rw [C7]
 simp only [Bx l e hB,N2 l e hB,h0,h1,h2,h3,h4,h5,h6,D3,ob,Bool.false_eq_true,if_false]
theorem X1l (hb:beg l k=true):JB l e (k+1) (BS k) (C7 (mk l k e)) (Uc l k):=by
 have hB:=hl.1
 rw [C7,Uc,Bx l e hB,ob]
 cases h0:N4 l k 0 with
 | true=>
  have hf:=Y1j h0
  simp only [if_true,F2 l hB,ob,hf,Bool.false_eq_true,if_false]
  refine JB.lift (A1h hl hk) ?_ ?_
  ·exact fun _=>rfl
  ·exact fun _=>rfl
 | false=>
 simp only [Bool.false_eq_true,if_false]
 rw [N2 l e hB,ob]
 cases h1:isT l k [111,117,116,112,117,116] with
 | true=>
  have hlt:=J1 h1
  simp only [X3,if_true,F2 l hB,ob,h1,Wi h1 (t':=[105,102]) rfl,Wi h1 (t':=[119,104,105,108,101]) rfl,Wi h1 (t':=[102,111,114]) rfl,Bool.false_eq_true,if_false]
  rw [w1 (by omega)]
  refine JB.bind (So (e:=e) hl (k:=k+1) (by omega)).expr ?_ ?_ ?_
  ·exact fun _=>rfl
  ·exact fun v j _=>⟨_,Wd hl (E0.mk 3 zE v [] [] 0 0 0 [] [] []) j⟩
  intro v j h2 h3 h4
  refine X1a hl (s:=E0.mk 3 zE v [] [] 0 0 0 [] [] []) h3 (by omega) ?_ (fun _=>rfl) (fun _=>rfl)
  unfold BS
  unfold BE at h4
  rw [Uo hl]
  simp only [E0.bulks,A0.bulks,Wc,List.length_nil]
  omega
 | false=>
 simp only [D3,Bool.false_eq_true,if_false]
 rw [N2 l e hB,ob]
 cases h2:isT l k [119,97,105,116] with
 | true=>
  have hlt:=J1 h2
  simp only [X3,if_true,F2 l hB,ob,h2,h1,Wi h2 (t':=[105,102]) rfl,Wi h2 (t':=[119,104,105,108,101]) rfl,Wi h2 (t':=[102,111,114]) rfl,Bool.false_eq_true,if_false]
  rw [w1 (by omega)]
  refine JB.bind (To (e:=e) hl (k:=k+1) (by omega)) ?_ ?_ ?_
  ·exact fun _=>rfl
  ·exact fun v j _=>⟨_,Wd hl (E0.mk 4 zE zE [] [] v 0 0 [] [] []) j⟩
  intro v j h3 h4 _
  refine X1a hl (s:=E0.mk 4 zE zE [] [] v 0 0 [] [] []) h4 (by omega) ?_ (fun _=>rfl) (fun _=>rfl)
  unfold BS
  rw [Uo hl]
  simp only [E0.bulks,A0.bulks,Wc,List.length_nil]
  omega
 | false=>
 simp only [D3,Bool.false_eq_true,if_false]
 rw [N2 l e hB,ob]
 cases h3:isT l k [115,101,116,116,108,101] with
 | true=>
  have hlt:=J1 h3
  simp only [X3,if_true,F2 l hB,ob,h3,h2,h1,Wi h3 (t':=[105,102]) rfl,Wi h3 (t':=[119,104,105,108,101]) rfl,Wi h3 (t':=[102,111,114]) rfl,Bool.false_eq_true,if_false]
  rw [w1 (by omega),Wg,P6]
  rcases To hl (e:=e) (k:=k+1) (by omega) with ⟨v,j,h7,h8,_,h9,h10⟩ | ⟨v,j,h8,h9,h10⟩
  ·have r1:decide ((0+1) * 9≤140737488355328)=true:=by decide
   rw [h9,h10,ob,ob]
   simp only [r1,if_true,Bool.not_true,Bool.false_eq_true,if_false,List.length_nil,List.nil_append]
   obtain ⟨p,e1,e2⟩:=C1f (e:=e) hl (l.length - j+1) j [v] (by omega) h8 (by simp only [List.length_singleton]; omega)
   rw [e1]
   refine JB.ofMap (e2.mono (by omega) fun v' j' h11 h12=>?_)
   unfold BS
   simp only [List.length_singleton] at h12
   omega
  ·rw [h9,h10,ob,ob]
   simp only [Bool.not_false,if_true,ob]
   exact (show JB l e (k+1) (BS k) (some (.pn (off l e j))) (Ix l (E0.mk 8 zE zE [] [] 0 0 0 [] [] [],(j:Int),false)) from by rw [Wd hl]; exact .pn _ j h8)
 | false=>
 simp only [D3,Bool.false_eq_true,if_false]
 rw [N2 l e hB,ob]
 cases h4:isT l k [105,102] with
 | true=>
  have hlt:=J1 h4
  simp only [X3,if_true,F2 l hB,ob,h4]
  rw [w1 (by omega)]
  refine JB.rsame ?_
  rw [Ad]
  refine JB.bind (So (e:=e) hl (k:=k+1) (by omega)).expr ?_ ?_ ?_
  ·exact fun _=>rfl
  ·exact fun v j _=>⟨_,rfl⟩
  intro v j h5 h6 h7
  simp only [Bool.not_true,Bool.false_eq_true,if_false]
  refine JB.bind (IH j (by omega) h6).blk ?_ ?_ ?_
  ·exact fun _=>rfl
  ·exact fun v j _=>⟨_,rfl⟩
  intro v2 j2 h8 h9 h10
  simp only [Bool.not_true,Bool.false_eq_true,if_false]
  rw [N2 l e hB,ob,F2 l hB,ob]
  unfold BE at h7
  unfold BK at h10
  cases h11:isT l j2 [101,108,115,101] with
  | true=>
   have h12:=J1 h11
   simp only [X3,if_true]
   rw [w1 (by omega)]
   refine JB.bind (IH (j2+1) (by omega) (by omega)).blk ?_ ?_ ?_
   ·exact fun _=>rfl
   ·exact fun v j _=>⟨_,rfl⟩
   intro v3 j3 h13 h14 h15
   refine .ok _ j3 (by omega) h14 ?_
   unfold BS
   unfold BK at h15
   rw [Uo hl]
   simp only [A0.bulks,Wc,List.length_nil]
   omega
  | false=>
   simp only [D3,Bool.false_eq_true,if_false]
   refine .ok _ j2 (by omega) h9 ?_
   unfold BS
   rw [Uo hl]
   simp only [A0.bulks,E0.bulks,Wc,List.length_nil]
   omega
 | false=>
 simp only [D3,Bool.false_eq_true,if_false]
 rw [N2 l e hB,ob]
 cases h5:isT l k [119,104,105,108,101] with
 | true=>
  have hlt:=J1 h5
  simp only [X3,if_true,F2 l hB,ob,h4,h5,Bool.false_eq_true,if_false]
  rw [w1 (by omega)]
  refine JB.rsame ?_
  rw [Xk]
  refine JB.bind (So (e:=e) hl (k:=k+1) (by omega)).expr ?_ ?_ ?_
  ·exact fun _=>rfl
  ·exact fun v j _=>⟨_,rfl⟩
  intro v j h6 h7 h8
  simp only [Bool.not_true,Bool.not_false,if_true,cond_false]
  rw [P3 l e hB,F2 l hB,ob]
  cases h9:isT l j [108,105,109,105,116] with
  | false=>exact .pn _ j h7
  | true=>
   have h10:=J1 h9
   simp only [if_true,ob,Bool.not_true,Bool.false_eq_true,if_false]
   rw [w1 (by omega)]
   refine JB.bind (To (e:=e) hl (k:=j+1) (by omega)) ?_ ?_ ?_
   ·exact fun _=>rfl
   ·exact fun v j _=>⟨_,rfl⟩
   intro v2 j2 h11 h12 _
   simp only [Bool.not_true,Bool.false_eq_true,if_false]
   refine JB.bind (IH j2 (by omega) h12).blk ?_ ?_ ?_
   ·exact fun _=>rfl
   ·exact fun v j _=>⟨_,rfl⟩
   intro v3 j3 h13 h14 h15
   refine .ok _ j3 (by omega) h14 ?_
   unfold BS
   unfold BE at h8
   unfold BK at h15
   rw [Uo hl]
   simp only [A0.bulks,E0.bulks,Wc,List.length_nil]
   omega
 | false=>
 simp only [D3,Bool.false_eq_true,if_false]
 rw [N2 l e hB,ob]
 cases h6:isT l k [102,111,114] with
 | false=>
  unfold beg at hb
  rw [h0,h1,h2,h3,h4,h5,h6] at hb
  cases hb
 | true=>
  have hlt:=J1 h6
  simp only [X3,if_true,F2 l hB,ob,h4,h5,h6,Bool.false_eq_true,if_false]
  rw [w1 (by omega)]
  refine JB.rsame ?_
  rw [Oi,Tj l e hB,Gd l hB]
  cases h7:N4 l (k+1) 0 with
  | false=>exact .pn _ (k+1) (by omega)
  | true=>
   have h8:=Pf h7
   have ht:=Gh hl (k+1)
   simp only [if_true,ob,Bool.not_true,Bool.not_false,cond_false]
   rw [P3 l e hB,F2 l hB,ob]
   cases h9:isT l (k+1+1) [61] with
   | false=>exact .pn _ (k+1+1) (by omega)
   | true=>
    have h10:=J1 h9
    simp only [if_true,ob,Bool.not_true,Bool.false_eq_true,if_false]
    rw [w1 (by omega)]
    refine JB.bind (To (e:=e) hl (k:=k+1+1+1) (by omega)) ?_ ?_ ?_
    ·exact fun _=>rfl
    ·exact fun v j _=>⟨_,rfl⟩
    intro v j h11 h12 _
    simp only [Bool.not_true,Bool.not_false,if_true,cond_false]
    rw [P3 l e hB,F2 l hB,ob]
    cases h13:isT l j [116,111] with
    | false=>exact .pn _ j h12
    | true=>
     have h14:=J1 h13
     simp only [if_true,ob,Bool.not_true,Bool.false_eq_true,if_false]
     rw [w1 (by omega)]
     refine JB.bind (To (e:=e) hl (k:=j+1) (by omega)) ?_ ?_ ?_
     ·exact fun _=>rfl
     ·exact fun v j _=>⟨_,rfl⟩
     intro v2 j2 h15 h16 _
     simp only [Bool.not_true,Bool.false_eq_true,if_false]
     refine JB.bind (IH j2 (by omega) h16).blk ?_ ?_ ?_
     ·exact fun _=>rfl
     ·exact fun v j _=>⟨_,rfl⟩
     intro v3 j3 h17 h18 h19
     refine .ok _ j3 (by omega) h18 ?_
     unfold BS
     unfold BK at h19
     rw [Uo hl]
     simp only [A0.bulks,E0.bulks,Wc,List.length_nil]
     omega
theorem L1l (out:List E0)(ho:out.length≤k):J l e k (BL out k) (S5 (mk l k e) out) (L6 l k out):=by
 have hB:=hl.1
 rw [S5,L6,E12 hl k,ob]
 cases hb:beg l k with
 | false=>
  rw [K1l hl hk IH hb,ob]
  unfold beg at hb
  rw [hb]
  simp only [Bool.not_false,if_true,Bool.false_eq_true,if_false]
  exact .ok _ k (Nat.le_refl _) hk (by unfold BL; omega)
 | true=>
  have hb':=hb
  unfold beg at hb'
  rw [hb',if_pos rfl]
  rcases X1l hl hk IH hb with ⟨v,j,h1,h2,h3,h4,h5⟩ | ⟨v,j,h2,h4,h5⟩
  ·have r1:decide ((out.length+1) * 257≤140737488355328)=true:=decide_eq_true (by unfold BB at hB; omega)
   rw [h4,h5,ob,ob]
   simp only [r1,if_true,Bool.not_true,Bool.false_eq_true,if_false]
   refine ((IH j (by omega) h2).sts (out++[v]) (by rw [List.length_append]; simp only [List.length_singleton]; omega)).mono (by omega) fun v' j' h6 h7=>?_
   unfold BL at h7 ⊢
   unfold BS at h3
   rw [G14] at h7
   omega
  ·rw [h4,h5,ob,ob]
   simp only [Bool.not_false,if_true]
   exact .pn _ j h2
theorem M1l:J l e (k+1) (BK k) (J6 (mk l k e)) (Ab l k):=by
 have hB:=hl.1
 rw [J6,Ab,P3 l e hB,F2 l hB,ob]
 cases h1:isT l k [123] with
 | false=>exact .pn _ k hk
 | true=>
  have h2:=J1 h1
  simp only [if_true,ob,Bool.not_true,Bool.false_eq_true,if_false]
  rw [w1 (by omega),W3,X4]
  refine J.bind ((IH (k+1) (by omega) (by omega)).sts [] (Nat.zero_le _)) ?_ ?_ ?_
  ·exact fun _=>rfl
  ·exact fun v j _=>⟨_,rfl⟩
  intro v j h3 h4 h5
  simp only [Bool.not_true,Bool.not_false,if_true,cond_false]
  rw [P3 l e hB,F2 l hB,ob]
  cases h6:isT l j [125] with
  | false=>exact .pn _ j h4
  | true=>
   have h7:=J1 h6
   simp only [if_true,ob,Bool.not_true,Bool.false_eq_true,if_false]
   rw [w1 (by omega)]
   refine .ok _ (j+1) (by omega) (by omega) ?_
   unfold BK
   unfold BL at h5
   simp only [E0.bulks] at h5
   omega
end
theorem D1f:∀ (n k:Nat),l.length - k < n→k≤l.length→PS l e k
 | 0,k,h,_=>absurd h (Nat.not_lt_zero _)
 | n+1,k,h,hk=>by
  have IH:∀ j,k < j→j≤l.length→PS l e j:=fun j h1 h2=>D1f n j (by omega) h2
  exact ⟨L1l hl hk IH,M1l hl hk IH⟩
theorem N1l {k:Nat}(hk:k≤l.length):PS l e k:=D1f hl _ k (Nat.lt_succ_self _) hk
theorem Y1a {k:Nat}(hk:k≤l.length):J l e k (BK k) (W3 (mk l k e)) (X4 l k):=by
 rw [W3,X4]
 refine ((N1l hl hk).sts [] (Nat.zero_le _)).mono (Nat.le_refl _) fun v j _ h=>?_
 unfold BK
 unfold BL at h
 simp only [E0.bulks] at h
 omega
end
end Go.Proofs.YtmnhfbekncjnfaaGreatDoor

namespace Go.Proofs.YtmnhfbekncjnfaaGreatDoor
open Go.Am
abbrev zT:J0:=J0.mk 0 0 0 0 [] [] []
abbrev zD:D0:=D0.mk 0 [] zT 0 zE [] [] []
def BD (k:Nat)(v:D0)(j:Nat):Prop:=v.bulk≤9000 * (j - k)
theorem S1c (a:Int)(n:Str)(t:J0)(i:Int)(v:A0)(ps vs:List D0)(b:List E0):(D0.mk a n t i v ps vs b).bulk=n.length+t.bulk+v.bulk+D0.bulks ps+D0.bulks vs+E0.bulks b+7:=by
 simp only [D0.bulk]; omega
theorem Dr:∀ (os:List D0) (t:D0),D0.bulks (os++[t])=D0.bulks os+t.bulk
 | [],t=>by simp only [List.nil_append,D0.bulks]; omega
 | x::r,t=>by simp only [List.cons_append,D0.bulks,Dr r t]; omega
theorem W1i {l:List K0}{k:Nat}{t:Str}(h:isT l k t=true):∃ x,l[k]?=some x∧x.Text=t:=by
 unfold isT at h
 split at h
 ·rename_i x hx
  rw [Bool.and_eq_true] at h
  exact ⟨x,hx,eq_of_beq h.1⟩
 ·cases h
section
set_option linter.unusedSectionVars false
variable {l:List K0}{e:Int}(hl:Yf l)
include hl
theorem X1i (kd:Int){k:Nat}(hk:k≤l.length) :
  (∃ n t j,k+3≤j∧j≤l.length∧n.length+t.bulk+9000≤9000 * (j - k)∧U2 kd (mk l k e)=some (.ok (Ze kd n t 0,mk l j e))∧J5 l k=some (Ze 4 n t 0,((j:Nat):Int),true))∨
  (∃ v j,j≤l.length∧U2 kd (mk l k e)=some (.pn (off l e j))∧J5 l k=some (v,((j:Nat):Int),false)):=by
 have hB:=hl.1
 unfold U2
 rw [J5,Tj l e hB,Gd l hB]
 cases h1:N4 l k 0 with
 | false=>exact .inr ⟨_,k,hk,rfl,rfl⟩
 | true=>
  have h2:=Pf h1
  have ht:=Gh hl k
  simp only [if_true,ob,Bool.not_true,Bool.not_false,cond_false]
  rw [P3 l e hB,F2 l hB,ob]
  cases h3:isT l (k+1) [58] with
  | false=>exact .inr ⟨_,k+1,by omega,rfl,rfl⟩
  | true=>
   have h4:=J1 h3
   simp only [if_true,ob,Bool.not_true,Bool.false_eq_true,if_false]
   rw [w1 (by omega)]
   rcases (E17 hl (e:=e) (k:=k+1+1) (by omega)).typ with ⟨v,j,h5,h6,h0,h7,h8⟩ | ⟨v,j,h6,h7,h8⟩
   ·unfold BT at h0
    rw [h7,h8,ob,ob]
    exact .inl ⟨_,v,j,by omega,h6,by omega,rfl,rfl⟩
   ·rw [h7,h8,ob,ob]
    exact .inr ⟨_,j,h6,rfl,rfl⟩
theorem P10 {k j:Nat}{kd:Int}{n:Str}{t:J0}{v:A0}{x:D0×Int×Bool}(hx:x.1=Ze 4 n t 0)(hj:j≤l.length)(hk:k≤j)(hb:n.length+t.bulk+v.bulk+8≤9000 * (j+1 - k)){F:Pn B0→Option (Pn (D0×Bool×B0))}(hF:∀ n,F (.pn n)=some (.pn n))(hF2:∀ x,F (.ok x)=some (.ok (D0.mk kd n t 0 v [] [] [],true,x))) :
  JB l e (k+1) (BD k) (R0 [59] (mk l j e)>>=F) (H5 l kd x v j):=by
 have hB:=hl.1
 unfold H5
 rw [P3 l e hB,F2 l hB,ob,hx]
 cases h:isT l j [59] with
 | false=>simp only [Bool.false_eq_true,if_false,ob,hF,Bool.not_false,if_true]; exact .pn _ j hj
 | true=>
  have:=J1 h
  simp only [if_true,ob,hF2,Bool.not_true,Bool.false_eq_true,if_false]
  rw [w1 (by omega)]
  refine .ok _ (j+1) (by omega) (by omega) ?_
  unfold BD
  rw [S1c]
  simp only [D0.bulks,E0.bulks]
  omega
theorem Jx (k:Nat)(a b:Str):Ti l k [a,b]=some (if isT l k a=true then (if isT l (k+1) b=true then (((k+1+1:Nat):Int),true) else (((k+1:Nat):Int),false)) else ((k:Int),false)):=by
 have hB:=hl.1
 unfold Ti
 rw [Vg]
 have i0:idx [a,b] 0=some a:=rfl
 have i1:idx [a,b] 1=some b:=rfl
 rw [if_pos (by simp),i0,ob,F2 l hB,ob]
 cases h:isT l k a with
 | false=>rfl
 | true=>
  have h1:=J1 h
  simp only [Bool.not_true,Bool.false_eq_true,if_false,if_true]
  rw [w1 (by omega),show IntKind.i64.wrap (0+1)=1 by decide,Vg,if_pos (by simp),i1,ob,F2 l hB,ob]
  cases h2:isT l (k+1) b with
  | false=>rfl
  | true=>
   have h3:=J1 h2
   simp only [Bool.not_true,Bool.false_eq_true,if_false,if_true]
   rw [w1 (by omega),show IntKind.i64.wrap (1+1)=2 by decide,Vg,if_neg (by simp)]
theorem E1f (nm:Str)(t:J0)(ps:List D0)(x1:Str×B0)(y1:Str×Int×Bool)(x7:J0×B0)(y5:J0×Int×Bool)(hx1:x1.1=nm)(hy1:y1.1=nm)(hx7:x7.1=t)(hy5:y5.1=t) :
  ∀ (n j:Nat) (vs:List D0),l.length - j < n→j≤l.length→vs.length≤j→
  J l e (j+1) (fun v j'=>v.bulk≤nm.length+t.bulk+D0.bulks ps+D0.bulks vs+9000 * (j' - j)) (D5 (mk l j e) x1 x7 ps vs) (Q7 l y1 y5 ps vs j)
 | 0,j,vs,h,_,_=>absurd h (Nat.not_lt_zero _)
 | n+1,j,vs,h,hj,ha=>by
  have hB:=hl.1
  rw [D5,Q7,N2 l e hB,ob,F2 l hB,ob]
  cases h1:isT l j [118,97,114] with
  | true=>
   have h2:=J1 h1
   simp only [X3,if_true]
   rw [w1 (by omega)]
   rcases E14 hl (e:=e) (k:=j+1) (by omega) with ⟨v,j2,h3,h4,⟨_,h5⟩,h6,h7⟩ | ⟨v,j2,h4,h6,h7⟩
   ·have r1:decide ((vs.length+1) * 257≤140737488355328)=true:=decide_eq_true (by unfold BB at hB; omega)
    rw [h6,h7,ob,ob]
    simp only [r1,if_true,Bool.not_true,Bool.false_eq_true,if_false]
    refine (E1f nm t ps x1 y1 x7 y5 hx1 hy1 hx7 hy5 n j2 (vs++[v]) (by omega) h4 (by rw [List.length_append]; simp only [List.length_singleton]; omega)).mono (by omega) fun v' j' h8 h9=>?_
    rw [Dr] at h9
    omega
   ·rw [h6,h7,ob,ob]
    simp only [Bool.not_false,if_true]
    exact .pn _ j2 h4
  | false=>
   simp only [D3,Bool.false_eq_true,if_false]
   refine J.bind (Y1a hl hj) ?_ ?_ ?_
   ·exact fun _=>rfl
   ·exact fun v j _=>⟨_,rfl⟩
   intro v j2 h2 h3 h4
   simp only [Bool.not_true,Bool.not_false,if_true,cond_false]
   rw [P3 l e hB,F2 l hB,ob]
   cases h5:isT l j2 [114,101,116,117,114,110] with
   | false=>exact .pn _ j2 h3
   | true=>
    have h6:=J1 h5
    simp only [if_true,ob,Bool.not_true,Bool.false_eq_true,if_false]
    rw [w1 (by omega)]
    refine J.bind (So (e:=e) hl (k:=j2+1) (by omega)).expr ?_ ?_ ?_
    ·exact fun _=>rfl
    ·exact fun v j _=>⟨_,rfl⟩
    intro v2 j3 h7 h8 h9
    simp only [Bool.not_true,Bool.false_eq_true,if_false]
    rw [P3 l e hB,Jx hl,ob]
    cases h10:isT l j3 [59] with
    | false=>exact .pn _ j3 h8
    | true=>
     have h11:=J1 h10
     simp only [if_true,ob]
     rw [P3 l e hB]
     cases h12:isT l (j3+1) [125] with
     | false=>exact .pn _ (j3+1) (by omega)
     | true=>
      have h13:=J1 h12
      simp only [if_true,ob]
      rw [hx1,hy1,hx7,hy5]
      refine .ok _ (j3+1+1) (by omega) (by omega) ?_
      unfold BK at h4
      unfold BE at h9
      rw [S1c]
      omega
theorem F1f (nm:Str)(ps:List D0)(x1:Str×B0)(y1:Str×Int×Bool)(hx1:x1.1=nm)(hy1:y1.1=nm){j:Nat}(hj:j≤l.length) :
  J l e (j+1) (fun v j'=>v.bulk≤nm.length+D0.bulks ps+9000 * (j' - j)) (E5 (mk l j e) x1 ps) (R7 l y1 ps j):=by
 have hB:=hl.1
 unfold E5 R7
 rw [P3 l e hB,Jx hl,ob]
 cases h1:isT l j [41] with
 | false=>exact .pn _ j hj
 | true=>
  have h2:=J1 h1
  simp only [if_true,ob]
  rw [P3 l e hB]
  cases h3:isT l (j+1) [58] with
  | false=>exact .pn _ (j+1) (by omega)
  | true=>
   have h4:=J1 h3
   simp only [if_true,ob,Bool.not_true,Bool.false_eq_true,if_false]
   refine J.bind (E17 (e:=e) hl (k:=j+1+1) (by omega)).typ ?_ ?_ ?_
   ·exact fun _=>rfl
   ·exact fun v j _=>⟨_,rfl⟩
   intro v j2 h5 h6 h7
   simp only [Bool.not_true,Bool.not_false,if_true,cond_false]
   rw [P3 l e hB,F2 l hB,ob]
   cases h8:isT l j2 [123] with
   | false=>exact .pn _ j2 h6
   | true=>
    have h9:=J1 h8
    simp only [if_true,ob,Bool.not_true,Bool.false_eq_true,if_false]
    rw [w1 (by omega)]
    refine (E1f hl nm v ps x1 y1 _ _ hx1 hy1 rfl rfl (l.length - (j2+1)+1) (j2+1) [] (by omega) (by omega) (Nat.zero_le _)).mono (by omega) fun v' j' h10 h11=>?_
    unfold BT at h7
    simp only [D0.bulks] at h11
    omega
theorem G1f (nm:Str)(x1:Str×B0)(y1:Str×Int×Bool)(hx1:x1.1=nm)(hy1:y1.1=nm):∀ (n j:Nat) (ps:List D0),l.length - j < n→j≤l.length→ps.length≤j→
  J l e (j+1) (fun v j'=>v.bulk≤nm.length+D0.bulks ps+9000 * (j' - j)) (F5 (mk l j e) x1 ps)
   (T0 l j [44]>>=fun x8=>if (!x8)=true then R7 l y1 ps j else W5 l y1 ps (IntKind.i64.wrap ((j:Int)+1)))
 | 0,j,ps,h,_,_=>absurd h (Nat.not_lt_zero _)
 | n+1,j,ps,h,hj,ha=>by
  have hB:=hl.1
  rw [F5,N2 l e hB,ob,F2 l hB,ob]
  cases h1:isT l j [44] with
  | false=>
   simp only [D3,Bool.false_eq_true,if_false,Bool.not_false,if_true]
   exact F1f hl nm ps x1 y1 hx1 hy1 hj
  | true=>
   have h2:=J1 h1
   simp only [X3,if_true,Bool.not_true,Bool.false_eq_true,if_false]
   rw [w1 (by omega),W5]
   rcases E15 hl (e:=e) (k:=j+1) (by omega) with ⟨v,j2,h3,h4,⟨_,h5⟩,h6,h7⟩ | ⟨v,j2,h4,h6,h7⟩
   ·have r1:decide ((ps.length+1) * 257≤140737488355328)=true:=decide_eq_true (by unfold BB at hB; omega)
    rw [h6,h7,ob,ob]
    simp only [r1,if_true,Bool.not_true,Bool.false_eq_true,if_false]
    refine (G1f nm x1 y1 hx1 hy1 n j2 (ps++[v]) (by omega) h4 (by rw [List.length_append]; simp only [List.length_singleton]; omega)).mono (by omega) fun v' j' h8 h9=>?_
    rw [Dr] at h9
    omega
   ·rw [h6,h7,ob,ob]
    simp only [Bool.not_false,if_true]
    exact .pn _ j2 h4
theorem T1c {k:Nat}(hk:k≤l.length):J l e (k+1) (BD k) (Z9 (mk l k e)) (Ud l k):=by
 have hB:=hl.1
 unfold Z9 Ud
 rw [Tj l e hB,Gd l hB]
 cases h1:N4 l k 0 with
 | false=>exact .pn _ k hk
 | true=>
  have h2:=Pf h1
  have ht:=Gh hl k
  simp only [if_true,ob,Bool.not_true,Bool.not_false,cond_false]
  rw [P3 l e hB,F2 l hB,ob]
  cases h3:isT l (k+1) [40] with
  | false=>exact .pn _ (k+1) (by omega)
  | true=>
   have h4:=J1 h3
   simp only [if_true,ob,Bool.not_true,Bool.false_eq_true,if_false]
   rw [Bx l e hB,ob,w1 (by omega),F2 l hB,ob]
   cases h5:isT l (k+1+1) [41] with
   | true=>
    rw [(Ja h5).1]
    simp only [Bool.not_true,Bool.false_eq_true,if_false]
    refine (F1f hl (txt l k) [] _ _ rfl rfl (by omega)).mono (by omega) fun v' j' h6 h7=>?_
    unfold BD
    simp only [D0.bulks] at h7
    omega
   | false=>
    simp only [Bool.not_false,if_true]
    cases h6:N4 l (k+1+1) 0 with
    | false=>
     simp only [Bool.false_eq_true,if_false]
     unfold E5
     rw [P3 l e hB,h5,W5,J5,Gd l hB,h6]
     exact .pn _ (k+1+1) (by omega)
    | true=>
     simp only [if_true]
     rw [W5]
     rcases E15 hl (e:=e) (k:=k+1+1) (by omega) with ⟨v,j2,m3,m4,⟨_,m5⟩,m6,m7⟩ | ⟨v,j2,m4,m6,m7⟩
     ·have r1:decide ((0+1) * 257≤140737488355328)=true:=by decide
      rw [m6,m7,ob,ob]
      simp only [r1,if_true,Bool.not_true,Bool.false_eq_true,if_false,List.length_nil,List.nil_append]
      unfold Xa
      refine (G1f hl (txt l k) _ _ rfl rfl (l.length - j2+1) j2 [v] (by omega) m4 (by simp only [List.length_singleton]; omega)).mono (by omega) fun v' j' h8 h9=>?_
      unfold BD
      simp only [D0.bulks] at h9
      omega
     ·rw [m6,m7,ob,ob]
      simp only [Bool.not_false,if_true]
      exact .pn _ j2 m4
def dcl (l:List K0)(k:Nat):Bool:=isT l k [116,121,112,101]||(isT l k [115,101,99,114,101,116]||(isT l k [112,117,98,108,105,99]||(isT l k [114,97,110,100,111,109]||(isT l k [118,97,114]||(isT l k [104,97,116,99,104]||isT l k [102,117,110,99])))))
theorem Kx (k:Nat):Ug l k=some (dcl l k):=by
 have hB:=hl.1
 unfold Ug dcl
 simp only [F2 l hB,ob]
 generalize isT l k [116,121,112,101]=b0
 generalize isT l k [115,101,99,114,101,116]=b1
 generalize isT l k [112,117,98,108,105,99]=b2
 generalize isT l k [114,97,110,100,111,109]=b3
 generalize isT l k [118,97,114]=b4
 generalize isT l k [104,97,116,99,104]=b5
 generalize isT l k [102,117,110,99]=b6
 cases b0 with
 | true=>rfl
 | false=>
 cases b1 with
 | true=>rfl
 | false=>
 cases b2 with
 | true=>rfl
 | false=>
 cases b3 with
 | true=>rfl
 | false=>
 cases b4 with
 | true=>rfl
 | false=>
 cases b5 with
 | true=>rfl
 | false=>rfl
theorem Y1i {k:Nat}(hb:dcl l k=false):G5 (mk l k e)=some (.ok (zD,false,mk l k e)):=by
 have hB:=hl.1
 unfold dcl at hb
 simp only [Bool.or_eq_false_iff] at hb
 obtain ⟨h1,h2,h3,h4,h5,h6,h7⟩:=hb
 unfold G5
 simp only [N2 l e hB,h1,h2,h3,h4,h5,h6,h7,D3,ob,Bool.false_eq_true,if_false]
theorem P1k {k:Nat}(hk:k≤l.length)(hb:dcl l k=true):JB l e (k+1) (BD k) (G5 (mk l k e)) (Lb l k):=by
 have hB:=hl.1
 unfold G5 Lb
 rw [N2 l e hB,ob]
 cases h1:isT l k [116,121,112,101] with
 | true=>
  have hlt:=J1 h1
  simp only [X3,if_true,F2 l hB,ob,h1,Wi h1 (t':=[118,97,114]) rfl,Wi h1 (t':=[102,117,110,99]) rfl,Bool.false_eq_true,if_false]
  rw [w1 (by omega),Tj l e hB,Gd l hB]
  cases h2:N4 l (k+1) 0 with
  | false=>exact .pn _ (k+1) (by omega)
  | true=>
   have h3:=Pf h2
   have ht:=Gh hl (k+1)
   simp only [if_true,ob,Bool.not_true,Bool.not_false,cond_false]
   rw [P3 l e hB,F2 l hB,ob]
   cases h4:isT l (k+1+1) [61] with
   | false=>exact .pn _ (k+1+1) (by omega)
   | true=>
    have h5:=J1 h4
    simp only [if_true,ob,Bool.not_true,Bool.false_eq_true,if_false]
    rw [w1 (by omega)]
    refine JB.bind (E17 (e:=e) hl (k:=k+1+1+1) (by omega)).typ ?_ ?_ ?_
    ·exact fun _=>rfl
    ·exact fun v j _=>⟨_,rfl⟩
    intro v j h6 h7 h8
    simp only [Bool.not_true,Bool.not_false,if_true,cond_false]
    rw [P3 l e hB,F2 l hB,ob]
    cases h9:isT l j [59] with
    | false=>exact .pn _ j h7
    | true=>
     have h10:=J1 h9
     simp only [if_true,ob,Bool.not_true,Bool.false_eq_true,if_false]
     rw [w1 (by omega)]
     refine .ok _ (j+1) (by omega) (by omega) ?_
     unfold BD
     unfold BT at h8
     rw [S1c]
     simp only [D0.bulks,E0.bulks,Wc,List.length_nil]
     omega
 | false=>
 simp only [D3,Bool.false_eq_true,if_false]
 have word:∀ (w:Str) (kd:Int),isT l k w=true→(w == [118,97,114])=false→(w == [102,117,110,99])=false→
   ∀ {F:Pn (D0×B0)→Option (Pn (D0×Bool×B0))} {G:K0→D0×Int×Bool→Option (D0×Int×Bool)},(∀ n,F (.pn n)=some (.pn n))→
   (∀ x n t j,x.Text=w→k+4≤j→j≤l.length→n.length+t.bulk+18000≤9000 * (j - k)→JB l e (k+1) (BD k) (F (.ok (Ze kd n t 0,mk l j e))) (G x (Ze 4 n t 0,(j:Int),true)))→
   JB l e (k+1) (BD k) (U2 kd (mk l (k+1) e)>>=F) (idx l k>>=fun x10=>J5 l (IntKind.i64.wrap ((k:Int)+1))>>=fun x11=>if (!x11.2.2)=true then some (x11.1,x11.2.1,false) else G x10 x11):=by
  intro w kd hw hv hf F G hF hG
  have hlt:=J1 hw
  obtain ⟨x,hx,hxt⟩:=W1i hw
  rw [Tm,hx,ob,w1 (by omega)]
  rcases X1i hl (e:=e) kd (k:=k+1) (by omega) with ⟨n,t,j,m1,m2,m3,m4,m5⟩ | ⟨v,j,m2,m4,m5⟩
  ·rw [m4,m5,ob,ob]
   simp only [Bool.not_true,Bool.false_eq_true,if_false]
   exact hG x n t j hxt (by omega) m2 (by omega)
  ·rw [m4,m5,ob,ob,hF]
   simp only [Bool.not_false,if_true]
   exact .pn _ j m2
 rw [N2 l e hB,ob]
 cases h2:isT l k [115,101,99,114,101,116] with
 | true=>
  simp only [X3,if_true,F2 l hB,ob,h1,Wi h2 (t':=[118,97,114]) rfl,Wi h2 (t':=[102,117,110,99]) rfl,Bool.false_eq_true,if_false]
  refine word [115,101,99,114,101,116] 1 h2 rfl rfl (fun _=>rfl) fun x n t j m1 m2 m3 m4=>?_
  rw [m1]
  exact P10 hl (x:=(Ze 4 n t 0,(j:Int),true)) rfl m3 (by omega) (by rw [show (Ze 4 n t 0).Value=zE from rfl,Wc]; simp only [List.length_nil]; omega) (fun _=>rfl) (fun _=>rfl)
 | false=>
 simp only [D3,Bool.false_eq_true,if_false]
 rw [N2 l e hB,ob]
 cases h3:isT l k [112,117,98,108,105,99] with
 | true=>
  simp only [X3,if_true,F2 l hB,ob,h1,Wi h3 (t':=[118,97,114]) rfl,Wi h3 (t':=[102,117,110,99]) rfl,Bool.false_eq_true,if_false]
  refine word [112,117,98,108,105,99] 2 h3 rfl rfl (fun _=>rfl) fun x n t j m1 m2 m3 m4=>?_
  rw [m1]
  exact P10 hl (x:=(Ze 4 n t 0,(j:Int),true)) rfl m3 (by omega) (by rw [show (Ze 4 n t 0).Value=zE from rfl,Wc]; simp only [List.length_nil]; omega) (fun _=>rfl) (fun _=>rfl)
 | false=>
 simp only [D3,Bool.false_eq_true,if_false]
 rw [N2 l e hB,ob]
 cases h4:isT l k [114,97,110,100,111,109] with
 | true=>
  simp only [X3,if_true,F2 l hB,ob,h1,Wi h4 (t':=[118,97,114]) rfl,Wi h4 (t':=[102,117,110,99]) rfl,Bool.false_eq_true,if_false]
  refine word [114,97,110,100,111,109] 3 h4 rfl rfl (fun _=>rfl) fun x n t j m1 m2 m3 m4=>?_
  rw [m1]
  exact P10 hl (x:=(Ze 4 n t 0,(j:Int),true)) rfl m3 (by omega) (by rw [show (Ze 4 n t 0).Value=zE from rfl,Wc]; simp only [List.length_nil]; omega) (fun _=>rfl) (fun _=>rfl)
 | false=>
 simp only [D3,Bool.false_eq_true,if_false]
 rw [N2 l e hB,ob]
 cases h5:isT l k [118,97,114] with
 | true=>
  have hlt:=J1 h5
  simp only [X3,if_true,F2 l hB,ob,h5]
  rw [w1 (by omega)]
  refine JB.rsame (JB.lift ((E14 hl (e:=e) (k:=k+1) (by omega)).mono (by omega) fun v j m1 m2=>?_) ?_ ?_)
  ·obtain ⟨_,m2⟩:=m2
   unfold BD
   omega
  ·exact fun _=>rfl
  ·exact fun _=>rfl
 | false=>
 simp only [D3,Bool.false_eq_true,if_false]
 rw [N2 l e hB,ob]
 cases h6:isT l k [104,97,116,99,104] with
 | true=>
  simp only [X3,if_true,F2 l hB,ob,h1,h5,Wi h6 (t':=[102,117,110,99]) rfl,Bool.false_eq_true,if_false]
  refine word [104,97,116,99,104] 5 h6 rfl rfl (fun _=>rfl) fun x n t j m1 m2 m3 m4=>?_
  rw [m1]
  rw [if_neg (by decide),if_neg (by decide),if_neg (by decide)]
  simp only
  rw [P3 l e hB,F2 l hB,ob]
  cases h7:isT l j [61] with
  | false=>exact .pn _ j m3
  | true=>
   have h8:=J1 h7
   simp only [if_true,ob,Bool.not_true,Bool.false_eq_true,if_false]
   rw [w1 (by omega)]
   rcases (So (e:=e) hl (k:=j+1) (by omega)).expr with ⟨v,j2,q1,q2,q3,q4,q5⟩ | ⟨v,j2,q2,q4,q5⟩
   ·rw [q4,q5,ob,ob]
    simp only [Bool.not_true,Bool.false_eq_true,if_false]
    unfold BE at q3
    exact P10 hl (x:=(Ze 4 n t 0,(j:Int),true)) rfl q2 (by omega) (by omega) (fun _=>rfl) (fun _=>rfl)
   ·rw [q4,q5,ob,ob]
    exact .pn _ j2 q2
 | false=>
 simp only [D3,Bool.false_eq_true,if_false]
 rw [N2 l e hB,ob]
 cases h7:isT l k [102,117,110,99] with
 | false=>
  unfold dcl at hb
  rw [h1,h2,h3,h4,h5,h6,h7] at hb
  cases hb
 | true=>
  have hlt:=J1 h7
  simp only [X3,if_true,F2 l hB,ob,h5,h7,Bool.false_eq_true,if_false]
  rw [w1 (by omega)]
  refine JB.rsame (JB.lift ((T1c hl (e:=e) (k:=k+1) (by omega)).mono (by omega) fun v j m1 m2=>?_) ?_ ?_)
  ·unfold BD at m2 ⊢
   omega
  ·exact fun _=>rfl
  ·exact fun _=>rfl
theorem H1f:∀ (n k:Nat) (ds:List D0),l.length - k < n→k≤l.length→ds.length≤k→
  J l e (k+1) (fun v j=>v.bulk≤D0.bulks ds+9000 * (j - k)) (O5 (mk l k e) ds) (R8 l ds k)
 | 0,k,ds,h,_,_=>absurd h (Nat.not_lt_zero _)
 | n+1,k,ds,h,hk,hd=>by
  have hB:=hl.1
  rw [O5,R8,Kx hl,ob]
  cases hb:dcl l k with
  | true=>
   rw [if_pos rfl]
   rcases P1k hl (e:=e) hk hb with ⟨v,j,h1,h2,h3,h4,h5⟩ | ⟨v,j,h2,h4,h5⟩
   ·have r1:decide ((ds.length+1) * 257≤140737488355328)=true:=decide_eq_true (by unfold BB at hB; omega)
    rw [h4,h5,ob,ob]
    simp only [r1,if_true,Bool.not_true,Bool.false_eq_true,if_false]
    refine (H1f n j (ds++[v]) (by omega) h2 (by rw [List.length_append]; simp only [List.length_singleton]; omega)).mono (by omega) fun v' j' h6 h7=>?_
    unfold BD at h3
    rw [Dr] at h7
    omega
   ·rw [h4,h5,ob,ob]
    exact .pn _ j h2
  | false=>
   rw [Y1i hl hb,ob]
   simp only [Bool.not_false,if_true,Bool.false_eq_true,if_false]
   rw [P3 l e hB,F2 l hB,ob]
   cases h1:isT l k [98,101,103,105,110] with
   | false=>exact .pn _ k hk
   | true=>
    have h2:=J1 h1
    simp only [if_true,ob,Bool.not_true,Bool.false_eq_true,if_false]
    rw [w1 (by omega)]
    refine J.bind (Y1a hl (k:=k+1) (by omega)) ?_ ?_ ?_
    ·exact fun _=>rfl
    ·exact fun v j _=>⟨_,rfl⟩
    intro v j h3 h4 h5
    simp only [Bool.not_true,Bool.not_false,if_true,cond_false]
    rw [P3 l e hB,F2 l hB,ob]
    cases h6:isT l j [101,110,100] with
    | false=>exact .pn _ j h4
    | true=>
     have h7:=J1 h6
     simp only [if_true,ob,Bool.not_true,Bool.false_eq_true,if_false]
     rw [w1 (by omega)]
     refine .ok _ (j+1) (by omega) (by omega) ?_
     unfold BK at h5
     simp only [B1.bulk]
     omega
theorem I1f:J l e 1 (fun v j=>v.bulk≤9000 * j) (U6 (mk l 0 e)) (Bf l (0:Nat)):=by
 unfold U6 Bf
 refine (H1f hl (e:=e) (l.length+1) 0 [] (by omega) (Nat.zero_le _) (Nat.zero_le _)).mono (by omega) fun v j h1 h2=>?_
 simp only [D0.bulks] at h2
 omega
end
end Go.Proofs.YtmnhfbekncjnfaaGreatDoor

namespace Go.Proofs.YtmnhfbekncjnfaaGreatDoor
open Go.Am
theorem Q1k {p:B1}(h:p.bulk≤80000000):OkP p:=by
 cases p
 simp only [B1.bulk] at h
 exact ⟨by unfold OkD BB; simp only; omega,by unfold OkS BB; simp only; omega⟩
theorem U1c (p:B1):C17 p p=true:=by unfold C17; rw [L1c,Z13]; rfl
end Go.Proofs.YtmnhfbekncjnfaaGreatDoor

namespace Go.Proofs.YtmnhfbekncjnfaaGreatDoor
open Go.Am
abbrev LxR:=List K0×Int×Int
def lx (r:List UInt8)(k:Nat):LxR:=Ye (r.length+1) r k
def V1h (a:K0)(z:LxR):LxR:=if z.2.2=0 then (a::z.1,0,0) else z
theorem N16:∀ (n m:Nat) (r:List UInt8) (k:Nat),r.length < n→r.length < m→Ye n r k=Ye m r k
 | 0,_,_,_,h,_=>absurd h (Nat.not_lt_zero _)
 | _+1,0,_,_,_,h=>absurd h (Nat.not_lt_zero _)
 | n+1,m+1,r,k,hn,hm=>by
  unfold Ye
  cases hd:r.drop (skp false r) with
  | nil=>rfl
  | cons c t=>
   have hle:(c::t).length≤r.length:=by rw [← hd,List.length_drop]; omega
   simp only
   by_cases hx:(nxt (c::t) ((k+skp false r:Nat):Int)).2=0
   ·obtain ⟨b1,b2,_,_⟩:=Kl hx
    rw [if_pos hx,if_pos hx,N16 n m _ _ (by rw [List.length_drop]; omega) (by rw [List.length_drop]; omega)]
   ·rw [if_neg hx,if_neg hx]
theorem J1f {r:List UInt8}(h:r.drop (skp false r)=[])(k:Nat):lx r k=([],0,0):=by
 unfold lx Ye
 rw [h]
theorem Z1a {r t:List UInt8}{c:UInt8}(h:r.drop (skp false r)=c::t)(k:Nat)(hx:(nxt (c::t) ((k+skp false r:Nat):Int)).2=0) :
  lx r k=V1h (nxt (c::t) ((k+skp false r:Nat):Int)).1 (lx ((c::t).drop (nxt (c::t) ((k+skp false r:Nat):Int)).1.Text.length) (k+skp false r+(nxt (c::t) ((k+skp false r:Nat):Int)).1.Text.length)):=by
 have hle:(c::t).length≤r.length:=by rw [← h,List.length_drop]; omega
 obtain ⟨b1,b2,_,_⟩:=Kl hx
 have hf:=N16 r.length (((c::t).drop (nxt (c::t) ((k+skp false r:Nat):Int)).1.Text.length).length+1) ((c::t).drop (nxt (c::t) ((k+skp false r:Nat):Int)).1.Text.length) (k+skp false r+(nxt (c::t) ((k+skp false r:Nat):Int)).1.Text.length) (by rw [List.length_drop]; omega) (Nat.lt_succ_self _)
 unfold lx
 rw [Ye]
 rw [h]
 simp only
 rw [if_pos hx,hf]
 rfl
theorem R1k {r t:List UInt8}{c:UInt8}(h:r.drop (skp false r)=c::t)(k:Nat)(hx:¬(nxt (c::t) ((k+skp false r:Nat):Int)).2=0):lx r k=([],((k+skp false r:Nat):Int),(nxt (c::t) ((k+skp false r:Nat):Int)).2):=by
 unfold lx
 rw [Ye]
 rw [h]
 simp only
 rw [if_neg hx]
theorem A1b (s:Str):N3 s=if s.length > 8192 then ([],0,5) else lx s 0:=rfl
def brk (d:UInt8):Bool:=!ld d && !(d == 46||d == 61||d == 38||d == 124)
theorem S1k {d:UInt8}(h:brk d=true):ld d=false:=by
 unfold brk at h
 rw [Bool.and_eq_true] at h
 simpa using h.1
theorem B1h {d:UInt8}(h:brk d=true)(c:UInt8):Vi [c,d]=false:=by
 unfold brk at h
 rw [Bool.and_eq_true,Bool.not_eq_true',Bool.not_eq_true',Bool.or_eq_false_iff,Bool.or_eq_false_iff,Bool.or_eq_false_iff] at h
 obtain ⟨_,⟨⟨h1,h2⟩,h3⟩,h4⟩:=h
 have f:∀ a b:UInt8,(d == b)=false→(([c,d]:List UInt8) == [a,b])=false:=fun a b hb=>beq_eq_false_iff_ne.2 fun e=>by
  injection e with _ e
  injection e with e _
  rw [e] at hb
  simp at hb
 unfold Vi
 rw [f 46 46 h1,f 61 61 h2,f 33 61 h2,f 60 61 h2,f 62 61 h2,f 38 38 h3,f 124 124 h4]
 rfl
theorem N19 {d:UInt8}(h:ld d=false)(b:List UInt8):∀ a:List UInt8,M4 (a++d::b)=M4 a
 | []=>by simp [M4,h]
 | c::a=>by
  simp only [List.cons_append,M4,N19 h b a]
theorem O19 {a x:List UInt8}{n:Nat}(h:n≤a.length):(a++x).take n=a.take n:=by
 rw [List.take_append_of_le_length h]
theorem C1h {d:UInt8}(h:brk d=true)(c:UInt8)(t b:List UInt8)(k:Int):nxt (c::t++d::b) k=nxt (c::t) k:=by
 have h1:=N19 (S1k h) b (c::t)
 have h2:=O19 (a:=c::t) (x:=d::b) (Ir (c::t))
 have h3:(decide (2≤(c::t++d::b).length)&&Vi ((c::t++d::b).take 2))=(decide (2≤(c::t).length)&&Vi ((c::t).take 2)):=by
  cases t with
  | nil=>
   have:Vi ((c::[]++d::b).take 2)=false:=B1h h c
   rw [this,Bool.and_false]
   rfl
  | cons e t=>simp
 have h4:(c::t++d::b).getD 0 0=(c::t).getD 0 0:=rfl
 unfold nxt
 rw [h1,h2,h3,h4]
 by_cases h5:(decide (2≤(c::t).length)&&Vi ((c::t).take 2))=true
 ·rw [Bool.and_eq_true] at h5
  rw [O19 (a:=c::t) (x:=d::b) (of_decide_eq_true h5.1)]
 ·rw [if_neg h5,if_neg h5]
theorem O16:∀ (a:List UInt8) (m:Nat),M4 a≤m→M4 (a.take m)=M4 a
 | [],m,_=>by rw [List.take_nil]
 | c::a,0,h=>by
  simp only [M4] at h ⊢
  cases hc:ld c with
  | false=>simp [M4,hc]
  | true=>rw [hc] at h; simp at h
 | c::a,m+1,h=>by
  simp only [List.take_succ_cons,M4] at h ⊢
  cases hc:ld c with
  | false=>rfl
  | true=>
   rw [hc] at h
   simp only [cond_true] at h ⊢
   rw [O16 a m (by omega)]
theorem D1h {c:UInt8}{t:List UInt8}{k:Int}(hx:(nxt (c::t) k).2=0){m:Nat}(hm:(nxt (c::t) k).1.Text.length≤m):nxt ((c::t).take m) k=nxt (c::t) k:=by
 have hle:=Ir (c::t)
 have h1:=(Kl hx).1
 obtain ⟨m,rfl⟩:∃ p,m=p+1:=⟨m - 1,by omega⟩
 have hg:((c::t).take (m+1)).getD 0 0=c:=rfl
 have hw:ld c=true→(nxt (c::t) k).1.Text=(c::t).take (M4 (c::t))→M4 ((c::t).take (m+1))=M4 (c::t)∧((c::t).take (m+1)).take (M4 (c::t))=(c::t).take (M4 (c::t)):=fun _ he=>by
  rw [he,List.length_take,Nat.min_eq_left hle] at hm
  exact ⟨O16 _ _ hm,by rw [List.take_take,Nat.min_eq_left hm]⟩
 revert hm hw hx
 unfold nxt
 rw [hg]
 simp only [List.getD_cons_zero]
 cases hl:Me c.toNat with
 | true=>
  have hld:ld c=true:=by unfold ld; rw [hl]; rfl
  simp only [if_true]
  intro hx hm hw
  have:=hw hld (by split <;> (try split) <;> rfl)
  rw [this.1,this.2]
 | false=>
  simp only [Bool.false_eq_true,if_false]
  cases hd:G9 c.toNat with
  | true=>
   have hld:ld c=true:=by unfold ld; rw [hl,hd]; rfl
   simp only [if_true]
   intro hx hm hw
   have:=hw hld trivial
   rw [this.1,this.2]
  | false=>
   simp only [Bool.false_eq_true,if_false]
   intro hx hm _
   by_cases h2:(decide (2≤(c::t).length)&&Vi ((c::t).take 2))=true
   ·rw [if_pos h2] at hm
    rw [Bool.and_eq_true] at h2
    have hl2:=of_decide_eq_true h2.1
    simp only [List.length_take] at hm
    have e1:((c::t).take (m+1)).take 2=(c::t).take 2:=by rw [List.take_take,Nat.min_eq_left (by omega)]
    have e2:decide (2≤((c::t).take (m+1)).length)=true:=decide_eq_true (by rw [List.length_take]; omega)
    rw [e1,e2,h2.2,decide_eq_true hl2]
   ·rw [if_neg h2]
    have h3:¬(decide (2≤((c::t).take (m+1)).length)&&Vi (((c::t).take (m+1)).take 2))=true:=by
     cases m with
     | zero=>simp
     | succ m=>
      rw [List.take_take,Nat.min_eq_left (by omega)]
      intro h
      rw [Bool.and_eq_true] at h
      apply h2
      rw [Bool.and_eq_true]
      refine ⟨decide_eq_true ?_,h.2⟩
      have:=of_decide_eq_true h.1
      rw [List.length_take] at this
      omega
    rw [if_neg h3]
end Go.Proofs.YtmnhfbekncjnfaaGreatDoor

namespace Go.Proofs.YtmnhfbekncjnfaaGreatDoor
open Go.Am
def F17:Option K0→Option K0→Prop
 | none,none=>True
 | some a,some b=>a.Kind=b.Kind∧a.Text=b.Text
 | _,_=>False
def Y1l (y:Option K0):Prop:=∃ b,y=some b∧b.Kind=3∧b.Text=[41]
def Ag (l l':List K0)(s:Nat)(w:Bool)(k j:Nat)(ok:Bool):Prop:=
 ∀ i,k≤i→i≤j→F17 l[i]? l'[i+s]?∨(w=true∧ok=true∧l[i]?=none∧Y1l l'[i+s]?)
def TM {α:Type}(l l':List K0)(s:Nat)(w:Bool)(k:Nat)(r:α×Int×Bool)(R':Option (α×Int×Bool)):Prop:=
 ∃ j:Nat,r.2.1=(j:Int)∧k≤j∧(Ag l l' s w k j r.2.2→R'=some (r.1,((j+s:Nat):Int),r.2.2))
def Tr {α:Type}(l l':List K0)(s:Nat)(w:Bool)(k:Nat)(b:Bool)(R R':Option (α×Int×Bool)):Prop:=
 ∀ r,R=some r→TM l l' s w k r R'∧(r.2.2=true→b=true)
theorem Xv {l l':List K0}{i i':Nat}(h:F17 l[i]? l'[i']?)(t:Str):isT l' i' t=isT l i t:=by
 unfold isT
 cases hx:l[i]? with
 | none=>cases hy:l'[i']? with
  | none=>rfl
  | some y=>rw [hx,hy] at h; exact h.elim
 | some x=>cases hy:l'[i']? with
  | none=>rw [hx,hy] at h; exact h.elim
  | some y=>rw [hx,hy] at h; obtain ⟨h1,h2⟩:=h; simp only [h1,h2]
theorem Jo {l l':List K0}{i i':Nat}(h:F17 l[i]? l'[i']?)(c:Int):N4 l' i' c=N4 l i c∧txt l' i'=txt l i:=by
 unfold N4 txt
 cases hx:l[i]? with
 | none=>cases hy:l'[i']? with
  | none=>exact ⟨rfl,rfl⟩
  | some y=>rw [hx,hy] at h; exact h.elim
 | some x=>cases hy:l'[i']? with
  | none=>rw [hx,hy] at h; exact h.elim
  | some y=>rw [hx,hy] at h; obtain ⟨h1,h2⟩:=h; simp only [h1,h2]; exact ⟨trivial,trivial⟩
section
variable {l l':List K0}{s:Nat}{w:Bool}{α β:Type}
theorem Tr.bind {k:Nat}{b:Bool}{R R':Option (α×Int×Bool)}{F F':α×Int×Bool→Option (β×Int×Bool)}(h:Tr l l' s w k b R R')(hF:∀ v (j:Nat) ok,k≤j→Tr l l' s w j ok (F (v,(j:Int),ok)) (F' (v,((j+s:Nat):Int),ok))) :
  Tr l l' s w k b (R>>=F) (R'>>=F'):=by
 intro r hr
 cases hR:R with
 | none=>rw [hR] at hr; cases hr
 | some x=>
  rw [hR] at hr
  obtain ⟨⟨j,h1,h2,h3⟩,h4⟩:=h x hR
  obtain ⟨v,p,ok⟩:=x
  simp only at h1 h3 h4
  subst h1
  obtain ⟨⟨j2,g1,g2,g3⟩,g4⟩:=hF v j ok h2 r hr
  refine ⟨⟨j2,g1,by omega,fun ha=>?_⟩,fun hb=>h4 (g4 hb)⟩
  have a1:Ag l l' s w k j ok:=fun i i1 i2=>by
   rcases ha i i1 (by omega) with a | ⟨a1,a2,a3,a4⟩
   ·exact .inl a
   ·exact .inr ⟨a1,g4 a2,a3,a4⟩
  have a2:Ag l l' s w j j2 r.2.2:=fun i i1 i2=>ha i (by omega) i2
  rw [h3 a1]
  exact g3 a2
theorem Tr.ret {v:α}{j k:Nat}{ok b:Bool}(h:k≤j)(hb:ok=true→b=true):Tr l l' s w k b (some (v,(j:Int),ok)) (some (v,((j+s:Nat):Int),ok)):=by
 intro r hr
 cases hr
 exact ⟨⟨j,rfl,h,fun _=>rfl⟩,hb⟩
theorem Tr.no {v:α}{j k:Nat}{b:Bool}(h:k≤j):Tr l l' s w k b (some (v,(j:Int),false)) (some (v,((j+s:Nat):Int),false)):=Tr.ret h nofun
theorem Tr.yes {v:α}{j k:Nat}{ok:Bool}(h:k≤j):Tr l l' s w k true (some (v,(j:Int),ok)) (some (v,((j+s:Nat):Int),ok)):=Tr.ret h fun _=>rfl
theorem Tr.of {k:Nat}{R R':Option (α×Int×Bool)}(h:∀ r,R=some r→TM l l' s w k r R'):Tr l l' s w k true R R':=fun r hr=>⟨h r hr,fun _=>rfl⟩
theorem Tr.run {k:Nat}{R R':Option (α×Int×Bool)}{r:α×Int×Bool}(h:Tr l l' s w k true R R')(hr:R=some r):TM l l' s w k r R':=(h r hr).1
theorem Tr.le {k k':Nat}{b:Bool}{R R':Option (α×Int×Bool)}(h:Tr l l' s w k' b R R')(hk:k≤k'):Tr l l' s w k b R R':=fun r hr=>by
 obtain ⟨⟨j,h1,h2,h3⟩,h4⟩:=h r hr
 exact ⟨⟨j,h1,by omega,fun ha=>h3 fun i i1 i2=>ha i (by omega) i2⟩,h4⟩
theorem Tr.go {k:Nat}{ok:Bool}{A A' B B':Option (α×Int×Bool)}(hA:Tr l l' s w k false A A')(hB:ok=true→Tr l l' s w k true B B'):Tr l l' s w k ok (if (!ok)=true then A else B) (if (!ok)=true then A' else B'):=by
 cases ok with
 | false=>exact hA
 | true=>exact hB rfl
theorem Tr.iff {k:Nat}{b c:Bool}{A A' B B':Option (α×Int×Bool)}(hA:c=true→Tr l l' s w k b A A')(hB:c=false→Tr l l' s w k b B B'):Tr l l' s w k b (if c=true then A else B) (if c=true then A' else B'):=by
 cases c with
 | true=>exact hA rfl
 | false=>exact hB rfl
theorem Tr.room {k:Nat}{b c:Bool}{B B':Option (α×Int×Bool)}(hB:c=true→Tr l l' s w k b B B'):Tr l l' s w k b (if c=true then B else none) (if c=true then B' else none):=Tr.iff hB fun _ r hr=>by cases hr
end
section
set_option linter.unusedSectionVars false
variable {l l':List K0}{s:Nat}{w:Bool}{α β:Type}(hl:Yf l)(hl':Yf l')(hs:l.length+s+8≤BB)
include hl hl' hs
theorem wl {k:Nat}(h:k < l.length):IntKind.i64.wrap ((k:Int)+1)=((k+1:Nat):Int):=w1 (by omega)
theorem H3 {k:Nat}(h:k < l.length):IntKind.i64.wrap (((k+s:Nat):Int)+1)=((k+1+s:Nat):Int):=by rw [w1 (by omega)]; omega
theorem wl2 {k:Nat}(h:k < l.length):IntKind.i64.wrap ((k:Int)+2)=((k+1+1:Nat):Int):=by rw [wr (by omega) (by unfold BB at hs; omega)]; omega
theorem ws2 {k:Nat}(h:k < l.length):IntKind.i64.wrap (((k+s:Nat):Int)+2)=((k+1+1+s:Nat):Int):=by rw [wr (by omega) (by unfold BB at hs; omega)]; omega
theorem Tr.is {k:Nat}{t:Str}{b:Bool}{F F':Bool→Option (β×Int×Bool)}(hc:(w=true→t≠[41])∨∀ r,F false=some r→r.2.2=false)
  (hT:isT l k t=true→Tr l l' s w k b (F true) (F' true)) (hN:isT l k t=false→Tr l l' s w k b (F false) (F' false)):Tr l l' s w k b (T0 l (k:Int) t>>=F) (T0 l' ((k+s:Nat):Int) t>>=F'):=by
 intro r hr
 rw [F2 l hl.1,ob] at hr
 rw [F2 l' hl'.1,ob]
 cases h:isT l k t with
 | true=>
  rw [h] at hr
  obtain ⟨⟨j,h1,h2,h3⟩,h4⟩:=hT h r hr
  refine ⟨⟨j,h1,h2,fun ha=>?_⟩,h4⟩
  rcases ha k (Nat.le_refl _) h2 with a | ⟨_,_,a,_⟩
  ·rw [Xv a,h]; exact h3 ha
  ·unfold isT at h; rw [a] at h; cases h
 | false=>
  rw [h] at hr
  obtain ⟨⟨j,h1,h2,h3⟩,h4⟩:=hN h r hr
  refine ⟨⟨j,h1,h2,fun ha=>?_⟩,h4⟩
  rcases ha k (Nat.le_refl _) h2 with a | ⟨a1,a2,a3,y,a4,a5,a6⟩
  ·rw [Xv a,h]; exact h3 ha
  ·rcases hc with hc | hc
   ·have:isT l' (k+s) t=false:=by
     unfold isT
     rw [a4]
     simp only [a6]
     rw [beq_eq_false_iff_ne.2 fun e=>hc a1 e.symm]
     rfl
    rw [this]; exact h3 ha
   ·rw [hc r hr] at a2; cases a2
theorem Tr.ask {j:Nat}{ok:Bool}{t:Str}{A A' B B':Option (β×Int×Bool)}(hc:(w=true→t≠[41])∨∀ r,A=some r→r.2.2=false)(hA:Tr l l' s w j ok A A')(hB:ok=true→j < l.length→Tr l l' s w j true B B') :
  Tr l l' s w j ok ((if (!(!ok))=true then T0 l (j:Int) t else some default)>>=fun x=>if (bif (!ok) then true else (!x))=true then A else B)
   ((if (!(!ok))=true then T0 l' ((j+s:Nat):Int) t else some default)>>=fun x=>if (bif (!ok) then true else (!x))=true then A' else B'):=by
 cases ok with
 | false=>exact hA
 | true=>
  simp only [Bool.not_true,Bool.not_false,if_true,cond_false]
  refine Tr.is hl hl' hs hc (fun h=>?_) (fun h=>?_)
  ·exact hB rfl (J1 h)
  ·exact hA
theorem Tr.must {j:Nat}{b:Bool}{t:Str}{A A' B B':Option (β×Int×Bool)}(hc:(w=true→t≠[41])∨∀ r,A=some r→r.2.2=false)(hA:Tr l l' s w j b A A')(hB:j < l.length→Tr l l' s w j b B B') :
  Tr l l' s w j b (T0 l (j:Int) t>>=fun x=>if (!x)=true then A else B) (T0 l' ((j+s:Nat):Int) t>>=fun x=>if (!x)=true then A' else B'):=
 Tr.is hl hl' hs hc (fun h=>hB (J1 h)) fun _=>hA
theorem Tr.may {j:Nat}{b:Bool}{t:Str}{A A' B B':Option (β×Int×Bool)}(hc:(w=true→t≠[41])∨∀ r,B=some r→r.2.2=false)(hA:isT l j t=true→j < l.length→Tr l l' s w j b A A')(hB:isT l j t=false→Tr l l' s w j b B B') :
  Tr l l' s w j b (T0 l (j:Int) t>>=fun x=>if x=true then A else B) (T0 l' ((j+s:Nat):Int) t>>=fun x=>if x=true then A' else B'):=
 Tr.is hl hl' hs hc (fun h=>hA h (J1 h)) hB
theorem P16 (k:Nat):Tr l l' s w k true (De l k) (De l' ((k+s:Nat):Int)):=by
 rw [Uj l hl,Uj l' hl']
 cases h:N4 l k 1 with
 | true=>
  intro r hr
  cases hr
  refine ⟨⟨k+1,rfl,by omega,fun ha=>?_⟩,fun _=>rfl⟩
  rcases ha k (Nat.le_refl _) (by omega) with a | ⟨_,_,a,_⟩
  ·obtain ⟨b1,b2⟩:=Jo a 1
   rw [b1,h,if_pos rfl]
   unfold Dx
   rw [b2,show k+s+1=k+1+s by omega]
  ·unfold N4 at h; rw [a] at h; cases h
 | false=>
  intro r hr
  cases hr
  refine ⟨⟨k,rfl,Nat.le_refl _,fun ha=>?_⟩,fun _=>rfl⟩
  rcases ha k (Nat.le_refl _) (Nat.le_refl _) with a | ⟨_,a,_⟩
  ·rw [(Jo a 1).1,h]; rfl
  ·cases a
theorem Fk (k:Nat):Tr l l' s w k true (X7 l k) (X7 l' ((k+s:Nat):Int)):=by
 rw [Gd l hl.1,Gd l' hl'.1]
 cases h:N4 l k 0 with
 | true=>
  intro r hr
  cases hr
  refine ⟨⟨k+1,rfl,by omega,fun ha=>?_⟩,fun _=>rfl⟩
  rcases ha k (Nat.le_refl _) (by omega) with a | ⟨_,_,a,_⟩
  ·obtain ⟨b1,b2⟩:=Jo a 0
   rw [b1,h,if_pos rfl,b2,show k+s+1=k+1+s by omega]
  ·unfold N4 at h; rw [a] at h; cases h
 | false=>
  intro r hr
  cases hr
  refine ⟨⟨k,rfl,Nat.le_refl _,fun ha=>?_⟩,fun _=>rfl⟩
  rcases ha k (Nat.le_refl _) (Nat.le_refl _) with a | ⟨_,a,_⟩
  ·rw [(Jo a 0).1,h]; rfl
  ·cases a
theorem Tr.bin {k:Nat}{n:Int}{b:Bool}(hn:n≠0){F F':Int×Bool→Option (β×Int×Bool)}(hT:∀ op,k < l.length→Tr l l' s w k b (F (op,true)) (F' (op,true)))(hN:∀ op,Tr l l' s w k b (F (op,false)) (F' (op,false))) :
  Tr l l' s w k b (N5 l (k:Int) n>>=F) (N5 l' ((k+s:Nat):Int) n>>=F'):=by
 intro r hr
 rw [Ll,ob] at hr
 rw [Ll,ob]
 cases hx:l[k]? with
 | none=>
  rw [hx] at hr
  obtain ⟨⟨j,h1,h2,h3⟩,h4⟩:=hN 0 r hr
  refine ⟨⟨j,h1,h2,fun ha=>?_⟩,h4⟩
  have:=h3 ha
  rcases ha k (Nat.le_refl _) h2 with a | ⟨_,_,_,y,a4,a5,a6⟩
  ·rw [hx] at a
   cases hy:l'[k+s]? with
   | none=>exact this
   | some y=>rw [hy] at a; exact a.elim
  ·rw [a4]
   simp only [a5,a6]
   have e:opT [41]=(0,0):=by decide
   rw [e,if_pos (by decide)]
   have:((0:Int) == n)=false:=beq_eq_false_iff_ne.2 fun e=>hn e.symm
   simp only [this]
   assumption
 | some x=>
  rw [hx] at hr
  simp only at hr
  have key:∀ q:Int×Bool,F q=some r→TM l l' s w k r (F' q)∧(r.2.2=true→b=true):=by
   rintro ⟨op,c⟩ hq
   cases c with
   | true=>exact hT op (Ui hx) r hq
   | false=>exact hN op r hq
  obtain ⟨⟨j,h1,h2,h3⟩,h4⟩:=key _ hr
  refine ⟨⟨j,h1,h2,fun ha=>?_⟩,h4⟩
  rcases ha k (Nat.le_refl _) h2 with a | ⟨_,_,a,_⟩
  ·rw [hx] at a
   cases hy:l'[k+s]? with
   | none=>rw [hy] at a; exact a.elim
   | some y=>
    rw [hy] at a
    obtain ⟨e1,e2⟩:=a
    simp only
    rw [← e1,← e2]
    exact h3 ha
  ·rw [hx] at a; cases a
theorem K1f:(∀ k r,A2 l k=some r→∀ n:Nat,k=n→TM l l' s w n r (A2 l' ((n+s:Nat):Int)))∧
  (∀ k m r,I2 l k m=some r→∀ n:Nat,k=n→1≤m→m≤6→TM l l' s w n r (I2 l' ((n+s:Nat):Int) m))∧
  (∀ m o k r,L2 l m o k=some r→∀ n:Nat,k=n→1≤m→m≤5→TM l l' s w n r (L2 l' m o ((n+s:Nat):Int)))∧
  (∀ k r,Za l k=some r→∀ n:Nat,k=n→TM l l' s w n r (Za l' ((n+s:Nat):Int)))∧
  (∀ k op r,Ra l k op=some r→∀ n:Nat,k=n→n < l.length→TM l l' s w n r (Ra l' ((n+s:Nat):Int) op))∧
  (∀ k r,Af l k=some r→∀ n:Nat,k=n→TM l l' s w n r (Af l' ((n+s:Nat):Int)))∧
  (∀ k r,Y9 l k=some r→∀ n:Nat,k=n→TM l l' s w n r (Y9 l' ((n+s:Nat):Int)))∧
  (∀ a b c d k r,Z8 l a b c d k=some r→∀ n:Nat,k=n→TM l l' s w n r (Z8 l' a b c d ((n+s:Nat):Int)))∧
  (∀ k r,Zc l k=some r→∀ n:Nat,k=n→n < l.length→TM l l' s w n r (Zc l' ((n+s:Nat):Int)))∧
  (∀ k op r,Ia l k op=some r→∀ n:Nat,k=n→n < l.length→TM l l' s w n r (Ia l' ((n+s:Nat):Int) op)):=by
 refine A2.mutual_partial_correctness l _ _ _ _ _ _ _ _ _ _ ?_ ?_ ?_ ?_ ?_ ?_ ?_ ?_ ?_ ?_
 ·intro g0 g1 ih0 ih1 k r hr n hn
  subst hn
  refine Tr.run ?_ hr
  rw [A2]
  refine Tr.bind (Tr.of fun r hr=>ih1 _ _ _ hr n rfl (by decide) (by decide)) fun v j ok _=>?_
  refine Tr.ask hl hl' hs (.inl fun _=>by decide) (Tr.ret (Nat.le_refl _) id) fun h1 h2=>?_
  simp only
  rw [wl hl hl' hs h2,H3 hl hl' hs h2]
  refine Tr.le (Tr.bind (Tr.of fun r hr=>ih0 _ _ hr _ rfl) fun v2 j2 ok2 _=>?_) (Nat.le_succ _)
  refine Tr.go (Tr.no (Nat.le_refl _)) fun h3=>?_
  refine Tr.must hl hl' hs (.inl fun _=>by decide) (Tr.no (Nat.le_refl _)) fun h4=>?_
  simp only
  rw [wl hl hl' hs h4,H3 hl hl' hs h4]
  refine Tr.le (Tr.bind (Tr.of fun r hr=>ih0 _ _ hr _ rfl) fun v3 j3 ok3 _=>?_) (Nat.le_succ _)
  refine Tr.go (Tr.no (Nat.le_refl _)) fun h3=>?_
  exact Tr.yes (Nat.le_refl _)
 ·intro g1 g2 g3 ih1 ih2 ih3 k m r hr n hn hm1 hm2
  subst hn
  refine Tr.run ?_ hr
  rw [I2]
  refine Tr.iff (fun h=>?_) fun h=>?_
  ·refine Tr.bind (Tr.of fun r hr=>ih3 _ _ hr _ rfl) fun v j ok _=>?_
   exact Tr.ret (Nat.le_refl _) id
  ·have h6:m≠6:=by simpa using h
   have hw:IntKind.i64.wrap (m+1)=m+1:=wr (by omega) (by omega)
   rw [hw]
   refine Tr.bind (Tr.of fun r hr=>ih1 _ _ _ hr _ rfl (by omega) (by omega)) fun v j ok _=>?_
   refine Tr.go (Tr.no (Nat.le_refl _)) fun _=>?_
   exact Tr.of fun r hr=>ih2 _ _ _ _ hr _ rfl (by omega) (by omega)
 ·intro g1 g2 ih1 ih2 m o k r hr n hn hm1 hm2
  subst hn
  refine Tr.run ?_ hr
  rw [L2]
  have hw:IntKind.i64.wrap (m+1)=m+1:=wr (by omega) (by omega)
  refine Tr.bin hl hl' hs (by omega) (fun op h1=>?_) fun op=>?_
  ·simp only [Bool.not_true,Bool.false_eq_true,if_false,Qs,ob]
   rw [wl hl hl' hs h1,H3 hl hl' hs h1,hw]
   refine Tr.le (Tr.bind (Tr.of fun r hr=>ih1 _ _ _ hr _ rfl (by omega) (by omega)) fun v j ok _=>?_) (Nat.le_succ _)
   refine Tr.go (Tr.no (Nat.le_refl _)) fun _=>?_
   refine Tr.iff (fun _=>Tr.yes (Nat.le_refl _)) fun _=>?_
   exact Tr.of fun r hr=>ih2 _ _ _ _ hr _ rfl (by omega) (by omega)
  ·exact Tr.yes (Nat.le_refl _)
 ·intro g4 g5 ih4 ih5 k r hr n hn
  subst hn
  refine Tr.run ?_ hr
  rw [Za]
  have j1:∀ op,n < l.length→Tr l l' s w n true (g4 n op) (Ra l' ((n+s:Nat):Int) op):=fun op h=>Tr.of fun r hr=>ih4 _ _ _ hr _ rfl h
  refine Tr.is hl hl' hs (.inl fun _=>by decide) (fun h1=>?_) (fun h1=>?_)
  ·simp only [Bool.not_true,Bool.false_eq_true,if_false,ob,cond_false]
   exact Tr.may hl hl' hs (.inl fun _=>by decide) (fun _ h2=>j1 7 h2) fun _=>j1 6 (J1 h1)
  ·simp only [Bool.not_false,if_true,cond_true]
   refine Tr.is hl hl' hs (.inl fun _=>by decide) (fun h2=>?_) (fun h2=>?_)
   ·simp only [Bool.not_true,Bool.false_eq_true,if_false]
    exact Tr.may hl hl' hs (.inl fun _=>by decide) (fun _ h2=>j1 7 h2) fun _=>j1 6 (J1 h2)
   ·simp only [Bool.not_false,if_true]
    refine Tr.bind (Tr.of fun r hr=>ih5 _ _ hr _ rfl) fun v j ok _=>?_
    exact Tr.ret (Nat.le_refl _) id
 ·intro g3 ih3 k op r hr n hn h
  subst hn
  refine Tr.run ?_ hr
  rw [Ra,wl hl hl' hs h,H3 hl hl' hs h]
  refine Tr.le (Tr.bind (Tr.of fun r hr=>ih3 _ _ hr _ rfl) fun v j ok _=>?_) (Nat.le_succ _)
  refine Tr.go (Tr.no (Nat.le_refl _)) fun _=>?_
  exact Tr.yes (Nat.le_refl _)
 ·intro g0 g6 g8 ih0 ih6 ih8 k r hr n hn
  subst hn
  refine Tr.run ?_ hr
  rw [Af]
  refine Tr.may hl hl' hs (.inl fun _=>by decide) (fun _ h=>?_) fun _=>?_
  ·rw [wl hl hl' hs h,H3 hl hl' hs h]; exact Tr.yes (Nat.le_succ _)
  refine Tr.may hl hl' hs (.inl fun _=>by decide) (fun _ h=>?_) fun _=>?_
  ·rw [wl hl hl' hs h,H3 hl hl' hs h]; exact Tr.yes (Nat.le_succ _)
  have ext:n < l.length→Tr l l' s w n true (g8 n>>=fun x5=>some (x5.1,x5.2.1,x5.2.2)) (Zc l' ((n+s:Nat):Int)>>=fun x5=>some (x5.1,x5.2.1,x5.2.2)):=fun h=>
   Tr.bind (Tr.of fun r hr=>ih8 _ _ hr _ rfl h) fun v j ok _=>Tr.ret (Nat.le_refl _) id
  refine Tr.is hl hl' hs (.inl fun _=>by decide) (fun h1=>?_) (fun h1=>?_)
  ·simp only [Bool.not_true,Bool.false_eq_true,if_false,ob,cond_true,if_true]
   exact ext (J1 h1)
  simp only [Bool.not_false,if_true,cond_false]
  refine Tr.may hl hl' hs (.inl fun _=>by decide) (fun h2 h=>ext h) fun h2=>?_
  refine Tr.may hl hl' hs (.inl fun _=>by decide) (fun _ h=>?_) fun _=>?_
  ·rw [wl hl hl' hs h,H3 hl hl' hs h]
   refine Tr.le (Tr.bind (Tr.of fun r hr=>ih0 _ _ hr _ rfl) fun v j ok _=>?_) (Nat.le_succ _)
   refine Tr.ask hl hl' hs (.inr fun r hr=>by cases hr; rfl) (Tr.no (Nat.le_refl _)) fun h1 h2=>?_
   simp only
   rw [wl hl hl' hs h2,H3 hl hl' hs h2]
   exact Tr.yes (Nat.le_succ _)
  ·rw [Uj l hl,Uj l' hl']
   intro r hr
   cases hd:N4 l n 1 with
   | true=>
    rw [hd] at hr
    cases hr
    refine ⟨⟨n+1,rfl,by omega,fun ha=>?_⟩,fun _=>rfl⟩
    rcases ha n (Nat.le_refl _) (by omega) with a | ⟨_,_,a,_⟩
    ·obtain ⟨b1,b2⟩:=Jo a 1
     rw [b1,hd,if_pos rfl]
     unfold Dx
     rw [b2,show n+s+1=n+1+s by omega]
     rfl
    ·unfold N4 at hd; rw [a] at hd; cases hd
   | false=>
    rw [hd] at hr
    have hp:Tr l l' s w n true (g6 n>>=fun x8=>some (x8.1,x8.2.1,x8.2.2)) (Y9 l' ((n+s:Nat):Int)>>=fun x8=>some (x8.1,x8.2.1,x8.2.2)):=
     Tr.bind (Tr.of fun r hr=>ih6 _ _ hr _ rfl) fun v j ok _=>Tr.ret (Nat.le_refl _) id
    obtain ⟨⟨j,h1,h2,h3⟩,_⟩:=hp r hr
    refine ⟨⟨j,h1,h2,fun ha=>?_⟩,fun _=>rfl⟩
    have hK:N4 l' (n+s) 1=false:=by
     rcases ha n (Nat.le_refl _) h2 with a | ⟨_,_,_,y,a4,a5,a6⟩
     ·rw [(Jo a 1).1,hd]
     ·unfold N4; rw [a4]; simp only [a5]; rfl
    rw [hK]
    exact h3 ha
 ·intro g7 ih7 k r hr n hn
  subst hn
  refine Tr.run ?_ hr
  rw [Y9]
  refine Tr.bind (Fk hl hl' hs n) fun v j ok _=>?_
  refine Tr.go (Tr.no (Nat.le_refl _)) fun _=>?_
  exact Tr.of fun r hr=>ih7 _ _ _ _ _ _ hr _ rfl
 ·intro g0 g7 ih0 ih7 a b c d k r hr n hn
  subst hn
  refine Tr.run ?_ hr
  rw [Z8]
  refine Tr.is hl hl' hs (.inl fun _=>by decide) (fun h1=>?_) (fun h1=>?_)
  ·simp only [Bool.not_true,Bool.false_eq_true,if_false,ob,cond_true,if_true]
   refine Tr.may hl hl' hs (.inl fun _=>by decide) (fun _ h=>?_) fun h2=>?_
   ·rw [wl hl hl' hs h,H3 hl hl' hs h]
    refine Tr.le (Tr.bind (Fk hl hl' hs (n+1)) fun v j ok _=>?_) (Nat.le_succ _)
    refine Tr.go (Tr.no (Nat.le_refl _)) fun _=>?_
    exact Tr.of fun r hr=>ih7 _ _ _ _ _ _ hr _ rfl
   ·rw [h1] at h2; cases h2
  ·simp only [Bool.not_false,if_true,cond_false]
   refine Tr.may hl hl' hs (.inl fun _=>by decide) (fun h2 h=>?_) fun h2=>?_
   ·refine Tr.may hl hl' hs (.inl fun _=>by decide) (fun h3 _=>?_) fun h3=>?_
    ·rw [h1] at h3; cases h3
    rw [wl hl hl' hs h,H3 hl hl' hs h]
    refine Tr.le (Tr.bind (Tr.of fun r hr=>ih0 _ _ hr _ rfl) fun v j ok _=>?_) (Nat.le_succ _)
    refine Tr.ask hl hl' hs (.inl fun _=>by decide) (Tr.no (Nat.le_refl _)) fun h3 h4=>?_
    simp only [Qs,ob]
    rw [wl hl hl' hs h4,H3 hl hl' hs h4]
    exact Tr.le (Tr.of fun r hr=>ih7 _ _ _ _ _ _ hr _ rfl) (Nat.le_succ _)
   ·exact Tr.yes (Nat.le_refl _)
 ·intro g9 ih9 k r hr n hn h
  subst hn
  refine Tr.run ?_ hr
  rw [Zc]
  exact Tr.may hl hl' hs (.inl fun _=>by decide) (fun _ _=>Tr.of fun r hr=>ih9 _ _ _ hr _ rfl h) fun _=>Tr.of fun r hr=>ih9 _ _ _ hr _ rfl h
 ·intro g0 ih0 k op r hr n hn h
  subst hn
  refine Tr.run ?_ hr
  rw [Ia,wl hl hl' hs h,H3 hl hl' hs h,wl2 hl hl' hs h,ws2 hl hl' hs h]
  refine Tr.le (Tr.must hl hl' hs (.inl fun _=>by decide) (Tr.no (Nat.le_refl _)) fun h1=>?_) (Nat.le_succ _)
  refine Tr.le (Tr.bind (Tr.of fun r hr=>ih0 _ _ hr _ rfl) fun v j ok _=>?_) (Nat.le_succ _)
  refine Tr.ask hl hl' hs (.inl fun _=>by decide) (Tr.no (Nat.le_refl _)) fun h3 h4=>?_
  simp only
  rw [wl hl hl' hs h4,H3 hl hl' hs h4]
  refine Tr.le (Tr.bind (Tr.of fun r hr=>ih0 _ _ hr _ rfl) fun v2 j2 ok2 _=>?_) (Nat.le_succ _)
  refine Tr.ask hl hl' hs (.inr fun r hr=>by cases hr; rfl) (Tr.no (Nat.le_refl _)) fun h5 h6=>?_
  simp only [Qs,ob]
  rw [wl hl hl' hs h6,H3 hl hl' hs h6]
  exact Tr.yes (Nat.le_succ _)
theorem Vl (n:Nat):Tr l l' s w n true (A2 l n) (A2 l' ((n+s:Nat):Int)):=Tr.of fun r hr=>(K1f hl hl' hs).1 _ _ hr n rfl
theorem E1h (n:Nat):Tr l l' s w n true (Y9 l n) (Y9 l' ((n+s:Nat):Int)):=Tr.of fun r hr=>(K1f hl hl' hs).2.2.2.2.2.2.1 _ _ hr n rfl
end
end Go.Proofs.YtmnhfbekncjnfaaGreatDoor

namespace Go.Proofs.YtmnhfbekncjnfaaGreatDoor
open Go.Am
section
set_option linter.unusedSectionVars false
variable {l l':List K0}{s:Nat}{w:Bool}{α β:Type}(hl:Yf l)(hl':Yf l')(hs:l.length+s+8≤BB)
include hl hl' hs
theorem Qd (n:Nat):Tr l l' s w n true (M5 l n) (M5 l' ((n+s:Nat):Int)):=by
 unfold M5
 refine Tr.may hl hl' hs (.inl fun _=>by decide) (fun _ h=>?_) fun _=>?_
 ·rw [wl hl hl' hs h,H3 hl hl' hs h]
  exact Tr.le (Tr.bind (P16 hl hl' hs (n+1)) fun v j ok _=>Tr.ret (Nat.le_refl _) id) (Nat.le_succ _)
 ·exact Tr.bind (P16 hl hl' hs n) fun v j ok _=>Tr.ret (Nat.le_refl _) id
theorem B1a (n:Nat):Tr l l' s w n true (Pg l n) (Pg l' ((n+s:Nat):Int)):=by
 unfold Pg
 refine Tr.must hl hl' hs (.inl fun _=>by decide) (Tr.no (Nat.le_refl _)) fun h1=>?_
 rw [wl hl hl' hs h1,H3 hl hl' hs h1]
 refine Tr.le (Tr.bind (Qd hl hl' hs (n+1)) fun v j ok _=>?_) (Nat.le_succ _)
 refine Tr.ask hl hl' hs (.inl fun _=>by decide) (Tr.no (Nat.le_refl _)) fun _ h2=>?_
 simp only
 rw [wl hl hl' hs h2,H3 hl hl' hs h2]
 refine Tr.le (Tr.bind (Qd hl hl' hs (j+1)) fun v2 j2 ok2 _=>?_) (Nat.le_succ _)
 refine Tr.ask hl hl' hs (.inl fun _=>by decide) (Tr.no (Nat.le_refl _)) fun _ h3=>?_
 simp only
 rw [wl hl hl' hs h3,H3 hl hl' hs h3]
 exact Tr.yes (Nat.le_succ _)
theorem B1b:(∀ k r,Sa l k=some r→∀ n:Nat,k=n→TM l l' s w n r (Sa l' ((n+s:Nat):Int)))∧
  (∀ k r,Jj l k=some r→∀ n:Nat,k=n→TM l l' s w n r (Jj l' ((n+s:Nat):Int)))∧
  (∀ a b k r,J9 l a b k=some r→∀ n:Nat,k=n→n < l.length→TM l l' s w n r (J9 l' a b ((n+s:Nat):Int)))∧
  (∀ k r,J5 l k=some r→∀ n:Nat,k=n→TM l l' s w n r (J5 l' ((n+s:Nat):Int))):=by
 refine Sa.mutual_partial_correctness l _ _ _ _ ?_ ?_ ?_ ?_
 ·intro g0 g1 ih0 ih1 k r hr n hn
  subst hn
  refine Tr.run ?_ hr
  rw [Sa]
  refine Tr.may hl hl' hs (.inl fun _=>by decide) (fun _ h=>?_) fun _=>?_
  ·rw [wl hl hl' hs h,H3 hl hl' hs h]; exact Tr.yes (Nat.le_succ _)
  refine Tr.may hl hl' hs (.inl fun _=>by decide) (fun _ h=>?_) fun _=>?_
  ·rw [wl hl hl' hs h,H3 hl hl' hs h]
   exact Tr.le (Tr.bind (B1a hl hl' hs (n+1)) fun v j ok _=>Tr.ret (Nat.le_refl _) id) (Nat.le_succ _)
  refine Tr.may hl hl' hs (.inl fun _=>by decide) (fun _ h=>?_) fun _=>?_
  ·rw [wl hl hl' hs h,H3 hl hl' hs h]
   refine Tr.le (Tr.bind (Qd hl hl' hs (n+1)) fun v j ok _=>?_) (Nat.le_succ _)
   refine Tr.ask hl hl' hs (.inl fun _=>by decide) (Tr.no (Nat.le_refl _)) fun _ h2=>?_
   simp only
   rw [wl hl hl' hs h2,H3 hl hl' hs h2]
   exact Tr.le (Tr.bind (Tr.of fun r hr=>ih0 _ _ hr _ rfl) fun v2 j2 ok2 _=>Tr.ret (Nat.le_refl _) id) (Nat.le_succ _)
  refine Tr.may hl hl' hs (.inl fun _=>by decide) (fun _ h=>?_) fun _=>?_
  ·rw [wl hl hl' hs h,H3 hl hl' hs h]
   exact Tr.le (Tr.bind (Tr.of fun r hr=>ih1 _ _ hr _ rfl) fun v2 j2 ok2 _=>Tr.ret (Nat.le_refl _) id) (Nat.le_succ _)
  ·exact Tr.bind (Fk hl hl' hs n) fun v j ok _=>Tr.ret (Nat.le_refl _) id
 ·intro g2 ih2 k r hr n hn
  subst hn
  refine Tr.run ?_ hr
  rw [Jj]
  exact Tr.must hl hl' hs (.inl fun _=>by decide) (Tr.no (Nat.le_refl _)) fun h1=>Tr.of fun r hr=>ih2 _ _ _ _ hr _ rfl h1
 ·intro g2 g3 ih2 ih3 a b k r hr n hn h
  subst hn
  refine Tr.run ?_ hr
  rw [J9,wl hl hl' hs h,H3 hl hl' hs h]
  refine Tr.le (Tr.bind (Tr.of fun r hr=>ih3 _ _ hr _ rfl) fun v j ok _=>?_) (Nat.le_succ _)
  refine Tr.go (Tr.no (Nat.le_refl _)) fun _=>?_
  refine Tr.room fun _=>Tr.room fun _=>?_
  refine Tr.may hl hl' hs (.inl fun _=>by decide) (fun _ h=>?_) fun _=>?_
  ·simp only
   rw [wl hl hl' hs h,H3 hl hl' hs h]; exact Tr.yes (Nat.le_succ _)
  exact Tr.must hl hl' hs (.inl fun _=>by decide) (Tr.no (Nat.le_refl _)) fun h1=>Tr.of fun r hr=>ih2 _ _ _ _ hr _ rfl h1
 ·intro g0 ih0 k r hr n hn
  subst hn
  refine Tr.run ?_ hr
  rw [J5]
  refine Tr.bind (Fk hl hl' hs n) fun v j ok _=>?_
  refine Tr.ask hl hl' hs (.inl fun _=>by decide) (Tr.no (Nat.le_refl _)) fun _ h2=>?_
  simp only
  rw [wl hl hl' hs h2,H3 hl hl' hs h2]
  exact Tr.le (Tr.bind (Tr.of fun r hr=>ih0 _ _ hr _ rfl) fun v2 j2 ok2 _=>Tr.ret (Nat.le_refl _) id) (Nat.le_succ _)
theorem F12 (n:Nat):Tr l l' s w n true (J5 l n) (J5 l' ((n+s:Nat):Int)):=Tr.of fun r hr=>(B1b hl hl' hs).2.2.2 _ _ hr n rfl
theorem L1f (n:Nat):Tr l l' s w n true (Sa l n) (Sa l' ((n+s:Nat):Int)):=Tr.of fun r hr=>(B1b hl hl' hs).1 _ _ hr n rfl
end
end Go.Proofs.YtmnhfbekncjnfaaGreatDoor

