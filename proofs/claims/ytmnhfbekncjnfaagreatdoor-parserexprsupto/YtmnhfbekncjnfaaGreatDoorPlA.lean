/- A part of the proof of ParserExprs. -/
import Derived.Test.YtmnhfbekncjnfaaGreatDoorDgB
import Derived.Lib.Atoi
import Derived.KernelRfl
namespace Go.Proofs.YtmnhfbekncjnfaaGreatDoor
open Go.Am
theorem ob {α β:Type}(a:α)(f:α→Option β):(some a>>=f)=f a:=rfl
theorem J8 {α:Type}{l:List α}{k:Nat}{x:α}{r:List α}(h:l.drop k=x::r):decide ((k:Int) < (l.length:Int))=true∧idx l (k:Int)=some x∧l.drop (k+1)=r∧k < l.length∧x∈l:=by
 have hk:k < l.length:=by
  rcases Nat.lt_or_ge k l.length with h1 | h1
  ·exact h1
  ·rw [List.drop_eq_nil_of_le h1] at h; cases h
 have hx:=List.drop_eq_getElem_cons hk
 rw [h] at hx
 obtain ⟨e1,e2⟩:=List.cons.inj hx
 refine ⟨decide_eq_true (by omega),?_,e2.symm,hk,?_⟩
 ·unfold idx
  rw [if_pos (by omega),e1]
  simp [hk]
 ·rw [e1]; exact List.getElem_mem hk
theorem U6 {α:Type}{l:List α}{k:Nat}(h:l.drop k=[]):decide ((k:Int) < (l.length:Int))=false∧l.length≤k:=by
 have:=List.drop_eq_nil_iff.1 h
 exact ⟨decide_eq_false (by omega),this⟩
def BB:Nat:=68719476736
theorem wr {n:Int}(h : -4611686018427387904≤n)(h':n≤4611686018427387904):IntKind.i64.wrap n=n:=L15 (by omega) (by omega)
theorem w1 {k:Nat}(h:k≤BB):IntKind.i64.wrap ((k:Int)+1)=((k+1:Nat):Int):=by
 unfold BB at h
 rw [wr (by omega) (by omega)]; rfl
def V7 (n:Int):Bool:=bif decide (n≥97) then decide (n≤122) else false
def W6 (n:Int):Bool:=bif decide (n≥48) then decide (n≤57) else false
def A13 (i:Nat)(c:UInt8):Bool:=V7 c.toNat||(i != 0&&W6 c.toNat)
def Zd:Nat→List UInt8→Bool
 | _,[]=>true
 | i,c::r=>A13 i c&&Zd (i+1) r
def word (s:List UInt8):Bool:=Zd 0 s && !(s == [])
def kw:List UInt8:=[32,116,121,112,101,32,115,101,99,114,101,116,32,112,117,98,108,105,99,32,114,97,110,100,111,109,32,118,97,114,32,104,97,116,99,104,32,102,117,110,99,32,114,101,116,117,114,110,32,98,101,103,105,110,32,101,110,100,32,98,111,111,108,32,105,110,116,32,97,114,114,97,121,32,111,102,32,114,101,99,111,114,100,32,116,114,117,101,32,102,97,108,115,101,32,99,97,108,108,32,114,101,108,101,97,115,101,32,111,117,116,112,117,116,32,119,97,105,116,32,105,102,32,101,108,115,101,32,119,104,105,108,101,32,108,105,109,105,116,32,102,111,114,32,116,111,32,115,101,116,116,108,101,32,109,105,110,32,109,97,120,32]
def Ji (s:List UInt8):Bool:=bif (bif !(s == []) then !Lib.contains s [32] else false) then Lib.contains kw ([32]++s++[32]) else false
def Ai (s:List UInt8):Bool:=bif (bif decide ((s.length:Int)≤12) then word s else false) then !Ji s else false
theorem getD_some {s:List UInt8}{k:Nat}(h:k < s.length):s[k]?=some (s.getD k 0):=by simp [List.getD,h]
def ld (c:UInt8):Bool:=bif V7 c.toNat then true else W6 c.toNat
def R3:List UInt8→Nat
 | []=>0
 | c::r=>bif ld c then R3 r+1 else 0
theorem Cn:∀ s:List UInt8,R3 s≤s.length
 | []=>Nat.le_refl _
 | c::r=>by
  simp only [R3,List.length_cons]
  have:=Cn r
  cases ld c <;> simp <;> omega
def Sl (s:List UInt8):Bool:=bif ((s.length:Nat):Int) == 0 then false else bif s.all (fun c=>V7 c.toNat) then Lib.contains kw ([32]++s++[32]) else false
set_option maxRecDepth 100000 in
theorem Zq:kw.length=162:=rfl
theorem B10 {s sub:List UInt8}{i:Nat}(hi:i+sub.length≤s.length)(h:((s.take (i+sub.length)).drop i == sub)=true):Lib.contains s sub=true:=by
 have ho:Lib.occAt s sub i=true:=by
  rw [Lib.occAt_iff_take s sub i hi]
  rw [List.drop_take] at h
  simpa using h
 rcases Lib.index_spec s sub with ⟨_,h2⟩ | ⟨j,h1,_⟩
 ·rw [h2 i (by omega)] at ho; cases ho
 ·unfold Lib.contains
  rw [h1]
  exact decide_eq_true (by omega)
theorem Lo {s sub:List UInt8}(h:∀ i,i+sub.length≤s.length→((s.take (i+sub.length)).drop i == sub)=false)(hne:sub≠[]):Lib.contains s sub=false:=by
 rcases Lib.index_spec s sub with ⟨h1,_⟩ | ⟨j,h1,h2,h3,_⟩
 ·unfold Lib.contains
  rw [h1]; rfl
 ·rcases Lib.occAt_room h3 with hr | hr
  ·have:=h j hr
   rw [Lib.occAt_iff_take s sub j hr] at h3
   rw [List.drop_take] at this
   have e:j+sub.length - j=sub.length:=by omega
   rw [e,h3] at this
   cases this
  ·exact absurd hr hne
def B13 (s:List UInt8):Bool:=
 bif (bif (bif (bif decide (((s.length:Nat):Int) < 1) then true else decide (((s.length:Nat):Int) > 12)) then true else !V7 (s.getD 0 0).toNat) then true else Sl s) then false else ((R3 s:Nat):Int) == ((s.length:Nat):Int)
theorem Js:∀ (r:List UInt8) (i:Nat),1≤i→Zd i r=r.all ld
 | [],_,_=>rfl
 | c::r,i,h=>by
  have hi:(i != 0)=true:=by simp; omega
  simp only [Zd,List.all_cons,Js r (i+1) (by omega),A13,hi,Bool.true_and,ld]
  cases V7 c.toNat <;> rfl
theorem U11:∀ s:List UInt8,(((R3 s:Nat):Int) == ((s.length:Nat):Int))=s.all ld
 | []=>rfl
 | c::r=>by
  have h:=U11 r
  have hle:=Cn r
  simp only [R3,List.length_cons,List.all_cons,← h]
  cases ld c with
  | false=>
   simp only [cond_false,Bool.false_and]
   apply beq_eq_false_iff_ne.2
   omega
  | true=>
   simp only [cond_true,Bool.true_and]
   rw [Bool.eq_iff_iff,beq_iff_eq,beq_iff_eq]
   omega
set_option maxRecDepth 100000 in
theorem E16:kw.all (fun c=>V7 c.toNat||c == 32)=true:=by decide
theorem Ar {s sub:List UInt8}(h:Lib.contains s sub=true)(hne:sub≠[]):∀ c∈sub,c∈s:=by
 rcases Lib.index_spec s sub with ⟨h1,_⟩ | ⟨j,h1,h2,h3,_⟩
 ·unfold Lib.contains at h
  rw [h1] at h
  cases h
 ·rcases Lib.occAt_room h3 with hr | hr
  ·rw [Lib.occAt_iff_take s sub j hr] at h3
   have e:(s.drop j).take sub.length=sub:=by simpa using h3
   intro c hc
   rw [← e] at hc
   exact List.mem_of_mem_drop (List.mem_of_mem_take hc)
  ·exact absurd hr hne
theorem C10:ld 32=false:=by decide
theorem D10 {s:List UInt8}(h:s.all ld=true):Lib.contains s [32]=false:=by
 cases hc:Lib.contains s [32] with
 | false=>rfl
 | true=>
  have:=Ar hc (by simp) 32 (by simp)
  have:=List.all_eq_true.1 h 32 this
  rw [C10] at this
  cases this
theorem V11 {s:List UInt8}(h:s.all ld=true)(hc:Lib.contains kw ([32]++s++[32])=true):s.all (fun c=>V7 c.toNat)=true:=by
 rw [List.all_eq_true]
 intro c hcs
 have h1:=Ar hc (by simp) c (by simp [hcs])
 have h2:=List.all_eq_true.1 E16 c h1
 have h3:=List.all_eq_true.1 h c hcs
 cases hl:V7 c.toNat with
 | true=>rfl
 | false=>
  rw [hl,Bool.false_or,beq_iff_eq] at h2
  subst h2
  rw [C10] at h3
  cases h3
theorem T17 (s:List UInt8):B13 s=Ai s:=by
 unfold B13 Ai
 rw [U11]
 cases s with
 | nil=>rfl
 | cons c r=>
  have h1:decide ((((c::r).length:Nat):Int) < 1)=false:=decide_eq_false (by simp only [List.length_cons]; omega)
  have h12:decide ((((c::r).length:Nat):Int) > 12) = !decide ((((c::r).length:Nat):Int)≤12):=by
   rw [← decide_not]; exact decide_eq_decide.2 Int.not_le.symm
  have hw:word (c::r)=(V7 c.toNat&&r.all ld):=by
   unfold word
   simp only [Zd,A13,Js r 1 (Nat.le_refl _)]
   simp
  rw [h1,h12,hw,cond_false,List.all_cons]
  show (bif (bif (bif !decide ((((c::r).length:Nat):Int)≤12) then true else !V7 c.toNat) then true else Sl (c::r)) then false else (ld c&&r.all ld))=_
  cases h12':decide ((((c::r).length:Nat):Int)≤12) with
  | false=>rfl
  | true=>
   cases hl:V7 c.toNat with
   | false=>rfl
   | true=>
    have hlc:ld c=true:=by unfold ld; rw [hl]; rfl
    rw [hlc]
    cases ha:r.all ld with
    | false=>cases Sl (c::r) <;> rfl
    | true=>
     have hall:(c::r).all ld=true:=by rw [List.all_cons,hlc,ha]; rfl
     have hns:=D10 hall
     have e:Sl (c::r)=Ji (c::r):=by
      unfold Sl Ji
      rw [hns]
      have hz:((((c::r).length:Nat):Int) == 0)=false:=beq_eq_false_iff_ne.2 (by simp only [List.length_cons]; omega)
      rw [hz]
      cases hk:Lib.contains kw ([32]++(c::r)++[32]) with
      | false=>simp
      | true=>
       rw [V11 hall hk]
       rfl
     rw [e]
     cases Ji (c::r) <;> rfl
theorem Tl (n:Int):K6 n=some (V7 n):=rfl
theorem Hj (n:Int):H5 n=some (W6 n):=rfl
theorem Tv (s:Str)(hs:s.length≤BB):∀ (r:Str) (k:Nat),s.drop k=r→P3 s k=some (Zd k r && !(s == []))
 | [],k,h=>by rw [P3,(U6 h).1]; simp [Zd]
 | c::r,k,h=>by
  obtain ⟨h1,h2,h3,h4,_⟩:=J8 h
  have ih:=Tv s hs r (k+1) h3
  rw [P3,h1,if_pos rfl,h2,ob,Tl,ob,w1 (by omega),ih]
  have e:((k:Int) == 0)=(k == 0):=by cases k <;> rfl
  simp only [e,Zd,A13,bne]
  cases hl:V7 c.toNat <;> cases hk:k == 0 <;> cases hd:W6 c.toNat <;> simp [Hj,hd]
theorem U14 (s:Str)(hs:s.length≤BB):Gb s=some (word s):=Tv s hs s 0 rfl
theorem Mo (s t:Str)(hs:s.length≤4000000000):Ac s t=some (Lib.contains s t):=by
 unfold Ac
 rw [if_pos (decide_eq_true (by omega))]
theorem Ks (s:Str)(hs:s.length≤4000000000):I5 s=some (Ji s):=by
 unfold I5
 have h1:decide (1+s.length≤maxLen)=true:=decide_eq_true (by unfold maxLen; omega)
 have h2:decide (([32]++s).length+1≤maxLen)=true:=decide_eq_true (by unfold maxLen; simp; omega)
 rw [Mo s _ hs]
 have h3:=Mo kw (([32]++s)++[32]) (by rw [Zq]; omega)
 unfold kw at h3
 unfold Ji kw
 rw [h1,h2,h3]
 cases s == [] <;> cases Lib.contains s [32] <;> simp
theorem V14 (s:Str)(hs:s.length≤BB):M8 s=some (Ai s):=by
 unfold M8 Hb Ai
 rw [U14 s hs]
 cases h:decide ((s.length:Int)≤12) with
 | false=>simp
 | true=>
  have h':s.length≤12:=by have:=of_decide_eq_true h; omega
  rw [Ks s (by omega)]
  cases word s <;> simp
theorem Ag (n:Int):O9 n=some (V7 n):=rfl
theorem Ul (n:Int):Wc n=some (W6 n):=rfl
theorem Tw (s:Str)(hs:s.length≤BB):∀ (r:Str) (k:Nat),s.drop k=r→D8 s k=some ((k+R3 r:Nat):Int)
 | [],k,h=>by rw [D8,(U6 h).1]; simp [R3,ob]
 | c::r,k,h=>by
  obtain ⟨h1,h2,h3,h4,_⟩:=J8 h
  have ih:=Tw s hs r (k+1) h3
  rw [D8,h1,if_pos rfl,h2,ob,if_pos rfl,Ag,ob,w1 (by omega),ih]
  simp only [R3,ld]
  cases hl:V7 c.toNat <;> cases hd:W6 c.toNat <;> simp [Ul,hd,ob] <;> omega
theorem W18 (s:Str)(hs:s.length≤BB):Qd s 0=some ((R3 s:Nat):Int):=by
 have:=Tw s hs s 0 rfl
 unfold Qd
 rw [Nat.zero_add] at this
 exact this
theorem F16 (s:Str)(hs:s.length≤4000000000):∀ (n k:Nat),n+k=163→(∀ i,i < k→i+([32]++s++[32]).length≤kw.length→((kw.take (i+([32]++s++[32]).length)).drop i == [32]++s++[32])=false)→
  I4 s k=some (Lib.contains kw ([32]++s++[32])):=by
 have hl:([32]++s++[32]).length=s.length+2:=by simp
 intro n
 induction n with
 | zero=>
  intro k hk hi
  rw [I4,wr (n:=(k:Int)+_) (by omega) (by omega),wr (by omega) (by omega),if_neg (by simp; omega),Lo (fun i h=>hi i (by rw [Zq] at h; omega) h) (by simp)]
 | succ n ih=>
  intro k hk hi
  rw [I4,wr (n:=(k:Int)+_) (by omega) (by omega),wr (by omega) (by omega)]
  by_cases hr:k+([32]++s++[32]).length≤kw.length
  ·have hr':=hr
   rw [Zq,hl] at hr'
   rw [if_pos (decide_eq_true (by omega))]
   have hs2:slc kw (k:Int) ((k:Int)+(s.length:Int)+2)=some ((kw.take (k+([32]++s++[32]).length)).drop k):=by
    unfold slc
    rw [if_pos ⟨by omega,by omega,by rw [Zq]; omega⟩,hl]
    rw [show ((k:Int)+(s.length:Int)+2).toNat=k+(s.length+2) by omega]
    rfl
   unfold kw at hs2
   rw [hs2,ob,if_pos (decide_eq_true (by unfold maxLen; omega)),if_pos (decide_eq_true (by unfold maxLen; simp; omega))]
   cases he:((kw.take (k+([32]++s++[32]).length)).drop k == [32]++s++[32]) with
   | true=>
    have:=B10 hr he
    rw [this]
    unfold kw at he
    rw [he,if_pos rfl]
   | false=>
    have he':=he
    unfold kw at he'
    rw [he',if_neg (by simp),w1 (by unfold BB; omega)]
    refine ih (k+1) (by omega) fun i hik=>?_
    rcases Nat.lt_or_eq_of_le (Nat.le_of_lt_succ hik) with h | h
    ·exact hi i h
    ·subst h; exact fun _=>he
  ·have hr':=hr
   rw [Zq,hl] at hr'
   rw [if_neg (by simp; omega),Lo (fun i h=>hi i (by omega) h) (by simp)]
theorem E10 (s:Str)(hs:s.length≤4000000000):∀ (r:Str) (k:Nat),s.drop k=r→J4 s k=some (bif r.all (fun c=>V7 c.toNat) then Lib.contains kw ([32]++s++[32]) else false)
 | [],k,h=>by rw [J4,(U6 h).1,if_neg (by simp)]; exact F16 s hs 163 0 rfl (fun i h=>by omega)
 | c::r,k,h=>by
  obtain ⟨h1,h2,h3,h4,_⟩:=J8 h
  have ih:=E10 s hs r (k+1) h3
  rw [J4,h1,if_pos rfl,h2,ob,Ag,ob,w1 (by unfold BB; omega),ih,List.all_cons]
  cases V7 c.toNat <;> simp
theorem Dn (s:Str)(hs:s.length≤4000000000):G9 s=some (Sl s):=by
 unfold G9 Sl
 have:=E10 s hs s 0 rfl
 rw [show (0:Int)=((0:Nat):Int) from rfl,this]
 cases ((s.length:Int) == ((0:Nat):Int)) <;> simp
theorem F10 (s:Str)(hs:s.length≤BB):Ud s=some (Ai s):=by
 rw [← T17]
 unfold Ud Wf B13
 cases h:(bif decide ((s.length:Int) < 1) then true else decide ((s.length:Int) > 12)) with
 | true=>simp [ob]
 | false=>
  have h':1≤s.length∧s.length≤12:=by
   cases h1:decide ((s.length:Int) < 1) with
   | true=>rw [h1] at h; cases h
   | false=>
    rw [h1] at h
    have:=of_decide_eq_false h1
    have:=of_decide_eq_false (show decide ((s.length:Int) > 12)=false from h)
    omega
  have h0:idx s 0=some (s.getD 0 0):=getD_some (by omega)
  rw [h0,Dn s (by omega),W18 s hs]
  simp only [Bool.not_false,if_true,ob,Ag,cond_false]
  cases V7 (s.getD 0 0).toNat <;> cases Sl s <;> simp [ob]
end Go.Proofs.YtmnhfbekncjnfaaGreatDoor

set_option linter.unusedSimpArgs false
namespace Go.Proofs.YtmnhfbekncjnfaaGreatDoor
open Go.Am
def G10 (a b c:Int):Bool:=bif decide (a≥b) then decide (a≤c) else false
theorem H10 (a b c:Bool):(a || !b || !c)=(a || !(b&&c)):=by cases a <;> cases b <;> cases c <;> rfl
def En (n d:Int)(f m u:Bool):Int:=
 bif (bif decide (n > 1024) then true else decide (d > 12)) then 4 else bif f then 1 else bif m then 7 else bif u then 3 else 0
theorem P19 (a b:Int):decide (a < b) = !decide (a≥b):=by
 rw [← decide_not]; exact decide_eq_decide.2 Int.not_le.symm
theorem Q19 (a b:Int):decide (a > b) = !decide (a≤b):=by
 rw [← decide_not]; exact decide_eq_decide.2 Int.not_le.symm
def eqL {α:Type}(p:α→α→Bool):List α→List α→Bool
 | [],[]=>true
 | x::r,y::s=>p x y&&eqL p r s
 | _,_=>false
theorem W11 {α:Type}(p:α→α→Bool):∀ {l m:List α},l.length≠m.length→eqL p l m=false
 | [],[],h=>absurd rfl h
 | [],_::_,_=>rfl
 | _::_,[],_=>rfl
 | x::r,y::s,h=>by rw [eqL,W11 p (l:=r) (m:=s) (by simpa using h),Bool.and_false]
end Go.Proofs.YtmnhfbekncjnfaaGreatDoor

set_option linter.unusedSimpArgs false
namespace Go.Proofs.YtmnhfbekncjnfaaGreatDoor
open Go.Am
mutual
def T1.bulk:T1→Nat
 | .mk _ _ _ _ n ns of=>1+(1+(1+(1+((n.length+1)+(((ns.map fun s=>s.length+1).sum+1)+((T1.bulks of+1)+0))))))+1
def T1.bulks:List T1→Nat
 | []=>0
 | x::r=>T1.bulk x+T1.bulks r
end
theorem bor (a b:Bool):(bif a then true else b)=(a||b):=by cases a <;> rfl
theorem G16 (d:Int)(o:I0):M6 d o=some ⟨o.nodes,max o.depth d,o.badForm,o.badName,o.badNumber⟩:=rfl
theorem H16 (b:Bool)(o:I0):E3 b o=some ⟨o.nodes,o.depth,o.badForm || !b,o.badName,o.badNumber⟩:=by unfold E3; rw [bor]
theorem C13 (b:Bool)(o:I0):E4 b o=some ⟨o.nodes,o.depth,o.badForm,o.badName,o.badNumber || !b⟩:=by unfold E4; rw [bor]
theorem D13 (a b c:Int):Da a b c=some (G10 a b c):=rfl
theorem I16 (s:Str)(hs:s.length≤BB)(o:I0):C5 s o=some ⟨o.nodes,o.depth,o.badForm,o.badName || !Ai s,o.badNumber⟩:=by
 unfold C5
 rw [V14 s hs]
 cases h:o.badName <;> simp
theorem J16 (o:I0):D5 o=some (En o.nodes o.depth o.badForm o.badName o.badNumber):=by
 unfold D5 En
 cases (bif decide (o.nodes > 1024) then true else decide (o.depth > 12)) <;> cases o.badForm <;> cases o.badName <;> cases o.badNumber <;> rfl
def Hk (o:I0)(d:Int)(n m:Nat)(f a u:Bool):I0:=⟨o.nodes+n,max o.depth (d+m),o.badForm || !f,o.badName || !a,o.badNumber || !u⟩
end Go.Proofs.YtmnhfbekncjnfaaGreatDoor

set_option linter.unusedSimpArgs false
namespace Go.Proofs.YtmnhfbekncjnfaaGreatDoor
open Go.Am
theorem G11 (s:J1)(f m u:Bool):Oc s f m u=some (En s.nodes s.depth (!f) (!m) (!u)):=by
 unfold Oc En
 cases (bif decide (s.nodes > 1024) then true else decide (s.depth > 12)) <;> cases f <;> cases m <;> cases u <;> rfl
end Go.Proofs.YtmnhfbekncjnfaaGreatDoor

set_option linter.unusedSimpArgs false
set_option linter.unusedVariables false
namespace Go.Proofs.YtmnhfbekncjnfaaGreatDoor
open Go.Am
theorem A0.ind {P:A0→Prop}(h:∀ t:A0,(∀ x∈t.Kids,P x)→P t):∀ t,P t:=by
 intro t
 refine A0.rec (motive_1:=P) (motive_2:=fun l=>∀ x∈l,P x) ?_ ?_ ?_ t
 ·intro k l n of ih
  exact h _ ih
 ·intro x hx; cases hx
 ·intro x r hx hr y hy
  cases hy with
  | head=>exact hx
  | tail _ hy=>exact hr y hy
mutual
def A0.depth:A0→Nat
 | .mk _ _ _ of=>A0.depths of+1
def A0.depths:List A0→Nat
 | []=>0
 | t::r=>max (A0.depth t) (A0.depths r)
end
theorem A0.depth_eq (t:A0):t.depth=A0.depths t.Kids+1:=by cases t; simp [A0.depth,A0.Kids]
mutual
def A0.all (p:A0→Bool):A0→Bool
 | .mk k l n of=>p (.mk k l n of)&&A0.alls p of
def A0.alls (p:A0→Bool):List A0→Bool
 | []=>true
 | t::r=>A0.all p t&&A0.alls p r
end
theorem A0.all_eq (p:A0→Bool)(t:A0):t.all p=(p t&&A0.alls p t.Kids):=by cases t; rfl
mutual
def A0.nodes:A0→Nat
 | .mk _ _ _ of=>A0.nodess of+1
def A0.nodess:List A0→Nat
 | []=>0
 | t::r=>A0.nodes t+A0.nodess r
end
theorem A0.nodes_eq (t:A0):t.nodes=A0.nodess t.Kids+1:=by cases t; rfl
mutual
theorem A0.depth_nodes:∀ t:A0,t.depth≤t.nodes
 | .mk _ _ _ of=>by simp only [A0.depth,A0.nodes]; have:=A0.depths_nodess of; omega
theorem A0.depths_nodess:∀ l:List A0,A0.depths l≤A0.nodess l
 | []=>Nat.le_refl _
 | t::r=>by simp only [A0.depths,A0.nodess]; have:=A0.depth_nodes t; have:=A0.depths_nodess r; omega
end
mutual
def A0.bulk:A0→Nat
 | .mk _ _ n ks=>1+(1+((n.length+1)+((A0.bulks ks+1)+0)))+1
def A0.bulks:List A0→Nat
 | []=>0
 | x::r=>A0.bulk x+A0.bulks r
end
theorem A0.bulk_eq (t:A0):t.bulk=t.Name.length+A0.bulks t.Kids+5:=by cases t; simp only [A0.bulk]; omega
theorem A0.bulk_kid {t:A0}:∀ {l:List A0},t∈l→t.bulk≤A0.bulks l
 | x::r,h=>by
  simp only [A0.bulks]
  cases h with
  | head=>omega
  | tail _ h=>have:=A0.bulk_kid h; omega
theorem A0.bulk_len:∀ l:List A0,l.length≤A0.bulks l
 | []=>Nat.le_refl _
 | x::r=>by
  simp only [A0.bulks,List.length_cons]
  have:=A0.bulk_len r
  have:=A0.bulk_eq x
  omega
mutual
theorem A0.nodes_bulk:∀ t:A0,t.nodes≤t.bulk
 | .mk _ _ _ of=>by simp only [A0.nodes,A0.bulk]; have:=A0.nodess_bulk of; omega
theorem A0.nodess_bulk:∀ l:List A0,A0.nodess l≤A0.bulks l
 | []=>Nat.le_refl _
 | x::r=>by simp only [A0.nodess,A0.bulks]; have:=A0.nodes_bulk x; have:=A0.nodess_bulk r; omega
end
def OkE (t:A0):Prop:=t.bulk≤BB
theorem OkE.kid {t x:A0}(h:OkE t)(hx:x∈t.Kids):OkE x:=by
 unfold OkE at *
 have:=A0.bulk_kid hx
 have:=A0.bulk_eq t
 omega
theorem OkE.kids {t:A0}(h:OkE t):t.Kids.length≤BB:=by
 unfold OkE at *
 have:=A0.bulk_len t.Kids
 have:=A0.bulk_eq t
 omega
theorem OkE.name {t:A0}(h:OkE t):t.Name.length≤BB:=by
 unfold OkE at *
 have:=A0.bulk_eq t
 omega
theorem OkE.nodes {t:A0}(h:OkE t):t.nodes≤BB:=Nat.le_trans (A0.nodes_bulk t) h
def ar (o:Int):Int:=
 bif (bif (bif (bif (o == 0) then true else (o == 1)) then true else (o == 2)) then true else (o == 3)) then 0
 else bif (bif (bif (o == 4) then true else (o == 6)) then true else (o == 7)) then 1
 else bif (bif (o == 5) then true else (bif (decide (o≥8)) then (decide (o≤22)) else false)) then 2
 else bif (o == 23) then 3 else -1
theorem U17 (o:Int):Vf o=some (ar o):=by
 unfold Vf ar
 cases (bif (bif (bif (o == 0) then true else (o == 1)) then true else (o == 2)) then true else (o == 3)) <;> cases (bif (bif (o == 4) then true else (o == 6)) then true else (o == 7)) <;>
  cases (bif (o == 5) then true else (bif (decide (o≥8)) then (decide (o≤22)) else false)) <;> cases o == 23 <;> rfl
theorem K16 (o:Int):M9 o=some (ar o):=by
 by_cases h:o=23
 ·subst h; rfl
 have h':(o == 23)=false:=beq_eq_false_iff_ne.2 h
 simp only [M9,O4,N5,ar,h']
 cases o == 0 <;> cases o == 1 <;> cases o == 2 <;> cases o == 3 <;> first | rfl | skip
 cases o == 4 <;> cases o == 6 <;> cases o == 7 <;> first | rfl | skip
 cases o == 5 <;> cases (bif decide (o≥8) then decide (o≤22) else false) <;> rfl
mutual
def A0.place:A0→Bool
 | .mk op _ _ ks=>bif op == 3 then true else bif (bif op == 4 then true else op == 5) then A0.place1 ks else false
def A0.place1:List A0→Bool
 | []=>false
 | x::_=>A0.place x
end
theorem A0.place_eq (e:A0):e.place=(bif e.Op == 3 then true else bif (bif e.Op == 4 then true else e.Op == 5) then A0.place1 e.Kids else false):=by cases e; simp only [A0.place]
theorem b3 {o:Int}(h:(bif o == 4 then true else o == 5)=true):(o == 3)=false:=by
 apply beq_eq_false_iff_ne.2
 rintro rfl
 cases h
theorem W14 (e:A0):N9 e=some e.place:=by
 unfold N9
 induction e using A0.ind with
 | h e ih=>
 rw [P4,A0.place_eq]
 cases hb:(bif e.Op == 4 then true else e.Op == 5) with
 | false=>cases e.Op == 3 <;> simp
 | true=>
  rw [b3 hb]
  cases hk:e.Kids with
  | nil=>rfl
  | cons k r=>
   have:=ih k (by rw [hk]; simp)
   have h0:idx (k::r) 0=some k:=rfl
   have h1:(((k::r).length:Int) == 0)=false:=beq_eq_false_iff_ne.2 (by simp only [List.length_cons]; omega)
   simp only [h1,h0,ob,this,cond_true,cond_false,A0.place1]
   simp
theorem X14 (e:A0):N8 e=some e.place:=by
 induction e using A0.ind with
 | h e ih=>
 rw [N8,A0.place_eq]
 cases h3:e.Op == 3 with
 | true=>simp
 | false=>
  cases hb:(bif e.Op == 4 then true else e.Op == 5) with
  | false=>simp [ob]
  | true=>
   cases hk:e.Kids with
   | nil=>simp [ob,A0.place1]
   | cons k r=>
    have:=ih k (by rw [hk]; simp)
    have h0:idx (k::r) 0=some k:=rfl
    have h1:decide (((k::r).length:Int) > 0)=true:=decide_eq_true (by simp only [List.length_cons]; omega)
    simp only [h1,h0,ob,cond_true,cond_false,A0.place1]
    simp [ob,this]
def ef1 (e:A0):Bool:=ar e.Op == (e.Kids.length:Int)
def ef2 (e:A0):Bool:=bif e.NV == 0 then true else e.Op == 0
def ef3 (e:A0):Bool:=bif e.Name == [] then true else bif e.Op == 3 then true else e.Op == 4
def ef4 (e:A0):Bool:=bif (bif e.Op == 4 then true else e.Op == 5) then e.place else true
def Ue (e:A0):Bool:=ef1 e&&ef2 e&&ef3 e&&ef4 e
def Hd (e:A0):Bool:=bif (bif e.Op == 3 then true else e.Op == 4) then Ai e.Name else true
def Id (e:A0):Bool:=bif e.Op == 0 then G10 e.NV 0 1048576 else true
def Br (e:A0):Int:=En e.nodes e.depth (!e.all Ue) (!e.all Hd) (!e.all Id)
theorem X11 (e:A0)(d:Int)(hd:0≤d)(ht:OkE e)
  (ih:∀ x∈e.Kids,∀ (d:Int) (o:I0),0≤d→d+x.nodes≤4 * BB→0≤o.nodes→o.nodes+x.nodes≤4 * BB→V2 x d o=some (Hk o d x.nodes (x.depth - 1) (x.all Ue) (x.all Hd) (x.all Id))) :
  ∀ (r:List A0) (k:Nat) (o:I0),e.Kids.drop k=r→d+1+A0.nodess r≤4 * BB→0≤o.nodes→o.nodes+A0.nodess r≤4 * BB→d≤o.depth→
   P2 e d o k=some (Hk o d (A0.nodess r) (A0.depths r) (A0.alls Ue r) (A0.alls Hd r) (A0.alls Id r))
 | [],k,o,h,_,_,_,h5=>by
  rw [P2,(U6 h).1]
  simp only [Hk,A0.nodess,A0.depths,A0.alls,Bool.not_true,Bool.or_false]
  rw [if_neg (by simp),show o.nodes+((0:Nat):Int)=o.nodes by omega,show max o.depth (d+((0:Nat):Int))=o.depth by omega]
 | x::r,k,o,h,hb,h3,h4,h5=>by
  obtain ⟨e1,e2,e3,e4,e5⟩:=J8 h
  simp only [A0.nodess] at hb h4
  have hdp:1≤x.depth:=by rw [A0.depth_eq]; omega
  have hof:=ht.kids
  unfold BB at hb h4 hof
  rw [P2,e1,if_pos rfl,e2,ob,wr (n:=d+1) (by omega) (by omega),ih x e5 (d+1) o (by omega) (by unfold BB; omega) h3 (by unfold BB; omega),ob,w1 (by unfold BB; omega),
   X11 e d hd ht ih r (k+1) _ e3 (by unfold BB; omega) (by simp only [Hk]; omega) (by simp only [Hk]; unfold BB; omega) (by simp only [Hk]; omega)]
  simp only [Hk,A0.nodess,A0.depths,A0.alls,H10]
  rw [show o.nodes+(x.nodes:Int)+(A0.nodess r:Nat)=o.nodes+((x.nodes+A0.nodess r:Nat):Int) by omega,
   show max (max o.depth (d+1+((x.depth - 1:Nat):Int))) (d+(A0.depths r:Nat))=max o.depth (d+((max x.depth (A0.depths r):Nat):Int)) by omega]
theorem L16 (e:A0)(ht:OkE e)(d:Int)(o:I0):X3 e d o=P2 e d ⟨o.nodes,o.depth,o.badForm,o.badName || !Hd e,o.badNumber || !Id e⟩ 0:=by
 rw [X3,I16 _ ht.name,ob]
 simp only [U4,V4,D13,C13,ob]
 unfold Hd Id
 cases (bif e.Op == 3 then true else e.Op == 4) <;> cases e.Op == 0 <;> simp
theorem M16 (e:A0):OkE e→∀ (d:Int) (o:I0),0≤d→d+e.nodes≤4 * BB→0≤o.nodes→o.nodes+e.nodes≤4 * BB→
  V2 e d o=some (Hk o d e.nodes (e.depth - 1) (e.all Ue) (e.all Hd) (e.all Id)):=by
 induction e using A0.ind with
 | h e ih=>
 intro ht d o hd hb h3 h4
 have h5:=fun o h3 h4 hd'=>X11 e d hd ht (fun x hx=>ih x hx (ht.kid hx)) e.Kids 0 o rfl (by rw [A0.nodes_eq] at hb; omega) h3 h4 hd'
 rw [A0.nodes_eq] at hb h4
 unfold BB at hb h4
 rw [V2]
 simp only [G16,H16,K16,W14,ob,L16 e ht]
 rw [wr (n:=o.nodes+1) (by omega) (by omega)]
 rw [show ((0:Nat):Int)=0 from rfl] at h5
 have fin:∀ f:Bool,ef4 e=f→P2 e d ⟨o.nodes+1,max o.depth d,(((o.badForm || !ef1 e) || !ef2 e) || !ef3 e) || !f,o.badName || !Hd e,o.badNumber || !Id e⟩ 0=some (Hk o d e.nodes (e.depth - 1) (e.all Ue) (e.all Hd) (e.all Id)):=by
  rintro _ rfl
  rw [h5 _ (by simp only; omega) (by simp only; unfold BB; omega) (by simp only; omega)]
  simp only [Hk,A0.all_eq,A0.nodes_eq,A0.depth_eq,Ue,H10,Bool.or_assoc,← Bool.not_and]
  simp only [H10,Bool.and_assoc]
  rw [show o.nodes+1+(A0.nodess e.Kids:Int)=o.nodes+((A0.nodess e.Kids+1:Nat):Int) by omega,show max (max o.depth d) (d+(A0.depths e.Kids:Int))=max o.depth (d+((A0.depths e.Kids+1 - 1:Nat):Int)) by omega]
 cases hb:(bif e.Op == 4 then true else e.Op == 5) with
 | true=>
  rw [if_pos rfl]
  exact fin e.place (by unfold ef4; rw [hb]; rfl)
 | false=>
  rw [if_neg (by simp)]
  have:=fin true (by unfold ef4; rw [hb]; rfl)
  rw [Bool.not_true,Bool.or_false] at this
  exact this
theorem I10 (e:A0)(ht:OkE e):I6 e=some (Br e):=by
 have hn:=ht.nodes
 unfold BB at hn
 have hp:1≤e.depth:=by rw [A0.depth_eq]; omega
 unfold I6
 rw [M16 e ht 1 _ (by omega) (by unfold BB; omega) (by simp) (by simp only; unfold BB; omega),ob,J16,ob]
 unfold Hk Br
 simp only [Bool.false_or]
 rw [show (0:Int)+(e.nodes:Int)=e.nodes by omega,show max 0 ((1:Int)+((e.depth - 1:Nat):Int))=e.depth by omega]
end Go.Proofs.YtmnhfbekncjnfaaGreatDoor

set_option linter.unusedSimpArgs false
set_option linter.unusedVariables false
namespace Go.Proofs.YtmnhfbekncjnfaaGreatDoor
open Go.Am
theorem Px (t:A0)(ht:OkE t)(ih:∀ x∈t.Kids,Q5 x=some (x.nodes:Int)) :
  ∀ (r:List A0) (k:Nat) (n:Nat),t.Kids.drop k=r→n+A0.nodess r≤BB→O6 t (n:Int) k=some ((n+A0.nodess r:Nat):Int)
 | [],k,n,h,hb=>by rw [O6,(U6 h).1,if_neg (by simp)]; simp [A0.nodess]
 | x::r,k,n,h,hb=>by
  obtain ⟨e1,e2,e3,e4,e5⟩:=J8 h
  have:=ht.kids
  simp only [A0.nodess] at hb
  have hb':=hb
  unfold BB at hb'
  rw [O6,e1,if_pos rfl,e2,ob,ih x e5,ob,wr (n:=(n:Int)+_) (by omega) (by omega),w1 (by omega),show (n:Int)+(x.nodes:Int)=((n+x.nodes:Nat):Int) by omega,Px t ht ih r (k+1) _ e3 (by omega)]
  simp only [A0.nodess,Nat.add_assoc]
theorem E13 (t:A0):OkE t→Q5 t=some (t.nodes:Int):=by
 induction t using A0.ind with
 | h t ih=>
 intro ht
 have hn:=ht.nodes
 rw [A0.nodes_eq] at hn
 rw [Q5]
 have:=Px t ht (fun x hx=>ih x hx (ht.kid hx)) t.Kids 0 1 rfl (by omega)
 rw [A0.nodes_eq,Nat.add_comm]
 exact this
theorem Cr (t:A0)(ht:OkE t)(ih:∀ x∈t.Kids,R5 x=some (x.depth:Int))(B:Nat)(hB:B≤BB) :
  ∀ (r:List A0) (k:Nat) (n:Nat),t.Kids.drop k=r→n≤B→A0.depths r≤B→F5 t (n:Int) k=some ((max n (A0.depths r)+1:Nat):Int)
 | [],k,n,h,hb,_=>by
  rw [F5,(U6 h).1,if_neg (by simp),w1 (by omega)]
  simp [A0.depths]
 | x::r,k,n,h,hb,hd=>by
  obtain ⟨e1,e2,e3,e4,e5⟩:=J8 h
  have:=ht.kids
  simp only [A0.depths] at hd
  rw [F5,e1,if_pos rfl,e2,ob,ih x e5,ob,w1 (by omega),Cr t ht ih B hB r (k+1) _ e3 (by omega) (by omega),Cr t ht ih B hB r (k+1) _ e3 (by omega) (by omega)]
  simp only [A0.depths]
  by_cases hx:(x.depth:Int) > (n:Int)
  ·rw [if_pos (decide_eq_true hx),show max n (max x.depth (A0.depths r))=max x.depth (A0.depths r) by omega]
  ·rw [if_neg (by simpa using hx),show max n (max x.depth (A0.depths r))=max n (A0.depths r) by omega]
theorem F13 (t:A0):OkE t→R5 t=some (t.depth:Int):=by
 induction t using A0.ind with
 | h t ih=>
 intro ht
 have hn:=ht.nodes
 have hd:=A0.depth_nodes t
 rw [R5]
 rw [A0.depth_eq] at hd
 have:=Cr t ht (fun x hx=>ih x hx (ht.kid hx)) BB (Nat.le_refl _) t.Kids 0 0 rfl (by omega) (by omega)
 rw [A0.depth_eq]
 rw [show max 0 (A0.depths t.Kids)=A0.depths t.Kids by omega] at this
 exact this
theorem Y14 (n:Int)(d:Int)(m:Int):P8 ⟨n,d⟩ m=some ⟨n,max d m⟩:=by
 unfold P8
 by_cases h:m > d
 ·rw [if_pos (decide_eq_true h),show max d m=m by omega]
 ·rw [if_neg (by simpa using h),show max d m=d by omega]
theorem J10 (e:A0)(ht:OkE e)(ih:∀ x∈e.Kids,P6 x=some (x.all Ue)):∀ (r:List A0) (k:Nat),e.Kids.drop k=r→D7 e k=some (A0.alls Ue r)
 | [],k,h=>by rw [D7,(U6 h).1,if_neg (by simp)]; rfl
 | x::r,k,h=>by
  obtain ⟨e1,e2,e3,e4,e5⟩:=J8 h
  have:=ht.kids
  rw [D7,e1,if_pos rfl,e2,ob,ih x e5,ob,w1 (by omega),J10 e ht ih r (k+1) e3,A0.alls]
  cases x.all Ue <;> simp
theorem Z14 (e:A0):OkE e→P6 e=some (e.all Ue):=by
 induction e using A0.ind with
 | h e ih=>
 intro ht
 have h1:=J10 e ht (fun x hx=>ih x hx (ht.kid hx)) e.Kids 0 rfl
 rw [show ((0:Nat):Int)=0 from rfl] at h1
 rw [P6,h1,A0.all_eq,X14,U17,ob]
 generalize A0.alls Ue e.Kids=A
 have hb:(bif (bif (ar e.Op != (e.Kids.length:Int)) then true else (bif (e.Op != 0) then (e.NV != 0) else false)) then true else (bif (bif (e.Op != 3) then (e.Op != 4) else false) then (!(e.Name == [])) else false)) = !(ef1 e&&ef2 e&&ef3 e):=by
  unfold ef1 ef2 ef3
  simp only [bne]
  cases ar e.Op == (e.Kids.length:Int) <;> cases e.NV == 0 <;> cases e.Op == 0 <;> cases e.Name == [] <;> cases e.Op == 3 <;> cases e.Op == 4 <;> rfl
 rw [hb]
 unfold Ue ef4
 cases (ef1 e&&ef2 e&&ef3 e) <;> cases (bif e.Op == 4 then true else e.Op == 5) <;> cases e.place <;> simp [ob]
theorem Qx (e:A0)(ht:OkE e)(ih:∀ x∈e.Kids,S5 x=some (x.all Hd)):∀ (r:List A0) (k:Nat),e.Kids.drop k=r→Q6 e k=some (A0.alls Hd r)
 | [],k,h=>by rw [Q6,(U6 h).1,if_neg (by simp)]; rfl
 | x::r,k,h=>by
  obtain ⟨e1,e2,e3,e4,e5⟩:=J8 h
  have:=ht.kids
  rw [Q6,e1,if_pos rfl,e2,ob,ih x e5,ob,w1 (by omega),Qx e ht ih r (k+1) e3,A0.alls]
  cases x.all Hd <;> simp
theorem G13 (e:A0):OkE e→S5 e=some (e.all Hd):=by
 induction e using A0.ind with
 | h e ih=>
 intro ht
 have h1:=Qx e ht (fun x hx=>ih x hx (ht.kid hx)) e.Kids 0 rfl
 rw [show ((0:Nat):Int)=0 from rfl] at h1
 rw [S5,h1,A0.all_eq,F10 e.Name ht.name]
 generalize A0.alls Hd e.Kids=A
 unfold Hd
 cases (bif e.Op == 3 then true else e.Op == 4) <;> cases Ai e.Name <;> simp [ob]
theorem Ls (e:A0)(ht:OkE e)(ih:∀ x∈e.Kids,K4 x=some (x.all Id)):∀ (r:List A0) (k:Nat),e.Kids.drop k=r→J5 e k=some (A0.alls Id r)
 | [],k,h=>by rw [J5,(U6 h).1,if_neg (by simp)]; rfl
 | x::r,k,h=>by
  obtain ⟨e1,e2,e3,e4,e5⟩:=J8 h
  have:=ht.kids
  rw [J5,e1,if_pos rfl,e2,ob,ih x e5,ob,w1 (by omega),Ls e ht ih r (k+1) e3,A0.alls]
  cases x.all Id <;> simp
theorem K10 (e:A0):OkE e→K4 e=some (e.all Id):=by
 induction e using A0.ind with
 | h e ih=>
 intro ht
 have h1:=Ls e ht (fun x hx=>ih x hx (ht.kid hx)) e.Kids 0 rfl
 rw [show ((0:Nat):Int)=0 from rfl] at h1
 rw [K4,h1,A0.all_eq]
 have:Id e = !(bif (e.Op == 0) then (bif (decide (e.NV < 0)) then true else (decide (e.NV > 1048576))) else false):=by
  unfold Id G10
  rw [P19,Q19]
  cases e.Op == 0 <;> cases decide (e.NV≥0) <;> cases decide (e.NV≤1048576) <;> rfl
 rw [this]
 cases (bif (e.Op == 0) then (bif (decide (e.NV < 0)) then true else (decide (e.NV > 1048576))) else false) <;> simp
theorem H13 (s:J1)(e:A0)(ht:OkE e)(h : -4 * (BB:Int)≤s.nodes∧s.nodes≤4 * BB):Nc s e true=some ⟨s.nodes+e.nodes,max s.depth e.depth⟩:=by
 have hn:=ht.nodes
 unfold BB at hn h
 unfold Nc
 rw [E13 e ht,F13 e ht]
 simp only [Bool.not_true,cond_false,ob,Y14]
 rw [if_neg (by simp),ob,if_neg (by simp),wr (n:=s.nodes+(e.nodes:Int)) (by omega) (by omega)]
theorem Hy (e:A0)(ht:OkE e):Ia e=some (Br e):=by
 have hp:1≤e.depth:=by rw [A0.depth_eq]; omega
 unfold Ia Br
 rw [H13 _ e ht (by simp only; unfold BB; omega),Z14 e ht,G13 e ht,K10 e ht]
 simp only [ob,G11]
 rw [show (0:Int)+(e.nodes:Int)=e.nodes by omega,show max (0:Int) (e.depth:Int)=e.depth by omega]
end Go.Proofs.YtmnhfbekncjnfaaGreatDoor

set_option linter.unusedSimpArgs false
set_option linter.unusedVariables false
namespace Go.Proofs.YtmnhfbekncjnfaaGreatDoor
open Go.Am
theorem R19 {α:Type}{l:List α}{k:Nat}(h:k < l.length):∃ y,idx l (k:Int)=some y∧l.drop k=y::l.drop (k+1)∧y∈l:=by
 refine ⟨l[k],?_,List.drop_eq_getElem_cons h,List.getElem_mem h⟩
 unfold idx
 rw [if_pos (by omega)]
 simp [h]
theorem z0:(0:Int)=((0:Nat):Int):=rfl
theorem L10 {α:Type}{p:α→α→Bool}:∀ l:List α,(∀ x∈l,p x x=true)→eqL p l l=true
 | [],_=>rfl
 | x::r,h=>by rw [eqL,h x List.mem_cons_self,L10 r fun y hy=>h y (List.mem_cons_of_mem _ hy)]; rfl
mutual
def A0.same:A0→A0→Bool
 | .mk o n nm ks,t=>o == t.Op&&n == t.NV&&nm == t.Name&&A0.sames ks t.Kids
def A0.sames:List A0→List A0→Bool
 | [],[]=>true
 | x::r,y::s=>A0.same x y&&A0.sames r s
 | [],_::_=>false
 | _::_,[]=>false
end
theorem A0.sames_eq:∀ l m:List A0,A0.sames l m=eqL A0.same l m
 | [],[]=>rfl
 | x::r,y::s=>by simp only [A0.sames,eqL,A0.sames_eq r s]
 | [],_::_=>rfl
 | _::_,[]=>rfl
theorem A0.same_eq (t u:A0):t.same u=(t.Op == u.Op&&t.NV == u.NV&&t.Name == u.Name&&eqL A0.same t.Kids u.Kids):=by
 rw [← A0.sames_eq]
 cases t
 rfl
theorem A15 (t u:A0)(ht:OkE t)(hl:t.Kids.length=u.Kids.length)(ih:∀ x∈t.Kids,∀ y,Y2 x y=some (x.same y)) :
  ∀ (r:List A0) (k:Nat),t.Kids.drop k=r→D4 t u k=some (eqL A0.same r (u.Kids.drop k))
 | [],k,h=>by
  rw [D4,(U6 h).1,if_neg (by simp),List.drop_eq_nil_of_le (by have:=(U6 h).2; omega)]; rfl
 | x::r,k,h=>by
  obtain ⟨e1,e2,e3,e4,e5⟩:=J8 h
  obtain ⟨y,f1,f2,f3⟩:=R19 (l:=u.Kids) (k:=k) (by omega)
  have:=ht.kids
  rw [D4,e1,if_pos rfl,e2,ob,f1,ob,ih x e5 y,ob,w1 (by omega),A15 t u ht hl ih r (k+1) e3,f2,eqL]
  cases x.same y <;> simp
theorem I13 (t:A0):OkE t→∀ u,Y2 t u=some (t.same u):=by
 induction t using A0.ind with
 | h t ih=>
 intro ht u
 have ih':=fun x hx=>ih x hx (ht.kid hx)
 rw [Y2,A0.same_eq]
 by_cases hl:t.Kids.length=u.Kids.length
 ·have h4:=A15 t u ht hl ih' t.Kids 0 rfl
  have hb:(bif (bif (bif (t.Op != u.Op) then true else (t.NV != u.NV)) then true else (!(t.Name == u.Name))) then true else ((t.Kids.length:Int) != (u.Kids.length:Int))) = !(t.Op == u.Op&&t.NV == u.NV&&t.Name == u.Name):=by
   have:((t.Kids.length:Int) != (u.Kids.length:Int))=false:=by simp; omega
   rw [this]
   unfold bne
   cases t.Op == u.Op <;> cases t.NV == u.NV <;> cases t.Name == u.Name <;> rfl
  rw [hb,z0,h4]
  cases (t.Op == u.Op&&t.NV == u.NV&&t.Name == u.Name) <;> simp
 ·have:((t.Kids.length:Int) != (u.Kids.length:Int))=true:=by simp; omega
  rw [this,W11 _ hl,Bool.and_false]
  generalize (bif (bif (t.Op != u.Op) then true else (t.NV != u.NV)) then true else (!(t.Name == u.Name)))=b
  cases b <;> rfl
theorem J13 (t:A0):t.same t=true:=by
 induction t using A0.ind with
 | h t ih=>
 rw [A0.same_eq,L10 t.Kids ih]
 simp
end Go.Proofs.YtmnhfbekncjnfaaGreatDoor

namespace Go.Proofs.YtmnhfbekncjnfaaGreatDoor
open Go.Am
mutual
def W0.bulk:W0→Nat
 | .mk y0 y1 y2 y3 y4 y5 y6 y7 y8 y9 y10=>1+(A0.bulk y1+(A0.bulk y2+((y3.length+1)+((A0.bulks y4+1)+(1+(1+(1+(((y8.map fun _=>1).sum+1)+((W0.bulks y9+1)+((W0.bulks y10+1)+(0)))))))))))+1
def W0.bulks:List W0→Nat
 | []=>0
 | x::r=>W0.bulk x+W0.bulks r
end
end Go.Proofs.YtmnhfbekncjnfaaGreatDoor

set_option linter.unusedSimpArgs false
set_option linter.unusedVariables false
set_option maxHeartbeats 1000000
namespace Go.Proofs.YtmnhfbekncjnfaaGreatDoor
open Go.Am
end Go.Proofs.YtmnhfbekncjnfaaGreatDoor

set_option linter.unusedSimpArgs false
set_option linter.unusedVariables false
set_option maxHeartbeats 1000000
namespace Go.Proofs.YtmnhfbekncjnfaaGreatDoor
open Go.Am
end Go.Proofs.YtmnhfbekncjnfaaGreatDoor

set_option linter.unusedSimpArgs false
set_option linter.unusedVariables false
set_option maxHeartbeats 1000000
namespace Go.Proofs.YtmnhfbekncjnfaaGreatDoor
open Go.Am
end Go.Proofs.YtmnhfbekncjnfaaGreatDoor

set_option linter.unusedSimpArgs false
set_option linter.unusedVariables false
set_option maxHeartbeats 1000000
namespace Go.Proofs.YtmnhfbekncjnfaaGreatDoor
open Go.Am
end Go.Proofs.YtmnhfbekncjnfaaGreatDoor

set_option linter.unusedSimpArgs false
set_option linter.unusedVariables false
namespace Go.Proofs.YtmnhfbekncjnfaaGreatDoor
open Go.Am
end Go.Proofs.YtmnhfbekncjnfaaGreatDoor

namespace Go.Proofs.YtmnhfbekncjnfaaGreatDoor
open Go.Am
def skp:Bool→List UInt8→Nat
 | _,[]=>0
 | false,c::r=>if (c.toNat:Int) == 35 then skp true r+1 else if (c.toNat:Int) == 32||((c.toNat:Int) == 9||(c.toNat:Int) == 10) then skp false r+1 else 0
 | true,c::r=>if (c.toNat:Int) == 10 then skp false r+1 else skp true r+1
theorem Dr:∀ (b:Bool) (r:List UInt8),skp b r≤r.length
 | true,[]=>Nat.le_refl _
 | false,[]=>Nat.le_refl _
 | false,c::r=>by
  have h1:=Dr true r
  have h2:=Dr false r
  simp only [skp,List.length_cons]
  split
  ·omega
  ·split <;> omega
 | true,c::r=>by
  have h1:=Dr true r
  have h2:=Dr false r
  simp only [skp,List.length_cons]
  split <;> omega
theorem Rx (s:Str)(hs:s.length≤BB):∀ (r:Str) (k:Nat),s.drop k=r→Y3 s k=some ((k+skp false r:Nat):Int)∧N6 s k=some ((k+skp true r:Nat):Int)
 | [],k,h=>by
  have h1:Y3 s k=some ((k+skp false []:Nat):Int):=by rw [Y3,(U6 h).1]; simp [skp]
  refine ⟨h1,?_⟩
  rw [N6,(U6 h).1]
  simpa [ob,skp] using h1
 | c::r,k,h=>by
  obtain ⟨h1,h2,h3,h4,_⟩:=J8 h
  obtain ⟨i1,i2⟩:=Rx s hs r (k+1) h3
  have e2:((c.toNat:Int) == 10)=false→N6 s k=some ((k+skp true (c::r):Nat):Int):=fun hc=>by
   rw [N6,h1,if_pos rfl,h2,ob]
   have:((c.toNat:Int) != 10)=true:=by simp only [bne,hc]; rfl
   rw [this,cond_true,if_pos rfl,w1 (by omega),i2]
   simp only [skp,hc]
   simp; omega
  have e1:Y3 s k=some ((k+skp false (c::r):Nat):Int):=by
   rw [Y3,h1,if_pos rfl,h2]
   simp only [ob]
   cases h35:(c.toNat:Int) == 35 with
   | true=>
    rw [if_pos rfl,e2 (by have:=eq_of_beq h35; rw [this]; rfl)]
    simp only [skp,h35,if_true]
    have:((c.toNat:Int) == 10)=false:=by have:=eq_of_beq h35; rw [this]; rfl
    simp [this]
   | false=>
    rw [if_neg (by simp)]
    simp only [w1 (show k≤BB by omega),i1,skp,h35]
    by_cases h32:(c.toNat:Int)=32 <;> by_cases h9:(c.toNat:Int)=9 <;> by_cases h10:(c.toNat:Int)=10 <;> simp [ob,h32,h9,h10] <;> omega
  refine ⟨e1,?_⟩
  cases h10:(c.toNat:Int) == 10 with
  | false=>exact e2 h10
  | true=>
   rw [N6,h1,if_pos rfl,h2,ob]
   have:((c.toNat:Int) != 10)=false:=by simp only [bne,h10]; rfl
   rw [this,cond_true,if_neg (by simp),e1]
   have h35:((c.toNat:Int) == 35)=false:=by have:=eq_of_beq h10; rw [this]; rfl
   simp [skp,h10,h35]
theorem N16 (s:Str)(hs:s.length≤BB)(k:Nat):Vc s k=some ((k+skp false (s.drop k):Nat):Int):=(Rx s hs _ k rfl).1
theorem V17 {s:List UInt8}(hne:s≠[])(hall:s.all ld=true):Sl s=Ji s:=by
 unfold Sl Ji
 rw [D10 hall]
 have hz:((s.length:Int) == 0)=false:=beq_eq_false_iff_ne.2 (by have:=List.length_pos_iff.2 hne; omega)
 have hn:(s == [])=false:=by cases s with
  | nil=>exact absurd rfl hne
  | cons _ _=>rfl
 rw [hz,hn]
 cases hk:Lib.contains kw ([32]++s++[32]) with
 | false=>simp
 | true=>rw [V11 hall hk]; rfl
theorem M10 (s:Str)(hs:s.length≤BB):∀ (r:Str) (k:Nat),s.drop k=r→X4 s k=some ((k+R3 r:Nat):Int)
 | [],k,h=>by rw [X4,(U6 h).1]; simp [R3,ob]
 | c::r,k,h=>by
  obtain ⟨h1,h2,h3,h4,_⟩:=J8 h
  have ih:=M10 s hs r (k+1) h3
  rw [X4,h1,if_pos rfl,h2,ob,if_pos rfl,Tl,ob,w1 (by omega),ih]
  simp only [R3,ld]
  cases hl:V7 c.toNat <;> cases hd:W6 c.toNat <;> simp [Hj,hd,ob] <;> omega
theorem Sx:∀ r:List UInt8,(r.take (R3 r)).all ld=true
 | []=>rfl
 | c::r=>by
  simp only [R3]
  cases h:ld c with
  | false=>rfl
  | true=>simp only [cond_true,List.take_succ_cons,List.all_cons,h,Sx r]; rfl
def nv (n:Nat)(l:List UInt8):Nat:=l.foldl (fun n c=>10 * n+(c.toNat - 48)) n
theorem Fn (n:Nat):nv n []=n:=rfl
theorem Yg (n:Nat)(c:UInt8)(r:List UInt8):nv n (c::r)=nv (10 * n+(c.toNat - 48)) r:=by unfold nv; rw [List.foldl_cons]
theorem A17 (r:List UInt8):∀ n:Nat,n≤nv n r:=by
 induction r with
 | nil=>intro n; rw [Fn]; exact Nat.le_refl _
 | cons c r ih=>intro n; rw [Yg]; have:=ih (10 * n+(c.toNat - 48)); omega
def Uw (n:Nat):Int:=if n > 1048576 then 3 else 0
theorem Tt {n:Nat}(h:n > 1048576):Uw n=3:=if_pos h
theorem Y11 {n:Nat}(h:n≤1048576):Uw n=0:=if_neg (by omega)
def Jl (w:List UInt8):Bool:=decide ((w.length:Int) > 1)&&((w.getD 0 0).toNat:Int) == 48
def Vl (w:List UInt8):Int:=if w.all (fun c=>W6 c.toNat) && !Jl w then Uw (nv 0 w) else 6
theorem Ze {n:Nat}:W6 n=true ↔ 48≤n∧n≤57:=by
 unfold W6
 by_cases h:48≤n
 ·rw [show decide ((n:Int)≥48)=true from decide_eq_true (by omega),cond_true,decide_eq_true_iff]; omega
 ·rw [show decide ((n:Int)≥48)=false from decide_eq_false (by omega),cond_false]; simp; omega
theorem O16 {c:UInt8}(h:W6 c.toNat=true):IntKind.i64.wrap (IntKind.u8.wrap ((c.toNat:Int) - 48))=((c.toNat - 48:Nat):Int):=by
 have:=Ze.1 h
 rw [E17 (by omega) (by omega),wr (by omega) (by omega)]; omega
theorem Tx (s:Str)(n v7:Int):H3 s n v7=if (decide (v7 < ((s).length:Int)))=true then
  idx s v7>>=fun x1=>
  H5 (x1.toNat:Int)>>=fun x2=>
  if (!x2)=true then
   some 6
  else
   idx s v7>>=fun x3=>
   H3 s (min (IntKind.i64.wrap ((IntKind.i64.wrap (10 * n))+(IntKind.i64.wrap (IntKind.u8.wrap ((x3.toNat:Int) - 48))))) 1048577) (IntKind.i64.wrap (v7+1))
 else
  idx s 0>>=fun x4=>
  if (bif ((x4.toNat:Int) == 48) then (decide (((s).length:Int) > 1)) else false)=true then
   some 6
  else
   if (decide (n > 1048576))=true then
    some 3
   else
    some 0:=H3.eq_1 s n v7
theorem K13 (s:Str)(hs:s.length≤BB)(hne:s≠[]):∀ (r:Str) (k m:Nat) (n:Int),s.drop k=r→(m≤1048576→n=m)→(m > 1048576→n=1048577)→
  H3 s n k=some (if r.all (fun c=>W6 c.toNat) && !Jl s then Uw (nv m r) else 6):=by
 intro r
 induction r with
 | nil=>
  intro k m n h hn hn'
  refine (Tx s n k).trans ?_
  rw [(U6 h).1,if_neg (by simp)]
  have h0:idx s 0=some (s.getD 0 0):=getD_some (List.length_pos_iff.2 hne)
  rw [h0,ob]
  have hb:(bif (((s.getD 0 0).toNat:Int) == 48) then decide ((s.length:Int) > 1) else false)=Jl s:=by
   unfold Jl
   cases ((s.getD 0 0).toNat:Int) == 48 <;> simp
  rw [hb]
  rw [Fn,List.all_nil,Bool.true_and]
  rcases Bool.eq_false_or_eq_true (Jl s) with hz | hz
  ·rw [hz,if_pos rfl,Bool.not_true,if_neg (by simp)]
  ·rw [hz,if_neg (by simp),Bool.not_false,if_pos rfl]
   rcases Nat.lt_or_ge 1048576 m with hm | hm
   ·rw [Tt hm,if_pos (decide_eq_true (by have:=hn' hm; omega))]
   ·rw [Y11 hm,if_neg (by have:=hn hm; simp; omega)]
 | cons c r ihr=>
  intro k m n h hn hn'
  obtain ⟨h1,h2,h3,h4,_⟩:=J8 h
  refine (Tx s n k).trans ?_
  rw [h1,if_pos rfl,h2,ob,Hj,ob]
  cases hd:W6 c.toNat with
  | false=>simp [hd]
  | true=>
   have hc:=Ze.1 hd
   have hnn:0≤n∧n≤1048577:=by
    by_cases hm:m > 1048576
    ·have:=hn' hm; omega
    ·have:=hn (Nat.le_of_not_lt hm); omega
   have e:IntKind.i64.wrap (IntKind.i64.wrap (10 * n)+IntKind.i64.wrap (IntKind.u8.wrap ((c.toNat:Int) - 48)))=10 * n+((c.toNat - 48:Nat):Int):=by
    rw [O16 hd,wr (n:=10 * _) (by omega) (by omega),wr (by omega) (by omega)]
   have ih:=ihr (k+1) (10 * m+(c.toNat - 48)) (min (10 * n+((c.toNat - 48:Nat):Int)) 1048577) h3 (fun hm=>by have:=hn (by omega); omega) (fun hm=>by
    by_cases hm2:m > 1048576
    ·have:=hn' hm2; omega
    ·have:=hn (Nat.le_of_not_lt hm2); omega)
   simp only [Bool.not_true,Bool.false_eq_true,if_false,ob,e,w1 (show k≤BB by omega)]
   rw [ih,List.all_cons,hd,Bool.true_and]
   rw [Yg]
theorem L13 (s:Str)(hs:s.length≤BB)(hne:s≠[]):Fb s=some (Vl s):=K13 s hs hne s 0 0 0 rfl (fun _=>rfl) (fun h=>by omega)
theorem Ux (s:Str)(hs:s.length≤BB):∀ (r:Str) (k m:Nat),s.drop k=r→m≤1048576→r.all (fun c=>W6 c.toNat)=true→Z3 s m k=some (Uw (nv m r)):=by
 intro r
 induction r with
 | nil=>intro k m h hm _; rw [Z3,(U6 h).1,if_neg (by simp)]; rw [Fn,Y11 hm]
 | cons c r ihr=>
  intro k m h hm ha
  obtain ⟨h1,h2,h3,h4,_⟩:=J8 h
  rw [List.all_cons,Bool.and_eq_true] at ha
  have hc:=Ze.1 ha.1
  have e:IntKind.i64.wrap (IntKind.i64.wrap ((m:Int) * 10)+IntKind.i64.wrap (IntKind.u8.wrap ((c.toNat:Int) - 48)))=((10 * m+(c.toNat - 48):Nat):Int):=by
   rw [O16 ha.1,wr (n:=(m:Int) * 10) (by omega) (by omega),wr (by omega) (by omega)]; omega
  rw [Z3,h1,if_pos rfl,h2,ob,e]
  rw [Yg]
  by_cases hb:10 * m+(c.toNat - 48) > 1048576
  ·rw [if_pos (decide_eq_true (by omega)),Tt (by have:=A17 r (10 * m+(c.toNat - 48)); omega)]
  ·rw [if_neg (by simp; omega),w1 (by omega)]
   exact ihr (k+1) _ h3 (by omega) ha.2
theorem Vx (s:Str)(hs:s.length≤BB)(hall:(v:Int)→Z3 s 0 0=some v→True):∀ (r:Str) (k:Nat),s.drop k=r→O5 s k=if r.all (fun c=>W6 c.toNat) then Z3 s 0 0 else some 6
 | [],k,h=>by rw [O5,(U6 h).1,if_neg (by simp)]; rfl
 | c::r,k,h=>by
  obtain ⟨h1,h2,h3,h4,_⟩:=J8 h
  rw [O5,h1,if_pos rfl,h2,ob,Ul,ob]
  cases hd:W6 c.toNat with
  | false=>simp [hd]
  | true=>simp only [Bool.not_true,Bool.false_eq_true,if_false,w1 (show k≤BB by omega),Vx s hs hall r (k+1) h3,List.all_cons,hd,Bool.true_and]
theorem N10 (s:Str)(hs:s.length≤BB)(hne:s≠[]):Sd s=some (Vl s):=by
 unfold Sd Vl
 have h0:idx s 0=some (s.getD 0 0):=getD_some (List.length_pos_iff.2 hne)
 have hr:=Vx s hs (fun _ _=>trivial) s 0 rfl
 rw [h0,show (0:Int)=((0:Nat):Int) from rfl,hr]
 unfold Jl
 cases hl:decide ((s.length:Int) > 1) with
 | false=>
  simp only [Bool.false_eq_true,if_false,ob,cond_false,Bool.false_and,Bool.not_false,Bool.and_true]
  cases ha:s.all (fun c=>W6 c.toNat) with
  | false=>rfl
  | true=>exact Ux s hs s 0 0 rfl (by omega) ha
 | true=>
  simp only [if_true,ob,cond_true,Bool.true_and]
  cases hz:((s.getD 0 0).toNat:Int) == 48 with
  | true=>simp
  | false=>
   simp only [Bool.false_eq_true,if_false,Bool.not_false,Bool.and_true]
   cases ha:s.all (fun c=>W6 c.toNat) with
   | false=>rfl
   | true=>exact Ux s hs s 0 0 rfl (by omega) ha
def Ut (s:List UInt8):Bool:=s == [46,46]||s == [61,61]||s == [33,61]||s == [60,61]||s == [62,61]||s == [38,38]||s == [124,124]
def M13:List UInt8:=[59,58,44,46,61,43,45,42,47,37,60,62,33,63,40,41,91,93,123,125]
def Ik (c:UInt8):Bool:=M13.contains c
theorem H11 (a b:UInt8):Y6 [a,b]=some (Ut [a,b]):=by
 unfold Y6 A4 Ut
 cases ([a,b] == [46,46]:Bool) <;> cases ([a,b] == [61,61]:Bool) <;> cases ([a,b] == [33,61]:Bool) <;> cases ([a,b] == [60,61]:Bool) <;> cases ([a,b] == [62,61]:Bool) <;> cases ([a,b] == [38,38]:Bool) <;> cases ([a,b] == [124,124]:Bool) <;> simp
set_option maxRecDepth 100000 in
theorem I11:∀ a:UInt8,Y6 [a]=some (Ik a):=by
 have:∀ n:Fin 256,Y6 [UInt8.ofNat n.val]=some (Ik (UInt8.ofNat n.val)):=by decide
 intro a
 have h:=this ⟨a.toNat,a.toNat_lt⟩
 simpa using h
end Go.Proofs.YtmnhfbekncjnfaaGreatDoor

namespace Go.Proofs.YtmnhfbekncjnfaaGreatDoor
open Go.Am
theorem B15 (c:UInt8):∀ l:List UInt8,0≤Lib.indexByte l c ↔ l.contains c=true
 | []=>by simp [Lib.indexByte]
 | b::l=>by
  have ih:=B15 c l
  have hg:=Lib.indexByte_ge l c
  by_cases hb:b=c
  ·subst hb
   simp [Lib.indexByte]
  ·have h1:(b == c)=false:=beq_eq_false_iff_ne.2 hb
   have h2:(c == b)=false:=beq_eq_false_iff_ne.2 fun e=>hb e.symm
   unfold Lib.indexByte
   rw [h1,List.contains_cons,h2,Bool.false_or,← ih,if_neg (by simp)]
   by_cases h:Lib.indexByte l c = -1
   ·rw [if_pos (by rw [h]; rfl),h]
   ·rw [if_neg (by simpa using h)]
    omega
theorem S19 (c:UInt8)(l:List UInt8):decide (Lib.indexByte l c≥0)=l.contains c:=by
 rw [Bool.eq_iff_iff,decide_eq_true_iff]
 exact B15 c l
theorem Af {s r:List UInt8}{k n:Nat}(h:s.drop k=r)(hk:k≤s.length)(hn:n≤r.length):slc s (k:Int) ((k+n:Nat):Int)=some (r.take n):=by
 have hl:r.length=s.length - k:=by rw [← h,List.length_drop]
 unfold slc
 rw [if_pos ⟨by omega,by omega,by omega⟩,← h]
 simp only [Int.toNat_natCast]
 rw [List.drop_take]
 congr 2
 congr 1
 omega
theorem Uv (c:UInt8)(r:Str):F7 (c::r)=some (if Ik c then [c] else []):=by
 unfold F7
 have h0:idx (c::r) 0=some c:=rfl
 rw [h0,ob]
 have hb:=S19 c M13
 unfold Gh
 rw [ob]
 have e:((c.toNat:Int).toNat.toUInt8)=c:=by simp
 rw [e]
 unfold M13 at hb
 rw [hb]
 unfold Ik M13
 have h1:slc (c::r) 0 1=some [c]:=by
  have:=Af (s:=c::r) (k:=0) (n:=1) rfl (by omega) (by simp)
  simpa using this
 rw [h1]
 split <;> rfl
theorem P16 (c:UInt8):Y8 [c]=some (if Ik c then [c] else []):=by
 unfold Y8
 rw [if_neg (by simp)]
 exact Uv c []
theorem Q16 (a b:UInt8)(r:Str):Y8 (a::b::r)=some (if Ut [a,b] then [a,b] else if Ik a then [a] else []):=by
 unfold Y8
 have h2:slc (a::b::r) 0 2=some [a,b]:=by
  have:=Af (s:=a::b::r) (k:=0) (n:=2) rfl (by omega) (by simp)
  simpa using this
 rw [if_pos (decide_eq_true (by simp only [List.length_cons]; omega)),h2,ob]
 unfold V3 Ut
 rw [h2,Uv]
 cases ([a,b] == [46,46]:Bool) <;> cases ([a,b] == [61,61]:Bool) <;> cases ([a,b] == [33,61]:Bool) <;> cases ([a,b] == [60,61]:Bool) <;> cases ([a,b] == [62,61]:Bool) <;> cases ([a,b] == [38,38]:Bool) <;> cases ([a,b] == [124,124]:Bool) <;> simp [ob]
def nxt (r:List UInt8)(k:Int):E0×Int:=
 if V7 (r.getD 0 0).toNat then
  if Ji (r.take (R3 r)) then (E0.mk 2 (r.take (R3 r)) k,0)
  else if decide (((r.take (R3 r)).length:Int) > 12) then (E0.mk 0 (r.take (R3 r)) k,7)
  else (E0.mk 0 (r.take (R3 r)) k,0)
 else if W6 (r.getD 0 0).toNat then (E0.mk 1 (r.take (R3 r)) k,Vl (r.take (R3 r)))
 else if decide (2≤r.length)&&Ut (r.take 2) then (E0.mk 3 (r.take 2) k,0)
 else if Ik (r.getD 0 0) then (E0.mk 3 [r.getD 0 0] k,0)
 else (E0.mk 3 [] k,6)
theorem Eo {c:UInt8}{t:List UInt8}(h:ld c=true):1≤R3 (c::t):=by simp [R3,h]
theorem W17 (s:Str)(hs8:s.length≤8192){c:UInt8}{t:Str}{k:Nat}(h:s.drop k=c::t):Ga s k=some (nxt (c::t) k):=by
 have hs:s.length≤BB:=by unfold BB; omega
 obtain ⟨h1,h2,h3,h4,_⟩:=J8 h
 have hle:=Cn (c::t)
 have hlen:(c::t).length=s.length - k:=by rw [← h,List.length_drop]
 have hrun:Ld s k=some ((k+R3 (c::t):Nat):Int):=M10 s hs _ k h
 have hslc:=Af h (by omega) hle
 have ht8:((c::t).take (R3 (c::t))).length≤8192:=by rw [List.length_take]; omega
 have htl:((c::t).take (R3 (c::t))).length≤BB:=by unfold BB; omega
 unfold Ga nxt
 rw [h2,ob,Tl,ob,hrun]
 simp only [List.getD_cons_zero]
 cases hl:V7 c.toNat with
 | true=>
  simp only [if_true,ob,hslc]
  rw [show I5 ((c::t).take (R3 (c::t)))=some (Ji ((c::t).take (R3 (c::t)))) from Ks _ (by omega),ob]
  cases Ji ((c::t).take (R3 (c::t))) with
  | true=>rfl
  | false=>
   cases decide ((((c::t).take (R3 (c::t))).length:Int) > 12) <;> rfl
 | false=>
  simp only [Bool.false_eq_true,if_false,Hj,ob]
  cases hd:W6 c.toNat with
  | true=>
   simp only [if_true,ob,hslc]
   have hld:ld c=true:=by unfold ld; rw [hl,hd]; rfl
   have hp:=Eo (t:=t) hld
   rw [L13 _ htl (by intro he; have:=congrArg List.length he; rw [List.length_take] at this; simp at this; omega)]
   rfl
  | false=>
   simp only [Bool.false_eq_true,if_false]
   have hsl:slc s (k:Int) ((s.length:Nat):Int)=some (c::t):=by
    have:=Af (n:=(c::t).length) h (by omega) (Nat.le_refl _)
    rw [List.take_length] at this
    rw [← this,hlen]
    congr 1; omega
   rw [hsl,ob]
   cases t with
   | nil=>
    rw [P16,ob]
    cases Ik c <;> rfl
   | cons b t=>
    rw [Q16,ob]
    cases hz:Ut [c,b] with
    | true=>simp [hz]
    | false=>cases hy:Ik c <;> simp [hz,hy]
def O10 (x:E0×Int):E0×Int:=if x.2=0 then x else (E0.mk 0 [] 0,x.2)
theorem N13 (w:List UInt8):Vl w=0∨Vl w=3∨Vl w=6:=by
 unfold Vl Uw
 split
 ·split <;> simp
 ·simp
theorem R16 (s:Str)(hs8:s.length≤8192){c:UInt8}{t:Str}{k:Nat}(h:s.drop k=c::t):Me s k=some (O10 (nxt (c::t) k)):=by
 have hs:s.length≤BB:=by unfold BB; omega
 obtain ⟨h1,h2,h3,h4,_⟩:=J8 h
 have hle:=Cn (c::t)
 have hlen:(c::t).length=s.length - k:=by rw [← h,List.length_drop]
 have hrun:Qd s k=some ((k+R3 (c::t):Nat):Int):=Tw s hs _ k h
 have hslc:=Af h (by omega) hle
 have ht8:((c::t).take (R3 (c::t))).length≤8192:=by rw [List.length_take]; omega
 have htl:((c::t).take (R3 (c::t))).length≤BB:=by unfold BB; omega
 have hne:ld c=true→(c::t).take (R3 (c::t))≠[]:=fun hld he=>by
  have hp:=Eo (t:=t) hld
  have:=congrArg List.length he
  rw [List.length_take] at this
  simp at this
  omega
 unfold Me nxt
 rw [hrun,ob,h2,ob,Ag,ob]
 simp only [List.getD_cons_zero]
 cases hl:V7 c.toNat with
 | true=>
  have hld:ld c=true:=by unfold ld; rw [hl]; rfl
  simp only [if_true,ob,hslc]
  rw [Dn _ (by omega),V17 (hne hld) (Sx _),ob]
  cases Ji ((c::t).take (R3 (c::t))) with
  | true=>rfl
  | false=>cases decide ((((c::t).take (R3 (c::t))).length:Int) > 12) <;> rfl
 | false=>
  simp only [Bool.false_eq_true,if_false,Ul,ob]
  cases hd:W6 c.toNat with
  | true=>
   have hld:ld c=true:=by unfold ld; rw [hl,hd]; rfl
   simp only [if_true,ob,hslc]
   rw [N10 _ htl (hne hld),ob]
   unfold O10
   rcases N13 ((c::t).take (R3 (c::t))) with hn | hn | hn <;> rw [hn] <;> rfl
  | false=>
   simp only [Bool.false_eq_true,if_false]
   rw [wr (n:=(k:Int)+2) (by omega) (by omega),wr (n:=(k:Int)+1) (by omega) (by omega)]
   have hs1:slc s (k:Int) ((k:Int)+1)=some [c]:=by
    have:=Af (n:=1) h (by omega) (by simp)
    simpa using this
   have fin:(slc s (k:Int) ((k:Int)+1)>>=fun x14=>Y6 x14>>=fun x15=>if x15=true then slc s (k:Int) ((k:Int)+1)>>=fun x16=>some ((E0.mk 3 x16 (k:Int)),(0:Int)) else some ((E0.mk 0 [] 0),6))=some (O10 (if Ik c then (E0.mk 3 [c] (k:Int),0) else (E0.mk 3 [] (k:Int),6))):=by
    rw [hs1,ob,I11,ob]
    cases Ik c <;> rfl
   cases t with
   | nil=>
    simp only [List.length_cons,List.length_nil] at hlen
    have:decide ((k:Int)+2≤(s.length:Int))=false:=decide_eq_false (by omega)
    rw [this]
    simp only [Bool.false_eq_true,if_false,ob,cond_false]
    exact fin
   | cons b t=>
    simp only [List.length_cons] at hlen
    have:decide ((k:Int)+2≤(s.length:Int))=true:=decide_eq_true (by omega)
    have hs2:slc s (k:Int) ((k:Int)+2)=some [c,b]:=by
     have:=Af (n:=2) h (by omega) (by simp)
     simpa using this
    rw [this]
    simp only [if_true,hs2,ob,H11,cond_true]
    cases hz:Ut [c,b] with
    | true=>simp [O10,hz]
    | false=>
     simp only [Bool.false_eq_true,if_false]
     rw [fin]
     simp [hz]
def Bf:Nat→List UInt8→Nat→List E0×Int×Int
 | 0,_,_=>([],0,0)
 | n+1,r,k=>
  match r.drop (skp false r) with
  | []=>([],0,0)
  | c::t=>
   let x:=nxt (c::t) ((k+skp false r:Nat):Int)
   if x.2=0 then
    let z:=Bf n ((c::t).drop x.1.Text.length) (k+skp false r+x.1.Text.length)
    if z.2.2=0 then (x.1::z.1,0,0) else z
   else ([],((k+skp false r:Nat):Int),x.2)
theorem Vt {c:UInt8}{t:List UInt8}{k:Int}(h:(nxt (c::t) k).2=0):1≤(nxt (c::t) k).1.Text.length∧(nxt (c::t) k).1.Text.length≤(c::t).length∧(nxt (c::t) k).1.At=k∧(c::t).take (nxt (c::t) k).1.Text.length=(nxt (c::t) k).1.Text:=by
 have hle:=Cn (c::t)
 have key:∀ {n:Nat},1≤n→n≤(c::t).length→1≤((c::t).take n).length∧((c::t).take n).length≤(c::t).length∧(c::t).take ((c::t).take n).length=(c::t).take n:=fun h1 h2=>by
  rw [List.length_take,Nat.min_eq_left h2]; exact ⟨h1,h2,rfl⟩
 revert h
 unfold nxt
 simp only [List.getD_cons_zero]
 cases hl:V7 c.toNat with
 | true=>
  have hld:ld c=true:=by unfold ld; rw [hl]; rfl
  obtain ⟨a1,a2,a3⟩:=key (Eo (t:=t) hld) hle
  simp only [if_true]
  split
  ·exact fun _=>⟨a1,a2,rfl,a3⟩
  ·split
   ·intro h; cases h
   ·exact fun _=>⟨a1,a2,rfl,a3⟩
 | false=>
  simp only [Bool.false_eq_true,if_false]
  cases hd:W6 c.toNat with
  | true=>
   have hld:ld c=true:=by unfold ld; rw [hl,hd]; rfl
   obtain ⟨a1,a2,a3⟩:=key (Eo (t:=t) hld) hle
   exact fun _=>⟨a1,a2,rfl,a3⟩
  | false=>
   simp only [Bool.false_eq_true,if_false]
   split
   ·rename_i h2
    rw [Bool.and_eq_true] at h2
    obtain ⟨a1,a2,a3⟩:=key (n:=2) (by omega) (of_decide_eq_true h2.1)
    exact fun _=>⟨a1,a2,rfl,a3⟩
   ·split
    ·exact fun _=>⟨by simp,by simp,rfl,by simp⟩
    ·intro h; cases h
def Kl (s:Str)(out:List E0)(k:Nat):Option (List E0×Int×Int):=
 if k < s.length then
  Ga s k>>=fun x2=>
  if (x2.2 != 0)=true then some ([],(k:Int),x2.2)
  else if (decide ((out.length+1) * 33≤140737488355328))=true then Q2 s (out++[x2.1]) (IntKind.i64.wrap ((k:Int)+((x2.1.Text).length:Int)))
  else none
 else some (out,0,0)
theorem C15 (s:Str)(hs:s.length≤BB)(out:List E0):∀ (r:Str) (k:Nat),s.drop k=r→Q2 s out k=Kl s out (k+skp false r)∧Y5 s out k=Kl s out (k+skp true r)
 | [],k,h=>by
  obtain ⟨h1,h2⟩:=U6 h
  have e1:Q2 s out k=Kl s out (k+skp false []):=by
   rw [Q2,h1,if_neg (by simp)]
   unfold Kl
   rw [if_neg (by simp [skp]; omega)]
  refine ⟨e1,?_⟩
  rw [Y5,h1]
  simpa [ob,skp] using e1
 | c::r,k,h=>by
  obtain ⟨h1,h2,h3,h4,_⟩:=J8 h
  obtain ⟨i1,i2⟩:=C15 s hs out r (k+1) h3
  have e2:((c.toNat:Int) == 10)=false→Y5 s out k=Kl s out (k+skp true (c::r)):=fun hc=>by
   rw [Y5,h1,if_pos rfl,h2,ob]
   have:((c.toNat:Int) != 10)=true:=by simp only [bne,hc]; rfl
   rw [this,cond_true,if_pos rfl,w1 (by omega),i2]
   simp only [skp,hc]
   congr 1
   simp; omega
  have e1:Q2 s out k=Kl s out (k+skp false (c::r)):=by
   have hj:Q2 s out k=C8 s out k c ((c.toNat:Int) == 32||((c.toNat:Int) == 9||(c.toNat:Int) == 10)):=by
    rw [Q2,h1,if_pos rfl,h2,ob]
    cases h32:(c.toNat:Int) == 32 with
    | true=>rfl
    | false=>cases h9:(c.toNat:Int) == 9 <;> simp
   rw [hj,C8]
   cases hb:((c.toNat:Int) == 32||((c.toNat:Int) == 9||(c.toNat:Int) == 10)) with
   | true=>
    have h35:((c.toNat:Int) == 35)=false:=by
     cases hx:(c.toNat:Int) == 35 with
     | false=>rfl
     | true=>rw [eq_of_beq hx] at hb; cases hb
    rw [if_pos rfl,w1 (by omega),i1]
    simp only [skp,h35,hb]
    congr 1
    simp; omega
   | false=>
    rw [if_neg (by simp)]
    cases h35:(c.toNat:Int) == 35 with
    | true=>
     rw [if_pos rfl,e2 (by have:=eq_of_beq h35; rw [this]; rfl)]
     have h10:((c.toNat:Int) == 10)=false:=by have:=eq_of_beq h35; rw [this]; rfl
     simp [skp,h35,h10]
    | false=>
     rw [if_neg (by simp)]
     simp only [skp,h35,hb]
     unfold Kl
     rw [if_pos (by simpa using h4)]
     rfl
  refine ⟨e1,?_⟩
  cases h10:(c.toNat:Int) == 10 with
  | false=>exact e2 h10
  | true=>
   rw [Y5,h1,if_pos rfl,h2,ob]
   have:((c.toNat:Int) != 10)=false:=by simp only [bne,h10]; rfl
   rw [this,cond_true,if_neg (by simp),e1]
   have h35:((c.toNat:Int) == 35)=false:=by have:=eq_of_beq h10; rw [this]; rfl
   simp [skp,h10,h35]
theorem X17:∀ (n:Nat) (r:List UInt8) (k:Nat),(Bf n r k).2.2=0→(Bf n r k).2=(0,0)
 | 0,_,_,_=>rfl
 | n+1,r,k,h=>by
  revert h
  unfold Bf
  split
  ·exact fun _=>rfl
  ·rename_i c t _
   simp only
   split
   ·split
    ·exact fun _=>rfl
    ·rename_i hz
     exact fun h=>absurd h hz
   ·rename_i hx
    exact fun h=>absurd h hx
def Zg (out:List E0)(z:List E0×Int×Int):List E0×Int×Int:=if z.2.2=0 then (out++z.1,0,0) else z
theorem Z11 (s:Str)(hs8:s.length≤8192):∀ (n k:Nat) (out:List E0),s.length - k < n→k≤s.length→out.length≤k→
  Q2 s out k=some (Zg out (Bf n (s.drop k) k))∧(Vc s k>>=fun a=>P9 s out a)=some (Zg out (Bf n (s.drop k) k))
 | 0,k,out,h,_,_=>by omega
 | n+1,k,out,h,hk,ho=>by
  have hs:s.length≤BB:=by unfold BB; omega
  have hb:=Dr false (s.drop k)
  rw [List.length_drop] at hb
  rw [(C15 s hs out _ k rfl).1,N16 s hs k,ob]
  generalize hj:k+skp false (s.drop k)=j at *
  have hdj:(s.drop k).drop (skp false (s.drop k))=s.drop j:=by rw [List.drop_drop,hj]
  unfold Kl
  rw [P9]
  unfold Bf
  rw [hdj,hj]
  cases hd:s.drop j with
  | nil=>
   obtain ⟨h1,h2⟩:=U6 hd
   rw [h1,if_neg (by omega),if_neg (by simp)]
   unfold Zg
   simp
  | cons c t=>
   obtain ⟨h1,h2,h3,h4,_⟩:=J8 hd
   rw [h1,if_pos h4,if_pos rfl,W17 s hs8 hd,R16 s hs8 hd,ob,ob]
   simp only
   unfold O10
   by_cases hx:(nxt (c::t) (j:Int)).2=0
   ·obtain ⟨b1,b2,b3,b4⟩:=Vt hx
    have hlen:(c::t).length=s.length - j:=by rw [← hd,List.length_drop]
    rw [if_pos hx,if_pos hx]
    have hne:((nxt (c::t) (j:Int)).2 != 0)=false:=by rw [hx]; rfl
    have hroom:decide ((out.length+1) * 33≤140737488355328)=true:=decide_eq_true (by omega)
    simp only [hne,hroom,Bool.false_eq_true,if_false,if_true]
    generalize hxx:nxt (c::t) (j:Int)=x at *
    rw [wr (by omega) (by omega),show (j:Int)+((x.1.Text).length:Int)=((j+x.1.Text.length:Nat):Int) from rfl]
    have hdd:(c::t).drop x.1.Text.length=s.drop (j+x.1.Text.length):=by rw [← hd,List.drop_drop]
    rw [hdd]
    obtain ⟨i1,i2⟩:=Z11 s hs8 n (j+x.1.Text.length) (out++[x.1]) (by omega) (by omega) (by rw [List.length_append]; have:[x.1].length=1:=rfl; omega)
    rw [i1,i2]
    generalize Bf n (s.drop (j+x.1.Text.length)) (j+x.1.Text.length)=z
    unfold Zg
    by_cases hz:z.2.2=0
    ·rw [if_pos hz,if_pos hz,if_pos rfl,List.append_assoc]
     exact ⟨rfl,rfl⟩
    ·rw [if_neg hz,if_neg hz,if_neg hz]
     exact ⟨rfl,rfl⟩
   ·have hne:((nxt (c::t) (j:Int)).2 != 0)=true:=by simpa using hx
    have hne2:((E0.mk 0 [] 0,(nxt (c::t) (j:Int)).2):E0×Int).2=(nxt (c::t) (j:Int)).2:=rfl
    rw [if_neg hx,if_neg hx,hne,if_pos rfl]
    unfold Zg
    simp [hx]
def Er (s:Str):List E0×Int×Int:=if s.length > 8192 then ([],0,5) else Bf (s.length+1) s 0
theorem X18 (s:Str):Md s=some (Er s)∧Vh s=some (Er s):=by
 unfold Md Vh Er
 by_cases h:s.length > 8192
 ·rw [if_pos h]; simp [h]; omega
 ·have h1:decide ((s.length:Int) > 8192)=false:=decide_eq_false (by omega)
  obtain ⟨i1,i2⟩:=Z11 s (by omega) (s.length+1) 0 [] (by omega) (by omega) (by simp)
  rw [h1,if_neg (by simp),if_neg h,if_neg (by simp)]
  have hw:Zg [] (Bf (s.length+1) s 0)=Bf (s.length+1) s 0:=by
   unfold Zg
   split
   ·rename_i hz
    have:=X17 _ _ _ hz
    rw [List.nil_append,← this]
   ·rfl
  rw [List.drop_zero,hw] at i1 i2
  exact ⟨i1,i2⟩
end Go.Proofs.YtmnhfbekncjnfaaGreatDoor

namespace Go.Proofs.YtmnhfbekncjnfaaGreatDoor
open Go.Am
abbrev mk (l:List E0)(k:Nat)(e:Int):B0:=B0.mk l (k:Int) e
theorem Ki {α:Type}(l:List α)(k:Nat):idx l (k:Int)=l[k]?:=by
 unfold idx
 rw [if_pos (by omega)]
 simp
theorem Jf {α:Type}{l:List α}{k:Nat}{x:α}(h:l[k]?=some x):k < l.length:=(List.getElem?_eq_some_iff.1 h).1
theorem A12 {α:Type}{l:List α}{k:Nat}(h:l[k]?=none):l.length≤k:=List.getElem?_eq_none_iff.1 h
theorem dlt {α:Type}{l:List α}{k:Nat}{x:α}(h:l[k]?=some x):decide ((k:Int) < (l.length:Int))=true:=by have:=Jf h; exact decide_eq_true (by omega)
theorem P10 {α:Type}{l:List α}{k:Nat}(h:l[k]?=none):decide ((k:Int) < (l.length:Int))=false:=by have:=A12 h; exact decide_eq_false (by omega)
theorem dge {α:Type}{l:List α}{k:Nat}{x:α}(h:l[k]?=some x):decide ((k:Int)≥(l.length:Int))=false:=by have:=Jf h; exact decide_eq_false (by omega)
theorem O13 {α:Type}{l:List α}{k:Nat}(h:l[k]?=none):decide ((k:Int)≥(l.length:Int))=true:=by have:=A12 h; exact decide_eq_true (by omega)
def isT (l:List E0)(k:Nat)(t:Str):Bool:=match l[k]? with
 | some x=>x.Text == t&&(x.Kind == 2||x.Kind == 3)
 | none=>false
def O8 (l:List E0)(k:Nat)(c:Int):Bool:=match l[k]? with
 | some x=>x.Kind == c
 | none=>false
def txt (l:List E0)(k:Nat):Str:=match l[k]? with
 | some x=>x.Text
 | none=>[]
def off (l:List E0)(e:Int)(k:Nat):Int:=match l[k]? with
 | some x=>x.At
 | none=>e
def step (b:Bool)(k:Nat):Nat:=bif b then k+1 else k
theorem Pe (k:Nat):step true k=k+1:=rfl
theorem X9 (k:Nat):step false k=k:=rfl
theorem F8 {l:List E0}{k:Nat}{t:Str}(h:isT l k t=true):k < l.length:=by
 unfold isT at h
 split at h
 ·rename_i hx; exact Jf hx
 ·cases h
theorem Q10 {l:List E0}{k:Nat}{c:Int}(h:O8 l k c=true):k < l.length:=by
 unfold O8 at h
 split at h
 ·rename_i hx; exact Jf hx
 ·cases h
theorem Jk {l:List E0}{k:Nat}{t:Str}(h:isT l k t=true):O8 l k 0=false∧O8 l k 1=false∧txt l k=t:=by
 unfold isT at h
 unfold O8 txt
 split at h
 ·rename_i x hx
  rw [Bool.and_eq_true] at h
  have ht:=eq_of_beq h.1
  rw [Bool.or_eq_true] at h
  rcases h.2 with h2 | h2 <;> rw [eq_of_beq h2] <;> exact ⟨rfl,rfl,ht⟩
 ·cases h
section
set_option linter.unusedSectionVars false
variable (l:List E0)(e:Int)(hl:l.length≤BB)
include hl
theorem I1a (k:Nat)(t:Str):Y4 t (mk l k e)=some (isT l k t):=by
 unfold Y4 isT
 simp only
 cases h:l[k]? with
 | none=>rw [O13 h,if_pos rfl]
 | some x=>
  rw [dge h,if_neg (by simp),Ki,h,ob]
  show some _=some (x.Text == t&&(x.Kind == 2||x.Kind == 3))
  cases x.Text == t <;> cases x.Kind == 2 <;> rfl
theorem R4 (k:Nat)(t:Str):J0 t (mk l k e)=some (isT l k t,mk l (step (isT l k t) k) e):=by
 unfold J0
 rw [I1a l e hl,ob]
 cases h:isT l k t with
 | false=>rfl
 | true=>
  have:=F8 h
  simp only [Bool.not_true,Bool.false_eq_true,if_false]
  rw [w1 (by omega)]
  rfl
theorem S16 (k:Nat):N3 (mk l k e)=some (O8 l k 0):=by
 unfold N3 O8
 simp only
 cases h:l[k]? with
 | none=>rw [P10 h,if_neg (by simp),ob]; rfl
 | some x=>rw [dlt h,if_pos rfl,Ki,h,ob]; rfl
theorem R10 (k:Nat):O3 (mk l k e)=some (.pn (off l e k)):=by
 unfold O3 off
 simp only
 cases h:l[k]? with
 | none=>rw [P10 h,if_neg (by simp)]
 | some x=>rw [dlt h,if_pos rfl,Ki,h,ob]
theorem D15 (k:Nat)(c:Int):C4 c (mk l k e)=if O8 l k c=true then some (.ok (txt l k,mk l (k+1) e)) else some (.pn (off l e k)):=by
 unfold C4
 rw [R10 l e hl,ob]
 unfold O8 txt
 simp only
 cases h:l[k]? with
 | none=>rw [O13 h,Bool.not_true,if_neg (by simp),ob,cond_true,if_pos rfl,if_neg (by simp)]
 | some x=>
  have:=Jf h
  rw [dge h,Bool.not_false,if_pos rfl,Ki,h,ob,cond_false]
  cases hk:x.Kind == c with
  | false=>simp only [bne,hk,Bool.not_false,if_true,Bool.false_eq_true,if_false]
  | true=>
   simp only [bne,hk,Bool.not_true,Bool.false_eq_true,if_false,if_true]
   unfold W3
   simp only
   rw [w1 (by omega),wr (n:=((k+1:Nat):Int) - 1) (by omega) (by unfold BB at *; omega),show ((k+1:Nat):Int) - 1=(k:Int) by omega,Ki,h,ob]
theorem E15 (k:Nat):E2 (mk l k e)=if O8 l k 0=true then some (.ok (txt l k,mk l (k+1) e)) else some (.pn (off l e k)):=by
 unfold E2
 rw [D15 l e hl]
 cases O8 l k 0 <;> rfl
theorem Gn (k:Nat)(t:Str):N0 t (mk l k e)=if isT l k t=true then some (.ok (mk l (k+1) e)) else some (.pn (off l e k)):=by
 unfold N0
 rw [R4 l e hl,ob]
 cases h:isT l k t with
 | true=>rfl
 | false=>
  simp only [Bool.not_false,if_true,step,cond_false,Bool.false_eq_true,if_false]
  rw [R10 l e hl,ob]
theorem Rb (k:Nat)(t:Str):Y0 l k t=some (isT l k t):=by
 unfold Y0 isT
 cases h:l[k]? with
 | none=>rw [P10 h]; rfl
 | some x=>
  rw [dlt h,Ki,h]
  simp only [if_true,ob,Bool.true_and,cond_true]
  by_cases h2:x.Kind=2 <;> by_cases h3:x.Kind=3 <;> by_cases ht:x.Text=t <;> first | (simp [ob,h2,h3,ht]; done) | (simp [ob,h2,h3,ht]; rw [beq_eq_false_iff_ne.2 h2,beq_eq_false_iff_ne.2 h3]; simp)
theorem S10 (k:Nat):E6 l k=if O8 l k 0=true then some (txt l k,((k+1:Nat):Int),true) else some ([],(k:Int),false):=by
 unfold E6 O8 txt
 cases h:l[k]? with
 | none=>rw [P10 h]; rfl
 | some x=>
  have:=Jf h
  rw [dlt h,Ki,h,if_pos rfl,ob,cond_true,w1 (by omega)]
  show _=if (x.Kind == 0)=true then some (x.Text,((k+1:Nat):Int),true) else some ([],(k:Int),false)
  cases h2:x.Kind == 0 <;> rfl
end
end Go.Proofs.YtmnhfbekncjnfaaGreatDoor

namespace Go.Proofs.YtmnhfbekncjnfaaGreatDoor
open Go.Am
structure Tok (x:E0):Prop where
 len:x.Text.length≤8192
 word:x.Kind=2→∃ c t,x.Text=c::t∧V7 c.toNat=true
 num:x.Kind=1→x.Text≠[]∧x.Text.all (fun c=>W6 c.toNat)=true∧x.Text.length≤7∧nv 0 x.Text≤1048576
def Lc (l:List E0):Prop:=l.length≤BB∧∀ x∈l,Tok x
theorem B12 {l:List E0}(h:Lc l)(k:Nat):(txt l k).length≤8192:=by
 unfold txt
 cases hx:l[k]? with
 | none=>simp
 | some x=>exact (h.2 x (List.mem_of_getElem? hx)).len
def isS (l:List E0)(k:Nat)(t:Str):Bool:=match l[k]? with
 | some x=>x.Kind == 3&&x.Text == t
 | none=>false
def B17 (t:Str):Bool:=match t with
 | c::_=>!V7 c.toNat
 | []=>true
theorem H9 {l:List E0}(h:Lc l){k:Nat}{t:Str}(ht:B17 t=true):isT l k t=isS l k t:=by
 unfold isT isS
 cases hx:l[k]? with
 | none=>rfl
 | some x=>
  simp only
  by_cases h2:x.Kind=2
  ·obtain ⟨c,r,e,hc⟩:=(h.2 x (List.mem_of_getElem? hx)).word h2
   have:(x.Text == t)=false:=beq_eq_false_iff_ne.2 fun he=>by
    rw [← he,e] at ht
    simp [B17,hc] at ht
   rw [this,h2]
   rfl
  ·rw [beq_eq_false_iff_ne.2 h2,Bool.false_or,Bool.and_comm]
def opT (t:Str):Int×Int:=
 if t == [124,124] then (20,1) else if t == [38,38] then (19,2) else if t == [61,61] then (13,3) else if t == [33,61] then (14,3) else if t == [60] then (15,3) else if t == [60,61] then (16,3)
 else if t == [62] then (17,3) else if t == [62,61] then (18,3) else if t == [43] then (8,4) else if t == [45] then (9,4) else if t == [42] then (10,5) else if t == [47] then (11,5) else if t == [37] then (12,5) else (0,0)
def ops:List Str:=[[124,124],[38,38],[61,61],[33,61],[60],[60,61],[62],[62,61],[43],[45],[42],[47],[37]]
theorem Bg (t:Str):t∈ops∨∀ s∈ops,(t == s)=false:=by
 by_cases h:t∈ops
 ·exact .inl h
 ·exact .inr fun s hs=>beq_eq_false_iff_ne.2 fun e=>h (e ▸ hs)
theorem Kk (l:List E0)(k:Nat)(n:Int):I3 l k n=some (match l[k]? with
  | some x=>if x.Kind == 3 then ((opT x.Text).1,(opT x.Text).2 == n) else (0,false)
  | none=>(0,false)):=by
 unfold I3
 cases h:l[k]? with
 | none=>rw [O13 h,Bool.not_true,if_neg (by simp),ob,cond_true,if_pos rfl]
 | some x=>
  rw [dge h,Bool.not_false,if_pos rfl,Ki,h,ob,cond_false]
  cases h3:x.Kind == 3 with
  | false=>simp only [bne,h3,Bool.not_false,if_true,Bool.false_eq_true,if_false]
  | true=>
   simp only [bne,h3,Bool.not_true,Bool.false_eq_true,if_false,if_true,ob]
   unfold opT
   generalize (x.Text == [124,124])=b0
   generalize (x.Text == [38,38])=b1
   generalize (x.Text == [61,61])=b2
   generalize (x.Text == [33,61])=b3
   generalize (x.Text == [60])=b4
   generalize (x.Text == [60,61])=b5
   generalize (x.Text == [62])=b6
   generalize (x.Text == [62,61])=b7
   generalize (x.Text == [43])=b8
   generalize (x.Text == [45])=b9
   generalize (x.Text == [42])=b10
   generalize (x.Text == [47])=b11
   generalize (x.Text == [37])=b12
   cases b0 with
   | true=>rfl
   | false=>
    cases b1 with
    | true=>rfl
    | false=>
     cases b2 with
     | true=>rfl
     | false=>
      cases b3 with
      | true=>rfl
      | false=>
       cases b4 with
       | true=>rfl
       | false=>
        cases b5 with
        | true=>rfl
        | false=>
         cases b6 with
         | true=>rfl
         | false=>
          cases b7 with
          | true=>rfl
          | false=>
           cases b8 with
           | true=>rfl
           | false=>
            cases b9 with
            | true=>rfl
            | false=>
             cases b10 with
             | true=>rfl
             | false=>
              cases b11 with
              | true=>rfl
              | false=>
               cases b12 with
               | true=>rfl
               | false=>
                rfl
theorem Vv (op:Int)(a b:A0):Ce op a b=some (A0.mk op 0 [] [a,b]):=rfl
theorem Lk {t:Str}(h:∀ s∈ops,(t == s)=false):opT t=(0,0):=by
 unfold opT
 have a:=fun s hs=>h s hs
 rw [a [124,124] (by decide),a [38,38] (by decide),a [61,61] (by decide),a [33,61] (by decide),a [60] (by decide),a [60,61] (by decide),a [62] (by decide),a [62,61] (by decide),a [43] (by decide),a [45] (by decide),a [42] (by decide),a [47] (by decide),a [37] (by decide)]
 rfl
theorem T19 (t:Str):((opT t).2 == 1)=(t == [124,124])∧(((opT t).2 == 1)=true→(opT t).1=(20:Int)):=by
 rcases Bg t with h | h
 ·simp only [ops,List.mem_cons,List.not_mem_nil,or_false] at h
  rcases h with rfl | rfl | rfl | rfl | rfl | rfl | rfl | rfl | rfl | rfl | rfl | rfl | rfl <;> decide
 ·rw [Lk h,h [124,124] (by decide)]
  decide
theorem Y18 (t:Str):((opT t).2 == 2)=(t == [38,38])∧(((opT t).2 == 2)=true→(opT t).1=(19:Int)):=by
 rcases Bg t with h | h
 ·simp only [ops,List.mem_cons,List.not_mem_nil,or_false] at h
  rcases h with rfl | rfl | rfl | rfl | rfl | rfl | rfl | rfl | rfl | rfl | rfl | rfl | rfl <;> decide
 ·rw [Lk h,h [38,38] (by decide)]
  decide
theorem Z18 (t:Str):((opT t).2 == 4)=(t == [43]||t == [45])∧(((opT t).2 == 4)=true→(opT t).1=(if t == [43] then 8 else 9:Int)):=by
 rcases Bg t with h | h
 ·simp only [ops,List.mem_cons,List.not_mem_nil,or_false] at h
  rcases h with rfl | rfl | rfl | rfl | rfl | rfl | rfl | rfl | rfl | rfl | rfl | rfl | rfl <;> decide
 ·rw [Lk h,h [43] (by decide),h [45] (by decide)]
  decide
theorem Y17 (t:Str):((opT t).2 == 5)=(t == [42]||t == [47]||t == [37])∧(((opT t).2 == 5)=true→(opT t).1=(if t == [42] then 10 else if t == [47] then 11 else 12:Int)):=by
 rcases Bg t with h | h
 ·simp only [ops,List.mem_cons,List.not_mem_nil,or_false] at h
  rcases h with rfl | rfl | rfl | rfl | rfl | rfl | rfl | rfl | rfl | rfl | rfl | rfl | rfl <;> decide
 ·rw [Lk h,h [42] (by decide),h [47] (by decide),h [37] (by decide)]
  decide
theorem A19 (t:Str):((opT t).2 == 3)=(t == [61,61]||t == [33,61]||t == [60]||t == [60,61]||t == [62]||t == [62,61])∧(((opT t).2 == 3)=true→(opT t).1=(if t == [61,61] then 13 else if t == [33,61] then 14 else if t == [60] then 15 else if t == [60,61] then 16 else if t == [62] then 17 else 18:Int)):=by
 rcases Bg t with h | h
 ·simp only [ops,List.mem_cons,List.not_mem_nil,or_false] at h
  rcases h with rfl | rfl | rfl | rfl | rfl | rfl | rfl | rfl | rfl | rfl | rfl | rfl | rfl <;> decide
 ·rw [Lk h,h [61,61] (by decide),h [33,61] (by decide),h [60] (by decide),h [60,61] (by decide),h [62] (by decide),h [62,61] (by decide)]
  decide
theorem Wv:∀ (r:List UInt8) (n:Nat),r.all (fun c=>W6 c.toNat)=true→Lib.decFrom n r=some (nv n r)
 | [],n,_=>by rw [Fn]; rfl
 | c::r,n,h=>by
  rw [List.all_cons,Bool.and_eq_true] at h
  have hc:=Ze.1 h.1
  have hd:Lib.digitVal c=some (c.toNat - 48):=if_pos hc
  unfold Lib.decFrom
  rw [hd,Yg,Nat.mul_comm 10 n]
  exact Wv r _ h.2
theorem Z17 {s:Str}(hne:s≠[])(h:s.all (fun c=>W6 c.toNat)=true):Lib.atoi s=some (nv 0 s:Int):=by
 cases s with
 | nil=>exact absurd rfl hne
 | cons c r=>
  have hc:=Ze.1 (by rw [List.all_cons,Bool.and_eq_true] at h; exact h.1)
  have h1:(c == 45)=false:=beq_eq_false_iff_ne.2 fun e=>by rw [e] at hc; exact absurd hc.1 (by decide)
  have h2:(c == 43)=false:=beq_eq_false_iff_ne.2 fun e=>by rw [e] at hc; exact absurd hc.1 (by decide)
  unfold Lib.atoi
  simp only [h1,h2,Bool.false_eq_true,if_false]
  unfold Lib.decNat
  rw [if_neg (by simp),Wv _ 0 h]
  rfl
theorem A18 {s:Str}(hne:s≠[])(h:s.all (fun c=>W6 c.toNat)=true)(hl:s.length≤7):Im s=some (nv 0 s:Int):=by
 unfold Im
 rw [if_pos (decide_eq_true (by omega)),Z17 hne h]
section
set_option linter.unusedSectionVars false
variable (l:List E0)(e:Int)(hl:Lc l)
include hl
theorem Bi {k:Nat}{t:Str}(h:isS l k t=true):k < l.length:=by
 unfold isS at h
 split at h
 ·rename_i hx; exact Jf hx
 ·cases h
theorem U19 (k:Nat):∃ o b,Z4 (mk l k e)=some (20,b,mk l (step b k) e)∧I3 l k 1=some (o,b)∧(b=true→o=20∧k < l.length):=by
 unfold Z4
 rw [R4 l e hl.1,H9 hl rfl,ob,Kk]
 have hlt:=Bi l hl (k:=k) (t:=[124,124])
 revert hlt
 unfold isS
 cases h:l[k]? with
 | none=>exact fun _=>⟨_,_,rfl,rfl,nofun⟩
 | some x=>
  simp only
  obtain ⟨h1,h2⟩:=T19 x.Text
  cases hk:x.Kind == 3 with
  | false=>exact fun _=>⟨_,_,rfl,rfl,nofun⟩
  | true=>
   simp only [Bool.true_and,if_true,h1]
   rw [h1] at h2
   exact fun hlt=>⟨_,_,rfl,rfl,fun hb=>⟨h2 hb,hlt hb⟩⟩
theorem B19 (k:Nat):∃ o b,M4 (mk l k e)=some (19,b,mk l (step b k) e)∧I3 l k 2=some (o,b)∧(b=true→o=19∧k < l.length):=by
 unfold M4
 rw [R4 l e hl.1,H9 hl rfl,ob,Kk]
 have hlt:=Bi l hl (k:=k) (t:=[38,38])
 revert hlt
 unfold isS
 cases h:l[k]? with
 | none=>exact fun _=>⟨_,_,rfl,rfl,nofun⟩
 | some x=>
  simp only
  obtain ⟨h1,h2⟩:=Y18 x.Text
  cases hk:x.Kind == 3 with
  | false=>exact fun _=>⟨_,_,rfl,rfl,nofun⟩
  | true=>
   simp only [Bool.true_and,if_true,h1]
   rw [h1] at h2
   exact fun hlt=>⟨_,_,rfl,rfl,fun hb=>⟨h2 hb,hlt hb⟩⟩
theorem V19 (k:Nat):∃ o,I3 l k 4=some (o,(isS l k [43]||isS l k [45]))∧((isS l k [43]||isS l k [45])=true→o=(if isS l k [43] then 8 else 9:Int)):=by
 rw [Kk]
 unfold isS
 cases h:l[k]? with
 | none=>exact ⟨_,rfl,nofun⟩
 | some x=>
  simp only
  obtain ⟨h1,h2⟩:=Z18 x.Text
  rcases Bool.eq_false_or_eq_true (x.Kind == 3) with hk | hk
  ·rw [h1] at h2
   simp only [hk,Bool.true_and,if_true,h1]
   exact ⟨_,rfl,h2⟩
  ·simp only [hk,Bool.false_and,Bool.or_false,Bool.false_eq_true,if_false]
   exact ⟨_,rfl,nofun⟩
theorem C19 (k:Nat):∃ o,I3 l k 5=some (o,(isS l k [42]||isS l k [47]||isS l k [37]))∧((isS l k [42]||isS l k [47]||isS l k [37])=true→o=(if isS l k [42] then 10 else if isS l k [47] then 11 else 12:Int)):=by
 rw [Kk]
 unfold isS
 cases h:l[k]? with
 | none=>exact ⟨_,rfl,nofun⟩
 | some x=>
  simp only
  obtain ⟨h1,h2⟩:=Y17 x.Text
  rcases Bool.eq_false_or_eq_true (x.Kind == 3) with hk | hk
  ·rw [h1] at h2
   simp only [hk,Bool.true_and,if_true,h1]
   exact ⟨_,rfl,h2⟩
  ·simp only [hk,Bool.false_and,Bool.or_false,Bool.false_eq_true,if_false]
   exact ⟨_,rfl,nofun⟩
theorem W19 (k:Nat):∃ o,I3 l k 3=some (o,(isS l k [61,61]||isS l k [33,61]||isS l k [60]||isS l k [60,61]||isS l k [62]||isS l k [62,61]))∧((isS l k [61,61]||isS l k [33,61]||isS l k [60]||isS l k [60,61]||isS l k [62]||isS l k [62,61])=true→o=(if isS l k [61,61] then 13 else if isS l k [33,61] then 14 else if isS l k [60] then 15 else if isS l k [60,61] then 16 else if isS l k [62] then 17 else 18:Int)):=by
 rw [Kk]
 unfold isS
 cases h:l[k]? with
 | none=>exact ⟨_,rfl,nofun⟩
 | some x=>
  simp only
  obtain ⟨h1,h2⟩:=A19 x.Text
  rcases Bool.eq_false_or_eq_true (x.Kind == 3) with hk | hk
  ·rw [h1] at h2
   simp only [hk,Bool.true_and,if_true,h1]
   exact ⟨_,rfl,h2⟩
  ·simp only [hk,Bool.false_and,Bool.or_false,Bool.false_eq_true,if_false]
   exact ⟨_,rfl,nofun⟩
theorem D19 (k:Nat):∃ o o' b,L4 (mk l k e)=some (o',b,mk l (step b k) e)∧I3 l k 4=some (o,b)∧(b=true→o=o'∧k < l.length):=by
 obtain ⟨o,h1,h2⟩:=V19 l hl k
 unfold L4
 rw [R4 l e hl.1,H9 hl rfl,ob]
 cases ha:isS l k [43] with
 | true=>rw [ha] at h1 h2; exact ⟨_,_,_,rfl,h1,fun _=>⟨h2 rfl,Bi l hl ha⟩⟩
 | false=>
  rw [ha] at h1 h2
  simp only [step,cond_false,Bool.false_eq_true,if_false]
  rw [R4 l e hl.1,H9 hl rfl,ob]
  exact ⟨_,_,isS l k [45],rfl,h1,fun hb=>⟨h2 (by rw [hb]; rfl),Bi l hl hb⟩⟩
theorem B18 (k:Nat):∃ o o' b,K3 (mk l k e)=some (o',b,mk l (step b k) e)∧I3 l k 5=some (o,b)∧(b=true→o=o'∧k < l.length):=by
 obtain ⟨o,h1,h2⟩:=C19 l hl k
 unfold K3
 rw [R4 l e hl.1,H9 hl rfl,ob]
 cases ha:isS l k [42] with
 | true=>rw [ha] at h1 h2; exact ⟨_,_,_,rfl,h1,fun _=>⟨h2 rfl,Bi l hl ha⟩⟩
 | false=>
  rw [ha] at h1 h2
  simp only [step,cond_false,Bool.false_eq_true,if_false]
  rw [R4 l e hl.1,H9 hl rfl,ob]
  cases hb:isS l k [47] with
  | true=>rw [hb] at h1 h2; exact ⟨_,_,_,rfl,h1,fun _=>⟨h2 rfl,Bi l hl hb⟩⟩
  | false=>
   rw [hb] at h1 h2
   simp only [step,cond_false,Bool.false_eq_true,if_false]
   rw [R4 l e hl.1,H9 hl rfl,ob]
   exact ⟨_,_,isS l k [37],rfl,h1,fun hc=>⟨h2 (by rw [hc]; rfl),Bi l hl hc⟩⟩
def Xv (k:Nat):Int:=(nv 0 (txt l k):Int)
theorem T16 (k:Nat):D3 (mk l k e)=if O8 l k 1=true then some (.ok (Xv l k,mk l (k+1) e)) else some (.pn (off l e k)):=by
 unfold D3
 rw [D15 l e hl.1]
 cases h:O8 l k 1 with
 | false=>rfl
 | true=>
  have hx:Im (txt l k)=some (Xv l k):=by
   unfold O8 at h
   unfold Xv txt
   cases hk:l[k]? with
   | none=>rw [hk] at h; cases h
   | some x=>
    rw [hk] at h
    obtain ⟨n1,n2,n3,_⟩:=(hl.2 x (List.mem_of_getElem? hk)).num (eq_of_beq h)
    exact A18 n1 n2 n3
  rw [if_pos rfl,ob]
  simp only [hx,ob]
  rfl
theorem T10 (x:E0)(k:Nat)(hx:l[k]?=some x)(hall:x.Text.all (fun c=>W6 c.toNat)=true)(hnv:nv 0 x.Text≤1048576)(hlen:x.Text.length≤7) :
  ∀ (r:Str) (i m:Nat),x.Text.drop i=r→nv m r≤1048576→r.all (fun c=>W6 c.toNat)=true→P5 l k m i=some ((nv m r:Int),((k+1:Nat):Int),true):=by
 have hk:=Jf hx
 have hB:=hl.1
 intro r
 induction r with
 | nil=>
  intro i m h hm _
  rw [P5,Ki,hx,ob,(U6 h).1,if_neg (by simp),w1 (by omega),Fn]
 | cons c r ih=>
  intro i m h hm ha
  obtain ⟨h1,h2,h3,h4,_⟩:=J8 h
  rw [List.all_cons,Bool.and_eq_true] at ha
  rw [Yg] at hm ⊢
  have hc:=Ze.1 ha.1
  have hle:=A17 r (10 * m+(c.toNat - 48))
  have e1:IntKind.i64.wrap (IntKind.i64.wrap (10 * (m:Int))+IntKind.i64.wrap (IntKind.u8.wrap ((c.toNat:Int) - 48)))=((10 * m+(c.toNat - 48):Nat):Int):=by
   rw [O16 ha.1,wr (n:=10 * (m:Int)) (by omega) (by omega),wr (by omega) (by omega)]; omega
  rw [P5,Ki,hx,ob,h1,if_pos rfl,ob,h2,ob,e1,w1 (by unfold BB; omega)]
  exact ih (i+1) _ h3 hm ha.2
theorem U10 (k:Nat):Q9 l k=if O8 l k 1=true then some (Xv l k,((k+1:Nat):Int),true) else some (0,(k:Int),false):=by
 unfold Q9 O8 Xv txt
 cases h:l[k]? with
 | none=>rw [O13 h,Bool.not_true,if_neg (by simp),ob,cond_true,if_pos rfl,if_neg (by simp)]
 | some x=>
  rw [dge h,Bool.not_false,if_pos rfl,Ki,h,ob,cond_false]
  simp only
  cases hk:x.Kind == 1 with
  | false=>simp only [bne,hk,Bool.not_false,if_true,Bool.false_eq_true,if_false]
  | true=>
   simp only [bne,hk,Bool.not_true,Bool.false_eq_true,if_false,if_true]
   obtain ⟨n1,n2,n3,n4⟩:=(hl.2 x (List.mem_of_getElem? h)).num (eq_of_beq hk)
   exact T10 l hl x k h n2 n4 n3 x.Text 0 0 rfl n4 n2
end
end Go.Proofs.YtmnhfbekncjnfaaGreatDoor

namespace Go.Proofs.YtmnhfbekncjnfaaGreatDoor
open Go.Am
def J {α:Type}(l:List E0)(e:Int)(lo:Nat)(P:α→Nat→Prop)(p:Option (Pn (α×B0)))(r:Option (α×Int×Bool)):Prop:=
 (∃ v j,lo≤j∧j≤l.length∧P v j∧p=some (.ok (v,mk l j e))∧r=some (v,((j:Nat):Int),true))∨
 (∃ v j,j≤l.length∧p=some (.pn (off l e j))∧r=some (v,((j:Nat):Int),false))
section
variable {l:List E0}{e:Int}{α β:Type}
theorem J.ok {lo:Nat}{P:α→Nat→Prop}(v:α)(j:Nat)(h1:lo≤j)(h2:j≤l.length)(hP:P v j):J l e lo P (some (.ok (v,mk l j e))) (some (v,((j:Nat):Int),true)):=.inl ⟨v,j,h1,h2,hP,rfl,rfl⟩
theorem J.pn {lo:Nat}{P:α→Nat→Prop}(v:α)(j:Nat)(h2:j≤l.length):J l e lo P (some (.pn (off l e j))) (some (v,((j:Nat):Int),false)):=.inr ⟨v,j,h2,rfl,rfl⟩
theorem J.mono {lo lo':Nat}{P P':α→Nat→Prop}{p:Option (Pn (α×B0))}{r:Option (α×Int×Bool)}(h:J l e lo P p r)(hl:lo'≤lo)(hP:∀ v j,lo≤j→P v j→P' v j):J l e lo' P' p r:=by
 rcases h with ⟨v,j,h1,h2,h0,h3,h4⟩ | h
 ·exact .inl ⟨v,j,Nat.le_trans hl h1,h2,hP v j h1 h0,h3,h4⟩
 ·exact .inr h
theorem J.bind {lo lo':Nat}{P:α→Nat→Prop}{Q:β→Nat→Prop}{p:Option (Pn (α×B0))}{r:Option (α×Int×Bool)}(h:J l e lo P p r){F:Pn (α×B0)→Option (Pn (β×B0))}{g:α×Int×Bool→Option (β×Int×Bool)}(hF:∀ n,F (.pn n)=some (.pn n))
  (hg:∀ v (j:Nat),j≤l.length→∃ v',g (v,(j:Int),false)=some (v',(j:Int),false)) (hf:∀ v (j:Nat),lo≤j→j≤l.length→P v j→J l e lo' Q (F (.ok (v,mk l j e))) (g (v,(j:Int),true))) :
  J l e lo' Q (p>>=F) (r>>=g):=by
 rcases h with ⟨v,j,h1,h2,h0,rfl,rfl⟩ | ⟨v,j,h2,rfl,rfl⟩
 ·exact hf v j h1 h2 h0
 ·obtain ⟨v',hv⟩:=hg v j h2
  rw [ob,ob,hv,hF]
  exact .pn v' j h2
theorem J.same {lo:Nat}{P:α→Nat→Prop}{p:Option (Pn (α×B0))}{r:Option (α×Int×Bool)}(h:J l e lo P p r){F:Pn (α×B0)→Option (Pn (α×B0))}(hF:∀ n,F (.pn n)=some (.pn n))(hF2:∀ x,F (.ok x)=some (.ok (x.1,x.2))):J l e lo P (p>>=F) r:=by
 rcases h with ⟨v,j,h1,h2,h0,rfl,rfl⟩ | ⟨v,j,h2,rfl,rfl⟩
 ·rw [ob,hF2]; exact .ok v j h1 h2 h0
 ·rw [ob,hF]; exact .pn v j h2
theorem J.rsame {lo:Nat}{P:α→Nat→Prop}{p:Option (Pn (α×B0))}{r:Option (α×Int×Bool)}(h:J l e lo P p r):J l e lo P p (r>>=fun x=>some (x.1,x.2.1,x.2.2)):=by
 rcases h with ⟨v,j,h1,h2,h0,rfl,rfl⟩ | ⟨v,j,h2,rfl,rfl⟩
 ·exact .ok v j h1 h2 h0
 ·exact .pn v j h2
end
def BE (k:Nat)(v:A0)(j:Nat):Prop:=v.bulk≤9000 * (j - k)
def BO (o:Nat)(k:Nat)(v:A0)(j:Nat):Prop:=v.bulk≤o+9000 * (j - k)
theorem Yv (op n:Int)(s:Str):(A0.mk op n s []).bulk=s.length+5:=by rw [A0.bulk_eq]; rfl
theorem C17 (op n:Int)(s:Str)(a:A0):(A0.mk op n s [a]).bulk=s.length+a.bulk+5:=by rw [A0.bulk_eq]; simp only [A0.bulks]; omega
theorem My (op n:Int)(s:Str)(a b:A0):(A0.mk op n s [a,b]).bulk=s.length+a.bulk+b.bulk+5:=by rw [A0.bulk_eq]; simp only [A0.bulks]; omega
theorem X19 (op n:Int)(s:Str)(a b c:A0):(A0.mk op n s [a,b,c]).bulk=s.length+a.bulk+b.bulk+c.bulk+5:=by rw [A0.bulk_eq]; simp only [A0.bulks]; omega
structure PE (l:List E0)(e:Int)(k:Nat):Prop where
 expr:J l e (k+1) (BE k) (O0 (mk l k e)) (O1 l k)
 un:J l e (k+1) (BE k) (F2 (mk l k e)) (F9 l k)
 prodL:∀ o,J l e k (BO o.bulk k) (B2 (mk l k e) o) (U1 l 5 o k)
 prod:J l e (k+1) (BE k) (X2 (mk l k e)) (Q1 l k 5)
 sumL:∀ o,J l e k (BO o.bulk k) (A2 (mk l k e) o) (U1 l 4 o k)
 sum:J l e (k+1) (BE k) (J3 (mk l k e)) (Q1 l k 4)
 cmp:J l e (k+1) (BE k) (N2 (mk l k e)) (Q1 l k 3)
 andL:∀ o,J l e k (BO o.bulk k) (Z1 (mk l k e) o) (U1 l 2 o k)
 and:J l e (k+1) (BE k) (U3 (mk l k e)) (Q1 l k 2)
 orL:∀ o,J l e k (BO o.bulk k) (L2 (mk l k e) o) (U1 l 1 o k)
 or:J l e (k+1) (BE k) (A5 (mk l k e)) (Q1 l k 1)
 placeL:∀ op name kids,J l e k (BO (A0.mk op 0 name kids).bulk k) (T2 (mk l k e) op name kids) (T7 l op 0 name kids k)
section
set_option linter.unusedSectionVars false
variable {l:List E0}{e:Int}(hl:Lc l)
include hl
theorem Sr {k:Nat}{n:Int}{o:A0}{un:B0→Option (Pn (A0×B0))}{chain:B0→A0→Option (Pn (A0×B0))}{b:Bool}{op op':Int}{F:Pn (A0×B0)→Option (Pn (A0×B0))}(hF:∀ n,F (.pn n)=some (.pn n))(hF2:∀ x,F (.ok x)=chain x.2 (A0.mk op' 0 [] [o,x.1]))(hk:k≤l.length)(hn:n≠3)
  (hb:I3 l k n=some (op,b)) (hop:b=true→op=op'∧k < l.length)
  (hun:k < l.length→J l e (k+2) (BE (k+1)) (un (mk l (k+1) e)) (Q1 l ((k+1:Nat):Int) (IntKind.i64.wrap (n+1))))
  (hch:∀ j,k < j→j≤l.length→∀ o,J l e j (BO o.bulk j) (chain (mk l j e) o) (U1 l n o (j:Int))) :
  J l e k (BO o.bulk k) (if (!b)=true then some (.ok (o,mk l (step b k) e)) else un (mk l (step b k) e)>>=F) (U1 l n o (k:Int)):=by
 rw [U1,hb,ob]
 cases b with
 | false=>exact .ok o k (Nat.le_refl _) hk (by unfold BO; omega)
 | true=>
  obtain ⟨rfl,hlt⟩:=hop rfl
  have hB:=hl.1
  simp only [Bool.not_true,Bool.false_eq_true,if_false,step,cond_true]
  rw [w1 (by omega)]
  refine J.bind (hun hlt) hF ?_ ?_
  ·exact fun v j hj=>⟨v,rfl⟩
  intro v j h1 h2 h0
  simp only [Bool.not_true,Bool.false_eq_true,if_false,Vv,ob,beq_eq_false_iff_ne.2 hn]
  rw [hF2]
  refine (hch j (by omega) h2 _).mono (by omega) fun v' j' h3 h4=>?_
  unfold BO at h4 ⊢
  unfold BE at h0
  rw [My] at h4
  simp only [List.length_nil] at h4
  omega
theorem F15 (k:Nat)(n:Nat)(hn:n < 6):Q1 l k n=(Q1 l k ((n+1:Nat):Int)>>=fun x2=>if (!x2.2.2)=true then some (x2.1,x2.2.1,false) else U1 l n x2.1 x2.2.1):=by
 rw [Q1,if_neg (by simp; omega),w1 (by unfold BB; omega)]
theorem C12 (k:Nat):Q1 l k 6=(F9 l k>>=fun x1=>some (x1.1,x1.2.1,x1.2.2)):=by
 rw [Q1]
 simp only [beq_self_eq_true,if_true]
theorem Tr {k:Nat}{n:Nat}{p:Option (Pn (A0×B0))}{chain:B0→A0→Option (Pn (A0×B0))}{F:Pn (A0×B0)→Option (Pn (A0×B0))}(hF:∀ n,F (.pn n)=some (.pn n))(hF2:∀ x,F (.ok x)=chain x.2 x.1)(hn:n < 6)(h:J l e (k+1) (BE k) p (Q1 l k ((n+1:Nat):Int)))
  (hch:∀ j,k < j→j≤l.length→∀ o,J l e j (BO o.bulk j) (chain (mk l j e) o) (U1 l n o (j:Int))) :
  J l e (k+1) (BE k) (p>>=F) (Q1 l k n):=by
 rw [F15 hl k n hn]
 refine J.bind h hF ?_ ?_
 ·exact fun v j _=>⟨v,rfl⟩
 ·intro v j h1 h2 h0
  rw [hF2]
  refine (hch j (by omega) h2 v).mono h1 fun v' j' h3 h4=>?_
  unfold BO at h4
  unfold BE at h0 ⊢
  omega
section
variable {k:Nat}(hk:k≤l.length)(IH:∀ j,k < j→j≤l.length→PE l e j)
include hk IH
theorem C18 (o:A0):J l e k (BO o.bulk k) (B2 (mk l k e) o) (U1 l 5 o k):=by
 obtain ⟨op,op',b,h1,h2,h3⟩:=B18 l e hl k
 rw [B2,h1,ob]
 have hB:=hl.1
 refine Sr hl (chain:=B2) (fun _=>rfl) (fun _=>rfl) hk (by decide) h2 h3 (fun hlt=>?_) fun j h4 h5 o=>(IH j h4 h5).prodL o
 rw [show IntKind.i64.wrap (5+1)=6 by decide,C12 hl]
 exact J.rsame (IH (k+1) (by omega) (by omega)).un
theorem E19 (o:A0):J l e k (BO o.bulk k) (A2 (mk l k e) o) (U1 l 4 o k):=by
 obtain ⟨op,op',b,h1,h2,h3⟩:=D19 l e hl k
 rw [A2,h1,ob]
 refine Sr hl (chain:=A2) (fun _=>rfl) (fun _=>rfl) hk (by decide) h2 h3 (fun hlt=>?_) fun j h4 h5 o=>(IH j h4 h5).sumL o
 rw [show IntKind.i64.wrap (4+1)=5 by decide]
 exact (IH (k+1) (by omega) (by omega)).prod
theorem F19 (o:A0):J l e k (BO o.bulk k) (Z1 (mk l k e) o) (U1 l 2 o k):=by
 obtain ⟨op,b,h1,h2,h3⟩:=B19 l e hl k
 rw [Z1,h1,ob]
 refine Sr hl (chain:=Z1) (fun _=>rfl) (fun _=>rfl) hk (by decide) h2 h3 (fun hlt=>?_) fun j h4 h5 o=>(IH j h4 h5).andL o
 rw [show IntKind.i64.wrap (2+1)=3 by decide]
 exact (IH (k+1) (by omega) (by omega)).cmp
theorem Y19 (o:A0):J l e k (BO o.bulk k) (L2 (mk l k e) o) (U1 l 1 o k):=by
 obtain ⟨op,b,h1,h2,h3⟩:=U19 l e hl k
 rw [L2,h1,ob]
 refine Sr hl (chain:=L2) (fun _=>rfl) (fun _=>rfl) hk (by decide) h2 h3 (fun hlt=>?_) fun j h4 h5 o=>(IH j h4 h5).orL o
 rw [show IntKind.i64.wrap (1+1)=2 by decide]
 exact (IH (k+1) (by omega) (by omega)).and
theorem G19 (hu:J l e (k+1) (BE k) (F2 (mk l k e)) (F9 l k)):J l e (k+1) (BE k) (X2 (mk l k e)) (Q1 l k 5):=by
 rw [X2,B6]
 refine J.same ?_ (fun _=>rfl) fun _=>rfl
 refine Tr hl (n:=5) (chain:=B2) ?_ ?_ (by decide) ?_ fun j h4 h5 o=>(IH j h4 h5).prodL o
 ·exact fun _=>rfl
 ·exact fun _=>rfl
 show J l e (k+1) (BE k) _ (Q1 l k 6)
 rw [C12 hl]
 exact J.rsame hu
theorem Z19 (h:J l e (k+1) (BE k) (X2 (mk l k e)) (Q1 l k 5)):J l e (k+1) (BE k) (J3 (mk l k e)) (Q1 l k 4):=by
 rw [J3,A6]
 refine J.same ?_ (fun _=>rfl) fun _=>rfl
 refine Tr hl (n:=4) (chain:=A2) ?_ ?_ (by decide) h fun j h4 h5 o=>(IH j h4 h5).sumL o
 ·exact fun _=>rfl
 ·exact fun _=>rfl
theorem A1a (h:J l e (k+1) (BE k) (N2 (mk l k e)) (Q1 l k 3)):J l e (k+1) (BE k) (U3 (mk l k e)) (Q1 l k 2):=by
 rw [U3,Z5]
 refine J.same ?_ (fun _=>rfl) fun _=>rfl
 refine Tr hl (n:=2) (chain:=Z1) ?_ ?_ (by decide) h fun j h4 h5 o=>(IH j h4 h5).andL o
 ·exact fun _=>rfl
 ·exact fun _=>rfl
theorem J1a (h:J l e (k+1) (BE k) (U3 (mk l k e)) (Q1 l k 2)):J l e (k+1) (BE k) (A5 (mk l k e)) (Q1 l k 1):=by
 rw [A5,O7]
 refine J.same ?_ (fun _=>rfl) fun _=>rfl
 refine Tr hl (n:=1) (chain:=L2) ?_ ?_ (by decide) h fun j h4 h5 o=>(IH j h4 h5).orL o
 ·exact fun _=>rfl
 ·exact fun _=>rfl
end
end
end Go.Proofs.YtmnhfbekncjnfaaGreatDoor

namespace Go.Proofs.YtmnhfbekncjnfaaGreatDoor
open Go.Am
section
set_option linter.unusedSectionVars false
variable {l:List E0}{e:Int}(hl:Lc l)
include hl
section
variable {k:Nat}(hk:k≤l.length)(IH:∀ j,k < j→j≤l.length→PE l e j)
include hk IH
theorem H19 {op:Int}{x1:A0×B0}(hlt:k < l.length)(hop:I3 l k 3=some (op,true))(p:B0)(hp:p=mk l (k+1) e) :
  J l e k (BO x1.1.bulk k) (X0 p x1 op) (U1 l 3 x1.1 k):=by
 subst hp
 have hB:=hl.1
 rw [X0,U1,hop,ob]
 simp only [Bool.not_true,Bool.false_eq_true,if_false]
 rw [w1 (by omega),show IntKind.i64.wrap (3+1)=4 by decide]
 refine J.bind (IH (k+1) (by omega) (by omega)).sum ?_ ?_ ?_
 ·exact fun _=>rfl
 ·exact fun v j _=>⟨v,rfl⟩
 ·intro v j h1 h2 h0
  simp only [Bool.not_true,Bool.false_eq_true,if_false,Vv,ob,beq_self_eq_true,if_true]
  refine .ok _ j (by omega) h2 ?_
  unfold BO
  unfold BE at h0
  rw [My]
  simp only [List.length_nil]
  omega
theorem I19 (x1:A0×B0)(hx:x1.2=mk l k e):J l e k (BO x1.1.bulk k) (J0 [61,61] x1.2>>=fun x2=>
 if x2.1=true then
  X0 x2.2 x1 13
 else
  J0 [33,61] x2.2>>=fun x4=>
  if x4.1=true then
   X0 x4.2 x1 14
  else
   J0 [60] x4.2>>=fun x5=>
   if x5.1=true then
    X0 x5.2 x1 15
   else
    J0 [60,61] x5.2>>=fun x6=>
    if x6.1=true then
     X0 x6.2 x1 16
    else
     J0 [62] x6.2>>=fun x7=>
     if x7.1=true then
      X0 x7.2 x1 17
     else
      J0 [62,61] x7.2>>=fun x8=>
      if x8.1=true then
       X0 x8.2 x1 18
      else
       some (.ok (x1.1,x8.2))) (U1 l 3 x1.1 k):=by
 obtain ⟨o,h1,h2⟩:=W19 l hl k
 have done:∀ {t:Str} {op:Int},isS l k t=true→I3 l k 3=some (op,true)→J l e k (BO x1.1.bulk k) (X0 (mk l (step true k) e) x1 op) (U1 l 3 x1.1 k):=fun ht hop=>
  H19 hl hk IH (Bi l hl ht) hop _ rfl
 rw [hx,R4 l e hl.1,H9 hl rfl,ob]
 cases c0:isS l k [61,61] with
 | true=>rw [c0] at h1 h2; rw [h2 rfl] at h1; exact done c0 h1
 | false=>
  simp only [X9,Bool.false_eq_true,if_false]
  rw [R4 l e hl.1,H9 hl rfl,ob]
  cases c1:isS l k [33,61] with
  | true=>rw [c0,c1] at h1 h2; rw [h2 rfl] at h1; exact done c1 h1
  | false=>
   simp only [X9,Bool.false_eq_true,if_false]
   rw [R4 l e hl.1,H9 hl rfl,ob]
   cases c2:isS l k [60] with
   | true=>rw [c0,c1,c2] at h1 h2; rw [h2 rfl] at h1; exact done c2 h1
   | false=>
    simp only [X9,Bool.false_eq_true,if_false]
    rw [R4 l e hl.1,H9 hl rfl,ob]
    cases c3:isS l k [60,61] with
    | true=>rw [c0,c1,c2,c3] at h1 h2; rw [h2 rfl] at h1; exact done c3 h1
    | false=>
     simp only [X9,Bool.false_eq_true,if_false]
     rw [R4 l e hl.1,H9 hl rfl,ob]
     cases c4:isS l k [62] with
     | true=>rw [c0,c1,c2,c3,c4] at h1 h2; rw [h2 rfl] at h1; exact done c4 h1
     | false=>
      simp only [X9,Bool.false_eq_true,if_false]
      rw [R4 l e hl.1,H9 hl rfl,ob]
      cases c5:isS l k [62,61] with
      | true=>rw [c0,c1,c2,c3,c4,c5] at h1 h2; rw [h2 rfl] at h1; exact done c5 h1
      | false=>
       rw [c0,c1,c2,c3,c4,c5] at h1
       simp only [X9,Bool.false_eq_true,if_false]
       rw [U1,h1,ob]
       exact .ok _ k (Nat.le_refl _) hk (by unfold BO; omega)
end
theorem B1a {k:Nat}(hk:k≤l.length)(IH:∀ j,k < j→j≤l.length→PE l e j)(h:J l e (k+1) (BE k) (J3 (mk l k e)) (Q1 l k 4)):J l e (k+1) (BE k) (N2 (mk l k e)) (Q1 l k 3):=by
 rw [N2,show (3:Int)=((3:Nat):Int) from rfl,F15 hl k 3 (by decide)]
 refine J.bind (p:=J3 (mk l k e)) (r:=Q1 l k ((3+1:Nat):Int)) h ?_ ?_ ?_
 ·exact fun _=>rfl
 ·exact fun v j _=>⟨v,rfl⟩
 ·intro v j h1 h2 h0
  refine (I19 hl h2 (fun i h3 h4=>IH i (by omega) h4) (v,mk l j e) rfl).mono h1 fun v' j' h3 h4=>?_
  unfold BO at h4
  unfold BE at h0 ⊢
  simp only at h4
  omega
section
variable {k:Nat}(hk:k≤l.length)(IH:∀ j,k < j→j≤l.length→PE l e j)
include hk IH
theorem U16 (op:Int)(name:Str)(kids:List A0):J l e k (BO (A0.mk op 0 name kids).bulk k) (T2 (mk l k e) op name kids) (T7 l op 0 name kids k):=by
 have hB:=hl.1
 rw [T2,R4 l e hB,ob,T7,Rb l hB,ob]
 cases hd:isT l k [46] with
 | true=>
  have hlt:=F8 hd
  simp only [Pe,Bool.not_true,Bool.false_eq_true,if_false,if_true,ob,cond_true]
  rw [w1 (by omega),E15 l e hB,S10 l hB]
  cases hn:O8 l (k+1) 0 with
  | true=>
   have:=Q10 hn
   simp only [if_true,ob,Bool.not_true,Bool.false_eq_true,if_false]
   refine ((IH (k+1+1) (by omega) (by omega)).placeL _ _ _).mono (by omega) fun v' j' h3 h4=>?_
   have ht:=B12 hl (k+1)
   unfold BO at h4 ⊢
   rw [C17] at h4
   omega
  | false=>exact .pn _ (k+1) (by omega)
 | false=>
  simp only [X9,Bool.not_false,Bool.false_eq_true,if_false,if_true]
  rw [R4 l e hB,ob,Rb l hB,ob]
  cases hi:isT l k [91] with
  | true=>
   have hlt:=F8 hi
   simp only [Pe,if_true,cond_false]
   rw [ob,if_neg (by simp),w1 (by omega)]
   refine J.bind (IH (k+1) (by omega) (by omega)).expr ?_ ?_ ?_
   ·exact fun _=>rfl
   ·exact fun v j _=>⟨v,rfl⟩
   ·intro v j h1 h2 h0
    simp only [Bool.not_true,Bool.not_false,if_true,cond_false]
    rw [Gn l e hB,Rb l hB,ob]
    cases hn:isT l j [93] with
    | true=>
     have:=F8 hn
     simp only [if_true,ob,Bool.not_true,Bool.false_eq_true,if_false,Vv]
     rw [w1 (by omega)]
     refine ((IH (j+1) (by omega) (by omega)).placeL _ _ _).mono (by omega) fun v' j' h3 h4=>?_
     unfold BO at h4 ⊢
     unfold BE at h0
     rw [My] at h4
     simp only [List.length_nil] at h4
     omega
    | false=>exact .pn _ j h2
  | false=>
   simp only [X9,Bool.false_eq_true,if_false,cond_false]
   exact .ok _ k (Nat.le_refl _) hk (by unfold BO; omega)
end
end
end Go.Proofs.YtmnhfbekncjnfaaGreatDoor

namespace Go.Proofs.YtmnhfbekncjnfaaGreatDoor
open Go.Am
section
set_option linter.unusedSectionVars false
variable {l:List E0}{e:Int}(hl:Lc l)
include hl
section
variable {k:Nat}(hk:k≤l.length)(IH:∀ j,k < j→j≤l.length→PE l e j)
include hk IH
theorem D18:J l e (k+1) (BE k) (N4 (mk l k e)) (Xc l k):=by
 have hB:=hl.1
 rw [N4,Xc,E15 l e hB,S10 l hB]
 cases hn:O8 l k 0 with
 | true=>
  have:=Q10 hn
  simp only [if_true,ob,Bool.not_true,Bool.false_eq_true,if_false]
  refine ((IH (k+1) (by omega) (by omega)).placeL _ _ _).mono (Nat.le_refl _) fun v' j' h3 h4=>?_
  have ht:=B12 hl k
  unfold BO at h4
  unfold BE
  rw [Yv] at h4
  omega
 | false=>exact .pn _ k hk
theorem G15 (op:Int)(hlt:k < l.length):J l e (k+1) (BE k) (B5 op (mk l (k+1) e)) (R9 l k op):=by
 have hB:=hl.1
 rw [B5,Gn l e hB,R9,w1 (by omega),Rb l hB,ob]
 cases ho:isT l (k+1) [40] with
 | false=>exact .pn _ (k+1) (by omega)
 | true=>
  have h1:=F8 ho
  simp only [if_true,ob,Bool.not_true,Bool.false_eq_true,if_false]
  rw [wr (n:=(k:Int)+2) (by omega) (by unfold BB at hB; omega),show (k:Int)+2=((k+1+1:Nat):Int) by omega]
  refine J.bind (IH (k+1+1) (by omega) (by omega)).expr ?_ ?_ ?_
  ·exact fun _=>rfl
  ·exact fun v j _=>⟨v,rfl⟩
  intro v j h2 h3 h0
  simp only [Bool.not_true,Bool.not_false,if_true,cond_false]
  rw [Gn l e hB,Rb l hB,ob]
  cases hc:isT l j [44] with
  | false=>exact .pn _ j h3
  | true=>
   have h4:=F8 hc
   simp only [if_true,ob,Bool.not_true,Bool.false_eq_true,if_false]
   rw [w1 (by omega)]
   refine J.bind (IH (j+1) (by omega) (by omega)).expr ?_ ?_ ?_
   ·exact fun _=>rfl
   ·exact fun v j _=>⟨v,rfl⟩
   intro v2 j2 h5 h6 h00
   simp only [Bool.not_true,Bool.not_false,if_true,cond_false]
   rw [Gn l e hB,Rb l hB,ob]
   cases hd:isT l j2 [41] with
   | false=>exact .pn _ j2 h6
   | true=>
    have h7:=F8 hd
    simp only [if_true,ob,Bool.not_true,Bool.false_eq_true,if_false,Vv]
    rw [w1 (by omega)]
    refine .ok _ (j2+1) (by omega) (by omega) ?_
    unfold BE at h0 h00 ⊢
    rw [My]
    simp only [List.length_nil]
    omega
theorem H15:J l e (k+1) (BE k) (T4 (mk l k e)) (Se l k):=by
 have hB:=hl.1
 rw [T4,Se,S16 l e hB,ob]
 have hw:∀ t,isT l k t=true→O8 l k 0=false:=fun t h=>(Jk h).1
 cases hn:O8 l k 0 with
 | true=>
  have hf:∀ t,isT l k t=false:=fun t=>by
   cases h:isT l k t with
   | false=>rfl
   | true=>rw [hw t h] at hn; cases hn
  have hd:O8 l k 1=false:=by
   unfold O8 at hn ⊢
   split at hn
   ·rw [eq_of_beq hn]; rfl
   ·rfl
  simp only [if_true,Rb l hB,ob,hf,Bool.false_eq_true,if_false,Bool.not_false,cond_false]
  rw [U10 l hl,hd]
  simp only [Bool.false_eq_true,if_false,ob]
  refine J.same ?_ (fun _=>rfl) fun _=>rfl
  exact J.rsame (D18 hl hk IH)
 | false=>
  simp only [Bool.false_eq_true,if_false]
  rw [R4 l e hB,ob,Rb l hB,ob]
  cases h1:isT l k [116,114,117,101] with
  | true=>
   have:=F8 h1
   simp only [Pe,if_true]
   rw [w1 (by omega)]
   exact .ok _ (k+1) (Nat.le_refl _) (by omega) (by unfold BE; rw [Yv]; simp only [List.length_nil]; omega)
  | false=>
   simp only [X9,Bool.false_eq_true,if_false]
   rw [R4 l e hB,ob,Rb l hB,ob]
   cases h2:isT l k [102,97,108,115,101] with
   | true=>
    have:=F8 h2
    simp only [Pe,if_true]
    rw [w1 (by omega)]
    exact .ok _ (k+1) (Nat.le_refl _) (by omega) (by unfold BE; rw [Yv]; simp only [List.length_nil]; omega)
   | false=>
    simp only [X9,Bool.false_eq_true,if_false]
    rw [R4 l e hB,ob,Rb l hB,ob,Rb l hB]
    cases h3:isT l k [109,105,110] with
    | true=>
     have hlt:=F8 h3
     have h4:isT l k [109,97,120]=false:=by
      cases h:isT l k [109,97,120] with
      | false=>rfl
      | true=>have:=(Jk h3).2.2.symm.trans (Jk h).2.2; simp at this
     simp only [Pe,if_true,Bool.not_true,Bool.false_eq_true,if_false,ob,cond_true]
     rw [Te,Rb l hB,ob,h4,if_neg (by simp)]
     refine J.same ?_ (fun _=>rfl) fun _=>rfl
     exact J.rsame (G15 hl hk IH 21 hlt)
    | false=>
     simp only [X9,Bool.false_eq_true,if_false,Bool.not_false,if_true,ob,cond_false]
     rw [R4 l e hB,ob]
     cases h4:isT l k [109,97,120] with
     | true=>
      have hlt:=F8 h4
      simp only [Pe,if_true]
      rw [Te,Rb l hB,ob,h4,if_pos rfl]
      refine J.same ?_ (fun _=>rfl) fun _=>rfl
      exact J.rsame (G15 hl hk IH 22 hlt)
     | false=>
      simp only [X9,Bool.false_eq_true,if_false]
      rw [R4 l e hB,ob,Rb l hB,ob]
      cases h5:isT l k [40] with
      | true=>
       have hlt:=F8 h5
       simp only [Pe,if_true]
       rw [w1 (by omega)]
       refine J.bind (IH (k+1) (by omega) (by omega)).expr ?_ ?_ ?_
       ·exact fun _=>rfl
       ·exact fun v j _=>⟨v,rfl⟩
       intro v j h6 h7 h0
       simp only [Bool.not_true,Bool.not_false,if_true,cond_false]
       rw [Gn l e hB,Rb l hB,ob]
       cases hd:isT l j [41] with
       | false=>exact .pn _ j h7
       | true=>
        have h8:=F8 hd
        simp only [if_true,ob,Bool.not_true,Bool.false_eq_true,if_false]
        rw [w1 (by omega)]
        refine .ok _ (j+1) (by omega) (by omega) ?_
        unfold BE at h0 ⊢
        omega
      | false=>
       simp only [X9,Bool.false_eq_true,if_false]
       rw [T16 l e hl,U10 l hl]
       cases h6:O8 l k 1 with
       | true=>
        have:=Q10 h6
        simp only [if_true,ob]
        exact .ok _ (k+1) (Nat.le_refl _) (by omega) (by unfold BE; rw [Yv]; simp only [List.length_nil]; omega)
       | false=>
        simp only [Bool.false_eq_true,if_false,ob]
        rw [Xc,S10 l hB,hn]
        exact .pn _ k hk
theorem E18:J l e (k+1) (BE k) (F2 (mk l k e)) (F9 l k):=by
 have hB:=hl.1
 have go:∀ op:Int,k < l.length→J l e (k+1) (BE k) (F2 (mk l (k+1) e)>>=fun x4=>match x4 with | .pn nn=>some (.pn nn) | .ok x4=>some (.ok ((A0.mk op 0 [] [x4.1]),x4.2))) (Ib l k op):=fun op hlt=>by
  rw [Ib,w1 (by omega)]
  refine J.bind (IH (k+1) (by omega) (by omega)).un ?_ ?_ ?_
  ·exact fun _=>rfl
  ·exact fun v j _=>⟨v,rfl⟩
  ·intro v j h1 h2 h0
   refine .ok _ j (by omega) h2 ?_
   unfold BE at h0 ⊢
   rw [C17]
   simp only [List.length_nil]
   omega
 rw [F2,F9,R4 l e hB,ob,Rb l hB,ob]
 cases h1:isT l k [45] with
 | true=>
  have hlt:=F8 h1
  have h2:isT l k [33]=false:=by
   cases h:isT l k [33] with
   | false=>rfl
   | true=>have:=(Jk h1).2.2.symm.trans (Jk h).2.2; simp at this
  simp only [Pe,if_true,Bool.not_true,Bool.false_eq_true,if_false,ob,cond_false]
  rw [Rb l hB,ob,h2,if_neg (by simp)]
  exact go 6 hlt
 | false=>
  simp only [X9,Bool.false_eq_true,if_false,Bool.not_false,if_true]
  rw [R4 l e hB,ob,Rb l hB,ob]
  cases h2:isT l k [33] with
  | true=>
   have hlt:=F8 h2
   simp only [Pe,if_true,Bool.not_true,Bool.false_eq_true,if_false,cond_true,ob]
   exact go 7 hlt
  | false=>
   simp only [X9,Bool.false_eq_true,if_false,Bool.not_false,if_true,cond_true]
   refine J.same ?_ (fun _=>rfl) fun _=>rfl
   exact J.rsame (H15 hl hk IH)
theorem J19 (ho:J l e (k+1) (BE k) (A5 (mk l k e)) (Q1 l k 1)):J l e (k+1) (BE k) (O0 (mk l k e)) (O1 l k):=by
 have hB:=hl.1
 rw [O0,O1]
 refine J.bind ho ?_ ?_ ?_
 ·exact fun _=>rfl
 ·exact fun v j _=>⟨v,rfl⟩
 intro v j h1 h2 h0
 simp only [Bool.not_true,Bool.not_false,if_true,cond_false]
 rw [R4 l e hB,ob,Rb l hB,ob]
 cases hq:isT l j [63] with
 | false=>exact .ok _ j h1 h2 h0
 | true=>
  have h3:=F8 hq
  simp only [Pe,Bool.not_true,Bool.false_eq_true,if_false]
  rw [w1 (by omega)]
  refine J.bind (IH (j+1) (by omega) (by omega)).expr ?_ ?_ ?_
  ·exact fun _=>rfl
  ·exact fun v j _=>⟨v,rfl⟩
  intro v2 j2 h4 h5 h00
  simp only [Bool.not_true,Bool.false_eq_true,if_false]
  rw [Gn l e hB,Rb l hB,ob]
  cases hc:isT l j2 [58] with
  | false=>exact .pn _ j2 h5
  | true=>
   have h6:=F8 hc
   simp only [if_true,ob,Bool.not_true,Bool.false_eq_true,if_false]
   rw [w1 (by omega)]
   refine J.bind (IH (j2+1) (by omega) (by omega)).expr ?_ ?_ ?_
   ·exact fun _=>rfl
   ·exact fun v j _=>⟨v,rfl⟩
   ·intro v3 j3 h7 h8 h000
    refine .ok _ j3 (by omega) h8 ?_
    unfold BE at h0 h00 h000 ⊢
    rw [X19]
    simp only [List.length_nil]
    omega
end
theorem I15:∀ (n k:Nat),l.length - k < n→k≤l.length→PE l e k
 | 0,k,h,_=>absurd h (Nat.not_lt_zero _)
 | n+1,k,h,hk=>by
  have IH:∀ j,k < j→j≤l.length→PE l e j:=fun j h1 h2=>I15 n j (by omega) h2
  have u:=E18 hl hk IH
  have p5:=G19 hl hk IH u
  have p4:=Z19 hl hk IH p5
  have p3:=B1a hl hk IH p4
  have p2:=A1a hl hk IH p3
  have p1:=J1a hl hk IH p2
  exact ⟨J19 hl hk IH p1,u,C18 hl hk IH,p5,E19 hl hk IH,p4,p3,F19 hl hk IH,p2,Y19 hl hk IH,p1,U16 hl hk IH⟩
theorem C1a {k:Nat}(hk:k≤l.length):PE l e k:=I15 hl _ k (Nat.lt_succ_self _) hk
end
end Go.Proofs.YtmnhfbekncjnfaaGreatDoor

namespace Go.Proofs.YtmnhfbekncjnfaaGreatDoor
open Go.Am
theorem K19 (r:List UInt8):∀ m:Nat,m * 10 ^ r.length≤nv m r:=by
 induction r with
 | nil=>intro m; rw [Fn]; simp
 | cons c r ih=>
  intro m
  rw [Yg]
  refine Nat.le_trans ?_ (ih _)
  rw [List.length_cons,Nat.pow_succ]
  calc m * (10 ^ r.length * 10)=(10 * m) * 10 ^ r.length:=by rw [Nat.mul_comm (10 ^ r.length) 10,← Nat.mul_assoc,Nat.mul_comm m 10]
   _≤(10 * m+(c.toNat - 48)) * 10 ^ r.length:=Nat.mul_le_mul_right _ (by omega)
theorem L19 {w:Str}(hne:w≠[])(h:Vl w=0):w.all (fun c=>W6 c.toNat)=true∧w.length≤7∧nv 0 w≤1048576:=by
 unfold Vl at h
 split at h
 ·rename_i hc
  rw [Bool.and_eq_true] at hc
  obtain ⟨h1,h2⟩:=hc
  have h3:nv 0 w≤1048576:=by
   rcases Nat.lt_or_ge 1048576 (nv 0 w) with hb | hb
   ·rw [Tt hb] at h; cases h
   ·exact hb
  refine ⟨h1,?_,h3⟩
  cases w with
  | nil=>exact absurd rfl hne
  | cons c r=>
   rw [List.all_cons,Bool.and_eq_true] at h1
   have hc:=Ze.1 h1.1
   have hz:Jl (c::r)=false:=by simpa using h2
   unfold Jl at hz
   by_cases h48:c.toNat=48
   ·have hb:(((c::r).getD 0 0).toNat:Int) == 48:=by simp [h48]
    rw [hb,Bool.and_true] at hz
    have:=of_decide_eq_false hz
    omega
   ·rw [Yg] at h3
    have hp:=K19 r (10 * 0+(c.toNat - 48))
    have h5:1 * 10 ^ r.length≤(10 * 0+(c.toNat - 48)) * 10 ^ r.length:=Nat.mul_le_mul_right _ (by omega)
    rcases Nat.lt_or_ge 6 r.length with h6 | h6
    ·have:=Nat.pow_le_pow_right (show 1≤10 by decide) (show 7≤r.length from h6)
     omega
    ·rw [List.length_cons]; omega
 ·cases h
theorem F18 {c:UInt8}{t:List UInt8}{k:Int}(hlen:(c::t).length≤8192)(h:(nxt (c::t) k).2=0):Tok (nxt (c::t) k).1:=by
 have htx:=Vt h
 have hl8:(nxt (c::t) k).1.Text.length≤8192:=by omega
 refine ⟨hl8,fun hk=>?_,fun hk=>?_⟩
 ·revert h hk
  unfold nxt
  simp only [List.getD_cons_zero]
  cases hl:V7 c.toNat with
  | true=>
   have hld:ld c=true:=by unfold ld; rw [hl]; rfl
   intro h hk
   have hw:∃ r,(c::t).take (R3 (c::t))=c::r:=by
    simp only [R3,hld,cond_true,List.take_succ_cons]
    exact ⟨_,rfl⟩
   obtain ⟨r,hr⟩:=hw
   simp only [if_true] at hk ⊢
   split at hk
   ·rename_i hres
    rw [if_pos hres]
    exact ⟨c,r,hr,hl⟩
   ·split at hk <;> cases hk
  | false=>
   simp only [Bool.false_eq_true,if_false]
   intro h hk
   split at hk
   ·cases hk
   ·split at hk
    ·cases hk
    ·split at hk <;> cases hk
 ·revert h hk
  unfold nxt
  simp only [List.getD_cons_zero]
  cases hl:V7 c.toNat with
  | true=>
   intro h hk
   simp only [if_true] at hk
   split at hk
   ·cases hk
   ·split at hk <;> cases hk
  | false=>
   simp only [Bool.false_eq_true,if_false]
   intro h hk
   cases hd:W6 c.toNat with
   | true=>
    have hld:ld c=true:=by unfold ld; rw [hl,hd]; rfl
    have hne:(c::t).take (R3 (c::t))≠[]:=by
     simp only [R3,hld,cond_true,List.take_succ_cons]
     exact List.cons_ne_nil _ _
    rw [hd,if_pos rfl] at h
    rw [if_pos rfl]
    obtain ⟨n1,n2,n3⟩:=L19 hne h
    exact ⟨hne,n1,n2,n3⟩
   | false=>
    rw [hd,if_neg (by simp)] at hk
    split at hk
    ·cases hk
    ·split at hk <;> cases hk
theorem V10:∀ (n:Nat) (r:List UInt8) (k:Nat),r.length≤8192→(Bf n r k).2.2=0→(∀ x∈(Bf n r k).1,Tok x)∧(Bf n r k).1.length≤r.length
 | 0,r,k,_,_=>⟨fun x hx=>(by cases hx),Nat.zero_le _⟩
 | n+1,r,k,hl,h=>by
  revert h
  unfold Bf
  split
  ·exact fun _=>⟨fun x hx=>(by cases hx),Nat.zero_le _⟩
  ·rename_i c t hd
   have hle:(c::t).length≤r.length:=by rw [← hd,List.length_drop]; omega
   simp only
   split
   ·rename_i hx
    obtain ⟨b1,b2,b3,b4⟩:=Vt hx
    have hdl:((c::t).drop (nxt (c::t) ((k+skp false r:Nat):Int)).1.Text.length).length≤(c::t).length - 1:=by rw [List.length_drop]; omega
    have ih:=V10 n ((c::t).drop (nxt (c::t) ((k+skp false r:Nat):Int)).1.Text.length) (k+skp false r+(nxt (c::t) ((k+skp false r:Nat):Int)).1.Text.length) (by omega)
    split
    ·rename_i hz
     obtain ⟨i1,i2⟩:=ih hz
     intro _
     refine ⟨fun x hx'=>?_,?_⟩
     ·rcases List.mem_cons.1 hx' with rfl | hx'
      ·exact F18 (by omega) hx
      ·exact i1 x hx'
     ·simp only [List.length_cons] at *
      omega
    ·rename_i hz
     exact fun h=>absurd h hz
   ·rename_i hx
    exact fun h=>absurd h hx
theorem V16 {s:Str}(h:(Er s).2.2=0):Lc (Er s).1∧(Er s).1.length≤8192:=by
 unfold Er at h ⊢
 by_cases hl:s.length > 8192
 ·rw [if_pos hl] at h; cases h
 ·rw [if_neg hl] at h ⊢
  obtain ⟨h1,h2⟩:=V10 _ s 0 (by omega) h
  exact ⟨⟨by unfold BB; omega,h1⟩,by omega⟩
end Go.Proofs.YtmnhfbekncjnfaaGreatDoor

namespace Go.Proofs.YtmnhfbekncjnfaaGreatDoor
open Go.Am
theorem W10 (text:Str)(l:List E0)(k:Nat):Td text l k=some (off l (text.length:Int) k):=by
 unfold Td off
 cases h:l[k]? with
 | none=>rw [P10 h,if_neg (by simp)]
 | some x=>rw [dlt h,if_pos rfl,Ki,h,ob]
theorem Vw (text:Str):∃ v,F4 text=some v∧Ja text=some v∧OkE v.1:=by
 have hz:OkE (A0.mk 0 0 [] []):=by unfold OkE; rw [Yv]; unfold BB; simp
 obtain ⟨x1,x2⟩:=X18 text
 unfold F4 Ja Uc
 rw [x1,x2,ob,ob]
 generalize hL:Er text=L
 by_cases h0:L.2.2=0
 ·have hb:(L.2.2 != 0)=false:=by rw [h0]; rfl
  obtain ⟨ht,hlen⟩:=V16 (s:=text) (by rw [hL]; exact h0)
  rw [hL] at ht hlen
  simp only [hb,Bool.false_eq_true,if_false]
  have hJ:=(C1a (l:=L.1) (e:=(text.length:Int)) ht (Nat.zero_le _)).expr
  unfold L6
  rcases hJ with ⟨v,j,h1,h2,h3,h4,h5⟩ | ⟨v,j,h2,h4,h5⟩
  ·have h4':O0 (B0.mk L.1 0 (text.length:Int))=some (.ok (v,mk L.1 j (text.length:Int))):=h4
   have h5':O1 L.1 0=some (v,((j:Nat):Int),true):=h5
   have hv:OkE v:=by unfold OkE; unfold BE at h3; unfold BB; omega
   rw [h4',h5',ob,ob]
   simp only [ob,Bool.not_true,cond_false]
   cases hj:decide ((j:Int) < (L.1.length:Int)) with
   | true=>
    simp only [if_true,R10 L.1 _ ht.1,W10,ob]
    exact ⟨_,rfl,rfl,hz⟩
   | false=>
    simp only [Bool.false_eq_true,if_false,ob]
    rw [I10 v hv,Hy v hv]
    simp only [ob,bne_self_eq_false,Bool.false_eq_true,if_false]
    by_cases hc:(Br v != 0)=true
    ·rw [if_pos hc]; exact ⟨_,rfl,rfl,hz⟩
    ·rw [if_neg hc]; exact ⟨_,rfl,rfl,hv⟩
  ·have h4':O0 (B0.mk L.1 0 (text.length:Int))=some (.pn (off L.1 (text.length:Int) j)):=h4
   have h5':O1 L.1 0=some (v,((j:Nat):Int),false):=h5
   rw [h4',h5',ob,ob]
   simp only [ob,Bool.not_false,cond_true,if_true,W10]
   exact ⟨_,rfl,rfl,hz⟩
 ·have hb:(L.2.2 != 0)=true:=by simpa using h0
  simp only [hb,if_true,ob]
  exact ⟨_,rfl,rfl,hz⟩
theorem Wt (text:Str)(hk:Ua=some true):Za text=some true:=by
 unfold Za
 rw [hk,ob]
 simp only [Bool.not_true,Bool.false_eq_true,if_false]
 cases decide ((text.length:Int) > 2000) with
 | true=>rfl
 | false=>
  obtain ⟨v,h1,h2,h3⟩:=Vw text
  simp only [Bool.false_eq_true,if_false]
  rw [h1,h2,ob,ob]
  simp only [beq_self_eq_true,cond_true,if_true]
  rw [I13 v.1 h3,ob,J13]
end Go.Proofs.YtmnhfbekncjnfaaGreatDoor

namespace Go.Proofs.YtmnhfbekncjnfaaGreatDoor
open Go.Am
def BT (k:Nat)(v:T1)(j:Nat):Prop:=v.bulk≤9000 * (j - k)
def K1a (ns:List Str):Nat:=(ns.map fun s=>s.length+1).sum
def BF (ns:List Str)(os:List T1)(k:Nat)(v:T1)(j:Nat):Prop:=v.bulk≤K1a ns+T1.bulks os+8+9000 * (j - k)
structure PT (l:List E0)(e:Int)(k:Nat):Prop where
 typ:J l e (k+1) (BT k) (He (mk l k e)) (Sq l k)
 fld:∀ ns os,ns.length≤k→os.length≤k→J l e k (BF ns os k) (Dc (mk l k e) ns os) (Xf l ns os ((k:Int) - 1))
section
set_option linter.unusedSectionVars false
variable {l:List E0}{e:Int}(hl:Lc l)
include hl
section
variable {k:Nat}(hk:k≤l.length)(IH:∀ j,k < j→j≤l.length→PT l e j)
include hk IH
end
end
end Go.Proofs.YtmnhfbekncjnfaaGreatDoor

namespace Go.Proofs.YtmnhfbekncjnfaaGreatDoor
open Go.Am
end Go.Proofs.YtmnhfbekncjnfaaGreatDoor

namespace Go.Proofs.YtmnhfbekncjnfaaGreatDoor
open Go.Am
section
set_option linter.unusedSectionVars false
variable {l:List E0}{e:Int}(hl:Lc l)
include hl
end
end Go.Proofs.YtmnhfbekncjnfaaGreatDoor

namespace Go.Proofs.YtmnhfbekncjnfaaGreatDoor
open Go.Am
section
set_option linter.unusedSectionVars false
variable {l:List E0}{e:Int}(hl:Lc l)
include hl
end
end Go.Proofs.YtmnhfbekncjnfaaGreatDoor

namespace Go.Proofs.YtmnhfbekncjnfaaGreatDoor
open Go.Am
section
set_option linter.unusedSectionVars false
variable {l:List E0}{e:Int}(hl:Lc l)
include hl
end
end Go.Proofs.YtmnhfbekncjnfaaGreatDoor

namespace Go.Proofs.YtmnhfbekncjnfaaGreatDoor
open Go.Am
section
variable {l:List E0}{e:Int}{α β:Type}
end
def BL (out:List W0)(k:Nat)(v:List W0)(j:Nat):Prop:=W0.bulks v≤W0.bulks out+9000 * (j - k)
def BK (k:Nat)(v:List W0)(j:Nat):Prop:=W0.bulks v≤9000 * (j - k)
structure PS (l:List E0)(e:Int)(k:Nat):Prop where
 sts:∀ out,out.length≤k→J l e k (BL out k) (E8 (mk l k e) out) (Ad l k out)
 blk:J l e (k+1) (BK k) (P7 (mk l k e)) (Oe l k)
section
set_option linter.unusedSectionVars false
variable {l:List E0}{e:Int}(hl:Lc l)
include hl
section
variable {k:Nat}(hk:k≤l.length)(IH:∀ j,k < j→j≤l.length→PS l e j)
include hk IH
end
end
end Go.Proofs.YtmnhfbekncjnfaaGreatDoor

namespace Go.Proofs.YtmnhfbekncjnfaaGreatDoor
open Go.Am
section
set_option linter.unusedSectionVars false
variable {l:List E0}{e:Int}(hl:Lc l)
include hl
end
end Go.Proofs.YtmnhfbekncjnfaaGreatDoor

namespace Go.Proofs.YtmnhfbekncjnfaaGreatDoor
open Go.Am
end Go.Proofs.YtmnhfbekncjnfaaGreatDoor

namespace Go.Proofs.YtmnhfbekncjnfaaGreatDoor
open Go.Am
end Go.Proofs.YtmnhfbekncjnfaaGreatDoor

namespace Go.Proofs.YtmnhfbekncjnfaaGreatDoor
open Go.Am
section
variable {l l':List E0}{s:Nat}{w:Bool}{α β:Type}
end
section
set_option linter.unusedSectionVars false
variable {l l':List E0}{s:Nat}{w:Bool}{α β:Type}(hl:Lc l)(hl':Lc l')(hs:l.length+s+8≤BB)
include hl hl' hs
end
end Go.Proofs.YtmnhfbekncjnfaaGreatDoor

namespace Go.Proofs.YtmnhfbekncjnfaaGreatDoor
open Go.Am
section
set_option linter.unusedSectionVars false
variable {l l':List E0}{s:Nat}{w:Bool}{α β:Type}(hl:Lc l)(hl':Lc l')(hs:l.length+s+8≤BB)
include hl hl' hs
end
end Go.Proofs.YtmnhfbekncjnfaaGreatDoor

namespace Go.Proofs.YtmnhfbekncjnfaaGreatDoor
open Go.Am
section
set_option linter.unusedSectionVars false
variable {l l':List E0}{s:Nat}{α β:Type}(hl:Lc l)(hl':Lc l')(hs:l.length+s+8≤BB)
include hl hl' hs
end
end Go.Proofs.YtmnhfbekncjnfaaGreatDoor

namespace Go.Proofs.YtmnhfbekncjnfaaGreatDoor
open Go.Am
theorem Xt:Ua=some true:=Sw 60 true (by kernel_rfl)
end Go.Proofs.YtmnhfbekncjnfaaGreatDoor

