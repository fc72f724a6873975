/- A part of the proof of CatalogMakes. -/
import Derived.Test.YtbaijagfgceilaaGreatDoorPlA
import Derived.KernelRfl
import Derived.Lib.CountLaws
import Derived.Lib.ReplaceLaws
namespace Go.Proofs.YtbaijagfgceilaaGreatDoor
set_option linter.unusedSectionVars false
open Go.Am
def JB {α:Type}(l:List I0)(e:Int)(lo:Nat)(P:α→Nat→Prop)(p:Option (Pn (α×Bool×D0)))(r:Option (α×Int×Bool)):Prop:=
 (∃ v j,lo≤j∧j≤l.length∧P v j∧p=some (.ok (v,true,mk l j e))∧r=some (v,((j:Nat):Int),true))∨
 (∃ v j,j≤l.length∧p=some (.pn (off l e j))∧r=some (v,((j:Nat):Int),false))
section
variable {l:List I0}{e:Int}{α β:Type}
theorem JB.ok {lo:Nat}{P:α→Nat→Prop}(v:α)(j:Nat)(h1:lo≤j)(h2:j≤l.length)(hP:P v j):JB l e lo P (some (.ok (v,true,mk l j e))) (some (v,((j:Nat):Int),true)):=.inl ⟨v,j,h1,h2,hP,rfl,rfl⟩
theorem JB.pn {lo:Nat}{P:α→Nat→Prop}(v:α)(j:Nat)(h2:j≤l.length):JB l e lo P (some (.pn (off l e j))) (some (v,((j:Nat):Int),false)):=.inr ⟨v,j,h2,rfl,rfl⟩
theorem JB.bind {lo a:Nat}{P:α→Nat→Prop}{Q:β→Nat→Prop}{p:Option (Pn (α×D0))}{r:Option (α×Int×Bool)}(h:J l e lo P p r){F:Pn (α×D0)→Option (Pn (β×Bool×D0))}{g:α×Int×Bool→Option (β×Int×Bool)}(b:∀ n,F (.pn n)=some (.pn n))
  (hg:∀ v (j:Nat),j≤l.length→∃ v',g (v,(j:Int),false)=some (v',(j:Int),false)) (hf:∀ v (j:Nat),lo≤j→j≤l.length→P v j→JB l e a Q (F (.ok (v,mk l j e))) (g (v,(j:Int),true))) :
  JB l e a Q (p>>=F) (r>>=g):=by
 rcases h with ⟨v,j,h1,h2,c,rfl,rfl⟩ | ⟨v,j,h2,rfl,rfl⟩
 ·exact hf v j h1 h2 c
 ·obtain ⟨v',hv⟩:=hg v j h2
  rw [ob,ob,hv,b]
  exact .pn v' j h2
theorem JB.rsame {lo:Nat}{P:α→Nat→Prop}{p:Option (Pn (α×Bool×D0))}{r:Option (α×Int×Bool)}(h:JB l e lo P p r):JB l e lo P p (r>>=fun x=>some (x.1,x.2.1,x.2.2)):=by
 rcases h with ⟨v,j,h1,h2,a,rfl,rfl⟩ | ⟨v,j,h2,rfl,rfl⟩
 ·exact .ok v j h1 h2 a
 ·exact .pn v j h2
theorem JB.lift {lo:Nat}{P:α→Nat→Prop}{p:Option (Pn (α×D0))}{r:Option (α×Int×Bool)}(h:J l e lo P p r){F:Pn (α×D0)→Option (Pn (α×Bool×D0))}(b:∀ n,F (.pn n)=some (.pn n))(a:∀ x,F (.ok x)=some (.ok (x.1,true,x.2))):JB l e lo P (p>>=F) r:=by
 rcases h with ⟨v,j,h1,h2,c,rfl,rfl⟩ | ⟨v,j,h2,rfl,rfl⟩
 ·rw [ob,a]; exact .ok v j h1 h2 c
 ·rw [ob,b]; exact .pn v j h2
end
theorem JB.ofMap {l:List I0}{e:Int}{lo:Nat}{P:C0→Nat→Prop}{p:Option (Pn (C0×D0))}{r:Option (C0×Int×Bool)}(h:J l e lo P p r):JB l e lo P (p.map S1w) r:=by
 rcases h with ⟨v,j,h1,h2,a,rfl,rfl⟩ | ⟨v,j,h2,rfl,rfl⟩
 ·exact .ok v j h1 h2 a
 ·exact .pn v j h2
def beg (l:List I0)(k:Nat):Bool:=T3 l k 0||((isT l k [111,117,116,112,117,116]||(isT l k [119,97,105,116]||(isT l k [105,102]||(isT l k [119,104,105,108,101]||(isT l k [102,111,114]||(isT l k [115,101,116,116,108,101])))))))
abbrev zS:C0:=C0.mk 0 zE zE [] [] 0 0 0 [] [] []
def BL (out:List C0)(k:Nat)(v:List C0)(j:Nat):Prop:=C0.bulks v≤C0.bulks out+9000 * (j - k)
def BK (k:Nat)(v:List C0)(j:Nat):Prop:=C0.bulks v≤9000 * (j - k)
structure PS (l:List I0)(e:Int)(k:Nat):Prop where
 sts:∀ out,out.length≤k→J l e k (BL out k) (H6 (mk l k e) out) (E5 l k out)
 blk:J l e (k+1) (BK k) (W6 (mk l k e)) (Xc l k)
theorem S1e:∀ (os:List C0) (t:C0),C0.bulks (os++[t])=C0.bulks os+t.bulk
 | [],t=>by simp only [List.nil_append,C0.bulks]; omega
 | x::r,t=>by simp only [List.cons_append,C0.bulks,S1e r t]; omega
section
variable {l:List I0}{e:Int}(hl:Yf l)
include hl
theorem W1n {lo j:Nat}{s:C0}(b:j≤l.length)(hk:lo≤j+1){P:C0→Nat→Prop}(hP:P s (j+1)){F:Pn D0→Option (Pn (C0×Bool×D0))}(c:∀ n,F (.pn n)=some (.pn n))(a:∀ x,F (.ok x)=some (.ok (s,true,x))) :
  JB l e lo P (U0 [59] (mk l j e)>>=F) (B15 l (s,(j:Int),true)):=by
 rw [R3 l e hl.1,Uo hl s j b]
 cases h:isT l j [59] with
 | false=>simp only [zqa,zw,ob,c]; exact .pn _ j b
 | true=>
  have:=P1 h
  simp only [zt,ob,a]
  exact .ok _ (j+1) hk (by omega) hP
section
variable {k:Nat}(hk:k≤l.length)(IH:∀ j,k < j→j≤l.length→PS l e j)
include hk IH
theorem H21 (hb:beg l k=false):O7 (mk l k e)=some (.ok (zS,false,mk l k e)):=by
 have a:=hl.1
 unfold beg at hb
 simp only [Bool.or_eq_false_iff] at hb
 obtain ⟨d,h1,h2,b,f,g,c⟩:=hb
 rw [O7]
 simp only [Y14 l e a,O2 l e a,d,h1,h2,b,f,g,c,I3,ob,zqa,zw]
theorem G22 (hb:beg l k=true):JB l e (k+1) (BS k) (O7 (mk l k e)) (I4 l k):=by
 have a:=hl.1
 rw [O7,I4,Y14 l e a,ob]
 cases h0:T3 l k 0 with
 | true=>
  have hf:=W18 h0
  simp only [zt,A1 l a,ob,hf,zqa,zw]
  refine JB.lift (V1v hl hk) ?_ ?_
  ·exact fun _=>rfl
  ·exact fun _=>rfl
 | false=>
 simp only [zqa,zw]
 rw [O2 l e a,ob]
 cases h1:isT l k [111,117,116,112,117,116] with
 | true=>
  have d:=P1 h1
  simp only [X3,zt,A1 l a,ob,h1,V8 h1 (t':=[105,102]) rfl,V8 h1 (t':=[119,104,105,108,101]) rfl,V8 h1 (t':=[102,111,114]) rfl,zqa,zw]
  rw [w1 (by omega)]
  refine JB.bind (Dw (e:=e) hl (k:=k+1) (by omega)).expr ?_ ?_ ?_
  ·exact fun _=>rfl
  ·exact fun v j _=>⟨_,Pg hl (C0.mk 3 zE v [] [] 0 0 0 [] [] []) j⟩
  intro v j h2 n i
  refine W1n hl (s:=C0.mk 3 zE v [] [] 0 0 0 [] [] []) n (by omega) ?_ (fun _=>rfl) (fun _=>rfl)
  unfold BS
  unfold BE at i
  rw [Us hl]
  simp only [C0.bulks,A0.bulks,Hg,zqe]
  omega
 | false=>
 simp only [I3,zqa,zw]
 rw [O2 l e a,ob]
 cases h2:isT l k [119,97,105,116] with
 | true=>
  have d:=P1 h2
  simp only [X3,zt,A1 l a,ob,h2,h1,V8 h2 (t':=[105,102]) rfl,V8 h2 (t':=[119,104,105,108,101]) rfl,V8 h2 (t':=[102,111,114]) rfl,zqa,zw]
  rw [w1 (by omega)]
  refine JB.bind (Ts (e:=e) hl (k:=k+1) (by omega)) ?_ ?_ ?_
  ·exact fun _=>rfl
  ·exact fun v j _=>⟨_,Pg hl (C0.mk 4 zE zE [] [] v 0 0 [] [] []) j⟩
  intro v j n i _
  refine W1n hl (s:=C0.mk 4 zE zE [] [] v 0 0 [] [] []) i (by omega) ?_ (fun _=>rfl) (fun _=>rfl)
  unfold BS
  rw [Us hl]
  simp only [C0.bulks,A0.bulks,Hg,zqe]
  omega
 | false=>
 simp only [I3,zqa,zw]
 rw [O2 l e a,ob]
 cases n:isT l k [115,101,116,116,108,101] with
 | true=>
  have d:=P1 n
  simp only [X3,zt,A1 l a,ob,n,h2,h1,V8 n (t':=[105,102]) rfl,V8 n (t':=[119,104,105,108,101]) rfl,V8 n (t':=[102,111,114]) rfl,zqa,zw]
  rw [w1 (by omega),Ej,M5]
  rcases Ts hl (e:=e) (k:=k+1) (by omega) with ⟨v,j,t,o,_,m,b⟩ | ⟨v,j,o,m,b⟩
  ·have E:decide ((0+1) * 9≤140737488355328)=true:=by decide
   rw [m,b,ob,ob]
   simp only [E,zt,zqf,zqa,zw,zqe,List.nil_append]
   obtain ⟨p,G,D⟩:=A1t (e:=e) hl (l.length - j+1) j [v] (by omega) o (by simp only [List.length_singleton]; omega)
   rw [G]
   refine JB.ofMap (D.mono (by omega) fun v' H f c=>?_)
   unfold BS
   simp only [List.length_singleton] at c
   omega
  ·rw [m,b,ob,ob]
   simp only [zqg,zt,ob]
   exact (show JB l e (k+1) (BS k) (some (.pn (off l e j))) (B15 l (C0.mk 8 zE zE [] [] 0 0 0 [] [] [],(j:Int),false)) from by rw [Pg hl]; exact .pn _ j o)
 | false=>
 simp only [I3,zqa,zw]
 rw [O2 l e a,ob]
 cases i:isT l k [105,102] with
 | true=>
  have d:=P1 i
  simp only [X3,zt,A1 l a,ob,i]
  rw [w1 (by omega)]
  refine JB.rsame ?_
  rw [Kd]
  refine JB.bind (Dw (e:=e) hl (k:=k+1) (by omega)).expr ?_ ?_ ?_
  ·exact fun _=>rfl
  ·exact fun v j _=>⟨_,rfl⟩
  intro v j x u t
  simp only [zqf,zqa,zw]
  refine JB.bind (IH j (by omega) u).blk ?_ ?_ ?_
  ·exact fun _=>rfl
  ·exact fun v j _=>⟨_,rfl⟩
  intro B q o m b
  simp only [zqf,zqa,zw]
  rw [O2 l e a,ob,A1 l a,ob]
  unfold BE at t
  unfold BK at b
  cases f:isT l q [101,108,115,101] with
  | true=>
   have c:=P1 f
   simp only [X3,zt]
   rw [w1 (by omega)]
   refine JB.bind (IH (q+1) (by omega) (by omega)).blk ?_ ?_ ?_
   ·exact fun _=>rfl
   ·exact fun v j _=>⟨_,rfl⟩
   intro C w r h g
   refine .ok _ w (by omega) h ?_
   unfold BS
   unfold BK at g
   rw [Us hl]
   simp only [A0.bulks,Hg,zqe]
   omega
  | false=>
   simp only [I3,zqa,zw]
   refine .ok _ q (by omega) m ?_
   unfold BS
   rw [Us hl]
   simp only [A0.bulks,C0.bulks,Hg,zqe]
   omega
 | false=>
 simp only [I3,zqa,zw]
 rw [O2 l e a,ob]
 cases x:isT l k [119,104,105,108,101] with
 | true=>
  have d:=P1 x
  simp only [X3,zt,A1 l a,ob,i,x,zqa,zw]
  rw [w1 (by omega)]
  refine JB.rsame ?_
  rw [Ms]
  refine JB.bind (Dw (e:=e) hl (k:=k+1) (by omega)).expr ?_ ?_ ?_
  ·exact fun _=>rfl
  ·exact fun v j _=>⟨_,rfl⟩
  intro v j u t o
  simp only [zqf,zqg,zt,zql]
  rw [R3 l e a,A1 l a,ob]
  cases m:isT l j [108,105,109,105,116] with
  | false=>exact .pn _ j t
  | true=>
   have b:=P1 m
   simp only [zt,ob,zqf,zqa,zw]
   rw [w1 (by omega)]
   refine JB.bind (Ts (e:=e) hl (k:=j+1) (by omega)) ?_ ?_ ?_
   ·exact fun _=>rfl
   ·exact fun v j _=>⟨_,rfl⟩
   intro B q f c _
   simp only [zqf,zqa,zw]
   refine JB.bind (IH q (by omega) c).blk ?_ ?_ ?_
   ·exact fun _=>rfl
   ·exact fun v j _=>⟨_,rfl⟩
   intro C w r h g
   refine .ok _ w (by omega) h ?_
   unfold BS
   unfold BE at o
   unfold BK at g
   rw [Us hl]
   simp only [A0.bulks,C0.bulks,Hg,zqe]
   omega
 | false=>
 simp only [I3,zqa,zw]
 rw [O2 l e a,ob]
 cases u:isT l k [102,111,114] with
 | false=>
  unfold beg at hb
  rw [h0,h1,h2,n,i,x,u] at hb
  cases hb
 | true=>
  have d:=P1 u
  simp only [X3,zt,A1 l a,ob,i,x,u,zqa,zw]
  rw [w1 (by omega)]
  refine JB.rsame ?_
  rw [Ho,Wm l e a,A8 l a]
  cases t:T3 l (k+1) 0 with
  | false=>exact .pn _ (k+1) (by omega)
  | true=>
   have o:=C7 t
   have ht:=Kj hl (k+1)
   simp only [zt,ob,zqf,zqg,zql]
   rw [R3 l e a,A1 l a,ob]
   cases m:isT l (k+1+1) [61] with
   | false=>exact .pn _ (k+1+1) (by omega)
   | true=>
    have b:=P1 m
    simp only [zt,ob,zqf,zqa,zw]
    rw [w1 (by omega)]
    refine JB.bind (Ts (e:=e) hl (k:=k+1+1+1) (by omega)) ?_ ?_ ?_
    ·exact fun _=>rfl
    ·exact fun v j _=>⟨_,rfl⟩
    intro v j f c _
    simp only [zqf,zqg,zt,zql]
    rw [R3 l e a,A1 l a,ob]
    cases r:isT l j [116,111] with
    | false=>exact .pn _ j c
    | true=>
     have h:=P1 r
     simp only [zt,ob,zqf,zqa,zw]
     rw [w1 (by omega)]
     refine JB.bind (Ts (e:=e) hl (k:=j+1) (by omega)) ?_ ?_ ?_
     ·exact fun _=>rfl
     ·exact fun v j _=>⟨_,rfl⟩
     intro B q g y _
     simp only [zqf,zqa,zw]
     refine JB.bind (IH q (by omega) y).blk ?_ ?_ ?_
     ·exact fun _=>rfl
     ·exact fun v j _=>⟨_,rfl⟩
     intro C w F z A
     refine .ok _ w (by omega) z ?_
     unfold BS
     unfold BK at A
     rw [Us hl]
     simp only [A0.bulks,C0.bulks,Hg,zqe]
     omega
theorem I21 (out:List C0)(n:out.length≤k):J l e k (BL out k) (H6 (mk l k e) out) (E5 l k out):=by
 have g:=hl.1
 rw [H6,E5,C15 hl k,ob]
 cases hb:beg l k with
 | false=>
  rw [H21 hl hk IH hb,ob]
  unfold beg at hb
  rw [hb]
  simp only [zqg,zt,zqa,zw]
  exact .ok _ k (zqr _) hk (by unfold BL; omega)
 | true=>
  have a:=hb
  unfold beg at a
  rw [a,zp rfl]
  rcases G22 hl hk IH hb with ⟨v,j,h1,h2,f,b,c⟩ | ⟨v,j,h2,b,c⟩
  ·have h:decide ((out.length+1) * 257≤140737488355328)=true:=zqj (by unfold BB at g; omega)
   rw [b,c,ob,ob]
   simp only [h,zt,zqf,zqa,zw]
   refine ((IH j (by omega) h2).sts (out++[v]) (by rw [zqc]; simp only [List.length_singleton]; omega)).mono (by omega) fun v' i m d=>?_
   unfold BL at d ⊢
   unfold BS at f
   rw [S1e] at d
   omega
  ·rw [b,c,ob,ob]
   simp only [zqg,zt]
   exact .pn _ j h2
theorem J21:J l e (k+1) (BK k) (W6 (mk l k e)) (Xc l k):=by
 have a:=hl.1
 rw [W6,Xc,R3 l e a,A1 l a,ob]
 cases h1:isT l k [123] with
 | false=>exact .pn _ k hk
 | true=>
  have h2:=P1 h1
  simp only [zt,ob,zqf,zqa,zw]
  rw [w1 (by omega),V3,I5]
  refine J.bind ((IH (k+1) (by omega) (by omega)).sts [] (Nat.zero_le _)) ?_ ?_ ?_
  ·exact fun _=>rfl
  ·exact fun v j _=>⟨_,rfl⟩
  intro v j f c b
  simp only [zqf,zqg,zt,zql]
  rw [R3 l e a,A1 l a,ob]
  cases h6:isT l j [125] with
  | false=>exact .pn _ j c
  | true=>
   have d:=P1 h6
   simp only [zt,ob,zqf,zqa,zw]
   rw [w1 (by omega)]
   refine .ok _ (j+1) (by omega) (by omega) ?_
   unfold BK
   unfold BL at b
   simp only [C0.bulks] at b
   omega
end
theorem B1t:∀ (n k:Nat),l.length - k < n→k≤l.length→PS l e k
 | 0,k,h,_=>absurd h (Nat.not_lt_zero _)
 | n+1,k,h,hk=>by
  have IH:∀ j,k < j→j≤l.length→PS l e j:=fun j h1 h2=>B1t n j (by omega) h2
  exact ⟨I21 hl hk IH,J21 hl hk IH⟩
theorem K21 {k:Nat}(hk:k≤l.length):PS l e k:=B1t hl _ k (Nat.lt_succ_self _) hk
theorem X1n {k:Nat}(hk:k≤l.length):J l e k (BK k) (V3 (mk l k e)) (I5 l k):=by
 rw [V3,I5]
 refine ((K21 hl hk).sts [] (Nat.zero_le _)).mono (zqr _) fun v j _ h=>?_
 unfold BK
 unfold BL at h
 simp only [C0.bulks] at h
 omega
end
abbrev zT:F0:=F0.mk 0 0 0 0 [] [] []
abbrev zD:B0:=B0.mk 0 [] zT 0 zE [] [] []
def BD (k:Nat)(v:B0)(j:Nat):Prop:=v.bulk≤9000 * (j - k)
theorem D1q (a:Int)(n:Str)(t:F0)(i:Int)(v:A0)(ps vs:List B0)(b:List C0):(B0.mk a n t i v ps vs b).bulk=n.length+t.bulk+v.bulk+B0.bulks ps+B0.bulks vs+C0.bulks b+7:=by
 simp only [B0.bulk]; omega
theorem Ew:∀ (os:List B0) (t:B0),B0.bulks (os++[t])=B0.bulks os+t.bulk
 | [],t=>by simp only [List.nil_append,B0.bulks]; omega
 | x::r,t=>by simp only [List.cons_append,B0.bulks,Ew r t]; omega
theorem A1y {l:List I0}{k:Nat}{t:Str}(h:isT l k t=true):∃ x,l[k]?=some x∧x.Text=t:=by
 unfold isT at h
 split at h
 ·rename_i x a
  rw [zqi] at h
  exact ⟨x,a,eq_of_beq h.1⟩
 ·cases h
section
variable {l:List I0}{e:Int}(hl:Yf l)
include hl
theorem B1y (kd:Int){k:Nat}(hk:k≤l.length) :
  (∃ n t j,k+3≤j∧j≤l.length∧n.length+t.bulk+9000≤9000 * (j - k)∧X2 kd (mk l k e)=some (.ok (Fh kd n t 0,mk l j e))∧O4 l k=some (Fh 4 n t 0,((j:Nat):Int),true))∨
  (∃ v j,j≤l.length∧X2 kd (mk l k e)=some (.pn (off l e j))∧O4 l k=some (v,((j:Nat):Int),false)):=by
 have a:=hl.1
 unfold X2
 rw [O4,Wm l e a,A8 l a]
 cases h1:T3 l k 0 with
 | false=>exact .inr ⟨_,k,hk,rfl,rfl⟩
 | true=>
  have h2:=C7 h1
  have ht:=Kj hl k
  simp only [zt,ob,zqf,zqg,zql]
  rw [R3 l e a,A1 l a,ob]
  cases h3:isT l (k+1) [58] with
  | false=>exact .inr ⟨_,k+1,by omega,rfl,rfl⟩
  | true=>
   have g:=P1 h3
   simp only [zt,ob,zqf,zqa,zw]
   rw [w1 (by omega)]
   rcases (U1i hl (e:=e) (k:=k+1+1) (by omega)).typ with ⟨v,j,h,c,f,b,d⟩ | ⟨v,j,c,b,d⟩
   ·unfold BT at f
    rw [b,d,ob,ob]
    exact .inl ⟨_,v,j,by omega,c,by omega,rfl,rfl⟩
   ·rw [b,d,ob,ob]
    exact .inr ⟨_,j,c,rfl,rfl⟩
theorem S19 {k j:Nat}{kd:Int}{n:Str}{t:F0}{v:A0}{x:B0×Int×Bool}(d:x.1=Fh 4 n t 0)(f:j≤l.length)(hk:k≤j)(hb:n.length+t.bulk+v.bulk+8≤9000 * (j+1 - k)){F:Pn D0→Option (Pn (B0×Bool×D0))}(c:∀ n,F (.pn n)=some (.pn n))(a:∀ x,F (.ok x)=some (.ok (B0.mk kd n t 0 v [] [] [],true,x))) :
  JB l e (k+1) (BD k) (U0 [59] (mk l j e)>>=F) (T2 l kd x v j):=by
 have b:=hl.1
 unfold T2
 rw [R3 l e b,A1 l b,ob,d]
 cases h:isT l j [59] with
 | false=>simp only [zqa,zw,ob,c,zqg,zt]; exact .pn _ j f
 | true=>
  have:=P1 h
  simp only [zt,ob,a,zqf,zqa,zw]
  rw [w1 (by omega)]
  refine .ok _ (j+1) (by omega) (by omega) ?_
  unfold BD
  rw [D1q]
  simp only [B0.bulks,C0.bulks]
  omega
theorem D15 (k:Nat)(a b:Str):Fl l k [a,b]=some (if isT l k a=true then (if isT l (k+1) b=true then (((k+1+1:Nat):Int),true) else (((k+1:Nat):Int),false)) else ((k:Int),false)):=by
 have c:=hl.1
 unfold Fl
 rw [Hc]
 have d:idx [a,b] 0=some a:=rfl
 have e:idx [a,b] 1=some b:=rfl
 rw [zp (by simp),d,ob,A1 l c,ob]
 cases h:isT l k a with
 | false=>rfl
 | true=>
  have h1:=P1 h
  simp only [zqf,zqa,zw,zt]
  rw [w1 (by omega),show IntKind.i64.wrap (0+1)=1 by decide,Hc,zp (by simp),e,ob,A1 l c,ob]
  cases h2:isT l (k+1) b with
  | false=>rfl
  | true=>
   have f:=P1 h2
   simp only [zqf,zqa,zw,zt]
   rw [w1 (by omega),show IntKind.i64.wrap (1+1)=2 by decide,Hc,zn (by simp)]
theorem C1t (nm:Str)(t:F0)(ps:List B0)(x1:Str×D0)(r:Str×Int×Bool)(q:F0×D0)(u:F0×Int×Bool)(i:x1.1=nm)(m:r.1=nm)(d:q.1=t)(f:u.1=t) :
  ∀ (n j:Nat) (vs:List B0),l.length - j < n→j≤l.length→vs.length≤j→
  J l e (j+1) (fun v x=>v.bulk≤nm.length+t.bulk+B0.bulks ps+B0.bulks vs+9000 * (x - j)) (P5 (mk l j e) x1 q ps vs) (N5 l r u ps vs j)
 | 0,j,vs,h,_,_=>absurd h (Nat.not_lt_zero _)
 | n+1,j,vs,h,C,ha=>by
  have b:=hl.1
  rw [P5,N5,O2 l e b,ob,A1 l b,ob]
  cases h1:isT l j [118,97,114] with
  | true=>
   have h2:=P1 h1
   simp only [X3,zt]
   rw [w1 (by omega)]
   rcases Q1e hl (e:=e) (k:=j+1) (by omega) with ⟨v,a,y,g,⟨_,z⟩,p,o⟩ | ⟨v,a,g,p,o⟩
   ·have B:decide ((vs.length+1) * 257≤140737488355328)=true:=zqj (by unfold BB at b; omega)
    rw [p,o,ob,ob]
    simp only [B,zt,zqf,zqa,zw]
    refine (C1t nm t ps x1 r q u i m d f n a (vs++[v]) (by omega) g (by rw [zqc]; simp only [List.length_singleton]; omega)).mono (by omega) fun v' x w s=>?_
    rw [Ew] at s
    omega
   ·rw [p,o,ob,ob]
    simp only [zqg,zt]
    exact .pn _ a g
  | false=>
   simp only [I3,zqa,zw]
   refine J.bind (X1n hl C) ?_ ?_ ?_
   ·exact fun _=>rfl
   ·exact fun v j _=>⟨_,rfl⟩
   intro v a h2 y g
   simp only [zqf,zqg,zt,zql]
   rw [R3 l e b,A1 l b,ob]
   cases z:isT l a [114,101,116,117,114,110] with
   | false=>exact .pn _ a y
   | true=>
    have p:=P1 z
    simp only [zt,ob,zqf,zqa,zw]
    rw [w1 (by omega)]
    refine J.bind (Dw (e:=e) hl (k:=a+1) (by omega)).expr ?_ ?_ ?_
    ·exact fun _=>rfl
    ·exact fun v j _=>⟨_,rfl⟩
    intro E c o w s
    simp only [zqf,zqa,zw]
    rw [R3 l e b,D15 hl,ob]
    cases h10:isT l c [59] with
    | false=>exact .pn _ c w
    | true=>
     have A:=P1 h10
     simp only [zt,ob]
     rw [R3 l e b]
     cases h12:isT l (c+1) [125] with
     | false=>exact .pn _ (c+1) (by omega)
     | true=>
      have D:=P1 h12
      simp only [zt,ob]
      rw [i,m,d,f]
      refine .ok _ (c+1+1) (by omega) (by omega) ?_
      unfold BK at g
      unfold BE at s
      rw [D1q]
      omega
theorem D1t (nm:Str)(ps:List B0)(x1:Str×D0)(d:Str×Int×Bool)(f:x1.1=nm)(g:d.1=nm){j:Nat}(n:j≤l.length) :
  J l e (j+1) (fun v h=>v.bulk≤nm.length+B0.bulks ps+9000 * (h - j)) (Q5 (mk l j e) x1 ps) (O5 l d ps j):=by
 have b:=hl.1
 unfold Q5 O5
 rw [R3 l e b,D15 hl,ob]
 cases h1:isT l j [41] with
 | false=>exact .pn _ j n
 | true=>
  have h2:=P1 h1
  simp only [zt,ob]
  rw [R3 l e b]
  cases h3:isT l (j+1) [58] with
  | false=>exact .pn _ (j+1) (by omega)
  | true=>
   have p:=P1 h3
   simp only [zt,ob,zqf,zqa,zw]
   refine J.bind (U1i (e:=e) hl (k:=j+1+1) (by omega)).typ ?_ ?_ ?_
   ·exact fun _=>rfl
   ·exact fun v j _=>⟨_,rfl⟩
   intro v a r m i
   simp only [zqf,zqg,zt,zql]
   rw [R3 l e b,A1 l b,ob]
   cases h8:isT l a [123] with
   | false=>exact .pn _ a m
   | true=>
    have q:=P1 h8
    simp only [zt,ob,zqf,zqa,zw]
    rw [w1 (by omega)]
    refine (C1t hl nm v ps x1 d _ _ f g rfl rfl (l.length - (a+1)+1) (a+1) [] (by omega) (by omega) (Nat.zero_le _)).mono (by omega) fun v' h o c=>?_
    unfold BT at i
    simp only [B0.bulks] at c
    omega
theorem E1t (nm:Str)(x1:Str×D0)(a:Str×Int×Bool)(b:x1.1=nm)(c:a.1=nm):∀ (n j:Nat) (ps:List B0),l.length - j < n→j≤l.length→ps.length≤j→
  J l e (j+1) (fun v o=>v.bulk≤nm.length+B0.bulks ps+9000 * (o - j)) (R5 (mk l j e) x1 ps)
   (B1 l j [44]>>=fun s=>if (!s)=true then O5 l a ps j else Y3 l a ps (IntKind.i64.wrap ((j:Int)+1)))
 | 0,j,ps,h,_,_=>absurd h (Nat.not_lt_zero _)
 | n+1,j,ps,h,q,ha=>by
  have m:=hl.1
  rw [R5,O2 l e m,ob,A1 l m,ob]
  cases h1:isT l j [44] with
  | false=>
   simp only [I3,zqa,zw,zqg,zt]
   exact D1t hl nm ps x1 a b c q
  | true=>
   have h2:=P1 h1
   simp only [X3,zt,zqf,zqa,zw]
   rw [w1 (by omega),Y3]
   rcases A1g hl (e:=e) (k:=j+1) (by omega) with ⟨v,g,u,i,⟨_,w⟩,f,d⟩ | ⟨v,g,i,f,d⟩
   ·have p:decide ((ps.length+1) * 257≤140737488355328)=true:=zqj (by unfold BB at m; omega)
    rw [f,d,ob,ob]
    simp only [p,zt,zqf,zqa,zw]
    refine (E1t nm x1 a b c n g (ps++[v]) (by omega) i (by rw [zqc]; simp only [List.length_singleton]; omega)).mono (by omega) fun v' o t r=>?_
    rw [Ew] at r
    omega
   ·rw [f,d,ob,ob]
    simp only [zqg,zt]
    exact .pn _ g i
theorem E1q {k:Nat}(hk:k≤l.length):J l e (k+1) (BD k) (Fb (mk l k e)) (Ic l k):=by
 have a:=hl.1
 unfold Fb Ic
 rw [Wm l e a,A8 l a]
 cases h1:T3 l k 0 with
 | false=>exact .pn _ k hk
 | true=>
  have h2:=C7 h1
  have ht:=Kj hl k
  simp only [zt,ob,zqf,zqg,zql]
  rw [R3 l e a,A1 l a,ob]
  cases h3:isT l (k+1) [40] with
  | false=>exact .pn _ (k+1) (by omega)
  | true=>
   have q:=P1 h3
   simp only [zt,ob,zqf,zqa,zw]
   rw [Y14 l e a,ob,w1 (by omega),A1 l a,ob]
   cases h5:isT l (k+1+1) [41] with
   | true=>
    rw [(X7 h5).1]
    simp only [zqf,zqa,zw]
    refine (D1t hl (txt l k) [] _ _ rfl rfl (by omega)).mono (by omega) fun v' j g h=>?_
    unfold BD
    simp only [B0.bulks] at h
    omega
   | false=>
    simp only [zqg,zt]
    cases g:T3 l (k+1+1) 0 with
    | false=>
     simp only [zqa,zw]
     unfold Q5
     rw [R3 l e a,h5,Y3,O4,A8 l a,g]
     exact .pn _ (k+1+1) (by omega)
    | true=>
     simp only [zt]
     rw [Y3]
     rcases A1g hl (e:=e) (k:=k+1+1) (by omega) with ⟨v,b,n,d,⟨_,p⟩,f,c⟩ | ⟨v,b,d,f,c⟩
     ·have i:decide ((0+1) * 257≤140737488355328)=true:=by decide
      rw [f,c,ob,ob]
      simp only [i,zt,zqf,zqa,zw,zqe,List.nil_append]
      unfold Vc
      refine (E1t hl (txt l k) _ _ rfl rfl (l.length - b+1) b [v] (by omega) d (by simp only [List.length_singleton]; omega)).mono (by omega) fun v' j o m=>?_
      unfold BD
      simp only [B0.bulks] at m
      omega
     ·rw [f,c,ob,ob]
      simp only [zqg,zt]
      exact .pn _ b d
def dcl (l:List I0)(k:Nat):Bool:=isT l k [116,121,112,101]||(isT l k [115,101,99,114,101,116]||(isT l k [112,117,98,108,105,99]||(isT l k [114,97,110,100,111,109]||(isT l k [118,97,114]||(isT l k [104,97,116,99,104]||isT l k [102,117,110,99])))))
theorem E15 (k:Nat):Cj l k=some (dcl l k):=by
 have a:=hl.1
 unfold Cj dcl
 simp only [A1 l a,ob]
 generalize isT l k [116,121,112,101]=b0
 generalize isT l k [115,101,99,114,101,116]=b1
 generalize isT l k [112,117,98,108,105,99]=b2
 generalize isT l k [114,97,110,100,111,109]=b3
 generalize isT l k [118,97,114]=b4
 generalize isT l k [104,97,116,99,104]=b5
 generalize isT l k [102,117,110,99]=b6
 cases b0 with
 | true=>rfl
 | false=>
 cases b1 with
 | true=>rfl
 | false=>
 cases b2 with
 | true=>rfl
 | false=>
 cases b3 with
 | true=>rfl
 | false=>
 cases b4 with
 | true=>rfl
 | false=>
 cases b5 with
 | true=>rfl
 | false=>rfl
theorem C1y {k:Nat}(hb:dcl l k=false):S5 (mk l k e)=some (.ok (zD,false,mk l k e)):=by
 have d:=hl.1
 unfold dcl at hb
 simp only [Bool.or_eq_false_iff] at hb
 obtain ⟨h1,h2,b,f,g,c,a⟩:=hb
 unfold S5
 simp only [O2 l e d,h1,h2,b,f,g,c,a,I3,ob,zqa,zw]
theorem C20 {k:Nat}(hk:k≤l.length)(hb:dcl l k=true):JB l e (k+1) (BD k) (S5 (mk l k e)) (L4 l k):=by
 have a:=hl.1
 unfold S5 L4
 rw [O2 l e a,ob]
 cases h1:isT l k [116,121,112,101] with
 | true=>
  have h:=P1 h1
  simp only [X3,zt,A1 l a,ob,h1,V8 h1 (t':=[118,97,114]) rfl,V8 h1 (t':=[102,117,110,99]) rfl,zqa,zw]
  rw [w1 (by omega),Wm l e a,A8 l a]
  cases h2:T3 l (k+1) 0 with
  | false=>exact .pn _ (k+1) (by omega)
  | true=>
   have o:=C7 h2
   have ht:=Kj hl (k+1)
   simp only [zt,ob,zqf,zqg,zql]
   rw [R3 l e a,A1 l a,ob]
   cases h4:isT l (k+1+1) [61] with
   | false=>exact .pn _ (k+1+1) (by omega)
   | true=>
    have m:=P1 h4
    simp only [zt,ob,zqf,zqa,zw]
    rw [w1 (by omega)]
    refine JB.bind (U1i (e:=e) hl (k:=k+1+1+1) (by omega)).typ ?_ ?_ ?_
    ·exact fun _=>rfl
    ·exact fun v j _=>⟨_,rfl⟩
    intro v j p g A
    simp only [zqf,zqg,zt,zql]
    rw [R3 l e a,A1 l a,ob]
    cases h9:isT l j [59] with
    | false=>exact .pn _ j g
    | true=>
     have J:=P1 h9
     simp only [zt,ob,zqf,zqa,zw]
     rw [w1 (by omega)]
     refine .ok _ (j+1) (by omega) (by omega) ?_
     unfold BD
     unfold BT at A
     rw [D1q]
     simp only [B0.bulks,C0.bulks,Hg,zqe]
     omega
 | false=>
 simp only [I3,zqa,zw]
 have word:∀ (w:Str) (kd:Int),isT l k w=true→(w == [118,97,114])=false→(w == [102,117,110,99])=false→
   ∀ {F:Pn (B0×D0)→Option (Pn (B0×Bool×D0))} {G:I0→B0×Int×Bool→Option (B0×Int×Bool)},(∀ n,F (.pn n)=some (.pn n))→
   (∀ x n t j,x.Text=w→k+4≤j→j≤l.length→n.length+t.bulk+18000≤9000 * (j - k)→JB l e (k+1) (BD k) (F (.ok (Fh kd n t 0,mk l j e))) (G x (Fh 4 n t 0,(j:Int),true)))→
   JB l e (k+1) (BD k) (X2 kd (mk l (k+1) e)>>=F) (idx l k>>=fun u=>O4 l (IntKind.i64.wrap ((k:Int)+1))>>=fun d=>if (!d.2.2)=true then some (d.1,d.2.1,false) else G u d):=by
  intro w kd C hv hf F G E H
  have h:=P1 C
  obtain ⟨x,I,y⟩:=A1y C
  rw [To,I,ob,w1 (by omega)]
  rcases B1y hl (e:=e) kd (k:=k+1) (by omega) with ⟨n,t,j,c,b,f,i,r⟩ | ⟨v,j,b,i,r⟩
  ·rw [i,r,ob,ob]
   simp only [zqf,zqa,zw]
   exact H x n t j y (by omega) b (by omega)
  ·rw [i,r,ob,ob,E]
   simp only [zqg,zt]
   exact .pn _ j b
 rw [O2 l e a,ob]
 cases h2:isT l k [115,101,99,114,101,116] with
 | true=>
  simp only [X3,zt,A1 l a,ob,h1,V8 h2 (t':=[118,97,114]) rfl,V8 h2 (t':=[102,117,110,99]) rfl,zqa,zw]
  refine word [115,101,99,114,101,116] 1 h2 rfl rfl (fun _=>rfl) fun x n t j c b f i=>?_
  rw [c]
  exact S19 hl (x:=(Fh 4 n t 0,(j:Int),true)) rfl f (by omega) (by rw [show (Fh 4 n t 0).Value=zE from rfl,Hg]; simp only [zqe]; omega) (fun _=>rfl) (fun _=>rfl)
 | false=>
 simp only [I3,zqa,zw]
 rw [O2 l e a,ob]
 cases o:isT l k [112,117,98,108,105,99] with
 | true=>
  simp only [X3,zt,A1 l a,ob,h1,V8 o (t':=[118,97,114]) rfl,V8 o (t':=[102,117,110,99]) rfl,zqa,zw]
  refine word [112,117,98,108,105,99] 2 o rfl rfl (fun _=>rfl) fun x n t j c b f i=>?_
  rw [c]
  exact S19 hl (x:=(Fh 4 n t 0,(j:Int),true)) rfl f (by omega) (by rw [show (Fh 4 n t 0).Value=zE from rfl,Hg]; simp only [zqe]; omega) (fun _=>rfl) (fun _=>rfl)
 | false=>
 simp only [I3,zqa,zw]
 rw [O2 l e a,ob]
 cases h4:isT l k [114,97,110,100,111,109] with
 | true=>
  simp only [X3,zt,A1 l a,ob,h1,V8 h4 (t':=[118,97,114]) rfl,V8 h4 (t':=[102,117,110,99]) rfl,zqa,zw]
  refine word [114,97,110,100,111,109] 3 h4 rfl rfl (fun _=>rfl) fun x n t j c b f i=>?_
  rw [c]
  exact S19 hl (x:=(Fh 4 n t 0,(j:Int),true)) rfl f (by omega) (by rw [show (Fh 4 n t 0).Value=zE from rfl,Hg]; simp only [zqe]; omega) (fun _=>rfl) (fun _=>rfl)
 | false=>
 simp only [I3,zqa,zw]
 rw [O2 l e a,ob]
 cases m:isT l k [118,97,114] with
 | true=>
  have h:=P1 m
  simp only [X3,zt,A1 l a,ob,m]
  rw [w1 (by omega)]
  refine JB.rsame (JB.lift ((Q1e hl (e:=e) (k:=k+1) (by omega)).mono (by omega) fun v j c b=>?_) ?_ ?_)
  ·obtain ⟨_,b⟩:=b
   unfold BD
   omega
  ·exact fun _=>rfl
  ·exact fun _=>rfl
 | false=>
 simp only [I3,zqa,zw]
 rw [O2 l e a,ob]
 cases p:isT l k [104,97,116,99,104] with
 | true=>
  simp only [X3,zt,A1 l a,ob,h1,m,V8 p (t':=[102,117,110,99]) rfl,zqa,zw]
  refine word [104,97,116,99,104] 5 p rfl rfl (fun _=>rfl) fun x n t j c b f i=>?_
  rw [c]
  rw [zn (by decide),zn (by decide),zn (by decide)]
  simp only
  rw [R3 l e a,A1 l a,ob]
  cases g:isT l j [61] with
  | false=>exact .pn _ j f
  | true=>
   have A:=P1 g
   simp only [zt,ob,zqf,zqa,zw]
   rw [w1 (by omega)]
   rcases (Dw (e:=e) hl (k:=j+1) (by omega)).expr with ⟨v,B,K,q,D,s,z⟩ | ⟨v,B,q,s,z⟩
   ·rw [s,z,ob,ob]
    simp only [zqf,zqa,zw]
    unfold BE at D
    exact S19 hl (x:=(Fh 4 n t 0,(j:Int),true)) rfl q (by omega) (by omega) (fun _=>rfl) (fun _=>rfl)
   ·rw [s,z,ob,ob]
    exact .pn _ B q
 | false=>
 simp only [I3,zqa,zw]
 rw [O2 l e a,ob]
 cases g:isT l k [102,117,110,99] with
 | false=>
  unfold dcl at hb
  rw [h1,h2,o,h4,m,p,g] at hb
  cases hb
 | true=>
  have h:=P1 g
  simp only [X3,zt,A1 l a,ob,m,g,zqa,zw]
  rw [w1 (by omega)]
  refine JB.rsame (JB.lift ((E1q hl (e:=e) (k:=k+1) (by omega)).mono (by omega) fun v j c b=>?_) ?_ ?_)
  ·unfold BD at b ⊢
   omega
  ·exact fun _=>rfl
  ·exact fun _=>rfl
theorem F1t:∀ (n k:Nat) (a:List B0),l.length - k < n→k≤l.length→a.length≤k→
  J l e (k+1) (fun v j=>v.bulk≤B0.bulks a+9000 * (j - k)) (C6 (mk l k e) a) (V6 l a k)
 | 0,k,a,h,_,_=>absurd h (Nat.not_lt_zero _)
 | n+1,k,a,h,hk,p=>by
  have c:=hl.1
  rw [C6,V6,E15 hl,ob]
  cases hb:dcl l k with
  | true=>
   rw [zp rfl]
   rcases C20 hl (e:=e) hk hb with ⟨v,j,h1,h2,i,b,d⟩ | ⟨v,j,h2,b,d⟩
   ·have m:decide ((a.length+1) * 257≤140737488355328)=true:=zqj (by unfold BB at c; omega)
    rw [b,d,ob,ob]
    simp only [m,zt,zqf,zqa,zw]
    refine (F1t n j (a++[v]) (by omega) h2 (by rw [zqc]; simp only [List.length_singleton]; omega)).mono (by omega) fun v' o g f=>?_
    unfold BD at i
    rw [Ew] at f
    omega
   ·rw [b,d,ob,ob]
    exact .pn _ j h2
  | false=>
   rw [C1y hl hb,ob]
   simp only [zqg,zt,zqa,zw]
   rw [R3 l e c,A1 l c,ob]
   cases h1:isT l k [98,101,103,105,110] with
   | false=>exact .pn _ k hk
   | true=>
    have h2:=P1 h1
    simp only [zt,ob,zqf,zqa,zw]
    rw [w1 (by omega)]
    refine J.bind (X1n hl (k:=k+1) (by omega)) ?_ ?_ ?_
    ·exact fun _=>rfl
    ·exact fun v j _=>⟨_,rfl⟩
    intro v j i b d
    simp only [zqf,zqg,zt,zql]
    rw [R3 l e c,A1 l c,ob]
    cases g:isT l j [101,110,100] with
    | false=>exact .pn _ j b
    | true=>
     have f:=P1 g
     simp only [zt,ob,zqf,zqa,zw]
     rw [w1 (by omega)]
     refine .ok _ (j+1) (by omega) (by omega) ?_
     unfold BK at d
     simp only [S0.bulk]
     omega
theorem U1h:J l e 1 (fun v j=>v.bulk≤9000 * j) (Y4 (mk l 0 e)) (Mb l (0:Nat)):=by
 unfold Y4 Mb
 refine (F1t hl (e:=e) (l.length+1) 0 [] (by omega) (Nat.zero_le _) (Nat.zero_le _)).mono (by omega) fun v j h1 h2=>?_
 simp only [B0.bulks] at h2
 omega
end
theorem V1l {p:S0}(h:p.bulk≤80000000):OkP p:=by
 cases p
 simp only [S0.bulk] at h
 exact ⟨by unfold OkD BB; simp only; omega,by unfold OkS BB; simp only; omega⟩
theorem T1e (p:S0):S1i p p=true:=by unfold S1i; rw [X1p,K1e]; rfl
theorem F1q (text:Str):∃ v,Dd text=some v∧Ao text=some v∧OkP v.1:=by
 have hz:OkP (S0.mk [] []):=I1l (by decide)
 obtain ⟨x1,x2⟩:=L1z text
 unfold Dd Ao Yi
 rw [x1,x2,ob,ob]
 generalize hL:Ha text=L
 by_cases h0:L.2.2=0
 ·have hb:(L.2.2 != 0)=false:=by rw [h0]; rfl
  obtain ⟨ht,c⟩:=H1c (s:=text) (by rw [hL]; exact h0)
  rw [hL] at ht c
  simp only [hb,zqa,zw]
  have g:=U1h (l:=L.1) (e:=(text.length:Int)) ht
  unfold Xi
  rcases g with ⟨v,j,h1,h2,h,d,f⟩ | ⟨v,j,h2,d,f⟩
  ·have b:Y4 (D0.mk L.1 0 (text.length:Int))=some (.ok (v,mk L.1 j (text.length:Int))):=d
   have a:Mb L.1 0=some (v,((j:Nat):Int),true):=f
   rw [b,a,ob,ob]
   simp only [ob,zqf,zql]
   cases hj:decide ((j:Int) < (L.1.length:Int)) with
   | true=>
    simp only [zt,M1e L.1 _ ht.1,T1l,ob]
    exact ⟨_,rfl,rfl,hz⟩
   | false=>
    have hv:OkP v:=V1l (by omega)
    simp only [zqa,zw,ob]
    rw [F1l v hv,P1s v hv]
    simp only [ob,bne_self_eq_false,zqa,zw]
    by_cases hc:(F6 v != 0)=true
    ·rw [zp hc]; exact ⟨_,rfl,rfl,hz⟩
    ·rw [zn hc]; exact ⟨_,rfl,rfl,hv⟩
  ·have b:Y4 (D0.mk L.1 0 (text.length:Int))=some (.pn (off L.1 (text.length:Int) j)):=d
   have a:Mb L.1 0=some (v,((j:Nat):Int),false):=f
   rw [b,a,ob,ob]
   simp only [ob,zqg,zqk,zt,T1l]
   exact ⟨_,rfl,rfl,hz⟩
 ·have hb:(L.2.2 != 0)=true:=by simpa using h0
  simp only [hb,zt,ob]
  exact ⟨_,rfl,rfl,hz⟩
abbrev LxR:=List I0×Int×Int
def lx (r:List UInt8)(k:Nat):LxR:=Gg (r.length+1) r k
def T1w (a:I0)(z:LxR):LxR:=if z.2.2=0 then (a::z.1,0,0) else z
theorem V1h:∀ (n m:Nat) (r:List UInt8) (k:Nat),r.length < n→r.length < m→Gg n r k=Gg m r k
 | 0,_,_,_,h,_=>absurd h (Nat.not_lt_zero _)
 | _+1,0,_,_,_,h=>absurd h (Nat.not_lt_zero _)
 | n+1,m+1,r,k,hn,hm=>by
  unfold Gg
  cases hd:r.drop (skp false r) with
  | nil=>rfl
  | cons c t=>
   have a:(c::t).length≤r.length:=by rw [← hd,List.length_drop]; omega
   simp only
   by_cases hx:(nxt (c::t) ((k+skp false r:Nat):Int)).2=0
   ·obtain ⟨d,b,_,_⟩:=Dk hx
    rw [zp hx,zp hx,V1h n m _ _ (by rw [List.length_drop]; omega) (by rw [List.length_drop]; omega)]
   ·rw [zn hx,zn hx]
theorem D20 {r:List UInt8}(h:r.drop (skp false r)=[])(k:Nat):lx r k=([],0,0):=by
 unfold lx Gg
 rw [h]
theorem D1y {r t:List UInt8}{c:UInt8}(h:r.drop (skp false r)=c::t)(k:Nat)(a:(nxt (c::t) ((k+skp false r:Nat):Int)).2=0) :
  lx r k=T1w (nxt (c::t) ((k+skp false r:Nat):Int)).1 (lx ((c::t).drop (nxt (c::t) ((k+skp false r:Nat):Int)).1.Text.length) (k+skp false r+(nxt (c::t) ((k+skp false r:Nat):Int)).1.Text.length)):=by
 have b:(c::t).length≤r.length:=by rw [← h,List.length_drop]; omega
 obtain ⟨e,d,_,_⟩:=Dk a
 have hf:=V1h r.length (((c::t).drop (nxt (c::t) ((k+skp false r:Nat):Int)).1.Text.length).length+1) ((c::t).drop (nxt (c::t) ((k+skp false r:Nat):Int)).1.Text.length) (k+skp false r+(nxt (c::t) ((k+skp false r:Nat):Int)).1.Text.length) (by rw [List.length_drop]; omega) (Nat.lt_succ_self _)
 unfold lx
 rw [Gg]
 rw [h]
 simp only
 rw [zp a,hf]
 rfl
theorem E20 {r t:List UInt8}{c:UInt8}(h:r.drop (skp false r)=c::t)(k:Nat)(a:¬(nxt (c::t) ((k+skp false r:Nat):Int)).2=0):lx r k=([],((k+skp false r:Nat):Int),(nxt (c::t) ((k+skp false r:Nat):Int)).2):=by
 unfold lx
 rw [Gg]
 rw [h]
 simp only
 rw [zn a]
theorem E1y (s:Str):Ha s=if s.length > 8192 then ([],0,5) else lx s 0:=rfl
def brk (d:UInt8):Bool:=!ld d && !(d == 46||d == 61||d == 38||d == 124)
theorem Vo {d:UInt8}(h:brk d=true)(c:UInt8):Gi [c,d]=false:=by
 unfold brk at h
 rw [zqi,Bool.not_eq_true',Bool.not_eq_true',Bool.or_eq_false_iff,Bool.or_eq_false_iff,Bool.or_eq_false_iff] at h
 obtain ⟨_,⟨⟨h1,h2⟩,g⟩,i⟩:=h
 have f:∀ a b:UInt8,(d == b)=false→(([c,d]:List UInt8) == [a,b])=false:=fun a b hb=>zqn.2 fun e=>by
  injection e with _ e
  injection e with e _
  rw [e] at hb
  simp at hb
 unfold Gi
 rw [f 46 46 h1,f 61 61 h2,f 33 61 h2,f 60 61 h2,f 62 61 h2,f 38 38 g,f 124 124 i]
 rfl
section
variable {l l':List I0}{s:Nat}{w:Bool}{α β:Type}
end
section
variable {l l':List I0}{s:Nat}{w:Bool}{α β:Type}(hl:Yf l)(hl':Yf l')(hs:l.length+s+8≤BB)
include hl hl' hs
end
section
variable {l l':List I0}{s:Nat}{w:Bool}{α β:Type}(hl:Yf l)(hl':Yf l')(hs:l.length+s+8≤BB)
include hl hl' hs
end
section
variable {l l':List I0}{s:Nat}{α β:Type}(hl:Yf l)(hl':Yf l')(hs:l.length+s+8≤BB)
include hl hl' hs
end
theorem G1t (r:List UInt8)(k k':Int):nxt r k'=((I0.mk (nxt r k).1.Kind (nxt r k).1.Text k'),(nxt r k).2):=by
 unfold nxt
 split
 ·split
  ·rfl
  ·split <;> rfl
 ·split
  ·rfl
  ·split
   ·rfl
   ·split <;> rfl
theorem T19 {c:UInt8}(h:([46,61,33,60,62,38,124]:List UInt8).contains c=false)(t:List UInt8):Gi (c::t)=false:=by
 have f:∀ a∈([46,61,33,60,62,38,124]:List UInt8),∀ b:UInt8,((c::t) == [a,b])=false:=fun a ha b=>zqn.2 fun e=>by
  injection e with e _
  subst e
  rw [List.contains_iff_mem.2 ha] at h
  cases h
 unfold Gi
 rw [f 46 (by decide),f 61 (by decide),f 33 (by decide),f 60 (by decide),f 62 (by decide),f 38 (by decide),f 124 (by decide)]
 rfl
theorem W1l {c:UInt8}{t:List UInt8}{k:Int}(h:(nxt (c::t) k).2=0)(r:List UInt8):skp false (c::r)=0:=by
 have f:∀ d:UInt8,M6 d.toNat=false→J6 d.toNat=false→([46,61,33,60,62,38,124]:List UInt8).contains d=false→Ml d=false→c=d→False:=fun d h1 h2 a b e=>by
  subst e
  revert h
  unfold nxt
  simp only [List.getD_cons_zero,h1,h2,b,zqa,zw]
  have:Gi ((c::t).take 2)=false:=by rw [List.take_succ_cons]; exact T19 a _
  rw [this,Bool.and_false,zn (by simp)]
  intro h
  cases h
 have u:∀ d:UInt8,((c.toNat:Int) == (d.toNat:Int))=true→c=d:=fun d h=>UInt8.toNat_inj.1 (by have:=eq_of_beq h; omega)
 simp only [skp]
 by_cases h1:((c.toNat:Int) == 35)=true
 ·exact (f 35 rfl rfl rfl rfl (u 35 h1)).elim
 rw [zn h1]
 by_cases h2:((c.toNat:Int) == 32)=true
 ·exact (f 32 rfl rfl rfl rfl (u 32 h2)).elim
 by_cases a:((c.toNat:Int) == 9)=true
 ·exact (f 9 rfl rfl rfl rfl (u 9 a)).elim
 by_cases b:((c.toNat:Int) == 10)=true
 ·exact (f 10 rfl rfl rfl rfl (u 10 b)).elim
 rw [zn]
 simp only [Bool.or_eq_true,not_or]
 exact ⟨h2,a,b⟩
def key (x:I0):Int×Str:=(x.Kind,x.Text)
theorem L21 {l:List I0}{k:Nat}{x:I0}(h:l[k]?=some x){t:Str}(hn:(x.Text == t)=false):isT l k t=false:=by
 unfold isT
 rw [h]
 simp only [hn,Bool.false_and]
theorem W1v {l:List I0}(hl:Yf l){p q:Nat}{v:A0}(k:∃ x,l[p]?=some x∧x.Kind=3∧x.Text=[40])(h:W1 l ((p+1:Nat):Int)=some (v,(q:Int),true))(hc:∃ x,l[q]?=some x∧x.Kind=3∧x.Text=[41]) :
  U3 l p=some (v,((q+1:Nat):Int),true):=by
 have e:=hl.1
 obtain ⟨x,f,hk,ht⟩:=k
 obtain ⟨y,i,d,g⟩:=hc
 have hp:=Jj f
 have m:=Jj i
 have a:∀ t:Str,(([40]:Str) == t)=false→isT l p t=false:=fun t h=>L21 f (by rw [ht]; exact h)
 have c:isT l p [40]=true:=by unfold isT; rw [f]; simp only [hk,ht]; decide
 have b:isT l q [41]=true:=by unfold isT; rw [i]; simp only [d,g]; decide
 have j:H5 l p=some (v,((q+1:Nat):Int),true):=by
  rw [H5]
  simp only [A1 l e,ob,a [116,114,117,101] (by decide),a [102,97,108,115,101] (by decide),a [109,105,110] (by decide),a [109,97,120] (by decide),c,zqg,zt,zqa,zw,zql]
  rw [w1 (by omega),h,ob]
  simp only [zqf,zqg,zt,zql]
  rw [A1 l e,ob,b]
  simp only [zqf,zqa,zw]
  rw [w1 (by omega)]
 rw [U3]
 simp only [A1 l e,ob,a [45] (by decide),a [33] (by decide),zqg,zt,zqk]
 rw [j,ob]
abbrev zP:S0:=S0.mk [] []
def G1q (l:List I0)(e:Int)(v:S0)(j:Nat)(ok:Bool):S0×Int×Int:=
 if ok&&j == l.length then (if F6 v != 0 then (zP,0,F6 v) else (v,0,0)) else (zP,off l e j,6)
theorem H1t (text:Str)(h:(Ha text).2.2=0):∃ v j ok,Mb (Ha text).1 ((0:Nat):Int)=some (v,((j:Nat):Int),ok)∧j≤(Ha text).1.length∧
  Dd text=some (G1q (Ha text).1 (text.length:Int) v j ok)∧OkP (G1q (Ha text).1 (text.length:Int) v j ok).1:=by
 have hz:OkP zP:=I1l (by decide)
 have x1:=T1n text
 obtain ⟨ht,g⟩:=H1c h
 have hb:((Ha text).2.2 != 0)=false:=by rw [h]; rfl
 unfold Dd Yi
 rw [x1,ob]
 simp only [hb,zqa,zw]
 unfold Xi G1q
 rcases U1h (l:=(Ha text).1) (e:=(text.length:Int)) ht with ⟨v,j,h1,h2,i,c,f⟩ | ⟨v,j,h2,c,f⟩
 ·have a:Y4 (D0.mk (Ha text).1 0 (text.length:Int))=some (.ok (v,mk (Ha text).1 j (text.length:Int))):=c
  have hv:OkP v:=V1l (by omega)
  refine ⟨v,j,true,f,h2,?_⟩
  rw [a,ob]
  simp only [ob,Bool.true_and]
  by_cases hj:j=(Ha text).1.length
  ·have d:decide ((j:Int) < ((Ha text).1.length:Int))=false:=zqs (by omega)
   have b:(j == (Ha text).1.length)=true:=by simpa using hj
   rw [d,zn (by simp),b]
   simp only [ob,bne_self_eq_false,zqa,zw,zt]
   rw [F1l v hv,ob]
   by_cases hc:(F6 v != 0)=true
   ·exact ⟨by rw [zp hc,zp hc],by rw [zp hc]; exact hz⟩
   ·exact ⟨by rw [zn hc,zn hc],by rw [zn hc]; exact hv⟩
  ·have d:decide ((j:Int) < ((Ha text).1.length:Int))=true:=zqj (by omega)
   have b:(j == (Ha text).1.length)=false:=by simpa using hj
   rw [d,zp rfl,b,M1e (Ha text).1 _ ht.1,ob]
   exact ⟨rfl,hz⟩
 ·have a:Y4 (D0.mk (Ha text).1 0 (text.length:Int))=some (.pn (off (Ha text).1 (text.length:Int) j)):=c
  refine ⟨v,j,false,f,h2,?_⟩
  rw [a,ob]
  exact ⟨rfl,hz⟩
def tk:Nat→List UInt8→List (Int×Str)×Int
 | 0,_=>([],0)
 | n+1,r=>
  match r.drop (skp false r) with
  | []=>([],0)
  | c::t=>if (nxt (c::t) 0).2=0 then (key (nxt (c::t) 0).1::(tk n ((c::t).drop (nxt (c::t) 0).1.Text.length)).1,(tk n ((c::t).drop (nxt (c::t) 0).1.Text.length)).2) else ([],(nxt (c::t) 0).2)
def txk (r:List UInt8):List (Int×Str)×Int:=tk (r.length+1) r
theorem Y1n:∀ (n m:Nat) (r:List UInt8),r.length < n→r.length < m→tk n r=tk m r
 | 0,_,_,h,_=>absurd h (Nat.not_lt_zero _)
 | _+1,0,_,_,h=>absurd h (Nat.not_lt_zero _)
 | n+1,m+1,r,hn,hm=>by
  unfold tk
  cases hd:r.drop (skp false r) with
  | nil=>rfl
  | cons c t=>
   have a:(c::t).length≤r.length:=by rw [← hd,List.length_drop]; omega
   simp only
   by_cases hx:(nxt (c::t) 0).2=0
   ·obtain ⟨d,b,_,_⟩:=Dk hx
    rw [zp hx,zp hx,Y1n n m _ (by rw [List.length_drop]; omega) (by rw [List.length_drop]; omega)]
   ·rw [zn hx,zn hx]
theorem V12 {r:List UInt8}(h:r.drop (skp false r)=[]):txk r=([],0):=by
 unfold txk tk
 rw [h]
theorem Cy {r t:List UInt8}{c:UInt8}(h:r.drop (skp false r)=c::t)(a:(nxt (c::t) 0).2=0) :
  txk r=(key (nxt (c::t) 0).1::(txk ((c::t).drop (nxt (c::t) 0).1.Text.length)).1,(txk ((c::t).drop (nxt (c::t) 0).1.Text.length)).2):=by
 have b:(c::t).length≤r.length:=by rw [← h,List.length_drop]; omega
 obtain ⟨e,d,_,_⟩:=Dk a
 have hf:=Y1n r.length (((c::t).drop (nxt (c::t) 0).1.Text.length).length+1) ((c::t).drop (nxt (c::t) 0).1.Text.length) (by rw [List.length_drop]; omega) (Nat.lt_succ_self _)
 unfold txk
 rw [tk]
 rw [h]
 simp only
 rw [zp a,hf]
theorem B1g {r t:List UInt8}{c:UInt8}(h:r.drop (skp false r)=c::t)(a:¬(nxt (c::t) 0).2=0):txk r=([],(nxt (c::t) 0).2):=by
 unfold txk
 rw [tk]
 rw [h]
 simp only
 rw [zn a]
theorem I1t:∀ (n:Nat) (r:List UInt8) (k:Nat),r.length < n→(lx r k).2.2=(txk r).2∧((txk r).2=0→(lx r k).1.map key=(txk r).1)
 | 0,_,_,h=>absurd h (Nat.not_lt_zero _)
 | n+1,r,k,h=>by
  cases hd:r.drop (skp false r) with
  | nil=>rw [D20 hd,V12 hd]; exact ⟨rfl,fun _=>rfl⟩
  | cons c t=>
   have f:(c::t).length=r.length - skp false r:=by rw [← hd,List.length_drop]
   have e:=G1t (c::t) 0 ((k+skp false r:Nat):Int)
   by_cases hx:(nxt (c::t) 0).2=0
   ·have d:(nxt (c::t) ((k+skp false r:Nat):Int)).2=0:=by rw [e]; exact hx
    obtain ⟨j,i,_,_⟩:=Dk hx
    rw [D1y hd k d,Cy hd hx,e]
    obtain ⟨a,g⟩:=I1t n ((c::t).drop (nxt (c::t) 0).1.Text.length) (k+skp false r+(nxt (c::t) 0).1.Text.length) (by rw [List.length_drop]; omega)
    unfold T1w
    simp only
    split
    ·rename_i hz
     rw [a] at hz
     exact ⟨hz.symm,fun _=>by rw [List.map_cons,g hz]; rfl⟩
    ·rename_i hz
     exact ⟨a,fun b=>absurd (a.trans b) hz⟩
   ·rw [E20 hd k (by rw [e]; exact hx),B1g hd hx,e]
    exact ⟨rfl,fun b=>absurd b hx⟩
def At (C:Int)(l:List I0)(k:Nat)(r:Str):Prop:=(txk r).1=(l.drop k).map key∧(txk r).2=C
theorem W1h {d:UInt8}(h:d=32∨d=9∨d=10)(r:Str):txk (d::r)=txk r:=by
 have hs:skp false (d::r)=skp false r+1:=by rcases h with rfl | rfl | rfl <;> rfl
 have a:(d::r).drop (skp false (d::r))=r.drop (skp false r):=by rw [hs,List.drop_succ_cons]
 cases hb:r.drop (skp false r) with
 | nil=>rw [V12 hb,V12 (a.trans hb)]
 | cons c t=>
  by_cases hx:(nxt (c::t) 0).2=0
  ·rw [Cy hb hx,Cy (a.trans hb) hx]
  ·rw [B1g hb hx,B1g (a.trans hb) hx]
section
variable {C:Int}{l:List I0}{k:Nat}{r:Str}
theorem At.blank {d:UInt8}(a:d=32∨d=9∨d=10)(h:At C l k (d::r)):At C l k r:=by
 unfold At at h ⊢
 rw [W1h a] at h
 exact h
theorem At.sp (h:At C l k (32::r)):At C l k r:=At.blank (.inl rfl) h
theorem At.nl (h:At C l k (10::r)):At C l k r:=At.blank (.inr (.inr rfl)) h
theorem At.tabs:∀ {m:Str},(∀ c∈m,c=9)→At C l k (m++r)→At C l k r
 | [],_,h=>h
 | c::m,hm,h=>by
  have:=hm c zqp
  exact At.tabs (fun c hc=>hm c (zqq _ hc)) (At.blank (.inr (.inl this)) h)
theorem At.tok {w:Str}{kd:Int}(b:w≠[])(hn:∀ q:Int,nxt (w++r) q=(I0.mk kd w q,0))(h:At C l k (w++r)):∃ x,l[k]?=some x∧x.Kind=kd∧x.Text=w∧At C l (k+1) r:=by
 obtain ⟨h2,h1⟩:=h
 obtain ⟨c,t,rfl⟩:∃ c t,w=c::t:=by
  cases w with
  | nil=>exact absurd rfl b
  | cons c t=>exact ⟨c,t,rfl⟩
 have hs:skp false (c::t++r)=0:=W1l (k:=0) (t:=t++r) (by rw [← List.cons_append,hn]) (t++r)
 have g:(c::t++r).drop (skp false (c::t++r))=c::(t++r):=by rw [hs]; rfl
 have e:txk (c::t++r)=((kd,c::t)::(txk r).1,(txk r).2):=by
  have a:nxt (c::(t++r)) 0=(I0.mk kd (c::t) 0,0):=hn 0
  rw [Cy g (by rw [a]),a]
  simp only
  rw [← List.cons_append,List.drop_left]
  rfl
 rw [e] at h1 h2
 cases hl:l.drop k with
 | nil=>rw [hl] at h2; cases h2
 | cons x y=>
  rw [hl,List.map_cons] at h2
  injection h2 with h4 h5
  injection h4 with h6 h7
  obtain ⟨_,d,f,_,_⟩:=C3 hl
  rw [To] at d
  exact ⟨x,d,h6.symm,h7.symm,by rw [f]; exact h5,h1⟩
theorem Lz:∀ {w:Str},(∀ c∈w,ld c=true)→NN ld r→D6 (w++r)=w.length
 | [],_,hr=>by
  cases r with
  | nil=>rfl
  | cons c r=>have:ld c=false:=hr; simp [D6,this]
 | c::w,h,hr=>by
  simp only [List.cons_append,D6,h c zqp,zqk,zqd]
  rw [Lz (fun c hc=>h c (zqq _ hc)) hr]
theorem X1l {w:Str}(h:∀ c∈w,ld c=true)(b:∃ c t,w=c::t∧M6 c.toNat=true)(hr:NN ld r)(q:Int) :
  nxt (w++r) q=if Nn w then (I0.mk 2 w q,0) else if decide ((w.length:Int) > 12) then (I0.mk 0 w q,7) else (I0.mk 0 w q,0):=by
 have h1:=Lz h hr
 have h2:(w++r).take w.length=w:=List.take_left
 obtain ⟨c,t,hc,hl⟩:=b
 have a:(w++r).getD 0 0=c:=by rw [hc]; rfl
 unfold nxt
 rw [h1,h2,a,hl,zp rfl]
def kwB (w:Str):Bool:=w.all ld&&(match w with | c::_=>M6 c.toNat | []=>false)&&Nn w
theorem F20 {w:Str}(h:kwB w=true):(∀ c∈w,ld c=true)∧(∃ c t,w=c::t∧M6 c.toNat=true)∧Nn w=true:=by
 unfold kwB at h
 rw [zqi,zqi] at h
 refine ⟨List.all_eq_true.1 h.1.1,?_,h.2⟩
 cases w with
 | nil=>exact absurd h.1.2 (by decide)
 | cons c t=>exact ⟨c,t,rfl,h.1.2⟩
theorem J1t {x:I0}(h:l[k]?=some x)(hk:x.Kind=2∨x.Kind=3)(t:Str):isT l k t=(x.Text == t):=by
 unfold isT
 rw [h]
 simp only
 rcases hk with hk | hk <;> rw [hk] <;> cases x.Text == t <;> rfl
theorem At.kw {w:Str}(g:kwB w=true)(hr:NN ld r)(h:At C l k (w++r)):(∃ x,l[k]?=some x∧x.Kind=2∧x.Text=w)∧At C l (k+1) r:=by
 obtain ⟨h1,h2,f⟩:=F20 g
 obtain ⟨x,a,b,c,d⟩:=At.tok (kd:=2) (by obtain ⟨c,t,e,_⟩:=h2; rw [e]; exact List.cons_ne_nil _ _) (fun q=>by rw [X1l h1 h2 hr,f,zp rfl]) h
 exact ⟨⟨x,a,b,c⟩,d⟩
theorem X1v {w:Str}(h:W3 w=true):¬(w.length:Int) > 12:=by
 unfold W3 at h
 intro hg
 rw [zqs (by omega)] at h
 cases h
theorem At.nm {w:Str}(f:W3 w=true)(hr:NN ld r)(h:At C l k (w++r)):T3 l k 0=true∧txt l k=w∧At C l (k+1) r:=by
 obtain ⟨h1,h2,g⟩:=X1f f
 have i:=X1v f
 obtain ⟨x,a,b,c,d⟩:=At.tok (kd:=0) (by obtain ⟨c,t,e,_⟩:=h2; rw [e]; exact List.cons_ne_nil _ _) (fun q=>by rw [X1l h1 h2 hr,g,zn (by simp),zqs i,zn (by simp)]) h
 refine ⟨?_,?_,d⟩
 ·unfold T3; rw [a]; simp only [b]; rfl
 ·unfold txt; rw [a]; exact c
theorem At.s1 {c:UInt8}(hc:(Ml c && !M6 c.toNat && !J6 c.toNat)=true)(ht:Gi ((c::r).take 2)=false)(h:At C l k (c::r)):(∃ x,l[k]?=some x∧x.Kind=3∧x.Text=[c])∧At C l (k+1) r:=by
 rw [zqi,zqi,Bool.not_eq_true',Bool.not_eq_true'] at hc
 obtain ⟨x,a,b,d,e⟩:=At.tok (w:=[c]) (kd:=3) (by simp) (fun q=>by
  unfold nxt
  rw [List.singleton_append,List.getD_cons_zero,hc.1.2,zn (by simp),hc.2,zn (by simp),ht,Bool.and_false,zn (by simp),hc.1.1,zp rfl]) h
 exact ⟨⟨x,a,b,d⟩,e⟩
theorem At.s2 {c d:UInt8}(hc:(!M6 c.toNat && !J6 c.toNat&&Gi [c,d])=true)(h:At C l k (c::d::r)):(∃ x,l[k]?=some x∧x.Kind=3∧x.Text=[c,d])∧At C l (k+1) r:=by
 rw [zqi,zqi,Bool.not_eq_true',Bool.not_eq_true'] at hc
 obtain ⟨x,a,b,d,e⟩:=At.tok (w:=[c,d]) (kd:=3) (by simp) (fun q=>by
  have ht:(decide (2≤([c,d]++r).length)&&Gi (([c,d]++r).take 2))=true:=by
   rw [show ([c,d]++r).take 2=[c,d] from rfl,hc.2,Bool.and_true]
   exact zqj (by simp)
  unfold nxt
  rw [ht,zp rfl,show ([c,d]++r).take 2=[c,d] from rfl,show ([c,d]++r).getD 0 0=c from rfl,hc.1.1,zn (by simp),hc.1.2,zn (by simp)]) h
 exact ⟨⟨x,a,b,d⟩,e⟩
def p1B (c:UInt8):Bool:=Ml c && !M6 c.toNat && !J6 c.toNat && !([46,61,33,60,62,38,124]:List UInt8).contains c
theorem At.p1 {c:UInt8}(hc:p1B c=true)(h:At C l k (c::r)):(∃ x,l[k]?=some x∧x.Kind=3∧x.Text=[c])∧At C l (k+1) r:=by
 unfold p1B at hc
 rw [zqi,Bool.not_eq_true'] at hc
 exact At.s1 hc.1 (by rw [List.take_succ_cons]; exact T19 hc.2 _) h
def N10 (d:UInt8):Bool:=!(d == 46||d == 61||d == 38||d == 124)
theorem K1t {d:UInt8}(h:N10 d=true)(c:UInt8)(t:Str):Gi ((c::d::t).take 2)=false:=by
 unfold N10 at h
 rw [Bool.not_eq_true',Bool.or_eq_false_iff,Bool.or_eq_false_iff,Bool.or_eq_false_iff] at h
 obtain ⟨⟨⟨h1,h2⟩,g⟩,i⟩:=h
 have f:∀ a b:UInt8,(d == b)=false→(([c,d]:List UInt8) == [a,b])=false:=fun a b hb=>zqn.2 fun e=>by
  injection e with _ e
  injection e with e _
  rw [e] at hb
  simp at hb
 show Gi [c,d]=false
 unfold Gi
 rw [f 46 46 h1,f 61 61 h2,f 33 61 h2,f 60 61 h2,f 62 61 h2,f 38 38 g,f 124 124 i]
 rfl
theorem Y1l {c:UInt8}(h:M6 c.toNat=true):N10 c=true:=by
 cases hn:N10 c with
 | true=>rfl
 | false=>
  unfold N10 at hn
  simp only [Bool.not_eq_false',Bool.or_eq_true,beq_iff_eq] at hn
  rcases hn with ((rfl | rfl) | rfl) | rfl <;> exact absurd h (by decide)
theorem At.n1 {c d:UInt8}{t:Str}(hc:(Ml c && !M6 c.toNat && !J6 c.toNat)=true)(a:N10 d=true)(hr:r=d::t)(h:At C l k (c::r)):(∃ x,l[k]?=some x∧x.Kind=3∧x.Text=[c])∧At C l (k+1) r:=
 At.s1 hc (by rw [hr]; exact K1t a c t) h
theorem I2 {c:Str}(h:∃ x,l[k]?=some x∧x.Kind=3∧x.Text=c)(t:Str):isT l k t=(c == t):=by
 obtain ⟨x,a,b,d⟩:=h
 rw [J1t a (.inr b),d]
theorem D3 {c:Str}(h:∃ x,l[k]?=some x∧x.Kind=2∧x.Text=c)(t:Str):isT l k t=(c == t):=by
 obtain ⟨x,a,b,d⟩:=h
 rw [J1t a (.inl b),d]
theorem R1 {kd:Int}{c:Str}(h:∃ x,l[k]?=some x∧x.Kind=kd∧x.Text=c):k < l.length:=by
 obtain ⟨x,a,_⟩:=h
 exact Jj a
theorem Z1l {kd:Int}{c:Str}(h:∃ x,l[k]?=some x∧x.Kind=kd∧x.Text=c)(q:Int):T3 l k q=(kd == q):=by
 obtain ⟨x,a,b,_⟩:=h
 unfold T3
 rw [a]
 simp only [b]
theorem F1y (m:Nat):1≤m→((Lib.decDigits m).getD 0 0).toNat≠48:=by
 induction m using Nat.strongRecOn with
 | ind m a=>
 intro h1
 rw [Lib.decDigits]
 by_cases h:m < 10
 ·rw [dif_pos h]
  show (UInt8.ofNat (48+m)).toNat≠48
  rw [M19 m h]; omega
 ·rw [dif_neg h]
  have i:=a (m / 10) (by omega) (by omega)
  obtain ⟨_,_,b⟩:=Gl (m / 10)
  cases hd:Lib.decDigits (m / 10) with
  | nil=>exact absurd hd b
  | cons c t=>rw [hd] at i; exact i
theorem L1t {m:Nat}(h:m≤1048576):Qu (Lib.decDigits m)=0∧nv 0 (Lib.decDigits m)=m:=by
 obtain ⟨b,a,d⟩:=Gl m
 have hn:nv 0 (Lib.decDigits m)=m:=b
 refine ⟨?_,hn⟩
 have ha:(Lib.decDigits m).all (fun c=>J6 c.toNat)=true:=List.all_eq_true.2 a
 have hz:Ss (Lib.decDigits m)=false:=by
  unfold Ss
  rcases Nat.eq_zero_or_pos m with h0 | h0
  ·subst h0; decide +kernel
  ·have:=F1y m h0
   have h1:((((Lib.decDigits m).getD 0 0).toNat:Int) == 48)=false:=zqn.2 (by omega)
   rw [h1,Bool.and_false]
 unfold Qu
 rw [ha,hz,hn,Z1f h]
 rfl
theorem M1t {c:UInt8}(h:J6 c.toNat=true):M6 c.toNat=false:=by
 have:=Vm.1 h
 unfold M6
 rw [zqs (by omega)]
 rfl
theorem At.num {m:Nat}(hm:m≤1048576)(hr:NN ld r)(h:At C l k (Lib.decDigits m++r)):T3 l k 1=true∧Z14 l k=m∧At C l (k+1) r:=by
 obtain ⟨p,g,f⟩:=Gl m
 obtain ⟨n1,o⟩:=L1t hm
 have e:∀ c∈Lib.decDigits m,ld c=true:=fun c hc=>by
  have:J6 c.toNat=true:=g c hc
  unfold ld
  rw [this]
  cases M6 c.toNat <;> rfl
 obtain ⟨x,a,b,c,d⟩:=At.tok (kd:=1) f (fun q=>by
  have h1:=Lz e hr
  have h2:(Lib.decDigits m++r).take (Lib.decDigits m).length=Lib.decDigits m:=List.take_left
  have n:∃ c,(Lib.decDigits m++r).getD 0 0=c∧J6 c.toNat=true:=by
   cases hd:Lib.decDigits m with
   | nil=>exact absurd hd f
   | cons c t=>exact ⟨c,rfl,g c (by rw [hd]; exact zqp)⟩
  obtain ⟨c,j,i⟩:=n
  unfold nxt
  rw [h1,h2,j,M1t i,zn (by simp),i,zp rfl,n1]) h
 refine ⟨?_,?_,d⟩
 ·unfold T3; rw [a]; simp only [b]; rfl
 ·unfold Z14 txt; rw [a]; simp only [c]; rw [o]
theorem W12 (h:T3 l k 1=true)(t:Str):isT l k t=false:=by
 cases h':isT l k t with
 | false=>rfl
 | true=>rw [(X7 h').2.1] at h; cases h
theorem At.int (hl:Yf l){n:Int}(h1 : -1048576≤n)(h2:n≤1048576)(hr:NN ld r)(h:At C l k (Lib.itoa n++r)):∃ k',k < k'∧k'≤l.length∧At C l k' r∧K4 l k=some (n,((k':Nat):Int),true):=by
 have g:=hl.1
 unfold Lib.itoa at h
 by_cases hn:n < 0
 ·rw [zp hn] at h
  obtain ⟨m,hm⟩:∃ m:Nat,n.natAbs=m:=⟨_,rfl⟩
  rw [hm] at h
  obtain ⟨a,b⟩:=At.p1 (by decide) (show At C l k (45::(Lib.decDigits m++r)) from h)
  obtain ⟨c,d,e⟩:=At.num (m:=m) (by omega) hr b
  have f:=C7 c
  refine ⟨k+1+1,by omega,by omega,e,?_⟩
  unfold K4
  rw [A1 l g,ob,I2 a,zp (by decide),w1 (by omega),Fk l hl,c,zp rfl,ob,d]
  simp only
  rw [wr (by omega) (by omega)]
  congr 2
  omega
 ·rw [zn hn] at h
  obtain ⟨m,hm⟩:∃ m:Nat,n.toNat=m:=⟨_,rfl⟩
  rw [hm] at h
  obtain ⟨c,d,e⟩:=At.num (m:=m) (by omega) hr h
  have f:=C7 c
  refine ⟨k+1,by omega,by omega,e,?_⟩
  unfold K4
  rw [A1 l g,ob,W12 c,zn (by simp),Fk l hl,c,zp rfl,ob,d]
  simp only
  congr 2
  omega
end
def TPl (l:List I0)(k:Nat):Prop:=isT l k [46]=false∧isT l k [91]=false
def TSt (l:List I0)(k n:Nat):Prop:=TPl l k∧∀ m:Nat,n≤m→m≤5→∃ o,T4 l k m=some (o,false)
def Y1v (l:List I0)(k:Nat):Prop:=TSt l k 1∧isT l k [63]=false
theorem TSt.mono {l:List I0}{k n m:Nat}(h:TSt l k n)(hm:n≤m):TSt l k m:=⟨h.1,fun i h1 h2=>h.2 i (by omega) h2⟩
def H1q (t:Str):Bool:=!(t == [46]) && !(t == [91]) && !(t == [63])&&(opT t).2 == 0
theorem Yk {l:List I0}{k:Nat}{t:Str}(h:∃ x,l[k]?=some x∧x.Kind=3∧x.Text=t)(hc:H1q t=true):Y1v l k:=by
 unfold H1q at hc
 rw [zqi,zqi,zqi,Bool.not_eq_true',Bool.not_eq_true',Bool.not_eq_true'] at hc
 refine ⟨⟨⟨by rw [I2 h]; exact hc.1.1.1,by rw [I2 h]; exact hc.1.1.2⟩,fun m h1 _=>?_⟩,by rw [I2 h]; exact hc.1.2⟩
 obtain ⟨x,a,b,c⟩:=h
 rw [Ek,a]
 simp only [b,c]
 rw [zp (by decide),eq_of_beq hc.2]
 have:((0:Int) == (m:Int))=false:=zqn.2 (by omega)
 rw [this]
 exact ⟨_,rfl⟩
theorem G20 {l:List I0}{k:Nat}{t:Str}(h:∃ x,l[k]?=some x∧x.Kind=2∧x.Text=t)(hc:H1q t=true):Y1v l k:=by
 unfold H1q at hc
 rw [zqi,zqi,zqi,Bool.not_eq_true',Bool.not_eq_true',Bool.not_eq_true'] at hc
 refine ⟨⟨⟨by rw [D3 h]; exact hc.1.1.1,by rw [D3 h]; exact hc.1.1.2⟩,fun m h1 _=>?_⟩,by rw [D3 h]; exact hc.1.2⟩
 obtain ⟨x,a,b,c⟩:=h
 rw [Ek,a]
 simp only [b]
 exact ⟨_,rfl⟩
structure RkE (l:List I0)(e:A0)(k k':Nat):Prop where
 lt:k < k'
 le:k'≤l.length
 lev:∀ n:Nat,1≤n→n≤6→(n:Int)≤lv e.Op→TSt l k' n→O1 l k n=some (e,((k':Nat):Int),true)
 b:∀ n:Nat,1≤n→n≤5→n≠3→(n:Int)≤lv e.Op→TSt l k' (n+1)→O1 l k n=X1 l n e ((k':Nat):Int)
 c:Y1v l k'→W1 l k=some (e,((k':Nat):Int),true)
 q:e.place=true→T3 l k 0=true∧F7 l k=A5 l e.Op e.NV e.Name e.Kids ((k':Nat):Int)
structure Rk (C:Int)(l:List I0)(e:A0):Prop where
 rd:∀ k r,NN ld r→At C l k (e.text++r)→∃ k',RkE l e k k'∧At C l k' r
 f:∃ c t,e.text=c::t∧N10 c=true
section
variable {C:Int}{l:List I0}(hl:Yf l)
include hl
theorem Z1n {q n:Nat}(e:A0)(hs:TSt l q n)(a:n≤5):X1 l n e q=some (e,((q:Nat):Int),true):=by
 obtain ⟨o,b⟩:=hs.2 n (zqr _) a
 rw [X1,b,ob]
 rfl
theorem A1m {p q n:Nat}{e:A0}(h:O1 l p ((n+1:Nat):Int)=some (e,((q:Nat):Int),true))(hn:n < 6):O1 l p n=X1 l n e q:=by
 rw [O1e hl p n hn,h,ob]
 rfl
theorem F15 {p q m:Nat}{e:A0}(hm:m≤6)(h:O1 l p m=some (e,((q:Nat):Int),true)):∀ d n:Nat,n+d=m→TSt l q n→O1 l p n=some (e,((q:Nat):Int),true)
 | 0,n,hn,_=>by
  have:n=m:=by omega
  rw [this]; exact h
 | d+1,n,hn,hs=>by
  rw [A1m hl (F15 hm h d (n+1) (by omega) (hs.mono (Nat.le_succ _))) (by omega),Z1n hl e hs (by omega)]
theorem toX {p q:Nat}{e:A0}(h:O1 l p ((1:Nat):Int)=some (e,((q:Nat):Int),true))(hs:isT l q [63]=false):W1 l p=some (e,((q:Nat):Int),true):=by
 rw [W1]
 rw [show ((1:Nat):Int)=1 from rfl] at h
 rw [h,ob]
 simp only [zqf,zqg,zt,zql]
 rw [A1 l hl.1,ob,hs]
 rfl
theorem un6 {p:Nat}{x:A0×Int×Bool}(h:O1 l p ((6:Nat):Int)=some x):U3 l p=some x:=by
 have e:=P19 hl p
 rw [show ((6:Nat):Int)=6 from rfl] at h
 rw [h] at e
 cases hu:U3 l p with
 | none=>rw [hu] at e; cases e
 | some y=>rw [hu,ob] at e; exact e.symm
theorem Z1v {p:Nat}{x:A0×Int×Bool}(h:U3 l p=some x):O1 l p ((6:Nat):Int)=some x:=by
 have e:=P19 hl p
 rw [h,ob] at e
 exact e
theorem RkE.of {e:A0}{k k':Nat}(h1:k < k')(h2:k'≤l.length)(b:TPl l k'→U3 l k=some (e,((k':Nat):Int),true))(q:e.place=true→T3 l k 0=true∧F7 l k=A5 l e.Op e.NV e.Name e.Kids ((k':Nat):Int)):RkE l e k k':=by
 have lev:∀ n:Nat,1≤n→n≤6→TSt l k' n→O1 l k n=some (e,((k':Nat):Int),true):=fun n h1 a hs=>
  F15 hl (zqr _) (Z1v hl (b hs.1)) (6 - n) n (by omega) hs
 exact ⟨h1,h2,fun n h1 a _ hs=>lev n h1 a hs,fun n h1 c _ _ hs=>A1m hl (lev (n+1) (by omega) (by omega) hs) (by omega),fun hs=>toX hl (lev 1 (by omega) (by omega) hs.1) hs.2,q⟩
theorem Rk.par {e:A0}(h:Rk C l e){n:Nat}{N:Int}(v:N=n)(h1:1≤n)(d:n≤6)(k:Nat)(r:Str)(hr:NN ld r)(ha:At C l k (YtbaijagfgceilaaGreatDoor.par N (e.Op,e.text)++r)) :
  ∃ k',k < k'∧k'≤l.length∧At C l k' r∧(TSt l k' n→O1 l k n=some (e,((k':Nat):Int),true))∧(n≤5→n≠3→TSt l k' (n+1)→O1 l k n=X1 l n e ((k':Nat):Int)):=by
 unfold YtbaijagfgceilaaGreatDoor.par at ha
 cases hd:decide (lv e.Op≥N) with
 | true=>
  rw [hd] at ha
  have:=of_decide_eq_true hd
  obtain ⟨k',a,b⟩:=h.rd k r hr ha
  exact ⟨k',a.lt,a.le,b,fun hs=>a.lev n h1 d (by omega) hs,fun j s hs=>a.b n h1 j s (by omega) hs⟩
 | false=>
  rw [hd] at ha
  have q:[40]++e.text++[41]++r=40::(e.text++(41::r)):=by simp
  have f:At C l k (40::(e.text++(41::r))):=by rw [← q]; exact ha
  obtain ⟨p1,p⟩:=At.p1 (by decide) f
  obtain ⟨g,a,b⟩:=h.rd (k+1) (41::r) (by exact rfl) p
  obtain ⟨i,m⟩:=At.p1 (by decide) b
  have u:=R1 i
  have t:=a.c (Yk i (by decide))
  have o:=W1v hl p1 t i
  have:=a.lt
  have lev:∀ n:Nat,1≤n→n≤6→TSt l (g+1) n→O1 l k n=some (e,((g+1:Nat):Int),true):=fun n h1 d hs=>
   F15 hl (zqr _) (Z1v hl o) (6 - n) n (by omega) hs
  exact ⟨g+1,by omega,by omega,m,fun hs=>lev n h1 d hs,fun j _ hs=>A1m hl (lev (n+1) (by omega) (by omega) hs) (by omega)⟩
theorem X18 {e:A0}(h:Rk C l e)(N:Int):∃ c t,YtbaijagfgceilaaGreatDoor.par N (e.Op,e.text)=c::t∧N10 c=true:=by
 unfold YtbaijagfgceilaaGreatDoor.par
 cases decide (lv e.Op≥N) with
 | true=>exact h.f
 | false=>exact ⟨40,_,rfl,by decide⟩
theorem U1e {q:Nat}(hs:TPl l q)(a b:Int)(c:Str)(d:List A0):A5 l a b c d q=some (A0.mk a b c d,((q:Nat):Int),true):=by
 rw [A5]
 simp only [A1 l hl.1,ob,hs.1,hs.2,zqg,zt,zqa,zw,zql]
theorem A1w {k:Nat}{x:A0×Int×Bool}(hk:T3 l k 0=true)(h:F7 l k=some x):U3 l k=some x:=by
 have a:=hl.1
 have hf:=W18 hk
 have b:T3 l k 1=false:=by
  unfold T3 at hk ⊢
  split at hk
  ·rw [eq_of_beq hk]; rfl
  ·rfl
 have c:H5 l k=some x:=by
  rw [H5]
  simp only [A1 l a,ob,hf,zqg,zt,zqa,zw,zql]
  rw [Fk l hl,b]
  simp only [zqa,zw,ob]
  rw [h,ob]
 rw [U3]
 simp only [A1 l a,ob,hf,zqg,zt,zqk]
 rw [c,ob]
theorem Lw {k:Nat}{x:A0×Int×Bool}(h1:isT l k [45]=false)(h2:isT l k [33]=false)(h:H5 l k=some x):U3 l k=some x:=by
 rw [U3]
 simp only [A1 l hl.1,ob,h1,h2,zqg,zt,zqk]
 rw [h,ob]
theorem RkE.place {e:A0}{k k':Nat}(h1:k < k')(h2:k'≤l.length)(hk:T3 l k 0=true)(h:F7 l k=A5 l e.Op e.NV e.Name e.Kids ((k':Nat):Int)):RkE l e k k':=by
 refine RkE.of hl h1 h2 (fun hs=>A1w hl hk ?_) fun _=>⟨hk,h⟩
 rw [h,U1e hl hs]
 cases e
 rfl
theorem At.sign {k:Nat}{r:Str}{o:Int}(h:8≤o)(h':o≤20)(ha:At C l k (YtbaijagfgceilaaGreatDoor.sign o++32::r)):(∃ x,l[k]?=some x∧x.Kind=3∧x.Text=YtbaijagfgceilaaGreatDoor.sign o)∧At C l (k+1) (32::r):=by
 rcases Hu h h' with rfl | rfl | rfl | rfl | rfl | rfl | rfl | rfl | rfl | rfl | rfl | rfl | rfl
 ·exact At.s1 (c:=43) (by decide) (Vo (by decide) _) ha
 ·exact At.s1 (c:=45) (by decide) (Vo (by decide) _) ha
 ·exact At.s1 (c:=42) (by decide) (Vo (by decide) _) ha
 ·exact At.s1 (c:=47) (by decide) (Vo (by decide) _) ha
 ·exact At.s1 (c:=37) (by decide) (Vo (by decide) _) ha
 ·exact At.s2 (c:=61) (d:=61) (by decide) ha
 ·exact At.s2 (c:=33) (d:=61) (by decide) ha
 ·exact At.s1 (c:=60) (by decide) (Vo (by decide) _) ha
 ·exact At.s2 (c:=60) (d:=61) (by decide) ha
 ·exact At.s1 (c:=62) (by decide) (Vo (by decide) _) ha
 ·exact At.s2 (c:=62) (d:=61) (by decide) ha
 ·exact At.s2 (c:=38) (d:=38) (by decide) ha
 ·exact At.s2 (c:=124) (d:=124) (by decide) ha
theorem G1y {o:Int}(h:8≤o)(h':o≤20):opT (YtbaijagfgceilaaGreatDoor.sign o)=(o,lv o)∧(YtbaijagfgceilaaGreatDoor.sign o == [46])=false∧(YtbaijagfgceilaaGreatDoor.sign o == [91])=false:=by
 rcases Hu h h' with rfl | rfl | rfl | rfl | rfl | rfl | rfl | rfl | rfl | rfl | rfl | rfl | rfl
 all_goals decide
theorem Rk.bin {o:Int}{a b:A0}(h:8≤o)(h':o≤20)(ha:Rk C l a)(hb:Rk C l b):Rk C l (.mk o 0 [] [a,b]):=by
 have X:=hl.1
 obtain ⟨L,m,B,e,h1,M,R⟩:=T20 h h'
 have K:m≠3:=by
  intro hm
  rw [hm] at e
  cases d:lv o == 3 with
  | true=>rw [d] at e; simp at e
  | false=>rw [d] at e; have:lv o=3:=e; rw [this] at d; simp at d
 have w:L=3→m=4:=fun y=>by
  have:lv o=3:=by rw [B,y]; rfl
  rw [this] at e
  simp at e
  omega
 have v:L≠3→m=L:=fun y=>by
  have:(lv o == 3)=false:=zqn.2 (by omega)
  rw [this] at e
  simp at e
  omega
 refine ⟨fun k r hr s=>?_,?_⟩
 ·rw [Y1k a b h h'] at s
  have H:YtbaijagfgceilaaGreatDoor.par (bif lv o == 3 then 4 else lv o) (a.Op,a.text)++([32]++YtbaijagfgceilaaGreatDoor.sign o++[32])++YtbaijagfgceilaaGreatDoor.par (lv o+1) (b.Op,b.text)++r
    = YtbaijagfgceilaaGreatDoor.par (bif lv o == 3 then 4 else lv o) (a.Op,a.text)++(32::(YtbaijagfgceilaaGreatDoor.sign o++32::(YtbaijagfgceilaaGreatDoor.par (lv o+1) (b.Op,b.text)++r))):=by simp
  rw [H] at s
  obtain ⟨g,p1,V,N,A,z⟩:=ha.par hl (n:=m) e (by omega) (by omega) k _ (by exact rfl) s
  obtain ⟨q,F⟩:=At.sign hl h h' (At.sp N)
  have G:=R1 q
  obtain ⟨k',U,E,I,J,S⟩:=hb.par hl (n:=L+1) (by omega) (by omega) (by omega) (g+1) r hr (At.sp F)
  obtain ⟨s1,s2,s3⟩:=G1y hl h h'
  have f:∀ n:Nat,T4 l g n=some (o,((L:Int) == (n:Int))):=fun n=>by
   obtain ⟨x,P,Q,O⟩:=q
   rw [Ek,P]
   simp only [Q,O,s1,B]
   rfl
  have st1:TSt l g (L+1):=⟨⟨by rw [I2 q]; exact s2,by rw [I2 q]; exact s3⟩,fun i W _=>⟨o,by rw [f]; rw [zqn.2 (by omega)]⟩⟩
  have step:TSt l k' (L+1)→X1 l L a g=if (L:Int)=3 then some (A0.mk o 0 [] [a,b],((k':Nat):Int),true) else X1 l L (A0.mk o 0 [] [a,b]) ((k':Nat):Int):=fun hs=>by
   rw [X1,f,ob]
   simp only [zqm,zqf,zqa,zw]
   rw [w1 (by omega),w1 (by unfold BB; omega),J hs,ob]
   simp only [zqf,zqa,zw,Zx,ob]
   by_cases d:(L:Int)=3
   ·rw [zp d,zp (by simpa using d)]
   ·rw [zn d,zn (by simpa using d)]
  have first:O1 l k L=X1 l L a g:=by
   by_cases d:L=3
   ·have u:=w d
    subst d
    refine A1m hl ?_ (by omega)
    rw [u] at A
    exact A st1
   ·rw [v d] at z
    exact z (by omega) d st1
  have D:L≠3→TSt l k' (L+1)→O1 l k L=X1 l L (A0.mk o 0 [] [a,b]) ((k':Nat):Int):=fun d hs=>by
   rw [first,step hs,zn (by omega)]
  have p:TSt l k' L→O1 l k L=some (A0.mk o 0 [] [a,b],((k':Nat):Int),true):=fun hs=>by
   by_cases d:L=3
   ·rw [first,step (hs.mono (Nat.le_succ _)),zp (by omega)]
   ·rw [D d (hs.mono (Nat.le_succ _)),Z1n hl _ hs (by omega)]
  have lev:∀ n:Nat,1≤n→n≤L→TSt l k' n→O1 l k n=some (A0.mk o 0 [] [a,b],((k':Nat):Int),true):=fun n h1 h2 hs=>
   F15 hl (by omega) (p (hs.mono h2)) (L - n) n (by omega) hs
  have j:(A0.mk o 0 [] [a,b]).Op=o:=rfl
  refine ⟨k',⟨by omega,E,fun n h1 T hn hs=>lev n h1 (by rw [j] at hn; omega) hs,fun n h1 R d hn hs=>?_,fun hs=>toX hl (lev 1 (by omega) (by omega) hs.1) hs.2,fun hp=>absurd hp (fun hp=>N1x h _ _ _ hp)⟩,I⟩
  rw [j] at hn
  by_cases hnL:n=L
  ·subst hnL; exact D d hs
  ·exact A1m hl (lev (n+1) (by omega) (by omega) hs) (by omega)
 ·rw [Y1k a b h h']
  obtain ⟨c,t,hc,hn⟩:=X18 hl ha (bif lv o == 3 then 4 else lv o)
  exact ⟨c,_,by rw [hc]; rfl,hn⟩
theorem A1o {a b:A0}(ha:Rk C l a)(hb:Rk C l b){k:Nat}{r:Str}(o:Int)(hk:k < l.length)(h:At C l (k+1) (40::(a.text++[44,32]++b.text++[41]++r))) :
  ∃ k',k < k'∧k'≤l.length∧At C l k' r∧Ub l k o=some (⟨o,0,[],[a,b]⟩,((k':Nat):Int),true):=by
 have d:=hl.1
 have m:a.text++[44,32]++b.text++[41]++r=a.text++(44::(32::(b.text++(41::r)))):=by simp
 rw [m] at h
 obtain ⟨p1,j⟩:=At.p1 (by decide) h
 obtain ⟨i,f,g⟩:=ha.rd (k+1+1) _ (by exact rfl) j
 obtain ⟨e,p⟩:=At.p1 (by decide) g
 obtain ⟨q,s1,s2⟩:=hb.rd (i+1) _ (by exact rfl) (At.sp p)
 obtain ⟨t1,t2⟩:=At.p1 (by decide) s2
 have hp:=R1 p1
 have hr:=R1 e
 have ht:=R1 t1
 have:=f.lt
 have:=s1.lt
 refine ⟨q+1,by omega,by omega,t2,?_⟩
 rw [Ub,w1 (by omega),A1 l d,ob,I2 p1,wr (n:=(k:Int)+2) (by omega) (by unfold BB at d; omega),show (k:Int)+2=((k+1+1:Nat):Int) by omega,f.c (Yk e (by decide))]
 simp only [zqm,zqf,zqa,zw,ob,zqg,zt,zql]
 rw [A1 l d,ob,I2 e,w1 (by omega),s1.c (Yk t1 (by decide))]
 simp only [zqm,zqf,zqa,zw,ob,zqg,zt,zql]
 rw [A1 l d,ob,I2 t1]
 simp only [zqm,zqf,zqa,zw,Zx,ob]
 rw [w1 (by omega)]
theorem Vs (e:A0):Jz e→Rk C l e:=by
 have j:=hl.1
 induction e using A0.ind with
 | h e ih=>
 intro hf
 have i:=fun k hk=>ih k hk (hf.kid hk)
 have A:=hf.n
 rw [A0.all_eq,zqi] at A
 have B:=hf.f.form
 rw [A0.all_eq,zqi] at B
 have h2:=hf.f.numb
 rw [A0.all_eq,zqi] at h2
 cases hf.f.shape with
 | lit n=>
  have h0:0≤n∧n≤1048576:=by
   have h3:=h2.1
   unfold R6 E2 at h3
   simp at h3
   omega
  obtain ⟨m,rfl⟩:∃ m:Nat,n=m:=⟨n.toNat,by omega⟩
  obtain ⟨d1,d2,d3⟩:=Gl m
  have ht:(A0.mk 0 (m:Int) [] []).text=Lib.decDigits m:=by
   show Lib.itoa (m:Int)=_
   unfold Lib.itoa
   rw [zn (by omega)]
   rfl
  refine ⟨fun k r hr g=>?_,?_⟩
  ·rw [ht] at g
   obtain ⟨a,b,c⟩:=At.num (by omega) hr g
   have p:=C7 a
   refine ⟨k+1,RkE.of hl (by omega) (by omega) (fun _=>Lw hl (W12 a _) (W12 a _) ?_) (fun hp=>by cases hp),c⟩
   rw [H5]
   simp only [A1 l j,ob,W12 a,zqg,zt,zqa,zw,zql]
   rw [Fk l hl,a,zp rfl,ob,b]
   rfl
  ·rw [ht]
   cases hd:Lib.decDigits m with
   | nil=>exact absurd hd d3
   | cons c t=>
    refine ⟨c,t,rfl,?_⟩
    have hc:J6 c.toNat=true:=d2 c (by rw [hd]; exact zqp)
    cases hn:N10 c with
    | true=>rfl
    | false=>
     unfold N10 at hn
     simp only [Bool.not_eq_false',Bool.or_eq_true,beq_iff_eq] at hn
     rcases hn with ((rfl | rfl) | rfl) | rfl <;> exact absurd hc (by decide)
 | tt=>
  refine ⟨fun k r hr g=>?_,116,_,rfl,by decide⟩
  obtain ⟨a,b⟩:=At.kw (w:=[116,114,117,101]) (by decide +kernel) hr g
  have p:=R1 a
  refine ⟨k+1,RkE.of hl (by omega) (by omega) (fun _=>Lw hl (by rw [D3 a]; rfl) (by rw [D3 a]; rfl) ?_) (fun hp=>by cases hp),b⟩
  rw [H5,A1 l j,ob,D3 a,zp (by decide),w1 (by omega)]
 | ff=>
  refine ⟨fun k r hr g=>?_,102,_,rfl,by decide⟩
  obtain ⟨a,b⟩:=At.kw (w:=[102,97,108,115,101]) (by decide +kernel) hr g
  have p:=R1 a
  refine ⟨k+1,RkE.of hl (by omega) (by omega) (fun _=>Lw hl (by rw [D3 a]; rfl) (by rw [D3 a]; rfl) ?_) (fun hp=>by cases hp),b⟩
  rw [H5,A1 l j,ob,D3 a,zn (by decide),A1 l j,ob,D3 a,zp (by decide),w1 (by omega)]
 | name nm=>
  have hn:W3 nm=true:=A.1
  obtain ⟨_,⟨c,t,hc,E⟩,_⟩:=X1f hn
  refine ⟨fun k r hr g=>?_,c,t,hc,Y1l E⟩
  obtain ⟨a,b,d⟩:=At.nm hn hr (show At C l k (nm++r) from g)
  have p:=C7 a
  refine ⟨k+1,RkE.place hl (by omega) (by omega) a ?_,d⟩
  rw [F7,A8 l j,a,zp rfl,ob,b]
  rfl
 | field nm e=>
  have G:=i e (by simp)
  have F:e.place=true:=by
   have K:=B.1
   simp only [B5,ef4,zqi] at K
   have N:=K.2
   rw [A0.place_eq] at N
   exact N
  have hn:W3 nm=true:=A.1
  obtain ⟨_,⟨c,t,hc,E⟩,_⟩:=X1f hn
  have ht:(A0.mk 4 0 nm [e]).text=e.text++([46]++nm):=rfl
  refine ⟨fun k r hr g=>?_,?_⟩
  ·rw [ht,List.append_assoc,List.append_assoc] at g
   obtain ⟨D,a,b⟩:=G.rd k _ (by exact rfl) g
   obtain ⟨p1,s⟩:=At.n1 (c:=46) (r:=nm++r) (d:=c) (t:=t++r) (by decide) (Y1l E) (by rw [hc]; rfl) b
   obtain ⟨u,I,q3⟩:=At.nm hn hr s
   have hp:=R1 p1
   have hq:=C7 u
   have:=a.lt
   obtain ⟨Q,U⟩:=a.q F
   refine ⟨D+1+1,RkE.place hl (by omega) (by omega) Q ?_,q3⟩
   rw [U,A5,A1 l j,ob,I2 p1]
   simp only [zqm,zqf,zqa,zw,ob,zqk,zt]
   rw [w1 (by omega),A8 l j,u,zp rfl,ob,I]
   cases e
   rfl
  ·obtain ⟨c,t,hc,hn⟩:=G.f
   exact ⟨c,_,by rw [ht,hc]; rfl,hn⟩
 | index x y=>
  have v:=i x (by simp)
  have H:=i y (by simp)
  have F:x.place=true:=by
   have K:=B.1
   simp only [B5,ef4,zqi] at K
   have N:=K.2
   rw [A0.place_eq] at N
   exact N
  have ht:(A0.mk 5 0 [] [x,y]).text=x.text++[91]++y.text++[93]:=rfl
  refine ⟨fun k r hr g=>?_,?_⟩
  ·have O:x.text++[91]++y.text++[93]++r=x.text++(91::(y.text++(93::r))):=by simp
   rw [ht,O] at g
   obtain ⟨D,a,b⟩:=v.rd k _ (by exact rfl) g
   obtain ⟨p1,s⟩:=At.p1 (by decide) b
   obtain ⟨V,c,d⟩:=H.rd (D+1) _ (by exact rfl) s
   obtain ⟨u,I⟩:=At.p1 (by decide) d
   have hp:=R1 p1
   have hq:=R1 u
   have:=a.lt
   have:=c.lt
   obtain ⟨Q,U⟩:=a.q F
   refine ⟨V+1,RkE.place hl (by omega) (by omega) Q ?_,I⟩
   have R:isT l D [46]=false:=by rw [I2 p1]; rfl
   rw [U,A5,A1 l j,ob,R]
   simp only [zqg,zt,zql]
   rw [A1 l j,ob,I2 p1]
   simp only [zqm,zt]
   rw [ob,zn (by simp),w1 (by omega),c.c (Yk u (by decide)),ob]
   simp only [zqf,zqg,zt,zql]
   rw [A1 l j,ob,I2 u]
   simp only [zqm,zqf,zqa,zw,Zx,ob]
   rw [w1 (by omega)]
   cases x
   rfl
  ·obtain ⟨c,t,hc,hn⟩:=v.f
   exact ⟨c,_,by rw [ht,hc]; rfl,hn⟩
 | neg e=>
  have G:=i e (by simp)
  have ht:(A0.mk 6 0 [] [e]).text=45::YtbaijagfgceilaaGreatDoor.par 6 (e.Op,e.text):=rfl
  refine ⟨fun k r hr g=>?_,45,_,ht,by decide⟩
  rw [ht,List.cons_append] at g
  obtain ⟨p1,s⟩:=At.p1 (by decide) g
  obtain ⟨k',Z,P,L,M,_⟩:=G.par hl (n:=6) rfl (by decide) (by decide) (k+1) r hr s
  have hp:=R1 p1
  refine ⟨k',RkE.of hl (by omega) P (fun hs=>?_) (fun hp=>by cases hp),L⟩
  have T:=un6 hl (M ⟨hs,fun m h1 h2=>by omega⟩)
  rw [U3,A1 l j,ob,I2 p1]
  simp only [zqm,zqf,zqa,zw,ob,zql]
  rw [A1 l j,ob,I2 p1,zn (by decide),Fe,w1 (by omega),T,ob]
  rfl
 | not e=>
  have G:=i e (by simp)
  have ht:(A0.mk 7 0 [] [e]).text=33::YtbaijagfgceilaaGreatDoor.par 6 (e.Op,e.text):=rfl
  refine ⟨fun k r hr g=>?_,33,_,ht,by decide⟩
  rw [ht,List.cons_append] at g
  obtain ⟨c,t,hc,hn⟩:=X18 hl G 6
  obtain ⟨p1,s⟩:=At.n1 (c:=33) (d:=c) (t:=t++r) (by decide) hn (by rw [hc]; rfl) g
  obtain ⟨k',Z,P,L,M,_⟩:=G.par hl (n:=6) rfl (by decide) (by decide) (k+1) r hr s
  have hp:=R1 p1
  refine ⟨k',RkE.of hl (by omega) P (fun hs=>?_) (fun hp=>by cases hp),L⟩
  have T:=un6 hl (M ⟨hs,fun m h1 h2=>by omega⟩)
  have Y:isT l k [45]=false:=by rw [I2 p1]; rfl
  rw [U3,A1 l j,ob,Y]
  simp only [zqg,zt,zqk]
  rw [A1 l j,ob,I2 p1]
  simp only [zqm,zqf,zqa,zw]
  rw [ob,zp rfl,Fe,w1 (by omega),T,ob]
  rfl
 | bin o x y h h'=>exact Rk.bin hl h h' (i x (by simp)) (i y (by simp))
 | min x y=>
  have v:=i x (by simp)
  have H:=i y (by simp)
  refine ⟨fun k r hr g=>?_,109,_,rfl,by decide⟩
  have ht:(A0.mk 21 0 [] [x,y]).text++r=[109,105,110]++(40::(x.text++[44,32]++y.text++[41]++r)):=by
   show ([109,105,110,40]++x.text++[44,32]++y.text++[41])++r=_
   simp
  rw [ht] at g
  obtain ⟨a,b⟩:=At.kw (w:=[109,105,110]) (by decide +kernel) (by exact rfl) g
  have p:=R1 a
  obtain ⟨k',p1,s,S,X⟩:=A1o hl v H 21 p b
  refine ⟨k',RkE.of hl p1 s (fun _=>Lw hl (by rw [D3 a]; rfl) (by rw [D3 a]; rfl) ?_) (fun hp=>by cases hp),S⟩
  rw [H5]
  simp only [A1 l j,ob,D3 a]
  rw [zn (by decide),zn (by decide),zn (by decide),ob,zp (by decide),Lh,A1 l j,ob,D3 a,zn (by decide),X,ob]
 | max x y=>
  have v:=i x (by simp)
  have H:=i y (by simp)
  refine ⟨fun k r hr g=>?_,109,_,rfl,by decide⟩
  have ht:(A0.mk 22 0 [] [x,y]).text++r=[109,97,120]++(40::(x.text++[44,32]++y.text++[41]++r)):=by
   show ([109,97,120,40]++x.text++[44,32]++y.text++[41])++r=_
   simp
  rw [ht] at g
  obtain ⟨a,b⟩:=At.kw (w:=[109,97,120]) (by decide +kernel) (by exact rfl) g
  have p:=R1 a
  obtain ⟨k',p1,s,S,X⟩:=A1o hl v H 22 p b
  refine ⟨k',RkE.of hl p1 s (fun _=>Lw hl (by rw [D3 a]; rfl) (by rw [D3 a]; rfl) ?_) (fun hp=>by cases hp),S⟩
  rw [H5]
  simp only [A1 l j,ob,D3 a]
  rw [zn (by decide),zn (by decide),zp (by decide),ob,zp (by decide),Lh,A1 l j,ob,D3 a,zp (by decide),X,ob]
 | cond x y z=>
  have v:=i x (by simp)
  have H:=i y (by simp)
  have hz:=i z (by simp)
  refine ⟨fun k r hr g=>?_,?_⟩
  ·have ht:(A0.mk 23 0 [] [x,y,z]).text++r=YtbaijagfgceilaaGreatDoor.par 1 (x.Op,x.text)++(32::63::32::(y.text++(32::58::32::(z.text++r)))):=by
    show YtbaijagfgceilaaGreatDoor.par 1 (x.Op,x.text)++[32,63,32]++y.text++[32,58,32]++z.text++r=_
    simp
   rw [ht] at g
   obtain ⟨D,Z,P,L,M,_⟩:=v.par hl (n:=1) rfl (by decide) (by decide) k _ (by exact rfl) g
   obtain ⟨p1,s⟩:=At.p1 (by decide) (At.sp L)
   obtain ⟨V,b1,b2⟩:=H.rd (D+1) _ (by exact rfl) (At.sp s)
   obtain ⟨u,I⟩:=At.p1 (by decide) (At.sp b2)
   obtain ⟨k3,W,c2⟩:=hz.rd (V+1) _ hr (At.sp I)
   have hp:=R1 p1
   have hq:=R1 u
   have:=b1.lt
   have:=W.lt
   have st1:TSt l D 1:=by
    refine ⟨⟨by rw [I2 p1]; rfl,by rw [I2 p1]; rfl⟩,fun m Q _=>?_⟩
    obtain ⟨t,u1,u2,u3⟩:=p1
    rw [Ek,u1]
    simp only [u2,u3]
    rw [zp (by decide),show opT [63]=(0,0) by decide]
    have:((0:Int) == (m:Int))=false:=zqn.2 (by omega)
    rw [this]
    exact ⟨_,rfl⟩
   have a0:lv 23=0:=rfl
   have J:(A0.mk 23 0 [] [x,y,z]).Op=23:=rfl
   refine ⟨k3,⟨by omega,W.le,fun n h1 _ hn=>by rw [J] at hn; omega,fun n h1 _ _ hn=>by rw [J] at hn; omega,fun hs=>?_,fun hp=>by cases hp⟩,c2⟩
   rw [W1]
   have O:=M st1
   rw [show ((1:Nat):Int)=1 from rfl] at O
   rw [O,ob]
   simp only [zqf,zqg,zt,zql]
   rw [A1 l j,ob,I2 p1]
   simp only [zqm,zqf,zqa,zw]
   rw [w1 (by omega),b1.c (Yk u (by decide)),ob]
   simp only [zqf,zqa,zw]
   rw [A1 l j,ob,I2 u]
   simp only [zqm,zqf,zqa,zw]
   rw [w1 (by omega),W.c hs,ob]
   rfl
  ·obtain ⟨c,t,hc,hn⟩:=X18 hl v 1
   refine ⟨c,t++([32,63,32]++y.text++[32,58,32]++z.text),?_,hn⟩
   show YtbaijagfgceilaaGreatDoor.par 1 (x.Op,x.text)++[32,63,32]++y.text++[32,58,32]++z.text=_
   rw [hc]
   simp
end
structure Zg (t:F0):Prop where
 f:L19 t
 n:t.all Li=true
theorem Zg.kid {t k:F0}(h:Zg t)(hk:k∈t.Of):Zg k:=by
 have h1:=h.n
 rw [F0.all_eq,zqi] at h1
 exact ⟨h.f.kid hk,F0.alls_mem h1.2 hk⟩
theorem Zg.names {t:F0}(h:Zg t):(t.Kind=4→W3 t.Name=true)∧∀ s∈t.Names,W3 s=true:=by
 have h1:=h.n
 rw [F0.all_eq,zqi] at h1
 have h2:=h1.1
 unfold Li na1 at h2
 rw [zqi] at h2
 refine ⟨fun hk=>?_,List.all_eq_true.1 h2.2⟩
 have a:=h2.1
 rw [hk] at a
 exact a
theorem Zg.nums {t:F0}(h:Zg t):(t.Kind=1→(-1048576≤t.Low∧t.Low≤1048576)∧-1048576≤t.High∧t.High≤1048576)∧(t.Kind=2→1≤t.Size∧t.Size≤32):=by
 have h1:=h.f.numb
 rw [F0.all_eq,zqi] at h1
 have h2:=h1.1
 unfold Sm nm1 nm2 at h2
 rw [zqi] at h2
 constructor
 ·intro hk
  have a:=h2.2
  rw [hk] at a
  simp [E2] at a
  omega
 ·intro hk
  have a:=h2.1
  rw [hk] at a
  simp [E2] at a
  omega
def RT (C:Int)(l:List I0)(t:F0):Prop:=∀ k r,NN ld r→At C l k (t.text++r)→∃ k',k < k'∧k'≤l.length∧At C l k' r∧O9 l k=some (t,((k':Nat):Int),true)
section
variable {C:Int}{l:List I0}(hl:Yf l)
include hl
theorem N1t:∀ (ks:List F0) (ns:List Str),(∀ t∈ks,RT C l t)→(∀ s∈ns,W3 s=true)→ns.length=ks.length→ks≠[]→∀ (a:List Str) (b:List F0) (k:Nat) (r:Str),k < l.length→a.length≤k→b.length≤k→At C l (k+1) (Td true ns (F0.texts ks)++125::r)→
  ∃ k',k < k'∧k'≤l.length∧At C l k' r∧T8 l a b k=some (F0.mk 3 0 0 0 [] (a++ns) (b++ks),((k':Nat):Int),true)
 | [],_,_,_,_,h,_,_,_,_,_,_,_,_=>absurd rfl h
 | _::_,[],_,_,h,_,_,_,_,_,_,_,_,_=>by cases h
 | t::ks,n::ns,ht,hn,c,_,a,b,k,r,hk,ha,hb,q=>by
  have d:=hl.1
  have F:Td true (n::ns) (F0.texts (t::ks))++125::r=n++(58::32::(t.text++(Td false ns (F0.texts ks)++125::r))):=by
   rw [Gz]; simp
  rw [F] at q
  obtain ⟨p1,B,D⟩:=At.nm (hn n zqp) (by exact rfl) q
  obtain ⟨v,z⟩:=At.p1 (by decide) D
  have i:NN ld (Td false ns (F0.texts ks)++125::r):=by
   cases ns with
   | nil=>exact rfl
   | cons m ns=>cases ks with
    | nil=>exact rfl
    | cons t' ks=>rw [Gz]; exact rfl
  obtain ⟨g,s1,s2,s3,A⟩:=ht t zqp (k+1+1+1) _ i (At.sp z)
  have hp:=C7 p1
  have H:=R1 v
  have p:decide ((a.length+1) * 17≤140737488355328)=true:=zqj (by unfold BB at d; omega)
  have w:decide ((b.length+1) * 97≤140737488355328)=true:=zqj (by unfold BB at d; omega)
  have par:O4 l ((k+1:Nat):Int)=some (B0.mk 4 n t 0 (A0.mk 0 0 [] []) [] [] [],((g:Nat):Int),true):=by
   rw [O4,A8 l d,p1,zp rfl,ob]
   simp only [zqf,zqg,zt,zql]
   rw [A1 l d,ob,I2 v]
   simp only [zqm,zqf,zqa,zw]
   rw [w1 (by omega),A,ob,B]
  cases ks with
  | nil=>
   have o:ns=[]:=by simpa using c
   subst o
   obtain ⟨e,j⟩:=At.p1 (by decide) (show At C l g (125::r) from s3)
   have u:=R1 e
   refine ⟨g+1,by omega,by omega,j,?_⟩
   rw [T8,w1 (by omega),par,ob]
   simp only [p,w,zqf,zqa,zw,zt]
   rw [A1 l d,ob,I2 e]
   simp only [zqm,zt]
   rw [w1 (by omega)]
  | cons t' ks=>
   cases ns with
   | nil=>simp at c
   | cons n' ns=>
    have x:Td false (n'::ns) (F0.texts (t'::ks))++125::r=44::32::(Td true (n'::ns) (F0.texts (t'::ks))++125::r):=by
     rw [Gz,Gz]; simp
    rw [x] at s3
    obtain ⟨e,j⟩:=At.p1 (by decide) s3
    have u:=R1 e
    obtain ⟨k',I,E,G,y⟩:=N1t (t'::ks) (n'::ns) (fun t h=>ht t (zqq _ h)) (fun s h=>hn s (zqq _ h)) (by simpa using c) (List.cons_ne_nil _ _) (a++[n]) (b++[t]) g r u (by rw [zqc]; simp only [List.length_singleton]; omega) (by rw [zqc]; simp only [List.length_singleton]; omega) (At.sp j)
    refine ⟨k',by omega,E,G,?_⟩
    rw [T8,w1 (by omega),par,ob]
    simp only [p,w,zqf,zqa,zw,zt]
    have f:isT l g [125]=false:=by rw [I2 e]; rfl
    rw [A1 l d,ob,f,zn (by simp),A1 l d,ob,I2 e]
    simp only [zqm,zqf,zqa,zw]
    rw [y]
    simp
theorem I1q (t:F0):Zg t→RT C l t:=by
 have c:=hl.1
 induction t using F0.ind with
 | h t P=>
 intro hf
 have p:=fun k hk=>P k hk (hf.kid hk)
 have i:=hf.names
 have j:=hf.nums
 cases hf.f.shape with
 | bool=>
  intro k r hr g
  obtain ⟨a,b⟩:=At.kw (w:=[98,111,111,108]) (by decide +kernel) hr g
  have v:=R1 a
  refine ⟨k+1,by omega,by omega,b,?_⟩
  rw [O9,A1 l c,ob,D3 a,zp (by decide),w1 (by omega)]
 | int lo hi h h'=>
  intro k r hr g
  obtain ⟨⟨F,A⟩,b3,Q⟩:=j.1 rfl
  have q:(F0.mk 1 lo hi 0 [] [] []).text++r=[105,110,116]++(91::(Lib.itoa lo++(46::46::(Lib.itoa hi++(93::r))))):=by
   show [105,110,116,91]++Lib.itoa lo++[46,46]++Lib.itoa hi++[93]++r=_
   simp
  rw [q] at g
  obtain ⟨p1,n⟩:=At.kw (w:=[105,110,116]) (by decide +kernel) (by exact rfl) g
  obtain ⟨o,u⟩:=At.p1 (by decide) n
  obtain ⟨I,K,N,c3,c4⟩:=At.int hl F A (by exact rfl) u
  obtain ⟨m,y⟩:=At.s2 (by decide) c3
  obtain ⟨G,M,J,x,B⟩:=At.int hl b3 Q (by exact rfl) y
  obtain ⟨s,D⟩:=At.p1 (by decide) x
  have hp:=R1 p1
  have H:=R1 o
  have O:=R1 m
  have hv:=R1 s
  refine ⟨G+1,by omega,by omega,D,?_⟩
  rw [O9,A1 l c,ob,D3 p1,zn (by decide),A1 l c,ob,D3 p1,zp (by decide),w1 (by omega)]
  unfold Dj
  rw [A1 l c,ob,I2 o]
  simp only [zqm,zqf,zqa,zw]
  rw [w1 (by omega),c4,ob]
  simp only [zqf,zqg,zt,zql]
  rw [A1 l c,ob,I2 m]
  simp only [zqm,zqf,zqa,zw]
  rw [w1 (by omega),B,ob]
  simp only [zqf,zqg,zt,zql]
  rw [A1 l c,ob,I2 s]
  simp only [zqm,zqf,zqa,zw,ob]
  rw [w1 (by omega)]
 | array sz t h=>
  intro k r hr g
  have ht:=p t (by simp)
  obtain ⟨F,A⟩:=j.2 rfl
  have q:(F0.mk 2 0 0 sz [] [] [t]).text++r=[97,114,114,97,121]++(32::(Lib.itoa sz++(32::([111,102]++(32::(t.text++r)))))):=by
   show [97,114,114,97,121,32]++Lib.itoa sz++[32,111,102,32]++t.text++r=_
   simp
  rw [q] at g
  obtain ⟨p1,n⟩:=At.kw (w:=[97,114,114,97,121]) (by decide +kernel) (by exact rfl) g
  have E:(-1048576:Int)≤sz:=by have:(1:Int)≤sz:=F; omega
  have z:sz≤(1048576:Int):=by have:sz≤(32:Int):=A; omega
  obtain ⟨I,K,N,c3,c4⟩:=At.int hl E z (by exact rfl) (At.sp n)
  obtain ⟨m,y⟩:=At.kw (w:=[111,102]) (by decide +kernel) (by exact rfl) (At.sp c3)
  obtain ⟨G,M,J,x,B⟩:=ht (I+1) r hr (At.sp y)
  have hp:=R1 p1
  have O:=R1 m
  refine ⟨G,by omega,J,x,?_⟩
  rw [O9,A1 l c,ob,D3 p1,zn (by decide),A1 l c,ob,D3 p1,zn (by decide),A1 l c,ob,D3 p1,zp (by decide),w1 (by omega),c4,ob]
  simp only [zqf,zqg,zt,zql]
  rw [A1 l c,ob,D3 m]
  simp only [zqm,zqf,zqa,zw]
  rw [w1 (by omega),B,ob]
 | record ns ks h h'=>
  intro k r hr g
  have q:(F0.mk 3 0 0 0 [] ns ks).text++r=[114,101,99,111,114,100]++(32::123::(Td true ns (F0.texts ks)++125::r)):=by
   show [114,101,99,111,114,100,32,123]++Td true ns (F0.texts ks)++[125]++r=_
   simp
  rw [q] at g
  obtain ⟨p1,n⟩:=At.kw (w:=[114,101,99,111,114,100]) (by decide +kernel) (by exact rfl) g
  obtain ⟨o,u⟩:=At.p1 (by decide) (At.sp n)
  have hp:=R1 p1
  have H:=R1 o
  obtain ⟨k',s,D,R,L⟩:=N1t hl ks ns (fun t ht=>p t ht) i.2 h (by intro e; rw [e] at h'; simp at h') [] [] (k+1) r H (Nat.zero_le _) (Nat.zero_le _) u
  refine ⟨k',by omega,D,R,?_⟩
  rw [O9,A1 l c,ob,D3 p1,zn (by decide),A1 l c,ob,D3 p1,zn (by decide),A1 l c,ob,D3 p1,zn (by decide),A1 l c,ob,D3 p1,zp (by decide),w1 (by omega),Eq,A1 l c,ob,I2 o]
  simp only [zqm,zqf,zqa,zw]
  rw [L]
  rfl
 | name nm=>
  intro k r hr g
  obtain ⟨a,b,d⟩:=At.nm (i.1 rfl) hr (show At C l k (nm++r) from g)
  have v:=C7 a
  have hf:=W18 a
  refine ⟨k+1,by omega,by omega,d,?_⟩
  rw [O9]
  simp only [A1 l c,ob,hf,zqa,zw]
  rw [A8 l c,a,zp rfl,ob,b]
end
theorem H20 {C:Int}{l:List I0}{k:Nat}(h:At C l k []):C=0∧l.length≤k:=by
 obtain ⟨h1,h2⟩:=h
 rw [V12 rfl] at h1 h2
 refine ⟨h2.symm,?_⟩
 cases hl:l.drop k with
 | nil=>exact List.drop_eq_nil_iff.1 hl
 | cons x y=>rw [hl] at h1; cases h1
theorem H1y {s:Str}(a:s.length≤8192)(h:(txk s).2=0):(Ha s).2.2=0∧At 0 (Ha s).1 0 s:=by
 have e:Ha s=lx s 0:=by rw [E1y,zn (by omega)]
 obtain ⟨h1,h2⟩:=I1t (s.length+1) s 0 (Nat.lt_succ_self _)
 rw [e]
 exact ⟨h1.trans h,by rw [List.drop_zero]; exact (h2 h).symm,h⟩
set_option maxHeartbeats 1000000
def Y18 (m:Str):Prop:=∀ c∈m,c=9
theorem Y18.more {m:Str}(h:Y18 m):Y18 (m++[9]):=fun c hc=>by
 rcases List.mem_append.1 hc with hc | hc
 ·exact h c hc
 ·simpa using hc
def B1m (l:List I0)(k:Nat):Prop:=beg l k=false∧isT l k [101,108,115,101]=false
def C1m (t:Str):Bool:=!(t == [111,117,116,112,117,116]||(t == [119,97,105,116]||(t == [105,102]||(t == [119,104,105,108,101]||(t == [102,111,114]||(t == [115,101,116,116,108,101])))))||t == [101,108,115,101])
theorem B1o {l:List I0}{k:Nat}{t:Str}(b:T3 l k 0=false)(a:∀ w,isT l k w=(t == w))(h:C1m t=true):B1m l k:=by
 unfold C1m at h
 rw [Bool.not_eq_true',Bool.or_eq_false_iff] at h
 unfold B1m beg
 rw [b]
 simp only [a,Bool.false_or]
 exact h
theorem I20 {l:List I0}{k:Nat}{t:Str}(h:∃ x,l[k]?=some x∧x.Kind=3∧x.Text=t)(hb:C1m t=true):B1m l k:=B1o (by rw [Z1l h]; rfl) (I2 h) hb
theorem J20 {l:List I0}{k:Nat}{t:Str}(h:∃ x,l[k]?=some x∧x.Kind=2∧x.Text=t)(hb:C1m t=true):B1m l k:=B1o (by rw [Z1l h]; rfl) (D3 h) hb
theorem B1w {l:List I0}{k:Nat}(h:beg l k=true):isT l k [101,108,115,101]=false:=by
 cases he:isT l k [101,108,115,101] with
 | false=>rfl
 | true=>
  have n:=fun t ht=>V8 he (t':=t) ht
  unfold beg at h
  rw [(X7 he).1,n _ rfl,n _ rfl,n _ rfl,n _ rfl,n _ rfl,n _ rfl] at h
  cases h
structure Do (l:List C0):Prop where
 f:Qs l
 n:C0.alls Ga l=true
structure FS (s:C0):Prop where
 shape:Xk s
 pl:uPl s.Verb=true→s.Place.place=true
 np:s.Place.all L6=true
 nv:s.Value.all L6=true
 nn:uNm s.Verb=true→W3 s.Name=true
 na:∀ a∈s.Args,a.all L6=true
 nums:Bg s=true
 th:Do s.Then
 el:Do s.Else
theorem Do.mem {l:List C0}(h:Do l){s:C0}(hs:s∈l):FS s:=by
 have hf:=C0.alls_mem h.f.form hs
 have hb:=C0.alls_mem h.f.numb hs
 have hn:=C0.alls_mem h.n hs
 have g:=h.f.ok.mem hs
 rw [C0.all_eq,zqi,zqi] at hf hb hn
 obtain ⟨d,ft,j⟩:=hf
 obtain ⟨c,k,be⟩:=hb
 obtain ⟨b,m,i⟩:=hn
 unfold G7 at d
 unfold D9 at c
 unfold Ga at b
 simp only [zqi] at d c b
 refine ⟨h.f.mem hs,fun e=>?_,b.1.1.1,b.1.1.2,fun e=>?_,fun a ha=>A0.alls_mem b.2 ha,c.2,⟨⟨ft,k,g.thens⟩,m⟩,⟨j,be,g.elses⟩,i⟩
 ·have:=d.1.1.1.1.1.1.1.1.1.2
  rw [e] at this
  exact this
 ·have:=b.1.2
  rw [e] at this
  exact this
def ST (C:Int)(l:List I0)(s:C0):Prop:=∀ m k r,Y18 m→At C l k (s.text m++10::r)→
 ∃ k',k < k'∧k'≤l.length∧At C l k' r∧beg l k=true∧(isT l k' [101,108,115,101]=false→I4 l k=some (s,((k':Nat):Int),true))
def LT (C:Int)(l:List I0)(ss:List C0):Prop:=∀ m k r,Y18 m→k≤l.length→At C l k (C0.lines ss m++r)→
 ∃ k',k≤k'∧k'≤l.length∧At C l k' r∧(B1m l k'→isT l k [101,108,115,101]=false∧∀ out,out.length≤k→E5 l k out=some (out++ss,((k':Nat):Int),true))
section
variable {C:Int}{l:List I0}(hl:Yf l)
include hl
theorem V1i:∀ a:List C0,(∀ s∈a,ST C l s)→LT C l a
 | [],_=>fun m k r _ hk b=>by
  refine ⟨k,zqr _,hk,b,fun c=>⟨c.2,fun out _=>?_⟩⟩
  have d:Bf l (k:Int)=some (beg l k):=C15 hl k
  rw [E5,d,ob,c.1,List.append_nil]
  rfl
 | s::a,h=>fun m k r hm hk b=>by
  have u:=hl.1
  have e:C0.lines (s::a) m++r=m++(s.text m++10::(C0.lines a m++r)):=by rw [V1p]; simp
  rw [e] at b
  obtain ⟨n,x,t,p,f,v⟩:=h s zqp m k _ hm (At.tabs hm b)
  obtain ⟨k',y,o,b3,q⟩:=V1i a (fun s hs=>h s (zqq _ hs)) m n r hm t p
  refine ⟨k',by omega,o,b3,fun c=>⟨B1w f,fun out w=>?_⟩⟩
  obtain ⟨g,j⟩:=q c
  have d:Bf l (k:Int)=some (beg l k):=C15 hl k
  rw [E5,d,ob,f,zp rfl,v g,ob]
  have i:decide ((out.length+1) * 257≤140737488355328)=true:=zqj (by unfold BB at u; omega)
  simp only [i,zqf,zqa,zw,zt]
  rw [j (out++[s]) (by rw [zqc]; simp only [List.length_singleton]; omega)]
  simp
theorem V1e {th:List C0}(h:LT C l th){m:Str}(hm:Y18 m){k:Nat}{r:Str}(b:At C l k ([32,123,10]++C0.lines th (m++[9])++(m++[125])++r)) :
  (∃ x,l[k]?=some x∧x.Kind=3∧x.Text=[123])∧∃ k',k < k'∧k'≤l.length∧At C l k' r∧Xc l k=some (th,((k':Nat):Int),true):=by
 have c:=hl.1
 have e:[32,123,10]++C0.lines th (m++[9])++(m++[125])++r=32::123::10::(C0.lines th (m++[9])++(m++(125::r))):=by simp
 rw [e] at b
 obtain ⟨p1,g⟩:=At.p1 (by decide) (At.sp b)
 have hp:=R1 p1
 obtain ⟨f,p,q,j,n⟩:=h (m++[9]) (k+1) _ hm.more (by omega) (At.nl g)
 obtain ⟨a,d⟩:=At.p1 (by decide) (At.tabs hm j)
 have o:=R1 a
 obtain ⟨_,i⟩:=n (I20 a (by decide))
 refine ⟨p1,f+1,by omega,by omega,d,?_⟩
 rw [Xc,A1 l c,ob,I2 p1]
 simp only [zqm,zqf,zqa,zw]
 rw [w1 (by omega),I5,i [] (Nat.zero_le _),ob]
 simp only [zqf,zqg,zt,zql]
 rw [A1 l c,ob,I2 a]
 simp only [zqm,zqf,zqa,zw]
 rw [w1 (by omega)]
 rfl
def wB (w:Str):Bool:=!(w == [45]||w == [33]||w == [116,114,117,101]||w == [102,97,108,115,101]||w == [109,105,110]||w == [109,97,120]||w == [40])
theorem C1w {p:Nat}{w:Str}(h:isT l p w=true)(a:wB w=true):W1 l p=some (A0.mk 0 0 [] [],(p:Int),false):=by
 have b:=hl.1
 unfold wB at a
 simp only [Bool.not_eq_true',Bool.or_eq_false_iff] at a
 obtain ⟨⟨⟨⟨⟨⟨h1,h2⟩,m⟩,j⟩,o⟩,f⟩,c⟩:=a
 obtain ⟨k,g,_⟩:=X7 h
 have un:U3 l p=some (A0.mk 0 0 [] [],(p:Int),false):=by
  refine Lw hl (V8 h h1) (V8 h h2) ?_
  rw [H5]
  simp only [A1 l b,ob,V8 h m,V8 h j,V8 h o,V8 h f,V8 h c,zqg,zt,zqa,zw,zql]
  rw [Fk l hl,g]
  simp only [zqa,zw,ob]
  rw [F7,A8 l b,k]
  rfl
 have lev:∀ d n:Nat,n+d=6→O1 l p n=some (A0.mk 0 0 [] [],(p:Int),false):=by
  intro d
  induction d with
  | zero=>
   intro n hn
   have:n=6:=by omega
   subst this
   exact Z1v hl un
  | succ d i=>intro n hn; rw [O1e hl p n (by omega),i (n+1) (by omega)]; rfl
 have e:=lev 5 1 rfl
 rw [show ((1:Nat):Int)=1 from rfl] at e
 rw [W1,e]
 rfl
theorem Mz {p:Nat}{w:Str}{x:A0}{j:Int}(h:W1 l p=some (x,j,true))(a:wB w=true):isT l p w=false:=by
 cases hT:isT l p w with
 | false=>rfl
 | true=>
  rw [C1w hl hT a] at h
  injection h with h
  injection h with _ h
  injection h with _ h
  cases h
theorem C1o:∀ (ar:List A0),(∀ a∈ar,Rk C l a)→ar≠[]→∀ (out:List A0) (k:Nat) (r:Str),k < l.length→out.length≤k→At C l (k+1) (exl true ar++41::r)→
  ∃ k',k < k'∧k'≤l.length∧At C l k' r∧isT l (k+1) [41]=false∧U4 l k out=some (out++ar,((k':Nat):Int),true)
 | [],_,h,_,_,_,_,_,_=>absurd rfl h
 | a::ar,ha,_,out,k,r,hk,t,g=>by
  have j:=hl.1
  have p:decide ((out.length+1) * 57≤140737488355328)=true:=zqj (by unfold BB at j; omega)
  cases ar with
  | nil=>
   have e:exl true [a]++41::r=a.text++(41::r):=by simp [exl]
   rw [e] at g
   obtain ⟨i,f,o⟩:=(ha a zqp).rd (k+1) _ (by exact rfl) g
   obtain ⟨p1,m⟩:=At.p1 (by decide) o
   have hp:=R1 p1
   have:=f.lt
   have d:=f.c (Yk p1 (by decide))
   refine ⟨i+1,by omega,by omega,m,Mz hl d (by decide),?_⟩
   rw [U4,w1 (by omega),d,ob]
   simp only [p,zqf,zqa,zw,zt]
   rw [A1 l j,ob,I2 p1]
   simp only [zqm,zt]
   rw [w1 (by omega)]
  | cons b ar=>
   have e:exl true (a::b::ar)++41::r=a.text++(44::32::(exl true (b::ar)++41::r)):=by simp [exl]
   rw [e] at g
   obtain ⟨i,f,o⟩:=(ha a zqp).rd (k+1) _ (by exact rfl) g
   obtain ⟨p1,m⟩:=At.p1 (by decide) o
   have hp:=R1 p1
   have:=f.lt
   have d:=f.c (Yk p1 (by decide))
   obtain ⟨k',u,q,b3,_,s⟩:=C1o (b::ar) (fun x d=>ha x (zqq _ d)) (List.cons_ne_nil _ _) (out++[a]) i r hp (by rw [zqc]; simp only [List.length_singleton]; omega) (At.sp m)
   refine ⟨k',by omega,q,b3,Mz hl d (by decide),?_⟩
   rw [U4,w1 (by omega),d,ob]
   simp only [p,zqf,zqa,zw,zt]
   have n:isT l i [41]=false:=by rw [I2 p1]; rfl
   rw [A1 l j,ob,n,zn (by simp),A1 l j,ob,I2 p1]
   simp only [zqm,zqf,zqa,zw]
   rw [s]
   simp
theorem D1o:∀ (ns:List Int),(∀ n∈ns,0≤n∧n≤1048576)→ns≠[]→∀ (out:List Int) (k:Nat) (r:Str),k≤l.length→out.length≤k→At C l k (nul true ns++59::r)→
  ∃ k',k < k'∧k' < l.length∧(∃ x,l[k']?=some x∧x.Kind=3∧x.Text=[59])∧At C l (k'+1) r∧M5 l k out=some (out++ns,((k':Nat):Int),true)
 | [],_,h,_,_,_,_,_,_=>absurd rfl h
 | n::ns,hn,_,out,k,r,hk,u,a=>by
  have g:=hl.1
  have j:decide ((out.length+1) * 9≤140737488355328)=true:=zqj (by unfold BB at g; omega)
  have hb:=hn n zqp
  cases ns with
  | nil=>
   have e:nul true [n]++59::r=Lib.itoa n++(59::r):=by simp [nul]
   rw [e] at a
   obtain ⟨c,q,s,f,i⟩:=At.int hl (by omega) hb.2 (by exact rfl) a
   obtain ⟨p1,d⟩:=At.p1 (by decide) f
   have hp:=R1 p1
   refine ⟨c,by omega,by omega,p1,d,?_⟩
   rw [M5,i,ob]
   simp only [j,zqf,zqa,zw,zt]
   rw [A1 l g,ob,I2 p1]
   rfl
  | cons b ns=>
   have e:nul true (n::b::ns)++59::r=Lib.itoa n++(44::32::(nul true (b::ns)++59::r)):=by simp [nul]
   rw [e] at a
   obtain ⟨c,q,s,f,i⟩:=At.int hl (by omega) hb.2 (by exact rfl) a
   obtain ⟨p1,d⟩:=At.p1 (by decide) f
   have hp:=R1 p1
   obtain ⟨k',v,m,b3,p,o⟩:=D1o (b::ns) (fun x t=>hn x (zqq _ t)) (List.cons_ne_nil _ _) (out++[n]) (c+1) r (by omega) (by rw [zqc]; simp only [List.length_singleton]; omega) (At.sp d)
   refine ⟨k',by omega,m,b3,p,?_⟩
   rw [M5,i,ob]
   simp only [j,zqf,zqa,zw,zt]
   rw [A1 l g,ob,I2 p1]
   simp only [zqm,zqf,zqa,zw]
   rw [w1 (by omega),o]
   simp
theorem I1c {pl:A0}(h:Rk C l pl)(hp:pl.place=true){k:Nat}{r:Str}(m:At C l k (pl.text++(32::61::32::r))) :
  ∃ k',k < k'∧k' < l.length∧T3 l k 0=true∧isT l k' [61]=true∧At C l (k'+1) r∧F7 l k=some (pl,((k':Nat):Int),true):=by
 obtain ⟨j,b,i⟩:=h.rd k _ (by exact rfl) m
 obtain ⟨p1,e⟩:=At.n1 (c:=61) (d:=32) (t:=r) (by decide) (by decide) rfl (At.sp i)
 have a:=R1 p1
 obtain ⟨f,g⟩:=b.q hp
 refine ⟨j,b.lt,a,f,by rw [I2 p1]; rfl,At.sp e,?_⟩
 rw [g,U1e hl ⟨by rw [I2 p1]; rfl,by rw [I2 p1]; rfl⟩]
 cases pl
 rfl
theorem D1m {s:C0}{k j:Nat}(hk:T3 l k 0=true)(ha:V7 l k=some (s,((j:Nat):Int),true))(a:isT l j [59]=true):beg l k=true∧I4 l k=some (s,((j+1:Nat):Int),true):=by
 have b:=hl.1
 have hf:=W18 hk
 have:=P1 a
 refine ⟨by unfold beg; rw [hk]; rfl,?_⟩
 rw [I4]
 simp only [A1 l b,ob,hf,zqa,zw]
 rw [ha,ob]
 have e:=Uo hl s j (by omega)
 rw [a,zp rfl] at e
 exact e
theorem G15 {k:Nat}{t:Str}(h:∃ x,l[k]?=some x∧x.Kind=2∧x.Text=t)(hb:(t == [111,117,116,112,117,116]||(t == [119,97,105,116]||(t == [105,102]||(t == [119,104,105,108,101]||(t == [102,111,114]||(t == [115,101,116,116,108,101]))))))=true):beg l k=true:=by
 unfold beg
 simp only [D3 h,hb,Bool.or_true]
theorem M21 (s:C0):FS s→ST C l s:=by
 have f:=hl.1
 induction s using C0.ind with
 | h s a8 a0=>
 intro hf
 have M:LT C l s.Then:=V1i hl s.Then fun x i=>a8 x i (hf.th.mem i)
 have b0:LT C l s.Else:=V1i hl s.Else fun x i=>a0 x i (hf.el.mem i)
 have L:=hf.pl
 have N:=hf.np
 have F:=hf.nv
 have K:=hf.nn
 have b6:=hf.na
 have u:=hf.nums
 intro m k r hm g
 cases hf.shape with
 | set pl va h h'=>
  have e:(C0.mk 0 pl va [] [] 0 0 0 [] [] []).text m++10::r=pl.text++(32::61::32::(va.text++(59::10::r))):=by
   show pl.text++[32,61,32]++va.text++[59]++10::r=_
   simp
  rw [e] at g
  obtain ⟨q,a1,a2,Y,a4,X,Q⟩:=I1c hl (Vs hl pl ⟨h,N⟩) (L rfl) g
  obtain ⟨a,v,E⟩:=(Vs (C:=C) hl va ⟨h',F⟩).rd (q+1) _ (by exact rfl) X
  obtain ⟨p1,p⟩:=At.p1 (by decide) E
  have hp:=R1 p1
  have:=v.lt
  have i:=v.c (Yk p1 (by decide))
  obtain ⟨I,G⟩:=D1m hl (s:=C0.mk 0 pl va [] [] 0 0 0 [] [] []) (j:=a) Y (by
   unfold V7
   rw [Q,ob]
   simp only [zqf,zqg,zt,zql]
   rw [A1 l f,ob,a4]
   simp only [zqf,zqa,zw]
   rw [w1 (by omega),A1 l f,ob,Mz hl i (by decide),zn (by simp),A1 l f,ob,Mz hl i (by decide),zn (by simp),i,ob]) (by rw [I2 p1]; rfl)
  exact ⟨a+1,by omega,by omega,At.nl p,I,fun _=>G⟩
 | call pl nm ar h h'=>
  have e:(C0.mk 1 pl z nm ar 0 0 0 [] [] []).text m++10::r=pl.text++(32::61::32::([99,97,108,108]++(32::(nm++(40::(exl true ar++(41::59::10::r))))))):=by
   show pl.text++([32,61,32,99,97,108,108,32]++nm++[40])++exl true ar++[41]++[59]++10::r=_
   simp
  rw [e] at g
  obtain ⟨q,a1,a2,Y,a4,X,Q⟩:=I1c hl (Vs hl pl ⟨h,N⟩) (L rfl) g
  obtain ⟨p1,p⟩:=At.kw (w:=[99,97,108,108]) (by decide +kernel) (by exact rfl) X
  obtain ⟨o,H,W⟩:=At.nm (K rfl) (by exact rfl) (At.sp p)
  obtain ⟨t,D⟩:=At.p1 (by decide) W
  have hp:=R1 p1
  have hq:=C7 o
  have V:=R1 t
  have a9:∃ a,q < a∧a < l.length∧isT l a [59]=true∧At C l (a+1) (10::r)∧Qf l ((q+1+1+1:Nat):Int)=some (ar,((a:Nat):Int),true):=by
   unfold Qf
   rw [A1 l f,ob,I2 t]
   simp only [zqm,zqf,zqa,zw]
   rw [w1 (by omega),A1 l f,ob]
   cases ar with
   | nil=>
    obtain ⟨O,v2⟩:=At.p1 (by decide) (show At C l (q+1+1+1+1) (41::59::10::r) from D)
    obtain ⟨B,w2⟩:=At.p1 (by decide) v2
    have hv:=R1 O
    have hw:=R1 B
    refine ⟨q+1+1+1+1+1,by omega,hw,by rw [I2 B]; rfl,w2,?_⟩
    rw [I2 O,zp (by decide),wr (n:=((q+1+1+1:Nat):Int)+2) (by omega) (by unfold BB at f; omega),show ((q+1+1+1:Nat):Int)+2=((q+1+1+1+1+1:Nat):Int) by omega]
   | cons b ar=>
    obtain ⟨a,O,v2,v3,v4,v5⟩:=C1o hl (b::ar) (fun x i=>Vs hl x ⟨h' x i,b6 x i⟩) (List.cons_ne_nil _ _) [] (q+1+1+1) (59::10::r) V (Nat.zero_le _) D
    obtain ⟨B,w2⟩:=At.p1 (by decide) v3
    have hw:=R1 B
    refine ⟨a,by omega,hw,by rw [I2 B]; rfl,w2,?_⟩
    rw [v4,zn (by simp),v5,List.nil_append]
  obtain ⟨a,f1,f2,f3,f4,f5⟩:=a9
  obtain ⟨I,G⟩:=D1m hl (s:=C0.mk 1 pl z nm ar 0 0 0 [] [] []) (j:=a) Y (by
   unfold V7
   rw [Q,ob]
   simp only [zqf,zqg,zt,zql]
   rw [A1 l f,ob,a4]
   simp only [zqf,zqa,zw]
   rw [w1 (by omega),A1 l f,ob,D3 p1,zn (by decide),A1 l f,ob,D3 p1,zp (by decide),w1 (by omega),A8 l f,o,zp rfl,ob]
   simp only [zqf,zqa,zw]
   rw [f5,ob,H]) f3
  exact ⟨a+1,by omega,by omega,At.nl f4,I,fun _=>G⟩
 | rel pl nm h=>
  have e:(C0.mk 2 pl z nm [] 0 0 0 [] [] []).text m++10::r=pl.text++(32::61::32::([114,101,108,101,97,115,101]++(32::(nm++(59::10::r))))):=by
   show pl.text++([32,61,32,114,101,108,101,97,115,101,32]++nm)++[59]++10::r=_
   simp
  rw [e] at g
  obtain ⟨q,a1,a2,Y,a4,X,Q⟩:=I1c hl (Vs hl pl ⟨h,N⟩) (L rfl) g
  obtain ⟨p1,p⟩:=At.kw (w:=[114,101,108,101,97,115,101]) (by decide +kernel) (by exact rfl) X
  obtain ⟨o,H,W⟩:=At.nm (K rfl) (by exact rfl) (At.sp p)
  obtain ⟨t,D⟩:=At.p1 (by decide) W
  have hp:=R1 p1
  have hq:=C7 o
  have V:=R1 t
  obtain ⟨I,G⟩:=D1m hl (s:=C0.mk 2 pl z nm [] 0 0 0 [] [] []) (j:=q+1+1+1) Y (by
   unfold V7
   rw [Q,ob]
   simp only [zqf,zqg,zt,zql]
   rw [A1 l f,ob,a4]
   simp only [zqf,zqa,zw]
   rw [w1 (by omega),A1 l f,ob,D3 p1,zp (by decide),w1 (by omega),A8 l f,o,zp rfl,ob,H]) (by rw [I2 t]; rfl)
  exact ⟨q+1+1+1+1,by omega,by omega,At.nl D,I,fun _=>G⟩
 | out va h=>
  have e:(C0.mk 3 z va [] [] 0 0 0 [] [] []).text m++10::r=[111,117,116,112,117,116]++(32::(va.text++(59::10::r))):=by
   show [111,117,116,112,117,116,32]++va.text++[59]++10::r=_
   simp
  rw [e] at g
  obtain ⟨p1,p⟩:=At.kw (w:=[111,117,116,112,117,116]) (by decide +kernel) (by exact rfl) g
  obtain ⟨a,v,E⟩:=(Vs (C:=C) hl va ⟨h,F⟩).rd (k+1) _ (by exact rfl) (At.sp p)
  obtain ⟨o,H⟩:=At.p1 (by decide) E
  have hp:=R1 p1
  have hq:=R1 o
  have:=v.lt
  refine ⟨a+1,by omega,by omega,At.nl H,G15 hl p1 (by decide),fun _=>?_⟩
  have es:=Uo hl (C0.mk 3 zE va [] [] 0 0 0 [] [] []) a (by omega)
  rw [I2 o,zp (by decide)] at es
  rw [I4]
  simp only [A1 l f,ob,D3 p1]
  rw [zn (by decide),zn (by decide),zn (by decide),zp (by decide),w1 (by omega),v.c (Yk o (by decide)),ob]
  exact es
 | wait n h=>
  have hb:0≤n∧n≤1048576:=by
   unfold Bg E2 at u
   simp at u
   omega
  have e:(C0.mk 4 z z [] [] n 0 0 [] [] []).text m++10::r=[119,97,105,116]++(32::(Lib.itoa n++(59::10::r))):=by
   show [119,97,105,116,32]++Lib.itoa n++[59]++10::r=_
   simp
  rw [e] at g
  obtain ⟨p1,p⟩:=At.kw (w:=[119,97,105,116]) (by decide +kernel) (by exact rfl) g
  obtain ⟨a,v,E,b3,R⟩:=At.int hl (by omega) hb.2 (by exact rfl) (At.sp p)
  obtain ⟨o,H⟩:=At.p1 (by decide) b3
  have hp:=R1 p1
  have hq:=R1 o
  refine ⟨a+1,by omega,by omega,At.nl H,G15 hl p1 (by decide),fun _=>?_⟩
  have es:=Uo hl (C0.mk 4 zE zE [] [] n 0 0 [] [] []) a (by omega)
  rw [I2 o,zp (by decide)] at es
  rw [I4]
  simp only [A1 l f,ob,D3 p1]
  rw [zn (by decide),zn (by decide),zn (by decide),zn (by decide),zp (by decide),w1 (by omega),R,ob]
  exact es
 | settle ns h=>
  have hb:ns≠[]∧∀ n∈ns,0≤n∧n≤1048576:=by
   have m5:(E2 (ns.length:Int) 1 32&&Vh (-1) ns)=true:=u
   rw [zqi] at m5
   refine ⟨fun e0=>?_,?_⟩
   ·rw [e0] at m5; exact absurd m5.1 (by decide)
   ·have key:∀ (l:List Int) (J:Int),Vh J l=true→∀ n∈l,0≤n∧n≤1048576:=by
     intro l
     induction l with
     | nil=>intro _ _ n hn; cases hn
     | cons x r ih=>
      intro J h n hn
      simp only [Vh,zqi] at h
      cases hn with
      | head=>
       have h1:=h.1
       unfold E2 at h1
       simp at h1
       omega
      | tail _ hn=>exact ih x h.2 n hn
    exact key ns (-1) m5.2
  have e:(C0.mk 8 z z [] [] 0 0 0 ns [] []).text m++10::r=[115,101,116,116,108,101]++(32::(nul true ns++(59::10::r))):=by
   show [115,101,116,116,108,101,32]++nul true ns++[59]++10::r=_
   simp
  rw [e] at g
  obtain ⟨p1,p⟩:=At.kw (w:=[115,101,116,116,108,101]) (by decide +kernel) (by exact rfl) g
  have hp:=R1 p1
  obtain ⟨a,v,E,b3,R,b5⟩:=D1o hl ns hb.2 hb.1 [] (k+1) (10::r) (by omega) (Nat.zero_le _) (At.sp p)
  refine ⟨a+1,by omega,by omega,At.nl R,G15 hl p1 (by decide),fun _=>?_⟩
  have es:=Uo hl (C0.mk 8 zE zE [] [] 0 0 0 ns [] []) a (by omega)
  rw [I2 b3,zp (by decide)] at es
  rw [I4]
  simp only [A1 l f,ob,D3 p1]
  rw [zn (by decide),zn (by decide),zn (by decide),zn (by decide),zn (by decide),zp (by decide),w1 (by omega),Ej,b5,ob,List.nil_append]
  exact es
 | cond va th el h h1 h2=>
  have e:(C0.mk 5 z va [] [] 0 0 0 [] th el).text m++10::r=[105,102]++(32::(va.text++([32,123,10]++C0.lines th (m++[9])++(m++[125])++((bif decide ((el.length:Int) > 0) then [32,101,108,115,101]++([32,123,10]++C0.lines el (m++[9])++(m++[125])) else [])++10::r)))):=by
   show [105,102,32]++va.text++([32,123,10]++C0.lines th (m++[9])++(m++[125]))++(bif decide ((el.length:Int) > 0) then [32,101,108,115,101]++([32,123,10]++C0.lines el (m++[9])++(m++[125])) else [])++10::r=_
   simp
  rw [e] at g
  obtain ⟨p1,p⟩:=At.kw (w:=[105,102]) (by decide +kernel) (by exact rfl) g
  have hp:=R1 p1
  obtain ⟨q,v,E⟩:=(Vs (C:=C) hl va ⟨h,F⟩).rd (k+1) _ (by exact rfl) (At.sp p)
  obtain ⟨o,a,I,G,c3,c4⟩:=V1e hl M hm E
  have:=v.lt
  have i:=v.c (Yk o (by decide))
  have A:∀ y,Kd l ((k+1:Nat):Int)=some y→I4 l k=some y:=fun y hy=>by
   rw [I4]
   simp only [A1 l f,ob,D3 p1]
   rw [zp (by decide),w1 (by omega),hy,ob]
  by_cases he:el.length=0
  ·have Z:el=[]:=List.length_eq_zero_iff.1 he
   subst Z
   refine ⟨a,by omega,G,At.nl (show At C l a (10::r) from c3),G15 hl p1 (by decide),fun a7=>A _ ?_⟩
   rw [Kd,i,ob]
   simp only [zqf,zqa,zw]
   rw [c4,ob]
   simp only [zqf,zqa,zw]
   rw [A1 l f,ob,a7]
   rfl
  ·rw [zqj (show (el.length:Int) > 0 by omega),zqk] at c3
   have e2:([32,101,108,115,101]++([32,123,10]++C0.lines el (m++[9])++(m++[125]))++10::r)=32::([101,108,115,101]++([32,123,10]++C0.lines el (m++[9])++(m++[125])++(10::r))):=by simp
   rw [e2] at c3
   obtain ⟨t,D⟩:=At.kw (w:=[101,108,115,101]) (by decide +kernel) (by exact rfl) (At.sp c3)
   have V:=R1 t
   obtain ⟨_,U,d1,S,P,T⟩:=V1e hl b0 hm D
   refine ⟨U,by omega,S,At.nl P,G15 hl p1 (by decide),fun _=>A _ ?_⟩
   rw [Kd,i,ob]
   simp only [zqf,zqa,zw]
   rw [c4,ob]
   simp only [zqf,zqa,zw]
   rw [A1 l f,ob,D3 t,zp (by decide),w1 (by omega),T,ob]
 | loop va n th h hn h1=>
  have hb:0≤n∧n≤1048576:=by
   unfold Bg E2 at u
   simp at u
   omega
  have e:(C0.mk 6 z va [] [] n 0 0 [] th []).text m++10::r=[119,104,105,108,101]++(32::(va.text++(32::([108,105,109,105,116]++(32::(Lib.itoa n++([32,123,10]++C0.lines th (m++[9])++(m++[125])++(10::r)))))))):=by
   show [119,104,105,108,101,32]++va.text++([32,108,105,109,105,116,32]++Lib.itoa n)++([32,123,10]++C0.lines th (m++[9])++(m++[125]))++10::r=_
   simp
  rw [e] at g
  obtain ⟨p1,p⟩:=At.kw (w:=[119,104,105,108,101]) (by decide +kernel) (by exact rfl) g
  have hp:=R1 p1
  obtain ⟨q,v,E⟩:=(Vs (C:=C) hl va ⟨h,F⟩).rd (k+1) _ (by exact rfl) (At.sp p)
  obtain ⟨t,D⟩:=At.kw (w:=[108,105,109,105,116]) (by decide +kernel) (by exact rfl) (At.sp E)
  have V:=R1 t
  obtain ⟨a,I,G,c3,c4⟩:=At.int hl (by omega) hb.2 (by exact rfl) (At.sp D)
  obtain ⟨_,U,d1,S,P,T⟩:=V1e hl M hm c3
  have:=v.lt
  have i:=v.c (G20 t (by decide))
  refine ⟨U,by omega,S,At.nl P,G15 hl p1 (by decide),fun _=>?_⟩
  rw [I4]
  simp only [A1 l f,ob,D3 p1]
  rw [zn (by decide),zp (by decide),w1 (by omega),Ms,i,ob]
  simp only [zqf,zqg,zt,zql]
  rw [A1 l f,ob,D3 t]
  simp only [zqm,zqf,zqa,zw]
  rw [w1 (by omega),c4,ob]
  simp only [zqf,zqa,zw]
  rw [T,ob,ob]
 | count nm lo hi th h h' h1=>
  have hb:(-1048576≤lo∧lo≤1048576)∧-1048576≤hi∧hi≤1048576:=by
   unfold Bg E2 at u
   simp at u
   omega
  have e:(C0.mk 7 z z nm [] 0 lo hi [] th []).text m++10::r=[102,111,114]++(32::(nm++(32::61::32::(Lib.itoa lo++(32::([116,111]++(32::(Lib.itoa hi++([32,123,10]++C0.lines th (m++[9])++(m++[125])++(10::r)))))))))):=by
   show [102,111,114,32]++nm++[32,61,32]++Lib.itoa lo++[32,116,111,32]++Lib.itoa hi++([32,123,10]++C0.lines th (m++[9])++(m++[125]))++10::r=_
   simp
  rw [e] at g
  obtain ⟨p1,p⟩:=At.kw (w:=[102,111,114]) (by decide +kernel) (by exact rfl) g
  obtain ⟨o,H,W⟩:=At.nm (K rfl) (by exact rfl) (At.sp p)
  obtain ⟨t,D⟩:=At.n1 (c:=61) (d:=32) (by decide) (by decide) rfl (At.sp W)
  obtain ⟨q,v,E,b3,R⟩:=At.int hl hb.1.1 hb.1.2 (by exact rfl) (At.sp D)
  obtain ⟨O,v2⟩:=At.kw (w:=[116,111]) (by decide +kernel) (by exact rfl) (At.sp b3)
  obtain ⟨a,I,G,c3,c4⟩:=At.int hl hb.2.1 hb.2.2 (by exact rfl) (At.sp v2)
  obtain ⟨_,U,d1,S,P,T⟩:=V1e hl M hm c3
  have hp:=R1 p1
  have hq:=C7 o
  have V:=R1 t
  have hv:=R1 O
  refine ⟨U,by omega,S,At.nl P,G15 hl p1 (by decide),fun _=>?_⟩
  rw [I4]
  simp only [A1 l f,ob,D3 p1]
  rw [zn (by decide),zn (by decide),zp (by decide),w1 (by omega),Ho,A8 l f,o,zp rfl,ob]
  simp only [zqf,zqg,zt,zql]
  rw [A1 l f,ob,I2 t]
  simp only [zqm,zqf,zqa,zw]
  rw [w1 (by omega),R,ob]
  simp only [zqf,zqg,zt,zql]
  rw [A1 l f,ob,D3 O]
  simp only [zqm,zqf,zqa,zw]
  rw [w1 (by omega),c4,ob]
  simp only [zqf,zqa,zw]
  rw [T,ob,ob,H]
end
set_option maxHeartbeats 400000
set_option maxRecDepth 4000
structure Dy (d:B0)(nm:Str)(t:F0)(i:Int):Prop where
 e:d = .mk 4 nm t i z [] [] []
 n:W3 nm=true
 ft:Zg t
 bi : -1048576≤i∧i≤1048576
 bb:t.Kind=0→i=0∨i=1
inductive Ku:B0→Prop
 | plain (k nm t) (hk:k=0∨k=1∨k=2∨k=3) (hn:W3 nm=true) (ht:Zg t):Ku (.mk k nm t 0 z [] [] [])
 | var (d nm t i) (h:Dy d nm t i):Ku d
 | hat (nm t v) (hn:W3 nm=true) (ht:Zg t) (hv:Jz v):Ku (.mk 5 nm t 0 v [] [] [])
 | fn (nm t v ps vs bd) (hn:W3 nm=true) (ht:Zg t) (hv:Jz v) (hp:∀ x∈ps,∃ n t,Dy x n t 0) (hs:∀ x∈vs,∃ n t i,Dy x n t i) (hb:Do bd):Ku (.mk 6 nm t 0 v ps vs bd)
theorem C1g {α:Type}{l:List α}(h:((l.length:Int) == 0)=true):l=[]:=List.length_eq_zero_iff.1 (by have:=eq_of_beq h; omega)
theorem W1e {d:B0}(h:Hn d=true):d.Params=[]∧d.Vars=[]∧d.Body=[]:=by
 unfold Hn at h
 cases h1:((d.Params.length:Int) == 0) with
 | false=>rw [h1] at h; cases h
 | true=>
  rw [h1] at h
  cases h2:((d.Vars.length:Int) == 0) with
  | false=>rw [h2] at h; cases h
  | true=>rw [h2] at h; exact ⟨C1g h1,C1g h2,C1g h⟩
theorem D1w {d:B0}(h:Bo d=true):(-1048576≤d.Init∧d.Init≤1048576)∧(d.TypeV.Kind=0→d.Init=0∨d.Init=1):=by
 unfold Bo at h
 cases h1:E2 d.Init (-1048576) 1048576 with
 | false=>rw [h1] at h; cases h
 | true=>
  rw [h1] at h
  unfold E2 at h1
  simp at h1
  refine ⟨by omega,fun hk=>?_⟩
  rw [hk] at h
  unfold E2 at h
  simp at h
  omega
theorem D1g {d:B0}(hk:d.Kind=4)(a:Z6 d=true)(e:Pb d=true)(c:Uf d=true)(j:I1z d):Dy d d.Name d.TypeV d.Init:=by
 unfold Z6 at a
 unfold Pb at e
 unfold Uf at c
 simp only [zqi] at a e c
 have hv:=a.1.1.1.1.1.2
 have hp:=a.1.1.1.2
 rw [hk] at hv hp
 have b:d.Value=z:=Hd (show Bh d.Value=true from hv)
 obtain ⟨p1,f,g⟩:=W1e (show Hn d=true from hp)
 obtain ⟨h,i⟩:=D1w c.1.2
 refine ⟨?_,e.1.1.2,⟨⟨a.1.1.1.1.1.1.2,c.1.1.1,j.type⟩,e.1.1.1⟩,h,i⟩
 cases d
 simp only at hk b p1 f g
 subst hk; subst b; subst p1; subst f; subst g
 rfl
theorem O1t {l:List B0}(h:O1w l)(hn:B0.alls Pb l=true){d:B0}(y:d∈l):Ku d:=by
 have hf:=B0.alls_mem h.form y
 have hb:=B0.alls_mem h.numb y
 have hm:=B0.alls_mem hn y
 have j:=h.ok.mem y
 rw [B0.all_eq,zqi,zqi] at hf hb hm
 obtain ⟨D,K,L⟩:=hf
 obtain ⟨C,J,I⟩:=hb
 obtain ⟨G,np,nv⟩:=hm
 by_cases h4:d.Kind=4
 ·exact .var _ _ _ _ (D1g h4 D G C j)
 have e:=D
 have n1:=G
 have u:=C
 unfold Z6 at e
 unfold Pb at n1
 unfold Uf at u
 simp only [zqi] at e n1 u
 have H:=e.1.1.1.1.1.1.1
 have hi:=e.1.1.1.1.2
 have hp:=e.1.1.1.2
 have hv:=e.1.1.1.1.1.2
 have ht:Zg d.TypeV:=⟨⟨e.1.1.1.1.1.1.2,u.1.1.1,j.type⟩,n1.1.1.1⟩
 rw [zqn.2 h4] at hi
 have b:d.Init=0:=eq_of_beq hi
 have f:uV2 d.Kind=true→Jz d.Value:=fun B=>by
  rw [B] at hv
  exact ⟨⟨hv,u.1.1.2,j.value⟩,n1.1.2⟩
 by_cases h6:d.Kind=6
 ·have E:=f (by rw [h6]; rfl)
  have r:∀ x∈d.Params,∃ n t,Dy x n t 0:=fun x c=>by
   have q:=B0.alls_mem K c
   have m:=B0.alls_mem J c
   have k:=B0.alls_mem np c
   rw [B0.all_eq,zqi] at q m k
   have g:=List.all_eq_true.1 e.1.1.2 x c
   unfold pOk at g
   cases hk:x.Kind == 4 with
   | false=>rw [hk] at g; cases g
   | true=>
    rw [hk] at g
    have A:x.Init=0:=eq_of_beq (show (x.Init == 0)=true from g)
    have:=D1g (eq_of_beq hk) q.1 k.1 m.1 (j.params.mem c)
    rw [A] at this
    exact ⟨_,_,this⟩
  have o:∀ x∈d.Vars,∃ n t i,Dy x n t i:=fun x c=>by
   have q:=B0.alls_mem L c
   have m:=B0.alls_mem I c
   have k:=B0.alls_mem nv c
   rw [B0.all_eq,zqi] at q m k
   have g:=List.all_eq_true.1 e.1.2 x c
   exact ⟨_,_,_,D1g (eq_of_beq (show (x.Kind == 4)=true from g)) q.1 k.1 m.1 (j.vars.mem c)⟩
  have p:Do d.Body:=⟨⟨e.2,u.2,j.body⟩,n1.2⟩
  have a:=n1.1.1.2
  cases d
  simp only at h6 b ht E r o p a
  subst h6; subst b
  exact .fn _ _ _ _ _ _ a ht E r o p
 rw [zqn.2 h6] at hp
 obtain ⟨p1,v,w⟩:=W1e (show Hn d=true from hp)
 have a:=n1.1.1.2
 by_cases h5:d.Kind=5
 ·have F:=f (by rw [h5]; rfl)
  cases d
  simp only at h5 b ht F p1 v w a
  subst h5; subst b; subst p1; subst v; subst w
  exact .hat _ _ _ a ht F
 ·have B:uV2 d.Kind=false:=by
   unfold uV2
   rw [zqn.2 h5,zqn.2 h6]
   rfl
  rw [B] at hv
  have s:d.Value=z:=Hd (show Bh d.Value=true from hv)
  have hk:d.Kind=0∨d.Kind=1∨d.Kind=2∨d.Kind=3:=by
   unfold isK at H
   simp at H
   omega
  cases d
  simp only at hk b ht s p1 v w a
  subst b; subst s; subst p1; subst v; subst w
  exact .plain _ _ _ hk a ht
section
variable {C:Int}{l:List I0}(hl:Yf l)
include hl
theorem Z18 {nm:Str}{t:F0}(hn:W3 nm=true)(ht:Zg t){k:Nat}{r:Str}(hr:NN ld r)(a:At C l k (Kb nm t++r)) :
  ∃ k',k < k'∧k'≤l.length∧At C l k' r∧T3 l k 0=true∧O4 l k=some (.mk 4 nm t 0 z [] [] [],((k':Nat):Int),true):=by
 have c:=hl.1
 have e:Kb nm t++r=nm++(58::32::(t.text++r)):=by unfold Kb; simp
 rw [e] at a
 obtain ⟨p1,g,h⟩:=At.nm hn (by exact rfl) a
 obtain ⟨b,d⟩:=At.p1 (by decide) h
 obtain ⟨i,s1,s2,s3,f⟩:=I1q hl t ht (k+1+1) r hr (At.sp d)
 have hp:=C7 p1
 have j:=R1 b
 refine ⟨i,by omega,s2,s3,p1,?_⟩
 rw [O4,A8 l c,p1,zp rfl,ob]
 simp only [zqf,zqg,zt,zql]
 rw [A1 l c,ob,I2 b]
 simp only [zqm,zqf,zqa,zw]
 rw [w1 (by omega),f,ob,g]
theorem E1o {n:Int}(h1 : -1048576≤n)(h2:n≤1048576){k:Nat}{r:Str}(hr:NN ld r)(h:At C l k (Lib.itoa n++r)){w:Str}(b:([45] == w)=false):isT l k w=false:=by
 unfold Lib.itoa at h
 by_cases hn:n < 0
 ·rw [zp hn] at h
  obtain ⟨a,_⟩:=At.p1 (by decide) (show At C l k (45::(Lib.decDigits n.natAbs++r)) from h)
  rw [I2 a]
  exact b
 ·rw [zn hn] at h
  exact W12 (At.num (m:=n.toNat) (by omega) hr h).1 w
theorem P1t {d:B0}{nm:Str}{t:F0}{i:Int}(h:Dy d nm t i){k:Nat}{r:Str}(D:At C l k (V14 d++r)) :
  ∃ k',k < k'∧k'≤l.length∧At C l k' r∧isT l k [118,97,114]=true∧Ca l ((k+1:Nat):Int)=some (d,((k':Nat):Int),true):=by
 have o:=hl.1
 have H:=h.e
 subst H
 have e:V14 (.mk 4 nm t i z [] [] [])++r=[118,97,114]++(32::(Kb nm t++(Bw (.mk 4 nm t i z [] [] [])++(59::10::r)))):=by unfold V14; simp
 rw [e] at D
 obtain ⟨p1,L⟩:=At.kw (w:=[118,97,114]) (by decide +kernel) (by exact rfl) D
 have q:NN ld (Bw (.mk 4 nm t i z [] [] [])++(59::10::r)):=by
  unfold Bw
  cases (B0.mk 4 nm t i z [] [] []).Init != 0 with
  | true=>exact rfl
  | false=>exact rfl
 obtain ⟨b,R,S,f,T,G⟩:=Z18 hl h.n h.ft q (At.sp L)
 have p:∀ (j:Nat) (i':Int) (x:B0×Int×Bool),x.1 = .mk 4 nm t 0 z [] [] []→At C l j (59::10::r)→∃ k',j < k'∧k'≤l.length∧At C l k' r∧K6 l x i' j=some (.mk 4 nm t i' z [] [] [],((k':Nat):Int),true):=fun j i' x P I=>by
  obtain ⟨a,m⟩:=At.p1 (by decide) I
  have Q:=R1 a
  refine ⟨j+1,by omega,by omega,At.nl m,?_⟩
  unfold K6
  rw [A1 l o,ob,I2 a,P]
  simp only [zqm,zqf,zqa,zw]
  rw [w1 (by omega)]
 by_cases hi:i=0
 ·subst hi
  have s:Bw (.mk 4 nm t 0 z [] [] [])=[]:=rfl
  rw [s,List.nil_append] at f
  obtain ⟨k',K,y,f3,v⟩:=p b 0 (.mk 4 nm t 0 z [] [] [],((b:Nat):Int),true) rfl f
  refine ⟨k',by omega,y,f3,by rw [D3 p1]; rfl,?_⟩
  unfold Ca
  rw [G,ob]
  simp only [zqf,zqa,zw]
  obtain ⟨a,_⟩:=At.p1 (by decide) f
  rw [A1 l o,ob,I2 a,zn (by decide)]
  exact v
 ·have hz:((B0.mk 4 nm t i z [] [] []).Init != 0)=true:=by simpa using hi
  have s:Bw (.mk 4 nm t i z [] [] [])=[32,61,32]++(bif t.Kind == 0 then [116,114,117,101] else Lib.itoa i):=by
   unfold Bw
   rw [hz]
   rfl
  rw [s] at f
  have val:∃ g,b < g∧At C l g (59::10::r)∧isT l b [61]=true∧b < l.length∧Fi l ((b+1:Nat):Int)=some (i,((g:Nat):Int),true):=by
   cases hk:t.Kind == 0 with
   | true=>
    rw [hk] at f
    have A:i=1:=by rcases h.bb (eq_of_beq hk) with h | h <;> omega
    obtain ⟨a,m⟩:=At.n1 (c:=61) (d:=32) (t:=[116,114,117,101]++59::10::r) (by decide) (by decide) rfl (At.sp (show At C l b (32::61::32::([116,114,117,101]++59::10::r)) from f))
    obtain ⟨B,N⟩:=At.kw (w:=[116,114,117,101]) (by decide +kernel) (by exact rfl) (At.sp m)
    have hv:=R1 B
    refine ⟨b+1+1,by omega,N,by rw [I2 a]; rfl,R1 a,?_⟩
    unfold Fi
    rw [A1 l o,ob,D3 B,zp (by decide),w1 (by omega),A]
   | false=>
    rw [hk] at f
    have O:([32,61,32]++Lib.itoa i)++59::10::r=32::61::32::(Lib.itoa i++(59::10::r)):=by simp
    have u:At C l b (32::61::32::(Lib.itoa i++(59::10::r))):=by rw [← O]; exact f
    obtain ⟨a,m⟩:=At.n1 (c:=61) (d:=32) (by decide) (by decide) rfl (At.sp u)
    obtain ⟨g,J,E,b3,F⟩:=At.int hl h.bi.1 h.bi.2 (by exact rfl) (At.sp m)
    refine ⟨g,by omega,b3,by rw [I2 a]; rfl,R1 a,?_⟩
    unfold Fi
    rw [A1 l o,ob,E1o hl h.bi.1 h.bi.2 (by exact rfl) (At.sp m) (by decide),zn (by simp),A1 l o,ob,E1o hl h.bi.1 h.bi.2 (by exact rfl) (At.sp m) (by decide),zn (by simp),F,ob]
  obtain ⟨g,J,E,b3,F,M⟩:=val
  obtain ⟨k',K,y,f3,v⟩:=p g i (.mk 4 nm t 0 z [] [] [],((b:Nat):Int),true) rfl E
  refine ⟨k',by omega,y,f3,by rw [D3 p1]; rfl,?_⟩
  unfold Ca
  rw [G,ob]
  simp only [zqf,zqa,zw]
  rw [A1 l o,ob,b3,zp rfl,w1 (by omega),M,ob]
  simp only [zqf,zqa,zw]
  exact v
theorem F1o (f:Str×Int×Bool):∀ (ps:List B0),(∀ x∈ps,∃ n t,Dy x n t 0)→ps≠[]→∀ (out:List B0) (k:Nat) (r:Str),out.length≤k→At C l k (W14 true ps++41::r)→
  ∃ k',k < k'∧k'≤l.length∧At C l k' (41::r)∧T3 l k 0=true∧Y3 l f out k=O5 l f (out++ps) k'
 | [],_,h,_,_,_,_,_=>absurd rfl h
 | x::ps,s,_,out,k,r,B,b=>by
  have i:=hl.1
  have o:k≤l.length→decide ((out.length+1) * 257≤140737488355328)=true:=fun hk=>zqj (by unfold BB at i; omega)
  obtain ⟨nm,t,hv⟩:=s x zqp
  have a:=hv.e
  cases ps with
  | nil=>
   have e:W14 true [x]++41::r=Kb nm t++(41::r):=by rw [a]; simp [W14]
   rw [e] at b
   obtain ⟨g,p,q,d,j,m⟩:=Z18 hl hv.n hv.ft (by exact rfl) b
   obtain ⟨c,_⟩:=At.p1 (by decide) d
   refine ⟨g,p,q,d,j,?_⟩
   rw [Y3,m,ob]
   simp only [o (by omega),zqf,zqa,zw,zt]
   rw [A1 l i,ob,I2 c,← a]
   rfl
  | cons y ps=>
   have e:W14 true (x::y::ps)++41::r=Kb nm t++(44::32::(W14 true (y::ps)++41::r)):=by rw [a]; simp [W14]
   rw [e] at b
   obtain ⟨g,p,q,d,j,m⟩:=Z18 hl hv.n hv.ft (by exact rfl) b
   obtain ⟨c,u⟩:=At.p1 (by decide) d
   have A:=R1 c
   obtain ⟨k',E,v,b3,D,w⟩:=F1o f (y::ps) (fun z hz=>s z (zqq _ hz)) (List.cons_ne_nil _ _) (out++[x]) (g+1) r (by rw [zqc]; simp only [List.length_singleton]; omega) (At.sp u)
   refine ⟨k',by omega,v,b3,j,?_⟩
   rw [Y3,m,ob]
   simp only [o (by omega),zqf,zqa,zw,zt]
   rw [A1 l i,ob,I2 c,← a]
   simp only [zqm,zqf,zqa,zw]
   rw [w1 (by omega),w]
   simp
theorem I1y (b:Str×Int×Bool)(d:F0×Int×Bool)(ps:List B0):∀ (vs:List B0),(∀ x∈vs,∃ n t i,Dy x n t i)→∀ (out:List B0) (k:Nat) (r:Str),k≤l.length→out.length≤k→At C l k (Cw vs++r)→
  ∃ k',k≤k'∧k'≤l.length∧At C l k' r∧N5 l b d ps out k=N5 l b d ps (out++vs) k':=by
 intro vs
 induction vs with
 | nil=>
  intro _ out k r hk s a
  rw [show Cw []=[] from rfl,List.nil_append] at a
  exact ⟨k,zqr _,hk,a,by rw [List.append_nil]⟩
 | cons x vs p=>
  intro g out k r hk s a
  have f:=hl.1
  obtain ⟨nm,t,i,hv⟩:=g x zqp
  have e:Cw (x::vs)++r=[9]++(V14 x++(Cw vs++r)):=by simp [Cw]
  rw [e] at a
  obtain ⟨o,A,w,u,h,y⟩:=P1t hl hv (At.tabs (fun c hc=>by simpa using hc) a)
  obtain ⟨k',B,q,b3,v⟩:=p (fun z hz=>g z (zqq _ hz)) (out++[x]) o r w (by rw [zqc]; simp only [List.length_singleton]; omega) u
  have j:=P1 h
  have m:decide ((out.length+1) * 257≤140737488355328)=true:=zqj (by unfold BB at f; omega)
  refine ⟨k',by omega,q,b3,?_⟩
  rw [N5,A1 l f,ob,h,zp rfl,w1 (by omega),y,ob]
  simp only [m,zqf,zqa,zw,zt]
  rw [v]
  simp
theorem G1o {bd:List C0}(hb:Do bd){m:Str}(hm:Y18 m){k:Nat}{w r:Str}(j:kwB w=true)(d:C1m w=true)(hr:NN ld r)(hk:k≤l.length){u:Str}(f:Y18 u)(e:At C l k (C0.lines bd m++(u++(w++r)))) :
  ∃ k',k≤k'∧k' < l.length∧(∃ x,l[k']?=some x∧x.Kind=2∧x.Text=w)∧At C l (k'+1) r∧I5 l k=some (bd,((k':Nat):Int),true)∧((w == [118,97,114])=false→isT l k [118,97,114]=false):=by
 obtain ⟨k',p,v,i,q⟩:=V1i hl bd (fun s hs=>M21 (C:=C) hl s (hb.mem hs)) m k _ hm hk e
 obtain ⟨p1,g⟩:=At.kw j hr (At.tabs f i)
 have hp:=R1 p1
 obtain ⟨_,h⟩:=q (J20 p1 d)
 have hs:=h [] (Nat.zero_le _)
 refine ⟨k',p,hp,p1,g,by rw [I5,hs]; rfl,fun c=>?_⟩
 cases hT:isT l k [118,97,114] with
 | false=>rfl
 | true=>
  have a:beg l k=false:=by
   have n:=fun t ht=>V8 hT (t':=t) ht
   unfold beg
   rw [(X7 hT).1,n _ rfl,n _ rfl,n _ rfl,n _ rfl,n _ rfl,n _ rfl]
   rfl
  have o:Bf l (k:Int)=some (beg l k):=C15 hl k
  rw [E5,o,ob,a] at hs
  injection hs with hs
  injection hs with _ hs
  injection hs with hs _
  have b:k=k':=by omega
  subst b
  rw [D3 p1,c] at hT
  cases hT
theorem K20 {nm:Str}{t:F0}{v:A0}{ps vs:List B0}{bd:List C0}(hn:W3 nm=true)(ht:Zg t)(hv:Jz v)(hp:∀ x∈ps,∃ n t,Dy x n t 0)(hs:∀ x∈vs,∃ n t i,Dy x n t i)(hb:Do bd){k:Nat}{r:Str}
  (D:At C l k (W1p (.mk 6 nm t 0 v ps vs bd)++r)):∃ k',k < k'∧k'≤l.length∧At C l k' r∧isT l k [102,117,110,99]=true∧Ic l ((k+1:Nat):Int)=some (.mk 6 nm t 0 v ps vs bd,((k':Nat):Int),true):=by
 have b:=hl.1
 have e:W1p (.mk 6 nm t 0 v ps vs bd)++r=[102,117,110,99]++(32::(nm++(40::(W14 true ps++(41::58::32::(t.text++(32::123::10::(Cw vs++(C0.lines bd [9]++([9]++([114,101,116,117,114,110]++(32::(v.text++(59::10::125::10::r)))))))))))))):=by
  unfold W1p; simp
 rw [e] at D
 obtain ⟨p1,R⟩:=At.kw (w:=[102,117,110,99]) (by decide +kernel) (by exact rfl) D
 obtain ⟨G,P,V⟩:=At.nm hn (by exact rfl) (At.sp R)
 obtain ⟨E,p⟩:=At.p1 (by decide) V
 have hq:=C7 G
 have hu:=R1 E
 have F:∀ (g:Str×Int×Bool) (j:Nat),g.1=nm→At C l j (41::58::32::(t.text++(32::123::10::(Cw vs++(C0.lines bd [9]++([9]++([114,101,116,117,114,110]++(32::(v.text++(59::10::125::10::r))))))))))→
   ∃ k',j < k'∧k'≤l.length∧At C l k' r∧O5 l g ps j=some (.mk 6 nm t 0 v ps vs bd,((k':Nat):Int),true):=by
  intro g j q Q
  obtain ⟨f,d⟩:=At.p1 (by decide) Q
  obtain ⟨o,I⟩:=At.p1 (by decide) d
  obtain ⟨h,c1,c2,c3,c4⟩:=I1q hl t ht (j+1+1) _ (by exact rfl) (At.sp I)
  obtain ⟨B,O⟩:=At.p1 (by decide) (At.sp c3)
  have hd:=R1 B
  obtain ⟨k3,f1,L,f3,f4⟩:=I1y hl g (t,((h:Nat):Int),true) ps vs hs [] (h+1) _ (by omega) (Nat.zero_le _) (At.nl O)
  obtain ⟨U,g1,g2,N,Y,X,M⟩:=G1o hl hb (m:=[9]) (fun c hc=>by simpa using hc) (w:=[114,101,116,117,114,110]) (by decide +kernel) (by decide) (by exact rfl) L (u:=[9]) (fun c hc=>by simpa using hc) f3
  obtain ⟨W,h1,h2⟩:=(Vs (C:=C) hl v hv).rd (U+1) _ (by exact rfl) (At.sp Y)
  obtain ⟨z,Z⟩:=At.p1 (by decide) h2
  obtain ⟨H,T⟩:=At.p1 (by decide) (At.nl Z)
  have hi:=R1 z
  have hm:=R1 H
  have ha:=R1 f
  have J:=R1 o
  have:=h1.lt
  refine ⟨W+1+1,by omega,by omega,At.nl T,?_⟩
  unfold O5
  rw [D15 hl,I2 f,zp (by decide),I2 o,zp (by decide),ob]
  simp only [zqf,zqa,zw]
  rw [c4,ob]
  simp only [zqf,zqg,zt,zql]
  rw [A1 l b,ob,I2 B]
  simp only [zqm,zqf,zqa,zw]
  rw [w1 (by omega),f4,N5,A1 l b,ob,M (by decide),zn (by simp),X,ob]
  simp only [zqf,zqg,zt,zql]
  rw [A1 l b,ob,D3 N]
  simp only [zqm,zqf,zqa,zw]
  rw [w1 (by omega),h1.c (Yk z (by decide)),ob]
  simp only [zqf,zqa,zw]
  rw [D15 hl,I2 z,zp (by decide),I2 H,zp (by decide),ob,q]
  rfl
 have a:∀ y,(B1 l ((k+1+1+1:Nat):Int) [41]>>=fun S=>if (!S)=true then Y3 l (nm,((k+1+1:Nat):Int),true) [] ((k+1+1+1:Nat):Int) else O5 l (nm,((k+1+1:Nat):Int),true) [] ((k+1+1+1:Nat):Int))=some y→Ic l ((k+1:Nat):Int)=some y:=fun y q=>by
  unfold Ic
  rw [A8 l b,G,zp rfl,ob]
  simp only [zqf,zqg,zt,zql]
  rw [A1 l b,ob,I2 E]
  simp only [zqm,zqf,zqa,zw]
  rw [w1 (by omega),P]
  exact q
 cases ps with
 | nil=>
  obtain ⟨k',f,d,s,A⟩:=F (nm,((k+1+1:Nat):Int),true) (k+1+1+1) rfl p
  obtain ⟨v1,_⟩:=At.p1 (by decide) (show At C l (k+1+1+1) (41::_) from p)
  refine ⟨k',by omega,d,s,by rw [D3 p1]; rfl,a _ ?_⟩
  rw [A1 l b,ob,I2 v1]
  simp only [zqm,zqf,zqa,zw]
  exact A
 | cons x ps=>
  obtain ⟨h,o,I,b3,K,b5⟩:=F1o hl (nm,((k+1+1:Nat):Int),true) (x::ps) hp (List.cons_ne_nil _ _) [] (k+1+1+1) _ (Nat.zero_le _) p
  obtain ⟨k',f,d,s,A⟩:=F (nm,((k+1+1:Nat):Int),true) h rfl b3
  refine ⟨k',by omega,d,s,by rw [D3 p1]; rfl,a _ ?_⟩
  rw [A1 l b,ob,W18 K]
  simp only [zqg,zt]
  rw [b5,List.nil_append]
  exact A
theorem X1e {k:Nat}{t:Str}(h:isT l k t=true)(ht:(t == [116,121,112,101]||(t == [115,101,99,114,101,116]||(t == [112,117,98,108,105,99]||(t == [114,97,110,100,111,109]||(t == [118,97,114]||(t == [104,97,116,99,104]||t == [102,117,110,99]))))))=true):dcl l k=true:=by
 unfold dcl
 simp only [Bool.or_eq_true,beq_iff_eq] at ht ⊢
 rcases ht with rfl | rfl | rfl | rfl | rfl | rfl | rfl
 ·exact .inl h
 ·exact .inr (.inl h)
 ·exact .inr (.inr (.inl h))
 ·exact .inr (.inr (.inr (.inl h)))
 ·exact .inr (.inr (.inr (.inr (.inl h))))
 ·exact .inr (.inr (.inr (.inr (.inr (.inl h)))))
 ·exact .inr (.inr (.inr (.inr (.inr (.inr h)))))
theorem E1m {k:Nat}{t:Str}(h:∃ x,l[k]?=some x∧x.Kind=2∧x.Text=t):∃ x,idx l (k:Int)=some x∧x.Text=t:=by
 obtain ⟨x,a,_,b⟩:=h
 exact ⟨x,by rw [To]; exact a,b⟩
theorem J1y {d:B0}(h:Ku d){k:Nat}{r:Str}(j:At C l k (Rs d++r)):∃ k',k < k'∧k'≤l.length∧At C l k' r∧dcl l k=true∧L4 l k=some (d,((k':Nat):Int),true):=by
 have b:=hl.1
 cases h with
 | var d nm t i h=>
  have e:Rs d=V14 d:=by rw [h.e]; rfl
  rw [e] at j
  obtain ⟨k',E,F,p,g,n⟩:=P1t hl h j
  have I:=P1 g
  refine ⟨k',E,F,p,X1e hl g (by decide),?_⟩
  unfold L4
  rw [A1 l b,ob,g,zp rfl,w1 (by omega),n,ob]
 | fn nm t v ps vs bd hn ht hv hp hs hb=>
  obtain ⟨k',E,F,p,g,n⟩:=K20 hl hn ht hv hp hs hb j
  have I:=P1 g
  refine ⟨k',E,F,p,X1e hl g (by decide),?_⟩
  unfold L4
  rw [A1 l b,ob,V8 g (by decide),zn (by simp),A1 l b,ob,g,zp rfl,w1 (by omega),n,ob]
 | hat nm t v hn ht hv=>
  have e:Rs (.mk 5 nm t 0 v [] [] [])++r=[104,97,116,99,104]++(32::(Kb nm t++(32::61::32::(v.text++(59::10::r))))):=by
   show [104,97,116,99,104,32]++Kb nm t++[32,61,32]++v.text++[59,10]++r=_
   simp
  rw [e] at j
  obtain ⟨p1,B⟩:=At.kw (w:=[104,97,116,99,104]) (by decide +kernel) (by exact rfl) j
  have f:isT l k [104,97,116,99,104]=true:=by rw [D3 p1]; rfl
  obtain ⟨o,E,F,p,g,n⟩:=Z18 hl hn ht (by exact rfl) (At.sp B)
  obtain ⟨D,H⟩:=At.n1 (c:=61) (d:=32) (by decide) (by decide) rfl (At.sp p)
  obtain ⟨G,N,S⟩:=(Vs (C:=C) hl v hv).rd (o+1) _ (by exact rfl) (At.sp H)
  obtain ⟨m,A⟩:=At.p1 (by decide) S
  have hp:=R1 p1
  have P:=R1 D
  have O:=R1 m
  have:=N.lt
  obtain ⟨x,x1,x2⟩:=E1m hl p1
  refine ⟨G+1,by omega,by omega,At.nl A,X1e hl f (by decide),?_⟩
  unfold L4
  rw [A1 l b,ob,V8 f (by decide),zn (by simp),A1 l b,ob,V8 f (by decide),zn (by simp),A1 l b,ob,V8 f (by decide),zn (by simp),x1,ob,w1 (by omega),n,ob,x2]
  simp only [zqf,zqa,zw]
  rw [zn (by decide),zn (by decide),zn (by decide),A1 l b,ob,I2 D]
  simp only [zqm,zqf,zqa,zw]
  rw [w1 (by omega),N.c (Yk m (by decide)),ob]
  simp only [zqf,zqa,zw]
  unfold T2
  rw [A1 l b,ob,I2 m]
  simp only [zqm,zqf,zqa,zw]
  rw [w1 (by omega)]
 | plain kd nm t hk hn ht=>
  by_cases h0:kd=0
  ·subst h0
   have e:Rs (.mk 0 nm t 0 z [] [] [])++r=[116,121,112,101]++(32::(nm++(32::61::32::(t.text++(59::10::r))))):=by
    show [116,121,112,101,32]++nm++[32,61,32]++t.text++[59,10]++r=_
    simp
   rw [e] at j
   obtain ⟨p1,B⟩:=At.kw (w:=[116,121,112,101]) (by decide +kernel) (by exact rfl) j
   have f:isT l k [116,121,112,101]=true:=by rw [D3 p1]; rfl
   obtain ⟨D,H,Q⟩:=At.nm hn (by exact rfl) (At.sp B)
   obtain ⟨m,A⟩:=At.n1 (c:=61) (d:=32) (by decide) (by decide) rfl (At.sp Q)
   obtain ⟨G,W,X,c3,c4⟩:=I1q hl t ht (k+1+1+1) _ (by exact rfl) (At.sp A)
   obtain ⟨M,U⟩:=At.p1 (by decide) c3
   have hp:=R1 p1
   have P:=C7 D
   have O:=R1 m
   have hv:=R1 M
   refine ⟨G+1,by omega,by omega,At.nl U,X1e hl f (by decide),?_⟩
   unfold L4
   rw [A1 l b,ob,V8 f (by decide),zn (by simp),A1 l b,ob,V8 f (by decide),zn (by simp),A1 l b,ob,f,zp rfl,w1 (by omega),A8 l b,D,zp rfl,ob]
   simp only [zqf,zqg,zt,zql]
   rw [A1 l b,ob,I2 m]
   simp only [zqm,zqf,zqa,zw]
   rw [w1 (by omega),c4,ob]
   simp only [zqf,zqg,zt,zql]
   rw [A1 l b,ob,I2 M]
   simp only [zqm,zqf,zqa,zw]
   rw [w1 (by omega),H]
  ·have key:∀ (w:Str),kwB w=true→(w == [118,97,114])=false→(w == [102,117,110,99])=false→(w == [116,121,112,101])=false→Rs (.mk kd nm t 0 z [] [] [])=w++[32]++Kb nm t++[59,10]→
     (w == [116,121,112,101]||(w == [115,101,99,114,101,116]||(w == [112,117,98,108,105,99]||(w == [114,97,110,100,111,109]||(w == [118,97,114]||(w == [104,97,116,99,104]||w == [102,117,110,99]))))))=true→
     (∀ (y:B0×Int×Bool),(if (w == [115,101,99,114,101,116])=true then T2 l 1 y y.1.Value y.2.1 else if (w == [112,117,98,108,105,99])=true then T2 l 2 y y.1.Value y.2.1 else if (w == [114,97,110,100,111,109])=true then T2 l 3 y y.1.Value y.2.1 else none)=T2 l kd y y.1.Value y.2.1)→
     (w == [115,101,99,114,101,116]||w == [112,117,98,108,105,99]||w == [114,97,110,100,111,109])=true→
     ∃ k',k < k'∧k'≤l.length∧At C l k' r∧dcl l k=true∧L4 l k=some (.mk kd nm t 0 z [] [] [],((k':Nat):Int),true):=by
    intro w T J K L R V u s
    have e:Rs (.mk kd nm t 0 z [] [] [])++r=w++(32::(Kb nm t++(59::10::r))):=by rw [R]; simp
    rw [e] at j
    obtain ⟨p1,B⟩:=At.kw T (by exact rfl) j
    have f:isT l k w=true:=by rw [D3 p1]; simp
    obtain ⟨o,E,F,p,g,n⟩:=Z18 hl hn ht (by exact rfl) (At.sp B)
    obtain ⟨m,A⟩:=At.p1 (by decide) p
    have hp:=R1 p1
    have O:=R1 m
    obtain ⟨x,x1,x2⟩:=E1m hl p1
    refine ⟨o+1,by omega,by omega,At.nl A,X1e hl f V,?_⟩
    have q:T2 l kd (.mk 4 nm t 0 z [] [] [],((o:Nat):Int),true) z o=some (.mk kd nm t 0 z [] [] [],((o+1:Nat):Int),true):=by
     unfold T2
     rw [A1 l b,ob,I2 m]
     simp only [zqm,zqf,zqa,zw]
     rw [w1 (by omega)]
    have a:=u (.mk 4 nm t 0 z [] [] [],((o:Nat):Int),true)
    unfold L4
    rw [A1 l b,ob,V8 f J,zn (by simp),A1 l b,ob,V8 f K,zn (by simp),A1 l b,ob,V8 f L,zn (by simp),x1,ob,w1 (by omega),n,ob,x2]
    simp only [zqf,zqa,zw]
    cases s1:w == [115,101,99,114,101,116] with
    | true=>rw [s1] at a; simp only [zt] at a ⊢; rw [a]; exact q
    | false=>
     cases s2:w == [112,117,98,108,105,99] with
     | true=>rw [s1,s2] at a; simp only [zt,zqa,zw] at a ⊢; rw [a]; exact q
     | false=>
      cases s3:w == [114,97,110,100,111,109] with
      | true=>rw [s1,s2,s3] at a; simp only [zt,zqa,zw] at a ⊢; rw [a]; exact q
      | false=>rw [s1,s2,s3] at s; cases s
   rcases hk with hk | hk | hk | hk
   ·exact absurd hk h0
   ·subst hk; exact key [115,101,99,114,101,116] (by decide +kernel) (by decide) (by decide) (by decide) (by show [115,101,99,114,101,116,32]++Kb nm t++[59,10]=_; simp) (by decide) (fun y=>rfl) (by decide)
   ·subst hk; exact key [112,117,98,108,105,99] (by decide +kernel) (by decide) (by decide) (by decide) (by show [112,117,98,108,105,99,32]++Kb nm t++[59,10]=_; simp) (by decide) (fun y=>rfl) (by decide)
   ·subst hk; exact key [114,97,110,100,111,109] (by decide +kernel) (by decide) (by decide) (by decide) (by show [114,97,110,100,111,109,32]++Kb nm t++[59,10]=_; simp) (by decide) (fun y=>rfl) (by decide)
theorem K1y {bd:List C0}(hb:Do bd):∀ (a:List B0),(∀ d∈a,Ku d)→∀ (out:List B0) (k:Nat),k≤l.length→out.length≤k→At C l k (Co a++([98,101,103,105,110]++(10::(C0.lines bd [9]++([]++([101,110,100]++[10]))))))→
  ∃ k',k'≤l.length∧At C l k' []∧V6 l out k=some (.mk (out++a) bd,((k':Nat):Int),true):=by
 intro a
 induction a with
 | nil=>
  intro _ out k hk y b
  have f:=hl.1
  rw [show Co []=[] from rfl,List.nil_append] at b
  obtain ⟨p1,s⟩:=At.kw (w:=[98,101,103,105,110]) (by decide +kernel) (by exact rfl) b
  have hp:=R1 p1
  obtain ⟨D,z,n,g,i,j,_⟩:=G1o hl hb (m:=[9]) (fun c hc=>by simpa using hc) (w:=[101,110,100]) (by decide +kernel) (by decide) (r:=[10]) (by exact rfl) (k:=k+1) (by omega) (u:=[]) (fun c hc=>by cases hc) (At.nl s)
  refine ⟨D+1,by omega,At.nl i,?_⟩
  have A:dcl l k=false:=by
   unfold dcl
   simp only [D3 p1]
   decide
  rw [V6,E15 hl,ob,A,zn (by simp),A1 l f,ob,D3 p1]
  simp only [zqm,zqf,zqa,zw]
  rw [w1 (by omega),j,ob]
  simp only [zqf,zqg,zt,zql]
  rw [A1 l f,ob,D3 g]
  simp only [zqm,zqf,zqa,zw]
  rw [w1 (by omega),List.append_nil]
 | cons d a t=>
  intro h out k hk y b
  have f:=hl.1
  have e:Co (d::a)++([98,101,103,105,110]++(10::(C0.lines bd [9]++([]++([101,110,100]++[10])))))=Rs d++(Co a++([98,101,103,105,110]++(10::(C0.lines bd [9]++([]++([101,110,100]++[10])))))):=by simp [Co]
  rw [e] at b
  obtain ⟨q,z,n,g,i,j⟩:=J1y hl (h d zqp) b
  obtain ⟨k',p,v,b3⟩:=t (fun x B=>h x (zqq _ B)) (out++[d]) q n (by rw [zqc]; simp only [List.length_singleton]; omega) g
  have o:decide ((out.length+1) * 257≤140737488355328)=true:=zqj (by unfold BB at f; omega)
  refine ⟨k',p,v,?_⟩
  rw [V6,E15 hl,ob,i,zp rfl,j,ob]
  simp only [o,zqf,zqa,zw,zt]
  rw [b3]
  simp
end
theorem Q1t {p:S0}(h:F6 p=0):B0.alls Pb p.Decls=true∧C0.alls Ga p.Body=true:=by
 unfold F6 Gn at h
 cases hn:(B0.alls Pb p.Decls&&C0.alls Ga p.Body) with
 | true=>rw [zqi] at hn; exact hn
 | false=>
  rw [hn] at h
  cases hb:(bif decide ((Q12 p:Int) > 1024) then true else decide ((R12 p:Int) > 12)) <;> rw [hb] at h
  ·cases hf:(B0.alls Z6 p.Decls&&C0.alls G7 p.Body) <;> rw [hf] at h <;> cases h
  ·cases h
set_option maxRecDepth 100000
set_option maxHeartbeats 1000000
def tbl:List P0:=Rb.getD []
theorem R1t:Rb=some tbl:=rfl
theorem L1y:tbl.length=9:=rfl
def fi (nm:Str):List P0→Nat→Int
 | [],_=>-1
 | x::r,k=>if (x.name == nm)=true then (k:Int) else fi nm r (k+1)
theorem ixf (s:List P0)(hs:s.length≤BB)(nm:Str):∀ (r:List P0) (k:Nat),s.drop k=r→Y1 s nm k=some (fi nm r k)
 | [],k,h=>by
  rw [Y1,(D2 h).1]
  rfl
 | x::r,k,h=>by
  obtain ⟨h1,h2,a,b,_⟩:=C3 h
  rw [Y1,h1,zp rfl,h2,ob,Cn,ob,w1 (by omega),ixf s hs nm r (k+1) a,fi]
  split <;> rfl
theorem F1m (nm:Str):Z3 tbl nm=some (fi nm tbl 0):=
 ixf tbl (by rw [L1y]; decide) nm tbl 0 rfl
theorem H1o (nm:Str):∀ (r:List P0) (k:Nat),(∃ (i:Nat) (x:P0),r[i]?=some x∧x.name=nm∧fi nm r k=((k+i:Nat):Int))∨((∀ x∈r,x.name≠nm)∧fi nm r k = -1)
 | [],_=>.inr ⟨fun x b=>absurd b List.not_mem_nil,rfl⟩
 | x::r,k=>by
  rw [fi]
  by_cases h:x.name=nm
  ·exact .inl ⟨0,x,rfl,h,zp (by rw [h]; exact zqm nm)⟩
  ·rw [zn (by simpa using h)]
   rcases H1o nm r (k+1) with ⟨i,y,h1,h2,a⟩ | ⟨h1,h2⟩
   ·exact .inl ⟨i+1,y,h1,h2,by rw [a]; congr 1; omega⟩
   ·exact .inr ⟨fun y hy=>by rcases List.mem_cons.1 hy with rfl | hy; exact h; exact h1 y hy,h2⟩
def G1m:P0×Int:=(P0.mk [] 0 0 none [] none,3)
theorem M1y {nm:Str}{i:Nat}{x:P0}(d:tbl[i]?=some x)(hf:fi nm tbl 0=(i:Int))(a b:Int):Ad nm a b =
  if (bif (decide (a < x.low)) then true else (decide (a > x.high)))=true then some G1m
  else Vv x.second a>>=fun c=>if (bif (decide (b < c.1)) then true else (decide (b > c.2)))=true then some G1m else some (x,0):=by
 unfold Ad
 rw [R1t,ob,F1m,ob,hf,zn (by simp)]
 have:idx tbl (i:Int)=some x:=by
  unfold idx
  rw [zp (by omega)]
  simpa using d
 rw [this]
 rfl
theorem N1y {nm:Str}(h:fi nm tbl 0 = -1)(a b:Int):Ad nm a b=some (P0.mk [] 0 0 none [] none,7):=by
 unfold Ad
 rw [R1t,ob,F1m,ob,h]
 rfl
theorem fam (nm:Str):(∃ (i:Nat) (x:P0),i < 9∧tbl[i]?=some x∧x.name=nm∧fi nm tbl 0=(i:Int))∨((∀ x∈tbl,x.name≠nm)∧fi nm tbl 0 = -1):=by
 rcases H1o nm tbl 0 with ⟨i,x,h1,h2,a⟩ | h
 ·exact .inl ⟨i,x,(zqu.1 h1).1,h1,h2,by rw [a,Nat.zero_add]⟩
 ·exact .inr h
theorem L20 {nm x:Str}(h:x≠nm):(nm == x)=false:=by simpa using fun e=>h e.symm
theorem S1t {nm:Str}(h:∀ x∈tbl,x.name≠nm)(a b:Int):Ye nm a b=some 7:=by
 have e:=fun (i:Nat) x (c:tbl[i]?=some x)=>L20 (h x (List.mem_of_getElem? c))
 unfold Ye Ph
 rw [e 0 _ rfl,e 1 _ rfl,e 2 _ rfl,e 3 _ rfl,e 4 _ rfl,e 5 _ rfl,e 6 _ rfl,e 7 _ rfl,e 8 _ rfl]
 rfl
def Ka (a b lo hi l2 h2:Int):Bool:=bif (bif (bif (decide (a < lo)) then true else (decide (a > hi))) then true else (decide (b < l2))) then true else (decide (b > h2))
theorem U1w (a b lo hi c h2:Int):Z4 a b lo hi c h2=if Ka a b lo hi c h2=true then some 3 else some 0:=rfl
theorem J1c {nm:Str}{i:Nat}{x:P0}(d:tbl[i]?=some x)(hf:fi nm tbl 0=(i:Int))(a b:Int){c h2:Int}(hs:Vv x.second a=some (c,h2)) :
  Ad nm a b=if Ka a b x.low x.high c h2=true then some G1m else some (x,0):=by
 rw [M1y d hf,hs,ob]
 unfold Ka
 cases decide (a < x.low) <;> cases decide (a > x.high) <;> cases decide (b < c) <;> cases decide (b > h2) <;> rfl
theorem X1h {nm:Str}{i:Nat}{x:P0}(d:tbl[i]?=some x)(hf:fi nm tbl 0=(i:Int))(a b:Int){c h2 n m:Int}(hs:Vv x.second a=some (c,h2))
  (hk:Ka a b x.low x.high c h2=false→R1i x.known a b=some (n,m)) :
  Jh nm a b=if Ka a b x.low x.high c h2=true then some (0,0,3) else some (n,m,0):=by
 unfold Jh
 rw [J1c d hf a b hs]
 cases ho:Ka a b x.low x.high c h2 with
 | true=>rfl
 | false=>
  rw [zn (by decide),zn (by decide),ob,zn (show ¬((0:Int) != 0)=true by decide),hk ho]
  rfl
def names (l:List P0):List Str:=l.map (·.name)
theorem E1w {nm:Str}{i:Nat}{x:P0}(d:tbl[i]?=some x)(hf:fi nm tbl 0=(i:Int))(a b:Int){c h2:Int}(hs:Vv x.second a=some (c,h2))(e:Ka a b x.low x.high c h2=true) :
  K3 nm a b=some (S0.mk [] [],3):=by
 unfold K3
 rw [J1c d hf a b hs,e]
 rfl
theorem O1y {nm:Str}(h:fi nm tbl 0 = -1)(a b:Int):K3 nm a b=some (S0.mk [] [],7):=by
 unfold K3
 rw [N1y h]
 rfl
section
variable {s o n:Str}
theorem H1m {i:Nat}(b:o≠[])(a:o≠n)(h:Lib.index s o=i):Lib.replaceAll s o n=s.take i++n++Lib.replaceAll (s.drop (i+o.length)) o n:=by
 have hb:(o == n)=false:=by simpa using a
 unfold Lib.replaceAll Lib.replace
 rw [hb,zn (by decide),zn (by decide)]
 unfold Lib.replaceNum
 rw [zp (.inl (by decide)),zp (.inl (by decide)),Lib.count_hit b h,Nat.add_comm,Lib.replaceK_hit _ _ _ _ _ h]
theorem E1g (h:Lib.index s o = -1):Lib.replaceAll s o n=s:=by
 unfold Lib.replaceAll Lib.replace
 split
 ·rfl
 ·unfold Lib.replaceNum
  rw [zp (.inl (by decide)),Lib.count_miss h]
  rfl
theorem M20 (a:o≠[]):Lib.replaceAll [] o n=[]:=E1g (by
 cases o with
 | nil=>exact absurd rfl a
 | cons _ _=>rfl)
theorem N21 (c:o≠[])(a:o≠n)(h:o.isPrefixOf s=true):Lib.replaceAll s o n=n++Lib.replaceAll (s.drop o.length) o n:=by
 have:Lib.index s o=((0:Nat):Int):=by
  cases s with
  | nil=>
   cases o with
   | nil=>exact absurd rfl c
   | cons _ _=>cases h
  | cons b l=>rw [Lib.index,zp h]; rfl
 rw [H1m c a this,Nat.zero_add]
 rfl
theorem J1q {b:UInt8}{l:Str}(c:o≠[])(a:o≠n)(h:o.isPrefixOf (b::l)=false):Lib.replaceAll (b::l) o n=b::Lib.replaceAll l o n:=by
 have e:Lib.index (b::l) o=if (Lib.index l o == -1)=true then -1 else Lib.index l o+1:=by rw [Lib.index,h,zn (by decide)]
 by_cases hm:Lib.index l o = -1
 ·rw [E1g (s:=b::l) (by rw [e,hm]; rfl),E1g hm]
 ·obtain ⟨i,hi⟩:∃ i:Nat,Lib.index l o=i:=⟨(Lib.index l o).toNat,by have:=Lib.index_ge l o; omega⟩
  have d:Lib.index (b::l) o=((i+1:Nat):Int):=by rw [e,zn (by simpa using hm),hi]; rfl
  rw [H1m c a d,H1m c a hi,show i+1+o.length=(i+o.length)+1 by omega]
  rfl
end
theorem I1o {o n:Str}{f:UInt8}(a:f::o≠n):∀ (w r:Str),(∀ c∈w,c≠f)→Lib.replaceAll (w++r) (f::o) n=w++Lib.replaceAll r (f::o) n
 | [],_,_=>rfl
 | c::w,r,h=>by
  rw [List.cons_append,J1q (by simp) a (by
   have:(f == c)=false:=by simpa using fun e=>h c zqp e.symm
   simp [List.isPrefixOf,this]),I1o a w r (fun c hc=>h c (zqq _ hc))]
  rfl
inductive Pc where
 | c (b:UInt8)
 | v (i:Nat)
def N2 (en:Nat→Str):List Pc→Str
 | []=>[]
 | .c b::r=>b::N2 en r
 | .v i::r=>en i++N2 en r
def L (s:Str):List Pc:=s.map .c
theorem Ge (en:Nat→Str):∀ p q:List Pc,N2 en (p++q)=N2 en p++N2 en q
 | [],_=>rfl
 | .c b::r,q=>by simp [N2,Ge en r q]
 | .v i::r,q=>by simp [N2,Ge en r q]
theorem Lj (en:Nat→Str):∀ s:Str,N2 en (L s)=s
 | []=>rfl
 | b::r=>by
  have:=Lj en r
  unfold L at this ⊢
  simp [N2,this]
theorem Xm (en:Nat→Str)(i:Nat):N2 en [.v i]=en i:=by simp [N2]
def On (x:UInt8)(j:Nat):Nat→List Pc→Option (List Pc)
 | 0,_=>none
 | _+1,[]=>some []
 | n+1,.v i::r=>(On x j n r).map (.v i :: ·)
 | n+1,.c b::r=>bif b == 60 then
   (match r with
   | .c y::r2=>bif y == x then
     (match r2 with
     | .c z::r'=>bif z == 62 then (On x j n r').map (.v j :: ·) else (On x j n r).map (.c b :: ·)
     | _=>none)
    else (On x j n r).map (.c b :: ·)
   | _=>none)
  else (On x j n r).map (.c b :: ·)
theorem Kg {α β:Type}{o:Option α}{f:α→β}{r:β}(h:o.map f=some r):∃ a,o=some a∧f a=r:=Option.map_eq_some_iff.1 h
theorem H22 {x b:UInt8}{r:Str}(h:b≠60):([60,x,62]:Str).isPrefixOf (b::r)=false:=by
 have:((60:UInt8) == b)=false:=beq_false_of_ne fun e=>h e.symm
 rw [List.isPrefixOf,this,Bool.false_and]
theorem P1y (en:Nat→Str)(hs:∀ i,∀ c∈en i,c≠60)(x:UInt8)(j:Nat):∀ (k:Nat) (ps f:List Pc),On x j k ps=some f→Lib.replaceAll (N2 en ps) [60,x,62] (en j)=N2 en f:=by
 have d:([60,x,62]:Str)≠en j:=fun e=>hs j 60 (by rw [← e]; exact zqp) rfl
 intro k
 induction k with
 | zero=>intro ps f h; cases h
 | succ k g=>
  intro ps f h
  match ps with
  | []=>cases h; exact M20 (by simp)
  | .v i::r=>
   rw [On] at h
   obtain ⟨q,a,rfl⟩:=Kg h
   show Lib.replaceAll (en i++N2 en r) _ _=en i++N2 en q
   rw [I1o d _ _ (hs i),g r q a]
  | .c b::r=>
   unfold On at h
   simp only at h
   by_cases hb:b=60
   ·subst hb
    rw [zqm,zqk] at h
    split at h
    ·rename_i y l
     have p:∀ q,On x j k (.c y::l)=some q→([60,x,62]:Str).isPrefixOf (60::N2 en (.c y::l))=false→Lib.replaceAll (N2 en (.c 60 :: .c y::l)) [60,x,62] (en j)=N2 en (.c 60::q):=fun q a hp=>by
      show Lib.replaceAll (60::N2 en (.c y::l)) _ _=60::N2 en q
      rw [J1q (by simp) d hp,g _ q a]
     cases hy:(y == x) with
     | false=>
      rw [hy,zql] at h
      obtain ⟨q,a,rfl⟩:=Kg h
      refine p q a ?_
      have o:(x == y)=false:=beq_false_of_ne fun e=>by subst e; rw [zqm] at hy; cases hy
      show (((60:UInt8) == 60)&&((x == y)&&_))=false
      rw [o,Bool.false_and,Bool.and_false]
     | true=>
      rw [hy,zqk] at h
      obtain rfl:=eq_of_beq hy
      split at h
      ·rename_i z n
       cases hz:(z == 62) with
       | true=>
        rw [hz,zqk] at h
        obtain ⟨q,a,rfl⟩:=Kg h
        obtain rfl:=eq_of_beq hz
        show Lib.replaceAll (60::y::62::N2 en n) _ _=en j++N2 en q
        rw [N21 (by simp) d (by simp [List.isPrefixOf])]
        show en j++Lib.replaceAll (N2 en n) _ _=en j++N2 en q
        rw [g n q a]
       | false=>
        rw [hz,zql] at h
        obtain ⟨q,a,rfl⟩:=Kg h
        refine p q a ?_
        have m:((62:UInt8) == z)=false:=beq_false_of_ne fun e=>by subst e; cases hz
        show (((60:UInt8) == 60)&&((y == y)&&(((62:UInt8) == z)&&true)))=false
        rw [m,Bool.false_and,Bool.and_false,Bool.and_false]
      ·cases h
    ·cases h
   ·rw [beq_false_of_ne hb,zql] at h
    obtain ⟨q,a,rfl⟩:=Kg h
    show Lib.replaceAll (b::N2 en r) _ _=b::N2 en q
    rw [J1q (by simp) d (H22 hb),g r q a]
inductive Tx where
 | l (s:Str)
 | v (i:Nat)
def Tx.val (en:Nat→Str):Tx→Str
 | .l s=>s
 | .v i=>en i
def Xh:List Pc→Str×List Pc
 | .c b::r=>bif ld b then (b::(Xh r).1,(Xh r).2) else ([],.c b::r)
 | r=>([],r)
def nov:List Pc→Bool
 | .v _::_=>false
 | .c b::_=>!ld b
 | []=>true
def T5:Nat→List Pc→Option (List (Int×Tx))
 | 0,_=>none
 | _+1,[]=>some []
 | n+1,.v i::r=>bif nov r then (T5 n r).map ((1,.v i) :: ·) else none
 | n+1,.c b::r=>
  bif b == 32||b == 9||b == 10 then T5 n r
  else bif ld b then
   (match Xh (.c b::r) with
   | (w,r')=>bif nov r'&&(nxt w 0).2 == 0&&(nxt w 0).1.Text == w then (T5 n r').map (((nxt w 0).1.Kind,.l w) :: ·) else none)
  else match r with
   | .c d::r'=>bif Gi [b,d] then (T5 n r').map ((3,.l [b,d]) :: ·) else bif Ml b then (T5 n r).map ((3,.l [b]) :: ·) else none
   | _=>bif p1B b then (T5 n r).map ((3,.l [b]) :: ·) else none
def Tkn (r:Str)(ts:List (Int×Str)):Prop:=txk r=(ts,0)
theorem Tkn.tok {w r:Str}{kd:Int}{d:List (Int×Str)}(b:w≠[])(hn:nxt (w++r) 0=(I0.mk kd w 0,0))(h:Tkn r d):Tkn (w++r) ((kd,w)::d):=by
 obtain ⟨c,t,rfl⟩:∃ c t,w=c::t:=by
  cases w with
  | nil=>exact absurd rfl b
  | cons c t=>exact ⟨c,t,rfl⟩
 have hs:skp false (c::t++r)=0:=W1l (k:=0) (t:=t++r) (by rw [← List.cons_append,hn]) (t++r)
 have e:(c::t++r).drop (skp false (c::t++r))=c::(t++r):=by rw [hs]; rfl
 have a:nxt (c::(t++r)) 0=(I0.mk kd (c::t) 0,0):=hn
 unfold Tkn at h ⊢
 rw [Cy e (by rw [a]),a]
 simp only
 rw [← List.cons_append,List.drop_left,h]
 rfl
theorem K1c:∀ {w:Str},(∀ c∈w,ld c=true)→D6 w=w.length
 | [],_=>rfl
 | c::w,h=>by
  simp only [D6,h c zqp,zqk,zqd]
  rw [K1c fun c hc=>h c (zqq _ hc)]
theorem T1t {w r:Str}(h:∀ c∈w,ld c=true)(a:w≠[])(hr:NN ld r):nxt (w++r) 0=nxt w 0:=by
 have h1:=Lz h hr
 have h2:(w++r).take w.length=w:=List.take_left
 have d:(w++r).getD 0 0=w.getD 0 0:=by
  cases w with
  | nil=>exact absurd rfl a
  | cons c t=>rfl
 have b:ld (w.getD 0 0)=true:=by
  cases w with
  | nil=>exact absurd rfl a
  | cons c t=>exact h c zqp
 unfold nxt
 rw [h1,h2,d,K1c h,List.take_length]
 unfold ld at b
 cases hl:M6 (w.getD 0 0).toNat with
 | true=>simp only [zt]
 | false=>
  rw [hl] at b
  simp only [zql] at b
  rw [b]
  simp only [zt]
theorem J1o (en:Nat→Str):∀ (ps:List Pc),N2 en ps=(Xh ps).1++N2 en (Xh ps).2∧∀ c∈(Xh ps).1,ld c=true
 | []=>⟨rfl,fun c hc=>absurd hc List.not_mem_nil⟩
 | .v i::r=>⟨rfl,fun c hc=>absurd hc List.not_mem_nil⟩
 | .c b::r=>by
  rw [Xh]
  cases h:ld b with
  | false=>exact ⟨rfl,fun c hc=>absurd hc List.not_mem_nil⟩
  | true=>
   obtain ⟨h1,h2⟩:=J1o en r
   refine ⟨?_,fun c hc=>?_⟩
   ·show b::N2 en r=b::((Xh r).1++N2 en (Xh r).2)
    rw [← h1]
   ·rcases List.mem_cons.1 hc with rfl | hc
    ·exact h
    ·exact h2 c hc
theorem U1t (en:Nat→Str){r:List Pc}(h:nov r=true):NN ld (N2 en r):=by
 match r with
 | []=>trivial
 | .v _::_=>cases h
 | .c b::r=>
  show ld b=false
  cases hb:ld b with
  | false=>rfl
  | true=>rw [nov,hb] at h; cases h
def Id:List Pc→List Nat
 | []=>[]
 | .c _::r=>Id r
 | .v i::r=>i::Id r
theorem Y1h:∀ ps:List Pc,Id (Xh ps).2=Id ps
 | []=>rfl
 | .v i::r=>rfl
 | .c b::r=>by
  rw [Xh]
  cases ld b with
  | false=>rfl
  | true=>exact Y1h r
def H15 (s:Str):Prop:=∃ m:Nat,m≤1048576∧s=Lib.decDigits m
theorem Q1y {s r:Str}{d:List (Int×Str)}(hn:H15 s)(hr:NN ld r)(h:Tkn r d):Tkn (s++r) ((1,s)::d):=by
 obtain ⟨m,hm,rfl⟩:=hn
 obtain ⟨j,e,b⟩:=Gl m
 obtain ⟨n1,k⟩:=L1t hm
 have a:∀ c∈Lib.decDigits m,ld c=true:=fun c hc=>by
  have:J6 c.toNat=true:=e c hc
  unfold ld
  rw [this]
  cases M6 c.toNat <;> rfl
 refine Tkn.tok b ?_ h
 rw [T1t a b hr]
 have i:∃ c,(Lib.decDigits m).getD 0 0=c∧J6 c.toNat=true:=by
  cases hd:Lib.decDigits m with
  | nil=>exact absurd hd b
  | cons c t=>exact ⟨c,rfl,e c (by rw [hd]; exact zqp)⟩
 obtain ⟨c,g,f⟩:=i
 unfold nxt
 rw [g,M1t f,zn (by simp),f,zp rfl,K1c a,List.take_length,n1]
theorem R1y {b:UInt8}(h:ld b=false):M6 b.toNat=false∧J6 b.toNat=false:=by
 unfold ld at h
 cases hl:M6 b.toNat with
 | true=>rw [hl] at h; cases h
 | false=>rw [hl] at h; exact ⟨rfl,h⟩
theorem Jn (en:Nat→Str):∀ (n:Nat) (ps:List Pc) (g:List (Int×Tx)),T5 n ps=some g→(∀ i∈Id ps,H15 (en i))→Tkn (N2 en ps) (g.map fun p=>(p.1,p.2.val en))
 | 0,_,_,h,_=>by cases h
 | n+1,[],g,h,_=>by cases h; exact V12 rfl
 | n+1,.v i::r,g,h,hn=>by
  rw [T5] at h
  cases hv:nov r with
  | false=>rw [hv] at h; cases h
  | true=>
   rw [hv] at h
   obtain ⟨q,f,rfl⟩:=Kg h
   exact Q1y (hn i zqp) (U1t en hv) (Jn en n r q f fun j m=>hn j (zqq _ m))
 | n+1,.c b::r,g,h,hn=>by
  unfold T5 at h
  simp only at h
  cases hw:(b == 32||b == 9||b == 10) with
  | true=>
   rw [hw] at h
   have:=Jn en n r g h hn
   simp only [Bool.or_eq_true,beq_iff_eq] at hw
   unfold Tkn at this ⊢
   rw [← this]
   exact W1h (by rcases hw with (h | h) | h <;> simp [h]) _
  | false=>
   rw [hw] at h
   simp only [zql] at h
   cases hl:ld b with
   | true=>
    rw [hl] at h
    simp only [zqk] at h
    obtain ⟨s1,s2⟩:=J1o en (.c b::r)
    have s3:=Y1h (.c b::r)
    have k:(Xh (.c b::r)).1≠[]:=by rw [Xh,hl]; simp
    generalize Xh (.c b::r)=z at h s1 s2 s3 k
    obtain ⟨w,a⟩:=z
    simp only at h s1 s2 s3 k
    cases hc:(nov a&&(nxt w 0).2 == 0&&(nxt w 0).1.Text == w) with
    | false=>rw [hc] at h; cases h
    | true=>
     rw [hc] at h
     obtain ⟨q,f,rfl⟩:=Kg h
     simp only [zqi,beq_iff_eq] at hc
     obtain ⟨⟨y,A⟩,c3⟩:=hc
     rw [s1]
     have e:nxt w 0=(I0.mk (nxt w 0).1.Kind w 0,0):=by
      have ha:=G1t w 0 0
      rw [c3,A] at ha
      exact ha
     refine Tkn.tok k ?_ (Jn en n a q f fun j m=>hn j (by rw [show Id (.c b::r)=Id a from s3.symm]; exact m))
     rw [T1t s2 k (U1t en y)]
     exact e
   | false=>
    rw [hl] at h
    simp only [zql] at h
    obtain ⟨u,o⟩:=R1y hl
    have one:∀ x:Str,Gi ((b::x).take 2)=false→Ml b=true→nxt (b::x) 0=(I0.mk 3 [b] 0,0):=fun x h1 h2=>by
     unfold nxt
     rw [show (b::x).getD 0 0=b from rfl,u,o,zn (by decide),zn (by decide),h1,Bool.and_false,zn (by decide),h2,zp rfl]
    have other:(bif p1B b then (T5 n r).map ((3,.l [b]) :: ·) else none)=some g→Tkn (N2 en (.c b::r)) (g.map fun p=>(p.1,p.2.val en)):=fun h=>by
     cases hp:p1B b with
     | false=>rw [hp] at h; cases h
     | true=>
      rw [hp] at h
      obtain ⟨q,f,rfl⟩:=Kg h
      unfold p1B at hp
      simp only [zqi,Bool.not_eq_true'] at hp
      obtain ⟨⟨⟨p1,B⟩,C⟩,s⟩:=hp
      refine Tkn.tok (w:=[b]) (by simp) (one _ ?_ p1) (Jn en n r q f hn)
      cases hf:N2 en r with
      | nil=>exact T19 s []
      | cons d t=>exact T19 s [d]
    split at h
    case h_2=>exact other h
    ·rename_i d a
     cases h2:Gi [b,d] with
     | true=>
      rw [h2] at h
      obtain ⟨q,f,rfl⟩:=Kg h
      refine Tkn.tok (w:=[b,d]) (by simp) ?_ (Jn en n a q f hn)
      show nxt (b::d::N2 en a) 0=_
      unfold nxt
      rw [show (b::d::N2 en a).getD 0 0=b from rfl,u,o,zn (by decide),zn (by decide),show (b::d::N2 en a).take 2=[b,d] from rfl,h2,Bool.and_true,zp (zqj (by simp only [zqd]; omega))]
     | false=>
      rw [h2] at h
      simp only [zql] at h
      cases h3:Ml b with
      | false=>rw [h3] at h; cases h
      | true=>
       rw [h3] at h
       obtain ⟨q,f,rfl⟩:=Kg h
       exact Tkn.tok (w:=[b]) (by simp) (one (d::N2 en a) h2 h3) (Jn en n (.c d::a) q f hn)
theorem Z1h {p:S0}{s:Str}{c:List (Int×Str)}(u:OkP p)(hs:B0.bulks p.Decls+C0.bulks p.Body≤1048576)(hc:F6 p=0)(m:s.length≤8192)(k:Tkn s c)(hp:Tkn (Wh p) c):Dd s=some (p,0,0):=by
 obtain ⟨r,x,_⟩:=N1v u hs hc
 obtain ⟨w,q⟩:=Q1t hc
 have hb:Do p.Body:=⟨x,q⟩
 have g:∀ d∈p.Decls,Ku d:=fun d g=>O1t r w g
 have e:Wh p=Co p.Decls++([98,101,103,105,110]++(10::(C0.lines p.Body [9]++([]++([101,110,100]++[10]))))):=by unfold Wh; simp
 have b:txk s=(c,0):=k
 have a:txk (Wh p)=(c,0):=hp
 obtain ⟨h,o,_⟩:=H1y m (by rw [b])
 obtain ⟨t1,_⟩:=H1c h
 have ha:At 0 (Ha s).1 0 (Wh p):=⟨by rw [a,← o,b],by rw [a]⟩
 obtain ⟨B,y,t,l⟩:=K1y t1 hb p.Decls g [] 0 (Nat.zero_le _) (Nat.zero_le _) (by rw [← e]; exact ha)
 obtain ⟨_,z⟩:=H20 t
 obtain ⟨v,j,ok,i,A,n,_⟩:=H1t s h
 unfold Mb at i
 have f:=i.symm.trans l
 injection f with f
 injection f with m6 m7
 injection m7 with m7 m8
 have hv:v=p:=by rw [m6,List.nil_append]
 subst hv; subst m8
 rw [n]
 unfold G1q
 have:(j == (Ha s).1.length)=true:=by rw [beq_iff_eq]; omega
 rw [this,Bool.true_and,zp rfl,hc]
 rfl
def enl (a b:Int)(ls:Str)(bs:List Int):List Str:=[Lib.itoa (a - 1),Lib.itoa (b - 1),Lib.itoa (a * b),Lib.itoa a,Lib.itoa b,ls,Lib.itoa 0,Lib.itoa 1,Lib.itoa 2,Lib.itoa 12,Lib.itoa 13]++bs.map Lib.itoa
def en (a b:Int)(ls:Str)(bs:List Int)(i:Nat):Str:=(enl a b ls bs).getD i []
structure Par (a b:Int)(ls:Str)(bs:List Int):Prop where
 ha:1≤a∧a≤64
 hb:0≤b∧b≤64
 hab:0≤a * b∧a * b≤4096
 len:ls.length≤200
 hls:∀ c∈ls,c≠60
 hbs:∀ n∈bs,0≤n∧n≤1000
theorem V1t {m:Nat}:∀ c∈Lib.decDigits m,c≠60:=fun c hc e=>by
 have:J6 c.toNat=true:=(Gl m).2.1 c hc
 subst e
 exact absurd this (by decide)
theorem F1g (n:Int):∀ c∈Lib.itoa n,c≠60:=fun c hc=>by
 unfold Lib.itoa at hc
 split at hc
 ·rcases List.mem_cons.1 hc with rfl | hc
  ·decide
  ·exact V1t c hc
 ·exact V1t c hc
section
variable {a b:Int}{ls:Str}{bs:List Int}
theorem Par.mem (h:Par a b ls bs){s:Str}(hs:s∈enl a b ls bs):s.length≤200∧∀ c∈s,c≠60:=by
 have num:∀ n:Int,-10000≤n→n≤10000→(Lib.itoa n).length≤200∧∀ c∈Lib.itoa n,c≠60:=fun n h1 h2=>⟨by have:=Jw (n:=n) (by unfold E3; omega); omega,F1g n⟩
 have:=h.ha; have:=h.hb; have:=h.hab
 unfold enl at hs
 rcases List.mem_append.1 hs with hs | hs
 ·simp only [List.mem_cons,List.not_mem_nil,or_false] at hs
  rcases hs with rfl | rfl | rfl | rfl | rfl | rfl | rfl | rfl | rfl | rfl | rfl
  all_goals first
   | exact ⟨h.len,h.hls⟩
   | exact num _ (by omega) (by omega)
 ·obtain ⟨n,hn,rfl⟩:=List.mem_map.1 hs
  have:=h.hbs n hn
  exact num n (by omega) (by omega)
theorem Par.en (h:Par a b ls bs)(i:Nat):(en a b ls bs i).length≤200∧∀ c∈YtbaijagfgceilaaGreatDoor.en a b ls bs i,c≠60:=by
 unfold YtbaijagfgceilaaGreatDoor.en
 cases hi:(enl a b ls bs)[i]? with
 | none=>rw [List.getD_eq_getElem?_getD,hi]; exact ⟨Nat.zero_le _,fun c hc=>absurd hc List.not_mem_nil⟩
 | some s=>rw [List.getD_eq_getElem?_getD,hi]; exact h.mem (List.mem_of_getElem? hi)
end
theorem I15 (e:Nat→Str)(h:∀ i,(e i).length≤200):∀ ps:List Pc,(N2 e ps).length≤200 * ps.length
 | []=>zqr _
 | .c b::r=>by have:=I15 e h r; simp only [N2,zqd]; omega
 | .v i::r=>by have:=I15 e h r; have:=h i; simp only [N2,zqd,zqc]; omega
theorem X12 {e:Nat→Str}(h:∀ i,(e i).length≤200∧∀ c∈e i,c≠60){x:UInt8}{j:Nat}{p q:List Pc}{k:Nat}(hr:On x j k p=some q)(hp:Nat.ble p.length 2000=true)(a:Nat.ble q.length 2000=true) :
  Eb (N2 e p) [60,x,62] (e j)=some (N2 e q):=by
 have hp:=Nat.le_of_ble_eq_true hp
 have a:=Nat.le_of_ble_eq_true a
 have d:=I15 e (fun i=>(h i).1) p
 have g:=I15 e (fun i=>(h i).1) q
 have f:=(h j).1
 have b:=P1y e (fun i=>(h i).2) x j k p q hr
 unfold Eb
 rw [b,zp (zqj ⟨by omega,by simp,by omega,by omega⟩)]
def Mj (p:List Pc):Option (List Pc):=
 match On 65 0 2000 p with
 | some p1=>match On 66 1 2000 p1 with
  | some p2=>match On 84 2 2000 p2 with
   | some p3=>match On 97 3 2000 p3 with
    | some p4=>match On 98 4 2000 p4 with
     | some p5=>match On 78 5 2000 p5 with
      | some p6=>bif Nat.ble p.length 2000&&Nat.ble p1.length 2000&&Nat.ble p2.length 2000&&Nat.ble p3.length 2000&&Nat.ble p4.length 2000&&Nat.ble p5.length 2000&&Nat.ble p6.length 2000 then some p6 else none
      | none=>none
     | none=>none
    | none=>none
   | none=>none
  | none=>none
 | none=>none
def I22 (x:S0×Int×Int):Option (S0×Int):=if (x.2.2 != 0)=true then some ((S0.mk [] []),x.2.2) else some (x.1,0)
theorem W1t {x:P0}{a b:Int}{ls:Str}{bs:List Int}(h:Par a b ls bs){q:List Pc}(hr:Mj (L x.text)=some q):Ed a b (x,0) ls=(Dd (N2 (en a b ls bs) q)>>=I22):=by
 have ha:=h.ha; have hb:=h.hb; have hab:=h.hab
 unfold Mj at hr
 split at hr
 case h_2=>cases hr
 rename_i p1 k
 split at hr
 case h_2=>cases hr
 rename_i p E
 split at hr
 case h_2=>cases hr
 rename_i w m
 split at hr
 case h_2=>cases hr
 rename_i s n
 split at hr
 case h_2=>cases hr
 rename_i o i
 split at hr
 case h_2=>cases hr
 rename_i F j
 obtain ⟨hl,hr⟩:=B1k hr
 cases hr
 simp only [zqi] at hl
 obtain ⟨⟨⟨⟨⟨⟨A,d⟩,g⟩,e⟩,f⟩,c⟩,t⟩:=hl
 have s1:=X12 h.en k A d
 have s2:=X12 h.en E d g
 have s3:=X12 h.en m g e
 have l:=X12 h.en n e f
 have B:=X12 h.en i f c
 have z:=X12 h.en j c t
 rw [Lj] at s1
 unfold Ed
 have C:Tg (IntKind.i64.wrap (a - 1))=some (Lib.itoa (a - 1)):=by rw [wr (by omega) (by omega),Kw (by unfold E3; omega)]
 have D:Tg (IntKind.i64.wrap (b - 1))=some (Lib.itoa (b - 1)):=by rw [wr (by omega) (by omega),Kw (by unfold E3; omega)]
 have r:Tg (IntKind.i64.wrap (a * b))=some (Lib.itoa (a * b)):=by rw [wr (by omega) (by omega),Kw (by unfold E3; omega)]
 have u:Tg a=some (Lib.itoa a):=Kw (by unfold E3; omega)
 have v:Tg b=some (Lib.itoa b):=Kw (by unfold E3; omega)
 rw [C,ob,D,ob,r,ob,u,ob,v,ob]
 rw [B3]
 show (Eb x.text [60,65,62] (en a b ls bs 0)>>=fun y=>B3 y ls (Lib.itoa (a - 1)) (Lib.itoa (b - 1)) (Lib.itoa (a * b)) (Lib.itoa a) (Lib.itoa b) 1)=_
 rw [s1,ob,B3]
 show (Eb (N2 (en a b ls bs) p1) [60,66,62] (en a b ls bs 1)>>=fun y=>B3 y ls (Lib.itoa (a - 1)) (Lib.itoa (b - 1)) (Lib.itoa (a * b)) (Lib.itoa a) (Lib.itoa b) 2)=_
 rw [s2,ob,B3]
 show (Eb (N2 (en a b ls bs) p) [60,84,62] (en a b ls bs 2)>>=fun y=>B3 y ls (Lib.itoa (a - 1)) (Lib.itoa (b - 1)) (Lib.itoa (a * b)) (Lib.itoa a) (Lib.itoa b) 3)=_
 rw [s3,ob,B3]
 show (Eb (N2 (en a b ls bs) w) [60,97,62] (en a b ls bs 3)>>=fun y=>B3 y ls (Lib.itoa (a - 1)) (Lib.itoa (b - 1)) (Lib.itoa (a * b)) (Lib.itoa a) (Lib.itoa b) 4)=_
 rw [l,ob,B3]
 show (Eb (N2 (en a b ls bs) s) [60,98,62] (en a b ls bs 4)>>=fun y=>B3 y ls (Lib.itoa (a - 1)) (Lib.itoa (b - 1)) (Lib.itoa (a * b)) (Lib.itoa a) (Lib.itoa b) 5)=_
 rw [B,ob,B3]
 show (Eb (N2 (en a b ls bs) o) [60,78,62] (en a b ls bs 5)>>=fun y=>B3 y ls (Lib.itoa (a - 1)) (Lib.itoa (b - 1)) (Lib.itoa (a * b)) (Lib.itoa a) (Lib.itoa b) 6)=_
 rw [z,ob,B3]
 rfl
theorem Ym {n:Int}(h:0≤n)(h':n≤1048576):H15 (Lib.itoa n):=⟨n.toNat,by omega,by unfold Lib.itoa; rw [zn (by omega)]⟩
theorem Ey (k:Nat)(s:Str)(h:Lib.decDigits k=s):Lib.itoa (k:Int)=s:=by
 unfold Lib.itoa
 rw [zn (by omega),show ((k:Int)).toNat=k from rfl,h]
theorem dd1 (k:Nat)(h:k < 10):Lib.decDigits k=[UInt8.ofNat (48+k)]:=by rw [Lib.decDigits,dif_pos h]
theorem dd2 (k j:Nat)(h:¬ k < 10)(h':k / 10=j)(a:j < 10):Lib.decDigits k=[UInt8.ofNat (48+j),UInt8.ofNat (48+k % 10)]:=by rw [Lib.decDigits,dif_neg h,h',dd1 j a]; rfl
theorem it0:Lib.itoa 0=[48]:=Ey 0 _ (dd1 0 (by decide))
theorem it1:Lib.itoa 1=[49]:=Ey 1 _ (dd1 1 (by decide))
theorem it2:Lib.itoa 2=[50]:=Ey 2 _ (dd1 2 (by decide))
theorem J22:Lib.itoa 12=[49,50]:=Ey 12 _ (dd2 12 1 (by decide) (by decide) (by decide))
theorem K22:Lib.itoa 13=[49,51]:=Ey 13 _ (dd2 13 1 (by decide) (by decide) (by decide))
def Sq (f:Int→Int→Bool):Bool:=(List.range 65).all fun i=>(List.range 65).all fun j=>f i j
theorem Oe {f:Int→Int→Bool}(h:Sq f=true){a b:Int}(ha:0≤a∧a≤64)(hb:0≤b∧b≤64):f a b=true:=by
 have h1:=List.all_eq_true.1 h a.toNat (List.mem_range.2 (by omega))
 have h2:=List.all_eq_true.1 h1 b.toNat (List.mem_range.2 (by omega))
 rwa [show ((a.toNat:Nat):Int)=a by omega,show ((b.toNat:Nat):Int)=b by omega] at h2
theorem Gk {a b lo hi c h2:Int}(h:Ka a b lo hi c h2=false):lo≤a∧a≤hi∧c≤b∧b≤h2:=by
 unfold Ka at h
 by_cases h1:a < lo
 ·rw [zqj h1] at h; cases h
 by_cases h3:a > hi
 ·rw [zqs h1,zqj h3] at h; cases h
 by_cases h4:b < c
 ·rw [zqs h1,zqs h3,zqj h4] at h; cases h
 by_cases h5:b > h2
 ·rw [zqs h1,zqs h3,zqs h4,zqj h5] at h; cases h
 omega
def F1w:Tx→Tx
 | .l s=>.l s
 | .v i=>if i=6 then .l [48] else if i=7 then .l [49] else if i=8 then .l [50] else if i=9 then .l [49,50] else if i=10 then .l [49,51] else .v i
def Gh (p:Int×Tx):Int×Tx:=(p.1,F1w p.2)
theorem G1w {a b:Int}{ls:Str}{bs:List Int}(t:Tx):(F1w t).val (en a b ls bs)=t.val (en a b ls bs):=by
 cases t with
 | l s=>rfl
 | v i=>
  by_cases h6:i=6
  ·subst h6; exact it0.symm
  by_cases h7:i=7
  ·subst h7; exact it1.symm
  by_cases h8:i=8
  ·subst h8; exact it2.symm
  by_cases h9:i=9
  ·subst h9; exact J22.symm
  by_cases h10:i=10
  ·subst h10; exact K22.symm
  unfold F1w
  simp only [zn h6,zn h7,zn h8,zn h9,zn h10]
theorem H1w {a b:Int}{ls:Str}{bs:List Int}(l:List (Int×Tx)):(l.map Gh).map (fun p=>(p.1,p.2.val (en a b ls bs)))=l.map (fun p=>(p.1,p.2.val (en a b ls bs))):=by
 rw [List.map_map]
 refine List.map_congr_left fun p _=>?_
 simp only [Function.comp,Gh,G1w]
theorem Par.num {a b:Int}{ls:Str}{bs:List Int}(h:Par a b ls bs){i:Nat}(c:i≠5)(h1:i=1→1≤b)(hi:i < 11+bs.length):H15 (YtbaijagfgceilaaGreatDoor.en a b ls bs i):=by
 have ha:=h.ha; have hb:=h.hb; have hab:=h.hab
 unfold YtbaijagfgceilaaGreatDoor.en enl
 match i,c,h1,hi with
 | 0,_,_,_=>exact Ym (by omega) (by omega)
 | 1,_,h1,_=>have:=h1 rfl; exact Ym (by omega) (by omega)
 | 2,_,_,_=>exact Ym (by omega) (by omega)
 | 3,_,_,_=>exact Ym (by omega) (by omega)
 | 4,_,_,_=>exact Ym (by omega) (by omega)
 | 5,c,_,_=>exact absurd rfl c
 | 6,_,_,_=>exact Ym (n:=0) (by omega) (by omega)
 | 7,_,_,_=>exact Ym (n:=1) (by omega) (by omega)
 | 8,_,_,_=>exact Ym (n:=2) (by omega) (by omega)
 | 9,_,_,_=>exact Ym (n:=12) (by omega) (by omega)
 | 10,_,_,_=>exact Ym (n:=13) (by omega) (by omega)
 | i+11,_,_,hi=>
  have hl:i < bs.length:=by omega
  have e:([Lib.itoa (a - 1),Lib.itoa (b - 1),Lib.itoa (a * b),Lib.itoa a,Lib.itoa b,ls,Lib.itoa 0,Lib.itoa 1,Lib.itoa 2,Lib.itoa 12,Lib.itoa 13]++bs.map Lib.itoa).getD (i+11) []=Lib.itoa bs[i]:=by
   rw [List.getD_eq_getElem?_getD,List.getElem?_append_right (by simp)]
   simp [hl]
  rw [e]
  have:=h.hbs bs[i] (List.getElem_mem hl)
  exact Ym (by omega) (by omega)
def Vb (n:Nat)(one:Bool)(ps:List Pc):Bool:=(Id ps).all fun i=>!Nat.beq i 5&&Nat.blt i (11+n)&&(one || !Nat.beq i 1)
theorem Par.use {a b:Int}{ls:Str}{bs:List Int}(h:Par a b ls bs){one:Bool}(h1:one=true→1≤b){ps:List Pc}(c:Vb bs.length one ps=true):∀ i∈Id ps,H15 (YtbaijagfgceilaaGreatDoor.en a b ls bs i):=fun i hi=>by
 have:=List.all_eq_true.1 c i hi
 simp only [zqi,Bool.not_eq_true',Bool.or_eq_true] at this
 obtain ⟨⟨d,hl⟩,ho⟩:=this
 refine h.num (fun e=>by subst e; cases d) (fun e=>?_) (Nat.le_of_ble_eq_true hl)
 subst e
 rcases ho with ho | ho
 ·exact h1 ho
 ·cases ho
theorem X1t {s:Str}(h:H15 s):s.length≤7:=by
 obtain ⟨m,hm,rfl⟩:=h
 exact Ih 6 m (by omega)
theorem Nz (e:Nat→Str):∀ ps:List Pc,(∀ i∈Id ps,H15 (e i))→(N2 e ps).length≤7 * ps.length
 | [],_=>zqr _
 | .c b::r,h=>by have:=Nz e r h; simp only [N2,zqd]; omega
 | .v i::r,h=>by
  have:=Nz e r fun j a=>h j (zqq _ a)
  have:=X1t (h i zqp)
  simp only [N2,zqd,zqc]; omega
theorem Yh {nm:Str}{i:Nat}{x:P0}(G:tbl[i]?=some x)(hf:fi nm tbl 0=(i:Int)){a b:Int}{ls:Str}{bs:List Int}(h:Par a b ls bs){j h2:Int}(hs:Vv x.second a=some (j,h2))(w:Ka a b x.low x.high j h2=false)
  (hl:(if (x.name == [115,101,97,114,99,104])=true then Ik a b else some [])=some ls) {q0 q pa d:List Pc} (hr:Mj (L x.text)=some q0) (A:N2 (en a b ls bs) q0=N2 (en a b ls bs) q) {p:S0} (hp:Wh p=N2 (en a b ls bs) pa) (ht:A4 nm a b=some (N2 (en a b ls bs) d))
  (F:Ye nm a b=Z4 a b x.low x.high j h2) {o:List (Int×Tx)} (C:T5 2000 q=some (o.map Gh)) (B:T5 2000 pa=some o) (D:T5 2000 d=some (o.map Gh))
  {one:Bool} (h1:one=true→1≤b) (t:(Vb bs.length one q&&Vb bs.length one pa&&Vb bs.length one d&&Nat.ble q.length 1000&&Nat.ble d.length 1000)=true)
  (g:p.bulk≤1000000) (hc:F6 p=0):K3 nm a b=some (p,0)∧(U6=some true→J2 nm a b=some true):=by
 simp only [zqi] at t
 obtain ⟨⟨⟨⟨e,m⟩,u3⟩,u4⟩,u⟩:=t
 have e:=h.use h1 e
 have m:=h.use h1 m
 have u3:=h.use h1 u3
 have u4:=Nat.le_of_ble_eq_true u4
 have u:=Nat.le_of_ble_eq_true u
 have c:OkP p:=V1l (by omega)
 have hbs:B0.bulks p.Decls+C0.bulks p.Body≤1048576:=by
  cases p
  simp only [S0.bulk] at g ⊢
  omega
 have y:=Jn _ _ _ _ C e
 have f:=Jn _ _ _ _ B m
 have r:=Jn _ _ _ _ D u3
 rw [H1w] at y r
 rw [← hp] at f
 have lq:=Nz _ q e
 have I:=Nz _ d u3
 have n:=Z1h c hbs hc (by omega) y f
 have l:=Z1h c hbs hc (by omega) r f
 obtain ⟨v,z,E,_⟩:=F1q (N2 (en a b ls bs) d)
 rw [l] at z
 cases z
 have hm:K3 nm a b=some (p,0):=by
  unfold K3
  rw [J1c G hf a b hs,w,zn (by decide),ob,zn (show ¬((0:Int) != 0)=true by decide)]
  have s:Ed a b (x,0) ls=some (p,0):=by
   rw [W1t h hr,A,n,ob]
   rfl
  by_cases hn:(x.name == [115,101,97,114,99,104])=true
  ·rw [zp hn] at hl
   rw [zp hn,hl,ob,s]
  ·rw [zn hn] at hl
   cases hl
   rw [zn hn,s]
 refine ⟨hm,fun H=>?_⟩
 unfold J2
 rw [H,ob,zn (by decide)]
 split
 ·rfl
 ·rw [hm,ob,F,U1w,w,zn (by decide),ob,zn (show ¬((0:Int) != 0)=true by decide)]
  have k:Vk nm a b=some p:=by
   unfold Vk
   rw [ht,ob,E,ob]
  simp only [zqm,zt,k,ob]
  rw [J1l p p c,ob,T1e]
  rfl
theorem I1m {n:Int}(h:E3 n):Y2 n=some (Lib.itoa n):=by unfold Y2; rw [B1s h,ob]
set_option maxHeartbeats 4000000
theorem nums {a b:Int}(ha:1≤a∧a≤64)(hb:0≤b∧b≤64)(hab:0≤a * b∧a * b≤4096):Y2 (IntKind.i64.wrap (a - 1))=some (Lib.itoa (a - 1))∧(Lib.itoa (a - 1)).length≤19∧Y2 a=some (Lib.itoa a)∧(Lib.itoa a).length≤19∧Y2 b=some (Lib.itoa b)∧(Lib.itoa b).length≤19∧Y2 (IntKind.i64.wrap (b - 1))=some (Lib.itoa (b - 1))∧(Lib.itoa (b - 1)).length≤19∧Y2 (IntKind.i64.wrap (a * b))=some (Lib.itoa (a * b))∧(Lib.itoa (a * b)).length≤19:=by
 have k:∀ n:Int,E3 n→Y2 (IntKind.i64.wrap n)=some (Lib.itoa n)∧(Lib.itoa n).length≤19:=fun n h=>⟨by rw [wr (by unfold E3 at h; omega) (by unfold E3 at h; omega)]; exact I1m h,Jw h⟩
 have k':∀ n:Int,E3 n→Y2 n=some (Lib.itoa n)∧(Lib.itoa n).length≤19:=fun n h=>⟨I1m h,Jw h⟩
 obtain ⟨w0,f⟩:=k (a - 1) (by unfold E3; omega)
 obtain ⟨w1,g⟩:=k' a (by unfold E3; omega)
 obtain ⟨d,l⟩:=k' b (by unfold E3; omega)
 obtain ⟨c,i⟩:=k (b - 1) (by unfold E3; omega)
 obtain ⟨e,j⟩:=k (a * b) (by unfold E3; omega)
 exact ⟨w0,f,w1,g,d,l,c,i,e,j⟩
attribute [local simp] Wh Co Rs Kb V14 Bw F0.text F0.texts ttx C0.lines C0.text A0.text A0.texts etx YtbaijagfgceilaaGreatDoor.par lv YtbaijagfgceilaaGreatDoor.sign S18 exl nul N2 L en enl
def tr0 (a b:Int):S0:=⟨[(.mk 1 [112,105,110] (.mk 1 0 (a - 1) 0 [] [] []) 0 (.mk 0 0 [] []) [] [] []),(.mk 2 [103,117,101,115,115] (.mk 1 0 (a - 1) 0 [] [] []) 0 (.mk 0 0 [] []) [] [] [])],[(.mk 3 (.mk 0 0 [] []) (.mk 13 0 [] [(.mk 3 0 [112,105,110] []),(.mk 3 0 [103,117,101,115,115] [])]) [] [] 0 0 0 [] [] [])]⟩
def pa0:List Pc:=L [115,101,99,114,101,116,32,112,105,110,58,32,105,110,116,91]++[.v 6]++L [46,46]++[.v 0]++L [93,59,10,112,117,98,108,105,99,32,103,117,101,115,115,58,32,105,110,116,91]++[.v 6]++L [46,46]++[.v 0]++L [93,59,10,98,101,103,105,110,10,9,111,117,116,112,117,116,32,112,105,110,32,61,61,32,103,117,101,115,115,59,10,101,110,100,10]
def pb0:List Pc:=L [115,101,99,114,101,116,32,112,105,110,58,32,105,110,116,91,48,46,46]++[.v 0]++L [93,59,32,112,117,98,108,105,99,32,103,117,101,115,115,58,32,105,110,116,91,48,46,46]++[.v 0]++L [93,59,32,98,101,103,105,110,32,111,117,116,112,117,116,32,112,105,110,32,61,61,32,103,117,101,115,115,59,32,101,110,100]
def qa0:List Pc:=(Mj (L (tbl.getD 0 P0.zero).text)).getD []
def ta0:List (Int×Tx):=(T5 2000 pa0).getD []
theorem rp0:Mj (L (tbl.getD 0 P0.zero).text)=some qa0:=by kernel_rfl
theorem la0:T5 2000 pa0=some ta0:=by kernel_rfl
theorem lb0:T5 2000 pb0=some (ta0.map Gh):=by kernel_rfl
theorem lq0:T5 2000 qa0=some (ta0.map Gh):=by kernel_rfl
theorem us0:(Vb ([]:List Int).length false qa0&&Vb ([]:List Int).length false pa0&&Vb ([]:List Int).length false pb0&&Nat.ble qa0.length 1000&&Nat.ble pb0.length 1000)=true:=by kernel_rfl
theorem L22 (a b:Int):Wh (tr0 a b)=N2 (en a b [] []) pa0:=by
 simp [tr0,pa0]
theorem M22:Sq (fun a b=>Ka a b 2 64 0 0||F6 (tr0 a b) == 0)=true:=by kernel_rfl
theorem O21 {a b:Int}(ha:1≤a∧a≤64)(hb:0≤b∧b≤64)(hab:0≤a * b∧a * b≤4096):A4 [112,97,115,115,119,111,114,100] a b=some (N2 (en a b [] []) pb0):=by
 obtain ⟨w0,j,w1,f,d,i,c,g,e,h⟩:=nums ha hb hab
 unfold A4
 rw [w0,ob,zp (by decide)]
 repeat (first | rw [ob] | rw [zp (zqj (by (try simp only [zqc,zqd,zqe]); unfold maxLen; omega))] | rw [w0,ob] | rw [w1,ob] | rw [d,ob] | rw [c,ob] | rw [e,ob])
 simp only [pb0,Ge,Lj,Xm]
 rfl
def tr1 (a b:Int):S0:=⟨[(.mk 1 [112,105,110] (.mk 2 0 0 a [] [] [(.mk 1 0 (b - 1) 0 [] [] [])]) 0 (.mk 0 0 [] []) [] [] []),(.mk 2 [103,117,101,115,115] (.mk 2 0 0 a [] [] [(.mk 1 0 (b - 1) 0 [] [] [])]) 0 (.mk 0 0 [] []) [] [] []),(.mk 4 [105] (.mk 1 0 a 0 [] [] []) 0 (.mk 0 0 [] []) [] [] []),(.mk 4 [111,107] (.mk 0 0 0 0 [] [] []) 1 (.mk 0 0 [] []) [] [] [])],[(.mk 6 (.mk 0 0 [] []) (.mk 19 0 [] [(.mk 3 0 [111,107] []),(.mk 15 0 [] [(.mk 3 0 [105] []),(.mk 0 a [] [])])]) [] [] a 0 0 [] [(.mk 5 (.mk 0 0 [] []) (.mk 13 0 [] [(.mk 5 0 [] [(.mk 3 0 [112,105,110] []),(.mk 3 0 [105] [])]),(.mk 5 0 [] [(.mk 3 0 [103,117,101,115,115] []),(.mk 3 0 [105] [])])]) [] [] 0 0 0 [] [(.mk 0 (.mk 3 0 [105] []) (.mk 8 0 [] [(.mk 3 0 [105] []),(.mk 0 1 [] [])]) [] [] 0 0 0 [] [] [])] [(.mk 0 (.mk 3 0 [111,107] []) (.mk 2 0 [] []) [] [] 0 0 0 [] [] [])])] []),(.mk 3 (.mk 0 0 [] []) (.mk 3 0 [111,107] []) [] [] 0 0 0 [] [] [])]⟩
def pa1:List Pc:=L [115,101,99,114,101,116,32,112,105,110,58,32,97,114,114,97,121,32]++[.v 3]++L [32,111,102,32,105,110,116,91]++[.v 6]++L [46,46]++[.v 1]++L [93,59,10,112,117,98,108,105,99,32,103,117,101,115,115,58,32,97,114,114,97,121,32]++[.v 3]++L [32,111,102,32,105,110,116,91]++[.v 6]++L [46,46]++[.v 1]++L [93,59,10,118,97,114,32,105,58,32,105,110,116,91]++[.v 6]++L [46,46]++[.v 3]++L [93,59,10,118,97,114,32,111,107,58,32,98,111,111,108,32,61,32,116,114,117,101,59,10,98,101,103,105,110,10,9,119,104,105,108,101,32,111,107,32,38,38,32,105,32,60,32]++[.v 3]++L [32,108,105,109,105,116,32]++[.v 3]++L [32,123,10,9,9,105,102,32,112,105,110,91,105,93,32,61,61,32,103,117,101,115,115,91,105,93,32,123,10,9,9,9,105,32,61,32,105,32,43,32]++[.v 7]++L [59,10,9,9,125,32,101,108,115,101,32,123,10,9,9,9,111,107,32,61,32,102,97,108,115,101,59,10,9,9,125,10,9,125,10,9,111,117,116,112,117,116,32,111,107,59,10,101,110,100,10]
def pb1:List Pc:=L [115,101,99,114,101,116,32,112,105,110,58,32,97,114,114,97,121,32]++[.v 3]++L [32,111,102,32,105,110,116,91,48,46,46]++[.v 1]++L [93,59,32,112,117,98,108,105,99,32,103,117,101,115,115,58,32,97,114,114,97,121,32]++[.v 3]++L [32,111,102,32,105,110,116,91,48,46,46]++[.v 1]++L [93,59,32,118,97,114,32,105,58,32,105,110,116,91,48,46,46]++[.v 3]++L [93,59,32,118,97,114,32,111,107,58,32,98,111,111,108,32,61,32,116,114,117,101,59,32,98,101,103,105,110,32,119,104,105,108,101,32,111,107,32,38,38,32,105,32,60,32]++[.v 3]++L [32,108,105,109,105,116,32]++[.v 3]++L [32,123,32,105,102,32,112,105,110,91,105,93,32,61,61,32,103,117,101,115,115,91,105,93,32,123,32,105,32,61,32,105,32,43,32,49,59,32,125,32,101,108,115,101,32,123,32,111,107,32,61,32,102,97,108,115,101,59,32,125,32,125,32,111,117,116,112,117,116,32,111,107,59,32,101,110,100]
def qa1:List Pc:=(Mj (L (tbl.getD 1 P0.zero).text)).getD []
def ta1:List (Int×Tx):=(T5 2000 pa1).getD []
theorem rp1:Mj (L (tbl.getD 1 P0.zero).text)=some qa1:=by kernel_rfl
theorem la1:T5 2000 pa1=some ta1:=by kernel_rfl
theorem lb1:T5 2000 pb1=some (ta1.map Gh):=by kernel_rfl
theorem lq1:T5 2000 qa1=some (ta1.map Gh):=by kernel_rfl
theorem us1:(Vb ([]:List Int).length true qa1&&Vb ([]:List Int).length true pa1&&Vb ([]:List Int).length true pb1&&Nat.ble qa1.length 1000&&Nat.ble pb1.length 1000)=true:=by kernel_rfl
theorem N22 (a b:Int):Wh (tr1 a b)=N2 (en a b [] []) pa1:=by
 simp [tr1,pa1]
theorem O22:Sq (fun a b=>Ka a b 1 4 2 4||F6 (tr1 a b) == 0)=true:=by kernel_rfl
theorem P21 {a b:Int}(ha:1≤a∧a≤64)(hb:0≤b∧b≤64)(hab:0≤a * b∧a * b≤4096):A4 [100,105,103,105,116,115] a b=some (N2 (en a b [] []) pb1):=by
 obtain ⟨w0,j,w1,f,d,i,c,g,e,h⟩:=nums ha hb hab
 unfold A4
 rw [w0,ob,zn (by decide),zp (by decide)]
 repeat (first | rw [ob] | rw [zp (zqj (by (try simp only [zqc,zqd,zqe]); unfold maxLen; omega))] | rw [w0,ob] | rw [w1,ob] | rw [d,ob] | rw [c,ob] | rw [e,ob])
 simp only [pb1,Ge,Lj,Xm]
 rfl
def tr2 (a b:Int):S0:=⟨[(.mk 1 [115] (.mk 2 0 0 a [] [] [(.mk 0 0 0 0 [] [] [])]) 0 (.mk 0 0 [] []) [] [] [])],[(.mk 7 (.mk 0 0 [] []) (.mk 0 0 [] []) [105] [] 0 0 (a - 1) [] [(.mk 3 (.mk 0 0 [] []) (.mk 5 0 [] [(.mk 3 0 [115] []),(.mk 3 0 [105] [])]) [] [] 0 0 0 [] [] [])] [])]⟩
def pa2:List Pc:=L [115,101,99,114,101,116,32,115,58,32,97,114,114,97,121,32]++[.v 3]++L [32,111,102,32,98,111,111,108,59,10,98,101,103,105,110,10,9,102,111,114,32,105,32,61,32]++[.v 6]++L [32,116,111,32]++[.v 0]++L [32,123,10,9,9,111,117,116,112,117,116,32,115,91,105,93,59,10,9,125,10,101,110,100,10]
def pb2:List Pc:=L [115,101,99,114,101,116,32,115,58,32,97,114,114,97,121,32]++[.v 3]++L [32,111,102,32,98,111,111,108,59,32,98,101,103,105,110,32,102,111,114,32,105,32,61,32,48,32,116,111,32]++[.v 0]++L [32,123,32,111,117,116,112,117,116,32,115,91,105,93,59,32,125,32,101,110,100]
def qa2:List Pc:=(Mj (L (tbl.getD 2 P0.zero).text)).getD []
def ta2:List (Int×Tx):=(T5 2000 pa2).getD []
theorem rp2:Mj (L (tbl.getD 2 P0.zero).text)=some qa2:=by kernel_rfl
theorem la2:T5 2000 pa2=some ta2:=by kernel_rfl
theorem lb2:T5 2000 pb2=some (ta2.map Gh):=by kernel_rfl
theorem lq2:T5 2000 qa2=some (ta2.map Gh):=by kernel_rfl
theorem us2:(Vb ([]:List Int).length false qa2&&Vb ([]:List Int).length false pa2&&Vb ([]:List Int).length false pb2&&Nat.ble qa2.length 1000&&Nat.ble pb2.length 1000)=true:=by kernel_rfl
theorem P22 (a b:Int):Wh (tr2 a b)=N2 (en a b [] []) pa2:=by
 simp [tr2,pa2]
theorem Q22:Sq (fun a b=>Ka a b 1 8 0 0||F6 (tr2 a b) == 0)=true:=by kernel_rfl
theorem Q21 {a b:Int}(ha:1≤a∧a≤64)(hb:0≤b∧b≤64)(hab:0≤a * b∧a * b≤4096):A4 [98,105,116,115] a b=some (N2 (en a b [] []) pb2):=by
 obtain ⟨w0,j,w1,f,d,i,c,g,e,h⟩:=nums ha hb hab
 unfold A4
 rw [w0,ob,zn (by decide),zn (by decide),zp (by decide)]
 repeat (first | rw [ob] | rw [zp (zqj (by (try simp only [zqc,zqd,zqe]); unfold maxLen; omega))] | rw [w0,ob] | rw [w1,ob] | rw [d,ob] | rw [c,ob] | rw [e,ob])
 simp only [pb2,Ge,Lj,Xm]
 rfl
def tr3 (a b:Int):S0:=⟨[(.mk 1 [115] (.mk 1 0 (a - 1) 0 [] [] []) 0 (.mk 0 0 [] []) [] [] [])],[(.mk 3 (.mk 0 0 [] []) (.mk 12 0 [] [(.mk 3 0 [115] []),(.mk 0 2 [] [])]) [] [] 0 0 0 [] [] [])]⟩
def pa3:List Pc:=L [115,101,99,114,101,116,32,115,58,32,105,110,116,91]++[.v 6]++L [46,46]++[.v 0]++L [93,59,10,98,101,103,105,110,10,9,111,117,116,112,117,116,32,115,32,37,32]++[.v 8]++L [59,10,101,110,100,10]
def pb3:List Pc:=L [115,101,99,114,101,116,32,115,58,32,105,110,116,91,48,46,46]++[.v 0]++L [93,59,32,98,101,103,105,110,32,111,117,116,112,117,116,32,115,32,37,32,50,59,32,101,110,100]
def qa3:List Pc:=(Mj (L (tbl.getD 3 P0.zero).text)).getD []
def ta3:List (Int×Tx):=(T5 2000 pa3).getD []
theorem rp3:Mj (L (tbl.getD 3 P0.zero).text)=some qa3:=by kernel_rfl
theorem la3:T5 2000 pa3=some ta3:=by kernel_rfl
theorem lb3:T5 2000 pb3=some (ta3.map Gh):=by kernel_rfl
theorem lq3:T5 2000 qa3=some (ta3.map Gh):=by kernel_rfl
theorem us3:(Vb ([]:List Int).length false qa3&&Vb ([]:List Int).length false pa3&&Vb ([]:List Int).length false pb3&&Nat.ble qa3.length 1000&&Nat.ble pb3.length 1000)=true:=by kernel_rfl
theorem R22 (a b:Int):Wh (tr3 a b)=N2 (en a b [] []) pa3:=by
 simp [tr3,pa3]
theorem S22:Sq (fun a b=>Ka a b 2 64 0 0||F6 (tr3 a b) == 0)=true:=by kernel_rfl
theorem R21 {a b:Int}(ha:1≤a∧a≤64)(hb:0≤b∧b≤64)(hab:0≤a * b∧a * b≤4096):A4 [112,97,114,105,116,121] a b=some (N2 (en a b [] []) pb3):=by
 obtain ⟨w0,j,w1,f,d,i,c,g,e,h⟩:=nums ha hb hab
 unfold A4
 rw [w0,ob,zn (by decide),zn (by decide),zn (by decide),zp (by decide)]
 repeat (first | rw [ob] | rw [zp (zqj (by (try simp only [zqc,zqd,zqe]); unfold maxLen; omega))] | rw [w0,ob] | rw [w1,ob] | rw [d,ob] | rw [c,ob] | rw [e,ob])
 simp only [pb3,Ge,Lj,Xm]
 rfl
def tr4 (a b:Int):S0:=⟨[(.mk 1 [100] (.mk 2 0 0 a [] [] [(.mk 1 1 b 0 [] [] [])]) 0 (.mk 0 0 [] []) [] [] []),(.mk 4 [116] (.mk 1 0 (a * b) 0 [] [] []) 0 (.mk 0 0 [] []) [] [] [])],[(.mk 7 (.mk 0 0 [] []) (.mk 0 0 [] []) [105] [] 0 0 (a - 1) [] [(.mk 0 (.mk 3 0 [116] []) (.mk 8 0 [] [(.mk 3 0 [116] []),(.mk 5 0 [] [(.mk 3 0 [100] []),(.mk 3 0 [105] [])])]) [] [] 0 0 0 [] [] [])] []),(.mk 3 (.mk 0 0 [] []) (.mk 3 0 [116] []) [] [] 0 0 0 [] [] [])]⟩
def pa4:List Pc:=L [115,101,99,114,101,116,32,100,58,32,97,114,114,97,121,32]++[.v 3]++L [32,111,102,32,105,110,116,91]++[.v 7]++L [46,46]++[.v 4]++L [93,59,10,118,97,114,32,116,58,32,105,110,116,91]++[.v 6]++L [46,46]++[.v 2]++L [93,59,10,98,101,103,105,110,10,9,102,111,114,32,105,32,61,32]++[.v 6]++L [32,116,111,32]++[.v 0]++L [32,123,10,9,9,116,32,61,32,116,32,43,32,100,91,105,93,59,10,9,125,10,9,111,117,116,112,117,116,32,116,59,10,101,110,100,10]
def pb4:List Pc:=L [115,101,99,114,101,116,32,100,58,32,97,114,114,97,121,32]++[.v 3]++L [32,111,102,32,105,110,116,91,49,46,46]++[.v 4]++L [93,59,32,118,97,114,32,116,58,32,105,110,116,91,48,46,46]++[.v 2]++L [93,59,32,98,101,103,105,110,32,102,111,114,32,105,32,61,32,48,32,116,111,32]++[.v 0]++L [32,123,32,116,32,61,32,116,32,43,32,100,91,105,93,59,32,125,32,111,117,116,112,117,116,32,116,59,32,101,110,100]
def qa4:List Pc:=(Mj (L (tbl.getD 4 P0.zero).text)).getD []
def ta4:List (Int×Tx):=(T5 2000 pa4).getD []
theorem rp4:Mj (L (tbl.getD 4 P0.zero).text)=some qa4:=by kernel_rfl
theorem la4:T5 2000 pa4=some ta4:=by kernel_rfl
theorem lb4:T5 2000 pb4=some (ta4.map Gh):=by kernel_rfl
theorem lq4:T5 2000 qa4=some (ta4.map Gh):=by kernel_rfl
theorem us4:(Vb ([]:List Int).length true qa4&&Vb ([]:List Int).length true pa4&&Vb ([]:List Int).length true pb4&&Nat.ble qa4.length 1000&&Nat.ble pb4.length 1000)=true:=by kernel_rfl
theorem T22 (a b:Int):Wh (tr4 a b)=N2 (en a b [] []) pa4:=by
 simp [tr4,pa4]
theorem U22:Sq (fun a b=>Ka a b 1 3 2 6||F6 (tr4 a b) == 0)=true:=by kernel_rfl
theorem S21 {a b:Int}(ha:1≤a∧a≤64)(hb:0≤b∧b≤64)(hab:0≤a * b∧a * b≤4096):A4 [100,105,99,101] a b=some (N2 (en a b [] []) pb4):=by
 obtain ⟨w0,j,w1,f,d,i,c,g,e,h⟩:=nums ha hb hab
 unfold A4
 rw [w0,ob,zn (by decide),zn (by decide),zn (by decide),zn (by decide),zp (by decide)]
 repeat (first | rw [ob] | rw [zp (zqj (by (try simp only [zqc,zqd,zqe]); unfold maxLen; omega))] | rw [w0,ob] | rw [w1,ob] | rw [d,ob] | rw [c,ob] | rw [e,ob])
 simp only [pb4,Ge,Lj,Xm]
 rfl
def tr5 (a b:Int):S0:=⟨[(.mk 1 [101] (.mk 2 0 0 a [] [] [(.mk 0 0 0 0 [] [] [])]) 0 (.mk 0 0 [] []) [] [] []),(.mk 4 [120] (.mk 1 0 12 0 [] [] []) 1 (.mk 0 0 [] []) [] [] [])],[(.mk 7 (.mk 0 0 [] []) (.mk 0 0 [] []) [105] [] 0 0 (a - 1) [] [(.mk 0 (.mk 3 0 [120] []) (.mk 12 0 [] [(.mk 10 0 [] [(.mk 3 0 [120] []),(.mk 3 0 [120] [])]),(.mk 0 13 [] [])]) [] [] 0 0 0 [] [] []),(.mk 5 (.mk 0 0 [] []) (.mk 5 0 [] [(.mk 3 0 [101] []),(.mk 3 0 [105] [])]) [] [] 0 0 0 [] [(.mk 0 (.mk 3 0 [120] []) (.mk 12 0 [] [(.mk 10 0 [] [(.mk 3 0 [120] []),(.mk 0 2 [] [])]),(.mk 0 13 [] [])]) [] [] 0 0 0 [] [] [])] [])] [])]⟩
def pa5:List Pc:=L [115,101,99,114,101,116,32,101,58,32,97,114,114,97,121,32]++[.v 3]++L [32,111,102,32,98,111,111,108,59,10,118,97,114,32,120,58,32,105,110,116,91]++[.v 6]++L [46,46]++[.v 9]++L [93,32,61,32]++[.v 7]++L [59,10,98,101,103,105,110,10,9,102,111,114,32,105,32,61,32]++[.v 6]++L [32,116,111,32]++[.v 0]++L [32,123,10,9,9,120,32,61,32,120,32,42,32,120,32,37,32]++[.v 10]++L [59,10,9,9,105,102,32,101,91,105,93,32,123,10,9,9,9,120,32,61,32,120,32,42,32]++[.v 8]++L [32,37,32]++[.v 10]++L [59,10,9,9,125,10,9,125,10,101,110,100,10]
def pb5:List Pc:=L [115,101,99,114,101,116,32,101,58,32,97,114,114,97,121,32]++[.v 3]++L [32,111,102,32,98,111,111,108,59,32,118,97,114,32,120,58,32,105,110,116,91,48,46,46,49,50,93,32,61,32,49,59,32,98,101,103,105,110,32,102,111,114,32,105,32,61,32,48,32,116,111,32]++[.v 0]++L [32,123,32,120,32,61,32,120,32,42,32,120,32,37,32,49,51,59,32,105,102,32,101,91,105,93,32,123,32,120,32,61,32,120,32,42,32,50,32,37,32,49,51,59,32,125,32,125,32,101,110,100]
def qa5:List Pc:=(Mj (L (tbl.getD 5 P0.zero).text)).getD []
def ta5:List (Int×Tx):=(T5 2000 pa5).getD []
theorem rp5:Mj (L (tbl.getD 5 P0.zero).text)=some qa5:=by kernel_rfl
theorem la5:T5 2000 pa5=some ta5:=by kernel_rfl
theorem lb5:T5 2000 pb5=some (ta5.map Gh):=by kernel_rfl
theorem lq5:T5 2000 qa5=some (ta5.map Gh):=by kernel_rfl
theorem us5:(Vb ([]:List Int).length false qa5&&Vb ([]:List Int).length false pa5&&Vb ([]:List Int).length false pb5&&Nat.ble qa5.length 1000&&Nat.ble pb5.length 1000)=true:=by kernel_rfl
theorem V22 (a b:Int):Wh (tr5 a b)=N2 (en a b [] []) pa5:=by
 simp [tr5,pa5]
theorem W22:Sq (fun a b=>Ka a b 1 6 0 0||F6 (tr5 a b) == 0)=true:=by kernel_rfl
theorem T21 {a b:Int}(ha:1≤a∧a≤64)(hb:0≤b∧b≤64)(hab:0≤a * b∧a * b≤4096):A4 [112,111,119,101,114] a b=some (N2 (en a b [] []) pb5):=by
 obtain ⟨w0,j,w1,f,d,i,c,g,e,h⟩:=nums ha hb hab
 unfold A4
 rw [w0,ob,zn (by decide),zn (by decide),zn (by decide),zn (by decide),zn (by decide),zp (by decide)]
 repeat (first | rw [ob] | rw [zp (zqj (by (try simp only [zqc,zqd,zqe]); unfold maxLen; omega))] | rw [w0,ob] | rw [w1,ob] | rw [d,ob] | rw [c,ob] | rw [e,ob])
 simp only [pb5,Ge,Lj,Xm]
 rfl
def tr6 (a b:Int):S0:=⟨[(.mk 1 [115] (.mk 1 0 (a - 1) 0 [] [] []) 0 (.mk 0 0 [] []) [] [] [])],[(.mk 3 (.mk 0 0 [] []) (.mk 18 0 [] [(.mk 3 0 [115] []),(.mk 0 b [] [])]) [] [] 0 0 0 [] [] [])]⟩
def pa6:List Pc:=L [115,101,99,114,101,116,32,115,58,32,105,110,116,91]++[.v 6]++L [46,46]++[.v 0]++L [93,59,10,98,101,103,105,110,10,9,111,117,116,112,117,116,32,115,32,62,61,32]++[.v 4]++L [59,10,101,110,100,10]
def pb6:List Pc:=L [115,101,99,114,101,116,32,115,58,32,105,110,116,91,48,46,46]++[.v 0]++L [93,59,32,98,101,103,105,110,32,111,117,116,112,117,116,32,115,32,62,61,32]++[.v 4]++L [59,32,101,110,100]
def qa6:List Pc:=(Mj (L (tbl.getD 6 P0.zero).text)).getD []
def ta6:List (Int×Tx):=(T5 2000 pa6).getD []
theorem rp6:Mj (L (tbl.getD 6 P0.zero).text)=some qa6:=by kernel_rfl
theorem la6:T5 2000 pa6=some ta6:=by kernel_rfl
theorem lb6:T5 2000 pb6=some (ta6.map Gh):=by kernel_rfl
theorem lq6:T5 2000 qa6=some (ta6.map Gh):=by kernel_rfl
theorem us6:(Vb ([]:List Int).length true qa6&&Vb ([]:List Int).length true pa6&&Vb ([]:List Int).length true pb6&&Nat.ble qa6.length 1000&&Nat.ble pb6.length 1000)=true:=by kernel_rfl
theorem X22 (a b:Int):Wh (tr6 a b)=N2 (en a b [] []) pa6:=by
 simp [tr6,pa6]
theorem Y22:Sq (fun a b=>Ka a b 2 64 1 (IntKind.i64.wrap (a - 1))||F6 (tr6 a b) == 0)=true:=by kernel_rfl
theorem U21 {a b:Int}(ha:1≤a∧a≤64)(hb:0≤b∧b≤64)(hab:0≤a * b∧a * b≤4096):A4 [116,104,114,101,115,104,111,108,100] a b=some (N2 (en a b [] []) pb6):=by
 obtain ⟨w0,j,w1,f,d,i,c,g,e,h⟩:=nums ha hb hab
 unfold A4
 rw [w0,ob,zn (by decide),zn (by decide),zn (by decide),zn (by decide),zn (by decide),zn (by decide),zp (by decide)]
 repeat (first | rw [ob] | rw [zp (zqj (by (try simp only [zqc,zqd,zqe]); unfold maxLen; omega))] | rw [w0,ob] | rw [w1,ob] | rw [d,ob] | rw [c,ob] | rw [e,ob])
 simp only [pb6,Ge,Lj,Xm]
 rfl
def tr7 (a b:Int):S0:=⟨[(.mk 1 [115] (.mk 1 0 (a - 1) 0 [] [] []) 0 (.mk 0 0 [] []) [] [] []),(.mk 3 [114] (.mk 1 0 (a - 1) 0 [] [] []) 0 (.mk 0 0 [] []) [] [] [])],[(.mk 3 (.mk 0 0 [] []) (.mk 12 0 [] [(.mk 8 0 [] [(.mk 3 0 [115] []),(.mk 3 0 [114] [])]),(.mk 0 a [] [])]) [] [] 0 0 0 [] [] [])]⟩
def pa7:List Pc:=L [115,101,99,114,101,116,32,115,58,32,105,110,116,91]++[.v 6]++L [46,46]++[.v 0]++L [93,59,10,114,97,110,100,111,109,32,114,58,32,105,110,116,91]++[.v 6]++L [46,46]++[.v 0]++L [93,59,10,98,101,103,105,110,10,9,111,117,116,112,117,116,32,40,115,32,43,32,114,41,32,37,32]++[.v 3]++L [59,10,101,110,100,10]
def pb7:List Pc:=L [115,101,99,114,101,116,32,115,58,32,105,110,116,91,48,46,46]++[.v 0]++L [93,59,32,114,97,110,100,111,109,32,114,58,32,105,110,116,91,48,46,46]++[.v 0]++L [93,59,32,98,101,103,105,110,32,111,117,116,112,117,116,32,40,115,32,43,32,114,41,32,37,32]++[.v 3]++L [59,32,101,110,100]
def qa7:List Pc:=(Mj (L (tbl.getD 7 P0.zero).text)).getD []
def ta7:List (Int×Tx):=(T5 2000 pa7).getD []
theorem rp7:Mj (L (tbl.getD 7 P0.zero).text)=some qa7:=by kernel_rfl
theorem la7:T5 2000 pa7=some ta7:=by kernel_rfl
theorem lb7:T5 2000 pb7=some (ta7.map Gh):=by kernel_rfl
theorem lq7:T5 2000 qa7=some (ta7.map Gh):=by kernel_rfl
theorem us7:(Vb ([]:List Int).length false qa7&&Vb ([]:List Int).length false pa7&&Vb ([]:List Int).length false pb7&&Nat.ble qa7.length 1000&&Nat.ble pb7.length 1000)=true:=by kernel_rfl
theorem Z22 (a b:Int):Wh (tr7 a b)=N2 (en a b [] []) pa7:=by
 simp [tr7,pa7]
theorem A23:Sq (fun a b=>Ka a b 1 16 0 0||F6 (tr7 a b) == 0)=true:=by kernel_rfl
theorem V21 {a b:Int}(ha:1≤a∧a≤64)(hb:0≤b∧b≤64)(hab:0≤a * b∧a * b≤4096):A4 [109,97,115,107,101,100] a b=some (N2 (en a b [] []) pb7):=by
 obtain ⟨w0,j,w1,f,d,i,c,g,e,h⟩:=nums ha hb hab
 unfold A4
 rw [w0,ob,zn (by decide),zn (by decide),zn (by decide),zn (by decide),zn (by decide),zn (by decide),zn (by decide),zp (by decide)]
 repeat (first | rw [ob] | rw [zp (zqj (by (try simp only [zqc,zqd,zqe]); unfold maxLen; omega))] | rw [w0,ob] | rw [w1,ob] | rw [d,ob] | rw [c,ob] | rw [e,ob])
 simp only [pb7,Ge,Lj,Xm]
 rfl
theorem Fw {a b:Int}(h1:0≤a)(h2:a≤64)(c:0≤b)(d:b≤64):0≤a * b∧a * b≤4096:=⟨Int.mul_nonneg h1 c,Int.le_trans (Int.mul_le_mul h2 d c (by decide:(0:Int)≤64)) (by decide)⟩
theorem B23 {a b:Int}(hf:fi [112,97,115,115,119,111,114,100] tbl 0=((0:Nat):Int))(d:Ka a b 2 64 0 0=false):K3 [112,97,115,115,119,111,114,100] a b=some (tr0 a b,0)∧(U6=some true→J2 [112,97,115,115,119,111,114,100] a b=some true):=by
 have hr:=Gk d
 have hab:0≤a * b∧a * b≤4096:=Fw (by omega) (by omega) (by omega) (by omega)
 have h:Par a b [] []:=⟨by omega,by omega,hab,Nat.zero_le _,fun c hc=>absurd hc List.not_mem_nil,fun c hc=>absurd hc List.not_mem_nil⟩
 have hc:F6 (tr0 a b)=0:=by
  have:=Oe M22 (a:=a) (b:=b) (by omega) (by omega)
  rw [d,Bool.false_or] at this
  exact eq_of_beq this
 exact Yh (q:=qa0) (one:=false) rfl hf h rfl d rfl rp0 rfl (L22 a b) (O21 h.ha h.hb hab) rfl lq0 la0 lb0 (fun e=>by cases e) us0 (Nat.le_of_ble_eq_true rfl) hc
theorem C23 {a b:Int}(hf:fi [100,105,103,105,116,115] tbl 0=((1:Nat):Int))(d:Ka a b 1 4 2 4=false):K3 [100,105,103,105,116,115] a b=some (tr1 a b,0)∧(U6=some true→J2 [100,105,103,105,116,115] a b=some true):=by
 have hr:=Gk d
 have hab:0≤a * b∧a * b≤4096:=Fw (by omega) (by omega) (by omega) (by omega)
 have h:Par a b [] []:=⟨by omega,by omega,hab,Nat.zero_le _,fun c hc=>absurd hc List.not_mem_nil,fun c hc=>absurd hc List.not_mem_nil⟩
 have hc:F6 (tr1 a b)=0:=by
  have:=Oe O22 (a:=a) (b:=b) (by omega) (by omega)
  rw [d,Bool.false_or] at this
  exact eq_of_beq this
 exact Yh (q:=qa1) (one:=true) rfl hf h rfl d rfl rp1 rfl (N22 a b) (P21 h.ha h.hb hab) rfl lq1 la1 lb1 (fun e=>by omega) us1 (Nat.le_of_ble_eq_true rfl) hc
theorem D23 {a b:Int}(hf:fi [98,105,116,115] tbl 0=((2:Nat):Int))(d:Ka a b 1 8 0 0=false):K3 [98,105,116,115] a b=some (tr2 a b,0)∧(U6=some true→J2 [98,105,116,115] a b=some true):=by
 have hr:=Gk d
 have hab:0≤a * b∧a * b≤4096:=Fw (by omega) (by omega) (by omega) (by omega)
 have h:Par a b [] []:=⟨by omega,by omega,hab,Nat.zero_le _,fun c hc=>absurd hc List.not_mem_nil,fun c hc=>absurd hc List.not_mem_nil⟩
 have hc:F6 (tr2 a b)=0:=by
  have:=Oe Q22 (a:=a) (b:=b) (by omega) (by omega)
  rw [d,Bool.false_or] at this
  exact eq_of_beq this
 exact Yh (q:=qa2) (one:=false) rfl hf h rfl d rfl rp2 rfl (P22 a b) (Q21 h.ha h.hb hab) rfl lq2 la2 lb2 (fun e=>by cases e) us2 (Nat.le_of_ble_eq_true rfl) hc
theorem N20 {a b:Int}(hf:fi [112,97,114,105,116,121] tbl 0=((3:Nat):Int))(d:Ka a b 2 64 0 0=false):K3 [112,97,114,105,116,121] a b=some (tr3 a b,0)∧(U6=some true→J2 [112,97,114,105,116,121] a b=some true):=by
 have hr:=Gk d
 have hab:0≤a * b∧a * b≤4096:=Fw (by omega) (by omega) (by omega) (by omega)
 have h:Par a b [] []:=⟨by omega,by omega,hab,Nat.zero_le _,fun c hc=>absurd hc List.not_mem_nil,fun c hc=>absurd hc List.not_mem_nil⟩
 have hc:F6 (tr3 a b)=0:=by
  have:=Oe S22 (a:=a) (b:=b) (by omega) (by omega)
  rw [d,Bool.false_or] at this
  exact eq_of_beq this
 exact Yh (q:=qa3) (one:=false) rfl hf h rfl d rfl rp3 rfl (R22 a b) (R21 h.ha h.hb hab) rfl lq3 la3 lb3 (fun e=>by cases e) us3 (Nat.le_of_ble_eq_true rfl) hc
theorem E23 {a b:Int}(hf:fi [100,105,99,101] tbl 0=((4:Nat):Int))(d:Ka a b 1 3 2 6=false):K3 [100,105,99,101] a b=some (tr4 a b,0)∧(U6=some true→J2 [100,105,99,101] a b=some true):=by
 have hr:=Gk d
 have hab:0≤a * b∧a * b≤4096:=Fw (by omega) (by omega) (by omega) (by omega)
 have h:Par a b [] []:=⟨by omega,by omega,hab,Nat.zero_le _,fun c hc=>absurd hc List.not_mem_nil,fun c hc=>absurd hc List.not_mem_nil⟩
 have hc:F6 (tr4 a b)=0:=by
  have:=Oe U22 (a:=a) (b:=b) (by omega) (by omega)
  rw [d,Bool.false_or] at this
  exact eq_of_beq this
 exact Yh (q:=qa4) (one:=true) rfl hf h rfl d rfl rp4 rfl (T22 a b) (S21 h.ha h.hb hab) rfl lq4 la4 lb4 (fun e=>by omega) us4 (Nat.le_of_ble_eq_true rfl) hc
theorem F23 {a b:Int}(hf:fi [112,111,119,101,114] tbl 0=((5:Nat):Int))(d:Ka a b 1 6 0 0=false):K3 [112,111,119,101,114] a b=some (tr5 a b,0)∧(U6=some true→J2 [112,111,119,101,114] a b=some true):=by
 have hr:=Gk d
 have hab:0≤a * b∧a * b≤4096:=Fw (by omega) (by omega) (by omega) (by omega)
 have h:Par a b [] []:=⟨by omega,by omega,hab,Nat.zero_le _,fun c hc=>absurd hc List.not_mem_nil,fun c hc=>absurd hc List.not_mem_nil⟩
 have hc:F6 (tr5 a b)=0:=by
  have:=Oe W22 (a:=a) (b:=b) (by omega) (by omega)
  rw [d,Bool.false_or] at this
  exact eq_of_beq this
 exact Yh (q:=qa5) (one:=false) rfl hf h rfl d rfl rp5 rfl (V22 a b) (T21 h.ha h.hb hab) rfl lq5 la5 lb5 (fun e=>by cases e) us5 (Nat.le_of_ble_eq_true rfl) hc
theorem G23 {a b:Int}(hf:fi [116,104,114,101,115,104,111,108,100] tbl 0=((6:Nat):Int))(d:Ka a b 2 64 1 (IntKind.i64.wrap (a - 1))=false):K3 [116,104,114,101,115,104,111,108,100] a b=some (tr6 a b,0)∧(U6=some true→J2 [116,104,114,101,115,104,111,108,100] a b=some true):=by
 have hr:=Gk d
 rw [wr (by omega) (by omega)] at hr
 have hab:0≤a * b∧a * b≤4096:=Fw (by omega) (by omega) (by omega) (by omega)
 have h:Par a b [] []:=⟨by omega,by omega,hab,Nat.zero_le _,fun c hc=>absurd hc List.not_mem_nil,fun c hc=>absurd hc List.not_mem_nil⟩
 have hc:F6 (tr6 a b)=0:=by
  have:=Oe Y22 (a:=a) (b:=b) (by omega) (by omega)
  rw [d,Bool.false_or] at this
  exact eq_of_beq this
 exact Yh (q:=qa6) (one:=true) rfl hf h rfl d rfl rp6 rfl (X22 a b) (U21 h.ha h.hb hab) rfl lq6 la6 lb6 (fun e=>by omega) us6 (Nat.le_of_ble_eq_true rfl) hc
theorem H23 {a b:Int}(hf:fi [109,97,115,107,101,100] tbl 0=((7:Nat):Int))(d:Ka a b 1 16 0 0=false):K3 [109,97,115,107,101,100] a b=some (tr7 a b,0)∧(U6=some true→J2 [109,97,115,107,101,100] a b=some true):=by
 have hr:=Gk d
 have hab:0≤a * b∧a * b≤4096:=Fw (by omega) (by omega) (by omega) (by omega)
 have h:Par a b [] []:=⟨by omega,by omega,hab,Nat.zero_le _,fun c hc=>absurd hc List.not_mem_nil,fun c hc=>absurd hc List.not_mem_nil⟩
 have hc:F6 (tr7 a b)=0:=by
  have:=Oe A23 (a:=a) (b:=b) (by omega) (by omega)
  rw [d,Bool.false_or] at this
  exact eq_of_beq this
 exact Yh (q:=qa7) (one:=false) rfl hf h rfl d rfl rp7 rfl (Z22 a b) (V21 h.ha h.hb hab) rfl lq7 la7 lb7 (fun e=>by cases e) us7 (Nat.le_of_ble_eq_true rfl) hc
def jn:List Str→Str
 | []=>[]
 | [x]=>x
 | x::y::r=>x++([44,32]++jn (y::r))
theorem K1o:∀ l:List Str,Lib.join l [44,32]=jn l
 | []=>rfl
 | [x]=>by simp [Lib.join,jn,List.intercalate]
 | x::y::r=>by
  have:=K1o (y::r)
  unfold Lib.join at this ⊢
  rw [jn,← this]
  simp [List.intercalate,List.intersperse]
theorem U19:∀ (l:List Str) (x:Str),jn (l++[x])=if l=[] then x else jn l++[44,32]++x
 | [],x=>rfl
 | [y],x=>by simp [jn]
 | y::z::r,x=>by
  have:=U19 (z::r) x
  rw [zn (by simp)] at this ⊢
  show y++([44,32]++jn ((z::r)++[x]))=_
  rw [this]
  simp [jn]
theorem Y1t:∀ l:List Int,jn (l.map Lib.itoa)=nul true l
 | []=>rfl
 | [x]=>by simp [jn,nul]
 | x::y::r=>by
  have:=Y1t (y::r)
  show Lib.itoa x++([44,32]++jn ((y::r).map Lib.itoa))=_
  rw [this]
  simp [nul]
def A19:Nat→Nat→List Pc
 | _,0=>[]
 | i,1=>[.v i]
 | i,n+2=>.v i :: .c 44 :: .c 32::A19 (i+1) (n+1)
theorem A1i (e:Nat→Str):∀ (l:List Str) (i:Nat),(∀ (j:Nat) s,l[j]?=some s→e (i+j)=s)→N2 e (A19 i l.length)=jn l
 | [],_,_=>rfl
 | [x],i,h=>by
  have:=h 0 x rfl
  simp only [zqd,zqe,A19,N2,jn,List.append_nil]
  exact this
 | x::y::r,i,h=>by
  have a:=A1i e (y::r) (i+1) fun j s b=>by
   have:=h (j+1) s b
   rwa [show i+(j+1)=i+1+j by omega] at this
  have:=h 0 x rfl
  show e i++(44::32::N2 e (A19 (i+1) (r.length+1)))=x++([44,32]++jn (y::r))
  rw [← a,← this]
  rfl
theorem K1q {a b:Int}{ls:Str}{bs:List Int}:N2 (en a b ls bs) (A19 11 bs.length)=jn (bs.map Lib.itoa):=by
 have:=A1i (en a b ls bs) (bs.map Lib.itoa) 11 fun j s c=>by
  unfold en enl
  rw [List.getD_eq_getElem?_getD,List.getElem?_append_right (Nat.le_add_right 11 j),show 11+j - ([Lib.itoa (a - 1),Lib.itoa (b - 1),Lib.itoa (a * b),Lib.itoa a,Lib.itoa b,ls,Lib.itoa 0,Lib.itoa 1,Lib.itoa 2,Lib.itoa 12,Lib.itoa 13]:List Str).length=j from Nat.add_sub_cancel_left 11 j,c]
  rfl
 rwa [List.length_map] at this
def bnd (a b j:Int):Int:=4 * Int.tdiv (j * a+b - 1) b - 2
def raw (a b j:Int):Int:=(IntKind.i64.wrap ((IntKind.i64.wrap (4 * (IntKind.i64.wrap (Int.tdiv (IntKind.i64.wrap ((IntKind.i64.wrap ((IntKind.i64.wrap (j * a))+b)) - 1)) b)))) - 2))
def bs (a b:Int):List Int:=(List.range b.toNat).map fun (j:Nat)=>bnd a b ((j:Int)+1)
theorem J1m (a b:Int):(bs a b).length=b.toNat:=by simp [bs]
theorem I23:Sq (fun a b=>Ka a b 1 64 1 (min a 8)||((bs a b).all (fun n=>decide (0≤n)&&decide (n≤1000))&&(List.range 9).all (fun (j:Nat)=>raw a b (j:Int) == bnd a b (j:Int))))=true:=by kernel_rfl
def tr8 (a:Int)(bs:List Int):S0:=⟨[(.mk 1 [115] (.mk 1 0 (a - 1) 0 [] [] []) 0 (.mk 0 0 [] []) [] [] []),(.mk 4 [105] (.mk 1 0 a 0 [] [] []) 0 (.mk 0 0 [] []) [] [] [])],[(.mk 6 (.mk 0 0 [] []) (.mk 15 0 [] [(.mk 3 0 [105] []),(.mk 3 0 [115] [])]) [] [] a 0 0 [] [(.mk 0 (.mk 3 0 [105] []) (.mk 8 0 [] [(.mk 3 0 [105] []),(.mk 0 1 [] [])]) [] [] 0 0 0 [] [] [])] []),(.mk 8 (.mk 0 0 [] []) (.mk 0 0 [] []) [] [] 0 0 0 bs [] [])]⟩
def pa8 (n:Nat):List Pc:=L [115,101,99,114,101,116,32,115,58,32,105,110,116,91]++[.v 6]++L [46,46]++[.v 0]++L [93,59,10,118,97,114,32,105,58,32,105,110,116,91]++[.v 6]++L [46,46]++[.v 3]++L [93,59,10,98,101,103,105,110,10,9,119,104,105,108,101,32,105,32,60,32,115,32,108,105,109,105,116,32]++[.v 3]++L [32,123,10,9,9,105,32,61,32,105,32,43,32]++[.v 7]++L [59,10,9,125,10,9,115,101,116,116,108,101,32]++A19 11 n++L [59,10,101,110,100,10]
def pb8 (n:Nat):List Pc:=L [115,101,99,114,101,116,32,115,58,32,105,110,116,91,48,46,46]++[.v 0]++L [93,59,32,118,97,114,32,105,58,32,105,110,116,91,48,46,46]++[.v 3]++L [93,59,32,98,101,103,105,110,32,119,104,105,108,101,32,105,32,60,32,115,32,108,105,109,105,116,32]++[.v 3]++L [32,123,32,105,32,61,32,105,32,43,32,49,59,32,125,32,115,101,116,116,108,101,32]++A19 11 n++L [59,32,101,110,100]
def q0:List Pc:=L [115,101,99,114,101,116,32,115,58,32,105,110,116,91,48,46,46]++[.v 0]++L [93,59,10,118,97,114,32,105,58,32,105,110,116,91,48,46,46]++[.v 3]++L [93,59,10,98,101,103,105,110,32,119,104,105,108,101,32,105,32,60,32,115,32,108,105,109,105,116,32]++[.v 3]++L [32,123,32,105,32,61,32,105,32,43,32,49,59,32,125,32,115,101,116,116,108,101,32]++[.v 5]++L [59,32,101,110,100]
def qa8 (n:Nat):List Pc:=L [115,101,99,114,101,116,32,115,58,32,105,110,116,91,48,46,46]++[.v 0]++L [93,59,10,118,97,114,32,105,58,32,105,110,116,91,48,46,46]++[.v 3]++L [93,59,10,98,101,103,105,110,32,119,104,105,108,101,32,105,32,60,32,115,32,108,105,109,105,116,32]++[.v 3]++L [32,123,32,105,32,61,32,105,32,43,32,49,59,32,125,32,115,101,116,116,108,101,32]++A19 11 n++L [59,32,101,110,100]
theorem rp8:Mj (L (tbl.getD 8 P0.zero).text)=some q0:=by kernel_rfl
def ta8 (n:Nat):List (Int×Tx):=(T5 2000 (pa8 n)).getD []
structure J23 (n:Nat):Prop where
 a:T5 2000 (pa8 n)=some (ta8 n)
 b:T5 2000 (pb8 n)=some ((ta8 n).map Gh)
 q:T5 2000 (qa8 n)=some ((ta8 n).map Gh)
 u:(Vb n true (qa8 n)&&Vb n true (pa8 n)&&Vb n true (pb8 n)&&Nat.ble (qa8 n).length 1000&&Nat.ble (pb8 n).length 1000)=true
theorem K23:∀ n:Nat,1≤n→n≤8→J23 n
 | 1,_,_=>⟨by kernel_rfl,by kernel_rfl,by kernel_rfl,by kernel_rfl⟩
 | 2,_,_=>⟨by kernel_rfl,by kernel_rfl,by kernel_rfl,by kernel_rfl⟩
 | 3,_,_=>⟨by kernel_rfl,by kernel_rfl,by kernel_rfl,by kernel_rfl⟩
 | 4,_,_=>⟨by kernel_rfl,by kernel_rfl,by kernel_rfl,by kernel_rfl⟩
 | 5,_,_=>⟨by kernel_rfl,by kernel_rfl,by kernel_rfl,by kernel_rfl⟩
 | 6,_,_=>⟨by kernel_rfl,by kernel_rfl,by kernel_rfl,by kernel_rfl⟩
 | 7,_,_=>⟨by kernel_rfl,by kernel_rfl,by kernel_rfl,by kernel_rfl⟩
 | 8,_,_=>⟨by kernel_rfl,by kernel_rfl,by kernel_rfl,by kernel_rfl⟩
 | 0,h,_=>by omega
 | n+9,_,h=>by omega
theorem L23:Sq (fun a b=>Ka a b 1 64 1 (min a 8)||F6 (tr8 a (bs a b)) == 0)=true:=by kernel_rfl
theorem M23 (a b:Int)(ls:Str)(bs:List Int):Wh (tr8 a bs)=N2 (en a b ls bs) (pa8 bs.length):=by
 unfold pa8
 simp only [Ge,Lj,Xm,K1q,Y1t]
 simp [tr8,Wh,Co,Rs,Kb,V14,Bw,F0.text,F0.texts,ttx,C0.lines,C0.text,A0.text,A0.texts,etx,YtbaijagfgceilaaGreatDoor.par,lv,YtbaijagfgceilaaGreatDoor.sign,S18,exl,en,enl]
def upN (a b:Int)(k:Nat):List Str:=(List.range k).map fun (j:Nat)=>Lib.itoa (bnd a b ((j:Int)+1))
theorem K1m (a b:Int):upN a b b.toNat=(bs a b).map Lib.itoa:=by unfold upN bs; rw [List.map_map]; rfl
theorem J15 (a b:Int)(k:Nat):upN a b (k+1)=upN a b k++[Lib.itoa (bnd a b ((k:Int)+1))]:=by unfold upN; rw [List.range_succ,List.map_append]; rfl
theorem G1g (a b:Int)(k:Nat):(upN a b k).length=k:=by simp [upN]
theorem Z1t (a b:Int)(k:Nat):upN a b k=[] ↔ k=0:=by rw [← List.length_eq_zero_iff,G1g]
section
variable {a b:Int}(hr:1≤a∧a≤64∧1≤b∧b≤min a 8)
include hr
theorem N23:Ka a b 1 64 1 (min a 8)=false:=by
 unfold Ka
 rw [zqs (by omega),zqs (by omega),zqs (by omega),zqs (by omega)]
 rfl
theorem ok8:(∀ n∈bs a b,0≤n∧n≤1000)∧∀ j:Nat,j < 9→raw a b (j:Int)=bnd a b (j:Int):=by
 have:=Oe I23 (a:=a) (b:=b) (by omega) (by omega)
 rw [N23 hr,Bool.false_or,zqi] at this
 refine ⟨fun n hn=>?_,fun j c=>?_⟩
 ·have:=List.all_eq_true.1 this.1 n hn
  rw [zqi,decide_eq_true_eq,decide_eq_true_eq] at this
  exact this
 ·exact eq_of_beq (List.all_eq_true.1 this.2 j (List.mem_range.2 c))
theorem L1m {k:Nat}(hk:k < b.toNat):E3 (bnd a b ((k:Int)+1))∧(Lib.itoa (bnd a b ((k:Int)+1))).length≤19∧raw a b ((k:Int)+1)=bnd a b ((k:Int)+1):=by
 have h1:=(ok8 hr).1 (bnd a b ((k:Int)+1)) (by unfold bs; exact List.mem_map.2 ⟨k,List.mem_range.2 hk,rfl⟩)
 have h2:=(ok8 hr).2 (k+1) (by omega)
 have hs:E3 (bnd a b ((k:Int)+1)):=by unfold E3; omega
 exact ⟨hs,Jw hs,h2⟩
theorem B19:∀ k:Nat,k≤b.toNat→(jn (upN a b k)).length≤21 * k∧∀ c∈jn (upN a b k),c≠60
 | 0,_=>⟨zqr _,fun c hc=>absurd hc List.not_mem_nil⟩
 | k+1,h=>by
  obtain ⟨h1,h2⟩:=B19 k (by omega)
  obtain ⟨_,d,_⟩:=L1m hr (k:=k) (by omega)
  rw [J15,U19]
  split
  ·exact ⟨by omega,F1g _⟩
  ·refine ⟨by simp only [zqc,zqd,zqe]; omega,fun c hc=>?_⟩
   simp only [List.mem_append,List.mem_cons,List.not_mem_nil,or_false] at hc
   rcases hc with (hc | rfl | rfl) | hc
   ·exact h2 c hc
   ·decide
   ·decide
   ·exact F1g _ c hc
theorem B1i:∀ (d k:Nat),k+d=b.toNat→G9 a b (upN a b k) ((k:Int)+1)=some (jn ((bs a b).map Lib.itoa))
 | 0,k,h=>by
  have hk:k=b.toNat:=by omega
  subst hk
  rw [G9,zn (by simp; omega)]
  have e:=(B19 hr b.toNat (zqr _)).1
  unfold J1k
  rw [K1o,G1g,zp (zqj ⟨by omega,by omega⟩),ob,K1m]
 | d+1,k,h=>by
  obtain ⟨h1,_,c⟩:=L1m hr (k:=k) (by omega)
  rw [G9,zp (zqj (by omega)),zp (zqj (by omega))]
  show (Tg (raw a b ((k:Int)+1))>>=_)=_
  rw [c,Kw h1,ob,G1g,zp (zqj (by omega)),← J15,wr (by omega) (by omega)]
  exact B1i d (k+1) (by omega)
theorem I1w:Ik a b=some (jn ((bs a b).map Lib.itoa)):=B1i hr b.toNat 0 (Nat.zero_add _)
theorem M1m (ls:Str):∀ (d k:Nat),k+d=b.toNat→Qd a b (Lib.itoa (a - 1)) (jn (upN a b k)) ((k:Int)+1)=some (N2 (en a b ls (bs a b)) (pb8 (bs a b).length))
 | 0,k,h=>by
  have hk:k=b.toNat:=by omega
  subst hk
  have g:=(B19 hr b.toNat (zqr _)).1
  have w1:Y2 a=some (Lib.itoa a):=I1m (by unfold E3; omega)
  have j:=Jw (n:=a - 1) (by unfold E3; omega)
  have i:=Jw (n:=a) (by unfold E3; omega)
  rw [Qd,zn (by simp; omega)]
  repeat (first | rw [ob] | rw [zp (zqj (by (try simp only [zqc,zqd,zqe]); unfold maxLen; omega))] | rw [w1,ob])
  unfold pb8
  simp only [Ge,Lj,Xm,K1q]
  rw [K1m]
  simp [en,enl]
 | d+1,k,h=>by
  obtain ⟨h1,h2,c⟩:=L1m hr (k:=k) (by omega)
  have g:=(B19 hr k (by omega)).1
  have f:=M1m ls d (k+1) (by omega)
  have step:∀ s:Str,s.length≤200→s++Lib.itoa (bnd a b ((k:Int)+1))=jn (upN a b (k+1))→Sk a b (Lib.itoa (a - 1)) s ((k:Int)+1)=some (N2 (en a b ls (bs a b)) (pb8 (bs a b).length)):=fun s hs e=>by
   rw [Sk,zp (zqj (by omega))]
   show (Y2 (raw a b ((k:Int)+1))>>=_)=_
   rw [c,I1m h1,ob,zp (zqj (by unfold maxLen; omega)),e,wr (by omega) (by omega)]
   exact f
  rw [Qd,zp (zqj (by omega))]
  by_cases hk:k=0
  ·subst hk
   rw [zn (by simp)]
   exact step _ (by omega) (by rw [J15,U19,zp ((Z1t a b 0).2 rfl)]; rfl)
  ·rw [zp (zqj (by omega)),zp (zqj (by unfold maxLen; omega))]
   exact step _ (by simp only [zqc,zqd,zqe]; omega) (by rw [J15,U19,zn (fun e=>hk ((Z1t a b k).1 e))])
theorem W21 (ls:Str):A4 [115,101,97,114,99,104] a b=some (N2 (en a b ls (bs a b)) (pb8 (bs a b).length)):=by
 have w0:Y2 (IntKind.i64.wrap (a - 1))=some (Lib.itoa (a - 1)):=by rw [wr (by omega) (by omega)]; exact I1m (by unfold E3; omega)
 unfold A4
 rw [w0,ob,zn (by decide),zn (by decide),zn (by decide),zn (by decide),zn (by decide),zn (by decide),zn (by decide),zn (by decide)]
 exact M1m hr ls b.toNat 0 (Nat.zero_add _)
end
theorem O23 {a b:Int}(hf:fi [115,101,97,114,99,104] tbl 0=((8:Nat):Int))(f:Ka a b 1 64 1 (min a 8)=false):K3 [115,101,97,114,99,104] a b=some (tr8 a (bs a b),0)∧(U6=some true→J2 [115,101,97,114,99,104] a b=some true):=by
 have hr:=Gk f
 have hab:0≤a * b∧a * b≤4096:=Fw (by omega) (by omega) (by omega) (by omega)
 have g:=B19 hr b.toNat (zqr _)
 rw [K1m] at g
 have h:Par a b (jn ((bs a b).map Lib.itoa)) (bs a b):=⟨by omega,by omega,hab,by omega,g.2,(ok8 hr).1⟩
 have hc:F6 (tr8 a (bs a b))=0:=by
  have:=Oe L23 (a:=a) (b:=b) (by omega) (by omega)
  rw [f,Bool.false_or] at this
  exact eq_of_beq this
 have d:=K23 (bs a b).length (by rw [J1m]; omega) (by rw [J1m]; omega)
 have i:N2 (en a b (jn ((bs a b).map Lib.itoa)) (bs a b)) q0=N2 (en a b (jn ((bs a b).map Lib.itoa)) (bs a b)) (qa8 (bs a b).length):=by
  unfold q0 qa8
  simp only [Ge,Lj,Xm,K1q]
  rfl
 have e:(tr8 a (bs a b)).bulk≤1000000:=by
  have c:∀ l:List Int,(l.map fun _=>1).sum=l.length:=fun l=>by
   induction l with
   | nil=>rfl
   | cons x r j=>rw [List.map_cons,List.sum_cons,j,zqd]; omega
  have:∀ l:List Int,(tr8 a l).bulk≤1000+10 * l.length:=fun l=>by
   have:=c l
   simp only [tr8,S0.bulk,B0.bulks,B0.bulk,C0.bulks,C0.bulk,F0.bulk,F0.bulks,A0.bulk,A0.bulks,List.map_cons,List.map_nil,List.sum_cons,List.sum_nil,zqd,zqe]
   omega
  have:=this (bs a b)
  rw [J1m] at this
  omega
 exact Yh (x:=tbl.getD 8 P0.zero) (one:=true) rfl hf h rfl f ((zp rfl).trans (I1w hr)) rp8 i (M23 a b _ (bs a b)) (W21 hr _) rfl d.q d.a d.b (fun _=>by omega) d.u e hc
theorem Il:U6=some true:=by
 have h1:=X1h (i:=1) (x:=tbl.getD 1 P0.zero) (nm:=[100,105,103,105,116,115]) rfl (by kernel_rfl) 3 4 rfl (fun _=>rfl)
 have h2:=X1h (i:=8) (x:=tbl.getD 8 P0.zero) (nm:=[115,101,97,114,99,104]) rfl (by kernel_rfl) 10 3 rfl (fun _=>rfl)
 have c:=(N20 (a:=4) (b:=0) (by kernel_rfl) (by decide)).1
 rw [zn (by decide)] at h1 h2
 unfold U6
 rw [h1,ob,h2,ob,c,ob]
 rfl
theorem C1i {nm:Str}{a b c:Int}(hm:K3 nm a b=some (S0.mk [] [],c))(d:Ye nm a b=some c)(hc:(c != 0)=true):J2 nm a b=some true:=by
 have hz:OkP (S0.mk [] []):=I1l (by decide)
 unfold J2
 rw [Il,ob,zn (by decide)]
 split
 ·rfl
 ·rw [hm,ob,d,ob,zp hc]
  simp only [zqm,zt]
  rw [J1l _ _ hz,ob,T1e]
  rfl
theorem Zh {nm:Str}{i:Nat}{x:P0}(d:tbl[i]?=some x)(hf:fi nm tbl 0=(i:Int))(a b:Int){c h2:Int}(hs:Vv x.second a=some (c,h2))(e:Ye nm a b=Z4 a b x.low x.high c h2)
  (k:Ka a b x.low x.high c h2=false→J2 nm a b=some true):J2 nm a b=some true:=by
 cases ho:Ka a b x.low x.high c h2 with
 | false=>exact k ho
 | true=>exact C1i (E1w d hf a b hs ho) (by rw [e,U1w,ho,zp rfl]) (by decide)
theorem M1a (nm:Str)(a b:Int):J2 nm a b=some true:=by
 rcases fam nm with ⟨i,x,hi,d,hn,hf⟩ | ⟨h,hf⟩
 ·match i,hi with
  | 0,_=>cases d; subst hn; exact Zh rfl hf a b rfl rfl fun c=>(B23 hf c).2 Il
  | 1,_=>cases d; subst hn; exact Zh rfl hf a b rfl rfl fun c=>(C23 hf c).2 Il
  | 2,_=>cases d; subst hn; exact Zh rfl hf a b rfl rfl fun c=>(D23 hf c).2 Il
  | 3,_=>cases d; subst hn; exact Zh rfl hf a b rfl rfl fun c=>(N20 hf c).2 Il
  | 4,_=>cases d; subst hn; exact Zh rfl hf a b rfl rfl fun c=>(E23 hf c).2 Il
  | 5,_=>cases d; subst hn; exact Zh rfl hf a b rfl rfl fun c=>(F23 hf c).2 Il
  | 6,_=>cases d; subst hn; exact Zh rfl hf a b rfl rfl fun c=>(G23 hf c).2 Il
  | 7,_=>cases d; subst hn; exact Zh rfl hf a b rfl rfl fun c=>(H23 hf c).2 Il
  | 8,_=>cases d; subst hn; exact Zh rfl hf a b rfl rfl fun c=>(O23 hf c).2 Il
 ·exact C1i (O1y hf a b) (S1t h a b) (by decide)
end Go.Proofs.YtbaijagfgceilaaGreatDoor

