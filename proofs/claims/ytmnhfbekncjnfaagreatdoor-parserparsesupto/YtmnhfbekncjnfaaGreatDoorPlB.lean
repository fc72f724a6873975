/- A part of the proof of ParserParses. -/
import Derived.Test.YtmnhfbekncjnfaaGreatDoorPlA
import Derived.KernelRfl
namespace Go.Proofs.YtmnhfbekncjnfaaGreatDoor
open Go.Am
abbrev zT:I0:=I0.mk 0 0 0 0 [] [] []
abbrev zD:C0:=C0.mk 0 [] zT 0 zE [] [] []
def BD (k:Nat)(v:C0)(j:Nat):Prop:=v.bulk≤9000 * (j - k)
theorem B1m (a:Int)(n:Str)(t:I0)(i:Int)(v:A0)(ps vs:List C0)(b:List D0):(C0.mk a n t i v ps vs b).bulk=n.length+t.bulk+v.bulk+C0.bulks ps+C0.bulks vs+D0.bulks b+7:=by
 simp only [C0.bulk]; omega
theorem Bw:∀ (os:List C0) (t:C0),C0.bulks (os++[t])=C0.bulks os+t.bulk
 | [],t=>by simp only [List.nil_append,C0.bulks]; omega
 | x::r,t=>by simp only [List.cons_append,C0.bulks,Bw r t]; omega
theorem G1s {l:List K0}{k:Nat}{t:Str}(h:isT l k t=true):∃ x,l[k]?=some x∧x.Text=t:=by
 unfold isT at h
 split at h
 ·rename_i x hx
  rw [Bool.and_eq_true] at h
  exact ⟨x,hx,eq_of_beq h.1⟩
 ·cases h
section
set_option linter.unusedSectionVars false
variable {l:List K0}{e:Int}(hl:Tk l)
include hl
theorem H1s (kd:Int){k:Nat}(hk:k≤l.length) :
  (∃ n t j,k+3≤j∧j≤l.length∧n.length+t.bulk+9000≤9000 * (j - k)∧Z2 kd (mk l k e)=some (.ok (Jh kd n t 0,mk l j e))∧V6 l k=some (Jh 4 n t 0,((j:Nat):Int),true))∨
  (∃ v j,j≤l.length∧Z2 kd (mk l k e)=some (.pn (off l e j))∧V6 l k=some (v,((j:Nat):Int),false)):=by
 have hB:=hl.1
 unfold Z2
 rw [V6,Qm l e hB,Xh l hB]
 cases h1:G6 l k 0 with
 | false=>exact .inr ⟨_,k,hk,rfl,rfl⟩
 | true=>
  have h2:=Wh h1
  have ht:=Oj hl k
  simp only [if_true,ob,Bool.not_true,Bool.not_false,cond_false]
  rw [T3 l e hB,L2 l hB,ob]
  cases h3:isT l (k+1) [58] with
  | false=>exact .inr ⟨_,k+1,by omega,rfl,rfl⟩
  | true=>
   have h4:=R1 h3
   simp only [if_true,ob,Bool.not_true,Bool.false_eq_true,if_false]
   rw [w1 (by omega)]
   rcases (O1g hl (e:=e) (k:=k+1+1) (by omega)).typ with ⟨v,j,h5,h6,h0,h7,h8⟩ | ⟨v,j,h6,h7,h8⟩
   ·unfold BT at h0
    rw [h7,h8,ob,ob]
    exact .inl ⟨_,v,j,by omega,h6,by omega,rfl,rfl⟩
   ·rw [h7,h8,ob,ob]
    exact .inr ⟨_,j,h6,rfl,rfl⟩
theorem J18 {k j:Nat}{kd:Int}{n:Str}{t:I0}{v:A0}{x:C0×Int×Bool}(hx:x.1=Jh 4 n t 0)(hj:j≤l.length)(hk:k≤j)(hb:n.length+t.bulk+v.bulk+8≤9000 * (j+1 - k)){F:Pn B0→Option (Pn (C0×Bool×B0))}(hF:∀ n,F (.pn n)=some (.pn n))(hF2:∀ x,F (.ok x)=some (.ok (C0.mk kd n t 0 v [] [] [],true,x))) :
  JB l e (k+1) (BD k) (T0 [59] (mk l j e)>>=F) (Z5 l kd x v j):=by
 have hB:=hl.1
 unfold Z5
 rw [T3 l e hB,L2 l hB,ob,hx]
 cases h:isT l j [59] with
 | false=>simp only [Bool.false_eq_true,if_false,ob,hF,Bool.not_false,if_true]; exact .pn _ j hj
 | true=>
  have:=R1 h
  simp only [if_true,ob,hF2,Bool.not_true,Bool.false_eq_true,if_false]
  rw [w1 (by omega)]
  refine .ok _ (j+1) (by omega) (by omega) ?_
  unfold BD
  rw [B1m]
  simp only [C0.bulks,D0.bulks]
  omega
theorem C1j (k:Nat)(a b:Str):Fl l k [a,b]=some (if isT l k a=true then (if isT l (k+1) b=true then (((k+1+1:Nat):Int),true) else (((k+1:Nat):Int),false)) else ((k:Int),false)):=by
 have hB:=hl.1
 unfold Fl
 rw [Dc]
 have i0:idx [a,b] 0=some a:=rfl
 have i1:idx [a,b] 1=some b:=rfl
 rw [if_pos (by simp),i0,ob,L2 l hB,ob]
 cases h:isT l k a with
 | false=>rfl
 | true=>
  have h1:=R1 h
  simp only [Bool.not_true,Bool.false_eq_true,if_false,if_true]
  rw [w1 (by omega),show IntKind.i64.wrap (0+1)=1 by decide,Dc,if_pos (by simp),i1,ob,L2 l hB,ob]
  cases h2:isT l (k+1) b with
  | false=>rfl
  | true=>
   have h3:=R1 h2
   simp only [Bool.not_true,Bool.false_eq_true,if_false,if_true]
   rw [w1 (by omega),show IntKind.i64.wrap (1+1)=2 by decide,Dc,if_neg (by simp)]
theorem S1o (nm:Str)(t:I0)(ps:List C0)(x1:Str×B0)(y1:Str×Int×Bool)(x7:I0×B0)(y5:I0×Int×Bool)(hx1:x1.1=nm)(hy1:y1.1=nm)(hx7:x7.1=t)(hy5:y5.1=t) :
  ∀ (n j:Nat) (vs:List C0),l.length - j < n→j≤l.length→vs.length≤j→
  J l e (j+1) (fun v j'=>v.bulk≤nm.length+t.bulk+C0.bulks ps+C0.bulks vs+9000 * (j' - j)) (B5 (mk l j e) x1 x7 ps vs) (Ca l y1 y5 ps vs j)
 | 0,j,vs,h,_,_=>absurd h (Nat.not_lt_zero _)
 | n+1,j,vs,h,hj,ha=>by
  have hB:=hl.1
  rw [B5,Ca,O2 l e hB,ob,L2 l hB,ob]
  cases h1:isT l j [118,97,114] with
  | true=>
   have h2:=R1 h1
   simp only [B4,if_true]
   rw [w1 (by omega)]
   rcases D1d hl (e:=e) (k:=j+1) (by omega) with ⟨v,j2,h3,h4,⟨_,h5⟩,h6,h7⟩ | ⟨v,j2,h4,h6,h7⟩
   ·have r1:decide ((vs.length+1) * 257≤140737488355328)=true:=decide_eq_true (by unfold BB at hB; omega)
    rw [h6,h7,ob,ob]
    simp only [r1,if_true,Bool.not_true,Bool.false_eq_true,if_false]
    refine (S1o nm t ps x1 y1 x7 y5 hx1 hy1 hx7 hy5 n j2 (vs++[v]) (by omega) h4 (by rw [List.length_append]; simp only [List.length_singleton]; omega)).mono (by omega) fun v' j' h8 h9=>?_
    rw [Bw] at h9
    omega
   ·rw [h6,h7,ob,ob]
    simp only [Bool.not_false,if_true]
    exact .pn _ j2 h4
  | false=>
   simp only [J3,Bool.false_eq_true,if_false]
   refine J.bind (L1k hl hj) ?_ ?_ ?_
   ·exact fun _=>rfl
   ·exact fun v j _=>⟨_,rfl⟩
   intro v j2 h2 h3 h4
   simp only [Bool.not_true,Bool.not_false,if_true,cond_false]
   rw [T3 l e hB,L2 l hB,ob]
   cases h5:isT l j2 [114,101,116,117,114,110] with
   | false=>exact .pn _ j2 h3
   | true=>
    have h6:=R1 h5
    simp only [if_true,ob,Bool.not_true,Bool.false_eq_true,if_false]
    rw [w1 (by omega)]
    refine J.bind (Aw (e:=e) hl (k:=j2+1) (by omega)).expr ?_ ?_ ?_
    ·exact fun _=>rfl
    ·exact fun v j _=>⟨_,rfl⟩
    intro v2 j3 h7 h8 h9
    simp only [Bool.not_true,Bool.false_eq_true,if_false]
    rw [T3 l e hB,C1j hl,ob]
    cases h10:isT l j3 [59] with
    | false=>exact .pn _ j3 h8
    | true=>
     have h11:=R1 h10
     simp only [if_true,ob]
     rw [T3 l e hB]
     cases h12:isT l (j3+1) [125] with
     | false=>exact .pn _ (j3+1) (by omega)
     | true=>
      have h13:=R1 h12
      simp only [if_true,ob]
      rw [hx1,hy1,hx7,hy5]
      refine .ok _ (j3+1+1) (by omega) (by omega) ?_
      unfold BK at h4
      unfold BE at h9
      rw [B1m]
      omega
theorem T1o (nm:Str)(ps:List C0)(x1:Str×B0)(y1:Str×Int×Bool)(hx1:x1.1=nm)(hy1:y1.1=nm){j:Nat}(hj:j≤l.length) :
  J l e (j+1) (fun v j'=>v.bulk≤nm.length+C0.bulks ps+9000 * (j' - j)) (C5 (mk l j e) x1 ps) (Da l y1 ps j):=by
 have hB:=hl.1
 unfold C5 Da
 rw [T3 l e hB,C1j hl,ob]
 cases h1:isT l j [41] with
 | false=>exact .pn _ j hj
 | true=>
  have h2:=R1 h1
  simp only [if_true,ob]
  rw [T3 l e hB]
  cases h3:isT l (j+1) [58] with
  | false=>exact .pn _ (j+1) (by omega)
  | true=>
   have h4:=R1 h3
   simp only [if_true,ob,Bool.not_true,Bool.false_eq_true,if_false]
   refine J.bind (O1g (e:=e) hl (k:=j+1+1) (by omega)).typ ?_ ?_ ?_
   ·exact fun _=>rfl
   ·exact fun v j _=>⟨_,rfl⟩
   intro v j2 h5 h6 h7
   simp only [Bool.not_true,Bool.not_false,if_true,cond_false]
   rw [T3 l e hB,L2 l hB,ob]
   cases h8:isT l j2 [123] with
   | false=>exact .pn _ j2 h6
   | true=>
    have h9:=R1 h8
    simp only [if_true,ob,Bool.not_true,Bool.false_eq_true,if_false]
    rw [w1 (by omega)]
    refine (S1o hl nm v ps x1 y1 _ _ hx1 hy1 rfl rfl (l.length - (j2+1)+1) (j2+1) [] (by omega) (by omega) (Nat.zero_le _)).mono (by omega) fun v' j' h10 h11=>?_
    unfold BT at h7
    simp only [C0.bulks] at h11
    omega
theorem U1o (nm:Str)(x1:Str×B0)(y1:Str×Int×Bool)(hx1:x1.1=nm)(hy1:y1.1=nm):∀ (n j:Nat) (ps:List C0),l.length - j < n→j≤l.length→ps.length≤j→
  J l e (j+1) (fun v j'=>v.bulk≤nm.length+C0.bulks ps+9000 * (j' - j)) (D5 (mk l j e) x1 ps)
   (Y0 l j [44]>>=fun x8=>if (!x8)=true then Da l y1 ps j else M6 l y1 ps (IntKind.i64.wrap ((j:Int)+1)))
 | 0,j,ps,h,_,_=>absurd h (Nat.not_lt_zero _)
 | n+1,j,ps,h,hj,ha=>by
  have hB:=hl.1
  rw [D5,O2 l e hB,ob,L2 l hB,ob]
  cases h1:isT l j [44] with
  | false=>
   simp only [J3,Bool.false_eq_true,if_false,Bool.not_false,if_true]
   exact T1o hl nm ps x1 y1 hx1 hy1 hj
  | true=>
   have h2:=R1 h1
   simp only [B4,if_true,Bool.not_true,Bool.false_eq_true,if_false]
   rw [w1 (by omega),M6]
   rcases J1e hl (e:=e) (k:=j+1) (by omega) with ⟨v,j2,h3,h4,⟨_,h5⟩,h6,h7⟩ | ⟨v,j2,h4,h6,h7⟩
   ·have r1:decide ((ps.length+1) * 257≤140737488355328)=true:=decide_eq_true (by unfold BB at hB; omega)
    rw [h6,h7,ob,ob]
    simp only [r1,if_true,Bool.not_true,Bool.false_eq_true,if_false]
    refine (U1o nm x1 y1 hx1 hy1 n j2 (ps++[v]) (by omega) h4 (by rw [List.length_append]; simp only [List.length_singleton]; omega)).mono (by omega) fun v' j' h8 h9=>?_
    rw [Bw] at h9
    omega
   ·rw [h6,h7,ob,ob]
    simp only [Bool.not_false,if_true]
    exact .pn _ j2 h4
theorem C1m {k:Nat}(hk:k≤l.length):J l e (k+1) (BD k) (Eb (mk l k e)) (Dj l k):=by
 have hB:=hl.1
 unfold Eb Dj
 rw [Qm l e hB,Xh l hB]
 cases h1:G6 l k 0 with
 | false=>exact .pn _ k hk
 | true=>
  have h2:=Wh h1
  have ht:=Oj hl k
  simp only [if_true,ob,Bool.not_true,Bool.not_false,cond_false]
  rw [T3 l e hB,L2 l hB,ob]
  cases h3:isT l (k+1) [40] with
  | false=>exact .pn _ (k+1) (by omega)
  | true=>
   have h4:=R1 h3
   simp only [if_true,ob,Bool.not_true,Bool.false_eq_true,if_false]
   rw [U13 l e hB,ob,w1 (by omega),L2 l hB,ob]
   cases h5:isT l (k+1+1) [41] with
   | true=>
    rw [(Pb h5).1]
    simp only [Bool.not_true,Bool.false_eq_true,if_false]
    refine (T1o hl (txt l k) [] _ _ rfl rfl (by omega)).mono (by omega) fun v' j' h6 h7=>?_
    unfold BD
    simp only [C0.bulks] at h7
    omega
   | false=>
    simp only [Bool.not_false,if_true]
    cases h6:G6 l (k+1+1) 0 with
    | false=>
     simp only [Bool.false_eq_true,if_false]
     unfold C5
     rw [T3 l e hB,h5,M6,V6,Xh l hB,h6]
     exact .pn _ (k+1+1) (by omega)
    | true=>
     simp only [if_true]
     rw [M6]
     rcases J1e hl (e:=e) (k:=k+1+1) (by omega) with ⟨v,j2,m3,m4,⟨_,m5⟩,m6,m7⟩ | ⟨v,j2,m4,m6,m7⟩
     ·have r1:decide ((0+1) * 257≤140737488355328)=true:=by decide
      rw [m6,m7,ob,ob]
      simp only [r1,if_true,Bool.not_true,Bool.false_eq_true,if_false,List.length_nil,List.nil_append]
      unfold Lc
      refine (U1o hl (txt l k) _ _ rfl rfl (l.length - j2+1) j2 [v] (by omega) m4 (by simp only [List.length_singleton]; omega)).mono (by omega) fun v' j' h8 h9=>?_
      unfold BD
      simp only [C0.bulks] at h9
      omega
     ·rw [m6,m7,ob,ob]
      simp only [Bool.not_false,if_true]
      exact .pn _ j2 m4
def dcl (l:List K0)(k:Nat):Bool:=isT l k [116,121,112,101]||(isT l k [115,101,99,114,101,116]||(isT l k [112,117,98,108,105,99]||(isT l k [114,97,110,100,111,109]||(isT l k [118,97,114]||(isT l k [104,97,116,99,104]||isT l k [102,117,110,99])))))
theorem D1m (k:Nat):Cj l k=some (dcl l k):=by
 have hB:=hl.1
 unfold Cj dcl
 simp only [L2 l hB,ob]
 generalize isT l k [116,121,112,101]=b0
 generalize isT l k [115,101,99,114,101,116]=b1
 generalize isT l k [112,117,98,108,105,99]=b2
 generalize isT l k [114,97,110,100,111,109]=b3
 generalize isT l k [118,97,114]=b4
 generalize isT l k [104,97,116,99,104]=b5
 generalize isT l k [102,117,110,99]=b6
 cases b0 with
 | true=>rfl
 | false=>
 cases b1 with
 | true=>rfl
 | false=>
 cases b2 with
 | true=>rfl
 | false=>
 cases b3 with
 | true=>rfl
 | false=>
 cases b4 with
 | true=>rfl
 | false=>
 cases b5 with
 | true=>rfl
 | false=>rfl
theorem I1s {k:Nat}(hb:dcl l k=false):E5 (mk l k e)=some (.ok (zD,false,mk l k e)):=by
 have hB:=hl.1
 unfold dcl at hb
 simp only [Bool.or_eq_false_iff] at hb
 obtain ⟨h1,h2,h3,h4,h5,h6,h7⟩:=hb
 unfold E5
 simp only [O2 l e hB,h1,h2,h3,h4,h5,h6,h7,J3,ob,Bool.false_eq_true,if_false]
theorem W1t {k:Nat}(hk:k≤l.length)(hb:dcl l k=true):JB l e (k+1) (BD k) (E5 (mk l k e)) (Df l k):=by
 have hB:=hl.1
 unfold E5 Df
 rw [O2 l e hB,ob]
 cases h1:isT l k [116,121,112,101] with
 | true=>
  have hlt:=R1 h1
  simp only [B4,if_true,L2 l hB,ob,h1,Gl h1 (t':=[118,97,114]) rfl,Gl h1 (t':=[102,117,110,99]) rfl,Bool.false_eq_true,if_false]
  rw [w1 (by omega),Qm l e hB,Xh l hB]
  cases h2:G6 l (k+1) 0 with
  | false=>exact .pn _ (k+1) (by omega)
  | true=>
   have h3:=Wh h2
   have ht:=Oj hl (k+1)
   simp only [if_true,ob,Bool.not_true,Bool.not_false,cond_false]
   rw [T3 l e hB,L2 l hB,ob]
   cases h4:isT l (k+1+1) [61] with
   | false=>exact .pn _ (k+1+1) (by omega)
   | true=>
    have h5:=R1 h4
    simp only [if_true,ob,Bool.not_true,Bool.false_eq_true,if_false]
    rw [w1 (by omega)]
    refine JB.bind (O1g (e:=e) hl (k:=k+1+1+1) (by omega)).typ ?_ ?_ ?_
    ·exact fun _=>rfl
    ·exact fun v j _=>⟨_,rfl⟩
    intro v j h6 h7 h8
    simp only [Bool.not_true,Bool.not_false,if_true,cond_false]
    rw [T3 l e hB,L2 l hB,ob]
    cases h9:isT l j [59] with
    | false=>exact .pn _ j h7
    | true=>
     have h10:=R1 h9
     simp only [if_true,ob,Bool.not_true,Bool.false_eq_true,if_false]
     rw [w1 (by omega)]
     refine .ok _ (j+1) (by omega) (by omega) ?_
     unfold BD
     unfold BT at h8
     rw [B1m]
     simp only [C0.bulks,D0.bulks,Yf,List.length_nil]
     omega
 | false=>
 simp only [J3,Bool.false_eq_true,if_false]
 have word:∀ (w:Str) (kd:Int),isT l k w=true→(w == [118,97,114])=false→(w == [102,117,110,99])=false→
   ∀ {F:Pn (C0×B0)→Option (Pn (C0×Bool×B0))} {G:K0→C0×Int×Bool→Option (C0×Int×Bool)},(∀ n,F (.pn n)=some (.pn n))→
   (∀ x n t j,x.Text=w→k+4≤j→j≤l.length→n.length+t.bulk+18000≤9000 * (j - k)→JB l e (k+1) (BD k) (F (.ok (Jh kd n t 0,mk l j e))) (G x (Jh 4 n t 0,(j:Int),true)))→
   JB l e (k+1) (BD k) (Z2 kd (mk l (k+1) e)>>=F) (idx l k>>=fun x10=>V6 l (IntKind.i64.wrap ((k:Int)+1))>>=fun x11=>if (!x11.2.2)=true then some (x11.1,x11.2.1,false) else G x10 x11):=by
  intro w kd hw hv hf F G hF hG
  have hlt:=R1 hw
  obtain ⟨x,hx,hxt⟩:=G1s hw
  rw [Gs,hx,ob,w1 (by omega)]
  rcases H1s hl (e:=e) kd (k:=k+1) (by omega) with ⟨n,t,j,m1,m2,m3,m4,m5⟩ | ⟨v,j,m2,m4,m5⟩
  ·rw [m4,m5,ob,ob]
   simp only [Bool.not_true,Bool.false_eq_true,if_false]
   exact hG x n t j hxt (by omega) m2 (by omega)
  ·rw [m4,m5,ob,ob,hF]
   simp only [Bool.not_false,if_true]
   exact .pn _ j m2
 rw [O2 l e hB,ob]
 cases h2:isT l k [115,101,99,114,101,116] with
 | true=>
  simp only [B4,if_true,L2 l hB,ob,h1,Gl h2 (t':=[118,97,114]) rfl,Gl h2 (t':=[102,117,110,99]) rfl,Bool.false_eq_true,if_false]
  refine word [115,101,99,114,101,116] 1 h2 rfl rfl (fun _=>rfl) fun x n t j m1 m2 m3 m4=>?_
  rw [m1]
  exact J18 hl (x:=(Jh 4 n t 0,(j:Int),true)) rfl m3 (by omega) (by rw [show (Jh 4 n t 0).Value=zE from rfl,Yf]; simp only [List.length_nil]; omega) (fun _=>rfl) (fun _=>rfl)
 | false=>
 simp only [J3,Bool.false_eq_true,if_false]
 rw [O2 l e hB,ob]
 cases h3:isT l k [112,117,98,108,105,99] with
 | true=>
  simp only [B4,if_true,L2 l hB,ob,h1,Gl h3 (t':=[118,97,114]) rfl,Gl h3 (t':=[102,117,110,99]) rfl,Bool.false_eq_true,if_false]
  refine word [112,117,98,108,105,99] 2 h3 rfl rfl (fun _=>rfl) fun x n t j m1 m2 m3 m4=>?_
  rw [m1]
  exact J18 hl (x:=(Jh 4 n t 0,(j:Int),true)) rfl m3 (by omega) (by rw [show (Jh 4 n t 0).Value=zE from rfl,Yf]; simp only [List.length_nil]; omega) (fun _=>rfl) (fun _=>rfl)
 | false=>
 simp only [J3,Bool.false_eq_true,if_false]
 rw [O2 l e hB,ob]
 cases h4:isT l k [114,97,110,100,111,109] with
 | true=>
  simp only [B4,if_true,L2 l hB,ob,h1,Gl h4 (t':=[118,97,114]) rfl,Gl h4 (t':=[102,117,110,99]) rfl,Bool.false_eq_true,if_false]
  refine word [114,97,110,100,111,109] 3 h4 rfl rfl (fun _=>rfl) fun x n t j m1 m2 m3 m4=>?_
  rw [m1]
  exact J18 hl (x:=(Jh 4 n t 0,(j:Int),true)) rfl m3 (by omega) (by rw [show (Jh 4 n t 0).Value=zE from rfl,Yf]; simp only [List.length_nil]; omega) (fun _=>rfl) (fun _=>rfl)
 | false=>
 simp only [J3,Bool.false_eq_true,if_false]
 rw [O2 l e hB,ob]
 cases h5:isT l k [118,97,114] with
 | true=>
  have hlt:=R1 h5
  simp only [B4,if_true,L2 l hB,ob,h5]
  rw [w1 (by omega)]
  refine JB.rsame (JB.lift ((D1d hl (e:=e) (k:=k+1) (by omega)).mono (by omega) fun v j m1 m2=>?_) ?_ ?_)
  ·obtain ⟨_,m2⟩:=m2
   unfold BD
   omega
  ·exact fun _=>rfl
  ·exact fun _=>rfl
 | false=>
 simp only [J3,Bool.false_eq_true,if_false]
 rw [O2 l e hB,ob]
 cases h6:isT l k [104,97,116,99,104] with
 | true=>
  simp only [B4,if_true,L2 l hB,ob,h1,h5,Gl h6 (t':=[102,117,110,99]) rfl,Bool.false_eq_true,if_false]
  refine word [104,97,116,99,104] 5 h6 rfl rfl (fun _=>rfl) fun x n t j m1 m2 m3 m4=>?_
  rw [m1]
  rw [if_neg (by decide),if_neg (by decide),if_neg (by decide)]
  simp only
  rw [T3 l e hB,L2 l hB,ob]
  cases h7:isT l j [61] with
  | false=>exact .pn _ j m3
  | true=>
   have h8:=R1 h7
   simp only [if_true,ob,Bool.not_true,Bool.false_eq_true,if_false]
   rw [w1 (by omega)]
   rcases (Aw (e:=e) hl (k:=j+1) (by omega)).expr with ⟨v,j2,q1,q2,q3,q4,q5⟩ | ⟨v,j2,q2,q4,q5⟩
   ·rw [q4,q5,ob,ob]
    simp only [Bool.not_true,Bool.false_eq_true,if_false]
    unfold BE at q3
    exact J18 hl (x:=(Jh 4 n t 0,(j:Int),true)) rfl q2 (by omega) (by omega) (fun _=>rfl) (fun _=>rfl)
   ·rw [q4,q5,ob,ob]
    exact .pn _ j2 q2
 | false=>
 simp only [J3,Bool.false_eq_true,if_false]
 rw [O2 l e hB,ob]
 cases h7:isT l k [102,117,110,99] with
 | false=>
  unfold dcl at hb
  rw [h1,h2,h3,h4,h5,h6,h7] at hb
  cases hb
 | true=>
  have hlt:=R1 h7
  simp only [B4,if_true,L2 l hB,ob,h5,h7,Bool.false_eq_true,if_false]
  rw [w1 (by omega)]
  refine JB.rsame (JB.lift ((C1m hl (e:=e) (k:=k+1) (by omega)).mono (by omega) fun v j m1 m2=>?_) ?_ ?_)
  ·unfold BD at m2 ⊢
   omega
  ·exact fun _=>rfl
  ·exact fun _=>rfl
theorem V1o:∀ (n k:Nat) (ds:List C0),l.length - k < n→k≤l.length→ds.length≤k→
  J l e (k+1) (fun v j=>v.bulk≤C0.bulks ds+9000 * (j - k)) (L5 (mk l k e) ds) (Nb l ds k)
 | 0,k,ds,h,_,_=>absurd h (Nat.not_lt_zero _)
 | n+1,k,ds,h,hk,hd=>by
  have hB:=hl.1
  rw [L5,Nb,D1m hl,ob]
  cases hb:dcl l k with
  | true=>
   rw [if_pos rfl]
   rcases W1t hl (e:=e) hk hb with ⟨v,j,h1,h2,h3,h4,h5⟩ | ⟨v,j,h2,h4,h5⟩
   ·have r1:decide ((ds.length+1) * 257≤140737488355328)=true:=decide_eq_true (by unfold BB at hB; omega)
    rw [h4,h5,ob,ob]
    simp only [r1,if_true,Bool.not_true,Bool.false_eq_true,if_false]
    refine (V1o n j (ds++[v]) (by omega) h2 (by rw [List.length_append]; simp only [List.length_singleton]; omega)).mono (by omega) fun v' j' h6 h7=>?_
    unfold BD at h3
    rw [Bw] at h7
    omega
   ·rw [h4,h5,ob,ob]
    exact .pn _ j h2
  | false=>
   rw [I1s hl hb,ob]
   simp only [Bool.not_false,if_true,Bool.false_eq_true,if_false]
   rw [T3 l e hB,L2 l hB,ob]
   cases h1:isT l k [98,101,103,105,110] with
   | false=>exact .pn _ k hk
   | true=>
    have h2:=R1 h1
    simp only [if_true,ob,Bool.not_true,Bool.false_eq_true,if_false]
    rw [w1 (by omega)]
    refine J.bind (L1k hl (k:=k+1) (by omega)) ?_ ?_ ?_
    ·exact fun _=>rfl
    ·exact fun v j _=>⟨_,rfl⟩
    intro v j h3 h4 h5
    simp only [Bool.not_true,Bool.not_false,if_true,cond_false]
    rw [T3 l e hB,L2 l hB,ob]
    cases h6:isT l j [101,110,100] with
    | false=>exact .pn _ j h4
    | true=>
     have h7:=R1 h6
     simp only [if_true,ob,Bool.not_true,Bool.false_eq_true,if_false]
     rw [w1 (by omega)]
     refine .ok _ (j+1) (by omega) (by omega) ?_
     unfold BK at h5
     simp only [A1.bulk]
     omega
theorem W1o:J l e 1 (fun v j=>v.bulk≤9000 * j) (S6 (mk l 0 e)) (Cf l (0:Nat)):=by
 unfold S6 Cf
 refine (V1o hl (e:=e) (l.length+1) 0 [] (by omega) (Nat.zero_le _) (Nat.zero_le _)).mono (by omega) fun v j h1 h2=>?_
 simp only [C0.bulks] at h2
 omega
end
end Go.Proofs.YtmnhfbekncjnfaaGreatDoor

namespace Go.Proofs.YtmnhfbekncjnfaaGreatDoor
open Go.Am
theorem X1t {p:A1}(h:p.bulk≤80000000):OkP p:=by
 cases p
 simp only [A1.bulk] at h
 exact ⟨by unfold OkD BB; simp only; omega,by unfold OkS BB; simp only; omega⟩
theorem E1m (p:A1):M1g p p=true:=by unfold M1g; rw [V1l,X1c]; rfl
theorem F1m (text:Str):∃ v,Cm text=some v∧Vn text=some v∧OkP v.1:=by
 have hz:OkP (A1.mk [] []):=C1t (by decide)
 obtain ⟨x1,x2⟩:=E1t text
 unfold Cm Vn Zm
 rw [x1,x2,ob,ob]
 generalize hL:U17 text=L
 by_cases h0:L.2.2=0
 ·have hb:(L.2.2 != 0)=false:=by rw [h0]; rfl
  obtain ⟨ht,hlen⟩:=Q1q (s:=text) (by rw [hL]; exact h0)
  rw [hL] at ht hlen
  simp only [hb,Bool.false_eq_true,if_false]
  have hJ:=W1o (l:=L.1) (e:=(text.length:Int)) ht
  unfold Ym
  rcases hJ with ⟨v,j,h1,h2,h3,h4,h5⟩ | ⟨v,j,h2,h4,h5⟩
  ·have h4':S6 (B0.mk L.1 0 (text.length:Int))=some (.ok (v,mk L.1 j (text.length:Int))):=h4
   have h5':Cf L.1 0=some (v,((j:Nat):Int),true):=h5
   rw [h4',h5',ob,ob]
   simp only [ob,Bool.not_true,cond_false]
   cases hj:decide ((j:Int) < (L.1.length:Int)) with
   | true=>
    simp only [if_true,X1i L.1 _ ht.1,A1j,ob]
    exact ⟨_,rfl,rfl,hz⟩
   | false=>
    have hv:OkP v:=X1t (by omega)
    simp only [Bool.false_eq_true,if_false,ob]
    rw [E1q v hv,F1o v hv]
    simp only [ob,bne_self_eq_false,Bool.false_eq_true,if_false]
    by_cases hc:(W1c v != 0)=true
    ·rw [if_pos hc]; exact ⟨_,rfl,rfl,hz⟩
    ·rw [if_neg hc]; exact ⟨_,rfl,rfl,hv⟩
  ·have h4':S6 (B0.mk L.1 0 (text.length:Int))=some (.pn (off L.1 (text.length:Int) j)):=h4
   have h5':Cf L.1 0=some (v,((j:Nat):Int),false):=h5
   rw [h4',h5',ob,ob]
   simp only [ob,Bool.not_false,cond_true,if_true,A1j]
   exact ⟨_,rfl,rfl,hz⟩
 ·have hb:(L.2.2 != 0)=true:=by simpa using h0
  simp only [hb,if_true,ob]
  exact ⟨_,rfl,rfl,hz⟩
theorem Z18 (text:Str)(hk:Ci=some true):Rh text=some true:=by
 unfold Rh
 rw [hk,ob]
 simp only [Bool.not_true,Bool.false_eq_true,if_false]
 cases decide ((text.length:Int) > 2000) with
 | true=>rfl
 | false=>
  obtain ⟨v,h1,h2,h3⟩:=F1m text
  simp only [Bool.false_eq_true,if_false]
  rw [h1,h2,ob,ob]
  simp only [beq_self_eq_true,cond_true,if_true]
  rw [J1q v.1 v.1 h3,ob,E1m]
end Go.Proofs.YtmnhfbekncjnfaaGreatDoor

namespace Go.Proofs.YtmnhfbekncjnfaaGreatDoor
open Go.Am
end Go.Proofs.YtmnhfbekncjnfaaGreatDoor

namespace Go.Proofs.YtmnhfbekncjnfaaGreatDoor
open Go.Am
section
variable {l l':List K0}{s:Nat}{w:Bool}{α β:Type}
end
section
set_option linter.unusedSectionVars false
variable {l l':List K0}{s:Nat}{w:Bool}{α β:Type}(hl:Tk l)(hl':Tk l')(hs:l.length+s+8≤BB)
include hl hl' hs
end
end Go.Proofs.YtmnhfbekncjnfaaGreatDoor

namespace Go.Proofs.YtmnhfbekncjnfaaGreatDoor
open Go.Am
section
set_option linter.unusedSectionVars false
variable {l l':List K0}{s:Nat}{w:Bool}{α β:Type}(hl:Tk l)(hl':Tk l')(hs:l.length+s+8≤BB)
include hl hl' hs
end
end Go.Proofs.YtmnhfbekncjnfaaGreatDoor

namespace Go.Proofs.YtmnhfbekncjnfaaGreatDoor
open Go.Am
section
set_option linter.unusedSectionVars false
variable {l l':List K0}{s:Nat}{α β:Type}(hl:Tk l)(hl':Tk l')(hs:l.length+s+8≤BB)
include hl hl' hs
end
end Go.Proofs.YtmnhfbekncjnfaaGreatDoor

namespace Go.Proofs.YtmnhfbekncjnfaaGreatDoor
open Go.Am
theorem U1a:Ci=some true:=C1e 60 true (by kernel_rfl)
end Go.Proofs.YtmnhfbekncjnfaaGreatDoor

