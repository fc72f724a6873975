/- A part of the proof of ParserFirst. -/
import Derived.Test.YtmnhfbekncjnfaaGreatDoorPlA
import Derived.KernelRfl
namespace Go.Proofs.YtmnhfbekncjnfaaGreatDoor
open Go.Am
abbrev zT:F0:=F0.mk 0 0 0 0 [] [] []
abbrev zD:D0:=D0.mk 0 [] zT 0 zE [] [] []
def BD (k:Nat)(v:D0)(j:Nat):Prop:=v.bulk≤9000 * (j - k)
theorem D1g (a:Int)(n:Str)(t:F0)(i:Int)(v:A0)(ps vs:List D0)(b:List E0):(D0.mk a n t i v ps vs b).bulk=n.length+t.bulk+v.bulk+D0.bulks ps+D0.bulks vs+E0.bulks b+7:=by
 simp only [D0.bulk]; omega
theorem Yt:∀ (os:List D0) (t:D0),D0.bulks (os++[t])=D0.bulks os+t.bulk
 | [],t=>by simp only [List.nil_append,D0.bulks]; omega
 | x::r,t=>by simp only [List.cons_append,D0.bulks,Yt r t]; omega
theorem N1m {l:List K0}{k:Nat}{t:Str}(h:isT l k t=true):∃ x,l[k]?=some x∧x.Text=t:=by
 unfold isT at h
 split at h
 ·rename_i x hx
  rw [Bool.and_eq_true] at h
  exact ⟨x,hx,eq_of_beq h.1⟩
 ·cases h
section
set_option linter.unusedSectionVars false
variable {l:List K0}{e:Int}(hl:Uh l)
include hl
theorem O1m (kd:Int){k:Nat}(hk:k≤l.length) :
  (∃ n t j,k+3≤j∧j≤l.length∧n.length+t.bulk+9000≤9000 * (j - k)∧W2 kd (mk l k e)=some (.ok (Rg kd n t 0,mk l j e))∧J5 l k=some (Rg 4 n t 0,((j:Nat):Int),true))∨
  (∃ v j,j≤l.length∧W2 kd (mk l k e)=some (.pn (off l e j))∧J5 l k=some (v,((j:Nat):Int),false)):=by
 have hB:=hl.1
 unfold W2
 rw [J5,Bm l e hB,Pe l hB]
 cases h1:P4 l k 0 with
 | false=>exact .inr ⟨_,k,hk,rfl,rfl⟩
 | true=>
  have h2:=Kh h1
  have ht:=Gj hl k
  simp only [if_true,ob,Bool.not_true,Bool.not_false,cond_false]
  rw [S3 l e hB,F2 l hB,ob]
  cases h3:isT l (k+1) [58] with
  | false=>exact .inr ⟨_,k+1,by omega,rfl,rfl⟩
  | true=>
   have h4:=L1 h3
   simp only [if_true,ob,Bool.not_true,Bool.false_eq_true,if_false]
   rw [w1 (by omega)]
   rcases (E1a hl (e:=e) (k:=k+1+1) (by omega)).typ with ⟨v,j,h5,h6,h0,h7,h8⟩ | ⟨v,j,h6,h7,h8⟩
   ·unfold BT at h0
    rw [h7,h8,ob,ob]
    exact .inl ⟨_,v,j,by omega,h6,by omega,rfl,rfl⟩
   ·rw [h7,h8,ob,ob]
    exact .inr ⟨_,j,h6,rfl,rfl⟩
theorem C13 {k j:Nat}{kd:Int}{n:Str}{t:F0}{v:A0}{x:D0×Int×Bool}(hx:x.1=Rg 4 n t 0)(hj:j≤l.length)(hk:k≤j)(hb:n.length+t.bulk+v.bulk+8≤9000 * (j+1 - k)){F:Pn B0→Option (Pn (D0×Bool×B0))}(hF:∀ n,F (.pn n)=some (.pn n))(hF2:∀ x,F (.ok x)=some (.ok (D0.mk kd n t 0 v [] [] [],true,x))) :
  JB l e (k+1) (BD k) (R0 [59] (mk l j e)>>=F) (H5 l kd x v j):=by
 have hB:=hl.1
 unfold H5
 rw [S3 l e hB,F2 l hB,ob,hx]
 cases h:isT l j [59] with
 | false=>simp only [Bool.false_eq_true,if_false,ob,hF,Bool.not_false,if_true]; exact .pn _ j hj
 | true=>
  have:=L1 h
  simp only [if_true,ob,hF2,Bool.not_true,Bool.false_eq_true,if_false]
  rw [w1 (by omega)]
  refine .ok _ (j+1) (by omega) (by omega) ?_
  unfold BD
  rw [D1g]
  simp only [D0.bulks,E0.bulks]
  omega
theorem Wz (k:Nat)(a b:Str):Sk l k [a,b]=some (if isT l k a=true then (if isT l (k+1) b=true then (((k+1+1:Nat):Int),true) else (((k+1:Nat):Int),false)) else ((k:Int),false)):=by
 have hB:=hl.1
 unfold Sk
 rw [Wi]
 have i0:idx [a,b] 0=some a:=rfl
 have i1:idx [a,b] 1=some b:=rfl
 rw [if_pos (by simp),i0,ob,F2 l hB,ob]
 cases h:isT l k a with
 | false=>rfl
 | true=>
  have h1:=L1 h
  simp only [Bool.not_true,Bool.false_eq_true,if_false,if_true]
  rw [w1 (by omega),show IntKind.i64.wrap (0+1)=1 by decide,Wi,if_pos (by simp),i1,ob,F2 l hB,ob]
  cases h2:isT l (k+1) b with
  | false=>rfl
  | true=>
   have h3:=L1 h2
   simp only [Bool.not_true,Bool.false_eq_true,if_false,if_true]
   rw [w1 (by omega),show IntKind.i64.wrap (1+1)=2 by decide,Wi,if_neg (by simp)]
theorem U1i (nm:Str)(t:F0)(ps:List D0)(x1:Str×B0)(y1:Str×Int×Bool)(x7:F0×B0)(y5:F0×Int×Bool)(hx1:x1.1=nm)(hy1:y1.1=nm)(hx7:x7.1=t)(hy5:y5.1=t) :
  ∀ (n j:Nat) (vs:List D0),l.length - j < n→j≤l.length→vs.length≤j→
  J l e (j+1) (fun v j'=>v.bulk≤nm.length+t.bulk+D0.bulks ps+D0.bulks vs+9000 * (j' - j)) (D5 (mk l j e) x1 x7 ps vs) (T7 l y1 y5 ps vs j)
 | 0,j,vs,h,_,_=>absurd h (Nat.not_lt_zero _)
 | n+1,j,vs,h,hj,ha=>by
  have hB:=hl.1
  rw [D5,T7,P2 l e hB,ob,F2 l hB,ob]
  cases h1:isT l j [118,97,114] with
  | true=>
   have h2:=L1 h1
   simp only [Z3,if_true]
   rw [w1 (by omega)]
   rcases W16 hl (e:=e) (k:=j+1) (by omega) with ⟨v,j2,h3,h4,⟨_,h5⟩,h6,h7⟩ | ⟨v,j2,h4,h6,h7⟩
   ·have r1:decide ((vs.length+1) * 257≤140737488355328)=true:=decide_eq_true (by unfold BB at hB; omega)
    rw [h6,h7,ob,ob]
    simp only [r1,if_true,Bool.not_true,Bool.false_eq_true,if_false]
    refine (U1i nm t ps x1 y1 x7 y5 hx1 hy1 hx7 hy5 n j2 (vs++[v]) (by omega) h4 (by rw [List.length_append]; simp only [List.length_singleton]; omega)).mono (by omega) fun v' j' h8 h9=>?_
    rw [Yt] at h9
    omega
   ·rw [h6,h7,ob,ob]
    simp only [Bool.not_false,if_true]
    exact .pn _ j2 h4
  | false=>
   simp only [F3,Bool.false_eq_true,if_false]
   refine J.bind (K1e hl hj) ?_ ?_ ?_
   ·exact fun _=>rfl
   ·exact fun v j _=>⟨_,rfl⟩
   intro v j2 h2 h3 h4
   simp only [Bool.not_true,Bool.not_false,if_true,cond_false]
   rw [S3 l e hB,F2 l hB,ob]
   cases h5:isT l j2 [114,101,116,117,114,110] with
   | false=>exact .pn _ j2 h3
   | true=>
    have h6:=L1 h5
    simp only [if_true,ob,Bool.not_true,Bool.false_eq_true,if_false]
    rw [w1 (by omega)]
    refine J.bind (Xt (e:=e) hl (k:=j2+1) (by omega)).expr ?_ ?_ ?_
    ·exact fun _=>rfl
    ·exact fun v j _=>⟨_,rfl⟩
    intro v2 j3 h7 h8 h9
    simp only [Bool.not_true,Bool.false_eq_true,if_false]
    rw [S3 l e hB,Wz hl,ob]
    cases h10:isT l j3 [59] with
    | false=>exact .pn _ j3 h8
    | true=>
     have h11:=L1 h10
     simp only [if_true,ob]
     rw [S3 l e hB]
     cases h12:isT l (j3+1) [125] with
     | false=>exact .pn _ (j3+1) (by omega)
     | true=>
      have h13:=L1 h12
      simp only [if_true,ob]
      rw [hx1,hy1,hx7,hy5]
      refine .ok _ (j3+1+1) (by omega) (by omega) ?_
      unfold BK at h4
      unfold BE at h9
      rw [D1g]
      omega
theorem V1i (nm:Str)(ps:List D0)(x1:Str×B0)(y1:Str×Int×Bool)(hx1:x1.1=nm)(hy1:y1.1=nm){j:Nat}(hj:j≤l.length) :
  J l e (j+1) (fun v j'=>v.bulk≤nm.length+D0.bulks ps+9000 * (j' - j)) (E5 (mk l j e) x1 ps) (U7 l y1 ps j):=by
 have hB:=hl.1
 unfold E5 U7
 rw [S3 l e hB,Wz hl,ob]
 cases h1:isT l j [41] with
 | false=>exact .pn _ j hj
 | true=>
  have h2:=L1 h1
  simp only [if_true,ob]
  rw [S3 l e hB]
  cases h3:isT l (j+1) [58] with
  | false=>exact .pn _ (j+1) (by omega)
  | true=>
   have h4:=L1 h3
   simp only [if_true,ob,Bool.not_true,Bool.false_eq_true,if_false]
   refine J.bind (E1a (e:=e) hl (k:=j+1+1) (by omega)).typ ?_ ?_ ?_
   ·exact fun _=>rfl
   ·exact fun v j _=>⟨_,rfl⟩
   intro v j2 h5 h6 h7
   simp only [Bool.not_true,Bool.not_false,if_true,cond_false]
   rw [S3 l e hB,F2 l hB,ob]
   cases h8:isT l j2 [123] with
   | false=>exact .pn _ j2 h6
   | true=>
    have h9:=L1 h8
    simp only [if_true,ob,Bool.not_true,Bool.false_eq_true,if_false]
    rw [w1 (by omega)]
    refine (U1i hl nm v ps x1 y1 _ _ hx1 hy1 rfl rfl (l.length - (j2+1)+1) (j2+1) [] (by omega) (by omega) (Nat.zero_le _)).mono (by omega) fun v' j' h10 h11=>?_
    unfold BT at h7
    simp only [D0.bulks] at h11
    omega
theorem W1i (nm:Str)(x1:Str×B0)(y1:Str×Int×Bool)(hx1:x1.1=nm)(hy1:y1.1=nm):∀ (n j:Nat) (ps:List D0),l.length - j < n→j≤l.length→ps.length≤j→
  J l e (j+1) (fun v j'=>v.bulk≤nm.length+D0.bulks ps+9000 * (j' - j)) (F5 (mk l j e) x1 ps)
   (U0 l j [44]>>=fun x8=>if (!x8)=true then U7 l y1 ps j else W5 l y1 ps (IntKind.i64.wrap ((j:Int)+1)))
 | 0,j,ps,h,_,_=>absurd h (Nat.not_lt_zero _)
 | n+1,j,ps,h,hj,ha=>by
  have hB:=hl.1
  rw [F5,P2 l e hB,ob,F2 l hB,ob]
  cases h1:isT l j [44] with
  | false=>
   simp only [F3,Bool.false_eq_true,if_false,Bool.not_false,if_true]
   exact V1i hl nm ps x1 y1 hx1 hy1 hj
  | true=>
   have h2:=L1 h1
   simp only [Z3,if_true,Bool.not_true,Bool.false_eq_true,if_false]
   rw [w1 (by omega),W5]
   rcases W17 hl (e:=e) (k:=j+1) (by omega) with ⟨v,j2,h3,h4,⟨_,h5⟩,h6,h7⟩ | ⟨v,j2,h4,h6,h7⟩
   ·have r1:decide ((ps.length+1) * 257≤140737488355328)=true:=decide_eq_true (by unfold BB at hB; omega)
    rw [h6,h7,ob,ob]
    simp only [r1,if_true,Bool.not_true,Bool.false_eq_true,if_false]
    refine (W1i nm x1 y1 hx1 hy1 n j2 (ps++[v]) (by omega) h4 (by rw [List.length_append]; simp only [List.length_singleton]; omega)).mono (by omega) fun v' j' h8 h9=>?_
    rw [Yt] at h9
    omega
   ·rw [h6,h7,ob,ob]
    simp only [Bool.not_false,if_true]
    exact .pn _ j2 h4
theorem E1g {k:Nat}(hk:k≤l.length):J l e (k+1) (BD k) (Aa (mk l k e)) (Gf l k):=by
 have hB:=hl.1
 unfold Aa Gf
 rw [Bm l e hB,Pe l hB]
 cases h1:P4 l k 0 with
 | false=>exact .pn _ k hk
 | true=>
  have h2:=Kh h1
  have ht:=Gj hl k
  simp only [if_true,ob,Bool.not_true,Bool.not_false,cond_false]
  rw [S3 l e hB,F2 l hB,ob]
  cases h3:isT l (k+1) [40] with
  | false=>exact .pn _ (k+1) (by omega)
  | true=>
   have h4:=L1 h3
   simp only [if_true,ob,Bool.not_true,Bool.false_eq_true,if_false]
   rw [Rz l e hB,ob,w1 (by omega),F2 l hB,ob]
   cases h5:isT l (k+1+1) [41] with
   | true=>
    rw [(La h5).1]
    simp only [Bool.not_true,Bool.false_eq_true,if_false]
    refine (V1i hl (txt l k) [] _ _ rfl rfl (by omega)).mono (by omega) fun v' j' h6 h7=>?_
    unfold BD
    simp only [D0.bulks] at h7
    omega
   | false=>
    simp only [Bool.not_false,if_true]
    cases h6:P4 l (k+1+1) 0 with
    | false=>
     simp only [Bool.false_eq_true,if_false]
     unfold E5
     rw [S3 l e hB,h5,W5,J5,Pe l hB,h6]
     exact .pn _ (k+1+1) (by omega)
    | true=>
     simp only [if_true]
     rw [W5]
     rcases W17 hl (e:=e) (k:=k+1+1) (by omega) with ⟨v,j2,m3,m4,⟨_,m5⟩,m6,m7⟩ | ⟨v,j2,m4,m6,m7⟩
     ·have r1:decide ((0+1) * 257≤140737488355328)=true:=by decide
      rw [m6,m7,ob,ob]
      simp only [r1,if_true,Bool.not_true,Bool.false_eq_true,if_false,List.length_nil,List.nil_append]
      unfold Db
      refine (W1i hl (txt l k) _ _ rfl rfl (l.length - j2+1) j2 [v] (by omega) m4 (by simp only [List.length_singleton]; omega)).mono (by omega) fun v' j' h8 h9=>?_
      unfold BD
      simp only [D0.bulks] at h9
      omega
     ·rw [m6,m7,ob,ob]
      simp only [Bool.not_false,if_true]
      exact .pn _ j2 m4
def dcl (l:List K0)(k:Nat):Bool:=isT l k [116,121,112,101]||(isT l k [115,101,99,114,101,116]||(isT l k [112,117,98,108,105,99]||(isT l k [114,97,110,100,111,109]||(isT l k [118,97,114]||(isT l k [104,97,116,99,104]||isT l k [102,117,110,99])))))
theorem Xz (k:Nat):Vi l k=some (dcl l k):=by
 have hB:=hl.1
 unfold Vi dcl
 simp only [F2 l hB,ob]
 generalize isT l k [116,121,112,101]=b0
 generalize isT l k [115,101,99,114,101,116]=b1
 generalize isT l k [112,117,98,108,105,99]=b2
 generalize isT l k [114,97,110,100,111,109]=b3
 generalize isT l k [118,97,114]=b4
 generalize isT l k [104,97,116,99,104]=b5
 generalize isT l k [102,117,110,99]=b6
 cases b0 with
 | true=>rfl
 | false=>
 cases b1 with
 | true=>rfl
 | false=>
 cases b2 with
 | true=>rfl
 | false=>
 cases b3 with
 | true=>rfl
 | false=>
 cases b4 with
 | true=>rfl
 | false=>
 cases b5 with
 | true=>rfl
 | false=>rfl
theorem P1m {k:Nat}(hb:dcl l k=false):G5 (mk l k e)=some (.ok (zD,false,mk l k e)):=by
 have hB:=hl.1
 unfold dcl at hb
 simp only [Bool.or_eq_false_iff] at hb
 obtain ⟨h1,h2,h3,h4,h5,h6,h7⟩:=hb
 unfold G5
 simp only [P2 l e hB,h1,h2,h3,h4,h5,h6,h7,F3,ob,Bool.false_eq_true,if_false]
theorem D1o {k:Nat}(hk:k≤l.length)(hb:dcl l k=true):JB l e (k+1) (BD k) (G5 (mk l k e)) (Xb l k):=by
 have hB:=hl.1
 unfold G5 Xb
 rw [P2 l e hB,ob]
 cases h1:isT l k [116,121,112,101] with
 | true=>
  have hlt:=L1 h1
  simp only [Z3,if_true,F2 l hB,ob,h1,Uk h1 (t':=[118,97,114]) rfl,Uk h1 (t':=[102,117,110,99]) rfl,Bool.false_eq_true,if_false]
  rw [w1 (by omega),Bm l e hB,Pe l hB]
  cases h2:P4 l (k+1) 0 with
  | false=>exact .pn _ (k+1) (by omega)
  | true=>
   have h3:=Kh h2
   have ht:=Gj hl (k+1)
   simp only [if_true,ob,Bool.not_true,Bool.not_false,cond_false]
   rw [S3 l e hB,F2 l hB,ob]
   cases h4:isT l (k+1+1) [61] with
   | false=>exact .pn _ (k+1+1) (by omega)
   | true=>
    have h5:=L1 h4
    simp only [if_true,ob,Bool.not_true,Bool.false_eq_true,if_false]
    rw [w1 (by omega)]
    refine JB.bind (E1a (e:=e) hl (k:=k+1+1+1) (by omega)).typ ?_ ?_ ?_
    ·exact fun _=>rfl
    ·exact fun v j _=>⟨_,rfl⟩
    intro v j h6 h7 h8
    simp only [Bool.not_true,Bool.not_false,if_true,cond_false]
    rw [S3 l e hB,F2 l hB,ob]
    cases h9:isT l j [59] with
    | false=>exact .pn _ j h7
    | true=>
     have h10:=L1 h9
     simp only [if_true,ob,Bool.not_true,Bool.false_eq_true,if_false]
     rw [w1 (by omega)]
     refine .ok _ (j+1) (by omega) (by omega) ?_
     unfold BD
     unfold BT at h8
     rw [D1g]
     simp only [D0.bulks,E0.bulks,Af,List.length_nil]
     omega
 | false=>
 simp only [F3,Bool.false_eq_true,if_false]
 have word:∀ (w:Str) (kd:Int),isT l k w=true→(w == [118,97,114])=false→(w == [102,117,110,99])=false→
   ∀ {F:Pn (D0×B0)→Option (Pn (D0×Bool×B0))} {G:K0→D0×Int×Bool→Option (D0×Int×Bool)},(∀ n,F (.pn n)=some (.pn n))→
   (∀ x n t j,x.Text=w→k+4≤j→j≤l.length→n.length+t.bulk+18000≤9000 * (j - k)→JB l e (k+1) (BD k) (F (.ok (Rg kd n t 0,mk l j e))) (G x (Rg 4 n t 0,(j:Int),true)))→
   JB l e (k+1) (BD k) (W2 kd (mk l (k+1) e)>>=F) (idx l k>>=fun x10=>J5 l (IntKind.i64.wrap ((k:Int)+1))>>=fun x11=>if (!x11.2.2)=true then some (x11.1,x11.2.1,false) else G x10 x11):=by
  intro w kd hw hv hf F G hF hG
  have hlt:=L1 hw
  obtain ⟨x,hx,hxt⟩:=N1m hw
  rw [Qm,hx,ob,w1 (by omega)]
  rcases O1m hl (e:=e) kd (k:=k+1) (by omega) with ⟨n,t,j,m1,m2,m3,m4,m5⟩ | ⟨v,j,m2,m4,m5⟩
  ·rw [m4,m5,ob,ob]
   simp only [Bool.not_true,Bool.false_eq_true,if_false]
   exact hG x n t j hxt (by omega) m2 (by omega)
  ·rw [m4,m5,ob,ob,hF]
   simp only [Bool.not_false,if_true]
   exact .pn _ j m2
 rw [P2 l e hB,ob]
 cases h2:isT l k [115,101,99,114,101,116] with
 | true=>
  simp only [Z3,if_true,F2 l hB,ob,h1,Uk h2 (t':=[118,97,114]) rfl,Uk h2 (t':=[102,117,110,99]) rfl,Bool.false_eq_true,if_false]
  refine word [115,101,99,114,101,116] 1 h2 rfl rfl (fun _=>rfl) fun x n t j m1 m2 m3 m4=>?_
  rw [m1]
  exact C13 hl (x:=(Rg 4 n t 0,(j:Int),true)) rfl m3 (by omega) (by rw [show (Rg 4 n t 0).Value=zE from rfl,Af]; simp only [List.length_nil]; omega) (fun _=>rfl) (fun _=>rfl)
 | false=>
 simp only [F3,Bool.false_eq_true,if_false]
 rw [P2 l e hB,ob]
 cases h3:isT l k [112,117,98,108,105,99] with
 | true=>
  simp only [Z3,if_true,F2 l hB,ob,h1,Uk h3 (t':=[118,97,114]) rfl,Uk h3 (t':=[102,117,110,99]) rfl,Bool.false_eq_true,if_false]
  refine word [112,117,98,108,105,99] 2 h3 rfl rfl (fun _=>rfl) fun x n t j m1 m2 m3 m4=>?_
  rw [m1]
  exact C13 hl (x:=(Rg 4 n t 0,(j:Int),true)) rfl m3 (by omega) (by rw [show (Rg 4 n t 0).Value=zE from rfl,Af]; simp only [List.length_nil]; omega) (fun _=>rfl) (fun _=>rfl)
 | false=>
 simp only [F3,Bool.false_eq_true,if_false]
 rw [P2 l e hB,ob]
 cases h4:isT l k [114,97,110,100,111,109] with
 | true=>
  simp only [Z3,if_true,F2 l hB,ob,h1,Uk h4 (t':=[118,97,114]) rfl,Uk h4 (t':=[102,117,110,99]) rfl,Bool.false_eq_true,if_false]
  refine word [114,97,110,100,111,109] 3 h4 rfl rfl (fun _=>rfl) fun x n t j m1 m2 m3 m4=>?_
  rw [m1]
  exact C13 hl (x:=(Rg 4 n t 0,(j:Int),true)) rfl m3 (by omega) (by rw [show (Rg 4 n t 0).Value=zE from rfl,Af]; simp only [List.length_nil]; omega) (fun _=>rfl) (fun _=>rfl)
 | false=>
 simp only [F3,Bool.false_eq_true,if_false]
 rw [P2 l e hB,ob]
 cases h5:isT l k [118,97,114] with
 | true=>
  have hlt:=L1 h5
  simp only [Z3,if_true,F2 l hB,ob,h5]
  rw [w1 (by omega)]
  refine JB.rsame (JB.lift ((W16 hl (e:=e) (k:=k+1) (by omega)).mono (by omega) fun v j m1 m2=>?_) ?_ ?_)
  ·obtain ⟨_,m2⟩:=m2
   unfold BD
   omega
  ·exact fun _=>rfl
  ·exact fun _=>rfl
 | false=>
 simp only [F3,Bool.false_eq_true,if_false]
 rw [P2 l e hB,ob]
 cases h6:isT l k [104,97,116,99,104] with
 | true=>
  simp only [Z3,if_true,F2 l hB,ob,h1,h5,Uk h6 (t':=[102,117,110,99]) rfl,Bool.false_eq_true,if_false]
  refine word [104,97,116,99,104] 5 h6 rfl rfl (fun _=>rfl) fun x n t j m1 m2 m3 m4=>?_
  rw [m1]
  rw [if_neg (by decide),if_neg (by decide),if_neg (by decide)]
  simp only
  rw [S3 l e hB,F2 l hB,ob]
  cases h7:isT l j [61] with
  | false=>exact .pn _ j m3
  | true=>
   have h8:=L1 h7
   simp only [if_true,ob,Bool.not_true,Bool.false_eq_true,if_false]
   rw [w1 (by omega)]
   rcases (Xt (e:=e) hl (k:=j+1) (by omega)).expr with ⟨v,j2,q1,q2,q3,q4,q5⟩ | ⟨v,j2,q2,q4,q5⟩
   ·rw [q4,q5,ob,ob]
    simp only [Bool.not_true,Bool.false_eq_true,if_false]
    unfold BE at q3
    exact C13 hl (x:=(Rg 4 n t 0,(j:Int),true)) rfl q2 (by omega) (by omega) (fun _=>rfl) (fun _=>rfl)
   ·rw [q4,q5,ob,ob]
    exact .pn _ j2 q2
 | false=>
 simp only [F3,Bool.false_eq_true,if_false]
 rw [P2 l e hB,ob]
 cases h7:isT l k [102,117,110,99] with
 | false=>
  unfold dcl at hb
  rw [h1,h2,h3,h4,h5,h6,h7] at hb
  cases hb
 | true=>
  have hlt:=L1 h7
  simp only [Z3,if_true,F2 l hB,ob,h5,h7,Bool.false_eq_true,if_false]
  rw [w1 (by omega)]
  refine JB.rsame (JB.lift ((E1g hl (e:=e) (k:=k+1) (by omega)).mono (by omega) fun v j m1 m2=>?_) ?_ ?_)
  ·unfold BD at m2 ⊢
   omega
  ·exact fun _=>rfl
  ·exact fun _=>rfl
theorem X1i:∀ (n k:Nat) (ds:List D0),l.length - k < n→k≤l.length→ds.length≤k→
  J l e (k+1) (fun v j=>v.bulk≤D0.bulks ds+9000 * (j - k)) (P5 (mk l k e) ds) (T8 l ds k)
 | 0,k,ds,h,_,_=>absurd h (Nat.not_lt_zero _)
 | n+1,k,ds,h,hk,hd=>by
  have hB:=hl.1
  rw [P5,T8,Xz hl,ob]
  cases hb:dcl l k with
  | true=>
   rw [if_pos rfl]
   rcases D1o hl (e:=e) hk hb with ⟨v,j,h1,h2,h3,h4,h5⟩ | ⟨v,j,h2,h4,h5⟩
   ·have r1:decide ((ds.length+1) * 257≤140737488355328)=true:=decide_eq_true (by unfold BB at hB; omega)
    rw [h4,h5,ob,ob]
    simp only [r1,if_true,Bool.not_true,Bool.false_eq_true,if_false]
    refine (X1i n j (ds++[v]) (by omega) h2 (by rw [List.length_append]; simp only [List.length_singleton]; omega)).mono (by omega) fun v' j' h6 h7=>?_
    unfold BD at h3
    rw [Yt] at h7
    omega
   ·rw [h4,h5,ob,ob]
    exact .pn _ j h2
  | false=>
   rw [P1m hl hb,ob]
   simp only [Bool.not_false,if_true,Bool.false_eq_true,if_false]
   rw [S3 l e hB,F2 l hB,ob]
   cases h1:isT l k [98,101,103,105,110] with
   | false=>exact .pn _ k hk
   | true=>
    have h2:=L1 h1
    simp only [if_true,ob,Bool.not_true,Bool.false_eq_true,if_false]
    rw [w1 (by omega)]
    refine J.bind (K1e hl (k:=k+1) (by omega)) ?_ ?_ ?_
    ·exact fun _=>rfl
    ·exact fun v j _=>⟨_,rfl⟩
    intro v j h3 h4 h5
    simp only [Bool.not_true,Bool.not_false,if_true,cond_false]
    rw [S3 l e hB,F2 l hB,ob]
    cases h6:isT l j [101,110,100] with
    | false=>exact .pn _ j h4
    | true=>
     have h7:=L1 h6
     simp only [if_true,ob,Bool.not_true,Bool.false_eq_true,if_false]
     rw [w1 (by omega)]
     refine .ok _ (j+1) (by omega) (by omega) ?_
     unfold BK at h5
     simp only [Z0.bulk]
     omega
theorem M19:J l e 1 (fun v j=>v.bulk≤9000 * j) (T4 (mk l 0 e)) (Ga l (0:Nat)):=by
 unfold T4 Ga
 refine (X1i hl (e:=e) (l.length+1) 0 [] (by omega) (Nat.zero_le _) (Nat.zero_le _)).mono (by omega) fun v j h1 h2=>?_
 simp only [D0.bulks] at h2
 omega
end
end Go.Proofs.YtmnhfbekncjnfaaGreatDoor

namespace Go.Proofs.YtmnhfbekncjnfaaGreatDoor
open Go.Am
theorem Y1i {p:Z0}(h:p.bulk≤80000000):OkP p:=by
 cases p
 simp only [Z0.bulk] at h
 exact ⟨by unfold OkD BB; simp only; omega,by unfold OkS BB; simp only; omega⟩
theorem F1g (text:Str):∃ v,Nd text=some v∧P13 text=some v∧OkP v.1:=by
 have hz:OkP (Z0.mk [] []):=I1i (by decide)
 obtain ⟨x1,x2⟩:=S16 text
 unfold Nd P13 Ti
 rw [x1,x2,ob,ob]
 generalize hL:G4 text=L
 by_cases h0:L.2.2=0
 ·have hb:(L.2.2 != 0)=false:=by rw [h0]; rfl
  obtain ⟨ht,hlen⟩:=Tz (s:=text) (by rw [hL]; exact h0)
  rw [hL] at ht hlen
  simp only [hb,Bool.false_eq_true,if_false]
  have hJ:=M19 (l:=L.1) (e:=(text.length:Int)) ht
  unfold Si
  rcases hJ with ⟨v,j,h1,h2,h3,h4,h5⟩ | ⟨v,j,h2,h4,h5⟩
  ·have h4':T4 (B0.mk L.1 0 (text.length:Int))=some (.ok (v,mk L.1 j (text.length:Int))):=h4
   have h5':Ga L.1 0=some (v,((j:Nat):Int),true):=h5
   rw [h4',h5',ob,ob]
   simp only [ob,Bool.not_true,cond_false]
   cases hj:decide ((j:Int) < (L.1.length:Int)) with
   | true=>
    simp only [if_true,T16 L.1 _ ht.1,T1c,ob]
    exact ⟨_,rfl,rfl,hz⟩
   | false=>
    have hv:OkP v:=Y1i (by omega)
    simp only [Bool.false_eq_true,if_false,ob]
    rw [K1c v hv,H1i v hv]
    simp only [ob,bne_self_eq_false,Bool.false_eq_true,if_false]
    by_cases hc:(Bp v != 0)=true
    ·rw [if_pos hc]; exact ⟨_,rfl,rfl,hz⟩
    ·rw [if_neg hc]; exact ⟨_,rfl,rfl,hv⟩
  ·have h4':T4 (B0.mk L.1 0 (text.length:Int))=some (.pn (off L.1 (text.length:Int) j)):=h4
   have h5':Ga L.1 0=some (v,((j:Nat):Int),false):=h5
   rw [h4',h5',ob,ob]
   simp only [ob,Bool.not_false,cond_true,if_true,T1c]
   exact ⟨_,rfl,rfl,hz⟩
 ·have hb:(L.2.2 != 0)=true:=by simpa using h0
  simp only [hb,if_true,ob]
  exact ⟨_,rfl,rfl,hz⟩
end Go.Proofs.YtmnhfbekncjnfaaGreatDoor

namespace Go.Proofs.YtmnhfbekncjnfaaGreatDoor
open Go.Am
abbrev LxR:=List K0×Int×Int
def lx (r:List UInt8)(k:Nat):LxR:=Qg (r.length+1) r k
def Ir (a:K0)(z:LxR):LxR:=if z.2.2=0 then (a::z.1,0,0) else z
theorem N19:∀ (n m:Nat) (r:List UInt8) (k:Nat),r.length < n→r.length < m→Qg n r k=Qg m r k
 | 0,_,_,_,h,_=>absurd h (Nat.not_lt_zero _)
 | _+1,0,_,_,_,h=>absurd h (Nat.not_lt_zero _)
 | n+1,m+1,r,k,hn,hm=>by
  unfold Qg
  cases hd:r.drop (skp false r) with
  | nil=>rfl
  | cons c t=>
   have hle:(c::t).length≤r.length:=by rw [← hd,List.length_drop]; omega
   simp only
   by_cases hx:(nxt (c::t) ((k+skp false r:Nat):Int)).2=0
   ·obtain ⟨b1,b2,_,_⟩:=Th hx
    rw [if_pos hx,if_pos hx,N19 n m _ _ (by rw [List.length_drop]; omega) (by rw [List.length_drop]; omega)]
   ·rw [if_neg hx,if_neg hx]
theorem Ps {r:List UInt8}(h:r.drop (skp false r)=[])(k:Nat):lx r k=([],0,0):=by
 unfold lx Qg
 rw [h]
theorem Jm {r t:List UInt8}{c:UInt8}(h:r.drop (skp false r)=c::t)(k:Nat)(hx:(nxt (c::t) ((k+skp false r:Nat):Int)).2=0) :
  lx r k=Ir (nxt (c::t) ((k+skp false r:Nat):Int)).1 (lx ((c::t).drop (nxt (c::t) ((k+skp false r:Nat):Int)).1.Text.length) (k+skp false r+(nxt (c::t) ((k+skp false r:Nat):Int)).1.Text.length)):=by
 have hle:(c::t).length≤r.length:=by rw [← h,List.length_drop]; omega
 obtain ⟨b1,b2,_,_⟩:=Th hx
 have hf:=N19 r.length (((c::t).drop (nxt (c::t) ((k+skp false r:Nat):Int)).1.Text.length).length+1) ((c::t).drop (nxt (c::t) ((k+skp false r:Nat):Int)).1.Text.length) (k+skp false r+(nxt (c::t) ((k+skp false r:Nat):Int)).1.Text.length) (by rw [List.length_drop]; omega) (Nat.lt_succ_self _)
 unfold lx
 rw [Qg]
 rw [h]
 simp only
 rw [if_pos hx,hf]
 rfl
theorem Qs {r t:List UInt8}{c:UInt8}(h:r.drop (skp false r)=c::t)(k:Nat)(hx:¬(nxt (c::t) ((k+skp false r:Nat):Int)).2=0):lx r k=([],((k+skp false r:Nat):Int),(nxt (c::t) ((k+skp false r:Nat):Int)).2):=by
 unfold lx
 rw [Qg]
 rw [h]
 simp only
 rw [if_neg hx]
theorem C1p {r:List UInt8}{k:Nat}(h:(lx r k).2.2=0):(lx r k).2=(0,0):=E1e _ _ _ h
theorem X17 (s:Str):G4 s=if s.length > 8192 then ([],0,5) else lx s 0:=rfl
theorem W1k {a:K0}{z:LxR}:(Ir a z).2.2=0 ↔ z.2.2=0:=by
 unfold Ir
 split
 ·rename_i h; exact ⟨fun _=>h,fun _=>rfl⟩
 ·exact Iff.rfl
theorem M12 {a:K0}{z:LxR}(h:z.2.2=0):Ir a z=(a::z.1,0,0):=if_pos h
def brk (d:UInt8):Bool:=!ld d && !(d == 46||d == 61||d == 38||d == 124)
theorem E1o {d:UInt8}(h:brk d=true):ld d=false:=by
 unfold brk at h
 rw [Bool.and_eq_true] at h
 simpa using h.1
theorem X1k {d:UInt8}(h:brk d=true)(c:UInt8):On [c,d]=false:=by
 unfold brk at h
 rw [Bool.and_eq_true,Bool.not_eq_true',Bool.not_eq_true',Bool.or_eq_false_iff,Bool.or_eq_false_iff,Bool.or_eq_false_iff] at h
 obtain ⟨_,⟨⟨h1,h2⟩,h3⟩,h4⟩:=h
 have f:∀ a b:UInt8,(d == b)=false→(([c,d]:List UInt8) == [a,b])=false:=fun a b hb=>beq_eq_false_iff_ne.2 fun e=>by
  injection e with _ e
  injection e with e _
  rw [e] at hb
  simp at hb
 unfold On
 rw [f 46 46 h1,f 61 61 h2,f 33 61 h2,f 60 61 h2,f 62 61 h2,f 38 38 h3,f 124 124 h4]
 rfl
theorem V1c {d:UInt8}(h:ld d=false)(b:List UInt8):∀ a:List UInt8,C4 (a++d::b)=C4 a
 | []=>by simp [C4,h]
 | c::a=>by
  simp only [List.cons_append,C4,V1c h b a]
theorem W1c {a x:List UInt8}{n:Nat}(h:n≤a.length):(a++x).take n=a.take n:=by
 rw [List.take_append_of_le_length h]
theorem Y1k {d:UInt8}(h:brk d=true)(c:UInt8)(t b:List UInt8)(k:Int):nxt (c::t++d::b) k=nxt (c::t) k:=by
 have h1:=V1c (E1o h) b (c::t)
 have h2:=W1c (a:=c::t) (x:=d::b) (Qq (c::t))
 have h3:(decide (2≤(c::t++d::b).length)&&On ((c::t++d::b).take 2))=(decide (2≤(c::t).length)&&On ((c::t).take 2)):=by
  cases t with
  | nil=>
   have:On ((c::[]++d::b).take 2)=false:=X1k h c
   rw [this,Bool.and_false]
   rfl
  | cons e t=>simp
 have h4:(c::t++d::b).getD 0 0=(c::t).getD 0 0:=rfl
 unfold nxt
 rw [h1,h2,h3,h4]
 by_cases h5:(decide (2≤(c::t).length)&&On ((c::t).take 2))=true
 ·rw [Bool.and_eq_true] at h5
  rw [W1c (a:=c::t) (x:=d::b) (of_decide_eq_true h5.1)]
 ·rw [if_neg h5,if_neg h5]
theorem Py (b:List UInt8):∀ (m:Bool) (a:List UInt8),skp m (a++10::b)=if skp m a=a.length then a.length+1+skp false b else skp m a
 | true,[]=>by simp [skp]; omega
 | false,[]=>by simp [skp]; omega
 | true,c::a=>by
  have i1:=Py b true a
  have i2:=Py b false a
  have l1:=Cn true a
  have l2:=Cn false a
  cases h:(c.toNat:Int) == 10 with
  | true=>
   have e1:skp true (c::a++10::b)=skp false (a++10::b)+1:=by rw [List.cons_append,skp,h,if_pos rfl]
   have e2:skp true (c::a)=skp false a+1:=by rw [skp,h,if_pos rfl]
   rw [e1,e2,i2,List.length_cons]
   split <;> split <;> omega
  | false=>
   have e1:skp true (c::a++10::b)=skp true (a++10::b)+1:=by rw [List.cons_append,skp,h,if_neg (by simp)]
   have e2:skp true (c::a)=skp true a+1:=by rw [skp,h,if_neg (by simp)]
   rw [e1,e2,i1,List.length_cons]
   split <;> split <;> omega
 | false,c::a=>by
  have i1:=Py b true a
  have i2:=Py b false a
  have l1:=Cn true a
  have l2:=Cn false a
  cases h:(c.toNat:Int) == 35 with
  | true=>
   have e1:skp false (c::a++10::b)=skp true (a++10::b)+1:=by rw [List.cons_append,skp,h,if_pos rfl]
   have e2:skp false (c::a)=skp true a+1:=by rw [skp,h,if_pos rfl]
   rw [e1,e2,i1,List.length_cons]
   split <;> split <;> omega
  | false=>
   cases h':((c.toNat:Int) == 32||((c.toNat:Int) == 9||(c.toNat:Int) == 10)) with
   | true=>
    have e1:skp false (c::a++10::b)=skp false (a++10::b)+1:=by rw [List.cons_append,skp,h,if_neg (by simp),h',if_pos rfl]
    have e2:skp false (c::a)=skp false a+1:=by rw [skp,h,if_neg (by simp),h',if_pos rfl]
    rw [e1,e2,i2,List.length_cons]
    split <;> split <;> omega
   | false=>
    have e1:skp false (c::a++10::b)=0:=by rw [List.cons_append,skp,h,if_neg (by simp),h',if_neg (by simp)]
    have e2:skp false (c::a)=0:=by rw [skp,h,if_neg (by simp),h',if_neg (by simp)]
    rw [e1,e2,List.length_cons,if_neg (by omega)]
def N12 (za zb:LxR):LxR:=if za.2.2=0 then (if zb.2.2=0 then (za.1++zb.1,0,0) else zb) else za
theorem Z1i (a:K0)(za zb:LxR):N12 (Ir a za) zb=Ir a (N12 za zb):=by
 unfold N12 Ir
 by_cases h1:za.2.2=0
 ·by_cases h2:zb.2.2=0
  ·simp [h1,h2]
  ·simp [h1,h2]
 ·simp [h1]
theorem A1j (b:List UInt8):∀ (n:Nat) (a:List UInt8) (k:Nat),a.length < n→lx (a++10::b) k=N12 (lx a k) (lx b (k+a.length+1))
 | 0,_,_,h=>absurd h (Nat.not_lt_zero _)
 | n+1,a,k,h=>by
  have hs:=Py b false a
  have hle:=Cn false a
  cases hd:a.drop (skp false a) with
  | nil=>
   have he:skp false a=a.length:=by
    have:a.length≤skp false a:=List.drop_eq_nil_iff.1 hd
    omega
   rw [if_pos he] at hs
   rw [Ps hd]
   have hb:N12 ([],0,0) (lx b (k+a.length+1))=lx b (k+a.length+1):=by
    unfold N12
    rw [if_pos rfl]
    split
    ·rename_i hz
     have:=C1p hz
     rw [List.nil_append,← this]
    ·rfl
   rw [hb]
   have hdd:(a++10::b).drop (skp false (a++10::b))=b.drop (skp false b):=by
    rw [hs,show a.length+1+skp false b=a.length+(1+skp false b) by omega,← List.drop_drop,List.drop_left,show 1+skp false b=skp false b+1 by omega,List.drop_succ_cons]
   have hk:k+skp false (a++10::b)=k+a.length+1+skp false b:=by rw [hs]; omega
   cases hb2:b.drop (skp false b) with
   | nil=>rw [Ps hb2,Ps (hdd.trans hb2)]
   | cons c t=>
    by_cases hx:(nxt (c::t) ((k+a.length+1+skp false b:Nat):Int)).2=0
    ·rw [Jm hb2 _ hx,Jm (hdd.trans hb2) k (by rw [hk]; exact hx),hk]
    ·rw [Qs hb2 _ hx,Qs (hdd.trans hb2) k (by rw [hk]; exact hx),hk]
  | cons c t=>
   have hlen:(c::t).length=a.length - skp false a:=by rw [← hd,List.length_drop]
   have hlt:skp false a < a.length:=by rw [List.length_cons] at hlen; omega
   rw [if_neg (by omega)] at hs
   have hdd:(a++10::b).drop (skp false (a++10::b))=c::(t++10::b):=by
    rw [hs,List.drop_append_of_le_length (by omega),hd]
    rfl
   have hn:∀ k:Int,nxt (c::(t++10::b)) k=nxt (c::t) k:=fun k=>Y1k (d:=10) (by decide) c t b k
   by_cases hx:(nxt (c::t) ((k+skp false a:Nat):Int)).2=0
   ·obtain ⟨b1,b2,_,_⟩:=Th hx
    rw [Jm hd k hx,Jm hdd k (by rw [hs,hn]; exact hx),hs,hn,Z1i]
    congr 1
    have e1:(c::(t++10::b)).drop (nxt (c::t) ((k+skp false a:Nat):Int)).1.Text.length=(c::t).drop (nxt (c::t) ((k+skp false a:Nat):Int)).1.Text.length++10::b:=by
     rw [← List.cons_append,List.drop_append_of_le_length b2]
    rw [e1,A1j b n _ _ (by rw [List.length_drop]; omega)]
    congr 2
    rw [List.length_drop]
    omega
   ·rw [Qs hd k hx,Qs hdd k (by rw [hs,hn]; exact hx),hs,hn]
    unfold N12
    rw [if_neg hx]
theorem Iv:∀ (m:Bool) (r:List UInt8) (q:Nat),skp m r < q→skp m (r.take q)=skp m r
 | _,_,0,h=>absurd h (Nat.not_lt_zero _)
 | true,[],q+1,_=>rfl
 | false,[],q+1,_=>rfl
 | true,c::r,q+1,h=>by
  revert h
  simp only [List.take_succ_cons,skp]
  split
  ·intro h; rw [Iv false r q (by omega)]
  ·intro h; rw [Iv true r q (by omega)]
 | false,c::r,q+1,h=>by
  revert h
  simp only [List.take_succ_cons,skp]
  split
  ·intro h; rw [Iv true r q (by omega)]
  ·split
   ·intro h; rw [Iv false r q (by omega)]
   ·intro _; rfl
theorem O19:∀ (a:List UInt8) (m:Nat),C4 a≤m→C4 (a.take m)=C4 a
 | [],m,_=>by rw [List.take_nil]
 | c::a,0,h=>by
  simp only [C4] at h ⊢
  cases hc:ld c with
  | false=>simp [C4,hc]
  | true=>rw [hc] at h; simp at h
 | c::a,m+1,h=>by
  simp only [List.take_succ_cons,C4] at h ⊢
  cases hc:ld c with
  | false=>rfl
  | true=>
   rw [hc] at h
   simp only [cond_true] at h ⊢
   rw [O19 a m (by omega)]
theorem Z1k {c:UInt8}{t:List UInt8}{k:Int}(hx:(nxt (c::t) k).2=0){m:Nat}(hm:(nxt (c::t) k).1.Text.length≤m):nxt ((c::t).take m) k=nxt (c::t) k:=by
 have hle:=Qq (c::t)
 have h1:=(Th hx).1
 obtain ⟨m,rfl⟩:∃ p,m=p+1:=⟨m - 1,by omega⟩
 have hg:((c::t).take (m+1)).getD 0 0=c:=rfl
 have hw:ld c=true→(nxt (c::t) k).1.Text=(c::t).take (C4 (c::t))→C4 ((c::t).take (m+1))=C4 (c::t)∧((c::t).take (m+1)).take (C4 (c::t))=(c::t).take (C4 (c::t)):=fun _ he=>by
  rw [he,List.length_take,Nat.min_eq_left hle] at hm
  exact ⟨O19 _ _ hm,by rw [List.take_take,Nat.min_eq_left hm]⟩
 revert hm hw hx
 unfold nxt
 rw [hg]
 simp only [List.getD_cons_zero]
 cases hl:Ac c.toNat with
 | true=>
  have hld:ld c=true:=by unfold ld; rw [hl]; rfl
  simp only [if_true]
  intro hx hm hw
  have:=hw hld (by split <;> (try split) <;> rfl)
  rw [this.1,this.2]
 | false=>
  simp only [Bool.false_eq_true,if_false]
  cases hd:Ea c.toNat with
  | true=>
   have hld:ld c=true:=by unfold ld; rw [hl,hd]; rfl
   simp only [if_true]
   intro hx hm hw
   have:=hw hld trivial
   rw [this.1,this.2]
  | false=>
   simp only [Bool.false_eq_true,if_false]
   intro hx hm _
   by_cases h2:(decide (2≤(c::t).length)&&On ((c::t).take 2))=true
   ·rw [if_pos h2] at hm
    rw [Bool.and_eq_true] at h2
    have hl2:=of_decide_eq_true h2.1
    simp only [List.length_take] at hm
    have e1:((c::t).take (m+1)).take 2=(c::t).take 2:=by rw [List.take_take,Nat.min_eq_left (by omega)]
    have e2:decide (2≤((c::t).take (m+1)).length)=true:=decide_eq_true (by rw [List.length_take]; omega)
    rw [e1,e2,h2.2,decide_eq_true hl2]
   ·rw [if_neg h2]
    have h3:¬(decide (2≤((c::t).take (m+1)).length)&&On (((c::t).take (m+1)).take 2))=true:=by
     cases m with
     | zero=>simp
     | succ m=>
      rw [List.take_take,Nat.min_eq_left (by omega)]
      intro h
      rw [Bool.and_eq_true] at h
      apply h2
      rw [Bool.and_eq_true]
      refine ⟨decide_eq_true ?_,h.2⟩
      have:=of_decide_eq_true h.1
      rw [List.length_take] at this
      omega
    rw [if_neg h3]
theorem L1e:∀ (n:Nat) (r:List UInt8) (k:Nat),r.length < n→(lx r k).2.2=0→∀ (j:Nat) (x:K0),(lx r k).1[j]?=some x→
  ∃ p:Nat,x.At=((k+p:Nat):Int)∧p+x.Text.length≤r.length∧lx (r.take (p+x.Text.length)) k=((lx r k).1.take (j+1),0,0)
 | 0,_,_,h=>absurd h (Nat.not_lt_zero _)
 | n+1,r,k,h=>by
  cases hd:r.drop (skp false r) with
  | nil=>rw [Ps hd]; intro _ j x hx; simp at hx
  | cons c t=>
   have hlen:(c::t).length=r.length - skp false r:=by rw [← hd,List.length_drop]
   by_cases hx:(nxt (c::t) ((k+skp false r:Nat):Int)).2=0
   case neg=>rw [Qs hd k hx]; intro h; exact absurd h hx
   obtain ⟨b1,b2,b3,b4⟩:=Th hx
   rw [Jm hd k hx]
   intro h0
   have hz:=W1k.1 h0
   rw [M12 hz]
   have ih:=L1e n _ _ (by rw [List.length_drop]; omega) hz
   have gen:∀ m:Nat,(nxt (c::t) ((k+skp false r:Nat):Int)).1.Text.length≤m→lx (r.take (skp false r+m)) k =
     Ir (nxt (c::t) ((k+skp false r:Nat):Int)).1 (lx (((c::t).drop (nxt (c::t) ((k+skp false r:Nat):Int)).1.Text.length).take (m - (nxt (c::t) ((k+skp false r:Nat):Int)).1.Text.length)) (k+skp false r+(nxt (c::t) ((k+skp false r:Nat):Int)).1.Text.length)):=fun m hm=>by
    have e1:=Iv false r (skp false r+m) (by omega)
    have e2:(r.take (skp false r+m)).drop (skp false (r.take (skp false r+m)))=(c::t).take m:=by
     rw [e1,List.drop_take,hd,show skp false r+m - skp false r=m by omega]
    have e3:=Z1k hx hm
    obtain ⟨m',rfl⟩:∃ p,m=p+1:=⟨m - 1,by omega⟩
    rw [List.take_succ_cons] at e2 e3
    rw [Jm e2 k (by rw [e1,e3]; exact hx),e1,e3,← List.take_succ_cons,List.drop_take]
   intro j x hj
   cases j with
   | zero=>
    rw [List.getElem?_cons_zero] at hj
    injection hj with hj
    refine ⟨skp false r,?_,?_,?_⟩
    ·rw [← hj,b3]
    ·rw [← hj]; omega
    ·rw [← hj,gen _ (Nat.le_refl _),Nat.sub_self,List.take_zero,Ps (by simp),M12 rfl]
     rfl
   | succ j=>
    rw [List.getElem?_cons_succ] at hj
    obtain ⟨p,i1,i2,i3⟩:=ih j x hj
    rw [List.length_drop] at i2
    refine ⟨skp false r+(nxt (c::t) ((k+skp false r:Nat):Int)).1.Text.length+p,?_,?_,?_⟩
    ·rw [i1]; omega
    ·omega
    ·rw [show skp false r+(nxt (c::t) ((k+skp false r:Nat):Int)).1.Text.length+p+x.Text.length=skp false r+((nxt (c::t) ((k+skp false r:Nat):Int)).1.Text.length+p+x.Text.length) by omega,gen _ (by omega)]
     rw [show (nxt (c::t) ((k+skp false r:Nat):Int)).1.Text.length+p+x.Text.length - (nxt (c::t) ((k+skp false r:Nat):Int)).1.Text.length=p+x.Text.length by omega,i3,M12 rfl]
     rfl
theorem B1j:∀ (n:Nat) (r:List UInt8) (k:Nat),r.length < n→(∀ x∈(lx r k).1,(k:Int)≤x.At∧x.At < ((k+r.length:Nat):Int))∧(lx r k).1.Pairwise fun a b=>a.At < b.At
 | 0,_,_,h=>absurd h (Nat.not_lt_zero _)
 | n+1,r,k,h=>by
  cases hd:r.drop (skp false r) with
  | nil=>rw [Ps hd]; exact ⟨nofun,.nil⟩
  | cons c t=>
   have hlen:(c::t).length=r.length - skp false r:=by rw [← hd,List.length_drop]
   have hl1:(c::t).length=t.length+1:=rfl
   by_cases hx:(nxt (c::t) ((k+skp false r:Nat):Int)).2=0
   case neg=>rw [Qs hd k hx]; exact ⟨nofun,.nil⟩
   obtain ⟨b1,b2,b3,b4⟩:=Th hx
   rw [Jm hd k hx]
   obtain ⟨i1,i2⟩:=B1j n ((c::t).drop (nxt (c::t) ((k+skp false r:Nat):Int)).1.Text.length) (k+skp false r+(nxt (c::t) ((k+skp false r:Nat):Int)).1.Text.length) (by rw [List.length_drop]; omega)
   rw [List.length_drop] at i1
   unfold Ir
   split
   ·refine ⟨fun x hm=>?_,?_⟩
    ·rcases List.mem_cons.1 hm with rfl | hm
     ·rw [b3]; omega
     ·have:=i1 x hm; omega
    ·refine List.pairwise_cons.2 ⟨fun x hm=>?_,i2⟩
     have:=i1 x hm
     rw [b3]; omega
   ·refine ⟨fun x hm=>?_,i2⟩
    have:=i1 x hm; omega
end Go.Proofs.YtmnhfbekncjnfaaGreatDoor

namespace Go.Proofs.YtmnhfbekncjnfaaGreatDoor
open Go.Am
def F1a:Option K0→Option K0→Prop
 | none,none=>True
 | some a,some b=>a.Kind=b.Kind∧a.Text=b.Text
 | _,_=>False
def M1p (y:Option K0):Prop:=∃ b,y=some b∧b.Kind=3∧b.Text=[41]
def Ag (l l':List K0)(s:Nat)(w:Bool)(k j:Nat)(ok:Bool):Prop:=
 ∀ i,k≤i→i≤j→F1a l[i]? l'[i+s]?∨(w=true∧ok=true∧l[i]?=none∧M1p l'[i+s]?)
def TM {α:Type}(l l':List K0)(s:Nat)(w:Bool)(k:Nat)(r:α×Int×Bool)(R':Option (α×Int×Bool)):Prop:=
 ∃ j:Nat,r.2.1=(j:Int)∧k≤j∧(Ag l l' s w k j r.2.2→R'=some (r.1,((j+s:Nat):Int),r.2.2))
def Tr {α:Type}(l l':List K0)(s:Nat)(w:Bool)(k:Nat)(b:Bool)(R R':Option (α×Int×Bool)):Prop:=
 ∀ r,R=some r→TM l l' s w k r R'∧(r.2.2=true→b=true)
theorem Qy {l l':List K0}{i i':Nat}(h:F1a l[i]? l'[i']?)(t:Str):isT l' i' t=isT l i t:=by
 unfold isT
 cases hx:l[i]? with
 | none=>cases hy:l'[i']? with
  | none=>rfl
  | some y=>rw [hx,hy] at h; exact h.elim
 | some x=>cases hy:l'[i']? with
  | none=>rw [hx,hy] at h; exact h.elim
  | some y=>rw [hx,hy] at h; obtain ⟨h1,h2⟩:=h; simp only [h1,h2]
theorem Wq {l l':List K0}{i i':Nat}(h:F1a l[i]? l'[i']?)(c:Int):P4 l' i' c=P4 l i c∧txt l' i'=txt l i:=by
 unfold P4 txt
 cases hx:l[i]? with
 | none=>cases hy:l'[i']? with
  | none=>exact ⟨rfl,rfl⟩
  | some y=>rw [hx,hy] at h; exact h.elim
 | some x=>cases hy:l'[i']? with
  | none=>rw [hx,hy] at h; exact h.elim
  | some y=>rw [hx,hy] at h; obtain ⟨h1,h2⟩:=h; simp only [h1,h2]; exact ⟨trivial,trivial⟩
section
variable {l l':List K0}{s:Nat}{w:Bool}{α β:Type}
theorem Tr.bind {k:Nat}{b:Bool}{R R':Option (α×Int×Bool)}{F F':α×Int×Bool→Option (β×Int×Bool)}(h:Tr l l' s w k b R R')(hF:∀ v (j:Nat) ok,k≤j→Tr l l' s w j ok (F (v,(j:Int),ok)) (F' (v,((j+s:Nat):Int),ok))) :
  Tr l l' s w k b (R>>=F) (R'>>=F'):=by
 intro r hr
 cases hR:R with
 | none=>rw [hR] at hr; cases hr
 | some x=>
  rw [hR] at hr
  obtain ⟨⟨j,h1,h2,h3⟩,h4⟩:=h x hR
  obtain ⟨v,p,ok⟩:=x
  simp only at h1 h3 h4
  subst h1
  obtain ⟨⟨j2,g1,g2,g3⟩,g4⟩:=hF v j ok h2 r hr
  refine ⟨⟨j2,g1,by omega,fun ha=>?_⟩,fun hb=>h4 (g4 hb)⟩
  have a1:Ag l l' s w k j ok:=fun i i1 i2=>by
   rcases ha i i1 (by omega) with a | ⟨a1,a2,a3,a4⟩
   ·exact .inl a
   ·exact .inr ⟨a1,g4 a2,a3,a4⟩
  have a2:Ag l l' s w j j2 r.2.2:=fun i i1 i2=>ha i (by omega) i2
  rw [h3 a1]
  exact g3 a2
theorem Tr.ret {v:α}{j k:Nat}{ok b:Bool}(h:k≤j)(hb:ok=true→b=true):Tr l l' s w k b (some (v,(j:Int),ok)) (some (v,((j+s:Nat):Int),ok)):=by
 intro r hr
 cases hr
 exact ⟨⟨j,rfl,h,fun _=>rfl⟩,hb⟩
theorem Tr.no {v:α}{j k:Nat}{b:Bool}(h:k≤j):Tr l l' s w k b (some (v,(j:Int),false)) (some (v,((j+s:Nat):Int),false)):=Tr.ret h nofun
theorem Tr.yes {v:α}{j k:Nat}{ok:Bool}(h:k≤j):Tr l l' s w k true (some (v,(j:Int),ok)) (some (v,((j+s:Nat):Int),ok)):=Tr.ret h fun _=>rfl
theorem Tr.of {k:Nat}{R R':Option (α×Int×Bool)}(h:∀ r,R=some r→TM l l' s w k r R'):Tr l l' s w k true R R':=fun r hr=>⟨h r hr,fun _=>rfl⟩
theorem Tr.run {k:Nat}{R R':Option (α×Int×Bool)}{r:α×Int×Bool}(h:Tr l l' s w k true R R')(hr:R=some r):TM l l' s w k r R':=(h r hr).1
theorem Tr.le {k k':Nat}{b:Bool}{R R':Option (α×Int×Bool)}(h:Tr l l' s w k' b R R')(hk:k≤k'):Tr l l' s w k b R R':=fun r hr=>by
 obtain ⟨⟨j,h1,h2,h3⟩,h4⟩:=h r hr
 exact ⟨⟨j,h1,by omega,fun ha=>h3 fun i i1 i2=>ha i (by omega) i2⟩,h4⟩
theorem Tr.go {k:Nat}{ok:Bool}{A A' B B':Option (α×Int×Bool)}(hA:Tr l l' s w k false A A')(hB:ok=true→Tr l l' s w k true B B'):Tr l l' s w k ok (if (!ok)=true then A else B) (if (!ok)=true then A' else B'):=by
 cases ok with
 | false=>exact hA
 | true=>exact hB rfl
theorem Tr.iff {k:Nat}{b c:Bool}{A A' B B':Option (α×Int×Bool)}(hA:c=true→Tr l l' s w k b A A')(hB:c=false→Tr l l' s w k b B B'):Tr l l' s w k b (if c=true then A else B) (if c=true then A' else B'):=by
 cases c with
 | true=>exact hA rfl
 | false=>exact hB rfl
theorem Tr.room {k:Nat}{b c:Bool}{B B':Option (α×Int×Bool)}(hB:c=true→Tr l l' s w k b B B'):Tr l l' s w k b (if c=true then B else none) (if c=true then B' else none):=Tr.iff hB fun _ r hr=>by cases hr
end
section
set_option linter.unusedSectionVars false
variable {l l':List K0}{s:Nat}{w:Bool}{α β:Type}(hl:Uh l)(hl':Uh l')(hs:l.length+s+8≤BB)
include hl hl' hs
theorem wl {k:Nat}(h:k < l.length):IntKind.i64.wrap ((k:Int)+1)=((k+1:Nat):Int):=w1 (by omega)
theorem K3 {k:Nat}(h:k < l.length):IntKind.i64.wrap (((k+s:Nat):Int)+1)=((k+1+s:Nat):Int):=by rw [w1 (by omega)]; omega
theorem wl2 {k:Nat}(h:k < l.length):IntKind.i64.wrap ((k:Int)+2)=((k+1+1:Nat):Int):=by rw [wr (by omega) (by unfold BB at hs; omega)]; omega
theorem ws2 {k:Nat}(h:k < l.length):IntKind.i64.wrap (((k+s:Nat):Int)+2)=((k+1+1+s:Nat):Int):=by rw [wr (by omega) (by unfold BB at hs; omega)]; omega
theorem Tr.is {k:Nat}{t:Str}{b:Bool}{F F':Bool→Option (β×Int×Bool)}(hc:(w=true→t≠[41])∨∀ r,F false=some r→r.2.2=false)
  (hT:isT l k t=true→Tr l l' s w k b (F true) (F' true)) (hN:isT l k t=false→Tr l l' s w k b (F false) (F' false)):Tr l l' s w k b (U0 l (k:Int) t>>=F) (U0 l' ((k+s:Nat):Int) t>>=F'):=by
 intro r hr
 rw [F2 l hl.1,ob] at hr
 rw [F2 l' hl'.1,ob]
 cases h:isT l k t with
 | true=>
  rw [h] at hr
  obtain ⟨⟨j,h1,h2,h3⟩,h4⟩:=hT h r hr
  refine ⟨⟨j,h1,h2,fun ha=>?_⟩,h4⟩
  rcases ha k (Nat.le_refl _) h2 with a | ⟨_,_,a,_⟩
  ·rw [Qy a,h]; exact h3 ha
  ·unfold isT at h; rw [a] at h; cases h
 | false=>
  rw [h] at hr
  obtain ⟨⟨j,h1,h2,h3⟩,h4⟩:=hN h r hr
  refine ⟨⟨j,h1,h2,fun ha=>?_⟩,h4⟩
  rcases ha k (Nat.le_refl _) h2 with a | ⟨a1,a2,a3,y,a4,a5,a6⟩
  ·rw [Qy a,h]; exact h3 ha
  ·rcases hc with hc | hc
   ·have:isT l' (k+s) t=false:=by
     unfold isT
     rw [a4]
     simp only [a6]
     rw [beq_eq_false_iff_ne.2 fun e=>hc a1 e.symm]
     rfl
    rw [this]; exact h3 ha
   ·rw [hc r hr] at a2; cases a2
theorem Tr.ask {j:Nat}{ok:Bool}{t:Str}{A A' B B':Option (β×Int×Bool)}(hc:(w=true→t≠[41])∨∀ r,A=some r→r.2.2=false)(hA:Tr l l' s w j ok A A')(hB:ok=true→j < l.length→Tr l l' s w j true B B') :
  Tr l l' s w j ok ((if (!(!ok))=true then U0 l (j:Int) t else some default)>>=fun x=>if (bif (!ok) then true else (!x))=true then A else B)
   ((if (!(!ok))=true then U0 l' ((j+s:Nat):Int) t else some default)>>=fun x=>if (bif (!ok) then true else (!x))=true then A' else B'):=by
 cases ok with
 | false=>exact hA
 | true=>
  simp only [Bool.not_true,Bool.not_false,if_true,cond_false]
  refine Tr.is hl hl' hs hc (fun h=>?_) (fun h=>?_)
  ·exact hB rfl (L1 h)
  ·exact hA
theorem Tr.must {j:Nat}{b:Bool}{t:Str}{A A' B B':Option (β×Int×Bool)}(hc:(w=true→t≠[41])∨∀ r,A=some r→r.2.2=false)(hA:Tr l l' s w j b A A')(hB:j < l.length→Tr l l' s w j b B B') :
  Tr l l' s w j b (U0 l (j:Int) t>>=fun x=>if (!x)=true then A else B) (U0 l' ((j+s:Nat):Int) t>>=fun x=>if (!x)=true then A' else B'):=
 Tr.is hl hl' hs hc (fun h=>hB (L1 h)) fun _=>hA
theorem Tr.may {j:Nat}{b:Bool}{t:Str}{A A' B B':Option (β×Int×Bool)}(hc:(w=true→t≠[41])∨∀ r,B=some r→r.2.2=false)(hA:isT l j t=true→j < l.length→Tr l l' s w j b A A')(hB:isT l j t=false→Tr l l' s w j b B B') :
  Tr l l' s w j b (U0 l (j:Int) t>>=fun x=>if x=true then A else B) (U0 l' ((j+s:Nat):Int) t>>=fun x=>if x=true then A' else B'):=
 Tr.is hl hl' hs hc (fun h=>hA h (L1 h)) hB
theorem P19 (k:Nat):Tr l l' s w k true (Vf l k) (Vf l' ((k+s:Nat):Int)):=by
 rw [Cm l hl,Cm l' hl']
 cases h:P4 l k 1 with
 | true=>
  intro r hr
  cases hr
  refine ⟨⟨k+1,rfl,by omega,fun ha=>?_⟩,fun _=>rfl⟩
  rcases ha k (Nat.le_refl _) (by omega) with a | ⟨_,_,a,_⟩
  ·obtain ⟨b1,b2⟩:=Wq a 1
   rw [b1,h,if_pos rfl]
   unfold Sz
   rw [b2,show k+s+1=k+1+s by omega]
  ·unfold P4 at h; rw [a] at h; cases h
 | false=>
  intro r hr
  cases hr
  refine ⟨⟨k,rfl,Nat.le_refl _,fun ha=>?_⟩,fun _=>rfl⟩
  rcases ha k (Nat.le_refl _) (Nat.le_refl _) with a | ⟨_,a,_⟩
  ·rw [(Wq a 1).1,h]; rfl
  ·cases a
theorem Km (k:Nat):Tr l l' s w k true (Z7 l k) (Z7 l' ((k+s:Nat):Int)):=by
 rw [Pe l hl.1,Pe l' hl'.1]
 cases h:P4 l k 0 with
 | true=>
  intro r hr
  cases hr
  refine ⟨⟨k+1,rfl,by omega,fun ha=>?_⟩,fun _=>rfl⟩
  rcases ha k (Nat.le_refl _) (by omega) with a | ⟨_,_,a,_⟩
  ·obtain ⟨b1,b2⟩:=Wq a 0
   rw [b1,h,if_pos rfl,b2,show k+s+1=k+1+s by omega]
  ·unfold P4 at h; rw [a] at h; cases h
 | false=>
  intro r hr
  cases hr
  refine ⟨⟨k,rfl,Nat.le_refl _,fun ha=>?_⟩,fun _=>rfl⟩
  rcases ha k (Nat.le_refl _) (Nat.le_refl _) with a | ⟨_,a,_⟩
  ·rw [(Wq a 0).1,h]; rfl
  ·cases a
theorem Tr.bin {k:Nat}{n:Int}{b:Bool}(hn:n≠0){F F':Int×Bool→Option (β×Int×Bool)}(hT:∀ op,k < l.length→Tr l l' s w k b (F (op,true)) (F' (op,true)))(hN:∀ op,Tr l l' s w k b (F (op,false)) (F' (op,false))) :
  Tr l l' s w k b (O5 l (k:Int) n>>=F) (O5 l' ((k+s:Nat):Int) n>>=F'):=by
 intro r hr
 rw [Qn,ob] at hr
 rw [Qn,ob]
 cases hx:l[k]? with
 | none=>
  rw [hx] at hr
  obtain ⟨⟨j,h1,h2,h3⟩,h4⟩:=hN 0 r hr
  refine ⟨⟨j,h1,h2,fun ha=>?_⟩,h4⟩
  have:=h3 ha
  rcases ha k (Nat.le_refl _) h2 with a | ⟨_,_,_,y,a4,a5,a6⟩
  ·rw [hx] at a
   cases hy:l'[k+s]? with
   | none=>exact this
   | some y=>rw [hy] at a; exact a.elim
  ·rw [a4]
   simp only [a5,a6]
   have e:opT [41]=(0,0):=by decide
   rw [e,if_pos (by decide)]
   have:((0:Int) == n)=false:=beq_eq_false_iff_ne.2 fun e=>hn e.symm
   simp only [this]
   assumption
 | some x=>
  rw [hx] at hr
  simp only at hr
  have key:∀ q:Int×Bool,F q=some r→TM l l' s w k r (F' q)∧(r.2.2=true→b=true):=by
   rintro ⟨op,c⟩ hq
   cases c with
   | true=>exact hT op (Tk hx) r hq
   | false=>exact hN op r hq
  obtain ⟨⟨j,h1,h2,h3⟩,h4⟩:=key _ hr
  refine ⟨⟨j,h1,h2,fun ha=>?_⟩,h4⟩
  rcases ha k (Nat.le_refl _) h2 with a | ⟨_,_,a,_⟩
  ·rw [hx] at a
   cases hy:l'[k+s]? with
   | none=>rw [hy] at a; exact a.elim
   | some y=>
    rw [hy] at a
    obtain ⟨e1,e2⟩:=a
    simp only
    rw [← e1,← e2]
    exact h3 ha
  ·rw [hx] at a; cases a
theorem C1j:(∀ k r,B2 l k=some r→∀ n:Nat,k=n→TM l l' s w n r (B2 l' ((n+s:Nat):Int)))∧
  (∀ k m r,I2 l k m=some r→∀ n:Nat,k=n→1≤m→m≤6→TM l l' s w n r (I2 l' ((n+s:Nat):Int) m))∧
  (∀ m o k r,O2 l m o k=some r→∀ n:Nat,k=n→1≤m→m≤5→TM l l' s w n r (O2 l' m o ((n+s:Nat):Int)))∧
  (∀ k r,Gb l k=some r→∀ n:Nat,k=n→TM l l' s w n r (Gb l' ((n+s:Nat):Int)))∧
  (∀ k op r,Ra l k op=some r→∀ n:Nat,k=n→n < l.length→TM l l' s w n r (Ra l' ((n+s:Nat):Int) op))∧
  (∀ k r,Sg l k=some r→∀ n:Nat,k=n→TM l l' s w n r (Sg l' ((n+s:Nat):Int)))∧
  (∀ k r,Z9 l k=some r→∀ n:Nat,k=n→TM l l' s w n r (Z9 l' ((n+s:Nat):Int)))∧
  (∀ a b c d k r,C9 l a b c d k=some r→∀ n:Nat,k=n→TM l l' s w n r (C9 l' a b c d ((n+s:Nat):Int)))∧
  (∀ k r,Ae l k=some r→∀ n:Nat,k=n→n < l.length→TM l l' s w n r (Ae l' ((n+s:Nat):Int)))∧
  (∀ k op r,Ka l k op=some r→∀ n:Nat,k=n→n < l.length→TM l l' s w n r (Ka l' ((n+s:Nat):Int) op)):=by
 refine B2.mutual_partial_correctness l _ _ _ _ _ _ _ _ _ _ ?_ ?_ ?_ ?_ ?_ ?_ ?_ ?_ ?_ ?_
 ·intro g0 g1 ih0 ih1 k r hr n hn
  subst hn
  refine Tr.run ?_ hr
  rw [B2]
  refine Tr.bind (Tr.of fun r hr=>ih1 _ _ _ hr n rfl (by decide) (by decide)) fun v j ok _=>?_
  refine Tr.ask hl hl' hs (.inl fun _=>by decide) (Tr.ret (Nat.le_refl _) id) fun h1 h2=>?_
  simp only
  rw [wl hl hl' hs h2,K3 hl hl' hs h2]
  refine Tr.le (Tr.bind (Tr.of fun r hr=>ih0 _ _ hr _ rfl) fun v2 j2 ok2 _=>?_) (Nat.le_succ _)
  refine Tr.go (Tr.no (Nat.le_refl _)) fun h3=>?_
  refine Tr.must hl hl' hs (.inl fun _=>by decide) (Tr.no (Nat.le_refl _)) fun h4=>?_
  simp only
  rw [wl hl hl' hs h4,K3 hl hl' hs h4]
  refine Tr.le (Tr.bind (Tr.of fun r hr=>ih0 _ _ hr _ rfl) fun v3 j3 ok3 _=>?_) (Nat.le_succ _)
  refine Tr.go (Tr.no (Nat.le_refl _)) fun h3=>?_
  exact Tr.yes (Nat.le_refl _)
 ·intro g1 g2 g3 ih1 ih2 ih3 k m r hr n hn hm1 hm2
  subst hn
  refine Tr.run ?_ hr
  rw [I2]
  refine Tr.iff (fun h=>?_) fun h=>?_
  ·refine Tr.bind (Tr.of fun r hr=>ih3 _ _ hr _ rfl) fun v j ok _=>?_
   exact Tr.ret (Nat.le_refl _) id
  ·have h6:m≠6:=by simpa using h
   have hw:IntKind.i64.wrap (m+1)=m+1:=wr (by omega) (by omega)
   rw [hw]
   refine Tr.bind (Tr.of fun r hr=>ih1 _ _ _ hr _ rfl (by omega) (by omega)) fun v j ok _=>?_
   refine Tr.go (Tr.no (Nat.le_refl _)) fun _=>?_
   exact Tr.of fun r hr=>ih2 _ _ _ _ hr _ rfl (by omega) (by omega)
 ·intro g1 g2 ih1 ih2 m o k r hr n hn hm1 hm2
  subst hn
  refine Tr.run ?_ hr
  rw [O2]
  have hw:IntKind.i64.wrap (m+1)=m+1:=wr (by omega) (by omega)
  refine Tr.bin hl hl' hs (by omega) (fun op h1=>?_) fun op=>?_
  ·simp only [Bool.not_true,Bool.false_eq_true,if_false,Gv,ob]
   rw [wl hl hl' hs h1,K3 hl hl' hs h1,hw]
   refine Tr.le (Tr.bind (Tr.of fun r hr=>ih1 _ _ _ hr _ rfl (by omega) (by omega)) fun v j ok _=>?_) (Nat.le_succ _)
   refine Tr.go (Tr.no (Nat.le_refl _)) fun _=>?_
   refine Tr.iff (fun _=>Tr.yes (Nat.le_refl _)) fun _=>?_
   exact Tr.of fun r hr=>ih2 _ _ _ _ hr _ rfl (by omega) (by omega)
  ·exact Tr.yes (Nat.le_refl _)
 ·intro g4 g5 ih4 ih5 k r hr n hn
  subst hn
  refine Tr.run ?_ hr
  rw [Gb]
  have j1:∀ op,n < l.length→Tr l l' s w n true (g4 n op) (Ra l' ((n+s:Nat):Int) op):=fun op h=>Tr.of fun r hr=>ih4 _ _ _ hr _ rfl h
  refine Tr.is hl hl' hs (.inl fun _=>by decide) (fun h1=>?_) (fun h1=>?_)
  ·simp only [Bool.not_true,Bool.false_eq_true,if_false,ob,cond_false]
   exact Tr.may hl hl' hs (.inl fun _=>by decide) (fun _ h2=>j1 7 h2) fun _=>j1 6 (L1 h1)
  ·simp only [Bool.not_false,if_true,cond_true]
   refine Tr.is hl hl' hs (.inl fun _=>by decide) (fun h2=>?_) (fun h2=>?_)
   ·simp only [Bool.not_true,Bool.false_eq_true,if_false]
    exact Tr.may hl hl' hs (.inl fun _=>by decide) (fun _ h2=>j1 7 h2) fun _=>j1 6 (L1 h2)
   ·simp only [Bool.not_false,if_true]
    refine Tr.bind (Tr.of fun r hr=>ih5 _ _ hr _ rfl) fun v j ok _=>?_
    exact Tr.ret (Nat.le_refl _) id
 ·intro g3 ih3 k op r hr n hn h
  subst hn
  refine Tr.run ?_ hr
  rw [Ra,wl hl hl' hs h,K3 hl hl' hs h]
  refine Tr.le (Tr.bind (Tr.of fun r hr=>ih3 _ _ hr _ rfl) fun v j ok _=>?_) (Nat.le_succ _)
  refine Tr.go (Tr.no (Nat.le_refl _)) fun _=>?_
  exact Tr.yes (Nat.le_refl _)
 ·intro g0 g6 g8 ih0 ih6 ih8 k r hr n hn
  subst hn
  refine Tr.run ?_ hr
  rw [Sg]
  refine Tr.may hl hl' hs (.inl fun _=>by decide) (fun _ h=>?_) fun _=>?_
  ·rw [wl hl hl' hs h,K3 hl hl' hs h]; exact Tr.yes (Nat.le_succ _)
  refine Tr.may hl hl' hs (.inl fun _=>by decide) (fun _ h=>?_) fun _=>?_
  ·rw [wl hl hl' hs h,K3 hl hl' hs h]; exact Tr.yes (Nat.le_succ _)
  have ext:n < l.length→Tr l l' s w n true (g8 n>>=fun x5=>some (x5.1,x5.2.1,x5.2.2)) (Ae l' ((n+s:Nat):Int)>>=fun x5=>some (x5.1,x5.2.1,x5.2.2)):=fun h=>
   Tr.bind (Tr.of fun r hr=>ih8 _ _ hr _ rfl h) fun v j ok _=>Tr.ret (Nat.le_refl _) id
  refine Tr.is hl hl' hs (.inl fun _=>by decide) (fun h1=>?_) (fun h1=>?_)
  ·simp only [Bool.not_true,Bool.false_eq_true,if_false,ob,cond_true,if_true]
   exact ext (L1 h1)
  simp only [Bool.not_false,if_true,cond_false]
  refine Tr.may hl hl' hs (.inl fun _=>by decide) (fun h2 h=>ext h) fun h2=>?_
  refine Tr.may hl hl' hs (.inl fun _=>by decide) (fun _ h=>?_) fun _=>?_
  ·rw [wl hl hl' hs h,K3 hl hl' hs h]
   refine Tr.le (Tr.bind (Tr.of fun r hr=>ih0 _ _ hr _ rfl) fun v j ok _=>?_) (Nat.le_succ _)
   refine Tr.ask hl hl' hs (.inr fun r hr=>by cases hr; rfl) (Tr.no (Nat.le_refl _)) fun h1 h2=>?_
   simp only
   rw [wl hl hl' hs h2,K3 hl hl' hs h2]
   exact Tr.yes (Nat.le_succ _)
  ·rw [Cm l hl,Cm l' hl']
   intro r hr
   cases hd:P4 l n 1 with
   | true=>
    rw [hd] at hr
    cases hr
    refine ⟨⟨n+1,rfl,by omega,fun ha=>?_⟩,fun _=>rfl⟩
    rcases ha n (Nat.le_refl _) (by omega) with a | ⟨_,_,a,_⟩
    ·obtain ⟨b1,b2⟩:=Wq a 1
     rw [b1,hd,if_pos rfl]
     unfold Sz
     rw [b2,show n+s+1=n+1+s by omega]
     rfl
    ·unfold P4 at hd; rw [a] at hd; cases hd
   | false=>
    rw [hd] at hr
    have hp:Tr l l' s w n true (g6 n>>=fun x8=>some (x8.1,x8.2.1,x8.2.2)) (Z9 l' ((n+s:Nat):Int)>>=fun x8=>some (x8.1,x8.2.1,x8.2.2)):=
     Tr.bind (Tr.of fun r hr=>ih6 _ _ hr _ rfl) fun v j ok _=>Tr.ret (Nat.le_refl _) id
    obtain ⟨⟨j,h1,h2,h3⟩,_⟩:=hp r hr
    refine ⟨⟨j,h1,h2,fun ha=>?_⟩,fun _=>rfl⟩
    have hK:P4 l' (n+s) 1=false:=by
     rcases ha n (Nat.le_refl _) h2 with a | ⟨_,_,_,y,a4,a5,a6⟩
     ·rw [(Wq a 1).1,hd]
     ·unfold P4; rw [a4]; simp only [a5]; rfl
    rw [hK]
    exact h3 ha
 ·intro g7 ih7 k r hr n hn
  subst hn
  refine Tr.run ?_ hr
  rw [Z9]
  refine Tr.bind (Km hl hl' hs n) fun v j ok _=>?_
  refine Tr.go (Tr.no (Nat.le_refl _)) fun _=>?_
  exact Tr.of fun r hr=>ih7 _ _ _ _ _ _ hr _ rfl
 ·intro g0 g7 ih0 ih7 a b c d k r hr n hn
  subst hn
  refine Tr.run ?_ hr
  rw [C9]
  refine Tr.is hl hl' hs (.inl fun _=>by decide) (fun h1=>?_) (fun h1=>?_)
  ·simp only [Bool.not_true,Bool.false_eq_true,if_false,ob,cond_true,if_true]
   refine Tr.may hl hl' hs (.inl fun _=>by decide) (fun _ h=>?_) fun h2=>?_
   ·rw [wl hl hl' hs h,K3 hl hl' hs h]
    refine Tr.le (Tr.bind (Km hl hl' hs (n+1)) fun v j ok _=>?_) (Nat.le_succ _)
    refine Tr.go (Tr.no (Nat.le_refl _)) fun _=>?_
    exact Tr.of fun r hr=>ih7 _ _ _ _ _ _ hr _ rfl
   ·rw [h1] at h2; cases h2
  ·simp only [Bool.not_false,if_true,cond_false]
   refine Tr.may hl hl' hs (.inl fun _=>by decide) (fun h2 h=>?_) fun h2=>?_
   ·refine Tr.may hl hl' hs (.inl fun _=>by decide) (fun h3 _=>?_) fun h3=>?_
    ·rw [h1] at h3; cases h3
    rw [wl hl hl' hs h,K3 hl hl' hs h]
    refine Tr.le (Tr.bind (Tr.of fun r hr=>ih0 _ _ hr _ rfl) fun v j ok _=>?_) (Nat.le_succ _)
    refine Tr.ask hl hl' hs (.inl fun _=>by decide) (Tr.no (Nat.le_refl _)) fun h3 h4=>?_
    simp only [Gv,ob]
    rw [wl hl hl' hs h4,K3 hl hl' hs h4]
    exact Tr.le (Tr.of fun r hr=>ih7 _ _ _ _ _ _ hr _ rfl) (Nat.le_succ _)
   ·exact Tr.yes (Nat.le_refl _)
 ·intro g9 ih9 k r hr n hn h
  subst hn
  refine Tr.run ?_ hr
  rw [Ae]
  exact Tr.may hl hl' hs (.inl fun _=>by decide) (fun _ _=>Tr.of fun r hr=>ih9 _ _ _ hr _ rfl h) fun _=>Tr.of fun r hr=>ih9 _ _ _ hr _ rfl h
 ·intro g0 ih0 k op r hr n hn h
  subst hn
  refine Tr.run ?_ hr
  rw [Ka,wl hl hl' hs h,K3 hl hl' hs h,wl2 hl hl' hs h,ws2 hl hl' hs h]
  refine Tr.le (Tr.must hl hl' hs (.inl fun _=>by decide) (Tr.no (Nat.le_refl _)) fun h1=>?_) (Nat.le_succ _)
  refine Tr.le (Tr.bind (Tr.of fun r hr=>ih0 _ _ hr _ rfl) fun v j ok _=>?_) (Nat.le_succ _)
  refine Tr.ask hl hl' hs (.inl fun _=>by decide) (Tr.no (Nat.le_refl _)) fun h3 h4=>?_
  simp only
  rw [wl hl hl' hs h4,K3 hl hl' hs h4]
  refine Tr.le (Tr.bind (Tr.of fun r hr=>ih0 _ _ hr _ rfl) fun v2 j2 ok2 _=>?_) (Nat.le_succ _)
  refine Tr.ask hl hl' hs (.inr fun r hr=>by cases hr; rfl) (Tr.no (Nat.le_refl _)) fun h5 h6=>?_
  simp only [Gv,ob]
  rw [wl hl hl' hs h6,K3 hl hl' hs h6]
  exact Tr.yes (Nat.le_succ _)
theorem Xq (n:Nat):Tr l l' s w n true (B2 l n) (B2 l' ((n+s:Nat):Int)):=Tr.of fun r hr=>(C1j hl hl' hs).1 _ _ hr n rfl
theorem A1l (n:Nat):Tr l l' s w n true (Z9 l n) (Z9 l' ((n+s:Nat):Int)):=Tr.of fun r hr=>(C1j hl hl' hs).2.2.2.2.2.2.1 _ _ hr n rfl
end
end Go.Proofs.YtmnhfbekncjnfaaGreatDoor

namespace Go.Proofs.YtmnhfbekncjnfaaGreatDoor
open Go.Am
section
set_option linter.unusedSectionVars false
variable {l l':List K0}{s:Nat}{w:Bool}{α β:Type}(hl:Uh l)(hl':Uh l')(hs:l.length+s+8≤BB)
include hl hl' hs
theorem Bf (n:Nat):Tr l l' s w n true (N5 l n) (N5 l' ((n+s:Nat):Int)):=by
 unfold N5
 refine Tr.may hl hl' hs (.inl fun _=>by decide) (fun _ h=>?_) fun _=>?_
 ·rw [wl hl hl' hs h,K3 hl hl' hs h]
  exact Tr.le (Tr.bind (P19 hl hl' hs (n+1)) fun v j ok _=>Tr.ret (Nat.le_refl _) id) (Nat.le_succ _)
 ·exact Tr.bind (P19 hl hl' hs n) fun v j ok _=>Tr.ret (Nat.le_refl _) id
theorem L1d (n:Nat):Tr l l' s w n true (Mi l n) (Mi l' ((n+s:Nat):Int)):=by
 unfold Mi
 refine Tr.must hl hl' hs (.inl fun _=>by decide) (Tr.no (Nat.le_refl _)) fun h1=>?_
 rw [wl hl hl' hs h1,K3 hl hl' hs h1]
 refine Tr.le (Tr.bind (Bf hl hl' hs (n+1)) fun v j ok _=>?_) (Nat.le_succ _)
 refine Tr.ask hl hl' hs (.inl fun _=>by decide) (Tr.no (Nat.le_refl _)) fun _ h2=>?_
 simp only
 rw [wl hl hl' hs h2,K3 hl hl' hs h2]
 refine Tr.le (Tr.bind (Bf hl hl' hs (j+1)) fun v2 j2 ok2 _=>?_) (Nat.le_succ _)
 refine Tr.ask hl hl' hs (.inl fun _=>by decide) (Tr.no (Nat.le_refl _)) fun _ h3=>?_
 simp only
 rw [wl hl hl' hs h3,K3 hl hl' hs h3]
 exact Tr.yes (Nat.le_succ _)
theorem M1e:(∀ k r,Ta l k=some r→∀ n:Nat,k=n→TM l l' s w n r (Ta l' ((n+s:Nat):Int)))∧
  (∀ k r,Ol l k=some r→∀ n:Nat,k=n→TM l l' s w n r (Ol l' ((n+s:Nat):Int)))∧
  (∀ a b k r,O9 l a b k=some r→∀ n:Nat,k=n→n < l.length→TM l l' s w n r (O9 l' a b ((n+s:Nat):Int)))∧
  (∀ k r,J5 l k=some r→∀ n:Nat,k=n→TM l l' s w n r (J5 l' ((n+s:Nat):Int))):=by
 refine Ta.mutual_partial_correctness l _ _ _ _ ?_ ?_ ?_ ?_
 ·intro g0 g1 ih0 ih1 k r hr n hn
  subst hn
  refine Tr.run ?_ hr
  rw [Ta]
  refine Tr.may hl hl' hs (.inl fun _=>by decide) (fun _ h=>?_) fun _=>?_
  ·rw [wl hl hl' hs h,K3 hl hl' hs h]; exact Tr.yes (Nat.le_succ _)
  refine Tr.may hl hl' hs (.inl fun _=>by decide) (fun _ h=>?_) fun _=>?_
  ·rw [wl hl hl' hs h,K3 hl hl' hs h]
   exact Tr.le (Tr.bind (L1d hl hl' hs (n+1)) fun v j ok _=>Tr.ret (Nat.le_refl _) id) (Nat.le_succ _)
  refine Tr.may hl hl' hs (.inl fun _=>by decide) (fun _ h=>?_) fun _=>?_
  ·rw [wl hl hl' hs h,K3 hl hl' hs h]
   refine Tr.le (Tr.bind (Bf hl hl' hs (n+1)) fun v j ok _=>?_) (Nat.le_succ _)
   refine Tr.ask hl hl' hs (.inl fun _=>by decide) (Tr.no (Nat.le_refl _)) fun _ h2=>?_
   simp only
   rw [wl hl hl' hs h2,K3 hl hl' hs h2]
   exact Tr.le (Tr.bind (Tr.of fun r hr=>ih0 _ _ hr _ rfl) fun v2 j2 ok2 _=>Tr.ret (Nat.le_refl _) id) (Nat.le_succ _)
  refine Tr.may hl hl' hs (.inl fun _=>by decide) (fun _ h=>?_) fun _=>?_
  ·rw [wl hl hl' hs h,K3 hl hl' hs h]
   exact Tr.le (Tr.bind (Tr.of fun r hr=>ih1 _ _ hr _ rfl) fun v2 j2 ok2 _=>Tr.ret (Nat.le_refl _) id) (Nat.le_succ _)
  ·exact Tr.bind (Km hl hl' hs n) fun v j ok _=>Tr.ret (Nat.le_refl _) id
 ·intro g2 ih2 k r hr n hn
  subst hn
  refine Tr.run ?_ hr
  rw [Ol]
  exact Tr.must hl hl' hs (.inl fun _=>by decide) (Tr.no (Nat.le_refl _)) fun h1=>Tr.of fun r hr=>ih2 _ _ _ _ hr _ rfl h1
 ·intro g2 g3 ih2 ih3 a b k r hr n hn h
  subst hn
  refine Tr.run ?_ hr
  rw [O9,wl hl hl' hs h,K3 hl hl' hs h]
  refine Tr.le (Tr.bind (Tr.of fun r hr=>ih3 _ _ hr _ rfl) fun v j ok _=>?_) (Nat.le_succ _)
  refine Tr.go (Tr.no (Nat.le_refl _)) fun _=>?_
  refine Tr.room fun _=>Tr.room fun _=>?_
  refine Tr.may hl hl' hs (.inl fun _=>by decide) (fun _ h=>?_) fun _=>?_
  ·simp only
   rw [wl hl hl' hs h,K3 hl hl' hs h]; exact Tr.yes (Nat.le_succ _)
  exact Tr.must hl hl' hs (.inl fun _=>by decide) (Tr.no (Nat.le_refl _)) fun h1=>Tr.of fun r hr=>ih2 _ _ _ _ hr _ rfl h1
 ·intro g0 ih0 k r hr n hn
  subst hn
  refine Tr.run ?_ hr
  rw [J5]
  refine Tr.bind (Km hl hl' hs n) fun v j ok _=>?_
  refine Tr.ask hl hl' hs (.inl fun _=>by decide) (Tr.no (Nat.le_refl _)) fun _ h2=>?_
  simp only
  rw [wl hl hl' hs h2,K3 hl hl' hs h2]
  exact Tr.le (Tr.bind (Tr.of fun r hr=>ih0 _ _ hr _ rfl) fun v2 j2 ok2 _=>Tr.ret (Nat.le_refl _) id) (Nat.le_succ _)
theorem W14 (n:Nat):Tr l l' s w n true (J5 l n) (J5 l' ((n+s:Nat):Int)):=Tr.of fun r hr=>(M1e hl hl' hs).2.2.2 _ _ hr n rfl
theorem D1j (n:Nat):Tr l l' s w n true (Ta l n) (Ta l' ((n+s:Nat):Int)):=Tr.of fun r hr=>(M1e hl hl' hs).1 _ _ hr n rfl
end
end Go.Proofs.YtmnhfbekncjnfaaGreatDoor

namespace Go.Proofs.YtmnhfbekncjnfaaGreatDoor
open Go.Am
section
set_option linter.unusedSectionVars false
variable {l l':List K0}{s:Nat}{α β:Type}(hl:Uh l)(hl':Uh l')(hs:l.length+s+8≤BB)
include hl hl' hs
theorem Y17:∀ k out r,S6 l k out=some r→∀ n:Nat,k=n→TM l l' s false n r (S6 l' ((n+s:Nat):Int) out):=by
 refine S6.partial_correctness l _ ?_
 intro g ih k out r hr n hn
 subst hn
 refine Tr.run ?_ hr
 rw [S6]
 refine Tr.bind (Bf hl hl' hs n) fun v j ok _=>?_
 refine Tr.go (Tr.no (Nat.le_refl _)) fun _=>?_
 refine Tr.room fun _=>?_
 refine Tr.must hl hl' hs (.inl nofun) (Tr.yes (Nat.le_refl _)) fun h=>?_
 simp only
 rw [wl hl hl' hs h,K3 hl hl' hs h]
 exact Tr.le (Tr.of fun r hr=>ih _ _ _ hr _ rfl) (Nat.le_succ _)
theorem M1d (n:Nat):Tr l l' s false n true (Xi l n) (Xi l' ((n+s:Nat):Int)):=by
 unfold Xi
 exact Tr.of fun r hr=>Y17 hl hl' hs _ _ _ hr _ rfl
theorem Z16:∀ k out r,F6 l k out=some r→∀ n:Nat,k=n→n < l.length→TM l l' s false (n+1) r (F6 l' ((n+s:Nat):Int) out):=by
 refine F6.partial_correctness l _ ?_
 intro g ih k out r hr n hn h
 subst hn
 refine Tr.run ?_ hr
 rw [F6,wl hl hl' hs h,K3 hl hl' hs h]
 refine Tr.bind (Xq hl hl' hs (n+1)) fun v j ok _=>?_
 refine Tr.go (Tr.no (Nat.le_refl _)) fun _=>?_
 refine Tr.room fun _=>?_
 refine Tr.may hl hl' hs (.inl nofun) (fun _ h=>?_) fun _=>?_
 ·simp only
  rw [wl hl hl' hs h,K3 hl hl' hs h]; exact Tr.yes (Nat.le_succ _)
 exact Tr.must hl hl' hs (.inl nofun) (Tr.no (Nat.le_refl _)) fun h1=>Tr.le (Tr.of fun r hr=>ih _ _ _ hr _ rfl h1) (Nat.le_succ _)
theorem X1c (n:Nat):Tr l l' s false n true (Dh l n) (Dh l' ((n+s:Nat):Int)):=by
 unfold Dh
 refine Tr.must hl hl' hs (.inl nofun) (Tr.no (Nat.le_refl _)) fun h=>?_
 rw [wl hl hl' hs h,K3 hl hl' hs h,wl2 hl hl' hs h,ws2 hl hl' hs h]
 refine Tr.le (k':=n+1) (Tr.may hl hl' hs (.inl nofun) (fun _ _=>Tr.yes (Nat.le_succ _)) fun _=>?_) (Nat.le_succ _)
 exact Tr.of fun r hr=>Z16 hl hl' hs _ _ _ hr _ rfl h
theorem X19 (n:Nat):Tr l l' s false n true (Sc l n) (Sc l' ((n+s:Nat):Int)):=by
 unfold Sc
 refine Tr.bind (A1l hl hl' hs n) fun v j ok _=>?_
 refine Tr.ask hl hl' hs (.inl nofun) (Tr.no (Nat.le_refl _)) fun _ h=>?_
 simp only
 rw [wl hl hl' hs h,K3 hl hl' hs h]
 refine Tr.le (k':=j+1) (Tr.may hl hl' hs (.inl nofun) (fun _ h2=>?_) fun _=>?_) (Nat.le_succ _)
 ·rw [wl hl hl' hs h2,K3 hl hl' hs h2]
  exact Tr.le (Tr.bind (Km hl hl' hs (j+1+1)) fun v j ok _=>Tr.ret (Nat.le_refl _) id) (Nat.le_succ _)
 refine Tr.may hl hl' hs (.inl nofun) (fun _ h2=>?_) fun _=>?_
 ·rw [wl hl hl' hs h2,K3 hl hl' hs h2]
  refine Tr.le (Tr.bind (Km hl hl' hs (j+1+1)) fun v j ok _=>?_) (Nat.le_succ _)
  refine Tr.go (Tr.no (Nat.le_refl _)) fun _=>?_
  exact Tr.bind (X1c hl hl' hs j) fun v j ok _=>Tr.ret (Nat.le_refl _) id
 ·exact Tr.bind (Xq hl hl' hs (j+1)) fun v j ok _=>Tr.ret (Nat.le_refl _) id
theorem D13 (a:Int)(p v:A0)(n:Str)(az:List A0)(b c d:Int)(ns:List Int)(t u:List E0)(j:Nat)(ok:Bool) :
  Tr l l' s false j ok (E6 l a p v n az b c d ns t u j ok) (E6 l' a p v n az b c d ns t u ((j+s:Nat):Int) ok):=by
 unfold E6
 refine Tr.ask hl hl' hs (.inl nofun) (Tr.no (Nat.le_refl _)) fun _ h=>?_
 rw [wl hl hl' hs h,K3 hl hl' hs h]
 exact Tr.yes (Nat.le_succ _)
theorem Tr.states {k:Nat}{b:Bool}{F F':Bool→Option (β×Int×Bool)}(hT:beg l k=true→Tr l l' s false k b (F true) (F' true))(hN:beg l k=false→Tr l l' s false k b (F false) (F' false)):Tr l l' s false k b (Yf l (k:Int)>>=F) (Yf l' ((k+s:Nat):Int)>>=F'):=by
 intro r hr
 have e1:Yf l (k:Int)=some (beg l k):=V14 hl k
 have e2:Yf l' ((k+s:Nat):Int)=some (beg l' (k+s)):=V14 hl' (k+s)
 rw [e1,ob] at hr
 rw [e2,ob]
 have key:∀ c:Bool,beg l k=c→F c=some r→TM l l' s false k r (F' c)∧(r.2.2=true→b=true):=by
  intro c hc hq
  cases c with
  | true=>exact hT hc r hq
  | false=>exact hN hc r hq
 obtain ⟨⟨j,h1,h2,h3⟩,h4⟩:=key _ rfl hr
 refine ⟨⟨j,h1,h2,fun ha=>?_⟩,h4⟩
 rcases ha k (Nat.le_refl _) h2 with a | ⟨a,_⟩
 ·have:beg l' (k+s)=beg l k:=by
   unfold beg
   simp only [Qy a,(Wq a 0).1]
  rw [this]
  exact h3 ha
 ·cases a
theorem Q1m:(∀ k r,X4 l k=some r→∀ n:Nat,k=n→TM l l' s false n r (X4 l' ((n+s:Nat):Int)))∧
  (∀ k out r,N6 l k out=some r→∀ n:Nat,k=n→TM l l' s false n r (N6 l' ((n+s:Nat):Int) out))∧
  (∀ k r,Ud l k=some r→∀ n:Nat,k=n→TM l l' s false n r (Ud l' ((n+s:Nat):Int)))∧
  (∀ k r,Lk l k=some r→∀ n:Nat,k=n→TM l l' s false n r (Lk l' ((n+s:Nat):Int)))∧
  (∀ k r,Hb l k=some r→∀ n:Nat,k=n→TM l l' s false n r (Hb l' ((n+s:Nat):Int)))∧
  (∀ k r,An l k=some r→∀ n:Nat,k=n→TM l l' s false n r (An l' ((n+s:Nat):Int)))∧
  (∀ k r,Fe l k=some r→∀ n:Nat,k=n→TM l l' s false n r (Fe l' ((n+s:Nat):Int))):=by
 refine X4.mutual_partial_correctness l _ _ _ _ _ _ _ ?_ ?_ ?_ ?_ ?_ ?_ ?_
 ·intro g1 ih1 k r hr n hn
  subst hn
  refine Tr.run ?_ hr
  rw [X4]
  exact Tr.of fun r hr=>ih1 _ _ _ hr _ rfl
 ·intro g1 g2 ih1 ih2 k out r hr n hn
  subst hn
  refine Tr.run ?_ hr
  rw [N6]
  refine Tr.states hl hl' hs (fun _=>?_) fun _=>?_
  ·simp only [if_true]
   refine Tr.bind (Tr.of fun r hr=>ih2 _ _ hr _ rfl) fun v j ok _=>?_
   refine Tr.go (Tr.no (Nat.le_refl _)) fun _=>?_
   exact Tr.room fun _=>Tr.of fun r hr=>ih1 _ _ _ hr _ rfl
  ·exact Tr.yes (Nat.le_refl _)
 ·intro g3 g5 g6 ih3 ih5 ih6 k r hr n hn
  subst hn
  refine Tr.run ?_ hr
  rw [Ud]
  refine Tr.may hl hl' hs (.inl nofun) (fun _ h=>?_) fun _=>?_
  ·rw [wl hl hl' hs h,K3 hl hl' hs h]
   exact Tr.le (Tr.bind (Tr.of fun r hr=>ih6 _ _ hr _ rfl) fun v j ok _=>Tr.ret (Nat.le_refl _) id) (Nat.le_succ _)
  refine Tr.may hl hl' hs (.inl nofun) (fun _ h=>?_) fun _=>?_
  ·rw [wl hl hl' hs h,K3 hl hl' hs h]
   exact Tr.le (Tr.bind (Tr.of fun r hr=>ih5 _ _ hr _ rfl) fun v j ok _=>Tr.ret (Nat.le_refl _) id) (Nat.le_succ _)
  refine Tr.may hl hl' hs (.inl nofun) (fun _ h=>?_) fun _=>?_
  ·rw [wl hl hl' hs h,K3 hl hl' hs h]
   exact Tr.le (Tr.bind (Tr.of fun r hr=>ih3 _ _ hr _ rfl) fun v j ok _=>Tr.ret (Nat.le_refl _) id) (Nat.le_succ _)
  refine Tr.may hl hl' hs (.inl nofun) (fun _ h=>?_) fun _=>?_
  ·rw [wl hl hl' hs h,K3 hl hl' hs h]
   exact Tr.le (Tr.bind (Xq hl hl' hs (n+1)) fun v j ok _=>D13 hl hl' hs _ _ _ _ _ _ _ _ _ _ _ j ok) (Nat.le_succ _)
  refine Tr.may hl hl' hs (.inl nofun) (fun _ h=>?_) fun _=>?_
  ·rw [wl hl hl' hs h,K3 hl hl' hs h]
   exact Tr.le (Tr.bind (Bf hl hl' hs (n+1)) fun v j ok _=>D13 hl hl' hs _ _ _ _ _ _ _ _ _ _ _ j ok) (Nat.le_succ _)
  refine Tr.may hl hl' hs (.inl nofun) (fun _ h=>?_) fun _=>?_
  ·rw [wl hl hl' hs h,K3 hl hl' hs h]
   exact Tr.le (Tr.bind (M1d hl hl' hs (n+1)) fun v j ok _=>D13 hl hl' hs _ _ _ _ _ _ _ _ _ _ _ j ok) (Nat.le_succ _)
  ·exact Tr.bind (X19 hl hl' hs n) fun v j ok _=>D13 hl hl' hs _ _ _ _ _ _ _ _ _ _ _ j ok
 ·intro g4 ih4 k r hr n hn
  subst hn
  refine Tr.run ?_ hr
  rw [Lk]
  refine Tr.bind (Km hl hl' hs n) fun v j ok _=>?_
  refine Tr.ask hl hl' hs (.inl nofun) (Tr.no (Nat.le_refl _)) fun _ h=>?_
  simp only
  rw [wl hl hl' hs h,K3 hl hl' hs h]
  refine Tr.le (Tr.bind (Bf hl hl' hs (j+1)) fun v2 j2 ok2 _=>?_) (Nat.le_succ _)
  refine Tr.ask hl hl' hs (.inl nofun) (Tr.no (Nat.le_refl _)) fun _ h=>?_
  simp only
  rw [wl hl hl' hs h,K3 hl hl' hs h]
  refine Tr.le (Tr.bind (Bf hl hl' hs (j2+1)) fun v3 j3 ok3 _=>?_) (Nat.le_succ _)
  refine Tr.go (Tr.no (Nat.le_refl _)) fun _=>?_
  exact Tr.bind (Tr.of fun r hr=>ih4 _ _ hr _ rfl) fun v j ok _=>Tr.ret (Nat.le_refl _) id
 ·intro g0 ih0 k r hr n hn
  subst hn
  refine Tr.run ?_ hr
  rw [Hb]
  refine Tr.must hl hl' hs (.inl nofun) (Tr.no (Nat.le_refl _)) fun h=>?_
  rw [wl hl hl' hs h,K3 hl hl' hs h]
  refine Tr.le (Tr.bind (Tr.of fun r hr=>ih0 _ _ hr _ rfl) fun v j ok _=>?_) (Nat.le_succ _)
  refine Tr.ask hl hl' hs (.inl nofun) (Tr.no (Nat.le_refl _)) fun _ h=>?_
  simp only
  rw [wl hl hl' hs h,K3 hl hl' hs h]
  exact Tr.yes (Nat.le_succ _)
 ·intro g4 ih4 k r hr n hn
  subst hn
  refine Tr.run ?_ hr
  rw [An]
  refine Tr.bind (Xq hl hl' hs n) fun v j ok _=>?_
  refine Tr.ask hl hl' hs (.inl nofun) (Tr.no (Nat.le_refl _)) fun _ h=>?_
  simp only
  rw [wl hl hl' hs h,K3 hl hl' hs h]
  refine Tr.le (Tr.bind (Bf hl hl' hs (j+1)) fun v2 j2 ok2 _=>?_) (Nat.le_succ _)
  refine Tr.go (Tr.no (Nat.le_refl _)) fun _=>?_
  exact Tr.bind (Tr.of fun r hr=>ih4 _ _ hr _ rfl) fun v j ok _=>Tr.ret (Nat.le_refl _) id
 ·intro g4 ih4 k r hr n hn
  subst hn
  refine Tr.run ?_ hr
  rw [Fe]
  refine Tr.bind (Xq hl hl' hs n) fun v j ok _=>?_
  refine Tr.go (Tr.no (Nat.le_refl _)) fun _=>?_
  refine Tr.bind (Tr.of fun r hr=>ih4 _ _ hr _ rfl) fun v2 j2 ok2 _=>?_
  refine Tr.go (Tr.no (Nat.le_refl _)) fun h=>?_
  subst h
  refine Tr.may hl hl' hs (.inl nofun) (fun _ h=>?_) fun _=>?_
  ·simp only
   rw [wl hl hl' hs h,K3 hl hl' hs h]
   exact Tr.le (Tr.bind (Tr.of fun r hr=>ih4 _ _ hr _ rfl) fun v j ok _=>Tr.ret (Nat.le_refl _) id) (Nat.le_succ _)
  ·exact Tr.yes (Nat.le_refl _)
theorem F10 (n:Nat):Tr l l' s false n true (X4 l n) (X4 l' ((n+s:Nat):Int)):=Tr.of fun r hr=>(Q1m hl hl' hs).1 _ _ hr n rfl
theorem E1j (x y:D0×Int×Bool)(h:x.1=y.1)(i:Int)(j:Nat)(ok:Bool)(hok:ok=true):Tr l l' s false j ok (R6 l x i j) (R6 l' y i ((j+s:Nat):Int)):=by
 subst hok
 unfold R6
 rw [h]
 refine Tr.must hl hl' hs (.inl nofun) (Tr.no (Nat.le_refl _)) fun h=>?_
 rw [wl hl hl' hs h,K3 hl hl' hs h]
 exact Tr.yes (Nat.le_succ _)
theorem B1l (n:Nat):Tr l l' s false n true (Zm l n) (Zm l' ((n+s:Nat):Int)):=by
 unfold Zm
 refine Tr.may hl hl' hs (.inl nofun) (fun _ h=>?_) fun _=>?_
 ·rw [wl hl hl' hs h,K3 hl hl' hs h]; exact Tr.yes (Nat.le_succ _)
 refine Tr.may hl hl' hs (.inl nofun) (fun _ h=>?_) fun _=>?_
 ·rw [wl hl hl' hs h,K3 hl hl' hs h]; exact Tr.yes (Nat.le_succ _)
 exact Tr.bind (Bf hl hl' hs n) fun v j ok _=>Tr.ret (Nat.le_refl _) id
theorem T13 (n:Nat):Tr l l' s false n true (Rc l n) (Rc l' ((n+s:Nat):Int)):=by
 unfold Rc
 refine Tr.bind (W14 hl hl' hs n) fun v j ok _=>?_
 refine Tr.go (Tr.no (Nat.le_refl _)) fun _=>?_
 refine Tr.may hl hl' hs (.inl nofun) (fun _ h=>?_) fun _=>?_
 ·simp only
  rw [wl hl hl' hs h,K3 hl hl' hs h]
  refine Tr.le (Tr.bind (B1l hl hl' hs (j+1)) fun v2 j2 ok2 _=>?_) (Nat.le_succ _)
  refine Tr.go (Tr.no (Nat.le_refl _)) fun _=>?_
  exact E1j hl hl' hs _ _ rfl _ j2 true rfl
 ·exact E1j hl hl' hs _ _ rfl _ j true rfl
theorem Tr.signs {k:Nat}{b:Bool}{t u:Str}{F F':Int×Bool→Option (β×Int×Bool)}(hT:k+1 < l.length→Tr l l' s false (k+1+1) b (F (((k+1+1:Nat):Int),true)) (F' (((k+1+1+s:Nat):Int),true)))(hN:Tr l l' s false k b (F ((k:Int),false)) (F' (((k+s:Nat):Int),false)))(hN2:Tr l l' s false (k+1) b (F (((k+1:Nat):Int),false)) (F' (((k+1+s:Nat):Int),false))) :
  Tr l l' s false k b (Sk l (k:Int) [t,u]>>=F) (Sk l' ((k+s:Nat):Int) [t,u]>>=F'):=by
 intro r hr
 rw [Wz hl,ob] at hr
 rw [Wz hl',ob]
 have q1:k+s+1=k+1+s:=by omega
 have q2:k+1+s+1=k+1+1+s:=by omega
 rw [q1,q2]
 have ha:∀ {i j:Nat},Ag l l' s false k j r.2.2→k≤i→i≤j→∀ t,isT l' (i+s) t=isT l i t:=fun ha h1 h2 t=>by
  rcases ha _ h1 h2 with a | ⟨a,_⟩
  ·exact Qy a t
  ·cases a
 cases h:isT l k t with
 | false=>
  rw [h] at hr
  obtain ⟨⟨j,h1,h2,h3⟩,h4⟩:=hN r hr
  refine ⟨⟨j,h1,h2,fun hA=>?_⟩,h4⟩
  rw [ha hA (Nat.le_refl _) h2,h]
  exact h3 hA
 | true=>
  rw [h] at hr
  simp only [if_true] at hr
  cases h':isT l (k+1) u with
  | false=>
   rw [h'] at hr
   obtain ⟨⟨j,h1,h2,h3⟩,h4⟩:=hN2 r hr
   refine ⟨⟨j,h1,by omega,fun hA=>?_⟩,h4⟩
   rw [ha hA (Nat.le_refl _) (by omega),h,ha hA (Nat.le_succ _) h2,h']
   exact h3 fun i i1 i2=>hA i (by omega) i2
  | true=>
   rw [h'] at hr
   obtain ⟨⟨j,h1,h2,h3⟩,h4⟩:=hT (L1 h') r hr
   refine ⟨⟨j,h1,by omega,fun hA=>?_⟩,h4⟩
   rw [ha hA (Nat.le_refl _) (by omega),h,ha hA (Nat.le_succ _) (by omega),h']
   exact h3 fun i i1 i2=>hA i (by omega) i2
theorem R1m (x1:Str×Int×Bool)(x5:F0×Int×Bool)(ps:List D0):∀ vs k r,T7 l x1 x5 ps vs k=some r→∀ (n:Nat) (y1:Str×Int×Bool) (y5:F0×Int×Bool),k=n→y1.1=x1.1→y5.1=x5.1→TM l l' s false n r (T7 l' y1 y5 ps vs ((n+s:Nat):Int)):=by
 refine T7.partial_correctness l x1 x5 ps _ ?_
 intro g ih vs k r hr n y1 y5 hn e1 e5
 subst hn
 refine Tr.run ?_ hr
 rw [T7,e1,e5]
 refine Tr.may hl hl' hs (.inl nofun) (fun _ h=>?_) fun _=>?_
 ·rw [wl hl hl' hs h,K3 hl hl' hs h]
  refine Tr.le (Tr.bind (T13 hl hl' hs (n+1)) fun v j ok _=>?_) (Nat.le_succ _)
  refine Tr.go (Tr.no (Nat.le_refl _)) fun _=>?_
  exact Tr.room fun _=>Tr.of fun r hr=>ih _ _ _ hr _ _ _ rfl e1 e5
 refine Tr.bind (F10 hl hl' hs n) fun v j ok _=>?_
 refine Tr.ask hl hl' hs (.inl nofun) (Tr.no (Nat.le_refl _)) fun _ h=>?_
 simp only
 rw [wl hl hl' hs h,K3 hl hl' hs h]
 refine Tr.le (Tr.bind (Xq hl hl' hs (j+1)) fun v2 j2 ok2 _=>?_) (Nat.le_succ _)
 refine Tr.go (Tr.no (Nat.le_refl _)) fun _=>?_
 exact Tr.signs hl hl' hs (fun _=>Tr.yes (Nat.le_refl _)) (Tr.yes (Nat.le_refl _)) (Tr.yes (Nat.le_refl _))
theorem N1e (x1 y1:Str×Int×Bool)(e1:y1.1=x1.1)(ps:List D0)(n:Nat):Tr l l' s false n true (U7 l x1 ps n) (U7 l' y1 ps ((n+s:Nat):Int)):=by
 unfold U7
 rw [e1]
 refine Tr.signs hl hl' hs (fun _=>?_) (Tr.no (Nat.le_refl _)) (Tr.no (Nat.le_refl _))
 simp only [Bool.not_true,Bool.false_eq_true,if_false]
 refine Tr.bind (D1j hl hl' hs (n+1+1)) fun v j ok _=>?_
 refine Tr.ask hl hl' hs (.inl nofun) (Tr.no (Nat.le_refl _)) fun _ h=>?_
 simp only
 rw [wl hl hl' hs h,K3 hl hl' hs h]
 exact Tr.le (Tr.of fun r hr=>R1m hl hl' hs _ _ _ _ _ _ hr _ _ _ rfl e1 rfl) (Nat.le_succ _)
theorem S1m (x1:Str×Int×Bool):∀ ps k r,W5 l x1 ps k=some r→∀ (n:Nat) (y1:Str×Int×Bool),k=n→y1.1=x1.1→TM l l' s false n r (W5 l' y1 ps ((n+s:Nat):Int)):=by
 refine W5.partial_correctness l x1 _ ?_
 intro g ih ps k r hr n y1 hn e1
 subst hn
 refine Tr.run ?_ hr
 rw [W5,e1]
 refine Tr.bind (W14 hl hl' hs n) fun v j ok _=>?_
 refine Tr.go (Tr.no (Nat.le_refl _)) fun _=>?_
 refine Tr.room fun _=>?_
 refine Tr.must hl hl' hs (.inl nofun) ?_ fun h=>?_
 ·exact N1e hl hl' hs _ _ e1 _ _
 ·simp only
  rw [wl hl hl' hs h,K3 hl hl' hs h]
  exact Tr.le (Tr.of fun r hr=>ih _ _ _ hr _ _ rfl e1) (Nat.le_succ _)
theorem N1d (n:Nat):Tr l l' s false n true (Gf l n) (Gf l' ((n+s:Nat):Int)):=by
 unfold Gf
 refine Tr.bind (Km hl hl' hs n) fun v j ok _=>?_
 refine Tr.ask hl hl' hs (.inl nofun) (Tr.no (Nat.le_refl _)) fun _ h=>?_
 simp only
 rw [wl hl hl' hs h,K3 hl hl' hs h]
 refine Tr.le (k':=j+1) (Tr.must hl hl' hs (.inl nofun) ?_ fun h=>?_) (Nat.le_succ _)
 ·exact Tr.of fun r hr=>S1m hl hl' hs _ _ _ _ hr _ _ rfl rfl
 ·exact N1e hl hl' hs (v,(j:Int),ok) (v,((j+s:Nat):Int),ok) rfl _ _
theorem A17 (kd:Int)(x y:D0×Int×Bool)(e:y.1=x.1)(v:A0)(j:Nat):Tr l l' s false j true (H5 l kd x v j) (H5 l' kd y v ((j+s:Nat):Int)):=by
 unfold H5
 rw [e]
 refine Tr.must hl hl' hs (.inl nofun) (Tr.no (Nat.le_refl _)) fun h=>?_
 rw [wl hl hl' hs h,K3 hl hl' hs h]
 exact Tr.yes (Nat.le_succ _)
theorem Tr.idx {k:Nat}{b:Bool}{F F':K0→Option (β×Int×Bool)}(hF:∀ x y,y.Text=x.Text→k < l.length→Tr l l' s false k b (F x) (F' y)):Tr l l' s false k b (idx l (k:Int)>>=F) (idx l' ((k+s:Nat):Int)>>=F'):=by
 intro r hr
 rw [Qm] at hr ⊢
 cases hx:l[k]? with
 | none=>rw [hx] at hr; cases hr
 | some x=>
  rw [hx,ob] at hr
  have key:∀ y,y.Text=x.Text→TM l l' s false k r (F' y)∧(r.2.2=true→b=true):=fun y hy=>hF x y hy (Tk hx) r hr
  obtain ⟨⟨j,h1,h2,h3⟩,h4⟩:=key x rfl
  refine ⟨⟨j,h1,h2,fun ha=>?_⟩,h4⟩
  rcases ha k (Nat.le_refl _) h2 with a | ⟨a,_⟩
  ·rw [hx] at a
   cases hy:l'[k+s]? with
   | none=>rw [hy] at a; exact a.elim
   | some y=>
    rw [hy] at a
    obtain ⟨⟨j',g1,g2,g3⟩,_⟩:=key y a.2.symm
    have:j'=j:=by omega
    subst this
    rw [ob]
    exact g3 ha
  ·cases a
theorem Z17 (n:Nat):Tr l l' s false n true (Xb l n) (Xb l' ((n+s:Nat):Int)):=by
 unfold Xb
 refine Tr.may hl hl' hs (.inl nofun) (fun _ h=>?_) fun _=>?_
 ·rw [wl hl hl' hs h,K3 hl hl' hs h]
  exact Tr.le (Tr.bind (T13 hl hl' hs (n+1)) fun v j ok _=>Tr.ret (Nat.le_refl _) id) (Nat.le_succ _)
 refine Tr.may hl hl' hs (.inl nofun) (fun _ h=>?_) fun _=>?_
 ·rw [wl hl hl' hs h,K3 hl hl' hs h]
  exact Tr.le (Tr.bind (N1d hl hl' hs (n+1)) fun v j ok _=>Tr.ret (Nat.le_refl _) id) (Nat.le_succ _)
 refine Tr.may hl hl' hs (.inl nofun) (fun _ h=>?_) fun _=>?_
 ·rw [wl hl hl' hs h,K3 hl hl' hs h]
  refine Tr.le (Tr.bind (Km hl hl' hs (n+1)) fun v j ok _=>?_) (Nat.le_succ _)
  refine Tr.ask hl hl' hs (.inl nofun) (Tr.no (Nat.le_refl _)) fun _ h=>?_
  simp only
  rw [wl hl hl' hs h,K3 hl hl' hs h]
  refine Tr.le (Tr.bind (D1j hl hl' hs (j+1)) fun v j ok _=>?_) (Nat.le_succ _)
  refine Tr.ask hl hl' hs (.inl nofun) (Tr.no (Nat.le_refl _)) fun _ h=>?_
  simp only
  rw [wl hl hl' hs h,K3 hl hl' hs h]
  exact Tr.yes (Nat.le_succ _)
 refine Tr.idx hl hl' hs fun x y hxy h=>?_
 rw [wl hl hl' hs h,K3 hl hl' hs h,hxy]
 refine Tr.le (Tr.bind (W14 hl hl' hs (n+1)) fun v j ok _=>?_) (Nat.le_succ _)
 refine Tr.go (Tr.no (Nat.le_refl _)) fun _=>?_
 refine Tr.iff (fun _=>A17 hl hl' hs _ _ _ rfl _ j) fun _=>?_
 refine Tr.iff (fun _=>A17 hl hl' hs _ _ _ rfl _ j) fun _=>?_
 refine Tr.iff (fun _=>A17 hl hl' hs _ _ _ rfl _ j) fun _=>?_
 refine Tr.must hl hl' hs (.inl nofun) (Tr.no (Nat.le_refl _)) fun h=>?_
 simp only
 rw [wl hl hl' hs h,K3 hl hl' hs h]
 refine Tr.le (Tr.bind (Xq hl hl' hs (j+1)) fun v2 j2 ok2 _=>?_) (Nat.le_succ _)
 refine Tr.go (Tr.no (Nat.le_refl _)) fun _=>?_
 exact A17 hl hl' hs _ _ _ rfl _ j2
theorem Tr.declares {k:Nat}{b:Bool}{F F':Bool→Option (β×Int×Bool)}(hT:dcl l k=true→Tr l l' s false k b (F true) (F' true))(hN:dcl l k=false→Tr l l' s false k b (F false) (F' false)):Tr l l' s false k b (Vi l (k:Int)>>=F) (Vi l' ((k+s:Nat):Int)>>=F'):=by
 intro r hr
 rw [Xz hl,ob] at hr
 rw [Xz hl',ob]
 have key:∀ c:Bool,dcl l k=c→F c=some r→TM l l' s false k r (F' c)∧(r.2.2=true→b=true):=by
  intro c hc hq
  cases c with
  | true=>exact hT hc r hq
  | false=>exact hN hc r hq
 obtain ⟨⟨j,h1,h2,h3⟩,h4⟩:=key _ rfl hr
 refine ⟨⟨j,h1,h2,fun ha=>?_⟩,h4⟩
 rcases ha k (Nat.le_refl _) h2 with a | ⟨a,_⟩
 ·have:dcl l' (k+s)=dcl l k:=by
   unfold dcl
   simp only [Qy a]
  rw [this]
  exact h3 ha
 ·cases a
theorem Y19:∀ ds k r,T8 l ds k=some r→∀ n:Nat,k=n→TM l l' s false n r (T8 l' ds ((n+s:Nat):Int)):=by
 refine T8.partial_correctness l _ ?_
 intro g ih ds k r hr n hn
 subst hn
 refine Tr.run ?_ hr
 rw [T8]
 refine Tr.declares hl hl' hs (fun _=>?_) fun _=>?_
 ·simp only [if_true]
  refine Tr.bind (Z17 hl hl' hs n) fun v j ok _=>?_
  refine Tr.go (Tr.no (Nat.le_refl _)) fun _=>?_
  exact Tr.room fun _=>Tr.of fun r hr=>ih _ _ _ hr _ rfl
 ·simp only [Bool.false_eq_true,if_false]
  refine Tr.must hl hl' hs (.inl nofun) (Tr.no (Nat.le_refl _)) fun h=>?_
  rw [wl hl hl' hs h,K3 hl hl' hs h]
  refine Tr.le (Tr.bind (F10 hl hl' hs (n+1)) fun v j ok _=>?_) (Nat.le_succ _)
  refine Tr.ask hl hl' hs (.inl nofun) (Tr.no (Nat.le_refl _)) fun _ h=>?_
  simp only
  rw [wl hl hl' hs h,K3 hl hl' hs h]
  exact Tr.yes (Nat.le_succ _)
theorem G1g (n:Nat):Tr l l' s false n true (Ga l n) (Ga l' ((n+s:Nat):Int)):=by
 unfold Ga
 exact Tr.of fun r hr=>Y19 hl hl' hs _ _ _ hr _ rfl
end
end Go.Proofs.YtmnhfbekncjnfaaGreatDoor

namespace Go.Proofs.YtmnhfbekncjnfaaGreatDoor
open Go.Am
theorem F1o (r:List UInt8)(k k':Int):nxt r k'=((K0.mk (nxt r k).1.Kind (nxt r k).1.Text k'),(nxt r k).2):=by
 unfold nxt
 split
 ·split
  ·rfl
  ·split <;> rfl
 ·split
  ·rfl
  ·split
   ·rfl
   ·split <;> rfl
def key (x:K0):Int×Str:=(x.Kind,x.Text)
theorem Y1c:∀ (n:Nat) (r:List UInt8) (k k':Nat),r.length < n→(lx r k).2.2=(lx r k').2.2∧(lx r k).1.map key=(lx r k').1.map key
 | 0,_,_,_,h=>absurd h (Nat.not_lt_zero _)
 | n+1,r,k,k',h=>by
  cases hd:r.drop (skp false r) with
  | nil=>rw [Ps hd,Ps hd]; exact ⟨rfl,rfl⟩
  | cons c t=>
   have hlen:(c::t).length=r.length - skp false r:=by rw [← hd,List.length_drop]
   have e:=F1o (c::t) ((k+skp false r:Nat):Int) ((k'+skp false r:Nat):Int)
   by_cases hx:(nxt (c::t) ((k+skp false r:Nat):Int)).2=0
   ·have hx':(nxt (c::t) ((k'+skp false r:Nat):Int)).2=0:=by rw [e]; exact hx
    obtain ⟨b1,b2,b3,b4⟩:=Th hx
    rw [Jm hd k hx,Jm hd k' hx',e]
    have ih:=Y1c n ((c::t).drop (nxt (c::t) ((k+skp false r:Nat):Int)).1.Text.length) (k+skp false r+(nxt (c::t) ((k+skp false r:Nat):Int)).1.Text.length) (k'+skp false r+(nxt (c::t) ((k+skp false r:Nat):Int)).1.Text.length) (by rw [List.length_drop]; omega)
    unfold Ir
    simp only
    rw [ih.1]
    split
    ·exact ⟨rfl,by rw [List.map_cons,List.map_cons,ih.2]; rfl⟩
    ·exact ih
   ·rw [Qs hd k hx,Qs hd k' (by rw [e]; exact hx),e]; exact ⟨rfl,rfl⟩
end Go.Proofs.YtmnhfbekncjnfaaGreatDoor

namespace Go.Proofs.YtmnhfbekncjnfaaGreatDoor
open Go.Am
abbrev zP:Z0:=Z0.mk [] []
def X14 (l:List K0)(e:Int)(v:Z0)(j:Nat)(ok:Bool):Z0×Int×Int:=
 if ok&&j == l.length then (if Bp v != 0 then (zP,0,Bp v) else (v,0,0)) else (zP,off l e j,6)
theorem Q19 (text:Str)(h:(G4 text).2.2=0):∃ v j ok,Ga (G4 text).1 ((0:Nat):Int)=some (v,((j:Nat):Int),ok)∧j≤(G4 text).1.length∧
  Nd text=some (X14 (G4 text).1 (text.length:Int) v j ok)∧OkP (X14 (G4 text).1 (text.length:Int) v j ok).1:=by
 have hz:OkP zP:=I1i (by decide)
 obtain ⟨x1,_⟩:=S16 text
 obtain ⟨ht,hlen⟩:=Tz h
 have hb:((G4 text).2.2 != 0)=false:=by rw [h]; rfl
 unfold Nd Ti
 rw [x1,ob]
 simp only [hb,Bool.false_eq_true,if_false]
 unfold Si X14
 rcases M19 (l:=(G4 text).1) (e:=(text.length:Int)) ht with ⟨v,j,h1,h2,h3,h4,h5⟩ | ⟨v,j,h2,h4,h5⟩
 ·have h4':T4 (B0.mk (G4 text).1 0 (text.length:Int))=some (.ok (v,mk (G4 text).1 j (text.length:Int))):=h4
  have hv:OkP v:=Y1i (by omega)
  refine ⟨v,j,true,h5,h2,?_⟩
  rw [h4',ob]
  simp only [ob,Bool.true_and]
  by_cases hj:j=(G4 text).1.length
  ·have e1:decide ((j:Int) < ((G4 text).1.length:Int))=false:=decide_eq_false (by omega)
   have e2:(j == (G4 text).1.length)=true:=by simpa using hj
   rw [e1,if_neg (by simp),e2]
   simp only [ob,bne_self_eq_false,Bool.false_eq_true,if_false,if_true]
   rw [K1c v hv,ob]
   by_cases hc:(Bp v != 0)=true
   ·exact ⟨by rw [if_pos hc,if_pos hc],by rw [if_pos hc]; exact hz⟩
   ·exact ⟨by rw [if_neg hc,if_neg hc],by rw [if_neg hc]; exact hv⟩
  ·have e1:decide ((j:Int) < ((G4 text).1.length:Int))=true:=decide_eq_true (by omega)
   have e2:(j == (G4 text).1.length)=false:=by simpa using hj
   rw [e1,if_pos rfl,e2,T16 (G4 text).1 _ ht.1,ob]
   exact ⟨rfl,hz⟩
 ·have h4':T4 (B0.mk (G4 text).1 0 (text.length:Int))=some (.pn (off (G4 text).1 (text.length:Int) j)):=h4
  refine ⟨v,j,false,h5,h2,?_⟩
  rw [h4',ob]
  exact ⟨rfl,hz⟩
end Go.Proofs.YtmnhfbekncjnfaaGreatDoor

namespace Go.Proofs.YtmnhfbekncjnfaaGreatDoor
open Go.Am
end Go.Proofs.YtmnhfbekncjnfaaGreatDoor

namespace Go.Proofs.YtmnhfbekncjnfaaGreatDoor
open Go.Am
theorem F1j (x:Option K0):F1a x x:=by cases x with
 | none=>trivial
 | some x=>exact ⟨rfl,rfl⟩
theorem Yz (text more:Str)(x4:Z0×Int×Int)(x2:List K0×Int×Int)(hB:x2.1.length≤BB):∀ (n i:Nat),(∀ i',i≤i'→i' < i+n→∀ y,x2.1[i']?=some y→(y.At == x4.2.1)=false)→i+n≤x2.1.length→
  K4 text more x4 x2 i=K4 text more x4 x2 ((i+n:Nat):Int)
 | 0,i,_,_=>rfl
 | n+1,i,h,hi=>by
  have hlt:i < x2.1.length:=by omega
  have hg:x2.1[i]?=some x2.1[i]:=List.getElem?_eq_getElem hlt
  rw [K4,if_pos (decide_eq_true (by omega)),Qm,hg,ob,h i (Nat.le_refl _) (by omega) _ hg,if_neg (by simp),w1 (by omega)]
  rw [Yz text more x4 x2 hB n (i+1) (fun i' h1 h2=>h i' (by omega) (by omega)) (by omega),show i+1+n=i+(n+1) by omega]
theorem H1g (p:Z0):Bp p≠6:=by
 unfold Bp
 generalize ((J12 p:Nat):Int)=a
 unfold Ao
 cases (bif decide (a > 1024) then true else decide ((K12 p:Int) > 12)) <;> cases (!(D0.alls J8 p.Decls&&E0.alls J9 p.Body)) <;> cases (!(D0.alls Ze p.Decls&&E0.alls Ub p.Body)) <;> cases (!(D0.alls Ai p.Decls&&E0.alls Eb p.Body)) <;> decide
theorem Y14 (text more:Str)(hk:Ph=some true):Yh text more=some true:=by
 unfold Yh
 rw [hk,ob]
 simp only [Bool.not_true,Bool.false_eq_true,if_false]
 by_cases h:(text.length:Int) > 1000
 ·rw [decide_eq_true h,cond_true,if_pos rfl]
 rw [decide_eq_false h,cond_false]
 by_cases hm:(more.length:Int) > 1000
 ·rw [if_pos (decide_eq_true hm)]
 rw [if_neg (by simpa using hm),(S16 text).2,(S16 more).2,ob,ob]
 obtain ⟨v0,hp0,_⟩:=F1g text
 by_cases h0:(G4 text).2.2=0
 case neg=>
  have hb:((G4 text).2.2 != 0)=true:=by simpa using h0
  rw [hp0,ob,hb,cond_true,cond_true,if_pos rfl]
 have hb:((G4 text).2.2 != 0)=false:=by rw [h0]; rfl
 rw [hp0,ob,hb,cond_false]
 by_cases hm0:(G4 more).2.2=0
 case neg=>
  have hb:((G4 more).2.2 != 0)=true:=by simpa using hm0
  rw [hb,cond_true,if_pos rfl]
 have hb2:((G4 more).2.2 != 0)=false:=by rw [hm0]; rfl
 rw [hb2,cond_false]
 by_cases h6:v0.2.2=6
 case neg=>rw [if_pos (by simpa using h6)]
 have hb3:(v0.2.2 != 6)=false:=by rw [h6]; rfl
 rw [hb3,if_neg (by simp)]
 obtain ⟨v,j,ok,r1,r2,r3,_⟩:=Q19 text h0
 have hv0:v0=X14 (G4 text).1 (text.length:Int) v j ok:=by
  rw [hp0] at r3
  injection r3
 have hno:(ok&&j == (G4 text).1.length)=false:=by
  cases hc:(ok&&j == (G4 text).1.length) with
  | false=>rfl
  | true=>
   rw [hv0] at h6
   unfold X14 at h6
   rw [hc,if_pos rfl] at h6
   split at h6
   ·exact absurd h6 (H1g v)
   ·cases h6
 have hv1:v0=(zP,off (G4 text).1 (text.length:Int) j,6):=by
  rw [hv0]
  unfold X14
  rw [hno,if_neg (by simp)]
 obtain ⟨t1,n1⟩:=Tz h0
 have hB:(G4 text).1.length≤BB:=t1.1
 have hlx:G4 text=lx text 0:=by rw [X17,if_neg (by omega)]
 obtain ⟨pos,ord⟩:=B1j (text.length+1) text 0 (Nat.lt_succ_self _)
 rw [← hlx] at pos ord
 rcases Nat.lt_or_ge j (G4 text).1.length with hj | hj
 ·have hg:(G4 text).1[j]?=some (G4 text).1[j]:=List.getElem?_eq_getElem hj
  have hat:v0.2.1=((G4 text).1[j]).At:=by rw [hv1]; unfold off; rw [hg]
  have hsk:=Yz text more v0 (G4 text) hB j 0 (fun i' _ h2 y hy=>by
   have hi:i' < (G4 text).1.length:=by omega
   have:=List.pairwise_iff_getElem.1 ord i' j hi hj (by omega)
   rw [List.getElem?_eq_getElem hi] at hy
   injection hy with hy
   rw [hat,← hy]
   exact beq_eq_false_iff_ne.2 (by omega)) (by omega)
  rw [show (0:Int)=((0:Nat):Int) from rfl,hsk,Nat.zero_add]
  obtain ⟨p,e1,e2,e3⟩:=L1e (text.length+1) text 0 (Nat.lt_succ_self _) (by rw [← hlx]; exact h0) j (G4 text).1[j] (by rw [← hlx]; exact hg)
  rw [← hlx] at e3
  rw [Nat.zero_add] at e1
  generalize htk:(G4 text).1[j]=tk at *
  rw [K4,if_pos (decide_eq_true (by omega)),Qm,hg,ob,hat,beq_self_eq_true,if_pos rfl,e1,wr (by omega) (by omega)]
  have hs:slc text 0 ((p:Int)+(tk.Text.length:Int))=some (text.take (p+tk.Text.length)):=by
   have:=Zl (s:=text) (k:=0) (n:=p+tk.Text.length) rfl (by omega) e2
   rw [Nat.zero_add] at this
   exact this
  have hl2:(text.take (p+tk.Text.length)).length=p+tk.Text.length:=by rw [List.length_take,Nat.min_eq_left e2]
  rw [hs,ob,if_pos (decide_eq_true (by unfold maxLen; omega)),if_pos (decide_eq_true (by unfold maxLen; rw [List.length_append,hl2]; simp only [List.length_singleton]; omega))]
  generalize ht2:(text.take (p+tk.Text.length)++[10])++more=t2
  have hl3:t2.length≤8192:=by rw [← ht2,List.length_append,List.length_append,hl2]; simp only [List.length_singleton]; omega
  have hmx:G4 more=lx more 0:=by rw [X17,if_neg (by omega)]
  have hmk:(lx more (0+(text.take (p+tk.Text.length)).length+1)).2.2=0:=by
   rw [(Y1c (more.length+1) more _ 0 (Nat.lt_succ_self _)).1,← hmx]; exact hm0
  have hl':G4 t2=((G4 text).1.take (j+1)++(lx more (0+(text.take (p+tk.Text.length)).length+1)).1,0,0):=by
   rw [X17,if_neg (by omega),← ht2,List.append_assoc,List.singleton_append,A1j more _ _ 0 (Nat.lt_succ_self _),e3]
   unfold N12
   rw [if_pos rfl,if_pos hmk]
  obtain ⟨w,j2,ok2,q1,q2,q3,_⟩:=Q19 t2 (by rw [hl'])
  obtain ⟨t3,_⟩:=Tz (s:=t2) (by rw [hl'])
  have same:∀ i,i≤j→(G4 t2).1[i]?=(G4 text).1[i]?:=fun i hi=>by
   rw [hl']
   simp only
   rw [List.getElem?_append_left (by rw [List.length_take]; omega),List.getElem?_take,if_pos (by omega)]
  obtain ⟨⟨j3,m1,m2,m3⟩,_⟩:=G1g (s:=0) t1 t3 (by unfold BB; omega) 0 _ r1
  have hj3:j3=j:=by
   have:(j:Int)=j3:=m1
   omega
  subst hj3
  have m4:=m3 fun i _ hi=>.inl (by
   rw [Nat.add_zero,same i hi]
   exact F1j _)
  have m5:some (w,(j2:Int),ok2)=some (v,((j3+0:Nat):Int),ok):=q1.symm.trans m4
  injection m5 with m5
  injection m5 with m6 m7
  injection m7 with m7 m8
  have hj2:j2=j3:=by omega
  rw [q3,ob]
  unfold X14
  have hne:(j2 == (G4 t2).1.length)=false:=by
   rw [hl']
   simp only [List.length_append,List.length_take]
   exact beq_eq_false_iff_ne.2 (by omega)
  rw [hne,Bool.and_false,if_neg (by simp)]
  have ho:off (G4 t2).1 (t2.length:Int) j2=(p:Int):=by
   unfold off
   rw [hj2,same j3 (Nat.le_refl _),hg]
   exact e1
  rw [ho]
  simp
 ·have hje:j=(G4 text).1.length:=by omega
  have hat:v0.2.1=(text.length:Int):=by
   rw [hv1]
   unfold off
   rw [List.getElem?_eq_none hj]
  have hsk:=Yz text more v0 (G4 text) hB (G4 text).1.length 0 (fun i' _ h2 y hy=>by
   have:=(pos y (List.mem_of_getElem? hy)).2
   rw [hat]
   exact beq_eq_false_iff_ne.2 (by omega)) (by omega)
  rw [show (0:Int)=((0:Nat):Int) from rfl,hsk,Nat.zero_add,K4,if_neg (by simp),hat]
  simp
end Go.Proofs.YtmnhfbekncjnfaaGreatDoor

namespace Go.Proofs.YtmnhfbekncjnfaaGreatDoor
open Go.Am
def tk:Nat→List UInt8→List (Int×Str)×Int
 | 0,_=>([],0)
 | n+1,r=>
  match r.drop (skp false r) with
  | []=>([],0)
  | c::t=>if (nxt (c::t) 0).2=0 then (key (nxt (c::t) 0).1::(tk n ((c::t).drop (nxt (c::t) 0).1.Text.length)).1,(tk n ((c::t).drop (nxt (c::t) 0).1.Text.length)).2) else ([],(nxt (c::t) 0).2)
def txk (r:List UInt8):List (Int×Str)×Int:=tk (r.length+1) r
def At (C:Int)(l:List K0)(k:Nat)(r:Str):Prop:=(txk r).1=(l.drop k).map key∧(txk r).2=C
section
variable {C:Int}{l:List K0}{k:Nat}{r:Str}
end
end Go.Proofs.YtmnhfbekncjnfaaGreatDoor

namespace Go.Proofs.YtmnhfbekncjnfaaGreatDoor
open Go.Am
section
set_option linter.unusedSectionVars false
variable {C:Int}{l:List K0}(hl:Uh l)
include hl
end
end Go.Proofs.YtmnhfbekncjnfaaGreatDoor

namespace Go.Proofs.YtmnhfbekncjnfaaGreatDoor
open Go.Am
section
set_option linter.unusedSectionVars false
variable {C:Int}{l:List K0}(hl:Uh l)
include hl
end
end Go.Proofs.YtmnhfbekncjnfaaGreatDoor

namespace Go.Proofs.YtmnhfbekncjnfaaGreatDoor
open Go.Am
theorem Z14:Ph=some true:=P17 60 true (by kernel_rfl)
end Go.Proofs.YtmnhfbekncjnfaaGreatDoor

