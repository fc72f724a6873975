/- A part of the proof of ParserInverse. -/
import Derived.Test.YtmnhfbekncjnfaaGreatDoorPlA
import Derived.KernelRfl
namespace Go.Proofs.YtmnhfbekncjnfaaGreatDoor
set_option linter.unusedSectionVars false
open Go.Am
def J {α:Type}(l:List K0)(e:Int)(lo:Nat)(P:α→Nat→Prop)(p:Option (Pn (α×D0)))(r:Option (α×Int×Bool)):Prop:=
 (∃ v j,lo≤j∧j≤l.length∧P v j∧p=some (.ok (v,mk l j e))∧r=some (v,((j:Nat):Int),true))∨
 (∃ v j,j≤l.length∧p=some (.pn (off l e j))∧r=some (v,((j:Nat):Int),false))
section
variable {l:List K0}{e:Int}{α β:Type}
theorem J.ok {lo:Nat}{P:α→Nat→Prop}(v:α)(j:Nat)(h1:lo≤j)(h2:j≤l.length)(hP:P v j):J l e lo P (some (.ok (v,mk l j e))) (some (v,((j:Nat):Int),true)):=.inl ⟨v,j,h1,h2,hP,rfl,rfl⟩
theorem J.pn {lo:Nat}{P:α→Nat→Prop}(v:α)(j:Nat)(h2:j≤l.length):J l e lo P (some (.pn (off l e j))) (some (v,((j:Nat):Int),false)):=.inr ⟨v,j,h2,rfl,rfl⟩
theorem J.mono {lo lo':Nat}{P P':α→Nat→Prop}{p:Option (Pn (α×D0))}{r:Option (α×Int×Bool)}(h:J l e lo P p r)(hl:lo'≤lo)(hP:∀ v j,lo≤j→P v j→P' v j):J l e lo' P' p r:=by
 rcases h with ⟨v,j,h1,h2,h0,h3,h4⟩ | h
 ·exact .inl ⟨v,j,Nat.le_trans hl h1,h2,hP v j h1 h0,h3,h4⟩
 ·exact .inr h
theorem J.bind {lo lo':Nat}{P:α→Nat→Prop}{Q:β→Nat→Prop}{p:Option (Pn (α×D0))}{r:Option (α×Int×Bool)}(h:J l e lo P p r){F:Pn (α×D0)→Option (Pn (β×D0))}{g:α×Int×Bool→Option (β×Int×Bool)}(hF:∀ n,F (.pn n)=some (.pn n))
  (hg:∀ v (j:Nat),j≤l.length→∃ v',g (v,(j:Int),false)=some (v',(j:Int),false)) (hf:∀ v (j:Nat),lo≤j→j≤l.length→P v j→J l e lo' Q (F (.ok (v,mk l j e))) (g (v,(j:Int),true))) :
  J l e lo' Q (p>>=F) (r>>=g):=by
 rcases h with ⟨v,j,h1,h2,h0,rfl,rfl⟩ | ⟨v,j,h2,rfl,rfl⟩
 ·exact hf v j h1 h2 h0
 ·obtain ⟨v',hv⟩:=hg v j h2
  rw [ob,ob,hv,hF]
  exact .pn v' j h2
theorem J.same {lo:Nat}{P:α→Nat→Prop}{p:Option (Pn (α×D0))}{r:Option (α×Int×Bool)}(h:J l e lo P p r){F:Pn (α×D0)→Option (Pn (α×D0))}(hF:∀ n,F (.pn n)=some (.pn n))(hF2:∀ x,F (.ok x)=some (.ok (x.1,x.2))):J l e lo P (p>>=F) r:=by
 rcases h with ⟨v,j,h1,h2,h0,rfl,rfl⟩ | ⟨v,j,h2,rfl,rfl⟩
 ·rw [ob,hF2]; exact .ok v j h1 h2 h0
 ·rw [ob,hF]; exact .pn v j h2
theorem J.rsame {lo:Nat}{P:α→Nat→Prop}{p:Option (Pn (α×D0))}{r:Option (α×Int×Bool)}(h:J l e lo P p r):J l e lo P p (r>>=fun x=>some (x.1,x.2.1,x.2.2)):=by
 rcases h with ⟨v,j,h1,h2,h0,rfl,rfl⟩ | ⟨v,j,h2,rfl,rfl⟩
 ·exact .ok v j h1 h2 h0
 ·exact .pn v j h2
end
def BE (k:Nat)(v:A0)(j:Nat):Prop:=v.bulk≤9000 * (j - k)
def BO (o:Nat)(k:Nat)(v:A0)(j:Nat):Prop:=v.bulk≤o+9000 * (j - k)
theorem Lf (op n:Int)(s:Str):(A0.mk op n s []).bulk=s.length+5:=by rw [A0.bulk_eq]; rfl
theorem I1t (op n:Int)(s:Str)(a:A0):(A0.mk op n s [a]).bulk=s.length+a.bulk+5:=by rw [A0.bulk_eq]; simp only [A0.bulks]; omega
theorem B1g (op n:Int)(s:Str)(a b:A0):(A0.mk op n s [a,b]).bulk=s.length+a.bulk+b.bulk+5:=by rw [A0.bulk_eq]; simp only [A0.bulks]; omega
theorem L1x (op n:Int)(s:Str)(a b c:A0):(A0.mk op n s [a,b,c]).bulk=s.length+a.bulk+b.bulk+c.bulk+5:=by rw [A0.bulk_eq]; simp only [A0.bulks]; omega
structure PE (l:List K0)(e:Int)(k:Nat):Prop where
 expr:J l e (k+1) (BE k) (G1 (mk l k e)) (U1 l k)
 un:J l e (k+1) (BE k) (M4 (mk l k e)) (M3 l k)
 prodL:∀ o,J l e k (BO o.bulk k) (Y3 (mk l k e) o) (O1 l 5 o k)
 prod:J l e (k+1) (BE k) (P6 (mk l k e)) (J1 l k 5)
 sumL:∀ o,J l e k (BO o.bulk k) (X3 (mk l k e) o) (O1 l 4 o k)
 sum:J l e (k+1) (BE k) (Z7 (mk l k e)) (J1 l k 4)
 cmp:J l e (k+1) (BE k) (K5 (mk l k e)) (J1 l k 3)
 andL:∀ o,J l e k (BO o.bulk k) (W3 (mk l k e) o) (O1 l 2 o k)
 and:J l e (k+1) (BE k) (Ka (mk l k e)) (J1 l k 2)
 orL:∀ o,J l e k (BO o.bulk k) (Z4 (mk l k e) o) (O1 l 1 o k)
 or:J l e (k+1) (BE k) (Be (mk l k e)) (J1 l k 1)
 placeL:∀ op name kids,J l e k (BO (A0.mk op 0 name kids).bulk k) (I6 (mk l k e) op name kids) (C5 l op 0 name kids k)
section
variable {l:List K0}{e:Int}(hl:Ee l)
include hl
theorem R17 {k:Nat}{n:Int}{o:A0}{un:D0→Option (Pn (A0×D0))}{chain:D0→A0→Option (Pn (A0×D0))}{b:Bool}{op op':Int}{F:Pn (A0×D0)→Option (Pn (A0×D0))}(hF:∀ n,F (.pn n)=some (.pn n))(hF2:∀ x,F (.ok x)=chain x.2 (A0.mk op' 0 [] [o,x.1]))(hk:k≤l.length)(hn:n≠3)
  (hb:S4 l k n=some (op,b)) (hop:b=true→op=op'∧k < l.length)
  (hun:k < l.length→J l e (k+2) (BE (k+1)) (un (mk l (k+1) e)) (J1 l ((k+1:Nat):Int) (IntKind.i64.wrap (n+1))))
  (hch:∀ j,k < j→j≤l.length→∀ o,J l e j (BO o.bulk j) (chain (mk l j e) o) (O1 l n o (j:Int))) :
  J l e k (BO o.bulk k) (if (!b)=true then some (.ok (o,mk l (step b k) e)) else un (mk l (step b k) e)>>=F) (O1 l n o (k:Int)):=by
 rw [O1,hb,ob]
 cases b with
 | false=>exact .ok o k (zqr _) hk (by unfold BO; omega)
 | true=>
  obtain ⟨rfl,hlt⟩:=hop rfl
  have hB:=hl.1
  simp only [zqf,zqa,zw,step,zqk]
  rw [w1 (by omega)]
  refine J.bind (hun hlt) hF ?_ ?_
  ·exact fun v j hj=>⟨v,rfl⟩
  intro v j h1 h2 h0
  simp only [zqf,zqa,zw,Ax,ob,zqn.2 hn]
  rw [hF2]
  refine (hch j (by omega) h2 _).mono (by omega) fun v' j' h3 h4=>?_
  unfold BO at h4 ⊢
  unfold BE at h0
  rw [B1g] at h4
  simp only [zqe] at h4
  omega
theorem H1c (k:Nat)(n:Nat)(hn:n < 6):J1 l k n=(J1 l k ((n+1:Nat):Int)>>=fun x2=>if (!x2.2.2)=true then some (x2.1,x2.2.1,false) else O1 l n x2.1 x2.2.1):=by
 rw [J1,zn (by simp; omega),w1 (by unfold BB; omega)]
theorem S17 (k:Nat):J1 l k 6=(M3 l k>>=fun x1=>some (x1.1,x1.2.1,x1.2.2)):=by
 rw [J1]
 simp only [zqm,zt]
theorem T17 {k:Nat}{n:Nat}{p:Option (Pn (A0×D0))}{chain:D0→A0→Option (Pn (A0×D0))}{F:Pn (A0×D0)→Option (Pn (A0×D0))}(hF:∀ n,F (.pn n)=some (.pn n))(hF2:∀ x,F (.ok x)=chain x.2 x.1)(hn:n < 6)(h:J l e (k+1) (BE k) p (J1 l k ((n+1:Nat):Int)))
  (hch:∀ j,k < j→j≤l.length→∀ o,J l e j (BO o.bulk j) (chain (mk l j e) o) (O1 l n o (j:Int))) :
  J l e (k+1) (BE k) (p>>=F) (J1 l k n):=by
 rw [H1c hl k n hn]
 refine J.bind h hF ?_ ?_
 ·exact fun v j _=>⟨v,rfl⟩
 ·intro v j h1 h2 h0
  rw [hF2]
  refine (hch j (by omega) h2 v).mono h1 fun v' j' h3 h4=>?_
  unfold BO at h4
  unfold BE at h0 ⊢
  omega
section
variable {k:Nat}(hk:k≤l.length)(IH:∀ j,k < j→j≤l.length→PE l e j)
include hk IH
theorem N1u (o:A0):J l e k (BO o.bulk k) (Y3 (mk l k e) o) (O1 l 5 o k):=by
 obtain ⟨op,op',b,h1,h2,h3⟩:=M1u l e hl k
 rw [Y3,h1,ob]
 have hB:=hl.1
 refine R17 hl (chain:=Y3) (fun _=>rfl) (fun _=>rfl) hk (by decide) h2 h3 (fun hlt=>?_) fun j h4 h5 o=>(IH j h4 h5).prodL o
 rw [show IntKind.i64.wrap (5+1)=6 by decide,S17 hl]
 exact J.rsame (IH (k+1) (by omega) (by omega)).un
theorem C1w (o:A0):J l e k (BO o.bulk k) (X3 (mk l k e) o) (O1 l 4 o k):=by
 obtain ⟨op,op',b,h1,h2,h3⟩:=B1w l e hl k
 rw [X3,h1,ob]
 refine R17 hl (chain:=X3) (fun _=>rfl) (fun _=>rfl) hk (by decide) h2 h3 (fun hlt=>?_) fun j h4 h5 o=>(IH j h4 h5).sumL o
 rw [show IntKind.i64.wrap (4+1)=5 by decide]
 exact (IH (k+1) (by omega) (by omega)).prod
theorem D1w (o:A0):J l e k (BO o.bulk k) (W3 (mk l k e) o) (O1 l 2 o k):=by
 obtain ⟨op,b,h1,h2,h3⟩:=Z1v l e hl k
 rw [W3,h1,ob]
 refine R17 hl (chain:=W3) (fun _=>rfl) (fun _=>rfl) hk (by decide) h2 h3 (fun hlt=>?_) fun j h4 h5 o=>(IH j h4 h5).andL o
 rw [show IntKind.i64.wrap (2+1)=3 by decide]
 exact (IH (k+1) (by omega) (by omega)).cmp
theorem M1x (o:A0):J l e k (BO o.bulk k) (Z4 (mk l k e) o) (O1 l 1 o k):=by
 obtain ⟨op,b,h1,h2,h3⟩:=I1x l e hl k
 rw [Z4,h1,ob]
 refine R17 hl (chain:=Z4) (fun _=>rfl) (fun _=>rfl) hk (by decide) h2 h3 (fun hlt=>?_) fun j h4 h5 o=>(IH j h4 h5).orL o
 rw [show IntKind.i64.wrap (1+1)=2 by decide]
 exact (IH (k+1) (by omega) (by omega)).and
theorem E1w (hu:J l e (k+1) (BE k) (M4 (mk l k e)) (M3 l k)):J l e (k+1) (BE k) (P6 (mk l k e)) (J1 l k 5):=by
 rw [P6,Vh]
 refine J.same ?_ (fun _=>rfl) fun _=>rfl
 refine T17 hl (n:=5) (chain:=Y3) ?_ ?_ (by decide) ?_ fun j h4 h5 o=>(IH j h4 h5).prodL o
 ·exact fun _=>rfl
 ·exact fun _=>rfl
 show J l e (k+1) (BE k) _ (J1 l k 6)
 rw [S17 hl]
 exact J.rsame hu
theorem N1x (h:J l e (k+1) (BE k) (P6 (mk l k e)) (J1 l k 5)):J l e (k+1) (BE k) (Z7 (mk l k e)) (J1 l k 4):=by
 rw [Z7,Uh]
 refine J.same ?_ (fun _=>rfl) fun _=>rfl
 refine T17 hl (n:=4) (chain:=X3) ?_ ?_ (by decide) h fun j h4 h5 o=>(IH j h4 h5).sumL o
 ·exact fun _=>rfl
 ·exact fun _=>rfl
theorem O1x (h:J l e (k+1) (BE k) (K5 (mk l k e)) (J1 l k 3)):J l e (k+1) (BE k) (Ka (mk l k e)) (J1 l k 2):=by
 rw [Ka,Th]
 refine J.same ?_ (fun _=>rfl) fun _=>rfl
 refine T17 hl (n:=2) (chain:=W3) ?_ ?_ (by decide) h fun j h4 h5 o=>(IH j h4 h5).andL o
 ·exact fun _=>rfl
 ·exact fun _=>rfl
theorem G1y (h:J l e (k+1) (BE k) (Ka (mk l k e)) (J1 l k 2)):J l e (k+1) (BE k) (Be (mk l k e)) (J1 l k 1):=by
 rw [Be,Zk]
 refine J.same ?_ (fun _=>rfl) fun _=>rfl
 refine T17 hl (n:=1) (chain:=Z4) ?_ ?_ (by decide) h fun j h4 h5 o=>(IH j h4 h5).orL o
 ·exact fun _=>rfl
 ·exact fun _=>rfl
end
end
section
variable {l:List K0}{e:Int}(hl:Ee l)
include hl
section
variable {k:Nat}(hk:k≤l.length)(IH:∀ j,k < j→j≤l.length→PE l e j)
include hk IH
theorem F1w {op:Int}{x1:A0×D0}(hlt:k < l.length)(hop:S4 l k 3=some (op,true))(p:D0)(hp:p=mk l (k+1) e) :
  J l e k (BO x1.1.bulk k) (R1 p x1 op) (O1 l 3 x1.1 k):=by
 subst hp
 have hB:=hl.1
 rw [R1,O1,hop,ob]
 simp only [zqf,zqa,zw]
 rw [w1 (by omega),show IntKind.i64.wrap (3+1)=4 by decide]
 refine J.bind (IH (k+1) (by omega) (by omega)).sum ?_ ?_ ?_
 ·exact fun _=>rfl
 ·exact fun v j _=>⟨v,rfl⟩
 ·intro v j h1 h2 h0
  simp only [zqf,zqa,zw,Ax,ob,zqm,zt]
  refine .ok _ j (by omega) h2 ?_
  unfold BO
  unfold BE at h0
  rw [B1g]
  simp only [zqe]
  omega
theorem G1w (x1:A0×D0)(hx:x1.2=mk l k e):J l e k (BO x1.1.bulk k) (S0 [61,61] x1.2>>=fun x2=>
 if x2.1=true then
  R1 x2.2 x1 13
 else
  S0 [33,61] x2.2>>=fun x4=>
  if x4.1=true then
   R1 x4.2 x1 14
  else
   S0 [60] x4.2>>=fun x5=>
   if x5.1=true then
    R1 x5.2 x1 15
   else
    S0 [60,61] x5.2>>=fun x6=>
    if x6.1=true then
     R1 x6.2 x1 16
    else
     S0 [62] x6.2>>=fun x7=>
     if x7.1=true then
      R1 x7.2 x1 17
     else
      S0 [62,61] x7.2>>=fun x8=>
      if x8.1=true then
       R1 x8.2 x1 18
      else
       some (.ok (x1.1,x8.2))) (O1 l 3 x1.1 k):=by
 obtain ⟨o,h1,h2⟩:=K1x l hl k
 have done:∀ {t:Str} {op:Int},isS l k t=true→S4 l k 3=some (op,true)→J l e k (BO x1.1.bulk k) (R1 (mk l (step true k) e) x1 op) (O1 l 3 x1.1 k):=fun ht hop=>
  F1w hl hk IH (Jt l hl ht) hop _ rfl
 rw [hx,F2 l e hl.1,Ig hl rfl,ob]
 cases c0:isS l k [61,61] with
 | true=>rw [c0] at h1 h2; rw [h2 rfl] at h1; exact done c0 h1
 | false=>
  simp only [Z2,zqa,zw]
  rw [F2 l e hl.1,Ig hl rfl,ob]
  cases c1:isS l k [33,61] with
  | true=>rw [c0,c1] at h1 h2; rw [h2 rfl] at h1; exact done c1 h1
  | false=>
   simp only [Z2,zqa,zw]
   rw [F2 l e hl.1,Ig hl rfl,ob]
   cases c2:isS l k [60] with
   | true=>rw [c0,c1,c2] at h1 h2; rw [h2 rfl] at h1; exact done c2 h1
   | false=>
    simp only [Z2,zqa,zw]
    rw [F2 l e hl.1,Ig hl rfl,ob]
    cases c3:isS l k [60,61] with
    | true=>rw [c0,c1,c2,c3] at h1 h2; rw [h2 rfl] at h1; exact done c3 h1
    | false=>
     simp only [Z2,zqa,zw]
     rw [F2 l e hl.1,Ig hl rfl,ob]
     cases c4:isS l k [62] with
     | true=>rw [c0,c1,c2,c3,c4] at h1 h2; rw [h2 rfl] at h1; exact done c4 h1
     | false=>
      simp only [Z2,zqa,zw]
      rw [F2 l e hl.1,Ig hl rfl,ob]
      cases c5:isS l k [62,61] with
      | true=>rw [c0,c1,c2,c3,c4,c5] at h1 h2; rw [h2 rfl] at h1; exact done c5 h1
      | false=>
       rw [c0,c1,c2,c3,c4,c5] at h1
       simp only [Z2,zqa,zw]
       rw [O1,h1,ob]
       exact .ok _ k (zqr _) hk (by unfold BO; omega)
end
theorem P1x {k:Nat}(hk:k≤l.length)(IH:∀ j,k < j→j≤l.length→PE l e j)(h:J l e (k+1) (BE k) (Z7 (mk l k e)) (J1 l k 4)):J l e (k+1) (BE k) (K5 (mk l k e)) (J1 l k 3):=by
 rw [K5,show (3:Int)=((3:Nat):Int) from rfl,H1c hl k 3 (by decide)]
 refine J.bind (p:=Z7 (mk l k e)) (r:=J1 l k ((3+1:Nat):Int)) h ?_ ?_ ?_
 ·exact fun _=>rfl
 ·exact fun v j _=>⟨v,rfl⟩
 ·intro v j h1 h2 h0
  refine (G1w hl h2 (fun i h3 h4=>IH i (by omega) h4) (v,mk l j e) rfl).mono h1 fun v' j' h3 h4=>?_
  unfold BO at h4
  unfold BE at h0 ⊢
  simp only at h4
  omega
section
variable {k:Nat}(hk:k≤l.length)(IH:∀ j,k < j→j≤l.length→PE l e j)
include hk IH
theorem R1s (op:Int)(name:Str)(kids:List A0):J l e k (BO (A0.mk op 0 name kids).bulk k) (I6 (mk l k e) op name kids) (C5 l op 0 name kids k):=by
 have hB:=hl.1
 rw [I6,F2 l e hB,ob,C5,Y0 l hB,ob]
 cases hd:isT l k [46] with
 | true=>
  have hlt:=N1 hd
  simp only [Q3,zqf,zqa,zw,zt,ob,zqk]
  rw [w1 (by omega),Yl l e hB,D7 l hB]
  cases hn:L3 l (k+1) 0 with
  | true=>
   have:=T6 hn
   simp only [zt,ob,zqf,zqa,zw]
   refine ((IH (k+1+1) (by omega) (by omega)).placeL _ _ _).mono (by omega) fun v' j' h3 h4=>?_
   have ht:=Gj hl (k+1)
   unfold BO at h4 ⊢
   rw [I1t] at h4
   omega
  | false=>exact .pn _ (k+1) (by omega)
 | false=>
  simp only [Z2,zqg,zqa,zw,zt]
  rw [F2 l e hB,ob,Y0 l hB,ob]
  cases hi:isT l k [91] with
  | true=>
   have hlt:=N1 hi
   simp only [Q3,zt,zql]
   rw [ob,zn (by simp),w1 (by omega)]
   refine J.bind (IH (k+1) (by omega) (by omega)).expr ?_ ?_ ?_
   ·exact fun _=>rfl
   ·exact fun v j _=>⟨v,rfl⟩
   ·intro v j h1 h2 h0
    simp only [zqf,zqg,zt,zql]
    rw [J3 l e hB,Y0 l hB,ob]
    cases hn:isT l j [93] with
    | true=>
     have:=N1 hn
     simp only [zt,ob,zqf,zqa,zw,Ax]
     rw [w1 (by omega)]
     refine ((IH (j+1) (by omega) (by omega)).placeL _ _ _).mono (by omega) fun v' j' h3 h4=>?_
     unfold BO at h4 ⊢
     unfold BE at h0
     rw [B1g] at h4
     simp only [zqe] at h4
     omega
    | false=>exact .pn _ j h2
  | false=>
   simp only [Z2,zqa,zw,zql]
   exact .ok _ k (zqr _) hk (by unfold BO; omega)
end
end
section
variable {l:List K0}{e:Int}(hl:Ee l)
include hl
section
variable {k:Nat}(hk:k≤l.length)(IH:∀ j,k < j→j≤l.length→PE l e j)
include hk IH
theorem T1k:J l e (k+1) (BE k) (Za (mk l k e)) (T7 l k):=by
 have hB:=hl.1
 rw [Za,T7,Yl l e hB,D7 l hB]
 cases hn:L3 l k 0 with
 | true=>
  have:=T6 hn
  simp only [zt,ob,zqf,zqa,zw]
  refine ((IH (k+1) (by omega) (by omega)).placeL _ _ _).mono (zqr _) fun v' j' h3 h4=>?_
  have ht:=Gj hl k
  unfold BO at h4
  unfold BE
  rw [Lf] at h4
  omega
 | false=>exact .pn _ k hk
theorem Y1p (op:Int)(hlt:k < l.length):J l e (k+1) (BE k) (Re op (mk l (k+1) e)) (Ce l k op):=by
 have hB:=hl.1
 rw [Re,J3 l e hB,Ce,w1 (by omega),Y0 l hB,ob]
 cases ho:isT l (k+1) [40] with
 | false=>exact .pn _ (k+1) (by omega)
 | true=>
  have h1:=N1 ho
  simp only [zt,ob,zqf,zqa,zw]
  rw [wr (n:=(k:Int)+2) (by omega) (by unfold BB at hB; omega),show (k:Int)+2=((k+1+1:Nat):Int) by omega]
  refine J.bind (IH (k+1+1) (by omega) (by omega)).expr ?_ ?_ ?_
  ·exact fun _=>rfl
  ·exact fun v j _=>⟨v,rfl⟩
  intro v j h2 h3 h0
  simp only [zqf,zqg,zt,zql]
  rw [J3 l e hB,Y0 l hB,ob]
  cases hc:isT l j [44] with
  | false=>exact .pn _ j h3
  | true=>
   have h4:=N1 hc
   simp only [zt,ob,zqf,zqa,zw]
   rw [w1 (by omega)]
   refine J.bind (IH (j+1) (by omega) (by omega)).expr ?_ ?_ ?_
   ·exact fun _=>rfl
   ·exact fun v j _=>⟨v,rfl⟩
   intro v2 j2 h5 h6 h00
   simp only [zqf,zqg,zt,zql]
   rw [J3 l e hB,Y0 l hB,ob]
   cases hd:isT l j2 [41] with
   | false=>exact .pn _ j2 h6
   | true=>
    have h7:=N1 hd
    simp only [zt,ob,zqf,zqa,zw,Ax]
    rw [w1 (by omega)]
    refine .ok _ (j2+1) (by omega) (by omega) ?_
    unfold BE at h0 h00 ⊢
    rw [B1g]
    simp only [zqe]
    omega
theorem Z1p:J l e (k+1) (BE k) (Af (mk l k e)) (F5 l k):=by
 have hB:=hl.1
 rw [Af,F5,B13 l e hB,ob]
 have hw:∀ t,isT l k t=true→L3 l k 0=false:=fun t h=>(O7 h).1
 cases hn:L3 l k 0 with
 | true=>
  have hf:∀ t,isT l k t=false:=fun t=>by
   cases h:isT l k t with
   | false=>rfl
   | true=>rw [hw t h] at hn; cases hn
  have hd:L3 l k 1=false:=by
   unfold L3 at hn ⊢
   split at hn
   ·rw [eq_of_beq hn]; rfl
   ·rfl
  simp only [zt,Y0 l hB,ob,hf,zqa,zw,zqg,zql]
  rw [Ak l hl,hd]
  simp only [zqa,zw,ob]
  refine J.same ?_ (fun _=>rfl) fun _=>rfl
  exact J.rsame (T1k hl hk IH)
 | false=>
  simp only [zqa,zw]
  rw [F2 l e hB,ob,Y0 l hB,ob]
  cases h1:isT l k [116,114,117,101] with
  | true=>
   have:=N1 h1
   simp only [Q3,zt]
   rw [w1 (by omega)]
   exact .ok _ (k+1) (zqr _) (by omega) (by unfold BE; rw [Lf]; simp only [zqe]; omega)
  | false=>
   simp only [Z2,zqa,zw]
   rw [F2 l e hB,ob,Y0 l hB,ob]
   cases h2:isT l k [102,97,108,115,101] with
   | true=>
    have:=N1 h2
    simp only [Q3,zt]
    rw [w1 (by omega)]
    exact .ok _ (k+1) (zqr _) (by omega) (by unfold BE; rw [Lf]; simp only [zqe]; omega)
   | false=>
    simp only [Z2,zqa,zw]
    rw [F2 l e hB,ob,Y0 l hB,ob,Y0 l hB]
    cases h3:isT l k [109,105,110] with
    | true=>
     have hlt:=N1 h3
     have h4:isT l k [109,97,120]=false:=by
      cases h:isT l k [109,97,120] with
      | false=>rfl
      | true=>have:=(O7 h3).2.2.symm.trans (O7 h).2.2; simp at this
     simp only [Q3,zt,zqf,zqa,zw,ob,zqk]
     rw [Fk,Y0 l hB,ob,h4,zn (by simp)]
     refine J.same ?_ (fun _=>rfl) fun _=>rfl
     exact J.rsame (Y1p hl hk IH 21 hlt)
    | false=>
     simp only [Z2,zqa,zw,zqg,zt,ob,zql]
     rw [F2 l e hB,ob]
     cases h4:isT l k [109,97,120] with
     | true=>
      have hlt:=N1 h4
      simp only [Q3,zt]
      rw [Fk,Y0 l hB,ob,h4,zp rfl]
      refine J.same ?_ (fun _=>rfl) fun _=>rfl
      exact J.rsame (Y1p hl hk IH 22 hlt)
     | false=>
      simp only [Z2,zqa,zw]
      rw [F2 l e hB,ob,Y0 l hB,ob]
      cases h5:isT l k [40] with
      | true=>
       have hlt:=N1 h5
       simp only [Q3,zt]
       rw [w1 (by omega)]
       refine J.bind (IH (k+1) (by omega) (by omega)).expr ?_ ?_ ?_
       ·exact fun _=>rfl
       ·exact fun v j _=>⟨v,rfl⟩
       intro v j h6 h7 h0
       simp only [zqf,zqg,zt,zql]
       rw [J3 l e hB,Y0 l hB,ob]
       cases hd:isT l j [41] with
       | false=>exact .pn _ j h7
       | true=>
        have h8:=N1 hd
        simp only [zt,ob,zqf,zqa,zw]
        rw [w1 (by omega)]
        refine .ok _ (j+1) (by omega) (by omega) ?_
        unfold BE at h0 ⊢
        omega
      | false=>
       simp only [Z2,zqa,zw]
       rw [I1a l e hl,Ak l hl]
       cases h6:L3 l k 1 with
       | true=>
        have:=T6 h6
        simp only [zt,ob]
        exact .ok _ (k+1) (zqr _) (by omega) (by unfold BE; rw [Lf]; simp only [zqe]; omega)
       | false=>
        simp only [zqa,zw,ob]
        rw [T7,D7 l hB,hn]
        exact .pn _ k hk
theorem O1u:J l e (k+1) (BE k) (M4 (mk l k e)) (M3 l k):=by
 have hB:=hl.1
 have go:∀ op:Int,k < l.length→J l e (k+1) (BE k) (M4 (mk l (k+1) e)>>=fun x4=>match x4 with | .pn nn=>some (.pn nn) | .ok x4=>some (.ok ((A0.mk op 0 [] [x4.1]),x4.2))) (Fg l k op):=fun op hlt=>by
  rw [Fg,w1 (by omega)]
  refine J.bind (IH (k+1) (by omega) (by omega)).un ?_ ?_ ?_
  ·exact fun _=>rfl
  ·exact fun v j _=>⟨v,rfl⟩
  ·intro v j h1 h2 h0
   refine .ok _ j (by omega) h2 ?_
   unfold BE at h0 ⊢
   rw [I1t]
   simp only [zqe]
   omega
 rw [M4,M3,F2 l e hB,ob,Y0 l hB,ob]
 cases h1:isT l k [45] with
 | true=>
  have hlt:=N1 h1
  have h2:isT l k [33]=false:=by
   cases h:isT l k [33] with
   | false=>rfl
   | true=>have:=(O7 h1).2.2.symm.trans (O7 h).2.2; simp at this
  simp only [Q3,zt,zqf,zqa,zw,ob,zql]
  rw [Y0 l hB,ob,h2,zn (by simp)]
  exact go 6 hlt
 | false=>
  simp only [Z2,zqa,zw,zqg,zt]
  rw [F2 l e hB,ob,Y0 l hB,ob]
  cases h2:isT l k [33] with
  | true=>
   have hlt:=N1 h2
   simp only [Q3,zt,zqf,zqa,zw,zqk,ob]
   exact go 7 hlt
  | false=>
   simp only [Z2,zqa,zw,zqg,zt,zqk]
   refine J.same ?_ (fun _=>rfl) fun _=>rfl
   exact J.rsame (Z1p hl hk IH)
theorem H1w (ho:J l e (k+1) (BE k) (Be (mk l k e)) (J1 l k 1)):J l e (k+1) (BE k) (G1 (mk l k e)) (U1 l k):=by
 have hB:=hl.1
 rw [G1,U1]
 refine J.bind ho ?_ ?_ ?_
 ·exact fun _=>rfl
 ·exact fun v j _=>⟨v,rfl⟩
 intro v j h1 h2 h0
 simp only [zqf,zqg,zt,zql]
 rw [F2 l e hB,ob,Y0 l hB,ob]
 cases hq:isT l j [63] with
 | false=>exact .ok _ j h1 h2 h0
 | true=>
  have h3:=N1 hq
  simp only [Q3,zqf,zqa,zw]
  rw [w1 (by omega)]
  refine J.bind (IH (j+1) (by omega) (by omega)).expr ?_ ?_ ?_
  ·exact fun _=>rfl
  ·exact fun v j _=>⟨v,rfl⟩
  intro v2 j2 h4 h5 h00
  simp only [zqf,zqa,zw]
  rw [J3 l e hB,Y0 l hB,ob]
  cases hc:isT l j2 [58] with
  | false=>exact .pn _ j2 h5
  | true=>
   have h6:=N1 hc
   simp only [zt,ob,zqf,zqa,zw]
   rw [w1 (by omega)]
   refine J.bind (IH (j2+1) (by omega) (by omega)).expr ?_ ?_ ?_
   ·exact fun _=>rfl
   ·exact fun v j _=>⟨v,rfl⟩
   ·intro v3 j3 h7 h8 h000
    refine .ok _ j3 (by omega) h8 ?_
    unfold BE at h0 h00 h000 ⊢
    rw [L1x]
    simp only [zqe]
    omega
end
theorem A1q:∀ (n k:Nat),l.length - k < n→k≤l.length→PE l e k
 | 0,k,h,_=>absurd h (Nat.not_lt_zero _)
 | n+1,k,h,hk=>by
  have IH:∀ j,k < j→j≤l.length→PE l e j:=fun j h1 h2=>A1q n j (by omega) h2
  have u:=O1u hl hk IH
  have p5:=E1w hl hk IH u
  have p4:=N1x hl hk IH p5
  have p3:=P1x hl hk IH p4
  have p2:=O1x hl hk IH p3
  have p1:=G1y hl hk IH p2
  exact ⟨H1w hl hk IH p1,u,N1u hl hk IH,p5,C1w hl hk IH,p4,p3,D1w hl hk IH,p2,M1x hl hk IH,p1,R1s hl hk IH⟩
theorem Xr {k:Nat}(hk:k≤l.length):PE l e k:=A1q hl _ k (Nat.lt_succ_self _) hk
end
theorem I1w (r:List UInt8):∀ m:Nat,m * 10 ^ r.length≤nv m r:=by
 induction r with
 | nil=>intro m; rw [U16]; simp
 | cons c r ih=>
  intro m
  rw [Jv]
  refine Nat.le_trans ?_ (ih _)
  rw [zqd,Nat.pow_succ]
  calc m * (10 ^ r.length * 10)=(10 * m) * 10 ^ r.length:=by rw [Nat.mul_comm (10 ^ r.length) 10,← Nat.mul_assoc,Nat.mul_comm m 10]
   _≤(10 * m+(c.toNat - 48)) * 10 ^ r.length:=Nat.mul_le_mul_right _ (by omega)
theorem J1w {w:Str}(hne:w≠[])(h:T1d w=0):w.all (fun c=>P8 c.toNat)=true∧w.length≤7∧nv 0 w≤1048576:=by
 unfold T1d at h
 split at h
 ·rename_i hc
  rw [zqi] at hc
  obtain ⟨h1,h2⟩:=hc
  have h3:nv 0 w≤1048576:=by
   rcases Nat.lt_or_ge 1048576 (nv 0 w) with hb | hb
   ·rw [R1i hb] at h; cases h
   ·exact hb
  refine ⟨h1,?_,h3⟩
  cases w with
  | nil=>exact absurd rfl hne
  | cons c r=>
   rw [List.all_cons,zqi] at h1
   have hc:=Un.1 h1.1
   have hz:Ev (c::r)=false:=by simpa using h2
   unfold Ev at hz
   by_cases h48:c.toNat=48
   ·have hb:(((c::r).getD 0 0).toNat:Int) == 48:=by simp [h48]
    rw [hb,Bool.and_true] at hz
    have:=of_decide_eq_false hz
    omega
   ·rw [Jv] at h3
    have hp:=I1w r (10 * 0+(c.toNat - 48))
    have h5:1 * 10 ^ r.length≤(10 * 0+(c.toNat - 48)) * 10 ^ r.length:=Nat.mul_le_mul_right _ (by omega)
    rcases Nat.lt_or_ge 6 r.length with h6 | h6
    ·have:=Nat.pow_le_pow_right (show 1≤10 by decide) (show 7≤r.length from h6)
     omega
    ·rw [zqd]; omega
 ·cases h
theorem U1k {c:UInt8}{t:List UInt8}{k:Int}(hlen:(c::t).length≤8192)(h:(nxt (c::t) k).2=0):Tok (nxt (c::t) k).1:=by
 have htx:=Zj h
 have hl8:(nxt (c::t) k).1.Text.length≤8192:=by omega
 refine ⟨hl8,fun hk=>?_,fun hk=>?_⟩
 ·revert h hk
  unfold nxt
  simp only [List.getD_cons_zero]
  cases hl:X6 c.toNat with
  | true=>
   have hld:ld c=true:=by unfold ld; rw [hl]; rfl
   intro h hk
   have hw:∃ r,(c::t).take (Q8 (c::t))=c::r:=by
    simp only [Q8,hld,zqk,List.take_succ_cons]
    exact ⟨_,rfl⟩
   obtain ⟨r,hr⟩:=hw
   simp only [zt] at hk ⊢
   split at hk
   ·rename_i hres
    rw [zp hres]
    exact ⟨c,r,hr,hl⟩
   ·split at hk <;> cases hk
  | false=>
   simp only [zqa,zw]
   intro h hk
   split at hk
   ·cases hk
   ·split at hk
    ·cases hk
    ·split at hk <;> cases hk
 ·revert h hk
  unfold nxt
  simp only [List.getD_cons_zero]
  cases hl:X6 c.toNat with
  | true=>
   intro h hk
   simp only [zt] at hk
   split at hk
   ·cases hk
   ·split at hk <;> cases hk
  | false=>
   simp only [zqa,zw]
   intro h hk
   cases hd:P8 c.toNat with
   | true=>
    have hld:ld c=true:=by unfold ld; rw [hl,hd]; rfl
    have hne:(c::t).take (Q8 (c::t))≠[]:=by
     simp only [Q8,hld,zqk,List.take_succ_cons]
     exact List.cons_ne_nil _ _
    rw [hd,zp rfl] at h
    rw [zp rfl]
    obtain ⟨n1,n2,n3⟩:=J1w hne h
    exact ⟨hne,n1,n2,n3⟩
   | false=>
    rw [hd,zn (by simp)] at hk
    split at hk
    ·cases hk
    ·split at hk <;> cases hk
theorem U1i:∀ (n:Nat) (r:List UInt8) (k:Nat),r.length≤8192→(Wh n r k).2.2=0→(∀ x∈(Wh n r k).1,Tok x)∧(Wh n r k).1.length≤r.length
 | 0,r,k,_,_=>⟨fun x hx=>(by cases hx),Nat.zero_le _⟩
 | n+1,r,k,hl,h=>by
  revert h
  unfold Wh
  split
  ·exact fun _=>⟨fun x hx=>(by cases hx),Nat.zero_le _⟩
  ·rename_i c t hd
   have hle:(c::t).length≤r.length:=by rw [← hd,List.length_drop]; omega
   simp only
   split
   ·rename_i hx
    obtain ⟨b1,b2,b3,b4⟩:=Zj hx
    have hdl:((c::t).drop (nxt (c::t) ((k+skp false r:Nat):Int)).1.Text.length).length≤(c::t).length - 1:=by rw [List.length_drop]; omega
    have ih:=U1i n ((c::t).drop (nxt (c::t) ((k+skp false r:Nat):Int)).1.Text.length) (k+skp false r+(nxt (c::t) ((k+skp false r:Nat):Int)).1.Text.length) (by omega)
    split
    ·rename_i hz
     obtain ⟨i1,i2⟩:=ih hz
     intro _
     refine ⟨fun x hx'=>?_,?_⟩
     ·rcases List.mem_cons.1 hx' with rfl | hx'
      ·exact U1k (by omega) hx
      ·exact i1 x hx'
     ·simp only [zqd] at *
      omega
    ·rename_i hz
     exact fun h=>absurd h hz
   ·rename_i hx
    exact fun h=>absurd h hx
theorem Dx {s:Str}(h:(N5 s).2.2=0):Ee (N5 s).1∧(N5 s).1.length≤8192:=by
 unfold N5 at h ⊢
 by_cases hl:s.length > 8192
 ·rw [zp hl] at h; cases h
 ·rw [zn hl] at h ⊢
  obtain ⟨h1,h2⟩:=U1i _ s 0 (by omega) h
  exact ⟨⟨by unfold BB; omega,h1⟩,by omega⟩
def BT (k:Nat)(v:E0)(j:Nat):Prop:=v.bulk≤9000 * (j - k)
def Iz (ns:List Str):Nat:=(ns.map fun s=>s.length+1).sum
def BF (ns:List Str)(os:List E0)(k:Nat)(v:E0)(j:Nat):Prop:=v.bulk≤Iz ns+E0.bulks os+8+9000 * (j - k)
theorem V1i (ns:List Str)(s:Str):Iz (ns++[s])=Iz ns+s.length+1:=by unfold Iz; simp; omega
theorem D13:∀ (os:List E0) (t:E0),E0.bulks (os++[t])=E0.bulks os+t.bulk
 | [],t=>by simp only [List.nil_append,E0.bulks]; omega
 | x::r,t=>by simp only [List.cons_append,E0.bulks,D13 r t]; omega
theorem Kt (a b c d:Int)(s:Str)(ns:List Str)(os:List E0):(E0.mk a b c d s ns os).bulk=s.length+Iz ns+E0.bulks os+8:=by rw [E0.bulk_eq]; rfl
structure PT (l:List K0)(e:Int)(k:Nat):Prop where
 typ:J l e (k+1) (BT k) (T4 (mk l k e)) (Gc l k)
 fld:∀ ns os,ns.length≤k→os.length≤k→J l e k (BF ns os k) (Aa (mk l k e) ns os) (Pa l ns os ((k:Int) - 1))
section
variable {l:List K0}{e:Int}(hl:Ee l)
include hl
theorem Yr {k:Nat}(hk:k≤l.length):J l e (k+1) (fun _ _=>True) (P2 (mk l k e)) (H5 l k):=by
 have hB:=hl.1
 unfold P2 H5
 rw [F2 l e hB,ob,Y0 l hB,ob]
 cases h:isT l k [45] with
 | true=>
  have hlt:=N1 h
  simp only [Q3,zt]
  rw [w1 (by omega),I1a l e hl,Ak l hl]
  cases h1:L3 l (k+1) 1 with
  | true=>have:=T6 h1; exact .ok _ (k+1+1) (by omega) (by omega) trivial
  | false=>exact .pn _ (k+1) (by omega)
 | false=>
  simp only [Z2,zqa,zw]
  rw [I1a l e hl,Ak l hl]
  cases h1:L3 l k 1 with
  | true=>have:=T6 h1; exact .ok _ (k+1) (by omega) (by omega) trivial
  | false=>exact .pn _ k hk
section
variable {k:Nat}(hk:k≤l.length)(IH:∀ j,k < j→j≤l.length→PT l e j)
include hk IH
theorem Q1x:J l e (k+1) (BT k) (T4 (mk l k e)) (Gc l k):=by
 have hB:=hl.1
 rw [T4,Gc,F2 l e hB,ob,Y0 l hB,ob]
 cases h1:isT l k [98,111,111,108] with
 | true=>
  have:=N1 h1
  simp only [Q3,zt]
  rw [w1 (by omega)]
  exact .ok _ (k+1) (zqr _) (by omega) (by unfold BT; rw [Kt]; simp only [zqe,Iz,List.map_nil,List.sum_nil,E0.bulks]; omega)
 | false=>
  simp only [Z2,zqa,zw]
  rw [F2 l e hB,ob,Y0 l hB,ob]
  cases h2:isT l k [105,110,116] with
  | true=>
   have hlt:=N1 h2
   simp only [Q3,zt]
   rw [w1 (by omega)]
   refine J.rsame ?_
   unfold Wq
   rw [J3 l e hB,Y0 l hB,ob]
   cases h3:isT l (k+1) [91] with
   | false=>exact .pn _ (k+1) (by omega)
   | true=>
    have h4:=N1 h3
    simp only [zt,ob,zqf,zqa,zw]
    rw [w1 (by omega)]
    refine J.bind (Yr hl (k:=k+1+1) (by omega)) ?_ ?_ ?_
    ·exact fun _=>rfl
    ·exact fun v j _=>⟨_,rfl⟩
    intro v j h5 h6 _
    simp only [zqf,zqg,zt,zql]
    rw [J3 l e hB,Y0 l hB,ob]
    cases h7:isT l j [46,46] with
    | false=>exact .pn _ j h6
    | true=>
     have h8:=N1 h7
     simp only [zt,ob,zqf,zqa,zw]
     rw [w1 (by omega)]
     refine J.bind (Yr hl (k:=j+1) (by omega)) ?_ ?_ ?_
     ·exact fun _=>rfl
     ·exact fun v j _=>⟨_,rfl⟩
     intro v2 j2 h9 h10 _
     simp only [zqf,zqg,zt,zql]
     rw [J3 l e hB,Y0 l hB,ob]
     cases h11:isT l j2 [93] with
     | false=>exact .pn _ j2 h10
     | true=>
      have h12:=N1 h11
      simp only [zt,ob,zqf,zqa,zw]
      rw [w1 (by omega)]
      exact .ok _ (j2+1) (by omega) (by omega) (by unfold BT; rw [Kt]; simp only [zqe,Iz,List.map_nil,List.sum_nil,E0.bulks]; omega)
  | false=>
   simp only [Z2,zqa,zw]
   rw [F2 l e hB,ob,Y0 l hB,ob]
   cases h3:isT l k [97,114,114,97,121] with
   | true=>
    have hlt:=N1 h3
    simp only [Q3,zt]
    rw [w1 (by omega)]
    refine J.bind (Yr hl (k:=k+1) (by omega)) ?_ ?_ ?_
    ·exact fun _=>rfl
    ·exact fun v j _=>⟨_,rfl⟩
    intro v j h5 h6 _
    simp only [zqf,zqg,zt,zql]
    rw [J3 l e hB,Y0 l hB,ob]
    cases h7:isT l j [111,102] with
    | false=>exact .pn _ j h6
    | true=>
     have h8:=N1 h7
     simp only [zt,ob,zqf,zqa,zw]
     rw [w1 (by omega)]
     refine J.bind (IH (j+1) (by omega) (by omega)).typ ?_ ?_ ?_
     ·exact fun _=>rfl
     ·exact fun v j _=>⟨_,rfl⟩
     intro v2 j2 h9 h10 h0
     refine .ok _ j2 (by omega) h10 ?_
     unfold BT at h0 ⊢
     rw [Kt]
     simp only [zqe,Iz,List.map_nil,List.sum_nil,E0.bulks]
     omega
   | false=>
    simp only [Z2,zqa,zw]
    rw [F2 l e hB,ob,Y0 l hB,ob]
    cases h4:isT l k [114,101,99,111,114,100] with
    | true=>
     have hlt:=N1 h4
     simp only [Q3,zt]
     rw [w1 (by omega)]
     refine J.rsame ?_
     rw [Zv,J3 l e hB,Y0 l hB,ob]
     cases h5:isT l (k+1) [123] with
     | false=>exact .pn _ (k+1) (by omega)
     | true=>
      have h6:=N1 h5
      simp only [zt,ob,zqf,zqa,zw]
      have hf:=(IH (k+1+1) (by omega) (by omega)).fld [] [] (Nat.zero_le _) (Nat.zero_le _)
      rw [show ((k+1+1:Nat):Int) - 1=((k+1:Nat):Int) by omega] at hf
      refine hf.mono (by omega) fun v j h7 h8=>?_
      unfold BF at h8
      unfold BT
      simp only [Iz,List.map_nil,List.sum_nil,E0.bulks] at h8
      omega
    | false=>
     simp only [Z2,zqa,zw]
     rw [Yl l e hB,D7 l hB]
     cases h5:L3 l k 0 with
     | false=>exact .pn _ k hk
     | true=>
      have:=T6 h5
      have ht:=Gj hl k
      exact .ok _ (k+1) (zqr _) (by omega) (by unfold BT; rw [Kt]; simp only [Iz,List.map_nil,List.sum_nil,E0.bulks]; omega)
theorem R1x (ns:List Str)(os:List E0)(hn:ns.length≤k)(ho:os.length≤k):J l e k (BF ns os k) (Aa (mk l k e) ns os) (Pa l ns os ((k:Int) - 1)):=by
 have hB:=hl.1
 rw [Aa,Pa,T5,wr (n:=(k:Int) - 1+1) (by omega) (by unfold BB at hB; omega),show (k:Int) - 1+1=(k:Int) by omega,Yl l e hB,D7 l hB]
 cases h1:L3 l k 0 with
 | false=>exact .pn _ k hk
 | true=>
  have h2:=T6 h1
  have ht:=Gj hl k
  simp only [zt,ob,zqf,zqg,zql]
  rw [J3 l e hB,Y0 l hB,ob]
  cases h3:isT l (k+1) [58] with
  | false=>exact .pn _ (k+1) (by omega)
  | true=>
   have h4:=N1 h3
   simp only [zt,ob,zqf,zqa,zw]
   rw [w1 (by omega)]
   rcases (IH (k+1+1) (by omega) (by omega)).typ with ⟨v,j,h5,h6,h0,h7,h8⟩ | ⟨v,j,h6,h7,h8⟩
   ·rw [h7,h8,ob,ob,ob]
    have r1:decide ((ns.length+1) * 17≤140737488355328)=true:=zqj (by unfold BB at hB; omega)
    have r2:decide ((os.length+1) * 97≤140737488355328)=true:=zqj (by unfold BB at hB; omega)
    simp only [r1,r2,zt,zqf,zqa,zw]
    rw [F2 l e hB,Y0 l hB,ob,ob]
    unfold BT at h0
    cases h9:isT l j [44] with
    | true=>
     have h10:=N1 h9
     have h11:isT l j [125]=false:=by
      cases h:isT l j [125] with
      | false=>rfl
      | true=>have:=(O7 h9).2.2.symm.trans (O7 h).2.2; simp at this
     simp only [h11,Q3,zqf,zqa,zw]
     rw [Y0 l hB,ob,h9]
     simp only [zqf,zqa,zw]
     have hf:=(IH (j+1) (by omega) (by omega)).fld (ns++[txt l k]) (os++[v]) (by rw [zqc]; simp only [List.length_singleton]; omega) (by rw [zqc]; simp only [List.length_singleton]; omega)
     rw [show ((j+1:Nat):Int) - 1=(j:Int) by omega] at hf
     refine hf.mono (by omega) fun v' j' h12 h13=>?_
     unfold BF at h13 ⊢
     rw [V1i,D13] at h13
     omega
    | false=>
     simp only [Z2,zqg,zt]
     rw [J3 l e hB]
     cases h10:isT l j [125] with
     | true=>
      have h11:=N1 h10
      simp only [zt,ob]
      rw [w1 (by omega)]
      refine .ok _ (j+1) (by omega) (by omega) ?_
      unfold BF
      rw [Kt,V1i,D13]
      simp only [zqe]
      omega
     | false=>
      simp only [zqa,zw,ob]
      rw [Y0 l hB,ob,h9]
      exact .pn _ j h6
   ·rw [h7,h8,ob,ob,ob]
    exact .pn _ j h6
end
theorem B1q:∀ (n k:Nat),l.length - k < n→k≤l.length→PT l e k
 | 0,k,h,_=>absurd h (Nat.not_lt_zero _)
 | n+1,k,h,hk=>by
  have IH:∀ j,k < j→j≤l.length→PT l e j:=fun j h1 h2=>B1q n j (by omega) h2
  exact ⟨Q1x hl hk IH,R1x hl hk IH⟩
theorem C1g {k:Nat}(hk:k≤l.length):PT l e k:=B1q hl _ k (Nat.lt_succ_self _) hk
end
def Dh (k:Int)(n:Str)(t:E0)(i:Int):C0:=C0.mk k n t i (A0.mk 0 0 [] []) [] [] []
def BV (k:Nat)(v:C0)(j:Nat):Prop:=(∃ n t i,v=Dh 4 n t i)∧v.bulk≤9000 * (j - k)
def BP (k:Nat)(v:C0)(j:Nat):Prop:=(∃ n t,v=Dh 4 n t 0)∧v.bulk+9000≤9000 * (j - k)
section
variable {l:List K0}{e:Int}(hl:Ee l)
include hl
theorem M1f (k:Int)(n:Str)(t:E0)(i:Int):(Dh k n t i).bulk=n.length+t.bulk+12:=by
 unfold Dh
 simp only [C0.bulk,C0.bulks,B0.bulks,Lf,zqe]
 omega
theorem U1d {k:Nat}(hk:k≤l.length):J l e (k+1) (BP k) (S2 4 (mk l k e)) (T5 l k):=by
 have hB:=hl.1
 unfold S2
 rw [T5,Yl l e hB,D7 l hB]
 cases h1:L3 l k 0 with
 | false=>exact .pn _ k hk
 | true=>
  have h2:=T6 h1
  have ht:=Gj hl k
  simp only [zt,ob,zqf,zqg,zql]
  rw [J3 l e hB,Y0 l hB,ob]
  cases h3:isT l (k+1) [58] with
  | false=>exact .pn _ (k+1) (by omega)
  | true=>
   have h4:=N1 h3
   simp only [zt,ob,zqf,zqa,zw]
   rw [w1 (by omega)]
   refine J.bind (C1g hl (k:=k+1+1) (by omega)).typ ?_ ?_ ?_
   ·exact fun _=>rfl
   ·exact fun v j _=>⟨_,rfl⟩
   intro v j h5 h6 h0
   refine .ok _ j (by omega) h6 ⟨⟨_,_,rfl⟩,?_⟩
   have:=M1f hl 4 (txt l k) v 0
   unfold Dh at this
   unfold BT at h0
   rw [this]
   omega
theorem I1c {k j:Nat}{d:C0}(hj:j≤l.length)(hk:k≤j){P:C0→Nat→Prop}(hP:P d (j+1)){F:Pn D0→Option (Pn (C0×D0))}(hF:∀ n,F (.pn n)=some (.pn n))(hF2:∀ x,F (.ok x)=some (.ok (d,x))) :
  J l e (k+1) P (U0 [59] (mk l j e)>>=F) (B1 l j [59]>>=fun x4=>if (!x4)=true then some (d,(j:Int),false) else some (d,IntKind.i64.wrap ((j:Int)+1),true)):=by
 have hB:=hl.1
 rw [J3 l e hB,Y0 l hB,ob]
 cases h:isT l j [59] with
 | false=>simp only [zqa,zw,ob,hF,zqg,zt]; exact .pn _ j hj
 | true=>
  have:=N1 h
  simp only [zt,ob,hF2,zqf,zqa,zw]
  rw [w1 (by omega)]
  exact .ok _ (j+1) (by omega) (by omega) hP
theorem J1c {k:Nat}(hk:k≤l.length):J l e (k+1) (BV k) (U7 (mk l k e)) (De l k):=by
 have hB:=hl.1
 unfold U7 De
 refine J.bind (U1d hl hk) ?_ ?_ ?_
 ·exact fun _=>rfl
 ·exact fun v j _=>⟨_,rfl⟩
 rintro v j h1 h2 ⟨⟨n,t,rfl⟩,h0⟩
 have hb:∀ i (j':Nat),j≤j'→BV k (Dh 4 n t i) j':=fun i j' h=>⟨⟨n,t,i,rfl⟩,by rw [M1f hl] at h0 ⊢; omega⟩
 simp only [zqf,zqa,zw]
 rw [F2 l e hB,ob,Y0 l hB,ob]
 cases h3:isT l j [61] with
 | false=>
  simp only [Z2,zqa,zw]
  unfold F8
  exact I1c hl (d:=Dh 4 n t 0) h2 (by omega) (hb 0 _ (by omega)) (fun _=>rfl) (fun _=>rfl)
 | true=>
  have h4:=N1 h3
  simp only [Q3,zt]
  rw [w1 (by omega),F2 l e hB,ob,Ym,Y0 l hB,ob]
  cases h5:isT l (j+1) [116,114,117,101] with
  | true=>
   have h6:=N1 h5
   simp only [Q3,zt,ob,zqf,zqa,zw]
   rw [w1 (by omega)]
   unfold F8
   exact I1c hl (d:=Dh 4 n t 1) (j:=j+1+1) (by omega) (by omega) (hb 1 _ (by omega)) (fun _=>rfl) (fun _=>rfl)
  | false=>
   simp only [Z2,zqa,zw]
   rw [F2 l e hB,ob,Y0 l hB,ob]
   cases h6:isT l (j+1) [102,97,108,115,101] with
   | true=>
    have h7:=N1 h6
    simp only [Q3,zt,ob,zqf,zqa,zw]
    rw [w1 (by omega)]
    unfold F8
    exact I1c hl (d:=Dh 4 n t 0) (j:=j+1+1) (by omega) (by omega) (hb 0 _ (by omega)) (fun _=>rfl) (fun _=>rfl)
   | false=>
    simp only [Z2,zqa,zw]
    rcases Yr hl (e:=e) (k:=j+1) (by omega) with ⟨v,j2,h7,h8,_,h9,h10⟩ | ⟨v,j2,h8,h9,h10⟩
    ·rw [h9,h10,ob,ob,ob]
     simp only [zqf,zqa,zw]
     unfold F8
     exact I1c hl (d:=Dh 4 n t v) (j:=j2) h8 (by omega) (hb v _ (by omega)) (fun _=>rfl) (fun _=>rfl)
    ·rw [h9,h10,ob,ob,ob]
     exact .pn _ j2 h8
end
def BS (k:Nat)(v:B0)(j:Nat):Prop:=v.bulk≤9000 * (j - k)
theorem ba {α β γ:Type}(x:Option α)(f:α→β)(g:β→Option γ):((x>>=fun a=>some (f a))>>=g)=(x>>=fun a=>g (f a)):=by cases x <;> rfl
abbrev zE:A0:=A0.mk 0 0 [] []
def E13 (l:List K0)(x:B0×Int×Bool):Option (B0×Int×Bool):=Lc l x.1.Verb x.1.Place x.1.Value x.1.Name x.1.Args x.1.NV x.1.Low x.1.High x.1.Numbers x.1.Then x.1.Else x.2.1 x.2.2
section
variable {l:List K0}{e:Int}(hl:Ee l)
include hl
theorem Jg (s:B0)(j:Int):E13 l (s,j,false)=some (s,j,false):=by cases s; rfl
theorem Wn (s:B0)(j:Nat)(hj:j≤l.length):E13 l (s,(j:Int),true)=if isT l j [59]=true then some (s,((j+1:Nat):Int),true) else some (s,(j:Int),false):=by
 have hB:=hl.1
 unfold E13 Lc
 simp only [zqf,zqg,zt,zql]
 rw [Y0 l hB,ob]
 cases h:isT l j [59] with
 | false=>cases s; rfl
 | true=>
  have:=N1 h
  simp only [zqf,zqa,zw,zt]
  rw [w1 (by omega)]
  cases s; rfl
theorem U17 {lo j:Nat}{s:B0}(hj:j≤l.length)(hk:lo≤j+1){P:B0→Nat→Prop}(hP:P s (j+1)){F:Pn D0→Option (Pn (B0×D0))}(hF:∀ n,F (.pn n)=some (.pn n))(hF2:∀ x,F (.ok x)=some (.ok (s,x))) :
  J l e lo P (U0 [59] (mk l j e)>>=F) (E13 l (s,(j:Int),true)):=by
 rw [J3 l e hl.1,Wn hl s j hj]
 cases h:isT l j [59] with
 | false=>simp only [zqa,zw,ob,hF]; exact .pn _ j hj
 | true=>
  have:=N1 h
  simp only [zt,ob,hF2]
  exact .ok _ (j+1) hk (by omega) hP
theorem Zr (a:Int)(p v:A0)(n:Str)(az:List A0)(b c d:Int)(t u:List B0):(B0.mk a p v n az b c d [] t u).bulk=p.bulk+v.bulk+n.length+A0.bulks az+B0.bulks t+B0.bulks u+10:=by
 rw [B0.bulk_eq]; simp only [List.map_nil,List.sum_nil]; omega
theorem K1c:∀ (os:List A0) (t:A0),A0.bulks (os++[t])=A0.bulks os+t.bulk
 | [],t=>by simp only [List.nil_append,A0.bulks]; omega
 | x::r,t=>by simp only [List.cons_append,A0.bulks,K1c r t]; omega
theorem C1q (p:A0)(nm:Str)(x1:A0×D0)(x4:Str×D0)(h1:x1.1=p)(h4:x4.1=nm):∀ (n j:Nat) (az:List A0),l.length - j < n→j≤l.length→az.length≤j→
  J l e j (fun v j'=>v.bulk≤p.bulk+nm.length+A0.bulks az+9000 * (j' - j)+15) (G4 (mk l j e) x1 x4 az)
   ((B1 l j [41]>>=fun x4=>if x4=true then some (az,IntKind.i64.wrap ((j:Int)+1),true) else B1 l j [44]>>=fun x5=>if (!x5)=true then some (az,(j:Int),false) else Z6 l j az)>>=fun x7=>
     E13 l (B0.mk 1 p zE nm x7.1 0 0 0 [] [] [],x7.2.1,x7.2.2))
 | 0,j,az,h,_,_=>absurd h (Nat.not_lt_zero _)
 | n+1,j,az,h,hj,ha=>by
  have hB:=hl.1
  rw [G4,F2 l e hB,ob,Y0 l hB,ob]
  cases hc:isT l j [44] with
  | true=>
   have h5:=N1 hc
   have h6:isT l j [41]=false:=by
    cases h:isT l j [41] with
    | false=>rfl
    | true=>have:=(O7 hc).2.2.symm.trans (O7 h).2.2; simp at this
   simp only [h6,Q3,zt,zqa,zw]
   rw [Y0 l hB,ob,hc]
   simp only [zqf,zqa,zw]
   rw [Z6,w1 (by omega)]
   rcases (Xr (e:=e) hl (k:=j+1) (by omega)).expr with ⟨v,j2,h7,h8,h0,h9,h10⟩ | ⟨v,j2,h8,h9,h10⟩
   ·have r1:decide ((az.length+1) * 57≤140737488355328)=true:=zqj (by unfold BB at hB; omega)
    rw [h9,h10,ob,ob]
    simp only [r1,zt,zqf,zqa,zw]
    refine (C1q p nm x1 x4 h1 h4 n j2 (az++[v]) (by omega) h8 (by rw [zqc]; simp only [List.length_singleton]; omega)).mono (by omega) fun v' j' h11 h12=>?_
    unfold BE at h0
    rw [K1c hl] at h12
    omega
   ·rw [h9,h10,ob,ob]
    simp only [zqg,zt,ob]
    rw [Jg hl]
    exact .pn _ j2 h8
  | false=>
   simp only [Z2,zqa,zw]
   rw [J3 l e hB]
   cases hd:isT l j [41] with
   | true=>
    have h5:=N1 hd
    simp only [zt,ob]
    rw [w1 (by omega),h1,h4]
    refine U17 hl (by omega) (by omega) ?_ (fun _=>rfl) (fun _=>rfl)
    rw [Zr hl]
    simp only [B0.bulks,Lf,zqe]
    omega
   | false=>
    simp only [zqa,zw,ob]
    rw [Y0 l hB,ob,hc]
    simp only [zqg,zt,ob]
    rw [Jg hl]
    exact .pn _ j hj
theorem S1s {k:Nat}(hk:k≤l.length):J l e (k+1) (BS k) (J9 (mk l k e)) (Sb l k>>=E13 l):=by
 have hB:=hl.1
 have IH:∀ j,k < j→j≤l.length→PE l e j:=fun j _ h=>Xr hl h
 unfold J9 Sb
 rcases T1k hl hk IH with ⟨v,j,h1,h2,h0,h3,h4⟩ | ⟨v,j,h2,h3,h4⟩
 case inr=>
  rw [h3,h4,ob,ob]
  simp only [zqg,zqf,zqa,zw,ob,zqk,zt]
  rw [Jg hl]
  exact .pn _ j h2
 unfold BE at h0
 rw [h3,h4,ob,ob]
 simp only [zqf,zqg,zt,zql]
 rw [J3 l e hB,Y0 l hB,ob]
 cases h5:isT l j [61] with
 | false=>
  simp only [zqa,zw,zqg,zt,ob]
  rw [Jg hl]
  exact .pn _ j h2
 | true=>
  have h6:=N1 h5
  simp only [zt,ob,zqf,zqa,zw]
  rw [F2 l e hB,ob,w1 (by omega),Y0 l hB,ob]
  cases h7:isT l (j+1) [99,97,108,108] with
  | true=>
   have h8:=N1 h7
   have h9:isT l (j+1) [114,101,108,101,97,115,101]=false:=by
    cases h:isT l (j+1) [114,101,108,101,97,115,101] with
    | false=>rfl
    | true=>have:=(O7 h7).2.2.symm.trans (O7 h).2.2; simp at this
   simp only [h9,Q3,zt,zqa,zw]
   rw [Y0 l hB,ob,h7,zp rfl,w1 (by omega),Yl l e hB,D7 l hB]
   cases h10:L3 l (j+1+1) 0 with
   | false=>
    simp only [zqa,zw,ob,zqg,zt]
    rw [Jg hl]
    exact .pn _ (j+1+1) (by omega)
   | true=>
    have h11:=T6 h10
    have ht:=Gj hl (j+1+1)
    simp only [zt,ob,zqf,zqa,zw]
    unfold Cl
    rw [J3 l e hB,Y0 l hB,ob]
    cases h12:isT l (j+1+1+1) [40] with
    | false=>
     simp only [zqa,zw,ob,zqg,zt]
     rw [Jg hl]
     exact .pn _ (j+1+1+1) (by omega)
    | true=>
     have h13:=N1 h12
     simp only [zt,ob,zqf,zqa,zw]
     rw [V1v l e hB,ob,w1 (by omega),Y0 l hB,ob]
     cases h14:isT l (j+1+1+1+1) [41] with
     | true=>
      have h15:=N1 h14
      simp only [zqf,zqa,zw,zt,ob]
      rw [J3 l e hB,h14,zp rfl,ob,wr (n:=((j+1+1+1:Nat):Int)+2) (by omega) (by unfold BB at hB; omega),show ((j+1+1+1:Nat):Int)+2=((j+1+1+1+1+1:Nat):Int) by omega]
      refine U17 hl (s:=B0.mk 1 v zE (txt l (j+1+1)) [] 0 0 0 [] [] []) (by omega) (by omega) ?_ (fun _=>rfl) (fun _=>rfl)
      unfold BS
      rw [Zr hl]
      simp only [B0.bulks,A0.bulks,Lf,zqe]
      omega
     | false=>
      simp only [zqg,zt,zqa,zw]
      rw [Z6,w1 (by omega)]
      rcases (Xr (e:=e) hl (k:=j+1+1+1+1) (by omega)).expr with ⟨v2,j2,k1,k2,k0,k3,k4⟩ | ⟨v2,j2,k2,k3,k4⟩
      ·rw [k3,k4,ob,ob]
       have r1:decide ((0+1) * 57≤140737488355328)=true:=by decide
       simp only [r1,zt,zqf,zqa,zw,zqe,List.nil_append]
       unfold Ta
       rw [ba]
       refine (C1q hl v (txt l (j+1+1)) (v,mk l j e) (txt l (j+1+1),mk l (j+1+1+1) e) rfl rfl (l.length - j2+1) j2 [v2] (by omega) k2 (by simp only [List.length_singleton]; omega)).mono (by omega) fun v' j' m1 m2=>?_
       unfold BS
       unfold BE at k0
       simp only [A0.bulks] at m2
       omega
      ·rw [k3,k4,ob,ob]
       simp only [zqg,zt,ob]
       rw [Jg hl]
       exact .pn _ j2 k2
  | false=>
   simp only [Z2,zqa,zw]
   rw [F2 l e hB,ob]
   cases h8:isT l (j+1) [114,101,108,101,97,115,101] with
   | true=>
    have h9:=N1 h8
    simp only [Q3,zt]
    rw [w1 (by omega),Yl l e hB,D7 l hB]
    cases h10:L3 l (j+1+1) 0 with
    | false=>
     simp only [zqa,zw,ob]
     rw [Jg hl]
     exact .pn _ (j+1+1) (by omega)
    | true=>
     have h11:=T6 h10
     have ht:=Gj hl (j+1+1)
     simp only [zt,ob]
     refine U17 hl (s:=B0.mk 2 v zE (txt l (j+1+1)) [] 0 0 0 [] [] []) (by omega) (by omega) ?_ (fun _=>rfl) (fun _=>rfl)
     unfold BS
     rw [Zr hl]
     simp only [B0.bulks,A0.bulks,Lf,zqe]
     omega
   | false=>
    simp only [Z2,zqa,zw]
    rw [Y0 l hB,ob,h7]
    simp only [zqa,zw]
    rcases (Xr (e:=e) hl (k:=j+1) (by omega)).expr with ⟨v2,j2,k1,k2,k0,k3,k4⟩ | ⟨v2,j2,k2,k3,k4⟩
    ·rw [k3,k4,ob,ob]
     simp only [ob]
     refine U17 hl (s:=B0.mk 0 v v2 [] [] 0 0 0 [] [] []) k2 (by omega) ?_ (fun _=>rfl) (fun _=>rfl)
     unfold BS
     unfold BE at k0
     rw [Zr hl]
     simp only [B0.bulks,A0.bulks,zqe]
     omega
    ·rw [k3,k4,ob,ob]
     simp only [ob]
     rw [Jg hl]
     exact .pn _ j2 k2
end
def J1t:Pn (B0×D0)→Pn (B0×Bool×D0)
 | .ok x=>.ok (x.1,true,x.2)
 | .pn n=>.pn n
section
variable {l:List K0}{e:Int}(hl:Ee l)
include hl
theorem K1w (a:Int)(ns:List Int):(B0.mk a zE zE [] [] 0 0 0 ns [] []).bulk=ns.length+20:=by
 rw [B0.bulk_eq]
 simp only [Lf,A0.bulks,B0.bulks,zqe]
 have:(ns.map fun _=>1).sum=ns.length:=by induction ns with
  | nil=>rfl
  | cons x r ih=>simp only [List.map_cons,List.sum_cons,zqd,ih]; omega
 omega
theorem F13 (k:Nat):Yi l k=some (L3 l k 0||((isT l k [111,117,116,112,117,116]||(isT l k [119,97,105,116]||(isT l k [105,102]||(isT l k [119,104,105,108,101]||(isT l k [102,111,114]||(isT l k [115,101,116,116,108,101])))))))):=by
 have hB:=hl.1
 unfold Yi
 rw [D7 l hB]
 cases L3 l k 0 with
 | true=>rfl
 | false=>
  simp only [zqa,zw,ob,zqg,zt,Y0 l hB,zql]
  generalize isT l k [111,117,116,112,117,116]=b0
  generalize isT l k [119,97,105,116]=b1
  generalize isT l k [105,102]=b2
  generalize isT l k [119,104,105,108,101]=b3
  generalize isT l k [102,111,114]=b4
  generalize isT l k [115,101,116,116,108,101]=b5
  cases b0 with
  | true=>rfl
  | false=>
  simp only [zqg,zqa,zt,zw,ob,zql,Bool.false_or]
  cases b1 with
  | true=>rfl
  | false=>
  simp only [zqg,zqa,zt,zw,ob,zql,Bool.false_or]
  cases b2 with
  | true=>rfl
  | false=>
  simp only [zqg,zqa,zt,zw,ob,zql,Bool.false_or]
  cases b3 with
  | true=>rfl
  | false=>
  simp only [zqg,zqa,zt,zw,ob,zql,Bool.false_or]
  cases b4 with
  | true=>rfl
  | false=>
  simp only [zqg,zqa,zt,zw,ob,zql,Bool.false_or]
theorem D1q:∀ (n j:Nat) (ns:List Int),l.length - j < n→j≤l.length→ns.length≤j→
  ∃ p:Option (Pn (B0×D0)),P4 (mk l j e) ns=p.map J1t∧
  J l e j (fun v j'=>v.bulk≤ns.length+20+9000 * (j' - j)) p
   ((B1 l j [44]>>=fun x2=>if (!x2)=true then some (ns,(j:Int),true) else G8 l (IntKind.i64.wrap ((j:Int)+1)) ns)>>=fun x13=>
     E13 l (B0.mk 8 zE zE [] [] 0 0 0 x13.1 [] [],x13.2.1,x13.2.2))
 | 0,j,ns,h,_,_=>absurd h (Nat.not_lt_zero _)
 | n+1,j,ns,h,hj,ha=>by
  have hB:=hl.1
  rw [P4,F2 l e hB,ob,Y0 l hB,ob]
  cases hc:isT l j [44] with
  | true=>
   have h5:=N1 hc
   simp only [Q3,zt,zqf,zqa,zw]
   rw [w1 (by omega),G8]
   rcases Yr hl (e:=e) (k:=j+1) (by omega) with ⟨v,j2,h7,h8,_,h9,h10⟩ | ⟨v,j2,h8,h9,h10⟩
   ·have r1:decide ((ns.length+1) * 9≤140737488355328)=true:=zqj (by unfold BB at hB; omega)
    rw [h9,h10,ob,ob]
    simp only [r1,zt,zqf,zqa,zw]
    obtain ⟨p,e1,e2⟩:=D1q n j2 (ns++[v]) (by omega) h8 (by rw [zqc]; simp only [List.length_singleton]; omega)
    refine ⟨p,e1,e2.mono (by omega) fun v' j' h11 h12=>?_⟩
    rw [zqc] at h12
    simp only [List.length_singleton] at h12
    omega
   ·rw [h9,h10,ob,ob]
    simp only [zqg,zt,ob]
    rw [Jg hl]
    exact ⟨some (.pn (off l e j2)),rfl,.pn _ j2 h8⟩
  | false=>
   simp only [Z2,zqa,zw,zqg,zt,ob]
   rw [J3 l e hB,Wn hl _ j hj]
   cases h:isT l j [59] with
   | false=>exact ⟨some (.pn (off l e j)),rfl,.pn _ j hj⟩
   | true=>
    have:=N1 h
    refine ⟨some (.ok (B0.mk 8 zE zE [] [] 0 0 0 ns [] [],mk l (j+1) e)),rfl,.ok _ (j+1) (by omega) (by omega) ?_⟩
    rw [K1w hl]
    omega
end
def JB {α:Type}(l:List K0)(e:Int)(lo:Nat)(P:α→Nat→Prop)(p:Option (Pn (α×Bool×D0)))(r:Option (α×Int×Bool)):Prop:=
 (∃ v j,lo≤j∧j≤l.length∧P v j∧p=some (.ok (v,true,mk l j e))∧r=some (v,((j:Nat):Int),true))∨
 (∃ v j,j≤l.length∧p=some (.pn (off l e j))∧r=some (v,((j:Nat):Int),false))
section
variable {l:List K0}{e:Int}{α β:Type}
theorem JB.ok {lo:Nat}{P:α→Nat→Prop}(v:α)(j:Nat)(h1:lo≤j)(h2:j≤l.length)(hP:P v j):JB l e lo P (some (.ok (v,true,mk l j e))) (some (v,((j:Nat):Int),true)):=.inl ⟨v,j,h1,h2,hP,rfl,rfl⟩
theorem JB.pn {lo:Nat}{P:α→Nat→Prop}(v:α)(j:Nat)(h2:j≤l.length):JB l e lo P (some (.pn (off l e j))) (some (v,((j:Nat):Int),false)):=.inr ⟨v,j,h2,rfl,rfl⟩
theorem JB.bind {lo lo':Nat}{P:α→Nat→Prop}{Q:β→Nat→Prop}{p:Option (Pn (α×D0))}{r:Option (α×Int×Bool)}(h:J l e lo P p r){F:Pn (α×D0)→Option (Pn (β×Bool×D0))}{g:α×Int×Bool→Option (β×Int×Bool)}(hF:∀ n,F (.pn n)=some (.pn n))
  (hg:∀ v (j:Nat),j≤l.length→∃ v',g (v,(j:Int),false)=some (v',(j:Int),false)) (hf:∀ v (j:Nat),lo≤j→j≤l.length→P v j→JB l e lo' Q (F (.ok (v,mk l j e))) (g (v,(j:Int),true))) :
  JB l e lo' Q (p>>=F) (r>>=g):=by
 rcases h with ⟨v,j,h1,h2,h0,rfl,rfl⟩ | ⟨v,j,h2,rfl,rfl⟩
 ·exact hf v j h1 h2 h0
 ·obtain ⟨v',hv⟩:=hg v j h2
  rw [ob,ob,hv,hF]
  exact .pn v' j h2
theorem JB.rsame {lo:Nat}{P:α→Nat→Prop}{p:Option (Pn (α×Bool×D0))}{r:Option (α×Int×Bool)}(h:JB l e lo P p r):JB l e lo P p (r>>=fun x=>some (x.1,x.2.1,x.2.2)):=by
 rcases h with ⟨v,j,h1,h2,h0,rfl,rfl⟩ | ⟨v,j,h2,rfl,rfl⟩
 ·exact .ok v j h1 h2 h0
 ·exact .pn v j h2
theorem JB.lift {lo:Nat}{P:α→Nat→Prop}{p:Option (Pn (α×D0))}{r:Option (α×Int×Bool)}(h:J l e lo P p r){F:Pn (α×D0)→Option (Pn (α×Bool×D0))}(hF:∀ n,F (.pn n)=some (.pn n))(hF2:∀ x,F (.ok x)=some (.ok (x.1,true,x.2))):JB l e lo P (p>>=F) r:=by
 rcases h with ⟨v,j,h1,h2,h0,rfl,rfl⟩ | ⟨v,j,h2,rfl,rfl⟩
 ·rw [ob,hF2]; exact .ok v j h1 h2 h0
 ·rw [ob,hF]; exact .pn v j h2
end
theorem JB.ofMap {l:List K0}{e:Int}{lo:Nat}{P:B0→Nat→Prop}{p:Option (Pn (B0×D0))}{r:Option (B0×Int×Bool)}(h:J l e lo P p r):JB l e lo P (p.map J1t) r:=by
 rcases h with ⟨v,j,h1,h2,h0,rfl,rfl⟩ | ⟨v,j,h2,rfl,rfl⟩
 ·exact .ok v j h1 h2 h0
 ·exact .pn v j h2
def beg (l:List K0)(k:Nat):Bool:=L3 l k 0||((isT l k [111,117,116,112,117,116]||(isT l k [119,97,105,116]||(isT l k [105,102]||(isT l k [119,104,105,108,101]||(isT l k [102,111,114]||(isT l k [115,101,116,116,108,101])))))))
abbrev zS:B0:=B0.mk 0 zE zE [] [] 0 0 0 [] [] []
def BL (out:List B0)(k:Nat)(v:List B0)(j:Nat):Prop:=B0.bulks v≤B0.bulks out+9000 * (j - k)
def BK (k:Nat)(v:List B0)(j:Nat):Prop:=B0.bulks v≤9000 * (j - k)
structure PS (l:List K0)(e:Int)(k:Nat):Prop where
 sts:∀ out,out.length≤k→J l e k (BL out k) (S5 (mk l k e) out) (P5 l k out)
 blk:J l e (k+1) (BK k) (L6 (mk l k e)) (Ke l k)
theorem L1c:∀ (os:List B0) (t:B0),B0.bulks (os++[t])=B0.bulks os+t.bulk
 | [],t=>by simp only [List.nil_append,B0.bulks]; omega
 | x::r,t=>by simp only [List.cons_append,B0.bulks,L1c r t]; omega
section
variable {l:List K0}{e:Int}(hl:Ee l)
include hl
theorem V1k {lo j:Nat}{s:B0}(hj:j≤l.length)(hk:lo≤j+1){P:B0→Nat→Prop}(hP:P s (j+1)){F:Pn D0→Option (Pn (B0×Bool×D0))}(hF:∀ n,F (.pn n)=some (.pn n))(hF2:∀ x,F (.ok x)=some (.ok (s,true,x))) :
  JB l e lo P (U0 [59] (mk l j e)>>=F) (E13 l (s,(j:Int),true)):=by
 rw [J3 l e hl.1,Wn hl s j hj]
 cases h:isT l j [59] with
 | false=>simp only [zqa,zw,ob,hF]; exact .pn _ j hj
 | true=>
  have:=N1 h
  simp only [zt,ob,hF2]
  exact .ok _ (j+1) hk (by omega) hP
section
variable {k:Nat}(hk:k≤l.length)(IH:∀ j,k < j→j≤l.length→PS l e j)
include hk IH
theorem S1x (hb:beg l k=false):F7 (mk l k e)=some (.ok (zS,false,mk l k e)):=by
 have hB:=hl.1
 unfold beg at hb
 simp only [Bool.or_eq_false_iff] at hb
 obtain ⟨h0,h1,h2,h3,h4,h5,h6⟩:=hb
 rw [F7]
 simp only [B13 l e hB,F2 l e hB,h0,h1,h2,h3,h4,h5,h6,Z2,ob,zqa,zw]
theorem H1y (hb:beg l k=true):JB l e (k+1) (BS k) (F7 (mk l k e)) (J4 l k):=by
 have hB:=hl.1
 rw [F7,J4,B13 l e hB,ob]
 cases h0:L3 l k 0 with
 | true=>
  have hf:=V16 h0
  simp only [zt,Y0 l hB,ob,hf,zqa,zw]
  refine JB.lift (S1s hl hk) ?_ ?_
  ·exact fun _=>rfl
  ·exact fun _=>rfl
 | false=>
 simp only [zqa,zw]
 rw [F2 l e hB,ob]
 cases h1:isT l k [111,117,116,112,117,116] with
 | true=>
  have hlt:=N1 h1
  simp only [Q3,zt,Y0 l hB,ob,h1,S8 h1 (t':=[105,102]) rfl,S8 h1 (t':=[119,104,105,108,101]) rfl,S8 h1 (t':=[102,111,114]) rfl,zqa,zw]
  rw [w1 (by omega)]
  refine JB.bind (Xr (e:=e) hl (k:=k+1) (by omega)).expr ?_ ?_ ?_
  ·exact fun _=>rfl
  ·exact fun v j _=>⟨_,Jg hl (B0.mk 3 zE v [] [] 0 0 0 [] [] []) j⟩
  intro v j h2 h3 h4
  refine V1k hl (s:=B0.mk 3 zE v [] [] 0 0 0 [] [] []) h3 (by omega) ?_ (fun _=>rfl) (fun _=>rfl)
  unfold BS
  unfold BE at h4
  rw [Zr hl]
  simp only [B0.bulks,A0.bulks,Lf,zqe]
  omega
 | false=>
 simp only [Z2,zqa,zw]
 rw [F2 l e hB,ob]
 cases h2:isT l k [119,97,105,116] with
 | true=>
  have hlt:=N1 h2
  simp only [Q3,zt,Y0 l hB,ob,h2,h1,S8 h2 (t':=[105,102]) rfl,S8 h2 (t':=[119,104,105,108,101]) rfl,S8 h2 (t':=[102,111,114]) rfl,zqa,zw]
  rw [w1 (by omega)]
  refine JB.bind (Yr (e:=e) hl (k:=k+1) (by omega)) ?_ ?_ ?_
  ·exact fun _=>rfl
  ·exact fun v j _=>⟨_,Jg hl (B0.mk 4 zE zE [] [] v 0 0 [] [] []) j⟩
  intro v j h3 h4 _
  refine V1k hl (s:=B0.mk 4 zE zE [] [] v 0 0 [] [] []) h4 (by omega) ?_ (fun _=>rfl) (fun _=>rfl)
  unfold BS
  rw [Zr hl]
  simp only [B0.bulks,A0.bulks,Lf,zqe]
  omega
 | false=>
 simp only [Z2,zqa,zw]
 rw [F2 l e hB,ob]
 cases h3:isT l k [115,101,116,116,108,101] with
 | true=>
  have hlt:=N1 h3
  simp only [Q3,zt,Y0 l hB,ob,h3,h2,h1,S8 h3 (t':=[105,102]) rfl,S8 h3 (t':=[119,104,105,108,101]) rfl,S8 h3 (t':=[102,111,114]) rfl,zqa,zw]
  rw [w1 (by omega),Dr,G8]
  rcases Yr hl (e:=e) (k:=k+1) (by omega) with ⟨v,j,h7,h8,_,h9,h10⟩ | ⟨v,j,h8,h9,h10⟩
  ·have r1:decide ((0+1) * 9≤140737488355328)=true:=by decide
   rw [h9,h10,ob,ob]
   simp only [r1,zt,zqf,zqa,zw,zqe,List.nil_append]
   obtain ⟨p,e1,e2⟩:=D1q (e:=e) hl (l.length - j+1) j [v] (by omega) h8 (by simp only [List.length_singleton]; omega)
   rw [e1]
   refine JB.ofMap (e2.mono (by omega) fun v' j' h11 h12=>?_)
   unfold BS
   simp only [List.length_singleton] at h12
   omega
  ·rw [h9,h10,ob,ob]
   simp only [zqg,zt,ob]
   exact (show JB l e (k+1) (BS k) (some (.pn (off l e j))) (E13 l (B0.mk 8 zE zE [] [] 0 0 0 [] [] [],(j:Int),false)) from by rw [Jg hl]; exact .pn _ j h8)
 | false=>
 simp only [Z2,zqa,zw]
 rw [F2 l e hB,ob]
 cases h4:isT l k [105,102] with
 | true=>
  have hlt:=N1 h4
  simp only [Q3,zt,Y0 l hB,ob,h4]
  rw [w1 (by omega)]
  refine JB.rsame ?_
  rw [Rf]
  refine JB.bind (Xr (e:=e) hl (k:=k+1) (by omega)).expr ?_ ?_ ?_
  ·exact fun _=>rfl
  ·exact fun v j _=>⟨_,rfl⟩
  intro v j h5 h6 h7
  simp only [zqf,zqa,zw]
  refine JB.bind (IH j (by omega) h6).blk ?_ ?_ ?_
  ·exact fun _=>rfl
  ·exact fun v j _=>⟨_,rfl⟩
  intro v2 j2 h8 h9 h10
  simp only [zqf,zqa,zw]
  rw [F2 l e hB,ob,Y0 l hB,ob]
  unfold BE at h7
  unfold BK at h10
  cases h11:isT l j2 [101,108,115,101] with
  | true=>
   have h12:=N1 h11
   simp only [Q3,zt]
   rw [w1 (by omega)]
   refine JB.bind (IH (j2+1) (by omega) (by omega)).blk ?_ ?_ ?_
   ·exact fun _=>rfl
   ·exact fun v j _=>⟨_,rfl⟩
   intro v3 j3 h13 h14 h15
   refine .ok _ j3 (by omega) h14 ?_
   unfold BS
   unfold BK at h15
   rw [Zr hl]
   simp only [A0.bulks,Lf,zqe]
   omega
  | false=>
   simp only [Z2,zqa,zw]
   refine .ok _ j2 (by omega) h9 ?_
   unfold BS
   rw [Zr hl]
   simp only [A0.bulks,B0.bulks,Lf,zqe]
   omega
 | false=>
 simp only [Z2,zqa,zw]
 rw [F2 l e hB,ob]
 cases h5:isT l k [119,104,105,108,101] with
 | true=>
  have hlt:=N1 h5
  simp only [Q3,zt,Y0 l hB,ob,h4,h5,zqa,zw]
  rw [w1 (by omega)]
  refine JB.rsame ?_
  rw [Bz]
  refine JB.bind (Xr (e:=e) hl (k:=k+1) (by omega)).expr ?_ ?_ ?_
  ·exact fun _=>rfl
  ·exact fun v j _=>⟨_,rfl⟩
  intro v j h6 h7 h8
  simp only [zqf,zqg,zt,zql]
  rw [J3 l e hB,Y0 l hB,ob]
  cases h9:isT l j [108,105,109,105,116] with
  | false=>exact .pn _ j h7
  | true=>
   have h10:=N1 h9
   simp only [zt,ob,zqf,zqa,zw]
   rw [w1 (by omega)]
   refine JB.bind (Yr (e:=e) hl (k:=j+1) (by omega)) ?_ ?_ ?_
   ·exact fun _=>rfl
   ·exact fun v j _=>⟨_,rfl⟩
   intro v2 j2 h11 h12 _
   simp only [zqf,zqa,zw]
   refine JB.bind (IH j2 (by omega) h12).blk ?_ ?_ ?_
   ·exact fun _=>rfl
   ·exact fun v j _=>⟨_,rfl⟩
   intro v3 j3 h13 h14 h15
   refine .ok _ j3 (by omega) h14 ?_
   unfold BS
   unfold BE at h8
   unfold BK at h15
   rw [Zr hl]
   simp only [A0.bulks,B0.bulks,Lf,zqe]
   omega
 | false=>
 simp only [Z2,zqa,zw]
 rw [F2 l e hB,ob]
 cases h6:isT l k [102,111,114] with
 | false=>
  unfold beg at hb
  rw [h0,h1,h2,h3,h4,h5,h6] at hb
  cases hb
 | true=>
  have hlt:=N1 h6
  simp only [Q3,zt,Y0 l hB,ob,h4,h5,h6,zqa,zw]
  rw [w1 (by omega)]
  refine JB.rsame ?_
  rw [Rt,Yl l e hB,D7 l hB]
  cases h7:L3 l (k+1) 0 with
  | false=>exact .pn _ (k+1) (by omega)
  | true=>
   have h8:=T6 h7
   have ht:=Gj hl (k+1)
   simp only [zt,ob,zqf,zqg,zql]
   rw [J3 l e hB,Y0 l hB,ob]
   cases h9:isT l (k+1+1) [61] with
   | false=>exact .pn _ (k+1+1) (by omega)
   | true=>
    have h10:=N1 h9
    simp only [zt,ob,zqf,zqa,zw]
    rw [w1 (by omega)]
    refine JB.bind (Yr (e:=e) hl (k:=k+1+1+1) (by omega)) ?_ ?_ ?_
    ·exact fun _=>rfl
    ·exact fun v j _=>⟨_,rfl⟩
    intro v j h11 h12 _
    simp only [zqf,zqg,zt,zql]
    rw [J3 l e hB,Y0 l hB,ob]
    cases h13:isT l j [116,111] with
    | false=>exact .pn _ j h12
    | true=>
     have h14:=N1 h13
     simp only [zt,ob,zqf,zqa,zw]
     rw [w1 (by omega)]
     refine JB.bind (Yr (e:=e) hl (k:=j+1) (by omega)) ?_ ?_ ?_
     ·exact fun _=>rfl
     ·exact fun v j _=>⟨_,rfl⟩
     intro v2 j2 h15 h16 _
     simp only [zqf,zqa,zw]
     refine JB.bind (IH j2 (by omega) h16).blk ?_ ?_ ?_
     ·exact fun _=>rfl
     ·exact fun v j _=>⟨_,rfl⟩
     intro v3 j3 h17 h18 h19
     refine .ok _ j3 (by omega) h18 ?_
     unfold BS
     unfold BK at h19
     rw [Zr hl]
     simp only [A0.bulks,B0.bulks,Lf,zqe]
     omega
theorem T1x (out:List B0)(ho:out.length≤k):J l e k (BL out k) (S5 (mk l k e) out) (P5 l k out):=by
 have hB:=hl.1
 rw [S5,P5,F13 hl k,ob]
 cases hb:beg l k with
 | false=>
  rw [S1x hl hk IH hb,ob]
  unfold beg at hb
  rw [hb]
  simp only [zqg,zt,zqa,zw]
  exact .ok _ k (zqr _) hk (by unfold BL; omega)
 | true=>
  have hb':=hb
  unfold beg at hb'
  rw [hb',zp rfl]
  rcases H1y hl hk IH hb with ⟨v,j,h1,h2,h3,h4,h5⟩ | ⟨v,j,h2,h4,h5⟩
  ·have r1:decide ((out.length+1) * 257≤140737488355328)=true:=zqj (by unfold BB at hB; omega)
   rw [h4,h5,ob,ob]
   simp only [r1,zt,zqf,zqa,zw]
   refine ((IH j (by omega) h2).sts (out++[v]) (by rw [zqc]; simp only [List.length_singleton]; omega)).mono (by omega) fun v' j' h6 h7=>?_
   unfold BL at h7 ⊢
   unfold BS at h3
   rw [L1c] at h7
   omega
  ·rw [h4,h5,ob,ob]
   simp only [zqg,zt]
   exact .pn _ j h2
theorem U1x:J l e (k+1) (BK k) (L6 (mk l k e)) (Ke l k):=by
 have hB:=hl.1
 rw [L6,Ke,J3 l e hB,Y0 l hB,ob]
 cases h1:isT l k [123] with
 | false=>exact .pn _ k hk
 | true=>
  have h2:=N1 h1
  simp only [zt,ob,zqf,zqa,zw]
  rw [w1 (by omega),O3,K7]
  refine J.bind ((IH (k+1) (by omega) (by omega)).sts [] (Nat.zero_le _)) ?_ ?_ ?_
  ·exact fun _=>rfl
  ·exact fun v j _=>⟨_,rfl⟩
  intro v j h3 h4 h5
  simp only [zqf,zqg,zt,zql]
  rw [J3 l e hB,Y0 l hB,ob]
  cases h6:isT l j [125] with
  | false=>exact .pn _ j h4
  | true=>
   have h7:=N1 h6
   simp only [zt,ob,zqf,zqa,zw]
   rw [w1 (by omega)]
   refine .ok _ (j+1) (by omega) (by omega) ?_
   unfold BK
   unfold BL at h5
   simp only [B0.bulks] at h5
   omega
end
theorem E1q:∀ (n k:Nat),l.length - k < n→k≤l.length→PS l e k
 | 0,k,h,_=>absurd h (Nat.not_lt_zero _)
 | n+1,k,h,hk=>by
  have IH:∀ j,k < j→j≤l.length→PS l e j:=fun j h1 h2=>E1q n j (by omega) h2
  exact ⟨T1x hl hk IH,U1x hl hk IH⟩
theorem V1x {k:Nat}(hk:k≤l.length):PS l e k:=E1q hl _ k (Nat.lt_succ_self _) hk
theorem W1k {k:Nat}(hk:k≤l.length):J l e k (BK k) (O3 (mk l k e)) (K7 l k):=by
 rw [O3,K7]
 refine ((V1x hl hk).sts [] (Nat.zero_le _)).mono (zqr _) fun v j _ h=>?_
 unfold BK
 unfold BL at h
 simp only [B0.bulks] at h
 omega
end
abbrev zT:E0:=E0.mk 0 0 0 0 [] [] []
abbrev zD:C0:=C0.mk 0 [] zT 0 zE [] [] []
def BD (k:Nat)(v:C0)(j:Nat):Prop:=v.bulk≤9000 * (j - k)
theorem D1n (a:Int)(n:Str)(t:E0)(i:Int)(v:A0)(ps vs:List C0)(b:List B0):(C0.mk a n t i v ps vs b).bulk=n.length+t.bulk+v.bulk+C0.bulks ps+C0.bulks vs+B0.bulks b+7:=by
 simp only [C0.bulk]; omega
theorem Fv:∀ (os:List C0) (t:C0),C0.bulks (os++[t])=C0.bulks os+t.bulk
 | [],t=>by simp only [List.nil_append,C0.bulks]; omega
 | x::r,t=>by simp only [List.cons_append,C0.bulks,Fv r t]; omega
theorem P1u {l:List K0}{k:Nat}{t:Str}(h:isT l k t=true):∃ x,l[k]?=some x∧x.Text=t:=by
 unfold isT at h
 split at h
 ·rename_i x hx
  rw [zqi] at h
  exact ⟨x,hx,eq_of_beq h.1⟩
 ·cases h
section
variable {l:List K0}{e:Int}(hl:Ee l)
include hl
theorem Q1u (kd:Int){k:Nat}(hk:k≤l.length) :
  (∃ n t j,k+3≤j∧j≤l.length∧n.length+t.bulk+9000≤9000 * (j - k)∧S2 kd (mk l k e)=some (.ok (Dh kd n t 0,mk l j e))∧T5 l k=some (Dh 4 n t 0,((j:Nat):Int),true))∨
  (∃ v j,j≤l.length∧S2 kd (mk l k e)=some (.pn (off l e j))∧T5 l k=some (v,((j:Nat):Int),false)):=by
 have hB:=hl.1
 unfold S2
 rw [T5,Yl l e hB,D7 l hB]
 cases h1:L3 l k 0 with
 | false=>exact .inr ⟨_,k,hk,rfl,rfl⟩
 | true=>
  have h2:=T6 h1
  have ht:=Gj hl k
  simp only [zt,ob,zqf,zqg,zql]
  rw [J3 l e hB,Y0 l hB,ob]
  cases h3:isT l (k+1) [58] with
  | false=>exact .inr ⟨_,k+1,by omega,rfl,rfl⟩
  | true=>
   have h4:=N1 h3
   simp only [zt,ob,zqf,zqa,zw]
   rw [w1 (by omega)]
   rcases (C1g hl (e:=e) (k:=k+1+1) (by omega)).typ with ⟨v,j,h5,h6,h0,h7,h8⟩ | ⟨v,j,h6,h7,h8⟩
   ·unfold BT at h0
    rw [h7,h8,ob,ob]
    exact .inl ⟨_,v,j,by omega,h6,by omega,rfl,rfl⟩
   ·rw [h7,h8,ob,ob]
    exact .inr ⟨_,j,h6,rfl,rfl⟩
theorem V17 {k j:Nat}{kd:Int}{n:Str}{t:E0}{v:A0}{x:C0×Int×Bool}(hx:x.1=Dh 4 n t 0)(hj:j≤l.length)(hk:k≤j)(hb:n.length+t.bulk+v.bulk+8≤9000 * (j+1 - k)){F:Pn D0→Option (Pn (C0×Bool×D0))}(hF:∀ n,F (.pn n)=some (.pn n))(hF2:∀ x,F (.ok x)=some (.ok (C0.mk kd n t 0 v [] [] [],true,x))) :
  JB l e (k+1) (BD k) (U0 [59] (mk l j e)>>=F) (X2 l kd x v j):=by
 have hB:=hl.1
 unfold X2
 rw [J3 l e hB,Y0 l hB,ob,hx]
 cases h:isT l j [59] with
 | false=>simp only [zqa,zw,ob,hF,zqg,zt]; exact .pn _ j hj
 | true=>
  have:=N1 h
  simp only [zt,ob,hF2,zqf,zqa,zw]
  rw [w1 (by omega)]
  refine .ok _ (j+1) (by omega) (by omega) ?_
  unfold BD
  rw [D1n]
  simp only [C0.bulks,B0.bulks]
  omega
theorem G13 (k:Nat)(a b:Str):Pr l k [a,b]=some (if isT l k a=true then (if isT l (k+1) b=true then (((k+1+1:Nat):Int),true) else (((k+1:Nat):Int),false)) else ((k:Int),false)):=by
 have hB:=hl.1
 unfold Pr
 rw [Xi]
 have i0:idx [a,b] 0=some a:=rfl
 have i1:idx [a,b] 1=some b:=rfl
 rw [zp (by simp),i0,ob,Y0 l hB,ob]
 cases h:isT l k a with
 | false=>rfl
 | true=>
  have h1:=N1 h
  simp only [zqf,zqa,zw,zt]
  rw [w1 (by omega),show IntKind.i64.wrap (0+1)=1 by decide,Xi,zp (by simp),i1,ob,Y0 l hB,ob]
  cases h2:isT l (k+1) b with
  | false=>rfl
  | true=>
   have h3:=N1 h2
   simp only [zqf,zqa,zw,zt]
   rw [w1 (by omega),show IntKind.i64.wrap (1+1)=2 by decide,Xi,zn (by simp)]
theorem F1q (nm:Str)(t:E0)(ps:List C0)(x1:Str×D0)(y1:Str×Int×Bool)(x7:E0×D0)(y5:E0×Int×Bool)(hx1:x1.1=nm)(hy1:y1.1=nm)(hx7:x7.1=t)(hy5:y5.1=t) :
  ∀ (n j:Nat) (vs:List C0),l.length - j < n→j≤l.length→vs.length≤j→
  J l e (j+1) (fun v j'=>v.bulk≤nm.length+t.bulk+C0.bulks ps+C0.bulks vs+9000 * (j' - j)) (U4 (mk l j e) x1 x7 ps vs) (H8 l y1 y5 ps vs j)
 | 0,j,vs,h,_,_=>absurd h (Nat.not_lt_zero _)
 | n+1,j,vs,h,hj,ha=>by
  have hB:=hl.1
  rw [U4,H8,F2 l e hB,ob,Y0 l hB,ob]
  cases h1:isT l j [118,97,114] with
  | true=>
   have h2:=N1 h1
   simp only [Q3,zt]
   rw [w1 (by omega)]
   rcases J1c hl (e:=e) (k:=j+1) (by omega) with ⟨v,j2,h3,h4,⟨_,h5⟩,h6,h7⟩ | ⟨v,j2,h4,h6,h7⟩
   ·have r1:decide ((vs.length+1) * 257≤140737488355328)=true:=zqj (by unfold BB at hB; omega)
    rw [h6,h7,ob,ob]
    simp only [r1,zt,zqf,zqa,zw]
    refine (F1q nm t ps x1 y1 x7 y5 hx1 hy1 hx7 hy5 n j2 (vs++[v]) (by omega) h4 (by rw [zqc]; simp only [List.length_singleton]; omega)).mono (by omega) fun v' j' h8 h9=>?_
    rw [Fv] at h9
    omega
   ·rw [h6,h7,ob,ob]
    simp only [zqg,zt]
    exact .pn _ j2 h4
  | false=>
   simp only [Z2,zqa,zw]
   refine J.bind (W1k hl hj) ?_ ?_ ?_
   ·exact fun _=>rfl
   ·exact fun v j _=>⟨_,rfl⟩
   intro v j2 h2 h3 h4
   simp only [zqf,zqg,zt,zql]
   rw [J3 l e hB,Y0 l hB,ob]
   cases h5:isT l j2 [114,101,116,117,114,110] with
   | false=>exact .pn _ j2 h3
   | true=>
    have h6:=N1 h5
    simp only [zt,ob,zqf,zqa,zw]
    rw [w1 (by omega)]
    refine J.bind (Xr (e:=e) hl (k:=j2+1) (by omega)).expr ?_ ?_ ?_
    ·exact fun _=>rfl
    ·exact fun v j _=>⟨_,rfl⟩
    intro v2 j3 h7 h8 h9
    simp only [zqf,zqa,zw]
    rw [J3 l e hB,G13 hl,ob]
    cases h10:isT l j3 [59] with
    | false=>exact .pn _ j3 h8
    | true=>
     have h11:=N1 h10
     simp only [zt,ob]
     rw [J3 l e hB]
     cases h12:isT l (j3+1) [125] with
     | false=>exact .pn _ (j3+1) (by omega)
     | true=>
      have h13:=N1 h12
      simp only [zt,ob]
      rw [hx1,hy1,hx7,hy5]
      refine .ok _ (j3+1+1) (by omega) (by omega) ?_
      unfold BK at h4
      unfold BE at h9
      rw [D1n]
      omega
theorem G1q (nm:Str)(ps:List C0)(x1:Str×D0)(y1:Str×Int×Bool)(hx1:x1.1=nm)(hy1:y1.1=nm){j:Nat}(hj:j≤l.length) :
  J l e (j+1) (fun v j'=>v.bulk≤nm.length+C0.bulks ps+9000 * (j' - j)) (V4 (mk l j e) x1 ps) (O6 l y1 ps j):=by
 have hB:=hl.1
 unfold V4 O6
 rw [J3 l e hB,G13 hl,ob]
 cases h1:isT l j [41] with
 | false=>exact .pn _ j hj
 | true=>
  have h2:=N1 h1
  simp only [zt,ob]
  rw [J3 l e hB]
  cases h3:isT l (j+1) [58] with
  | false=>exact .pn _ (j+1) (by omega)
  | true=>
   have h4:=N1 h3
   simp only [zt,ob,zqf,zqa,zw]
   refine J.bind (C1g (e:=e) hl (k:=j+1+1) (by omega)).typ ?_ ?_ ?_
   ·exact fun _=>rfl
   ·exact fun v j _=>⟨_,rfl⟩
   intro v j2 h5 h6 h7
   simp only [zqf,zqg,zt,zql]
   rw [J3 l e hB,Y0 l hB,ob]
   cases h8:isT l j2 [123] with
   | false=>exact .pn _ j2 h6
   | true=>
    have h9:=N1 h8
    simp only [zt,ob,zqf,zqa,zw]
    rw [w1 (by omega)]
    refine (F1q hl nm v ps x1 y1 _ _ hx1 hy1 rfl rfl (l.length - (j2+1)+1) (j2+1) [] (by omega) (by omega) (Nat.zero_le _)).mono (by omega) fun v' j' h10 h11=>?_
    unfold BT at h7
    simp only [C0.bulks] at h11
    omega
theorem H1q (nm:Str)(x1:Str×D0)(y1:Str×Int×Bool)(hx1:x1.1=nm)(hy1:y1.1=nm):∀ (n j:Nat) (ps:List C0),l.length - j < n→j≤l.length→ps.length≤j→
  J l e (j+1) (fun v j'=>v.bulk≤nm.length+C0.bulks ps+9000 * (j' - j)) (W4 (mk l j e) x1 ps)
   (B1 l j [44]>>=fun x8=>if (!x8)=true then O6 l y1 ps j else V5 l y1 ps (IntKind.i64.wrap ((j:Int)+1)))
 | 0,j,ps,h,_,_=>absurd h (Nat.not_lt_zero _)
 | n+1,j,ps,h,hj,ha=>by
  have hB:=hl.1
  rw [W4,F2 l e hB,ob,Y0 l hB,ob]
  cases h1:isT l j [44] with
  | false=>
   simp only [Z2,zqa,zw,zqg,zt]
   exact G1q hl nm ps x1 y1 hx1 hy1 hj
  | true=>
   have h2:=N1 h1
   simp only [Q3,zt,zqf,zqa,zw]
   rw [w1 (by omega),V5]
   rcases U1d hl (e:=e) (k:=j+1) (by omega) with ⟨v,j2,h3,h4,⟨_,h5⟩,h6,h7⟩ | ⟨v,j2,h4,h6,h7⟩
   ·have r1:decide ((ps.length+1) * 257≤140737488355328)=true:=zqj (by unfold BB at hB; omega)
    rw [h6,h7,ob,ob]
    simp only [r1,zt,zqf,zqa,zw]
    refine (H1q nm x1 y1 hx1 hy1 n j2 (ps++[v]) (by omega) h4 (by rw [zqc]; simp only [List.length_singleton]; omega)).mono (by omega) fun v' j' h8 h9=>?_
    rw [Fv] at h9
    omega
   ·rw [h6,h7,ob,ob]
    simp only [zqg,zt]
    exact .pn _ j2 h4
theorem E1n {k:Nat}(hk:k≤l.length):J l e (k+1) (BD k) (Fb (mk l k e)) (Gg l k):=by
 have hB:=hl.1
 unfold Fb Gg
 rw [Yl l e hB,D7 l hB]
 cases h1:L3 l k 0 with
 | false=>exact .pn _ k hk
 | true=>
  have h2:=T6 h1
  have ht:=Gj hl k
  simp only [zt,ob,zqf,zqg,zql]
  rw [J3 l e hB,Y0 l hB,ob]
  cases h3:isT l (k+1) [40] with
  | false=>exact .pn _ (k+1) (by omega)
  | true=>
   have h4:=N1 h3
   simp only [zt,ob,zqf,zqa,zw]
   rw [B13 l e hB,ob,w1 (by omega),Y0 l hB,ob]
   cases h5:isT l (k+1+1) [41] with
   | true=>
    rw [(O7 h5).1]
    simp only [zqf,zqa,zw]
    refine (G1q hl (txt l k) [] _ _ rfl rfl (by omega)).mono (by omega) fun v' j' h6 h7=>?_
    unfold BD
    simp only [C0.bulks] at h7
    omega
   | false=>
    simp only [zqg,zt]
    cases h6:L3 l (k+1+1) 0 with
    | false=>
     simp only [zqa,zw]
     unfold V4
     rw [J3 l e hB,h5,V5,T5,D7 l hB,h6]
     exact .pn _ (k+1+1) (by omega)
    | true=>
     simp only [zt]
     rw [V5]
     rcases U1d hl (e:=e) (k:=k+1+1) (by omega) with ⟨v,j2,m3,m4,⟨_,m5⟩,m6,m7⟩ | ⟨v,j2,m4,m6,m7⟩
     ·have r1:decide ((0+1) * 257≤140737488355328)=true:=by decide
      rw [m6,m7,ob,ob]
      simp only [r1,zt,zqf,zqa,zw,zqe,List.nil_append]
      unfold Vc
      refine (H1q hl (txt l k) _ _ rfl rfl (l.length - j2+1) j2 [v] (by omega) m4 (by simp only [List.length_singleton]; omega)).mono (by omega) fun v' j' h8 h9=>?_
      unfold BD
      simp only [C0.bulks] at h9
      omega
     ·rw [m6,m7,ob,ob]
      simp only [zqg,zt]
      exact .pn _ j2 m4
def dcl (l:List K0)(k:Nat):Bool:=isT l k [116,121,112,101]||(isT l k [115,101,99,114,101,116]||(isT l k [112,117,98,108,105,99]||(isT l k [114,97,110,100,111,109]||(isT l k [118,97,114]||(isT l k [104,97,116,99,104]||isT l k [102,117,110,99])))))
theorem H13 (k:Nat):Cr l k=some (dcl l k):=by
 have hB:=hl.1
 unfold Cr dcl
 simp only [Y0 l hB,ob]
 generalize isT l k [116,121,112,101]=b0
 generalize isT l k [115,101,99,114,101,116]=b1
 generalize isT l k [112,117,98,108,105,99]=b2
 generalize isT l k [114,97,110,100,111,109]=b3
 generalize isT l k [118,97,114]=b4
 generalize isT l k [104,97,116,99,104]=b5
 generalize isT l k [102,117,110,99]=b6
 cases b0 with
 | true=>rfl
 | false=>
 cases b1 with
 | true=>rfl
 | false=>
 cases b2 with
 | true=>rfl
 | false=>
 cases b3 with
 | true=>rfl
 | false=>
 cases b4 with
 | true=>rfl
 | false=>
 cases b5 with
 | true=>rfl
 | false=>rfl
theorem R1u {k:Nat}(hb:dcl l k=false):X4 (mk l k e)=some (.ok (zD,false,mk l k e)):=by
 have hB:=hl.1
 unfold dcl at hb
 simp only [Bool.or_eq_false_iff] at hb
 obtain ⟨h1,h2,h3,h4,h5,h6,h7⟩:=hb
 unfold X4
 simp only [F2 l e hB,h1,h2,h3,h4,h5,h6,h7,Z2,ob,zqa,zw]
theorem L1w {k:Nat}(hk:k≤l.length)(hb:dcl l k=true):JB l e (k+1) (BD k) (X4 (mk l k e)) (W5 l k):=by
 have hB:=hl.1
 unfold X4 W5
 rw [F2 l e hB,ob]
 cases h1:isT l k [116,121,112,101] with
 | true=>
  have hlt:=N1 h1
  simp only [Q3,zt,Y0 l hB,ob,h1,S8 h1 (t':=[118,97,114]) rfl,S8 h1 (t':=[102,117,110,99]) rfl,zqa,zw]
  rw [w1 (by omega),Yl l e hB,D7 l hB]
  cases h2:L3 l (k+1) 0 with
  | false=>exact .pn _ (k+1) (by omega)
  | true=>
   have h3:=T6 h2
   have ht:=Gj hl (k+1)
   simp only [zt,ob,zqf,zqg,zql]
   rw [J3 l e hB,Y0 l hB,ob]
   cases h4:isT l (k+1+1) [61] with
   | false=>exact .pn _ (k+1+1) (by omega)
   | true=>
    have h5:=N1 h4
    simp only [zt,ob,zqf,zqa,zw]
    rw [w1 (by omega)]
    refine JB.bind (C1g (e:=e) hl (k:=k+1+1+1) (by omega)).typ ?_ ?_ ?_
    ·exact fun _=>rfl
    ·exact fun v j _=>⟨_,rfl⟩
    intro v j h6 h7 h8
    simp only [zqf,zqg,zt,zql]
    rw [J3 l e hB,Y0 l hB,ob]
    cases h9:isT l j [59] with
    | false=>exact .pn _ j h7
    | true=>
     have h10:=N1 h9
     simp only [zt,ob,zqf,zqa,zw]
     rw [w1 (by omega)]
     refine .ok _ (j+1) (by omega) (by omega) ?_
     unfold BD
     unfold BT at h8
     rw [D1n]
     simp only [C0.bulks,B0.bulks,Lf,zqe]
     omega
 | false=>
 simp only [Z2,zqa,zw]
 have word:∀ (w:Str) (kd:Int),isT l k w=true→(w == [118,97,114])=false→(w == [102,117,110,99])=false→
   ∀ {F:Pn (C0×D0)→Option (Pn (C0×Bool×D0))} {G:K0→C0×Int×Bool→Option (C0×Int×Bool)},(∀ n,F (.pn n)=some (.pn n))→
   (∀ x n t j,x.Text=w→k+4≤j→j≤l.length→n.length+t.bulk+18000≤9000 * (j - k)→JB l e (k+1) (BD k) (F (.ok (Dh kd n t 0,mk l j e))) (G x (Dh 4 n t 0,(j:Int),true)))→
   JB l e (k+1) (BD k) (S2 kd (mk l (k+1) e)>>=F) (idx l k>>=fun x10=>T5 l (IntKind.i64.wrap ((k:Int)+1))>>=fun x11=>if (!x11.2.2)=true then some (x11.1,x11.2.1,false) else G x10 x11):=by
  intro w kd hw hv hf F G hF hG
  have hlt:=N1 hw
  obtain ⟨x,hx,hxt⟩:=P1u hw
  rw [Up,hx,ob,w1 (by omega)]
  rcases Q1u hl (e:=e) kd (k:=k+1) (by omega) with ⟨n,t,j,m1,m2,m3,m4,m5⟩ | ⟨v,j,m2,m4,m5⟩
  ·rw [m4,m5,ob,ob]
   simp only [zqf,zqa,zw]
   exact hG x n t j hxt (by omega) m2 (by omega)
  ·rw [m4,m5,ob,ob,hF]
   simp only [zqg,zt]
   exact .pn _ j m2
 rw [F2 l e hB,ob]
 cases h2:isT l k [115,101,99,114,101,116] with
 | true=>
  simp only [Q3,zt,Y0 l hB,ob,h1,S8 h2 (t':=[118,97,114]) rfl,S8 h2 (t':=[102,117,110,99]) rfl,zqa,zw]
  refine word [115,101,99,114,101,116] 1 h2 rfl rfl (fun _=>rfl) fun x n t j m1 m2 m3 m4=>?_
  rw [m1]
  exact V17 hl (x:=(Dh 4 n t 0,(j:Int),true)) rfl m3 (by omega) (by rw [show (Dh 4 n t 0).Value=zE from rfl,Lf]; simp only [zqe]; omega) (fun _=>rfl) (fun _=>rfl)
 | false=>
 simp only [Z2,zqa,zw]
 rw [F2 l e hB,ob]
 cases h3:isT l k [112,117,98,108,105,99] with
 | true=>
  simp only [Q3,zt,Y0 l hB,ob,h1,S8 h3 (t':=[118,97,114]) rfl,S8 h3 (t':=[102,117,110,99]) rfl,zqa,zw]
  refine word [112,117,98,108,105,99] 2 h3 rfl rfl (fun _=>rfl) fun x n t j m1 m2 m3 m4=>?_
  rw [m1]
  exact V17 hl (x:=(Dh 4 n t 0,(j:Int),true)) rfl m3 (by omega) (by rw [show (Dh 4 n t 0).Value=zE from rfl,Lf]; simp only [zqe]; omega) (fun _=>rfl) (fun _=>rfl)
 | false=>
 simp only [Z2,zqa,zw]
 rw [F2 l e hB,ob]
 cases h4:isT l k [114,97,110,100,111,109] with
 | true=>
  simp only [Q3,zt,Y0 l hB,ob,h1,S8 h4 (t':=[118,97,114]) rfl,S8 h4 (t':=[102,117,110,99]) rfl,zqa,zw]
  refine word [114,97,110,100,111,109] 3 h4 rfl rfl (fun _=>rfl) fun x n t j m1 m2 m3 m4=>?_
  rw [m1]
  exact V17 hl (x:=(Dh 4 n t 0,(j:Int),true)) rfl m3 (by omega) (by rw [show (Dh 4 n t 0).Value=zE from rfl,Lf]; simp only [zqe]; omega) (fun _=>rfl) (fun _=>rfl)
 | false=>
 simp only [Z2,zqa,zw]
 rw [F2 l e hB,ob]
 cases h5:isT l k [118,97,114] with
 | true=>
  have hlt:=N1 h5
  simp only [Q3,zt,Y0 l hB,ob,h5]
  rw [w1 (by omega)]
  refine JB.rsame (JB.lift ((J1c hl (e:=e) (k:=k+1) (by omega)).mono (by omega) fun v j m1 m2=>?_) ?_ ?_)
  ·obtain ⟨_,m2⟩:=m2
   unfold BD
   omega
  ·exact fun _=>rfl
  ·exact fun _=>rfl
 | false=>
 simp only [Z2,zqa,zw]
 rw [F2 l e hB,ob]
 cases h6:isT l k [104,97,116,99,104] with
 | true=>
  simp only [Q3,zt,Y0 l hB,ob,h1,h5,S8 h6 (t':=[102,117,110,99]) rfl,zqa,zw]
  refine word [104,97,116,99,104] 5 h6 rfl rfl (fun _=>rfl) fun x n t j m1 m2 m3 m4=>?_
  rw [m1]
  rw [zn (by decide),zn (by decide),zn (by decide)]
  simp only
  rw [J3 l e hB,Y0 l hB,ob]
  cases h7:isT l j [61] with
  | false=>exact .pn _ j m3
  | true=>
   have h8:=N1 h7
   simp only [zt,ob,zqf,zqa,zw]
   rw [w1 (by omega)]
   rcases (Xr (e:=e) hl (k:=j+1) (by omega)).expr with ⟨v,j2,q1,q2,q3,q4,q5⟩ | ⟨v,j2,q2,q4,q5⟩
   ·rw [q4,q5,ob,ob]
    simp only [zqf,zqa,zw]
    unfold BE at q3
    exact V17 hl (x:=(Dh 4 n t 0,(j:Int),true)) rfl q2 (by omega) (by omega) (fun _=>rfl) (fun _=>rfl)
   ·rw [q4,q5,ob,ob]
    exact .pn _ j2 q2
 | false=>
 simp only [Z2,zqa,zw]
 rw [F2 l e hB,ob]
 cases h7:isT l k [102,117,110,99] with
 | false=>
  unfold dcl at hb
  rw [h1,h2,h3,h4,h5,h6,h7] at hb
  cases hb
 | true=>
  have hlt:=N1 h7
  simp only [Q3,zt,Y0 l hB,ob,h5,h7,zqa,zw]
  rw [w1 (by omega)]
  refine JB.rsame (JB.lift ((E1n hl (e:=e) (k:=k+1) (by omega)).mono (by omega) fun v j m1 m2=>?_) ?_ ?_)
  ·unfold BD at m2 ⊢
   omega
  ·exact fun _=>rfl
  ·exact fun _=>rfl
theorem I1q:∀ (n k:Nat) (ds:List C0),l.length - k < n→k≤l.length→ds.length≤k→
  J l e (k+1) (fun v j=>v.bulk≤C0.bulks ds+9000 * (j - k)) (L5 (mk l k e) ds) (Tb l ds k)
 | 0,k,ds,h,_,_=>absurd h (Nat.not_lt_zero _)
 | n+1,k,ds,h,hk,hd=>by
  have hB:=hl.1
  rw [L5,Tb,H13 hl,ob]
  cases hb:dcl l k with
  | true=>
   rw [zp rfl]
   rcases L1w hl (e:=e) hk hb with ⟨v,j,h1,h2,h3,h4,h5⟩ | ⟨v,j,h2,h4,h5⟩
   ·have r1:decide ((ds.length+1) * 257≤140737488355328)=true:=zqj (by unfold BB at hB; omega)
    rw [h4,h5,ob,ob]
    simp only [r1,zt,zqf,zqa,zw]
    refine (I1q n j (ds++[v]) (by omega) h2 (by rw [zqc]; simp only [List.length_singleton]; omega)).mono (by omega) fun v' j' h6 h7=>?_
    unfold BD at h3
    rw [Fv] at h7
    omega
   ·rw [h4,h5,ob,ob]
    exact .pn _ j h2
  | false=>
   rw [R1u hl hb,ob]
   simp only [zqg,zt,zqa,zw]
   rw [J3 l e hB,Y0 l hB,ob]
   cases h1:isT l k [98,101,103,105,110] with
   | false=>exact .pn _ k hk
   | true=>
    have h2:=N1 h1
    simp only [zt,ob,zqf,zqa,zw]
    rw [w1 (by omega)]
    refine J.bind (W1k hl (k:=k+1) (by omega)) ?_ ?_ ?_
    ·exact fun _=>rfl
    ·exact fun v j _=>⟨_,rfl⟩
    intro v j h3 h4 h5
    simp only [zqf,zqg,zt,zql]
    rw [J3 l e hB,Y0 l hB,ob]
    cases h6:isT l j [101,110,100] with
    | false=>exact .pn _ j h4
    | true=>
     have h7:=N1 h6
     simp only [zt,ob,zqf,zqa,zw]
     rw [w1 (by omega)]
     refine .ok _ (j+1) (by omega) (by omega) ?_
     unfold BK at h5
     simp only [O0.bulk]
     omega
theorem J1q:J l e 1 (fun v j=>v.bulk≤9000 * j) (R6 (mk l 0 e)) (Jn l (0:Nat)):=by
 unfold R6 Jn
 refine (I1q hl (e:=e) (l.length+1) 0 [] (by omega) (Nat.zero_le _) (Nat.zero_le _)).mono (by omega) fun v j h1 h2=>?_
 simp only [C0.bulks] at h2
 omega
end
theorem K1q {p:O0}(h:p.bulk≤80000000):OkP p:=by
 cases p
 simp only [O0.bulk] at h
 exact ⟨by unfold OkD BB; simp only; omega,by unfold OkS BB; simp only; omega⟩
theorem F1n (p:O0):A1g p p=true:=by unfold A1g; rw [W1m,D1c]; rfl
abbrev LxR:=List K0×Int×Int
def lx (r:List UInt8)(k:Nat):LxR:=Wh (r.length+1) r k
def K1t (a:K0)(z:LxR):LxR:=if z.2.2=0 then (a::z.1,0,0) else z
theorem N1f:∀ (n m:Nat) (r:List UInt8) (k:Nat),r.length < n→r.length < m→Wh n r k=Wh m r k
 | 0,_,_,_,h,_=>absurd h (Nat.not_lt_zero _)
 | _+1,0,_,_,_,h=>absurd h (Nat.not_lt_zero _)
 | n+1,m+1,r,k,hn,hm=>by
  unfold Wh
  cases hd:r.drop (skp false r) with
  | nil=>rfl
  | cons c t=>
   have hle:(c::t).length≤r.length:=by rw [← hd,List.length_drop]; omega
   simp only
   by_cases hx:(nxt (c::t) ((k+skp false r:Nat):Int)).2=0
   ·obtain ⟨b1,b2,_,_⟩:=Zj hx
    rw [zp hx,zp hx,N1f n m _ _ (by rw [List.length_drop]; omega) (by rw [List.length_drop]; omega)]
   ·rw [zn hx,zn hx]
theorem M1w {r:List UInt8}(h:r.drop (skp false r)=[])(k:Nat):lx r k=([],0,0):=by
 unfold lx Wh
 rw [h]
theorem S1u {r t:List UInt8}{c:UInt8}(h:r.drop (skp false r)=c::t)(k:Nat)(hx:(nxt (c::t) ((k+skp false r:Nat):Int)).2=0) :
  lx r k=K1t (nxt (c::t) ((k+skp false r:Nat):Int)).1 (lx ((c::t).drop (nxt (c::t) ((k+skp false r:Nat):Int)).1.Text.length) (k+skp false r+(nxt (c::t) ((k+skp false r:Nat):Int)).1.Text.length)):=by
 have hle:(c::t).length≤r.length:=by rw [← h,List.length_drop]; omega
 obtain ⟨b1,b2,_,_⟩:=Zj hx
 have hf:=N1f r.length (((c::t).drop (nxt (c::t) ((k+skp false r:Nat):Int)).1.Text.length).length+1) ((c::t).drop (nxt (c::t) ((k+skp false r:Nat):Int)).1.Text.length) (k+skp false r+(nxt (c::t) ((k+skp false r:Nat):Int)).1.Text.length) (by rw [List.length_drop]; omega) (Nat.lt_succ_self _)
 unfold lx
 rw [Wh]
 rw [h]
 simp only
 rw [zp hx,hf]
 rfl
theorem N1w {r t:List UInt8}{c:UInt8}(h:r.drop (skp false r)=c::t)(k:Nat)(hx:¬(nxt (c::t) ((k+skp false r:Nat):Int)).2=0):lx r k=([],((k+skp false r:Nat):Int),(nxt (c::t) ((k+skp false r:Nat):Int)).2):=by
 unfold lx
 rw [Wh]
 rw [h]
 simp only
 rw [zn hx]
theorem T1u (s:Str):N5 s=if s.length > 8192 then ([],0,5) else lx s 0:=rfl
def brk (d:UInt8):Bool:=!ld d && !(d == 46||d == 61||d == 38||d == 124)
theorem Xn {d:UInt8}(h:brk d=true)(c:UInt8):Vn [c,d]=false:=by
 unfold brk at h
 rw [zqi,Bool.not_eq_true',Bool.not_eq_true',Bool.or_eq_false_iff,Bool.or_eq_false_iff,Bool.or_eq_false_iff] at h
 obtain ⟨_,⟨⟨h1,h2⟩,h3⟩,h4⟩:=h
 have f:∀ a b:UInt8,(d == b)=false→(([c,d]:List UInt8) == [a,b])=false:=fun a b hb=>zqn.2 fun e=>by
  injection e with _ e
  injection e with e _
  rw [e] at hb
  simp at hb
 unfold Vn
 rw [f 46 46 h1,f 61 61 h2,f 33 61 h2,f 60 61 h2,f 62 61 h2,f 38 38 h3,f 124 124 h4]
 rfl
section
variable {l l':List K0}{s:Nat}{w:Bool}{α β:Type}
end
section
variable {l l':List K0}{s:Nat}{w:Bool}{α β:Type}(hl:Ee l)(hl':Ee l')(hs:l.length+s+8≤BB)
include hl hl' hs
end
section
variable {l l':List K0}{s:Nat}{w:Bool}{α β:Type}(hl:Ee l)(hl':Ee l')(hs:l.length+s+8≤BB)
include hl hl' hs
end
section
variable {l l':List K0}{s:Nat}{α β:Type}(hl:Ee l)(hl':Ee l')(hs:l.length+s+8≤BB)
include hl hl' hs
end
def G1n (l:List K0)(e:Int)(v:A0)(j:Nat)(ok:Bool):A0×Int×Int:=
 if ok&&j == l.length then (if Sl v != 0 then ((A0.mk 0 0 [] []),0,Sl v) else (v,0,0)) else (A0.mk 0 0 [] [],off l e j,6)
theorem Q13 (text:Str)(h:(N5 text).2.2=0):∃ v j ok,U1 (N5 text).1 ((0:Nat):Int)=some (v,((j:Nat):Int),ok)∧j≤(N5 text).1.length∧
  E9 text=some (G1n (N5 text).1 (text.length:Int) v j ok)∧OkE (G1n (N5 text).1 (text.length:Int) v j ok).1:=by
 have hz:OkE (A0.mk 0 0 [] []):=by unfold OkE; rw [Lf]; unfold BB; simp
 have x1:=R1k text
 obtain ⟨ht,hlen⟩:=Dx h
 have hb:((N5 text).2.2 != 0)=false:=by rw [h]; rfl
 unfold E9 Mr
 rw [x1,ob]
 simp only [hb,zqa,zw]
 unfold Hh G1n
 rcases (Xr (l:=(N5 text).1) (e:=(text.length:Int)) ht (Nat.zero_le _)).expr with ⟨v,j,h1,h2,h3,h4,h5⟩ | ⟨v,j,h2,h4,h5⟩
 ·have h4':G1 (D0.mk (N5 text).1 0 (text.length:Int))=some (.ok (v,mk (N5 text).1 j (text.length:Int))):=h4
  have hv:OkE v:=by unfold OkE; unfold BE at h3; unfold BB; omega
  refine ⟨v,j,true,h5,h2,?_⟩
  rw [h4',ob]
  simp only [ob,Bool.true_and]
  by_cases hj:j=(N5 text).1.length
  ·have e1:decide ((j:Int) < ((N5 text).1.length:Int))=false:=zqs (by omega)
   have e2:(j == (N5 text).1.length)=true:=by simpa using hj
   rw [e1,zn (by simp),e2]
   simp only [ob,bne_self_eq_false,zqa,zw,zt]
   rw [A1i v hv,ob]
   by_cases hc:(Sl v != 0)=true
   ·exact ⟨by rw [zp hc,zp hc],by rw [zp hc]; exact hz⟩
   ·exact ⟨by rw [zn hc,zn hc],by rw [zn hc]; exact hv⟩
  ·have e1:decide ((j:Int) < ((N5 text).1.length:Int))=true:=zqj (by omega)
   have e2:(j == (N5 text).1.length)=false:=by simpa using hj
   rw [e1,zp rfl,e2,F1c (N5 text).1 _ ht.1,ob]
   exact ⟨rfl,hz⟩
 ·have h4':G1 (D0.mk (N5 text).1 0 (text.length:Int))=some (.pn (off (N5 text).1 (text.length:Int) j)):=h4
  refine ⟨v,j,false,h5,h2,?_⟩
  rw [h4',ob]
  exact ⟨rfl,hz⟩
theorem O1w (r:List UInt8)(k k':Int):nxt r k'=((K0.mk (nxt r k).1.Kind (nxt r k).1.Text k'),(nxt r k).2):=by
 unfold nxt
 split
 ·split
  ·rfl
  ·split <;> rfl
 ·split
  ·rfl
  ·split
   ·rfl
   ·split <;> rfl
theorem X1k {c:UInt8}(h:([46,61,33,60,62,38,124]:List UInt8).contains c=false)(t:List UInt8):Vn (c::t)=false:=by
 have f:∀ a∈([46,61,33,60,62,38,124]:List UInt8),∀ b:UInt8,((c::t) == [a,b])=false:=fun a ha b=>zqn.2 fun e=>by
  injection e with e _
  subst e
  rw [List.contains_iff_mem.2 ha] at h
  cases h
 unfold Vn
 rw [f 46 (by decide),f 61 (by decide),f 33 (by decide),f 60 (by decide),f 62 (by decide),f 38 (by decide),f 124 (by decide)]
 rfl
theorem T1s {c:UInt8}{t:List UInt8}{k:Int}(h:(nxt (c::t) k).2=0)(r:List UInt8):skp false (c::r)=0:=by
 have no:∀ d:UInt8,X6 d.toNat=false→P8 d.toNat=false→([46,61,33,60,62,38,124]:List UInt8).contains d=false→Zw d=false→c=d→False:=fun d h1 h2 h3 h4 e=>by
  subst e
  revert h
  unfold nxt
  simp only [List.getD_cons_zero,h1,h2,h4,zqa,zw]
  have:Vn ((c::t).take 2)=false:=by rw [List.take_succ_cons]; exact X1k h3 _
  rw [this,Bool.and_false,zn (by simp)]
  intro h
  cases h
 have u:∀ d:UInt8,((c.toNat:Int) == (d.toNat:Int))=true→c=d:=fun d h=>UInt8.toNat_inj.1 (by have:=eq_of_beq h; omega)
 simp only [skp]
 by_cases h1:((c.toNat:Int) == 35)=true
 ·exact (no 35 rfl rfl rfl rfl (u 35 h1)).elim
 rw [zn h1]
 by_cases h2:((c.toNat:Int) == 32)=true
 ·exact (no 32 rfl rfl rfl rfl (u 32 h2)).elim
 by_cases h3:((c.toNat:Int) == 9)=true
 ·exact (no 9 rfl rfl rfl rfl (u 9 h3)).elim
 by_cases h4:((c.toNat:Int) == 10)=true
 ·exact (no 10 rfl rfl rfl rfl (u 10 h4)).elim
 rw [zn]
 simp only [Bool.or_eq_true,not_or]
 exact ⟨h2,h3,h4⟩
def key (x:K0):Int×Str:=(x.Kind,x.Text)
theorem W1x {l:List K0}{k:Nat}{x:K0}(h:l[k]?=some x){t:Str}(hn:(x.Text == t)=false):isT l k t=false:=by
 unfold isT
 rw [h]
 simp only [hn,Bool.false_and]
theorem U1s {l:List K0}(hl:Ee l){p q:Nat}{v:A0}(ho:∃ x,l[p]?=some x∧x.Kind=3∧x.Text=[40])(h:U1 l ((p+1:Nat):Int)=some (v,(q:Int),true))(hc:∃ x,l[q]?=some x∧x.Kind=3∧x.Text=[41]) :
  M3 l p=some (v,((q+1:Nat):Int),true):=by
 have hB:=hl.1
 obtain ⟨x,hx,hk,ht⟩:=ho
 obtain ⟨y,hy,hyk,hyt⟩:=hc
 have hp:=Fj hx
 have hq:=Fj hy
 have no:∀ t:Str,(([40]:Str) == t)=false→isT l p t=false:=fun t h=>W1x hx (by rw [ht]; exact h)
 have hop:isT l p [40]=true:=by unfold isT; rw [hx]; simp only [hk,ht]; decide
 have hcl:isT l q [41]=true:=by unfold isT; rw [hy]; simp only [hyk,hyt]; decide
 have pr:F5 l p=some (v,((q+1:Nat):Int),true):=by
  rw [F5]
  simp only [Y0 l hB,ob,no [116,114,117,101] (by decide),no [102,97,108,115,101] (by decide),no [109,105,110] (by decide),no [109,97,120] (by decide),hop,zqg,zt,zqa,zw,zql]
  rw [w1 (by omega),h,ob]
  simp only [zqf,zqg,zt,zql]
  rw [Y0 l hB,ob,hcl]
  simp only [zqf,zqa,zw]
  rw [w1 (by omega)]
 rw [M3]
 simp only [Y0 l hB,ob,no [45] (by decide),no [33] (by decide),zqg,zt,zqk]
 rw [pr,ob]
abbrev zP:O0:=O0.mk [] []
def H1n (l:List K0)(e:Int)(v:O0)(j:Nat)(ok:Bool):O0×Int×Int:=
 if ok&&j == l.length then (if Wf v != 0 then (zP,0,Wf v) else (v,0,0)) else (zP,off l e j,6)
theorem L1q (text:Str)(h:(N5 text).2.2=0):∃ v j ok,Jn (N5 text).1 ((0:Nat):Int)=some (v,((j:Nat):Int),ok)∧j≤(N5 text).1.length∧
  Wi text=some (H1n (N5 text).1 (text.length:Int) v j ok)∧OkP (H1n (N5 text).1 (text.length:Int) v j ok).1:=by
 have hz:OkP zP:=S1v (by decide)
 have x1:=R1k text
 obtain ⟨ht,hlen⟩:=Dx h
 have hb:((N5 text).2.2 != 0)=false:=by rw [h]; rfl
 unfold Wi Im
 rw [x1,ob]
 simp only [hb,zqa,zw]
 unfold Gm H1n
 rcases J1q (l:=(N5 text).1) (e:=(text.length:Int)) ht with ⟨v,j,h1,h2,h3,h4,h5⟩ | ⟨v,j,h2,h4,h5⟩
 ·have h4':R6 (D0.mk (N5 text).1 0 (text.length:Int))=some (.ok (v,mk (N5 text).1 j (text.length:Int))):=h4
  have hv:OkP v:=K1q (by omega)
  refine ⟨v,j,true,h5,h2,?_⟩
  rw [h4',ob]
  simp only [ob,Bool.true_and]
  by_cases hj:j=(N5 text).1.length
  ·have e1:decide ((j:Int) < ((N5 text).1.length:Int))=false:=zqs (by omega)
   have e2:(j == (N5 text).1.length)=true:=by simpa using hj
   rw [e1,zn (by simp),e2]
   simp only [ob,bne_self_eq_false,zqa,zw,zt]
   rw [G1s v hv,ob]
   by_cases hc:(Wf v != 0)=true
   ·exact ⟨by rw [zp hc,zp hc],by rw [zp hc]; exact hz⟩
   ·exact ⟨by rw [zn hc,zn hc],by rw [zn hc]; exact hv⟩
  ·have e1:decide ((j:Int) < ((N5 text).1.length:Int))=true:=zqj (by omega)
   have e2:(j == (N5 text).1.length)=false:=by simpa using hj
   rw [e1,zp rfl,e2,F1c (N5 text).1 _ ht.1,ob]
   exact ⟨rfl,hz⟩
 ·have h4':R6 (D0.mk (N5 text).1 0 (text.length:Int))=some (.pn (off (N5 text).1 (text.length:Int) j)):=h4
  refine ⟨v,j,false,h5,h2,?_⟩
  rw [h4',ob]
  exact ⟨rfl,hz⟩
def tk:Nat→List UInt8→List (Int×Str)×Int
 | 0,_=>([],0)
 | n+1,r=>
  match r.drop (skp false r) with
  | []=>([],0)
  | c::t=>if (nxt (c::t) 0).2=0 then (key (nxt (c::t) 0).1::(tk n ((c::t).drop (nxt (c::t) 0).1.Text.length)).1,(tk n ((c::t).drop (nxt (c::t) 0).1.Text.length)).2) else ([],(nxt (c::t) 0).2)
def txk (r:List UInt8):List (Int×Str)×Int:=tk (r.length+1) r
theorem Y1k:∀ (n m:Nat) (r:List UInt8),r.length < n→r.length < m→tk n r=tk m r
 | 0,_,_,h,_=>absurd h (Nat.not_lt_zero _)
 | _+1,0,_,_,h=>absurd h (Nat.not_lt_zero _)
 | n+1,m+1,r,hn,hm=>by
  unfold tk
  cases hd:r.drop (skp false r) with
  | nil=>rfl
  | cons c t=>
   have hle:(c::t).length≤r.length:=by rw [← hd,List.length_drop]; omega
   simp only
   by_cases hx:(nxt (c::t) 0).2=0
   ·obtain ⟨b1,b2,_,_⟩:=Zj hx
    rw [zp hx,zp hx,Y1k n m _ (by rw [List.length_drop]; omega) (by rw [List.length_drop]; omega)]
   ·rw [zn hx,zn hx]
theorem A11 {r:List UInt8}(h:r.drop (skp false r)=[]):txk r=([],0):=by
 unfold txk tk
 rw [h]
theorem Gx {r t:List UInt8}{c:UInt8}(h:r.drop (skp false r)=c::t)(hx:(nxt (c::t) 0).2=0) :
  txk r=(key (nxt (c::t) 0).1::(txk ((c::t).drop (nxt (c::t) 0).1.Text.length)).1,(txk ((c::t).drop (nxt (c::t) 0).1.Text.length)).2):=by
 have hle:(c::t).length≤r.length:=by rw [← h,List.length_drop]; omega
 obtain ⟨b1,b2,_,_⟩:=Zj hx
 have hf:=Y1k r.length (((c::t).drop (nxt (c::t) 0).1.Text.length).length+1) ((c::t).drop (nxt (c::t) 0).1.Text.length) (by rw [List.length_drop]; omega) (Nat.lt_succ_self _)
 unfold txk
 rw [tk]
 rw [h]
 simp only
 rw [zp hx,hf]
theorem W17 {r t:List UInt8}{c:UInt8}(h:r.drop (skp false r)=c::t)(hx:¬(nxt (c::t) 0).2=0):txk r=([],(nxt (c::t) 0).2):=by
 unfold txk
 rw [tk]
 rw [h]
 simp only
 rw [zn hx]
theorem M1q:∀ (n:Nat) (r:List UInt8) (k:Nat),r.length < n→(lx r k).2.2=(txk r).2∧((txk r).2=0→(lx r k).1.map key=(txk r).1)
 | 0,_,_,h=>absurd h (Nat.not_lt_zero _)
 | n+1,r,k,h=>by
  cases hd:r.drop (skp false r) with
  | nil=>rw [M1w hd,A11 hd]; exact ⟨rfl,fun _=>rfl⟩
  | cons c t=>
   have hlen:(c::t).length=r.length - skp false r:=by rw [← hd,List.length_drop]
   have e:=O1w (c::t) 0 ((k+skp false r:Nat):Int)
   by_cases hx:(nxt (c::t) 0).2=0
   ·have hx':(nxt (c::t) ((k+skp false r:Nat):Int)).2=0:=by rw [e]; exact hx
    obtain ⟨b1,b2,_,_⟩:=Zj hx
    rw [S1u hd k hx',Gx hd hx,e]
    obtain ⟨i1,i2⟩:=M1q n ((c::t).drop (nxt (c::t) 0).1.Text.length) (k+skp false r+(nxt (c::t) 0).1.Text.length) (by rw [List.length_drop]; omega)
    unfold K1t
    simp only
    split
    ·rename_i hz
     rw [i1] at hz
     exact ⟨hz.symm,fun _=>by rw [List.map_cons,i2 hz]; rfl⟩
    ·rename_i hz
     exact ⟨i1,fun h0=>absurd (i1.trans h0) hz⟩
   ·rw [N1w hd k (by rw [e]; exact hx),W17 hd hx,e]
    exact ⟨rfl,fun h0=>absurd h0 hx⟩
def V1d (z:List (Int×Str)):List K0:=z.map fun x=>K0.mk x.1 x.2 0
theorem V1s (z:List (Int×Str)):(V1d z).map key=z:=by
 unfold V1d
 rw [List.map_map]
 exact List.map_id'' (fun x=>rfl) z
theorem Z1k:∀ (n:Nat) (r:List UInt8),r.length < n→r.length≤8192→(∀ x∈V1d (txk r).1,Tok x)∧(txk r).1.length≤r.length
 | 0,_,h,_=>absurd h (Nat.not_lt_zero _)
 | n+1,r,h,h8=>by
  cases hd:r.drop (skp false r) with
  | nil=>rw [A11 hd]; exact ⟨nofun,Nat.zero_le _⟩
  | cons c t=>
   have hlen:(c::t).length=r.length - skp false r:=by rw [← hd,List.length_drop]
   have hl1:(c::t).length=t.length+1:=rfl
   by_cases hx:(nxt (c::t) 0).2=0
   case neg=>rw [W17 hd hx]; exact ⟨nofun,Nat.zero_le _⟩
   obtain ⟨b1,b2,b3,_⟩:=Zj hx
   rw [Gx hd hx]
   obtain ⟨i1,i2⟩:=Z1k n ((c::t).drop (nxt (c::t) 0).1.Text.length) (by rw [List.length_drop]; omega) (by rw [List.length_drop]; omega)
   rw [List.length_drop] at i2
   refine ⟨fun x hm=>?_,by rw [zqd]; omega⟩
   rcases List.mem_cons.1 hm with rfl | hm
   ·have:=U1k (by omega) hx
    exact ⟨this.len,this.word,this.num⟩
   ·exact i1 x hm
def At (C:Int)(l:List K0)(k:Nat)(r:Str):Prop:=(txk r).1=(l.drop k).map key∧(txk r).2=C
theorem N1q {d:UInt8}(h:d=32∨d=9∨d=10)(r:Str):txk (d::r)=txk r:=by
 have hs:skp false (d::r)=skp false r+1:=by rcases h with rfl | rfl | rfl <;> rfl
 have hd:(d::r).drop (skp false (d::r))=r.drop (skp false r):=by rw [hs,List.drop_succ_cons]
 cases hb:r.drop (skp false r) with
 | nil=>rw [A11 hb,A11 (hd.trans hb)]
 | cons c t=>
  by_cases hx:(nxt (c::t) 0).2=0
  ·rw [Gx hb hx,Gx (hd.trans hb) hx]
  ·rw [W17 hb hx,W17 (hd.trans hb) hx]
section
variable {C:Int}{l:List K0}{k:Nat}{r:Str}
theorem At.blank {d:UInt8}(hd:d=32∨d=9∨d=10)(h:At C l k (d::r)):At C l k r:=by
 unfold At at h ⊢
 rw [N1q hd] at h
 exact h
theorem At.sp (h:At C l k (32::r)):At C l k r:=At.blank (.inl rfl) h
theorem At.nl (h:At C l k (10::r)):At C l k r:=At.blank (.inr (.inr rfl)) h
theorem At.tabs:∀ {m:Str},(∀ c∈m,c=9)→At C l k (m++r)→At C l k r
 | [],_,h=>h
 | c::m,hm,h=>by
  have:=hm c zqp
  exact At.tabs (fun c hc=>hm c (zqq _ hc)) (At.blank (.inr (.inl this)) h)
theorem At.tok {w:Str}{kd:Int}(hne:w≠[])(hn:∀ q:Int,nxt (w++r) q=(K0.mk kd w q,0))(h:At C l k (w++r)):∃ x,l[k]?=some x∧x.Kind=kd∧x.Text=w∧At C l (k+1) r:=by
 obtain ⟨h2,h1⟩:=h
 obtain ⟨c,t,rfl⟩:∃ c t,w=c::t:=by
  cases w with
  | nil=>exact absurd rfl hne
  | cons c t=>exact ⟨c,t,rfl⟩
 have hs:skp false (c::t++r)=0:=T1s (k:=0) (t:=t++r) (by rw [← List.cons_append,hn]) (t++r)
 have hd:(c::t++r).drop (skp false (c::t++r))=c::(t++r):=by rw [hs]; rfl
 have e:txk (c::t++r)=((kd,c::t)::(txk r).1,(txk r).2):=by
  have hn':nxt (c::(t++r)) 0=(K0.mk kd (c::t) 0,0):=hn 0
  rw [Gx hd (by rw [hn']),hn']
  simp only
  rw [← List.cons_append,List.drop_left]
  rfl
 rw [e] at h1 h2
 cases hl:l.drop k with
 | nil=>rw [hl] at h2; cases h2
 | cons x y=>
  rw [hl,List.map_cons] at h2
  injection h2 with h4 h5
  injection h4 with h6 h7
  obtain ⟨_,i2,i3,_,_⟩:=I2 hl
  rw [Up] at i2
  exact ⟨x,i2,h6.symm,h7.symm,by rw [i3]; exact h5,h1⟩
theorem W16:∀ {w:Str},(∀ c∈w,ld c=true)→NN ld r→Q8 (w++r)=w.length
 | [],_,hr=>by
  cases r with
  | nil=>rfl
  | cons c r=>have:ld c=false:=hr; simp [Q8,this]
 | c::w,h,hr=>by
  simp only [List.cons_append,Q8,h c zqp,zqk,zqd]
  rw [W16 (fun c hc=>h c (zqq _ hc)) hr]
theorem W1i {w:Str}(h:∀ c∈w,ld c=true)(hh:∃ c t,w=c::t∧X6 c.toNat=true)(hr:NN ld r)(q:Int) :
  nxt (w++r) q=if Er w then (K0.mk 2 w q,0) else if decide ((w.length:Int) > 12) then (K0.mk 0 w q,7) else (K0.mk 0 w q,0):=by
 have h1:=W16 h hr
 have h2:(w++r).take w.length=w:=List.take_left
 obtain ⟨c,t,hc,hl⟩:=hh
 have h3:(w++r).getD 0 0=c:=by rw [hc]; rfl
 unfold nxt
 rw [h1,h2,h3,hl,zp rfl]
def kwB (w:Str):Bool:=w.all ld&&(match w with | c::_=>X6 c.toNat | []=>false)&&Er w
theorem P1w {w:Str}(h:kwB w=true):(∀ c∈w,ld c=true)∧(∃ c t,w=c::t∧X6 c.toNat=true)∧Er w=true:=by
 unfold kwB at h
 rw [zqi,zqi] at h
 refine ⟨List.all_eq_true.1 h.1.1,?_,h.2⟩
 cases w with
 | nil=>exact absurd h.1.2 (by decide)
 | cons c t=>exact ⟨c,t,rfl,h.1.2⟩
theorem O1q {x:K0}(h:l[k]?=some x)(hk:x.Kind=2∨x.Kind=3)(t:Str):isT l k t=(x.Text == t):=by
 unfold isT
 rw [h]
 simp only
 rcases hk with hk | hk <;> rw [hk] <;> cases x.Text == t <;> rfl
theorem At.kw {w:Str}(hw:kwB w=true)(hr:NN ld r)(h:At C l k (w++r)):(∃ x,l[k]?=some x∧x.Kind=2∧x.Text=w)∧At C l (k+1) r:=by
 obtain ⟨h1,h2,h3⟩:=P1w hw
 obtain ⟨x,a,b,c,d⟩:=At.tok (kd:=2) (by obtain ⟨c,t,e,_⟩:=h2; rw [e]; exact List.cons_ne_nil _ _) (fun q=>by rw [W1i h1 h2 hr,h3,zp rfl]) h
 exact ⟨⟨x,a,b,c⟩,d⟩
theorem W1s {w:Str}(h:P3 w=true):¬(w.length:Int) > 12:=by
 unfold P3 at h
 intro hg
 rw [zqs (by omega)] at h
 cases h
theorem At.nm {w:Str}(hw:P3 w=true)(hr:NN ld r)(h:At C l k (w++r)):L3 l k 0=true∧txt l k=w∧At C l (k+1) r:=by
 obtain ⟨h1,h2,h3⟩:=Q1d hw
 have h4:=W1s hw
 obtain ⟨x,a,b,c,d⟩:=At.tok (kd:=0) (by obtain ⟨c,t,e,_⟩:=h2; rw [e]; exact List.cons_ne_nil _ _) (fun q=>by rw [W1i h1 h2 hr,h3,zn (by simp),zqs h4,zn (by simp)]) h
 refine ⟨?_,?_,d⟩
 ·unfold L3; rw [a]; simp only [b]; rfl
 ·unfold txt; rw [a]; exact c
theorem At.s1 {c:UInt8}(hc:(Zw c && !X6 c.toNat && !P8 c.toNat)=true)(ht:Vn ((c::r).take 2)=false)(h:At C l k (c::r)):(∃ x,l[k]?=some x∧x.Kind=3∧x.Text=[c])∧At C l (k+1) r:=by
 rw [zqi,zqi,Bool.not_eq_true',Bool.not_eq_true'] at hc
 obtain ⟨x,a,b,d,e⟩:=At.tok (w:=[c]) (kd:=3) (by simp) (fun q=>by
  unfold nxt
  rw [List.singleton_append,List.getD_cons_zero,hc.1.2,zn (by simp),hc.2,zn (by simp),ht,Bool.and_false,zn (by simp),hc.1.1,zp rfl]) h
 exact ⟨⟨x,a,b,d⟩,e⟩
theorem At.s2 {c d:UInt8}(hc:(!X6 c.toNat && !P8 c.toNat&&Vn [c,d])=true)(h:At C l k (c::d::r)):(∃ x,l[k]?=some x∧x.Kind=3∧x.Text=[c,d])∧At C l (k+1) r:=by
 rw [zqi,zqi,Bool.not_eq_true',Bool.not_eq_true'] at hc
 obtain ⟨x,a,b,d,e⟩:=At.tok (w:=[c,d]) (kd:=3) (by simp) (fun q=>by
  have ht:(decide (2≤([c,d]++r).length)&&Vn (([c,d]++r).take 2))=true:=by
   rw [show ([c,d]++r).take 2=[c,d] from rfl,hc.2,Bool.and_true]
   exact zqj (by simp)
  unfold nxt
  rw [ht,zp rfl,show ([c,d]++r).take 2=[c,d] from rfl,show ([c,d]++r).getD 0 0=c from rfl,hc.1.1,zn (by simp),hc.1.2,zn (by simp)]) h
 exact ⟨⟨x,a,b,d⟩,e⟩
def p1B (c:UInt8):Bool:=Zw c && !X6 c.toNat && !P8 c.toNat && !([46,61,33,60,62,38,124]:List UInt8).contains c
theorem At.p1 {c:UInt8}(hc:p1B c=true)(h:At C l k (c::r)):(∃ x,l[k]?=some x∧x.Kind=3∧x.Text=[c])∧At C l (k+1) r:=by
 unfold p1B at hc
 rw [zqi,Bool.not_eq_true'] at hc
 exact At.s1 hc.1 (by rw [List.take_succ_cons]; exact X1k hc.2 _) h
def Jz (d:UInt8):Bool:=!(d == 46||d == 61||d == 38||d == 124)
theorem P1q {d:UInt8}(h:Jz d=true)(c:UInt8)(t:Str):Vn ((c::d::t).take 2)=false:=by
 unfold Jz at h
 rw [Bool.not_eq_true',Bool.or_eq_false_iff,Bool.or_eq_false_iff,Bool.or_eq_false_iff] at h
 obtain ⟨⟨⟨h1,h2⟩,h3⟩,h4⟩:=h
 have f:∀ a b:UInt8,(d == b)=false→(([c,d]:List UInt8) == [a,b])=false:=fun a b hb=>zqn.2 fun e=>by
  injection e with _ e
  injection e with e _
  rw [e] at hb
  simp at hb
 show Vn [c,d]=false
 unfold Vn
 rw [f 46 46 h1,f 61 61 h2,f 33 61 h2,f 60 61 h2,f 62 61 h2,f 38 38 h3,f 124 124 h4]
 rfl
theorem X1i {c:UInt8}(h:X6 c.toNat=true):Jz c=true:=by
 cases hn:Jz c with
 | true=>rfl
 | false=>
  unfold Jz at hn
  simp only [Bool.not_eq_false',Bool.or_eq_true,beq_iff_eq] at hn
  rcases hn with ((rfl | rfl) | rfl) | rfl <;> exact absurd h (by decide)
theorem At.n1 {c d:UInt8}{t:Str}(hc:(Zw c && !X6 c.toNat && !P8 c.toNat)=true)(hd:Jz d=true)(hr:r=d::t)(h:At C l k (c::r)):(∃ x,l[k]?=some x∧x.Kind=3∧x.Text=[c])∧At C l (k+1) r:=
 At.s1 hc (by rw [hr]; exact P1q hd c t) h
theorem D2 {c:Str}(h:∃ x,l[k]?=some x∧x.Kind=3∧x.Text=c)(t:Str):isT l k t=(c == t):=by
 obtain ⟨x,a,b,d⟩:=h
 rw [O1q a (.inr b),d]
theorem W2 {c:Str}(h:∃ x,l[k]?=some x∧x.Kind=2∧x.Text=c)(t:Str):isT l k t=(c == t):=by
 obtain ⟨x,a,b,d⟩:=h
 rw [O1q a (.inl b),d]
theorem P1 {kd:Int}{c:Str}(h:∃ x,l[k]?=some x∧x.Kind=kd∧x.Text=c):k < l.length:=by
 obtain ⟨x,a,_⟩:=h
 exact Fj a
theorem Y1i {kd:Int}{c:Str}(h:∃ x,l[k]?=some x∧x.Kind=kd∧x.Text=c)(q:Int):L3 l k q=(kd == q):=by
 obtain ⟨x,a,b,_⟩:=h
 unfold L3
 rw [a]
 simp only [b]
theorem U1u (m:Nat):1≤m→((Lib.decDigits m).getD 0 0).toNat≠48:=by
 induction m using Nat.strongRecOn with
 | ind m ih=>
 intro h1
 rw [Lib.decDigits]
 by_cases h:m < 10
 ·rw [dif_pos h]
  show (UInt8.ofNat (48+m)).toNat≠48
  rw [P17 m h]; omega
 ·rw [dif_neg h]
  have i:=ih (m / 10) (by omega) (by omega)
  obtain ⟨_,_,i3⟩:=Ur (m / 10)
  cases hd:Lib.decDigits (m / 10) with
  | nil=>exact absurd hd i3
  | cons c t=>rw [hd] at i; exact i
theorem Q1w {m:Nat}(h:m≤1048576):T1d (Lib.decDigits m)=0∧nv 0 (Lib.decDigits m)=m:=by
 obtain ⟨d1,d2,d3⟩:=Ur m
 have hn:nv 0 (Lib.decDigits m)=m:=d1
 refine ⟨?_,hn⟩
 have ha:(Lib.decDigits m).all (fun c=>P8 c.toNat)=true:=List.all_eq_true.2 d2
 have hz:Ev (Lib.decDigits m)=false:=by
  unfold Ev
  rcases Nat.eq_zero_or_pos m with h0 | h0
  ·subst h0; decide +kernel
  ·have:=U1u m h0
   have h1:((((Lib.decDigits m).getD 0 0).toNat:Int) == 48)=false:=zqn.2 (by omega)
   rw [h1,Bool.and_false]
 unfold T1d
 rw [ha,hz,hn,Q1k h]
 rfl
theorem R1w {c:UInt8}(h:P8 c.toNat=true):X6 c.toNat=false:=by
 have:=Un.1 h
 unfold X6
 rw [zqs (by omega)]
 rfl
theorem At.num {m:Nat}(hm:m≤1048576)(hr:NN ld r)(h:At C l k (Lib.decDigits m++r)):L3 l k 1=true∧C13 l k=m∧At C l (k+1) r:=by
 obtain ⟨d1,d2,d3⟩:=Ur m
 obtain ⟨n1,n2⟩:=Q1w hm
 have hld:∀ c∈Lib.decDigits m,ld c=true:=fun c hc=>by
  have:P8 c.toNat=true:=d2 c hc
  unfold ld
  rw [this]
  cases X6 c.toNat <;> rfl
 obtain ⟨x,a,b,c,d⟩:=At.tok (kd:=1) d3 (fun q=>by
  have h1:=W16 hld hr
  have h2:(Lib.decDigits m++r).take (Lib.decDigits m).length=Lib.decDigits m:=List.take_left
  have h3:∃ c,(Lib.decDigits m++r).getD 0 0=c∧P8 c.toNat=true:=by
   cases hd:Lib.decDigits m with
   | nil=>exact absurd hd d3
   | cons c t=>exact ⟨c,rfl,d2 c (by rw [hd]; exact zqp)⟩
  obtain ⟨c,h4,h5⟩:=h3
  unfold nxt
  rw [h1,h2,h4,R1w h5,zn (by simp),h5,zp rfl,n1]) h
 refine ⟨?_,?_,d⟩
 ·unfold L3; rw [a]; simp only [b]; rfl
 ·unfold C13 txt; rw [a]; simp only [c]; rw [n2]
theorem B11 (h:L3 l k 1=true)(t:Str):isT l k t=false:=by
 cases h':isT l k t with
 | false=>rfl
 | true=>rw [(O7 h').2.1] at h; cases h
theorem At.int (hl:Ee l){n:Int}(h1 : -1048576≤n)(h2:n≤1048576)(hr:NN ld r)(h:At C l k (Lib.itoa n++r)):∃ k',k < k'∧k'≤l.length∧At C l k' r∧H5 l k=some (n,((k':Nat):Int),true):=by
 have hB:=hl.1
 unfold Lib.itoa at h
 by_cases hn:n < 0
 ·rw [zp hn] at h
  obtain ⟨m,hm⟩:∃ m:Nat,n.natAbs=m:=⟨_,rfl⟩
  rw [hm] at h
  obtain ⟨a,b⟩:=At.p1 (by decide) (show At C l k (45::(Lib.decDigits m++r)) from h)
  obtain ⟨c,d,e⟩:=At.num (m:=m) (by omega) hr b
  have hlt:=T6 c
  refine ⟨k+1+1,by omega,by omega,e,?_⟩
  unfold H5
  rw [Y0 l hB,ob,D2 a,zp (by decide),w1 (by omega),Ak l hl,c,zp rfl,ob,d]
  simp only
  rw [wr (by omega) (by omega)]
  congr 2
  omega
 ·rw [zn hn] at h
  obtain ⟨m,hm⟩:∃ m:Nat,n.toNat=m:=⟨_,rfl⟩
  rw [hm] at h
  obtain ⟨c,d,e⟩:=At.num (m:=m) (by omega) hr h
  have hlt:=T6 c
  refine ⟨k+1,by omega,by omega,e,?_⟩
  unfold H5
  rw [Y0 l hB,ob,B11 c,zn (by simp),Ak l hl,c,zp rfl,ob,d]
  simp only
  congr 2
  omega
end
def TPl (l:List K0)(k:Nat):Prop:=isT l k [46]=false∧isT l k [91]=false
def TSt (l:List K0)(k n:Nat):Prop:=TPl l k∧∀ m:Nat,n≤m→m≤5→∃ o,S4 l k m=some (o,false)
def I1n (l:List K0)(k:Nat):Prop:=TSt l k 1∧isT l k [63]=false
theorem TSt.mono {l:List K0}{k n m:Nat}(h:TSt l k n)(hm:n≤m):TSt l k m:=⟨h.1,fun i h1 h2=>h.2 i (by omega) h2⟩
def J1n (t:Str):Bool:=!(t == [46]) && !(t == [91]) && !(t == [63])&&(opT t).2 == 0
theorem Qk {l:List K0}{k:Nat}{t:Str}(h:∃ x,l[k]?=some x∧x.Kind=3∧x.Text=t)(hc:J1n t=true):I1n l k:=by
 unfold J1n at hc
 rw [zqi,zqi,zqi,Bool.not_eq_true',Bool.not_eq_true',Bool.not_eq_true'] at hc
 refine ⟨⟨⟨by rw [D2 h]; exact hc.1.1.1,by rw [D2 h]; exact hc.1.1.2⟩,fun m h1 _=>?_⟩,by rw [D2 h]; exact hc.1.2⟩
 obtain ⟨x,a,b,c⟩:=h
 rw [Ug,a]
 simp only [b,c]
 rw [zp (by decide),eq_of_beq hc.2]
 have:((0:Int) == (m:Int))=false:=zqn.2 (by omega)
 rw [this]
 exact ⟨_,rfl⟩
theorem S1w {l:List K0}{k:Nat}{t:Str}(h:∃ x,l[k]?=some x∧x.Kind=2∧x.Text=t)(hc:J1n t=true):I1n l k:=by
 unfold J1n at hc
 rw [zqi,zqi,zqi,Bool.not_eq_true',Bool.not_eq_true',Bool.not_eq_true'] at hc
 refine ⟨⟨⟨by rw [W2 h]; exact hc.1.1.1,by rw [W2 h]; exact hc.1.1.2⟩,fun m h1 _=>?_⟩,by rw [W2 h]; exact hc.1.2⟩
 obtain ⟨x,a,b,c⟩:=h
 rw [Ug,a]
 simp only [b]
 exact ⟨_,rfl⟩
theorem X1s {l:List K0}{k:Nat}(h:l[k]?=none):I1n l k:=by
 have no:∀ t,isT l k t=false:=fun t=>by unfold isT; rw [h]
 exact ⟨⟨⟨no _,no _⟩,fun m _ _=>by rw [Ug,h]; exact ⟨_,rfl⟩⟩,no _⟩
structure RkE (l:List K0)(e:A0)(k k':Nat):Prop where
 lt:k < k'
 le:k'≤l.length
 lev:∀ n:Nat,1≤n→n≤6→(n:Int)≤lv e.Op→TSt l k' n→J1 l k n=some (e,((k':Nat):Int),true)
 b:∀ n:Nat,1≤n→n≤5→n≠3→(n:Int)≤lv e.Op→TSt l k' (n+1)→J1 l k n=O1 l n e ((k':Nat):Int)
 c:I1n l k'→U1 l k=some (e,((k':Nat):Int),true)
 q:e.place=true→L3 l k 0=true∧T7 l k=C5 l e.Op e.NV e.Name e.Kids ((k':Nat):Int)
structure Rk (C:Int)(l:List K0)(e:A0):Prop where
 rd:∀ k r,NN ld r→At C l k (e.text++r)→∃ k',RkE l e k k'∧At C l k' r
 f:∃ c t,e.text=c::t∧Jz c=true
section
variable {C:Int}{l:List K0}(hl:Ee l)
include hl
theorem A1l {q n:Nat}(e:A0)(hs:TSt l q n)(h5:n≤5):O1 l n e q=some (e,((q:Nat):Int),true):=by
 obtain ⟨o,ho⟩:=hs.2 n (zqr _) h5
 rw [O1,ho,ob]
 rfl
theorem X16 {p q n:Nat}{e:A0}(h:J1 l p ((n+1:Nat):Int)=some (e,((q:Nat):Int),true))(hn:n < 6):J1 l p n=O1 l n e q:=by
 rw [H1c hl p n hn,h,ob]
 rfl
theorem Ir {p q m:Nat}{e:A0}(hm:m≤6)(h:J1 l p m=some (e,((q:Nat):Int),true)):∀ d n:Nat,n+d=m→TSt l q n→J1 l p n=some (e,((q:Nat):Int),true)
 | 0,n,hn,_=>by
  have:n=m:=by omega
  rw [this]; exact h
 | d+1,n,hn,hs=>by
  rw [X16 hl (Ir hm h d (n+1) (by omega) (hs.mono (Nat.le_succ _))) (by omega),A1l hl e hs (by omega)]
theorem toX {p q:Nat}{e:A0}(h:J1 l p ((1:Nat):Int)=some (e,((q:Nat):Int),true))(hs:isT l q [63]=false):U1 l p=some (e,((q:Nat):Int),true):=by
 rw [U1]
 rw [show ((1:Nat):Int)=1 from rfl] at h
 rw [h,ob]
 simp only [zqf,zqg,zt,zql]
 rw [Y0 l hl.1,ob,hs]
 rfl
theorem un6 {p:Nat}{x:A0×Int×Bool}(h:J1 l p ((6:Nat):Int)=some x):M3 l p=some x:=by
 have e:=S17 hl p
 rw [show ((6:Nat):Int)=6 from rfl] at h
 rw [h] at e
 cases hu:M3 l p with
 | none=>rw [hu] at e; cases e
 | some y=>rw [hu,ob] at e; exact e.symm
theorem Z1i {p:Nat}{x:A0×Int×Bool}(h:M3 l p=some x):J1 l p ((6:Nat):Int)=some x:=by
 have e:=S17 hl p
 rw [h,ob] at e
 exact e
theorem RkE.of {e:A0}{k k':Nat}(h1:k < k')(h2:k'≤l.length)(hu:TPl l k'→M3 l k=some (e,((k':Nat):Int),true))(q:e.place=true→L3 l k 0=true∧T7 l k=C5 l e.Op e.NV e.Name e.Kids ((k':Nat):Int)):RkE l e k k':=by
 have lev:∀ n:Nat,1≤n→n≤6→TSt l k' n→J1 l k n=some (e,((k':Nat):Int),true):=fun n h1 h6 hs=>
  Ir hl (zqr _) (Z1i hl (hu hs.1)) (6 - n) n (by omega) hs
 exact ⟨h1,h2,fun n h1 h6 _ hs=>lev n h1 h6 hs,fun n h1 h5 _ _ hs=>X16 hl (lev (n+1) (by omega) (by omega) hs) (by omega),fun hs=>toX hl (lev 1 (by omega) (by omega) hs.1) hs.2,q⟩
theorem Rk.par {e:A0}(h:Rk C l e){n:Nat}{N:Int}(hN:N=n)(h1:1≤n)(h6:n≤6)(k:Nat)(r:Str)(hr:NN ld r)(ha:At C l k (YtmnhfbekncjnfaaGreatDoor.par N (e.Op,e.text)++r)) :
  ∃ k',k < k'∧k'≤l.length∧At C l k' r∧(TSt l k' n→J1 l k n=some (e,((k':Nat):Int),true))∧(n≤5→n≠3→TSt l k' (n+1)→J1 l k n=O1 l n e ((k':Nat):Int)):=by
 unfold YtmnhfbekncjnfaaGreatDoor.par at ha
 cases hd:decide (lv e.Op≥N) with
 | true=>
  rw [hd] at ha
  have:=of_decide_eq_true hd
  obtain ⟨k',a,b⟩:=h.rd k r hr ha
  exact ⟨k',a.lt,a.le,b,fun hs=>a.lev n h1 h6 (by omega) hs,fun h5 h3 hs=>a.b n h1 h5 h3 (by omega) hs⟩
 | false=>
  rw [hd] at ha
  have e1:[40]++e.text++[41]++r=40::(e.text++(41::r)):=by simp
  have ha':At C l k (40::(e.text++(41::r))):=by rw [← e1]; exact ha
  obtain ⟨p1,p2⟩:=At.p1 (by decide) ha'
  obtain ⟨k1,a,b⟩:=h.rd (k+1) (41::r) (by exact rfl) p2
  obtain ⟨q1,q2⟩:=At.p1 (by decide) b
  have hq:=P1 q1
  have hx:=a.c (Qk q1 (by decide))
  have hu:=U1s hl p1 hx q1
  have:=a.lt
  have lev:∀ n:Nat,1≤n→n≤6→TSt l (k1+1) n→J1 l k n=some (e,((k1+1:Nat):Int),true):=fun n h1 h6 hs=>
   Ir hl (zqr _) (Z1i hl hu) (6 - n) n (by omega) hs
  exact ⟨k1+1,by omega,by omega,q2,fun hs=>lev n h1 h6 hs,fun h5 _ hs=>X16 hl (lev (n+1) (by omega) (by omega) hs) (by omega)⟩
theorem Y16 {e:A0}(h:Rk C l e)(N:Int):∃ c t,YtmnhfbekncjnfaaGreatDoor.par N (e.Op,e.text)=c::t∧Jz c=true:=by
 unfold YtmnhfbekncjnfaaGreatDoor.par
 cases decide (lv e.Op≥N) with
 | true=>exact h.f
 | false=>exact ⟨40,_,rfl,by decide⟩
theorem I13 {q:Nat}(hs:TPl l q)(a b:Int)(c:Str)(d:List A0):C5 l a b c d q=some (A0.mk a b c d,((q:Nat):Int),true):=by
 rw [C5]
 simp only [Y0 l hl.1,ob,hs.1,hs.2,zqg,zt,zqa,zw,zql]
theorem A1j {k:Nat}{x:A0×Int×Bool}(hk:L3 l k 0=true)(h:T7 l k=some x):M3 l k=some x:=by
 have hB:=hl.1
 have hf:=V16 hk
 have hd:L3 l k 1=false:=by
  unfold L3 at hk ⊢
  split at hk
  ·rw [eq_of_beq hk]; rfl
  ·rfl
 have pr:F5 l k=some x:=by
  rw [F5]
  simp only [Y0 l hB,ob,hf,zqg,zt,zqa,zw,zql]
  rw [Ak l hl,hd]
  simp only [zqa,zw,ob]
  rw [h,ob]
 rw [M3]
 simp only [Y0 l hB,ob,hf,zqg,zt,zqk]
 rw [pr,ob]
theorem Lv {k:Nat}{x:A0×Int×Bool}(h1:isT l k [45]=false)(h2:isT l k [33]=false)(h:F5 l k=some x):M3 l k=some x:=by
 rw [M3]
 simp only [Y0 l hl.1,ob,h1,h2,zqg,zt,zqk]
 rw [h,ob]
theorem RkE.place {e:A0}{k k':Nat}(h1:k < k')(h2:k'≤l.length)(hk:L3 l k 0=true)(h:T7 l k=C5 l e.Op e.NV e.Name e.Kids ((k':Nat):Int)):RkE l e k k':=by
 refine RkE.of hl h1 h2 (fun hs=>A1j hl hk ?_) fun _=>⟨hk,h⟩
 rw [h,I13 hl hs]
 cases e
 rfl
theorem At.sign {k:Nat}{r:Str}{o:Int}(h:8≤o)(h':o≤20)(ha:At C l k (YtmnhfbekncjnfaaGreatDoor.sign o++32::r)):(∃ x,l[k]?=some x∧x.Kind=3∧x.Text=YtmnhfbekncjnfaaGreatDoor.sign o)∧At C l (k+1) (32::r):=by
 rcases Tl h h' with rfl | rfl | rfl | rfl | rfl | rfl | rfl | rfl | rfl | rfl | rfl | rfl | rfl
 ·exact At.s1 (c:=43) (by decide) (Xn (by decide) _) ha
 ·exact At.s1 (c:=45) (by decide) (Xn (by decide) _) ha
 ·exact At.s1 (c:=42) (by decide) (Xn (by decide) _) ha
 ·exact At.s1 (c:=47) (by decide) (Xn (by decide) _) ha
 ·exact At.s1 (c:=37) (by decide) (Xn (by decide) _) ha
 ·exact At.s2 (c:=61) (d:=61) (by decide) ha
 ·exact At.s2 (c:=33) (d:=61) (by decide) ha
 ·exact At.s1 (c:=60) (by decide) (Xn (by decide) _) ha
 ·exact At.s2 (c:=60) (d:=61) (by decide) ha
 ·exact At.s1 (c:=62) (by decide) (Xn (by decide) _) ha
 ·exact At.s2 (c:=62) (d:=61) (by decide) ha
 ·exact At.s2 (c:=38) (d:=38) (by decide) ha
 ·exact At.s2 (c:=124) (d:=124) (by decide) ha
theorem V1u {o:Int}(h:8≤o)(h':o≤20):opT (YtmnhfbekncjnfaaGreatDoor.sign o)=(o,lv o)∧(YtmnhfbekncjnfaaGreatDoor.sign o == [46])=false∧(YtmnhfbekncjnfaaGreatDoor.sign o == [91])=false:=by
 rcases Tl h h' with rfl | rfl | rfl | rfl | rfl | rfl | rfl | rfl | rfl | rfl | rfl | rfl | rfl
 all_goals decide
theorem Rk.bin {o:Int}{a b:A0}(h:8≤o)(h':o≤20)(ha:Rk C l a)(hb:Rk C l b):Rk C l (.mk o 0 [] [a,b]):=by
 have hB:=hl.1
 obtain ⟨L,m,e1,e2,h1,hlm,h5⟩:=E1x h h'
 have hm3:m≠3:=by
  intro hm
  rw [hm] at e2
  cases h3:lv o == 3 with
  | true=>rw [h3] at e2; simp at e2
  | false=>rw [h3] at e2; have:lv o=3:=e2; rw [this] at h3; simp at h3
 have hL3:L=3→m=4:=fun hL=>by
  have:lv o=3:=by rw [e1,hL]; rfl
  rw [this] at e2
  simp at e2
  omega
 have hLm:L≠3→m=L:=fun hL=>by
  have:(lv o == 3)=false:=zqn.2 (by omega)
  rw [this] at e2
  simp at e2
  omega
 refine ⟨fun k r hr hA=>?_,?_⟩
 ·rw [V12 a b h h'] at hA
  have ea:YtmnhfbekncjnfaaGreatDoor.par (bif lv o == 3 then 4 else lv o) (a.Op,a.text)++([32]++YtmnhfbekncjnfaaGreatDoor.sign o++[32])++YtmnhfbekncjnfaaGreatDoor.par (lv o+1) (b.Op,b.text)++r
    = YtmnhfbekncjnfaaGreatDoor.par (bif lv o == 3 then 4 else lv o) (a.Op,a.text)++(32::(YtmnhfbekncjnfaaGreatDoor.sign o++32::(YtmnhfbekncjnfaaGreatDoor.par (lv o+1) (b.Op,b.text)++r))):=by simp
  rw [ea] at hA
  obtain ⟨k1,p1,p2,p3,p4,p5⟩:=ha.par hl (n:=m) e2 (by omega) (by omega) k _ (by exact rfl) hA
  obtain ⟨q1,q2⟩:=At.sign hl h h' (At.sp p3)
  have hk1:=P1 q1
  obtain ⟨k',r1,r2,r3,r4,r5⟩:=hb.par hl (n:=L+1) (by omega) (by omega) (by omega) (k1+1) r hr (At.sp q2)
  obtain ⟨s1,s2,s3⟩:=V1u hl h h'
  have hbin:∀ n:Nat,S4 l k1 n=some (o,((L:Int) == (n:Int))):=fun n=>by
   obtain ⟨x,a1,a2,a3⟩:=q1
   rw [Ug,a1]
   simp only [a2,a3,s1,e1]
   rfl
  have st1:TSt l k1 (L+1):=⟨⟨by rw [D2 q1]; exact s2,by rw [D2 q1]; exact s3⟩,fun i i1 _=>⟨o,by rw [hbin]; rw [zqn.2 (by omega)]⟩⟩
  have step:TSt l k' (L+1)→O1 l L a k1=if (L:Int)=3 then some (A0.mk o 0 [] [a,b],((k':Nat):Int),true) else O1 l L (A0.mk o 0 [] [a,b]) ((k':Nat):Int):=fun hs=>by
   rw [O1,hbin,ob]
   simp only [zqm,zqf,zqa,zw]
   rw [w1 (by omega),w1 (by unfold BB; omega),r4 hs,ob]
   simp only [zqf,zqa,zw,Ax,ob]
   by_cases h3:(L:Int)=3
   ·rw [zp h3,zp (by simpa using h3)]
   ·rw [zn h3,zn (by simpa using h3)]
  have first:J1 l k L=O1 l L a k1:=by
   by_cases h3:L=3
   ·have hm4:=hL3 h3
    subst h3
    refine X16 hl ?_ (by omega)
    rw [hm4] at p4
    exact p4 st1
   ·rw [hLm h3] at p5
    exact p5 (by omega) h3 st1
  have bL:L≠3→TSt l k' (L+1)→J1 l k L=O1 l L (A0.mk o 0 [] [a,b]) ((k':Nat):Int):=fun h3 hs=>by
   rw [first,step hs,zn (by omega)]
  have levL:TSt l k' L→J1 l k L=some (A0.mk o 0 [] [a,b],((k':Nat):Int),true):=fun hs=>by
   by_cases h3:L=3
   ·rw [first,step (hs.mono (Nat.le_succ _)),zp (by omega)]
   ·rw [bL h3 (hs.mono (Nat.le_succ _)),A1l hl _ hs (by omega)]
  have lev:∀ n:Nat,1≤n→n≤L→TSt l k' n→J1 l k n=some (A0.mk o 0 [] [a,b],((k':Nat):Int),true):=fun n h1 h2 hs=>
   Ir hl (by omega) (levL (hs.mono h2)) (L - n) n (by omega) hs
  have hop:(A0.mk o 0 [] [a,b]).Op=o:=rfl
  refine ⟨k',⟨by omega,r2,fun n h1 h6 hn hs=>lev n h1 (by rw [hop] at hn; omega) hs,fun n h1 h5 h3 hn hs=>?_,fun hs=>toX hl (lev 1 (by omega) (by omega) hs.1) hs.2,fun hp=>absurd hp (fun hp=>E1u h _ _ _ hp)⟩,r3⟩
  rw [hop] at hn
  by_cases hnL:n=L
  ·subst hnL; exact bL h3 hs
  ·exact X16 hl (lev (n+1) (by omega) (by omega) hs) (by omega)
 ·rw [V12 a b h h']
  obtain ⟨c,t,hc,hn⟩:=Y16 hl ha (bif lv o == 3 then 4 else lv o)
  exact ⟨c,_,by rw [hc]; rfl,hn⟩
theorem B1l {a b:A0}(ha:Rk C l a)(hb:Rk C l b){k:Nat}{r:Str}(o:Int)(hk:k < l.length)(h:At C l (k+1) (40::(a.text++[44,32]++b.text++[41]++r))) :
  ∃ k',k < k'∧k'≤l.length∧At C l k' r∧Ce l k o=some (⟨o,0,[],[a,b]⟩,((k':Nat):Int),true):=by
 have hB:=hl.1
 have e1:a.text++[44,32]++b.text++[41]++r=a.text++(44::(32::(b.text++(41::r)))):=by simp
 rw [e1] at h
 obtain ⟨p1,p2⟩:=At.p1 (by decide) h
 obtain ⟨k1,q1,q2⟩:=ha.rd (k+1+1) _ (by exact rfl) p2
 obtain ⟨r1,r2⟩:=At.p1 (by decide) q2
 obtain ⟨k2,s1,s2⟩:=hb.rd (k1+1) _ (by exact rfl) (At.sp r2)
 obtain ⟨t1,t2⟩:=At.p1 (by decide) s2
 have hp:=P1 p1
 have hr:=P1 r1
 have ht:=P1 t1
 have:=q1.lt
 have:=s1.lt
 refine ⟨k2+1,by omega,by omega,t2,?_⟩
 rw [Ce,w1 (by omega),Y0 l hB,ob,D2 p1,wr (n:=(k:Int)+2) (by omega) (by unfold BB at hB; omega),show (k:Int)+2=((k+1+1:Nat):Int) by omega,q1.c (Qk r1 (by decide))]
 simp only [zqm,zqf,zqa,zw,ob,zqg,zt,zql]
 rw [Y0 l hB,ob,D2 r1,w1 (by omega),s1.c (Qk t1 (by decide))]
 simp only [zqm,zqf,zqa,zw,ob,zqg,zt,zql]
 rw [Y0 l hB,ob,D2 t1]
 simp only [zqm,zqf,zqa,zw,Ax,ob]
 rw [w1 (by omega)]
theorem Kn (e:A0):Vr e→Rk C l e:=by
 have hB:=hl.1
 induction e using A0.ind with
 | h e ih=>
 intro hf
 have ih':=fun k hk=>ih k hk (hf.kid hk)
 have hnm:=hf.n
 rw [A0.all_eq,zqi] at hnm
 have hfo:=hf.f.form
 rw [A0.all_eq,zqi] at hfo
 have h2:=hf.f.numb
 rw [A0.all_eq,zqi] at h2
 cases hf.f.shape with
 | lit n=>
  have h0:0≤n∧n≤1048576:=by
   have h3:=h2.1
   unfold I5 A2 at h3
   simp at h3
   omega
  obtain ⟨m,rfl⟩:∃ m:Nat,n=m:=⟨n.toNat,by omega⟩
  obtain ⟨d1,d2,d3⟩:=Ur m
  have ht:(A0.mk 0 (m:Int) [] []).text=Lib.decDigits m:=by
   show Lib.itoa (m:Int)=_
   unfold Lib.itoa
   rw [zn (by omega)]
   rfl
  refine ⟨fun k r hr hA=>?_,?_⟩
  ·rw [ht] at hA
   obtain ⟨a,b,c⟩:=At.num (by omega) hr hA
   have hlt:=T6 a
   refine ⟨k+1,RkE.of hl (by omega) (by omega) (fun _=>Lv hl (B11 a _) (B11 a _) ?_) (fun hp=>by cases hp),c⟩
   rw [F5]
   simp only [Y0 l hB,ob,B11 a,zqg,zt,zqa,zw,zql]
   rw [Ak l hl,a,zp rfl,ob,b]
   rfl
  ·rw [ht]
   cases hd:Lib.decDigits m with
   | nil=>exact absurd hd d3
   | cons c t=>
    refine ⟨c,t,rfl,?_⟩
    have hc:P8 c.toNat=true:=d2 c (by rw [hd]; exact zqp)
    cases hn:Jz c with
    | true=>rfl
    | false=>
     unfold Jz at hn
     simp only [Bool.not_eq_false',Bool.or_eq_true,beq_iff_eq] at hn
     rcases hn with ((rfl | rfl) | rfl) | rfl <;> exact absurd hc (by decide)
 | tt=>
  refine ⟨fun k r hr hA=>?_,116,_,rfl,by decide⟩
  obtain ⟨a,b⟩:=At.kw (w:=[116,114,117,101]) (by decide +kernel) hr hA
  have hlt:=P1 a
  refine ⟨k+1,RkE.of hl (by omega) (by omega) (fun _=>Lv hl (by rw [W2 a]; rfl) (by rw [W2 a]; rfl) ?_) (fun hp=>by cases hp),b⟩
  rw [F5,Y0 l hB,ob,W2 a,zp (by decide),w1 (by omega)]
 | ff=>
  refine ⟨fun k r hr hA=>?_,102,_,rfl,by decide⟩
  obtain ⟨a,b⟩:=At.kw (w:=[102,97,108,115,101]) (by decide +kernel) hr hA
  have hlt:=P1 a
  refine ⟨k+1,RkE.of hl (by omega) (by omega) (fun _=>Lv hl (by rw [W2 a]; rfl) (by rw [W2 a]; rfl) ?_) (fun hp=>by cases hp),b⟩
  rw [F5,Y0 l hB,ob,W2 a,zn (by decide),Y0 l hB,ob,W2 a,zp (by decide),w1 (by omega)]
 | name nm=>
  have hn:P3 nm=true:=hnm.1
  obtain ⟨_,⟨c,t,hc,hlo⟩,_⟩:=Q1d hn
  refine ⟨fun k r hr hA=>?_,c,t,hc,X1i hlo⟩
  obtain ⟨a,b,d⟩:=At.nm hn hr (show At C l k (nm++r) from hA)
  have hlt:=T6 a
  refine ⟨k+1,RkE.place hl (by omega) (by omega) a ?_,d⟩
  rw [T7,D7 l hB,a,zp rfl,ob,b]
  rfl
 | field nm e=>
  have he:=ih' e (by simp)
  have hpk:e.place=true:=by
   have h4:=hfo.1
   simp only [A4,ef4,zqi] at h4
   have h5:=h4.2
   rw [A0.place_eq] at h5
   exact h5
  have hn:P3 nm=true:=hnm.1
  obtain ⟨_,⟨c,t,hc,hlo⟩,_⟩:=Q1d hn
  have ht:(A0.mk 4 0 nm [e]).text=e.text++([46]++nm):=rfl
  refine ⟨fun k r hr hA=>?_,?_⟩
  ·rw [ht,List.append_assoc,List.append_assoc] at hA
   obtain ⟨k1,a,b⟩:=he.rd k _ (by exact rfl) hA
   obtain ⟨p1,p2⟩:=At.n1 (c:=46) (r:=nm++r) (d:=c) (t:=t++r) (by decide) (X1i hlo) (by rw [hc]; rfl) b
   obtain ⟨q1,q2,q3⟩:=At.nm hn hr p2
   have hp:=P1 p1
   have hq:=T6 q1
   have:=a.lt
   obtain ⟨m1,m2⟩:=a.q hpk
   refine ⟨k1+1+1,RkE.place hl (by omega) (by omega) m1 ?_,q3⟩
   rw [m2,C5,Y0 l hB,ob,D2 p1]
   simp only [zqm,zqf,zqa,zw,ob,zqk,zt]
   rw [w1 (by omega),D7 l hB,q1,zp rfl,ob,q2]
   cases e
   rfl
  ·obtain ⟨c,t,hc,hn⟩:=he.f
   exact ⟨c,_,by rw [ht,hc]; rfl,hn⟩
 | index x y=>
  have hx:=ih' x (by simp)
  have hy:=ih' y (by simp)
  have hpk:x.place=true:=by
   have h4:=hfo.1
   simp only [A4,ef4,zqi] at h4
   have h5:=h4.2
   rw [A0.place_eq] at h5
   exact h5
  have ht:(A0.mk 5 0 [] [x,y]).text=x.text++[91]++y.text++[93]:=rfl
  refine ⟨fun k r hr hA=>?_,?_⟩
  ·have e1:x.text++[91]++y.text++[93]++r=x.text++(91::(y.text++(93::r))):=by simp
   rw [ht,e1] at hA
   obtain ⟨k1,a,b⟩:=hx.rd k _ (by exact rfl) hA
   obtain ⟨p1,p2⟩:=At.p1 (by decide) b
   obtain ⟨k2,c,d⟩:=hy.rd (k1+1) _ (by exact rfl) p2
   obtain ⟨q1,q2⟩:=At.p1 (by decide) d
   have hp:=P1 p1
   have hq:=P1 q1
   have:=a.lt
   have:=c.lt
   obtain ⟨m1,m2⟩:=a.q hpk
   refine ⟨k2+1,RkE.place hl (by omega) (by omega) m1 ?_,q2⟩
   have n46:isT l k1 [46]=false:=by rw [D2 p1]; rfl
   rw [m2,C5,Y0 l hB,ob,n46]
   simp only [zqg,zt,zql]
   rw [Y0 l hB,ob,D2 p1]
   simp only [zqm,zt]
   rw [ob,zn (by simp),w1 (by omega),c.c (Qk q1 (by decide)),ob]
   simp only [zqf,zqg,zt,zql]
   rw [Y0 l hB,ob,D2 q1]
   simp only [zqm,zqf,zqa,zw,Ax,ob]
   rw [w1 (by omega)]
   cases x
   rfl
  ·obtain ⟨c,t,hc,hn⟩:=hx.f
   exact ⟨c,_,by rw [ht,hc]; rfl,hn⟩
 | neg e=>
  have he:=ih' e (by simp)
  have ht:(A0.mk 6 0 [] [e]).text=45::YtmnhfbekncjnfaaGreatDoor.par 6 (e.Op,e.text):=rfl
  refine ⟨fun k r hr hA=>?_,45,_,ht,by decide⟩
  rw [ht,List.cons_append] at hA
  obtain ⟨p1,p2⟩:=At.p1 (by decide) hA
  obtain ⟨k',a1,a2,a3,a4,_⟩:=he.par hl (n:=6) rfl (by decide) (by decide) (k+1) r hr p2
  have hp:=P1 p1
  refine ⟨k',RkE.of hl (by omega) a2 (fun hs=>?_) (fun hp=>by cases hp),a3⟩
  have hu:=un6 hl (a4 ⟨hs,fun m h1 h2=>by omega⟩)
  rw [M3,Y0 l hB,ob,D2 p1]
  simp only [zqm,zqf,zqa,zw,ob,zql]
  rw [Y0 l hB,ob,D2 p1,zn (by decide),Fg,w1 (by omega),hu,ob]
  rfl
 | not e=>
  have he:=ih' e (by simp)
  have ht:(A0.mk 7 0 [] [e]).text=33::YtmnhfbekncjnfaaGreatDoor.par 6 (e.Op,e.text):=rfl
  refine ⟨fun k r hr hA=>?_,33,_,ht,by decide⟩
  rw [ht,List.cons_append] at hA
  obtain ⟨c,t,hc,hn⟩:=Y16 hl he 6
  obtain ⟨p1,p2⟩:=At.n1 (c:=33) (d:=c) (t:=t++r) (by decide) hn (by rw [hc]; rfl) hA
  obtain ⟨k',a1,a2,a3,a4,_⟩:=he.par hl (n:=6) rfl (by decide) (by decide) (k+1) r hr p2
  have hp:=P1 p1
  refine ⟨k',RkE.of hl (by omega) a2 (fun hs=>?_) (fun hp=>by cases hp),a3⟩
  have hu:=un6 hl (a4 ⟨hs,fun m h1 h2=>by omega⟩)
  have n45:isT l k [45]=false:=by rw [D2 p1]; rfl
  rw [M3,Y0 l hB,ob,n45]
  simp only [zqg,zt,zqk]
  rw [Y0 l hB,ob,D2 p1]
  simp only [zqm,zqf,zqa,zw]
  rw [ob,zp rfl,Fg,w1 (by omega),hu,ob]
  rfl
 | bin o x y h h'=>exact Rk.bin hl h h' (ih' x (by simp)) (ih' y (by simp))
 | min x y=>
  have hx:=ih' x (by simp)
  have hy:=ih' y (by simp)
  refine ⟨fun k r hr hA=>?_,109,_,rfl,by decide⟩
  have ht:(A0.mk 21 0 [] [x,y]).text++r=[109,105,110]++(40::(x.text++[44,32]++y.text++[41]++r)):=by
   show ([109,105,110,40]++x.text++[44,32]++y.text++[41])++r=_
   simp
  rw [ht] at hA
  obtain ⟨a,b⟩:=At.kw (w:=[109,105,110]) (by decide +kernel) (by exact rfl) hA
  have hlt:=P1 a
  obtain ⟨k',p1,p2,p3,p4⟩:=B1l hl hx hy 21 hlt b
  refine ⟨k',RkE.of hl p1 p2 (fun _=>Lv hl (by rw [W2 a]; rfl) (by rw [W2 a]; rfl) ?_) (fun hp=>by cases hp),p3⟩
  rw [F5]
  simp only [Y0 l hB,ob,W2 a]
  rw [zn (by decide),zn (by decide),zn (by decide),ob,zp (by decide),Fk,Y0 l hB,ob,W2 a,zn (by decide),p4,ob]
 | max x y=>
  have hx:=ih' x (by simp)
  have hy:=ih' y (by simp)
  refine ⟨fun k r hr hA=>?_,109,_,rfl,by decide⟩
  have ht:(A0.mk 22 0 [] [x,y]).text++r=[109,97,120]++(40::(x.text++[44,32]++y.text++[41]++r)):=by
   show ([109,97,120,40]++x.text++[44,32]++y.text++[41])++r=_
   simp
  rw [ht] at hA
  obtain ⟨a,b⟩:=At.kw (w:=[109,97,120]) (by decide +kernel) (by exact rfl) hA
  have hlt:=P1 a
  obtain ⟨k',p1,p2,p3,p4⟩:=B1l hl hx hy 22 hlt b
  refine ⟨k',RkE.of hl p1 p2 (fun _=>Lv hl (by rw [W2 a]; rfl) (by rw [W2 a]; rfl) ?_) (fun hp=>by cases hp),p3⟩
  rw [F5]
  simp only [Y0 l hB,ob,W2 a]
  rw [zn (by decide),zn (by decide),zp (by decide),ob,zp (by decide),Fk,Y0 l hB,ob,W2 a,zp (by decide),p4,ob]
 | cond x y z=>
  have hx:=ih' x (by simp)
  have hy:=ih' y (by simp)
  have hz:=ih' z (by simp)
  refine ⟨fun k r hr hA=>?_,?_⟩
  ·have ht:(A0.mk 23 0 [] [x,y,z]).text++r=YtmnhfbekncjnfaaGreatDoor.par 1 (x.Op,x.text)++(32::63::32::(y.text++(32::58::32::(z.text++r)))):=by
    show YtmnhfbekncjnfaaGreatDoor.par 1 (x.Op,x.text)++[32,63,32]++y.text++[32,58,32]++z.text++r=_
    simp
   rw [ht] at hA
   obtain ⟨k1,a1,a2,a3,a4,_⟩:=hx.par hl (n:=1) rfl (by decide) (by decide) k _ (by exact rfl) hA
   obtain ⟨p1,p2⟩:=At.p1 (by decide) (At.sp a3)
   obtain ⟨k2,b1,b2⟩:=hy.rd (k1+1) _ (by exact rfl) (At.sp p2)
   obtain ⟨q1,q2⟩:=At.p1 (by decide) (At.sp b2)
   obtain ⟨k3,c1,c2⟩:=hz.rd (k2+1) _ hr (At.sp q2)
   have hp:=P1 p1
   have hq:=P1 q1
   have:=b1.lt
   have:=c1.lt
   have st1:TSt l k1 1:=by
    refine ⟨⟨by rw [D2 p1]; rfl,by rw [D2 p1]; rfl⟩,fun m m1 _=>?_⟩
    obtain ⟨t,u1,u2,u3⟩:=p1
    rw [Ug,u1]
    simp only [u2,u3]
    rw [zp (by decide),show opT [63]=(0,0) by decide]
    have:((0:Int) == (m:Int))=false:=zqn.2 (by omega)
    rw [this]
    exact ⟨_,rfl⟩
   have lv0:lv 23=0:=rfl
   have hop:(A0.mk 23 0 [] [x,y,z]).Op=23:=rfl
   refine ⟨k3,⟨by omega,c1.le,fun n h1 _ hn=>by rw [hop] at hn; omega,fun n h1 _ _ hn=>by rw [hop] at hn; omega,fun hs=>?_,fun hp=>by cases hp⟩,c2⟩
   rw [U1]
   have e1:=a4 st1
   rw [show ((1:Nat):Int)=1 from rfl] at e1
   rw [e1,ob]
   simp only [zqf,zqg,zt,zql]
   rw [Y0 l hB,ob,D2 p1]
   simp only [zqm,zqf,zqa,zw]
   rw [w1 (by omega),b1.c (Qk q1 (by decide)),ob]
   simp only [zqf,zqa,zw]
   rw [Y0 l hB,ob,D2 q1]
   simp only [zqm,zqf,zqa,zw]
   rw [w1 (by omega),c1.c hs,ob]
   rfl
  ·obtain ⟨c,t,hc,hn⟩:=Y16 hl hx 1
   refine ⟨c,t++([32,63,32]++y.text++[32,58,32]++z.text),?_,hn⟩
   show YtmnhfbekncjnfaaGreatDoor.par 1 (x.Op,x.text)++[32,63,32]++y.text++[32,58,32]++z.text=_
   rw [hc]
   simp
end
structure Vg (t:E0):Prop where
 f:Sr t
 n:t.all Ci=true
theorem Vg.kid {t k:E0}(h:Vg t)(hk:k∈t.Of):Vg k:=by
 have h1:=h.n
 rw [E0.all_eq,zqi] at h1
 exact ⟨h.f.kid hk,E0.alls_mem h1.2 hk⟩
theorem Vg.names {t:E0}(h:Vg t):(t.Kind=4→P3 t.Name=true)∧∀ s∈t.Names,P3 s=true:=by
 have h1:=h.n
 rw [E0.all_eq,zqi] at h1
 have h2:=h1.1
 unfold Ci na1 at h2
 rw [zqi] at h2
 refine ⟨fun hk=>?_,List.all_eq_true.1 h2.2⟩
 have h3:=h2.1
 rw [hk] at h3
 exact h3
theorem Vg.nums {t:E0}(h:Vg t):(t.Kind=1→(-1048576≤t.Low∧t.Low≤1048576)∧-1048576≤t.High∧t.High≤1048576)∧(t.Kind=2→1≤t.Size∧t.Size≤32):=by
 have h1:=h.f.numb
 rw [E0.all_eq,zqi] at h1
 have h2:=h1.1
 unfold Rl nm1 nm2 at h2
 rw [zqi] at h2
 constructor
 ·intro hk
  have h3:=h2.2
  rw [hk] at h3
  simp [A2] at h3
  omega
 ·intro hk
  have h3:=h2.1
  rw [hk] at h3
  simp [A2] at h3
  omega
def RT (C:Int)(l:List K0)(t:E0):Prop:=∀ k r,NN ld r→At C l k (t.text++r)→∃ k',k < k'∧k'≤l.length∧At C l k' r∧Gc l k=some (t,((k':Nat):Int),true)
section
variable {C:Int}{l:List K0}(hl:Ee l)
include hl
theorem Q1q:∀ (ks:List E0) (ns:List Str),(∀ t∈ks,RT C l t)→(∀ s∈ns,P3 s=true)→ns.length=ks.length→ks≠[]→∀ (a:List Str) (b:List E0) (k:Nat) (r:Str),k < l.length→a.length≤k→b.length≤k→At C l (k+1) (R8 true ns (E0.texts ks)++125::r)→
  ∃ k',k < k'∧k'≤l.length∧At C l k' r∧Pa l a b k=some (E0.mk 3 0 0 0 [] (a++ns) (b++ks),((k':Nat):Int),true)
 | [],_,_,_,_,h,_,_,_,_,_,_,_,_=>absurd rfl h
 | _::_,[],_,_,h,_,_,_,_,_,_,_,_,_=>by cases h
 | t::ks,n::ns,ht,hn,hlen,_,a,b,k,r,hk,ha,hb,hA=>by
  have hB:=hl.1
  have e1:R8 true (n::ns) (E0.texts (t::ks))++125::r=n++(58::32::(t.text++(R8 false ns (E0.texts ks)++125::r))):=by
   rw [Ko]; simp
  rw [e1] at hA
  obtain ⟨p1,p2,p3⟩:=At.nm (hn n zqp) (by exact rfl) hA
  obtain ⟨q1,q2⟩:=At.p1 (by decide) p3
  have hnn:NN ld (R8 false ns (E0.texts ks)++125::r):=by
   cases ns with
   | nil=>exact rfl
   | cons m ns=>cases ks with
    | nil=>exact rfl
    | cons t' ks=>rw [Ko]; exact rfl
  obtain ⟨k2,s1,s2,s3,s4⟩:=ht t zqp (k+1+1+1) _ hnn (At.sp q2)
  have hp:=T6 p1
  have hq:=P1 q1
  have r1:decide ((a.length+1) * 17≤140737488355328)=true:=zqj (by unfold BB at hB; omega)
  have r2:decide ((b.length+1) * 97≤140737488355328)=true:=zqj (by unfold BB at hB; omega)
  have par:T5 l ((k+1:Nat):Int)=some (C0.mk 4 n t 0 (A0.mk 0 0 [] []) [] [] [],((k2:Nat):Int),true):=by
   rw [T5,D7 l hB,p1,zp rfl,ob]
   simp only [zqf,zqg,zt,zql]
   rw [Y0 l hB,ob,D2 q1]
   simp only [zqm,zqf,zqa,zw]
   rw [w1 (by omega),s4,ob,p2]
  cases ks with
  | nil=>
   have hns:ns=[]:=by simpa using hlen
   subst hns
   obtain ⟨u1,u2⟩:=At.p1 (by decide) (show At C l k2 (125::r) from s3)
   have hu:=P1 u1
   refine ⟨k2+1,by omega,by omega,u2,?_⟩
   rw [Pa,w1 (by omega),par,ob]
   simp only [r1,r2,zqf,zqa,zw,zt]
   rw [Y0 l hB,ob,D2 u1]
   simp only [zqm,zt]
   rw [w1 (by omega)]
  | cons t' ks=>
   cases ns with
   | nil=>simp at hlen
   | cons n' ns=>
    have e2:R8 false (n'::ns) (E0.texts (t'::ks))++125::r=44::32::(R8 true (n'::ns) (E0.texts (t'::ks))++125::r):=by
     rw [Ko,Ko]; simp
    rw [e2] at s3
    obtain ⟨u1,u2⟩:=At.p1 (by decide) s3
    have hu:=P1 u1
    obtain ⟨k',v1,v2,v3,v4⟩:=Q1q (t'::ks) (n'::ns) (fun t h=>ht t (zqq _ h)) (fun s h=>hn s (zqq _ h)) (by simpa using hlen) (List.cons_ne_nil _ _) (a++[n]) (b++[t]) k2 r hu (by rw [zqc]; simp only [List.length_singleton]; omega) (by rw [zqc]; simp only [List.length_singleton]; omega) (At.sp u2)
    refine ⟨k',by omega,v2,v3,?_⟩
    rw [Pa,w1 (by omega),par,ob]
    simp only [r1,r2,zqf,zqa,zw,zt]
    have n125:isT l k2 [125]=false:=by rw [D2 u1]; rfl
    rw [Y0 l hB,ob,n125,zn (by simp),Y0 l hB,ob,D2 u1]
    simp only [zqm,zqf,zqa,zw]
    rw [v4]
    simp
theorem K1n (t:E0):Vg t→RT C l t:=by
 have hB:=hl.1
 induction t using E0.ind with
 | h t ih=>
 intro hf
 have ih':=fun k hk=>ih k hk (hf.kid hk)
 have hnm:=hf.names
 have hnu:=hf.nums
 cases hf.f.shape with
 | bool=>
  intro k r hr hA
  obtain ⟨a,b⟩:=At.kw (w:=[98,111,111,108]) (by decide +kernel) hr hA
  have hlt:=P1 a
  refine ⟨k+1,by omega,by omega,b,?_⟩
  rw [Gc,Y0 l hB,ob,W2 a,zp (by decide),w1 (by omega)]
 | int lo hi h h'=>
  intro k r hr hA
  obtain ⟨⟨b1,b2⟩,b3,b4⟩:=hnu.1 rfl
  have e1:(E0.mk 1 lo hi 0 [] [] []).text++r=[105,110,116]++(91::(Lib.itoa lo++(46::46::(Lib.itoa hi++(93::r))))):=by
   show [105,110,116,91]++Lib.itoa lo++[46,46]++Lib.itoa hi++[93]++r=_
   simp
  rw [e1] at hA
  obtain ⟨p1,p2⟩:=At.kw (w:=[105,110,116]) (by decide +kernel) (by exact rfl) hA
  obtain ⟨q1,q2⟩:=At.p1 (by decide) p2
  obtain ⟨k1,c1,c2,c3,c4⟩:=At.int hl b1 b2 (by exact rfl) q2
  obtain ⟨u1,u2⟩:=At.s2 (by decide) c3
  obtain ⟨k2,d1,d2,d3,d4⟩:=At.int hl b3 b4 (by exact rfl) u2
  obtain ⟨v1,v2⟩:=At.p1 (by decide) d3
  have hp:=P1 p1
  have hq:=P1 q1
  have hu:=P1 u1
  have hv:=P1 v1
  refine ⟨k2+1,by omega,by omega,v2,?_⟩
  rw [Gc,Y0 l hB,ob,W2 p1,zn (by decide),Y0 l hB,ob,W2 p1,zp (by decide),w1 (by omega)]
  unfold Wq
  rw [Y0 l hB,ob,D2 q1]
  simp only [zqm,zqf,zqa,zw]
  rw [w1 (by omega),c4,ob]
  simp only [zqf,zqg,zt,zql]
  rw [Y0 l hB,ob,D2 u1]
  simp only [zqm,zqf,zqa,zw]
  rw [w1 (by omega),d4,ob]
  simp only [zqf,zqg,zt,zql]
  rw [Y0 l hB,ob,D2 v1]
  simp only [zqm,zqf,zqa,zw,ob]
  rw [w1 (by omega)]
 | array sz t h=>
  intro k r hr hA
  have ht:=ih' t (by simp)
  obtain ⟨b1,b2⟩:=hnu.2 rfl
  have e1:(E0.mk 2 0 0 sz [] [] [t]).text++r=[97,114,114,97,121]++(32::(Lib.itoa sz++(32::([111,102]++(32::(t.text++r)))))):=by
   show [97,114,114,97,121,32]++Lib.itoa sz++[32,111,102,32]++t.text++r=_
   simp
  rw [e1] at hA
  obtain ⟨p1,p2⟩:=At.kw (w:=[97,114,114,97,121]) (by decide +kernel) (by exact rfl) hA
  have b1':(-1048576:Int)≤sz:=by have:(1:Int)≤sz:=b1; omega
  have b2':sz≤(1048576:Int):=by have:sz≤(32:Int):=b2; omega
  obtain ⟨k1,c1,c2,c3,c4⟩:=At.int hl b1' b2' (by exact rfl) (At.sp p2)
  obtain ⟨u1,u2⟩:=At.kw (w:=[111,102]) (by decide +kernel) (by exact rfl) (At.sp c3)
  obtain ⟨k2,d1,d2,d3,d4⟩:=ht (k1+1) r hr (At.sp u2)
  have hp:=P1 p1
  have hu:=P1 u1
  refine ⟨k2,by omega,d2,d3,?_⟩
  rw [Gc,Y0 l hB,ob,W2 p1,zn (by decide),Y0 l hB,ob,W2 p1,zn (by decide),Y0 l hB,ob,W2 p1,zp (by decide),w1 (by omega),c4,ob]
  simp only [zqf,zqg,zt,zql]
  rw [Y0 l hB,ob,W2 u1]
  simp only [zqm,zqf,zqa,zw]
  rw [w1 (by omega),d4,ob]
 | record ns ks h h'=>
  intro k r hr hA
  have e1:(E0.mk 3 0 0 0 [] ns ks).text++r=[114,101,99,111,114,100]++(32::123::(R8 true ns (E0.texts ks)++125::r)):=by
   show [114,101,99,111,114,100,32,123]++R8 true ns (E0.texts ks)++[125]++r=_
   simp
  rw [e1] at hA
  obtain ⟨p1,p2⟩:=At.kw (w:=[114,101,99,111,114,100]) (by decide +kernel) (by exact rfl) hA
  obtain ⟨q1,q2⟩:=At.p1 (by decide) (At.sp p2)
  have hp:=P1 p1
  have hq:=P1 q1
  obtain ⟨k',v1,v2,v3,v4⟩:=Q1q hl ks ns (fun t ht=>ih' t ht) hnm.2 h (by intro e; rw [e] at h'; simp at h') [] [] (k+1) r hq (Nat.zero_le _) (Nat.zero_le _) q2
  refine ⟨k',by omega,v2,v3,?_⟩
  rw [Gc,Y0 l hB,ob,W2 p1,zn (by decide),Y0 l hB,ob,W2 p1,zn (by decide),Y0 l hB,ob,W2 p1,zn (by decide),Y0 l hB,ob,W2 p1,zp (by decide),w1 (by omega),Zv,Y0 l hB,ob,D2 q1]
  simp only [zqm,zqf,zqa,zw]
  rw [v4]
  rfl
 | name nm=>
  intro k r hr hA
  obtain ⟨a,b,d⟩:=At.nm (hnm.1 rfl) hr (show At C l k (nm++r) from hA)
  have hlt:=T6 a
  have hf:=V16 a
  refine ⟨k+1,by omega,by omega,d,?_⟩
  rw [Gc]
  simp only [Y0 l hB,ob,hf,zqa,zw]
  rw [D7 l hB,a,zp rfl,ob,b]
end
theorem C1l (s:Str):At (txk s).2 (V1d (txk s).1) 0 s:=⟨by rw [List.drop_zero,V1s],rfl⟩
theorem O1f {s:Str}(h:s.length≤8192):Ee (V1d (txk s).1):=by
 obtain ⟨h1,h2⟩:=Z1k (s.length+1) s (Nat.lt_succ_self _) h
 refine ⟨?_,h1⟩
 unfold V1d
 rw [List.length_map]
 unfold BB
 omega
theorem M1c {C:Int}{l:List K0}{k:Nat}(h:At C l k []):C=0∧l.length≤k:=by
 obtain ⟨h1,h2⟩:=h
 rw [A11 rfl] at h1 h2
 refine ⟨h2.symm,?_⟩
 cases hl:l.drop k with
 | nil=>exact List.drop_eq_nil_iff.1 hl
 | cons x y=>rw [hl] at h1; cases h1
theorem D1l {s:Str}(h8:s.length≤8192)(h:(txk s).2=0):(N5 s).2.2=0∧At 0 (N5 s).1 0 s:=by
 have e:N5 s=lx s 0:=by rw [T1u,zn (by omega)]
 obtain ⟨h1,h2⟩:=M1q (s.length+1) s 0 (Nat.lt_succ_self _)
 rw [e]
 exact ⟨h1.trans h,by rw [List.drop_zero]; exact (h2 h).symm,h⟩
theorem R1q {e:A0}(hf:Vr e)(h8:e.text.length≤8192)(hc:Sl e=0):E9 e.text=some (e,0,0):=by
 have t0:=O1f h8
 obtain ⟨k1,a1,a2⟩:=(Kn t0 e hf).rd 0 [] trivial (by rw [List.append_nil]; exact C1l e.text)
 obtain ⟨b1,_⟩:=M1c a2
 obtain ⟨c1,c2⟩:=D1l h8 b1
 obtain ⟨t1,_⟩:=Dx c1
 obtain ⟨k2,d1,d2⟩:=(Kn t1 e hf).rd 0 [] trivial (by rw [List.append_nil]; exact c2)
 obtain ⟨_,d3⟩:=M1c d2
 have d4:=d1.le
 have d5:=d1.c (X1s (List.getElem?_eq_none d3))
 obtain ⟨v,j,ok,r1,r2,r3,_⟩:=Q13 e.text c1
 have m5:=r1.symm.trans d5
 injection m5 with m5
 injection m5 with m6 m7
 injection m7 with m7 m8
 subst m6; subst m8
 rw [r3]
 unfold G1n
 have:(j == (N5 v.text).1.length)=true:=by rw [beq_iff_eq]; omega
 rw [this,Bool.true_and,zp rfl,hc]
 rfl
theorem U1j (s:Str):(W10 s=(s,0)∧s.length≤8192)∨(W10 s).2≠0:=by
 unfold W10
 by_cases h:(s.length:Int) > 8192
 ·rw [zqj h]; exact .inr (show (5:Int)≠0 by decide)
 ·rw [zqs h]; exact .inl ⟨rfl,by omega⟩
set_option maxHeartbeats 1000000
def Z16 (m:Str):Prop:=∀ c∈m,c=9
theorem Z16.more {m:Str}(h:Z16 m):Z16 (m++[9]):=fun c hc=>by
 rcases List.mem_append.1 hc with hc | hc
 ·exact h c hc
 ·simpa using hc
def B1j (l:List K0)(k:Nat):Prop:=beg l k=false∧isT l k [101,108,115,101]=false
def C1j (t:Str):Bool:=!(t == [111,117,116,112,117,116]||(t == [119,97,105,116]||(t == [105,102]||(t == [119,104,105,108,101]||(t == [102,111,114]||(t == [115,101,116,116,108,101])))))||t == [101,108,115,101])
theorem E1l {l:List K0}{k:Nat}{t:Str}(hK:L3 l k 0=false)(hT:∀ w,isT l k w=(t == w))(h:C1j t=true):B1j l k:=by
 unfold C1j at h
 rw [Bool.not_eq_true',Bool.or_eq_false_iff] at h
 unfold B1j beg
 rw [hK]
 simp only [hT,Bool.false_or]
 exact h
theorem T1w {l:List K0}{k:Nat}{t:Str}(h:∃ x,l[k]?=some x∧x.Kind=3∧x.Text=t)(hb:C1j t=true):B1j l k:=E1l (by rw [Y1i h]; rfl) (D2 h) hb
theorem U1w {l:List K0}{k:Nat}{t:Str}(h:∃ x,l[k]?=some x∧x.Kind=2∧x.Text=t)(hb:C1j t=true):B1j l k:=E1l (by rw [Y1i h]; rfl) (W2 h) hb
theorem Y1s {l:List K0}{k:Nat}(h:beg l k=true):isT l k [101,108,115,101]=false:=by
 cases he:isT l k [101,108,115,101] with
 | false=>rfl
 | true=>
  have n:=fun t ht=>S8 he (t':=t) ht
  unfold beg at h
  rw [(O7 he).1,n _ rfl,n _ rfl,n _ rfl,n _ rfl,n _ rfl,n _ rfl] at h
  cases h
structure Fn (l:List B0):Prop where
 f:Mm l
 n:B0.alls Ia l=true
structure FS (s:B0):Prop where
 shape:Lk s
 pl:uPl s.Verb=true→s.Place.place=true
 np:s.Place.all Y4=true
 nv:s.Value.all Y4=true
 nn:uNm s.Verb=true→P3 s.Name=true
 na:∀ a∈s.Args,a.all Y4=true
 nums:Vf s=true
 th:Fn s.Then
 el:Fn s.Else
theorem Fn.mem {l:List B0}(h:Fn l){s:B0}(hs:s∈l):FS s:=by
 have hf:=B0.alls_mem h.f.form hs
 have hb:=B0.alls_mem h.f.numb hs
 have hn:=B0.alls_mem h.n hs
 have ho:=h.f.ok.mem hs
 rw [B0.all_eq,zqi,zqi] at hf hb hn
 obtain ⟨f0,ft,fe⟩:=hf
 obtain ⟨b0,bt,be⟩:=hb
 obtain ⟨n0,nt,ne⟩:=hn
 unfold V6 at f0
 unfold Z8 at b0
 unfold Ia at n0
 simp only [zqi] at f0 b0 n0
 refine ⟨h.f.mem hs,fun hu=>?_,n0.1.1.1,n0.1.1.2,fun hu=>?_,fun a ha=>A0.alls_mem n0.2 ha,b0.2,⟨⟨ft,bt,ho.thens⟩,nt⟩,⟨fe,be,ho.elses⟩,ne⟩
 ·have:=f0.1.1.1.1.1.1.1.1.1.2
  rw [hu] at this
  exact this
 ·have:=n0.1.2
  rw [hu] at this
  exact this
def ST (C:Int)(l:List K0)(s:B0):Prop:=∀ m k r,Z16 m→At C l k (s.text m++10::r)→
 ∃ k',k < k'∧k'≤l.length∧At C l k' r∧beg l k=true∧(isT l k' [101,108,115,101]=false→J4 l k=some (s,((k':Nat):Int),true))
def LT (C:Int)(l:List K0)(ss:List B0):Prop:=∀ m k r,Z16 m→k≤l.length→At C l k (B0.lines ss m++r)→
 ∃ k',k≤k'∧k'≤l.length∧At C l k' r∧(B1j l k'→isT l k [101,108,115,101]=false∧∀ out,out.length≤k→P5 l k out=some (out++ss,((k':Nat):Int),true))
section
variable {C:Int}{l:List K0}(hl:Ee l)
include hl
theorem D1g:∀ ss:List B0,(∀ s∈ss,ST C l s)→LT C l ss
 | [],_=>fun m k r _ hk hA=>by
  refine ⟨k,zqr _,hk,hA,fun hE=>⟨hE.2,fun out _=>?_⟩⟩
  have e1:Yi l (k:Int)=some (beg l k):=F13 hl k
  rw [P5,e1,ob,hE.1,List.append_nil]
  rfl
 | s::ss,h=>fun m k r hm hk hA=>by
  have hB:=hl.1
  have e:B0.lines (s::ss) m++r=m++(s.text m++10::(B0.lines ss m++r)):=by rw [Pb]; simp
  rw [e] at hA
  obtain ⟨k1,a1,a2,a3,a4,a5⟩:=h s zqp m k _ hm (At.tabs hm hA)
  obtain ⟨k',b1,b2,b3,b4⟩:=D1g ss (fun s hs=>h s (zqq _ hs)) m k1 r hm a2 a3
  refine ⟨k',by omega,b2,b3,fun hE=>⟨Y1s a4,fun out ho=>?_⟩⟩
  obtain ⟨c1,c2⟩:=b4 hE
  have e1:Yi l (k:Int)=some (beg l k):=F13 hl k
  rw [P5,e1,ob,a4,zp rfl,a5 c1,ob]
  have r1:decide ((out.length+1) * 257≤140737488355328)=true:=zqj (by unfold BB at hB; omega)
  simp only [r1,zqf,zqa,zw,zt]
  rw [c2 (out++[s]) (by rw [zqc]; simp only [List.length_singleton]; omega)]
  simp
theorem N1c {th:List B0}(h:LT C l th){m:Str}(hm:Z16 m){k:Nat}{r:Str}(hA:At C l k ([32,123,10]++B0.lines th (m++[9])++(m++[125])++r)) :
  (∃ x,l[k]?=some x∧x.Kind=3∧x.Text=[123])∧∃ k',k < k'∧k'≤l.length∧At C l k' r∧Ke l k=some (th,((k':Nat):Int),true):=by
 have hB:=hl.1
 have e:[32,123,10]++B0.lines th (m++[9])++(m++[125])++r=32::123::10::(B0.lines th (m++[9])++(m++(125::r))):=by simp
 rw [e] at hA
 obtain ⟨p1,p2⟩:=At.p1 (by decide) (At.sp hA)
 have hp:=P1 p1
 obtain ⟨k1,a1,a2,a3,a4⟩:=h (m++[9]) (k+1) _ hm.more (by omega) (At.nl p2)
 obtain ⟨q1,q2⟩:=At.p1 (by decide) (At.tabs hm a3)
 have hq:=P1 q1
 obtain ⟨_,b2⟩:=a4 (T1w q1 (by decide))
 refine ⟨p1,k1+1,by omega,by omega,q2,?_⟩
 rw [Ke,Y0 l hB,ob,D2 p1]
 simp only [zqm,zqf,zqa,zw]
 rw [w1 (by omega),K7,b2 [] (Nat.zero_le _),ob]
 simp only [zqf,zqg,zt,zql]
 rw [Y0 l hB,ob,D2 q1]
 simp only [zqm,zqf,zqa,zw]
 rw [w1 (by omega)]
 rfl
def wB (w:Str):Bool:=!(w == [45]||w == [33]||w == [116,114,117,101]||w == [102,97,108,115,101]||w == [109,105,110]||w == [109,97,120]||w == [40])
theorem Z1s {p:Nat}{w:Str}(h:isT l p w=true)(hw:wB w=true):U1 l p=some (A0.mk 0 0 [] [],(p:Int),false):=by
 have hB:=hl.1
 unfold wB at hw
 simp only [Bool.not_eq_true',Bool.or_eq_false_iff] at hw
 obtain ⟨⟨⟨⟨⟨⟨h1,h2⟩,h3⟩,h4⟩,h5⟩,h6⟩,h7⟩:=hw
 obtain ⟨k0,k1,_⟩:=O7 h
 have un:M3 l p=some (A0.mk 0 0 [] [],(p:Int),false):=by
  refine Lv hl (S8 h h1) (S8 h h2) ?_
  rw [F5]
  simp only [Y0 l hB,ob,S8 h h3,S8 h h4,S8 h h5,S8 h h6,S8 h h7,zqg,zt,zqa,zw,zql]
  rw [Ak l hl,k1]
  simp only [zqa,zw,ob]
  rw [T7,D7 l hB,k0]
  rfl
 have lev:∀ d n:Nat,n+d=6→J1 l p n=some (A0.mk 0 0 [] [],(p:Int),false):=by
  intro d
  induction d with
  | zero=>
   intro n hn
   have:n=6:=by omega
   subst this
   exact Z1i hl un
  | succ d ih=>intro n hn; rw [H1c hl p n (by omega),ih (n+1) (by omega)]; rfl
 have e:=lev 5 1 rfl
 rw [show ((1:Nat):Int)=1 from rfl] at e
 rw [U1,e]
 rfl
theorem Ly {p:Nat}{w:Str}{x:A0}{j:Int}(h:U1 l p=some (x,j,true))(hw:wB w=true):isT l p w=false:=by
 cases hT:isT l p w with
 | false=>rfl
 | true=>
  rw [Z1s hl hT hw] at h
  injection h with h
  injection h with _ h
  injection h with _ h
  cases h
theorem F1l:∀ (ar:List A0),(∀ a∈ar,Rk C l a)→ar≠[]→∀ (out:List A0) (k:Nat) (r:Str),k < l.length→out.length≤k→At C l (k+1) (exl true ar++41::r)→
  ∃ k',k < k'∧k'≤l.length∧At C l k' r∧isT l (k+1) [41]=false∧Z6 l k out=some (out++ar,((k':Nat):Int),true)
 | [],_,h,_,_,_,_,_,_=>absurd rfl h
 | a::ar,ha,_,out,k,r,hk,ho,hA=>by
  have hB:=hl.1
  have r1:decide ((out.length+1) * 57≤140737488355328)=true:=zqj (by unfold BB at hB; omega)
  cases ar with
  | nil=>
   have e:exl true [a]++41::r=a.text++(41::r):=by simp [exl]
   rw [e] at hA
   obtain ⟨k1,a1,a2⟩:=(ha a zqp).rd (k+1) _ (by exact rfl) hA
   obtain ⟨p1,p2⟩:=At.p1 (by decide) a2
   have hp:=P1 p1
   have:=a1.lt
   have hx:=a1.c (Qk p1 (by decide))
   refine ⟨k1+1,by omega,by omega,p2,Ly hl hx (by decide),?_⟩
   rw [Z6,w1 (by omega),hx,ob]
   simp only [r1,zqf,zqa,zw,zt]
   rw [Y0 l hB,ob,D2 p1]
   simp only [zqm,zt]
   rw [w1 (by omega)]
  | cons b ar=>
   have e:exl true (a::b::ar)++41::r=a.text++(44::32::(exl true (b::ar)++41::r)):=by simp [exl]
   rw [e] at hA
   obtain ⟨k1,a1,a2⟩:=(ha a zqp).rd (k+1) _ (by exact rfl) hA
   obtain ⟨p1,p2⟩:=At.p1 (by decide) a2
   have hp:=P1 p1
   have:=a1.lt
   have hx:=a1.c (Qk p1 (by decide))
   obtain ⟨k',b1,b2,b3,_,b5⟩:=F1l (b::ar) (fun x hx=>ha x (zqq _ hx)) (List.cons_ne_nil _ _) (out++[a]) k1 r hp (by rw [zqc]; simp only [List.length_singleton]; omega) (At.sp p2)
   refine ⟨k',by omega,b2,b3,Ly hl hx (by decide),?_⟩
   rw [Z6,w1 (by omega),hx,ob]
   simp only [r1,zqf,zqa,zw,zt]
   have n41:isT l k1 [41]=false:=by rw [D2 p1]; rfl
   rw [Y0 l hB,ob,n41,zn (by simp),Y0 l hB,ob,D2 p1]
   simp only [zqm,zqf,zqa,zw]
   rw [b5]
   simp
theorem G1l:∀ (ns:List Int),(∀ n∈ns,0≤n∧n≤1048576)→ns≠[]→∀ (out:List Int) (k:Nat) (r:Str),k≤l.length→out.length≤k→At C l k (nul true ns++59::r)→
  ∃ k',k < k'∧k' < l.length∧(∃ x,l[k']?=some x∧x.Kind=3∧x.Text=[59])∧At C l (k'+1) r∧G8 l k out=some (out++ns,((k':Nat):Int),true)
 | [],_,h,_,_,_,_,_,_=>absurd rfl h
 | n::ns,hn,_,out,k,r,hk,ho,hA=>by
  have hB:=hl.1
  have r1:decide ((out.length+1) * 9≤140737488355328)=true:=zqj (by unfold BB at hB; omega)
  have hb:=hn n zqp
  cases ns with
  | nil=>
   have e:nul true [n]++59::r=Lib.itoa n++(59::r):=by simp [nul]
   rw [e] at hA
   obtain ⟨k1,a1,a2,a3,a4⟩:=At.int hl (by omega) hb.2 (by exact rfl) hA
   obtain ⟨p1,p2⟩:=At.p1 (by decide) a3
   have hp:=P1 p1
   refine ⟨k1,by omega,by omega,p1,p2,?_⟩
   rw [G8,a4,ob]
   simp only [r1,zqf,zqa,zw,zt]
   rw [Y0 l hB,ob,D2 p1]
   rfl
  | cons b ns=>
   have e:nul true (n::b::ns)++59::r=Lib.itoa n++(44::32::(nul true (b::ns)++59::r)):=by simp [nul]
   rw [e] at hA
   obtain ⟨k1,a1,a2,a3,a4⟩:=At.int hl (by omega) hb.2 (by exact rfl) hA
   obtain ⟨p1,p2⟩:=At.p1 (by decide) a3
   have hp:=P1 p1
   obtain ⟨k',b1,b2,b3,b4,b5⟩:=G1l (b::ns) (fun x hx=>hn x (zqq _ hx)) (List.cons_ne_nil _ _) (out++[n]) (k1+1) r (by omega) (by rw [zqc]; simp only [List.length_singleton]; omega) (At.sp p2)
   refine ⟨k',by omega,b2,b3,b4,?_⟩
   rw [G8,a4,ob]
   simp only [r1,zqf,zqa,zw,zt]
   rw [Y0 l hB,ob,D2 p1]
   simp only [zqm,zqf,zqa,zw]
   rw [w1 (by omega),b5]
   simp
theorem J1a {pl:A0}(h:Rk C l pl)(hp:pl.place=true){k:Nat}{r:Str}(hA:At C l k (pl.text++(32::61::32::r))) :
  ∃ k',k < k'∧k' < l.length∧L3 l k 0=true∧isT l k' [61]=true∧At C l (k'+1) r∧T7 l k=some (pl,((k':Nat):Int),true):=by
 obtain ⟨k1,a1,a2⟩:=h.rd k _ (by exact rfl) hA
 obtain ⟨p1,p2⟩:=At.n1 (c:=61) (d:=32) (t:=r) (by decide) (by decide) rfl (At.sp a2)
 have hp1:=P1 p1
 obtain ⟨q1,q2⟩:=a1.q hp
 refine ⟨k1,a1.lt,hp1,q1,by rw [D2 p1]; rfl,At.sp p2,?_⟩
 rw [q2,I13 hl ⟨by rw [D2 p1]; rfl,by rw [D2 p1]; rfl⟩]
 cases pl
 rfl
theorem D1j {s:B0}{k j:Nat}(hk:L3 l k 0=true)(ha:Sb l k=some (s,((j:Nat):Int),true))(hj:isT l j [59]=true):beg l k=true∧J4 l k=some (s,((j+1:Nat):Int),true):=by
 have hB:=hl.1
 have hf:=V16 hk
 have:=N1 hj
 refine ⟨by unfold beg; rw [hk]; rfl,?_⟩
 rw [J4]
 simp only [Y0 l hB,ob,hf,zqa,zw]
 rw [ha,ob]
 have e:=Wn hl s j (by omega)
 rw [hj,zp rfl] at e
 exact e
theorem J13 {k:Nat}{t:Str}(h:∃ x,l[k]?=some x∧x.Kind=2∧x.Text=t)(hb:(t == [111,117,116,112,117,116]||(t == [119,97,105,116]||(t == [105,102]||(t == [119,104,105,108,101]||(t == [102,111,114]||(t == [115,101,116,116,108,101]))))))=true):beg l k=true:=by
 unfold beg
 simp only [W2 h,hb,Bool.or_true]
theorem X1x (s:B0):FS s→ST C l s:=by
 have hB:=hl.1
 induction s using B0.ind with
 | h s ih1 ih2=>
 intro hf
 have hth:LT C l s.Then:=D1g hl s.Then fun x hx=>ih1 x hx (hf.th.mem hx)
 have hel:LT C l s.Else:=D1g hl s.Else fun x hx=>ih2 x hx (hf.el.mem hx)
 have hpl:=hf.pl
 have hnp:=hf.np
 have hnv:=hf.nv
 have hnn:=hf.nn
 have hna:=hf.na
 have hnu:=hf.nums
 intro m k r hm hA
 cases hf.shape with
 | set pl va h h'=>
  have e:(B0.mk 0 pl va [] [] 0 0 0 [] [] []).text m++10::r=pl.text++(32::61::32::(va.text++(59::10::r))):=by
   show pl.text++[32,61,32]++va.text++[59]++10::r=_
   simp
  rw [e] at hA
  obtain ⟨k1,a1,a2,a3,a4,a5,a6⟩:=J1a hl (Kn hl pl ⟨h,hnp⟩) (hpl rfl) hA
  obtain ⟨k2,b1,b2⟩:=(Kn (C:=C) hl va ⟨h',hnv⟩).rd (k1+1) _ (by exact rfl) a5
  obtain ⟨p1,p2⟩:=At.p1 (by decide) b2
  have hp:=P1 p1
  have:=b1.lt
  have hx:=b1.c (Qk p1 (by decide))
  obtain ⟨c1,c2⟩:=D1j hl (s:=B0.mk 0 pl va [] [] 0 0 0 [] [] []) (j:=k2) a3 (by
   unfold Sb
   rw [a6,ob]
   simp only [zqf,zqg,zt,zql]
   rw [Y0 l hB,ob,a4]
   simp only [zqf,zqa,zw]
   rw [w1 (by omega),Y0 l hB,ob,Ly hl hx (by decide),zn (by simp),Y0 l hB,ob,Ly hl hx (by decide),zn (by simp),hx,ob]) (by rw [D2 p1]; rfl)
  exact ⟨k2+1,by omega,by omega,At.nl p2,c1,fun _=>c2⟩
 | call pl nm ar h h'=>
  have e:(B0.mk 1 pl z nm ar 0 0 0 [] [] []).text m++10::r=pl.text++(32::61::32::([99,97,108,108]++(32::(nm++(40::(exl true ar++(41::59::10::r))))))):=by
   show pl.text++([32,61,32,99,97,108,108,32]++nm++[40])++exl true ar++[41]++[59]++10::r=_
   simp
  rw [e] at hA
  obtain ⟨k1,a1,a2,a3,a4,a5,a6⟩:=J1a hl (Kn hl pl ⟨h,hnp⟩) (hpl rfl) hA
  obtain ⟨p1,p2⟩:=At.kw (w:=[99,97,108,108]) (by decide +kernel) (by exact rfl) a5
  obtain ⟨q1,q2,q3⟩:=At.nm (hnn rfl) (by exact rfl) (At.sp p2)
  obtain ⟨u1,u2⟩:=At.p1 (by decide) q3
  have hp:=P1 p1
  have hq:=T6 q1
  have hu:=P1 u1
  have fin:∃ k2,k1 < k2∧k2 < l.length∧isT l k2 [59]=true∧At C l (k2+1) (10::r)∧Cl l ((k1+1+1+1:Nat):Int)=some (ar,((k2:Nat):Int),true):=by
   unfold Cl
   rw [Y0 l hB,ob,D2 u1]
   simp only [zqm,zqf,zqa,zw]
   rw [w1 (by omega),Y0 l hB,ob]
   cases ar with
   | nil=>
    obtain ⟨v1,v2⟩:=At.p1 (by decide) (show At C l (k1+1+1+1+1) (41::59::10::r) from u2)
    obtain ⟨w1',w2⟩:=At.p1 (by decide) v2
    have hv:=P1 v1
    have hw:=P1 w1'
    refine ⟨k1+1+1+1+1+1,by omega,hw,by rw [D2 w1']; rfl,w2,?_⟩
    rw [D2 v1,zp (by decide),wr (n:=((k1+1+1+1:Nat):Int)+2) (by omega) (by unfold BB at hB; omega),show ((k1+1+1+1:Nat):Int)+2=((k1+1+1+1+1+1:Nat):Int) by omega]
   | cons b ar=>
    obtain ⟨k2,v1,v2,v3,v4,v5⟩:=F1l hl (b::ar) (fun x hx=>Kn hl x ⟨h' x hx,hna x hx⟩) (List.cons_ne_nil _ _) [] (k1+1+1+1) (59::10::r) hu (Nat.zero_le _) u2
    obtain ⟨w1',w2⟩:=At.p1 (by decide) v3
    have hw:=P1 w1'
    refine ⟨k2,by omega,hw,by rw [D2 w1']; rfl,w2,?_⟩
    rw [v4,zn (by simp),v5,List.nil_append]
  obtain ⟨k2,f1,f2,f3,f4,f5⟩:=fin
  obtain ⟨c1,c2⟩:=D1j hl (s:=B0.mk 1 pl z nm ar 0 0 0 [] [] []) (j:=k2) a3 (by
   unfold Sb
   rw [a6,ob]
   simp only [zqf,zqg,zt,zql]
   rw [Y0 l hB,ob,a4]
   simp only [zqf,zqa,zw]
   rw [w1 (by omega),Y0 l hB,ob,W2 p1,zn (by decide),Y0 l hB,ob,W2 p1,zp (by decide),w1 (by omega),D7 l hB,q1,zp rfl,ob]
   simp only [zqf,zqa,zw]
   rw [f5,ob,q2]) f3
  exact ⟨k2+1,by omega,by omega,At.nl f4,c1,fun _=>c2⟩
 | rel pl nm h=>
  have e:(B0.mk 2 pl z nm [] 0 0 0 [] [] []).text m++10::r=pl.text++(32::61::32::([114,101,108,101,97,115,101]++(32::(nm++(59::10::r))))):=by
   show pl.text++([32,61,32,114,101,108,101,97,115,101,32]++nm)++[59]++10::r=_
   simp
  rw [e] at hA
  obtain ⟨k1,a1,a2,a3,a4,a5,a6⟩:=J1a hl (Kn hl pl ⟨h,hnp⟩) (hpl rfl) hA
  obtain ⟨p1,p2⟩:=At.kw (w:=[114,101,108,101,97,115,101]) (by decide +kernel) (by exact rfl) a5
  obtain ⟨q1,q2,q3⟩:=At.nm (hnn rfl) (by exact rfl) (At.sp p2)
  obtain ⟨u1,u2⟩:=At.p1 (by decide) q3
  have hp:=P1 p1
  have hq:=T6 q1
  have hu:=P1 u1
  obtain ⟨c1,c2⟩:=D1j hl (s:=B0.mk 2 pl z nm [] 0 0 0 [] [] []) (j:=k1+1+1+1) a3 (by
   unfold Sb
   rw [a6,ob]
   simp only [zqf,zqg,zt,zql]
   rw [Y0 l hB,ob,a4]
   simp only [zqf,zqa,zw]
   rw [w1 (by omega),Y0 l hB,ob,W2 p1,zp (by decide),w1 (by omega),D7 l hB,q1,zp rfl,ob,q2]) (by rw [D2 u1]; rfl)
  exact ⟨k1+1+1+1+1,by omega,by omega,At.nl u2,c1,fun _=>c2⟩
 | out va h=>
  have e:(B0.mk 3 z va [] [] 0 0 0 [] [] []).text m++10::r=[111,117,116,112,117,116]++(32::(va.text++(59::10::r))):=by
   show [111,117,116,112,117,116,32]++va.text++[59]++10::r=_
   simp
  rw [e] at hA
  obtain ⟨p1,p2⟩:=At.kw (w:=[111,117,116,112,117,116]) (by decide +kernel) (by exact rfl) hA
  obtain ⟨k2,b1,b2⟩:=(Kn (C:=C) hl va ⟨h,hnv⟩).rd (k+1) _ (by exact rfl) (At.sp p2)
  obtain ⟨q1,q2⟩:=At.p1 (by decide) b2
  have hp:=P1 p1
  have hq:=P1 q1
  have:=b1.lt
  refine ⟨k2+1,by omega,by omega,At.nl q2,J13 hl p1 (by decide),fun _=>?_⟩
  have es:=Wn hl (B0.mk 3 zE va [] [] 0 0 0 [] [] []) k2 (by omega)
  rw [D2 q1,zp (by decide)] at es
  rw [J4]
  simp only [Y0 l hB,ob,W2 p1]
  rw [zn (by decide),zn (by decide),zn (by decide),zp (by decide),w1 (by omega),b1.c (Qk q1 (by decide)),ob]
  exact es
 | wait n h=>
  have hb:0≤n∧n≤1048576:=by
   unfold Vf A2 at hnu
   simp at hnu
   omega
  have e:(B0.mk 4 z z [] [] n 0 0 [] [] []).text m++10::r=[119,97,105,116]++(32::(Lib.itoa n++(59::10::r))):=by
   show [119,97,105,116,32]++Lib.itoa n++[59]++10::r=_
   simp
  rw [e] at hA
  obtain ⟨p1,p2⟩:=At.kw (w:=[119,97,105,116]) (by decide +kernel) (by exact rfl) hA
  obtain ⟨k2,b1,b2,b3,b4⟩:=At.int hl (by omega) hb.2 (by exact rfl) (At.sp p2)
  obtain ⟨q1,q2⟩:=At.p1 (by decide) b3
  have hp:=P1 p1
  have hq:=P1 q1
  refine ⟨k2+1,by omega,by omega,At.nl q2,J13 hl p1 (by decide),fun _=>?_⟩
  have es:=Wn hl (B0.mk 4 zE zE [] [] n 0 0 [] [] []) k2 (by omega)
  rw [D2 q1,zp (by decide)] at es
  rw [J4]
  simp only [Y0 l hB,ob,W2 p1]
  rw [zn (by decide),zn (by decide),zn (by decide),zn (by decide),zp (by decide),w1 (by omega),b4,ob]
  exact es
 | settle ns h=>
  have hb:ns≠[]∧∀ n∈ns,0≤n∧n≤1048576:=by
   have m5:(A2 (ns.length:Int) 1 32&&Qh (-1) ns)=true:=hnu
   rw [zqi] at m5
   refine ⟨fun e0=>?_,?_⟩
   ·rw [e0] at m5; exact absurd m5.1 (by decide)
   ·have key:∀ (l:List Int) (last:Int),Qh last l=true→∀ n∈l,0≤n∧n≤1048576:=by
     intro l
     induction l with
     | nil=>intro _ _ n hn; cases hn
     | cons x r ih=>
      intro last h n hn
      simp only [Qh,zqi] at h
      cases hn with
      | head=>
       have h1:=h.1
       unfold A2 at h1
       simp at h1
       omega
      | tail _ hn=>exact ih x h.2 n hn
    exact key ns (-1) m5.2
  have e:(B0.mk 8 z z [] [] 0 0 0 ns [] []).text m++10::r=[115,101,116,116,108,101]++(32::(nul true ns++(59::10::r))):=by
   show [115,101,116,116,108,101,32]++nul true ns++[59]++10::r=_
   simp
  rw [e] at hA
  obtain ⟨p1,p2⟩:=At.kw (w:=[115,101,116,116,108,101]) (by decide +kernel) (by exact rfl) hA
  have hp:=P1 p1
  obtain ⟨k2,b1,b2,b3,b4,b5⟩:=G1l hl ns hb.2 hb.1 [] (k+1) (10::r) (by omega) (Nat.zero_le _) (At.sp p2)
  refine ⟨k2+1,by omega,by omega,At.nl b4,J13 hl p1 (by decide),fun _=>?_⟩
  have es:=Wn hl (B0.mk 8 zE zE [] [] 0 0 0 ns [] []) k2 (by omega)
  rw [D2 b3,zp (by decide)] at es
  rw [J4]
  simp only [Y0 l hB,ob,W2 p1]
  rw [zn (by decide),zn (by decide),zn (by decide),zn (by decide),zn (by decide),zp (by decide),w1 (by omega),Dr,b5,ob,List.nil_append]
  exact es
 | cond va th el h h1 h2=>
  have e:(B0.mk 5 z va [] [] 0 0 0 [] th el).text m++10::r=[105,102]++(32::(va.text++([32,123,10]++B0.lines th (m++[9])++(m++[125])++((bif decide ((el.length:Int) > 0) then [32,101,108,115,101]++([32,123,10]++B0.lines el (m++[9])++(m++[125])) else [])++10::r)))):=by
   show [105,102,32]++va.text++([32,123,10]++B0.lines th (m++[9])++(m++[125]))++(bif decide ((el.length:Int) > 0) then [32,101,108,115,101]++([32,123,10]++B0.lines el (m++[9])++(m++[125])) else [])++10::r=_
   simp
  rw [e] at hA
  obtain ⟨p1,p2⟩:=At.kw (w:=[105,102]) (by decide +kernel) (by exact rfl) hA
  have hp:=P1 p1
  obtain ⟨k1,b1,b2⟩:=(Kn (C:=C) hl va ⟨h,hnv⟩).rd (k+1) _ (by exact rfl) (At.sp p2)
  obtain ⟨q1,k2,c1,c2,c3,c4⟩:=N1c hl hth hm b2
  have:=b1.lt
  have hx:=b1.c (Qk q1 (by decide))
  have start:∀ y,Rf l ((k+1:Nat):Int)=some y→J4 l k=some y:=fun y hy=>by
   rw [J4]
   simp only [Y0 l hB,ob,W2 p1]
   rw [zp (by decide),w1 (by omega),hy,ob]
  by_cases he:el.length=0
  ·have hel0:el=[]:=List.length_eq_zero_iff.1 he
   subst hel0
   refine ⟨k2,by omega,c2,At.nl (show At C l k2 (10::r) from c3),J13 hl p1 (by decide),fun hne=>start _ ?_⟩
   rw [Rf,hx,ob]
   simp only [zqf,zqa,zw]
   rw [c4,ob]
   simp only [zqf,zqa,zw]
   rw [Y0 l hB,ob,hne]
   rfl
  ·rw [zqj (show (el.length:Int) > 0 by omega),zqk] at c3
   have e2:([32,101,108,115,101]++([32,123,10]++B0.lines el (m++[9])++(m++[125]))++10::r)=32::([101,108,115,101]++([32,123,10]++B0.lines el (m++[9])++(m++[125])++(10::r))):=by simp
   rw [e2] at c3
   obtain ⟨u1,u2⟩:=At.kw (w:=[101,108,115,101]) (by decide +kernel) (by exact rfl) (At.sp c3)
   have hu:=P1 u1
   obtain ⟨_,k3,d1,d2,d3,d4⟩:=N1c hl hel hm u2
   refine ⟨k3,by omega,d2,At.nl d3,J13 hl p1 (by decide),fun _=>start _ ?_⟩
   rw [Rf,hx,ob]
   simp only [zqf,zqa,zw]
   rw [c4,ob]
   simp only [zqf,zqa,zw]
   rw [Y0 l hB,ob,W2 u1,zp (by decide),w1 (by omega),d4,ob]
 | loop va n th h hn h1=>
  have hb:0≤n∧n≤1048576:=by
   unfold Vf A2 at hnu
   simp at hnu
   omega
  have e:(B0.mk 6 z va [] [] n 0 0 [] th []).text m++10::r=[119,104,105,108,101]++(32::(va.text++(32::([108,105,109,105,116]++(32::(Lib.itoa n++([32,123,10]++B0.lines th (m++[9])++(m++[125])++(10::r)))))))):=by
   show [119,104,105,108,101,32]++va.text++([32,108,105,109,105,116,32]++Lib.itoa n)++([32,123,10]++B0.lines th (m++[9])++(m++[125]))++10::r=_
   simp
  rw [e] at hA
  obtain ⟨p1,p2⟩:=At.kw (w:=[119,104,105,108,101]) (by decide +kernel) (by exact rfl) hA
  have hp:=P1 p1
  obtain ⟨k1,b1,b2⟩:=(Kn (C:=C) hl va ⟨h,hnv⟩).rd (k+1) _ (by exact rfl) (At.sp p2)
  obtain ⟨u1,u2⟩:=At.kw (w:=[108,105,109,105,116]) (by decide +kernel) (by exact rfl) (At.sp b2)
  have hu:=P1 u1
  obtain ⟨k2,c1,c2,c3,c4⟩:=At.int hl (by omega) hb.2 (by exact rfl) (At.sp u2)
  obtain ⟨_,k3,d1,d2,d3,d4⟩:=N1c hl hth hm c3
  have:=b1.lt
  have hx:=b1.c (S1w u1 (by decide))
  refine ⟨k3,by omega,d2,At.nl d3,J13 hl p1 (by decide),fun _=>?_⟩
  rw [J4]
  simp only [Y0 l hB,ob,W2 p1]
  rw [zn (by decide),zp (by decide),w1 (by omega),Bz,hx,ob]
  simp only [zqf,zqg,zt,zql]
  rw [Y0 l hB,ob,W2 u1]
  simp only [zqm,zqf,zqa,zw]
  rw [w1 (by omega),c4,ob]
  simp only [zqf,zqa,zw]
  rw [d4,ob,ob]
 | count nm lo hi th h h' h1=>
  have hb:(-1048576≤lo∧lo≤1048576)∧-1048576≤hi∧hi≤1048576:=by
   unfold Vf A2 at hnu
   simp at hnu
   omega
  have e:(B0.mk 7 z z nm [] 0 lo hi [] th []).text m++10::r=[102,111,114]++(32::(nm++(32::61::32::(Lib.itoa lo++(32::([116,111]++(32::(Lib.itoa hi++([32,123,10]++B0.lines th (m++[9])++(m++[125])++(10::r)))))))))):=by
   show [102,111,114,32]++nm++[32,61,32]++Lib.itoa lo++[32,116,111,32]++Lib.itoa hi++([32,123,10]++B0.lines th (m++[9])++(m++[125]))++10::r=_
   simp
  rw [e] at hA
  obtain ⟨p1,p2⟩:=At.kw (w:=[102,111,114]) (by decide +kernel) (by exact rfl) hA
  obtain ⟨q1,q2,q3⟩:=At.nm (hnn rfl) (by exact rfl) (At.sp p2)
  obtain ⟨u1,u2⟩:=At.n1 (c:=61) (d:=32) (by decide) (by decide) rfl (At.sp q3)
  obtain ⟨k1,b1,b2,b3,b4⟩:=At.int hl hb.1.1 hb.1.2 (by exact rfl) (At.sp u2)
  obtain ⟨v1,v2⟩:=At.kw (w:=[116,111]) (by decide +kernel) (by exact rfl) (At.sp b3)
  obtain ⟨k2,c1,c2,c3,c4⟩:=At.int hl hb.2.1 hb.2.2 (by exact rfl) (At.sp v2)
  obtain ⟨_,k3,d1,d2,d3,d4⟩:=N1c hl hth hm c3
  have hp:=P1 p1
  have hq:=T6 q1
  have hu:=P1 u1
  have hv:=P1 v1
  refine ⟨k3,by omega,d2,At.nl d3,J13 hl p1 (by decide),fun _=>?_⟩
  rw [J4]
  simp only [Y0 l hB,ob,W2 p1]
  rw [zn (by decide),zn (by decide),zp (by decide),w1 (by omega),Rt,D7 l hB,q1,zp rfl,ob]
  simp only [zqf,zqg,zt,zql]
  rw [Y0 l hB,ob,D2 u1]
  simp only [zqm,zqf,zqa,zw]
  rw [w1 (by omega),b4,ob]
  simp only [zqf,zqg,zt,zql]
  rw [Y0 l hB,ob,W2 v1]
  simp only [zqm,zqf,zqa,zw]
  rw [w1 (by omega),c4,ob]
  simp only [zqf,zqa,zw]
  rw [d4,ob,ob,q2]
end
set_option maxHeartbeats 400000
set_option maxRecDepth 4000
structure Hx (d:C0)(nm:Str)(t:E0)(i:Int):Prop where
 e:d = .mk 4 nm t i z [] [] []
 n:P3 nm=true
 ft:Vg t
 bi : -1048576≤i∧i≤1048576
 bb:t.Kind=0→i=0∨i=1
inductive Lt:C0→Prop
 | plain (k nm t) (hk:k=0∨k=1∨k=2∨k=3) (hn:P3 nm=true) (ht:Vg t):Lt (.mk k nm t 0 z [] [] [])
 | var (d nm t i) (h:Hx d nm t i):Lt d
 | hat (nm t v) (hn:P3 nm=true) (ht:Vg t) (hv:Vr v):Lt (.mk 5 nm t 0 v [] [] [])
 | fn (nm t v ps vs bd) (hn:P3 nm=true) (ht:Vg t) (hv:Vr v) (hp:∀ x∈ps,∃ n t,Hx x n t 0) (hs:∀ x∈vs,∃ n t i,Hx x n t i) (hb:Fn bd):Lt (.mk 6 nm t 0 v ps vs bd)
theorem W1d {α:Type}{l:List α}(h:((l.length:Int) == 0)=true):l=[]:=List.length_eq_zero_iff.1 (by have:=eq_of_beq h; omega)
theorem O1c {d:C0}(h:Lm d=true):d.Params=[]∧d.Vars=[]∧d.Body=[]:=by
 unfold Lm at h
 cases h1:((d.Params.length:Int) == 0) with
 | false=>rw [h1] at h; cases h
 | true=>
  rw [h1] at h
  cases h2:((d.Vars.length:Int) == 0) with
  | false=>rw [h2] at h; cases h
  | true=>rw [h2] at h; exact ⟨W1d h1,W1d h2,W1d h⟩
theorem A1t {d:C0}(h:Wl d=true):(-1048576≤d.Init∧d.Init≤1048576)∧(d.TypeV.Kind=0→d.Init=0∨d.Init=1):=by
 unfold Wl at h
 cases h1:A2 d.Init (-1048576) 1048576 with
 | false=>rw [h1] at h; cases h
 | true=>
  rw [h1] at h
  unfold A2 at h1
  simp at h1
  refine ⟨by omega,fun hk=>?_⟩
  rw [hk] at h
  unfold A2 at h
  simp at h
  omega
theorem X1d {d:C0}(hk:d.Kind=4)(f0:H6 d=true)(n0:Nb d=true)(b0:Qd d=true)(ho:Q1v d):Hx d d.Name d.TypeV d.Init:=by
 unfold H6 at f0
 unfold Nb at n0
 unfold Qd at b0
 simp only [zqi] at f0 n0 b0
 have hv:=f0.1.1.1.1.1.2
 have hp:=f0.1.1.1.2
 rw [hk] at hv hp
 have hv':d.Value=z:=Cd (show Ah d.Value=true from hv)
 obtain ⟨p1,p2,p3⟩:=O1c (show Lm d=true from hp)
 obtain ⟨i1,i2⟩:=A1t b0.1.2
 refine ⟨?_,n0.1.1.2,⟨⟨f0.1.1.1.1.1.1.2,b0.1.1.1,ho.type⟩,n0.1.1.1⟩,i1,i2⟩
 cases d
 simp only at hk hv' p1 p2 p3
 subst hk; subst hv'; subst p1; subst p2; subst p3
 rfl
theorem S1q {l:List C0}(h:Jy l)(hn:C0.alls Nb l=true){d:C0}(hd:d∈l):Lt d:=by
 have hf:=C0.alls_mem h.form hd
 have hb:=C0.alls_mem h.numb hd
 have hm:=C0.alls_mem hn hd
 have ho:=h.ok.mem hd
 rw [C0.all_eq,zqi,zqi] at hf hb hm
 obtain ⟨f0,fp,fv⟩:=hf
 obtain ⟨b0,bp,bv⟩:=hb
 obtain ⟨n0,np,nv⟩:=hm
 by_cases h4:d.Kind=4
 ·exact .var _ _ _ _ (X1d h4 f0 n0 b0 ho)
 have f1:=f0
 have n1:=n0
 have b1:=b0
 unfold H6 at f1
 unfold Nb at n1
 unfold Qd at b1
 simp only [zqi] at f1 n1 b1
 have hK:=f1.1.1.1.1.1.1.1
 have hi:=f1.1.1.1.1.2
 have hp:=f1.1.1.1.2
 have hv:=f1.1.1.1.1.1.2
 have ht:Vg d.TypeV:=⟨⟨f1.1.1.1.1.1.1.2,b1.1.1.1,ho.type⟩,n1.1.1.1⟩
 rw [zqn.2 h4] at hi
 have hi':d.Init=0:=eq_of_beq hi
 have hval:uV2 d.Kind=true→Vr d.Value:=fun hu=>by
  rw [hu] at hv
  exact ⟨⟨hv,b1.1.1.2,ho.value⟩,n1.1.2⟩
 by_cases h6:d.Kind=6
 ·have e6:=hval (by rw [h6]; rfl)
  have hps:∀ x∈d.Params,∃ n t,Hx x n t 0:=fun x hx=>by
   have q1:=C0.alls_mem fp hx
   have q2:=C0.alls_mem bp hx
   have q3:=C0.alls_mem np hx
   rw [C0.all_eq,zqi] at q1 q2 q3
   have q4:=List.all_eq_true.1 f1.1.1.2 x hx
   unfold pOk at q4
   cases hk:x.Kind == 4 with
   | false=>rw [hk] at q4; cases q4
   | true=>
    rw [hk] at q4
    have hx0:x.Init=0:=eq_of_beq (show (x.Init == 0)=true from q4)
    have:=X1d (eq_of_beq hk) q1.1 q3.1 q2.1 (ho.params.mem hx)
    rw [hx0] at this
    exact ⟨_,_,this⟩
  have hvs:∀ x∈d.Vars,∃ n t i,Hx x n t i:=fun x hx=>by
   have q1:=C0.alls_mem fv hx
   have q2:=C0.alls_mem bv hx
   have q3:=C0.alls_mem nv hx
   rw [C0.all_eq,zqi] at q1 q2 q3
   have q4:=List.all_eq_true.1 f1.1.2 x hx
   exact ⟨_,_,_,X1d (eq_of_beq (show (x.Kind == 4)=true from q4)) q1.1 q3.1 q2.1 (ho.vars.mem hx)⟩
  have hbd:Fn d.Body:=⟨⟨f1.2,b1.2,ho.body⟩,n1.2⟩
  have hnm:=n1.1.1.2
  cases d
  simp only at h6 hi' ht e6 hps hvs hbd hnm
  subst h6; subst hi'
  exact .fn _ _ _ _ _ _ hnm ht e6 hps hvs hbd
 rw [zqn.2 h6] at hp
 obtain ⟨p1,p2,p3⟩:=O1c (show Lm d=true from hp)
 have hnm:=n1.1.1.2
 by_cases h5:d.Kind=5
 ·have e5:=hval (by rw [h5]; rfl)
  cases d
  simp only at h5 hi' ht e5 p1 p2 p3 hnm
  subst h5; subst hi'; subst p1; subst p2; subst p3
  exact .hat _ _ _ hnm ht e5
 ·have hu:uV2 d.Kind=false:=by
   unfold uV2
   rw [zqn.2 h5,zqn.2 h6]
   rfl
  rw [hu] at hv
  have hv':d.Value=z:=Cd (show Ah d.Value=true from hv)
  have hk:d.Kind=0∨d.Kind=1∨d.Kind=2∨d.Kind=3:=by
   unfold isK at hK
   simp at hK
   omega
  cases d
  simp only at hk hi' ht hv' p1 p2 p3 hnm
  subst hi'; subst hv'; subst p1; subst p2; subst p3
  exact .plain _ _ _ hk hnm ht
section
variable {C:Int}{l:List K0}(hl:Ee l)
include hl
theorem A17 {nm:Str}{t:E0}(hn:P3 nm=true)(ht:Vg t){k:Nat}{r:Str}(hr:NN ld r)(hA:At C l k (O8 nm t++r)) :
  ∃ k',k < k'∧k'≤l.length∧At C l k' r∧L3 l k 0=true∧T5 l k=some (.mk 4 nm t 0 z [] [] [],((k':Nat):Int),true):=by
 have hB:=hl.1
 have e:O8 nm t++r=nm++(58::32::(t.text++r)):=by unfold O8; simp
 rw [e] at hA
 obtain ⟨p1,p2,p3⟩:=At.nm hn (by exact rfl) hA
 obtain ⟨q1,q2⟩:=At.p1 (by decide) p3
 obtain ⟨k2,s1,s2,s3,s4⟩:=K1n hl t ht (k+1+1) r hr (At.sp q2)
 have hp:=T6 p1
 have hq:=P1 q1
 refine ⟨k2,by omega,s2,s3,p1,?_⟩
 rw [T5,D7 l hB,p1,zp rfl,ob]
 simp only [zqf,zqg,zt,zql]
 rw [Y0 l hB,ob,D2 q1]
 simp only [zqm,zqf,zqa,zw]
 rw [w1 (by omega),s4,ob,p2]
theorem H1l {n:Int}(h1 : -1048576≤n)(h2:n≤1048576){k:Nat}{r:Str}(hr:NN ld r)(h:At C l k (Lib.itoa n++r)){w:Str}(hw:([45] == w)=false):isT l k w=false:=by
 unfold Lib.itoa at h
 by_cases hn:n < 0
 ·rw [zp hn] at h
  obtain ⟨a,_⟩:=At.p1 (by decide) (show At C l k (45::(Lib.decDigits n.natAbs++r)) from h)
  rw [D2 a]
  exact hw
 ·rw [zn hn] at h
  exact B11 (At.num (m:=n.toNat) (by omega) hr h).1 w
theorem T1q {d:C0}{nm:Str}{t:E0}{i:Int}(h:Hx d nm t i){k:Nat}{r:Str}(hA:At C l k (Hr d++r)) :
  ∃ k',k < k'∧k'≤l.length∧At C l k' r∧isT l k [118,97,114]=true∧De l ((k+1:Nat):Int)=some (d,((k':Nat):Int),true):=by
 have hB:=hl.1
 have he:=h.e
 subst he
 have e:Hr (.mk 4 nm t i z [] [] [])++r=[118,97,114]++(32::(O8 nm t++(Wr (.mk 4 nm t i z [] [] [])++(59::10::r)))):=by unfold Hr; simp
 rw [e] at hA
 obtain ⟨p1,p2⟩:=At.kw (w:=[118,97,114]) (by decide +kernel) (by exact rfl) hA
 have hnn:NN ld (Wr (.mk 4 nm t i z [] [] [])++(59::10::r)):=by
  unfold Wr
  cases (C0.mk 4 nm t i z [] [] []).Init != 0 with
  | true=>exact rfl
  | false=>exact rfl
 obtain ⟨k1,a1,a2,a3,a4,a5⟩:=A17 hl h.n h.ft hnn (At.sp p2)
 have fin:∀ (j:Nat) (i':Int) (x:C0×Int×Bool),x.1 = .mk 4 nm t 0 z [] [] []→At C l j (59::10::r)→∃ k',j < k'∧k'≤l.length∧At C l k' r∧F8 l x i' j=some (.mk 4 nm t i' z [] [] [],((k':Nat):Int),true):=fun j i' x hx hj=>by
  obtain ⟨u1,u2⟩:=At.p1 (by decide) hj
  have hu:=P1 u1
  refine ⟨j+1,by omega,by omega,At.nl u2,?_⟩
  unfold F8
  rw [Y0 l hB,ob,D2 u1,hx]
  simp only [zqm,zqf,zqa,zw]
  rw [w1 (by omega)]
 by_cases hi:i=0
 ·subst hi
  have e0:Wr (.mk 4 nm t 0 z [] [] [])=[]:=rfl
  rw [e0,List.nil_append] at a3
  obtain ⟨k',f1,f2,f3,f4⟩:=fin k1 0 (.mk 4 nm t 0 z [] [] [],((k1:Nat):Int),true) rfl a3
  refine ⟨k',by omega,f2,f3,by rw [W2 p1]; rfl,?_⟩
  unfold De
  rw [a5,ob]
  simp only [zqf,zqa,zw]
  obtain ⟨u1,_⟩:=At.p1 (by decide) a3
  rw [Y0 l hB,ob,D2 u1,zn (by decide)]
  exact f4
 ·have hz:((C0.mk 4 nm t i z [] [] []).Init != 0)=true:=by simpa using hi
  have e0:Wr (.mk 4 nm t i z [] [] [])=[32,61,32]++(bif t.Kind == 0 then [116,114,117,101] else Lib.itoa i):=by
   unfold Wr
   rw [hz]
   rfl
  rw [e0] at a3
  have val:∃ k2,k1 < k2∧At C l k2 (59::10::r)∧isT l k1 [61]=true∧k1 < l.length∧Ym l ((k1+1:Nat):Int)=some (i,((k2:Nat):Int),true):=by
   cases hk:t.Kind == 0 with
   | true=>
    rw [hk] at a3
    have hi1:i=1:=by rcases h.bb (eq_of_beq hk) with h | h <;> omega
    obtain ⟨u1,u2⟩:=At.n1 (c:=61) (d:=32) (t:=[116,114,117,101]++59::10::r) (by decide) (by decide) rfl (At.sp (show At C l k1 (32::61::32::([116,114,117,101]++59::10::r)) from a3))
    obtain ⟨v1,v2⟩:=At.kw (w:=[116,114,117,101]) (by decide +kernel) (by exact rfl) (At.sp u2)
    have hv:=P1 v1
    refine ⟨k1+1+1,by omega,v2,by rw [D2 u1]; rfl,P1 u1,?_⟩
    unfold Ym
    rw [Y0 l hB,ob,W2 v1,zp (by decide),w1 (by omega),hi1]
   | false=>
    rw [hk] at a3
    have e1:([32,61,32]++Lib.itoa i)++59::10::r=32::61::32::(Lib.itoa i++(59::10::r)):=by simp
    have a3':At C l k1 (32::61::32::(Lib.itoa i++(59::10::r))):=by rw [← e1]; exact a3
    obtain ⟨u1,u2⟩:=At.n1 (c:=61) (d:=32) (by decide) (by decide) rfl (At.sp a3')
    obtain ⟨k2,b1,b2,b3,b4⟩:=At.int hl h.bi.1 h.bi.2 (by exact rfl) (At.sp u2)
    refine ⟨k2,by omega,b3,by rw [D2 u1]; rfl,P1 u1,?_⟩
    unfold Ym
    rw [Y0 l hB,ob,H1l hl h.bi.1 h.bi.2 (by exact rfl) (At.sp u2) (by decide),zn (by simp),Y0 l hB,ob,H1l hl h.bi.1 h.bi.2 (by exact rfl) (At.sp u2) (by decide),zn (by simp),b4,ob]
  obtain ⟨k2,b1,b2,b3,b4,b5⟩:=val
  obtain ⟨k',f1,f2,f3,f4⟩:=fin k2 i (.mk 4 nm t 0 z [] [] [],((k1:Nat):Int),true) rfl b2
  refine ⟨k',by omega,f2,f3,by rw [W2 p1]; rfl,?_⟩
  unfold De
  rw [a5,ob]
  simp only [zqf,zqa,zw]
  rw [Y0 l hB,ob,b3,zp rfl,w1 (by omega),b5,ob]
  simp only [zqf,zqa,zw]
  exact f4
theorem I1l (y1:Str×Int×Bool):∀ (ps:List C0),(∀ x∈ps,∃ n t,Hx x n t 0)→ps≠[]→∀ (out:List C0) (k:Nat) (r:Str),out.length≤k→At C l k (Qm true ps++41::r)→
  ∃ k',k < k'∧k'≤l.length∧At C l k' (41::r)∧L3 l k 0=true∧V5 l y1 out k=O6 l y1 (out++ps) k'
 | [],_,h,_,_,_,_,_=>absurd rfl h
 | x::ps,hx,_,out,k,r,ho,hA=>by
  have hB:=hl.1
  have r1:k≤l.length→decide ((out.length+1) * 257≤140737488355328)=true:=fun hk=>zqj (by unfold BB at hB; omega)
  obtain ⟨nm,t,hv⟩:=hx x zqp
  have hxe:=hv.e
  cases ps with
  | nil=>
   have e:Qm true [x]++41::r=O8 nm t++(41::r):=by rw [hxe]; simp [Qm]
   rw [e] at hA
   obtain ⟨k1,a1,a2,a3,a4,a5⟩:=A17 hl hv.n hv.ft (by exact rfl) hA
   obtain ⟨u1,_⟩:=At.p1 (by decide) a3
   refine ⟨k1,a1,a2,a3,a4,?_⟩
   rw [V5,a5,ob]
   simp only [r1 (by omega),zqf,zqa,zw,zt]
   rw [Y0 l hB,ob,D2 u1,← hxe]
   rfl
  | cons y ps=>
   have e:Qm true (x::y::ps)++41::r=O8 nm t++(44::32::(Qm true (y::ps)++41::r)):=by rw [hxe]; simp [Qm]
   rw [e] at hA
   obtain ⟨k1,a1,a2,a3,a4,a5⟩:=A17 hl hv.n hv.ft (by exact rfl) hA
   obtain ⟨u1,u2⟩:=At.p1 (by decide) a3
   have hu:=P1 u1
   obtain ⟨k',b1,b2,b3,b4,b5⟩:=I1l y1 (y::ps) (fun z hz=>hx z (zqq _ hz)) (List.cons_ne_nil _ _) (out++[x]) (k1+1) r (by rw [zqc]; simp only [List.length_singleton]; omega) (At.sp u2)
   refine ⟨k',by omega,b2,b3,a4,?_⟩
   rw [V5,a5,ob]
   simp only [r1 (by omega),zqf,zqa,zw,zt]
   rw [Y0 l hB,ob,D2 u1,← hxe]
   simp only [zqm,zqf,zqa,zw]
   rw [w1 (by omega),b5]
   simp
theorem W1u (y1:Str×Int×Bool)(y5:E0×Int×Bool)(ps:List C0):∀ (vs:List C0),(∀ x∈vs,∃ n t i,Hx x n t i)→∀ (out:List C0) (k:Nat) (r:Str),k≤l.length→out.length≤k→At C l k (Di vs++r)→
  ∃ k',k≤k'∧k'≤l.length∧At C l k' r∧H8 l y1 y5 ps out k=H8 l y1 y5 ps (out++vs) k':=by
 intro vs
 induction vs with
 | nil=>
  intro _ out k r hk ho hA
  rw [show Di []=[] from rfl,List.nil_append] at hA
  exact ⟨k,zqr _,hk,hA,by rw [List.append_nil]⟩
 | cons x vs ih=>
  intro hx out k r hk ho hA
  have hB:=hl.1
  obtain ⟨nm,t,i,hv⟩:=hx x zqp
  have e:Di (x::vs)++r=[9]++(Hr x++(Di vs++r)):=by simp [Di]
  rw [e] at hA
  obtain ⟨k1,a1,a2,a3,a4,a5⟩:=T1q hl hv (At.tabs (fun c hc=>by simpa using hc) hA)
  obtain ⟨k',b1,b2,b3,b4⟩:=ih (fun z hz=>hx z (zqq _ hz)) (out++[x]) k1 r a2 (by rw [zqc]; simp only [List.length_singleton]; omega) a3
  have hlt:=N1 a4
  have r1:decide ((out.length+1) * 257≤140737488355328)=true:=zqj (by unfold BB at hB; omega)
  refine ⟨k',by omega,b2,b3,?_⟩
  rw [H8,Y0 l hB,ob,a4,zp rfl,w1 (by omega),a5,ob]
  simp only [r1,zqf,zqa,zw,zt]
  rw [b4]
  simp
theorem J1l {bd:List B0}(hb:Fn bd){m:Str}(hm:Z16 m){k:Nat}{w r:Str}(hw:kwB w=true)(he:C1j w=true)(hr:NN ld r)(hk:k≤l.length){u:Str}(hu:Z16 u)(hA:At C l k (B0.lines bd m++(u++(w++r)))) :
  ∃ k',k≤k'∧k' < l.length∧(∃ x,l[k']?=some x∧x.Kind=2∧x.Text=w)∧At C l (k'+1) r∧K7 l k=some (bd,((k':Nat):Int),true)∧((w == [118,97,114])=false→isT l k [118,97,114]=false):=by
 obtain ⟨k',a1,a2,a3,a4⟩:=D1g hl bd (fun s hs=>X1x (C:=C) hl s (hb.mem hs)) m k _ hm hk hA
 obtain ⟨p1,p2⟩:=At.kw hw hr (At.tabs hu a3)
 have hp:=P1 p1
 obtain ⟨_,b2⟩:=a4 (U1w p1 he)
 have hs:=b2 [] (Nat.zero_le _)
 refine ⟨k',a1,hp,p1,p2,by rw [K7,hs]; rfl,fun hwv=>?_⟩
 cases hT:isT l k [118,97,114] with
 | false=>rfl
 | true=>
  have hbeg:beg l k=false:=by
   have n:=fun t ht=>S8 hT (t':=t) ht
   unfold beg
   rw [(O7 hT).1,n _ rfl,n _ rfl,n _ rfl,n _ rfl,n _ rfl,n _ rfl]
   rfl
  have e1:Yi l (k:Int)=some (beg l k):=F13 hl k
  rw [P5,e1,ob,hbeg] at hs
  injection hs with hs
  injection hs with _ hs
  injection hs with hs _
  have hkk:k=k':=by omega
  subst hkk
  rw [W2 p1,hwv] at hT
  cases hT
theorem V1w {nm:Str}{t:E0}{v:A0}{ps vs:List C0}{bd:List B0}(hn:P3 nm=true)(ht:Vg t)(hv:Vr v)(hp:∀ x∈ps,∃ n t,Hx x n t 0)(hs:∀ x∈vs,∃ n t i,Hx x n t i)(hb:Fn bd){k:Nat}{r:Str}
  (hA:At C l k (Hz (.mk 6 nm t 0 v ps vs bd)++r)):∃ k',k < k'∧k'≤l.length∧At C l k' r∧isT l k [102,117,110,99]=true∧Gg l ((k+1:Nat):Int)=some (.mk 6 nm t 0 v ps vs bd,((k':Nat):Int),true):=by
 have hB:=hl.1
 have e:Hz (.mk 6 nm t 0 v ps vs bd)++r=[102,117,110,99]++(32::(nm++(40::(Qm true ps++(41::58::32::(t.text++(32::123::10::(Di vs++(B0.lines bd [9]++([9]++([114,101,116,117,114,110]++(32::(v.text++(59::10::125::10::r)))))))))))))):=by
  unfold Hz; simp
 rw [e] at hA
 obtain ⟨p1,p2⟩:=At.kw (w:=[102,117,110,99]) (by decide +kernel) (by exact rfl) hA
 obtain ⟨q1,q2,q3⟩:=At.nm hn (by exact rfl) (At.sp p2)
 obtain ⟨u1,u2⟩:=At.p1 (by decide) q3
 have hq:=T6 q1
 have hu:=P1 u1
 have j2:∀ (y1:Str×Int×Bool) (j:Nat),y1.1=nm→At C l j (41::58::32::(t.text++(32::123::10::(Di vs++(B0.lines bd [9]++([9]++([114,101,116,117,114,110]++(32::(v.text++(59::10::125::10::r))))))))))→
   ∃ k',j < k'∧k'≤l.length∧At C l k' r∧O6 l y1 ps j=some (.mk 6 nm t 0 v ps vs bd,((k':Nat):Int),true):=by
  intro y1 j hy hj
  obtain ⟨a1,a2⟩:=At.p1 (by decide) hj
  obtain ⟨b1,b2⟩:=At.p1 (by decide) a2
  obtain ⟨k2,c1,c2,c3,c4⟩:=K1n hl t ht (j+1+1) _ (by exact rfl) (At.sp b2)
  obtain ⟨d1,d2⟩:=At.p1 (by decide) (At.sp c3)
  have hd:=P1 d1
  obtain ⟨k3,f1,f2,f3,f4⟩:=W1u hl y1 (t,((k2:Nat):Int),true) ps vs hs [] (k2+1) _ (by omega) (Nat.zero_le _) (At.nl d2)
  obtain ⟨k4,g1,g2,g3,g4,g5,g6⟩:=J1l hl hb (m:=[9]) (fun c hc=>by simpa using hc) (w:=[114,101,116,117,114,110]) (by decide +kernel) (by decide) (by exact rfl) f2 (u:=[9]) (fun c hc=>by simpa using hc) f3
  obtain ⟨k5,h1,h2⟩:=(Kn (C:=C) hl v hv).rd (k4+1) _ (by exact rfl) (At.sp g4)
  obtain ⟨i1,i2⟩:=At.p1 (by decide) h2
  obtain ⟨m1,m2⟩:=At.p1 (by decide) (At.nl i2)
  have hi:=P1 i1
  have hm:=P1 m1
  have ha:=P1 a1
  have hb':=P1 b1
  have:=h1.lt
  refine ⟨k5+1+1,by omega,by omega,At.nl m2,?_⟩
  unfold O6
  rw [G13 hl,D2 a1,zp (by decide),D2 b1,zp (by decide),ob]
  simp only [zqf,zqa,zw]
  rw [c4,ob]
  simp only [zqf,zqg,zt,zql]
  rw [Y0 l hB,ob,D2 d1]
  simp only [zqm,zqf,zqa,zw]
  rw [w1 (by omega),f4,H8,Y0 l hB,ob,g6 (by decide),zn (by simp),g5,ob]
  simp only [zqf,zqg,zt,zql]
  rw [Y0 l hB,ob,W2 g3]
  simp only [zqm,zqf,zqa,zw]
  rw [w1 (by omega),h1.c (Qk i1 (by decide)),ob]
  simp only [zqf,zqa,zw]
  rw [G13 hl,D2 i1,zp (by decide),D2 m1,zp (by decide),ob,hy]
  rfl
 have head:∀ y,(B1 l ((k+1+1+1:Nat):Int) [41]>>=fun x3=>if (!x3)=true then V5 l (nm,((k+1+1:Nat):Int),true) [] ((k+1+1+1:Nat):Int) else O6 l (nm,((k+1+1:Nat):Int),true) [] ((k+1+1+1:Nat):Int))=some y→Gg l ((k+1:Nat):Int)=some y:=fun y hy=>by
  unfold Gg
  rw [D7 l hB,q1,zp rfl,ob]
  simp only [zqf,zqg,zt,zql]
  rw [Y0 l hB,ob,D2 u1]
  simp only [zqm,zqf,zqa,zw]
  rw [w1 (by omega),q2]
  exact hy
 cases ps with
 | nil=>
  obtain ⟨k',a1,a2,a3,a4⟩:=j2 (nm,((k+1+1:Nat):Int),true) (k+1+1+1) rfl u2
  obtain ⟨v1,_⟩:=At.p1 (by decide) (show At C l (k+1+1+1) (41::_) from u2)
  refine ⟨k',by omega,a2,a3,by rw [W2 p1]; rfl,head _ ?_⟩
  rw [Y0 l hB,ob,D2 v1]
  simp only [zqm,zqf,zqa,zw]
  exact a4
 | cons x ps=>
  obtain ⟨k2,b1,b2,b3,b4,b5⟩:=I1l hl (nm,((k+1+1:Nat):Int),true) (x::ps) hp (List.cons_ne_nil _ _) [] (k+1+1+1) _ (Nat.zero_le _) u2
  obtain ⟨k',a1,a2,a3,a4⟩:=j2 (nm,((k+1+1:Nat):Int),true) k2 rfl b3
  refine ⟨k',by omega,a2,a3,by rw [W2 p1]; rfl,head _ ?_⟩
  rw [Y0 l hB,ob,V16 b4]
  simp only [zqg,zt]
  rw [b5,List.nil_append]
  exact a4
theorem P1c {k:Nat}{t:Str}(h:isT l k t=true)(ht:(t == [116,121,112,101]||(t == [115,101,99,114,101,116]||(t == [112,117,98,108,105,99]||(t == [114,97,110,100,111,109]||(t == [118,97,114]||(t == [104,97,116,99,104]||t == [102,117,110,99]))))))=true):dcl l k=true:=by
 unfold dcl
 simp only [Bool.or_eq_true,beq_iff_eq] at ht ⊢
 rcases ht with rfl | rfl | rfl | rfl | rfl | rfl | rfl
 ·exact .inl h
 ·exact .inr (.inl h)
 ·exact .inr (.inr (.inl h))
 ·exact .inr (.inr (.inr (.inl h)))
 ·exact .inr (.inr (.inr (.inr (.inl h))))
 ·exact .inr (.inr (.inr (.inr (.inr (.inl h)))))
 ·exact .inr (.inr (.inr (.inr (.inr (.inr h)))))
theorem E1j {k:Nat}{t:Str}(h:∃ x,l[k]?=some x∧x.Kind=2∧x.Text=t):∃ x,idx l (k:Int)=some x∧x.Text=t:=by
 obtain ⟨x,a,_,b⟩:=h
 exact ⟨x,by rw [Up]; exact a,b⟩
theorem X1u {d:C0}(h:Lt d){k:Nat}{r:Str}(hA:At C l k (N7 d++r)):∃ k',k < k'∧k'≤l.length∧At C l k' r∧dcl l k=true∧W5 l k=some (d,((k':Nat):Int),true):=by
 have hB:=hl.1
 cases h with
 | var d nm t i h=>
  have e:N7 d=Hr d:=by rw [h.e]; rfl
  rw [e] at hA
  obtain ⟨k',a1,a2,a3,a4,a5⟩:=T1q hl h hA
  have hlt:=N1 a4
  refine ⟨k',a1,a2,a3,P1c hl a4 (by decide),?_⟩
  unfold W5
  rw [Y0 l hB,ob,a4,zp rfl,w1 (by omega),a5,ob]
 | fn nm t v ps vs bd hn ht hv hp hs hb=>
  obtain ⟨k',a1,a2,a3,a4,a5⟩:=V1w hl hn ht hv hp hs hb hA
  have hlt:=N1 a4
  refine ⟨k',a1,a2,a3,P1c hl a4 (by decide),?_⟩
  unfold W5
  rw [Y0 l hB,ob,S8 a4 (by decide),zn (by simp),Y0 l hB,ob,a4,zp rfl,w1 (by omega),a5,ob]
 | hat nm t v hn ht hv=>
  have e:N7 (.mk 5 nm t 0 v [] [] [])++r=[104,97,116,99,104]++(32::(O8 nm t++(32::61::32::(v.text++(59::10::r))))):=by
   show [104,97,116,99,104,32]++O8 nm t++[32,61,32]++v.text++[59,10]++r=_
   simp
  rw [e] at hA
  obtain ⟨p1,p2⟩:=At.kw (w:=[104,97,116,99,104]) (by decide +kernel) (by exact rfl) hA
  have hT:isT l k [104,97,116,99,104]=true:=by rw [W2 p1]; rfl
  obtain ⟨k1,a1,a2,a3,a4,a5⟩:=A17 hl hn ht (by exact rfl) (At.sp p2)
  obtain ⟨q1,q2⟩:=At.n1 (c:=61) (d:=32) (by decide) (by decide) rfl (At.sp a3)
  obtain ⟨k2,b1,b2⟩:=(Kn (C:=C) hl v hv).rd (k1+1) _ (by exact rfl) (At.sp q2)
  obtain ⟨u1,u2⟩:=At.p1 (by decide) b2
  have hp:=P1 p1
  have hq:=P1 q1
  have hu:=P1 u1
  have:=b1.lt
  obtain ⟨x,x1,x2⟩:=E1j hl p1
  refine ⟨k2+1,by omega,by omega,At.nl u2,P1c hl hT (by decide),?_⟩
  unfold W5
  rw [Y0 l hB,ob,S8 hT (by decide),zn (by simp),Y0 l hB,ob,S8 hT (by decide),zn (by simp),Y0 l hB,ob,S8 hT (by decide),zn (by simp),x1,ob,w1 (by omega),a5,ob,x2]
  simp only [zqf,zqa,zw]
  rw [zn (by decide),zn (by decide),zn (by decide),Y0 l hB,ob,D2 q1]
  simp only [zqm,zqf,zqa,zw]
  rw [w1 (by omega),b1.c (Qk u1 (by decide)),ob]
  simp only [zqf,zqa,zw]
  unfold X2
  rw [Y0 l hB,ob,D2 u1]
  simp only [zqm,zqf,zqa,zw]
  rw [w1 (by omega)]
 | plain kd nm t hk hn ht=>
  by_cases h0:kd=0
  ·subst h0
   have e:N7 (.mk 0 nm t 0 z [] [] [])++r=[116,121,112,101]++(32::(nm++(32::61::32::(t.text++(59::10::r))))):=by
    show [116,121,112,101,32]++nm++[32,61,32]++t.text++[59,10]++r=_
    simp
   rw [e] at hA
   obtain ⟨p1,p2⟩:=At.kw (w:=[116,121,112,101]) (by decide +kernel) (by exact rfl) hA
   have hT:isT l k [116,121,112,101]=true:=by rw [W2 p1]; rfl
   obtain ⟨q1,q2,q3⟩:=At.nm hn (by exact rfl) (At.sp p2)
   obtain ⟨u1,u2⟩:=At.n1 (c:=61) (d:=32) (by decide) (by decide) rfl (At.sp q3)
   obtain ⟨k2,c1,c2,c3,c4⟩:=K1n hl t ht (k+1+1+1) _ (by exact rfl) (At.sp u2)
   obtain ⟨v1,v2⟩:=At.p1 (by decide) c3
   have hp:=P1 p1
   have hq:=T6 q1
   have hu:=P1 u1
   have hv:=P1 v1
   refine ⟨k2+1,by omega,by omega,At.nl v2,P1c hl hT (by decide),?_⟩
   unfold W5
   rw [Y0 l hB,ob,S8 hT (by decide),zn (by simp),Y0 l hB,ob,S8 hT (by decide),zn (by simp),Y0 l hB,ob,hT,zp rfl,w1 (by omega),D7 l hB,q1,zp rfl,ob]
   simp only [zqf,zqg,zt,zql]
   rw [Y0 l hB,ob,D2 u1]
   simp only [zqm,zqf,zqa,zw]
   rw [w1 (by omega),c4,ob]
   simp only [zqf,zqg,zt,zql]
   rw [Y0 l hB,ob,D2 v1]
   simp only [zqm,zqf,zqa,zw]
   rw [w1 (by omega),q2]
  ·have key:∀ (w:Str),kwB w=true→(w == [118,97,114])=false→(w == [102,117,110,99])=false→(w == [116,121,112,101])=false→N7 (.mk kd nm t 0 z [] [] [])=w++[32]++O8 nm t++[59,10]→
     (w == [116,121,112,101]||(w == [115,101,99,114,101,116]||(w == [112,117,98,108,105,99]||(w == [114,97,110,100,111,109]||(w == [118,97,114]||(w == [104,97,116,99,104]||w == [102,117,110,99]))))))=true→
     (∀ (y:C0×Int×Bool),(if (w == [115,101,99,114,101,116])=true then X2 l 1 y y.1.Value y.2.1 else if (w == [112,117,98,108,105,99])=true then X2 l 2 y y.1.Value y.2.1 else if (w == [114,97,110,100,111,109])=true then X2 l 3 y y.1.Value y.2.1 else none)=X2 l kd y y.1.Value y.2.1)→
     (w == [115,101,99,114,101,116]||w == [112,117,98,108,105,99]||w == [114,97,110,100,111,109])=true→
     ∃ k',k < k'∧k'≤l.length∧At C l k' r∧dcl l k=true∧W5 l k=some (.mk kd nm t 0 z [] [] [],((k':Nat):Int),true):=by
    intro w hw w1' w2' w3' he hd hsel hin
    have e:N7 (.mk kd nm t 0 z [] [] [])++r=w++(32::(O8 nm t++(59::10::r))):=by rw [he]; simp
    rw [e] at hA
    obtain ⟨p1,p2⟩:=At.kw hw (by exact rfl) hA
    have hT:isT l k w=true:=by rw [W2 p1]; simp
    obtain ⟨k1,a1,a2,a3,a4,a5⟩:=A17 hl hn ht (by exact rfl) (At.sp p2)
    obtain ⟨u1,u2⟩:=At.p1 (by decide) a3
    have hp:=P1 p1
    have hu:=P1 u1
    obtain ⟨x,x1,x2⟩:=E1j hl p1
    refine ⟨k1+1,by omega,by omega,At.nl u2,P1c hl hT hd,?_⟩
    have fin:X2 l kd (.mk 4 nm t 0 z [] [] [],((k1:Nat):Int),true) z k1=some (.mk kd nm t 0 z [] [] [],((k1+1:Nat):Int),true):=by
     unfold X2
     rw [Y0 l hB,ob,D2 u1]
     simp only [zqm,zqf,zqa,zw]
     rw [w1 (by omega)]
    have hsel':=hsel (.mk 4 nm t 0 z [] [] [],((k1:Nat):Int),true)
    unfold W5
    rw [Y0 l hB,ob,S8 hT w1',zn (by simp),Y0 l hB,ob,S8 hT w2',zn (by simp),Y0 l hB,ob,S8 hT w3',zn (by simp),x1,ob,w1 (by omega),a5,ob,x2]
    simp only [zqf,zqa,zw]
    cases s1:w == [115,101,99,114,101,116] with
    | true=>rw [s1] at hsel'; simp only [zt] at hsel' ⊢; rw [hsel']; exact fin
    | false=>
     cases s2:w == [112,117,98,108,105,99] with
     | true=>rw [s1,s2] at hsel'; simp only [zt,zqa,zw] at hsel' ⊢; rw [hsel']; exact fin
     | false=>
      cases s3:w == [114,97,110,100,111,109] with
      | true=>rw [s1,s2,s3] at hsel'; simp only [zt,zqa,zw] at hsel' ⊢; rw [hsel']; exact fin
      | false=>rw [s1,s2,s3] at hin; cases hin
   rcases hk with hk | hk | hk | hk
   ·exact absurd hk h0
   ·subst hk; exact key [115,101,99,114,101,116] (by decide +kernel) (by decide) (by decide) (by decide) (by show [115,101,99,114,101,116,32]++O8 nm t++[59,10]=_; simp) (by decide) (fun y=>rfl) (by decide)
   ·subst hk; exact key [112,117,98,108,105,99] (by decide +kernel) (by decide) (by decide) (by decide) (by show [112,117,98,108,105,99,32]++O8 nm t++[59,10]=_; simp) (by decide) (fun y=>rfl) (by decide)
   ·subst hk; exact key [114,97,110,100,111,109] (by decide +kernel) (by decide) (by decide) (by decide) (by show [114,97,110,100,111,109,32]++O8 nm t++[59,10]=_; simp) (by decide) (fun y=>rfl) (by decide)
theorem K1l {bd:List B0}(hb:Fn bd):∀ (ds:List C0),(∀ d∈ds,Lt d)→∀ (out:List C0) (k:Nat),k≤l.length→out.length≤k→At C l k (Mk ds++([98,101,103,105,110]++(10::(B0.lines bd [9]++([]++([101,110,100]++[10]))))))→
  ∃ k',k'≤l.length∧At C l k' []∧Tb l out k=some (.mk (out++ds) bd,((k':Nat):Int),true):=by
 intro ds
 induction ds with
 | nil=>
  intro _ out k hk ho hA
  have hB:=hl.1
  rw [show Mk []=[] from rfl,List.nil_append] at hA
  obtain ⟨p1,p2⟩:=At.kw (w:=[98,101,103,105,110]) (by decide +kernel) (by exact rfl) hA
  have hp:=P1 p1
  obtain ⟨k2,a1,a2,a3,a4,a5,_⟩:=J1l hl hb (m:=[9]) (fun c hc=>by simpa using hc) (w:=[101,110,100]) (by decide +kernel) (by decide) (r:=[10]) (by exact rfl) (k:=k+1) (by omega) (u:=[]) (fun c hc=>by cases hc) (At.nl p2)
  refine ⟨k2+1,by omega,At.nl a4,?_⟩
  have hd:dcl l k=false:=by
   unfold dcl
   simp only [W2 p1]
   decide
  rw [Tb,H13 hl,ob,hd,zn (by simp),Y0 l hB,ob,W2 p1]
  simp only [zqm,zqf,zqa,zw]
  rw [w1 (by omega),a5,ob]
  simp only [zqf,zqg,zt,zql]
  rw [Y0 l hB,ob,W2 a3]
  simp only [zqm,zqf,zqa,zw]
  rw [w1 (by omega),List.append_nil]
 | cons d ds ih=>
  intro h out k hk ho hA
  have hB:=hl.1
  have e:Mk (d::ds)++([98,101,103,105,110]++(10::(B0.lines bd [9]++([]++([101,110,100]++[10])))))=N7 d++(Mk ds++([98,101,103,105,110]++(10::(B0.lines bd [9]++([]++([101,110,100]++[10])))))):=by simp [Mk]
  rw [e] at hA
  obtain ⟨k1,a1,a2,a3,a4,a5⟩:=X1u hl (h d zqp) hA
  obtain ⟨k',b1,b2,b3⟩:=ih (fun x hx=>h x (zqq _ hx)) (out++[d]) k1 a2 (by rw [zqc]; simp only [List.length_singleton]; omega) a3
  have r1:decide ((out.length+1) * 257≤140737488355328)=true:=zqj (by unfold BB at hB; omega)
  refine ⟨k',b1,b2,?_⟩
  rw [Tb,H13 hl,ob,a4,zp rfl,a5,ob]
  simp only [r1,zqf,zqa,zw,zt]
  rw [b3]
  simp
end
theorem U1q {p:O0}(h:Wf p=0):C0.alls Nb p.Decls=true∧B0.alls Ia p.Body=true:=by
 unfold Wf Fh at h
 cases hn:(C0.alls Nb p.Decls&&B0.alls Ia p.Body) with
 | true=>rw [zqi] at hn; exact hn
 | false=>
  rw [hn] at h
  cases hb:(bif decide ((X10 p:Int) > 1024) then true else decide ((Y10 p:Int) > 12)) <;> rw [hb] at h
  ·cases hf:(C0.alls H6 p.Decls&&B0.alls V6 p.Body) <;> rw [hf] at h <;> cases h
  ·cases h
theorem V1q {p:O0}(ho:OkP p)(hs:C0.bulks p.Decls+B0.bulks p.Body≤1048576)(hc:Wf p=0)(h8:(Tp p).length≤8192):Wi (Tp p)=some (p,0,0):=by
 obtain ⟨fd,fb,_⟩:=O1i ho hs hc
 obtain ⟨nd,nb⟩:=U1q hc
 have hb:Fn p.Body:=⟨fb,nb⟩
 have hd:∀ d∈p.Decls,Lt d:=fun d hd=>S1q fd nd hd
 have e:Tp p=Mk p.Decls++([98,101,103,105,110]++(10::(B0.lines p.Body [9]++([]++([101,110,100]++[10]))))):=by unfold Tp; simp
 have t0:=O1f h8
 obtain ⟨k1,_,a2,_⟩:=K1l t0 hb p.Decls hd [] 0 (Nat.zero_le _) (Nat.zero_le _) (by rw [← e]; exact C1l (Tp p))
 obtain ⟨b1,_⟩:=M1c a2
 obtain ⟨c1,c2⟩:=D1l h8 b1
 obtain ⟨t1,_⟩:=Dx c1
 obtain ⟨k2,d1,d2,d3⟩:=K1l t1 hb p.Decls hd [] 0 (Nat.zero_le _) (Nat.zero_le _) (by rw [← e]; exact c2)
 obtain ⟨_,d4⟩:=M1c d2
 obtain ⟨v,j,ok,r1,r2,r3,_⟩:=L1q (Tp p) c1
 unfold Jn at r1
 have m5:=r1.symm.trans d3
 injection m5 with m5
 injection m5 with m6 m7
 injection m7 with m7 m8
 have hv:v=p:=by rw [m6,List.nil_append]
 subst hv; subst m8
 rw [r3]
 unfold H1n
 have:(j == (N5 (Tp v)).1.length)=true:=by rw [beq_iff_eq]; omega
 rw [this,Bool.true_and,zp rfl,hc]
 rfl
theorem B17 (p:O0)(hp:p.bulk≤1048576)(hk:Uk=some true):Zg p=some true:=by
 have ho:OkP p:=K1q (by omega)
 have hs:=T1p hp
 unfold Zg
 rw [hk,ob]
 simp only [zqf,zqa,zw]
 obtain ⟨f,hf⟩:=O1p p ho 400
 rw [hf,ob]
 cases f with
 | false=>rfl
 | true=>
  simp only [zqf,zqa,zw]
  rw [S1p p ho hs,ob]
  by_cases h0:(Yw p).2=0
  ·have hc:Wf p=0:=by
    unfold Yw at h0
    cases hb:Wf p != 0 with
    | true=>rw [hb] at h0; exact h0
    | false=>simpa using hb
   have hpp:Yw p=(Tp p,0)∧(Tp p).length≤8192:=by
    unfold Yw at h0 ⊢
    rw [hc] at h0 ⊢
    rcases U1j (Tp p) with h | h
    ·exact h
    ·exact absurd h0 h
   rw [hpp.1]
   simp only [bne_self_eq_false,zqa,zw]
   rw [V1q ho hs hc hpp.2,ob]
   simp only [zqm,zqk,zt]
   rw [N1s p p ho,F1n,ob]
  ·have hb:((Yw p).2 != 0)=true:=by simpa using h0
   rw [hb,zp rfl]
def exA:A0:=.mk 9 0 [] [.mk 9 0 [] [.mk 3 0 [97] [],.mk 3 0 [98] []],.mk 4 0 [100] [.mk 5 0 [] [.mk 3 0 [99] [],.mk 0 1 [] []]]]
def exB:Str:=[97,32,61,61,32,98,32,61,61,32,99]
def exL:List K0:=[⟨0,[97],0⟩,⟨3,[61,61],2⟩,⟨0,[98],5⟩,⟨3,[61,61],7⟩,⟨0,[99],10⟩]
def exE:A0:=.mk 13 0 [] [.mk 3 0 [97] [],.mk 3 0 [98] []]
theorem X17:N5 exB=(exL,0,0):=by kernel_rfl
theorem B1t:U1 exL ((0:Nat):Int)=some (exE,((3:Nat):Int),true):=by
 have hl:Ee exL:=by
  have:=(Dx (s:=exB) (by rw [X17])).1
  rw [X17] at this
  exact this
 have hB:=hl.1
 have pl:∀ (k:Nat) (w:Str),L3 exL k 0=true→txt exL k=w→TPl exL (k+1)→k < 5→M3 exL k=some (.mk 3 0 w [],((k+1:Nat):Int),true):=fun k w h1 h2 h3 h4=>by
  refine A1j hl h1 ?_
  rw [T7,D7 exL hB,h1,zp rfl,ob,h2]
  simp only [zqf,zqa,zw]
  exact I13 hl h3 _ _ _ _
 have b:∀ (k:Nat) (m:Int),k=1∨k=3→S4 exL (k:Int) m=some (13,(3:Int) == m):=fun k m hk=>by
  rw [Ug]
  rcases hk with rfl | rfl <;> rfl
 have st:∀ k:Nat,k=1∨k=3→TSt exL k 4:=fun k hk=>by
  refine ⟨?_,fun m h1 _=>⟨13,by rw [b k m hk,zqn.2 (by omega)]⟩⟩
  rcases hk with rfl | rfl <;> exact ⟨rfl,rfl⟩
 have a0:=Ir hl (zqr _) (Z1i hl (pl 0 [97] rfl rfl (st 1 (.inl rfl)).1 (by decide))) 2 4 rfl (st 1 (.inl rfl))
 have a2:=Ir hl (zqr _) (Z1i hl (pl 2 [98] rfl rfl (st 3 (.inr rfl)).1 (by decide))) 2 4 rfl (st 3 (.inr rfl))
 have l3:J1 exL ((0:Nat):Int) ((3:Nat):Int)=some (exE,((3:Nat):Int),true):=by
  rw [X16 hl a0 (by decide),O1,b 1 _ (.inl rfl),ob]
  simp only [zqf,zqa,zw,show ((3:Int) == ((3:Nat):Int))=true from rfl]
  rw [show IntKind.i64.wrap (((1:Nat):Int)+1)=((2:Nat):Int) by decide,show IntKind.i64.wrap (((3:Nat):Int)+1)=((4:Nat):Int) by decide,a2,ob]
  rfl
 have l2:J1 exL ((0:Nat):Int) ((2:Nat):Int)=some (exE,((3:Nat):Int),true):=by
  rw [X16 hl l3 (by decide),O1,b 3 _ (.inr rfl),ob]
  rfl
 have l1:J1 exL ((0:Nat):Int) ((1:Nat):Int)=some (exE,((3:Nat):Int),true):=by
  rw [X16 hl l2 (by decide),O1,b 3 _ (.inr rfl),ob]
  rfl
 exact toX hl l1 rfl
theorem N18:Uk=some true:=by
 have ho:OkE exA:=by unfold OkE BB; decide +kernel
 have hc:Sl exA=0:=by decide +kernel
 have e1:exA.text=[97,32,45,32,98,32,45,32,99,91,49,93,46,100]:=by decide +kernel
 have p1:=R1q (L1s ho hc) (by rw [e1]; decide) hc
 rw [e1] at p1
 have p2:E9 exB=some (A0.mk 0 0 [] [],7,6):=by
  obtain ⟨v,j,ok,r1,r2,r3,_⟩:=Q13 exB (by rw [X17])
  rw [X17] at r1 r2 r3
  rw [B1t] at r1
  generalize exE=w at r1
  generalize hn:(3:Nat)=n at r1
  cases r1
  rw [r3]
  subst hn
  rfl
 unfold Uk Fm
 rw [p1,ob,ob,ob,ob]
 rw [show ([97,32,61,61,32,98,32,61,61,32,99]:Str)=exB from rfl,p2,ob]
 have q:Z3 exA exA=some true:=by rw [Km exA ho,Rp]
 simp only [zqm,zt,zqk]
 rw [show (A0.mk 9 0 [] [(A0.mk 9 0 [] [A0.mk 3 0 [97] [],A0.mk 3 0 [98] []]),(A0.mk 4 0 [100] [(A0.mk 5 0 [] [A0.mk 3 0 [99] [],(A0.mk 0 1 [] [])])])])=exA from rfl,q,ob]
 rfl
end Go.Proofs.YtmnhfbekncjnfaaGreatDoor

