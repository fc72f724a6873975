/- A part of the proof of TypecheckNames. -/
import Derived.Test.YtdkabnfphmmmnaaGreatDoorPlA
import Derived.ProofKit
set_option linter.unusedSimpArgs false
set_option linter.unusedVariables false
namespace Go.Proofs.YtdkabnfphmmmnaaGreatDoor
open Go.Am
end Go.Proofs.YtdkabnfphmmmnaaGreatDoor

set_option linter.unusedSimpArgs false
set_option linter.unusedVariables false
namespace Go.Proofs.YtdkabnfphmmmnaaGreatDoor
open Go.Am
end Go.Proofs.YtdkabnfphmmmnaaGreatDoor

set_option linter.unusedSimpArgs false
set_option linter.unusedVariables false
namespace Go.Proofs.YtdkabnfphmmmnaaGreatDoor
open Go.Am
end Go.Proofs.YtdkabnfphmmmnaaGreatDoor

set_option linter.unusedSimpArgs false
set_option linter.unusedVariables false
namespace Go.Proofs.YtdkabnfphmmmnaaGreatDoor
open Go.Am
theorem O1r {p:O0}(h:(tck p).2=0):Y6 p=0∧Dl p.Decls p.Decls [] 0 < 0∧Wu p p.Decls 0=none∧Ix p=0∧E19 p=0:=by
 have dz:∀ (r:List D0) (k:Nat) z,Wu p r k=some z→z.2≠0:=by
  intro r
  induction r with
  | nil=>intro k z h; cases h
  | cons d r ih=>
   intro k z h
   simp only [Wu] at h
   by_cases hz:Eq p k d=0
   ·rw [hz] at h; exact ih (k+1) z h
   ·rw [show (Eq p k d != 0)=true by simpa [bne] using hz] at h
    cases h
    exact hz
 unfold tck at h
 by_cases h1:Y6 p=0
 ·rw [h1] at h
  simp only [bne_self_eq_false,cond_false] at h
  by_cases h2:Dl p.Decls p.Decls [] 0≥0
  ·rw [decide_eq_true h2] at h; simp at h
  ·rw [decide_eq_false h2] at h
   simp only [cond_false] at h
   cases h3:Wu p p.Decls 0 with
   | some z=>rw [h3] at h; exact absurd h (dz _ _ _ h3)
   | none=>
    rw [h3] at h
    simp only at h
    by_cases h4:Ix p=0
    ·rw [h4] at h
     simp only [bne_self_eq_false,cond_false] at h
     exact ⟨h1,by omega,rfl,h4,h⟩
    ·rw [show (Ix p != 0)=true by simpa [bne] using h4] at h
     exact absurd h h4
 ·rw [show (Y6 p != 0)=true by simpa [bne] using h1] at h
  exact absurd h h1
theorem O1t {p:O0}(hb:p.bulk≤4200000)(h:(tck p).2=0):CkP p:=CkP.of hb (O1r h).1
theorem J1p {p:O0}(hb:p.bulk≤4200000){e:B0}(ho:OkE e):Ed p e=some (rgT (tOf p (tck p).2 e)):=N1r hb (Bz hb) (O1t hb) ho
def W1u (p:O0):Int×Int:=bif (tck p).2 != 0 then (0,(tck p).2) else ((amP p).steps,0)
theorem K1p {p:O0}(hb:p.bulk≤4200000):Tf p=some (W1u p):=by
 unfold Tf W1u
 rw [Bz hb,ob,I1b p (Zy hb),ob]
 exact ifB _ _ _
theorem P1t:Vi=some true:=by
 unfold Vi
 simp only [Bi,Oj,Qk,ob]
 rw [Bz (by decide),ob,Bz (by decide),K1p (by decide)]
 simp only [show ∀ (a b:C0),idx [a,b] 0=some a from fun _ _=>rfl,ob]
 rw [J1p (by decide) (by unfold OkE; decide)]
 simp only [ob]
 kernel_rfl
end Go.Proofs.YtdkabnfphmmmnaaGreatDoor

set_option linter.unusedSimpArgs false
set_option linter.unusedVariables false
namespace Go.Proofs.YtdkabnfphmmmnaaGreatDoor
open Go.Am
end Go.Proofs.YtdkabnfphmmmnaaGreatDoor

set_option linter.unusedSimpArgs false
set_option linter.unusedVariables false
namespace Go.Proofs.YtdkabnfphmmmnaaGreatDoor
open Go.Am
structure Rn (σ:Str→Str):Prop where
 inv:∀ a,σ (σ a)=a
 nm:∀ a,T2 (σ a)=T2 a
 nil:σ []=[]
variable {σ:Str→Str}
theorem Rn.beq (h:Rn σ)(a b:Str):(σ a == σ b)=(a == b):=by
 by_cases e:a=b
 ·subst e; rw [beq_self_eq_true,beq_self_eq_true]
 ·have:σ a≠σ b:=fun q=>e (by rw [← h.inv a,q,h.inv])
  rw [beq_eq_false_iff_ne.2 e,beq_eq_false_iff_ne.2 this]
mutual
def B0.rn (σ:Str→Str):B0→B0
 | .mk o n s ks=>.mk o n (bif o == 3 then σ s else s) (B0.rns σ ks)
def B0.rns (σ:Str→Str):List B0→List B0
 | []=>[]
 | x::r=>B0.rn σ x::B0.rns σ r
end
mutual
def A0.rn (σ:Str→Str):A0→A0
 | .mk k l h s n ns of=>.mk k l h s (bif k == 4 then σ n else n) ns (A0.rns σ of)
def A0.rns (σ:Str→Str):List A0→List A0
 | []=>[]
 | x::r=>A0.rn σ x::A0.rns σ r
end
mutual
def C0.rn (σ:Str→Str):C0→C0
 | .mk v pl va nm ar n lo hi ns th el=>.mk v (pl.rn σ) (va.rn σ) (bif uNm v then σ nm else nm) (B0.rns σ ar) n lo hi ns (C0.rns σ th) (C0.rns σ el)
def C0.rns (σ:Str→Str):List C0→List C0
 | []=>[]
 | x::r=>C0.rn σ x::C0.rns σ r
end
mutual
def D0.rn (σ:Str→Str):D0→D0
 | .mk k nm t i v ps vs bd=>.mk k (σ nm) (t.rn σ) i (v.rn σ) (D0.rns σ ps) (D0.rns σ vs) (C0.rns σ bd)
def D0.rns (σ:Str→Str):List D0→List D0
 | []=>[]
 | x::r=>D0.rn σ x::D0.rns σ r
end
def O0.rn (σ:Str→Str)(p:O0):O0:=.mk (D0.rns σ p.Decls) (C0.rns σ p.Body)
theorem B0.rns_map:∀ l,B0.rns σ l=l.map (B0.rn σ)
 | []=>rfl
 | x::r=>by rw [B0.rns,B0.rns_map r]; rfl
theorem A0.rns_map:∀ l,A0.rns σ l=l.map (A0.rn σ)
 | []=>rfl
 | x::r=>by rw [A0.rns,A0.rns_map r]; rfl
theorem C0.rns_map:∀ l,C0.rns σ l=l.map (C0.rn σ)
 | []=>rfl
 | x::r=>by rw [C0.rns,C0.rns_map r]; rfl
theorem D0.rns_map:∀ l,D0.rns σ l=l.map (D0.rn σ)
 | []=>rfl
 | x::r=>by rw [D0.rns,D0.rns_map r]; rfl
theorem B0.rns_len (l:List B0):(B0.rns σ l).length=l.length:=by rw [B0.rns_map,List.length_map]
theorem A0.rns_len (l:List A0):(A0.rns σ l).length=l.length:=by rw [A0.rns_map,List.length_map]
theorem C0.rns_len (l:List C0):(C0.rns σ l).length=l.length:=by rw [C0.rns_map,List.length_map]
theorem D0.rns_len (l:List D0):(D0.rns σ l).length=l.length:=by rw [D0.rns_map,List.length_map]
theorem D0.rns_take (l:List D0)(k:Nat):(D0.rns σ l).take k=D0.rns σ (l.take k):=by rw [D0.rns_map,D0.rns_map,List.map_take]
theorem D0.rns_append (a b:List D0):D0.rns σ (a++b)=D0.rns σ a++D0.rns σ b:=by rw [D0.rns_map,D0.rns_map,D0.rns_map,List.map_append]
mutual
theorem B0.nodes_rn:∀ e:B0,(e.rn σ).nodes=e.nodes
 | .mk o n s ks=>by simp only [B0.rn,B0.nodes]; rw [B0.nodess_rn ks]
theorem B0.nodess_rn:∀ l:List B0,B0.nodess (B0.rns σ l)=B0.nodess l
 | []=>rfl
 | x::r=>by simp only [B0.rns,B0.nodess]; rw [B0.nodes_rn x,B0.nodess_rn r]
end
mutual
theorem B0.depth_rn:∀ e:B0,(e.rn σ).depth=e.depth
 | .mk o n s ks=>by simp only [B0.rn,B0.depth]; rw [B0.depths_rn ks]
theorem B0.depths_rn:∀ l:List B0,B0.depths (B0.rns σ l)=B0.depths l
 | []=>rfl
 | x::r=>by simp only [B0.rns,B0.depths]; rw [B0.depth_rn x,B0.depths_rn r]
end
mutual
theorem B0.all_rn {q:B0→Bool}(h:∀ e,q (e.rn σ)=q e):∀ e:B0,(e.rn σ).all q=e.all q
 | .mk o n s ks=>by
  have:=h (.mk o n s ks)
  simp only [B0.rn,B0.all] at this ⊢
  rw [this,B0.alls_rn h ks]
theorem B0.alls_rn {q:B0→Bool}(h:∀ e,q (e.rn σ)=q e):∀ l:List B0,B0.alls q (B0.rns σ l)=B0.alls q l
 | []=>rfl
 | x::r=>by simp only [B0.rns,B0.alls]; rw [B0.all_rn h x,B0.alls_rn h r]
end
mutual
theorem B0.place_rn:∀ e:B0,(e.rn σ).place=e.place
 | .mk o n s ks=>by simp only [B0.rn,B0.place]; rw [B0.place1_rn ks]
theorem B0.place1_rn:∀ l:List B0,B0.place1 (B0.rns σ l)=B0.place1 l
 | []=>rfl
 | x::r=>by simp only [B0.rns,B0.place1]; exact B0.place_rn x
end
theorem Z1h (e:B0):B2 (e.rn σ)=B2 e:=by
 have hp:=B0.place_rn (σ:=σ) e
 obtain ⟨o,n,s,ks⟩:=e
 simp only [B0.rn] at hp ⊢
 unfold B2 ef1 ef2 ef3 ef4
 rw [hp]
 simp only [B0.rns_len]
 cases o == 3 with
 | false=>rfl
 | true=>simp only [cond_true]; cases (σ s == []) <;> cases (s == []) <;> rfl
theorem F19 (hσ:Rn σ)(e:B0):J4 (e.rn σ)=J4 e:=by
 obtain ⟨o,n,s,ks⟩:=e
 simp only [B0.rn]
 unfold J4
 simp only
 cases o == 3 with
 | false=>rfl
 | true=>exact hσ.nm s
theorem G19 (e:B0):K4 (e.rn σ)=K4 e:=by
 obtain ⟨o,n,s,ks⟩:=e
 rfl
theorem H19 (e:B0):Id (e.rn σ)=Id e:=by
 by_cases h:Id e=true
 ·rw [U18 h]; rfl
 ·by_cases h':Id (e.rn σ)=true
  ·have:=U18 h'
   obtain ⟨o,n,s,ks⟩:=e
   simp only [B0.rn,B0.mk.injEq] at this
   obtain ⟨h1,h2,h3,h4⟩:=this
   subst h1
   cases ks with
   | nil=>subst h2; change s=[] at h3; subst h3; exact absurd rfl h
   | cons x r=>cases h4
  ·rw [Bool.not_eq_true] at h h'
   rw [h,h']
theorem O1m (e:B0)(u:Bool):oN (e.rn σ) u=oN e u:=by unfold oN; rw [H19,B0.nodes_rn]
theorem P1m (e:B0)(u:Bool):oD (e.rn σ) u=oD e u:=by unfold oD; rw [H19,B0.depth_rn]
theorem I1s (e:B0)(u:Bool):oF (e.rn σ) u=oF e u:=by unfold oF; rw [H19,B0.all_rn Z1h]
mutual
theorem A0.nodes_rn:∀ e:A0,(e.rn σ).nodes=e.nodes
 | .mk k l h s n ns of=>by simp only [A0.rn,A0.nodes]; rw [A0.nodess_rn of]
theorem A0.nodess_rn:∀ l:List A0,A0.nodess (A0.rns σ l)=A0.nodess l
 | []=>rfl
 | x::r=>by simp only [A0.rns,A0.nodess]; rw [A0.nodes_rn x,A0.nodess_rn r]
end
mutual
theorem A0.depth_rn:∀ e:A0,(e.rn σ).depth=e.depth
 | .mk k l h s n ns of=>by simp only [A0.rn,A0.depth]; rw [A0.depths_rn of]
theorem A0.depths_rn:∀ l:List A0,A0.depths (A0.rns σ l)=A0.depths l
 | []=>rfl
 | x::r=>by simp only [A0.rns,A0.depths]; rw [A0.depth_rn x,A0.depths_rn r]
end
mutual
theorem A0.all_rn {q:A0→Bool}(h:∀ e,q (e.rn σ)=q e):∀ e:A0,(e.rn σ).all q=e.all q
 | .mk k l h' s n ns of=>by
  have:=h (.mk k l h' s n ns of)
  simp only [A0.rn,A0.all] at this ⊢
  rw [this,A0.alls_rn h of]
theorem A0.alls_rn {q:A0→Bool}(h:∀ e,q (e.rn σ)=q e):∀ l:List A0,A0.alls q (A0.rns σ l)=A0.alls q l
 | []=>rfl
 | x::r=>by simp only [A0.rns,A0.alls]; rw [A0.all_rn h x,A0.alls_rn h r]
end
theorem A1i (t:A0):D3 (t.rn σ)=D3 t:=by
 obtain ⟨k,l,h,s,n,ns,of⟩:=t
 simp only [A0.rn]
 unfold D3 fm1 fm2 fm3 fm4 fm5 fm6
 simp only [A0.rns_len]
 cases k == 4 <;> rfl
theorem L1k (t:A0):H9 (t.rn σ)=H9 t:=by
 obtain ⟨k,l,h,s,n,ns,of⟩:=t
 simp only [A0.rn]
 unfold H9 nm1 nm2
 simp only [A0.rns_len]
theorem B1i (hσ:Rn σ)(t:A0):J5 (t.rn σ)=J5 t:=by
 obtain ⟨k,l,h,s,n,ns,of⟩:=t
 simp only [A0.rn]
 unfold J5 na1
 simp only
 cases k == 4 with
 | false=>rfl
 | true=>simp only [cond_true,hσ.nm]
theorem C1i (t:A0):Vk (t.rn σ)=Vk t:=by
 obtain ⟨k,l,h,s,n,ns,of⟩:=t
 simp only [A0.rn]
 unfold Vk
 simp only [A0.same]
 by_cases hk:k=0
 ·subst hk
  cases of <;> rfl
 ·rw [beq_eq_false_iff_ne.2 hk]
  simp only [Bool.false_and]
theorem S1v (t:A0)(u:Bool):tN (t.rn σ) u=tN t u:=by unfold tN; rw [C1i,A0.nodes_rn]
theorem T1v (t:A0)(u:Bool):tD (t.rn σ) u=tD t u:=by unfold tD; rw [C1i,A0.depth_rn]
theorem L1p (hσ:Rn σ)(t:A0):G8 (t.rn σ)=G8 t:=by
 unfold G8
 rw [A0.nodes_rn,A0.depth_rn,A0.all_rn A1i,A0.all_rn (B1i hσ),A0.all_rn L1k]
mutual
theorem C0.nds_rn:∀ x:C0,(x.rn σ).nds=x.nds
 | .mk v pl va nm ar n lo hi ns th el=>by simp only [C0.rn,C0.nds]; rw [O1m,O1m,B0.nodess_rn,C0.ndss_rn th,C0.ndss_rn el]
theorem C0.ndss_rn:∀ l:List C0,C0.ndss (C0.rns σ l)=C0.ndss l
 | []=>rfl
 | x::r=>by simp only [C0.rns,C0.ndss]; rw [C0.nds_rn x,C0.ndss_rn r]
end
mutual
theorem C0.dps_rn:∀ (x:C0) (d:Nat),(x.rn σ).dps d=x.dps d
 | .mk v pl va nm ar n lo hi ns th el,d=>by simp only [C0.rn,C0.dps]; rw [P1m,P1m,B0.depths_rn,C0.dpss_rn th,C0.dpss_rn el]
theorem C0.dpss_rn:∀ (l:List C0) (d:Nat),C0.dpss (C0.rns σ l) d=C0.dpss l d
 | [],d=>rfl
 | x::r,d=>by simp only [C0.rns,C0.dpss]; rw [C0.dps_rn x,C0.dpss_rn r]
end
mutual
theorem C0.all_rn {q:C0→Bool}(h:∀ e,q (e.rn σ)=q e):∀ e:C0,(e.rn σ).all q=e.all q
 | .mk v pl va nm ar n lo hi ns th el=>by
  have:=h (.mk v pl va nm ar n lo hi ns th el)
  simp only [C0.rn,C0.all] at this ⊢
  rw [this,C0.alls_rn h th,C0.alls_rn h el]
theorem C0.alls_rn {q:C0→Bool}(h:∀ e,q (e.rn σ)=q e):∀ l:List C0,C0.alls q (C0.rns σ l)=C0.alls q l
 | []=>rfl
 | x::r=>by simp only [C0.rns,C0.alls]; rw [C0.all_rn h x,C0.alls_rn h r]
end
theorem M1p (x:C0):Lh (x.rn σ)=Lh x:=by
 obtain ⟨v,pl,va,nm,ar,n,lo,hi,ns,th,el⟩:=x
 simp only [C0.rn]
 unfold Lh
 rfl
theorem D1i (x:C0):sform (x.rn σ)=sform x:=by
 obtain ⟨v,pl,va,nm,ar,n,lo,hi,ns,th,el⟩:=x
 simp only [C0.rn]
 unfold sform
 simp only [I1s,B0.place_rn,B0.rns_len,C0.rns_len,B0.alls_rn Z1h]
 cases uNm v <;> rfl
theorem E1i (hσ:Rn σ)(x:C0):N9 (x.rn σ)=N9 x:=by
 obtain ⟨v,pl,va,nm,ar,n,lo,hi,ns,th,el⟩:=x
 simp only [C0.rn]
 unfold N9
 simp only [B0.all_rn (F19 hσ),B0.alls_rn (F19 hσ)]
 cases uNm v with
 | false=>rfl
 | true=>simp only [cond_true,hσ.nm]
theorem F1i (x:C0):snumb (x.rn σ)=snumb x:=by
 have h:=M1p (σ:=σ) x
 obtain ⟨v,pl,va,nm,ar,n,lo,hi,ns,th,el⟩:=x
 simp only [C0.rn] at h ⊢
 unfold snumb
 rw [h]
 simp only [B0.all_rn G19,B0.alls_rn G19]
mutual
theorem D0.nds_rn:∀ x:D0,(x.rn σ).nds=x.nds
 | .mk k nm t i v ps vs bd=>by simp only [D0.rn,D0.nds]; rw [S1v,O1m,D0.ndss_rn ps,D0.ndss_rn vs,C0.ndss_rn]
theorem D0.ndss_rn:∀ l:List D0,D0.ndss (D0.rns σ l)=D0.ndss l
 | []=>rfl
 | x::r=>by simp only [D0.rns,D0.ndss]; rw [D0.nds_rn x,D0.ndss_rn r]
end
mutual
theorem D0.dps_rn:∀ x:D0,(x.rn σ).dps=x.dps
 | .mk k nm t i v ps vs bd=>by simp only [D0.rn,D0.dps]; rw [T1v,P1m,D0.dpss_rn ps,D0.dpss_rn vs,C0.dpss_rn]
theorem D0.dpss_rn:∀ l:List D0,D0.dpss (D0.rns σ l)=D0.dpss l
 | []=>rfl
 | x::r=>by simp only [D0.rns,D0.dpss]; rw [D0.dps_rn x,D0.dpss_rn r]
end
mutual
theorem D0.all_rn {q:D0→Bool}(h:∀ e,q (e.rn σ)=q e):∀ e:D0,(e.rn σ).all q=e.all q
 | .mk k nm t i v ps vs bd=>by
  have:=h (.mk k nm t i v ps vs bd)
  simp only [D0.rn,D0.all] at this ⊢
  rw [this,D0.alls_rn h ps,D0.alls_rn h vs]
theorem D0.alls_rn {q:D0→Bool}(h:∀ e,q (e.rn σ)=q e):∀ l:List D0,D0.alls q (D0.rns σ l)=D0.alls q l
 | []=>rfl
 | x::r=>by simp only [D0.rns,D0.alls]; rw [D0.all_rn h x,D0.alls_rn h r]
end
theorem K11 {q:D0→Bool}(h:∀ e,q (e.rn σ)=q e):∀ l:List D0,(D0.rns σ l).all q=l.all q
 | []=>rfl
 | x::r=>by rw [D0.rns,List.all_cons,List.all_cons,h,K11 h r]
theorem X1u (x:D0):pOk (x.rn σ)=pOk x:=by cases x; rfl
theorem Y1u (x:D0):vOk (x.rn σ)=vOk x:=by cases x; rfl
theorem Q1t (t:A0):(t.rn σ).Kind=t.Kind:=by cases t; rfl
theorem P1r (d:D0):dform (d.rn σ)=dform d:=by
 obtain ⟨k,nm,t,i,v,ps,vs,bd⟩:=d
 simp only [D0.rn]
 unfold dform Zs
 simp only [A0.all_rn A1i,I1s,D0.rns_len,C0.rns_len,K11 X1u,K11 Y1u,C0.alls_rn D1i]
theorem Q1r (hσ:Rn σ)(d:D0):Kc (d.rn σ)=Kc d:=by
 obtain ⟨k,nm,t,i,v,ps,vs,bd⟩:=d
 simp only [D0.rn]
 unfold Kc
 simp only [A0.all_rn (B1i hσ),hσ.nm,B0.all_rn (F19 hσ),C0.alls_rn (E1i hσ)]
theorem R1r (d:D0):dnumb (d.rn σ)=dnumb d:=by
 obtain ⟨k,nm,t,i,v,ps,vs,bd⟩:=d
 simp only [D0.rn]
 unfold dnumb Eo
 simp only [A0.all_rn L1k,B0.all_rn G19,C0.alls_rn F1i,Q1t]
theorem N1p (hσ:Rn σ)(p:O0):Y6 (p.rn σ)=Y6 p:=by
 unfold Y6 Q15 R15 O0.rn
 simp only [D0.ndss_rn,C0.ndss_rn,D0.dpss_rn,C0.dpss_rn,D0.alls_rn P1r,C0.alls_rn D1i,D0.alls_rn (Q1r hσ),C0.alls_rn (E1i hσ),D0.alls_rn R1r,C0.alls_rn F1i]
theorem Um (d:D0):(d.rn σ).Name=σ d.Name:=by cases d; rfl
theorem Xp (d:D0):(d.rn σ).Kind=d.Kind:=by cases d; rfl
theorem X1c (hσ:Rn σ)(nm:Str):∀ ds:List D0,Gi (D0.rns σ ds) (σ nm)=Gi ds nm
 | []=>rfl
 | d::r=>by
  have:=X1c hσ nm r
  unfold Gi at this ⊢
  rw [D0.rns,List.any_cons,List.any_cons,Um,hσ.beq,this]
theorem Y1c (hσ:Rn σ)(nm:Str):∀ l:List Str,((l.map σ).any fun y=>y == σ nm)=l.any fun y=>y == nm
 | []=>rfl
 | d::r=>by rw [List.map_cons,List.any_cons,List.any_cons,hσ.beq,Y1c hσ nm r]
theorem M1k (hσ:Rn σ)(ds:List D0):∀ (l:List D0) (seen:List Str),Uu (D0.rns σ ds) (D0.rns σ l) (seen.map σ)=Uu ds l seen
 | [],_=>rfl
 | v::r,seen=>by
  simp only [D0.rns,Uu,Um]
  rw [X1c hσ,Y1c hσ]
  have:=M1k hσ ds r (v.Name::seen)
  rw [List.map_cons] at this
  rw [this]
theorem N1k (hσ:Rn σ)(ds:List D0):∀ (l:List D0) (seen:List Str) (k:Nat),Dl (D0.rns σ ds) (D0.rns σ l) (seen.map σ) k=Dl ds l seen k
 | [],_,_=>rfl
 | v::r,seen,k=>by
  simp only [D0.rns,Dl,Um]
  rw [Y1c hσ,show (v.rn σ).Params++(v.rn σ).Vars=D0.rns σ (v.Params++v.Vars) by rw [D0.rns_append]; cases v; rfl]
  have h1:=M1k hσ ds (v.Params++v.Vars) []
  rw [List.map_nil] at h1
  have h2:=N1k hσ ds r (v.Name::seen) (k+1)
  rw [List.map_cons] at h2
  rw [h1,h2]
def rnM {α:Type}(σ:Str→Str)(m:List (Str×α)):List (Str×α):=m.map fun q=>(σ q.1,q.2)
theorem Cz {α:Type}(hσ:Rn σ)(k:Str):∀ m:List (Str×α),mgt (σ k) (rnM σ m)=mgt k m
 | []=>rfl
 | (a,y)::r=>by
  have:=Cz hσ k r
  unfold rnM at this ⊢
  simp only [List.map_cons,mgt]
  rw [hσ.beq,this]
theorem R16 {α:Type}(hσ:Rn σ)(k:Str)(x:α):∀ m:List (Str×α),mpt (σ k) x (rnM σ m)=rnM σ (mpt k x m)
 | []=>rfl
 | (a,y)::r=>by
  have:=R16 hσ k x r
  unfold rnM at this ⊢
  simp only [List.map_cons,mpt]
  rw [hσ.beq,this]
  cases k == a <;> rfl
theorem Q1m {α:Type}(a b:List (Str×α)):rnM σ (a++b)=rnM σ a++rnM σ b:=List.map_append
mutual
theorem A0.rp_rn (hσ:Rn σ)(m:List (Str×A0)):∀ t:A0,(t.rn σ).rp (rnM σ m)=t.rp m
 | .mk k l h s n ns of=>by
  simp only [A0.rn,A0.rp]
  rw [A0.rps_rn hσ m of]
  cases k == 4 with
  | true=>exact Cz hσ n m
  | false=>rfl
theorem A0.rps_rn (hσ:Rn σ)(m:List (Str×A0)):∀ l:List A0,A0.rps (rnM σ m) (A0.rns σ l)=A0.rps m l
 | []=>rfl
 | x::r=>by simp only [A0.rns,A0.rps]; rw [A0.rp_rn hσ m x,A0.rps_rn hσ m r]
end
theorem O1k (hσ:Rn σ)(m:List (Str×A0))(t:A0):Ld (rnM σ m) (t.rn σ)=Ld m t:=by
 unfold Ld
 rw [L1p hσ,A0.rp_rn hσ]
theorem Vm (d:D0):(d.rn σ).TypeV=d.TypeV.rn σ:=by cases d; rfl
theorem Z1c (hσ:Rn σ):∀ (r:List D0) (m:List (Str×A0)),Ho (D0.rns σ r) (rnM σ m)=(rnM σ (Ho r m).1,(Ho r m).2)
 | [],m=>rfl
 | d::r,m=>by
  simp only [D0.rns,Ho,Xp,Um,Vm,hσ.nm,Cz hσ,O1k hσ]
  have h1:=Z1c hσ r (m++[(d.Name,(Ld m d.TypeV).1)])
  rw [Q1m] at h1
  rw [Z1c hσ r m,show [(σ d.Name,(Ld m d.TypeV).1)]=rnM σ [(d.Name,(Ld m d.TypeV).1)] from rfl,h1]
  cases d.Kind != 0 with
  | true=>rfl
  | false=>
   cases !T2 d.Name with
   | true=>rfl
   | false=>
    cases (mgt d.Name m).isSome with
    | true=>rfl
    | false=>cases (Ld m d.TypeV).2 != 0 <;> rfl
theorem Hi (hσ:Rn σ)(ds:List D0)(t:A0):U2 (D0.rns σ ds) (t.rn σ)=U2 ds t:=by
 have h:=Z1c hσ ds []
 unfold U2 T15
 rw [show (rnM σ ([]:List (Str×A0)))=[] from rfl] at h
 rw [h]
 simp only [O1k hσ]
def SR (σ:Str→Str)(s s':Option I0):Prop:=∀ nm,lkO (σ nm) s'=lkO nm s
theorem SR.none:SR σ none none:=fun nm=>rfl
theorem SR.ext (hσ:Rn σ){s s':Option I0}(h:SR σ s s')(m:List (Str×N0)):SR σ (some (.mk s m)) (some (.mk s' (rnM σ m))):=fun nm=>by
 simp only [lkO,I0.find]
 rw [Cz hσ,h nm]
mutual
theorem J1b {s s':Option I0}(h:SR σ s s'):∀ e:B0,tyS s' (e.rn σ)=tyS s e
 | .mk o n nm ks=>by
  have hk:=O1p h ks
  unfold tyS
  simp only [B0.rn,B0.ty]
  rw [hk]
  have:∀ l:List A0,Xk (fun nm=>lkO nm s') o n (bif o == 3 then σ nm else nm) l=Xk (fun nm=>lkO nm s) o n nm l:=fun l=>by
   unfold Xk
   by_cases h3:o=3
   ·subst h3
    show (match lkO (σ nm) s' with | some v=>(v.typ,(0:Int)) | none=>(zT,7))=(match lkO nm s with | some v=>(v.typ,(0:Int)) | none=>(zT,7))
    rw [h nm]
   ·rw [beq_eq_false_iff_ne.2 h3]
    rfl
  rw [this]
theorem O1p {s s':Option I0}(h:SR σ s s'):∀ l:List B0,B0.tys (fun nm=>lkO nm s') (B0.rns σ l)=B0.tys (fun nm=>lkO nm s) l
 | []=>rfl
 | x::r=>by
  have h1:=J1b h x
  have h2:=O1p h r
  unfold tyS at h1
  simp only [B0.rns,B0.tys]
  rw [h1,h2]
end
theorem G1i {s s':Option I0}(h:SR σ s s')(nm:Str):Yf s' (σ nm)=Yf s nm:=by
 unfold Yf
 rw [h nm]
mutual
theorem P1k:∀ e:B0,e.place=true→(e.rn σ).root=σ e.root
 | .mk o n nm ks=>fun hp=>by
  simp only [B0.rn,B0.root,B0.place] at hp ⊢
  cases h3:o == 3 with
  | true=>rfl
  | false=>
   rw [h3] at hp
   simp only [cond_false] at hp ⊢
   cases h4:(bif o == 4 then true else o == 5) with
   | false=>rw [h4] at hp; cases hp
   | true=>rw [h4] at hp; exact S1r ks nm hp
theorem S1r:∀ (l:List B0) (nm:Str),B0.place1 l=true→B0.roots nm (B0.rns σ l)=σ (B0.roots nm l)
 | [],nm=>fun h=>by cases h
 | x::r,nm=>fun h=>by
  simp only [B0.rns,B0.roots]
  exact P1k x h
end
theorem Z1u (e:B0):plE (e.rn σ)=plE e:=by cases e; rfl
theorem S16 {s s':Option I0}(h:SR σ s s')(e:B0)(t:A0):Tu s' (e.rn σ) t=Tu s e t:=by
 unfold Tu
 rw [J1b h,Z1u]
theorem A1d {s s':Option I0}(h:SR σ s s'){e:B0}(hp:e.place=true):Dk s' (e.rn σ)=Dk s e:=by
 unfold Dk
 rw [J1b h,P1k e hp,G1i h]
theorem T1r {s s':Option I0}(h:SR σ s s')(e:B0):Lo s' (e.rn σ)=Lo s e:=by unfold Lo; rw [J1b h]
theorem R1t {s s':Option I0}(h:SR σ s s')(e:B0):U1c s' (e.rn σ)=U1c s e:=by unfold U1c; rw [J1b h]
theorem A1v {s s':Option I0}(h:SR σ s s'){pl:B0}(hp:pl.place=true)(va:B0):asS s' (pl.rn σ) (va.rn σ)=asS s pl va:=by unfold asS; rw [A1d h hp,S16 h]
theorem Q1k (hσ:Rn σ)(ds:List D0){s s':Option I0}(h:SR σ s s')(z:Int):∀ (q:List B0) (l:List D0),A16 (D0.rns σ ds) s' z (B0.rns σ q) (D0.rns σ l)=A16 ds s z q l
 | [],l=>by cases l <;> rfl
 | a::q,[]=>rfl
 | a::q,v::l=>by
  simp only [B0.rns,D0.rns,A16]
  rw [Vm,Hi hσ,S16 h,Q1k hσ ds h z q l]
theorem P1p (d:D0):(d.rn σ).Params=D0.rns σ d.Params:=by cases d; rfl
theorem U1r (hσ:Rn σ)(ds:List D0){s s':Option I0}(h:SR σ s s')(t:A0)(ar:List B0)(d:D0):Q16 (D0.rns σ ds) s' t (B0.rns σ ar) (d.rn σ)=Q16 ds s t ar d:=by
 unfold Q16
 rw [P1p,B0.rns_len,D0.rns_len,Vm,Hi hσ,Q1k hσ ds h]
theorem I19 (hσ:Rn σ)(kind:Int)(nm:Str):∀ (r:List D0) (k:Nat),Rg kind (σ nm) (D0.rns σ r) k=Rg kind nm r k
 | [],_=>rfl
 | d::r,k=>by
  simp only [D0.rns,Rg]
  rw [Xp,Um,hσ.beq,I19 hσ kind nm r (k+1)]
theorem R1k (hσ:Rn σ)(ds:List D0)(j:Nat):(D0.rns σ ds).getD j default=(ds.getD j default).rn σ:=by
 have hd:(default:D0).rn σ=default:=by
  show D0.rn σ (D0.mk _ [] _ _ _ _ _ _)=_
  simp only [D0.rn,hσ.nil]
  rfl
 rw [D0.rns_map]
 simp only [List.getD,List.getElem?_map]
 cases ds[j]? with
 | none=>exact hd.symm
 | some d=>rfl
theorem V1r (hσ:Rn σ)(ds:List D0)(n:Nat){s s':Option I0}(h:SR σ s s'){pl:B0}(hp:pl.place=true)(nm:Str)(ar:List B0):J11 (D0.rns σ ds) n s' (pl.rn σ) (σ nm) (B0.rns σ ar)=J11 ds n s pl nm ar:=by
 unfold J11
 rw [A1d h hp,D0.rns_take,I19 hσ]
 cases Rg 6 nm (ds.take n) 0 with
 | none=>rfl
 | some j=>simp only; rw [D0.rns_take,R1k hσ,U1r hσ _ h]
theorem S1t (hσ:Rn σ)(ds:List D0)(n:Nat)(loc:Bool){s s':Option I0}(h:SR σ s s'){pl:B0}(hp:pl.place=true)(nm:Str):D19 (D0.rns σ ds) n loc s' (pl.rn σ) (σ nm)=D19 ds n loc s pl nm:=by
 unfold D19
 rw [A1d h hp,D0.rns_take,I19 hσ]
 cases Rg 5 nm (ds.take n) 0 with
 | none=>rfl
 | some j=>simp only; rw [D0.rns_take,R1k hσ,Vm,Hi hσ]
theorem B1j {x:C0}(h:sform x=true)(hu:uPl x.Verb=true):x.Place.place=true:=by
 unfold sform at h
 simp only [Bool.and_eq_true] at h
 have:=h.1.1.1.1.1.1.1.1.1.2
 rw [hu] at this
 exact this
theorem B1v (x:C0):(x.rn σ).Verb=x.Verb∧(x.rn σ).Place=x.Place.rn σ∧(x.rn σ).Value=x.Value.rn σ∧(x.rn σ).Name=(bif uNm x.Verb then σ x.Name else x.Name)∧(x.rn σ).Args=B0.rns σ x.Args∧(x.rn σ).Low=x.Low∧(x.rn σ).High=x.High∧(x.rn σ).NV=x.NV∧(x.rn σ).Then=C0.rns σ x.Then∧(x.rn σ).Else=C0.rns σ x.Else:=by
 cases x; exact ⟨rfl,rfl,rfl,rfl,rfl,rfl,rfl,rfl,rfl,rfl⟩
theorem Q1p (hσ:Rn σ)(ds:List D0)(n:Nat)(loc:Bool)(l:List C0):C0.alls sform l=true→∀ s s',SR σ s s'→∀ top,C0.sts (D0.rns σ ds) n loc (C0.rns σ l) s' top=C0.sts ds n loc l s top:=by
 refine C0.inds (Q:=fun l=>C0.alls sform l=true→∀ s s',SR σ s s'→∀ top,C0.sts (D0.rns σ ds) n loc (C0.rns σ l) s' top=C0.sts ds n loc l s top) (fun l ih hf=>?_) l
 have one:∀ x∈l,∀ s s',SR σ s s'→∀ last,(x.rn σ).st (D0.rns σ ds) n loc s' last=x.st ds n loc s last:=fun x hx s s' h last=>by
  obtain ⟨f1,f2,f3⟩:=Tm hf hx
  obtain ⟨i1,i2⟩:=ih x hx
  obtain ⟨e1,e2,e3,e4,e5,e6,e7,_,e9,e10⟩:=B1v (σ:=σ) x
  have hp:=B1j f1
  rw [C0.st_eq,C0.st_eq,e1,e2,e3,e4,e5,e6,e7,e9,e10,i1 f2 s s' h,i2 f3 s s' h,T1r h,R1t h]
  by_cases v0:x.Verb=0
  ·rw [v0] at hp ⊢
   show asS s' (x.Place.rn σ) (x.Value.rn σ)=asS s x.Place x.Value
   exact A1v h (hp rfl) _
  rw [beq_eq_false_iff_ne.2 v0]
  by_cases v1:x.Verb=1
  ·rw [v1] at hp ⊢
   exact V1r hσ ds n h (hp rfl) _ _
  rw [beq_eq_false_iff_ne.2 v1]
  by_cases v2:x.Verb=2
  ·rw [v2] at hp ⊢
   exact S1t hσ ds n loc h (hp rfl) _
  rw [beq_eq_false_iff_ne.2 v2]
  by_cases v7:x.Verb=7
  ·rw [v7]
   show (bif (bif Gi (D0.rns σ ds) (σ x.Name) then true else (Yf s' (σ x.Name)).2) then (8:Int) else C0.sts (D0.rns σ ds) n loc (C0.rns σ x.Then) (Bw s' (σ x.Name) x.Low x.High) false)=(bif (bif Gi ds x.Name then true else (Yf s x.Name).2) then (8:Int) else C0.sts ds n loc x.Then (Bw s x.Name x.Low x.High) false)
   have hl:SR σ (Bw s x.Name x.Low x.High) (Bw s' (σ x.Name) x.Low x.High):=h.ext hσ [(x.Name,⟨nT x.Low x.High,true⟩)]
   rw [X1c hσ,G1i h,i1 f2 _ _ hl]
  rw [beq_eq_false_iff_ne.2 v7]
  rfl
 have main:∀ r:List C0,(∀ x∈r,x∈l)→∀ s s',SR σ s s'→∀ top,C0.sts (D0.rns σ ds) n loc (C0.rns σ r) s' top=C0.sts ds n loc r s top:=by
  intro r
  induction r with
  | nil=>intro _ s s' _ top; rfl
  | cons x r ihr=>
   intro hm s s' h top
   simp only [C0.rns,C0.sts]
   have he:(C0.rns σ r).isEmpty=r.isEmpty:=by cases r <;> rfl
   rw [he,one x (hm x List.mem_cons_self) s s' h,ihr (fun y hy=>hm y (List.mem_cons_of_mem _ hy)) s s' h]
 exact main l fun x hx=>hx
theorem R1p (hσ:Rn σ)(ds:List D0):∀ (l:List D0) (m:List (Str×N0)),fnM (D0.rns σ ds) (D0.rns σ l) (rnM σ m)=(rnM σ (fnM ds l m).1,(fnM ds l m).2)
 | [],m=>rfl
 | v::r,m=>by
  simp only [D0.rns,fnM]
  rw [Vm,Um,Hi hσ,R16 hσ,R1p hσ ds r]
  cases (U2 ds v.TypeV).2 != 0 <;> rfl
theorem C1v (hσ:Rn σ)(ds:List D0)(i:Nat)(d:D0)(hf:C0.alls sform d.Body=true)(res:A0):fnS (D0.rns σ ds) i (d.rn σ) res=fnS ds i d res:=by
 have e:(d.rn σ).Params++(d.rn σ).Vars=D0.rns σ (d.Params++d.Vars):=by rw [D0.rns_append]; cases d; rfl
 have e2:(d.rn σ).Body=C0.rns σ d.Body:=by cases d; rfl
 have e3:(d.rn σ).Value=d.Value.rn σ:=by cases d; rfl
 have h:=R1p hσ (ds.take i) (d.Params++d.Vars) []
 rw [show (rnM σ ([]:List (Str×N0)))=[] from rfl] at h
 unfold fnS
 rw [e,e2,e3,D0.rns_take,h]
 simp only
 have hs:SR σ (some (.mk none (fnM (ds.take i) (d.Params++d.Vars) []).1)) (some (.mk none (rnM σ (fnM (ds.take i) (d.Params++d.Vars) []).1))):=SR.none.ext hσ _
 rw [Q1p hσ ds i true d.Body hf _ _ hs,S16 hs]
theorem D1v (d:D0):inK (d.rn σ)=inK d:=by cases d; rfl
theorem S1p (hσ:Rn σ)(ds:List D0)(vs:Bool):∀ (r:List D0) (k:Nat) (m:List (Str×N0)),inM (D0.rns σ ds) vs (D0.rns σ r) k (rnM σ m)=rnM σ (inM ds vs r k m)
 | [],_,m=>rfl
 | d::r,k,m=>by
  simp only [D0.rns,inM]
  rw [D1v,Xp,Um,Vm,D0.rns_take,Hi hσ,R16 hσ,← S1p hσ ds vs r (k+1)]
  cases (bif inK d then true else (bif vs then (d.Kind == 4) else false)) <;> rfl
theorem T1p (hσ:Rn σ)(p:O0)(i:Nat)(vs:Bool):SR σ (inS p i vs) (inS (p.rn σ) i vs):=by
 have h:=S1p hσ p.Decls vs (p.Decls.take i) 0 []
 rw [show (rnM σ ([]:List (Str×N0)))=[] from rfl] at h
 unfold inS
 show SR σ _ (some (.mk none (inM (D0.rns σ p.Decls) vs ((D0.rns σ p.Decls).take i) 0 [])))
 rw [D0.rns_take,h]
 exact SR.none.ext hσ _
theorem W1r (hσ:Rn σ)(p:O0)(i:Nat)(d:D0)(hf:C0.alls sform d.Body=true):Eq (p.rn σ) i (d.rn σ)=Eq p i d:=by
 have e3:(d.rn σ).Value=d.Value.rn σ:=by cases d; rfl
 unfold Eq
 rw [show (p.rn σ).Decls=D0.rns σ p.Decls from rfl,D0.rns_take,Vm,Hi hσ,Xp,e3,S16 (T1p hσ p i false),C1v hσ _ _ _ hf]
theorem S1k (hσ:Rn σ)(p:O0):∀ (r:List D0) (k:Nat),(∀ d∈r,C0.alls sform d.Body=true)→Wu (p.rn σ) (D0.rns σ r) k=Wu p r k
 | [],_,_=>rfl
 | d::r,k,h=>by
  simp only [D0.rns,Wu]
  rw [W1r hσ p k d (h d List.mem_cons_self),S1k hσ p r (k+1) fun e he=>h e (List.mem_cons_of_mem _ he)]
theorem T1t (hσ:Rn σ)(p:O0)(hf:C0.alls sform p.Body=true):Ix (p.rn σ)=Ix p:=by
 unfold Ix
 rw [show (p.rn σ).Decls.length=p.Decls.length from D0.rns_len _]
 exact Q1p hσ p.Decls p.Decls.length false p.Body hf _ _ (T1p hσ p _ true) true
mutual
theorem U1v (hσ:Rn σ)(m:List (Str×K0)):∀ x:C0,(x.rn σ).am (rnM σ m)=x.am m
 | .mk v pl va nm ar n lo hi ns th el=>by
  simp only [C0.rn,C0.am]
  rw [B16 hσ m th,B16 hσ m el]
  by_cases h1:v=1
  ·subst h1
   show (mgt (σ nm) (rnM σ m)).getD K0.zero=(mgt nm m).getD K0.zero
   rw [Cz hσ]
  ·rw [beq_eq_false_iff_ne.2 h1]
   rfl
theorem B16 (hσ:Rn σ)(m:List (Str×K0)):∀ (l:List C0) (a:K0),C0.ams (rnM σ m) (C0.rns σ l) a=C0.ams m l a
 | [],a=>rfl
 | x::r,a=>by
  simp only [C0.rns,C0.ams]
  rw [U1v hσ m x,B16 hσ m r]
end
theorem U1p (hσ:Rn σ):∀ (r:List D0) (m:List (Str×K0)),amM (D0.rns σ r) (rnM σ m)=rnM σ (amM r m)
 | [],m=>rfl
 | d::r,m=>by
  have e2:(d.rn σ).Body=C0.rns σ d.Body:=by cases d; rfl
  simp only [D0.rns,amM]
  rw [Xp,Um,e2,B16 hσ,R16 hσ,← U1p hσ r]
  cases d.Kind == 6 <;> rfl
theorem E1v (hσ:Rn σ)(p:O0):amP (p.rn σ)=amP p:=by
 have h:=U1p hσ p.Decls []
 rw [show (rnM σ ([]:List (Str×K0)))=[] from rfl] at h
 unfold amP
 rw [show (p.rn σ).Decls=D0.rns σ p.Decls from rfl,show (p.rn σ).Body=C0.rns σ p.Body from rfl,h,B16 hσ]
theorem T1k (hσ:Rn σ)(ds:List D0):∀ (r:List D0) (k:Nat) (m:List (Int×Int)) (a b:Int),Vu (D0.rns σ ds) (D0.rns σ r) k m a b=Vu ds r k m a b
 | [],_,_,_,_=>rfl
 | d::r,k,m,a,b=>by
  simp only [D0.rns,Vu]
  rw [Xp,Vm,D0.rns_take,Hi hσ]
  simp only [T1k hσ ds r]
theorem U1t (hσ:Rn σ)(p:O0):E19 (p.rn σ)=E19 p:=by
 unfold E19
 rw [E1v hσ,show (p.rn σ).Decls=D0.rns σ p.Decls from rfl,T1k hσ]
theorem F1v (hσ:Rn σ)(p:O0):tck (p.rn σ)=tck p:=by
 unfold tck
 rw [N1p hσ]
 by_cases hc:Y6 p=0
 ·have hz:=X15 hc
  simp only [Bool.not_eq_false',Bool.and_eq_true] at hz
  obtain ⟨⟨f1,f2⟩,_,_⟩:=hz
  have hd:∀ d∈p.Decls,C0.alls sform d.Body=true:=by
   have key:∀ {l:List D0},D0.alls dform l=true→∀ d∈l,C0.alls sform d.Body=true:=by
    intro l
    induction l with
    | nil=>intro _ d hm; cases hm
    | cons x r ih=>
     intro ha d hm
     simp only [D0.alls,Bool.and_eq_true] at ha
     cases hm with
     | head=>
      have h:=ha.1
      rw [D0.all_eq,Bool.and_eq_true] at h
      have:=h.1
      unfold dform at this
      simp only [Bool.and_eq_true] at this
      exact this.2
     | tail _ hm=>exact ih ha.2 d hm
   exact key f1
  have hdup:=N1k hσ p.Decls p.Decls [] 0
  rw [List.map_nil] at hdup
  rw [show (p.rn σ).Decls=D0.rns σ p.Decls from rfl,hdup,S1k hσ p _ _ hd,T1t hσ p f2,U1t hσ]
 ·rw [show (Y6 p != 0)=true by simpa [bne] using hc]
  rfl
end Go.Proofs.YtdkabnfphmmmnaaGreatDoor

set_option linter.unusedSimpArgs false
set_option linter.unusedVariables false
namespace Go.Proofs.YtdkabnfphmmmnaaGreatDoor
open Go.Am
theorem rmO {n k:Nat}(h:n≤4 * BB)(hk:k≤300):decide (n * k≤140737488355328)=true:=by
 have:n * k≤4 * BB * 300:=Nat.mul_le_mul h hk
 unfold BB at this
 exact decide_eq_true (by omega)
mutual
def B0.used:B0→List Str
 | .mk o _ s ks=>(bif o == 3 then [s] else [])++B0.useds ks
def B0.useds:List B0→List Str
 | []=>[]
 | x::r=>B0.used x++B0.useds r
end
mutual
def A0.used:A0→List Str
 | .mk k _ _ _ n _ of=>(bif k == 4 then [n] else [])++A0.useds of
def A0.useds:List A0→List Str
 | []=>[]
 | x::r=>A0.used x++A0.useds r
end
mutual
def C0.used:C0→List Str
 | .mk v pl va nm ar _ _ _ _ th el=>(bif uNm v then [nm] else [])++(pl.used++(va.used++(B0.useds ar++(C0.useds th++C0.useds el))))
def C0.useds:List C0→List Str
 | []=>[]
 | x::r=>C0.used x++C0.useds r
end
mutual
def D0.used:D0→List Str
 | .mk _ nm t _ v ps vs bd=>nm::(t.used++(v.used++(D0.useds ps++(D0.useds vs++C0.useds bd))))
def D0.useds:List D0→List Str
 | []=>[]
 | x::r=>D0.used x++D0.useds r
end
theorem B0.used_eq (e:B0):e.used=(bif e.Op == 3 then [e.Name] else [])++B0.useds e.Kids:=by cases e; simp only [B0.used]
theorem A0.used_eq (e:A0):e.used=(bif e.Kind == 4 then [e.Name] else [])++A0.useds e.Of:=by cases e; simp only [A0.used]
theorem C0.used_eq (s:C0):s.used=(bif uNm s.Verb then [s.Name] else [])++(s.Place.used++(s.Value.used++(B0.useds s.Args++(C0.useds s.Then++C0.useds s.Else)))):=by cases s; simp only [C0.used]
theorem D0.used_eq (d:D0):d.used=d.Name::(d.TypeV.used++(d.Value.used++(D0.useds d.Params++(D0.useds d.Vars++C0.useds d.Body)))):=by cases d; simp only [D0.used]
mutual
theorem B0.used_len:∀ e:B0,e.used.length+1≤e.bulk
 | .mk o n s ks=>by
  have:=B0.useds_len ks
  simp only [B0.used,B0.bulk,List.length_append]
  cases o == 3 <;> simp <;> omega
theorem B0.useds_len:∀ l:List B0,(B0.useds l).length≤B0.bulks l
 | []=>Nat.le_refl _
 | x::r=>by
  have:=B0.used_len x
  have:=B0.useds_len r
  simp only [B0.useds,B0.bulks,List.length_append]; omega
end
mutual
theorem A0.used_len:∀ e:A0,e.used.length+1≤e.bulk
 | .mk k l h s n ns of=>by
  have:=A0.useds_len of
  simp only [A0.used,A0.bulk,List.length_append]
  cases k == 4 <;> simp <;> omega
theorem A0.useds_len:∀ l:List A0,(A0.useds l).length≤A0.bulks l
 | []=>Nat.le_refl _
 | x::r=>by
  have:=A0.used_len x
  have:=A0.useds_len r
  simp only [A0.useds,A0.bulks,List.length_append]; omega
end
mutual
theorem C0.used_len:∀ e:C0,e.used.length+1≤e.bulk
 | .mk v pl va nm ar n lo hi ns th el=>by
  have h1:=C0.useds_len th
  have h2:=C0.useds_len el
  have h3:=B0.used_len pl
  have h4:=B0.used_len va
  have h5:=B0.useds_len ar
  simp only [C0.used,C0.bulk,List.length_append]
  cases uNm v <;> simp <;> omega
theorem C0.useds_len:∀ l:List C0,(C0.useds l).length≤C0.bulks l
 | []=>Nat.le_refl _
 | x::r=>by
  have:=C0.used_len x
  have:=C0.useds_len r
  simp only [C0.useds,C0.bulks,List.length_append]; omega
end
mutual
theorem D0.used_len:∀ e:D0,e.used.length+1≤e.bulk
 | .mk k nm t i v ps vs bd=>by
  have h1:=D0.useds_len ps
  have h2:=D0.useds_len vs
  have h3:=A0.used_len t
  have h4:=B0.used_len v
  have h5:=C0.useds_len bd
  simp only [D0.used,D0.bulk,List.length_append,List.length_cons]
  omega
theorem D0.useds_len:∀ l:List D0,(D0.useds l).length≤D0.bulks l
 | []=>Nat.le_refl _
 | x::r=>by
  have:=D0.used_len x
  have:=D0.useds_len r
  simp only [D0.useds,D0.bulks,List.length_append]; omega
end
theorem K1b (e:B0):OkE e→M6 e=some e.used:=by
 induction e using B0.ind with
 | h e ih=>
 intro ho
 have hb:B0.bulks e.Kids≤BB:=by
  have:=B0.bulk_eq e
  unfold OkE at ho; omega
 have main:∀ (r:List B0) (k:Nat) (out:List Str),e.Kids.drop k=r→out.length+B0.bulks r≤2 * BB→Jb e out k=some (out++B0.useds r):=by
  intro r
  induction r with
  | nil=>intro k out h _; rw [Jb,(Y0 h).1]; simp [B0.useds]
  | cons x r ihr=>
   intro k out h hl
   obtain ⟨e1,e2,e3,e4,e5⟩:=C1 h
   have hx:=B0.used_len x
   have hk:=ho.kids
   simp only [B0.bulks] at hl
   rw [Jb,e1,if_pos rfl,e2,ob,ih x e5 (ho.kid e5),ob,rmO (by omega) (by decide),if_pos rfl,w1 (by omega),ihr (k+1) _ e3 (by rw [List.length_append]; omega)]
   simp only [B0.useds,List.append_assoc]
 rw [M6,B0.used_eq]
 cases e.Op == 3 with
 | true=>
  rw [if_pos rfl,rmO (n:=0+1) (by unfold BB; omega) (by decide),if_pos rfl,Sd]
  exact main e.Kids 0 _ rfl (by simp; unfold BB at *; omega)
 | false=>
  rw [if_neg (by simp),Sd]
  exact main e.Kids 0 _ rfl (by simp; omega)
theorem G1v (e:A0):Ok e→Ac e=some e.used:=by
 induction e using A0.ind with
 | h e ih=>
 intro ho
 have hb:A0.bulks e.Of≤BB:=by
  have:=A0.bulk_eq e
  unfold Ok at ho; omega
 have main:∀ (r:List A0) (k:Nat) (out:List Str),e.Of.drop k=r→out.length+A0.bulks r≤2 * BB→Ib e out k=some (out++A0.useds r):=by
  intro r
  induction r with
  | nil=>intro k out h _; rw [Ib,(Y0 h).1]; simp [A0.useds]
  | cons x r ihr=>
   intro k out h hl
   obtain ⟨e1,e2,e3,e4,e5⟩:=C1 h
   have hx:=A0.used_len x
   have hk:=ho.ofs
   simp only [A0.bulks] at hl
   rw [Ib,e1,if_pos rfl,e2,ob,ih x e5 (ho.kid e5),ob,rmO (by omega) (by decide),if_pos rfl,w1 (by omega),ihr (k+1) _ e3 (by rw [List.length_append]; omega)]
   simp only [A0.useds,List.append_assoc]
 rw [Ac,A0.used_eq]
 cases e.Kind == 4 with
 | true=>
  rw [if_pos rfl,rmO (n:=0+1) (by unfold BB; omega) (by decide),if_pos rfl,Qd]
  exact main e.Of 0 _ rfl (by simp; unfold BB at *; omega)
 | false=>
  rw [if_neg (by simp),Qd]
  exact main e.Of 0 _ rfl (by simp; omega)
theorem V1p (l:List C0):OkS l→H5 l=some (C0.useds l):=by
 refine C0.inds (Q:=fun l=>OkS l→H5 l=some (C0.useds l)) (fun l ih ho=>?_) l
 have hl:=ho.len
 have main:∀ (r:List C0) (k:Nat) (out:List Str),l.drop k=r→out.length+C0.bulks r≤2 * BB→Ja l out k=some (out++C0.useds r):=by
  intro r
  induction r with
  | nil=>intro k out h _; rw [Ja,(Y0 h).1]; simp [C0.useds]
  | cons x r ihr=>
   intro k out h hl2
   obtain ⟨e1,e2,e3,e4,e5⟩:=C1 h
   have o1:=ho.mem e5
   simp only [C0.bulks] at hl2
   have b0:=C0.bulk_eq x
   have b1:=B0.used_len x.Place
   have b2:=B0.used_len x.Value
   have b3:=C0.useds_len x.Then
   have b4:=C0.useds_len x.Else
   have l3:∀ (q:List B0) (j:Nat) (out:List Str),x.Args.drop j=q→out.length+B0.bulks q+C0.bulks x.Then+C0.bulks x.Else+C0.bulks r≤2 * BB→Ka l x out k j=some (out++(B0.useds q++(C0.useds x.Then++(C0.useds x.Else++C0.useds r)))):=by
    intro q
    induction q with
    | nil=>
     intro j out h hq
     simp only [B0.bulks] at hq
     rw [Ka,(Y0 h).1,if_neg (by simp),(ih x e5).1 o1.thens,ob,rmO (by omega) (by decide),if_pos rfl,(ih x e5).2 o1.elses,ob,rmO (by rw [List.length_append]; omega) (by decide),if_pos rfl,w1 (by omega),ihr (k+1) _ e3 (by rw [List.length_append,List.length_append]; omega)]
     simp only [B0.useds,List.nil_append,List.append_assoc]
    | cons y q ihq=>
     intro j out h hq
     obtain ⟨f1,f2,f3,f4,f5⟩:=C1 h
     have hy:=B0.used_len y
     have hk:=o1.args
     simp only [B0.bulks] at hq
     rw [Ka,f1,if_pos rfl,f2,ob,K1b y (o1.arg y f5),ob,rmO (by omega) (by decide),if_pos rfl,w1 (by omega),ihq (j+1) _ f3 (by rw [List.length_append]; omega)]
     simp only [B0.useds,List.append_assoc]
   have j2:∀ out:List Str,out.length+(x.bulk - 1)+C0.bulks r≤2 * BB→Uc l x out k=some (out++(x.Place.used++(x.Value.used++(B0.useds x.Args++(C0.useds x.Then++(C0.useds x.Else++C0.useds r)))))):=fun out hq=>by
    rw [Uc,K1b _ o1.place,ob,rmO (by omega) (by decide),if_pos rfl,K1b _ o1.value,ob,rmO (by rw [List.length_append]; omega) (by decide),if_pos rfl]
    have:=l3 x.Args 0 ((out++x.Place.used)++x.Value.used) rfl (by rw [List.length_append,List.length_append]; omega)
    rw [show ((0:Nat):Int)=0 from rfl] at this
    rw [this]
    simp only [List.append_assoc]
   rw [Ja,e1,if_pos rfl,e2,ob,rUN,ob]
   simp only [C0.useds]
   rw [C0.used_eq]
   cases uNm x.Verb with
   | true=>
    rw [if_pos rfl,rmO (by omega) (by decide),if_pos rfl,j2 _ (by rw [List.length_append]; simp; omega)]
    simp only [cond_true,List.append_assoc]
   | false=>
    rw [if_neg (by simp),j2 _ (by omega)]
    simp only [cond_false,List.nil_append,List.append_assoc]
 rw [H5]
 have h0:C0.bulks l≤BB:=ho
 exact main l 0 [] rfl (by simp; omega)
theorem H1v (l:List D0):OkD l→U8 l=some (D0.useds l):=by
 induction l using D0.inds with
 | h l ih=>
 intro ho
 have hl:=ho.len
 have main:∀ (r:List D0) (k:Nat) (out:List Str),l.drop k=r→out.length+D0.bulks r≤2 * BB→La l out k=some (out++D0.useds r):=by
  intro r
  induction r with
  | nil=>intro k out h _; rw [La,(Y0 h).1]; simp [D0.useds]
  | cons x r ihr=>
   intro k out h hl2
   obtain ⟨e1,e2,e3,e4,e5⟩:=C1 h
   have o1:=ho.mem e5
   obtain ⟨i1,i2⟩:=ih x e5
   simp only [D0.bulks] at hl2
   have b0:=D0.bulk_eq x
   have b1:=A0.used_len x.TypeV
   have b2:=B0.used_len x.Value
   have b3:=D0.useds_len x.Params
   have b4:=D0.useds_len x.Vars
   have b5:=C0.useds_len x.Body
   have g:∀ {n:Nat},n≤2 * BB→decide (n * 17≤140737488355328)=true:=fun h=>rmO (by omega) (by decide)
   rw [La,e1,if_pos rfl,e2,ob,g (by omega),if_pos rfl,G1v _ o1.type,ob,g (by simp only [List.length_append,List.length_cons,List.length_nil]; omega),if_pos rfl,
    K1b _ o1.value,ob,g (by simp only [List.length_append,List.length_cons,List.length_nil]; omega),if_pos rfl,i1 o1.params,ob,g (by simp only [List.length_append,List.length_cons,List.length_nil]; omega),if_pos rfl,
    i2 o1.vars,ob,g (by simp only [List.length_append,List.length_cons,List.length_nil]; omega),if_pos rfl,V1p _ o1.body,ob,g (by simp only [List.length_append,List.length_cons,List.length_nil]; omega),if_pos rfl,
    w1 (by omega),ihr (k+1) _ e3 (by simp only [List.length_append,List.length_cons,List.length_nil]; omega)]
   simp only [D0.useds,D0.used_eq,List.append_assoc,List.cons_append,List.nil_append]
 rw [U8]
 have h0:D0.bulks l≤BB:=ho
 exact main l 0 [] rfl (by simp; omega)
theorem J19 {l out:List Str}(hl:l.length≤BB)(ho:out.length≤2 * BB):∀ (r:List Str) (k:Nat) (m:Str),l.drop k=r→m∈l→∃ m'∈l,Bc l out m k=Ma l (out++[m']) m' [] 0
 | [],k,m,h,hm=>by
  refine ⟨m,hm,?_⟩
  rw [Bc,(Y0 h).1,if_neg (by simp),rmO (by unfold BB at *; omega) (by decide),if_pos rfl]
 | x::r,k,m,h,hm=>by
  obtain ⟨e1,e2,e3,e4,e5⟩:=C1 h
  rw [Bc,e1,if_pos rfl,e2,ob,ob,w1 (by omega)]
  cases Op.bytesLess x m with
  | true=>exact J19 hl ho r (k+1) x e3 e5
  | false=>exact J19 hl ho r (k+1) m e3 hm
theorem K19 {l out:List Str}(hl:l.length≤BB){m:Str}:∀ (r:List Str) (k:Nat) (rest:List Str),l.drop k=r→rest.length+r.length≤2 * BB→Ma l out m rest k=Y7 (rest++r.filter fun x=>!(x == m)) out
 | [],k,rest,h,_=>by
  rw [Ma,(Y0 h).1,if_neg (by simp),List.filter_nil,List.append_nil]
 | x::r,k,rest,h,hq=>by
  obtain ⟨e1,e2,e3,e4,e5⟩:=C1 h
  simp only [List.length_cons] at hq
  rw [Ma,e1,if_pos rfl,e2,ob,ob,w1 (by omega),List.filter_cons]
  cases !(x == m) with
  | true=>
   rw [if_pos rfl,rmO (by omega) (by decide),if_pos rfl,if_pos rfl,K19 hl r (k+1) _ e3 (by rw [List.length_append]; simp; omega),List.append_assoc]
   rfl
  | false=>rw [if_neg (by simp),if_neg (by simp),K19 hl r (k+1) _ e3 (by omega)]
theorem H1i:∀ (n:Nat) (left out:List Str),left.length≤n→n≤BB→out.length+n≤2 * BB→∃ o,Y7 left out=some (o,0)∧o.length≤out.length+left.length∧∀ nm,nm∈o ↔ nm∈out∨nm∈left
 | n,[],out,h,hn,ho=>by
  refine ⟨out,?_,by simp,fun nm=>by simp⟩
  rw [Y7]
  rfl
 | 0,x::r,out,h,hn,ho=>by simp at h
 | n+1,x::r,out,h,hn,ho=>by
  obtain ⟨m,m1,m2⟩:=J19 (l:=x::r) (out:=out) (by omega) (by omega) (x::r) 0 x rfl List.mem_cons_self
  have h3:=K19 (l:=x::r) (out:=out++[m]) (m:=m) (by omega) (x::r) 0 [] rfl (by simp only [List.length_nil]; omega)
  rw [List.nil_append] at h3
  have hlt:((x::r).filter fun y=>!(y == m)).length < (x::r).length:=by
   rw [List.length_filter_lt_length_iff_exists]
   exact ⟨m,m1,by simp⟩
  obtain ⟨o,o1,o2,o3⟩:=H1i n ((x::r).filter fun y=>!(y == m)) (out++[m]) (by omega) (by omega) (by rw [List.length_append]; simp; omega)
  refine ⟨o,?_,by rw [List.length_append] at o2; simp only [List.length_cons,List.length_nil] at o2 hlt ⊢; omega,fun nm=>?_⟩
  ·rw [Y7,decide_eq_true (show (((x::r).length:Nat):Int) > 0 by simp),if_pos rfl,show idx (x::r) 0=some x from rfl,ob]
   rw [show ((0:Nat):Int)=0 from rfl] at m2 h3
   rw [m2,h3,o1]
  ·rw [o3,List.mem_append,List.mem_filter,List.mem_singleton]
   by_cases e:nm=m
   ·subst e; simp [m1]
   ·simp only [e,or_false]
    rw [show (!(nm == m))=true by simpa using e]
    simp
theorem V1v {p:O0}{n:Nat}(h:p.bulk≤n):D0.bulks p.Decls+C0.bulks p.Body≤n:=by
 obtain ⟨ds,b⟩:=p
 simp only [O0.bulk] at h
 simp only
 omega
theorem I1v (p:O0)(hb:p.bulk≤4200000):∃ o,Rl p=some (o,Y6 p)∧o.length≤BB∧(Y6 p=0→∀ nm,nm∈D0.useds p.Decls++C0.useds p.Body→nm∈o):=by
 have h:=Zy hb
 have h2:=V1v hb
 unfold Rl
 rw [S1o p h,ob]
 cases hc:Y6 p != 0 with
 | true=>exact ⟨[],rfl,by simp,fun q=>by rw [q] at hc; cases hc⟩
 | false=>
  have h0:Y6 p=0:=by simpa using hc
  have b1:=D0.useds_len p.Decls
  have b2:=C0.useds_len p.Body
  obtain ⟨o,o1,o2,o3⟩:=H1i (D0.useds p.Decls++C0.useds p.Body).length (D0.useds p.Decls++C0.useds p.Body) [] (Nat.le_refl _) (by rw [List.length_append]; unfold BB; omega) (by rw [List.length_append]; simp only [List.length_nil]; unfold BB; omega)
  refine ⟨o,?_,by rw [List.length_append] at o2; simp only [List.length_nil] at o2; unfold BB; omega,fun _ nm hn=>(o3 nm).2 (.inr hn)⟩
  rw [if_neg (by simp),H1v _ h.decls,ob,V1p _ h.body,ob,rmO (by unfold BB; omega) (by decide),if_pos rfl,o1,h0]
def swp (f t s:Str):Str:=bif s == f then t else s
theorem U1e (s f t:Str):Wf s f t=some (swp f t s):=by
 unfold Wf swp
 exact ifB _ _ _
theorem B0.rn_eq (σ:Str→Str)(e:B0):e.rn σ = .mk e.Op e.NV (bif e.Op == 3 then σ e.Name else e.Name) (B0.rns σ e.Kids):=by cases e; simp only [B0.rn]
theorem A0.rn_eq (σ:Str→Str)(t:A0):t.rn σ = .mk t.Kind t.Low t.High t.Size (bif t.Kind == 4 then σ t.Name else t.Name) t.Names (A0.rns σ t.Of):=by cases t; simp only [A0.rn]
theorem C0.rn_eq (σ:Str→Str)(s:C0):s.rn σ = .mk s.Verb (s.Place.rn σ) (s.Value.rn σ) (bif uNm s.Verb then σ s.Name else s.Name) (B0.rns σ s.Args) s.NV s.Low s.High s.Numbers (C0.rns σ s.Then) (C0.rns σ s.Else):=by cases s; simp only [C0.rn]
theorem D0.rn_eq (σ:Str→Str)(d:D0):d.rn σ = .mk d.Kind (σ d.Name) (d.TypeV.rn σ) d.Init (d.Value.rn σ) (D0.rns σ d.Params) (D0.rns σ d.Vars) (C0.rns σ d.Body):=by cases d; simp only [D0.rn]
theorem V1e (f t:Str)(e:B0):OkE e→X4 e f t=some (e.rn (swp f t)):=by
 induction e using B0.ind with
 | h e ih=>
 intro ho
 have hk:=ho.kids
 have main:∀ (r:List B0) (k:Nat) (nm:Str) (out:List B0),e.Kids.drop k=r→out.length+r.length≤BB→B9 e f t nm out k=some (.mk e.Op e.NV nm (out++B0.rns (swp f t) r)):=by
  intro r
  induction r with
  | nil=>intro k nm out h _; rw [B9,(Y0 h).1]; simp [B0.rns]
  | cons x r ihr=>
   intro k nm out h hl
   obtain ⟨e1,e2,e3,e4,e5⟩:=C1 h
   simp only [List.length_cons] at hl
   rw [B9,e1,if_pos rfl,e2,ob,ih x e5 (ho.kid e5),ob,rmO (by omega) (by decide),if_pos rfl,w1 (by omega),ihr (k+1) nm _ e3 (by rw [List.length_append]; simp; omega)]
   simp only [B0.rns,List.append_assoc,List.cons_append,List.nil_append]
 rw [X4,B0.rn_eq]
 cases e.Op == 3 with
 | true=>
  rw [if_pos rfl,U1e,ob,Wb]
  exact main e.Kids 0 _ [] rfl (by simp; omega)
 | false=>
  rw [if_neg (by simp),Wb]
  exact main e.Kids 0 _ [] rfl (by simp; omega)
theorem W1v (f t:Str)(e:A0):Ok e→P9 e f t=some (e.rn (swp f t)):=by
 induction e using A0.ind with
 | h e ih=>
 intro ho
 have hk:=ho.ofs
 have hn:=ho.names
 have main:∀ (r:List A0) (k:Nat) (nm:Str) (ns:List Str) (out:List A0),e.Of.drop k=r→out.length+r.length≤BB→A9 e f t nm ns out k=some (.mk e.Kind e.Low e.High e.Size nm ns (out++A0.rns (swp f t) r)):=by
  intro r
  induction r with
  | nil=>intro k nm ns out h _; rw [A9,(Y0 h).1]; simp [A0.rns]
  | cons x r ihr=>
   intro k nm ns out h hl
   obtain ⟨e1,e2,e3,e4,e5⟩:=C1 h
   simp only [List.length_cons] at hl
   rw [A9,e1,if_pos rfl,e2,ob,ih x e5 (ho.kid e5),ob,rmO (by omega) (by decide),if_pos rfl,w1 (by omega),ihr (k+1) nm ns _ e3 (by rw [List.length_append]; simp; omega)]
   simp only [A0.rns,List.append_assoc,List.cons_append,List.nil_append]
 have names:∀ (r:List Str) (k:Nat) (nm:Str) (out:List Str),e.Names.drop k=r→out.length+r.length≤BB→Z8 e f t nm out k=some (.mk e.Kind e.Low e.High e.Size nm (out++r) (A0.rns (swp f t) e.Of)):=by
  intro r
  induction r with
  | nil=>
   intro k nm out h _
   have:=main e.Of 0 nm out [] rfl (by simp; omega)
   rw [show ((0:Nat):Int)=0 from rfl] at this
   rw [Z8,(Y0 h).1,if_neg (by simp),this,List.append_nil]
   rfl
  | cons x r ihr=>
   intro k nm out h hl
   obtain ⟨e1,e2,e3,e4,e5⟩:=C1 h
   simp only [List.length_cons] at hl
   rw [Z8,e1,if_pos rfl,e2,ob,rmO (by omega) (by decide),if_pos rfl,w1 (by omega),ihr (k+1) nm _ e3 (by rw [List.length_append]; simp; omega),List.append_assoc]
   rfl
 rw [P9,A0.rn_eq]
 cases e.Kind == 4 with
 | true=>
  rw [if_pos rfl,U1e,ob,Vb]
  exact names e.Names 0 _ [] rfl (by simp; omega)
 | false=>
  rw [if_neg (by simp),Vb]
  exact names e.Names 0 _ [] rfl (by simp; omega)
theorem J1s (f t:Str)(l:List C0):OkS l→H4 l f t=some (C0.rns (swp f t) l):=by
 refine C0.inds (Q:=fun l=>OkS l→H4 l f t=some (C0.rns (swp f t) l)) (fun l ih ho=>?_) l
 have hl:=ho.len
 have main:∀ (r:List C0) (k:Nat) (out:List C0),l.drop k=r→out.length+r.length≤BB→Z7 l f t out k=some (out++C0.rns (swp f t) r):=by
  intro r
  induction r with
  | nil=>intro k out h _; rw [Z7,(Y0 h).1]; simp [C0.rns]
  | cons x r ihr=>
   intro k out h hl2
   obtain ⟨e1,e2,e3,e4,e5⟩:=C1 h
   have o1:=ho.mem e5
   have ha:=o1.args
   have hm:=o1.nums
   simp only [List.length_cons] at hl2
   have l4:∀ (q:List Int) (j:Nat) (nm:Str) (ar:List B0) (ns:List Int),x.Numbers.drop j=q→ns.length+q.length≤BB→
     B8 l f t x (x.Place.rn (swp f t)) (x.Value.rn (swp f t)) nm ar ns (C0.rns (swp f t) x.Then) (C0.rns (swp f t) x.Else) out k j=some (out++(.mk x.Verb (x.Place.rn (swp f t)) (x.Value.rn (swp f t)) nm ar x.NV x.Low x.High (ns++q) (C0.rns (swp f t) x.Then) (C0.rns (swp f t) x.Else)::C0.rns (swp f t) r)):=by
    intro q
    induction q with
    | nil=>
     intro j nm ar ns h _
     rw [B8,(Y0 h).1,if_neg (by simp),rmO (by omega) (by decide),if_pos rfl,w1 (by omega),ihr (k+1) _ e3 (by rw [List.length_append]; simp; omega),List.append_assoc,List.append_nil]
     rfl
    | cons y q ihq=>
     intro j nm ar ns h hq
     obtain ⟨f1,f2,f3,f4,f5⟩:=C1 h
     simp only [List.length_cons] at hq
     rw [B8,f1,if_pos rfl,f2,ob,rmO (by omega) (by decide),if_pos rfl,w1 (by omega),ihq (j+1) nm ar _ f3 (by rw [List.length_append]; simp; omega),List.append_assoc]
     rfl
   have l3:∀ (q:List B0) (j:Nat) (nm:Str) (ar:List B0),x.Args.drop j=q→ar.length+q.length≤BB→
     A8 l f t x (x.Place.rn (swp f t)) (x.Value.rn (swp f t)) nm ar (C0.rns (swp f t) x.Then) (C0.rns (swp f t) x.Else) out k j=some (out++(.mk x.Verb (x.Place.rn (swp f t)) (x.Value.rn (swp f t)) nm (ar++B0.rns (swp f t) q) x.NV x.Low x.High x.Numbers (C0.rns (swp f t) x.Then) (C0.rns (swp f t) x.Else)::C0.rns (swp f t) r)):=by
    intro q
    induction q with
    | nil=>
     intro j nm ar h _
     have:=l4 x.Numbers 0 nm ar [] rfl (by simp; omega)
     rw [show ((0:Nat):Int)=0 from rfl] at this
     rw [A8,(Y0 h).1,if_neg (by simp),this]
     simp [B0.rns]
    | cons y q ihq=>
     intro j nm ar h hq
     obtain ⟨f1,f2,f3,f4,f5⟩:=C1 h
     simp only [List.length_cons] at hq
     rw [A8,f1,if_pos rfl,f2,ob,V1e f t y (o1.arg y f5),ob,rmO (by omega) (by decide),if_pos rfl,w1 (by omega),ihq (j+1) nm _ f3 (by rw [List.length_append]; simp; omega),List.append_assoc]
     rfl
   have j2:∀ nm,Wa l f t x (x.Place.rn (swp f t)) (x.Value.rn (swp f t)) nm (C0.rns (swp f t) x.Then) (C0.rns (swp f t) x.Else) out k=some (out++(.mk x.Verb (x.Place.rn (swp f t)) (x.Value.rn (swp f t)) nm (B0.rns (swp f t) x.Args) x.NV x.Low x.High x.Numbers (C0.rns (swp f t) x.Then) (C0.rns (swp f t) x.Else)::C0.rns (swp f t) r)):=fun nm=>by
    rw [Wa]
    exact l3 x.Args 0 nm [] rfl (by simp; omega)
   rw [Z7,e1,if_pos rfl,e2,ob,V1e f t _ o1.place,ob,V1e f t _ o1.value,ob,(ih x e5).1 o1.thens,ob,(ih x e5).2 o1.elses,ob,rUN,ob]
   simp only [C0.rns]
   rw [C0.rn_eq]
   cases uNm x.Verb with
   | true=>rw [if_pos rfl,U1e,ob,j2]; rfl
   | false=>rw [if_neg (by simp),j2]; rfl
 rw [H4]
 exact main l 0 [] rfl (by simp; omega)
theorem X1v (f t:Str)(l:List D0):OkD l→S6 l f t=some (D0.rns (swp f t) l):=by
 induction l using D0.inds with
 | h l ih=>
 intro ho
 have hl:=ho.len
 have main:∀ (r:List D0) (k:Nat) (out:List D0),l.drop k=r→out.length+r.length≤BB→C8 l f t out k=some (out++D0.rns (swp f t) r):=by
  intro r
  induction r with
  | nil=>intro k out h _; rw [C8,(Y0 h).1]; simp [D0.rns]
  | cons x r ihr=>
   intro k out h hl2
   obtain ⟨e1,e2,e3,e4,e5⟩:=C1 h
   have o1:=ho.mem e5
   obtain ⟨i1,i2⟩:=ih x e5
   simp only [List.length_cons] at hl2
   rw [C8,e1,if_pos rfl,e2,ob,U1e,ob,W1v f t _ o1.type,ob,V1e f t _ o1.value,ob,i1 o1.params,ob,i2 o1.vars,ob,J1s f t _ o1.body,ob,rmO (by omega) (by decide),if_pos rfl,w1 (by omega),
    ihr (k+1) _ e3 (by rw [List.length_append]; simp; omega),List.append_assoc]
   simp only [D0.rns,D0.rn_eq]
   rfl
 rw [S6]
 exact main l 0 [] rfl (by simp; omega)
theorem V1t (p:O0)(f t:Str)(hb:p.bulk≤4200000)(hf:f.length≤BB)(ht:t.length≤BB) :
  ∃ z,Zj p f t=some z∧(z.2=0→z.1=p.rn (swp f t)∧Y6 p=0∧T2 f=true∧T2 t=true∧(t∈D0.useds p.Decls++C0.useds p.Body→f=t)):=by
 obtain ⟨o,o1,o2,o3⟩:=I1v p hb
 have h:=Zy hb
 unfold Zj
 rw [o1,ob]
 cases hc:Y6 p != 0 with
 | true=>exact ⟨_,rfl,fun q=>by simp only at q; rw [q] at hc; cases hc⟩
 | false=>
  have h0:Y6 p=0:=by simpa using hc
  rw [if_neg (by simp),We f hf,ob]
  cases nf:T2 f with
  | false=>exact ⟨_,rfl,fun q=>by simp at q⟩
  | true=>
   rw [show (if (!(!true))=true then C6 t else some default)=some (T2 t) from We t ht,ob]
   cases nt:T2 t with
   | false=>exact ⟨_,rfl,fun q=>by simp at q⟩
   | true=>
    rw [show (if (bif (!true) then true else (!true))=true then some (O0.mk [] [],(7:Int)) else I5 p f t (o,Y6 p) 0)=I5 p f t (o,Y6 p) 0 from rfl]
    have main:∀ (r:List Str) (k:Nat),o.drop k=r→∃ z,I5 p f t (o,Y6 p) k=some z∧(z.2=0→z.1=p.rn (swp f t)∧(t∈r→f=t)):=by
     intro r
     induction r with
     | nil=>
      intro k h'
      rw [I5,(Y0 h').1,if_neg (by simp),X1v f t _ h.decls,ob,J1s f t _ h.body,ob]
      exact ⟨_,rfl,fun _=>⟨rfl,fun q=>by cases q⟩⟩
     | cons x r ihr=>
      intro k h'
      obtain ⟨e1,e2,e3,e4,e5⟩:=C1 h'
      obtain ⟨z,z1,z2⟩:=ihr (k+1) e3
      rw [I5,e1,if_pos rfl,e2,ob,w1 (by omega),z1]
      cases hx:x == t with
      | false=>
       refine ⟨z,rfl,fun q=>⟨(z2 q).1,fun m=>?_⟩⟩
       cases m with
       | head=>rw [beq_self_eq_true] at hx; cases hx
       | tail _ m=>exact (z2 q).2 m
      | true=>
       cases he:f == t with
       | true=>exact ⟨z,rfl,fun q=>⟨(z2 q).1,fun _=>eq_of_beq he⟩⟩
       | false=>exact ⟨_,rfl,fun q=>by simp at q⟩
    obtain ⟨z,z1,z2⟩:=main o 0 rfl
    exact ⟨z,z1,fun q=>⟨(z2 q).1,h0,rfl,rfl,fun m=>(z2 q).2 (o3 h0 t m)⟩⟩
mutual
theorem B0.rn_congr {σ τ:Str→Str}:∀ e:B0,(∀ nm∈e.used,σ nm=τ nm)→e.rn σ=e.rn τ
 | .mk o n s ks=>fun h=>by
  simp only [B0.used,List.mem_append] at h
  simp only [B0.rn]
  rw [B0.rns_congr ks fun nm hn=>h nm (.inr hn)]
  cases ho:o == 3 with
  | false=>rfl
  | true=>rw [cond_true,cond_true,h s (.inl (by rw [ho]; simp))]
theorem B0.rns_congr {σ τ:Str→Str}:∀ l:List B0,(∀ nm∈B0.useds l,σ nm=τ nm)→B0.rns σ l=B0.rns τ l
 | []=>fun _=>rfl
 | x::r=>fun h=>by
  simp only [B0.useds,List.mem_append] at h
  simp only [B0.rns]
  rw [B0.rn_congr x fun nm hn=>h nm (.inl hn),B0.rns_congr r fun nm hn=>h nm (.inr hn)]
end
mutual
theorem A0.rn_congr {σ τ:Str→Str}:∀ e:A0,(∀ nm∈e.used,σ nm=τ nm)→e.rn σ=e.rn τ
 | .mk k l h' s n ns of=>fun h=>by
  simp only [A0.used,List.mem_append] at h
  simp only [A0.rn]
  rw [A0.rns_congr of fun nm hn=>h nm (.inr hn)]
  cases hk:k == 4 with
  | false=>rfl
  | true=>rw [cond_true,cond_true,h n (.inl (by rw [hk]; simp))]
theorem A0.rns_congr {σ τ:Str→Str}:∀ l:List A0,(∀ nm∈A0.useds l,σ nm=τ nm)→A0.rns σ l=A0.rns τ l
 | []=>fun _=>rfl
 | x::r=>fun h=>by
  simp only [A0.useds,List.mem_append] at h
  simp only [A0.rns]
  rw [A0.rn_congr x fun nm hn=>h nm (.inl hn),A0.rns_congr r fun nm hn=>h nm (.inr hn)]
end
mutual
theorem C0.rn_congr {σ τ:Str→Str}:∀ e:C0,(∀ nm∈e.used,σ nm=τ nm)→e.rn σ=e.rn τ
 | .mk v pl va nm ar n lo hi ns th el=>fun h=>by
  simp only [C0.used,List.mem_append] at h
  simp only [C0.rn]
  rw [B0.rn_congr pl fun nm hn=>h nm (.inr (.inl hn)),B0.rn_congr va fun nm hn=>h nm (.inr (.inr (.inl hn))),B0.rns_congr ar fun nm hn=>h nm (.inr (.inr (.inr (.inl hn)))),
   C0.rns_congr th fun nm hn=>h nm (.inr (.inr (.inr (.inr (.inl hn))))),C0.rns_congr el fun nm hn=>h nm (.inr (.inr (.inr (.inr (.inr hn)))))]
  cases hv:uNm v with
  | false=>rfl
  | true=>rw [cond_true,cond_true,h nm (.inl (by rw [hv]; simp))]
theorem C0.rns_congr {σ τ:Str→Str}:∀ l:List C0,(∀ nm∈C0.useds l,σ nm=τ nm)→C0.rns σ l=C0.rns τ l
 | []=>fun _=>rfl
 | x::r=>fun h=>by
  simp only [C0.useds,List.mem_append] at h
  simp only [C0.rns]
  rw [C0.rn_congr x fun nm hn=>h nm (.inl hn),C0.rns_congr r fun nm hn=>h nm (.inr hn)]
end
mutual
theorem D0.rn_congr {σ τ:Str→Str}:∀ e:D0,(∀ nm∈e.used,σ nm=τ nm)→e.rn σ=e.rn τ
 | .mk k nm t i v ps vs bd=>fun h=>by
  simp only [D0.used,List.mem_cons,List.mem_append] at h
  simp only [D0.rn]
  rw [h nm (.inl rfl),A0.rn_congr t fun nm hn=>h nm (.inr (.inl hn)),B0.rn_congr v fun nm hn=>h nm (.inr (.inr (.inl hn))),D0.rns_congr ps fun nm hn=>h nm (.inr (.inr (.inr (.inl hn)))),
   D0.rns_congr vs fun nm hn=>h nm (.inr (.inr (.inr (.inr (.inl hn))))),C0.rns_congr bd fun nm hn=>h nm (.inr (.inr (.inr (.inr (.inr hn)))))]
theorem D0.rns_congr {σ τ:Str→Str}:∀ l:List D0,(∀ nm∈D0.useds l,σ nm=τ nm)→D0.rns σ l=D0.rns τ l
 | []=>fun _=>rfl
 | x::r=>fun h=>by
  simp only [D0.useds,List.mem_append] at h
  simp only [D0.rns]
  rw [D0.rn_congr x fun nm hn=>h nm (.inl hn),D0.rns_congr r fun nm hn=>h nm (.inr hn)]
end
def trs (f t s:Str):Str:=bif s == f then t else bif s == t then f else s
theorem J1v {f t:Str}(hf:T2 f=true)(ht:T2 t=true):Rn (trs f t):=by
 have z:T2 []=false:=rfl
 have nf:([] == f)=false:=beq_eq_false_iff_ne.2 fun e=>by rw [← e,z] at hf; cases hf
 have nt:([] == t)=false:=beq_eq_false_iff_ne.2 fun e=>by rw [← e,z] at ht; cases ht
 refine ⟨fun a=>?_,fun a=>?_,?_⟩
 ·unfold trs
  by_cases h1:a=f
  ·subst h1
   rw [beq_self_eq_true,cond_true]
   by_cases h2:t=a
   ·subst h2; rw [beq_self_eq_true]; rfl
   ·rw [beq_eq_false_iff_ne.2 h2,beq_self_eq_true]; rfl
  ·by_cases h2:a=t
   ·subst h2; rw [beq_eq_false_iff_ne.2 h1,cond_false,beq_self_eq_true,cond_true,beq_self_eq_true]; rfl
   ·have e1:=beq_eq_false_iff_ne.2 h1
    have e2:=beq_eq_false_iff_ne.2 h2
    simp only [e1,e2,cond_false]
 ·unfold trs
  by_cases h1:a=f
  ·subst h1; rw [beq_self_eq_true,cond_true,hf,ht]
  ·rw [beq_eq_false_iff_ne.2 h1,cond_false]
   by_cases h2:a=t
   ·subst h2; rw [beq_self_eq_true,cond_true,hf,ht]
   ·rw [beq_eq_false_iff_ne.2 h2]; rfl
 ·unfold trs
  rw [nf,nt]
  rfl
theorem K1v {p:O0}{f t:Str}(h:t∈D0.useds p.Decls++C0.useds p.Body→f=t):p.rn (swp f t)=p.rn (trs f t):=by
 have key:∀ nm∈D0.useds p.Decls++C0.useds p.Body,swp f t nm=trs f t nm:=fun nm hn=>by
  unfold swp trs
  by_cases h1:nm=f
  ·rw [h1,beq_self_eq_true]; rfl
  ·rw [beq_eq_false_iff_ne.2 h1,cond_false,cond_false]
   by_cases h2:nm=t
   ·rw [h2] at hn h1; exact absurd (h hn).symm h1
   ·rw [beq_eq_false_iff_ne.2 h2]; rfl
 unfold O0.rn
 rw [D0.rns_congr _ fun nm hn=>key nm (List.mem_append.2 (.inl hn)),C0.rns_congr _ fun nm hn=>key nm (List.mem_append.2 (.inr hn))]
def Sh (σ:Str→Str):Prop:=∀ a,(σ a).length≤a.length+12
mutual
theorem B0.bulk_rn {σ:Str→Str}(h:Sh σ):∀ e:B0,(e.rn σ).bulk≤4 * e.bulk
 | .mk o n s ks=>by
  have h1:=B0.bulks_rn h ks
  have h2:=h s
  simp only [B0.rn,B0.bulk]
  cases o == 3 <;> simp only [cond_true,cond_false] <;> omega
theorem B0.bulks_rn {σ:Str→Str}(h:Sh σ):∀ l:List B0,B0.bulks (B0.rns σ l)≤4 * B0.bulks l
 | []=>by simp only [B0.rns,B0.bulks]; omega
 | x::r=>by
  have h1:=B0.bulk_rn h x
  have h2:=B0.bulks_rn h r
  simp only [B0.rns,B0.bulks]; omega
end
mutual
theorem A0.bulk_rn {σ:Str→Str}(h:Sh σ):∀ e:A0,(e.rn σ).bulk≤4 * e.bulk
 | .mk k l h' s n ns of=>by
  have h1:=A0.bulks_rn h of
  have h2:=h n
  simp only [A0.rn,A0.bulk]
  cases k == 4 <;> simp only [cond_true,cond_false] <;> omega
theorem A0.bulks_rn {σ:Str→Str}(h:Sh σ):∀ l:List A0,A0.bulks (A0.rns σ l)≤4 * A0.bulks l
 | []=>by simp only [A0.rns,A0.bulks]; omega
 | x::r=>by
  have h1:=A0.bulk_rn h x
  have h2:=A0.bulks_rn h r
  simp only [A0.rns,A0.bulks]; omega
end
mutual
theorem C0.bulk_rn {σ:Str→Str}(h:Sh σ):∀ e:C0,(e.rn σ).bulk≤4 * e.bulk
 | .mk v pl va nm ar n lo hi ns th el=>by
  have h1:=C0.bulks_rn h th
  have h2:=C0.bulks_rn h el
  have h3:=h nm
  have h4:=B0.bulk_rn h pl
  have h5:=B0.bulk_rn h va
  have h6:=B0.bulks_rn h ar
  simp only [C0.rn,C0.bulk]
  cases uNm v <;> simp only [cond_true,cond_false] <;> omega
theorem C0.bulks_rn {σ:Str→Str}(h:Sh σ):∀ l:List C0,C0.bulks (C0.rns σ l)≤4 * C0.bulks l
 | []=>by simp only [C0.rns,C0.bulks]; omega
 | x::r=>by
  have h1:=C0.bulk_rn h x
  have h2:=C0.bulks_rn h r
  simp only [C0.rns,C0.bulks]; omega
end
mutual
theorem D0.bulk_rn {σ:Str→Str}(h:Sh σ):∀ e:D0,(e.rn σ).bulk≤4 * e.bulk
 | .mk k nm t i v ps vs bd=>by
  have h1:=D0.bulks_rn h ps
  have h2:=D0.bulks_rn h vs
  have h3:=h nm
  have h4:=B0.bulk_rn h v
  have h5:=A0.bulk_rn h t
  have h6:=C0.bulks_rn h bd
  simp only [D0.rn,D0.bulk]
  omega
theorem D0.bulks_rn {σ:Str→Str}(h:Sh σ):∀ l:List D0,D0.bulks (D0.rns σ l)≤4 * D0.bulks l
 | []=>by simp only [D0.rns,D0.bulks]; omega
 | x::r=>by
  have h1:=D0.bulk_rn h x
  have h2:=D0.bulks_rn h r
  simp only [D0.rns,D0.bulks]; omega
end
theorem L1e {s:Str}(h:T2 s=true):s.length≤12:=by
 unfold T2 at h
 by_cases q:(s.length:Int)≤12
 ·omega
 ·rw [decide_eq_false q] at h; cases h
theorem W1t {p:O0}{σ:Str→Str}(h:Sh σ)(hb:p.bulk≤1048576):(p.rn σ).bulk≤4200000:=by
 have h1:=D0.bulks_rn h p.Decls
 have h2:=C0.bulks_rn h p.Body
 obtain ⟨ds,b⟩:=p
 simp only [O0.rn,O0.bulk] at hb h1 h2 ⊢
 omega
theorem L13 (p:O0)(f t:Str)(hb:p.bulk≤1048576)(hf:f.length≤1048576)(ht:t.length≤1048576)(hk:Vi=some true):Zd p f t=some true:=by
 have hb1:p.bulk≤4200000:=by omega
 unfold Zd Uv
 obtain ⟨b,hw⟩:=T1o p (Zy hb1) 300
 rw [hk,ob,if_neg (by simp),hw,ob,ob]
 cases (bif (bif (!b) then true else (decide (((f).length:Int) > 40))) then true else (decide (((t).length:Int) > 40))) with
 | true=>rfl
 | false=>
  obtain ⟨z,z1,z2⟩:=V1t p f t hb1 (by unfold BB; omega) (by unfold BB; omega)
  rw [if_neg (by simp),z1,ob]
  cases hc:z.2 != 0 with
  | true=>rfl
  | false=>
   obtain ⟨q1,q2,q3,q4,q5⟩:=z2 (by simpa using hc)
   have hs:Sh (trs f t):=fun a=>by
    have:=L1e q3
    have:=L1e q4
    unfold trs
    cases a == f with
    | true=>simp only [cond_true]; omega
    | false=>cases a == t <;> simp only [cond_true,cond_false] <;> omega
   rw [if_neg (by simp),q1,K1v q5,Bz hb1,ob,Bz (W1t hs hb),ob,F1v (J1v q3 q4),beq_self_eq_true,beq_self_eq_true]
   rfl
end Go.Proofs.YtdkabnfphmmmnaaGreatDoor

