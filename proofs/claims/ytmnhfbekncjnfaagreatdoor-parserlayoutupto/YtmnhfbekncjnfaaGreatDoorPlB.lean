/- A part of the proof of ParserLayout. -/
import Derived.Test.YtmnhfbekncjnfaaGreatDoorPlA
import Derived.KernelRfl
namespace Go.Proofs.YtmnhfbekncjnfaaGreatDoor
open Go.Am
section
set_option linter.unusedSectionVars false
variable {l l':List K0}{s:Nat}{α β:Type}(hl:Yf l)(hl':Yf l')(hs:l.length+s+8≤BB)
include hl hl' hs
theorem F15:∀ k out r,P6 l k out=some r→∀ n:Nat,k=n→TM l l' s false n r (P6 l' ((n+s:Nat):Int) out):=by
 refine P6.partial_correctness l _ ?_
 intro g ih k out r hr n hn
 subst hn
 refine Tr.run ?_ hr
 rw [P6]
 refine Tr.bind (Qd hl hl' hs n) fun v j ok _=>?_
 refine Tr.go (Tr.no (Nat.le_refl _)) fun _=>?_
 refine Tr.room fun _=>?_
 refine Tr.must hl hl' hs (.inl nofun) (Tr.yes (Nat.le_refl _)) fun h=>?_
 simp only
 rw [wl hl hl' hs h,H3 hl hl' hs h]
 exact Tr.le (Tr.of fun r hr=>ih _ _ _ hr _ rfl) (Nat.le_succ _)
theorem C1a (n:Nat):Tr l l' s false n true (Wg l n) (Wg l' ((n+s:Nat):Int)):=by
 unfold Wg
 exact Tr.of fun r hr=>F15 hl hl' hs _ _ _ hr _ rfl
theorem H14:∀ k out r,F6 l k out=some r→∀ n:Nat,k=n→n < l.length→TM l l' s false (n+1) r (F6 l' ((n+s:Nat):Int) out):=by
 refine F6.partial_correctness l _ ?_
 intro g ih k out r hr n hn h
 subst hn
 refine Tr.run ?_ hr
 rw [F6,wl hl hl' hs h,H3 hl hl' hs h]
 refine Tr.bind (Vl hl hl' hs (n+1)) fun v j ok _=>?_
 refine Tr.go (Tr.no (Nat.le_refl _)) fun _=>?_
 refine Tr.room fun _=>?_
 refine Tr.may hl hl' hs (.inl nofun) (fun _ h=>?_) fun _=>?_
 ·simp only
  rw [wl hl hl' hs h,H3 hl hl' hs h]; exact Tr.yes (Nat.le_succ _)
 exact Tr.must hl hl' hs (.inl nofun) (Tr.no (Nat.le_refl _)) fun h1=>Tr.le (Tr.of fun r hr=>ih _ _ _ hr _ rfl h1) (Nat.le_succ _)
theorem P19 (n:Nat):Tr l l' s false n true (Jf l n) (Jf l' ((n+s:Nat):Int)):=by
 unfold Jf
 refine Tr.must hl hl' hs (.inl nofun) (Tr.no (Nat.le_refl _)) fun h=>?_
 rw [wl hl hl' hs h,H3 hl hl' hs h,wl2 hl hl' hs h,ws2 hl hl' hs h]
 refine Tr.le (k':=n+1) (Tr.may hl hl' hs (.inl nofun) (fun _ _=>Tr.yes (Nat.le_succ _)) fun _=>?_) (Nat.le_succ _)
 exact Tr.of fun r hr=>H14 hl hl' hs _ _ _ hr _ rfl h
theorem W16 (n:Nat):Tr l l' s false n true (Bc l n) (Bc l' ((n+s:Nat):Int)):=by
 unfold Bc
 refine Tr.bind (E1h hl hl' hs n) fun v j ok _=>?_
 refine Tr.ask hl hl' hs (.inl nofun) (Tr.no (Nat.le_refl _)) fun _ h=>?_
 simp only
 rw [wl hl hl' hs h,H3 hl hl' hs h]
 refine Tr.le (k':=j+1) (Tr.may hl hl' hs (.inl nofun) (fun _ h2=>?_) fun _=>?_) (Nat.le_succ _)
 ·rw [wl hl hl' hs h2,H3 hl hl' hs h2]
  exact Tr.le (Tr.bind (Fk hl hl' hs (j+1+1)) fun v j ok _=>Tr.ret (Nat.le_refl _) id) (Nat.le_succ _)
 refine Tr.may hl hl' hs (.inl nofun) (fun _ h2=>?_) fun _=>?_
 ·rw [wl hl hl' hs h2,H3 hl hl' hs h2]
  refine Tr.le (Tr.bind (Fk hl hl' hs (j+1+1)) fun v j ok _=>?_) (Nat.le_succ _)
  refine Tr.go (Tr.no (Nat.le_refl _)) fun _=>?_
  exact Tr.bind (P19 hl hl' hs j) fun v j ok _=>Tr.ret (Nat.le_refl _) id
 ·exact Tr.bind (Vl hl hl' hs (j+1)) fun v j ok _=>Tr.ret (Nat.le_refl _) id
theorem Q10 (a:Int)(p v:A0)(n:Str)(az:List A0)(b c d:Int)(ns:List Int)(t u:List E0)(j:Nat)(ok:Bool) :
  Tr l l' s false j ok (E6 l a p v n az b c d ns t u j ok) (E6 l' a p v n az b c d ns t u ((j+s:Nat):Int) ok):=by
 unfold E6
 refine Tr.ask hl hl' hs (.inl nofun) (Tr.no (Nat.le_refl _)) fun _ h=>?_
 rw [wl hl hl' hs h,H3 hl hl' hs h]
 exact Tr.yes (Nat.le_succ _)
theorem Tr.states {k:Nat}{b:Bool}{F F':Bool→Option (β×Int×Bool)}(hT:beg l k=true→Tr l l' s false k b (F true) (F' true))(hN:beg l k=false→Tr l l' s false k b (F false) (F' false)):Tr l l' s false k b (Fe l (k:Int)>>=F) (Fe l' ((k+s:Nat):Int)>>=F'):=by
 intro r hr
 have e1:Fe l (k:Int)=some (beg l k):=E12 hl k
 have e2:Fe l' ((k+s:Nat):Int)=some (beg l' (k+s)):=E12 hl' (k+s)
 rw [e1,ob] at hr
 rw [e2,ob]
 have key:∀ c:Bool,beg l k=c→F c=some r→TM l l' s false k r (F' c)∧(r.2.2=true→b=true):=by
  intro c hc hq
  cases c with
  | true=>exact hT hc r hq
  | false=>exact hN hc r hq
 obtain ⟨⟨j,h1,h2,h3⟩,h4⟩:=key _ rfl hr
 refine ⟨⟨j,h1,h2,fun ha=>?_⟩,h4⟩
 rcases ha k (Nat.le_refl _) h2 with a | ⟨a,_⟩
 ·have:beg l' (k+s)=beg l k:=by
   unfold beg
   simp only [Xv a,(Jo a 0).1]
  rw [this]
  exact h3 ha
 ·cases a
theorem Z1i:(∀ k r,X4 l k=some r→∀ n:Nat,k=n→TM l l' s false n r (X4 l' ((n+s:Nat):Int)))∧
  (∀ k out r,L6 l k out=some r→∀ n:Nat,k=n→TM l l' s false n r (L6 l' ((n+s:Nat):Int) out))∧
  (∀ k r,Uc l k=some r→∀ n:Nat,k=n→TM l l' s false n r (Uc l' ((n+s:Nat):Int)))∧
  (∀ k r,Oi l k=some r→∀ n:Nat,k=n→TM l l' s false n r (Oi l' ((n+s:Nat):Int)))∧
  (∀ k r,Ab l k=some r→∀ n:Nat,k=n→TM l l' s false n r (Ab l' ((n+s:Nat):Int)))∧
  (∀ k r,Xk l k=some r→∀ n:Nat,k=n→TM l l' s false n r (Xk l' ((n+s:Nat):Int)))∧
  (∀ k r,Ad l k=some r→∀ n:Nat,k=n→TM l l' s false n r (Ad l' ((n+s:Nat):Int))):=by
 refine X4.mutual_partial_correctness l _ _ _ _ _ _ _ ?_ ?_ ?_ ?_ ?_ ?_ ?_
 ·intro g1 ih1 k r hr n hn
  subst hn
  refine Tr.run ?_ hr
  rw [X4]
  exact Tr.of fun r hr=>ih1 _ _ _ hr _ rfl
 ·intro g1 g2 ih1 ih2 k out r hr n hn
  subst hn
  refine Tr.run ?_ hr
  rw [L6]
  refine Tr.states hl hl' hs (fun _=>?_) fun _=>?_
  ·simp only [if_true]
   refine Tr.bind (Tr.of fun r hr=>ih2 _ _ hr _ rfl) fun v j ok _=>?_
   refine Tr.go (Tr.no (Nat.le_refl _)) fun _=>?_
   exact Tr.room fun _=>Tr.of fun r hr=>ih1 _ _ _ hr _ rfl
  ·exact Tr.yes (Nat.le_refl _)
 ·intro g3 g5 g6 ih3 ih5 ih6 k r hr n hn
  subst hn
  refine Tr.run ?_ hr
  rw [Uc]
  refine Tr.may hl hl' hs (.inl nofun) (fun _ h=>?_) fun _=>?_
  ·rw [wl hl hl' hs h,H3 hl hl' hs h]
   exact Tr.le (Tr.bind (Tr.of fun r hr=>ih6 _ _ hr _ rfl) fun v j ok _=>Tr.ret (Nat.le_refl _) id) (Nat.le_succ _)
  refine Tr.may hl hl' hs (.inl nofun) (fun _ h=>?_) fun _=>?_
  ·rw [wl hl hl' hs h,H3 hl hl' hs h]
   exact Tr.le (Tr.bind (Tr.of fun r hr=>ih5 _ _ hr _ rfl) fun v j ok _=>Tr.ret (Nat.le_refl _) id) (Nat.le_succ _)
  refine Tr.may hl hl' hs (.inl nofun) (fun _ h=>?_) fun _=>?_
  ·rw [wl hl hl' hs h,H3 hl hl' hs h]
   exact Tr.le (Tr.bind (Tr.of fun r hr=>ih3 _ _ hr _ rfl) fun v j ok _=>Tr.ret (Nat.le_refl _) id) (Nat.le_succ _)
  refine Tr.may hl hl' hs (.inl nofun) (fun _ h=>?_) fun _=>?_
  ·rw [wl hl hl' hs h,H3 hl hl' hs h]
   exact Tr.le (Tr.bind (Vl hl hl' hs (n+1)) fun v j ok _=>Q10 hl hl' hs _ _ _ _ _ _ _ _ _ _ _ j ok) (Nat.le_succ _)
  refine Tr.may hl hl' hs (.inl nofun) (fun _ h=>?_) fun _=>?_
  ·rw [wl hl hl' hs h,H3 hl hl' hs h]
   exact Tr.le (Tr.bind (Qd hl hl' hs (n+1)) fun v j ok _=>Q10 hl hl' hs _ _ _ _ _ _ _ _ _ _ _ j ok) (Nat.le_succ _)
  refine Tr.may hl hl' hs (.inl nofun) (fun _ h=>?_) fun _=>?_
  ·rw [wl hl hl' hs h,H3 hl hl' hs h]
   exact Tr.le (Tr.bind (C1a hl hl' hs (n+1)) fun v j ok _=>Q10 hl hl' hs _ _ _ _ _ _ _ _ _ _ _ j ok) (Nat.le_succ _)
  ·exact Tr.bind (W16 hl hl' hs n) fun v j ok _=>Q10 hl hl' hs _ _ _ _ _ _ _ _ _ _ _ j ok
 ·intro g4 ih4 k r hr n hn
  subst hn
  refine Tr.run ?_ hr
  rw [Oi]
  refine Tr.bind (Fk hl hl' hs n) fun v j ok _=>?_
  refine Tr.ask hl hl' hs (.inl nofun) (Tr.no (Nat.le_refl _)) fun _ h=>?_
  simp only
  rw [wl hl hl' hs h,H3 hl hl' hs h]
  refine Tr.le (Tr.bind (Qd hl hl' hs (j+1)) fun v2 j2 ok2 _=>?_) (Nat.le_succ _)
  refine Tr.ask hl hl' hs (.inl nofun) (Tr.no (Nat.le_refl _)) fun _ h=>?_
  simp only
  rw [wl hl hl' hs h,H3 hl hl' hs h]
  refine Tr.le (Tr.bind (Qd hl hl' hs (j2+1)) fun v3 j3 ok3 _=>?_) (Nat.le_succ _)
  refine Tr.go (Tr.no (Nat.le_refl _)) fun _=>?_
  exact Tr.bind (Tr.of fun r hr=>ih4 _ _ hr _ rfl) fun v j ok _=>Tr.ret (Nat.le_refl _) id
 ·intro g0 ih0 k r hr n hn
  subst hn
  refine Tr.run ?_ hr
  rw [Ab]
  refine Tr.must hl hl' hs (.inl nofun) (Tr.no (Nat.le_refl _)) fun h=>?_
  rw [wl hl hl' hs h,H3 hl hl' hs h]
  refine Tr.le (Tr.bind (Tr.of fun r hr=>ih0 _ _ hr _ rfl) fun v j ok _=>?_) (Nat.le_succ _)
  refine Tr.ask hl hl' hs (.inl nofun) (Tr.no (Nat.le_refl _)) fun _ h=>?_
  simp only
  rw [wl hl hl' hs h,H3 hl hl' hs h]
  exact Tr.yes (Nat.le_succ _)
 ·intro g4 ih4 k r hr n hn
  subst hn
  refine Tr.run ?_ hr
  rw [Xk]
  refine Tr.bind (Vl hl hl' hs n) fun v j ok _=>?_
  refine Tr.ask hl hl' hs (.inl nofun) (Tr.no (Nat.le_refl _)) fun _ h=>?_
  simp only
  rw [wl hl hl' hs h,H3 hl hl' hs h]
  refine Tr.le (Tr.bind (Qd hl hl' hs (j+1)) fun v2 j2 ok2 _=>?_) (Nat.le_succ _)
  refine Tr.go (Tr.no (Nat.le_refl _)) fun _=>?_
  exact Tr.bind (Tr.of fun r hr=>ih4 _ _ hr _ rfl) fun v j ok _=>Tr.ret (Nat.le_refl _) id
 ·intro g4 ih4 k r hr n hn
  subst hn
  refine Tr.run ?_ hr
  rw [Ad]
  refine Tr.bind (Vl hl hl' hs n) fun v j ok _=>?_
  refine Tr.go (Tr.no (Nat.le_refl _)) fun _=>?_
  refine Tr.bind (Tr.of fun r hr=>ih4 _ _ hr _ rfl) fun v2 j2 ok2 _=>?_
  refine Tr.go (Tr.no (Nat.le_refl _)) fun h=>?_
  subst h
  refine Tr.may hl hl' hs (.inl nofun) (fun _ h=>?_) fun _=>?_
  ·simp only
   rw [wl hl hl' hs h,H3 hl hl' hs h]
   exact Tr.le (Tr.bind (Tr.of fun r hr=>ih4 _ _ hr _ rfl) fun v j ok _=>Tr.ret (Nat.le_refl _) id) (Nat.le_succ _)
  ·exact Tr.yes (Nat.le_refl _)
theorem Qx (n:Nat):Tr l l' s false n true (X4 l n) (X4 l' ((n+s:Nat):Int)):=Tr.of fun r hr=>(Z1i hl hl' hs).1 _ _ hr n rfl
theorem M1f (x y:D0×Int×Bool)(h:x.1=y.1)(i:Int)(j:Nat)(ok:Bool)(hok:ok=true):Tr l l' s false j ok (O6 l x i j) (O6 l' y i ((j+s:Nat):Int)):=by
 subst hok
 unfold O6
 rw [h]
 refine Tr.must hl hl' hs (.inl nofun) (Tr.no (Nat.le_refl _)) fun h=>?_
 rw [wl hl hl' hs h,H3 hl hl' hs h]
 exact Tr.yes (Nat.le_succ _)
theorem F1h (n:Nat):Tr l l' s false n true (Vk l n) (Vk l' ((n+s:Nat):Int)):=by
 unfold Vk
 refine Tr.may hl hl' hs (.inl nofun) (fun _ h=>?_) fun _=>?_
 ·rw [wl hl hl' hs h,H3 hl hl' hs h]; exact Tr.yes (Nat.le_succ _)
 refine Tr.may hl hl' hs (.inl nofun) (fun _ h=>?_) fun _=>?_
 ·rw [wl hl hl' hs h,H3 hl hl' hs h]; exact Tr.yes (Nat.le_succ _)
 exact Tr.bind (Qd hl hl' hs n) fun v j ok _=>Tr.ret (Nat.le_refl _) id
theorem E11 (n:Nat):Tr l l' s false n true (Ac l n) (Ac l' ((n+s:Nat):Int)):=by
 unfold Ac
 refine Tr.bind (F12 hl hl' hs n) fun v j ok _=>?_
 refine Tr.go (Tr.no (Nat.le_refl _)) fun _=>?_
 refine Tr.may hl hl' hs (.inl nofun) (fun _ h=>?_) fun _=>?_
 ·simp only
  rw [wl hl hl' hs h,H3 hl hl' hs h]
  refine Tr.le (Tr.bind (F1h hl hl' hs (j+1)) fun v2 j2 ok2 _=>?_) (Nat.le_succ _)
  refine Tr.go (Tr.no (Nat.le_refl _)) fun _=>?_
  exact M1f hl hl' hs _ _ rfl _ j2 true rfl
 ·exact M1f hl hl' hs _ _ rfl _ j true rfl
theorem Tr.signs {k:Nat}{b:Bool}{t u:Str}{F F':Int×Bool→Option (β×Int×Bool)}(hT:k+1 < l.length→Tr l l' s false (k+1+1) b (F (((k+1+1:Nat):Int),true)) (F' (((k+1+1+s:Nat):Int),true)))(hN:Tr l l' s false k b (F ((k:Int),false)) (F' (((k+s:Nat):Int),false)))(hN2:Tr l l' s false (k+1) b (F (((k+1:Nat):Int),false)) (F' (((k+1+s:Nat):Int),false))) :
  Tr l l' s false k b (Ti l (k:Int) [t,u]>>=F) (Ti l' ((k+s:Nat):Int) [t,u]>>=F'):=by
 intro r hr
 rw [Jx hl,ob] at hr
 rw [Jx hl',ob]
 have q1:k+s+1=k+1+s:=by omega
 have q2:k+1+s+1=k+1+1+s:=by omega
 rw [q1,q2]
 have ha:∀ {i j:Nat},Ag l l' s false k j r.2.2→k≤i→i≤j→∀ t,isT l' (i+s) t=isT l i t:=fun ha h1 h2 t=>by
  rcases ha _ h1 h2 with a | ⟨a,_⟩
  ·exact Xv a t
  ·cases a
 cases h:isT l k t with
 | false=>
  rw [h] at hr
  obtain ⟨⟨j,h1,h2,h3⟩,h4⟩:=hN r hr
  refine ⟨⟨j,h1,h2,fun hA=>?_⟩,h4⟩
  rw [ha hA (Nat.le_refl _) h2,h]
  exact h3 hA
 | true=>
  rw [h] at hr
  simp only [if_true] at hr
  cases h':isT l (k+1) u with
  | false=>
   rw [h'] at hr
   obtain ⟨⟨j,h1,h2,h3⟩,h4⟩:=hN2 r hr
   refine ⟨⟨j,h1,by omega,fun hA=>?_⟩,h4⟩
   rw [ha hA (Nat.le_refl _) (by omega),h,ha hA (Nat.le_succ _) h2,h']
   exact h3 fun i i1 i2=>hA i (by omega) i2
  | true=>
   rw [h'] at hr
   obtain ⟨⟨j,h1,h2,h3⟩,h4⟩:=hT (J1 h') r hr
   refine ⟨⟨j,h1,by omega,fun hA=>?_⟩,h4⟩
   rw [ha hA (Nat.le_refl _) (by omega),h,ha hA (Nat.le_succ _) (by omega),h']
   exact h3 fun i i1 i2=>hA i (by omega) i2
theorem A1j (x1:Str×Int×Bool)(x5:J0×Int×Bool)(ps:List D0):∀ vs k r,Q7 l x1 x5 ps vs k=some r→∀ (n:Nat) (y1:Str×Int×Bool) (y5:J0×Int×Bool),k=n→y1.1=x1.1→y5.1=x5.1→TM l l' s false n r (Q7 l' y1 y5 ps vs ((n+s:Nat):Int)):=by
 refine Q7.partial_correctness l x1 x5 ps _ ?_
 intro g ih vs k r hr n y1 y5 hn e1 e5
 subst hn
 refine Tr.run ?_ hr
 rw [Q7,e1,e5]
 refine Tr.may hl hl' hs (.inl nofun) (fun _ h=>?_) fun _=>?_
 ·rw [wl hl hl' hs h,H3 hl hl' hs h]
  refine Tr.le (Tr.bind (E11 hl hl' hs (n+1)) fun v j ok _=>?_) (Nat.le_succ _)
  refine Tr.go (Tr.no (Nat.le_refl _)) fun _=>?_
  exact Tr.room fun _=>Tr.of fun r hr=>ih _ _ _ hr _ _ _ rfl e1 e5
 refine Tr.bind (Qx hl hl' hs n) fun v j ok _=>?_
 refine Tr.ask hl hl' hs (.inl nofun) (Tr.no (Nat.le_refl _)) fun _ h=>?_
 simp only
 rw [wl hl hl' hs h,H3 hl hl' hs h]
 refine Tr.le (Tr.bind (Vl hl hl' hs (j+1)) fun v2 j2 ok2 _=>?_) (Nat.le_succ _)
 refine Tr.go (Tr.no (Nat.le_refl _)) fun _=>?_
 exact Tr.signs hl hl' hs (fun _=>Tr.yes (Nat.le_refl _)) (Tr.yes (Nat.le_refl _)) (Tr.yes (Nat.le_refl _))
theorem C1b (x1 y1:Str×Int×Bool)(e1:y1.1=x1.1)(ps:List D0)(n:Nat):Tr l l' s false n true (R7 l x1 ps n) (R7 l' y1 ps ((n+s:Nat):Int)):=by
 unfold R7
 rw [e1]
 refine Tr.signs hl hl' hs (fun _=>?_) (Tr.no (Nat.le_refl _)) (Tr.no (Nat.le_refl _))
 simp only [Bool.not_true,Bool.false_eq_true,if_false]
 refine Tr.bind (L1f hl hl' hs (n+1+1)) fun v j ok _=>?_
 refine Tr.ask hl hl' hs (.inl nofun) (Tr.no (Nat.le_refl _)) fun _ h=>?_
 simp only
 rw [wl hl hl' hs h,H3 hl hl' hs h]
 exact Tr.le (Tr.of fun r hr=>A1j hl hl' hs _ _ _ _ _ _ hr _ _ _ rfl e1 rfl) (Nat.le_succ _)
theorem B1j (x1:Str×Int×Bool):∀ ps k r,W5 l x1 ps k=some r→∀ (n:Nat) (y1:Str×Int×Bool),k=n→y1.1=x1.1→TM l l' s false n r (W5 l' y1 ps ((n+s:Nat):Int)):=by
 refine W5.partial_correctness l x1 _ ?_
 intro g ih ps k r hr n y1 hn e1
 subst hn
 refine Tr.run ?_ hr
 rw [W5,e1]
 refine Tr.bind (F12 hl hl' hs n) fun v j ok _=>?_
 refine Tr.go (Tr.no (Nat.le_refl _)) fun _=>?_
 refine Tr.room fun _=>?_
 refine Tr.must hl hl' hs (.inl nofun) ?_ fun h=>?_
 ·exact C1b hl hl' hs _ _ e1 _ _
 ·simp only
  rw [wl hl hl' hs h,H3 hl hl' hs h]
  exact Tr.le (Tr.of fun r hr=>ih _ _ _ hr _ _ rfl e1) (Nat.le_succ _)
theorem D1a (n:Nat):Tr l l' s false n true (Ud l n) (Ud l' ((n+s:Nat):Int)):=by
 unfold Ud
 refine Tr.bind (Fk hl hl' hs n) fun v j ok _=>?_
 refine Tr.ask hl hl' hs (.inl nofun) (Tr.no (Nat.le_refl _)) fun _ h=>?_
 simp only
 rw [wl hl hl' hs h,H3 hl hl' hs h]
 refine Tr.le (k':=j+1) (Tr.must hl hl' hs (.inl nofun) ?_ fun h=>?_) (Nat.le_succ _)
 ·exact Tr.of fun r hr=>B1j hl hl' hs _ _ _ _ hr _ _ rfl rfl
 ·exact C1b hl hl' hs (v,(j:Int),ok) (v,((j+s:Nat):Int),ok) rfl _ _
theorem I14 (kd:Int)(x y:D0×Int×Bool)(e:y.1=x.1)(v:A0)(j:Nat):Tr l l' s false j true (H5 l kd x v j) (H5 l' kd y v ((j+s:Nat):Int)):=by
 unfold H5
 rw [e]
 refine Tr.must hl hl' hs (.inl nofun) (Tr.no (Nat.le_refl _)) fun h=>?_
 rw [wl hl hl' hs h,H3 hl hl' hs h]
 exact Tr.yes (Nat.le_succ _)
theorem Tr.idx {k:Nat}{b:Bool}{F F':K0→Option (β×Int×Bool)}(hF:∀ x y,y.Text=x.Text→k < l.length→Tr l l' s false k b (F x) (F' y)):Tr l l' s false k b (idx l (k:Int)>>=F) (idx l' ((k+s:Nat):Int)>>=F'):=by
 intro r hr
 rw [Tm] at hr ⊢
 cases hx:l[k]? with
 | none=>rw [hx] at hr; cases hr
 | some x=>
  rw [hx,ob] at hr
  have key:∀ y,y.Text=x.Text→TM l l' s false k r (F' y)∧(r.2.2=true→b=true):=fun y hy=>hF x y hy (Ui hx) r hr
  obtain ⟨⟨j,h1,h2,h3⟩,h4⟩:=key x rfl
  refine ⟨⟨j,h1,h2,fun ha=>?_⟩,h4⟩
  rcases ha k (Nat.le_refl _) h2 with a | ⟨a,_⟩
  ·rw [hx] at a
   cases hy:l'[k+s]? with
   | none=>rw [hy] at a; exact a.elim
   | some y=>
    rw [hy] at a
    obtain ⟨⟨j',g1,g2,g3⟩,_⟩:=key y a.2.symm
    have:j'=j:=by omega
    subst this
    rw [ob]
    exact g3 ha
  ·cases a
theorem G15 (n:Nat):Tr l l' s false n true (Lb l n) (Lb l' ((n+s:Nat):Int)):=by
 unfold Lb
 refine Tr.may hl hl' hs (.inl nofun) (fun _ h=>?_) fun _=>?_
 ·rw [wl hl hl' hs h,H3 hl hl' hs h]
  exact Tr.le (Tr.bind (E11 hl hl' hs (n+1)) fun v j ok _=>Tr.ret (Nat.le_refl _) id) (Nat.le_succ _)
 refine Tr.may hl hl' hs (.inl nofun) (fun _ h=>?_) fun _=>?_
 ·rw [wl hl hl' hs h,H3 hl hl' hs h]
  exact Tr.le (Tr.bind (D1a hl hl' hs (n+1)) fun v j ok _=>Tr.ret (Nat.le_refl _) id) (Nat.le_succ _)
 refine Tr.may hl hl' hs (.inl nofun) (fun _ h=>?_) fun _=>?_
 ·rw [wl hl hl' hs h,H3 hl hl' hs h]
  refine Tr.le (Tr.bind (Fk hl hl' hs (n+1)) fun v j ok _=>?_) (Nat.le_succ _)
  refine Tr.ask hl hl' hs (.inl nofun) (Tr.no (Nat.le_refl _)) fun _ h=>?_
  simp only
  rw [wl hl hl' hs h,H3 hl hl' hs h]
  refine Tr.le (Tr.bind (L1f hl hl' hs (j+1)) fun v j ok _=>?_) (Nat.le_succ _)
  refine Tr.ask hl hl' hs (.inl nofun) (Tr.no (Nat.le_refl _)) fun _ h=>?_
  simp only
  rw [wl hl hl' hs h,H3 hl hl' hs h]
  exact Tr.yes (Nat.le_succ _)
 refine Tr.idx hl hl' hs fun x y hxy h=>?_
 rw [wl hl hl' hs h,H3 hl hl' hs h,hxy]
 refine Tr.le (Tr.bind (F12 hl hl' hs (n+1)) fun v j ok _=>?_) (Nat.le_succ _)
 refine Tr.go (Tr.no (Nat.le_refl _)) fun _=>?_
 refine Tr.iff (fun _=>I14 hl hl' hs _ _ _ rfl _ j) fun _=>?_
 refine Tr.iff (fun _=>I14 hl hl' hs _ _ _ rfl _ j) fun _=>?_
 refine Tr.iff (fun _=>I14 hl hl' hs _ _ _ rfl _ j) fun _=>?_
 refine Tr.must hl hl' hs (.inl nofun) (Tr.no (Nat.le_refl _)) fun h=>?_
 simp only
 rw [wl hl hl' hs h,H3 hl hl' hs h]
 refine Tr.le (Tr.bind (Vl hl hl' hs (j+1)) fun v2 j2 ok2 _=>?_) (Nat.le_succ _)
 refine Tr.go (Tr.no (Nat.le_refl _)) fun _=>?_
 exact I14 hl hl' hs _ _ _ rfl _ j2
theorem Tr.declares {k:Nat}{b:Bool}{F F':Bool→Option (β×Int×Bool)}(hT:dcl l k=true→Tr l l' s false k b (F true) (F' true))(hN:dcl l k=false→Tr l l' s false k b (F false) (F' false)):Tr l l' s false k b (Ug l (k:Int)>>=F) (Ug l' ((k+s:Nat):Int)>>=F'):=by
 intro r hr
 rw [Kx hl,ob] at hr
 rw [Kx hl',ob]
 have key:∀ c:Bool,dcl l k=c→F c=some r→TM l l' s false k r (F' c)∧(r.2.2=true→b=true):=by
  intro c hc hq
  cases c with
  | true=>exact hT hc r hq
  | false=>exact hN hc r hq
 obtain ⟨⟨j,h1,h2,h3⟩,h4⟩:=key _ rfl hr
 refine ⟨⟨j,h1,h2,fun ha=>?_⟩,h4⟩
 rcases ha k (Nat.le_refl _) h2 with a | ⟨a,_⟩
 ·have:dcl l' (k+s)=dcl l k:=by
   unfold dcl
   simp only [Xv a]
  rw [this]
  exact h3 ha
 ·cases a
theorem X16:∀ ds k r,R8 l ds k=some r→∀ n:Nat,k=n→TM l l' s false n r (R8 l' ds ((n+s:Nat):Int)):=by
 refine R8.partial_correctness l _ ?_
 intro g ih ds k r hr n hn
 subst hn
 refine Tr.run ?_ hr
 rw [R8]
 refine Tr.declares hl hl' hs (fun _=>?_) fun _=>?_
 ·simp only [if_true]
  refine Tr.bind (G15 hl hl' hs n) fun v j ok _=>?_
  refine Tr.go (Tr.no (Nat.le_refl _)) fun _=>?_
  exact Tr.room fun _=>Tr.of fun r hr=>ih _ _ _ hr _ rfl
 ·simp only [Bool.false_eq_true,if_false]
  refine Tr.must hl hl' hs (.inl nofun) (Tr.no (Nat.le_refl _)) fun h=>?_
  rw [wl hl hl' hs h,H3 hl hl' hs h]
  refine Tr.le (Tr.bind (Qx hl hl' hs (n+1)) fun v j ok _=>?_) (Nat.le_succ _)
  refine Tr.ask hl hl' hs (.inl nofun) (Tr.no (Nat.le_refl _)) fun _ h=>?_
  simp only
  rw [wl hl hl' hs h,H3 hl hl' hs h]
  exact Tr.yes (Nat.le_succ _)
theorem V1c (n:Nat):Tr l l' s false n true (Bf l n) (Bf l' ((n+s:Nat):Int)):=by
 unfold Bf
 exact Tr.of fun r hr=>X16 hl hl' hs _ _ _ hr _ rfl
end
end Go.Proofs.YtmnhfbekncjnfaaGreatDoor

namespace Go.Proofs.YtmnhfbekncjnfaaGreatDoor
open Go.Am
def Yz (l:List K0)(e:Int)(v:A0)(j:Nat)(ok:Bool):A0×Int×Int:=
 if ok&&j == l.length then (if Vz v != 0 then ((A0.mk 0 0 [] []),0,Vz v) else (v,0,0)) else (A0.mk 0 0 [] [],off l e j,6)
theorem Rx (text:Str)(h:(N3 text).2.2=0):∃ v j ok,A2 (N3 text).1 ((0:Nat):Int)=some (v,((j:Nat):Int),ok)∧j≤(N3 text).1.length∧
  V4 text=some (Yz (N3 text).1 (text.length:Int) v j ok)∧OkE (Yz (N3 text).1 (text.length:Int) v j ok).1:=by
 have hz:OkE (A0.mk 0 0 [] []):=by unfold OkE; rw [Wc]; unfold BB; simp
 obtain ⟨x1,_⟩:=J19 text
 obtain ⟨ht,hlen⟩:=Gx h
 have hb:((N3 text).2.2 != 0)=false:=by rw [h]; rfl
 unfold V4 Qi
 rw [x1,ob]
 simp only [hb,Bool.false_eq_true,if_false]
 unfold Na Yz
 rcases (So (l:=(N3 text).1) (e:=(text.length:Int)) ht (Nat.zero_le _)).expr with ⟨v,j,h1,h2,h3,h4,h5⟩ | ⟨v,j,h2,h4,h5⟩
 ·have h4':C1 (B0.mk (N3 text).1 0 (text.length:Int))=some (.ok (v,mk (N3 text).1 j (text.length:Int))):=h4
  have hv:OkE v:=by unfold OkE; unfold BE at h3; unfold BB; omega
  refine ⟨v,j,true,h5,h2,?_⟩
  rw [h4',ob]
  simp only [ob,Bool.true_and]
  by_cases hj:j=(N3 text).1.length
  ·have e1:decide ((j:Int) < ((N3 text).1.length:Int))=false:=decide_eq_false (by omega)
   have e2:(j == (N3 text).1.length)=true:=by simpa using hj
   rw [e1,if_neg (by simp),e2]
   simp only [ob,bne_self_eq_false,Bool.false_eq_true,if_false,if_true]
   rw [Z18 v hv,ob]
   by_cases hc:(Vz v != 0)=true
   ·exact ⟨by rw [if_pos hc,if_pos hc],by rw [if_pos hc]; exact hz⟩
   ·exact ⟨by rw [if_neg hc,if_neg hc],by rw [if_neg hc]; exact hv⟩
  ·have e1:decide ((j:Int) < ((N3 text).1.length:Int))=true:=decide_eq_true (by omega)
   have e2:(j == (N3 text).1.length)=false:=by simpa using hj
   rw [e1,if_pos rfl,e2,B14 (N3 text).1 _ ht.1,ob]
   exact ⟨rfl,hz⟩
 ·have h4':C1 (B0.mk (N3 text).1 0 (text.length:Int))=some (.pn (off (N3 text).1 (text.length:Int) j)):=h4
  refine ⟨v,j,false,h5,h2,?_⟩
  rw [h4',ob]
  exact ⟨rfl,hz⟩
theorem T1k (r:List UInt8)(k k':Int):nxt r k'=((K0.mk (nxt r k).1.Kind (nxt r k).1.Text k'),(nxt r k).2):=by
 unfold nxt
 split
 ·split
  ·rfl
  ·split <;> rfl
 ·split
  ·rfl
  ·split
   ·rfl
   ·split <;> rfl
def Good (x:K0):Prop:=(∃ c t,x.Text=c::t∧∀ r,skp false (c::r)=0)∧∀ k,nxt x.Text k=(K0.mk x.Kind x.Text k,0)
theorem C1j {c:UInt8}(h:([46,61,33,60,62,38,124]:List UInt8).contains c=false)(t:List UInt8):Vi (c::t)=false:=by
 have f:∀ a∈([46,61,33,60,62,38,124]:List UInt8),∀ b:UInt8,((c::t) == [a,b])=false:=fun a ha b=>beq_eq_false_iff_ne.2 fun e=>by
  injection e with e _
  subst e
  rw [List.contains_iff_mem.2 ha] at h
  cases h
 unfold Vi
 rw [f 46 (by decide),f 61 (by decide),f 33 (by decide),f 60 (by decide),f 62 (by decide),f 38 (by decide),f 124 (by decide)]
 rfl
theorem G1h {c:UInt8}{t:List UInt8}{k:Int}(h:(nxt (c::t) k).2=0)(r:List UInt8):skp false (c::r)=0:=by
 have no:∀ d:UInt8,Me d.toNat=false→G9 d.toNat=false→([46,61,33,60,62,38,124]:List UInt8).contains d=false→Hq d=false→c=d→False:=fun d h1 h2 h3 h4 e=>by
  subst e
  revert h
  unfold nxt
  simp only [List.getD_cons_zero,h1,h2,h4,Bool.false_eq_true,if_false]
  have:Vi ((c::t).take 2)=false:=by rw [List.take_succ_cons]; exact C1j h3 _
  rw [this,Bool.and_false,if_neg (by simp)]
  intro h
  cases h
 have u:∀ d:UInt8,((c.toNat:Int) == (d.toNat:Int))=true→c=d:=fun d h=>UInt8.toNat_inj.1 (by have:=eq_of_beq h; omega)
 simp only [skp]
 by_cases h1:((c.toNat:Int) == 35)=true
 ·exact (no 35 rfl rfl rfl rfl (u 35 h1)).elim
 rw [if_neg h1]
 by_cases h2:((c.toNat:Int) == 32)=true
 ·exact (no 32 rfl rfl rfl rfl (u 32 h2)).elim
 by_cases h3:((c.toNat:Int) == 9)=true
 ·exact (no 9 rfl rfl rfl rfl (u 9 h3)).elim
 by_cases h4:((c.toNat:Int) == 10)=true
 ·exact (no 10 rfl rfl rfl rfl (u 10 h4)).elim
 rw [if_neg]
 simp only [Bool.or_eq_true,not_or]
 exact ⟨h2,h3,h4⟩
theorem D1b:∀ (n:Nat) (r:List UInt8) (k:Nat),r.length < n→(∀ x∈(lx r k).1,Good x)∧((lx r k).1.map fun x=>x.Text.length).sum≤r.length
 | 0,_,_,h=>absurd h (Nat.not_lt_zero _)
 | n+1,r,k,h=>by
  cases hd:r.drop (skp false r) with
  | nil=>rw [J1f hd]; exact ⟨nofun,Nat.zero_le _⟩
  | cons c t=>
   have hlen:(c::t).length=r.length - skp false r:=by rw [← hd,List.length_drop]
   have hl1:(c::t).length=t.length+1:=rfl
   by_cases hx:(nxt (c::t) ((k+skp false r:Nat):Int)).2=0
   case neg=>rw [R1k hd k hx]; exact ⟨nofun,Nat.zero_le _⟩
   obtain ⟨b1,b2,b3,b4⟩:=Kl hx
   rw [Z1a hd k hx]
   obtain ⟨i1,i2⟩:=D1b n ((c::t).drop (nxt (c::t) ((k+skp false r:Nat):Int)).1.Text.length) (k+skp false r+(nxt (c::t) ((k+skp false r:Nat):Int)).1.Text.length) (by rw [List.length_drop]; omega)
   rw [List.length_drop] at i2
   have g:Good (nxt (c::t) ((k+skp false r:Nat):Int)).1:=by
    have e:=D1h hx (Nat.le_refl _)
    rw [b4] at e
    refine ⟨?_,fun q=>?_⟩
    ·refine ⟨c,t.take ((nxt (c::t) ((k+skp false r:Nat):Int)).1.Text.length - 1),?_,G1h hx⟩
     obtain ⟨m,hm⟩:∃ m,(nxt (c::t) ((k+skp false r:Nat):Int)).1.Text.length=m+1:=⟨_,(Nat.sub_add_cancel b1).symm⟩
     have:=b4
     rw [hm,List.take_succ_cons] at this
     rw [hm,Nat.add_sub_cancel]
     exact this.symm
    ·rw [T1k _ ((k+skp false r:Nat):Int) q,e,hx]
   unfold V1h
   split
   ·refine ⟨fun x hm=>?_,?_⟩
    ·rcases List.mem_cons.1 hm with rfl | hm
     ·exact g
     ·exact i1 x hm
    ·simp only [List.map_cons,List.sum_cons]; omega
   ·exact ⟨i1,by omega⟩
def key (x:K0):Int×Str:=(x.Kind,x.Text)
theorem H1h {l l':List K0}(h:l'.map key=l.map key)(i:Nat):F17 l[i]? l'[i]?:=by
 have h1:(l'.map key)[i]?=(l.map key)[i]?:=by rw [h]
 rw [List.getElem?_map,List.getElem?_map] at h1
 cases hx:l[i]? with
 | none=>cases hy:l'[i]? with
  | none=>trivial
  | some y=>rw [hx,hy] at h1; cases h1
 | some x=>cases hy:l'[i]? with
  | none=>rw [hx,hy] at h1; cases h1
  | some y=>
   rw [hx,hy] at h1
   injection h1 with h1
   injection h1 with h2 h3
   exact ⟨h2.symm,h3.symm⟩
end Go.Proofs.YtmnhfbekncjnfaaGreatDoor

namespace Go.Proofs.YtmnhfbekncjnfaaGreatDoor
open Go.Am
abbrev zP:B1:=B1.mk [] []
def Zz (l:List K0)(e:Int)(v:B1)(j:Nat)(ok:Bool):B1×Int×Int:=
 if ok&&j == l.length then (if Y13 v != 0 then (zP,0,Y13 v) else (v,0,0)) else (zP,off l e j,6)
theorem Q16 (text:Str)(h:(N3 text).2.2=0):∃ v j ok,Bf (N3 text).1 ((0:Nat):Int)=some (v,((j:Nat):Int),ok)∧j≤(N3 text).1.length∧
  Rc text=some (Zz (N3 text).1 (text.length:Int) v j ok)∧OkP (Zz (N3 text).1 (text.length:Int) v j ok).1:=by
 have hz:OkP zP:=W1j (by decide)
 obtain ⟨x1,_⟩:=J19 text
 obtain ⟨ht,hlen⟩:=Gx h
 have hb:((N3 text).2.2 != 0)=false:=by rw [h]; rfl
 unfold Rc Ak
 rw [x1,ob]
 simp only [hb,Bool.false_eq_true,if_false]
 unfold Zj Zz
 rcases I1f (l:=(N3 text).1) (e:=(text.length:Int)) ht with ⟨v,j,h1,h2,h3,h4,h5⟩ | ⟨v,j,h2,h4,h5⟩
 ·have h4':U6 (B0.mk (N3 text).1 0 (text.length:Int))=some (.ok (v,mk (N3 text).1 j (text.length:Int))):=h4
  have hv:OkP v:=Q1k (by omega)
  refine ⟨v,j,true,h5,h2,?_⟩
  rw [h4',ob]
  simp only [ob,Bool.true_and]
  by_cases hj:j=(N3 text).1.length
  ·have e1:decide ((j:Int) < ((N3 text).1.length:Int))=false:=decide_eq_false (by omega)
   have e2:(j == (N3 text).1.length)=true:=by simpa using hj
   rw [e1,if_neg (by simp),e2]
   simp only [ob,bne_self_eq_false,Bool.false_eq_true,if_false,if_true]
   rw [R1g v hv,ob]
   by_cases hc:(Y13 v != 0)=true
   ·exact ⟨by rw [if_pos hc,if_pos hc],by rw [if_pos hc]; exact hz⟩
   ·exact ⟨by rw [if_neg hc,if_neg hc],by rw [if_neg hc]; exact hv⟩
  ·have e1:decide ((j:Int) < ((N3 text).1.length:Int))=true:=decide_eq_true (by omega)
   have e2:(j == (N3 text).1.length)=false:=by simpa using hj
   rw [e1,if_pos rfl,e2,B14 (N3 text).1 _ ht.1,ob]
   exact ⟨rfl,hz⟩
 ·have h4':U6 (B0.mk (N3 text).1 0 (text.length:Int))=some (.pn (off (N3 text).1 (text.length:Int) j)):=h4
  refine ⟨v,j,false,h5,h2,?_⟩
  rw [h4',ob]
  exact ⟨rfl,hz⟩
end Go.Proofs.YtmnhfbekncjnfaaGreatDoor

namespace Go.Proofs.YtmnhfbekncjnfaaGreatDoor
open Go.Am
def Vm (k:Int):Str:=if (Int.tmod k 6 == 1)=true then [10] else if (Int.tmod k 6 == 2)=true then [9,32] else if (Int.tmod k 6 == 3)=true then [35,32,61,59,10] else if (Int.tmod k 6 == 4)=true then [32,35,10,35,10,32] else [32]
def Ss (gaps:List Int)(i:Nat):Int:=if gaps.length=0 then 0 else gaps.getD (i % gaps.length) 0
def lay (gaps:List Int):Nat→List K0→Str
 | _,[]=>[]
 | i,x::r=>Vm (Ss gaps i)++(x.Text++lay gaps (i+1) r)
theorem D1j (k:Int):(Vm k).length≤6:=by
 unfold Vm
 repeat' split
 all_goals simp
theorem I1h (k:Int):∃ d t,Vm k=d::t∧brk d=true:=by
 unfold Vm
 repeat' split
 all_goals exact ⟨_,_,rfl,by decide⟩
theorem E1j (k:Int){c:UInt8}{r:List UInt8}(h:skp false (c::r)=0):skp false (Vm k++c::r)=(Vm k).length:=by
 unfold Vm
 split
 ·exact (show skp false (c::r)+1=1 by rw [h])
 split
 ·exact (show skp false (c::r)+1+1=2 by rw [h])
 split
 ·exact (show skp false (c::r)+1+1+1+1+1=5 by rw [h])
 split
 ·exact (show skp false (c::r)+1+1+1+1+1+1=6 by rw [h])
 ·exact (show skp false (c::r)+1=1 by rw [h])
theorem J1h (gaps:List Int)(i:Nat):∀ r,lay gaps i r=[]∨∃ d t,lay gaps i r=d::t∧brk d=true
 | []=>.inl rfl
 | x::r=>by
  obtain ⟨d,t,h1,h2⟩:=I1h (Ss gaps i)
  exact .inr ⟨d,t++(x.Text++lay gaps (i+1) r),by rw [lay,h1]; rfl,h2⟩
theorem E1b (gaps:List Int):∀ (r:List K0) (i:Nat),(lay gaps i r).length≤6 * r.length+(r.map fun x=>x.Text.length).sum
 | [],_=>Nat.le_refl _
 | x::r,i=>by
  have:=E1b gaps r (i+1)
  have:=D1j (Ss gaps i)
  simp only [lay,List.length_append,List.length_cons,List.map_cons,List.sum_cons]
  omega
theorem N1f (gaps:List Int):∀ (r:List K0) (i k:Nat),(∀ x∈r,Good x)→∃ l',lx (lay gaps i r) k=(l',0,0)∧l'.map key=r.map key
 | [],i,k,_=>⟨[],J1f rfl k,rfl⟩
 | x::r,i,k,h=>by
  obtain ⟨⟨c,t,hc,hs⟩,hn⟩:=h x (List.mem_cons_self ..)
  have hk:=E1j (Ss gaps i) (hs (t++lay gaps (i+1) r))
  have e:lay gaps i (x::r)=Vm (Ss gaps i)++c::(t++lay gaps (i+1) r):=by rw [lay,hc]; rfl
  rw [← e] at hk
  have hd:(lay gaps i (x::r)).drop (skp false (lay gaps i (x::r)))=c::(t++lay gaps (i+1) r):=by rw [hk,e,List.drop_left]
  have hx:nxt (c::(t++lay gaps (i+1) r)) ((k+skp false (lay gaps i (x::r)):Nat):Int)=(K0.mk x.Kind x.Text ((k+skp false (lay gaps i (x::r)):Nat):Int),0):=by
   rcases J1h gaps (i+1) r with h0 | ⟨d,b,h1,h2⟩
   ·rw [h0,List.append_nil,← hc]; exact hn _
   ·rw [h1,← List.cons_append,C1h h2 c t b,← hc]; exact hn _
  obtain ⟨l',i1,i2⟩:=N1f gaps r (i+1) (k+skp false (lay gaps i (x::r))+x.Text.length) fun y hy=>h y (List.mem_cons_of_mem _ hy)
  have hdd:(c::(t++lay gaps (i+1) r)).drop x.Text.length=lay gaps (i+1) r:=by
   rw [← List.cons_append,← hc,List.drop_left]
  refine ⟨(K0.mk x.Kind x.Text ((k+skp false (lay gaps i (x::r)):Nat):Int))::l',?_,?_⟩
  ·rw [Z1a hd k (by rw [hx]),hx]
   simp only
   rw [hdd,i1]
   rfl
  ·rw [List.map_cons,List.map_cons,i2]
   rfl
theorem O1l (text:Str)(gaps:List Int)(x:K0)(other:Str)(k:Int)(x2:List K0×Int×Int)(v:Int)(h:other.length≤8192):T5 text gaps x other k x2 v=U5 text gaps x (other++Vm k) x2 v:=by
 have room:∀ n,n≤6→decide (other.length+n≤maxLen)=true:=fun n hn=>decide_eq_true (by unfold maxLen; omega)
 rw [T5,room 1 (by decide),room 2 (by decide),room 5 (by decide),room 6 (by decide)]
 unfold Vm
 by_cases h1:(Int.tmod k 6 == 1)=true
 ·rw [if_pos h1,if_pos h1]; rfl
 rw [if_neg h1,if_neg h1]
 by_cases h2:(Int.tmod k 6 == 2)=true
 ·rw [if_pos h2,if_pos h2]; rfl
 rw [if_neg h2,if_neg h2]
 by_cases h3:(Int.tmod k 6 == 3)=true
 ·rw [if_pos h3,if_pos h3]; rfl
 rw [if_neg h3,if_neg h3]
 by_cases h4:(Int.tmod k 6 == 4)=true
 ·rw [if_pos h4,if_pos h4]; rfl
 rw [if_neg h4,if_neg h4]
 rfl
theorem Q19 (text:Str)(gaps:List Int)(x2:List K0×Int×Int)(hl:x2.1.length≤500):∀ (r:List K0) (i:Nat) (other:Str),x2.1.drop i=r→i≤x2.1.length→other.length+(lay gaps i r).length≤8192→
  R4 text gaps other x2 i=R4 text gaps (other++lay gaps i r) x2 (x2.1.length:Nat)
 | [],i,other,h,hi,_=>by
  have:x2.1.length≤i:=List.drop_eq_nil_iff.1 h
  have:i=x2.1.length:=by omega
  rw [lay,List.append_nil,this]
 | x::r,i,other,h,hi,hr=>by
  obtain ⟨h1,h2,h3,h4,_⟩:=Z7 h
  simp only [lay,List.length_append] at hr
  have e:(if (decide (((gaps).length:Int) > 0))=true then if (decide (((gaps).length:Int)≠0))=true then idx gaps (Int.tmod (i:Int) ((gaps).length:Int))>>=fun x4=>T5 text gaps x other x4 x2 i else none else T5 text gaps x other 0 x2 i)=T5 text gaps x other (Ss gaps i) x2 i:=by
   unfold Ss
   by_cases hg:gaps.length=0
   ·have:decide (((gaps).length:Int) > 0)=false:=decide_eq_false (by omega)
    rw [this,if_neg (by simp),if_pos hg]
   ·have g1:decide (((gaps).length:Int) > 0)=true:=decide_eq_true (by omega)
    have g2:decide (((gaps).length:Int)≠0)=true:=decide_eq_true (by omega)
    have g3:Int.tmod (i:Int) ((gaps).length:Int)=((i % gaps.length:Nat):Int):=by rw [Int.tmod_eq_emod_of_nonneg (by omega)]; omega
    have g4:i % gaps.length < gaps.length:=Nat.mod_lt _ (by omega)
    rw [g1,if_pos rfl,g2,if_pos rfl,if_neg hg,g3,Tm,List.getElem?_eq_getElem g4,ob,List.getD_eq_getElem?_getD,List.getElem?_eq_getElem g4]
    rfl
  rw [R4,h1,if_pos rfl,h2,ob,e,O1l _ _ _ _ _ _ _ (by omega),U5]
  rw [if_pos (decide_eq_true (by unfold maxLen; rw [List.length_append]; omega)),w1 (by unfold BB; omega)]
  rw [Q19 text gaps x2 hl r (i+1) _ h3 (by omega) (by simp only [List.length_append]; omega)]
  rw [lay,List.append_assoc,List.append_assoc]
theorem K1h {l l':List K0}(h:l'.length=l.length)(e e':Int)(v:A0)(j:Nat)(ok:Bool):(Yz l' e' v j ok).1=(Yz l e v j ok).1∧(Yz l' e' v j ok).2.2=(Yz l e v j ok).2.2:=by
 unfold Yz
 rw [h]
 split
 ·exact ⟨rfl,rfl⟩
 ·exact ⟨rfl,rfl⟩
theorem L1h {l l':List K0}(h:l'.length=l.length)(e e':Int)(v:B1)(j:Nat)(ok:Bool):(Zz l' e' v j ok).1=(Zz l e v j ok).1∧(Zz l' e' v j ok).2.2=(Zz l e v j ok).2.2:=by
 unfold Zz
 rw [h]
 split
 ·exact ⟨rfl,rfl⟩
 ·exact ⟨rfl,rfl⟩
theorem E1a {a b:Str}(ha:(N3 a).2.2=0)(hb:(N3 b).2.2=0)(h:(N3 b).1.map key=(N3 a).1.map key) :
  (∃ x y,V4 a=some x∧V4 b=some y∧y.1=x.1∧y.2.2=x.2.2∧OkE x.1)∧(∃ x y,Rc a=some x∧Rc b=some y∧y.1=x.1∧y.2.2=x.2.2∧OkP x.1):=by
 obtain ⟨t1,n1⟩:=Gx ha
 obtain ⟨t2,_⟩:=Gx hb
 have hlen:(N3 b).1.length=(N3 a).1.length:=by
  have:=congrArg List.length h
  rwa [List.length_map,List.length_map] at this
 have hs:(N3 a).1.length+0+8≤BB:=by unfold BB; omega
 have ag:∀ k j ok,Ag (N3 a).1 (N3 b).1 0 false k j ok:=fun k j ok i _ _=>.inl (H1h h i)
 constructor
 ·obtain ⟨v,j,ok,r1,r2,r3,r4⟩:=Rx a ha
  obtain ⟨v',j',ok',q1,q2,q3,_⟩:=Rx b hb
  obtain ⟨⟨j2,m1,m2,m3⟩,_⟩:=Vl (s:=0) t1 t2 hs 0 _ r1
  have m4:=m3 (ag _ _ _)
  have m5:some (v',(j':Int),ok')=some (v,((j2+0:Nat):Int),ok):=q1.symm.trans m4
  injection m5 with m5
  injection m5 with m6 m7
  injection m7 with m7 m8
  have:(j:Int)=j2:=m1
  have hj:j'=j:=by omega
  subst m6; subst m8; subst hj
  obtain ⟨g1,g2⟩:=K1h hlen (a.length:Int) (b.length:Int) v' j' ok'
  exact ⟨_,_,r3,q3,g1,g2,r4⟩
 ·obtain ⟨v,j,ok,r1,r2,r3,r4⟩:=Q16 a ha
  obtain ⟨v',j',ok',q1,q2,q3,_⟩:=Q16 b hb
  obtain ⟨⟨j2,m1,m2,m3⟩,_⟩:=V1c (s:=0) t1 t2 hs 0 _ r1
  have m4:=m3 (ag _ _ _)
  have m5:some (v',(j':Int),ok')=some (v,((j2+0:Nat):Int),ok):=q1.symm.trans m4
  injection m5 with m5
  injection m5 with m6 m7
  injection m7 with m7 m8
  have:(j:Int)=j2:=m1
  have hj:j'=j:=by omega
  subst m6; subst m8; subst hj
  obtain ⟨g1,g2⟩:=L1h hlen (a.length:Int) (b.length:Int) v' j' ok'
  exact ⟨_,_,r3,q3,g1,g2,r4⟩
theorem V10 (text:Str)(gaps:List Int)(hk:Uf=some true):Kf text gaps=some true:=by
 unfold Kf
 rw [hk,ob]
 simp only [Bool.not_true,Bool.false_eq_true,if_false]
 by_cases h:(text.length:Int) > 2000
 ·rw [if_pos (decide_eq_true h)]
 rw [if_neg (by simpa using h),(J19 text).2,ob]
 by_cases h0:(N3 text).2.2=0
 case neg=>
  have hb:((N3 text).2.2 != 0)=true:=by simpa using h0
  rw [hb,cond_true,if_pos rfl]
 have hb:((N3 text).2.2 != 0)=false:=by rw [h0]; rfl
 rw [hb,cond_false]
 by_cases h5:(((N3 text).1).length:Int) > 500
 ·rw [if_pos (decide_eq_true h5)]
 rw [if_neg (by simpa using h5)]
 have hlx:N3 text=lx text 0:=by rw [A1b,if_neg (by omega)]
 obtain ⟨gd,sm⟩:=D1b (text.length+1) text 0 (Nat.lt_succ_self _)
 rw [← hlx] at gd sm
 have hll:=E1b gaps (N3 text).1 0
 have hle:(lay gaps 0 (N3 text).1).length≤8192:=by omega
 obtain ⟨l',e1,e2⟩:=N1f gaps (N3 text).1 0 0 gd
 have e3:N3 (lay gaps 0 (N3 text).1)=(l',0,0):=by rw [A1b,if_neg (by omega)]; exact e1
 rw [show (0:Int)=((0:Nat):Int) from rfl,Q19 text gaps (N3 text) (by omega) (N3 text).1 0 [] rfl (Nat.zero_le _) (by simpa using hle),List.nil_append]
 rw [R4,if_neg (by simp)]
 obtain ⟨⟨x,y,p1,p2,p3,p4,p5⟩,u,v,q1,q2,q3,q4,q5⟩:=E1a (a:=text) (b:=lay gaps 0 (N3 text).1) h0 (by rw [e3]) (by rw [e3]; exact e2)
 rw [q1,q2,p1,p2,ob,ob,ob,ob,q3,q4,p3,p4]
 simp only [beq_self_eq_true,cond_true,if_true]
 rw [T1g u.1 u.1 q5,U1c,ob]
 simp only [if_true]
 rw [Qm x.1 p5,Rm,ob]
 rfl
end Go.Proofs.YtmnhfbekncjnfaaGreatDoor

namespace Go.Proofs.YtmnhfbekncjnfaaGreatDoor
open Go.Am
end Go.Proofs.YtmnhfbekncjnfaaGreatDoor

namespace Go.Proofs.YtmnhfbekncjnfaaGreatDoor
open Go.Am
def tk:Nat→List UInt8→List (Int×Str)×Int
 | 0,_=>([],0)
 | n+1,r=>
  match r.drop (skp false r) with
  | []=>([],0)
  | c::t=>if (nxt (c::t) 0).2=0 then (key (nxt (c::t) 0).1::(tk n ((c::t).drop (nxt (c::t) 0).1.Text.length)).1,(tk n ((c::t).drop (nxt (c::t) 0).1.Text.length)).2) else ([],(nxt (c::t) 0).2)
def txk (r:List UInt8):List (Int×Str)×Int:=tk (r.length+1) r
def At (C:Int)(l:List K0)(k:Nat)(r:Str):Prop:=(txk r).1=(l.drop k).map key∧(txk r).2=C
section
variable {C:Int}{l:List K0}{k:Nat}{r:Str}
end
end Go.Proofs.YtmnhfbekncjnfaaGreatDoor

namespace Go.Proofs.YtmnhfbekncjnfaaGreatDoor
open Go.Am
section
set_option linter.unusedSectionVars false
variable {C:Int}{l:List K0}(hl:Yf l)
include hl
end
end Go.Proofs.YtmnhfbekncjnfaaGreatDoor

namespace Go.Proofs.YtmnhfbekncjnfaaGreatDoor
open Go.Am
section
set_option linter.unusedSectionVars false
variable {C:Int}{l:List K0}(hl:Yf l)
include hl
end
end Go.Proofs.YtmnhfbekncjnfaaGreatDoor

namespace Go.Proofs.YtmnhfbekncjnfaaGreatDoor
open Go.Am
theorem G12:Uf=some true:=Y14 60 true (by kernel_rfl)
end Go.Proofs.YtmnhfbekncjnfaaGreatDoor

