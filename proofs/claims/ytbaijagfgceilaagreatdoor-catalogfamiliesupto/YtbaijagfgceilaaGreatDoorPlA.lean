/- A part of the proof of CatalogFamilies. -/
import Derived.Test.YtbaijagfgceilaaGreatDoorDgB
import Derived.KernelRfl
namespace Go.Proofs.YtbaijagfgceilaaGreatDoor
open Go.Am
theorem ob {α β:Type}(a:α)(f:α→Option β):(some a>>=f)=f a:=rfl
theorem Z10 {α:Type}{l:List α}{k:Nat}{x:α}{r:List α}(h:l.drop k=x::r):decide ((k:Int) < (l.length:Int))=true∧idx l (k:Int)=some x∧l.drop (k+1)=r∧k < l.length∧x∈l:=by
 have hk:k < l.length:=by
  rcases Nat.lt_or_ge k l.length with h1 | h1
  ·exact h1
  ·rw [List.drop_eq_nil_of_le h1] at h; cases h
 have hx:=List.drop_eq_getElem_cons hk
 rw [h] at hx
 obtain ⟨e1,e2⟩:=List.cons.inj hx
 refine ⟨zqj (by omega),?_,e2.symm,hk,?_⟩
 ·unfold idx
  rw [zp (by omega),e1]
  simp [hk]
 ·rw [e1]; exact List.getElem_mem hk
theorem A11 {α:Type}{l:List α}{k:Nat}(h:l.drop k=[]):decide ((k:Int) < (l.length:Int))=false∧l.length≤k:=by
 have:=List.drop_eq_nil_iff.1 h
 exact ⟨zqs (by omega),this⟩
def BB:Nat:=68719476736
theorem wr {n:Int}(h : -4611686018427387904≤n)(h':n≤4611686018427387904):IntKind.i64.wrap n=n:=Y17 (by omega) (by omega)
theorem w1 {k:Nat}(h:k≤BB):IntKind.i64.wrap ((k:Int)+1)=((k+1:Nat):Int):=by
 unfold BB at h
 rw [wr (by omega) (by omega)]; rfl
set_option linter.unusedSimpArgs false
set_option linter.unusedVariables false
set_option maxRecDepth 100000
set_option maxHeartbeats 1000000
def tbl:List K0:=D7.getD []
theorem H14:D7=some tbl:=rfl
theorem R11:tbl.length=9:=rfl
def fi (nm:Str):List K0→Nat→Int
 | [],_=>-1
 | x::r,k=>if (x.name == nm)=true then (k:Int) else fi nm r (k+1)
theorem ixf (s:List K0)(hs:s.length≤BB)(nm:Str):∀ (r:List K0) (k:Nat),s.drop k=r→J1 s nm k=some (fi nm r k)
 | [],k,h=>by
  rw [J1,(A11 h).1]
  rfl
 | x::r,k,h=>by
  obtain ⟨h1,h2,h3,h4,_⟩:=Z10 h
  rw [J1,h1,if_pos rfl,h2,ob,Ce,ob,w1 (by omega),ixf s hs nm r (k+1) h3,fi]
  split <;> rfl
theorem I14 (nm:Str):T2 tbl nm=some (fi nm tbl 0):=
 ixf tbl (by rw [R11]; decide) nm tbl 0 rfl
theorem H15 (nm:Str):∀ (r:List K0) (k:Nat),(∃ (i:Nat) (x:K0),r[i]?=some x∧x.name=nm∧fi nm r k=((k+i:Nat):Int))∨((∀ x∈r,x.name≠nm)∧fi nm r k = -1)
 | [],_=>.inr ⟨fun x hx=>absurd hx List.not_mem_nil,rfl⟩
 | x::r,k=>by
  rw [fi]
  by_cases h:x.name=nm
  ·exact .inl ⟨0,x,rfl,h,if_pos (by rw [h]; exact beq_self_eq_true nm)⟩
  ·rw [if_neg (by simpa using h)]
   rcases H15 nm r (k+1) with ⟨i,y,h1,h2,h3⟩ | ⟨h1,h2⟩
   ·exact .inl ⟨i+1,y,h1,h2,by rw [h3]; congr 1; omega⟩
   ·exact .inr ⟨fun y hy=>by rcases List.mem_cons.1 hy with rfl | hy; exact h; exact h1 y hy,h2⟩
def J14:K0×Int:=(K0.mk [] 0 0 none [] none,3)
theorem P19 {nm:Str}{i:Nat}{x:K0}(hx:tbl[i]?=some x)(hf:fi nm tbl 0=(i:Int))(a b:Int):E7 nm a b =
  if (bif (decide (a < x.low)) then true else (decide (a > x.high)))=true then some J14
  else Do x.second a>>=fun x4=>if (bif (decide (b < x4.1)) then true else (decide (b > x4.2)))=true then some J14 else some (x,0):=by
 unfold E7
 rw [H14,ob,I14,ob,hf,if_neg (by simp)]
 have:idx tbl (i:Int)=some x:=by
  unfold idx
  rw [if_pos (by omega)]
  simpa using hx
 rw [this]
 rfl
theorem I15 {nm:Str}(h:fi nm tbl 0 = -1)(a b:Int):E7 nm a b=some (K0.mk [] 0 0 none [] none,7):=by
 unfold E7
 rw [H14,ob,I14,ob,h]
 rfl
theorem fam (nm:Str):(∃ (i:Nat) (x:K0),i < 9∧tbl[i]?=some x∧x.name=nm∧fi nm tbl 0=(i:Int))∨((∀ x∈tbl,x.name≠nm)∧fi nm tbl 0 = -1):=by
 rcases H15 nm tbl 0 with ⟨i,x,h1,h2,h3⟩ | h
 ·exact .inl ⟨i,x,(List.getElem?_eq_some_iff.1 h1).1,h1,h2,by rw [h3,Nat.zero_add]⟩
 ·exact .inr h
theorem V18 {nm:Str}(h:fi nm tbl 0 = -1)(a b:Int):B5 nm a b=some (0,0,7):=by
 unfold B5
 rw [I15 h]
 rfl
def Hz (a b lo hi l2 h2:Int):Bool:=bif (bif (bif (decide (a < lo)) then true else (decide (a > hi))) then true else (decide (b < l2))) then true else (decide (b > h2))
theorem K14 {nm:Str}{i:Nat}{x:K0}(hx:tbl[i]?=some x)(hf:fi nm tbl 0=(i:Int))(a b:Int){l2 h2:Int}(hs:Do x.second a=some (l2,h2)) :
  E7 nm a b=if Hz a b x.low x.high l2 h2=true then some J14 else some (x,0):=by
 rw [P19 hx hf,hs,ob]
 unfold Hz
 cases decide (a < x.low) <;> cases decide (a > x.high) <;> cases decide (b < l2) <;> cases decide (b > h2) <;> rfl
theorem U17 {nm:Str}{i:Nat}{x:K0}(hx:tbl[i]?=some x)(hf:fi nm tbl 0=(i:Int))(a b:Int){l2 h2 n m:Int}(hs:Do x.second a=some (l2,h2))
  (hk:Hz a b x.low x.high l2 h2=false→Gv x.known a b=some (n,m)) :
  B5 nm a b=if Hz a b x.low x.high l2 h2=true then some (0,0,3) else some (n,m,0):=by
 unfold B5
 rw [K14 hx hf a b hs]
 cases ho:Hz a b x.low x.high l2 h2 with
 | true=>rfl
 | false=>
  rw [if_neg (by decide),if_neg (by decide),ob,if_neg (show ¬((0:Int) != 0)=true by decide),hk ho]
  rfl
theorem Iz:Rf=some true:=Q11 300 _ (show Sp 300=some true by kernel_rfl)
theorem Xu {nm:Str}{a b:Int}(h:(Tg 300 nm a b).map (·.2)=some 0):∃ p,Z5 nm a b=some (p,0):=by
 cases hm:Tg 300 nm a b with
 | none=>rw [hm] at h; cases h
 | some r=>
  rw [hm] at h
  obtain ⟨p,c⟩:=r
  simp only [Option.map_some,Option.some.injEq] at h
  exact ⟨p,by rw [Ls 300 nm a b _ hm,h]⟩
def names (l:List K0):List Str:=l.map (·.name)
theorem E1a (s:List K0)(hs:s.length≤1000000):∀ (r:List K0) (k:Nat) (out:List Str),s.drop k=r→out.length≤k→J5 out s k=some (out++names r)
 | [],k,out,h,_=>by
  rw [J5,(A11 h).1]
  simp [names]
 | x::r,k,out,h,ho=>by
  obtain ⟨h1,h2,h3,h4,_⟩:=Z10 h
  rw [J5,h1,if_pos rfl,h2,ob,if_pos (decide_eq_true (by omega)),w1 (by unfold BB; omega),E1a s hs r (k+1) (out++[x.name]) h3 (by simp; omega)]
  simp [names]
theorem V14:Me=some (names tbl):=by
 unfold Me
 rw [H14,ob]
 exact E1a tbl (by rw [R11]; decide) tbl 0 [] rfl (Nat.zero_le _)
theorem J12 (s:List K0)(hs:s.length≤BB)(nm:Str):∀ (r:List K0) (k:Nat),s.drop k=r→B3 (names s) nm k=some (fi nm r k)
 | [],k,h=>by
  rw [B3,(A11 (l:=names s) (by unfold names; rw [← List.map_drop,h]; rfl)).1]
  rfl
 | x::r,k,h=>by
  obtain ⟨_,_,h3,h4,_⟩:=Z10 h
  obtain ⟨h1,h2,_,_,_⟩:=Z10 (l:=names s) (k:=k) (x:=x.name) (r:=names r) (by unfold names; rw [← List.map_drop,h]; rfl)
  rw [B3,h1,if_pos rfl,h2,ob,w1 (by omega),J12 s hs nm r (k+1) h3,fi]
  by_cases e:x.name=nm
  ·rw [e,beq_self_eq_true,if_pos rfl,if_pos rfl]
  ·rw [if_neg (by simpa using fun h=>e h.symm),if_neg (by simpa using e)]
theorem W14 (nm:Str):H5 (names tbl) nm=some (decide (fi nm tbl 0≥0)):=by
 unfold H5 W8
 rw [show B3 (names tbl) nm 0=some (fi nm tbl 0) from J12 tbl (by rw [R11]; decide) nm tbl 0 rfl,ob]
theorem J15 (s:List Str)(hs:s.length≤BB):∀ (r:List Str) (k:Nat),s.drop k=r→L2 s s k=some true
 | [],k,h=>by
  rw [L2,(A11 h).1]
  rfl
 | x::r,k,h=>by
  obtain ⟨h1,h2,h3,h4,_⟩:=Z10 h
  rw [L2,h1,if_pos rfl,h2,ob,ob,beq_self_eq_true,if_neg (by decide),w1 (by omega),J15 s hs r (k+1) h3]
theorem W18:(Fe>>=fun x6=>Z3 (names tbl) x6)=some true:=by
 have:Fe=some (names tbl):=rfl
 rw [this,ob]
 unfold Z3
 rw [bne_self_eq_false,if_neg (by decide)]
 exact J15 (names tbl) (by decide) (names tbl) 0 rfl
theorem Pv {nm:Str}{i:Nat}{x:K0}(hx:tbl[i]?=some x)(hf:fi nm tbl 0=(i:Int))(a b:Int){l2 h2:Int}(hs:Do x.second a=some (l2,h2))(ho:Hz a b x.low x.high l2 h2=true) :
  Z5 nm a b=some (E1.mk [] [],3):=by
 unfold Z5
 rw [K14 hx hf a b hs,ho]
 rfl
theorem Q19 {nm:Str}(h:fi nm tbl 0 = -1)(a b:Int):Z5 nm a b=some (E1.mk [] [],7):=by
 unfold Z5
 rw [I15 h]
 rfl
theorem U8 {nm:Str}(h0:Rf=some true){p:E1}{c:Int}(hm:Z5 nm 4 0=some (p,c))(h1:decide (fi nm tbl 0≥0)=(c != 7))(hk:∃ n m d,B5 nm 4 0=some (n,m,d)∧decide (fi nm tbl 0≥0)=(d != 7)):L9 nm=some true:=by
 obtain ⟨n,m,d,hk,h2⟩:=hk
 unfold L9
 rw [h0,ob,if_neg (by decide)]
 split
 ·rfl
 ·rw [V14,ob,hm,ob,hk,ob,W14,ob]
  have he:=W18
  obtain ⟨l,hl⟩:∃ l,Fe=some l:=⟨_,rfl⟩
  rw [hl,ob] at he ⊢
  rw [he,ob,h1,← h2,h1]
  simp
theorem V17 {nm:Str}{i:Nat}(h:fi nm tbl 0=(i:Int)):decide (fi nm tbl 0≥0)=true:=decide_eq_true (by omega)
theorem Yh {nm:Str}{i:Nat}{x:K0}(hx:tbl[i]?=some x)(hf:fi nm tbl 0=(i:Int))(a b:Int){l2 h2 n m:Int}(hs:Do x.second a=some (l2,h2))(hk:Gv x.known a b=some (n,m)) :
  ∃ n m d,B5 nm a b=some (n,m,d)∧decide (fi nm tbl 0≥0)=(d != 7):=by
 have h:=U17 hx hf a b hs (fun _=>hk)
 rw [V17 hf]
 cases ho:Hz a b x.low x.high l2 h2 with
 | true=>rw [ho] at h; exact ⟨_,_,_,h,rfl⟩
 | false=>rw [ho] at h; exact ⟨_,_,_,h,rfl⟩
theorem Qv (nm:Str):L9 nm=some true:=by
 have h0:=Iz
 rcases fam nm with ⟨i,x,hi,hx,hn,hf⟩ | ⟨h,hf⟩
 ·have hp:=V17 hf
  match i,hi with
  | 0,_=>
   cases hx; subst hn
   obtain ⟨p,hm⟩:=Xu (nm:=[112,97,115,115,119,111,114,100]) (a:=4) (b:=0) (by kernel_rfl)
   exact U8 h0 hm hp (Yh rfl hf 4 0 rfl rfl)
  | 1,_=>cases hx; subst hn; exact U8 h0 (Pv rfl hf 4 0 rfl rfl) hp (Yh rfl hf 4 0 rfl rfl)
  | 2,_=>
   cases hx; subst hn
   obtain ⟨p,hm⟩:=Xu (nm:=[98,105,116,115]) (a:=4) (b:=0) (by kernel_rfl)
   exact U8 h0 hm hp (Yh rfl hf 4 0 rfl rfl)
  | 3,_=>
   cases hx; subst hn
   obtain ⟨p,hm⟩:=Xu (nm:=[112,97,114,105,116,121]) (a:=4) (b:=0) (by kernel_rfl)
   exact U8 h0 hm hp (Yh rfl hf 4 0 rfl rfl)
  | 4,_=>cases hx; subst hn; exact U8 h0 (Pv rfl hf 4 0 rfl rfl) hp (Yh rfl hf 4 0 rfl rfl)
  | 5,_=>
   cases hx; subst hn
   obtain ⟨p,hm⟩:=Xu (nm:=[112,111,119,101,114]) (a:=4) (b:=0) (by kernel_rfl)
   exact U8 h0 hm hp (Yh rfl hf 4 0 rfl rfl)
  | 6,_=>cases hx; subst hn; exact U8 h0 (Pv rfl hf 4 0 rfl rfl) hp (Yh rfl hf 4 0 rfl rfl)
  | 7,_=>
   cases hx; subst hn
   obtain ⟨p,hm⟩:=Xu (nm:=[109,97,115,107,101,100]) (a:=4) (b:=0) (by kernel_rfl)
   exact U8 h0 hm hp (Yh rfl hf 4 0 rfl rfl)
  | 8,_=>cases hx; subst hn; exact U8 h0 (Pv rfl hf 4 0 rfl rfl) hp (Yh rfl hf 4 0 rfl rfl)
 ·exact U8 h0 (Q19 hf 4 0) (by rw [hf]; rfl) ⟨_,_,_,V18 hf 4 0,by rw [hf]; rfl⟩
end Go.Proofs.YtbaijagfgceilaaGreatDoor

