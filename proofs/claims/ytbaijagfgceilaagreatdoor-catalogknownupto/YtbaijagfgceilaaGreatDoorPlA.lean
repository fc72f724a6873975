/- A part of the proof of CatalogKnown. -/
import Derived.Test.YtbaijagfgceilaaGreatDoorDgB
import Derived.KernelRfl
namespace Go.Proofs.YtbaijagfgceilaaGreatDoor
open Go.Am
theorem ob {α β:Type}(a:α)(f:α→Option β):(some a>>=f)=f a:=rfl
theorem V19 {α:Type}{l:List α}{k:Nat}{x:α}{r:List α}(h:l.drop k=x::r):decide ((k:Int) < (l.length:Int))=true∧idx l (k:Int)=some x∧l.drop (k+1)=r∧k < l.length∧x∈l:=by
 have hk:k < l.length:=by
  rcases Nat.lt_or_ge k l.length with h1 | h1
  ·exact h1
  ·rw [List.drop_eq_nil_of_le h1] at h; cases h
 have hx:=List.drop_eq_getElem_cons hk
 rw [h] at hx
 obtain ⟨e1,e2⟩:=List.cons.inj hx
 refine ⟨zqj (by omega),?_,e2.symm,hk,?_⟩
 ·unfold idx
  rw [zp (by omega),e1]
  simp [hk]
 ·rw [e1]; exact List.getElem_mem hk
theorem Q19 {α:Type}{l:List α}{k:Nat}(h:l.drop k=[]):decide ((k:Int) < (l.length:Int))=false∧l.length≤k:=by
 have:=List.drop_eq_nil_iff.1 h
 exact ⟨zqs (by omega),this⟩
def BB:Nat:=68719476736
theorem wr {n:Int}(h : -4611686018427387904≤n)(h':n≤4611686018427387904):IntKind.i64.wrap n=n:=K17 (by omega) (by omega)
theorem w1 {k:Nat}(h:k≤BB):IntKind.i64.wrap ((k:Int)+1)=((k+1:Nat):Int):=by
 unfold BB at h
 rw [wr (by omega) (by omega)]; rfl
set_option linter.unusedSimpArgs false
set_option linter.unusedVariables false
set_option maxRecDepth 100000
set_option maxHeartbeats 1000000
def tbl:List K0:=V8.getD []
theorem F17:V8=some tbl:=rfl
theorem B19:tbl.length=9:=rfl
def fi (nm:Str):List K0→Nat→Int
 | [],_=>-1
 | x::r,k=>if (x.name == nm)=true then (k:Int) else fi nm r (k+1)
theorem ixf (s:List K0)(hs:s.length≤BB)(nm:Str):∀ (r:List K0) (k:Nat),s.drop k=r→J1 s nm k=some (fi nm r k)
 | [],k,h=>by
  rw [J1,(Q19 h).1]
  rfl
 | x::r,k,h=>by
  obtain ⟨h1,h2,h3,h4,_⟩:=V19 h
  rw [J1,h1,if_pos rfl,h2,ob,Zd,ob,w1 (by omega),ixf s hs nm r (k+1) h3,fi]
  split <;> rfl
theorem V13 (nm:Str):S2 tbl nm=some (fi nm tbl 0):=
 ixf tbl (by rw [B19]; decide) nm tbl 0 rfl
theorem T14 (nm:Str):∀ (r:List K0) (k:Nat),(∃ (i:Nat) (x:K0),r[i]?=some x∧x.name=nm∧fi nm r k=((k+i:Nat):Int))∨((∀ x∈r,x.name≠nm)∧fi nm r k = -1)
 | [],_=>.inr ⟨fun x hx=>absurd hx List.not_mem_nil,rfl⟩
 | x::r,k=>by
  rw [fi]
  by_cases h:x.name=nm
  ·exact .inl ⟨0,x,rfl,h,if_pos (by rw [h]; exact beq_self_eq_true nm)⟩
  ·rw [if_neg (by simpa using h)]
   rcases T14 nm r (k+1) with ⟨i,y,h1,h2,h3⟩ | ⟨h1,h2⟩
   ·exact .inl ⟨i+1,y,h1,h2,by rw [h3]; congr 1; omega⟩
   ·exact .inr ⟨fun y hy=>by rcases List.mem_cons.1 hy with rfl | hy; exact h; exact h1 y hy,h2⟩
def W13:K0×Int:=(K0.mk [] 0 0 none [] none,3)
theorem C19 {nm:Str}{i:Nat}{x:K0}(hx:tbl[i]?=some x)(hf:fi nm tbl 0=(i:Int))(a b:Int):B7 nm a b =
  if (bif (decide (a < x.low)) then true else (decide (a > x.high)))=true then some W13
  else Aq x.second a>>=fun x4=>if (bif (decide (b < x4.1)) then true else (decide (b > x4.2)))=true then some W13 else some (x,0):=by
 unfold B7
 rw [F17,ob,V13,ob,hf,if_neg (by simp)]
 have:idx tbl (i:Int)=some x:=by
  unfold idx
  rw [if_pos (by omega)]
  simpa using hx
 rw [this]
 rfl
theorem D19 {nm:Str}(h:fi nm tbl 0 = -1)(a b:Int):B7 nm a b=some (K0.mk [] 0 0 none [] none,7):=by
 unfold B7
 rw [F17,ob,V13,ob,h]
 rfl
theorem fam (nm:Str):(∃ (i:Nat) (x:K0),i < 9∧tbl[i]?=some x∧x.name=nm∧fi nm tbl 0=(i:Int))∨((∀ x∈tbl,x.name≠nm)∧fi nm tbl 0 = -1):=by
 rcases T14 nm tbl 0 with ⟨i,x,h1,h2,h3⟩ | h
 ·exact .inl ⟨i,x,(List.getElem?_eq_some_iff.1 h1).1,h1,h2,by rw [h3,Nat.zero_add]⟩
 ·exact .inr h
theorem H18 {nm:Str}(h:fi nm tbl 0 = -1)(a b:Int):V5 nm a b=some (0,0,7):=by
 unfold V5
 rw [D19 h]
 rfl
theorem R19 {nm x:Str}(h:x≠nm):(nm == x)=false:=by simpa using fun e=>h e.symm
theorem G17 {nm:Str}(h:∀ x∈tbl,x.name≠nm)(a b:Int):Gg nm a b=some 7:=by
 have e:=fun (i:Nat) x (hx:tbl[i]?=some x)=>R19 (h x (List.mem_of_getElem? hx))
 unfold Gg Ff
 rw [e 0 _ rfl,e 1 _ rfl,e 2 _ rfl,e 3 _ rfl,e 4 _ rfl,e 5 _ rfl,e 6 _ rfl,e 7 _ rfl,e 8 _ rfl]
 rfl
def Vs (a b lo hi l2 h2:Int):Bool:=bif (bif (bif (decide (a < lo)) then true else (decide (a > hi))) then true else (decide (b < l2))) then true else (decide (b > h2))
theorem W19 (a b lo hi l2 h2:Int):V4 a b lo hi l2 h2=if Vs a b lo hi l2 h2=true then some 3 else some 0:=rfl
theorem I18 {nm:Str}{i:Nat}{x:K0}(hx:tbl[i]?=some x)(hf:fi nm tbl 0=(i:Int))(a b:Int){l2 h2:Int}(hs:Aq x.second a=some (l2,h2)) :
  B7 nm a b=if Vs a b x.low x.high l2 h2=true then some W13 else some (x,0):=by
 rw [C19 hx hf,hs,ob]
 unfold Vs
 cases decide (a < x.low) <;> cases decide (a > x.high) <;> cases decide (b < l2) <;> cases decide (b > h2) <;> rfl
theorem H17 {nm:Str}{i:Nat}{x:K0}(hx:tbl[i]?=some x)(hf:fi nm tbl 0=(i:Int))(a b:Int){l2 h2 n m:Int}(hs:Aq x.second a=some (l2,h2))
  (hk:Vs a b x.low x.high l2 h2=false→Wu x.known a b=some (n,m)) :
  V5 nm a b=if Vs a b x.low x.high l2 h2=true then some (0,0,3) else some (n,m,0):=by
 unfold V5
 rw [I18 hx hf a b hs]
 cases ho:Vs a b x.low x.high l2 h2 with
 | true=>rfl
 | false=>
  rw [if_neg (by decide),if_neg (by decide),ob,if_neg (show ¬((0:Int) != 0)=true by decide),hk ho]
  rfl
theorem Kf {nm:Str}{i:Nat}{x:K0}(hx:tbl[i]?=some x)(hf:fi nm tbl 0=(i:Int))(a b:Int){l2 h2 n m:Int}(hs:Aq x.second a=some (l2,h2))
  (hk:Vs a b x.low x.high l2 h2=false→Wu x.known a b=some (n,m)∧Ak nm a b=some (n,m)) (hw:Gg nm a b=V4 a b x.low x.high l2 h2)
  (h0:Rb=some true):J7 nm a b=some true:=by
 unfold J7
 rw [h0,ob,if_neg (by decide)]
 split
 ·rfl
 ·rw [H17 hx hf a b hs (fun h=>(hk h).1),hw,W19]
  cases ho:Vs a b x.low x.high l2 h2 with
  | true=>rfl
  | false=>
   rw [if_neg (by decide),if_neg (by decide),ob,ob,if_neg (by decide),(hk ho).2,ob]
   simp
theorem X13 {nm:Str}(h:∀ x∈tbl,x.name≠nm)(hf:fi nm tbl 0 = -1)(a b:Int)(h0:Rb=some true):J7 nm a b=some true:=by
 unfold J7
 rw [h0,ob,if_neg (by decide)]
 split
 ·rfl
 ·rw [H18 hf,G17 h]
  rfl
theorem V15 {a b lo hi l2 h2:Int}(hl:0≤lo)(h:Vs a b lo hi l2 h2=false):decide (0≤a)=true:=by
 unfold Vs at h
 cases h1:decide (a < lo) with
 | true=>rw [h1] at h; simp at h
 | false=>
  simp at h1 ⊢
  omega
theorem Vx (nm:Str)(a b:Int)(h0:Rb=some true):J7 nm a b=some true:=by
 rcases fam nm with ⟨i,x,hi,hx,hn,hf⟩ | ⟨h,hf⟩
 ·match i,hi with
  | 0,_=>cases hx; subst hn; exact Kf rfl hf a b rfl (fun h=>⟨rfl,rfl⟩) rfl h0
  | 1,_=>cases hx; subst hn; exact Kf rfl hf a b rfl (fun h=>⟨rfl,rfl⟩) rfl h0
  | 2,_=>
   cases hx; subst hn
   refine Kf (n:=IntKind.i64.wrap (1 * 2 ^ (min a.toNat 64))) (m:=IntKind.i64.wrap (1 * 2 ^ (min a.toNat 64))) rfl hf a b rfl (fun h=>?_) rfl h0
   have hp:=V15 (by decide) h
   constructor
   ·show (if decide (0≤a)=true then if decide (0≤a)=true then some (_,_) else none else none)>>=_=_
    rw [if_pos hp,if_pos hp]
    rfl
   ·show (if decide (0≤a)=true then if decide (0≤a)=true then some (_,_) else none else none)=_
    rw [if_pos hp,if_pos hp]
  | 3,_=>cases hx; subst hn; exact Kf rfl hf a b rfl (fun h=>⟨rfl,rfl⟩) rfl h0
  | 4,_=>cases hx; subst hn; exact Kf rfl hf a b rfl (fun h=>⟨rfl,rfl⟩) rfl h0
  | 5,_=>cases hx; subst hn; exact Kf rfl hf a b rfl (fun h=>⟨rfl,rfl⟩) rfl h0
  | 6,_=>cases hx; subst hn; exact Kf rfl hf a b rfl (fun h=>⟨rfl,rfl⟩) rfl h0
  | 7,_=>cases hx; subst hn; exact Kf rfl hf a b rfl (fun h=>⟨rfl,rfl⟩) rfl h0
  | 8,_=>cases hx; subst hn; exact Kf rfl hf a b rfl (fun h=>⟨rfl,rfl⟩) rfl h0
 ·exact X13 h hf a b h0
theorem Xy:Rb=some true:=G11 300 _ (show Kp 300=some true by kernel_rfl)
end Go.Proofs.YtbaijagfgceilaaGreatDoor

