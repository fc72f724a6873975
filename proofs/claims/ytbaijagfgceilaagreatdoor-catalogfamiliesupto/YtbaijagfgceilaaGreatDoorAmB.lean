/- A part of the proof of CatalogFamilies. -/
import Derived.Test.YtbaijagfgceilaaGreatDoorAmA
import GoSem.Instr.Lookup
import GoSem.Instr.MapUpdate
import GoSem.Instr.MakeMap
import Derived.Below
import Derived.Laws.StructEq
import Derived.Laws.MakeOwn
import Derived.ChangeSame
import Derived.OpenShut
import Derived.ProofKit
import Derived.Laws.BytesArg
import Derived.Lib.LaidTab
namespace Go.Am
theorem J19 {M:Mem}{w:World}(hG:Good M w)(cs:Array Value)(e:TypeId) :
  ∃ M':Mem,Good M' (w.alloc (.cells cs e))∧Ext Y6 M w M' (w.alloc (.cells cs e))∧∀ (j:Nat) v,cs[j]?=some v→M' ⟨w.heap.size,j,none⟩=some v:=by
 refine ⟨fun ad=>if ad.block=w.heap.size∧ad.spot=none then cs[ad.off]? else M ad,fun ad v hv=>?_,⟨fun ad v hv=>?_,by simp,rfl,rfl,rfl,fun b hb _=>heap_alloc_old w _ b hb,fun ad v hv=>?_⟩,fun j v hv=>?_⟩
 ·simp only at hv
  split at hv
  ·rename_i hc
   obtain ⟨b,o,s⟩:=ad
   simp only at hc hv
   obtain ⟨rfl,rfl⟩:=hc
   exact .inl ⟨rfl,by rw [Vm (w:=w.alloc (.cells cs e)) (heap_alloc_new w _)]; exact hv⟩
  ·exact B11 (heap_alloc_old w _ _ (hG.lt hv)) (hG ad v hv)
 ·have:=hG.lt hv
  show (if ad.block=w.heap.size∧ad.spot=none then cs[ad.off]? else M ad)=some v
  rw [zn (by omega)]
  exact hv
 ·have hv:(if ad.block=w.heap.size∧ad.spot=none then cs[ad.off]? else M ad)=some v:=hv
  split at hv
  ·rename_i hc; exact .inr (.inr (by omega))
  ·exact .inl hv
 ·show (if w.heap.size=w.heap.size∧(none:Option Nat)=none then cs[j]? else M _)=some v
  rw [zp ⟨rfl,rfl⟩]
  exact hv
def toD:A→Option D
 | .d x=>some x
 | .full r=>some (.sl r)
 | .osl _ r=>some (.sl r)
 | .clo f []=>some (.fn (some f))
 | _=>none
theorem K19 {M:Mem}{G:Nat→Value}{x:A}{y:D}{v:Value}(h:toD x=some y)(hx:O1 M G x v):O4 M y v:=by
 unfold toD at h
 split at h
 ·simp only [zqb] at h; subst h; cases hx; assumption
 ·simp only [zqb] at h; subst h; cases hx; assumption
 ·simp only [zqb] at h; subst h; cases hx; assumption
 ·simp only [zqb] at h
  subst h
  cases hx with
  | clo hl _=>
   rename_i vs _
   have e:vs = #[]:=Array.eq_empty_of_size_eq_zero (by simpa using hl.symm)
   subst e
   exact .fns
 ·cases h
def D11:List A→Option (List D)
 | []=>some []
 | x::r=>match toD x,D11 r with | some y,some r'=>some (y::r') | _,_=>none
theorem F13:∀ {l:List A} {l':List D},D11 l=some l'→l'.length=l.length∧∀ (i:Nat) y,l'[i]?=some y→∃ x,l[i]?=some x∧toD x=some y
 | [],l',h=>by simp [D11] at h; subst h; exact ⟨rfl,fun i y h=>by simp at h⟩
 | x::r,l',h=>by
  simp only [D11] at h
  split at h
  ·rename_i y r' hy hr
   simp only [zqb] at h
   subst h
   obtain ⟨h1,h2⟩:=F13 hr
   refine ⟨by simp [h1],fun i z hz=>?_⟩
   cases i with
   | zero=>simp at hz; subst hz; exact ⟨x,rfl,hy⟩
   | succ i=>simpa using h2 i z (by simpa using hz)
  ·cases h
def Mt (sz:Nat):Nat→List A→Option (List Row)
 | 0,_=>some []
 | n+1,l=>match D11 (l.take sz),Mt sz n (l.drop sz) with | some r,some rs=>bif Nat.beq r.length sz then some (r::rs) else none | _,_=>none
theorem Xz {sz:Nat}:∀ {n:Nat} {l:List A} {rs:List Row},Mt sz n l=some rs→rs.length=n∧(∀ (i:Nat) r,rs[i]?=some r→r.length=sz)∧∀ (i j:Nat) r y,rs[i]?=some r→r[j]?=some y→∃ x,l[i * sz+j]?=some x∧toD x=some y
 | 0,l,rs,h=>by simp [Mt] at h; subst h; exact ⟨rfl,fun i r h=>by simp at h,fun i j r y h=>by simp at h⟩
 | n+1,l,rs,h=>by
  simp only [Mt] at h
  split at h
  ·rename_i r rs' hr hrs
   cases hb:Nat.beq r.length sz with
   | false=>rw [hb] at h; cases h
   | true=>
    rw [hb] at h
    simp only [zqk,zqb] at h
    subst h
    have e:=zqo hb
    obtain ⟨h1,h2,h3⟩:=Xz hrs
    obtain ⟨g1,g2⟩:=F13 hr
    refine ⟨by simp [h1],fun i r' hi=>?_,fun i j r' y hi hj=>?_⟩
    ·cases i with
     | zero=>simp at hi; subst hi; exact e
     | succ i=>exact h2 i r' (by simpa using hi)
    ·cases i with
     | zero=>
      simp at hi
      subst hi
      obtain ⟨x,hx,hy⟩:=g2 j y hj
      rw [List.getElem?_take] at hx
      split at hx
      ·exact ⟨x,by simpa using hx,hy⟩
      ·cases hx
     | succ i=>
      obtain ⟨x,hx,hy⟩:=h3 i j r' y (by simpa using hi) hj
      rw [List.getElem?_drop] at hx
      exact ⟨x,by rw [← hx]; congr 1; rw [Nat.add_mul]; omega,hy⟩
  ·cases h
theorem G18 {M:Mem}{G:Nat→Value}{w:World}(hG:Good M w){e sz n:Nat}{l:List A}{cs:Array Value}{rs:List Row}(hc:Qf M G l cs)(h:Mt sz n l=some rs)(hn:n≤maxLen) :
  ∃ M',O4 M' (.sl rs) (.slice (some ⟨w.heap.size,0,none⟩) n n)∧Good M' (w.alloc (.cells cs e))∧Ext Y6 M w M' (w.alloc (.cells cs e)):=by
 obtain ⟨M',h1,h2,h3⟩:=J19 hG cs e
 obtain ⟨g1,g2,g3⟩:=Xz h
 have hget:∀ (i j:Nat) r y,rs[i]?=some r→r[j]?=some y→∃ v,cs[i * sz+j]?=some v∧O4 M y v:=fun i j r y hi hj=>by
  obtain ⟨x,hx,hy⟩:=g3 i j r y hi hj
  have hlt:i * sz+j < cs.size:=by rw [← hc.1]; exact (zqu.1 hx).1
  exact ⟨cs[i * sz+j],Array.getElem?_eq_getElem hlt,K19 hy (hc.2.2 _ x _ hx (Array.getElem?_eq_getElem hlt))⟩
 refine ⟨M',.sl sz (fun i j=>(cs[i * sz+j]?).getD undef) g1 (zqr _) hn (.inr rfl) g2 (fun i j r y hi hj=>?_) fun i j r y hi hj=>?_,h1,h2⟩
 ·obtain ⟨v,hv,_⟩:=hget i j r y hi hj
  rw [Bc,hv,Nat.zero_add]
  exact h3 _ v hv
 ·obtain ⟨v,hv,hr⟩:=hget i j r y hi hj
  rw [hv]
  exact hr.mono h2.mono
def Es (C:Cx)(L:List Oper)(o:Oper)(env:Env):Option (Option Nat×List Row):=
 match F2 L env o,o.op,Fb o with
 | some true,.buildSlice t len parts,some d=>match G4 C.T t with
  | some i=>match i.u with
   | .sl e=>match G4 C.T e with
    | some j=>bif Nat.ble len 65536&&Nat.ble j.size 64 then (match Hj (fun i=>some (i * j.size,j.size)) (List.replicate (len * j.size) .junk) (parts.toList.map fun p=>(p.1,ev C.GL env p.2)) with
     | some out=>match Mt j.size len out with | some rs=>some (d,rs) | none=>none
     | none=>none) else none
    | none=>none
   | _=>none
  | none=>none
 | _,_,_=>none
theorem A17 {P:Program}{T:TT}(hT:TOk P T){e:Nat}{j:TI}(he:G4 T e=some j)(len:Nat)(w:World) :
  ∃ z:Array Value,((len * j.size=0∧z = #[])∨(¬ len * j.size=0∧∃ v,(zeroValue e).run P w = .ok v w∧z=v.cells))∧((Array.range (len * j.size)).map (z[· % z.size]!)).size=len * j.size∧∀ (i:Nat) v,((Array.range (len * j.size)).map (z[· % z.size]!))[i]?=some v→v.oneCell'=true:=by
 by_cases h0:len * j.size=0
 ·refine ⟨#[],.inl ⟨h0,rfl⟩,by simp,fun i v hv=>?_⟩
  rw [h0] at hv
  simp at hv
 ·obtain ⟨z,h1,h2,_⟩:=Bv (M:=fun _=>none) (G:=fun _=>undef) hT he
  refine ⟨z.cells,.inr ⟨h0,z,h1 w,rfl⟩,by simp,fun i v hv=>?_⟩
  have hpos:=(hT.facts he).pos
  have hlen:=(hT.facts he).len
  have hzs:z.cells.size=j.size:=by have:=h2.1; simp at this; omega
  rw [Array.getElem?_map] at hv
  cases hr:(Array.range (len * j.size))[i]? with
  | none=>rw [hr] at hv; cases hv
  | some k=>
   rw [hr] at hv
   simp only [zqt,zqb] at hv
   subst hv
   have hlt:k % z.cells.size < z.cells.size:=Nat.mod_lt _ (by omega)
   rw [getElem!_pos z.cells (k % z.cells.size) hlt]
   exact h2.2.1 _ _ (Array.getElem?_eq_getElem hlt)
theorem Ev {C:Cx}{L:List Oper}{o:Oper}{env:Env}{d:Option Nat}{rs:List Row}(h:Es C L o env=some (d,rs)):F2 L env o=some true∧Fb o=some d:=by
 unfold Es at h
 split at h
 ·rename_i t len parts dd hw ho hd
  split at h
  ·split at h
   ·split at h
    ·rename_i j hj
     cases hb:Nat.ble len 65536&&Nat.ble j.size 64 with
     | false=>rw [hb] at h; cases h
     | true=>
      rw [hb] at h
      simp only [zqk] at h
      split at h
      ·split at h
       ·simp only [zqb,zqh] at h
        exact ⟨hw,by rw [hd,h.1]⟩
       ·cases h
      ·cases h
    ·cases h
   ·cases h
  ·cases h
 ·cases h
theorem Sw {C:Cx}(hC:T3 C){L:List Oper}{o:Oper}{env:Env}{H:I0}{d:Option Nat}{rs:List Row}(h:Es C L o env=some (d,rs)):P9 C o env H (.full rs):=by
 intro M G w a next Qw hρ hG hgl hH hk
 unfold Es at h
 split at h
 ·rename_i t len parts dd hw ho hd
  rw [ho] at hρ
  split at h
  ·rename_i i ht
   split at h
   ·rename_i e hu
    split at h
    ·rename_i j hj
     cases hb:Nat.ble len 65536&&Nat.ble j.size 64 with
     | false=>rw [hb] at h; cases h
     | true=>
      rw [hb] at h
      simp only [zqi] at hb
      have b1:=Nat.le_of_ble_eq_true hb.1
      have b2:=Nat.le_of_ble_eq_true hb.2
      simp only [zqk] at h
      split at h
      ·rename_i out hout
       split at h
       ·rename_i rs' hrs
        simp only [zqb,zqh] at h
        obtain ⟨rfl,rfl⟩:=h
        have hd:=Wm (hC.tok.facts ht) hu
        obtain ⟨z,hz,hzs,hz1⟩:=A17 hC.tok hj len w
        obtain ⟨ws,f1,f2⟩:=Mq (M:=M) (G:=G) (vs:=(Array.range (len * j.size)).map (z[· % z.size]!)) (A2:=(parts.map fun (p:Nat×Operand)=>(p.1,a.eval p.2)).toList) ⟨by rw [hzs]; simp,hz1,fun i x v hx hv=>by
          rw [List.getElem?_replicate] at hx
          split at hx
          ·simp only [zqb] at hx; subst hx; exact .junk
          ·cases hx⟩ (by simp) (fun i p q hp hq=>by
          rw [List.getElem?_map] at hp
          rw [Array.getElem?_toList,Array.getElem?_map] at hq
          cases hpi:parts[i]? with
          | none=>rw [hpi] at hq; cases hq
          | some r=>
           rw [Array.getElem?_toList,hpi] at hp
           rw [hpi] at hq
           simp only [zqt,zqb] at hp hq
           subst hp; subst hq
           refine ⟨rfl,hρ _ ?_⟩
           simp only [Op.operands,List.mem_toArray,List.mem_map,Array.mem_toList_iff]
           exact ⟨r,Array.mem_of_getElem? hpi,rfl⟩) hout
        obtain ⟨M',g1,g2,g3⟩:=G18 (e:=e) hG f2 hrs (by unfold maxLen; omega)
        have hnot:¬ len * j.size > 2 ^ 24:=by
         have:len * j.size≤65536 * 64:=Nat.mul_le_mul b1 b2
         have e24:(2:Nat) ^ 24=16777216:=by decide
         omega
        have hrun:(Instr.buildSlice t len (parts.map fun (p:Nat×Operand)=>(p.1,a.eval p.2))).run C.P w = .ok (.slice (some ⟨w.heap.size,0,none⟩) len len) (w.alloc (.cells ws e)):=by
         simp only [Instr.buildSlice,Sem.run_bind,run_underlying hd,Result.andThen_ok,Gf (hC.tok.facts hj) w]
         rw [zn hnot]
         rcases hz with ⟨h0,rfl⟩ | ⟨h0,v,hv,rfl⟩
         ·rw [zp h0]
          simp only [Sem.run_bind,Sem.run_pure,Result.andThen_ok,f1]
          simp [newRow]
         ·rw [zn h0]
          simp only [Sem.run_bind,Sem.run_pure,Result.andThen_ok,hv,f1]
          simp [newRow]
        unfold Oper.wp execOp
        simp only [ho,Sem.run_bind,hrun,Result.andThen_ok,Sem.run_pure,Oper.upon_value]
        exact hk _ M' _ (.full g1 rfl) g2 g3
       ·cases h
      ·cases h
    ·cases h
   ·cases h
  ·cases h
 ·cases h
theorem C0.b {F:Fx}(hC:T3 F.C){L l:List Oper}{o:Oper}{env:Env}{H:I0}{Q:Env→I0→Prop}{d:Option Nat}{rs:List Row}(h:Es F.C L o env=some (d,rs))(k:C0 F L l (put env d (.full rs)) H Q):C0 F L (o::l) env H Q:=by
 obtain ⟨h1,h2⟩:=Ev h
 refine .yields h1 (Sw hC h) ?_
 rw [Q7 h2]
 exact k
theorem AQ.b {C:Cx}(hC:T3 C){L l:List Oper}{o:Oper}{env:Env}{H:I0}{Q:Env→Prop}{d:Option Nat}{rs:List Row}(h:Es C L o env=some (d,rs))(k:AQ C L l (put env d (.full rs)) H Q):AQ C L (o::l) env H Q:=
 .y _ (Ev h).2 (Ev h).1 (Sw hC h) k
def Fv (C:Cx)(L:List Oper)(o:Oper)(env:Env):Option (Option Nat×List UInt8×Int):=
 match F2 L env o,o.op with
 | some true,.index t x y=>match G4 C.T t,ev C.GL env x,ev C.GL env y,Fb o with
  | some i,.d (.str s),.d (.int _ n),some d=>match i.u with
   | .str=>some (d,s,n)
   | _=>none
  | _,_,_,_=>none
 | _,_=>none
theorem Yz {C:Cx}{L:List Oper}{o:Oper}{env:Env}{d:Option Nat}{s:List UInt8}{n:Int}(h:Fv C L o env=some (d,s,n)):F2 L env o=some true∧Fb o=some d:=by
 unfold Fv at h
 split at h
 ·rename_i t x y hw ho
  split at h
  ·rename_i i s' k m d' ht hx hy hd
   split at h
   ·simp only [zqb,zqh] at h
    exact ⟨hw,by rw [hd,h.1]⟩
   ·cases h
  ·cases h
 ·cases h
theorem Ny {C:Cx}(hC:T3 C){L:List Oper}{o:Oper}{env:Env}{H:I0}{d:Option Nat}{s:List UInt8}{n:Int}(h:Fv C L o env=some (d,s,n)){k:Nat}{b:UInt8}(hn:n=k)(hk:s[k]?=some b):P9 C o env H (.d (.int .u8 b.toNat)):=by
 intro M G w a next Qw hρ hG hgl hH hkk
 unfold Fv at h
 split at h
 ·rename_i t x y hw ho
  rw [ho] at hρ
  split at h
  ·rename_i i s' kd m d' ht hx hy hd
   split at h
   ·rename_i hu
    simp only [zqb,zqh] at h
    obtain ⟨rfl,rfl,rfl⟩:=h
    have hxr:=hρ x (by simp [Op.operands])
    have hyr:=hρ y (by simp [Op.operands])
    rw [hx] at hxr
    rw [hy] at hyr
    generalize hxv:a.eval x=xv at hxr
    generalize hyv:a.eval y=yv at hyr
    cases hxr; rename_i hxr; cases hxr
    cases hyr; rename_i hyr; cases hyr
    have hd:=Fo (hC.tok.facts ht) hu
    have hlt:k < s'.length:=(zqu.1 hk).1
    have hget:(⟨s'.toArray⟩:ByteArray)[m.toNat]?=some b:=by
     have e:m.toNat=k:=by omega
     rw [e,getElem?_pos (⟨s'.toArray⟩:ByteArray) k (by rw [Df]; exact hlt)]
     have:=(zqu.1 hk).2
     simpa [ByteArray.getElem_eq_getElem_data] using this
    unfold Oper.wp execOp
    have:(Instr.index t (.string ⟨s'.toArray⟩) (.int kd m)).run C.P w = .ok (.int .u8 b.toNat) w:=by
     have hm:0≤m:=by omega
     simp [Instr.index,Xm,run_underlying hd,hm,hget]
    simp only [ho,hxv,hyv,Sem.run_bind,this,Result.andThen_ok,Sem.run_pure,Oper.upon_value]
    exact hkk _ M w (.d (.int (by rw [R19]; have:=b.toNat_lt; omega))) hG (Ext.refl _ _ _)
   ·cases h
  ·cases h
 ·cases h
theorem C0.x {F:Fx}(hC:T3 F.C){L l:List Oper}{o:Oper}{env:Env}{H:I0}{Q:Env→I0→Prop}{d:Option Nat}{s:List UInt8}{n:Int}(h:Fv F.C L o env=some (d,s,n)){k:Nat}{b:UInt8}(hn:n=k)(hk:s[k]?=some b)
  (kk:C0 F L l (put env d (.d (.int .u8 b.toNat))) H Q):C0 F L (o::l) env H Q:=by
 obtain ⟨h1,h2⟩:=Yz h
 refine .yields h1 (Ny hC h hn hk) ?_
 rw [Q7 h2]
 exact kk
def bnd (GL:GT)(env:Env)(x:Option Operand)(dflt:Int):Option Int:=
 match x with
 | none=>some dflt
 | some y=>match ev GL env y with | .d (.int _ n)=>some n | _=>none
theorem B17 {M:Mem}{G:Nat→Value}{GL:GT}{env:Env}{a:Act}{x:Option Operand}{dflt n:Int}(h:bnd GL env x dflt=some n)(hρ:∀ y,x=some y→O1 M G (ev GL env y) (a.eval y)) :
  (x=none∧n=dflt)∨∃ y k,x=some y∧a.eval y = .int k n:=by
 unfold bnd at h
 split at h
 ·simp only [zqb] at h; exact .inl ⟨rfl,h.symm⟩
 ·rename_i y
  split at h
  ·rename_i k m hy
   simp only [zqb] at h
   subst h
   have hr:=hρ y rfl
   rw [hy] at hr
   generalize hv:a.eval y=v at hr
   cases hr; rename_i hr; cases hr
   exact .inr ⟨y,k,rfl,hv⟩
  ·cases h
def Xx (C:Cx)(L:List Oper)(o:Oper)(env:Env):Option (Option Nat×List UInt8×Int×Int):=
 match F2 L env o,o.op with
 | some true,.slice t x lo hi none=>match G4 C.T t,ev C.GL env x,Fb o with
  | some i,.d (.str s),some d=>match i.u,bnd C.GL env lo 0,bnd C.GL env hi (s.length:Nat) with
   | .str,some l,some h=>some (d,s,l,h)
   | _,_,_=>none
  | _,_,_=>none
 | _,_=>none
theorem X15 {C:Cx}{L:List Oper}{o:Oper}{env:Env}{r:Option Nat×List UInt8×Int×Int}(h:Xx C L o env=some r):F2 L env o=some true∧Fb o=some r.1:=by
 unfold Xx at h
 split at h
 ·rename_i t x lo hi hw ho
  split at h
  ·rename_i i s' d' ht hx hd
   split at h
   ·simp only [zqb] at h
    subst h
    exact ⟨hw,hd⟩
   ·cases h
  ·cases h
 ·cases h
theorem Y15 {P:Program}{w:World}{isSl:Bool}{len cap l h:Nat}{lo hi:Option Value}(h1:lo=none∧l=0∨∃ k,lo=some (.int k (l:Int)))(h2:hi=none∧h=len∨∃ k,hi=some (.int k (h:Int)))(hle:l≤h)(hc:h≤cap) :
  (Instr.sliceBounds isSl len cap lo hi none).run P w = .ok (l,h,cap) w:=by
 have b:∀ (k:IntKind) (n y:Nat) (c:BoundsCode),n≤y→(Instr.sliceBound (.int k (n:Int)) y c).run P w = .ok n w:=fun k n y c hy=>by
  simp [Instr.sliceBound,Xm,hy]
 rcases h1 with ⟨rfl,rfl⟩ | ⟨k,rfl⟩ <;> rcases h2 with ⟨rfl,rfl⟩ | ⟨k',rfl⟩ <;> simp [Instr.sliceBounds,b _ _ _ _ hle,b _ _ _ _ hc]
theorem D15 {a:Act}{x:Option Operand}{dflt n:Int}{l dl:Nat}(h:(x=none∧n=dflt)∨∃ y k,x=some y∧a.eval y = .int k n)(hl:n=l)(hd:dflt=dl):(x.map a.eval=none∧l=dl)∨∃ k,x.map a.eval=some (.int k (l:Int)):=by
 rcases h with ⟨rfl,rfl⟩ | ⟨y,k,rfl,e⟩
 ·exact .inl ⟨rfl,by omega⟩
 ·exact .inr ⟨k,by simp [e,hl]⟩
theorem Z15 (s:List UInt8)(l h:Nat):(⟨s.toArray⟩:ByteArray).extract l h=⟨((s.take h).drop l).toArray⟩:=by
 apply ByteArray.ext
 rw [ByteArray.data_extract]
 simp [List.extract_toArray,List.drop_take]
theorem M14 {C:Cx}(hC:T3 C){L:List Oper}{o:Oper}{env:Env}{H:I0}{d:Option Nat}{s:List UInt8}{lo hi:Int}(h:Xx C L o env=some (d,s,lo,hi)){l r:Nat}(hl:lo=l)(hr:hi=r)(hlr:l≤r)(hrs:r≤s.length) :
  P9 C o env H (.d (.str ((s.take r).drop l))):=by
 intro M G w a next Qw hρ hG hgl hH hkk
 unfold Xx at h
 split at h
 ·rename_i t x lo' hi' hw ho
  rw [ho] at hρ
  split at h
  ·rename_i i s' d' ht hx hd
   split at h
   ·rename_i l' h' hu hbl hbh
    simp only [zqb,zqh] at h
    obtain ⟨rfl,rfl,rfl,rfl⟩:=h
    have hxr:=hρ x (by simp [Op.operands])
    rw [hx] at hxr
    generalize hxv:a.eval x=xv at hxr
    cases hxr; rename_i hxr; cases hxr
    rename_i hsl
    have hd:=Fo (hC.tok.facts ht) hu
    have e1:=D15 (B17 hbl fun y hy=>hρ y (by subst hy; simp [Op.operands])) hl rfl
    have e2:=D15 (B17 hbh fun y hy=>hρ y (by subst hy; simp [Op.operands])) hr rfl
    have:(Instr.sliceAt t (.string ⟨s'.toArray⟩) (lo'.map a.eval) (hi'.map a.eval) none).run C.P w = .ok (.string ⟨((s'.take r).drop l).toArray⟩) w:=by
     have hb:=Y15 (P:=C.P) (w:=w) (isSl:=false) (cap:=s'.length) e1 e2 hlr hrs
     simp [Instr.sliceAt,Instr.slice,run_underlying hd,Df,hb,Z15 s' l r]
    unfold Oper.wp execOp
    simp only [ho,hxv,Option.map_none,Sem.run_bind,this,Result.andThen_ok,Sem.run_pure,Oper.upon_value]
    exact hkk _ M w (.d (.str (by simp; omega))) hG (Ext.refl _ _ _)
   ·cases h
  ·cases h
 ·cases h
theorem C0.l {F:Fx}(hC:T3 F.C){L l:List Oper}{o:Oper}{env:Env}{H:I0}{Q:Env→I0→Prop}{d:Option Nat}{s:List UInt8}{lo hi:Int}(h:Xx F.C L o env=some (d,s,lo,hi)){p r:Nat}(hl:lo=p)(hr:hi=r)(hlr:p≤r)(hrs:r≤s.length)
  (kk:C0 F L l (put env d (.d (.str ((s.take r).drop p)))) H Q):C0 F L (o::l) env H Q:=by
 obtain ⟨h1,h2⟩:=X15 h
 refine .yields h1 (M14 hC h hl hr hlr hrs) ?_
 rw [Q7 h2]
 exact kk
def V19:A→Option Row
 | .agg cs=>match D11 cs with
  | some [_]=>none
  | some r=>some r
  | none=>none
 | x=>match toD x with | some y=>some [y] | none=>none
theorem C0.ofAQ {F:Fx}{L:List Oper}{l2:List Oper}{H:I0}{Q:Env→I0→Prop}:∀ {l1:List Oper} {env:Env},AQ F.C L l1 env H (fun e=>C0 F L l2 e H Q)→C0 F L (l1++l2) env H Q
 | [],env,h=>h
 | o::r,env,h=>by
  obtain ⟨d,x,rfl,hst,hr⟩:=h
  rcases hst with ⟨hw,hy⟩ | ⟨hw,rfl⟩
  ·exact .yields hw hy (C0.ofAQ hr)
  ·exact .skip hw (C0.ofAQ hr)
theorem AQ.mono {C:Cx}{L:List Oper}{H:I0}{Q Q':Env→Prop}(hq:∀ e,Q e→Q' e):∀ {l:List Oper} {env:Env},AQ C L l env H Q→AQ C L l env H Q'
 | [],_,h=>hq _ h
 | _::_,_,⟨d,x,h1,h2,h3⟩=>⟨d,x,h1,h2,AQ.mono hq h3⟩
theorem C0.leE {F:Fx}{L l:List Oper}{env env':Env}{H:I0}{Q:Env→I0→Prop}(he:∀ t,LeA (env' t) (env t))(k:C0 F L l env' H Q):C0 F L l env H Q:=by
 intro fr M G w a Qw hK hd hs hsi hq
 exact k fr M G w a Qw hK hd ⟨hs.good,hs.gl,hs.hrel,fun t=>(he t).rel (hs.env t),hs.size,hs.defers⟩ hsi hq
theorem AEx.regionQ {F:Fx}{id:Nat}{L:List Oper}{env:Env}{H:I0}{Q:Po}(n:Nat)(hd:L.all (Q9 F.N)=true)(h:AQ F.C L (L.take n) env H (fun e=>C0 F L (L.drop n) e H (Dk Q))):AEx F (.region id L.toArray false) env H Q:=by
 refine .region hd ?_
 have:=C0.ofAQ h
 rwa [List.take_append_drop] at this
abbrev Cnd:=Nat→Option Bool
def A16:Cnd:=fun _=>none
def Qj (env:Env)(cnd:Cnd):Env:=fun t=>match cnd t with | some false=>.tup [] | _=>env t
def G13 (env:Env)(cnd:Cnd):Env:=fun t=>match cnd t with | none=>env t | _=>.junk
def Ch (cnd:Cnd)(d:Option Nat)(W:Option Bool):Cnd:=match d with | some t=>(fun i=>bif Nat.beq i t then W else cnd i) | none=>cnd
def holds:Option Bool→Prop
 | none=>True
 | some w=>w=true
def wb:Bool→Bool→Bool
 | b,true=>b
 | b,false=>!b
def Gq (L:List Oper)(env:Env)(cnd:Cnd)(o:Oper):Option (Option Bool):=
 match o.guard with
 | none=>some none
 | some (j,want)=>
  match nth L j with
  | some p=>match p.dst with
   | some d=>match env d,cnd d with
    | .d (.bool b),none=>some (some (wb b want))
    | .d (.bool b),some c=>some (some (c&&wb b want))
    | _,_=>none
   | none=>none
  | none=>none
def isW:Option Bool→Bool
 | none=>true
 | some w=>w
theorem H18 {L:List Oper}{env:Env}{cnd:Cnd}{o:Oper}{W:Option Bool}(h:Gq L env cnd o=some W):F2 L (Qj env cnd) o=some (isW W):=by
 unfold Gq at h
 unfold F2
 split at h
 ·rename_i hg
  rw [hg]
  simp only [zqb] at h
  subst h
  rfl
 ·rename_i j want hg
  rw [hg]
  simp only
  split at h
  ·rename_i p hp
   rw [hp]
   simp only
   split at h
   ·rename_i d hd
    rw [hd]
    simp only
    split at h
    ·rename_i b he hc
     simp only [zqb] at h
     subst h
     simp only [Qj,hc,he]
     cases b <;> cases want <;> rfl
    ·rename_i b c he hc
     simp only [zqb] at h
     subst h
     cases c with
     | false=>simp only [Qj,hc]; rfl
     | true=>
      simp only [Qj,hc,he]
      cases b <;> cases want <;> rfl
    ·cases h
   ·cases h
  ·cases h
def AG (C:Cx)(L:List Oper):List Oper→Env→Cnd→I0→(Env→Cnd→Prop)→Prop
 | [],env,cnd,_,Q=>Q env cnd
 | o::r,env,cnd,H,Q=>∃ d W x,o.dst=d∧Gq L env cnd o=some W∧(holds W→P9 C o (Qj env cnd) H x)∧AG C L r (put env d x) (Ch cnd d W) H Q
theorem I18 {env:Env}{cnd:Cnd}{d:Option Nat}{W:Option Bool}{x:A}:Qj (put env d x) (Ch cnd d W)=put (Qj env cnd) d (match W with | some false=>.tup [] | _=>x):=by
 cases d with
 | none=>rfl
 | some t=>
  funext i
  simp only [Qj,Ch,put,upd]
  cases hb:Nat.beq i t with
  | true=>rcases W with _ | _ | _ <;> rfl
  | false=>rfl
theorem AG.aq {C:Cx}{L:List Oper}{H:I0}{Q:Env→Cnd→Prop}:∀ {l:List Oper} {env:Env} {cnd:Cnd},AG C L l env cnd H Q→AQ C L l (Qj env cnd) H (fun e=>∃ env' cnd',e=Qj env' cnd'∧Q env' cnd')
 | [],env,cnd,h=>⟨env,cnd,rfl,h⟩
 | o::r,env,cnd,⟨d,W,x,hd,hw,hy,hr⟩=>by
  have:=AG.aq hr
  rw [I18] at this
  have hww:=H18 hw
  refine ⟨d,_,hd,?_,this⟩
  rcases W with _ | _ | _
  ·exact .inl ⟨hww,hy trivial⟩
  ·exact .inr ⟨hww,rfl⟩
  ·exact .inl ⟨hww,hy rfl⟩
theorem Y11 {env:Env}:Qj env A16=env:=rfl
theorem E15 {env:Env}{cnd:Cnd}(t:Nat):LeA (G13 env cnd t) (Qj env cnd t):=by
 unfold G13 Qj
 cases cnd t with
 | none=>exact .rfl
 | some c=>exact .junk
theorem AEx.regionG {F:Fx}{id:Nat}{L:List Oper}{env:Env}{H:I0}{Q:Po}(n:Nat)(hd:L.all (Q9 F.N)=true)(h:AG F.C L (L.take n) env A16 H (fun e c=>C0 F L (L.drop n) (G13 e c) H (Dk Q))):AEx F (.region id L.toArray false) env H Q:=by
 refine .regionQ n hd ?_
 have:=AG.aq h
 rw [Y11] at this
 refine this.mono fun e he=>?_
 obtain ⟨env',cnd',rfl,hq⟩:=he
 exact .leE E15 hq
theorem AEx.drawG {F:Fx}(hC:T3 F.C){id:Nat}{L:List Oper}{env:Env}{H:I0}{Q:Po}(n:Nat)(hd:L.all (Q9 F.N)=true)(hok:Ow L n=true)(hnl:Nat.ble n L.length=true)
  (h:AG F.C L (L.take n) env A16 H (fun e c=>C0 F L (L.drop n) (G13 e c) H (Dk Q))):AEx F (.region id L.toArray true) env H Q:=by
 refine .draw hC n hd hok hnl ?_
 have:=AG.aq h
 rw [Y11] at this
 refine this.mono fun e he=>?_
 obtain ⟨env',cnd',rfl,hq⟩:=he
 exact .leE E15 hq
def Kj (cnd:Cnd):List Operand→Prop
 | []=>True
 | .tmp t::r=>match cnd t with
  | none=>Kj cnd r
  | some c=>c=true∧Kj cnd r
 | _::r=>Kj cnd r
theorem Dh {GL:GT}{env:Env}{cnd:Cnd}:∀ {l:List Operand},Kj cnd l→∀ y∈l,ev GL (Qj env cnd) y=ev GL env y
 | .tmp t::r,h,y,hy=>by
  simp only [Kj] at h
  split at h
  ·rename_i hc
   cases hy with
   | head=>simp only [ev,Qj,hc]
   | tail _ hy=>exact Dh h y hy
  ·rename_i c hc
   cases hy with
   | head=>simp only [ev,Qj,hc,h.1]
   | tail _ hy=>exact Dh h.2 y hy
 | .const v::r,h,y,hy=>by
  cases hy with
  | head=>rfl
  | tail _ hy=>exact Dh (l:=r) h y hy
 | .global g::r,h,y,hy=>by
  cases hy with
  | head=>rfl
  | tail _ hy=>exact Dh (l:=r) h y hy
 | .func f::r,h,y,hy=>by
  cases hy with
  | head=>rfl
  | tail _ hy=>exact Dh (l:=r) h y hy
theorem P9.congr {C:Cx}{o:Oper}{env env':Env}{H:I0}{x:A}(h:P9 C o env H x)(he:∀ y∈o.op.operands,ev C.GL env' y=ev C.GL env y):P9 C o env' H x:=
 fun M G w a next Qw hρ=>h M G w a next Qw fun y hy=>by rw [← he y hy]; exact hρ y hy
def noG (o:Oper):Oper:={ o with guard:=none }
theorem P9.noG {C:Cx}{o:Oper}{env:Env}{H:I0}{x:A}(h:P9 C (noG o) env H x):P9 C o env H x:=h
def E11 (o:Oper):List Operand:=o.op.operands.toList
theorem AG.lift {C:Cx}{L l:List Oper}{o:Oper}{env:Env}{cnd:Cnd}{H:I0}{Q:Env→Cnd→Prop}{d:Option Nat}{W:Option Bool}{x:A}(hd:Fb o=some d)(hw:Gq L env cnd o=some W)(hs:holds W→Kj cnd (E11 o))(hy:holds W→P9 C (noG o) env H x)
  (k:AG C L l (put env d x) (Ch cnd d W) H Q):AG C L (o::l) env cnd H Q:=
 ⟨d,W,x,Q7 hd,hw,fun h=>(hy h).noG.congr fun y hy=>Dh (hs h) y (by simpa [E11] using hy),k⟩
def Ro (C:Cx)(L:List Oper)(o:Oper)(env:Env)(cnd:Cnd)(H:I0):Option (Option Nat×Option Bool×Prop×Prop×A):=
 match Gq L env cnd o,opA C.T C.GL o.op env H with
 | some W,some (c,x)=>match frc x,Fb o with
  | some y,some d=>some (d,W,Kj cnd (E11 o),c,y)
  | _,_=>none
 | _,_=>none
theorem AG.q {C:Cx}(hC:T3 C){L l:List Oper}{o:Oper}{env:Env}{cnd:Cnd}{H:I0}{Q:Env→Cnd→Prop}{d:Option Nat}{W:Option Bool}{S c:Prop}{x:A}(h:Ro C L o env cnd H=some (d,W,S,c,x))(hs:holds W→S∧c)
  (k:AG C L l (put env d x) (Ch cnd d W) H Q):AG C L (o::l) env cnd H Q:=by
 unfold Ro at h
 split at h
 ·rename_i W' c' x' hw ho
  split at h
  ·rename_i y d' hy hd
   simp only [zqb,zqh] at h
   obtain ⟨rfl,rfl,rfl,rfl,rfl⟩:=h
   obtain rfl:=Oo hy
   exact .lift hd hw (fun h=>(hs h).1) (fun h=>Ko hC (o:=noG o) ho (hs h).2) k
  ·cases h
 ·cases h
structure Pk where
 d:Option Nat
 W:Option Bool
 sc:Prop
 t:Bool
 sa:Prop
 sb:Prop
 xa:Bool
 xb:Bool
def Nt (C:Cx)(L:List Oper)(o:Oper)(env:Env)(cnd:Cnd):Option Pk:=
 match Gq L env cnd o,o.op,Fb o with
 | some W,.pick c a b,some d=>match ev C.GL env c,ev C.GL env a,ev C.GL env b with
  | .d (.bool t),.d (.bool xa),.d (.bool xb)=>some ⟨d,W,Kj cnd [c],t,Kj cnd [a],Kj cnd [b],xa,xb⟩
  | _,_,_=>none
 | _,_,_=>none
theorem AG.p {C:Cx}(hC:T3 C){L l:List Oper}{o:Oper}{env:Env}{cnd:Cnd}{H:I0}{Q:Env→Cnd→Prop}{d:Option Nat}{W:Option Bool}{sc sa sb:Prop}{t xa xb:Bool}(h:Nt C L o env cnd=some ⟨d,W,sc,t,sa,sb,xa,xb⟩)
  (hs:holds W→sc∧(t=true→sa)∧(t=false→sb)) (k:AG C L l (put env d (.d (.bool (bif t then xa else xb)))) (Ch cnd d W) H Q):AG C L (o::l) env cnd H Q:=by
 unfold Nt at h
 split at h
 ·rename_i W' c a b d' hw ho hd
  split at h
  ·rename_i t' ya yb hc ha hb
   simp only [zqb,Pk.mk.injEq] at h
   obtain ⟨rfl,rfl,rfl,rfl,rfl,rfl,rfl,rfl⟩:=h
   refine ⟨_,_,_,Q7 hd,hw,fun h=>?_,k⟩
   obtain ⟨h1,h2,h3⟩:=hs h
   have ec:=Dh (GL:=C.GL) (env:=env) h1 c zqp
   refine Ko hC (c:=True) ?_ trivial
   rw [ho]
   simp only [opA,ec,hc,O2]
   cases t' with
   | true=>
    have ea:=Dh (GL:=C.GL) (env:=env) (h2 rfl) a zqp
    simp only [zqk,ea,ha]
   | false=>
    have eb:=Dh (GL:=C.GL) (env:=env) (h3 rfl) b zqp
    simp only [zql,eb,hb]
  ·cases h
 ·cases h
def C17 (C:Cx)(L:List Oper)(o:Oper)(env:Env)(cnd:Cnd):Option (Option Nat×Option Bool×Prop×FuncId×List A):=
 match Gq L env cnd o,Id C.GL env o with
 | some W,some (f,xs)=>match Zf xs,Fb o with
  | some ys,some d=>some (d,W,Kj cnd (E11 o),f,ys)
  | _,_=>none
 | _,_=>none
theorem AG.c {C:Cx}{L l:List Oper}{o:Oper}{env:Env}{cnd:Cnd}{H:I0}{Q:Env→Cnd→Prop}{d:Option Nat}{W:Option Bool}{S:Prop}{f:FuncId}{xs:List A}{x:A}(h:C17 C L o env cnd=some (d,W,S,f,xs))(hn:X2 0 xs=true)
  (hs:holds W→S) (hc:holds W→W0 C f xs [] (fun r H'=>H'=[]∧r=x)) (k:AG C L l (put env d x) (Ch cnd d W) H Q):AG C L (o::l) env cnd H Q:=by
 unfold C17 at h
 split at h
 ·rename_i W' f' xs' hw ho
  split at h
  ·rename_i ys d' hy hd
   simp only [zqb,zqh] at h
   obtain ⟨rfl,rfl,rfl,rfl,rfl⟩:=h
   obtain rfl:=Gi hy
   exact .lift hd hw hs (fun h=>Ns (o:=noG o) ho hn (hc h)) k
  ·cases h
 ·cases h
theorem AG.i {C:Cx}(hC:T3 C){L l:List Oper}{o:Oper}{env:Env}{cnd:Cnd}{H:I0}{Q:Env→Cnd→Prop}{d:Option Nat}{W:Option Bool}{rows:List (List D)}{n:Int}{sz:Nat}(hw:Gq L env cnd o=some W)(h:Dq C [] (noG o) env=some (d,rows,n,sz)){k:Nat}{r:List D}
  (hs:holds W→Kj cnd (E11 o)) (hk:holds W→n=k∧rows[k]?=some r∧Nat.beq r.length sz=true) (kk:AG C L l (put env d (.ptr r)) (Ch cnd d W) H Q):AG C L (o::l) env cnd H Q:=by
 refine .lift (d:=d) (W:=W) ?_ hw hs (fun h'=>Ol hC h (hk h').1 (hk h').2.1 (hk h').2.2) kk
 obtain ⟨_,hd⟩:=Eq h
 unfold Fb
 have:o.dst=d:=hd
 rw [this]
 cases d <;> rfl
theorem AG.x {C:Cx}(hC:T3 C){L l:List Oper}{o:Oper}{env:Env}{cnd:Cnd}{H:I0}{Q:Env→Cnd→Prop}{d:Option Nat}{W:Option Bool}{s:List UInt8}{n:Int}(hw:Gq L env cnd o=some W)(h:Fv C [] (noG o) env=some (d,s,n)){k:Nat}{b:UInt8}
  (hs:holds W→Kj cnd (E11 o)) (hk:holds W→n=k∧s[k]?=some b) (kk:AG C L l (put env d (.d (.int .u8 b.toNat))) (Ch cnd d W) H Q):AG C L (o::l) env cnd H Q:=by
 refine .lift (d:=d) (W:=W) ?_ hw hs (fun h'=>Ny hC h (hk h').1 (hk h').2) kk
 have:=(Yz h).2
 exact this
theorem J1a {t:Bool}(h:t=false):wb t false=true:=by subst h; rfl
theorem K1a {t:Bool}(h:t=true):wb t true=true:=by subst h; rfl
theorem G1a {c t:Bool}(h:c=true)(h':t=false):(c&&wb t false)=true:=by subst h; subst h'; rfl
theorem H1a {c t:Bool}(h:c=true)(h':t=true):(c&&wb t true)=true:=by subst h; subst h'; rfl
def Gk:List Oper→Bool
 | []=>true
 | o::r=>o.guard.isNone&&Gk r
theorem AEx.regionN {F:Fx}{id:Nat}{L:List Oper}{env:Env}{H:I0}{Q:Po}(_hg:Gk L=true)(hd:L.all (Q9 F.N)=true)(h:C0 F L L env H (Dk Q)):AEx F (.region id L.toArray false) env H Q:=.region hd h
theorem D17 {M:Mem}{w w':World}(h:Go.RowKit.Below w.heap.size w w'):Ext Y6 M w M w':=
 ⟨fun _ _ e=>e,h.size,h.os,h.output,h.tape,fun b hb _=>h.block b hb,fun _ _ e=>.inl e⟩
theorem W0.ofBelow {C:Cx}{f:FuncId}{args:List A}{r:A}(hf:Fk C.P f=true)
  (h:∀ M G w (vs:Array Value),Good M w→Ym C M w→args.length=vs.size→(∀ (i:Nat) x v,args[i]?=some x→vs[i]?=some v→O1 M G x v)→
   ∃ v,(∀ M G,O1 M G r v)∧Calls C.P f vs w fun e w'=>e = .returned v∧Go.RowKit.Below w.heap.size w w'):W0 C f args [] (fun x H'=>H'=[]∧x=r):=by
 refine ⟨hf,fun M G w vs hg hgl hh hl hr=>?_⟩
 obtain ⟨v,hv,hc⟩:=h M G w vs hg hgl hl hr
 refine hc.mono fun e w' ⟨he,hb⟩=>?_
 have hext:Ext Y6 M w M w':=D17 hb
 refine ⟨v,r,[],M,G,he,⟨rfl,rfl⟩,hv M G,?_,?_,hext.weaken (fun _ h=>h.elim),fun b hb=>.inl hb,zqr _,fun o x ho=>by simp at ho⟩
 ·exact hg.ext hext fun _ _ _ h=>h.elim
 ·exact hh.ext hext fun _ _ h=>h
theorem Qi {args:List A}{vs:Array Value}{M:Mem}{G:Nat→Value}{s:List UInt8}{i:Nat}(hl:args.length=vs.size)(h:∀ (i:Nat) x v,args[i]?=some x→vs[i]?=some v→O1 M G x v)(hi:args[i]?=some (.d (.str s))) :
  vs[i]?=some (.string ⟨s.toArray⟩)∧s.length≤maxLen:=by
 have hlt:i < vs.size:=by rw [← hl]; exact (zqu.1 hi).1
 have hv:vs[i]?=some vs[i]:=Array.getElem?_eq_getElem hlt
 have hr:=h i _ _ hi hv
 generalize vs[i]=v at hr hv
 cases hr; rename_i hr; cases hr
 exact ⟨hv,by assumption⟩
theorem H13 {args:List A}{vs:Array Value}{M:Mem}{G:Nat→Value}{k:IntKind}{n:Int}{i:Nat}(hl:args.length=vs.size)(h:∀ (i:Nat) x v,args[i]?=some x→vs[i]?=some v→O1 M G x v)(hi:args[i]?=some (.d (.int k n))) :
  vs[i]?=some (.int k n)∧InK k n:=by
 have hlt:i < vs.size:=by rw [← hl]; exact (zqu.1 hi).1
 have hv:vs[i]?=some vs[i]:=Array.getElem?_eq_getElem hlt
 have hr:=h i _ _ hi hv
 generalize vs[i]=v at hr hv
 cases hr; rename_i hr; cases hr
 exact ⟨hv,by assumption⟩
theorem W19 {vs:Array Value}{a:Value}(hl:vs.size=1)(h0:vs[0]?=some a):vs = #[a]:=by
 apply Array.ext_getElem?
 intro i
 match i with
 | 0=>simpa using h0
 | i+1=>rw [Array.getElem?_eq_none (by omega),Array.getElem?_eq_none (by simp)]
theorem J18 {vs:Array Value}{a b:Value}(hl:vs.size=2)(h0:vs[0]?=some a)(h1:vs[1]?=some b):vs = #[a,b]:=by
 apply Array.ext_getElem?
 intro i
 match i with
 | 0=>simpa using h0
 | 1=>simpa using h1
 | i+2=>rw [Array.getElem?_eq_none (by omega),Array.getElem?_eq_none (by simp)]
theorem Dn {P:Program}{f:FuncId}{fn:Func}(hf:P.funcs[f]?=some fn)(hn:(fn.name == "runtime.NumGoroutine")=false)(hb:fn.body.isSome=true):Fk P f=true:=by simp [Fk,hf,hb,hn]
def Vy:List A→Option (List A)
 | []=>some []
 | x::r=>match frc x,Vy r with | some y,some r'=>some (y::r') | _,_=>none
theorem F15:∀ {l l':List A},Vy l=some l'→l'=l
 | [],l',h=>by simp [Vy] at h; exact h
 | x::r,l',h=>by
  simp only [Vy] at h
  split at h
  ·rename_i y r' hy hr
   simp only [zqb] at h
   rw [← h,Oo hy,F15 hr]
  ·cases h
def Je:I0→Option I0
 | []=>some []
 | .row cs e::r=>match Vy cs,Je r with | some cs',some r'=>some (.row cs' e::r') | _,_=>none
 | .dead::r=>match Je r with | some r'=>some (.dead::r') | none=>none
 | .bld o e::r=>match Je r with | some r'=>some (.bld o e::r') | none=>none
 | .buf e sz::r=>match Je r with | some r'=>some (.buf e sz::r') | none=>none
 | .tok e sz::r=>match Je r with | some r'=>some (.tok e sz::r') | none=>none
 | .map es::r=>match Je r with | some r'=>some (.map es::r') | none=>none
theorem Hi:∀ {H H':I0},Je H=some H'→H'=H
 | [],H',h=>by simp [Je] at h; exact h
 | .row cs e::r,H',h=>by
  simp only [Je] at h
  split at h
  ·rename_i cs' r' hc hr
   simp only [zqb] at h
   rw [← h,F15 hc,Hi hr]
  ·cases h
 | .dead::r,H',h=>by
  simp only [Je] at h
  split at h
  ·rename_i r' hr
   simp only [zqb] at h
   rw [← h,Hi hr]
  ·cases h
 | .bld o e::r,H',h=>by
  simp only [Je] at h
  split at h
  ·rename_i r' hr
   simp only [zqb] at h
   rw [← h,Hi hr]
  ·cases h
 | .buf e sz::r,H',h=>by
  simp only [Je] at h
  split at h
  ·rename_i r' hr
   simp only [zqb] at h
   rw [← h,Hi hr]
  ·cases h
 | .tok e sz::r,H',h=>by
  simp only [Je] at h
  split at h
  ·rename_i r' hr
   simp only [zqb] at h
   rw [← h,Hi hr]
  ·cases h
 | .map es::r,H',h=>by
  simp only [Je] at h
  split at h
  ·rename_i r' hr
   simp only [zqb] at h
   rw [← h,Hi hr]
  ·cases h
mutual
theorem E17:∀ x:A,dg [] x=x
 | .osl _ _=>rfl
 | .clo _ cs=>by simp only [dg,Ot cs]
 | .bnd _ cs=>by simp only [dg,Ot cs]
 | .agg cs=>by simp only [dg,Ot cs]
 | .tup cs=>by simp only [dg,Ot cs]
 | .d _=>rfl
 | .junk=>rfl
 | .ref _ _=>rfl
 | .ptr _=>rfl
 | .full _=>rfl
 | .rsl _ _ _ _=>rfl
 | .mp _=>rfl
theorem Ot:∀ l:List A,dgL [] l=l
 | []=>rfl
 | x::r=>by simp only [dgL,E17 x,Ot r]
end
def Oq (P:Program)(c:Code)(Q:Exit→Act→World→Prop)(a:Act)(w:World):Prop:=
 ∀ (b:Frame) (k:List Item) (cs:List Frame),∃ e a' w',Q e a' w'∧Arrives P (lone (b.at a (.code c :: .inLoop c::k)) cs w) b k cs e a' w'
theorem Oq.loop {P:Program}{c:Code}{Q:Exit→Act→World→Prop}{a:Act}{w:World}(h:Oq P c Q a w):(Code.loop c).wp P Q a w:=by
 intro b k cs
 obtain ⟨e,a',w',hq,harr⟩:=h b k cs
 exact ⟨e,a',w',hq,.of_steps (.one step_loop) harr⟩
theorem Oq.unroll {P:Program}{c:Code}{Q:Exit→Act→World→Prop}{a:Act}{w:World}(h:c.wp P (Exit.then (Oq P c Q) Q) a w):Oq P c Q a w:=by
 intro b k cs
 obtain ⟨e,a₁,w₁,hq,harr⟩:=h b (.inLoop c::k) cs
 cases e with
 | normal=>
  obtain ⟨e₂,a₂,w₂,hq₂,harr₂⟩:=hq b k cs
  exact ⟨e₂,a₂,w₂,hq₂,.of_steps (Steps.trans harr (.one step_inLoop)) harr₂⟩
 | exit id=>exact ⟨_,a₁,w₁,hq,.pass (x:=.inLoop c) rfl (fun _ _=>.inl (by simp)) harr⟩
 | goto l=>exact ⟨_,a₁,w₁,hq,.pass (x:=.inLoop c) rfl (fun _ _=>.inl (by simp)) harr⟩
 | ret=>exact ⟨_,a₁,w₁,hq,.pass (x:=.inLoop c) rfl (fun _ _=>.inl (by simp)) harr⟩
 | panic ch=>exact ⟨_,a₁,w₁,hq,.pass (x:=.inLoop c) rfl (fun _ _=>.inl (by simp)) harr⟩
 | outgrown=>exact ⟨_,a₁,w₁,hq,.pass (x:=.inLoop c) rfl (fun _ _=>.inl (by simp)) harr⟩
def F1 (F:Fx)(c:Code)(env:Env)(H:I0)(Q:Po):Prop:=
 ∀ fr M G w a,fr.H0.length=F.K→St F.C F.N M G w env H a→P2 fr M G w H→Oq F.C.P c (Fin F fr Q) a w
def Y18 (F:Fx)(c:Code)(Q:Po):Po
 | .normal,e,h=>F1 F c e h Q
 | x,e,h=>Q x e h
theorem AEx.ofLoop {F:Fx}{c:Code}{env:Env}{H:I0}{Q:Po}(h:F1 F c env H Q):AEx F (.loop c) env H Q:=
 fun fr M G w a hK hs hsi=>(h fr M G w a hK hs hsi).loop
theorem F1.unroll {F:Fx}{c:Code}{env:Env}{H:I0}{Q:Po}(h:AEx F c env H (Y18 F c Q)):F1 F c env H Q:=by
 intro fr M G w act hK hs hsi
 refine Oq.unroll (wp_mono (h fr M G w act hK hs hsi) fun e a' w' he=>?_)
 rcases he with ⟨x,env',H',M',G',rfl,hq,hs',hsi'⟩ | ⟨v,env',H',M',G',rfl,hq⟩ | ⟨rfl | ⟨ch,rfl⟩,hq⟩
 ·cases x with
  | normal=>exact hq fr M' G' w' a' hK hs' hsi'
  | exit id=>exact .inl ⟨.exit id,_,_,_,_,rfl,hq,hs',hsi'⟩
  | ret=>exact .inl ⟨.ret,_,_,_,_,rfl,hq,hs',hsi'⟩
 ·exact .inr (.inl ⟨v,_,_,_,_,rfl,hq⟩)
 ·exact .inr (.inr ⟨.inl rfl,hq⟩)
 ·exact .inr (.inr ⟨.inr ⟨_,rfl⟩,hq⟩)
theorem F1.wk {F:Fx}{c:Code}{env:Env}{H:I0}{Q:Po}{L:List (Nat×A)}{H2:I0}(hw:Wk F.K env H L H2)(h:F1 F c (Nb L) H2 Q):F1 F c env H Q:=by
 intro fr M G w act hK hs hsi
 exact h fr M _ w act hK (hw.st hs) (hw.since hK hsi)
def So (f:Func):Code:=match f.body with | some c=>c | none=>.skip
def sl:Code→Code | .seq a _=>a | c=>c
def sr:Code→Code | .seq _ b=>b | c=>c
def ca:Code→Code | .cond _ a _=>a | c=>c
def cb:Code→Code | .cond _ _ b=>b | c=>c
def bk:Code→Code | .block _ c=>c | c=>c
def lo:Code→Code | .loop c=>c | c=>c
theorem bind_some {α β:Type}{x:Option α}{f:α→Option β}{r:β}(h:(x>>=f)=some r):∃ a,x=some a∧f a=some r:=by
 cases x with
 | none=>cases h
 | some a=>exact ⟨a,rfl,h⟩
theorem V4 {α:Type}{p:Prop}[Decidable p]{x:Option α}{r:α}(h:(if decide p=true then x else none)=some r):p∧x=some r:=by
 by_cases hp:p
 ·rw [zp (zqj hp)] at h; exact ⟨hp,h⟩
 ·rw [zn (by simpa using hp)] at h; cases h
theorem I13 {α:Type}{w:Bool}{p:Prop}[Decidable p]{x:Option α}{r:α}(h:(if (!w||decide p)=true then x else none)=some r):(w=true→p)∧x=some r:=by
 by_cases hp:(!w||decide p)=true
 ·rw [zp hp] at h
  exact ⟨fun hw=>by subst hw; simpa using hp,h⟩
 ·rw [zn hp] at h; cases h
theorem R9 {α:Type}{b:Bool}{x y:Option α}{r:α}(hb:b=true)(h:(if b=true then x else y)=some r):x=some r:=by rw [zp hb] at h; exact h
theorem L1a {α:Type}{b:Bool}{x y:Option α}{r:α}(hb:b=false)(h:(if b=true then x else y)=some r):y=some r:=by rw [zn (by rw [hb]; decide)] at h; exact h
abbrev Str:=List UInt8
def idx {α:Type}(l:List α)(n:Int):Option α:=if 0≤n then l[n.toNat]? else none
theorem K3 {α:Type}{l:List α}{n:Int}{x:α}(h:idx l n=some x):n=(n.toNat:Int):=by
 unfold idx at h
 split at h
 ·omega
 ·cases h
theorem Ef {α:Type}{l:List α}{n:Int}{x:α}(h:idx l n=some x):l[n.toNat]?=some x:=by
 unfold idx at h
 split at h
 ·exact h
 ·cases h
def slc {α:Type}(l:List α)(a b:Int):Option (List α):=if 0≤a∧a≤b∧b≤l.length then some ((l.take b.toNat).drop a.toNat) else none
theorem F17 {α:Type}{l x:List α}{a b:Int}(h:slc l a b=some x):a=(a.toNat:Int)∧b=(b.toNat:Int)∧a.toNat≤b.toNat∧b.toNat≤l.length∧x=(l.take b.toNat).drop a.toNat:=by
 unfold slc at h
 split at h
 ·cases h; exact ⟨by omega,by omega,by omega,by omega,rfl⟩
 ·cases h
theorem V1 {a b a' b' n:Nat}(ha:a'=a)(hb:b'=b)(h:(a+b) * n≤140737488355328):(a'+b') * n≤140737488355328:=by subst ha; subst hb; exact h
section
variable {α:Type}{f:α→Row}{g:List α→List Row}{h:α→A}
theorem Eh (hg:∀ l,g l=l.map f){l:List α}{n:Int}{x:α}(h:idx l n=some x):(g l)[n.toNat]?=some (f x):=by simp [hg,Ef h]
theorem Hk (hg:∀ l,g l=l.map f)(l m:List α):g (l++m)=g l++g m:=by simp [hg]
theorem Ik (hg:∀ l,g l=l.map f)(l:List α):(g l).length=l.length:=by simp [hg]
theorem Jf (hg:∀ l,g l=l.map f)(l:List α):A.d (.int .i64 ((g l).length:Nat))=A.d (.int .i64 (l.length:Nat)):=by simp [hg]
theorem En (hg:∀ l,g l=l.map f){n:Nat}(hn:∀ x,(f x).length=n)(l:List α):∀ r∈g l,r.length=n:=by
 intro r hr
 rw [hg] at hr
 obtain ⟨x,_,rfl⟩:=List.mem_map.1 hr
 exact hn x
end
theorem C0.qe {F:Fx}(hC:T3 F.C){L l:List Oper}{o:Oper}{env:Env}{H:I0}{Q:Env→I0→Prop}{d:Option Nat}{c:Prop}{x y:A}(h:Vd F.C L o env H=some (d,c,x))(hc:c)(e:x=y)
  (k:C0 F L l (put env d y) H Q):C0 F L (o::l) env H Q:=by subst e; exact .q hC h hc k
theorem AQ.qe {C:Cx}(hC:T3 C){L l:List Oper}{o:Oper}{env:Env}{H:I0}{Q:Env→Prop}{d:Option Nat}{c:Prop}{x y:A}(h:Vd C L o env H=some (d,c,x))(hc:c)(e:x=y)(k:AQ C L l (put env d y) H Q):AQ C L (o::l) env H Q:=by
 subst e; exact .q hC h hc k
theorem AG.qe {C:Cx}(hC:T3 C){L l:List Oper}{o:Oper}{env:Env}{cnd:Cnd}{H:I0}{Q:Env→Cnd→Prop}{d:Option Nat}{W:Option Bool}{S c:Prop}{x y:A}(h:Ro C L o env cnd H=some (d,W,S,c,x))(hs:holds W→S∧c)(e:x=y)
  (k:AG C L l (put env d y) (Ch cnd d W) H Q):AG C L (o::l) env cnd H Q:=by subst e; exact .q hC h hs k
theorem C0.lx {F:Fx}(hC:T3 F.C){L l:List Oper}{o:Oper}{env:Env}{H:I0}{Q:Env→I0→Prop}{d:Option Nat}{s x:List UInt8}{lo hi:Int}(h:Xx F.C L o env=some (d,s,lo,hi))(hx:slc s lo hi=some x)
  (kk:C0 F L l (put env d (.d (.str x))) H Q):C0 F L (o::l) env H Q:=by
 obtain ⟨h1,h2,h3,h4,rfl⟩:=F17 hx
 exact .l hC h h1 h2 h3 h4 kk
theorem C0.ap {F:Fx}(hC:T3 F.C){L l:List Oper}{o:Oper}{env:Env}{H:I0}{Q:Env→I0→Prop}{d:Option Nat}{p:Nat}{nw:Bool}{rows news rs:List Row}{sz bytes:Nat}{H':I0}
  (h:W15 F.C L o env H=some ⟨d,p,nw,rows,news,sz,bytes,H'⟩) (e:rs=rows++news) (h1:∀ r∈rows,r.length=sz) (h2:∀ r∈news,r.length=sz) (h3:(rows.length+news.length) * (bytes+1)≤140737488355328)
  (k:C0 F L l (put (bif nw then env else fun t=>dg [p] (env t)) d (.osl p rs)) H' Q):C0 F L (o::l) env H Q:=by subst e; exact .a hC h h1 h2 h3 k
def O1a (C:Cx)(L:List Oper)(o:Oper)(env:Env)(H:I0):Option (Nat×List UInt8×Row×List (List UInt8×Row)):=
 match F2 L env o,o.op,o.dst with
 | some true,.mapUpdate t x y z,none=>match G4 C.T t,ev C.GL env x,ev C.GL env y,V19 (ev C.GL env z) with
  | some i,.mp p,.d (.str k),some cs=>match i.u,nth H p with
   | .map kt _,some (.map (.s es))=>match G4 C.T kt with
    | some ki=>match ki.u with
     | .str=>some (p,k,cs,es)
     | _=>none
    | none=>none
   | _,_=>none
  | _,_,_,_=>none
 | _,_,_=>none
theorem C0.be {F:Fx}(hC:T3 F.C){L l:List Oper}{o:Oper}{env:Env}{H:I0}{Q:Env→I0→Prop}{d:Option Nat}{rs rs':List Row}(h:Es F.C L o env=some (d,rs))(e:rs=rs')(k:C0 F L l (put env d (.full rs')) H Q):C0 F L (o::l) env H Q:=by subst e; exact .b hC h k
theorem AQ.be {C:Cx}(hC:T3 C){L l:List Oper}{o:Oper}{env:Env}{H:I0}{Q:Env→Prop}{d:Option Nat}{rs rs':List Row}(h:Es C L o env=some (d,rs))(e:rs=rs')(k:AQ C L l (put env d (.full rs')) H Q):AQ C L (o::l) env H Q:=by subst e; exact .b hC h k
theorem J13 {C:Cx}{o:Oper}{env:Env}{H:I0}{f:FuncId}{xs ys:List A}{x:A}(ha:Id C.GL env o=some (f,xs))(hle:LeL ys xs)(hn:X2 0 ys=true)(hc:W0 C f ys [] (fun r H'=>H'=[]∧r=x)):P9 C o env H x:=by
 intro M G w a next Qw hρ hG hgl hH hk
 obtain ⟨vs,h1,h2,h3⟩:=Ms ha hρ hc.1
 unfold Oper.wp
 rw [h1 w]
 refine (Sz hn hc hG hgl (hle.spec.1.trans h2) (hle.rels h3)).mono fun e w' he=>?_
 obtain ⟨v,r,M',rfl,rfl,g1,g2,g3⟩:=he
 exact hk v M' w' (g1 G) g2 g3
theorem C0.cl {F:Fx}{L l:List Oper}{o:Oper}{env:Env}{H:I0}{Q:Env→I0→Prop}{d:Option Nat}{f:FuncId}{xs ys:List A}{x:A}(h:Pb F.C L o env=some (d,f,xs))(hc:W0 F.C f ys [] (fun r H'=>H'=[]∧r=x))(hle:LeL ys xs)(hn:X2 0 ys=true)
  (k:C0 F L l (put env d x) H Q):C0 F L (o::l) env H Q:=by
 obtain ⟨h1,h2,rfl⟩:=Nl h
 exact .yields h1 (J13 h2 hle hn hc) k
theorem C0.g {F:Fx}{L l:List Oper}{o:Oper}{env:Env}{H H':I0}{Q:Env→I0→Prop}{d:Option Nat}{g:FuncId}{xs:List A}{x y:A}(idx:List Nat){cargs:List A}{cH cH':I0}
  (h:Pb F.C L o env=some (d,g,xs)) (hc:W0 F.C g cargs cH (fun r h=>h=cH'∧r=x)) (hx:LeL (Dc (N3 idx H.length) cargs) xs) (hi:Uf idx H.length=true) (hm:Rl (N3 idx H.length) H idx cH)
  (hr:frc (ren (N3 idx H.length) x)=some y) (hH:Je (B7 H idx (N3 idx H.length) (T4 idx cH) cH')=some H') (k:C0 F L l (put (fun t=>dg (T4 idx cH) (env t)) d y) H' Q):C0 F L (o::l) env H Q:=by
 refine .callHL idx cargs cH h hx hi hm hc fun r c ⟨e1,e2⟩=>?_
 subst e1; subst e2
 have e3:=Hi hH
 have e4:=Oo hr
 subst e3; subst e4
 exact k
def zf:D→A
 | .sl []=>.full []
 | x=>.d x
theorem X19 {M:Mem}{G:Nat→Value}{x:D}{v:Value}(h:zB v x=true):O1 M G (zf x) v:=by
 have h':=Aq h M
 unfold zf
 split
 ·unfold zB at h
  split at h <;> first | contradiction | skip
  exact .full .slnil trivial
 ·exact .d h'
theorem Ps {P:Program}{M:Mem}{G:Nat→Value}{T:TT}(hT:TOk P T){t:Nat}{i:TI}(ht:G4 T t=some i):∃ z,(∀ w,(zeroValue t).run P w = .ok z w)∧Qf M G (i.zero.map zf) z.cells:=by
 obtain ⟨j,h1,h2,h3,z,h4,h5,h6,h7⟩:=(hT.facts ht).info
 refine ⟨z,fun w=>by simp [zeroValue,typeInfo,h1,h4],by simpa using h5.symm,fun n v hv=>?_,fun n x v hx hv=>?_⟩
 ·have hlt:n < i.zero.length:=by rw [← h5]; simpa using (Array.getElem?_eq_some_iff.1 hv).1
  exact (Aq (h6 n v _ hv (zqv hlt)) M).one
 ·rw [List.getElem?_map] at hx
  cases hz:i.zero[n]? with
  | none=>rw [hz] at hx; cases hx
  | some y=>
   rw [hz] at hx
   simp only [zqt,zqb] at hx
   subst hx
   exact X19 (h6 n v y hv hz)
def G17 (C:Cx)(L:List Oper)(o:Oper)(env:Env)(H:I0):Option (Option Nat×Nat×I0):=
 match F2 L env o,o.op with
 | some true,.alloc t=>match G4 C.T t with
  | some i=>match Zf (i.zero.map zf) with
   | some cs=>match Cq H (.row cs t),Fb o with | some (n,H'),some d=>some (d,n,H') | _,_=>none
   | none=>none
  | none=>none
 | _,_=>none
theorem C0.nf {F:Fx}(hC:T3 F.C){L l:List Oper}{o:Oper}{env:Env}{H H':I0}{Q:Env→I0→Prop}{d:Option Nat}{n:Nat}(h:G17 F.C L o env H=some (d,n,H'))
  (k:C0 F L l (put env d (.ref n 0)) H' Q):C0 F L (o::l) env H Q:=by
 unfold G17 at h
 split at h
 ·rename_i t hw ho
  split at h
  ·rename_i i ht
   split at h
   ·rename_i cs hcs
    split at h
    ·rename_i n' H2 d' hp hd
     simp only [zqb,zqh] at h
     obtain ⟨rfl,rfl,rfl⟩:=h
     obtain ⟨rfl,rfl⟩:=Zm hp
     have:=Gi hcs
     subst this
     refine Ug hw fun fr M G w a K Qw hK hd' hs hsi hk=>?_
     obtain ⟨z,h1,h2⟩:=Ps (M:=M) (G:=G) hC.tok ht
     have hr:(execOp a.eval o).run F.C.P w = .ok (.value (.pointer (some ⟨w.heap.size,0,none⟩))) (w.alloc (.cells z.cells t)):=by
      unfold execOp
      simp [ho,Instr.alloc,h1,newVar,newRow]
     unfold Oper.wp
     rw [hr]
     rw [← Q7 hd] at k
     exact hk _ _ _ _ _ _ _ k (hs.newRow (Y4 hd') h2) (P2.newRow hsi)
    ·cases h
   ·cases h
  ·cases h
 ·cases h
theorem C0.tokE {F:Fx}{L l:List Oper}{env:Env}{H:I0}{Q:Env→I0→Prop}(t e sz:Nat){rows:List Row}(h:env t = .full rows)(k:C0 F L l (upd env t (.osl H.length rows)) (H++[.tok e sz]) Q):C0 F L l env H Q:=by
 intro fr M G w a Qw hK hd hs hsi hq
 have hr:=hs.env t
 rw [h] at hr
 generalize hv:a.tmps.getD t undef=v at hr
 cases hr
 rename_i hf hrd
 obtain ⟨t1,t2⟩:=Co (G:=G) (w:=w) hrd hf e sz
 have hsi':=hsi.newTok (Ext.refl Y6 M w) (e:=e) (sz:=sz) (v':=v) fun b hb=>absurd hb (t2 b)
 have hs':=hs.newTok (dst:=none) (by simp) (Ext.refl Y6 M w) hs.good (e:=e) (sz:=sz) (v':=v) (x:=.osl H.length rows) t1 (fun b hb=>absurd hb (t2 b)) (.osl hrd B4)
 refine k fr M _ w a Qw hK hd ⟨hs'.good,hs'.gl,hs'.hrel,fun s=>?_,hs.size,hs.defers⟩ hsi' hq
 unfold upd
 cases hb:Nat.beq s t with
 | true=>
  obtain rfl:=zqo hb
  rw [hv]
  exact .osl hrd B4
 | false=>exact hs'.env s
theorem C0.tokC {F:Fx}{L l:List Oper}{env:Env}{H:I0}{Q:Env→I0→Prop}(o n e sz:Nat){cs cs':List A}{el m:Nat}{rows:List Row}{H1 H2:I0}(ho:nth H o=some (.row cs el))(h:nth cs n=some (.full rows))(hp:Cq H (.tok e sz)=some (m,H1))(hcs:Lp cs n [.osl m rows]=some cs')(hH:Ll H1 o (.row cs' el)=some H2)
  (k:C0 F L l env H2 Q):C0 F L l env H Q:=by
 intro fr M G w a Qw hK hd hs hsi hq
 obtain ⟨rfl,rfl⟩:=Zm hp
 have e1:=Vx hcs
 have e2:=Cv hH
 subst e1
 subst e2
 rw [S3] at ho h
 have hol:o < H.length:=(zqu.1 ho).1
 have hnl:n < cs.length:=(zqu.1 h).1
 obtain ⟨b,vs,g1,g2,g3,g4,g5,g6⟩:=hs.hrel.obj o _ ho
 have hvn:vs[n]?=some vs[n]:=Array.getElem?_eq_getElem (by omega)
 have hr:=g5 n _ _ h hvn
 generalize hv:vs[n]=v at hr hvn
 cases hr
 rename_i hf hrd
 obtain ⟨t1,t2⟩:=Co (G:=G) (w:=w) hrd hf e sz
 have hsi':=hsi.newTok (Ext.refl Y6 M w) (e:=e) (sz:=sz) (v':=v) fun b hb=>absurd hb (t2 b)
 have hs':=hs.newTok (dst:=none) (by simp) (Ext.refl Y6 M w) hs.good (e:=e) (sz:=sz) (v':=v) (x:=.junk) t1 (fun b hb=>absurd hb (t2 b)) .junk
 have hgo:X5 G H.length v o=G o:=C3 (Nat.ne_of_lt hol)
 have ho':(H++[Ob.tok e sz])[o]?=some (.row cs el):=by rw [zqx hol]; exact ho
 have hol':o < (H++[Ob.tok e sz]).length:=by simp; omega
 obtain ⟨b',vs',q1,q2,q3,q4,q5,q6⟩:=hs'.hrel.obj o _ ho'
 rw [hgo] at q1
 rw [g1] at q1
 simp at q1
 subst q1
 rw [g2] at q2
 simp at q2
 subst q2
 have hget:=fun i=>Jo cs n [.osl H.length rows] i (by simp; omega)
 refine k fr M (X5 G H.length v) w a Qw hK hd ⟨hs'.good,hs'.gl,⟨fun i x hi=>?_,fun i i' x x' c hi hi' hx hx'=>?_,fun i hi=>hs'.hrel.fresh i (by rw [Oi] at hi; exact hi)⟩,hs'.env,hs.size,hs.defers⟩ ?_ hq
 ·rw [Eb _ o _ i hol'] at hi
  split at hi
  ·rename_i e; subst e
   simp only [zqb] at hi
   subst hi
   refine ⟨b,vs,by rw [hgo]; exact g1,g2,by rw [Io]; exact g3,g4,fun j y u hy hu=>?_,g6⟩
   rw [hget j] at hy
   split at hy
   ·rename_i hj
    have:j=n:=by simp at hj; omega
    subst this
    simp at hy
    subst hy
    rw [hvn] at hu
    obtain rfl:=Option.some.inj hu
    exact .osl hrd B4
   ·exact q5 j y u hy hu
  ·exact hs'.hrel.obj i x hi
 ·have key:∀ (n':Nat) z d,(N9 (H++[Ob.tok e sz]) o (Ob.row (Dd cs n [.osl H.length rows]) el))[n']?=some z→blk z (X5 G H.length v n')=some d→∃ y,(H++[Ob.tok e sz])[n']?=some y∧blk y (X5 G H.length v n')=some d:=by
   intro n' z d hn hz
   rw [Eb _ o _ n' hol'] at hn
   by_cases e:n'=o
   ·rw [zp e] at hn
    subst e
    obtain rfl:=Option.some.inj hn
    exact ⟨_,ho',by rw [hgo,g1] at hz ⊢; exact hz⟩
   ·rw [zn e] at hn
    exact ⟨z,hn,hz⟩
  obtain ⟨y,hy,hby⟩:=key i x c hi hx
  obtain ⟨y',hy',hby'⟩:=key i' x' c hi' hx'
  exact hs'.hrel.apart i i' y y' c hy hy' hby hby'
 ·refine ⟨hsi'.ext,fun c ⟨i,x,hi,hx⟩=>?_,by rw [Oi]; exact hsi'.len,hsi'.keep,fun i x y hi ht hy=>?_⟩
  ·rw [Eb _ o _ i hol'] at hi
   by_cases e:i=o
   ·rw [zp e] at hi
    subst e
    obtain rfl:=Option.some.inj hi
    exact hsi'.own c ⟨i,_,ho',by rw [hgo,g1] at hx ⊢; exact hx⟩
   ·rw [zn e] at hi
    exact hsi'.own c ⟨i,x,hi,hx⟩
  ·rw [Eb _ o _ i hol'] at hy
   by_cases e:i=o
   ·rw [zp e] at hy
    obtain rfl:=Option.some.inj hy
    rfl
   ·rw [zn e] at hy
    exact hsi'.kind i x y hi ht hy
theorem Z11 {P:Program}{o:Oper}{a:Act}{w:World}{K:Act→World→Prop}{Q Q':Exit→Act→World→Prop}(h1:∀ c a w,Q (.panic c) a w→Q' (.panic c) a w)(h2:LetsOut Q→LetsOut Q')
  (h:o.wp P a w K Q):o.wp P a w K Q':=by
 unfold Oper.wp at *
 generalize (execOp a.eval o).run P w=r at *
 cases r with
 | ok n w'=>
  cases n <;> simp only [Oper.upon] at h ⊢ <;>
   first
    | exact h
    | exact Calls.mono h (fun e w'' he=>by cases e <;> first | exact he | exact h1 _ _ _ he | exact h2 he)
 | halt x w'=>cases x <;> simp only [Oper.upon] at h ⊢ <;> first | exact h | exact h1 _ _ _ h
def V0 (F:Fx)(L:List Oper)(m:Nat)(listed:Array Bool)(env:Env)(H:I0)(Q:Po):Prop:=
 ∀ fr M G w a,fr.H0.length=F.K→St F.C F.N M G w env H a→P2 fr M G w H→wpAny F.C.P .any L.toArray (Fin F fr Q) m listed a w
theorem V0.nil {F:Fx}{L:List Oper}{m:Nat}{listed:Array Bool}{env:Env}{H:I0}{Q:Po}(hr:Region.ready .any L.toArray listed=[])(h:Q .normal env H):V0 F L m listed env H Q:=by
 intro fr M G w a hK hs hsi
 have hq:Fin F fr Q .normal a w:=.inl ⟨.normal,env,H,M,G,rfl,h,hs,hsi⟩
 cases m with
 | zero=>exact ⟨hr,hq⟩
 | succ m=>exact ⟨fun _=>hq,fun i hi=>by rw [hr] at hi; cases hi⟩
def Pt (F:Fx)(L:List Oper)(m:Nat)(listed:Array Bool)(env:Env)(H:I0)(Q:Po):List Nat→Prop
 | []=>True
 | j::r=>(∃ o,nth L j=some o∧C0 F L [o] env H (fun e h=>V0 F L m (listed.setIfInBounds j true) e h Q))∧Pt F L m listed env H Q r
theorem Pt.get {F:Fx}{L:List Oper}{m:Nat}{listed:Array Bool}{env:Env}{H:I0}{Q:Po}:∀ {js:List Nat},Pt F L m listed env H Q js→∀ j∈js,∃ o,nth L j=some o∧C0 F L [o] env H (fun e h=>V0 F L m (listed.setIfInBounds j true) e h Q)
 | [],_,j,hj=>by cases hj
 | i::r,h,j,hj=>by
  rcases List.mem_cons.1 hj with rfl | hj
  ·exact h.1
  ·exact Pt.get h.2 j hj
theorem V0.step {F:Fx}{L:List Oper}{m:Nat}{listed:Array Bool}{env:Env}{H:I0}{Q:Po}(hd:L.all (Q9 F.N)=true){j0:Nat}{js:List Nat}(hr:Region.ready .any L.toArray listed=j0::js)(h:Pt F L m listed env H Q (j0::js)):V0 F L (m+1) listed env H Q:=by
 intro fr M G w a hK hs hsi
 refine ⟨fun h0=>(by rw [hr] at h0; cases h0),fun i hi=>?_⟩
 rw [hr] at hi
 obtain ⟨o,ho,hop⟩:=h.get i hi
 rw [S3] at ho
 let Qw:Exit→Act→World→Prop:=fun e a w=>match e with
  | .normal=>wpAny F.C.P .any L.toArray (Fin F fr Q) m (listed.setIfInBounds i true) a w
  | e=>Fin F fr Q e a w
 have:=hop fr M G w a Qw hK (fun o' ho'=>by
  rw [List.mem_singleton] at ho'
  subst ho'
  exact List.all_eq_true.1 hd _ (List.mem_of_getElem? ho)) hs hsi ⟨fun env' H' M' G' w' a' hq hs' hsi'=>hq fr M' G' w' a' hK hs' hsi',fun v env' H' M' G' w' a' hq hs' hsi'=>.inr (.inl ⟨v,_,_,_,_,rfl,hq,hs',hsi'⟩)⟩
 simp only [wpList] at this
 unfold wpOp
 simp only [List.getElem?_toArray,ho]
 have hout:LetsOut Qw→LetsOut (Fin F fr Q):=fun ⟨a,w,h⟩=>⟨a,w,h⟩
 split
 ·rename_i hw
  rw [zp hw] at this
  rcases this with h1 | ⟨h1,h2⟩
  ·exact .inl (Z11 (fun c a w h=>h) hout h1)
  ·exact .inr ⟨h1,hout h2⟩
 ·rename_i hw
  rw [zn hw] at this
  exact this
theorem AEx.drawE {F:Fx}(hC:T3 F.C){id:Nat}{L:List Oper}{env:Env}{H:I0}{Q:Po}(h:V0 F L L.length (Array.replicate L.length false) env H Q):AEx F (.region id L.toArray true) env H Q:=by
 intro fr M G w act hK hs hsi
 refine wp_region_any hC.mixed ?_
 have hs':St F.C F.N M G { w with drawn:=w.drawn+1 } env H act:=
  ⟨fun a v e=>hs.good a v e,hs.gl.ext hs.hrel (S:=Y6) ⟨fun _ _ e=>e,zqr _,rfl,rfl,rfl,fun _ _ _=>rfl,fun _ _ e=>.inl e⟩ (fun _ h=>h.elim),hs.hrel.ext (S:=Y6) ⟨fun _ _ e=>e,zqr _,rfl,rfl,rfl,fun _ _ _=>rfl,fun _ _ e=>.inl e⟩ (fun _ _ h=>h),hs.env,hs.size,hs.defers⟩
 have hsi':P2 fr M G { w with drawn:=w.drawn+1 } H:=hsi.quiet ⟨fun _ _ e=>e,zqr _,rfl,rfl,rfl,fun _ _ _=>rfl,fun _ _ e=>.inl e⟩
 have:=h fr M G _ act hK hs' hsi'
 simpa using this
section
variable {P:Program}{M:Mem}{G:Nat→Value}{w:World}
end
open Go.ChangeShapes
def Fh (W:World):Mem:=fun a=>if a.spot=none then W.cell? a else none
theorem B16 (W:World):Good (Fh W) W:=by
 intro a v h
 unfold Fh at h
 split at h
 ·rename_i hs; exact .inl ⟨hs,h⟩
 ·cases h
def K13 (M:Mem)(ds:List D)(cs:List Value):Prop:=ds.length=cs.length∧∀ (i:Nat) x v,ds[i]?=some x→cs[i]?=some v→O4 M x v
structure Y19 {H:Type}(μ:DataW H→Nat):Prop where
 lit:∀ l,1≤μ (.lit l)
 str:∀ s,s.length+1≤μ (.lit (.string s))
 nil:1≤μ .nil
 sl:∀ es sp,(es.map μ).sum+1≤μ (.slice es sp)
 agg:∀ ps,(ps.map μ).sum+1≤μ (.agg ps)
def Rd {H:Type}(enc:TypeId×Value→H)(P:Program)(W:World)(μ:DataW H→Nat)(fuel:Nat)(t:TypeId){α:Type}(f:α→Row)(bk:α→Nat):Prop:=
 ∀ cs d ps,DataW.trod enc P W 0 (fun _=>true) true fuel t cs=some (d,ps)→∃ x:α,K13 (Fh W) (f x) cs∧bk x≤μ d
section
variable {H:Type}{enc:TypeId×Value→H}{P:Program}{W:World}{μ:DataW H→Nat}{fuel:Nat}{t:TypeId}
theorem Rd.zero {α:Type}{f:α→Row}{bk:α→Nat}:Rd enc P W μ 0 t f bk:=fun cs d ps h=>by simp [DataW.trod] at h
theorem L19 {M:Mem}{x:D}{v:Value}(h:O4 M x v):K13 M [x] [v]:=by
 refine ⟨rfl,fun i y u hy hu=>?_⟩
 cases i with
 | zero=>simp at hy hu; subst hy; subst hu; exact h
 | succ i=>simp at hy
theorem Rd.str (hμ:Y19 μ)(ht:P.underlying t=some .string):Rd enc P W μ fuel t (fun s:Str=>[D.str s]) (fun s=>s.length+1):=by
 cases fuel with
 | zero=>exact .zero
 | succ n=>
  intro cs d ps h
  unfold DataW.trod at h
  rw [ht] at h
  split at h <;> first | (rename_i heq; cases heq; done) | skip
  all_goals first | (cases h; done) | skip
  rename_i s heq
  split at h
  ·rename_i hc
   simp only [zqb,zqh] at h
   obtain ⟨rfl,rfl⟩:=h
   refine ⟨s.data.toList,L19 ?_,hμ.str _⟩
   have:s=⟨s.data.toList.toArray⟩:=by simp
   rw [this]
   exact .str (by simpa using hc)
  ·cases h
theorem C16 {W:World}{a:Addr}{v:Value}(h:W.cell? a=some v):Fh W a=some v∧a.spot=none:=by
 have hs:a.spot=none:=by
  unfold World.cell? at h
  split at h
  ·split at h
   ·cases h
   ·rename_i hs; simpa using hs
  ·cases h
 exact ⟨by unfold Fh; rw [zp hs]; exact h,hs⟩
end
open Go.ChangeShapes
theorem Fs {α β:Type}{f g:α→Option β}:∀ {l:List α} {r:List β},l.mapM f=some r→(∀ x∈l,∀ y∈r,f x=some y→g x=some y)→l.mapM g=some r
 | [],r,h,_=>by simpa using h
 | x::l,r,h,hfg=>by
  rw [List.mapM_cons] at h ⊢
  simp only [bind,Option.bind_eq_some_iff,pure,zqb] at h ⊢
  obtain ⟨y,hy,ys,hys,rfl⟩:=h
  exact ⟨y,hfg x (by simp) y (by simp) hy,ys,Fs hys (fun x hx y hy'=>hfg x (by simp [hx]) y (by simp [hy'])),rfl⟩
theorem Qt {α:Type}(l:List α):(List.range l.length).mapM (fun i=>l[i]?)=some l:=by
 have key:∀ (m:List α) (k:Nat),(∀ j,m[j]?=l[k+j]?)→(List.range' k m.length).mapM (fun i=>l[i]?)=some m:=by
  intro m
  induction m with
  | nil=>intro k _; rfl
  | cons x m ih=>
   intro k h
   rw [zqd,List.range'_succ,List.mapM_cons]
   have h0:=h 0
   simp at h0
   have:=ih (k+1) (fun j=>by have:=h (j+1); simp at this; rw [this]; congr 1; omega)
   simp only [bind,Option.bind_eq_some_iff,pure,zqb]
   exact ⟨x,h0.symm,m,this,rfl⟩
 rw [List.range_eq_range']
 exact key l 0 (fun j=>by simp)
def O12 (P:Program)(S:TypeId→Prop):Prop:=
 ∀ t,S t→P.underlying t=some .bool∨(∃ k,P.underlying t=some (.int k))∨P.underlying t=some .string∨(∃ e,P.underlying t=some (.slice e)∧S e∧1≤P.cellsOf e)∨∃ fs,P.underlying t=some (.struct fs)∧∀ f∈fs.toList,S f.type
section
variable {H:Type}{enc:TypeId×Value→H}{P:Program}{W W':World}{S:TypeId→Prop}
theorem N14 (hb:∀ b,b < W.heap.size→W'.heap[b]?=W.heap[b]?){a:Addr}{n:Nat}{cs:List Value}(h:W.cells? 0 a n=some cs):W'.cells? 0 a n=some cs:=by
 unfold World.cells? at *
 rw [zp (Nat.zero_le _)] at *
 refine Fs h fun i _ y _ hy=>?_
 rw [Kp (hb _ (World.block_lt_of_cell? W _ hy))]
 exact hy
theorem H17 (hS:O12 P S)(hb:∀ b,b < W.heap.size→W'.heap[b]?=W.heap[b]?){sp:Nat→Bool}:∀ (fuel:Nat) (t:TypeId) (cs:List Value) (x:DataW H×List MemPlace),S t→DataW.trod enc P W 0 (fun _=>true) true fuel t cs=some x→
  (∀ p∈x.2,sp p.block=true)→DataW.trod enc P W' 0 sp true fuel t cs=some x:=by
 intro fuel
 induction fuel with
 | zero=>intro t cs x _ h; simp [DataW.trod] at h
 | succ n ih=>
  intro t cs x hSt h hx
  rcases hS t hSt with ht | ⟨k,ht⟩ | ht | ⟨e,ht,hSe,hpos⟩ | ⟨fs,ht,hSf⟩
  ·obtain ⟨b,rfl,rfl⟩:=DataW.trod_bool ht h
   unfold DataW.trod
   rw [ht]
  ·have h2:=h
   obtain ⟨m,rfl,rfl,_⟩:=DataW.trod_int ht h
   unfold DataW.trod at h2 ⊢
   rw [ht] at h2 ⊢
   exact h2
  ·have h2:=h
   obtain ⟨s,rfl,rfl,_⟩:=DataW.trod_string ht h
   unfold DataW.trod at h2 ⊢
   rw [ht] at h2 ⊢
   exact h2
  ·have h0:=h
   rcases DataW.trod_slice ht h with ⟨rfl,rfl⟩ | ⟨a,len,cap,elems,rest,n',hn,rfl,rfl,_,hlc,hcm,hlen,hel,hsp,_⟩
   ·unfold DataW.trod
    rw [ht]
    rfl
   ·have hn':n=n':=by omega
    subst hn'
    have hspare:cap - len=0∨sp a.block=true:=by
     by_cases hc:cap=0
     ·exact .inl (by omega)
     ·refine .inr (hx (.cell a.block a.off) ?_)
      simp only [List.mem_append]
      refine .inl (MemPlace.mem_row.2 ⟨0,?_,?_⟩)
      ·have h1:=(hsp rfl).1
       have:0 < elems.length+rest.length:=by omega
       exact Nat.mul_pos this hpos
      ·simp
    have hdo:∀ (i:Nat) (y:DataW H×List MemPlace),(∀ p∈y.2,sp p.block=true)→(W.cells? 0 (a.add (i * P.cellsOf e)) (P.cellsOf e)).bind (DataW.trod enc P W 0 (fun _=>true) true n e)=some y→
      (W'.cells? 0 (a.add (i * P.cellsOf e)) (P.cellsOf e)).bind (DataW.trod enc P W' 0 sp true n e)=some y:=fun i y hy h1=>by
     obtain ⟨ci,h2,h3⟩:=Option.bind_eq_some_iff.1 h1
     rw [N14 hb h2]
     exact ih e ci y hSe h3 hy
    have hmem:∀ y∈elems++rest,∀ p∈y.2,sp p.block=true:=fun y hy p hp=>hx p (by
     simp only [List.mem_append,List.mem_flatMap]
     exact .inr ⟨y,by simpa using hy,hp⟩)
    have m1:(List.range len).mapM (fun i=>(W'.cells? 0 (a.add (i * P.cellsOf e)) (P.cellsOf e)).bind (DataW.trod enc P W' 0 sp true n e))=some elems:=by
     have:(List.range len).mapM (fun i=>elems[i]?)=some elems:=by rw [← hlen]; exact Qt elems
     refine Fs this fun i hi y hy h1=>hdo i y (hmem y (by simp [hy])) ?_
     rw [hel i (List.mem_range.1 hi)]
     exact h1
    have m2:(if sp a.block then (List.range (cap - len)).mapM (fun j=>(W'.cells? 0 (a.add ((len+j) * P.cellsOf e)) (P.cellsOf e)).bind (DataW.trod enc P W' 0 sp true n e)) else some [])=some rest:=by
     obtain ⟨h1,h2⟩:=hsp rfl
     rcases hspare with hc | hc
     ·have:rest=[]:=List.eq_nil_of_length_eq_zero (by omega)
      subst this
      rw [hc]
      split <;> rfl
     ·rw [zp hc]
      have:(List.range (cap - len)).mapM (fun i=>rest[i]?)=some rest:=by rw [← h1]; exact Qt rest
      refine Fs this fun j hj y hy h3=>hdo (len+j) y (hmem y (by simp [hy])) ?_
      rw [h2 j (List.mem_range.1 hj)]
      exact h3
    unfold DataW.trod
    rw [ht]
    simp only [Nat.zero_le,hlc,hcm,and_self,zt,m1,m2,Option.bind_some,zqt]
  ·obtain ⟨xs,n',hn,rfl,hl,hlen,hf⟩:=DataW.trod_struct ht h
   have hn':n=n':=by omega
   subst hn'
   refine trod_struct_mk ht hl ?_
   have key:∀ (l:List Field) (ys:List (DataW H×List MemPlace)),ys.length=l.length→(∀ f∈l,S f.type)→(∀ y∈ys,∀ p∈y.2,sp p.block=true)→
     (∀ (i:Nat) f,l[i]?=some f→DataW.trod enc P W 0 (fun _=>true) true n f.type ((cs.drop f.offset).take (P.cellsOf f.type))=ys[i]?)→
     l.mapM (fun f=>DataW.trod enc P W' 0 sp true n f.type ((cs.drop f.offset).take (P.cellsOf f.type)))=some ys:=by
    intro l
    induction l with
    | nil=>intro ys h1 _ _ _; obtain rfl:=List.eq_nil_of_length_eq_zero h1; rfl
    | cons f l ihl=>
     intro ys h1 h2 h3 h4
     cases ys with
     | nil=>simp at h1
     | cons y ys=>
      rw [List.mapM_cons]
      simp only [bind,Option.bind_eq_some_iff,pure,zqb]
      exact ⟨y,ih _ _ y (h2 f (by simp)) (by simpa using h4 0 f rfl) (h3 y (by simp)),ys,ihl ys (by simpa using h1) (fun g hg=>h2 g (by simp [hg])) (fun z hz=>h3 z (by simp [hz])) (fun i g hg=>by simpa using h4 (i+1) g (by simpa using hg)),rfl⟩
   refine key fs.toList xs (by simpa using hlen) hSf (fun y hy p hp=>hx p (by simp only [List.mem_flatMap]; exact ⟨y,hy,hp⟩)) fun i f hi=>hf i f (by simpa using hi)
theorem I17 {f:Func}{s:ChangeSpec}{apart fresh handsOn again:Bool}{args:Array Value}{v:Value}{ds gs:List (DataW H)}{before pa pv:List MemPlace}
  (hW:DataW.Whole enc P f.params.toList s.vars apart W args.toList ds gs before)
  (hres:∀ (b:Nat) (sp:Nat→Bool) (hd:Bool),DataW.TrodAll enc P W' b sp hd f.resultTypes.toList (v.resultList f.resultTypes.size) (s.fn H (ds++gs)).results [])
  (hargs:∀ sp:Nat→Bool,(∀ p∈before,sp p.block=true)→DataW.TrodAll enc P W' 0 sp true f.params.toList args.toList (s.fn H (ds++gs)).args pa)
  (hvars:∀ sp:Nat→Bool,(∀ p∈before,sp p.block=true)→DataW.TrodVars enc P W' sp s.vars (s.fn H (ds++gs)).vars pv)
  (hps:before=pa++pv) (hk:W.keptBut W' (·∈before)) (hfz:∀ a:Addr,a.block < W.heap.size→W'.frozen? a=W.frozen? a)
  (hok:∀ (j:Nat) (t:TypeId) (r:Value),f.resultTypes[j]?=some t→(v.resultList f.resultTypes.size)[j]?=some r→Value.okWide P W' .any 0 t r) :
  s.post enc P f apart fresh handsOn again W args v W':=by
 have hlt:=hW.lt
 have hold:∀ p∈before,(fun b=>decide (b < W.heap.size)) p.block=true:=fun p hp=>by simpa using hW.lt p hp
 refine ⟨ds,gs,before,[],pa,pv,hW,hres _ _ _,hargs _ hold,hvars _ hold,World.keptBut_mono (fun p hp=>⟨hp,?_⟩) hk,fun _=>?_⟩
 ·rw [hps,List.mem_append] at hp
  exact Or.inr hp
 ·obtain ⟨_,_,_,_,_,hz,hn⟩:=hW
  refine ⟨hok,_,_,([]++pa)++pv,⟨[]++pa,pv,trodAll_append (hargs _ (fun _ _=>rfl)) (hres _ _ _),hvars _ (fun _ _=>rfl),rfl,?_,?_⟩,?_⟩
  ·intro b off hp
   have hp':MemPlace.cell b off∈before:=by rw [hps]; simpa using hp
   rw [hfz _ (hlt _ hp')]
   exact hz b off hp'
  ·intro ha
   have:=hn ha
   rw [hps] at this
   simpa using this
  ·intro p hp _
   rw [hps]
   simpa using hp
theorem D16 {may:MemPlace→Prop}(hb:∀ b,b < W.heap.size→W'.heap[b]?=W.heap[b]?)(ho:W'.os=W.os)(hout:W'.output=W.output):W.keptBut W' may:=by
 refine ⟨ho,hout,fun i hi=>?_⟩
 rw [hb i hi]
 cases h:W.heap[i]? with
 | none=>rfl
 | some o=>cases o <;> simp
theorem J17 {a:Addr}(hb:W'.heap[a.block]?=W.heap[a.block]?):W'.frozen? a=W.frozen? a:=by
 unfold World.frozen?
 rw [hb]
theorem Tw (hS:O12 P S)(hb:∀ b,b < W.heap.size→W'.heap[b]?=W.heap[b]?){sp:Nat→Bool}:∀ {ts:List TypeId} {vs:List Value} {ds:List (DataW H)} {ps:List MemPlace},(∀ t∈ts,S t)→DataW.TrodAll enc P W 0 (fun _=>true) true ts vs ds ps→
  (∀ p∈ps,sp p.block=true)→DataW.TrodAll enc P W' 0 sp true ts vs ds ps
 | [],[],[],_,_,h,_=>h
 | t::ts,v::vs,d::ds,ps,hSt,⟨p,q,⟨n,h1⟩,h2,e⟩,hp=>by
  subst e
  exact ⟨p,q,⟨n,H17 hS hb n t _ _ (hSt t (by simp)) h1 (fun x hx=>hp x (by simp [hx]))⟩,Tw hS hb (fun t ht=>hSt t (by simp [ht])) h2 (fun x hx=>hp x (by simp [hx])),rfl⟩
theorem M19 {C:Cx}(hP:C.P=P){f:FuncId}{fn:Func}{s:ChangeSpec}{args:Array Value}{ds gs:List (DataW H)}{before:List MemPlace}{xs:List A}{b:TypeId}
  (hc:W0 C f xs [] (fun r H'=>H'=[]∧r = .d (.bool true))) (hlen:xs.length=args.size) (hargs:∀ (i:Nat) x v,xs[i]?=some x→args[i]?=some v→O1 (Fh W) (fun _=>.tuple #[]) x v) (hgl:Ym C (Fh W) W)
  (hW:DataW.Whole enc P fn.params.toList s.vars false W args.toList ds gs before) (hv:s.vars=[]) (hb:fn.resultTypes = #[b]) (hbt:P.underlying b=some .bool)
  (hsf:s.fn H ds={ results:=[.lit (.bool true)],args:=ds }) (hS:O12 P S) (hSt:∀ t∈fn.params.toList,S t) :
  Calls P f args W fun e W'=>∃ v,e = .returned v∧s.post enc P fn false true false false W args v W':=by
 subst hP
 have hgs:gs=[]:=by
  obtain ⟨p,q,_,h2,_⟩:=hW
  rw [hv] at h2
  cases gs with
  | nil=>rfl
  | cons g gs=>cases h2
 subst hgs
 have hH:P7 (Fh W) (fun _=>.tuple #[]) W []:=P7.nil _ _
 refine (hc.2 (Fh W) (fun _=>.tuple #[]) W args (B16 W) hgl hH hlen hargs).mono fun e W' he=>?_
 obtain ⟨v,r,H',M',G',rfl,⟨rfl,rfl⟩,hr,_,_,hext,_⟩:=he
 cases hr
 rename_i hr
 cases hr
 refine ⟨_,rfl,?_⟩
 have hblk:∀ k,k < W.heap.size→W'.heap[k]?=W.heap[k]?:=fun k hk=>hext.block k hk (fun ⟨o,x,h1,_⟩=>by simp at h1)
 have hW':=hW
 obtain ⟨p,q,hA,hV,hpq,hz,hn⟩:=hW'
 rw [hv] at hV
 have hq:q=[]:=hV
 subst hq
 refine I17 hW (pa:=p) (pv:=[]) ?_ ?_ ?_ hpq (D16 hblk hext.os hext.output) (fun a ha=>J17 (hblk _ ha)) ?_
 ·intro b' sp hd
  rw [List.append_nil,hsf,hb]
  exact trodAll_mk1 ⟨1,by unfold DataW.trod; rw [hbt]; rfl⟩
 ·intro sp hsp
  rw [List.append_nil,hsf]
  exact Tw hS hblk hSt hA (fun x hx=>hsp x (by rw [hpq]; simp [hx]))
 ·intro sp hsp
  rw [hv,List.append_nil,hsf]
  rfl
 ·intro j t r h1 h2
  rw [hb] at h1 h2
  cases j with
  | succ j=>simp at h1
  | zero=>
   simp at h1 h2
   subst h1
   have:r = .bool true:=by simpa [Value.resultList] using h2.symm
   subst this
   exact Go.RowKit.okWide_bool_mk hbt _
theorem K18 {t:TypeId}{v:Value}{base:Nat}{x:D}(hv:Value.okWide P W .any base t v)(ht:P.underlying t=some .bool∨(∃ k,P.underlying t=some (.int k))∨P.underlying t=some .string∨(∃ e,P.underlying t=some (.slice e)))(h:K13 (Fh W) [x] v.cells.toList) :
  O1 (Fh W) (fun _=>.tuple #[]) (.d x) v:=by
 have hc:v.cells = #[v]:=by
  unfold Value.okWide at hv
  rcases ht with ht | ⟨k,ht⟩ | ht | ⟨e,ht⟩ <;> rw [ht] at hv <;> simp only [Cell.okWide,ht,Cell.ok] at hv <;> cases v <;> first | rfl | (exact hv.elim)
 rw [hc] at h
 exact .d (h.2 0 x v rfl rfl)
end
def Le {α:Type}(a b:Option α):Prop:=∀ r,a=some r→b=some r
theorem Le.rfl {α:Type}{a:Option α}:Le a a:=fun _ h=>h
theorem Le.none {α:Type}{b:Option α}:Le (.none:Option α) b:=fun _ h=>by cases h
theorem Le.bind {α β:Type}{a a':Option α}{f f':α→Option β}(h:Le a a')(hf:∀ x,Le (f x) (f' x)):Le (a>>=f) (a'>>=f'):=by
 intro r hr
 cases a with
 | none=>cases hr
 | some x=>rw [h x _root_.rfl]; exact hf x r hr
theorem Le.ite {α:Type}{c:Prop}[Decidable c]{a a' b b':Option α}(h:Le a a')(h':Le b b'):Le (if c then a else b) (if c then a' else b'):=by
 split
 ·exact h
 ·exact h'
theorem okC {C:Cx}[h:Nonempty (T3 C)]:T3 C:=h.elim id
section
variable {C:Cx}{N:FN}{K:Nat}{pn:Value→Env→I0→Prop}{es:Fr→Exit→Act→World→Prop}{L l:List Oper}{o:Oper}{env:Env}{H:I0}
theorem n' {Q:Env→I0→Prop}(h:Q env H):C0 ⟨C,N,K,pn,es⟩ L [] env H Q:=C0.nil h
theorem Qn' {Q:Env→Prop}(h:Q env):AQ C L [] env H Q:=h
theorem an' {cnd:Cnd}{R:Env→Cnd→Prop}(h:R env cnd):AG C L [] env cnd H R:=h
end
section
variable {C:Cx}[Nonempty (T3 C)]{N:FN}{K:Nat}{pn:Value→Env→I0→Prop}{es:Fr→Exit→Act→World→Prop}{L l:List Oper}{o:Oper}{env:Env}{H:I0}
theorem q' {Q:Env→I0→Prop}{d:Option Nat}{x:A}(h:Vd C L o env H=some (d,True,x))(k:C0 ⟨C,N,K,pn,es⟩ L l (put env d x) H Q):C0 ⟨C,N,K,pn,es⟩ L (o::l) env H Q:=C0.q okC h trivial k
theorem qc' {Q:Env→I0→Prop}{d:Option Nat}{c:Prop}{x:A}(h:Vd C L o env H=some (d,c,x))(hc:c)(k:C0 ⟨C,N,K,pn,es⟩ L l (put env d x) H Q):C0 ⟨C,N,K,pn,es⟩ L (o::l) env H Q:=C0.q okC h hc k
theorem qe' {Q:Env→I0→Prop}{d:Option Nat}{c:Prop}{x y:A}(h:Vd C L o env H=some (d,c,x))(hc:c)(e:x=y)(k:C0 ⟨C,N,K,pn,es⟩ L l (put env d y) H Q):C0 ⟨C,N,K,pn,es⟩ L (o::l) env H Q:=C0.qe okC h hc e k
theorem i' {Q:Env→I0→Prop}{d:Option Nat}{rows:List (List D)}{n:Int}{sz:Nat}(h:Dq C L o env=some (d,rows,n,sz)){k:Nat}{r:List D}(hn:n=k)(hk:rows[k]?=some r)(hsz:Nat.beq r.length sz=true)
  (kk:C0 ⟨C,N,K,pn,es⟩ L l (put env d (.ptr r)) H Q):C0 ⟨C,N,K,pn,es⟩ L (o::l) env H Q:=C0.i okC h hn hk hsz kk
theorem x' {Q:Env→I0→Prop}{d:Option Nat}{s:List UInt8}{n:Int}(h:Fv C L o env=some (d,s,n)){k:Nat}{b:UInt8}(hn:n=k)(hk:s[k]?=some b)(kk:C0 ⟨C,N,K,pn,es⟩ L l (put env d (.d (.int .u8 b.toNat))) H Q):C0 ⟨C,N,K,pn,es⟩ L (o::l) env H Q:=C0.x okC h hn hk kk
theorem Q' {Q:Env→Prop}{d:Option Nat}{x:A}(h:Vd C L o env H=some (d,True,x))(k:AQ C L l (put env d x) H Q):AQ C L (o::l) env H Q:=AQ.q okC h trivial k
variable {cnd:Cnd}{R:Env→Cnd→Prop}
theorem a0' {d:Option Nat}{W:Option Bool}{x:A}(h:Ro C L o env cnd H=some (d,W,True,True,x))(k:AG C L l (put env d x) (Ch cnd d W) H R):AG C L (o::l) env cnd H R:=AG.q okC h (fun _=>⟨trivial,trivial⟩) k
theorem a1' {d:Option Nat}{w:Bool}{x:A}(h:Ro C L o env cnd H=some (d,some w,(w=true∧True),True,x))(k:AG C L l (put env d x) (Ch cnd d (some w)) H R):AG C L (o::l) env cnd H R:=AG.q okC h (fun h=>⟨⟨h,trivial⟩,trivial⟩) k
theorem a2' {d:Option Nat}{w:Bool}{x:A}(h:Ro C L o env cnd H=some (d,some w,(w=true∧w=true∧True),True,x))(k:AG C L l (put env d x) (Ch cnd d (some w)) H R):AG C L (o::l) env cnd H R:=AG.q okC h (fun h=>⟨⟨h,h,trivial⟩,trivial⟩) k
theorem ag' {d:Option Nat}{W:Option Bool}{S c:Prop}{x:A}(h:Ro C L o env cnd H=some (d,W,S,c,x))(hs:holds W→S∧c)(k:AG C L l (put env d x) (Ch cnd d W) H R):AG C L (o::l) env cnd H R:=AG.q okC h hs k
theorem pa' {d:Option Nat}{t xa xb:Bool}(h:Nt C L o env cnd=some ⟨d,none,True,t,(wb t true=true∧True),True,xa,xb⟩)(k:AG C L l (put env d (.d (.bool (bif t then xa else xb)))) (Ch cnd d none) H R):AG C L (o::l) env cnd H R:=
 AG.p okC h (fun _=>⟨trivial,fun h=>⟨K1a h,trivial⟩,fun _=>trivial⟩) k
theorem po' {d:Option Nat}{t xa xb:Bool}(h:Nt C L o env cnd=some ⟨d,none,True,t,True,(wb t false=true∧True),xa,xb⟩)(k:AG C L l (put env d (.d (.bool (bif t then xa else xb)))) (Ch cnd d none) H R):AG C L (o::l) env cnd H R:=
 AG.p okC h (fun _=>⟨trivial,fun _=>trivial,fun h=>⟨J1a h,trivial⟩⟩) k
theorem pA' {d:Option Nat}{w t xa xb:Bool}(h:Nt C L o env cnd=some ⟨d,some w,(w=true∧True),t,((w&&wb t true)=true∧True),True,xa,xb⟩)(k:AG C L l (put env d (.d (.bool (bif t then xa else xb)))) (Ch cnd d (some w)) H R):AG C L (o::l) env cnd H R:=
 AG.p okC h (fun hg=>⟨⟨hg,trivial⟩,fun h=>⟨H1a hg h,trivial⟩,fun _=>trivial⟩) k
theorem pO' {d:Option Nat}{w t xa xb:Bool}(h:Nt C L o env cnd=some ⟨d,some w,(w=true∧True),t,True,((w&&wb t false)=true∧True),xa,xb⟩)(k:AG C L l (put env d (.d (.bool (bif t then xa else xb)))) (Ch cnd d (some w)) H R):AG C L (o::l) env cnd H R:=
 AG.p okC h (fun hg=>⟨⟨hg,trivial⟩,fun _=>trivial,fun h=>⟨G1a hg h,trivial⟩⟩) k
end
section
variable {F:Fx}{env:Env}{H:I0}{Q:Po}
theorem s' {id:Nat}{L:List Oper}{b:Code}(hg:Gk L=true)(hd:L.all (Q9 F.N)=true)(h:C0 F L L env H (Dk (Then F b Q))):AEx F (.seq (.region id L.toArray false) b) env H Q:=.seq (.regionN hg hd h)
theorem sg' {id:Nat}{L:List Oper}{b:Code}(n:Nat)(hd:L.all (Q9 F.N)=true)(h:AG F.C L (L.take n) env A16 H (fun e c=>C0 F L (L.drop n) (G13 e c) H (Dk (Then F b Q)))):AEx F (.seq (.region id L.toArray false) b) env H Q:=.seq (.regionG n hd h)
theorem S' {a b:Code}(h:AEx F a env H (Then F b Q)):AEx F (.seq a b) env H Q:=.seq h
theorem R' {id:Nat}{L:List Oper}(hg:Gk L=true)(hd:L.all (Q9 F.N)=true)(h:C0 F L L env H (Dk Q)):AEx F (.region id L.toArray false) env H Q:=.regionN hg hd h
theorem sk' (h:Q .normal env H):AEx F .skip env H Q:=.skip h
theorem bk' {id:Nat}{c:Code}(h:AEx F c env H (Sx id Q)):AEx F (.block id c) env H Q:=.block h
theorem re' (h:Q .ret env H):AEx F .ret env H Q:=.ret h
theorem ex' {id:Nat}(h:Q (.exit id) env H):AEx F (.exit id) env H Q:=.exit h
theorem ci' {c:Operand}{x y:Code}{t:Bool}{α:Type}{A' B':Option α}{r:α}(hc:ev F.C.GL env c = .d (.bool t))(hh:(if t=true then A' else B')=some r)(h1:A'=some r→AEx F x env H Q)(h2:B'=some r→AEx F y env H Q):AEx F (.cond c x y) env H Q:=
 .cond hc (fun hb=>h1 (R9 hb hh)) (fun hb=>h2 (L1a hb hh))
end
def Sl (env:Env):List (Nat×A)→List A
 | []=>[]
 | p::r=>env p.1::Sl env r
def A2:List (Nat×A)→List A
 | []=>[]
 | p::r=>p.2::A2 r
def tkH:I0→I0→I0
 | [],_=>[]
 | _::r,x::H=>x::tkH r H
 | _::_,[]=>[]
def Ii (H:I0):List Nat→List (Option Ob)
 | []=>[]
 | p::r=>nth H p::Ii H r
def Jk (f:Nat→Nat):I0→List (Option Ob)
 | []=>[]
 | x::r=>some (Ql f x)::Jk f r
theorem Z19 {k:Nat}{env:Env}:∀ {L:List (Nat×A)},Sl env L=A2 L→X2 k (A2 L)=true→WkE k env L
 | [],_,_=>trivial
 | (t,x)::r,h,hn=>by
  simp only [Sl,A2,List.cons.injEq] at h
  simp only [A2,X2,zqi] at hn
  exact ⟨⟨by rw [h.1]; exact .rfl,hn.1⟩,Z19 h.2 hn.2⟩
theorem L13 {k:Nat}:∀ {H H2:I0},tkH H2 H=H2→H2.all (S15 k)=true→WkH k H H2
 | [],[],_,_=>trivial
 | _::_,[],_,_=>trivial
 | [],y::r,h,_=>by simp [tkH] at h
 | x::H,y::r,h,hn=>by
  simp only [tkH,List.cons.injEq] at h
  simp only [List.all_cons,zqi] at hn
  obtain ⟨rfl,h⟩:=h
  exact ⟨WkO.same hn.1,L13 h hn.2⟩
def okB (K:Nat)(xs:List A)(H:I0):Bool:=X2 H.length xs&&H.all (S15 H.length)&&Nat.ble K H.length
theorem wk' {K:Nat}{env:Env}{H:I0}{L:List (Nat×A)}{H2:I0}(h1:Sl env L=A2 L)(h2:tkH H2 H=H2)(h3:okB K (A2 L) H2=true):Wk K env H L H2:=by
 simp only [okB,zqi] at h3
 exact ⟨Z19 h1 h3.1.1,L13 h2 h3.1.2,h3.2⟩
theorem lw' {F:Fx}{c:Code}{env:Env}{H:I0}{Q:Po}{L:List (Nat×A)}{H2:I0}(k:F1 F c (Nb L) H2 Q)(h1:Sl env L=A2 L)(h2:tkH H2 H=H2)(h3:okB F.K (A2 L) H2=true):F1 F c env H Q:=.wk (wk' h1 h2 h3) k
theorem ew' {F:Fx}{c:Code}{env:Env}{H:I0}{Q:Po}{L:List (Nat×A)}{H2:I0}(k:AEx F c (Nb L) H2 Q)(h1:Sl env L=A2 L)(h2:tkH H2 H=H2)(h3:okB F.K (A2 L) H2=true):AEx F c env H Q:=.wk (wk' h1 h2 h3) k
theorem fw' {F:Fx}{c:Code}{env:Env}{H:I0}{Q:Po}{L:List (Nat×A)}{H2:I0}(k:F1 F c (Nb L) H2 Q)(h1:Sl env L=A2 L)(h2:tkH H2 H=H2)(h3:okB F.K (A2 L) H2=true):AEx F (.loop c) env H Q:=.ofLoop (.wk (wk' h1 h2 h3) k)
abbrev Ret (H0:I0)(a:A):A→I0→Prop:=fun x H'=>H'=H0∧x=a
theorem rt' {F:Fx}{rs:List ResultVar}{x:A}{env:Env}{H H':I0}(h1:Sy F.C.T rs env H=some x)(h2:tkH H' H=H')(h3:okB F.K [x] H'=true):Pj F rs (Ret H' x) .ret env H:=by
 simp only [okB,X2,zqi,Bool.and_true] at h3
 exact ⟨x,x,H',h1,.rfl,L13 h2 h3.1.2,h3.1.1,h3.2,rfl,rfl⟩
theorem rn' {F:Fx}{rs:List ResultVar}{x:A}{env:Env}{H H':I0}(h1:Sy F.C.T rs env H=some x)(h2:tkH H' H=H')(h3:okB F.K [x] H'=true):Pj F rs (Ret H' x) .normal env H:=by
 simp only [okB,X2,zqi,Bool.and_true] at h3
 exact ⟨x,x,H',h1,.rfl,L13 h2 h3.1.2,h3.1.1,h3.2,rfl,rfl⟩
theorem Rt {f:Nat→Nat}{H:I0}:∀ {idx:List Nat} {cH:I0},Ii H idx=Jk f cH→Rl f H idx cH
 | [],[],_=>trivial
 | p::ps,y::ys,h=>by
  simp only [Ii,Jk,List.cons.injEq] at h
  exact ⟨h.1,Rt h.2⟩
 | [],_::_,h=>by simp [Ii,Jk] at h
 | _::_,[],h=>by simp [Ii,Jk] at h
theorem A1a {xs ys:List A}(h:xs=ys):LeL xs ys:=by subst h; exact .refl _
theorem g' {F:Fx}{L l:List Oper}{o:Oper}{env:Env}{H H':I0}{Q:Env→I0→Prop}{d:Option Nat}{g:FuncId}{xs:List A}{x y:A}(idx:List Nat){cargs:List A}{cH cH':I0}
  (hc:W0 F.C g cargs cH (Ret cH' x)) (h:Pb F.C L o env=some (d,g,xs)) (hx:Dc (N3 idx H.length) cargs=xs) (hi:Uf idx H.length=true) (hm:Ii H idx=Jk (N3 idx H.length) cH)
  (hr:frc (ren (N3 idx H.length) x)=some y) (hH:Je (B7 H idx (N3 idx H.length) (T4 idx cH) cH')=some H') (k:C0 F L l (put (fun t=>dg (T4 idx cH) (env t)) d y) H' Q):C0 F L (o::l) env H Q:=
 .g idx h hc (A1a hx) hi (Rt hm) hr hH k
theorem c' {F:Fx}{L l:List Oper}{o:Oper}{env:Env}{H:I0}{Q:Env→I0→Prop}{d:Option Nat}{f:FuncId}{xs:List A}{x:A}(hc:W0 F.C f xs [] (Ret [] x))(h:Pb F.C L o env=some (d,f,xs))(hn:X2 0 xs=true)
  (k:C0 F L l (put env d x) H Q):C0 F L (o::l) env H Q:=.c h hn hc k
theorem Qc' {C:Cx}{L l:List Oper}{o:Oper}{env:Env}{H:I0}{Q:Env→Prop}{d:Option Nat}{f:FuncId}{xs:List A}{x:A}(hc:W0 C f xs [] (Ret [] x))(h:Pb C L o env=some (d,f,xs))(hn:X2 0 xs=true)
  (k:AQ C L l (put env d x) H Q):AQ C L (o::l) env H Q:=.c h hn hc k
theorem bs' {α β:Type}{x:Option α}{f:α→Option β}{r:β}(h:(x>>=f)=some r):∃ a,x=some a∧f a=some r:=bind_some h
theorem oi' {α:Type}{a b:α}(h:some a=some b):a=b:=Option.some.inj h
def Gh:Nat→List Prop
 | 0=>[]
 | k+1=>True::Gh k
def Tl (C:Cx)(L:List Oper)(H:I0):Nat→List Oper→Env→Option (List Oper×Env×List Prop)
 | 0,l,env=>some (l,env,[])
 | _+1,[],_=>none
 | k+1,o::l,env=>match Vd C L o env H with
  | some (d,c,x)=>match Tl C L H k l (put env d x) with
   | some (l',e',cs)=>some (l',e',c::cs)
   | none=>none
  | none=>none
theorem A12 {C:Cx}{L:List Oper}{H:I0}{k:Nat}{o:Oper}{l l':List Oper}{env env':Env}(h:Tl C L H (k+1) (o::l) env=some (l',env',Gh (k+1))) :
  ∃ d x,Vd C L o env H=some (d,True,x)∧Tl C L H k l (put env d x)=some (l',env',Gh k):=by
 rw [Tl] at h
 split at h
 ·rename_i d c x hs
  split at h
  ·rename_i l2 e2 cs hr
   simp only [zqb,zqh,Gh,List.cons.injEq] at h
   obtain ⟨rfl,rfl,hc,rfl⟩:=h
   subst hc
   exact ⟨d,x,hs,hr⟩
  ·cases h
 ·cases h
theorem M13 {C:Cx}{L:List Oper}{H:I0}{k:Nat}{l':List Oper}{env:Env}{r:Env×List Prop}(h:Tl C L H (k+1) [] env=some (l',r)):False:=by rw [Tl] at h; cases h
def F11 (C:Cx)(N:Nat)(L:List Oper)(H:I0)(k:Nat)(env:Env):Option (List Oper×Env×List Prop):=bif Gk L&&L.all (Q9 N) then Tl C L H k L env else none
theorem Yx {C:Cx}{N:Nat}{L:List Oper}{H:I0}{env:Env}{k:Nat}{r:List Oper×Env×List Prop}(h:F11 C N L H k env=some r):Gk L=true∧L.all (Q9 N)=true∧Tl C L H k L env=some r:=by
 unfold F11 at h
 cases hb:Gk L&&L.all (Q9 N) with
 | false=>rw [hb] at h; cases h
 | true=>rw [hb] at h; simp only [zqi] at hb; exact ⟨hb.1,hb.2,h⟩
section
variable {C:Cx}[Nonempty (T3 C)]{N:FN}{K:Nat}{pn:Value→Env→I0→Prop}{es:Fr→Exit→Act→World→Prop}{L l l':List Oper}{env env':Env}{H:I0}
theorem o' (k:Nat){Q:Env→I0→Prop}(h:Tl C L H k l env=some (l',env',Gh k))(n:C0 ⟨C,N,K,pn,es⟩ L l' env' H Q):C0 ⟨C,N,K,pn,es⟩ L l env H Q:=by
 induction k generalizing l env with
 | zero=>rw [Tl] at h; cases h; exact n
 | succ k ih=>cases l with
  | nil=>exact (M13 h).elim
  | cons o l=>
   obtain ⟨d,x,hs,hr⟩:=A12 h
   exact q' hs (ih hr)
theorem O' (k:Nat){Q:Env→Prop}(h:Tl C L H k l env=some (l',env',Gh k))(n:AQ C L l' env' H Q):AQ C L l env H Q:=by
 induction k generalizing l env with
 | zero=>rw [Tl] at h; cases h; exact n
 | succ k ih=>cases l with
  | nil=>exact (M13 h).elim
  | cons o l=>
   obtain ⟨d,x,hs,hr⟩:=A12 h
   exact Q' hs (ih hr)
theorem e' {Q:Env→I0→Prop}(h:Tl C L H l.length l env=some ([],env',Gh l.length))(n:Q env' H):C0 ⟨C,N,K,pn,es⟩ L l env H Q:=o' _ h (n' n)
theorem E' {Q:Env→Prop}(h:Tl C L H l.length l env=some ([],env',Gh l.length))(n:Q env'):AQ C L l env H Q:=O' _ h (Qn' n)
theorem p' (k:Nat){id:Nat}{b:Code}{Q:Po}(h:F11 C N L H k env=some (l',env',Gh k))(n:C0 ⟨C,N,K,pn,es⟩ L l' env' H (Dk (Then ⟨C,N,K,pn,es⟩ b Q))):AEx ⟨C,N,K,pn,es⟩ (.seq (.region id L.toArray false) b) env H Q:=by
 obtain ⟨h1,h2,h3⟩:=Yx h
 exact s' h1 h2 (o' k h3 n)
theorem t' {id:Nat}{b:Code}{Q:Po}(h:F11 C N L H L.length env=some ([],env',Gh L.length))(n:AEx ⟨C,N,K,pn,es⟩ b env' H Q):AEx ⟨C,N,K,pn,es⟩ (.seq (.region id L.toArray false) b) env H Q:=by
 obtain ⟨h1,h2,h3⟩:=Yx h
 exact s' h1 h2 (e' h3 n)
theorem P' (k:Nat){id:Nat}{Q:Po}(h:F11 C N L H k env=some (l',env',Gh k))(n:C0 ⟨C,N,K,pn,es⟩ L l' env' H (Dk Q)):AEx ⟨C,N,K,pn,es⟩ (.region id L.toArray false) env H Q:=by
 obtain ⟨h1,h2,h3⟩:=Yx h
 exact R' h1 h2 (o' k h3 n)
theorem T' {id:Nat}{Q:Po}(h:F11 C N L H L.length env=some ([],env',Gh L.length))(n:Q .normal env' H):AEx ⟨C,N,K,pn,es⟩ (.region id L.toArray false) env H Q:=by
 obtain ⟨h1,h2,h3⟩:=Yx h
 exact R' h1 h2 (e' h3 n)
def N13 (C:Cx)(L:List Oper)(H:I0):Nat→List Oper→Env→Cnd→Option (List Oper×Env×Cnd×List Prop×List Prop)
 | 0,l,env,cnd=>some (l,env,cnd,[],[])
 | _+1,[],_,_=>none
 | k+1,o::l,env,cnd=>match Ro C L o env cnd H with
  | some (d,W,S,c,x)=>match N13 C L H k l (put env d x) (Ch cnd d W) with
   | some (l',e',n',ss,cs)=>some (l',e',n',S::ss,c::cs)
   | none=>none
  | none=>none
theorem G' (k:Nat){cnd cnd':Cnd}{R:Env→Cnd→Prop}(h:N13 C L H k l env cnd=some (l',env',cnd',Gh k,Gh k))(n:AG C L l' env' cnd' H R):AG C L l env cnd H R:=by
 induction k generalizing l env cnd with
 | zero=>rw [N13] at h; cases h; exact n
 | succ k ih=>cases l with
  | nil=>rw [N13] at h; cases h
  | cons o l=>
   rw [N13] at h
   split at h
   ·rename_i d W S c x hs
    split at h
    ·rename_i l2 e2 n2 ss cs hr
     simp only [zqb,zqh,Gh,List.cons.injEq] at h
     obtain ⟨rfl,rfl,rfl,⟨hS,rfl⟩,hc,rfl⟩:=h
     subst hS; subst hc
     exact a0' hs (ih hr)
    ·cases h
   ·cases h
end
def sub (i:Nat)(c:Code):Code:=match i with
 | 0=>sl c
 | 1=>sr c
 | 2=>ca c
 | 3=>cb c
 | 4=>bk c
 | _=>lo c
def kon (F:Fx)(i:Nat)(c:Code)(Q:Po):Po:=match i with
 | 0=>Then F (sr c) Q
 | 4=>match c with
  | .block id _=>Sx id Q
  | _=>Q
 | 5=>Y18 F (lo c) Q
 | _=>Q
def pc:Code→List Nat→Code
 | c,[]=>c
 | c,i::p=>pc (sub i c) p
def pk (F:Fx):Code→List Nat→Po→Po
 | _,[],Q=>Q
 | c,i::p,Q=>pk F (sub i c) p (kon F i c Q)
abbrev LM (C:Cx)(n K:Nat)(f:Func)(p:List Nat)(E:List (Nat×A))(H:I0)(R:A→I0→Prop):Prop:=
 F1 (fx C n K) (lo (pc (So f) p)) (Nb E) H (pk (fx C n K) (So f) p (Pj (fx C n K) f.results.toList R))
abbrev JM (C:Cx)(n K:Nat)(f:Func)(p:List Nat)(E:List (Nat×A))(H:I0)(R:A→I0→Prop):Prop:=
 AEx (fx C n K) (pc (So f) p) (Nb E) H (pk (fx C n K) (So f) p (Pj (fx C n K) f.results.toList R))
open Go.ChangeShapes Go.WideShapes
section
variable {P:Program}{W:World}
theorem Uw:∀ {laid:List (String×DataW Unit)} {ps:List MemPlace},DataW.LaidVars P W laid ps→∀ (i:Nat) n d,laid[i]?=some (n,d)→
  ∃ g t cs fuel p,P.globalNamed n=some g∧(P.globals[g]?).map (·.type)=some t∧W.var? P n=some cs∧DataW.trod (fun _=>()) P W 0 (fun _=>true) false fuel t cs.toList=some (d,p)
 | [],_,_,i,n,d,hi=>by simp at hi
 | (m,e)::r,ps,h,i,n,d,hi=>by
  obtain ⟨g,t,cs,fuel,p,q,h1,h2,h3,h4,h5,_⟩:=h
  cases i with
  | zero=>cases hi; exact ⟨g,t,cs,fuel,p,h1,h2,h3,h4⟩
  | succ i=>exact Uw h5 i n d (by simpa using hi)
theorem K17 {name:String}{g:Nat}{cs:Array Value}(hg:P.globalNamed name=some g)(h:W.var? P name=some cs){i:Nat}{v:Value}(hi:cs[i]?=some v):Fh W ⟨g,i,none⟩=some v:=by
 have:=World.var?_cell hg h i
 unfold Fh
 rw [zp rfl,this,hi]
theorem O14 {laid:List (String×DataW Unit)}(h:laidMet P laid W)(i:Nat){name:String}{k:IntKind}{zs:List Int}(hi:laid[i]?=some (name,Lib.tabData k zs)){g:Nat}{t e:TypeId}{n:Nat}
  (hg:P.globalNamed name=some g) (hty:(P.globals[g]?).map (·.type)=some t) (ht:P.underlying t=some (.array n e)) (he:P.underlying e=some (.int k)) (hce:P.cellsOf e=1) (hct:P.cellsOf t=n) :
  Lib.TabIs P W name k zs∧∀ (j:Nat) z,zs[j]?=some z→Fh W ⟨g,j,none⟩=some (.int k z):=by
 obtain ⟨ps,hv,_⟩:=h
 obtain ⟨g',t',cs,fuel,p,h1,h2,h3,h4⟩:=Uw hv i _ _ hi
 obtain rfl:=Option.some.inj (hg.symm.trans h1)
 obtain rfl:=Option.some.inj (hty.symm.trans h2)
 have hc:=Lib.cells_of_tab ht he hce hct h4
 have hT:Lib.TabIs P W name k zs:=by unfold Lib.TabIs; rw [h3,← hc]
 exact ⟨hT,fun j z hz=>K17 hg h3 (by rw [← Array.getElem?_toList,hc,List.getElem?_map,hz]; rfl)⟩
theorem E16 {M:Mem}{w w':World}{name:String}{k:IntKind}{zs:List Int}{g:Nat}(hg:P.globalNamed name=some g)(h0:0 < zs.length)(hM:∀ (j:Nat) z,zs[j]?=some z→M ⟨g,j,none⟩=some (.int k z))
  (hb:∀ b,Z12 M w b→w'.heap[b]?=w.heap[b]?) (h:Lib.TabIs P w name k zs):Lib.TabIs P w' name k zs:=by
 unfold Lib.TabIs at h ⊢
 simp only [World.var?,hg,Option.bind_some] at h ⊢
 split at h
 ·rename_i cs t f hc
  have hcs:=Option.some.inj h
  rw [hb g ⟨cs,t,f,hc,by rw [hcs]; simpa using h0,fun i hi=>?_⟩,hc]
  ·exact h
  ·rw [hcs] at hi
   have hi':i < zs.length:=by simpa using hi
   rw [hM i zs[i] (zqv hi')]
   simp
 ·cases h
end
def Pq (F:Fx)(L:List Oper)(o:Oper)(env:Env)(H:I0)(x:A)(H':I0):Prop:=
 ∀ env' K,(∀ t∈R6 L o,env' t=env t)→∀ Q:Env→I0→Prop,Q (put env' o.dst x) H'→C0 ⟨F.C,F.N,K,Kl,Bh⟩ L [o] env' H Q
def To (ps:List Nat):Nat→I0→I0
 | _,[]=>[]
 | n,x::r=>(bif ps.contains n then .dead else x)::To ps (n+1) r
def L3 (ps:List Nat)(H:I0):I0:=To ps 0 H
theorem Zz {ps:List Nat}:∀ {H:I0} {k n:Nat},(To ps k H)[n]?=(H[n]?).map fun x=>bif ps.contains (k+n) then Ob.dead else x
 | [],k,n=>by simp [To]
 | x::r,k,0=>by simp [To]
 | x::r,k,n+1=>by
  simp only [To,List.getElem?_cons_succ]
  rw [Zz,show k+1+n=k+(n+1) by omega]
theorem Y8 {ps:List Nat}{H:I0}{n:Nat}:(L3 ps H)[n]?=(H[n]?).map fun x=>bif ps.contains n then Ob.dead else x:=by
 unfold L3; rw [Zz,Nat.zero_add]
theorem C7 {ps:List Nat}{H:I0}:(L3 ps H).length=H.length:=by
 have key:∀ (H:I0) (k:Nat),(To ps k H).length=H.length:=by
  intro H
  induction H with
  | nil=>intro k; rfl
  | cons x r ih=>intro k; simp only [To,zqd,ih]
 exact key H 0
theorem O13 {H:I0}:L3 [] H=H:=by
 apply List.ext_getElem?
 intro n
 rw [Y8]
 cases H[n]? <;> simp
theorem G11 {GL:GT}{env env':Env}{o:Oper}(h:∀ y∈o.op.operands,ev GL env' y=ev GL env y):Id GL env' o=Id GL env o:=by
 unfold Id
 split
 ·rename_i fo as ts ho
  rw [ho] at h
  rw [h fo (by simp [Op.operands,Call.operands])]
  have:as.toList.map (ev GL env')=as.toList.map (ev GL env):=List.map_congr_left fun y hy=>h y (by simp only [Op.operands,Call.operands,Array.mem_append]; exact .inr (by simpa using hy))
  rw [this]
 ·rfl
theorem P14 {C:Cx}{L:List Oper}{env env':Env}{o:Oper}(h:∀ t∈R6 L o,env' t=env t):Pb C L o env'=Pb C L o env:=by
 unfold Pb
 rw [Zh h,G11 fun y hy=>An fun t ht=>h t (by
  subst ht
  simp only [R6,List.mem_append,List.mem_filterMap]
  exact .inl ⟨.tmp t,by simpa using hy,rfl⟩)]
theorem Uo:∀ l:List A,Zf l=some l
 | []=>rfl
 | x::r=>by simp only [Zf,Uo r]
theorem B12:∀ l:List D,Ty l=some l
 | []=>rfl
 | x::r=>by simp only [Ty,B12 r]
theorem L18 (x:A):frc x=some x:=by
 cases x with
 | d y=>cases y <;> rfl
 | ptr cs=>simp only [frc,B12]
 | clo f cs=>simp only [frc,Uo]
 | bnd f cs=>simp only [frc,Uo]
 | agg cs=>simp only [frc,Uo]
 | tup cs=>simp only [frc,Uo]
 | _=>rfl
theorem C12:∀ l:List A,Vy l=some l
 | []=>rfl
 | x::r=>by simp only [Vy,L18,C12 r]
theorem D12:∀ H:I0,Je H=some H
 | []=>rfl
 | x::r=>by
  have ih:=D12 r
  cases x <;> simp only [Je,C12,ih]
theorem Pq.g {F:Fx}{L:List Oper}{o:Oper}{env:Env}{H H':I0}{d:Option Nat}{g:FuncId}{xs:List A}{x y:A}(idx:List Nat){cargs:List A}{cH cH':I0}{un:List Nat}
  (hc:W0 F.C g cargs cH (Ret cH' x)) (h:Pb F.C L o env=some (d,g,xs)) (hx:Dc (N3 idx H.length) cargs=xs) (hi:Uf idx H.length=true) (hm:Ii H idx=Jk (N3 idx H.length) cH)
  (ht:T4 idx cH=[]) (hr:frc (ren (N3 idx H.length) x)=some y) (hH:Je (B7 H idx (N3 idx H.length) (T4 idx cH) cH')=some H')
  (hun:(idx.all (fun p=>!un.contains p)&&un.all (fun p=>Nat.blt p H.length)&&Nat.ble idx.length cH'.length)=true) :
  ∀ ps:List Nat,(∀ p∈ps,p∈un)→Pq F L o env (L3 ps H) y (L3 ps H'):=by
 simp only [zqi,List.all_eq_true] at hun
 obtain ⟨⟨u1,u2⟩,u3⟩:=hun
 have u3:=Nat.le_of_ble_eq_true u3
 intro ps hps env' K he Q hq
 have h':=h
 rw [← P14 he] at h'
 have hd:=(Nl h).2.2
 have hout:∀ p∈idx,ps.contains p=false:=fun p hp=>by
  have:=u1 p hp
  cases hb:ps.contains p with
  | false=>rfl
  | true=>
   have h1:=hps p (by simpa using hb)
   have h2:un.contains p=true:=by simpa using h1
   rw [h2] at this; cases this
 have hsel:∀ l:List Nat,(∀ p∈l,p∈idx)→Ii (L3 ps H) l=Ii H l:=by
  intro l
  induction l with
  | nil=>intro _; rfl
  | cons p r ih=>
   intro hl
   simp only [Ii]
   rw [ih fun q hq=>hl q (zqq _ hq),S3,S3,Y8]
   have:=hout p (hl p zqp)
   cases H[p]? with
   | none=>rfl
   | some z=>simp only [zqt,this,zql]
 have hmg:B7 (L3 ps H) idx (N3 idx H.length) (T4 idx cH) cH'=L3 ps (B7 H idx (N3 idx H.length) (T4 idx cH) cH'):=by
  apply List.ext_getElem?
  intro n
  rw [Dv u3,Y8,Y8,Dv u3,C7]
  by_cases hn:n < H.length
  ·rw [zp hn,zp hn]
   cases hf:fnd idx n with
   | none=>
    simp only
    rw [ht]
    cases H[n]? with
    | none=>rfl
    | some z=>
     simp only [zqt]
     cases ps.contains n <;> simp only [zqk,zql,dgO]
   | some i=>
    simp only
    have hin:n∈idx:=List.mem_of_getElem? (Pi hf)
    cases cH'[i]? with
    | none=>rfl
    | some z=>simp only [zqt,hout n hin,zql]
  ·rw [zn hn,zn hn]
   have:ps.contains n=false:=by
    cases hb:ps.contains n with
    | false=>rfl
    | true=>
     have h1:=hps n (by simpa using hb)
     have:=Nat.le_of_ble_eq_true (u2 n h1)
     exact absurd this hn
   cases cH'[idx.length+(n - H.length)]? with
   | none=>rfl
   | some z=>simp only [zqt,this,zql]
 have hHe:=Hi hH
 refine g' idx hc h' (by rw [C7]; exact hx) (by rw [C7]; exact hi) (by rw [C7,hsel idx fun _ h=>h]; exact hm) (by rw [C7]; exact hr) (H':=L3 ps H') ?_ (C0.nil ?_)
 ·rw [C7,hmg,← hHe]
  exact D12 _
 ·rw [show (fun t=>dg (T4 idx cH) (env' t))=env' from by funext t; rw [ht,E17]]
  rw [← hd]
  exact hq
def loN (L:List Oper)(ls:List Nat)(j:Nat):Nat:=(ls.filter fun l=>Te L L.length j l).length
def hiN (L:List Oper)(ls:List Nat)(j:Nat):Nat:=(ls.filter fun l=>!Te L L.length l j).length
def Ji:List (Nat×Nat)→Nat→Option Nat
 | [],_=>none
 | q::r,j=>bif Nat.beq q.1 j then some q.2 else Ji r j
def unw (L:List Oper):List (Nat×Nat)→Nat→List Nat
 | [],_=>[]
 | q::r,j=>bif Te L L.length j q.1 then unw L r j else q.2::unw L r j
def P13 (F:Fx)(L:List Oper)(o:Oper)(env:Env)(t:TypeId)(cs:List A):Prop:=
 ∀ env' H M G w (a:Act),(∀ u∈R6 L o,env' u=env u)→St F.C F.N M G w env' H a→∃ vs,Qf M G cs vs∧(execOp a.eval o).run F.C.P w = .ok (.value (.pointer (some ⟨w.heap.size,0,none⟩))) (w.alloc (.cells vs t))
def AS (F:Fx)(L:List Oper)(ls:List Nat)(fs:List (Nat×Nat))(Hs:List I0):Nat→Nat→List Oper→Env→(Env→Prop)→Prop
 | _,_,[],env,Q=>Q env
 | j,i,o::r,env,Q=>
  (∃ d x,o.dst=d∧ls.contains j=false∧Ji fs j=none∧(∀ H∈Hs.drop (loN L ls j),∀ ps:List Nat,(∀ p∈ps,p∈unw L fs j)→Ds F.C L o env (L3 ps H) x)∧AS F L ls fs Hs (j+1) i r (put env d x) Q)∨
  (∃ x H H',nth ls i=some j∧Ji fs j=none∧F2 L env o=some true∧nth Hs i=some H∧nth Hs (i+1)=some H'∧(∀ ps:List Nat,(∀ p∈ps,p∈unw L fs j)→Pq F L o env (L3 ps H) x (L3 ps H'))∧
   AS F L ls fs Hs (j+1) (i+1) r (put env o.dst x) Q)∨
  (∃ t cs p,Ji fs j=some p∧ls.contains j=false∧F2 L env o=some true∧P13 F L o env t cs∧(∀ H∈Hs.take (hiN L ls j+1),nth H p=some (.row cs t))∧AS F L ls fs Hs (j+1) i r (put env o.dst (.ref p 0)) Q)
def Q13 (L:List Oper)(ls:List Nat)(n:Nat):Bool:=
 (List.range ls.length).all fun i=>(match nth ls i with | some j=>Nat.blt j n | none=>true)&&(List.range i).all fun k=>match nth ls i,nth ls k with | some j,some l=>Nat.blt l j&&Te L L.length j l | _,_=>true
theorem Q14 {L:List Oper}{ls:List Nat}{n:Nat}(h:Q13 L ls n=true):(∀ l∈ls,l < n)∧∀ (s k j l:Nat),ls[s]?=some j→ls[k]?=some l→k < s→l < j∧Te L L.length j l=true:=by
 unfold Q13 at h
 refine ⟨fun l hl=>?_,fun s k j l hs hk hlt=>?_⟩
 ·obtain ⟨i,hi⟩:=List.getElem?_of_mem hl
  have h1:=List.all_eq_true.1 h i (List.mem_range.2 (zqu.1 hi).1)
  simp only [zqi,S3,hi] at h1
  exact Nat.le_of_ble_eq_true h1.1
 ·have h1:=List.all_eq_true.1 h s (List.mem_range.2 (zqu.1 hs).1)
  simp only [zqi] at h1
  have h2:=List.all_eq_true.1 h1.2 k (List.mem_range.2 hlt)
  simp only [S3,hs,hk,zqi] at h2
  exact ⟨Nat.le_of_ble_eq_true h2.1,h2.2⟩
def O5 (ls:List Nat)(listed:Array Bool):Nat:=(ls.filter fun l=>listed.getD l false).length
theorem R13 {ls:List Nat}{listed:Array Bool}(h:∀ l∈ls,listed.getD l false=true):O5 ls listed=ls.length:=by
 unfold O5
 rw [List.filter_eq_self.2 h]
theorem L17 {ls:List Nat}{listed:Array Bool}(h:∀ l,listed.getD l false=false):O5 ls listed=0:=by
 unfold O5
 rw [List.filter_eq_nil_iff.2 fun l _=>by rw [h l]; simp]
 rfl
theorem Vw {ls:List Nat}{listed:Array Bool}{j:Nat}(h:j ∉ ls):O5 ls (listed.setIfInBounds j true)=O5 ls listed:=by
 unfold O5
 congr 1
 refine List.filter_congr fun l hl=>?_
 exact getD_set_ne false (fun e=>h (by rw [e]; exact hl))
theorem G15:∀ {ls:List Nat} {listed:Array Bool} {s j:Nat},ls[s]?=some j→(∀ (k l:Nat),k < s→ls[k]?=some l→listed.getD l false=true)→(∀ (k l:Nat),s≤k→ls[k]?=some l→listed.getD l false=false)→O5 ls listed=s
 | [],_,s,j,h,_,_=>by simp at h
 | x::r,listed,0,j,h,h1,h2=>by
  unfold O5
  rw [List.filter_eq_nil_iff.2 fun l hl=>by
   obtain ⟨k,hk⟩:=List.getElem?_of_mem hl
   rw [h2 k l (Nat.zero_le _) hk]; simp]
  rfl
 | x::r,listed,s+1,j,h,h1,h2=>by
  have ih:=G15 (ls:=r) (listed:=listed) (s:=s) (j:=j) (by simpa using h) (fun k l hk hl=>h1 (k+1) l (by omega) (by simpa using hl)) (fun k l hk hl=>h2 (k+1) l (by omega) (by simpa using hl))
  unfold O5 at ih ⊢
  have hx:=h1 0 x (by omega) rfl
  rw [List.filter_cons,zp hx,zqd,ih]
theorem S13:∀ {ls:List Nat} {listed:Array Bool} {s j:Nat},(∀ (a b x y:Nat),ls[a]?=some x→ls[b]?=some y→a < b→x < y)→ls[s]?=some j→listed.getD j false=false→j < listed.size→O5 ls (listed.setIfInBounds j true)=O5 ls listed+1
 | [],_,s,j,_,h,_,_=>by simp at h
 | x::r,listed,0,j,ho,h,hf,hj=>by
  simp only [List.getElem?_cons_zero,zqb] at h
  subst h
  have hr:x ∉ r:=fun hm=>by
   obtain ⟨k,hk⟩:=List.getElem?_of_mem hm
   have:=ho 0 (k+1) x x rfl (by simpa using hk) (by omega)
   omega
  have:=Vw (listed:=listed) hr
  unfold O5 at this ⊢
  rw [List.filter_cons,List.filter_cons,zp (by simp [hj]),zn (by rw [hf]; simp),zqd,this]
 | x::r,listed,s+1,j,ho,h,hf,hj=>by
  have hxj:x < j:=ho 0 (s+1) x j rfl h (by omega)
  have ih:=S13 (ls:=r) (listed:=listed) (s:=s) (j:=j) (fun a b x y h1 h2 h3=>ho (a+1) (b+1) x y (by simpa using h1) (by simpa using h2) (by omega)) (by simpa using h) hf hj
  unfold O5 at ih ⊢
  have hx:(listed.setIfInBounds j true).getD x false=listed.getD x false:=getD_set_ne false (by omega)
  rw [List.filter_cons,List.filter_cons,hx]
  split
  ·rw [zqd,zqd,ih]
  ·exact ih
def T13 (F:Fx)(L:List Oper)(ls:List Nat)(fs:List (Nat×Nat))(Hs:List I0)(i:Nat)(o:Oper)(env:Env)(x:A):Prop:=
 (ls.contains i=false∧Ji fs i=none∧∀ H∈Hs.drop (loN L ls i),∀ ps:List Nat,(∀ p∈ps,p∈unw L fs i)→Ds F.C L o env (L3 ps H) x)∨
 (∃ s H H',ls[s]?=some i∧Ji fs i=none∧F2 L env o=some true∧Hs[s]?=some H∧Hs[s+1]?=some H'∧∀ ps:List Nat,(∀ p∈ps,p∈unw L fs i)→Pq F L o env (L3 ps H) x (L3 ps H'))∨
 (∃ t cs p,Ji fs i=some p∧ls.contains i=false∧F2 L env o=some true∧P13 F L o env t cs∧(∀ H∈Hs.take (hiN L ls i+1),nth H p=some (.row cs t))∧x = .ref p 0)
theorem AS.outs {F:Fx}{L:List Oper}{ls:List Nat}{fs:List (Nat×Nat)}{Hs:List I0}{env:Env}{Q:Env→Prop}{n:Nat}(hn:n≤L.length)(h:AS F L ls fs Hs 0 0 (L.take n) env Q) :
  ∃ out:Nat→A,(∀ i o,i < n→L[i]?=some o→T13 F L ls fs Hs i o (N2 L env out (fun _=>true) i) (out i))∧Q (N2 L env out (fun _=>true) n):=by
 have key:∀ (m k s:Nat) (out0:Nat→A),k+m=n→(∀ i o,i < k→L[i]?=some o→T13 F L ls fs Hs i o (N2 L env out0 (fun _=>true) i) (out0 i))→
   AS F L ls fs Hs k s ((L.take n).drop k) (N2 L env out0 (fun _=>true) k) Q→
   ∃ out:Nat→A,(∀ i o,i < n→L[i]?=some o→T13 F L ls fs Hs i o (N2 L env out (fun _=>true) i) (out i))∧Q (N2 L env out (fun _=>true) n):=by
  intro m
  induction m with
  | zero=>
   intro k s out0 hk h0 hq
   have:k=n:=by omega
   subst this
   rw [List.drop_eq_nil_of_le (by simp; omega)] at hq
   exact ⟨out0,h0,hq⟩
  | succ m ih=>
   intro k s out0 hk h0 hq
   have hlt:k < n:=by omega
   have hkl:k < L.length:=by omega
   have e:(L.take n).drop k=L[k]::(L.take n).drop (k+1):=by
    rw [List.drop_eq_getElem_cons (by simp; omega)]
    simp
   rw [e] at hq
   have hko:L[k]?=some L[k]:=zqv hkl
   have go:∀ (x:A) (s':Nat),T13 F L ls fs Hs k L[k] (N2 L env out0 (fun _=>true) k) x→
     AS F L ls fs Hs (k+1) s' ((L.take n).drop (k+1)) (put (N2 L env out0 (fun _=>true) k) (L[k]).dst x) Q→
     ∃ out:Nat→A,(∀ i o,i < n→L[i]?=some o→T13 F L ls fs Hs i o (N2 L env out (fun _=>true) i) (out i))∧Q (N2 L env out (fun _=>true) n):=by
    intro x s' hst hrest
    let out1:Nat→A:=fun i=>if i=k then x else out0 i
    have hsame:∀ i,i≤k→N2 L env out1 (fun _=>true) i=N2 L env out0 (fun _=>true) i:=by
     intro i hi
     funext t
     simp only [N2]
     cases hl:N4 L (fun _=>true) t i with
     | none=>rfl
     | some j=>
      have:=(Pl hl).1
      simp only [out1]
      rw [zn (by omega)]
    refine ih (k+1) s' out1 (by omega) (fun i o hi ho=>?_) ?_
    ·by_cases hik:i=k
     ·subst hik
      rw [hko] at ho
      simp only [zqb] at ho
      subst ho
      rw [hsame i (zqr _)]
      simpa [out1] using hst
     ·rw [hsame i (by omega)]
      have:=h0 i o (by omega) ho
      simpa [out1,hik] using this
    ·rw [Uz hko,hsame k (zqr _)]
     simpa [out1] using hrest
   rcases hq with ⟨d,x,hd,hn1,hn2,hst,hrest⟩ | ⟨x,H,H',h1,hf,hw,h2,h3,hl,hrest⟩ | ⟨t,cs,p,hf,hn1,hw,hfl,hrow,hrest⟩
   ·exact go x s (.inl ⟨hn1,hn2,hst⟩) (by rw [hd]; exact hrest)
   ·rw [S3] at h1 h2 h3
    exact go x (s+1) (.inr (.inl ⟨s,H,H',h1,hf,hw,h2,h3,hl⟩)) hrest
   ·exact go _ s (.inr (.inr ⟨t,cs,p,hf,hn1,hw,hfl,hrow,rfl⟩)) hrest
 exact key n 0 0 (fun _=>.junk) (by omega) (fun i o hi=>by omega) (by simpa [Tz] using h)
def unf (listed:Array Bool):List (Nat×Nat)→List Nat
 | []=>[]
 | q::r=>bif listed.getD q.1 false then unf listed r else q.2::unf listed r
theorem Lj {listed:Array Bool}{p:Nat}:∀ {fs:List (Nat×Nat)},p∈unf listed fs ↔ ∃ q∈fs,q.2=p∧listed.getD q.1 false=false
 | []=>by simp [unf]
 | q::r=>by
  simp only [unf]
  cases hq:listed.getD q.1 false with
  | true=>
   simp only [zqk,Lj (fs:=r),List.mem_cons]
   constructor
   ·rintro ⟨x,h1,h2⟩; exact ⟨x,.inr h1,h2⟩
   ·rintro ⟨x,rfl | h1,h2⟩
    ·rw [hq] at h2; cases h2.2
    ·exact ⟨x,h1,h2⟩
  | false=>
   simp only [zql,List.mem_cons,Lj (fs:=r)]
   constructor
   ·rintro (rfl | ⟨x,h1,h2⟩)
    ·exact ⟨q,.inl rfl,rfl,hq⟩
    ·exact ⟨x,.inr h1,h2⟩
   ·rintro ⟨x,rfl | h1,h2⟩
    ·exact .inl h2.1.symm
    ·exact .inr ⟨x,h1,h2⟩
theorem H11 {L:List Oper}{j p:Nat}:∀ {fs:List (Nat×Nat)},p∈unw L fs j ↔ ∃ q∈fs,q.2=p∧Te L L.length j q.1=false
 | []=>by simp [unw]
 | q::r=>by
  simp only [unw]
  cases hq:Te L L.length j q.1 with
  | true=>
   simp only [zqk,H11 (fs:=r),List.mem_cons]
   constructor
   ·rintro ⟨x,h1,h2⟩; exact ⟨x,.inr h1,h2⟩
   ·rintro ⟨x,rfl | h1,h2⟩
    ·rw [hq] at h2; cases h2.2
    ·exact ⟨x,h1,h2⟩
  | false=>
   simp only [zql,List.mem_cons,H11 (fs:=r)]
   constructor
   ·rintro (rfl | ⟨x,h1,h2⟩)
    ·exact ⟨q,.inl rfl,rfl,hq⟩
    ·exact ⟨x,.inr h1,h2⟩
   ·rintro ⟨x,rfl | h1,h2⟩
    ·exact .inl h2.1.symm
    ·exact .inr ⟨x,h1,h2⟩
theorem E12 {j p:Nat}:∀ {fs:List (Nat×Nat)},Ji fs j=some p→(j,p)∈fs
 | [],h=>by cases h
 | q::r,h=>by
  simp only [Ji] at h
  cases hq:Nat.beq q.1 j with
  | true=>
   rw [hq] at h
   obtain rfl:=zqo hq
   simp only [zqk,zqb] at h
   subst h
   exact zqp
  | false=>rw [hq] at h; exact zqq _ (E12 h)
theorem Ww {j:Nat}:∀ {fs:List (Nat×Nat)},Ji fs j=none→∀ q∈fs,q.1≠j
 | [],_,q,hq=>by cases hq
 | x::r,h,q,hq=>by
  simp only [Ji] at h
  cases hx:Nat.beq x.1 j with
  | true=>rw [hx] at h; cases h
  | false=>
   rw [hx] at h
   cases hq with
   | head=>exact fun e=>by rw [e] at hx; simp at hx
   | tail _ hq=>exact Ww h q hq
theorem Wy {listed:Array Bool}{j:Nat}:∀ {fs:List (Nat×Nat)},(∀ q∈fs,q.1≠j)→unf (listed.setIfInBounds j true) fs=unf listed fs
 | [],_=>rfl
 | q::r,h=>by
  simp only [unf]
  rw [getD_set_ne false (Ne.symm (h q zqp)),Wy fun x hx=>h x (zqq _ hx)]
def U13 (fs:List (Nat×Nat))(n K N:Nat):Bool:=
 Lt (fs.map (·.1))&&Lt (fs.map (·.2))&&fs.all fun q=>Nat.blt q.1 n&&Nat.ble K q.2&&Nat.blt q.2 N
theorem R14 {fs:List (Nat×Nat)}{n K N:Nat}(h:U13 fs n K N=true):(∀ q∈fs,q.1 < n∧K≤q.2∧q.2 < N)∧∀ q∈fs,∀ q'∈fs,(q.1=q'.1∨q.2=q'.2)→q=q':=by
 simp only [U13,zqi,List.all_eq_true] at h
 obtain ⟨⟨h1,h2⟩,h3⟩:=h
 have k1:=Uj h1
 have k2:=Uj h2
 refine ⟨fun q hq=>⟨Nat.le_of_ble_eq_true (h3 q hq).1.1,Nat.le_of_ble_eq_true (h3 q hq).1.2,Nat.le_of_ble_eq_true (h3 q hq).2⟩,?_⟩
 have inj:∀ {f:Nat×Nat→Nat} {l:List (Nat×Nat)},(l.map f).Nodup→∀ q∈l,∀ q'∈l,f q=f q'→q=q':=by
  intro f l
  induction l with
  | nil=>intro _ q hq; cases hq
  | cons x r ih=>
   intro hnd q hq q' hq' he
   rw [List.map_cons,List.nodup_cons] at hnd
   cases hq with
   | head=>
    cases hq' with
    | head=>rfl
    | tail _ hq'=>exact absurd (by rw [he]; exact List.mem_map_of_mem hq') hnd.1
   | tail _ hq=>
    cases hq' with
    | head=>exact absurd (by rw [← he]; exact List.mem_map_of_mem hq) hnd.1
    | tail _ hq'=>exact ih hnd.2 q hq q' hq' he
 intro q hq q' hq' he
 rcases he with he | he
 ·exact inj k1 q hq q' hq' he
 ·exact inj k2 q hq q' hq' he
theorem St.fillRow {C:Cx}{N:FN}{M:Mem}{G:Nat→Value}{w:World}{env:Env}{H:I0}{a:Act}(h:St C N M G w env H a){dst:Option Nat}(hd:∀ d,dst=some d→d < N){cs:List A}{vs:Array Value}{elem:TypeId}{p:Nat}
  (hp:H[p]?=some .dead) (hg:G p = .tuple #[]) (hc:Qf M G cs vs) {H':I0} (hl:H'.length=H.length) (hH':∀ n,H'[n]?=if n=p then some (.row cs elem) else H[n]?) :
  St C N M (X5 G p (.pointer (some ⟨w.heap.size,0,none⟩))) (w.alloc (.cells vs elem)) (put env dst (.ref p 0)) H' (a.put dst (.pointer (some ⟨w.heap.size,0,none⟩))):=by
 have hmono:∀ {x:A} {v:Value},O1 M G x v→O1 M (X5 G p (.pointer (some ⟨w.heap.size,0,none⟩))) x v:=fun hr=>hr.mono (fun _ _ e=>e) fun o hn=>C3 (fun e=>hr.names hn (by rw [e]; exact hg))
 obtain ⟨h1,h2,h3⟩:=Vk (fun t=>hmono (h.env t)) h.size hd (x:=.ref p 0) (v:=.pointer (some ⟨w.heap.size,0,none⟩)) (.ref B4)
 have hpl:p < H.length:=(zqu.1 hp).1
 refine ⟨h.good.alloc _,h.gl.ext h.hrel (Cs Y6 _ _ _) (fun _ h=>h.elim),⟨fun o x ho=>?_,fun o o' x x' b ho ho' hb hb'=>?_,fun o ho=>?_⟩,h1,h2,h3.trans h.defers⟩
 ·rw [hH'] at ho
  by_cases hop:o=p
  ·rw [zp hop] at ho
   cases ho
   subst hop
   rw [B4]
   exact ⟨w.heap.size,vs,rfl,heap_alloc_new w _,Nat.le_of_eq hc.1,hc.2.1,fun i x v a b=>hmono (hc.2.2 i x v a b),fun off sp=>by
    cases hM:M ⟨w.heap.size,off,sp⟩ with
    | none=>rfl
    | some v=>have:=h.good.lt hM; simp at this⟩
  ·rw [zn hop] at ho
   rw [C3 hop]
   have hob:=h.hrel.obj o x ho
   have hk:Zg M G (w.alloc (.cells vs elem)) x (G o):=hob.keep (fun _ _ e=>e) (fun b hb=>heap_alloc_old w _ b (A9 hob hb)) (fun _ _ _ _ e=>e)
   cases x with
   | dead=>trivial
   | row cells e=>
    obtain ⟨b,us,g1,g2,g3,g4,g5,g6⟩:=hk
    exact ⟨b,us,g1,g2,g3,g4,fun i y v a c=>hmono (g5 i y v a c),g6⟩
   | tok e sz=>exact hk
   | map es=>
    obtain ⟨b,ms,cl,g1,g2,g3,g4,g5⟩:=hk
    exact ⟨b,ms,cl,g1,g2,g3,fun i k cs e a c=>⟨(g4 i k cs e a c).1,hmono (g4 i k cs e a c).2⟩,g5⟩
   | bld o' e=>
    obtain ⟨b,v0,g1,g2,g3,g4,g5⟩:=hk
    have ho':o'≠p:=fun e=>g4 (by rw [e]; exact hg)
    exact ⟨b,v0,g1,by rw [C3 ho']; exact g2,g3,by rw [C3 ho']; exact g4,g5⟩
   | buf e sz=>exact hk
 ·have key:∀ (o:Nat) x b,H'[o]?=some x→blk x (X5 G p (.pointer (some ⟨w.heap.size,0,none⟩)) o)=some b→(o≠p∧H[o]?=some x∧blk x (G o)=some b∧b < w.heap.size)∨(o=p∧b=w.heap.size):=by
   intro o x b ho hb
   rw [hH'] at ho
   by_cases hop:o=p
   ·rw [zp hop] at ho
    cases ho
    subst hop
    rw [B4] at hb
    simp [blk] at hb
    exact .inr ⟨rfl,hb.symm⟩
   ·rw [zn hop] at ho
    rw [C3 hop] at hb
    exact .inl ⟨hop,ho,hb,A9 (h.hrel.obj o x ho) hb⟩
  rcases key o x b ho hb with ⟨q1,q2,q3,q4⟩ | ⟨q1,q2⟩ <;> rcases key o' x' b ho' hb' with ⟨p1,p2,p3,p4⟩ | ⟨p1,p2⟩
  ·exact h.hrel.apart o o' x x' b q2 p2 q3 p3
  ·omega
  ·omega
  ·omega
 ·rw [hl] at ho
  rw [C3 (by omega)]
  exact h.hrel.fresh o ho
theorem P2.fillRow {fr:Fr}{M:Mem}{G:Nat→Value}{w:World}{H:I0}(h:P2 fr M G w H){cs:List A}{vs:Array Value}{elem:TypeId}{p:Nat}(hK:fr.H0.length≤p)(hpl:p < H.length){H':I0}(hl:H'.length=H.length)
  (hH':∀ n,H'[n]?=if n=p then some (.row cs elem) else H[n]?):P2 fr M (X5 G p (.pointer (some ⟨w.heap.size,0,none⟩))) (w.alloc (.cells vs elem)) H':=by
 have hne:∀ {o:Nat} {x:Ob},fr.H0[o]?=some x→o≠p:=fun ho e=>by have:=(zqu.1 ho).1; omega
 refine ⟨h.ext.trans (Cs Y6 _ _ _) (fun _ h=>h.elim),fun b hb=>?_,by rw [hl]; exact h.len,fun o x ho ht=>?_,fun o x y ho ht hy=>?_⟩
 ·obtain ⟨o,x,ho,hx⟩:=hb
  rw [hH'] at ho
  by_cases hop:o=p
  ·rw [zp hop] at ho
   cases ho
   subst hop
   rw [B4] at hx
   simp [blk] at hx
   subst hx
   exact .inr h.ext.size
  ·rw [zn hop] at ho
   rw [C3 hop] at hx
   exact h.own b ⟨o,x,ho,hx⟩
 ·rw [C3 (hne ho)]
  exact h.keep o x ho ht
 ·rw [hH',zn (hne ho)] at hy
  exact h.kind o x y ho ht hy
theorem St.pad {C:Cx}{N:FN}{M:Mem}{G:Nat→Value}{w:World}{env:Env}{H:I0}{a:Act}(h:St C N M G w env H a)(k:Nat):St C N M G w env (H++List.replicate k .dead) a:=by
 have get:∀ (o:Nat) x,(H++List.replicate k Ob.dead)[o]?=some x→H[o]?=some x∨x = .dead:=fun o x ho=>by
  by_cases hlt:o < H.length
  ·rw [zqx hlt] at ho; exact .inl ho
  ·rw [List.getElem?_append_right (by omega),List.getElem?_replicate] at ho
   split at ho
   ·cases ho; exact .inr rfl
   ·cases ho
 refine ⟨h.good,h.gl,⟨fun o x ho=>?_,fun o o' x x' b ho ho' hb hb'=>?_,fun o ho=>h.hrel.fresh o (by simp at ho; omega)⟩,h.env,h.size,h.defers⟩
 ·rcases get o x ho with h1 | rfl
  ·exact h.hrel.obj o x h1
  ·trivial
 ·rcases get o x ho with h1 | rfl
  ·rcases get o' x' ho' with h2 | rfl
   ·exact h.hrel.apart o o' x x' b h1 h2 hb hb'
   ·simp [blk] at hb'
  ·simp [blk] at hb
theorem P2.pad {fr:Fr}{M:Mem}{G:Nat→Value}{w:World}{H:I0}(h:P2 fr M G w H)(k:Nat):P2 fr M G w (H++List.replicate k .dead):=by
 refine ⟨h.ext,fun b hb=>?_,by simp; have:=h.len; omega,h.keep,fun o x y ho ht hy=>?_⟩
 ·obtain ⟨o,x,ho,hx⟩:=hb
  by_cases hlt:o < H.length
  ·rw [zqx hlt] at ho; exact h.own b ⟨o,x,ho,hx⟩
  ·rw [List.getElem?_append_right (by omega),List.getElem?_replicate] at ho
   split at ho
   ·cases ho; simp [blk] at hx
   ·cases ho
 ·have hlt:o < H.length:=Nat.lt_of_lt_of_le (zqu.1 ho).1 h.len
  rw [zqx hlt] at hy
  exact h.kind o x y ho ht hy
theorem P2.step {fr:Fr}{M M':Mem}{G G':Nat→Value}{w w':World}{H H':I0}(h:P2 fr M G w H)(h':P2 ⟨H,G,M,w⟩ M' G' w' H'):P2 fr M' G' w' H':=by
 refine ⟨h.ext.trans h'.ext (fun b hb=>h.own b hb),fun b hb=>?_,Nat.le_trans h.len h'.len,fun o x ho ht=>?_,fun o x y ho ht hy=>?_⟩
 ·rcases h'.own b hb with h1 | h1
  ·exact h.own b h1
  ·exact .inr (Nat.le_trans h.ext.size h1)
 ·have hlt:o < H.length:=Nat.lt_of_lt_of_le (zqu.1 ho).1 h.len
  have hz:=zqv hlt
  exact (h'.keep o _ hz (h.kind o x _ ho ht hz)).trans (h.keep o x ho ht)
 ·have hlt:o < H.length:=Nat.lt_of_lt_of_le (zqu.1 ho).1 h.len
  have hz:=zqv hlt
  exact h'.kind o _ y hz (h.kind o x _ ho ht hz) hy
theorem P2.refl {M:Mem}{G:Nat→Value}{w:World}{H:I0}:P2 ⟨H,G,M,w⟩ M G w H:=
 ⟨Ext.refl _ _ _,fun _ hb=>.inl hb,zqr _,fun _ _ _ _=>rfl,fun o x y ho ht hy=>by
  have:x=y:=Option.some.inj (ho.symm.trans hy)
  rwa [← this]⟩
theorem F12 {listed:Array Bool}{fs:List (Nat×Nat)}(h:∀ q∈fs,listed.getD q.1 false=true):unf listed fs=[]:=by
 rw [List.eq_nil_iff_forall_not_mem]
 intro p hp
 obtain ⟨q,hq,_,hf⟩:=Lj.1 hp
 rw [h q hq] at hf
 cases hf
theorem AEx.drawL {F:Fx}(hC:T3 F.C){id:Nat}{L:List Oper}{env:Env}{H:I0}{Q:Po}(n:Nat)(ls:List Nat)(fs:List (Nat×Nat))(Hs:List I0)(hd:L.all (Q9 F.N)=true)(hok:Ow L n=true)(hnl:Nat.ble n L.length=true)(hlo:Q13 L ls n=true)
  {H0:I0} (hH0:nth Hs 0=some H0) (hfo:U13 fs n H.length H0.length=true) (hpad:L3 (fs.map (·.2)) H0=H++List.replicate fs.length .dead) (hll:(Hs.all fun K=>Nat.ble H0.length K.length)=true) (hHl:Hs.length=ls.length+1) {Hm:I0} (hHm:nth Hs ls.length=some Hm)
  (h:AS F L ls fs Hs 0 0 (L.take n) env (fun env'=>C0 F L (L.drop n) env' Hm (Dk Q))):AEx F (.region id L.toArray true) env H Q:=by
 obtain ⟨hfl,hfu⟩:=R14 hfo
 have hn:=Nat.le_of_ble_eq_true hnl
 have hdst:∀ (i:Nat) o,L[i]?=some o→Q9 F.N o=true:=fun i o ho=>List.all_eq_true.1 hd o (List.mem_of_getElem? ho)
 obtain ⟨out,houts,hQ⟩:=h.outs hn
 obtain ⟨hback,hwait⟩:=Ly hok
 obtain ⟨hln,hlw⟩:=Q14 hlo
 let Hf:Nat→I0:=fun k=>(Hs[k]?).getD []
 have hHf:∀ k,k≤ls.length→Hs[k]?=some (Hf k):=fun k hk=>by
  have hlt:k < Hs.length:=by omega
  simp only [Hf,zqv hlt,Option.getD_some]
 rw [S3] at hH0 hHm
 have hf0:Hf 0=H0:=by simp only [Hf,hH0,Option.getD_some]
 have hfm:Hf ls.length=Hm:=by simp only [Hf,hHm,Option.getD_some]
 have hlen:∀ k,k≤ls.length→∀ p,p < H0.length→p < (Hf k).length:=fun k hk p hp=>by
  have:=Nat.le_of_ble_eq_true (List.all_eq_true.1 hll _ (List.mem_of_getElem? (hHf k hk)))
  omega
 intro fr M G w act hK hs hsi
 have hbase:=hsi.len
 let Qw:Exit→Act→World→Prop:=Fin F fr Q
 have hsz:L.toArray.size=L.length:=by simp
 have tail:∀ (m k:Nat) (listed:Array Bool) (a:Act) (w:World),k+m=L.length→n≤k→Wx L n listed→(∀ i,i < k→listed.getD i false=true)→(∀ i,k≤i→i < L.length→listed.getD i true=false)→
   wpList F.C.P L.toArray Qw (L.drop k) a w→wpAny F.C.P .any L.toArray Qw m listed a w:=by
  intro m
  induction m with
  | zero=>
   intro k listed a w hk _ hD h1 _ hw
   have hk':k=L.length:=by omega
   have hready:Region.ready .any L.toArray listed=[]:=by
    rw [List.eq_nil_iff_forall_not_mem]
    intro j hj
    obtain ⟨hu,o,ho,_⟩:=mem_ready.1 hj
    have hj':j < L.length:=by simpa using (Array.getElem?_eq_some_iff.1 ho).1
    have:=h1 j (by omega)
    rw [B9 hu] at this
    cases this
   rw [List.drop_eq_nil_of_le (by omega)] at hw
   exact ⟨hready,hw⟩
  | succ m ih=>
   intro k listed a w hk hnk hD h1 h2 hw
   have hkl:k < L.length:=by omega
   have hko:L[k]?=some L[k]:=zqv hkl
   have hkr:k∈Region.ready .any L.toArray listed:=mem_ready.2 ⟨h2 k (zqr _) hkl,L[k],(by simp [hkl]),fun e he hb=>h1 e.on (hback k _ hko e he hb)⟩
   refine ⟨fun h0=>(by rw [h0] at hkr; cases hkr),fun j hj=>?_⟩
   obtain ⟨hu,o,ho,hall⟩:=mem_ready.1 hj
   have hjl:j < L.length:=by simpa using (Array.getElem?_eq_some_iff.1 ho).1
   have hjk:j=k:=by
    rcases Nat.lt_trichotomy j k with hlt | he | hgt
    ·have:=h1 j hlt; rw [B9 hu] at this; cases this
    ·exact he
    ·have hw':=hwait k j hgt hjl (.inr (by omega))
     have:=Rb hD.closed (by simpa using ho) (fun e he hb=>hall e he hb) L.length k hw'
     rw [B9 (h2 k (zqr _) hkl)] at this
     cases this
   subst hjk
   rw [List.drop_eq_getElem_cons hkl] at hw
   have hwp:wpOp F.C.P L.toArray Qw j (wpList F.C.P L.toArray Qw (L.drop (j+1))) a w:=by
    unfold wpOp
    simp only [List.getElem?_toArray,hko]
    exact hw
   refine wpOp_mono (fun a' w' hw'=>ih (j+1) _ a' w' (by omega) (by omega) ⟨by simp [hD.size],fun i o' ho' hl e he hb=>?_⟩ (fun i hi=>?_) (fun i hi hi'=>?_) hw') hwp
   ·by_cases hij:j=i
    ·subst hij
     have:o'=o:=Option.some.inj (ho'.symm.trans (by simpa using ho))
     subst this
     exact getD_set_true (hall e he hb)
    ·rw [getD_set_ne false hij] at hl
     exact getD_set_true (hD.closed i o' ho' hl e he hb)
   ·by_cases hij:j=i
    ·subst hij
     simp [hD.size,hkl]
    ·rw [getD_set_ne false hij]
     exact h1 i (by omega)
   ·rw [getD_set_ne true (by omega)]
    exact h2 i (by omega) hi'
 have head:∀ (m:Nat) (listed:Array Bool) (M:Mem) (G:Nat→Value) (w:World) (a:Act),listed.toList.count true+m=L.length→Wx L n listed→(∀ i,n≤i→i < L.length→listed.getD i true=false)→
   (∀ p∈unf listed fs,G p = .tuple #[])→St F.C F.N M G w (N2 L env out (fun i=>listed.getD i false) n) (L3 (unf listed fs) (Hf (O5 ls listed))) a→P2 fr M G w (L3 (unf listed fs) (Hf (O5 ls listed)))→wpAny F.C.P .any L.toArray Qw m listed a w:=by
  intro m
  induction m with
  | zero=>
   intro listed M G w a hm hD htl hem hs hsi
   have hall:=Vz hD.size (by omega)
   have hnL:n=L.length:=by
    rcases Nat.lt_or_ge n L.length with h' | h'
    ·have:=hall n h'
     rw [B9 (htl n (zqr _) h')] at this
     cases this
    ·omega
   have henv:N2 L env out (fun i=>listed.getD i false) n=N2 L env out (fun _=>true) n:=by
    funext t
    simp only [N2]
    rw [C6 fun i hi _=>hall i (by omega)]
   have hc:O5 ls listed=ls.length:=R13 fun l hl=>hall l (by have:=hln l hl; omega)
   rw [hc,hfm,F12 fun q hq=>hall q.1 (by have:=(hfl q hq).1; omega),O13] at hs hsi
   rw [henv] at hs
   refine tail 0 n listed a w (by omega) (zqr _) hD (fun i hi=>hall i (by omega)) (fun i h1 h2=>by omega) ?_
   exact hQ fr M G w a Qw hK (fun o ho=>List.all_eq_true.1 hd o (List.mem_of_mem_drop ho)) hs hsi Rz
  | succ m ih=>
   intro listed M G w a hm hD htl hem hs hsi
   by_cases hdone:∀ i,i < n→listed.getD i false=true
   ·
    have henv:N2 L env out (fun i=>listed.getD i false) n=N2 L env out (fun _=>true) n:=by
     funext t
     simp only [N2]
     rw [C6 fun i hi _=>hdone i hi]
    have hc:O5 ls listed=ls.length:=R13 fun l hl=>hdone l (hln l hl)
    rw [hc,hfm,F12 fun q hq=>hdone q.1 (hfl q hq).1,O13] at hs hsi
    rw [henv] at hs
    have hcount:listed.toList.count true=n:=by
     have hl:listed.toList=List.replicate n true++List.replicate (L.length - n) false:=by
      apply List.ext_getElem?
      intro i
      by_cases hi:i < n
      ·have hv:=hdone i hi
       have hi':i < listed.size:=by rw [hD.size]; omega
       rw [zqx (by simpa using hi),List.getElem?_replicate,zp hi,Array.getElem?_toList]
       simpa [hi'] using hv
      ·by_cases hi2:i < L.length
       ·have hv:=htl i (by omega) hi2
        have hi':i < listed.size:=by rw [hD.size]; omega
        rw [List.getElem?_append_right (by simp; omega),List.getElem?_replicate,zp (by simp; omega),Array.getElem?_toList]
        simpa [hi'] using hv
       ·rw [List.getElem?_eq_none (by simp [hD.size]; omega),List.getElem?_eq_none (by simp; omega)]
     rw [hl,List.count_append,List.count_replicate,List.count_replicate]
     simp
    refine tail (m+1) n listed a w (by omega) (zqr _) hD hdone htl ?_
    exact hQ fr M G w a Qw hK (fun o ho=>List.all_eq_true.1 hd o (List.mem_of_mem_drop ho)) hs hsi Rz
   ·
    have hex:∃ i,i < n∧listed.getD i false=false∧∀ k,k < i→listed.getD k false=true:=by
     have:∃ i,i < n∧listed.getD i false=false:=by
      rcases Classical.em (∃ i,i < n∧listed.getD i false=false) with h' | h'
      ·exact h'
      ·refine absurd (fun i hi=>?_) hdone
       cases hv:listed.getD i false with
       | true=>rfl
       | false=>exact absurd ⟨i,hi,hv⟩ h'
     obtain ⟨i,hi⟩:=this
     induction i using Nat.strongRecOn with
     | _ i ihi=>
      by_cases hk:∃ k,k < i∧listed.getD k false=false
      ·obtain ⟨k,hk1,hk2⟩:=hk
       exact ihi k hk1 ⟨by omega,hk2⟩
      ·refine ⟨i,hi.1,hi.2,fun k hk'=>?_⟩
       cases hv:listed.getD k false with
       | true=>rfl
       | false=>exact absurd ⟨k,hk',hv⟩ hk
    obtain ⟨i0,hi0,hu0,hbelow⟩:=hex
    have hi0l:i0 < L.length:=by omega
    have hi0o:L[i0]?=some L[i0]:=zqv hi0l
    have hu0':listed.getD i0 true=false:=by
     have hi':i0 < listed.size:=by rw [hD.size]; omega
     simpa [hi'] using hu0
    have hr0:i0∈Region.ready .any L.toArray listed:=mem_ready.2 ⟨hu0',L[i0],(by simp [hi0l]),fun e he hb=>hbelow e.on (hback i0 _ hi0o e he hb)⟩
    refine ⟨fun h0=>(by rw [h0] at hr0; cases hr0),fun j hj=>?_⟩
    obtain ⟨hu,o,ho,hall⟩:=mem_ready.1 hj
    have hoL:L[j]?=some o:=by simpa using ho
    have hjl:j < L.length:=(zqu.1 hoL).1
    have hjn:j < n:=by
     rcases Nat.lt_or_ge j n with h' | h'
     ·exact h'
     ·have hw':=hwait i0 j (by omega) hjl (.inr h')
      have:=Rb hD.closed hoL (fun e he hb=>hall e he hb) L.length i0 hw'
      rw [hu0] at this
      cases this
    have hclash:∀ k,k≠j→k < L.length→(Qb L k j=true∨Qb L j k=true)→(listed.getD k false=true ↔ k < j):=by
     intro k hkj hkl hc
     rcases Nat.lt_or_ge k j with hlt | hge
     ·refine ⟨fun _=>hlt,fun _=>?_⟩
      have hcc:Qb L k j=true:=by
       rcases hc with hc | hc
       ·exact hc
       ·exact Fq hc
      exact Rb hD.closed hoL (fun e he hb=>hall e he hb) L.length k (hwait k j hlt hjl (.inl hcc))
     ·refine ⟨fun hl=>?_,fun h'=>by omega⟩
      have hcc:Qb L j k=true:=by
       rcases hc with hc | hc
       ·exact Fq hc
       ·exact hc
      have:=Ag hD.closed L.length k j (hwait j k (by omega) hkl (.inl hcc)) hl
      rw [B9 hu] at this
      cases this
    have hread:∀ t∈R6 L o,N2 L env out (fun i=>listed.getD i false) n t=N2 L env out (fun _=>true) j t:=by
     intro t ht
     have hw:∀ k,k≠j→(L[k]?).bind (·.dst)=some t→Qb L k j=true:=by
      intro k hkj hk
      unfold Qb
      simp only [S3,hoL]
      cases hk':L[k]? with
      | none=>rw [hk'] at hk; cases hk
      | some p=>
       rw [hk'] at hk
       simp only [Option.bind_some] at hk
       simp only [hk]
       have:(R6 L o).contains t=true:=by simpa using ht
       rw [this]
       simp
     have hlt:∀ k,(L[k]?).bind (·.dst)=some t→k < L.length:=by
      intro k hk
      cases hk':L[k]? with
      | none=>rw [hk'] at hk; cases hk
      | some p=>exact (zqu.1 hk').1
     simp only [N2]
     have e1:N4 L (fun i=>listed.getD i false) t n=N4 L (fun i=>decide (i < j)) t n:=C6 fun k hk hkd=>by
      by_cases hkj:k=j
      ·subst hkj
       simp [B9 hu]
      ·have:=hclash k hkj (hlt k hkd) (.inl (hw k hkj hkd))
       cases hb:listed.getD k false with
       | true=>simp [this.1 hb]
       | false=>
        have:¬ k < j:=fun h'=>by rw [this.2 h'] at hb; cases hb
        simp [this]
     have e2:N4 L (fun i=>decide (i < j)) t n=N4 L (fun i=>decide (i < j)) t j:=Qo (by omega) fun k h1 h2 _=>by simp; omega
     have e3:N4 L (fun i=>decide (i < j)) t j=N4 L (fun _=>true) t j:=C6 fun k hk _=>by simp [hk]
     rw [e1,e2,e3]
    have hafter:N2 L env out (fun i=>(listed.setIfInBounds j true).getD i false) n=put (N2 L env out (fun i=>listed.getD i false) n) o.dst (out j):=by
     have hjs:j < listed.size:=by rw [hD.size]; exact hjl
     have N9:∀ k,(listed.setIfInBounds j true).getD k false=(decide (k=j)||listed.getD k false):=by
      intro k
      by_cases hk:j=k
      ·subst hk; simp [hjs]
      ·rw [getD_set_ne false hk]
       have:¬ k=j:=fun h'=>hk h'.symm
       simp [this]
     funext t
     simp only [N2,N9]
     cases hdo:o.dst with
     | none=>
      have:N4 L (fun i=>decide (i=j)||listed.getD i false) t n=N4 L (fun i=>listed.getD i false) t n:=C6 fun k hk hkd=>by
       have:k≠j:=fun h'=>by subst h'; rw [hoL] at hkd; simp [hdo] at hkd
       simp [this]
      rw [this]
      rfl
     | some d=>
      simp only [put,upd]
      by_cases htd:t=d
      ·subst htd
       have hbt:Nat.beq t t=true:=by simp
       rw [hbt,_root_.cond_true]
       have e1:N4 L (fun i=>decide (i=j)||listed.getD i false) t n=N4 L (fun i=>decide (i=j)||listed.getD i false) t (j+1):=Qo (by omega) fun k h1 h2 hkd=>by
        have hkj:k≠j:=by omega
        have hcl:Qb L k j=true:=by
         unfold Qb
         cases hk':L[k]? with
         | none=>rw [hk'] at hkd; cases hkd
         | some p=>
          rw [hk'] at hkd
          simp only [Option.bind_some] at hkd
          simp only [S3,hoL,hk',hkd,hdo]
          simp
        have:=hclash k hkj (by omega) (.inl hcl)
        cases hb:listed.getD k false with
        | false=>simp [hkj]
        | true=>have:=this.1 hb; omega
       rw [e1]
       simp [N4,hoL,hdo]
      ·have:Nat.beq t d=false:=by
        cases hb:Nat.beq t d with
        | false=>rfl
        | true=>exact absurd (zqo hb) htd
       rw [this,_root_.cond_false]
       have:N4 L (fun i=>decide (i=j)||listed.getD i false) t n=N4 L (fun i=>listed.getD i false) t n:=C6 fun k hk hkd=>by
        have:k≠j:=fun h'=>by subst h'; rw [hoL] at hkd; simp [hdo] at hkd; exact htd hkd.symm
        simp [this]
       rw [this]
       rfl
    have hD':Wx L n (listed.setIfInBounds j true):=⟨by simp [hD.size],fun i o' ho' hl e he hb=>by
     by_cases hij:j=i
     ·subst hij
      have:o'=o:=Option.some.inj (ho'.symm.trans hoL)
      subst this
      exact getD_set_true (hall e he hb)
     ·rw [getD_set_ne false hij] at hl
      exact getD_set_true (hD.closed i o' ho' hl e he hb)⟩
    have htl':∀ i,n≤i→i < L.length→(listed.setIfInBounds j true).getD i true=false:=fun i h1 h2=>by
     rw [getD_set_ne true (by omega)]
     exact htl i h1 h2
    have hcnt:(listed.setIfInBounds j true).toList.count true+m=L.length:=by rw [count_set hu]; omega
    have hwcongr:F2 L (N2 L env out (fun i=>listed.getD i false) n) o=F2 L (N2 L env out (fun _=>true) j) o:=Zh hread
    have hev:∀ y∈o.op.operands,ev F.C.GL (N2 L env out (fun i=>listed.getD i false) n) y=ev F.C.GL (N2 L env out (fun _=>true) j) y:=by
     intro y hy
     refine An fun t ht=>hread t ?_
     subst ht
     simp only [R6,List.mem_append,List.mem_filterMap]
     exact .inl ⟨.tmp t,by simpa using hy,rfl⟩
    have hjs:j < listed.size:=by rw [hD.size]; exact hjl
    have hunw:∀ p∈unf listed fs,p∈unw L fs j:=fun p hp=>by
     obtain ⟨q,hq,he,hf⟩:=Lj.1 hp
     refine H11.2 ⟨q,hq,he,?_⟩
     cases hb:Te L L.length j q.1 with
     | false=>rfl
     | true=>rw [Rb hD.closed hoL (fun e he hb=>hall e he hb) L.length q.1 hb] at hf; cases hf
    rcases houts j o hjn hoL with ⟨hnl',hfp,hq⟩ | ⟨s,H1,H2,hs1,hfp,hw,hs2,hs3,hl⟩ | ⟨t,cs,p,hfp,hnl',hw,hfl',hrow,hx⟩
    ·have hcs:O5 ls (listed.setIfInBounds j true)=O5 ls listed:=Vw (by simpa using hnl')
     have hus:unf (listed.setIfInBounds j true) fs=unf listed fs:=Wy (Ww hfp)
     have hlo':loN L ls j≤O5 ls listed:=by
      unfold loN O5
      rw [← List.countP_eq_length_filter,← List.countP_eq_length_filter]
      exact List.countP_mono_left fun l _ hl=>Rb hD.closed hoL (fun e he hb=>hall e he hb) L.length l hl
     have hle:O5 ls listed≤ls.length:=List.length_filter_le _ _
     have hmem:Hf (O5 ls listed)∈Hs.drop (loN L ls j):=by
      refine List.mem_of_getElem? (i:=O5 ls listed - loN L ls j) ?_
      rw [List.getElem?_drop,show loN L ls j+(O5 ls listed - loN L ls j)=O5 ls listed by omega]
      exact hHf _ hle
     unfold wpOp
     simp only [List.getElem?_toArray,hoL]
     rcases hq _ hmem _ hunw with ⟨hw,hy⟩ | ⟨hw,hx⟩
     ·rw [Mb hs (hwcongr.trans hw)]
      simp only [zt]
      refine .inl (hy M G w a _ Qw (fun y hyo=>by rw [← hev y hyo]; exact hs.eval y) hs.good hs.gl hs.hrel fun v M' w' h1 h2 h3=>?_)
      refine ih _ M' G w' _ hcnt hD' htl' (by rw [hus]; exact hem) ?_ (by rw [hcs,hus]; exact hsi.quiet h3)
      rw [hafter,hcs,hus]
      exact hs.quiet (Y4 (hdst j o hoL)) h1 h2 h3
     ·rw [Mb hs (hwcongr.trans hw)]
      simp only [zqa,zw]
      refine ih _ M G w _ hcnt hD' htl' (by rw [hus]; exact hem) ?_ (by rw [hcs,hus]; exact hsi)
      rw [hafter,hx,hcs,hus]
      exact hs.quiet (Y4 (hdst j o hoL)) (.tup rfl fun i x v h=>by simp at h) hs.good (Ext.refl _ _ _)
    ·have hsj:ls[s]?=some j:=hs1
     have hcs:O5 ls listed=s:=G15 hsj (fun k l hk hl=>Rb hD.closed hoL (fun e he hb=>hall e he hb) L.length l (hlw s k j l hsj hl hk).2) (fun k l hk hl=>by
      cases hv:listed.getD l false with
      | false=>rfl
      | true=>
       rcases Nat.lt_or_ge s k with hlt | hge
       ·have:=Ag hD.closed L.length l j (hlw k s l j hl hsj hlt).2 hv
        rw [B9 hu] at this; cases this
       ·have:k=s:=by omega
        subst this
        rw [hsj] at hl
        cases hl
        rw [B9 hu] at hv; cases hv)
     have hcs':O5 ls (listed.setIfInBounds j true)=s+1:=by rw [← hcs]; exact S13 (fun a b x y h1 h2 h3=>by have:=(hlw b a y x h2 h1 h3).1; omega) hsj (B9 hu) hjs
     have hsl:s < ls.length:=(zqu.1 hsj).1
     have e1:Hf s=H1:=Option.some.inj ((hHf s (by omega)).symm.trans hs2)
     have e2:Hf (s+1)=H2:=Option.some.inj ((hHf (s+1) (by omega)).symm.trans hs3)
     have hus:unf (listed.setIfInBounds j true) fs=unf listed fs:=Wy (Ww hfp)
     rw [hcs,e1] at hs hsi
     have hop:=hl _ hunw (N2 L env out (fun i=>listed.getD i false) n) (L3 (unf listed fs) H1).length hread (fun e h=>e=N2 L env out (fun i=>(listed.setIfInBounds j true).getD i false) n∧h=L3 (unf listed fs) H2) ⟨hafter.symm,rfl⟩
     let Qw':Exit→Act→World→Prop:=fun e a w=>match e with
      | .normal=>wpAny F.C.P .any L.toArray Qw m (listed.setIfInBounds j true) a w
      | e=>Fin F fr Q e a w
     have:=hop ⟨L3 (unf listed fs) H1,G,M,w⟩ M G w a Qw' rfl (fun o' ho'=>by
      rw [List.mem_singleton] at ho'
      subst ho'
      exact hdst j _ hoL) hs .refl ⟨fun env' H' M' G' w' a' hq hs' hsi'=>by
       obtain ⟨rfl,rfl⟩:=hq
       refine ih _ M' G' w' a' hcnt hD' htl' (by
        rw [hus]
        intro p hp
        obtain ⟨q,hq1,hq2,hq3⟩:=Lj.1 hp
        have hlt:p < (L3 (unf listed fs) H1).length:=by
         rw [C7,← e1]
         exact hlen s (by omega) p (hq2 ▸ (hfl q hq1).2.2)
        have hdead:(L3 (unf listed fs) H1)[p]?=some .dead:=by
         rw [C7] at hlt
         rw [Y8,zqv hlt]
         have:(unf listed fs).contains p=true:=by simpa using hp
         simp only [zqt,this,_root_.cond_true]
        exact (hsi'.keep p _ hdead rfl).trans (hem p hp)) ?_ ?_
       ·rw [hcs',e2,hus]; exact hs'
       ·rw [hcs',e2,hus]; exact hsi.step hsi',fun _ _ _ _ _ _ _ h=>h.elim⟩
     simp only [wpList] at this
     unfold wpOp
     simp only [List.getElem?_toArray,hoL]
     have hout:LetsOut Qw'→LetsOut (Fin F fr Q):=fun ⟨a,w,h⟩=>⟨a,w,h⟩
     split
     ·rename_i hw
      rw [zp hw] at this
      rcases this with h1 | ⟨h1,h2⟩
      ·exact .inl (Z11 (fun c a w h=>h) hout h1)
      ·exact .inr ⟨h1,hout h2⟩
     ·rename_i hw
      rw [zn hw] at this
      exact this
    ·have hcs:O5 ls (listed.setIfInBounds j true)=O5 ls listed:=Vw (by simpa using hnl')
     have hle:O5 ls listed≤ls.length:=List.length_filter_le _ _
     have hjp:=E12 hfp
     obtain ⟨f1,f2,f3⟩:=hfl _ hjp
     have hhi:O5 ls listed≤hiN L ls j:=by
      unfold hiN O5
      rw [← List.countP_eq_length_filter,← List.countP_eq_length_filter]
      refine List.countP_mono_left fun l _ hl=>?_
      cases hb:Te L L.length l j with
      | false=>rfl
      | true=>
       have:=Ag hD.closed L.length l j hb hl
       rw [B9 hu] at this; cases this
     have hmem:Hf (O5 ls listed)∈Hs.take (hiN L ls j+1):=by
      refine List.mem_of_getElem? (i:=O5 ls listed) ?_
      rw [List.getElem?_take,zp (by omega)]
      exact hHf _ hle
     have hr:=hrow _ hmem
     rw [S3] at hr
     have hpu:p∈unf listed fs:=Lj.2 ⟨_,hjp,rfl,B9 hu⟩
     have hbef:(L3 (unf listed fs) (Hf (O5 ls listed)))[p]?=some .dead:=by
      rw [Y8,hr]
      have:(unf listed fs).contains p=true:=by simpa using hpu
      simp only [zqt,this,_root_.cond_true]
     have hmemu:∀ r,r∈unf (listed.setIfInBounds j true) fs ↔ r∈unf listed fs∧r≠p:=by
      intro r
      rw [Lj,Lj]
      constructor
      ·rintro ⟨q,q1,q2,q3⟩
       have hne:j≠q.1:=fun e=>by rw [← e] at q3; simp [hjs] at q3
       rw [getD_set_ne false hne] at q3
       exact ⟨⟨q,q1,q2,q3⟩,fun e=>hne (by rw [hfu q q1 _ hjp (.inr (by rw [q2,e]))])⟩
      ·rintro ⟨⟨q,q1,q2,q3⟩,hne⟩
       refine ⟨q,q1,q2,?_⟩
       rw [getD_set_ne false fun e=>hne (by rw [← q2,hfu q q1 _ hjp (.inl e.symm)])]
       exact q3
     have haft:∀ r,(L3 (unf (listed.setIfInBounds j true) fs) (Hf (O5 ls listed)))[r]?=if r=p then some (.row cs t) else (L3 (unf listed fs) (Hf (O5 ls listed)))[r]?:=by
      intro r
      rw [Y8,Y8]
      by_cases hrp:r=p
      ·subst hrp
       rw [zp rfl,hr]
       have:(unf (listed.setIfInBounds j true) fs).contains r=false:=by
        cases hb:(unf (listed.setIfInBounds j true) fs).contains r with
        | false=>rfl
        | true=>exact absurd rfl ((hmemu r).1 (by simpa using hb)).2
       simp only [zqt,this,_root_.cond_false]
      ·rw [zn hrp]
       have:(unf (listed.setIfInBounds j true) fs).contains r=(unf listed fs).contains r:=by
        rw [Bool.eq_iff_iff]
        simp only [List.contains_iff_mem,hmemu r]
        exact ⟨fun h=>h.1,fun h=>⟨h,hrp⟩⟩
       rw [this]
     obtain ⟨vs,hv,hrun⟩:=hfl' _ _ M G w a hread hs
     have hd':∀ d,o.dst=some d→d < F.N:=Y4 (hdst j o hoL)
     unfold wpOp
     simp only [List.getElem?_toArray,hoL]
     rw [Mb hs (hwcongr.trans hw)]
     simp only [zt]
     refine .inl ?_
     unfold Oper.wp
     rw [hrun]
     refine ih _ M (X5 G p (.pointer (some ⟨w.heap.size,0,none⟩))) (w.alloc (.cells vs t)) _ hcnt hD' htl' (fun r hr'=>?_) ?_ ?_
     ·obtain ⟨r1,r2⟩:=(hmemu r).1 hr'
      rw [C3 r2]
      exact hem r r1
     ·rw [hafter,hcs,hx]
      exact hs.fillRow hd' hbef (hem p hpu) hv (by rw [C7,C7]) haft
     ·rw [hcs]
      exact hsi.fillRow (cs:=cs) (p:=p) (by omega) (zqu.1 hbef).1 (by rw [C7,C7]) haft
 refine wp_region_any hC.mixed ?_
 have h0:∀ i,(Array.replicate L.toArray.size false).getD i false=false:=fun i=>by
  rcases Nat.lt_or_ge i L.length with h' | h' <;> simp [h']
 have hc0:O5 ls (Array.replicate L.toArray.size false)=0:=L17 h0
 have hu0:unf (Array.replicate L.toArray.size false) fs=fs.map (·.2):=by
  have:∀ fs:List (Nat×Nat),unf (Array.replicate L.toArray.size false) fs=fs.map (·.2):=by
   intro fs
   induction fs with
   | nil=>rfl
   | cons q r ih=>simp only [unf,h0,_root_.cond_false,ih,List.map_cons]
  exact this fs
 have hs':St F.C F.N M G { w with drawn:=w.drawn+1 } env H act:=
  ⟨fun a v e=>hs.good a v e,hs.gl.ext hs.hrel (S:=Y6) ⟨fun _ _ e=>e,zqr _,rfl,rfl,rfl,fun _ _ _=>rfl,fun _ _ e=>.inl e⟩ (fun _ h=>h.elim),hs.hrel.ext (S:=Y6) ⟨fun _ _ e=>e,zqr _,rfl,rfl,rfl,fun _ _ _=>rfl,fun _ _ e=>.inl e⟩ (fun _ _ h=>h),hs.env,hs.size,hs.defers⟩
 have hsi':P2 fr M G { w with drawn:=w.drawn+1 } H:=hsi.quiet ⟨fun _ _ e=>e,zqr _,rfl,rfl,rfl,fun _ _ _=>rfl,fun _ _ e=>.inl e⟩
 have henv0:N2 L env out (fun i=>(Array.replicate L.toArray.size false).getD i false) n=env:=by
  funext t
  simp only [N2]
  cases hl:N4 L (fun i=>(Array.replicate L.toArray.size false).getD i false) t n with
  | none=>rfl
  | some i=>have:=(Pl hl).2.1; rw [h0] at this; cases this
 have:=head L.length (Array.replicate L.toArray.size false) M G _ act (by simp [List.count_replicate]) ⟨by simp,fun j o ho hl=>by rw [h0] at hl; cases hl⟩ (fun i h1 h2=>by simp [h2])
  (fun p hp=>by
   obtain ⟨q,q1,q2,_⟩:=Lj.1 hp
   exact hs.hrel.fresh p (by have:=(hfl q q1).2.1; omega))
  (by rw [henv0,hc0,hf0,hu0,hpad]; exact hs'.pad _) (by rw [hc0,hf0,hu0,hpad]; exact hsi'.pad _)
 rw [hsz]
 rw [hsz] at this
 exact this
def A10 (C:Cx)(L:List Oper)(o:Oper)(env:Env)(ps:List Nat):List I0→List (Option (Option Nat×Prop×A))
 | []=>[]
 | H::r=>Vd C L o env (L3 ps H)::A10 C L o env ps r
def P12 (x:Option (Option Nat×Prop×A)):List I0→List (Option (Option Nat×Prop×A))
 | []=>[]
 | _::r=>x::P12 x r
theorem B10 {C:Cx}{L:List Oper}{o:Oper}{env:Env}{ps:List Nat}{x:Option (Option Nat×Prop×A)}:∀ {Hs:List I0},A10 C L o env ps Hs=P12 x Hs→∀ H∈Hs,Vd C L o env (L3 ps H)=x
 | [],_,H,h=>by cases h
 | K::r,h,H,hm=>by
  simp only [A10,P12,List.cons.injEq] at h
  cases hm with
  | head=>exact h.1
  | tail _ hm=>exact B10 h.2 H hm
theorem F16 {i:TI}{x:A}{H:I0}{ps ps0:List Nat}(hps:∀ p∈ps,p∈ps0){y:A}(h:Lb i x (L3 ps0 H)=some y):Lb i x (L3 ps H)=some y:=by
 unfold Lb at h ⊢
 split at h
 ·rename_i o off
  simp only [S3,Y8] at h ⊢
  cases hz:H[o]? with
  | none=>rw [hz] at h; simp at h
  | some z=>
   rw [hz] at h
   simp only [zqt] at h ⊢
   cases h0:ps0.contains o with
   | true=>rw [h0] at h; simp at h
   | false=>
    have:ps.contains o=false:=by
     cases hb:ps.contains o with
     | false=>rfl
     | true=>
      have h1:=hps o (by simpa using hb)
      have h2:ps0.contains o=true:=by simpa using h1
      rw [h0] at h2; cases h2
    rw [h0] at h
    rw [this]
    exact h
 ·exact h
 ·cases h
theorem M18 {T:TT}{GL:GT}{op:Op}{env:Env}{H:I0}{ps ps0:List Nat}(hps:∀ p∈ps,p∈ps0){c:Prop}{y:A}(h:opA T GL op env (L3 ps0 H)=some (c,y)):opA T GL op env (L3 ps H)=some (c,y):=by
 cases op with
 | load t a=>
  simp only [opA] at h ⊢
  cases ht:G4 T t with
  | none=>rw [ht] at h; cases h
  | some i=>
   rw [ht] at h
   simp only at h ⊢
   cases hl:Lb i (ev GL env a) (L3 ps0 H) with
   | none=>rw [hl] at h; cases h
   | some z=>
    rw [hl] at h
    rw [F16 hps hl]
    exact h
 | makeFunc f first caps=>cases f <;> exact h
 | call c=>
  obtain ⟨cl,as,ts⟩:=c
  cases cl <;> exact h
 | _=>exact h
theorem G16 {C:Cx}{L:List Oper}{o:Oper}{env:Env}{H:I0}{ps ps0:List Nat}(hps:∀ p∈ps,p∈ps0){d:Option Nat}{c:Prop}{y:A}(h:Vd C L o env (L3 ps0 H)=some (d,c,y)):Vd C L o env (L3 ps H)=some (d,c,y):=by
 unfold Vd at h ⊢
 split at h
 ·rename_i hw
  split at h
  ·rename_i c' x' ho
   rw [M18 hps ho]
   exact h
  ·cases h
 ·exact h
 ·cases h
theorem N19 {C:Cx}(hC:T3 C){L:List Oper}{o:Oper}{env:Env}{H:I0}{d:Option Nat}{c:Prop}{x:A}(h:Vd C L o env H=some (d,c,x))(hc:c):o.dst=d∧Ds C L o env H x:=by
 have:=AQ.q (l:=[]) (Q:=fun _=>True) hC h hc trivial
 unfold Vd at h
 split at h
 ·rename_i hw
  split at h
  ·rename_i c' x' ho
   split at h
   ·rename_i y hy
    have hyx:=Oo hy
    subst hyx
    have:o.dst=d∧c'=c∧y=x:=by
     split at h
     ·rename_i t ht
      simp only [zqb,zqh] at h
      exact ⟨ht.trans h.1,h.2.1,h.2.2⟩
     ·rename_i ht
      simp only [zqb,zqh] at h
      exact ⟨ht.trans h.1,h.2.1,h.2.2⟩
    obtain ⟨rfl,rfl,rfl⟩:=this
    exact ⟨rfl,.inl ⟨hw,Ko hC ho hc⟩⟩
   ·cases h
  ·cases h
 ·rename_i hw
  have:o.dst=d∧A.tup []=x:=by
   split at h
   ·rename_i t ht
    simp only [zqb,zqh] at h
    exact ⟨ht.trans h.1,h.2.2⟩
   ·rename_i ht
    simp only [zqb,zqh] at h
    exact ⟨ht.trans h.1,h.2.2⟩
  obtain ⟨rfl,rfl⟩:=this
  exact ⟨rfl,.inr ⟨hw,rfl⟩⟩
 ·cases h
def V13 (C:Cx)(L:List Oper)(o:Oper)(env:Env):Option (Option Nat×TypeId×List A):=
 match F2 L env o,o.op,Fb o with
 | some true,.alloc t,some d=>match G4 C.T t with
  | some i=>match Zf (i.zero.map zf) with | some cs=>some (d,t,cs) | none=>none
  | none=>none
 | some true,.box t y,some d=>match O9 (ev C.GL env y) with
  | some cs=>match Zf cs with | some cs=>some (d,t,cs) | none=>none
  | none=>none
 | _,_,_=>none
theorem S14 {F:Fx}(hC:T3 F.C){L:List Oper}{o:Oper}{env:Env}{d:Option Nat}{t:TypeId}{cs:List A}(h:V13 F.C L o env=some (d,t,cs)):F2 L env o=some true∧o.dst=d∧P13 F L o env t cs:=by
 unfold V13 at h
 split at h
 ·rename_i t' d' hw ho hd
  split at h
  ·rename_i i ht
   split at h
   ·rename_i cs' hcs
    simp only [zqb,zqh] at h
    obtain ⟨rfl,rfl,rfl⟩:=h
    have:=Gi hcs
    subst this
    refine ⟨hw,(Q7 hd),fun env' H M G w a hr hs=>?_⟩
    obtain ⟨z,h1,h2⟩:=Ps (M:=M) (G:=G) hC.tok ht
    exact ⟨z.cells,h2,by unfold execOp; simp [ho,Instr.alloc,h1,newVar,newRow]⟩
   ·cases h
  ·cases h
 ·rename_i t' y d' hw ho hd
  split at h
  ·rename_i cs1 hc1
   split at h
   ·rename_i cs' hcs
    simp only [zqb,zqh] at h
    obtain ⟨rfl,rfl,rfl⟩:=h
    have:=Gi hcs
    subst this
    refine ⟨hw,(Q7 hd),fun env' H M G w a hr hs=>?_⟩
    have hy:ev F.C.GL env' y=ev F.C.GL env y:=An fun u hu=>hr u (by
     subst hu
     simp only [R6,List.mem_append,List.mem_filterMap]
     exact .inl ⟨.tmp u,by simp [ho,Op.operands],rfl⟩)
    obtain ⟨c1,c2,c3⟩:=Bq (hs.eval y) (by rw [hy]; exact hc1)
    exact ⟨(a.eval y).cells,⟨c1.symm,c2,c3⟩,by unfold execOp; simp [ho,Instr.box,newVar,newRow]⟩
   ·cases h
  ·cases h
 ·cases h
def Q12 (p:Nat):List I0→List (Option Ob)
 | []=>[]
 | H::r=>nth H p::Q12 p r
def R12 (x:Option Ob):List I0→List (Option Ob)
 | []=>[]
 | _::r=>x::R12 x r
theorem G12 {p:Nat}{x:Option Ob}:∀ {Hs:List I0},Q12 p Hs=R12 x Hs→∀ H∈Hs,nth H p=x
 | [],_,H,h=>by cases h
 | K::r,h,H,hm=>by
  simp only [Q12,R12,List.cons.injEq] at h
  cases hm with
  | head=>exact h.1
  | tail _ hm=>exact G12 h.2 H hm
section
variable {F:Fx}{L l:List Oper}{o:Oper}{env:Env}{ls:List Nat}{fs:List (Nat×Nat)}{Hs:List I0}{j s:Nat}{Q:Env→Prop}
theorem AS.nil (h:Q env):AS F L ls fs Hs j s [] env Q:=h
theorem AS.y {d:Option Nat}{x:A}(hd:o.dst=d)(hn:ls.contains j=false)(hf:Ji fs j=none)(h:∀ H,Ds F.C L o env H x)(k:AS F L ls fs Hs (j+1) s l (put env d x) Q):AS F L ls fs Hs j s (o::l) env Q:=
 .inl ⟨d,x,hd,hn,hf,fun _ _ _ _=>h _,k⟩
theorem AS.q (hC:T3 F.C){d:Option Nat}{x:A}(h:A10 F.C L o env (unw L fs j) (Hs.drop (loN L ls j))=P12 (some (d,True,x)) (Hs.drop (loN L ls j)))(hd:o.dst=d)(hn:ls.contains j=false)(hf:Ji fs j=none)(k:AS F L ls fs Hs (j+1) s l (put env d x) Q):AS F L ls fs Hs j s (o::l) env Q:=
 .inl ⟨d,x,hd,hn,hf,fun H hm _ hps=>(N19 hC (G16 hps (B10 h H hm)) trivial).2,k⟩
theorem AS.ix (hC:T3 F.C){d:Option Nat}{rows:List (List D)}{n:Int}{sz:Nat}(h:Dq F.C L o env=some (d,rows,n,sz)){m:Nat}{r:List D}(hm:n=m)(hk:rows[m]?=some r)(hsz:Nat.beq r.length sz=true)(hn:ls.contains j=false)(hf:Ji fs j=none)
  (k:AS F L ls fs Hs (j+1) s l (put env d (.ptr r)) Q):AS F L ls fs Hs j s (o::l) env Q:=by
 obtain ⟨h1,h2⟩:=Eq h
 exact .y h2 hn hf (fun H=>.inl ⟨h1,Ol hC h hm hk hsz⟩) k
theorem AS.a {t:Nat}{x:A}(hd:o.dst=some t)(h:∀ H,AQ F.C L [o] env H (fun e=>e=put env (some t) x))(hn:ls.contains j=false)(hf:Ji fs j=none)(k:AS F L ls fs Hs (j+1) s l (put env (some t) x) Q):AS F L ls fs Hs j s (o::l) env Q:=by
 refine .y hd hn hf (fun H=>?_) k
 obtain ⟨d',x',h1,h2,h3⟩:=h H
 rw [hd] at h1
 subst h1
 have:x'=x:=by
  have:=congrFun h3 t
  simpa [put,upd] using this
 rwa [this] at h2
theorem AS.n (hC:T3 F.C){d:Option Nat}{t:TypeId}{cs:List A}{p:Nat}(h:V13 F.C L o env=some (d,t,cs))(hf:Ji fs j=some p)(hn:ls.contains j=false)(hr:Q12 p (Hs.take (hiN L ls j+1))=R12 (some (.row cs t)) (Hs.take (hiN L ls j+1)))
  (k:AS F L ls fs Hs (j+1) s l (put env d (.ref p 0)) Q):AS F L ls fs Hs j s (o::l) env Q:=by
 obtain ⟨q1,q2,q3⟩:=S14 hC h
 exact .inr (.inr ⟨t,cs,p,hf,hn,q1,q3,G12 hr,by rw [q2]; exact k⟩)
end
theorem N18 {α:Type}{b:Bool}{x:α}{y:Option α}(h:(bif b then y else none)=some x):b=true∧y=some x:=by cases b <;> simp_all
section
variable {α:Type}{f:α→Row}{h:α→A}
end
theorem H12 {ps:List Nat}{H:I0}{p:Nat}{x:Ob}(hp:p < H.length)(hn:ps.contains p=false):N9 (L3 ps H) p x=L3 ps (N9 H p x):=by
 apply List.ext_getElem?
 intro n
 rw [Eb _ _ _ _ (by rw [C7]; exact hp),Y8,Y8,Eb _ _ _ _ hp]
 by_cases e:n=p
 ·subst e
  rw [zp rfl,zp rfl,zqt,hn]
  rfl
 ·rw [zn e,zn e]
theorem C10:∀ (H:I0) (n:Nat) (x:Ob),Ll H n x=some (N9 H n x)
 | [],_,_=>rfl
 | _::_,0,_=>rfl
 | y::r,n+1,x=>by simp only [Ll,N9,C10 r n x]
theorem T14 {C:Cx}{L:List Oper}{o:Oper}{env env':Env}{H:I0}(h:∀ t∈R6 L o,env' t=env t):Ml C L o env' H=Ml C L o env H:=by
 have hop:∀ y∈o.op.operands,ev C.GL env' y=ev C.GL env y:=fun y hy=>An fun t ht=>h t (by
  subst ht
  simp only [R6,List.mem_append,List.mem_filterMap]
  exact .inl ⟨.tmp t,by simpa using hy,rfl⟩)
 unfold Ml
 rw [Zh h]
 split
 ·rename_i t x y hw ho hd
  rw [hop x (by rw [ho]; simp [Op.operands]),hop y (by rw [ho]; simp [Op.operands])]
 ·rfl
def W13 (C:Cx)(o:Oper)(env:Env):Option Nat:=
 match o.op with
 | .store _ x _=>match ev C.GL env x with | .ref p _=>some p | _=>none
 | _=>none
theorem Pq.s {F:Fx}(hC:T3 F.C){L:List Oper}{o:Oper}{env:Env}{H H':I0}{un:List Nat}{p:Nat}(h:Ml F.C L o env H=some H')(hp:W13 F.C o env=some p)(hun:un.contains p=false) :
  ∀ ps:List Nat,(∀ q∈ps,q∈un)→Pq F L o env (L3 ps H) .junk (L3 ps H'):=by
 intro ps hps env' K he Q hq
 have hpn:ps.contains p=false:=by
  cases hb:ps.contains p with
  | false=>rfl
  | true=>
   have h1:=hps p (by simpa using hb)
   have h2:un.contains p=true:=by simpa using h1
   rw [hun] at h2; cases h2
 have h':Ml F.C L o env' (L3 ps H)=some (L3 ps H'):=by
  rw [T14 he]
  unfold Ml at h ⊢
  split at h
  ·rename_i t x y hw ho hd
   unfold W13 at hp
   rw [ho] at hp
   simp only at hp
   split at h
   ·rename_i i p' off xs ht hx hxs
    rw [hx] at hp
    simp only [zqb] at hp
    subst hp
    split at h
    ·rename_i cells e hn
     have hn':nth (L3 ps H) p'=some (.row cells e):=by
      rw [S3] at hn ⊢
      rw [Y8,hn,zqt,hpn]
      rfl
     simp only [hn']
     cases hb:Nat.beq xs.length i.size&&Nat.ble (off+i.size) cells.length with
     | false=>rw [hb] at h; cases h
     | true=>
      rw [hb] at h
      simp only [_root_.cond_true] at h
      split at h
      ·rename_i cs hcs
       show Ll (L3 ps H) p' (Ob.row cs e)=_
       have e1:=Cv h
       subst e1
       rw [S3] at hn
       have hlt:=(zqu.1 hn).1
       have:Ll (L3 ps H) p' (.row cs e)=some (N9 (L3 ps H) p' (.row cs e)):=C10 _ _ _
       exact this.trans (by rw [H12 hlt hpn])
      ·cases h
    ·cases h
   ·cases h
  ·cases h
 have hd:o.dst=none:=by
  unfold Ml at h
  split at h
  ·rename_i hd; exact hd
  ·cases h
 rw [hd] at hq
 exact C0.s (F:=⟨F.C,F.N,K,Kl,Bh⟩) hC h' (C0.nil hq)
section
variable {F:Fx}{L l:List Oper}{o:Oper}{env:Env}{ls:List Nat}{fs:List (Nat×Nat)}{Hs:List I0}{j i:Nat}{Q:Env→Prop}
theorem AS.s (hC:T3 F.C){H H':I0}{p:Nat}(h1:nth ls i=some j)(hf:Ji fs j=none)(h2:nth Hs i=some H)(h3:nth Hs (i+1)=some H')(h:Ml F.C L o env H=some H')(hp:W13 F.C o env=some p)
  (hun:(unw L fs j).contains p=false) (k:AS F L ls fs Hs (j+1) (i+1) l env Q):AS F L ls fs Hs j i (o::l) env Q:=by
 have hw:F2 L env o=some true∧o.dst=none:=by
  unfold Ml at h
  split at h
  ·rename_i hw ho hd; exact ⟨hw,hd⟩
  ·cases h
 exact .inr (.inl ⟨.junk,H,H',h1,hf,hw.1,h2,h3,Pq.s hC h hp hun,by rw [hw.2]; exact k⟩)
end
def X13 (T:TT)(t:Nat)(parts:List (Nat×A)):Option A:=
 match G4 T t with
 | none=>none
 | some i=>match i.u with
  | .st fs=>(Hj (fun n=>(nth fs n).map fun f=>(f.2.1,f.2.2)) (i.zero.map zf) parts).map .agg
  | _=>none
section
variable {P:Program}{M:Mem}{G:Nat→Value}{w:World}
theorem M17 {T:TT}(hT:TOk P T){t:Nat}{parts:List (Nat×A)}{A2:Array (Nat×Value)}(hl:parts.length=A2.size)
  (hp:∀ (i:Nat) p q,parts[i]?=some p→A2[i]?=some q→p.1=q.1∧O1 M G p.2 q.2) {z:A} (h:X13 T t parts=some z):Xf P M G w (Instr.build t A2) z:=by
 unfold X13 at h
 split at h
 ·cases h
 ·rename_i i ht
  have f:=hT.facts ht
  obtain ⟨zv,hz1,hz2⟩:=Ps (M:=M) (G:=G) hT ht
  split at h
  ·rename_i fs hu
   obtain ⟨flds,hd,hf,hfl⟩:=U11 f hu
   cases ho:Hj (fun n=>(nth fs n).map fun f=>(f.2.1,f.2.2)) (i.zero.map zf) parts with
   | none=>rw [ho] at h; cases h
   | some out=>
    rw [ho] at h
    simp only [zqt,zqb] at h
    subst h
    obtain ⟨places,hp1,hp2⟩:=Oz (P:=P) w flds (fun n f hn=>by
     obtain ⟨g,hg⟩:=hfl n f hn
     obtain ⟨f',e1,e2,_,_,_,e6⟩:=hf n g hg
     rw [hn] at e1
     cases e1
     rw [e2]; exact e6)
    have hsame:∀ n,places[n]?=((nth fs n).map fun f=>(f.2.1,f.2.2)):=fun n=>by
     rw [S3,hp2 n]
     cases hn:fs[n]? with
     | none=>
      have:flds[n]?=none:=by
       cases hfn:flds[n]? with
       | none=>rfl
       | some f=>obtain ⟨g,hg⟩:=hfl n f hfn; rw [hg] at hn; cases hn
      rw [this]; rfl
     | some g=>
      obtain ⟨f',e1,e2,e3,e4,_,_⟩:=hf n g hn
      rw [e1]
      simp [e2,e3,e4]
    have hfun:(fun n=>places[n]?)=(fun n=>(nth fs n).map fun f=>(f.2.1,f.2.2)):=funext hsame
    have:Hj (fun n=>places[n]?) (i.zero.map zf) parts=some out:=by rw [hfun]; exact ho
    obtain ⟨ws,g1,g2,g3,g4⟩:=Mq hz2 (by rw [Array.length_toList]; exact hl) (fun n p q a b=>hp n p q a (by simpa using b)) this
    refine ⟨.agg ws,?_,.agg g2 g3 g4⟩
    simp only [Instr.build,Sem.run_bind,hz1,Result.andThen_ok,run_underlying hd,hp1,g1,Sem.run_pure]
  ·cases h
end
def Xw (C:Cx)(L:List Oper)(o:Oper)(env:Env):Option (Option Nat×A):=
 match F2 L env o,o.op,Fb o with
 | some true,.build t parts,some d=>match X13 C.T t (parts.toList.map fun p=>(p.1,ev C.GL env p.2)) with
  | some y=>match frc y with | some z=>some (d,z) | none=>none
  | none=>none
 | _,_,_=>none
theorem H16 {C:Cx}{L:List Oper}{o:Oper}{env:Env}{d:Option Nat}{x:A}(h:Xw C L o env=some (d,x)):Fb o=some d:=by
 unfold Xw at h
 split at h
 ·rename_i t parts d' hw ho hd
  split at h
  ·split at h
   ·simp only [zqb,zqh] at h
    rw [← h.1]; exact hd
   ·cases h
  ·cases h
 ·cases h
theorem N17 {C:Cx}(hC:T3 C){L:List Oper}{o:Oper}{env:Env}{H:I0}{d:Option Nat}{x:A}(h:Xw C L o env=some (d,x)):F2 L env o=some true∧Fb o=some d∧P9 C o env H x:=by
 have hdd:=H16 h
 unfold Xw at h
 split at h
 ·rename_i t parts d' hw ho hd
  split at h
  ·rename_i y hb
   split at h
   ·rename_i z hz
    simp only [zqb,zqh] at h
    obtain ⟨rfl,rfl⟩:=h
    have:=Oo hz
    subst this
    refine ⟨hw,hd,?_⟩
    intro M G w a next Qw hρ hG _ hH hk
    have key:∃ v,(execOp a.eval o).run C.P w = .ok (.value v) w∧O1 M G z v:=by
     unfold execOp
     rw [ho] at hρ ⊢
     refine Ah (M17 hC.tok (by simp) (fun i p q hp hq=>?_) hb)
     simp only [List.getElem?_map,Array.getElem?_toList,Array.getElem?_map] at hp hq
     cases hpi:parts[i]? with
     | none=>rw [hpi] at hp; cases hp
     | some pr=>
      rw [hpi] at hp hq
      simp only [zqt,zqb] at hp hq
      subst hp; subst hq
      exact ⟨rfl,hρ _ (by simp only [Op.operands,List.mem_toArray,List.mem_map]; exact ⟨pr,by simpa using Array.mem_of_getElem? hpi,rfl⟩)⟩
    obtain ⟨v,h1,h2⟩:=key
    unfold Oper.wp
    rw [h1]
    exact hk v M w h2 hG (Ext.refl _ _ _)
   ·cases h
  ·cases h
 ·cases h
theorem C0.bz {F:Fx}(hC:T3 F.C){L l:List Oper}{o:Oper}{env:Env}{H:I0}{Q:Env→I0→Prop}{d:Option Nat}{x:A}(h:Xw F.C L o env=some (d,x))(k:C0 F L l (put env d x) H Q):C0 F L (o::l) env H Q:=by
 obtain ⟨h1,h2,h3⟩:=N17 (H:=H) hC h
 refine .yields h1 h3 ?_
 rw [Q7 h2]
 exact k
theorem St.moveTok {C:Cx}{N:FN}{M M':Mem}{G:Nat→Value}{w w':World}{env:Env}{H:I0}{a:Act}(h:St C N M G w env H a){dst:Option Nat}(hd:∀ d,dst=some d→d < N){p e sz:Nat}{v':Value}{x:A}
  (hp:H[p]?=some (.tok e sz)) (hext:Ext (fun b=>blk (.tok e sz) (G p)=some b) M w M' w') (hg:Good M' w') (hob:Zg M' G w' (.tok e sz) v') (hblk:∀ b,blk (.tok e sz) v'=some b→blk (.tok e sz) (G p)=some b∨w.heap.size≤b)
  (hx:O1 M' (X5 G H.length v') x v') :
  St C N M' (X5 G H.length v') w' (put env dst x) (N9 H p .dead++[.tok e sz]) (a.put dst v'):=by
 have hplt:p < H.length:=(zqu.1 hp).1
 have hl:(N9 H p .dead).length=H.length:=Oi _ _ _
 have hmono:∀ {x:A} {v:Value},O1 M G x v→O1 M' (X5 G H.length v') x v:=fun hr=>hr.mono hext.mono fun o hn=>C3 (Nat.ne_of_lt (h.hrel.lt hr hn))
 obtain ⟨h1,h2,h3⟩:=Vk (fun t=>hmono (h.env t)) h.size hd hx
 have get:∀ (o:Nat) x,(N9 H p .dead++[Ob.tok e sz])[o]?=some x→(o < H.length∧o≠p∧H[o]?=some x)∨(o=p∧x = .dead)∨(o=H.length∧x = .tok e sz):=fun o x ho=>by
  rcases Nat.lt_trichotomy o H.length with hlt | rfl | hgt
  ·rw [zqx (by omega),Eb _ _ _ _ hplt] at ho
   by_cases hop:o=p
   ·rw [zp hop] at ho; cases ho; exact .inr (.inl ⟨hop,rfl⟩)
   ·rw [zn hop] at ho; exact .inl ⟨hlt,hop,ho⟩
  ·rw [List.getElem?_append_right (by omega),hl,Nat.sub_self] at ho
   simp at ho
   exact .inr (.inr ⟨rfl,ho.symm⟩)
  ·rw [List.getElem?_eq_none (by simp; omega)] at ho
   cases ho
 refine ⟨hg,h.gl.ext h.hrel hext (fun b hb=>⟨p,_,hp,hb⟩),⟨fun o x ho=>?_,fun o o' x x' b ho ho' hb hb'=>?_,fun o ho=>?_⟩,h1,h2,h3.trans h.defers⟩
 ·rcases get o x ho with ⟨hlt,hop,hy⟩ | ⟨rfl,rfl⟩ | ⟨rfl,rfl⟩
  ·rw [C3 (Nat.ne_of_lt hlt)]
   have hoy:=h.hrel.obj o x hy
   have hob:=hoy.keep hext.mono (fun b hb=>hext.block b (A9 hoy hb) fun hb'=>hop (h.hrel.apart o p x _ b hy hp hb hb')) fun b hb off sp hn=>by
    cases hM:M' ⟨b,off,sp⟩ with
    | none=>rfl
    | some u=>
     rcases hext.fresh _ u hM with q | q | q
     ·rw [hn] at q; cases q
     ·exact absurd (h.hrel.apart o p x _ b hy hp hb q) hop
     ·have:=A9 hoy hb; simp only at q; omega
   cases x with
   | dead=>trivial
   | row cells e=>
    obtain ⟨b,us,g1,g2,g3,g4,g5,g6⟩:=hob
    obtain ⟨b0,us0,f1,f2,f3,f4,f5,f6⟩:=hoy
    rw [g1] at f1
    simp only [Value.pointer.injEq,zqb,Addr.mk.injEq,and_true] at f1
    subst f1
    have hus:us=us0:=by
     have hk:=hext.block b (A9 (h.hrel.obj o _ hy) (by rw [g1]; rfl)) fun hb'=>hop (h.hrel.apart o p _ _ b hy hp (by rw [g1]; rfl) hb')
     rw [hk,f2] at g2
     simp only [zqb,Obj.cells.injEq] at g2
     exact g2.1.symm
    subst hus
    exact ⟨b,us,g1,g2,g3,g4,fun i y v a c=>hmono (f5 i y v a c),g6⟩
   | bld o' e=>
    obtain ⟨b,v0,g1,g2,g3,g4,g5⟩:=hob
    have ho':o'≠H.length:=fun e=>g4 (by rw [e]; exact h.hrel.fresh _ (zqr _))
    exact ⟨b,v0,g1,by rw [C3 ho']; exact g2,g3,by rw [C3 ho']; exact g4,g5⟩
   | buf e sz=>exact hob
   | tok e sz=>exact hob
   | map es=>
    obtain ⟨b,ms,cl,g1,g2,g3,g4,g5⟩:=hob
    obtain ⟨b0,ms0,cl0,f1,f2,f3,f4,f5⟩:=hoy
    rw [g1] at f1
    simp only [Value.map.injEq,zqb] at f1
    subst f1
    have hus:ms=ms0:=by
     have hk:=hext.block b (A9 (h.hrel.obj o _ hy) (by rw [g1]; rfl)) fun hb'=>hop (h.hrel.apart o p _ _ b hy hp (by rw [g1]; rfl) hb')
     rw [hk,f2] at g2
     simp only [zqb,Obj.map.injEq] at g2
     exact g2.1.symm
    subst hus
    exact ⟨b,ms,cl,g1,g2,g3,fun i k cs e a c=>⟨(g4 i k cs e a c).1,hmono (f4 i k cs e a c).2⟩,g5⟩
  ·trivial
  ·rw [B4]
   exact hob
 ·have key:∀ (o:Nat) x b,(N9 H p .dead++[Ob.tok e sz])[o]?=some x→blk x (X5 G H.length v' o)=some b→(o < H.length∧o≠p∧H[o]?=some x∧blk x (G o)=some b)∨(o=H.length∧(blk (.tok e sz) (G p)=some b∨w.heap.size≤b)):=by
   intro o x b ho hb
   rcases get o x ho with ⟨hlt,hop,hy⟩ | ⟨rfl,rfl⟩ | ⟨rfl,rfl⟩
   ·rw [C3 (Nat.ne_of_lt hlt)] at hb
    exact .inl ⟨hlt,hop,hy,hb⟩
   ·simp [blk] at hb
   ·rw [B4] at hb
    exact .inr ⟨rfl,hblk b hb⟩
  rcases key o x b ho hb with ⟨q1,q2,q3,q4⟩ | ⟨q1,q2⟩ <;> rcases key o' x' b ho' hb' with ⟨p1,p2,p3,p4⟩ | ⟨p1,p2⟩
  ·exact h.hrel.apart o o' x x' b q3 p3 q4 p4
  ·rcases p2 with p2 | p2
   ·exact absurd (h.hrel.apart o p x _ b q3 hp q4 p2) q2
   ·have:=A9 (h.hrel.obj o x q3) q4; omega
  ·rcases q2 with q2 | q2
   ·exact absurd (h.hrel.apart o' p x' _ b p3 hp p4 q2) p2
   ·have:=A9 (h.hrel.obj o' x' p3) p4; omega
  ·omega
 ·simp only [zqc,hl,zqd,zqe] at ho
  rw [C3 (by omega)]
  exact h.hrel.fresh o (by omega)
theorem P2.moveTok {fr:Fr}{M M':Mem}{G:Nat→Value}{w w':World}{H:I0}(h:P2 fr M G w H){p e sz:Nat}{v':Value}
  (hp:H[p]?=some (.tok e sz)) (hext:Ext (fun b=>blk (.tok e sz) (G p)=some b) M w M' w') (hblk:∀ b,blk (.tok e sz) v'=some b→blk (.tok e sz) (G p)=some b∨w.heap.size≤b) :
  P2 fr M' (X5 G H.length v') w' (N9 H p .dead++[.tok e sz]):=by
 have hplt:p < H.length:=(zqu.1 hp).1
 have hl:(N9 H p .dead).length=H.length:=Oi _ _ _
 have get:∀ (o:Nat) x,(N9 H p .dead++[Ob.tok e sz])[o]?=some x→(o < H.length∧o≠p∧H[o]?=some x)∨(o=p∧x = .dead)∨(o=H.length∧x = .tok e sz):=fun o x ho=>by
  rcases Nat.lt_trichotomy o H.length with hlt | rfl | hgt
  ·rw [zqx (by omega),Eb _ _ _ _ hplt] at ho
   by_cases hop:o=p
   ·rw [zp hop] at ho; cases ho; exact .inr (.inl ⟨hop,rfl⟩)
   ·rw [zn hop] at ho; exact .inl ⟨hlt,hop,ho⟩
  ·rw [List.getElem?_append_right (by omega),hl,Nat.sub_self] at ho
   simp at ho
   exact .inr (.inr ⟨rfl,ho.symm⟩)
  ·rw [List.getElem?_eq_none (by simp; omega)] at ho
   cases ho
 refine ⟨h.ext.trans hext fun b hb=>h.own b ⟨p,_,hp,hb⟩,fun b ⟨o,z,hz,hb⟩=>?_,by simp; have:=h.len; omega,fun o x ho ht=>?_,fun o x y ho ht hy=>?_⟩
 ·rcases get o z hz with ⟨hlt,hop,hy⟩ | ⟨rfl,rfl⟩ | ⟨rfl,rfl⟩
  ·rw [C3 (Nat.ne_of_lt hlt)] at hb
   exact h.own b ⟨o,z,hy,hb⟩
  ·simp [blk] at hb
  ·rw [B4] at hb
   rcases hblk b hb with q | q
   ·exact h.own b ⟨p,_,hp,q⟩
   ·exact .inr (Nat.le_trans h.ext.size q)
 ·have hlt:o < H.length:=Nat.lt_of_lt_of_le (zqu.1 ho).1 h.len
  rw [C3 (Nat.ne_of_lt hlt)]
  exact h.keep o x ho ht
 ·have hlt:o < H.length:=Nat.lt_of_lt_of_le (zqu.1 ho).1 h.len
  rcases get o y hy with ⟨_,_,hy⟩ | ⟨_,rfl⟩ | ⟨rfl,_⟩
  ·exact h.kind o x y ho ht hy
  ·rfl
  ·omega
def Vo (C:Cx)(L:List Oper)(o:Oper)(env:Env)(H:I0):Option Ap:=
 match F2 L env o,o.op,Fb o with
 | some true,.call { callee:=.builtin .append,args,argTypes },some d=>
  match args.toList,argTypes.toList with
  | [x,y],[t,t']=>bif Nat.beq t t' then
   (match G4 C.T t,Jt (ev C.GL env y) with
   | some it,some news=>match it.u with
    | .sl e=>match G4 C.T e with
     | some ie=>match ev C.GL env x with
      | .osl p rows=>match nth H p with
       | some (.tok e' sz')=>bif Nat.beq e e'&&Nat.beq ie.size sz' then some ⟨d,p,false,rows,news,ie.size,ie.bytes,N9 H p .dead++[.tok e ie.size]⟩ else none
       | _=>none
      | .full rows=>some ⟨d,H.length,true,rows,news,ie.size,ie.bytes,H++[.tok e ie.size]⟩
      | _=>none
     | none=>none
    | _=>none
   | _,_=>none) else none
  | _,_=>none
 | _,_,_=>none
theorem C0.am {F:Fx}(hC:T3 F.C){L l:List Oper}{o:Oper}{env:Env}{H:I0}{Q:Env→I0→Prop}{d:Option Nat}{p:Nat}{nw:Bool}{rows news:List Row}{sz bytes:Nat}{H':I0}
  (h:Vo F.C L o env H=some ⟨d,p,nw,rows,news,sz,bytes,H'⟩) (h1:∀ r∈rows,r.length=sz) (h2:∀ r∈news,r.length=sz) (h3:(rows.length+news.length) * (bytes+1)≤140737488355328)
  (k:C0 F L l (put env d (.osl H.length (rows++news))) H' Q):C0 F L (o::l) env H Q:=by
 unfold Vo at h
 split at h
 ·rename_i args ts dd hw ho hd
  split at h
  ·rename_i x y t t' ha ht
   cases hb:Nat.beq t t' with
   | false=>rw [hb] at h; cases h
   | true=>
    rw [hb] at h
    obtain rfl:=zqo hb
    simp only [zqk] at h
    split at h
    ·rename_i it news' hit hnews
     split at h
     ·rename_i e hu
      split at h
      ·rename_i ie hie
       have hmem:x∈o.op.operands∧y∈o.op.operands:=by
        rw [ho]
        obtain rfl:args = #[x,y]:=by rw [← Array.toArray_toList (xs:=args),ha]
        simp [Op.operands,Call.operands]
       have hlen:(rows.length+news.length) * bytes≤140737488355328∧rows.length+news.length≤maxLen:=by
        have:(rows.length+news.length) * (bytes+1)=(rows.length+news.length) * bytes+(rows.length+news.length):=Nat.mul_succ _ _
        unfold maxLen
        omega
       split at h
       ·rename_i q rows' hx
        split at h
        ·rename_i e' sz' hq
         cases hbb:Nat.beq e e'&&Nat.beq ie.size sz' with
         | false=>rw [hbb] at h; cases h
         | true=>
          rw [hbb] at h
          simp only [zqi] at hbb
          obtain rfl:=zqo hbb.1
          obtain rfl:=zqo hbb.2
          simp only [zqk] at h
          simp only [zqb,Ap.mk.injEq] at h
          obtain ⟨rfl,rfl,rfl,rfl,rfl,rfl,rfl,rfl⟩:=h
          refine Ug hw fun fr M G w a K Qw hK hdok hs hsi hk=>?_
          have hxr:=hs.eval x
          rw [hx] at hxr
          generalize hxv:a.eval x=xv at hxr
          cases hxr
          rename_i hgq hrd
          rw [S3] at hq
          have htok:Tok M w e ie.size xv:=by have:=hs.hrel.obj _ _ hq; rw [hgq] at this; exact this
          obtain ⟨v',w',M',r1,r2,r3,r4,r5,r6⟩:=Bo (ty:=o.type) hC.tok hs.good hit hu hie hrd (Ij hnews (hs.eval y)) htok h1 h2 hlen.1 hlen.2
          unfold Oper.wp
          rw [Ek ho ha ht (by rw [hxv]; exact r1)]
          rw [← hgq] at r5 r6
          refine hk (.osl H.length (rows'++news')) env _ M' (X5 G H.length v') w' v' ?_ (hs.moveTok (Y4 hdok) hq r5 r4 r3 r6 (.osl r2 B4)) (hsi.moveTok hq r5 r6)
          rw [Q7 hd]
          exact k
        ·cases h
       ·rename_i rows' hx
        simp only [zqb,Ap.mk.injEq] at h
        obtain ⟨rfl,rfl,rfl,rfl,rfl,rfl,rfl,rfl⟩:=h
        refine Ug hw fun fr M G w a K Qw hK hdok hs hsi hk=>?_
        have hxr:=hs.eval x
        rw [hx] at hxr
        generalize hxv:a.eval x=xv at hxr
        cases hxr
        rename_i hfull hrd
        obtain ⟨t1,t2⟩:=Co (G:=fun _=>.tuple #[]) (w:=w) hrd hfull e ie.size
        obtain ⟨v',w',M',r1,r2,r3,r4,r5,r6⟩:=Bo (ty:=o.type) hC.tok hs.good hit hu hie hrd (Ij hnews (hs.eval y)) t1 h1 h2 hlen.1 hlen.2
        unfold Oper.wp
        rw [Ek ho ha ht (by rw [hxv]; exact r1)]
        have r5':Ext Y6 M w M' w':=r5.weaken fun b hb=>absurd hb (t2 b)
        have r6':∀ b,blk (.tok e ie.size) v'=some b→w.heap.size≤b:=fun b hb=>(r6 b hb).resolve_left (t2 b)
        refine hk (.osl H.length (rows'++news')) env _ M' (X5 G H.length v') w' v' ?_ (hs.newTok (Y4 hdok) r5' r4 r3 r6' (.osl r2 B4)) (hsi.newTok r5' r6')
        rw [Q7 hd]
        exact k
       ·cases h
      ·cases h
     ·cases h
    ·cases h
  ·cases h
 ·cases h
theorem I12 {ps:List Nat}{H:I0}{x:Ob}(hn:∀ q∈ps,q < H.length):L3 ps (H++[x])=L3 ps H++[x]:=by
 apply List.ext_getElem?
 intro n
 rw [Y8]
 by_cases hlt:n < H.length
 ·rw [zqx hlt,zqx (by rw [C7]; exact hlt),Y8]
 ·rw [List.getElem?_append_right (by omega),List.getElem?_append_right (by rw [C7]; omega),C7]
  have:ps.contains n=false:=by
   cases hb:ps.contains n with
   | false=>rfl
   | true=>exact absurd (hn n (by simpa using hb)) hlt
  cases [x][n - H.length]? with
  | none=>rfl
  | some y=>simp only [zqt,this]; rfl
theorem Y13 {C:Cx}{L:List Oper}{o:Oper}{env env':Env}{H H':I0}{ps:List Nat}{d:Option Nat}{p:Nat}{nw:Bool}{rows news:List Row}{sz bytes:Nat}(he:∀ t∈R6 L o,env' t=env t)
  (h:Vo C L o env H=some ⟨d,p,nw,rows,news,sz,bytes,H'⟩) (hps:∀ q∈ps,q < H.length) (hp:ps.contains p=false) :
  ∃ p',Vo C L o env' (L3 ps H)=some ⟨d,p',nw,rows,news,sz,bytes,L3 ps H'⟩:=by
 have hop:∀ y∈o.op.operands,ev C.GL env' y=ev C.GL env y:=fun y hy=>An fun t ht=>he t (by
  subst ht
  simp only [R6,List.mem_append,List.mem_filterMap]
  exact .inl ⟨.tmp t,by simpa using hy,rfl⟩)
 unfold Vo at h ⊢
 rw [Zh he]
 split at h
 ·rename_i args ts dd hw ho hd
  split at h
  ·rename_i x y t t' ha ht
   have hmem:x∈o.op.operands∧y∈o.op.operands:=by
    rw [ho]
    obtain rfl:args = #[x,y]:=by rw [← Array.toArray_toList (xs:=args),ha]
    simp [Op.operands,Call.operands]
   rw [hop x hmem.1,hop y hmem.2]
   cases hb:Nat.beq t t' with
   | false=>rw [hb] at h; cases h
   | true=>
    rw [hb] at h
    simp only [zqk] at h
    split at h
    ·rename_i it news' hit hnews
     split at h
     ·rename_i e hu
      split at h
      ·rename_i ie hie
       split at h
       ·rename_i q rows' hx
        split at h
        ·rename_i e' sz' hq
         cases hbb:Nat.beq e e'&&Nat.beq ie.size sz' with
         | false=>rw [hbb] at h; cases h
         | true=>
          rw [hbb] at h
          simp only [zqk,zqb,Ap.mk.injEq] at h
          obtain ⟨rfl,rfl,rfl,rfl,rfl,rfl,rfl,rfl⟩:=h
          have hlt:q < H.length:=(zqu.1 (by rw [S3] at hq; exact hq)).1
          have hq':nth (L3 ps H) q=some (.tok e' sz'):=by
           rw [S3] at hq ⊢
           rw [Y8,hq,zqt,hp]
           rfl
          refine ⟨q,?_⟩
          rw [I12 (by rw [Oi]; exact hps),← H12 hlt hp]
          simp [hq',hbb]
        ·cases h
       ·rename_i rows' hx
        simp only [zqb,Ap.mk.injEq] at h
        obtain ⟨rfl,rfl,rfl,rfl,rfl,rfl,rfl,rfl⟩:=h
        refine ⟨(L3 ps H).length,?_⟩
        rw [I12 hps]
        simp
       ·cases h
      ·cases h
     ·cases h
    ·cases h
  ·cases h
 ·cases h
theorem I16 {C:Cx}{L:List Oper}{o:Oper}{env:Env}{H:I0}{r:Ap}(h:Vo C L o env H=some r):F2 L env o=some true∧Fb o=some r.d:=by
 unfold Vo at h
 split at h
 ·rename_i args ts dd hw ho hd
  refine ⟨hw,?_⟩
  split at h
  ·rename_i x y t t' ha ht
   cases hb:Nat.beq t t' with
   | false=>rw [hb] at h; cases h
   | true=>
    rw [hb] at h
    simp only [zqk] at h
    split at h
    ·split at h
     ·split at h
      ·split at h
       ·split at h
        ·obtain ⟨_,h⟩:=N18 h
         simp only [zqb] at h; subst h; exact hd
        ·cases h
       ·simp only [zqb] at h; subst h; exact hd
       ·cases h
      ·cases h
     ·cases h
    ·cases h
  ·cases h
 ·cases h
section
variable {F:Fx}{L l:List Oper}{o:Oper}{env:Env}{ls:List Nat}{fs:List (Nat×Nat)}{Hs:List I0}{j i:Nat}{Q:Env→Prop}
theorem AS.am (hC:T3 F.C){H H':I0}{d:Option Nat}{p q:Nat}{nw:Bool}{rows news rs:List Row}{sz bytes:Nat}(h1:nth ls i=some j)(hf:Ji fs j=none)(h2:nth Hs i=some H)(h3:nth Hs (i+1)=some H')
  (h:Vo F.C L o env H=some ⟨d,p,nw,rows,news,sz,bytes,H'⟩) (e:rs=rows++news) (k1:∀ r∈rows,r.length=sz) (k2:∀ r∈news,r.length=sz) (k3:(rows.length+news.length) * (bytes+1)≤140737488355328)
  (hq:H.length=q) (hun:((unw L fs j).all (fun p=>Nat.blt p H.length) && !(unw L fs j).contains p)=true) (k:AS F L ls fs Hs (j+1) (i+1) l (put env d (.osl q rs)) Q):AS F L ls fs Hs j i (o::l) env Q:=by
 subst e; subst hq
 obtain ⟨w1,w2⟩:=I16 h
 have hd:=Q7 w2
 simp only [zqi,List.all_eq_true] at hun
 refine .inr (.inl ⟨.osl H.length (rows++news),H,H',h1,hf,w1,h2,h3,fun ps hps env' K he Q hq=>?_,by rw [hd]; exact k⟩)
 have hn:ps.contains p=false:=by
  cases hb:ps.contains p with
  | false=>rfl
  | true=>
   have h5:=hps p (by simpa using hb)
   have h6:(unw L fs j).contains p=true:=by simpa using h5
   rw [h6] at hun; exact absurd hun.2 (by simp)
 obtain ⟨p',hs⟩:=Y13 he h (fun q hq=>Nat.le_of_ble_eq_true (hun.1 q (hps q hq))) hn
 refine C0.am (F:=⟨F.C,F.N,K,Kl,Bh⟩) hC hs k1 k2 k3 (C0.nil ?_)
 rw [C7]
 rw [hd] at hq
 exact hq
end
section
variable {α:Type}{f:α→Row}{g:List α→List Row}
end
end Go.Am

