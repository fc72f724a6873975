/- A part of the proof of CatalogMakes. -/
import Derived.Test.YtbaijagfgceilaaGreatDoorAmA
import GoSem.Instr.Lookup
import GoSem.Instr.MapUpdate
import GoSem.Instr.MakeMap
import Derived.Below
import Derived.Laws.StructEq
import Derived.Laws.MakeOwn
import Derived.ChangeSame
import Derived.OpenShut
import Derived.ProofKit
import Derived.Laws.BytesArg
import Derived.Lib.LaidTab
namespace Go.Am
theorem D1x {M:Mem}{w:World}(c:Good M w)(cs:Array Value)(e:TypeId) :
  ∃ M':Mem,Good M' (w.alloc (.cells cs e))∧Ext C9 M w M' (w.alloc (.cells cs e))∧∀ (j:Nat) v,cs[j]?=some v→M' ⟨w.heap.size,j,none⟩=some v:=by
 refine ⟨fun a=>if a.block=w.heap.size∧a.spot=none then cs[a.off]? else M a,fun a v hv=>?_,⟨fun a v hv=>?_,by simp,rfl,rfl,rfl,fun b hb _=>heap_alloc_old w _ b hb,fun a v hv=>?_⟩,fun j v hv=>?_⟩
 ·simp only at hv
  split at hv
  ·rename_i hc
   obtain ⟨b,o,s⟩:=a
   simp only at hc hv
   obtain ⟨rfl,rfl⟩:=hc
   exact .inl ⟨rfl,by rw [Pr (w:=w.alloc (.cells cs e)) (heap_alloc_new w _)]; exact hv⟩
  ·exact Y1e (heap_alloc_old w _ _ (c.lt hv)) (c a v hv)
 ·have:=c.lt hv
  show (if a.block=w.heap.size∧a.spot=none then cs[a.off]? else M a)=some v
  rw [zn (by omega)]
  exact hv
 ·have hv:(if a.block=w.heap.size∧a.spot=none then cs[a.off]? else M a)=some v:=hv
  split at hv
  ·rename_i hc; exact .inr (.inr (by omega))
  ·exact .inl hv
 ·show (if w.heap.size=w.heap.size∧(none:Option Nat)=none then cs[j]? else M _)=some v
  rw [zp ⟨rfl,rfl⟩]
  exact hv
def toD:A→Option D
 | .d x=>some x
 | .full r=>some (.sl r)
 | .osl _ r=>some (.sl r)
 | .clo f []=>some (.fn (some f))
 | _=>none
theorem E1x {M:Mem}{G:Nat→Value}{x:A}{y:D}{v:Value}(h:toD x=some y)(a:L1 M G x v):W4 M y v:=by
 unfold toD at h
 split at h
 ·simp only [zqb] at h; subst h; cases a; assumption
 ·simp only [zqb] at h; subst h; cases a; assumption
 ·simp only [zqb] at h; subst h; cases a; assumption
 ·simp only [zqb] at h
  subst h
  cases a with
  | clo hl _=>
   rename_i vs _
   have e:vs = #[]:=Array.eq_empty_of_size_eq_zero (by simpa using hl.symm)
   subst e
   exact .fns
 ·cases h
def A1f:List A→Option (List D)
 | []=>some []
 | x::r=>match toD x,A1f r with | some y,some r'=>some (y::r') | _,_=>none
theorem J1j:∀ {l:List A} {l':List D},A1f l=some l'→l'.length=l.length∧∀ (i:Nat) y,l'[i]?=some y→∃ x,l[i]?=some x∧toD x=some y
 | [],l',h=>by simp [A1f] at h; subst h; exact ⟨rfl,fun i y h=>by simp at h⟩
 | x::r,l',h=>by
  simp only [A1f] at h
  split at h
  ·rename_i y b a hr
   simp only [zqb] at h
   subst h
   obtain ⟨h1,h2⟩:=J1j hr
   refine ⟨by simp [h1],fun i z hz=>?_⟩
   cases i with
   | zero=>simp at hz; subst hz; exact ⟨x,rfl,a⟩
   | succ i=>simpa using h2 i z (by simpa using hz)
  ·cases h
def S10 (sz:Nat):Nat→List A→Option (List Row)
 | 0,_=>some []
 | n+1,l=>match A1f (l.take sz),S10 sz n (l.drop sz) with | some r,some rs=>bif Nat.beq r.length sz then some (r::rs) else none | _,_=>none
theorem Z1c {sz:Nat}:∀ {n:Nat} {l:List A} {rs:List Row},S10 sz n l=some rs→rs.length=n∧(∀ (i:Nat) r,rs[i]?=some r→r.length=sz)∧∀ (i j:Nat) r y,rs[i]?=some r→r[j]?=some y→∃ x,l[i * sz+j]?=some x∧toD x=some y
 | 0,l,rs,h=>by simp [S10] at h; subst h; exact ⟨rfl,fun i r h=>by simp at h,fun i j r y h=>by simp at h⟩
 | n+1,l,rs,h=>by
  simp only [S10] at h
  split at h
  ·rename_i r g hr d
   cases hb:Nat.beq r.length sz with
   | false=>rw [hb] at h; cases h
   | true=>
    rw [hb] at h
    simp only [zqk,zqb] at h
    subst h
    have e:=zqo hb
    obtain ⟨h1,h2,m⟩:=Z1c d
    obtain ⟨o,k⟩:=J1j hr
    refine ⟨by simp [h1],fun i b hi=>?_,fun i j b y hi f=>?_⟩
    ·cases i with
     | zero=>simp at hi; subst hi; exact e
     | succ i=>exact h2 i b (by simpa using hi)
    ·cases i with
     | zero=>
      simp at hi
      subst hi
      obtain ⟨x,a,c⟩:=k j y f
      rw [List.getElem?_take] at a
      split at a
      ·exact ⟨x,by simpa using a,c⟩
      ·cases a
     | succ i=>
      obtain ⟨x,a,c⟩:=m i j b y (by simpa using hi) f
      rw [List.getElem?_drop] at a
      exact ⟨x,by rw [← a]; congr 1; rw [Nat.add_mul]; omega,c⟩
  ·cases h
theorem K1u {M:Mem}{G:Nat→Value}{w:World}(o:Good M w){e sz n:Nat}{l:List A}{cs:Array Value}{rs:List Row}(hc:Bi M G l cs)(h:S10 sz n l=some rs)(hn:n≤maxLen) :
  ∃ M',W4 M' (.sl rs) (.slice (some ⟨w.heap.size,0,none⟩) n n)∧Good M' (w.alloc (.cells cs e))∧Ext C9 M w M' (w.alloc (.cells cs e)):=by
 obtain ⟨M',h1,h2,p⟩:=D1x o cs e
 obtain ⟨g,k,f⟩:=Z1c h
 have a:∀ (i j:Nat) r y,rs[i]?=some r→r[j]?=some y→∃ v,cs[i * sz+j]?=some v∧W4 M y v:=fun i j r y hi c=>by
  obtain ⟨x,d,m⟩:=f i j r y hi c
  have b:i * sz+j < cs.size:=by rw [← hc.1]; exact (zqu.1 d).1
  exact ⟨cs[i * sz+j],Array.getElem?_eq_getElem b,E1x m (hc.2.2 _ x _ d (Array.getElem?_eq_getElem b))⟩
 refine ⟨M',.sl sz (fun i j=>(cs[i * sz+j]?).getD undef) g (zqr _) hn (.inr rfl) k (fun i j r y hi c=>?_) fun i j r y hi c=>?_,h1,h2⟩
 ·obtain ⟨v,hv,_⟩:=a i j r y hi c
  rw [Pe,hv,Nat.zero_add]
  exact p _ v hv
 ·obtain ⟨v,hv,hr⟩:=a i j r y hi c
  rw [hv]
  exact hr.mono h2.mono
def Vy (C:Cx)(L:List Oper)(o:Oper)(env:Env):Option (Option Nat×List Row):=
 match Z1 L env o,o.op,Zc o with
 | some true,.buildSlice t len parts,some d=>match B4 C.T t with
  | some i=>match i.u with
   | .sl e=>match B4 C.T e with
    | some j=>bif Nat.ble len 65536&&Nat.ble j.size 64 then (match Zm (fun i=>some (i * j.size,j.size)) (List.replicate (len * j.size) .junk) (parts.toList.map fun p=>(p.1,ev C.GL env p.2)) with
     | some out=>match S10 j.size len out with | some rs=>some (d,rs) | none=>none
     | none=>none) else none
    | none=>none
   | _=>none
  | none=>none
 | _,_,_=>none
theorem Z1q {P:Program}{T:TT}(c:TOk P T){e:Nat}{j:TI}(b:B4 T e=some j)(len:Nat)(w:World) :
  ∃ z:Array Value,((len * j.size=0∧z = #[])∨(¬ len * j.size=0∧∃ v,(zeroValue e).run P w = .ok v w∧z=v.cells))∧((Array.range (len * j.size)).map (z[· % z.size]!)).size=len * j.size∧∀ (i:Nat) v,((Array.range (len * j.size)).map (z[· % z.size]!))[i]?=some v→v.oneCell'=true:=by
 by_cases h0:len * j.size=0
 ·refine ⟨#[],.inl ⟨h0,rfl⟩,by simp,fun i v hv=>?_⟩
  rw [h0] at hv
  simp at hv
 ·obtain ⟨z,h1,h2,_⟩:=B13 (M:=fun _=>none) (G:=fun _=>undef) c b
  refine ⟨z.cells,.inr ⟨h0,z,h1 w,rfl⟩,by simp,fun i v hv=>?_⟩
  have d:=(c.facts b).pos
  have f:=(c.facts b).len
  have g:z.cells.size=j.size:=by have:=h2.1; simp at this; omega
  rw [Array.getElem?_map] at hv
  cases hr:(Array.range (len * j.size))[i]? with
  | none=>rw [hr] at hv; cases hv
  | some k=>
   rw [hr] at hv
   simp only [zqt,zqb] at hv
   subst hv
   have a:k % z.cells.size < z.cells.size:=Nat.mod_lt _ (by omega)
   rw [getElem!_pos z.cells (k % z.cells.size) a]
   exact h2.2.1 _ _ (Array.getElem?_eq_getElem a)
theorem E13 {C:Cx}{L:List Oper}{o:Oper}{env:Env}{d:Option Nat}{rs:List Row}(h:Vy C L o env=some (d,rs)):Z1 L env o=some true∧Zc o=some d:=by
 unfold Vy at h
 split at h
 ·rename_i t len a e c f b
  split at h
  ·split at h
   ·split at h
    ·rename_i j g
     cases hb:Nat.ble len 65536&&Nat.ble j.size 64 with
     | false=>rw [hb] at h; cases h
     | true=>
      rw [hb] at h
      simp only [zqk] at h
      split at h
      ·split at h
       ·simp only [zqb,zqh] at h
        exact ⟨c,by rw [b,h.1]⟩
       ·cases h
      ·cases h
    ·cases h
   ·cases h
  ·cases h
 ·cases h
theorem F17 {C:Cx}(hC:F3 C){L:List Oper}{o:Oper}{env:Env}{H:N0}{d:Option Nat}{rs:List Row}(h:Vy C L o env=some (d,rs)):Xb C o env H (.full rs):=by
 intro M G w a next X D T Q W hk
 unfold Vy at h
 split at h
 ·rename_i t len b Y Z B E
  rw [B] at D
  split at h
  ·rename_i i ht
   split at h
   ·rename_i e K
    split at h
    ·rename_i j y
     cases hb:Nat.ble len 65536&&Nat.ble j.size 64 with
     | false=>rw [hb] at h; cases h
     | true=>
      rw [hb] at h
      simp only [zqi] at hb
      have V:=Nat.le_of_ble_eq_true hb.1
      have R:=Nat.le_of_ble_eq_true hb.2
      simp only [zqk] at h
      split at h
      ·rename_i out l
       split at h
       ·rename_i I s
        simp only [zqb,zqh] at h
        obtain ⟨rfl,rfl⟩:=h
        have E:=Io (hC.tok.facts ht) K
        obtain ⟨z,hz,n,m⟩:=Z1q hC.tok y len w
        obtain ⟨N,A,U⟩:=Nw (M:=M) (G:=G) (vs:=(Array.range (len * j.size)).map (z[· % z.size]!)) (T1:=(b.map fun (p:Nat×Operand)=>(p.1,a.eval p.2)).toList) ⟨by rw [n]; simp,m,fun i x v k hv=>by
          rw [List.getElem?_replicate] at k
          split at k
          ·simp only [zqb] at k; subst k; exact .junk
          ·cases k⟩ (by simp) (fun i p q hp c=>by
          rw [List.getElem?_map] at hp
          rw [Array.getElem?_toList,Array.getElem?_map] at c
          cases hpi:b[i]? with
          | none=>rw [hpi] at c; cases c
          | some r=>
           rw [Array.getElem?_toList,hpi] at hp
           rw [hpi] at c
           simp only [zqt,zqb] at hp c
           subst hp; subst c
           refine ⟨rfl,D _ ?_⟩
           simp only [Op.operands,List.mem_toArray,List.mem_map,Array.mem_toList_iff]
           exact ⟨r,Array.mem_of_getElem? hpi,rfl⟩) l
        obtain ⟨M',J,S,F⟩:=K1u (e:=e) T U s (by unfold maxLen; omega)
        have g:¬ len * j.size > 2 ^ 24:=by
         have:len * j.size≤65536 * 64:=Nat.mul_le_mul V R
         have O:(2:Nat) ^ 24=16777216:=by decide
         omega
        have f:(Instr.buildSlice t len (b.map fun (p:Nat×Operand)=>(p.1,a.eval p.2))).run C.P w = .ok (.slice (some ⟨w.heap.size,0,none⟩) len len) (w.alloc (.cells N e)):=by
         simp only [Instr.buildSlice,Sem.run_bind,run_underlying E,Result.andThen_ok,Mh (hC.tok.facts y) w]
         rw [zn g]
         rcases hz with ⟨u,rfl⟩ | ⟨u,v,hv,rfl⟩
         ·rw [zp u]
          simp only [Sem.run_bind,Sem.run_pure,Result.andThen_ok,A]
          simp [newRow]
         ·rw [zn u]
          simp only [Sem.run_bind,Sem.run_pure,Result.andThen_ok,hv,A]
          simp [newRow]
        unfold Oper.wp execOp
        simp only [B,Sem.run_bind,f,Result.andThen_ok,Sem.run_pure,Oper.upon_value]
        exact hk _ M' _ (.full J rfl) S F
       ·cases h
      ·cases h
    ·cases h
   ·cases h
  ·cases h
 ·cases h
theorem E0.b {F:Fx}(hC:F3 F.C){L l:List Oper}{o:Oper}{env:Env}{H:N0}{Q:Env→N0→Prop}{d:Option Nat}{rs:List Row}(h:Vy F.C L o env=some (d,rs))(k:E0 F L l (put env d (.full rs)) H Q):E0 F L (o::l) env H Q:=by
 obtain ⟨h1,h2⟩:=E13 h
 refine .yields h1 (F17 hC h) ?_
 rw [W8 h2]
 exact k
theorem AQ.b {C:Cx}(hC:F3 C){L l:List Oper}{o:Oper}{env:Env}{H:N0}{Q:Env→Prop}{d:Option Nat}{rs:List Row}(h:Vy C L o env=some (d,rs))(k:AQ C L l (put env d (.full rs)) H Q):AQ C L (o::l) env H Q:=
 .y _ (E13 h).2 (E13 h).1 (F17 hC h) k
def F13 (C:Cx)(L:List Oper)(o:Oper)(env:Env):Option (Option Nat×List UInt8×Int):=
 match Z1 L env o,o.op with
 | some true,.index t x y=>match B4 C.T t,ev C.GL env x,ev C.GL env y,Zc o with
  | some i,.d (.str s),.d (.int _ n),some d=>match i.u with
   | .str=>some (d,s,n)
   | _=>none
  | _,_,_,_=>none
 | _,_=>none
theorem A1d {C:Cx}{L:List Oper}{o:Oper}{env:Env}{d:Option Nat}{s:List UInt8}{n:Int}(h:F13 C L o env=some (d,s,n)):Z1 L env o=some true∧Zc o=some d:=by
 unfold F13 at h
 split at h
 ·rename_i t x y a c
  split at h
  ·rename_i i s' k m e ht g f b
   split at h
   ·simp only [zqb,zqh] at h
    exact ⟨a,by rw [b,h.1]⟩
   ·cases h
  ·cases h
 ·cases h
theorem R1a {C:Cx}(hC:F3 C){L:List Oper}{o:Oper}{env:Env}{H:N0}{d:Option Nat}{s:List UInt8}{n:Int}(h:F13 C L o env=some (d,s,n)){k:Nat}{b:UInt8}(hn:n=k)(hk:s[k]?=some b):Xb C o env H (.d (.int .u8 b.toNat)):=by
 intro M G w a next E p A v D j
 unfold F13 at h
 split at h
 ·rename_i t x y I q
  rw [q] at p
  split at h
  ·rename_i i s' kd m F ht B z r
   split at h
   ·rename_i u
    simp only [zqb,zqh] at h
    obtain ⟨rfl,rfl,rfl⟩:=h
    have c:=p x (by simp [Op.operands])
    have f:=p y (by simp [Op.operands])
    rw [B] at c
    rw [z] at f
    generalize hxv:a.eval x=xv at c
    generalize hyv:a.eval y=yv at f
    cases c; rename_i c; cases c
    cases f; rename_i f; cases f
    have r:=Wo (hC.tok.facts ht) u
    have l:k < s'.length:=(zqu.1 hk).1
    have g:(⟨s'.toArray⟩:ByteArray)[m.toNat]?=some b:=by
     have e:m.toNat=k:=by omega
     rw [e,getElem?_pos (⟨s'.toArray⟩:ByteArray) k (by rw [Hh]; exact l)]
     have:=(zqu.1 hk).2
     simpa [ByteArray.getElem_eq_getElem_data] using this
    unfold Oper.wp execOp
    have:(Instr.index t (.string ⟨s'.toArray⟩) (.int kd m)).run C.P w = .ok (.int .u8 b.toNat) w:=by
     have hm:0≤m:=by omega
     simp [Instr.index,Rr,run_underlying r,hm,g]
    simp only [q,hxv,hyv,Sem.run_bind,this,Result.andThen_ok,Sem.run_pure,Oper.upon_value]
    exact j _ M w (.d (.int (by rw [S1y]; have:=b.toNat_lt; omega))) A (Ext.refl _ _ _)
   ·cases h
  ·cases h
 ·cases h
theorem E0.x {F:Fx}(hC:F3 F.C){L l:List Oper}{o:Oper}{env:Env}{H:N0}{Q:Env→N0→Prop}{d:Option Nat}{s:List UInt8}{n:Int}(h:F13 F.C L o env=some (d,s,n)){k:Nat}{b:UInt8}(hn:n=k)(hk:s[k]?=some b)
  (a:E0 F L l (put env d (.d (.int .u8 b.toNat))) H Q):E0 F L (o::l) env H Q:=by
 obtain ⟨h1,h2⟩:=A1d h
 refine .yields h1 (R1a hC h hn hk) ?_
 rw [W8 h2]
 exact a
def bnd (GL:GT)(env:Env)(x:Option Operand)(dflt:Int):Option Int:=
 match x with
 | none=>some dflt
 | some y=>match ev GL env y with | .d (.int _ n)=>some n | _=>none
theorem A1r {M:Mem}{G:Nat→Value}{GL:GT}{env:Env}{a:Act}{x:Option Operand}{b n:Int}(h:bnd GL env x b=some n)(c:∀ y,x=some y→L1 M G (ev GL env y) (a.eval y)) :
  (x=none∧n=b)∨∃ y k,x=some y∧a.eval y = .int k n:=by
 unfold bnd at h
 split at h
 ·simp only [zqb] at h; exact .inl ⟨rfl,h.symm⟩
 ·rename_i y
  split at h
  ·rename_i k m d
   simp only [zqb] at h
   subst h
   have hr:=c y rfl
   rw [d] at hr
   generalize hv:a.eval y=v at hr
   cases hr; rename_i hr; cases hr
   exact .inr ⟨y,k,rfl,hv⟩
  ·cases h
def G13 (C:Cx)(L:List Oper)(o:Oper)(env:Env):Option (Option Nat×List UInt8×Int×Int):=
 match Z1 L env o,o.op with
 | some true,.slice t x lo hi none=>match B4 C.T t,ev C.GL env x,Zc o with
  | some i,.d (.str s),some d=>match i.u,bnd C.GL env lo 0,bnd C.GL env hi (s.length:Nat) with
   | .str,some l,some h=>some (d,s,l,h)
   | _,_,_=>none
  | _,_,_=>none
 | _,_=>none
theorem B1d {C:Cx}{L:List Oper}{o:Oper}{env:Env}{r:Option Nat×List UInt8×Int×Int}(h:G13 C L o env=some r):Z1 L env o=some true∧Zc o=some r.1:=by
 unfold G13 at h
 split at h
 ·rename_i t x lo hi b d
  split at h
  ·rename_i i s' e ht c a
   split at h
   ·simp only [zqb] at h
    subst h
    exact ⟨b,a⟩
   ·cases h
  ·cases h
 ·cases h
theorem Y1o {P:Program}{w:World}{isSl:Bool}{len cap l h:Nat}{lo hi:Option Value}(h1:lo=none∧l=0∨∃ k,lo=some (.int k (l:Int)))(h2:hi=none∧h=len∨∃ k,hi=some (.int k (h:Int)))(a:l≤h)(hc:h≤cap) :
  (Instr.sliceBounds isSl len cap lo hi none).run P w = .ok (l,h,cap) w:=by
 have b:∀ (k:IntKind) (n y:Nat) (c:BoundsCode),n≤y→(Instr.sliceBound (.int k (n:Int)) y c).run P w = .ok n w:=fun k n y c d=>by
  simp [Instr.sliceBound,Rr,d]
 rcases h1 with ⟨rfl,rfl⟩ | ⟨k,rfl⟩ <;> rcases h2 with ⟨rfl,rfl⟩ | ⟨k',rfl⟩ <;> simp [Instr.sliceBounds,b _ _ _ _ a,b _ _ _ _ hc]
theorem J1n {a:Act}{x:Option Operand}{b n:Int}{l c:Nat}(h:(x=none∧n=b)∨∃ y k,x=some y∧a.eval y = .int k n)(hl:n=l)(d:b=c):(x.map a.eval=none∧l=c)∨∃ k,x.map a.eval=some (.int k (l:Int)):=by
 rcases h with ⟨rfl,rfl⟩ | ⟨y,k,rfl,e⟩
 ·exact .inl ⟨rfl,by omega⟩
 ·exact .inr ⟨k,by simp [e,hl]⟩
theorem Z1o (s:List UInt8)(l h:Nat):(⟨s.toArray⟩:ByteArray).extract l h=⟨((s.take h).drop l).toArray⟩:=by
 apply ByteArray.ext
 rw [ByteArray.data_extract]
 simp [List.extract_toArray,List.drop_take]
theorem S1a {C:Cx}(hC:F3 C){L:List Oper}{o:Oper}{env:Env}{H:N0}{d:Option Nat}{s:List UInt8}{lo hi:Int}(h:G13 C L o env=some (d,s,lo,hi)){l r:Nat}(hl:lo=l)(hr:hi=r)(j:l≤r)(p:r≤s.length) :
  Xb C o env H (.d (.str ((s.take r).drop l))):=by
 intro M G w a next J c E B I f
 unfold G13 at h
 split at h
 ·rename_i t x e m N q
  rw [q] at c
  split at h
  ·rename_i i s' K ht F u
   split at h
   ·rename_i l' h' z k g
    simp only [zqb,zqh] at h
    obtain ⟨rfl,rfl,rfl,rfl⟩:=h
    have b:=c x (by simp [Op.operands])
    rw [F] at b
    generalize hxv:a.eval x=xv at b
    cases b; rename_i b; cases b
    rename_i A
    have u:=Wo (hC.tok.facts ht) z
    have D:=J1n (A1r k fun y n=>c y (by subst n; simp [Op.operands])) hl rfl
    have v:=J1n (A1r g fun y n=>c y (by subst n; simp [Op.operands])) hr rfl
    have:(Instr.sliceAt t (.string ⟨s'.toArray⟩) (e.map a.eval) (m.map a.eval) none).run C.P w = .ok (.string ⟨((s'.take r).drop l).toArray⟩) w:=by
     have hb:=Y1o (P:=C.P) (w:=w) (isSl:=false) (cap:=s'.length) D v j p
     simp [Instr.sliceAt,Instr.slice,run_underlying u,Hh,hb,Z1o s' l r]
    unfold Oper.wp execOp
    simp only [q,hxv,Option.map_none,Sem.run_bind,this,Result.andThen_ok,Sem.run_pure,Oper.upon_value]
    exact f _ M w (.d (.str (by simp; omega))) E (Ext.refl _ _ _)
   ·cases h
  ·cases h
 ·cases h
theorem E0.l {F:Fx}(hC:F3 F.C){L l:List Oper}{o:Oper}{env:Env}{H:N0}{Q:Env→N0→Prop}{d:Option Nat}{s:List UInt8}{lo hi:Int}(h:G13 F.C L o env=some (d,s,lo,hi)){p r:Nat}(hl:lo=p)(hr:hi=r)(a:p≤r)(b:r≤s.length)
  (c:E0 F L l (put env d (.d (.str ((s.take r).drop p)))) H Q):E0 F L (o::l) env H Q:=by
 obtain ⟨h1,h2⟩:=B1d h
 refine .yields h1 (S1a hC h hl hr a b) ?_
 rw [W8 h2]
 exact c
def W1y:A→Option Row
 | .agg cs=>match A1f cs with
  | some [_]=>none
  | some r=>some r
  | none=>none
 | x=>match toD x with | some y=>some [y] | none=>none
theorem E0.ofAQ {F:Fx}{L:List Oper}{c:List Oper}{H:N0}{Q:Env→N0→Prop}:∀ {l1:List Oper} {env:Env},AQ F.C L l1 env H (fun e=>E0 F L c e H Q)→E0 F L (l1++c) env H Q
 | [],env,h=>h
 | o::r,env,h=>by
  obtain ⟨d,x,rfl,a,hr⟩:=h
  rcases a with ⟨b,f⟩ | ⟨b,rfl⟩
  ·exact .yields b f (E0.ofAQ hr)
  ·exact .skip b (E0.ofAQ hr)
theorem AQ.mono {C:Cx}{L:List Oper}{H:N0}{Q Q':Env→Prop}(a:∀ e,Q e→Q' e):∀ {l:List Oper} {env:Env},AQ C L l env H Q→AQ C L l env H Q'
 | [],_,h=>a _ h
 | _::_,_,⟨d,x,h1,h2,b⟩=>⟨d,x,h1,h2,AQ.mono a b⟩
theorem E0.leE {F:Fx}{L l:List Oper}{env env':Env}{H:N0}{Q:Env→N0→Prop}(d:∀ t,LeA (env' t) (env t))(k:E0 F L l env' H Q):E0 F L l env H Q:=by
 intro fr M G w a e f g hs b c
 exact k fr M G w a e f g ⟨hs.good,hs.gl,hs.hrel,fun t=>(d t).rel (hs.env t),hs.size,hs.defers⟩ b c
theorem AEx.regionQ {F:Fx}{id:Nat}{L:List Oper}{env:Env}{H:N0}{Q:Po}(n:Nat)(a:L.all (X9 F.N)=true)(h:AQ F.C L (L.take n) env H (fun e=>E0 F L (L.drop n) e H (Eo Q))):AEx F (.region id L.toArray false) env H Q:=by
 refine .region a ?_
 have:=E0.ofAQ h
 rwa [List.take_append_drop] at this
abbrev Cnd:=Nat→Option Bool
def A1p:Cnd:=fun _=>none
def Ln (env:Env)(cnd:Cnd):Env:=fun t=>match cnd t with | some false=>.tup [] | _=>env t
def K1j (env:Env)(cnd:Cnd):Env:=fun t=>match cnd t with | none=>env t | _=>.junk
def Ri (cnd:Cnd)(d:Option Nat)(W:Option Bool):Cnd:=match d with | some t=>(fun i=>bif Nat.beq i t then W else cnd i) | none=>cnd
def holds:Option Bool→Prop
 | none=>True
 | some w=>w=true
def wb:Bool→Bool→Bool
 | b,true=>b
 | b,false=>!b
def Ls (L:List Oper)(env:Env)(cnd:Cnd)(o:Oper):Option (Option Bool):=
 match o.guard with
 | none=>some none
 | some (j,want)=>
  match nth L j with
  | some p=>match p.dst with
   | some d=>match env d,cnd d with
    | .d (.bool b),none=>some (some (wb b want))
    | .d (.bool b),some c=>some (some (c&&wb b want))
    | _,_=>none
   | none=>none
  | none=>none
def isW:Option Bool→Bool
 | none=>true
 | some w=>w
theorem L1u {L:List Oper}{env:Env}{cnd:Cnd}{o:Oper}{W:Option Bool}(h:Ls L env cnd o=some W):Z1 L (Ln env cnd) o=some (isW W):=by
 unfold Ls at h
 unfold Z1
 split at h
 ·rename_i hg
  rw [hg]
  simp only [zqb] at h
  subst h
  rfl
 ·rename_i j a hg
  rw [hg]
  simp only
  split at h
  ·rename_i p hp
   rw [hp]
   simp only
   split at h
   ·rename_i d f
    rw [f]
    simp only
    split at h
    ·rename_i b e hc
     simp only [zqb] at h
     subst h
     simp only [Ln,hc,e]
     cases b <;> cases a <;> rfl
    ·rename_i b c e hc
     simp only [zqb] at h
     subst h
     cases c with
     | false=>simp only [Ln,hc]; rfl
     | true=>
      simp only [Ln,hc,e]
      cases b <;> cases a <;> rfl
    ·cases h
   ·cases h
  ·cases h
def AG (C:Cx)(L:List Oper):List Oper→Env→Cnd→N0→(Env→Cnd→Prop)→Prop
 | [],env,cnd,_,Q=>Q env cnd
 | o::r,env,cnd,H,Q=>∃ d W x,o.dst=d∧Ls L env cnd o=some W∧(holds W→Xb C o (Ln env cnd) H x)∧AG C L r (put env d x) (Ri cnd d W) H Q
theorem M1u {env:Env}{cnd:Cnd}{d:Option Nat}{W:Option Bool}{x:A}:Ln (put env d x) (Ri cnd d W)=put (Ln env cnd) d (match W with | some false=>.tup [] | _=>x):=by
 cases d with
 | none=>rfl
 | some t=>
  funext i
  simp only [Ln,Ri,put,upd]
  cases hb:Nat.beq i t with
  | true=>rcases W with _ | _ | _ <;> rfl
  | false=>rfl
theorem AG.aq {C:Cx}{L:List Oper}{H:N0}{Q:Env→Cnd→Prop}:∀ {l:List Oper} {env:Env} {cnd:Cnd},AG C L l env cnd H Q→AQ C L l (Ln env cnd) H (fun e=>∃ env' a,e=Ln env' a∧Q env' a)
 | [],env,cnd,h=>⟨env,cnd,rfl,h⟩
 | o::r,env,cnd,⟨d,W,x,g,f,c,hr⟩=>by
  have:=AG.aq hr
  rw [M1u] at this
  have b:=L1u f
  refine ⟨d,_,g,?_,this⟩
  rcases W with _ | _ | _
  ·exact .inl ⟨b,c trivial⟩
  ·exact .inr ⟨b,rfl⟩
  ·exact .inl ⟨b,c rfl⟩
theorem O1g {env:Env}:Ln env A1p=env:=rfl
theorem K1n {env:Env}{cnd:Cnd}(t:Nat):LeA (K1j env cnd t) (Ln env cnd t):=by
 unfold K1j Ln
 cases cnd t with
 | none=>exact .rfl
 | some c=>exact .junk
theorem AEx.regionG {F:Fx}{id:Nat}{L:List Oper}{env:Env}{H:N0}{Q:Po}(n:Nat)(f:L.all (X9 F.N)=true)(h:AG F.C L (L.take n) env A1p H (fun e c=>E0 F L (L.drop n) (K1j e c) H (Eo Q))):AEx F (.region id L.toArray false) env H Q:=by
 refine .regionQ n f ?_
 have:=AG.aq h
 rw [O1g] at this
 refine this.mono fun e d=>?_
 obtain ⟨env',a,rfl,b⟩:=d
 exact .leE K1n b
theorem AEx.drawG {F:Fx}(hC:F3 F.C){id:Nat}{L:List Oper}{env:Env}{H:N0}{Q:Po}(n:Nat)(i:L.all (X9 F.N)=true)(b:C17 L n=true)(a:Nat.ble n L.length=true)
  (h:AG F.C L (L.take n) env A1p H (fun e c=>E0 F L (L.drop n) (K1j e c) H (Eo Q))):AEx F (.region id L.toArray true) env H Q:=by
 refine .draw hC n i b a ?_
 have:=AG.aq h
 rw [O1g] at this
 refine this.mono fun e g=>?_
 obtain ⟨env',d,rfl,f⟩:=g
 exact .leE K1n f
def Nl (cnd:Cnd):List Operand→Prop
 | []=>True
 | .tmp t::r=>match cnd t with
  | none=>Nl cnd r
  | some c=>c=true∧Nl cnd r
 | _::r=>Nl cnd r
theorem Vj {GL:GT}{env:Env}{cnd:Cnd}:∀ {l:List Operand},Nl cnd l→∀ y∈l,ev GL (Ln env cnd) y=ev GL env y
 | .tmp t::r,h,y,a=>by
  simp only [Nl] at h
  split at h
  ·rename_i hc
   cases a with
   | head=>simp only [ev,Ln,hc]
   | tail _ a=>exact Vj h y a
  ·rename_i c hc
   cases a with
   | head=>simp only [ev,Ln,hc,h.1]
   | tail _ a=>exact Vj h.2 y a
 | .const v::r,h,y,a=>by
  cases a with
  | head=>rfl
  | tail _ a=>exact Vj (l:=r) h y a
 | .global g::r,h,y,a=>by
  cases a with
  | head=>rfl
  | tail _ a=>exact Vj (l:=r) h y a
 | .func f::r,h,y,a=>by
  cases a with
  | head=>rfl
  | tail _ a=>exact Vj (l:=r) h y a
theorem Xb.congr {C:Cx}{o:Oper}{env env':Env}{H:N0}{x:A}(h:Xb C o env H x)(c:∀ y∈o.op.operands,ev C.GL env' y=ev C.GL env y):Xb C o env' H x:=
 fun M G w a next d e=>h M G w a next d fun y b=>by rw [← c y b]; exact e y b
def noG (o:Oper):Oper:={ o with guard:=none }
theorem Xb.noG {C:Cx}{o:Oper}{env:Env}{H:N0}{x:A}(h:Xb C (noG o) env H x):Xb C o env H x:=h
def G1b (o:Oper):List Operand:=o.op.operands.toList
theorem AG.lift {C:Cx}{L l:List Oper}{o:Oper}{env:Env}{cnd:Cnd}{H:N0}{Q:Env→Cnd→Prop}{d:Option Nat}{W:Option Bool}{x:A}(b:Zc o=some d)(c:Ls L env cnd o=some W)(hs:holds W→Nl cnd (G1b o))(a:holds W→Xb C (noG o) env H x)
  (k:AG C L l (put env d x) (Ri cnd d W) H Q):AG C L (o::l) env cnd H Q:=
 ⟨d,W,x,W8 b,c,fun h=>(a h).noG.congr fun y a=>Vj (hs h) y (by simpa [G1b] using a),k⟩
def Ft (C:Cx)(L:List Oper)(o:Oper)(env:Env)(cnd:Cnd)(H:N0):Option (Option Nat×Option Bool×Prop×Prop×A):=
 match Ls L env cnd o,opA C.T C.GL o.op env H with
 | some W,some (c,x)=>match frc x,Zc o with
  | some y,some d=>some (d,W,Nl cnd (G1b o),c,y)
  | _,_=>none
 | _,_=>none
theorem AG.q {C:Cx}(hC:F3 C){L l:List Oper}{o:Oper}{env:Env}{cnd:Cnd}{H:N0}{Q:Env→Cnd→Prop}{d:Option Nat}{W:Option Bool}{S c:Prop}{x:A}(h:Ft C L o env cnd H=some (d,W,S,c,x))(hs:holds W→S∧c)
  (k:AG C L l (put env d x) (Ri cnd d W) H Q):AG C L (o::l) env cnd H Q:=by
 unfold Ft at h
 split at h
 ·rename_i W' c' x' b a
  split at h
  ·rename_i y g e f
   simp only [zqb,zqh] at h
   obtain ⟨rfl,rfl,rfl,rfl,rfl⟩:=h
   obtain rfl:=Dt e
   exact .lift f b (fun h=>(hs h).1) (fun h=>Zs hC (o:=noG o) a (hs h).2) k
  ·cases h
 ·cases h
structure Pk where
 d:Option Nat
 W:Option Bool
 sc:Prop
 t:Bool
 sa:Prop
 sb:Prop
 xa:Bool
 xb:Bool
def T10 (C:Cx)(L:List Oper)(o:Oper)(env:Env)(cnd:Cnd):Option Pk:=
 match Ls L env cnd o,o.op,Zc o with
 | some W,.pick c a b,some d=>match ev C.GL env c,ev C.GL env a,ev C.GL env b with
  | .d (.bool t),.d (.bool xa),.d (.bool xb)=>some ⟨d,W,Nl cnd [c],t,Nl cnd [a],Nl cnd [b],xa,xb⟩
  | _,_,_=>none
 | _,_,_=>none
theorem AG.p {C:Cx}(hC:F3 C){L l:List Oper}{o:Oper}{env:Env}{cnd:Cnd}{H:N0}{Q:Env→Cnd→Prop}{d:Option Nat}{W:Option Bool}{sc sa sb:Prop}{t xa xb:Bool}(h:T10 C L o env cnd=some ⟨d,W,sc,t,sa,sb,xa,xb⟩)
  (hs:holds W→sc∧(t=true→sa)∧(t=false→sb)) (k:AG C L l (put env d (.d (.bool (bif t then xa else xb)))) (Ri cnd d W) H Q):AG C L (o::l) env cnd H Q:=by
 unfold T10 at h
 split at h
 ·rename_i W' c a b q i g n
  split at h
  ·rename_i t' s r hc ha hb
   simp only [zqb,Pk.mk.injEq] at h
   obtain ⟨rfl,rfl,rfl,rfl,rfl,rfl,rfl,rfl⟩:=h
   refine ⟨_,_,_,W8 n,i,fun h=>?_,k⟩
   obtain ⟨h1,h2,m⟩:=hs h
   have j:=Vj (GL:=C.GL) (env:=env) h1 c zqp
   refine Zs hC (c:=True) ?_ trivial
   rw [g]
   simp only [opA,j,hc,P2]
   cases t' with
   | true=>
    have e:=Vj (GL:=C.GL) (env:=env) (h2 rfl) a zqp
    simp only [zqk,e,ha]
   | false=>
    have f:=Vj (GL:=C.GL) (env:=env) (m rfl) b zqp
    simp only [zql,f,hb]
  ·cases h
 ·cases h
def B1r (C:Cx)(L:List Oper)(o:Oper)(env:Env)(cnd:Cnd):Option (Option Nat×Option Bool×Prop×FuncId×List A):=
 match Ls L env cnd o,Vf C.GL env o with
 | some W,some (f,xs)=>match Pi xs,Zc o with
  | some ys,some d=>some (d,W,Nl cnd (G1b o),f,ys)
  | _,_=>none
 | _,_=>none
theorem AG.c {C:Cx}{L l:List Oper}{o:Oper}{env:Env}{cnd:Cnd}{H:N0}{Q:Env→Cnd→Prop}{d:Option Nat}{W:Option Bool}{S:Prop}{f:FuncId}{xs:List A}{x:A}(h:B1r C L o env cnd=some (d,W,S,f,xs))(hn:W2 0 xs=true)
  (hs:holds W→S) (hc:holds W→L0 C f xs [] (fun r H'=>H'=[]∧r=x)) (k:AG C L l (put env d x) (Ri cnd d W) H Q):AG C L (o::l) env cnd H Q:=by
 unfold B1r at h
 split at h
 ·rename_i W' j a e b
  split at h
  ·rename_i ys m g i
   simp only [zqb,zqh] at h
   obtain ⟨rfl,rfl,rfl,rfl,rfl⟩:=h
   obtain rfl:=Zk g
   exact .lift i e hs (fun h=>Pz (o:=noG o) b hn (hc h)) k
  ·cases h
 ·cases h
theorem AG.i {C:Cx}(hC:F3 C){L l:List Oper}{o:Oper}{env:Env}{cnd:Cnd}{H:N0}{Q:Env→Cnd→Prop}{d:Option Nat}{W:Option Bool}{rows:List (List D)}{n:Int}{sz:Nat}(b:Ls L env cnd o=some W)(h:Sv C [] (noG o) env=some (d,rows,n,sz)){k:Nat}{r:List D}
  (hs:holds W→Nl cnd (G1b o)) (hk:holds W→n=k∧rows[k]?=some r∧Nat.beq r.length sz=true) (a:AG C L l (put env d (.ptr r)) (Ri cnd d W) H Q):AG C L (o::l) env cnd H Q:=by
 refine .lift (d:=d) (W:=W) ?_ b hs (fun h'=>Rp hC h (hk h').1 (hk h').2.1 (hk h').2.2) a
 obtain ⟨_,c⟩:=Tv h
 unfold Zc
 have:o.dst=d:=c
 rw [this]
 cases d <;> rfl
theorem AG.x {C:Cx}(hC:F3 C){L l:List Oper}{o:Oper}{env:Env}{cnd:Cnd}{H:N0}{Q:Env→Cnd→Prop}{d:Option Nat}{W:Option Bool}{s:List UInt8}{n:Int}(c:Ls L env cnd o=some W)(h:F13 C [] (noG o) env=some (d,s,n)){k:Nat}{b:UInt8}
  (hs:holds W→Nl cnd (G1b o)) (hk:holds W→n=k∧s[k]?=some b) (a:AG C L l (put env d (.d (.int .u8 b.toNat))) (Ri cnd d W) H Q):AG C L (o::l) env cnd H Q:=by
 refine .lift (d:=d) (W:=W) ?_ c hs (fun h'=>R1a hC h (hk h').1 (hk h').2) a
 have:=(A1d h).2
 exact this
theorem Y21 {t:Bool}(h:t=false):wb t false=true:=by subst h; rfl
theorem Z21 {t:Bool}(h:t=true):wb t true=true:=by subst h; rfl
theorem P20 {c t:Bool}(h:c=true)(h':t=false):(c&&wb t false)=true:=by subst h; subst h'; rfl
theorem Q20 {c t:Bool}(h:c=true)(h':t=true):(c&&wb t true)=true:=by subst h; subst h'; rfl
def Ko:List Oper→Bool
 | []=>true
 | o::r=>o.guard.isNone&&Ko r
theorem AEx.regionN {F:Fx}{id:Nat}{L:List Oper}{env:Env}{H:N0}{Q:Po}(_hg:Ko L=true)(a:L.all (X9 F.N)=true)(h:E0 F L L env H (Eo Q)):AEx F (.region id L.toArray false) env H Q:=.region a h
theorem C1r {M:Mem}{w w':World}(h:Go.RowKit.Below w.heap.size w w'):Ext C9 M w M w':=
 ⟨fun _ _ e=>e,h.size,h.os,h.output,h.tape,fun b hb _=>h.block b hb,fun _ _ e=>.inl e⟩
theorem L0.ofBelow {C:Cx}{f:FuncId}{args:List A}{r:A}(hf:Jo C.P f=true)
  (h:∀ M G w (vs:Array Value),Good M w→Sr C M w→args.length=vs.size→(∀ (i:Nat) x v,args[i]?=some x→vs[i]?=some v→L1 M G x v)→
   ∃ v,(∀ M G,L1 M G r v)∧Calls C.P f vs w fun e w'=>e = .returned v∧Go.RowKit.Below w.heap.size w w'):L0 C f args [] (fun x H'=>H'=[]∧x=r):=by
 refine ⟨hf,fun M G w vs hg c g hl hr=>?_⟩
 obtain ⟨v,hv,hc⟩:=h M G w vs hg c hl hr
 refine hc.mono fun e w' ⟨d,hb⟩=>?_
 have a:Ext C9 M w M w':=C1r hb
 refine ⟨v,r,[],M,G,d,⟨rfl,rfl⟩,hv M G,?_,?_,a.weaken (fun _ h=>h.elim),fun b hb=>.inl hb,zqr _,fun o x j=>by simp at j⟩
 ·exact hg.ext a fun _ _ _ h=>h.elim
 ·exact g.ext a fun _ _ h=>h
theorem Ul {args:List A}{vs:Array Value}{M:Mem}{G:Nat→Value}{s:List UInt8}{i:Nat}(hl:args.length=vs.size)(h:∀ (i:Nat) x v,args[i]?=some x→vs[i]?=some v→L1 M G x v)(hi:args[i]?=some (.d (.str s))) :
  vs[i]?=some (.string ⟨s.toArray⟩)∧s.length≤maxLen:=by
 have a:i < vs.size:=by rw [← hl]; exact (zqu.1 hi).1
 have hv:vs[i]?=some vs[i]:=Array.getElem?_eq_getElem a
 have hr:=h i _ _ hi hv
 generalize vs[i]=v at hr hv
 cases hr; rename_i hr; cases hr
 exact ⟨hv,by assumption⟩
theorem L1j {args:List A}{vs:Array Value}{M:Mem}{G:Nat→Value}{k:IntKind}{n:Int}{i:Nat}(hl:args.length=vs.size)(h:∀ (i:Nat) x v,args[i]?=some x→vs[i]?=some v→L1 M G x v)(hi:args[i]?=some (.d (.int k n))) :
  vs[i]?=some (.int k n)∧InK k n:=by
 have a:i < vs.size:=by rw [← hl]; exact (zqu.1 hi).1
 have hv:vs[i]?=some vs[i]:=Array.getElem?_eq_getElem a
 have hr:=h i _ _ hi hv
 generalize vs[i]=v at hr hv
 cases hr; rename_i hr; cases hr
 exact ⟨hv,by assumption⟩
theorem X1y {vs:Array Value}{a:Value}(hl:vs.size=1)(b:vs[0]?=some a):vs = #[a]:=by
 apply Array.ext_getElem?
 intro i
 match i with
 | 0=>simpa using b
 | i+1=>rw [Array.getElem?_eq_none (by omega),Array.getElem?_eq_none (by simp)]
theorem N1u {vs:Array Value}{a b:Value}(hl:vs.size=2)(c:vs[0]?=some a)(h1:vs[1]?=some b):vs = #[a,b]:=by
 apply Array.ext_getElem?
 intro i
 match i with
 | 0=>simpa using c
 | 1=>simpa using h1
 | i+2=>rw [Array.getElem?_eq_none (by omega),Array.getElem?_eq_none (by simp)]
theorem Xr {P:Program}{f:FuncId}{fn:Func}(hf:P.funcs[f]?=some fn)(hn:(fn.name == "runtime.NumGoroutine")=false)(hb:fn.body.isSome=true):Jo P f=true:=by simp [Jo,hf,hb,hn]
def H1b:List A→Option (List A)
 | []=>some []
 | x::r=>match frc x,H1b r with | some y,some r'=>some (y::r') | _,_=>none
theorem L1n:∀ {l l':List A},H1b l=some l'→l'=l
 | [],l',h=>by simp [H1b] at h; exact h
 | x::r,l',h=>by
  simp only [H1b] at h
  split at h
  ·rename_i y b a hr
   simp only [zqb] at h
   rw [← h,Dt a,L1n hr]
  ·cases h
def Sg:N0→Option N0
 | []=>some []
 | .row cs e::r=>match H1b cs,Sg r with | some cs',some r'=>some (.row cs' e::r') | _,_=>none
 | .dead::r=>match Sg r with | some r'=>some (.dead::r') | none=>none
 | .bld o e::r=>match Sg r with | some r'=>some (.bld o e::r') | none=>none
 | .buf e sz::r=>match Sg r with | some r'=>some (.buf e sz::r') | none=>none
 | .tok e sz::r=>match Sg r with | some r'=>some (.tok e sz::r') | none=>none
 | .map es::r=>match Sg r with | some r'=>some (.map es::r') | none=>none
theorem Al:∀ {H H':N0},Sg H=some H'→H'=H
 | [],H',h=>by simp [Sg] at h; exact h
 | .row cs e::r,H',h=>by
  simp only [Sg] at h
  split at h
  ·rename_i b a hc hr
   simp only [zqb] at h
   rw [← h,L1n hc,Al hr]
  ·cases h
 | .dead::r,H',h=>by
  simp only [Sg] at h
  split at h
  ·rename_i a hr
   simp only [zqb] at h
   rw [← h,Al hr]
  ·cases h
 | .bld o e::r,H',h=>by
  simp only [Sg] at h
  split at h
  ·rename_i a hr
   simp only [zqb] at h
   rw [← h,Al hr]
  ·cases h
 | .buf e sz::r,H',h=>by
  simp only [Sg] at h
  split at h
  ·rename_i a hr
   simp only [zqb] at h
   rw [← h,Al hr]
  ·cases h
 | .tok e sz::r,H',h=>by
  simp only [Sg] at h
  split at h
  ·rename_i a hr
   simp only [zqb] at h
   rw [← h,Al hr]
  ·cases h
 | .map es::r,H',h=>by
  simp only [Sg] at h
  split at h
  ·rename_i a hr
   simp only [zqb] at h
   rw [← h,Al hr]
  ·cases h
mutual
theorem D1r:∀ x:A,dg [] x=x
 | .osl _ _=>rfl
 | .clo _ cs=>by simp only [dg,U10 cs]
 | .bnd _ cs=>by simp only [dg,U10 cs]
 | .agg cs=>by simp only [dg,U10 cs]
 | .tup cs=>by simp only [dg,U10 cs]
 | .d _=>rfl
 | .junk=>rfl
 | .ref _ _=>rfl
 | .ptr _=>rfl
 | .full _=>rfl
 | .rsl _ _ _ _=>rfl
 | .mp _=>rfl
theorem U10:∀ l:List A,dgL [] l=l
 | []=>rfl
 | x::r=>by simp only [dgL,D1r x,U10 r]
end
def Pw (P:Program)(c:Code)(Q:Exit→Act→World→Prop)(a:Act)(w:World):Prop:=
 ∀ (b:Frame) (k:List Item) (cs:List Frame),∃ e a' w',Q e a' w'∧Arrives P (lone (b.at a (.code c :: .inLoop c::k)) cs w) b k cs e a' w'
theorem Pw.loop {P:Program}{c:Code}{Q:Exit→Act→World→Prop}{a:Act}{w:World}(h:Pw P c Q a w):(Code.loop c).wp P Q a w:=by
 intro b k cs
 obtain ⟨e,g,w',f,d⟩:=h b k cs
 exact ⟨e,g,w',f,.of_steps (.one step_loop) d⟩
theorem Pw.unroll {P:Program}{c:Code}{Q:Exit→Act→World→Prop}{a:Act}{w:World}(h:c.wp P (Exit.then (Pw P c Q) Q) a w):Pw P c Q a w:=by
 intro b k cs
 obtain ⟨e,i,j,g,d⟩:=h b (.inLoop c::k) cs
 cases e with
 | normal=>
  obtain ⟨o,p,n,m,f⟩:=g b k cs
  exact ⟨o,p,n,m,.of_steps (Steps.trans d (.one step_inLoop)) f⟩
 | exit id=>exact ⟨_,i,j,g,.pass (x:=.inLoop c) rfl (fun _ _=>.inl (by simp)) d⟩
 | goto l=>exact ⟨_,i,j,g,.pass (x:=.inLoop c) rfl (fun _ _=>.inl (by simp)) d⟩
 | ret=>exact ⟨_,i,j,g,.pass (x:=.inLoop c) rfl (fun _ _=>.inl (by simp)) d⟩
 | panic q=>exact ⟨_,i,j,g,.pass (x:=.inLoop c) rfl (fun _ _=>.inl (by simp)) d⟩
 | outgrown=>exact ⟨_,i,j,g,.pass (x:=.inLoop c) rfl (fun _ _=>.inl (by simp)) d⟩
def Y0 (F:Fx)(c:Code)(env:Env)(H:N0)(Q:Po):Prop:=
 ∀ fr M G w a,fr.H0.length=F.K→St F.C F.N M G w env H a→Q2 fr M G w H→Pw F.C.P c (Fin F fr Q) a w
def L1w (F:Fx)(c:Code)(Q:Po):Po
 | .normal,e,h=>Y0 F c e h Q
 | x,e,h=>Q x e h
theorem AEx.ofLoop {F:Fx}{c:Code}{env:Env}{H:N0}{Q:Po}(h:Y0 F c env H Q):AEx F (.loop c) env H Q:=
 fun fr M G w a d hs b=>(h fr M G w a d hs b).loop
theorem Y0.unroll {F:Fx}{c:Code}{env:Env}{H:N0}{Q:Po}(h:AEx F c env H (L1w F c Q)):Y0 F c env H Q:=by
 intro fr M G w f i hs g
 refine Pw.unroll (wp_mono (h fr M G w f i hs g) fun e k w' j=>?_)
 rcases j with ⟨x,env',H',M',G',rfl,b,d,a⟩ | ⟨v,env',H',M',G',rfl,b⟩ | ⟨rfl | ⟨l,rfl⟩,b⟩
 ·cases x with
  | normal=>exact b fr M' G' w' k i d a
  | exit id=>exact .inl ⟨.exit id,_,_,_,_,rfl,b,d,a⟩
  | ret=>exact .inl ⟨.ret,_,_,_,_,rfl,b,d,a⟩
 ·exact .inr (.inl ⟨v,_,_,_,_,rfl,b⟩)
 ·exact .inr (.inr ⟨.inl rfl,b⟩)
 ·exact .inr (.inr ⟨.inr ⟨_,rfl⟩,b⟩)
theorem Y0.wk {F:Fx}{c:Code}{env:Env}{H:N0}{Q:Po}{L:List (Nat×A)}{H2:N0}(e:Wk F.K env H L H2)(h:Y0 F c (Je L) H2 Q):Y0 F c env H Q:=by
 intro fr M G w b d hs a
 exact h fr M _ w b d (e.st hs) (e.since d a)
def Gt (f:Func):Code:=match f.body with | some c=>c | none=>.skip
def sl:Code→Code | .seq a _=>a | c=>c
def sr:Code→Code | .seq _ b=>b | c=>c
def ca:Code→Code | .cond _ a _=>a | c=>c
def cb:Code→Code | .cond _ _ b=>b | c=>c
def bk:Code→Code | .block _ c=>c | c=>c
def lo:Code→Code | .loop c=>c | c=>c
theorem bind_some {α β:Type}{x:Option α}{f:α→Option β}{r:β}(h:(x>>=f)=some r):∃ a,x=some a∧f a=some r:=by
 cases x with
 | none=>cases h
 | some a=>exact ⟨a,rfl,h⟩
theorem Z0 {α:Type}{p:Prop}[Decidable p]{x:Option α}{r:α}(h:(if decide p=true then x else none)=some r):p∧x=some r:=by
 by_cases hp:p
 ·rw [zp (zqj hp)] at h; exact ⟨hp,h⟩
 ·rw [zn (by simpa using hp)] at h; cases h
theorem M1j {α:Type}{w:Bool}{p:Prop}[Decidable p]{x:Option α}{r:α}(h:(if (!w||decide p)=true then x else none)=some r):(w=true→p)∧x=some r:=by
 by_cases hp:(!w||decide p)=true
 ·rw [zp hp] at h
  exact ⟨fun a=>by subst a; simpa using hp,h⟩
 ·rw [zn hp] at h; cases h
theorem G1 {α:Type}{b:Bool}{x y:Option α}{r:α}(hb:b=true)(h:(if b=true then x else y)=some r):x=some r:=by rw [zp hb] at h; exact h
theorem A22 {α:Type}{b:Bool}{x y:Option α}{r:α}(hb:b=false)(h:(if b=true then x else y)=some r):y=some r:=by rw [zn (by rw [hb]; decide)] at h; exact h
abbrev Str:=List UInt8
def idx {α:Type}(l:List α)(n:Int):Option α:=if 0≤n then l[n.toNat]? else none
theorem D1 {α:Type}{l:List α}{n:Int}{x:α}(h:idx l n=some x):n=(n.toNat:Int):=by
 unfold idx at h
 split at h
 ·omega
 ·cases h
theorem X5 {α:Type}{l:List α}{n:Int}{x:α}(h:idx l n=some x):l[n.toNat]?=some x:=by
 unfold idx at h
 split at h
 ·exact h
 ·cases h
def slc {α:Type}(l:List α)(a b:Int):Option (List α):=if 0≤a∧a≤b∧b≤l.length then some ((l.take b.toNat).drop a.toNat) else none
theorem P1g {α:Type}{l x:List α}{a b:Int}(h:slc l a b=some x):a=(a.toNat:Int)∧b=(b.toNat:Int)∧a.toNat≤b.toNat∧b.toNat≤l.length∧x=(l.take b.toNat).drop a.toNat:=by
 unfold slc at h
 split at h
 ·cases h; exact ⟨by omega,by omega,by omega,by omega,rfl⟩
 ·cases h
theorem N1 {a b c d n:Nat}(ha:c=a)(hb:d=b)(h:(a+b) * n≤140737488355328):(c+d) * n≤140737488355328:=by subst ha; subst hb; exact h
section
variable {α:Type}{f:α→Row}{g:List α→List Row}{h:α→A}
theorem Wj (hg:∀ l,g l=l.map f){l:List α}{n:Int}{x:α}(h:idx l n=some x):(g l)[n.toNat]?=some (f x):=by simp [hg,X5 h]
theorem Lo (hg:∀ l,g l=l.map f)(l m:List α):g (l++m)=g l++g m:=by simp [hg]
theorem Mo (hg:∀ l,g l=l.map f)(l:List α):(g l).length=l.length:=by simp [hg]
theorem Nh (hg:∀ l,g l=l.map f)(l:List α):A.d (.int .i64 ((g l).length:Nat))=A.d (.int .i64 (l.length:Nat)):=by simp [hg]
theorem Yr (hg:∀ l,g l=l.map f){n:Nat}(hn:∀ x,(f x).length=n)(l:List α):∀ r∈g l,r.length=n:=by
 intro r hr
 rw [hg] at hr
 obtain ⟨x,_,rfl⟩:=List.mem_map.1 hr
 exact hn x
end
theorem E0.qe {F:Fx}(hC:F3 F.C){L l:List Oper}{o:Oper}{env:Env}{H:N0}{Q:Env→N0→Prop}{d:Option Nat}{c:Prop}{x y:A}(h:Cg F.C L o env H=some (d,c,x))(hc:c)(e:x=y)
  (k:E0 F L l (put env d y) H Q):E0 F L (o::l) env H Q:=by subst e; exact .q hC h hc k
theorem AQ.qe {C:Cx}(hC:F3 C){L l:List Oper}{o:Oper}{env:Env}{H:N0}{Q:Env→Prop}{d:Option Nat}{c:Prop}{x y:A}(h:Cg C L o env H=some (d,c,x))(hc:c)(e:x=y)(k:AQ C L l (put env d y) H Q):AQ C L (o::l) env H Q:=by
 subst e; exact .q hC h hc k
theorem AG.qe {C:Cx}(hC:F3 C){L l:List Oper}{o:Oper}{env:Env}{cnd:Cnd}{H:N0}{Q:Env→Cnd→Prop}{d:Option Nat}{W:Option Bool}{S c:Prop}{x y:A}(h:Ft C L o env cnd H=some (d,W,S,c,x))(hs:holds W→S∧c)(e:x=y)
  (k:AG C L l (put env d y) (Ri cnd d W) H Q):AG C L (o::l) env cnd H Q:=by subst e; exact .q hC h hs k
theorem E0.lx {F:Fx}(hC:F3 F.C){L l:List Oper}{o:Oper}{env:Env}{H:N0}{Q:Env→N0→Prop}{d:Option Nat}{s x:List UInt8}{lo hi:Int}(h:G13 F.C L o env=some (d,s,lo,hi))(e:slc s lo hi=some x)
  (a:E0 F L l (put env d (.d (.str x))) H Q):E0 F L (o::l) env H Q:=by
 obtain ⟨h1,h2,c,b,rfl⟩:=P1g e
 exact .l hC h h1 h2 c b a
theorem E0.ap {F:Fx}(hC:F3 F.C){L l:List Oper}{o:Oper}{env:Env}{H:N0}{Q:Env→N0→Prop}{d:Option Nat}{p:Nat}{b:Bool}{rows news rs:List Row}{sz bytes:Nat}{H':N0}
  (h:X1o F.C L o env H=some ⟨d,p,b,rows,news,sz,bytes,H'⟩) (e:rs=rows++news) (h1:∀ r∈rows,r.length=sz) (h2:∀ r∈news,r.length=sz) (c:(rows.length+news.length) * (bytes+1)≤140737488355328)
  (k:E0 F L l (put (bif b then env else fun t=>dg [p] (env t)) d (.osl p rs)) H' Q):E0 F L (o::l) env H Q:=by subst e; exact .a hC h h1 h2 c k
def P23 (C:Cx)(L:List Oper)(o:Oper)(env:Env)(H:N0):Option (Nat×List UInt8×Row×List (List UInt8×Row)):=
 match Z1 L env o,o.op,o.dst with
 | some true,.mapUpdate t x y z,none=>match B4 C.T t,ev C.GL env x,ev C.GL env y,W1y (ev C.GL env z) with
  | some i,.mp p,.d (.str k),some cs=>match i.u,nth H p with
   | .map kt _,some (.map (.s es))=>match B4 C.T kt with
    | some ki=>match ki.u with
     | .str=>some (p,k,cs,es)
     | _=>none
    | none=>none
   | _,_=>none
  | _,_,_,_=>none
 | _,_,_=>none
theorem E0.be {F:Fx}(hC:F3 F.C){L l:List Oper}{o:Oper}{env:Env}{H:N0}{Q:Env→N0→Prop}{d:Option Nat}{rs a:List Row}(h:Vy F.C L o env=some (d,rs))(e:rs=a)(k:E0 F L l (put env d (.full a)) H Q):E0 F L (o::l) env H Q:=by subst e; exact .b hC h k
theorem AQ.be {C:Cx}(hC:F3 C){L l:List Oper}{o:Oper}{env:Env}{H:N0}{Q:Env→Prop}{d:Option Nat}{rs a:List Row}(h:Vy C L o env=some (d,rs))(e:rs=a)(k:AQ C L l (put env d (.full a)) H Q):AQ C L (o::l) env H Q:=by subst e; exact .b hC h k
theorem N1j {C:Cx}{o:Oper}{env:Env}{H:N0}{f:FuncId}{xs ys:List A}{x:A}(ha:Vf C.GL env o=some (f,xs))(b:LeL ys xs)(hn:W2 0 ys=true)(hc:L0 C f ys [] (fun r H'=>H'=[]∧r=x)):Xb C o env H x:=by
 intro M G w a next n j k c m hk
 obtain ⟨vs,h1,h2,l⟩:=Oz ha j hc.1
 unfold Oper.wp
 rw [h1 w]
 refine (U1c hn hc k c (b.spec.1.trans h2) (b.rels l)).mono fun e w' d=>?_
 obtain ⟨v,r,M',rfl,rfl,h,i,g⟩:=d
 exact hk v M' w' (h G) i g
theorem E0.cl {F:Fx}{L l:List Oper}{o:Oper}{env:Env}{H:N0}{Q:Env→N0→Prop}{d:Option Nat}{f:FuncId}{xs ys:List A}{x:A}(h:Ke F.C L o env=some (d,f,xs))(hc:L0 F.C f ys [] (fun r H'=>H'=[]∧r=x))(a:LeL ys xs)(hn:W2 0 ys=true)
  (k:E0 F L l (put env d x) H Q):E0 F L (o::l) env H Q:=by
 obtain ⟨h1,h2,rfl⟩:=Qp h
 exact .yields h1 (N1j h2 a hn hc) k
theorem E0.g {F:Fx}{L l:List Oper}{o:Oper}{env:Env}{H H':N0}{Q:Env→N0→Prop}{d:Option Nat}{g:FuncId}{xs:List A}{x y:A}(idx:List Nat){a:List A}{cH b:N0}
  (h:Ke F.C L o env=some (d,g,xs)) (hc:L0 F.C g a cH (fun r h=>h=b∧r=x)) (m:LeL (Re (M3 idx H.length) a) xs) (hi:Ii idx H.length=true) (hm:Up (M3 idx H.length) H idx cH)
  (hr:frc (ren (M3 idx H.length) x)=some y) (i:Sg (E9 H idx (M3 idx H.length) (K5 idx cH) b)=some H') (k:E0 F L l (put (fun t=>dg (K5 idx cH) (env t)) d y) H' Q):E0 F L (o::l) env H Q:=by
 refine .callHL idx a cH h m hi hm hc fun r c ⟨j,e⟩=>?_
 subst j; subst e
 have n:=Al i
 have f:=Dt hr
 subst n; subst f
 exact k
def zf:D→A
 | .sl []=>.full []
 | x=>.d x
theorem Y1y {M:Mem}{G:Nat→Value}{x:D}{v:Value}(h:zB v x=true):L1 M G (zf x) v:=by
 have h':=Pv h M
 unfold zf
 split
 ·unfold zB at h
  split at h <;> first | contradiction | skip
  exact .full .slnil trivial
 ·exact .d h'
theorem Qz {P:Program}{M:Mem}{G:Nat→Value}{T:TT}(e:TOk P T){t:Nat}{i:TI}(ht:B4 T t=some i):∃ z,(∀ w,(zeroValue t).run P w = .ok z w)∧Bi M G (i.zero.map zf) z.cells:=by
 obtain ⟨j,h1,h2,h,z,f,d,c,g⟩:=(e.facts ht).info
 refine ⟨z,fun w=>by simp [zeroValue,typeInfo,h1,f],by simpa using d.symm,fun n v hv=>?_,fun n x v a hv=>?_⟩
 ·have b:n < i.zero.length:=by rw [← d]; simpa using (Array.getElem?_eq_some_iff.1 hv).1
  exact (Pv (c n v _ hv (zqv b)) M).one
 ·rw [List.getElem?_map] at a
  cases hz:i.zero[n]? with
  | none=>rw [hz] at a; cases a
  | some y=>
   rw [hz] at a
   simp only [zqt,zqb] at a
   subst a
   exact Y1y (c n v y hv hz)
def E1r (C:Cx)(L:List Oper)(o:Oper)(env:Env)(H:N0):Option (Option Nat×Nat×N0):=
 match Z1 L env o,o.op with
 | some true,.alloc t=>match B4 C.T t with
  | some i=>match Pi (i.zero.map zf) with
   | some cs=>match Rv H (.row cs t),Zc o with | some (n,H'),some d=>some (d,n,H') | _,_=>none
   | none=>none
  | none=>none
 | _,_=>none
theorem E0.nf {F:Fx}(hC:F3 F.C){L l:List Oper}{o:Oper}{env:Env}{H H':N0}{Q:Env→N0→Prop}{d:Option Nat}{n:Nat}(h:E1r F.C L o env H=some (d,n,H'))
  (k:E0 F L l (put env d (.ref n 0)) H' Q):E0 F L (o::l) env H Q:=by
 unfold E1r at h
 split at h
 ·rename_i t g f
  split at h
  ·rename_i i ht
   split at h
   ·rename_i cs b
    split at h
    ·rename_i n' H2 p hp j
     simp only [zqb,zqh] at h
     obtain ⟨rfl,rfl,rfl⟩:=h
     obtain ⟨rfl,rfl⟩:=Tr hp
     have:=Zk b
     subst this
     refine Nj g fun fr M G w a K m q e hs c hk=>?_
     obtain ⟨z,h1,h2⟩:=Qz (M:=M) (G:=G) hC.tok ht
     have hr:(execOp a.eval o).run F.C.P w = .ok (.value (.pointer (some ⟨w.heap.size,0,none⟩))) (w.alloc (.cells z.cells t)):=by
      unfold execOp
      simp [f,Instr.alloc,h1,newVar,newRow]
     unfold Oper.wp
     rw [hr]
     rw [← W8 j] at k
     exact hk _ _ _ _ _ _ _ k (hs.newRow (G6 e) h2) (Q2.newRow c)
    ·cases h
   ·cases h
  ·cases h
 ·cases h
theorem E0.tokE {F:Fx}{L l:List Oper}{env:Env}{H:N0}{Q:Env→N0→Prop}(t e sz:Nat){rows:List Row}(h:env t = .full rows)(k:E0 F L l (upd env t (.osl H.length rows)) (H++[.tok e sz]) Q):E0 F L l env H Q:=by
 intro fr M G w a j m n hs g i
 have hr:=hs.env t
 rw [h] at hr
 generalize hv:a.tmps.getD t undef=v at hr
 cases hr
 rename_i hf d
 obtain ⟨t1,t2⟩:=Ks (G:=G) (w:=w) d hf e sz
 have f:=g.newTok (Ext.refl C9 M w) (e:=e) (sz:=sz) (v':=v) fun b hb=>absurd hb (t2 b)
 have c:=hs.newTok (dst:=none) (by simp) (Ext.refl C9 M w) hs.good (e:=e) (sz:=sz) (v':=v) (x:=.osl H.length rows) t1 (fun b hb=>absurd hb (t2 b)) (.osl d E4)
 refine k fr M _ w a j m n ⟨c.good,c.gl,c.hrel,fun s=>?_,hs.size,hs.defers⟩ f i
 unfold upd
 cases hb:Nat.beq s t with
 | true=>
  obtain rfl:=zqo hb
  rw [hv]
  exact .osl d E4
 | false=>exact c.env s
theorem E0.tokC {F:Fx}{L l:List Oper}{env:Env}{H:N0}{Q:Env→N0→Prop}(o n e sz:Nat){cs E:List A}{el m:Nat}{rows:List Row}{Y H2:N0}(O:nth H o=some (.row cs el))(h:nth cs n=some (.full rows))(hp:Rv H (.tok e sz)=some (m,Y))(T:Mu cs n [.osl m rows]=some E)(hH:Np Y o (.row E el)=some H2)
  (k:E0 F L l env H2 Q):E0 F L l env H Q:=by
 intro fr M G w a Qw hK hd hs S hq
 obtain ⟨rfl,rfl⟩:=Tr hp
 have e1:=H19 T
 have e2:=C13 hH
 subst e1
 subst e2
 rw [Q3] at O h
 have B:o < H.length:=(zqu.1 O).1
 have a0:n < cs.length:=(zqu.1 h).1
 obtain ⟨b,vs,K,Z,g3,g4,g5,g6⟩:=hs.hrel.obj o _ O
 have t:vs[n]?=some vs[n]:=Array.getElem?_eq_getElem (by omega)
 have hr:=g5 n _ _ h t
 generalize hv:vs[n]=v at hr t
 cases hr
 rename_i hf D
 obtain ⟨t1,t2⟩:=Ks (G:=G) (w:=w) D hf e sz
 have f:=S.newTok (Ext.refl C9 M w) (e:=e) (sz:=sz) (v':=v) fun b hb=>absurd hb (t2 b)
 have g:=hs.newTok (dst:=none) (by simp) (Ext.refl C9 M w) hs.good (e:=e) (sz:=sz) (v':=v) (x:=.junk) t1 (fun b hb=>absurd hb (t2 b)) .junk
 have r:Y7 G H.length v o=G o:=A3 (Nat.ne_of_lt B)
 have s:(H++[Ob.tok e sz])[o]?=some (.row cs el):=by rw [zqx B]; exact O
 have p:o < (H++[Ob.tok e sz]).length:=by simp; omega
 obtain ⟨b',a1,N,U,q3,q4,q5,q6⟩:=g.hrel.obj o _ s
 rw [r] at N
 rw [K] at N
 simp at N
 subst N
 rw [Z] at U
 simp at U
 subst U
 have I:=fun i=>Ys cs n [.osl H.length rows] i (by simp; omega)
 refine k fr M (Y7 G H.length v) w a Qw hK hd ⟨g.good,g.gl,⟨fun i x hi=>?_,fun i i' x x' c hi W C R=>?_,fun i hi=>g.hrel.fresh i (by rw [Sl] at hi; exact hi)⟩,g.env,hs.size,hs.defers⟩ ?_ hq
 ·rw [Ae _ o _ i p] at hi
  split at hi
  ·rename_i e; subst e
   simp only [zqb] at hi
   subst hi
   refine ⟨b,vs,by rw [r]; exact K,Z,by rw [Xs]; exact g3,g4,fun j y u q V=>?_,g6⟩
   rw [I j] at q
   split at q
   ·rename_i hj
    have:j=n:=by simp at hj; omega
    subst this
    simp at q
    subst q
    rw [t] at V
    obtain rfl:=Option.some.inj V
    exact .osl D E4
   ·exact q5 j y u q V
  ·exact g.hrel.obj i x hi
 ·have key:∀ (n':Nat) z d,(Wc (H++[Ob.tok e sz]) o (Ob.row (Ff cs n [.osl H.length rows]) el))[n']?=some z→blk z (Y7 G H.length v n')=some d→∃ y,(H++[Ob.tok e sz])[n']?=some y∧blk y (Y7 G H.length v n')=some d:=by
   intro n' z d hn hz
   rw [Ae _ o _ n' p] at hn
   by_cases e:n'=o
   ·rw [zp e] at hn
    subst e
    obtain rfl:=Option.some.inj hn
    exact ⟨_,s,by rw [r,K] at hz ⊢; exact hz⟩
   ·rw [zn e] at hn
    exact ⟨z,hn,hz⟩
  obtain ⟨y,q,P⟩:=key i x c hi C
  obtain ⟨y',X,J⟩:=key i' x' c W R
  exact g.hrel.apart i i' y y' c q X P J
 ·refine ⟨f.ext,fun c ⟨i,x,hi,C⟩=>?_,by rw [Sl]; exact f.len,f.keep,fun i x y hi ht q=>?_⟩
  ·rw [Ae _ o _ i p] at hi
   by_cases e:i=o
   ·rw [zp e] at hi
    subst e
    obtain rfl:=Option.some.inj hi
    exact f.own c ⟨i,_,s,by rw [r,K] at C ⊢; exact C⟩
   ·rw [zn e] at hi
    exact f.own c ⟨i,x,hi,C⟩
  ·rw [Ae _ o _ i p] at q
   by_cases e:i=o
   ·rw [zp e] at q
    obtain rfl:=Option.some.inj q
    rfl
   ·rw [zn e] at q
    exact f.kind i x y hi ht q
theorem Q1g {P:Program}{o:Oper}{a:Act}{w:World}{K:Act→World→Prop}{Q Q':Exit→Act→World→Prop}(h1:∀ c a w,Q (.panic c) a w→Q' (.panic c) a w)(h2:LetsOut Q→LetsOut Q')
  (h:o.wp P a w K Q):o.wp P a w K Q':=by
 unfold Oper.wp at *
 generalize (execOp a.eval o).run P w=r at *
 cases r with
 | ok n w'=>
  cases n <;> simp only [Oper.upon] at h ⊢ <;>
   first
    | exact h
    | exact Calls.mono h (fun e d b=>by cases e <;> first | exact b | exact h1 _ _ _ b | exact h2 b)
 | halt x w'=>cases x <;> simp only [Oper.upon] at h ⊢ <;> first | exact h | exact h1 _ _ _ h
def X0 (F:Fx)(L:List Oper)(m:Nat)(listed:Array Bool)(env:Env)(H:N0)(Q:Po):Prop:=
 ∀ fr M G w a,fr.H0.length=F.K→St F.C F.N M G w env H a→Q2 fr M G w H→wpAny F.C.P .any L.toArray (Fin F fr Q) m listed a w
theorem X0.nil {F:Fx}{L:List Oper}{m:Nat}{listed:Array Bool}{env:Env}{H:N0}{Q:Po}(hr:Region.ready .any L.toArray listed=[])(h:Q .normal env H):X0 F L m listed env H Q:=by
 intro fr M G w a d hs b
 have c:Fin F fr Q .normal a w:=.inl ⟨.normal,env,H,M,G,rfl,h,hs,b⟩
 cases m with
 | zero=>exact ⟨hr,c⟩
 | succ m=>exact ⟨fun _=>c,fun i hi=>by rw [hr] at hi; cases hi⟩
def V10 (F:Fx)(L:List Oper)(m:Nat)(listed:Array Bool)(env:Env)(H:N0)(Q:Po):List Nat→Prop
 | []=>True
 | j::r=>(∃ o,nth L j=some o∧E0 F L [o] env H (fun e h=>X0 F L m (listed.setIfInBounds j true) e h Q))∧V10 F L m listed env H Q r
theorem V10.get {F:Fx}{L:List Oper}{m:Nat}{listed:Array Bool}{env:Env}{H:N0}{Q:Po}:∀ {js:List Nat},V10 F L m listed env H Q js→∀ j∈js,∃ o,nth L j=some o∧E0 F L [o] env H (fun e h=>X0 F L m (listed.setIfInBounds j true) e h Q)
 | [],_,j,hj=>by cases hj
 | i::r,h,j,hj=>by
  rcases List.mem_cons.1 hj with rfl | hj
  ·exact h.1
  ·exact V10.get h.2 j hj
theorem X0.step {F:Fx}{L:List Oper}{m:Nat}{listed:Array Bool}{env:Env}{H:N0}{Q:Po}(x:L.all (X9 F.N)=true){r:Nat}{s:List Nat}(hr:Region.ready .any L.toArray listed=r::s)(h:V10 F L m listed env H Q (r::s)):X0 F L (m+1) listed env H Q:=by
 intro fr M G w a t hs p
 refine ⟨fun u=>(by rw [hr] at u; cases u),fun i hi=>?_⟩
 rw [hr] at hi
 obtain ⟨o,l,k⟩:=h.get i hi
 rw [Q3] at l
 let Qw:Exit→Act→World→Prop:=fun e a w=>match e with
  | .normal=>wpAny F.C.P .any L.toArray (Fin F fr Q) m (listed.setIfInBounds i true) a w
  | e=>Fin F fr Q e a w
 have:=k fr M G w a Qw t (fun o' g=>by
  rw [List.mem_singleton] at g
  subst g
  exact List.all_eq_true.1 x _ (List.mem_of_getElem? l)) hs p ⟨fun env' H' M' G' w' q j f b=>j fr M' G' w' q t f b,fun v env' H' M' G' w' q j f b=>.inr (.inl ⟨v,_,_,_,_,rfl,j,f,b⟩)⟩
 simp only [wpList] at this
 unfold wpOp
 simp only [List.getElem?_toArray,l]
 have d:LetsOut Qw→LetsOut (Fin F fr Q):=fun ⟨a,w,h⟩=>⟨a,w,h⟩
 split
 ·rename_i n
  rw [zp n] at this
  rcases this with h1 | ⟨h1,h2⟩
  ·exact .inl (Q1g (fun c a w h=>h) d h1)
  ·exact .inr ⟨h1,d h2⟩
 ·rename_i n
  rw [zn n] at this
  exact this
theorem AEx.drawE {F:Fx}(hC:F3 F.C){id:Nat}{L:List Oper}{env:Env}{H:N0}{Q:Po}(h:X0 F L L.length (Array.replicate L.length false) env H Q):AEx F (.region id L.toArray true) env H Q:=by
 intro fr M G w c g hs f
 refine wp_region_any hC.mixed ?_
 have d:St F.C F.N M G { w with drawn:=w.drawn+1 } env H c:=
  ⟨fun a v e=>hs.good a v e,hs.gl.ext hs.hrel (S:=C9) ⟨fun _ _ e=>e,zqr _,rfl,rfl,rfl,fun _ _ _=>rfl,fun _ _ e=>.inl e⟩ (fun _ h=>h.elim),hs.hrel.ext (S:=C9) ⟨fun _ _ e=>e,zqr _,rfl,rfl,rfl,fun _ _ _=>rfl,fun _ _ e=>.inl e⟩ (fun _ _ h=>h),hs.env,hs.size,hs.defers⟩
 have b:Q2 fr M G { w with drawn:=w.drawn+1 } H:=f.quiet ⟨fun _ _ e=>e,zqr _,rfl,rfl,rfl,fun _ _ _=>rfl,fun _ _ e=>.inl e⟩
 have:=h fr M G _ c g d b
 simpa using this
section
variable {P:Program}{M:Mem}{G:Nat→Value}{w:World}
end
open Go.ChangeShapes
def Xj (W:World):Mem:=fun a=>if a.spot=none then W.cell? a else none
theorem B1p (W:World):Good (Xj W) W:=by
 intro a v h
 unfold Xj at h
 split at h
 ·rename_i hs; exact .inl ⟨hs,h⟩
 ·cases h
def O1j (M:Mem)(ds:List D)(cs:List Value):Prop:=ds.length=cs.length∧∀ (i:Nat) x v,ds[i]?=some x→cs[i]?=some v→W4 M x v
structure O1u {H:Type}(μ:DataW H→Nat):Prop where
 lit:∀ l,1≤μ (.lit l)
 str:∀ s,s.length+1≤μ (.lit (.string s))
 nil:1≤μ .nil
 sl:∀ es sp,(es.map μ).sum+1≤μ (.slice es sp)
 agg:∀ ps,(ps.map μ).sum+1≤μ (.agg ps)
def Rd {H:Type}(enc:TypeId×Value→H)(P:Program)(W:World)(μ:DataW H→Nat)(fuel:Nat)(t:TypeId){α:Type}(f:α→Row)(bk:α→Nat):Prop:=
 ∀ cs d ps,DataW.trod enc P W 0 (fun _=>true) true fuel t cs=some (d,ps)→∃ x:α,O1j (Xj W) (f x) cs∧bk x≤μ d
section
variable {H:Type}{enc:TypeId×Value→H}{P:Program}{W:World}{μ:DataW H→Nat}{fuel:Nat}{t:TypeId}
theorem Rd.zero {α:Type}{f:α→Row}{bk:α→Nat}:Rd enc P W μ 0 t f bk:=fun cs d ps h=>by simp [DataW.trod] at h
theorem M1n {M:Mem}{x:D}{v:Value}(h:W4 M x v):O1j M [x] [v]:=by
 refine ⟨rfl,fun i y u a b=>?_⟩
 cases i with
 | zero=>simp at a b; subst a; subst b; exact h
 | succ i=>simp at a
theorem Rd.int (c:O1u μ){k:IntKind}(ht:P.underlying t=some (.int k)):Rd enc P W μ fuel t (fun n:Int=>[D.int k n]) (fun _=>1):=by
 cases fuel with
 | zero=>exact .zero
 | succ n=>
  intro cs d ps h
  unfold DataW.trod at h
  rw [ht] at h
  split at h <;> first | (rename_i a; cases a; done) | skip
  all_goals first | (cases h; done) | skip
  rename_i e k' m a
  cases a
  split at h
  ·rename_i hc
   simp only [zqb,zqh] at h
   obtain ⟨rfl,rfl⟩:=h
   obtain ⟨rfl,b⟩:=hc
   refine ⟨m,M1n (.int ?_),c.lit _⟩
   simpa [Lit.wf,InK] using b
  ·cases h
theorem Rd.str (b:O1u μ)(ht:P.underlying t=some .string):Rd enc P W μ fuel t (fun s:Str=>[D.str s]) (fun s=>s.length+1):=by
 cases fuel with
 | zero=>exact .zero
 | succ n=>
  intro cs d ps h
  unfold DataW.trod at h
  rw [ht] at h
  split at h <;> first | (rename_i a; cases a; done) | skip
  all_goals first | (cases h; done) | skip
  rename_i s a
  split at h
  ·rename_i hc
   simp only [zqb,zqh] at h
   obtain ⟨rfl,rfl⟩:=h
   refine ⟨s.data.toList,M1n ?_,b.str _⟩
   have:s=⟨s.data.toList.toArray⟩:=by simp
   rw [this]
   exact .str (by simpa using hc)
  ·cases h
theorem C1p {W:World}{a:Addr}{v:Value}(h:W.cell? a=some v):Xj W a=some v∧a.spot=none:=by
 have hs:a.spot=none:=by
  unfold World.cell? at h
  split at h
  ·split at h
   ·cases h
   ·rename_i hs; simpa using hs
  ·cases h
 exact ⟨by unfold Xj; rw [zp hs]; exact h,hs⟩
end
open Go.ChangeShapes
theorem Wy {α β:Type}{f g:α→Option β}:∀ {l:List α} {r:List β},l.mapM f=some r→(∀ x∈l,∀ y∈r,f x=some y→g x=some y)→l.mapM g=some r
 | [],r,h,_=>by simpa using h
 | x::l,r,h,a=>by
  rw [List.mapM_cons] at h ⊢
  simp only [bind,Option.bind_eq_some_iff,pure,zqb] at h ⊢
  obtain ⟨y,e,ys,c,rfl⟩:=h
  exact ⟨y,a x (by simp) y (by simp) e,ys,Wy c (fun x d y b=>a x (by simp [d]) y (by simp [b])),rfl⟩
theorem W10 {α:Type}(l:List α):(List.range l.length).mapM (fun i=>l[i]?)=some l:=by
 have key:∀ (m:List α) (k:Nat),(∀ j,m[j]?=l[k+j]?)→(List.range' k m.length).mapM (fun i=>l[i]?)=some m:=by
  intro m
  induction m with
  | nil=>intro k _; rfl
  | cons x m b=>
   intro k h
   rw [zqd,List.range'_succ,List.mapM_cons]
   have a:=h 0
   simp at a
   have:=b (k+1) (fun j=>by have:=h (j+1); simp at this; rw [this]; congr 1; omega)
   simp only [bind,Option.bind_eq_some_iff,pure,zqb]
   exact ⟨x,a.symm,m,this,rfl⟩
 rw [List.range_eq_range']
 exact key l 0 (fun j=>by simp)
def N1i (P:Program)(S:TypeId→Prop):Prop:=
 ∀ t,S t→P.underlying t=some .bool∨(∃ k,P.underlying t=some (.int k))∨P.underlying t=some .string∨(∃ e,P.underlying t=some (.slice e)∧S e∧1≤P.cellsOf e)∨∃ fs,P.underlying t=some (.struct fs)∧∀ f∈fs.toList,S f.type
section
variable {H:Type}{enc:TypeId×Value→H}{P:Program}{W W':World}{S:TypeId→Prop}
theorem O1m (hb:∀ b,b < W.heap.size→W'.heap[b]?=W.heap[b]?){a:Addr}{n:Nat}{cs:List Value}(h:W.cells? 0 a n=some cs):W'.cells? 0 a n=some cs:=by
 unfold World.cells? at *
 rw [zp (Nat.zero_le _)] at *
 refine Wy h fun i _ y _ c=>?_
 rw [Lu (hb _ (World.block_lt_of_cell? W _ c))]
 exact c
theorem F1r (O:N1i P S)(hb:∀ b,b < W.heap.size→W'.heap[b]?=W.heap[b]?){sp:Nat→Bool}:∀ (fuel:Nat) (t:TypeId) (cs:List Value) (x:DataW H×List MemPlace),S t→DataW.trod enc P W 0 (fun _=>true) true fuel t cs=some x→
  (∀ p∈x.2,sp p.block=true)→DataW.trod enc P W' 0 sp true fuel t cs=some x:=by
 intro fuel
 induction fuel with
 | zero=>intro t cs x _ h; simp [DataW.trod] at h
 | succ n M=>
  intro t cs x I h K
  rcases O t I with ht | ⟨k,ht⟩ | ht | ⟨e,ht,G,A⟩ | ⟨fs,ht,D⟩
  ·obtain ⟨b,rfl,rfl⟩:=DataW.trod_bool ht h
   unfold DataW.trod
   rw [ht]
  ·have h2:=h
   obtain ⟨m,rfl,rfl,_⟩:=DataW.trod_int ht h
   unfold DataW.trod at h2 ⊢
   rw [ht] at h2 ⊢
   exact h2
  ·have h2:=h
   obtain ⟨s,rfl,rfl,_⟩:=DataW.trod_string ht h
   unfold DataW.trod at h2 ⊢
   rw [ht] at h2 ⊢
   exact h2
  ·have V:=h
   rcases DataW.trod_slice ht h with ⟨rfl,rfl⟩ | ⟨a,len,cap,c,d,n',hn,rfl,rfl,_,J,E,o,F,C,_⟩
   ·unfold DataW.trod
    rw [ht]
    rfl
   ·have v:n=n':=by omega
    subst v
    have q:cap - len=0∨sp a.block=true:=by
     by_cases hc:cap=0
     ·exact .inl (by omega)
     ·refine .inr (K (.cell a.block a.off) ?_)
      simp only [List.mem_append]
      refine .inl (MemPlace.mem_row.2 ⟨0,?_,?_⟩)
      ·have h1:=(C rfl).1
       have:0 < c.length+d.length:=by omega
       exact Nat.mul_pos this A
      ·simp
    have B:∀ (i:Nat) (y:DataW H×List MemPlace),(∀ p∈y.2,sp p.block=true)→(W.cells? 0 (a.add (i * P.cellsOf e)) (P.cellsOf e)).bind (DataW.trod enc P W 0 (fun _=>true) true n e)=some y→
      (W'.cells? 0 (a.add (i * P.cellsOf e)) (P.cellsOf e)).bind (DataW.trod enc P W' 0 sp true n e)=some y:=fun i y r h1=>by
     obtain ⟨T,h2,w⟩:=Option.bind_eq_some_iff.1 h1
     rw [O1m hb h2]
     exact M e T y G w r
    have u:∀ y∈c++d,∀ p∈y.2,sp p.block=true:=fun y r p hp=>K p (by
     simp only [List.mem_append,List.mem_flatMap]
     exact .inr ⟨y,by simpa using r,hp⟩)
    have R:(List.range len).mapM (fun i=>(W'.cells? 0 (a.add (i * P.cellsOf e)) (P.cellsOf e)).bind (DataW.trod enc P W' 0 sp true n e))=some c:=by
     have:(List.range len).mapM (fun i=>c[i]?)=some c:=by rw [← o]; exact W10 c
     refine Wy this fun i hi y r h1=>B i y (u y (by simp [r])) ?_
     rw [F i (List.mem_range.1 hi)]
     exact h1
    have U:(if sp a.block then (List.range (cap - len)).mapM (fun j=>(W'.cells? 0 (a.add ((len+j) * P.cellsOf e)) (P.cellsOf e)).bind (DataW.trod enc P W' 0 sp true n e)) else some [])=some d:=by
     obtain ⟨h1,h2⟩:=C rfl
     rcases q with hc | hc
     ·have:d=[]:=List.eq_nil_of_length_eq_zero (by omega)
      subst this
      rw [hc]
      split <;> rfl
     ·rw [zp hc]
      have:(List.range (cap - len)).mapM (fun i=>d[i]?)=some d:=by rw [← h1]; exact W10 d
      refine Wy this fun j Q y r w=>B (len+j) y (u y (by simp [r])) ?_
      rw [h2 j (List.mem_range.1 Q)]
      exact w
    unfold DataW.trod
    rw [ht]
    simp only [Nat.zero_le,J,E,and_self,zt,R,U,Option.bind_some,zqt]
  ·obtain ⟨xs,n',hn,rfl,hl,o,hf⟩:=DataW.trod_struct ht h
   have v:n=n':=by omega
   subst v
   refine trod_struct_mk ht hl ?_
   have key:∀ (l:List Field) (ys:List (DataW H×List MemPlace)),ys.length=l.length→(∀ f∈l,S f.type)→(∀ y∈ys,∀ p∈y.2,sp p.block=true)→
     (∀ (i:Nat) f,l[i]?=some f→DataW.trod enc P W 0 (fun _=>true) true n f.type ((cs.drop f.offset).take (P.cellsOf f.type))=ys[i]?)→
     l.mapM (fun f=>DataW.trod enc P W' 0 sp true n f.type ((cs.drop f.offset).take (P.cellsOf f.type)))=some ys:=by
    intro l
    induction l with
    | nil=>intro ys h1 _ _ _; obtain rfl:=List.eq_nil_of_length_eq_zero h1; rfl
    | cons f l L=>
     intro ys h1 h2 w N
     cases ys with
     | nil=>simp at h1
     | cons y ys=>
      rw [List.mapM_cons]
      simp only [bind,Option.bind_eq_some_iff,pure,zqb]
      exact ⟨y,M _ _ y (h2 f (by simp)) (by simpa using N 0 f rfl) (w y (by simp)),ys,L ys (by simpa using h1) (fun g hg=>h2 g (by simp [hg])) (fun z hz=>w z (by simp [hz])) (fun i g hg=>by simpa using N (i+1) g (by simpa using hg)),rfl⟩
   refine key fs.toList xs (by simpa using o) D (fun y r p hp=>K p (by simp only [List.mem_flatMap]; exact ⟨y,r,hp⟩)) fun i f hi=>hf i f (by simpa using hi)
theorem G1r {f:Func}{s:ChangeSpec}{apart fresh g l:Bool}{args:Array Value}{v:Value}{n o:List (DataW H)}{c pa pv:List MemPlace}
  (q:DataW.Whole enc P f.params.toList s.vars apart W args.toList n o c)
  (i:∀ (b:Nat) (sp:Nat→Bool) (y:Bool),DataW.TrodAll enc P W' b sp y f.resultTypes.toList (v.resultList f.resultTypes.size) (s.fn H (n++o)).results [])
  (e:∀ sp:Nat→Bool,(∀ p∈c,sp p.block=true)→DataW.TrodAll enc P W' 0 sp true f.params.toList args.toList (s.fn H (n++o)).args pa)
  (d:∀ sp:Nat→Bool,(∀ p∈c,sp p.block=true)→DataW.TrodVars enc P W' sp s.vars (s.fn H (n++o)).vars pv)
  (h:c=pa++pv) (hk:W.keptBut W' (·∈c)) (w:∀ a:Addr,a.block < W.heap.size→W'.frozen? a=W.frozen? a)
  (x:∀ (j:Nat) (t:TypeId) (r:Value),f.resultTypes[j]?=some t→(v.resultList f.resultTypes.size)[j]?=some r→Value.okWide P W' .any 0 t r) :
  s.post enc P f apart fresh g l W args v W':=by
 have u:=q.lt
 have k:∀ p∈c,(fun b=>decide (b < W.heap.size)) p.block=true:=fun p hp=>by simpa using q.lt p hp
 refine ⟨n,o,c,[],pa,pv,q,i _ _ _,e _ k,d _ k,World.keptBut_mono (fun p hp=>⟨hp,?_⟩) hk,fun _=>?_⟩
 ·rw [h,List.mem_append] at hp
  exact Or.inr hp
 ·obtain ⟨_,_,_,_,_,hz,hn⟩:=q
  refine ⟨x,_,_,([]++pa)++pv,⟨[]++pa,pv,trodAll_append (e _ (fun _ _=>rfl)) (i _ _ _),d _ (fun _ _=>rfl),rfl,?_,?_⟩,?_⟩
  ·intro b off hp
   have m:MemPlace.cell b off∈c:=by rw [h]; simpa using hp
   rw [w _ (u _ m)]
   exact hz b off m
  ·intro ha
   have:=hn ha
   rw [h] at this
   simpa using this
  ·intro p hp _
   rw [h]
   simpa using hp
theorem D1p {c:MemPlace→Prop}(hb:∀ b,b < W.heap.size→W'.heap[b]?=W.heap[b]?)(d:W'.os=W.os)(a:W'.output=W.output):W.keptBut W' c:=by
 refine ⟨d,a,fun i hi=>?_⟩
 rw [hb i hi]
 cases h:W.heap[i]? with
 | none=>rfl
 | some o=>cases o <;> simp
theorem H1r {a:Addr}(hb:W'.heap[a.block]?=W.heap[a.block]?):W'.frozen? a=W.frozen? a:=by
 unfold World.frozen?
 rw [hb]
theorem G17 (i:N1i P S)(hb:∀ b,b < W.heap.size→W'.heap[b]?=W.heap[b]?){sp:Nat→Bool}:∀ {c:List TypeId} {vs:List Value} {f:List (DataW H)} {ps:List MemPlace},(∀ t∈c,S t)→DataW.TrodAll enc P W 0 (fun _=>true) true c vs f ps→
  (∀ p∈ps,sp p.block=true)→DataW.TrodAll enc P W' 0 sp true c vs f ps
 | [],[],[],_,_,h,_=>h
 | t::c,v::vs,d::f,ps,a,⟨p,q,⟨n,h1⟩,h2,e⟩,hp=>by
  subst e
  exact ⟨p,q,⟨n,F1r i hb n t _ _ (a t (by simp)) h1 (fun x g=>hp x (by simp [g]))⟩,G17 i hb (fun t ht=>a t (by simp [ht])) h2 (fun x g=>hp x (by simp [g])),rfl⟩
theorem F1x {C:Cx}(hP:C.P=P){f:FuncId}{fn:Func}{s:ChangeSpec}{args:Array Value}{I B:List (DataW H)}{l:List MemPlace}{xs:List A}{b:TypeId}
  (hc:L0 C f xs [] (fun r H'=>H'=[]∧r = .d (.bool true))) (z:xs.length=args.size) (m:∀ (i:Nat) x v,xs[i]?=some x→args[i]?=some v→L1 (Xj W) (fun _=>.tuple #[]) x v) (J:Sr C (Xj W) W)
  (F:DataW.Whole enc P fn.params.toList s.vars false W args.toList I B l) (hv:s.vars=[]) (hb:fn.resultTypes = #[b]) (w:P.underlying b=some .bool)
  (n:s.fn H I={ results:=[.lit (.bool true)],args:=I }) (N:N1i P S) (E:∀ t∈fn.params.toList,S t) :
  Calls P f args W fun e W'=>∃ v,e = .returned v∧s.post enc P fn false true false false W args v W':=by
 subst hP
 have D:B=[]:=by
  obtain ⟨p,q,_,h2,_⟩:=F
  rw [hv] at h2
  cases B with
  | nil=>rfl
  | cons g B=>cases h2
 subst D
 have Q:W9 (Xj W) (fun _=>.tuple #[]) W []:=W9.nil _ _
 refine (hc.2 (Xj W) (fun _=>.tuple #[]) W args (B1p W) J Q z m).mono fun e W' M=>?_
 obtain ⟨v,r,H',M',G',rfl,⟨rfl,rfl⟩,hr,_,_,h,_⟩:=M
 cases hr
 rename_i hr
 cases hr
 refine ⟨_,rfl,?_⟩
 have c:∀ k,k < W.heap.size→W'.heap[k]?=W.heap[k]?:=fun k hk=>h.block k hk (fun ⟨o,x,h1,_⟩=>by simp at h1)
 have G:=F
 obtain ⟨p,q,O,K,y,hz,hn⟩:=G
 rw [hv] at K
 have L:q=[]:=K
 subst L
 refine G1r F (pa:=p) (pv:=[]) ?_ ?_ ?_ y (D1p c h.os h.output) (fun a ha=>H1r (c _ ha)) ?_
 ·intro T sp U
  rw [List.append_nil,n,hb]
  exact trodAll_mk1 ⟨1,by unfold DataW.trod; rw [w]; rfl⟩
 ·intro sp u
  rw [List.append_nil,n]
  exact G17 N c E O (fun x R=>u x (by rw [y]; simp [R]))
 ·intro sp u
  rw [hv,List.append_nil,n]
  rfl
 ·intro j t r h1 h2
  rw [hb] at h1 h2
  cases j with
  | succ j=>simp at h1
  | zero=>
   simp at h1 h2
   subst h1
   have:r = .bool true:=by simpa [Value.resultList] using h2.symm
   subst this
   exact Go.RowKit.okWide_bool_mk w _
theorem I1b {t:TypeId}{v:Value}{a:Nat}{x:D}(hv:Value.okWide P W .any a t v)(ht:P.underlying t=some .bool∨(∃ k,P.underlying t=some (.int k))∨P.underlying t=some .string∨(∃ e,P.underlying t=some (.slice e)))(h:O1j (Xj W) [x] v.cells.toList) :
  L1 (Xj W) (fun _=>.tuple #[]) (.d x) v:=by
 have hc:v.cells = #[v]:=by
  unfold Value.okWide at hv
  rcases ht with ht | ⟨k,ht⟩ | ht | ⟨e,ht⟩ <;> rw [ht] at hv <;> simp only [Cell.okWide,ht,Cell.ok] at hv <;> cases v <;> first | rfl | (exact hv.elim)
 rw [hc] at h
 exact .d (h.2 0 x v rfl rfl)
end
def P1j (C:Cx)(L:List Oper)(o:Oper)(env:Env):Option (Option Nat×List Row):=
 match Z1 L env o,o.op with
 | some true,.convert s t x=>match B4 C.T s,B4 C.T t,Mw (ev C.GL env x),Zc o with
  | some i,some k,some rows,some d=>match i.u,k.u with
   | .sl e,.str=>match B4 C.T e with
    | some j=>match j.u with
     | .int .u8=>some (d,rows)
     | _=>none
    | none=>none
   | _,_=>none
  | _,_,_,_=>none
 | _,_=>none
def Bl (xs:List Int):List UInt8:=xs.map fun n=>UInt8.ofNat n.toNat
theorem I1r {C:Cx}(hC:F3 C){L:List Oper}{o:Oper}{env:Env}{H:N0}{d:Option Nat}{rows:List Row}(h:P1j C L o env=some (d,rows)){xs:List Int}(hr:rows=xs.map fun n=>[D.int .u8 n]) :
  Z1 L env o=some true∧Zc o=some d∧Xb C o env H (.d (.str (Bl xs))):=by
 unfold P1j at h
 split at h
 ·rename_i s t x W J
  split at h
  ·rename_i i k u d' hs ht Y X
   split at h
   ·rename_i e U q
    split at h
    ·rename_i j R
     split at h
     ·rename_i z
      simp only [zqb,zqh] at h
      obtain ⟨rfl,rfl⟩:=h
      subst hr
      refine ⟨W,X,?_⟩
      intro M G w a next Qw N O V Z r
      rw [J] at N
      have c:=Tj Y (N x (by simp [Op.operands]))
      have Q:=Io (hC.tok.facts hs) U
      have F:=Wo (hC.tok.facts ht) q
      have E:=H1g (hC.tok.facts R) z
      have key:∃ b:ByteArray,(convert s t (a.eval x)).run C.P w = .ok (.string b) w∧b=⟨(Bl xs).toArray⟩∧xs.length≤maxLen:=by
       generalize hxv:a.eval x=xv at c
       generalize hrw:(xs.map fun n=>[D.int .u8 n])=rws at c
       cases c with
       | slnil=>
        obtain rfl:xs=[]:=List.map_eq_nil_iff.1 hrw
        exact ⟨_,run_convert_bytes_nil w s e Q E 0 0 t F,rfl,Nat.zero_le _⟩
       | sl sz T1 hl hc hm T hz h1 h2=>
        rename_i A len cap
        subst hrw
        rw [List.length_map] at hl
        subst hl
        have l:∀ i,i < xs.length→w.cell? (A.add i)=some (.int .u8 (xs.getD i 0)):=fun i hi=>by
         have g:(xs.map fun n=>[D.int .u8 n])[i]?=some [D.int .u8 xs[i]]:=by simp [hi]
         have K:=hz i _ g
         have I:=h1 i 0 _ _ g rfl
         have B:=h2 i 0 _ _ g rfl
         simp only [List.length_singleton] at K
         subst K
         rw [Nat.mul_one,Nat.add_zero] at I
         have S:=O.cell I B
         rw [S]
         generalize T1 i 0=v at B
         cases B
         simp [List.getD,hi]
        have f:(loadCells A xs.length).run C.P w = .ok (xs.map (Value.int .u8)).toArray w:=by
         have:=run_loadCells_list (P:=C.P) w A (xs.map (Value.int .u8)) (fun j v y=>by
          have m:j < xs.length:=by
           rcases Nat.lt_or_ge j xs.length with h | h
           ·exact h
           ·simp [List.getElem?_eq_none (show (xs.map (Value.int .u8)).length≤j by simpa using h)] at y
          rw [l j m]
          simp [zqv m] at y
          subst y
          simp [List.getD,zqv m])
         simpa using this
        refine ⟨_,by rw [run_convert_bytes_string w s t e _ _ _ Q E F,run_bytesToString w _ _ cap xs f,foldl_push_bytes],?_,Nat.le_trans hc hm⟩
        simp [Bl,ByteArray.empty,ByteArray.emptyWithCapacity]
        rfl
      obtain ⟨b,hb,rfl,p⟩:=key
      unfold Oper.wp execOp
      simp only [J,Sem.run_bind,hb,Result.andThen_ok,Sem.run_pure,Oper.upon_value]
      exact r _ M w (.d (.str (by unfold Bl; rw [List.length_map]; exact p))) O (Ext.refl _ _ _)
     ·cases h
    ·cases h
   ·cases h
  ·cases h
 ·cases h
theorem E0.cs {F:Fx}(hC:F3 F.C){L l:List Oper}{o:Oper}{env:Env}{H:N0}{Q:Env→N0→Prop}{d:Option Nat}{rows:List Row}(h:P1j F.C L o env=some (d,rows)){xs:List Int}(hr:rows=xs.map fun n=>[D.int .u8 n])(k:E0 F L l (put env d (.d (.str (Bl xs)))) H Q):E0 F L (o::l) env H Q:=by
 obtain ⟨h1,h2,a⟩:=I1r (H:=H) hC h hr
 exact .yields h1 a (by rw [W8 h2]; exact k)
theorem okC {C:Cx}[h:Nonempty (F3 C)]:F3 C:=h.elim id
section
variable {C:Cx}{N:FN}{K:Nat}{pn:Value→Env→N0→Prop}{es:Fr→Exit→Act→World→Prop}{L l:List Oper}{o:Oper}{env:Env}{H:N0}
theorem n' {Q:Env→N0→Prop}(h:Q env H):E0 ⟨C,N,K,pn,es⟩ L [] env H Q:=E0.nil h
theorem Qn' {Q:Env→Prop}(h:Q env):AQ C L [] env H Q:=h
theorem an' {cnd:Cnd}{R:Env→Cnd→Prop}(h:R env cnd):AG C L [] env cnd H R:=h
end
section
variable {C:Cx}[Nonempty (F3 C)]{N:FN}{K:Nat}{pn:Value→Env→N0→Prop}{es:Fr→Exit→Act→World→Prop}{L l:List Oper}{o:Oper}{env:Env}{H:N0}
theorem q' {Q:Env→N0→Prop}{d:Option Nat}{x:A}(h:Cg C L o env H=some (d,True,x))(k:E0 ⟨C,N,K,pn,es⟩ L l (put env d x) H Q):E0 ⟨C,N,K,pn,es⟩ L (o::l) env H Q:=E0.q okC h trivial k
theorem qc' {Q:Env→N0→Prop}{d:Option Nat}{c:Prop}{x:A}(h:Cg C L o env H=some (d,c,x))(hc:c)(k:E0 ⟨C,N,K,pn,es⟩ L l (put env d x) H Q):E0 ⟨C,N,K,pn,es⟩ L (o::l) env H Q:=E0.q okC h hc k
theorem qe' {Q:Env→N0→Prop}{d:Option Nat}{c:Prop}{x y:A}(h:Cg C L o env H=some (d,c,x))(hc:c)(e:x=y)(k:E0 ⟨C,N,K,pn,es⟩ L l (put env d y) H Q):E0 ⟨C,N,K,pn,es⟩ L (o::l) env H Q:=E0.qe okC h hc e k
theorem i' {Q:Env→N0→Prop}{d:Option Nat}{rows:List (List D)}{n:Int}{sz:Nat}(h:Sv C L o env=some (d,rows,n,sz)){k:Nat}{r:List D}(hn:n=k)(hk:rows[k]?=some r)(a:Nat.beq r.length sz=true)
  (b:E0 ⟨C,N,K,pn,es⟩ L l (put env d (.ptr r)) H Q):E0 ⟨C,N,K,pn,es⟩ L (o::l) env H Q:=E0.i okC h hn hk a b
theorem x' {Q:Env→N0→Prop}{d:Option Nat}{s:List UInt8}{n:Int}(h:F13 C L o env=some (d,s,n)){k:Nat}{b:UInt8}(hn:n=k)(hk:s[k]?=some b)(a:E0 ⟨C,N,K,pn,es⟩ L l (put env d (.d (.int .u8 b.toNat))) H Q):E0 ⟨C,N,K,pn,es⟩ L (o::l) env H Q:=E0.x okC h hn hk a
theorem Q' {Q:Env→Prop}{d:Option Nat}{x:A}(h:Cg C L o env H=some (d,True,x))(k:AQ C L l (put env d x) H Q):AQ C L (o::l) env H Q:=AQ.q okC h trivial k
variable {cnd:Cnd}{R:Env→Cnd→Prop}
theorem a0' {d:Option Nat}{W:Option Bool}{x:A}(h:Ft C L o env cnd H=some (d,W,True,True,x))(k:AG C L l (put env d x) (Ri cnd d W) H R):AG C L (o::l) env cnd H R:=AG.q okC h (fun _=>⟨trivial,trivial⟩) k
theorem a1' {d:Option Nat}{w:Bool}{x:A}(h:Ft C L o env cnd H=some (d,some w,(w=true∧True),True,x))(k:AG C L l (put env d x) (Ri cnd d (some w)) H R):AG C L (o::l) env cnd H R:=AG.q okC h (fun h=>⟨⟨h,trivial⟩,trivial⟩) k
theorem a2' {d:Option Nat}{w:Bool}{x:A}(h:Ft C L o env cnd H=some (d,some w,(w=true∧w=true∧True),True,x))(k:AG C L l (put env d x) (Ri cnd d (some w)) H R):AG C L (o::l) env cnd H R:=AG.q okC h (fun h=>⟨⟨h,h,trivial⟩,trivial⟩) k
theorem ag' {d:Option Nat}{W:Option Bool}{S c:Prop}{x:A}(h:Ft C L o env cnd H=some (d,W,S,c,x))(hs:holds W→S∧c)(k:AG C L l (put env d x) (Ri cnd d W) H R):AG C L (o::l) env cnd H R:=AG.q okC h hs k
theorem pa' {d:Option Nat}{t xa xb:Bool}(h:T10 C L o env cnd=some ⟨d,none,True,t,(wb t true=true∧True),True,xa,xb⟩)(k:AG C L l (put env d (.d (.bool (bif t then xa else xb)))) (Ri cnd d none) H R):AG C L (o::l) env cnd H R:=
 AG.p okC h (fun _=>⟨trivial,fun h=>⟨Z21 h,trivial⟩,fun _=>trivial⟩) k
theorem po' {d:Option Nat}{t xa xb:Bool}(h:T10 C L o env cnd=some ⟨d,none,True,t,True,(wb t false=true∧True),xa,xb⟩)(k:AG C L l (put env d (.d (.bool (bif t then xa else xb)))) (Ri cnd d none) H R):AG C L (o::l) env cnd H R:=
 AG.p okC h (fun _=>⟨trivial,fun _=>trivial,fun h=>⟨Y21 h,trivial⟩⟩) k
theorem pA' {d:Option Nat}{w t xa xb:Bool}(h:T10 C L o env cnd=some ⟨d,some w,(w=true∧True),t,((w&&wb t true)=true∧True),True,xa,xb⟩)(k:AG C L l (put env d (.d (.bool (bif t then xa else xb)))) (Ri cnd d (some w)) H R):AG C L (o::l) env cnd H R:=
 AG.p okC h (fun hg=>⟨⟨hg,trivial⟩,fun h=>⟨Q20 hg h,trivial⟩,fun _=>trivial⟩) k
theorem pO' {d:Option Nat}{w t xa xb:Bool}(h:T10 C L o env cnd=some ⟨d,some w,(w=true∧True),t,True,((w&&wb t false)=true∧True),xa,xb⟩)(k:AG C L l (put env d (.d (.bool (bif t then xa else xb)))) (Ri cnd d (some w)) H R):AG C L (o::l) env cnd H R:=
 AG.p okC h (fun hg=>⟨⟨hg,trivial⟩,fun _=>trivial,fun h=>⟨P20 hg h,trivial⟩⟩) k
end
section
variable {F:Fx}{env:Env}{H:N0}{Q:Po}
theorem s' {id:Nat}{L:List Oper}{b:Code}(hg:Ko L=true)(a:L.all (X9 F.N)=true)(h:E0 F L L env H (Eo (Then F b Q))):AEx F (.seq (.region id L.toArray false) b) env H Q:=.seq (.regionN hg a h)
theorem sg' {id:Nat}{L:List Oper}{b:Code}(n:Nat)(a:L.all (X9 F.N)=true)(h:AG F.C L (L.take n) env A1p H (fun e c=>E0 F L (L.drop n) (K1j e c) H (Eo (Then F b Q)))):AEx F (.seq (.region id L.toArray false) b) env H Q:=.seq (.regionG n a h)
theorem S' {a b:Code}(h:AEx F a env H (Then F b Q)):AEx F (.seq a b) env H Q:=.seq h
theorem R' {id:Nat}{L:List Oper}(hg:Ko L=true)(a:L.all (X9 F.N)=true)(h:E0 F L L env H (Eo Q)):AEx F (.region id L.toArray false) env H Q:=.regionN hg a h
theorem sk' (h:Q .normal env H):AEx F .skip env H Q:=.skip h
theorem bk' {id:Nat}{c:Code}(h:AEx F c env H (E19 id Q)):AEx F (.block id c) env H Q:=.block h
theorem re' (h:Q .ret env H):AEx F .ret env H Q:=.ret h
theorem ex' {id:Nat}(h:Q (.exit id) env H):AEx F (.exit id) env H Q:=.exit h
theorem ci' {c:Operand}{x y:Code}{t:Bool}{α:Type}{a e:Option α}{r:α}(hc:ev F.C.GL env c = .d (.bool t))(b:(if t=true then a else e)=some r)(h1:a=some r→AEx F x env H Q)(h2:e=some r→AEx F y env H Q):AEx F (.cond c x y) env H Q:=
 .cond hc (fun hb=>h1 (G1 hb b)) (fun hb=>h2 (A22 hb b))
end
def Vp (env:Env):List (Nat×A)→List A
 | []=>[]
 | p::r=>env p.1::Vp env r
def T1:List (Nat×A)→List A
 | []=>[]
 | p::r=>p.2::T1 r
def tkH:N0→N0→N0
 | [],_=>[]
 | _::r,x::H=>x::tkH r H
 | _::_,[]=>[]
def Jl (H:N0):List Nat→List (Option Ob)
 | []=>[]
 | p::r=>nth H p::Jl H r
def Oo (f:Nat→Nat):N0→List (Option Ob)
 | []=>[]
 | x::r=>some (Tp f x)::Oo f r
theorem Z1y {k:Nat}{env:Env}:∀ {L:List (Nat×A)},Vp env L=T1 L→W2 k (T1 L)=true→WkE k env L
 | [],_,_=>trivial
 | (t,x)::r,h,hn=>by
  simp only [Vp,T1,List.cons.injEq] at h
  simp only [T1,W2,zqi] at hn
  exact ⟨⟨by rw [h.1]; exact .rfl,hn.1⟩,Z1y h.2 hn.2⟩
theorem Q1j {k:Nat}:∀ {H H2:N0},tkH H2 H=H2→H2.all (T1o k)=true→WkH k H H2
 | [],[],_,_=>trivial
 | _::_,[],_,_=>trivial
 | [],y::r,h,_=>by simp [tkH] at h
 | x::H,y::r,h,hn=>by
  simp only [tkH,List.cons.injEq] at h
  simp only [List.all_cons,zqi] at hn
  obtain ⟨rfl,h⟩:=h
  exact ⟨WkO.same hn.1,Q1j h hn.2⟩
def okB (K:Nat)(xs:List A)(H:N0):Bool:=W2 H.length xs&&H.all (T1o H.length)&&Nat.ble K H.length
theorem wk' {K:Nat}{env:Env}{H:N0}{L:List (Nat×A)}{H2:N0}(h1:Vp env L=T1 L)(h2:tkH H2 H=H2)(a:okB K (T1 L) H2=true):Wk K env H L H2:=by
 simp only [okB,zqi] at a
 exact ⟨Z1y h1 a.1.1,Q1j h2 a.1.2,a.2⟩
theorem lw' {F:Fx}{c:Code}{env:Env}{H:N0}{Q:Po}{L:List (Nat×A)}{H2:N0}(k:Y0 F c (Je L) H2 Q)(h1:Vp env L=T1 L)(h2:tkH H2 H=H2)(a:okB F.K (T1 L) H2=true):Y0 F c env H Q:=.wk (wk' h1 h2 a) k
theorem ew' {F:Fx}{c:Code}{env:Env}{H:N0}{Q:Po}{L:List (Nat×A)}{H2:N0}(k:AEx F c (Je L) H2 Q)(h1:Vp env L=T1 L)(h2:tkH H2 H=H2)(a:okB F.K (T1 L) H2=true):AEx F c env H Q:=.wk (wk' h1 h2 a) k
theorem fw' {F:Fx}{c:Code}{env:Env}{H:N0}{Q:Po}{L:List (Nat×A)}{H2:N0}(k:Y0 F c (Je L) H2 Q)(h1:Vp env L=T1 L)(h2:tkH H2 H=H2)(a:okB F.K (T1 L) H2=true):AEx F (.loop c) env H Q:=.ofLoop (.wk (wk' h1 h2 a) k)
abbrev Ret (H0:N0)(a:A):A→N0→Prop:=fun x H'=>H'=H0∧x=a
theorem rt' {F:Fx}{rs:List ResultVar}{x:A}{env:Env}{H H':N0}(h1:D1b F.C.T rs env H=some x)(h2:tkH H' H=H')(a:okB F.K [x] H'=true):Kn F rs (Ret H' x) .ret env H:=by
 simp only [okB,W2,zqi,Bool.and_true] at a
 exact ⟨x,x,H',h1,.rfl,Q1j h2 a.1.2,a.1.1,a.2,rfl,rfl⟩
theorem rn' {F:Fx}{rs:List ResultVar}{x:A}{env:Env}{H H':N0}(h1:D1b F.C.T rs env H=some x)(h2:tkH H' H=H')(a:okB F.K [x] H'=true):Kn F rs (Ret H' x) .normal env H:=by
 simp only [okB,W2,zqi,Bool.and_true] at a
 exact ⟨x,x,H',h1,.rfl,Q1j h2 a.1.2,a.1.1,a.2,rfl,rfl⟩
theorem X10 {f:Nat→Nat}{H:N0}:∀ {idx:List Nat} {cH:N0},Jl H idx=Oo f cH→Up f H idx cH
 | [],[],_=>trivial
 | p::ps,y::ys,h=>by
  simp only [Jl,Oo,List.cons.injEq] at h
  exact ⟨h.1,X10 h.2⟩
 | [],_::_,h=>by simp [Jl,Oo] at h
 | _::_,[],h=>by simp [Jl,Oo] at h
theorem A1z {xs ys:List A}(h:xs=ys):LeL xs ys:=by subst h; exact .refl _
theorem g' {F:Fx}{L l:List Oper}{o:Oper}{env:Env}{H H':N0}{Q:Env→N0→Prop}{d:Option Nat}{g:FuncId}{xs:List A}{x y:A}(idx:List Nat){a:List A}{cH b:N0}
  (hc:L0 F.C g a cH (Ret b x)) (h:Ke F.C L o env=some (d,g,xs)) (e:Re (M3 idx H.length) a=xs) (hi:Ii idx H.length=true) (hm:Jl H idx=Oo (M3 idx H.length) cH)
  (hr:frc (ren (M3 idx H.length) x)=some y) (c:Sg (E9 H idx (M3 idx H.length) (K5 idx cH) b)=some H') (k:E0 F L l (put (fun t=>dg (K5 idx cH) (env t)) d y) H' Q):E0 F L (o::l) env H Q:=
 .g idx h hc (A1z e) hi (X10 hm) hr c k
theorem c' {F:Fx}{L l:List Oper}{o:Oper}{env:Env}{H:N0}{Q:Env→N0→Prop}{d:Option Nat}{f:FuncId}{xs:List A}{x:A}(hc:L0 F.C f xs [] (Ret [] x))(h:Ke F.C L o env=some (d,f,xs))(hn:W2 0 xs=true)
  (k:E0 F L l (put env d x) H Q):E0 F L (o::l) env H Q:=.c h hn hc k
theorem Qc' {C:Cx}{L l:List Oper}{o:Oper}{env:Env}{H:N0}{Q:Env→Prop}{d:Option Nat}{f:FuncId}{xs:List A}{x:A}(hc:L0 C f xs [] (Ret [] x))(h:Ke C L o env=some (d,f,xs))(hn:W2 0 xs=true)
  (k:AQ C L l (put env d x) H Q):AQ C L (o::l) env H Q:=.c h hn hc k
theorem bs' {α β:Type}{x:Option α}{f:α→Option β}{r:β}(h:(x>>=f)=some r):∃ a,x=some a∧f a=some r:=bind_some h
theorem oi' {α:Type}{a b:α}(h:some a=some b):a=b:=Option.some.inj h
def Dg:Nat→List Prop
 | 0=>[]
 | k+1=>True::Dg k
def Qo (C:Cx)(L:List Oper)(H:N0):Nat→List Oper→Env→Option (List Oper×Env×List Prop)
 | 0,l,env=>some (l,env,[])
 | _+1,[],_=>none
 | k+1,o::l,env=>match Cg C L o env H with
  | some (d,c,x)=>match Qo C L H k l (put env d x) with
   | some (l',e',cs)=>some (l',e',c::cs)
   | none=>none
  | none=>none
theorem R1g {C:Cx}{L:List Oper}{H:N0}{k:Nat}{o:Oper}{l l':List Oper}{env env':Env}(h:Qo C L H (k+1) (o::l) env=some (l',env',Dg (k+1))) :
  ∃ d x,Cg C L o env H=some (d,True,x)∧Qo C L H k l (put env d x)=some (l',env',Dg k):=by
 rw [Qo] at h
 split at h
 ·rename_i d c x hs
  split at h
  ·rename_i b a cs hr
   simp only [zqb,zqh,Dg,List.cons.injEq] at h
   obtain ⟨rfl,rfl,hc,rfl⟩:=h
   subst hc
   exact ⟨d,x,hs,hr⟩
  ·cases h
 ·cases h
theorem R1j {C:Cx}{L:List Oper}{H:N0}{k:Nat}{l':List Oper}{env:Env}{r:Env×List Prop}(h:Qo C L H (k+1) [] env=some (l',r)):False:=by rw [Qo] at h; cases h
def B1f (C:Cx)(N:Nat)(L:List Oper)(H:N0)(k:Nat)(env:Env):Option (List Oper×Env×List Prop):=bif Ko L&&L.all (X9 N) then Qo C L H k L env else none
theorem J19 {C:Cx}{N:Nat}{L:List Oper}{H:N0}{env:Env}{k:Nat}{r:List Oper×Env×List Prop}(h:B1f C N L H k env=some r):Ko L=true∧L.all (X9 N)=true∧Qo C L H k L env=some r:=by
 unfold B1f at h
 cases hb:Ko L&&L.all (X9 N) with
 | false=>rw [hb] at h; cases h
 | true=>rw [hb] at h; simp only [zqi] at hb; exact ⟨hb.1,hb.2,h⟩
section
variable {C:Cx}[Nonempty (F3 C)]{N:FN}{K:Nat}{pn:Value→Env→N0→Prop}{es:Fr→Exit→Act→World→Prop}{L l l':List Oper}{env env':Env}{H:N0}
theorem o' (k:Nat){Q:Env→N0→Prop}(h:Qo C L H k l env=some (l',env',Dg k))(n:E0 ⟨C,N,K,pn,es⟩ L l' env' H Q):E0 ⟨C,N,K,pn,es⟩ L l env H Q:=by
 induction k generalizing l env with
 | zero=>rw [Qo] at h; cases h; exact n
 | succ k a=>cases l with
  | nil=>exact (R1j h).elim
  | cons o l=>
   obtain ⟨d,x,hs,hr⟩:=R1g h
   exact q' hs (a hr)
theorem O' (k:Nat){Q:Env→Prop}(h:Qo C L H k l env=some (l',env',Dg k))(n:AQ C L l' env' H Q):AQ C L l env H Q:=by
 induction k generalizing l env with
 | zero=>rw [Qo] at h; cases h; exact n
 | succ k a=>cases l with
  | nil=>exact (R1j h).elim
  | cons o l=>
   obtain ⟨d,x,hs,hr⟩:=R1g h
   exact Q' hs (a hr)
theorem e' {Q:Env→N0→Prop}(h:Qo C L H l.length l env=some ([],env',Dg l.length))(n:Q env' H):E0 ⟨C,N,K,pn,es⟩ L l env H Q:=o' _ h (n' n)
theorem E' {Q:Env→Prop}(h:Qo C L H l.length l env=some ([],env',Dg l.length))(n:Q env'):AQ C L l env H Q:=O' _ h (Qn' n)
theorem p' (k:Nat){id:Nat}{b:Code}{Q:Po}(h:B1f C N L H k env=some (l',env',Dg k))(n:E0 ⟨C,N,K,pn,es⟩ L l' env' H (Eo (Then ⟨C,N,K,pn,es⟩ b Q))):AEx ⟨C,N,K,pn,es⟩ (.seq (.region id L.toArray false) b) env H Q:=by
 obtain ⟨h1,h2,a⟩:=J19 h
 exact s' h1 h2 (o' k a n)
theorem t' {id:Nat}{b:Code}{Q:Po}(h:B1f C N L H L.length env=some ([],env',Dg L.length))(n:AEx ⟨C,N,K,pn,es⟩ b env' H Q):AEx ⟨C,N,K,pn,es⟩ (.seq (.region id L.toArray false) b) env H Q:=by
 obtain ⟨h1,h2,a⟩:=J19 h
 exact s' h1 h2 (e' a n)
theorem P' (k:Nat){id:Nat}{Q:Po}(h:B1f C N L H k env=some (l',env',Dg k))(n:E0 ⟨C,N,K,pn,es⟩ L l' env' H (Eo Q)):AEx ⟨C,N,K,pn,es⟩ (.region id L.toArray false) env H Q:=by
 obtain ⟨h1,h2,a⟩:=J19 h
 exact R' h1 h2 (o' k a n)
theorem T' {id:Nat}{Q:Po}(h:B1f C N L H L.length env=some ([],env',Dg L.length))(n:Q .normal env' H):AEx ⟨C,N,K,pn,es⟩ (.region id L.toArray false) env H Q:=by
 obtain ⟨h1,h2,a⟩:=J19 h
 exact R' h1 h2 (e' a n)
def S1j (C:Cx)(L:List Oper)(H:N0):Nat→List Oper→Env→Cnd→Option (List Oper×Env×Cnd×List Prop×List Prop)
 | 0,l,env,cnd=>some (l,env,cnd,[],[])
 | _+1,[],_,_=>none
 | k+1,o::l,env,cnd=>match Ft C L o env cnd H with
  | some (d,W,S,c,x)=>match S1j C L H k l (put env d x) (Ri cnd d W) with
   | some (l',e',n',ss,cs)=>some (l',e',n',S::ss,c::cs)
   | none=>none
  | none=>none
theorem G' (k:Nat){cnd a:Cnd}{R:Env→Cnd→Prop}(h:S1j C L H k l env cnd=some (l',env',a,Dg k,Dg k))(n:AG C L l' env' a H R):AG C L l env cnd H R:=by
 induction k generalizing l env cnd with
 | zero=>rw [S1j] at h; cases h; exact n
 | succ k e=>cases l with
  | nil=>rw [S1j] at h; cases h
  | cons o l=>
   rw [S1j] at h
   split at h
   ·rename_i d W S c x hs
    split at h
    ·rename_i j f i g cs hr
     simp only [zqb,zqh,Dg,List.cons.injEq] at h
     obtain ⟨rfl,rfl,rfl,⟨b,rfl⟩,hc,rfl⟩:=h
     subst b; subst hc
     exact a0' hs (e hr)
    ·cases h
   ·cases h
end
def sub (i:Nat)(c:Code):Code:=match i with
 | 0=>sl c
 | 1=>sr c
 | 2=>ca c
 | 3=>cb c
 | 4=>bk c
 | _=>lo c
def kon (F:Fx)(i:Nat)(c:Code)(Q:Po):Po:=match i with
 | 0=>Then F (sr c) Q
 | 4=>match c with
  | .block id _=>E19 id Q
  | _=>Q
 | 5=>L1w F (lo c) Q
 | _=>Q
def pc:Code→List Nat→Code
 | c,[]=>c
 | c,i::p=>pc (sub i c) p
def pk (F:Fx):Code→List Nat→Po→Po
 | _,[],Q=>Q
 | c,i::p,Q=>pk F (sub i c) p (kon F i c Q)
abbrev LM (C:Cx)(n K:Nat)(f:Func)(p:List Nat)(E:List (Nat×A))(H:N0)(R:A→N0→Prop):Prop:=
 Y0 (fx C n K) (lo (pc (Gt f) p)) (Je E) H (pk (fx C n K) (Gt f) p (Kn (fx C n K) f.results.toList R))
abbrev JM (C:Cx)(n K:Nat)(f:Func)(p:List Nat)(E:List (Nat×A))(H:N0)(R:A→N0→Prop):Prop:=
 AEx (fx C n K) (pc (Gt f) p) (Je E) H (pk (fx C n K) (Gt f) p (Kn (fx C n K) f.results.toList R))
open Go.ChangeShapes Go.WideShapes
section
variable {P:Program}{W:World}
theorem H17:∀ {laid:List (String×DataW Unit)} {ps:List MemPlace},DataW.LaidVars P W laid ps→∀ (i:Nat) n d,laid[i]?=some (n,d)→
  ∃ g t cs fuel p,P.globalNamed n=some g∧(P.globals[g]?).map (·.type)=some t∧W.var? P n=some cs∧DataW.trod (fun _=>()) P W 0 (fun _=>true) false fuel t cs.toList=some (d,p)
 | [],_,_,i,n,d,hi=>by simp at hi
 | (m,e)::r,ps,h,i,n,d,hi=>by
  obtain ⟨g,t,cs,fuel,p,q,h1,h2,b,a,c,_⟩:=h
  cases i with
  | zero=>cases hi; exact ⟨g,t,cs,fuel,p,h1,h2,b,a⟩
  | succ i=>exact H17 c i n d (by simpa using hi)
theorem J1r {name:String}{g:Nat}{cs:Array Value}(hg:P.globalNamed name=some g)(h:W.var? P name=some cs){i:Nat}{v:Value}(hi:cs[i]?=some v):Xj W ⟨g,i,none⟩=some v:=by
 have:=World.var?_cell hg h i
 unfold Xj
 rw [zp rfl,this,hi]
theorem P1m {laid:List (String×DataW Unit)}(h:laidMet P laid W)(i:Nat){name:String}{k:IntKind}{zs:List Int}(hi:laid[i]?=some (name,Lib.tabData k zs)){g:Nat}{t e:TypeId}{n:Nat}
  (hg:P.globalNamed name=some g) (a:(P.globals[g]?).map (·.type)=some t) (ht:P.underlying t=some (.array n e)) (f:P.underlying e=some (.int k)) (c:P.cellsOf e=1) (b:P.cellsOf t=n) :
  Lib.TabIs P W name k zs∧∀ (j:Nat) z,zs[j]?=some z→Xj W ⟨g,j,none⟩=some (.int k z):=by
 obtain ⟨ps,hv,_⟩:=h
 obtain ⟨g',t',cs,fuel,p,h1,h2,d,m⟩:=H17 hv i _ _ hi
 obtain rfl:=Option.some.inj (hg.symm.trans h1)
 obtain rfl:=Option.some.inj (a.symm.trans h2)
 have hc:=Lib.cells_of_tab ht f c b m
 have l:Lib.TabIs P W name k zs:=by unfold Lib.TabIs; rw [d,← hc]
 exact ⟨l,fun j z hz=>J1r hg d (by rw [← Array.getElem?_toList,hc,List.getElem?_map,hz]; rfl)⟩
theorem E1p {M:Mem}{w w':World}{name:String}{k:IntKind}{zs:List Int}{g:Nat}(hg:P.globalNamed name=some g)(e:0 < zs.length)(d:∀ (j:Nat) z,zs[j]?=some z→M ⟨g,j,none⟩=some (.int k z))
  (hb:∀ b,D1j M w b→w'.heap[b]?=w.heap[b]?) (h:Lib.TabIs P w name k zs):Lib.TabIs P w' name k zs:=by
 unfold Lib.TabIs at h ⊢
 simp only [World.var?,hg,Option.bind_some] at h ⊢
 split at h
 ·rename_i cs t f hc
  have a:=Option.some.inj h
  rw [hb g ⟨cs,t,f,hc,by rw [a]; simpa using e,fun i hi=>?_⟩,hc]
  ·exact h
  ·rw [a] at hi
   have c:i < zs.length:=by simpa using hi
   rw [d i zs[i] (zqv c)]
   simp
 ·cases h
end
def Rw (F:Fx)(L:List Oper)(o:Oper)(env:Env)(H:N0)(x:A)(H':N0):Prop:=
 ∀ env' K,(∀ t∈X8 L o,env' t=env t)→∀ Q:Env→N0→Prop,Q (put env' o.dst x) H'→E0 ⟨F.C,F.N,K,Mp,Uj⟩ L [o] env' H Q
def Ht (ps:List Nat):Nat→N0→N0
 | _,[]=>[]
 | n,x::r=>(bif ps.contains n then .dead else x)::Ht ps (n+1) r
def J3 (ps:List Nat)(H:N0):N0:=Ht ps 0 H
theorem C1d {ps:List Nat}:∀ {H:N0} {k n:Nat},(Ht ps k H)[n]?=(H[n]?).map fun x=>bif ps.contains (k+n) then Ob.dead else x
 | [],k,n=>by simp [Ht]
 | x::r,k,0=>by simp [Ht]
 | x::r,k,n+1=>by
  simp only [Ht,List.getElem?_cons_succ]
  rw [C1d,show k+1+n=k+(n+1) by omega]
theorem Qb {ps:List Nat}{H:N0}{n:Nat}:(J3 ps H)[n]?=(H[n]?).map fun x=>bif ps.contains n then Ob.dead else x:=by
 unfold J3; rw [C1d,Nat.zero_add]
theorem F9 {ps:List Nat}{H:N0}:(J3 ps H).length=H.length:=by
 have key:∀ (H:N0) (k:Nat),(Ht ps k H).length=H.length:=by
  intro H
  induction H with
  | nil=>intro k; rfl
  | cons x r a=>intro k; simp only [Ht,zqd,a]
 exact key H 0
theorem T1j {H:N0}:J3 [] H=H:=by
 apply List.ext_getElem?
 intro n
 rw [Qb]
 cases H[n]? <;> simp
theorem C1f {GL:GT}{env env':Env}{o:Oper}(h:∀ y∈o.op.operands,ev GL env' y=ev GL env y):Vf GL env' o=Vf GL env o:=by
 unfold Vf
 split
 ·rename_i b a e c
  rw [c] at h
  rw [h b (by simp [Op.operands,Call.operands])]
  have:a.toList.map (ev GL env')=a.toList.map (ev GL env):=List.map_congr_left fun y d=>h y (by simp only [Op.operands,Call.operands,Array.mem_append]; exact .inr (by simpa using d))
  rw [this]
 ·rfl
theorem Q1m {C:Cx}{L:List Oper}{env env':Env}{o:Oper}(h:∀ t∈X8 L o,env' t=env t):Ke C L o env'=Ke C L o env:=by
 unfold Ke
 rw [Hk h,C1f fun y a=>Ur fun t ht=>h t (by
  subst ht
  simp only [X8,List.mem_append,List.mem_filterMap]
  exact .inl ⟨.tmp t,by simpa using a,rfl⟩)]
theorem It:∀ l:List A,Pi l=some l
 | []=>rfl
 | x::r=>by simp only [Pi,It r]
theorem S1g:∀ l:List D,E1b l=some l
 | []=>rfl
 | x::r=>by simp only [E1b,S1g r]
theorem P1u (x:A):frc x=some x:=by
 cases x with
 | d y=>cases y <;> rfl
 | ptr cs=>simp only [frc,S1g]
 | clo f cs=>simp only [frc,It]
 | bnd f cs=>simp only [frc,It]
 | agg cs=>simp only [frc,It]
 | tup cs=>simp only [frc,It]
 | _=>rfl
theorem T1g:∀ l:List A,H1b l=some l
 | []=>rfl
 | x::r=>by simp only [H1b,P1u,T1g r]
theorem U1g:∀ H:N0,Sg H=some H
 | []=>rfl
 | x::r=>by
  have a:=U1g r
  cases x <;> simp only [Sg,T1g,a]
theorem Rw.g {F:Fx}{L:List Oper}{o:Oper}{env:Env}{H H':N0}{d:Option Nat}{g:FuncId}{xs:List A}{x y:A}(idx:List Nat){b:List A}{cH a:N0}{un:List Nat}
  (hc:L0 F.C g b cH (Ret a x)) (h:Ke F.C L o env=some (d,g,xs)) (I:Re (M3 idx H.length) b=xs) (hi:Ii idx H.length=true) (hm:Jl H idx=Oo (M3 idx H.length) cH)
  (ht:K5 idx cH=[]) (hr:frc (ren (M3 idx H.length) x)=some y) (w:Sg (E9 H idx (M3 idx H.length) (K5 idx cH) a)=some H')
  (f:(idx.all (fun p=>!un.contains p)&&un.all (fun p=>Nat.blt p H.length)&&Nat.ble idx.length a.length)=true) :
  ∀ ps:List Nat,(∀ p∈ps,p∈un)→Rw F L o env (J3 ps H) y (J3 ps H'):=by
 simp only [zqi,List.all_eq_true] at f
 obtain ⟨⟨B,D⟩,u3⟩:=f
 have u3:=Nat.le_of_ble_eq_true u3
 intro ps j env' K v Q m
 have h':=h
 rw [← Q1m v] at h'
 have G:=(Qp h).2.2
 have c:∀ p∈idx,ps.contains p=false:=fun p hp=>by
  have:=B p hp
  cases hb:ps.contains p with
  | false=>rfl
  | true=>
   have h1:=j p (by simpa using hb)
   have h2:un.contains p=true:=by simpa using h1
   rw [h2] at this; cases this
 have e:∀ l:List Nat,(∀ p∈l,p∈idx)→Jl (J3 ps H) l=Jl H l:=by
  intro l
  induction l with
  | nil=>intro _; rfl
  | cons p r E=>
   intro hl
   simp only [Jl]
   rw [E fun q m=>hl q (zqq _ m),Q3,Q3,Qb]
   have:=c p (hl p zqp)
   cases H[p]? with
   | none=>rfl
   | some z=>simp only [zqt,this,zql]
 have u:E9 (J3 ps H) idx (M3 idx H.length) (K5 idx cH) a=J3 ps (E9 H idx (M3 idx H.length) (K5 idx cH) a):=by
  apply List.ext_getElem?
  intro n
  rw [D13 u3,Qb,Qb,D13 u3,F9]
  by_cases hn:n < H.length
  ·rw [zp hn,zp hn]
   cases hf:fnd idx n with
   | none=>
    simp only
    rw [ht]
    cases H[n]? with
    | none=>rfl
    | some z=>
     simp only [zqt]
     cases ps.contains n <;> simp only [zqk,zql,dgO]
   | some i=>
    simp only
    have k:n∈idx:=List.mem_of_getElem? (Tl hf)
    cases a[i]? with
    | none=>rfl
    | some z=>simp only [zqt,c n k,zql]
  ·rw [zn hn,zn hn]
   have:ps.contains n=false:=by
    cases hb:ps.contains n with
    | false=>rfl
    | true=>
     have h1:=j n (by simpa using hb)
     have:=Nat.le_of_ble_eq_true (D n h1)
     exact absurd this hn
   cases a[idx.length+(n - H.length)]? with
   | none=>rfl
   | some z=>simp only [zqt,this,zql]
 have s:=Al w
 refine g' idx hc h' (by rw [F9]; exact I) (by rw [F9]; exact hi) (by rw [F9,e idx fun _ h=>h]; exact hm) (by rw [F9]; exact hr) (H':=J3 ps H') ?_ (E0.nil ?_)
 ·rw [F9,u,← s]
  exact U1g _
 ·rw [show (fun t=>dg (K5 idx cH) (env' t))=env' from by funext t; rw [ht,D1r]]
  rw [← G]
  exact m
def loN (L:List Oper)(ls:List Nat)(j:Nat):Nat:=(ls.filter fun l=>Ah L L.length j l).length
def hiN (L:List Oper)(ls:List Nat)(j:Nat):Nat:=(ls.filter fun l=>!Ah L L.length l j).length
def Kl:List (Nat×Nat)→Nat→Option Nat
 | [],_=>none
 | q::r,j=>bif Nat.beq q.1 j then some q.2 else Kl r j
def unw (L:List Oper):List (Nat×Nat)→Nat→List Nat
 | [],_=>[]
 | q::r,j=>bif Ah L L.length j q.1 then unw L r j else q.2::unw L r j
def U1j (F:Fx)(L:List Oper)(o:Oper)(env:Env)(t:TypeId)(cs:List A):Prop:=
 ∀ env' H M G w (a:Act),(∀ u∈X8 L o,env' u=env u)→St F.C F.N M G w env' H a→∃ vs,Bi M G cs vs∧(execOp a.eval o).run F.C.P w = .ok (.value (.pointer (some ⟨w.heap.size,0,none⟩))) (w.alloc (.cells vs t))
def AS (F:Fx)(L:List Oper)(ls:List Nat)(fs:List (Nat×Nat))(Hs:List N0):Nat→Nat→List Oper→Env→(Env→Prop)→Prop
 | _,_,[],env,Q=>Q env
 | j,i,o::r,env,Q=>
  (∃ d x,o.dst=d∧ls.contains j=false∧Kl fs j=none∧(∀ H∈Hs.drop (loN L ls j),∀ ps:List Nat,(∀ p∈ps,p∈unw L fs j)→Uy F.C L o env (J3 ps H) x)∧AS F L ls fs Hs (j+1) i r (put env d x) Q)∨
  (∃ x H H',nth ls i=some j∧Kl fs j=none∧Z1 L env o=some true∧nth Hs i=some H∧nth Hs (i+1)=some H'∧(∀ ps:List Nat,(∀ p∈ps,p∈unw L fs j)→Rw F L o env (J3 ps H) x (J3 ps H'))∧
   AS F L ls fs Hs (j+1) (i+1) r (put env o.dst x) Q)∨
  (∃ t cs p,Kl fs j=some p∧ls.contains j=false∧Z1 L env o=some true∧U1j F L o env t cs∧(∀ H∈Hs.take (hiN L ls j+1),nth H p=some (.row cs t))∧AS F L ls fs Hs (j+1) i r (put env o.dst (.ref p 0)) Q)
def V1j (L:List Oper)(ls:List Nat)(n:Nat):Bool:=
 (List.range ls.length).all fun i=>(match nth ls i with | some j=>Nat.blt j n | none=>true)&&(List.range i).all fun k=>match nth ls i,nth ls k with | some j,some l=>Nat.blt l j&&Ah L L.length j l | _,_=>true
theorem R1m {L:List Oper}{ls:List Nat}{n:Nat}(h:V1j L ls n=true):(∀ l∈ls,l < n)∧∀ (s k j l:Nat),ls[s]?=some j→ls[k]?=some l→k < s→l < j∧Ah L L.length j l=true:=by
 unfold V1j at h
 refine ⟨fun l hl=>?_,fun s k j l hs hk a=>?_⟩
 ·obtain ⟨i,hi⟩:=List.getElem?_of_mem hl
  have h1:=List.all_eq_true.1 h i (List.mem_range.2 (zqu.1 hi).1)
  simp only [zqi,Q3,hi] at h1
  exact Nat.le_of_ble_eq_true h1.1
 ·have h1:=List.all_eq_true.1 h s (List.mem_range.2 (zqu.1 hs).1)
  simp only [zqi] at h1
  have h2:=List.all_eq_true.1 h1.2 k (List.mem_range.2 a)
  simp only [Q3,hs,hk,zqi] at h2
  exact ⟨Nat.le_of_ble_eq_true h2.1,h2.2⟩
def H7 (ls:List Nat)(listed:Array Bool):Nat:=(ls.filter fun l=>listed.getD l false).length
theorem W1j {ls:List Nat}{listed:Array Bool}(h:∀ l∈ls,listed.getD l false=true):H7 ls listed=ls.length:=by
 unfold H7
 rw [List.filter_eq_self.2 h]
theorem K1r {ls:List Nat}{listed:Array Bool}(h:∀ l,listed.getD l false=false):H7 ls listed=0:=by
 unfold H7
 rw [List.filter_eq_nil_iff.2 fun l _=>by rw [h l]; simp]
 rfl
theorem I17 {ls:List Nat}{listed:Array Bool}{j:Nat}(h:j ∉ ls):H7 ls (listed.setIfInBounds j true)=H7 ls listed:=by
 unfold H7
 congr 1
 refine List.filter_congr fun l hl=>?_
 exact getD_set_ne false (fun e=>h (by rw [e]; exact hl))
theorem N1n:∀ {ls:List Nat} {listed:Array Bool} {s j:Nat},ls[s]?=some j→(∀ (k l:Nat),k < s→ls[k]?=some l→listed.getD l false=true)→(∀ (k l:Nat),s≤k→ls[k]?=some l→listed.getD l false=false)→H7 ls listed=s
 | [],_,s,j,h,_,_=>by simp at h
 | x::r,listed,0,j,h,h1,h2=>by
  unfold H7
  rw [List.filter_eq_nil_iff.2 fun l hl=>by
   obtain ⟨k,hk⟩:=List.getElem?_of_mem hl
   rw [h2 k l (Nat.zero_le _) hk]; simp]
  rfl
 | x::r,listed,s+1,j,h,h1,h2=>by
  have a:=N1n (ls:=r) (listed:=listed) (s:=s) (j:=j) (by simpa using h) (fun k l hk hl=>h1 (k+1) l (by omega) (by simpa using hl)) (fun k l hk hl=>h2 (k+1) l (by omega) (by simpa using hl))
  unfold H7 at a ⊢
  have b:=h1 0 x (by omega) rfl
  rw [List.filter_cons,zp b,zqd,a]
theorem X1j:∀ {ls:List Nat} {listed:Array Bool} {s j:Nat},(∀ (a b x y:Nat),ls[a]?=some x→ls[b]?=some y→a < b→x < y)→ls[s]?=some j→listed.getD j false=false→j < listed.size→H7 ls (listed.setIfInBounds j true)=H7 ls listed+1
 | [],_,s,j,_,h,_,_=>by simp at h
 | x::r,listed,0,j,c,h,hf,d=>by
  simp only [List.getElem?_cons_zero,zqb] at h
  subst h
  have hr:x ∉ r:=fun hm=>by
   obtain ⟨k,hk⟩:=List.getElem?_of_mem hm
   have:=c 0 (k+1) x x rfl (by simpa using hk) (by omega)
   omega
  have:=I17 (listed:=listed) hr
  unfold H7 at this ⊢
  rw [List.filter_cons,List.filter_cons,zp (by simp [d]),zn (by rw [hf]; simp),zqd,this]
 | x::r,listed,s+1,j,c,h,hf,d=>by
  have f:x < j:=c 0 (s+1) x j rfl h (by omega)
  have e:=X1j (ls:=r) (listed:=listed) (s:=s) (j:=j) (fun a b x y h1 h2 i=>c (a+1) (b+1) x y (by simpa using h1) (by simpa using h2) (by omega)) (by simpa using h) hf d
  unfold H7 at e ⊢
  have g:(listed.setIfInBounds j true).getD x false=listed.getD x false:=getD_set_ne false (by omega)
  rw [List.filter_cons,List.filter_cons,g]
  split
  ·rw [zqd,zqd,e]
  ·exact e
def Y1j (F:Fx)(L:List Oper)(ls:List Nat)(fs:List (Nat×Nat))(Hs:List N0)(i:Nat)(o:Oper)(env:Env)(x:A):Prop:=
 (ls.contains i=false∧Kl fs i=none∧∀ H∈Hs.drop (loN L ls i),∀ ps:List Nat,(∀ p∈ps,p∈unw L fs i)→Uy F.C L o env (J3 ps H) x)∨
 (∃ s H H',ls[s]?=some i∧Kl fs i=none∧Z1 L env o=some true∧Hs[s]?=some H∧Hs[s+1]?=some H'∧∀ ps:List Nat,(∀ p∈ps,p∈unw L fs i)→Rw F L o env (J3 ps H) x (J3 ps H'))∨
 (∃ t cs p,Kl fs i=some p∧ls.contains i=false∧Z1 L env o=some true∧U1j F L o env t cs∧(∀ H∈Hs.take (hiN L ls i+1),nth H p=some (.row cs t))∧x = .ref p 0)
theorem AS.outs {F:Fx}{L:List Oper}{ls:List Nat}{fs:List (Nat×Nat)}{Hs:List N0}{env:Env}{Q:Env→Prop}{n:Nat}(hn:n≤L.length)(h:AS F L ls fs Hs 0 0 (L.take n) env Q) :
  ∃ out:Nat→A,(∀ i o,i < n→L[i]?=some o→Y1j F L ls fs Hs i o (L2 L env out (fun _=>true) i) (out i))∧Q (L2 L env out (fun _=>true) n):=by
 have key:∀ (m k s:Nat) (a:Nat→A),k+m=n→(∀ i o,i < k→L[i]?=some o→Y1j F L ls fs Hs i o (L2 L env a (fun _=>true) i) (a i))→
   AS F L ls fs Hs k s ((L.take n).drop k) (L2 L env a (fun _=>true) k) Q→
   ∃ out:Nat→A,(∀ i o,i < n→L[i]?=some o→Y1j F L ls fs Hs i o (L2 L env out (fun _=>true) i) (out i))∧Q (L2 L env out (fun _=>true) n):=by
  intro m
  induction m with
  | zero=>
   intro k s a hk B l
   have:k=n:=by omega
   subst this
   rw [List.drop_eq_nil_of_le (by simp; omega)] at l
   exact ⟨a,B,l⟩
  | succ m G=>
   intro k s a hk B l
   have E:k < n:=by omega
   have z:k < L.length:=by omega
   have e:(L.take n).drop k=L[k]::(L.take n).drop (k+1):=by
    rw [List.drop_eq_getElem_cons (by simp; omega)]
    simp
   rw [e] at l
   have q:L[k]?=some L[k]:=zqv z
   have C:∀ (x:A) (s':Nat),Y1j F L ls fs Hs k L[k] (L2 L env a (fun _=>true) k) x→
     AS F L ls fs Hs (k+1) s' ((L.take n).drop (k+1)) (put (L2 L env a (fun _=>true) k) (L[k]).dst x) Q→
     ∃ out:Nat→A,(∀ i o,i < n→L[i]?=some o→Y1j F L ls fs Hs i o (L2 L env out (fun _=>true) i) (out i))∧Q (L2 L env out (fun _=>true) n):=by
    intro x s' f b
    let out1:Nat→A:=fun i=>if i=k then x else a i
    have c:∀ i,i≤k→L2 L env out1 (fun _=>true) i=L2 L env a (fun _=>true) i:=by
     intro i hi
     funext t
     simp only [L2]
     cases hl:V4 L (fun _=>true) t i with
     | none=>rfl
     | some j=>
      have:=(Sp hl).1
      simp only [out1]
      rw [zn (by omega)]
    refine G (k+1) s' out1 (by omega) (fun i o hi u=>?_) ?_
    ·by_cases hik:i=k
     ·subst hik
      rw [q] at u
      simp only [zqb] at u
      subst u
      rw [c i (zqr _)]
      simpa [out1] using f
     ·rw [c i (by omega)]
      have:=B i o (by omega) u
      simpa [out1,hik] using this
    ·rw [W1c q,c k (zqr _)]
     simpa [out1] using b
   rcases l with ⟨d,x,I,g,v,f,b⟩ | ⟨x,H,H',h1,hf,y,h2,D,hl,b⟩ | ⟨t,cs,p,hf,g,y,w,r,b⟩
   ·exact C x s (.inl ⟨g,v,f⟩) (by rw [I]; exact b)
   ·rw [Q3] at h1 h2 D
    exact C x (s+1) (.inr (.inl ⟨s,H,H',h1,hf,y,h2,D,hl⟩)) b
   ·exact C _ s (.inr (.inr ⟨t,cs,p,hf,g,y,w,r,rfl⟩)) b
 exact key n 0 0 (fun _=>.junk) (by omega) (fun i o hi=>by omega) (by simpa [V1c] using h)
def unf (listed:Array Bool):List (Nat×Nat)→List Nat
 | []=>[]
 | q::r=>bif listed.getD q.1 false then unf listed r else q.2::unf listed r
theorem Bn {listed:Array Bool}{p:Nat}:∀ {fs:List (Nat×Nat)},p∈unf listed fs ↔ ∃ q∈fs,q.2=p∧listed.getD q.1 false=false
 | []=>by simp [unf]
 | q::r=>by
  simp only [unf]
  cases hq:listed.getD q.1 false with
  | true=>
   simp only [zqk,Bn (fs:=r),List.mem_cons]
   constructor
   ·rintro ⟨x,h1,h2⟩; exact ⟨x,.inr h1,h2⟩
   ·rintro ⟨x,rfl | h1,h2⟩
    ·rw [hq] at h2; cases h2.2
    ·exact ⟨x,h1,h2⟩
  | false=>
   simp only [zql,List.mem_cons,Bn (fs:=r)]
   constructor
   ·rintro (rfl | ⟨x,h1,h2⟩)
    ·exact ⟨q,.inl rfl,rfl,hq⟩
    ·exact ⟨x,.inr h1,h2⟩
   ·rintro ⟨x,rfl | h1,h2⟩
    ·exact .inl h2.1.symm
    ·exact .inr ⟨x,h1,h2⟩
theorem D1f {L:List Oper}{j p:Nat}:∀ {fs:List (Nat×Nat)},p∈unw L fs j ↔ ∃ q∈fs,q.2=p∧Ah L L.length j q.1=false
 | []=>by simp [unw]
 | q::r=>by
  simp only [unw]
  cases hq:Ah L L.length j q.1 with
  | true=>
   simp only [zqk,D1f (fs:=r),List.mem_cons]
   constructor
   ·rintro ⟨x,h1,h2⟩; exact ⟨x,.inr h1,h2⟩
   ·rintro ⟨x,rfl | h1,h2⟩
    ·rw [hq] at h2; cases h2.2
    ·exact ⟨x,h1,h2⟩
  | false=>
   simp only [zql,List.mem_cons,D1f (fs:=r)]
   constructor
   ·rintro (rfl | ⟨x,h1,h2⟩)
    ·exact ⟨q,.inl rfl,rfl,hq⟩
    ·exact ⟨x,.inr h1,h2⟩
   ·rintro ⟨x,rfl | h1,h2⟩
    ·exact .inl h2.1.symm
    ·exact .inr ⟨x,h1,h2⟩
theorem V1g {j p:Nat}:∀ {fs:List (Nat×Nat)},Kl fs j=some p→(j,p)∈fs
 | [],h=>by cases h
 | q::r,h=>by
  simp only [Kl] at h
  cases hq:Nat.beq q.1 j with
  | true=>
   rw [hq] at h
   obtain rfl:=zqo hq
   simp only [zqk,zqb] at h
   subst h
   exact zqp
  | false=>rw [hq] at h; exact zqq _ (V1g h)
theorem J17 {j:Nat}:∀ {fs:List (Nat×Nat)},Kl fs j=none→∀ q∈fs,q.1≠j
 | [],_,q,a=>by cases a
 | x::r,h,q,a=>by
  simp only [Kl] at h
  cases hx:Nat.beq x.1 j with
  | true=>rw [hx] at h; cases h
  | false=>
   rw [hx] at h
   cases a with
   | head=>exact fun e=>by rw [e] at hx; simp at hx
   | tail _ a=>exact J17 h q a
theorem J1b {listed:Array Bool}{j:Nat}:∀ {fs:List (Nat×Nat)},(∀ q∈fs,q.1≠j)→unf (listed.setIfInBounds j true) fs=unf listed fs
 | [],_=>rfl
 | q::r,h=>by
  simp only [unf]
  rw [getD_set_ne false (Ne.symm (h q zqp)),J1b fun x a=>h x (zqq _ a)]
def Z1j (fs:List (Nat×Nat))(n K N:Nat):Bool:=
 R10 (fs.map (·.1))&&R10 (fs.map (·.2))&&fs.all fun q=>Nat.blt q.1 n&&Nat.ble K q.2&&Nat.blt q.2 N
theorem S1m {fs:List (Nat×Nat)}{n K N:Nat}(h:Z1j fs n K N=true):(∀ q∈fs,q.1 < n∧K≤q.2∧q.2 < N)∧∀ q∈fs,∀ q'∈fs,(q.1=q'.1∨q.2=q'.2)→q=q':=by
 simp only [Z1j,zqi,List.all_eq_true] at h
 obtain ⟨⟨h1,h2⟩,d⟩:=h
 have e:=Qn h1
 have i:=Qn h2
 refine ⟨fun q b=>⟨Nat.le_of_ble_eq_true (d q b).1.1,Nat.le_of_ble_eq_true (d q b).1.2,Nat.le_of_ble_eq_true (d q b).2⟩,?_⟩
 have inj:∀ {f:Nat×Nat→Nat} {l:List (Nat×Nat)},(l.map f).Nodup→∀ q∈l,∀ q'∈l,f q=f q'→q=q':=by
  intro f l
  induction l with
  | nil=>intro _ q b; cases b
  | cons x r g=>
   intro c q b q' a he
   rw [List.map_cons,List.nodup_cons] at c
   cases b with
   | head=>
    cases a with
    | head=>rfl
    | tail _ a=>exact absurd (by rw [he]; exact List.mem_map_of_mem a) c.1
   | tail _ b=>
    cases a with
    | head=>exact absurd (by rw [← he]; exact List.mem_map_of_mem b) c.1
    | tail _ a=>exact g c.2 q b q' a he
 intro q b q' a he
 rcases he with he | he
 ·exact inj e q b q' a he
 ·exact inj i q b q' a he
theorem St.fillRow {C:Cx}{N:FN}{M:Mem}{G:Nat→Value}{w:World}{env:Env}{H:N0}{a:Act}(h:St C N M G w env H a){dst:Option Nat}(P:∀ d,dst=some d→d < N){cs:List A}{vs:Array Value}{elem:TypeId}{p:Nat}
  (hp:H[p]?=some .dead) (hg:G p = .tuple #[]) (hc:Bi M G cs vs) {H':N0} (hl:H'.length=H.length) (u:∀ n,H'[n]?=if n=p then some (.row cs elem) else H[n]?) :
  St C N M (Y7 G p (.pointer (some ⟨w.heap.size,0,none⟩))) (w.alloc (.cells vs elem)) (put env dst (.ref p 0)) H' (a.put dst (.pointer (some ⟨w.heap.size,0,none⟩))):=by
 have f:∀ {x:A} {v:Value},L1 M G x v→L1 M (Y7 G p (.pointer (some ⟨w.heap.size,0,none⟩))) x v:=fun hr=>hr.mono (fun _ _ e=>e) fun o hn=>A3 (fun e=>hr.names hn (by rw [e]; exact hg))
 obtain ⟨h1,h2,O⟩:=Xo (fun t=>f (h.env t)) h.size P (x:=.ref p 0) (v:=.pointer (some ⟨w.heap.size,0,none⟩)) (.ref E4)
 have E:p < H.length:=(zqu.1 hp).1
 refine ⟨h.good.alloc _,h.gl.ext h.hrel (Ty C9 _ _ _) (fun _ h=>h.elim),⟨fun o x g=>?_,fun o o' x x' b g j hb B=>?_,fun o g=>?_⟩,h1,h2,O.trans h.defers⟩
 ·rw [u] at g
  by_cases hop:o=p
  ·rw [zp hop] at g
   cases g
   subst hop
   rw [E4]
   exact ⟨w.heap.size,vs,rfl,heap_alloc_new w _,Nat.le_of_eq hc.1,hc.2.1,fun i x v a b=>f (hc.2.2 i x v a b),fun off sp=>by
    cases hM:M ⟨w.heap.size,off,sp⟩ with
    | none=>rfl
    | some v=>have:=h.good.lt hM; simp at this⟩
  ·rw [zn hop] at g
   rw [A3 hop]
   have q:=h.hrel.obj o x g
   have hk:Rj M G (w.alloc (.cells vs elem)) x (G o):=q.keep (fun _ _ e=>e) (fun b hb=>heap_alloc_old w _ b (Wb q hb)) (fun _ _ _ _ e=>e)
   cases x with
   | dead=>trivial
   | row cells e=>
    obtain ⟨b,J,m,s,r,l,z,F⟩:=hk
    exact ⟨b,J,m,s,r,l,fun i y v a c=>f (z i y v a c),F⟩
   | tok e sz=>exact hk
   | map es=>
    obtain ⟨b,ms,cl,m,s,r,l,z⟩:=hk
    exact ⟨b,ms,cl,m,s,r,fun i k cs e a c=>⟨(l i k cs e a c).1,f (l i k cs e a c).2⟩,z⟩
   | bld o' e=>
    obtain ⟨b,K,m,s,r,l,z⟩:=hk
    have j:o'≠p:=fun e=>l (by rw [e]; exact hg)
    exact ⟨b,K,m,by rw [A3 j]; exact s,r,by rw [A3 j]; exact l,z⟩
   | buf e sz=>exact hk
 ·have key:∀ (o:Nat) x b,H'[o]?=some x→blk x (Y7 G p (.pointer (some ⟨w.heap.size,0,none⟩)) o)=some b→(o≠p∧H[o]?=some x∧blk x (G o)=some b∧b < w.heap.size)∨(o=p∧b=w.heap.size):=by
   intro o x b g hb
   rw [u] at g
   by_cases hop:o=p
   ·rw [zp hop] at g
    cases g
    subst hop
    rw [E4] at hb
    simp [blk] at hb
    exact .inr ⟨rfl,hb.symm⟩
   ·rw [zn hop] at g
    rw [A3 hop] at hb
    exact .inl ⟨hop,g,hb,Wb (h.hrel.obj o x g) hb⟩
  rcases key o x b g hb with ⟨I,D,L,Q⟩ | ⟨I,D⟩ <;> rcases key o' x' b j B with ⟨p1,p2,p3,p4⟩ | ⟨p1,p2⟩
  ·exact h.hrel.apart o o' x x' b D p2 L p3
  ·omega
  ·omega
  ·omega
 ·rw [hl] at g
  rw [A3 (by omega)]
  exact h.hrel.fresh o g
theorem Q2.fillRow {fr:Fr}{M:Mem}{G:Nat→Value}{w:World}{H:N0}(h:Q2 fr M G w H){cs:List A}{vs:Array Value}{elem:TypeId}{p:Nat}(j:fr.H0.length≤p)(i:p < H.length){H':N0}(hl:H'.length=H.length)
  (c:∀ n,H'[n]?=if n=p then some (.row cs elem) else H[n]?):Q2 fr M (Y7 G p (.pointer (some ⟨w.heap.size,0,none⟩))) (w.alloc (.cells vs elem)) H':=by
 have d:∀ {o:Nat} {x:Ob},fr.H0[o]?=some x→o≠p:=fun a e=>by have:=(zqu.1 a).1; omega
 refine ⟨h.ext.trans (Ty C9 _ _ _) (fun _ h=>h.elim),fun b hb=>?_,by rw [hl]; exact h.len,fun o x a ht=>?_,fun o x y a ht g=>?_⟩
 ·obtain ⟨o,x,a,f⟩:=hb
  rw [c] at a
  by_cases hop:o=p
  ·rw [zp hop] at a
   cases a
   subst hop
   rw [E4] at f
   simp [blk] at f
   subst f
   exact .inr h.ext.size
  ·rw [zn hop] at a
   rw [A3 hop] at f
   exact h.own b ⟨o,x,a,f⟩
 ·rw [A3 (d a)]
  exact h.keep o x a ht
 ·rw [c,zn (d a)] at g
  exact h.kind o x y a ht g
theorem St.pad {C:Cx}{N:FN}{M:Mem}{G:Nat→Value}{w:World}{env:Env}{H:N0}{a:Act}(h:St C N M G w env H a)(k:Nat):St C N M G w env (H++List.replicate k .dead) a:=by
 have get:∀ (o:Nat) x,(H++List.replicate k Ob.dead)[o]?=some x→H[o]?=some x∨x = .dead:=fun o x c=>by
  by_cases hlt:o < H.length
  ·rw [zqx hlt] at c; exact .inl c
  ·rw [List.getElem?_append_right (by omega),List.getElem?_replicate] at c
   split at c
   ·cases c; exact .inr rfl
   ·cases c
 refine ⟨h.good,h.gl,⟨fun o x c=>?_,fun o o' x x' b c e hb d=>?_,fun o c=>h.hrel.fresh o (by simp at c; omega)⟩,h.env,h.size,h.defers⟩
 ·rcases get o x c with h1 | rfl
  ·exact h.hrel.obj o x h1
  ·trivial
 ·rcases get o x c with h1 | rfl
  ·rcases get o' x' e with h2 | rfl
   ·exact h.hrel.apart o o' x x' b h1 h2 hb d
   ·simp [blk] at d
  ·simp [blk] at hb
theorem Q2.pad {fr:Fr}{M:Mem}{G:Nat→Value}{w:World}{H:N0}(h:Q2 fr M G w H)(k:Nat):Q2 fr M G w (H++List.replicate k .dead):=by
 refine ⟨h.ext,fun b hb=>?_,by simp; have:=h.len; omega,h.keep,fun o x y a ht e=>?_⟩
 ·obtain ⟨o,x,a,d⟩:=hb
  by_cases c:o < H.length
  ·rw [zqx c] at a; exact h.own b ⟨o,x,a,d⟩
  ·rw [List.getElem?_append_right (by omega),List.getElem?_replicate] at a
   split at a
   ·cases a; simp [blk] at d
   ·cases a
 ·have c:o < H.length:=Nat.lt_of_lt_of_le (zqu.1 a).1 h.len
  rw [zqx c] at e
  exact h.kind o x y a ht e
theorem Q2.step {fr:Fr}{M M':Mem}{G G':Nat→Value}{w w':World}{H H':N0}(h:Q2 fr M G w H)(h':Q2 ⟨H,G,M,w⟩ M' G' w' H'):Q2 fr M' G' w' H':=by
 refine ⟨h.ext.trans h'.ext (fun b hb=>h.own b hb),fun b hb=>?_,Nat.le_trans h.len h'.len,fun o x c ht=>?_,fun o x y c ht d=>?_⟩
 ·rcases h'.own b hb with h1 | h1
  ·exact h.own b h1
  ·exact .inr (Nat.le_trans h.ext.size h1)
 ·have a:o < H.length:=Nat.lt_of_lt_of_le (zqu.1 c).1 h.len
  have hz:=zqv a
  exact (h'.keep o _ hz (h.kind o x _ c ht hz)).trans (h.keep o x c ht)
 ·have a:o < H.length:=Nat.lt_of_lt_of_le (zqu.1 c).1 h.len
  have hz:=zqv a
  exact h'.kind o _ y hz (h.kind o x _ c ht hz) d
theorem Q2.refl {M:Mem}{G:Nat→Value}{w:World}{H:N0}:Q2 ⟨H,G,M,w⟩ M G w H:=
 ⟨Ext.refl _ _ _,fun _ hb=>.inl hb,zqr _,fun _ _ _ _=>rfl,fun o x y a ht b=>by
  have:x=y:=Option.some.inj (a.symm.trans b)
  rwa [← this]⟩
theorem W1g {listed:Array Bool}{fs:List (Nat×Nat)}(h:∀ q∈fs,listed.getD q.1 false=true):unf listed fs=[]:=by
 rw [List.eq_nil_iff_forall_not_mem]
 intro p hp
 obtain ⟨q,a,_,hf⟩:=Bn.1 hp
 rw [h q a] at hf
 cases hf
theorem AEx.drawL {F:Fx}(hC:F3 F.C){id:Nat}{L:List Oper}{env:Env}{H:N0}{Q:Po}(n:Nat)(ls:List Nat)(fs:List (Nat×Nat))(Hs:List N0)(hd:L.all (X9 F.N)=true)(j5:C17 L n=true)(i3:Nat.ble n L.length=true)(i2:V1j L ls n=true)
  {H0:N0} (e8:nth Hs 0=some H0) (i1:Z1j fs n H.length H0.length=true) (c9:J3 (fs.map (·.2)) H0=H++List.replicate fs.length .dead) (g9:(Hs.all fun K=>Nat.ble H0.length K.length)=true) (j7:Hs.length=ls.length+1) {Hm:N0} (f4:nth Hs ls.length=some Hm)
  (h:AS F L ls fs Hs 0 0 (L.take n) env (fun env'=>E0 F L (L.drop n) env' Hm (Eo Q))):AEx F (.region id L.toArray true) env H Q:=by
 obtain ⟨b4,d9⟩:=S1m i1
 have hn:=Nat.le_of_ble_eq_true i3
 have a2:∀ (i:Nat) o,L[i]?=some o→X9 F.N o=true:=fun i o ho=>List.all_eq_true.1 hd o (List.mem_of_getElem? ho)
 obtain ⟨out,d4,hQ⟩:=h.outs hn
 obtain ⟨a9,R⟩:=P1a j5
 obtain ⟨f6,d6⟩:=R1m i2
 let Hf:Nat→N0:=fun k=>(Hs[k]?).getD []
 have a8:∀ k,k≤ls.length→Hs[k]?=some (Hf k):=fun k hk=>by
  have z:k < Hs.length:=by omega
  simp only [Hf,zqv z,Option.getD_some]
 rw [Q3] at e8 f4
 have f5:Hf 0=H0:=by simp only [Hf,e8,Option.getD_some]
 have f7:Hf ls.length=Hm:=by simp only [Hf,f4,Option.getD_some]
 have e0:∀ k,k≤ls.length→∀ p,p < H0.length→p < (Hf k).length:=fun k hk p hp=>by
  have:=Nat.le_of_ble_eq_true (List.all_eq_true.1 g9 _ (List.mem_of_getElem? (a8 k hk)))
  omega
 intro fr M G w g4 hK hs A
 have i8:=A.len
 let Qw:Exit→Act→World→Prop:=Fin F fr Q
 have f8:L.toArray.size=L.length:=by simp
 have c8:∀ (m k:Nat) (listed:Array Bool) (a:Act) (w:World),k+m=L.length→n≤k→I19 L n listed→(∀ i,i < k→listed.getD i false=true)→(∀ i,k≤i→i < L.length→listed.getD i true=false)→
   wpList F.C.P L.toArray Qw (L.drop k) a w→wpAny F.C.P .any L.toArray Qw m listed a w:=by
  intro m
  induction m with
  | zero=>
   intro k listed a w hk _ B h1 _ U
   have D:k=L.length:=by omega
   have c3:Region.ready .any L.toArray listed=[]:=by
    rw [List.eq_nil_iff_forall_not_mem]
    intro j hj
    obtain ⟨hu,o,ho,_⟩:=mem_ready.1 hj
    have j9:j < L.length:=by simpa using (Array.getElem?_eq_some_iff.1 ho).1
    have:=h1 j (by omega)
    rw [Yb hu] at this
    cases this
   rw [List.drop_eq_nil_of_le (by omega)] at U
   exact ⟨c3,U⟩
  | succ m ih=>
   intro k listed a w hk j8 B h1 h2 U
   have X:k < L.length:=by omega
   have e9:L[k]?=some L[k]:=zqv X
   have g2:k∈Region.ready .any L.toArray listed:=mem_ready.2 ⟨h2 k (zqr _) X,L[k],(by simp [X]),fun e he hb=>h1 e.on (a9 k _ e9 e he hb)⟩
   refine ⟨fun h0=>(by rw [h0] at g2; cases g2),fun j hj=>?_⟩
   obtain ⟨hu,o,ho,f⟩:=mem_ready.1 hj
   have a7:j < L.length:=by simpa using (Array.getElem?_eq_some_iff.1 ho).1
   have j3:j=k:=by
    rcases Nat.lt_trichotomy j k with z | he | hgt
    ·have:=h1 j z; rw [Yb hu] at this; cases this
    ·exact he
    ·have b7:=R k j hgt a7 (.inr (by omega))
     have:=Me B.closed (by simpa using ho) (fun e he hb=>f e he hb) L.length k b7
     rw [Yb (h2 k (zqr _) X)] at this
     cases this
   subst j3
   rw [List.drop_eq_getElem_cons X] at U
   have i4:wpOp F.C.P L.toArray Qw j (wpList F.C.P L.toArray Qw (L.drop (j+1))) a w:=by
    unfold wpOp
    simp only [List.getElem?_toArray,e9]
    exact U
   refine wpOp_mono (fun a' w' b7=>ih (j+1) _ a' w' (by omega) (by omega) ⟨by simp [B.size],fun i o' V hl e he hb=>?_⟩ (fun i hi=>?_) (fun i hi Z=>?_) b7) i4
   ·by_cases hij:j=i
    ·subst hij
     have:o'=o:=Option.some.inj (V.symm.trans (by simpa using ho))
     subst this
     exact getD_set_true (f e he hb)
    ·rw [getD_set_ne false hij] at hl
     exact getD_set_true (B.closed i o' V hl e he hb)
   ·by_cases hij:j=i
    ·subst hij
     simp [B.size,X]
    ·rw [getD_set_ne false hij]
     exact h1 i (by omega)
   ·rw [getD_set_ne true (by omega)]
    exact h2 i (by omega) Z
 have e6:∀ (m:Nat) (listed:Array Bool) (M:Mem) (G:Nat→Value) (w:World) (a:Act),listed.toList.count true+m=L.length→I19 L n listed→(∀ i,n≤i→i < L.length→listed.getD i true=false)→
   (∀ p∈unf listed fs,G p = .tuple #[])→St F.C F.N M G w (L2 L env out (fun i=>listed.getD i false) n) (J3 (unf listed fs) (Hf (H7 ls listed))) a→Q2 fr M G w (J3 (unf listed fs) (Hf (H7 ls listed)))→wpAny F.C.P .any L.toArray Qw m listed a w:=by
  intro m
  induction m with
  | zero=>
   intro listed M G w a hm B b5 a5 hs A
   have f:=X1c B.size (by omega)
   have k1:n=L.length:=by
    rcases Nat.lt_or_ge n L.length with h' | h'
    ·have:=f n h'
     rw [Yb (b5 n (zqr _) h')] at this
     cases this
    ·omega
   have b1:L2 L env out (fun i=>listed.getD i false) n=L2 L env out (fun _=>true) n:=by
    funext t
    simp only [L2]
    rw [C8 fun i hi _=>f i (by omega)]
   have hc:H7 ls listed=ls.length:=W1j fun l hl=>f l (by have:=f6 l hl; omega)
   rw [hc,f7,W1g fun q hq=>f q.1 (by have:=(b4 q hq).1; omega),T1j] at hs A
   rw [b1] at hs
   refine c8 0 n listed a w (by omega) (zqr _) B (fun i hi=>f i (by omega)) (fun i h1 h2=>by omega) ?_
   exact hQ fr M G w a Qw hK (fun o ho=>List.all_eq_true.1 hd o (List.mem_of_mem_drop ho)) hs A T1c
  | succ m ih=>
   intro listed M G w a hm B b5 a5 hs A
   by_cases hdone:∀ i,i < n→listed.getD i false=true
   ·
    have b1:L2 L env out (fun i=>listed.getD i false) n=L2 L env out (fun _=>true) n:=by
     funext t
     simp only [L2]
     rw [C8 fun i hi _=>hdone i hi]
    have hc:H7 ls listed=ls.length:=W1j fun l hl=>hdone l (f6 l hl)
    rw [hc,f7,W1g fun q hq=>hdone q.1 (b4 q hq).1,T1j] at hs A
    rw [b1] at hs
    have g5:listed.toList.count true=n:=by
     have hl:listed.toList=List.replicate n true++List.replicate (L.length - n) false:=by
      apply List.ext_getElem?
      intro i
      by_cases hi:i < n
      ·have hv:=hdone i hi
       have Z:i < listed.size:=by rw [B.size]; omega
       rw [zqx (by simpa using hi),List.getElem?_replicate,zp hi,Array.getElem?_toList]
       simpa [Z] using hv
      ·by_cases hi2:i < L.length
       ·have hv:=b5 i (by omega) hi2
        have Z:i < listed.size:=by rw [B.size]; omega
        rw [List.getElem?_append_right (by simp; omega),List.getElem?_replicate,zp (by simp; omega),Array.getElem?_toList]
        simpa [Z] using hv
       ·rw [List.getElem?_eq_none (by simp [B.size]; omega),List.getElem?_eq_none (by simp; omega)]
     rw [hl,List.count_append,List.count_replicate,List.count_replicate]
     simp
    refine c8 (m+1) n listed a w (by omega) (zqr _) B hdone b5 ?_
    exact hQ fr M G w a Qw hK (fun o ho=>List.all_eq_true.1 hd o (List.mem_of_mem_drop ho)) hs A T1c
   ·
    have h5:∃ i,i < n∧listed.getD i false=false∧∀ k,k < i→listed.getD k false=true:=by
     have:∃ i,i < n∧listed.getD i false=false:=by
      rcases Classical.em (∃ i,i < n∧listed.getD i false=false) with h' | h'
      ·exact h'
      ·refine absurd (fun i hi=>?_) hdone
       cases hv:listed.getD i false with
       | true=>rfl
       | false=>exact absurd ⟨i,hi,hv⟩ h'
     obtain ⟨i,hi⟩:=this
     induction i using Nat.strongRecOn with
     | _ i i9=>
      by_cases hk:∃ k,k < i∧listed.getD k false=false
      ·obtain ⟨k,i6,j4⟩:=hk
       exact i9 k i6 ⟨by omega,j4⟩
      ·refine ⟨i,hi.1,hi.2,fun k D=>?_⟩
       cases hv:listed.getD k false with
       | true=>rfl
       | false=>exact absurd ⟨k,D,hv⟩ hk
    obtain ⟨i0,k2,b3,c0⟩:=h5
    have c5:i0 < L.length:=by omega
    have e5:L[i0]?=some L[i0]:=zqv c5
    have g3:listed.getD i0 true=false:=by
     have Z:i0 < listed.size:=by rw [B.size]; omega
     simpa [Z] using b3
    have g0:i0∈Region.ready .any L.toArray listed:=mem_ready.2 ⟨g3,L[i0],(by simp [c5]),fun e he hb=>c0 e.on (a9 i0 _ e5 e he hb)⟩
    refine ⟨fun h0=>(by rw [h0] at g0; cases g0),fun j hj=>?_⟩
    obtain ⟨hu,o,ho,f⟩:=mem_ready.1 hj
    have g:L[j]?=some o:=by simpa using ho
    have a7:j < L.length:=(zqu.1 g).1
    have h6:j < n:=by
     rcases Nat.lt_or_ge j n with h' | h'
     ·exact h'
     ·have b7:=R i0 j (by omega) a7 (.inr h')
      have:=Me B.closed g (fun e he hb=>f e he hb) L.length i0 b7
      rw [b3] at this
      cases this
    have a3:∀ k,k≠j→k < L.length→(Le L k j=true∨Le L j k=true)→(listed.getD k false=true ↔ k < j):=by
     intro k W X hc
     rcases Nat.lt_or_ge k j with z | hge
     ·refine ⟨fun _=>z,fun _=>?_⟩
      have d5:Le L k j=true:=by
       rcases hc with hc | hc
       ·exact hc
       ·exact Uv hc
      exact Me B.closed g (fun e he hb=>f e he hb) L.length k (R k j z a7 (.inl d5))
     ·refine ⟨fun hl=>?_,fun h'=>by omega⟩
      have d5:Le L j k=true:=by
       rcases hc with hc | hc
       ·exact Uv hc
       ·exact hc
      have:=Qi B.closed L.length k j (R j k (by omega) X (.inl d5)) hl
      rw [Yb hu] at this
      cases this
    have T:∀ t∈X8 L o,L2 L env out (fun i=>listed.getD i false) n t=L2 L env out (fun _=>true) j t:=by
     intro t ht
     have U:∀ k,k≠j→(L[k]?).bind (·.dst)=some t→Le L k j=true:=by
      intro k W hk
      unfold Le
      simp only [Q3,g]
      cases D:L[k]? with
      | none=>rw [D] at hk; cases hk
      | some p=>
       rw [D] at hk
       simp only [Option.bind_some] at hk
       simp only [hk]
       have:(X8 L o).contains t=true:=by simpa using ht
       rw [this]
       simp
     have z:∀ k,(L[k]?).bind (·.dst)=some t→k < L.length:=by
      intro k hk
      cases D:L[k]? with
      | none=>rw [D] at hk; cases hk
      | some p=>exact (zqu.1 D).1
     simp only [L2]
     have e1:V4 L (fun i=>listed.getD i false) t n=V4 L (fun i=>decide (i < j)) t n:=C8 fun k hk u=>by
      by_cases W:k=j
      ·subst W
       simp [Yb hu]
      ·have:=a3 k W (z k u) (.inl (U k W u))
       cases hb:listed.getD k false with
       | true=>simp [this.1 hb]
       | false=>
        have:¬ k < j:=fun h'=>by rw [this.2 h'] at hb; cases hb
        simp [this]
     have e2:V4 L (fun i=>decide (i < j)) t n=V4 L (fun i=>decide (i < j)) t j:=Et (by omega) fun k h1 h2 _=>by simp; omega
     have e3:V4 L (fun i=>decide (i < j)) t j=V4 L (fun _=>true) t j:=C8 fun k hk _=>by simp [hk]
     rw [e1,e2,e3]
    have E:L2 L env out (fun i=>(listed.setIfInBounds j true).getD i false) n=put (L2 L env out (fun i=>listed.getD i false) n) o.dst (out j):=by
     have c1:j < listed.size:=by rw [B.size]; exact a7
     have Wc:∀ k,(listed.setIfInBounds j true).getD k false=(decide (k=j)||listed.getD k false):=by
      intro k
      by_cases hk:j=k
      ·subst hk; simp [c1]
      ·rw [getD_set_ne false hk]
       have:¬ k=j:=fun h'=>hk h'.symm
       simp [this]
     funext t
     simp only [L2,Wc]
     cases hdo:o.dst with
     | none=>
      have:V4 L (fun i=>decide (i=j)||listed.getD i false) t n=V4 L (fun i=>listed.getD i false) t n:=C8 fun k hk u=>by
       have:k≠j:=fun h'=>by subst h'; rw [g] at u; simp [hdo] at u
       simp [this]
      rw [this]
      rfl
     | some d=>
      simp only [put,upd]
      by_cases htd:t=d
      ·subst htd
       have j1:Nat.beq t t=true:=by simp
       rw [j1,_root_.cond_true]
       have e1:V4 L (fun i=>decide (i=j)||listed.getD i false) t n=V4 L (fun i=>decide (i=j)||listed.getD i false) t (j+1):=Et (by omega) fun k h1 h2 u=>by
        have W:k≠j:=by omega
        have h9:Le L k j=true:=by
         unfold Le
         cases D:L[k]? with
         | none=>rw [D] at u; cases u
         | some p=>
          rw [D] at u
          simp only [Option.bind_some] at u
          simp only [Q3,g,D,u,hdo]
          simp
        have:=a3 k W (by omega) (.inl h9)
        cases hb:listed.getD k false with
        | false=>simp [W]
        | true=>have:=this.1 hb; omega
       rw [e1]
       simp [V4,g,hdo]
      ·have:Nat.beq t d=false:=by
        cases hb:Nat.beq t d with
        | false=>rfl
        | true=>exact absurd (zqo hb) htd
       rw [this,_root_.cond_false]
       have:V4 L (fun i=>decide (i=j)||listed.getD i false) t n=V4 L (fun i=>listed.getD i false) t n:=C8 fun k hk u=>by
        have:k≠j:=fun h'=>by subst h'; rw [g] at u; simp [hdo] at u; exact htd u.symm
        simp [this]
       rw [this]
       rfl
    have c2:I19 L n (listed.setIfInBounds j true):=⟨by simp [B.size],fun i o' V hl e he hb=>by
     by_cases hij:j=i
     ·subst hij
      have:o'=o:=Option.some.inj (V.symm.trans g)
      subst this
      exact getD_set_true (f e he hb)
     ·rw [getD_set_ne false hij] at hl
      exact getD_set_true (B.closed i o' V hl e he hb)⟩
    have a0:∀ i,n≤i→i < L.length→(listed.setIfInBounds j true).getD i true=false:=fun i h1 h2=>by
     rw [getD_set_ne true (by omega)]
     exact b5 i h1 h2
    have a4:(listed.setIfInBounds j true).toList.count true+m=L.length:=by rw [count_set hu]; omega
    have I:Z1 L (L2 L env out (fun i=>listed.getD i false) n) o=Z1 L (L2 L env out (fun _=>true) j) o:=Hk T
    have i5:∀ y∈o.op.operands,ev F.C.GL (L2 L env out (fun i=>listed.getD i false) n) y=ev F.C.GL (L2 L env out (fun _=>true) j) y:=by
     intro y hy
     refine Ur fun t ht=>T t ?_
     subst ht
     simp only [X8,List.mem_append,List.mem_filterMap]
     exact .inl ⟨.tmp t,by simpa using hy,rfl⟩
    have c1:j < listed.size:=by rw [B.size]; exact a7
    have d0:∀ p∈unf listed fs,p∈unw L fs j:=fun p hp=>by
     obtain ⟨q,hq,he,hf⟩:=Bn.1 hp
     refine D1f.2 ⟨q,hq,he,?_⟩
     cases hb:Ah L L.length j q.1 with
     | false=>rfl
     | true=>rw [Me B.closed g (fun e he hb=>f e he hb) L.length q.1 hb] at hf; cases hf
    rcases d4 j o h6 g with ⟨b6,b2,hq⟩ | ⟨s,H1,H2,g6,b2,U,h4,g8,hl⟩ | ⟨t,cs,p,b2,b6,U,e7,e4,hx⟩
    ·have J:H7 ls (listed.setIfInBounds j true)=H7 ls listed:=I17 (by simpa using b6)
     have O:unf (listed.setIfInBounds j true) fs=unf listed fs:=J1b (J17 b2)
     have j6:loN L ls j≤H7 ls listed:=by
      unfold loN H7
      rw [← List.countP_eq_length_filter,← List.countP_eq_length_filter]
      exact List.countP_mono_left fun l _ hl=>Me B.closed g (fun e he hb=>f e he hb) L.length l hl
     have d8:H7 ls listed≤ls.length:=List.length_filter_le _ _
     have b0:Hf (H7 ls listed)∈Hs.drop (loN L ls j):=by
      refine List.mem_of_getElem? (i:=H7 ls listed - loN L ls j) ?_
      rw [List.getElem?_drop,show loN L ls j+(H7 ls listed - loN L ls j)=H7 ls listed by omega]
      exact a8 _ d8
     unfold wpOp
     simp only [List.getElem?_toArray,g]
     rcases hq _ b0 _ d0 with ⟨U,hy⟩ | ⟨U,hx⟩
     ·rw [Ie hs (I.trans U)]
      simp only [zt]
      refine .inl (hy M G w a _ Qw (fun y j0=>by rw [← i5 y j0]; exact hs.eval y) hs.good hs.gl hs.hrel fun v M' w' h1 h2 h3=>?_)
      refine ih _ M' G w' _ a4 c2 a0 (by rw [O]; exact a5) ?_ (by rw [J,O]; exact A.quiet h3)
      rw [E,J,O]
      exact hs.quiet (G6 (a2 j o g)) h1 h2 h3
     ·rw [Ie hs (I.trans U)]
      simp only [zqa,zw]
      refine ih _ M G w _ a4 c2 a0 (by rw [O]; exact a5) ?_ (by rw [J,O]; exact A)
      rw [E,hx,J,O]
      exact hs.quiet (G6 (a2 j o g)) (.tup rfl fun i x v h=>by simp at h) hs.good (Ext.refl _ _ _)
    ·have a6:ls[s]?=some j:=g6
     have J:H7 ls listed=s:=N1n a6 (fun k l hk hl=>Me B.closed g (fun e he hb=>f e he hb) L.length l (d6 s k j l a6 hl hk).2) (fun k l hk hl=>by
      cases hv:listed.getD l false with
      | false=>rfl
      | true=>
       rcases Nat.lt_or_ge s k with z | hge
       ·have:=Qi B.closed L.length l j (d6 k s l j hl a6 z).2 hv
        rw [Yb hu] at this; cases this
       ·have:k=s:=by omega
        subst this
        rw [a6] at hl
        cases hl
        rw [Yb hu] at hv; cases hv)
     have c7:H7 ls (listed.setIfInBounds j true)=s+1:=by rw [← J]; exact X1j (fun a b x y h1 h2 h3=>by have:=(d6 b a y x h2 h1 h3).1; omega) a6 (Yb hu) c1
     have k3:s < ls.length:=(zqu.1 a6).1
     have e1:Hf s=H1:=Option.some.inj ((a8 s (by omega)).symm.trans h4)
     have e2:Hf (s+1)=H2:=Option.some.inj ((a8 (s+1) (by omega)).symm.trans g8)
     have O:unf (listed.setIfInBounds j true) fs=unf listed fs:=J1b (J17 b2)
     rw [J,e1] at hs A
     have i7:=hl _ d0 (L2 L env out (fun i=>listed.getD i false) n) (J3 (unf listed fs) H1).length T (fun e h=>e=L2 L env out (fun i=>(listed.setIfInBounds j true).getD i false) n∧h=J3 (unf listed fs) H2) ⟨E.symm,rfl⟩
     let Qw':Exit→Act→World→Prop:=fun e a w=>match e with
      | .normal=>wpAny F.C.P .any L.toArray Qw m (listed.setIfInBounds j true) a w
      | e=>Fin F fr Q e a w
     have:=i7 ⟨J3 (unf listed fs) H1,G,M,w⟩ M G w a Qw' rfl (fun o' V=>by
      rw [List.mem_singleton] at V
      subst V
      exact a2 j _ g) hs .refl ⟨fun env' H' M' G' w' a' hq d3 a1=>by
       obtain ⟨rfl,rfl⟩:=hq
       refine ih _ M' G' w' a' a4 c2 a0 (by
        rw [O]
        intro p hp
        obtain ⟨q,g7,h8,k4⟩:=Bn.1 hp
        have z:p < (J3 (unf listed fs) H1).length:=by
         rw [F9,← e1]
         exact e0 s (by omega) p (h8 ▸ (b4 q g7).2.2)
        have d7:(J3 (unf listed fs) H1)[p]?=some .dead:=by
         rw [F9] at z
         rw [Qb,zqv z]
         have:(unf listed fs).contains p=true:=by simpa using hp
         simp only [zqt,this,_root_.cond_true]
        exact (a1.keep p _ d7 rfl).trans (a5 p hp)) ?_ ?_
       ·rw [c7,e2,O]; exact d3
       ·rw [c7,e2,O]; exact A.step a1,fun _ _ _ _ _ _ _ h=>h.elim⟩
     simp only [wpList] at this
     unfold wpOp
     simp only [List.getElem?_toArray,g]
     have c6:LetsOut Qw'→LetsOut (Fin F fr Q):=fun ⟨a,w,h⟩=>⟨a,w,h⟩
     split
     ·rename_i U
      rw [zp U] at this
      rcases this with h1 | ⟨h1,h2⟩
      ·exact .inl (Q1g (fun c a w h=>h) c6 h1)
      ·exact .inr ⟨h1,c6 h2⟩
     ·rename_i U
      rw [zn U] at this
      exact this
    ·have J:H7 ls (listed.setIfInBounds j true)=H7 ls listed:=I17 (by simpa using b6)
     have d8:H7 ls listed≤ls.length:=List.length_filter_le _ _
     have b8:=V1g b2
     obtain ⟨f1,f2,f3⟩:=b4 _ b8
     have k0:H7 ls listed≤hiN L ls j:=by
      unfold hiN H7
      rw [← List.countP_eq_length_filter,← List.countP_eq_length_filter]
      refine List.countP_mono_left fun l _ hl=>?_
      cases hb:Ah L L.length l j with
      | false=>rfl
      | true=>
       have:=Qi B.closed L.length l j hb hl
       rw [Yb hu] at this; cases this
     have b0:Hf (H7 ls listed)∈Hs.take (hiN L ls j+1):=by
      refine List.mem_of_getElem? (i:=H7 ls listed) ?_
      rw [List.getElem?_take,zp (by omega)]
      exact a8 _ d8
     have hr:=e4 _ b0
     rw [Q3] at hr
     have f9:p∈unf listed fs:=Bn.2 ⟨_,b8,rfl,Yb hu⟩
     have d1:(J3 (unf listed fs) (Hf (H7 ls listed)))[p]?=some .dead:=by
      rw [Qb,hr]
      have:(unf listed fs).contains p=true:=by simpa using f9
      simp only [zqt,this,_root_.cond_true]
     have Y:∀ r,r∈unf (listed.setIfInBounds j true) fs ↔ r∈unf listed fs∧r≠p:=by
      intro r
      rw [Bn,Bn]
      constructor
      ·rintro ⟨q,q1,q2,q3⟩
       have b9:j≠q.1:=fun e=>by rw [← e] at q3; simp [c1] at q3
       rw [getD_set_ne false b9] at q3
       exact ⟨⟨q,q1,q2,q3⟩,fun e=>b9 (by rw [d9 q q1 _ b8 (.inr (by rw [q2,e]))])⟩
      ·rintro ⟨⟨q,q1,q2,q3⟩,b9⟩
       refine ⟨q,q1,q2,?_⟩
       rw [getD_set_ne false fun e=>b9 (by rw [← q2,d9 q q1 _ b8 (.inl e.symm)])]
       exact q3
     have c4:∀ r,(J3 (unf (listed.setIfInBounds j true) fs) (Hf (H7 ls listed)))[r]?=if r=p then some (.row cs t) else (J3 (unf listed fs) (Hf (H7 ls listed)))[r]?:=by
      intro r
      rw [Qb,Qb]
      by_cases hrp:r=p
      ·subst hrp
       rw [zp rfl,hr]
       have:(unf (listed.setIfInBounds j true) fs).contains r=false:=by
        cases hb:(unf (listed.setIfInBounds j true) fs).contains r with
        | false=>rfl
        | true=>exact absurd rfl ((Y r).1 (by simpa using hb)).2
       simp only [zqt,this,_root_.cond_false]
      ·rw [zn hrp]
       have:(unf (listed.setIfInBounds j true) fs).contains r=(unf listed fs).contains r:=by
        rw [Bool.eq_iff_iff]
        simp only [List.contains_iff_mem,Y r]
        exact ⟨fun h=>h.1,fun h=>⟨h,hrp⟩⟩
       rw [this]
     obtain ⟨vs,hv,g1⟩:=e7 _ _ M G w a T hs
     have h7:∀ d,o.dst=some d→d < F.N:=G6 (a2 j o g)
     unfold wpOp
     simp only [List.getElem?_toArray,g]
     rw [Ie hs (I.trans U)]
     simp only [zt]
     refine .inl ?_
     unfold Oper.wp
     rw [g1]
     refine ih _ M (Y7 G p (.pointer (some ⟨w.heap.size,0,none⟩))) (w.alloc (.cells vs t)) _ a4 c2 a0 (fun r j2=>?_) ?_ ?_
     ·obtain ⟨r1,r2⟩:=(Y r).1 j2
      rw [A3 r2]
      exact a5 r r1
     ·rw [E,J,hx]
      exact hs.fillRow h7 d1 (a5 p f9) hv (by rw [F9,F9]) c4
     ·rw [J]
      exact A.fillRow (cs:=cs) (p:=p) (by omega) (zqu.1 d1).1 (by rw [F9,F9]) c4
 refine wp_region_any hC.mixed ?_
 have h0:∀ i,(Array.replicate L.toArray.size false).getD i false=false:=fun i=>by
  rcases Nat.lt_or_ge i L.length with h' | h' <;> simp [h']
 have f0:H7 ls (Array.replicate L.toArray.size false)=0:=K1r h0
 have b3:unf (Array.replicate L.toArray.size false) fs=fs.map (·.2):=by
  have:∀ fs:List (Nat×Nat),unf (Array.replicate L.toArray.size false) fs=fs.map (·.2):=by
   intro fs
   induction fs with
   | nil=>rfl
   | cons q r ih=>simp only [unf,h0,_root_.cond_false,ih,List.map_cons]
  exact this fs
 have d3:St F.C F.N M G { w with drawn:=w.drawn+1 } env H g4:=
  ⟨fun a v e=>hs.good a v e,hs.gl.ext hs.hrel (S:=C9) ⟨fun _ _ e=>e,zqr _,rfl,rfl,rfl,fun _ _ _=>rfl,fun _ _ e=>.inl e⟩ (fun _ h=>h.elim),hs.hrel.ext (S:=C9) ⟨fun _ _ e=>e,zqr _,rfl,rfl,rfl,fun _ _ _=>rfl,fun _ _ e=>.inl e⟩ (fun _ _ h=>h),hs.env,hs.size,hs.defers⟩
 have a1:Q2 fr M G { w with drawn:=w.drawn+1 } H:=A.quiet ⟨fun _ _ e=>e,zqr _,rfl,rfl,rfl,fun _ _ _=>rfl,fun _ _ e=>.inl e⟩
 have d2:L2 L env out (fun i=>(Array.replicate L.toArray.size false).getD i false) n=env:=by
  funext t
  simp only [L2]
  cases hl:V4 L (fun i=>(Array.replicate L.toArray.size false).getD i false) t n with
  | none=>rfl
  | some i=>have:=(Sp hl).2.1; rw [h0] at this; cases this
 have:=e6 L.length (Array.replicate L.toArray.size false) M G _ g4 (by simp [List.count_replicate]) ⟨by simp,fun j o ho hl=>by rw [h0] at hl; cases hl⟩ (fun i h1 h2=>by simp [h2])
  (fun p hp=>by
   obtain ⟨q,q1,q2,_⟩:=Bn.1 hp
   exact hs.hrel.fresh p (by have:=(b4 q q1).2.1; omega))
  (by rw [d2,f0,f5,b3,c9]; exact d3.pad _) (by rw [f0,f5,b3,c9]; exact a1.pad _)
 rw [f8]
 rw [f8] at this
 exact this
def D1d (C:Cx)(L:List Oper)(o:Oper)(env:Env)(ps:List Nat):List N0→List (Option (Option Nat×Prop×A))
 | []=>[]
 | H::r=>Cg C L o env (J3 ps H)::D1d C L o env ps r
def O1i (x:Option (Option Nat×Prop×A)):List N0→List (Option (Option Nat×Prop×A))
 | []=>[]
 | _::r=>x::O1i x r
theorem E1d {C:Cx}{L:List Oper}{o:Oper}{env:Env}{ps:List Nat}{x:Option (Option Nat×Prop×A)}:∀ {Hs:List N0},D1d C L o env ps Hs=O1i x Hs→∀ H∈Hs,Cg C L o env (J3 ps H)=x
 | [],_,H,h=>by cases h
 | K::r,h,H,hm=>by
  simp only [D1d,O1i,List.cons.injEq] at h
  cases hm with
  | head=>exact h.1
  | tail _ hm=>exact E1d h.2 H hm
theorem F1p {i:TI}{x:A}{H:N0}{ps a:List Nat}(b:∀ p∈ps,p∈a){y:A}(h:He i x (J3 a H)=some y):He i x (J3 ps H)=some y:=by
 unfold He at h ⊢
 split at h
 ·rename_i o off
  simp only [Q3,Qb] at h ⊢
  cases hz:H[o]? with
  | none=>rw [hz] at h; simp at h
  | some z=>
   rw [hz] at h
   simp only [zqt] at h ⊢
   cases h0:a.contains o with
   | true=>rw [h0] at h; simp at h
   | false=>
    have:ps.contains o=false:=by
     cases hb:ps.contains o with
     | false=>rfl
     | true=>
      have h1:=b o (by simpa using hb)
      have h2:a.contains o=true:=by simpa using h1
      rw [h0] at h2; cases h2
    rw [h0] at h
    rw [this]
    exact h
 ·exact h
 ·cases h
theorem Q1u {T:TT}{GL:GT}{op:Op}{env:Env}{H:N0}{ps b:List Nat}(d:∀ p∈ps,p∈b){c:Prop}{y:A}(h:opA T GL op env (J3 b H)=some (c,y)):opA T GL op env (J3 ps H)=some (c,y):=by
 cases op with
 | load t a=>
  simp only [opA] at h ⊢
  cases ht:B4 T t with
  | none=>rw [ht] at h; cases h
  | some i=>
   rw [ht] at h
   simp only at h ⊢
   cases hl:He i (ev GL env a) (J3 b H) with
   | none=>rw [hl] at h; cases h
   | some z=>
    rw [hl] at h
    rw [F1p d hl]
    exact h
 | makeFunc f first caps=>cases f <;> exact h
 | call c=>
  obtain ⟨cl,e,g⟩:=c
  cases cl <;> exact h
 | _=>exact h
theorem G1p {C:Cx}{L:List Oper}{o:Oper}{env:Env}{H:N0}{ps a:List Nat}(b:∀ p∈ps,p∈a){d:Option Nat}{c:Prop}{y:A}(h:Cg C L o env (J3 a H)=some (d,c,y)):Cg C L o env (J3 ps H)=some (d,c,y):=by
 unfold Cg at h ⊢
 split at h
 ·rename_i f
  split at h
  ·rename_i c' x' e
   rw [Q1u b e]
   exact h
  ·cases h
 ·exact h
 ·cases h
theorem G1x {C:Cx}(hC:F3 C){L:List Oper}{o:Oper}{env:Env}{H:N0}{d:Option Nat}{c:Prop}{x:A}(h:Cg C L o env H=some (d,c,x))(hc:c):o.dst=d∧Uy C L o env H x:=by
 have:=AQ.q (l:=[]) (Q:=fun _=>True) hC h hc trivial
 unfold Cg at h
 split at h
 ·rename_i b
  split at h
  ·rename_i c' x' e
   split at h
   ·rename_i y f
    have a:=Dt f
    subst a
    have:o.dst=d∧c'=c∧y=x:=by
     split at h
     ·rename_i t ht
      simp only [zqb,zqh] at h
      exact ⟨ht.trans h.1,h.2.1,h.2.2⟩
     ·rename_i ht
      simp only [zqb,zqh] at h
      exact ⟨ht.trans h.1,h.2.1,h.2.2⟩
    obtain ⟨rfl,rfl,rfl⟩:=this
    exact ⟨rfl,.inl ⟨b,Zs hC e hc⟩⟩
   ·cases h
  ·cases h
 ·rename_i b
  have:o.dst=d∧A.tup []=x:=by
   split at h
   ·rename_i t ht
    simp only [zqb,zqh] at h
    exact ⟨ht.trans h.1,h.2.2⟩
   ·rename_i ht
    simp only [zqb,zqh] at h
    exact ⟨ht.trans h.1,h.2.2⟩
  obtain ⟨rfl,rfl⟩:=this
  exact ⟨rfl,.inr ⟨b,rfl⟩⟩
 ·cases h
def A1k (C:Cx)(L:List Oper)(o:Oper)(env:Env):Option (Option Nat×TypeId×List A):=
 match Z1 L env o,o.op,Zc o with
 | some true,.alloc t,some d=>match B4 C.T t with
  | some i=>match Pi (i.zero.map zf) with | some cs=>some (d,t,cs) | none=>none
  | none=>none
 | some true,.box t y,some d=>match Yc (ev C.GL env y) with
  | some cs=>match Pi cs with | some cs=>some (d,t,cs) | none=>none
  | none=>none
 | _,_,_=>none
theorem T1m {F:Fx}(hC:F3 F.C){L:List Oper}{o:Oper}{env:Env}{d:Option Nat}{t:TypeId}{cs:List A}(h:A1k F.C L o env=some (d,t,cs)):Z1 L env o=some true∧o.dst=d∧U1j F L o env t cs:=by
 unfold A1k at h
 split at h
 ·rename_i t' p f c g
  split at h
  ·rename_i i ht
   split at h
   ·rename_i e b
    simp only [zqb,zqh] at h
    obtain ⟨rfl,rfl,rfl⟩:=h
    have:=Zk b
    subst this
    refine ⟨f,(W8 g),fun env' H M G w a hr hs=>?_⟩
    obtain ⟨z,h1,h2⟩:=Qz (M:=M) (G:=G) hC.tok ht
    exact ⟨z.cells,h2,by unfold execOp; simp [c,Instr.alloc,h1,newVar,newRow]⟩
   ·cases h
  ·cases h
 ·rename_i t' y p f c g
  split at h
  ·rename_i l j
   split at h
   ·rename_i e b
    simp only [zqb,zqh] at h
    obtain ⟨rfl,rfl,rfl⟩:=h
    have:=Zk b
    subst this
    refine ⟨f,(W8 g),fun env' H M G w a hr hs=>?_⟩
    have q:ev F.C.GL env' y=ev F.C.GL env y:=Ur fun u n=>hr u (by
     subst n
     simp only [X8,List.mem_append,List.mem_filterMap]
     exact .inl ⟨.tmp u,by simp [c,Op.operands],rfl⟩)
    obtain ⟨k,m,c3⟩:=Qv (hs.eval y) (by rw [q]; exact j)
    exact ⟨(a.eval y).cells,⟨k.symm,m,c3⟩,by unfold execOp; simp [c,Instr.box,newVar,newRow]⟩
   ·cases h
  ·cases h
 ·cases h
def P1i (p:Nat):List N0→List (Option Ob)
 | []=>[]
 | H::r=>nth H p::P1i p r
def Q1i (x:Option Ob):List N0→List (Option Ob)
 | []=>[]
 | _::r=>x::Q1i x r
theorem X1g {p:Nat}{x:Option Ob}:∀ {Hs:List N0},P1i p Hs=Q1i x Hs→∀ H∈Hs,nth H p=x
 | [],_,H,h=>by cases h
 | K::r,h,H,hm=>by
  simp only [P1i,Q1i,List.cons.injEq] at h
  cases hm with
  | head=>exact h.1
  | tail _ hm=>exact X1g h.2 H hm
section
variable {F:Fx}{L l:List Oper}{o:Oper}{env:Env}{ls:List Nat}{fs:List (Nat×Nat)}{Hs:List N0}{j s:Nat}{Q:Env→Prop}
theorem AS.nil (h:Q env):AS F L ls fs Hs j s [] env Q:=h
theorem AS.y {d:Option Nat}{x:A}(a:o.dst=d)(hn:ls.contains j=false)(hf:Kl fs j=none)(h:∀ H,Uy F.C L o env H x)(k:AS F L ls fs Hs (j+1) s l (put env d x) Q):AS F L ls fs Hs j s (o::l) env Q:=
 .inl ⟨d,x,a,hn,hf,fun _ _ _ _=>h _,k⟩
theorem AS.q (hC:F3 F.C){d:Option Nat}{x:A}(h:D1d F.C L o env (unw L fs j) (Hs.drop (loN L ls j))=O1i (some (d,True,x)) (Hs.drop (loN L ls j)))(b:o.dst=d)(hn:ls.contains j=false)(hf:Kl fs j=none)(k:AS F L ls fs Hs (j+1) s l (put env d x) Q):AS F L ls fs Hs j s (o::l) env Q:=
 .inl ⟨d,x,b,hn,hf,fun H hm _ a=>(G1x hC (G1p a (E1d h H hm)) trivial).2,k⟩
theorem AS.ix (hC:F3 F.C){d:Option Nat}{rows:List (List D)}{n:Int}{sz:Nat}(h:Sv F.C L o env=some (d,rows,n,sz)){m:Nat}{r:List D}(hm:n=m)(hk:rows[m]?=some r)(a:Nat.beq r.length sz=true)(hn:ls.contains j=false)(hf:Kl fs j=none)
  (k:AS F L ls fs Hs (j+1) s l (put env d (.ptr r)) Q):AS F L ls fs Hs j s (o::l) env Q:=by
 obtain ⟨h1,h2⟩:=Tv h
 exact .y h2 hn hf (fun H=>.inl ⟨h1,Rp hC h hm hk a⟩) k
theorem AS.a {t:Nat}{x:A}(b:o.dst=some t)(h:∀ H,AQ F.C L [o] env H (fun e=>e=put env (some t) x))(hn:ls.contains j=false)(hf:Kl fs j=none)(k:AS F L ls fs Hs (j+1) s l (put env (some t) x) Q):AS F L ls fs Hs j s (o::l) env Q:=by
 refine .y b hn hf (fun H=>?_) k
 obtain ⟨d,x',h1,h2,c⟩:=h H
 rw [b] at h1
 subst h1
 have:x'=x:=by
  have:=congrFun c t
  simpa [put,upd] using this
 rwa [this] at h2
theorem AS.n (hC:F3 F.C){d:Option Nat}{t:TypeId}{cs:List A}{p:Nat}(h:A1k F.C L o env=some (d,t,cs))(hf:Kl fs j=some p)(hn:ls.contains j=false)(hr:P1i p (Hs.take (hiN L ls j+1))=Q1i (some (.row cs t)) (Hs.take (hiN L ls j+1)))
  (k:AS F L ls fs Hs (j+1) s l (put env d (.ref p 0)) Q):AS F L ls fs Hs j s (o::l) env Q:=by
 obtain ⟨a,c,b⟩:=T1m hC h
 exact .inr (.inr ⟨t,cs,p,hf,hn,a,b,X1g hr,by rw [c]; exact k⟩)
end
theorem B1k {α:Type}{b:Bool}{x:α}{y:Option α}(h:(bif b then y else none)=some x):b=true∧y=some x:=by cases b <;> simp_all
section
variable {α:Type}{f:α→Row}{h:α→A}
end
theorem Y1g {ps:List Nat}{H:N0}{p:Nat}{x:Ob}(hp:p < H.length)(hn:ps.contains p=false):Wc (J3 ps H) p x=J3 ps (Wc H p x):=by
 apply List.ext_getElem?
 intro n
 rw [Ae _ _ _ _ (by rw [F9]; exact hp),Qb,Qb,Ae _ _ _ _ hp]
 by_cases e:n=p
 ·subst e
  rw [zp rfl,zp rfl,zqt,hn]
  rfl
 ·rw [zn e,zn e]
theorem F1d:∀ (H:N0) (n:Nat) (x:Ob),Np H n x=some (Wc H n x)
 | [],_,_=>rfl
 | _::_,0,_=>rfl
 | y::r,n+1,x=>by simp only [Np,Wc,F1d r n x]
theorem U1m {C:Cx}{L:List Oper}{o:Oper}{env env':Env}{H:N0}(h:∀ t∈X8 L o,env' t=env t):Pp C L o env' H=Pp C L o env H:=by
 have a:∀ y∈o.op.operands,ev C.GL env' y=ev C.GL env y:=fun y c=>Ur fun t ht=>h t (by
  subst ht
  simp only [X8,List.mem_append,List.mem_filterMap]
  exact .inl ⟨.tmp t,by simpa using c,rfl⟩)
 unfold Pp
 rw [Hk h]
 split
 ·rename_i t x y e b d
  rw [a x (by rw [b]; simp [Op.operands]),a y (by rw [b]; simp [Op.operands])]
 ·rfl
def C1k (C:Cx)(o:Oper)(env:Env):Option Nat:=
 match o.op with
 | .store _ x _=>match ev C.GL env x with | .ref p _=>some p | _=>none
 | _=>none
theorem Rw.s {F:Fx}(hC:F3 F.C){L:List Oper}{o:Oper}{env:Env}{H H':N0}{un:List Nat}{p:Nat}(h:Pp F.C L o env H=some H')(hp:C1k F.C o env=some p)(f:un.contains p=false) :
  ∀ ps:List Nat,(∀ q∈ps,q∈un)→Rw F L o env (J3 ps H) .junk (J3 ps H'):=by
 intro ps g env' K l Q j
 have a:ps.contains p=false:=by
  cases hb:ps.contains p with
  | false=>rfl
  | true=>
   have h1:=g p (by simpa using hb)
   have h2:un.contains p=true:=by simpa using h1
   rw [f] at h2; cases h2
 have h':Pp F.C L o env' (J3 ps H)=some (J3 ps H'):=by
  rw [U1m l]
  unfold Pp at h ⊢
  split at h
  ·rename_i t x y v n b
   unfold C1k at hp
   rw [n] at hp
   simp only at hp
   split at h
   ·rename_i i p' off xs ht u m
    rw [u] at hp
    simp only [zqb] at hp
    subst hp
    split at h
    ·rename_i cells e hn
     have c:nth (J3 ps H) p'=some (.row cells e):=by
      rw [Q3] at hn ⊢
      rw [Qb,hn,zqt,a]
      rfl
     simp only [c]
     cases hb:Nat.beq xs.length i.size&&Nat.ble (off+i.size) cells.length with
     | false=>rw [hb] at h; cases h
     | true=>
      rw [hb] at h
      simp only [_root_.cond_true] at h
      split at h
      ·rename_i cs k
       show Np (J3 ps H) p' (Ob.row cs e)=_
       have r:=C13 h
       subst r
       rw [Q3] at hn
       have d:=(zqu.1 hn).1
       have:Np (J3 ps H) p' (.row cs e)=some (Wc (J3 ps H) p' (.row cs e)):=F1d _ _ _
       exact this.trans (by rw [Y1g d a])
      ·cases h
    ·cases h
   ·cases h
  ·cases h
 have b:o.dst=none:=by
  unfold Pp at h
  split at h
  ·rename_i b; exact b
  ·cases h
 rw [b] at j
 exact E0.s (F:=⟨F.C,F.N,K,Mp,Uj⟩) hC h' (E0.nil j)
section
variable {F:Fx}{L l:List Oper}{o:Oper}{env:Env}{ls:List Nat}{fs:List (Nat×Nat)}{Hs:List N0}{j i:Nat}{Q:Env→Prop}
theorem AS.s (hC:F3 F.C){H H':N0}{p:Nat}(h1:nth ls i=some j)(hf:Kl fs j=none)(h2:nth Hs i=some H)(c:nth Hs (i+1)=some H')(h:Pp F.C L o env H=some H')(hp:C1k F.C o env=some p)
  (b:(unw L fs j).contains p=false) (k:AS F L ls fs Hs (j+1) (i+1) l env Q):AS F L ls fs Hs j i (o::l) env Q:=by
 have a:Z1 L env o=some true∧o.dst=none:=by
  unfold Pp at h
  split at h
  ·rename_i a e d; exact ⟨a,d⟩
  ·cases h
 exact .inr (.inl ⟨.junk,H,H',h1,hf,a.1,h2,c,Rw.s hC h hp b,by rw [a.2]; exact k⟩)
end
def D1k (T:TT)(t:Nat)(parts:List (Nat×A)):Option A:=
 match B4 T t with
 | none=>none
 | some i=>match i.u with
  | .st fs=>(Zm (fun n=>(nth fs n).map fun f=>(f.2.1,f.2.2)) (i.zero.map zf) parts).map .agg
  | _=>none
section
variable {P:Program}{M:Mem}{G:Nat→Value}{w:World}
theorem L1r {T:TT}(v:TOk P T){t:Nat}{c:List (Nat×A)}{T1:Array (Nat×Value)}(hl:c.length=T1.size)
  (hp:∀ (i:Nat) p q,c[i]?=some p→T1[i]?=some q→p.1=q.1∧L1 M G p.2 q.2) {z:A} (h:D1k T t c=some z):Ni P M G w (Instr.build t T1) z:=by
 unfold D1k at h
 split at h
 ·cases h
 ·rename_i i ht
  have f:=v.facts ht
  obtain ⟨L,r,s⟩:=Qz (M:=M) (G:=G) v ht
  split at h
  ·rename_i fs E
   obtain ⟨Td,J,hf,k⟩:=K1g f E
   cases ho:Zm (fun n=>(nth fs n).map fun f=>(f.2.1,f.2.2)) (i.zero.map zf) c with
   | none=>rw [ho] at h; cases h
   | some out=>
    rw [ho] at h
    simp only [zqt,zqb] at h
    subst h
    obtain ⟨d,u,o⟩:=Q1c (P:=P) w Td (fun n f hn=>by
     obtain ⟨g,hg⟩:=k n f hn
     obtain ⟨B,l,m,_,_,_,D⟩:=hf n g hg
     rw [hn] at l
     cases l
     rw [m]; exact D)
    have e:∀ n,d[n]?=((nth fs n).map fun f=>(f.2.1,f.2.2)):=fun n=>by
     rw [Q3,o n]
     cases hn:fs[n]? with
     | none=>
      have:Td[n]?=none:=by
       cases hfn:Td[n]? with
       | none=>rfl
       | some f=>obtain ⟨g,hg⟩:=k n f hfn; rw [hg] at hn; cases hn
      rw [this]; rfl
     | some g=>
      obtain ⟨B,l,m,K,y,_,_⟩:=hf n g hn
      rw [l]
      simp [m,K,y]
    have j:(fun n=>d[n]?)=(fun n=>(nth fs n).map fun f=>(f.2.1,f.2.2)):=funext e
    have:Zm (fun n=>d[n]?) (i.zero.map zf) c=some out:=by rw [j]; exact ho
    obtain ⟨F,C,I,x,H⟩:=Nw s (by rw [Array.length_toList]; exact hl) (fun n p q a b=>hp n p q a (by simpa using b)) this
    refine ⟨.agg F,?_,.agg I x H⟩
    simp only [Instr.build,Sem.run_bind,r,Result.andThen_ok,run_underlying J,u,C,Sem.run_pure]
  ·cases h
end
def K17 (C:Cx)(L:List Oper)(o:Oper)(env:Env):Option (Option Nat×A):=
 match Z1 L env o,o.op,Zc o with
 | some true,.build t parts,some d=>match D1k C.T t (parts.toList.map fun p=>(p.1,ev C.GL env p.2)) with
  | some y=>match frc y with | some z=>some (d,z) | none=>none
  | none=>none
 | _,_,_=>none
theorem H1p {C:Cx}{L:List Oper}{o:Oper}{env:Env}{d:Option Nat}{x:A}(h:K17 C L o env=some (d,x)):Zc o=some d:=by
 unfold K17 at h
 split at h
 ·rename_i t a e f c b
  split at h
  ·split at h
   ·simp only [zqb,zqh] at h
    rw [← h.1]; exact b
   ·cases h
  ·cases h
 ·cases h
theorem M1r {C:Cx}(hC:F3 C){L:List Oper}{o:Oper}{env:Env}{H:N0}{d:Option Nat}{x:A}(h:K17 C L o env=some (d,x)):Z1 L env o=some true∧Zc o=some d∧Xb C o env H x:=by
 have m:=H1p h
 unfold K17 at h
 split at h
 ·rename_i t b s j g l
  split at h
  ·rename_i y hb
   split at h
   ·rename_i z hz
    simp only [zqb,zqh] at h
    obtain ⟨rfl,rfl⟩:=h
    have:=Dt hz
    subst this
    refine ⟨j,l,?_⟩
    intro M G w a next r e k _ n hk
    have key:∃ v,(execOp a.eval o).run C.P w = .ok (.value v) w∧L1 M G z v:=by
     unfold execOp
     rw [g] at e ⊢
     refine Sj (L1r hC.tok (by simp) (fun i p q hp c=>?_) hb)
     simp only [List.getElem?_map,Array.getElem?_toList,Array.getElem?_map] at hp c
     cases hpi:b[i]? with
     | none=>rw [hpi] at hp; cases hp
     | some f=>
      rw [hpi] at hp c
      simp only [zqt,zqb] at hp c
      subst hp; subst c
      exact ⟨rfl,e _ (by simp only [Op.operands,List.mem_toArray,List.mem_map]; exact ⟨f,by simpa using Array.mem_of_getElem? hpi,rfl⟩)⟩
    obtain ⟨v,h1,h2⟩:=key
    unfold Oper.wp
    rw [h1]
    exact hk v M w h2 k (Ext.refl _ _ _)
   ·cases h
  ·cases h
 ·cases h
theorem E0.bz {F:Fx}(hC:F3 F.C){L l:List Oper}{o:Oper}{env:Env}{H:N0}{Q:Env→N0→Prop}{d:Option Nat}{x:A}(h:K17 F.C L o env=some (d,x))(k:E0 F L l (put env d x) H Q):E0 F L (o::l) env H Q:=by
 obtain ⟨h1,h2,a⟩:=M1r (H:=H) hC h
 refine .yields h1 a ?_
 rw [W8 h2]
 exact k
theorem St.moveTok {C:Cx}{N:FN}{M M':Mem}{G:Nat→Value}{w w':World}{env:Env}{H:N0}{a:Act}(h:St C N M G w env H a){dst:Option Nat}(hd:∀ d,dst=some d→d < N){p e sz:Nat}{v':Value}{x:A}
  (hp:H[p]?=some (.tok e sz)) (g:Ext (fun b=>blk (.tok e sz) (G p)=some b) M w M' w') (hg:Good M' w') (n:Rj M' G w' (.tok e sz) v') (L:∀ b,blk (.tok e sz) v'=some b→blk (.tok e sz) (G p)=some b∨w.heap.size≤b)
  (X:L1 M' (Y7 G H.length v') x v') :
  St C N M' (Y7 G H.length v') w' (put env dst x) (Wc H p .dead++[.tok e sz]) (a.put dst v'):=by
 have O:p < H.length:=(zqu.1 hp).1
 have hl:(Wc H p .dead).length=H.length:=Sl _ _ _
 have m:∀ {x:A} {v:Value},L1 M G x v→L1 M' (Y7 G H.length v') x v:=fun hr=>hr.mono g.mono fun o hn=>A3 (Nat.ne_of_lt (h.hrel.lt hr hn))
 obtain ⟨h1,h2,h3⟩:=Xo (fun t=>m (h.env t)) h.size hd X
 have get:∀ (o:Nat) x,(Wc H p .dead++[Ob.tok e sz])[o]?=some x→(o < H.length∧o≠p∧H[o]?=some x)∨(o=p∧x = .dead)∨(o=H.length∧x = .tok e sz):=fun o x j=>by
  rcases Nat.lt_trichotomy o H.length with r | rfl | hgt
  ·rw [zqx (by omega),Ae _ _ _ _ O] at j
   by_cases f:o=p
   ·rw [zp f] at j; cases j; exact .inr (.inl ⟨f,rfl⟩)
   ·rw [zn f] at j; exact .inl ⟨r,f,j⟩
  ·rw [List.getElem?_append_right (by omega),hl,Nat.sub_self] at j
   simp at j
   exact .inr (.inr ⟨rfl,j.symm⟩)
  ·rw [List.getElem?_eq_none (by simp; omega)] at j
   cases j
 refine ⟨hg,h.gl.ext h.hrel g (fun b hb=>⟨p,_,hp,hb⟩),⟨fun o x j=>?_,fun o o' x x' b j D hb l=>?_,fun o j=>?_⟩,h1,h2,h3.trans h.defers⟩
 ·rcases get o x j with ⟨r,f,E⟩ | ⟨rfl,rfl⟩ | ⟨rfl,rfl⟩
  ·rw [A3 (Nat.ne_of_lt r)]
   have z:=h.hrel.obj o x E
   have n:=z.keep g.mono (fun b hb=>g.block b (Wb z hb) fun l=>f (h.hrel.apart o p x _ b E hp hb l)) fun b hb off sp hn=>by
    cases hM:M' ⟨b,off,sp⟩ with
    | none=>rfl
    | some u=>
     rcases g.fresh _ u hM with q | q | q
     ·rw [hn] at q; cases q
     ·exact absurd (h.hrel.apart o p x _ b E hp hb q) f
     ·have:=Wb z hb; simp only at q; omega
   cases x with
   | dead=>trivial
   | row cells e=>
    obtain ⟨b,V,s,B,K,J,P,Y⟩:=n
    obtain ⟨b0,us0,F,Q,f3,W,U,f6⟩:=z
    rw [s] at F
    simp only [Value.pointer.injEq,zqb,Addr.mk.injEq,and_true] at F
    subst F
    have I:V=us0:=by
     have hk:=g.block b (Wb (h.hrel.obj o _ E) (by rw [s]; rfl)) fun l=>f (h.hrel.apart o p _ _ b E hp (by rw [s]; rfl) l)
     rw [hk,Q] at B
     simp only [zqb,Obj.cells.injEq] at B
     exact B.1.symm
    subst I
    exact ⟨b,V,s,B,K,J,fun i y v a c=>m (U i y v a c),Y⟩
   | bld o' e=>
    obtain ⟨b,v0,s,B,K,J,P⟩:=n
    have D:o'≠H.length:=fun e=>J (by rw [e]; exact h.hrel.fresh _ (zqr _))
    exact ⟨b,v0,s,by rw [A3 D]; exact B,K,by rw [A3 D]; exact J,P⟩
   | buf e sz=>exact n
   | tok e sz=>exact n
   | map es=>
    obtain ⟨b,ms,cl,s,B,K,J,P⟩:=n
    obtain ⟨b0,R,Z,F,Q,f3,W,U⟩:=z
    rw [s] at F
    simp only [Value.map.injEq,zqb] at F
    subst F
    have I:ms=R:=by
     have hk:=g.block b (Wb (h.hrel.obj o _ E) (by rw [s]; rfl)) fun l=>f (h.hrel.apart o p _ _ b E hp (by rw [s]; rfl) l)
     rw [hk,Q] at B
     simp only [zqb,Obj.map.injEq] at B
     exact B.1.symm
    subst I
    exact ⟨b,ms,cl,s,B,K,fun i k cs e a c=>⟨(J i k cs e a c).1,m (W i k cs e a c).2⟩,P⟩
  ·trivial
  ·rw [E4]
   exact n
 ·have key:∀ (o:Nat) x b,(Wc H p .dead++[Ob.tok e sz])[o]?=some x→blk x (Y7 G H.length v' o)=some b→(o < H.length∧o≠p∧H[o]?=some x∧blk x (G o)=some b)∨(o=H.length∧(blk (.tok e sz) (G p)=some b∨w.heap.size≤b)):=by
   intro o x b j hb
   rcases get o x j with ⟨r,f,E⟩ | ⟨rfl,rfl⟩ | ⟨rfl,rfl⟩
   ·rw [A3 (Nat.ne_of_lt r)] at hb
    exact .inl ⟨r,f,E,hb⟩
   ·simp [blk] at hb
   ·rw [E4] at hb
    exact .inr ⟨rfl,L b hb⟩
  rcases key o x b j hb with ⟨q1,q2,T,S⟩ | ⟨q1,q2⟩ <;> rcases key o' x' b D l with ⟨p1,p2,p3,p4⟩ | ⟨p1,p2⟩
  ·exact h.hrel.apart o o' x x' b T p3 S p4
  ·rcases p2 with p2 | p2
   ·exact absurd (h.hrel.apart o p x _ b T hp S p2) q2
   ·have:=Wb (h.hrel.obj o x T) S; omega
  ·rcases q2 with q2 | q2
   ·exact absurd (h.hrel.apart o' p x' _ b p3 hp p4 q2) p2
   ·have:=Wb (h.hrel.obj o' x' p3) p4; omega
  ·omega
 ·simp only [zqc,hl,zqd,zqe] at j
  rw [A3 (by omega)]
  exact h.hrel.fresh o (by omega)
theorem Q2.moveTok {fr:Fr}{M M':Mem}{G:Nat→Value}{w w':World}{H:N0}(h:Q2 fr M G w H){p e sz:Nat}{v':Value}
  (hp:H[p]?=some (.tok e sz)) (g:Ext (fun b=>blk (.tok e sz) (G p)=some b) M w M' w') (f:∀ b,blk (.tok e sz) v'=some b→blk (.tok e sz) (G p)=some b∨w.heap.size≤b) :
  Q2 fr M' (Y7 G H.length v') w' (Wc H p .dead++[.tok e sz]):=by
 have j:p < H.length:=(zqu.1 hp).1
 have hl:(Wc H p .dead).length=H.length:=Sl _ _ _
 have get:∀ (o:Nat) x,(Wc H p .dead++[Ob.tok e sz])[o]?=some x→(o < H.length∧o≠p∧H[o]?=some x)∨(o=p∧x = .dead)∨(o=H.length∧x = .tok e sz):=fun o x a=>by
  rcases Nat.lt_trichotomy o H.length with c | rfl | hgt
  ·rw [zqx (by omega),Ae _ _ _ _ j] at a
   by_cases d:o=p
   ·rw [zp d] at a; cases a; exact .inr (.inl ⟨d,rfl⟩)
   ·rw [zn d] at a; exact .inl ⟨c,d,a⟩
  ·rw [List.getElem?_append_right (by omega),hl,Nat.sub_self] at a
   simp at a
   exact .inr (.inr ⟨rfl,a.symm⟩)
  ·rw [List.getElem?_eq_none (by simp; omega)] at a
   cases a
 refine ⟨h.ext.trans g fun b hb=>h.own b ⟨p,_,hp,hb⟩,fun b ⟨o,z,hz,hb⟩=>?_,by simp; have:=h.len; omega,fun o x a ht=>?_,fun o x y a ht i=>?_⟩
 ·rcases get o z hz with ⟨c,d,i⟩ | ⟨rfl,rfl⟩ | ⟨rfl,rfl⟩
  ·rw [A3 (Nat.ne_of_lt c)] at hb
   exact h.own b ⟨o,z,i,hb⟩
  ·simp [blk] at hb
  ·rw [E4] at hb
   rcases f b hb with q | q
   ·exact h.own b ⟨p,_,hp,q⟩
   ·exact .inr (Nat.le_trans h.ext.size q)
 ·have c:o < H.length:=Nat.lt_of_lt_of_le (zqu.1 a).1 h.len
  rw [A3 (Nat.ne_of_lt c)]
  exact h.keep o x a ht
 ·have c:o < H.length:=Nat.lt_of_lt_of_le (zqu.1 a).1 h.len
  rcases get o y i with ⟨_,_,i⟩ | ⟨_,rfl⟩ | ⟨rfl,_⟩
  ·exact h.kind o x y a ht i
  ·rfl
  ·omega
def Jt (C:Cx)(L:List Oper)(o:Oper)(env:Env)(H:N0):Option Ap:=
 match Z1 L env o,o.op,Zc o with
 | some true,.call { callee:=.builtin .append,args,argTypes },some d=>
  match args.toList,argTypes.toList with
  | [x,y],[t,t']=>bif Nat.beq t t' then
   (match B4 C.T t,Mw (ev C.GL env y) with
   | some it,some news=>match it.u with
    | .sl e=>match B4 C.T e with
     | some ie=>match ev C.GL env x with
      | .osl p rows=>match nth H p with
       | some (.tok e' sz')=>bif Nat.beq e e'&&Nat.beq ie.size sz' then some ⟨d,p,false,rows,news,ie.size,ie.bytes,Wc H p .dead++[.tok e ie.size]⟩ else none
       | _=>none
      | .full rows=>some ⟨d,H.length,true,rows,news,ie.size,ie.bytes,H++[.tok e ie.size]⟩
      | _=>none
     | none=>none
    | _=>none
   | _,_=>none) else none
  | _,_=>none
 | _,_,_=>none
theorem E0.am {F:Fx}(hC:F3 F.C){L l:List Oper}{o:Oper}{env:Env}{H:N0}{Q:Env→N0→Prop}{d:Option Nat}{p:Nat}{nw:Bool}{rows news:List Row}{sz bytes:Nat}{H':N0}
  (h:Jt F.C L o env H=some ⟨d,p,nw,rows,news,sz,bytes,H'⟩) (h1:∀ r∈rows,r.length=sz) (h2:∀ r∈news,r.length=sz) (h3:(rows.length+news.length) * (bytes+1)≤140737488355328)
  (k:E0 F L l (put env d (.osl H.length (rows++news))) H' Q):E0 F L (o::l) env H Q:=by
 unfold Jt at h
 split at h
 ·rename_i args ts dd Z T hd
  split at h
  ·rename_i x y t t' ha ht
   cases hb:Nat.beq t t' with
   | false=>rw [hb] at h; cases h
   | true=>
    rw [hb] at h
    obtain rfl:=zqo hb
    simp only [zqk] at h
    split at h
    ·rename_i it j A i
     split at h
     ·rename_i e Y
      split at h
      ·rename_i O E
       have X:x∈o.op.operands∧y∈o.op.operands:=by
        rw [T]
        obtain rfl:args = #[x,y]:=by rw [← Array.toArray_toList (xs:=args),ha]
        simp [Op.operands,Call.operands]
       have g:(rows.length+news.length) * bytes≤140737488355328∧rows.length+news.length≤maxLen:=by
        have:(rows.length+news.length) * (bytes+1)=(rows.length+news.length) * bytes+(rows.length+news.length):=Nat.mul_succ _ _
        unfold maxLen
        omega
       split at h
       ·rename_i q f R
        split at h
        ·rename_i e' U N
         cases hbb:Nat.beq e e'&&Nat.beq O.size U with
         | false=>rw [hbb] at h; cases h
         | true=>
          rw [hbb] at h
          simp only [zqi] at hbb
          obtain rfl:=zqo hbb.1
          obtain rfl:=zqo hbb.2
          simp only [zqk] at h
          simp only [zqb,Ap.mk.injEq] at h
          obtain ⟨rfl,rfl,rfl,rfl,rfl,rfl,rfl,rfl⟩:=h
          refine Nj Z fun fr M G w a K Qw hK m hs s hk=>?_
          have c:=hs.eval x
          rw [R] at c
          generalize hxv:a.eval x=xv at c
          cases c
          rename_i J n
          rw [Q3] at N
          have z:Tok M w e O.size xv:=by have:=hs.hrel.obj _ _ N; rw [J] at this; exact this
          obtain ⟨v',w',M',S,W,V,P,I,D⟩:=Js (ty:=o.type) hC.tok hs.good A Y E n (Tj i (hs.eval y)) z h1 h2 g.1 g.2
          unfold Oper.wp
          rw [Fo T ha ht (by rw [hxv]; exact S)]
          rw [← J] at I D
          refine hk (.osl H.length (f++j)) env _ M' (Y7 G H.length v') w' v' ?_ (hs.moveTok (G6 m) N I P V D (.osl W E4)) (s.moveTok N I D)
          rw [W8 hd]
          exact k
        ·cases h
       ·rename_i f R
        simp only [zqb,Ap.mk.injEq] at h
        obtain ⟨rfl,rfl,rfl,rfl,rfl,rfl,rfl,rfl⟩:=h
        refine Nj Z fun fr M G w a K Qw hK m hs s hk=>?_
        have c:=hs.eval x
        rw [R] at c
        generalize hxv:a.eval x=xv at c
        cases c
        rename_i u n
        obtain ⟨t1,t2⟩:=Ks (G:=fun _=>.tuple #[]) (w:=w) n u e O.size
        obtain ⟨v',w',M',S,W,V,P,I,D⟩:=Js (ty:=o.type) hC.tok hs.good A Y E n (Tj i (hs.eval y)) t1 h1 h2 g.1 g.2
        unfold Oper.wp
        rw [Fo T ha ht (by rw [hxv]; exact S)]
        have v:Ext C9 M w M' w':=I.weaken fun b hb=>absurd hb (t2 b)
        have B:∀ b,blk (.tok e O.size) v'=some b→w.heap.size≤b:=fun b hb=>(D b hb).resolve_left (t2 b)
        refine hk (.osl H.length (f++j)) env _ M' (Y7 G H.length v') w' v' ?_ (hs.newTok (G6 m) v P V B (.osl W E4)) (s.newTok v B)
        rw [W8 hd]
        exact k
       ·cases h
      ·cases h
     ·cases h
    ·cases h
  ·cases h
 ·cases h
theorem Z1g {ps:List Nat}{H:N0}{x:Ob}(hn:∀ q∈ps,q < H.length):J3 ps (H++[x])=J3 ps H++[x]:=by
 apply List.ext_getElem?
 intro n
 rw [Qb]
 by_cases hlt:n < H.length
 ·rw [zqx hlt,zqx (by rw [F9]; exact hlt),Qb]
 ·rw [List.getElem?_append_right (by omega),List.getElem?_append_right (by rw [F9]; omega),F9]
  have:ps.contains n=false:=by
   cases hb:ps.contains n with
   | false=>rfl
   | true=>exact absurd (hn n (by simpa using hb)) hlt
  cases [x][n - H.length]? with
  | none=>rfl
  | some y=>simp only [zqt,this]; rfl
theorem E1k {C:Cx}{L:List Oper}{o:Oper}{env env':Env}{H H':N0}{ps:List Nat}{d:Option Nat}{p:Nat}{r:Bool}{rows news:List Row}{sz bytes:Nat}(n:∀ t∈X8 L o,env' t=env t)
  (h:Jt C L o env H=some ⟨d,p,r,rows,news,sz,bytes,H'⟩) (g:∀ q∈ps,q < H.length) (hp:ps.contains p=false) :
  ∃ p',Jt C L o env' (J3 ps H)=some ⟨d,p',r,rows,news,sz,bytes,J3 ps H'⟩:=by
 have f:∀ y∈o.op.operands,ev C.GL env' y=ev C.GL env y:=fun y z=>Ur fun t ht=>n t (by
  subst ht
  simp only [X8,List.mem_append,List.mem_filterMap]
  exact .inl ⟨.tmp t,by simpa using z,rfl⟩)
 unfold Jt at h ⊢
 rw [Hk n]
 split at h
 ·rename_i args D E F w G
  split at h
  ·rename_i x y t t' ha ht
   have a:x∈o.op.operands∧y∈o.op.operands:=by
    rw [w]
    obtain rfl:args = #[x,y]:=by rw [← Array.toArray_toList (xs:=args),ha]
    simp [Op.operands,Call.operands]
   rw [f x a.1,f y a.2]
   cases hb:Nat.beq t t' with
   | false=>rw [hb] at h; cases h
   | true=>
    rw [hb] at h
    simp only [zqk] at h
    split at h
    ·rename_i I l s j
     split at h
     ·rename_i e B
      split at h
      ·rename_i u v
       split at h
       ·rename_i q b A
        split at h
        ·rename_i e' c i
         cases hbb:Nat.beq e e'&&Nat.beq u.size c with
         | false=>rw [hbb] at h; cases h
         | true=>
          rw [hbb] at h
          simp only [zqk,zqb,Ap.mk.injEq] at h
          obtain ⟨rfl,rfl,rfl,rfl,rfl,rfl,rfl,rfl⟩:=h
          have k:q < H.length:=(zqu.1 (by rw [Q3] at i; exact i)).1
          have m:nth (J3 ps H) q=some (.tok e' c):=by
           rw [Q3] at i ⊢
           rw [Qb,i,zqt,hp]
           rfl
          refine ⟨q,?_⟩
          rw [Z1g (by rw [Sl]; exact g),← Y1g k hp]
          simp [m,hbb]
        ·cases h
       ·rename_i b A
        simp only [zqb,Ap.mk.injEq] at h
        obtain ⟨rfl,rfl,rfl,rfl,rfl,rfl,rfl,rfl⟩:=h
        refine ⟨(J3 ps H).length,?_⟩
        rw [Z1g g]
        simp
       ·cases h
      ·cases h
     ·cases h
    ·cases h
  ·cases h
 ·cases h
theorem I1p {C:Cx}{L:List Oper}{o:Oper}{env:Env}{H:N0}{r:Ap}(h:Jt C L o env H=some r):Z1 L env o=some true∧Zc o=some r.d:=by
 unfold Jt at h
 split at h
 ·rename_i args c e b f a
  refine ⟨b,?_⟩
  split at h
  ·rename_i x y t t' ha ht
   cases hb:Nat.beq t t' with
   | false=>rw [hb] at h; cases h
   | true=>
    rw [hb] at h
    simp only [zqk] at h
    split at h
    ·split at h
     ·split at h
      ·split at h
       ·split at h
        ·obtain ⟨_,h⟩:=B1k h
         simp only [zqb] at h; subst h; exact a
        ·cases h
       ·simp only [zqb] at h; subst h; exact a
       ·cases h
      ·cases h
     ·cases h
    ·cases h
  ·cases h
 ·cases h
section
variable {F:Fx}{L l:List Oper}{o:Oper}{env:Env}{ls:List Nat}{fs:List (Nat×Nat)}{Hs:List N0}{j i:Nat}{Q:Env→Prop}
theorem AS.am (hC:F3 F.C){H H':N0}{d:Option Nat}{p q:Nat}{u:Bool}{rows news rs:List Row}{sz bytes:Nat}(h1:nth ls i=some j)(hf:Kl fs j=none)(h2:nth Hs i=some H)(w:nth Hs (i+1)=some H')
  (h:Jt F.C L o env H=some ⟨d,p,u,rows,news,sz,bytes,H'⟩) (e:rs=rows++news) (t:∀ r∈rows,r.length=sz) (x:∀ r∈news,r.length=sz) (s:(rows.length+news.length) * (bytes+1)≤140737488355328)
  (b:H.length=q) (a:((unw L fs j).all (fun p=>Nat.blt p H.length) && !(unw L fs j).contains p)=true) (k:AS F L ls fs Hs (j+1) (i+1) l (put env d (.osl q rs)) Q):AS F L ls fs Hs j i (o::l) env Q:=by
 subst e; subst b
 obtain ⟨w1,v⟩:=I1p h
 have f:=W8 v
 simp only [zqi,List.all_eq_true] at a
 refine .inr (.inl ⟨.osl H.length (rows++news),H,H',h1,hf,w1,h2,w,fun ps c env' K g Q b=>?_,by rw [f]; exact k⟩)
 have hn:ps.contains p=false:=by
  cases hb:ps.contains p with
  | false=>rfl
  | true=>
   have n:=c p (by simpa using hb)
   have m:(unw L fs j).contains p=true:=by simpa using n
   rw [m] at a; exact absurd a.2 (by simp)
 obtain ⟨p',hs⟩:=E1k g h (fun q b=>Nat.le_of_ble_eq_true (a.1 q (c q b))) hn
 refine E0.am (F:=⟨F.C,F.N,K,Mp,Uj⟩) hC hs t x s (E0.nil ?_)
 rw [F9]
 rw [f] at b
 exact b
end
section
variable {α:Type}{f:α→Row}{g:List α→List Row}
end
end Go.Am

