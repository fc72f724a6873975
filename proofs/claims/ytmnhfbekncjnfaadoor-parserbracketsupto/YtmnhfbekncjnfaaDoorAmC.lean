/- A part of the proof of ParserBrackets. -/
import Derived.Test.YtmnhfbekncjnfaaDoorAmB
namespace Go.Am
theorem Pq {sz:Nat}:∀ {rows:List Row},(∀ r∈rows,r.length=sz)→rows.flatten.length=rows.length * sz
 | [],_=>by simp
 | r::rs,h=>by
  rw [List.flatten_cons,List.length_append,Pq fun x hx=>h x (List.mem_cons_of_mem _ hx),h r List.mem_cons_self,List.length_cons,Nat.add_mul]
  omega
theorem Qq {sz:Nat}:∀ {rows:List Row},(∀ r∈rows,r.length=sz)→∀ {i j:Nat} {r:Row} {x:D},rows[i]?=some r→r[j]?=some x→rows.flatten[i * sz+j]?=some x
 | [],_,i,j,r,x,h,_=>by simp at h
 | r0::rs,hsz,0,j,r,x,h,hx=>by
  simp at h; subst h
  have hj:=(List.getElem?_eq_some_iff.1 hx).1
  rw [List.flatten_cons,List.getElem?_append_left (by omega),Nat.zero_mul,Nat.zero_add]
  exact hx
 | r0::rs,hsz,i+1,j,r,x,h,hx=>by
  have h0:=hsz r0 List.mem_cons_self
  rw [List.flatten_cons,List.getElem?_append_right (by rw [h0,Nat.add_mul]; omega),h0,Nat.add_mul,show i * sz+1 * sz+j - sz=i * sz+j by omega]
  exact Qq (fun x hx=>hsz x (List.mem_cons_of_mem _ hx)) (by simpa using h) hx
theorem Rq {sz:Nat}:∀ {rows:List Row},(∀ r∈rows,r.length=sz)→∀ {k:Nat} {x:D},rows.flatten[k]?=some x→∃ i j r,k=i * sz+j∧j < sz∧rows[i]?=some r∧r[j]?=some x
 | [],_,k,x,h=>by simp at h
 | r0::rs,hsz,k,x,h=>by
  have h0:=hsz r0 List.mem_cons_self
  rw [List.flatten_cons] at h
  by_cases hk:k < sz
  ·rw [List.getElem?_append_left (by omega)] at h
   exact ⟨0,k,r0,by omega,hk,rfl,h⟩
  ·rw [List.getElem?_append_right (by omega),h0] at h
   obtain ⟨i,j,r,e1,e2,e3,e4⟩:=Rq (fun x hx=>hsz x (List.mem_cons_of_mem _ hx)) h
   exact ⟨i+1,j,r,by rw [Nat.add_mul]; omega,e2,by simpa using e3,e4⟩
theorem My {P:Program}{T:TT}(hT:TOk P T){M:Mem}{G:Nat→Value}{w:World}(hG:Good M w){t e ty:Nat}{it ie:TI}(ht:Y1 T t=some it)(hu:it.u = .sl e)(he:Y1 T e=some ie){news:List Row}{v u:Value}
  (hv:B2 M (.sl []) v) (hf:Xr v) (hnv:B2 M (.sl news) u) (hne:news≠[]) (hn:∀ r∈news,r.length=ie.size) (hb:news.length * ie.bytes≤140737488355328) (hm:news.length≤maxLen) :
  ∃ cap vs,(Builtin.append_ #[t,t] ty #[v,u]).run P w = .ok (.slice (some ⟨w.heap.size,0,none⟩) news.length cap) (w.drew.alloc (.cells vs e))∧news.length≤cap∧cap≤maxLen∧Zl M G (news.flatten.map .d) vs:=by
 have fe:=hT.facts he
 have hd:=U8 (hT.facts ht) hu
 obtain ⟨info,hi,hsz,hby,z,hz,hzl,hzb,_⟩:=fe.info
 obtain ⟨nvals,hnr,hnsh⟩:=Br hG hnv hn
 have hlen:0 < news.length:=by cases news with | nil=>exact absurd rfl hne | cons _ _=>simp
 rcases hnsh with ⟨rfl,rfl⟩ | ⟨na,ncap,rfl,hns,hnc,hncm,hnM,hncell⟩
 ·exact absurd rfl hne
 have hbytes:news.length * info.bytes≤140737488355328:=by rw [hby]; exact hb
 have hnl:(J4 ie.size news.length nvals).length=news.length * info.size:=by rw [S7,hsz]
 have hncell':∀ (j:Nat) u,(J4 ie.size news.length nvals)[j]?=some u→w.cell? (na.add j)=some u:=fun j u hu=>(hncell j u hu).1
 have hone:∀ (n:Nat) (i:Nat) v,(Builtin.zeroCells z.cells n)[i]?=some v→v.oneCell'=true:=fun n i v hv=>by
  unfold Builtin.zeroCells at hv
  rw [Array.getElem?_map] at hv
  cases hr:(Array.range (n * z.cells.size))[i]? with
  | none=>rw [hr] at hv; cases hv
  | some q=>
   rw [hr] at hv
   simp only [Option.map_some,Option.some.injEq] at hv
   have hq:=(Array.getElem?_eq_some_iff.1 hr).1
   simp only [Array.size_range] at hq
   have hpos:0 < z.cells.size:=by
    rcases Nat.eq_zero_or_pos z.cells.size with h0 | h0
    ·rw [h0] at hq; omega
    ·exact h0
   have hlt:q % z.cells.size < z.cells.size:=Nat.mod_lt _ hpos
   have hget:z.cells[q % z.cells.size]?=some v:=by
    rw [← hv]
    simp [hlt]
   have hlz:q % z.cells.size < ie.zero.length:=by rw [← hzl]; simpa using hlt
   exact (Fc (hzb _ v _ hget (List.getElem?_eq_getElem hlz)) M).one
 have cells:∀ zs:Array Value,(∀ (i:Nat) v,zs[i]?=some v→v.oneCell'=true)→Zl M G (news.flatten.map .d) ((J4 ie.size news.length nvals).toArray++zs):=fun zs hzs=>by
  refine ⟨?_,fun i v hv=>?_,fun i x v hx hv=>?_⟩
  ·simp only [List.length_map,Array.size_append,List.size_toArray]
   rw [Pq hn,S7]
   omega
  ·by_cases hlt:i < (J4 ie.size news.length nvals).length
   ·rw [Array.getElem?_append_left (by simpa using hlt),List.getElem?_toArray] at hv
    exact (hncell i v hv).2
   ·rw [Array.getElem?_append_right (by simp; omega)] at hv
    exact hzs _ v hv
  ·rw [List.getElem?_map] at hx
   cases hfx:news.flatten[i]? with
   | none=>rw [hfx] at hx; cases hx
   | some y=>
    rw [hfx] at hx
    simp only [Option.map_some,Option.some.injEq] at hx
    subst hx
    obtain ⟨r,j,row,e1,e2,e3,e4⟩:=Rq hn hfx
    have hr:=(List.getElem?_eq_some_iff.1 e3).1
    have hg:=Bl (sz:=ie.size) (m:=news.length) (E1:=nvals) e2 hr
    have hlt:i < (J4 ie.size news.length nvals).length:=by rw [e1]; exact (List.getElem?_eq_some_iff.1 hg).1
    rw [Array.getElem?_append_left (by simpa using hlt),List.getElem?_toArray,e1,hg] at hv
    cases hv
    exact .d (hnr r j row y e3 e4)
 have nil0:∀ x:Array Value,(#[]++x)=x:=fun x=>by simp
 cases hv with
 | slnil=>
  have hrun:=run_append_nil (P:=P) w t ty e info z hd hi hz na news.length ncap (J4 ie.size news.length nvals) hnl hncell' hlen (by unfold maxLen at hm; omega) (by omega)
  exact ⟨_,_,hrun,grownCap_ge w _ _ e,grownCap_le_maxLen w _ _ e hm,cells _ (hone _)⟩
 | sl sz' E1 hl hc hcm hs hz' h1 h2=>
  rename_i a len cap
  have hl0:len=0:=by simpa using hl.symm
  subst hl0
  have hc0:(0:Nat)=cap:=hf
  subst hc0
  have hrun:=run_append_grow (P:=P) w t ty e info z hd hi hz a 0 0 [] (by simp) (fun j u hu'=>by simp at hu') na news.length ncap (J4 ie.size news.length nvals) hnl hncell'
   (by omega) (by unfold maxLen at hm; omega) (growslice_fits (by omega) (by simpa using hbytes))
  simp only [Nat.zero_add] at hrun
  exact ⟨_,_,hrun,grownCap_ge w _ _ e,grownCap_le_maxLen w _ _ e hm,by
   have:=cells (Builtin.zeroCells z.cells (grownCap w news.length 0 e - news.length)) (hone _)
   simpa using this⟩
def H14 (C:Cx)(L:List Oper)(o:Oper)(env:Env):Option (Option Nat×Nat×List Row×Nat×Nat):=
 match D1 L env o,o.op,G5 o with
 | some true,.call { callee:=.builtin .append,args,argTypes },some d=>
  match args.toList,argTypes.toList with
  | [x,y],[t,t']=>bif Nat.beq t t' then
   (match Y1 C.T t,We (ev C.GL env y),ev C.GL env x with
   | some it,some news,.full []=>match it.u with
    | .sl e=>match Y1 C.T e with
     | some ie=>some (d,e,news,ie.size,ie.bytes)
     | none=>none
    | _=>none
   | _,_,_=>none) else none
  | _,_=>none
 | _,_,_=>none
theorem F0.an {F:Fx}(hC:L1 F.C){L l:List Oper}{o:Oper}{env:Env}{H H':I0}{Q:Env→I0→Prop}{d:Option Nat}{e p n:Nat}{news:List Row}{sz bytes:Nat}{cs:List A}
  (h:H14 F.C L o env=some (d,e,news,sz,bytes)) (hne:news≠[]) (h1:∀ r∈news,r.length=sz) (h3:news.length * (bytes+1)≤140737488355328) (hcs:cs=news.flatten.map .d) (hn:news.length=n) (hp:Eg H (.row cs e)=some (p,H'))
  (k:F0 F L l (put env d (.rsl p 0 n n)) H' Q):F0 F L (o::l) env H Q:=by
 subst hcs; subst hn
 obtain ⟨rfl,rfl⟩:=Id hp
 unfold H14 at h
 split at h
 ·rename_i args ts dd hw ho hd
  split at h
  ·rename_i x y t t' ha ht
   obtain ⟨hb,h5⟩:=S15 h
   clear h
   obtain rfl:=Nat.eq_of_beq_eq_true hb
   split at h5
   ·rename_i it news' hit hnews hx
    split at h5
    ·rename_i e' hu
     split at h5
     ·rename_i ie hie
      simp only [Option.some.injEq,Prod.mk.injEq] at h5
      obtain ⟨rfl,rfl,rfl,rfl,rfl⟩:=h5
      have hlen:news'.length * ie.bytes≤140737488355328∧news'.length≤maxLen:=by
       have:news'.length * (ie.bytes+1)=news'.length * ie.bytes+news'.length:=Nat.mul_succ _ _
       unfold maxLen
       omega
      refine L8 hw fun fr M G w a K Qw hK hdok hs hsi hk=>?_
      have hxr:=hs.eval x
      rw [hx] at hxr
      generalize hxv:a.eval x=xv at hxr
      obtain ⟨hrd,hfl⟩:B2 M (.sl []) xv∧Xr xv:=by cases hxr; exact ⟨by assumption,by assumption⟩
      obtain ⟨cap,vs,r1,r2,r3,r4⟩:=My (G:=G) (ty:=o.type) hC.tok hs.good hit hu hie hrd hfl (J9 hnews (hs.eval y)) hne h1 hlen.1 hlen.2
      have hext:Ext I4 M w M w.drew:=⟨fun _ _ e=>e,Nat.le_refl _,rfl,rfl,rfl,fun _ _ _=>rfl,fun _ _ e=>.inl e⟩
      have q1:St F.C F.N M G w.drew env H a:=⟨fun a v e=>hs.good a v e,hs.gl.ext hs.hrel hext (fun _ h=>h.elim),hs.hrel.ext hext (fun _ _ h=>h),hs.env,hs.size,hs.defers⟩
      have k1:=q1.newRowL (dst:=none) (by simp) r4 (elem:=e')
      have k2:=O1.newRow (hsi.quiet hext) (cs:=news'.flatten.map .d) (vs:=vs) (elem:=e')
      have k3:=k1.quiet (A3 hdok) (x:=.rsl H.length 0 news'.length news'.length) (v:=.slice (some ⟨w.heap.size,0,none⟩) news'.length cap) (.rsl U2 r2 r3) k1.good (Ext.refl _ _ _)
      unfold Oper.wp
      rw [Mi ho ha ht (by rw [hxv]; exact r1)]
      rw [← J3 hd] at k
      exact hk _ _ _ _ _ _ _ k k3 (k2.quiet (Ext.refl _ _ _))
     ·cases h5
    ·cases h5
   ·cases h5
  ·cases h
 ·cases h
section
variable {α:Type}{f:α→Row}{g:List α→List Row}
end
inductive Vw (p n:Nat)(y:D):A→A→Prop
 | rfl {x}:Vw p n y x x
 | rsl {cap}:Vw p n y (.d y) (.rsl p 0 n cap)
 | agg {xs ys} (hl:xs.length=ys.length) (h:∀ (i:Nat) x z,xs[i]?=some x→ys[i]?=some z→Vw p n y x z):Vw p n y (.agg xs) (.agg ys)
def VwL (p n:Nat)(y:D):List A→List A→Prop
 | [],[]=>True
 | x::xs,z::zs=>Vw p n y x z∧VwL p n y xs zs
 | _,_=>False
theorem VwL.spec {p n:Nat}{y:D}:∀ {xs ys:List A},VwL p n y xs ys→xs.length=ys.length∧∀ (i:Nat) x z,xs[i]?=some x→ys[i]?=some z→Vw p n y x z
 | [],[],_=>⟨rfl,fun i x z h=>by simp at h⟩
 | x::xs,z::zs,h=>by
  obtain ⟨h1,h2⟩:=VwL.spec h.2
  refine ⟨by simp [h1],fun i a b ha hb=>?_⟩
  cases i with
  | zero=>simp at ha hb; subst ha; subst hb; exact h.1
  | succ i=>exact h2 i a b (by simpa using ha) (by simpa using hb)
 | [],_::_,h=>h.elim
 | _::_,[],h=>h.elim
theorem Vw.aggL {p n:Nat}{y:D}{xs ys:List A}(h:VwL p n y xs ys):Vw p n y (.agg xs) (.agg ys):=.agg h.spec.1 h.spec.2
theorem Vw.rel {M M1:Mem}{G:Nat→Value}{p n:Nat}{y:D}(hm:∀ a v,M a=some v→M1 a=some v)(hy:∀ cap v,N0 M G (.rsl p 0 n cap) v→B2 M1 y v){x z:A}(h:Vw p n y x z):∀ {v:Value},N0 M G z v→N0 M1 G x v:=by
 induction h with
 | rfl=>exact fun h=>h.mono' hm
 | rsl=>exact fun h=>.d (hy _ _ h)
 | agg hl _ ih=>
  intro v hz
  cases hz with
  | agg hl' h1 h=>
   refine .agg (by omega) h1 fun i x v hx hv=>?_
   obtain ⟨z,hz⟩:∃ z,_=some z:=⟨_,List.getElem?_eq_getElem (by rw [← hl]; exact (List.getElem?_eq_some_iff.1 hx).1)⟩
   exact ih i x z hx hz (h i z v hz hv)
def Bt:D→Bool
 | .int _ _=>true
 | .bool _=>true
 | .str _=>true
 | _=>false
def Pw:List A→Bool
 | []=>true
 | .d y::r=>Bt y&&Pw r
 | _::_=>false
def Ct:A→Bool
 | .d y=>Bt y
 | .tup xs=>Pw xs
 | _=>false
theorem Sv {M M':Mem}{x:D}{v:Value}(h:Bt x=true)(hr:B2 M x v):B2 M' x v:=by
 cases hr <;> first | (simp [Bt] at h; done) | skip
 ·exact .bool
 ·exact .int (by assumption)
 ·exact .str (by assumption)
theorem Tv:∀ {xs:List A},Pw xs=true→∀ x∈xs,∃ y,x = .d y∧Bt y=true
 | .d y::r,h,x,hx=>by
  simp only [Pw,Bool.and_eq_true] at h
  cases hx with
  | head=>exact ⟨y,rfl,h.1⟩
  | tail _ hx=>exact Tv h.2 x hx
theorem I14 {M M':Mem}{G:Nat→Value}{x:A}{v:Value}(h:Ct x=true)(hr:N0 M G x v):N0 M' G x v:=by
 cases hr with
 | d h'=>exact .d (Sv h h')
 | tup hl hh=>
  refine .tup hl fun i x v hx hv=>?_
  obtain ⟨y,rfl,hy⟩:=Tv h x (List.mem_of_getElem? hx)
  have:=hh i _ v hx hv
  cases this with
  | d h'=>exact .d (Sv hy h')
 | _=>simp [Ct] at h
theorem Sq {C:Cx}{o:Oper}{env:Env}{H:I0}{f:FuncId}{xs ys:List A}{x:A}{p n sz:Nat}{rows:List Row}{cs:List A}{e:TypeId}(ha:V8 C.GL env o=some (f,xs))(hp:nth H p=some (.row cs e))(hcs:cs=rows.flatten.map .d)
  (hsz:∀ r∈rows,r.length=sz) (hn:rows.length=n) (hv:VwL p n (.sl rows) ys xs) (hnm:W1 0 ys=true) (hc:S0 C f ys [] (fun r H'=>H'=[]∧r=x)) (hx:Ct x=true):E4 C o env H x:=by
 intro M G w a next Qw hρ hG hgl hH hk
 subst hcs; subst hn
 rw [O2] at hp
 obtain ⟨vs0,h1,h2,h3⟩:=Oh ha hρ hc.1
 obtain ⟨b,vs,g1,g2,g3,g4,g5,g6⟩:=hH.obj p _ hp
 let M1:Mem:=fun ad=>if ad.block=b∧ad.spot=none then vs[ad.off]? else M ad
 have hm:∀ ad v,M ad=some v→M1 ad=some v:=fun ad v e=>by
  show (if ad.block=b∧ad.spot=none then vs[ad.off]? else M ad)=some v
  rw [if_neg]
  ·exact e
  ·rintro ⟨q1,q2⟩
   obtain ⟨bb,oo,ss⟩:=ad
   simp only at q1
   subst q1
   rw [g6] at e; cases e
 have hg1:Good M1 w:=fun ad v e=>by
  by_cases hh:ad.block=b∧ad.spot=none
  ·obtain ⟨bb,oo,ss⟩:=ad
   simp only at hh
   obtain ⟨rfl,rfl⟩:=hh
   have e4:vs[oo]?=some v:=by
    have:(if bb=bb∧(none:Option Nat)=none then vs[oo]? else M ⟨bb,oo,none⟩)=some v:=e
    rwa [if_pos ⟨rfl,rfl⟩] at this
   exact .inl ⟨rfl,by rw [Ef g2]; exact e4⟩
  ·have e4:M ad=some v:=by
    have:(if ad.block=b∧ad.spot=none then vs[ad.off]? else M ad)=some v:=e
    rwa [if_neg hh] at this
   exact hG ad v e4
 have hgl1:Dg C M1 w:=by
  have hext:Ext (fun c=>c=b) M w M1 w:=⟨hm,Nat.le_refl _,rfl,rfl,rfl,fun _ _ _=>rfl,fun ad v e1=>by
   have e1:(if ad.block=b∧ad.spot=none then vs[ad.off]? else M ad)=some v:=e1
   split at e1
   ·rename_i hc'; exact .inr (.inl hc'.1)
   ·exact .inl e1⟩
  exact hgl.ext hH hext fun c hc'=>by subst hc'; exact ⟨p,_,hp,by rw [g1]; rfl⟩
 have hy:∀ cap v,N0 M G (.rsl p 0 rows.length cap) v→B2 M1 (.sl rows) v:=fun cap v hr=>by
  obtain ⟨b',cap',q1,q2,q3,rfl⟩:∃ b' cap',G p = .pointer (some ⟨b',0,none⟩)∧rows.length≤cap'∧cap'≤maxLen∧v = .slice (some ⟨b',0,none⟩) rows.length cap':=by
   cases hr
   exact ⟨_,_,by assumption,by assumption,by assumption,rfl⟩
  rw [g1] at q1
  simp at q1
  subst q1
  have hget:∀ (i j:Nat) r x,rows[i]?=some r→r[j]?=some x→∃ u,vs[i * sz+j]?=some u∧B2 M1 x u:=fun i j r x hi hj=>by
   have hf:=Qq hsz hi hj
   have hc':(rows.flatten.map A.d)[i * sz+j]?=some (.d x):=by rw [List.getElem?_map,hf]; rfl
   have hlt:i * sz+j < vs.size:=Nat.lt_of_lt_of_le (List.getElem?_eq_some_iff.1 hc').1 g3
   refine ⟨vs[i * sz+j],Array.getElem?_eq_getElem hlt,?_⟩
   have:=g5 _ _ _ hc' (Array.getElem?_eq_getElem hlt)
   cases this with
   | d h'=>exact h'.mono hm
  refine .sl sz (fun i j=>vs[i * sz+j]?.getD undef) rfl q2 q3 (.inr rfl) (fun i r hi=>hsz r (List.mem_of_getElem? hi)) (fun i j r x hi hj=>?_) (fun i j r x hi hj=>?_)
  ·obtain ⟨u,hu,_⟩:=hget i j r x hi hj
   rw [K8]
   show (if b=b∧(none:Option Nat)=none then vs[0+(i * sz+j)]? else _)=_
   rw [if_pos ⟨rfl,rfl⟩,Nat.zero_add,hu]
   rfl
  ·obtain ⟨u,hu,hr'⟩:=hget i j r x hi hj
   rw [hu]
   exact hr'
 obtain ⟨l1,l2⟩:=hv.spec
 unfold Oper.wp
 rw [h1 w]
 refine (Gn (G:=G) hnm hc hg1 hgl1 (l1.trans h2) fun i y v hyi hvi=>?_).mono fun e' w' he=>?_
 ·obtain ⟨z,hz⟩:∃ z,xs[i]?=some z:=⟨_,List.getElem?_eq_getElem (by rw [← l1]; exact (List.getElem?_eq_some_iff.1 hyi).1)⟩
  exact (l2 i y z hyi hz).rel hm hy (h3 i z v hz hvi)
 ·obtain ⟨v,r,M',rfl,rfl,k1,k2,k3⟩:=he
  obtain ⟨e1,e2,e3,e4,e5,e6,e7⟩:=k3
  let M2:Mem:=fun ad=>if ad.block=b then none else M' ad
  refine hk v M2 w' (I14 hx (k1 G)) (fun ad u hu=>?_) ⟨fun ad u hu=>?_,e2,e3,e4,e5,e6,fun ad u hu=>?_⟩
  ·have hu:(if ad.block=b then none else M' ad)=some u:=hu
   split at hu
   ·cases hu
   ·exact k2 ad u hu
  ·show (if ad.block=b then none else M' ad)=some u
   rw [if_neg]
   ·exact e1 ad u (hm ad u hu)
   ·intro hb
    obtain ⟨bb,oo,ss⟩:=ad
    simp only at hb
    subst hb
    rw [g6] at hu; cases hu
  ·have hu:(if ad.block=b then none else M' ad)=some u:=hu
   split at hu
   ·cases hu
   ·rename_i hb
    rcases e7 ad u hu with h | h | h
    ·refine .inl ?_
     have h:(if ad.block=b∧ad.spot=none then vs[ad.off]? else M ad)=some u:=h
     rwa [if_neg (fun hh=>hb hh.1)] at h
    ·exact .inr (.inl h)
    ·exact .inr (.inr h)
theorem F0.cv {F:Fx}{L l:List Oper}{o:Oper}{env:Env}{H:I0}{Q:Env→I0→Prop}{d:Option Nat}{f:FuncId}{xs ys:List A}{x:A}(p:Nat){n sz:Nat}{rows:List Row}{cs:List A}{e:TypeId}(h:F7 F.C L o env=some (d,f,xs))(hp:nth H p=some (.row cs e))
  (hcs:cs=rows.flatten.map .d) (hsz:∀ r∈rows,r.length=sz) (hn:rows.length=n) (hv:VwL p n (.sl rows) ys xs) (hc:S0 F.C f ys [] (Ret [] x)) (hnm:W1 0 ys=true) (hx:Ct x=true) (k:F0 F L l (put env d x) H Q):F0 F L (o::l) env H Q:=by
 obtain ⟨h1,h2,rfl⟩:=G8 h
 exact .yields h1 (Sq h2 hp hcs hsz hn hv hnm hc hx) k
theorem AQ.cv {C:Cx}{L l:List Oper}{o:Oper}{env:Env}{H:I0}{Q:Env→Prop}{d:Option Nat}{f:FuncId}{xs ys:List A}{x:A}(p:Nat){n sz:Nat}{rows:List Row}{cs:List A}{e:TypeId}(h:F7 C L o env=some (d,f,xs))(hp:nth H p=some (.row cs e))
  (hcs:cs=rows.flatten.map .d) (hsz:∀ r∈rows,r.length=sz) (hn:rows.length=n) (hv:VwL p n (.sl rows) ys xs) (hc:S0 C f ys [] (Ret [] x)) (hnm:W1 0 ys=true) (hx:Ct x=true) (k:AQ C L l (put env d x) H Q):AQ C L (o::l) env H Q:=by
 obtain ⟨h1,h2,rfl⟩:=G8 h
 exact ⟨_,x,rfl,.inl ⟨h1,Sq h2 hp hcs hsz hn hv hnm hc hx⟩,k⟩
theorem AQ.ld {C:Cx}(hC:L1 C){L l:List Oper}{o:Oper}{env:Env}{H:I0}{Q:Env→Prop}{d:Option Nat}{cells:List A}{off:Nat}{y:A}(h:Vs C L o env H=some (d,cells,off))(hy:cells[off]?=some y)
  (k:AQ C L l (put env d y) H Q):AQ C L (o::l) env H Q:=by
 unfold Vs at h
 split at h
 ·rename_i t x d' hw ho hd
  split at h
  ·rename_i i p off' ht hx
   cases hag:i.u.agg with
   | true=>rw [hag] at h; cases h
   | false=>
    rw [hag] at h
    simp only [cond_false] at h
    split at h
    ·rename_i cs e hn
     simp only [Option.some.injEq,Prod.mk.injEq] at h
     obtain ⟨rfl,rfl,rfl⟩:=h
     have this:L6 i (ev C.GL env x) H=some y:=by
      rw [hx]
      simp only [L6,hn,Ae,hag,cond_false,O2,List.getElem?_drop,Nat.add_zero]
      exact hy
     exact ⟨_,y,J3 hd,.inl ⟨hw,Uf hC (c:=True) (by simp [opA,ho,ht,this]) trivial⟩,k⟩
    ·cases h
  ·cases h
 ·cases h
end Go.Am

