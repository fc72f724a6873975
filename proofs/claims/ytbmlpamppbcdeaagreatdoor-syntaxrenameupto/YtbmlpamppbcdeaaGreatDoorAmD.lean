/- A part of the proof of SyntaxRename. -/
import Derived.Test.YtbmlpamppbcdeaaGreatDoorAmC
import Derived.Sort.Grow
import Derived.Sort.EncStr
import Derived.Laws.AppendOwn
namespace Go.Am
def C1j (P:Program)(fs:FuncId):Prop:=∀ (blk cap:Nat) (ss:List (List UInt8)) (w:World) (cur:Array Value) (e:TypeId),w.heap[blk]?=some (.cells cur e (0,0))→(∀ (j:Nat) s,ss[j]?=some s→cur[j]?=some (.string ⟨s.toArray⟩))→
 ss.length < 4611686018427387904→Calls P fs #[.slice (some ⟨blk,0,none⟩) ss.length cap] w fun e w'=>e = .returned (.tuple #[])∧w'.os=w.os∧w'.output=w.output∧w'.tape=w.tape∧w.heap.size≤w'.heap.size∧
  (∀ b,b < w.heap.size→b≠blk→w'.heap[b]?=w.heap[b]?)∧∀ (j:Nat) s,(ss.mergeSort fun x y=>decide (x≤y))[j]?=some s→w'.cell? ⟨blk,j,none⟩=some (.string ⟨s.toArray⟩)
def Uh (es:List MapEntry)(seen:Array Nat):List MapEntry:=es.filter fun e=>!seen.contains e.born
section
variable {P:Program}
theorem W12 {w:World}{r:Nat}{o:Obj}(h:w.heap[r]?=some o)(hc:∀ c e f,o≠.cells c e f):(getObj r).run P w = .ok o w:=by
 simp only [getObj,Sem.run,h]
theorem E1t {w:World}{r:Nat}{o o':Obj}(h:w.heap[r]?=some o)(hc:∀ c e f,o≠.cells c e f):(setObj r o').run P w = .ok () { w with heap:=w.heap.setIfInBounds r o' }:=by
 simp only [setObj,Sem.run,h]
theorem F1t {w:World}{r bm since last clock:Nat}{seen:Array Nat}{es:Array MapEntry}(ty:TypeId)(hr:w.heap[r]?=some (.mapIter (some bm) since seen last))(hb:w.heap[bm]?=some (.map es clock))(hold:∀ x∈es.toList,x.born < since)(hsc:since≤last) :
  (Uh es.toList seen=[]∧(Instr.next (.pointer (some ⟨r,0,none⟩)) false ty).run P w = .ok (.tuple #[.bool false]) w)∨
  ∃ e∈Uh es.toList seen,∃ n,(Instr.next (.pointer (some ⟨r,0,none⟩)) false ty).run P w = .ok (.tuple #[.bool true,e.key,e.val]) { w with heap:=w.heap.setIfInBounds r (.mapIter (some bm) since (seen.push e.born) clock),drawn:=w.drawn+n }:=by
 have htest:(!seen.isEmpty && !es.isEmpty&&es.all (fun x=>decide (x.born≥last)))=false:=by
  cases he:es.isEmpty with
  | true=>simp
  | false=>
   have h0:0 < es.size:=by
    rcases Nat.eq_zero_or_pos es.size with h0 | h0
    ·simp [Array.isEmpty,h0] at he
    ·exact h0
   have:es.all (fun x=>decide (x.born≥last))=false:=by
    rw [Bool.eq_false_iff]
    intro h
    rw [Array.all_eq_true_iff_forall_mem] at h
    have h1:=h _ (Array.getElem_mem h0)
    have h2:=hold es[0] (by simp)
    simp at h1
    omega
   simp [this]
 simp only [Instr.next,Sem.run_bind,W12 hr (by simp),W12 hb (by simp),Result.andThen,htest,Bool.false_eq_true,if_false]
 have hmem:∀ x∈(Array.filter (fun e=>!seen.contains e.born) es).toList,x.born < since:=fun x hx=>hold x (by simp at hx ⊢; exact hx.1)
 have hl:Uh es.toList seen=(Array.filter (fun e=>!seen.contains e.born) es).toList:=by simp [Uh]
 rw [hl]
 generalize Array.filter (fun e=>!seen.contains e.born) es=L at hmem ⊢
 have e1:L.filter (fun x=>decide (x.born < since))=L:=Array.filter_eq_self.2 (fun x hx=>by simpa using hmem x (by simpa using hx))
 have e2:L.filter (fun x=>decide (x.born≥since)) = #[]:=by
  rw [Array.filter_eq_empty_iff]
  intro x hx
  have:=hmem x (by simpa using hx)
  simp
  omega
 simp only [e1,e2,Array.append_empty]
 by_cases h0:L.size=0
 ·left
  have:L = #[]:=Array.eq_empty_of_size_eq_zero h0
  subst this
  refine ⟨rfl,?_⟩
  simp [choose,Sem.run,Question.forced]
 ·right
  have hne:L.isEmpty=false:=by simp [Array.isEmpty,h0]
  simp only [hne,Bool.false_eq_true,if_false,Array.empty_append,Array.size_map]
  have hch:∃ (j n:Nat),j < L.size∧(choose (Question.mapNext L.size)).run P w = .ok j { w with drawn:=w.drawn+n }:=by
   by_cases hf:L.size≤1
   ·exact ⟨0,0,by omega,by simp [choose,Sem.run,Question.forced,hf]⟩
   ·exact ⟨_,1,Nat.mod_lt _ (by omega),by
     simp only [choose,Sem.run,Question.forced,decide_eq_true_eq,hf,if_false,Question.cut]
     rfl⟩
  obtain ⟨j,n,hj,hrun⟩:=hch
  refine ⟨L[j],by simp,n,?_⟩
  have hr':({ w with drawn:=w.drawn+n }:World).heap[r]?=some (.mapIter (some bm) since seen last):=hr
  simp only [hrun,Array.getElem?_map,Array.getElem?_eq_getElem hj,Option.map_some,Sem.run_bind,E1t hr' (by simp),Result.andThen]
  rfl
theorem J1r {w:World}{r bm since clock:Nat}{seen:Array Nat}{es:Array MapEntry}{e:MapEntry}(hr:w.heap[r]?=some (.mapIter (some bm) since (seen.push e.born) clock))(hb:w.heap[bm]?=some (.map es clock))(he:e∈es.toList)(hn:∀ x∈es.toList,x.born=e.born→x=e) :
  (Instr.entry (.pointer (some ⟨r,0,none⟩))).run P w = .ok (.tuple #[e.key,e.val]) w:=by
 have hf:es.find? (·.born == e.born)=some e:=by
  cases h:es.find? (·.born == e.born) with
  | none=>
   rw [Array.find?_eq_none] at h
   exact absurd (by simp) (h e (by simpa using he))
  | some y=>
   have h1:=Array.find?_some h
   have h2:=Array.mem_of_find?_eq_some h
   rw [hn y (by simpa using h2) (by simpa using h1)]
 simp only [Instr.entry,Sem.run_bind,W12 hr (by simp),W12 hb (by simp),Result.andThen,Array.back?_push,bne_self_eq_false,Bool.false_eq_true,if_false,hf]
 rfl
theorem E1p {es:List MapEntry}{seen:Array Nat}{e:MapEntry}(he:e∈Uh es seen)(hn:∀ x∈es,x.born=e.born→x=e)(hd:es.Nodup):(Uh es seen).Perm (e::Uh es (seen.push e.born)):=by
 have h1:Uh es (seen.push e.born)=(Uh es seen).filter (fun x=>!(x.born == e.born)):=by
  simp only [Uh,List.filter_filter]
  refine List.filter_congr fun x _=>?_
  rw [Array.contains_push]
  cases seen.contains x.born <;> cases x.born == e.born <;> rfl
 rw [h1]
 have hnd:(Uh es seen).Nodup:=hd.filter _
 have hsub:∀ x∈Uh es seen,x.born=e.born→x=e:=fun x hx=>hn x (List.mem_filter.1 hx).1
 generalize Uh es seen=l at he hnd hsub
 induction l with
 | nil=>cases he
 | cons y l ih=>
  rw [List.nodup_cons] at hnd
  by_cases hy:y=e
  ·subst hy
   rw [List.filter_cons,if_neg (by simp)]
   rw [List.filter_eq_self.2 fun x hx=>by
    cases hb:x.born == y.born with
    | false=>rfl
    | true=>exact absurd (hsub x (List.mem_cons_of_mem _ hx) (by simpa using hb) ▸ hx) hnd.1]
  ·rcases List.mem_cons.1 he with h | h
   ·exact absurd h.symm hy
   ·rw [List.filter_cons,if_pos (by
     cases hb:y.born == e.born with
     | false=>rfl
     | true=>exact absurd (hsub y List.mem_cons_self (by simpa using hb)) hy)]
    exact ((ih h hnd.2 fun x hx=>hsub x (List.mem_cons_of_mem _ hx)).cons y).trans (.swap _ _ _)
theorem Hp {L:Array Oper}{rest:List Oper}{o:Oper}{a:Act}{w w':World}{v:Value}{Q:Exit→Act→World→Prop}(hg:o.guard=none)(h:(execOp a.eval o).run P w = .ok (.value v) w')(k:wpList P L Q rest (a.put o.dst v) w'):wpList P L Q (o::rest) a w:=
 wpList_plain hg fun K hK=>by unfold Oper.wp; rw [h]; exact hK _ _ k
end
def D1j (o:Oper):Option Nat×Op×Option (Nat×Bool):=(o.dst,o.op,o.guard)
def El (e:MapEntry):List UInt8:=match e.key with | .string s=>s.data.toList | _=>[]
def Wi {α:Type}(m:List (List UInt8×α)):List (List UInt8):=(m.map Prod.fst).mergeSort fun x y=>decide (x≤y)
theorem X12 {M:Mem}{w w' w'':World}(h:Ext Z3 M w M w')(h1:w''.os=w'.os)(h2:w''.output=w'.output)(h3:w''.tape=w'.tape)(h4:w'.heap.size≤w''.heap.size)(h5:∀ b,b < w.heap.size→w''.heap[b]?=w'.heap[b]?):Ext Z3 M w M w'':=
 ⟨fun _ _ e=>e,Nat.le_trans h.size h4,h1.trans h.os,h2.trans h.output,h3.trans h.tape,fun b hb hn=>(h5 b hb).trans (h.block b hb hn),fun _ _ e=>.inl e⟩
theorem mergeSort_perm {l l':List (List UInt8)}(h:l.Perm l'):l.mergeSort (fun x y=>decide (x≤y))=l'.mergeSort (fun x y=>decide (x≤y)):=by
 have tot:∀ a b:List UInt8,(decide (a≤b)||decide (b≤a))=true:=fun a b=>by
  rcases List.le_total a b with h | h <;> simp [h]
 have tr:∀ a b c:List UInt8,decide (a≤b)=true→decide (b≤c)=true→decide (a≤c)=true:=fun a b c h1 h2=>by
  simp only [decide_eq_true_eq] at *
  exact List.le_trans h1 h2
 have s1:=List.pairwise_mergeSort tr tot l
 have s2:=List.pairwise_mergeSort tr tot l'
 refine List.Perm.eq_of_pairwise (fun a b _ _ h1 h2=>?_) s1 s2 (((List.mergeSort_perm l _).trans h).trans (List.mergeSort_perm l' _).symm)
 simp only [decide_eq_true_eq] at h1 h2
 exact List.le_antisymm h1 h2
theorem D3 {a:Act}{d t:Nat}{v:Value}(h:t≠d):(a.put (some d) v).tmps.getD t undef=a.tmps.getD t undef:=by
 simp only [Act.put]
 rw [Array.getD_eq_getD_getElem?,Array.getElem?_setIfInBounds_ne (fun e=>h e.symm),← Array.getD_eq_getD_getElem?]
theorem X6 {a:Act}{d:Nat}{v:Value}(h:d < a.tmps.size):(a.put (some d) v).tmps.getD d undef=v:=by simp [Act.put,h]
theorem W1b {a:Act}{d:Nat}{v:Value}:(a.put (some d) v).tmps.size=a.tmps.size:=by simp [Act.put]
theorem O18 {P:Program}{ρ:Operand→Value}{o:Oper}{x:Operand}{w:World}(h:o.op = .assign x):(execOp ρ o).run P w = .ok (.value (ρ x)) w:=by simp only [execOp,h]; rfl
theorem Y1e {P:Program}{ρ:Operand→Value}{o:Oper}{x:Operand}{w:World}(h:o.op = .move x):(execOp ρ o).run P w = .ok (.value (ρ x)) w:=by simp only [execOp,h]; rfl
theorem Z1e {P:Program}{w w':World}{s:Sem Value}{v:Value}(h:s.run P w = .ok v w'):(do pure (Next.value (← s)):Sem Next).run P w = .ok (.value v) w':=by simp [h]
theorem K1r {v:Value}(hv:v.cells = #[v]){arr:Array Value}(h:arr.size=1):Instr.fill (fun i=>some (i * 1,1)) arr [(0,v)]=some #[v]:=by
 obtain ⟨x,rfl⟩:=Array.size_eq_one_iff.1 h
 simp [Instr.fill,hv]
theorem O1l {w:World}{r:Nat}{a:Option Nat}{b d:Nat}{s:Array Nat}(h:w.heap[r]?=some (.mapIter a b s d)):(match w.heap[r]? with | some (.mapIter _ _ s _)=>s | _=>#[])=s:=by rw [h]
structure KT where
 (t20 t5 t21 t22 t23 t24 t25 t26 t6 t27 t28 t29 t30 t31:Nat)
 (ts te tm fs:Nat)
 load:Operand
 t32:Option Nat
def KT.js (k:KT):List Nat:=[k.t20,k.t5,k.t21,k.t22,k.t23,k.t24,k.t25,k.t26,k.t6,k.t27,k.t28,k.t29,k.t30,k.t31]
def KT.all (k:KT):List Nat:=k.js++k.t32.toList
def F1p (k:KT)(env:Env)(x:A):Env:=fun t=>bif Nat.beq t k.t5 then x else bif k.all.contains t then .junk else env t
def KT.ok (k:KT)(N:Nat):Bool:=k.js.all (fun t=>Nat.blt t N)&&(match k.t32 with | some t=>Nat.blt t N && !Nat.beq t k.t5 | none=>true)&&Cy k.js&&(match k.load with | .tmp t=>!k.js.contains t | _=>true)
theorem AEx.keysort {F:Fx}(hC:A3 F.C){env:Env}{H:P0}{Q:Po}{i5 i6 i7 i8 i9 i10 b0 b1:Nat}{rest:Code}{o1 o2 o3 o4 o5 o6 o7 o8 o9 p1 p2 p3 p4 p5 q1 q2:Oper}(k:KT){ats:Array TypeId}
  (hsort:C1j F.C.P k.fs) (hfs:Mv F.C.P k.fs=true)
  (hcore:[o1,o2,o3,o4,o5,o6,o7,o8,o9,p1,p2,p3,p4,p5,q1,q2].map D1j=[(some k.t20,.buildSlice k.ts 0 #[],none),(some k.t5,.assign (.tmp k.t20),none),(some k.t21,.load k.tm k.load,none),(some k.t22,.range k.tm (.tmp k.t21),none),
   (some k.t23,.next (.tmp k.t22) false,none),(some k.t24,.extract (.tmp k.t23) 0,none),(some k.t25,.entry (.tmp k.t22),none),(some k.t26,.extract (.tmp k.t25) 0,none),(some k.t6,.assign (.tmp k.t26),none),
   (some k.t27,.move (.tmp k.t5),none),(some k.t28,.move (.tmp k.t6),none),(some k.t29,.buildSlice k.ts 1 #[(0,.tmp k.t28)],none),(some k.t30,.call { callee:=.builtin .append,args:=#[.tmp k.t27,.tmp k.t29],argTypes:=#[k.ts,k.ts] },none),(some k.t5,.assign (.tmp k.t30),none),
   (some k.t31,.move (.tmp k.t5),none),(k.t32,.call { callee:=.value (.func k.fs),args:=#[.tmp k.t31],argTypes:=ats },none)])
  (hok:k.ok F.N.n=true) {is ie im:TI} (hts:X2 F.C.T k.ts=some is) (hsu:is.u = .sl k.te) (hte:X2 F.C.T k.te=some ie) (heu:ie.u = .str) (hes:ie.size=1) (htm:X2 F.C.T k.tm=some im) {ek ee:Nat} (hmu:im.u = .map ek ee)
  {m:Nat} {ents:List (List UInt8×Row)} (hload:opA F.C.T F.C.GL (.load k.tm k.load) env H=some (True,.mp m)) (hm:nth H m=some (.map (.s ents))) (hroom:ents.length * (ie.bytes+1)≤140737488355328)
  {rows:List Row} (hrows:(Wi ents).map (fun s=>[D.str s])=rows) (hk:AEx F rest (F1p k env (.d (.sl rows))) H Q) :
  AEx F (.seq (.region i5 #[o1,o2] false) (.seq (.seq (.region i6 #[o3,o4] false) (.block b0 (.loop (.seq (.region i7 #[o5,o6] false) (.seq (.cond (.tmp k.t24) .skip (.exit b0)) (.block b1 (.seq (.region i8 #[o7,o8,o9] false) (.region i9 #[p1,p2,p3,p4,p5] false))))))))
   (.seq (.region i10 #[q1,q2] false) rest))) env H Q:=by
 intro fr M G w a hK hs hsi
 simp only [List.map_cons,List.map_nil,D1j,List.cons.injEq,Prod.mk.injEq,and_true] at hcore
 obtain ⟨⟨d1,e1,g1⟩,⟨d2,e2,g2⟩,⟨d3,e3,g3⟩,⟨d4,e4,g4⟩,⟨d5,e5,g5⟩,⟨d6,e6,g6⟩,⟨d7,e7,g7⟩,⟨d8,e8,g8⟩,⟨d9,e9,g9⟩,⟨dp1,ep1,gp1⟩,⟨dp2,ep2,gp2⟩,⟨dp3,ep3,gp3⟩,⟨dp4,ep4,gp4⟩,⟨dp5,ep5,gp5⟩,⟨dq1,eq1,gq1⟩,dq2,eq2,gq2⟩:=hcore
 simp only [KT.ok,Bool.and_eq_true] at hok
 obtain ⟨⟨⟨hlt,hlt32⟩,hnd⟩,hld⟩:=hok
 have hnd:=Kn hnd
 have hlt:∀ t∈k.js,t < F.N.n:=fun t ht=>by have:=List.all_eq_true.1 hlt t ht; simpa [Nat.blt_eq] using this
 have fts:=hC.tok.facts hts
 have fte:=hC.tok.facts hte
 have ftm:=hC.tok.facts htm
 have uts:=Un fts hsu
 have ute:=Tn fte heu
 have utm:=Fu ftm hmu
 have hmo:H[m]?=some (.map (.s ents)):=by rw [← N3]; exact hm
 obtain ⟨bm,ms,clock,hgm,hbm,hmsz,hent,hborn,hMm⟩:=hs.hrel.obj m _ hmo
 have hbmlt:bm < w.heap.size:=(Array.getElem?_eq_some_iff.1 hbm).1
 have hkey:∀ (i:Nat) p e,ents[i]?=some p→ms[i]?=some e→e.key = .string ⟨p.1.toArray⟩∧p.1.length≤maxLen:=by
  intro i p e hp he
  have:=(hent i (.str p.1) p.2 e (by simp [Lv.list,hp]) he).1
  generalize e.key=v at this ⊢
  cases this with | str h=>exact ⟨rfl,h⟩
 have hmsz:ms.size=ents.length:=by rw [hmsz]; simp [Lv.list]
 have hkeys:ms.toList.map El=ents.map Prod.fst:=by
  apply List.ext_getElem?
  intro i
  rw [List.getElem?_map,List.getElem?_map]
  by_cases hi:i < ents.length
  ·have h1:ents[i]?=some ents[i]:=List.getElem?_eq_getElem hi
   have h2:ms[i]?=some (ms[i]'(by omega)):=Array.getElem?_eq_getElem (by omega)
   rw [h1,Array.getElem?_toList,h2]
   simp only [Option.map_some,El,(hkey i _ _ h1 h2).1]
  ·rw [List.getElem?_eq_none (by simp; omega),List.getElem?_eq_none (by omega)]; rfl
 have hat:∀ x∈ms.toList,∃ i:Nat,ms[i]?=some x:=fun x hx=>by
  obtain ⟨i,hi⟩:=List.getElem?_of_mem hx
  exact ⟨i,by rw [← Array.getElem?_toList]; exact hi⟩
 have hkv:∀ e∈ms.toList,e.key = .string ⟨(El e).toArray⟩∧(El e).length≤maxLen:=by
  intro e he
  obtain ⟨i,hi⟩:=hat e he
  have hil:=(Array.getElem?_eq_some_iff.1 hi).1
  obtain ⟨h1,h2⟩:=hkey i _ e (List.getElem?_eq_getElem (by omega:i < ents.length)) hi
  refine ⟨?_,?_⟩ <;> simp only [El,h1]
  exact h2
 have hborn1:∀ x∈ms.toList,x.born < clock:=fun x hx=>by obtain ⟨i,hi⟩:=hat x hx; exact hborn.1 i x hi
 have hborn2:∀ x∈ms.toList,∀ y∈ms.toList,x.born=y.born→x=y:=fun x hx y hy e=>by
  obtain ⟨i,hi⟩:=hat x hx
  obtain ⟨j,hj⟩:=hat y hy
  have:=hborn.2 i j x y hi hj e
  subst this
  rw [hi] at hj
  exact Option.some.inj hj
 have hmsnd:ms.toList.Nodup:=by
  refine List.pairwise_iff_getElem.2 fun i j hi hj hij e=>?_
  have h1:ms[i]?=some (ms[i]'(by simpa using hi)):=Array.getElem?_eq_getElem (by simpa using hi)
  have h2:ms[j]?=some (ms[j]'(by simpa using hj)):=Array.getElem?_eq_getElem (by simpa using hj)
  have:=hborn.2 i j _ _ h1 h2 (by simp only [Array.getElem_toList] at e; rw [e])
  omega
 let B:Act→World→Prop:=fun a' w'=>a'.tmps.size=F.N.n∧a'.defers=F.N.d∧(∀ t,t ∉ k.js→a'.tmps.getD t undef=a.tmps.getD t undef)∧Ext Z3 M w M w'
 have Bput:∀ {a':Act} {w':World} {d:Nat} (v:Value),d∈k.js→B a' w'→B (a'.put (some d) v) w':=fun {a' w' d} v hd ⟨h1,h2,h3,h4⟩=>by
  refine ⟨W1b.trans h1,h2,fun t ht=>?_,h4⟩
  rw [D3 (fun e=>ht (by rw [e]; exact hd))]
  exact h3 t ht
 have Bext:∀ {a':Act} {w' w'':World},B a' w'→Ext Z3 M w M w''→B a' w'':=fun ⟨h1,h2,h3,_⟩ h=>⟨h1,h2,h3,h⟩
 have B0:B a w:=⟨hs.size,hs.defers,fun _ _=>rfl,Ext.refl _ _ _⟩
 have hin:∀ {t:Nat} {a':Act} {w':World},t∈k.js→B a' w'→t < a'.tmps.size:=by intro t a' w' ht h; rw [h.1]; exact hlt _ ht
 obtain ⟨infE,hie,hsz,hby,z,hz,hzl,_,_⟩:=fte.info
 have hpos:=fte.pos
 have hzs:z.cells.size=ie.size:=by have:=fte.len; simp only [Array.length_toList] at hzl; omega
 have hzrun:∀ w,(zeroValue k.te).run F.C.P w = .ok z w:=fun w=>by simp [zeroValue,typeInfo,hie,hz]
 refine wp_seq (wp_region_lit (l:=[o1,o2]) ?_)
 have r1:(execOp a.eval o1).run F.C.P w = .ok (.value (.slice (some ⟨w.heap.size,0,none⟩) 0 0)) (w.alloc (.cells #[] k.te)):=by
  simp only [execOp,e1]
  refine Z1e ?_
  simp only [Instr.buildSlice,Sem.run_bind,run_underlying uts,Result.andThen_ok,Ah fte w]
  simp [Instr.fill,newRow]
  exact congrArg (fun c=>w.alloc (.cells c k.te)) (Array.eq_empty_of_size_eq_zero (by simp))
 have r3:∀ (w':World) (ρ:Operand→Value) s,ρ (.tmp k.t28) = .string s→(execOp ρ p3).run F.C.P w' = .ok (.value (.slice (some ⟨w'.heap.size,0,none⟩) 1 1)) (w'.alloc (.cells #[.string s] k.te)):=by
  intro w' ρ s hρ
  simp only [execOp,ep3]
  refine Z1e ?_
  have hf:=K1r (v:=.string s) rfl (arr:=(Array.range (1 * 1)).map (z.cells[· % z.cells.size]!)) (by simp)
  simp only [Instr.buildSlice,Sem.run_bind,run_underlying uts,Result.andThen_ok,Ah fte w',hes]
  rw [if_neg (by decide),if_neg (by decide)]
  simp only [Sem.run_bind,hzrun,Result.andThen_ok,Sem.run_pure,List.map_toArray,List.map_cons,List.map_nil,hρ]
  rw [hf]
  simp [newRow]
 refine Hp g1 r1 ?_
 refine Hp g2 (O18 e2) ?_
 refine wpList_nil ?_
 rw [d1,d2]
 have m20:k.t20∈k.js:=by simp [KT.js]
 have m5:k.t5∈k.js:=by simp [KT.js]
 have m21:k.t21∈k.js:=by simp [KT.js]
 have m22:k.t22∈k.js:=by simp [KT.js]
 have m23:k.t23∈k.js:=by simp [KT.js]
 have m24:k.t24∈k.js:=by simp [KT.js]
 have m25:k.t25∈k.js:=by simp [KT.js]
 have m26:k.t26∈k.js:=by simp [KT.js]
 have m6:k.t6∈k.js:=by simp [KT.js]
 have m27:k.t27∈k.js:=by simp [KT.js]
 have m28:k.t28∈k.js:=by simp [KT.js]
 have m29:k.t29∈k.js:=by simp [KT.js]
 have m30:k.t30∈k.js:=by simp [KT.js]
 have m31:k.t31∈k.js:=by simp [KT.js]
 simp only [KT.js,List.nodup_cons,List.mem_cons,List.not_mem_nil,or_false,not_or] at hnd
 obtain ⟨n20,n5,n21,n22,n23,n24,n25,n26,n6,n27,n28,n29,n30,-⟩:=hnd
 have E1:Ext Z3 M w M (w.alloc (.cells #[] k.te)):=Dk _ _ _ _
 have O1:(w.alloc (.cells #[] k.te)).ownsRow w.heap.size k.te 1 (.slice (some ⟨w.heap.size,0,none⟩) 0 0) 0 []:=World.ownsRow_made w #[] 0 (Nat.le_refl _) (Nat.zero_le _) rfl
 have B2:=Bext (Bput ((a.put (some k.t20) (.slice (some ⟨w.heap.size,0,none⟩) 0 0)).eval (.tmp k.t20)) m5 (Bput (.slice (some ⟨w.heap.size,0,none⟩) 0 0) m20 B0)) E1
 have V2:((a.put (some k.t20) (.slice (some ⟨w.heap.size,0,none⟩) 0 0)).put (some k.t5) ((a.put (some k.t20) (.slice (some ⟨w.heap.size,0,none⟩) 0 0)).eval (.tmp k.t20))).tmps.getD k.t5 undef = .slice (some ⟨w.heap.size,0,none⟩) 0 0:=by
  rw [X6 (by rw [W1b]; exact hin m5 B0)]
  exact X6 (hin m20 B0)
 generalize (a.put (some k.t20) (.slice (some ⟨w.heap.size,0,none⟩) 0 0)).put (some k.t5) ((a.put (some k.t20) (.slice (some ⟨w.heap.size,0,none⟩) 0 0)).eval (.tmp k.t20))=a2 at B2 V2 ⊢
 have hw1:w.heap.size < (w.alloc (.cells #[] k.te)).heap.size:=by simp
 generalize w.alloc (.cells #[] k.te)=w1 at B2 O1 E1 hw1 ⊢
 have hbm1:w1.heap[bm]?=some (.map ms clock):=by rw [E1.block bm hbmlt (fun h=>h)]; exact hbm
 refine wp_seq (wp_seq (wp_region_lit (l:=[o3,o4]) ?_))
 have hevl:∀ {a' w'},B a' w'→a'.eval k.load=a.eval k.load:=by
  intro a' w' hB
  cases hkl:k.load with
  | tmp t=>
   rw [hkl] at hld
   exact hB.2.2.1 t (by simpa using hld)
  | _=>rfl
 have rload:(execOp a2.eval o3).run F.C.P w1 = .ok (.value (.map (some bm))) w1:=by
  obtain ⟨v,h1,h2⟩:=E1o (P:=F.C.P) (w:=w1) (M:=M) (G:=G) hC.tok (hs.good.ext E1 (fun _ _ _ h=>h)) (hs.hrel.ext E1 (fun _ _ h=>h)) o3 (ρ:=a2.eval) (GL:=F.C.GL) (env:=env) (fun y hy=>by
   rw [e3] at hy
   simp only [Op.operands,List.mem_toArray,List.mem_singleton] at hy
   subst hy
   rw [hevl B2]
   exact hs.eval _) (by rw [e3]; exact hload) trivial
  cases h2 with
  | mp h=>rw [hgm] at h; cases h; exact h1
 refine Hp g3 rload ?_
 rw [d3]
 have B3:=Bput (.map (some bm)) m21 B2
 have V3:(a2.put (some k.t21) (.map (some bm))).tmps.getD k.t21 undef = .map (some bm):=X6 (hin m21 B2)
 have V3':(a2.put (some k.t21) (.map (some bm))).tmps.getD k.t5 undef = .slice (some ⟨w.heap.size,0,none⟩) 0 0:=by rw [D3 n5.1]; exact V2
 generalize a2.put (some k.t21) (.map (some bm))=a3 at B3 V3 V3' ⊢
 have rrange:(execOp a3.eval o4).run F.C.P w1 = .ok (.value (.pointer (some ⟨w1.heap.size,0,none⟩))) (w1.alloc (.mapIter (some bm) clock #[] clock)):=by
  simp only [execOp,e4]
  refine Z1e ?_
  rw [show a3.eval (.tmp k.t21) = .map (some bm) from V3]
  simp [Instr.range,run_underlying utm,W12 hbm1]
 refine Hp g4 rrange ?_
 refine wpList_nil ?_
 rw [d4]
 have E4:Ext Z3 M w M (w1.alloc (.mapIter (some bm) clock #[] clock)):=X12 E1 rfl rfl rfl (by simp) fun b hb=>Zx (Nat.lt_trans hb hw1)
 have B4:=Bext (Bput (.pointer (some ⟨w1.heap.size,0,none⟩)) m22 B3) E4
 have V4:(a3.put (some k.t22) (.pointer (some ⟨w1.heap.size,0,none⟩))).tmps.getD k.t22 undef = .pointer (some ⟨w1.heap.size,0,none⟩):=X6 (hin m22 B3)
 have V4':(a3.put (some k.t22) (.pointer (some ⟨w1.heap.size,0,none⟩))).tmps.getD k.t5 undef = .slice (some ⟨w.heap.size,0,none⟩) 0 0:=by rw [D3 n5.2.1]; exact V3'
 have O4:=O1.alloc (.mapIter (some bm) clock #[] clock)
 have hr4:(w1.alloc (.mapIter (some bm) clock #[] clock)).heap[w1.heap.size]?=some (.mapIter (some bm) clock #[] clock):=heap_alloc_new w1 _
 have hrr:w.heap.size < w1.heap.size:=hw1
 generalize a3.put (some k.t22) (.pointer (some ⟨w1.heap.size,0,none⟩))=a4 at B4 V4 V4' ⊢
 generalize w1.alloc (.mapIter (some bm) clock #[] clock)=w4 at B4 O4 E4 hr4 ⊢
 generalize w1.heap.size=r at hr4 V4 hrr
 let I:Act→World→Prop:=fun a' w'=>∃ (seen:Array Nat) (last:Nat) (ks:List (List UInt8)) (sv:Value),B a' w'∧a'.tmps.getD k.t22 undef = .pointer (some ⟨r,0,none⟩)∧a'.tmps.getD k.t5 undef=sv∧
  w'.heap[r]?=some (.mapIter (some bm) clock seen last)∧clock≤last∧w'.ownsRow w.heap.size k.te 1 sv ks.length (ks.map fun s=>Value.string ⟨s.toArray⟩)∧sv≠.slice none 0 0∧sv.ownBlock≠some r∧
  (ks++(Uh ms.toList seen).map El).Perm (ents.map Prod.fst)
 let μ:Act→World→Nat:=fun _ w'=>(Uh ms.toList (match w'.heap[r]? with | some (.mapIter _ _ s _)=>s | _=>#[])).length
 refine wp_block (wp_loop I μ ⟨#[],clock,[],_,B4,V4,V4',hr4,Nat.le_refl _,O4,by simp,by simp [Value.ownBlock]; omega,?_⟩ fun a' w' hI=>?_)
 ·simp only [List.nil_append]
  rw [← hkeys,show Uh ms.toList #[]=ms.toList from List.filter_eq_self.2 fun _ _=>by simp]
 obtain ⟨seen,last,ks,sv,hB,h22,h5,hri,hlast,hown,hsv,hob,hperm⟩:=hI
 have hμ:μ a' w'=(Uh ms.toList seen).length:=by show (Uh ms.toList _).length=_; rw [O1l hri]
 have hbm':w'.heap[bm]?=some (.map ms clock):=by rw [hB.2.2.2.block bm hbmlt (fun h=>h)]; exact hbm
 have hrlt:r < w'.heap.size:=(Array.getElem?_eq_some_iff.1 hri).1
 refine wp_seq (wp_region_lit (l:=[o5,o6]) ?_)
 rcases F1t (P:=F.C.P) o5.type hri hbm' hborn1 hlast with ⟨hl,hrun⟩ | ⟨e,he,n,hrun⟩
 ·
  have r5:(execOp a'.eval o5).run F.C.P w' = .ok (.value (.tuple #[.bool false])) w':=by
   simp only [execOp,e5]
   rw [show a'.eval (.tmp k.t22) = .pointer (some ⟨r,0,none⟩) from h22]
   exact Z1e hrun
  refine Hp g5 r5 ?_
  rw [d5]
  have Ba:=Bput (.tuple #[.bool false]) m23 hB
  have Va:(a'.put (some k.t23) (.tuple #[.bool false])).tmps.getD k.t23 undef = .tuple #[.bool false]:=X6 (hin m23 hB)
  have Va5:(a'.put (some k.t23) (.tuple #[.bool false])).tmps.getD k.t5 undef=sv:=by rw [D3 n5.2.2.1]; exact h5
  generalize a'.put (some k.t23) (.tuple #[.bool false])=a5 at Ba Va Va5 ⊢
  have r6:(execOp a5.eval o6).run F.C.P w' = .ok (.value (.bool false)) w':=by
   simp only [execOp,e6]
   rw [show a5.eval (.tmp k.t23) = .tuple #[.bool false] from Va]
   rfl
  refine Hp g6 r6 ?_
  rw [d6]
  have Bb:=Bput (.bool false) m24 Ba
  have Vb:(a5.put (some k.t24) (.bool false)).tmps.getD k.t24 undef = .bool false:=X6 (hin m24 Ba)
  have Vb5:(a5.put (some k.t24) (.bool false)).tmps.getD k.t5 undef=sv:=by rw [D3 n5.2.2.2.1]; exact Va5
  generalize a5.put (some k.t24) (.bool false)=a6 at Bb Vb Vb5 ⊢
  refine wpList_nil ?_
  refine wp_seq (wp_cond_false Vb (wp_exit ?_))
  show (if b0=b0 then _ else _)
  rw [if_pos rfl]
  refine wp_seq (wp_region_lit (l:=[q1,q2]) ?_)
  refine Hp gq1 (Y1e eq1) ?_
  rw [dq1,show a6.eval (.tmp k.t5)=sv from Vb5]
  have Bc:=Bput sv m31 Bb
  have Vc:(a6.put (some k.t31) sv).tmps.getD k.t31 undef=sv:=X6 (hin m31 Bb)
  have Vc5:(a6.put (some k.t31) sv).tmps.getD k.t5 undef=sv:=by rw [D3 n5.2.2.2.2.2.2.2.2.2.2.2]; exact Vb5
  generalize a6.put (some k.t31) sv=a7 at Bc Vc Vc5 ⊢
  rw [hl] at hperm
  simp only [List.map_nil,List.append_nil] at hperm
  have hlen:ks.length=ents.length:=by have:=hperm.length_eq; simpa using this
  have rq:(execOp a7.eval q2).run F.C.P w' = .ok (.enter k.fs #[sv]) w':=by
   have:=D1i (caps:=#[]) eq2 (ρ:=a7.eval) rfl hfs w'
   rw [this]
   simp only [List.map_toArray,List.map_cons,List.map_nil,Array.append_empty,show a7.eval (.tmp k.t31)=sv from Vc]
  rcases hown.2 with ⟨hv,_⟩ | ⟨g,cap,cur,rfl,hbg,hgg,hn,hcap,hcs,htake⟩
  ·exact absurd hv hsv
  refine wpList_plain gq2 fun K hKK=>?_
  unfold Oper.wp
  rw [rq]
  have hbig:ks.length < 4611686018427387904:=by
   have:ents.length * 1≤ents.length * (ie.bytes+1):=Nat.mul_le_mul_left _ (by omega)
   omega
  refine (hsort g cap ks w' cur k.te hgg (fun j s hj=>?_) hbig).mono ?_
  ·have hjl:=(List.getElem?_eq_some_iff.1 hj).1
   have:(cur.toList.take (ks.length * 1))[j]?=some (.string ⟨s.toArray⟩):=by rw [htake,List.getElem?_map,hj]; rfl
   rw [List.getElem?_take,if_pos (by omega),Array.getElem?_toList] at this
   exact this
  rintro e w2 ⟨rfl,hos,hout,htape,hsize,hblk,hcells⟩
  refine hKK _ _ (wpList_nil ?_)
  rw [dq2]
  rw [mergeSort_perm hperm] at hcells
  change ∀ (j:Nat) s,(Wi ents)[j]?=some s→_ at hcells
  have hskl:(Wi ents).length=ks.length:=by simp [Wi,hlen]
  have E0:Ext Z3 M w M w2:=X12 Bc.2.2.2 hos hout htape hsize fun b hb=>hblk b (Nat.lt_of_lt_of_le hb Bc.2.2.2.size) (by omega)
  let M2:Mem:=fun ad=>if ad.block=g then (if ad.spot=none then ((Wi ents)[ad.off]?).map fun s=>Value.string ⟨s.toArray⟩ else none) else M ad
  have hMg:∀ ad v,M ad=some v→ad.block≠g:=fun ad v hv e=>by have:=hs.good.lt hv; omega
  have hmono:∀ ad v,M ad=some v→M2 ad=some v:=fun ad v hv=>by simp only [M2]; rw [if_neg (hMg ad v hv)]; exact hv
  have EM:Ext Z3 M w M2 w2:=⟨hmono,E0.size,E0.os,E0.output,E0.tape,E0.block,fun ad v hv=>by
   simp only [M2] at hv
   by_cases hg:ad.block=g
   ·exact .inr (.inr (by omega))
   ·rw [if_neg hg] at hv; exact .inl hv⟩
  have hgood:Good M2 w2:=fun ad v hv=>by
   simp only [M2] at hv
   by_cases hg:ad.block=g
   ·rw [if_pos hg] at hv
    by_cases hsp:ad.spot=none
    ·rw [if_pos hsp] at hv
     obtain ⟨s,hs1,rfl⟩:=Option.map_eq_some_iff.1 hv
     left
     refine ⟨hsp,?_⟩
     have:=hcells _ s hs1
     rw [← hg,← hsp] at this
     exact this
    ·rw [if_neg hsp] at hv; cases hv
   ·rw [if_neg hg] at hv
    exact (hs.good.ext E0 (fun _ _ _ h=>h)) ad v hv
  have hsl:∀ (i:Nat) s,(Wi ents)[i]?=some s→s.length≤maxLen:=fun i s hi=>by
   have h1:s∈ents.map Prod.fst:=by
    have:=List.mem_of_getElem? hi
    simp only [Wi,List.mem_mergeSort] at this
    exact this
   rw [← hkeys] at h1
   obtain ⟨e,he,rfl⟩:=List.mem_map.1 h1
   exact (hkv e he).2
  have hrow:∀ (i j:Nat) r x,rows[i]?=some r→r[j]?=some x→j=0∧∃ s,(Wi ents)[i]?=some s∧x = .str s:=fun i j r x hr hx=>by
   rw [← hrows,List.getElem?_map] at hr
   obtain ⟨s,hs1,rfl⟩:=Option.map_eq_some_iff.1 hr
   cases j with
   | zero=>simp at hx; exact ⟨rfl,s,hs1,hx.symm⟩
   | succ j=>simp at hx
  have hrel:H3 M2 (.sl rows) (.slice (some ⟨g,0,none⟩) ks.length cap):=by
   refine .sl 1 (fun i _=>match (Wi ents)[i]? with | some s=>.string ⟨s.toArray⟩ | none=>undef) (by rw [← hrows]; simp [hskl]) hn hcap (.inr rfl) (fun i r hr=>?_) (fun i j r x hr hx=>?_) (fun i j r x hr hx=>?_)
   ·rw [← hrows,List.getElem?_map] at hr
    obtain ⟨s,_,rfl⟩:=Option.map_eq_some_iff.1 hr
    rfl
   ·obtain ⟨rfl,s,hs1,rfl⟩:=hrow i j r x hr hx
    rw [Kd]
    simp [M2,hs1]
   ·obtain ⟨rfl,s,hs1,rfl⟩:=hrow i j r x hr hx
    simp only [hs1]
    exact .str (hsl i s hs1)
  have hnot32:∀ t,k.t32=some t→t < F.N.n∧t≠k.t5:=fun t ht=>by
   rw [ht] at hlt32
   simp only [Bool.and_eq_true,Bool.not_eq_true'] at hlt32
   refine ⟨Nat.le_of_ble_eq_true hlt32.1,fun e=>?_⟩
   rw [e] at hlt32
   simp at hlt32
  have hput:∀ t,k.t32≠some t→(a7.put k.t32 (.tuple #[])).tmps.getD t undef=a7.tmps.getD t undef:=fun t ht=>by
   cases h32:k.t32 with
   | none=>rfl
   | some d=>exact D3 fun e=>ht (by rw [h32,e])
  refine hk fr M2 G w2 (a7.put k.t32 (.tuple #[])) hK ⟨hgood,hs.gl.ext hs.hrel EM (fun _ h=>h.elim),hs.hrel.ext EM (fun _ _ h=>h),fun t=>?_,?_,?_⟩ (hsi.quiet EM)
  ·simp only [F1p]
   cases hb:Nat.beq t k.t5 with
   | true=>
    have:=Nat.eq_of_beq_eq_true hb
    subst this
    simp only [_root_.cond_true]
    rw [hput _ (fun e=>(hnot32 _ e).2 rfl),Vc5]
    exact .d hrel
   | false=>
    simp only [_root_.cond_false]
    cases hc:k.all.contains t with
    | true=>exact .junk
    | false=>
     simp only [_root_.cond_false]
     have hmem:t ∉ k.all:=by simpa using hc
     have h1:t ∉ k.js:=fun h=>hmem (List.mem_append_left _ h)
     have h2:k.t32≠some t:=fun h=>hmem (List.mem_append_right _ (by rw [h]; simp))
     rw [hput t h2,Bc.2.2.1 t h1]
     exact (hs.env t).mono' hmono
  ·cases h32:k.t32 with
   | none=>exact Bc.1
   | some d=>exact W1b.trans Bc.1
  ·cases h32:k.t32 with
   | none=>exact Bc.2.1
   | some d=>exact Bc.2.1
 ·
  have hmem:e∈ms.toList:=(List.mem_filter.1 he).1
  obtain ⟨hek,hel⟩:=hkv e hmem
  have r5:(execOp a'.eval o5).run F.C.P w' = .ok (.value (.tuple #[.bool true,e.key,e.val])) { w' with heap:=w'.heap.setIfInBounds r (.mapIter (some bm) clock (seen.push e.born) clock),drawn:=w'.drawn+n }:=by
   simp only [execOp,e5]
   rw [show a'.eval (.tmp k.t22) = .pointer (some ⟨r,0,none⟩) from h22]
   exact Z1e hrun
  refine Hp g5 r5 ?_
  rw [d5]
  have hri5:({ w' with heap:=w'.heap.setIfInBounds r (.mapIter (some bm) clock (seen.push e.born) clock),drawn:=w'.drawn+n }:World).heap[r]?=some (.mapIter (some bm) clock (seen.push e.born) clock):=by simp [hrlt]
  have hblk5:∀ b,b≠r→({ w' with heap:=w'.heap.setIfInBounds r (.mapIter (some bm) clock (seen.push e.born) clock),drawn:=w'.drawn+n }:World).heap[b]?=w'.heap[b]?:=fun b hb=>by
   show (w'.heap.setIfInBounds r _)[b]?=_
   rw [Array.getElem?_setIfInBounds_ne (fun h=>hb h.symm)]
  have hsz5:({ w' with heap:=w'.heap.setIfInBounds r (.mapIter (some bm) clock (seen.push e.born) clock),drawn:=w'.drawn+n }:World).heap.size=w'.heap.size:=by simp
  have E5:Ext Z3 M w M { w' with heap:=w'.heap.setIfInBounds r (.mapIter (some bm) clock (seen.push e.born) clock),drawn:=w'.drawn+n }:=X12 hB.2.2.2 rfl rfl rfl (by rw [hsz5]; exact Nat.le_refl _) fun b hb=>hblk5 b (by omega)
  have G5:w'.grownBy { w' with heap:=w'.heap.setIfInBounds r (.mapIter (some bm) clock (seen.push e.born) clock),drawn:=w'.drawn+n } (some r):=⟨rfl,rfl,rfl,by rw [hsz5]; exact Nat.le_refl _,fun b _ hb=>hblk5 b (fun h=>hb (by rw [h]))⟩
  have O5:=hown.kept G5 (.inr hob)
  have Ba:=Bext (Bput (.tuple #[.bool true,e.key,e.val]) m23 hB) E5
  have Va:(a'.put (some k.t23) (.tuple #[.bool true,e.key,e.val])).tmps.getD k.t23 undef = .tuple #[.bool true,e.key,e.val]:=X6 (hin m23 hB)
  have Va5:(a'.put (some k.t23) (.tuple #[.bool true,e.key,e.val])).tmps.getD k.t5 undef=sv:=by rw [D3 n5.2.2.1]; exact h5
  have Va2:(a'.put (some k.t23) (.tuple #[.bool true,e.key,e.val])).tmps.getD k.t22 undef = .pointer (some ⟨r,0,none⟩):=by rw [D3 n22.1]; exact h22
  have hbm5:({ w' with heap:=w'.heap.setIfInBounds r (.mapIter (some bm) clock (seen.push e.born) clock),drawn:=w'.drawn+n }:World).heap[bm]?=some (.map ms clock):=by rw [hblk5 bm (by omega)]; exact hbm'
  generalize a'.put (some k.t23) (.tuple #[.bool true,e.key,e.val])=a5 at Ba Va Va5 Va2 ⊢
  generalize ({ w' with heap:=w'.heap.setIfInBounds r (.mapIter (some bm) clock (seen.push e.born) clock),drawn:=w'.drawn+n }:World)=w5 at Ba O5 hri5 hbm5 hsz5 E5 ⊢
  have r6:(execOp a5.eval o6).run F.C.P w5 = .ok (.value (.bool true)) w5:=by
   simp only [execOp,e6]
   rw [show a5.eval (.tmp k.t23) = .tuple #[.bool true,e.key,e.val] from Va]
   rfl
  refine Hp g6 r6 ?_
  rw [d6]
  have Bb:=Bput (.bool true) m24 Ba
  have Vb:(a5.put (some k.t24) (.bool true)).tmps.getD k.t24 undef = .bool true:=X6 (hin m24 Ba)
  have Vb5:(a5.put (some k.t24) (.bool true)).tmps.getD k.t5 undef=sv:=by rw [D3 n5.2.2.2.1]; exact Va5
  have Vb2:(a5.put (some k.t24) (.bool true)).tmps.getD k.t22 undef = .pointer (some ⟨r,0,none⟩):=by rw [D3 n22.2.1]; exact Va2
  generalize a5.put (some k.t24) (.bool true)=a6 at Bb Vb Vb5 Vb2 ⊢
  refine wpList_nil ?_
  refine wp_seq (wp_cond_true Vb (wp_skip ?_))
  refine wp_block (wp_seq (wp_region_lit (l:=[o7,o8,o9]) ?_))
  have r7:(execOp a6.eval o7).run F.C.P w5 = .ok (.value (.tuple #[e.key,e.val])) w5:=by
   simp only [execOp,e7]
   rw [show a6.eval (.tmp k.t22) = .pointer (some ⟨r,0,none⟩) from Vb2]
   exact Z1e (J1r hri5 hbm5 hmem fun x hx=>hborn2 x hx e hmem)
  refine Hp g7 r7 ?_
  rw [d7]
  have Bc:=Bput (.tuple #[e.key,e.val]) m25 Bb
  have Vc:(a6.put (some k.t25) (.tuple #[e.key,e.val])).tmps.getD k.t25 undef = .tuple #[e.key,e.val]:=X6 (hin m25 Bb)
  have Vc5:(a6.put (some k.t25) (.tuple #[e.key,e.val])).tmps.getD k.t5 undef=sv:=by rw [D3 n5.2.2.2.2.1]; exact Vb5
  have Vc2:(a6.put (some k.t25) (.tuple #[e.key,e.val])).tmps.getD k.t22 undef = .pointer (some ⟨r,0,none⟩):=by rw [D3 n22.2.2.1]; exact Vb2
  generalize a6.put (some k.t25) (.tuple #[e.key,e.val])=a7 at Bc Vc Vc5 Vc2 ⊢
  have r8:(execOp a7.eval o8).run F.C.P w5 = .ok (.value e.key) w5:=by
   simp only [execOp,e8]
   rw [show a7.eval (.tmp k.t25) = .tuple #[e.key,e.val] from Vc]
   rfl
  refine Hp g8 r8 ?_
  rw [d8]
  have Bd:=Bput e.key m26 Bc
  have Vd:(a7.put (some k.t26) e.key).tmps.getD k.t26 undef=e.key:=X6 (hin m26 Bc)
  have Vd5:(a7.put (some k.t26) e.key).tmps.getD k.t5 undef=sv:=by rw [D3 n5.2.2.2.2.2.1]; exact Vc5
  have Vd2:(a7.put (some k.t26) e.key).tmps.getD k.t22 undef = .pointer (some ⟨r,0,none⟩):=by rw [D3 n22.2.2.2.1]; exact Vc2
  generalize a7.put (some k.t26) e.key=a8 at Bd Vd Vd5 Vd2 ⊢
  refine Hp g9 (O18 e9) ?_
  rw [d9,show a8.eval (.tmp k.t26)=e.key from Vd]
  have Be:=Bput e.key m6 Bd
  have Ve:(a8.put (some k.t6) e.key).tmps.getD k.t6 undef=e.key:=X6 (hin m6 Bd)
  have Ve5:(a8.put (some k.t6) e.key).tmps.getD k.t5 undef=sv:=by rw [D3 n5.2.2.2.2.2.2.1]; exact Vd5
  have Ve2:(a8.put (some k.t6) e.key).tmps.getD k.t22 undef = .pointer (some ⟨r,0,none⟩):=by rw [D3 n22.2.2.2.2.1]; exact Vd2
  generalize a8.put (some k.t6) e.key=a9 at Be Ve Ve5 Ve2 ⊢
  refine wpList_nil ?_
  refine wp_region_lit (l:=[p1,p2,p3,p4,p5]) ?_
  refine Hp gp1 (Y1e ep1) ?_
  rw [dp1,show a9.eval (.tmp k.t5)=sv from Ve5]
  have Bf:=Bput sv m27 Be
  have Vf:(a9.put (some k.t27) sv).tmps.getD k.t27 undef=sv:=X6 (hin m27 Be)
  have Vf6:(a9.put (some k.t27) sv).tmps.getD k.t6 undef=e.key:=by rw [D3 n6.1]; exact Ve
  have Vf2:(a9.put (some k.t27) sv).tmps.getD k.t22 undef = .pointer (some ⟨r,0,none⟩):=by rw [D3 n22.2.2.2.2.2.1]; exact Ve2
  generalize a9.put (some k.t27) sv=b1' at Bf Vf Vf6 Vf2 ⊢
  refine Hp gp2 (Y1e ep2) ?_
  rw [dp2,show b1'.eval (.tmp k.t6)=e.key from Vf6]
  have Bg:=Bput e.key m28 Bf
  have Vg:(b1'.put (some k.t28) e.key).tmps.getD k.t28 undef=e.key:=X6 (hin m28 Bf)
  have Vg7:(b1'.put (some k.t28) e.key).tmps.getD k.t27 undef=sv:=by rw [D3 n27.1]; exact Vf
  have Vg2:(b1'.put (some k.t28) e.key).tmps.getD k.t22 undef = .pointer (some ⟨r,0,none⟩):=by rw [D3 n22.2.2.2.2.2.2.1]; exact Vf2
  generalize b1'.put (some k.t28) e.key=b2 at Bg Vg Vg7 Vg2 ⊢
  refine Hp gp3 (r3 w5 b2.eval ⟨(El e).toArray⟩ (by show b2.tmps.getD k.t28 undef=_; rw [Vg,hek])) ?_
  rw [dp3]
  have E6:Ext Z3 M w M (w5.alloc (.cells #[.string ⟨(El e).toArray⟩] k.te)):=X12 E5 rfl rfl rfl (by simp) fun b hb=>Zx (Nat.lt_of_lt_of_le hb E5.size)
  have Bh:=Bext (Bput (.slice (some ⟨w5.heap.size,0,none⟩) 1 1) m29 Bg) E6
  have Vh:(b2.put (some k.t29) (.slice (some ⟨w5.heap.size,0,none⟩) 1 1)).tmps.getD k.t29 undef = .slice (some ⟨w5.heap.size,0,none⟩) 1 1:=X6 (hin m29 Bg)
  have Vh7:(b2.put (some k.t29) (.slice (some ⟨w5.heap.size,0,none⟩) 1 1)).tmps.getD k.t27 undef=sv:=by rw [D3 n27.2.1]; exact Vg7
  have Vh2:(b2.put (some k.t29) (.slice (some ⟨w5.heap.size,0,none⟩) 1 1)).tmps.getD k.t22 undef = .pointer (some ⟨r,0,none⟩):=by rw [D3 n22.2.2.2.2.2.2.2.1]; exact Vg2
  have O6:=O5.alloc (.cells #[.string ⟨(El e).toArray⟩] k.te)
  have hri6:(w5.alloc (.cells #[.string ⟨(El e).toArray⟩] k.te)).heap[r]?=some (.mapIter (some bm) clock (seen.push e.born) clock):=by rw [Zx (Array.getElem?_eq_some_iff.1 hri5).1]; exact hri5
  have hnew:(w5.alloc (.cells #[.string ⟨(El e).toArray⟩] k.te)).cell? ⟨w5.heap.size,0,none⟩=some (.string ⟨(El e).toArray⟩):=by
   rw [Sn (heap_alloc_new w5 _)]
   rfl
  generalize b2.put (some k.t29) (.slice (some ⟨w5.heap.size,0,none⟩) 1 1)=b3 at Bh Vh Vh7 Vh2 ⊢
  generalize w5.alloc (.cells #[.string ⟨(El e).toArray⟩] k.te)=w6 at Bh O6 hri6 hnew E6 ⊢
  have hksl:ks.length+1≤ents.length:=by
   have h1:=hperm.length_eq
   simp only [List.length_append,List.length_map] at h1
   have h2:0 < (Uh ms.toList seen).length:=List.length_pos_of_mem he
   omega
  have hmul:(ks.length+1) * (ie.bytes+1)≤140737488355328:=Nat.le_trans (Nat.mul_le_mul_right _ hksl) hroom
  have hmul1:(ks.length+1) * ie.bytes≤(ks.length+1) * (ie.bytes+1):=Nat.mul_le_mul_left _ (by omega)
  have hmul2:(ks.length+1) * 1≤(ks.length+1) * (ie.bytes+1):=Nat.mul_le_mul_left _ (by omega)
  refine wpList_append_own w6 gp4 (.tmp k.t27) (.tmp k.t29) k.ts ep4 w.heap.size k.te infE z 1 infE.bytes uts hie hz (by omega) rfl (by omega) (by omega) sv ks.length _ Vh7 O6 ⟨w5.heap.size,0,none⟩ 1 1 [.string ⟨(El e).toArray⟩] Vh rfl
   (fun j u hj=>by
    cases j with
    | zero=>simp at hj; subst hj; exact hnew
    | succ j=>simp at hj) (by simp [Value.oneCell']) (by unfold maxLen; omega) (by rw [hby]; omega) E6.size fun v' w7 O7 G7 hnil=>?_
  rw [dp4]
  have E7:Ext Z3 M w M w7:=X12 E6 G7.os G7.output G7.tape G7.size fun b hb=>G7.block b (Nat.lt_of_lt_of_le hb E6.size) fun h=>by
   have:=O6.lt b h.symm
   omega
  have hri7:w7.heap[r]?=some (.mapIter (some bm) clock (seen.push e.born) clock):=by rw [G7.block r (Array.getElem?_eq_some_iff.1 hri6).1 (fun h=>hob h.symm)]; exact hri6
  have Bi:=Bext (Bput v' m30 Bh) E7
  have Vi:(b3.put (some k.t30) v').tmps.getD k.t30 undef=v':=X6 (hin m30 Bh)
  have Vi2:(b3.put (some k.t30) v').tmps.getD k.t22 undef = .pointer (some ⟨r,0,none⟩):=by rw [D3 n22.2.2.2.2.2.2.2.2.1]; exact Vh2
  generalize b3.put (some k.t30) v'=b4 at Bi Vi Vi2 ⊢
  refine Hp gp5 (O18 ep5) ?_
  rw [dp5,show b4.eval (.tmp k.t30)=v' from Vi]
  refine wpList_nil ?_
  have hlp:=E1p he (fun x hx=>hborn2 x hx e hmem) hmsnd
  refine ⟨⟨seen.push e.born,clock,ks++[El e],v',Bput v' m5 Bi,by rw [D3 (Ne.symm n5.2.1)]; exact Vi2,X6 (hin m5 Bi),hri7,Nat.le_refl _,by simpa using O7,fun h=>absurd (hnil.1 h).2 (by decide),fun h=>?_,?_⟩,?_⟩
  ·rcases O7.2 with ⟨rfl,_⟩ | ⟨g,cap,cur,rfl,_,hgg,_⟩
   ·simp [Value.ownBlock] at h
   ·simp only [Value.ownBlock,Option.some.injEq] at h
    subst h
    rw [hri7] at hgg
    cases hgg
  ·refine List.Perm.trans ?_ hperm
   rw [List.append_assoc]
   exact List.Perm.append_left ks (hlp.map El).symm
  ·rw [hμ]
   show (Uh ms.toList _).length < _
   rw [O1l hri7,hlp.length_eq]
   simp
theorem B1n {α:Type}(row:α→Row)(m:List (List UInt8×α)):Wi (Gk row m)=Wi m:=by
 simp only [Wi]
 congr 1
 simp [Gk,List.map_map,Function.comp_def]
theorem C1n {α:Type}(row:α→Row)(m:List (List UInt8×α)):(Gk row m).length=m.length:=by simp [Gk]
end Go.Am

