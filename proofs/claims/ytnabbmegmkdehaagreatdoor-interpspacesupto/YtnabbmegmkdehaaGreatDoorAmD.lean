/- A part of the proof of InterpSpaces. -/
import Derived.Test.YtnabbmegmkdehaaGreatDoorAmC
import Derived.Sort.Grow
import Derived.Sort.EncStr
import Derived.Laws.AppendOwn
set_option linter.defProp false
namespace Go.Am
variable {a:Act}{d r:Nat}{v:Value}{w:World}
def Om (es:List MapEntry)(seen:Array Nat):List MapEntry:=es.filter λe=>!seen.contains e.born
section
variable {P:Program}
def Y18 {o:Obj}(h:w.heap[r]?=some o)(hc:∀c e f,o≠.cells c e f):(getObj r).run P w = .ok o w:=by
 simp only[getObj,Sem.run,h]
def K29 {o o':Obj}(h:w.heap[r]?=some o)(hc:∀c e f,o≠.cells c e f):(setObj r o').run P w = .ok () { w with heap:=w.heap.setIfInBounds r o' }:=by
 simp only[setObj,Sem.run,h]
def L29 {I b v:Nat}{c:Array Nat}{es:Array MapEntry}(ty:TypeId)(U:w.heap[r]?=some (.mapIter (some I) b c d))(Z:w.heap[I]?=some (.map es v))(y:∀x∈es.toList,x.born<b)(a0:b<=d) :
  (Om es.toList c=[]/\(Instr.next (.pointer (some ⟨r,0,none⟩)) false ty).run P w = .ok (.tuple #[.bool false]) w)\/
  ∃e∈Om es.toList c,∃n,(Instr.next (.pointer (some ⟨r,0,none⟩)) false ty).run P w = .ok (.tuple #[.bool true,e.key,e.val]) { w with heap:=w.heap.setIfInBounds r (.mapIter (some I) b (c.push e.born) v),drawn:=w.drawn+n }:=by
 have z:(!c.isEmpty && !es.isEmpty&&es.all (λx=>decide (x.born>=d)))=false:=by
  cases he:es.isEmpty with
  |true=>simp
  |false=>
   have h0:0<es.size:=by
    rcases Nat.eq_zero_or_pos es.size with h0|h0
    ·simp[Array.isEmpty,h0]at he
    ·exact h0
   have:es.all (λx=>decide (x.born>=d))=false:=by
    rw[Bool.eq_false_iff];intro h;rw[Array.all_eq_true_iff_forall_mem]at h;have Y:=h _ (Array.getElem_mem h0);have h2:=y es[0] (by simp);simp at Y;omega
   simp[this]
 simp only[Instr.next,Sem.run_bind,Y18 U (by simp),Y18 Z (by simp),Result.andThen,z,zqa,zw];have u:∀x∈(Array.filter (λe=>!c.contains e.born) es).toList,x.born<b:=λx B=>y x (by simp at B⊢;exact B.1);have X:Om es.toList c=(Array.filter (λe=>!c.contains e.born) es).toList:=by simp[Om]
 rw[X];generalize Array.filter (λe=>!c.contains e.born) es=L at u⊢;have e1:L.filter (λx=>decide (x.born<b))=L:=Array.filter_eq_self.2 (λx B=>by simpa using u x (by simpa using B));have e2:L.filter (λx=>decide (x.born>=b)) = #[]:=by
  rw[Array.filter_eq_empty_iff];intro x B;have:=u x (by simpa using B);simp;omega
 simp only[e1,e2,Array.append_empty];by_cases h0:L.size=0
 ·left;have:L = #[]:=Array.eq_empty_of_size_eq_zero h0;subst this;refine⟨rfl,?_⟩;simp[choose,Sem.run,Question.forced]
 ·right;have O:L.isEmpty=false:=by simp[Array.isEmpty,h0]
  simp only[O,zqa,zw,Array.empty_append,Array.size_map];have J:∃(j n:Nat),j<L.size/\(choose (Question.mapNext L.size)).run P w = .ok j { w with drawn:=w.drawn+n }:=by
   by_cases hf:L.size<=1
   ·exact⟨0,0,by omega,by simp[choose,Sem.run,Question.forced,hf]⟩
   ·exact⟨_,1,Nat.mod_lt _ (by omega),by
     simp only[choose,Sem.run,Question.forced,decide_eq_true_eq,hf,zw,Question.cut];rfl⟩
  obtain⟨j,n,V,D⟩:=J;refine⟨L[j],by simp,n,?_⟩;have T:({ w with drawn:=w.drawn+n }:World).heap[r]?=some (.mapIter (some I) b c d):=U;simp only[D,Array.getElem?_map,Array.getElem?_eq_getElem V,zqt,Sem.run_bind,K29 T (by simp),Result.andThen];rfl
def R26 {u c b:Nat}{d:Array Nat}{es:Array MapEntry}{e:MapEntry}(D:w.heap[r]?=some (.mapIter (some u) c (d.push e.born) b))(O:w.heap[u]?=some (.map es b))(v:e∈es.toList)(I:∀x∈es.toList,x.born=e.born->x=e) :
  (Instr.entry (.pointer (some ⟨r,0,none⟩))).run P w = .ok (.tuple #[e.key,e.val]) w:=by
 have z:es.find? (·.born==e.born)=some e:=by
  cases h:es.find? (·.born==e.born)with
  |none=>
   rw[Array.find?_eq_none]at h;exact absurd (by simp) (h e (by simpa using v))
  |some y=>
   have B:=Array.find?_some h;have J:=Array.mem_of_find?_eq_some h;rw[I y (by simpa using J) (by simpa using B)]
 simp only[Instr.entry,Sem.run_bind,Y18 D (by simp),Y18 O (by simp),Result.andThen,Array.back?_push,bne_self_eq_false,zqa,zw,z];rfl
def F23 {es:List MapEntry}{b:Array Nat}{e:MapEntry}(u:e∈Om es b)(B:∀x∈es,x.born=e.born->x=e)(z:es.Nodup):(Om es b).Perm (e::Om es (b.push e.born)):=by
 have D:Om es (b.push e.born)=(Om es b).filter (λx=>!(x.born==e.born)):=by
  simp only[Om,List.filter_filter];refine List.filter_congr λx _=>?_;rw[Array.contains_push];cases b.contains x.born<;>cases x.born==e.born<;>rfl
 rw[D];have d:(Om es b).Nodup:=z.filter _;have c:∀x∈Om es b,x.born=e.born->x=e:=λx r=>B x (List.mem_filter.1 r).1;generalize Om es b=l at u d c
 induction l with
 |nil=>cases u
 |cons y l v=>
  rw[List.nodup_cons]at d;by_cases hy:y=e
  ·subst hy;rw[List.filter_cons,zn (by simp)];rw[List.filter_eq_self.2 λx r=>by
    cases hb:x.born==y.born with
    |false=>rfl
    |true=>exact absurd (c x (zqq _ r) (by simpa using hb)▸r) d.1]
  ·rcases List.mem_cons.1 u with h|h
   ·exact absurd h.symm hy
   ·rw[List.filter_cons,zp (by
     cases hb:y.born==e.born with
     |false=>rfl
     |true=>exact absurd (c y zqp (by simpa using hb)) hy)]
    exact((v h d.2 λx r=>c x (zqq _ r)).cons y).trans (.swap _ _ _)
def R12 {L:Array Oper}{b:List Oper}{o:Oper}{c:World}{Q:Exit->Act->World->Prop}(d:o.guard=none)(h:(execOp a.eval o).run P w = .ok (.value v) c)(k:wpList P L Q b (a.put o.dst v) c):wpList P L Q (o::b) a w:=
 wpList_plain d λK r=>by unfold Oper.wp;rw[h];exact r _ _ k
end
def H1n (o:Oper):Option Nat×Op×Option (Nat×Bool):=(o.dst,o.op,o.guard)
def M29 {M:Mem}{d c:World}(h:Ext W5 M w M d)(u:c.os=d.os)(y:c.output=d.output)(v:c.tape=d.tape)(z:d.heap.size<=c.heap.size)(B:∀b,b<w.heap.size->c.heap[b]?=d.heap[b]?):Ext W5 M w M c:=
 ⟨λ_ _ e=>e,Nat.le_trans h.size z,u.trans h.os,y.trans h.output,v.trans h.tape,λb r x=>(B b r).trans (h.block b r x),λ_ _ e=>.inl e⟩
def Pn {t:Nat}(h:t≠d):(a.put (some d) v).tmps.getD t undef=a.tmps.getD t undef:=by
 simp only[Act.put];rw[Array.getD_eq_getD_getElem?,Array.getElem?_setIfInBounds_ne (λe=>h e.symm),<-Array.getD_eq_getD_getElem?]
def Yg (h:d<a.tmps.size):(a.put (some d) v).tmps.getD d undef=v:=by simp[Act.put,h]
def S26 :(a.put (some d) v).tmps.size=a.tmps.size:=by simp[Act.put]
def G23 {P:Program}{ρ:Operand->Value}{o:Oper}{x:Operand}(h:o.op = .assign x):(execOp ρ o).run P w = .ok (.value (ρ x)) w:=by simp only[execOp,h];rfl
def L1x {P:Program}{ρ:Operand->Value}{o:Oper}{x:Operand}(h:o.op = .move x):(execOp ρ o).run P w = .ok (.value (ρ x)) w:=by simp only[execOp,h];rfl
def I20 {P:Program}{b:World}{s:Sem Value}(h:s.run P w = .ok v b):(do pure (Next.value (<-s)):Sem Next).run P w = .ok (.value v) b:=by simp[h]
end Go.Am

