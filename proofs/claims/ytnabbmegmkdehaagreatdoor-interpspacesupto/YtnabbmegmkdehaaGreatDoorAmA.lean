/- A part of the proof of InterpSpaces. -/
import Derived.Orders
import Derived.Laws.Sem
import Derived.Laws.World
import GoSem.ClaimData
import Derived.Laws.Rows
import Derived.Laws.Entries
import Derived.Laws.Cells
import Derived.Laws.Append
import Derived.Laws.Strings
import Derived.Tactics
import Derived.Laws.CopyRow
import Derived.Calls
import Derived.Laws.AppendOwn
set_option linter.defProp false
namespace Go.Am
variable {listed:Array Bool}{vs:Array Value}{f:FuncId}{ps:List Nat}{L:List Oper}{e k m p sz t:Nat}{S:Nat->Prop}{G G':Nat->Value}{o:Oper}{ρ:Operand->Value}{dst:Option Nat}{P:Program}{α:Type _}{elem:TypeId}{v v':Value}{w:World}
theorem zqa : (false = true) = False := Bool.false_eq_true
theorem zqb (a b : α) : (some a = some b) = (a = b) := Option.some.injEq a b
theorem zqc {a b : List α} : (a ++ b).length = a.length + b.length := List.length_append
theorem zqd {a : α} {b : List α} : (a :: b).length = b.length + 1 := rfl
theorem zqe : ([] : List α).length = 0 := rfl
theorem zqf : (!true) = false := rfl
theorem zqg : (!false) = true := rfl
theorem zqh {β : Type _} (a : α) (b : β) (c : α) (d : β) : ((a, b) = (c, d)) = (a = c /\ b = d) := Prod.mk.injEq a b c d
theorem zqi (a b : Bool) : ((a && b) = true) = (a = true /\ b = true) := Bool.and_eq_true a b
theorem zp {c : Prop} {h : Decidable c} (hc : c) {α : Sort _} {t e : α} : ite c t e = t := if_pos hc
theorem zn {c : Prop} {h : Decidable c} (hc : ¬c) {α : Sort _} {t e : α} : ite c t e = e := if_neg hc
theorem zt {α : Sort _} {h : Decidable True} (t e : α) : ite True t e = t := if_true t e
theorem zw {α : Sort _} {h : Decidable False} (t e : α) : ite False t e = e := if_false t e
theorem zqk {α : Sort _} {a b : α} : cond true a b = a := rfl
theorem zql {α : Sort _} {a b : α} : cond false a b = b := rfl
theorem zqm [BEq α] [ReflBEq α] (a : α) : (a == a) = true := beq_self_eq_true a
theorem zqn [BEq α] [LawfulBEq α] {a b : α} : (a == b) = false ↔ a ≠ b := beq_eq_false_iff_ne
theorem zqo {n:Nat} (h : Nat.beq n m = true) : n = m := Nat.eq_of_beq_eq_true h
theorem zqp {a : α} {l : List α} : a ∈ a :: l := List.mem_cons_self
theorem zqq (y : α) {a : α} {l : List α} (h : a ∈ l) : a ∈ y :: l := List.mem_cons_of_mem y h
theorem zqr (n : Nat) : n <= n := Nat.le_refl n
theorem zqs {p : Prop} [inst : Decidable p] (h : ¬p) : decide p = false := decide_eq_false h
theorem zqt {β : Type _} {a : α} {f : α -> β} : Option.map f (some a) = some (f a) := rfl
theorem zqj {p : Prop} [inst : Decidable p] (h : p) : decide p = true := decide_eq_true h
theorem zqu {i : Nat} {a : α} {l : List α} : l[i]? = some a ↔ ∃ h : i < l.length, l[i] = a := List.getElem?_eq_some_iff
theorem zqv {l : List α} {i : Nat} (h : i < l.length) : l[i]? = some l[i] := List.getElem?_eq_getElem h
theorem zqx {a b : List α} {n : Nat} (h : n < a.length) : (a ++ b)[n]? = a[n]? := List.getElem?_append_left h

inductive Nk where
 |ptr|map|func|iface
 deriving DecidableEq
inductive D where
 |bool (b:Bool)
 |int (k:IntKind) (n:Int)
 |str (s:List UInt8)
 |sl (rows:List (List D))
 |nilv (k:Nk)
 |box (cells:List D)
 |bxo (o:Option (List D))
 |mp (es:List (List UInt8×List D))
 |fn (o:Option FuncId)
 |csl (g i off len:Nat)
 |cel (g i off:Nat)
abbrev Row:=List D
variable {rows rs:List Row}
inductive A where
 |d (x:D)
 |junk
 |ref (o off:Nat)
 |ptr (cells:List D)
 |full (rows:List (List D))
 |osl (o:Nat) (rows:List (List D))
 |rsl (o off len cap:Nat)
 |clo (f:FuncId) (caps:List A)
 |bnd (f:FuncId) (first:List A)
 |agg (cells:List A)
 |tup (vs:List A)
 |mp (o:Nat)
 |vsl (o:Nat)
 |vel (o off:Nat)
variable {z:A}{cs xs:List A}
inductive Kp where
 |s (l:List (List UInt8×List D))
 |i (k:IntKind) (l:List (Int×List D))
def Kp.list:Kp->List (D×List D)
 |.s l=>l.map λp=>(.str p.1,p.2)
 |.i k l=>l.map λp=>(.int k p.1,p.2)
inductive Ob where
 |dead
 |row (cells:List A) (elem:TypeId)
 |tok (elem:TypeId) (sz:Nat)
 |rok (elem:TypeId) (sz:Nat)
 |gone
 |map (es:Kp)
 |bld (o:Nat) (elem:TypeId)
 |buf (elem:TypeId) (bs:List UInt8)
 |vec (elem:TypeId) (sz:Nat) (cells:List D)
 |slots (g:Nat) (elem:TypeId) (l:List (List D))
abbrev Mem:=Addr->Option Value
variable {M M':Mem}
abbrev Env:=Nat->A
variable {env:Env}
abbrev F0:=List Ob
variable {Q:Env->F0->Prop}{H H' H2:F0}
def InK (k:IntKind)(n:Int):Prop:=k.min<=n/\n<=k.max
instance (k:IntKind)(n:Int):Decidable (InK k n):=inferInstanceAs (Decidable (_/\_))
def A1x {n:Int}:InK .i64 n ↔ -9223372036854775808<=n/\n<=9223372036854775807:=Iff.rfl
def U2a {n:Int}:InK .u8 n↔0<=n/\n<=255:=Iff.rfl
def Z28 {n:Int}:InK .i32 n ↔ -2147483648<=n/\n<=2147483647:=Iff.rfl
def R1r {n:Int}(h : -9223372036854775808<=n)(h':n<=9223372036854775807):IntKind.i64.wrap n=n:=by
 show(let m:=n % 18446744073709551616;if true&&decide (m>=9223372036854775808)then m-18446744073709551616 else m)=n;simp only[Bool.true_and,decide_eq_true_eq,ge_iff_le];split<;>omega
def So (k:IntKind)(n:Int):InK k (k.wrap n):=by
 cases k
 case i64=>
  rw[A1x];show -9223372036854775808<=(let m:=n % 18446744073709551616;if true&&decide (m>=9223372036854775808)then m-18446744073709551616 else m)/\(let m:=n % 18446744073709551616;if true&&decide (m>=9223372036854775808)then m-18446744073709551616 else m)<=9223372036854775807;simp only[Bool.true_and,decide_eq_true_eq,ge_iff_le];split<;>omega
 case i32=>
  rw[Z28];show -2147483648<=(let m:=n % 4294967296;if true&&decide (m>=2147483648)then m-4294967296 else m)/\(let m:=n % 4294967296;if true&&decide (m>=2147483648)then m-4294967296 else m)<=2147483647;simp only[Bool.true_and,decide_eq_true_eq,ge_iff_le];split<;>omega
 case i16=>
  show -32768<=(let m:=n % 65536;if true&&decide (m>=32768)then m-65536 else m)/\(let m:=n % 65536;if true&&decide (m>=32768)then m-65536 else m)<=32767;simp only[Bool.true_and,decide_eq_true_eq,ge_iff_le];split<;>omega
 case i8=>
  show -128<=(let m:=n % 256;if true&&decide (m>=128)then m-256 else m)/\(let m:=n % 256;if true&&decide (m>=128)then m-256 else m)<=127;simp only[Bool.true_and,decide_eq_true_eq,ge_iff_le];split<;>omega
 case u8=>
  show 0<=(let m:=n % 256;if false&&decide (m>=128)then m-256 else m)/\(let m:=n % 256;if false&&decide (m>=128)then m-256 else m)<=255;simp only[Bool.false_and,zqa,zw];omega
 case u16=>
  show 0<=(let m:=n % 65536;if false&&decide (m>=32768)then m-65536 else m)/\(let m:=n % 65536;if false&&decide (m>=32768)then m-65536 else m)<=65535;simp only[Bool.false_and,zqa,zw];omega
 case u32=>
  show 0<=(let m:=n % 4294967296;if false&&decide (m>=2147483648)then m-4294967296 else m)/\(let m:=n % 4294967296;if false&&decide (m>=2147483648)then m-4294967296 else m)<=4294967295;simp only[Bool.false_and,zqa,zw];omega
 case u64=>
  show 0<=(let m:=n % 18446744073709551616;if false&&decide (m>=9223372036854775808)then m-18446744073709551616 else m)/\(let m:=n % 18446744073709551616;if false&&decide (m>=9223372036854775808)then m-18446744073709551616 else m)<=18446744073709551615;simp only[Bool.false_and,zqa,zw];omega
def W1m (ms:Array MapEntry):Value:=.tuple (ms.map λe=>.tuple #[e.key,e.val])
def Js (b:Nat):Value:=.tuple #[.pointer (some ⟨b,0,none⟩)]
def Q1c {b c:Nat}(h:Js b=Js c):b=c:=by simpa[Js]using h
def Q1f (n:Nat)(f:Nat->Value):Value:=if n=1 then f 0 else .agg ((List.range n).map f).toArray
inductive F2 (M:Mem):D->Value->Prop
 |bool {b}:F2 M (.bool b) (.bool b)
 |int {k n:_} (h:InK k n):F2 M (.int k n) (.int k n)
 |str {s:List UInt8} (h:s.length<=maxLen):F2 M (.str s) (.string ⟨s.toArray⟩)
 |slnil:F2 M (.sl []) (.slice none 0 0)
 |sl {rows:List Row} {a:Addr} {len cap:Nat} (sz:Nat) (N1:Nat->Nat->Value) (hl:rows.length=len) (hc:len<=cap) (hm:cap<=maxLen) (hs:cap=0\/a.spot=none)
   (hz:∀(i:Nat) r,rows[i]?=some r->r.length=sz)
   (h1:∀(i j:Nat) r x,rows[i]?=some r->r[j]?=some x->M (a.add (i*sz+j))=some (N1 i j))
   (h2:∀(i j:Nat) r x,rows[i]?=some r->r[j]?=some x->F2 M x (N1 i j)):F2 M (.sl rows) (.slice (some a) len cap)
 |nilptr:F2 M (.nilv .ptr) (.pointer none)
 |nilmap:F2 M (.nilv .map) (.map none)
 |nilfunc:F2 M (.nilv .func) .nilFunc
 |niliface:F2 M (.nilv .iface) .nilIface
 |box {cells:List D} {a:Addr} (N1:Nat->Value) (hs:a.spot=none) (h1:∀(j:Nat) x,cells[j]?=some x->M (a.add j)=some (N1 j))
   (h2:∀(j:Nat) x,cells[j]?=some x->F2 M x (N1 j)):F2 M (.box cells) (.pointer (some a))
 |bxnil:F2 M (.bxo none) (.pointer none)
 |bxs {cells:List D} {a:Addr} (N1:Nat->Value) (hs:a.spot=none) (h1:∀(j:Nat) x,cells[j]?=some x->M (a.add j)=some (N1 j))
   (h2:∀(j:Nat) x,cells[j]?=some x->F2 M x (N1 j)):F2 M (.bxo (some cells)) (.pointer (some a))
 |mpnil:F2 M (.mp []) (.map none)
 |fnnil:F2 M (.fn none) .nilFunc
 |fns {f:FuncId}:F2 M (.fn (some f)) (.func (.func f) #[] #[])
 |csl {g i off len cap b:Nat} (h:M ⟨g,i,some 1⟩=some (Js b)) (hc:len<=cap) (hm:cap<=maxLen):F2 M (.csl g i off len) (.slice (some ⟨b,off,none⟩) len cap)
 |cel {g i off b:Nat} (h:M ⟨g,i,some 1⟩=some (Js b)):F2 M (.cel g i off) (.pointer (some ⟨b,off,none⟩))
 |mp {es:List (List UInt8×List D)} {b:Nat} {ms:Array MapEntry} (N1:Nat->Nat->Value) (h:M ⟨b,0,some 0⟩=some (W1m ms)) (hl:ms.size=es.length)
   (hk:∀(i:Nat) k cs e,es[i]?=some (k,cs)->ms[i]?=some e->e.key = .string ⟨k.toArray⟩/\k.length<=maxLen/\e.val=Q1f cs.length (N1 i))
   (hv:∀(i j:Nat) k cs x,es[i]?=some (k,cs)->cs[j]?=some x->F2 M x (N1 i j)):F2 M (.mp es) (.map (some b))
def F2.mono (u:∀a v,M a=some v->M' a=some v){x:D}(h:F2 M x v):F2 M' x v:=by
 induction h with
 |bool=>exact .bool
 |int h=>exact .int h
 |str h=>exact .str h
 |slnil=>exact .slnil
 |sl sz N1 B hc d z I y _ c=>exact .sl sz N1 B hc d z I (λi j r x a b=>u _ _ (y i j r x a b)) c
 |nilptr=>exact .nilptr
 |nilmap=>exact .nilmap
 |nilfunc=>exact .nilfunc
 |niliface=>exact .niliface
 |box N1 z y _ c=>exact .box N1 z (λj x a=>u _ _ (y j x a)) c
 |bxnil=>exact .bxnil
 |bxs N1 z y _ c=>exact .bxs N1 z (λj x a=>u _ _ (y j x a)) c
 |mpnil=>exact .mpnil
 |fnnil=>exact .fnnil
 |fns=>exact .fns
 |csl h hc d=>exact .csl (u _ _ h) hc d
 |cel h=>exact .cel (u _ _ h)
 |mp N1 h B J _ c=>exact .mp N1 (u _ _ h) B J c
def F2.one {x:D}(h:F2 M x v):v.oneCell'=true:=by cases h<;>rfl
def F2.cells {M:Mem}{x:D}{v:Value}(h:F2 M x v):v.cells = #[v]:=by cases h<;>rfl
def K1j:Value->Prop
 |.slice none _ _=>True
 |.slice (some _) len cap=>len=cap
 |_=>False
inductive A1 (M:Mem)(G:Nat->Value):A->Value->Prop
 |d {x v:_} (h:F2 M x v):A1 M G (.d x) v
 |junk {v:_}:A1 M G .junk v
 |ref {o off b:_} (h:G o = .pointer (some ⟨b,0,none⟩)):A1 M G (.ref o off) (.pointer (some ⟨b,off,none⟩))
 |ptr {cells:List D} {a:Addr} (N1:Nat->Value) (hs:a.spot=none) (h1:∀(j:Nat) x,cells[j]?=some x->M (a.add j)=some (N1 j))
   (h2:∀(j:Nat) x,cells[j]?=some x->F2 M x (N1 j)):A1 M G (.ptr cells) (.pointer (some a))
 |full {rows v:_} (h:F2 M (.sl rows) v) (hf:K1j v):A1 M G (.full rows) v
 |osl {o rows v:_} (h:F2 M (.sl rows) v) (hg:G o=v):A1 M G (.osl o rows) v
 |rsl {o off len cap cap' b:_} (h:G o = .pointer (some ⟨b,0,none⟩)) (hc:len<=cap') (hm:cap'<=maxLen):A1 M G (.rsl o off len cap) (.slice (some ⟨b,off,none⟩) len cap')
 |clo {f:FuncId} {caps:List A} {vs:Array Value} (hl:caps.length=vs.size) (h:∀(i:Nat) x v,caps[i]?=some x->vs[i]?=some v->A1 M G x v) :
   A1 M G (.clo f caps) (.func (.func f) #[] vs)
 |bnd {f:FuncId} {first:List A} {vs:Array Value} (hl:first.length=vs.size) (h:∀(i:Nat) x v,first[i]?=some x->vs[i]?=some v->A1 M G x v) :
   A1 M G (.bnd f first) (.func (.func f) vs #[])
 |agg {cells:List A} {vs:Array Value} (hl:cells.length=vs.size) (h1:∀(i:Nat) v,vs[i]?=some v->v.oneCell'=true)
   (h:∀(i:Nat) x v,cells[i]?=some x->vs[i]?=some v->A1 M G x v):A1 M G (.agg cells) (.agg vs)
 |tup {xs:List A} {vs:Array Value} (hl:xs.length=vs.size) (h:∀(i:Nat) x v,xs[i]?=some x->vs[i]?=some v->A1 M G x v):A1 M G (.tup xs) (.tuple vs)
 |mp {o b:_} (h:G o = .map (some b)):A1 M G (.mp o) (.map (some b))
 |vsl {o a l c:_} (h:G o = .slice a l c):A1 M G (.vsl o) (.slice a l c)
 |vel {o off b l c:_} (h:G o = .slice (some ⟨b,0,none⟩) l c):A1 M G (.vel o off) (.pointer (some ⟨b,off,none⟩))
inductive Names:A->Nat->Prop
 |ref {o off:_}:Names (.ref o off) o
 |osl {o rows:_}:Names (.osl o rows) o
 |rsl {o a b c:_}:Names (.rsl o a b c) o
 |mp {o:_}:Names (.mp o) o
 |vsl {o:_}:Names (.vsl o) o
 |vel {o off:_}:Names (.vel o off) o
 |clo {f caps x o:_} (h:x∈caps) (h':Names x o):Names (.clo f caps) o
 |bnd {f first x o:_} (h:x∈first) (h':Names x o):Names (.bnd f first) o
 |agg {cells x o:_} (h:x∈cells) (h':Names x o):Names (.agg cells) o
 |tup {xs x o:_} (h:x∈xs) (h':Names x o):Names (.tup xs) o
def A1.mono {M M':Mem}{G G':Nat->Value}(z:∀a v,M a=some v->M' a=some v){x:A}{v:Value}(h:A1 M G x v)(c:∀o,Names x o->G' o=G o):A1 M' G' x v:=by
 induction h with
 |d h=>exact .d (h.mono z)
 |junk=>exact .junk
 |ref h=>exact .ref ((c _ .ref).trans h)
 |ptr N1 T B O=>exact .ptr N1 T (λj x e=>z _ _ (B j x e)) (λj x e=>(O j x e).mono z)
 |full h J=>exact .full (h.mono z) J
 |osl h D=>exact .osl (h.mono z) ((c _ .osl).trans D)
 |rsl h hc I=>exact .rsl ((c _ .rsl).trans h) hc I
 |clo y _ u=>exact .clo y λi x v a b=>u i x v a b λo r=>c o (.clo (List.mem_of_getElem? a) r)
 |bnd y _ u=>exact .bnd y λi x v a b=>u i x v a b λo r=>c o (.bnd (List.mem_of_getElem? a) r)
 |agg y B _ u=>exact .agg y B λi x v a b=>u i x v a b λo r=>c o (.agg (List.mem_of_getElem? a) r)
 |tup y _ u=>exact .tup y λi x v a b=>u i x v a b λo r=>c o (.tup (List.mem_of_getElem? a) r)
 |mp h=>exact .mp ((c _ .mp).trans h)
 |vsl h=>exact .vsl ((c _ .vsl).trans h)
 |vel h=>exact .vel ((c _ .vel).trans h)
def A1.mono' (b:∀a v,M a=some v->M' a=some v){x:A}(h:A1 M G x v):A1 M' G x v:=h.mono b λ_ _=>rfl
def blk:Ob->Value->Nat->Prop
 |.row _ _,.pointer (some a),b=>a.block=b
 |.tok _ _,.slice (some a) len cap,b=>len<cap/\a.block=b
 |.rok _ _,.slice (some a) len cap,b=>len<cap/\a.block=b
 |.map _,.map (some r),b=>r=b
 |.bld _ _,.pointer (some a),b=>a.block=b
 |.buf _ _,.slice (some a) _ _,b=>a.block=b
 |.vec _ _ _,.slice (some a) _ cap,b=>0<cap/\a.block=b
 |.slots _ _ _,.tuple vs,b=>.pointer (some ⟨b,0,none⟩)∈vs
 |_,_,_=>False
structure Bt (M:Mem)(w:World)(b:Nat)(elem:TypeId)(ds:List D)(n:Nat):Prop where
 ex:∃vs,w.heap[b]?=some (.cells vs elem (0,0))/\n<=vs.size/\∀(i:Nat) x v,ds[i]?=some x->vs[i]?=some v->F2 M x v
 free:∀off sp,M ⟨b,off,sp⟩=none
def Cy (g:Nat)(bs:List Nat):Value:=.tuple ((g::bs).map λb=>Value.pointer (some ⟨b,0,none⟩)).toArray
def Mc:Row->A
 |[x]=>.d x
 |cs=>.agg (cs.map .d)
def G14 (ms:Array MapEntry)(clock:Nat):Prop:=(∀(i:Nat) e,ms[i]?=some e->e.born<clock)/\∀(i j:Nat) e f,ms[i]?=some e->ms[j]?=some f->e.born=f.born->i=j
def G14.none:G14 #[] 0:=⟨λ_ _ h=>by simp at h,λ_ _ _ _ h=>by simp at h⟩
def G14.push {ms:Array MapEntry}{d:Nat}(h:G14 ms d)(k v:Value):G14 (ms.push ⟨k,v,d⟩) (d+1):=by
 refine⟨λi e b=>?_,λi j e f b c r=>?_⟩
 ·rw[Array.getElem?_push]at b;split at b
  ·cases b;exact Nat.lt_succ_self _
  ·exact Nat.lt_succ_of_lt (h.1 i e b)
 ·rw[Array.getElem?_push]at b c;split at b<;>split at c
  ·omega
  ·cases b;have:=h.1 j f c;simp at r;omega
  ·cases c;have:=h.1 i e b;simp at r;omega
  ·exact h.2 i j e f b c r
def G14.modify {ms:Array MapEntry}{r:Nat}(h:G14 ms r)(n:Nat)(g:MapEntry->MapEntry)(v:∀e,(g e).born=e.born):G14 (ms.modify n g) r:=by
 have c:∀(i:Nat) e,(ms.modify n g)[i]?=some e->∃e',ms[i]?=some e'/\e'.born=e.born:=λi e b=>by
  rw[Array.getElem?_modify]at b;split at b
  ·obtain⟨e',d,rfl⟩:=Option.map_eq_some_iff.1 b;exact⟨e',d,(v e').symm⟩
  ·exact⟨e,b,rfl⟩
 refine⟨λi e b=>?_,λi j e f b u D=>?_⟩
 ·obtain⟨e',d,y⟩:=c i e b;have:=h.1 i e' d;omega
 ·obtain⟨e',d,y⟩:=c i e b;obtain⟨z,x,B⟩:=c j f u;exact h.2 i j e' z d x (by omega)
def M5 (M:Mem)(G:Nat->Value)(w:World):Ob->Value->Prop
 |.dead,_=>True
 |.row cells elem,g=>∃b vs,g = .pointer (some ⟨b,0,none⟩)/\w.heap[b]?=some (.cells vs elem (0,0))/\cells.length<=vs.size/\(∀(i:Nat) v,vs[i]?=some v->v.oneCell'=true)/\
   (∀(i:Nat) x v,cells[i]?=some x->vs[i]?=some v->A1 M G x v)/\(∀off sp,M ⟨b,off,sp⟩=none)
 |.tok elem sz,g=>g = .slice none 0 0\/∃a n cap,g = .slice (some a) n cap/\(cap=0\/a.spot=none)/\n<=cap/\cap<=maxLen/\
   (n<cap->a.off=0/\∃vs,w.heap[a.block]?=some (.cells vs elem (0,0))/\cap*sz<=vs.size/\∀k sp,n*sz<=k->M ⟨a.block,k,sp⟩=none)
 |.rok elem sz,g=>g = .slice none 0 0\/∃a n cap,g = .slice (some a) n cap/\(cap=0\/a.spot=none)/\n<=cap/\cap<=maxLen/\
   (n<cap->a.off=0/\∃vs,w.heap[a.block]?=some (.cells vs elem (0,0))/\cap*sz<=vs.size/\∀k sp,n*sz<=k->M ⟨a.block,k,sp⟩=none)
 |.gone,g=>∃a l c,g = .slice a l c
 |.map es,g=>∃b ms clock,g = .map (some b)/\w.heap[b]?=some (.map ms clock)/\ms.size=es.list.length/\
   (∀(i:Nat) k cs e,es.list[i]?=some (k,cs)->ms[i]?=some e->F2 M k e.key/\A1 M G (Mc cs) e.val)/\
   G14 ms clock/\(∀off sp,M ⟨b,off,sp⟩=none)
 |.bld o elem,g=>∃b v0,g = .pointer (some ⟨b,0,none⟩)/\w.heap[b]?=some (.cells #[v0,G o] elem (0,0))/\(v0 = .pointer none\/v0 = .pointer (some ⟨b,0,none⟩))/\(∀vs,G o≠.tuple vs)/\(∀off sp,M ⟨b,off,sp⟩=none)
 |.buf elem bs,g=>bs.length<=maxLen/\(g = .slice none 0 0/\bs=[]\/∃b cap cur,g = .slice (some ⟨b,0,none⟩) bs.length cap/\w.heap[b]?=some (.cells cur elem (0,0))/\bs.length<=cap/\cap<=maxLen/\cur.size=cap/\
   cur.toList.take bs.length=bs.map (λc=>Value.int .u8 c.toNat)/\∀off sp,M ⟨b,off,sp⟩=none)
 |.vec elem sz cells,g=>(g = .slice none 0 0/\cells=[])\/(∃a,g = .slice (some a) 0 0/\cells=[])\/∃b n cap,g = .slice (some ⟨b,0,none⟩) n cap/\cells.length=n*sz/\n<=cap/\0<cap/\cap<=maxLen/\Bt M w b elem cells (cap*sz)
 |.slots γ elem l,g=>∃bs:List Nat,g=Cy γ bs/\bs.length=l.length/\(γ::bs).Nodup/\γ<w.heap.size/\(∀(i b:Nat),bs[i]?=some b->M ⟨γ,i,some 1⟩=some (Js b))/\
   (∀off sp,(sp=some 1->l.length<=off)->M ⟨γ,off,sp⟩=none)/\∀(i b:Nat) ds,bs[i]?=some b->l[i]?=some ds->Bt M w b elem ds ds.length
def H1r (w:World)(a:Addr)(v:Value):Prop:=(a.spot=none/\w.cell? a=some v)\/(a.spot=some 0/\∃ms clock,w.heap[a.block]?=some (.map ms clock)/\v=W1m ms)\/(a.spot=some 1/\a.block<w.heap.size/\∃b,v=Js b)
def Z3 (M:Mem)(w:World):Prop:=∀a v,M a=some v->H1r w a v
def F2.notTuple {x:D}(h:F2 M x v):∀vs,v≠.tuple vs:=by cases h<;>simp
def Z3.cell (c:Z3 M w){a:Addr}(e:M a=some v){x:D}(h:F2 M x v):w.cell? a=some v:=by
 rcases c a v e with⟨_,d⟩|⟨_,u,r,_,rfl⟩|⟨_,_,b,rfl⟩
 ·exact d
 ·exact absurd rfl (h.notTuple _)
 ·exact absurd rfl (h.notTuple _)
def Z3.at {M:Mem}{w:World}(c:Z3 M w){a:Addr}{v:Value}(e:M a=some v)(h:a.spot=none):w.cell? a=some v:=by
 rcases c a v e with⟨_,d⟩|⟨b,_⟩|⟨b,_⟩
 ·exact d
 ·rw[h]at b;cases b
 ·rw[h]at b;cases b
def own (G:Nat->Value)(H:F0)(b:Nat):Prop:=∃o x,H[o]?=some x/\blk x (G o) b
structure Z6 (M:Mem)(G:Nat->Value)(w:World)(H:F0):Prop where
 obj:∀(o:Nat) x,H[o]?=some x->M5 M G w x (G o)
 apart:∀(o o':Nat) x x' b,H[o]?=some x->H[o']?=some x'->blk x (G o) b->blk x' (G o') b->o=o'
 fresh:∀o:Nat,H.length<=o->G o = .tuple #[]
structure Ext (S:Nat->Prop)(M:Mem)(w:World)(M':Mem)(w':World):Prop where
 mono:∀a v,M a=some v->M' a=some v
 size:w.heap.size<=w'.heap.size
 os:w'.os=w.os
 output:w'.output=w.output
 tape:w'.tape=w.tape
 block:∀b,b<w.heap.size->¬S b->w'.heap[b]?=w.heap[b]?
 fresh:∀a v,M' a=some v->M a=some v\/S a.block\/w.heap.size<=a.block
def Ext.refl (S:Nat->Prop)(M:Mem)(w:World):Ext S M w M w:=
 ⟨λ_ _ h=>h,zqr _,rfl,rfl,rfl,λ_ _ _=>rfl,λ_ _ h=>.inl h⟩
def Ext.trans {S u:Nat->Prop}{M c d:Mem}{w w1 r:World}(h:Ext S M w c w1)(h':Ext u c w1 d r)(x:∀b,u b->S b\/w.heap.size<=b):Ext S M w d r where
 mono a v e:=h'.mono a v (h.mono a v e)
 size:=Nat.le_trans h.size h'.size
 os:=h'.os.trans h.os
 output:=h'.output.trans h.output
 tape:=h'.tape.trans h.tape
 block b hb hn:=by
  rw[h'.block b (Nat.lt_of_lt_of_le hb h.size) (λy=>by rcases x b y with h2|h2;exact hn h2;omega),h.block b hb hn]
 fresh a v e:=by
  rcases h'.fresh a v e with e1|e1|e1
  ·exact h.fresh a v e1
  ·rcases x _ e1 with e2|e2
   ·exact .inr (.inl e2)
   ·exact .inr (.inr e2)
  ·exact .inr (.inr (Nat.le_trans h.size e1))
def Ext.weaken {c:Nat->Prop}{d:Mem}{w1:World}(h:Ext S M w d w1)(r:∀b,S b->c b\/w.heap.size<=b):Ext c M w d w1:=
 (Ext.refl c M w).trans h r
def W5:Nat->Prop:=λ_=>False
def Z3.lt (h:Z3 M w){a:Addr}(e:M a=some v):a.block<w.heap.size:=by
 rcases h a v e with⟨_,b⟩|⟨_,d,c,b,_⟩|⟨_,b,_⟩
 ·exact World.block_lt_of_cell? w a b
 ·exact(Array.getElem?_eq_some_iff.1 b).1
 ·exact b
def R1b {b:World}{a:Addr}(h:b.heap[a.block]?=w.heap[a.block]?):b.cell? a=w.cell? a:=by simp[World.cell?,h]
def Bt.lt {b:Nat}{ds:List D}{n:Nat}(h:Bt M w b elem ds n):b<w.heap.size:=by
 obtain⟨d,c,_⟩:=h.ex;exact(Array.getElem?_eq_some_iff.1 c).1
def Bt.keep {r:World}{b:Nat}{ds:List D}{n:Nat}(h:Bt M w b elem ds n)(z:∀a v,M a=some v->M' a=some v)(O:r.heap[b]?=w.heap[b]?)(y:∀off d,M ⟨b,off,d⟩=none->M' ⟨b,off,d⟩=none):Bt M' r b elem ds n:=by
 obtain⟨u,J,B,I⟩:=h.ex;exact⟨⟨u,O.trans J,B,λi x v a c=>(I i x v a c).mono z⟩,λoff d=>y off d (h.free off d)⟩
def I1z {g:Nat}{c:List Nat}{b:Nat}:Value.pointer (some ⟨b,0,none⟩)∈((g::c).map λb=>Value.pointer (some ⟨b,0,none⟩)).toArray↔b∈g::c:=by
 simp
def Zk {γ g:Nat}{l:List (List D)}{c:List Nat}{b:Nat}:blk (.slots γ elem l) (Cy g c) b↔b∈g::c:=I1z
def V7 {x:Ob}{g:Value}(h:M5 M G w x g){b:Nat}(d:blk x g b):b<w.heap.size:=by
 cases x with
 |dead=>simp[blk]at d
 |row u c=>
  obtain⟨B,D,rfl,r,_⟩:=h;simp[blk]at d;subst d;exact(Array.getElem?_eq_some_iff.1 r).1
 |tok c sz=>
  rcases h with rfl|⟨a,n,y,rfl,_,_,_,r⟩
  ·simp[blk]at d
  ·obtain⟨v,rfl⟩:=d;obtain⟨_,D,z,_⟩:=r v;exact(Array.getElem?_eq_some_iff.1 z).1
 |gone=>simp[blk]at d
 |rok c sz=>
  rcases h with rfl|⟨a,n,y,rfl,_,_,_,r⟩
  ·simp[blk]at d
  ·obtain⟨v,rfl⟩:=d;obtain⟨_,D,z,_⟩:=r v;exact(Array.getElem?_eq_some_iff.1 z).1
 |map es=>
  obtain⟨B,V,Y,rfl,r,_⟩:=h;simp[blk]at d;subst d;exact(Array.getElem?_eq_some_iff.1 r).1
 |bld o c=>
  obtain⟨B,X,rfl,r,_⟩:=h;simp[blk]at d;subst d;exact(Array.getElem?_eq_some_iff.1 r).1
 |buf c U=>
  rcases h with⟨_,⟨rfl,_⟩|⟨B,y,T,rfl,r,_⟩⟩
  ·simp[blk]at d
  ·simp[blk]at d;subst d;exact(Array.getElem?_eq_some_iff.1 r).1
 |vec c sz u=>
  rcases h with⟨rfl,_⟩|⟨a,rfl,_⟩|⟨B,n,y,rfl,_,_,_,_,r⟩
  ·simp[blk]at d
  ·simp[blk]at d
  ·obtain⟨_,rfl⟩:=d;exact r.lt
 |slots γ c l=>
  obtain⟨U,rfl,r,_,z,_,_,J⟩:=h;rcases List.mem_cons.1 (Zk.1 d)with rfl|hm
  ·exact z
  ·obtain⟨i,I⟩:=List.getElem?_of_mem hm;have O:i<l.length:=by rw[<-r];exact(zqu.1 I).1
   exact(J i b _ I (zqv O)).lt
def W21 (h:Z6 M G w H){b:Nat}(r:own G H b):b<w.heap.size:=by
 obtain⟨o,x,c,d⟩:=r;exact V7 (h.obj o x c) d
def M5.keep {M M':Mem}{G:Nat->Value}{w w':World}{x:Ob}{g:Value}(h:M5 M G w x g)(Y:∀a v,M a=some v->M' a=some v)
  (a0:w.heap.size<=w'.heap.size) (T:∀b,blk x g b->w'.heap[b]?=w.heap[b]?) (O:∀b,blk x g b->∀off d,M ⟨b,off,d⟩=none->M' ⟨b,off,d⟩=none):M5 M' G w' x g:=by
 cases x with
 |dead=>trivial
 |row U elem=>
  obtain⟨b,Z,rfl,B,D,u,z,I⟩:=h;exact⟨b,Z,rfl,(T b rfl).trans B,D,u,λi x v a c=>(z i x v a c).mono' Y,λoff d=>O b rfl off d (I off d)⟩
 |tok elem sz=>
  rcases h with h|⟨a,n,r,rfl,B,D,u,z⟩
  ·exact .inl h
  ·refine .inr ⟨a,n,r,rfl,B,D,u,λJ=>?_⟩;obtain⟨h0,Z,I,V,h7⟩:=z J;have y:blk (.tok elem sz) (.slice (some a) n r) a.block:=⟨J,rfl⟩
   exact⟨h0,Z,(T _ y).trans I,V,λk d hk=>O _ y k d (h7 k d hk)⟩
 |gone=>exact h
 |rok elem sz=>
  rcases h with h|⟨a,n,r,rfl,B,D,u,z⟩
  ·exact .inl h
  ·refine .inr ⟨a,n,r,rfl,B,D,u,λJ=>?_⟩;obtain⟨h0,Z,I,V,h7⟩:=z J;have y:blk (.rok elem sz) (.slice (some a) n r) a.block:=⟨J,rfl⟩
   exact⟨h0,Z,(T _ y).trans I,V,λk d hk=>O _ y k d (h7 k d hk)⟩
 |map es=>
  obtain⟨b,ms,cl,rfl,B,D,u,z,I⟩:=h;exact⟨b,ms,cl,rfl,(T b rfl).trans B,D,λi k cs e a c=>⟨((u i k cs e a c).1).mono Y,((u i k cs e a c).2).mono' Y⟩,z,λoff d=>O b rfl off d (I off d)⟩
 |bld o elem=>
  obtain⟨b,v0,rfl,B,D,u,z⟩:=h;exact⟨b,v0,rfl,(T b rfl).trans B,D,u,λoff d=>O b rfl off d (z off d)⟩
 |buf elem bs=>
  obtain⟨h0,h⟩:=h;refine⟨h0,?_⟩;rcases h with h|⟨b,r,a1,rfl,B,D,u,z,I,V⟩
  ·exact .inl h
  ·exact .inr ⟨b,r,a1,rfl,(T b rfl).trans B,D,u,z,I,λoff d=>O b rfl off d (V off d)⟩
 |vec elem sz U=>
  rcases h with h|h|⟨b,n,r,rfl,B,D,u,z,I⟩
  ·exact .inl h
  ·exact .inr (.inl h)
  ·exact .inr (.inr ⟨b,n,r,rfl,B,D,u,z,I.keep Y (T b ⟨u,rfl⟩) (O b ⟨u,rfl⟩)⟩)
 |slots γ elem l=>
  obtain⟨bs,rfl,B,D,u,z,I,V⟩:=h;refine⟨bs,rfl,B,D,Nat.lt_of_lt_of_le u a0,λi b X=>Y _ _ (z i b X),λi d X=>O γ (Zk.2 zqp) _ _ (I i d X),λi b ds X hd=>?_⟩;have y:=Zk (γ:=γ) (elem:=elem) (l:=l).2 (zqq γ (List.mem_of_getElem? X));exact(V i b ds X hd).keep Y (T b y) (O b y)
def Z6.ext {y:World}(h:Z6 M G w H)(d:Ext S M w M' y)(u:∀b,own G H b->¬S b):Z6 M' G y H where
 obj o x ho:=by
  refine(h.obj o x ho).keep d.mono d.size (λb c=>d.block b (W21 h ⟨o,x,ho,c⟩) (u b ⟨o,x,ho,c⟩)) (λb c r B z=>?_);cases hM:M' ⟨b,r,B⟩with
  |none=>rfl
  |some v=>
   rcases d.fresh _ v hM with h1|h1|h1
   ·rw[z]at h1;cases h1
   ·exact absurd h1 (u b ⟨o,x,ho,c⟩)
   ·have:=W21 h ⟨o,x,ho,c⟩;simp only at h1;omega
 apart:=h.apart
 fresh:=h.fresh
def Z6.nil (M:Mem)(w:World):Z6 M (λ_=>.tuple #[]) w []:=⟨λo x h=>by simp at h,λo o' x c b h=>by simp at h,λ_ _=>rfl⟩
def A1.names {x:A}(h:A1 M G x v){o:Nat}(b:Names x o):G o≠.tuple #[]:=by
 induction h with
 |d h=>cases b
 |junk=>cases b
 |ref h=>cases b;rw[h];simp
 |ptr N1 T D O=>cases b
 |full h J=>cases b
 |osl h B=>cases b;rw[B];cases h<;>simp
 |rsl h hc I=>cases b;rw[h];simp
 |clo u h r=>
  cases b with
  |clo z b=>
   obtain⟨i,c⟩:=List.getElem?_of_mem z;have y:=Array.getElem?_eq_getElem (by rw[<-u];exact(zqu.1 c).1);exact r i _ _ c y b
 |bnd u h r=>
  cases b with
  |bnd z b=>
   obtain⟨i,c⟩:=List.getElem?_of_mem z;have y:=Array.getElem?_eq_getElem (by rw[<-u];exact(zqu.1 c).1);exact r i _ _ c y b
 |agg u D h r=>
  cases b with
  |agg z b=>
   obtain⟨i,c⟩:=List.getElem?_of_mem z;have y:=Array.getElem?_eq_getElem (by rw[<-u];exact(zqu.1 c).1);exact r i _ _ c y b
 |tup u h r=>
  cases b with
  |tup z b=>
   obtain⟨i,c⟩:=List.getElem?_of_mem z;have y:=Array.getElem?_eq_getElem (by rw[<-u];exact(zqu.1 c).1);exact r i _ _ c y b
 |mp h=>cases b;rw[h];simp
 |vsl h=>cases b;rw[h];simp
 |vel h=>cases b;rw[h];simp
def Z6.lt (h:Z6 M G w H){x:A}(b:A1 M' G x v){o:Nat}(c:Names x o):o<H.length:=by
 rcases Nat.lt_or_ge o H.length with h1|h1
 ·exact h1
 ·exact absurd (h.fresh o h1) (b.names c)
def W13 {b:World}{a:Addr}(d:w.heap.size<=b.heap.size)(c:b.heap[a.block]?=w.heap[a.block]?)(h:H1r w a v):H1r b a v:=by
 unfold H1r;rw[R1b c,c];rcases h with h|h|⟨x,u,r⟩
 ·exact .inl h
 ·exact .inr (.inl h)
 ·exact .inr (.inr ⟨x,Nat.lt_of_lt_of_le u d,r⟩)
def Z3.ext {c:World}(h:Z3 M w)(b:Ext S M w M c)(d:∀a v,M a=some v->¬S a.block):Z3 M c:=λa v e=>
 W13 b.size (b.block a.block (h.lt e) (d a v e)) (h a v e)
inductive TU where
 |bool|int (k:IntKind)|str|ptr (e:Nat)|sl (e:Nat)|arr (n e:Nat)
 |st (fs:List (Nat×Nat×Nat))
 |map (k e:Nat)|func|iface|other
structure TI where
 u:TU
 size:Nat
 bytes:Nat
 zero:List D
abbrev TT:=List (Nat×TI)
def Z1:TT->Nat->Option TI
 |[],_=>none
 |(k,i)::r,t=>bif Nat.beq k t then some i else Z1 r t
def TU.agg:TU->Bool
 |.st _ |.arr _ _=>true
 |_=>false
def zB:Value->D->Bool
 |.bool b,.bool c=>b==c
 |.int k n,.int k' n'=>decide (k=k')&&decide (n=n')&&decide (InK k n)
 |.string s,.str l=>s.data.toList.isEmpty&&l.isEmpty
 |.slice none 0 0,.sl []=>true
 |.pointer none,.nilv .ptr=>true
 |.map none,.nilv .map=>true
 |.nilFunc,.nilv .func=>true
 |.nilIface,.nilv .iface=>true
 |_,_=>false
def Jq {x:D}(h:zB v x=true)(M:Mem):F2 M x v:=by
 unfold zB at h;split at h
 ·rename_i b c;obtain rfl:b=c:=by simpa using h
  exact .bool
 ·rename_i k n k' n';simp only[zqi,decide_eq_true_eq]at h;obtain⟨⟨rfl,rfl⟩,h⟩:=h;exact .int h
 ·rename_i s l;simp only[zqi,List.isEmpty_iff]at h;obtain⟨r,rfl⟩:=h;obtain⟨d⟩:=s;have:d = #[]:=by simpa using r
  subst this;exact .str (s:=[]) (Nat.zero_le _)
 ·exact .slnil
 ·exact .nilptr
 ·exact .nilmap
 ·exact .nilfunc
 ·exact .niliface
 ·cases h
def zsB:List Value->List D->Bool
 |[],[]=>true
 |v::vs,x::xs=>zB v x&&zsB vs xs
 |_,_=>false
def P1h:∀{vs:List Value} {xs:List D},zsB vs xs=true->vs.length=xs.length/\∀(i:Nat) v x,vs[i]?=some v->xs[i]?=some x->zB v x=true
 |[],[],_=>⟨rfl,λi v x h=>by simp at h⟩
 |v::vs,x::xs,h=>by
  simp only[zsB,zqi]at h;obtain⟨r,d⟩:=P1h h.2;refine⟨by simp[r],λi u y c b=>?_⟩;cases i with
  |zero=>simp at c b;subst c;subst b;exact h.1
  |succ i=>exact d i u y (by simpa using c) (by simpa using b)
 |[],_::_,h=>by simp[zsB]at h
 |_::_,[],h=>by simp[zsB]at h
def fsB (P:Program):List Field->List (Nat×Nat×Nat)->Bool
 |[],[]=>true
 |f::fs,(t,o,s)::r=>Nat.beq f.type t&&Nat.beq f.offset o&&Nat.beq (P.cellsOf t) s&&Nat.ble 1 s&&(P.info? t).isSome&&fsB P fs r
 |_,_=>false
def uB (P:Program):Option TypeDesc->TU->Bool
 |some .bool,.bool=>true
 |some (.int k),.int k'=>decide (k=k')
 |some .string,.str=>true
 |some (.pointer e),.ptr e'=>Nat.beq e e'
 |some (.slice e),.sl e'=>Nat.beq e e'
 |some (.array n e),.arr n' e'=>Nat.beq n n'&&Nat.beq e e'
 |some (.struct fs),.st gs=>fsB P fs.toList gs
 |some (.map k e),.map k' e'=>Nat.beq k k'&&Nat.beq e e'
 |some (.func ..),.func=>true
 |some (.interface _),.iface=>true
 |_,_=>false
def tiB (P:Program)(t:Nat)(i:TI):Bool:=
 (match P.info? t with
  |some j=>Nat.beq j.size i.size&&Nat.beq j.bytes i.bytes&&(match j.zero with
    |some (.agg cs)=>i.u.agg&&zsB cs.toList i.zero
    |some v=>!i.u.agg&&zsB [v] i.zero
    |none=>false)
  |none=>false)&&uB P (P.underlying t) i.u&&Nat.beq i.zero.length i.size&&Nat.ble 1 i.size
def TOk (P:Program)(T:TT):Prop:=∀t i,Z1 T t=some i->tiB P t i=true
def X21 (P:Program):∀(T:TT),(T.all λp=>tiB P p.1 p.2)=true->TOk P T
 |[],_=>λt i h=>by simp[Z1]at h
 |(k,j)::r,h=>λt i b=>by
  simp only[List.all_cons,zqi]at h;simp only[Z1]at b;cases hk:Nat.beq k t with
  |true=>
   rw[hk]at b;simp only[zqk,zqb]at b;subst b;have:=zqo hk;subst this;exact h.1
  |false=>
   rw[hk]at b;exact X21 P r h.2 t i (by simpa using b)
structure Lg (P:Program)(t:Nat)(i:TI):Prop where
 info:∃j,P.info? t=some j/\j.size=i.size/\j.bytes=i.bytes/\∃z,j.zero=some z/\z.cells.toList.length=i.zero.length/\(∀(n:Nat) v x,z.cells[n]?=some v->i.zero[n]?=some x->zB v x=true)/\
  (if i.u.agg then∃cs,z = .agg cs else z.cells = #[z])
 u:uB P (P.underlying t) i.u=true
 len:i.zero.length=i.size
 pos:1<=i.size
def TOk.facts {T:TT}(h:TOk P T){i:TI}(U:Z1 T t=some i):Lg P t i:=by
 have B:=h t i U;simp only[tiB,zqi]at B;obtain⟨⟨⟨d,Y⟩,X⟩,Z⟩:=B;refine⟨?_,Y,zqo X,Nat.le_of_ble_eq_true Z⟩;split at d
 ·rename_i j I;simp only[zqi]at d;obtain⟨⟨V,J⟩,c⟩:=d;refine⟨j,I,zqo V,zqo J,?_⟩;split at c
  ·rename_i D r;simp only[zqi]at c;obtain⟨y,z⟩:=P1h c.2;exact⟨_,r,y,λn v x a b=>z n v x (by simpa[Value.cells]using a) b,by rw[c.1];exact⟨D,rfl⟩⟩
  ·rename_i v O r;simp only[zqi,Bool.not_eq_true']at c;obtain⟨y,z⟩:=P1h c.2;have hc:v.cells = #[v]:=by cases v<;>first|rfl|(exact absurd rfl (O _))
   refine⟨_,r,by rw[hc];exact y,λn u x a b=>z n u x (by rw[hc]at a;simpa using a) b,by rw[c.1];exact hc⟩
  ·cases c
 ·cases d
def S1r:Value->A
 |.bool b=>.d (.bool b)
 |.int k n=>bif decide (InK k n)then .d (.int k n)else .junk
 |.string s=>bif Nat.ble s.data.toList.length maxLen then .d (.str s.data.toList)else .junk
 |.slice none l c=>bif Nat.beq l 0&&Nat.beq c 0 then .full []else .junk
 |.pointer none=>.d (.nilv .ptr)
 |.map none=>.d (.nilv .map)
 |.nilFunc=>.d (.nilv .func)
 |.nilIface=>.d (.nilv .iface)
 |.func (.func f) a b=>bif Nat.beq a.size 0&&Nat.beq b.size 0 then .clo f []else .junk
 |.tuple a=>bif Nat.beq a.size 0 then .tup []else .junk
 |_=>.junk
def J1z (M:Mem)(G:Nat->Value)(v:Value):A1 M G (S1r v) v:=by
 unfold S1r;split
 ·exact .d .bool
 ·rename_i k n;cases h:decide (InK k n)
  ·exact .junk
  ·exact .d (.int (of_decide_eq_true h))
 ·rename_i s;cases h:Nat.ble s.data.toList.length maxLen
  ·exact .junk
  ·exact .d (.str (Nat.le_of_ble_eq_true h))
 ·rename_i l c;cases h:Nat.beq l 0&&Nat.beq c 0
  ·exact .junk
  ·simp only[zqi]at h;obtain rfl:=zqo h.1;obtain rfl:=zqo h.2;exact .full .slnil trivial
 ·exact .d .nilptr
 ·exact .d .nilmap
 ·exact .d .nilfunc
 ·exact .d .niliface
 ·rename_i f a b;cases h:Nat.beq a.size 0&&Nat.beq b.size 0
  ·exact .junk
  ·simp only[zqi]at h;obtain rfl:a = #[]:=Array.eq_empty_of_size_eq_zero (zqo h.1);obtain rfl:b = #[]:=Array.eq_empty_of_size_eq_zero (zqo h.2);exact .clo rfl λi x v h=>by simp at h
 ·rename_i a;cases h:Nat.beq a.size 0
  ·exact .junk
  ·obtain rfl:a = #[]:=Array.eq_empty_of_size_eq_zero (zqo h);exact .tup rfl λi x v h=>by simp at h
 ·exact .junk
abbrev GT:=List (Nat×List D)
def Z25:GT->Nat->Option (List D)
 |[],_=>none
 |(k,i)::r,t=>bif Nat.beq k t then some i else Z25 r t
def ev (GL:GT)(env:Env):Operand->A
 |.tmp t=>env t
 |.const v=>S1r v
 |.global g=>match Z25 GL g with|some cs=>.ptr cs|none=>.junk
 |.func f=>.clo f []
def upd (env:Env)(t:Nat)(x:A):Env:=λi=>bif Nat.beq i t then x else env i
def put (env:Env)(dst:Option Nat)(x:A):Env:=
 match dst with
 |some t=>upd env t x
 |none=>env
def nth {α:Type}:List α->Nat->Option α
 |[],_=>none
 |x::_,0=>some x
 |_::r,n+1=>nth r n
def Q2 {α:Type}:∀(l:List α) (n:Nat),nth l n=l[n]?
 |[],_=>rfl
 |_::_,0=>rfl
 |_::r,n+1=>by rw[nth,Q2 r n];rfl
def Kq (i:TI)(cells:List A):Option A:=
 bif i.u.agg then(bif Nat.ble i.size cells.length then some (.agg (cells.take i.size))else none)
 else nth cells 0
def Z9:A->Option (List A)
 |.agg cs=>some cs
 |.junk |.tup _=>none
 |x=>some [x]
def Dy {x:A}(h:A1 M G x v)(hc:Z9 x=some cs) :
  v.cells.size=cs.length/\(∀(i:Nat) u,v.cells[i]?=some u->u.oneCell'=true)/\∀(i:Nat) y u,cs[i]?=some y->v.cells[i]?=some u->A1 M G y u:=by
 have c:∀(x:A) (v:Value),A1 M G x v->v.cells = #[v]->v.oneCell'=true->v.cells.size=[x].length/\(∀(i:Nat) u,v.cells[i]?=some u->u.oneCell'=true)/\∀(i:Nat) y u,[x][i]?=some y->v.cells[i]?=some u->A1 M G y u:=by
  intro x v h e B;rw[e];refine⟨rfl,λi u r=>?_,λi y u D r=>?_⟩
  ·cases i with
   |zero=>simp at r;subst r;exact B
   |succ i=>simp at r
  ·cases i with
   |zero=>simp at r D;subst r;subst D;exact h
   |succ i=>simp at r
 cases h with
 |d h=>simp only[Z9,zqb]at hc;subst hc;exact c _ _ (.d h) h.cells h.one
 |junk=>simp[Z9]at hc
 |ref h=>simp only[Z9,zqb]at hc;subst hc;exact c _ _ (.ref h) rfl rfl
 |ptr N1 T B O=>simp only[Z9,zqb]at hc;subst hc;exact c _ _ (.ptr N1 T B O) rfl rfl
 |full h J=>simp only[Z9,zqb]at hc;subst hc;exact c _ _ (.full h J) h.cells h.one
 |osl h I=>simp only[Z9,zqb]at hc;subst hc;exact c _ _ (.osl h I) h.cells h.one
 |rsl h a b=>simp only[Z9,zqb]at hc;subst hc;exact c _ _ (.rsl h a b) rfl rfl
 |clo z h=>simp only[Z9,zqb]at hc;subst hc;exact c _ _ (.clo z h) rfl rfl
 |bnd z h=>simp only[Z9,zqb]at hc;subst hc;exact c _ _ (.bnd z h) rfl rfl
 |agg z B h=>simp only[Z9,zqb]at hc;subst hc;exact⟨z.symm,B,h⟩
 |tup z h=>simp[Z9]at hc
 |mp h=>simp only[Z9,zqb]at hc;subst hc;exact c _ _ (.mp h) rfl rfl
 |vsl h=>simp only[Z9,zqb]at hc;subst hc;exact c _ _ (.vsl h) rfl rfl
 |vel h=>simp only[Z9,zqb]at hc;subst hc;exact c _ _ (.vel h) rfl rfl
def X19 {i:TI}(f:Lg P t i)(w:World):(isAgg t).run P w = .ok i.u.agg w:=by
 have b:=f.u;cases hd:P.underlying t with
 |none=>rw[hd]at b;simp[uB]at b
 |some d=>
  unfold isAgg;rw[Sem.run_bind,run_underlying hd w];rw[hd]at b;cases d<;>cases hi:i.u<;>simp[hi,uB]at b<;>rfl
def D9 {i:TI}(f:Lg P t i)(w:World):(sizeOf t).run P w = .ok i.size w:=by
 obtain⟨j,c,b,_⟩:=f.info;simp[sizeOf,typeInfo,c,b]
def C17 {P:Program}{i:TI}(f:Lg P t i)(w:World)(a:Addr)(b:List A)(N1:Nat->Value)
  (B:∀(j:Nat) x,b[j]?=some x->w.cell? (a.add j)=some (N1 j)) (I:∀(j:Nat) x,b[j]?=some x->A1 M G x (N1 j)) (O:∀(j:Nat) x,b[j]?=some x->(N1 j).oneCell'=true) {x:A} (c:Kq i b=some x) :
  ∃v,(loadVar t a).run P w = .ok v w/\A1 M G x v:=by
 unfold Kq at c;cases hg:i.u.agg with
 |true=>
  rw[hg]at c;simp only[zqk]at c;cases hb:Nat.ble i.size b.length with
  |false=>rw[hb]at c;cases c
  |true=>
   rw[hb]at c;simp only[zqk,zqb]at c;subst c;have J:=Nat.le_of_ble_eq_true hb;have z:=run_loadCells_list (P:=P) w a ((List.range i.size).map N1) (λj v r=>by
    rw[List.getElem?_map]at r;by_cases y:j<i.size
    ·rw[List.getElem?_range y]at r;simp at r;subst r;exact B j _ (zqv (by omega))
    ·rw[List.getElem?_eq_none (by simp;omega)]at r;cases r)
   simp only[List.length_map,List.length_range]at z;have r:∀(j:Nat) u,((List.range i.size).map N1).toArray[j]?=some u->j<i.size/\N1 j=u:=by
    intro j u d;rw[List.getElem?_toArray,List.getElem?_map]at d;by_cases y:j<i.size
    ·rw[List.getElem?_range y]at d;exact⟨y,by simpa using d⟩
    ·rw[List.getElem?_eq_none (by simp;omega)]at d;cases d
   refine⟨.agg ((List.range i.size).map N1).toArray,?_,.agg (by simp;omega) (λj v d=>?_) λj x v c d=>?_⟩
   ·simp only[loadVar,Sem.run_bind,X19 f w,hg,Result.andThen_ok,zt,D9 f w,z,Sem.run_pure]
   ·obtain⟨y,rfl⟩:=r j v d;exact O j _ (zqv (by omega))
   ·obtain⟨y,rfl⟩:=r j v d;refine I j x ?_;rw[List.getElem?_take]at c;simpa[y]using c
 |false=>
  rw[hg]at c;simp only[zql,Q2]at c;have e:a.add 0=a:=by simp[Addr.add]
  have D:=B 0 x c;rw[e]at D;refine⟨N1 0,?_,I 0 x c⟩;simp only[loadVar,Sem.run_bind,X19 f w,hg,Result.andThen_ok,zqa,zw,run_load,D]
def Ct (a:Addr)(i j:Nat):(a.add i).add j=a.add (i+j):=by
 unfold Addr.add;by_cases h1:i=0
 ·subst h1;simp
 ·by_cases h2:j=0
  ·subst h2;simp[h1]
  ·simp[h1,h2,Nat.add_assoc]
def B5 (b o i:Nat):(⟨b,o,none⟩:Addr).add i=⟨b,o+i,none⟩:=by unfold Addr.add;split<;>simp_all
def Q12 {a:Addr}(c:a.spot=none)(i:Nat):a.add i=⟨a.block,a.off+i,none⟩:=by
 obtain⟨b,o,s⟩:=a;simp only at c;subst c;exact B5 b o i
def Ye {b:Nat}{e:TypeId}{fr:Nat×Nat}(h:w.heap[b]?=some (.cells vs e fr))(j:Nat):w.cell? ⟨b,j,none⟩=vs[j]?:=by
 simp[World.cell?,h]
def Fb (i:TI)(x:A)(H:F0):Option A:=
 match x with
 |.ref o off=>match nth H o with|some (.row cells _)=>Kq i (cells.drop off)|_=>none
 |.ptr cells=>Kq i (cells.map .d)
 |_=>none
def A29 {P:Program}{M:Mem}{G:Nat->Value}(hG:Z3 M w)(hH:Z6 M G w H){i:TI}(f:Lg P t i){x y:A}(r:A1 M G x v)
  (h:Fb i x H=some y):∃u,(Instr.loadAt t v).run P w = .ok u w/\A1 M G y u:=by
 cases r with
 |@ref o z b hb=>
  simp only[Fb,Q2]at h;split at h
  ·rename_i c Y Z;obtain⟨b',O,D,V,J,h3,h4,_⟩:=hH.obj o _ Z;rw[hb]at D;simp only[Value.pointer.injEq,zqb,Addr.mk.injEq,and_true]at D;subst D;have hc:∀(j:Nat) x,(c.drop z)[j]?=some x->∃u,O[z+j]?=some u:=λj x r=>by
    rw[List.getElem?_drop]at r;have U:z+j<O.size:=Nat.lt_of_lt_of_le (zqu.1 r).1 J;exact⟨O[z+j],Array.getElem?_eq_getElem U⟩
   have:=C17 (P:=P) (M:=M) (G:=G) f w ⟨b,z,none⟩ (c.drop z) (λj=>O[z+j]?.getD undef) (λj x r=>by
     obtain⟨u,B⟩:=hc j x r;rw[B5,Ye V,B];rfl) (λj x r=>by
     obtain⟨u,B⟩:=hc j x r;rw[B];rw[List.getElem?_drop]at r;exact h4 _ x u r B) (λj x r=>by
     obtain⟨u,B⟩:=hc j x r;rw[B];exact h3 _ u B) h
   obtain⟨u,B,T⟩:=this;exact⟨u,by simp[Instr.loadAt,Instr.sureAddr,B],T⟩
  ·cases h
 |@ptr c a N1 hs V J=>
  simp only[Fb]at h;have X:∀(j:Nat) x,(c.map A.d)[j]?=some x->∃y,c[j]?=some y/\x = .d y:=λj x r=>by
   rw[List.getElem?_map]at r;cases hc:c[j]? with
   |none=>rw[hc]at r;cases r
   |some y=>rw[hc]at r;exact⟨y,rfl,by simpa using r.symm⟩
  obtain⟨u,B,T⟩:=C17 (P:=P) (M:=M) (G:=G) f w a (c.map .d) N1 (λj x r=>by
    obtain⟨y,I,rfl⟩:=X j x r;exact hG.cell (V j y I) (J j y I)) (λj x r=>by
    obtain⟨y,I,rfl⟩:=X j x r;exact .d (J j y I)) (λj x r=>by
    obtain⟨y,I,rfl⟩:=X j x r;exact(J j y I).one) h
  exact⟨u,by simp[Instr.loadAt,Instr.sureAddr,B],T⟩
 |d h'=>simp[Fb]at h
 |junk=>simp[Fb]at h
 |full _ _=>simp[Fb]at h
 |osl _ _=>simp[Fb]at h
 |rsl _ _ _=>simp[Fb]at h
 |clo _ _=>simp[Fb]at h
 |bnd _ _=>simp[Fb]at h
 |agg _ _ _=>simp[Fb]at h
 |tup _ _=>simp[Fb]at h
 |mp _=>simp[Fb]at h
 |vsl _=>simp[Fb]at h
 |vel _=>simp[Fb]at h
def U2 (x:A):Option (Prop×A):=some (True,x)
def R1c (op:BinOp)(k:IntKind)(a:Int)(k':IntKind)(b:Int):Option (Prop×A):=
 match op with
 |.shl=>some (0<=b,.d (.int k (k.wrap (a*2^(min b.toNat k.bits)))))
 |.shr=>some (0<=b,.d (.int k (a.fdiv (2^(min b.toNat k.bits)))))
 |_=>bif decide (k=k')then
   match op with
   |.add=>U2 (.d (.int k (k.wrap (a+b))))
   |.sub=>U2 (.d (.int k (k.wrap (a-b))))
   |.mul=>U2 (.d (.int k (k.wrap (a*b))))
   |.quo=>some (b≠0,.d (.int k (k.wrap (a.tdiv b))))
   |.rem=>some (b≠0,.d (.int k (a.tmod b)))
   |.and=>U2 (.d (.int k (k.wrap ((BitVec.ofInt k.bits a &&& BitVec.ofInt k.bits b).toNat:Int))))
   |.or=>U2 (.d (.int k (k.wrap ((BitVec.ofInt k.bits a ||| BitVec.ofInt k.bits b).toNat:Int))))
   |.xor=>U2 (.d (.int k (k.wrap ((BitVec.ofInt k.bits a ^^^ BitVec.ofInt k.bits b).toNat:Int))))
   |.eql=>U2 (.d (.bool (a==b)))
   |.neq=>U2 (.d (.bool (a !=b)))
   |.lss=>U2 (.d (.bool (decide (a<b))))
   |.leq=>U2 (.d (.bool (decide (a<=b))))
   |.gtr=>U2 (.d (.bool (decide (a>b))))
   |.geq=>U2 (.d (.bool (decide (a>=b))))
   |_=>none
  else none
def S1c (op:BinOp)(a b:List UInt8):Option (Prop×A):=
 match op with
 |.add=>some (a.length+b.length<=maxLen,.d (.str (a++b)))
 |.eql=>U2 (.d (.bool (a==b)))
 |.neq=>U2 (.d (.bool (!(a==b))))
 |.lss=>U2 (.d (.bool (Op.bytesLess a b)))
 |_=>none
def eqA (u:TU)(x y:A):Option Bool->Option (Prop×A)
 |none=>none
 |some neg=>
  match u,x,y with
  |.bool,.d (.bool a),.d (.bool b)=>U2 (.d (.bool (bif neg then !(a==b)else(a==b))))
  |.ptr _,.d (.nilv .ptr),.d (.nilv .ptr)=>U2 (.d (.bool (!neg)))
  |.ptr _,.ref _ _,.d (.nilv .ptr)=>U2 (.d (.bool neg))
  |.ptr _,.ptr _,.d (.nilv .ptr)=>U2 (.d (.bool neg))
  |.ptr _,.d (.box _),.d (.nilv .ptr)=>U2 (.d (.bool neg))
  |.ptr _,.d (.bxo o),.d (.nilv .ptr)=>U2 (.d (.bool (bif neg then !o.isNone else o.isNone)))
  |.map _ _,.d (.nilv .map),.d (.nilv .map)=>U2 (.d (.bool (!neg)))
  |.map _ _,.mp _,.d (.nilv .map)=>U2 (.d (.bool neg))
  |.func,.d (.nilv .func),.d (.nilv .func)=>U2 (.d (.bool (!neg)))
  |.func,.clo _ _,.d (.nilv .func)=>U2 (.d (.bool neg))
  |_,_,_=>none
def W15:BinOp->Option Bool
 |.eql=>some false
 |.neq=>some true
 |_=>none
def T1c (T:TT)(op:BinOp)(t:Nat)(x y:A):Option (Prop×A):=
 match x,y with
 |.d (.int k a),.d (.int k' b)=>R1c op k a k' b
 |.d (.str a),.d (.str b)=>S1c op a b
 |x,y=>match Z1 T t with|some i=>eqA i.u x y (W15 op)|none=>none
def unA (op:UnOp)(x:A):Option (Prop×A):=
 match op,x with
 |.neg,.d (.int k n)=>U2 (.d (.int k (k.wrap (0-n))))
 |.not,.d (.bool b)=>U2 (.d (.bool (!b)))
 |_,_=>none
def L1j (T:TT)(s t:Nat)(x:A):Option (Prop×A):=
 match Z1 T s,Z1 T t,x with
 |some _,some j,.d (.int _ n)=>match j.u with |.int k=>U2 (.d (.int k (k.wrap n)))|_=>none
 |some i,some j,.d (.str s)=>match i.u,j.u with |.str,.str=>U2 (.d (.str s))|_,_=>none
 |_,_,_=>none
def F18 (x:A)(n:Nat):Option A:=
 match x with
 |.ref o off=>some (.ref o (off+n))
 |.ptr cells=>some (.ptr (cells.drop n))
 |_=>none
def Mn:A->Option (List (List D))
 |.d (.sl rows)=>some rows
 |.full rows=>some rows
 |.osl _ rows=>some rows
 |_=>none
def lenA (T:TT)(t:Nat)(x:A):Option A:=
 match Z1 T t with
 |none=>none
 |some i=>match i.u,x with
  |.str,.d (.str s)=>some (.d (.int .i64 (s.length:Nat)))
  |.arr n _,_=>bif Nat.ble n maxLen then some (.d (.int .i64 (n:Nat)))else none
  |.sl _,.rsl _ _ n _=>some (.d (.int .i64 (n:Nat)))
  |.sl _,.d (.csl _ _ _ n)=>some (.d (.int .i64 (n:Nat)))
  |.sl _,x=>match Mn x with|some rows=>some (.d (.int .i64 (rows.length:Nat)))|none=>none
  |.map _ _,.d (.nilv .map)=>some (.d (.int .i64 0))
  |_,_=>none
def N8:List A->Nat->List A->List A
 |c,0,[]=>c
 |_::c,0,x::xs=>x::N8 c 0 xs
 |c::cs,n+1,xs=>c::N8 cs n xs
 |[],_,_=>[]
def Ks (place:Nat->Option (Nat×Nat))(cells:List A):List (Nat×A)->Option (List A)
 |[]=>some cells
 |(i,x)::rest=>
  match place i,Z9 x with
  |some (off,size),some xs=>bif Nat.beq xs.length size&&Nat.ble (off+size) cells.length then Ks place (N8 cells off xs) rest else none
  |_,_=>none
def M1j (T:TT)(t:Nat)(parts:List (Nat×A)):Option A:=
 match Z1 T t with
 |none=>none
 |some i=>match i.u with
  |.st fs=>(Ks (λn=>(nth fs n).map λf=>(f.2.1,f.2.2)) (i.zero.map .d) parts).map .agg
  |.arr _ e=>match Z1 T e with
   |some j=>(Ks (λn=>some (n*j.size,j.size)) (i.zero.map .d) parts).map .agg
   |none=>none
  |_=>none
def Lp (isMax:Bool):A->A->Option A
 |.d (.int k a),.d (.int k' b)=>bif decide (k=k')then some (.d (.int k (bif isMax then max a b else min a b)))else none
 |_,_=>none
def X13 (m:Bool)(x y z u:A):Option A:=
 match Lp m x y with
 |some p=>match Lp m p z with
  |some q=>Lp m q u
  |none=>none
 |none=>none
def Y19 (T:TT)(b:Builtin)(ts:List Nat)(xs:List A):Option (Prop×A):=
 match b,ts,xs with
 |.len,[t],[x]=>(lenA T t x).map λy=>(True,y)
 |.min,_,[x,y]=>(Lp false x y).map λy=>(True,y)
 |.max,_,[x,y]=>(Lp true x y).map λy=>(True,y)
 |.min,_,[x,y,z,u]=>(X13 false x y z u).map λy=>(True,y)
 |.max,_,[x,y,z,u]=>(X13 true x y z u).map λy=>(True,y)
 |_,_,_=>none
def N1j (T:TT)(len e:Nat)(n:Int)(x:A):Option (Prop×A):=
 match Z1 T e with
 |some j=>match F18 x (n.toNat*j.size)with
  |some p=>bif Nat.ble 2 len then some (0<=n/\n<(len:Int),p)else none
  |none=>none
 |none=>none
def Ey (T:TT)(t:Nat)(x y:A):Option (Prop×A):=
 match Z1 T t,y with
 |some i,.d (.int _ n)=>
  match i.u,x with
  |.arr len e,x=>N1j T len e n x
  |.sl e,.rsl o off len _=>match Z1 T e with
   |some j=>some (0<=n/\n<(len:Int),.ref o (off+n.toNat*j.size))
   |none=>none
  |.sl e,.d (.csl g k off len)=>match Z1 T e with
   |some j=>bif Nat.beq j.size 1 then some (0<=n/\n<(len:Int),.d (.cel g k (off+n.toNat)))else none
   |none=>none
  |_,_=>none
 |_,_=>none
def U1c (T:TT)(t:Nat)(x y:A):Option (Prop×A):=
 match Z1 T t,x,y with
 |some i,.agg cs,.d (.int _ n)=>
  match i.u with
  |.arr len e=>match Z1 T e with
   |some j=>(Kq j (cs.drop (n.toNat*j.size))).map λz=>(0<=n/\n<(len:Int),z)
   |none=>none
  |_=>none
 |_,_,_=>none
def opA (T:TT)(GL:GT)(op:Op)(env:Env)(H:F0):Option (Prop×A):=
 match op with
 |.move x |.assign x=>U2 (ev GL env x)
 |.pick c a b=>match ev GL env c with |.d (.bool t)=>U2 (bif t then ev GL env a else ev GL env b)|_=>none
 |.build t parts=>(M1j T t (parts.toList.map λp=>(p.1,ev GL env p.2))).map λy=>(True,y)
 |.load t a=>match Z1 T t with|some i=>(Fb i (ev GL env a) H).map λy=>(True,y)|none=>none
 |.nilCheck x=>match ev GL env x with |.ref o off=>U2 (.ref o off) |.ptr cs=>U2 (.ptr cs) |.d (.box cs)=>U2 (.ptr cs) |.clo f cs=>U2 (.clo f cs) |.bnd f cs=>U2 (.bnd f cs)|_=>none
 |.binOp op t x y _=>T1c T op t (ev GL env x) (ev GL env y)
 |.unOp op _ x=>unA op (ev GL env x)
 |.convert s t x=>L1j T s t (ev GL env x)
 |.makeFunc (.func f) first caps=>bif Nat.beq first.size 0 then U2 (.clo f (caps.toList.map (ev GL env)))else bif Nat.beq caps.size 0 then U2 (.bnd f (first.toList.map (ev GL env)))else none
 |.fieldAddr t x f=>match Z1 T t with
  |some i=>match i.u with |.st fs=>(match nth fs f with|some g=>(F18 (ev GL env x) g.2.1).map λy=>(True,y)|none=>none)|_=>none
  |none=>none
 |.field t x f=>match Z1 T t,ev GL env x with
  |some i,.agg cs=>match i.u with
   |.st fs=>(match nth fs f with|some g=>(match Z1 T g.1 with|some j=>(Kq j (cs.drop g.2.1)).map λy=>(True,y)|none=>none)|none=>none)
   |_=>none
  |_,_=>none
 |.indexAddr t x y=>Ey T t (ev GL env x) (ev GL env y)
 |.index t x y=>U1c T t (ev GL env x) (ev GL env y)
 |.extract x n=>match ev GL env x with |.tup xs=>(nth xs n).map λy=>(True,y)|_=>none
 |.call { callee:=.builtin b,args,argTypes }=>Y19 T b argTypes.toList (args.toList.map (ev GL env))
 |_=>none
def A26 {k:IntKind}{a b:Int}(c:InK k a):InK k (a.tmod b):=by
 have y:(a.tmod b).natAbs<=a.natAbs:=by rw[Int.natAbs_tmod];exact Nat.mod_le _ _
 have v:0<=a->0<=a.tmod b:=Int.tmod_nonneg b;have r:a<=0->a.tmod b<=0:=λh=>by
  have x:(-a).tmod b = -(a.tmod b):=Int.neg_tmod a b;have z:0<=(-a).tmod b:=Int.tmod_nonneg b (by omega);omega
 have d:k.min<=0/\0<=k.max:=by cases k<;>decide
 obtain⟨l,u⟩:=c;constructor<;>omega
def B26 {k:IntKind}{a:Int}{n:Nat}(c:InK k a):InK k (a.fdiv (2^n)):=by
 have b:(0:Int)<2^n:=by exact_mod_cast Nat.two_pow_pos n
 have v:k.min<=0/\0<=k.max:=by cases k<;>decide
 have e:a.fdiv (2^n)=a / (2^n):=Int.fdiv_eq_ediv_of_nonneg a (Int.le_of_lt b);rw[e];obtain⟨l,u⟩:=c;rcases Int.lt_or_le a 0 with h|h
 ·have r:a<=a / 2^n:=by
   rw[Int.le_ediv_iff_mul_le b];have:(1:Int)<=2^n:=by omega
   have:=Int.mul_le_mul_of_nonpos_left (Int.le_of_lt h) this;omega
  have d:a / 2^n<0:=Int.ediv_neg_of_neg_of_pos h b;constructor<;>omega
 ·have r:0<=a / 2^n:=Int.ediv_nonneg h (Int.le_of_lt b);have d:a / 2^n<=a:=Int.ediv_le_self _ h;constructor<;>omega
section
variable {P:Program}{M:Mem}{G:Nat->Value}{w:World}
def Mp (P:Program)(M:Mem)(G:Nat->Value)(w:World)(s:Sem Value)(x:A):Prop:=∃v,s.run P w = .ok v w/\A1 M G x v
def Y21 {op:BinOp}{k k':IntKind}{a b:Int}{c:Prop}{x:A}(u:InK k a)(h:R1c op k a k' b=some (c,x))(hc:c)(t:Nat) :
  Mp P M G w (binOp op t (.int k a) (.int k' b)) x:=by
 have r:∀n,InK k n->A1 M G (.d (.int k n)) (.int k n):=λn h=>.d (.int h);unfold R1c at h;cases op
 case shl=>
  simp only[zqb,zqh]at h;obtain⟨rfl,rfl⟩:=h;refine⟨.int k (k.wrap (a*2^(min b.toNat k.bits))),?_,r _ (So _ _)⟩;have:¬b<0:=by omega
  simp[binOp,Op.shift,this]
 case shr=>
  simp only[zqb,zqh]at h;obtain⟨rfl,rfl⟩:=h;refine⟨.int k (a.fdiv (2^(min b.toNat k.bits))),?_,r _ (B26 u)⟩;have:¬b<0:=by omega
  simp[binOp,Op.shift,this]
 all_goals
  have e:k=k':=by
   cases hk:decide (k=k')with
   |false=>rw[hk]at h;simp at h
   |true=>exact of_decide_eq_true hk
  subst e;simp only[decide_true,zqk,U2,zqb,zqh,reduceCtorEq]at h
 all_goals obtain⟨rfl,rfl⟩:=h
 case add=>exact⟨_,by simp[binOp,Op.intArith],r _ (So _ _)⟩
 case sub=>exact⟨_,by simp[binOp,Op.intArith],r _ (So _ _)⟩
 case mul=>exact⟨_,by simp[binOp,Op.intArith],r _ (So _ _)⟩
 case quo=>exact⟨_,by simp[binOp,Op.intDiv,hc],r _ (So _ _)⟩
 case rem=>exact⟨_,by simp[binOp,Op.intDiv,hc],r _ (A26 u)⟩
 case and=>exact⟨_,by simp[binOp,Op.intBits],r _ (So _ _)⟩
 case or=>exact⟨_,by simp[binOp,Op.intBits],r _ (So _ _)⟩
 case xor=>exact⟨_,by simp[binOp,Op.intBits],r _ (So _ _)⟩
 all_goals exact⟨_,by simp[binOp,Op.intCmp],.d .bool⟩
def Z21 {op:BinOp}{a b:List UInt8}{c:Prop}{x:A}(h:S1c op a b=some (c,x))(hc:c)(t:Nat) :
  Mp P M G w (binOp op t (.string ⟨a.toArray⟩) (.string ⟨b.toArray⟩)) x:=by
 unfold S1c at h;cases op<;>simp only[U2,zqb,zqh,reduceCtorEq]at h
 all_goals obtain⟨rfl,rfl⟩:=h
 case add=>
  refine⟨.string ⟨(a++b).toArray⟩,?_,.d (.str (by simpa using hc))⟩;have r:¬(((⟨a.toArray⟩:ByteArray).size+(⟨b.toArray⟩:ByteArray).size:Nat):Int)>IntKind.i64.max:=by
   show¬((a.toArray.size+b.toArray.size:Nat):Int)>9223372036854775807;simp only[List.size_toArray];unfold maxLen at hc;omega
  simp only[binOp,Op.stringOp,r,zw,Sem.run_pure];congr 2
 case eql=>exact⟨_,by simp[binOp,Op.stringOp],.d .bool⟩
 case neq=>exact⟨_,by simp[binOp,Op.stringOp],.d .bool⟩
 case lss=>exact⟨_,by simp[binOp,Op.stringOp],.d .bool⟩
def C26 (t:Nat)(a b:Value):∃n,Op.equal t a b=Op.equalIn (n+1) t a b:=⟨9999,rfl⟩
def Vl {i:TI}(f:Lg P t i):∃d,P.underlying t=some d/\uB P (some d) i.u=true:=by
 have b:=f.u;cases hd:P.underlying t with
 |none=>rw[hd]at b;simp[uB]at b
 |some d=>rw[hd]at b;exact⟨d,rfl,b⟩
def K1z {i:TI}(f:Lg P t i)(h:i.u = .bool):P.underlying t=some .bool:=by
 obtain⟨d,c,b⟩:=Vl f;rw[h]at b;cases d<;>simp[uB]at b
 exact c
def Cq {i:TI}(f:Lg P t i)(h:i.u = .str):P.underlying t=some .string:=by
 obtain⟨d,c,b⟩:=Vl f;rw[h]at b;cases d<;>simp[uB]at b
 exact c
def V1c {i:TI}{k:IntKind}(f:Lg P t i)(h:i.u = .int k):P.underlying t=some (.int k):=by
 obtain⟨d,c,b⟩:=Vl f;rw[h]at b;cases d<;>simp[uB]at b
 subst b;exact c
def U11 {i:TI}(f:Lg P t i)(h:i.u = .ptr e):P.underlying t=some (.pointer e):=by
 obtain⟨d,c,b⟩:=Vl f;rw[h]at b;cases d<;>simp[uB]at b
 subst b;exact c
def A7 {i:TI}(f:Lg P t i)(h:i.u = .sl e):P.underlying t=some (.slice e):=by
 obtain⟨d,c,b⟩:=Vl f;rw[h]at b;cases d<;>simp[uB]at b
 subst b;exact c
def X15 {i:TI}{n:Nat}(f:Lg P t i)(h:i.u = .arr n e):P.underlying t=some (.array n e):=by
 obtain⟨d,c,b⟩:=Vl f;rw[h]at b;cases d<;>simp[uB]at b
 obtain⟨rfl,rfl⟩:=b;exact c
def Nn {i:TI}(f:Lg P t i)(h:i.u = .map k e):P.underlying t=some (.map k e):=by
 obtain⟨d,c,b⟩:=Vl f;rw[h]at b;cases d<;>simp[uB]at b
 obtain⟨rfl,rfl⟩:=b;exact c
def O1j {i:TI}(f:Lg P t i)(h:i.u = .func):∃a b c,P.underlying t=some (.func a b c):=by
 obtain⟨d,v,r⟩:=Vl f;rw[h]at r;cases d<;>simp[uB]at r
 exact⟨_,_,_,v⟩
def Q1h:∀{fs:List Field} {gs:List (Nat×Nat×Nat)},fsB P fs gs=true->∀(n:Nat) g,gs[n]?=some g->∃f,fs[n]?=some f/\f.type=g.1/\f.offset=g.2.1/\P.cellsOf g.1=g.2.2/\1<=g.2.2/\(P.info? g.1).isSome=true
 |[],[],_=>λn g h=>by simp at h
 |f::fs,(t,o,s)::r,h=>λn g b=>by
  simp only[fsB,zqi]at h;obtain⟨⟨⟨⟨⟨c,v⟩,d⟩,x⟩,y⟩,u⟩:=h;cases n with
  |zero=>
   simp at b;subst b;exact⟨f,rfl,zqo c,zqo v,zqo d,Nat.le_of_ble_eq_true x,y⟩
  |succ n=>simpa using Q1h u n g (by simpa using b)
 |[],_::_,h=>by simp[fsB]at h
 |_::_,[],h=>by simp[fsB]at h
def T1r {i:TI}{c:List (Nat×Nat×Nat)}(f:Lg P t i)(h:i.u = .st c):∃fs,P.underlying t=some (.struct fs)/\
  ∀(n:Nat) g,c[n]?=some g->∃f,fs[n]?=some f/\f.type=g.1/\f.offset=g.2.1/\P.cellsOf g.1=g.2.2/\1<=g.2.2/\(P.info? g.1).isSome=true:=by
 obtain⟨d,v,b⟩:=Vl f;rw[h]at b;cases d<;>simp only[uB,zqa]at b
 rename_i fs;exact⟨fs,v,λn g r=>by simpa using Q1h b n g r⟩
def P1j {op:BinOp}{neg:Bool}(h:W15 op=some neg):op = .eql/\neg=false\/op = .neq/\neg=true:=by
 cases op<;>simp[W15]at h
 ·exact .inl ⟨rfl,h⟩
 ·exact .inr ⟨rfl,h⟩
def Hl {op:BinOp}{a b:Value}{neg:Bool}(c:op = .eql/\neg=false\/op = .neq/\neg=true)(r:Bool)(u:∀n,(Op.equalIn (n+1) t a b).run P w = .ok r w)
  (x:binOp .eql t a b=(do pure (.bool (<-Op.equal t a b)))) (v:binOp .neq t a b=(do pure (.bool (!(<-Op.equal t a b))))):Mp P M G w (binOp op t a b) (.d (.bool (bif neg then !r else r))):=by
 obtain⟨n,e⟩:=C26 t a b;rcases c with⟨rfl,rfl⟩|⟨rfl,rfl⟩
 ·exact⟨.bool r,by simp[x,e,u],.d .bool⟩
 ·exact⟨.bool (!r),by simp[v,e,u],.d .bool⟩
def V2a {T:TT}(V:TOk P T){op:BinOp}{t:Nat}{i:TI}(O:Z1 T t=some i){x y:A}{a b:Value}(v:A1 M G x a)(d:A1 M G y b){c:Prop}
  (h:eqA i.u x y (W15 op)=some (c,z)):Mp P M G w (binOp op t a b) z:=by
 have f:=V.facts O;cases hn:W15 op with
 |none=>rw[hn]at h;simp[eqA]at h
 |some B=>
  rw[hn]at h;have r:=P1j hn;unfold eqA at h;simp only at h;split at h
  ·rename_i I;have D:=K1z f I;cases v;cases d;rename_i v d;cases v;cases d;simp only[U2,zqb,zqh]at h;obtain⟨_,rfl⟩:=h;exact Hl r _ (λn=>by simp[Op.equalIn,run_underlying D]) rfl rfl
  ·rename_i I;have D:=U11 f I;cases v;cases d;rename_i v d;cases v;cases d;simp only[U2,zqb,zqh]at h;obtain⟨_,rfl⟩:=h;have:=Hl (P:=P) (M:=M) (G:=G) (w:=w) r true (t:=t) (a:=.pointer none) (b:=.pointer none) (λn=>by simp[Op.equalIn,run_underlying D]) rfl rfl;cases B<;>exact this
  ·rename_i I;have D:=U11 f I;cases v;cases d;rename_i U d;cases d;simp only[U2,zqb,zqh]at h;obtain⟨_,rfl⟩:=h;have:=λ(A:Addr)=>Hl (P:=P) (M:=M) (G:=G) (w:=w) r false (t:=t) (a:=.pointer (some A)) (b:=.pointer none) (λn=>by simp[Op.equalIn,run_underlying D]) rfl rfl;cases B<;>exact this _
  ·rename_i I;have D:=U11 f I;cases v;cases d;rename_i a _ _ _ _ d;cases d;simp only[U2,zqb,zqh]at h;obtain⟨_,rfl⟩:=h;have:=Hl (P:=P) (M:=M) (G:=G) (w:=w) r false (t:=t) (a:=.pointer (some a)) (b:=.pointer none) (λn=>by simp[Op.equalIn,run_underlying D]) rfl rfl;cases B<;>exact this
  ·rename_i I;have D:=U11 f I;cases v;cases d;rename_i v d;cases v;cases d;simp only[U2,zqb,zqh]at h;obtain⟨_,rfl⟩:=h;have:=λ(A:Addr)=>Hl (P:=P) (M:=M) (G:=G) (w:=w) r false (t:=t) (a:=.pointer (some A)) (b:=.pointer none) (λn=>by simp[Op.equalIn,run_underlying D]) rfl rfl;cases B<;>exact this _
  ·rename_i I;have D:=U11 f I;cases v;cases d;rename_i v d;cases d;simp only[U2,zqb,zqh]at h;obtain⟨_,rfl⟩:=h;cases v with
   |bxnil=>
    have:=Hl (P:=P) (M:=M) (G:=G) (w:=w) r true (t:=t) (a:=.pointer none) (b:=.pointer none) (λn=>by simp[Op.equalIn,run_underlying D]) rfl rfl;cases B<;>exact this
   |bxs _ _ _ _=>
    have:=λ(A:Addr)=>Hl (P:=P) (M:=M) (G:=G) (w:=w) r false (t:=t) (a:=.pointer (some A)) (b:=.pointer none) (λn=>by simp[Op.equalIn,run_underlying D]) rfl rfl;cases B<;>exact this _
  ·rename_i I;have D:=Nn f I;cases v;cases d;rename_i v d;cases v;cases d;simp only[U2,zqb,zqh]at h;obtain⟨_,rfl⟩:=h;have:=Hl (P:=P) (M:=M) (G:=G) (w:=w) r true (t:=t) (a:=.map none) (b:=.map none) (λn=>by simp[Op.equalIn,run_underlying D]) rfl rfl;cases B<;>exact this
  ·rename_i I;have D:=Nn f I;cases v;cases d;rename_i b U d;cases d;simp only[U2,zqb,zqh]at h;obtain⟨_,rfl⟩:=h;have:=Hl (P:=P) (M:=M) (G:=G) (w:=w) r false (t:=t) (a:=.map (some b)) (b:=.map none) (λn=>by simp[Op.equalIn,run_underlying D]) rfl rfl;cases B<;>exact this
  ·rename_i I;obtain⟨_,_,_,D⟩:=O1j f I;cases v;cases d;rename_i v d;cases v;cases d;simp only[U2,zqb,zqh]at h;obtain⟨_,rfl⟩:=h;have:=Hl (P:=P) (M:=M) (G:=G) (w:=w) r true (t:=t) (a:=.nilFunc) (b:=.nilFunc) (λn=>by simp[Op.equalIn,run_underlying D]) rfl rfl;cases B<;>exact this
  ·rename_i I;obtain⟨_,_,_,D⟩:=O1j f I;cases v;cases d;rename_i J Y X d;cases d;simp only[U2,zqb,zqh]at h;obtain⟨_,rfl⟩:=h;have:=λ(g:FuncId)=>Hl (P:=P) (M:=M) (G:=G) (w:=w) r false (t:=t) (a:=.func (.func g) #[] J) (b:=.nilFunc) (λn=>by simp[Op.equalIn,run_underlying D]) rfl rfl;cases B<;>exact this _
  ·cases h
def B29 {T:TT}(u:TOk P T){op:BinOp}{x y:A}{a b:Value}(r:A1 M G x a)(d:A1 M G y b){c:Prop}
  (h:T1c T op t x y=some (c,z)) (hc:c):Mp P M G w (binOp op t a b) z:=by
 unfold T1c at h;split at h
 ·cases r;cases d;rename_i r d;cases r;cases d;rename_i v _;exact Y21 v h hc t
 ·cases r;cases d;rename_i r d;cases r;cases d;exact Z21 h hc t
 ·split at h
  ·rename_i i B;exact V2a u B r d h
  ·cases h
def G13 {op:BinOp}{X Y:Operand}{a b:Value}(d:a≠.nilIface)(c:∀u,a≠.agg u):(eqGuard op t X Y a b).run P w = .ok () w:=by
 cases a<;>first|(exact absurd rfl d)|(exact absurd rfl (c _))|(cases op<;>simp[eqGuard])
def D26 {T:TT}{op:BinOp}{x y:A}{X Y:Operand}{a b:Value}(d:A1 M G x a){c:Prop}(h:T1c T op t x y=some (c,z)) :
  (eqGuard op t X Y a b).run P w = .ok () w:=by
 have:a≠.nilIface/\∀u,a≠.agg u:=by
  unfold T1c at h;split at h
  ·cases d;rename_i d;cases d;simp
  ·cases d;rename_i d;cases d;simp
  ·split at h
   ·unfold eqA at h;split at h
    ·cases h
    ·split at h
     all_goals first|(cases h;done)|(cases d;first|(rename_i d;cases d<;>simp;done)|(simp;done))
   ·cases h
 exact G13 this.1 this.2
def Lq {s:Sem Value}{x:A}(h:Mp P M G w s x):∃v,(do pure (Next.value (<-s))).run P w = .ok (.value v) w/\A1 M G x v:=by
 obtain⟨v,c,b⟩:=h;exact⟨v,by simp[c],b⟩
def Q1o {x y:A}{n:Nat}(h:F18 x n=some y)(r:A1 M G x v):∃a,v = .pointer (some a)/\a.spot=none/\A1 M G y (.pointer (some (a.add n))):=by
 unfold F18 at h;split at h
 ·cases r;rename_i b D;simp only[zqb]at h;subst h;refine⟨_,rfl,rfl,?_⟩;rw[B5];exact .ref D
 ·rename_i d;cases r;rename_i a N1 u z B;simp only[zqb]at h;subst h;refine⟨a,rfl,u,.ptr (λj=>N1 (n+j)) ?_ (λj x c=>?_) λj x c=>?_⟩
  ·rw[Q12 u]
  ·rw[Ct];rw[List.getElem?_drop]at c;exact z _ x c
  ·rw[List.getElem?_drop]at c;exact B _ x c
 ·cases h
def W2a {op:UnOp}{x:A}{c:Prop}(b:A1 M G x v)(h:unA op x=some (c,z)):Mp P M G w (Op.unary op v) z:=by
 unfold unA at h;split at h
 ·cases b;rename_i b;cases b;simp only[U2,zqb,zqh]at h;obtain⟨_,rfl⟩:=h;exact⟨_,by simp[Op.unary,Op.intArith],.d (.int (So _ _))⟩
 ·cases b;rename_i b;cases b;simp only[U2,zqb,zqh]at h;obtain⟨_,rfl⟩:=h;exact⟨_,by simp[Op.unary],.d .bool⟩
 ·cases h
def E26 {T:TT}(u:TOk P T){s:Nat}{x:A}{c:Prop}(r:A1 M G x v)(h:L1j T s t x=some (c,z)):Mp P M G w (convert s t v) z:=by
 unfold L1j at h;split at h
 ·rename_i i j k n D O;obtain⟨ds,I,_⟩:=Vl (u.facts D);split at h
  ·rename_i k' J;have U:=V1c (u.facts O) J;cases r;rename_i r;cases r;simp only[U2,zqb,zqh]at h;obtain⟨_,rfl⟩:=h;refine⟨.int k' (k'.wrap n),?_,.d (.int (So _ _))⟩;simp[convert,run_underlying I,run_underlying U,Conv.intToInt]
  ·cases h
 ·rename_i i j b D O;split at h
  ·rename_i J y;have U:=Cq (u.facts D) J;have B:=Cq (u.facts O) y;cases r;rename_i r;simp only[U2,zqb,zqh]at h;obtain⟨_,rfl⟩:=h;refine⟨_,?_,.d r⟩;cases r;simp[convert,run_underlying U,run_underlying B]
  ·cases h
 ·cases h
def L9 {x:A}(h:Mn x=some rows)(b:A1 M G x v):F2 M (.sl rows) v:=by
 unfold Mn at h;split at h
 ·cases b;simp only[zqb]at h;subst h;assumption
 ·cases b;simp only[zqb]at h;subst h;assumption
 ·cases b;simp only[zqb]at h;subst h;assumption
 ·cases h
def J10 {n:Nat}(h:n<=maxLen):InK .i64 (n:Int):=by rw[A1x];unfold maxLen at h;omega
def X2a (h:F2 M (.sl rows) v):∃a cap,v = .slice a rows.length cap/\rows.length<=maxLen:=by
 cases h with
 |slnil=>exact⟨none,0,rfl,Nat.zero_le _⟩
 |sl sz N1 c hc b x d r u=>subst c;exact⟨_,_,rfl,Nat.le_trans hc b⟩
def G18 (s:List UInt8):(⟨s.toArray⟩:ByteArray).size=s.length:=by show s.toArray.size=_;simp
def C29 {T:TT}(B:TOk P T){ty:Nat}{x:A}(b:A1 M G x v)(h:lenA T t x=some z):Mp P M G w (Builtin.len_ #[t] ty #[v]) z:=by
 unfold lenA at h;split at h
 ·cases h
 ·rename_i i I;have f:=B.facts I;split at h
  ·rename_i c;have r:=Cq f c;cases b;rename_i b;cases b;rename_i s y;simp only[zqb]at h;subst h;exact⟨.int .i64 s.length,by simp[Builtin.len_,run_underlying r,goInt,G18],.d (.int (J10 y))⟩
  ·rename_i n e c;have r:=X15 f c;cases hb:Nat.ble n maxLen with
   |false=>rw[hb]at h;cases h
   |true=>
    rw[hb]at h;simp only[zqk,zqb]at h;subst h;exact⟨.int .i64 n,by simp[Builtin.len_,run_underlying r,goInt],.d (.int (J10 (Nat.le_of_ble_eq_true hb)))⟩
  ·rename_i c;have r:=A7 f c;cases b;rename_i hc O _;simp only[zqb]at h;subst h;exact⟨_,by simp[Builtin.len_,run_underlying r,goInt],.d (.int (J10 (Nat.le_trans (by assumption) (by assumption))))⟩
  ·rename_i c;have r:=A7 f c;cases b;rename_i b;cases b;simp only[zqb]at h;subst h;exact⟨_,by simp[Builtin.len_,run_underlying r,goInt],.d (.int (J10 (Nat.le_trans (by assumption) (by assumption))))⟩
  ·rename_i c _ _;have r:=A7 f c;split at h
   ·rename_i u J;obtain⟨a,D,rfl,y⟩:=X2a (L9 J b);simp only[zqb]at h;subst h;exact⟨.int .i64 u.length,by simp[Builtin.len_,run_underlying r,goInt],.d (.int (J10 y))⟩
   ·cases h
  ·rename_i c;have r:=Nn f c;cases b;rename_i b;cases b;simp only[zqb]at h;subst h;exact⟨.int .i64 0,by simp[Builtin.len_,run_underlying r,goInt],.d (.int (by decide))⟩
  ·cases h
def Z19 {m:Bool}{x y:A}{a b:Value}(r:A1 M G x a)(c:A1 M G y b)(h:Lp m x y=some z):Mp P M G w (bif m then Builtin.max2 a b else Builtin.min2 a b) z:=by
 unfold Lp at h;split at h
 ·rename_i k n k' n';cases r;cases c;rename_i r c;cases r;cases c;rename_i v u;have e:k=k':=by
   cases hq:decide (k=k')with
   |false=>rw[hq]at h;cases h
   |true=>exact of_decide_eq_true hq
  subst e;simp only[decide_true,zqk,zqb]at h;subst h;cases m
  ·refine⟨.int k (min n n'),?_,.d (.int ?_)⟩
   ·simp only[zql,Builtin.min2];have:(if n'<n then n' else n)=min n n':=by rw[Int.min_def];split<;>split<;>omega
    simp[this]
   ·simp only[zql,Int.min_def];split<;>assumption
  ·refine⟨.int k (max n n'),?_,.d (.int ?_)⟩
   ·simp only[zqk,Builtin.max2];have:(if n'>n then n' else n)=max n n':=by rw[Int.max_def];split<;>split<;>omega
    simp[this]
   ·simp only[zqk,Int.max_def];split<;>assumption
 ·cases h
def Q1j {m:Bool}{x y u r:A}{a b c d:Value}(Y:A1 M G x a)(O:A1 M G y b)(J:A1 M G z c)(T:A1 M G u d)(h:X13 m x y z u=some r)(I:Array TypeId)(t:Nat) :
  Mp P M G w (bif m then Builtin.max_ I t #[a,b,c,d]else Builtin.min_ I t #[a,b,c,d]) r:=by
 unfold X13 at h;split at h
 ·rename_i p X;split at h
  ·rename_i q U;obtain⟨v1,v,V⟩:=Z19 (P:=P) (w:=w) Y O X;obtain⟨v2,B,k2⟩:=Z19 (P:=P) (w:=w) V J U;obtain⟨Z,D,k3⟩:=Z19 (P:=P) (w:=w) k2 T h;refine⟨Z,?_,k3⟩;cases m<;>simp only[zqk,zql]at v B D⊢
   ·simp[Builtin.min_,v,B,D]
   ·simp[Builtin.max_,v,B,D]
  ·cases h
 ·cases h
def R1j {m:Bool}{x y:A}{a b:Value}(r:A1 M G x a)(c:A1 M G y b)(h:Lp m x y=some z)(u:Array TypeId)(t:Nat) :
  Mp P M G w (bif m then Builtin.max_ u t #[a,b]else Builtin.min_ u t #[a,b]) z:=by
 unfold Lp at h;split at h
 ·rename_i k n k' n';cases r;cases c;rename_i r c;cases r;cases c;rename_i B v;have e:k=k':=by
   cases hq:decide (k=k')with
   |false=>rw[hq]at h;cases h
   |true=>exact of_decide_eq_true hq
  subst e;simp only[decide_true,zqk,zqb]at h;subst h;cases m
  ·refine⟨.int k (min n n'),?_,.d (.int ?_)⟩
   ·simp only[zql,Builtin.min_,List.foldlM_cons,List.foldlM_nil,Builtin.min2];have:(if n'<n then n' else n)=min n n':=by rw[Int.min_def];split<;>split<;>omega
    simp[this]
   ·simp only[zql,Int.min_def];split<;>assumption
  ·refine⟨.int k (max n n'),?_,.d (.int ?_)⟩
   ·simp only[zqk,Builtin.max_,List.foldlM_cons,List.foldlM_nil,Builtin.max2];have:(if n'>n then n' else n)=max n n':=by rw[Int.max_def];split<;>split<;>omega
    simp[this]
   ·simp only[zqk,Int.max_def];split<;>assumption
 ·cases h
end
section
variable {P:Program}{M:Mem}{G:Nat->Value}{w:World}
def Px:∀(c:List A) (n:Nat) (xs:List A),(N8 c n xs).length=c.length
 |[],_,_=>by cases ‹Nat› <;>cases ‹List A› <;>rfl
 |_::_,0,[]=>rfl
 |_::c,0,x::xs=>by simp[N8,Px c 0 xs]
 |_::b,n+1,xs=>by simp[N8,Px b n xs]
def Dt:∀(c:List A) (n:Nat) (xs:List A) (i:Nat),n+xs.length<=c.length->(N8 c n xs)[i]?=if n<=i/\i<n+xs.length then xs[i-n]? else c[i]?
 |[],0,[],i,_=>by simp[N8]
 |[],n+1,[],i,_=>by simp[N8]
 |[],n,x::xs,i,h=>by simp at h
 |c::b,0,[],i,_=>by simp[N8]
 |c::b,0,x::xs,i,h=>by
  cases i with
  |zero=>simp[N8]
  |succ i=>
   simp only[N8,List.getElem?_cons_succ];rw[Dt b 0 xs i (by simp at h⊢;omega)];simp only[Nat.zero_le,true_and,zqd,Nat.zero_add,Nat.sub_zero,List.getElem?_cons_succ];by_cases hlt:i<xs.length
   ·rw[zp hlt,zp (by omega)]
   ·rw[zn hlt,zn (by omega)]
 |c::b,n+1,xs,i,h=>by
  cases i with
  |zero=>simp[N8]
  |succ i=>
   simp only[N8,List.getElem?_cons_succ];rw[Dt b n xs i (by simp at h;omega)];by_cases hlt:n<=i/\i<n+xs.length
   ·rw[zp hlt,zp (by omega)];congr 1;omega
   ·rw[zn hlt,zn (by omega)]
def Wl (M:Mem)(G:Nat->Value)(cs:List A)(vs:Array Value):Prop:=
 cs.length=vs.size/\(∀(i:Nat) v,vs[i]?=some v->v.oneCell'=true)/\∀(i:Nat) x v,cs[i]?=some x->vs[i]?=some v->A1 M G x v
def H18 (off:Nat):∀(vs:List Value) (j:Nat) (cs:Array Value),off+j+vs.length<=cs.size->
  ((vs.zipIdx j).foldl (λcs (p:Value×Nat)=>cs.setIfInBounds (off+p.2) p.1) cs).size=cs.size/\
  ∀i:Nat,((vs.zipIdx j).foldl (λcs (p:Value×Nat)=>cs.setIfInBounds (off+p.2) p.1) cs)[i]?=if off+j<=i/\i<off+j+vs.length then vs[i-(off+j)]? else cs[i]?
 |[],j,cs,_=>⟨rfl,λi=>by simp;intro h h';omega⟩
 |v::vs,j,cs,h=>by
  simp only[zqd]at h;obtain⟨c,b⟩:=H18 off vs (j+1) (cs.setIfInBounds (off+j) v) (by simp;omega);simp only[List.zipIdx_cons,List.foldl_cons];refine⟨by rw[c];simp,λi=>?_⟩;rw[b i];simp only[zqd];by_cases hi:off+(j+1)<=i/\i<off+(j+1)+vs.length
  ·rw[zp hi,zp (by omega),show i-(off+j)=(i-(off+(j+1)))+1 by omega,List.getElem?_cons_succ]
  ·rw[zn hi];by_cases he:i=off+j
   ·subst he;rw[zp (by omega),Nat.sub_self,List.getElem?_cons_zero,Array.getElem?_setIfInBounds_self,zp (by omega)]
   ·rw[zn (by omega),Array.getElem?_setIfInBounds_ne (Ne.symm he)]
def K10 {d:Nat->Option (Nat×Nat)}:∀{b:List (Nat×A)} {N1:List (Nat×Value)} {cs:List A} {vs:Array Value} {z:List A},Wl M G cs vs->b.length=N1.length->
  (∀(i:Nat) p q,b[i]?=some p->N1[i]?=some q->p.1=q.1/\A1 M G p.2 q.2)->Ks d cs b=some z->∃T,Instr.fill d vs N1=some T/\Wl M G z T
 |[],[],cs,vs,z,hc,_,_,h=>by simp only[Ks,zqb]at h;subst h;exact⟨vs,rfl,hc⟩
 |[],_::_,_,_,_,_,I,_,_=>by simp at I
 |_::_,[],_,_,_,_,I,_,_=>by simp at I
 |(n,x)::b,(m,v)::N1,cs,vs,z,hc,I,Z,h=>by
  obtain⟨e,hx⟩:=Z 0 _ _ rfl rfl;simp only at e hx;subst e;simp only[Ks]at h;split at h
  ·rename_i c B O U X;obtain⟨a1,a2,a3⟩:=Dy hx X;cases hb:Nat.beq O.length B&&Nat.ble (c+B) cs.length with
   |false=>rw[hb]at h;cases h
   |true=>
    rw[hb]at h;simp only[zqk]at h;simp only[zqi]at hb;have e1:=zqo hb.1;have e2:=Nat.le_of_ble_eq_true hb.2;obtain⟨c1,c2,c3⟩:=hc;have J:v.cells.toList.length=O.length:=by simp[a1]
    obtain⟨f1,f2⟩:=H18 c v.cells.toList 0 vs (by rw[J];omega);have hz:v.cells.zipIdx.foldl (λcs (x:Value×Nat)=>cs.setIfInBounds (c+x.2) x.1) vs=(v.cells.toList.zipIdx 0).foldl (λcs (p:Value×Nat)=>cs.setIfInBounds (c+p.2) p.1) vs:=by
     rw[<-Array.foldl_toList,Array.toList_zipIdx]
    have V:Wl M G (N8 cs c O) (v.cells.zipIdx.foldl (λcs (x:Value×Nat)=>cs.setIfInBounds (c+x.2) x.1) vs):=by
     rw[hz];refine⟨by rw[Px,f1];exact c1,λi u r=>?_,λi y u D r=>?_⟩
     ·rw[f2 i]at r;split at r
      ·exact a2 _ u (by simpa using r)
      ·exact c2 i u r
     ·rw[f2 i]at r;rw[Dt cs c O i (by omega)]at D;rw[J]at r;by_cases hi:c<=i/\i<c+O.length
      ·rw[zp hi]at D;rw[zp (by omega)]at r;exact a3 _ y u D (by simpa using r)
      ·rw[zn hi]at D;rw[zn (by omega)]at r;exact c3 i y u D r
    obtain⟨T,g1,g2⟩:=K10 V (by simpa using I) (λi p q Y hq=>Z (i+1) p q Y hq) h;refine⟨T,?_,g2⟩;simp only[Instr.fill,U];rw[zn (by simp[a1,e1];omega)];exact g1
  ·cases h
def H13 {T:TT}(I:TOk P T){i:TI}(J:Z1 T t=some i):∃z,(∀w,(zeroValue t).run P w = .ok z w)/\Wl M G (i.zero.map .d) z.cells/\(if i.u.agg then∃cs,z = .agg cs else z.cells = #[z]):=by
 obtain⟨j,V,Y,X,z,U,D,B,O⟩:=(I.facts J).info;refine⟨z,λw=>by simp[zeroValue,typeInfo,V,U],⟨by simpa using D.symm,λn v c=>?_,λn x v b c=>?_⟩,O⟩
 ·have r:n<i.zero.length:=by rw[<-D];simpa using(Array.getElem?_eq_some_iff.1 c).1
  exact(Jq (B n v _ c (zqv r)) M).one
 ·rw[List.getElem?_map]at b;cases hz:i.zero[n]? with
  |none=>rw[hz]at b;cases b
  |some y=>
   rw[hz]at b;simp only[zqt,zqb]at b;subst b;exact .d (Jq (B n v y c hz) M)
def R1o {P:Program}:∀{fs:List Field} {gs:List (Nat×Nat×Nat)},fsB P fs gs=true->∀(n:Nat) f,fs[n]?=some f->∃g,gs[n]?=some g
 |[],[],_=>λn g h=>by simp at h
 |f::fs,(t,o,s)::r,h=>λn g b=>by
  simp only[fsB,zqi]at h;cases n with
  |zero=>exact⟨_,rfl⟩
  |succ n=>simpa using R1o h.2 n g (by simpa using b)
 |[],_::_,h=>by simp[fsB]at h
 |_::_,[],h=>by simp[fsB]at h
def S1o {i:TI}{c:List (Nat×Nat×Nat)}(f:Lg P t i)(h:i.u = .st c):∃fs,P.underlying t=some (.struct fs)/\
  (∀(n:Nat) g,c[n]?=some g->∃f,fs[n]?=some f/\f.type=g.1/\f.offset=g.2.1/\P.cellsOf g.1=g.2.2/\1<=g.2.2/\(P.info? g.1).isSome=true)/\∀(n:Nat) f,fs[n]?=some f->∃g,c[n]?=some g:=by
 obtain⟨d,v,b⟩:=Vl f;rw[h]at b;cases d<;>simp only[uB,zqa]at b
 rename_i fs;exact⟨fs,v,λn g r=>by simpa using Q1h b n g r,λn f x=>R1o b n f (by simpa using x)⟩
def Y15 (w:World):∀(fs:List Field),(∀(n:Nat) f,fs[n]?=some f->(P.info? f.type).isSome=true)->
  (fs.mapM λf=>do pure (f.offset,<-sizeOf f.type):Sem (List (Nat×Nat))).run P w = .ok (fs.map λf=>(f.offset,P.cellsOf f.type)) w
 |[],_=>rfl
 |f::fs,h=>by
  have r:=h 0 f rfl;obtain⟨i,c⟩:=Option.isSome_iff_exists.1 r;have b:=Y15 w fs (λn g d=>h (n+1) g (by simpa using d));have u:(sizeOf f.type).run P w = .ok (P.cellsOf f.type) w:=by simp[sizeOf,typeInfo,c,Program.cellsOf]
  rw[List.mapM_cons];simp only[Sem.run_bind,u,Result.andThen_ok,Sem.run_pure,b,List.map_cons]
def S1j (w:World)(b:Array Field)(h:∀(n:Nat) f,b[n]?=some f->(P.info? f.type).isSome=true) :
  ∃c:Array (Nat×Nat),(b.mapM λf=>do pure (f.offset,<-sizeOf f.type):Sem (Array (Nat×Nat))).run P w = .ok c w/\∀n:Nat,c[n]?=(b[n]?).map λf=>(f.offset,P.cellsOf f.type):=by
 have r:=Y15 (P:=P) w b.toList (λn f d=>h n f (by simpa using d));refine⟨(b.toList.map λf=>(f.offset,P.cellsOf f.type)).toArray,?_,λn=>by simp⟩;rw[Array.mapM_eq_mapM_toList];simp only[Sem.run_map,r,Result.andThen_ok]
def A22 {T:TT}(hT:TOk P T){c:List (Nat×A)}{N1:Array (Nat×Value)}(hl:c.length=N1.size)
  (hp:∀(i:Nat) p q,c[i]?=some p->N1[i]?=some q->p.1=q.1/\A1 M G p.2 q.2) (h:M1j T t c=some z):Mp P M G w (Instr.build t N1) z:=by
 unfold M1j at h;split at h
 ·cases h
 ·rename_i i ht;have f:=hT.facts ht;obtain⟨zv,D,y,a1⟩:=H13 (M:=M) (G:=G) hT ht;split at h
  ·rename_i fs Y;obtain⟨u,hd,hf,I⟩:=S1o f Y;cases ho:Ks (λn=>(nth fs n).map λf=>(f.2.1,f.2.2)) (i.zero.map .d) c with
   |none=>rw[ho]at h;cases h
   |some J=>
    rw[ho]at h;simp only[zqt,zqb]at h;subst h;obtain⟨r,X,a0⟩:=S1j (P:=P) w u (λn f x=>by
     obtain⟨g,Z⟩:=I n f x;obtain⟨f',O,e2,_,_,_,e6⟩:=hf n g Z;rw[x]at O;cases O;rw[e2];exact e6)
    have v:∀n,r[n]?=((nth fs n).map λf=>(f.2.1,f.2.2)):=λn=>by
     rw[Q2,a0 n];cases x:fs[n]? with
     |none=>
      have:u[n]?=none:=by
       cases hfn:u[n]? with
       |none=>rfl
       |some f=>obtain⟨g,Z⟩:=I n f hfn;rw[Z]at x;cases x
      rw[this];rfl
     |some g=>
      obtain⟨f',O,e2,e3,e4,_,_⟩:=hf n g x;rw[O];simp[e2,e3,e4]
    have B:(λn=>r[n]?)=(λn=>(nth fs n).map λf=>(f.2.1,f.2.2)):=funext v;have:Ks (λn=>r[n]?) (i.zero.map .d) c=some J:=by rw[B];exact ho
    obtain⟨U,g1,g2,g3,V⟩:=K10 y (by rw[Array.length_toList];exact hl) (λn p q a b=>hp n p q a (by simpa using b)) this;refine⟨.agg U,?_,.agg g2 g3 V⟩;simp only[Instr.build,Sem.run_bind,D,Result.andThen_ok,run_underlying hd,X,g1,Sem.run_pure]
  ·rename_i n e Y;have hd:=X15 f Y;split at h
   ·rename_i j he;cases ho:Ks (λn=>some (n*j.size,j.size)) (i.zero.map .d) c with
    |none=>rw[ho]at h;cases h
    |some J=>
     rw[ho]at h;simp only[zqt,zqb]at h;subst h;obtain⟨U,g1,g2,g3,V⟩:=K10 y (by rw[Array.length_toList];exact hl) (λn p q a b=>hp n p q a (by simpa using b)) ho;refine⟨.agg U,?_,.agg g2 g3 V⟩;simp only[Instr.build,Sem.run_bind,D,Result.andThen_ok,run_underlying hd,D9 (hT.facts he) w,g1,Sem.run_pure]
   ·cases h
  ·cases h
def Mq {k:IntKind}{n:Int}:(asIntOf (.int k n)).run P w = .ok (k,n) w:=rfl
def V1q {T:TT}(D:TOk P T){x y:A}{a b:Value}(v:A1 M G x a)(I:A1 M G y b){c:Prop}
  (h:Ey T t x y=some (c,z)) (hc:c):Mp P M G w (Instr.indexAt t a b) z:=by
 unfold Ey at h;split at h
 ·rename_i i k n X;have f:=D.facts X;cases I;rename_i I;cases I;split at h
  ·rename_i r;have B:=X15 f r;unfold N1j at h;split at h
   ·rename_i j u;split at h
    ·rename_i p Z;rw[cond_eq_ite]at h;split at h
     ·rename_i O;have h2:=Nat.le_of_ble_eq_true O;simp only[zqb,zqh]at h;obtain⟨rfl,rfl⟩:=h;obtain⟨ad,rfl,V,Y⟩:=Q1o Z v;refine⟨_,?_,Y⟩;have a1:=Nat.not_le.2 h2;simp[Instr.indexAt,Mq,run_underlying B,Instr.sureAddr,hc,D9 (D.facts u) w]
     ·cases h
    ·cases h
   ·cases h
  ·rename_i e o J U a0 r;have B:=A7 f r;split at h
   ·rename_i j u;simp only[zqb,zqh]at h;obtain⟨rfl,rfl⟩:=h;cases v;refine⟨_,?_,.ref (by assumption)⟩;simp[Instr.indexAt,Mq,run_underlying B,hc,D9 (D.facts u) w,B5]
   ·cases h
  ·rename_i e g k J U r;have B:=A7 f r;split at h
   ·rename_i j u;rw[cond_eq_ite]at h;split at h
    ·rename_i O;have V:=zqo O;simp only[zqb,zqh]at h;obtain⟨rfl,rfl⟩:=h;cases v;rename_i v;cases v;refine⟨_,?_,.d (.cel (by assumption))⟩;simp[Instr.indexAt,Mq,run_underlying B,hc,D9 (D.facts u) w,B5,V]
    ·cases h
   ·cases h
  ·cases h
 ·cases h
def B1x {T:TT}(V:TOk P T){i:TI}(U:Z1 T t=some i)(hc:Wl M G cs vs){off:Nat}(h:Kq i (cs.drop off)=some z) :
  Mp P M G w (part t vs off) z:=by
 have f:=V.facts U;obtain⟨I,J,c3⟩:=hc;unfold Kq at h;unfold part;cases hg:i.u.agg with
 |true=>
  rw[hg]at h;simp only[zqk]at h;cases hb:Nat.ble i.size (cs.drop off).length with
  |false=>rw[hb]at h;cases h
  |true=>
   rw[hb]at h;simp only[zqk,zqb]at h;subst h;have r:=Nat.le_of_ble_eq_true hb;rw[List.length_drop]at r;have B:=f.pos;have D:∀(j:Nat) v,(vs.extract off (off+i.size))[j]?=some v->j<i.size/\vs[off+j]?=some v:=λj v b=>by
    have c:=(Array.getElem?_eq_some_iff.1 b).1;simp only[Array.size_extract]at c;refine⟨by omega,?_⟩;rw[Array.getElem?_extract,zp (by omega)]at b;exact b
   refine⟨.agg (vs.extract off (off+i.size)),?_,.agg (by simp;omega) (λj v b=>J _ v (D j v b).2) λj x v d b=>?_⟩
   ·simp only[Sem.run_bind,X19 f w,hg,Result.andThen_ok,zt,D9 f w,Sem.run_pure]
   ·obtain⟨O,y⟩:=D j v b;refine c3 (off+j) x v ?_ y;rw[List.getElem?_take,zp O,List.getElem?_drop]at d;exact d
 |false=>
  rw[hg]at h;simp only[zql,Q2,List.getElem?_drop,Nat.add_zero]at h;have c:off<vs.size:=by rw[<-I];exact(zqu.1 h).1
  have b:vs[off]?=some vs[off]:=Array.getElem?_eq_getElem c;refine⟨vs[off],?_,c3 off z _ h b⟩;simp only[Sem.run_bind,X19 f w,hg,Result.andThen_ok,zqa,zw,b,Sem.run_pure]
def B22 {T:TT}(r:TOk P T){x y:A}{a b:Value}(X:A1 M G x a)(d:A1 M G y b){c:Prop}
  (h:U1c T t x y=some (c,z)) (hc:c):Mp P M G w (Instr.index t a b) z:=by
 unfold U1c at h;split at h
 ·rename_i i Y k n D;have f:=r.facts D;cases d;rename_i d;cases d;cases X;rename_i vs h2 U I;split at h
  ·rename_i V e B;have Z:=X15 f B;split at h
   ·rename_i j u;cases hr:Kq j (Y.drop (n.toNat*j.size))with
    |none=>rw[hr]at h;cases h
    |some z'=>
     rw[hr]at h;simp only[zqt,zqb,zqh]at h;obtain⟨rfl,rfl⟩:=h;obtain⟨v,J,O⟩:=B1x (P:=P) (w:=w) r u ⟨U,h2,I⟩ hr;exact⟨v,by simp[Instr.index,Mq,run_underlying Z,hc,D9 (r.facts u) w,J],O⟩
   ·cases h
  ·cases h
 ·cases h
def U1r {T:TT}(c:TOk P T)(d:Z3 M w)(r:Z6 M G w H){i:TI}(u:Z1 T t=some i){x:A}(b:A1 M G x v)(h:Fb i x H=some z) :
  Mp P M G w (Instr.loadAt t v) z:=A29 d r (c.facts u) b h
def L1z {T:TT}(X:TOk P T){i:TI}(I:Z1 T t=some i){fs:List (Nat×Nat×Nat)}(D:i.u = .st fs){n:Nat}{g:Nat×Nat×Nat}(y:nth fs n=some g){x:A}
  (V:A1 M G x v) (h:F18 x g.2.1=some z):Mp P M G w (Instr.fieldAt t v n) z:=by
 obtain⟨B,Z,O⟩:=T1r (X.facts I) D;rw[Q2]at y;obtain⟨f',e1,Y,U,r,e5,e6⟩:=O n g y;obtain⟨a,rfl,hs,J⟩:=Q1o h V;refine⟨_,?_,J⟩;obtain⟨j,d⟩:=Option.isSome_iff_exists.1 e6;have b:(sizeOf f'.type).run P w = .ok g.2.2 w:=by
  rw[Y];simp only[Program.cellsOf,d,zqt,Option.getD_some]at r;simp[sizeOf,typeInfo,d,r]
 have c:¬g.2.2=0:=by omega
 simp[Instr.fieldAt,run_underlying Z,e1,Instr.sureAddr,fieldPlace,b,c,U]
def F26 {T:TT}(d:TOk P T){i:TI}(y:Z1 T t=some i){fs:List (Nat×Nat×Nat)}(x:i.u = .st fs){n:Nat}{g:Nat×Nat×Nat}(b:nth fs n=some g){j:TI}(r:Z1 T g.1=some j)
  (V:A1 M G (.agg cs) v) (h:Kq j (cs.drop g.2.1)=some z):Mp P M G w (Instr.field t v n) z:=by
 obtain⟨c,Y,J⟩:=T1r (d.facts y) x;rw[Q2]at b;obtain⟨f',Z,X,U,e4,e5,e6⟩:=J n g b;cases V;rename_i vs h2 O B;obtain⟨u,D,I⟩:=B1x (P:=P) (w:=w) d r ⟨O,h2,B⟩ h;exact⟨u,by simp[Instr.field,run_underlying Y,Z,asAgg,X,U,D],I⟩
def Y2a {T:TT}{GL:GT}(hT:TOk P T)(hG:Z3 M w)(hH:Z6 M G w H)(o:Oper)(O:∀y∈o.op.operands,A1 M G (ev GL env y) (ρ y)){c:Prop}{x:A}
  (h:opA T GL o.op env H=some (c,x)) (hc:c):∃v,(execOp ρ o).run P w = .ok (.value v) w/\A1 M G x v:=by
 unfold opA at h;unfold execOp;split at h
 ·rename_i B;rw[B]at O⊢;simp only[U2,zqb,zqh]at h;obtain⟨_,rfl⟩:=h;exact⟨_,rfl,O _ (by simp[Op.operands])⟩
 ·rename_i B;rw[B]at O⊢;simp only[U2,zqb,zqh]at h;obtain⟨_,rfl⟩:=h;exact⟨_,rfl,O _ (by simp[Op.operands])⟩
 ·rename_i c' a b B;rw[B]at O⊢;split at h
  ·rename_i t ht;have U:=O c' (by simp[Op.operands]);have h2:=O a (by simp[Op.operands]);have h3:=O b (by simp[Op.operands]);rw[ht]at U;generalize hcv:ρ c'=cv at U;cases U;rename_i U;cases U;simp only[U2,zqb,zqh]at h;obtain⟨_,rfl⟩:=h;cases t
   ·exact⟨ρ b,by simp[hcv,asBool],h3⟩
   ·exact⟨ρ a,by simp[hcv,asBool],h2⟩
  ·cases h
 ·rename_i t a6 B;rw[B]at O⊢;cases hb:M1j T t (a6.toList.map λp=>(p.1,ev GL env p.2))with
  |none=>rw[hb]at h;cases h
  |some y=>
   rw[hb]at h;simp only[zqt,zqb,zqh]at h;obtain⟨_,rfl⟩:=h;refine Lq (A22 hT (by simp) (λi p q hp hq=>?_) hb);simp only[List.getElem?_map,Array.getElem?_toList,Array.getElem?_map]at hp hq;cases hpi:a6[i]? with
   |none=>rw[hpi]at hp;cases hp
   |some pr=>
    rw[hpi]at hp hq;simp only[zqt,zqb]at hp hq;subst hp;subst hq;exact⟨rfl,O _ (by simp only[Op.operands,List.mem_toArray,List.mem_map];exact⟨pr,by simpa using Array.mem_of_getElem? hpi,rfl⟩)⟩
 ·rename_i t a B;rw[B]at O⊢;split at h
  ·rename_i i ht;cases hb:Fb i (ev GL env a) H with
   |none=>rw[hb]at h;cases h
   |some y=>
    rw[hb]at h;simp only[zqt,zqb,zqh]at h;obtain⟨_,rfl⟩:=h;exact Lq (U1r hT hG hH ht (O a (by simp[Op.operands])) hb)
  ·cases h
 ·rename_i y B;rw[B]at O⊢;have U:=O y (by simp[Op.operands]);split at h
  ·rename_i he;rw[he]at U;generalize Z:ρ y=v at U;cases U;simp only[U2,zqb,zqh]at h;obtain⟨_,rfl⟩:=h;exact⟨_,by simp only[Z];rfl,.ref (by assumption)⟩
  ·rename_i he;rw[he]at U;generalize Z:ρ y=v at U;cases U;rename_i N1 a b c;simp only[U2,zqb,zqh]at h;obtain⟨_,rfl⟩:=h;exact⟨_,by simp only[Z];rfl,.ptr N1 a b c⟩
  ·rename_i he;rw[he]at U;generalize Z:ρ y=v at U;cases U;rename_i U;cases U;rename_i N1 a b c;simp only[U2,zqb,zqh]at h;obtain⟨_,rfl⟩:=h;exact⟨_,by simp only[Z];rfl,.ptr N1 a b c⟩
  ·rename_i he;rw[he]at U;generalize Z:ρ y=v at U;cases U;rename_i a b;simp only[U2,zqb,zqh]at h;obtain⟨_,rfl⟩:=h;exact⟨_,by simp only[Z];rfl,.clo a b⟩
  ·rename_i he;rw[he]at U;generalize Z:ρ y=v at U;cases U;rename_i a b;simp only[U2,zqb,zqh]at h;obtain⟨_,rfl⟩:=h;exact⟨_,by simp only[Z];rfl,.bnd a b⟩
  ·cases h
 ·rename_i op t x y yt B;rw[B]at O⊢;have U:=O x (by simp[Op.operands]);have h2:=O y (by simp[Op.operands]);obtain⟨v,g1,g2⟩:=B29 (w:=w) hT U h2 h hc;exact⟨v,by simp[D26 (P:=P) (w:=w) (X:=x) (Y:=y) (b:=ρ y) U h,g1],g2⟩
 ·rename_i op t x B;rw[B]at O⊢;exact Lq (W2a (O x (by simp[Op.operands])) h)
 ·rename_i s t x B;rw[B]at O⊢;exact Lq (E26 hT (O x (by simp[Op.operands])) h)
 ·rename_i f first a5 B
  rw[B]at O⊢;cases hb:Nat.beq first.size 0 with
  |false=>
   rw[hb]at h;cases hb2:Nat.beq a5.size 0 with
   |false=>rw[hb2]at h;cases h
   |true=>
    rw[hb2]at h;simp only[zqk,zql,U2,zqb,zqh]at h;obtain⟨_,rfl⟩:=h;obtain rfl:a5 = #[]:=Array.eq_empty_of_size_eq_zero (zqo hb2);refine⟨.func (.func f) (first.map ρ) #[],by simp[Instr.makeFunc],.bnd (by simp) λi x v V Z=>?_⟩;simp only[List.getElem?_map,Array.getElem?_toList,Array.getElem?_map]at V Z;cases hpi:first[i]? with
    |none=>rw[hpi]at V;cases V
    |some pr=>
     rw[hpi]at V Z;simp only[zqt,zqb]at V Z;subst V;subst Z;exact O _ (by simp only[Op.operands,Array.append_empty];exact Array.mem_of_getElem? hpi)
  |true=>
   rw[hb]at h;simp only[zqk,U2,zqb,zqh]at h;obtain⟨_,rfl⟩:=h;obtain rfl:first = #[]:=Array.eq_empty_of_size_eq_zero (zqo hb)
   refine⟨.func (.func f) #[] (a5.map ρ),by simp[Instr.makeFunc],.clo (by simp) λi x v V Z=>?_⟩;simp only[List.getElem?_map,Array.getElem?_toList,Array.getElem?_map]at V Z;cases hpi:a5[i]? with
   |none=>rw[hpi]at V;cases V
   |some pr=>
    rw[hpi]at V Z;simp only[zqt,zqb]at V Z;subst V;subst Z;exact O _ (by simp only[Op.operands,Array.empty_append];exact Array.mem_of_getElem? hpi)
 ·rename_i t x f B;rw[B]at O⊢;split at h
  ·rename_i i ht;split at h
   ·rename_i fs hu;split at h
    ·rename_i g hg;cases hb:F18 (ev GL env x) g.2.1 with
     |none=>rw[hb]at h;cases h
     |some y=>
      rw[hb]at h;simp only[zqt,zqb,zqh]at h;obtain⟨_,rfl⟩:=h;exact Lq (L1z hT ht hu hg (O x (by simp[Op.operands])) hb)
    ·cases h
   ·cases h
  ·cases h
 ·rename_i t x f B;rw[B]at O⊢;split at h
  ·rename_i i cs ht he;split at h
   ·rename_i fs hu;split at h
    ·rename_i g hg;split at h
     ·rename_i j hj;cases hb:Kq j (cs.drop g.2.1)with
      |none=>rw[hb]at h;cases h
      |some y=>
       rw[hb]at h;simp only[zqt,zqb,zqh]at h;obtain⟨_,rfl⟩:=h;have U:=O x (by simp[Op.operands]);rw[he]at U;exact Lq (F26 hT ht hu hg hj U hb)
     ·cases h
    ·cases h
   ·cases h
  ·cases h
 ·rename_i t x y B;rw[B]at O⊢;exact Lq (V1q hT (O x (by simp[Op.operands])) (O y (by simp[Op.operands])) h hc)
 ·rename_i t x y B;rw[B]at O⊢;exact Lq (B22 hT (O x (by simp[Op.operands])) (O y (by simp[Op.operands])) h hc)
 ·rename_i y n B;rw[B]at O⊢;have U:=O y (by simp[Op.operands]);split at h
  ·rename_i xs he;rw[he]at U;cases hb:nth xs n with
   |none=>rw[hb]at h;cases h
   |some z=>
    rw[hb]at h;simp only[zqt,zqb,zqh]at h;obtain⟨_,rfl⟩:=h;rw[Q2]at hb;generalize Z:ρ y=v at U;cases U;rename_i vs hl hr;have a9:n<vs.size:=by rw[<-hl];exact(zqu.1 hb).1
    have a8:vs[n]?=some vs[n]:=Array.getElem?_eq_getElem a9;exact⟨vs[n],by simp[Z,Instr.extract,a8],hr n z _ hb a8⟩
  ·cases h
 ·rename_i b D I B;rw[B]at O⊢;have J:∀(i:Nat) a,D[i]?=some a->A1 M G (ev GL env a) (ρ a):=λi a ha=>
   O a (by simp only[Op.operands,Call.operands,Array.empty_append];exact Array.mem_of_getElem? ha)
  unfold Y19 at h;split at h
  ·rename_i t x a7 r;obtain⟨ty,rfl⟩:∃t,I = #[t]:=⟨t,by rw[<-Array.toArray_toList (xs:=I),a7]⟩
   obtain⟨ar,a0,V⟩:∃a,D = #[a]/\x=ev GL env a:=by
    match hl:D.toList,r with
    |[a],r=>exact⟨a,by rw[<-Array.toArray_toList (xs:=D),hl],by simpa using r.symm⟩
   subst a0;simp only[List.cons.injEq,and_true]at a7;subst a7;subst V;cases hb:lenA T ty (ev GL env ar)with
   |none=>rw[hb]at h;cases h
   |some z=>
    rw[hb]at h;simp only[zqt,zqb,zqh]at h;obtain⟨_,rfl⟩:=h;obtain⟨v,g1,g2⟩:=C29 (w:=w) hT (ty:=o.type) (J 0 ar rfl) hb;exact⟨v,by simp[resolve,invoke,builtin,g1],g2⟩
  ·rename_i x y r;obtain⟨a1,a2,a0,V,hy⟩:∃a b,D = #[a,b]/\x=ev GL env a/\y=ev GL env b:=by
    match hl:D.toList,r with
    |[a,b],r=>exact⟨a,b,by rw[<-Array.toArray_toList (xs:=D),hl],by simp at r;exact r.1.symm,by simp at r;exact r.2.symm⟩
   subst a0;subst V;subst hy;cases hb:Lp false (ev GL env a1) (ev GL env a2)with
   |none=>rw[hb]at h;cases h
   |some z=>
    rw[hb]at h;simp only[zqt,zqb,zqh]at h;obtain⟨_,rfl⟩:=h;obtain⟨v,g1,g2⟩:=R1j (P:=P) (w:=w) (J 0 a1 rfl) (J 1 a2 rfl) hb I o.type;exact⟨v,by simp only[zql]at g1;simp[resolve,invoke,builtin,g1],g2⟩
  ·rename_i x y r;obtain⟨a1,a2,a0,V,hy⟩:∃a b,D = #[a,b]/\x=ev GL env a/\y=ev GL env b:=by
    match hl:D.toList,r with
    |[a,b],r=>exact⟨a,b,by rw[<-Array.toArray_toList (xs:=D),hl],by simp at r;exact r.1.symm,by simp at r;exact r.2.symm⟩
   subst a0;subst V;subst hy;cases hb:Lp true (ev GL env a1) (ev GL env a2)with
   |none=>rw[hb]at h;cases h
   |some z=>
    rw[hb]at h;simp only[zqt,zqb,zqh]at h;obtain⟨_,rfl⟩:=h;obtain⟨v,g1,g2⟩:=R1j (P:=P) (w:=w) (J 0 a1 rfl) (J 1 a2 rfl) hb I o.type;exact⟨v,by simp only[zqk]at g1;simp[resolve,invoke,builtin,g1],g2⟩
  ·rename_i x y z u r;obtain⟨a1,a2,a3,a4,a0,V,hy,hz,hu⟩:∃a b c d,D = #[a,b,c,d]/\x=ev GL env a/\y=ev GL env b/\z=ev GL env c/\u=ev GL env d:=by
    match hl:D.toList,r with
    |[a,b,c,d],r=>
     simp at r;exact⟨a,b,c,d,by rw[<-Array.toArray_toList (xs:=D),hl],r.1.symm,r.2.1.symm,r.2.2.1.symm,r.2.2.2.symm⟩
   subst a0;subst V;subst hy;subst hz;subst hu;cases hb:X13 false (ev GL env a1) (ev GL env a2) (ev GL env a3) (ev GL env a4)with
   |none=>rw[hb]at h;cases h
   |some z=>
    rw[hb]at h;simp only[zqt,zqb,zqh]at h;obtain⟨_,rfl⟩:=h;obtain⟨v,g1,g2⟩:=Q1j (P:=P) (w:=w) (J 0 a1 rfl) (J 1 a2 rfl) (J 2 a3 rfl) (J 3 a4 rfl) hb I o.type;exact⟨v,by simp only[zql]at g1;simp[resolve,invoke,builtin,g1],g2⟩
  ·rename_i x y z u r;obtain⟨a1,a2,a3,a4,a0,V,hy,hz,hu⟩:∃a b c d,D = #[a,b,c,d]/\x=ev GL env a/\y=ev GL env b/\z=ev GL env c/\u=ev GL env d:=by
    match hl:D.toList,r with
    |[a,b,c,d],r=>
     simp at r;exact⟨a,b,c,d,by rw[<-Array.toArray_toList (xs:=D),hl],r.1.symm,r.2.1.symm,r.2.2.1.symm,r.2.2.2.symm⟩
   subst a0;subst V;subst hy;subst hz;subst hu;cases hb:X13 true (ev GL env a1) (ev GL env a2) (ev GL env a3) (ev GL env a4)with
   |none=>rw[hb]at h;cases h
   |some z=>
    rw[hb]at h;simp only[zqt,zqb,zqh]at h;obtain⟨_,rfl⟩:=h;obtain⟨v,g1,g2⟩:=Q1j (P:=P) (w:=w) (J 0 a1 rfl) (J 1 a2 rfl) (J 2 a3 rfl) (J 3 a4 rfl) hb I o.type;exact⟨v,by simp only[zqk]at g1;simp[resolve,invoke,builtin,g1],g2⟩
  ·cases h
 ·cases h
end
def V1r (M:Mem)(w:World)(b:Nat):Prop:=∃vs t f,w.heap[b]?=some (.cells vs t f)/\0<vs.size/\∀i,i<vs.size->M ⟨b,i,none⟩≠none
structure Cx where
 P:Program
 T:TT
 GL:GT
 gp:Mem->World->Prop
 gpm:∀{M M':Mem} {w w':World},(∀a v,M a=some v->M' a=some v)->(∀b,V1r M w b->w'.heap[b]?=w.heap[b]?)->gp M w->gp M' w'
structure T1 (C:Cx):Prop where
 tok:TOk C.P C.T
 mixed:C.P.follows .mixedOrders=true
def D29 (hH:Z6 M G w H){b:Nat}(hs:V1r M w b):¬own G H b:=by
 rintro⟨o,x,Z,c⟩;obtain⟨O,t,f,V,D,y⟩:=hs;have r:=hH.obj o x Z;generalize G o=g at c r;cases x with
 |dead=>simp[blk]at c
 |row I d=>
  obtain⟨T,X,rfl,_,_,_,_,B⟩:=r;simp[blk]at c;subst c;exact y 0 D (B 0 none)
 |tok d sz=>
  rcases r with rfl|⟨a,n,v,rfl,_,_,_,U⟩
  ·simp[blk]at c
  ·obtain⟨u,c⟩:=c;obtain⟨_,X,z,g2,J⟩:=U u;subst c;rw[V]at z;cases z;have hm:(n+1)*sz<=v*sz:=Nat.mul_le_mul_right sz u;rw[Nat.add_mul,Nat.one_mul]at hm;rcases Nat.eq_zero_or_pos sz with h0|h0
   ·subst h0;exact y 0 D (J 0 none (by omega))
   ·exact y (O.size-1) (by omega) (J (O.size-1) none (by omega))
 |gone=>simp[blk]at c
 |rok d sz=>
  rcases r with rfl|⟨a,n,v,rfl,_,_,_,U⟩
  ·simp[blk]at c
  ·obtain⟨u,c⟩:=c;obtain⟨_,X,z,g2,J⟩:=U u;subst c;rw[V]at z;cases z;have hm:(n+1)*sz<=v*sz:=Nat.mul_le_mul_right sz u;rw[Nat.add_mul,Nat.one_mul]at hm;rcases Nat.eq_zero_or_pos sz with h0|h0
   ·subst h0;exact y 0 D (J 0 none (by omega))
   ·exact y (O.size-1) (by omega) (J (O.size-1) none (by omega))
 |map es=>
  obtain⟨T,ms,cl,rfl,z,_⟩:=r;simp[blk]at c;subst c;rw[V]at z;cases z
 |bld o' d=>
  obtain⟨T,v0,rfl,_,_,_,B⟩:=r;simp[blk]at c;subst c;exact y 0 D (B 0 none)
 |buf d bs=>
  rcases r with⟨_,⟨rfl,_⟩|⟨T,v,a0,rfl,_,_,_,_,_,B⟩⟩
  ·simp[blk]at c
  ·simp[blk]at c;subst c;exact y 0 D (B 0 none)
 |vec d sz I=>
  rcases r with⟨rfl,_⟩|⟨a,rfl,_⟩|⟨T,n,v,rfl,_,_,_,_,B⟩
  ·simp[blk]at c
  ·simp[blk]at c
  ·obtain⟨_,rfl⟩:=c;exact y 0 D (B.free 0 none)
 |slots γ d l=>
  obtain⟨bs,rfl,z,_,_,_,h5,B⟩:=r;rcases List.mem_cons.1 (Zk.1 c)with rfl|hm
  ·exact y 0 D (h5 0 none (by simp))
  ·obtain⟨i,Y⟩:=List.getElem?_of_mem hm;have hl:i<l.length:=by rw[<-z];exact(zqu.1 Y).1
   exact y 0 D ((B i b _ Y (zqv hl)).free 0 none)
structure L10 (C:Cx)(M:Mem)(w:World):Prop where
 tab:∀G g cs,Z25 C.GL g=some cs->A1 M G (.ptr cs) (.pointer (some ⟨g,0,none⟩))
 gp:C.gp M w
def L10.ext {C:Cx}{d:World}(h:L10 C M w)(z:Z6 M G w H)(c:Ext S M w M' d)(v:∀b,S b->own G H b):L10 C M' d:=
 ⟨λG g u e=>(h.tab G g u e).mono' c.mono,C.gpm c.mono (λb r=>c.block b (by obtain⟨B,t,f,x,_⟩:=r;exact(Array.getElem?_eq_some_iff.1 x).1) λy=>D29 z r (v b y)) h.gp⟩
structure FN where
 n:Nat
 d:List Deferred
variable {N:FN}
instance:CoeOut FN Nat:=⟨FN.n⟩
structure St (C:Cx)(N:FN)(M:Mem)(G:Nat->Value)(w:World)(env:Env)(H:F0)(a:Act):Prop where
 good:Z3 M w
 gl:L10 C M w
 hrel:Z6 M G w H
 env:∀t,A1 M G (env t) (a.tmps.getD t undef)
 size:a.tmps.size=N
 defers:a.defers=N.d
def isTok:Ob->Bool
 |.tok ..=>true
 |.gone=>true
 |.buf ..=>true
 |.vec ..=>true
 |.slots ..=>true
 |_=>false
structure Fr where
 H0:F0
 G0:Nat->Value
 M0:Mem
 w0:World
variable {fr:Fr}
structure D2 (fr:Fr)(M:Mem)(G:Nat->Value)(w:World)(H:F0):Prop where
 ext:Ext (own fr.G0 fr.H0) fr.M0 fr.w0 M w
 own:∀b,own G H b->own fr.G0 fr.H0 b\/fr.w0.heap.size<=b
 len:fr.H0.length<=H.length
 keep:∀(o:Nat) x,fr.H0[o]?=some x->isTok x=false->G o=fr.G0 o
 kind:∀(o:Nat) x y,fr.H0[o]?=some x->isTok x=false->H[o]?=some y->isTok y=false
structure Fx where
 C:Cx
 N:FN
 K:Nat
 pan:Value->Env->F0->Prop
 esc:Fr->Exit->Act->World->Prop
variable {F:Fx}
def noP:Value->F0->Prop:=λ_ _=>False
def Z15:Value->Env->F0->Prop:=λ_ _ _=>False
def D11:Fr->Exit->Act->World->Prop:=λ_ _ _ _=>False
abbrev fx (C:Cx)(n K:Nat):Fx:=⟨C,⟨n,[]⟩,K,Z15,D11⟩
def St.eval {C:Cx}{N:FN}{M:Mem}{G:Nat->Value}{w:World}{env:Env}{H:F0}{a:Act}(h:St C N M G w env H a)(y:Operand):A1 M G (ev C.GL env y) (a.eval y):=by
 cases y with
 |tmp t=>exact h.env t
 |const v=>exact J1z M G v
 |global g=>
  simp only[ev];split
  ·exact h.gl.tab G g _ (by assumption)
  ·exact .junk
 |func f=>exact .clo rfl λi x v h=>by simp at h
def Np {x:A}{a:Act}{N:Nat}(c:∀t,A1 M G (env t) (a.tmps.getD t undef))(r:a.tmps.size=N)(y:∀d,dst=some d->d<N)(u:A1 M G x v) :
  (∀t,A1 M G (put env dst x t) ((a.put dst v).tmps.getD t undef))/\(a.put dst v).tmps.size=N/\(a.put dst v).defers=a.defers:=by
 cases dst with
 |none=>exact⟨c,r,rfl⟩
 |some d=>
  refine⟨λt=>?_,by simp[Act.put,r],rfl⟩;have z:=y d rfl;simp only[put,upd,Act.put];cases hb:Nat.beq t d with
  |true=>
   have:=zqo hb;subst this;simp only[zqk];have:t<a.tmps.size:=by omega
   simpa[this]using u
  |false=>
   have b:d≠t:=λe=>by subst e;simp at hb
   simp only[zql];have:=c t;simpa[Array.getElem?_setIfInBounds_ne b]using this
def St.quiet {C:Cx}{c:World}{a:Act}(h:St C N M G w env H a)(B:∀d,dst=some d->d<N){x:A}
  (z:A1 M' G x v) (r:Z3 M' c) (b:Ext W5 M w M' c):St C N M' G c (put env dst x) H (a.put dst v):=by
 obtain⟨y,D,u⟩:=Np (λt=>(h.env t).mono' b.mono) h.size B z;exact⟨r,h.gl.ext h.hrel b (λ_ h=>h.elim),h.hrel.ext b (λ_ _=>id),y,D,u.trans h.defers⟩
def D2.quiet {b:World}(h:D2 fr M G w H)(c:Ext W5 M w M' b):D2 fr M' G b H:=
 ⟨h.ext.trans c (λ_ h=>h.elim),h.own,h.len,h.keep,h.kind⟩
def R4 (C:Cx)(o:Oper)(env:Env)(H:F0)(x:A):Prop:=
 ∀M G w (a:Act) (next:Act->World->Prop) (Qw:Exit->Act->World->Prop),(∀y∈o.op.operands,A1 M G (ev C.GL env y) (a.eval y))->Z3 M w->L10 C M w->Z6 M G w H->
  (∀v M' w',A1 M' G x v->Z3 M' w'->Ext W5 M w M' w'->next (a.put o.dst v) w')->o.wp C.P a w next Qw
def Al {C:Cx}(hC:T1 C){c:Prop}{x:A}(h:opA C.T C.GL o.op env H=some (c,x))(hc:c):R4 C o env H x:=by
 intro M G w a d D z b _ B r;obtain⟨v,u,y⟩:=Y2a hC.tok b B o z h hc;unfold Oper.wp;rw[u];exact r v M w y b (Ext.refl _ _ _)
def K1 (L:List Oper)(env:Env)(o:Oper):Option Bool:=
 match o.guard with
 |none=>some true
 |some (j,want)=>
  match nth L j with
  |some p=>match p.dst with
   |some d=>match env d with
    |.d (.bool b)=>some (b==want)
    |.tup []=>some false
    |_=>none
   |none=>none
  |none=>none
def Nq {C:Cx}{a:Act}(h:St C N M G w env H a){b:Bool}(c:K1 L env o=some b) :
  Region.wanted o (yielded L.toArray a.tmps)=b:=by
 unfold K1 at c;unfold Region.wanted;split at c
 ·rename_i z;rw[z];simpa using c
 ·rename_i j u z;rw[z];split at c
  ·rename_i p y;split at c
   ·rename_i d D;split at c
    ·rename_i I B;simp only[zqb]at c;have r:=h.env d;rw[B]at r;generalize hv:a.tmps.getD d undef=v at r;cases r;rename_i r;cases r;have x:d<a.tmps.size:=by
      rcases Nat.lt_or_ge d a.tmps.size with h'|h'
      ·exact h'
      ·simp[Array.getElem?_eq_none h',undef]at hv
     have:yielded L.toArray a.tmps j=some I:=by
      unfold yielded;rw[Q2]at y;simp only[List.getElem?_toArray,y,Option.bind_some,D];simp[x]at hv;simp[x,hv]
     simp only[this];subst c;cases I<;>cases u<;>rfl
    ·rename_i B;simp only[zqb]at c;subst c;have r:=h.env d;rw[B]at r;generalize hv:a.tmps.getD d undef=v at r;cases r;rename_i J O _;have e:J = #[]:=Array.eq_empty_of_size_eq_zero (by simpa using O.symm);subst e;have:yielded L.toArray a.tmps j=none:=by
      unfold yielded;rw[Q2]at y;simp only[List.getElem?_toArray,y,Option.bind_some,D];rcases Nat.lt_or_ge d a.tmps.size with h'|h'
      ·simp[h']at hv;simp[h',hv]
      ·simp[Array.getElem?_eq_none h']
     simp only[this];cases u<;>rfl
    ·cases c
   ·cases c
  ·cases c
def Hk (N:Nat)(o:Oper):Bool:=match o.dst with|some d=>Nat.blt d N|none=>true
def A4 {N:Nat}(h:Hk N o=true):∀d,o.dst=some d->d<N:=by
 intro d b;unfold Hk at h;rw[b]at h;exact Nat.le_of_ble_eq_true h
def K0 (F:Fx)(L l:List Oper)(env:Env)(H:F0)(Q:Env->F0->Prop):Prop:=
 ∀fr M G w a (Qw:Exit->Act->World->Prop),fr.H0.length=F.K->(∀o∈l,Hk F.N o=true)->St F.C F.N M G w env H a->D2 fr M G w H->
  ((∀env' H' M' G' w' a',Q env' H'->St F.C F.N M' G' w' env' H' a'->D2 fr M' G' w' H'->Qw .normal a' w')/\∀v env' H' M' G' w' a',F.pan v env' H'->St F.C F.N M' G' w' env' H' a'->D2 fr M' G' w' H'->Qw (.panic [{ v:=v,recovered:=false }]) a' w')->wpList F.C.P L.toArray Qw l a w
def K0.nil (h:Q env H):K0 F L [] env H Q:=
 λ_ _ _ _ _ _ _ _ d b c=>wpList_nil (c.1 _ _ _ _ _ _ h d b)
def K0.skip {l:List Oper}(y:K1 L env o=some false)(k:K0 F L l (put env o.dst (.tup [])) H Q):K0 F L (o::l) env H Q:=by
 intro z M G w a I B r c b D;refine wpList_step λK d=>?_;rw[Nq c y];simp only[zqa,zw];refine d _ _ (k z M G w _ I B (λo u=>r o (zqq _ u)) ?_ b D);exact c.quiet (A4 (r o zqp)) (.tup rfl λi x v h=>by simp at h) c.good (Ext.refl _ _ _)
def K0.yields {l:List Oper}{x:A}(T:K1 L env o=some true)(B:R4 F.C o env H x)(k:K0 F L l (put env o.dst x) H Q):K0 F L (o::l) env H Q:=by
 intro I M G w a z X u b c J;refine wpList_step λK d=>?_;rw[Nq b T];simp only[zt];refine B M G w a K z (λy _=>b.eval y) b.good b.gl b.hrel λv U V O Y r=>?_;exact d _ _ (k I U G V _ z X (λo D=>u o (zqq _ D)) (b.quiet (A4 (u o zqp)) O Y r) (c.quiet r) J)
def K0.op {F:Fx}(hC:T1 F.C){L l:List Oper}{o:Oper}{env:Env}{H:F0}{Q:Env->F0->Prop}{c:Prop}{x:A}(b:K1 L env o=some true)(h:opA F.C.T F.C.GL o.op env H=some (c,x))(hc:c)
  (k:K0 F L l (put env o.dst x) H Q):K0 F L (o::l) env H Q:=.yields b (Al hC h hc) k
def I3 (G:Nat->Value)(o:Nat)(v:Value):Nat->Value:=λi=>if i=o then v else G i
def C2 {o:Nat}:I3 G o v o=v:=by simp[I3]
def P1 {o i:Nat}(h:i≠o):I3 G o v i=G i:=by simp[I3,h]
def W1r {o:Obj}{b:Nat}(h:b<w.heap.size):(w.alloc o).heap[b]?=w.heap[b]?:=heap_alloc_old w o b h
def Od (S:Nat->Prop)(M:Mem)(w:World)(o:Obj):Ext S M w M (w.alloc o):=
 ⟨λ_ _ h=>h,by simp,rfl,rfl,rfl,λb c _=>heap_alloc_old w o b c,λ_ _ h=>.inl h⟩
def Z3.alloc {M:Mem}{w:World}(h:Z3 M w)(o:Obj):Z3 M (w.alloc o):=λa v e=>
 W13 (by simp) (heap_alloc_old w o a.block (h.lt e)) (h a v e)
def I18 (M:Mem)(G:Nat->Value)(cs:List A)(vs:Array Value):Prop:=
 cs.length<=vs.size/\(∀(i:Nat) v,vs[i]?=some v->v.oneCell'=true)/\∀(i:Nat) x v,cs[i]?=some x->vs[i]?=some v->A1 M G x v
def St.newRowL {C:Cx}{a:Act}(h:St C N M G w env H a)(hd:∀d,dst=some d->d<N)
  (hc:I18 M G cs vs):St C N M (I3 G H.length (.pointer (some ⟨w.heap.size,0,none⟩))) (w.alloc (.cells vs elem)) (put env dst (.ref H.length 0)) (H++[.row cs elem]) (a.put dst (.pointer (some ⟨w.heap.size,0,none⟩))):=by
 have r:∀{x:A} {v:Value},A1 M G x v->A1 M (I3 G H.length (.pointer (some ⟨w.heap.size,0,none⟩))) x v:=λhr=>hr.mono (λ_ _ e=>e) λo hn=>P1 (Nat.ne_of_lt (h.hrel.lt hr hn));obtain⟨h1,h2,h3⟩:=Np (λt=>r (h.env t)) h.size hd (x:=.ref H.length 0) (v:=.pointer (some ⟨w.heap.size,0,none⟩)) (.ref C2);refine⟨h.good.alloc _,h.gl.ext h.hrel (Od W5 _ _ _) (λ_ h=>h.elim),⟨λo x u=>?_,λo o' x x' b u I B a1=>?_,λo u=>?_⟩,h1,h2,h3.trans h.defers⟩
 ·rcases Nat.lt_trichotomy o H.length with z|rfl|hgt
  ·rw[zqx z]at u;rw[P1 (Nat.ne_of_lt z)];have O:=h.hrel.obj o x u;have D:M5 M G (w.alloc (.cells vs elem)) x (G o):=O.keep (λ_ _ e=>e) (by simp) (λb B=>heap_alloc_old w _ b (V7 O B)) (λ_ _ _ _ e=>e);cases x with
   |dead=>trivial
   |row Z e=>
    obtain⟨b,us,X,V,Y,J,T,g6⟩:=D;exact⟨b,us,X,V,Y,J,λi y v a c=>r (T i y v a c),g6⟩
   |tok e sz=>exact D
   |rok e sz=>exact D
   |gone=>exact D
   |map es=>
    obtain⟨b,ms,cl,X,V,Y,J,T⟩:=D;exact⟨b,ms,cl,X,V,Y,λi k cs e a c=>⟨(J i k cs e a c).1,r (J i k cs e a c).2⟩,T⟩
   |bld o' e=>
    obtain⟨b,v0,X,V,Y,J,T⟩:=D;have I:o'≠H.length:=λe=>J _ (by rw[e];exact h.hrel.fresh _ (zqr _));exact⟨b,v0,X,by rw[P1 I];exact V,Y,by rw[P1 I];exact J,T⟩
   |buf e sz=>exact D
   |vec e sz cs=>exact D
   |slots γ e l=>exact D
  ·simp at u;subst u;rw[C2];exact⟨w.heap.size,vs,rfl,heap_alloc_new w _,hc.1,hc.2.1,λi x v a b=>r (hc.2.2 i x v a b),λa0 sp=>by
    cases hM:M ⟨w.heap.size,a0,sp⟩with
    |none=>rfl
    |some v=>have:=h.good.lt hM;simp at this⟩
  ·rw[List.getElem?_eq_none (by simp;omega)]at u;cases u
 ·have U:∀(o:Nat) x b,(H++[Ob.row cs elem])[o]?=some x->blk x (I3 G H.length (.pointer (some ⟨w.heap.size,0,none⟩)) o) b->(o<H.length/\H[o]?=some x/\blk x (G o) b/\b<w.heap.size)\/(o=H.length/\b=w.heap.size):=by
   intro o x b u B;rcases Nat.lt_trichotomy o H.length with z|rfl|hgt
   ·rw[zqx z]at u;rw[P1 (Nat.ne_of_lt z)]at B;exact .inl ⟨z,u,B,V7 (h.hrel.obj o x u) B⟩
   ·simp at u;subst u;rw[C2]at B;simp[blk]at B;exact .inr ⟨rfl,B.symm⟩
   ·rw[List.getElem?_eq_none (by simp;omega)]at u;cases u
  rcases U o x b u B with⟨q1,q2,q3,q4⟩|⟨q1,q2⟩<;>rcases U o' x' b I a1 with⟨p1,p2,p3,p4⟩|⟨p1,p2⟩
  ·exact h.hrel.apart o o' x x' b q2 p2 q3 p3
  ·omega
  ·omega
  ·omega
 ·simp at u;rw[P1 (by omega)];exact h.hrel.fresh o (by omega)
def St.newRow {C:Cx}{a:Act}(h:St C N M G w env H a)(b:∀d,dst=some d->d<N)
  (hc:Wl M G cs vs):St C N M (I3 G H.length (.pointer (some ⟨w.heap.size,0,none⟩))) (w.alloc (.cells vs elem)) (put env dst (.ref H.length 0)) (H++[.row cs elem]) (a.put dst (.pointer (some ⟨w.heap.size,0,none⟩))):=
 h.newRowL b ⟨Nat.le_of_eq hc.1,hc.2⟩
def D2.newRow (h:D2 fr M G w H) :
  D2 fr M (I3 G H.length (.pointer (some ⟨w.heap.size,0,none⟩))) (w.alloc (.cells vs elem)) (H++[.row cs elem]):=by
 refine⟨h.ext.trans (Od W5 _ _ _) (λ_ h=>h.elim),λb z=>?_,by simp;have:=h.len;omega,λo x d u=>?_,λo x y d u v=>?_⟩
 ·obtain⟨o,x,d,r⟩:=z;rcases Nat.lt_trichotomy o H.length with c|rfl|hgt
  ·rw[zqx c]at d;rw[P1 (Nat.ne_of_lt c)]at r;exact h.own b ⟨o,x,d,r⟩
  ·simp at d;subst d;rw[C2]at r;simp[blk]at r;subst r;exact .inr h.ext.size
  ·rw[List.getElem?_eq_none (by simp;omega)]at d;cases d
 ·have c:o<H.length:=Nat.lt_of_lt_of_le (zqu.1 d).1 h.len;rw[P1 (Nat.ne_of_lt c)];exact h.keep o x d u
 ·have c:o<H.length:=Nat.lt_of_lt_of_le (zqu.1 d).1 h.len;rw[zqx c]at v;exact h.kind o x y d u v
def T6 {l:List Oper}(O:K1 L env o=some true)
  (h:∀fr M G w a (K:Act->World->Prop) (d:Exit->Act->World->Prop),fr.H0.length=F.K->Hk F.N o=true->St F.C F.N M G w env H a->D2 fr M G w H->
   (∀x env' H' M' G' c v,K0 F L l (put env' o.dst x) H' Q->St F.C F.N M' G' c (put env' o.dst x) H' (a.put o.dst v)->D2 fr M' G' c H'->K (a.put o.dst v) c)->o.wp F.C.P a w K d):K0 F L (o::l) env H Q:=by
 intro fr M G w a d B z D r J;refine wpList_step λK y=>?_;rw[Nq D O];simp only[zt];refine h fr M G w a K d B (z o zqp) D r λx env' H' M' G' c v k u b=>?_;exact y _ _ (k fr M' G' c _ d B (λo I=>z o (zqq _ I)) u b J)
def M1z {l:List Oper}(T:K1 L env o=some true)
  (h:∀fr M G w a (K:Act->World->Prop) (r:Exit->Act->World->Prop),fr.H0.length=F.K->Hk F.N o=true->St F.C F.N M G w env H a->D2 fr M G w H->
   (∀x env' H' M' G' c v,K0 F L l (put env' o.dst x) H' Q->St F.C F.N M' G' c (put env' o.dst x) H' (a.put o.dst v)->D2 fr M' G' c H'->K (a.put o.dst v) c)->
   (∀v env' H' M' G' c,F.pan v env' H'->St F.C F.N M' G' c env' H' a->D2 fr M' G' c H'->r (.panic [{ v:=v,recovered:=false }]) a c)->o.wp F.C.P a w K r):K0 F L (o::l) env H Q:=by
 intro fr M G w a r D B I u z;refine wpList_step λK y=>?_;rw[Nq I T];simp only[zt];refine h fr M G w a K r D (B o zqp) I u (λx env' H' M' G' c v k d b=>?_) λv env' H' M' G' c O d b=>z.2 v env' H' M' G' c a O d b;exact y _ _ (k fr M' G' c _ r D (λo J=>B o (zqq _ J)) d b z)
def K0.alloc {F:Fx}(hC:T1 F.C){L l:List Oper}{o:Oper}{env:Env}{H:F0}{Q:Env->F0->Prop}{t:Nat}{i:TI}(x:K1 L env o=some true)(c:o.op = .alloc t)(r:Z1 F.C.T t=some i)
  (k:K0 F L l (put env o.dst (.ref H.length 0)) (H++[.row (i.zero.map .d) t]) Q):K0 F L (o::l) env H Q:=by
 refine T6 x λJ M G w a K U O B I b y=>?_;obtain⟨z,v,D,_⟩:=H13 (M:=M) (G:=G) hC.tok r;have u:(execOp a.eval o).run F.C.P w = .ok (.value (.pointer (some ⟨w.heap.size,0,none⟩))) (w.alloc (.cells z.cells t)):=by
  unfold execOp;simp[c,Instr.alloc,v,newVar,newRow]
 unfold Oper.wp;rw[u];exact y _ _ _ _ _ _ _ k (I.newRow (A4 B) D) (D2.newRow b)
def K0.box {F:Fx}{L l:List Oper}{o:Oper}{env:Env}{H:F0}{Q:Env->F0->Prop}{t:Nat}{y:Operand}{cs:List A}(z:K1 L env o=some true)(r:o.op = .box t y)(d:Z9 (ev F.C.GL env y)=some cs)
  (k:K0 F L l (put env o.dst (.ref H.length 0)) (H++[.row cs t]) Q):K0 F L (o::l) env H Q:=by
 refine T6 z λI M G w a K O J D c b B=>?_;obtain⟨u,v,c3⟩:=Dy (c.eval y) d;have x:(execOp a.eval o).run F.C.P w = .ok (.value (.pointer (some ⟨w.heap.size,0,none⟩))) (w.alloc (.cells (a.eval y).cells t)):=by
  unfold execOp;simp[r,Instr.box,newVar,newRow]
 unfold Oper.wp;rw[x];exact B _ _ _ _ _ _ _ k (c.newRow (A4 D) ⟨u.symm,v,c3⟩) (D2.newRow b)
def A5:F0->Nat->Ob->F0
 |[],_,_=>[]
 |_::r,0,x=>x::r
 |y::r,n+1,x=>y::A5 r n x
def H9:∀(H:F0) (n:Nat) (x:Ob),(A5 H n x).length=H.length
 |[],_,_=>rfl
 |_::_,0,_=>rfl
 |_::r,n+1,x=>by simp[A5,H9 r n x]
def C5:∀(H:F0) (n:Nat) (x:Ob) (i:Nat),n<H.length->(A5 H n x)[i]?=if i=n then some x else H[i]?
 |[],n,x,i,h=>by simp at h
 |y::r,0,x,i,_=>by cases i<;>simp[A5]
 |y::r,n+1,x,i,h=>by
  cases i with
  |zero=>simp[A5]
  |succ i=>simp only[A5,List.getElem?_cons_succ,C5 r n x i (by simpa using h),Nat.add_right_cancel_iff]
def Ni (w:World)(g:Nat)(cs:Array Value):(w.setRow g cs).heap.size=w.heap.size:=by simp[World.setRow]
def St.setRow {C:Cx}{N:FN}{M:Mem}{G:Nat->Value}{w:World}{env:Env}{H:F0}{a:Act}(h:St C N M G w env H a){dst:Option Nat}(hd:∀d,dst=some d->d<N){o b:Nat}{cs I:List A}{vs r:Array Value}{elem:TypeId}
  (J:H[o]?=some (.row cs elem)) (Y:G o = .pointer (some ⟨b,0,none⟩)) (hb:w.heap[b]?=some (.cells vs elem (0,0))) (hc:I18 M G I r) :
  St C N M G (w.setRow b r) (put env dst .junk) (A5 H o (.row I elem)) (a.put dst undef)/\Ext (λx=>x=b) M w M (w.setRow b r):=by
 have U:o<H.length:=(zqu.1 J).1;have D:blk (.row cs elem) (G o) b:=by rw[Y];rfl
 have O:∀a4 sp,M ⟨b,a4,sp⟩=none:=by
  obtain⟨b',us,g1,_,_,_,_,g6⟩:=h.hrel.obj o _ J;rw[Y]at g1;simp at g1;subst g1;exact g6
 have u:Ext (λx=>x=b) M w M (w.setRow b r):=
  ⟨λ_ _ e=>e,by rw[Ni];exact zqr _,rfl,rfl,rfl,λk _ hk=>setRow_other w b k r hk,λ_ _ e=>.inl e⟩
 obtain⟨h1,h2,h3⟩:=Np h.env h.size hd (x:=.junk) (v:=undef) .junk;refine⟨⟨h.good.ext u (λad v e hk=>?_),h.gl.ext h.hrel u (λx hx=>by subst hx;exact⟨o,_,J,D⟩),⟨λi x B=>?_,λi i' x x' c B a3 hx a6=>?_,λi B=>h.hrel.fresh i (by rw[H9]at B;exact B)⟩,h1,h2,h3.trans h.defers⟩,u⟩
 ·obtain⟨bb,oo,ss⟩:=ad;have a0:bb=b:=hk;subst a0;rw[O]at e;cases e
 ·rw[C5 H o _ i U]at B;split at B
  ·rename_i e;subst e;simp only[zqb]at B;subst B;refine⟨b,r,Y,setRow_heap w b vs r elem (0,0) hb,hc.1,hc.2.1,hc.2.2,O⟩
  ·rename_i a5;have Z:=h.hrel.obj i x B;exact Z.keep (λ_ _ e=>e) (by rw[Ni];exact zqr _) (λc a7=>setRow_other w b c r λe=>a5 (h.hrel.apart i o x _ b B J (e▸a7) D)) (λ_ _ _ _ e=>e)
 ·have T:∀(n:Nat) z d,(A5 H o (Ob.row I elem))[n]?=some z->blk z (G n) d->∃y,H[n]?=some y/\blk y (G n) d:=by
   intro n z d X hz;rw[C5 H o _ n U]at X;by_cases e:n=o
   ·rw[zp e]at X;subst e;obtain rfl:=Option.some.inj X;exact⟨_,J,by rw[Y]at hz⊢;exact hz⟩
   ·rw[zn e]at X;exact⟨z,X,hz⟩
  obtain⟨y,hy,a2⟩:=T i x c B hx;obtain⟨y',a1,V⟩:=T i' x' c a3 a6;exact h.hrel.apart i i' y y' c hy a1 a2 V
def D2.setRow {J:World}(h:D2 fr M G w H){o b:Nat}{z:List A}
  (B:H[o]?=some (.row cs elem)) (D:G o = .pointer (some ⟨b,0,none⟩)) (T:Ext (λx=>x=b) M w M J):D2 fr M G J (A5 H o (.row z elem)):=by
 have v:o<H.length:=(zqu.1 B).1;have I:Go.Am.own G H b:=⟨o,_,B,by rw[D];rfl⟩
 refine⟨h.ext.trans T (λx r=>by subst r;exact h.own _ I),λc hc=>?_,by rw[H9];exact h.len,h.keep,λi x y d O u=>?_⟩
 ·obtain⟨i,x,d,r⟩:=hc;rw[C5 H o _ i v]at d;by_cases e:i=o
  ·rw[zp e]at d;subst e;obtain rfl:=Option.some.inj d;rw[D]at r;simp[blk]at r;subst r;exact h.own _ I
  ·rw[zn e]at d;exact h.own c ⟨i,x,d,r⟩
 rw[C5 H o _ i v]at u;by_cases e:i=o
 ·rw[zp e]at u;obtain rfl:=Option.some.inj u;rfl
 ·rw[zn e]at u;exact h.kind i x y d O u
def J18 (i:TI)(x y:A)(H:F0):Option (Nat×List A×Nat):=
 match x,Z9 y with
 |.ref o off,some xs=>match nth H o with
  |some (.row cells elem)=>bif Nat.beq xs.length i.size&&Nat.ble (off+i.size) cells.length then some (o,N8 cells off xs,elem)else none
  |_=>none
 |_,_=>none
def Fy (vs:List Value)(off:Nat)(b:List Value)(i:Nat)(h:off+b.length<=vs.length) :
  (vs.take off++b++vs.drop (off+b.length))[i]?=if off<=i/\i<off+b.length then b[i-off]? else vs[i]?:=by
 by_cases h1:i<off
 ·rw[zqx (by simp;omega),zqx (by simp;omega),List.getElem?_take,zp h1,zn (by omega)]
 ·by_cases h2:i<off+b.length
  ·rw[zqx (by simp;omega),List.getElem?_append_right (by simp;omega),zp (by omega)];congr 1;simp;omega
  ·rw[List.getElem?_append_right (by simp;omega),zn (by omega),List.getElem?_drop];congr 1;simp;omega
def K0.store {F:Fx}(hC:T1 F.C){L l:List Oper}{o:Oper}{env:Env}{H:F0}{Q:Env->F0->Prop}{t:Nat}{x y:Operand}{i:TI}{p:Nat}{cs:List A}{e:Nat}(hw:K1 L env o=some true)(ho:o.op = .store t x y)
  (ht:Z1 F.C.T t=some i) (c:J18 i (ev F.C.GL env x) (ev F.C.GL env y) H=some (p,cs,e)) (k:K0 F L l (put env o.dst .junk) (A5 H p (.row cs e)) Q):K0 F L (o::l) env H Q:=by
 refine T6 hw λfr M G w a K Qw hK hd X a4 hk=>?_;have f:=hC.tok.facts ht;have Z:=X.eval x;have hy:=X.eval y;unfold J18 at c;split at c
 ·rename_i o' d J a0 Y;split at c
  ·rename_i r U B;cases hbb:Nat.beq J.length i.size&&Nat.ble (d+i.size) r.length with
   |false=>rw[hbb]at c;cases c
   |true=>
    rw[hbb]at c;simp only[zqk,zqb,zqh]at c;obtain⟨rfl,rfl,rfl⟩:=c;simp only[zqi]at hbb;have e1:=zqo hbb.1;have e2:=Nat.le_of_ble_eq_true hbb.2;rw[a0]at Z;generalize hxv:a.eval x=xv at Z;cases Z;rename_i b hg;rw[Q2]at B;obtain⟨b',vs,g1,g2,g3,g4,g5,g6⟩:=X.hrel.obj _ _ B;rw[hg]at g1;simp at g1;subst g1;obtain⟨a1,a2,a3⟩:=Dy hy Y;have c:=run_storeCells_at F.C.P b d U (a.eval y).cells.toList 0 vs w g2 (by simp only[Array.length_toList,a1];omega) (λv u=>by
     obtain⟨n,V⟩:=Array.getElem?_of_mem (Array.mem_toList_iff.1 u);exact a2 n v V)
    have hr:(execOp a.eval o).run F.C.P w = .ok .skip (w.setRow b (vs.toList.take d++(a.eval y).cells.toList++vs.toList.drop (d+(a.eval y).cells.toList.length)).toArray):=by
     unfold execOp;simp only[ho,hxv,Instr.storeAt,Instr.sureAddr,storeVar,Sem.run_bind,Sem.run_pure,Result.andThen_ok,D9 f w];rw[zn (by simp[a1,e1])];simp only[Nat.add_zero]at c;simp[c]
    have D:(a.eval y).cells.toList.length=J.length:=by simp[a1]
    have hc:I18 M G (N8 r d J) (vs.toList.take d++(a.eval y).cells.toList++vs.toList.drop (d+(a.eval y).cells.toList.length)).toArray:=by
     have I:=λn=>Fy vs.toList d (a.eval y).cells.toList n (by rw[D];simp only[Array.length_toList];omega);refine⟨?_,λn v u=>?_,λn z v O u=>?_⟩
     ·rw[Px];simp;omega
     ·rw[List.getElem?_toArray,I n]at u;split at u
      ·exact a2 _ v (by simpa using u)
      ·exact g4 n v (by simpa using u)
     ·rw[List.getElem?_toArray,I n,D]at u;rw[Dt r d J n (by omega)]at O;by_cases V:d<=n/\n<d+J.length
      ·rw[zp V]at O u;exact a3 _ z v O (by simpa using u)
      ·rw[zn V]at O u;exact g5 n z v O (by simpa using u)
    obtain⟨q1,q2⟩:=X.setRow (A4 hd) B hg g2 hc;unfold Oper.wp;rw[hr];exact hk _ _ _ _ _ _ _ k q1 (a4.setRow B hg q2)
  ·cases c
 ·cases c
mutual
def P4 (k:Nat):A->Bool
 |.d _ |.junk |.ptr _ |.full _=>true
 |.ref o _=>Nat.blt o k
 |.osl o _=>Nat.blt o k
 |.rsl o _ _ _=>Nat.blt o k
 |.mp o=>Nat.blt o k
 |.vsl o=>Nat.blt o k
 |.vel o _=>Nat.blt o k
 |.clo _ cs=>R2 k cs
 |.bnd _ cs=>R2 k cs
 |.agg cs=>R2 k cs
 |.tup cs=>R2 k cs
def R2 (k:Nat):List A->Bool
 |[]=>true
 |x::r=>P4 k x&&R2 k r
end
def Xl {k:Nat}:∀{l:List A},R2 k l=true->∀x∈l,P4 k x=true
 |[],_,x,h=>by cases h
 |y::r,h,x,b=>by
  simp only[R2,zqi]at h;cases b with
  |head=>exact h.1
  |tail _ b=>exact Xl h.2 x b
def W1c {x:A}(h:P4 k x=true){o:Nat}(d:Names x o):o<k:=by
 induction d with
 |ref=>simpa[P4]using h
 |osl=>simpa[P4]using h
 |rsl=>simpa[P4]using h
 |mp=>simpa[P4]using h
 |vsl=>simpa[P4]using h
 |vel=>simpa[P4]using h
 |clo c _ b=>exact b (Xl (by simpa only[P4]using h) _ c)
 |bnd c _ b=>exact b (Xl (by simpa only[P4]using h) _ c)
 |agg c _ b=>exact b (Xl (by simpa only[P4]using h) _ c)
 |tup c _ b=>exact b (Xl (by simpa only[P4]using h) _ c)
def X1m (k:Nat):Ob->Bool
 |.row cs _=>R2 k cs
 |.bld o _=>Nat.blt o k
 |_=>true
inductive LeA:A->A->Prop
 |rfl {x}:LeA x x
 |junk {x}:LeA .junk x
 |osl {o rows:_}:LeA (.d (.sl rows)) (.osl o rows)
 |full {rows:_}:LeA (.d (.sl rows)) (.full rows)
 |nbx:LeA (.d (.bxo none)) (.d (.nilv .ptr))
 |nfn:LeA (.d (.fn none)) (.d (.nilv .func))
 |fnc {f:_}:LeA (.d (.fn (some f))) (.clo f [])
 |agg {xs ys:_} (hl:xs.length=ys.length) (h:∀(i:Nat) x y,xs[i]?=some x->ys[i]?=some y->LeA x y):LeA (.agg xs) (.agg ys)
 |tup {xs ys:_} (hl:xs.length=ys.length) (h:∀(i:Nat) x y,xs[i]?=some x->ys[i]?=some y->LeA x y):LeA (.tup xs) (.tup ys)
 |clo {f xs ys:_} (hl:xs.length=ys.length) (h:∀(i:Nat) x y,xs[i]?=some x->ys[i]?=some y->LeA x y):LeA (.clo f xs) (.clo f ys)
 |bnd {f xs ys:_} (hl:xs.length=ys.length) (h:∀(i:Nat) x y,xs[i]?=some x->ys[i]?=some y->LeA x y):LeA (.bnd f xs) (.bnd f ys)
def LeA.rel {x y:A}(h:LeA x y):∀{v:Value},A1 M G y v->A1 M G x v:=by
 have u:∀{I J:List A},I.length=J.length->∀{i:Nat} {x:A},I[i]?=some x->∃y,J[i]?=some y:=by
  intro I J r i x c;exact⟨_,zqv (by rw[<-r];exact(zqu.1 c).1)⟩
 induction h with
 |rfl=>exact λh=>h
 |junk=>exact λ_=>.junk
 |osl=>intro v b;cases b;exact .d (by assumption)
 |full=>intro v b;cases b;exact .d (by assumption)
 |nbx=>intro v b;cases b;rename_i b;cases b;exact .d .bxnil
 |nfn=>intro v b;cases b;rename_i b;cases b;exact .d .fnnil
 |fnc=>
  intro v b;cases b with
  |clo r _=>
   rename_i O _;have e:O = #[]:=Array.eq_empty_of_size_eq_zero (by simpa using r.symm);subst e;exact .d .fns
 |agg r _ z=>
  intro v b;cases b with
  |agg D T h=>
   refine .agg (by omega) T λi x v c B=>?_;obtain⟨y,b⟩:=u r c;exact z i x y c b (h i y v b B)
 |tup r _ z=>
  intro v b;cases b with
  |tup D h=>
   refine .tup (by omega) λi x v c B=>?_;obtain⟨y,b⟩:=u r c;exact z i x y c b (h i y v b B)
 |clo r _ z=>
  intro v b;cases b with
  |clo D h=>
   refine .clo (by omega) λi x v c B=>?_;obtain⟨y,b⟩:=u r c;exact z i x y c b (h i y v b B)
 |bnd r _ z=>
  intro v b;cases b with
  |bnd D h=>
   refine .bnd (by omega) λi x v c B=>?_;obtain⟨y,b⟩:=u r c;exact z i x y c b (h i y v b B)
def LeL:List A->List A->Prop
 |[],[]=>True
 |x::xs,y::ys=>LeA x y/\LeL xs ys
 |_,_=>False
def LeL.spec:∀{xs c:List A},LeL xs c->xs.length=c.length/\∀(i:Nat) x y,xs[i]?=some x->c[i]?=some y->LeA x y
 |[],[],_=>⟨rfl,λi x y h=>by simp at h⟩
 |x::xs,y::c,h=>by
  obtain⟨v,u⟩:=LeL.spec h.2;refine⟨by simp[v],λi a b d r=>?_⟩;cases i with
  |zero=>simp at d r;subst d;subst r;exact h.1
  |succ i=>exact u i a b (by simpa using d) (by simpa using r)
 |[],_::_,h=>h.elim
 |_::_,[],h=>h.elim
def LeA.aggL {b:List A}(h:LeL xs b):LeA (.agg xs) (.agg b):=.agg h.spec.1 h.spec.2
def LeA.tupL {b:List A}(h:LeL xs b):LeA (.tup xs) (.tup b):=.tup h.spec.1 h.spec.2
def Gj:List (Nat×A)->Env
 |[]=>λ_=>.junk
 |(t,x)::r=>upd (Gj r) t x
def WkE (k:Nat)(env:Env):List (Nat×A)->Prop
 |[]=>True
 |(t,x)::r=>(LeA x (env t)/\P4 k x=true)/\WkE k env r
def WkO (k:Nat):Ob->Ob->Prop
 |.dead,_=>True
 |.row cs2 e2,.row cs e=>e2=e/\LeL cs2 cs/\R2 k cs2=true
 |.row _ _,_=>False
 |.bld o e,x=>x = .bld o e/\o<k
 |x2,x=>x2=x
def LeL.refl:∀xs:List A,LeL xs xs
 |[]=>trivial
 |_::r=>⟨.rfl,LeL.refl r⟩
def WkO.same {x:Ob}(h:X1m k x=true):WkO k x x:=by
 cases x with
 |dead=>trivial
 |row b e=>exact⟨rfl,.refl _,h⟩
 |bld o e=>exact⟨rfl,by simpa[X1m]using h⟩
 |tok e sz=>rfl
 |rok e sz=>rfl
 |gone=>rfl
 |buf e sz=>rfl
 |vec e sz b=>rfl
 |slots γ e l=>rfl
 |map es=>rfl
def WkO.row {k:Nat}{b:List A}{e:TypeId}{x:Ob}(h:WkO k (.row b e) x):∃cs,x = .row cs e/\LeL b cs/\R2 k b=true:=by
 cases x with
 |row cs e'=>obtain⟨rfl,d,c⟩:=h;exact⟨cs,rfl,d,c⟩
 |_=>exact h.elim
def WkO.blk {k:Nat}{x2 x:Ob}{g:Value}{b:Nat}(h:WkO k x2 x)(c:blk x2 g b):blk x g b:=by
 cases x2 with
 |dead=>simp[Go.Am.blk]at c
 |row d e=>obtain⟨r,rfl,_⟩:=h.row;cases g<;>first|exact c|(rename_i a;cases a<;>exact c)
 |bld o e=>obtain⟨rfl,_⟩:=h;exact c
 |tok e sz=>have : .tok e sz=x:=h;subst this;exact c
 |rok e sz=>have : .rok e sz=x:=h;subst this;exact c
 |gone=>have : .gone=x:=h;subst this;exact c
 |buf e sz=>have : .buf e sz=x:=h;subst this;exact c
 |vec e sz d=>have : .vec e sz d=x:=h;subst this;exact c
 |slots γ e l=>have : .slots γ e l=x:=h;subst this;exact c
 |map es=>have : .map es=x:=h;subst this;exact c
def WkO.isTok {k:Nat}{x2 x:Ob}(h:WkO k x2 x)(b:isTok x=false):isTok x2=false:=by
 cases x2 with
 |dead=>rfl
 |row c e=>rfl
 |bld o e=>rfl
 |tok e sz=>have : .tok e sz=x:=h;subst this;exact b
 |rok e sz=>have : .rok e sz=x:=h;subst this;exact b
 |gone=>have : .gone=x:=h;subst this;exact b
 |buf e sz=>have : .buf e sz=x:=h;subst this;exact b
 |vec e sz c=>have : .vec e sz c=x:=h;subst this;exact b
 |slots γ e l=>have : .slots γ e l=x:=h;subst this;exact b
 |map es=>rfl
def WkH (k:Nat):F0->F0->Prop
 |_,[]=>True
 |[],_::_=>False
 |x::H,x2::H2=>WkO k x2 x/\WkH k H H2
def WkE.spec {k:Nat}{env:Env}:∀{L:List (Nat×A)},WkE k env L->∀t,LeA (Gj L t) (env t)/\P4 k (Gj L t)=true
 |[],_,t=>⟨.junk,rfl⟩
 |(s,x)::r,h,t=>by
  simp only[Gj,upd];cases hb:Nat.beq t s with
  |true=>
   have:=zqo hb;subst this;exact h.1
  |false=>exact WkE.spec h.2 t
def WkH.spec {k:Nat}:∀{H H2:F0},WkH k H H2->H2.length<=H.length/\∀(o:Nat) x2,H2[o]?=some x2->∃x,H[o]?=some x/\WkO k x2 x
 |_,[],_=>⟨Nat.zero_le _,λo x2 h=>by simp at h⟩
 |[],_::_,h=>h.elim
 |x::H,y::H2,h=>by
  obtain⟨d,c⟩:=WkH.spec h.2;refine⟨by simpa using d,λo x2 b=>?_⟩;cases o with
  |zero=>simp at b;subst b;exact⟨x,rfl,h.1⟩
  |succ o=>simpa using c o x2 (by simpa using b)
def Xi (k:Nat)(G:Nat->Value):Nat->Value:=λo=>if o<k then G o else .tuple #[]
def A1.cut {x:A}(h:A1 M G x v)(c:P4 k x=true):A1 M (Xi k G) x v:=
 h.mono (λ_ _ e=>e) λo b=>by simp[Xi,W1c c b]
def Z6.wk (h:Z6 M G w H)(hw:WkH H2.length H H2):Z6 M (Xi H2.length G) w H2:=by
 obtain⟨h1,h2⟩:=hw.spec;have I:∀{o:Nat} {x:Ob},H2[o]?=some x->o<H2.length:=λh=>(zqu.1 h).1;have B:∀{X x:Ob} {g:Value} {b:Nat},WkO H2.length X x->blk X g b->blk x g b:=λhw hb=>hw.blk hb;refine⟨λo X O=>?_,λo o' x x' b O Z hb a0=>?_,λo O=>by simp[Xi];omega⟩
 ·obtain⟨x,hx,u⟩:=h2 o X O;have hg:Xi H2.length G o=G o:=by simp[Xi,I O]
  rw[hg]
  ·have z:=h.obj o _ hx;cases X with
   |dead=>trivial
   |row U e=>
    obtain⟨J,rfl,a3,hn⟩:=u.row;obtain⟨b,us,g1,g2,g3,T,V,g6⟩:=z;obtain⟨l1,l2⟩:=a3.spec;refine⟨b,us,g1,g2,by omega,T,λi y v a c=>?_,g6⟩;have a1:i<J.length:=by rw[<-l1];exact(zqu.1 a).1
    have hz:J[i]?=some J[i]:=zqv a1;exact((l2 i y _ a hz).rel (V i _ v hz c)).cut (Xl hn y (List.mem_of_getElem? a))
   |bld o' e=>
    obtain⟨rfl,hn⟩:=u;obtain⟨b,v0,g1,g2,g3,T,V⟩:=z;have hc:Xi H2.length G o'=G o':=by simp[Xi,hn]
    exact⟨b,v0,g1,by rw[hc];exact g2,g3,by rw[hc];exact T,V⟩
   |buf e sz=>
    have : .buf e sz=x:=u;subst this;exact z
   |vec e sz U=>
    have : .vec e sz U=x:=u;subst this;exact z
   |slots γ e l=>
    have : .slots γ e l=x:=u;subst this;exact z
   |tok e sz=>
    have : .tok e sz=x:=u;subst this;exact z
   |rok e sz=>
    have : .rok e sz=x:=u;subst this;exact z
   |gone=>
    have : .gone=x:=u;subst this;exact z
   |map es=>
    have : .map es=x:=u;subst this;obtain⟨b,ms,cl,g1,g2,g3,T,V⟩:=z;refine⟨b,ms,cl,g1,g2,g3,λi k U e a c=>⟨(T i k U e a c).1,(T i k U e a c).2.cut ?_⟩,V⟩;have:∀l:List D,R2 H2.length (l.map .d)=true:=λl=>by
     induction l with
     |nil=>rfl
     |cons x r ih=>simp[R2,P4,ih]
    match U with
    |[]=>simp[Mc,P4,R2]
    |[x]=>simp[Mc,P4]
    |x::y::r=>simp only[Mc,P4];exact this _
 ·obtain⟨y,hy,u⟩:=h2 o x O;obtain⟨y',a2,Y⟩:=h2 o' x' Z;have hg:Xi H2.length G o=G o:=by simp[Xi,I O]
  have a4:Xi H2.length G o'=G o':=by simp[Xi,I Z]
  rw[hg]at hb;rw[a4]at a0;exact h.apart o o' y y' b hy a2 (B u hb) (B Y a0)
def C1x (v:WkH H2.length H H2){b:Nat}(h:own (Xi H2.length G) H2 b):own G H b:=by
 obtain⟨o,z,r,u⟩:=h;obtain⟨_,D⟩:=v.spec;obtain⟨x,y,c⟩:=D o z r;have d:=(zqu.1 r).1;have B:Xi H2.length G o=G o:=by simp[Xi,d]
 rw[B]at u;exact⟨o,_,y,c.blk u⟩
structure Wk (K:Nat)(env:Env)(H:F0)(L:List (Nat×A))(H2:F0):Prop where
 e:WkE H2.length env L
 h:WkH H2.length H H2
 k:Nat.ble K H2.length=true
def Wk.st {C:Cx}{K:Nat}{a:Act}{L:List (Nat×A)}(b:Wk K env H L H2)(h:St C N M G w env H a) :
  St C N M (Xi H2.length G) w (Gj L) H2 a:=
 ⟨h.good,h.gl,h.hrel.wk b.h,λt=>((b.e.spec t).1.rel (h.env t)).cut (b.e.spec t).2,h.size,h.defers⟩
def Wk.since {K:Nat}{L:List (Nat×A)}(d:Wk K env H L H2)(O:fr.H0.length=K)(h:D2 fr M G w H) :
  D2 fr M (Xi H2.length G) w H2:=by
 have D:=Nat.le_of_ble_eq_true d.k;refine⟨h.ext,λb J=>h.own b (C1x d.h J),by omega,λo x c u=>?_,λo x y c u B=>?_⟩
 ·have I:=(zqu.1 c).1;rw[show Xi H2.length G o=G o by simp[Xi];omega];exact h.keep o x c u
 ·obtain⟨z,v,r⟩:=d.h.spec.2 o y B;exact r.isTok (h.kind o x _ c u v)
inductive Ex where
 |normal|exit (id:Nat)|ret
def Ex.to:Ex->Exit
 |.normal=>.normal
 |.exit id=>.exit id
 |.ret=>.ret
abbrev Po:=Ex->Env->F0->Prop
def Fin (F:Fx)(fr:Fr)(Q:Po):Exit->Act->World->Prop:=λe a w=>
 (∃x env H M G,e=Ex.to x/\Q x env H/\St F.C F.N M G w env H a/\D2 fr M G w H)\/(∃v env H M G,e = .panic [{ v:=v,recovered:=false }]/\F.pan v env H/\St F.C F.N M G w env H a/\D2 fr M G w H)\/((e = .ret\/∃ch,e = .panic ch)/\F.esc fr e a w)
def AEx (F:Fx)(c:Code)(env:Env)(H:F0)(Q:Po):Prop:=
 ∀fr M G w a,fr.H0.length=F.K->St F.C F.N M G w env H a->D2 fr M G w H->c.wp F.C.P (Fin F fr Q) a w
section
variable {F:Fx}{env:Env}{H:F0}{Q:Po}
def Then (F:Fx)(c:Code)(Q:Po):Po
 |.normal,e,h=>AEx F c e h Q
 |x,e,h=>Q x e h
def Mr (id:Nat)(Q:Po):Po
 |.exit i,e,h=>bif Nat.beq i id then Q .normal e h else Q (.exit i) e h
 |x,e,h=>Q x e h
def N1z:(∀env' H' M' G' d r,Q .normal env' H'->St F.C F.N M' G' d env' H' r->D2 fr M' G' d H'->Fin F fr Q .normal r d)/\
  ∀v env' H' M' G' d r,F.pan v env' H'->St F.C F.N M' G' d env' H' r->D2 fr M' G' d H'->Fin F fr Q (.panic [{ v:=v,recovered:=false }]) r d:=
 ⟨λ_ _ _ _ _ _ u c b=>.inl ⟨.normal,_,_,_,_,rfl,u,c,b⟩,λv _ _ _ _ _ _ u c b=>.inr (.inl ⟨v,_,_,_,_,rfl,u,c,b⟩)⟩
def AEx.skip (h:Q .normal env H):AEx F .skip env H Q:=λ_ _ _ _ _ _ c b=>wp_skip (.inl ⟨.normal,_,_,_,_,rfl,h,c,b⟩)
def AEx.ret (h:Q .ret env H):AEx F .ret env H Q:=λ_ _ _ _ _ _ c b=>wp_ret (.inl ⟨.ret,_,_,_,_,rfl,h,c,b⟩)
def AEx.exit {id:Nat}(h:Q (.exit id) env H):AEx F (.exit id) env H Q:=λ_ _ _ _ _ _ c b=>wp_exit (.inl ⟨.exit id,_,_,_,_,rfl,h,c,b⟩)
def AEx.seq {a b:Code}(h:AEx F a env H (Then F b Q)):AEx F (.seq a b) env H Q:=by
 intro B M G w y I T u;refine wp_seq (wp_mono (h B M G w y I T u) λe V O J=>?_);rcases J with⟨x,env',U,z,D,rfl,d,r,c⟩|⟨v,env',U,z,D,rfl,d⟩|⟨rfl|⟨X,rfl⟩,d⟩
 ·cases x with
  |normal=>exact d B z D O V I r c
  |exit id=>exact .inl ⟨.exit id,_,_,_,_,rfl,d,r,c⟩
  |ret=>exact .inl ⟨.ret,_,_,_,_,rfl,d,r,c⟩
 ·exact .inr (.inl ⟨v,_,_,_,_,rfl,d⟩)
 ·exact .inr (.inr ⟨.inl rfl,d⟩)
 ·exact .inr (.inr ⟨.inr ⟨_,rfl⟩,d⟩)
def AEx.block {id:Nat}{c:Code}(h:AEx F c env H (Mr id Q)):AEx F (.block id c) env H Q:=by
 intro z M G w y O T u;refine wp_block (wp_mono (h z M G w y O T u) λe X V B=>?_);rcases B with⟨x,env',J,D,I,rfl,d,r,b⟩|⟨v,env',J,D,I,rfl,d⟩|⟨rfl|⟨U,rfl⟩,d⟩
 ·cases x with
  |normal=>exact .inl ⟨.normal,_,_,_,_,rfl,d,r,b⟩
  |exit i=>
   simp only[Mr]at d;simp only[Ex.to,Exit.inBlock];cases hb:Nat.beq i id with
   |true=>
    rw[hb]at d;rw[zp (zqo hb)];exact .inl ⟨.normal,_,_,_,_,rfl,d,r,b⟩
   |false=>
    rw[hb]at d;rw[zn (λe=>by subst e;simp at hb)];exact .inl ⟨.exit i,_,_,_,_,rfl,d,r,b⟩
  |ret=>exact .inl ⟨.ret,_,_,_,_,rfl,d,r,b⟩
 ·exact .inr (.inl ⟨v,_,_,_,_,rfl,d⟩)
 ·exact .inr (.inr ⟨.inl rfl,d⟩)
 ·exact .inr (.inr ⟨.inr ⟨_,rfl⟩,d⟩)
def C22 {C:Cx}{a:Act}(r:St C N M G w env H a){c:Operand}{t:Bool}(h:ev C.GL env c = .d (.bool t)):a.eval c = .bool t:=by
 have b:=r.eval c;rw[h]at b;generalize a.eval c=v at b;cases b;rename_i b;cases b;rfl
def AEx.cond {c:Operand}{x y:Code}{t:Bool}(hc:ev F.C.GL env c = .d (.bool t))(D:t=true->AEx F x env H Q)(I:t=false->AEx F y env H Q):AEx F (.cond c x y) env H Q:=by
 intro z M G w r B v b;exact wp_cond_split (C22 v hc) (λu=>D u z M G w r B v b) (λu=>I u z M G w r B v b)
def AEx.cond_true {c:Operand}{x y:Code}(hc:ev F.C.GL env c = .d (.bool true))(h:AEx F x env H Q):AEx F (.cond c x y) env H Q:=.cond hc (λ_=>h) (λh=>by cases h)
def AEx.cond_false {c:Operand}{x y:Code}(hc:ev F.C.GL env c = .d (.bool false))(h:AEx F y env H Q):AEx F (.cond c x y) env H Q:=.cond hc (λh=>by cases h) (λ_=>h)
def Ik (Q:Po):Env->F0->Prop:=Q .normal
def AEx.region {id:Nat}{L:List Oper}(d:L.all (Hk F.N)=true)(h:K0 F L L env H (Ik Q)):AEx F (.region id L.toArray false) env H Q:=by
 intro r M G w c u v b;exact wp_region_lit (h r M G w c _ u (List.all_eq_true.1 d) v b N1z)
def AEx.wk {c:Code}{L:List (Nat×A)}(r:Wk F.K env H L H2)(h:AEx F c (Gj L) H2 Q):AEx F c env H Q:=by
 intro v M G w d u x b;exact h v M _ w d u (r.st x) (r.since u b)
end
def M10 (P:Program)(f:FuncId):Bool:=
 match P.funcs[f]? with
 |some fn=>fn.body.isSome && !(fn.name == "runtime.NumGoroutine")
 |none=>false
def R1f (M:Mem)(G:Nat->Value)(w:World)(H:F0)(Q:A->F0->Prop):Ending->World->Prop:=λe w'=>
 ∃v r H' M' G',e = .returned v/\Q r H'/\A1 M' G' r v/\Z3 M' w'/\Z6 M' G' w' H'/\Ext (own G H) M w M' w'/\(∀b,own G' H' b->own G H b\/w.heap.size<=b)/\H.length<=H'.length/\
  ∀(o:Nat) x,H[o]?=some x->isTok x=false->G' o=G o/\∀y,H'[o]?=some y->isTok y=false
def B4 (C:Cx)(f:FuncId)(args:List A)(H:F0)(Q:A->F0->Prop):Prop:=
 M10 C.P f=true/\∀M G w (vs:Array Value),Z3 M w->L10 C M w->Z6 M G w H->args.length=vs.size->(∀(i:Nat) x v,args[i]?=some x->vs[i]?=some v->A1 M G x v)->
  Calls C.P f vs w (R1f M G w H Q)
def X1c (args:List A):Env:=λi=>match nth args i with|some x=>x|none=>.junk
def O1z (T:TT)(e:Env)(h:F0):ResultVar->Option A
 |.tmp t=>some (e t)
 |.cell a t=>match Z1 T t with|some i=>Fb i (e a) h|none=>none
def S1f (T:TT)(e:Env)(h:F0):List ResultVar->Option (List A)
 |[]=>some []
 |r::rs=>match O1z T e h r,S1f T e h rs with|some x,some xs=>some (x::xs)|_,_=>none
def Y1c (T:TT)(rs:List ResultVar)(e:Env)(h:F0):Option A:=
 match S1f T e h rs with
 |some [x]=>some x
 |some xs=>some (.tup xs)
 |none=>none
def Wr (F:Fx)(rs:List ResultVar)(Q:A->F0->Prop):Po
 |.exit _,_,_=>False
 |_,e,h=>∃r0 r H',Y1c F.C.T rs e h=some r0/\LeA r r0/\WkH H'.length h H'/\P4 H'.length r=true/\Nat.ble F.K H'.length=true/\Q r H'
def X1r (a:Act):ResultVar->Sem Value
 |.tmp t=>pure (a.tmps.getD t undef)
 |.cell p t=>do loadVar t (<-asAddr (a.tmps.getD p undef))
def E29 {C:Cx}(hC:T1 C){a:Act}(c:St C N M G w env H a){r:ResultVar}{x:A}(h:O1z C.T env H r=some x) :
  ∃v,(X1r a r).run C.P w = .ok v w/\A1 M G x v:=by
 cases r with
 |tmp t=>
  simp only[O1z,zqb]at h;subst h;exact⟨_,rfl,c.env t⟩
 |cell p t=>
  simp only[O1z]at h;split at h
  ·rename_i i z;have B:=c.env p;obtain⟨v,b,D⟩:=U1r (P:=C.P) hC.tok c.good c.hrel z B h;refine⟨v,?_,D⟩;have d:∀u:Value,(Instr.loadAt t u).run C.P w = .ok v w->((do loadVar t (<-asAddr u)):Sem Value).run C.P w = .ok v w:=by
    intro u b;unfold Instr.loadAt Instr.sureAddr at b;cases u<;>try (simp at b;done)
    rename_i y;cases y with
    |none=>simp at b
    |some y=>simpa[asAddr]using b
   exact d _ b
  ·cases h
def Y1r {C:Cx}(hC:T1 C){N:FN}{M:Mem}{G:Nat->Value}{w:World}{env:Env}{H:F0}{a:Act}(z:St C N M G w env H a):∀{rs:List ResultVar} {xs:List A},S1f C.T env H rs=some xs->
  ∃vs:List Value,(rs.mapM (X1r a)).run C.P w = .ok vs w/\xs.length=vs.length/\
   ∀(i:Nat) x v,xs[i]?=some x->vs[i]?=some v->A1 M G x v
 |[],xs,h=>by
  simp only[S1f,zqb]at h;subst h;exact⟨[],rfl,rfl,λi x v h=>by simp at h⟩
 |r::rs,xs,h=>by
  simp only[S1f]at h;split at h
  ·rename_i x V O d;simp only[zqb]at h;subst h;obtain⟨v,I,U⟩:=E29 hC z O;obtain⟨vs,B,D,J⟩:=Y1r hC z d;refine⟨v::vs,?_,by simp[D],λi y u b c=>?_⟩
   ·rw[List.mapM_cons];simp only[Sem.run_bind,I,Result.andThen_ok,B,Sem.run_pure]
   ·cases i with
    |zero=>simp at b c;subst b;subst c;exact U
    |succ i=>exact J i y u (by simpa using b) (by simpa using c)
  ·cases h
def P1z {C:Cx}(hC:T1 C){a:Act}(V:St C N M G w env H a){c:Func}{x:A}(h:Y1c C.T c.results.toList env H=some x) :
  ∃v,(results c a.tmps).run C.P w = .ok v w/\A1 M G x v:=by
 unfold Y1c at h
 have u:∀{d:List A},S1f C.T env H c.results.toList=some d->∃b:List Value,(results c a.tmps).run C.P w = .ok (if h:b.toArray.size=1 then b.toArray[0]else .tuple b.toArray) w/\d.length=b.length/\
   ∀(i:Nat) x v,d[i]?=some x->b[i]?=some v->A1 M G x v:=by
  intro d I;obtain⟨b,B,r,z⟩:=Y1r hC V I;refine⟨b,?_,r,z⟩;have e:results c a.tmps=(do let b <-c.results.mapM (X1r a);pure (if h:b.size=1 then b[0]else .tuple b)):=rfl;rw[e,Array.mapM_eq_mapM_toList];simp only[Sem.run_bind,Sem.run_map,B,Result.andThen_ok,Sem.run_pure]
 split at h
 ·rename_i y D;simp only[zqb]at h;subst h;obtain⟨b,B,r,z⟩:=u D;obtain⟨v,rfl⟩:∃v,b=[v]:=List.length_eq_one_iff.1 r.symm;exact⟨v,B,z 0 _ v rfl rfl⟩
 ·rename_i d O J;simp only[zqb]at h;subst h;obtain⟨b,B,r,z⟩:=u J;refine⟨.tuple b.toArray,?_,.tup (by simpa using r) λi x v I U=>z i x v I (by simpa using U)⟩;rw[B];rw[dif_neg];intro e;have e':d.length=1:=by rw[r];simpa using e
  obtain⟨y,D⟩:=List.length_eq_one_iff.1 e';exact O y D
 ·cases h
def F29 (M:Mem)(G:Nat->Value)(w:World)(H:F0)(P:Value->F0->Prop):Ending->World->Prop:=λe w'=>
 ∃v H' M' G',e = .panicked [{ v:=v,recovered:=false }]/\P v H'/\Z3 M' w'/\Z6 M' G' w' H'/\Ext (own G H) M w M' w'/\(∀b,own G' H' b->own G H b\/w.heap.size<=b)/\H.length<=H'.length/\
  ∀(o:Nat) x,H[o]?=some x->isTok x=false->G' o=G o/\∀y,H'[o]?=some y->isTok y=false
def Q1z (C:Cx)(f:FuncId)(args:List A)(H:F0)(Q:A->F0->Prop)(P:Value->F0->Prop):Prop:=
 M10 C.P f=true/\∀M G w (vs:Array Value),Z3 M w->L10 C M w->Z6 M G w H->args.length=vs.size->(∀(i:Nat) x v,args[i]?=some x->vs[i]?=some v->A1 M G x v)->
  Calls C.P f vs w (λe w'=>R1f M G w H Q e w'\/F29 M G w H P e w')
def N2c (K:Nat)(P:Value->F0->Prop):Value->Env->F0->Prop:=λv _ h=>∃H',WkH H'.length h H'/\Nat.ble K H'.length=true/\P v H'
def D1x {d:World}(U:Z3 M' d)(T:Z6 M' G' d H')(c:D2 ⟨H,G,M,w⟩ M' G' d H')(v:WkH H2.length H' H2)(D:Nat.ble H.length H2.length=true) :
  Z3 M' d/\Z6 M' (Xi H2.length G') d H2/\Ext (own G H) M w M' d/\(∀b,own (Xi H2.length G') H2 b->own G H b\/w.heap.size<=b)/\H.length<=H2.length/\
   ∀(o:Nat) x,H[o]?=some x->isTok x=false->Xi H2.length G' o=G o/\∀y,H2[o]?=some y->isTok y=false:=by
 refine⟨U,T.wk v,c.ext,λb X=>c.own b (C1x v X),Nat.le_of_ble_eq_true D,λo x r B=>?_⟩;have V:=(zqu.1 r).1;have I:=Nat.le_of_ble_eq_true D;refine⟨?_,λy O=>?_⟩
 ·rw[show Xi H2.length G' o=G' o by simp[Xi];omega];exact c.keep o x r B
 ·obtain⟨z,J,u⟩:=v.spec.2 o y O;exact u.isTok (c.kind o x _ r B J)
def D22 (hC:T1 F.C){U:Func}{Q:A->F0->Prop}{c:World}{env':Env}{X:Act}(hK:F.K=H.length)(u:St F.C N M' G' c env' H' X)(J:D2 ⟨H,G,M,w⟩ M' G' c H')
  {x:Ex} (V:Wr F U.results.toList Q x env' H'):∃v,(results U X.tmps).run F.C.P c = .ok v c/\R1f M G w H Q (.returned v) c:=by
 have I:∀(d r:A) (H2:F0),Y1c F.C.T U.results.toList env' H'=some d->LeA r d->WkH H2.length H' H2->P4 H2.length r=true->Nat.ble F.K H2.length=true->Q r H2->
   ∃v,(results U X.tmps).run F.C.P c = .ok v c/\R1f M G w H Q (.returned v) c:=by
  intro d r H2 B b O y z D;obtain⟨v,Y,Z⟩:=P1z hC u B;exact⟨v,Y,v,r,H2,M',Xi H2.length G',rfl,D,(b.rel Z).cut y,D1x u.good u.hrel J O (hK▸z)⟩
 cases x with
 |normal=>obtain⟨d,r,H2,B,b,O,y,z,D⟩:=V;exact I d r H2 B b O y z D
 |ret=>obtain⟨d,r,H2,B,b,O,y,z,D⟩:=V;exact I d r H2 B b O y z D
 |exit id=>exact V.elim
def E22 {C:Cx}(hC:T1 C){z:Func}{c:Code}{d:List A}{Q:A->F0->Prop}{P:Value->F0->Prop}{pn:Value->Env->F0->Prop}(X:∀v e h,pn v e h->N2c H.length P v e h)(hf:C.P.funcs[f]?=some z)
  (hn:(z.name == "runtime.NumGoroutine")=false) (T:z.body=some c)
  (ha:Nat.ble d.length z.ntmps=true) (h:AEx ⟨C,⟨z.ntmps,[]⟩,H.length,pn,D11⟩ c (X1c d) H (Wr ⟨C,⟨z.ntmps,[]⟩,H.length,pn,D11⟩ z.results.toList Q)):Q1z C f d H Q P:=by
 refine⟨by simp[M10,hf,T,hn],λM G w B hg Y hh hl hr=>?_⟩;have a0:=Nat.le_of_ble_eq_true ha;have hs:St C ⟨z.ntmps,[]⟩ M G w (X1c d) H { tmps:=B++Array.replicate (z.ntmps-B.size) undef,defers:=[] }:=by
  refine⟨hg,Y,hh,λt=>?_,by simp;omega,rfl⟩;unfold X1c;cases J:nth d t with
  |none=>exact .junk
  |some x=>
   rw[Q2]at J;have I:t<B.size:=by rw[<-hl];exact(zqu.1 J).1
   have hv:B[t]?=some B[t]:=Array.getElem?_eq_getElem I;have:(B++Array.replicate (z.ntmps-B.size) undef).getD t undef=B[t]:=by
    simp[Array.getD_eq_getD_getElem?,Array.getElem?_append,I]
   rw[this];exact hr t x _ J hv
 have V:D2 ⟨H,G,M,w⟩ M G w H:=⟨Ext.refl _ _ _,λb T=>.inl T,zqr _,λ_ _ _ _=>rfl,λo x y J ht Z=>by rw[J]at Z;exact Option.some.inj Z▸ht⟩
 refine calls_of_wp hf T (wp_mono (h ⟨H,G,M,w⟩ M G w _ rfl hs V) λe a' w' he=>?_);rcases he with⟨x,env',H',M',G',rfl,D,r,u⟩|⟨v,env',H',M',G',rfl,D,r,u⟩|⟨_,D⟩
 case inr.inr=>exact D.elim
 ·have hp:=D22 (F:=⟨C,⟨z.ntmps,[]⟩,H.length,pn,D11⟩) hC rfl r u D;cases x with
  |normal=>obtain⟨v,U,O⟩:=hp;exact⟨r.defers,v,U,.inl O⟩
  |ret=>obtain⟨v,U,O⟩:=hp;exact⟨r.defers,v,U,.inl O⟩
  |exit id=>exact D.elim
 ·obtain⟨H2,O,h4,h5⟩:=X _ _ _ D;exact⟨r.defers,.inr ⟨v,H2,M',Xi H2.length G',rfl,h5,D1x r.good r.hrel u O h4⟩⟩
def B4.intro {C:Cx}(hC:T1 C){u:Func}{c:Code}{r:List A}{Q:A->F0->Prop}(y:C.P.funcs[f]?=some u)(x:(u.name == "runtime.NumGoroutine")=false)(B:u.body=some c)
  (I:Nat.ble r.length u.ntmps=true) (h:AEx (fx C u.ntmps H.length) c (X1c r) H (Wr (fx C u.ntmps H.length) u.results.toList Q)):B4 C f r H Q:=by
 obtain⟨z,D⟩:=E22 (P:=noP) (pn:=Z15) hC (λ_ _ _ h=>h.elim) y x B I h;exact⟨z,λM G w v a b c d e=>(D M G w v a b c d e).mono λe J h=>h.resolve_right λ⟨_,_,_,_,_,h,_⟩=>h.elim⟩
def Z1r {v:Operand}{x:Array Operand}{B:Array TypeId}{b:Array Value}(y:o.op = .call { callee:=.value v,args:=x,argTypes:=B })
  (D:ρ v = .func (.func f) #[] b) (d:M10 P f=true) (w:World):(execOp ρ o).run P w = .ok (.enter f (x.map ρ++b)) w:=by
 unfold M10 at d;split at d
 ·rename_i z u;simp only[zqi,Bool.not_eq_true']at d;obtain⟨c,hc⟩:=Option.isSome_iff_exists.1 d.1;unfold execOp;have r:¬z.name = "runtime.NumGoroutine":=by simpa using d.2
  simp[y,resolve,D,Deferred.ofValue,invoke,callFunc,u,r,hc]
 ·cases d
def F22 {u:Operand}{v:Array Operand}{z:Array TypeId}{fs:Array Value}(x:o.op = .call { callee:=.value u,args:=v,argTypes:=z })
  (B:ρ u = .func (.func f) fs #[]) (b:M10 P f=true) (w:World):(execOp ρ o).run P w = .ok (.enter f (fs++v.map ρ)) w:=by
 unfold M10 at b;split at b
 ·rename_i y r;simp only[zqi,Bool.not_eq_true']at b;obtain⟨c,hc⟩:=Option.isSome_iff_exists.1 b.1;unfold execOp;have d:¬y.name = "runtime.NumGoroutine":=by simpa using b.2
  simp[x,resolve,B,Deferred.ofValue,invoke,callFunc,r,d,hc]
 ·cases b
def Yl (GL:GT)(env:Env)(o:Oper):Option (FuncId×List A):=
 match o.op with
 |.call { callee:=.value fo,args,.. }=>match ev GL env fo with
  |.clo f caps=>some (f,args.toList.map (ev GL env)++caps)
  |.bnd f first=>some (f,first++args.toList.map (ev GL env))
  |.d (.fn (some f))=>some (f,args.toList.map (ev GL env))
  |_=>none
 |_=>none
def E11 {C:Cx}(h:Yl C.GL env o=some (f,xs))(r:∀y∈o.op.operands,A1 M G (ev C.GL env y) (ρ y))(T:M10 C.P f=true) :
  ∃vs:Array Value,(∀w,(execOp ρ o).run C.P w = .ok (.enter f vs) w)/\xs.length=vs.size/\∀(i:Nat) x v,xs[i]?=some x->vs[i]?=some v->A1 M G x v:=by
 unfold Yl at h;split at h
 ·rename_i z u V D;rw[D]at r;split at h
  ·rename_i g U B;simp only[zqb,zqh]at h;obtain⟨rfl,rfl⟩:=h;have d:=r z (by simp[Op.operands,Call.operands]);rw[B]at d;generalize hfv:ρ z=fv at d;cases d;rename_i J I O;refine⟨u.map ρ++J,Z1r D hfv T,by simp[I],λi x v c b=>?_⟩;by_cases hi:i<u.size
   ·rw[zqx (by simpa using hi),List.getElem?_map]at c;rw[Array.getElem?_append_left (by simpa using hi),Array.getElem?_map]at b;cases ha:u[i]? with
    |none=>rw[ha]at b;cases b
    |some y=>
     rw[ha]at b;rw[Array.getElem?_toList,ha]at c;simp only[zqt,zqb]at c b;subst c;subst b;exact r y (by simp only[Op.operands,Call.operands,Array.mem_append];exact .inr (Array.mem_of_getElem? ha))
   ·rw[List.getElem?_append_right (by simp;omega)]at c;rw[Array.getElem?_append_right (by simp;omega)]at b;simp only[List.length_map,Array.length_toList,Array.size_map]at c b;exact O _ x v c b
  ·rename_i g first B
   simp only[zqb,zqh]at h;obtain⟨rfl,rfl⟩:=h;have d:=r z (by simp[Op.operands,Call.operands]);rw[B]at d;generalize hfv:ρ z=fv at d;cases d;rename_i J I O;refine⟨J++u.map ρ,F22 D hfv T,by simp[I],λi x v c b=>?_⟩;by_cases hi:i<first.length
   ·rw[zqx hi]at c;rw[Array.getElem?_append_left (by omega)]at b;exact O _ x v c b
   ·rw[List.getElem?_append_right (by omega),List.getElem?_map]at c;rw[Array.getElem?_append_right (by omega),Array.getElem?_map,<-I]at b;cases ha:u[i-first.length]? with
    |none=>rw[ha]at b;cases b
    |some y=>
     rw[ha]at b;rw[Array.getElem?_toList,ha]at c;simp only[zqt,zqb]at c b;subst c;subst b;exact r y (by simp only[Op.operands,Call.operands,Array.mem_append];exact .inr (Array.mem_of_getElem? ha))
  ·rename_i g B;simp only[zqb,zqh]at h;obtain⟨rfl,rfl⟩:=h;have d:=r z (by simp[Op.operands,Call.operands]);rw[B]at d;generalize hfv:ρ z=fv at d;cases d;rename_i d;cases d;refine⟨u.map ρ ++ #[],Z1r D hfv T,by simp,λi x v c b=>?_⟩;rw[Array.append_empty,Array.getElem?_map]at b;rw[List.getElem?_map]at c;cases ha:u[i]? with
   |none=>rw[ha]at b;cases b
   |some y=>
    rw[ha]at b;rw[Array.getElem?_toList,ha]at c;simp only[zqt,zqb]at c b;subst c;subst b;exact r y (by simp only[Op.operands,Call.operands,Array.mem_append];exact .inr (Array.mem_of_getElem? ha))
  ·cases h
 ·cases h
def A1.bare {x:A}(h:A1 M G x v)(c:P4 0 x=true):A1 M G' x v:=
 h.mono (λ_ _ e=>e) λo b=>absurd (W1c c b) (by omega)
def A1a {C:Cx}(T:R2 0 xs=true){B:A->Prop}(hc:B4 C f xs [] (λr H'=>H'=[]/\B r))(I:Z3 M w)(u:L10 C M w)
  (U:xs.length=vs.size) (J:∀(i:Nat) x v,xs[i]?=some x->vs[i]?=some v->A1 M G x v):Calls C.P f vs w λe d=>∃v r M',e = .returned v/\B r/\(∀G',A1 M' G' r v)/\Z3 M' d/\Ext W5 M w M' d:=by
 refine(hc.2 M (λ_=>.tuple #[]) w vs I u (Z6.nil _ _) U λi x v z hv=>(J i x v z hv).bare (Xl T x (List.mem_of_getElem? z))).mono λe d Z=>?_;obtain⟨v,r,H',M',G',rfl,⟨rfl,V⟩,y,h2,O,X,_,_,_⟩:=Z;refine⟨v,r,M',rfl,V,λD=>y.mono (λ_ _ e=>e) λo c=>absurd (O.fresh o (Nat.zero_le _)) (y.names c),h2,X.weaken λb Y=>?_⟩;obtain⟨o,x,c,_⟩:=Y;simp at c
def D17 {C:Cx}{x:A}(X:Yl C.GL env o=some (f,xs))(B:R2 0 xs=true)(hc:B4 C f xs [] (λr H'=>H'=[]/\r=x)):R4 C o env H x:=by
 intro M G w a c Qw D d b hH T;obtain⟨Z,I,Y,u⟩:=E11 X D hc.1;unfold Oper.wp;rw[I w];refine(A1a B hc d b Y u).mono λe V J=>?_;obtain⟨v,r,O,rfl,rfl,y,z,U⟩:=J;exact T v O V (y G) z U
def K0.call {l:List Oper}{x:A}(b:K1 L env o=some true)(d:Yl F.C.GL env o=some (f,xs))(c:R2 0 xs=true)
  (hc:B4 F.C f xs [] (λr H'=>H'=[]/\r=x)) (k:K0 F L l (put env o.dst x) H Q):K0 F L (o::l) env H Q:=.yields b (D17 d c hc) k
def Xr:List A->Option (List A)
 |[]=>some []
 |x::r=>match Xr r with|some r'=>some (x::r')|none=>none
def Ku:∀{l l':List A},Xr l=some l'->l'=l
 |[],l',h=>by simp[Xr]at h;exact h
 |x::r,l',h=>by
  simp only[Xr]at h;split at h
  ·rename_i c b;simp only[zqb]at h;rw[<-h,Ku b]
  ·cases h
def R1h:List D->Option (List D)
 |[]=>some []
 |x::r=>match R1h r with|some r'=>some (x::r')|none=>none
def E1x:∀{l l':List D},R1h l=some l'->l'=l
 |[],l',h=>by simp[R1h]at h;exact h
 |x::r,l',h=>by
  simp only[R1h]at h;split at h
  ·rename_i c b;simp only[zqb]at h;rw[<-h,E1x b]
  ·cases h
def frc:A->Option A
 |.d (.bool b)=>some (.d (.bool b))
 |.d (.int k n)=>some (.d (.int k n))
 |.d (.str s)=>some (.d (.str s))
 |.d (.sl r)=>some (.d (.sl r))
 |.d (.nilv k)=>some (.d (.nilv k))
 |.d (.box c)=>some (.d (.box c))
 |.d (.bxo c)=>some (.d (.bxo c))
 |.d (.mp e)=>some (.d (.mp e))
 |.d (.fn e)=>some (.d (.fn e))
 |.d (.csl a b c e)=>some (.d (.csl a b c e))
 |.d (.cel a b c)=>some (.d (.cel a b c))
 |.junk=>some .junk
 |.ref o k=>some (.ref o k)
 |.ptr cs=>match R1h cs with|some cs'=>some (.ptr cs')|none=>none
 |.full r=>some (.full r)
 |.osl o r=>some (.osl o r)
 |.rsl a b c e=>some (.rsl a b c e)
 |.clo f cs=>match Xr cs with|some cs'=>some (.clo f cs')|none=>none
 |.bnd f cs=>match Xr cs with|some cs'=>some (.bnd f cs')|none=>none
 |.agg cs=>match Xr cs with|some cs'=>some (.agg cs')|none=>none
 |.tup cs=>match Xr cs with|some cs'=>some (.tup cs')|none=>none
 |.mp o=>some (.mp o)
 |.vsl o=>some (.vsl o)
 |.vel o k=>some (.vel o k)
def On {x y:A}(h:frc x=some y):y=x:=by
 unfold frc at h;split at h<;>first
  |(simp only[zqb]at h;exact h.symm)
  |(split at h
    ·rename_i b hc;simp only[zqb]at h
     first|rw[<-h,Ku hc]|rw[<-h,E1x hc]
    ·cases h)
def Lm (C:Cx)(L:List Oper)(o:Oper)(env:Env)(H:F0):Option (Option Nat×Prop×A):=
 match K1 L env o with
 |some true=>match opA C.T C.GL o.op env H with
  |some (c,x)=>match frc x with
   |some y=>match o.dst with
    |some t=>some (some t,c,y)
    |none=>some (none,c,y)
   |none=>none
  |none=>none
 |some false=>match o.dst with
  |some t=>some (some t,True,.tup [])
  |none=>some (none,True,.tup [])
 |none=>none
def K0.q (hC:T1 F.C){l:List Oper}{d:Option Nat}{c:Prop}{x:A}(h:Lm F.C L o env H=some (d,c,x))(hc:c)
  (k:K0 F L l (put env d x) H Q):K0 F L (o::l) env H Q:=by
 unfold Lm at h;split at h
 ·rename_i u;split at h
  ·rename_i c' B z;split at h
   ·rename_i y v;have r:=On v;subst r;have:o.dst=d/\c'=c/\y=x:=by
     split at h
     ·rename_i t b;simp only[zqb,zqh]at h;exact⟨b.trans h.1,h.2.1,h.2.2⟩
     ·rename_i b;simp only[zqb,zqh]at h;exact⟨b.trans h.1,h.2.1,h.2.2⟩
    obtain⟨rfl,rfl,rfl⟩:=this;exact .op hC u z hc k
   ·cases h
  ·cases h
 ·rename_i u;have:o.dst=d/\A.tup []=x:=by
   split at h
   ·rename_i t b;simp only[zqb,zqh]at h;exact⟨b.trans h.1,h.2.2⟩
   ·rename_i b;simp only[zqb,zqh]at h;exact⟨b.trans h.1,h.2.2⟩
  obtain⟨rfl,rfl⟩:=this;exact .skip u k
 ·cases h
def Dp:F0->Ob->Option (Nat×F0)
 |[],x=>some (0,[x])
 |y::r,x=>match Dp r x with|some (n,r')=>some (n+1,y::r')|none=>none
def Nh:∀{H:F0} {x:Ob} {n:Nat} {H':F0},Dp H x=some (n,H')->n=H.length/\H'=H++[x]
 |[],x,n,H',h=>by simp[Dp]at h;exact⟨h.1.symm,h.2.symm⟩
 |y::r,x,n,H',h=>by
  simp only[Dp]at h;split at h
  ·rename_i m u b;simp only[zqb,zqh]at h;obtain⟨c,d⟩:=Nh b;rw[<-h.1,<-h.2,c,d];exact⟨rfl,rfl⟩
  ·cases h
def O3 (o:Oper):Option (Option Nat):=match o.dst with|some t=>some (some t)|none=>some none
def W2 {d:Option Nat}(h:O3 o=some d):o.dst=d:=by
 unfold O3 at h;split at h
 ·rename_i t b;simp only[zqb]at h;exact b.trans h
 ·rename_i b;simp only[zqb]at h;exact b.trans h
def R1z (C:Cx)(L:List Oper)(o:Oper)(env:Env)(H:F0):Option (Option Nat×Nat×F0):=
 match K1 L env o,o.op with
 |some true,.alloc t=>match Z1 C.T t with
  |some i=>match Xr (i.zero.map .d)with
   |some cs=>match Dp H (.row cs t),O3 o with|some (n,H'),some d=>some (d,n,H')|_,_=>none
   |none=>none
  |none=>none
 |some true,.box t y=>match Z9 (ev C.GL env y)with
  |some cs0=>match Xr cs0 with
   |some cs=>match Dp H (.row cs t),O3 o with|some (n,H'),some d=>some (d,n,H')|_,_=>none
   |none=>none
  |none=>none
 |_,_=>none
def K0.n {F:Fx}(hC:T1 F.C){L l:List Oper}{o:Oper}{env:Env}{H H':F0}{Q:Env->F0->Prop}{d:Option Nat}{n:Nat}(h:R1z F.C L o env H=some (d,n,H'))
  (k:K0 F L l (put env d (.ref n 0)) H' Q):K0 F L (o::l) env H Q:=by
 unfold R1z at h;split at h
 ·rename_i t v c;split at h
  ·rename_i i B;split at h
   ·rename_i D b;split at h
    ·rename_i n' H2 z u x;simp only[zqb,zqh]at h;obtain⟨rfl,rfl,rfl⟩:=h;obtain⟨rfl,rfl⟩:=Nh u;have:=Ku b;subst this;refine .alloc hC v c B ?_;rw[W2 x];exact k
    ·cases h
   ·cases h
  ·cases h
 ·rename_i t y v c;split at h
  ·rename_i I r;split at h
   ·rename_i D b;split at h
    ·rename_i n' H2 z u x;simp only[zqb,zqh]at h;obtain⟨rfl,rfl,rfl⟩:=h;obtain⟨rfl,rfl⟩:=Nh u;have:=Ku b;subst this;refine .box v c r ?_;rw[W2 x];exact k
    ·cases h
   ·cases h
  ·cases h
 ·cases h
def N10:List A->Nat->List A->Option (List A)
 |c,0,[]=>Xr c
 |_::c,0,x::xs=>match N10 c 0 xs with|some r=>some (x::r)|none=>none
 |c::cs,n+1,xs=>match N10 cs n xs with|some r=>some (c::r)|none=>none
 |[],_,_=>some []
def K18:∀{c:List A} {n:Nat} {xs r:List A},N10 c n xs=some r->r=N8 c n xs
 |[],0,[],r,h=>by simp[N10,Xr]at h;rw[h];rfl
 |[],0,_::_,r,h=>by simp[N10]at h;rw[h];rfl
 |[],_+1,[],r,h=>by simp[N10]at h;rw[h];rfl
 |[],_+1,_::_,r,h=>by simp[N10]at h;rw[h];rfl
 |c::d,0,[],r,h=>by simp only[N10]at h;rw[Ku h];rfl
 |c::d,0,x::xs,r,h=>by
  simp only[N10]at h;split at h
  ·rename_i u b;simp only[zqb]at h;rw[<-h,K18 b];rfl
  ·cases h
 |c::d,n+1,xs,r,h=>by
  simp only[N10]at h;split at h
  ·rename_i u b;simp only[zqb]at h;rw[<-h,K18 b];rfl
  ·cases h
def Zc:F0->Nat->Ob->Option F0
 |[],_,_=>some []
 |_::r,0,x=>some (x::r)
 |y::r,n+1,x=>match Zc r n x with|some r'=>some (y::r')|none=>none
def Rj:∀{H:F0} {n:Nat} {x:Ob} {r:F0},Zc H n x=some r->r=A5 H n x
 |[],n,x,r,h=>by simp[Zc]at h;rw[h];rfl
 |y::H,0,x,r,h=>by simp[Zc]at h;rw[<-h];rfl
 |y::H,n+1,x,r,h=>by
  simp only[Zc]at h;split at h
  ·rename_i c b;simp only[zqb]at h;rw[<-h,Rj b];rfl
  ·cases h
def Fw (C:Cx)(L:List Oper)(o:Oper)(env:Env)(H:F0):Option F0:=
 match K1 L env o,o.op,o.dst with
 |some true,.store t x y,none=>match Z1 C.T t,ev C.GL env x,Z9 (ev C.GL env y)with
  |some i,.ref p off,some xs=>match nth H p with
   |some (.row cells e)=>bif Nat.beq xs.length i.size&&Nat.ble (off+i.size) cells.length then(match N10 cells off xs with|some cs=>Zc H p (.row cs e)|none=>none)else none
   |_=>none
  |_,_,_=>none
 |_,_,_=>none
def K0.s (hC:T1 F.C){l:List Oper}(h:Fw F.C L o env H=some H')
  (k:K0 F L l env H' Q):K0 F L (o::l) env H Q:=by
 unfold Fw at h;split at h
 ·rename_i t x y I z T;split at h
  ·rename_i i p c v B J r;split at h
   ·rename_i b e D;cases hb:Nat.beq v.length i.size&&Nat.ble (c+i.size) b.length with
    |false=>rw[hb]at h;cases h
    |true=>
     rw[hb]at h;simp only[zqk]at h;split at h
     ·rename_i V d;have U:=K18 d;have O:=Rj h;subst U;subst O;have u:J18 i (ev F.C.GL env x) (ev F.C.GL env y) H=some (p,N8 b c v,e):=by
       unfold J18;rw[J,r];simp only[D,hb,zqk]
      refine .store hC I z B u ?_;rw[T];exact k
     ·cases h
   ·cases h
  ·cases h
 ·cases h
def Ad (C:Cx)(L:List Oper)(o:Oper)(env:Env):Option (Option Nat×FuncId×List A):=
 match K1 L env o,Yl C.GL env o with
 |some true,some (f,xs)=>match Xr xs,O3 o with|some ys,some d=>some (d,f,ys)|_,_=>none
 |_,_=>none
def Ze {C:Cx}{d:Option Nat}(h:Ad C L o env=some (d,f,xs)):K1 L env o=some true/\Yl C.GL env o=some (f,xs)/\o.dst=d:=by
 unfold Ad at h;split at h
 ·rename_i g x c hc;split at h
  ·rename_i v u b r;simp only[zqb,zqh]at h;obtain⟨rfl,rfl,rfl⟩:=h;rw[Ku b];exact⟨c,hc,W2 r⟩
  ·cases h
 ·cases h
def K0.c {l:List Oper}{d:Option Nat}{x:A}(h:Ad F.C L o env=some (d,f,xs))(b:R2 0 xs=true)
  (hc:B4 F.C f xs [] (λr H'=>H'=[]/\r=x)) (k:K0 F L l (put env d x) H Q):K0 F L (o::l) env H Q:=by
 obtain⟨v,u,rfl⟩:=Ze h;exact .call v u b hc k
def F11 (C:Cx)(L:List Oper)(o:Oper)(env:Env):Option (Option Nat×List (List D)×Int×Nat):=
 match K1 L env o,o.op with
 |some true,.indexAddr t x y=>match Z1 C.T t,ev C.GL env y,Mn (ev C.GL env x),O3 o with
  |some i,.d (.int _ n),some rows,some d=>match i.u with
   |.sl e=>match Z1 C.T e with|some j=>some (d,rows,n,j.size)|none=>none
   |_=>none
  |_,_,_,_=>none
 |_,_=>none
def G29 (h:F2 M (.sl rows) v){r:Row}(b:rows[k]?=some r) :
  ∃a cap,v = .slice (some a) rows.length cap/\A1 M G (.ptr r) (.pointer (some (a.add (k*r.length)))):=by
 cases h with
 |slnil=>simp at b
 |sl sz N1 B hc I d u z D=>
  rename_i a y cap;have d:a.spot=none:=by
   rcases d with h0|h0
   ·have:=(zqu.1 b).1;omega
   ·exact h0
  refine⟨a,cap,by rw[B],?_⟩;rw[u k r b];refine .ptr (λj=>N1 k j) (by rw[Q12 d]) (λj x c=>?_) λj x c=>D k j r x b c;rw[Ct];exact z k j r x b c
def Et {C:Cx}(hC:T1 C){d:Option Nat}{rows:List (List D)}{n:Int}(h:F11 C L o env=some (d,rows,n,sz)){r:List D}(hn:n=k)
  (O:rows[k]?=some r) (B:Nat.beq r.length sz=true):R4 C o env H (.ptr r):=by
 intro M G w a T Qw z V a2 hH I;unfold F11 at h;split at h
 ·rename_i t x y hw J;rw[J]at z;split at h
  ·rename_i i kd m b d' Z U hr hd;split at h
   ·rename_i e Y;split at h
    ·rename_i j he;simp only[zqb,zqh]at h;obtain⟨rfl,rfl,rfl,rfl⟩:=h;have hx:=z x (by simp[Op.operands]);have c:=z y (by simp[Op.operands]);rw[U]at c;generalize hyv:a.eval y=yv at c;cases c;rename_i c;cases c;obtain⟨X,a1,hv,hp⟩:=G29 (G:=G) (L9 hr hx) O;have a0:k<b.length:=(zqu.1 O).1;have u:=zqo B;have v:=A7 (hC.tok.facts Z) Y;unfold Oper.wp execOp;have:(Instr.indexAt t (a.eval x) (.int kd m)).run C.P w = .ok (.pointer (some (X.add (k*r.length)))) w:=by
      have hc:0<=m/\m<(b.length:Int):=by omega
      have hm:m.toNat=k:=by omega
      simp[Instr.indexAt,Mq,run_underlying v,hv,hc,D9 (hC.tok.facts he) w,u,hm]
     simp only[J,hyv,Sem.run_bind,this,Result.andThen_ok,Sem.run_pure,Oper.upon_value];exact I _ M w hp V (Ext.refl _ _ _)
    ·cases h
   ·cases h
  ·cases h
 ·cases h
def Gy {C:Cx}{d:Option Nat}{rows:List (List D)}{n:Int}(h:F11 C L o env=some (d,rows,n,sz)):K1 L env o=some true/\o.dst=d:=by
 unfold F11 at h;split at h
 ·rename_i t x y c u;split at h
  ·rename_i i J m b z B v I r;split at h
   ·split at h
    ·simp only[zqb,zqh]at h;obtain⟨rfl,_⟩:=h;exact⟨c,W2 r⟩
    ·cases h
   ·cases h
  ·cases h
 ·cases h
def K0.i (hC:T1 F.C){l:List Oper}{d:Option Nat}{rows:List (List D)}{n:Int}(h:F11 F.C L o env=some (d,rows,n,sz)){r:List D}(u:n=k)
  (x:rows[k]?=some r) (b:Nat.beq r.length sz=true) (c:K0 F L l (put env d (.ptr r)) H Q):K0 F L (o::l) env H Q:=by
 obtain⟨v,rfl⟩:=Gy h;exact .yields v (Et hC h u x b) c
def G11 (C:Cx)(L:List Oper)(o:Oper)(env:Env)(H:F0)(x:A):Prop:=
 (K1 L env o=some true/\R4 C o env H x)\/(K1 L env o=some false/\x = .tup [])
def AQ (C:Cx)(L:List Oper):List Oper->Env->F0->(Env->Prop)->Prop
 |[],env,_,Q=>Q env
 |o::r,env,H,Q=>∃d x,o.dst=d/\G11 C L o env H x/\AQ C L r (put env d x) H Q
def AQ.nil {C:Cx}{Q:Env->Prop}(h:Q env):AQ C L [] env H Q:=h
def AQ.q {C:Cx}(hC:T1 C){l:List Oper}{Q:Env->Prop}{d:Option Nat}{c:Prop}{x:A}(h:Lm C L o env H=some (d,c,x))(hc:c)(k:AQ C L l (put env d x) H Q):AQ C L (o::l) env H Q:=by
 unfold Lm at h;split at h
 ·rename_i u;split at h
  ·rename_i c' B z;split at h
   ·rename_i y v;have r:=On v;subst r;have:o.dst=d/\c'=c/\y=x:=by
     split at h
     ·rename_i t b;simp only[zqb,zqh]at h;exact⟨b.trans h.1,h.2.1,h.2.2⟩
     ·rename_i b;simp only[zqb,zqh]at h;exact⟨b.trans h.1,h.2.1,h.2.2⟩
    obtain⟨rfl,rfl,rfl⟩:=this;exact⟨_,_,rfl,.inl ⟨u,Al hC z hc⟩,k⟩
   ·cases h
  ·cases h
 ·rename_i u;have:o.dst=d/\A.tup []=x:=by
   split at h
   ·rename_i t b;simp only[zqb,zqh]at h;exact⟨b.trans h.1,h.2.2⟩
   ·rename_i b;simp only[zqb,zqh]at h;exact⟨b.trans h.1,h.2.2⟩
  obtain⟨rfl,rfl⟩:=this;exact⟨_,_,rfl,.inr ⟨u,rfl⟩,k⟩
 ·cases h
def AQ.c {C:Cx}{l:List Oper}{Q:Env->Prop}{d:Option Nat}{x:A}(h:Ad C L o env=some (d,f,xs))(b:R2 0 xs=true)
  (hc:B4 C f xs [] (λr H'=>H'=[]/\r=x)) (k:AQ C L l (put env d x) H Q):AQ C L (o::l) env H Q:=by
 obtain⟨v,u,rfl⟩:=Ze h;exact⟨_,x,rfl,.inl ⟨v,D17 u b hc⟩,k⟩
def AQ.i {C:Cx}(hC:T1 C){l:List Oper}{Q:Env->Prop}{d:Option Nat}{rows:List (List D)}{n:Int}(h:F11 C L o env=some (d,rows,n,sz)){r:List D}(u:n=k)
  (x:rows[k]?=some r) (b:Nat.beq r.length sz=true) (c:AQ C L l (put env d (.ptr r)) H Q):AQ C L (o::l) env H Q:=by
 obtain⟨v,rfl⟩:=Gy h;exact⟨_,_,rfl,.inl ⟨v,Et hC h u x b⟩,c⟩
def AQ.y {C:Cx}{l:List Oper}{Q:Env->Prop}{d:Option Nat}(x:A)(r:O3 o=some d)(b:K1 L env o=some true)(c:R4 C o env H x)(k:AQ C L l (put env d x) H Q):AQ C L (o::l) env H Q:=
 ⟨d,x,W2 r,.inl ⟨b,c⟩,k⟩
def Gb (L:List Oper)(o:Oper):List Nat:=
 (o.op.operands.toList.filterMap fun |.tmp t=>some t|_=>none)++(match o.guard with|some (j,_)=>(match nth L j with|some p=>p.dst.toList|none=>[])|none=>[])
def Mm (L:List Oper):Nat->Nat->Nat->Bool
 |0,_,_=>false
 |f+1,j,i=>match nth L j with
  |some o=>o.after.toList.any λe=>Region.binds .any e&&(Nat.beq e.on i||Mm L f e.on i)
  |none=>false
def Lu (L:List Oper)(i j:Nat):Bool:=
 match nth L i,nth L j with
 |some p,some q=>(match p.dst with|some d=>(Gb L q).contains d||q.dst==some d|none=>false)||(match q.dst with|some d=>(Gb L p).contains d|none=>false)
 |_,_=>false
def H14 (L:List Oper)(n:Nat):Bool:=
 (List.range L.length).all λj=>
  (match nth L j with|some o=>o.after.toList.all λe=>!Region.binds .any e||Nat.blt e.on j|none=>true) &&
  (List.range j).all λi=>!(Lu L i j||Nat.ble n j)||Mm L L.length j i
section
variable {L:List Oper}
def Ft {listed:Array Bool}(hc:∀(j:Nat) o,L[j]?=some o->listed.getD j false=true->∀e∈o.after,Region.binds .any e=true->listed.getD e.on false=true) :
  ∀(f j i:Nat),Mm L f j i=true->listed.getD j false=true->listed.getD i false=true
 |0,_,_,h,_=>by simp[Mm]at h
 |f+1,j,i,h,u=>by
  simp only[Mm,Q2]at h;split at h
  ·rename_i o r;obtain⟨e,d,b⟩:=List.any_eq_true.1 h;simp only[zqi,Bool.or_eq_true]at b;have c:=hc j o r u e (by simpa using d) b.1;rcases b.2 with h1|h1
   ·have:=zqo h1;subst this;exact c
   ·exact Ft hc f e.on i h1 c
  ·cases h
def Nr (hc:∀(j:Nat) o,L[j]?=some o->listed.getD j false=true->∀e∈o.after,Region.binds .any e=true->listed.getD e.on false=true){j:Nat}(r:L[j]?=some o)
  (u:∀e∈o.after,Region.binds .any e=true->listed.getD e.on false=true):∀(f i:Nat),Mm L f j i=true->listed.getD i false=true
 |0,_,h=>by simp[Mm]at h
 |f+1,i,h=>by
  simp only[Mm,Q2,r]at h;obtain⟨e,d,b⟩:=List.any_eq_true.1 h;simp only[zqi,Bool.or_eq_true]at b;have c:=u e (by simpa using d) b.1;rcases b.2 with h1|h1
  ·have:=zqo h1;subst this;exact c
  ·exact Ft hc f e.on i h1 c
def W9 (L:List Oper)(sel:Nat->Bool)(t:Nat):Nat->Option Nat
 |0=>none
 |m+1=>if sel m=true/\(L[m]?).bind (·.dst)=some t then some m else W9 L sel t m
def I13 {b:Nat->Bool}{t:Nat}:∀{m i:Nat},W9 L b t m=some i->i<m/\b i=true/\(L[i]?).bind (·.dst)=some t
 |0,i,h=>by simp[W9]at h
 |m+1,i,h=>by
  simp only[W9]at h;split at h
  ·rename_i hc;simp only[zqb]at h;subst h;exact⟨Nat.lt_succ_self _,hc.1,hc.2⟩
  ·obtain⟨d,c⟩:=I13 h;exact⟨Nat.lt_succ_of_lt d,c⟩
def To {s s':Nat->Bool}{t:Nat}:∀{m:Nat},(∀i,i<m->(L[i]?).bind (·.dst)=some t->s i=s' i)->W9 L s t m=W9 L s' t m
 |0,_=>rfl
 |m+1,h=>by
  simp only[W9];have b:=To (m:=m) (λi c=>h i (Nat.lt_succ_of_lt c));by_cases hd:(L[m]?).bind (·.dst)=some t
  ·rw[h m (Nat.lt_succ_self _) hd,b]
  ·rw[zn (λhc=>hd hc.2),zn (λhc=>hd hc.2),b]
def Z1c {s:Nat->Bool}{t i:Nat}:∀{m:Nat},i<=m->(∀j,i<=j->j<m->(L[j]?).bind (·.dst)=some t->s j=false)->W9 L s t m=W9 L s t i
 |0,h,_=>by have:i=0:=by omega
            subst this;rfl
 |m+1,h,b=>by
  by_cases he:i=m+1
  ·subst he;rfl
  ·simp only[W9];rw[zn]
   ·exact Z1c (by omega) (λj d c=>b j d (Nat.lt_succ_of_lt c))
   ·intro hc;have:=b m (by omega) (Nat.lt_succ_self _) hc.2;rw[this]at hc;cases hc.1
def L5 (L:List Oper)(env:Env)(out:Nat->A)(sel:Nat->Bool)(m:Nat):Env:=λt=>match W9 L sel t m with|some i=>out i|none=>env t
def S1z {c:Nat->A}{b:Nat->Bool}:L5 L env c b 0=env:=rfl
def T1z {b:Nat->A}(c:L[m]?=some o):L5 L env b (λ_=>true) (m+1)=put (L5 L env b (λ_=>true) m) o.dst (b m):=by
 funext t;simp only[L5,W9,c,Option.bind_some,true_and];cases hd:o.dst with
 |none=>simp[put,L5]
 |some d=>
  simp only[put,upd,zqb];by_cases h:d=t
  ·subst h;simp
  ·rw[zn h];have:Nat.beq t d=false:=by
    cases hb:Nat.beq t d with
    |false=>rfl
    |true=>exact absurd (zqo hb).symm h
   rw[this];rfl
end
def O10 {GL:GT}{env':Env}{y:Operand}(h:∀t,y = .tmp t->env t=env' t):ev GL env y=ev GL env' y:=by
 cases y with
 |tmp t=>exact h t rfl
 |_=>rfl
def Ar {env':Env}(h:∀t∈Gb L o,env t=env' t):K1 L env o=K1 L env' o:=by
 unfold K1;split
 ·rfl
 ·rename_i j b c;split
  ·rename_i p u;split
   ·rename_i d r;have:d∈Gb L o:=by simp[Gb,c,u,r]
    rw[h d this]
   ·rfl
  ·rfl
structure U1z (L:List Oper)(n:Nat)(listed:Array Bool):Prop where
 size:listed.size=L.length
 closed:∀(j:Nat) o,L[j]?=some o->listed.getD j false=true->∀e∈o.after,Region.binds .any e=true->listed.getD e.on false=true
def T1j {i j:Nat}(h:Lu L i j=true):Lu L j i=true:=by
 unfold Lu at h⊢;cases hi:nth L i with
 |none=>simp[hi]at h
 |some p=>
  cases hj:nth L j with
  |none=>simp[hi,hj]at h
  |some q=>
   simp only[hi,hj]at h⊢;cases hp:p.dst with
   |none=>
    cases hq:q.dst with
    |none=>simp[hp,hq]at h
    |some d=>simp only[hp,hq]at h⊢;simp at h⊢;exact h
   |some d=>
    cases hq:q.dst with
    |none=>simp only[hp,hq]at h⊢;simp at h⊢;exact h
    |some e=>
     simp only[hp,hq]at h⊢;simp at h⊢;rcases h with(h|h)|h
     ·exact .inr h
     ·exact .inl (.inr h.symm)
     ·exact .inl (.inl h)
def Pp {i:Nat}(h:listed.getD i true=false):listed.getD i false=false:=by
 rcases Nat.lt_or_ge i listed.size with h'|h'
 ·simp[h']at h⊢;exact h
 ·simp[Array.getElem?_eq_none h']at h
def D1w {n:Nat}(h:H14 L n=true):(∀(j:Nat) o,L[j]?=some o->∀e∈o.after,Region.binds .any e=true->e.on<j)/\
  ∀i j,i<j->j<L.length->Lu L i j=true\/n<=j->Mm L L.length j i=true:=by
 unfold H14 at h;refine⟨λj o d e r y=>?_,λi j c u hc=>?_⟩
 ·have b:=List.all_eq_true.1 h j (List.mem_range.2 (zqu.1 d).1);simp only[zqi,Q2,d]at b;have h2:=List.all_eq_true.1 b.1 e (by simpa using r);rw[y]at h2;simpa using h2
 ·have b:=List.all_eq_true.1 h j (List.mem_range.2 u);simp only[zqi]at b;have h2:=List.all_eq_true.1 b.2 i (List.mem_range.2 c);simp only[Bool.or_eq_true,Bool.not_eq_true',Bool.or_eq_false_iff]at h2;rcases h2 with⟨v,x⟩|h2
  ·rcases hc with hc|hc
   ·rw[v]at hc;cases hc
   ·have:=Nat.ble_eq_true_of_le hc;rw[x]at this;cases this
  ·exact h2
def count_set {i:Nat}(h:listed.getD i true=false):(listed.setIfInBounds i true).toList.count true=listed.toList.count true+1:=by
 have b:i<listed.size:=by
  rcases Nat.lt_or_ge i listed.size with h'|h'
  ·exact h'
  ·simp[Array.getElem?_eq_none h']at h
 have c:listed[i]=false:=by simpa[b]using h
 rw[Array.toList_setIfInBounds,List.count_set (by simpa using b)];simp[c]
def V1z (c:listed.size=L.length)(hc:listed.toList.count true=L.length)(i:Nat)(r:i<L.length):listed.getD i false=true:=by
 have:listed.toList.count true=listed.toList.length:=by simp[hc,c]
 have d:=List.count_eq_length.1 this;have b:i<listed.size:=by omega
 have:listed[i]∈listed.toList:=by simp
 have:=d _ this;simp[b,<-this]
mutual
def ren (f:Nat->Nat):A->A
 |.d x=>.d x
 |.junk=>.junk
 |.ref o k=>.ref (f o) k
 |.ptr c=>.ptr c
 |.full r=>.full r
 |.osl o r=>.osl (f o) r
 |.rsl o a b c=>.rsl (f o) a b c
 |.clo g cs=>.clo g (Hb f cs)
 |.bnd g cs=>.bnd g (Hb f cs)
 |.agg cs=>.agg (Hb f cs)
 |.tup xs=>.tup (Hb f xs)
 |.mp o=>.mp (f o)
 |.vsl o=>.vsl (f o)
 |.vel o k=>.vel (f o) k
def Hb (f:Nat->Nat):List A->List A
 |[]=>[]
 |x::r=>ren f x::Hb f r
end
def Gt (f:Nat->Nat):Ob->Ob
 |.row cs e=>.row (Hb f cs) e
 |.bld o e=>.bld (f o) e
 |x=>x
def Uw (f:Nat->Nat):∀(l:List A) (i:Nat),(Hb f l)[i]?=(l[i]?).map (ren f)
 |[],i=>by simp[Hb]
 |x::r,0=>by simp[Hb]
 |x::r,i+1=>by simp[Hb,Uw f r i]
def Af (f:Nat->Nat):∀l:List A,(Hb f l).length=l.length
 |[]=>rfl
 |x::r=>by simp[Hb,Af f r]
mutual
def G22 {M:Mem}{G:Nat->Value}{f:Nat->Nat}:∀(x:A) (v:Value),A1 M G (ren f x) v->A1 M (λi=>G (f i)) x v
 |.d x,v,h=>by simp only[ren]at h;cases h;exact .d (by assumption)
 |.junk,v,_=>.junk
 |.ref o k,v,h=>by simp only[ren]at h;cases h;exact .ref (by assumption)
 |.ptr c,v,h=>by simp only[ren]at h;cases h;rename_i a b c d;exact .ptr a b c d
 |.full r,v,h=>by simp only[ren]at h;cases h;exact .full (by assumption) (by assumption)
 |.osl o r,v,h=>by simp only[ren]at h;cases h;exact .osl (by assumption) (by assumption)
 |.rsl o a b c,v,h=>by simp only[ren]at h;cases h;rename_i a b c;exact .rsl (by assumption) (by assumption) (by assumption)
 |.clo g B,v,h=>by
  simp only[ren]at h;cases h;rename_i u z y;exact .clo (by rw[<-z,Af]) (Qx B u y)
 |.bnd g B,v,h=>by
  simp only[ren]at h;cases h;rename_i u z y;exact .bnd (by rw[<-z,Af]) (Qx B u y)
 |.agg B,v,h=>by
  simp only[ren]at h;cases h;rename_i u D z y;exact .agg (by rw[<-z,Af]) D (Qx B u y)
 |.tup B,v,h=>by
  simp only[ren]at h;cases h;rename_i u z y;exact .tup (by rw[<-z,Af]) (Qx B u y)
 |.mp o,v,h=>by simp only[ren]at h;cases h;exact .mp (by assumption)
 |.vsl o,v,h=>by simp only[ren]at h;cases h;exact .vsl (by assumption)
 |.vel o k,v,h=>by simp only[ren]at h;cases h;exact .vel (by assumption)
def Qx {M:Mem}{G:Nat->Value}{f:Nat->Nat}:∀(l:List A) (vs:Array Value),(∀(i:Nat) x v,(Hb f l)[i]?=some x->vs[i]?=some v->A1 M G x v)->∀(i:Nat) x v,l[i]?=some x->vs[i]?=some v->A1 M (λi=>G (f i)) x v
 |[],vs,_,i,x,v,b,_=>by simp at b
 |y::r,vs,h,i,x,v,b,d=>by
  cases i with
  |zero=>
   simp at b;subst b;exact G22 y v (h 0 _ v rfl d)
  |succ i=>
   have:=Qx r (vs.extract 1 vs.size) (λj z u D B=>by
    have c:=(Array.getElem?_eq_some_iff.1 B).1;simp only[Array.size_extract]at c;rw[Array.getElem?_extract,zp (by omega)]at B;exact h (j+1) z u (by simpa[Hb]using D) (by rw[<-B];congr 1;omega)) i x v (by simpa using b) (by
    have c:=(Array.getElem?_eq_some_iff.1 d).1;rw[Array.getElem?_extract,zp (by omega),<-d];congr 1;omega)
   exact this
end
def T1f {f:Nat->Nat}{x:A}(h:A1 M G x v)(u:∀o,Names x o->G' (f o)=G o):A1 M G' (ren f x) v:=by
 induction h with
 |d h=>simp only[ren];exact .d h
 |junk=>simp only[ren];exact .junk
 |ref h=>simp only[ren];exact .ref ((u _ .ref).trans h)
 |ptr a b c d=>simp only[ren];exact .ptr a b c d
 |full a b=>simp only[ren];exact .full a b
 |osl a b=>simp only[ren];exact .osl a ((u _ .osl).trans b)
 |rsl a b c=>simp only[ren];exact .rsl ((u _ .rsl).trans a) b c
 |clo D _ B=>
  simp only[ren];refine .clo (by rw[Af];exact D) λi x v r I=>?_;rw[Uw]at r;cases hc:(‹List A› : List A)[i]? with
  |none=>rw[hc]at r;cases r
  |some y=>
   rw[hc]at r;simp only[zqt,zqb]at r;subst r;exact B i y v hc I λo z=>u o (.clo (List.mem_of_getElem? hc) z)
 |bnd D _ B=>
  simp only[ren];refine .bnd (by rw[Af];exact D) λi x v r I=>?_;rw[Uw]at r;cases hc:(‹List A› : List A)[i]? with
  |none=>rw[hc]at r;cases r
  |some y=>
   rw[hc]at r;simp only[zqt,zqb]at r;subst r;exact B i y v hc I λo z=>u o (.bnd (List.mem_of_getElem? hc) z)
 |agg D J _ B=>
  simp only[ren];refine .agg (by rw[Af];exact D) J λi x v r I=>?_;rw[Uw]at r;cases hc:(‹List A› : List A)[i]? with
  |none=>rw[hc]at r;cases r
  |some y=>
   rw[hc]at r;simp only[zqt,zqb]at r;subst r;exact B i y v hc I λo z=>u o (.agg (List.mem_of_getElem? hc) z)
 |tup D _ B=>
  simp only[ren];refine .tup (by rw[Af];exact D) λi x v r I=>?_;rw[Uw]at r;cases hc:(‹List A› : List A)[i]? with
  |none=>rw[hc]at r;cases r
  |some y=>
   rw[hc]at r;simp only[zqt,zqb]at r;subst r;exact B i y v hc I λo z=>u o (.tup (List.mem_of_getElem? hc) z)
 |mp h=>simp only[ren];exact .mp ((u _ .mp).trans h)
 |vsl h=>simp only[ren];exact .vsl ((u _ .vsl).trans h)
 |vel h=>simp only[ren];exact .vel ((u _ .vel).trans h)
mutual
def dg (ps:List Nat):A->A
 |.osl o r=>bif ps.contains o then .d (.sl r)else .osl o r
 |.clo g cs=>.clo g (dgL ps cs)
 |.bnd g cs=>.bnd g (dgL ps cs)
 |.agg cs=>.agg (dgL ps cs)
 |.tup xs=>.tup (dgL ps xs)
 |.d x=>.d x
 |.junk=>.junk
 |.ref o k=>.ref o k
 |.ptr c=>.ptr c
 |.full r=>.full r
 |.rsl o a b c=>.rsl o a b c
 |.mp o=>.mp o
 |.vsl o=>bif ps.contains o then .junk else .vsl o
 |.vel o k=>bif ps.contains o then .junk else .vel o k
def dgL (ps:List Nat):List A->List A
 |[]=>[]
 |x::r=>dg ps x::dgL ps r
end
def dgO (ps:List Nat):Ob->Ob
 |.row cs e=>.row (dgL ps cs) e
 |.bld o e=>bif ps.contains o then .dead else .bld o e
 |x=>x
def A1d (ps:List Nat)(x:Ob):isTok (dgO ps x)=isTok x:=by
 cases x with
 |bld o e=>simp only[dgO];cases ps.contains o<;>rfl
 |_=>rfl
def Y13 (ps:List Nat):∀(l:List A) (i:Nat),(dgL ps l)[i]?=(l[i]?).map (dg ps)
 |[],i=>by simp[dgL]
 |x::r,0=>by simp[dgL]
 |x::r,i+1=>by simp[dgL,Y13 ps r i]
def Z13 (ps:List Nat):∀l:List A,(dgL ps l).length=l.length
 |[]=>rfl
 |x::r=>by simp[dgL,Z13 ps r]
def U1j {x:A}(h:A1 M G x v)(J:∀p∈ps,∃a l c,G p = .slice a l c)(I:∀o,o∉ps->(∀vs,G o≠.tuple vs)->G' o=G o):A1 M G' (dg ps x) v:=by
 have u:∀o,(∀a l c,G o≠.slice a l c)->o∉ps:=λo h' V=>by
  obtain⟨a,l,c,e⟩:=J o V;exact h' a l c e
 induction h with
 |d h=>simp only[dg];exact .d h
 |junk=>simp only[dg];exact .junk
 |ref h=>simp only[dg];exact .ref ((I _ (u _ (by rw[h];simp)) (by rw[h];simp)).trans h)
 |ptr a b c d=>simp only[dg];exact .ptr a b c d
 |full a b=>simp only[dg];exact .full a b
 |osl a b=>
  rename_i o O v;simp only[dg];cases hc:ps.contains o with
  |true=>exact .d a
  |false=>exact .osl a ((I _ (by simpa using hc) (by rw[b];cases a<;>simp)).trans b)
 |rsl a b c=>simp only[dg];exact .rsl ((I _ (u _ (by rw[a];simp)) (by rw[a];simp)).trans a) b c
 |clo B _ z=>
  simp only[dg];refine .clo (by rw[Z13];exact B) λi x v r D=>?_;rw[Y13]at r;cases hc:(‹List A› : List A)[i]? with
  |none=>rw[hc]at r;cases r
  |some y=>
   rw[hc]at r;simp only[zqt,zqb]at r;subst r;exact z i y v hc D
 |bnd B _ z=>
  simp only[dg];refine .bnd (by rw[Z13];exact B) λi x v r D=>?_;rw[Y13]at r;cases hc:(‹List A› : List A)[i]? with
  |none=>rw[hc]at r;cases r
  |some y=>
   rw[hc]at r;simp only[zqt,zqb]at r;subst r;exact z i y v hc D
 |agg B U _ z=>
  simp only[dg];refine .agg (by rw[Z13];exact B) U λi x v r D=>?_;rw[Y13]at r;cases hc:(‹List A› : List A)[i]? with
  |none=>rw[hc]at r;cases r
  |some y=>
   rw[hc]at r;simp only[zqt,zqb]at r;subst r;exact z i y v hc D
 |tup B _ z=>
  simp only[dg];refine .tup (by rw[Z13];exact B) λi x v r D=>?_;rw[Y13]at r;cases hc:(‹List A› : List A)[i]? with
  |none=>rw[hc]at r;cases r
  |some y=>
   rw[hc]at r;simp only[zqt,zqb]at r;subst r;exact z i y v hc D
 |@vsl o a l c h=>
  simp only[dg];cases hc:ps.contains o with
  |true=>exact .junk
  |false=>exact .vsl ((I _ (by simpa using hc) (by rw[h];simp)).trans h)
 |@vel o T b l c h=>
  simp only[dg];cases hc:ps.contains o with
  |true=>exact .junk
  |false=>exact .vel ((I _ (by simpa using hc) (by rw[h];simp)).trans h)
 |mp h=>simp only[dg];exact .mp ((I _ (u _ (by rw[h];simp)) (by rw[h];simp)).trans h)
def Y1m {x:Ob}{g:Value}(h:M5 M G w x g)(Y:∀p∈ps,∃a l c,G p = .slice a l c)(Z:∀o,o∉ps->(∀vs,G o≠.tuple vs)->G' o=G o):M5 M G' w (dgO ps x) g:=by
 cases x with
 |dead=>trivial
 |row I e=>
  obtain⟨b,us,O,T,U,u,J,g6⟩:=h;refine⟨b,us,O,T,by rw[Z13];exact U,u,λi y v B hv=>?_,g6⟩;rw[Y13]at B;cases hc:I[i]? with
  |none=>rw[hc]at B;cases B
  |some z=>
   rw[hc]at B;simp only[zqt,zqb]at B;subst B;exact U1j (J i z v hc hv) Y Z
 |bld o e=>
  simp only[dgO];cases hc:ps.contains o with
  |true=>trivial
  |false=>
   obtain⟨b,v0,O,T,U,u,J⟩:=h;have e':=Z o (by simpa using hc) u;exact⟨b,v0,O,by rw[e'];exact T,U,by rw[e'];exact u,J⟩
 |buf e sz=>exact h
 |vec e sz I=>exact h
 |slots γ e l=>exact h
 |tok e sz=>exact h
 |rok e sz=>exact h
 |gone=>exact h
 |map es=>
  obtain⟨b,ms,cl,O,T,U,u,J⟩:=h;refine⟨b,ms,cl,O,T,U,λi k I e a c=>⟨(u i k I e a c).1,?_⟩,J⟩;refine((u i k I e a c).2).mono (λ_ _ e=>e) λo V=>?_;exfalso;have:∀l:List D,¬Names (.agg (l.map .d)) o:=λl X=>by
   cases X with
   |agg hm X=>
    obtain⟨y,_,rfl⟩:=List.mem_map.1 hm;cases X
  match I with
  |[]=>exact this [] V
  |[x]=>cases V
  |x::y::r=>exact this _ V
def Mu {x:Ob}{g:Value}{b:Nat}(h:blk (dgO ps x) g b):blk x g b:=by
 cases x with
 |row c e=>revert h;cases g<;>first|exact id|(rename_i a;cases a<;>exact id)
 |bld o e=>
  simp only[dgO]at h;cases hc:ps.contains o with
  |true=>rw[hc]at h;simp[blk]at h
  |false=>rw[hc]at h;exact h
 |_=>exact h
def Cf (f:Nat->Nat)(x:Ob)(g:Value):blk (Gt f x) g=blk x g:=by
 cases x with
 |row b e=>cases g<;>first|rfl|(rename_i a;cases a<;>rfl)
 |bld o e=>cases g<;>first|rfl|(rename_i a;cases a<;>rfl)
 |_=>rfl
def W1z (l:List Nat)(i:Nat):Nat:=match nth l i with|some x=>x|none=>0
def K3 (idx:List Nat)(n:Nat)(i:Nat):Nat:=bif Nat.blt i idx.length then W1z idx i else n+(i-idx.length)
def Hy (f:Nat->Nat)(H:F0):List Nat->F0->Prop
 |[],[]=>True
 |p::ps,y::ys=>nth H p=some (Gt f y)/\Hy f H ps ys
 |_,_=>False
def Ht:Ob->Bool
 |.tok ..=>true
 |.gone=>true
 |.buf ..=>true
 |.vec ..=>true
 |_=>false
def S4:List Nat->F0->List Nat
 |p::ps,.tok .. :: ys=>p::S4 ps ys
 |p::ps,.gone::ys=>p::S4 ps ys
 |p::ps,.buf .. :: ys=>p::S4 ps ys
 |p::ps,.vec .. :: ys=>p::S4 ps ys
 |_::ps,_::ys=>S4 ps ys
 |_,_=>[]
def I14:List Nat->Bool
 |[]=>true
 |x::r=>!r.contains x&&I14 r
def Pr:∀{l:List Nat},I14 l=true->l.Nodup
 |[],_=>List.nodup_nil
 |x::r,h=>by
  simp only[I14,zqi,Bool.not_eq_true',List.contains_eq_mem]at h;exact List.nodup_cons.2 ⟨by simpa using h.1,Pr h.2⟩
def Hy.spec {f:Nat->Nat}{H:F0}:∀{idx:List Nat} {cH:F0},Hy f H idx cH->idx.length=cH.length/\∀(i:Nat) y,cH[i]?=some y->∃p,idx[i]?=some p/\H[p]?=some (Gt f y)
 |[],[],_=>⟨rfl,λi y h=>by simp at h⟩
 |p::r,y::u,h=>by
  obtain⟨d,c⟩:=Hy.spec h.2;refine⟨by simp[d],λi z b=>?_⟩;cases i with
  |zero=>simp at b;subst b;exact⟨p,rfl,by rw[<-Q2];exact h.1⟩
  |succ i=>simpa using c i z (by simpa using b)
 |[],_::_,h=>h.elim
 |_::_,[],h=>h.elim
def E17:∀{idx:List Nat} {cH:F0} {p:Nat},idx.length=cH.length->(p∈S4 idx cH ↔ ∃(i:Nat) (y:Ob),idx[i]?=some p/\cH[i]?=some y/\Ht y=true)
 |[],[],p,_=>by simp[S4]
 |q::x,y::v,p,B=>by
  have r:=E17 (idx:=x) (cH:=v) (p:=p) (by simpa using B);have b:(∃(i:Nat) (z:Ob),(q::x)[i]?=some p/\(y::v)[i]?=some z/\Ht z=true)↔(q=p/\Ht y=true)\/∃(i:Nat) (z:Ob),x[i]?=some p/\v[i]?=some z/\Ht z=true:=by
   constructor
   ·rintro⟨i,z,d,c,u⟩;cases i with
    |zero=>simp at d c;subst d;subst c;exact .inl ⟨rfl,u⟩
    |succ i=>exact .inr ⟨i,z,by simpa using d,by simpa using c,u⟩
   ·rintro(⟨d,c⟩|⟨i,z,d,c,u⟩)
    ·exact⟨0,y,by simp[d],rfl,c⟩
    ·exact⟨i+1,z,by simpa using d,by simpa using c,u⟩
  rw[b];cases y with
  |buf e sz=>
   simp only[S4,List.mem_cons,r,Ht,and_true];constructor
   ·rintro(rfl|h)
    ·exact .inl rfl
    ·exact .inr h
   ·rintro(rfl|h)
    ·exact .inl rfl
    ·exact .inr h
  |vec e sz D=>
   simp only[S4,List.mem_cons,r,Ht,and_true];constructor
   ·rintro(rfl|h)
    ·exact .inl rfl
    ·exact .inr h
   ·rintro(rfl|h)
    ·exact .inl rfl
    ·exact .inr h
  |tok e sz=>
   simp only[S4,List.mem_cons,r,Ht,and_true];constructor
   ·rintro(rfl|h)
    ·exact .inl rfl
    ·exact .inr h
   ·rintro(rfl|h)
    ·exact .inl rfl
    ·exact .inr h
  |gone=>
   simp only[S4,List.mem_cons,r,Ht,and_true];constructor
   ·rintro(rfl|h)
    ·exact .inl rfl
    ·exact .inr h
   ·rintro(rfl|h)
    ·exact .inl rfl
    ·exact .inr h
  |_=>simp[S4,Ht,r]
 |[],_::_,p,h=>by simp at h
 |_::_,[],p,h=>by simp at h
def fnd:List Nat->Nat->Option Nat
 |[],_=>none
 |x::r,p=>bif Nat.beq x p then some 0 else(match fnd r p with|some i=>some (i+1)|none=>none)
def Oq:∀{l:List Nat} {p i:Nat},fnd l p=some i->l[i]?=some p
 |[],p,i,h=>by simp[fnd]at h
 |x::r,p,i,h=>by
  simp only[fnd]at h;cases hb:Nat.beq x p with
  |true=>rw[hb]at h;simp at h;subst h;simp[zqo hb]
  |false=>
   rw[hb]at h;simp only[zql]at h;split at h
   ·rename_i j b;simp only[zqb]at h;subst h;simpa using Oq b
   ·cases h
def S1h:∀{l:List Nat} {p:Nat},fnd l p=none->p∉l
 |[],p,_=>by simp
 |x::r,p,h=>by
  simp only[fnd]at h;cases hb:Nat.beq x p with
  |true=>rw[hb]at h;simp at h
  |false=>
   rw[hb]at h;simp only[zql]at h;split at h
   ·cases h
   ·rename_i c;intro b;cases b with
    |head=>simp at hb
    |tail _ b=>exact S1h c b
def B1d {l:List Nat}(c:l.Nodup){i:Nat}(h:l[i]?=some p):fnd l p=some i:=by
 cases hf:fnd l p with
 |none=>exact absurd (List.mem_of_getElem? h) (S1h hf)
 |some j=>
  have d:=Oq hf;have b:=(zqu.1 h).1;exact congrArg some (((List.getElem?_inj b c).1 (by rw[h,d])).symm)
def Rx (idx:List Nat)(f:Nat->Nat)(ps:List Nat)(cH':F0):Nat->F0->F0
 |_,[]=>[]
 |p,x::r=>(match fnd idx p with|some i=>(match nth cH' i with|some y=>Gt f y|none=>.dead)|none=>dgO ps x)::Rx idx f ps cH' (p+1) r
def Aa (H:F0)(idx:List Nat)(f:Nat->Nat)(ps:List Nat)(cH':F0):F0:=
 Rx idx f ps cH' 0 H++(cH'.drop idx.length).map (Gt f)
def V1g (idx:List Nat)(f:Nat->Nat)(ps:List Nat)(b:F0)(u:idx.length<=b.length):∀(H:F0) (q p:Nat),(Rx idx f ps b q H)[p]? =
  if p<H.length then(match fnd idx (q+p)with|some i=>(b[i]?).map (Gt f)|none=>(H[p]?).map (dgO ps))else none
 |[],q,p=>by simp[Rx]
 |x::r,q,0=>by
  simp only[Rx,List.getElem?_cons_zero,zqd,Nat.add_zero];rw[zp (by omega)];cases hi:fnd idx q with
  |none=>simp
  |some i=>
   have d:i<idx.length:=(zqu.1 (Oq hi)).1;have c:b[i]?=some b[i]:=zqv (by omega);simp[Q2,c]
 |x::r,q,p+1=>by
  simp only[Rx,List.getElem?_cons_succ,zqd];rw[V1g idx f ps b u r (q+1) p];by_cases h:p<r.length
  ·rw[zp h,zp (by omega),show q+1+p=q+(p+1) by omega]
  ·rw[zn h,zn (by omega)]
def Uv (idx:List Nat)(f:Nat->Nat)(ps:List Nat)(b:F0):∀(H:F0) (q:Nat),(Rx idx f ps b q H).length=H.length
 |[],_=>rfl
 |x::r,q=>by simp[Rx,Uv idx f ps b r (q+1)]
def V1j {idx:List Nat}{f:Nat->Nat}{b:F0}:(Aa H idx f ps b).length=H.length+(b.length-idx.length):=by
 simp[Aa,Uv]
def B1a {idx:List Nat}{f:Nat->Nat}{b:F0}(c:idx.length<=b.length)(p:Nat):(Aa H idx f ps b)[p]? =
  if p<H.length then(match fnd idx p with|some i=>(b[i]?).map (Gt f)|none=>(H[p]?).map (dgO ps))else(b[idx.length+(p-H.length)]?).map (Gt f):=by
 unfold Aa;by_cases h:p<H.length
 ·rw[zqx (by rw[Uv];exact h),V1g idx f ps b c,zp h,zp h,Nat.zero_add]
 ·rw[List.getElem?_append_right (by rw[Uv];omega),Uv,zn h,List.getElem?_map,List.getElem?_drop]
def Ep (idx:List Nat)(n:Nat):Bool:=I14 idx&&idx.all λp=>Nat.blt p n
def LeL.rels {b:List A}(h:LeL xs b)(z:∀(i:Nat) x v,b[i]?=some x->vs[i]?=some v->A1 M G x v):∀(i:Nat) x v,xs[i]?=some x->vs[i]?=some v->A1 M G x v:=by
 intro i x v r y;obtain⟨B,u⟩:=h.spec;have c:i<b.length:=by rw[<-B];exact(zqu.1 r).1
 have d:=zqv c;exact(u i x _ r d).rel (z i _ v d y)
def H22 {a:Act}(idx:List Nat)(cH:F0)(hi:Ep idx H.length=true)(hm:Hy (K3 idx H.length) H idx cH)(hs:St F.C N M G w env H a)(a5:D2 fr M G w H) :
  Z6 M (λi=>G (K3 idx H.length i)) w cH/\∀(a0:F0) (M':Mem) (G':Nat->Value) (w':World),Z3 M' w'->Z6 M' G' w' a0->Ext (own (λi=>G (K3 idx H.length i)) cH) M w M' w'->(∀b,own G' a0 b->own (λi=>G (K3 idx H.length i)) cH b\/w.heap.size<=b)->cH.length<=a0.length->
   (∀(o:Nat) x,cH[o]?=some x->isTok x=false->G' o=G (K3 idx H.length o)/\∀y,a0[o]?=some y->isTok y=false)->
   ∃G2:Nat->Value,(∀i,G2 (K3 idx H.length i)=G' i)/\St F.C N M' G2 w' (λt=>dg (S4 idx cH) (env t)) (Aa H idx (K3 idx H.length) (S4 idx cH) a0) a/\D2 fr M' G2 w' (Aa H idx (K3 idx H.length) (S4 idx cH) a0):=by
 generalize hf:K3 idx H.length=f at *;generalize hps:S4 idx cH=ps at *;obtain⟨a8,I⟩:=hm.spec;simp only[Ep,zqi]at hi;have b9:=Pr hi.1;have c5:∀p∈idx,p<H.length:=λp Z=>by simpa using List.all_eq_true.1 hi.2 p Z
 have Y:∀{i p:Nat},idx[i]?=some p->f i=p:=λ{i p} V=>by
  have:i<idx.length:=(zqu.1 V).1;have O:Nat.blt i idx.length=true:=Nat.ble_eq_true_of_le this;rw[<-hf];simp[K3,O,W1z,Q2,V]
 have a6:∀{i:Nat},idx.length<=i->f i=H.length+(i-idx.length):=λ{i} hi'=>by
  have O:Nat.blt i idx.length=false:=by
   cases O:Nat.blt i idx.length with
   |false=>rfl
   |true=>have:=Nat.le_of_ble_eq_true O;omega
  rw[<-hf];simp[K3,O]
 have d1:Z6 M (λi=>G (f i)) w cH:=by
  refine⟨λi y J=>?_,λi i' y y' b J a7 O X=>?_,λi hi'=>?_⟩
  ·obtain⟨p,Z,a1⟩:=I i y J;have B:=hs.hrel.obj p _ a1;simp only[Y Z];cases y with
   |dead=>trivial
   |row cs e=>
    obtain⟨b,us,g1,g2,g3,g4,g5,g6⟩:=B;exact⟨b,us,g1,g2,by rw[Af]at g3;exact g3,g4,Qx cs us g5,g6⟩
   |bld o e=>exact B
   |buf e sz=>exact B
   |vec e sz cs=>exact B
   |slots γ e l=>exact B
   |tok e sz=>exact B
   |rok e sz=>exact B
   |gone=>exact B
   |map es=>
    obtain⟨b,ms,cl,g1,g2,g3,g4,g5⟩:=B;refine⟨b,ms,cl,g1,g2,g3,λj k cs e a c=>⟨(g4 j k cs e a c).1,?_⟩,g5⟩;refine((g4 j k cs e a c).2).bare ?_;have:∀l:List D,R2 0 (l.map .d)=true:=λl=>by
     induction l with
     |nil=>rfl
     |cons x r ih=>simp[R2,P4,ih]
    match cs with
    |[]=>rfl
    |[x]=>rfl
    |x::y::r=>simp only[Mc,P4];exact this _
  ·obtain⟨p,Z,a1⟩:=I i y J;obtain⟨p',a2,b3⟩:=I i' y' a7;simp only[Y Z]at O;simp only[Y a2]at X;have:=hs.hrel.apart p p' _ _ b a1 b3 (by rw[Cf];exact O) (by rw[Cf];exact X);subst this;have e1:=B1d b9 Z;have e2:=B1d b9 a2;rw[e1]at e2;exact Option.some.inj e2
  ·simp only[a6 (by omega:idx.length<=i)];exact hs.hrel.fresh _ (by omega)
 refine⟨d1,?_⟩;have b1:∀b,own (λi=>G (f i)) cH b->own G H b:=λb ⟨i,y,J,O⟩=>by
  obtain⟨p,Z,a1⟩:=I i y J;simp only[Y Z]at O;exact⟨p,_,a1,by rw[Cf];exact O⟩
 intro a0 M' G' w' g2 g3 g4 g5 g6 g7;have d3:idx.length<=a0.length:=by omega
 let G2:Nat->Value:=λp=>match fnd idx p with|some i=>G' i|none=>if p<H.length then G p else G' (idx.length+(p-H.length))
 have b0:∀i,G2 (f i)=G' i:=λi=>by
  rcases Nat.lt_or_ge i idx.length with hi'|hi'
  ·have V:idx[i]?=some idx[i]:=zqv hi';simp only[G2,Y V,B1d b9 V]
  ·have b2:fnd idx (f i)=none:=by
    cases T:fnd idx (f i)with
    |none=>rfl
    |some j=>
     have:=c5 _ (List.mem_of_getElem? (Oq T));rw[a6 hi']at this;omega
   simp only[G2,b2];rw[a6 hi',zn (by omega)];congr 1;omega
 have b7:∀p∈ps,∃a l c,G p = .slice a l c:=λp Z=>by
  rw[<-hps]at Z;obtain⟨i,y,e1,e2,e3⟩:=(E17 a8).1 Z;obtain⟨p',a2,a1⟩:=I i y e2;have:p'=p:=Option.some.inj (a2.symm.trans e1);subst this;have B:=hs.hrel.obj p' _ a1;cases y<;>simp[Ht]at e3
  case buf=>rcases B with⟨_,⟨e,_⟩|⟨ad,c7,us,e,_⟩⟩<;>exact⟨_,_,_,e⟩
  case gone=>exact B
  case vec=>rcases B with⟨e,_⟩|⟨ad,e,_⟩|⟨b,n,c7,e,_⟩<;>exact⟨_,_,_,e⟩
  rcases B with e|⟨ad,n,c7,e,_⟩
  ·exact⟨_,_,_,e⟩
  ·exact⟨_,_,_,e⟩
 have d2:∀p z,H[p]?=some z->isTok z=false->G2 p=G p:=λp z hz d0=>by
  have a9:=(zqu.1 hz).1;simp only[G2];cases T:fnd idx p with
  |none=>simp[a9]
  |some i=>
   have V:=Oq T;have b4:i<cH.length:=by rw[<-a8];exact(zqu.1 V).1
   have J:cH[i]?=some cH[i]:=zqv b4;obtain⟨p',a2,a1⟩:=I i _ J;have:p'=p:=Option.some.inj (a2.symm.trans V);subst this;rw[hz]at a1;cases a1;have ht:isTok cH[i]=false:=by
    rw[<-d0];cases cH[i]<;>rfl
   have:=(g7 i _ J ht).1;simp only[Y V]at this;exact this
 have c6:∀p,p∉ps->(∀vs,G p≠.tuple vs)->G2 p=G p:=λp Z c2=>by
  have a9:p<H.length:=by
   rcases Nat.lt_or_ge p H.length with h'|h'
   ·exact h'
   ·exact absurd (hs.hrel.fresh p h') (c2 _)
  simp only[G2];cases T:fnd idx p with
  |none=>simp[a9]
  |some i=>
   have V:=Oq T;have b4:i<cH.length:=by rw[<-a8];exact(zqu.1 V).1
   have J:cH[i]?=some cH[i]:=zqv b4;obtain⟨p',a2,a1⟩:=I i _ J;have:p'=p:=Option.some.inj (a2.symm.trans V);subst this;have ht:isTok cH[i]=false:=by
    cases ht:isTok cH[i]with
    |false=>rfl
    |true=>
     cases hs':Ht cH[i]with
     |true=>exact absurd ((E17 a8).2 ⟨i,_,V,J,hs'⟩) (by rw[hps];exact Z)
     |false=>
      have B:=hs.hrel.obj p' _ a1;generalize cH[i]=y at ht hs' B;cases y<;>simp[isTok,Ht]at ht hs'
      obtain⟨bs,e,_⟩:=B;exact absurd e (c2 _)
   have:=(g7 i _ J ht).1;simp only[Y V]at this;exact this
 have c3:∀(i:Nat) y,a0[i]?=some y->M5 M' G2 w' (Gt f y) (G' i):=λi y J=>by
  have B:=g3.obj i y J;cases y with
  |dead=>trivial
  |row cs e=>
   obtain⟨b,us,q1,q2,q3,q4,q5,q6⟩:=B;refine⟨b,us,q1,q2,by rw[Af];exact q3,q4,λj x v U hv=>?_,q6⟩;rw[Uw]at U;cases hc':cs[j]? with
   |none=>rw[hc']at U;cases U
   |some z=>
    rw[hc']at U;simp only[zqt,zqb]at U;subst U;exact T1f (q5 j z v hc' hv) λo _=>b0 o
  |bld o e=>
   obtain⟨b,v0,q1,q2,q3,q4,q5⟩:=B;exact⟨b,v0,q1,by rw[b0];exact q2,q3,by rw[b0];exact q4,q5⟩
  |buf e sz=>exact B
  |vec e sz cs=>exact B
  |slots γ e l=>exact B
  |tok e sz=>exact B
  |rok e sz=>exact B
  |gone=>exact B
  |map es=>
   obtain⟨b,ms,cl,q1,q2,q3,q4,q5⟩:=B;refine⟨b,ms,cl,q1,q2,q3,λj k cs e a c=>⟨(q4 j k cs e a c).1,?_⟩,q5⟩;refine((q4 j k cs e a c).2).bare ?_;have:∀l:List D,R2 0 (l.map .d)=true:=λl=>by
    induction l with
    |nil=>rfl
    |cons x r ih=>simp[R2,P4,ih]
   match cs with
   |[]=>rfl
   |[x]=>rfl
   |x::y::r=>simp only[Mc,P4];exact this _
 have a4:∀(p:Nat) x b,fnd idx p=none->H[p]?=some x->blk x (G p) b->¬own (λi=>G (f i)) cH b:=λp x b T U O ⟨i,y,J,c4⟩=>by
  obtain⟨p',a2,b3⟩:=I i y J;simp only[Y a2]at c4;have:=hs.hrel.apart p p' x _ b U b3 O (by rw[Cf];exact c4);subst this;exact S1h T (List.mem_of_getElem? a2)
 have a3:∀(p:Nat) x,(Aa H idx f ps a0)[p]?=some x->(∃i y,a0[i]?=some y/\x=Gt f y/\G2 p=G' i/\p=f i)\/(∃y,p<H.length/\fnd idx p=none/\H[p]?=some y/\x=dgO ps y/\G2 p=G p):=by
  intro p x U;rw[B1a d3]at U;by_cases Z:p<H.length
  ·rw[zp Z]at U;cases T:fnd idx p with
   |some i=>
    rw[T]at U;simp only at U;cases J:a0[i]? with
    |none=>rw[J]at U;cases U
    |some y=>
     rw[J]at U;simp only[zqt,zqb]at U;exact .inl ⟨i,y,J,U.symm,by simp only[G2,T],(Y (Oq T)).symm⟩
   |none=>
    rw[T]at U;simp only at U;cases J:H[p]? with
    |none=>rw[J]at U;cases U
    |some y=>
     rw[J]at U;simp only[zqt,zqb]at U;exact .inr ⟨y,Z,rfl,rfl,U.symm,by simp[G2,T,Z]⟩
  ·rw[zn Z]at U;cases J:a0[idx.length+(p-H.length)]? with
   |none=>rw[J]at U;cases U
   |some y=>
    rw[J]at U;simp only[zqt,zqb]at U;have b8:p=f (idx.length+(p-H.length)):=by rw[a6 (by omega)];omega
    exact .inl ⟨_,y,J,U.symm,by rw[b8,b0,<-b8],b8⟩
 have c0:∀b,own G2 (Aa H idx f ps a0) b->own G H b\/w.heap.size<=b:=λb ⟨p,x,U,O⟩=>by
  rcases a3 p x U with⟨i,y,J,rfl,hg,_⟩|⟨y,Z,T,J,rfl,hg⟩
  ·rw[Cf,hg]at O;rcases g5 b ⟨i,y,J,O⟩with h'|h'
   ·exact .inl (b1 b h')
   ·exact .inr h'
  ·replace O:=Mu O;rw[hg]at O;exact .inl ⟨p,y,J,O⟩
 have c1:Z6 M' G2 w' (Aa H idx f ps a0):=by
  refine⟨λp x U=>?_,λp p' x x' b U d5 O X=>?_,λp Z=>?_⟩
  ·rcases a3 p x U with⟨i,y,J,rfl,hg,_⟩|⟨y,Z,T,J,rfl,hg⟩
   ·rw[hg];exact c3 i y J
   ·rw[hg];have B:=hs.hrel.obj p y J;refine Y1m (B.keep g4.mono g4.size (λb O=>g4.block b (V7 B O) (a4 p y b T J O)) λb O d4 sp hn=>?_) b7 c6;cases hM:M' ⟨b,d4,sp⟩with
    |none=>rfl
    |some u=>
     rcases g4.fresh _ u hM with q|q|q
     ·rw[hn]at q;cases q
     ·exact absurd q (a4 p y b T J O)
     ·have:=V7 B O;simp only at q;omega
  ·rcases a3 p x U with⟨i,y,J,rfl,hg,b6⟩|⟨y,Z,T,J,rfl,hg⟩<;>rcases a3 p' x' d5 with⟨i',y',a7,rfl,hg',hpi'⟩|⟨y',a2,hfn',a7,rfl,hg'⟩
   ·rw[Cf,hg]at O;rw[Cf,hg']at X;rw[b6,hpi',g3.apart i i' y y' b J a7 O X]
   ·rw[Cf,hg]at O;replace X:=Mu X;rw[hg']at X;rcases g5 b ⟨i,y,J,O⟩with q|q
    ·exact absurd q (a4 p' y' b hfn' a7 X)
    ·have:=V7 (hs.hrel.obj p' y' a7) X;omega
   ·replace O:=Mu O;rw[hg]at O;rw[Cf,hg']at X;rcases g5 b ⟨i',y',a7,X⟩with q|q
    ·exact absurd q (a4 p y b T J O)
    ·have:=V7 (hs.hrel.obj p y J) O;omega
   ·replace O:=Mu O;rw[hg]at O;replace X:=Mu X;rw[hg']at X;exact hs.hrel.apart p p' y y' b J a7 O X
  ·rw[V1j]at Z;have b2:fnd idx p=none:=by
    cases T:fnd idx p with
    |none=>rfl
    |some j=>have:=c5 _ (List.mem_of_getElem? (Oq T));omega
   simp only[G2,b2];rw[zn (by omega)];exact g3.fresh _ (by omega)
 refine⟨G2,b0,⟨g2,hs.gl.ext hs.hrel g4 b1,c1,λt=>U1j ((hs.env t).mono' g4.mono) b7 c6,hs.size,hs.defers⟩,?_⟩;have b5:∀(p:Nat) x,fr.H0[p]?=some x->isTok x=false->∃z,H[p]?=some z/\isTok z=false:=λp x Z ht=>by
  have a9:p<H.length:=Nat.lt_of_lt_of_le (zqu.1 Z).1 a5.len;exact⟨_,zqv a9,a5.kind p x _ Z ht (zqv a9)⟩
 refine⟨a5.ext.trans g4 λb O=>a5.own b (b1 b O),λb O=>?_,?_,λp x Z ht=>?_,λp x y Z ht J=>?_⟩
 ·rcases c0 b O with h'|h'
  ·exact a5.own b h'
  ·exact .inr (Nat.le_trans a5.ext.size h')
 ·rw[V1j];have:=a5.len;omega
 ·obtain⟨z,q1,q2⟩:=b5 p x Z ht;rw[d2 p z q1 q2];exact a5.keep p x Z ht
 ·obtain⟨z0,q1,q2⟩:=b5 p x Z ht;rcases a3 p y J with⟨i,z,hz,rfl,_,b6⟩|⟨z,_,_,hz,rfl,_⟩
  ·have hi':i<idx.length:=by
    rcases Nat.lt_or_ge i idx.length with h'|h'
    ·exact h'
    ·rw[a6 h']at b6;have:=(zqu.1 q1).1;omega
   have V:idx[i]?=some idx[i]:=zqv hi';have b4:i<cH.length:=by omega
   have c8:cH[i]?=some cH[i]:=zqv b4;obtain⟨p',a2,a1⟩:=I i _ c8;have:p'=p:=by
    rw[b6,Y V];exact Option.some.inj (a2.symm.trans V)
   subst this;rw[q1]at a1;cases a1;have c9:isTok cH[i]=false:=by
    rw[<-q2];cases cH[i]<;>rfl
   have:=(g7 i _ c8 c9).2 z hz;cases z<;>simp[isTok,Gt]at this⊢
  ·have:=a5.kind p x z Z ht hz;rw[A1d];exact this
def K0.callHP {F:Fx}{l:List Oper}{d:Option Nat}{g:FuncId}(idx:List Nat)(u:List A)(cH:F0){Qc:A->F0->Prop}{Pc:Value->F0->Prop}
  (h:Ad F.C L o env=some (d,g,xs)) (hx:LeL (Hb (K3 idx H.length) u) xs) (hi:Ep idx H.length=true) (hm:Hy (K3 idx H.length) H idx cH) (hc:Q1z F.C g u cH Qc Pc)
  (kp:∀v b,Pc v b->F.pan v (λt=>dg (S4 idx cH) (env t)) (Aa H idx (K3 idx H.length) (S4 idx cH) b))
  (k:∀r b,Qc r b->K0 F L l (put (λt=>dg (S4 idx cH) (env t)) d (ren (K3 idx H.length) r)) (Aa H idx (K3 idx H.length) (S4 idx cH) b) Q):K0 F L (o::l) env H Q:=by
 obtain⟨hw,ha,rfl⟩:=Ze h;refine M1z hw λfr M G w a K Qw hK hd J Y hk hp=>?_;obtain⟨vs,h1,h2,T⟩:=E11 ha (λy _=>J.eval y) hc.1;unfold Oper.wp;rw[h1 w];obtain⟨X,H1n⟩:=H22 (F:=F) idx cH hi hm J Y;have T:=hx.rels T;refine(hc.2 M (λi=>G (K3 idx H.length i)) w vs J.good J.gl X (by rw[<-h2,<-hx.spec.1,Af]) (Qx u vs T)).mono λe I he=>?_;rcases he with⟨v,r,b,B,G',rfl,U,g1,g2,g3,g4,O,Z,g7⟩|⟨v,b,B,G',rfl,U,g2,g3,g4,O,Z,g7⟩
 ·obtain⟨V,D,c,z⟩:=H1n b B G' I g2 g3 g4 O Z g7;obtain⟨p1,p2,p3⟩:=Np (dst:=o.dst) (x:=ren (K3 idx H.length) r) (a:=a) (v:=v) (N:=F.N) c.env c.size (A4 hd) (T1f g1 λo _=>D o);exact hk _ _ _ B V I v (k r b U) ⟨c.good,c.gl,c.hrel,p1,p2,p3.trans c.defers⟩ z
 ·obtain⟨V,D,c,z⟩:=H1n b B G' I g2 g3 g4 O Z g7;exact hp v _ _ B V I (kp v b U) c z
def B4.toP {C:Cx}{r:List A}{Q:A->F0->Prop}(h:B4 C f r H Q):Q1z C f r H Q noP:=
 ⟨h.1,λM G w u a b c d e=>(h.2 M G w u a b c d e).mono λ_ _ h=>.inl h⟩
def K0.callHL {l:List Oper}{d:Option Nat}{g:FuncId}(idx:List Nat)(b:List A)(cH:F0){u:A->F0->Prop}
  (h:Ad F.C L o env=some (d,g,xs)) (v:LeL (Hb (K3 idx H.length) b) xs) (x:Ep idx H.length=true) (y:Hy (K3 idx H.length) H idx cH) (hc:B4 F.C g b cH u)
  (k:∀r c,u r c->K0 F L l (put (λt=>dg (S4 idx cH) (env t)) d (ren (K3 idx H.length) r)) (Aa H idx (K3 idx H.length) (S4 idx cH) c) Q):K0 F L (o::l) env H Q:=
 .callHP idx b cH h v x y hc.toP (λ_ _ h=>h.elim) k
def R3 (sz m:Nat)(N1:Nat->Nat->Value):List Value:=(List.range (m*sz)).map λq=>N1 (q / sz) (q % sz)
def G7 {N1:Nat->Nat->Value}:(R3 sz m N1).length=m*sz:=by simp[R3]
def Sx {N1:Nat->Nat->Value}{i j:Nat}(c:j<sz)(r:i<m):(R3 sz m N1)[i*sz+j]?=some (N1 i j):=by
 have b:i*sz+j<m*sz:=by
  have:(i+1)*sz<=m*sz:=Nat.mul_le_mul_right _ r;rw[Nat.add_mul]at this;omega
 have d:0<sz:=by omega
 unfold R3;rw[List.getElem?_map,List.getElem?_range b];simp only[zqt,zqb];rw[Nat.mul_comm i sz,Nat.mul_add_div d,Nat.mul_add_mod,Nat.div_eq_of_lt c,Nat.mod_eq_of_lt c,Nat.add_zero]
def T1o {N1:Nat->Nat->Value}{q:Nat}(h:(R3 sz m N1)[q]?=some v):0<sz/\q / sz<m/\q % sz<sz/\q=q / sz*sz+q % sz/\v=N1 (q / sz) (q % sz):=by
 unfold R3 at h;rw[List.getElem?_map]at h;by_cases hq:q<m*sz
 ·rw[List.getElem?_range hq]at h;simp only[zqt,zqb]at h;have b:0<sz:=by
   rcases Nat.eq_zero_or_pos sz with h'|h'
   ·subst h';simp at hq
   ·exact h'
  exact⟨b,(Nat.div_lt_iff_lt_mul b).2 hq,Nat.mod_lt _ b,by rw[Nat.mul_comm];exact(Nat.div_add_mod q sz).symm,h.symm⟩
 ·rw[List.getElem?_eq_none (by simp;omega)]at h;cases h
def C1a (V:Z3 M w)(h:F2 M (.sl rows) v)(y:∀r∈rows,r.length=sz) :
  ∃(N1:Nat->Nat->Value),(∀(i j:Nat) r x,rows[i]?=some r->r[j]?=some x->F2 M x (N1 i j))/\
   ((v = .slice none 0 0/\rows=[])\/∃a cap,v = .slice (some a) rows.length cap/\(cap=0\/a.spot=none)/\rows.length<=cap/\cap<=maxLen/\
     (∀(i j:Nat),i<rows.length->j<sz->M (a.add (i*sz+j))=some (N1 i j))/\∀q u,(R3 sz rows.length N1)[q]?=some u->w.cell? (a.add q)=some u/\u.oneCell'=true):=by
 cases h with
 |slnil=>exact⟨λ_ _=>undef,λi j r x h=>by simp at h,.inl ⟨rfl,rfl⟩⟩
 |sl d N1 Y hc hm hs T Z O=>
  rename_i a a0 cap;subst Y;have J:∀(i j:Nat),i<rows.length->j<sz->M (a.add (i*sz+j))=some (N1 i j)/\∃x,F2 M x (N1 i j):=by
   intro i j b z;have c:rows[i]?=some rows[i]:=zqv b;have e1:rows[i].length=sz:=y _ (List.getElem_mem b);have e2:=T i _ c;have e:d=sz:=by omega
   subst e;have I:rows[i][j]?=some rows[i][j]:=zqv (by omega);exact⟨Z i j _ _ c I,_,O i j _ _ c I⟩
  refine⟨N1,O,.inr ⟨a,cap,rfl,hs,hc,hm,λi j b z=>(J i j b z).1,λq u X=>?_⟩⟩;obtain⟨f1,f2,f3,U,rfl⟩:=T1o X;obtain⟨B,x,D⟩:=J _ _ f2 f3;rw[<-U]at B;exact⟨V.cell B D,D.one⟩
def Tok (M:Mem)(w:World)(e sz:Nat)(v:Value):Prop:=M5 M (λ_=>.tuple #[]) w (.tok e sz) v
def Src (M:Mem)(w:World)(sz:Nat)(news:List Row)(u:Value):Prop:=∃nvals:Nat->Nat->Value,(∀(i j:Nat) r x,news[i]?=some r->r[j]?=some x->F2 M x (nvals i j))/\
 ((u = .slice none 0 0/\news=[])\/∃a cap,u = .slice (some a) news.length cap/\∀q v,(R3 sz news.length nvals)[q]?=some v->w.cell? (a.add q)=some v/\v.oneCell'=true)
def Src.data (u:Z3 M w)(h:F2 M (.sl rows) v)(d:∀r∈rows,r.length=sz):Src M w sz rows v:=by
 obtain⟨N1,y,c⟩:=C1a u h d;refine⟨N1,y,?_⟩;rcases c with c|⟨a,b,e,_,_,_,_,x⟩
 ·exact .inl c
 ·exact .inr ⟨a,b,e,x⟩
def J14 {P:Program}{T:TT}(hT:TOk P T){w:World}(hG:Z3 M w){t e ty:Nat}{it ie:TI}(ht:Z1 T t=some it)(hu:it.u = .sl e)(he:Z1 T e=some ie){d:List Row}{u:Value}
  (hv:F2 M (.sl rows) v) (e3:Src M w ie.size d u) (b2:Tok M w e ie.size v) (hr:∀r∈rows,r.length=ie.size) (hn:∀r∈d,r.length=ie.size) (hb:(rows.length+d.length)*ie.bytes<=140737488355328)
  (hm:rows.length+d.length<=maxLen) :
  ∃v' w' M',(Builtin.append_ #[t,t] ty #[v,u]).run P w = .ok v' w'/\F2 M' (.sl (rows++d)) v'/\Tok M' w' e ie.size v'/\Z3 M' w'/\
   Ext (λb=>blk (.tok e ie.size) v b) M w M' w'/\∀b,blk (.tok e ie.size) v' b->blk (.tok e ie.size) v b\/w.heap.size<=b:=by
 have fe:=hT.facts he;have hd:=A7 (hT.facts ht) hu;obtain⟨a3,hi,b1,e4,z,hz,e0,_,_⟩:=fe.info;have e6:=fe.pos;have d8:z.cells.size=ie.size:=by have:=fe.len;simp only[Array.length_toList]at e0;omega
 obtain⟨y,c9,d6⟩:=e3;obtain⟨N1,c8,b8⟩:=C1a hG hv hr;generalize hszv:ie.size=sz at *;have a7:(rows.length+d.length)*a3.bytes<=140737488355328:=by rw[e4];exact hb
 rcases d6 with⟨rfl,rfl⟩|⟨na,b5,rfl,a9⟩
 ·have Y:(Builtin.append_ #[t,t] ty #[v,.slice none 0 0]).run P w = .ok v w:=by
   rcases b8 with⟨rfl,rfl⟩|⟨a,a4,rfl,hs,hc,b0,hM,b3⟩
   ·simp[Builtin.append_,run_underlying hd,sizeOf,typeInfo,hi,Builtin.lenOf,Builtin.firstCells]
   ·simp[Builtin.append_,run_underlying hd,sizeOf,typeInfo,hi,Builtin.lenOf,Builtin.firstCells,hc,storeCells]
  refine⟨v,w,M,Y,by simpa using hv,by simpa using b2,hG,Ext.refl _ _ _,λb hb=>.inl (by simpa using hb)⟩
 have b6:∀(a1:List Value) (X:Nat) (w1:World) (zs:Array Value),a1=R3 sz rows.length N1->rows.length+d.length<=X->X<=maxLen->w1.heap=w.heap->w1.os=w.os->w1.output=w.output->w1.tape=w.tape->
   zs.size=(X-(rows.length+d.length))*sz->
   ∃M',F2 M' (.sl (rows++d)) (.slice (some ⟨w.heap.size,0,none⟩) (rows.length+d.length) X)/\
    Tok M' (w1.alloc (.cells (a1.toArray++(R3 sz d.length y).toArray++zs) e)) e sz (.slice (some ⟨w.heap.size,0,none⟩) (rows.length+d.length) X)/\
    Z3 M' (w1.alloc (.cells (a1.toArray++(R3 sz d.length y).toArray++zs) e))/\
    Ext W5 M w M' (w1.alloc (.cells (a1.toArray++(R3 sz d.length y).toArray++zs) e)):=by
  intro a1 X w1 zs holds c7 b0 U e2 d1 c0 c6;have a2:w1.heap.size=w.heap.size:=by rw[U]
  let cs:Array Value:=a1.toArray++(R3 sz d.length y).toArray++zs
  let M':Mem:=λO=>if O.block=w.heap.size/\O.spot=none/\O.off<(rows.length+d.length)*sz then cs[O.off]? else M O
  have e5:cs.size=rows.length*sz+d.length*sz+zs.size:=by simp[cs,holds,G7,Nat.add_assoc]
  have d4:∀(i j:Nat),i<rows.length->j<sz->cs[i*sz+j]?=some (N1 i j):=λi j B hj=>by
   have a0:i*sz+j<rows.length*sz:=by
    have:(i+1)*sz<=rows.length*sz:=Nat.mul_le_mul_right _ B;rw[Nat.add_mul]at this;omega
   simp only[cs];rw[Array.getElem?_append_left (by simp[holds,G7];omega),Array.getElem?_append_left (by simp[holds,G7];exact a0),List.getElem?_toArray,holds,Sx hj B]
  have d3:∀(i j:Nat),i<d.length->j<sz->cs[(rows.length+i)*sz+j]?=some (y i j):=λi j B hj=>by
   have a0:i*sz+j<d.length*sz:=by
    have:(i+1)*sz<=d.length*sz:=Nat.mul_le_mul_right _ B;rw[Nat.add_mul]at this;omega
   simp only[cs];rw[Nat.add_mul,Array.getElem?_append_left (by simp[holds,G7];omega),Array.getElem?_append_right (by simp[holds,G7];omega),List.getElem?_toArray];simp only[List.size_toArray,holds,G7];rw[show rows.length*sz+i*sz+j-rows.length*sz=i*sz+j by omega,Sx hj B]
  have J:∀O x,M O=some x->M' O=some x:=λO x D=>by
   have:=hG.lt D;simp only[M'];rw[zn (by omega)];exact D
  refine⟨M',?_,.inr ⟨⟨w.heap.size,0,none⟩,_,X,rfl,.inr rfl,c7,b0,λa0=>⟨rfl,cs,?_,?_,λk sp hk=>?_⟩⟩,λO x D=>?_,J,by simp[a2],e2,d1,c0,λb V _=>?_,λO x D=>?_⟩
  ·refine .sl sz (λi j=>if i<rows.length then N1 i j else y (i-rows.length) j) (by simp) c7 b0 (.inr rfl) (λi r I=>?_) (λi j r x I D=>?_) λi j r x I D=>?_
   ·rcases List.mem_append.1 (List.mem_of_getElem? I)with h'|h'
    ·exact hr r h'
    ·exact hn r h'
   ·have c2:r.length=sz:=by
     rcases List.mem_append.1 (List.mem_of_getElem? I)with h'|h'
     ·exact hr r h'
     ·exact hn r h'
    have hj:j<sz:=by rw[<-c2];exact(zqu.1 D).1
    have d5:i<rows.length+d.length:=by have:=(zqu.1 I).1;simpa using this
    have a0:i*sz+j<(rows.length+d.length)*sz:=by
     have:(i+1)*sz<=(rows.length+d.length)*sz:=Nat.mul_le_mul_right _ d5;rw[Nat.add_mul]at this;omega
    rw[B5];simp only[M',Nat.zero_add];rw[zp ⟨trivial,trivial,a0⟩];by_cases B:i<rows.length
    ·rw[zp B,d4 i j B hj]
    ·rw[zn B];have:=d3 (i-rows.length) j (by omega) hj;rwa[show rows.length+(i-rows.length)=i by omega]at this
   ·by_cases B:i<rows.length
    ·rw[zqx B]at I;simp only[zp B];exact(c8 i j r x I D).mono J
    ·rw[List.getElem?_append_right (by omega)]at I;simp only[zn B];exact(c9 _ j r x I D).mono J
  ·have:=heap_alloc_new w1 (.cells cs e);rw[a2]at this;exact this
  ·rw[e5,c6,<-Nat.add_mul,<-Nat.add_mul];exact Nat.mul_le_mul_right _ (by omega)
  ·simp only[M'];rw[zn (by omega)];cases hM:M ⟨w.heap.size,k,sp⟩with
   |none=>rfl
   |some x=>have:=hG.lt hM;simp at this
  ·simp only[M']at D;split at D
   ·rename_i hc;obtain⟨b,o,s⟩:=O;simp only at hc D;obtain⟨rfl,rfl,hc⟩:=hc;refine .inl ⟨rfl,?_⟩;rw[Ye (w:=w1.alloc (.cells cs e)) (b:=w.heap.size) (vs:=cs) (e:=e) (fr:=(0,0)) (by rw[<-a2];exact heap_alloc_new w1 _)];exact D
   ·exact W13 (by simp[a2]) (by rw[heap_alloc_old w1 _ _ (by rw[a2];exact hG.lt D),U]) (hG O x D)
  ·rw[heap_alloc_old w1 _ b (by rw[a2];exact V),U]
  ·simp only[M']at D;split at D
   ·rename_i hc;exact .inr (.inr (by omega))
   ·exact .inl D
 have d2:∀n,(Builtin.zeroCells z.cells n).size=n*sz:=λn=>by rw[size_zeroCells,d8]
 have c4:(R3 sz d.length y).length=d.length*a3.size:=by rw[G7,b1]
 have Z:∀(j:Nat) u,(R3 sz d.length y)[j]?=some u->w.cell? (na.add j)=some u:=λj u hu=>(a9 j u hu).1;rcases b8 with⟨rfl,rfl⟩|⟨a,a4,rfl,hs,hc,b0,hM,b3⟩
 ·
  by_cases hm0:d.length=0
  ·have c1:d=[]:=List.eq_nil_of_length_eq_zero hm0;subst c1;refine⟨.slice none 0 0,w,M,?_,.slnil,.inl rfl,hG,Ext.refl _ _ _,λb V=>.inl V⟩;simp[Builtin.append_,run_underlying hd,sizeOf,typeInfo,hi,Builtin.lenOf,Builtin.firstCells,loadCells,loadCellsFrom]
  ·simp only[zqe,Nat.zero_add]at hm a7;have Y:=run_append_nil (P:=P) w t ty e a3 z hd hi hz na d.length b5 (R3 sz d.length y) c4 Z (by omega) (by unfold maxLen at hm;omega) (by omega)
   obtain⟨M',g1,g2,g3,g4⟩:=b6 [] (grownCap w d.length 0 e) w.drew _ (by simp[R3]) (by simpa using grownCap_ge w d.length 0 e) (grownCap_le_maxLen w _ _ e hm) rfl rfl rfl rfl
    (by simpa using d2 (grownCap w d.length 0 e-d.length))
   simp only[zqe,Nat.zero_add,List.nil_append]at g1 g2 g3 g4;refine⟨_,_,M',Y,g1,by simpa using g2,by simpa using g3,(by simpa using g4:Ext W5 M w M' _).weaken (λ_ h=>h.elim),λb V=>?_⟩;obtain⟨_,V⟩:=V;simp only at V;exact .inr (by omega)
 ·by_cases hroom:rows.length+d.length<=a4
  ·by_cases hm0:d.length=0
   ·have c1:d=[]:=List.eq_nil_of_length_eq_zero hm0;subst c1;refine⟨.slice (some a) rows.length a4,w,M,?_,by simpa using hv,by simpa using b2,hG,Ext.refl _ _ _,λb V=>.inl (by simpa using V)⟩;simp[Builtin.append_,run_underlying hd,sizeOf,typeInfo,hi,Builtin.lenOf,Builtin.firstCells,hc,storeCells,loadCells,loadCellsFrom]
   ·
    have a0:rows.length<a4:=by omega
    rcases b2 with h'|⟨a',n',X,h',_,_,_,d7⟩
    ·cases h'
    ·simp only[Value.slice.injEq,zqb]at h';obtain⟨rfl,rfl,rfl⟩:=h';obtain⟨h0,vs,b4,b7,a5⟩:=d7 a0;obtain⟨b,o,sp⟩:=a;have d9:sp=none:=hs.resolve_left (by omega);simp only at h0 b4 a5;subst h0;subst d9;have a8:rows.length*a3.size+(R3 sz d.length y).length<=vs.size:=by
      rw[G7,b1,<-Nat.add_mul];exact Nat.le_trans (Nat.mul_le_mul_right _ hroom) b7
     have Y:=run_append_room (P:=P) w t ty e a3 hd hi b rows.length a4 vs b4 na d.length b5 (R3 sz d.length y) c4 Z (λu c5=>by
      obtain⟨j,hj⟩:=List.getElem?_of_mem c5;exact(a9 j u hj).2) hroom a8
     rw[b1]at Y
     let cs:List Value:=vs.toList.take (rows.length*sz)++R3 sz d.length y++vs.toList.drop (rows.length*sz+(R3 sz d.length y).length)
     have b9:=λi=>Fy vs.toList (rows.length*sz) (R3 sz d.length y) i (by rw[b1]at a8;simpa using a8)
     let M':Mem:=λO=>if O.block=b/\O.spot=none/\rows.length*sz<=O.off/\O.off<(rows.length+d.length)*sz then(R3 sz d.length y)[O.off-rows.length*sz]? else M O
     have J:∀O x,M O=some x->M' O=some x:=λO x D=>by
      simp only[M'];rw[zn]
      ·exact D
      ·rintro⟨q1,q2,q3,_⟩;obtain⟨bb,oo,ss⟩:=O;simp only at q1 q2 q3;subst q1;rw[a5 oo ss q3]at D;cases D
     have U:(w.setRow b cs.toArray).heap[b]?=some (.cells cs.toArray e (0,0)):=setRow_heap w b vs _ e (0,0) b4;refine⟨_,_,M',Y,?_,?_,?_,?_,?_⟩
     ·refine .sl sz (λi j=>if i<rows.length then N1 i j else y (i-rows.length) j) (by simp) hroom b0 (.inr rfl) (λi r I=>?_) (λi j r x I D=>?_) λi j r x I D=>?_
      ·rcases List.mem_append.1 (List.mem_of_getElem? I)with h'|h'
       ·exact hr r h'
       ·exact hn r h'
      ·have c2:r.length=sz:=by
        rcases List.mem_append.1 (List.mem_of_getElem? I)with h'|h'
        ·exact hr r h'
        ·exact hn r h'
       have hj:j<sz:=by rw[<-c2];exact(zqu.1 D).1
       by_cases B:i<rows.length
       ·rw[zp B];exact J _ _ (hM i j B hj)
       ·have d5:i<rows.length+d.length:=by have:=(zqu.1 I).1;simpa using this
        rw[zn B,B5];have e1:i*sz+j=rows.length*sz+((i-rows.length)*sz+j):=by
         have:i*sz=rows.length*sz+(i-rows.length)*sz:=by rw[<-Nat.add_mul];congr 1;omega
         omega
        have d0:(i-rows.length)*sz+j<d.length*sz:=by
         have:(i-rows.length+1)*sz<=d.length*sz:=Nat.mul_le_mul_right _ (by omega);rw[Nat.add_mul]at this;omega
        simp only[M',Nat.zero_add];rw[zp ⟨trivial,trivial,by omega,by rw[Nat.add_mul];omega⟩,e1,Nat.add_sub_cancel_left,Sx hj (by omega)]
      ·by_cases B:i<rows.length
       ·rw[zqx B]at I;simp only[zp B];exact(c8 i j r x I D).mono J
       ·rw[List.getElem?_append_right (by omega)]at I;simp only[zn B];exact(c9 _ j r x I D).mono J
     ·refine .inr ⟨⟨b,0,none⟩,_,a4,rfl,.inr rfl,hroom,b0,λd0=>⟨rfl,cs.toArray,U,?_,λk sp hk=>?_⟩⟩
      ·have:cs.length=vs.size:=by
        simp only[cs,zqc,List.length_take,List.length_drop,Array.length_toList];rw[b1]at a8;omega
       simpa[this]using b7
      ·simp only[M'];rw[zn (by omega)];exact a5 k sp (Nat.le_trans (Nat.mul_le_mul_right _ (by omega)) hk)
     ·intro O x D;simp only[M']at D;split at D
      ·rename_i a6;obtain⟨bb,oo,ss⟩:=O;simp only at a6 D;obtain⟨rfl,rfl,q3,q4⟩:=a6;refine .inl ⟨rfl,?_⟩;rw[Ye U,List.getElem?_toArray];show cs[oo]?=some x;simp only[cs];rw[b9 oo,zp ⟨q3,by rw[G7,<-Nat.add_mul];exact q4⟩];exact D
      ·by_cases hbb:O.block=b
       ·rcases hG O x D with⟨q1,q2⟩|⟨_,ms,cl,h,_⟩|⟨q1,q2,q3⟩
        rotate_left
        ·rw[hbb,b4]at h;cases h
        ·exact .inr (.inr ⟨q1,by rw[Ni];exact q2,q3⟩)
        refine .inl ⟨q1,?_⟩;obtain⟨bb,oo,ss⟩:=O;simp only at hbb q1;subst hbb;subst q1;have e7:oo<rows.length*sz:=by
         rcases Nat.lt_or_ge oo (rows.length*sz)with h'|h'
         ·exact h'
         ·rw[a5 oo _ h']at D;cases D
        rw[Ye b4]at q2;rw[Ye U,List.getElem?_toArray];show cs[oo]?=some x;simp only[cs];rw[b9 oo,zn (by omega)];simpa using q2
       ·exact W13 (by rw[Ni];exact zqr _) (setRow_other w b O.block _ hbb) (hG O x D)
     ·refine⟨J,by rw[Ni];exact zqr _,rfl,rfl,rfl,λk _ hk=>setRow_other w b k _ (λe'=>hk ⟨a0,e'.symm⟩),λO x D=>?_⟩;simp only[M']at D;split at D
      ·rename_i a6;exact .inr (.inl ⟨a0,a6.1.symm⟩)
      ·exact .inl D
     ·intro c c3;obtain⟨_,c3⟩:=c3;exact .inl ⟨a0,c3⟩
  ·have Y:=run_append_grow (P:=P) w t ty e a3 z hd hi hz a rows.length a4 (R3 sz rows.length N1) (by rw[G7,b1]) (λj u c5=>(b3 j u c5).1) na d.length b5 (R3 sz d.length y) c4 Z
    (by omega) (by unfold maxLen at hm;omega) (growslice_fits (by omega) a7)
   obtain⟨M',g1,g2,g3,g4⟩:=b6 (R3 sz rows.length N1) (grownCap w (rows.length+d.length) a4 e) w.drew (Builtin.zeroCells z.cells (grownCap w (rows.length+d.length) a4 e-(rows.length+d.length))) rfl (grownCap_ge w _ _ e) (grownCap_le_maxLen w _ _ e hm) rfl rfl rfl rfl (d2 _);refine⟨_,_,M',Y,g1,g2,g3,g4.weaken (λ_ h=>h.elim),λb V=>?_⟩;obtain⟨_,V⟩:=V;simp only at V;exact .inr (by omega)
def W1g {T:TT}(Y:TOk P T)(B:Z3 M w){ty:Nat}{I d:TI}(O:Z1 T t=some I)(J:I.u = .sl e)(X:Z1 T e=some d){c:List Row}{u:Value}
  (Z:F2 M (.sl rows) v) (z:F2 M (.sl c) u) (x:Tok M w e d.size v) (U:∀r∈rows,r.length=d.size) (D:∀r∈c,r.length=d.size) (V:(rows.length+c.length)*d.bytes<=140737488355328)
  (hm:rows.length+c.length<=maxLen) :
  ∃v' y M',(Builtin.append_ #[t,t] ty #[v,u]).run P w = .ok v' y/\F2 M' (.sl (rows++c)) v'/\Tok M' y e d.size v'/\Z3 M' y/\
   Ext (λb=>blk (.tok e d.size) v b) M w M' y/\∀b,blk (.tok e d.size) v' b->blk (.tok e d.size) v b\/w.heap.size<=b:=J14 Y B O J X Z (.data B z D) x U D V hm
def St.turnTok {C:Cx}{N:FN}{M M':Mem}{G:Nat->Value}{w':World}{env:Env}{a:Act}(h:St C N M G w env H a){dst:Option Nat}(hd:∀d,dst=some d->d<N){e' a5:Nat}{x:A}
  (T:H[p]?=some (.tok e sz)) (B:Ext (λb=>blk (.tok e sz) (G p) b) M w M' w') (hg:Z3 M' w') (a3:M5 M' G w' (.tok e sz) v') (a1:∀b,blk (.tok e sz) v' b->blk (.tok e sz) (G p) b\/w.heap.size<=b)
  (hx:A1 M' (I3 G p v') x v') (_he:e'=e) (_hs:a5=sz) :
  St C N M' (I3 G p v') w' (put (λt=>dg [p] (env t)) dst x) (H.map (dgO [p])) (a.put dst v'):=by
 have Z:∀q∈[p],∃a l c,G q = .slice a l c:=λq hq=>by
  simp at hq;subst hq;rcases h.hrel.obj q _ T with e|⟨ad,n,a9,e,_⟩
  ·exact⟨_,_,_,e⟩
  ·exact⟨_,_,_,e⟩
 have X:∀o,o∉[p]->(∀vs,G o≠.tuple vs)->I3 G p v' o=G o:=λo ho _=>P1 (by simpa using ho);have a8:p<H.length:=(zqu.1 T).1;have O:∀(o:Nat) z,(H.map (dgO [p]))[o]?=some z->∃y,H[o]?=some y/\z=dgO [p] y:=λo z J=>by
  rw[List.getElem?_map]at J;cases I:H[o]? with
  |none=>rw[I]at J;cases J
  |some y=>rw[I]at J;exact⟨y,rfl,by simpa using J.symm⟩
 obtain⟨p1,p2,p3⟩:=Np (env:=λt=>dg [p] (env t)) (dst:=dst) (x:=x) (a:=a) (v:=v') (N:=N) (M:=M') (G:=I3 G p v') (λt=>U1j ((h.env t).mono' B.mono) Z X) h.size hd hx;refine⟨hg,h.gl.ext h.hrel B (λb D=>⟨p,_,T,D⟩),⟨λo z J=>?_,λo o' z z' b J a4 D U=>?_,λo ho=>?_⟩,p1,p2,p3.trans h.defers⟩
 ·obtain⟨y,I,rfl⟩:=O o z J;by_cases hop:o=p
  ·subst hop;rw[T]at I;obtain rfl:=Option.some.inj I;rw[C2];exact a3
  ·rw[P1 hop];have V:=h.hrel.obj o y I;refine Y1m (V.keep B.mono B.size (λb D=>B.block b (V7 V D) λU=>hop (h.hrel.apart o p y _ b I T D U)) λb D a6 sp hn=>?_) Z X;cases hM:M' ⟨b,a6,sp⟩with
   |none=>rfl
   |some u=>
    rcases B.fresh _ u hM with q|q|q
    ·rw[hn]at q;cases q
    ·exact absurd (h.hrel.apart o p y _ b I T D q) hop
    ·have:=V7 V D;simp only at q;omega
 ·have Y:∀(o:Nat) z b,(H.map (dgO [p]))[o]?=some z->blk z (I3 G p v' o) b->∃y,H[o]?=some y/\(blk y (G o) b\/o=p/\w.heap.size<=b):=by
   intro o z b J D;obtain⟨y,I,rfl⟩:=O o z J;replace D:=Mu D;refine⟨y,I,?_⟩;by_cases hop:o=p
   ·subst hop;rw[T]at I;obtain rfl:=Option.some.inj I;rw[C2]at D;rcases a1 b D with q|q
    ·exact .inl q
    ·exact .inr ⟨rfl,q⟩
   ·rw[P1 hop]at D;exact .inl D
  obtain⟨y,I,a7⟩:=Y o z b J D;obtain⟨y',a0,a2⟩:=Y o' z' b a4 U;rcases a7 with q|⟨q1,q2⟩<;>rcases a2 with r|⟨r1,r2⟩
  ·exact h.hrel.apart o o' y y' b I a0 q r
  ·have:=V7 (h.hrel.obj o y I) q;omega
  ·have:=V7 (h.hrel.obj o' y' a0) r;omega
  ·rw[q1,r1]
 ·simp only[List.length_map]at ho;rw[P1 (by omega)];exact h.hrel.fresh o ho
def D2.turnTok {U:World}(h:D2 fr M G w H)
  (D:H[p]?=some (.tok e sz)) (v:Ext (λb=>blk (.tok e sz) (G p) b) M w M' U) (B:∀b,blk (.tok e sz) v' b->blk (.tok e sz) (G p) b\/w.heap.size<=b) :
  D2 fr M' (I3 G p v') U (H.map (dgO [p])):=by
 have u:∀(o:Nat) z,(H.map (dgO [p]))[o]?=some z->∃y,H[o]?=some y/\z=dgO [p] y:=λo z c=>by
  rw[List.getElem?_map]at c;cases d:H[o]? with
  |none=>rw[d]at c;cases c
  |some y=>rw[d]at c;exact⟨y,rfl,by simpa using c.symm⟩
 have T:p<H.length:=(zqu.1 D).1;refine⟨h.ext.trans v λb r=>h.own b ⟨p,_,D,r⟩,λb ⟨o,z,c,r⟩=>?_,by simpa using h.len,λo x I J=>?_,λo x y I J d=>?_⟩
 ·obtain⟨y,d,rfl⟩:=u o z c;replace r:=Mu r;by_cases hop:o=p
  ·subst hop;rw[D]at d;obtain rfl:=Option.some.inj d;rw[C2]at r;rcases B b r with q|q
   ·exact h.own b ⟨o,_,D,q⟩
   ·exact .inr (Nat.le_trans h.ext.size q)
  ·rw[P1 hop]at r;exact h.own b ⟨o,y,d,r⟩
 ·have O:o≠p:=λe'=>by
   subst e';have:=h.kind o x _ I J D;simp[isTok]at this
  rw[P1 O];exact h.keep o x I J
 ·obtain⟨z,c,rfl⟩:=u o y d;rw[A1d];exact h.kind o x z I J c
def St.newTok {C:Cx}{w':World}{a:Act}(h:St C N M G w env H a)(hd:∀d,dst=some d->d<N){x:A}
  (D:Ext W5 M w M' w') (hg:Z3 M' w') (r:M5 M' G w' (.tok e sz) v') (Y:∀b,blk (.tok e sz) v' b->w.heap.size<=b)
  (hx:A1 M' (I3 G H.length v') x v') :
  St C N M' (I3 G H.length v') w' (put env dst x) (H++[.tok e sz]) (a.put dst v'):=by
 have hh:=h.hrel.ext D (λ_ _ q=>q);have z:∀{x:A} {v:Value},A1 M' G x v->A1 M' (I3 G H.length v') x v:=λhr=>hr.mono (λ_ _ e=>e) λo hn=>P1 (Nat.ne_of_lt (hh.lt hr hn));obtain⟨h1,h2,h3⟩:=Np (λt=>z ((h.env t).mono' D.mono)) h.size hd hx;refine⟨hg,h.gl.ext h.hrel D (λ_ h=>h.elim),⟨λo x u=>?_,λo o' x x' b u I J a1=>?_,λo u=>?_⟩,h1,h2,h3.trans h.defers⟩
 ·rcases Nat.lt_trichotomy o H.length with B|rfl|hgt
  ·rw[zqx B]at u;rw[P1 (Nat.ne_of_lt B)];have r:=hh.obj o x u;cases x with
   |dead=>trivial
   |row a0 e=>
    obtain⟨b,us,X,V,Z,O,T,g6⟩:=r;exact⟨b,us,X,V,Z,O,λi y v a c=>z (T i y v a c),g6⟩
   |bld o' e=>
    obtain⟨b,v0,X,V,Z,O,T⟩:=r;have I:o'≠H.length:=λe=>O _ (by rw[e];exact hh.fresh _ (zqr _));exact⟨b,v0,X,by rw[P1 I];exact V,Z,by rw[P1 I];exact O,T⟩
   |buf e sz=>exact r
   |vec e sz cs=>exact r
   |slots γ e l=>exact r
   |tok e sz=>exact r
   |rok e sz=>exact r
   |gone=>exact r
   |map es=>
    obtain⟨b,ms,cl,X,V,Z,O,T⟩:=r;exact⟨b,ms,cl,X,V,Z,λi k cs e a c=>⟨(O i k cs e a c).1,z (O i k cs e a c).2⟩,T⟩
  ·simp at u;subst u;rw[C2];exact r
  ·rw[List.getElem?_eq_none (by simp;omega)]at u;cases u
 ·have U:∀(o:Nat) x b,(H++[Ob.tok e sz])[o]?=some x->blk x (I3 G H.length v' o) b->(o<H.length/\H[o]?=some x/\blk x (G o) b/\b<w.heap.size)\/(o=H.length/\w.heap.size<=b):=by
   intro o x b u J;rcases Nat.lt_trichotomy o H.length with B|rfl|hgt
   ·rw[zqx B]at u;rw[P1 (Nat.ne_of_lt B)]at J;exact .inl ⟨B,u,J,V7 (h.hrel.obj o x u) J⟩
   ·simp at u;subst u;rw[C2]at J;exact .inr ⟨rfl,Y b J⟩
   ·rw[List.getElem?_eq_none (by simp;omega)]at u;cases u
  rcases U o x b u J with⟨q1,q2,q3,q4⟩|⟨q1,q2⟩<;>rcases U o' x' b I a1 with⟨p1,p2,p3,p4⟩|⟨p1,p2⟩
  ·exact h.hrel.apart o o' x x' b q2 p2 q3 p3
  ·omega
  ·omega
  ·omega
 ·simp at u;rw[P1 (by omega)];exact h.hrel.fresh o (by omega)
def D2.newTok {D:World}(h:D2 fr M G w H)(r:Ext W5 M w M' D)(u:∀b,blk (.tok e sz) v' b->w.heap.size<=b) :
  D2 fr M' (I3 G H.length v') D (H++[.tok e sz]):=by
 refine⟨h.ext.trans r (λ_ h=>h.elim),λb I=>?_,by simp;have:=h.len;omega,λo x d z=>?_,λo x y d z B=>?_⟩
 ·obtain⟨o,x,d,v⟩:=I;rcases Nat.lt_trichotomy o H.length with c|rfl|hgt
  ·rw[zqx c]at d;rw[P1 (Nat.ne_of_lt c)]at v;exact h.own b ⟨o,x,d,v⟩
  ·simp at d;subst d;rw[C2]at v;exact .inr (Nat.le_trans h.ext.size (u b v))
  ·rw[List.getElem?_eq_none (by simp;omega)]at d;cases d
 ·have c:o<H.length:=Nat.lt_of_lt_of_le (zqu.1 d).1 h.len;rw[P1 (Nat.ne_of_lt c)];exact h.keep o x d z
 ·have c:o<H.length:=Nat.lt_of_lt_of_le (zqu.1 d).1 h.len;rw[zqx c]at B;exact h.kind o x y d z B
def dgC (ps:List Nat):List A->Option (List A)
 |[]=>some []
 |x::r=>match frc (dg ps x),dgC ps r with|some y,some r'=>some (y::r')|_,_=>none
def I22 {ps:List Nat}:∀{l l':List A},dgC ps l=some l'->l'=dgL ps l
 |[],l',h=>by simp[dgC]at h;subst h;rfl
 |x::r,l',h=>by
  simp only[dgC]at h;split at h
  ·rename_i y d b c;simp only[zqb]at h;subst h;rw[On b,I22 c];rfl
  ·cases h
def dgH (ps:List Nat):F0->Option F0
 |[]=>some []
 |.row cs e::r=>match dgC ps cs,dgH ps r with|some cs',some r'=>some (.row cs' e::r')|_,_=>none
 |.dead::r=>match dgH ps r with|some r'=>some (.dead::r')|none=>none
 |.bld o e::r=>match dgH ps r with|some r'=>some ((bif ps.contains o then .dead else .bld o e)::r')|none=>none
 |.buf e sz::r=>match dgH ps r with|some r'=>some (.buf e sz::r')|none=>none
 |.vec e sz cs::r=>match dgH ps r with|some r'=>some (.vec e sz cs::r')|none=>none
 |.slots γ e l::r=>match dgH ps r with|some r'=>some (.slots γ e l::r')|none=>none
 |.tok e sz::r=>match dgH ps r with|some r'=>some (.tok e sz::r')|none=>none
 |.rok e sz::r=>match dgH ps r with|some r'=>some (.rok e sz::r')|none=>none
 |.gone::r=>match dgH ps r with|some r'=>some (.gone::r')|none=>none
 |.map es::r=>match dgH ps r with|some r'=>some (.map es::r')|none=>none
def Br {ps:List Nat}:∀{H H':F0},dgH ps H=some H'->H'=H.map (dgO ps)
 |[],H',h=>by simp[dgH]at h;subst h;rfl
 |.row d e::r,H',h=>by
  simp only[dgH]at h;split at h
  ·rename_i u c hc b;simp only[zqb]at h;subst h;rw[I22 hc,Br b];rfl
  ·cases h
 |.dead::r,H',h=>by
  simp only[dgH]at h;split at h
  ·rename_i c b;simp only[zqb]at h;subst h;rw[Br b];rfl
  ·cases h
 |.bld o e::r,H',h=>by
  simp only[dgH]at h;split at h
  ·rename_i c b;simp only[zqb]at h;subst h;rw[Br b];rfl
  ·cases h
 |.buf e sz::r,H',h=>by
  simp only[dgH]at h;split at h
  ·rename_i c b;simp only[zqb]at h;subst h;rw[Br b];rfl
  ·cases h
 |.vec e sz d::r,H',h=>by
  simp only[dgH]at h;split at h
  ·rename_i c b;simp only[zqb]at h;subst h;rw[Br b];rfl
  ·cases h
 |.slots γ e l::r,H',h=>by
  simp only[dgH]at h;split at h
  ·rename_i c b;simp only[zqb]at h;subst h;rw[Br b];rfl
  ·cases h
 |.tok e sz::r,H',h=>by
  simp only[dgH]at h;split at h
  ·rename_i c b;simp only[zqb]at h;subst h;rw[Br b];rfl
  ·cases h
 |.rok e sz::r,H',h=>by
  simp only[dgH]at h;split at h
  ·rename_i c b;simp only[zqb]at h;subst h;rw[Br b];rfl
  ·cases h
 |.gone::r,H',h=>by
  simp only[dgH]at h;split at h
  ·rename_i c b;simp only[zqb]at h;subst h;rw[Br b];rfl
  ·cases h
 |.map es::r,H',h=>by
  simp only[dgH]at h;split at h
  ·rename_i c b;simp only[zqb]at h;subst h;rw[Br b];rfl
  ·cases h
structure Ap where
 d:Option Nat
 p:Nat
 new:Bool
 rows:List Row
 news:List Row
 sz:Nat
 bytes:Nat
 H:F0
def C1d (df:List Nat->F0->Option F0)(C:Cx)(L:List Oper)(o:Oper)(env:Env)(H:F0):Option (Ap×Operand):=
 match K1 L env o,o.op,O3 o with
 |some true,.call { callee:=.builtin .append,args,argTypes },some d=>
  match args.toList,argTypes.toList with
  |[x,y],[t,t']=>bif Nat.beq t t' then
   (match Z1 C.T t with
   |some it=>match it.u with
    |.sl e=>match Z1 C.T e with
     |some ie=>match ev C.GL env x with
      |.osl p rows=>match nth H p with
       |some (.tok e' sz')=>bif Nat.beq e e'&&Nat.beq ie.size sz' then(match df [p] H with|some H'=>some (⟨d,p,false,rows,[],ie.size,ie.bytes,H'⟩,y)|none=>none)else none
       |_=>none
      |.full rows=>match Dp H (.tok e ie.size)with
       |some (n,H')=>some (⟨d,n,true,rows,[],ie.size,ie.bytes,H'⟩,y)
       |none=>none
      |_=>none
     |none=>none
    |_=>none
   |_=>none)else none
  |_,_=>none
 |_,_,_=>none
def A1s (df:List Nat->F0->Option F0)(C:Cx)(L:List Oper)(o:Oper)(env:Env)(H:F0):Option Ap:=
 match C1d df C L o env H with
 |some (⟨d,p,nw,rows,_,sz,bytes,H'⟩,y)=>match Mn (ev C.GL env y)with
  |some news=>some ⟨d,p,nw,rows,news,sz,bytes,H'⟩
  |none=>none
 |none=>none
def U1f (C:Cx)(L:List Oper)(o:Oper)(env:Env)(H:F0):Option Ap:=A1s dgH C L o env H
def Cn {x y:Operand}{t t':TypeId}{args:Array Operand}{b:Array TypeId}(d:o.op = .call { callee:=.builtin .append,args:=args,argTypes:=b })(u:args.toList=[x,y])(r:b.toList=[t,t']){c:World}
  (h:(Builtin.append_ #[t,t'] o.type #[ρ x,ρ y]).run P w = .ok v c):(execOp ρ o).run P w = .ok (.value v) c:=by
 obtain rfl:args = #[x,y]:=by rw[<-Array.toArray_toList (xs:=args),u]
 obtain rfl:b = #[t,t']:=by rw[<-Array.toArray_toList (xs:=b),r]
 unfold execOp;simp[d,resolve,invoke,builtin,h]
def H11 (h:F2 M (.sl rows) v)(D:K1j v)(e sz:Nat):M5 M G w (.tok e sz) v/\∀b,¬blk (.tok e sz) v b:=by
 cases h with
 |slnil=>exact⟨.inl rfl,λb x=>by simp[blk]at x⟩
 |sl B N1 O hc z y I J T=>
  rename_i a c r;have d:c=r:=D;subst d;exact⟨.inr ⟨a,c,c,rfl,y,zqr _,z,λu=>absurd u (Nat.lt_irrefl _)⟩,λb x=>absurd x.1 (Nat.lt_irrefl _)⟩
def K0.ay (df:List Nat->F0->Option F0)(hC:T1 F.C){l:List Oper}{d:Option Nat}{nw:Bool}{c nn:List Row}{u:Nat}{y:Operand}
  (a6:∀ps H',df ps H=some H'->H'=H.map (dgO ps)) (h:C1d df F.C L o env H=some (⟨d,p,nw,rows,nn,sz,u,H'⟩,y)) (T:∀M G w v,Z3 M w->Z6 M G w H->A1 M G (ev F.C.GL env y) v->Src M w sz c v) (h1:∀r∈rows,r.length=sz) (h2:∀r∈c,r.length=sz) (h3:(rows.length+c.length)*(u+1)<=140737488355328)
  (k:K0 F L l (put (bif nw then env else λt=>dg [p] (env t)) d (.osl p (rows++c))) H' Q):K0 F L (o::l) env H Q:=by
 unfold C1d at h;split at h
 ·rename_i a7 ts dd hw ho hd;split at h
  ·rename_i x y' t t' ha ht;cases U:Nat.beq t t' with
   |false=>rw[U]at h;cases h
   |true=>
    rw[U]at h;obtain rfl:=zqo U;simp only[zqk]at h;split at h
    ·rename_i it a0;split at h
     ·rename_i e hu;split at h
      ·rename_i ie a4;have D:(rows.length+c.length)*u<=140737488355328/\rows.length+c.length<=maxLen:=by
        have:(rows.length+c.length)*(u+1)=(rows.length+c.length)*u+(rows.length+c.length):=Nat.mul_succ _ _;unfold maxLen;omega
       split at h
       ·rename_i q B hx;split at h
        ·rename_i e' a5 hq;cases hbb:Nat.beq e e'&&Nat.beq ie.size a5 with
         |false=>rw[hbb]at h;cases h
         |true=>
          rw[hbb]at h;simp only[zqi]at hbb;obtain rfl:=zqo hbb.1;obtain rfl:=zqo hbb.2;simp only[zqk]at h;split at h
          ·rename_i H2 hH;simp only[zqb,zqh,Ap.mk.injEq]at h;obtain⟨⟨rfl,rfl,rfl,rfl,rfl,rfl,rfl,rfl⟩,rfl⟩:=h;refine T6 hw λfr M G w a K Qw hK J I X hk=>?_;have z:=I.eval x;rw[hx]at z;generalize hxv:a.eval x=xv at z;cases z;rename_i a2 O;rw[Q2]at hq;have a1:Tok M w e ie.size xv:=by have:=I.hrel.obj _ _ hq;rw[a2]at this;exact this
           obtain⟨Y,w',M',r1,r2,r3,r4,r5,r6⟩:=J14 (ty:=o.type) hC.tok I.good a0 hu a4 O (T _ _ _ _ I.good I.hrel (I.eval y')) a1 h1 h2 D.1 D.2;unfold Oper.wp;rw[Cn ho ha ht (by rw[hxv];exact r1)];have e1:=a6 _ _ hH;subst e1;rw[<-a2]at r5 r6;refine hk (.osl q (B++c)) (λt=>dg [q] (env t)) _ M' (I3 G q Y) w' Y ?_ (I.turnTok (A4 J) hq r5 r4 r3 r6 (.osl r2 C2) rfl rfl) (X.turnTok hq r5 r6);rw[W2 hd];exact k
          ·cases h
        ·cases h
       ·rename_i B hx;split at h
        ·rename_i n H2 hH;simp only[zqb,zqh,Ap.mk.injEq]at h;obtain⟨⟨rfl,rfl,rfl,rfl,rfl,rfl,rfl,rfl⟩,rfl⟩:=h;obtain⟨rfl,rfl⟩:=Nh hH;refine T6 hw λfr M G w a K Qw hK J I X hk=>?_;have z:=I.eval x;rw[hx]at z;generalize hxv:a.eval x=xv at z;cases z;rename_i V O;obtain⟨t1,t2⟩:=H11 (G:=λ_=>.tuple #[]) (w:=w) O V e ie.size;obtain⟨Y,w',M',r1,r2,r3,r4,r5,r6⟩:=J14 (ty:=o.type) hC.tok I.good a0 hu a4 O (T _ _ _ _ I.good I.hrel (I.eval y')) t1 h1 h2 D.1 D.2;unfold Oper.wp;rw[Cn ho ha ht (by rw[hxv];exact r1)];have Z:Ext W5 M w M' w':=r5.weaken λb U=>absurd U (t2 b);have a3:∀b,blk (.tok e ie.size) Y b->w.heap.size<=b:=λb U=>(r6 b U).resolve_left (t2 b);refine hk (.osl H.length (B++c)) env _ M' (I3 G H.length Y) w' Y ?_ (I.newTok (A4 J) Z r4 r3 a3 (.osl r2 C2)) (X.newTok Z a3);rw[W2 hd];exact k
        ·cases h
       ·cases h
      ·cases h
     ·cases h
    ·cases h
  ·cases h
 ·cases h
def K0.af (u:List Nat->F0->Option F0)(hC:T1 F.C){l:List Oper}{d:Option Nat}{y:Bool}{b:List Row}{c:Nat}
  (x:∀ps H',u ps H=some H'->H'=H.map (dgO ps)) (h:A1s u F.C L o env H=some ⟨d,p,y,rows,b,sz,c,H'⟩) (T:∀r∈rows,r.length=sz) (z:∀r∈b,r.length=sz) (J:(rows.length+b.length)*(c+1)<=140737488355328)
  (k:K0 F L l (put (bif y then env else λt=>dg [p] (env t)) d (.osl p (rows++b))) H' Q):K0 F L (o::l) env H Q:=by
 unfold A1s at h;split at h
 ·rename_i B;split at h
  ·rename_i O;simp only[zqb,Ap.mk.injEq]at h;obtain⟨rfl,rfl,rfl,rfl,rfl,rfl,rfl,rfl⟩:=h;exact .ay u hC x B (λM G w v D _ I=>.data D (L9 O I) z) T z J k
  ·cases h
 ·cases h
def K0.a (hC:T1 F.C){l:List Oper}{d:Option Nat}{u:Bool}{b:List Row}{c:Nat}
  (h:U1f F.C L o env H=some ⟨d,p,u,rows,b,sz,c,H'⟩) (x:∀r∈rows,r.length=sz) (y:∀r∈b,r.length=sz) (v:(rows.length+b.length)*(c+1)<=140737488355328)
  (k:K0 F L l (put (bif u then env else λt=>dg [p] (env t)) d (.osl p (rows++b))) H' Q):K0 F L (o::l) env H Q:=.af dgH hC (λ_ _ e=>Br e) h x y v k
def H29 {w:World}(r:Z3 M w)(cs:Array Value)(e:TypeId) :
  ∃M':Mem,Z3 M' (w.alloc (.cells cs e))/\Ext W5 M w M' (w.alloc (.cells cs e))/\∀(j:Nat) v,cs[j]?=some v->M' ⟨w.heap.size,j,none⟩=some v:=by
 refine⟨λc=>if c.block=w.heap.size/\c.spot=none then cs[c.off]? else M c,λc v d=>?_,⟨λc v d=>?_,by simp,rfl,rfl,rfl,λb u _=>heap_alloc_old w _ b u,λc v d=>?_⟩,λj v d=>?_⟩
 ·simp only at d;split at d
  ·rename_i hc;obtain⟨b,o,s⟩:=c;simp only at hc d;obtain⟨rfl,rfl⟩:=hc;exact .inl ⟨rfl,by rw[Ye (w:=w.alloc (.cells cs e)) (heap_alloc_new w _)];exact d⟩
  ·exact W13 (by simp) (heap_alloc_old w _ _ (r.lt d)) (r c v d)
 ·have:=r.lt d;show(if c.block=w.heap.size/\c.spot=none then cs[c.off]? else M c)=some v;rw[zn (by omega)];exact d
 ·have d:(if c.block=w.heap.size/\c.spot=none then cs[c.off]? else M c)=some v:=d;split at d
  ·rename_i hc;exact .inr (.inr (by omega))
  ·exact .inl d
 ·show(if w.heap.size=w.heap.size/\(none:Option Nat)=none then cs[j]? else M _)=some v;rw[zp ⟨rfl,rfl⟩];exact d
def toD:A->Option D
 |.d x=>some x
 |.full r=>some (.sl r)
 |.osl _ r=>some (.sl r)
 |.clo f []=>some (.fn (some f))
 |_=>none
def Z1m {x:A}{y:D}(h:toD x=some y)(b:A1 M G x v):F2 M y v:=by
 unfold toD at h;split at h
 ·simp only[zqb]at h;subst h;cases b;assumption
 ·simp only[zqb]at h;subst h;cases b;assumption
 ·simp only[zqb]at h;subst h;cases b;assumption
 ·simp only[zqb]at h;subst h;cases b with
  |clo d _=>
   rename_i c _;have e:c = #[]:=Array.eq_empty_of_size_eq_zero (by simpa using d.symm);subst e;exact .fns
 ·cases h
def A1n:List A->Option (List D)
 |[]=>some []
 |x::r=>match toD x,A1n r with|some y,some r'=>some (y::r')|_,_=>none
def T1h:∀{l:List A} {l':List D},A1n l=some l'->l'.length=l.length/\∀(i:Nat) y,l'[i]?=some y->∃x,l[i]?=some x/\toD x=some y
 |[],l',h=>by simp[A1n]at h;subst h;exact⟨rfl,λi y h=>by simp at h⟩
 |x::r,l',h=>by
  simp only[A1n]at h;split at h
  ·rename_i y B c d;simp only[zqb]at h;subst h;obtain⟨v,u⟩:=T1h d;refine⟨by simp[v],λi z b=>?_⟩;cases i with
   |zero=>simp at b;subst b;exact⟨x,rfl,c⟩
   |succ i=>simpa using u i z (by simpa using b)
  ·cases h
def L18 (sz:Nat):Nat->List A->Option (List Row)
 |0,_=>some []
 |n+1,l=>match A1n (l.take sz),L18 sz n (l.drop sz)with|some r,some rs=>bif Nat.beq r.length sz then some (r::rs)else none|_,_=>none
def W1j {sz:Nat}:∀{n:Nat} {l:List A} {rs:List Row},L18 sz n l=some rs->rs.length=n/\(∀(i:Nat) r,rs[i]?=some r->r.length=sz)/\∀(i j:Nat) r y,rs[i]?=some r->r[j]?=some y->∃x,l[i*sz+j]?=some x/\toD x=some y
 |0,l,rs,h=>by simp[L18]at h;subst h;exact⟨rfl,λi r h=>by simp at h,λi j r y h=>by simp at h⟩
 |n+1,l,rs,h=>by
  simp only[L18]at h;split at h
  ·rename_i r B D v;cases hb:Nat.beq r.length sz with
   |false=>rw[hb]at h;cases h
   |true=>
    rw[hb]at h;simp only[zqk,zqb]at h;subst h;have e:=zqo hb;obtain⟨T,O,I⟩:=W1j v;obtain⟨U,J⟩:=T1h D;refine⟨by simp[T],λi d c=>?_,λi j d y c z=>?_⟩
    ·cases i with
     |zero=>simp at c;subst c;exact e
     |succ i=>exact O i d (by simpa using c)
    ·cases i with
     |zero=>
      simp at c;subst c;obtain⟨x,b,u⟩:=J j y z;rw[List.getElem?_take]at b;split at b
      ·exact⟨x,by simpa using b,u⟩
      ·cases b
     |succ i=>
      obtain⟨x,b,u⟩:=I i j d y (by simpa using c) z;rw[List.getElem?_drop]at b;exact⟨x,by rw[<-b];congr 1;rw[Nat.add_mul];omega,u⟩
  ·cases h
def G26 (J:Z3 M w){n:Nat}{l:List A}{cs:Array Value}(hc:Wl M G l cs)(h:L18 sz n l=some rs)(X:n<=maxLen) :
  ∃M',F2 M' (.sl rs) (.slice (some ⟨w.heap.size,0,none⟩) n n)/\Z3 M' (w.alloc (.cells cs e))/\Ext W5 M w M' (w.alloc (.cells cs e)):=by
 obtain⟨M',Y,D,T⟩:=H29 J cs e;obtain⟨U,V,Z⟩:=W1j h;have b:∀(i j:Nat) r y,rs[i]?=some r->r[j]?=some y->∃v,cs[i*sz+j]?=some v/\F2 M y v:=λi j r y u c=>by
  obtain⟨x,B,I⟩:=Z i j r y u c;have d:i*sz+j<cs.size:=by rw[<-hc.1];exact(zqu.1 B).1
  exact⟨cs[i*sz+j],Array.getElem?_eq_getElem d,Z1m I (hc.2.2 _ x _ B (Array.getElem?_eq_getElem d))⟩
 refine⟨M',.sl sz (λi j=>(cs[i*sz+j]?).getD undef) U (zqr _) X (.inr rfl) V (λi j r y u c=>?_) λi j r y u c=>?_,Y,D⟩
 ·obtain⟨v,z,_⟩:=b i j r y u c;rw[B5,z,Nat.zero_add];exact T _ v z
 ·obtain⟨v,z,O⟩:=b i j r y u c;rw[z];exact O.mono D.mono
def I11 (C:Cx)(L:List Oper)(o:Oper)(env:Env):Option (Option Nat×List Row):=
 match K1 L env o,o.op,O3 o with
 |some true,.buildSlice t len parts,some d=>match Z1 C.T t with
  |some i=>match i.u with
   |.sl e=>match Z1 C.T e with
    |some j=>bif Nat.ble len 65536&&Nat.ble j.size 64 then(match Ks (λi=>some (i*j.size,j.size)) (List.replicate (len*j.size) .junk) (parts.toList.map λp=>(p.1,ev C.GL env p.2))with
     |some out=>match L18 j.size len out with|some rs=>some (d,rs)|none=>none
     |none=>none)else none
    |none=>none
   |_=>none
  |none=>none
 |_,_,_=>none
def U1o {T:TT}(r:TOk P T){j:TI}(d:Z1 T e=some j)(len:Nat)(w:World) :
  ∃z:Array Value,((len*j.size=0/\z = #[])\/(¬len*j.size=0/\∃v,(zeroValue e).run P w = .ok v w/\z=v.cells))/\((Array.range (len*j.size)).map (z[· % z.size]!)).size=len*j.size/\∀(i:Nat) v,((Array.range (len*j.size)).map (z[· % z.size]!))[i]?=some v->v.oneCell'=true:=by
 by_cases h0:len*j.size=0
 ·refine⟨#[],.inl ⟨h0,rfl⟩,by simp,λi v b=>?_⟩;rw[h0]at b;simp at b
 ·obtain⟨z,D,y,_⟩:=H13 (M:=λ_=>none) (G:=λ_=>undef) r d;refine⟨z.cells,.inr ⟨h0,z,D w,rfl⟩,by simp,λi v b=>?_⟩;have u:=(r.facts d).pos;have x:=(r.facts d).len;have B:z.cells.size=j.size:=by have:=y.1;simp at this;omega
  rw[Array.getElem?_map]at b;cases hr:(Array.range (len*j.size))[i]? with
  |none=>rw[hr]at b;cases b
  |some k=>
   rw[hr]at b;simp only[zqt,zqb]at b;subst b;have c:k % z.cells.size<z.cells.size:=Nat.mod_lt _ (by omega);rw[getElem!_pos z.cells (k % z.cells.size) c];exact y.2.1 _ _ (Array.getElem?_eq_getElem c)
def J13 {C:Cx}{d:Option Nat}(h:I11 C L o env=some (d,rs)):K1 L env o=some true/\O3 o=some d:=by
 unfold I11 at h;split at h
 ·rename_i t b c y r v u;split at h
  ·split at h
   ·split at h
    ·rename_i j x;cases hb:Nat.ble b 65536&&Nat.ble j.size 64 with
     |false=>rw[hb]at h;cases h
     |true=>
      rw[hb]at h;simp only[zqk]at h;split at h
      ·split at h
       ·simp only[zqb,zqh]at h;exact⟨r,by rw[u,h.1]⟩
       ·cases h
      ·cases h
    ·cases h
   ·cases h
  ·cases h
 ·cases h
def Iy {C:Cx}(hC:T1 C){d:Option Nat}(h:I11 C L o env=some (d,rs)):R4 C o env H (.full rs):=by
 intro M G w a a0 Qw Z hG a4 hH hk;unfold I11 at h;split at h
 ·rename_i t b c dd hw X hd;rw[X]at Z;split at h
  ·rename_i i ht;split at h
   ·rename_i e hu;split at h
    ·rename_i j Y;cases hb:Nat.ble b 65536&&Nat.ble j.size 64 with
     |false=>rw[hb]at h;cases h
     |true=>
      rw[hb]at h;simp only[zqi]at hb;have b1:=Nat.le_of_ble_eq_true hb.1;have b2:=Nat.le_of_ble_eq_true hb.2;simp only[zqk]at h;split at h
      ·rename_i a1 I;split at h
       ·rename_i a2 O;simp only[zqb,zqh]at h;obtain⟨rfl,rfl⟩:=h;have hd:=A7 (hC.tok.facts ht) hu;obtain⟨z,hz,U,V⟩:=U1o hC.tok Y b w;obtain⟨ws,f1,f2⟩:=K10 (M:=M) (G:=G) (vs:=(Array.range (b*j.size)).map (z[· % z.size]!)) (N1:=(c.map λ(p:Nat×Operand)=>(p.1,a.eval p.2)).toList) ⟨by rw[U];simp,V,λi x v y hv=>by
          rw[List.getElem?_replicate]at y;split at y
          ·simp only[zqb]at y;subst y;exact .junk
          ·cases y⟩ (by simp) (λi p q J u=>by
          rw[List.getElem?_map]at J;rw[Array.getElem?_toList,Array.getElem?_map]at u;cases hpi:c[i]? with
          |none=>rw[hpi]at u;cases u
          |some r=>
           rw[Array.getElem?_toList,hpi]at J;rw[hpi]at u;simp only[zqt,zqb]at J u;subst J;subst u;refine⟨rfl,Z _ ?_⟩;simp only[Op.operands,List.mem_toArray,List.mem_map,Array.mem_toList_iff];exact⟨r,Array.mem_of_getElem? hpi,rfl⟩) I
        obtain⟨M',g1,g2,g3⟩:=G26 (e:=e) hG f2 O (by unfold maxLen;omega);have D:¬b*j.size>2^24:=by
         have:b*j.size<=65536*64:=Nat.mul_le_mul b1 b2;have a3:(2:Nat)^24=16777216:=by decide
         omega
        have B:(Instr.buildSlice t b (c.map λ(p:Nat×Operand)=>(p.1,a.eval p.2))).run C.P w = .ok (.slice (some ⟨w.heap.size,0,none⟩) b b) (w.alloc (.cells ws e)):=by
         simp only[Instr.buildSlice,Sem.run_bind,run_underlying hd,Result.andThen_ok,D9 (hC.tok.facts Y) w];rw[zn D];rcases hz with⟨T,rfl⟩|⟨T,v,hv,rfl⟩
         ·rw[zp T];simp only[Sem.run_bind,Sem.run_pure,Result.andThen_ok,f1];simp[newRow]
         ·rw[zn T];simp only[Sem.run_bind,Sem.run_pure,Result.andThen_ok,hv,f1];simp[newRow]
        unfold Oper.wp execOp;simp only[X,Sem.run_bind,B,Result.andThen_ok,Sem.run_pure,Oper.upon_value];exact hk _ M' _ (.full g1 rfl) g2 g3
       ·cases h
      ·cases h
    ·cases h
   ·cases h
  ·cases h
 ·cases h
def K0.b (hC:T1 F.C){l:List Oper}{d:Option Nat}(h:I11 F.C L o env=some (d,rs))(k:K0 F L l (put env d (.full rs)) H Q):K0 F L (o::l) env H Q:=by
 obtain⟨r,c⟩:=J13 h;refine .yields r (Iy hC h) ?_;rw[W2 c];exact k
def AQ.b {C:Cx}(hC:T1 C){l:List Oper}{Q:Env->Prop}{d:Option Nat}(h:I11 C L o env=some (d,rs))(k:AQ C L l (put env d (.full rs)) H Q):AQ C L (o::l) env H Q:=
 .y _ (J13 h).2 (J13 h).1 (Iy hC h) k
def V1f (C:Cx)(L:List Oper)(o:Oper)(env:Env):Option (Option Nat×List UInt8×Int):=
 match K1 L env o,o.op with
 |some true,.index t x y=>match Z1 C.T t,ev C.GL env x,ev C.GL env y,O3 o with
  |some i,.d (.str s),.d (.int _ n),some d=>match i.u with
   |.str=>some (d,s,n)
   |_=>none
  |_,_,_,_=>none
 |_,_=>none
def X1j {C:Cx}{d:Option Nat}{s:List UInt8}{n:Int}(h:V1f C L o env=some (d,s,n)):K1 L env o=some true/\O3 o=some d:=by
 unfold V1f at h;split at h
 ·rename_i t x y b r;split at h
  ·rename_i i s' k m v B z u c;split at h
   ·simp only[zqb,zqh]at h;exact⟨b,by rw[c,h.1]⟩
   ·cases h
  ·cases h
 ·cases h
def X1g {C:Cx}(hC:T1 C){d:Option Nat}{s:List UInt8}{n:Int}(h:V1f C L o env=some (d,s,n)){b:UInt8}(hn:n=k)(I:s[k]?=some b):R4 C o env H (.d (.int .u8 b.toNat)):=by
 intro M G w a O Qw z U a0 hH B;unfold V1f at h;split at h
 ·rename_i t x y hw D;rw[D]at z;split at h
  ·rename_i i s' kd m d' X Y T J;split at h
   ·rename_i V;simp only[zqb,zqh]at h;obtain⟨rfl,rfl,rfl⟩:=h;have c:=z x (by simp[Op.operands]);have r:=z y (by simp[Op.operands]);rw[Y]at c;rw[T]at r;generalize hxv:a.eval x=xv at c;generalize hyv:a.eval y=yv at r;cases c;rename_i c;cases c;cases r;rename_i r;cases r;have J:=Cq (hC.tok.facts X) V;have v:k<s'.length:=(zqu.1 I).1;have u:(⟨s'.toArray⟩:ByteArray)[m.toNat]?=some b:=by
     have e:m.toNat=k:=by omega
     rw[e,getElem?_pos (⟨s'.toArray⟩:ByteArray) k (by rw[G18];exact v)];have:=(zqu.1 I).2;simpa[ByteArray.getElem_eq_getElem_data]using this
    unfold Oper.wp execOp;have:(Instr.index t (.string ⟨s'.toArray⟩) (.int kd m)).run C.P w = .ok (.int .u8 b.toNat) w:=by
     have Z:0<=m:=by omega
     simp[Instr.index,Mq,run_underlying J,Z,u]
    simp only[D,hxv,hyv,Sem.run_bind,this,Result.andThen_ok,Sem.run_pure,Oper.upon_value];exact B _ M w (.d (.int (by rw[U2a];have:=b.toNat_lt;omega))) U (Ext.refl _ _ _)
   ·cases h
  ·cases h
 ·cases h
def K0.x (hC:T1 F.C){l:List Oper}{d:Option Nat}{s:List UInt8}{n:Int}(h:V1f F.C L o env=some (d,s,n)){b:UInt8}(u:n=k)(c:s[k]?=some b)
  (r:K0 F L l (put env d (.d (.int .u8 b.toNat))) H Q):K0 F L (o::l) env H Q:=by
 obtain⟨y,v⟩:=X1j h;refine .yields y (X1g hC h u c) ?_;rw[W2 v];exact r
def bnd (GL:GT)(env:Env)(x:Option Operand)(dflt:Int):Option Int:=
 match x with
 |none=>some dflt
 |some y=>match ev GL env y with |.d (.int _ n)=>some n|_=>none
def M18 {GL:GT}{a:Act}{x:Option Operand}{b n:Int}(h:bnd GL env x b=some n)(r:∀y,x=some y->A1 M G (ev GL env y) (a.eval y)) :
  (x=none/\n=b)\/∃y k,x=some y/\a.eval y = .int k n:=by
 unfold bnd at h;split at h
 ·simp only[zqb]at h;exact .inl ⟨rfl,h.symm⟩
 ·rename_i y;split at h
  ·rename_i k m d;simp only[zqb]at h;subst h;have c:=r y rfl;rw[d]at c;generalize hv:a.eval y=v at c;cases c;rename_i c;cases c;exact .inr ⟨y,k,rfl,hv⟩
  ·cases h
def A16 (C:Cx)(L:List Oper)(o:Oper)(env:Env):Option (Option Nat×List UInt8×Int×Int):=
 match K1 L env o,o.op with
 |some true,.slice t x lo hi none=>match Z1 C.T t,ev C.GL env x,O3 o with
  |some i,.d (.str s),some d=>match i.u,bnd C.GL env lo 0,bnd C.GL env hi (s.length:Nat)with
   |.str,some l,some h=>some (d,s,l,h)
   |_,_,_=>none
  |_,_,_=>none
 |_,_=>none
def D1a {C:Cx}{r:Option Nat×List UInt8×Int×Int}(h:A16 C L o env=some r):K1 L env o=some true/\O3 o=some r.1:=by
 unfold A16 at h;split at h
 ·rename_i t x lo y b d;split at h
  ·rename_i i s' u z v c;split at h
   ·simp only[zqb]at h;subst h;exact⟨b,c⟩
   ·cases h
  ·cases h
 ·cases h
def E1a {Ht:Bool}{len cap l h:Nat}{lo d:Option Value}(x:lo=none/\l=0\/∃k,lo=some (.int k (l:Int)))(v:d=none/\h=len\/∃k,d=some (.int k (h:Int)))(r:l<=h)(hc:h<=cap) :
  (Instr.sliceBounds Ht len cap lo d none).run P w = .ok (l,h,cap) w:=by
 have b:∀(k:IntKind) (n y:Nat) (c:BoundsCode),n<=y->(Instr.sliceBound (.int k (n:Int)) y c).run P w = .ok n w:=λk n y c u=>by
  simp[Instr.sliceBound,Mq,u]
 rcases x with⟨rfl,rfl⟩|⟨k,rfl⟩<;>rcases v with⟨rfl,rfl⟩|⟨k',rfl⟩<;>simp[Instr.sliceBounds,b _ _ _ _ r,b _ _ _ _ hc]
def A14 {a:Act}{x:Option Operand}{b n:Int}{l c:Nat}(h:(x=none/\n=b)\/∃y k,x=some y/\a.eval y = .int k n)(d:n=l)(r:b=c):(x.map a.eval=none/\l=c)\/∃k,x.map a.eval=some (.int k (l:Int)):=by
 rcases h with⟨rfl,rfl⟩|⟨y,k,rfl,e⟩
 ·exact .inl ⟨rfl,by omega⟩
 ·exact .inr ⟨k,by simp[e,d]⟩
def X1z (s:List UInt8)(l h:Nat):(⟨s.toArray⟩:ByteArray).extract l h=⟨((s.take h).drop l).toArray⟩:=by
 apply ByteArray.ext;rw[ByteArray.data_extract];simp[List.extract_toArray,List.drop_take]
def Y1g {C:Cx}(hC:T1 C){d:Option Nat}{s:List UInt8}{lo U:Int}(h:A16 C L o env=some (d,s,lo,U)){l r:Nat}(hl:lo=l)(hr:U=r)(J:l<=r)(D:r<=s.length) :
  R4 C o env H (.d (.str ((s.take r).drop l))):=by
 intro M G w a X Qw c Y a0 hH I;unfold A16 at h;split at h
 ·rename_i t x O z hw T;rw[T]at c;split at h
  ·rename_i i s' d' ht hx V;split at h
   ·rename_i l' h' Z v B;simp only[zqb,zqh]at h;obtain⟨rfl,rfl,rfl,rfl⟩:=h;have b:=c x (by simp[Op.operands]);rw[hx]at b;generalize hxv:a.eval x=xv at b;cases b;rename_i b;cases b;rename_i a1;have V:=Cq (hC.tok.facts ht) Z;have e1:=A14 (M18 v λy u=>c y (by subst u;simp[Op.operands])) hl rfl;have e2:=A14 (M18 B λy u=>c y (by subst u;simp[Op.operands])) hr rfl;have:(Instr.sliceAt t (.string ⟨s'.toArray⟩) (O.map a.eval) (z.map a.eval) none).run C.P w = .ok (.string ⟨((s'.take r).drop l).toArray⟩) w:=by
     have hb:=E1a (P:=C.P) (w:=w) (Ht:=false) (cap:=s'.length) e1 e2 J D;simp[Instr.sliceAt,Instr.slice,run_underlying V,G18,hb,X1z s' l r]
    unfold Oper.wp execOp;simp only[T,hxv,Option.map_none,Sem.run_bind,this,Result.andThen_ok,Sem.run_pure,Oper.upon_value];exact I _ M w (.d (.str (by simp;omega))) Y (Ext.refl _ _ _)
   ·cases h
  ·cases h
 ·cases h
def K0.l {F:Fx}(hC:T1 F.C){L l:List Oper}{o:Oper}{env:Env}{H:F0}{Q:Env->F0->Prop}{d:Option Nat}{s:List UInt8}{lo u:Int}(h:A16 F.C L o env=some (d,s,lo,u)){p r:Nat}(y:lo=p)(x:u=r)(c:p<=r)(b:r<=s.length)
  (v:K0 F L l (put env d (.d (.str ((s.take r).drop p)))) H Q):K0 F L (o::l) env H Q:=by
 obtain⟨z,B⟩:=D1a h;refine .yields z (Y1g hC h y x c b) ?_;rw[W2 B];exact v
def AQ.l {C:Cx}(hC:T1 C){L l:List Oper}{o:Oper}{env:Env}{H:F0}{Q:Env->Prop}{d:Option Nat}{s:List UInt8}{lo u:Int}(h:A16 C L o env=some (d,s,lo,u)){p r:Nat}(z:lo=p)(x:u=r)(c:p<=r)(b:r<=s.length)
  (v:AQ C L l (put env d (.d (.str ((s.take r).drop p)))) H Q):AQ C L (o::l) env H Q:=.y _ (D1a h).2 (D1a h).1 (Y1g hC h z x c b) v
def B16 (C:Cx)(L:List Oper)(o:Oper)(env:Env):Option (Option Nat×List Row×Int×Int×Nat):=
 match K1 L env o,o.op with
 |some true,.slice t x lo hi none=>match Z1 C.T t,Mn (ev C.GL env x),O3 o with
  |some i,some rows,some d=>match i.u,bnd C.GL env lo 0,bnd C.GL env hi (rows.length:Nat)with
   |.sl e,some l,some h=>match Z1 C.T e with|some j=>some (d,rows,l,h,j.size)|none=>none
   |_,_,_=>none
  |_,_,_=>none
 |_,_=>none
def F1a {C:Cx}{r:Option Nat×List Row×Int×Int×Nat}(h:B16 C L o env=some r):K1 L env o=some true/\O3 o=some r.1:=by
 unfold B16 at h;split at h
 ·rename_i t x lo y b d;split at h
  ·rename_i i s' u z v c;split at h
   ·split at h
    ·simp only[zqb]at h;subst h;exact⟨b,c⟩
    ·cases h
   ·cases h
  ·cases h
 ·cases h
def J22 {a:Addr}{len cap:Nat}(h:F2 M (.sl rows) (.slice (some a) len cap)){l r:Nat}(z:∀x∈rows,x.length=sz)(I:l<=r)(T:r<=rows.length) :
  F2 M (.sl ((rows.take r).drop l)) (.slice (some (if cap=l then a else a.add (l*sz))) (r-l) (cap-l)):=by
 cases h with
 |sl v N1 U hc X O B D J=>
  by_cases he:cap=l
  ·have:l=r:=by omega
   subst this;rw[zp he,show(rows.take l).drop l=[] by simp];exact .sl 0 (λ_ _=>undef) (by simp) (by omega) (by omega) (.inl (by omega)) (λi r h=>by simp at h) (λi j r x h=>by simp at h) (λi j r x h=>by simp at h)
  ·rw[zn he];have b:∀(i:Nat) x,((rows.take r).drop l)[i]?=some x->rows[l+i]?=some x:=λi x c=>by
    rw[List.getElem?_drop,List.getElem?_take]at c;split at c
    ·exact c
    ·cases c
   have d:∀(i:Nat) x,((rows.take r).drop l)[i]?=some x->v=sz:=λi x c=>by
    have Y:=B _ x (b i x c);have V:=z x (List.mem_of_getElem? (b i x c));omega
   refine .sl sz (λi j=>N1 (l+i) j) (by simp;omega) (by omega) (by omega) (.inr (by rw[Q12 (O.resolve_left (by omega))])) (λi x c=>by have:=d i x c;have:=B _ x (b i x c);omega) (λi j x y c u=>?_) λi j x y c u=>J _ j x y (b i x c) u;have:=D _ j x y (b i x c) u;rw[Ct];rw[d i x c]at this;rwa[show l*sz+(i*sz+j)=(l+i)*sz+j by rw[Nat.add_mul];omega]
def Y1j {C:Cx}(hC:T1 C){d:Option Nat}{lo hi:Int}(h:B16 C L o env=some (d,rows,lo,hi,sz)){l r:Nat}(hl:lo=l)(hr:hi=r)(B:l<=r)(u:r<=rows.length)
  (V:∀x∈rows,x.length=sz):R4 C o env H (.d (.sl ((rows.take r).drop l))):=by
 intro M G w a a1 Qw D hG a2 hH O;unfold B16 at h;split at h
 ·rename_i t x Y U hw Z;rw[Z]at D;split at h
  ·rename_i i b d' ht hx hd;split at h
   ·rename_i e l' h' hu T X;split at h
    ·rename_i j hj;simp only[zqb,zqh]at h;obtain⟨rfl,rfl,rfl,rfl,rfl⟩:=h;have v:=L9 hx (D x (by simp[Op.operands]));generalize hxv:a.eval x=xv at v;have hd:=A7 (hC.tok.facts ht) hu;have e1:=A14 (M18 T λy I=>D y (by subst I;simp[Op.operands])) hl rfl;have e2:=A14 (M18 X λy I=>D y (by subst I;simp[Op.operands])) hr rfl;obtain⟨c,cap,rfl,a0,z⟩:∃c cap,xv = .slice c b.length cap/\b.length<=cap/\F2 M (.sl ((b.take r).drop l)) (.slice (if cap=l then c else c.map (·.add (l*j.size))) (r-l) (cap-l)):=by
      cases v with
      |slnil=>
       simp at u;obtain rfl:r=0:=u;obtain rfl:l=0:=by omega
       exact⟨none,0,rfl,zqr _,by simpa using F2.slnil⟩
      |sl sz N1 J hc hm hs hz h1 h2=>
       rename_i c len cap;subst J;refine⟨some c,cap,rfl,hc,?_⟩;have:=J22 (.sl sz N1 rfl hc hm hs hz h1 h2) V B u;by_cases he:cap=l
       ·rw[zp he]at this⊢;exact this
       ·rw[zn he]at this⊢;exact this
     have:(Instr.sliceAt t (.slice c b.length cap) (Y.map a.eval) (U.map a.eval) none).run C.P w = .ok (.slice (if cap=l then c else c.map (·.add (l*j.size))) (r-l) (cap-l)) w:=by
      have hb:=E1a (P:=C.P) (w:=w) (Ht:=true) (len:=b.length) (cap:=cap) e1 e2 B (by omega);simp[Instr.sliceAt,Instr.slice,run_underlying hd,hb,D9 (hC.tok.facts hj) w]
     unfold Oper.wp execOp;simp only[Z,hxv,Option.map_none,Sem.run_bind,this,Result.andThen_ok,Sem.run_pure,Oper.upon_value];exact O _ M w (.d z) hG (Ext.refl _ _ _)
    ·cases h
   ·cases h
  ·cases h
 ·cases h
def K0.d {F:Fx}(hC:T1 F.C){L l:List Oper}{o:Oper}{env:Env}{H:F0}{Q:Env->F0->Prop}{d:Option Nat}{rows:List Row}{lo v:Int}{sz:Nat}(h:B16 F.C L o env=some (d,rows,lo,v,sz)){p r:Nat}(B:lo=p)(z:v=r)(u:p<=r)(c:r<=rows.length)
  (b:∀x∈rows,x.length=sz) (y:K0 F L l (put env d (.d (.sl ((rows.take r).drop p)))) H Q):K0 F L (o::l) env H Q:=by
 obtain⟨D,I⟩:=F1a h;refine .yields D (Y1j hC h B z u c b) ?_;rw[W2 I];exact y
def AQ.d {C:Cx}(hC:T1 C){L l:List Oper}{o:Oper}{env:Env}{H:F0}{Q:Env->Prop}{d:Option Nat}{rows:List Row}{lo v:Int}{sz:Nat}(h:B16 C L o env=some (d,rows,lo,v,sz)){p r:Nat}(D:lo=p)(B:v=r)(u:p<=r)(c:r<=rows.length)
  (b:∀x∈rows,x.length=sz) (z:AQ C L l (put env d (.d (.sl ((rows.take r).drop p)))) H Q):AQ C L (o::l) env H Q:=.y _ (F1a h).2 (F1a h).1 (Y1j hC h D B u c b) z
def Y1z (C:Cx)(L:List Oper)(o:Oper)(env:Env):Option (Option Nat):=
 match K1 L env o,o.op with
 |some true,.slice t x none (some (.const (.int _ 0))) (some (.const (.int _ 0)))=>match Z1 C.T t,Mn (ev C.GL env x),O3 o with
  |some i,some _,some d=>match i.u with
   |.sl e=>match Z1 C.T e with|some _=>some d|none=>none
   |_=>none
  |_,_,_=>none
 |_,_=>none
def E1w {C:Cx}(hC:T1 C){d:Option Nat}(h:Y1z C L o env=some d):R4 C o env H (.full []):=by
 intro M G w a X Qw U Z a1 hH O;unfold Y1z at h;split at h
 ·rename_i t x k k' hw T;rw[T]at U;split at h
  ·rename_i i u d' ht hx V;split at h
   ·rename_i e hu;split at h
    ·rename_i j hj;have I:=L9 hx (U x (by simp[Op.operands]));generalize hxv:a.eval x=xv at I;have V:=A7 (hC.tok.facts ht) hu;obtain⟨D,B,rfl⟩:∃D B,xv = .slice D u.length B:=by
      cases I with
      |slnil=>exact⟨none,0,rfl⟩
      |sl sz N1 J hc hm hs hz h1 h2=>
       rename_i D a0 B;subst J;exact⟨some D,B,rfl⟩
     have:(Instr.sliceAt t (.slice D u.length B) none (some (.int k 0)) (some (.int k' 0))).run C.P w = .ok (.slice D 0 0) w:=by
      have b:∀(k:IntKind) (y:Nat) (c:BoundsCode),(Instr.sliceBound (.int k 0) y c).run C.P w = .ok 0 w:=λk y c=>by simp[Instr.sliceBound,Mq]
      simp[Instr.sliceAt,Instr.slice,run_underlying V,Instr.sliceBounds,b,D9 (hC.tok.facts hj) w]
     unfold Oper.wp execOp;have Y:∀v,a.eval (.const v)=v:=λ_=>rfl;simp only[T,hxv,Option.map_none,zqt,Y,Sem.run_bind,this,Result.andThen_ok,Sem.run_pure,Oper.upon_value];refine O _ M w ?_ Z (Ext.refl _ _ _);cases D with
     |none=>exact .full .slnil trivial
     |some z=>exact .full (.sl 0 (λ_ _=>undef) rfl (zqr _) (by unfold maxLen;omega) (.inl rfl) (λi r h=>by simp at h) (λi j r x h=>by simp at h) (λi j r x h=>by simp at h)) rfl
    ·cases h
   ·cases h
  ·cases h
 ·cases h
end Go.Am

