/- A part of the proof of CatalogFamilies. -/
import Derived.Orders
import Derived.Laws.Sem
import Derived.Laws.World
import GoSem.ClaimData
import Derived.Laws.Rows
import Derived.Laws.Entries
import Derived.Laws.Cells
import Derived.Laws.Append
import Derived.Laws.Strings
import Derived.Tactics
import Derived.Laws.CopyRow
import Derived.Calls
import Derived.Laws.AppendOwn
namespace Go.Am
theorem zqa : (false = true) = False := Bool.false_eq_true
theorem zqb {α : Type _} (a b : α) : (some a = some b) = (a = b) := Option.some.injEq a b
theorem zqc {α : Type _} {a b : List α} : (a ++ b).length = a.length + b.length := List.length_append
theorem zqd {α : Type _} {a : α} {b : List α} : (a :: b).length = b.length + 1 := rfl
theorem zqe {α : Type _} : ([] : List α).length = 0 := rfl
theorem zqf : (!true) = false := rfl
theorem zqg : (!false) = true := rfl
theorem zqh {α : Type _} {β : Type _} (a : α) (b : β) (c : α) (d : β) : ((a, b) = (c, d)) = (a = c ∧ b = d) := Prod.mk.injEq a b c d
theorem zqi (a b : Bool) : ((a && b) = true) = (a = true ∧ b = true) := Bool.and_eq_true a b
theorem zp {c : Prop} {h : Decidable c} (hc : c) {α : Sort _} {t e : α} : ite c t e = t := if_pos hc
theorem zn {c : Prop} {h : Decidable c} (hc : ¬c) {α : Sort _} {t e : α} : ite c t e = e := if_neg hc
theorem zt {α : Sort _} {h : Decidable True} (t e : α) : ite True t e = t := if_true t e
theorem zw {α : Sort _} {h : Decidable False} (t e : α) : ite False t e = e := if_false t e
theorem zqk {α : Sort _} {a b : α} : cond true a b = a := rfl
theorem zql {α : Sort _} {a b : α} : cond false a b = b := rfl
theorem zqm {α : Type _} [BEq α] [ReflBEq α] (a : α) : (a == a) = true := beq_self_eq_true a
theorem zqn {α : Type _} [BEq α] [LawfulBEq α] {a b : α} : (a == b) = false ↔ a ≠ b := beq_eq_false_iff_ne
theorem zqo {n m : Nat} (h : Nat.beq n m = true) : n = m := Nat.eq_of_beq_eq_true h
theorem zqp {α : Type _} {a : α} {l : List α} : a ∈ a :: l := List.mem_cons_self
theorem zqq {α : Type _} (y : α) {a : α} {l : List α} (h : a ∈ l) : a ∈ y :: l := List.mem_cons_of_mem y h
theorem zqr (n : Nat) : n ≤ n := Nat.le_refl n
theorem zqs {p : Prop} [inst : Decidable p] (h : ¬p) : decide p = false := decide_eq_false h
theorem zqt {α : Type _} {β : Type _} {a : α} {f : α → β} : Option.map f (some a) = some (f a) := rfl
theorem zqj {p : Prop} [inst : Decidable p] (h : p) : decide p = true := decide_eq_true h
theorem zqu {α : Type _} {i : Nat} {a : α} {l : List α} : l[i]? = some a ↔ ∃ h : i < l.length, l[i] = a := List.getElem?_eq_some_iff
theorem zqv {α : Type _} {l : List α} {i : Nat} (h : i < l.length) : l[i]? = some l[i] := List.getElem?_eq_getElem h
theorem zqx {α : Type _} {a b : List α} {n : Nat} (h : n < a.length) : (a ++ b)[n]? = a[n]? := List.getElem?_append_left h

inductive Nk where
 | ptr | map | func | iface
 deriving DecidableEq
inductive D where
 | bool (b:Bool)
 | int (k:IntKind) (n:Int)
 | str (s:List UInt8)
 | sl (rows:List (List D))
 | nilv (k:Nk)
 | box (cells:List D)
 | bxo (o:Option (List D))
 | mp (es:List (List UInt8×List D))
 | fn (o:Option FuncId)
abbrev Row:=List D
inductive A where
 | d (x:D)
 | junk
 | ref (o off:Nat)
 | ptr (cells:List D)
 | full (rows:List (List D))
 | osl (o:Nat) (rows:List (List D))
 | rsl (o off len cap:Nat)
 | clo (f:FuncId) (caps:List A)
 | bnd (f:FuncId) (first:List A)
 | agg (cells:List A)
 | tup (vs:List A)
 | mp (o:Nat)
inductive X17 where
 | s (l:List (List UInt8×List D))
 | i (k:IntKind) (l:List (Int×List D))
def X17.list:X17→List (D×List D)
 | .s l=>l.map fun p=>(.str p.1,p.2)
 | .i k l=>l.map fun p=>(.int k p.1,p.2)
inductive Ob where
 | dead
 | row (cells:List A) (elem:TypeId)
 | tok (elem:TypeId) (sz:Nat)
 | map (es:X17)
 | bld (o:Nat) (elem:TypeId)
 | buf (elem:TypeId) (bs:List UInt8)
abbrev Mem:=Addr→Option Value
abbrev Env:=Nat→A
abbrev I0:=List Ob
def InK (k:IntKind)(n:Int):Prop:=k.min≤n∧n≤k.max
instance (k:IntKind)(n:Int):Decidable (InK k n):=inferInstanceAs (Decidable (_∧_))
theorem Qx {n:Int}:InK .i64 n ↔ -9223372036854775808≤n∧n≤9223372036854775807:=Iff.rfl
theorem R19 {n:Int}:InK .u8 n ↔ 0≤n∧n≤255:=Iff.rfl
theorem B19 {n:Int}:InK .i32 n ↔ -2147483648≤n∧n≤2147483647:=Iff.rfl
theorem Y17 {n:Int}(h : -9223372036854775808≤n)(h':n≤9223372036854775807):IntKind.i64.wrap n=n:=by
 show (let m:=n % 18446744073709551616; if true&&decide (m≥9223372036854775808) then m - 18446744073709551616 else m)=n
 simp only [Bool.true_and,decide_eq_true_eq,ge_iff_le]
 split <;> omega
theorem Pf (k:IntKind)(n:Int):InK k (k.wrap n):=by
 cases k
 case i64=>
  rw [Qx]
  show -9223372036854775808≤(let m:=n % 18446744073709551616; if true&&decide (m≥9223372036854775808) then m - 18446744073709551616 else m)∧(let m:=n % 18446744073709551616; if true&&decide (m≥9223372036854775808) then m - 18446744073709551616 else m)≤9223372036854775807
  simp only [Bool.true_and,decide_eq_true_eq,ge_iff_le]
  split <;> omega
 case i32=>
  rw [B19]
  show -2147483648≤(let m:=n % 4294967296; if true&&decide (m≥2147483648) then m - 4294967296 else m)∧(let m:=n % 4294967296; if true&&decide (m≥2147483648) then m - 4294967296 else m)≤2147483647
  simp only [Bool.true_and,decide_eq_true_eq,ge_iff_le]
  split <;> omega
 case i16=>
  show -32768≤(let m:=n % 65536; if true&&decide (m≥32768) then m - 65536 else m)∧(let m:=n % 65536; if true&&decide (m≥32768) then m - 65536 else m)≤32767
  simp only [Bool.true_and,decide_eq_true_eq,ge_iff_le]
  split <;> omega
 case i8=>
  show -128≤(let m:=n % 256; if true&&decide (m≥128) then m - 256 else m)∧(let m:=n % 256; if true&&decide (m≥128) then m - 256 else m)≤127
  simp only [Bool.true_and,decide_eq_true_eq,ge_iff_le]
  split <;> omega
 case u8=>
  show 0≤(let m:=n % 256; if false&&decide (m≥128) then m - 256 else m)∧(let m:=n % 256; if false&&decide (m≥128) then m - 256 else m)≤255
  simp only [Bool.false_and,zqa,zw]
  omega
 case u16=>
  show 0≤(let m:=n % 65536; if false&&decide (m≥32768) then m - 65536 else m)∧(let m:=n % 65536; if false&&decide (m≥32768) then m - 65536 else m)≤65535
  simp only [Bool.false_and,zqa,zw]
  omega
 case u32=>
  show 0≤(let m:=n % 4294967296; if false&&decide (m≥2147483648) then m - 4294967296 else m)∧(let m:=n % 4294967296; if false&&decide (m≥2147483648) then m - 4294967296 else m)≤4294967295
  simp only [Bool.false_and,zqa,zw]
  omega
 case u64=>
  show 0≤(let m:=n % 18446744073709551616; if false&&decide (m≥9223372036854775808) then m - 18446744073709551616 else m)∧(let m:=n % 18446744073709551616; if false&&decide (m≥9223372036854775808) then m - 18446744073709551616 else m)≤18446744073709551615
  simp only [Bool.false_and,zqa,zw]
  omega
def K15 (ms:Array MapEntry):Value:=.tuple (ms.map fun e=>.tuple #[e.key,e.val])
def F1a (n:Nat)(f:Nat→Value):Value:=if n=1 then f 0 else .agg ((List.range n).map f).toArray
inductive O4 (M:Mem):D→Value→Prop
 | bool {b}:O4 M (.bool b) (.bool b)
 | int {k n} (h:InK k n):O4 M (.int k n) (.int k n)
 | str {s:List UInt8} (h:s.length≤maxLen):O4 M (.str s) (.string ⟨s.toArray⟩)
 | slnil:O4 M (.sl []) (.slice none 0 0)
 | sl {rows:List Row} {a:Addr} {len cap:Nat} (sz:Nat) (A2:Nat→Nat→Value) (hl:rows.length=len) (hc:len≤cap) (hm:cap≤maxLen) (hs:cap=0∨a.spot=none)
   (hz:∀ (i:Nat) r,rows[i]?=some r→r.length=sz)
   (h1:∀ (i j:Nat) r x,rows[i]?=some r→r[j]?=some x→M (a.add (i * sz+j))=some (A2 i j))
   (h2:∀ (i j:Nat) r x,rows[i]?=some r→r[j]?=some x→O4 M x (A2 i j)):O4 M (.sl rows) (.slice (some a) len cap)
 | nilptr:O4 M (.nilv .ptr) (.pointer none)
 | nilmap:O4 M (.nilv .map) (.map none)
 | nilfunc:O4 M (.nilv .func) .nilFunc
 | niliface:O4 M (.nilv .iface) .nilIface
 | box {cells:List D} {a:Addr} (A2:Nat→Value) (hs:a.spot=none) (h1:∀ (j:Nat) x,cells[j]?=some x→M (a.add j)=some (A2 j))
   (h2:∀ (j:Nat) x,cells[j]?=some x→O4 M x (A2 j)):O4 M (.box cells) (.pointer (some a))
 | bxnil:O4 M (.bxo none) (.pointer none)
 | bxs {cells:List D} {a:Addr} (A2:Nat→Value) (hs:a.spot=none) (h1:∀ (j:Nat) x,cells[j]?=some x→M (a.add j)=some (A2 j))
   (h2:∀ (j:Nat) x,cells[j]?=some x→O4 M x (A2 j)):O4 M (.bxo (some cells)) (.pointer (some a))
 | mpnil:O4 M (.mp []) (.map none)
 | fnnil:O4 M (.fn none) .nilFunc
 | fns {f:FuncId}:O4 M (.fn (some f)) (.func (.func f) #[] #[])
 | mp {es:List (List UInt8×List D)} {b:Nat} {ms:Array MapEntry} (A2:Nat→Nat→Value) (h:M ⟨b,0,some 0⟩=some (K15 ms)) (hl:ms.size=es.length)
   (hk:∀ (i:Nat) k cs e,es[i]?=some (k,cs)→ms[i]?=some e→e.key = .string ⟨k.toArray⟩∧k.length≤maxLen∧e.val=F1a cs.length (A2 i))
   (hv:∀ (i j:Nat) k cs x,es[i]?=some (k,cs)→cs[j]?=some x→O4 M x (A2 i j)):O4 M (.mp es) (.map (some b))
theorem O4.mono {M M':Mem}(hm:∀ a v,M a=some v→M' a=some v){x:D}{v:Value}(h:O4 M x v):O4 M' x v:=by
 induction h with
 | bool=>exact .bool
 | int h=>exact .int h
 | str h=>exact .str h
 | slnil=>exact .slnil
 | sl sz A2 hl hc hmx hs hz h1 _ ih=>exact .sl sz A2 hl hc hmx hs hz (fun i j r x a b=>hm _ _ (h1 i j r x a b)) ih
 | nilptr=>exact .nilptr
 | nilmap=>exact .nilmap
 | nilfunc=>exact .nilfunc
 | niliface=>exact .niliface
 | box A2 hs h1 _ ih=>exact .box A2 hs (fun j x a=>hm _ _ (h1 j x a)) ih
 | bxnil=>exact .bxnil
 | bxs A2 hs h1 _ ih=>exact .bxs A2 hs (fun j x a=>hm _ _ (h1 j x a)) ih
 | mpnil=>exact .mpnil
 | fnnil=>exact .fnnil
 | fns=>exact .fns
 | mp A2 h hl hk _ ih=>exact .mp A2 (hm _ _ h) hl hk ih
theorem O4.one {M:Mem}{x:D}{v:Value}(h:O4 M x v):v.oneCell'=true:=by cases h <;> rfl
theorem O4.cells {M:Mem}{x:D}{v:Value}(h:O4 M x v):v.cells = #[v]:=by cases h <;> rfl
def L16:Value→Prop
 | .slice none _ _=>True
 | .slice (some _) len cap=>len=cap
 | _=>False
inductive O1 (M:Mem)(G:Nat→Value):A→Value→Prop
 | d {x v} (h:O4 M x v):O1 M G (.d x) v
 | junk {v}:O1 M G .junk v
 | ref {o off b} (h:G o = .pointer (some ⟨b,0,none⟩)):O1 M G (.ref o off) (.pointer (some ⟨b,off,none⟩))
 | ptr {cells:List D} {a:Addr} (A2:Nat→Value) (hs:a.spot=none) (h1:∀ (j:Nat) x,cells[j]?=some x→M (a.add j)=some (A2 j))
   (h2:∀ (j:Nat) x,cells[j]?=some x→O4 M x (A2 j)):O1 M G (.ptr cells) (.pointer (some a))
 | full {rows v} (h:O4 M (.sl rows) v) (hf:L16 v):O1 M G (.full rows) v
 | osl {o rows v} (h:O4 M (.sl rows) v) (hg:G o=v):O1 M G (.osl o rows) v
 | rsl {o off len cap cap' b} (h:G o = .pointer (some ⟨b,0,none⟩)) (hc:len≤cap') (hm:cap'≤maxLen):O1 M G (.rsl o off len cap) (.slice (some ⟨b,off,none⟩) len cap')
 | clo {f:FuncId} {caps:List A} {vs:Array Value} (hl:caps.length=vs.size) (h:∀ (i:Nat) x v,caps[i]?=some x→vs[i]?=some v→O1 M G x v) :
   O1 M G (.clo f caps) (.func (.func f) #[] vs)
 | bnd {f:FuncId} {first:List A} {vs:Array Value} (hl:first.length=vs.size) (h:∀ (i:Nat) x v,first[i]?=some x→vs[i]?=some v→O1 M G x v) :
   O1 M G (.bnd f first) (.func (.func f) vs #[])
 | agg {cells:List A} {vs:Array Value} (hl:cells.length=vs.size) (h1:∀ (i:Nat) v,vs[i]?=some v→v.oneCell'=true)
   (h:∀ (i:Nat) x v,cells[i]?=some x→vs[i]?=some v→O1 M G x v):O1 M G (.agg cells) (.agg vs)
 | tup {xs:List A} {vs:Array Value} (hl:xs.length=vs.size) (h:∀ (i:Nat) x v,xs[i]?=some x→vs[i]?=some v→O1 M G x v):O1 M G (.tup xs) (.tuple vs)
 | mp {o b} (h:G o = .map (some b)):O1 M G (.mp o) (.map (some b))
inductive Names:A→Nat→Prop
 | ref {o off}:Names (.ref o off) o
 | osl {o rows}:Names (.osl o rows) o
 | rsl {o a b c}:Names (.rsl o a b c) o
 | mp {o}:Names (.mp o) o
 | clo {f caps x o} (h:x∈caps) (h':Names x o):Names (.clo f caps) o
 | bnd {f first x o} (h:x∈first) (h':Names x o):Names (.bnd f first) o
 | agg {cells x o} (h:x∈cells) (h':Names x o):Names (.agg cells) o
 | tup {xs x o} (h:x∈xs) (h':Names x o):Names (.tup xs) o
theorem O1.mono {M M':Mem}{G G':Nat→Value}(hm:∀ a v,M a=some v→M' a=some v){x:A}{v:Value}(h:O1 M G x v)(hg:∀ o,Names x o→G' o=G o):O1 M' G' x v:=by
 induction h with
 | d h=>exact .d (h.mono hm)
 | junk=>exact .junk
 | ref h=>exact .ref ((hg _ .ref).trans h)
 | ptr A2 hs h1 h2=>exact .ptr A2 hs (fun j x e=>hm _ _ (h1 j x e)) (fun j x e=>(h2 j x e).mono hm)
 | full h hf=>exact .full (h.mono hm) hf
 | osl h hg'=>exact .osl (h.mono hm) ((hg _ .osl).trans hg')
 | rsl h hc hmx=>exact .rsl ((hg _ .rsl).trans h) hc hmx
 | clo hl _ ih=>exact .clo hl fun i x v a b=>ih i x v a b fun o ho=>hg o (.clo (List.mem_of_getElem? a) ho)
 | bnd hl _ ih=>exact .bnd hl fun i x v a b=>ih i x v a b fun o ho=>hg o (.bnd (List.mem_of_getElem? a) ho)
 | agg hl h1 _ ih=>exact .agg hl h1 fun i x v a b=>ih i x v a b fun o ho=>hg o (.agg (List.mem_of_getElem? a) ho)
 | tup hl _ ih=>exact .tup hl fun i x v a b=>ih i x v a b fun o ho=>hg o (.tup (List.mem_of_getElem? a) ho)
 | mp h=>exact .mp ((hg _ .mp).trans h)
theorem O1.mono' {M M':Mem}{G:Nat→Value}(hm:∀ a v,M a=some v→M' a=some v){x:A}{v:Value}(h:O1 M G x v):O1 M' G x v:=h.mono hm fun _ _=>rfl
def blk:Ob→Value→Option Nat
 | .row _ _,.pointer (some a)=>some a.block
 | .tok _ _,.slice (some a) len cap=>if len < cap then some a.block else none
 | .map _,.map r=>r
 | .bld _ _,.pointer (some a)=>some a.block
 | .buf _ _,.slice (some a) _ _=>some a.block
 | _,_=>none
def Oy:Row→A
 | [x]=>.d x
 | cs=>.agg (cs.map .d)
def I1a (ms:Array MapEntry)(clock:Nat):Prop:=(∀ (i:Nat) e,ms[i]?=some e→e.born < clock)∧∀ (i j:Nat) e f,ms[i]?=some e→ms[j]?=some f→e.born=f.born→i=j
def Zg (M:Mem)(G:Nat→Value)(w:World):Ob→Value→Prop
 | .dead,_=>True
 | .row cells elem,g=>∃ b vs,g = .pointer (some ⟨b,0,none⟩)∧w.heap[b]?=some (.cells vs elem (0,0))∧cells.length≤vs.size∧(∀ (i:Nat) v,vs[i]?=some v→v.oneCell'=true)∧
   (∀ (i:Nat) x v,cells[i]?=some x→vs[i]?=some v→O1 M G x v)∧(∀ off sp,M ⟨b,off,sp⟩=none)
 | .tok elem sz,g=>g = .slice none 0 0∨∃ a n cap,g = .slice (some a) n cap∧(cap=0∨a.spot=none)∧n≤cap∧cap≤maxLen∧
   (n < cap→a.off=0∧∃ vs,w.heap[a.block]?=some (.cells vs elem (0,0))∧cap * sz≤vs.size∧∀ k sp,n * sz≤k→M ⟨a.block,k,sp⟩=none)
 | .map es,g=>∃ b ms clock,g = .map (some b)∧w.heap[b]?=some (.map ms clock)∧ms.size=es.list.length∧
   (∀ (i:Nat) k cs e,es.list[i]?=some (k,cs)→ms[i]?=some e→O4 M k e.key∧O1 M G (Oy cs) e.val)∧
   I1a ms clock∧(∀ off sp,M ⟨b,off,sp⟩=none)
 | .bld o elem,g=>∃ b v0,g = .pointer (some ⟨b,0,none⟩)∧w.heap[b]?=some (.cells #[v0,G o] elem (0,0))∧(v0 = .pointer none∨v0 = .pointer (some ⟨b,0,none⟩))∧G o≠.tuple #[]∧(∀ off sp,M ⟨b,off,sp⟩=none)
 | .buf elem bs,g=>bs.length≤maxLen∧(g = .slice none 0 0∧bs=[]∨∃ b cap cur,g = .slice (some ⟨b,0,none⟩) bs.length cap∧w.heap[b]?=some (.cells cur elem (0,0))∧bs.length≤cap∧cap≤maxLen∧cur.size=cap∧
   cur.toList.take bs.length=bs.map (fun c=>Value.int .u8 c.toNat)∧∀ off sp,M ⟨b,off,sp⟩=none)
def Good (M:Mem)(w:World):Prop:=∀ a v,M a=some v→(a.spot=none∧w.cell? a=some v)∨(a.spot=some 0∧∃ ms clock,w.heap[a.block]?=some (.map ms clock)∧v=K15 ms)
theorem O4.notTuple {M:Mem}{x:D}{v:Value}(h:O4 M x v):∀ vs,v≠.tuple vs:=by cases h <;> simp
theorem Good.cell {M:Mem}{w:World}(hG:Good M w){a:Addr}{v:Value}(e:M a=some v){x:D}(h:O4 M x v):w.cell? a=some v:=by
 rcases hG a v e with ⟨_,h1⟩ | ⟨_,ms,cl,_,rfl⟩
 ·exact h1
 ·exact absurd rfl (h.notTuple _)
theorem Good.at {M:Mem}{w:World}(hG:Good M w){a:Addr}{v:Value}(e:M a=some v)(h:a.spot=none):w.cell? a=some v:=by
 rcases hG a v e with ⟨_,h1⟩ | ⟨h2,_⟩
 ·exact h1
 ·rw [h] at h2; cases h2
def own (G:Nat→Value)(H:I0)(b:Nat):Prop:=∃ o x,H[o]?=some x∧blk x (G o)=some b
structure P7 (M:Mem)(G:Nat→Value)(w:World)(H:I0):Prop where
 obj:∀ (o:Nat) x,H[o]?=some x→Zg M G w x (G o)
 apart:∀ (o o':Nat) x x' b,H[o]?=some x→H[o']?=some x'→blk x (G o)=some b→blk x' (G o')=some b→o=o'
 fresh:∀ o:Nat,H.length≤o→G o = .tuple #[]
structure Ext (S:Nat→Prop)(M:Mem)(w:World)(M':Mem)(w':World):Prop where
 mono:∀ a v,M a=some v→M' a=some v
 size:w.heap.size≤w'.heap.size
 os:w'.os=w.os
 output:w'.output=w.output
 tape:w'.tape=w.tape
 block:∀ b,b < w.heap.size→¬ S b→w'.heap[b]?=w.heap[b]?
 fresh:∀ a v,M' a=some v→M a=some v∨S a.block∨w.heap.size≤a.block
theorem Ext.refl (S:Nat→Prop)(M:Mem)(w:World):Ext S M w M w:=
 ⟨fun _ _ h=>h,zqr _,rfl,rfl,rfl,fun _ _ _=>rfl,fun _ _ h=>.inl h⟩
theorem Ext.trans {S S1:Nat→Prop}{M M1 M2:Mem}{w w1 w2:World}(h:Ext S M w M1 w1)(h':Ext S1 M1 w1 M2 w2)(hs:∀ b,S1 b→S b∨w.heap.size≤b):Ext S M w M2 w2 where
 mono a v e:=h'.mono a v (h.mono a v e)
 size:=Nat.le_trans h.size h'.size
 os:=h'.os.trans h.os
 output:=h'.output.trans h.output
 tape:=h'.tape.trans h.tape
 block b hb hn:=by
  rw [h'.block b (Nat.lt_of_lt_of_le hb h.size) (fun h1=>by rcases hs b h1 with h2 | h2; exact hn h2; omega),h.block b hb hn]
 fresh a v e:=by
  rcases h'.fresh a v e with e1 | e1 | e1
  ·exact h.fresh a v e1
  ·rcases hs _ e1 with e2 | e2
   ·exact .inr (.inl e2)
   ·exact .inr (.inr e2)
  ·exact .inr (.inr (Nat.le_trans h.size e1))
theorem Ext.weaken {S S1:Nat→Prop}{M M1:Mem}{w w1:World}(h:Ext S M w M1 w1)(hs:∀ b,S b→S1 b∨w.heap.size≤b):Ext S1 M w M1 w1:=
 (Ext.refl S1 M w).trans h hs
def Y6:Nat→Prop:=fun _=>False
theorem Good.lt {M:Mem}{w:World}(h:Good M w){a:Addr}{v:Value}(e:M a=some v):a.block < w.heap.size:=by
 rcases h a v e with ⟨_,h1⟩ | ⟨_,ms,cl,h1,_⟩
 ·exact World.block_lt_of_cell? w a h1
 ·exact (Array.getElem?_eq_some_iff.1 h1).1
theorem Kp {w w':World}{a:Addr}(h:w'.heap[a.block]?=w.heap[a.block]?):w'.cell? a=w.cell? a:=by simp [World.cell?,h]
theorem A9 {M:Mem}{G:Nat→Value}{w:World}{x:Ob}{g:Value}(h:Zg M G w x g){b:Nat}(hb:blk x g=some b):b < w.heap.size:=by
 cases x with
 | dead=>simp [blk] at hb
 | row cells elem=>
  obtain ⟨b',vs,rfl,h1,_⟩:=h
  simp [blk] at hb; subst hb
  exact (Array.getElem?_eq_some_iff.1 h1).1
 | tok elem sz=>
  rcases h with rfl | ⟨a,n,cap,rfl,_,_,_,h1⟩
  ·simp [blk] at hb
  ·simp only [blk] at hb
   split at hb
   ·rename_i hlt
    obtain ⟨_,vs,h2,_⟩:=h1 hlt
    simp at hb; subst hb
    exact (Array.getElem?_eq_some_iff.1 h2).1
   ·cases hb
 | map es=>
  obtain ⟨b',ms,cl,rfl,h1,_⟩:=h
  simp [blk] at hb; subst hb
  exact (Array.getElem?_eq_some_iff.1 h1).1
 | bld o elem=>
  obtain ⟨b',v0,rfl,h1,_⟩:=h
  simp [blk] at hb; subst hb
  exact (Array.getElem?_eq_some_iff.1 h1).1
 | buf elem bs=>
  rcases h with ⟨_,⟨rfl,_⟩ | ⟨b',cap,cur,rfl,h1,_⟩⟩
  ·simp [blk] at hb
  ·simp [blk] at hb; subst hb
   exact (Array.getElem?_eq_some_iff.1 h1).1
theorem M16 {M:Mem}{G:Nat→Value}{w:World}{H:I0}(h:P7 M G w H){b:Nat}(hb:own G H b):b < w.heap.size:=by
 obtain ⟨o,x,ho,hx⟩:=hb
 exact A9 (h.obj o x ho) hx
theorem Zg.keep {M M':Mem}{G:Nat→Value}{w w':World}{x:Ob}{g:Value}(h:Zg M G w x g)(hm:∀ a v,M a=some v→M' a=some v)
  (hb:∀ b,blk x g=some b→w'.heap[b]?=w.heap[b]?) (hf:∀ b,blk x g=some b→∀ off sp,M ⟨b,off,sp⟩=none→M' ⟨b,off,sp⟩=none):Zg M' G w' x g:=by
 cases x with
 | dead=>trivial
 | row cells elem=>
  obtain ⟨b,vs,rfl,h1,h2,h3,h4,h5⟩:=h
  exact ⟨b,vs,rfl,(hb b rfl).trans h1,h2,h3,fun i x v a c=>(h4 i x v a c).mono' hm,fun off sp=>hf b rfl off sp (h5 off sp)⟩
 | tok elem sz=>
  rcases h with h | ⟨a,n,cap,rfl,h1,h2,h3,h4⟩
  ·exact .inl h
  ·refine .inr ⟨a,n,cap,rfl,h1,h2,h3,fun hlt=>?_⟩
   obtain ⟨h0,vs,h5,h6,h7⟩:=h4 hlt
   have hbk:blk (.tok elem sz) (.slice (some a) n cap)=some a.block:=by simp [blk,hlt]
   exact ⟨h0,vs,(hb _ hbk).trans h5,h6,fun k sp hk=>hf _ hbk k sp (h7 k sp hk)⟩
 | map es=>
  obtain ⟨b,ms,cl,rfl,h1,h2,h3,h4,h5⟩:=h
  exact ⟨b,ms,cl,rfl,(hb b rfl).trans h1,h2,fun i k cs e a c=>⟨((h3 i k cs e a c).1).mono hm,((h3 i k cs e a c).2).mono' hm⟩,h4,fun off sp=>hf b rfl off sp (h5 off sp)⟩
 | bld o elem=>
  obtain ⟨b,v0,rfl,h1,h2,h3,h4⟩:=h
  exact ⟨b,v0,rfl,(hb b rfl).trans h1,h2,h3,fun off sp=>hf b rfl off sp (h4 off sp)⟩
 | buf elem bs=>
  obtain ⟨h0,h⟩:=h
  refine ⟨h0,?_⟩
  rcases h with h | ⟨b,cap,cur,rfl,h1,h2,h3,h4,h5,h6⟩
  ·exact .inl h
  ·exact .inr ⟨b,cap,cur,rfl,(hb b rfl).trans h1,h2,h3,h4,h5,fun off sp=>hf b rfl off sp (h6 off sp)⟩
theorem P7.ext {S:Nat→Prop}{M M':Mem}{G:Nat→Value}{w w':World}{H:I0}(h:P7 M G w H)(he:Ext S M w M' w')(hS:∀ b,own G H b→¬ S b):P7 M' G w' H where
 obj o x ho:=by
  refine (h.obj o x ho).keep he.mono (fun b hb=>he.block b (M16 h ⟨o,x,ho,hb⟩) (hS b ⟨o,x,ho,hb⟩)) (fun b hb off sp hn=>?_)
  cases hM:M' ⟨b,off,sp⟩ with
  | none=>rfl
  | some v=>
   rcases he.fresh _ v hM with h1 | h1 | h1
   ·rw [hn] at h1; cases h1
   ·exact absurd h1 (hS b ⟨o,x,ho,hb⟩)
   ·have:=M16 h ⟨o,x,ho,hb⟩
    simp only at h1
    omega
 apart:=h.apart
 fresh:=h.fresh
theorem P7.nil (M:Mem)(w:World):P7 M (fun _=>.tuple #[]) w []:=⟨fun o x h=>by simp at h,fun o o' x x' b h=>by simp at h,fun _ _=>rfl⟩
theorem O1.names {M:Mem}{G:Nat→Value}{x:A}{v:Value}(h:O1 M G x v){o:Nat}(hn:Names x o):G o≠.tuple #[]:=by
 induction h with
 | d h=>cases hn
 | junk=>cases hn
 | ref h=>cases hn; rw [h]; simp
 | ptr A2 hs h1 h2=>cases hn
 | full h hf=>cases hn
 | osl h hg=>cases hn; rw [hg]; cases h <;> simp
 | rsl h hc hmx=>cases hn; rw [h]; simp
 | clo hl h ih=>
  cases hn with
  | clo hm hn=>
   obtain ⟨i,hi⟩:=List.getElem?_of_mem hm
   have hv:=Array.getElem?_eq_getElem (by rw [← hl]; exact (zqu.1 hi).1)
   exact ih i _ _ hi hv hn
 | bnd hl h ih=>
  cases hn with
  | bnd hm hn=>
   obtain ⟨i,hi⟩:=List.getElem?_of_mem hm
   have hv:=Array.getElem?_eq_getElem (by rw [← hl]; exact (zqu.1 hi).1)
   exact ih i _ _ hi hv hn
 | agg hl h1 h ih=>
  cases hn with
  | agg hm hn=>
   obtain ⟨i,hi⟩:=List.getElem?_of_mem hm
   have hv:=Array.getElem?_eq_getElem (by rw [← hl]; exact (zqu.1 hi).1)
   exact ih i _ _ hi hv hn
 | tup hl h ih=>
  cases hn with
  | tup hm hn=>
   obtain ⟨i,hi⟩:=List.getElem?_of_mem hm
   have hv:=Array.getElem?_eq_getElem (by rw [← hl]; exact (zqu.1 hi).1)
   exact ih i _ _ hi hv hn
 | mp h=>cases hn; rw [h]; simp
theorem P7.lt {M:Mem}{G:Nat→Value}{w:World}{H:I0}(h:P7 M G w H){M':Mem}{x:A}{v:Value}(hr:O1 M' G x v){o:Nat}(hn:Names x o):o < H.length:=by
 rcases Nat.lt_or_ge o H.length with h1 | h1
 ·exact h1
 ·exact absurd (h.fresh o h1) (hr.names hn)
theorem B11 {w w':World}{a:Addr}{v:Value}(hb:w'.heap[a.block]?=w.heap[a.block]?)(h:(a.spot=none∧w.cell? a=some v)∨(a.spot=some 0∧∃ ms clock,w.heap[a.block]?=some (.map ms clock)∧v=K15 ms)) :
  (a.spot=none∧w'.cell? a=some v)∨(a.spot=some 0∧∃ ms clock,w'.heap[a.block]?=some (.map ms clock)∧v=K15 ms):=by
 rw [Kp hb,hb]; exact h
theorem Good.ext {S:Nat→Prop}{M:Mem}{w w':World}(h:Good M w)(he:Ext S M w M w')(hS:∀ a v,M a=some v→¬ S a.block):Good M w':=fun a v e=>
 by
  have hb:=he.block a.block (h.lt e) (hS a v e)
  rw [Kp hb,hb]; exact h a v e
inductive TU where
 | bool | int (k:IntKind) | str | ptr (e:Nat) | sl (e:Nat) | arr (n e:Nat)
 | st (fs:List (Nat×Nat×Nat))
 | map (k e:Nat) | func | iface | other
structure TI where
 u:TU
 size:Nat
 bytes:Nat
 zero:List D
abbrev TT:=List (Nat×TI)
def G4:TT→Nat→Option TI
 | [],_=>none
 | (k,i)::r,t=>bif Nat.beq k t then some i else G4 r t
def TU.agg:TU→Bool
 | .st _ | .arr _ _=>true
 | _=>false
def zB:Value→D→Bool
 | .bool b,.bool c=>b == c
 | .int k n,.int k' n'=>decide (k=k')&&decide (n=n')&&decide (InK k n)
 | .string s,.str l=>s.data.toList.isEmpty&&l.isEmpty
 | .slice none 0 0,.sl []=>true
 | .pointer none,.nilv .ptr=>true
 | .map none,.nilv .map=>true
 | .nilFunc,.nilv .func=>true
 | .nilIface,.nilv .iface=>true
 | _,_=>false
theorem Aq {v:Value}{x:D}(h:zB v x=true)(M:Mem):O4 M x v:=by
 unfold zB at h
 split at h
 ·rename_i b c; obtain rfl:b=c:=by simpa using h
  exact .bool
 ·rename_i k n k' n'
  simp only [zqi,decide_eq_true_eq] at h
  obtain ⟨⟨rfl,rfl⟩,h⟩:=h
  exact .int h
 ·rename_i s l
  simp only [zqi,List.isEmpty_iff] at h
  obtain ⟨h1,rfl⟩:=h
  obtain ⟨d⟩:=s
  have:d = #[]:=by simpa using h1
  subst this
  exact .str (s:=[]) (Nat.zero_le _)
 ·exact .slnil
 ·exact .nilptr
 ·exact .nilmap
 ·exact .nilfunc
 ·exact .niliface
 ·cases h
def zsB:List Value→List D→Bool
 | [],[]=>true
 | v::vs,x::xs=>zB v x&&zsB vs xs
 | _,_=>false
theorem Py:∀ {vs:List Value} {xs:List D},zsB vs xs=true→vs.length=xs.length∧∀ (i:Nat) v x,vs[i]?=some v→xs[i]?=some x→zB v x=true
 | [],[],_=>⟨rfl,fun i v x h=>by simp at h⟩
 | v::vs,x::xs,h=>by
  simp only [zsB,zqi] at h
  obtain ⟨h1,h2⟩:=Py h.2
  refine ⟨by simp [h1],fun i u y hu hy=>?_⟩
  cases i with
  | zero=>simp at hu hy; subst hu; subst hy; exact h.1
  | succ i=>exact h2 i u y (by simpa using hu) (by simpa using hy)
 | [],_::_,h=>by simp [zsB] at h
 | _::_,[],h=>by simp [zsB] at h
def fsB (P:Program):List Field→List (Nat×Nat×Nat)→Bool
 | [],[]=>true
 | f::fs,(t,o,s)::r=>Nat.beq f.type t&&Nat.beq f.offset o&&Nat.beq (P.cellsOf t) s&&Nat.ble 1 s&&(P.info? t).isSome&&fsB P fs r
 | _,_=>false
def uB (P:Program):Option TypeDesc→TU→Bool
 | some .bool,.bool=>true
 | some (.int k),.int k'=>decide (k=k')
 | some .string,.str=>true
 | some (.pointer e),.ptr e'=>Nat.beq e e'
 | some (.slice e),.sl e'=>Nat.beq e e'
 | some (.array n e),.arr n' e'=>Nat.beq n n'&&Nat.beq e e'
 | some (.struct fs),.st gs=>fsB P fs.toList gs
 | some (.map k e),.map k' e'=>Nat.beq k k'&&Nat.beq e e'
 | some (.func ..),.func=>true
 | some (.interface _),.iface=>true
 | _,_=>false
def tiB (P:Program)(t:Nat)(i:TI):Bool:=
 (match P.info? t with
  | some j=>Nat.beq j.size i.size&&Nat.beq j.bytes i.bytes&&(match j.zero with
    | some (.agg cs)=>i.u.agg&&zsB cs.toList i.zero
    | some v=>!i.u.agg&&zsB [v] i.zero
    | none=>false)
  | none=>false)&&uB P (P.underlying t) i.u&&Nat.beq i.zero.length i.size&&Nat.ble 1 i.size
def TOk (P:Program)(T:TT):Prop:=∀ t i,G4 T t=some i→tiB P t i=true
theorem N16 (P:Program):∀ (T:TT),(T.all fun p=>tiB P p.1 p.2)=true→TOk P T
 | [],_=>fun t i h=>by simp [G4] at h
 | (k,j)::r,h=>fun t i ht=>by
  simp only [List.all_cons,zqi] at h
  simp only [G4] at ht
  cases hk:Nat.beq k t with
  | true=>
   rw [hk] at ht
   simp only [zqk,zqb] at ht
   subst ht
   have:=zqo hk
   subst this
   exact h.1
  | false=>
   rw [hk] at ht
   exact N16 P r h.2 t i (by simpa using ht)
structure La (P:Program)(t:Nat)(i:TI):Prop where
 info:∃ j,P.info? t=some j∧j.size=i.size∧j.bytes=i.bytes∧∃ z,j.zero=some z∧z.cells.toList.length=i.zero.length∧(∀ (n:Nat) v x,z.cells[n]?=some v→i.zero[n]?=some x→zB v x=true)∧
  (if i.u.agg then ∃ cs,z = .agg cs else z.cells = #[z])
 u:uB P (P.underlying t) i.u=true
 len:i.zero.length=i.size
 pos:1≤i.size
theorem TOk.facts {P:Program}{T:TT}(h:TOk P T){t:Nat}{i:TI}(ht:G4 T t=some i):La P t i:=by
 have hb:=h t i ht
 simp only [tiB,zqi] at hb
 obtain ⟨⟨⟨h1,h2⟩,h3⟩,h4⟩:=hb
 refine ⟨?_,h2,zqo h3,Nat.le_of_ble_eq_true h4⟩
 split at h1
 ·rename_i j hj
  simp only [zqi] at h1
  obtain ⟨⟨e1,e2⟩,e3⟩:=h1
  refine ⟨j,hj,zqo e1,zqo e2,?_⟩
  split at e3
  ·rename_i cs hz
   simp only [zqi] at e3
   obtain ⟨l1,l2⟩:=Py e3.2
   exact ⟨_,hz,l1,fun n v x a b=>l2 n v x (by simpa [Value.cells] using a) b,by rw [e3.1]; exact ⟨cs,rfl⟩⟩
  ·rename_i v hv hz
   simp only [zqi,Bool.not_eq_true'] at e3
   obtain ⟨l1,l2⟩:=Py e3.2
   have hc:v.cells = #[v]:=by cases v <;> first | rfl | (exact absurd rfl (hv _))
   refine ⟨_,hz,by rw [hc]; exact l1,fun n u x a b=>l2 n u x (by rw [hc] at a; simpa using a) b,by rw [e3.1]; exact hc⟩
  ·cases e3
 ·cases h1
def S12:Value→A
 | .bool b=>.d (.bool b)
 | .int k n=>bif decide (InK k n) then .d (.int k n) else .junk
 | .string s=>bif Nat.ble s.data.toList.length maxLen then .d (.str s.data.toList) else .junk
 | .slice none l c=>bif Nat.beq l 0&&Nat.beq c 0 then .full [] else .junk
 | .pointer none=>.d (.nilv .ptr)
 | .map none=>.d (.nilv .map)
 | .nilFunc=>.d (.nilv .func)
 | .nilIface=>.d (.nilv .iface)
 | .func (.func f) a b=>bif Nat.beq a.size 0&&Nat.beq b.size 0 then .clo f [] else .junk
 | .tuple a=>bif Nat.beq a.size 0 then .tup [] else .junk
 | _=>.junk
theorem L15 (M:Mem)(G:Nat→Value)(v:Value):O1 M G (S12 v) v:=by
 unfold S12
 split
 ·exact .d .bool
 ·rename_i k n
  cases h:decide (InK k n)
  ·exact .junk
  ·exact .d (.int (of_decide_eq_true h))
 ·rename_i s
  cases h:Nat.ble s.data.toList.length maxLen
  ·exact .junk
  ·exact .d (.str (Nat.le_of_ble_eq_true h))
 ·rename_i l c
  cases h:Nat.beq l 0&&Nat.beq c 0
  ·exact .junk
  ·simp only [zqi] at h
   obtain rfl:=zqo h.1
   obtain rfl:=zqo h.2
   exact .full .slnil trivial
 ·exact .d .nilptr
 ·exact .d .nilmap
 ·exact .d .nilfunc
 ·exact .d .niliface
 ·rename_i f a b
  cases h:Nat.beq a.size 0&&Nat.beq b.size 0
  ·exact .junk
  ·simp only [zqi] at h
   obtain rfl:a = #[]:=Array.eq_empty_of_size_eq_zero (zqo h.1)
   obtain rfl:b = #[]:=Array.eq_empty_of_size_eq_zero (zqo h.2)
   exact .clo rfl fun i x v h=>by simp at h
 ·rename_i a
  cases h:Nat.beq a.size 0
  ·exact .junk
  ·obtain rfl:a = #[]:=Array.eq_empty_of_size_eq_zero (zqo h)
   exact .tup rfl fun i x v h=>by simp at h
 ·exact .junk
abbrev GT:=List (Nat×List D)
def Z17:GT→Nat→Option (List D)
 | [],_=>none
 | (k,i)::r,t=>bif Nat.beq k t then some i else Z17 r t
def ev (GL:GT)(env:Env):Operand→A
 | .tmp t=>env t
 | .const v=>S12 v
 | .global g=>match Z17 GL g with | some cs=>.ptr cs | none=>.junk
 | .func f=>.clo f []
def upd (env:Env)(t:Nat)(x:A):Env:=fun i=>bif Nat.beq i t then x else env i
def put (env:Env)(dst:Option Nat)(x:A):Env:=
 match dst with
 | some t=>upd env t x
 | none=>env
def nth {α:Type}:List α→Nat→Option α
 | [],_=>none
 | x::_,0=>some x
 | _::r,n+1=>nth r n
theorem S3 {α:Type}:∀ (l:List α) (n:Nat),nth l n=l[n]?
 | [],_=>rfl
 | _::_,0=>rfl
 | _::r,n+1=>by rw [nth,S3 r n]; rfl
def Jl (i:TI)(cells:List A):Option A:=
 bif i.u.agg then (bif Nat.ble i.size cells.length then some (.agg (cells.take i.size)) else none)
 else nth cells 0
def O9:A→Option (List A)
 | .agg cs=>some cs
 | .junk | .tup _=>none
 | x=>some [x]
theorem Bq {M:Mem}{G:Nat→Value}{x:A}{v:Value}(h:O1 M G x v){cs:List A}(hc:O9 x=some cs) :
  v.cells.size=cs.length∧(∀ (i:Nat) u,v.cells[i]?=some u→u.oneCell'=true)∧∀ (i:Nat) y u,cs[i]?=some y→v.cells[i]?=some u→O1 M G y u:=by
 have single:∀ (x:A) (v:Value),O1 M G x v→v.cells = #[v]→v.oneCell'=true→v.cells.size=[x].length∧(∀ (i:Nat) u,v.cells[i]?=some u→u.oneCell'=true)∧∀ (i:Nat) y u,[x][i]?=some y→v.cells[i]?=some u→O1 M G y u:=by
  intro x v h e h1
  rw [e]
  refine ⟨rfl,fun i u hu=>?_,fun i y u hy hu=>?_⟩
  ·cases i with
   | zero=>simp at hu; subst hu; exact h1
   | succ i=>simp at hu
  ·cases i with
   | zero=>simp at hu hy; subst hu; subst hy; exact h
   | succ i=>simp at hu
 cases h with
 | d h=>simp only [O9,zqb] at hc; subst hc; exact single _ _ (.d h) h.cells h.one
 | junk=>simp [O9] at hc
 | ref h=>simp only [O9,zqb] at hc; subst hc; exact single _ _ (.ref h) rfl rfl
 | ptr A2 hs h1 h2=>simp only [O9,zqb] at hc; subst hc; exact single _ _ (.ptr A2 hs h1 h2) rfl rfl
 | full h hf=>simp only [O9,zqb] at hc; subst hc; exact single _ _ (.full h hf) h.cells h.one
 | osl h hg=>simp only [O9,zqb] at hc; subst hc; exact single _ _ (.osl h hg) h.cells h.one
 | rsl h a b=>simp only [O9,zqb] at hc; subst hc; exact single _ _ (.rsl h a b) rfl rfl
 | clo hl h=>simp only [O9,zqb] at hc; subst hc; exact single _ _ (.clo hl h) rfl rfl
 | bnd hl h=>simp only [O9,zqb] at hc; subst hc; exact single _ _ (.bnd hl h) rfl rfl
 | agg hl h1 h=>simp only [O9,zqb] at hc; subst hc; exact ⟨hl.symm,h1,h⟩
 | tup hl h=>simp [O9] at hc
 | mp h=>simp only [O9,zqb] at hc; subst hc; exact single _ _ (.mp h) rfl rfl
theorem Yu {P:Program}{t:Nat}{i:TI}(f:La P t i)(w:World):(isAgg t).run P w = .ok i.u.agg w:=by
 have hu:=f.u
 cases hd:P.underlying t with
 | none=>rw [hd] at hu; simp [uB] at hu
 | some d=>
  unfold isAgg
  rw [Sem.run_bind,run_underlying hd w]
  rw [hd] at hu
  cases d <;> cases hi:i.u <;> simp [hi,uB] at hu <;> rfl
theorem Gf {P:Program}{t:Nat}{i:TI}(f:La P t i)(w:World):(sizeOf t).run P w = .ok i.size w:=by
 obtain ⟨j,h1,h2,_⟩:=f.info
 simp [sizeOf,typeInfo,h1,h2]
theorem Jy {P:Program}{M:Mem}{G:Nat→Value}{t:Nat}{i:TI}(f:La P t i)(w:World)(a:Addr)(cells:List A)(A2:Nat→Value)
  (h1:∀ (j:Nat) x,cells[j]?=some x→w.cell? (a.add j)=some (A2 j)) (h2:∀ (j:Nat) x,cells[j]?=some x→O1 M G x (A2 j)) (h3:∀ (j:Nat) x,cells[j]?=some x→(A2 j).oneCell'=true) {x:A} (hx:Jl i cells=some x) :
  ∃ v,(loadVar t a).run P w = .ok v w∧O1 M G x v:=by
 unfold Jl at hx
 cases hg:i.u.agg with
 | true=>
  rw [hg] at hx
  simp only [zqk] at hx
  cases hb:Nat.ble i.size cells.length with
  | false=>rw [hb] at hx; cases hx
  | true=>
   rw [hb] at hx
   simp only [zqk,zqb] at hx
   subst hx
   have hle:=Nat.le_of_ble_eq_true hb
   have hl:=run_loadCells_list (P:=P) w a ((List.range i.size).map A2) (fun j v hv=>by
    rw [List.getElem?_map] at hv
    by_cases hj:j < i.size
    ·rw [List.getElem?_range hj] at hv
     simp at hv
     subst hv
     exact h1 j _ (zqv (by omega))
    ·rw [List.getElem?_eq_none (by simp; omega)] at hv
     cases hv)
   simp only [List.length_map,List.length_range] at hl
   have hv:∀ (j:Nat) u,((List.range i.size).map A2).toArray[j]?=some u→j < i.size∧A2 j=u:=by
    intro j u hu
    rw [List.getElem?_toArray,List.getElem?_map] at hu
    by_cases hj:j < i.size
    ·rw [List.getElem?_range hj] at hu
     exact ⟨hj,by simpa using hu⟩
    ·rw [List.getElem?_eq_none (by simp; omega)] at hu
     cases hu
   refine ⟨.agg ((List.range i.size).map A2).toArray,?_,.agg (by simp; omega) (fun j v hu=>?_) fun j x v hx hu=>?_⟩
   ·simp only [loadVar,Sem.run_bind,Yu f w,hg,Result.andThen_ok,zt,Gf f w,hl,Sem.run_pure]
   ·obtain ⟨hj,rfl⟩:=hv j v hu
    exact h3 j _ (zqv (by omega))
   ·obtain ⟨hj,rfl⟩:=hv j v hu
    refine h2 j x ?_
    rw [List.getElem?_take] at hx
    simpa [hj] using hx
 | false=>
  rw [hg] at hx
  simp only [zql,S3] at hx
  have e:a.add 0=a:=by simp [Addr.add]
  have h0:=h1 0 x hx
  rw [e] at h0
  refine ⟨A2 0,?_,h2 0 x hx⟩
  simp only [loadVar,Sem.run_bind,Yu f w,hg,Result.andThen_ok,zqa,zw,run_load,h0]
theorem Lw (a:Addr)(i j:Nat):(a.add i).add j=a.add (i+j):=by
 unfold Addr.add
 by_cases h1:i=0
 ·subst h1; simp
 ·by_cases h2:j=0
  ·subst h2; simp [h1]
  ·simp [h1,h2,Nat.add_assoc]
theorem Bc (b o i:Nat):(⟨b,o,none⟩:Addr).add i=⟨b,o+i,none⟩:=by unfold Addr.add; split <;> simp_all
theorem Rv {a:Addr}(hs:a.spot=none)(i:Nat):a.add i=⟨a.block,a.off+i,none⟩:=by
 obtain ⟨b,o,s⟩:=a
 simp only at hs
 subst hs
 exact Bc b o i
theorem Vm {w:World}{b:Nat}{vs:Array Value}{e:TypeId}{fr:Nat×Nat}(h:w.heap[b]?=some (.cells vs e fr))(j:Nat):w.cell? ⟨b,j,none⟩=vs[j]?:=by
 simp [World.cell?,h]
def Lb (i:TI)(x:A)(H:I0):Option A:=
 match x with
 | .ref o off=>match nth H o with | some (.row cells _)=>Jl i (cells.drop off) | _=>none
 | .ptr cells=>Jl i (cells.map .d)
 | _=>none
theorem C19 {P:Program}{M:Mem}{G:Nat→Value}{w:World}{H:I0}(hG:Good M w)(hH:P7 M G w H){t:Nat}{i:TI}(f:La P t i){x y:A}{v:Value}(hx:O1 M G x v)
  (h:Lb i x H=some y):∃ u,(Instr.loadAt t v).run P w = .ok u w∧O1 M G y u:=by
 cases hx with
 | @ref o off b hb=>
  simp only [Lb,S3] at h
  split at h
  ·rename_i cells elem ho
   obtain ⟨b',vs,hb',h1,h2,h3,h4,_⟩:=hH.obj o _ ho
   rw [hb] at hb'
   simp only [Value.pointer.injEq,zqb,Addr.mk.injEq,and_true] at hb'
   subst hb'
   have hc:∀ (j:Nat) x,(cells.drop off)[j]?=some x→∃ u,vs[off+j]?=some u:=fun j x hx=>by
    rw [List.getElem?_drop] at hx
    have hlt:off+j < vs.size:=Nat.lt_of_lt_of_le (zqu.1 hx).1 h2
    exact ⟨vs[off+j],Array.getElem?_eq_getElem hlt⟩
   have:=Jy (P:=P) (M:=M) (G:=G) f w ⟨b,off,none⟩ (cells.drop off) (fun j=>vs[off+j]?.getD undef) (fun j x hx=>by
     obtain ⟨u,hu⟩:=hc j x hx
     rw [Bc,Vm h1,hu]; rfl) (fun j x hx=>by
     obtain ⟨u,hu⟩:=hc j x hx
     rw [hu]
     rw [List.getElem?_drop] at hx
     exact h4 _ x u hx hu) (fun j x hx=>by
     obtain ⟨u,hu⟩:=hc j x hx
     rw [hu]
     exact h3 _ u hu) h
   obtain ⟨u,hu,hr⟩:=this
   exact ⟨u,by simp [Instr.loadAt,Instr.sureAddr,hu],hr⟩
  ·cases h
 | @ptr cells a A2 hs h1 h2=>
  simp only [Lb] at h
  have hd:∀ (j:Nat) x,(cells.map A.d)[j]?=some x→∃ y,cells[j]?=some y∧x = .d y:=fun j x hx=>by
   rw [List.getElem?_map] at hx
   cases hc:cells[j]? with
   | none=>rw [hc] at hx; cases hx
   | some y=>rw [hc] at hx; exact ⟨y,rfl,by simpa using hx.symm⟩
  obtain ⟨u,hu,hr⟩:=Jy (P:=P) (M:=M) (G:=G) f w a (cells.map .d) A2 (fun j x hx=>by
    obtain ⟨y,hy,rfl⟩:=hd j x hx
    exact hG.cell (h1 j y hy) (h2 j y hy)) (fun j x hx=>by
    obtain ⟨y,hy,rfl⟩:=hd j x hx
    exact .d (h2 j y hy)) (fun j x hx=>by
    obtain ⟨y,hy,rfl⟩:=hd j x hx
    exact (h2 j y hy).one) h
  exact ⟨u,by simp [Instr.loadAt,Instr.sureAddr,hu],hr⟩
 | d h'=>simp [Lb] at h
 | junk=>simp [Lb] at h
 | full _ _=>simp [Lb] at h
 | osl _ _=>simp [Lb] at h
 | rsl _ _ _=>simp [Lb] at h
 | clo _ _=>simp [Lb] at h
 | bnd _ _=>simp [Lb] at h
 | agg _ _ _=>simp [Lb] at h
 | tup _ _=>simp [Lb] at h
 | mp _=>simp [Lb] at h
def O2 (x:A):Option (Prop×A):=some (True,x)
def T12 (op:BinOp)(k:IntKind)(a:Int)(k':IntKind)(b:Int):Option (Prop×A):=
 match op with
 | .shl=>some (0≤b,.d (.int k (k.wrap (a * 2 ^ (min b.toNat k.bits)))))
 | .shr=>some (0≤b,.d (.int k (a.fdiv (2 ^ (min b.toNat k.bits)))))
 | _=>bif decide (k=k') then
   match op with
   | .add=>O2 (.d (.int k (k.wrap (a+b))))
   | .sub=>O2 (.d (.int k (k.wrap (a - b))))
   | .mul=>O2 (.d (.int k (k.wrap (a * b))))
   | .quo=>some (b≠0,.d (.int k (k.wrap (a.tdiv b))))
   | .rem=>some (b≠0,.d (.int k (a.tmod b)))
   | .and=>O2 (.d (.int k (k.wrap ((BitVec.ofInt k.bits a &&& BitVec.ofInt k.bits b).toNat:Int))))
   | .or=>O2 (.d (.int k (k.wrap ((BitVec.ofInt k.bits a ||| BitVec.ofInt k.bits b).toNat:Int))))
   | .xor=>O2 (.d (.int k (k.wrap ((BitVec.ofInt k.bits a ^^^ BitVec.ofInt k.bits b).toNat:Int))))
   | .eql=>O2 (.d (.bool (a == b)))
   | .neq=>O2 (.d (.bool (a != b)))
   | .lss=>O2 (.d (.bool (decide (a < b))))
   | .leq=>O2 (.d (.bool (decide (a≤b))))
   | .gtr=>O2 (.d (.bool (decide (a > b))))
   | .geq=>O2 (.d (.bool (decide (a≥b))))
   | _=>none
  else none
def U12 (op:BinOp)(a b:List UInt8):Option (Prop×A):=
 match op with
 | .add=>some (a.length+b.length≤maxLen,.d (.str (a++b)))
 | .eql=>O2 (.d (.bool (a == b)))
 | .neq=>O2 (.d (.bool (!(a == b))))
 | .lss=>O2 (.d (.bool (Op.bytesLess a b)))
 | _=>none
def eqA (u:TU)(x y:A):Option Bool→Option (Prop×A)
 | none=>none
 | some neg=>
  match u,x,y with
  | .bool,.d (.bool a),.d (.bool b)=>O2 (.d (.bool (bif neg then !(a == b) else (a == b))))
  | .ptr _,.d (.nilv .ptr),.d (.nilv .ptr)=>O2 (.d (.bool (!neg)))
  | .ptr _,.ref _ _,.d (.nilv .ptr)=>O2 (.d (.bool neg))
  | .ptr _,.ptr _,.d (.nilv .ptr)=>O2 (.d (.bool neg))
  | .ptr _,.d (.box _),.d (.nilv .ptr)=>O2 (.d (.bool neg))
  | .ptr _,.d (.bxo o),.d (.nilv .ptr)=>O2 (.d (.bool (bif neg then !o.isNone else o.isNone)))
  | .map _ _,.d (.nilv .map),.d (.nilv .map)=>O2 (.d (.bool (!neg)))
  | .map _ _,.mp _,.d (.nilv .map)=>O2 (.d (.bool neg))
  | .func,.d (.nilv .func),.d (.nilv .func)=>O2 (.d (.bool (!neg)))
  | .func,.clo _ _,.d (.nilv .func)=>O2 (.d (.bool neg))
  | _,_,_=>none
def Jz:BinOp→Option Bool
 | .eql=>some false
 | .neq=>some true
 | _=>none
def V12 (T:TT)(op:BinOp)(t:Nat)(x y:A):Option (Prop×A):=
 match x,y with
 | .d (.int k a),.d (.int k' b)=>T12 op k a k' b
 | .d (.str a),.d (.str b)=>U12 op a b
 | x,y=>match G4 T t with | some i=>eqA i.u x y (Jz op) | none=>none
def unA (op:UnOp)(x:A):Option (Prop×A):=
 match op,x with
 | .neg,.d (.int k n)=>O2 (.d (.int k (k.wrap (0 - n))))
 | .not,.d (.bool b)=>O2 (.d (.bool (!b)))
 | _,_=>none
def M15 (T:TT)(s t:Nat)(x:A):Option (Prop×A):=
 match G4 T s,G4 T t,x with
 | some _,some j,.d (.int _ n)=>match j.u with | .int k=>O2 (.d (.int k (k.wrap n))) | _=>none
 | some i,some j,.d (.str s)=>match i.u,j.u with | .str,.str=>O2 (.d (.str s)) | _,_=>none
 | _,_,_=>none
def It (x:A)(n:Nat):Option A:=
 match x with
 | .ref o off=>some (.ref o (off+n))
 | .ptr cells=>some (.ptr (cells.drop n))
 | _=>none
def Jt:A→Option (List (List D))
 | .d (.sl rows)=>some rows
 | .full rows=>some rows
 | .osl _ rows=>some rows
 | _=>none
def lenA (T:TT)(t:Nat)(x:A):Option A:=
 match G4 T t with
 | none=>none
 | some i=>match i.u,x with
  | .str,.d (.str s)=>some (.d (.int .i64 (s.length:Nat)))
  | .arr n _,_=>bif Nat.ble n maxLen then some (.d (.int .i64 (n:Nat))) else none
  | .sl _,.rsl _ _ n _=>some (.d (.int .i64 (n:Nat)))
  | .sl _,x=>match Jt x with | some rows=>some (.d (.int .i64 (rows.length:Nat))) | none=>none
  | .map _ _,.d (.nilv .map)=>some (.d (.int .i64 0))
  | _,_=>none
def Dd:List A→Nat→List A→List A
 | c,0,[]=>c
 | _::c,0,x::xs=>x::Dd c 0 xs
 | c::cs,n+1,xs=>c::Dd cs n xs
 | [],_,_=>[]
def Hj (place:Nat→Option (Nat×Nat))(cells:List A):List (Nat×A)→Option (List A)
 | []=>some cells
 | (i,x)::rest=>
  match place i,O9 x with
  | some (off,size),some xs=>bif Nat.beq xs.length size&&Nat.ble (off+size) cells.length then Hj place (Dd cells off xs) rest else none
  | _,_=>none
def Kz (T:TT)(t:Nat)(parts:List (Nat×A)):Option A:=
 match G4 T t with
 | none=>none
 | some i=>match i.u with
  | .st fs=>(Hj (fun n=>(nth fs n).map fun f=>(f.2.1,f.2.2)) (i.zero.map .d) parts).map .agg
  | .arr _ e=>match G4 T e with
   | some j=>(Hj (fun n=>some (n * j.size,j.size)) (i.zero.map .d) parts).map .agg
   | none=>none
  | _=>none
def Wf (isMax:Bool):A→A→Option A
 | .d (.int k a),.d (.int k' b)=>bif decide (k=k') then some (.d (.int k (bif isMax then max a b else min a b))) else none
 | _,_=>none
def Jq (m:Bool)(x y z u:A):Option A:=
 match Wf m x y with
 | some p=>match Wf m p z with
  | some q=>Wf m q u
  | none=>none
 | none=>none
def W12 (T:TT)(b:Builtin)(ts:List Nat)(xs:List A):Option (Prop×A):=
 match b,ts,xs with
 | .len,[t],[x]=>(lenA T t x).map fun y=>(True,y)
 | .min,_,[x,y]=>(Wf false x y).map fun y=>(True,y)
 | .max,_,[x,y]=>(Wf true x y).map fun y=>(True,y)
 | .min,_,[x,y,z,u]=>(Jq false x y z u).map fun y=>(True,y)
 | .max,_,[x,y,z,u]=>(Jq true x y z u).map fun y=>(True,y)
 | _,_,_=>none
def O16 (T:TT)(len e:Nat)(n:Int)(x:A):Option (Prop×A):=
 match G4 T e with
 | some j=>match It x (n.toNat * j.size) with
  | some p=>bif Nat.ble 2 len then some (0≤n∧n < (len:Int),p) else none
  | none=>none
 | none=>none
def Zu (T:TT)(t:Nat)(x y:A):Option (Prop×A):=
 match G4 T t,y with
 | some i,.d (.int _ n)=>
  match i.u,x with
  | .arr len e,x=>O16 T len e n x
  | .sl e,.rsl o off len _=>match G4 T e with
   | some j=>some (0≤n∧n < (len:Int),.ref o (off+n.toNat * j.size))
   | none=>none
  | _,_=>none
 | _,_=>none
def X12 (T:TT)(t:Nat)(x y:A):Option (Prop×A):=
 match G4 T t,x,y with
 | some i,.agg cs,.d (.int _ n)=>
  match i.u with
  | .arr len e=>match G4 T e with
   | some j=>(Jl j (cs.drop (n.toNat * j.size))).map fun z=>(0≤n∧n < (len:Int),z)
   | none=>none
  | _=>none
 | _,_,_=>none
def opA (T:TT)(GL:GT)(op:Op)(env:Env)(H:I0):Option (Prop×A):=
 match op with
 | .move x | .assign x=>O2 (ev GL env x)
 | .pick c a b=>match ev GL env c with | .d (.bool t)=>O2 (bif t then ev GL env a else ev GL env b) | _=>none
 | .build t parts=>(Kz T t (parts.toList.map fun p=>(p.1,ev GL env p.2))).map fun y=>(True,y)
 | .load t a=>match G4 T t with | some i=>(Lb i (ev GL env a) H).map fun y=>(True,y) | none=>none
 | .nilCheck x=>match ev GL env x with | .ref o off=>O2 (.ref o off) | .ptr cs=>O2 (.ptr cs) | .d (.box cs)=>O2 (.ptr cs) | .clo f cs=>O2 (.clo f cs) | .bnd f cs=>O2 (.bnd f cs) | _=>none
 | .binOp op t x y _=>V12 T op t (ev GL env x) (ev GL env y)
 | .unOp op _ x=>unA op (ev GL env x)
 | .convert s t x=>M15 T s t (ev GL env x)
 | .makeFunc (.func f) first caps=>bif Nat.beq first.size 0 then O2 (.clo f (caps.toList.map (ev GL env))) else bif Nat.beq caps.size 0 then O2 (.bnd f (first.toList.map (ev GL env))) else none
 | .fieldAddr t x f=>match G4 T t with
  | some i=>match i.u with | .st fs=>(match nth fs f with | some g=>(It (ev GL env x) g.2.1).map fun y=>(True,y) | none=>none) | _=>none
  | none=>none
 | .field t x f=>match G4 T t,ev GL env x with
  | some i,.agg cs=>match i.u with
   | .st fs=>(match nth fs f with | some g=>(match G4 T g.1 with | some j=>(Jl j (cs.drop g.2.1)).map fun y=>(True,y) | none=>none) | none=>none)
   | _=>none
  | _,_=>none
 | .indexAddr t x y=>Zu T t (ev GL env x) (ev GL env y)
 | .index t x y=>X12 T t (ev GL env x) (ev GL env y)
 | .extract x n=>match ev GL env x with | .tup xs=>(nth xs n).map fun y=>(True,y) | _=>none
 | .call { callee:=.builtin b,args,argTypes }=>W12 T b argTypes.toList (args.toList.map (ev GL env))
 | _=>none
theorem A18 {k:IntKind}{a b:Int}(ha:InK k a):InK k (a.tmod b):=by
 have h1:(a.tmod b).natAbs≤a.natAbs:=by rw [Int.natAbs_tmod]; exact Nat.mod_le _ _
 have h2:0≤a→0≤a.tmod b:=Int.tmod_nonneg b
 have h3:a≤0→a.tmod b≤0:=fun h=>by
  have h4:(-a).tmod b = -(a.tmod b):=Int.neg_tmod a b
  have h5:0≤(-a).tmod b:=Int.tmod_nonneg b (by omega)
  omega
 have hz:k.min≤0∧0≤k.max:=by cases k <;> decide
 obtain ⟨l,u⟩:=ha
 constructor <;> omega
theorem B18 {k:IntKind}{a:Int}{n:Nat}(ha:InK k a):InK k (a.fdiv (2 ^ n)):=by
 have hp:(0:Int) < 2 ^ n:=by exact_mod_cast Nat.two_pow_pos n
 have hz:k.min≤0∧0≤k.max:=by cases k <;> decide
 have e:a.fdiv (2 ^ n)=a / (2 ^ n):=Int.fdiv_eq_ediv_of_nonneg a (Int.le_of_lt hp)
 rw [e]
 obtain ⟨l,u⟩:=ha
 rcases Int.lt_or_le a 0 with h | h
 ·have h1:a≤a / 2 ^ n:=by
   rw [Int.le_ediv_iff_mul_le hp]
   have:(1:Int)≤2 ^ n:=by omega
   have:=Int.mul_le_mul_of_nonpos_left (Int.le_of_lt h) this
   omega
  have h2:a / 2 ^ n < 0:=Int.ediv_neg_of_neg_of_pos h hp
  constructor <;> omega
 ·have h1:0≤a / 2 ^ n:=Int.ediv_nonneg h (Int.le_of_lt hp)
  have h2:a / 2 ^ n≤a:=Int.ediv_le_self _ h
  constructor <;> omega
section
variable {P:Program}{M:Mem}{G:Nat→Value}{w:World}
def Xf (P:Program)(M:Mem)(G:Nat→Value)(w:World)(s:Sem Value)(x:A):Prop:=∃ v,s.run P w = .ok v w∧O1 M G x v
theorem P16 {op:BinOp}{k k':IntKind}{a b:Int}{c:Prop}{x:A}(ha:InK k a)(h:T12 op k a k' b=some (c,x))(hc:c)(t:Nat) :
  Xf P M G w (binOp op t (.int k a) (.int k' b)) x:=by
 have int:∀ n,InK k n→O1 M G (.d (.int k n)) (.int k n):=fun n h=>.d (.int h)
 unfold T12 at h
 cases op
 case shl=>
  simp only [zqb,zqh] at h
  obtain ⟨rfl,rfl⟩:=h
  refine ⟨.int k (k.wrap (a * 2 ^ (min b.toNat k.bits))),?_,int _ (Pf _ _)⟩
  have:¬ b < 0:=by omega
  simp [binOp,Op.shift,this]
 case shr=>
  simp only [zqb,zqh] at h
  obtain ⟨rfl,rfl⟩:=h
  refine ⟨.int k (a.fdiv (2 ^ (min b.toNat k.bits))),?_,int _ (B18 ha)⟩
  have:¬ b < 0:=by omega
  simp [binOp,Op.shift,this]
 all_goals
  have e:k=k':=by
   cases hk:decide (k=k') with
   | false=>rw [hk] at h; simp at h
   | true=>exact of_decide_eq_true hk
  subst e
  simp only [decide_true,zqk,O2,zqb,zqh,reduceCtorEq] at h
 all_goals obtain ⟨rfl,rfl⟩:=h
 case add=>exact ⟨_,by simp [binOp,Op.intArith],int _ (Pf _ _)⟩
 case sub=>exact ⟨_,by simp [binOp,Op.intArith],int _ (Pf _ _)⟩
 case mul=>exact ⟨_,by simp [binOp,Op.intArith],int _ (Pf _ _)⟩
 case quo=>exact ⟨_,by simp [binOp,Op.intDiv,hc],int _ (Pf _ _)⟩
 case rem=>exact ⟨_,by simp [binOp,Op.intDiv,hc],int _ (A18 ha)⟩
 case and=>exact ⟨_,by simp [binOp,Op.intBits],int _ (Pf _ _)⟩
 case or=>exact ⟨_,by simp [binOp,Op.intBits],int _ (Pf _ _)⟩
 case xor=>exact ⟨_,by simp [binOp,Op.intBits],int _ (Pf _ _)⟩
 all_goals exact ⟨_,by simp [binOp,Op.intCmp],.d .bool⟩
theorem Q16 {op:BinOp}{a b:List UInt8}{c:Prop}{x:A}(h:U12 op a b=some (c,x))(hc:c)(t:Nat) :
  Xf P M G w (binOp op t (.string ⟨a.toArray⟩) (.string ⟨b.toArray⟩)) x:=by
 unfold U12 at h
 cases op <;> simp only [O2,zqb,zqh,reduceCtorEq] at h
 all_goals obtain ⟨rfl,rfl⟩:=h
 case add=>
  refine ⟨.string ⟨(a++b).toArray⟩,?_,.d (.str (by simpa using hc))⟩
  have h1:¬ (((⟨a.toArray⟩:ByteArray).size+(⟨b.toArray⟩:ByteArray).size:Nat):Int) > IntKind.i64.max:=by
   show ¬ ((a.toArray.size+b.toArray.size:Nat):Int) > 9223372036854775807
   simp only [List.size_toArray]
   unfold maxLen at hc
   omega
  simp only [binOp,Op.stringOp,h1,zw,Sem.run_pure]
  congr 2
 case eql=>exact ⟨_,by simp [binOp,Op.stringOp],.d .bool⟩
 case neq=>exact ⟨_,by simp [binOp,Op.stringOp],.d .bool⟩
 case lss=>exact ⟨_,by simp [binOp,Op.stringOp],.d .bool⟩
theorem C18 (t:Nat)(a b:Value):∃ n,Op.equal t a b=Op.equalIn (n+1) t a b:=⟨9999,rfl⟩
theorem He {t:Nat}{i:TI}(f:La P t i):∃ d,P.underlying t=some d∧uB P (some d) i.u=true:=by
 have hu:=f.u
 cases hd:P.underlying t with
 | none=>rw [hd] at hu; simp [uB] at hu
 | some d=>rw [hd] at hu; exact ⟨d,rfl,hu⟩
theorem N15 {t:Nat}{i:TI}(f:La P t i)(h:i.u = .bool):P.underlying t=some .bool:=by
 obtain ⟨d,hd,hu⟩:=He f
 rw [h] at hu
 cases d <;> simp [uB] at hu
 exact hd
theorem Fo {t:Nat}{i:TI}(f:La P t i)(h:i.u = .str):P.underlying t=some .string:=by
 obtain ⟨d,hd,hu⟩:=He f
 rw [h] at hu
 cases d <;> simp [uB] at hu
 exact hd
theorem R16 {t:Nat}{i:TI}{k:IntKind}(f:La P t i)(h:i.u = .int k):P.underlying t=some (.int k):=by
 obtain ⟨d,hd,hu⟩:=He f
 rw [h] at hu
 cases d <;> simp [uB] at hu
 subst hu
 exact hd
theorem Ho {t:Nat}{i:TI}{e:Nat}(f:La P t i)(h:i.u = .ptr e):P.underlying t=some (.pointer e):=by
 obtain ⟨d,hd,hu⟩:=He f
 rw [h] at hu
 cases d <;> simp [uB] at hu
 subst hu
 exact hd
theorem Wm {t:Nat}{i:TI}{e:Nat}(f:La P t i)(h:i.u = .sl e):P.underlying t=some (.slice e):=by
 obtain ⟨d,hd,hu⟩:=He f
 rw [h] at hu
 cases d <;> simp [uB] at hu
 subst hu
 exact hd
theorem As {t:Nat}{i:TI}{n e:Nat}(f:La P t i)(h:i.u = .arr n e):P.underlying t=some (.array n e):=by
 obtain ⟨d,hd,hu⟩:=He f
 rw [h] at hu
 cases d <;> simp [uB] at hu
 obtain ⟨rfl,rfl⟩:=hu
 exact hd
theorem Mw {t:Nat}{i:TI}{k e:Nat}(f:La P t i)(h:i.u = .map k e):P.underlying t=some (.map k e):=by
 obtain ⟨d,hd,hu⟩:=He f
 rw [h] at hu
 cases d <;> simp [uB] at hu
 obtain ⟨rfl,rfl⟩:=hu
 exact hd
theorem Lz {t:Nat}{i:TI}(f:La P t i)(h:i.u = .func):∃ a b c,P.underlying t=some (.func a b c):=by
 obtain ⟨d,hd,hu⟩:=He f
 rw [h] at hu
 cases d <;> simp [uB] at hu
 exact ⟨_,_,_,hd⟩
theorem Qy:∀ {fs:List Field} {gs:List (Nat×Nat×Nat)},fsB P fs gs=true→∀ (n:Nat) g,gs[n]?=some g→∃ f,fs[n]?=some f∧f.type=g.1∧f.offset=g.2.1∧P.cellsOf g.1=g.2.2∧1≤g.2.2∧(P.info? g.1).isSome=true
 | [],[],_=>fun n g h=>by simp at h
 | f::fs,(t,o,s)::r,h=>fun n g hg=>by
  simp only [fsB,zqi] at h
  obtain ⟨⟨⟨⟨⟨h1,h2⟩,h3⟩,h4⟩,h5⟩,h6⟩:=h
  cases n with
  | zero=>
   simp at hg; subst hg
   exact ⟨f,rfl,zqo h1,zqo h2,zqo h3,Nat.le_of_ble_eq_true h4,h5⟩
  | succ n=>simpa using Qy h6 n g (by simpa using hg)
 | [],_::_,h=>by simp [fsB] at h
 | _::_,[],h=>by simp [fsB] at h
theorem Ry {t:Nat}{i:TI}{gs:List (Nat×Nat×Nat)}(f:La P t i)(h:i.u = .st gs):∃ fs,P.underlying t=some (.struct fs)∧
  ∀ (n:Nat) g,gs[n]?=some g→∃ f,fs[n]?=some f∧f.type=g.1∧f.offset=g.2.1∧P.cellsOf g.1=g.2.2∧1≤g.2.2∧(P.info? g.1).isSome=true:=by
 obtain ⟨d,hd,hu⟩:=He f
 rw [h] at hu
 cases d <;> simp only [uB,zqa] at hu
 rename_i fs
 exact ⟨fs,hd,fun n g hg=>by simpa using Qy hu n g hg⟩
theorem O15 {op:BinOp}{neg:Bool}(h:Jz op=some neg):op = .eql∧neg=false∨op = .neq∧neg=true:=by
 cases op <;> simp [Jz] at h
 ·exact .inl ⟨rfl,h⟩
 ·exact .inr ⟨rfl,h⟩
theorem Yf {op:BinOp}{t:Nat}{a b:Value}{neg:Bool}(hop:op = .eql∧neg=false∨op = .neq∧neg=true)(r:Bool)(he:∀ n,(Op.equalIn (n+1) t a b).run P w = .ok r w)
  (h1:binOp .eql t a b=(do pure (.bool (← Op.equal t a b)))) (h2:binOp .neq t a b=(do pure (.bool (!(← Op.equal t a b))))):Xf P M G w (binOp op t a b) (.d (.bool (bif neg then !r else r))):=by
 obtain ⟨n,e⟩:=C18 t a b
 rcases hop with ⟨rfl,rfl⟩ | ⟨rfl,rfl⟩
 ·exact ⟨.bool r,by simp [h1,e,he],.d .bool⟩
 ·exact ⟨.bool (!r),by simp [h2,e,he],.d .bool⟩
theorem S19 {T:TT}(hT:TOk P T){op:BinOp}{t:Nat}{i:TI}(ht:G4 T t=some i){x y:A}{a b:Value}(hx:O1 M G x a)(hy:O1 M G y b){c:Prop}{z:A}
  (h:eqA i.u x y (Jz op)=some (c,z)):Xf P M G w (binOp op t a b) z:=by
 have f:=hT.facts ht
 cases hn:Jz op with
 | none=>rw [hn] at h; simp [eqA] at h
 | some neg=>
  rw [hn] at h
  have hop:=O15 hn
  unfold eqA at h
  simp only at h
  split at h
  ·rename_i hu
   have hd:=N15 f hu
   cases hx; cases hy
   rename_i hx hy
   cases hx; cases hy
   simp only [O2,zqb,zqh] at h
   obtain ⟨_,rfl⟩:=h
   exact Yf hop _ (fun n=>by simp [Op.equalIn,run_underlying hd]) rfl rfl
  ·rename_i hu
   have hd:=Ho f hu
   cases hx; cases hy
   rename_i hx hy
   cases hx; cases hy
   simp only [O2,zqb,zqh] at h
   obtain ⟨_,rfl⟩:=h
   have:=Yf (P:=P) (M:=M) (G:=G) (w:=w) hop true (t:=t) (a:=.pointer none) (b:=.pointer none) (fun n=>by simp [Op.equalIn,run_underlying hd]) rfl rfl
   cases neg <;> exact this
  ·rename_i hu
   have hd:=Ho f hu
   cases hx; cases hy
   rename_i hb hy
   cases hy
   simp only [O2,zqb,zqh] at h
   obtain ⟨_,rfl⟩:=h
   have:=fun (A:Addr)=>Yf (P:=P) (M:=M) (G:=G) (w:=w) hop false (t:=t) (a:=.pointer (some A)) (b:=.pointer none) (fun n=>by simp [Op.equalIn,run_underlying hd]) rfl rfl
   cases neg <;> exact this _
  ·rename_i hu
   have hd:=Ho f hu
   cases hx; cases hy
   rename_i a _ _ _ _ hy
   cases hy
   simp only [O2,zqb,zqh] at h
   obtain ⟨_,rfl⟩:=h
   have:=Yf (P:=P) (M:=M) (G:=G) (w:=w) hop false (t:=t) (a:=.pointer (some a)) (b:=.pointer none) (fun n=>by simp [Op.equalIn,run_underlying hd]) rfl rfl
   cases neg <;> exact this
  ·rename_i hu
   have hd:=Ho f hu
   cases hx; cases hy
   rename_i hx hy
   cases hx; cases hy
   simp only [O2,zqb,zqh] at h
   obtain ⟨_,rfl⟩:=h
   have:=fun (A:Addr)=>Yf (P:=P) (M:=M) (G:=G) (w:=w) hop false (t:=t) (a:=.pointer (some A)) (b:=.pointer none) (fun n=>by simp [Op.equalIn,run_underlying hd]) rfl rfl
   cases neg <;> exact this _
  ·rename_i hu
   have hd:=Ho f hu
   cases hx; cases hy
   rename_i hx hy
   cases hy
   simp only [O2,zqb,zqh] at h
   obtain ⟨_,rfl⟩:=h
   cases hx with
   | bxnil=>
    have:=Yf (P:=P) (M:=M) (G:=G) (w:=w) hop true (t:=t) (a:=.pointer none) (b:=.pointer none) (fun n=>by simp [Op.equalIn,run_underlying hd]) rfl rfl
    cases neg <;> exact this
   | bxs _ _ _ _=>
    have:=fun (A:Addr)=>Yf (P:=P) (M:=M) (G:=G) (w:=w) hop false (t:=t) (a:=.pointer (some A)) (b:=.pointer none) (fun n=>by simp [Op.equalIn,run_underlying hd]) rfl rfl
    cases neg <;> exact this _
  ·rename_i hu
   have hd:=Mw f hu
   cases hx; cases hy
   rename_i hx hy
   cases hx; cases hy
   simp only [O2,zqb,zqh] at h
   obtain ⟨_,rfl⟩:=h
   have:=Yf (P:=P) (M:=M) (G:=G) (w:=w) hop true (t:=t) (a:=.map none) (b:=.map none) (fun n=>by simp [Op.equalIn,run_underlying hd]) rfl rfl
   cases neg <;> exact this
  ·rename_i hu
   have hd:=Mw f hu
   cases hx; cases hy
   rename_i b hb hy
   cases hy
   simp only [O2,zqb,zqh] at h
   obtain ⟨_,rfl⟩:=h
   have:=Yf (P:=P) (M:=M) (G:=G) (w:=w) hop false (t:=t) (a:=.map (some b)) (b:=.map none) (fun n=>by simp [Op.equalIn,run_underlying hd]) rfl rfl
   cases neg <;> exact this
  ·rename_i hu
   obtain ⟨_,_,_,hd⟩:=Lz f hu
   cases hx; cases hy
   rename_i hx hy
   cases hx; cases hy
   simp only [O2,zqb,zqh] at h
   obtain ⟨_,rfl⟩:=h
   have:=Yf (P:=P) (M:=M) (G:=G) (w:=w) hop true (t:=t) (a:=.nilFunc) (b:=.nilFunc) (fun n=>by simp [Op.equalIn,run_underlying hd]) rfl rfl
   cases neg <;> exact this
  ·rename_i hu
   obtain ⟨_,_,_,hd⟩:=Lz f hu
   cases hx; cases hy
   rename_i vs hl hr hy
   cases hy
   simp only [O2,zqb,zqh] at h
   obtain ⟨_,rfl⟩:=h
   have:=fun (g:FuncId)=>Yf (P:=P) (M:=M) (G:=G) (w:=w) hop false (t:=t) (a:=.func (.func g) #[] vs) (b:=.nilFunc) (fun n=>by simp [Op.equalIn,run_underlying hd]) rfl rfl
   cases neg <;> exact this _
  ·cases h
theorem D19 {T:TT}(hT:TOk P T){op:BinOp}{t:Nat}{x y:A}{a b:Value}(hx:O1 M G x a)(hy:O1 M G y b){c:Prop}{z:A}
  (h:V12 T op t x y=some (c,z)) (hc:c):Xf P M G w (binOp op t a b) z:=by
 unfold V12 at h
 split at h
 ·cases hx; cases hy
  rename_i hx hy
  cases hx; cases hy
  rename_i hk _
  exact P16 hk h hc t
 ·cases hx; cases hy
  rename_i hx hy
  cases hx; cases hy
  exact Q16 h hc t
 ·split at h
  ·rename_i i ht
   exact S19 hT ht hx hy h
  ·cases h
theorem P15 {op:BinOp}{t:Nat}{X Y:Operand}{a b:Value}(h1:a≠.nilIface)(h2:∀ u,a≠.agg u):(eqGuard op t X Y a b).run P w = .ok () w:=by
 cases a <;> first | (exact absurd rfl h1) | (exact absurd rfl (h2 _)) | (cases op <;> simp [eqGuard])
theorem D18 {T:TT}{op:BinOp}{t:Nat}{x y:A}{X Y:Operand}{a b:Value}(hx:O1 M G x a){c:Prop}{z:A}(h:V12 T op t x y=some (c,z)) :
  (eqGuard op t X Y a b).run P w = .ok () w:=by
 have:a≠.nilIface∧∀ u,a≠.agg u:=by
  unfold V12 at h
  split at h
  ·cases hx; rename_i hx; cases hx; simp
  ·cases hx; rename_i hx; cases hx; simp
  ·split at h
   ·unfold eqA at h
    split at h
    ·cases h
    ·split at h
     all_goals first | (cases h; done) | (cases hx; first | (rename_i hx; cases hx <;> simp; done) | (simp; done))
   ·cases h
 exact P15 this.1 this.2
theorem Ah {s:Sem Value}{x:A}(h:Xf P M G w s x):∃ v,(do pure (Next.value (← s))).run P w = .ok (.value v) w∧O1 M G x v:=by
 obtain ⟨v,h1,h2⟩:=h
 exact ⟨v,by simp [h1],h2⟩
theorem S11 {x y:A}{n:Nat}{v:Value}(h:It x n=some y)(hx:O1 M G x v):∃ a,v = .pointer (some a)∧a.spot=none∧O1 M G y (.pointer (some (a.add n))):=by
 unfold It at h
 split at h
 ·cases hx
  rename_i b hb
  simp only [zqb] at h
  subst h
  refine ⟨_,rfl,rfl,?_⟩
  rw [Bc]
  exact .ref hb
 ·rename_i cells
  cases hx
  rename_i a A2 hs h1 h2
  simp only [zqb] at h
  subst h
  refine ⟨a,rfl,hs,.ptr (fun j=>A2 (n+j)) ?_ (fun j x hj=>?_) fun j x hj=>?_⟩
  ·rw [Rv hs]
  ·rw [Lw]
   rw [List.getElem?_drop] at hj
   exact h1 _ x hj
  ·rw [List.getElem?_drop] at hj
   exact h2 _ x hj
 ·cases h
theorem T19 {op:UnOp}{x z:A}{v:Value}{c:Prop}(hx:O1 M G x v)(h:unA op x=some (c,z)):Xf P M G w (Op.unary op v) z:=by
 unfold unA at h
 split at h
 ·cases hx; rename_i hx; cases hx
  simp only [O2,zqb,zqh] at h
  obtain ⟨_,rfl⟩:=h
  exact ⟨_,by simp [Op.unary,Op.intArith],.d (.int (Pf _ _))⟩
 ·cases hx; rename_i hx; cases hx
  simp only [O2,zqb,zqh] at h
  obtain ⟨_,rfl⟩:=h
  exact ⟨_,by simp [Op.unary],.d .bool⟩
 ·cases h
theorem E18 {T:TT}(hT:TOk P T){s t:Nat}{x z:A}{v:Value}{c:Prop}(hx:O1 M G x v)(h:M15 T s t x=some (c,z)):Xf P M G w (convert s t v) z:=by
 unfold M15 at h
 split at h
 ·rename_i i j k n hs ht
  obtain ⟨ds,hds,_⟩:=He (hT.facts hs)
  split at h
  ·rename_i k' hu
   have hd:=R16 (hT.facts ht) hu
   cases hx; rename_i hx; cases hx
   simp only [O2,zqb,zqh] at h
   obtain ⟨_,rfl⟩:=h
   refine ⟨.int k' (k'.wrap n),?_,.d (.int (Pf _ _))⟩
   simp [convert,run_underlying hds,run_underlying hd,Conv.intToInt]
  ·cases h
 ·rename_i i j b hs ht
  split at h
  ·rename_i hu hu'
   have hd:=Fo (hT.facts hs) hu
   have hd':=Fo (hT.facts ht) hu'
   cases hx; rename_i hx
   simp only [O2,zqb,zqh] at h
   obtain ⟨_,rfl⟩:=h
   refine ⟨_,?_,.d hx⟩
   cases hx
   simp [convert,run_underlying hd,run_underlying hd']
  ·cases h
 ·cases h
theorem Ij {x:A}{v:Value}{rows:List Row}(h:Jt x=some rows)(hx:O1 M G x v):O4 M (.sl rows) v:=by
 unfold Jt at h
 split at h
 ·cases hx; simp only [zqb] at h; subst h; assumption
 ·cases hx; simp only [zqb] at h; subst h; assumption
 ·cases hx; simp only [zqb] at h; subst h; assumption
 ·cases h
theorem Rx {n:Nat}(h:n≤maxLen):InK .i64 (n:Int):=by rw [Qx]; unfold maxLen at h; omega
theorem S16 {rows:List Row}{v:Value}(h:O4 M (.sl rows) v):∃ a cap,v = .slice a rows.length cap∧rows.length≤maxLen:=by
 cases h with
 | slnil=>exact ⟨none,0,rfl,Nat.zero_le _⟩
 | sl sz A2 hl hc hm hs hz h1 h2=>subst hl; exact ⟨_,_,rfl,Nat.le_trans hc hm⟩
theorem Df (s:List UInt8):(⟨s.toArray⟩:ByteArray).size=s.length:=by show s.toArray.size=_; simp
theorem E19 {T:TT}(hT:TOk P T){t ty:Nat}{x z:A}{v:Value}(hx:O1 M G x v)(h:lenA T t x=some z):Xf P M G w (Builtin.len_ #[t] ty #[v]) z:=by
 unfold lenA at h
 split at h
 ·cases h
 ·rename_i i ht
  have f:=hT.facts ht
  split at h
  ·rename_i hu
   have hd:=Fo f hu
   cases hx; rename_i hx; cases hx
   rename_i s hl
   simp only [zqb] at h; subst h
   exact ⟨.int .i64 s.length,by simp [Builtin.len_,run_underlying hd,goInt,Df],.d (.int (Rx hl))⟩
  ·rename_i n e hu
   have hd:=As f hu
   cases hb:Nat.ble n maxLen with
   | false=>rw [hb] at h; cases h
   | true=>
    rw [hb] at h
    simp only [zqk,zqb] at h; subst h
    exact ⟨.int .i64 n,by simp [Builtin.len_,run_underlying hd,goInt],.d (.int (Rx (Nat.le_of_ble_eq_true hb)))⟩
  ·rename_i hu
   have hd:=Wm f hu
   cases hx
   rename_i hc hm _
   simp only [zqb] at h; subst h
   exact ⟨_,by simp [Builtin.len_,run_underlying hd,goInt],.d (.int (Rx (Nat.le_trans (by assumption) (by assumption))))⟩
  ·rename_i hu _
   have hd:=Wm f hu
   split at h
   ·rename_i rows hr
    obtain ⟨a,cap,rfl,hl⟩:=S16 (Ij hr hx)
    simp only [zqb] at h; subst h
    exact ⟨.int .i64 rows.length,by simp [Builtin.len_,run_underlying hd,goInt],.d (.int (Rx hl))⟩
   ·cases h
  ·rename_i hu
   have hd:=Mw f hu
   cases hx; rename_i hx; cases hx
   simp only [zqb] at h; subst h
   exact ⟨.int .i64 0,by simp [Builtin.len_,run_underlying hd,goInt],.d (.int (by decide))⟩
  ·cases h
theorem Av {m:Bool}{x y z:A}{a b:Value}(hx:O1 M G x a)(hy:O1 M G y b)(h:Wf m x y=some z):Xf P M G w (bif m then Builtin.max2 a b else Builtin.min2 a b) z:=by
 unfold Wf at h
 split at h
 ·rename_i k n k' n'
  cases hx; cases hy
  rename_i hx hy
  cases hx; cases hy
  rename_i hk hk'
  have e:k=k':=by
   cases hq:decide (k=k') with
   | false=>rw [hq] at h; cases h
   | true=>exact of_decide_eq_true hq
  subst e
  simp only [decide_true,zqk,zqb] at h
  subst h
  cases m
  ·refine ⟨.int k (min n n'),?_,.d (.int ?_)⟩
   ·simp only [zql,Builtin.min2]
    have:(if n' < n then n' else n)=min n n':=by rw [Int.min_def]; split <;> split <;> omega
    simp [this]
   ·simp only [zql,Int.min_def]; split <;> assumption
  ·refine ⟨.int k (max n n'),?_,.d (.int ?_)⟩
   ·simp only [zqk,Builtin.max2]
    have:(if n' > n then n' else n)=max n n':=by rw [Int.max_def]; split <;> split <;> omega
    simp [this]
   ·simp only [zqk,Int.max_def]; split <;> assumption
 ·cases h
theorem Mz {m:Bool}{x y z u r:A}{a b c d:Value}(hx:O1 M G x a)(hy:O1 M G y b)(hz:O1 M G z c)(hu:O1 M G u d)(h:Jq m x y z u=some r)(ts:Array TypeId)(t:Nat) :
  Xf P M G w (bif m then Builtin.max_ ts t #[a,b,c,d] else Builtin.min_ ts t #[a,b,c,d]) r:=by
 unfold Jq at h
 split at h
 ·rename_i p hp
  split at h
  ·rename_i q hq
   obtain ⟨v1,g1,k1⟩:=Av (P:=P) (w:=w) hx hy hp
   obtain ⟨v2,g2,k2⟩:=Av (P:=P) (w:=w) k1 hz hq
   obtain ⟨v3,g3,k3⟩:=Av (P:=P) (w:=w) k2 hu h
   refine ⟨v3,?_,k3⟩
   cases m <;> simp only [zqk,zql] at g1 g2 g3 ⊢
   ·simp [Builtin.min_,g1,g2,g3]
   ·simp [Builtin.max_,g1,g2,g3]
  ·cases h
 ·cases h
theorem Nz {m:Bool}{x y z:A}{a b:Value}(hx:O1 M G x a)(hy:O1 M G y b)(h:Wf m x y=some z)(ts:Array TypeId)(t:Nat) :
  Xf P M G w (bif m then Builtin.max_ ts t #[a,b] else Builtin.min_ ts t #[a,b]) z:=by
 unfold Wf at h
 split at h
 ·rename_i k n k' n'
  cases hx; cases hy
  rename_i hx hy
  cases hx; cases hy
  rename_i hk hk'
  have e:k=k':=by
   cases hq:decide (k=k') with
   | false=>rw [hq] at h; cases h
   | true=>exact of_decide_eq_true hq
  subst e
  simp only [decide_true,zqk,zqb] at h
  subst h
  cases m
  ·refine ⟨.int k (min n n'),?_,.d (.int ?_)⟩
   ·simp only [zql,Builtin.min_,List.foldlM_cons,List.foldlM_nil,Builtin.min2]
    have:(if n' < n then n' else n)=min n n':=by rw [Int.min_def]; split <;> split <;> omega
    simp [this]
   ·simp only [zql,Int.min_def]; split <;> assumption
  ·refine ⟨.int k (max n n'),?_,.d (.int ?_)⟩
   ·simp only [zqk,Builtin.max_,List.foldlM_cons,List.foldlM_nil,Builtin.max2]
    have:(if n' > n then n' else n)=max n n':=by rw [Int.max_def]; split <;> split <;> omega
    simp [this]
   ·simp only [zqk,Int.max_def]; split <;> assumption
 ·cases h
end
section
variable {P:Program}{M:Mem}{G:Nat→Value}{w:World}
theorem Io:∀ (c:List A) (n:Nat) (xs:List A),(Dd c n xs).length=c.length
 | [],_,_=>by cases ‹Nat› <;> cases ‹List A› <;> rfl
 | _::_,0,[]=>rfl
 | _::c,0,x::xs=>by simp [Dd,Io c 0 xs]
 | _::cs,n+1,xs=>by simp [Dd,Io cs n xs]
theorem Jo:∀ (c:List A) (n:Nat) (xs:List A) (i:Nat),n+xs.length≤c.length→(Dd c n xs)[i]?=if n≤i∧i < n+xs.length then xs[i - n]? else c[i]?
 | [],0,[],i,_=>by simp [Dd]
 | [],n+1,[],i,_=>by simp [Dd]
 | [],n,x::xs,i,h=>by simp at h
 | c::cs,0,[],i,_=>by simp [Dd]
 | c::cs,0,x::xs,i,h=>by
  cases i with
  | zero=>simp [Dd]
  | succ i=>
   simp only [Dd,List.getElem?_cons_succ]
   rw [Jo cs 0 xs i (by simp at h ⊢; omega)]
   simp only [Nat.zero_le,true_and,zqd,Nat.zero_add,Nat.sub_zero,List.getElem?_cons_succ]
   by_cases hlt:i < xs.length
   ·rw [zp hlt,zp (by omega)]
   ·rw [zn hlt,zn (by omega)]
 | c::cs,n+1,xs,i,h=>by
  cases i with
  | zero=>simp [Dd]
  | succ i=>
   simp only [Dd,List.getElem?_cons_succ]
   rw [Jo cs n xs i (by simp at h; omega)]
   by_cases hlt:n≤i∧i < n+xs.length
   ·rw [zp hlt,zp (by omega)]; congr 1; omega
   ·rw [zn hlt,zn (by omega)]
def Qf (M:Mem)(G:Nat→Value)(cs:List A)(vs:Array Value):Prop:=
 cs.length=vs.size∧(∀ (i:Nat) v,vs[i]?=some v→v.oneCell'=true)∧∀ (i:Nat) x v,cs[i]?=some x→vs[i]?=some v→O1 M G x v
theorem Kt (off:Nat):∀ (vs:List Value) (j:Nat) (cs:Array Value),off+j+vs.length≤cs.size→
  ((vs.zipIdx j).foldl (fun cs (p:Value×Nat)=>cs.setIfInBounds (off+p.2) p.1) cs).size=cs.size∧
  ∀ i:Nat,((vs.zipIdx j).foldl (fun cs (p:Value×Nat)=>cs.setIfInBounds (off+p.2) p.1) cs)[i]?=if off+j≤i∧i < off+j+vs.length then vs[i - (off+j)]? else cs[i]?
 | [],j,cs,_=>⟨rfl,fun i=>by simp; intro h h'; omega⟩
 | v::vs,j,cs,h=>by
  simp only [zqd] at h
  obtain ⟨h1,h2⟩:=Kt off vs (j+1) (cs.setIfInBounds (off+j) v) (by simp; omega)
  simp only [List.zipIdx_cons,List.foldl_cons]
  refine ⟨by rw [h1]; simp,fun i=>?_⟩
  rw [h2 i]
  simp only [zqd]
  by_cases hi:off+(j+1)≤i∧i < off+(j+1)+vs.length
  ·rw [zp hi,zp (by omega),show i - (off+j)=(i - (off+(j+1)))+1 by omega,List.getElem?_cons_succ]
  ·rw [zn hi]
   by_cases he:i=off+j
   ·subst he
    rw [zp (by omega),Nat.sub_self,List.getElem?_cons_zero,Array.getElem?_setIfInBounds_self,zp (by omega)]
   ·rw [zn (by omega),Array.getElem?_setIfInBounds_ne (Ne.symm he)]
theorem Mq {place:Nat→Option (Nat×Nat)}:∀ {parts:List (Nat×A)} {A2:List (Nat×Value)} {cs:List A} {vs:Array Value} {out:List A},Qf M G cs vs→parts.length=A2.length→
  (∀ (i:Nat) p q,parts[i]?=some p→A2[i]?=some q→p.1=q.1∧O1 M G p.2 q.2)→Hj place cs parts=some out→∃ ws,Instr.fill place vs A2=some ws∧Qf M G out ws
 | [],[],cs,vs,out,hc,_,_,h=>by simp only [Hj,zqb] at h; subst h; exact ⟨vs,rfl,hc⟩
 | [],_::_,_,_,_,_,hl,_,_=>by simp at hl
 | _::_,[],_,_,_,_,hl,_,_=>by simp at hl
 | (n,x)::parts,(m,v)::A2,cs,vs,out,hc,hl,hp,h=>by
  obtain ⟨e,hx⟩:=hp 0 _ _ rfl rfl
  simp only at e hx
  subst e
  simp only [Hj] at h
  split at h
  ·rename_i off size xs hpl hxs
   obtain ⟨a1,a2,a3⟩:=Bq hx hxs
   cases hb:Nat.beq xs.length size&&Nat.ble (off+size) cs.length with
   | false=>rw [hb] at h; cases h
   | true=>
    rw [hb] at h
    simp only [zqk] at h
    simp only [zqi] at hb
    have e1:=zqo hb.1
    have e2:=Nat.le_of_ble_eq_true hb.2
    obtain ⟨c1,c2,c3⟩:=hc
    have hsz:v.cells.toList.length=xs.length:=by simp [a1]
    obtain ⟨f1,f2⟩:=Kt off v.cells.toList 0 vs (by rw [hsz]; omega)
    have hz:v.cells.zipIdx.foldl (fun cs (x:Value×Nat)=>cs.setIfInBounds (off+x.2) x.1) vs=(v.cells.toList.zipIdx 0).foldl (fun cs (p:Value×Nat)=>cs.setIfInBounds (off+p.2) p.1) vs:=by
     rw [← Array.foldl_toList,Array.toList_zipIdx]
    have hc':Qf M G (Dd cs off xs) (v.cells.zipIdx.foldl (fun cs (x:Value×Nat)=>cs.setIfInBounds (off+x.2) x.1) vs):=by
     rw [hz]
     refine ⟨by rw [Io,f1]; exact c1,fun i u hu=>?_,fun i y u hy hu=>?_⟩
     ·rw [f2 i] at hu
      split at hu
      ·exact a2 _ u (by simpa using hu)
      ·exact c2 i u hu
     ·rw [f2 i] at hu
      rw [Jo cs off xs i (by omega)] at hy
      rw [hsz] at hu
      by_cases hi:off≤i∧i < off+xs.length
      ·rw [zp hi] at hy
       rw [zp (by omega)] at hu
       exact a3 _ y u hy (by simpa using hu)
      ·rw [zn hi] at hy
       rw [zn (by omega)] at hu
       exact c3 i y u hy hu
    obtain ⟨ws,g1,g2⟩:=Mq hc' (by simpa using hl) (fun i p q hp' hq=>hp (i+1) p q hp' hq) h
    refine ⟨ws,?_,g2⟩
    simp only [Instr.fill,hpl]
    rw [zn (by simp [a1,e1]; omega)]
    exact g1
  ·cases h
theorem Bv {T:TT}(hT:TOk P T){t:Nat}{i:TI}(ht:G4 T t=some i):∃ z,(∀ w,(zeroValue t).run P w = .ok z w)∧Qf M G (i.zero.map .d) z.cells∧(if i.u.agg then ∃ cs,z = .agg cs else z.cells = #[z]):=by
 obtain ⟨j,h1,h2,h3,z,h4,h5,h6,h7⟩:=(hT.facts ht).info
 refine ⟨z,fun w=>by simp [zeroValue,typeInfo,h1,h4],⟨by simpa using h5.symm,fun n v hv=>?_,fun n x v hx hv=>?_⟩,h7⟩
 ·have hlt:n < i.zero.length:=by rw [← h5]; simpa using (Array.getElem?_eq_some_iff.1 hv).1
  exact (Aq (h6 n v _ hv (zqv hlt)) M).one
 ·rw [List.getElem?_map] at hx
  cases hz:i.zero[n]? with
  | none=>rw [hz] at hx; cases hx
  | some y=>
   rw [hz] at hx
   simp only [zqt,zqb] at hx
   subst hx
   exact .d (Aq (h6 n v y hv hz) M)
theorem T11 {P:Program}:∀ {fs:List Field} {gs:List (Nat×Nat×Nat)},fsB P fs gs=true→∀ (n:Nat) f,fs[n]?=some f→∃ g,gs[n]?=some g
 | [],[],_=>fun n g h=>by simp at h
 | f::fs,(t,o,s)::r,h=>fun n g hg=>by
  simp only [fsB,zqi] at h
  cases n with
  | zero=>exact ⟨_,rfl⟩
  | succ n=>simpa using T11 h.2 n g (by simpa using hg)
 | [],_::_,h=>by simp [fsB] at h
 | _::_,[],h=>by simp [fsB] at h
theorem U11 {t:Nat}{i:TI}{gs:List (Nat×Nat×Nat)}(f:La P t i)(h:i.u = .st gs):∃ fs,P.underlying t=some (.struct fs)∧
  (∀ (n:Nat) g,gs[n]?=some g→∃ f,fs[n]?=some f∧f.type=g.1∧f.offset=g.2.1∧P.cellsOf g.1=g.2.2∧1≤g.2.2∧(P.info? g.1).isSome=true)∧∀ (n:Nat) f,fs[n]?=some f→∃ g,gs[n]?=some g:=by
 obtain ⟨d,hd,hu⟩:=He f
 rw [h] at hu
 cases d <;> simp only [uB,zqa] at hu
 rename_i fs
 exact ⟨fs,hd,fun n g hg=>by simpa using Qy hu n g hg,fun n f hn=>T11 hu n f (by simpa using hn)⟩
theorem Bs (w:World):∀ (fs:List Field),(∀ (n:Nat) f,fs[n]?=some f→(P.info? f.type).isSome=true)→
  (fs.mapM fun f=>do pure (f.offset,← sizeOf f.type):Sem (List (Nat×Nat))).run P w = .ok (fs.map fun f=>(f.offset,P.cellsOf f.type)) w
 | [],_=>rfl
 | f::fs,h=>by
  have h0:=h 0 f rfl
  obtain ⟨i,hi⟩:=Option.isSome_iff_exists.1 h0
  have ih:=Bs w fs (fun n g hg=>h (n+1) g (by simpa using hg))
  have hs:(sizeOf f.type).run P w = .ok (P.cellsOf f.type) w:=by simp [sizeOf,typeInfo,hi,Program.cellsOf]
  rw [List.mapM_cons]
  simp only [Sem.run_bind,hs,Result.andThen_ok,Sem.run_pure,ih,List.map_cons]
theorem Oz (w:World)(flds:Array Field)(h:∀ (n:Nat) f,flds[n]?=some f→(P.info? f.type).isSome=true) :
  ∃ places:Array (Nat×Nat),(flds.mapM fun f=>do pure (f.offset,← sizeOf f.type):Sem (Array (Nat×Nat))).run P w = .ok places w∧∀ n:Nat,places[n]?=(flds[n]?).map fun f=>(f.offset,P.cellsOf f.type):=by
 have hl:=Bs (P:=P) w flds.toList (fun n f hn=>h n f (by simpa using hn))
 refine ⟨(flds.toList.map fun f=>(f.offset,P.cellsOf f.type)).toArray,?_,fun n=>by simp⟩
 rw [Array.mapM_eq_mapM_toList]
 simp only [Sem.run_map,hl,Result.andThen_ok]
theorem T16 {T:TT}(hT:TOk P T){t:Nat}{parts:List (Nat×A)}{A2:Array (Nat×Value)}(hl:parts.length=A2.size)
  (hp:∀ (i:Nat) p q,parts[i]?=some p→A2[i]?=some q→p.1=q.1∧O1 M G p.2 q.2) {z:A} (h:Kz T t parts=some z):Xf P M G w (Instr.build t A2) z:=by
 unfold Kz at h
 split at h
 ·cases h
 ·rename_i i ht
  have f:=hT.facts ht
  obtain ⟨zv,hz1,hz2,hz3⟩:=Bv (M:=M) (G:=G) hT ht
  split at h
  ·rename_i fs hu
   obtain ⟨flds,hd,hf,hfl⟩:=U11 f hu
   cases ho:Hj (fun n=>(nth fs n).map fun f=>(f.2.1,f.2.2)) (i.zero.map .d) parts with
   | none=>rw [ho] at h; cases h
   | some out=>
    rw [ho] at h
    simp only [zqt,zqb] at h
    subst h
    obtain ⟨places,hp1,hp2⟩:=Oz (P:=P) w flds (fun n f hn=>by
     obtain ⟨g,hg⟩:=hfl n f hn
     obtain ⟨f',e1,e2,_,_,_,e6⟩:=hf n g hg
     rw [hn] at e1
     cases e1
     rw [e2]; exact e6)
    have hsame:∀ n,places[n]?=((nth fs n).map fun f=>(f.2.1,f.2.2)):=fun n=>by
     rw [S3,hp2 n]
     cases hn:fs[n]? with
     | none=>
      have:flds[n]?=none:=by
       cases hfn:flds[n]? with
       | none=>rfl
       | some f=>obtain ⟨g,hg⟩:=hfl n f hfn; rw [hg] at hn; cases hn
      rw [this]; rfl
     | some g=>
      obtain ⟨f',e1,e2,e3,e4,_,_⟩:=hf n g hn
      rw [e1]
      simp [e2,e3,e4]
    have hfun:(fun n=>places[n]?)=(fun n=>(nth fs n).map fun f=>(f.2.1,f.2.2)):=funext hsame
    have:Hj (fun n=>places[n]?) (i.zero.map .d) parts=some out:=by rw [hfun]; exact ho
    obtain ⟨ws,g1,g2,g3,g4⟩:=Mq hz2 (by rw [Array.length_toList]; exact hl) (fun n p q a b=>hp n p q a (by simpa using b)) this
    refine ⟨.agg ws,?_,.agg g2 g3 g4⟩
    simp only [Instr.build,Sem.run_bind,hz1,Result.andThen_ok,run_underlying hd,hp1,g1,Sem.run_pure]
  ·rename_i n e hu
   have hd:=As f hu
   split at h
   ·rename_i j he
    cases ho:Hj (fun n=>some (n * j.size,j.size)) (i.zero.map .d) parts with
    | none=>rw [ho] at h; cases h
    | some out=>
     rw [ho] at h
     simp only [zqt,zqb] at h
     subst h
     obtain ⟨ws,g1,g2,g3,g4⟩:=Mq hz2 (by rw [Array.length_toList]; exact hl) (fun n p q a b=>hp n p q a (by simpa using b)) ho
     refine ⟨.agg ws,?_,.agg g2 g3 g4⟩
     simp only [Instr.build,Sem.run_bind,hz1,Result.andThen_ok,run_underlying hd,Gf (hT.facts he) w,g1,Sem.run_pure]
   ·cases h
  ·cases h
theorem Xm {k:IntKind}{n:Int}:(asIntOf (.int k n)).run P w = .ok (k,n) w:=rfl
theorem K12 {T:TT}(hT:TOk P T){t:Nat}{x y:A}{a b:Value}(hx:O1 M G x a)(hy:O1 M G y b){c:Prop}{z:A}
  (h:Zu T t x y=some (c,z)) (hc:c):Xf P M G w (Instr.indexAt t a b) z:=by
 unfold Zu at h
 split at h
 ·rename_i i k n ht
  have f:=hT.facts ht
  cases hy; rename_i hy; cases hy
  split at h
  ·rename_i hu
   have hd:=As f hu
   unfold O16 at h
   split at h
   ·rename_i j he
    split at h
    ·rename_i p hp
     rw [cond_eq_ite] at h
     split at h
     ·rename_i hb
      have h2:=Nat.le_of_ble_eq_true hb
      simp only [zqb,zqh] at h
      obtain ⟨rfl,rfl⟩:=h
      obtain ⟨ad,rfl,hs,hr⟩:=S11 hp hx
      refine ⟨_,?_,hr⟩
      have h2':=Nat.not_le.2 h2
      simp [Instr.indexAt,Xm,run_underlying hd,Instr.sureAddr,hc,Gf (hT.facts he) w]
     ·cases h
    ·cases h
   ·cases h
  ·rename_i e o off len cap hu
   have hd:=Wm f hu
   split at h
   ·rename_i j he
    simp only [zqb,zqh] at h
    obtain ⟨rfl,rfl⟩:=h
    cases hx
    refine ⟨_,?_,.ref (by assumption)⟩
    simp [Instr.indexAt,Xm,run_underlying hd,hc,Gf (hT.facts he) w,Bc]
   ·cases h
  ·cases h
 ·cases h
theorem X14 {T:TT}(hT:TOk P T){t:Nat}{i:TI}(ht:G4 T t=some i){cs:List A}{vs:Array Value}(hc:Qf M G cs vs){off:Nat}{z:A}(h:Jl i (cs.drop off)=some z) :
  Xf P M G w (part t vs off) z:=by
 have f:=hT.facts ht
 obtain ⟨c1,c2,c3⟩:=hc
 unfold Jl at h
 unfold part
 cases hg:i.u.agg with
 | true=>
  rw [hg] at h
  simp only [zqk] at h
  cases hb:Nat.ble i.size (cs.drop off).length with
  | false=>rw [hb] at h; cases h
  | true=>
   rw [hb] at h
   simp only [zqk,zqb] at h
   subst h
   have hle:=Nat.le_of_ble_eq_true hb
   rw [List.length_drop] at hle
   have hpos:=f.pos
   have hx:∀ (j:Nat) v,(vs.extract off (off+i.size))[j]?=some v→j < i.size∧vs[off+j]?=some v:=fun j v hv=>by
    have hlt:=(Array.getElem?_eq_some_iff.1 hv).1
    simp only [Array.size_extract] at hlt
    refine ⟨by omega,?_⟩
    rw [Array.getElem?_extract,zp (by omega)] at hv
    exact hv
   refine ⟨.agg (vs.extract off (off+i.size)),?_,.agg (by simp; omega) (fun j v hv=>c2 _ v (hx j v hv).2) fun j x v hxx hv=>?_⟩
   ·simp only [Sem.run_bind,Yu f w,hg,Result.andThen_ok,zt,Gf f w,Sem.run_pure]
   ·obtain ⟨hj,hv'⟩:=hx j v hv
    refine c3 (off+j) x v ?_ hv'
    rw [List.getElem?_take,zp hj,List.getElem?_drop] at hxx
    exact hxx
 | false=>
  rw [hg] at h
  simp only [zql,S3,List.getElem?_drop,Nat.add_zero] at h
  have hlt:off < vs.size:=by rw [← c1]; exact (zqu.1 h).1
  have hv:vs[off]?=some vs[off]:=Array.getElem?_eq_getElem hlt
  refine ⟨vs[off],?_,c3 off z _ h hv⟩
  simp only [Sem.run_bind,Yu f w,hg,Result.andThen_ok,zqa,zw,hv,Sem.run_pure]
theorem U16 {T:TT}(hT:TOk P T){t:Nat}{x y:A}{a b:Value}(hx:O1 M G x a)(hy:O1 M G y b){c:Prop}{z:A}
  (h:X12 T t x y=some (c,z)) (hc:c):Xf P M G w (Instr.index t a b) z:=by
 unfold X12 at h
 split at h
 ·rename_i i cs k n ht
  have f:=hT.facts ht
  cases hy; rename_i hy; cases hy
  cases hx; rename_i vs h2 h1 h3
  split at h
  ·rename_i len e hu
   have hd:=As f hu
   split at h
   ·rename_i j he
    cases hr:Jl j (cs.drop (n.toNat * j.size)) with
    | none=>rw [hr] at h; cases h
    | some z'=>
     rw [hr] at h
     simp only [zqt,zqb,zqh] at h
     obtain ⟨rfl,rfl⟩:=h
     obtain ⟨v,g1,g2⟩:=X14 (P:=P) (w:=w) hT he ⟨h1,h2,h3⟩ hr
     exact ⟨v,by simp [Instr.index,Xm,run_underlying hd,hc,Gf (hT.facts he) w,g1],g2⟩
   ·cases h
  ·cases h
 ·cases h
theorem Y12 {T:TT}{H:I0}(hT:TOk P T)(hG:Good M w)(hH:P7 M G w H){t:Nat}{i:TI}(ht:G4 T t=some i){x z:A}{v:Value}(hx:O1 M G x v)(h:Lb i x H=some z) :
  Xf P M G w (Instr.loadAt t v) z:=C19 hG hH (hT.facts ht) hx h
theorem Q15 {T:TT}(hT:TOk P T){t:Nat}{i:TI}(ht:G4 T t=some i){fs:List (Nat×Nat×Nat)}(hu:i.u = .st fs){n:Nat}{g:Nat×Nat×Nat}(hg:nth fs n=some g){x z:A}{v:Value}
  (hx:O1 M G x v) (h:It x g.2.1=some z):Xf P M G w (Instr.fieldAt t v n) z:=by
 obtain ⟨flds,hd,hf⟩:=Ry (hT.facts ht) hu
 rw [S3] at hg
 obtain ⟨f',e1,e2,e3,e4,e5,e6⟩:=hf n g hg
 obtain ⟨a,rfl,hs,hr⟩:=S11 h hx
 refine ⟨_,?_,hr⟩
 obtain ⟨j,hj⟩:=Option.isSome_iff_exists.1 e6
 have hsz:(sizeOf f'.type).run P w = .ok g.2.2 w:=by
  rw [e2]
  simp only [Program.cellsOf,hj,zqt,Option.getD_some] at e4
  simp [sizeOf,typeInfo,hj,e4]
 have hne:¬ g.2.2=0:=by omega
 simp [Instr.fieldAt,run_underlying hd,e1,Instr.sureAddr,fieldPlace,hsz,hne,e3]
theorem F18 {T:TT}(hT:TOk P T){t:Nat}{i:TI}(ht:G4 T t=some i){fs:List (Nat×Nat×Nat)}(hu:i.u = .st fs){n:Nat}{g:Nat×Nat×Nat}(hg:nth fs n=some g){j:TI}(hj:G4 T g.1=some j){cs:List A}{z:A}{v:Value}
  (hx:O1 M G (.agg cs) v) (h:Jl j (cs.drop g.2.1)=some z):Xf P M G w (Instr.field t v n) z:=by
 obtain ⟨flds,hd,hf⟩:=Ry (hT.facts ht) hu
 rw [S3] at hg
 obtain ⟨f',e1,e2,e3,e4,e5,e6⟩:=hf n g hg
 cases hx; rename_i vs h2 h1 h3
 obtain ⟨u,g1,g2⟩:=X14 (P:=P) (w:=w) hT hj ⟨h1,h2,h3⟩ h
 exact ⟨u,by simp [Instr.field,run_underlying hd,e1,asAgg,e2,e3,g1],g2⟩
theorem U19 {T:TT}{GL:GT}{env:Env}{H:I0}(hT:TOk P T)(hG:Good M w)(hH:P7 M G w H)(o:Oper){ρ:Operand→Value}(hρ:∀ y∈o.op.operands,O1 M G (ev GL env y) (ρ y)){c:Prop}{x:A}
  (h:opA T GL o.op env H=some (c,x)) (hc:c):∃ v,(execOp ρ o).run P w = .ok (.value v) w∧O1 M G x v:=by
 unfold opA at h
 unfold execOp
 split at h
 ·rename_i heq
  rw [heq] at hρ ⊢
  simp only [O2,zqb,zqh] at h
  obtain ⟨_,rfl⟩:=h
  exact ⟨_,rfl,hρ _ (by simp [Op.operands])⟩
 ·rename_i heq
  rw [heq] at hρ ⊢
  simp only [O2,zqb,zqh] at h
  obtain ⟨_,rfl⟩:=h
  exact ⟨_,rfl,hρ _ (by simp [Op.operands])⟩
 ·rename_i c' a b heq
  rw [heq] at hρ ⊢
  split at h
  ·rename_i t ht
   have h1:=hρ c' (by simp [Op.operands])
   have h2:=hρ a (by simp [Op.operands])
   have h3:=hρ b (by simp [Op.operands])
   rw [ht] at h1
   generalize hcv:ρ c'=cv at h1
   cases h1; rename_i h1; cases h1
   simp only [O2,zqb,zqh] at h
   obtain ⟨_,rfl⟩:=h
   cases t
   ·exact ⟨ρ b,by simp [hcv,asBool],h3⟩
   ·exact ⟨ρ a,by simp [hcv,asBool],h2⟩
  ·cases h
 ·rename_i t parts heq
  rw [heq] at hρ ⊢
  cases hb:Kz T t (parts.toList.map fun p=>(p.1,ev GL env p.2)) with
  | none=>rw [hb] at h; cases h
  | some y=>
   rw [hb] at h
   simp only [zqt,zqb,zqh] at h
   obtain ⟨_,rfl⟩:=h
   refine Ah (T16 hT (by simp) (fun i p q hp hq=>?_) hb)
   simp only [List.getElem?_map,Array.getElem?_toList,Array.getElem?_map] at hp hq
   cases hpi:parts[i]? with
   | none=>rw [hpi] at hp; cases hp
   | some pr=>
    rw [hpi] at hp hq
    simp only [zqt,zqb] at hp hq
    subst hp; subst hq
    exact ⟨rfl,hρ _ (by simp only [Op.operands,List.mem_toArray,List.mem_map]; exact ⟨pr,by simpa using Array.mem_of_getElem? hpi,rfl⟩)⟩
 ·rename_i t a heq
  rw [heq] at hρ ⊢
  split at h
  ·rename_i i ht
   cases hb:Lb i (ev GL env a) H with
   | none=>rw [hb] at h; cases h
   | some y=>
    rw [hb] at h
    simp only [zqt,zqb,zqh] at h
    obtain ⟨_,rfl⟩:=h
    exact Ah (Y12 hT hG hH ht (hρ a (by simp [Op.operands])) hb)
  ·cases h
 ·rename_i y heq
  rw [heq] at hρ ⊢
  have h1:=hρ y (by simp [Op.operands])
  split at h
  ·rename_i he
   rw [he] at h1
   generalize hv:ρ y=v at h1
   cases h1
   simp only [O2,zqb,zqh] at h
   obtain ⟨_,rfl⟩:=h
   exact ⟨_,by simp only [hv]; rfl,.ref (by assumption)⟩
  ·rename_i he
   rw [he] at h1
   generalize hv:ρ y=v at h1
   cases h1
   rename_i A2 a b c
   simp only [O2,zqb,zqh] at h
   obtain ⟨_,rfl⟩:=h
   exact ⟨_,by simp only [hv]; rfl,.ptr A2 a b c⟩
  ·rename_i he
   rw [he] at h1
   generalize hv:ρ y=v at h1
   cases h1; rename_i h1; cases h1
   rename_i A2 a b c
   simp only [O2,zqb,zqh] at h
   obtain ⟨_,rfl⟩:=h
   exact ⟨_,by simp only [hv]; rfl,.ptr A2 a b c⟩
  ·rename_i he
   rw [he] at h1
   generalize hv:ρ y=v at h1
   cases h1
   rename_i a b
   simp only [O2,zqb,zqh] at h
   obtain ⟨_,rfl⟩:=h
   exact ⟨_,by simp only [hv]; rfl,.clo a b⟩
  ·rename_i he
   rw [he] at h1
   generalize hv:ρ y=v at h1
   cases h1
   rename_i a b
   simp only [O2,zqb,zqh] at h
   obtain ⟨_,rfl⟩:=h
   exact ⟨_,by simp only [hv]; rfl,.bnd a b⟩
  ·cases h
 ·rename_i op t x y yt heq
  rw [heq] at hρ ⊢
  have h1:=hρ x (by simp [Op.operands])
  have h2:=hρ y (by simp [Op.operands])
  obtain ⟨v,g1,g2⟩:=D19 (w:=w) hT h1 h2 h hc
  exact ⟨v,by simp [D18 (P:=P) (w:=w) (X:=x) (Y:=y) (b:=ρ y) h1 h,g1],g2⟩
 ·rename_i op t x heq
  rw [heq] at hρ ⊢
  exact Ah (T19 (hρ x (by simp [Op.operands])) h)
 ·rename_i s t x heq
  rw [heq] at hρ ⊢
  exact Ah (E18 hT (hρ x (by simp [Op.operands])) h)
 ·rename_i f first caps heq
  rw [heq] at hρ ⊢
  cases hb:Nat.beq first.size 0 with
  | false=>
   rw [hb] at h
   cases hb2:Nat.beq caps.size 0 with
   | false=>rw [hb2] at h; cases h
   | true=>
    rw [hb2] at h
    simp only [zqk,zql,O2,zqb,zqh] at h
    obtain ⟨_,rfl⟩:=h
    obtain rfl:caps = #[]:=Array.eq_empty_of_size_eq_zero (zqo hb2)
    refine ⟨.func (.func f) (first.map ρ) #[],by simp [Instr.makeFunc],.bnd (by simp) fun i x v hx hv=>?_⟩
    simp only [List.getElem?_map,Array.getElem?_toList,Array.getElem?_map] at hx hv
    cases hpi:first[i]? with
    | none=>rw [hpi] at hx; cases hx
    | some pr=>
     rw [hpi] at hx hv
     simp only [zqt,zqb] at hx hv
     subst hx; subst hv
     exact hρ _ (by simp only [Op.operands,Array.append_empty]; exact Array.mem_of_getElem? hpi)
  | true=>
   rw [hb] at h
   simp only [zqk,O2,zqb,zqh] at h
   obtain ⟨_,rfl⟩:=h
   obtain rfl:first = #[]:=Array.eq_empty_of_size_eq_zero (zqo hb)
   refine ⟨.func (.func f) #[] (caps.map ρ),by simp [Instr.makeFunc],.clo (by simp) fun i x v hx hv=>?_⟩
   simp only [List.getElem?_map,Array.getElem?_toList,Array.getElem?_map] at hx hv
   cases hpi:caps[i]? with
   | none=>rw [hpi] at hx; cases hx
   | some pr=>
    rw [hpi] at hx hv
    simp only [zqt,zqb] at hx hv
    subst hx; subst hv
    exact hρ _ (by simp only [Op.operands,Array.empty_append]; exact Array.mem_of_getElem? hpi)
 ·rename_i t x f heq
  rw [heq] at hρ ⊢
  split at h
  ·rename_i i ht
   split at h
   ·rename_i fs hu
    split at h
    ·rename_i g hg
     cases hb:It (ev GL env x) g.2.1 with
     | none=>rw [hb] at h; cases h
     | some y=>
      rw [hb] at h
      simp only [zqt,zqb,zqh] at h
      obtain ⟨_,rfl⟩:=h
      exact Ah (Q15 hT ht hu hg (hρ x (by simp [Op.operands])) hb)
    ·cases h
   ·cases h
  ·cases h
 ·rename_i t x f heq
  rw [heq] at hρ ⊢
  split at h
  ·rename_i i cs ht he
   split at h
   ·rename_i fs hu
    split at h
    ·rename_i g hg
     split at h
     ·rename_i j hj
      cases hb:Jl j (cs.drop g.2.1) with
      | none=>rw [hb] at h; cases h
      | some y=>
       rw [hb] at h
       simp only [zqt,zqb,zqh] at h
       obtain ⟨_,rfl⟩:=h
       have h1:=hρ x (by simp [Op.operands])
       rw [he] at h1
       exact Ah (F18 hT ht hu hg hj h1 hb)
     ·cases h
    ·cases h
   ·cases h
  ·cases h
 ·rename_i t x y heq
  rw [heq] at hρ ⊢
  exact Ah (K12 hT (hρ x (by simp [Op.operands])) (hρ y (by simp [Op.operands])) h hc)
 ·rename_i t x y heq
  rw [heq] at hρ ⊢
  exact Ah (U16 hT (hρ x (by simp [Op.operands])) (hρ y (by simp [Op.operands])) h hc)
 ·rename_i y n heq
  rw [heq] at hρ ⊢
  have h1:=hρ y (by simp [Op.operands])
  split at h
  ·rename_i xs he
   rw [he] at h1
   cases hb:nth xs n with
   | none=>rw [hb] at h; cases h
   | some z=>
    rw [hb] at h
    simp only [zqt,zqb,zqh] at h
    obtain ⟨_,rfl⟩:=h
    rw [S3] at hb
    generalize hv:ρ y=v at h1
    cases h1
    rename_i vs hl hr
    have hlt:n < vs.size:=by rw [← hl]; exact (zqu.1 hb).1
    have hvn:vs[n]?=some vs[n]:=Array.getElem?_eq_getElem hlt
    exact ⟨vs[n],by simp [hv,Instr.extract,hvn],hr n z _ hb hvn⟩
  ·cases h
 ·rename_i b args argTypes heq
  rw [heq] at hρ ⊢
  have harg:∀ (i:Nat) a,args[i]?=some a→O1 M G (ev GL env a) (ρ a):=fun i a ha=>
   hρ a (by simp only [Op.operands,Call.operands,Array.empty_append]; exact Array.mem_of_getElem? ha)
  unfold W12 at h
  split at h
  ·rename_i t x hts hxs
   obtain ⟨ty,rfl⟩:∃ t,argTypes = #[t]:=⟨t,by rw [← Array.toArray_toList (xs:=argTypes),hts]⟩
   obtain ⟨ar,har,hx⟩:∃ a,args = #[a]∧x=ev GL env a:=by
    match hl:args.toList,hxs with
    | [a],hxs=>exact ⟨a,by rw [← Array.toArray_toList (xs:=args),hl],by simpa using hxs.symm⟩
   subst har
   simp only [List.cons.injEq,and_true] at hts
   subst hts; subst hx
   cases hb:lenA T ty (ev GL env ar) with
   | none=>rw [hb] at h; cases h
   | some z=>
    rw [hb] at h
    simp only [zqt,zqb,zqh] at h
    obtain ⟨_,rfl⟩:=h
    obtain ⟨v,g1,g2⟩:=E19 (w:=w) hT (ty:=o.type) (harg 0 ar rfl) hb
    exact ⟨v,by simp [resolve,invoke,builtin,g1],g2⟩
  ·rename_i x y hxs
   obtain ⟨a1,a2,har,hx,hy⟩:∃ a b,args = #[a,b]∧x=ev GL env a∧y=ev GL env b:=by
    match hl:args.toList,hxs with
    | [a,b],hxs=>exact ⟨a,b,by rw [← Array.toArray_toList (xs:=args),hl],by simp at hxs; exact hxs.1.symm,by simp at hxs; exact hxs.2.symm⟩
   subst har; subst hx; subst hy
   cases hb:Wf false (ev GL env a1) (ev GL env a2) with
   | none=>rw [hb] at h; cases h
   | some z=>
    rw [hb] at h
    simp only [zqt,zqb,zqh] at h
    obtain ⟨_,rfl⟩:=h
    obtain ⟨v,g1,g2⟩:=Nz (P:=P) (w:=w) (harg 0 a1 rfl) (harg 1 a2 rfl) hb argTypes o.type
    exact ⟨v,by simp only [zql] at g1; simp [resolve,invoke,builtin,g1],g2⟩
  ·rename_i x y hxs
   obtain ⟨a1,a2,har,hx,hy⟩:∃ a b,args = #[a,b]∧x=ev GL env a∧y=ev GL env b:=by
    match hl:args.toList,hxs with
    | [a,b],hxs=>exact ⟨a,b,by rw [← Array.toArray_toList (xs:=args),hl],by simp at hxs; exact hxs.1.symm,by simp at hxs; exact hxs.2.symm⟩
   subst har; subst hx; subst hy
   cases hb:Wf true (ev GL env a1) (ev GL env a2) with
   | none=>rw [hb] at h; cases h
   | some z=>
    rw [hb] at h
    simp only [zqt,zqb,zqh] at h
    obtain ⟨_,rfl⟩:=h
    obtain ⟨v,g1,g2⟩:=Nz (P:=P) (w:=w) (harg 0 a1 rfl) (harg 1 a2 rfl) hb argTypes o.type
    exact ⟨v,by simp only [zqk] at g1; simp [resolve,invoke,builtin,g1],g2⟩
  ·rename_i x y z u hxs
   obtain ⟨a1,a2,a3,a4,har,hx,hy,hz,hu⟩:∃ a b c d,args = #[a,b,c,d]∧x=ev GL env a∧y=ev GL env b∧z=ev GL env c∧u=ev GL env d:=by
    match hl:args.toList,hxs with
    | [a,b,c,d],hxs=>
     simp at hxs
     exact ⟨a,b,c,d,by rw [← Array.toArray_toList (xs:=args),hl],hxs.1.symm,hxs.2.1.symm,hxs.2.2.1.symm,hxs.2.2.2.symm⟩
   subst har; subst hx; subst hy; subst hz; subst hu
   cases hb:Jq false (ev GL env a1) (ev GL env a2) (ev GL env a3) (ev GL env a4) with
   | none=>rw [hb] at h; cases h
   | some z=>
    rw [hb] at h
    simp only [zqt,zqb,zqh] at h
    obtain ⟨_,rfl⟩:=h
    obtain ⟨v,g1,g2⟩:=Mz (P:=P) (w:=w) (harg 0 a1 rfl) (harg 1 a2 rfl) (harg 2 a3 rfl) (harg 3 a4 rfl) hb argTypes o.type
    exact ⟨v,by simp only [zql] at g1; simp [resolve,invoke,builtin,g1],g2⟩
  ·rename_i x y z u hxs
   obtain ⟨a1,a2,a3,a4,har,hx,hy,hz,hu⟩:∃ a b c d,args = #[a,b,c,d]∧x=ev GL env a∧y=ev GL env b∧z=ev GL env c∧u=ev GL env d:=by
    match hl:args.toList,hxs with
    | [a,b,c,d],hxs=>
     simp at hxs
     exact ⟨a,b,c,d,by rw [← Array.toArray_toList (xs:=args),hl],hxs.1.symm,hxs.2.1.symm,hxs.2.2.1.symm,hxs.2.2.2.symm⟩
   subst har; subst hx; subst hy; subst hz; subst hu
   cases hb:Jq true (ev GL env a1) (ev GL env a2) (ev GL env a3) (ev GL env a4) with
   | none=>rw [hb] at h; cases h
   | some z=>
    rw [hb] at h
    simp only [zqt,zqb,zqh] at h
    obtain ⟨_,rfl⟩:=h
    obtain ⟨v,g1,g2⟩:=Mz (P:=P) (w:=w) (harg 0 a1 rfl) (harg 1 a2 rfl) (harg 2 a3 rfl) (harg 3 a4 rfl) hb argTypes o.type
    exact ⟨v,by simp only [zqk] at g1; simp [resolve,invoke,builtin,g1],g2⟩
  ·cases h
 ·cases h
end
def Z12 (M:Mem)(w:World)(b:Nat):Prop:=∃ vs t f,w.heap[b]?=some (.cells vs t f)∧0 < vs.size∧∀ i,i < vs.size→M ⟨b,i,none⟩≠none
structure Cx where
 P:Program
 T:TT
 GL:GT
 gp:Mem→World→Prop
 gpm:∀ {M M':Mem} {w w':World},(∀ a v,M a=some v→M' a=some v)→(∀ b,Z12 M w b→w'.heap[b]?=w.heap[b]?)→gp M w→gp M' w'
structure T3 (C:Cx):Prop where
 tok:TOk C.P C.T
 mixed:C.P.follows .mixedOrders=true
theorem F19 {M:Mem}{G:Nat→Value}{w:World}{H:I0}(hH:P7 M G w H){b:Nat}(hs:Z12 M w b):¬ own G H b:=by
 rintro ⟨o,x,ho,hb⟩
 obtain ⟨vs,t,f,h1,h2,h3⟩:=hs
 have hob:=hH.obj o x ho
 generalize G o=g at hb hob
 cases x with
 | dead=>simp [blk] at hb
 | row cells elem=>
  obtain ⟨b',us,rfl,_,_,_,_,h6⟩:=hob
  simp [blk] at hb; subst hb
  exact h3 0 h2 (h6 0 none)
 | tok elem sz=>
  rcases hob with rfl | ⟨a,n,cap,rfl,_,_,_,h4⟩
  ·simp [blk] at hb
  ·simp only [blk] at hb
   split at hb
   ·rename_i hlt
    obtain ⟨_,us,g1,g2,g3⟩:=h4 hlt
    simp at hb; subst hb
    rw [h1] at g1
    cases g1
    have hm:(n+1) * sz≤cap * sz:=Nat.mul_le_mul_right sz hlt
    rw [Nat.add_mul,Nat.one_mul] at hm
    rcases Nat.eq_zero_or_pos sz with h0 | h0
    ·subst h0
     exact h3 0 h2 (g3 0 none (by omega))
    ·exact h3 (vs.size - 1) (by omega) (g3 (vs.size - 1) none (by omega))
   ·cases hb
 | map es=>
  obtain ⟨b',ms,cl,rfl,g1,_⟩:=hob
  simp [blk] at hb; subst hb
  rw [h1] at g1
  cases g1
 | bld o' elem=>
  obtain ⟨b',v0,rfl,_,_,_,h6⟩:=hob
  simp [blk] at hb; subst hb
  exact h3 0 h2 (h6 0 none)
 | buf elem bs=>
  rcases hob with ⟨_,⟨rfl,_⟩ | ⟨b',cap,cur,rfl,_,_,_,_,_,h6⟩⟩
  ·simp [blk] at hb
  ·simp [blk] at hb; subst hb
   exact h3 0 h2 (h6 0 none)
structure Ym (C:Cx)(M:Mem)(w:World):Prop where
 tab:∀ G g cs,Z17 C.GL g=some cs→O1 M G (.ptr cs) (.pointer (some ⟨g,0,none⟩))
 gp:C.gp M w
theorem Ym.ext {C:Cx}{M M':Mem}{w w':World}{G:Nat→Value}{H:I0}{S:Nat→Prop}(h:Ym C M w)(hH:P7 M G w H)(he:Ext S M w M' w')(hS:∀ b,S b→own G H b):Ym C M' w':=
 ⟨fun G g cs e=>(h.tab G g cs e).mono' he.mono,C.gpm he.mono (fun b hb=>he.block b (by obtain ⟨vs,t,f,h1,_⟩:=hb; exact (Array.getElem?_eq_some_iff.1 h1).1) fun hs=>F19 hH hb (hS b hs)) h.gp⟩
structure FN where
 n:Nat
 d:List Deferred
instance:CoeOut FN Nat:=⟨FN.n⟩
structure St (C:Cx)(N:FN)(M:Mem)(G:Nat→Value)(w:World)(env:Env)(H:I0)(a:Act):Prop where
 good:Good M w
 gl:Ym C M w
 hrel:P7 M G w H
 env:∀ t,O1 M G (env t) (a.tmps.getD t undef)
 size:a.tmps.size=N
 defers:a.defers=N.d
def isTok:Ob→Bool
 | .tok ..=>true
 | .buf ..=>true
 | _=>false
structure Fr where
 H0:I0
 G0:Nat→Value
 M0:Mem
 w0:World
structure P2 (fr:Fr)(M:Mem)(G:Nat→Value)(w:World)(H:I0):Prop where
 ext:Ext (own fr.G0 fr.H0) fr.M0 fr.w0 M w
 own:∀ b,own G H b→own fr.G0 fr.H0 b∨fr.w0.heap.size≤b
 len:fr.H0.length≤H.length
 keep:∀ (o:Nat) x,fr.H0[o]?=some x→isTok x=false→G o=fr.G0 o
 kind:∀ (o:Nat) x y,fr.H0[o]?=some x→isTok x=false→H[o]?=some y→isTok y=false
structure Fx where
 C:Cx
 N:FN
 K:Nat
 pan:Value→Env→I0→Prop
 esc:Fr→Exit→Act→World→Prop
def noP:Value→I0→Prop:=fun _ _=>False
def Kl:Value→Env→I0→Prop:=fun _ _ _=>False
def Bh:Fr→Exit→Act→World→Prop:=fun _ _ _ _=>False
abbrev fx (C:Cx)(n K:Nat):Fx:=⟨C,⟨n,[]⟩,K,Kl,Bh⟩
theorem St.eval {C:Cx}{N:FN}{M:Mem}{G:Nat→Value}{w:World}{env:Env}{H:I0}{a:Act}(h:St C N M G w env H a)(y:Operand):O1 M G (ev C.GL env y) (a.eval y):=by
 cases y with
 | tmp t=>exact h.env t
 | const v=>exact L15 M G v
 | global g=>
  simp only [ev]
  split
  ·exact h.gl.tab G g _ (by assumption)
  ·exact .junk
 | func f=>exact .clo rfl fun i x v h=>by simp at h
theorem Vk {env:Env}{dst:Option Nat}{x:A}{a:Act}{v:Value}{N:Nat}{M:Mem}{G:Nat→Value}(he:∀ t,O1 M G (env t) (a.tmps.getD t undef))(hs:a.tmps.size=N)(hd:∀ d,dst=some d→d < N)(hx:O1 M G x v) :
  (∀ t,O1 M G (put env dst x t) ((a.put dst v).tmps.getD t undef))∧(a.put dst v).tmps.size=N∧(a.put dst v).defers=a.defers:=by
 cases dst with
 | none=>exact ⟨he,hs,rfl⟩
 | some d=>
  refine ⟨fun t=>?_,by simp [Act.put,hs],rfl⟩
  have hlt:=hd d rfl
  simp only [put,upd,Act.put]
  cases hb:Nat.beq t d with
  | true=>
   have:=zqo hb
   subst this
   simp only [zqk]
   have:t < a.tmps.size:=by omega
   simpa [this] using hx
  | false=>
   have hne:d≠t:=fun e=>by subst e; simp at hb
   simp only [zql]
   have:=he t
   simpa [Array.getElem?_setIfInBounds_ne hne] using this
theorem St.quiet {C:Cx}{N:FN}{M M':Mem}{G:Nat→Value}{w w':World}{env:Env}{H:I0}{a:Act}(h:St C N M G w env H a){dst:Option Nat}(hd:∀ d,dst=some d→d < N){x:A}{v:Value}
  (hx:O1 M' G x v) (hg:Good M' w') (he:Ext Y6 M w M' w'):St C N M' G w' (put env dst x) H (a.put dst v):=by
 obtain ⟨h1,h2,h3⟩:=Vk (fun t=>(h.env t).mono' he.mono) h.size hd hx
 exact ⟨hg,h.gl.ext h.hrel he (fun _ h=>h.elim),h.hrel.ext he (fun _ _=>id),h1,h2,h3.trans h.defers⟩
theorem P2.quiet {fr:Fr}{M M':Mem}{G:Nat→Value}{w w':World}{H:I0}(h:P2 fr M G w H)(he:Ext Y6 M w M' w'):P2 fr M' G w' H:=
 ⟨h.ext.trans he (fun _ h=>h.elim),h.own,h.len,h.keep,h.kind⟩
def P9 (C:Cx)(o:Oper)(env:Env)(H:I0)(x:A):Prop:=
 ∀ M G w (a:Act) (next:Act→World→Prop) (Qw:Exit→Act→World→Prop),(∀ y∈o.op.operands,O1 M G (ev C.GL env y) (a.eval y))→Good M w→Ym C M w→P7 M G w H→
  (∀ v M' w',O1 M' G x v→Good M' w'→Ext Y6 M w M' w'→next (a.put o.dst v) w')→o.wp C.P a w next Qw
theorem Ko {C:Cx}(hC:T3 C){o:Oper}{env:Env}{H:I0}{c:Prop}{x:A}(h:opA C.T C.GL o.op env H=some (c,x))(hc:c):P9 C o env H x:=by
 intro M G w a next Qw hρ hG _ hH hk
 obtain ⟨v,h1,h2⟩:=U19 hC.tok hG hH o hρ h hc
 unfold Oper.wp
 rw [h1]
 exact hk v M w h2 hG (Ext.refl _ _ _)
def F2 (L:List Oper)(env:Env)(o:Oper):Option Bool:=
 match o.guard with
 | none=>some true
 | some (j,want)=>
  match nth L j with
  | some p=>match p.dst with
   | some d=>match env d with
    | .d (.bool b)=>some (b == want)
    | .tup []=>some false
    | _=>none
   | none=>none
  | none=>none
theorem Mb {C:Cx}{N:FN}{M:Mem}{G:Nat→Value}{w:World}{env:Env}{H:I0}{a:Act}(h:St C N M G w env H a){L:List Oper}{o:Oper}{b:Bool}(hw:F2 L env o=some b) :
  Region.wanted o (yielded L.toArray a.tmps)=b:=by
 unfold F2 at hw
 unfold Region.wanted
 split at hw
 ·rename_i hg
  rw [hg]
  simpa using hw
 ·rename_i j want hg
  rw [hg]
  split at hw
  ·rename_i p hp
   split at hw
   ·rename_i d hd
    split at hw
    ·rename_i b' he
     simp only [zqb] at hw
     have hr:=h.env d
     rw [he] at hr
     generalize hv:a.tmps.getD d undef=v at hr
     cases hr; rename_i hr; cases hr
     have hlt:d < a.tmps.size:=by
      rcases Nat.lt_or_ge d a.tmps.size with h' | h'
      ·exact h'
      ·simp [Array.getElem?_eq_none h',undef] at hv
     have:yielded L.toArray a.tmps j=some b':=by
      unfold yielded
      rw [S3] at hp
      simp only [List.getElem?_toArray,hp,Option.bind_some,hd]
      simp [hlt] at hv
      simp [hlt,hv]
     simp only [this]
     subst hw
     cases b' <;> cases want <;> rfl
    ·rename_i he
     simp only [zqb] at hw
     subst hw
     have hr:=h.env d
     rw [he] at hr
     generalize hv:a.tmps.getD d undef=v at hr
     cases hr
     rename_i vs hl _
     have e:vs = #[]:=Array.eq_empty_of_size_eq_zero (by simpa using hl.symm)
     subst e
     have:yielded L.toArray a.tmps j=none:=by
      unfold yielded
      rw [S3] at hp
      simp only [List.getElem?_toArray,hp,Option.bind_some,hd]
      rcases Nat.lt_or_ge d a.tmps.size with h' | h'
      ·simp [h'] at hv
       simp [h',hv]
      ·simp [Array.getElem?_eq_none h']
     simp only [this]
     cases want <;> rfl
    ·cases hw
   ·cases hw
  ·cases hw
def Q9 (N:Nat)(o:Oper):Bool:=match o.dst with | some d=>Nat.blt d N | none=>true
theorem Y4 {N:Nat}{o:Oper}(h:Q9 N o=true):∀ d,o.dst=some d→d < N:=by
 intro d hd
 unfold Q9 at h
 rw [hd] at h
 exact Nat.le_of_ble_eq_true h
def C0 (F:Fx)(L l:List Oper)(env:Env)(H:I0)(Q:Env→I0→Prop):Prop:=
 ∀ fr M G w a (Qw:Exit→Act→World→Prop),fr.H0.length=F.K→(∀ o∈l,Q9 F.N o=true)→St F.C F.N M G w env H a→P2 fr M G w H→
  ((∀ env' H' M' G' w' a',Q env' H'→St F.C F.N M' G' w' env' H' a'→P2 fr M' G' w' H'→Qw .normal a' w')∧∀ v env' H' M' G' w' a',F.pan v env' H'→St F.C F.N M' G' w' env' H' a'→P2 fr M' G' w' H'→Qw (.panic [{ v:=v,recovered:=false }]) a' w')→wpList F.C.P L.toArray Qw l a w
theorem C0.nil {F:Fx}{L:List Oper}{env:Env}{H:I0}{Q:Env→I0→Prop}(h:Q env H):C0 F L [] env H Q:=
 fun _ _ _ _ _ _ _ _ hs hsi hq=>wpList_nil (hq.1 _ _ _ _ _ _ h hs hsi)
theorem C0.skip {F:Fx}{L l:List Oper}{o:Oper}{env:Env}{H:I0}{Q:Env→I0→Prop}(hw:F2 L env o=some false)(k:C0 F L l (put env o.dst (.tup [])) H Q):C0 F L (o::l) env H Q:=by
 intro fr M G w a Qw hK hd hs hsi hq
 refine wpList_step fun K hKK=>?_
 rw [Mb hs hw]
 simp only [zqa,zw]
 refine hKK _ _ (k fr M G w _ Qw hK (fun o ho=>hd o (zqq _ ho)) ?_ hsi hq)
 exact hs.quiet (Y4 (hd o zqp)) (.tup rfl fun i x v h=>by simp at h) hs.good (Ext.refl _ _ _)
theorem C0.yields {F:Fx}{L l:List Oper}{o:Oper}{env:Env}{H:I0}{Q:Env→I0→Prop}{x:A}(hw:F2 L env o=some true)(hy:P9 F.C o env H x)(k:C0 F L l (put env o.dst x) H Q):C0 F L (o::l) env H Q:=by
 intro fr M G w a Qw hK hd hs hsi hq
 refine wpList_step fun K hKK=>?_
 rw [Mb hs hw]
 simp only [zt]
 refine hy M G w a K Qw (fun y _=>hs.eval y) hs.good hs.gl hs.hrel fun v M' w' h1 h2 h3=>?_
 exact hKK _ _ (k fr M' G w' _ Qw hK (fun o ho=>hd o (zqq _ ho)) (hs.quiet (Y4 (hd o zqp)) h1 h2 h3) (hsi.quiet h3) hq)
theorem C0.op {F:Fx}(hC:T3 F.C){L l:List Oper}{o:Oper}{env:Env}{H:I0}{Q:Env→I0→Prop}{c:Prop}{x:A}(hw:F2 L env o=some true)(h:opA F.C.T F.C.GL o.op env H=some (c,x))(hc:c)
  (k:C0 F L l (put env o.dst x) H Q):C0 F L (o::l) env H Q:=.yields hw (Ko hC h hc) k
def X5 (G:Nat→Value)(o:Nat)(v:Value):Nat→Value:=fun i=>if i=o then v else G i
theorem B4 {G:Nat→Value}{o:Nat}{v:Value}:X5 G o v o=v:=by simp [X5]
theorem C3 {G:Nat→Value}{o i:Nat}{v:Value}(h:i≠o):X5 G o v i=G i:=by simp [X5,h]
theorem Cs (S:Nat→Prop)(M:Mem)(w:World)(o:Obj):Ext S M w M (w.alloc o):=
 ⟨fun _ _ h=>h,by simp,rfl,rfl,rfl,fun b hb _=>heap_alloc_old w o b hb,fun _ _ h=>.inl h⟩
theorem Good.alloc {M:Mem}{w:World}(h:Good M w)(o:Obj):Good M (w.alloc o):=fun a v e=>by
 have hlt:=h.lt e
 rcases h a v e with ⟨h1,h2⟩ | ⟨h1,ms,cl,h2,h3⟩
 ·exact .inl ⟨h1,by rw [World.cell?_alloc_lt w o a hlt]; exact h2⟩
 ·refine .inr ⟨h1,ms,cl,?_,h3⟩
  rw [← h2]
  show (w.heap.push o)[a.block]?=_
  rw [Array.getElem?_push,zn (by omega)]
def C11 (M:Mem)(G:Nat→Value)(cs:List A)(vs:Array Value):Prop:=
 cs.length≤vs.size∧(∀ (i:Nat) v,vs[i]?=some v→v.oneCell'=true)∧∀ (i:Nat) x v,cs[i]?=some x→vs[i]?=some v→O1 M G x v
theorem St.newRowL {C:Cx}{N:FN}{M:Mem}{G:Nat→Value}{w:World}{env:Env}{H:I0}{a:Act}(h:St C N M G w env H a){dst:Option Nat}(hd:∀ d,dst=some d→d < N){cs:List A}{vs:Array Value}{elem:TypeId}
  (hc:C11 M G cs vs):St C N M (X5 G H.length (.pointer (some ⟨w.heap.size,0,none⟩))) (w.alloc (.cells vs elem)) (put env dst (.ref H.length 0)) (H++[.row cs elem]) (a.put dst (.pointer (some ⟨w.heap.size,0,none⟩))):=by
 have hmono:∀ {x:A} {v:Value},O1 M G x v→O1 M (X5 G H.length (.pointer (some ⟨w.heap.size,0,none⟩))) x v:=fun hr=>hr.mono (fun _ _ e=>e) fun o hn=>C3 (Nat.ne_of_lt (h.hrel.lt hr hn))
 obtain ⟨h1,h2,h3⟩:=Vk (fun t=>hmono (h.env t)) h.size hd (x:=.ref H.length 0) (v:=.pointer (some ⟨w.heap.size,0,none⟩)) (.ref B4)
 refine ⟨h.good.alloc _,h.gl.ext h.hrel (Cs Y6 _ _ _) (fun _ h=>h.elim),⟨fun o x ho=>?_,fun o o' x x' b ho ho' hb hb'=>?_,fun o ho=>?_⟩,h1,h2,h3.trans h.defers⟩
 ·rcases Nat.lt_trichotomy o H.length with hlt | rfl | hgt
  ·rw [zqx hlt] at ho
   rw [C3 (Nat.ne_of_lt hlt)]
   have hob:=h.hrel.obj o x ho
   have hk:Zg M G (w.alloc (.cells vs elem)) x (G o):=hob.keep (fun _ _ e=>e) (fun b hb=>heap_alloc_old w _ b (A9 hob hb)) (fun _ _ _ _ e=>e)
   cases x with
   | dead=>trivial
   | row cells e=>
    obtain ⟨b,us,g1,g2,g3,g4,g5,g6⟩:=hk
    exact ⟨b,us,g1,g2,g3,g4,fun i y v a c=>hmono (g5 i y v a c),g6⟩
   | tok e sz=>exact hk
   | map es=>
    obtain ⟨b,ms,cl,g1,g2,g3,g4,g5⟩:=hk
    exact ⟨b,ms,cl,g1,g2,g3,fun i k cs e a c=>⟨(g4 i k cs e a c).1,hmono (g4 i k cs e a c).2⟩,g5⟩
   | bld o' e=>
    obtain ⟨b,v0,g1,g2,g3,g4,g5⟩:=hk
    have ho':o'≠H.length:=fun e=>g4 (by rw [e]; exact h.hrel.fresh _ (zqr _))
    exact ⟨b,v0,g1,by rw [C3 ho']; exact g2,g3,by rw [C3 ho']; exact g4,g5⟩
   | buf e sz=>exact hk
  ·simp at ho
   subst ho
   rw [B4]
   exact ⟨w.heap.size,vs,rfl,heap_alloc_new w _,hc.1,hc.2.1,fun i x v a b=>hmono (hc.2.2 i x v a b),fun off sp=>by
    cases hM:M ⟨w.heap.size,off,sp⟩ with
    | none=>rfl
    | some v=>have:=h.good.lt hM; simp at this⟩
  ·rw [List.getElem?_eq_none (by simp; omega)] at ho
   cases ho
 ·have key:∀ (o:Nat) x b,(H++[Ob.row cs elem])[o]?=some x→blk x (X5 G H.length (.pointer (some ⟨w.heap.size,0,none⟩)) o)=some b→(o < H.length∧H[o]?=some x∧blk x (G o)=some b∧b < w.heap.size)∨(o=H.length∧b=w.heap.size):=by
   intro o x b ho hb
   rcases Nat.lt_trichotomy o H.length with hlt | rfl | hgt
   ·rw [zqx hlt] at ho
    rw [C3 (Nat.ne_of_lt hlt)] at hb
    exact .inl ⟨hlt,ho,hb,A9 (h.hrel.obj o x ho) hb⟩
   ·simp at ho
    subst ho
    rw [B4] at hb
    simp [blk] at hb
    exact .inr ⟨rfl,hb.symm⟩
   ·rw [List.getElem?_eq_none (by simp; omega)] at ho
    cases ho
  rcases key o x b ho hb with ⟨q1,q2,q3,q4⟩ | ⟨q1,q2⟩ <;> rcases key o' x' b ho' hb' with ⟨p1,p2,p3,p4⟩ | ⟨p1,p2⟩
  ·exact h.hrel.apart o o' x x' b q2 p2 q3 p3
  ·omega
  ·omega
  ·omega
 ·simp at ho
  rw [C3 (by omega)]
  exact h.hrel.fresh o (by omega)
theorem St.newRow {C:Cx}{N:FN}{M:Mem}{G:Nat→Value}{w:World}{env:Env}{H:I0}{a:Act}(h:St C N M G w env H a){dst:Option Nat}(hd:∀ d,dst=some d→d < N){cs:List A}{vs:Array Value}{elem:TypeId}
  (hc:Qf M G cs vs):St C N M (X5 G H.length (.pointer (some ⟨w.heap.size,0,none⟩))) (w.alloc (.cells vs elem)) (put env dst (.ref H.length 0)) (H++[.row cs elem]) (a.put dst (.pointer (some ⟨w.heap.size,0,none⟩))):=
 h.newRowL hd ⟨Nat.le_of_eq hc.1,hc.2⟩
theorem P2.newRow {fr:Fr}{M:Mem}{G:Nat→Value}{w:World}{H:I0}(h:P2 fr M G w H){cs:List A}{vs:Array Value}{elem:TypeId} :
  P2 fr M (X5 G H.length (.pointer (some ⟨w.heap.size,0,none⟩))) (w.alloc (.cells vs elem)) (H++[.row cs elem]):=by
 refine ⟨h.ext.trans (Cs Y6 _ _ _) (fun _ h=>h.elim),fun b hb=>?_,by simp; have:=h.len; omega,fun o x ho ht=>?_,fun o x y ho ht hy=>?_⟩
 ·obtain ⟨o,x,ho,hx⟩:=hb
  rcases Nat.lt_trichotomy o H.length with hlt | rfl | hgt
  ·rw [zqx hlt] at ho
   rw [C3 (Nat.ne_of_lt hlt)] at hx
   exact h.own b ⟨o,x,ho,hx⟩
  ·simp at ho
   subst ho
   rw [B4] at hx
   simp [blk] at hx
   subst hx
   exact .inr h.ext.size
  ·rw [List.getElem?_eq_none (by simp; omega)] at ho
   cases ho
 ·have hlt:o < H.length:=Nat.lt_of_lt_of_le (zqu.1 ho).1 h.len
  rw [C3 (Nat.ne_of_lt hlt)]
  exact h.keep o x ho ht
 ·have hlt:o < H.length:=Nat.lt_of_lt_of_le (zqu.1 ho).1 h.len
  rw [zqx hlt] at hy
  exact h.kind o x y ho ht hy
theorem Ug {F:Fx}{L l:List Oper}{o:Oper}{env:Env}{H:I0}{Q:Env→I0→Prop}(hw:F2 L env o=some true)
  (h:∀ fr M G w a (K:Act→World→Prop) (Qw:Exit→Act→World→Prop),fr.H0.length=F.K→Q9 F.N o=true→St F.C F.N M G w env H a→P2 fr M G w H→
   (∀ x env' H' M' G' w' v,C0 F L l (put env' o.dst x) H' Q→St F.C F.N M' G' w' (put env' o.dst x) H' (a.put o.dst v)→P2 fr M' G' w' H'→K (a.put o.dst v) w')→o.wp F.C.P a w K Qw):C0 F L (o::l) env H Q:=by
 intro fr M G w a Qw hK hd hs hsi hq
 refine wpList_step fun K hKK=>?_
 rw [Mb hs hw]
 simp only [zt]
 refine h fr M G w a K Qw hK (hd o zqp) hs hsi fun x env' H' M' G' w' v k hs' hsi'=>?_
 exact hKK _ _ (k fr M' G' w' _ Qw hK (fun o ho=>hd o (zqq _ ho)) hs' hsi' hq)
theorem R15 {F:Fx}{L l:List Oper}{o:Oper}{env:Env}{H:I0}{Q:Env→I0→Prop}(hw:F2 L env o=some true)
  (h:∀ fr M G w a (K:Act→World→Prop) (Qw:Exit→Act→World→Prop),fr.H0.length=F.K→Q9 F.N o=true→St F.C F.N M G w env H a→P2 fr M G w H→
   (∀ x env' H' M' G' w' v,C0 F L l (put env' o.dst x) H' Q→St F.C F.N M' G' w' (put env' o.dst x) H' (a.put o.dst v)→P2 fr M' G' w' H'→K (a.put o.dst v) w')→
   (∀ v env' H' M' G' w',F.pan v env' H'→St F.C F.N M' G' w' env' H' a→P2 fr M' G' w' H'→Qw (.panic [{ v:=v,recovered:=false }]) a w')→o.wp F.C.P a w K Qw):C0 F L (o::l) env H Q:=by
 intro fr M G w a Qw hK hd hs hsi hq
 refine wpList_step fun K hKK=>?_
 rw [Mb hs hw]
 simp only [zt]
 refine h fr M G w a K Qw hK (hd o zqp) hs hsi (fun x env' H' M' G' w' v k hs' hsi'=>?_) fun v env' H' M' G' w' hp hs' hsi'=>hq.2 v env' H' M' G' w' a hp hs' hsi'
 exact hKK _ _ (k fr M' G' w' _ Qw hK (fun o ho=>hd o (zqq _ ho)) hs' hsi' hq)
theorem C0.alloc {F:Fx}(hC:T3 F.C){L l:List Oper}{o:Oper}{env:Env}{H:I0}{Q:Env→I0→Prop}{t:Nat}{i:TI}(hw:F2 L env o=some true)(ho:o.op = .alloc t)(ht:G4 F.C.T t=some i)
  (k:C0 F L l (put env o.dst (.ref H.length 0)) (H++[.row (i.zero.map .d) t]) Q):C0 F L (o::l) env H Q:=by
 refine Ug hw fun fr M G w a K Qw hK hd hs hsi hk=>?_
 obtain ⟨z,h1,h2,_⟩:=Bv (M:=M) (G:=G) hC.tok ht
 have hr:(execOp a.eval o).run F.C.P w = .ok (.value (.pointer (some ⟨w.heap.size,0,none⟩))) (w.alloc (.cells z.cells t)):=by
  unfold execOp
  simp [ho,Instr.alloc,h1,newVar,newRow]
 unfold Oper.wp
 rw [hr]
 exact hk _ _ _ _ _ _ _ k (hs.newRow (Y4 hd) h2) (P2.newRow hsi)
theorem C0.box {F:Fx}{L l:List Oper}{o:Oper}{env:Env}{H:I0}{Q:Env→I0→Prop}{t:Nat}{y:Operand}{cs:List A}(hw:F2 L env o=some true)(ho:o.op = .box t y)(hy:O9 (ev F.C.GL env y)=some cs)
  (k:C0 F L l (put env o.dst (.ref H.length 0)) (H++[.row cs t]) Q):C0 F L (o::l) env H Q:=by
 refine Ug hw fun fr M G w a K Qw hK hd hs hsi hk=>?_
 obtain ⟨c1,c2,c3⟩:=Bq (hs.eval y) hy
 have hr:(execOp a.eval o).run F.C.P w = .ok (.value (.pointer (some ⟨w.heap.size,0,none⟩))) (w.alloc (.cells (a.eval y).cells t)):=by
  unfold execOp
  simp [ho,Instr.box,newVar,newRow]
 unfold Oper.wp
 rw [hr]
 exact hk _ _ _ _ _ _ _ k (hs.newRow (Y4 hd) ⟨c1.symm,c2,c3⟩) (P2.newRow hsi)
def N9:I0→Nat→Ob→I0
 | [],_,_=>[]
 | _::r,0,x=>x::r
 | y::r,n+1,x=>y::N9 r n x
theorem Oi:∀ (H:I0) (n:Nat) (x:Ob),(N9 H n x).length=H.length
 | [],_,_=>rfl
 | _::_,0,_=>rfl
 | _::r,n+1,x=>by simp [N9,Oi r n x]
theorem Eb:∀ (H:I0) (n:Nat) (x:Ob) (i:Nat),n < H.length→(N9 H n x)[i]?=if i=n then some x else H[i]?
 | [],n,x,i,h=>by simp at h
 | y::r,0,x,i,_=>by cases i <;> simp [N9]
 | y::r,n+1,x,i,h=>by
  cases i with
  | zero=>simp [N9]
  | succ i=>simp only [N9,List.getElem?_cons_succ,Eb r n x i (by simpa using h),Nat.add_right_cancel_iff]
theorem Ky (w:World)(g:Nat)(cs:Array Value):(w.setRow g cs).heap.size=w.heap.size:=by simp [World.setRow]
theorem St.setRow {C:Cx}{N:FN}{M:Mem}{G:Nat→Value}{w:World}{env:Env}{H:I0}{a:Act}(h:St C N M G w env H a){dst:Option Nat}(hd:∀ d,dst=some d→d < N){o b:Nat}{cs cs':List A}{vs vs':Array Value}{elem:TypeId}
  (ho:H[o]?=some (.row cs elem)) (hg:G o = .pointer (some ⟨b,0,none⟩)) (hb:w.heap[b]?=some (.cells vs elem (0,0))) (hc:C11 M G cs' vs') :
  St C N M G (w.setRow b vs') (put env dst .junk) (N9 H o (.row cs' elem)) (a.put dst undef)∧Ext (fun x=>x=b) M w M (w.setRow b vs'):=by
 have hlt:o < H.length:=(zqu.1 ho).1
 have hown:blk (.row cs elem) (G o)=some b:=by rw [hg]; rfl
 have hMb:∀ off sp,M ⟨b,off,sp⟩=none:=by
  obtain ⟨b',us,g1,_,_,_,_,g6⟩:=h.hrel.obj o _ ho
  rw [hg] at g1
  simp at g1
  subst g1
  exact g6
 have hext:Ext (fun x=>x=b) M w M (w.setRow b vs'):=
  ⟨fun _ _ e=>e,by rw [Ky]; exact zqr _,rfl,rfl,rfl,fun k _ hk=>setRow_other w b k vs' hk,fun _ _ e=>.inl e⟩
 obtain ⟨h1,h2,h3⟩:=Vk h.env h.size hd (x:=.junk) (v:=undef) .junk
 refine ⟨⟨h.good.ext hext (fun ad v e hk=>?_),h.gl.ext h.hrel hext (fun x hx=>by subst hx; exact ⟨o,_,ho,hown⟩),⟨fun i x hi=>?_,fun i i' x x' c hi hi' hx hx'=>?_,fun i hi=>h.hrel.fresh i (by rw [Oi] at hi; exact hi)⟩,h1,h2,h3.trans h.defers⟩,hext⟩
 ·obtain ⟨bb,oo,ss⟩:=ad
  have hk':bb=b:=hk
  subst hk'
  rw [hMb] at e
  cases e
 ·rw [Eb H o _ i hlt] at hi
  split at hi
  ·rename_i e
   subst e
   simp only [zqb] at hi
   subst hi
   refine ⟨b,vs',hg,setRow_heap w b vs vs' elem (0,0) hb,hc.1,hc.2.1,hc.2.2,hMb⟩
  ·rename_i hne
   have hob:=h.hrel.obj i x hi
   exact hob.keep (fun _ _ e=>e) (fun c hcb=>setRow_other w b c vs' fun e=>hne (h.hrel.apart i o x _ b hi ho (e ▸ hcb) hown)) (fun _ _ _ _ e=>e)
 ·have key:∀ (n:Nat) z d,(N9 H o (Ob.row cs' elem))[n]?=some z→blk z (G n)=some d→∃ y,H[n]?=some y∧blk y (G n)=some d:=by
   intro n z d hn hz
   rw [Eb H o _ n hlt] at hn
   by_cases e:n=o
   ·rw [zp e] at hn
    subst e
    obtain rfl:=Option.some.inj hn
    exact ⟨_,ho,by rw [hg] at hz ⊢; exact hz⟩
   ·rw [zn e] at hn
    exact ⟨z,hn,hz⟩
  obtain ⟨y,hy,hby⟩:=key i x c hi hx
  obtain ⟨y',hy',hby'⟩:=key i' x' c hi' hx'
  exact h.hrel.apart i i' y y' c hy hy' hby hby'
theorem P2.setRow {fr:Fr}{M:Mem}{G:Nat→Value}{w w':World}{H:I0}(h:P2 fr M G w H){o b:Nat}{cs cs':List A}{elem:TypeId}
  (ho:H[o]?=some (.row cs elem)) (hg:G o = .pointer (some ⟨b,0,none⟩)) (he:Ext (fun x=>x=b) M w M w'):P2 fr M G w' (N9 H o (.row cs' elem)):=by
 have hlt:o < H.length:=(zqu.1 ho).1
 have hb:Go.Am.own G H b:=⟨o,_,ho,by rw [hg]; rfl⟩
 refine ⟨h.ext.trans he (fun x hx=>by subst hx; exact h.own _ hb),fun c hc=>?_,by rw [Oi]; exact h.len,h.keep,fun i x y hi ht hy=>?_⟩
 ·obtain ⟨i,x,hi,hx⟩:=hc
  rw [Eb H o _ i hlt] at hi
  by_cases e:i=o
  ·rw [zp e] at hi
   subst e
   obtain rfl:=Option.some.inj hi
   rw [hg] at hx
   simp [blk] at hx
   subst hx
   exact h.own _ hb
  ·rw [zn e] at hi
   exact h.own c ⟨i,x,hi,hx⟩
 rw [Eb H o _ i hlt] at hy
 by_cases e:i=o
 ·rw [zp e] at hy
  obtain rfl:=Option.some.inj hy
  rfl
 ·rw [zn e] at hy
  exact h.kind i x y hi ht hy
def Pz (i:TI)(x y:A)(H:I0):Option (Nat×List A×Nat):=
 match x,O9 y with
 | .ref o off,some xs=>match nth H o with
  | some (.row cells elem)=>bif Nat.beq xs.length i.size&&Nat.ble (off+i.size) cells.length then some (o,Dd cells off xs,elem) else none
  | _=>none
 | _,_=>none
theorem Qz (vs:List Value)(off:Nat)(us:List Value)(i:Nat)(h:off+us.length≤vs.length) :
  (vs.take off++us++vs.drop (off+us.length))[i]?=if off≤i∧i < off+us.length then us[i - off]? else vs[i]?:=by
 by_cases h1:i < off
 ·rw [zqx (by simp; omega),zqx (by simp; omega),List.getElem?_take,zp h1,zn (by omega)]
 ·by_cases h2:i < off+us.length
  ·rw [zqx (by simp; omega),List.getElem?_append_right (by simp; omega),zp (by omega)]
   congr 1
   simp
   omega
  ·rw [List.getElem?_append_right (by simp; omega),zn (by omega),List.getElem?_drop]
   congr 1
   simp
   omega
theorem C0.store {F:Fx}(hC:T3 F.C){L l:List Oper}{o:Oper}{env:Env}{H:I0}{Q:Env→I0→Prop}{t:Nat}{x y:Operand}{i:TI}{p:Nat}{cs:List A}{e:Nat}(hw:F2 L env o=some true)(ho:o.op = .store t x y)
  (ht:G4 F.C.T t=some i) (hst:Pz i (ev F.C.GL env x) (ev F.C.GL env y) H=some (p,cs,e)) (k:C0 F L l (put env o.dst .junk) (N9 H p (.row cs e)) Q):C0 F L (o::l) env H Q:=by
 refine Ug hw fun fr M G w a K Qw hK hd hs hsi hk=>?_
 have f:=hC.tok.facts ht
 have hx:=hs.eval x
 have hy:=hs.eval y
 unfold Pz at hst
 split at hst
 ·rename_i o' off xs hxe hye
  split at hst
  ·rename_i cells elem hob
   cases hbb:Nat.beq xs.length i.size&&Nat.ble (off+i.size) cells.length with
   | false=>rw [hbb] at hst; cases hst
   | true=>
    rw [hbb] at hst
    simp only [zqk,zqb,zqh] at hst
    obtain ⟨rfl,rfl,rfl⟩:=hst
    simp only [zqi] at hbb
    have e1:=zqo hbb.1
    have e2:=Nat.le_of_ble_eq_true hbb.2
    rw [hxe] at hx
    generalize hxv:a.eval x=xv at hx
    cases hx
    rename_i b hg
    rw [S3] at hob
    obtain ⟨b',vs,g1,g2,g3,g4,g5,g6⟩:=hs.hrel.obj _ _ hob
    rw [hg] at g1
    simp at g1
    subst g1
    obtain ⟨a1,a2,a3⟩:=Bq hy hye
    have hst:=run_storeCells_at F.C.P b off elem (a.eval y).cells.toList 0 vs w g2 (by simp only [Array.length_toList,a1]; omega) (fun v hv=>by
     obtain ⟨n,hn⟩:=Array.getElem?_of_mem (Array.mem_toList_iff.1 hv)
     exact a2 n v hn)
    have hr:(execOp a.eval o).run F.C.P w = .ok .skip (w.setRow b (vs.toList.take off++(a.eval y).cells.toList++vs.toList.drop (off+(a.eval y).cells.toList.length)).toArray):=by
     unfold execOp
     simp only [ho,hxv,Instr.storeAt,Instr.sureAddr,storeVar,Sem.run_bind,Sem.run_pure,Result.andThen_ok,Gf f w]
     rw [zn (by simp [a1,e1])]
     simp only [Nat.add_zero] at hst
     simp [hst]
    have hlen:(a.eval y).cells.toList.length=xs.length:=by simp [a1]
    have hc:C11 M G (Dd cells off xs) (vs.toList.take off++(a.eval y).cells.toList++vs.toList.drop (off+(a.eval y).cells.toList.length)).toArray:=by
     have hget:=fun n=>Qz vs.toList off (a.eval y).cells.toList n (by rw [hlen]; simp only [Array.length_toList]; omega)
     refine ⟨?_,fun n v hv=>?_,fun n z v hz hv=>?_⟩
     ·rw [Io]
      simp
      omega
     ·rw [List.getElem?_toArray,hget n] at hv
      split at hv
      ·exact a2 _ v (by simpa using hv)
      ·exact g4 n v (by simpa using hv)
     ·rw [List.getElem?_toArray,hget n,hlen] at hv
      rw [Jo cells off xs n (by omega)] at hz
      by_cases hn:off≤n∧n < off+xs.length
      ·rw [zp hn] at hz hv
       exact a3 _ z v hz (by simpa using hv)
      ·rw [zn hn] at hz hv
       exact g5 n z v hz (by simpa using hv)
    obtain ⟨q1,q2⟩:=hs.setRow (Y4 hd) hob hg g2 hc
    unfold Oper.wp
    rw [hr]
    exact hk _ _ _ _ _ _ _ k q1 (hsi.setRow hob hg q2)
  ·cases hst
 ·cases hst
mutual
def W4 (k:Nat):A→Bool
 | .d _ | .junk | .ptr _ | .full _=>true
 | .ref o _=>Nat.blt o k
 | .osl o _=>Nat.blt o k
 | .rsl o _ _ _=>Nat.blt o k
 | .mp o=>Nat.blt o k
 | .clo _ cs=>X2 k cs
 | .bnd _ cs=>X2 k cs
 | .agg cs=>X2 k cs
 | .tup cs=>X2 k cs
def X2 (k:Nat):List A→Bool
 | []=>true
 | x::r=>W4 k x&&X2 k r
end
theorem Ie {k:Nat}:∀ {l:List A},X2 k l=true→∀ x∈l,W4 k x=true
 | [],_,x,h=>by cases h
 | y::r,h,x,hx=>by
  simp only [X2,zqi] at h
  cases hx with
  | head=>exact h.1
  | tail _ hx=>exact Ie h.2 x hx
theorem Nw {k:Nat}{x:A}(h:W4 k x=true){o:Nat}(hn:Names x o):o < k:=by
 induction hn with
 | ref=>simpa [W4] using h
 | osl=>simpa [W4] using h
 | rsl=>simpa [W4] using h
 | mp=>simpa [W4] using h
 | clo hm _ ih=>exact ih (Ie (by simpa only [W4] using h) _ hm)
 | bnd hm _ ih=>exact ih (Ie (by simpa only [W4] using h) _ hm)
 | agg hm _ ih=>exact ih (Ie (by simpa only [W4] using h) _ hm)
 | tup hm _ ih=>exact ih (Ie (by simpa only [W4] using h) _ hm)
def S15 (k:Nat):Ob→Bool
 | .row cs _=>X2 k cs
 | .bld o _=>Nat.blt o k
 | _=>true
inductive LeA:A→A→Prop
 | rfl {x}:LeA x x
 | junk {x}:LeA .junk x
 | osl {o rows}:LeA (.d (.sl rows)) (.osl o rows)
 | full {rows}:LeA (.d (.sl rows)) (.full rows)
 | nbx:LeA (.d (.bxo none)) (.d (.nilv .ptr))
 | nfn:LeA (.d (.fn none)) (.d (.nilv .func))
 | fnc {f}:LeA (.d (.fn (some f))) (.clo f [])
 | agg {xs ys} (hl:xs.length=ys.length) (h:∀ (i:Nat) x y,xs[i]?=some x→ys[i]?=some y→LeA x y):LeA (.agg xs) (.agg ys)
 | tup {xs ys} (hl:xs.length=ys.length) (h:∀ (i:Nat) x y,xs[i]?=some x→ys[i]?=some y→LeA x y):LeA (.tup xs) (.tup ys)
 | clo {f xs ys} (hl:xs.length=ys.length) (h:∀ (i:Nat) x y,xs[i]?=some x→ys[i]?=some y→LeA x y):LeA (.clo f xs) (.clo f ys)
 | bnd {f xs ys} (hl:xs.length=ys.length) (h:∀ (i:Nat) x y,xs[i]?=some x→ys[i]?=some y→LeA x y):LeA (.bnd f xs) (.bnd f ys)
theorem LeA.rel {M:Mem}{G:Nat→Value}{x y:A}(h:LeA x y):∀ {v:Value},O1 M G y v→O1 M G x v:=by
 have get:∀ {xs ys:List A},xs.length=ys.length→∀ {i:Nat} {x:A},xs[i]?=some x→∃ y,ys[i]?=some y:=by
  intro xs ys hl i x hx
  exact ⟨_,zqv (by rw [← hl]; exact (zqu.1 hx).1)⟩
 induction h with
 | rfl=>exact fun h=>h
 | junk=>exact fun _=>.junk
 | osl=>intro v hy; cases hy; exact .d (by assumption)
 | full=>intro v hy; cases hy; exact .d (by assumption)
 | nbx=>intro v hy; cases hy; rename_i hy; cases hy; exact .d .bxnil
 | nfn=>intro v hy; cases hy; rename_i hy; cases hy; exact .d .fnnil
 | fnc=>
  intro v hy
  cases hy with
  | clo hl _=>
   rename_i vs _
   have e:vs = #[]:=Array.eq_empty_of_size_eq_zero (by simpa using hl.symm)
   subst e
   exact .d .fns
 | agg hl _ ih=>
  intro v hy
  cases hy with
  | agg hl' h1 h=>
   refine .agg (by omega) h1 fun i x v hx hv=>?_
   obtain ⟨y,hy⟩:=get hl hx
   exact ih i x y hx hy (h i y v hy hv)
 | tup hl _ ih=>
  intro v hy
  cases hy with
  | tup hl' h=>
   refine .tup (by omega) fun i x v hx hv=>?_
   obtain ⟨y,hy⟩:=get hl hx
   exact ih i x y hx hy (h i y v hy hv)
 | clo hl _ ih=>
  intro v hy
  cases hy with
  | clo hl' h=>
   refine .clo (by omega) fun i x v hx hv=>?_
   obtain ⟨y,hy⟩:=get hl hx
   exact ih i x y hx hy (h i y v hy hv)
 | bnd hl _ ih=>
  intro v hy
  cases hy with
  | bnd hl' h=>
   refine .bnd (by omega) fun i x v hx hv=>?_
   obtain ⟨y,hy⟩:=get hl hx
   exact ih i x y hx hy (h i y v hy hv)
def LeL:List A→List A→Prop
 | [],[]=>True
 | x::xs,y::ys=>LeA x y∧LeL xs ys
 | _,_=>False
theorem LeL.spec:∀ {xs ys:List A},LeL xs ys→xs.length=ys.length∧∀ (i:Nat) x y,xs[i]?=some x→ys[i]?=some y→LeA x y
 | [],[],_=>⟨rfl,fun i x y h=>by simp at h⟩
 | x::xs,y::ys,h=>by
  obtain ⟨h1,h2⟩:=LeL.spec h.2
  refine ⟨by simp [h1],fun i a b ha hb=>?_⟩
  cases i with
  | zero=>simp at ha hb; subst ha; subst hb; exact h.1
  | succ i=>exact h2 i a b (by simpa using ha) (by simpa using hb)
 | [],_::_,h=>h.elim
 | _::_,[],h=>h.elim
theorem LeA.aggL {xs ys:List A}(h:LeL xs ys):LeA (.agg xs) (.agg ys):=.agg h.spec.1 h.spec.2
theorem LeA.tupL {xs ys:List A}(h:LeL xs ys):LeA (.tup xs) (.tup ys):=.tup h.spec.1 h.spec.2
def Nb:List (Nat×A)→Env
 | []=>fun _=>.junk
 | (t,x)::r=>upd (Nb r) t x
def WkE (k:Nat)(env:Env):List (Nat×A)→Prop
 | []=>True
 | (t,x)::r=>(LeA x (env t)∧W4 k x=true)∧WkE k env r
def WkO (k:Nat):Ob→Ob→Prop
 | .dead,_=>True
 | .row cs2 e2,.row cs e=>e2=e∧LeL cs2 cs∧X2 k cs2=true
 | .row _ _,_=>False
 | .bld o e,x=>x = .bld o e∧o < k
 | x2,x=>x2=x
theorem LeL.refl:∀ xs:List A,LeL xs xs
 | []=>trivial
 | _::r=>⟨.rfl,LeL.refl r⟩
theorem WkO.same {k:Nat}{x:Ob}(h:S15 k x=true):WkO k x x:=by
 cases x with
 | dead=>trivial
 | row cs e=>exact ⟨rfl,.refl _,h⟩
 | bld o e=>exact ⟨rfl,by simpa [S15] using h⟩
 | tok e sz=>rfl
 | buf e sz=>rfl
 | map es=>rfl
theorem WkO.row {k:Nat}{cs2:List A}{e:TypeId}{x:Ob}(h:WkO k (.row cs2 e) x):∃ cs,x = .row cs e∧LeL cs2 cs∧X2 k cs2=true:=by
 cases x with
 | row cs e'=>obtain ⟨rfl,h1,h2⟩:=h; exact ⟨cs,rfl,h1,h2⟩
 | _=>exact h.elim
theorem WkO.blk {k:Nat}{x2 x:Ob}{g:Value}{b:Nat}(h:WkO k x2 x)(hb:blk x2 g=some b):blk x g=some b:=by
 cases x2 with
 | dead=>simp [Go.Am.blk] at hb
 | row cs e=>obtain ⟨cs',rfl,_⟩:=h.row; cases g <;> first | exact hb | (rename_i a; cases a <;> exact hb)
 | bld o e=>obtain ⟨rfl,_⟩:=h; exact hb
 | tok e sz=>have : .tok e sz=x:=h; subst this; exact hb
 | buf e sz=>have : .buf e sz=x:=h; subst this; exact hb
 | map es=>have : .map es=x:=h; subst this; exact hb
theorem WkO.isTok {k:Nat}{x2 x:Ob}(h:WkO k x2 x)(hx:isTok x=false):isTok x2=false:=by
 cases x2 with
 | dead=>rfl
 | row cs e=>rfl
 | bld o e=>rfl
 | tok e sz=>have : .tok e sz=x:=h; subst this; exact hx
 | buf e sz=>have : .buf e sz=x:=h; subst this; exact hx
 | map es=>rfl
def WkH (k:Nat):I0→I0→Prop
 | _,[]=>True
 | [],_::_=>False
 | x::H,x2::H2=>WkO k x2 x∧WkH k H H2
theorem WkE.spec {k:Nat}{env:Env}:∀ {L:List (Nat×A)},WkE k env L→∀ t,LeA (Nb L t) (env t)∧W4 k (Nb L t)=true
 | [],_,t=>⟨.junk,rfl⟩
 | (s,x)::r,h,t=>by
  simp only [Nb,upd]
  cases hb:Nat.beq t s with
  | true=>
   have:=zqo hb
   subst this
   exact h.1
  | false=>exact WkE.spec h.2 t
theorem WkH.spec {k:Nat}:∀ {H H2:I0},WkH k H H2→H2.length≤H.length∧∀ (o:Nat) x2,H2[o]?=some x2→∃ x,H[o]?=some x∧WkO k x2 x
 | _,[],_=>⟨Nat.zero_le _,fun o x2 h=>by simp at h⟩
 | [],_::_,h=>h.elim
 | x::H,y::H2,h=>by
  obtain ⟨h1,h2⟩:=WkH.spec h.2
  refine ⟨by simpa using h1,fun o x2 ho=>?_⟩
  cases o with
  | zero=>simp at ho; subst ho; exact ⟨x,rfl,h.1⟩
  | succ o=>simpa using h2 o x2 (by simpa using ho)
def Cc (k:Nat)(G:Nat→Value):Nat→Value:=fun o=>if o < k then G o else .tuple #[]
theorem O1.cut {M:Mem}{G:Nat→Value}{x:A}{v:Value}{k:Nat}(h:O1 M G x v)(hn:W4 k x=true):O1 M (Cc k G) x v:=
 h.mono (fun _ _ e=>e) fun o ho=>by simp [Cc,Nw hn ho]
theorem P7.wk {M:Mem}{G:Nat→Value}{w:World}{H H2:I0}(h:P7 M G w H)(hw:WkH H2.length H H2):P7 M (Cc H2.length G) w H2:=by
 obtain ⟨h1,h2⟩:=hw.spec
 have hlt:∀ {o:Nat} {x:Ob},H2[o]?=some x→o < H2.length:=fun h=>(zqu.1 h).1
 have blkd:∀ {x2 x:Ob} {g:Value} {b:Nat},WkO H2.length x2 x→blk x2 g=some b→blk x g=some b:=fun hw hb=>hw.blk hb
 refine ⟨fun o x2 ho=>?_,fun o o' x x' b ho ho' hb hb'=>?_,fun o ho=>by simp [Cc]; omega⟩
 ·obtain ⟨x,hx,hwk⟩:=h2 o x2 ho
  have hg:Cc H2.length G o=G o:=by simp [Cc,hlt ho]
  rw [hg]
  ·have hob:=h.obj o _ hx
   cases x2 with
   | dead=>trivial
   | row cs e=>
    obtain ⟨cs',rfl,hle,hn⟩:=hwk.row
    obtain ⟨b,us,g1,g2,g3,g4,g5,g6⟩:=hob
    obtain ⟨l1,l2⟩:=hle.spec
    refine ⟨b,us,g1,g2,by omega,g4,fun i y v a c=>?_,g6⟩
    have hil:i < cs'.length:=by rw [← l1]; exact (zqu.1 a).1
    have hz:cs'[i]?=some cs'[i]:=zqv hil
    exact ((l2 i y _ a hz).rel (g5 i _ v hz c)).cut (Ie hn y (List.mem_of_getElem? a))
   | bld o' e=>
    obtain ⟨rfl,hn⟩:=hwk
    obtain ⟨b,v0,g1,g2,g3,g4,g5⟩:=hob
    have hc:Cc H2.length G o'=G o':=by simp [Cc,hn]
    exact ⟨b,v0,g1,by rw [hc]; exact g2,g3,by rw [hc]; exact g4,g5⟩
   | buf e sz=>
    have : .buf e sz=x:=hwk
    subst this
    exact hob
   | tok e sz=>
    have : .tok e sz=x:=hwk
    subst this
    exact hob
   | map es=>
    have : .map es=x:=hwk
    subst this
    obtain ⟨b,ms,cl,g1,g2,g3,g4,g5⟩:=hob
    refine ⟨b,ms,cl,g1,g2,g3,fun i k cs e a c=>⟨(g4 i k cs e a c).1,(g4 i k cs e a c).2.cut ?_⟩,g5⟩
    have:∀ l:List D,X2 H2.length (l.map .d)=true:=fun l=>by
     induction l with
     | nil=>rfl
     | cons x r ih=>simp [X2,W4,ih]
    match cs with
    | []=>simp [Oy,W4,X2]
    | [x]=>simp [Oy,W4]
    | x::y::r=>simp only [Oy,W4]; exact this _
 ·obtain ⟨y,hy,hwk⟩:=h2 o x ho
  obtain ⟨y',hy',hwk'⟩:=h2 o' x' ho'
  have hg:Cc H2.length G o=G o:=by simp [Cc,hlt ho]
  have hg':Cc H2.length G o'=G o':=by simp [Cc,hlt ho']
  rw [hg] at hb
  rw [hg'] at hb'
  exact h.apart o o' y y' b hy hy' (blkd hwk hb) (blkd hwk' hb')
theorem Y14 {G:Nat→Value}{H H2:I0}(hw:WkH H2.length H H2){b:Nat}(h:own (Cc H2.length G) H2 b):own G H b:=by
 obtain ⟨o,x2,ho,hb⟩:=h
 obtain ⟨_,h2⟩:=hw.spec
 obtain ⟨x,hx,hwk⟩:=h2 o x2 ho
 have hlt:=(zqu.1 ho).1
 have hg:Cc H2.length G o=G o:=by simp [Cc,hlt]
 rw [hg] at hb
 exact ⟨o,_,hx,hwk.blk hb⟩
structure Wk (K:Nat)(env:Env)(H:I0)(L:List (Nat×A))(H2:I0):Prop where
 e:WkE H2.length env L
 h:WkH H2.length H H2
 k:Nat.ble K H2.length=true
theorem Wk.st {C:Cx}{N:FN}{K:Nat}{M:Mem}{G:Nat→Value}{w:World}{env:Env}{H:I0}{a:Act}{L:List (Nat×A)}{H2:I0}(hw:Wk K env H L H2)(h:St C N M G w env H a) :
  St C N M (Cc H2.length G) w (Nb L) H2 a:=
 ⟨h.good,h.gl,h.hrel.wk hw.h,fun t=>((hw.e.spec t).1.rel (h.env t)).cut (hw.e.spec t).2,h.size,h.defers⟩
theorem Wk.since {fr:Fr}{K:Nat}{M:Mem}{G:Nat→Value}{w:World}{env:Env}{H:I0}{L:List (Nat×A)}{H2:I0}(hw:Wk K env H L H2)(hK:fr.H0.length=K)(h:P2 fr M G w H) :
  P2 fr M (Cc H2.length G) w H2:=by
 have hle:=Nat.le_of_ble_eq_true hw.k
 refine ⟨h.ext,fun b hb=>h.own b (Y14 hw.h hb),by omega,fun o x ho ht=>?_,fun o x y ho ht hy=>?_⟩
 ·have hlt:=(zqu.1 ho).1
  rw [show Cc H2.length G o=G o by simp [Cc]; omega]
  exact h.keep o x ho ht
 ·obtain ⟨z,hz,hwk⟩:=hw.h.spec.2 o y hy
  exact hwk.isTok (h.kind o x _ ho ht hz)
inductive Ex where
 | normal | exit (id:Nat) | ret
def Ex.to:Ex→Exit
 | .normal=>.normal
 | .exit id=>.exit id
 | .ret=>.ret
abbrev Po:=Ex→Env→I0→Prop
def Fin (F:Fx)(fr:Fr)(Q:Po):Exit→Act→World→Prop:=fun e a w=>
 (∃ x env H M G,e=Ex.to x∧Q x env H∧St F.C F.N M G w env H a∧P2 fr M G w H)∨(∃ v env H M G,e = .panic [{ v:=v,recovered:=false }]∧F.pan v env H∧St F.C F.N M G w env H a∧P2 fr M G w H)∨((e = .ret∨∃ ch,e = .panic ch)∧F.esc fr e a w)
def AEx (F:Fx)(c:Code)(env:Env)(H:I0)(Q:Po):Prop:=
 ∀ fr M G w a,fr.H0.length=F.K→St F.C F.N M G w env H a→P2 fr M G w H→c.wp F.C.P (Fin F fr Q) a w
section
variable {F:Fx}{env:Env}{H:I0}{Q:Po}
def Then (F:Fx)(c:Code)(Q:Po):Po
 | .normal,e,h=>AEx F c e h Q
 | x,e,h=>Q x e h
def Sx (id:Nat)(Q:Po):Po
 | .exit i,e,h=>bif Nat.beq i id then Q .normal e h else Q (.exit i) e h
 | x,e,h=>Q x e h
theorem Rz {fr:Fr}:(∀ env' H' M' G' w' a',Q .normal env' H'→St F.C F.N M' G' w' env' H' a'→P2 fr M' G' w' H'→Fin F fr Q .normal a' w')∧
  ∀ v env' H' M' G' w' a',F.pan v env' H'→St F.C F.N M' G' w' env' H' a'→P2 fr M' G' w' H'→Fin F fr Q (.panic [{ v:=v,recovered:=false }]) a' w':=
 ⟨fun _ _ _ _ _ _ hq hs' hsi'=>.inl ⟨.normal,_,_,_,_,rfl,hq,hs',hsi'⟩,fun v _ _ _ _ _ _ hq hs' hsi'=>.inr (.inl ⟨v,_,_,_,_,rfl,hq,hs',hsi'⟩)⟩
theorem AEx.skip (h:Q .normal env H):AEx F .skip env H Q:=fun _ _ _ _ _ _ hs hsi=>wp_skip (.inl ⟨.normal,_,_,_,_,rfl,h,hs,hsi⟩)
theorem AEx.ret (h:Q .ret env H):AEx F .ret env H Q:=fun _ _ _ _ _ _ hs hsi=>wp_ret (.inl ⟨.ret,_,_,_,_,rfl,h,hs,hsi⟩)
theorem AEx.exit {id:Nat}(h:Q (.exit id) env H):AEx F (.exit id) env H Q:=fun _ _ _ _ _ _ hs hsi=>wp_exit (.inl ⟨.exit id,_,_,_,_,rfl,h,hs,hsi⟩)
theorem AEx.seq {a b:Code}(h:AEx F a env H (Then F b Q)):AEx F (.seq a b) env H Q:=by
 intro fr M G w act hK hs hsi
 refine wp_seq (wp_mono (h fr M G w act hK hs hsi) fun e a' w' he=>?_)
 rcases he with ⟨x,env',H',M',G',rfl,hq,hs',hsi'⟩ | ⟨v,env',H',M',G',rfl,hq⟩ | ⟨rfl | ⟨ch,rfl⟩,hq⟩
 ·cases x with
  | normal=>exact hq fr M' G' w' a' hK hs' hsi'
  | exit id=>exact .inl ⟨.exit id,_,_,_,_,rfl,hq,hs',hsi'⟩
  | ret=>exact .inl ⟨.ret,_,_,_,_,rfl,hq,hs',hsi'⟩
 ·exact .inr (.inl ⟨v,_,_,_,_,rfl,hq⟩)
 ·exact .inr (.inr ⟨.inl rfl,hq⟩)
 ·exact .inr (.inr ⟨.inr ⟨_,rfl⟩,hq⟩)
theorem AEx.block {id:Nat}{c:Code}(h:AEx F c env H (Sx id Q)):AEx F (.block id c) env H Q:=by
 intro fr M G w act hK hs hsi
 refine wp_block (wp_mono (h fr M G w act hK hs hsi) fun e a' w' he=>?_)
 rcases he with ⟨x,env',H',M',G',rfl,hq,hs',hsi'⟩ | ⟨v,env',H',M',G',rfl,hq⟩ | ⟨rfl | ⟨ch,rfl⟩,hq⟩
 ·cases x with
  | normal=>exact .inl ⟨.normal,_,_,_,_,rfl,hq,hs',hsi'⟩
  | exit i=>
   simp only [Sx] at hq
   simp only [Ex.to,Exit.inBlock]
   cases hb:Nat.beq i id with
   | true=>
    rw [hb] at hq
    rw [zp (zqo hb)]
    exact .inl ⟨.normal,_,_,_,_,rfl,hq,hs',hsi'⟩
   | false=>
    rw [hb] at hq
    rw [zn (fun e=>by subst e; simp at hb)]
    exact .inl ⟨.exit i,_,_,_,_,rfl,hq,hs',hsi'⟩
  | ret=>exact .inl ⟨.ret,_,_,_,_,rfl,hq,hs',hsi'⟩
 ·exact .inr (.inl ⟨v,_,_,_,_,rfl,hq⟩)
 ·exact .inr (.inr ⟨.inl rfl,hq⟩)
 ·exact .inr (.inr ⟨.inr ⟨_,rfl⟩,hq⟩)
theorem V16 {C:Cx}{N:FN}{M:Mem}{G:Nat→Value}{w:World}{a:Act}(hs:St C N M G w env H a){c:Operand}{t:Bool}(h:ev C.GL env c = .d (.bool t)):a.eval c = .bool t:=by
 have hr:=hs.eval c
 rw [h] at hr
 generalize a.eval c=v at hr
 cases hr; rename_i hr; cases hr; rfl
theorem AEx.cond {c:Operand}{x y:Code}{t:Bool}(hc:ev F.C.GL env c = .d (.bool t))(h1:t=true→AEx F x env H Q)(h2:t=false→AEx F y env H Q):AEx F (.cond c x y) env H Q:=by
 intro fr M G w act hK hs hsi
 exact wp_cond_split (V16 hs hc) (fun ht=>h1 ht fr M G w act hK hs hsi) (fun ht=>h2 ht fr M G w act hK hs hsi)
def Dk (Q:Po):Env→I0→Prop:=Q .normal
theorem AEx.region {id:Nat}{L:List Oper}(hd:L.all (Q9 F.N)=true)(h:C0 F L L env H (Dk Q)):AEx F (.region id L.toArray false) env H Q:=by
 intro fr M G w act hK hs hsi
 exact wp_region_lit (h fr M G w act _ hK (List.all_eq_true.1 hd) hs hsi Rz)
theorem AEx.wk {c:Code}{L:List (Nat×A)}{H2:I0}(hw:Wk F.K env H L H2)(h:AEx F c (Nb L) H2 Q):AEx F c env H Q:=by
 intro fr M G w act hK hs hsi
 exact h fr M _ w act hK (hw.st hs) (hw.since hK hsi)
end
def Fk (P:Program)(f:FuncId):Bool:=
 match P.funcs[f]? with
 | some fn=>fn.body.isSome && !(fn.name == "runtime.NumGoroutine")
 | none=>false
def Jj (M:Mem)(G:Nat→Value)(w:World)(H:I0)(Q:A→I0→Prop):Ending→World→Prop:=fun e w'=>
 ∃ v r H' M' G',e = .returned v∧Q r H'∧O1 M' G' r v∧Good M' w'∧P7 M' G' w' H'∧Ext (own G H) M w M' w'∧(∀ b,own G' H' b→own G H b∨w.heap.size≤b)∧H.length≤H'.length∧
  ∀ (o:Nat) x,H[o]?=some x→isTok x=false→G' o=G o∧∀ y,H'[o]?=some y→isTok y=false
def W0 (C:Cx)(f:FuncId)(args:List A)(H:I0)(Q:A→I0→Prop):Prop:=
 Fk C.P f=true∧∀ M G w (vs:Array Value),Good M w→Ym C M w→P7 M G w H→args.length=vs.size→(∀ (i:Nat) x v,args[i]?=some x→vs[i]?=some v→O1 M G x v)→
  Calls C.P f vs w (Jj M G w H Q)
def Lo (args:List A):Env:=fun i=>match nth args i with | some x=>x | none=>.junk
def T15 (T:TT)(e:Env)(h:I0):ResultVar→Option A
 | .tmp t=>some (e t)
 | .cell a t=>match G4 T t with | some i=>Lb i (e a) h | none=>none
def Tx (T:TT)(e:Env)(h:I0):List ResultVar→Option (List A)
 | []=>some []
 | r::rs=>match T15 T e h r,Tx T e h rs with | some x,some xs=>some (x::xs) | _,_=>none
def Sy (T:TT)(rs:List ResultVar)(e:Env)(h:I0):Option A:=
 match Tx T e h rs with
 | some [x]=>some x
 | some xs=>some (.tup xs)
 | none=>none
def Pj (F:Fx)(rs:List ResultVar)(Q:A→I0→Prop):Po
 | .exit _,_,_=>False
 | _,e,h=>∃ r0 r H',Sy F.C.T rs e h=some r0∧LeA r r0∧WkH H'.length h H'∧W4 H'.length r=true∧Nat.ble F.K H'.length=true∧Q r H'
def A13 (a:Act):ResultVar→Sem Value
 | .tmp t=>pure (a.tmps.getD t undef)
 | .cell p t=>do loadVar t (← asAddr (a.tmps.getD p undef))
theorem G19 {C:Cx}(hC:T3 C){N:FN}{M:Mem}{G:Nat→Value}{w:World}{env:Env}{H:I0}{a:Act}(hs:St C N M G w env H a){r:ResultVar}{x:A}(h:T15 C.T env H r=some x) :
  ∃ v,(A13 a r).run C.P w = .ok v w∧O1 M G x v:=by
 cases r with
 | tmp t=>
  simp only [T15,zqb] at h
  subst h
  exact ⟨_,rfl,hs.env t⟩
 | cell p t=>
  simp only [T15] at h
  split at h
  ·rename_i i ht
   have hp:=hs.env p
   obtain ⟨v,h1,h2⟩:=Y12 (P:=C.P) hC.tok hs.good hs.hrel ht hp h
   refine ⟨v,?_,h2⟩
   have key:∀ u:Value,(Instr.loadAt t u).run C.P w = .ok v w→((do loadVar t (← asAddr u)):Sem Value).run C.P w = .ok v w:=by
    intro u h1
    unfold Instr.loadAt Instr.sureAddr at h1
    cases u <;> try (simp at h1; done)
    rename_i ad
    cases ad with
    | none=>simp at h1
    | some ad=>simpa [asAddr] using h1
   exact key _ h1
  ·cases h
theorem B13 {C:Cx}(hC:T3 C){N:FN}{M:Mem}{G:Nat→Value}{w:World}{env:Env}{H:I0}{a:Act}(hs:St C N M G w env H a):∀ {rs:List ResultVar} {xs:List A},Tx C.T env H rs=some xs→
  ∃ vs:List Value,(rs.mapM (A13 a)).run C.P w = .ok vs w∧xs.length=vs.length∧
   ∀ (i:Nat) x v,xs[i]?=some x→vs[i]?=some v→O1 M G x v
 | [],xs,h=>by
  simp only [Tx,zqb] at h
  subst h
  exact ⟨[],rfl,rfl,fun i x v h=>by simp at h⟩
 | r::rs,xs,h=>by
  simp only [Tx] at h
  split at h
  ·rename_i x ys hx hxs
   simp only [zqb] at h
   subst h
   obtain ⟨v,h1,h2⟩:=G19 hC hs hx
   obtain ⟨vs,h3,h4,h5⟩:=B13 hC hs hxs
   refine ⟨v::vs,?_,by simp [h4],fun i y u hy hu=>?_⟩
   ·rw [List.mapM_cons]
    simp only [Sem.run_bind,h1,Result.andThen_ok,h3,Sem.run_pure]
   ·cases i with
    | zero=>simp at hy hu; subst hy; subst hu; exact h2
    | succ i=>exact h5 i y u (by simpa using hy) (by simpa using hu)
  ·cases h
theorem U15 {C:Cx}(hC:T3 C){N:FN}{M:Mem}{G:Nat→Value}{w:World}{env:Env}{H:I0}{a:Act}(hs:St C N M G w env H a){fn:Func}{x:A}(h:Sy C.T fn.results.toList env H=some x) :
  ∃ v,(results fn a.tmps).run C.P w = .ok v w∧O1 M G x v:=by
 unfold Sy at h
 have key:∀ {xs:List A},Tx C.T env H fn.results.toList=some xs→∃ vs:List Value,(results fn a.tmps).run C.P w = .ok (if h:vs.toArray.size=1 then vs.toArray[0] else .tuple vs.toArray) w∧xs.length=vs.length∧
   ∀ (i:Nat) x v,xs[i]?=some x→vs[i]?=some v→O1 M G x v:=by
  intro xs hx
  obtain ⟨vs,h1,h2,h3⟩:=B13 hC hs hx
  refine ⟨vs,?_,h2,h3⟩
  have e:results fn a.tmps=(do let vs ← fn.results.mapM (A13 a); pure (if h:vs.size=1 then vs[0] else .tuple vs)):=rfl
  rw [e,Array.mapM_eq_mapM_toList]
  simp only [Sem.run_bind,Sem.run_map,h1,Result.andThen_ok,Sem.run_pure]
 split at h
 ·rename_i y hy
  simp only [zqb] at h
  subst h
  obtain ⟨vs,h1,h2,h3⟩:=key hy
  obtain ⟨v,rfl⟩:∃ v,vs=[v]:=List.length_eq_one_iff.1 h2.symm
  exact ⟨v,h1,h3 0 _ v rfl rfl⟩
 ·rename_i xs hne hxs
  simp only [zqb] at h
  subst h
  obtain ⟨vs,h1,h2,h3⟩:=key hxs
  refine ⟨.tuple vs.toArray,?_,.tup (by simpa using h2) fun i x v hx hv=>h3 i x v hx (by simpa using hv)⟩
  rw [h1]
  rw [dif_neg]
  intro e
  have e':xs.length=1:=by rw [h2]; simpa using e
  obtain ⟨y,hy⟩:=List.length_eq_one_iff.1 e'
  exact hne y hy
 ·cases h
def H19 (M:Mem)(G:Nat→Value)(w:World)(H:I0)(P:Value→I0→Prop):Ending→World→Prop:=fun e w'=>
 ∃ v H' M' G',e = .panicked [{ v:=v,recovered:=false }]∧P v H'∧Good M' w'∧P7 M' G' w' H'∧Ext (own G H) M w M' w'∧(∀ b,own G' H' b→own G H b∨w.heap.size≤b)∧H.length≤H'.length∧
  ∀ (o:Nat) x,H[o]?=some x→isTok x=false→G' o=G o∧∀ y,H'[o]?=some y→isTok y=false
def I2 (C:Cx)(f:FuncId)(args:List A)(H:I0)(Q:A→I0→Prop)(P:Value→I0→Prop):Prop:=
 Fk C.P f=true∧∀ M G w (vs:Array Value),Good M w→Ym C M w→P7 M G w H→args.length=vs.size→(∀ (i:Nat) x v,args[i]?=some x→vs[i]?=some v→O1 M G x v)→
  Calls C.P f vs w (fun e w'=>Jj M G w H Q e w'∨H19 M G w H P e w')
def Ux (K:Nat)(P:Value→I0→Prop):Value→Env→I0→Prop:=fun v _ h=>∃ H',WkH H'.length h H'∧Nat.ble K H'.length=true∧P v H'
theorem Z14 {M M':Mem}{G G':Nat→Value}{w w':World}{H H' H2:I0}(hg:Good M' w')(hh:P7 M' G' w' H')(hsi':P2 ⟨H,G,M,w⟩ M' G' w' H')(h2:WkH H2.length H' H2)(h4:Nat.ble H.length H2.length=true) :
  Good M' w'∧P7 M' (Cc H2.length G') w' H2∧Ext (own G H) M w M' w'∧(∀ b,own (Cc H2.length G') H2 b→own G H b∨w.heap.size≤b)∧H.length≤H2.length∧
   ∀ (o:Nat) x,H[o]?=some x→isTok x=false→Cc H2.length G' o=G o∧∀ y,H2[o]?=some y→isTok y=false:=by
 refine ⟨hg,hh.wk h2,hsi'.ext,fun b hb=>hsi'.own b (Y14 h2 hb),Nat.le_of_ble_eq_true h4,fun o x ho ht=>?_⟩
 have hlt:=(zqu.1 ho).1
 have hle2:=Nat.le_of_ble_eq_true h4
 refine ⟨?_,fun y hy=>?_⟩
 ·rw [show Cc H2.length G' o=G' o by simp [Cc]; omega]
  exact hsi'.keep o x ho ht
 ·obtain ⟨z,hz,hwk⟩:=h2.spec.2 o y hy
  exact hwk.isTok (hsi'.kind o x _ ho ht hz)
theorem Mo {F:Fx}(hC:T3 F.C){N:FN}{fn:Func}{H:I0}{Q:A→I0→Prop}{M M':Mem}{G G':Nat→Value}{w w':World}{env':Env}{H':I0}{a':Act}(hK:F.K=H.length)(hs':St F.C N M' G' w' env' H' a')(hsi':P2 ⟨H,G,M,w⟩ M' G' w' H')
  {x:Ex} (hq:Pj F fn.results.toList Q x env' H'):∃ v,(results fn a'.tmps).run F.C.P w' = .ok v w'∧Jj M G w H Q (.returned v) w':=by
 have fin:∀ (r0 r:A) (H2:I0),Sy F.C.T fn.results.toList env' H'=some r0→LeA r r0→WkH H2.length H' H2→W4 H2.length r=true→Nat.ble F.K H2.length=true→Q r H2→
   ∃ v,(results fn a'.tmps).run F.C.P w' = .ok v w'∧Jj M G w H Q (.returned v) w':=by
  intro r0 r H2 h1 hle h2 h3 h4 h5
  obtain ⟨v,g1,g2⟩:=U15 hC hs' h1
  exact ⟨v,g1,v,r,H2,M',Cc H2.length G',rfl,h5,(hle.rel g2).cut h3,Z14 hs'.good hs'.hrel hsi' h2 (hK ▸ h4)⟩
 cases x with
 | normal=>obtain ⟨r0,r,H2,h1,hle,h2,h3,h4,h5⟩:=hq; exact fin r0 r H2 h1 hle h2 h3 h4 h5
 | ret=>obtain ⟨r0,r,H2,h1,hle,h2,h3,h4,h5⟩:=hq; exact fin r0 r H2 h1 hle h2 h3 h4 h5
 | exit id=>exact hq.elim
theorem V11 {C:Cx}(hC:T3 C){f:FuncId}{fn:Func}{c:Code}{args:List A}{H:I0}{Q:A→I0→Prop}{P:Value→I0→Prop}{pn:Value→Env→I0→Prop}(hpn:∀ v e h,pn v e h→Ux H.length P v e h)(hf:C.P.funcs[f]?=some fn)
  (hn:(fn.name == "runtime.NumGoroutine")=false) (hb:fn.body=some c)
  (ha:Nat.ble args.length fn.ntmps=true) (h:AEx ⟨C,⟨fn.ntmps,[]⟩,H.length,pn,Bh⟩ c (Lo args) H (Pj ⟨C,⟨fn.ntmps,[]⟩,H.length,pn,Bh⟩ fn.results.toList Q)):I2 C f args H Q P:=by
 refine ⟨by simp [Fk,hf,hb,hn],fun M G w vs hg hgl hh hl hr=>?_⟩
 have hle:=Nat.le_of_ble_eq_true ha
 have hs:St C ⟨fn.ntmps,[]⟩ M G w (Lo args) H { tmps:=vs++Array.replicate (fn.ntmps - vs.size) undef,defers:=[] }:=by
  refine ⟨hg,hgl,hh,fun t=>?_,by simp; omega,rfl⟩
  unfold Lo
  cases hx:nth args t with
  | none=>exact .junk
  | some x=>
   rw [S3] at hx
   have hlt:t < vs.size:=by rw [← hl]; exact (zqu.1 hx).1
   have hv:vs[t]?=some vs[t]:=Array.getElem?_eq_getElem hlt
   have:(vs++Array.replicate (fn.ntmps - vs.size) undef).getD t undef=vs[t]:=by
    simp [Array.getD_eq_getD_getElem?,Array.getElem?_append,hlt]
   rw [this]
   exact hr t x _ hx hv
 have hsi:P2 ⟨H,G,M,w⟩ M G w H:=⟨Ext.refl _ _ _,fun b hb=>.inl hb,zqr _,fun _ _ _ _=>rfl,fun o x y hx ht hy=>by rw [hx] at hy; exact Option.some.inj hy ▸ ht⟩
 refine calls_of_wp hf hb (wp_mono (h ⟨H,G,M,w⟩ M G w _ rfl hs hsi) fun e a' w' he=>?_)
 rcases he with ⟨x,env',H',M',G',rfl,hq,hs',hsi'⟩ | ⟨v,env',H',M',G',rfl,hq,hs',hsi'⟩ | ⟨_,hq⟩
 case inr.inr=>exact hq.elim
 ·have hp:=Mo (F:=⟨C,⟨fn.ntmps,[]⟩,H.length,pn,Bh⟩) hC rfl hs' hsi' hq
  cases x with
  | normal=>obtain ⟨v,h1,h2⟩:=hp; exact ⟨hs'.defers,v,h1,.inl h2⟩
  | ret=>obtain ⟨v,h1,h2⟩:=hp; exact ⟨hs'.defers,v,h1,.inl h2⟩
  | exit id=>exact hq.elim
 ·obtain ⟨H2,h2,h4,h5⟩:=hpn _ _ _ hq
  exact ⟨hs'.defers,.inr ⟨v,H2,M',Cc H2.length G',rfl,h5,Z14 hs'.good hs'.hrel hsi' h2 h4⟩⟩
theorem W0.intro {C:Cx}(hC:T3 C){f:FuncId}{fn:Func}{c:Code}{args:List A}{H:I0}{Q:A→I0→Prop}(hf:C.P.funcs[f]?=some fn)(hn:(fn.name == "runtime.NumGoroutine")=false)(hb:fn.body=some c)
  (ha:Nat.ble args.length fn.ntmps=true) (h:AEx (fx C fn.ntmps H.length) c (Lo args) H (Pj (fx C fn.ntmps H.length) fn.results.toList Q)):W0 C f args H Q:=by
 obtain ⟨h1,h2⟩:=V11 (P:=noP) (pn:=Kl) hC (fun _ _ _ h=>h.elim) hf hn hb ha h
 exact ⟨h1,fun M G w vs a b c d e=>(h2 M G w vs a b c d e).mono fun e w' h=>h.resolve_right fun ⟨_,_,_,_,_,h,_⟩=>h.elim⟩
theorem I2.intro {C:Cx}(hC:T3 C){f:FuncId}{fn:Func}{c:Code}{args:List A}{H:I0}{Q:A→I0→Prop}{P:Value→I0→Prop}(hf:C.P.funcs[f]?=some fn)(hn:(fn.name == "runtime.NumGoroutine")=false)(hb:fn.body=some c)
  (ha:Nat.ble args.length fn.ntmps=true) (h:AEx ⟨C,⟨fn.ntmps,[]⟩,H.length,Ux H.length P,Bh⟩ c (Lo args) H (Pj ⟨C,⟨fn.ntmps,[]⟩,H.length,Ux H.length P,Bh⟩ fn.results.toList Q)):I2 C f args H Q P:=
 V11 hC (fun _ _ _ h=>h) hf hn hb ha h
theorem C13 {P:Program}{ρ:Operand→Value}{o:Oper}{fo:Operand}{as:Array Operand}{ts:Array TypeId}{f:FuncId}{caps:Array Value}(ho:o.op = .call { callee:=.value fo,args:=as,argTypes:=ts })
  (hf:ρ fo = .func (.func f) #[] caps) (hk:Fk P f=true) (w:World):(execOp ρ o).run P w = .ok (.enter f (as.map ρ++caps)) w:=by
 unfold Fk at hk
 split at hk
 ·rename_i fn hfn
  simp only [zqi,Bool.not_eq_true'] at hk
  obtain ⟨c,hc⟩:=Option.isSome_iff_exists.1 hk.1
  unfold execOp
  have hne:¬ fn.name = "runtime.NumGoroutine":=by simpa using hk.2
  simp [ho,resolve,hf,Deferred.ofValue,invoke,callFunc,hfn,hne,hc]
 ·cases hk
theorem W16 {P:Program}{o:Oper}{fo:Operand}{as:Array Operand}{ts:Array TypeId}{ρ:Operand→Value}{f:FuncId}{fs:Array Value}(ho:o.op = .call { callee:=.value fo,args:=as,argTypes:=ts })
  (hf:ρ fo = .func (.func f) fs #[]) (hk:Fk P f=true) (w:World):(execOp ρ o).run P w = .ok (.enter f (fs++as.map ρ)) w:=by
 unfold Fk at hk
 split at hk
 ·rename_i fn hfn
  simp only [zqi,Bool.not_eq_true'] at hk
  obtain ⟨c,hc⟩:=Option.isSome_iff_exists.1 hk.1
  unfold execOp
  have hne:¬ fn.name = "runtime.NumGoroutine":=by simpa using hk.2
  simp [ho,resolve,hf,Deferred.ofValue,invoke,callFunc,hfn,hne,hc]
 ·cases hk
def Id (GL:GT)(env:Env)(o:Oper):Option (FuncId×List A):=
 match o.op with
 | .call { callee:=.value fo,args,.. }=>match ev GL env fo with
  | .clo f caps=>some (f,args.toList.map (ev GL env)++caps)
  | .bnd f first=>some (f,first++args.toList.map (ev GL env))
  | .d (.fn (some f))=>some (f,args.toList.map (ev GL env))
  | _=>none
 | _=>none
theorem Ms {C:Cx}{env:Env}{o:Oper}{f:FuncId}{xs:List A}(h:Id C.GL env o=some (f,xs)){M:Mem}{G:Nat→Value}{ρ:Operand→Value}(hρ:∀ y∈o.op.operands,O1 M G (ev C.GL env y) (ρ y))(hk:Fk C.P f=true) :
  ∃ vs:Array Value,(∀ w,(execOp ρ o).run C.P w = .ok (.enter f vs) w)∧xs.length=vs.size∧∀ (i:Nat) x v,xs[i]?=some x→vs[i]?=some v→O1 M G x v:=by
 unfold Id at h
 split at h
 ·rename_i fo as ts ho
  rw [ho] at hρ
  split at h
  ·rename_i g caps hg
   simp only [zqb,zqh] at h
   obtain ⟨rfl,rfl⟩:=h
   have h1:=hρ fo (by simp [Op.operands,Call.operands])
   rw [hg] at h1
   generalize hfv:ρ fo=fv at h1
   cases h1
   rename_i cv hl hr
   refine ⟨as.map ρ++cv,C13 ho hfv hk,by simp [hl],fun i x v hx hv=>?_⟩
   by_cases hi:i < as.size
   ·rw [zqx (by simpa using hi),List.getElem?_map] at hx
    rw [Array.getElem?_append_left (by simpa using hi),Array.getElem?_map] at hv
    cases ha:as[i]? with
    | none=>rw [ha] at hv; cases hv
    | some y=>
     rw [ha] at hv
     rw [Array.getElem?_toList,ha] at hx
     simp only [zqt,zqb] at hx hv
     subst hx; subst hv
     exact hρ y (by simp only [Op.operands,Call.operands,Array.mem_append]; exact .inr (Array.mem_of_getElem? ha))
   ·rw [List.getElem?_append_right (by simp; omega)] at hx
    rw [Array.getElem?_append_right (by simp; omega)] at hv
    simp only [List.length_map,Array.length_toList,Array.size_map] at hx hv
    exact hr _ x v hx hv
  ·rename_i g first hg
   simp only [zqb,zqh] at h
   obtain ⟨rfl,rfl⟩:=h
   have h1:=hρ fo (by simp [Op.operands,Call.operands])
   rw [hg] at h1
   generalize hfv:ρ fo=fv at h1
   cases h1
   rename_i cv hl hr
   refine ⟨cv++as.map ρ,W16 ho hfv hk,by simp [hl],fun i x v hx hv=>?_⟩
   by_cases hi:i < first.length
   ·rw [zqx hi] at hx
    rw [Array.getElem?_append_left (by omega)] at hv
    exact hr _ x v hx hv
   ·rw [List.getElem?_append_right (by omega),List.getElem?_map] at hx
    rw [Array.getElem?_append_right (by omega),Array.getElem?_map,← hl] at hv
    cases ha:as[i - first.length]? with
    | none=>rw [ha] at hv; cases hv
    | some y=>
     rw [ha] at hv
     rw [Array.getElem?_toList,ha] at hx
     simp only [zqt,zqb] at hx hv
     subst hx; subst hv
     exact hρ y (by simp only [Op.operands,Call.operands,Array.mem_append]; exact .inr (Array.mem_of_getElem? ha))
  ·rename_i g hg
   simp only [zqb,zqh] at h
   obtain ⟨rfl,rfl⟩:=h
   have h1:=hρ fo (by simp [Op.operands,Call.operands])
   rw [hg] at h1
   generalize hfv:ρ fo=fv at h1
   cases h1
   rename_i h1
   cases h1
   refine ⟨as.map ρ ++ #[],C13 ho hfv hk,by simp,fun i x v hx hv=>?_⟩
   rw [Array.append_empty,Array.getElem?_map] at hv
   rw [List.getElem?_map] at hx
   cases ha:as[i]? with
   | none=>rw [ha] at hv; cases hv
   | some y=>
    rw [ha] at hv
    rw [Array.getElem?_toList,ha] at hx
    simp only [zqt,zqb] at hx hv
    subst hx; subst hv
    exact hρ y (by simp only [Op.operands,Call.operands,Array.mem_append]; exact .inr (Array.mem_of_getElem? ha))
  ·cases h
 ·cases h
theorem O1.bare {M:Mem}{G G':Nat→Value}{x:A}{v:Value}(h:O1 M G x v)(hn:W4 0 x=true):O1 M G' x v:=
 h.mono (fun _ _ e=>e) fun o ho=>absurd (Nw hn ho) (by omega)
theorem Sz {C:Cx}{f:FuncId}{xs:List A}(hn:X2 0 xs=true){Qr:A→Prop}(hc:W0 C f xs [] (fun r H'=>H'=[]∧Qr r)){M:Mem}{G:Nat→Value}{w:World}(hg:Good M w)(hgl:Ym C M w){vs:Array Value}
  (hl:xs.length=vs.size) (hr:∀ (i:Nat) x v,xs[i]?=some x→vs[i]?=some v→O1 M G x v):Calls C.P f vs w fun e w'=>∃ v r M',e = .returned v∧Qr r∧(∀ G',O1 M' G' r v)∧Good M' w'∧Ext Y6 M w M' w':=by
 refine (hc.2 M (fun _=>.tuple #[]) w vs hg hgl (P7.nil _ _) hl fun i x v hx hv=>(hr i x v hx hv).bare (Ie hn x (List.mem_of_getElem? hx))).mono fun e w' he=>?_
 obtain ⟨v,r,H',M',G',rfl,⟨rfl,hq⟩,h1,h2,h3,h4,_,_,_⟩:=he
 refine ⟨v,r,M',rfl,hq,fun G''=>h1.mono (fun _ _ e=>e) fun o ho=>absurd (h3.fresh o (Nat.zero_le _)) (h1.names ho),h2,h4.weaken fun b hb=>?_⟩
 obtain ⟨o,x,ho,_⟩:=hb
 simp at ho
theorem Ns {C:Cx}{o:Oper}{env:Env}{H:I0}{f:FuncId}{xs:List A}{x:A}(ha:Id C.GL env o=some (f,xs))(hn:X2 0 xs=true)(hc:W0 C f xs [] (fun r H'=>H'=[]∧r=x)):P9 C o env H x:=by
 intro M G w a next Qw hρ hG hgl hH hk
 obtain ⟨vs,h1,h2,h3⟩:=Ms ha hρ hc.1
 unfold Oper.wp
 rw [h1 w]
 refine (Sz hn hc hG hgl h2 h3).mono fun e w' he=>?_
 obtain ⟨v,r,M',rfl,rfl,g1,g2,g3⟩:=he
 exact hk v M' w' (g1 G) g2 g3
theorem C0.call {F:Fx}{L l:List Oper}{o:Oper}{env:Env}{H:I0}{Q:Env→I0→Prop}{f:FuncId}{xs:List A}{x:A}(hw:F2 L env o=some true)(ha:Id F.C.GL env o=some (f,xs))(hn:X2 0 xs=true)
  (hc:W0 F.C f xs [] (fun r H'=>H'=[]∧r=x)) (k:C0 F L l (put env o.dst x) H Q):C0 F L (o::l) env H Q:=.yields hw (Ns ha hn hc) k
def Zf:List A→Option (List A)
 | []=>some []
 | x::r=>match Zf r with | some r'=>some (x::r') | none=>none
theorem Gi:∀ {l l':List A},Zf l=some l'→l'=l
 | [],l',h=>by simp [Zf] at h; exact h
 | x::r,l',h=>by
  simp only [Zf] at h
  split at h
  ·rename_i r' hr
   simp only [zqb] at h
   rw [← h,Gi hr]
  ·cases h
def Ty:List D→Option (List D)
 | []=>some []
 | x::r=>match Ty r with | some r'=>some (x::r') | none=>none
theorem A15:∀ {l l':List D},Ty l=some l'→l'=l
 | [],l',h=>by simp [Ty] at h; exact h
 | x::r,l',h=>by
  simp only [Ty] at h
  split at h
  ·rename_i r' hr
   simp only [zqb] at h
   rw [← h,A15 hr]
  ·cases h
def frc:A→Option A
 | .d (.bool b)=>some (.d (.bool b))
 | .d (.int k n)=>some (.d (.int k n))
 | .d (.str s)=>some (.d (.str s))
 | .d (.sl r)=>some (.d (.sl r))
 | .d (.nilv k)=>some (.d (.nilv k))
 | .d (.box c)=>some (.d (.box c))
 | .d (.bxo c)=>some (.d (.bxo c))
 | .d (.mp e)=>some (.d (.mp e))
 | .d (.fn e)=>some (.d (.fn e))
 | .junk=>some .junk
 | .ref o k=>some (.ref o k)
 | .ptr cs=>match Ty cs with | some cs'=>some (.ptr cs') | none=>none
 | .full r=>some (.full r)
 | .osl o r=>some (.osl o r)
 | .rsl a b c e=>some (.rsl a b c e)
 | .clo f cs=>match Zf cs with | some cs'=>some (.clo f cs') | none=>none
 | .bnd f cs=>match Zf cs with | some cs'=>some (.bnd f cs') | none=>none
 | .agg cs=>match Zf cs with | some cs'=>some (.agg cs') | none=>none
 | .tup cs=>match Zf cs with | some cs'=>some (.tup cs') | none=>none
 | .mp o=>some (.mp o)
theorem Oo {x y:A}(h:frc x=some y):y=x:=by
 unfold frc at h
 split at h <;> first
  | (simp only [zqb] at h; exact h.symm)
  | (split at h
     ·rename_i cs' hc
      simp only [zqb] at h
      first | rw [← h,Gi hc] | rw [← h,A15 hc]
     ·cases h)
def Vd (C:Cx)(L:List Oper)(o:Oper)(env:Env)(H:I0):Option (Option Nat×Prop×A):=
 match F2 L env o with
 | some true=>match opA C.T C.GL o.op env H with
  | some (c,x)=>match frc x with
   | some y=>match o.dst with
    | some t=>some (some t,c,y)
    | none=>some (none,c,y)
   | none=>none
  | none=>none
 | some false=>match o.dst with
  | some t=>some (some t,True,.tup [])
  | none=>some (none,True,.tup [])
 | none=>none
theorem C0.q {F:Fx}(hC:T3 F.C){L l:List Oper}{o:Oper}{env:Env}{H:I0}{Q:Env→I0→Prop}{d:Option Nat}{c:Prop}{x:A}(h:Vd F.C L o env H=some (d,c,x))(hc:c)
  (k:C0 F L l (put env d x) H Q):C0 F L (o::l) env H Q:=by
 unfold Vd at h
 split at h
 ·rename_i hw
  split at h
  ·rename_i c' x' ho
   split at h
   ·rename_i y hy
    have hyx:=Oo hy
    subst hyx
    have:o.dst=d∧c'=c∧y=x:=by
     split at h
     ·rename_i t ht
      simp only [zqb,zqh] at h
      exact ⟨ht.trans h.1,h.2.1,h.2.2⟩
     ·rename_i ht
      simp only [zqb,zqh] at h
      exact ⟨ht.trans h.1,h.2.1,h.2.2⟩
    obtain ⟨rfl,rfl,rfl⟩:=this
    exact .op hC hw ho hc k
   ·cases h
  ·cases h
 ·rename_i hw
  have:o.dst=d∧A.tup []=x:=by
   split at h
   ·rename_i t ht
    simp only [zqb,zqh] at h
    exact ⟨ht.trans h.1,h.2.2⟩
   ·rename_i ht
    simp only [zqb,zqh] at h
    exact ⟨ht.trans h.1,h.2.2⟩
  obtain ⟨rfl,rfl⟩:=this
  exact .skip hw k
 ·cases h
def Cq:I0→Ob→Option (Nat×I0)
 | [],x=>some (0,[x])
 | y::r,x=>match Cq r x with | some (n,r')=>some (n+1,y::r') | none=>none
theorem Zm:∀ {H:I0} {x:Ob} {n:Nat} {H':I0},Cq H x=some (n,H')→n=H.length∧H'=H++[x]
 | [],x,n,H',h=>by simp [Cq] at h; exact ⟨h.1.symm,h.2.symm⟩
 | y::r,x,n,H',h=>by
  simp only [Cq] at h
  split at h
  ·rename_i m r' hr
   simp only [zqb,zqh] at h
   obtain ⟨e1,e2⟩:=Zm hr
   rw [← h.1,← h.2,e1,e2]
   exact ⟨rfl,rfl⟩
  ·cases h
def Fb (o:Oper):Option (Option Nat):=match o.dst with | some t=>some (some t) | none=>some none
theorem Q7 {o:Oper}{d:Option Nat}(h:Fb o=some d):o.dst=d:=by
 unfold Fb at h
 split at h
 ·rename_i t ht; simp only [zqb] at h; exact ht.trans h
 ·rename_i ht; simp only [zqb] at h; exact ht.trans h
def X18 (C:Cx)(L:List Oper)(o:Oper)(env:Env)(H:I0):Option (Option Nat×Nat×I0):=
 match F2 L env o,o.op with
 | some true,.alloc t=>match G4 C.T t with
  | some i=>match Zf (i.zero.map .d) with
   | some cs=>match Cq H (.row cs t),Fb o with | some (n,H'),some d=>some (d,n,H') | _,_=>none
   | none=>none
  | none=>none
 | some true,.box t y=>match O9 (ev C.GL env y) with
  | some cs0=>match Zf cs0 with
   | some cs=>match Cq H (.row cs t),Fb o with | some (n,H'),some d=>some (d,n,H') | _,_=>none
   | none=>none
  | none=>none
 | _,_=>none
theorem C0.n {F:Fx}(hC:T3 F.C){L l:List Oper}{o:Oper}{env:Env}{H H':I0}{Q:Env→I0→Prop}{d:Option Nat}{n:Nat}(h:X18 F.C L o env H=some (d,n,H'))
  (k:C0 F L l (put env d (.ref n 0)) H' Q):C0 F L (o::l) env H Q:=by
 unfold X18 at h
 split at h
 ·rename_i t hw ho
  split at h
  ·rename_i i ht
   split at h
   ·rename_i cs hcs
    split at h
    ·rename_i n' H2 d' hp hd
     simp only [zqb,zqh] at h
     obtain ⟨rfl,rfl,rfl⟩:=h
     obtain ⟨rfl,rfl⟩:=Zm hp
     have:=Gi hcs
     subst this
     refine .alloc hC hw ho ht ?_
     rw [Q7 hd]
     exact k
    ·cases h
   ·cases h
  ·cases h
 ·rename_i t y hw ho
  split at h
  ·rename_i cs0 hc0
   split at h
   ·rename_i cs hcs
    split at h
    ·rename_i n' H2 d' hp hd
     simp only [zqb,zqh] at h
     obtain ⟨rfl,rfl,rfl⟩:=h
     obtain ⟨rfl,rfl⟩:=Zm hp
     have:=Gi hcs
     subst this
     refine .box hw ho hc0 ?_
     rw [Q7 hd]
     exact k
    ·cases h
   ·cases h
  ·cases h
 ·cases h
def Lp:List A→Nat→List A→Option (List A)
 | c,0,[]=>Zf c
 | _::c,0,x::xs=>match Lp c 0 xs with | some r=>some (x::r) | none=>none
 | c::cs,n+1,xs=>match Lp cs n xs with | some r=>some (c::r) | none=>none
 | [],_,_=>some []
theorem Vx:∀ {c:List A} {n:Nat} {xs r:List A},Lp c n xs=some r→r=Dd c n xs
 | [],0,[],r,h=>by simp [Lp,Zf] at h; rw [h]; rfl
 | [],0,_::_,r,h=>by simp [Lp] at h; rw [h]; rfl
 | [],_+1,[],r,h=>by simp [Lp] at h; rw [h]; rfl
 | [],_+1,_::_,r,h=>by simp [Lp] at h; rw [h]; rfl
 | c::cs,0,[],r,h=>by simp only [Lp] at h; rw [Gi h]; rfl
 | c::cs,0,x::xs,r,h=>by
  simp only [Lp] at h
  split at h
  ·rename_i r' hr
   simp only [zqb] at h
   rw [← h,Vx hr]
   rfl
  ·cases h
 | c::cs,n+1,xs,r,h=>by
  simp only [Lp] at h
  split at h
  ·rename_i r' hr
   simp only [zqb] at h
   rw [← h,Vx hr]
   rfl
  ·cases h
def Ll:I0→Nat→Ob→Option I0
 | [],_,_=>some []
 | _::r,0,x=>some (x::r)
 | y::r,n+1,x=>match Ll r n x with | some r'=>some (y::r') | none=>none
theorem Cv:∀ {H:I0} {n:Nat} {x:Ob} {r:I0},Ll H n x=some r→r=N9 H n x
 | [],n,x,r,h=>by simp [Ll] at h; rw [h]; rfl
 | y::H,0,x,r,h=>by simp [Ll] at h; rw [← h]; rfl
 | y::H,n+1,x,r,h=>by
  simp only [Ll] at h
  split at h
  ·rename_i r' hr
   simp only [zqb] at h
   rw [← h,Cv hr]
   rfl
  ·cases h
def Ml (C:Cx)(L:List Oper)(o:Oper)(env:Env)(H:I0):Option I0:=
 match F2 L env o,o.op,o.dst with
 | some true,.store t x y,none=>match G4 C.T t,ev C.GL env x,O9 (ev C.GL env y) with
  | some i,.ref p off,some xs=>match nth H p with
   | some (.row cells e)=>bif Nat.beq xs.length i.size&&Nat.ble (off+i.size) cells.length then (match Lp cells off xs with | some cs=>Ll H p (.row cs e) | none=>none) else none
   | _=>none
  | _,_,_=>none
 | _,_,_=>none
theorem C0.s {F:Fx}(hC:T3 F.C){L l:List Oper}{o:Oper}{env:Env}{H H':I0}{Q:Env→I0→Prop}(h:Ml F.C L o env H=some H')
  (k:C0 F L l env H' Q):C0 F L (o::l) env H Q:=by
 unfold Ml at h
 split at h
 ·rename_i t x y hw ho hd
  split at h
  ·rename_i i p off xs ht hx hxs
   split at h
   ·rename_i cells e hn
    cases hb:Nat.beq xs.length i.size&&Nat.ble (off+i.size) cells.length with
    | false=>rw [hb] at h; cases h
    | true=>
     rw [hb] at h
     simp only [zqk] at h
     split at h
     ·rename_i cs hcs
      have e1:=Vx hcs
      have e2:=Cv h
      subst e1
      subst e2
      have hst:Pz i (ev F.C.GL env x) (ev F.C.GL env y) H=some (p,Dd cells off xs,e):=by
       unfold Pz
       rw [hx,hxs]
       simp only [hn,hb,zqk]
      refine .store hC hw ho ht hst ?_
      rw [hd]
      exact k
     ·cases h
   ·cases h
  ·cases h
 ·cases h
def Pb (C:Cx)(L:List Oper)(o:Oper)(env:Env):Option (Option Nat×FuncId×List A):=
 match F2 L env o,Id C.GL env o with
 | some true,some (f,xs)=>match Zf xs,Fb o with | some ys,some d=>some (d,f,ys) | _,_=>none
 | _,_=>none
theorem Nl {C:Cx}{L:List Oper}{o:Oper}{env:Env}{d:Option Nat}{f:FuncId}{xs:List A}(h:Pb C L o env=some (d,f,xs)):F2 L env o=some true∧Id C.GL env o=some (f,xs)∧o.dst=d:=by
 unfold Pb at h
 split at h
 ·rename_i g ys hw hc
  split at h
  ·rename_i zs d' hz hd
   simp only [zqb,zqh] at h
   obtain ⟨rfl,rfl,rfl⟩:=h
   rw [Gi hz]
   exact ⟨hw,hc,Q7 hd⟩
  ·cases h
 ·cases h
theorem C0.c {F:Fx}{L l:List Oper}{o:Oper}{env:Env}{H:I0}{Q:Env→I0→Prop}{d:Option Nat}{f:FuncId}{xs:List A}{x:A}(h:Pb F.C L o env=some (d,f,xs))(hn:X2 0 xs=true)
  (hc:W0 F.C f xs [] (fun r H'=>H'=[]∧r=x)) (k:C0 F L l (put env d x) H Q):C0 F L (o::l) env H Q:=by
 obtain ⟨h1,h2,rfl⟩:=Nl h
 exact .call h1 h2 hn hc k
def Dq (C:Cx)(L:List Oper)(o:Oper)(env:Env):Option (Option Nat×List (List D)×Int×Nat):=
 match F2 L env o,o.op with
 | some true,.indexAddr t x y=>match G4 C.T t,ev C.GL env y,Jt (ev C.GL env x),Fb o with
  | some i,.d (.int _ n),some rows,some d=>match i.u with
   | .sl e=>match G4 C.T e with | some j=>some (d,rows,n,j.size) | none=>none
   | _=>none
  | _,_,_,_=>none
 | _,_=>none
theorem I19 {M:Mem}{G:Nat→Value}{rows:List Row}{v:Value}(h:O4 M (.sl rows) v){k:Nat}{r:Row}(hk:rows[k]?=some r) :
  ∃ a cap,v = .slice (some a) rows.length cap∧O1 M G (.ptr r) (.pointer (some (a.add (k * r.length)))):=by
 cases h with
 | slnil=>simp at hk
 | sl sz A2 hl hc hm hs hz h1 h2=>
  rename_i a len cap
  have hs:a.spot=none:=by
   rcases hs with h0 | h0
   ·have:=(zqu.1 hk).1; omega
   ·exact h0
  refine ⟨a,cap,by rw [hl],?_⟩
  rw [hz k r hk]
  refine .ptr (fun j=>A2 k j) (by rw [Rv hs]) (fun j x hx=>?_) fun j x hx=>h2 k j r x hk hx
  rw [Lw]
  exact h1 k j r x hk hx
theorem Ol {C:Cx}(hC:T3 C){L:List Oper}{o:Oper}{env:Env}{H:I0}{d:Option Nat}{rows:List (List D)}{n:Int}{sz:Nat}(h:Dq C L o env=some (d,rows,n,sz)){k:Nat}{r:List D}(hn:n=k)
  (hk:rows[k]?=some r) (hsz:Nat.beq r.length sz=true):P9 C o env H (.ptr r):=by
 intro M G w a next Qw hρ hG hgl hH hkk
 unfold Dq at h
 split at h
 ·rename_i t x y hw ho
  rw [ho] at hρ
  split at h
  ·rename_i i kd m rows' d' ht hy hr hd
   split at h
   ·rename_i e hu
    split at h
    ·rename_i j he
     simp only [zqb,zqh] at h
     obtain ⟨rfl,rfl,rfl,rfl⟩:=h
     have hx:=hρ x (by simp [Op.operands])
     have hyy:=hρ y (by simp [Op.operands])
     rw [hy] at hyy
     generalize hyv:a.eval y=yv at hyy
     cases hyy; rename_i hyy; cases hyy
     obtain ⟨ad,cap,hv,hp⟩:=I19 (G:=G) (Ij hr hx) hk
     have hlt:k < rows'.length:=(zqu.1 hk).1
     have hszz:=zqo hsz
     have hu':=Wm (hC.tok.facts ht) hu
     unfold Oper.wp execOp
     have:(Instr.indexAt t (a.eval x) (.int kd m)).run C.P w = .ok (.pointer (some (ad.add (k * r.length)))) w:=by
      have hc:0≤m∧m < (rows'.length:Int):=by omega
      have hm:m.toNat=k:=by omega
      simp [Instr.indexAt,Xm,run_underlying hu',hv,hc,Gf (hC.tok.facts he) w,hszz,hm]
     simp only [ho,hyv,Sem.run_bind,this,Result.andThen_ok,Sem.run_pure,Oper.upon_value]
     exact hkk _ M w hp hG (Ext.refl _ _ _)
    ·cases h
   ·cases h
  ·cases h
 ·cases h
theorem Eq {C:Cx}{L:List Oper}{o:Oper}{env:Env}{d:Option Nat}{rows:List (List D)}{n:Int}{sz:Nat}(h:Dq C L o env=some (d,rows,n,sz)):F2 L env o=some true∧o.dst=d:=by
 unfold Dq at h
 split at h
 ·rename_i t x y hw ho
  split at h
  ·rename_i i kd m rows' d' ht hy hr hd
   split at h
   ·split at h
    ·simp only [zqb,zqh] at h
     obtain ⟨rfl,_⟩:=h
     exact ⟨hw,Q7 hd⟩
    ·cases h
   ·cases h
  ·cases h
 ·cases h
theorem C0.i {F:Fx}(hC:T3 F.C){L l:List Oper}{o:Oper}{env:Env}{H:I0}{Q:Env→I0→Prop}{d:Option Nat}{rows:List (List D)}{n:Int}{sz:Nat}(h:Dq F.C L o env=some (d,rows,n,sz)){k:Nat}{r:List D}(hn:n=k)
  (hk:rows[k]?=some r) (hsz:Nat.beq r.length sz=true) (kk:C0 F L l (put env d (.ptr r)) H Q):C0 F L (o::l) env H Q:=by
 obtain ⟨h1,rfl⟩:=Eq h
 exact .yields h1 (Ol hC h hn hk hsz) kk
def Ds (C:Cx)(L:List Oper)(o:Oper)(env:Env)(H:I0)(x:A):Prop:=
 (F2 L env o=some true∧P9 C o env H x)∨(F2 L env o=some false∧x = .tup [])
def AQ (C:Cx)(L:List Oper):List Oper→Env→I0→(Env→Prop)→Prop
 | [],env,_,Q=>Q env
 | o::r,env,H,Q=>∃ d x,o.dst=d∧Ds C L o env H x∧AQ C L r (put env d x) H Q
theorem AQ.nil {C:Cx}{L:List Oper}{env:Env}{H:I0}{Q:Env→Prop}(h:Q env):AQ C L [] env H Q:=h
theorem AQ.q {C:Cx}(hC:T3 C){L l:List Oper}{o:Oper}{env:Env}{H:I0}{Q:Env→Prop}{d:Option Nat}{c:Prop}{x:A}(h:Vd C L o env H=some (d,c,x))(hc:c)(k:AQ C L l (put env d x) H Q):AQ C L (o::l) env H Q:=by
 unfold Vd at h
 split at h
 ·rename_i hw
  split at h
  ·rename_i c' x' ho
   split at h
   ·rename_i y hy
    have hyx:=Oo hy
    subst hyx
    have:o.dst=d∧c'=c∧y=x:=by
     split at h
     ·rename_i t ht
      simp only [zqb,zqh] at h
      exact ⟨ht.trans h.1,h.2.1,h.2.2⟩
     ·rename_i ht
      simp only [zqb,zqh] at h
      exact ⟨ht.trans h.1,h.2.1,h.2.2⟩
    obtain ⟨rfl,rfl,rfl⟩:=this
    exact ⟨_,_,rfl,.inl ⟨hw,Ko hC ho hc⟩,k⟩
   ·cases h
  ·cases h
 ·rename_i hw
  have:o.dst=d∧A.tup []=x:=by
   split at h
   ·rename_i t ht
    simp only [zqb,zqh] at h
    exact ⟨ht.trans h.1,h.2.2⟩
   ·rename_i ht
    simp only [zqb,zqh] at h
    exact ⟨ht.trans h.1,h.2.2⟩
  obtain ⟨rfl,rfl⟩:=this
  exact ⟨_,_,rfl,.inr ⟨hw,rfl⟩,k⟩
 ·cases h
theorem AQ.c {C:Cx}{L l:List Oper}{o:Oper}{env:Env}{H:I0}{Q:Env→Prop}{d:Option Nat}{f:FuncId}{xs:List A}{x:A}(h:Pb C L o env=some (d,f,xs))(hn:X2 0 xs=true)
  (hc:W0 C f xs [] (fun r H'=>H'=[]∧r=x)) (k:AQ C L l (put env d x) H Q):AQ C L (o::l) env H Q:=by
 obtain ⟨h1,h2,rfl⟩:=Nl h
 exact ⟨_,x,rfl,.inl ⟨h1,Ns h2 hn hc⟩,k⟩
theorem AQ.i {C:Cx}(hC:T3 C){L l:List Oper}{o:Oper}{env:Env}{H:I0}{Q:Env→Prop}{d:Option Nat}{rows:List (List D)}{n:Int}{sz:Nat}(h:Dq C L o env=some (d,rows,n,sz)){k:Nat}{r:List D}(hn:n=k)
  (hk:rows[k]?=some r) (hsz:Nat.beq r.length sz=true) (kk:AQ C L l (put env d (.ptr r)) H Q):AQ C L (o::l) env H Q:=by
 obtain ⟨h1,rfl⟩:=Eq h
 exact ⟨_,_,rfl,.inl ⟨h1,Ol hC h hn hk hsz⟩,kk⟩
theorem AQ.y {C:Cx}{L l:List Oper}{o:Oper}{env:Env}{H:I0}{Q:Env→Prop}{d:Option Nat}(x:A)(hd:Fb o=some d)(hw:F2 L env o=some true)(hy:P9 C o env H x)(k:AQ C L l (put env d x) H Q):AQ C L (o::l) env H Q:=
 ⟨d,x,Q7 hd,.inl ⟨hw,hy⟩,k⟩
def R6 (L:List Oper)(o:Oper):List Nat:=
 (o.op.operands.toList.filterMap fun | .tmp t=>some t | _=>none)++(match o.guard with | some (j,_)=>(match nth L j with | some p=>p.dst.toList | none=>[]) | none=>[])
def Te (L:List Oper):Nat→Nat→Nat→Bool
 | 0,_,_=>false
 | f+1,j,i=>match nth L j with
  | some o=>o.after.toList.any fun e=>Region.binds .any e&&(Nat.beq e.on i||Te L f e.on i)
  | none=>false
def Qb (L:List Oper)(i j:Nat):Bool:=
 match nth L i,nth L j with
 | some p,some q=>(match p.dst with | some d=>(R6 L q).contains d||q.dst == some d | none=>false)||(match q.dst with | some d=>(R6 L p).contains d | none=>false)
 | _,_=>false
def Ow (L:List Oper)(n:Nat):Bool:=
 (List.range L.length).all fun j=>
  (match nth L j with | some o=>o.after.toList.all fun e=>!Region.binds .any e||Nat.blt e.on j | none=>true) &&
  (List.range j).all fun i=>!(Qb L i j||Nat.ble n j)||Te L L.length j i
section
variable {L:List Oper}
theorem Ag {listed:Array Bool}(hc:∀ (j:Nat) o,L[j]?=some o→listed.getD j false=true→∀ e∈o.after,Region.binds .any e=true→listed.getD e.on false=true) :
  ∀ (f j i:Nat),Te L f j i=true→listed.getD j false=true→listed.getD i false=true
 | 0,_,_,h,_=>by simp [Te] at h
 | f+1,j,i,h,hj=>by
  simp only [Te,S3] at h
  split at h
  ·rename_i o ho
   obtain ⟨e,he,hb⟩:=List.any_eq_true.1 h
   simp only [zqi,Bool.or_eq_true] at hb
   have hl:=hc j o ho hj e (by simpa using he) hb.1
   rcases hb.2 with h1 | h1
   ·have:=zqo h1
    subst this
    exact hl
   ·exact Ag hc f e.on i h1 hl
  ·cases h
theorem Rb {listed:Array Bool}(hc:∀ (j:Nat) o,L[j]?=some o→listed.getD j false=true→∀ e∈o.after,Region.binds .any e=true→listed.getD e.on false=true){j:Nat}{o:Oper}(ho:L[j]?=some o)
  (hr:∀ e∈o.after,Region.binds .any e=true→listed.getD e.on false=true):∀ (f i:Nat),Te L f j i=true→listed.getD i false=true
 | 0,_,h=>by simp [Te] at h
 | f+1,i,h=>by
  simp only [Te,S3,ho] at h
  obtain ⟨e,he,hb⟩:=List.any_eq_true.1 h
  simp only [zqi,Bool.or_eq_true] at hb
  have hl:=hr e (by simpa using he) hb.1
  rcases hb.2 with h1 | h1
  ·have:=zqo h1
   subst this
   exact hl
  ·exact Ag hc f e.on i h1 hl
def N4 (L:List Oper)(sel:Nat→Bool)(t:Nat):Nat→Option Nat
 | 0=>none
 | m+1=>if sel m=true∧(L[m]?).bind (·.dst)=some t then some m else N4 L sel t m
theorem Pl {sel:Nat→Bool}{t:Nat}:∀ {m i:Nat},N4 L sel t m=some i→i < m∧sel i=true∧(L[i]?).bind (·.dst)=some t
 | 0,i,h=>by simp [N4] at h
 | m+1,i,h=>by
  simp only [N4] at h
  split at h
  ·rename_i hc
   simp only [zqb] at h
   subst h
   exact ⟨Nat.lt_succ_self _,hc.1,hc.2⟩
  ·obtain ⟨h1,h2⟩:=Pl h
   exact ⟨Nat.lt_succ_of_lt h1,h2⟩
theorem C6 {s s':Nat→Bool}{t:Nat}:∀ {m:Nat},(∀ i,i < m→(L[i]?).bind (·.dst)=some t→s i=s' i)→N4 L s t m=N4 L s' t m
 | 0,_=>rfl
 | m+1,h=>by
  simp only [N4]
  have ih:=C6 (m:=m) (fun i hi=>h i (Nat.lt_succ_of_lt hi))
  by_cases hd:(L[m]?).bind (·.dst)=some t
  ·rw [h m (Nat.lt_succ_self _) hd,ih]
  ·rw [zn (fun hc=>hd hc.2),zn (fun hc=>hd hc.2),ih]
theorem Qo {s:Nat→Bool}{t i:Nat}:∀ {m:Nat},i≤m→(∀ j,i≤j→j < m→(L[j]?).bind (·.dst)=some t→s j=false)→N4 L s t m=N4 L s t i
 | 0,h,_=>by have:i=0:=by omega
             subst this; rfl
 | m+1,h,hj=>by
  by_cases he:i=m+1
  ·subst he; rfl
  ·simp only [N4]
   rw [zn]
   ·exact Qo (by omega) (fun j h1 h2=>hj j h1 (Nat.lt_succ_of_lt h2))
   ·intro hc
    have:=hj m (by omega) (Nat.lt_succ_self _) hc.2
    rw [this] at hc
    cases hc.1
def N2 (L:List Oper)(env:Env)(out:Nat→A)(sel:Nat→Bool)(m:Nat):Env:=fun t=>match N4 L sel t m with | some i=>out i | none=>env t
theorem Tz {env:Env}{out:Nat→A}{sel:Nat→Bool}:N2 L env out sel 0=env:=rfl
theorem Uz {env:Env}{out:Nat→A}{m:Nat}{o:Oper}(ho:L[m]?=some o):N2 L env out (fun _=>true) (m+1)=put (N2 L env out (fun _=>true) m) o.dst (out m):=by
 funext t
 simp only [N2,N4,ho,Option.bind_some,true_and]
 cases hd:o.dst with
 | none=>simp [put,N2]
 | some d=>
  simp only [put,upd,zqb]
  by_cases h:d=t
  ·subst h; simp
  ·rw [zn h]
   have:Nat.beq t d=false:=by
    cases hb:Nat.beq t d with
    | false=>rfl
    | true=>exact absurd (zqo hb).symm h
   rw [this]
   rfl
end
theorem An {GL:GT}{env env':Env}{y:Operand}(h:∀ t,y = .tmp t→env t=env' t):ev GL env y=ev GL env' y:=by
 cases y with
 | tmp t=>exact h t rfl
 | _=>rfl
theorem Zh {L:List Oper}{env env':Env}{o:Oper}(h:∀ t∈R6 L o,env t=env' t):F2 L env o=F2 L env' o:=by
 unfold F2
 split
 ·rfl
 ·rename_i j want hg
  split
  ·rename_i p hp
   split
   ·rename_i d hd
    have:d∈R6 L o:=by simp [R6,hg,hp,hd]
    rw [h d this]
   ·rfl
  ·rfl
theorem AQ.outs {C:Cx}{L:List Oper}{env:Env}{H:I0}{Q:Env→Prop}{n:Nat}(hn:n≤L.length)(h:AQ C L (L.take n) env H Q) :
  ∃ out:Nat→A,(∀ i o,i < n→L[i]?=some o→Ds C L o (N2 L env out (fun _=>true) i) H (out i))∧Q (N2 L env out (fun _=>true) n):=by
 have key:∀ (m k:Nat) (out0:Nat→A),k+m=n→(∀ i o,i < k→L[i]?=some o→Ds C L o (N2 L env out0 (fun _=>true) i) H (out0 i))→
   AQ C L ((L.take n).drop k) (N2 L env out0 (fun _=>true) k) H Q→
   ∃ out:Nat→A,(∀ i o,i < n→L[i]?=some o→Ds C L o (N2 L env out (fun _=>true) i) H (out i))∧Q (N2 L env out (fun _=>true) n):=by
  intro m
  induction m with
  | zero=>
   intro k out0 hk h0 hq
   have:k=n:=by omega
   subst this
   rw [List.drop_eq_nil_of_le (by simp; omega)] at hq
   exact ⟨out0,h0,hq⟩
  | succ m ih=>
   intro k out0 hk h0 hq
   have hlt:k < n:=by omega
   have hkl:k < L.length:=by omega
   have e:(L.take n).drop k=L[k]::(L.take n).drop (k+1):=by
    rw [List.drop_eq_getElem_cons (by simp; omega)]
    simp
   rw [e] at hq
   obtain ⟨d,x,hd,hst,hrest⟩:=hq
   let out1:Nat→A:=fun i=>if i=k then x else out0 i
   have hsame:∀ i,i≤k→N2 L env out1 (fun _=>true) i=N2 L env out0 (fun _=>true) i:=by
    intro i hi
    funext t
    simp only [N2]
    cases hl:N4 L (fun _=>true) t i with
    | none=>rfl
    | some j=>
     have:=(Pl hl).1
     simp only [out1]
     rw [zn (by omega)]
   have hko:L[k]?=some L[k]:=zqv hkl
   refine ih (k+1) out1 (by omega) (fun i o hi ho=>?_) ?_
   ·by_cases hik:i=k
    ·subst hik
     rw [hko] at ho
     simp only [zqb] at ho
     subst ho
     rw [hsame i (zqr _)]
     simpa [out1] using hst
    ·rw [hsame i (by omega)]
     have:=h0 i o (by omega) ho
     simpa [out1,hik] using this
   ·rw [Uz hko,hsame k (zqr _),hd]
    simpa [out1] using hrest
 exact key n 0 (fun _=>.junk) (by omega) (fun i o hi=>by omega) (by simpa [Tz] using h)
structure Wx (L:List Oper)(n:Nat)(listed:Array Bool):Prop where
 size:listed.size=L.length
 closed:∀ (j:Nat) o,L[j]?=some o→listed.getD j false=true→∀ e∈o.after,Region.binds .any e=true→listed.getD e.on false=true
theorem Fq {L:List Oper}{i j:Nat}(h:Qb L i j=true):Qb L j i=true:=by
 unfold Qb at h ⊢
 cases hi:nth L i with
 | none=>simp [hi] at h
 | some p=>
  cases hj:nth L j with
  | none=>simp [hi,hj] at h
  | some q=>
   simp only [hi,hj] at h ⊢
   cases hp:p.dst with
   | none=>
    cases hq:q.dst with
    | none=>simp [hp,hq] at h
    | some d=>simp only [hp,hq] at h ⊢; simp at h ⊢; exact h
   | some d=>
    cases hq:q.dst with
    | none=>simp only [hp,hq] at h ⊢; simp at h ⊢; exact h
    | some e=>
     simp only [hp,hq] at h ⊢
     simp at h ⊢
     rcases h with (h | h) | h
     ·exact .inr h
     ·exact .inl (.inr h.symm)
     ·exact .inl (.inl h)
theorem B9 {listed:Array Bool}{i:Nat}(h:listed.getD i true=false):listed.getD i false=false:=by
 rcases Nat.lt_or_ge i listed.size with h' | h'
 ·simp [h'] at h ⊢; exact h
 ·simp [Array.getElem?_eq_none h'] at h
theorem Ly {L:List Oper}{n:Nat}(h:Ow L n=true):(∀ (j:Nat) o,L[j]?=some o→∀ e∈o.after,Region.binds .any e=true→e.on < j)∧
  ∀ i j,i < j→j < L.length→Qb L i j=true∨n≤j→Te L L.length j i=true:=by
 unfold Ow at h
 refine ⟨fun j o ho e he hb=>?_,fun i j hij hj hc=>?_⟩
 ·have h1:=List.all_eq_true.1 h j (List.mem_range.2 (zqu.1 ho).1)
  simp only [zqi,S3,ho] at h1
  have h2:=List.all_eq_true.1 h1.1 e (by simpa using he)
  rw [hb] at h2
  simpa using h2
 ·have h1:=List.all_eq_true.1 h j (List.mem_range.2 hj)
  simp only [zqi] at h1
  have h2:=List.all_eq_true.1 h1.2 i (List.mem_range.2 hij)
  simp only [Bool.or_eq_true,Bool.not_eq_true',Bool.or_eq_false_iff] at h2
  rcases h2 with ⟨h3,h4⟩ | h2
  ·rcases hc with hc | hc
   ·rw [h3] at hc; cases hc
   ·have:=Nat.ble_eq_true_of_le hc; rw [h4] at this; cases this
  ·exact h2
theorem count_set {listed:Array Bool}{i:Nat}(h:listed.getD i true=false):(listed.setIfInBounds i true).toList.count true=listed.toList.count true+1:=by
 have hi:i < listed.size:=by
  rcases Nat.lt_or_ge i listed.size with h' | h'
  ·exact h'
  ·simp [Array.getElem?_eq_none h'] at h
 have hv:listed[i]=false:=by simpa [hi] using h
 rw [Array.toList_setIfInBounds,List.count_set (by simpa using hi)]
 simp [hv]
theorem Vz {L:List Oper}{listed:Array Bool}(hs:listed.size=L.length)(hc:listed.toList.count true=L.length)(i:Nat)(hi:i < L.length):listed.getD i false=true:=by
 have:listed.toList.count true=listed.toList.length:=by simp [hc,hs]
 have h1:=List.count_eq_length.1 this
 have hi':i < listed.size:=by omega
 have:listed[i]∈listed.toList:=by simp
 have:=h1 _ this
 simp [hi',← this]
theorem AEx.draw {F:Fx}(hC:T3 F.C){id:Nat}{L:List Oper}{env:Env}{H:I0}{Q:Po}(n:Nat)(hd:L.all (Q9 F.N)=true)(hok:Ow L n=true)(hnl:Nat.ble n L.length=true)
  (h:AQ F.C L (L.take n) env H (fun env'=>C0 F L (L.drop n) env' H (Dk Q))):AEx F (.region id L.toArray true) env H Q:=by
 have hn:=Nat.le_of_ble_eq_true hnl
 have hdst:∀ (i:Nat) o,L[i]?=some o→Q9 F.N o=true:=fun i o ho=>List.all_eq_true.1 hd o (List.mem_of_getElem? ho)
 obtain ⟨out,houts,hQ⟩:=h.outs hn
 obtain ⟨hback,hwait⟩:=Ly hok
 intro fr M G w act hK hs hsi
 let Qw:Exit→Act→World→Prop:=Fin F fr Q
 have hsz:L.toArray.size=L.length:=by simp
 have tail:∀ (m k:Nat) (listed:Array Bool) (a:Act) (w:World),k+m=L.length→n≤k→Wx L n listed→(∀ i,i < k→listed.getD i false=true)→(∀ i,k≤i→i < L.length→listed.getD i true=false)→
   wpList F.C.P L.toArray Qw (L.drop k) a w→wpAny F.C.P .any L.toArray Qw m listed a w:=by
  intro m
  induction m with
  | zero=>
   intro k listed a w hk _ hD h1 _ hw
   have hk':k=L.length:=by omega
   have hready:Region.ready .any L.toArray listed=[]:=by
    rw [List.eq_nil_iff_forall_not_mem]
    intro j hj
    obtain ⟨hu,o,ho,_⟩:=mem_ready.1 hj
    have hj':j < L.length:=by simpa using (Array.getElem?_eq_some_iff.1 ho).1
    have:=h1 j (by omega)
    rw [B9 hu] at this
    cases this
   rw [List.drop_eq_nil_of_le (by omega)] at hw
   exact ⟨hready,hw⟩
  | succ m ih=>
   intro k listed a w hk hnk hD h1 h2 hw
   have hkl:k < L.length:=by omega
   have hko:L[k]?=some L[k]:=zqv hkl
   have hkr:k∈Region.ready .any L.toArray listed:=mem_ready.2 ⟨h2 k (zqr _) hkl,L[k],(by simp [hkl]),fun e he hb=>h1 e.on (hback k _ hko e he hb)⟩
   refine ⟨fun h0=>(by rw [h0] at hkr; cases hkr),fun j hj=>?_⟩
   obtain ⟨hu,o,ho,hall⟩:=mem_ready.1 hj
   have hjl:j < L.length:=by simpa using (Array.getElem?_eq_some_iff.1 ho).1
   have hjk:j=k:=by
    rcases Nat.lt_trichotomy j k with hlt | he | hgt
    ·have:=h1 j hlt; rw [B9 hu] at this; cases this
    ·exact he
    ·have hw':=hwait k j hgt hjl (.inr (by omega))
     have:=Rb hD.closed (by simpa using ho) (fun e he hb=>hall e he hb) L.length k hw'
     rw [B9 (h2 k (zqr _) hkl)] at this
     cases this
   subst hjk
   rw [List.drop_eq_getElem_cons hkl] at hw
   have hwp:wpOp F.C.P L.toArray Qw j (wpList F.C.P L.toArray Qw (L.drop (j+1))) a w:=by
    unfold wpOp
    simp only [List.getElem?_toArray,hko]
    exact hw
   refine wpOp_mono (fun a' w' hw'=>ih (j+1) _ a' w' (by omega) (by omega) ⟨by simp [hD.size],fun i o' ho' hl e he hb=>?_⟩ (fun i hi=>?_) (fun i hi hi'=>?_) hw') hwp
   ·by_cases hij:j=i
    ·subst hij
     have:o'=o:=Option.some.inj (ho'.symm.trans (by simpa using ho))
     subst this
     exact getD_set_true (hall e he hb)
    ·rw [getD_set_ne false hij] at hl
     exact getD_set_true (hD.closed i o' ho' hl e he hb)
   ·by_cases hij:j=i
    ·subst hij
     simp [hD.size,hkl]
    ·rw [getD_set_ne false hij]
     exact h1 i (by omega)
   ·rw [getD_set_ne true (by omega)]
    exact h2 i (by omega) hi'
 have head:∀ (m:Nat) (listed:Array Bool) (M:Mem) (G:Nat→Value) (w:World) (a:Act),listed.toList.count true+m=L.length→Wx L n listed→(∀ i,n≤i→i < L.length→listed.getD i true=false)→
   St F.C F.N M G w (N2 L env out (fun i=>listed.getD i false) n) H a→P2 fr M G w H→wpAny F.C.P .any L.toArray Qw m listed a w:=by
  intro m
  induction m with
  | zero=>
   intro listed M G w a hm hD htl hs hsi
   have hall:=Vz hD.size (by omega)
   have hnL:n=L.length:=by
    rcases Nat.lt_or_ge n L.length with h' | h'
    ·have:=hall n h'
     rw [B9 (htl n (zqr _) h')] at this
     cases this
    ·omega
   have henv:N2 L env out (fun i=>listed.getD i false) n=N2 L env out (fun _=>true) n:=by
    funext t
    simp only [N2]
    rw [C6 fun i hi _=>hall i (by omega)]
   rw [henv] at hs
   refine tail 0 n listed a w (by omega) (zqr _) hD (fun i hi=>hall i (by omega)) (fun i h1 h2=>by omega) ?_
   exact hQ fr M G w a Qw hK (fun o ho=>List.all_eq_true.1 hd o (List.mem_of_mem_drop ho)) hs hsi Rz
  | succ m ih=>
   intro listed M G w a hm hD htl hs hsi
   by_cases hdone:∀ i,i < n→listed.getD i false=true
   ·
    have henv:N2 L env out (fun i=>listed.getD i false) n=N2 L env out (fun _=>true) n:=by
     funext t
     simp only [N2]
     rw [C6 fun i hi _=>hdone i hi]
    rw [henv] at hs
    have hcount:listed.toList.count true=n:=by
     have hl:listed.toList=List.replicate n true++List.replicate (L.length - n) false:=by
      apply List.ext_getElem?
      intro i
      by_cases hi:i < n
      ·have hv:=hdone i hi
       have hi':i < listed.size:=by rw [hD.size]; omega
       rw [zqx (by simpa using hi),List.getElem?_replicate,zp hi,Array.getElem?_toList]
       simpa [hi'] using hv
      ·by_cases hi2:i < L.length
       ·have hv:=htl i (by omega) hi2
        have hi':i < listed.size:=by rw [hD.size]; omega
        rw [List.getElem?_append_right (by simp; omega),List.getElem?_replicate,zp (by simp; omega),Array.getElem?_toList]
        simpa [hi'] using hv
       ·rw [List.getElem?_eq_none (by simp [hD.size]; omega),List.getElem?_eq_none (by simp; omega)]
     rw [hl,List.count_append,List.count_replicate,List.count_replicate]
     simp
    refine tail (m+1) n listed a w (by omega) (zqr _) hD hdone htl ?_
    exact hQ fr M G w a Qw hK (fun o ho=>List.all_eq_true.1 hd o (List.mem_of_mem_drop ho)) hs hsi Rz
   ·
    have hex:∃ i,i < n∧listed.getD i false=false∧∀ k,k < i→listed.getD k false=true:=by
     have:∃ i,i < n∧listed.getD i false=false:=by
      rcases Classical.em (∃ i,i < n∧listed.getD i false=false) with h' | h'
      ·exact h'
      ·refine absurd (fun i hi=>?_) hdone
       cases hv:listed.getD i false with
       | true=>rfl
       | false=>exact absurd ⟨i,hi,hv⟩ h'
     obtain ⟨i,hi⟩:=this
     induction i using Nat.strongRecOn with
     | _ i ihi=>
      by_cases hk:∃ k,k < i∧listed.getD k false=false
      ·obtain ⟨k,hk1,hk2⟩:=hk
       exact ihi k hk1 ⟨by omega,hk2⟩
      ·refine ⟨i,hi.1,hi.2,fun k hk'=>?_⟩
       cases hv:listed.getD k false with
       | true=>rfl
       | false=>exact absurd ⟨k,hk',hv⟩ hk
    obtain ⟨i0,hi0,hu0,hbelow⟩:=hex
    have hi0l:i0 < L.length:=by omega
    have hi0o:L[i0]?=some L[i0]:=zqv hi0l
    have hu0':listed.getD i0 true=false:=by
     have hi':i0 < listed.size:=by rw [hD.size]; omega
     simpa [hi'] using hu0
    have hr0:i0∈Region.ready .any L.toArray listed:=mem_ready.2 ⟨hu0',L[i0],(by simp [hi0l]),fun e he hb=>hbelow e.on (hback i0 _ hi0o e he hb)⟩
    refine ⟨fun h0=>(by rw [h0] at hr0; cases hr0),fun j hj=>?_⟩
    obtain ⟨hu,o,ho,hall⟩:=mem_ready.1 hj
    have hoL:L[j]?=some o:=by simpa using ho
    have hjl:j < L.length:=(zqu.1 hoL).1
    have hjn:j < n:=by
     rcases Nat.lt_or_ge j n with h' | h'
     ·exact h'
     ·have hw':=hwait i0 j (by omega) hjl (.inr h')
      have:=Rb hD.closed hoL (fun e he hb=>hall e he hb) L.length i0 hw'
      rw [hu0] at this
      cases this
    have hclash:∀ k,k≠j→k < L.length→(Qb L k j=true∨Qb L j k=true)→(listed.getD k false=true ↔ k < j):=by
     intro k hkj hkl hc
     rcases Nat.lt_or_ge k j with hlt | hge
     ·refine ⟨fun _=>hlt,fun _=>?_⟩
      have hcc:Qb L k j=true:=by
       rcases hc with hc | hc
       ·exact hc
       ·exact Fq hc
      exact Rb hD.closed hoL (fun e he hb=>hall e he hb) L.length k (hwait k j hlt hjl (.inl hcc))
     ·refine ⟨fun hl=>?_,fun h'=>by omega⟩
      have hcc:Qb L j k=true:=by
       rcases hc with hc | hc
       ·exact Fq hc
       ·exact hc
      have:=Ag hD.closed L.length k j (hwait j k (by omega) hkl (.inl hcc)) hl
      rw [B9 hu] at this
      cases this
    have hread:∀ t∈R6 L o,N2 L env out (fun i=>listed.getD i false) n t=N2 L env out (fun _=>true) j t:=by
     intro t ht
     have hw:∀ k,k≠j→(L[k]?).bind (·.dst)=some t→Qb L k j=true:=by
      intro k hkj hk
      unfold Qb
      simp only [S3,hoL]
      cases hk':L[k]? with
      | none=>rw [hk'] at hk; cases hk
      | some p=>
       rw [hk'] at hk
       simp only [Option.bind_some] at hk
       simp only [hk]
       have:(R6 L o).contains t=true:=by simpa using ht
       rw [this]
       simp
     have hlt:∀ k,(L[k]?).bind (·.dst)=some t→k < L.length:=by
      intro k hk
      cases hk':L[k]? with
      | none=>rw [hk'] at hk; cases hk
      | some p=>exact (zqu.1 hk').1
     simp only [N2]
     have e1:N4 L (fun i=>listed.getD i false) t n=N4 L (fun i=>decide (i < j)) t n:=C6 fun k hk hkd=>by
      by_cases hkj:k=j
      ·subst hkj
       simp [B9 hu]
      ·have:=hclash k hkj (hlt k hkd) (.inl (hw k hkj hkd))
       cases hb:listed.getD k false with
       | true=>simp [this.1 hb]
       | false=>
        have:¬ k < j:=fun h'=>by rw [this.2 h'] at hb; cases hb
        simp [this]
     have e2:N4 L (fun i=>decide (i < j)) t n=N4 L (fun i=>decide (i < j)) t j:=Qo (by omega) fun k h1 h2 _=>by simp; omega
     have e3:N4 L (fun i=>decide (i < j)) t j=N4 L (fun _=>true) t j:=C6 fun k hk _=>by simp [hk]
     rw [e1,e2,e3]
    have hafter:N2 L env out (fun i=>(listed.setIfInBounds j true).getD i false) n=put (N2 L env out (fun i=>listed.getD i false) n) o.dst (out j):=by
     have hjs:j < listed.size:=by rw [hD.size]; exact hjl
     have N9:∀ k,(listed.setIfInBounds j true).getD k false=(decide (k=j)||listed.getD k false):=by
      intro k
      by_cases hk:j=k
      ·subst hk; simp [hjs]
      ·rw [getD_set_ne false hk]
       have:¬ k=j:=fun h'=>hk h'.symm
       simp [this]
     funext t
     simp only [N2,N9]
     cases hdo:o.dst with
     | none=>
      have:N4 L (fun i=>decide (i=j)||listed.getD i false) t n=N4 L (fun i=>listed.getD i false) t n:=C6 fun k hk hkd=>by
       have:k≠j:=fun h'=>by subst h'; rw [hoL] at hkd; simp [hdo] at hkd
       simp [this]
      rw [this]
      rfl
     | some d=>
      simp only [put,upd]
      by_cases htd:t=d
      ·subst htd
       have hbt:Nat.beq t t=true:=by simp
       rw [hbt,_root_.cond_true]
       have e1:N4 L (fun i=>decide (i=j)||listed.getD i false) t n=N4 L (fun i=>decide (i=j)||listed.getD i false) t (j+1):=Qo (by omega) fun k h1 h2 hkd=>by
        have hkj:k≠j:=by omega
        have hcl:Qb L k j=true:=by
         unfold Qb
         cases hk':L[k]? with
         | none=>rw [hk'] at hkd; cases hkd
         | some p=>
          rw [hk'] at hkd
          simp only [Option.bind_some] at hkd
          simp only [S3,hoL,hk',hkd,hdo]
          simp
        have:=hclash k hkj (by omega) (.inl hcl)
        cases hb:listed.getD k false with
        | false=>simp [hkj]
        | true=>have:=this.1 hb; omega
       rw [e1]
       simp [N4,hoL,hdo]
      ·have:Nat.beq t d=false:=by
        cases hb:Nat.beq t d with
        | false=>rfl
        | true=>exact absurd (zqo hb) htd
       rw [this,_root_.cond_false]
       have:N4 L (fun i=>decide (i=j)||listed.getD i false) t n=N4 L (fun i=>listed.getD i false) t n:=C6 fun k hk hkd=>by
        have:k≠j:=fun h'=>by subst h'; rw [hoL] at hkd; simp [hdo] at hkd; exact htd hkd.symm
        simp [this]
       rw [this]
       rfl
    have hD':Wx L n (listed.setIfInBounds j true):=⟨by simp [hD.size],fun i o' ho' hl e he hb=>by
     by_cases hij:j=i
     ·subst hij
      have:o'=o:=Option.some.inj (ho'.symm.trans hoL)
      subst this
      exact getD_set_true (hall e he hb)
     ·rw [getD_set_ne false hij] at hl
      exact getD_set_true (hD.closed i o' ho' hl e he hb)⟩
    have htl':∀ i,n≤i→i < L.length→(listed.setIfInBounds j true).getD i true=false:=fun i h1 h2=>by
     rw [getD_set_ne true (by omega)]
     exact htl i h1 h2
    have hcnt:(listed.setIfInBounds j true).toList.count true+m=L.length:=by rw [count_set hu]; omega
    have hwcongr:F2 L (N2 L env out (fun i=>listed.getD i false) n) o=F2 L (N2 L env out (fun _=>true) j) o:=Zh hread
    have hev:∀ y∈o.op.operands,ev F.C.GL (N2 L env out (fun i=>listed.getD i false) n) y=ev F.C.GL (N2 L env out (fun _=>true) j) y:=by
     intro y hy
     refine An fun t ht=>hread t ?_
     subst ht
     simp only [R6,List.mem_append,List.mem_filterMap]
     exact .inl ⟨.tmp t,by simpa using hy,rfl⟩
    unfold wpOp
    simp only [List.getElem?_toArray,hoL]
    rcases houts j o hjn hoL with ⟨hw,hy⟩ | ⟨hw,hx⟩
    ·rw [Mb hs (hwcongr.trans hw)]
     simp only [zt]
     refine .inl (hy M G w a _ Qw (fun y hyo=>by rw [← hev y hyo]; exact hs.eval y) hs.good hs.gl hs.hrel fun v M' w' h1 h2 h3=>?_)
     refine ih _ M' G w' _ hcnt hD' htl' ?_ (hsi.quiet h3)
     rw [hafter]
     exact hs.quiet (Y4 (hdst j o hoL)) h1 h2 h3
    ·rw [Mb hs (hwcongr.trans hw)]
     simp only [zqa,zw]
     refine ih _ M G w _ hcnt hD' htl' ?_ hsi
     rw [hafter,hx]
     exact hs.quiet (Y4 (hdst j o hoL)) (.tup rfl fun i x v h=>by simp at h) hs.good (Ext.refl _ _ _)
 refine wp_region_any hC.mixed ?_
 have h0:∀ i,(Array.replicate L.toArray.size false).getD i false=false:=fun i=>by
  rcases Nat.lt_or_ge i L.length with h' | h' <;> simp [h']
 have hs':St F.C F.N M G { w with drawn:=w.drawn+1 } env H act:=
  ⟨fun a v e=>hs.good a v e,hs.gl.ext hs.hrel (S:=Y6) ⟨fun _ _ e=>e,zqr _,rfl,rfl,rfl,fun _ _ _=>rfl,fun _ _ e=>.inl e⟩ (fun _ h=>h.elim),hs.hrel.ext (S:=Y6) ⟨fun _ _ e=>e,zqr _,rfl,rfl,rfl,fun _ _ _=>rfl,fun _ _ e=>.inl e⟩ (fun _ _ h=>h),hs.env,hs.size,hs.defers⟩
 have hsi':P2 fr M G { w with drawn:=w.drawn+1 } H:=hsi.quiet ⟨fun _ _ e=>e,zqr _,rfl,rfl,rfl,fun _ _ _=>rfl,fun _ _ e=>.inl e⟩
 have henv0:N2 L env out (fun i=>(Array.replicate L.toArray.size false).getD i false) n=env:=by
  funext t
  simp only [N2]
  cases hl:N4 L (fun i=>(Array.replicate L.toArray.size false).getD i false) t n with
  | none=>rfl
  | some i=>have:=(Pl hl).2.1; rw [h0] at this; cases this
 have:=head L.length (Array.replicate L.toArray.size false) M G _ act (by simp [List.count_replicate]) ⟨by simp,fun j o ho hl=>by rw [h0] at hl; cases hl⟩ (fun i h1 h2=>by simp [h2]) (by rw [henv0]; exact hs') hsi'
 rw [hsz]
 rw [hsz] at this
 exact this
mutual
def ren (f:Nat→Nat):A→A
 | .d x=>.d x
 | .junk=>.junk
 | .ref o k=>.ref (f o) k
 | .ptr c=>.ptr c
 | .full r=>.full r
 | .osl o r=>.osl (f o) r
 | .rsl o a b c=>.rsl (f o) a b c
 | .clo g cs=>.clo g (Dc f cs)
 | .bnd g cs=>.bnd g (Dc f cs)
 | .agg cs=>.agg (Dc f cs)
 | .tup xs=>.tup (Dc f xs)
 | .mp o=>.mp (f o)
def Dc (f:Nat→Nat):List A→List A
 | []=>[]
 | x::r=>ren f x::Dc f r
end
def Ql (f:Nat→Nat):Ob→Ob
 | .row cs e=>.row (Dc f cs) e
 | .bld o e=>.bld (f o) e
 | x=>x
theorem Bn (f:Nat→Nat):∀ (l:List A) (i:Nat),(Dc f l)[i]?=(l[i]?).map (ren f)
 | [],i=>by simp [Dc]
 | x::r,0=>by simp [Dc]
 | x::r,i+1=>by simp [Dc,Bn f r i]
theorem Gb (f:Nat→Nat):∀ l:List A,(Dc f l).length=l.length
 | []=>rfl
 | x::r=>by simp [Dc,Gb f r]
mutual
theorem X16 {M:Mem}{G:Nat→Value}{f:Nat→Nat}:∀ (x:A) (v:Value),O1 M G (ren f x) v→O1 M (fun i=>G (f i)) x v
 | .d x,v,h=>by simp only [ren] at h; cases h; exact .d (by assumption)
 | .junk,v,_=>.junk
 | .ref o k,v,h=>by simp only [ren] at h; cases h; exact .ref (by assumption)
 | .ptr c,v,h=>by simp only [ren] at h; cases h; rename_i a b c d; exact .ptr a b c d
 | .full r,v,h=>by simp only [ren] at h; cases h; exact .full (by assumption) (by assumption)
 | .osl o r,v,h=>by simp only [ren] at h; cases h; exact .osl (by assumption) (by assumption)
 | .rsl o a b c,v,h=>by simp only [ren] at h; cases h; rename_i a b c; exact .rsl (by assumption) (by assumption) (by assumption)
 | .clo g cs,v,h=>by
  simp only [ren] at h
  cases h
  rename_i vs hl hr
  exact .clo (by rw [← hl,Gb]) (Xk cs vs hr)
 | .bnd g cs,v,h=>by
  simp only [ren] at h
  cases h
  rename_i vs hl hr
  exact .bnd (by rw [← hl,Gb]) (Xk cs vs hr)
 | .agg cs,v,h=>by
  simp only [ren] at h
  cases h
  rename_i vs h1 hl hr
  exact .agg (by rw [← hl,Gb]) h1 (Xk cs vs hr)
 | .tup cs,v,h=>by
  simp only [ren] at h
  cases h
  rename_i vs hl hr
  exact .tup (by rw [← hl,Gb]) (Xk cs vs hr)
 | .mp o,v,h=>by simp only [ren] at h; cases h; exact .mp (by assumption)
theorem Xk {M:Mem}{G:Nat→Value}{f:Nat→Nat}:∀ (l:List A) (vs:Array Value),(∀ (i:Nat) x v,(Dc f l)[i]?=some x→vs[i]?=some v→O1 M G x v)→∀ (i:Nat) x v,l[i]?=some x→vs[i]?=some v→O1 M (fun i=>G (f i)) x v
 | [],vs,_,i,x,v,hx,_=>by simp at hx
 | y::r,vs,h,i,x,v,hx,hv=>by
  cases i with
  | zero=>
   simp at hx
   subst hx
   exact X16 y v (h 0 _ v rfl hv)
  | succ i=>
   have:=Xk r (vs.extract 1 vs.size) (fun j z u hz hu=>by
    have hlt:=(Array.getElem?_eq_some_iff.1 hu).1
    simp only [Array.size_extract] at hlt
    rw [Array.getElem?_extract,zp (by omega)] at hu
    exact h (j+1) z u (by simpa [Dc] using hz) (by rw [← hu]; congr 1; omega)) i x v (by simpa using hx) (by
    have hlt:=(Array.getElem?_eq_some_iff.1 hv).1
    rw [Array.getElem?_extract,zp (by omega),← hv]
    congr 1; omega)
   exact this
end
theorem B15 {M:Mem}{G G':Nat→Value}{f:Nat→Nat}{x:A}{v:Value}(h:O1 M G x v)(hg:∀ o,Names x o→G' (f o)=G o):O1 M G' (ren f x) v:=by
 induction h with
 | d h=>simp only [ren]; exact .d h
 | junk=>simp only [ren]; exact .junk
 | ref h=>simp only [ren]; exact .ref ((hg _ .ref).trans h)
 | ptr a b c d=>simp only [ren]; exact .ptr a b c d
 | full a b=>simp only [ren]; exact .full a b
 | osl a b=>simp only [ren]; exact .osl a ((hg _ .osl).trans b)
 | rsl a b c=>simp only [ren]; exact .rsl ((hg _ .rsl).trans a) b c
 | clo hl _ ih=>
  simp only [ren]
  refine .clo (by rw [Gb]; exact hl) fun i x v hx hv=>?_
  rw [Bn] at hx
  cases hc:(‹List A› : List A)[i]? with
  | none=>rw [hc] at hx; cases hx
  | some y=>
   rw [hc] at hx
   simp only [zqt,zqb] at hx
   subst hx
   exact ih i y v hc hv fun o ho=>hg o (.clo (List.mem_of_getElem? hc) ho)
 | bnd hl _ ih=>
  simp only [ren]
  refine .bnd (by rw [Gb]; exact hl) fun i x v hx hv=>?_
  rw [Bn] at hx
  cases hc:(‹List A› : List A)[i]? with
  | none=>rw [hc] at hx; cases hx
  | some y=>
   rw [hc] at hx
   simp only [zqt,zqb] at hx
   subst hx
   exact ih i y v hc hv fun o ho=>hg o (.bnd (List.mem_of_getElem? hc) ho)
 | agg hl h1 _ ih=>
  simp only [ren]
  refine .agg (by rw [Gb]; exact hl) h1 fun i x v hx hv=>?_
  rw [Bn] at hx
  cases hc:(‹List A› : List A)[i]? with
  | none=>rw [hc] at hx; cases hx
  | some y=>
   rw [hc] at hx
   simp only [zqt,zqb] at hx
   subst hx
   exact ih i y v hc hv fun o ho=>hg o (.agg (List.mem_of_getElem? hc) ho)
 | tup hl _ ih=>
  simp only [ren]
  refine .tup (by rw [Gb]; exact hl) fun i x v hx hv=>?_
  rw [Bn] at hx
  cases hc:(‹List A› : List A)[i]? with
  | none=>rw [hc] at hx; cases hx
  | some y=>
   rw [hc] at hx
   simp only [zqt,zqb] at hx
   subst hx
   exact ih i y v hc hv fun o ho=>hg o (.tup (List.mem_of_getElem? hc) ho)
 | mp h=>simp only [ren]; exact .mp ((hg _ .mp).trans h)
mutual
def dg (ps:List Nat):A→A
 | .osl o r=>bif ps.contains o then .d (.sl r) else .osl o r
 | .clo g cs=>.clo g (dgL ps cs)
 | .bnd g cs=>.bnd g (dgL ps cs)
 | .agg cs=>.agg (dgL ps cs)
 | .tup xs=>.tup (dgL ps xs)
 | .d x=>.d x
 | .junk=>.junk
 | .ref o k=>.ref o k
 | .ptr c=>.ptr c
 | .full r=>.full r
 | .rsl o a b c=>.rsl o a b c
 | .mp o=>.mp o
def dgL (ps:List Nat):List A→List A
 | []=>[]
 | x::r=>dg ps x::dgL ps r
end
def dgO (ps:List Nat):Ob→Ob
 | .row cs e=>.row (dgL ps cs) e
 | .bld o e=>bif ps.contains o then .dead else .bld o e
 | x=>x
theorem W11 (ps:List Nat)(x:Ob):isTok (dgO ps x)=isTok x:=by
 cases x with
 | bld o e=>simp only [dgO]; cases ps.contains o <;> rfl
 | _=>rfl
theorem Kq (ps:List Nat):∀ (l:List A) (i:Nat),(dgL ps l)[i]?=(l[i]?).map (dg ps)
 | [],i=>by simp [dgL]
 | x::r,0=>by simp [dgL]
 | x::r,i+1=>by simp [dgL,Kq ps r i]
theorem Lq (ps:List Nat):∀ l:List A,(dgL ps l).length=l.length
 | []=>rfl
 | x::r=>by simp [dgL,Lq ps r]
theorem D13 {M:Mem}{G G':Nat→Value}{ps:List Nat}{x:A}{v:Value}(h:O1 M G x v)(hps:∀ p∈ps,∃ a l c,G p = .slice a l c)(hg:∀ o,o ∉ ps→G o≠.tuple #[]→G' o=G o):O1 M G' (dg ps x) v:=by
 have notin:∀ o,(∀ a l c,G o≠.slice a l c)→o ∉ ps:=fun o h' hm=>by obtain ⟨a,l,c,e⟩:=hps o hm; exact h' a l c e
 induction h with
 | d h=>simp only [dg]; exact .d h
 | junk=>simp only [dg]; exact .junk
 | ref h=>simp only [dg]; exact .ref ((hg _ (notin _ (by rw [h]; simp)) (by rw [h]; simp)).trans h)
 | ptr a b c d=>simp only [dg]; exact .ptr a b c d
 | full a b=>simp only [dg]; exact .full a b
 | osl a b=>
  rename_i o rows v
  simp only [dg]
  cases hc:ps.contains o with
  | true=>exact .d a
  | false=>exact .osl a ((hg _ (by simpa using hc) (by rw [b]; cases a <;> simp)).trans b)
 | rsl a b c=>simp only [dg]; exact .rsl ((hg _ (notin _ (by rw [a]; simp)) (by rw [a]; simp)).trans a) b c
 | clo hl _ ih=>
  simp only [dg]
  refine .clo (by rw [Lq]; exact hl) fun i x v hx hv=>?_
  rw [Kq] at hx
  cases hc:(‹List A› : List A)[i]? with
  | none=>rw [hc] at hx; cases hx
  | some y=>
   rw [hc] at hx
   simp only [zqt,zqb] at hx
   subst hx
   exact ih i y v hc hv
 | bnd hl _ ih=>
  simp only [dg]
  refine .bnd (by rw [Lq]; exact hl) fun i x v hx hv=>?_
  rw [Kq] at hx
  cases hc:(‹List A› : List A)[i]? with
  | none=>rw [hc] at hx; cases hx
  | some y=>
   rw [hc] at hx
   simp only [zqt,zqb] at hx
   subst hx
   exact ih i y v hc hv
 | agg hl h1 _ ih=>
  simp only [dg]
  refine .agg (by rw [Lq]; exact hl) h1 fun i x v hx hv=>?_
  rw [Kq] at hx
  cases hc:(‹List A› : List A)[i]? with
  | none=>rw [hc] at hx; cases hx
  | some y=>
   rw [hc] at hx
   simp only [zqt,zqb] at hx
   subst hx
   exact ih i y v hc hv
 | tup hl _ ih=>
  simp only [dg]
  refine .tup (by rw [Lq]; exact hl) fun i x v hx hv=>?_
  rw [Kq] at hx
  cases hc:(‹List A› : List A)[i]? with
  | none=>rw [hc] at hx; cases hx
  | some y=>
   rw [hc] at hx
   simp only [zqt,zqb] at hx
   subst hx
   exact ih i y v hc hv
 | mp h=>simp only [dg]; exact .mp ((hg _ (notin _ (by rw [h]; simp)) (by rw [h]; simp)).trans h)
theorem C15 {M:Mem}{G G':Nat→Value}{w:World}{ps:List Nat}{x:Ob}{g:Value}(h:Zg M G w x g)(hps:∀ p∈ps,∃ a l c,G p = .slice a l c)(hg:∀ o,o ∉ ps→G o≠.tuple #[]→G' o=G o):Zg M G' w (dgO ps x) g:=by
 cases x with
 | dead=>trivial
 | row cs e=>
  obtain ⟨b,us,g1,g2,g3,g4,g5,g6⟩:=h
  refine ⟨b,us,g1,g2,by rw [Lq]; exact g3,g4,fun i y v hy hv=>?_,g6⟩
  rw [Kq] at hy
  cases hc:cs[i]? with
  | none=>rw [hc] at hy; cases hy
  | some z=>
   rw [hc] at hy
   simp only [zqt,zqb] at hy
   subst hy
   exact D13 (g5 i z v hc hv) hps hg
 | bld o e=>
  simp only [dgO]
  cases hc:ps.contains o with
  | true=>trivial
  | false=>
   obtain ⟨b,v0,g1,g2,g3,g4,g5⟩:=h
   have e':=hg o (by simpa using hc) g4
   exact ⟨b,v0,g1,by rw [e']; exact g2,g3,by rw [e']; exact g4,g5⟩
 | buf e sz=>exact h
 | tok e sz=>exact h
 | map es=>
  obtain ⟨b,ms,cl,g1,g2,g3,g4,g5⟩:=h
  refine ⟨b,ms,cl,g1,g2,g3,fun i k cs e a c=>⟨(g4 i k cs e a c).1,?_⟩,g5⟩
  refine ((g4 i k cs e a c).2).mono (fun _ _ e=>e) fun o ho=>?_
  exfalso
  have:∀ l:List D,¬ Names (.agg (l.map .d)) o:=fun l hn=>by
   cases hn with
   | agg hm hn=>
    obtain ⟨y,_,rfl⟩:=List.mem_map.1 hm
    cases hn
  match cs with
  | []=>exact this [] ho
  | [x]=>cases ho
  | x::y::r=>exact this _ ho
theorem Cn {ps:List Nat}{x:Ob}{g:Value}{b:Nat}(h:blk (dgO ps x) g=some b):blk x g=some b:=by
 cases x with
 | row cs e=>revert h; cases g <;> first | exact id | (rename_i a; cases a <;> exact id)
 | bld o e=>
  simp only [dgO] at h
  cases hc:ps.contains o with
  | true=>rw [hc] at h; simp [blk] at h
  | false=>rw [hc] at h; exact h
 | _=>exact h
theorem Jd (f:Nat→Nat)(x:Ob)(g:Value):blk (Ql f x) g=blk x g:=by
 cases x with
 | row cs e=>cases g <;> first | rfl | (rename_i a; cases a <;> rfl)
 | bld o e=>cases g <;> first | rfl | (rename_i a; cases a <;> rfl)
 | _=>rfl
def V15 (l:List Nat)(i:Nat):Nat:=match nth l i with | some x=>x | none=>0
def N3 (idx:List Nat)(n:Nat)(i:Nat):Nat:=bif Nat.blt i idx.length then V15 idx i else n+(i - idx.length)
def Rl (f:Nat→Nat)(H:I0):List Nat→I0→Prop
 | [],[]=>True
 | p::ps,y::ys=>nth H p=some (Ql f y)∧Rl f H ps ys
 | _,_=>False
def T4:List Nat→I0→List Nat
 | p::ps,.tok .. :: ys=>p::T4 ps ys
 | p::ps,.buf .. :: ys=>p::T4 ps ys
 | _::ps,_::ys=>T4 ps ys
 | _,_=>[]
def Lt:List Nat→Bool
 | []=>true
 | x::r=>!r.contains x&&Lt r
theorem Uj:∀ {l:List Nat},Lt l=true→l.Nodup
 | [],_=>List.nodup_nil
 | x::r,h=>by
  simp only [Lt,zqi,Bool.not_eq_true',List.contains_eq_mem] at h
  exact List.nodup_cons.2 ⟨by simpa using h.1,Uj h.2⟩
theorem Rl.spec {f:Nat→Nat}{H:I0}:∀ {idx:List Nat} {cH:I0},Rl f H idx cH→idx.length=cH.length∧∀ (i:Nat) y,cH[i]?=some y→∃ p,idx[i]?=some p∧H[p]?=some (Ql f y)
 | [],[],_=>⟨rfl,fun i y h=>by simp at h⟩
 | p::ps,y::ys,h=>by
  obtain ⟨h1,h2⟩:=Rl.spec h.2
  refine ⟨by simp [h1],fun i z hz=>?_⟩
  cases i with
  | zero=>simp at hz; subst hz; exact ⟨p,rfl,by rw [← S3]; exact h.1⟩
  | succ i=>simpa using h2 i z (by simpa using hz)
 | [],_::_,h=>h.elim
 | _::_,[],h=>h.elim
theorem Vj:∀ {idx:List Nat} {cH:I0} {p:Nat},idx.length=cH.length→(p∈T4 idx cH ↔ ∃ (i:Nat) (y:Ob),idx[i]?=some p∧cH[i]?=some y∧isTok y=true)
 | [],[],p,_=>by simp [T4]
 | q::qs,y::ys,p,hl=>by
  have ih:=Vj (idx:=qs) (cH:=ys) (p:=p) (by simpa using hl)
  have shift:(∃ (i:Nat) (z:Ob),(q::qs)[i]?=some p∧(y::ys)[i]?=some z∧isTok z=true) ↔ (q=p∧isTok y=true)∨∃ (i:Nat) (z:Ob),qs[i]?=some p∧ys[i]?=some z∧isTok z=true:=by
   constructor
   ·rintro ⟨i,z,h1,h2,h3⟩
    cases i with
    | zero=>simp at h1 h2; subst h1; subst h2; exact .inl ⟨rfl,h3⟩
    | succ i=>exact .inr ⟨i,z,by simpa using h1,by simpa using h2,h3⟩
   ·rintro (⟨h1,h2⟩ | ⟨i,z,h1,h2,h3⟩)
    ·exact ⟨0,y,by simp [h1],rfl,h2⟩
    ·exact ⟨i+1,z,by simpa using h1,by simpa using h2,h3⟩
  rw [shift]
  cases y with
  | buf e sz=>
   simp only [T4,List.mem_cons,ih,isTok,and_true]
   constructor
   ·rintro (rfl | h)
    ·exact .inl rfl
    ·exact .inr h
   ·rintro (rfl | h)
    ·exact .inl rfl
    ·exact .inr h
  | tok e sz=>
   simp only [T4,List.mem_cons,ih,isTok,and_true]
   constructor
   ·rintro (rfl | h)
    ·exact .inl rfl
    ·exact .inr h
   ·rintro (rfl | h)
    ·exact .inl rfl
    ·exact .inr h
  | _=>simp [T4,isTok,ih]
 | [],_::_,p,h=>by simp at h
 | _::_,[],p,h=>by simp at h
def fnd:List Nat→Nat→Option Nat
 | [],_=>none
 | x::r,p=>bif Nat.beq x p then some 0 else (match fnd r p with | some i=>some (i+1) | none=>none)
theorem Pi:∀ {l:List Nat} {p i:Nat},fnd l p=some i→l[i]?=some p
 | [],p,i,h=>by simp [fnd] at h
 | x::r,p,i,h=>by
  simp only [fnd] at h
  cases hb:Nat.beq x p with
  | true=>rw [hb] at h; simp at h; subst h; simp [zqo hb]
  | false=>
   rw [hb] at h
   simp only [zql] at h
   split at h
   ·rename_i j hj
    simp only [zqb] at h
    subst h
    simpa using Pi hj
   ·cases h
theorem Uy:∀ {l:List Nat} {p:Nat},fnd l p=none→p ∉ l
 | [],p,_=>by simp
 | x::r,p,h=>by
  simp only [fnd] at h
  cases hb:Nat.beq x p with
  | true=>rw [hb] at h; simp at h
  | false=>
   rw [hb] at h
   simp only [zql] at h
   split at h
   ·cases h
   ·rename_i hj
    intro hm
    cases hm with
    | head=>simp at hb
    | tail _ hm=>exact Uy hj hm
theorem Pw {l:List Nat}(hn:l.Nodup){p i:Nat}(h:l[i]?=some p):fnd l p=some i:=by
 cases hf:fnd l p with
 | none=>exact absurd (List.mem_of_getElem? h) (Uy hf)
 | some j=>
  have hj:=Pi hf
  have hi':=(zqu.1 h).1
  exact congrArg some (((List.getElem?_inj hi' hn).1 (by rw [h,hj])).symm)
def Yk (idx:List Nat)(f:Nat→Nat)(ps:List Nat)(cH':I0):Nat→I0→I0
 | _,[]=>[]
 | p,x::r=>(match fnd idx p with | some i=>(match nth cH' i with | some y=>Ql f y | none=>.dead) | none=>dgO ps x)::Yk idx f ps cH' (p+1) r
def B7 (H:I0)(idx:List Nat)(f:Nat→Nat)(ps:List Nat)(cH':I0):I0:=
 Yk idx f ps cH' 0 H++(cH'.drop idx.length).map (Ql f)
theorem My (idx:List Nat)(f:Nat→Nat)(ps:List Nat)(cH':I0)(hl:idx.length≤cH'.length):∀ (H:I0) (q p:Nat),(Yk idx f ps cH' q H)[p]? =
  if p < H.length then (match fnd idx (q+p) with | some i=>(cH'[i]?).map (Ql f) | none=>(H[p]?).map (dgO ps)) else none
 | [],q,p=>by simp [Yk]
 | x::r,q,0=>by
  simp only [Yk,List.getElem?_cons_zero,zqd,Nat.add_zero]
  rw [zp (by omega)]
  cases hi:fnd idx q with
  | none=>simp
  | some i=>
   have hlt:i < idx.length:=(zqu.1 (Pi hi)).1
   have hv:cH'[i]?=some cH'[i]:=zqv (by omega)
   simp [S3,hv]
 | x::r,q,p+1=>by
  simp only [Yk,List.getElem?_cons_succ,zqd]
  rw [My idx f ps cH' hl r (q+1) p]
  by_cases h:p < r.length
  ·rw [zp h,zp (by omega),show q+1+p=q+(p+1) by omega]
  ·rw [zn h,zn (by omega)]
theorem Wj (idx:List Nat)(f:Nat→Nat)(ps:List Nat)(cH':I0):∀ (H:I0) (q:Nat),(Yk idx f ps cH' q H).length=H.length
 | [],_=>rfl
 | x::r,q=>by simp [Yk,Wj idx f ps cH' r (q+1)]
theorem Wz {H:I0}{idx:List Nat}{f:Nat→Nat}{ps:List Nat}{cH':I0}:(B7 H idx f ps cH').length=H.length+(cH'.length - idx.length):=by
 simp [B7,Wj]
theorem Dv {H:I0}{idx:List Nat}{f:Nat→Nat}{ps:List Nat}{cH':I0}(hl:idx.length≤cH'.length)(p:Nat):(B7 H idx f ps cH')[p]? =
  if p < H.length then (match fnd idx p with | some i=>(cH'[i]?).map (Ql f) | none=>(H[p]?).map (dgO ps)) else (cH'[idx.length+(p - H.length)]?).map (Ql f):=by
 unfold B7
 by_cases h:p < H.length
 ·rw [zqx (by rw [Wj]; exact h),My idx f ps cH' hl,zp h,zp h,Nat.zero_add]
 ·rw [List.getElem?_append_right (by rw [Wj]; omega),Wj,zn h,List.getElem?_map,List.getElem?_drop]
def Uf (idx:List Nat)(n:Nat):Bool:=Lt idx&&idx.all fun p=>Nat.blt p n
theorem LeL.rels {M:Mem}{G:Nat→Value}{xs ys:List A}(h:LeL xs ys){vs:Array Value}(hr:∀ (i:Nat) x v,ys[i]?=some x→vs[i]?=some v→O1 M G x v):∀ (i:Nat) x v,xs[i]?=some x→vs[i]?=some v→O1 M G x v:=by
 intro i x v hx hv
 obtain ⟨hl,hh⟩:=h.spec
 have hlt:i < ys.length:=by rw [← hl]; exact (zqu.1 hx).1
 have hy:=zqv hlt
 exact (hh i x _ hx hy).rel (hr i _ v hy hv)
theorem X11 {F:Fx}{N:FN}{fr:Fr}{M:Mem}{G:Nat→Value}{w:World}{env:Env}{H:I0}{a:Act}(idx:List Nat)(cH:I0)(hi:Uf idx H.length=true)(hm:Rl (N3 idx H.length) H idx cH)(hs:St F.C N M G w env H a)(hsi:P2 fr M G w H) :
  P7 M (fun i=>G (N3 idx H.length i)) w cH∧∀ (cH':I0) (M':Mem) (G':Nat→Value) (w':World),Good M' w'→P7 M' G' w' cH'→Ext (own (fun i=>G (N3 idx H.length i)) cH) M w M' w'→(∀ b,own G' cH' b→own (fun i=>G (N3 idx H.length i)) cH b∨w.heap.size≤b)→cH.length≤cH'.length→
   (∀ (o:Nat) x,cH[o]?=some x→isTok x=false→G' o=G (N3 idx H.length o)∧∀ y,cH'[o]?=some y→isTok y=false)→
   ∃ G2:Nat→Value,(∀ i,G2 (N3 idx H.length i)=G' i)∧St F.C N M' G2 w' (fun t=>dg (T4 idx cH) (env t)) (B7 H idx (N3 idx H.length) (T4 idx cH) cH') a∧P2 fr M' G2 w' (B7 H idx (N3 idx H.length) (T4 idx cH) cH'):=by
 generalize hf:N3 idx H.length=f at *
 generalize hps:T4 idx cH=ps at *
 obtain ⟨hlen,hmatch⟩:=hm.spec
 simp only [Uf,zqi] at hi
 have hnd:=Uj hi.1
 have hlt:∀ p∈idx,p < H.length:=fun p hp=>by simpa using List.all_eq_true.1 hi.2 p hp
 have f_lt:∀ {i p:Nat},idx[i]?=some p→f i=p:=fun {i p} hip=>by
  have:i < idx.length:=(zqu.1 hip).1
  have hb:Nat.blt i idx.length=true:=Nat.ble_eq_true_of_le this
  rw [← hf]
  simp [N3,hb,V15,S3,hip]
 have f_ge:∀ {i:Nat},idx.length≤i→f i=H.length+(i - idx.length):=fun {i} hi'=>by
  have hb:Nat.blt i idx.length=false:=by
   cases hb:Nat.blt i idx.length with
   | false=>rfl
   | true=>have:=Nat.le_of_ble_eq_true hb; omega
  rw [← hf]
  simp [N3,hb]
 have hcH:P7 M (fun i=>G (f i)) w cH:=by
  refine ⟨fun i y hy=>?_,fun i i' y y' b hy hy' hb hb'=>?_,fun i hi'=>?_⟩
  ·obtain ⟨p,hp,hHp⟩:=hmatch i y hy
   have hob:=hs.hrel.obj p _ hHp
   simp only [f_lt hp]
   cases y with
   | dead=>trivial
   | row cs e=>
    obtain ⟨b,us,g1,g2,g3,g4,g5,g6⟩:=hob
    exact ⟨b,us,g1,g2,by rw [Gb] at g3; exact g3,g4,Xk cs us g5,g6⟩
   | bld o e=>exact hob
   | buf e sz=>exact hob
   | tok e sz=>exact hob
   | map es=>
    obtain ⟨b,ms,cl,g1,g2,g3,g4,g5⟩:=hob
    refine ⟨b,ms,cl,g1,g2,g3,fun j k cs e a c=>⟨(g4 j k cs e a c).1,?_⟩,g5⟩
    refine ((g4 j k cs e a c).2).bare ?_
    have:∀ l:List D,X2 0 (l.map .d)=true:=fun l=>by
     induction l with
     | nil=>rfl
     | cons x r ih=>simp [X2,W4,ih]
    match cs with
    | []=>rfl
    | [x]=>rfl
    | x::y::r=>simp only [Oy,W4]; exact this _
  ·obtain ⟨p,hp,hHp⟩:=hmatch i y hy
   obtain ⟨p',hp',hHp'⟩:=hmatch i' y' hy'
   simp only [f_lt hp] at hb
   simp only [f_lt hp'] at hb'
   have:=hs.hrel.apart p p' _ _ b hHp hHp' (by rw [Jd]; exact hb) (by rw [Jd]; exact hb')
   subst this
   have e1:=Pw hnd hp
   have e2:=Pw hnd hp'
   rw [e1] at e2
   exact Option.some.inj e2
  ·simp only [f_ge (by omega:idx.length≤i)]
   exact hs.hrel.fresh _ (by omega)
 refine ⟨hcH,?_⟩
 have hown:∀ b,own (fun i=>G (f i)) cH b→own G H b:=fun b ⟨i,y,hy,hb⟩=>by
  obtain ⟨p,hp,hHp⟩:=hmatch i y hy
  simp only [f_lt hp] at hb
  exact ⟨p,_,hHp,by rw [Jd]; exact hb⟩
 intro cH' M' G' w' g2 g3 g4 g5 g6 g7
 have hle:idx.length≤cH'.length:=by omega
 let G2:Nat→Value:=fun p=>match fnd idx p with | some i=>G' i | none=>if p < H.length then G p else G' (idx.length+(p - H.length))
 have G2f:∀ i,G2 (f i)=G' i:=fun i=>by
  rcases Nat.lt_or_ge i idx.length with hi' | hi'
  ·have hip:idx[i]?=some idx[i]:=zqv hi'
   simp only [G2,f_lt hip,Pw hnd hip]
  ·have hnot:fnd idx (f i)=none:=by
    cases hfn:fnd idx (f i) with
    | none=>rfl
    | some j=>
     have:=hlt _ (List.mem_of_getElem? (Pi hfn))
     rw [f_ge hi'] at this
     omega
   simp only [G2,hnot]
   rw [f_ge hi',zn (by omega)]
   congr 1
   omega
 have tokG:∀ p∈ps,∃ a l c,G p = .slice a l c:=fun p hp=>by
  rw [← hps] at hp
  obtain ⟨i,y,e1,e2,e3⟩:=(Vj hlen).1 hp
  obtain ⟨p',hp',hHp⟩:=hmatch i y e2
  have:p'=p:=Option.some.inj (hp'.symm.trans e1)
  subst this
  have hob:=hs.hrel.obj p' _ hHp
  cases y <;> simp [isTok] at e3
  case buf=>rcases hob with ⟨_,⟨e,_⟩ | ⟨ad,cap,us,e,_⟩⟩ <;> exact ⟨_,_,_,e⟩
  rcases hob with e | ⟨ad,n,cap,e,_⟩
  ·exact ⟨_,_,_,e⟩
  ·exact ⟨_,_,_,e⟩
 have G2o:∀ p,p ∉ ps→p < H.length→G2 p=G p:=fun p hp hpl=>by
  simp only [G2]
  cases hfn:fnd idx p with
  | none=>simp [hpl]
  | some i=>
   have hip:=Pi hfn
   have hil:i < cH.length:=by rw [← hlen]; exact (zqu.1 hip).1
   have hy:cH[i]?=some cH[i]:=zqv hil
   have ht:isTok cH[i]=false:=by
    cases ht:isTok cH[i] with
    | false=>rfl
    | true=>exact absurd ((Vj hlen).2 ⟨i,_,hip,hy,ht⟩) (by rw [hps]; exact hp)
   have:=(g7 i _ hy ht).1
   simp only [f_lt hip] at this
   exact this
 have hg2:∀ p,p ∉ ps→G p≠.tuple #[]→G2 p=G p:=fun p hp hne=>by
  refine G2o p hp ?_
  rcases Nat.lt_or_ge p H.length with h' | h'
  ·exact h'
  ·exact absurd (hs.hrel.fresh p h') hne
 have objR:∀ (i:Nat) y,cH'[i]?=some y→Zg M' G2 w' (Ql f y) (G' i):=fun i y hy=>by
  have hob:=g3.obj i y hy
  cases y with
  | dead=>trivial
  | row cs e=>
   obtain ⟨b,us,q1,q2,q3,q4,q5,q6⟩:=hob
   refine ⟨b,us,q1,q2,by rw [Gb]; exact q3,q4,fun j x v hx hv=>?_,q6⟩
   rw [Bn] at hx
   cases hc':cs[j]? with
   | none=>rw [hc'] at hx; cases hx
   | some z=>
    rw [hc'] at hx
    simp only [zqt,zqb] at hx
    subst hx
    exact B15 (q5 j z v hc' hv) fun o _=>G2f o
  | bld o e=>
   obtain ⟨b,v0,q1,q2,q3,q4,q5⟩:=hob
   exact ⟨b,v0,q1,by rw [G2f]; exact q2,q3,by rw [G2f]; exact q4,q5⟩
  | buf e sz=>exact hob
  | tok e sz=>exact hob
  | map es=>
   obtain ⟨b,ms,cl,q1,q2,q3,q4,q5⟩:=hob
   refine ⟨b,ms,cl,q1,q2,q3,fun j k cs e a c=>⟨(q4 j k cs e a c).1,?_⟩,q5⟩
   refine ((q4 j k cs e a c).2).bare ?_
   have:∀ l:List D,X2 0 (l.map .d)=true:=fun l=>by
    induction l with
    | nil=>rfl
    | cons x r ih=>simp [X2,W4,ih]
   match cs with
   | []=>rfl
   | [x]=>rfl
   | x::y::r=>simp only [Oy,W4]; exact this _
 have notin:∀ (p:Nat) x b,fnd idx p=none→H[p]?=some x→blk x (G p)=some b→¬ own (fun i=>G (f i)) cH b:=fun p x b hfn hx hb ⟨i,y,hy,hyb⟩=>by
  obtain ⟨p',hp',hHp'⟩:=hmatch i y hy
  simp only [f_lt hp'] at hyb
  have:=hs.hrel.apart p p' x _ b hx hHp' hb (by rw [Jd]; exact hyb)
  subst this
  exact Uy hfn (List.mem_of_getElem? hp')
 have shape:∀ (p:Nat) x,(B7 H idx f ps cH')[p]?=some x→(∃ i y,cH'[i]?=some y∧x=Ql f y∧G2 p=G' i∧p=f i)∨(∃ y,p < H.length∧fnd idx p=none∧H[p]?=some y∧x=dgO ps y∧G2 p=G p):=by
  intro p x hx
  rw [Dv hle] at hx
  by_cases hp:p < H.length
  ·rw [zp hp] at hx
   cases hfn:fnd idx p with
   | some i=>
    rw [hfn] at hx
    simp only at hx
    cases hy:cH'[i]? with
    | none=>rw [hy] at hx; cases hx
    | some y=>
     rw [hy] at hx
     simp only [zqt,zqb] at hx
     exact .inl ⟨i,y,hy,hx.symm,by simp only [G2,hfn],(f_lt (Pi hfn)).symm⟩
   | none=>
    rw [hfn] at hx
    simp only at hx
    cases hy:H[p]? with
    | none=>rw [hy] at hx; cases hx
    | some y=>
     rw [hy] at hx
     simp only [zqt,zqb] at hx
     exact .inr ⟨y,hp,rfl,rfl,hx.symm,by simp [G2,hfn,hp]⟩
  ·rw [zn hp] at hx
   cases hy:cH'[idx.length+(p - H.length)]? with
   | none=>rw [hy] at hx; cases hx
   | some y=>
    rw [hy] at hx
    simp only [zqt,zqb] at hx
    have hpf:p=f (idx.length+(p - H.length)):=by rw [f_ge (by omega)]; omega
    exact .inl ⟨_,y,hy,hx.symm,by rw [hpf,G2f,← hpf],hpf⟩
 have hown2:∀ b,own G2 (B7 H idx f ps cH') b→own G H b∨w.heap.size≤b:=fun b ⟨p,x,hx,hb⟩=>by
  rcases shape p x hx with ⟨i,y,hy,rfl,hg,_⟩ | ⟨y,hp,hfn,hy,rfl,hg⟩
  ·rw [Jd,hg] at hb
   rcases g5 b ⟨i,y,hy,hb⟩ with h' | h'
   ·exact .inl (hown b h')
   ·exact .inr h'
  ·replace hb:=Cn hb
   rw [hg] at hb
   exact .inl ⟨p,y,hy,hb⟩
 have hrel2:P7 M' G2 w' (B7 H idx f ps cH'):=by
  refine ⟨fun p x hx=>?_,fun p p' x x' b hx hx' hb hb'=>?_,fun p hp=>?_⟩
  ·rcases shape p x hx with ⟨i,y,hy,rfl,hg,_⟩ | ⟨y,hp,hfn,hy,rfl,hg⟩
   ·rw [hg]; exact objR i y hy
   ·rw [hg]
    have hob:=hs.hrel.obj p y hy
    refine C15 (hob.keep g4.mono (fun b hb=>g4.block b (A9 hob hb) (notin p y b hfn hy hb)) fun b hb off sp hn=>?_) tokG hg2
    cases hM:M' ⟨b,off,sp⟩ with
    | none=>rfl
    | some u=>
     rcases g4.fresh _ u hM with q | q | q
     ·rw [hn] at q; cases q
     ·exact absurd q (notin p y b hfn hy hb)
     ·have:=A9 hob hb; simp only at q; omega
  ·rcases shape p x hx with ⟨i,y,hy,rfl,hg,hpi⟩ | ⟨y,hp,hfn,hy,rfl,hg⟩ <;> rcases shape p' x' hx' with ⟨i',y',hy',rfl,hg',hpi'⟩ | ⟨y',hp',hfn',hy',rfl,hg'⟩
   ·rw [Jd,hg] at hb
    rw [Jd,hg'] at hb'
    rw [hpi,hpi',g3.apart i i' y y' b hy hy' hb hb']
   ·rw [Jd,hg] at hb
    replace hb':=Cn hb'
    rw [hg'] at hb'
    rcases g5 b ⟨i,y,hy,hb⟩ with q | q
    ·exact absurd q (notin p' y' b hfn' hy' hb')
    ·have:=A9 (hs.hrel.obj p' y' hy') hb'; omega
   ·replace hb:=Cn hb
    rw [hg] at hb
    rw [Jd,hg'] at hb'
    rcases g5 b ⟨i',y',hy',hb'⟩ with q | q
    ·exact absurd q (notin p y b hfn hy hb)
    ·have:=A9 (hs.hrel.obj p y hy) hb; omega
   ·replace hb:=Cn hb
    rw [hg] at hb
    replace hb':=Cn hb'
    rw [hg'] at hb'
    exact hs.hrel.apart p p' y y' b hy hy' hb hb'
  ·rw [Wz] at hp
   have hnot:fnd idx p=none:=by
    cases hfn:fnd idx p with
    | none=>rfl
    | some j=>have:=hlt _ (List.mem_of_getElem? (Pi hfn)); omega
   simp only [G2,hnot]
   rw [zn (by omega)]
   exact g3.fresh _ (by omega)
 refine ⟨G2,G2f,⟨g2,hs.gl.ext hs.hrel g4 hown,hrel2,fun t=>D13 ((hs.env t).mono' g4.mono) tokG hg2,hs.size,hs.defers⟩,?_⟩
 have hkind:∀ (p:Nat) x,fr.H0[p]?=some x→isTok x=false→p < H.length∧p ∉ ps:=fun p x hp ht=>by
  have hpl:p < H.length:=Nat.lt_of_lt_of_le (zqu.1 hp).1 hsi.len
  refine ⟨hpl,fun hm=>?_⟩
  rw [← hps] at hm
  obtain ⟨i,y,e1,e2,e3⟩:=(Vj hlen).1 hm
  obtain ⟨p',hp',hHp⟩:=hmatch i y e2
  have:p'=p:=Option.some.inj (hp'.symm.trans e1)
  subst this
  have:=hsi.kind p' x _ hp ht hHp
  cases y <;> simp [isTok,Ql] at e3 this
 refine ⟨hsi.ext.trans g4 fun b hb=>hsi.own b (hown b hb),fun b hb=>?_,?_,fun p x hp ht=>?_,fun p x y hp ht hy=>?_⟩
 ·rcases hown2 b hb with h' | h'
  ·exact hsi.own b h'
  ·exact .inr (Nat.le_trans hsi.ext.size h')
 ·rw [Wz]
  have:=hsi.len
  omega
 ·obtain ⟨q1,q2⟩:=hkind p x hp ht
  rw [G2o p q2 q1]
  exact hsi.keep p x hp ht
 ·obtain ⟨q1,q2⟩:=hkind p x hp ht
  rcases shape p y hy with ⟨i,z,hz,rfl,_,hpi⟩ | ⟨z,_,_,hz,rfl,_⟩
  ·have hi':i < idx.length:=by
    rcases Nat.lt_or_ge i idx.length with h' | h'
    ·exact h'
    ·rw [f_ge h'] at hpi; omega
   have hip:idx[i]?=some idx[i]:=zqv hi'
   have hil:i < cH.length:=by omega
   have hcy:cH[i]?=some cH[i]:=zqv hil
   have ht':isTok cH[i]=false:=by
    cases ht':isTok cH[i] with
    | false=>rfl
    | true=>
     have:idx[i]=p:=by rw [hpi,f_lt hip]
     exact absurd ((Vj hlen).2 ⟨i,_,by rw [hip,this],hcy,ht'⟩) (by rw [hps]; exact q2)
   have:=(g7 i _ hcy ht').2 z hz
   cases z <;> simp [isTok,Ql] at this ⊢
  ·have:=hsi.kind p x z hp ht hz
   rw [W11]; exact this
theorem C0.callHP {F:Fx}{L l:List Oper}{o:Oper}{env:Env}{H:I0}{Q:Env→I0→Prop}{d:Option Nat}{g:FuncId}{xs:List A}(idx:List Nat)(cargs:List A)(cH:I0){Qc:A→I0→Prop}{Pc:Value→I0→Prop}
  (h:Pb F.C L o env=some (d,g,xs)) (hx:LeL (Dc (N3 idx H.length) cargs) xs) (hi:Uf idx H.length=true) (hm:Rl (N3 idx H.length) H idx cH) (hc:I2 F.C g cargs cH Qc Pc)
  (kp:∀ v cH',Pc v cH'→F.pan v (fun t=>dg (T4 idx cH) (env t)) (B7 H idx (N3 idx H.length) (T4 idx cH) cH'))
  (k:∀ r cH',Qc r cH'→C0 F L l (put (fun t=>dg (T4 idx cH) (env t)) d (ren (N3 idx H.length) r)) (B7 H idx (N3 idx H.length) (T4 idx cH) cH') Q):C0 F L (o::l) env H Q:=by
 obtain ⟨hw,ha,rfl⟩:=Nl h
 refine R15 hw fun fr M G w a K Qw hK hd hs hsi hk hp=>?_
 obtain ⟨vs,h1,h2,h3⟩:=Ms ha (fun y _=>hs.eval y) hc.1
 unfold Oper.wp
 rw [h1 w]
 obtain ⟨hcH,A14⟩:=X11 (F:=F) idx cH hi hm hs hsi
 have h3:=hx.rels h3
 refine (hc.2 M (fun i=>G (N3 idx H.length i)) w vs hs.good hs.gl hcH (by rw [← h2,← hx.spec.1,Gb]) (Xk cargs vs h3)).mono fun e w' he=>?_
 rcases he with ⟨v,r,cH',M',G',rfl,hq,g1,g2,g3,g4,g5,g6,g7⟩ | ⟨v,cH',M',G',rfl,hq,g2,g3,g4,g5,g6,g7⟩
 ·obtain ⟨G2,G2f,hs2,hsi2⟩:=A14 cH' M' G' w' g2 g3 g4 g5 g6 g7
  obtain ⟨p1,p2,p3⟩:=Vk (dst:=o.dst) (x:=ren (N3 idx H.length) r) (a:=a) (v:=v) (N:=F.N) hs2.env hs2.size (Y4 hd) (B15 g1 fun o _=>G2f o)
  exact hk _ _ _ M' G2 w' v (k r cH' hq) ⟨hs2.good,hs2.gl,hs2.hrel,p1,p2,p3.trans hs2.defers⟩ hsi2
 ·obtain ⟨G2,G2f,hs2,hsi2⟩:=A14 cH' M' G' w' g2 g3 g4 g5 g6 g7
  exact hp v _ _ M' G2 w' (kp v cH' hq) hs2 hsi2
theorem W0.toP {C:Cx}{f:FuncId}{args:List A}{H:I0}{Q:A→I0→Prop}(h:W0 C f args H Q):I2 C f args H Q noP:=
 ⟨h.1,fun M G w vs a b c d e=>(h.2 M G w vs a b c d e).mono fun _ _ h=>.inl h⟩
theorem C0.callHL {F:Fx}{L l:List Oper}{o:Oper}{env:Env}{H:I0}{Q:Env→I0→Prop}{d:Option Nat}{g:FuncId}{xs:List A}(idx:List Nat)(cargs:List A)(cH:I0){Qc:A→I0→Prop}
  (h:Pb F.C L o env=some (d,g,xs)) (hx:LeL (Dc (N3 idx H.length) cargs) xs) (hi:Uf idx H.length=true) (hm:Rl (N3 idx H.length) H idx cH) (hc:W0 F.C g cargs cH Qc)
  (k:∀ r cH',Qc r cH'→C0 F L l (put (fun t=>dg (T4 idx cH) (env t)) d (ren (N3 idx H.length) r)) (B7 H idx (N3 idx H.length) (T4 idx cH) cH') Q):C0 F L (o::l) env H Q:=
 .callHP idx cargs cH h hx hi hm hc.toP (fun _ _ h=>h.elim) k
def V8 (sz m:Nat)(A2:Nat→Nat→Value):List Value:=(List.range (m * sz)).map fun q=>A2 (q / sz) (q % sz)
theorem Be {sz m:Nat}{A2:Nat→Nat→Value}:(V8 sz m A2).length=m * sz:=by simp [V8]
theorem Rw {sz m:Nat}{A2:Nat→Nat→Value}{i j:Nat}(hj:j < sz)(hi:i < m):(V8 sz m A2)[i * sz+j]?=some (A2 i j):=by
 have hlt:i * sz+j < m * sz:=by
  have:(i+1) * sz≤m * sz:=Nat.mul_le_mul_right _ hi
  rw [Nat.add_mul] at this
  omega
 have hz:0 < sz:=by omega
 unfold V8
 rw [List.getElem?_map,List.getElem?_range hlt]
 simp only [zqt,zqb]
 rw [Nat.mul_comm i sz,Nat.mul_add_div hz,Nat.mul_add_mod,Nat.div_eq_of_lt hj,Nat.mod_eq_of_lt hj,Nat.add_zero]
theorem Y16 {sz m:Nat}{A2:Nat→Nat→Value}{q:Nat}{v:Value}(h:(V8 sz m A2)[q]?=some v):0 < sz∧q / sz < m∧q % sz < sz∧q=q / sz * sz+q % sz∧v=A2 (q / sz) (q % sz):=by
 unfold V8 at h
 rw [List.getElem?_map] at h
 by_cases hq:q < m * sz
 ·rw [List.getElem?_range hq] at h
  simp only [zqt,zqb] at h
  have hz:0 < sz:=by
   rcases Nat.eq_zero_or_pos sz with h' | h'
   ·subst h'; simp at hq
   ·exact h'
  exact ⟨hz,(Nat.div_lt_iff_lt_mul hz).2 hq,Nat.mod_lt _ hz,by rw [Nat.mul_comm]; exact (Nat.div_add_mod q sz).symm,h.symm⟩
 ·rw [List.getElem?_eq_none (by simp; omega)] at h
  cases h
theorem E13 {M:Mem}{w:World}(hG:Good M w){rows:List Row}{v:Value}(h:O4 M (.sl rows) v){sz:Nat}(hsz:∀ r∈rows,r.length=sz) :
  ∃ (A2:Nat→Nat→Value),(∀ (i j:Nat) r x,rows[i]?=some r→r[j]?=some x→O4 M x (A2 i j))∧
   ((v = .slice none 0 0∧rows=[])∨∃ a cap,v = .slice (some a) rows.length cap∧(cap=0∨a.spot=none)∧rows.length≤cap∧cap≤maxLen∧
     (∀ (i j:Nat),i < rows.length→j < sz→M (a.add (i * sz+j))=some (A2 i j))∧∀ q u,(V8 sz rows.length A2)[q]?=some u→w.cell? (a.add q)=some u∧u.oneCell'=true):=by
 cases h with
 | slnil=>exact ⟨fun _ _=>undef,fun i j r x h=>by simp at h,.inl ⟨rfl,rfl⟩⟩
 | sl sz' A2 hl hc hm hs hz h1 h2=>
  rename_i a len cap
  subst hl
  have hM:∀ (i j:Nat),i < rows.length→j < sz→M (a.add (i * sz+j))=some (A2 i j)∧∃ x,O4 M x (A2 i j):=by
   intro i j hi hj
   have hr:rows[i]?=some rows[i]:=zqv hi
   have e1:rows[i].length=sz:=hsz _ (List.getElem_mem hi)
   have e2:=hz i _ hr
   have e:sz'=sz:=by omega
   subst e
   have hx:rows[i][j]?=some rows[i][j]:=zqv (by omega)
   exact ⟨h1 i j _ _ hr hx,_,h2 i j _ _ hr hx⟩
  refine ⟨A2,h2,.inr ⟨a,cap,rfl,hs,hc,hm,fun i j hi hj=>(hM i j hi hj).1,fun q u hu=>?_⟩⟩
  obtain ⟨f1,f2,f3,f4,rfl⟩:=Y16 hu
  obtain ⟨g1,x,g2⟩:=hM _ _ f2 f3
  rw [← f4] at g1
  exact ⟨hG.cell g1 g2,g2.one⟩
def Tok (M:Mem)(w:World)(e sz:Nat)(v:Value):Prop:=Zg M (fun _=>.tuple #[]) w (.tok e sz) v
theorem Bo {P:Program}{T:TT}(hT:TOk P T){M:Mem}{w:World}(hG:Good M w){t e ty:Nat}{it ie:TI}(ht:G4 T t=some it)(hu:it.u = .sl e)(he:G4 T e=some ie){rows news:List Row}{v u:Value}
  (hv:O4 M (.sl rows) v) (hnv:O4 M (.sl news) u) (htok:Tok M w e ie.size v) (hr:∀ r∈rows,r.length=ie.size) (hn:∀ r∈news,r.length=ie.size) (hb:(rows.length+news.length) * ie.bytes≤140737488355328)
  (hm:rows.length+news.length≤maxLen) :
  ∃ v' w' M',(Builtin.append_ #[t,t] ty #[v,u]).run P w = .ok v' w'∧O4 M' (.sl (rows++news)) v'∧Tok M' w' e ie.size v'∧Good M' w'∧
   Ext (fun b=>blk (.tok e ie.size) v=some b) M w M' w'∧∀ b,blk (.tok e ie.size) v'=some b→blk (.tok e ie.size) v=some b∨w.heap.size≤b:=by
 have fe:=hT.facts he
 have hd:=Wm (hT.facts ht) hu
 obtain ⟨info,hi,hsz,hby,z,hz,hzl,_,_⟩:=fe.info
 have hpos:=fe.pos
 have hzs:z.cells.size=ie.size:=by have:=fe.len; simp only [Array.length_toList] at hzl; omega
 obtain ⟨nvals,hnr,hnsh⟩:=E13 hG hnv hn
 obtain ⟨A2,hvr,hvsh⟩:=E13 hG hv hr
 generalize hszv:ie.size=sz at *
 have hbytes:(rows.length+news.length) * info.bytes≤140737488355328:=by rw [hby]; exact hb
 rcases hnsh with ⟨rfl,rfl⟩ | ⟨na,ncap,rfl,hns,hnc,hncm,hnM,hncell⟩
 ·have hrun:(Builtin.append_ #[t,t] ty #[v,.slice none 0 0]).run P w = .ok v w:=by
   rcases hvsh with ⟨rfl,rfl⟩ | ⟨a,cap,rfl,hs,hc,hcm,hM,hcell⟩
   ·simp [Builtin.append_,run_underlying hd,sizeOf,typeInfo,hi,Builtin.lenOf,Builtin.firstCells]
   ·simp [Builtin.append_,run_underlying hd,sizeOf,typeInfo,hi,Builtin.lenOf,Builtin.firstCells,hc,storeCells]
  refine ⟨v,w,M,hrun,by simpa using hv,by simpa using htok,hG,Ext.refl _ _ _,fun b hb=>.inl (by simpa using hb)⟩
 have grown:∀ (olds:List Value) (cap':Nat) (w1:World) (zs:Array Value),olds=V8 sz rows.length A2→rows.length+news.length≤cap'→cap'≤maxLen→w1.heap=w.heap→w1.os=w.os→w1.output=w.output→w1.tape=w.tape→
   zs.size=(cap' - (rows.length+news.length)) * sz→
   ∃ M',O4 M' (.sl (rows++news)) (.slice (some ⟨w.heap.size,0,none⟩) (rows.length+news.length) cap')∧
    Tok M' (w1.alloc (.cells (olds.toArray++(V8 sz news.length nvals).toArray++zs) e)) e sz (.slice (some ⟨w.heap.size,0,none⟩) (rows.length+news.length) cap')∧
    Good M' (w1.alloc (.cells (olds.toArray++(V8 sz news.length nvals).toArray++zs) e))∧
    Ext Y6 M w M' (w1.alloc (.cells (olds.toArray++(V8 sz news.length nvals).toArray++zs) e)):=by
  intro olds cap' w1 zs holds hge hcm hheap hos hout htape hzsz
  have hw1s:w1.heap.size=w.heap.size:=by rw [hheap]
  let cs:Array Value:=olds.toArray++(V8 sz news.length nvals).toArray++zs
  let M':Mem:=fun ad=>if ad.block=w.heap.size∧ad.spot=none∧ad.off < (rows.length+news.length) * sz then cs[ad.off]? else M ad
  have hcs:cs.size=rows.length * sz+news.length * sz+zs.size:=by simp [cs,holds,Be,Nat.add_assoc]
  have hold:∀ (i j:Nat),i < rows.length→j < sz→cs[i * sz+j]?=some (A2 i j):=fun i j hi' hj=>by
   have hlt:i * sz+j < rows.length * sz:=by
    have:(i+1) * sz≤rows.length * sz:=Nat.mul_le_mul_right _ hi'
    rw [Nat.add_mul] at this; omega
   simp only [cs]
   rw [Array.getElem?_append_left (by simp [holds,Be]; omega),Array.getElem?_append_left (by simp [holds,Be]; exact hlt),List.getElem?_toArray,holds,Rw hj hi']
  have hnew:∀ (i j:Nat),i < news.length→j < sz→cs[(rows.length+i) * sz+j]?=some (nvals i j):=fun i j hi' hj=>by
   have hlt:i * sz+j < news.length * sz:=by
    have:(i+1) * sz≤news.length * sz:=Nat.mul_le_mul_right _ hi'
    rw [Nat.add_mul] at this; omega
   simp only [cs]
   rw [Nat.add_mul,Array.getElem?_append_left (by simp [holds,Be]; omega),Array.getElem?_append_right (by simp [holds,Be]; omega),List.getElem?_toArray]
   simp only [List.size_toArray,holds,Be]
   rw [show rows.length * sz+i * sz+j - rows.length * sz=i * sz+j by omega,Rw hj hi']
  have hmono:∀ ad x,M ad=some x→M' ad=some x:=fun ad x hx=>by
   have:=hG.lt hx
   simp only [M']
   rw [zn (by omega)]
   exact hx
  refine ⟨M',?_,.inr ⟨⟨w.heap.size,0,none⟩,_,cap',rfl,.inr rfl,hge,hcm,fun hlt=>⟨rfl,cs,?_,?_,fun k sp hk=>?_⟩⟩,fun ad x hx=>?_,hmono,by simp [hw1s],hos,hout,htape,fun b hb' _=>?_,fun ad x hx=>?_⟩
  ·refine .sl sz (fun i j=>if i < rows.length then A2 i j else nvals (i - rows.length) j) (by simp) hge hcm (.inr rfl) (fun i r hr'=>?_) (fun i j r x hr' hx=>?_) fun i j r x hr' hx=>?_
   ·rcases List.mem_append.1 (List.mem_of_getElem? hr') with h' | h'
    ·exact hr r h'
    ·exact hn r h'
   ·have hrl:r.length=sz:=by
     rcases List.mem_append.1 (List.mem_of_getElem? hr') with h' | h'
     ·exact hr r h'
     ·exact hn r h'
    have hj:j < sz:=by rw [← hrl]; exact (zqu.1 hx).1
    have hil:i < rows.length+news.length:=by have:=(zqu.1 hr').1; simpa using this
    have hlt:i * sz+j < (rows.length+news.length) * sz:=by
     have:(i+1) * sz≤(rows.length+news.length) * sz:=Nat.mul_le_mul_right _ hil
     rw [Nat.add_mul] at this; omega
    rw [Bc]
    simp only [M',Nat.zero_add]
    rw [zp ⟨trivial,trivial,hlt⟩]
    by_cases hi':i < rows.length
    ·rw [zp hi',hold i j hi' hj]
    ·rw [zn hi']
     have:=hnew (i - rows.length) j (by omega) hj
     rwa [show rows.length+(i - rows.length)=i by omega] at this
   ·by_cases hi':i < rows.length
    ·rw [zqx hi'] at hr'
     simp only [zp hi']
     exact (hvr i j r x hr' hx).mono hmono
    ·rw [List.getElem?_append_right (by omega)] at hr'
     simp only [zn hi']
     exact (hnr _ j r x hr' hx).mono hmono
  ·have:=heap_alloc_new w1 (.cells cs e)
   rw [hw1s] at this
   exact this
  ·rw [hcs,hzsz,← Nat.add_mul,← Nat.add_mul]
   exact Nat.mul_le_mul_right _ (by omega)
  ·simp only [M']
   rw [zn (by omega)]
   cases hM:M ⟨w.heap.size,k,sp⟩ with
   | none=>rfl
   | some x=>have:=hG.lt hM; simp at this
  ·simp only [M'] at hx
   split at hx
   ·rename_i hc
    obtain ⟨b,o,s⟩:=ad
    simp only at hc hx
    obtain ⟨rfl,rfl,hc⟩:=hc
    refine .inl ⟨rfl,?_⟩
    rw [Vm (w:=w1.alloc (.cells cs e)) (b:=w.heap.size) (vs:=cs) (e:=e) (fr:=(0,0)) (by rw [← hw1s]; exact heap_alloc_new w1 _)]
    exact hx
   ·exact B11 (by rw [heap_alloc_old w1 _ _ (by rw [hw1s]; exact hG.lt hx),hheap]) (hG ad x hx)
  ·rw [heap_alloc_old w1 _ b (by rw [hw1s]; exact hb'),hheap]
  ·simp only [M'] at hx
   split at hx
   ·rename_i hc; exact .inr (.inr (by omega))
   ·exact .inl hx
 have hzc:∀ n,(Builtin.zeroCells z.cells n).size=n * sz:=fun n=>by rw [size_zeroCells,hzs]
 have hnl:(V8 sz news.length nvals).length=news.length * info.size:=by rw [Be,hsz]
 have hncell':∀ (j:Nat) u,(V8 sz news.length nvals)[j]?=some u→w.cell? (na.add j)=some u:=fun j u hu=>(hncell j u hu).1
 rcases hvsh with ⟨rfl,rfl⟩ | ⟨a,cap,rfl,hs,hc,hcm,hM,hcell⟩
 ·
  by_cases hm0:news.length=0
  ·have hne:news=[]:=List.eq_nil_of_length_eq_zero hm0
   subst hne
   refine ⟨.slice none 0 0,w,M,?_,.slnil,.inl rfl,hG,Ext.refl _ _ _,fun b hb'=>.inl hb'⟩
   simp [Builtin.append_,run_underlying hd,sizeOf,typeInfo,hi,Builtin.lenOf,Builtin.firstCells,loadCells,loadCellsFrom]
  ·simp only [zqe,Nat.zero_add] at hm hbytes
   have hrun:=run_append_nil (P:=P) w t ty e info z hd hi hz na news.length ncap (V8 sz news.length nvals) hnl hncell' (by omega) (by unfold maxLen at hm; omega) (by omega)
   obtain ⟨M',g1,g2,g3,g4⟩:=grown [] (grownCap w news.length 0 e) w.drew _ (by simp [V8]) (by simpa using grownCap_ge w news.length 0 e) (grownCap_le_maxLen w _ _ e hm) rfl rfl rfl rfl
    (by simpa using hzc (grownCap w news.length 0 e - news.length))
   simp only [zqe,Nat.zero_add,List.nil_append] at g1 g2 g3 g4
   refine ⟨_,_,M',hrun,g1,by simpa using g2,by simpa using g3,(by simpa using g4:Ext Y6 M w M' _).weaken (fun _ h=>h.elim),fun b hb'=>?_⟩
   simp only [blk] at hb'
   split at hb'
   ·simp at hb'; exact .inr (by omega)
   ·cases hb'
 ·by_cases hroom:rows.length+news.length≤cap
  ·by_cases hm0:news.length=0
   ·have hne:news=[]:=List.eq_nil_of_length_eq_zero hm0
    subst hne
    refine ⟨.slice (some a) rows.length cap,w,M,?_,by simpa using hv,by simpa using htok,hG,Ext.refl _ _ _,fun b hb'=>.inl (by simpa using hb')⟩
    simp [Builtin.append_,run_underlying hd,sizeOf,typeInfo,hi,Builtin.lenOf,Builtin.firstCells,hc,storeCells,loadCells,loadCellsFrom]
   ·
    have hlt:rows.length < cap:=by omega
    rcases htok with h' | ⟨a',n',cap',h',_,_,_,htk⟩
    ·cases h'
    ·simp only [Value.slice.injEq,zqb] at h'
     obtain ⟨rfl,rfl,rfl⟩:=h'
     obtain ⟨h0,vs,hvs,hcap,hfree⟩:=htk hlt
     obtain ⟨b,o,sp⟩:=a
     have hs2:sp=none:=hs.resolve_left (by omega)
     simp only at h0 hvs hfree
     subst h0; subst hs2
     have hfit:rows.length * info.size+(V8 sz news.length nvals).length≤vs.size:=by
      rw [Be,hsz,← Nat.add_mul]
      exact Nat.le_trans (Nat.mul_le_mul_right _ hroom) hcap
     have hrun:=run_append_room (P:=P) w t ty e info hd hi b rows.length cap vs hvs na news.length ncap (V8 sz news.length nvals) hnl hncell' (fun u hu'=>by
      obtain ⟨j,hj⟩:=List.getElem?_of_mem hu'
      exact (hncell j u hj).2) hroom hfit
     rw [hsz] at hrun
     let cs:List Value:=vs.toList.take (rows.length * sz)++V8 sz news.length nvals++vs.toList.drop (rows.length * sz+(V8 sz news.length nvals).length)
     have hget:=fun i=>Qz vs.toList (rows.length * sz) (V8 sz news.length nvals) i (by rw [hsz] at hfit; simpa using hfit)
     let M':Mem:=fun ad=>if ad.block=b∧ad.spot=none∧rows.length * sz≤ad.off∧ad.off < (rows.length+news.length) * sz then (V8 sz news.length nvals)[ad.off - rows.length * sz]? else M ad
     have hmono:∀ ad x,M ad=some x→M' ad=some x:=fun ad x hx=>by
      simp only [M']
      rw [zn]
      ·exact hx
      ·rintro ⟨q1,q2,q3,_⟩
       obtain ⟨bb,oo,ss⟩:=ad
       simp only at q1 q2 q3
       subst q1
       rw [hfree oo ss q3] at hx
       cases hx
     have hheap:(w.setRow b cs.toArray).heap[b]?=some (.cells cs.toArray e (0,0)):=setRow_heap w b vs _ e (0,0) hvs
     refine ⟨_,_,M',hrun,?_,?_,?_,?_,?_⟩
     ·refine .sl sz (fun i j=>if i < rows.length then A2 i j else nvals (i - rows.length) j) (by simp) hroom hcm (.inr rfl) (fun i r hr'=>?_) (fun i j r x hr' hx=>?_) fun i j r x hr' hx=>?_
      ·rcases List.mem_append.1 (List.mem_of_getElem? hr') with h' | h'
       ·exact hr r h'
       ·exact hn r h'
      ·have hrl:r.length=sz:=by
        rcases List.mem_append.1 (List.mem_of_getElem? hr') with h' | h'
        ·exact hr r h'
        ·exact hn r h'
       have hj:j < sz:=by rw [← hrl]; exact (zqu.1 hx).1
       by_cases hi':i < rows.length
       ·rw [zp hi']
        exact hmono _ _ (hM i j hi' hj)
       ·have hil:i < rows.length+news.length:=by have:=(zqu.1 hr').1; simpa using this
        rw [zn hi',Bc]
        have e1:i * sz+j=rows.length * sz+((i - rows.length) * sz+j):=by
         have:i * sz=rows.length * sz+(i - rows.length) * sz:=by rw [← Nat.add_mul]; congr 1; omega
         omega
        have hlt':(i - rows.length) * sz+j < news.length * sz:=by
         have:(i - rows.length+1) * sz≤news.length * sz:=Nat.mul_le_mul_right _ (by omega)
         rw [Nat.add_mul] at this; omega
        simp only [M',Nat.zero_add]
        rw [zp ⟨trivial,trivial,by omega,by rw [Nat.add_mul]; omega⟩,e1,Nat.add_sub_cancel_left,Rw hj (by omega)]
      ·by_cases hi':i < rows.length
       ·rw [zqx hi'] at hr'
        simp only [zp hi']
        exact (hvr i j r x hr' hx).mono hmono
       ·rw [List.getElem?_append_right (by omega)] at hr'
        simp only [zn hi']
        exact (hnr _ j r x hr' hx).mono hmono
     ·refine .inr ⟨⟨b,0,none⟩,_,cap,rfl,.inr rfl,hroom,hcm,fun hlt'=>⟨rfl,cs.toArray,hheap,?_,fun k sp hk=>?_⟩⟩
      ·have:cs.length=vs.size:=by
        simp only [cs,zqc,List.length_take,List.length_drop,Array.length_toList]
        rw [hsz] at hfit
        omega
       simpa [this] using hcap
      ·simp only [M']
       rw [zn (by omega)]
       exact hfree k sp (Nat.le_trans (Nat.mul_le_mul_right _ (by omega)) hk)
     ·intro ad x hx
      simp only [M'] at hx
      split at hx
      ·rename_i hcnd
       obtain ⟨bb,oo,ss⟩:=ad
       simp only at hcnd hx
       obtain ⟨rfl,rfl,q3,q4⟩:=hcnd
       refine .inl ⟨rfl,?_⟩
       rw [Vm hheap,List.getElem?_toArray]
       show cs[oo]?=some x
       simp only [cs]
       rw [hget oo,zp ⟨q3,by rw [Be,← Nat.add_mul]; exact q4⟩]
       exact hx
      ·by_cases hbb:ad.block=b
       ·obtain ⟨q1,q2⟩:ad.spot=none∧w.cell? ad=some x:=by
         rcases hG ad x hx with h | ⟨_,ms,cl,h,_⟩
         ·exact h
         ·rw [hbb,hvs] at h; cases h
        refine .inl ⟨q1,?_⟩
        obtain ⟨bb,oo,ss⟩:=ad
        simp only at hbb q1
        subst hbb; subst q1
        have hlt2:oo < rows.length * sz:=by
         rcases Nat.lt_or_ge oo (rows.length * sz) with h' | h'
         ·exact h'
         ·rw [hfree oo _ h'] at hx; cases hx
        rw [Vm hvs] at q2
        rw [Vm hheap,List.getElem?_toArray]
        show cs[oo]?=some x
        simp only [cs]
        rw [hget oo,zn (by omega)]
        simpa using q2
       ·exact B11 (setRow_other w b ad.block _ hbb) (hG ad x hx)
     ·refine ⟨hmono,by rw [Ky]; exact zqr _,rfl,rfl,rfl,fun k _ hk=>setRow_other w b k _ (fun e'=>hk (by simp [blk,hlt,e'])),fun ad x hx=>?_⟩
      simp only [M'] at hx
      split at hx
      ·rename_i hcnd
       exact .inr (.inl (by simp [blk,hlt,hcnd.1]))
      ·exact .inl hx
     ·intro c hc'
      simp only [blk] at hc'
      split at hc'
      ·simp at hc'
       subst hc'
       exact .inl (by simp [blk,hlt])
      ·cases hc'
  ·have hrun:=run_append_grow (P:=P) w t ty e info z hd hi hz a rows.length cap (V8 sz rows.length A2) (by rw [Be,hsz]) (fun j u hu'=>(hcell j u hu').1) na news.length ncap (V8 sz news.length nvals) hnl hncell'
    (by omega) (by unfold maxLen at hm; omega) (growslice_fits (by omega) hbytes)
   obtain ⟨M',g1,g2,g3,g4⟩:=grown (V8 sz rows.length A2) (grownCap w (rows.length+news.length) cap e) w.drew (Builtin.zeroCells z.cells (grownCap w (rows.length+news.length) cap e - (rows.length+news.length))) rfl (grownCap_ge w _ _ e) (grownCap_le_maxLen w _ _ e hm) rfl rfl rfl rfl (hzc _)
   refine ⟨_,_,M',hrun,g1,g2,g3,g4.weaken (fun _ h=>h.elim),fun b hb'=>?_⟩
   simp only [blk] at hb'
   split at hb'
   ·simp at hb'; exact .inr (by omega)
   ·cases hb'
theorem St.turnTok {C:Cx}{N:FN}{M M':Mem}{G:Nat→Value}{w w':World}{env:Env}{H:I0}{a:Act}(h:St C N M G w env H a){dst:Option Nat}(hd:∀ d,dst=some d→d < N){p e sz e' sz':Nat}{v':Value}{x:A}
  (hp:H[p]?=some (.tok e sz)) (hext:Ext (fun b=>blk (.tok e sz) (G p)=some b) M w M' w') (hg:Good M' w') (hob:Zg M' G w' (.tok e sz) v') (hblk:∀ b,blk (.tok e sz) v'=some b→blk (.tok e sz) (G p)=some b∨w.heap.size≤b)
  (hx:O1 M' (X5 G p v') x v') (_he:e'=e) (_hs:sz'=sz) :
  St C N M' (X5 G p v') w' (put (fun t=>dg [p] (env t)) dst x) (H.map (dgO [p])) (a.put dst v'):=by
 have hps:∀ q∈[p],∃ a l c,G q = .slice a l c:=fun q hq=>by
  simp at hq; subst hq
  rcases h.hrel.obj q _ hp with e | ⟨ad,n,cap,e,_⟩
  ·exact ⟨_,_,_,e⟩
  ·exact ⟨_,_,_,e⟩
 have hgg:∀ o,o ∉ [p]→G o≠.tuple #[]→X5 G p v' o=G o:=fun o ho _=>C3 (by simpa using ho)
 have hplt:p < H.length:=(zqu.1 hp).1
 have getH:∀ (o:Nat) z,(H.map (dgO [p]))[o]?=some z→∃ y,H[o]?=some y∧z=dgO [p] y:=fun o z hz=>by
  rw [List.getElem?_map] at hz
  cases hy:H[o]? with
  | none=>rw [hy] at hz; cases hz
  | some y=>rw [hy] at hz; exact ⟨y,rfl,by simpa using hz.symm⟩
 obtain ⟨p1,p2,p3⟩:=Vk (env:=fun t=>dg [p] (env t)) (dst:=dst) (x:=x) (a:=a) (v:=v') (N:=N) (M:=M') (G:=X5 G p v') (fun t=>D13 ((h.env t).mono' hext.mono) hps hgg) h.size hd hx
 refine ⟨hg,h.gl.ext h.hrel hext (fun b hb=>⟨p,_,hp,hb⟩),⟨fun o z hz=>?_,fun o o' z z' b hz hz' hb hb'=>?_,fun o ho=>?_⟩,p1,p2,p3.trans h.defers⟩
 ·obtain ⟨y,hy,rfl⟩:=getH o z hz
  by_cases hop:o=p
  ·subst hop
   rw [hp] at hy
   obtain rfl:=Option.some.inj hy
   rw [B4]
   exact hob
  ·rw [C3 hop]
   have hoy:=h.hrel.obj o y hy
   refine C15 (hoy.keep hext.mono (fun b hb=>hext.block b (A9 hoy hb) fun hb'=>hop (h.hrel.apart o p y _ b hy hp hb hb')) fun b hb off sp hn=>?_) hps hgg
   cases hM:M' ⟨b,off,sp⟩ with
   | none=>rfl
   | some u=>
    rcases hext.fresh _ u hM with q | q | q
    ·rw [hn] at q; cases q
    ·exact absurd (h.hrel.apart o p y _ b hy hp hb q) hop
    ·have:=A9 hoy hb; simp only at q; omega
 ·have key:∀ (o:Nat) z b,(H.map (dgO [p]))[o]?=some z→blk z (X5 G p v' o)=some b→∃ y,H[o]?=some y∧(blk y (G o)=some b∨o=p∧w.heap.size≤b):=by
   intro o z b hz hb
   obtain ⟨y,hy,rfl⟩:=getH o z hz
   replace hb:=Cn hb
   refine ⟨y,hy,?_⟩
   by_cases hop:o=p
   ·subst hop
    rw [hp] at hy
    obtain rfl:=Option.some.inj hy
    rw [B4] at hb
    rcases hblk b hb with q | q
    ·exact .inl q
    ·exact .inr ⟨rfl,q⟩
   ·rw [C3 hop] at hb
    exact .inl hb
  obtain ⟨y,hy,hyb⟩:=key o z b hz hb
  obtain ⟨y',hy',hyb'⟩:=key o' z' b hz' hb'
  rcases hyb with q | ⟨q1,q2⟩ <;> rcases hyb' with r | ⟨r1,r2⟩
  ·exact h.hrel.apart o o' y y' b hy hy' q r
  ·have:=A9 (h.hrel.obj o y hy) q; omega
  ·have:=A9 (h.hrel.obj o' y' hy') r; omega
  ·rw [q1,r1]
 ·simp only [List.length_map] at ho
  rw [C3 (by omega)]
  exact h.hrel.fresh o ho
theorem P2.turnTok {fr:Fr}{M M':Mem}{G:Nat→Value}{w w':World}{H:I0}(h:P2 fr M G w H){p e sz:Nat}{v':Value}
  (hp:H[p]?=some (.tok e sz)) (hext:Ext (fun b=>blk (.tok e sz) (G p)=some b) M w M' w') (hblk:∀ b,blk (.tok e sz) v'=some b→blk (.tok e sz) (G p)=some b∨w.heap.size≤b) :
  P2 fr M' (X5 G p v') w' (H.map (dgO [p])):=by
 have getH:∀ (o:Nat) z,(H.map (dgO [p]))[o]?=some z→∃ y,H[o]?=some y∧z=dgO [p] y:=fun o z hz=>by
  rw [List.getElem?_map] at hz
  cases hy:H[o]? with
  | none=>rw [hy] at hz; cases hz
  | some y=>rw [hy] at hz; exact ⟨y,rfl,by simpa using hz.symm⟩
 have hplt:p < H.length:=(zqu.1 hp).1
 refine ⟨h.ext.trans hext fun b hb=>h.own b ⟨p,_,hp,hb⟩,fun b ⟨o,z,hz,hb⟩=>?_,by simpa using h.len,fun o x ho ht=>?_,fun o x y ho ht hy=>?_⟩
 ·obtain ⟨y,hy,rfl⟩:=getH o z hz
  replace hb:=Cn hb
  by_cases hop:o=p
  ·subst hop
   rw [hp] at hy
   obtain rfl:=Option.some.inj hy
   rw [B4] at hb
   rcases hblk b hb with q | q
   ·exact h.own b ⟨o,_,hp,q⟩
   ·exact .inr (Nat.le_trans h.ext.size q)
  ·rw [C3 hop] at hb
   exact h.own b ⟨o,y,hy,hb⟩
 ·have hne:o≠p:=fun e'=>by
   subst e'
   have:=h.kind o x _ ho ht hp
   simp [isTok] at this
  rw [C3 hne]
  exact h.keep o x ho ht
 ·obtain ⟨z,hz,rfl⟩:=getH o y hy
  rw [W11]
  exact h.kind o x z ho ht hz
theorem St.newTok {C:Cx}{N:FN}{M M':Mem}{G:Nat→Value}{w w':World}{env:Env}{H:I0}{a:Act}(h:St C N M G w env H a){dst:Option Nat}(hd:∀ d,dst=some d→d < N){e sz:Nat}{v':Value}{x:A}
  (hext:Ext Y6 M w M' w') (hg:Good M' w') (hob:Zg M' G w' (.tok e sz) v') (hblk:∀ b,blk (.tok e sz) v'=some b→w.heap.size≤b)
  (hx:O1 M' (X5 G H.length v') x v') :
  St C N M' (X5 G H.length v') w' (put env dst x) (H++[.tok e sz]) (a.put dst v'):=by
 have hh:=h.hrel.ext hext (fun _ _ q=>q)
 have hmono:∀ {x:A} {v:Value},O1 M' G x v→O1 M' (X5 G H.length v') x v:=fun hr=>hr.mono (fun _ _ e=>e) fun o hn=>C3 (Nat.ne_of_lt (hh.lt hr hn))
 obtain ⟨h1,h2,h3⟩:=Vk (fun t=>hmono ((h.env t).mono' hext.mono)) h.size hd hx
 refine ⟨hg,h.gl.ext h.hrel hext (fun _ h=>h.elim),⟨fun o x ho=>?_,fun o o' x x' b ho ho' hb hb'=>?_,fun o ho=>?_⟩,h1,h2,h3.trans h.defers⟩
 ·rcases Nat.lt_trichotomy o H.length with hlt | rfl | hgt
  ·rw [zqx hlt] at ho
   rw [C3 (Nat.ne_of_lt hlt)]
   have hob:=hh.obj o x ho
   cases x with
   | dead=>trivial
   | row cells e=>
    obtain ⟨b,us,g1,g2,g3,g4,g5,g6⟩:=hob
    exact ⟨b,us,g1,g2,g3,g4,fun i y v a c=>hmono (g5 i y v a c),g6⟩
   | bld o' e=>
    obtain ⟨b,v0,g1,g2,g3,g4,g5⟩:=hob
    have ho':o'≠H.length:=fun e=>g4 (by rw [e]; exact hh.fresh _ (zqr _))
    exact ⟨b,v0,g1,by rw [C3 ho']; exact g2,g3,by rw [C3 ho']; exact g4,g5⟩
   | buf e sz=>exact hob
   | tok e sz=>exact hob
   | map es=>
    obtain ⟨b,ms,cl,g1,g2,g3,g4,g5⟩:=hob
    exact ⟨b,ms,cl,g1,g2,g3,fun i k cs e a c=>⟨(g4 i k cs e a c).1,hmono (g4 i k cs e a c).2⟩,g5⟩
  ·simp at ho
   subst ho
   rw [B4]
   exact hob
  ·rw [List.getElem?_eq_none (by simp; omega)] at ho
   cases ho
 ·have key:∀ (o:Nat) x b,(H++[Ob.tok e sz])[o]?=some x→blk x (X5 G H.length v' o)=some b→(o < H.length∧H[o]?=some x∧blk x (G o)=some b∧b < w.heap.size)∨(o=H.length∧w.heap.size≤b):=by
   intro o x b ho hb
   rcases Nat.lt_trichotomy o H.length with hlt | rfl | hgt
   ·rw [zqx hlt] at ho
    rw [C3 (Nat.ne_of_lt hlt)] at hb
    exact .inl ⟨hlt,ho,hb,A9 (h.hrel.obj o x ho) hb⟩
   ·simp at ho
    subst ho
    rw [B4] at hb
    exact .inr ⟨rfl,hblk b hb⟩
   ·rw [List.getElem?_eq_none (by simp; omega)] at ho
    cases ho
  rcases key o x b ho hb with ⟨q1,q2,q3,q4⟩ | ⟨q1,q2⟩ <;> rcases key o' x' b ho' hb' with ⟨p1,p2,p3,p4⟩ | ⟨p1,p2⟩
  ·exact h.hrel.apart o o' x x' b q2 p2 q3 p3
  ·omega
  ·omega
  ·omega
 ·simp at ho
  rw [C3 (by omega)]
  exact h.hrel.fresh o (by omega)
theorem P2.newTok {fr:Fr}{M M':Mem}{G:Nat→Value}{w w':World}{H:I0}(h:P2 fr M G w H){e sz:Nat}{v':Value}(hext:Ext Y6 M w M' w')(hblk:∀ b,blk (.tok e sz) v'=some b→w.heap.size≤b) :
  P2 fr M' (X5 G H.length v') w' (H++[.tok e sz]):=by
 refine ⟨h.ext.trans hext (fun _ h=>h.elim),fun b hb=>?_,by simp; have:=h.len; omega,fun o x ho ht=>?_,fun o x y ho ht hy=>?_⟩
 ·obtain ⟨o,x,ho,hx⟩:=hb
  rcases Nat.lt_trichotomy o H.length with hlt | rfl | hgt
  ·rw [zqx hlt] at ho
   rw [C3 (Nat.ne_of_lt hlt)] at hx
   exact h.own b ⟨o,x,ho,hx⟩
  ·simp at ho
   subst ho
   rw [B4] at hx
   exact .inr (Nat.le_trans h.ext.size (hblk b hx))
  ·rw [List.getElem?_eq_none (by simp; omega)] at ho
   cases ho
 ·have hlt:o < H.length:=Nat.lt_of_lt_of_le (zqu.1 ho).1 h.len
  rw [C3 (Nat.ne_of_lt hlt)]
  exact h.keep o x ho ht
 ·have hlt:o < H.length:=Nat.lt_of_lt_of_le (zqu.1 ho).1 h.len
  rw [zqx hlt] at hy
  exact h.kind o x y ho ht hy
def dgC (ps:List Nat):List A→Option (List A)
 | []=>some []
 | x::r=>match frc (dg ps x),dgC ps r with | some y,some r'=>some (y::r') | _,_=>none
theorem Z16 {ps:List Nat}:∀ {l l':List A},dgC ps l=some l'→l'=dgL ps l
 | [],l',h=>by simp [dgC] at h; subst h; rfl
 | x::r,l',h=>by
  simp only [dgC] at h
  split at h
  ·rename_i y r' hy hr
   simp only [zqb] at h
   subst h
   rw [Oo hy,Z16 hr]
   rfl
  ·cases h
def dgH (ps:List Nat):I0→Option I0
 | []=>some []
 | .row cs e::r=>match dgC ps cs,dgH ps r with | some cs',some r'=>some (.row cs' e::r') | _,_=>none
 | .dead::r=>match dgH ps r with | some r'=>some (.dead::r') | none=>none
 | .bld o e::r=>match dgH ps r with | some r'=>some ((bif ps.contains o then .dead else .bld o e)::r') | none=>none
 | .buf e sz::r=>match dgH ps r with | some r'=>some (.buf e sz::r') | none=>none
 | .tok e sz::r=>match dgH ps r with | some r'=>some (.tok e sz::r') | none=>none
 | .map es::r=>match dgH ps r with | some r'=>some (.map es::r') | none=>none
theorem Nq {ps:List Nat}:∀ {H H':I0},dgH ps H=some H'→H'=H.map (dgO ps)
 | [],H',h=>by simp [dgH] at h; subst h; rfl
 | .row cs e::r,H',h=>by
  simp only [dgH] at h
  split at h
  ·rename_i cs' r' hc hr
   simp only [zqb] at h
   subst h
   rw [Z16 hc,Nq hr]
   rfl
  ·cases h
 | .dead::r,H',h=>by
  simp only [dgH] at h
  split at h
  ·rename_i r' hr
   simp only [zqb] at h
   subst h
   rw [Nq hr]; rfl
  ·cases h
 | .bld o e::r,H',h=>by
  simp only [dgH] at h
  split at h
  ·rename_i r' hr
   simp only [zqb] at h
   subst h
   rw [Nq hr]; rfl
  ·cases h
 | .buf e sz::r,H',h=>by
  simp only [dgH] at h
  split at h
  ·rename_i r' hr
   simp only [zqb] at h
   subst h
   rw [Nq hr]; rfl
  ·cases h
 | .tok e sz::r,H',h=>by
  simp only [dgH] at h
  split at h
  ·rename_i r' hr
   simp only [zqb] at h
   subst h
   rw [Nq hr]; rfl
  ·cases h
 | .map es::r,H',h=>by
  simp only [dgH] at h
  split at h
  ·rename_i r' hr
   simp only [zqb] at h
   subst h
   rw [Nq hr]; rfl
  ·cases h
structure Ap where
 d:Option Nat
 p:Nat
 new:Bool
 rows:List Row
 news:List Row
 sz:Nat
 bytes:Nat
 H:I0
def W15 (C:Cx)(L:List Oper)(o:Oper)(env:Env)(H:I0):Option Ap:=
 match F2 L env o,o.op,Fb o with
 | some true,.call { callee:=.builtin .append,args,argTypes },some d=>
  match args.toList,argTypes.toList with
  | [x,y],[t,t']=>bif Nat.beq t t' then
   (match G4 C.T t,Jt (ev C.GL env y) with
   | some it,some news=>match it.u with
    | .sl e=>match G4 C.T e with
     | some ie=>match ev C.GL env x with
      | .osl p rows=>match nth H p with
       | some (.tok e' sz')=>bif Nat.beq e e'&&Nat.beq ie.size sz' then (match dgH [p] H with | some H'=>some ⟨d,p,false,rows,news,ie.size,ie.bytes,H'⟩ | none=>none) else none
       | _=>none
      | .full rows=>match Cq H (.tok e ie.size) with
       | some (n,H')=>some ⟨d,n,true,rows,news,ie.size,ie.bytes,H'⟩
       | none=>none
      | _=>none
     | none=>none
    | _=>none
   | _,_=>none) else none
  | _,_=>none
 | _,_,_=>none
theorem Ek {P:Program}{ρ:Operand→Value}{o:Oper}{x y:Operand}{t t':TypeId}{args:Array Operand}{ts:Array TypeId}(ho:o.op = .call { callee:=.builtin .append,args:=args,argTypes:=ts })(ha:args.toList=[x,y])(ht:ts.toList=[t,t']){w w':World}{v:Value}
  (h:(Builtin.append_ #[t,t'] o.type #[ρ x,ρ y]).run P w = .ok v w'):(execOp ρ o).run P w = .ok (.value v) w':=by
 obtain rfl:args = #[x,y]:=by rw [← Array.toArray_toList (xs:=args),ha]
 obtain rfl:ts = #[t,t']:=by rw [← Array.toArray_toList (xs:=ts),ht]
 unfold execOp
 simp [ho,resolve,invoke,builtin,h]
theorem Co {M:Mem}{G:Nat→Value}{w:World}{rows:List Row}{v:Value}(h:O4 M (.sl rows) v)(hf:L16 v)(e sz:Nat):Zg M G w (.tok e sz) v∧∀ b,blk (.tok e sz) v≠some b:=by
 cases h with
 | slnil=>exact ⟨.inl rfl,fun b hb=>by simp [blk] at hb⟩
 | sl sz' A2 hl hc hm hs hz h1 h2=>
  rename_i a len cap
  have hf':len=cap:=hf
  subst hf'
  exact ⟨.inr ⟨a,len,len,rfl,hs,zqr _,hm,fun hlt=>absurd hlt (Nat.lt_irrefl _)⟩,fun b hb=>by simp [blk] at hb⟩
theorem C0.a {F:Fx}(hC:T3 F.C){L l:List Oper}{o:Oper}{env:Env}{H:I0}{Q:Env→I0→Prop}{d:Option Nat}{p:Nat}{nw:Bool}{rows news:List Row}{sz bytes:Nat}{H':I0}
  (h:W15 F.C L o env H=some ⟨d,p,nw,rows,news,sz,bytes,H'⟩) (h1:∀ r∈rows,r.length=sz) (h2:∀ r∈news,r.length=sz) (h3:(rows.length+news.length) * (bytes+1)≤140737488355328)
  (k:C0 F L l (put (bif nw then env else fun t=>dg [p] (env t)) d (.osl p (rows++news))) H' Q):C0 F L (o::l) env H Q:=by
 unfold W15 at h
 split at h
 ·rename_i args ts dd hw ho hd
  split at h
  ·rename_i x y t t' ha ht
   cases hb:Nat.beq t t' with
   | false=>rw [hb] at h; cases h
   | true=>
    rw [hb] at h
    obtain rfl:=zqo hb
    simp only [zqk] at h
    split at h
    ·rename_i it news' hit hnews
     split at h
     ·rename_i e hu
      split at h
      ·rename_i ie hie
       have hmem:x∈o.op.operands∧y∈o.op.operands:=by
        rw [ho]
        obtain rfl:args = #[x,y]:=by rw [← Array.toArray_toList (xs:=args),ha]
        simp [Op.operands,Call.operands]
       have hlen:(rows.length+news.length) * bytes≤140737488355328∧rows.length+news.length≤maxLen:=by
        have:(rows.length+news.length) * (bytes+1)=(rows.length+news.length) * bytes+(rows.length+news.length):=Nat.mul_succ _ _
        unfold maxLen
        omega
       split at h
       ·rename_i q rows' hx
        split at h
        ·rename_i e' sz' hq
         cases hbb:Nat.beq e e'&&Nat.beq ie.size sz' with
         | false=>rw [hbb] at h; cases h
         | true=>
          rw [hbb] at h
          simp only [zqi] at hbb
          obtain rfl:=zqo hbb.1
          obtain rfl:=zqo hbb.2
          simp only [zqk] at h
          split at h
          ·rename_i H2 hH
           simp only [zqb,Ap.mk.injEq] at h
           obtain ⟨rfl,rfl,rfl,rfl,rfl,rfl,rfl,rfl⟩:=h
           refine Ug hw fun fr M G w a K Qw hK hdok hs hsi hk=>?_
           have hxr:=hs.eval x
           rw [hx] at hxr
           generalize hxv:a.eval x=xv at hxr
           cases hxr
           rename_i hgq hrd
           rw [S3] at hq
           have htok:Tok M w e ie.size xv:=by have:=hs.hrel.obj _ _ hq; rw [hgq] at this; exact this
           obtain ⟨v',w',M',r1,r2,r3,r4,r5,r6⟩:=Bo (ty:=o.type) hC.tok hs.good hit hu hie hrd (Ij hnews (hs.eval y)) htok h1 h2 hlen.1 hlen.2
           unfold Oper.wp
           rw [Ek ho ha ht (by rw [hxv]; exact r1)]
           have e1:=Nq hH
           subst e1
           rw [← hgq] at r5 r6
           refine hk (.osl q (rows'++news')) (fun t=>dg [q] (env t)) _ M' (X5 G q v') w' v' ?_ (hs.turnTok (Y4 hdok) hq r5 r4 r3 r6 (.osl r2 B4) rfl rfl) (hsi.turnTok hq r5 r6)
           rw [Q7 hd]
           exact k
          ·cases h
        ·cases h
       ·rename_i rows' hx
        split at h
        ·rename_i n H2 hH
         simp only [zqb,Ap.mk.injEq] at h
         obtain ⟨rfl,rfl,rfl,rfl,rfl,rfl,rfl,rfl⟩:=h
         obtain ⟨rfl,rfl⟩:=Zm hH
         refine Ug hw fun fr M G w a K Qw hK hdok hs hsi hk=>?_
         have hxr:=hs.eval x
         rw [hx] at hxr
         generalize hxv:a.eval x=xv at hxr
         cases hxr
         rename_i hfull hrd
         obtain ⟨t1,t2⟩:=Co (G:=fun _=>.tuple #[]) (w:=w) hrd hfull e ie.size
         obtain ⟨v',w',M',r1,r2,r3,r4,r5,r6⟩:=Bo (ty:=o.type) hC.tok hs.good hit hu hie hrd (Ij hnews (hs.eval y)) t1 h1 h2 hlen.1 hlen.2
         unfold Oper.wp
         rw [Ek ho ha ht (by rw [hxv]; exact r1)]
         have r5':Ext Y6 M w M' w':=r5.weaken fun b hb=>absurd hb (t2 b)
         have r6':∀ b,blk (.tok e ie.size) v'=some b→w.heap.size≤b:=fun b hb=>(r6 b hb).resolve_left (t2 b)
         refine hk (.osl H.length (rows'++news')) env _ M' (X5 G H.length v') w' v' ?_ (hs.newTok (Y4 hdok) r5' r4 r3 r6' (.osl r2 B4)) (hsi.newTok r5' r6')
         rw [Q7 hd]
         exact k
        ·cases h
       ·cases h
      ·cases h
     ·cases h
    ·cases h
  ·cases h
 ·cases h
end Go.Am

