/- A part of the proof of CatalogMakes. -/
import Derived.Orders
import Derived.Laws.Sem
import Derived.Laws.World
import GoSem.ClaimData
import Derived.Laws.Rows
import Derived.Laws.Entries
import Derived.Laws.Cells
import Derived.Laws.Append
import Derived.Laws.Strings
import Derived.Tactics
import Derived.Laws.CopyRow
import Derived.Calls
import Derived.Laws.AppendOwn
namespace Go.Am
theorem zqa : (false = true) = False := Bool.false_eq_true
theorem zqb {α : Type _} (a b : α) : (some a = some b) = (a = b) := Option.some.injEq a b
theorem zqc {α : Type _} {a b : List α} : (a ++ b).length = a.length + b.length := List.length_append
theorem zqd {α : Type _} {a : α} {b : List α} : (a :: b).length = b.length + 1 := rfl
theorem zqe {α : Type _} : ([] : List α).length = 0 := rfl
theorem zqf : (!true) = false := rfl
theorem zqg : (!false) = true := rfl
theorem zqh {α : Type _} {β : Type _} (a : α) (b : β) (c : α) (d : β) : ((a, b) = (c, d)) = (a = c ∧ b = d) := Prod.mk.injEq a b c d
theorem zqi (a b : Bool) : ((a && b) = true) = (a = true ∧ b = true) := Bool.and_eq_true a b
theorem zp {c : Prop} {h : Decidable c} (hc : c) {α : Sort _} {t e : α} : ite c t e = t := if_pos hc
theorem zn {c : Prop} {h : Decidable c} (hc : ¬c) {α : Sort _} {t e : α} : ite c t e = e := if_neg hc
theorem zt {α : Sort _} {h : Decidable True} (t e : α) : ite True t e = t := if_true t e
theorem zw {α : Sort _} {h : Decidable False} (t e : α) : ite False t e = e := if_false t e
theorem zqk {α : Sort _} {a b : α} : cond true a b = a := rfl
theorem zql {α : Sort _} {a b : α} : cond false a b = b := rfl
theorem zqm {α : Type _} [BEq α] [ReflBEq α] (a : α) : (a == a) = true := beq_self_eq_true a
theorem zqn {α : Type _} [BEq α] [LawfulBEq α] {a b : α} : (a == b) = false ↔ a ≠ b := beq_eq_false_iff_ne
theorem zqo {n m : Nat} (h : Nat.beq n m = true) : n = m := Nat.eq_of_beq_eq_true h
theorem zqp {α : Type _} {a : α} {l : List α} : a ∈ a :: l := List.mem_cons_self
theorem zqq {α : Type _} (y : α) {a : α} {l : List α} (h : a ∈ l) : a ∈ y :: l := List.mem_cons_of_mem y h
theorem zqr (n : Nat) : n ≤ n := Nat.le_refl n
theorem zqs {p : Prop} [inst : Decidable p] (h : ¬p) : decide p = false := decide_eq_false h
theorem zqt {α : Type _} {β : Type _} {a : α} {f : α → β} : Option.map f (some a) = some (f a) := rfl
theorem zqj {p : Prop} [inst : Decidable p] (h : p) : decide p = true := decide_eq_true h
theorem zqu {α : Type _} {i : Nat} {a : α} {l : List α} : l[i]? = some a ↔ ∃ h : i < l.length, l[i] = a := List.getElem?_eq_some_iff
theorem zqv {α : Type _} {l : List α} {i : Nat} (h : i < l.length) : l[i]? = some l[i] := List.getElem?_eq_getElem h
theorem zqx {α : Type _} {a b : List α} {n : Nat} (h : n < a.length) : (a ++ b)[n]? = a[n]? := List.getElem?_append_left h

inductive Nk where
 | ptr | map | func | iface
 deriving DecidableEq
inductive D where
 | bool (b:Bool)
 | int (k:IntKind) (n:Int)
 | str (s:List UInt8)
 | sl (rows:List (List D))
 | nilv (k:Nk)
 | box (cells:List D)
 | bxo (o:Option (List D))
 | mp (es:List (List UInt8×List D))
 | fn (o:Option FuncId)
abbrev Row:=List D
inductive A where
 | d (x:D)
 | junk
 | ref (o off:Nat)
 | ptr (cells:List D)
 | full (rows:List (List D))
 | osl (o:Nat) (rows:List (List D))
 | rsl (o off len cap:Nat)
 | clo (f:FuncId) (caps:List A)
 | bnd (f:FuncId) (first:List A)
 | agg (cells:List A)
 | tup (vs:List A)
 | mp (o:Nat)
inductive B1u where
 | s (l:List (List UInt8×List D))
 | i (k:IntKind) (l:List (Int×List D))
def B1u.list:B1u→List (D×List D)
 | .s l=>l.map fun p=>(.str p.1,p.2)
 | .i k l=>l.map fun p=>(.int k p.1,p.2)
inductive Ob where
 | dead
 | row (cells:List A) (elem:TypeId)
 | tok (elem:TypeId) (sz:Nat)
 | map (es:B1u)
 | bld (o:Nat) (elem:TypeId)
 | buf (elem:TypeId) (bs:List UInt8)
abbrev Mem:=Addr→Option Value
abbrev Env:=Nat→A
abbrev N0:=List Ob
def InK (k:IntKind)(n:Int):Prop:=k.min≤n∧n≤k.max
instance (k:IntKind)(n:Int):Decidable (InK k n):=inferInstanceAs (Decidable (_∧_))
theorem C19 {n:Int}:InK .i64 n ↔ -9223372036854775808≤n∧n≤9223372036854775807:=Iff.rfl
theorem S1y {n:Int}:InK .u8 n ↔ 0≤n∧n≤255:=Iff.rfl
theorem V1w {n:Int}:InK .i32 n ↔ -2147483648≤n∧n≤2147483647:=Iff.rfl
theorem C1u {n:Int}(h : -9223372036854775808≤n)(h':n≤9223372036854775807):IntKind.i64.wrap n=n:=by
 show (let m:=n % 18446744073709551616; if true&&decide (m≥9223372036854775808) then m - 18446744073709551616 else m)=n
 simp only [Bool.true_and,decide_eq_true_eq,ge_iff_le]
 split <;> omega
theorem C1n {n:Int}(h:0≤n)(h':n≤255):IntKind.u8.wrap n=n:=by
 show (let m:=n % 256; if false&&decide (m≥128) then m - 256 else m)=n
 simp only [Bool.false_and,zqa,zw]
 omega
theorem Ai (k:IntKind)(n:Int):InK k (k.wrap n):=by
 cases k
 case i64=>
  rw [C19]
  show -9223372036854775808≤(let m:=n % 18446744073709551616; if true&&decide (m≥9223372036854775808) then m - 18446744073709551616 else m)∧(let m:=n % 18446744073709551616; if true&&decide (m≥9223372036854775808) then m - 18446744073709551616 else m)≤9223372036854775807
  simp only [Bool.true_and,decide_eq_true_eq,ge_iff_le]
  split <;> omega
 case i32=>
  rw [V1w]
  show -2147483648≤(let m:=n % 4294967296; if true&&decide (m≥2147483648) then m - 4294967296 else m)∧(let m:=n % 4294967296; if true&&decide (m≥2147483648) then m - 4294967296 else m)≤2147483647
  simp only [Bool.true_and,decide_eq_true_eq,ge_iff_le]
  split <;> omega
 case i16=>
  show -32768≤(let m:=n % 65536; if true&&decide (m≥32768) then m - 65536 else m)∧(let m:=n % 65536; if true&&decide (m≥32768) then m - 65536 else m)≤32767
  simp only [Bool.true_and,decide_eq_true_eq,ge_iff_le]
  split <;> omega
 case i8=>
  show -128≤(let m:=n % 256; if true&&decide (m≥128) then m - 256 else m)∧(let m:=n % 256; if true&&decide (m≥128) then m - 256 else m)≤127
  simp only [Bool.true_and,decide_eq_true_eq,ge_iff_le]
  split <;> omega
 case u8=>
  show 0≤(let m:=n % 256; if false&&decide (m≥128) then m - 256 else m)∧(let m:=n % 256; if false&&decide (m≥128) then m - 256 else m)≤255
  simp only [Bool.false_and,zqa,zw]
  omega
 case u16=>
  show 0≤(let m:=n % 65536; if false&&decide (m≥32768) then m - 65536 else m)∧(let m:=n % 65536; if false&&decide (m≥32768) then m - 65536 else m)≤65535
  simp only [Bool.false_and,zqa,zw]
  omega
 case u32=>
  show 0≤(let m:=n % 4294967296; if false&&decide (m≥2147483648) then m - 4294967296 else m)∧(let m:=n % 4294967296; if false&&decide (m≥2147483648) then m - 4294967296 else m)≤4294967295
  simp only [Bool.false_and,zqa,zw]
  omega
 case u64=>
  show 0≤(let m:=n % 18446744073709551616; if false&&decide (m≥9223372036854775808) then m - 18446744073709551616 else m)∧(let m:=n % 18446744073709551616; if false&&decide (m≥9223372036854775808) then m - 18446744073709551616 else m)≤18446744073709551615
  simp only [Bool.false_and,zqa,zw]
  omega
def L1o (ms:Array MapEntry):Value:=.tuple (ms.map fun e=>.tuple #[e.key,e.val])
def O20 (n:Nat)(f:Nat→Value):Value:=if n=1 then f 0 else .agg ((List.range n).map f).toArray
inductive W4 (M:Mem):D→Value→Prop
 | bool {b}:W4 M (.bool b) (.bool b)
 | int {k n} (h:InK k n):W4 M (.int k n) (.int k n)
 | str {s:List UInt8} (h:s.length≤maxLen):W4 M (.str s) (.string ⟨s.toArray⟩)
 | slnil:W4 M (.sl []) (.slice none 0 0)
 | sl {rows:List Row} {a:Addr} {len cap:Nat} (sz:Nat) (T1:Nat→Nat→Value) (hl:rows.length=len) (hc:len≤cap) (hm:cap≤maxLen) (hs:cap=0∨a.spot=none)
   (hz:∀ (i:Nat) r,rows[i]?=some r→r.length=sz)
   (h1:∀ (i j:Nat) r x,rows[i]?=some r→r[j]?=some x→M (a.add (i * sz+j))=some (T1 i j))
   (h2:∀ (i j:Nat) r x,rows[i]?=some r→r[j]?=some x→W4 M x (T1 i j)):W4 M (.sl rows) (.slice (some a) len cap)
 | nilptr:W4 M (.nilv .ptr) (.pointer none)
 | nilmap:W4 M (.nilv .map) (.map none)
 | nilfunc:W4 M (.nilv .func) .nilFunc
 | niliface:W4 M (.nilv .iface) .nilIface
 | box {cells:List D} {a:Addr} (T1:Nat→Value) (hs:a.spot=none) (h1:∀ (j:Nat) x,cells[j]?=some x→M (a.add j)=some (T1 j))
   (h2:∀ (j:Nat) x,cells[j]?=some x→W4 M x (T1 j)):W4 M (.box cells) (.pointer (some a))
 | bxnil:W4 M (.bxo none) (.pointer none)
 | bxs {cells:List D} {a:Addr} (T1:Nat→Value) (hs:a.spot=none) (h1:∀ (j:Nat) x,cells[j]?=some x→M (a.add j)=some (T1 j))
   (h2:∀ (j:Nat) x,cells[j]?=some x→W4 M x (T1 j)):W4 M (.bxo (some cells)) (.pointer (some a))
 | mpnil:W4 M (.mp []) (.map none)
 | fnnil:W4 M (.fn none) .nilFunc
 | fns {f:FuncId}:W4 M (.fn (some f)) (.func (.func f) #[] #[])
 | mp {es:List (List UInt8×List D)} {b:Nat} {ms:Array MapEntry} (T1:Nat→Nat→Value) (h:M ⟨b,0,some 0⟩=some (L1o ms)) (hl:ms.size=es.length)
   (hk:∀ (i:Nat) k cs e,es[i]?=some (k,cs)→ms[i]?=some e→e.key = .string ⟨k.toArray⟩∧k.length≤maxLen∧e.val=O20 cs.length (T1 i))
   (hv:∀ (i j:Nat) k cs x,es[i]?=some (k,cs)→cs[j]?=some x→W4 M x (T1 i j)):W4 M (.mp es) (.map (some b))
theorem W4.mono {M M':Mem}(hm:∀ a v,M a=some v→M' a=some v){x:D}{v:Value}(h:W4 M x v):W4 M' x v:=by
 induction h with
 | bool=>exact .bool
 | int h=>exact .int h
 | str h=>exact .str h
 | slnil=>exact .slnil
 | sl sz T1 hl hc d hs hz h1 _ c=>exact .sl sz T1 hl hc d hs hz (fun i j r x a b=>hm _ _ (h1 i j r x a b)) c
 | nilptr=>exact .nilptr
 | nilmap=>exact .nilmap
 | nilfunc=>exact .nilfunc
 | niliface=>exact .niliface
 | box T1 hs h1 _ c=>exact .box T1 hs (fun j x a=>hm _ _ (h1 j x a)) c
 | bxnil=>exact .bxnil
 | bxs T1 hs h1 _ c=>exact .bxs T1 hs (fun j x a=>hm _ _ (h1 j x a)) c
 | mpnil=>exact .mpnil
 | fnnil=>exact .fnnil
 | fns=>exact .fns
 | mp T1 h hl hk _ c=>exact .mp T1 (hm _ _ h) hl hk c
theorem W4.one {M:Mem}{x:D}{v:Value}(h:W4 M x v):v.oneCell'=true:=by cases h <;> rfl
theorem W4.cells {M:Mem}{x:D}{v:Value}(h:W4 M x v):v.cells = #[v]:=by cases h <;> rfl
def L1q:Value→Prop
 | .slice none _ _=>True
 | .slice (some _) len cap=>len=cap
 | _=>False
inductive L1 (M:Mem)(G:Nat→Value):A→Value→Prop
 | d {x v} (h:W4 M x v):L1 M G (.d x) v
 | junk {v}:L1 M G .junk v
 | ref {o off b} (h:G o = .pointer (some ⟨b,0,none⟩)):L1 M G (.ref o off) (.pointer (some ⟨b,off,none⟩))
 | ptr {cells:List D} {a:Addr} (T1:Nat→Value) (hs:a.spot=none) (h1:∀ (j:Nat) x,cells[j]?=some x→M (a.add j)=some (T1 j))
   (h2:∀ (j:Nat) x,cells[j]?=some x→W4 M x (T1 j)):L1 M G (.ptr cells) (.pointer (some a))
 | full {rows v} (h:W4 M (.sl rows) v) (hf:L1q v):L1 M G (.full rows) v
 | osl {o rows v} (h:W4 M (.sl rows) v) (hg:G o=v):L1 M G (.osl o rows) v
 | rsl {o off len cap cap' b} (h:G o = .pointer (some ⟨b,0,none⟩)) (hc:len≤cap') (hm:cap'≤maxLen):L1 M G (.rsl o off len cap) (.slice (some ⟨b,off,none⟩) len cap')
 | clo {f:FuncId} {caps:List A} {vs:Array Value} (hl:caps.length=vs.size) (h:∀ (i:Nat) x v,caps[i]?=some x→vs[i]?=some v→L1 M G x v) :
   L1 M G (.clo f caps) (.func (.func f) #[] vs)
 | bnd {f:FuncId} {first:List A} {vs:Array Value} (hl:first.length=vs.size) (h:∀ (i:Nat) x v,first[i]?=some x→vs[i]?=some v→L1 M G x v) :
   L1 M G (.bnd f first) (.func (.func f) vs #[])
 | agg {cells:List A} {vs:Array Value} (hl:cells.length=vs.size) (h1:∀ (i:Nat) v,vs[i]?=some v→v.oneCell'=true)
   (h:∀ (i:Nat) x v,cells[i]?=some x→vs[i]?=some v→L1 M G x v):L1 M G (.agg cells) (.agg vs)
 | tup {xs:List A} {vs:Array Value} (hl:xs.length=vs.size) (h:∀ (i:Nat) x v,xs[i]?=some x→vs[i]?=some v→L1 M G x v):L1 M G (.tup xs) (.tuple vs)
 | mp {o b} (h:G o = .map (some b)):L1 M G (.mp o) (.map (some b))
inductive Names:A→Nat→Prop
 | ref {o off}:Names (.ref o off) o
 | osl {o rows}:Names (.osl o rows) o
 | rsl {o a b c}:Names (.rsl o a b c) o
 | mp {o}:Names (.mp o) o
 | clo {f caps x o} (h:x∈caps) (h':Names x o):Names (.clo f caps) o
 | bnd {f first x o} (h:x∈first) (h':Names x o):Names (.bnd f first) o
 | agg {cells x o} (h:x∈cells) (h':Names x o):Names (.agg cells) o
 | tup {xs x o} (h:x∈xs) (h':Names x o):Names (.tup xs) o
theorem L1.mono {M M':Mem}{G G':Nat→Value}(hm:∀ a v,M a=some v→M' a=some v){x:A}{v:Value}(h:L1 M G x v)(hg:∀ o,Names x o→G' o=G o):L1 M' G' x v:=by
 induction h with
 | d h=>exact .d (h.mono hm)
 | junk=>exact .junk
 | ref h=>exact .ref ((hg _ .ref).trans h)
 | ptr T1 hs h1 h2=>exact .ptr T1 hs (fun j x e=>hm _ _ (h1 j x e)) (fun j x e=>(h2 j x e).mono hm)
 | full h hf=>exact .full (h.mono hm) hf
 | osl h g=>exact .osl (h.mono hm) ((hg _ .osl).trans g)
 | rsl h hc k=>exact .rsl ((hg _ .rsl).trans h) hc k
 | clo hl _ c=>exact .clo hl fun i x v a b=>c i x v a b fun o f=>hg o (.clo (List.mem_of_getElem? a) f)
 | bnd hl _ c=>exact .bnd hl fun i x v a b=>c i x v a b fun o f=>hg o (.bnd (List.mem_of_getElem? a) f)
 | agg hl h1 _ c=>exact .agg hl h1 fun i x v a b=>c i x v a b fun o f=>hg o (.agg (List.mem_of_getElem? a) f)
 | tup hl _ c=>exact .tup hl fun i x v a b=>c i x v a b fun o f=>hg o (.tup (List.mem_of_getElem? a) f)
 | mp h=>exact .mp ((hg _ .mp).trans h)
theorem L1.mono' {M M':Mem}{G:Nat→Value}(hm:∀ a v,M a=some v→M' a=some v){x:A}{v:Value}(h:L1 M G x v):L1 M' G x v:=h.mono hm fun _ _=>rfl
def blk:Ob→Value→Option Nat
 | .row _ _,.pointer (some a)=>some a.block
 | .tok _ _,.slice (some a) len cap=>if len < cap then some a.block else none
 | .map _,.map r=>r
 | .bld _ _,.pointer (some a)=>some a.block
 | .buf _ _,.slice (some a) _ _=>some a.block
 | _,_=>none
def Z1a:Row→A
 | [x]=>.d x
 | cs=>.agg (cs.map .d)
def X21 (ms:Array MapEntry)(clock:Nat):Prop:=(∀ (i:Nat) e,ms[i]?=some e→e.born < clock)∧∀ (i j:Nat) e f,ms[i]?=some e→ms[j]?=some f→e.born=f.born→i=j
def Rj (M:Mem)(G:Nat→Value)(w:World):Ob→Value→Prop
 | .dead,_=>True
 | .row cells elem,g=>∃ b vs,g = .pointer (some ⟨b,0,none⟩)∧w.heap[b]?=some (.cells vs elem (0,0))∧cells.length≤vs.size∧(∀ (i:Nat) v,vs[i]?=some v→v.oneCell'=true)∧
   (∀ (i:Nat) x v,cells[i]?=some x→vs[i]?=some v→L1 M G x v)∧(∀ off sp,M ⟨b,off,sp⟩=none)
 | .tok elem sz,g=>g = .slice none 0 0∨∃ a n cap,g = .slice (some a) n cap∧(cap=0∨a.spot=none)∧n≤cap∧cap≤maxLen∧
   (n < cap→a.off=0∧∃ vs,w.heap[a.block]?=some (.cells vs elem (0,0))∧cap * sz≤vs.size∧∀ k sp,n * sz≤k→M ⟨a.block,k,sp⟩=none)
 | .map es,g=>∃ b ms clock,g = .map (some b)∧w.heap[b]?=some (.map ms clock)∧ms.size=es.list.length∧
   (∀ (i:Nat) k cs e,es.list[i]?=some (k,cs)→ms[i]?=some e→W4 M k e.key∧L1 M G (Z1a cs) e.val)∧
   X21 ms clock∧(∀ off sp,M ⟨b,off,sp⟩=none)
 | .bld o elem,g=>∃ b v0,g = .pointer (some ⟨b,0,none⟩)∧w.heap[b]?=some (.cells #[v0,G o] elem (0,0))∧(v0 = .pointer none∨v0 = .pointer (some ⟨b,0,none⟩))∧G o≠.tuple #[]∧(∀ off sp,M ⟨b,off,sp⟩=none)
 | .buf elem bs,g=>bs.length≤maxLen∧(g = .slice none 0 0∧bs=[]∨∃ b cap cur,g = .slice (some ⟨b,0,none⟩) bs.length cap∧w.heap[b]?=some (.cells cur elem (0,0))∧bs.length≤cap∧cap≤maxLen∧cur.size=cap∧
   cur.toList.take bs.length=bs.map (fun c=>Value.int .u8 c.toNat)∧∀ off sp,M ⟨b,off,sp⟩=none)
def Good (M:Mem)(w:World):Prop:=∀ a v,M a=some v→(a.spot=none∧w.cell? a=some v)∨(a.spot=some 0∧∃ ms clock,w.heap[a.block]?=some (.map ms clock)∧v=L1o ms)
theorem W4.notTuple {M:Mem}{x:D}{v:Value}(h:W4 M x v):∀ vs,v≠.tuple vs:=by cases h <;> simp
theorem Good.cell {M:Mem}{w:World}(b:Good M w){a:Addr}{v:Value}(e:M a=some v){x:D}(h:W4 M x v):w.cell? a=some v:=by
 rcases b a v e with ⟨_,h1⟩ | ⟨_,ms,cl,_,rfl⟩
 ·exact h1
 ·exact absurd rfl (h.notTuple _)
theorem Good.at {M:Mem}{w:World}(b:Good M w){a:Addr}{v:Value}(e:M a=some v)(h:a.spot=none):w.cell? a=some v:=by
 rcases b a v e with ⟨_,h1⟩ | ⟨h2,_⟩
 ·exact h1
 ·rw [h] at h2; cases h2
def own (G:Nat→Value)(H:N0)(b:Nat):Prop:=∃ o x,H[o]?=some x∧blk x (G o)=some b
structure W9 (M:Mem)(G:Nat→Value)(w:World)(H:N0):Prop where
 obj:∀ (o:Nat) x,H[o]?=some x→Rj M G w x (G o)
 apart:∀ (o o':Nat) x x' b,H[o]?=some x→H[o']?=some x'→blk x (G o)=some b→blk x' (G o')=some b→o=o'
 fresh:∀ o:Nat,H.length≤o→G o = .tuple #[]
structure Ext (S:Nat→Prop)(M:Mem)(w:World)(M':Mem)(w':World):Prop where
 mono:∀ a v,M a=some v→M' a=some v
 size:w.heap.size≤w'.heap.size
 os:w'.os=w.os
 output:w'.output=w.output
 tape:w'.tape=w.tape
 block:∀ b,b < w.heap.size→¬ S b→w'.heap[b]?=w.heap[b]?
 fresh:∀ a v,M' a=some v→M a=some v∨S a.block∨w.heap.size≤a.block
theorem Ext.refl (S:Nat→Prop)(M:Mem)(w:World):Ext S M w M w:=
 ⟨fun _ _ h=>h,zqr _,rfl,rfl,rfl,fun _ _ _=>rfl,fun _ _ h=>.inl h⟩
theorem Ext.trans {S g:Nat→Prop}{M c f:Mem}{w w1 d:World}(h:Ext S M w c w1)(h':Ext g c w1 f d)(hs:∀ b,g b→S b∨w.heap.size≤b):Ext S M w f d where
 mono a v e:=h'.mono a v (h.mono a v e)
 size:=Nat.le_trans h.size h'.size
 os:=h'.os.trans h.os
 output:=h'.output.trans h.output
 tape:=h'.tape.trans h.tape
 block b hb hn:=by
  rw [h'.block b (Nat.lt_of_lt_of_le hb h.size) (fun h1=>by rcases hs b h1 with h2 | h2; exact hn h2; omega),h.block b hb hn]
 fresh a v e:=by
  rcases h'.fresh a v e with e1 | e1 | e1
  ·exact h.fresh a v e1
  ·rcases hs _ e1 with e2 | e2
   ·exact .inr (.inl e2)
   ·exact .inr (.inr e2)
  ·exact .inr (.inr (Nat.le_trans h.size e1))
theorem Ext.weaken {S a:Nat→Prop}{M c:Mem}{w w1:World}(h:Ext S M w c w1)(hs:∀ b,S b→a b∨w.heap.size≤b):Ext a M w c w1:=
 (Ext.refl a M w).trans h hs
def C9:Nat→Prop:=fun _=>False
theorem Good.lt {M:Mem}{w:World}(h:Good M w){a:Addr}{v:Value}(e:M a=some v):a.block < w.heap.size:=by
 rcases h a v e with ⟨_,h1⟩ | ⟨_,ms,cl,h1,_⟩
 ·exact World.block_lt_of_cell? w a h1
 ·exact (Array.getElem?_eq_some_iff.1 h1).1
theorem Lu {w w':World}{a:Addr}(h:w'.heap[a.block]?=w.heap[a.block]?):w'.cell? a=w.cell? a:=by simp [World.cell?,h]
theorem Wb {M:Mem}{G:Nat→Value}{w:World}{x:Ob}{g:Value}(h:Rj M G w x g){b:Nat}(hb:blk x g=some b):b < w.heap.size:=by
 cases x with
 | dead=>simp [blk] at hb
 | row cells elem=>
  obtain ⟨d,vs,rfl,h1,_⟩:=h
  simp [blk] at hb; subst hb
  exact (Array.getElem?_eq_some_iff.1 h1).1
 | tok elem sz=>
  rcases h with rfl | ⟨a,n,cap,rfl,_,_,_,h1⟩
  ·simp [blk] at hb
  ·simp only [blk] at hb
   split at hb
   ·rename_i c
    obtain ⟨_,vs,h2,_⟩:=h1 c
    simp at hb; subst hb
    exact (Array.getElem?_eq_some_iff.1 h2).1
   ·cases hb
 | map es=>
  obtain ⟨d,ms,cl,rfl,h1,_⟩:=h
  simp [blk] at hb; subst hb
  exact (Array.getElem?_eq_some_iff.1 h1).1
 | bld o elem=>
  obtain ⟨d,f,rfl,h1,_⟩:=h
  simp [blk] at hb; subst hb
  exact (Array.getElem?_eq_some_iff.1 h1).1
 | buf elem bs=>
  rcases h with ⟨_,⟨rfl,_⟩ | ⟨d,cap,e,rfl,h1,_⟩⟩
  ·simp [blk] at hb
  ·simp [blk] at hb; subst hb
   exact (Array.getElem?_eq_some_iff.1 h1).1
theorem M1q {M:Mem}{G:Nat→Value}{w:World}{H:N0}(h:W9 M G w H){b:Nat}(hb:own G H b):b < w.heap.size:=by
 obtain ⟨o,x,c,a⟩:=hb
 exact Wb (h.obj o x c) a
theorem Rj.keep {M M':Mem}{G:Nat→Value}{w w':World}{x:Ob}{g:Value}(h:Rj M G w x g)(hm:∀ a v,M a=some v→M' a=some v)
  (hb:∀ b,blk x g=some b→w'.heap[b]?=w.heap[b]?) (hf:∀ b,blk x g=some b→∀ off sp,M ⟨b,off,sp⟩=none→M' ⟨b,off,sp⟩=none):Rj M' G w' x g:=by
 cases x with
 | dead=>trivial
 | row cells elem=>
  obtain ⟨b,vs,rfl,h1,h2,d,f,j⟩:=h
  exact ⟨b,vs,rfl,(hb b rfl).trans h1,h2,d,fun i x v a c=>(f i x v a c).mono' hm,fun off sp=>hf b rfl off sp (j off sp)⟩
 | tok elem sz=>
  rcases h with h | ⟨a,n,cap,rfl,h1,h2,d,f⟩
  ·exact .inl h
  ·refine .inr ⟨a,n,cap,rfl,h1,h2,d,fun l=>?_⟩
   obtain ⟨r,vs,j,p,s⟩:=f l
   have m:blk (.tok elem sz) (.slice (some a) n cap)=some a.block:=by simp [blk,l]
   exact ⟨r,vs,(hb _ m).trans j,p,fun k sp hk=>hf _ m k sp (s k sp hk)⟩
 | map es=>
  obtain ⟨b,ms,cl,rfl,h1,h2,d,f,j⟩:=h
  exact ⟨b,ms,cl,rfl,(hb b rfl).trans h1,h2,fun i k cs e a c=>⟨((d i k cs e a c).1).mono hm,((d i k cs e a c).2).mono' hm⟩,f,fun off sp=>hf b rfl off sp (j off sp)⟩
 | bld o elem=>
  obtain ⟨b,t,rfl,h1,h2,d,f⟩:=h
  exact ⟨b,t,rfl,(hb b rfl).trans h1,h2,d,fun off sp=>hf b rfl off sp (f off sp)⟩
 | buf elem bs=>
  obtain ⟨r,h⟩:=h
  refine ⟨r,?_⟩
  rcases h with h | ⟨b,cap,q,rfl,h1,h2,d,f,j,p⟩
  ·exact .inl h
  ·exact .inr ⟨b,cap,q,rfl,(hb b rfl).trans h1,h2,d,f,j,fun off sp=>hf b rfl off sp (p off sp)⟩
theorem W9.ext {S:Nat→Prop}{M M':Mem}{G:Nat→Value}{w w':World}{H:N0}(h:W9 M G w H)(a:Ext S M w M' w')(c:∀ b,own G H b→¬ S b):W9 M' G w' H where
 obj o x ho:=by
  refine (h.obj o x ho).keep a.mono (fun b hb=>a.block b (M1q h ⟨o,x,ho,hb⟩) (c b ⟨o,x,ho,hb⟩)) (fun b hb off sp hn=>?_)
  cases hM:M' ⟨b,off,sp⟩ with
  | none=>rfl
  | some v=>
   rcases a.fresh _ v hM with h1 | h1 | h1
   ·rw [hn] at h1; cases h1
   ·exact absurd h1 (c b ⟨o,x,ho,hb⟩)
   ·have:=M1q h ⟨o,x,ho,hb⟩
    simp only at h1
    omega
 apart:=h.apart
 fresh:=h.fresh
theorem W9.nil (M:Mem)(w:World):W9 M (fun _=>.tuple #[]) w []:=⟨fun o x h=>by simp at h,fun o o' x x' b h=>by simp at h,fun _ _=>rfl⟩
theorem L1.names {M:Mem}{G:Nat→Value}{x:A}{v:Value}(h:L1 M G x v){o:Nat}(hn:Names x o):G o≠.tuple #[]:=by
 induction h with
 | d h=>cases hn
 | junk=>cases hn
 | ref h=>cases hn; rw [h]; simp
 | ptr T1 hs h1 h2=>cases hn
 | full h hf=>cases hn
 | osl h hg=>cases hn; rw [hg]; cases h <;> simp
 | rsl h hc b=>cases hn; rw [h]; simp
 | clo hl h a=>
  cases hn with
  | clo hm hn=>
   obtain ⟨i,hi⟩:=List.getElem?_of_mem hm
   have hv:=Array.getElem?_eq_getElem (by rw [← hl]; exact (zqu.1 hi).1)
   exact a i _ _ hi hv hn
 | bnd hl h a=>
  cases hn with
  | bnd hm hn=>
   obtain ⟨i,hi⟩:=List.getElem?_of_mem hm
   have hv:=Array.getElem?_eq_getElem (by rw [← hl]; exact (zqu.1 hi).1)
   exact a i _ _ hi hv hn
 | agg hl h1 h a=>
  cases hn with
  | agg hm hn=>
   obtain ⟨i,hi⟩:=List.getElem?_of_mem hm
   have hv:=Array.getElem?_eq_getElem (by rw [← hl]; exact (zqu.1 hi).1)
   exact a i _ _ hi hv hn
 | tup hl h a=>
  cases hn with
  | tup hm hn=>
   obtain ⟨i,hi⟩:=List.getElem?_of_mem hm
   have hv:=Array.getElem?_eq_getElem (by rw [← hl]; exact (zqu.1 hi).1)
   exact a i _ _ hi hv hn
 | mp h=>cases hn; rw [h]; simp
theorem W9.lt {M:Mem}{G:Nat→Value}{w:World}{H:N0}(h:W9 M G w H){M':Mem}{x:A}{v:Value}(hr:L1 M' G x v){o:Nat}(hn:Names x o):o < H.length:=by
 rcases Nat.lt_or_ge o H.length with h1 | h1
 ·exact h1
 ·exact absurd (h.fresh o h1) (hr.names hn)
theorem Y1e {w w':World}{a:Addr}{v:Value}(hb:w'.heap[a.block]?=w.heap[a.block]?)(h:(a.spot=none∧w.cell? a=some v)∨(a.spot=some 0∧∃ ms b,w.heap[a.block]?=some (.map ms b)∧v=L1o ms)) :
  (a.spot=none∧w'.cell? a=some v)∨(a.spot=some 0∧∃ ms b,w'.heap[a.block]?=some (.map ms b)∧v=L1o ms):=by
 rw [Lu hb,hb]; exact h
theorem Good.ext {S:Nat→Prop}{M:Mem}{w w':World}(h:Good M w)(b:Ext S M w M w')(c:∀ a v,M a=some v→¬ S a.block):Good M w':=fun a v e=>
 by
  have hb:=b.block a.block (h.lt e) (c a v e)
  rw [Lu hb,hb]; exact h a v e
inductive TU where
 | bool | int (k:IntKind) | str | ptr (e:Nat) | sl (e:Nat) | arr (n e:Nat)
 | st (fs:List (Nat×Nat×Nat))
 | map (k e:Nat) | func | iface | other
structure TI where
 u:TU
 size:Nat
 bytes:Nat
 zero:List D
abbrev TT:=List (Nat×TI)
def B4:TT→Nat→Option TI
 | [],_=>none
 | (k,i)::r,t=>bif Nat.beq k t then some i else B4 r t
def TU.agg:TU→Bool
 | .st _ | .arr _ _=>true
 | _=>false
def zB:Value→D→Bool
 | .bool b,.bool c=>b == c
 | .int k n,.int k' n'=>decide (k=k')&&decide (n=n')&&decide (InK k n)
 | .string s,.str l=>s.data.toList.isEmpty&&l.isEmpty
 | .slice none 0 0,.sl []=>true
 | .pointer none,.nilv .ptr=>true
 | .map none,.nilv .map=>true
 | .nilFunc,.nilv .func=>true
 | .nilIface,.nilv .iface=>true
 | _,_=>false
theorem Pv {v:Value}{x:D}(h:zB v x=true)(M:Mem):W4 M x v:=by
 unfold zB at h
 split at h
 ·rename_i b c; obtain rfl:b=c:=by simpa using h
  exact .bool
 ·rename_i k n k' n'
  simp only [zqi,decide_eq_true_eq] at h
  obtain ⟨⟨rfl,rfl⟩,h⟩:=h
  exact .int h
 ·rename_i s l
  simp only [zqi,List.isEmpty_iff] at h
  obtain ⟨h1,rfl⟩:=h
  obtain ⟨d⟩:=s
  have:d = #[]:=by simpa using h1
  subst this
  exact .str (s:=[]) (Nat.zero_le _)
 ·exact .slnil
 ·exact .nilptr
 ·exact .nilmap
 ·exact .nilfunc
 ·exact .niliface
 ·cases h
def zsB:List Value→List D→Bool
 | [],[]=>true
 | v::vs,x::xs=>zB v x&&zsB vs xs
 | _,_=>false
theorem A1b:∀ {vs:List Value} {xs:List D},zsB vs xs=true→vs.length=xs.length∧∀ (i:Nat) v x,vs[i]?=some v→xs[i]?=some x→zB v x=true
 | [],[],_=>⟨rfl,fun i v x h=>by simp at h⟩
 | v::vs,x::xs,h=>by
  simp only [zsB,zqi] at h
  obtain ⟨h1,h2⟩:=A1b h.2
  refine ⟨by simp [h1],fun i u y a b=>?_⟩
  cases i with
  | zero=>simp at a b; subst a; subst b; exact h.1
  | succ i=>exact h2 i u y (by simpa using a) (by simpa using b)
 | [],_::_,h=>by simp [zsB] at h
 | _::_,[],h=>by simp [zsB] at h
def fsB (P:Program):List Field→List (Nat×Nat×Nat)→Bool
 | [],[]=>true
 | f::fs,(t,o,s)::r=>Nat.beq f.type t&&Nat.beq f.offset o&&Nat.beq (P.cellsOf t) s&&Nat.ble 1 s&&(P.info? t).isSome&&fsB P fs r
 | _,_=>false
def uB (P:Program):Option TypeDesc→TU→Bool
 | some .bool,.bool=>true
 | some (.int k),.int k'=>decide (k=k')
 | some .string,.str=>true
 | some (.pointer e),.ptr e'=>Nat.beq e e'
 | some (.slice e),.sl e'=>Nat.beq e e'
 | some (.array n e),.arr n' e'=>Nat.beq n n'&&Nat.beq e e'
 | some (.struct fs),.st gs=>fsB P fs.toList gs
 | some (.map k e),.map k' e'=>Nat.beq k k'&&Nat.beq e e'
 | some (.func ..),.func=>true
 | some (.interface _),.iface=>true
 | _,_=>false
def tiB (P:Program)(t:Nat)(i:TI):Bool:=
 (match P.info? t with
  | some j=>Nat.beq j.size i.size&&Nat.beq j.bytes i.bytes&&(match j.zero with
    | some (.agg cs)=>i.u.agg&&zsB cs.toList i.zero
    | some v=>!i.u.agg&&zsB [v] i.zero
    | none=>false)
  | none=>false)&&uB P (P.underlying t) i.u&&Nat.beq i.zero.length i.size&&Nat.ble 1 i.size
def TOk (P:Program)(T:TT):Prop:=∀ t i,B4 T t=some i→tiB P t i=true
theorem N1q (P:Program):∀ (T:TT),(T.all fun p=>tiB P p.1 p.2)=true→TOk P T
 | [],_=>fun t i h=>by simp [B4] at h
 | (k,j)::r,h=>fun t i ht=>by
  simp only [List.all_cons,zqi] at h
  simp only [B4] at ht
  cases hk:Nat.beq k t with
  | true=>
   rw [hk] at ht
   simp only [zqk,zqb] at ht
   subst ht
   have:=zqo hk
   subst this
   exact h.1
  | false=>
   rw [hk] at ht
   exact N1q P r h.2 t i (by simpa using ht)
structure Jd (P:Program)(t:Nat)(i:TI):Prop where
 info:∃ j,P.info? t=some j∧j.size=i.size∧j.bytes=i.bytes∧∃ z,j.zero=some z∧z.cells.toList.length=i.zero.length∧(∀ (n:Nat) v x,z.cells[n]?=some v→i.zero[n]?=some x→zB v x=true)∧
  (if i.u.agg then ∃ cs,z = .agg cs else z.cells = #[z])
 u:uB P (P.underlying t) i.u=true
 len:i.zero.length=i.size
 pos:1≤i.size
theorem TOk.facts {P:Program}{T:TT}(h:TOk P T){t:Nat}{i:TI}(ht:B4 T t=some i):Jd P t i:=by
 have hb:=h t i ht
 simp only [tiB,zqi] at hb
 obtain ⟨⟨⟨h1,h2⟩,m⟩,k⟩:=hb
 refine ⟨?_,h2,zqo m,Nat.le_of_ble_eq_true k⟩
 split at h1
 ·rename_i j g
  simp only [zqi] at h1
  obtain ⟨⟨l,f⟩,c⟩:=h1
  refine ⟨j,g,zqo l,zqo f,?_⟩
  split at c
  ·rename_i cs hz
   simp only [zqi] at c
   obtain ⟨e,d⟩:=A1b c.2
   exact ⟨_,hz,e,fun n v x a b=>d n v x (by simpa [Value.cells] using a) b,by rw [c.1]; exact ⟨cs,rfl⟩⟩
  ·rename_i v hv hz
   simp only [zqi,Bool.not_eq_true'] at c
   obtain ⟨e,d⟩:=A1b c.2
   have hc:v.cells = #[v]:=by cases v <;> first | rfl | (exact absurd rfl (hv _))
   refine ⟨_,hz,by rw [hc]; exact e,fun n u x a b=>d n u x (by rw [hc] at a; simpa using a) b,by rw [c.1]; exact hc⟩
  ·cases c
 ·cases h1
def W1i:Value→A
 | .bool b=>.d (.bool b)
 | .int k n=>bif decide (InK k n) then .d (.int k n) else .junk
 | .string s=>bif Nat.ble s.data.toList.length maxLen then .d (.str s.data.toList) else .junk
 | .slice none l c=>bif Nat.beq l 0&&Nat.beq c 0 then .full [] else .junk
 | .pointer none=>.d (.nilv .ptr)
 | .map none=>.d (.nilv .map)
 | .nilFunc=>.d (.nilv .func)
 | .nilIface=>.d (.nilv .iface)
 | .func (.func f) a b=>bif Nat.beq a.size 0&&Nat.beq b.size 0 then .clo f [] else .junk
 | .tuple a=>bif Nat.beq a.size 0 then .tup [] else .junk
 | _=>.junk
theorem M1o (M:Mem)(G:Nat→Value)(v:Value):L1 M G (W1i v) v:=by
 unfold W1i
 split
 ·exact .d .bool
 ·rename_i k n
  cases h:decide (InK k n)
  ·exact .junk
  ·exact .d (.int (of_decide_eq_true h))
 ·rename_i s
  cases h:Nat.ble s.data.toList.length maxLen
  ·exact .junk
  ·exact .d (.str (Nat.le_of_ble_eq_true h))
 ·rename_i l c
  cases h:Nat.beq l 0&&Nat.beq c 0
  ·exact .junk
  ·simp only [zqi] at h
   obtain rfl:=zqo h.1
   obtain rfl:=zqo h.2
   exact .full .slnil trivial
 ·exact .d .nilptr
 ·exact .d .nilmap
 ·exact .d .nilfunc
 ·exact .d .niliface
 ·rename_i f a b
  cases h:Nat.beq a.size 0&&Nat.beq b.size 0
  ·exact .junk
  ·simp only [zqi] at h
   obtain rfl:a = #[]:=Array.eq_empty_of_size_eq_zero (zqo h.1)
   obtain rfl:b = #[]:=Array.eq_empty_of_size_eq_zero (zqo h.2)
   exact .clo rfl fun i x v h=>by simp at h
 ·rename_i a
  cases h:Nat.beq a.size 0
  ·exact .junk
  ·obtain rfl:a = #[]:=Array.eq_empty_of_size_eq_zero (zqo h)
   exact .tup rfl fun i x v h=>by simp at h
 ·exact .junk
abbrev GT:=List (Nat×List D)
def D1u:GT→Nat→Option (List D)
 | [],_=>none
 | (k,i)::r,t=>bif Nat.beq k t then some i else D1u r t
def ev (GL:GT)(env:Env):Operand→A
 | .tmp t=>env t
 | .const v=>W1i v
 | .global g=>match D1u GL g with | some cs=>.ptr cs | none=>.junk
 | .func f=>.clo f []
def upd (env:Env)(t:Nat)(x:A):Env:=fun i=>bif Nat.beq i t then x else env i
def put (env:Env)(dst:Option Nat)(x:A):Env:=
 match dst with
 | some t=>upd env t x
 | none=>env
def nth {α:Type}:List α→Nat→Option α
 | [],_=>none
 | x::_,0=>some x
 | _::r,n+1=>nth r n
theorem Q3 {α:Type}:∀ (l:List α) (n:Nat),nth l n=l[n]?
 | [],_=>rfl
 | _::_,0=>rfl
 | _::r,n+1=>by rw [nth,Q3 r n]; rfl
def Lp (i:TI)(cells:List A):Option A:=
 bif i.u.agg then (bif Nat.ble i.size cells.length then some (.agg (cells.take i.size)) else none)
 else nth cells 0
def Yc:A→Option (List A)
 | .agg cs=>some cs
 | .junk | .tup _=>none
 | x=>some [x]
theorem Qv {M:Mem}{G:Nat→Value}{x:A}{v:Value}(h:L1 M G x v){cs:List A}(hc:Yc x=some cs) :
  v.cells.size=cs.length∧(∀ (i:Nat) u,v.cells[i]?=some u→u.oneCell'=true)∧∀ (i:Nat) y u,cs[i]?=some y→v.cells[i]?=some u→L1 M G y u:=by
 have c:∀ (x:A) (v:Value),L1 M G x v→v.cells = #[v]→v.oneCell'=true→v.cells.size=[x].length∧(∀ (i:Nat) u,v.cells[i]?=some u→u.oneCell'=true)∧∀ (i:Nat) y u,[x][i]?=some y→v.cells[i]?=some u→L1 M G y u:=by
  intro x v h e h1
  rw [e]
  refine ⟨rfl,fun i u f=>?_,fun i y u g f=>?_⟩
  ·cases i with
   | zero=>simp at f; subst f; exact h1
   | succ i=>simp at f
  ·cases i with
   | zero=>simp at f g; subst f; subst g; exact h
   | succ i=>simp at f
 cases h with
 | d h=>simp only [Yc,zqb] at hc; subst hc; exact c _ _ (.d h) h.cells h.one
 | junk=>simp [Yc] at hc
 | ref h=>simp only [Yc,zqb] at hc; subst hc; exact c _ _ (.ref h) rfl rfl
 | ptr T1 hs h1 h2=>simp only [Yc,zqb] at hc; subst hc; exact c _ _ (.ptr T1 hs h1 h2) rfl rfl
 | full h hf=>simp only [Yc,zqb] at hc; subst hc; exact c _ _ (.full h hf) h.cells h.one
 | osl h hg=>simp only [Yc,zqb] at hc; subst hc; exact c _ _ (.osl h hg) h.cells h.one
 | rsl h a b=>simp only [Yc,zqb] at hc; subst hc; exact c _ _ (.rsl h a b) rfl rfl
 | clo hl h=>simp only [Yc,zqb] at hc; subst hc; exact c _ _ (.clo hl h) rfl rfl
 | bnd hl h=>simp only [Yc,zqb] at hc; subst hc; exact c _ _ (.bnd hl h) rfl rfl
 | agg hl h1 h=>simp only [Yc,zqb] at hc; subst hc; exact ⟨hl.symm,h1,h⟩
 | tup hl h=>simp [Yc] at hc
 | mp h=>simp only [Yc,zqb] at hc; subst hc; exact c _ _ (.mp h) rfl rfl
theorem Y12 {P:Program}{t:Nat}{i:TI}(f:Jd P t i)(w:World):(isAgg t).run P w = .ok i.u.agg w:=by
 have a:=f.u
 cases hd:P.underlying t with
 | none=>rw [hd] at a; simp [uB] at a
 | some d=>
  unfold isAgg
  rw [Sem.run_bind,run_underlying hd w]
  rw [hd] at a
  cases d <;> cases hi:i.u <;> simp [hi,uB] at a <;> rfl
theorem Mh {P:Program}{t:Nat}{i:TI}(f:Jd P t i)(w:World):(sizeOf t).run P w = .ok i.size w:=by
 obtain ⟨j,h1,h2,_⟩:=f.info
 simp [sizeOf,typeInfo,h1,h2]
theorem N1a {P:Program}{M:Mem}{G:Nat→Value}{t:Nat}{i:TI}(f:Jd P t i)(w:World)(a:Addr)(cells:List A)(T1:Nat→Value)
  (h1:∀ (j:Nat) x,cells[j]?=some x→w.cell? (a.add j)=some (T1 j)) (h2:∀ (j:Nat) x,cells[j]?=some x→L1 M G x (T1 j)) (h:∀ (j:Nat) x,cells[j]?=some x→(T1 j).oneCell'=true) {x:A} (b:Lp i cells=some x) :
  ∃ v,(loadVar t a).run P w = .ok v w∧L1 M G x v:=by
 unfold Lp at b
 cases hg:i.u.agg with
 | true=>
  rw [hg] at b
  simp only [zqk] at b
  cases hb:Nat.ble i.size cells.length with
  | false=>rw [hb] at b; cases b
  | true=>
   rw [hb] at b
   simp only [zqk,zqb] at b
   subst b
   have k:=Nat.le_of_ble_eq_true hb
   have hl:=run_loadCells_list (P:=P) w a ((List.range i.size).map T1) (fun j v hv=>by
    rw [List.getElem?_map] at hv
    by_cases d:j < i.size
    ·rw [List.getElem?_range d] at hv
     simp at hv
     subst hv
     exact h1 j _ (zqv (by omega))
    ·rw [List.getElem?_eq_none (by simp; omega)] at hv
     cases hv)
   simp only [List.length_map,List.length_range] at hl
   have hv:∀ (j:Nat) u,((List.range i.size).map T1).toArray[j]?=some u→j < i.size∧T1 j=u:=by
    intro j u c
    rw [List.getElem?_toArray,List.getElem?_map] at c
    by_cases d:j < i.size
    ·rw [List.getElem?_range d] at c
     exact ⟨d,by simpa using c⟩
    ·rw [List.getElem?_eq_none (by simp; omega)] at c
     cases c
   refine ⟨.agg ((List.range i.size).map T1).toArray,?_,.agg (by simp; omega) (fun j v c=>?_) fun j x v b c=>?_⟩
   ·simp only [loadVar,Sem.run_bind,Y12 f w,hg,Result.andThen_ok,zt,Mh f w,hl,Sem.run_pure]
   ·obtain ⟨d,rfl⟩:=hv j v c
    exact h j _ (zqv (by omega))
   ·obtain ⟨d,rfl⟩:=hv j v c
    refine h2 j x ?_
    rw [List.getElem?_take] at b
    simpa [d] using b
 | false=>
  rw [hg] at b
  simp only [zql,Q3] at b
  have e:a.add 0=a:=by simp [Addr.add]
  have g:=h1 0 x b
  rw [e] at g
  refine ⟨T1 0,?_,h2 0 x b⟩
  simp only [loadVar,Sem.run_bind,Y12 f w,hg,Result.andThen_ok,zqa,zw,run_load,g]
theorem Z16 (a:Addr)(i j:Nat):(a.add i).add j=a.add (i+j):=by
 unfold Addr.add
 by_cases h1:i=0
 ·subst h1; simp
 ·by_cases h2:j=0
  ·subst h2; simp [h1]
  ·simp [h1,h2,Nat.add_assoc]
theorem Pe (b o i:Nat):(⟨b,o,none⟩:Addr).add i=⟨b,o+i,none⟩:=by unfold Addr.add; split <;> simp_all
theorem K15 {a:Addr}(hs:a.spot=none)(i:Nat):a.add i=⟨a.block,a.off+i,none⟩:=by
 obtain ⟨b,o,s⟩:=a
 simp only at hs
 subst hs
 exact Pe b o i
theorem Pr {w:World}{b:Nat}{vs:Array Value}{e:TypeId}{fr:Nat×Nat}(h:w.heap[b]?=some (.cells vs e fr))(j:Nat):w.cell? ⟨b,j,none⟩=vs[j]?:=by
 simp [World.cell?,h]
def He (i:TI)(x:A)(H:N0):Option A:=
 match x with
 | .ref o off=>match nth H o with | some (.row cells _)=>Lp i (cells.drop off) | _=>none
 | .ptr cells=>Lp i (cells.map .d)
 | _=>none
theorem W1w {P:Program}{M:Mem}{G:Nat→Value}{w:World}{H:N0}(r:Good M w)(n:W9 M G w H){t:Nat}{i:TI}(f:Jd P t i){x y:A}{v:Value}(c:L1 M G x v)
  (h:He i x H=some y):∃ u,(Instr.loadAt t v).run P w = .ok u w∧L1 M G y u:=by
 cases c with
 | @ref o off b hb=>
  simp only [He,Q3] at h
  split at h
  ·rename_i cells elem q
   obtain ⟨z,vs,g,h1,h2,s,p,_⟩:=n.obj o _ q
   rw [hb] at g
   simp only [Value.pointer.injEq,zqb,Addr.mk.injEq,and_true] at g
   subst g
   have hc:∀ (j:Nat) x,(cells.drop off)[j]?=some x→∃ u,vs[off+j]?=some u:=fun j x c=>by
    rw [List.getElem?_drop] at c
    have l:off+j < vs.size:=Nat.lt_of_lt_of_le (zqu.1 c).1 h2
    exact ⟨vs[off+j],Array.getElem?_eq_getElem l⟩
   have:=N1a (P:=P) (M:=M) (G:=G) f w ⟨b,off,none⟩ (cells.drop off) (fun j=>vs[off+j]?.getD undef) (fun j x c=>by
     obtain ⟨u,e⟩:=hc j x c
     rw [Pe,Pr h1,e]; rfl) (fun j x c=>by
     obtain ⟨u,e⟩:=hc j x c
     rw [e]
     rw [List.getElem?_drop] at c
     exact p _ x u c e) (fun j x c=>by
     obtain ⟨u,e⟩:=hc j x c
     rw [e]
     exact s _ u e) h
   obtain ⟨u,e,hr⟩:=this
   exact ⟨u,by simp [Instr.loadAt,Instr.sureAddr,e],hr⟩
  ·cases h
 | @ptr cells a T1 hs h1 h2=>
  simp only [He] at h
  have m:∀ (j:Nat) x,(cells.map A.d)[j]?=some x→∃ y,cells[j]?=some y∧x = .d y:=fun j x c=>by
   rw [List.getElem?_map] at c
   cases hc:cells[j]? with
   | none=>rw [hc] at c; cases c
   | some y=>rw [hc] at c; exact ⟨y,rfl,by simpa using c.symm⟩
  obtain ⟨u,e,hr⟩:=N1a (P:=P) (M:=M) (G:=G) f w a (cells.map .d) T1 (fun j x c=>by
    obtain ⟨y,k,rfl⟩:=m j x c
    exact r.cell (h1 j y k) (h2 j y k)) (fun j x c=>by
    obtain ⟨y,k,rfl⟩:=m j x c
    exact .d (h2 j y k)) (fun j x c=>by
    obtain ⟨y,k,rfl⟩:=m j x c
    exact (h2 j y k).one) h
  exact ⟨u,by simp [Instr.loadAt,Instr.sureAddr,e],hr⟩
 | d h'=>simp [He] at h
 | junk=>simp [He] at h
 | full _ _=>simp [He] at h
 | osl _ _=>simp [He] at h
 | rsl _ _ _=>simp [He] at h
 | clo _ _=>simp [He] at h
 | bnd _ _=>simp [He] at h
 | agg _ _ _=>simp [He] at h
 | tup _ _=>simp [He] at h
 | mp _=>simp [He] at h
def P2 (x:A):Option (Prop×A):=some (True,x)
def X1i (op:BinOp)(k:IntKind)(a:Int)(k':IntKind)(b:Int):Option (Prop×A):=
 match op with
 | .shl=>some (0≤b,.d (.int k (k.wrap (a * 2 ^ (min b.toNat k.bits)))))
 | .shr=>some (0≤b,.d (.int k (a.fdiv (2 ^ (min b.toNat k.bits)))))
 | _=>bif decide (k=k') then
   match op with
   | .add=>P2 (.d (.int k (k.wrap (a+b))))
   | .sub=>P2 (.d (.int k (k.wrap (a - b))))
   | .mul=>P2 (.d (.int k (k.wrap (a * b))))
   | .quo=>some (b≠0,.d (.int k (k.wrap (a.tdiv b))))
   | .rem=>some (b≠0,.d (.int k (a.tmod b)))
   | .and=>P2 (.d (.int k (k.wrap ((BitVec.ofInt k.bits a &&& BitVec.ofInt k.bits b).toNat:Int))))
   | .or=>P2 (.d (.int k (k.wrap ((BitVec.ofInt k.bits a ||| BitVec.ofInt k.bits b).toNat:Int))))
   | .xor=>P2 (.d (.int k (k.wrap ((BitVec.ofInt k.bits a ^^^ BitVec.ofInt k.bits b).toNat:Int))))
   | .eql=>P2 (.d (.bool (a == b)))
   | .neq=>P2 (.d (.bool (a != b)))
   | .lss=>P2 (.d (.bool (decide (a < b))))
   | .leq=>P2 (.d (.bool (decide (a≤b))))
   | .gtr=>P2 (.d (.bool (decide (a > b))))
   | .geq=>P2 (.d (.bool (decide (a≥b))))
   | _=>none
  else none
def Y1i (op:BinOp)(a b:List UInt8):Option (Prop×A):=
 match op with
 | .add=>some (a.length+b.length≤maxLen,.d (.str (a++b)))
 | .eql=>P2 (.d (.bool (a == b)))
 | .neq=>P2 (.d (.bool (!(a == b))))
 | .lss=>P2 (.d (.bool (Op.bytesLess a b)))
 | _=>none
def eqA (u:TU)(x y:A):Option Bool→Option (Prop×A)
 | none=>none
 | some neg=>
  match u,x,y with
  | .bool,.d (.bool a),.d (.bool b)=>P2 (.d (.bool (bif neg then !(a == b) else (a == b))))
  | .ptr _,.d (.nilv .ptr),.d (.nilv .ptr)=>P2 (.d (.bool (!neg)))
  | .ptr _,.ref _ _,.d (.nilv .ptr)=>P2 (.d (.bool neg))
  | .ptr _,.ptr _,.d (.nilv .ptr)=>P2 (.d (.bool neg))
  | .ptr _,.d (.box _),.d (.nilv .ptr)=>P2 (.d (.bool neg))
  | .ptr _,.d (.bxo o),.d (.nilv .ptr)=>P2 (.d (.bool (bif neg then !o.isNone else o.isNone)))
  | .map _ _,.d (.nilv .map),.d (.nilv .map)=>P2 (.d (.bool (!neg)))
  | .map _ _,.mp _,.d (.nilv .map)=>P2 (.d (.bool neg))
  | .func,.d (.nilv .func),.d (.nilv .func)=>P2 (.d (.bool (!neg)))
  | .func,.clo _ _,.d (.nilv .func)=>P2 (.d (.bool neg))
  | _,_,_=>none
def L1c:BinOp→Option Bool
 | .eql=>some false
 | .neq=>some true
 | _=>none
def Z1i (T:TT)(op:BinOp)(t:Nat)(x y:A):Option (Prop×A):=
 match x,y with
 | .d (.int k a),.d (.int k' b)=>X1i op k a k' b
 | .d (.str a),.d (.str b)=>Y1i op a b
 | x,y=>match B4 T t with | some i=>eqA i.u x y (L1c op) | none=>none
def unA (op:UnOp)(x:A):Option (Prop×A):=
 match op,x with
 | .neg,.d (.int k n)=>P2 (.d (.int k (k.wrap (0 - n))))
 | .not,.d (.bool b)=>P2 (.d (.bool (!b)))
 | _,_=>none
def N1o (T:TT)(s t:Nat)(x:A):Option (Prop×A):=
 match B4 T s,B4 T t,x with
 | some _,some j,.d (.int _ n)=>match j.u with | .int k=>P2 (.d (.int k (k.wrap n))) | _=>none
 | some i,some j,.d (.str s)=>match i.u,j.u with | .str,.str=>P2 (.d (.str s)) | _,_=>none
 | _,_,_=>none
def P10 (x:A)(n:Nat):Option A:=
 match x with
 | .ref o off=>some (.ref o (off+n))
 | .ptr cells=>some (.ptr (cells.drop n))
 | _=>none
def Mw:A→Option (List (List D))
 | .d (.sl rows)=>some rows
 | .full rows=>some rows
 | .osl _ rows=>some rows
 | _=>none
def lenA (T:TT)(t:Nat)(x:A):Option A:=
 match B4 T t with
 | none=>none
 | some i=>match i.u,x with
  | .str,.d (.str s)=>some (.d (.int .i64 (s.length:Nat)))
  | .arr n _,_=>bif Nat.ble n maxLen then some (.d (.int .i64 (n:Nat))) else none
  | .sl _,.rsl _ _ n _=>some (.d (.int .i64 (n:Nat)))
  | .sl _,x=>match Mw x with | some rows=>some (.d (.int .i64 (rows.length:Nat))) | none=>none
  | .map _ _,.d (.nilv .map)=>some (.d (.int .i64 0))
  | _,_=>none
def Ff:List A→Nat→List A→List A
 | c,0,[]=>c
 | _::c,0,x::xs=>x::Ff c 0 xs
 | c::cs,n+1,xs=>c::Ff cs n xs
 | [],_,_=>[]
def Zm (place:Nat→Option (Nat×Nat))(cells:List A):List (Nat×A)→Option (List A)
 | []=>some cells
 | (i,x)::rest=>
  match place i,Yc x with
  | some (off,size),some xs=>bif Nat.beq xs.length size&&Nat.ble (off+size) cells.length then Zm place (Ff cells off xs) rest else none
  | _,_=>none
def M1c (T:TT)(t:Nat)(parts:List (Nat×A)):Option A:=
 match B4 T t with
 | none=>none
 | some i=>match i.u with
  | .st fs=>(Zm (fun n=>(nth fs n).map fun f=>(f.2.1,f.2.2)) (i.zero.map .d) parts).map .agg
  | .arr _ e=>match B4 T e with
   | some j=>(Zm (fun n=>some (n * j.size,j.size)) (i.zero.map .d) parts).map .agg
   | none=>none
  | _=>none
def Mi (isMax:Bool):A→A→Option A
 | .d (.int k a),.d (.int k' b)=>bif decide (k=k') then some (.d (.int k (bif isMax then max a b else min a b))) else none
 | _,_=>none
def Gw (m:Bool)(x y z u:A):Option A:=
 match Mi m x y with
 | some p=>match Mi m p z with
  | some q=>Mi m q u
  | none=>none
 | none=>none
def A1j (T:TT)(b:Builtin)(ts:List Nat)(xs:List A):Option (Prop×A):=
 match b,ts,xs with
 | .len,[t],[x]=>(lenA T t x).map fun y=>(True,y)
 | .min,_,[x,y]=>(Mi false x y).map fun y=>(True,y)
 | .max,_,[x,y]=>(Mi true x y).map fun y=>(True,y)
 | .min,_,[x,y,z,u]=>(Gw false x y z u).map fun y=>(True,y)
 | .max,_,[x,y,z,u]=>(Gw true x y z u).map fun y=>(True,y)
 | _,_,_=>none
def O1q (T:TT)(len e:Nat)(n:Int)(x:A):Option (Prop×A):=
 match B4 T e with
 | some j=>match P10 x (n.toNat * j.size) with
  | some p=>bif Nat.ble 2 len then some (0≤n∧n < (len:Int),p) else none
  | none=>none
 | none=>none
def Z12 (T:TT)(t:Nat)(x y:A):Option (Prop×A):=
 match B4 T t,y with
 | some i,.d (.int _ n)=>
  match i.u,x with
  | .arr len e,x=>O1q T len e n x
  | .sl e,.rsl o off len _=>match B4 T e with
   | some j=>some (0≤n∧n < (len:Int),.ref o (off+n.toNat * j.size))
   | none=>none
  | _,_=>none
 | _,_=>none
def B1j (T:TT)(t:Nat)(x y:A):Option (Prop×A):=
 match B4 T t,x,y with
 | some i,.agg cs,.d (.int _ n)=>
  match i.u with
  | .arr len e=>match B4 T e with
   | some j=>(Lp j (cs.drop (n.toNat * j.size))).map fun z=>(0≤n∧n < (len:Int),z)
   | none=>none
  | _=>none
 | _,_,_=>none
def opA (T:TT)(GL:GT)(op:Op)(env:Env)(H:N0):Option (Prop×A):=
 match op with
 | .move x | .assign x=>P2 (ev GL env x)
 | .pick c a b=>match ev GL env c with | .d (.bool t)=>P2 (bif t then ev GL env a else ev GL env b) | _=>none
 | .build t parts=>(M1c T t (parts.toList.map fun p=>(p.1,ev GL env p.2))).map fun y=>(True,y)
 | .load t a=>match B4 T t with | some i=>(He i (ev GL env a) H).map fun y=>(True,y) | none=>none
 | .nilCheck x=>match ev GL env x with | .ref o off=>P2 (.ref o off) | .ptr cs=>P2 (.ptr cs) | .d (.box cs)=>P2 (.ptr cs) | .clo f cs=>P2 (.clo f cs) | .bnd f cs=>P2 (.bnd f cs) | _=>none
 | .binOp op t x y _=>Z1i T op t (ev GL env x) (ev GL env y)
 | .unOp op _ x=>unA op (ev GL env x)
 | .convert s t x=>N1o T s t (ev GL env x)
 | .makeFunc (.func f) first caps=>bif Nat.beq first.size 0 then P2 (.clo f (caps.toList.map (ev GL env))) else bif Nat.beq caps.size 0 then P2 (.bnd f (first.toList.map (ev GL env))) else none
 | .fieldAddr t x f=>match B4 T t with
  | some i=>match i.u with | .st fs=>(match nth fs f with | some g=>(P10 (ev GL env x) g.2.1).map fun y=>(True,y) | none=>none) | _=>none
  | none=>none
 | .field t x f=>match B4 T t,ev GL env x with
  | some i,.agg cs=>match i.u with
   | .st fs=>(match nth fs f with | some g=>(match B4 T g.1 with | some j=>(Lp j (cs.drop g.2.1)).map fun y=>(True,y) | none=>none) | none=>none)
   | _=>none
  | _,_=>none
 | .indexAddr t x y=>Z12 T t (ev GL env x) (ev GL env y)
 | .index t x y=>B1j T t (ev GL env x) (ev GL env y)
 | .extract x n=>match ev GL env x with | .tup xs=>(nth xs n).map fun y=>(True,y) | _=>none
 | .call { callee:=.builtin b,args,argTypes }=>A1j T b argTypes.toList (args.toList.map (ev GL env))
 | _=>none
theorem E1u {k:IntKind}{a b:Int}(ha:InK k a):InK k (a.tmod b):=by
 have h1:(a.tmod b).natAbs≤a.natAbs:=by rw [Int.natAbs_tmod]; exact Nat.mod_le _ _
 have h2:0≤a→0≤a.tmod b:=Int.tmod_nonneg b
 have c:a≤0→a.tmod b≤0:=fun h=>by
  have d:(-a).tmod b = -(a.tmod b):=Int.neg_tmod a b
  have e:0≤(-a).tmod b:=Int.tmod_nonneg b (by omega)
  omega
 have hz:k.min≤0∧0≤k.max:=by cases k <;> decide
 obtain ⟨l,u⟩:=ha
 constructor <;> omega
theorem F1u {k:IntKind}{a:Int}{n:Nat}(ha:InK k a):InK k (a.fdiv (2 ^ n)):=by
 have hp:(0:Int) < 2 ^ n:=by exact_mod_cast Nat.two_pow_pos n
 have hz:k.min≤0∧0≤k.max:=by cases k <;> decide
 have e:a.fdiv (2 ^ n)=a / (2 ^ n):=Int.fdiv_eq_ediv_of_nonneg a (Int.le_of_lt hp)
 rw [e]
 obtain ⟨l,u⟩:=ha
 rcases Int.lt_or_le a 0 with h | h
 ·have h1:a≤a / 2 ^ n:=by
   rw [Int.le_ediv_iff_mul_le hp]
   have:(1:Int)≤2 ^ n:=by omega
   have:=Int.mul_le_mul_of_nonpos_left (Int.le_of_lt h) this
   omega
  have h2:a / 2 ^ n < 0:=Int.ediv_neg_of_neg_of_pos h hp
  constructor <;> omega
 ·have h1:0≤a / 2 ^ n:=Int.ediv_nonneg h (Int.le_of_lt hp)
  have h2:a / 2 ^ n≤a:=Int.ediv_le_self _ h
  constructor <;> omega
section
variable {P:Program}{M:Mem}{G:Nat→Value}{w:World}
def Ni (P:Program)(M:Mem)(G:Nat→Value)(w:World)(s:Sem Value)(x:A):Prop:=∃ v,s.run P w = .ok v w∧L1 M G x v
theorem P1q {op:BinOp}{k k':IntKind}{a b:Int}{c:Prop}{x:A}(ha:InK k a)(h:X1i op k a k' b=some (c,x))(hc:c)(t:Nat) :
  Ni P M G w (binOp op t (.int k a) (.int k' b)) x:=by
 have int:∀ n,InK k n→L1 M G (.d (.int k n)) (.int k n):=fun n h=>.d (.int h)
 unfold X1i at h
 cases op
 case shl=>
  simp only [zqb,zqh] at h
  obtain ⟨rfl,rfl⟩:=h
  refine ⟨.int k (k.wrap (a * 2 ^ (min b.toNat k.bits))),?_,int _ (Ai _ _)⟩
  have:¬ b < 0:=by omega
  simp [binOp,Op.shift,this]
 case shr=>
  simp only [zqb,zqh] at h
  obtain ⟨rfl,rfl⟩:=h
  refine ⟨.int k (a.fdiv (2 ^ (min b.toNat k.bits))),?_,int _ (F1u ha)⟩
  have:¬ b < 0:=by omega
  simp [binOp,Op.shift,this]
 all_goals
  have e:k=k':=by
   cases hk:decide (k=k') with
   | false=>rw [hk] at h; simp at h
   | true=>exact of_decide_eq_true hk
  subst e
  simp only [decide_true,zqk,P2,zqb,zqh,reduceCtorEq] at h
 all_goals obtain ⟨rfl,rfl⟩:=h
 case add=>exact ⟨_,by simp [binOp,Op.intArith],int _ (Ai _ _)⟩
 case sub=>exact ⟨_,by simp [binOp,Op.intArith],int _ (Ai _ _)⟩
 case mul=>exact ⟨_,by simp [binOp,Op.intArith],int _ (Ai _ _)⟩
 case quo=>exact ⟨_,by simp [binOp,Op.intDiv,hc],int _ (Ai _ _)⟩
 case rem=>exact ⟨_,by simp [binOp,Op.intDiv,hc],int _ (E1u ha)⟩
 case and=>exact ⟨_,by simp [binOp,Op.intBits],int _ (Ai _ _)⟩
 case or=>exact ⟨_,by simp [binOp,Op.intBits],int _ (Ai _ _)⟩
 case xor=>exact ⟨_,by simp [binOp,Op.intBits],int _ (Ai _ _)⟩
 all_goals exact ⟨_,by simp [binOp,Op.intCmp],.d .bool⟩
theorem Q1q {op:BinOp}{a b:List UInt8}{c:Prop}{x:A}(h:Y1i op a b=some (c,x))(hc:c)(t:Nat) :
  Ni P M G w (binOp op t (.string ⟨a.toArray⟩) (.string ⟨b.toArray⟩)) x:=by
 unfold Y1i at h
 cases op <;> simp only [P2,zqb,zqh,reduceCtorEq] at h
 all_goals obtain ⟨rfl,rfl⟩:=h
 case add=>
  refine ⟨.string ⟨(a++b).toArray⟩,?_,.d (.str (by simpa using hc))⟩
  have h1:¬ (((⟨a.toArray⟩:ByteArray).size+(⟨b.toArray⟩:ByteArray).size:Nat):Int) > IntKind.i64.max:=by
   show ¬ ((a.toArray.size+b.toArray.size:Nat):Int) > 9223372036854775807
   simp only [List.size_toArray]
   unfold maxLen at hc
   omega
  simp only [binOp,Op.stringOp,h1,zw,Sem.run_pure]
  congr 2
 case eql=>exact ⟨_,by simp [binOp,Op.stringOp],.d .bool⟩
 case neq=>exact ⟨_,by simp [binOp,Op.stringOp],.d .bool⟩
 case lss=>exact ⟨_,by simp [binOp,Op.stringOp],.d .bool⟩
theorem G1u (t:Nat)(a b:Value):∃ n,Op.equal t a b=Op.equalIn (n+1) t a b:=⟨9999,rfl⟩
theorem Qg {t:Nat}{i:TI}(f:Jd P t i):∃ d,P.underlying t=some d∧uB P (some d) i.u=true:=by
 have a:=f.u
 cases hd:P.underlying t with
 | none=>rw [hd] at a; simp [uB] at a
 | some d=>rw [hd] at a; exact ⟨d,rfl,a⟩
theorem O1o {t:Nat}{i:TI}(f:Jd P t i)(h:i.u = .bool):P.underlying t=some .bool:=by
 obtain ⟨d,b,a⟩:=Qg f
 rw [h] at a
 cases d <;> simp [uB] at a
 exact b
theorem Wo {t:Nat}{i:TI}(f:Jd P t i)(h:i.u = .str):P.underlying t=some .string:=by
 obtain ⟨d,b,a⟩:=Qg f
 rw [h] at a
 cases d <;> simp [uB] at a
 exact b
theorem H1g {t:Nat}{i:TI}{k:IntKind}(f:Jd P t i)(h:i.u = .int k):P.underlying t=some (.int k):=by
 obtain ⟨d,b,a⟩:=Qg f
 rw [h] at a
 cases d <;> simp [uB] at a
 subst a
 exact b
theorem Ws {t:Nat}{i:TI}{e:Nat}(f:Jd P t i)(h:i.u = .ptr e):P.underlying t=some (.pointer e):=by
 obtain ⟨d,b,a⟩:=Qg f
 rw [h] at a
 cases d <;> simp [uB] at a
 subst a
 exact b
theorem Io {t:Nat}{i:TI}{e:Nat}(f:Jd P t i)(h:i.u = .sl e):P.underlying t=some (.slice e):=by
 obtain ⟨d,b,a⟩:=Qg f
 rw [h] at a
 cases d <;> simp [uB] at a
 subst a
 exact b
theorem Ry {t:Nat}{i:TI}{n e:Nat}(f:Jd P t i)(h:i.u = .arr n e):P.underlying t=some (.array n e):=by
 obtain ⟨d,b,a⟩:=Qg f
 rw [h] at a
 cases d <;> simp [uB] at a
 obtain ⟨rfl,rfl⟩:=a
 exact b
theorem A17 {t:Nat}{i:TI}{k e:Nat}(f:Jd P t i)(h:i.u = .map k e):P.underlying t=some (.map k e):=by
 obtain ⟨d,b,a⟩:=Qg f
 rw [h] at a
 cases d <;> simp [uB] at a
 obtain ⟨rfl,rfl⟩:=a
 exact b
theorem N1c {t:Nat}{i:TI}(f:Jd P t i)(h:i.u = .func):∃ a b c,P.underlying t=some (.func a b c):=by
 obtain ⟨d,g,e⟩:=Qg f
 rw [h] at e
 cases d <;> simp [uB] at e
 exact ⟨_,_,_,g⟩
theorem B1b:∀ {fs:List Field} {gs:List (Nat×Nat×Nat)},fsB P fs gs=true→∀ (n:Nat) g,gs[n]?=some g→∃ f,fs[n]?=some f∧f.type=g.1∧f.offset=g.2.1∧P.cellsOf g.1=g.2.2∧1≤g.2.2∧(P.info? g.1).isSome=true
 | [],[],_=>fun n g h=>by simp at h
 | f::fs,(t,o,s)::r,h=>fun n g hg=>by
  simp only [fsB,zqi] at h
  obtain ⟨⟨⟨⟨⟨h1,h2⟩,c⟩,b⟩,d⟩,a⟩:=h
  cases n with
  | zero=>
   simp at hg; subst hg
   exact ⟨f,rfl,zqo h1,zqo h2,zqo c,Nat.le_of_ble_eq_true b,d⟩
  | succ n=>simpa using B1b a n g (by simpa using hg)
 | [],_::_,h=>by simp [fsB] at h
 | _::_,[],h=>by simp [fsB] at h
theorem C1b {t:Nat}{i:TI}{b:List (Nat×Nat×Nat)}(f:Jd P t i)(h:i.u = .st b):∃ fs,P.underlying t=some (.struct fs)∧
  ∀ (n:Nat) g,b[n]?=some g→∃ f,fs[n]?=some f∧f.type=g.1∧f.offset=g.2.1∧P.cellsOf g.1=g.2.2∧1≤g.2.2∧(P.info? g.1).isSome=true:=by
 obtain ⟨d,c,a⟩:=Qg f
 rw [h] at a
 cases d <;> simp only [uB,zqa] at a
 rename_i fs
 exact ⟨fs,c,fun n g hg=>by simpa using B1b a n g hg⟩
theorem P1o {op:BinOp}{neg:Bool}(h:L1c op=some neg):op = .eql∧neg=false∨op = .neq∧neg=true:=by
 cases op <;> simp [L1c] at h
 ·exact .inl ⟨rfl,h⟩
 ·exact .inr ⟨rfl,h⟩
theorem Oi {op:BinOp}{t:Nat}{a b:Value}{neg:Bool}(c:op = .eql∧neg=false∨op = .neq∧neg=true)(r:Bool)(f:∀ n,(Op.equalIn (n+1) t a b).run P w = .ok r w)
  (h1:binOp .eql t a b=(do pure (.bool (← Op.equal t a b)))) (h2:binOp .neq t a b=(do pure (.bool (!(← Op.equal t a b))))):Ni P M G w (binOp op t a b) (.d (.bool (bif neg then !r else r))):=by
 obtain ⟨n,e⟩:=G1u t a b
 rcases c with ⟨rfl,rfl⟩ | ⟨rfl,rfl⟩
 ·exact ⟨.bool r,by simp [h1,e,f],.d .bool⟩
 ·exact ⟨.bool (!r),by simp [h2,e,f],.d .bool⟩
theorem T1y {T:TT}(m:TOk P T){op:BinOp}{t:Nat}{i:TI}(ht:B4 T t=some i){x y:A}{a b:Value}(j:L1 M G x a)(d:L1 M G y b){c:Prop}{z:A}
  (h:eqA i.u x y (L1c op)=some (c,z)):Ni P M G w (binOp op t a b) z:=by
 have f:=m.facts ht
 cases hn:L1c op with
 | none=>rw [hn] at h; simp [eqA] at h
 | some neg=>
  rw [hn] at h
  have e:=P1o hn
  unfold eqA at h
  simp only at h
  split at h
  ·rename_i l
   have k:=O1o f l
   cases j; cases d
   rename_i j d
   cases j; cases d
   simp only [P2,zqb,zqh] at h
   obtain ⟨_,rfl⟩:=h
   exact Oi e _ (fun n=>by simp [Op.equalIn,run_underlying k]) rfl rfl
  ·rename_i l
   have k:=Ws f l
   cases j; cases d
   rename_i j d
   cases j; cases d
   simp only [P2,zqb,zqh] at h
   obtain ⟨_,rfl⟩:=h
   have:=Oi (P:=P) (M:=M) (G:=G) (w:=w) e true (t:=t) (a:=.pointer none) (b:=.pointer none) (fun n=>by simp [Op.equalIn,run_underlying k]) rfl rfl
   cases neg <;> exact this
  ·rename_i l
   have k:=Ws f l
   cases j; cases d
   rename_i hb d
   cases d
   simp only [P2,zqb,zqh] at h
   obtain ⟨_,rfl⟩:=h
   have:=fun (A:Addr)=>Oi (P:=P) (M:=M) (G:=G) (w:=w) e false (t:=t) (a:=.pointer (some A)) (b:=.pointer none) (fun n=>by simp [Op.equalIn,run_underlying k]) rfl rfl
   cases neg <;> exact this _
  ·rename_i l
   have k:=Ws f l
   cases j; cases d
   rename_i a _ _ _ _ d
   cases d
   simp only [P2,zqb,zqh] at h
   obtain ⟨_,rfl⟩:=h
   have:=Oi (P:=P) (M:=M) (G:=G) (w:=w) e false (t:=t) (a:=.pointer (some a)) (b:=.pointer none) (fun n=>by simp [Op.equalIn,run_underlying k]) rfl rfl
   cases neg <;> exact this
  ·rename_i l
   have k:=Ws f l
   cases j; cases d
   rename_i j d
   cases j; cases d
   simp only [P2,zqb,zqh] at h
   obtain ⟨_,rfl⟩:=h
   have:=fun (A:Addr)=>Oi (P:=P) (M:=M) (G:=G) (w:=w) e false (t:=t) (a:=.pointer (some A)) (b:=.pointer none) (fun n=>by simp [Op.equalIn,run_underlying k]) rfl rfl
   cases neg <;> exact this _
  ·rename_i l
   have k:=Ws f l
   cases j; cases d
   rename_i j d
   cases d
   simp only [P2,zqb,zqh] at h
   obtain ⟨_,rfl⟩:=h
   cases j with
   | bxnil=>
    have:=Oi (P:=P) (M:=M) (G:=G) (w:=w) e true (t:=t) (a:=.pointer none) (b:=.pointer none) (fun n=>by simp [Op.equalIn,run_underlying k]) rfl rfl
    cases neg <;> exact this
   | bxs _ _ _ _=>
    have:=fun (A:Addr)=>Oi (P:=P) (M:=M) (G:=G) (w:=w) e false (t:=t) (a:=.pointer (some A)) (b:=.pointer none) (fun n=>by simp [Op.equalIn,run_underlying k]) rfl rfl
    cases neg <;> exact this _
  ·rename_i l
   have k:=A17 f l
   cases j; cases d
   rename_i j d
   cases j; cases d
   simp only [P2,zqb,zqh] at h
   obtain ⟨_,rfl⟩:=h
   have:=Oi (P:=P) (M:=M) (G:=G) (w:=w) e true (t:=t) (a:=.map none) (b:=.map none) (fun n=>by simp [Op.equalIn,run_underlying k]) rfl rfl
   cases neg <;> exact this
  ·rename_i l
   have k:=A17 f l
   cases j; cases d
   rename_i b hb d
   cases d
   simp only [P2,zqb,zqh] at h
   obtain ⟨_,rfl⟩:=h
   have:=Oi (P:=P) (M:=M) (G:=G) (w:=w) e false (t:=t) (a:=.map (some b)) (b:=.map none) (fun n=>by simp [Op.equalIn,run_underlying k]) rfl rfl
   cases neg <;> exact this
  ·rename_i l
   obtain ⟨_,_,_,k⟩:=N1c f l
   cases j; cases d
   rename_i j d
   cases j; cases d
   simp only [P2,zqb,zqh] at h
   obtain ⟨_,rfl⟩:=h
   have:=Oi (P:=P) (M:=M) (G:=G) (w:=w) e true (t:=t) (a:=.nilFunc) (b:=.nilFunc) (fun n=>by simp [Op.equalIn,run_underlying k]) rfl rfl
   cases neg <;> exact this
  ·rename_i l
   obtain ⟨_,_,_,k⟩:=N1c f l
   cases j; cases d
   rename_i vs hl hr d
   cases d
   simp only [P2,zqb,zqh] at h
   obtain ⟨_,rfl⟩:=h
   have:=fun (g:FuncId)=>Oi (P:=P) (M:=M) (G:=G) (w:=w) e false (t:=t) (a:=.func (.func g) #[] vs) (b:=.nilFunc) (fun n=>by simp [Op.equalIn,run_underlying k]) rfl rfl
   cases neg <;> exact this _
  ·cases h
theorem X1w {T:TT}(f:TOk P T){op:BinOp}{t:Nat}{x y:A}{a b:Value}(d:L1 M G x a)(e:L1 M G y b){c:Prop}{z:A}
  (h:Z1i T op t x y=some (c,z)) (hc:c):Ni P M G w (binOp op t a b) z:=by
 unfold Z1i at h
 split at h
 ·cases d; cases e
  rename_i d e
  cases d; cases e
  rename_i hk _
  exact P1q hk h hc t
 ·cases d; cases e
  rename_i d e
  cases d; cases e
  exact Q1q h hc t
 ·split at h
  ·rename_i i ht
   exact T1y f ht d e h
  ·cases h
theorem Q1o {op:BinOp}{t:Nat}{X Y:Operand}{a b:Value}(h1:a≠.nilIface)(h2:∀ u,a≠.agg u):(eqGuard op t X Y a b).run P w = .ok () w:=by
 cases a <;> first | (exact absurd rfl h1) | (exact absurd rfl (h2 _)) | (cases op <;> simp [eqGuard])
theorem H1u {T:TT}{op:BinOp}{t:Nat}{x y:A}{X Y:Operand}{a b:Value}(d:L1 M G x a){c:Prop}{z:A}(h:Z1i T op t x y=some (c,z)) :
  (eqGuard op t X Y a b).run P w = .ok () w:=by
 have:a≠.nilIface∧∀ u,a≠.agg u:=by
  unfold Z1i at h
  split at h
  ·cases d; rename_i d; cases d; simp
  ·cases d; rename_i d; cases d; simp
  ·split at h
   ·unfold eqA at h
    split at h
    ·cases h
    ·split at h
     all_goals first | (cases h; done) | (cases d; first | (rename_i d; cases d <;> simp; done) | (simp; done))
   ·cases h
 exact Q1o this.1 this.2
theorem Sj {s:Sem Value}{x:A}(h:Ni P M G w s x):∃ v,(do pure (Next.value (← s))).run P w = .ok (.value v) w∧L1 M G x v:=by
 obtain ⟨v,h1,h2⟩:=h
 exact ⟨v,by simp [h1],h2⟩
theorem I1g {x y:A}{n:Nat}{v:Value}(h:P10 x n=some y)(d:L1 M G x v):∃ a,v = .pointer (some a)∧a.spot=none∧L1 M G y (.pointer (some (a.add n))):=by
 unfold P10 at h
 split at h
 ·cases d
  rename_i b hb
  simp only [zqb] at h
  subst h
  refine ⟨_,rfl,rfl,?_⟩
  rw [Pe]
  exact .ref hb
 ·rename_i cells
  cases d
  rename_i a T1 hs h1 h2
  simp only [zqb] at h
  subst h
  refine ⟨a,rfl,hs,.ptr (fun j=>T1 (n+j)) ?_ (fun j x c=>?_) fun j x c=>?_⟩
  ·rw [K15 hs]
  ·rw [Z16]
   rw [List.getElem?_drop] at c
   exact h1 _ x c
  ·rw [List.getElem?_drop] at c
   exact h2 _ x c
 ·cases h
theorem U1y {op:UnOp}{x z:A}{v:Value}{c:Prop}(a:L1 M G x v)(h:unA op x=some (c,z)):Ni P M G w (Op.unary op v) z:=by
 unfold unA at h
 split at h
 ·cases a; rename_i a; cases a
  simp only [P2,zqb,zqh] at h
  obtain ⟨_,rfl⟩:=h
  exact ⟨_,by simp [Op.unary,Op.intArith],.d (.int (Ai _ _))⟩
 ·cases a; rename_i a; cases a
  simp only [P2,zqb,zqh] at h
  obtain ⟨_,rfl⟩:=h
  exact ⟨_,by simp [Op.unary],.d .bool⟩
 ·cases h
theorem I1u {T:TT}(e:TOk P T){s t:Nat}{x z:A}{v:Value}{c:Prop}(a:L1 M G x v)(h:N1o T s t x=some (c,z)):Ni P M G w (convert s t v) z:=by
 unfold N1o at h
 split at h
 ·rename_i i j k n hs ht
  obtain ⟨p,l,_⟩:=Qg (e.facts hs)
  split at h
  ·rename_i k' g
   have m:=H1g (e.facts ht) g
   cases a; rename_i a; cases a
   simp only [P2,zqb,zqh] at h
   obtain ⟨_,rfl⟩:=h
   refine ⟨.int k' (k'.wrap n),?_,.d (.int (Ai _ _))⟩
   simp [convert,run_underlying l,run_underlying m,Conv.intToInt]
  ·cases h
 ·rename_i i j b hs ht
  split at h
  ·rename_i g f
   have m:=Wo (e.facts hs) g
   have o:=Wo (e.facts ht) f
   cases a; rename_i a
   simp only [P2,zqb,zqh] at h
   obtain ⟨_,rfl⟩:=h
   refine ⟨_,?_,.d a⟩
   cases a
   simp [convert,run_underlying m,run_underlying o]
  ·cases h
 ·cases h
theorem Tj {x:A}{v:Value}{rows:List Row}(h:Mw x=some rows)(a:L1 M G x v):W4 M (.sl rows) v:=by
 unfold Mw at h
 split at h
 ·cases a; simp only [zqb] at h; subst h; assumption
 ·cases a; simp only [zqb] at h; subst h; assumption
 ·cases a; simp only [zqb] at h; subst h; assumption
 ·cases h
theorem D19 {n:Nat}(h:n≤maxLen):InK .i64 (n:Int):=by rw [C19]; unfold maxLen at h; omega
theorem R1q {rows:List Row}{v:Value}(h:W4 M (.sl rows) v):∃ a cap,v = .slice a rows.length cap∧rows.length≤maxLen:=by
 cases h with
 | slnil=>exact ⟨none,0,rfl,Nat.zero_le _⟩
 | sl sz T1 hl hc hm hs hz h1 h2=>subst hl; exact ⟨_,_,rfl,Nat.le_trans hc hm⟩
theorem Hh (s:List UInt8):(⟨s.toArray⟩:ByteArray).size=s.length:=by show s.toArray.size=_; simp
theorem Y1w {T:TT}(j:TOk P T){t ty:Nat}{x z:A}{v:Value}(g:L1 M G x v)(h:lenA T t x=some z):Ni P M G w (Builtin.len_ #[t] ty #[v]) z:=by
 unfold lenA at h
 split at h
 ·cases h
 ·rename_i i ht
  have f:=j.facts ht
  split at h
  ·rename_i b
   have c:=Wo f b
   cases g; rename_i g; cases g
   rename_i s hl
   simp only [zqb] at h; subst h
   exact ⟨.int .i64 s.length,by simp [Builtin.len_,run_underlying c,goInt,Hh],.d (.int (D19 hl))⟩
  ·rename_i n e b
   have c:=Ry f b
   cases hb:Nat.ble n maxLen with
   | false=>rw [hb] at h; cases h
   | true=>
    rw [hb] at h
    simp only [zqk,zqb] at h; subst h
    exact ⟨.int .i64 n,by simp [Builtin.len_,run_underlying c,goInt],.d (.int (D19 (Nat.le_of_ble_eq_true hb)))⟩
  ·rename_i b
   have c:=Io f b
   cases g
   rename_i hc hm _
   simp only [zqb] at h; subst h
   exact ⟨_,by simp [Builtin.len_,run_underlying c,goInt],.d (.int (D19 (Nat.le_trans (by assumption) (by assumption))))⟩
  ·rename_i b _
   have c:=Io f b
   split at h
   ·rename_i rows hr
    obtain ⟨a,cap,rfl,hl⟩:=R1q (Tj hr g)
    simp only [zqb] at h; subst h
    exact ⟨.int .i64 rows.length,by simp [Builtin.len_,run_underlying c,goInt],.d (.int (D19 hl))⟩
   ·cases h
  ·rename_i b
   have c:=A17 f b
   cases g; rename_i g; cases g
   simp only [zqb] at h; subst h
   exact ⟨.int .i64 0,by simp [Builtin.len_,run_underlying c,goInt],.d (.int (by decide))⟩
  ·cases h
theorem A13 {m:Bool}{x y z:A}{a b:Value}(c:L1 M G x a)(f:L1 M G y b)(h:Mi m x y=some z):Ni P M G w (bif m then Builtin.max2 a b else Builtin.min2 a b) z:=by
 unfold Mi at h
 split at h
 ·rename_i k n k' n'
  cases c; cases f
  rename_i c f
  cases c; cases f
  rename_i hk g
  have e:k=k':=by
   cases hq:decide (k=k') with
   | false=>rw [hq] at h; cases h
   | true=>exact of_decide_eq_true hq
  subst e
  simp only [decide_true,zqk,zqb] at h
  subst h
  cases m
  ·refine ⟨.int k (min n n'),?_,.d (.int ?_)⟩
   ·simp only [zql,Builtin.min2]
    have:(if n' < n then n' else n)=min n n':=by rw [Int.min_def]; split <;> split <;> omega
    simp [this]
   ·simp only [zql,Int.min_def]; split <;> assumption
  ·refine ⟨.int k (max n n'),?_,.d (.int ?_)⟩
   ·simp only [zqk,Builtin.max2]
    have:(if n' > n then n' else n)=max n n':=by rw [Int.max_def]; split <;> split <;> omega
    simp [this]
   ·simp only [zqk,Int.max_def]; split <;> assumption
 ·cases h
theorem O1c {m:Bool}{x y z u r:A}{a b c d:Value}(v:L1 M G x a)(o:L1 M G y b)(hz:L1 M G z c)(l:L1 M G u d)(h:Gw m x y z u=some r)(i:Array TypeId)(t:Nat) :
  Ni P M G w (bif m then Builtin.max_ i t #[a,b,c,d] else Builtin.min_ i t #[a,b,c,d]) r:=by
 unfold Gw at h
 split at h
 ·rename_i p hp
  split at h
  ·rename_i q j
   obtain ⟨D,f,n⟩:=A13 (P:=P) (w:=w) v o hp
   obtain ⟨C,g,B⟩:=A13 (P:=P) (w:=w) n hz j
   obtain ⟨s,e,k⟩:=A13 (P:=P) (w:=w) B l h
   refine ⟨s,?_,k⟩
   cases m <;> simp only [zqk,zql] at f g e ⊢
   ·simp [Builtin.min_,f,g,e]
   ·simp [Builtin.max_,f,g,e]
  ·cases h
 ·cases h
theorem P1c {m:Bool}{x y z:A}{a b:Value}(f:L1 M G x a)(c:L1 M G y b)(h:Mi m x y=some z)(g:Array TypeId)(t:Nat) :
  Ni P M G w (bif m then Builtin.max_ g t #[a,b] else Builtin.min_ g t #[a,b]) z:=by
 unfold Mi at h
 split at h
 ·rename_i k n k' n'
  cases f; cases c
  rename_i f c
  cases f; cases c
  rename_i hk i
  have e:k=k':=by
   cases hq:decide (k=k') with
   | false=>rw [hq] at h; cases h
   | true=>exact of_decide_eq_true hq
  subst e
  simp only [decide_true,zqk,zqb] at h
  subst h
  cases m
  ·refine ⟨.int k (min n n'),?_,.d (.int ?_)⟩
   ·simp only [zql,Builtin.min_,List.foldlM_cons,List.foldlM_nil,Builtin.min2]
    have:(if n' < n then n' else n)=min n n':=by rw [Int.min_def]; split <;> split <;> omega
    simp [this]
   ·simp only [zql,Int.min_def]; split <;> assumption
  ·refine ⟨.int k (max n n'),?_,.d (.int ?_)⟩
   ·simp only [zqk,Builtin.max_,List.foldlM_cons,List.foldlM_nil,Builtin.max2]
    have:(if n' > n then n' else n)=max n n':=by rw [Int.max_def]; split <;> split <;> omega
    simp [this]
   ·simp only [zqk,Int.max_def]; split <;> assumption
 ·cases h
end
section
variable {P:Program}{M:Mem}{G:Nat→Value}{w:World}
theorem Xs:∀ (c:List A) (n:Nat) (xs:List A),(Ff c n xs).length=c.length
 | [],_,_=>by cases ‹Nat› <;> cases ‹List A› <;> rfl
 | _::_,0,[]=>rfl
 | _::c,0,x::xs=>by simp [Ff,Xs c 0 xs]
 | _::cs,n+1,xs=>by simp [Ff,Xs cs n xs]
theorem Ys:∀ (c:List A) (n:Nat) (xs:List A) (i:Nat),n+xs.length≤c.length→(Ff c n xs)[i]?=if n≤i∧i < n+xs.length then xs[i - n]? else c[i]?
 | [],0,[],i,_=>by simp [Ff]
 | [],n+1,[],i,_=>by simp [Ff]
 | [],n,x::xs,i,h=>by simp at h
 | c::cs,0,[],i,_=>by simp [Ff]
 | c::cs,0,x::xs,i,h=>by
  cases i with
  | zero=>simp [Ff]
  | succ i=>
   simp only [Ff,List.getElem?_cons_succ]
   rw [Ys cs 0 xs i (by simp at h ⊢; omega)]
   simp only [Nat.zero_le,true_and,zqd,Nat.zero_add,Nat.sub_zero,List.getElem?_cons_succ]
   by_cases hlt:i < xs.length
   ·rw [zp hlt,zp (by omega)]
   ·rw [zn hlt,zn (by omega)]
 | c::cs,n+1,xs,i,h=>by
  cases i with
  | zero=>simp [Ff]
  | succ i=>
   simp only [Ff,List.getElem?_cons_succ]
   rw [Ys cs n xs i (by simp at h; omega)]
   by_cases hlt:n≤i∧i < n+xs.length
   ·rw [zp hlt,zp (by omega)]; congr 1; omega
   ·rw [zn hlt,zn (by omega)]
def Bi (M:Mem)(G:Nat→Value)(cs:List A)(vs:Array Value):Prop:=
 cs.length=vs.size∧(∀ (i:Nat) v,vs[i]?=some v→v.oneCell'=true)∧∀ (i:Nat) x v,cs[i]?=some x→vs[i]?=some v→L1 M G x v
theorem Q10 (off:Nat):∀ (vs:List Value) (j:Nat) (cs:Array Value),off+j+vs.length≤cs.size→
  ((vs.zipIdx j).foldl (fun cs (p:Value×Nat)=>cs.setIfInBounds (off+p.2) p.1) cs).size=cs.size∧
  ∀ i:Nat,((vs.zipIdx j).foldl (fun cs (p:Value×Nat)=>cs.setIfInBounds (off+p.2) p.1) cs)[i]?=if off+j≤i∧i < off+j+vs.length then vs[i - (off+j)]? else cs[i]?
 | [],j,cs,_=>⟨rfl,fun i=>by simp; intro h h'; omega⟩
 | v::vs,j,cs,h=>by
  simp only [zqd] at h
  obtain ⟨h1,h2⟩:=Q10 off vs (j+1) (cs.setIfInBounds (off+j) v) (by simp; omega)
  simp only [List.zipIdx_cons,List.foldl_cons]
  refine ⟨by rw [h1]; simp,fun i=>?_⟩
  rw [h2 i]
  simp only [zqd]
  by_cases hi:off+(j+1)≤i∧i < off+(j+1)+vs.length
  ·rw [zp hi,zp (by omega),show i - (off+j)=(i - (off+(j+1)))+1 by omega,List.getElem?_cons_succ]
  ·rw [zn hi]
   by_cases he:i=off+j
   ·subst he
    rw [zp (by omega),Nat.sub_self,List.getElem?_cons_zero,Array.getElem?_setIfInBounds_self,zp (by omega)]
   ·rw [zn (by omega),Array.getElem?_setIfInBounds_ne (Ne.symm he)]
theorem Nw {place:Nat→Option (Nat×Nat)}:∀ {a:List (Nat×A)} {T1:List (Nat×Value)} {cs:List A} {vs:Array Value} {out:List A},Bi M G cs vs→a.length=T1.length→
  (∀ (i:Nat) p q,a[i]?=some p→T1[i]?=some q→p.1=q.1∧L1 M G p.2 q.2)→Zm place cs a=some out→∃ f,Instr.fill place vs T1=some f∧Bi M G out f
 | [],[],cs,vs,out,hc,_,_,h=>by simp only [Zm,zqb] at h; subst h; exact ⟨vs,rfl,hc⟩
 | [],_::_,_,_,_,_,hl,_,_=>by simp at hl
 | _::_,[],_,_,_,_,hl,_,_=>by simp at hl
 | (n,x)::a,(m,v)::T1,cs,vs,out,hc,hl,hp,h=>by
  obtain ⟨e,r⟩:=hp 0 _ _ rfl rfl
  simp only at e r
  subst e
  simp only [Zm] at h
  split at h
  ·rename_i off size xs l g
   obtain ⟨o,H,E⟩:=Qv r g
   cases hb:Nat.beq xs.length size&&Nat.ble (off+size) cs.length with
   | false=>rw [hb] at h; cases h
   | true=>
    rw [hb] at h
    simp only [zqk] at h
    simp only [zqi] at hb
    have F:=zqo hb.1
    have I:=Nat.le_of_ble_eq_true hb.2
    obtain ⟨w,z,c3⟩:=hc
    have c:v.cells.toList.length=xs.length:=by simp [o]
    obtain ⟨C,s⟩:=Q10 off v.cells.toList 0 vs (by rw [c]; omega)
    have hz:v.cells.zipIdx.foldl (fun cs (x:Value×Nat)=>cs.setIfInBounds (off+x.2) x.1) vs=(v.cells.toList.zipIdx 0).foldl (fun cs (p:Value×Nat)=>cs.setIfInBounds (off+p.2) p.1) vs:=by
     rw [← Array.foldl_toList,Array.toList_zipIdx]
    have k:Bi M G (Ff cs off xs) (v.cells.zipIdx.foldl (fun cs (x:Value×Nat)=>cs.setIfInBounds (off+x.2) x.1) vs):=by
     rw [hz]
     refine ⟨by rw [Xs,C]; exact w,fun i u b=>?_,fun i y u d b=>?_⟩
     ·rw [s i] at b
      split at b
      ·exact H _ u (by simpa using b)
      ·exact z i u b
     ·rw [s i] at b
      rw [Ys cs off xs i (by omega)] at d
      rw [c] at b
      by_cases hi:off≤i∧i < off+xs.length
      ·rw [zp hi] at d
       rw [zp (by omega)] at b
       exact E _ y u d (by simpa using b)
      ·rw [zn hi] at d
       rw [zn (by omega)] at b
       exact c3 i y u d b
    obtain ⟨f,B,D⟩:=Nw k (by simpa using hl) (fun i p q j t=>hp (i+1) p q j t) h
    refine ⟨f,?_,D⟩
    simp only [Instr.fill,l]
    rw [zn (by simp [o,F]; omega)]
    exact B
  ·cases h
theorem B13 {T:TT}(g:TOk P T){t:Nat}{i:TI}(ht:B4 T t=some i):∃ z,(∀ w,(zeroValue t).run P w = .ok z w)∧Bi M G (i.zero.map .d) z.cells∧(if i.u.agg then ∃ cs,z = .agg cs else z.cells = #[z]):=by
 obtain ⟨j,h1,h2,k,z,h,e,c,f⟩:=(g.facts ht).info
 refine ⟨z,fun w=>by simp [zeroValue,typeInfo,h1,h],⟨by simpa using e.symm,fun n v hv=>?_,fun n x v a hv=>?_⟩,f⟩
 ·have b:n < i.zero.length:=by rw [← e]; simpa using (Array.getElem?_eq_some_iff.1 hv).1
  exact (Pv (c n v _ hv (zqv b)) M).one
 ·rw [List.getElem?_map] at a
  cases hz:i.zero[n]? with
  | none=>rw [hz] at a; cases a
  | some y=>
   rw [hz] at a
   simp only [zqt,zqb] at a
   subst a
   exact .d (Pv (c n v y hv hz) M)
theorem J1g {P:Program}:∀ {fs:List Field} {gs:List (Nat×Nat×Nat)},fsB P fs gs=true→∀ (n:Nat) f,fs[n]?=some f→∃ g,gs[n]?=some g
 | [],[],_=>fun n g h=>by simp at h
 | f::fs,(t,o,s)::r,h=>fun n g hg=>by
  simp only [fsB,zqi] at h
  cases n with
  | zero=>exact ⟨_,rfl⟩
  | succ n=>simpa using J1g h.2 n g (by simpa using hg)
 | [],_::_,h=>by simp [fsB] at h
 | _::_,[],h=>by simp [fsB] at h
theorem K1g {t:Nat}{i:TI}{b:List (Nat×Nat×Nat)}(f:Jd P t i)(h:i.u = .st b):∃ fs,P.underlying t=some (.struct fs)∧
  (∀ (n:Nat) g,b[n]?=some g→∃ f,fs[n]?=some f∧f.type=g.1∧f.offset=g.2.1∧P.cellsOf g.1=g.2.2∧1≤g.2.2∧(P.info? g.1).isSome=true)∧∀ (n:Nat) f,fs[n]?=some f→∃ g,b[n]?=some g:=by
 obtain ⟨d,c,a⟩:=Qg f
 rw [h] at a
 cases d <;> simp only [uB,zqa] at a
 rename_i fs
 exact ⟨fs,c,fun n g hg=>by simpa using B1b a n g hg,fun n f hn=>J1g a n f (by simpa using hn)⟩
theorem Sy (w:World):∀ (fs:List Field),(∀ (n:Nat) f,fs[n]?=some f→(P.info? f.type).isSome=true)→
  (fs.mapM fun f=>do pure (f.offset,← sizeOf f.type):Sem (List (Nat×Nat))).run P w = .ok (fs.map fun f=>(f.offset,P.cellsOf f.type)) w
 | [],_=>rfl
 | f::fs,h=>by
  have b:=h 0 f rfl
  obtain ⟨i,hi⟩:=Option.isSome_iff_exists.1 b
  have a:=Sy w fs (fun n g hg=>h (n+1) g (by simpa using hg))
  have hs:(sizeOf f.type).run P w = .ok (P.cellsOf f.type) w:=by simp [sizeOf,typeInfo,hi,Program.cellsOf]
  rw [List.mapM_cons]
  simp only [Sem.run_bind,hs,Result.andThen_ok,Sem.run_pure,a,List.map_cons]
theorem Q1c (w:World)(Td:Array Field)(h:∀ (n:Nat) f,Td[n]?=some f→(P.info? f.type).isSome=true) :
  ∃ a:Array (Nat×Nat),(Td.mapM fun f=>do pure (f.offset,← sizeOf f.type):Sem (Array (Nat×Nat))).run P w = .ok a w∧∀ n:Nat,a[n]?=(Td[n]?).map fun f=>(f.offset,P.cellsOf f.type):=by
 have hl:=Sy (P:=P) w Td.toList (fun n f hn=>h n f (by simpa using hn))
 refine ⟨(Td.toList.map fun f=>(f.offset,P.cellsOf f.type)).toArray,?_,fun n=>by simp⟩
 rw [Array.mapM_eq_mapM_toList]
 simp only [Sem.run_map,hl,Result.andThen_ok]
theorem S1q {T:TT}(y:TOk P T){t:Nat}{c:List (Nat×A)}{T1:Array (Nat×Value)}(hl:c.length=T1.size)
  (hp:∀ (i:Nat) p q,c[i]?=some p→T1[i]?=some q→p.1=q.1∧L1 M G p.2 q.2) {z:A} (h:M1c T t c=some z):Ni P M G w (Instr.build t T1) z:=by
 unfold M1c at h
 split at h
 ·cases h
 ·rename_i i ht
  have f:=y.facts ht
  obtain ⟨S,o,r,O⟩:=B13 (M:=M) (G:=G) y ht
  split at h
  ·rename_i fs C
   obtain ⟨Td,J,hf,s⟩:=K1g f C
   cases ho:Zm (fun n=>(nth fs n).map fun f=>(f.2.1,f.2.2)) (i.zero.map .d) c with
   | none=>rw [ho] at h; cases h
   | some out=>
    rw [ho] at h
    simp only [zqt,zqb] at h
    subst h
    obtain ⟨k,F,B⟩:=Q1c (P:=P) w Td (fun n f hn=>by
     obtain ⟨g,hg⟩:=s n f hn
     obtain ⟨N,u,v,_,_,_,Q⟩:=hf n g hg
     rw [hn] at u
     cases u
     rw [v]; exact Q)
    have l:∀ n,k[n]?=((nth fs n).map fun f=>(f.2.1,f.2.2)):=fun n=>by
     rw [Q3,B n]
     cases hn:fs[n]? with
     | none=>
      have:Td[n]?=none:=by
       cases hfn:Td[n]? with
       | none=>rfl
       | some f=>obtain ⟨g,hg⟩:=s n f hfn; rw [hg] at hn; cases hn
      rw [this]; rfl
     | some g=>
      obtain ⟨N,u,v,R,L,_,_⟩:=hf n g hn
      rw [u]
      simp [v,R,L]
    have m:(fun n=>k[n]?)=(fun n=>(nth fs n).map fun f=>(f.2.1,f.2.2)):=funext l
    have:Zm (fun n=>k[n]?) (i.zero.map .d) c=some out:=by rw [m]; exact ho
    obtain ⟨E,D,I,x,H⟩:=Nw r (by rw [Array.length_toList]; exact hl) (fun n p q a b=>hp n p q a (by simpa using b)) this
    refine ⟨.agg E,?_,.agg I x H⟩
    simp only [Instr.build,Sem.run_bind,o,Result.andThen_ok,run_underlying J,F,D,Sem.run_pure]
  ·rename_i n e C
   have J:=Ry f C
   split at h
   ·rename_i j K
    cases ho:Zm (fun n=>some (n * j.size,j.size)) (i.zero.map .d) c with
    | none=>rw [ho] at h; cases h
    | some out=>
     rw [ho] at h
     simp only [zqt,zqb] at h
     subst h
     obtain ⟨E,D,I,x,H⟩:=Nw r (by rw [Array.length_toList]; exact hl) (fun n p q a b=>hp n p q a (by simpa using b)) ho
     refine ⟨.agg E,?_,.agg I x H⟩
     simp only [Instr.build,Sem.run_bind,o,Result.andThen_ok,run_underlying J,Mh (y.facts K) w,D,Sem.run_pure]
   ·cases h
  ·cases h
theorem Rr {k:IntKind}{n:Int}:(asIntOf (.int k n)).run P w = .ok (k,n) w:=rfl
theorem D1i {T:TT}(g:TOk P T){t:Nat}{x y:A}{a b:Value}(r:L1 M G x a)(m:L1 M G y b){c:Prop}{z:A}
  (h:Z12 T t x y=some (c,z)) (hc:c):Ni P M G w (Instr.indexAt t a b) z:=by
 unfold Z12 at h
 split at h
 ·rename_i i k n ht
  have f:=g.facts ht
  cases m; rename_i m; cases m
  split at h
  ·rename_i l
   have q:=Ry f l
   unfold O1q at h
   split at h
   ·rename_i j d
    split at h
    ·rename_i p hp
     rw [cond_eq_ite] at h
     split at h
     ·rename_i hb
      have h2:=Nat.le_of_ble_eq_true hb
      simp only [zqb,zqh] at h
      obtain ⟨rfl,rfl⟩:=h
      obtain ⟨u,rfl,hs,hr⟩:=I1g hp r
      refine ⟨_,?_,hr⟩
      have s:=Nat.not_le.2 h2
      simp [Instr.indexAt,Rr,run_underlying q,Instr.sureAddr,hc,Mh (g.facts d) w]
     ·cases h
    ·cases h
   ·cases h
  ·rename_i e o off len cap l
   have q:=Io f l
   split at h
   ·rename_i j d
    simp only [zqb,zqh] at h
    obtain ⟨rfl,rfl⟩:=h
    cases r
    refine ⟨_,?_,.ref (by assumption)⟩
    simp [Instr.indexAt,Rr,run_underlying q,hc,Mh (g.facts d) w,Pe]
   ·cases h
  ·cases h
 ·cases h
theorem D1n {T:TT}(l:TOk P T){t:Nat}{i:TI}(ht:B4 T t=some i){cs:List A}{vs:Array Value}(hc:Bi M G cs vs){off:Nat}{z:A}(h:Lp i (cs.drop off)=some z) :
  Ni P M G w (part t vs off) z:=by
 have f:=l.facts ht
 obtain ⟨k,n,c3⟩:=hc
 unfold Lp at h
 unfold part
 cases hg:i.u.agg with
 | true=>
  rw [hg] at h
  simp only [zqk] at h
  cases hb:Nat.ble i.size (cs.drop off).length with
  | false=>rw [hb] at h; cases h
  | true=>
   rw [hb] at h
   simp only [zqk,zqb] at h
   subst h
   have d:=Nat.le_of_ble_eq_true hb
   rw [List.length_drop] at d
   have e:=f.pos
   have g:∀ (j:Nat) v,(vs.extract off (off+i.size))[j]?=some v→j < i.size∧vs[off+j]?=some v:=fun j v hv=>by
    have a:=(Array.getElem?_eq_some_iff.1 hv).1
    simp only [Array.size_extract] at a
    refine ⟨by omega,?_⟩
    rw [Array.getElem?_extract,zp (by omega)] at hv
    exact hv
   refine ⟨.agg (vs.extract off (off+i.size)),?_,.agg (by simp; omega) (fun j v hv=>n _ v (g j v hv).2) fun j x v b hv=>?_⟩
   ·simp only [Sem.run_bind,Y12 f w,hg,Result.andThen_ok,zt,Mh f w,Sem.run_pure]
   ·obtain ⟨m,c⟩:=g j v hv
    refine c3 (off+j) x v ?_ c
    rw [List.getElem?_take,zp m,List.getElem?_drop] at b
    exact b
 | false=>
  rw [hg] at h
  simp only [zql,Q3,List.getElem?_drop,Nat.add_zero] at h
  have a:off < vs.size:=by rw [← k]; exact (zqu.1 h).1
  have hv:vs[off]?=some vs[off]:=Array.getElem?_eq_getElem a
  refine ⟨vs[off],?_,c3 off z _ h hv⟩
  simp only [Sem.run_bind,Y12 f w,hg,Result.andThen_ok,zqa,zw,hv,Sem.run_pure]
theorem T1q {T:TT}(d:TOk P T){t:Nat}{x y:A}{a b:Value}(s:L1 M G x a)(g:L1 M G y b){c:Prop}{z:A}
  (h:B1j T t x y=some (c,z)) (hc:c):Ni P M G w (Instr.index t a b) z:=by
 unfold B1j at h
 split at h
 ·rename_i i cs k n ht
  have f:=d.facts ht
  cases g; rename_i g; cases g
  cases s; rename_i vs h2 h1 q
  split at h
  ·rename_i len e o
   have r:=Ry f o
   split at h
   ·rename_i j l
    cases hr:Lp j (cs.drop (n.toNat * j.size)) with
    | none=>rw [hr] at h; cases h
    | some u=>
     rw [hr] at h
     simp only [zqt,zqb,zqh] at h
     obtain ⟨rfl,rfl⟩:=h
     obtain ⟨v,m,p⟩:=D1n (P:=P) (w:=w) d l ⟨h1,h2,q⟩ hr
     exact ⟨v,by simp [Instr.index,Rr,run_underlying r,hc,Mh (d.facts l) w,m],p⟩
   ·cases h
  ·cases h
 ·cases h
theorem C1j {T:TT}{H:N0}(c:TOk P T)(b:Good M w)(a:W9 M G w H){t:Nat}{i:TI}(ht:B4 T t=some i){x z:A}{v:Value}(d:L1 M G x v)(h:He i x H=some z) :
  Ni P M G w (Instr.loadAt t v) z:=W1w b a (c.facts ht) d h
theorem R1o {T:TT}(k:TOk P T){t:Nat}{i:TI}(ht:B4 T t=some i){fs:List (Nat×Nat×Nat)}(o:i.u = .st fs){n:Nat}{g:Nat×Nat×Nat}(hg:nth fs n=some g){x z:A}{v:Value}
  (r:L1 M G x v) (h:P10 x g.2.1=some z):Ni P M G w (Instr.fieldAt t v n) z:=by
 obtain ⟨Td,q,hf⟩:=C1b (k.facts ht) o
 rw [Q3] at hg
 obtain ⟨l,p,f,s,d,y,m⟩:=hf n g hg
 obtain ⟨a,rfl,hs,hr⟩:=I1g h r
 refine ⟨_,?_,hr⟩
 obtain ⟨j,e⟩:=Option.isSome_iff_exists.1 m
 have b:(sizeOf l.type).run P w = .ok g.2.2 w:=by
  rw [f]
  simp only [Program.cellsOf,e,zqt,Option.getD_some] at d
  simp [sizeOf,typeInfo,e,d]
 have c:¬ g.2.2=0:=by omega
 simp [Instr.fieldAt,run_underlying q,p,Instr.sureAddr,fieldPlace,b,c,s]
theorem J1u {T:TT}(a:TOk P T){t:Nat}{i:TI}(ht:B4 T t=some i){fs:List (Nat×Nat×Nat)}(e:i.u = .st fs){n:Nat}{g:Nat×Nat×Nat}(hg:nth fs n=some g){j:TI}(c:B4 T g.1=some j){cs:List A}{z:A}{v:Value}
  (o:L1 M G (.agg cs) v) (h:Lp j (cs.drop g.2.1)=some z):Ni P M G w (Instr.field t v n) z:=by
 obtain ⟨Td,m,hf⟩:=C1b (a.facts ht) e
 rw [Q3] at hg
 obtain ⟨r,k,b,p,q,s,x⟩:=hf n g hg
 cases o; rename_i vs h2 h1 l
 obtain ⟨u,d,f⟩:=D1n (P:=P) (w:=w) a c ⟨h1,h2,l⟩ h
 exact ⟨u,by simp [Instr.field,run_underlying m,k,asAgg,b,p,d],f⟩
theorem V1y {T:TT}{GL:GT}{env:Env}{H:N0}(L:TOk P T)(hG:Good M w)(hH:W9 M G w H)(o:Oper){ρ:Operand→Value}(r:∀ y∈o.op.operands,L1 M G (ev GL env y) (ρ y)){c:Prop}{x:A}
  (h:opA T GL o.op env H=some (c,x)) (hc:c):∃ v,(execOp ρ o).run P w = .ok (.value v) w∧L1 M G x v:=by
 unfold opA at h
 unfold execOp
 split at h
 ·rename_i k
  rw [k] at r ⊢
  simp only [P2,zqb,zqh] at h
  obtain ⟨_,rfl⟩:=h
  exact ⟨_,rfl,r _ (by simp [Op.operands])⟩
 ·rename_i k
  rw [k] at r ⊢
  simp only [P2,zqb,zqh] at h
  obtain ⟨_,rfl⟩:=h
  exact ⟨_,rfl,r _ (by simp [Op.operands])⟩
 ·rename_i c' a b k
  rw [k] at r ⊢
  split at h
  ·rename_i t ht
   have h1:=r c' (by simp [Op.operands])
   have h2:=r a (by simp [Op.operands])
   have h3:=r b (by simp [Op.operands])
   rw [ht] at h1
   generalize hcv:ρ c'=cv at h1
   cases h1; rename_i h1; cases h1
   simp only [P2,zqb,zqh] at h
   obtain ⟨_,rfl⟩:=h
   cases t
   ·exact ⟨ρ b,by simp [hcv,asBool],h3⟩
   ·exact ⟨ρ a,by simp [hcv,asBool],h2⟩
  ·cases h
 ·rename_i t K k
  rw [k] at r ⊢
  cases hb:M1c T t (K.toList.map fun p=>(p.1,ev GL env p.2)) with
  | none=>rw [hb] at h; cases h
  | some y=>
   rw [hb] at h
   simp only [zqt,zqb,zqh] at h
   obtain ⟨_,rfl⟩:=h
   refine Sj (S1q L (by simp) (fun i p q hp V=>?_) hb)
   simp only [List.getElem?_map,Array.getElem?_toList,Array.getElem?_map] at hp V
   cases hpi:K[i]? with
   | none=>rw [hpi] at hp; cases hp
   | some Z=>
    rw [hpi] at hp V
    simp only [zqt,zqb] at hp V
    subst hp; subst V
    exact ⟨rfl,r _ (by simp only [Op.operands,List.mem_toArray,List.mem_map]; exact ⟨Z,by simpa using Array.mem_of_getElem? hpi,rfl⟩)⟩
 ·rename_i t a k
  rw [k] at r ⊢
  split at h
  ·rename_i i ht
   cases hb:He i (ev GL env a) H with
   | none=>rw [hb] at h; cases h
   | some y=>
    rw [hb] at h
    simp only [zqt,zqb,zqh] at h
    obtain ⟨_,rfl⟩:=h
    exact Sj (C1j L hG hH ht (r a (by simp [Op.operands])) hb)
  ·cases h
 ·rename_i y k
  rw [k] at r ⊢
  have h1:=r y (by simp [Op.operands])
  split at h
  ·rename_i E
   rw [E] at h1
   generalize hv:ρ y=v at h1
   cases h1
   simp only [P2,zqb,zqh] at h
   obtain ⟨_,rfl⟩:=h
   exact ⟨_,by simp only [hv]; rfl,.ref (by assumption)⟩
  ·rename_i E
   rw [E] at h1
   generalize hv:ρ y=v at h1
   cases h1
   rename_i T1 a b c
   simp only [P2,zqb,zqh] at h
   obtain ⟨_,rfl⟩:=h
   exact ⟨_,by simp only [hv]; rfl,.ptr T1 a b c⟩
  ·rename_i E
   rw [E] at h1
   generalize hv:ρ y=v at h1
   cases h1; rename_i h1; cases h1
   rename_i T1 a b c
   simp only [P2,zqb,zqh] at h
   obtain ⟨_,rfl⟩:=h
   exact ⟨_,by simp only [hv]; rfl,.ptr T1 a b c⟩
  ·rename_i E
   rw [E] at h1
   generalize hv:ρ y=v at h1
   cases h1
   rename_i a b
   simp only [P2,zqb,zqh] at h
   obtain ⟨_,rfl⟩:=h
   exact ⟨_,by simp only [hv]; rfl,.clo a b⟩
  ·rename_i E
   rw [E] at h1
   generalize hv:ρ y=v at h1
   cases h1
   rename_i a b
   simp only [P2,zqb,zqh] at h
   obtain ⟨_,rfl⟩:=h
   exact ⟨_,by simp only [hv]; rfl,.bnd a b⟩
  ·cases h
 ·rename_i op t x y yt k
  rw [k] at r ⊢
  have h1:=r x (by simp [Op.operands])
  have h2:=r y (by simp [Op.operands])
  obtain ⟨v,D,J⟩:=X1w (w:=w) L h1 h2 h hc
  exact ⟨v,by simp [H1u (P:=P) (w:=w) (X:=x) (Y:=y) (b:=ρ y) h1 h,D],J⟩
 ·rename_i op t x k
  rw [k] at r ⊢
  exact Sj (U1y (r x (by simp [Op.operands])) h)
 ·rename_i s t x k
  rw [k] at r ⊢
  exact Sj (I1u L (r x (by simp [Op.operands])) h)
 ·rename_i f first caps k
  rw [k] at r ⊢
  cases hb:Nat.beq first.size 0 with
  | false=>
   rw [hb] at h
   cases hb2:Nat.beq caps.size 0 with
   | false=>rw [hb2] at h; cases h
   | true=>
    rw [hb2] at h
    simp only [zqk,zql,P2,zqb,zqh] at h
    obtain ⟨_,rfl⟩:=h
    obtain rfl:caps = #[]:=Array.eq_empty_of_size_eq_zero (zqo hb2)
    refine ⟨.func (.func f) (first.map ρ) #[],by simp [Instr.makeFunc],.bnd (by simp) fun i x v B hv=>?_⟩
    simp only [List.getElem?_map,Array.getElem?_toList,Array.getElem?_map] at B hv
    cases hpi:first[i]? with
    | none=>rw [hpi] at B; cases B
    | some Z=>
     rw [hpi] at B hv
     simp only [zqt,zqb] at B hv
     subst B; subst hv
     exact r _ (by simp only [Op.operands,Array.append_empty]; exact Array.mem_of_getElem? hpi)
  | true=>
   rw [hb] at h
   simp only [zqk,P2,zqb,zqh] at h
   obtain ⟨_,rfl⟩:=h
   obtain rfl:first = #[]:=Array.eq_empty_of_size_eq_zero (zqo hb)
   refine ⟨.func (.func f) #[] (caps.map ρ),by simp [Instr.makeFunc],.clo (by simp) fun i x v B hv=>?_⟩
   simp only [List.getElem?_map,Array.getElem?_toList,Array.getElem?_map] at B hv
   cases hpi:caps[i]? with
   | none=>rw [hpi] at B; cases B
   | some Z=>
    rw [hpi] at B hv
    simp only [zqt,zqb] at B hv
    subst B; subst hv
    exact r _ (by simp only [Op.operands,Array.empty_append]; exact Array.mem_of_getElem? hpi)
 ·rename_i t x f k
  rw [k] at r ⊢
  split at h
  ·rename_i i ht
   split at h
   ·rename_i fs O
    split at h
    ·rename_i g hg
     cases hb:P10 (ev GL env x) g.2.1 with
     | none=>rw [hb] at h; cases h
     | some y=>
      rw [hb] at h
      simp only [zqt,zqb,zqh] at h
      obtain ⟨_,rfl⟩:=h
      exact Sj (R1o L ht O hg (r x (by simp [Op.operands])) hb)
    ·cases h
   ·cases h
  ·cases h
 ·rename_i t x f k
  rw [k] at r ⊢
  split at h
  ·rename_i i cs ht E
   split at h
   ·rename_i fs O
    split at h
    ·rename_i g hg
     split at h
     ·rename_i j hj
      cases hb:Lp j (cs.drop g.2.1) with
      | none=>rw [hb] at h; cases h
      | some y=>
       rw [hb] at h
       simp only [zqt,zqb,zqh] at h
       obtain ⟨_,rfl⟩:=h
       have h1:=r x (by simp [Op.operands])
       rw [E] at h1
       exact Sj (J1u L ht O hg hj h1 hb)
     ·cases h
    ·cases h
   ·cases h
  ·cases h
 ·rename_i t x y k
  rw [k] at r ⊢
  exact Sj (D1i L (r x (by simp [Op.operands])) (r y (by simp [Op.operands])) h hc)
 ·rename_i t x y k
  rw [k] at r ⊢
  exact Sj (T1q L (r x (by simp [Op.operands])) (r y (by simp [Op.operands])) h hc)
 ·rename_i y n k
  rw [k] at r ⊢
  have h1:=r y (by simp [Op.operands])
  split at h
  ·rename_i xs E
   rw [E] at h1
   cases hb:nth xs n with
   | none=>rw [hb] at h; cases h
   | some z=>
    rw [hb] at h
    simp only [zqt,zqb,zqh] at h
    obtain ⟨_,rfl⟩:=h
    rw [Q3] at hb
    generalize hv:ρ y=v at h1
    cases h1
    rename_i vs hl hr
    have W:n < vs.size:=by rw [← hl]; exact (zqu.1 hb).1
    have R:vs[n]?=some vs[n]:=Array.getElem?_eq_getElem W
    exact ⟨vs[n],by simp [hv,Instr.extract,R],hr n z _ hb R⟩
  ·cases h
 ·rename_i b args l k
  rw [k] at r ⊢
  have m:∀ (i:Nat) a,args[i]?=some a→L1 M G (ev GL env a) (ρ a):=fun i a ha=>
   r a (by simp only [Op.operands,Call.operands,Array.empty_append]; exact Array.mem_of_getElem? ha)
  unfold A1j at h
  split at h
  ·rename_i t x N e
   obtain ⟨ty,rfl⟩:∃ t,l = #[t]:=⟨t,by rw [← Array.toArray_toList (xs:=l),N]⟩
   obtain ⟨ar,C,B⟩:∃ a,args = #[a]∧x=ev GL env a:=by
    match hl:args.toList,e with
    | [a],e=>exact ⟨a,by rw [← Array.toArray_toList (xs:=args),hl],by simpa using e.symm⟩
   subst C
   simp only [List.cons.injEq,and_true] at N
   subst N; subst B
   cases hb:lenA T ty (ev GL env ar) with
   | none=>rw [hb] at h; cases h
   | some z=>
    rw [hb] at h
    simp only [zqt,zqb,zqh] at h
    obtain ⟨_,rfl⟩:=h
    obtain ⟨v,D,J⟩:=Y1w (w:=w) L (ty:=o.type) (m 0 ar rfl) hb
    exact ⟨v,by simp [resolve,invoke,builtin,D],J⟩
  ·rename_i x y e
   obtain ⟨F,I,C,B,Q⟩:∃ a b,args = #[a,b]∧x=ev GL env a∧y=ev GL env b:=by
    match hl:args.toList,e with
    | [a,b],e=>exact ⟨a,b,by rw [← Array.toArray_toList (xs:=args),hl],by simp at e; exact e.1.symm,by simp at e; exact e.2.symm⟩
   subst C; subst B; subst Q
   cases hb:Mi false (ev GL env F) (ev GL env I) with
   | none=>rw [hb] at h; cases h
   | some z=>
    rw [hb] at h
    simp only [zqt,zqb,zqh] at h
    obtain ⟨_,rfl⟩:=h
    obtain ⟨v,D,J⟩:=P1c (P:=P) (w:=w) (m 0 F rfl) (m 1 I rfl) hb l o.type
    exact ⟨v,by simp only [zql] at D; simp [resolve,invoke,builtin,D],J⟩
  ·rename_i x y e
   obtain ⟨F,I,C,B,Q⟩:∃ a b,args = #[a,b]∧x=ev GL env a∧y=ev GL env b:=by
    match hl:args.toList,e with
    | [a,b],e=>exact ⟨a,b,by rw [← Array.toArray_toList (xs:=args),hl],by simp at e; exact e.1.symm,by simp at e; exact e.2.symm⟩
   subst C; subst B; subst Q
   cases hb:Mi true (ev GL env F) (ev GL env I) with
   | none=>rw [hb] at h; cases h
   | some z=>
    rw [hb] at h
    simp only [zqt,zqb,zqh] at h
    obtain ⟨_,rfl⟩:=h
    obtain ⟨v,D,J⟩:=P1c (P:=P) (w:=w) (m 0 F rfl) (m 1 I rfl) hb l o.type
    exact ⟨v,by simp only [zqk] at D; simp [resolve,invoke,builtin,D],J⟩
  ·rename_i x y z u e
   obtain ⟨F,I,S,U,C,B,Q,hz,O⟩:∃ a b c d,args = #[a,b,c,d]∧x=ev GL env a∧y=ev GL env b∧z=ev GL env c∧u=ev GL env d:=by
    match hl:args.toList,e with
    | [a,b,c,d],e=>
     simp at e
     exact ⟨a,b,c,d,by rw [← Array.toArray_toList (xs:=args),hl],e.1.symm,e.2.1.symm,e.2.2.1.symm,e.2.2.2.symm⟩
   subst C; subst B; subst Q; subst hz; subst O
   cases hb:Gw false (ev GL env F) (ev GL env I) (ev GL env S) (ev GL env U) with
   | none=>rw [hb] at h; cases h
   | some z=>
    rw [hb] at h
    simp only [zqt,zqb,zqh] at h
    obtain ⟨_,rfl⟩:=h
    obtain ⟨v,D,J⟩:=O1c (P:=P) (w:=w) (m 0 F rfl) (m 1 I rfl) (m 2 S rfl) (m 3 U rfl) hb l o.type
    exact ⟨v,by simp only [zql] at D; simp [resolve,invoke,builtin,D],J⟩
  ·rename_i x y z u e
   obtain ⟨F,I,S,U,C,B,Q,hz,O⟩:∃ a b c d,args = #[a,b,c,d]∧x=ev GL env a∧y=ev GL env b∧z=ev GL env c∧u=ev GL env d:=by
    match hl:args.toList,e with
    | [a,b,c,d],e=>
     simp at e
     exact ⟨a,b,c,d,by rw [← Array.toArray_toList (xs:=args),hl],e.1.symm,e.2.1.symm,e.2.2.1.symm,e.2.2.2.symm⟩
   subst C; subst B; subst Q; subst hz; subst O
   cases hb:Gw true (ev GL env F) (ev GL env I) (ev GL env S) (ev GL env U) with
   | none=>rw [hb] at h; cases h
   | some z=>
    rw [hb] at h
    simp only [zqt,zqb,zqh] at h
    obtain ⟨_,rfl⟩:=h
    obtain ⟨v,D,J⟩:=O1c (P:=P) (w:=w) (m 0 F rfl) (m 1 I rfl) (m 2 S rfl) (m 3 U rfl) hb l o.type
    exact ⟨v,by simp only [zqk] at D; simp [resolve,invoke,builtin,D],J⟩
  ·cases h
 ·cases h
end
def D1j (M:Mem)(w:World)(b:Nat):Prop:=∃ vs t f,w.heap[b]?=some (.cells vs t f)∧0 < vs.size∧∀ i,i < vs.size→M ⟨b,i,none⟩≠none
structure Cx where
 P:Program
 T:TT
 GL:GT
 gp:Mem→World→Prop
 gpm:∀ {M M':Mem} {w w':World},(∀ a v,M a=some v→M' a=some v)→(∀ b,D1j M w b→w'.heap[b]?=w.heap[b]?)→gp M w→gp M' w'
structure F3 (C:Cx):Prop where
 tok:TOk C.P C.T
 mixed:C.P.follows .mixedOrders=true
theorem Z1w {M:Mem}{G:Nat→Value}{w:World}{H:N0}(m:W9 M G w H){b:Nat}(hs:D1j M w b):¬ own G H b:=by
 rintro ⟨o,x,q,hb⟩
 obtain ⟨vs,t,f,h1,h2,i⟩:=hs
 have c:=m.obj o x q
 generalize G o=g at hb c
 cases x with
 | dead=>simp [blk] at hb
 | row cells elem=>
  obtain ⟨j,r,rfl,_,_,_,_,d⟩:=c
  simp [blk] at hb; subst hb
  exact i 0 h2 (d 0 none)
 | tok elem sz=>
  rcases c with rfl | ⟨a,n,cap,rfl,_,_,_,p⟩
  ·simp [blk] at hb
  ·simp only [blk] at hb
   split at hb
   ·rename_i e
    obtain ⟨_,r,h,u,k⟩:=p e
    simp at hb; subst hb
    rw [h1] at h
    cases h
    have hm:(n+1) * sz≤cap * sz:=Nat.mul_le_mul_right sz e
    rw [Nat.add_mul,Nat.one_mul] at hm
    rcases Nat.eq_zero_or_pos sz with h0 | h0
    ·subst h0
     exact i 0 h2 (k 0 none (by omega))
    ·exact i (vs.size - 1) (by omega) (k (vs.size - 1) none (by omega))
   ·cases hb
 | map es=>
  obtain ⟨j,ms,cl,rfl,h,_⟩:=c
  simp [blk] at hb; subst hb
  rw [h1] at h
  cases h
 | bld o' elem=>
  obtain ⟨j,s,rfl,_,_,_,d⟩:=c
  simp [blk] at hb; subst hb
  exact i 0 h2 (d 0 none)
 | buf elem bs=>
  rcases c with ⟨_,⟨rfl,_⟩ | ⟨j,cap,l,rfl,_,_,_,_,_,d⟩⟩
  ·simp [blk] at hb
  ·simp [blk] at hb; subst hb
   exact i 0 h2 (d 0 none)
structure Sr (C:Cx)(M:Mem)(w:World):Prop where
 tab:∀ G g cs,D1u C.GL g=some cs→L1 M G (.ptr cs) (.pointer (some ⟨g,0,none⟩))
 gp:C.gp M w
theorem Sr.ext {C:Cx}{M M':Mem}{w w':World}{G:Nat→Value}{H:N0}{S:Nat→Prop}(h:Sr C M w)(d:W9 M G w H)(a:Ext S M w M' w')(c:∀ b,S b→own G H b):Sr C M' w':=
 ⟨fun G g cs e=>(h.tab G g cs e).mono' a.mono,C.gpm a.mono (fun b hb=>a.block b (by obtain ⟨vs,t,f,h1,_⟩:=hb; exact (Array.getElem?_eq_some_iff.1 h1).1) fun hs=>Z1w d hb (c b hs)) h.gp⟩
structure FN where
 n:Nat
 d:List Deferred
instance:CoeOut FN Nat:=⟨FN.n⟩
structure St (C:Cx)(N:FN)(M:Mem)(G:Nat→Value)(w:World)(env:Env)(H:N0)(a:Act):Prop where
 good:Good M w
 gl:Sr C M w
 hrel:W9 M G w H
 env:∀ t,L1 M G (env t) (a.tmps.getD t undef)
 size:a.tmps.size=N
 defers:a.defers=N.d
def isTok:Ob→Bool
 | .tok ..=>true
 | .buf ..=>true
 | _=>false
structure Fr where
 H0:N0
 G0:Nat→Value
 M0:Mem
 w0:World
structure Q2 (fr:Fr)(M:Mem)(G:Nat→Value)(w:World)(H:N0):Prop where
 ext:Ext (own fr.G0 fr.H0) fr.M0 fr.w0 M w
 own:∀ b,own G H b→own fr.G0 fr.H0 b∨fr.w0.heap.size≤b
 len:fr.H0.length≤H.length
 keep:∀ (o:Nat) x,fr.H0[o]?=some x→isTok x=false→G o=fr.G0 o
 kind:∀ (o:Nat) x y,fr.H0[o]?=some x→isTok x=false→H[o]?=some y→isTok y=false
structure Fx where
 C:Cx
 N:FN
 K:Nat
 pan:Value→Env→N0→Prop
 esc:Fr→Exit→Act→World→Prop
def noP:Value→N0→Prop:=fun _ _=>False
def Mp:Value→Env→N0→Prop:=fun _ _ _=>False
def Uj:Fr→Exit→Act→World→Prop:=fun _ _ _ _=>False
abbrev fx (C:Cx)(n K:Nat):Fx:=⟨C,⟨n,[]⟩,K,Mp,Uj⟩
theorem St.eval {C:Cx}{N:FN}{M:Mem}{G:Nat→Value}{w:World}{env:Env}{H:N0}{a:Act}(h:St C N M G w env H a)(y:Operand):L1 M G (ev C.GL env y) (a.eval y):=by
 cases y with
 | tmp t=>exact h.env t
 | const v=>exact M1o M G v
 | global g=>
  simp only [ev]
  split
  ·exact h.gl.tab G g _ (by assumption)
  ·exact .junk
 | func f=>exact .clo rfl fun i x v h=>by simp at h
theorem Xo {env:Env}{dst:Option Nat}{x:A}{a:Act}{v:Value}{N:Nat}{M:Mem}{G:Nat→Value}(c:∀ t,L1 M G (env t) (a.tmps.getD t undef))(hs:a.tmps.size=N)(g:∀ d,dst=some d→d < N)(h:L1 M G x v) :
  (∀ t,L1 M G (put env dst x t) ((a.put dst v).tmps.getD t undef))∧(a.put dst v).tmps.size=N∧(a.put dst v).defers=a.defers:=by
 cases dst with
 | none=>exact ⟨c,hs,rfl⟩
 | some d=>
  refine ⟨fun t=>?_,by simp [Act.put,hs],rfl⟩
  have f:=g d rfl
  simp only [put,upd,Act.put]
  cases hb:Nat.beq t d with
  | true=>
   have:=zqo hb
   subst this
   simp only [zqk]
   have:t < a.tmps.size:=by omega
   simpa [this] using h
  | false=>
   have b:d≠t:=fun e=>by subst e; simp at hb
   simp only [zql]
   have:=c t
   simpa [Array.getElem?_setIfInBounds_ne b] using this
theorem St.quiet {C:Cx}{N:FN}{M M':Mem}{G:Nat→Value}{w w':World}{env:Env}{H:N0}{a:Act}(h:St C N M G w env H a){dst:Option Nat}(e:∀ d,dst=some d→d < N){x:A}{v:Value}
  (f:L1 M' G x v) (hg:Good M' w') (b:Ext C9 M w M' w'):St C N M' G w' (put env dst x) H (a.put dst v):=by
 obtain ⟨h1,h2,c⟩:=Xo (fun t=>(h.env t).mono' b.mono) h.size e f
 exact ⟨hg,h.gl.ext h.hrel b (fun _ h=>h.elim),h.hrel.ext b (fun _ _=>id),h1,h2,c.trans h.defers⟩
theorem Q2.quiet {fr:Fr}{M M':Mem}{G:Nat→Value}{w w':World}{H:N0}(h:Q2 fr M G w H)(a:Ext C9 M w M' w'):Q2 fr M' G w' H:=
 ⟨h.ext.trans a (fun _ h=>h.elim),h.own,h.len,h.keep,h.kind⟩
def Xb (C:Cx)(o:Oper)(env:Env)(H:N0)(x:A):Prop:=
 ∀ M G w (a:Act) (next:Act→World→Prop) (Qw:Exit→Act→World→Prop),(∀ y∈o.op.operands,L1 M G (ev C.GL env y) (a.eval y))→Good M w→Sr C M w→W9 M G w H→
  (∀ v M' w',L1 M' G x v→Good M' w'→Ext C9 M w M' w'→next (a.put o.dst v) w')→o.wp C.P a w next Qw
theorem Zs {C:Cx}(hC:F3 C){o:Oper}{env:Env}{H:N0}{c:Prop}{x:A}(h:opA C.T C.GL o.op env H=some (c,x))(hc:c):Xb C o env H x:=by
 intro M G w a next f e b _ d hk
 obtain ⟨v,h1,h2⟩:=V1y hC.tok b d o e h hc
 unfold Oper.wp
 rw [h1]
 exact hk v M w h2 b (Ext.refl _ _ _)
def Z1 (L:List Oper)(env:Env)(o:Oper):Option Bool:=
 match o.guard with
 | none=>some true
 | some (j,want)=>
  match nth L j with
  | some p=>match p.dst with
   | some d=>match env d with
    | .d (.bool b)=>some (b == want)
    | .tup []=>some false
    | _=>none
   | none=>none
  | none=>none
theorem Ie {C:Cx}{N:FN}{M:Mem}{G:Nat→Value}{w:World}{env:Env}{H:N0}{a:Act}(h:St C N M G w env H a){L:List Oper}{o:Oper}{b:Bool}(c:Z1 L env o=some b) :
  Region.wanted o (yielded L.toArray a.tmps)=b:=by
 unfold Z1 at c
 unfold Region.wanted
 split at c
 ·rename_i hg
  rw [hg]
  simpa using c
 ·rename_i j f hg
  rw [hg]
  split at c
  ·rename_i p hp
   split at c
   ·rename_i d l
    split at c
    ·rename_i k i
     simp only [zqb] at c
     have hr:=h.env d
     rw [i] at hr
     generalize hv:a.tmps.getD d undef=v at hr
     cases hr; rename_i hr; cases hr
     have g:d < a.tmps.size:=by
      rcases Nat.lt_or_ge d a.tmps.size with h' | h'
      ·exact h'
      ·simp [Array.getElem?_eq_none h',undef] at hv
     have:yielded L.toArray a.tmps j=some k:=by
      unfold yielded
      rw [Q3] at hp
      simp only [List.getElem?_toArray,hp,Option.bind_some,l]
      simp [g] at hv
      simp [g,hv]
     simp only [this]
     subst c
     cases k <;> cases f <;> rfl
    ·rename_i i
     simp only [zqb] at c
     subst c
     have hr:=h.env d
     rw [i] at hr
     generalize hv:a.tmps.getD d undef=v at hr
     cases hr
     rename_i vs hl _
     have e:vs = #[]:=Array.eq_empty_of_size_eq_zero (by simpa using hl.symm)
     subst e
     have:yielded L.toArray a.tmps j=none:=by
      unfold yielded
      rw [Q3] at hp
      simp only [List.getElem?_toArray,hp,Option.bind_some,l]
      rcases Nat.lt_or_ge d a.tmps.size with h' | h'
      ·simp [h'] at hv
       simp [h',hv]
      ·simp [Array.getElem?_eq_none h']
     simp only [this]
     cases f <;> rfl
    ·cases c
   ·cases c
  ·cases c
def X9 (N:Nat)(o:Oper):Bool:=match o.dst with | some d=>Nat.blt d N | none=>true
theorem G6 {N:Nat}{o:Oper}(h:X9 N o=true):∀ d,o.dst=some d→d < N:=by
 intro d a
 unfold X9 at h
 rw [a] at h
 exact Nat.le_of_ble_eq_true h
def E0 (F:Fx)(L l:List Oper)(env:Env)(H:N0)(Q:Env→N0→Prop):Prop:=
 ∀ fr M G w a (Qw:Exit→Act→World→Prop),fr.H0.length=F.K→(∀ o∈l,X9 F.N o=true)→St F.C F.N M G w env H a→Q2 fr M G w H→
  ((∀ env' H' M' G' w' a',Q env' H'→St F.C F.N M' G' w' env' H' a'→Q2 fr M' G' w' H'→Qw .normal a' w')∧∀ v env' H' M' G' w' a',F.pan v env' H'→St F.C F.N M' G' w' env' H' a'→Q2 fr M' G' w' H'→Qw (.panic [{ v:=v,recovered:=false }]) a' w')→wpList F.C.P L.toArray Qw l a w
theorem E0.nil {F:Fx}{L:List Oper}{env:Env}{H:N0}{Q:Env→N0→Prop}(h:Q env H):E0 F L [] env H Q:=
 fun _ _ _ _ _ _ _ _ hs a b=>wpList_nil (b.1 _ _ _ _ _ _ h hs a)
theorem E0.skip {F:Fx}{L l:List Oper}{o:Oper}{env:Env}{H:N0}{Q:Env→N0→Prop}(j:Z1 L env o=some false)(k:E0 F L l (put env o.dst (.tup [])) H Q):E0 F L (o::l) env H Q:=by
 intro fr M G w a f m d hs c e
 refine wpList_step fun K b=>?_
 rw [Ie hs j]
 simp only [zqa,zw]
 refine b _ _ (k fr M G w _ f m (fun o g=>d o (zqq _ g)) ?_ c e)
 exact hs.quiet (G6 (d o zqp)) (.tup rfl fun i x v h=>by simp at h) hs.good (Ext.refl _ _ _)
theorem E0.yields {F:Fx}{L l:List Oper}{o:Oper}{env:Env}{H:N0}{Q:Env→N0→Prop}{x:A}(i:Z1 L env o=some true)(j:Xb F.C o env H x)(k:E0 F L l (put env o.dst x) H Q):E0 F L (o::l) env H Q:=by
 intro fr M G w a d m f hs c g
 refine wpList_step fun K b=>?_
 rw [Ie hs i]
 simp only [zt]
 refine j M G w a K d (fun y _=>hs.eval y) hs.good hs.gl hs.hrel fun v M' w' h1 h2 e=>?_
 exact b _ _ (k fr M' G w' _ d m (fun o h=>f o (zqq _ h)) (hs.quiet (G6 (f o zqp)) h1 h2 e) (c.quiet e) g)
theorem E0.op {F:Fx}(hC:F3 F.C){L l:List Oper}{o:Oper}{env:Env}{H:N0}{Q:Env→N0→Prop}{c:Prop}{x:A}(a:Z1 L env o=some true)(h:opA F.C.T F.C.GL o.op env H=some (c,x))(hc:c)
  (k:E0 F L l (put env o.dst x) H Q):E0 F L (o::l) env H Q:=.yields a (Zs hC h hc) k
def Y7 (G:Nat→Value)(o:Nat)(v:Value):Nat→Value:=fun i=>if i=o then v else G i
theorem E4 {G:Nat→Value}{o:Nat}{v:Value}:Y7 G o v o=v:=by simp [Y7]
theorem A3 {G:Nat→Value}{o i:Nat}{v:Value}(h:i≠o):Y7 G o v i=G i:=by simp [Y7,h]
theorem Ty (S:Nat→Prop)(M:Mem)(w:World)(o:Obj):Ext S M w M (w.alloc o):=
 ⟨fun _ _ h=>h,by simp,rfl,rfl,rfl,fun b hb _=>heap_alloc_old w o b hb,fun _ _ h=>.inl h⟩
theorem Good.alloc {M:Mem}{w:World}(h:Good M w)(o:Obj):Good M (w.alloc o):=fun a v e=>by
 have b:=h.lt e
 rcases h a v e with ⟨h1,h2⟩ | ⟨h1,ms,cl,h2,c⟩
 ·exact .inl ⟨h1,by rw [World.cell?_alloc_lt w o a b]; exact h2⟩
 ·refine .inr ⟨h1,ms,cl,?_,c⟩
  rw [← h2]
  show (w.heap.push o)[a.block]?=_
  rw [Array.getElem?_push,zn (by omega)]
def Z1e (M:Mem)(G:Nat→Value)(cs:List A)(vs:Array Value):Prop:=
 cs.length≤vs.size∧(∀ (i:Nat) v,vs[i]?=some v→v.oneCell'=true)∧∀ (i:Nat) x v,cs[i]?=some x→vs[i]?=some v→L1 M G x v
theorem St.newRowL {C:Cx}{N:FN}{M:Mem}{G:Nat→Value}{w:World}{env:Env}{H:N0}{a:Act}(h:St C N M G w env H a){dst:Option Nat}(I:∀ d,dst=some d→d < N){cs:List A}{vs:Array Value}{elem:TypeId}
  (hc:Z1e M G cs vs):St C N M (Y7 G H.length (.pointer (some ⟨w.heap.size,0,none⟩))) (w.alloc (.cells vs elem)) (put env dst (.ref H.length 0)) (H++[.row cs elem]) (a.put dst (.pointer (some ⟨w.heap.size,0,none⟩))):=by
 have f:∀ {x:A} {v:Value},L1 M G x v→L1 M (Y7 G H.length (.pointer (some ⟨w.heap.size,0,none⟩))) x v:=fun hr=>hr.mono (fun _ _ e=>e) fun o hn=>A3 (Nat.ne_of_lt (h.hrel.lt hr hn))
 obtain ⟨h1,h2,F⟩:=Xo (fun t=>f (h.env t)) h.size I (x:=.ref H.length 0) (v:=.pointer (some ⟨w.heap.size,0,none⟩)) (.ref E4)
 refine ⟨h.good.alloc _,h.gl.ext h.hrel (Ty C9 _ _ _) (fun _ h=>h.elim),⟨fun o x g=>?_,fun o o' x x' b g l hb u=>?_,fun o g=>?_⟩,h1,h2,F.trans h.defers⟩
 ·rcases Nat.lt_trichotomy o H.length with j | rfl | hgt
  ·rw [zqx j] at g
   rw [A3 (Nat.ne_of_lt j)]
   have s:=h.hrel.obj o x g
   have hk:Rj M G (w.alloc (.cells vs elem)) x (G o):=s.keep (fun _ _ e=>e) (fun b hb=>heap_alloc_old w _ b (Wb s hb)) (fun _ _ _ _ e=>e)
   cases x with
   | dead=>trivial
   | row cells e=>
    obtain ⟨b,J,p,r,n,m,q,K⟩:=hk
    exact ⟨b,J,p,r,n,m,fun i y v a c=>f (q i y v a c),K⟩
   | tok e sz=>exact hk
   | map es=>
    obtain ⟨b,ms,cl,p,r,n,m,q⟩:=hk
    exact ⟨b,ms,cl,p,r,n,fun i k cs e a c=>⟨(m i k cs e a c).1,f (m i k cs e a c).2⟩,q⟩
   | bld o' e=>
    obtain ⟨b,E,p,r,n,m,q⟩:=hk
    have l:o'≠H.length:=fun e=>m (by rw [e]; exact h.hrel.fresh _ (zqr _))
    exact ⟨b,E,p,by rw [A3 l]; exact r,n,by rw [A3 l]; exact m,q⟩
   | buf e sz=>exact hk
  ·simp at g
   subst g
   rw [E4]
   exact ⟨w.heap.size,vs,rfl,heap_alloc_new w _,hc.1,hc.2.1,fun i x v a b=>f (hc.2.2 i x v a b),fun off sp=>by
    cases hM:M ⟨w.heap.size,off,sp⟩ with
    | none=>rfl
    | some v=>have:=h.good.lt hM; simp at this⟩
  ·rw [List.getElem?_eq_none (by simp; omega)] at g
   cases g
 ·have key:∀ (o:Nat) x b,(H++[Ob.row cs elem])[o]?=some x→blk x (Y7 G H.length (.pointer (some ⟨w.heap.size,0,none⟩)) o)=some b→(o < H.length∧H[o]?=some x∧blk x (G o)=some b∧b < w.heap.size)∨(o=H.length∧b=w.heap.size):=by
   intro o x b g hb
   rcases Nat.lt_trichotomy o H.length with j | rfl | hgt
   ·rw [zqx j] at g
    rw [A3 (Nat.ne_of_lt j)] at hb
    exact .inl ⟨j,g,hb,Wb (h.hrel.obj o x g) hb⟩
   ·simp at g
    subst g
    rw [E4] at hb
    simp [blk] at hb
    exact .inr ⟨rfl,hb.symm⟩
   ·rw [List.getElem?_eq_none (by simp; omega)] at g
    cases g
  rcases key o x b g hb with ⟨D,z,B,L⟩ | ⟨D,z⟩ <;> rcases key o' x' b l u with ⟨p1,p2,p3,p4⟩ | ⟨p1,p2⟩
  ·exact h.hrel.apart o o' x x' b z p2 B p3
  ·omega
  ·omega
  ·omega
 ·simp at g
  rw [A3 (by omega)]
  exact h.hrel.fresh o (by omega)
theorem St.newRow {C:Cx}{N:FN}{M:Mem}{G:Nat→Value}{w:World}{env:Env}{H:N0}{a:Act}(h:St C N M G w env H a){dst:Option Nat}(b:∀ d,dst=some d→d < N){cs:List A}{vs:Array Value}{elem:TypeId}
  (hc:Bi M G cs vs):St C N M (Y7 G H.length (.pointer (some ⟨w.heap.size,0,none⟩))) (w.alloc (.cells vs elem)) (put env dst (.ref H.length 0)) (H++[.row cs elem]) (a.put dst (.pointer (some ⟨w.heap.size,0,none⟩))):=
 h.newRowL b ⟨Nat.le_of_eq hc.1,hc.2⟩
theorem Q2.newRow {fr:Fr}{M:Mem}{G:Nat→Value}{w:World}{H:N0}(h:Q2 fr M G w H){cs:List A}{vs:Array Value}{elem:TypeId} :
  Q2 fr M (Y7 G H.length (.pointer (some ⟨w.heap.size,0,none⟩))) (w.alloc (.cells vs elem)) (H++[.row cs elem]):=by
 refine ⟨h.ext.trans (Ty C9 _ _ _) (fun _ h=>h.elim),fun b hb=>?_,by simp; have:=h.len; omega,fun o x c ht=>?_,fun o x y c ht e=>?_⟩
 ·obtain ⟨o,x,c,d⟩:=hb
  rcases Nat.lt_trichotomy o H.length with a | rfl | hgt
  ·rw [zqx a] at c
   rw [A3 (Nat.ne_of_lt a)] at d
   exact h.own b ⟨o,x,c,d⟩
  ·simp at c
   subst c
   rw [E4] at d
   simp [blk] at d
   subst d
   exact .inr h.ext.size
  ·rw [List.getElem?_eq_none (by simp; omega)] at c
   cases c
 ·have a:o < H.length:=Nat.lt_of_lt_of_le (zqu.1 c).1 h.len
  rw [A3 (Nat.ne_of_lt a)]
  exact h.keep o x c ht
 ·have a:o < H.length:=Nat.lt_of_lt_of_le (zqu.1 c).1 h.len
  rw [zqx a] at e
  exact h.kind o x y c ht e
theorem Nj {F:Fx}{L l:List Oper}{o:Oper}{env:Env}{H:N0}{Q:Env→N0→Prop}(n:Z1 L env o=some true)
  (h:∀ fr M G w a (K:Act→World→Prop) (c:Exit→Act→World→Prop),fr.H0.length=F.K→X9 F.N o=true→St F.C F.N M G w env H a→Q2 fr M G w H→
   (∀ x env' H' M' G' w' v,E0 F L l (put env' o.dst x) H' Q→St F.C F.N M' G' w' (put env' o.dst x) H' (a.put o.dst v)→Q2 fr M' G' w' H'→K (a.put o.dst v) w')→o.wp F.C.P a w K c):E0 F L (o::l) env H Q:=by
 intro fr M G w a c g i hs f j
 refine wpList_step fun K d=>?_
 rw [Ie hs n]
 simp only [zt]
 refine h fr M G w a K c g (i o zqp) hs f fun x env' H' M' G' w' v k e b=>?_
 exact d _ _ (k fr M' G' w' _ c g (fun o m=>i o (zqq _ m)) e b j)
theorem S1o {F:Fx}{L l:List Oper}{o:Oper}{env:Env}{H:N0}{Q:Env→N0→Prop}(n:Z1 L env o=some true)
  (h:∀ fr M G w a (K:Act→World→Prop) (d:Exit→Act→World→Prop),fr.H0.length=F.K→X9 F.N o=true→St F.C F.N M G w env H a→Q2 fr M G w H→
   (∀ x env' H' M' G' w' v,E0 F L l (put env' o.dst x) H' Q→St F.C F.N M' G' w' (put env' o.dst x) H' (a.put o.dst v)→Q2 fr M' G' w' H'→K (a.put o.dst v) w')→
   (∀ v env' H' M' G' w',F.pan v env' H'→St F.C F.N M' G' w' env' H' a→Q2 fr M' G' w' H'→d (.panic [{ v:=v,recovered:=false }]) a w')→o.wp F.C.P a w K d):E0 F L (o::l) env H Q:=by
 intro fr M G w a d i j hs f g
 refine wpList_step fun K e=>?_
 rw [Ie hs n]
 simp only [zt]
 refine h fr M G w a K d i (j o zqp) hs f (fun x env' H' M' G' w' v k c b=>?_) fun v env' H' M' G' w' hp c b=>g.2 v env' H' M' G' w' a hp c b
 exact e _ _ (k fr M' G' w' _ d i (fun o m=>j o (zqq _ m)) c b g)
theorem E0.alloc {F:Fx}(hC:F3 F.C){L l:List Oper}{o:Oper}{env:Env}{H:N0}{Q:Env→N0→Prop}{t:Nat}{i:TI}(e:Z1 L env o=some true)(c:o.op = .alloc t)(ht:B4 F.C.T t=some i)
  (k:E0 F L l (put env o.dst (.ref H.length 0)) (H++[.row (i.zero.map .d) t]) Q):E0 F L (o::l) env H Q:=by
 refine Nj e fun fr M G w a K g h f hs b hk=>?_
 obtain ⟨z,h1,h2,_⟩:=B13 (M:=M) (G:=G) hC.tok ht
 have hr:(execOp a.eval o).run F.C.P w = .ok (.value (.pointer (some ⟨w.heap.size,0,none⟩))) (w.alloc (.cells z.cells t)):=by
  unfold execOp
  simp [c,Instr.alloc,h1,newVar,newRow]
 unfold Oper.wp
 rw [hr]
 exact hk _ _ _ _ _ _ _ k (hs.newRow (G6 f) h2) (Q2.newRow b)
theorem E0.box {F:Fx}{L l:List Oper}{o:Oper}{env:Env}{H:N0}{Q:Env→N0→Prop}{t:Nat}{y:Operand}{cs:List A}(f:Z1 L env o=some true)(e:o.op = .box t y)(g:Yc (ev F.C.GL env y)=some cs)
  (k:E0 F L l (put env o.dst (.ref H.length 0)) (H++[.row cs t]) Q):E0 F L (o::l) env H Q:=by
 refine Nj f fun fr M G w a K i j h hs b hk=>?_
 obtain ⟨c,d,c3⟩:=Qv (hs.eval y) g
 have hr:(execOp a.eval o).run F.C.P w = .ok (.value (.pointer (some ⟨w.heap.size,0,none⟩))) (w.alloc (.cells (a.eval y).cells t)):=by
  unfold execOp
  simp [e,Instr.box,newVar,newRow]
 unfold Oper.wp
 rw [hr]
 exact hk _ _ _ _ _ _ _ k (hs.newRow (G6 h) ⟨c.symm,d,c3⟩) (Q2.newRow b)
def Wc:N0→Nat→Ob→N0
 | [],_,_=>[]
 | _::r,0,x=>x::r
 | y::r,n+1,x=>y::Wc r n x
theorem Sl:∀ (H:N0) (n:Nat) (x:Ob),(Wc H n x).length=H.length
 | [],_,_=>rfl
 | _::_,0,_=>rfl
 | _::r,n+1,x=>by simp [Wc,Sl r n x]
theorem Ae:∀ (H:N0) (n:Nat) (x:Ob) (i:Nat),n < H.length→(Wc H n x)[i]?=if i=n then some x else H[i]?
 | [],n,x,i,h=>by simp at h
 | y::r,0,x,i,_=>by cases i <;> simp [Wc]
 | y::r,n+1,x,i,h=>by
  cases i with
  | zero=>simp [Wc]
  | succ i=>simp only [Wc,List.getElem?_cons_succ,Ae r n x i (by simpa using h),Nat.add_right_cancel_iff]
theorem O1a (w:World)(g:Nat)(cs:Array Value):(w.setRow g cs).heap.size=w.heap.size:=by simp [World.setRow]
theorem St.setRow {C:Cx}{N:FN}{M:Mem}{G:Nat→Value}{w:World}{env:Env}{H:N0}{a:Act}(h:St C N M G w env H a){dst:Option Nat}(R:∀ d,dst=some d→d < N){o b:Nat}{cs l:List A}{vs f:Array Value}{elem:TypeId}
  (q:H[o]?=some (.row cs elem)) (hg:G o = .pointer (some ⟨b,0,none⟩)) (hb:w.heap[b]?=some (.cells vs elem (0,0))) (hc:Z1e M G l f) :
  St C N M G (w.setRow b f) (put env dst .junk) (Wc H o (.row l elem)) (a.put dst undef)∧Ext (fun x=>x=b) M w M (w.setRow b f):=by
 have m:o < H.length:=(zqu.1 q).1
 have j:blk (.row cs elem) (G o)=some b:=by rw [hg]; rfl
 have p:∀ off sp,M ⟨b,off,sp⟩=none:=by
  obtain ⟨T,W,t,_,_,_,_,S⟩:=h.hrel.obj o _ q
  rw [hg] at t
  simp at t
  subst t
  exact S
 have g:Ext (fun x=>x=b) M w M (w.setRow b f):=
  ⟨fun _ _ e=>e,by rw [O1a]; exact zqr _,rfl,rfl,rfl,fun k _ hk=>setRow_other w b k f hk,fun _ _ e=>.inl e⟩
 obtain ⟨h1,h2,Q⟩:=Xo h.env h.size R (x:=.junk) (v:=undef) .junk
 refine ⟨⟨h.good.ext g (fun O v e hk=>?_),h.gl.ext h.hrel g (fun x I=>by subst I; exact ⟨o,_,q,j⟩),⟨fun i x hi=>?_,fun i i' x x' c hi E I B=>?_,fun i hi=>h.hrel.fresh i (by rw [Sl] at hi; exact hi)⟩,h1,h2,Q.trans h.defers⟩,g⟩
 ·obtain ⟨bb,V,U⟩:=O
  have F:bb=b:=hk
  subst F
  rw [p] at e
  cases e
 ·rw [Ae H o _ i m] at hi
  split at hi
  ·rename_i e
   subst e
   simp only [zqb] at hi
   subst hi
   refine ⟨b,f,hg,setRow_heap w b vs f elem (0,0) hb,hc.1,hc.2.1,hc.2.2,p⟩
  ·rename_i u
   have K:=h.hrel.obj i x hi
   exact K.keep (fun _ _ e=>e) (fun c D=>setRow_other w b c f fun e=>u (h.hrel.apart i o x _ b hi q (e ▸ D) j)) (fun _ _ _ _ e=>e)
 ·have key:∀ (n:Nat) z d,(Wc H o (Ob.row l elem))[n]?=some z→blk z (G n)=some d→∃ y,H[n]?=some y∧blk y (G n)=some d:=by
   intro n z d hn hz
   rw [Ae H o _ n m] at hn
   by_cases e:n=o
   ·rw [zp e] at hn
    subst e
    obtain rfl:=Option.some.inj hn
    exact ⟨_,q,by rw [hg] at hz ⊢; exact hz⟩
   ·rw [zn e] at hn
    exact ⟨z,hn,hz⟩
  obtain ⟨y,P,s⟩:=key i x c hi I
  obtain ⟨L,J,r⟩:=key i' x' c E B
  exact h.hrel.apart i i' y L c P J s r
theorem Q2.setRow {fr:Fr}{M:Mem}{G:Nat→Value}{w w':World}{H:N0}(h:Q2 fr M G w H){o b:Nat}{cs g:List A}{elem:TypeId}
  (j:H[o]?=some (.row cs elem)) (hg:G o = .pointer (some ⟨b,0,none⟩)) (k:Ext (fun x=>x=b) M w M w'):Q2 fr M G w' (Wc H o (.row g elem)):=by
 have d:o < H.length:=(zqu.1 j).1
 have hb:Go.Am.own G H b:=⟨o,_,j,by rw [hg]; rfl⟩
 refine ⟨h.ext.trans k (fun x a=>by subst a; exact h.own _ hb),fun c hc=>?_,by rw [Sl]; exact h.len,h.keep,fun i x y hi ht f=>?_⟩
 ·obtain ⟨i,x,hi,a⟩:=hc
  rw [Ae H o _ i d] at hi
  by_cases e:i=o
  ·rw [zp e] at hi
   subst e
   obtain rfl:=Option.some.inj hi
   rw [hg] at a
   simp [blk] at a
   subst a
   exact h.own _ hb
  ·rw [zn e] at hi
   exact h.own c ⟨i,x,hi,a⟩
 rw [Ae H o _ i d] at f
 by_cases e:i=o
 ·rw [zp e] at f
  obtain rfl:=Option.some.inj f
  rfl
 ·rw [zn e] at f
  exact h.kind i x y hi ht f
def R1c (i:TI)(x y:A)(H:N0):Option (Nat×List A×Nat):=
 match x,Yc y with
 | .ref o off,some xs=>match nth H o with
  | some (.row cells elem)=>bif Nat.beq xs.length i.size&&Nat.ble (off+i.size) cells.length then some (o,Ff cells off xs,elem) else none
  | _=>none
 | _,_=>none
theorem S1c (vs:List Value)(off:Nat)(a:List Value)(i:Nat)(h:off+a.length≤vs.length) :
  (vs.take off++a++vs.drop (off+a.length))[i]?=if off≤i∧i < off+a.length then a[i - off]? else vs[i]?:=by
 by_cases h1:i < off
 ·rw [zqx (by simp; omega),zqx (by simp; omega),List.getElem?_take,zp h1,zn (by omega)]
 ·by_cases h2:i < off+a.length
  ·rw [zqx (by simp; omega),List.getElem?_append_right (by simp; omega),zp (by omega)]
   congr 1
   simp
   omega
  ·rw [List.getElem?_append_right (by simp; omega),zn (by omega),List.getElem?_drop]
   congr 1
   simp
   omega
theorem E0.store {F:Fx}(hC:F3 F.C){L l:List Oper}{o:Oper}{env:Env}{H:N0}{Q:Env→N0→Prop}{t:Nat}{x y:Operand}{i:TI}{p:Nat}{cs:List A}{e:Nat}(I:Z1 L env o=some true)(J:o.op = .store t x y)
  (ht:B4 F.C.T t=some i) (c:R1c i (ev F.C.GL env x) (ev F.C.GL env y) H=some (p,cs,e)) (k:E0 F L l (put env o.dst .junk) (Wc H p (.row cs e)) Q):E0 F L (o::l) env H Q:=by
 refine Nj I fun fr M G w a K Qw hK W hs r hk=>?_
 have f:=hC.tok.facts ht
 have u:=hs.eval x
 have S:=hs.eval y
 unfold R1c at c
 split at c
 ·rename_i o' off xs m q
  split at c
  ·rename_i cells elem d
   cases hbb:Nat.beq xs.length i.size&&Nat.ble (off+i.size) cells.length with
   | false=>rw [hbb] at c; cases c
   | true=>
    rw [hbb] at c
    simp only [zqk,zqb,zqh] at c
    obtain ⟨rfl,rfl,rfl⟩:=c
    simp only [zqi] at hbb
    have V:=zqo hbb.1
    have X:=Nat.le_of_ble_eq_true hbb.2
    rw [m] at u
    generalize hxv:a.eval x=xv at u
    cases u
    rename_i b hg
    rw [Q3] at d
    obtain ⟨Z,vs,j,B,Y,O,N,g6⟩:=hs.hrel.obj _ _ d
    rw [hg] at j
    simp at j
    subst j
    obtain ⟨s,D,U⟩:=Qv S q
    have c:=run_storeCells_at F.C.P b off elem (a.eval y).cells.toList 0 vs w B (by simp only [Array.length_toList,s]; omega) (fun v hv=>by
     obtain ⟨n,hn⟩:=Array.getElem?_of_mem (Array.mem_toList_iff.1 hv)
     exact D n v hn)
    have hr:(execOp a.eval o).run F.C.P w = .ok .skip (w.setRow b (vs.toList.take off++(a.eval y).cells.toList++vs.toList.drop (off+(a.eval y).cells.toList.length)).toArray):=by
     unfold execOp
     simp only [J,hxv,Instr.storeAt,Instr.sureAddr,storeVar,Sem.run_bind,Sem.run_pure,Result.andThen_ok,Mh f w]
     rw [zn (by simp [s,V])]
     simp only [Nat.add_zero] at c
     simp [c]
    have h:(a.eval y).cells.toList.length=xs.length:=by simp [s]
    have hc:Z1e M G (Ff cells off xs) (vs.toList.take off++(a.eval y).cells.toList++vs.toList.drop (off+(a.eval y).cells.toList.length)).toArray:=by
     have g:=fun n=>S1c vs.toList off (a.eval y).cells.toList n (by rw [h]; simp only [Array.length_toList]; omega)
     refine ⟨?_,fun n v hv=>?_,fun n z v hz hv=>?_⟩
     ·rw [Xs]
      simp
      omega
     ·rw [List.getElem?_toArray,g n] at hv
      split at hv
      ·exact D _ v (by simpa using hv)
      ·exact O n v (by simpa using hv)
     ·rw [List.getElem?_toArray,g n,h] at hv
      rw [Ys cells off xs n (by omega)] at hz
      by_cases hn:off≤n∧n < off+xs.length
      ·rw [zp hn] at hz hv
       exact U _ z v hz (by simpa using hv)
      ·rw [zn hn] at hz hv
       exact N n z v hz (by simpa using hv)
    obtain ⟨R,E⟩:=hs.setRow (G6 W) d hg B hc
    unfold Oper.wp
    rw [hr]
    exact hk _ _ _ _ _ _ _ k R (r.setRow d hg E)
  ·cases c
 ·cases c
mutual
def W5 (k:Nat):A→Bool
 | .d _ | .junk | .ptr _ | .full _=>true
 | .ref o _=>Nat.blt o k
 | .osl o _=>Nat.blt o k
 | .rsl o _ _ _=>Nat.blt o k
 | .mp o=>Nat.blt o k
 | .clo _ cs=>W2 k cs
 | .bnd _ cs=>W2 k cs
 | .agg cs=>W2 k cs
 | .tup cs=>W2 k cs
def W2 (k:Nat):List A→Bool
 | []=>true
 | x::r=>W5 k x&&W2 k r
end
theorem Rg {k:Nat}:∀ {l:List A},W2 k l=true→∀ x∈l,W5 k x=true
 | [],_,x,h=>by cases h
 | y::r,h,x,a=>by
  simp only [W2,zqi] at h
  cases a with
  | head=>exact h.1
  | tail _ a=>exact Rg h.2 x a
theorem B17 {k:Nat}{x:A}(h:W5 k x=true){o:Nat}(hn:Names x o):o < k:=by
 induction hn with
 | ref=>simpa [W5] using h
 | osl=>simpa [W5] using h
 | rsl=>simpa [W5] using h
 | mp=>simpa [W5] using h
 | clo hm _ a=>exact a (Rg (by simpa only [W5] using h) _ hm)
 | bnd hm _ a=>exact a (Rg (by simpa only [W5] using h) _ hm)
 | agg hm _ a=>exact a (Rg (by simpa only [W5] using h) _ hm)
 | tup hm _ a=>exact a (Rg (by simpa only [W5] using h) _ hm)
def T1o (k:Nat):Ob→Bool
 | .row cs _=>W2 k cs
 | .bld o _=>Nat.blt o k
 | _=>true
inductive LeA:A→A→Prop
 | rfl {x}:LeA x x
 | junk {x}:LeA .junk x
 | osl {o rows}:LeA (.d (.sl rows)) (.osl o rows)
 | full {rows}:LeA (.d (.sl rows)) (.full rows)
 | nbx:LeA (.d (.bxo none)) (.d (.nilv .ptr))
 | nfn:LeA (.d (.fn none)) (.d (.nilv .func))
 | fnc {f}:LeA (.d (.fn (some f))) (.clo f [])
 | agg {xs ys} (hl:xs.length=ys.length) (h:∀ (i:Nat) x y,xs[i]?=some x→ys[i]?=some y→LeA x y):LeA (.agg xs) (.agg ys)
 | tup {xs ys} (hl:xs.length=ys.length) (h:∀ (i:Nat) x y,xs[i]?=some x→ys[i]?=some y→LeA x y):LeA (.tup xs) (.tup ys)
 | clo {f xs ys} (hl:xs.length=ys.length) (h:∀ (i:Nat) x y,xs[i]?=some x→ys[i]?=some y→LeA x y):LeA (.clo f xs) (.clo f ys)
 | bnd {f xs ys} (hl:xs.length=ys.length) (h:∀ (i:Nat) x y,xs[i]?=some x→ys[i]?=some y→LeA x y):LeA (.bnd f xs) (.bnd f ys)
theorem LeA.rel {M:Mem}{G:Nat→Value}{x y:A}(h:LeA x y):∀ {v:Value},L1 M G y v→L1 M G x v:=by
 have get:∀ {xs ys:List A},xs.length=ys.length→∀ {i:Nat} {x:A},xs[i]?=some x→∃ y,ys[i]?=some y:=by
  intro xs ys hl i x b
  exact ⟨_,zqv (by rw [← hl]; exact (zqu.1 b).1)⟩
 induction h with
 | rfl=>exact fun h=>h
 | junk=>exact fun _=>.junk
 | osl=>intro v a; cases a; exact .d (by assumption)
 | full=>intro v a; cases a; exact .d (by assumption)
 | nbx=>intro v a; cases a; rename_i a; cases a; exact .d .bxnil
 | nfn=>intro v a; cases a; rename_i a; cases a; exact .d .fnnil
 | fnc=>
  intro v a
  cases a with
  | clo hl _=>
   rename_i vs _
   have e:vs = #[]:=Array.eq_empty_of_size_eq_zero (by simpa using hl.symm)
   subst e
   exact .d .fns
 | agg hl _ c=>
  intro v a
  cases a with
  | agg hl' h1 h=>
   refine .agg (by omega) h1 fun i x v b hv=>?_
   obtain ⟨y,a⟩:=get hl b
   exact c i x y b a (h i y v a hv)
 | tup hl _ c=>
  intro v a
  cases a with
  | tup hl' h=>
   refine .tup (by omega) fun i x v b hv=>?_
   obtain ⟨y,a⟩:=get hl b
   exact c i x y b a (h i y v a hv)
 | clo hl _ c=>
  intro v a
  cases a with
  | clo hl' h=>
   refine .clo (by omega) fun i x v b hv=>?_
   obtain ⟨y,a⟩:=get hl b
   exact c i x y b a (h i y v a hv)
 | bnd hl _ c=>
  intro v a
  cases a with
  | bnd hl' h=>
   refine .bnd (by omega) fun i x v b hv=>?_
   obtain ⟨y,a⟩:=get hl b
   exact c i x y b a (h i y v a hv)
def LeL:List A→List A→Prop
 | [],[]=>True
 | x::xs,y::ys=>LeA x y∧LeL xs ys
 | _,_=>False
theorem LeL.spec:∀ {xs ys:List A},LeL xs ys→xs.length=ys.length∧∀ (i:Nat) x y,xs[i]?=some x→ys[i]?=some y→LeA x y
 | [],[],_=>⟨rfl,fun i x y h=>by simp at h⟩
 | x::xs,y::ys,h=>by
  obtain ⟨h1,h2⟩:=LeL.spec h.2
  refine ⟨by simp [h1],fun i a b ha hb=>?_⟩
  cases i with
  | zero=>simp at ha hb; subst ha; subst hb; exact h.1
  | succ i=>exact h2 i a b (by simpa using ha) (by simpa using hb)
 | [],_::_,h=>h.elim
 | _::_,[],h=>h.elim
theorem LeA.aggL {xs ys:List A}(h:LeL xs ys):LeA (.agg xs) (.agg ys):=.agg h.spec.1 h.spec.2
theorem LeA.tupL {xs ys:List A}(h:LeL xs ys):LeA (.tup xs) (.tup ys):=.tup h.spec.1 h.spec.2
def Je:List (Nat×A)→Env
 | []=>fun _=>.junk
 | (t,x)::r=>upd (Je r) t x
def WkE (k:Nat)(env:Env):List (Nat×A)→Prop
 | []=>True
 | (t,x)::r=>(LeA x (env t)∧W5 k x=true)∧WkE k env r
def WkO (k:Nat):Ob→Ob→Prop
 | .dead,_=>True
 | .row cs2 e2,.row cs e=>e2=e∧LeL cs2 cs∧W2 k cs2=true
 | .row _ _,_=>False
 | .bld o e,x=>x = .bld o e∧o < k
 | x2,x=>x2=x
theorem LeL.refl:∀ xs:List A,LeL xs xs
 | []=>trivial
 | _::r=>⟨.rfl,LeL.refl r⟩
theorem WkO.same {k:Nat}{x:Ob}(h:T1o k x=true):WkO k x x:=by
 cases x with
 | dead=>trivial
 | row cs e=>exact ⟨rfl,.refl _,h⟩
 | bld o e=>exact ⟨rfl,by simpa [T1o] using h⟩
 | tok e sz=>rfl
 | buf e sz=>rfl
 | map es=>rfl
theorem WkO.row {k:Nat}{a:List A}{e:TypeId}{x:Ob}(h:WkO k (.row a e) x):∃ cs,x = .row cs e∧LeL a cs∧W2 k a=true:=by
 cases x with
 | row cs e'=>obtain ⟨rfl,h1,h2⟩:=h; exact ⟨cs,rfl,h1,h2⟩
 | _=>exact h.elim
theorem WkO.blk {k:Nat}{x2 x:Ob}{g:Value}{b:Nat}(h:WkO k x2 x)(hb:blk x2 g=some b):blk x g=some b:=by
 cases x2 with
 | dead=>simp [Go.Am.blk] at hb
 | row cs e=>obtain ⟨c,rfl,_⟩:=h.row; cases g <;> first | exact hb | (rename_i a; cases a <;> exact hb)
 | bld o e=>obtain ⟨rfl,_⟩:=h; exact hb
 | tok e sz=>have : .tok e sz=x:=h; subst this; exact hb
 | buf e sz=>have : .buf e sz=x:=h; subst this; exact hb
 | map es=>have : .map es=x:=h; subst this; exact hb
theorem WkO.isTok {k:Nat}{x2 x:Ob}(h:WkO k x2 x)(a:isTok x=false):isTok x2=false:=by
 cases x2 with
 | dead=>rfl
 | row cs e=>rfl
 | bld o e=>rfl
 | tok e sz=>have : .tok e sz=x:=h; subst this; exact a
 | buf e sz=>have : .buf e sz=x:=h; subst this; exact a
 | map es=>rfl
def WkH (k:Nat):N0→N0→Prop
 | _,[]=>True
 | [],_::_=>False
 | x::H,x2::H2=>WkO k x2 x∧WkH k H H2
theorem WkE.spec {k:Nat}{env:Env}:∀ {L:List (Nat×A)},WkE k env L→∀ t,LeA (Je L t) (env t)∧W5 k (Je L t)=true
 | [],_,t=>⟨.junk,rfl⟩
 | (s,x)::r,h,t=>by
  simp only [Je,upd]
  cases hb:Nat.beq t s with
  | true=>
   have:=zqo hb
   subst this
   exact h.1
  | false=>exact WkE.spec h.2 t
theorem WkH.spec {k:Nat}:∀ {H H2:N0},WkH k H H2→H2.length≤H.length∧∀ (o:Nat) x2,H2[o]?=some x2→∃ x,H[o]?=some x∧WkO k x2 x
 | _,[],_=>⟨Nat.zero_le _,fun o x2 h=>by simp at h⟩
 | [],_::_,h=>h.elim
 | x::H,y::H2,h=>by
  obtain ⟨h1,h2⟩:=WkH.spec h.2
  refine ⟨by simpa using h1,fun o x2 a=>?_⟩
  cases o with
  | zero=>simp at a; subst a; exact ⟨x,rfl,h.1⟩
  | succ o=>simpa using h2 o x2 (by simpa using a)
def Qe (k:Nat)(G:Nat→Value):Nat→Value:=fun o=>if o < k then G o else .tuple #[]
theorem L1.cut {M:Mem}{G:Nat→Value}{x:A}{v:Value}{k:Nat}(h:L1 M G x v)(hn:W5 k x=true):L1 M (Qe k G) x v:=
 h.mono (fun _ _ e=>e) fun o a=>by simp [Qe,B17 hn a]
theorem W9.wk {M:Mem}{G:Nat→Value}{w:World}{H H2:N0}(h:W9 M G w H)(I:WkH H2.length H H2):W9 M (Qe H2.length G) w H2:=by
 obtain ⟨h1,h2⟩:=I.spec
 have n:∀ {o:Nat} {x:Ob},H2[o]?=some x→o < H2.length:=fun h=>(zqu.1 h).1
 have m:∀ {x2 x:Ob} {g:Value} {b:Nat},WkO H2.length x2 x→blk x2 g=some b→blk x g=some b:=fun I hb=>I.blk hb
 refine ⟨fun o x2 s=>?_,fun o o' x x' b s B hb u=>?_,fun o s=>by simp [Qe]; omega⟩
 ·obtain ⟨x,T,f⟩:=h2 o x2 s
  have hg:Qe H2.length G o=G o:=by simp [Qe,n s]
  rw [hg]
  ·have j:=h.obj o _ T
   cases x2 with
   | dead=>trivial
   | row cs e=>
    obtain ⟨p,rfl,K,hn⟩:=f.row
    obtain ⟨b,U,z,C,E,q,A,V⟩:=j
    obtain ⟨S,N⟩:=K.spec
    refine ⟨b,U,z,C,by omega,q,fun i y v a c=>?_,V⟩
    have J:i < p.length:=by rw [← S]; exact (zqu.1 a).1
    have hz:p[i]?=some p[i]:=zqv J
    exact ((N i y _ a hz).rel (A i _ v hz c)).cut (Rg hn y (List.mem_of_getElem? a))
   | bld o' e=>
    obtain ⟨rfl,hn⟩:=f
    obtain ⟨b,Q,z,C,E,q,A⟩:=j
    have hc:Qe H2.length G o'=G o':=by simp [Qe,hn]
    exact ⟨b,Q,z,by rw [hc]; exact C,E,by rw [hc]; exact q,A⟩
   | buf e sz=>
    have : .buf e sz=x:=f
    subst this
    exact j
   | tok e sz=>
    have : .tok e sz=x:=f
    subst this
    exact j
   | map es=>
    have : .map es=x:=f
    subst this
    obtain ⟨b,ms,cl,z,C,E,q,A⟩:=j
    refine ⟨b,ms,cl,z,C,E,fun i k cs e a c=>⟨(q i k cs e a c).1,(q i k cs e a c).2.cut ?_⟩,A⟩
    have:∀ l:List D,W2 H2.length (l.map .d)=true:=fun l=>by
     induction l with
     | nil=>rfl
     | cons x r P=>simp [W2,W5,P]
    match cs with
    | []=>simp [Z1a,W5,W2]
    | [x]=>simp [Z1a,W5]
    | x::y::r=>simp only [Z1a,W5]; exact this _
 ·obtain ⟨y,R,f⟩:=h2 o x s
  obtain ⟨O,L,t⟩:=h2 o' x' B
  have hg:Qe H2.length G o=G o:=by simp [Qe,n s]
  have F:Qe H2.length G o'=G o':=by simp [Qe,n B]
  rw [hg] at hb
  rw [F] at u
  exact h.apart o o' y O b R L (m f hb) (m t u)
theorem E1n {G:Nat→Value}{H H2:N0}(f:WkH H2.length H H2){b:Nat}(h:own (Qe H2.length G) H2 b):own G H b:=by
 obtain ⟨o,x2,d,hb⟩:=h
 obtain ⟨_,h2⟩:=f.spec
 obtain ⟨x,e,c⟩:=h2 o x2 d
 have a:=(zqu.1 d).1
 have hg:Qe H2.length G o=G o:=by simp [Qe,a]
 rw [hg] at hb
 exact ⟨o,_,e,c.blk hb⟩
structure Wk (K:Nat)(env:Env)(H:N0)(L:List (Nat×A))(H2:N0):Prop where
 e:WkE H2.length env L
 h:WkH H2.length H H2
 k:Nat.ble K H2.length=true
theorem Wk.st {C:Cx}{N:FN}{K:Nat}{M:Mem}{G:Nat→Value}{w:World}{env:Env}{H:N0}{a:Act}{L:List (Nat×A)}{H2:N0}(b:Wk K env H L H2)(h:St C N M G w env H a) :
  St C N M (Qe H2.length G) w (Je L) H2 a:=
 ⟨h.good,h.gl,h.hrel.wk b.h,fun t=>((b.e.spec t).1.rel (h.env t)).cut (b.e.spec t).2,h.size,h.defers⟩
theorem Wk.since {fr:Fr}{K:Nat}{M:Mem}{G:Nat→Value}{w:World}{env:Env}{H:N0}{L:List (Nat×A)}{H2:N0}(c:Wk K env H L H2)(i:fr.H0.length=K)(h:Q2 fr M G w H) :
  Q2 fr M (Qe H2.length G) w H2:=by
 have g:=Nat.le_of_ble_eq_true c.k
 refine ⟨h.ext,fun b hb=>h.own b (E1n c.h hb),by omega,fun o x a ht=>?_,fun o x y a ht f=>?_⟩
 ·have e:=(zqu.1 a).1
  rw [show Qe H2.length G o=G o by simp [Qe]; omega]
  exact h.keep o x a ht
 ·obtain ⟨z,hz,d⟩:=c.h.spec.2 o y f
  exact d.isTok (h.kind o x _ a ht hz)
inductive Ex where
 | normal | exit (id:Nat) | ret
def Ex.to:Ex→Exit
 | .normal=>.normal
 | .exit id=>.exit id
 | .ret=>.ret
abbrev Po:=Ex→Env→N0→Prop
def Fin (F:Fx)(fr:Fr)(Q:Po):Exit→Act→World→Prop:=fun e a w=>
 (∃ x env H M G,e=Ex.to x∧Q x env H∧St F.C F.N M G w env H a∧Q2 fr M G w H)∨(∃ v env H M G,e = .panic [{ v:=v,recovered:=false }]∧F.pan v env H∧St F.C F.N M G w env H a∧Q2 fr M G w H)∨((e = .ret∨∃ ch,e = .panic ch)∧F.esc fr e a w)
def AEx (F:Fx)(c:Code)(env:Env)(H:N0)(Q:Po):Prop:=
 ∀ fr M G w a,fr.H0.length=F.K→St F.C F.N M G w env H a→Q2 fr M G w H→c.wp F.C.P (Fin F fr Q) a w
section
variable {F:Fx}{env:Env}{H:N0}{Q:Po}
def Then (F:Fx)(c:Code)(Q:Po):Po
 | .normal,e,h=>AEx F c e h Q
 | x,e,h=>Q x e h
def E19 (id:Nat)(Q:Po):Po
 | .exit i,e,h=>bif Nat.beq i id then Q .normal e h else Q (.exit i) e h
 | x,e,h=>Q x e h
theorem T1c {fr:Fr}:(∀ env' H' M' G' w' c,Q .normal env' H'→St F.C F.N M' G' w' env' H' c→Q2 fr M' G' w' H'→Fin F fr Q .normal c w')∧
  ∀ v env' H' M' G' w' c,F.pan v env' H'→St F.C F.N M' G' w' env' H' c→Q2 fr M' G' w' H'→Fin F fr Q (.panic [{ v:=v,recovered:=false }]) c w':=
 ⟨fun _ _ _ _ _ _ d b a=>.inl ⟨.normal,_,_,_,_,rfl,d,b,a⟩,fun v _ _ _ _ _ _ d b a=>.inr (.inl ⟨v,_,_,_,_,rfl,d,b,a⟩)⟩
theorem AEx.skip (h:Q .normal env H):AEx F .skip env H Q:=fun _ _ _ _ _ _ hs a=>wp_skip (.inl ⟨.normal,_,_,_,_,rfl,h,hs,a⟩)
theorem AEx.ret (h:Q .ret env H):AEx F .ret env H Q:=fun _ _ _ _ _ _ hs a=>wp_ret (.inl ⟨.ret,_,_,_,_,rfl,h,hs,a⟩)
theorem AEx.exit {id:Nat}(h:Q (.exit id) env H):AEx F (.exit id) env H Q:=fun _ _ _ _ _ _ hs a=>wp_exit (.inl ⟨.exit id,_,_,_,_,rfl,h,hs,a⟩)
theorem AEx.seq {a b:Code}(h:AEx F a env H (Then F b Q)):AEx F (.seq a b) env H Q:=by
 intro fr M G w g j hs i
 refine wp_seq (wp_mono (h fr M G w g j hs i) fun e l w' k=>?_)
 rcases k with ⟨x,env',H',M',G',rfl,d,f,c⟩ | ⟨v,env',H',M',G',rfl,d⟩ | ⟨rfl | ⟨m,rfl⟩,d⟩
 ·cases x with
  | normal=>exact d fr M' G' w' l j f c
  | exit id=>exact .inl ⟨.exit id,_,_,_,_,rfl,d,f,c⟩
  | ret=>exact .inl ⟨.ret,_,_,_,_,rfl,d,f,c⟩
 ·exact .inr (.inl ⟨v,_,_,_,_,rfl,d⟩)
 ·exact .inr (.inr ⟨.inl rfl,d⟩)
 ·exact .inr (.inr ⟨.inr ⟨_,rfl⟩,d⟩)
theorem AEx.block {id:Nat}{c:Code}(h:AEx F c env H (E19 id Q)):AEx F (.block id c) env H Q:=by
 intro fr M G w f k hs g
 refine wp_block (wp_mono (h fr M G w f k hs g) fun e m w' j=>?_)
 rcases j with ⟨x,env',H',M',G',rfl,b,d,a⟩ | ⟨v,env',H',M',G',rfl,b⟩ | ⟨rfl | ⟨l,rfl⟩,b⟩
 ·cases x with
  | normal=>exact .inl ⟨.normal,_,_,_,_,rfl,b,d,a⟩
  | exit i=>
   simp only [E19] at b
   simp only [Ex.to,Exit.inBlock]
   cases hb:Nat.beq i id with
   | true=>
    rw [hb] at b
    rw [zp (zqo hb)]
    exact .inl ⟨.normal,_,_,_,_,rfl,b,d,a⟩
   | false=>
    rw [hb] at b
    rw [zn (fun e=>by subst e; simp at hb)]
    exact .inl ⟨.exit i,_,_,_,_,rfl,b,d,a⟩
  | ret=>exact .inl ⟨.ret,_,_,_,_,rfl,b,d,a⟩
 ·exact .inr (.inl ⟨v,_,_,_,_,rfl,b⟩)
 ·exact .inr (.inr ⟨.inl rfl,b⟩)
 ·exact .inr (.inr ⟨.inr ⟨_,rfl⟩,b⟩)
theorem U1q {C:Cx}{N:FN}{M:Mem}{G:Nat→Value}{w:World}{a:Act}(hs:St C N M G w env H a){c:Operand}{t:Bool}(h:ev C.GL env c = .d (.bool t)):a.eval c = .bool t:=by
 have hr:=hs.eval c
 rw [h] at hr
 generalize a.eval c=v at hr
 cases hr; rename_i hr; cases hr; rfl
theorem AEx.cond {c:Operand}{x y:Code}{t:Bool}(hc:ev F.C.GL env c = .d (.bool t))(h1:t=true→AEx F x env H Q)(h2:t=false→AEx F y env H Q):AEx F (.cond c x y) env H Q:=by
 intro fr M G w b e hs a
 exact wp_cond_split (U1q hs hc) (fun ht=>h1 ht fr M G w b e hs a) (fun ht=>h2 ht fr M G w b e hs a)
def Eo (Q:Po):Env→N0→Prop:=Q .normal
theorem AEx.region {id:Nat}{L:List Oper}(c:L.all (X9 F.N)=true)(h:E0 F L L env H (Eo Q)):AEx F (.region id L.toArray false) env H Q:=by
 intro fr M G w b d hs a
 exact wp_region_lit (h fr M G w b _ d (List.all_eq_true.1 c) hs a T1c)
theorem AEx.wk {c:Code}{L:List (Nat×A)}{H2:N0}(e:Wk F.K env H L H2)(h:AEx F c (Je L) H2 Q):AEx F c env H Q:=by
 intro fr M G w b d hs a
 exact h fr M _ w b d (e.st hs) (e.since d a)
end
def Jo (P:Program)(f:FuncId):Bool:=
 match P.funcs[f]? with
 | some fn=>fn.body.isSome && !(fn.name == "runtime.NumGoroutine")
 | none=>false
def An (M:Mem)(G:Nat→Value)(w:World)(H:N0)(Q:A→N0→Prop):Ending→World→Prop:=fun e w'=>
 ∃ v r H' M' G',e = .returned v∧Q r H'∧L1 M' G' r v∧Good M' w'∧W9 M' G' w' H'∧Ext (own G H) M w M' w'∧(∀ b,own G' H' b→own G H b∨w.heap.size≤b)∧H.length≤H'.length∧
  ∀ (o:Nat) x,H[o]?=some x→isTok x=false→G' o=G o∧∀ y,H'[o]?=some y→isTok y=false
def L0 (C:Cx)(f:FuncId)(args:List A)(H:N0)(Q:A→N0→Prop):Prop:=
 Jo C.P f=true∧∀ M G w (vs:Array Value),Good M w→Sr C M w→W9 M G w H→args.length=vs.size→(∀ (i:Nat) x v,args[i]?=some x→vs[i]?=some v→L1 M G x v)→
  Calls C.P f vs w (An M G w H Q)
def Bt (args:List A):Env:=fun i=>match nth args i with | some x=>x | none=>.junk
def U1o (T:TT)(e:Env)(h:N0):ResultVar→Option A
 | .tmp t=>some (e t)
 | .cell a t=>match B4 T t with | some i=>He i (e a) h | none=>none
def F19 (T:TT)(e:Env)(h:N0):List ResultVar→Option (List A)
 | []=>some []
 | r::rs=>match U1o T e h r,F19 T e h rs with | some x,some xs=>some (x::xs) | _,_=>none
def D1b (T:TT)(rs:List ResultVar)(e:Env)(h:N0):Option A:=
 match F19 T e h rs with
 | some [x]=>some x
 | some xs=>some (.tup xs)
 | none=>none
def Kn (F:Fx)(rs:List ResultVar)(Q:A→N0→Prop):Po
 | .exit _,_,_=>False
 | _,e,h=>∃ r0 r H',D1b F.C.T rs e h=some r0∧LeA r r0∧WkH H'.length h H'∧W5 H'.length r=true∧Nat.ble F.K H'.length=true∧Q r H'
def E1j (a:Act):ResultVar→Sem Value
 | .tmp t=>pure (a.tmps.getD t undef)
 | .cell p t=>do loadVar t (← asAddr (a.tmps.getD p undef))
theorem A1x {C:Cx}(hC:F3 C){N:FN}{M:Mem}{G:Nat→Value}{w:World}{env:Env}{H:N0}{a:Act}(hs:St C N M G w env H a){r:ResultVar}{x:A}(h:U1o C.T env H r=some x) :
  ∃ v,(E1j a r).run C.P w = .ok v w∧L1 M G x v:=by
 cases r with
 | tmp t=>
  simp only [U1o,zqb] at h
  subst h
  exact ⟨_,rfl,hs.env t⟩
 | cell p t=>
  simp only [U1o] at h
  split at h
  ·rename_i i ht
   have hp:=hs.env p
   obtain ⟨v,h1,h2⟩:=C1j (P:=C.P) hC.tok hs.good hs.hrel ht hp h
   refine ⟨v,?_,h2⟩
   have key:∀ u:Value,(Instr.loadAt t u).run C.P w = .ok v w→((do loadVar t (← asAddr u)):Sem Value).run C.P w = .ok v w:=by
    intro u h1
    unfold Instr.loadAt Instr.sureAddr at h1
    cases u <;> try (simp at h1; done)
    rename_i b
    cases b with
    | none=>simp at h1
    | some b=>simpa [asAddr] using h1
   exact key _ h1
  ·cases h
theorem F1j {C:Cx}(hC:F3 C){N:FN}{M:Mem}{G:Nat→Value}{w:World}{env:Env}{H:N0}{a:Act}(hs:St C N M G w env H a):∀ {rs:List ResultVar} {xs:List A},F19 C.T env H rs=some xs→
  ∃ vs:List Value,(rs.mapM (E1j a)).run C.P w = .ok vs w∧xs.length=vs.length∧
   ∀ (i:Nat) x v,xs[i]?=some x→vs[i]?=some v→L1 M G x v
 | [],xs,h=>by
  simp only [F19,zqb] at h
  subst h
  exact ⟨[],rfl,rfl,fun i x v h=>by simp at h⟩
 | r::rs,xs,h=>by
  simp only [F19] at h
  split at h
  ·rename_i x ys g b
   simp only [zqb] at h
   subst h
   obtain ⟨v,h1,h2⟩:=A1x hC hs g
   obtain ⟨vs,f,e,j⟩:=F1j hC hs b
   refine ⟨v::vs,?_,by simp [e],fun i y u d c=>?_⟩
   ·rw [List.mapM_cons]
    simp only [Sem.run_bind,h1,Result.andThen_ok,f,Sem.run_pure]
   ·cases i with
    | zero=>simp at d c; subst d; subst c; exact h2
    | succ i=>exact j i y u (by simpa using d) (by simpa using c)
  ·cases h
theorem V1o {C:Cx}(hC:F3 C){N:FN}{M:Mem}{G:Nat→Value}{w:World}{env:Env}{H:N0}{a:Act}(hs:St C N M G w env H a){fn:Func}{x:A}(h:D1b C.T fn.results.toList env H=some x) :
  ∃ v,(results fn a.tmps).run C.P w = .ok v w∧L1 M G x v:=by
 unfold D1b at h
 have key:∀ {xs:List A},F19 C.T env H fn.results.toList=some xs→∃ vs:List Value,(results fn a.tmps).run C.P w = .ok (if h:vs.toArray.size=1 then vs.toArray[0] else .tuple vs.toArray) w∧xs.length=vs.length∧
   ∀ (i:Nat) x v,xs[i]?=some x→vs[i]?=some v→L1 M G x v:=by
  intro xs g
  obtain ⟨vs,h1,h2,b⟩:=F1j hC hs g
  refine ⟨vs,?_,h2,b⟩
  have e:results fn a.tmps=(do let vs ← fn.results.mapM (E1j a); pure (if h:vs.size=1 then vs[0] else .tuple vs)):=rfl
  rw [e,Array.mapM_eq_mapM_toList]
  simp only [Sem.run_bind,Sem.run_map,h1,Result.andThen_ok,Sem.run_pure]
 split at h
 ·rename_i y f
  simp only [zqb] at h
  subst h
  obtain ⟨vs,h1,h2,b⟩:=key f
  obtain ⟨v,rfl⟩:∃ v,vs=[v]:=List.length_eq_one_iff.1 h2.symm
  exact ⟨v,h1,b 0 _ v rfl rfl⟩
 ·rename_i xs d c
  simp only [zqb] at h
  subst h
  obtain ⟨vs,h1,h2,b⟩:=key c
  refine ⟨.tuple vs.toArray,?_,.tup (by simpa using h2) fun i x v g hv=>b i x v g (by simpa using hv)⟩
  rw [h1]
  rw [dif_neg]
  intro e
  have e':xs.length=1:=by rw [h2]; simpa using e
  obtain ⟨y,f⟩:=List.length_eq_one_iff.1 e'
  exact d y f
 ·cases h
def B1x (M:Mem)(G:Nat→Value)(w:World)(H:N0)(P:Value→N0→Prop):Ending→World→Prop:=fun e w'=>
 ∃ v H' M' G',e = .panicked [{ v:=v,recovered:=false }]∧P v H'∧Good M' w'∧W9 M' G' w' H'∧Ext (own G H) M w M' w'∧(∀ b,own G' H' b→own G H b∨w.heap.size≤b)∧H.length≤H'.length∧
  ∀ (o:Nat) x,H[o]?=some x→isTok x=false→G' o=G o∧∀ y,H'[o]?=some y→isTok y=false
def F2 (C:Cx)(f:FuncId)(args:List A)(H:N0)(Q:A→N0→Prop)(P:Value→N0→Prop):Prop:=
 Jo C.P f=true∧∀ M G w (vs:Array Value),Good M w→Sr C M w→W9 M G w H→args.length=vs.size→(∀ (i:Nat) x v,args[i]?=some x→vs[i]?=some v→L1 M G x v)→
  Calls C.P f vs w (fun e w'=>An M G w H Q e w'∨B1x M G w H P e w')
def G19 (K:Nat)(P:Value→N0→Prop):Value→Env→N0→Prop:=fun v _ h=>∃ H',WkH H'.length h H'∧Nat.ble K H'.length=true∧P v H'
theorem F1n {M M':Mem}{G G':Nat→Value}{w w':World}{H H' H2:N0}(hg:Good M' w')(h:W9 M' G' w' H')(a:Q2 ⟨H,G,M,w⟩ M' G' w' H')(h2:WkH H2.length H' H2)(f:Nat.ble H.length H2.length=true) :
  Good M' w'∧W9 M' (Qe H2.length G') w' H2∧Ext (own G H) M w M' w'∧(∀ b,own (Qe H2.length G') H2 b→own G H b∨w.heap.size≤b)∧H.length≤H2.length∧
   ∀ (o:Nat) x,H[o]?=some x→isTok x=false→Qe H2.length G' o=G o∧∀ y,H2[o]?=some y→isTok y=false:=by
 refine ⟨hg,h.wk h2,a.ext,fun b hb=>a.own b (E1n h2 hb),Nat.le_of_ble_eq_true f,fun o x c ht=>?_⟩
 have g:=(zqu.1 c).1
 have e:=Nat.le_of_ble_eq_true f
 refine ⟨?_,fun y i=>?_⟩
 ·rw [show Qe H2.length G' o=G' o by simp [Qe]; omega]
  exact a.keep o x c ht
 ·obtain ⟨z,hz,d⟩:=h2.spec.2 o y i
  exact d.isTok (a.kind o x _ c ht hz)
theorem Ct {F:Fx}(hC:F3 F.C){N:FN}{fn:Func}{H:N0}{Q:A→N0→Prop}{M M':Mem}{G G':Nat→Value}{w w':World}{env':Env}{H':N0}{j:Act}(m:F.K=H.length)(b:St F.C N M' G' w' env' H' j)(f:Q2 ⟨H,G,M,w⟩ M' G' w' H')
  {x:Ex} (i:Kn F fn.results.toList Q x env' H'):∃ v,(results fn j.tmps).run F.C.P w' = .ok v w'∧An M G w H Q (.returned v) w':=by
 have h:∀ (c r:A) (H2:N0),D1b F.C.T fn.results.toList env' H'=some c→LeA r c→WkH H2.length H' H2→W5 H2.length r=true→Nat.ble F.K H2.length=true→Q r H2→
   ∃ v,(results fn j.tmps).run F.C.P w' = .ok v w'∧An M G w H Q (.returned v) w':=by
  intro c r H2 h1 a h2 e d g
  obtain ⟨v,k,l⟩:=V1o hC b h1
  exact ⟨v,k,v,r,H2,M',Qe H2.length G',rfl,g,(a.rel l).cut e,F1n b.good b.hrel f h2 (m ▸ d)⟩
 cases x with
 | normal=>obtain ⟨c,r,H2,h1,a,h2,e,d,g⟩:=i; exact h c r H2 h1 a h2 e d g
 | ret=>obtain ⟨c,r,H2,h1,a,h2,e,d,g⟩:=i; exact h c r H2 h1 a h2 e d g
 | exit id=>exact i.elim
theorem L1g {C:Cx}(hC:F3 C){f:FuncId}{fn:Func}{c:Code}{args:List A}{H:N0}{Q:A→N0→Prop}{P:Value→N0→Prop}{pn:Value→Env→N0→Prop}(k:∀ v e h,pn v e h→G19 H.length P v e h)(hf:C.P.funcs[f]?=some fn)
  (hn:(fn.name == "runtime.NumGoroutine")=false) (hb:fn.body=some c)
  (ha:Nat.ble args.length fn.ntmps=true) (h:AEx ⟨C,⟨fn.ntmps,[]⟩,H.length,pn,Uj⟩ c (Bt args) H (Kn ⟨C,⟨fn.ntmps,[]⟩,H.length,pn,Uj⟩ fn.results.toList Q)):F2 C f args H Q P:=by
 refine ⟨by simp [Jo,hf,hb,hn],fun M G w vs hg l r hl hr=>?_⟩
 have s:=Nat.le_of_ble_eq_true ha
 have hs:St C ⟨fn.ntmps,[]⟩ M G w (Bt args) H { tmps:=vs++Array.replicate (fn.ntmps - vs.size) undef,defers:=[] }:=by
  refine ⟨hg,l,r,fun t=>?_,by simp; omega,rfl⟩
  unfold Bt
  cases j:nth args t with
  | none=>exact .junk
  | some x=>
   rw [Q3] at j
   have i:t < vs.size:=by rw [← hl]; exact (zqu.1 j).1
   have hv:vs[t]?=some vs[t]:=Array.getElem?_eq_getElem i
   have:(vs++Array.replicate (fn.ntmps - vs.size) undef).getD t undef=vs[t]:=by
    simp [Array.getD_eq_getD_getElem?,Array.getElem?_append,i]
   rw [this]
   exact hr t x _ j hv
 have m:Q2 ⟨H,G,M,w⟩ M G w H:=⟨Ext.refl _ _ _,fun b hb=>.inl hb,zqr _,fun _ _ _ _=>rfl,fun o x y j ht n=>by rw [j] at n; exact Option.some.inj n ▸ ht⟩
 refine calls_of_wp hf hb (wp_mono (h ⟨H,G,M,w⟩ M G w _ rfl hs m) fun e z w' p=>?_)
 rcases p with ⟨x,env',H',M',G',rfl,g,a,d⟩ | ⟨v,env',H',M',G',rfl,g,a,d⟩ | ⟨_,g⟩
 case inr.inr=>exact g.elim
 ·have hp:=Ct (F:=⟨C,⟨fn.ntmps,[]⟩,H.length,pn,Uj⟩) hC rfl a d g
  cases x with
  | normal=>obtain ⟨v,h1,h2⟩:=hp; exact ⟨a.defers,v,h1,.inl h2⟩
  | ret=>obtain ⟨v,h1,h2⟩:=hp; exact ⟨a.defers,v,h1,.inl h2⟩
  | exit id=>exact g.elim
 ·obtain ⟨H2,h2,q,u⟩:=k _ _ _ g
  exact ⟨a.defers,.inr ⟨v,H2,M',Qe H2.length G',rfl,u,F1n a.good a.hrel d h2 q⟩⟩
theorem L0.intro {C:Cx}(hC:F3 C){f:FuncId}{fn:Func}{c:Code}{args:List A}{H:N0}{Q:A→N0→Prop}(hf:C.P.funcs[f]?=some fn)(hn:(fn.name == "runtime.NumGoroutine")=false)(hb:fn.body=some c)
  (ha:Nat.ble args.length fn.ntmps=true) (h:AEx (fx C fn.ntmps H.length) c (Bt args) H (Kn (fx C fn.ntmps H.length) fn.results.toList Q)):L0 C f args H Q:=by
 obtain ⟨h1,h2⟩:=L1g (P:=noP) (pn:=Mp) hC (fun _ _ _ h=>h.elim) hf hn hb ha h
 exact ⟨h1,fun M G w vs a b c d e=>(h2 M G w vs a b c d e).mono fun e w' h=>h.resolve_right fun ⟨_,_,_,_,_,h,_⟩=>h.elim⟩
theorem F2.intro {C:Cx}(hC:F3 C){f:FuncId}{fn:Func}{c:Code}{args:List A}{H:N0}{Q:A→N0→Prop}{P:Value→N0→Prop}(hf:C.P.funcs[f]?=some fn)(hn:(fn.name == "runtime.NumGoroutine")=false)(hb:fn.body=some c)
  (ha:Nat.ble args.length fn.ntmps=true) (h:AEx ⟨C,⟨fn.ntmps,[]⟩,H.length,G19 H.length P,Uj⟩ c (Bt args) H (Kn ⟨C,⟨fn.ntmps,[]⟩,H.length,G19 H.length P,Uj⟩ fn.results.toList Q)):F2 C f args H Q P:=
 L1g hC (fun _ _ _ h=>h) hf hn hb ha h
theorem G1j {P:Program}{ρ:Operand→Value}{o:Oper}{d:Operand}{e:Array Operand}{g:Array TypeId}{f:FuncId}{caps:Array Value}(h:o.op = .call { callee:=.value d,args:=e,argTypes:=g })
  (hf:ρ d = .func (.func f) #[] caps) (hk:Jo P f=true) (w:World):(execOp ρ o).run P w = .ok (.enter f (e.map ρ++caps)) w:=by
 unfold Jo at hk
 split at hk
 ·rename_i fn b
  simp only [zqi,Bool.not_eq_true'] at hk
  obtain ⟨c,hc⟩:=Option.isSome_iff_exists.1 hk.1
  unfold execOp
  have a:¬ fn.name = "runtime.NumGoroutine":=by simpa using hk.2
  simp [h,resolve,hf,Deferred.ofValue,invoke,callFunc,b,a,hc]
 ·cases hk
theorem V1q {P:Program}{o:Oper}{d:Operand}{e:Array Operand}{g:Array TypeId}{ρ:Operand→Value}{f:FuncId}{fs:Array Value}(h:o.op = .call { callee:=.value d,args:=e,argTypes:=g })
  (hf:ρ d = .func (.func f) fs #[]) (hk:Jo P f=true) (w:World):(execOp ρ o).run P w = .ok (.enter f (fs++e.map ρ)) w:=by
 unfold Jo at hk
 split at hk
 ·rename_i fn b
  simp only [zqi,Bool.not_eq_true'] at hk
  obtain ⟨c,hc⟩:=Option.isSome_iff_exists.1 hk.1
  unfold execOp
  have a:¬ fn.name = "runtime.NumGoroutine":=by simpa using hk.2
  simp [h,resolve,hf,Deferred.ofValue,invoke,callFunc,b,a,hc]
 ·cases hk
def Vf (GL:GT)(env:Env)(o:Oper):Option (FuncId×List A):=
 match o.op with
 | .call { callee:=.value fo,args,.. }=>match ev GL env fo with
  | .clo f caps=>some (f,args.toList.map (ev GL env)++caps)
  | .bnd f first=>some (f,first++args.toList.map (ev GL env))
  | .d (.fn (some f))=>some (f,args.toList.map (ev GL env))
  | _=>none
 | _=>none
theorem Oz {C:Cx}{env:Env}{o:Oper}{f:FuncId}{xs:List A}(h:Vf C.GL env o=some (f,xs)){M:Mem}{G:Nat→Value}{ρ:Operand→Value}(c:∀ y∈o.op.operands,L1 M G (ev C.GL env y) (ρ y))(hk:Jo C.P f=true) :
  ∃ vs:Array Value,(∀ w,(execOp ρ o).run C.P w = .ok (.enter f vs) w)∧xs.length=vs.size∧∀ (i:Nat) x v,xs[i]?=some x→vs[i]?=some v→L1 M G x v:=by
 unfold Vf at h
 split at h
 ·rename_i d b k e
  rw [e] at c
  split at h
  ·rename_i g caps hg
   simp only [zqb,zqh] at h
   obtain ⟨rfl,rfl⟩:=h
   have h1:=c d (by simp [Op.operands,Call.operands])
   rw [hg] at h1
   generalize hfv:ρ d=fv at h1
   cases h1
   rename_i j hl hr
   refine ⟨b.map ρ++j,G1j e hfv hk,by simp [hl],fun i x v a hv=>?_⟩
   by_cases hi:i < b.size
   ·rw [zqx (by simpa using hi),List.getElem?_map] at a
    rw [Array.getElem?_append_left (by simpa using hi),Array.getElem?_map] at hv
    cases ha:b[i]? with
    | none=>rw [ha] at hv; cases hv
    | some y=>
     rw [ha] at hv
     rw [Array.getElem?_toList,ha] at a
     simp only [zqt,zqb] at a hv
     subst a; subst hv
     exact c y (by simp only [Op.operands,Call.operands,Array.mem_append]; exact .inr (Array.mem_of_getElem? ha))
   ·rw [List.getElem?_append_right (by simp; omega)] at a
    rw [Array.getElem?_append_right (by simp; omega)] at hv
    simp only [List.length_map,Array.length_toList,Array.size_map] at a hv
    exact hr _ x v a hv
  ·rename_i g first hg
   simp only [zqb,zqh] at h
   obtain ⟨rfl,rfl⟩:=h
   have h1:=c d (by simp [Op.operands,Call.operands])
   rw [hg] at h1
   generalize hfv:ρ d=fv at h1
   cases h1
   rename_i j hl hr
   refine ⟨j++b.map ρ,V1q e hfv hk,by simp [hl],fun i x v a hv=>?_⟩
   by_cases hi:i < first.length
   ·rw [zqx hi] at a
    rw [Array.getElem?_append_left (by omega)] at hv
    exact hr _ x v a hv
   ·rw [List.getElem?_append_right (by omega),List.getElem?_map] at a
    rw [Array.getElem?_append_right (by omega),Array.getElem?_map,← hl] at hv
    cases ha:b[i - first.length]? with
    | none=>rw [ha] at hv; cases hv
    | some y=>
     rw [ha] at hv
     rw [Array.getElem?_toList,ha] at a
     simp only [zqt,zqb] at a hv
     subst a; subst hv
     exact c y (by simp only [Op.operands,Call.operands,Array.mem_append]; exact .inr (Array.mem_of_getElem? ha))
  ·rename_i g hg
   simp only [zqb,zqh] at h
   obtain ⟨rfl,rfl⟩:=h
   have h1:=c d (by simp [Op.operands,Call.operands])
   rw [hg] at h1
   generalize hfv:ρ d=fv at h1
   cases h1
   rename_i h1
   cases h1
   refine ⟨b.map ρ ++ #[],G1j e hfv hk,by simp,fun i x v a hv=>?_⟩
   rw [Array.append_empty,Array.getElem?_map] at hv
   rw [List.getElem?_map] at a
   cases ha:b[i]? with
   | none=>rw [ha] at hv; cases hv
   | some y=>
    rw [ha] at hv
    rw [Array.getElem?_toList,ha] at a
    simp only [zqt,zqb] at a hv
    subst a; subst hv
    exact c y (by simp only [Op.operands,Call.operands,Array.mem_append]; exact .inr (Array.mem_of_getElem? ha))
  ·cases h
 ·cases h
theorem L1.bare {M:Mem}{G G':Nat→Value}{x:A}{v:Value}(h:L1 M G x v)(hn:W5 0 x=true):L1 M G' x v:=
 h.mono (fun _ _ e=>e) fun o a=>absurd (B17 hn a) (by omega)
theorem U1c {C:Cx}{f:FuncId}{xs:List A}(hn:W2 0 xs=true){d:A→Prop}(hc:L0 C f xs [] (fun r H'=>H'=[]∧d r)){M:Mem}{G:Nat→Value}{w:World}(hg:Good M w)(a:Sr C M w){vs:Array Value}
  (hl:xs.length=vs.size) (hr:∀ (i:Nat) x v,xs[i]?=some x→vs[i]?=some v→L1 M G x v):Calls C.P f vs w fun e w'=>∃ v r M',e = .returned v∧d r∧(∀ G',L1 M' G' r v)∧Good M' w'∧Ext C9 M w M' w':=by
 refine (hc.2 M (fun _=>.tuple #[]) w vs hg a (W9.nil _ _) hl fun i x v g hv=>(hr i x v g hv).bare (Rg hn x (List.mem_of_getElem? g))).mono fun e w' j=>?_
 obtain ⟨v,r,H',M',G',rfl,⟨rfl,h⟩,h1,h2,m,l,_,_,_⟩:=j
 refine ⟨v,r,M',rfl,h,fun k=>h1.mono (fun _ _ e=>e) fun o c=>absurd (m.fresh o (Nat.zero_le _)) (h1.names c),h2,l.weaken fun b hb=>?_⟩
 obtain ⟨o,x,c,_⟩:=hb
 simp at c
theorem Pz {C:Cx}{o:Oper}{env:Env}{H:N0}{f:FuncId}{xs:List A}{x:A}(ha:Vf C.GL env o=some (f,xs))(hn:W2 0 xs=true)(hc:L0 C f xs [] (fun r H'=>H'=[]∧r=x)):Xb C o env H x:=by
 intro M G w a next m i j b l hk
 obtain ⟨vs,h1,h2,k⟩:=Oz ha i hc.1
 unfold Oper.wp
 rw [h1 w]
 refine (U1c hn hc j b h2 k).mono fun e w' c=>?_
 obtain ⟨v,r,M',rfl,rfl,g,h,d⟩:=c
 exact hk v M' w' (g G) h d
theorem E0.call {F:Fx}{L l:List Oper}{o:Oper}{env:Env}{H:N0}{Q:Env→N0→Prop}{f:FuncId}{xs:List A}{x:A}(a:Z1 L env o=some true)(ha:Vf F.C.GL env o=some (f,xs))(hn:W2 0 xs=true)
  (hc:L0 F.C f xs [] (fun r H'=>H'=[]∧r=x)) (k:E0 F L l (put env o.dst x) H Q):E0 F L (o::l) env H Q:=.yields a (Pz ha hn hc) k
def Pi:List A→Option (List A)
 | []=>some []
 | x::r=>match Pi r with | some r'=>some (x::r') | none=>none
theorem Zk:∀ {l l':List A},Pi l=some l'→l'=l
 | [],l',h=>by simp [Pi] at h; exact h
 | x::r,l',h=>by
  simp only [Pi] at h
  split at h
  ·rename_i a hr
   simp only [zqb] at h
   rw [← h,Zk hr]
  ·cases h
def E1b:List D→Option (List D)
 | []=>some []
 | x::r=>match E1b r with | some r'=>some (x::r') | none=>none
theorem G1n:∀ {l l':List D},E1b l=some l'→l'=l
 | [],l',h=>by simp [E1b] at h; exact h
 | x::r,l',h=>by
  simp only [E1b] at h
  split at h
  ·rename_i a hr
   simp only [zqb] at h
   rw [← h,G1n hr]
  ·cases h
def frc:A→Option A
 | .d (.bool b)=>some (.d (.bool b))
 | .d (.int k n)=>some (.d (.int k n))
 | .d (.str s)=>some (.d (.str s))
 | .d (.sl r)=>some (.d (.sl r))
 | .d (.nilv k)=>some (.d (.nilv k))
 | .d (.box c)=>some (.d (.box c))
 | .d (.bxo c)=>some (.d (.bxo c))
 | .d (.mp e)=>some (.d (.mp e))
 | .d (.fn e)=>some (.d (.fn e))
 | .junk=>some .junk
 | .ref o k=>some (.ref o k)
 | .ptr cs=>match E1b cs with | some cs'=>some (.ptr cs') | none=>none
 | .full r=>some (.full r)
 | .osl o r=>some (.osl o r)
 | .rsl a b c e=>some (.rsl a b c e)
 | .clo f cs=>match Pi cs with | some cs'=>some (.clo f cs') | none=>none
 | .bnd f cs=>match Pi cs with | some cs'=>some (.bnd f cs') | none=>none
 | .agg cs=>match Pi cs with | some cs'=>some (.agg cs') | none=>none
 | .tup cs=>match Pi cs with | some cs'=>some (.tup cs') | none=>none
 | .mp o=>some (.mp o)
theorem Dt {x y:A}(h:frc x=some y):y=x:=by
 unfold frc at h
 split at h <;> first
  | (simp only [zqb] at h; exact h.symm)
  | (split at h
     ·rename_i a hc
      simp only [zqb] at h
      first | rw [← h,Zk hc] | rw [← h,G1n hc]
     ·cases h)
def Cg (C:Cx)(L:List Oper)(o:Oper)(env:Env)(H:N0):Option (Option Nat×Prop×A):=
 match Z1 L env o with
 | some true=>match opA C.T C.GL o.op env H with
  | some (c,x)=>match frc x with
   | some y=>match o.dst with
    | some t=>some (some t,c,y)
    | none=>some (none,c,y)
   | none=>none
  | none=>none
 | some false=>match o.dst with
  | some t=>some (some t,True,.tup [])
  | none=>some (none,True,.tup [])
 | none=>none
theorem E0.q {F:Fx}(hC:F3 F.C){L l:List Oper}{o:Oper}{env:Env}{H:N0}{Q:Env→N0→Prop}{d:Option Nat}{c:Prop}{x:A}(h:Cg F.C L o env H=some (d,c,x))(hc:c)
  (k:E0 F L l (put env d x) H Q):E0 F L (o::l) env H Q:=by
 unfold Cg at h
 split at h
 ·rename_i b
  split at h
  ·rename_i c' x' e
   split at h
   ·rename_i y f
    have a:=Dt f
    subst a
    have:o.dst=d∧c'=c∧y=x:=by
     split at h
     ·rename_i t ht
      simp only [zqb,zqh] at h
      exact ⟨ht.trans h.1,h.2.1,h.2.2⟩
     ·rename_i ht
      simp only [zqb,zqh] at h
      exact ⟨ht.trans h.1,h.2.1,h.2.2⟩
    obtain ⟨rfl,rfl,rfl⟩:=this
    exact .op hC b e hc k
   ·cases h
  ·cases h
 ·rename_i b
  have:o.dst=d∧A.tup []=x:=by
   split at h
   ·rename_i t ht
    simp only [zqb,zqh] at h
    exact ⟨ht.trans h.1,h.2.2⟩
   ·rename_i ht
    simp only [zqb,zqh] at h
    exact ⟨ht.trans h.1,h.2.2⟩
  obtain ⟨rfl,rfl⟩:=this
  exact .skip b k
 ·cases h
def Rv:N0→Ob→Option (Nat×N0)
 | [],x=>some (0,[x])
 | y::r,x=>match Rv r x with | some (n,r')=>some (n+1,y::r') | none=>none
theorem Tr:∀ {H:N0} {x:Ob} {n:Nat} {H':N0},Rv H x=some (n,H')→n=H.length∧H'=H++[x]
 | [],x,n,H',h=>by simp [Rv] at h; exact ⟨h.1.symm,h.2.symm⟩
 | y::r,x,n,H',h=>by
  simp only [Rv] at h
  split at h
  ·rename_i m c hr
   simp only [zqb,zqh] at h
   obtain ⟨b,a⟩:=Tr hr
   rw [← h.1,← h.2,b,a]
   exact ⟨rfl,rfl⟩
  ·cases h
def Zc (o:Oper):Option (Option Nat):=match o.dst with | some t=>some (some t) | none=>some none
theorem W8 {o:Oper}{d:Option Nat}(h:Zc o=some d):o.dst=d:=by
 unfold Zc at h
 split at h
 ·rename_i t ht; simp only [zqb] at h; exact ht.trans h
 ·rename_i ht; simp only [zqb] at h; exact ht.trans h
def K1w (C:Cx)(L:List Oper)(o:Oper)(env:Env)(H:N0):Option (Option Nat×Nat×N0):=
 match Z1 L env o,o.op with
 | some true,.alloc t=>match B4 C.T t with
  | some i=>match Pi (i.zero.map .d) with
   | some cs=>match Rv H (.row cs t),Zc o with | some (n,H'),some d=>some (d,n,H') | _,_=>none
   | none=>none
  | none=>none
 | some true,.box t y=>match Yc (ev C.GL env y) with
  | some cs0=>match Pi cs0 with
   | some cs=>match Rv H (.row cs t),Zc o with | some (n,H'),some d=>some (d,n,H') | _,_=>none
   | none=>none
  | none=>none
 | _,_=>none
theorem E0.n {F:Fx}(hC:F3 F.C){L l:List Oper}{o:Oper}{env:Env}{H H':N0}{Q:Env→N0→Prop}{d:Option Nat}{n:Nat}(h:K1w F.C L o env H=some (d,n,H'))
  (k:E0 F L l (put env d (.ref n 0)) H' Q):E0 F L (o::l) env H Q:=by
 unfold K1w at h
 split at h
 ·rename_i t e c
  split at h
  ·rename_i i ht
   split at h
   ·rename_i cs a
    split at h
    ·rename_i n' H2 g hp f
     simp only [zqb,zqh] at h
     obtain ⟨rfl,rfl,rfl⟩:=h
     obtain ⟨rfl,rfl⟩:=Tr hp
     have:=Zk a
     subst this
     refine .alloc hC e c ht ?_
     rw [W8 f]
     exact k
    ·cases h
   ·cases h
  ·cases h
 ·rename_i t y e c
  split at h
  ·rename_i j b
   split at h
   ·rename_i cs a
    split at h
    ·rename_i n' H2 g hp f
     simp only [zqb,zqh] at h
     obtain ⟨rfl,rfl,rfl⟩:=h
     obtain ⟨rfl,rfl⟩:=Tr hp
     have:=Zk a
     subst this
     refine .box e c b ?_
     rw [W8 f]
     exact k
    ·cases h
   ·cases h
  ·cases h
 ·cases h
def Mu:List A→Nat→List A→Option (List A)
 | c,0,[]=>Pi c
 | _::c,0,x::xs=>match Mu c 0 xs with | some r=>some (x::r) | none=>none
 | c::cs,n+1,xs=>match Mu cs n xs with | some r=>some (c::r) | none=>none
 | [],_,_=>some []
theorem H19:∀ {c:List A} {n:Nat} {xs r:List A},Mu c n xs=some r→r=Ff c n xs
 | [],0,[],r,h=>by simp [Mu,Pi] at h; rw [h]; rfl
 | [],0,_::_,r,h=>by simp [Mu] at h; rw [h]; rfl
 | [],_+1,[],r,h=>by simp [Mu] at h; rw [h]; rfl
 | [],_+1,_::_,r,h=>by simp [Mu] at h; rw [h]; rfl
 | c::cs,0,[],r,h=>by simp only [Mu] at h; rw [Zk h]; rfl
 | c::cs,0,x::xs,r,h=>by
  simp only [Mu] at h
  split at h
  ·rename_i a hr
   simp only [zqb] at h
   rw [← h,H19 hr]
   rfl
  ·cases h
 | c::cs,n+1,xs,r,h=>by
  simp only [Mu] at h
  split at h
  ·rename_i a hr
   simp only [zqb] at h
   rw [← h,H19 hr]
   rfl
  ·cases h
def Np:N0→Nat→Ob→Option N0
 | [],_,_=>some []
 | _::r,0,x=>some (x::r)
 | y::r,n+1,x=>match Np r n x with | some r'=>some (y::r') | none=>none
theorem C13:∀ {H:N0} {n:Nat} {x:Ob} {r:N0},Np H n x=some r→r=Wc H n x
 | [],n,x,r,h=>by simp [Np] at h; rw [h]; rfl
 | y::H,0,x,r,h=>by simp [Np] at h; rw [← h]; rfl
 | y::H,n+1,x,r,h=>by
  simp only [Np] at h
  split at h
  ·rename_i a hr
   simp only [zqb] at h
   rw [← h,C13 hr]
   rfl
  ·cases h
def Pp (C:Cx)(L:List Oper)(o:Oper)(env:Env)(H:N0):Option N0:=
 match Z1 L env o,o.op,o.dst with
 | some true,.store t x y,none=>match B4 C.T t,ev C.GL env x,Yc (ev C.GL env y) with
  | some i,.ref p off,some xs=>match nth H p with
   | some (.row cells e)=>bif Nat.beq xs.length i.size&&Nat.ble (off+i.size) cells.length then (match Mu cells off xs with | some cs=>Np H p (.row cs e) | none=>none) else none
   | _=>none
  | _,_,_=>none
 | _,_,_=>none
theorem E0.s {F:Fx}(hC:F3 F.C){L l:List Oper}{o:Oper}{env:Env}{H H':N0}{Q:Env→N0→Prop}(h:Pp F.C L o env H=some H')
  (k:E0 F L l env H' Q):E0 F L (o::l) env H Q:=by
 unfold Pp at h
 split at h
 ·rename_i t x y g f m
  split at h
  ·rename_i i p off xs ht n b
   split at h
   ·rename_i cells e hn
    cases hb:Nat.beq xs.length i.size&&Nat.ble (off+i.size) cells.length with
    | false=>rw [hb] at h; cases h
    | true=>
     rw [hb] at h
     simp only [zqk] at h
     split at h
     ·rename_i cs a
      have j:=H19 a
      have d:=C13 h
      subst j
      subst d
      have c:R1c i (ev F.C.GL env x) (ev F.C.GL env y) H=some (p,Ff cells off xs,e):=by
       unfold R1c
       rw [n,b]
       simp only [hn,hb,zqk]
      refine .store hC g f ht c ?_
      rw [m]
      exact k
     ·cases h
   ·cases h
  ·cases h
 ·cases h
def Ke (C:Cx)(L:List Oper)(o:Oper)(env:Env):Option (Option Nat×FuncId×List A):=
 match Z1 L env o,Vf C.GL env o with
 | some true,some (f,xs)=>match Pi xs,Zc o with | some ys,some d=>some (d,f,ys) | _,_=>none
 | _,_=>none
theorem Qp {C:Cx}{L:List Oper}{o:Oper}{env:Env}{d:Option Nat}{f:FuncId}{xs:List A}(h:Ke C L o env=some (d,f,xs)):Z1 L env o=some true∧Vf C.GL env o=some (f,xs)∧o.dst=d:=by
 unfold Ke at h
 split at h
 ·rename_i g ys b hc
  split at h
  ·rename_i zs c hz a
   simp only [zqb,zqh] at h
   obtain ⟨rfl,rfl,rfl⟩:=h
   rw [Zk hz]
   exact ⟨b,hc,W8 a⟩
  ·cases h
 ·cases h
theorem E0.c {F:Fx}{L l:List Oper}{o:Oper}{env:Env}{H:N0}{Q:Env→N0→Prop}{d:Option Nat}{f:FuncId}{xs:List A}{x:A}(h:Ke F.C L o env=some (d,f,xs))(hn:W2 0 xs=true)
  (hc:L0 F.C f xs [] (fun r H'=>H'=[]∧r=x)) (k:E0 F L l (put env d x) H Q):E0 F L (o::l) env H Q:=by
 obtain ⟨h1,h2,rfl⟩:=Qp h
 exact .call h1 h2 hn hc k
def Sv (C:Cx)(L:List Oper)(o:Oper)(env:Env):Option (Option Nat×List (List D)×Int×Nat):=
 match Z1 L env o,o.op with
 | some true,.indexAddr t x y=>match B4 C.T t,ev C.GL env y,Mw (ev C.GL env x),Zc o with
  | some i,.d (.int _ n),some rows,some d=>match i.u with
   | .sl e=>match B4 C.T e with | some j=>some (d,rows,n,j.size) | none=>none
   | _=>none
  | _,_,_,_=>none
 | _,_=>none
theorem C1x {M:Mem}{G:Nat→Value}{rows:List Row}{v:Value}(h:W4 M (.sl rows) v){k:Nat}{r:Row}(hk:rows[k]?=some r) :
  ∃ a cap,v = .slice (some a) rows.length cap∧L1 M G (.ptr r) (.pointer (some (a.add (k * r.length)))):=by
 cases h with
 | slnil=>simp at hk
 | sl sz T1 hl hc hm hs hz h1 h2=>
  rename_i a len cap
  have hs:a.spot=none:=by
   rcases hs with h0 | h0
   ·have:=(zqu.1 hk).1; omega
   ·exact h0
  refine ⟨a,cap,by rw [hl],?_⟩
  rw [hz k r hk]
  refine .ptr (fun j=>T1 k j) (by rw [K15 hs]) (fun j x b=>?_) fun j x b=>h2 k j r x hk b
  rw [Z16]
  exact h1 k j r x hk b
theorem Rp {C:Cx}(hC:F3 C){L:List Oper}{o:Oper}{env:Env}{H:N0}{d:Option Nat}{rows:List (List D)}{n:Int}{sz:Nat}(h:Sv C L o env=some (d,rows,n,sz)){k:Nat}{r:List D}(hn:n=k)
  (hk:rows[k]?=some r) (p:Nat.beq r.length sz=true):Xb C o env H (.ptr r):=by
 intro M G w a next K q F B J l
 unfold Sv at h
 split at h
 ·rename_i t x y O s
  rw [s] at q
  split at h
  ·rename_i i kd m b N ht E hr Q
   split at h
   ·rename_i e z
    split at h
    ·rename_i j u
     simp only [zqb,zqh] at h
     obtain ⟨rfl,rfl,rfl,rfl⟩:=h
     have I:=q x (by simp [Op.operands])
     have c:=q y (by simp [Op.operands])
     rw [E] at c
     generalize hyv:a.eval y=yv at c
     cases c; rename_i c; cases c
     obtain ⟨A,cap,hv,hp⟩:=C1x (G:=G) (Tj hr I) hk
     have v:k < b.length:=(zqu.1 hk).1
     have f:=zqo p
     have g:=Io (hC.tok.facts ht) z
     unfold Oper.wp execOp
     have:(Instr.indexAt t (a.eval x) (.int kd m)).run C.P w = .ok (.pointer (some (A.add (k * r.length)))) w:=by
      have hc:0≤m∧m < (b.length:Int):=by omega
      have hm:m.toNat=k:=by omega
      simp [Instr.indexAt,Rr,run_underlying g,hv,hc,Mh (hC.tok.facts u) w,f,hm]
     simp only [s,hyv,Sem.run_bind,this,Result.andThen_ok,Sem.run_pure,Oper.upon_value]
     exact l _ M w hp F (Ext.refl _ _ _)
    ·cases h
   ·cases h
  ·cases h
 ·cases h
theorem Tv {C:Cx}{L:List Oper}{o:Oper}{env:Env}{d:Option Nat}{rows:List (List D)}{n:Int}{sz:Nat}(h:Sv C L o env=some (d,rows,n,sz)):Z1 L env o=some true∧o.dst=d:=by
 unfold Sv at h
 split at h
 ·rename_i t x y b e
  split at h
  ·rename_i i kd m a f ht g hr c
   split at h
   ·split at h
    ·simp only [zqb,zqh] at h
     obtain ⟨rfl,_⟩:=h
     exact ⟨b,W8 c⟩
    ·cases h
   ·cases h
  ·cases h
 ·cases h
theorem E0.i {F:Fx}(hC:F3 F.C){L l:List Oper}{o:Oper}{env:Env}{H:N0}{Q:Env→N0→Prop}{d:Option Nat}{rows:List (List D)}{n:Int}{sz:Nat}(h:Sv F.C L o env=some (d,rows,n,sz)){k:Nat}{r:List D}(hn:n=k)
  (hk:rows[k]?=some r) (a:Nat.beq r.length sz=true) (b:E0 F L l (put env d (.ptr r)) H Q):E0 F L (o::l) env H Q:=by
 obtain ⟨h1,rfl⟩:=Tv h
 exact .yields h1 (Rp hC h hn hk a) b
def Uy (C:Cx)(L:List Oper)(o:Oper)(env:Env)(H:N0)(x:A):Prop:=
 (Z1 L env o=some true∧Xb C o env H x)∨(Z1 L env o=some false∧x = .tup [])
def AQ (C:Cx)(L:List Oper):List Oper→Env→N0→(Env→Prop)→Prop
 | [],env,_,Q=>Q env
 | o::r,env,H,Q=>∃ d x,o.dst=d∧Uy C L o env H x∧AQ C L r (put env d x) H Q
theorem AQ.nil {C:Cx}{L:List Oper}{env:Env}{H:N0}{Q:Env→Prop}(h:Q env):AQ C L [] env H Q:=h
theorem AQ.q {C:Cx}(hC:F3 C){L l:List Oper}{o:Oper}{env:Env}{H:N0}{Q:Env→Prop}{d:Option Nat}{c:Prop}{x:A}(h:Cg C L o env H=some (d,c,x))(hc:c)(k:AQ C L l (put env d x) H Q):AQ C L (o::l) env H Q:=by
 unfold Cg at h
 split at h
 ·rename_i b
  split at h
  ·rename_i c' x' e
   split at h
   ·rename_i y f
    have a:=Dt f
    subst a
    have:o.dst=d∧c'=c∧y=x:=by
     split at h
     ·rename_i t ht
      simp only [zqb,zqh] at h
      exact ⟨ht.trans h.1,h.2.1,h.2.2⟩
     ·rename_i ht
      simp only [zqb,zqh] at h
      exact ⟨ht.trans h.1,h.2.1,h.2.2⟩
    obtain ⟨rfl,rfl,rfl⟩:=this
    exact ⟨_,_,rfl,.inl ⟨b,Zs hC e hc⟩,k⟩
   ·cases h
  ·cases h
 ·rename_i b
  have:o.dst=d∧A.tup []=x:=by
   split at h
   ·rename_i t ht
    simp only [zqb,zqh] at h
    exact ⟨ht.trans h.1,h.2.2⟩
   ·rename_i ht
    simp only [zqb,zqh] at h
    exact ⟨ht.trans h.1,h.2.2⟩
  obtain ⟨rfl,rfl⟩:=this
  exact ⟨_,_,rfl,.inr ⟨b,rfl⟩,k⟩
 ·cases h
theorem AQ.c {C:Cx}{L l:List Oper}{o:Oper}{env:Env}{H:N0}{Q:Env→Prop}{d:Option Nat}{f:FuncId}{xs:List A}{x:A}(h:Ke C L o env=some (d,f,xs))(hn:W2 0 xs=true)
  (hc:L0 C f xs [] (fun r H'=>H'=[]∧r=x)) (k:AQ C L l (put env d x) H Q):AQ C L (o::l) env H Q:=by
 obtain ⟨h1,h2,rfl⟩:=Qp h
 exact ⟨_,x,rfl,.inl ⟨h1,Pz h2 hn hc⟩,k⟩
theorem AQ.i {C:Cx}(hC:F3 C){L l:List Oper}{o:Oper}{env:Env}{H:N0}{Q:Env→Prop}{d:Option Nat}{rows:List (List D)}{n:Int}{sz:Nat}(h:Sv C L o env=some (d,rows,n,sz)){k:Nat}{r:List D}(hn:n=k)
  (hk:rows[k]?=some r) (a:Nat.beq r.length sz=true) (b:AQ C L l (put env d (.ptr r)) H Q):AQ C L (o::l) env H Q:=by
 obtain ⟨h1,rfl⟩:=Tv h
 exact ⟨_,_,rfl,.inl ⟨h1,Rp hC h hn hk a⟩,b⟩
theorem AQ.y {C:Cx}{L l:List Oper}{o:Oper}{env:Env}{H:N0}{Q:Env→Prop}{d:Option Nat}(x:A)(a:Zc o=some d)(b:Z1 L env o=some true)(c:Xb C o env H x)(k:AQ C L l (put env d x) H Q):AQ C L (o::l) env H Q:=
 ⟨d,x,W8 a,.inl ⟨b,c⟩,k⟩
def X8 (L:List Oper)(o:Oper):List Nat:=
 (o.op.operands.toList.filterMap fun | .tmp t=>some t | _=>none)++(match o.guard with | some (j,_)=>(match nth L j with | some p=>p.dst.toList | none=>[]) | none=>[])
def Ah (L:List Oper):Nat→Nat→Nat→Bool
 | 0,_,_=>false
 | f+1,j,i=>match nth L j with
  | some o=>o.after.toList.any fun e=>Region.binds .any e&&(Nat.beq e.on i||Ah L f e.on i)
  | none=>false
def Le (L:List Oper)(i j:Nat):Bool:=
 match nth L i,nth L j with
 | some p,some q=>(match p.dst with | some d=>(X8 L q).contains d||q.dst == some d | none=>false)||(match q.dst with | some d=>(X8 L p).contains d | none=>false)
 | _,_=>false
def C17 (L:List Oper)(n:Nat):Bool:=
 (List.range L.length).all fun j=>
  (match nth L j with | some o=>o.after.toList.all fun e=>!Region.binds .any e||Nat.blt e.on j | none=>true) &&
  (List.range j).all fun i=>!(Le L i j||Nat.ble n j)||Ah L L.length j i
section
variable {L:List Oper}
theorem Qi {listed:Array Bool}(hc:∀ (j:Nat) o,L[j]?=some o→listed.getD j false=true→∀ e∈o.after,Region.binds .any e=true→listed.getD e.on false=true) :
  ∀ (f j i:Nat),Ah L f j i=true→listed.getD j false=true→listed.getD i false=true
 | 0,_,_,h,_=>by simp [Ah] at h
 | f+1,j,i,h,c=>by
  simp only [Ah,Q3] at h
  split at h
  ·rename_i o b
   obtain ⟨e,a,hb⟩:=List.any_eq_true.1 h
   simp only [zqi,Bool.or_eq_true] at hb
   have hl:=hc j o b c e (by simpa using a) hb.1
   rcases hb.2 with h1 | h1
   ·have:=zqo h1
    subst this
    exact hl
   ·exact Qi hc f e.on i h1 hl
  ·cases h
theorem Me {listed:Array Bool}(hc:∀ (j:Nat) o,L[j]?=some o→listed.getD j false=true→∀ e∈o.after,Region.binds .any e=true→listed.getD e.on false=true){j:Nat}{o:Oper}(b:L[j]?=some o)
  (hr:∀ e∈o.after,Region.binds .any e=true→listed.getD e.on false=true):∀ (f i:Nat),Ah L f j i=true→listed.getD i false=true
 | 0,_,h=>by simp [Ah] at h
 | f+1,i,h=>by
  simp only [Ah,Q3,b] at h
  obtain ⟨e,a,hb⟩:=List.any_eq_true.1 h
  simp only [zqi,Bool.or_eq_true] at hb
  have hl:=hr e (by simpa using a) hb.1
  rcases hb.2 with h1 | h1
  ·have:=zqo h1
   subst this
   exact hl
  ·exact Qi hc f e.on i h1 hl
def V4 (L:List Oper)(sel:Nat→Bool)(t:Nat):Nat→Option Nat
 | 0=>none
 | m+1=>if sel m=true∧(L[m]?).bind (·.dst)=some t then some m else V4 L sel t m
theorem Sp {a:Nat→Bool}{t:Nat}:∀ {m i:Nat},V4 L a t m=some i→i < m∧a i=true∧(L[i]?).bind (·.dst)=some t
 | 0,i,h=>by simp [V4] at h
 | m+1,i,h=>by
  simp only [V4] at h
  split at h
  ·rename_i hc
   simp only [zqb] at h
   subst h
   exact ⟨Nat.lt_succ_self _,hc.1,hc.2⟩
  ·obtain ⟨h1,h2⟩:=Sp h
   exact ⟨Nat.lt_succ_of_lt h1,h2⟩
theorem C8 {s s':Nat→Bool}{t:Nat}:∀ {m:Nat},(∀ i,i < m→(L[i]?).bind (·.dst)=some t→s i=s' i)→V4 L s t m=V4 L s' t m
 | 0,_=>rfl
 | m+1,h=>by
  simp only [V4]
  have a:=C8 (m:=m) (fun i hi=>h i (Nat.lt_succ_of_lt hi))
  by_cases hd:(L[m]?).bind (·.dst)=some t
  ·rw [h m (Nat.lt_succ_self _) hd,a]
  ·rw [zn (fun hc=>hd hc.2),zn (fun hc=>hd hc.2),a]
theorem Et {s:Nat→Bool}{t i:Nat}:∀ {m:Nat},i≤m→(∀ j,i≤j→j < m→(L[j]?).bind (·.dst)=some t→s j=false)→V4 L s t m=V4 L s t i
 | 0,h,_=>by have:i=0:=by omega
             subst this; rfl
 | m+1,h,a=>by
  by_cases he:i=m+1
  ·subst he; rfl
  ·simp only [V4]
   rw [zn]
   ·exact Et (by omega) (fun j h1 h2=>a j h1 (Nat.lt_succ_of_lt h2))
   ·intro hc
    have:=a m (by omega) (Nat.lt_succ_self _) hc.2
    rw [this] at hc
    cases hc.1
def L2 (L:List Oper)(env:Env)(out:Nat→A)(sel:Nat→Bool)(m:Nat):Env:=fun t=>match V4 L sel t m with | some i=>out i | none=>env t
theorem V1c {env:Env}{out:Nat→A}{a:Nat→Bool}:L2 L env out a 0=env:=rfl
theorem W1c {env:Env}{out:Nat→A}{m:Nat}{o:Oper}(a:L[m]?=some o):L2 L env out (fun _=>true) (m+1)=put (L2 L env out (fun _=>true) m) o.dst (out m):=by
 funext t
 simp only [L2,V4,a,Option.bind_some,true_and]
 cases hd:o.dst with
 | none=>simp [put,L2]
 | some d=>
  simp only [put,upd,zqb]
  by_cases h:d=t
  ·subst h; simp
  ·rw [zn h]
   have:Nat.beq t d=false:=by
    cases hb:Nat.beq t d with
    | false=>rfl
    | true=>exact absurd (zqo hb).symm h
   rw [this]
   rfl
end
theorem Ur {GL:GT}{env env':Env}{y:Operand}(h:∀ t,y = .tmp t→env t=env' t):ev GL env y=ev GL env' y:=by
 cases y with
 | tmp t=>exact h t rfl
 | _=>rfl
theorem Hk {L:List Oper}{env env':Env}{o:Oper}(h:∀ t∈X8 L o,env t=env' t):Z1 L env o=Z1 L env' o:=by
 unfold Z1
 split
 ·rfl
 ·rename_i j a hg
  split
  ·rename_i p hp
   split
   ·rename_i d b
    have:d∈X8 L o:=by simp [X8,hg,hp,b]
    rw [h d this]
   ·rfl
  ·rfl
theorem AQ.outs {C:Cx}{L:List Oper}{env:Env}{H:N0}{Q:Env→Prop}{n:Nat}(hn:n≤L.length)(h:AQ C L (L.take n) env H Q) :
  ∃ out:Nat→A,(∀ i o,i < n→L[i]?=some o→Uy C L o (L2 L env out (fun _=>true) i) H (out i))∧Q (L2 L env out (fun _=>true) n):=by
 have key:∀ (m k:Nat) (a:Nat→A),k+m=n→(∀ i o,i < k→L[i]?=some o→Uy C L o (L2 L env a (fun _=>true) i) H (a i))→
   AQ C L ((L.take n).drop k) (L2 L env a (fun _=>true) k) H Q→
   ∃ out:Nat→A,(∀ i o,i < n→L[i]?=some o→Uy C L o (L2 L env out (fun _=>true) i) H (out i))∧Q (L2 L env out (fun _=>true) n):=by
  intro m
  induction m with
  | zero=>
   intro k a hk q f
   have:k=n:=by omega
   subst this
   rw [List.drop_eq_nil_of_le (by simp; omega)] at f
   exact ⟨a,q,f⟩
  | succ m u=>
   intro k a hk q f
   have s:k < n:=by omega
   have p:k < L.length:=by omega
   have e:(L.take n).drop k=L[k]::(L.take n).drop (k+1):=by
    rw [List.drop_eq_getElem_cons (by simp; omega)]
    simp
   rw [e] at f
   obtain ⟨d,x,v,r,c⟩:=f
   let out1:Nat→A:=fun i=>if i=k then x else a i
   have b:∀ i,i≤k→L2 L env out1 (fun _=>true) i=L2 L env a (fun _=>true) i:=by
    intro i hi
    funext t
    simp only [L2]
    cases hl:V4 L (fun _=>true) t i with
    | none=>rfl
    | some j=>
     have:=(Sp hl).1
     simp only [out1]
     rw [zn (by omega)]
   have g:L[k]?=some L[k]:=zqv p
   refine u (k+1) out1 (by omega) (fun i o hi l=>?_) ?_
   ·by_cases hik:i=k
    ·subst hik
     rw [g] at l
     simp only [zqb] at l
     subst l
     rw [b i (zqr _)]
     simpa [out1] using r
    ·rw [b i (by omega)]
     have:=q i o (by omega) l
     simpa [out1,hik] using this
   ·rw [W1c g,b k (zqr _),v]
    simpa [out1] using c
 exact key n 0 (fun _=>.junk) (by omega) (fun i o hi=>by omega) (by simpa [V1c] using h)
structure I19 (L:List Oper)(n:Nat)(listed:Array Bool):Prop where
 size:listed.size=L.length
 closed:∀ (j:Nat) o,L[j]?=some o→listed.getD j false=true→∀ e∈o.after,Region.binds .any e=true→listed.getD e.on false=true
theorem Uv {L:List Oper}{i j:Nat}(h:Le L i j=true):Le L j i=true:=by
 unfold Le at h ⊢
 cases hi:nth L i with
 | none=>simp [hi] at h
 | some p=>
  cases hj:nth L j with
  | none=>simp [hi,hj] at h
  | some q=>
   simp only [hi,hj] at h ⊢
   cases hp:p.dst with
   | none=>
    cases hq:q.dst with
    | none=>simp [hp,hq] at h
    | some d=>simp only [hp,hq] at h ⊢; simp at h ⊢; exact h
   | some d=>
    cases hq:q.dst with
    | none=>simp only [hp,hq] at h ⊢; simp at h ⊢; exact h
    | some e=>
     simp only [hp,hq] at h ⊢
     simp at h ⊢
     rcases h with (h | h) | h
     ·exact .inr h
     ·exact .inl (.inr h.symm)
     ·exact .inl (.inl h)
theorem Yb {listed:Array Bool}{i:Nat}(h:listed.getD i true=false):listed.getD i false=false:=by
 rcases Nat.lt_or_ge i listed.size with h' | h'
 ·simp [h'] at h ⊢; exact h
 ·simp [Array.getElem?_eq_none h'] at h
theorem P1a {L:List Oper}{n:Nat}(h:C17 L n=true):(∀ (j:Nat) o,L[j]?=some o→∀ e∈o.after,Region.binds .any e=true→e.on < j)∧
  ∀ i j,i < j→j < L.length→Le L i j=true∨n≤j→Ah L L.length j i=true:=by
 unfold C17 at h
 refine ⟨fun j o b e d hb=>?_,fun i j a g hc=>?_⟩
 ·have h1:=List.all_eq_true.1 h j (List.mem_range.2 (zqu.1 b).1)
  simp only [zqi,Q3,b] at h1
  have h2:=List.all_eq_true.1 h1.1 e (by simpa using d)
  rw [hb] at h2
  simpa using h2
 ·have h1:=List.all_eq_true.1 h j (List.mem_range.2 g)
  simp only [zqi] at h1
  have h2:=List.all_eq_true.1 h1.2 i (List.mem_range.2 a)
  simp only [Bool.or_eq_true,Bool.not_eq_true',Bool.or_eq_false_iff] at h2
  rcases h2 with ⟨c,f⟩ | h2
  ·rcases hc with hc | hc
   ·rw [c] at hc; cases hc
   ·have:=Nat.ble_eq_true_of_le hc; rw [f] at this; cases this
  ·exact h2
theorem count_set {listed:Array Bool}{i:Nat}(h:listed.getD i true=false):(listed.setIfInBounds i true).toList.count true=listed.toList.count true+1:=by
 have hi:i < listed.size:=by
  rcases Nat.lt_or_ge i listed.size with h' | h'
  ·exact h'
  ·simp [Array.getElem?_eq_none h'] at h
 have hv:listed[i]=false:=by simpa [hi] using h
 rw [Array.toList_setIfInBounds,List.count_set (by simpa using hi)]
 simp [hv]
theorem X1c {L:List Oper}{listed:Array Bool}(hs:listed.size=L.length)(hc:listed.toList.count true=L.length)(i:Nat)(hi:i < L.length):listed.getD i false=true:=by
 have:listed.toList.count true=listed.toList.length:=by simp [hc,hs]
 have h1:=List.count_eq_length.1 this
 have a:i < listed.size:=by omega
 have:listed[i]∈listed.toList:=by simp
 have:=h1 _ this
 simp [a,← this]
theorem AEx.draw {F:Fx}(hC:F3 F.C){id:Nat}{L:List Oper}{env:Env}{H:N0}{Q:Po}(n:Nat)(hd:L.all (X9 F.N)=true)(d4:C17 L n=true)(c5:Nat.ble n L.length=true)
  (h:AQ F.C L (L.take n) env H (fun env'=>E0 F L (L.drop n) env' H (Eo Q))):AEx F (.region id L.toArray true) env H Q:=by
 have hn:=Nat.le_of_ble_eq_true c5
 have a3:∀ (i:Nat) o,L[i]?=some o→X9 F.N o=true:=fun i o B=>List.all_eq_true.1 hd o (List.mem_of_getElem? B)
 obtain ⟨out,a6,hQ⟩:=h.outs hn
 obtain ⟨K,q⟩:=P1a d4
 intro fr M G w b8 hK hs z
 let Qw:Exit→Act→World→Prop:=Fin F fr Q
 have b4:L.toArray.size=L.length:=by simp
 have a2:∀ (m k:Nat) (listed:Array Bool) (a:Act) (w:World),k+m=L.length→n≤k→I19 L n listed→(∀ i,i < k→listed.getD i false=true)→(∀ i,k≤i→i < L.length→listed.getD i true=false)→
   wpList F.C.P L.toArray Qw (L.drop k) a w→wpAny F.C.P .any L.toArray Qw m listed a w:=by
  intro m
  induction m with
  | zero=>
   intro k listed a w hk _ l h1 _ W
   have g:k=L.length:=by omega
   have Z:Region.ready .any L.toArray listed=[]:=by
    rw [List.eq_nil_iff_forall_not_mem]
    intro j hj
    obtain ⟨hu,o,B,_⟩:=mem_ready.1 hj
    have d6:j < L.length:=by simpa using (Array.getElem?_eq_some_iff.1 B).1
    have:=h1 j (by omega)
    rw [Yb hu] at this
    cases this
   rw [List.drop_eq_nil_of_le (by omega)] at W
   exact ⟨Z,W⟩
  | succ m ih=>
   intro k listed a w hk d5 l h1 h2 W
   have u:k < L.length:=by omega
   have b0:L[k]?=some L[k]:=zqv u
   have b6:k∈Region.ready .any L.toArray listed:=mem_ready.2 ⟨h2 k (zqr _) u,L[k],(by simp [u]),fun e he hb=>h1 e.on (K k _ b0 e he hb)⟩
   refine ⟨fun h0=>(by rw [h0] at b6; cases b6),fun j hj=>?_⟩
   obtain ⟨hu,o,B,b⟩:=mem_ready.1 hj
   have R:j < L.length:=by simpa using (Array.getElem?_eq_some_iff.1 B).1
   have d2:j=k:=by
    rcases Nat.lt_trichotomy j k with I | he | hgt
    ·have:=h1 j I; rw [Yb hu] at this; cases this
    ·exact he
    ·have V:=q k j hgt R (.inr (by omega))
     have:=Me l.closed (by simpa using B) (fun e he hb=>b e he hb) L.length k V
     rw [Yb (h2 k (zqr _) u)] at this
     cases this
   subst d2
   rw [List.drop_eq_getElem_cons u] at W
   have c6:wpOp F.C.P L.toArray Qw j (wpList F.C.P L.toArray Qw (L.drop (j+1))) a w:=by
    unfold wpOp
    simp only [List.getElem?_toArray,b0]
    exact W
   refine wpOp_mono (fun a' w' V=>ih (j+1) _ a' w' (by omega) (by omega) ⟨by simp [l.size],fun i o' J hl e he hb=>?_⟩ (fun i hi=>?_) (fun i hi A=>?_) V) c6
   ·by_cases hij:j=i
    ·subst hij
     have:o'=o:=Option.some.inj (J.symm.trans (by simpa using B))
     subst this
     exact getD_set_true (b e he hb)
    ·rw [getD_set_ne false hij] at hl
     exact getD_set_true (l.closed i o' J hl e he hb)
   ·by_cases hij:j=i
    ·subst hij
     simp [l.size,u]
    ·rw [getD_set_ne false hij]
     exact h1 i (by omega)
   ·rw [getD_set_ne true (by omega)]
    exact h2 i (by omega) A
 have a9:∀ (m:Nat) (listed:Array Bool) (M:Mem) (G:Nat→Value) (w:World) (a:Act),listed.toList.count true+m=L.length→I19 L n listed→(∀ i,n≤i→i < L.length→listed.getD i true=false)→
   St F.C F.N M G w (L2 L env out (fun i=>listed.getD i false) n) H a→Q2 fr M G w H→wpAny F.C.P .any L.toArray Qw m listed a w:=by
  intro m
  induction m with
  | zero=>
   intro listed M G w a hm l U hs z
   have b:=X1c l.size (by omega)
   have d7:n=L.length:=by
    rcases Nat.lt_or_ge n L.length with h' | h'
    ·have:=b n h'
     rw [Yb (U n (zqr _) h')] at this
     cases this
    ·omega
   have O:L2 L env out (fun i=>listed.getD i false) n=L2 L env out (fun _=>true) n:=by
    funext t
    simp only [L2]
    rw [C8 fun i hi _=>b i (by omega)]
   rw [O] at hs
   refine a2 0 n listed a w (by omega) (zqr _) l (fun i hi=>b i (by omega)) (fun i h1 h2=>by omega) ?_
   exact hQ fr M G w a Qw hK (fun o B=>List.all_eq_true.1 hd o (List.mem_of_mem_drop B)) hs z T1c
  | succ m ih=>
   intro listed M G w a hm l U hs z
   by_cases hdone:∀ i,i < n→listed.getD i false=true
   ·
    have O:L2 L env out (fun i=>listed.getD i false) n=L2 L env out (fun _=>true) n:=by
     funext t
     simp only [L2]
     rw [C8 fun i hi _=>hdone i hi]
    rw [O] at hs
    have b9:listed.toList.count true=n:=by
     have hl:listed.toList=List.replicate n true++List.replicate (L.length - n) false:=by
      apply List.ext_getElem?
      intro i
      by_cases hi:i < n
      ·have hv:=hdone i hi
       have A:i < listed.size:=by rw [l.size]; omega
       rw [zqx (by simpa using hi),List.getElem?_replicate,zp hi,Array.getElem?_toList]
       simpa [A] using hv
      ·by_cases hi2:i < L.length
       ·have hv:=U i (by omega) hi2
        have A:i < listed.size:=by rw [l.size]; omega
        rw [List.getElem?_append_right (by simp; omega),List.getElem?_replicate,zp (by simp; omega),Array.getElem?_toList]
        simpa [A] using hv
       ·rw [List.getElem?_eq_none (by simp [l.size]; omega),List.getElem?_eq_none (by simp; omega)]
     rw [hl,List.count_append,List.count_replicate,List.count_replicate]
     simp
    refine a2 (m+1) n listed a w (by omega) (zqr _) l hdone U ?_
    exact hQ fr M G w a Qw hK (fun o B=>List.all_eq_true.1 hd o (List.mem_of_mem_drop B)) hs z T1c
   ·
    have c1:∃ i,i < n∧listed.getD i false=false∧∀ k,k < i→listed.getD k false=true:=by
     have:∃ i,i < n∧listed.getD i false=false:=by
      rcases Classical.em (∃ i,i < n∧listed.getD i false=false) with h' | h'
      ·exact h'
      ·refine absurd (fun i hi=>?_) hdone
       cases hv:listed.getD i false with
       | true=>rfl
       | false=>exact absurd ⟨i,hi,hv⟩ h'
     obtain ⟨i,hi⟩:=this
     induction i using Nat.strongRecOn with
     | _ i c9=>
      by_cases hk:∃ k,k < i∧listed.getD k false=false
      ·obtain ⟨k,c8,d3⟩:=hk
       exact c9 k c8 ⟨by omega,d3⟩
      ·refine ⟨i,hi.1,hi.2,fun k g=>?_⟩
       cases hv:listed.getD k false with
       | true=>rfl
       | false=>exact absurd ⟨k,g,hv⟩ hk
    obtain ⟨X,d8,b2,Y⟩:=c1
    have a1:X < L.length:=by omega
    have a8:L[X]?=some L[X]:=zqv a1
    have b7:listed.getD X true=false:=by
     have A:X < listed.size:=by rw [l.size]; omega
     simpa [A] using b2
    have b5:X∈Region.ready .any L.toArray listed:=mem_ready.2 ⟨b7,L[X],(by simp [a1]),fun e he hb=>Y e.on (K X _ a8 e he hb)⟩
    refine ⟨fun h0=>(by rw [h0] at b5; cases b5),fun j hj=>?_⟩
    obtain ⟨hu,o,B,b⟩:=mem_ready.1 hj
    have f:L[j]?=some o:=by simpa using B
    have R:j < L.length:=(zqu.1 f).1
    have c2:j < n:=by
     rcases Nat.lt_or_ge j n with h' | h'
     ·exact h'
     ·have V:=q X j (by omega) R (.inr h')
      have:=Me l.closed f (fun e he hb=>b e he hb) L.length X V
      rw [b2] at this
      cases this
    have E:∀ k,k≠j→k < L.length→(Le L k j=true∨Le L j k=true)→(listed.getD k false=true ↔ k < j):=by
     intro k s u hc
     rcases Nat.lt_or_ge k j with I | hge
     ·refine ⟨fun _=>I,fun _=>?_⟩
      have a7:Le L k j=true:=by
       rcases hc with hc | hc
       ·exact hc
       ·exact Uv hc
      exact Me l.closed f (fun e he hb=>b e he hb) L.length k (q k j I R (.inl a7))
     ·refine ⟨fun hl=>?_,fun h'=>by omega⟩
      have a7:Le L j k=true:=by
       rcases hc with hc | hc
       ·exact Uv hc
       ·exact hc
      have:=Qi l.closed L.length k j (q j k (by omega) u (.inl a7)) hl
      rw [Yb hu] at this
      cases this
    have T:∀ t∈X8 L o,L2 L env out (fun i=>listed.getD i false) n t=L2 L env out (fun _=>true) j t:=by
     intro t ht
     have W:∀ k,k≠j→(L[k]?).bind (·.dst)=some t→Le L k j=true:=by
      intro k s hk
      unfold Le
      simp only [Q3,f]
      cases g:L[k]? with
      | none=>rw [g] at hk; cases hk
      | some p=>
       rw [g] at hk
       simp only [Option.bind_some] at hk
       simp only [hk]
       have:(X8 L o).contains t=true:=by simpa using ht
       rw [this]
       simp
     have I:∀ k,(L[k]?).bind (·.dst)=some t→k < L.length:=by
      intro k hk
      cases g:L[k]? with
      | none=>rw [g] at hk; cases hk
      | some p=>exact (zqu.1 g).1
     simp only [L2]
     have e1:V4 L (fun i=>listed.getD i false) t n=V4 L (fun i=>decide (i < j)) t n:=C8 fun k hk c=>by
      by_cases s:k=j
      ·subst s
       simp [Yb hu]
      ·have:=E k s (I k c) (.inl (W k s c))
       cases hb:listed.getD k false with
       | true=>simp [this.1 hb]
       | false=>
        have:¬ k < j:=fun h'=>by rw [this.2 h'] at hb; cases hb
        simp [this]
     have e2:V4 L (fun i=>decide (i < j)) t n=V4 L (fun i=>decide (i < j)) t j:=Et (by omega) fun k h1 h2 _=>by simp; omega
     have e3:V4 L (fun i=>decide (i < j)) t j=V4 L (fun _=>true) t j:=C8 fun k hk _=>by simp [hk]
     rw [e1,e2,e3]
    have D:L2 L env out (fun i=>(listed.setIfInBounds j true).getD i false) n=put (L2 L env out (fun i=>listed.getD i false) n) o.dst (out j):=by
     have c4:j < listed.size:=by rw [l.size]; exact R
     have Wc:∀ k,(listed.setIfInBounds j true).getD k false=(decide (k=j)||listed.getD k false):=by
      intro k
      by_cases hk:j=k
      ·subst hk; simp [c4]
      ·rw [getD_set_ne false hk]
       have:¬ k=j:=fun h'=>hk h'.symm
       simp [this]
     funext t
     simp only [L2,Wc]
     cases hdo:o.dst with
     | none=>
      have:V4 L (fun i=>decide (i=j)||listed.getD i false) t n=V4 L (fun i=>listed.getD i false) t n:=C8 fun k hk c=>by
       have:k≠j:=fun h'=>by subst h'; rw [f] at c; simp [hdo] at c
       simp [this]
      rw [this]
      rfl
     | some d=>
      simp only [put,upd]
      by_cases htd:t=d
      ·subst htd
       have d1:Nat.beq t t=true:=by simp
       rw [d1,_root_.cond_true]
       have e1:V4 L (fun i=>decide (i=j)||listed.getD i false) t n=V4 L (fun i=>decide (i=j)||listed.getD i false) t (j+1):=Et (by omega) fun k h1 h2 c=>by
        have s:k≠j:=by omega
        have c3:Le L k j=true:=by
         unfold Le
         cases g:L[k]? with
         | none=>rw [g] at c; cases c
         | some p=>
          rw [g] at c
          simp only [Option.bind_some] at c
          simp only [Q3,f,g,c,hdo]
          simp
        have:=E k s (by omega) (.inl c3)
        cases hb:listed.getD k false with
        | false=>simp [s]
        | true=>have:=this.1 hb; omega
       rw [e1]
       simp [V4,f,hdo]
      ·have:Nat.beq t d=false:=by
        cases hb:Nat.beq t d with
        | false=>rfl
        | true=>exact absurd (zqo hb) htd
       rw [this,_root_.cond_false]
       have:V4 L (fun i=>decide (i=j)||listed.getD i false) t n=V4 L (fun i=>listed.getD i false) t n:=C8 fun k hk c=>by
        have:k≠j:=fun h'=>by subst h'; rw [f] at c; simp [hdo] at c; exact htd c.symm
        simp [this]
       rw [this]
       rfl
    have b3:I19 L n (listed.setIfInBounds j true):=⟨by simp [l.size],fun i o' J hl e he hb=>by
     by_cases hij:j=i
     ·subst hij
      have:o'=o:=Option.some.inj (J.symm.trans f)
      subst this
      exact getD_set_true (b e he hb)
     ·rw [getD_set_ne false hij] at hl
      exact getD_set_true (l.closed i o' J hl e he hb)⟩
    have a0:∀ i,n≤i→i < L.length→(listed.setIfInBounds j true).getD i true=false:=fun i h1 h2=>by
     rw [getD_set_ne true (by omega)]
     exact U i h1 h2
    have a4:(listed.setIfInBounds j true).toList.count true+m=L.length:=by rw [count_set hu]; omega
    have r:Z1 L (L2 L env out (fun i=>listed.getD i false) n) o=Z1 L (L2 L env out (fun _=>true) j) o:=Hk T
    have c7:∀ y∈o.op.operands,ev F.C.GL (L2 L env out (fun i=>listed.getD i false) n) y=ev F.C.GL (L2 L env out (fun _=>true) j) y:=by
     intro y hy
     refine Ur fun t ht=>T t ?_
     subst ht
     simp only [X8,List.mem_append,List.mem_filterMap]
     exact .inl ⟨.tmp t,by simpa using hy,rfl⟩
    unfold wpOp
    simp only [List.getElem?_toArray,f]
    rcases a6 j o c2 f with ⟨W,hy⟩ | ⟨W,hx⟩
    ·rw [Ie hs (r.trans W)]
     simp only [zt]
     refine .inl (hy M G w a _ Qw (fun y d0=>by rw [← c7 y d0]; exact hs.eval y) hs.good hs.gl hs.hrel fun v M' w' h1 h2 h3=>?_)
     refine ih _ M' G w' _ a4 b3 a0 ?_ (z.quiet h3)
     rw [D]
     exact hs.quiet (G6 (a3 j o f)) h1 h2 h3
    ·rw [Ie hs (r.trans W)]
     simp only [zqa,zw]
     refine ih _ M G w _ a4 b3 a0 ?_ z
     rw [D,hx]
     exact hs.quiet (G6 (a3 j o f)) (.tup rfl fun i x v h=>by simp at h) hs.good (Ext.refl _ _ _)
 refine wp_region_any hC.mixed ?_
 have h0:∀ i,(Array.replicate L.toArray.size false).getD i false=false:=fun i=>by
  rcases Nat.lt_or_ge i L.length with h' | h' <;> simp [h']
 have c0:St F.C F.N M G { w with drawn:=w.drawn+1 } env H b8:=
  ⟨fun a v e=>hs.good a v e,hs.gl.ext hs.hrel (S:=C9) ⟨fun _ _ e=>e,zqr _,rfl,rfl,rfl,fun _ _ _=>rfl,fun _ _ e=>.inl e⟩ (fun _ h=>h.elim),hs.hrel.ext (S:=C9) ⟨fun _ _ e=>e,zqr _,rfl,rfl,rfl,fun _ _ _=>rfl,fun _ _ e=>.inl e⟩ (fun _ _ h=>h),hs.env,hs.size,hs.defers⟩
 have b1:Q2 fr M G { w with drawn:=w.drawn+1 } H:=z.quiet ⟨fun _ _ e=>e,zqr _,rfl,rfl,rfl,fun _ _ _=>rfl,fun _ _ e=>.inl e⟩
 have a5:L2 L env out (fun i=>(Array.replicate L.toArray.size false).getD i false) n=env:=by
  funext t
  simp only [L2]
  cases hl:V4 L (fun i=>(Array.replicate L.toArray.size false).getD i false) t n with
  | none=>rfl
  | some i=>have:=(Sp hl).2.1; rw [h0] at this; cases this
 have:=a9 L.length (Array.replicate L.toArray.size false) M G _ b8 (by simp [List.count_replicate]) ⟨by simp,fun j o B hl=>by rw [h0] at hl; cases hl⟩ (fun i h1 h2=>by simp [h2]) (by rw [a5]; exact c0) b1
 rw [b4]
 rw [b4] at this
 exact this
mutual
def ren (f:Nat→Nat):A→A
 | .d x=>.d x
 | .junk=>.junk
 | .ref o k=>.ref (f o) k
 | .ptr c=>.ptr c
 | .full r=>.full r
 | .osl o r=>.osl (f o) r
 | .rsl o a b c=>.rsl (f o) a b c
 | .clo g cs=>.clo g (Re f cs)
 | .bnd g cs=>.bnd g (Re f cs)
 | .agg cs=>.agg (Re f cs)
 | .tup xs=>.tup (Re f xs)
 | .mp o=>.mp (f o)
def Re (f:Nat→Nat):List A→List A
 | []=>[]
 | x::r=>ren f x::Re f r
end
def Tp (f:Nat→Nat):Ob→Ob
 | .row cs e=>.row (Re f cs) e
 | .bld o e=>.bld (f o) e
 | x=>x
theorem Vr (f:Nat→Nat):∀ (l:List A) (i:Nat),(Re f l)[i]?=(l[i]?).map (ren f)
 | [],i=>by simp [Re]
 | x::r,0=>by simp [Re]
 | x::r,i+1=>by simp [Re,Vr f r i]
theorem Be (f:Nat→Nat):∀ l:List A,(Re f l).length=l.length
 | []=>rfl
 | x::r=>by simp [Re,Be f r]
mutual
theorem W1q {M:Mem}{G:Nat→Value}{f:Nat→Nat}:∀ (x:A) (v:Value),L1 M G (ren f x) v→L1 M (fun i=>G (f i)) x v
 | .d x,v,h=>by simp only [ren] at h; cases h; exact .d (by assumption)
 | .junk,v,_=>.junk
 | .ref o k,v,h=>by simp only [ren] at h; cases h; exact .ref (by assumption)
 | .ptr c,v,h=>by simp only [ren] at h; cases h; rename_i a b c d; exact .ptr a b c d
 | .full r,v,h=>by simp only [ren] at h; cases h; exact .full (by assumption) (by assumption)
 | .osl o r,v,h=>by simp only [ren] at h; cases h; exact .osl (by assumption) (by assumption)
 | .rsl o a b c,v,h=>by simp only [ren] at h; cases h; rename_i a b c; exact .rsl (by assumption) (by assumption) (by assumption)
 | .clo g cs,v,h=>by
  simp only [ren] at h
  cases h
  rename_i vs hl hr
  exact .clo (by rw [← hl,Be]) (Yo cs vs hr)
 | .bnd g cs,v,h=>by
  simp only [ren] at h
  cases h
  rename_i vs hl hr
  exact .bnd (by rw [← hl,Be]) (Yo cs vs hr)
 | .agg cs,v,h=>by
  simp only [ren] at h
  cases h
  rename_i vs h1 hl hr
  exact .agg (by rw [← hl,Be]) h1 (Yo cs vs hr)
 | .tup cs,v,h=>by
  simp only [ren] at h
  cases h
  rename_i vs hl hr
  exact .tup (by rw [← hl,Be]) (Yo cs vs hr)
 | .mp o,v,h=>by simp only [ren] at h; cases h; exact .mp (by assumption)
theorem Yo {M:Mem}{G:Nat→Value}{f:Nat→Nat}:∀ (l:List A) (vs:Array Value),(∀ (i:Nat) x v,(Re f l)[i]?=some x→vs[i]?=some v→L1 M G x v)→∀ (i:Nat) x v,l[i]?=some x→vs[i]?=some v→L1 M (fun i=>G (f i)) x v
 | [],vs,_,i,x,v,b,_=>by simp at b
 | y::r,vs,h,i,x,v,b,hv=>by
  cases i with
  | zero=>
   simp at b
   subst b
   exact W1q y v (h 0 _ v rfl hv)
  | succ i=>
   have:=Yo r (vs.extract 1 vs.size) (fun j z u hz c=>by
    have a:=(Array.getElem?_eq_some_iff.1 c).1
    simp only [Array.size_extract] at a
    rw [Array.getElem?_extract,zp (by omega)] at c
    exact h (j+1) z u (by simpa [Re] using hz) (by rw [← c]; congr 1; omega)) i x v (by simpa using b) (by
    have a:=(Array.getElem?_eq_some_iff.1 hv).1
    rw [Array.getElem?_extract,zp (by omega),← hv]
    congr 1; omega)
   exact this
end
theorem H1n {M:Mem}{G G':Nat→Value}{f:Nat→Nat}{x:A}{v:Value}(h:L1 M G x v)(hg:∀ o,Names x o→G' (f o)=G o):L1 M G' (ren f x) v:=by
 induction h with
 | d h=>simp only [ren]; exact .d h
 | junk=>simp only [ren]; exact .junk
 | ref h=>simp only [ren]; exact .ref ((hg _ .ref).trans h)
 | ptr a b c d=>simp only [ren]; exact .ptr a b c d
 | full a b=>simp only [ren]; exact .full a b
 | osl a b=>simp only [ren]; exact .osl a ((hg _ .osl).trans b)
 | rsl a b c=>simp only [ren]; exact .rsl ((hg _ .rsl).trans a) b c
 | clo hl _ g=>
  simp only [ren]
  refine .clo (by rw [Be]; exact hl) fun i x v e hv=>?_
  rw [Vr] at e
  cases hc:(‹List A› : List A)[i]? with
  | none=>rw [hc] at e; cases e
  | some y=>
   rw [hc] at e
   simp only [zqt,zqb] at e
   subst e
   exact g i y v hc hv fun o j=>hg o (.clo (List.mem_of_getElem? hc) j)
 | bnd hl _ g=>
  simp only [ren]
  refine .bnd (by rw [Be]; exact hl) fun i x v e hv=>?_
  rw [Vr] at e
  cases hc:(‹List A› : List A)[i]? with
  | none=>rw [hc] at e; cases e
  | some y=>
   rw [hc] at e
   simp only [zqt,zqb] at e
   subst e
   exact g i y v hc hv fun o j=>hg o (.bnd (List.mem_of_getElem? hc) j)
 | agg hl h1 _ g=>
  simp only [ren]
  refine .agg (by rw [Be]; exact hl) h1 fun i x v e hv=>?_
  rw [Vr] at e
  cases hc:(‹List A› : List A)[i]? with
  | none=>rw [hc] at e; cases e
  | some y=>
   rw [hc] at e
   simp only [zqt,zqb] at e
   subst e
   exact g i y v hc hv fun o j=>hg o (.agg (List.mem_of_getElem? hc) j)
 | tup hl _ g=>
  simp only [ren]
  refine .tup (by rw [Be]; exact hl) fun i x v e hv=>?_
  rw [Vr] at e
  cases hc:(‹List A› : List A)[i]? with
  | none=>rw [hc] at e; cases e
  | some y=>
   rw [hc] at e
   simp only [zqt,zqb] at e
   subst e
   exact g i y v hc hv fun o j=>hg o (.tup (List.mem_of_getElem? hc) j)
 | mp h=>simp only [ren]; exact .mp ((hg _ .mp).trans h)
mutual
def dg (ps:List Nat):A→A
 | .osl o r=>bif ps.contains o then .d (.sl r) else .osl o r
 | .clo g cs=>.clo g (dgL ps cs)
 | .bnd g cs=>.bnd g (dgL ps cs)
 | .agg cs=>.agg (dgL ps cs)
 | .tup xs=>.tup (dgL ps xs)
 | .d x=>.d x
 | .junk=>.junk
 | .ref o k=>.ref o k
 | .ptr c=>.ptr c
 | .full r=>.full r
 | .rsl o a b c=>.rsl o a b c
 | .mp o=>.mp o
def dgL (ps:List Nat):List A→List A
 | []=>[]
 | x::r=>dg ps x::dgL ps r
end
def dgO (ps:List Nat):Ob→Ob
 | .row cs e=>.row (dgL ps cs) e
 | .bld o e=>bif ps.contains o then .dead else .bld o e
 | x=>x
theorem M1g (ps:List Nat)(x:Ob):isTok (dgO ps x)=isTok x:=by
 cases x with
 | bld o e=>simp only [dgO]; cases ps.contains o <;> rfl
 | _=>rfl
theorem Hw (ps:List Nat):∀ (l:List A) (i:Nat),(dgL ps l)[i]?=(l[i]?).map (dg ps)
 | [],i=>by simp [dgL]
 | x::r,0=>by simp [dgL]
 | x::r,i+1=>by simp [dgL,Hw ps r i]
theorem Iw (ps:List Nat):∀ l:List A,(dgL ps l).length=l.length
 | []=>rfl
 | x::r=>by simp [dgL,Iw ps r]
theorem H1j {M:Mem}{G G':Nat→Value}{ps:List Nat}{x:A}{v:Value}(h:L1 M G x v)(k:∀ p∈ps,∃ a l c,G p = .slice a l c)(hg:∀ o,o ∉ ps→G o≠.tuple #[]→G' o=G o):L1 M G' (dg ps x) v:=by
 have g:∀ o,(∀ a l c,G o≠.slice a l c)→o ∉ ps:=fun o h' hm=>by obtain ⟨a,l,c,e⟩:=k o hm; exact h' a l c e
 induction h with
 | d h=>simp only [dg]; exact .d h
 | junk=>simp only [dg]; exact .junk
 | ref h=>simp only [dg]; exact .ref ((hg _ (g _ (by rw [h]; simp)) (by rw [h]; simp)).trans h)
 | ptr a b c d=>simp only [dg]; exact .ptr a b c d
 | full a b=>simp only [dg]; exact .full a b
 | osl a b=>
  rename_i o rows v
  simp only [dg]
  cases hc:ps.contains o with
  | true=>exact .d a
  | false=>exact .osl a ((hg _ (by simpa using hc) (by rw [b]; cases a <;> simp)).trans b)
 | rsl a b c=>simp only [dg]; exact .rsl ((hg _ (g _ (by rw [a]; simp)) (by rw [a]; simp)).trans a) b c
 | clo hl _ j=>
  simp only [dg]
  refine .clo (by rw [Iw]; exact hl) fun i x v f hv=>?_
  rw [Hw] at f
  cases hc:(‹List A› : List A)[i]? with
  | none=>rw [hc] at f; cases f
  | some y=>
   rw [hc] at f
   simp only [zqt,zqb] at f
   subst f
   exact j i y v hc hv
 | bnd hl _ j=>
  simp only [dg]
  refine .bnd (by rw [Iw]; exact hl) fun i x v f hv=>?_
  rw [Hw] at f
  cases hc:(‹List A› : List A)[i]? with
  | none=>rw [hc] at f; cases f
  | some y=>
   rw [hc] at f
   simp only [zqt,zqb] at f
   subst f
   exact j i y v hc hv
 | agg hl h1 _ j=>
  simp only [dg]
  refine .agg (by rw [Iw]; exact hl) h1 fun i x v f hv=>?_
  rw [Hw] at f
  cases hc:(‹List A› : List A)[i]? with
  | none=>rw [hc] at f; cases f
  | some y=>
   rw [hc] at f
   simp only [zqt,zqb] at f
   subst f
   exact j i y v hc hv
 | tup hl _ j=>
  simp only [dg]
  refine .tup (by rw [Iw]; exact hl) fun i x v f hv=>?_
  rw [Hw] at f
  cases hc:(‹List A› : List A)[i]? with
  | none=>rw [hc] at f; cases f
  | some y=>
   rw [hc] at f
   simp only [zqt,zqb] at f
   subst f
   exact j i y v hc hv
 | mp h=>simp only [dg]; exact .mp ((hg _ (g _ (by rw [h]; simp)) (by rw [h]; simp)).trans h)
theorem I1n {M:Mem}{G G':Nat→Value}{w:World}{ps:List Nat}{x:Ob}{g:Value}(h:Rj M G w x g)(t:∀ p∈ps,∃ a l c,G p = .slice a l c)(hg:∀ o,o ∉ ps→G o≠.tuple #[]→G' o=G o):Rj M G' w (dgO ps x) g:=by
 cases x with
 | dead=>trivial
 | row cs e=>
  obtain ⟨b,B,n,s,m,f,q,C⟩:=h
  refine ⟨b,B,n,s,by rw [Iw]; exact m,f,fun i y v j hv=>?_,C⟩
  rw [Hw] at j
  cases hc:cs[i]? with
  | none=>rw [hc] at j; cases j
  | some z=>
   rw [hc] at j
   simp only [zqt,zqb] at j
   subst j
   exact H1j (q i z v hc hv) t hg
 | bld o e=>
  simp only [dgO]
  cases hc:ps.contains o with
  | true=>trivial
  | false=>
   obtain ⟨b,A,n,s,m,f,q⟩:=h
   have e':=hg o (by simpa using hc) f
   exact ⟨b,A,n,by rw [e']; exact s,m,by rw [e']; exact f,q⟩
 | buf e sz=>exact h
 | tok e sz=>exact h
 | map es=>
  obtain ⟨b,ms,cl,n,s,m,f,q⟩:=h
  refine ⟨b,ms,cl,n,s,m,fun i k cs e a c=>⟨(f i k cs e a c).1,?_⟩,q⟩
  refine ((f i k cs e a c).2).mono (fun _ _ e=>e) fun o u=>?_
  exfalso
  have:∀ l:List D,¬ Names (.agg (l.map .d)) o:=fun l hn=>by
   cases hn with
   | agg hm hn=>
    obtain ⟨y,_,rfl⟩:=List.mem_map.1 hm
    cases hn
  match cs with
  | []=>exact this [] u
  | [x]=>cases u
  | x::y::r=>exact this _ u
theorem Wr {ps:List Nat}{x:Ob}{g:Value}{b:Nat}(h:blk (dgO ps x) g=some b):blk x g=some b:=by
 cases x with
 | row cs e=>revert h; cases g <;> first | exact id | (rename_i a; cases a <;> exact id)
 | bld o e=>
  simp only [dgO] at h
  cases hc:ps.contains o with
  | true=>rw [hc] at h; simp [blk] at h
  | false=>rw [hc] at h; exact h
 | _=>exact h
theorem Wf (f:Nat→Nat)(x:Ob)(g:Value):blk (Tp f x) g=blk x g:=by
 cases x with
 | row cs e=>cases g <;> first | rfl | (rename_i a; cases a <;> rfl)
 | bld o e=>cases g <;> first | rfl | (rename_i a; cases a <;> rfl)
 | _=>rfl
def W1o (l:List Nat)(i:Nat):Nat:=match nth l i with | some x=>x | none=>0
def M3 (idx:List Nat)(n:Nat)(i:Nat):Nat:=bif Nat.blt i idx.length then W1o idx i else n+(i - idx.length)
def Up (f:Nat→Nat)(H:N0):List Nat→N0→Prop
 | [],[]=>True
 | p::ps,y::ys=>nth H p=some (Tp f y)∧Up f H ps ys
 | _,_=>False
def K5:List Nat→N0→List Nat
 | p::ps,.tok .. :: ys=>p::K5 ps ys
 | p::ps,.buf .. :: ys=>p::K5 ps ys
 | _::ps,_::ys=>K5 ps ys
 | _,_=>[]
def R10:List Nat→Bool
 | []=>true
 | x::r=>!r.contains x&&R10 r
theorem Qn:∀ {l:List Nat},R10 l=true→l.Nodup
 | [],_=>List.nodup_nil
 | x::r,h=>by
  simp only [R10,zqi,Bool.not_eq_true',List.contains_eq_mem] at h
  exact List.nodup_cons.2 ⟨by simpa using h.1,Qn h.2⟩
theorem Up.spec {f:Nat→Nat}{H:N0}:∀ {idx:List Nat} {cH:N0},Up f H idx cH→idx.length=cH.length∧∀ (i:Nat) y,cH[i]?=some y→∃ p,idx[i]?=some p∧H[p]?=some (Tp f y)
 | [],[],_=>⟨rfl,fun i y h=>by simp at h⟩
 | p::ps,y::ys,h=>by
  obtain ⟨h1,h2⟩:=Up.spec h.2
  refine ⟨by simp [h1],fun i z hz=>?_⟩
  cases i with
  | zero=>simp at hz; subst hz; exact ⟨p,rfl,by rw [← Q3]; exact h.1⟩
  | succ i=>simpa using h2 i z (by simpa using hz)
 | [],_::_,h=>h.elim
 | _::_,[],h=>h.elim
theorem Rn:∀ {idx:List Nat} {cH:N0} {p:Nat},idx.length=cH.length→(p∈K5 idx cH ↔ ∃ (i:Nat) (y:Ob),idx[i]?=some p∧cH[i]?=some y∧isTok y=true)
 | [],[],p,_=>by simp [K5]
 | q::b,y::ys,p,hl=>by
  have c:=Rn (idx:=b) (cH:=ys) (p:=p) (by simpa using hl)
  have shift:(∃ (i:Nat) (z:Ob),(q::b)[i]?=some p∧(y::ys)[i]?=some z∧isTok z=true) ↔ (q=p∧isTok y=true)∨∃ (i:Nat) (z:Ob),b[i]?=some p∧ys[i]?=some z∧isTok z=true:=by
   constructor
   ·rintro ⟨i,z,h1,h2,a⟩
    cases i with
    | zero=>simp at h1 h2; subst h1; subst h2; exact .inl ⟨rfl,a⟩
    | succ i=>exact .inr ⟨i,z,by simpa using h1,by simpa using h2,a⟩
   ·rintro (⟨h1,h2⟩ | ⟨i,z,h1,h2,a⟩)
    ·exact ⟨0,y,by simp [h1],rfl,h2⟩
    ·exact ⟨i+1,z,by simpa using h1,by simpa using h2,a⟩
  rw [shift]
  cases y with
  | buf e sz=>
   simp only [K5,List.mem_cons,c,isTok,and_true]
   constructor
   ·rintro (rfl | h)
    ·exact .inl rfl
    ·exact .inr h
   ·rintro (rfl | h)
    ·exact .inl rfl
    ·exact .inr h
  | tok e sz=>
   simp only [K5,List.mem_cons,c,isTok,and_true]
   constructor
   ·rintro (rfl | h)
    ·exact .inl rfl
    ·exact .inr h
   ·rintro (rfl | h)
    ·exact .inl rfl
    ·exact .inr h
  | _=>simp [K5,isTok,c]
 | [],_::_,p,h=>by simp at h
 | _::_,[],p,h=>by simp at h
def fnd:List Nat→Nat→Option Nat
 | [],_=>none
 | x::r,p=>bif Nat.beq x p then some 0 else (match fnd r p with | some i=>some (i+1) | none=>none)
theorem Tl:∀ {l:List Nat} {p i:Nat},fnd l p=some i→l[i]?=some p
 | [],p,i,h=>by simp [fnd] at h
 | x::r,p,i,h=>by
  simp only [fnd] at h
  cases hb:Nat.beq x p with
  | true=>rw [hb] at h; simp at h; subst h; simp [zqo hb]
  | false=>
   rw [hb] at h
   simp only [zql] at h
   split at h
   ·rename_i j a
    simp only [zqb] at h
    subst h
    simpa using Tl a
   ·cases h
theorem F1b:∀ {l:List Nat} {p:Nat},fnd l p=none→p ∉ l
 | [],p,_=>by simp
 | x::r,p,h=>by
  simp only [fnd] at h
  cases hb:Nat.beq x p with
  | true=>rw [hb] at h; simp at h
  | false=>
   rw [hb] at h
   simp only [zql] at h
   split at h
   ·cases h
   ·rename_i a
    intro hm
    cases hm with
    | head=>simp at hb
    | tail _ hm=>exact F1b a hm
theorem D17 {l:List Nat}(hn:l.Nodup){p i:Nat}(h:l[i]?=some p):fnd l p=some i:=by
 cases hf:fnd l p with
 | none=>exact absurd (List.mem_of_getElem? h) (F1b hf)
 | some j=>
  have b:=Tl hf
  have a:=(zqu.1 h).1
  exact congrArg some (((List.getElem?_inj a hn).1 (by rw [h,b])).symm)
def Zo (idx:List Nat)(f:Nat→Nat)(ps:List Nat)(cH':N0):Nat→N0→N0
 | _,[]=>[]
 | p,x::r=>(match fnd idx p with | some i=>(match nth cH' i with | some y=>Tp f y | none=>.dead) | none=>dgO ps x)::Zo idx f ps cH' (p+1) r
def E9 (H:N0)(idx:List Nat)(f:Nat→Nat)(ps:List Nat)(cH':N0):N0:=
 Zo idx f ps cH' 0 H++(cH'.drop idx.length).map (Tp f)
theorem Q1a (idx:List Nat)(f:Nat→Nat)(ps:List Nat)(a:N0)(hl:idx.length≤a.length):∀ (H:N0) (q p:Nat),(Zo idx f ps a q H)[p]? =
  if p < H.length then (match fnd idx (q+p) with | some i=>(a[i]?).map (Tp f) | none=>(H[p]?).map (dgO ps)) else none
 | [],q,p=>by simp [Zo]
 | x::r,q,0=>by
  simp only [Zo,List.getElem?_cons_zero,zqd,Nat.add_zero]
  rw [zp (by omega)]
  cases hi:fnd idx q with
  | none=>simp
  | some i=>
   have b:i < idx.length:=(zqu.1 (Tl hi)).1
   have hv:a[i]?=some a[i]:=zqv (by omega)
   simp [Q3,hv]
 | x::r,q,p+1=>by
  simp only [Zo,List.getElem?_cons_succ,zqd]
  rw [Q1a idx f ps a hl r (q+1) p]
  by_cases h:p < r.length
  ·rw [zp h,zp (by omega),show q+1+p=q+(p+1) by omega]
  ·rw [zn h,zn (by omega)]
theorem Sn (idx:List Nat)(f:Nat→Nat)(ps:List Nat)(a:N0):∀ (H:N0) (q:Nat),(Zo idx f ps a q H).length=H.length
 | [],_=>rfl
 | x::r,q=>by simp [Zo,Sn idx f ps a r (q+1)]
theorem Y1c {H:N0}{idx:List Nat}{f:Nat→Nat}{ps:List Nat}{a:N0}:(E9 H idx f ps a).length=H.length+(a.length - idx.length):=by
 simp [E9,Sn]
theorem D13 {H:N0}{idx:List Nat}{f:Nat→Nat}{ps:List Nat}{a:N0}(hl:idx.length≤a.length)(p:Nat):(E9 H idx f ps a)[p]? =
  if p < H.length then (match fnd idx p with | some i=>(a[i]?).map (Tp f) | none=>(H[p]?).map (dgO ps)) else (a[idx.length+(p - H.length)]?).map (Tp f):=by
 unfold E9
 by_cases h:p < H.length
 ·rw [zqx (by rw [Sn]; exact h),Q1a idx f ps a hl,zp h,zp h,Nat.zero_add]
 ·rw [List.getElem?_append_right (by rw [Sn]; omega),Sn,zn h,List.getElem?_map,List.getElem?_drop]
def Ii (idx:List Nat)(n:Nat):Bool:=R10 idx&&idx.all fun p=>Nat.blt p n
theorem LeL.rels {M:Mem}{G:Nat→Value}{xs ys:List A}(h:LeL xs ys){vs:Array Value}(hr:∀ (i:Nat) x v,ys[i]?=some x→vs[i]?=some v→L1 M G x v):∀ (i:Nat) x v,xs[i]?=some x→vs[i]?=some v→L1 M G x v:=by
 intro i x v b hv
 obtain ⟨hl,d⟩:=h.spec
 have a:i < ys.length:=by rw [← hl]; exact (zqu.1 b).1
 have c:=zqv a
 exact (d i x _ b c).rel (hr i _ v c hv)
theorem N1g {F:Fx}{N:FN}{fr:Fr}{M:Mem}{G:Nat→Value}{w:World}{env:Env}{H:N0}{a:Act}(idx:List Nat)(cH:N0)(hi:Ii idx H.length=true)(hm:Up (M3 idx H.length) H idx cH)(hs:St F.C N M G w env H a)(P:Q2 fr M G w H) :
  W9 M (fun i=>G (M3 idx H.length i)) w cH∧∀ (E:N0) (M':Mem) (G':Nat→Value) (w':World),Good M' w'→W9 M' G' w' E→Ext (own (fun i=>G (M3 idx H.length i)) cH) M w M' w'→(∀ b,own G' E b→own (fun i=>G (M3 idx H.length i)) cH b∨w.heap.size≤b)→cH.length≤E.length→
   (∀ (o:Nat) x,cH[o]?=some x→isTok x=false→G' o=G (M3 idx H.length o)∧∀ y,E[o]?=some y→isTok y=false)→
   ∃ O:Nat→Value,(∀ i,O (M3 idx H.length i)=G' i)∧St F.C N M' O w' (fun t=>dg (K5 idx cH) (env t)) (E9 H idx (M3 idx H.length) (K5 idx cH) E) a∧Q2 fr M' O w' (E9 H idx (M3 idx H.length) (K5 idx cH) E):=by
 generalize hf:M3 idx H.length=f at *
 generalize hps:K5 idx cH=ps at *
 obtain ⟨R,h⟩:=hm.spec
 simp only [Ii,zqi] at hi
 have a5:=Qn hi.1
 have a9:∀ p∈idx,p < H.length:=fun p hp=>by simpa using List.all_eq_true.1 hi.2 p hp
 have I:∀ {i p:Nat},idx[i]?=some p→f i=p:=fun {i p} J=>by
  have:i < idx.length:=(zqu.1 J).1
  have hb:Nat.blt i idx.length=true:=Nat.ble_eq_true_of_le this
  rw [← hf]
  simp [M3,hb,W1o,Q3,J]
 have S:∀ {i:Nat},idx.length≤i→f i=H.length+(i - idx.length):=fun {i} hi'=>by
  have hb:Nat.blt i idx.length=false:=by
   cases hb:Nat.blt i idx.length with
   | false=>rfl
   | true=>have:=Nat.le_of_ble_eq_true hb; omega
  rw [← hf]
  simp [M3,hb]
 have b7:W9 M (fun i=>G (f i)) w cH:=by
  refine ⟨fun i y g=>?_,fun i i' y y' b g T hb B=>?_,fun i hi'=>?_⟩
  ·obtain ⟨p,hp,Q⟩:=h i y g
   have A:=hs.hrel.obj p _ Q
   simp only [I hp]
   cases y with
   | dead=>trivial
   | row cs e=>
    obtain ⟨b,us,g1,g2,g3,Z,g5,g6⟩:=A
    exact ⟨b,us,g1,g2,by rw [Be] at g3; exact g3,Z,Yo cs us g5,g6⟩
   | bld o e=>exact A
   | buf e sz=>exact A
   | tok e sz=>exact A
   | map es=>
    obtain ⟨b,ms,cl,g1,g2,g3,Z,g5⟩:=A
    refine ⟨b,ms,cl,g1,g2,g3,fun j k cs e a c=>⟨(Z j k cs e a c).1,?_⟩,g5⟩
    refine ((Z j k cs e a c).2).bare ?_
    have:∀ l:List D,W2 0 (l.map .d)=true:=fun l=>by
     induction l with
     | nil=>rfl
     | cons x r ih=>simp [W2,W5,ih]
    match cs with
    | []=>rfl
    | [x]=>rfl
    | x::y::r=>simp only [Z1a,W5]; exact this _
  ·obtain ⟨p,hp,Q⟩:=h i y g
   obtain ⟨p',K,U⟩:=h i' y' T
   simp only [I hp] at hb
   simp only [I K] at B
   have:=hs.hrel.apart p p' _ _ b Q U (by rw [Wf]; exact hb) (by rw [Wf]; exact B)
   subst this
   have e1:=D17 a5 hp
   have e2:=D17 a5 K
   rw [e1] at e2
   exact Option.some.inj e2
  ·simp only [S (by omega:idx.length≤i)]
   exact hs.hrel.fresh _ (by omega)
 refine ⟨b7,?_⟩
 have V:∀ b,own (fun i=>G (f i)) cH b→own G H b:=fun b ⟨i,y,g,hb⟩=>by
  obtain ⟨p,hp,Q⟩:=h i y g
  simp only [I hp] at hb
  exact ⟨p,_,Q,by rw [Wf]; exact hb⟩
 intro E M' G' w' g2 g3 Z g5 g6 g7
 have b8:idx.length≤E.length:=by omega
 let O:Nat→Value:=fun p=>match fnd idx p with | some i=>G' i | none=>if p < H.length then G p else G' (idx.length+(p - H.length))
 have W:∀ i,O (f i)=G' i:=fun i=>by
  rcases Nat.lt_or_ge i idx.length with hi' | hi'
  ·have J:idx[i]?=some idx[i]:=zqv hi'
   simp only [O,I J,D17 a5 J]
  ·have Y:fnd idx (f i)=none:=by
    cases m:fnd idx (f i) with
    | none=>rfl
    | some j=>
     have:=a9 _ (List.mem_of_getElem? (Tl m))
     rw [S hi'] at this
     omega
   simp only [O,Y]
   rw [S hi',zn (by omega)]
   congr 1
   omega
 have a1:∀ p∈ps,∃ a l c,G p = .slice a l c:=fun p hp=>by
  rw [← hps] at hp
  obtain ⟨i,y,e1,e2,e3⟩:=(Rn R).1 hp
  obtain ⟨p',K,Q⟩:=h i y e2
  have:p'=p:=Option.some.inj (K.symm.trans e1)
  subst this
  have A:=hs.hrel.obj p' _ Q
  cases y <;> simp [isTok] at e3
  case buf=>rcases A with ⟨_,⟨e,_⟩ | ⟨ad,cap,us,e,_⟩⟩ <;> exact ⟨_,_,_,e⟩
  rcases A with e | ⟨ad,n,cap,e,_⟩
  ·exact ⟨_,_,_,e⟩
  ·exact ⟨_,_,_,e⟩
 have b2:∀ p,p ∉ ps→p < H.length→O p=G p:=fun p hp a3=>by
  simp only [O]
  cases m:fnd idx p with
  | none=>simp [a3]
  | some i=>
   have J:=Tl m
   have a4:i < cH.length:=by rw [← R]; exact (zqu.1 J).1
   have g:cH[i]?=some cH[i]:=zqv a4
   have ht:isTok cH[i]=false:=by
    cases ht:isTok cH[i] with
    | false=>rfl
    | true=>exact absurd ((Rn R).2 ⟨i,_,J,g,ht⟩) (by rw [hps]; exact hp)
   have:=(g7 i _ g ht).1
   simp only [I J] at this
   exact this
 have b1:∀ p,p ∉ ps→G p≠.tuple #[]→O p=G p:=fun p hp b5=>by
  refine b2 p hp ?_
  rcases Nat.lt_or_ge p H.length with h' | h'
  ·exact h'
  ·exact absurd (hs.hrel.fresh p h') b5
 have b3:∀ (i:Nat) y,E[i]?=some y→Rj M' O w' (Tp f y) (G' i):=fun i y g=>by
  have A:=g3.obj i y g
  cases y with
  | dead=>trivial
  | row cs e=>
   obtain ⟨b,us,q1,q2,q3,q4,q5,q6⟩:=A
   refine ⟨b,us,q1,q2,by rw [Be]; exact q3,q4,fun j x v s hv=>?_,q6⟩
   rw [Vr] at s
   cases hc':cs[j]? with
   | none=>rw [hc'] at s; cases s
   | some z=>
    rw [hc'] at s
    simp only [zqt,zqb] at s
    subst s
    exact H1n (q5 j z v hc' hv) fun o _=>W o
  | bld o e=>
   obtain ⟨b,v0,q1,q2,q3,q4,q5⟩:=A
   exact ⟨b,v0,q1,by rw [W]; exact q2,q3,by rw [W]; exact q4,q5⟩
  | buf e sz=>exact A
  | tok e sz=>exact A
  | map es=>
   obtain ⟨b,ms,cl,q1,q2,q3,q4,q5⟩:=A
   refine ⟨b,ms,cl,q1,q2,q3,fun j k cs e a c=>⟨(q4 j k cs e a c).1,?_⟩,q5⟩
   refine ((q4 j k cs e a c).2).bare ?_
   have:∀ l:List D,W2 0 (l.map .d)=true:=fun l=>by
    induction l with
    | nil=>rfl
    | cons x r ih=>simp [W2,W5,ih]
   match cs with
   | []=>rfl
   | [x]=>rfl
   | x::y::r=>simp only [Z1a,W5]; exact this _
 have L:∀ (p:Nat) x b,fnd idx p=none→H[p]?=some x→blk x (G p)=some b→¬ own (fun i=>G (f i)) cH b:=fun p x b m s hb ⟨i,y,g,b4⟩=>by
  obtain ⟨p',K,U⟩:=h i y g
  simp only [I K] at b4
  have:=hs.hrel.apart p p' x _ b s U hb (by rw [Wf]; exact b4)
  subst this
  exact F1b m (List.mem_of_getElem? K)
 have shape:∀ (p:Nat) x,(E9 H idx f ps E)[p]?=some x→(∃ i y,E[i]?=some y∧x=Tp f y∧O p=G' i∧p=f i)∨(∃ y,p < H.length∧fnd idx p=none∧H[p]?=some y∧x=dgO ps y∧O p=G p):=by
  intro p x s
  rw [D13 b8] at s
  by_cases hp:p < H.length
  ·rw [zp hp] at s
   cases m:fnd idx p with
   | some i=>
    rw [m] at s
    simp only at s
    cases g:E[i]? with
    | none=>rw [g] at s; cases s
    | some y=>
     rw [g] at s
     simp only [zqt,zqb] at s
     exact .inl ⟨i,y,g,s.symm,by simp only [O,m],(I (Tl m)).symm⟩
   | none=>
    rw [m] at s
    simp only at s
    cases g:H[p]? with
    | none=>rw [g] at s; cases s
    | some y=>
     rw [g] at s
     simp only [zqt,zqb] at s
     exact .inr ⟨y,hp,rfl,rfl,s.symm,by simp [O,m,hp]⟩
  ·rw [zn hp] at s
   cases g:E[idx.length+(p - H.length)]? with
   | none=>rw [g] at s; cases s
   | some y=>
    rw [g] at s
    simp only [zqt,zqb] at s
    have a6:p=f (idx.length+(p - H.length)):=by rw [S (by omega)]; omega
    exact .inl ⟨_,y,g,s.symm,by rw [a6,W,← a6],a6⟩
 have a2:∀ b,own O (E9 H idx f ps E) b→own G H b∨w.heap.size≤b:=fun b ⟨p,x,s,hb⟩=>by
  rcases shape p x s with ⟨i,y,g,rfl,hg,_⟩ | ⟨y,hp,m,g,rfl,hg⟩
  ·rw [Wf,hg] at hb
   rcases g5 b ⟨i,y,g,hb⟩ with h' | h'
   ·exact .inl (V b h')
   ·exact .inr h'
  ·replace hb:=Wr hb
   rw [hg] at hb
   exact .inl ⟨p,y,g,hb⟩
 have a7:W9 M' O w' (E9 H idx f ps E):=by
  refine ⟨fun p x s=>?_,fun p p' x x' b s b6 hb B=>?_,fun p hp=>?_⟩
  ·rcases shape p x s with ⟨i,y,g,rfl,hg,_⟩ | ⟨y,hp,m,g,rfl,hg⟩
   ·rw [hg]; exact b3 i y g
   ·rw [hg]
    have A:=hs.hrel.obj p y g
    refine I1n (A.keep Z.mono (fun b hb=>Z.block b (Wb A hb) (L p y b m g hb)) fun b hb off sp hn=>?_) a1 b1
    cases hM:M' ⟨b,off,sp⟩ with
    | none=>rfl
    | some u=>
     rcases Z.fresh _ u hM with q | q | q
     ·rw [hn] at q; cases q
     ·exact absurd q (L p y b m g hb)
     ·have:=Wb A hb; simp only at q; omega
  ·rcases shape p x s with ⟨i,y,g,rfl,hg,a0⟩ | ⟨y,hp,m,g,rfl,hg⟩ <;> rcases shape p' x' b6 with ⟨i',y',T,rfl,hg',hpi'⟩ | ⟨y',K,hfn',T,rfl,hg'⟩
   ·rw [Wf,hg] at hb
    rw [Wf,hg'] at B
    rw [a0,hpi',g3.apart i i' y y' b g T hb B]
   ·rw [Wf,hg] at hb
    replace B:=Wr B
    rw [hg'] at B
    rcases g5 b ⟨i,y,g,hb⟩ with q | q
    ·exact absurd q (L p' y' b hfn' T B)
    ·have:=Wb (hs.hrel.obj p' y' T) B; omega
   ·replace hb:=Wr hb
    rw [hg] at hb
    rw [Wf,hg'] at B
    rcases g5 b ⟨i',y',T,B⟩ with q | q
    ·exact absurd q (L p y b m g hb)
    ·have:=Wb (hs.hrel.obj p y g) hb; omega
   ·replace hb:=Wr hb
    rw [hg] at hb
    replace B:=Wr B
    rw [hg'] at B
    exact hs.hrel.apart p p' y y' b g T hb B
  ·rw [Y1c] at hp
   have Y:fnd idx p=none:=by
    cases m:fnd idx p with
    | none=>rfl
    | some j=>have:=a9 _ (List.mem_of_getElem? (Tl m)); omega
   simp only [O,Y]
   rw [zn (by omega)]
   exact g3.fresh _ (by omega)
 refine ⟨O,W,⟨g2,hs.gl.ext hs.hrel Z V,a7,fun t=>H1j ((hs.env t).mono' Z.mono) a1 b1,hs.size,hs.defers⟩,?_⟩
 have X:∀ (p:Nat) x,fr.H0[p]?=some x→isTok x=false→p < H.length∧p ∉ ps:=fun p x hp ht=>by
  have a3:p < H.length:=Nat.lt_of_lt_of_le (zqu.1 hp).1 P.len
  refine ⟨a3,fun hm=>?_⟩
  rw [← hps] at hm
  obtain ⟨i,y,e1,e2,e3⟩:=(Rn R).1 hm
  obtain ⟨p',K,Q⟩:=h i y e2
  have:p'=p:=Option.some.inj (K.symm.trans e1)
  subst this
  have:=P.kind p' x _ hp ht Q
  cases y <;> simp [isTok,Tp] at e3 this
 refine ⟨P.ext.trans Z fun b hb=>P.own b (V b hb),fun b hb=>?_,?_,fun p x hp ht=>?_,fun p x y hp ht g=>?_⟩
 ·rcases a2 b hb with h' | h'
  ·exact P.own b h'
  ·exact .inr (Nat.le_trans P.ext.size h')
 ·rw [Y1c]
  have:=P.len
  omega
 ·obtain ⟨q1,q2⟩:=X p x hp ht
  rw [b2 p q2 q1]
  exact P.keep p x hp ht
 ·obtain ⟨q1,q2⟩:=X p x hp ht
  rcases shape p y g with ⟨i,z,hz,rfl,_,a0⟩ | ⟨z,_,_,hz,rfl,_⟩
  ·have hi':i < idx.length:=by
    rcases Nat.lt_or_ge i idx.length with h' | h'
    ·exact h'
    ·rw [S h'] at a0; omega
   have J:idx[i]?=some idx[i]:=zqv hi'
   have a4:i < cH.length:=by omega
   have b0:cH[i]?=some cH[i]:=zqv a4
   have a8:isTok cH[i]=false:=by
    cases a8:isTok cH[i] with
    | false=>rfl
    | true=>
     have:idx[i]=p:=by rw [a0,I J]
     exact absurd ((Rn R).2 ⟨i,_,by rw [J,this],b0,a8⟩) (by rw [hps]; exact q2)
   have:=(g7 i _ b0 a8).2 z hz
   cases z <;> simp [isTok,Tp] at this ⊢
  ·have:=P.kind p x z hp ht hz
   rw [M1g]; exact this
theorem E0.callHP {F:Fx}{L l:List Oper}{o:Oper}{env:Env}{H:N0}{Q:Env→N0→Prop}{d:Option Nat}{g:FuncId}{xs:List A}(idx:List Nat)(f:List A)(cH:N0){O:A→N0→Prop}{Pc:Value→N0→Prop}
  (h:Ke F.C L o env=some (d,g,xs)) (P:LeL (Re (M3 idx H.length) f) xs) (hi:Ii idx H.length=true) (hm:Up (M3 idx H.length) H idx cH) (hc:F2 F.C g f cH O Pc)
  (W:∀ v b,Pc v b→F.pan v (fun t=>dg (K5 idx cH) (env t)) (E9 H idx (M3 idx H.length) (K5 idx cH) b))
  (k:∀ r b,O r b→E0 F L l (put (fun t=>dg (K5 idx cH) (env t)) d (ren (M3 idx H.length) r)) (E9 H idx (M3 idx H.length) (K5 idx cH) b) Q):E0 F L (o::l) env H Q:=by
 obtain ⟨V,ha,rfl⟩:=Qp h
 refine S1o V fun fr M G w a K Y Z X hs I hk hp=>?_
 obtain ⟨vs,h1,h2,E⟩:=Oz ha (fun y _=>hs.eval y) hc.1
 unfold Oper.wp
 rw [h1 w]
 obtain ⟨s,G1k⟩:=N1g (F:=F) idx cH hi hm hs I
 have E:=P.rels E
 refine (hc.2 M (fun i=>G (M3 idx H.length i)) w vs hs.good hs.gl s (by rw [← h2,← P.spec.1,Be]) (Yo f vs E)).mono fun e w' R=>?_
 rcases R with ⟨v,r,b,M',G',rfl,n,S,D,p,z,u,J,q⟩ | ⟨v,b,M',G',rfl,n,D,p,z,u,J,q⟩
 ·obtain ⟨B,m,c,j⟩:=G1k b M' G' w' D p z u J q
  obtain ⟨p1,T,U⟩:=Xo (dst:=o.dst) (x:=ren (M3 idx H.length) r) (a:=a) (v:=v) (N:=F.N) c.env c.size (G6 X) (H1n S fun o _=>m o)
  exact hk _ _ _ M' B w' v (k r b n) ⟨c.good,c.gl,c.hrel,p1,T,U.trans c.defers⟩ j
 ·obtain ⟨B,m,c,j⟩:=G1k b M' G' w' D p z u J q
  exact hp v _ _ M' B w' (W v b n) c j
theorem L0.toP {C:Cx}{f:FuncId}{args:List A}{H:N0}{Q:A→N0→Prop}(h:L0 C f args H Q):F2 C f args H Q noP:=
 ⟨h.1,fun M G w vs a b c d e=>(h.2 M G w vs a b c d e).mono fun _ _ h=>.inl h⟩
theorem E0.callHL {F:Fx}{L l:List Oper}{o:Oper}{env:Env}{H:N0}{Q:Env→N0→Prop}{d:Option Nat}{g:FuncId}{xs:List A}(idx:List Nat)(a:List A)(cH:N0){c:A→N0→Prop}
  (h:Ke F.C L o env=some (d,g,xs)) (e:LeL (Re (M3 idx H.length) a) xs) (hi:Ii idx H.length=true) (hm:Up (M3 idx H.length) H idx cH) (hc:L0 F.C g a cH c)
  (k:∀ r b,c r b→E0 F L l (put (fun t=>dg (K5 idx cH) (env t)) d (ren (M3 idx H.length) r)) (E9 H idx (M3 idx H.length) (K5 idx cH) b) Q):E0 F L (o::l) env H Q:=
 .callHP idx a cH h e hi hm hc.toP (fun _ _ h=>h.elim) k
def Lb (sz m:Nat)(T1:Nat→Nat→Value):List Value:=(List.range (m * sz)).map fun q=>T1 (q / sz) (q % sz)
theorem Ig {sz m:Nat}{T1:Nat→Nat→Value}:(Lb sz m T1).length=m * sz:=by simp [Lb]
theorem E17 {sz m:Nat}{T1:Nat→Nat→Value}{i j:Nat}(b:j < sz)(hi:i < m):(Lb sz m T1)[i * sz+j]?=some (T1 i j):=by
 have a:i * sz+j < m * sz:=by
  have:(i+1) * sz≤m * sz:=Nat.mul_le_mul_right _ hi
  rw [Nat.add_mul] at this
  omega
 have hz:0 < sz:=by omega
 unfold Lb
 rw [List.getElem?_map,List.getElem?_range a]
 simp only [zqt,zqb]
 rw [Nat.mul_comm i sz,Nat.mul_add_div hz,Nat.mul_add_mod,Nat.div_eq_of_lt b,Nat.mod_eq_of_lt b,Nat.add_zero]
theorem X1q {sz m:Nat}{T1:Nat→Nat→Value}{q:Nat}{v:Value}(h:(Lb sz m T1)[q]?=some v):0 < sz∧q / sz < m∧q % sz < sz∧q=q / sz * sz+q % sz∧v=T1 (q / sz) (q % sz):=by
 unfold Lb at h
 rw [List.getElem?_map] at h
 by_cases hq:q < m * sz
 ·rw [List.getElem?_range hq] at h
  simp only [zqt,zqb] at h
  have hz:0 < sz:=by
   rcases Nat.eq_zero_or_pos sz with h' | h'
   ·subst h'; simp at hq
   ·exact h'
  exact ⟨hz,(Nat.div_lt_iff_lt_mul hz).2 hq,Nat.mod_lt _ hz,by rw [Nat.mul_comm]; exact (Nat.div_add_mod q sz).symm,h.symm⟩
 ·rw [List.getElem?_eq_none (by simp; omega)] at h
  cases h
theorem I1j {M:Mem}{w:World}(o:Good M w){rows:List Row}{v:Value}(h:W4 M (.sl rows) v){sz:Nat}(c:∀ r∈rows,r.length=sz) :
  ∃ (T1:Nat→Nat→Value),(∀ (i j:Nat) r x,rows[i]?=some r→r[j]?=some x→W4 M x (T1 i j))∧
   ((v = .slice none 0 0∧rows=[])∨∃ a cap,v = .slice (some a) rows.length cap∧(cap=0∨a.spot=none)∧rows.length≤cap∧cap≤maxLen∧
     (∀ (i j:Nat),i < rows.length→j < sz→M (a.add (i * sz+j))=some (T1 i j))∧∀ q u,(Lb sz rows.length T1)[q]?=some u→w.cell? (a.add q)=some u∧u.oneCell'=true):=by
 cases h with
 | slnil=>exact ⟨fun _ _=>undef,fun i j r x h=>by simp at h,.inl ⟨rfl,rfl⟩⟩
 | sl b T1 hl hc hm hs hz h1 h2=>
  rename_i a len cap
  subst hl
  have d:∀ (i j:Nat),i < rows.length→j < sz→M (a.add (i * sz+j))=some (T1 i j)∧∃ x,W4 M x (T1 i j):=by
   intro i j hi f
   have hr:rows[i]?=some rows[i]:=zqv hi
   have y:rows[i].length=sz:=c _ (List.getElem_mem hi)
   have s:=hz i _ hr
   have e:b=sz:=by omega
   subst e
   have l:rows[i][j]?=some rows[i][j]:=zqv (by omega)
   exact ⟨h1 i j _ _ hr l,_,h2 i j _ _ hr l⟩
  refine ⟨T1,h2,.inr ⟨a,cap,rfl,hs,hc,hm,fun i j hi f=>(d i j hi f).1,fun q u m=>?_⟩⟩
  obtain ⟨t,p,f3,n,rfl⟩:=X1q m
  obtain ⟨g,x,k⟩:=d _ _ p f3
  rw [← n] at g
  exact ⟨o.cell g k,k.one⟩
def Tok (M:Mem)(w:World)(e sz:Nat)(v:Value):Prop:=Rj M (fun _=>.tuple #[]) w (.tok e sz) v
theorem Js {P:Program}{T:TT}(hT:TOk P T){M:Mem}{w:World}(N:Good M w){t e ty:Nat}{it W:TI}(ht:B4 T t=some it)(hu:it.u = .sl e)(he:B4 T e=some W){rows news:List Row}{v u:Value}
  (hv:W4 M (.sl rows) v) (b8:W4 M (.sl news) u) (O:Tok M w e W.size v) (hr:∀ r∈rows,r.length=W.size) (hn:∀ r∈news,r.length=W.size) (hb:(rows.length+news.length) * W.bytes≤140737488355328)
  (hm:rows.length+news.length≤maxLen) :
  ∃ v' w' M',(Builtin.append_ #[t,t] ty #[v,u]).run P w = .ok v' w'∧W4 M' (.sl (rows++news)) v'∧Tok M' w' e W.size v'∧Good M' w'∧
   Ext (fun b=>blk (.tok e W.size) v=some b) M w M' w'∧∀ b,blk (.tok e W.size) v'=some b→blk (.tok e W.size) v=some b∨w.heap.size≤b:=by
 have fe:=hT.facts he
 have hd:=Io (hT.facts ht) hu
 obtain ⟨info,hi,K,c1,z,hz,c0,_,_⟩:=fe.info
 have c6:=fe.pos
 have c2:z.cells.size=W.size:=by have:=fe.len; simp only [Array.length_toList] at c0; omega
 obtain ⟨d,b3,b7⟩:=I1j N b8 hn
 obtain ⟨T1,a9,a1⟩:=I1j N hv hr
 generalize hszv:W.size=sz at *
 have H:(rows.length+news.length) * info.bytes≤140737488355328:=by rw [c1]; exact hb
 rcases b7 with ⟨rfl,rfl⟩ | ⟨na,U,rfl,d1,c9,c7,d0,I⟩
 ·have A:(Builtin.append_ #[t,t] ty #[v,.slice none 0 0]).run P w = .ok v w:=by
   rcases a1 with ⟨rfl,rfl⟩ | ⟨a,cap,rfl,hs,hc,L,hM,X⟩
   ·simp [Builtin.append_,run_underlying hd,sizeOf,typeInfo,hi,Builtin.lenOf,Builtin.firstCells]
   ·simp [Builtin.append_,run_underlying hd,sizeOf,typeInfo,hi,Builtin.lenOf,Builtin.firstCells,hc,storeCells]
  refine ⟨v,w,M,A,by simpa using hv,by simpa using O,N,Ext.refl _ _ _,fun b hb=>.inl (by simpa using hb)⟩
 have V:∀ (D:List Value) (cap':Nat) (w1:World) (zs:Array Value),D=Lb sz rows.length T1→rows.length+news.length≤cap'→cap'≤maxLen→w1.heap=w.heap→w1.os=w.os→w1.output=w.output→w1.tape=w.tape→
   zs.size=(cap' - (rows.length+news.length)) * sz→
   ∃ M',W4 M' (.sl (rows++news)) (.slice (some ⟨w.heap.size,0,none⟩) (rows.length+news.length) cap')∧
    Tok M' (w1.alloc (.cells (D.toArray++(Lb sz news.length d).toArray++zs) e)) e sz (.slice (some ⟨w.heap.size,0,none⟩) (rows.length+news.length) cap')∧
    Good M' (w1.alloc (.cells (D.toArray++(Lb sz news.length d).toArray++zs) e))∧
    Ext C9 M w M' (w1.alloc (.cells (D.toArray++(Lb sz news.length d).toArray++zs) e)):=by
  intro D cap' w1 zs holds b6 L y c5 b4 a6 b5
  have F:w1.heap.size=w.heap.size:=by rw [y]
  let cs:Array Value:=D.toArray++(Lb sz news.length d).toArray++zs
  let M':Mem:=fun p=>if p.block=w.heap.size∧p.spot=none∧p.off < (rows.length+news.length) * sz then cs[p.off]? else M p
  have c4:cs.size=rows.length * sz+news.length * sz+zs.size:=by simp [cs,holds,Ig,Nat.add_assoc]
  have a7:∀ (i j:Nat),i < rows.length→j < sz→cs[i * sz+j]?=some (T1 i j):=fun i j f S=>by
   have C:i * sz+j < rows.length * sz:=by
    have:(i+1) * sz≤rows.length * sz:=Nat.mul_le_mul_right _ f
    rw [Nat.add_mul] at this; omega
   simp only [cs]
   rw [Array.getElem?_append_left (by simp [holds,Ig]; omega),Array.getElem?_append_left (by simp [holds,Ig]; exact C),List.getElem?_toArray,holds,E17 S f]
  have b2:∀ (i j:Nat),i < news.length→j < sz→cs[(rows.length+i) * sz+j]?=some (d i j):=fun i j f S=>by
   have C:i * sz+j < news.length * sz:=by
    have:(i+1) * sz≤news.length * sz:=Nat.mul_le_mul_right _ f
    rw [Nat.add_mul] at this; omega
   simp only [cs]
   rw [Nat.add_mul,Array.getElem?_append_left (by simp [holds,Ig]; omega),Array.getElem?_append_right (by simp [holds,Ig]; omega),List.getElem?_toArray]
   simp only [List.size_toArray,holds,Ig]
   rw [show rows.length * sz+i * sz+j - rows.length * sz=i * sz+j by omega,E17 S f]
  have m:∀ p x,M p=some x→M' p=some x:=fun p x g=>by
   have:=N.lt g
   simp only [M']
   rw [zn (by omega)]
   exact g
  refine ⟨M',?_,.inr ⟨⟨w.heap.size,0,none⟩,_,cap',rfl,.inr rfl,b6,L,fun C=>⟨rfl,cs,?_,?_,fun k sp hk=>?_⟩⟩,fun p x g=>?_,m,by simp [F],c5,b4,a6,fun b q _=>?_,fun p x g=>?_⟩
  ·refine .sl sz (fun i j=>if i < rows.length then T1 i j else d (i - rows.length) j) (by simp) b6 L (.inr rfl) (fun i r l=>?_) (fun i j r x l g=>?_) fun i j r x l g=>?_
   ·rcases List.mem_append.1 (List.mem_of_getElem? l) with h' | h'
    ·exact hr r h'
    ·exact hn r h'
   ·have a5:r.length=sz:=by
     rcases List.mem_append.1 (List.mem_of_getElem? l) with h' | h'
     ·exact hr r h'
     ·exact hn r h'
    have S:j < sz:=by rw [← a5]; exact (zqu.1 g).1
    have a8:i < rows.length+news.length:=by have:=(zqu.1 l).1; simpa using this
    have C:i * sz+j < (rows.length+news.length) * sz:=by
     have:(i+1) * sz≤(rows.length+news.length) * sz:=Nat.mul_le_mul_right _ a8
     rw [Nat.add_mul] at this; omega
    rw [Pe]
    simp only [M',Nat.zero_add]
    rw [zp ⟨trivial,trivial,C⟩]
    by_cases f:i < rows.length
    ·rw [zp f,a7 i j f S]
    ·rw [zn f]
     have:=b2 (i - rows.length) j (by omega) S
     rwa [show rows.length+(i - rows.length)=i by omega] at this
   ·by_cases f:i < rows.length
    ·rw [zqx f] at l
     simp only [zp f]
     exact (a9 i j r x l g).mono m
    ·rw [List.getElem?_append_right (by omega)] at l
     simp only [zn f]
     exact (b3 _ j r x l g).mono m
  ·have:=heap_alloc_new w1 (.cells cs e)
   rw [F] at this
   exact this
  ·rw [c4,b5,← Nat.add_mul,← Nat.add_mul]
   exact Nat.mul_le_mul_right _ (by omega)
  ·simp only [M']
   rw [zn (by omega)]
   cases hM:M ⟨w.heap.size,k,sp⟩ with
   | none=>rfl
   | some x=>have:=N.lt hM; simp at this
  ·simp only [M'] at g
   split at g
   ·rename_i hc
    obtain ⟨b,o,s⟩:=p
    simp only at hc g
    obtain ⟨rfl,rfl,hc⟩:=hc
    refine .inl ⟨rfl,?_⟩
    rw [Pr (w:=w1.alloc (.cells cs e)) (b:=w.heap.size) (vs:=cs) (e:=e) (fr:=(0,0)) (by rw [← F]; exact heap_alloc_new w1 _)]
    exact g
   ·exact Y1e (by rw [heap_alloc_old w1 _ _ (by rw [F]; exact N.lt g),y]) (N p x g)
  ·rw [heap_alloc_old w1 _ b (by rw [F]; exact q),y]
  ·simp only [M'] at g
   split at g
   ·rename_i hc; exact .inr (.inr (by omega))
   ·exact .inl g
 have b1:∀ n,(Builtin.zeroCells z.cells n).size=n * sz:=fun n=>by rw [size_zeroCells,c2]
 have a3:(Lb sz news.length d).length=news.length * info.size:=by rw [Ig,K]
 have B:∀ (j:Nat) u,(Lb sz news.length d)[j]?=some u→w.cell? (na.add j)=some u:=fun j u hu=>(I j u hu).1
 rcases a1 with ⟨rfl,rfl⟩ | ⟨a,cap,rfl,hs,hc,L,hM,X⟩
 ·
  by_cases hm0:news.length=0
  ·have a2:news=[]:=List.eq_nil_of_length_eq_zero hm0
   subst a2
   refine ⟨.slice none 0 0,w,M,?_,.slnil,.inl rfl,N,Ext.refl _ _ _,fun b q=>.inl q⟩
   simp [Builtin.append_,run_underlying hd,sizeOf,typeInfo,hi,Builtin.lenOf,Builtin.firstCells,loadCells,loadCellsFrom]
  ·simp only [zqe,Nat.zero_add] at hm H
   have A:=run_append_nil (P:=P) w t ty e info z hd hi hz na news.length U (Lb sz news.length d) a3 B (by omega) (by unfold maxLen at hm; omega) (by omega)
   obtain ⟨M',g1,g2,g3,g4⟩:=V [] (grownCap w news.length 0 e) w.drew _ (by simp [Lb]) (by simpa using grownCap_ge w news.length 0 e) (grownCap_le_maxLen w _ _ e hm) rfl rfl rfl rfl
    (by simpa using b1 (grownCap w news.length 0 e - news.length))
   simp only [zqe,Nat.zero_add,List.nil_append] at g1 g2 g3 g4
   refine ⟨_,_,M',A,g1,by simpa using g2,by simpa using g3,(by simpa using g4:Ext C9 M w M' _).weaken (fun _ h=>h.elim),fun b q=>?_⟩
   simp only [blk] at q
   split at q
   ·simp at q; exact .inr (by omega)
   ·cases q
 ·by_cases hroom:rows.length+news.length≤cap
  ·by_cases hm0:news.length=0
   ·have a2:news=[]:=List.eq_nil_of_length_eq_zero hm0
    subst a2
    refine ⟨.slice (some a) rows.length cap,w,M,?_,by simpa using hv,by simpa using O,N,Ext.refl _ _ _,fun b q=>.inl (by simpa using q)⟩
    simp [Builtin.append_,run_underlying hd,sizeOf,typeInfo,hi,Builtin.lenOf,Builtin.firstCells,hc,storeCells,loadCells,loadCellsFrom]
   ·
    have C:rows.length < cap:=by omega
    rcases O with h' | ⟨a',n',cap',h',_,_,_,c3⟩
    ·cases h'
    ·simp only [Value.slice.injEq,zqb] at h'
     obtain ⟨rfl,rfl,rfl⟩:=h'
     obtain ⟨h0,vs,R,a0,E⟩:=c3 C
     obtain ⟨b,o,sp⟩:=a
     have b9:sp=none:=hs.resolve_left (by omega)
     simp only at h0 R E
     subst h0; subst b9
     have G:rows.length * info.size+(Lb sz news.length d).length≤vs.size:=by
      rw [Ig,K,← Nat.add_mul]
      exact Nat.le_trans (Nat.mul_le_mul_right _ hroom) a0
     have A:=run_append_room (P:=P) w t ty e info hd hi b rows.length cap vs R na news.length U (Lb sz news.length d) a3 B (fun u a4=>by
      obtain ⟨j,S⟩:=List.getElem?_of_mem a4
      exact (I j u S).2) hroom G
     rw [K] at A
     let cs:List Value:=vs.toList.take (rows.length * sz)++Lb sz news.length d++vs.toList.drop (rows.length * sz+(Lb sz news.length d).length)
     have Z:=fun i=>S1c vs.toList (rows.length * sz) (Lb sz news.length d) i (by rw [K] at G; simpa using G)
     let M':Mem:=fun p=>if p.block=b∧p.spot=none∧rows.length * sz≤p.off∧p.off < (rows.length+news.length) * sz then (Lb sz news.length d)[p.off - rows.length * sz]? else M p
     have m:∀ p x,M p=some x→M' p=some x:=fun p x g=>by
      simp only [M']
      rw [zn]
      ·exact g
      ·rintro ⟨q1,q2,q3,_⟩
       obtain ⟨bb,Y,ss⟩:=p
       simp only at q1 q2 q3
       subst q1
       rw [E Y ss q3] at g
       cases g
     have y:(w.setRow b cs.toArray).heap[b]?=some (.cells cs.toArray e (0,0)):=setRow_heap w b vs _ e (0,0) R
     refine ⟨_,_,M',A,?_,?_,?_,?_,?_⟩
     ·refine .sl sz (fun i j=>if i < rows.length then T1 i j else d (i - rows.length) j) (by simp) hroom L (.inr rfl) (fun i r l=>?_) (fun i j r x l g=>?_) fun i j r x l g=>?_
      ·rcases List.mem_append.1 (List.mem_of_getElem? l) with h' | h'
       ·exact hr r h'
       ·exact hn r h'
      ·have a5:r.length=sz:=by
        rcases List.mem_append.1 (List.mem_of_getElem? l) with h' | h'
        ·exact hr r h'
        ·exact hn r h'
       have S:j < sz:=by rw [← a5]; exact (zqu.1 g).1
       by_cases f:i < rows.length
       ·rw [zp f]
        exact m _ _ (hM i j f S)
       ·have a8:i < rows.length+news.length:=by have:=(zqu.1 l).1; simpa using this
        rw [zn f,Pe]
        have e1:i * sz+j=rows.length * sz+((i - rows.length) * sz+j):=by
         have:i * sz=rows.length * sz+(i - rows.length) * sz:=by rw [← Nat.add_mul]; congr 1; omega
         omega
        have b0:(i - rows.length) * sz+j < news.length * sz:=by
         have:(i - rows.length+1) * sz≤news.length * sz:=Nat.mul_le_mul_right _ (by omega)
         rw [Nat.add_mul] at this; omega
        simp only [M',Nat.zero_add]
        rw [zp ⟨trivial,trivial,by omega,by rw [Nat.add_mul]; omega⟩,e1,Nat.add_sub_cancel_left,E17 S (by omega)]
      ·by_cases f:i < rows.length
       ·rw [zqx f] at l
        simp only [zp f]
        exact (a9 i j r x l g).mono m
       ·rw [List.getElem?_append_right (by omega)] at l
        simp only [zn f]
        exact (b3 _ j r x l g).mono m
     ·refine .inr ⟨⟨b,0,none⟩,_,cap,rfl,.inr rfl,hroom,L,fun b0=>⟨rfl,cs.toArray,y,?_,fun k sp hk=>?_⟩⟩
      ·have:cs.length=vs.size:=by
        simp only [cs,zqc,List.length_take,List.length_drop,Array.length_toList]
        rw [K] at G
        omega
       simpa [this] using a0
      ·simp only [M']
       rw [zn (by omega)]
       exact E k sp (Nat.le_trans (Nat.mul_le_mul_right _ (by omega)) hk)
     ·intro p x g
      simp only [M'] at g
      split at g
      ·rename_i J
       obtain ⟨bb,Y,ss⟩:=p
       simp only at J g
       obtain ⟨rfl,rfl,q3,q4⟩:=J
       refine .inl ⟨rfl,?_⟩
       rw [Pr y,List.getElem?_toArray]
       show cs[Y]?=some x
       simp only [cs]
       rw [Z Y,zp ⟨q3,by rw [Ig,← Nat.add_mul]; exact q4⟩]
       exact g
      ·by_cases hbb:p.block=b
       ·obtain ⟨q1,q2⟩:p.spot=none∧w.cell? p=some x:=by
         rcases N p x g with h | ⟨_,ms,cl,h,_⟩
         ·exact h
         ·rw [hbb,R] at h; cases h
        refine .inl ⟨q1,?_⟩
        obtain ⟨bb,Y,ss⟩:=p
        simp only at hbb q1
        subst hbb; subst q1
        have c8:Y < rows.length * sz:=by
         rcases Nat.lt_or_ge Y (rows.length * sz) with h' | h'
         ·exact h'
         ·rw [E Y _ h'] at g; cases g
        rw [Pr R] at q2
        rw [Pr y,List.getElem?_toArray]
        show cs[Y]?=some x
        simp only [cs]
        rw [Z Y,zn (by omega)]
        simpa using q2
       ·exact Y1e (setRow_other w b p.block _ hbb) (N p x g)
     ·refine ⟨m,by rw [O1a]; exact zqr _,rfl,rfl,rfl,fun k _ hk=>setRow_other w b k _ (fun e'=>hk (by simp [blk,C,e'])),fun p x g=>?_⟩
      simp only [M'] at g
      split at g
      ·rename_i J
       exact .inr (.inl (by simp [blk,C,J.1]))
      ·exact .inl g
     ·intro c Q
      simp only [blk] at Q
      split at Q
      ·simp at Q
       subst Q
       exact .inl (by simp [blk,C])
      ·cases Q
  ·have A:=run_append_grow (P:=P) w t ty e info z hd hi hz a rows.length cap (Lb sz rows.length T1) (by rw [Ig,K]) (fun j u a4=>(X j u a4).1) na news.length U (Lb sz news.length d) a3 B
    (by omega) (by unfold maxLen at hm; omega) (growslice_fits (by omega) H)
   obtain ⟨M',g1,g2,g3,g4⟩:=V (Lb sz rows.length T1) (grownCap w (rows.length+news.length) cap e) w.drew (Builtin.zeroCells z.cells (grownCap w (rows.length+news.length) cap e - (rows.length+news.length))) rfl (grownCap_ge w _ _ e) (grownCap_le_maxLen w _ _ e hm) rfl rfl rfl rfl (b1 _)
   refine ⟨_,_,M',A,g1,g2,g3,g4.weaken (fun _ h=>h.elim),fun b q=>?_⟩
   simp only [blk] at q
   split at q
   ·simp at q; exact .inr (by omega)
   ·cases q
theorem St.turnTok {C:Cx}{N:FN}{M M':Mem}{G:Nat→Value}{w w':World}{env:Env}{H:N0}{a:Act}(h:St C N M G w env H a){dst:Option Nat}(V:∀ d,dst=some d→d < N){p e sz e' I:Nat}{v':Value}{x:A}
  (hp:H[p]?=some (.tok e sz)) (f:Ext (fun b=>blk (.tok e sz) (G p)=some b) M w M' w') (hg:Good M' w') (L:Rj M' G w' (.tok e sz) v') (s:∀ b,blk (.tok e sz) v'=some b→blk (.tok e sz) (G p)=some b∨w.heap.size≤b)
  (W:L1 M' (Y7 G p v') x v') (_he:e'=e) (_hs:I=sz) :
  St C N M' (Y7 G p v') w' (put (fun t=>dg [p] (env t)) dst x) (H.map (dgO [p])) (a.put dst v'):=by
 have B:∀ q∈[p],∃ a l c,G q = .slice a l c:=fun q O=>by
  simp at O; subst O
  rcases h.hrel.obj q _ hp with e | ⟨Y,n,cap,e,_⟩
  ·exact ⟨_,_,_,e⟩
  ·exact ⟨_,_,_,e⟩
 have E:∀ o,o ∉ [p]→G o≠.tuple #[]→Y7 G p v' o=G o:=fun o F _=>A3 (by simpa using F)
 have Q:p < H.length:=(zqu.1 hp).1
 have i:∀ (o:Nat) z,(H.map (dgO [p]))[o]?=some z→∃ y,H[o]?=some y∧z=dgO [p] y:=fun o z hz=>by
  rw [List.getElem?_map] at hz
  cases g:H[o]? with
  | none=>rw [g] at hz; cases hz
  | some y=>rw [g] at hz; exact ⟨y,rfl,by simpa using hz.symm⟩
 obtain ⟨p1,S,U⟩:=Xo (env:=fun t=>dg [p] (env t)) (dst:=dst) (x:=x) (a:=a) (v:=v') (N:=N) (M:=M') (G:=Y7 G p v') (fun t=>H1j ((h.env t).mono' f.mono) B E) h.size V W
 refine ⟨hg,h.gl.ext h.hrel f (fun b hb=>⟨p,_,hp,hb⟩),⟨fun o z hz=>?_,fun o o' z R b hz J hb j=>?_,fun o F=>?_⟩,p1,S,U.trans h.defers⟩
 ·obtain ⟨y,g,rfl⟩:=i o z hz
  by_cases hop:o=p
  ·subst hop
   rw [hp] at g
   obtain rfl:=Option.some.inj g
   rw [E4]
   exact L
  ·rw [A3 hop]
   have k:=h.hrel.obj o y g
   refine I1n (k.keep f.mono (fun b hb=>f.block b (Wb k hb) fun j=>hop (h.hrel.apart o p y _ b g hp hb j)) fun b hb off sp hn=>?_) B E
   cases hM:M' ⟨b,off,sp⟩ with
   | none=>rfl
   | some u=>
    rcases f.fresh _ u hM with q | q | q
    ·rw [hn] at q; cases q
    ·exact absurd (h.hrel.apart o p y _ b g hp hb q) hop
    ·have:=Wb k hb; simp only at q; omega
 ·have key:∀ (o:Nat) z b,(H.map (dgO [p]))[o]?=some z→blk z (Y7 G p v' o)=some b→∃ y,H[o]?=some y∧(blk y (G o)=some b∨o=p∧w.heap.size≤b):=by
   intro o z b hz hb
   obtain ⟨y,g,rfl⟩:=i o z hz
   replace hb:=Wr hb
   refine ⟨y,g,?_⟩
   by_cases hop:o=p
   ·subst hop
    rw [hp] at g
    obtain rfl:=Option.some.inj g
    rw [E4] at hb
    rcases s b hb with q | q
    ·exact .inl q
    ·exact .inr ⟨rfl,q⟩
   ·rw [A3 hop] at hb
    exact .inl hb
  obtain ⟨y,g,K⟩:=key o z b hz hb
  obtain ⟨P,D,m⟩:=key o' R b J j
  rcases K with q | ⟨T,X⟩ <;> rcases m with r | ⟨r1,r2⟩
  ·exact h.hrel.apart o o' y P b g D q r
  ·have:=Wb (h.hrel.obj o y g) q; omega
  ·have:=Wb (h.hrel.obj o' P D) r; omega
  ·rw [T,r1]
 ·simp only [List.length_map] at F
  rw [A3 (by omega)]
  exact h.hrel.fresh o F
theorem Q2.turnTok {fr:Fr}{M M':Mem}{G:Nat→Value}{w w':World}{H:N0}(h:Q2 fr M G w H){p e sz:Nat}{v':Value}
  (hp:H[p]?=some (.tok e sz)) (f:Ext (fun b=>blk (.tok e sz) (G p)=some b) M w M' w') (d:∀ b,blk (.tok e sz) v'=some b→blk (.tok e sz) (G p)=some b∨w.heap.size≤b) :
  Q2 fr M' (Y7 G p v') w' (H.map (dgO [p])):=by
 have a:∀ (o:Nat) z,(H.map (dgO [p]))[o]?=some z→∃ y,H[o]?=some y∧z=dgO [p] y:=fun o z hz=>by
  rw [List.getElem?_map] at hz
  cases c:H[o]? with
  | none=>rw [c] at hz; cases hz
  | some y=>rw [c] at hz; exact ⟨y,rfl,by simpa using hz.symm⟩
 have j:p < H.length:=(zqu.1 hp).1
 refine ⟨h.ext.trans f fun b hb=>h.own b ⟨p,_,hp,hb⟩,fun b ⟨o,z,hz,hb⟩=>?_,by simpa using h.len,fun o x g ht=>?_,fun o x y g ht c=>?_⟩
 ·obtain ⟨y,c,rfl⟩:=a o z hz
  replace hb:=Wr hb
  by_cases hop:o=p
  ·subst hop
   rw [hp] at c
   obtain rfl:=Option.some.inj c
   rw [E4] at hb
   rcases d b hb with q | q
   ·exact h.own b ⟨o,_,hp,q⟩
   ·exact .inr (Nat.le_trans h.ext.size q)
  ·rw [A3 hop] at hb
   exact h.own b ⟨o,y,c,hb⟩
 ·have i:o≠p:=fun e'=>by
   subst e'
   have:=h.kind o x _ g ht hp
   simp [isTok] at this
  rw [A3 i]
  exact h.keep o x g ht
 ·obtain ⟨z,hz,rfl⟩:=a o y c
  rw [M1g]
  exact h.kind o x z g ht hz
theorem St.newTok {C:Cx}{N:FN}{M M':Mem}{G:Nat→Value}{w w':World}{env:Env}{H:N0}{a:Act}(h:St C N M G w env H a){dst:Option Nat}(O:∀ d,dst=some d→d < N){e sz:Nat}{v':Value}{x:A}
  (m:Ext C9 M w M' w') (hg:Good M' w') (j:Rj M' G w' (.tok e sz) v') (s:∀ b,blk (.tok e sz) v'=some b→w.heap.size≤b)
  (Q:L1 M' (Y7 G H.length v') x v') :
  St C N M' (Y7 G H.length v') w' (put env dst x) (H++[.tok e sz]) (a.put dst v'):=by
 have E:=h.hrel.ext m (fun _ _ q=>q)
 have g:∀ {x:A} {v:Value},L1 M' G x v→L1 M' (Y7 G H.length v') x v:=fun hr=>hr.mono (fun _ _ e=>e) fun o hn=>A3 (Nat.ne_of_lt (E.lt hr hn))
 obtain ⟨h1,h2,L⟩:=Xo (fun t=>g ((h.env t).mono' m.mono)) h.size O Q
 refine ⟨hg,h.gl.ext h.hrel m (fun _ h=>h.elim),⟨fun o x f=>?_,fun o o' x x' b f n hb D=>?_,fun o f=>?_⟩,h1,h2,L.trans h.defers⟩
 ·rcases Nat.lt_trichotomy o H.length with l | rfl | hgt
  ·rw [zqx l] at f
   rw [A3 (Nat.ne_of_lt l)]
   have j:=E.obj o x f
   cases x with
   | dead=>trivial
   | row cells e=>
    obtain ⟨b,P,u,B,r,p,z,R⟩:=j
    exact ⟨b,P,u,B,r,p,fun i y v a c=>g (z i y v a c),R⟩
   | bld o' e=>
    obtain ⟨b,K,u,B,r,p,z⟩:=j
    have n:o'≠H.length:=fun e=>p (by rw [e]; exact E.fresh _ (zqr _))
    exact ⟨b,K,u,by rw [A3 n]; exact B,r,by rw [A3 n]; exact p,z⟩
   | buf e sz=>exact j
   | tok e sz=>exact j
   | map es=>
    obtain ⟨b,ms,cl,u,B,r,p,z⟩:=j
    exact ⟨b,ms,cl,u,B,r,fun i k cs e a c=>⟨(p i k cs e a c).1,g (p i k cs e a c).2⟩,z⟩
  ·simp at f
   subst f
   rw [E4]
   exact j
  ·rw [List.getElem?_eq_none (by simp; omega)] at f
   cases f
 ·have key:∀ (o:Nat) x b,(H++[Ob.tok e sz])[o]?=some x→blk x (Y7 G H.length v' o)=some b→(o < H.length∧H[o]?=some x∧blk x (G o)=some b∧b < w.heap.size)∨(o=H.length∧w.heap.size≤b):=by
   intro o x b f hb
   rcases Nat.lt_trichotomy o H.length with l | rfl | hgt
   ·rw [zqx l] at f
    rw [A3 (Nat.ne_of_lt l)] at hb
    exact .inl ⟨l,f,hb,Wb (h.hrel.obj o x f) hb⟩
   ·simp at f
    subst f
    rw [E4] at hb
    exact .inr ⟨rfl,s b hb⟩
   ·rw [List.getElem?_eq_none (by simp; omega)] at f
    cases f
  rcases key o x b f hb with ⟨J,F,I,S⟩ | ⟨J,F⟩ <;> rcases key o' x' b n D with ⟨p1,p2,p3,p4⟩ | ⟨p1,p2⟩
  ·exact h.hrel.apart o o' x x' b F p2 I p3
  ·omega
  ·omega
  ·omega
 ·simp at f
  rw [A3 (by omega)]
  exact h.hrel.fresh o (by omega)
theorem Q2.newTok {fr:Fr}{M M':Mem}{G:Nat→Value}{w w':World}{H:N0}(h:Q2 fr M G w H){e sz:Nat}{v':Value}(f:Ext C9 M w M' w')(d:∀ b,blk (.tok e sz) v'=some b→w.heap.size≤b) :
  Q2 fr M' (Y7 G H.length v') w' (H++[.tok e sz]):=by
 refine ⟨h.ext.trans f (fun _ h=>h.elim),fun b hb=>?_,by simp; have:=h.len; omega,fun o x c ht=>?_,fun o x y c ht i=>?_⟩
 ·obtain ⟨o,x,c,g⟩:=hb
  rcases Nat.lt_trichotomy o H.length with a | rfl | hgt
  ·rw [zqx a] at c
   rw [A3 (Nat.ne_of_lt a)] at g
   exact h.own b ⟨o,x,c,g⟩
  ·simp at c
   subst c
   rw [E4] at g
   exact .inr (Nat.le_trans h.ext.size (d b g))
  ·rw [List.getElem?_eq_none (by simp; omega)] at c
   cases c
 ·have a:o < H.length:=Nat.lt_of_lt_of_le (zqu.1 c).1 h.len
  rw [A3 (Nat.ne_of_lt a)]
  exact h.keep o x c ht
 ·have a:o < H.length:=Nat.lt_of_lt_of_le (zqu.1 c).1 h.len
  rw [zqx a] at i
  exact h.kind o x y c ht i
def dgC (ps:List Nat):List A→Option (List A)
 | []=>some []
 | x::r=>match frc (dg ps x),dgC ps r with | some y,some r'=>some (y::r') | _,_=>none
theorem Y1q {ps:List Nat}:∀ {l l':List A},dgC ps l=some l'→l'=dgL ps l
 | [],l',h=>by simp [dgC] at h; subst h; rfl
 | x::r,l',h=>by
  simp only [dgC] at h
  split at h
  ·rename_i y b a hr
   simp only [zqb] at h
   subst h
   rw [Dt a,Y1q hr]
   rfl
  ·cases h
def dgH (ps:List Nat):N0→Option N0
 | []=>some []
 | .row cs e::r=>match dgC ps cs,dgH ps r with | some cs',some r'=>some (.row cs' e::r') | _,_=>none
 | .dead::r=>match dgH ps r with | some r'=>some (.dead::r') | none=>none
 | .bld o e::r=>match dgH ps r with | some r'=>some ((bif ps.contains o then .dead else .bld o e)::r') | none=>none
 | .buf e sz::r=>match dgH ps r with | some r'=>some (.buf e sz::r') | none=>none
 | .tok e sz::r=>match dgH ps r with | some r'=>some (.tok e sz::r') | none=>none
 | .map es::r=>match dgH ps r with | some r'=>some (.map es::r') | none=>none
theorem Ow {ps:List Nat}:∀ {H H':N0},dgH ps H=some H'→H'=H.map (dgO ps)
 | [],H',h=>by simp [dgH] at h; subst h; rfl
 | .row cs e::r,H',h=>by
  simp only [dgH] at h
  split at h
  ·rename_i b a hc hr
   simp only [zqb] at h
   subst h
   rw [Y1q hc,Ow hr]
   rfl
  ·cases h
 | .dead::r,H',h=>by
  simp only [dgH] at h
  split at h
  ·rename_i a hr
   simp only [zqb] at h
   subst h
   rw [Ow hr]; rfl
  ·cases h
 | .bld o e::r,H',h=>by
  simp only [dgH] at h
  split at h
  ·rename_i a hr
   simp only [zqb] at h
   subst h
   rw [Ow hr]; rfl
  ·cases h
 | .buf e sz::r,H',h=>by
  simp only [dgH] at h
  split at h
  ·rename_i a hr
   simp only [zqb] at h
   subst h
   rw [Ow hr]; rfl
  ·cases h
 | .tok e sz::r,H',h=>by
  simp only [dgH] at h
  split at h
  ·rename_i a hr
   simp only [zqb] at h
   subst h
   rw [Ow hr]; rfl
  ·cases h
 | .map es::r,H',h=>by
  simp only [dgH] at h
  split at h
  ·rename_i a hr
   simp only [zqb] at h
   subst h
   rw [Ow hr]; rfl
  ·cases h
structure Ap where
 d:Option Nat
 p:Nat
 new:Bool
 rows:List Row
 news:List Row
 sz:Nat
 bytes:Nat
 H:N0
def X1o (C:Cx)(L:List Oper)(o:Oper)(env:Env)(H:N0):Option Ap:=
 match Z1 L env o,o.op,Zc o with
 | some true,.call { callee:=.builtin .append,args,argTypes },some d=>
  match args.toList,argTypes.toList with
  | [x,y],[t,t']=>bif Nat.beq t t' then
   (match B4 C.T t,Mw (ev C.GL env y) with
   | some it,some news=>match it.u with
    | .sl e=>match B4 C.T e with
     | some ie=>match ev C.GL env x with
      | .osl p rows=>match nth H p with
       | some (.tok e' sz')=>bif Nat.beq e e'&&Nat.beq ie.size sz' then (match dgH [p] H with | some H'=>some ⟨d,p,false,rows,news,ie.size,ie.bytes,H'⟩ | none=>none) else none
       | _=>none
      | .full rows=>match Rv H (.tok e ie.size) with
       | some (n,H')=>some ⟨d,n,true,rows,news,ie.size,ie.bytes,H'⟩
       | none=>none
      | _=>none
     | none=>none
    | _=>none
   | _,_=>none) else none
  | _,_=>none
 | _,_,_=>none
theorem Fo {P:Program}{ρ:Operand→Value}{o:Oper}{x y:Operand}{t t':TypeId}{args:Array Operand}{a:Array TypeId}(b:o.op = .call { callee:=.builtin .append,args:=args,argTypes:=a })(ha:args.toList=[x,y])(ht:a.toList=[t,t']){w w':World}{v:Value}
  (h:(Builtin.append_ #[t,t'] o.type #[ρ x,ρ y]).run P w = .ok v w'):(execOp ρ o).run P w = .ok (.value v) w':=by
 obtain rfl:args = #[x,y]:=by rw [← Array.toArray_toList (xs:=args),ha]
 obtain rfl:a = #[t,t']:=by rw [← Array.toArray_toList (xs:=a),ht]
 unfold execOp
 simp [b,resolve,invoke,builtin,h]
theorem Ks {M:Mem}{G:Nat→Value}{w:World}{rows:List Row}{v:Value}(h:W4 M (.sl rows) v)(hf:L1q v)(e sz:Nat):Rj M G w (.tok e sz) v∧∀ b,blk (.tok e sz) v≠some b:=by
 cases h with
 | slnil=>exact ⟨.inl rfl,fun b hb=>by simp [blk] at hb⟩
 | sl f T1 hl hc hm hs hz h1 h2=>
  rename_i a len cap
  have d:len=cap:=hf
  subst d
  exact ⟨.inr ⟨a,len,len,rfl,hs,zqr _,hm,fun c=>absurd c (Nat.lt_irrefl _)⟩,fun b hb=>by simp [blk] at hb⟩
theorem E0.a {F:Fx}(hC:F3 F.C){L l:List Oper}{o:Oper}{env:Env}{H:N0}{Q:Env→N0→Prop}{d:Option Nat}{p:Nat}{nw:Bool}{rows news:List Row}{sz bytes:Nat}{H':N0}
  (h:X1o F.C L o env H=some ⟨d,p,nw,rows,news,sz,bytes,H'⟩) (h1:∀ r∈rows,r.length=sz) (h2:∀ r∈news,r.length=sz) (h3:(rows.length+news.length) * (bytes+1)≤140737488355328)
  (k:E0 F L l (put (bif nw then env else fun t=>dg [p] (env t)) d (.osl p (rows++news))) H' Q):E0 F L (o::l) env H Q:=by
 unfold X1o at h
 split at h
 ·rename_i args ts dd hw V hd
  split at h
  ·rename_i x y t t' ha ht
   cases hb:Nat.beq t t' with
   | false=>rw [hb] at h; cases h
   | true=>
    rw [hb] at h
    obtain rfl:=zqo hb
    simp only [zqk] at h
    split at h
    ·rename_i it j B i
     split at h
     ·rename_i e hu
      split at h
      ·rename_i P I
       have Z:x∈o.op.operands∧y∈o.op.operands:=by
        rw [V]
        obtain rfl:args = #[x,y]:=by rw [← Array.toArray_toList (xs:=args),ha]
        simp [Op.operands,Call.operands]
       have g:(rows.length+news.length) * bytes≤140737488355328∧rows.length+news.length≤maxLen:=by
        have:(rows.length+news.length) * (bytes+1)=(rows.length+news.length) * bytes+(rows.length+news.length):=Nat.mul_succ _ _
        unfold maxLen
        omega
       split at h
       ·rename_i q f S
        split at h
        ·rename_i e' W O
         cases hbb:Nat.beq e e'&&Nat.beq P.size W with
         | false=>rw [hbb] at h; cases h
         | true=>
          rw [hbb] at h
          simp only [zqi] at hbb
          obtain rfl:=zqo hbb.1
          obtain rfl:=zqo hbb.2
          simp only [zqk] at h
          split at h
          ·rename_i H2 U
           simp only [zqb,Ap.mk.injEq] at h
           obtain ⟨rfl,rfl,rfl,rfl,rfl,rfl,rfl,rfl⟩:=h
           refine Nj hw fun fr M G w a K Qw hK m hs u hk=>?_
           have c:=hs.eval x
           rw [S] at c
           generalize hxv:a.eval x=xv at c
           cases c
           rename_i N s
           rw [Q3] at O
           have A:Tok M w e P.size xv:=by have:=hs.hrel.obj _ _ O; rw [N] at this; exact this
           obtain ⟨v',w',M',T,Y,X,R,J,E⟩:=Js (ty:=o.type) hC.tok hs.good B hu I s (Tj i (hs.eval y)) A h1 h2 g.1 g.2
           unfold Oper.wp
           rw [Fo V ha ht (by rw [hxv]; exact T)]
           have e1:=Ow U
           subst e1
           rw [← N] at J E
           refine hk (.osl q (f++j)) (fun t=>dg [q] (env t)) _ M' (Y7 G q v') w' v' ?_ (hs.turnTok (G6 m) O J R X E (.osl Y E4) rfl rfl) (u.turnTok O J E)
           rw [W8 hd]
           exact k
          ·cases h
        ·cases h
       ·rename_i f S
        split at h
        ·rename_i n H2 U
         simp only [zqb,Ap.mk.injEq] at h
         obtain ⟨rfl,rfl,rfl,rfl,rfl,rfl,rfl,rfl⟩:=h
         obtain ⟨rfl,rfl⟩:=Tr U
         refine Nj hw fun fr M G w a K Qw hK m hs u hk=>?_
         have c:=hs.eval x
         rw [S] at c
         generalize hxv:a.eval x=xv at c
         cases c
         rename_i v s
         obtain ⟨t1,t2⟩:=Ks (G:=fun _=>.tuple #[]) (w:=w) s v e P.size
         obtain ⟨v',w',M',T,Y,X,R,J,E⟩:=Js (ty:=o.type) hC.tok hs.good B hu I s (Tj i (hs.eval y)) t1 h1 h2 g.1 g.2
         unfold Oper.wp
         rw [Fo V ha ht (by rw [hxv]; exact T)]
         have z:Ext C9 M w M' w':=J.weaken fun b hb=>absurd hb (t2 b)
         have D:∀ b,blk (.tok e P.size) v'=some b→w.heap.size≤b:=fun b hb=>(E b hb).resolve_left (t2 b)
         refine hk (.osl H.length (f++j)) env _ M' (Y7 G H.length v') w' v' ?_ (hs.newTok (G6 m) z R X D (.osl Y E4)) (u.newTok z D)
         rw [W8 hd]
         exact k
        ·cases h
       ·cases h
      ·cases h
     ·cases h
    ·cases h
  ·cases h
 ·cases h
end Go.Am

