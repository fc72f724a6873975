/-
  An abstract machine over the model: values without addresses, and what relates them to the model's values and worlds.
  'D' is immutable data (one cell each; a struct is a list of them), 'A' a value of a running function, 'Obj' an object of memory that the running function owns.
-/
import Derived.Orders
import Derived.Laws.Sem
import Derived.Laws.World
import GoSem.ClaimData
namespace Go.Am

/-- the typed nils -/
inductive Nk where
  | ptr | map | func | iface
  deriving DecidableEq

/-- immutable data, one cell each; a slice holds rows of cells -/
inductive D where
  | bool (b : Bool)
  | int (k : IntKind) (n : Int)
  | str (s : List UInt8)
  | sl (rows : List (List D))
  | nilv (k : Nk)

abbrev Row := List D

/-- a value of a running function -/
inductive A where
  | d (x : D)
  | junk
  /-- an address in the object 'o', at a cell -/
  | ref (o off : Nat)
  /-- an address of immutable cells -/
  | ptr (cells : List D)
  /-- a slice that is full: an append to it makes new memory -/
  | full (rows : List (List D))
  /-- a slice whose spare room the object 'o' owns -/
  | osl (o : Nat) (rows : List (List D))
  /-- a slice over the cells of the object 'o' -/
  | rsl (o off len cap : Nat)
  | clo (f : FuncId) (caps : List A)
  | agg (cells : List A)
  | tup (vs : List A)
  | mp (o : Nat)

/-- an object of memory -/
inductive Ob where
  | dead
  | row (cells : List A) (elem : TypeId)
  /-- the room behind the elements of a slice -/
  | tok (elem : TypeId) (sz : Nat)
  | map (es : List (List UInt8 × List D))
  /-- a strings.Builder: nil or its own address, and the slice that the object 'o' is -/
  | bld (o : Nat) (elem : TypeId)
  /-- the bytes of a builder, and the room behind them -/
  | buf (elem : TypeId) (bs : List UInt8)

abbrev Mem := Addr → Option Value
abbrev Env := Nat → A
abbrev Heap := List Ob

def InK (k : IntKind) (n : Int) : Prop := k.min ≤ n ∧ n ≤ k.max
instance (k : IntKind) (n : Int) : Decidable (InK k n) := inferInstanceAs (Decidable (_ ∧ _))

theorem inK_i64 {n : Int} : InK .i64 n ↔ -9223372036854775808 ≤ n ∧ n ≤ 9223372036854775807 := Iff.rfl
theorem inK_u8 {n : Int} : InK .u8 n ↔ 0 ≤ n ∧ n ≤ 255 := Iff.rfl
theorem inK_i32 {n : Int} : InK .i32 n ↔ -2147483648 ≤ n ∧ n ≤ 2147483647 := Iff.rfl
theorem wrap_i64 {n : Int} (h : -9223372036854775808 ≤ n) (h' : n ≤ 9223372036854775807) : IntKind.i64.wrap n = n := by
  show (let m := n % 18446744073709551616; if true && decide (m ≥ 9223372036854775808) then m - 18446744073709551616 else m) = n
  simp only [Bool.true_and, decide_eq_true_eq, ge_iff_le]
  split <;> omega
theorem wrap_u8 {n : Int} (h : 0 ≤ n) (h' : n ≤ 255) : IntKind.u8.wrap n = n := by
  show (let m := n % 256; if false && decide (m ≥ 128) then m - 256 else m) = n
  simp only [Bool.false_and, Bool.false_eq_true, if_false]
  omega

theorem inK_wrap (k : IntKind) (n : Int) : InK k (k.wrap n) := by
  cases k
  case i64 =>
    rw [inK_i64]
    show -9223372036854775808 ≤ (let m := n % 18446744073709551616; if true && decide (m ≥ 9223372036854775808) then m - 18446744073709551616 else m) ∧ (let m := n % 18446744073709551616; if true && decide (m ≥ 9223372036854775808) then m - 18446744073709551616 else m) ≤ 9223372036854775807
    simp only [Bool.true_and, decide_eq_true_eq, ge_iff_le]
    split <;> omega
  case i32 =>
    rw [inK_i32]
    show -2147483648 ≤ (let m := n % 4294967296; if true && decide (m ≥ 2147483648) then m - 4294967296 else m) ∧ (let m := n % 4294967296; if true && decide (m ≥ 2147483648) then m - 4294967296 else m) ≤ 2147483647
    simp only [Bool.true_and, decide_eq_true_eq, ge_iff_le]
    split <;> omega
  case i16 =>
    show -32768 ≤ (let m := n % 65536; if true && decide (m ≥ 32768) then m - 65536 else m) ∧ (let m := n % 65536; if true && decide (m ≥ 32768) then m - 65536 else m) ≤ 32767
    simp only [Bool.true_and, decide_eq_true_eq, ge_iff_le]
    split <;> omega
  case i8 =>
    show -128 ≤ (let m := n % 256; if true && decide (m ≥ 128) then m - 256 else m) ∧ (let m := n % 256; if true && decide (m ≥ 128) then m - 256 else m) ≤ 127
    simp only [Bool.true_and, decide_eq_true_eq, ge_iff_le]
    split <;> omega
  case u8 =>
    show 0 ≤ (let m := n % 256; if false && decide (m ≥ 128) then m - 256 else m) ∧ (let m := n % 256; if false && decide (m ≥ 128) then m - 256 else m) ≤ 255
    simp only [Bool.false_and, Bool.false_eq_true, if_false]
    omega
  case u16 =>
    show 0 ≤ (let m := n % 65536; if false && decide (m ≥ 32768) then m - 65536 else m) ∧ (let m := n % 65536; if false && decide (m ≥ 32768) then m - 65536 else m) ≤ 65535
    simp only [Bool.false_and, Bool.false_eq_true, if_false]
    omega
  case u32 =>
    show 0 ≤ (let m := n % 4294967296; if false && decide (m ≥ 2147483648) then m - 4294967296 else m) ∧ (let m := n % 4294967296; if false && decide (m ≥ 2147483648) then m - 4294967296 else m) ≤ 4294967295
    simp only [Bool.false_and, Bool.false_eq_true, if_false]
    omega
  case u64 =>
    show 0 ≤ (let m := n % 18446744073709551616; if false && decide (m ≥ 9223372036854775808) then m - 18446744073709551616 else m) ∧ (let m := n % 18446744073709551616; if false && decide (m ≥ 9223372036854775808) then m - 18446744073709551616 else m) ≤ 18446744073709551615
    simp only [Bool.false_and, Bool.false_eq_true, if_false]
    omega

/-- data against a value -/
inductive RelD (M : Mem) : D → Value → Prop
  | bool {b} : RelD M (.bool b) (.bool b)
  | int {k n} (h : InK k n) : RelD M (.int k n) (.int k n)
  | str {s : List UInt8} (h : s.length ≤ maxLen) : RelD M (.str s) (.string ⟨s.toArray⟩)
  | slnil : RelD M (.sl []) (.slice none 0 0)
  | sl {rows : List Row} {a : Addr} {len cap : Nat} (sz : Nat) (vals : Nat → Nat → Value) (hl : rows.length = len) (hc : len ≤ cap) (hm : cap ≤ maxLen) (hs : cap = 0 ∨ a.spot = none)
      (hz : ∀ (i : Nat) r, rows[i]? = some r → r.length = sz)
      (h1 : ∀ (i j : Nat) r x, rows[i]? = some r → r[j]? = some x → M (a.add (i * sz + j)) = some (vals i j))
      (h2 : ∀ (i j : Nat) r x, rows[i]? = some r → r[j]? = some x → RelD M x (vals i j)) : RelD M (.sl rows) (.slice (some a) len cap)
  | nilptr : RelD M (.nilv .ptr) (.pointer none)
  | nilmap : RelD M (.nilv .map) (.map none)
  | nilfunc : RelD M (.nilv .func) .nilFunc
  | niliface : RelD M (.nilv .iface) .nilIface

theorem RelD.mono {M M' : Mem} (hm : ∀ a v, M a = some v → M' a = some v) {x : D} {v : Value} (h : RelD M x v) : RelD M' x v := by
  induction h with
  | bool => exact .bool
  | int h => exact .int h
  | str h => exact .str h
  | slnil => exact .slnil
  | sl sz vals hl hc hmx hs hz h1 _ ih => exact .sl sz vals hl hc hmx hs hz (fun i j r x a b => hm _ _ (h1 i j r x a b)) ih
  | nilptr => exact .nilptr
  | nilmap => exact .nilmap
  | nilfunc => exact .nilfunc
  | niliface => exact .niliface

theorem RelD.one {M : Mem} {x : D} {v : Value} (h : RelD M x v) : v.oneCell' = true := by cases h <;> rfl
theorem RelD.cells {M : Mem} {x : D} {v : Value} (h : RelD M x v) : v.cells = #[v] := by cases h <;> rfl

/-- a slice without room behind it -/
def isFull : Value → Prop
  | .slice none _ _ => True
  | .slice (some _) len cap => len = cap
  | _ => False

/-- a value against the model's -/
inductive RelA (M : Mem) (G : Nat → Value) : A → Value → Prop
  | d {x v} (h : RelD M x v) : RelA M G (.d x) v
  | junk {v} : RelA M G .junk v
  | ref {o off b} (h : G o = .pointer (some ⟨b, 0, none⟩)) : RelA M G (.ref o off) (.pointer (some ⟨b, off, none⟩))
  | ptr {cells : List D} {a : Addr} (vals : Nat → Value) (hs : a.spot = none) (h1 : ∀ (j : Nat) x, cells[j]? = some x → M (a.add j) = some (vals j))
      (h2 : ∀ (j : Nat) x, cells[j]? = some x → RelD M x (vals j)) : RelA M G (.ptr cells) (.pointer (some a))
  | full {rows v} (h : RelD M (.sl rows) v) (hf : isFull v) : RelA M G (.full rows) v
  | osl {o rows v} (h : RelD M (.sl rows) v) (hg : G o = v) : RelA M G (.osl o rows) v
  | rsl {o off len cap b} (h : G o = .pointer (some ⟨b, 0, none⟩)) (hc : len ≤ cap) (hm : cap ≤ maxLen) : RelA M G (.rsl o off len cap) (.slice (some ⟨b, off, none⟩) len cap)
  | clo {f : FuncId} {caps : List A} {vs : Array Value} (hl : caps.length = vs.size) (h : ∀ (i : Nat) x v, caps[i]? = some x → vs[i]? = some v → RelA M G x v) :
      RelA M G (.clo f caps) (.func (.func f) #[] vs)
  | agg {cells : List A} {vs : Array Value} (hl : cells.length = vs.size) (h1 : ∀ (i : Nat) v, vs[i]? = some v → v.oneCell' = true)
      (h : ∀ (i : Nat) x v, cells[i]? = some x → vs[i]? = some v → RelA M G x v) : RelA M G (.agg cells) (.agg vs)
  | tup {xs : List A} {vs : Array Value} (hl : xs.length = vs.size) (h : ∀ (i : Nat) x v, xs[i]? = some x → vs[i]? = some v → RelA M G x v) : RelA M G (.tup xs) (.tuple vs)
  | mp {o b} (h : G o = .map (some b)) : RelA M G (.mp o) (.map (some b))

/-- which objects a value names -/
inductive Names : A → Nat → Prop
  | ref {o off} : Names (.ref o off) o
  | osl {o rows} : Names (.osl o rows) o
  | rsl {o a b c} : Names (.rsl o a b c) o
  | mp {o} : Names (.mp o) o
  | clo {f caps x o} (h : x ∈ caps) (h' : Names x o) : Names (.clo f caps) o
  | agg {cells x o} (h : x ∈ cells) (h' : Names x o) : Names (.agg cells) o
  | tup {xs x o} (h : x ∈ xs) (h' : Names x o) : Names (.tup xs) o

theorem RelA.mono {M M' : Mem} {G G' : Nat → Value} (hm : ∀ a v, M a = some v → M' a = some v) {x : A} {v : Value} (h : RelA M G x v) (hg : ∀ o, Names x o → G' o = G o) : RelA M' G' x v := by
  induction h with
  | d h => exact .d (h.mono hm)
  | junk => exact .junk
  | ref h => exact .ref ((hg _ .ref).trans h)
  | ptr vals hs h1 h2 => exact .ptr vals hs (fun j x e => hm _ _ (h1 j x e)) (fun j x e => (h2 j x e).mono hm)
  | full h hf => exact .full (h.mono hm) hf
  | osl h hg' => exact .osl (h.mono hm) ((hg _ .osl).trans hg')
  | rsl h hc hmx => exact .rsl ((hg _ .rsl).trans h) hc hmx
  | clo hl _ ih => exact .clo hl fun i x v a b => ih i x v a b fun o ho => hg o (.clo (List.mem_of_getElem? a) ho)
  | agg hl h1 _ ih => exact .agg hl h1 fun i x v a b => ih i x v a b fun o ho => hg o (.agg (List.mem_of_getElem? a) ho)
  | tup hl _ ih => exact .tup hl fun i x v a b => ih i x v a b fun o ho => hg o (.tup (List.mem_of_getElem? a) ho)
  | mp h => exact .mp ((hg _ .mp).trans h)

theorem RelA.mono' {M M' : Mem} {G : Nat → Value} (hm : ∀ a v, M a = some v → M' a = some v) {x : A} {v : Value} (h : RelA M G x v) : RelA M' G x v := h.mono hm fun _ _ => rfl

/-- which block an object owns -/
def blk : Ob → Value → Option Nat
  | .row _ _, .pointer (some a) => some a.block
  | .tok _ _, .slice (some a) len cap => if len < cap then some a.block else none
  | .map _, .map r => r
  | .bld _ _, .pointer (some a) => some a.block
  | .buf _ _, .slice (some a) _ _ => some a.block
  | _, _ => none

/-- a row of data as a value -/
def rowA : Row → A
  | [x] => .d x
  | cs => .agg (cs.map .d)

/-- an object against a world -/
def ObRel (M : Mem) (G : Nat → Value) (w : World) : Ob → Value → Prop
  | .dead, _ => True
  | .row cells elem, g => ∃ b vs, g = .pointer (some ⟨b, 0, none⟩) ∧ w.heap[b]? = some (.cells vs elem (0, 0)) ∧ vs.size = cells.length ∧ (∀ (i : Nat) v, vs[i]? = some v → v.oneCell' = true) ∧
      (∀ (i : Nat) x v, cells[i]? = some x → vs[i]? = some v → RelA M G x v) ∧ (∀ off sp, M ⟨b, off, sp⟩ = none)
  | .tok elem sz, g => g = .slice none 0 0 ∨ ∃ a n cap, g = .slice (some a) n cap ∧ (cap = 0 ∨ a.spot = none) ∧ n ≤ cap ∧ cap ≤ maxLen ∧
      (n < cap → a.off = 0 ∧ ∃ vs, w.heap[a.block]? = some (.cells vs elem (0, 0)) ∧ cap * sz ≤ vs.size ∧ ∀ k sp, n * sz ≤ k → M ⟨a.block, k, sp⟩ = none)
  | .map es, g => ∃ b ms clock, g = .map (some b) ∧ w.heap[b]? = some (.map ms clock) ∧ ms.size = es.length ∧
      (∀ (i : Nat) k cs e, es[i]? = some (k, cs) → ms[i]? = some e → RelD M (.str k) e.key ∧ RelA M G (rowA cs) e.val) ∧
      (∀ (i : Nat) e, ms[i]? = some e → e.born < clock)
  | .bld o elem, g => ∃ b v0, g = .pointer (some ⟨b, 0, none⟩) ∧ w.heap[b]? = some (.cells #[v0, G o] elem (0, 0)) ∧ (v0 = .pointer none ∨ v0 = .pointer (some ⟨b, 0, none⟩)) ∧ G o ≠ .tuple #[] ∧ (∀ off sp, M ⟨b, off, sp⟩ = none)
  | .buf elem bs, g => bs.length ≤ maxLen ∧ (g = .slice none 0 0 ∧ bs = [] ∨ ∃ b cap cur, g = .slice (some ⟨b, 0, none⟩) bs.length cap ∧ w.heap[b]? = some (.cells cur elem (0, 0)) ∧ bs.length ≤ cap ∧ cap ≤ maxLen ∧ cur.size = cap ∧
      cur.toList.take bs.length = bs.map (fun c => Value.int .u8 c.toNat) ∧ ∀ off sp, M ⟨b, off, sp⟩ = none)

/-- what is known of the world: the immutable cells are there -/
def Good (M : Mem) (w : World) : Prop := ∀ a v, M a = some v → a.spot = none ∧ w.cell? a = some v

def own (G : Nat → Value) (H : Heap) (b : Nat) : Prop := ∃ o x, H[o]? = some x ∧ blk x (G o) = some b

structure HRel (M : Mem) (G : Nat → Value) (w : World) (H : Heap) : Prop where
  obj : ∀ (o : Nat) x, H[o]? = some x → ObRel M G w x (G o)
  apart : ∀ (o o' : Nat) x x' b, H[o]? = some x → H[o']? = some x' → blk x (G o) = some b → blk x' (G o') = some b → o = o'
  /-- what is no object has no place -/
  fresh : ∀ o : Nat, H.length ≤ o → G o = .tuple #[]

/-- the world has gone on; of the blocks that were there only those in 'S' may have turned -/
structure Ext (S : Nat → Prop) (M : Mem) (w : World) (M' : Mem) (w' : World) : Prop where
  mono : ∀ a v, M a = some v → M' a = some v
  size : w.heap.size ≤ w'.heap.size
  os : w'.os = w.os
  output : w'.output = w.output
  tape : w'.tape = w.tape
  block : ∀ b, b < w.heap.size → ¬ S b → w'.heap[b]? = w.heap[b]?
  fresh : ∀ a v, M' a = some v → M a = some v ∨ S a.block ∨ w.heap.size ≤ a.block

theorem Ext.refl (S : Nat → Prop) (M : Mem) (w : World) : Ext S M w M w :=
  ⟨fun _ _ h => h, Nat.le_refl _, rfl, rfl, rfl, fun _ _ _ => rfl, fun _ _ h => .inl h⟩

theorem Ext.trans {S S1 : Nat → Prop} {M M1 M2 : Mem} {w w1 w2 : World} (h : Ext S M w M1 w1) (h' : Ext S1 M1 w1 M2 w2) (hs : ∀ b, S1 b → S b ∨ w.heap.size ≤ b) : Ext S M w M2 w2 where
  mono a v e := h'.mono a v (h.mono a v e)
  size := Nat.le_trans h.size h'.size
  os := h'.os.trans h.os
  output := h'.output.trans h.output
  tape := h'.tape.trans h.tape
  block b hb hn := by
    rw [h'.block b (Nat.lt_of_lt_of_le hb h.size) (fun h1 => by rcases hs b h1 with h2 | h2; exact hn h2; omega), h.block b hb hn]
  fresh a v e := by
    rcases h'.fresh a v e with e1 | e1 | e1
    · exact h.fresh a v e1
    · rcases hs _ e1 with e2 | e2
      · exact .inr (.inl e2)
      · exact .inr (.inr e2)
    · exact .inr (.inr (Nat.le_trans h.size e1))

theorem Ext.weaken {S S1 : Nat → Prop} {M M1 : Mem} {w w1 : World} (h : Ext S M w M1 w1) (hs : ∀ b, S b → S1 b ∨ w.heap.size ≤ b) : Ext S1 M w M1 w1 :=
  (Ext.refl S1 M w).trans h hs

def none' : Nat → Prop := fun _ => False

theorem Good.lt {M : Mem} {w : World} (h : Good M w) {a : Addr} {v : Value} (e : M a = some v) : a.block < w.heap.size := World.block_lt_of_cell? w a (h a v e).2

theorem cell_of_block {w w' : World} {a : Addr} (h : w'.heap[a.block]? = w.heap[a.block]?) : w'.cell? a = w.cell? a := by simp [World.cell?, h]

theorem blk_lt {M : Mem} {G : Nat → Value} {w : World} {x : Ob} {g : Value} (h : ObRel M G w x g) {b : Nat} (hb : blk x g = some b) : b < w.heap.size := by
  cases x with
  | dead => simp [blk] at hb
  | row cells elem =>
    obtain ⟨b', vs, rfl, h1, _⟩ := h
    simp [blk] at hb; subst hb
    exact (Array.getElem?_eq_some_iff.1 h1).1
  | tok elem sz =>
    rcases h with rfl | ⟨a, n, cap, rfl, _, _, _, h1⟩
    · simp [blk] at hb
    · simp only [blk] at hb
      split at hb
      · rename_i hlt
        obtain ⟨_, vs, h2, _⟩ := h1 hlt
        simp at hb; subst hb
        exact (Array.getElem?_eq_some_iff.1 h2).1
      · cases hb
  | map es =>
    obtain ⟨b', ms, cl, rfl, h1, _⟩ := h
    simp [blk] at hb; subst hb
    exact (Array.getElem?_eq_some_iff.1 h1).1
  | bld o elem =>
    obtain ⟨b', v0, rfl, h1, _⟩ := h
    simp [blk] at hb; subst hb
    exact (Array.getElem?_eq_some_iff.1 h1).1
  | buf elem bs =>
    rcases h with ⟨_, ⟨rfl, _⟩ | ⟨b', cap, cur, rfl, h1, _⟩⟩
    · simp [blk] at hb
    · simp [blk] at hb; subst hb
      exact (Array.getElem?_eq_some_iff.1 h1).1

theorem own_lt {M : Mem} {G : Nat → Value} {w : World} {H : Heap} (h : HRel M G w H) {b : Nat} (hb : own G H b) : b < w.heap.size := by
  obtain ⟨o, x, ho, hx⟩ := hb
  exact blk_lt (h.obj o x ho) hx

/-- an object is as it was where its block is as it was -/
theorem ObRel.keep {M M' : Mem} {G : Nat → Value} {w w' : World} {x : Ob} {g : Value} (h : ObRel M G w x g) (hm : ∀ a v, M a = some v → M' a = some v)
    (hb : ∀ b, blk x g = some b → w'.heap[b]? = w.heap[b]?) (hf : ∀ b, blk x g = some b → ∀ off sp, M ⟨b, off, sp⟩ = none → M' ⟨b, off, sp⟩ = none) : ObRel M' G w' x g := by
  cases x with
  | dead => trivial
  | row cells elem =>
    obtain ⟨b, vs, rfl, h1, h2, h3, h4, h5⟩ := h
    exact ⟨b, vs, rfl, (hb b rfl).trans h1, h2, h3, fun i x v a c => (h4 i x v a c).mono' hm, fun off sp => hf b rfl off sp (h5 off sp)⟩
  | tok elem sz =>
    rcases h with h | ⟨a, n, cap, rfl, h1, h2, h3, h4⟩
    · exact .inl h
    · refine .inr ⟨a, n, cap, rfl, h1, h2, h3, fun hlt => ?_⟩
      obtain ⟨h0, vs, h5, h6, h7⟩ := h4 hlt
      have hbk : blk (.tok elem sz) (.slice (some a) n cap) = some a.block := by simp [blk, hlt]
      exact ⟨h0, vs, (hb _ hbk).trans h5, h6, fun k sp hk => hf _ hbk k sp (h7 k sp hk)⟩
  | map es =>
    obtain ⟨b, ms, cl, rfl, h1, h2, h3, h4⟩ := h
    exact ⟨b, ms, cl, rfl, (hb b rfl).trans h1, h2, fun i k cs e a c => ⟨((h3 i k cs e a c).1).mono hm, ((h3 i k cs e a c).2).mono' hm⟩, h4⟩
  | bld o elem =>
    obtain ⟨b, v0, rfl, h1, h2, h3, h4⟩ := h
    exact ⟨b, v0, rfl, (hb b rfl).trans h1, h2, h3, fun off sp => hf b rfl off sp (h4 off sp)⟩
  | buf elem bs =>
    obtain ⟨h0, h⟩ := h
    refine ⟨h0, ?_⟩
    rcases h with h | ⟨b, cap, cur, rfl, h1, h2, h3, h4, h5, h6⟩
    · exact .inl h
    · exact .inr ⟨b, cap, cur, rfl, (hb b rfl).trans h1, h2, h3, h4, h5, fun off sp => hf b rfl off sp (h6 off sp)⟩

theorem HRel.ext {S : Nat → Prop} {M M' : Mem} {G : Nat → Value} {w w' : World} {H : Heap} (h : HRel M G w H) (he : Ext S M w M' w') (hS : ∀ b, own G H b → ¬ S b) : HRel M' G w' H where
  obj o x ho := by
    refine (h.obj o x ho).keep he.mono (fun b hb => he.block b (own_lt h ⟨o, x, ho, hb⟩) (hS b ⟨o, x, ho, hb⟩)) (fun b hb off sp hn => ?_)
    cases hM : M' ⟨b, off, sp⟩ with
    | none => rfl
    | some v =>
      rcases he.fresh _ v hM with h1 | h1 | h1
      · rw [hn] at h1; cases h1
      · exact absurd h1 (hS b ⟨o, x, ho, hb⟩)
      · have := own_lt h ⟨o, x, ho, hb⟩
        simp only at h1
        omega
  apart := h.apart
  fresh := h.fresh

theorem HRel.nil (M : Mem) (w : World) : HRel M (fun _ => .tuple #[]) w [] := ⟨fun o x h => by simp at h, fun o o' x x' b h => by simp at h, fun _ _ => rfl⟩

/-- a value names only what has a place -/
theorem RelA.names {M : Mem} {G : Nat → Value} {x : A} {v : Value} (h : RelA M G x v) {o : Nat} (hn : Names x o) : G o ≠ .tuple #[] := by
  induction h with
  | d h => cases hn
  | junk => cases hn
  | ref h => cases hn; rw [h]; simp
  | ptr vals hs h1 h2 => cases hn
  | full h hf => cases hn
  | osl h hg => cases hn; rw [hg]; cases h <;> simp
  | rsl h hc hmx => cases hn; rw [h]; simp
  | clo hl h ih =>
    cases hn with
    | clo hm hn =>
      obtain ⟨i, hi⟩ := List.getElem?_of_mem hm
      have hv := Array.getElem?_eq_getElem (by rw [← hl]; exact (List.getElem?_eq_some_iff.1 hi).1)
      exact ih i _ _ hi hv hn
  | agg hl h1 h ih =>
    cases hn with
    | agg hm hn =>
      obtain ⟨i, hi⟩ := List.getElem?_of_mem hm
      have hv := Array.getElem?_eq_getElem (by rw [← hl]; exact (List.getElem?_eq_some_iff.1 hi).1)
      exact ih i _ _ hi hv hn
  | tup hl h ih =>
    cases hn with
    | tup hm hn =>
      obtain ⟨i, hi⟩ := List.getElem?_of_mem hm
      have hv := Array.getElem?_eq_getElem (by rw [← hl]; exact (List.getElem?_eq_some_iff.1 hi).1)
      exact ih i _ _ hi hv hn
  | mp h => cases hn; rw [h]; simp

theorem HRel.lt {M : Mem} {G : Nat → Value} {w : World} {H : Heap} (h : HRel M G w H) {M' : Mem} {x : A} {v : Value} (hr : RelA M' G x v) {o : Nat} (hn : Names x o) : o < H.length := by
  rcases Nat.lt_or_ge o H.length with h1 | h1
  · exact h1
  · exact absurd (h.fresh o h1) (hr.names hn)

/-- a good world stays good where what the immutable cells lie in is not touched -/
theorem Good.ext {S : Nat → Prop} {M : Mem} {w w' : World} (h : Good M w) (he : Ext S M w M w') (hS : ∀ a v, M a = some v → ¬ S a.block) : Good M w' := fun a v e =>
  ⟨(h a v e).1, by rw [cell_of_block (he.block a.block (h.lt e) (hS a v e))]; exact (h a v e).2⟩

end Go.Am

