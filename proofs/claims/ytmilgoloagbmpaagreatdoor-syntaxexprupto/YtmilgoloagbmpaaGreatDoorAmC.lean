/-
  The abstract machine: 'qop', what an operation that leaves the world as it is yields, and the proof that it does.
-/
import Derived.Test.YtmilgoloagbmpaaGreatDoorAmB
import Derived.Laws.Strings
namespace Go.Am

def someT (x : A) : Option (Prop × A) := some (True, x)

def intBin (op : BinOp) (k : IntKind) (a : Int) (k' : IntKind) (b : Int) : Option (Prop × A) :=
  match op with
  | .shl => some (0 ≤ b, .d (.int k (k.wrap (a * 2 ^ (min b.toNat k.bits)))))
  | .shr => some (0 ≤ b, .d (.int k (a.fdiv (2 ^ (min b.toNat k.bits)))))
  | _ => bif decide (k = k') then
      match op with
      | .add => someT (.d (.int k (k.wrap (a + b))))
      | .sub => someT (.d (.int k (k.wrap (a - b))))
      | .mul => someT (.d (.int k (k.wrap (a * b))))
      | .quo => some (b ≠ 0, .d (.int k (k.wrap (a.tdiv b))))
      | .rem => some (b ≠ 0, .d (.int k (a.tmod b)))
      | .and => someT (.d (.int k (k.wrap ((BitVec.ofInt k.bits a &&& BitVec.ofInt k.bits b).toNat : Int))))
      | .or => someT (.d (.int k (k.wrap ((BitVec.ofInt k.bits a ||| BitVec.ofInt k.bits b).toNat : Int))))
      | .xor => someT (.d (.int k (k.wrap ((BitVec.ofInt k.bits a ^^^ BitVec.ofInt k.bits b).toNat : Int))))
      | .eql => someT (.d (.bool (a == b)))
      | .neq => someT (.d (.bool (a != b)))
      | .lss => someT (.d (.bool (decide (a < b))))
      | .leq => someT (.d (.bool (decide (a ≤ b))))
      | .gtr => someT (.d (.bool (decide (a > b))))
      | .geq => someT (.d (.bool (decide (a ≥ b))))
      | _ => none
    else none

def strBin (op : BinOp) (a b : List UInt8) : Option (Prop × A) :=
  match op with
  | .add => some (a.length + b.length ≤ maxLen, .d (.str (a ++ b)))
  | .eql => someT (.d (.bool (a == b)))
  | .neq => someT (.d (.bool (!(a == b))))
  | .lss => someT (.d (.bool (Op.bytesLess a b)))
  | _ => none

/-- '==' and '!=' on what is no number and no string -/
def eqA (u : TU) (x y : A) : Option Bool → Option (Prop × A)
  | none => none
  | some neg =>
    match u, x, y with
    | .bool, .d (.bool a), .d (.bool b) => someT (.d (.bool (bif neg then !(a == b) else (a == b))))
    | .ptr _, .d (.nilv .ptr), .d (.nilv .ptr) => someT (.d (.bool (!neg)))
    | .ptr _, .ref _ _, .d (.nilv .ptr) => someT (.d (.bool neg))
    | .ptr _, .ptr _, .d (.nilv .ptr) => someT (.d (.bool neg))
    | .map _ _, .d (.nilv .map), .d (.nilv .map) => someT (.d (.bool (!neg)))
    | .map _ _, .mp _, .d (.nilv .map) => someT (.d (.bool neg))
    | .func, .d (.nilv .func), .d (.nilv .func) => someT (.d (.bool (!neg)))
    | .func, .clo _ _, .d (.nilv .func) => someT (.d (.bool neg))
    | _, _, _ => none

def eqNeg : BinOp → Option Bool
  | .eql => some false
  | .neq => some true
  | _ => none

def binA (T : TT) (op : BinOp) (t : Nat) (x y : A) : Option (Prop × A) :=
  match x, y with
  | .d (.int k a), .d (.int k' b) => intBin op k a k' b
  | .d (.str a), .d (.str b) => strBin op a b
  | x, y => match tget T t with | some i => eqA i.u x y (eqNeg op) | none => none

def unA (op : UnOp) (x : A) : Option (Prop × A) :=
  match op, x with
  | .neg, .d (.int k n) => someT (.d (.int k (k.wrap (0 - n))))
  | .not, .d (.bool b) => someT (.d (.bool (!b)))
  | _, _ => none

def convA (T : TT) (s t : Nat) (x : A) : Option (Prop × A) :=
  match tget T s, tget T t, x with
  | some _, some j, .d (.int _ n) => match j.u with | .int k => someT (.d (.int k (k.wrap n))) | _ => none
  | some i, some j, .d (.str s) => match i.u, j.u with | .str, .str => someT (.d (.str s)) | _, _ => none
  | _, _, _ => none

def placeA (x : A) (n : Nat) : Option A :=
  match x with
  | .ref o off => some (.ref o (off + n))
  | .ptr cells => some (.ptr (cells.drop n))
  | _ => none

def rowsOf : A → Option (List (List D))
  | .d (.sl rows) => some rows
  | .full rows => some rows
  | .osl _ rows => some rows
  | _ => none

def lenA (T : TT) (t : Nat) (x : A) : Option A :=
  match tget T t with
  | none => none
  | some i => match i.u, x with
    | .str, .d (.str s) => some (.d (.int .i64 (s.length : Nat)))
    | .arr n _, _ => bif Nat.ble n maxLen then some (.d (.int .i64 (n : Nat))) else none
    | .sl _, .rsl _ _ n _ => some (.d (.int .i64 (n : Nat)))
    | .sl _, x => match rowsOf x with | some rows => some (.d (.int .i64 (rows.length : Nat))) | none => none
    | .map _ _, .d (.nilv .map) => some (.d (.int .i64 0))
    | _, _ => none

def setAt : List A → Nat → List A → List A
  | c, 0, [] => c
  | _ :: c, 0, x :: xs => x :: setAt c 0 xs
  | c :: cs, n + 1, xs => c :: setAt cs n xs
  | [], _, _ => []

def fillA (place : Nat → Option (Nat × Nat)) (cells : List A) : List (Nat × A) → Option (List A)
  | [] => some cells
  | (i, x) :: rest =>
    match place i, acells x with
    | some (off, size), some xs => bif Nat.beq xs.length size && Nat.ble (off + size) cells.length then fillA place (setAt cells off xs) rest else none
    | _, _ => none

def buildA (T : TT) (t : Nat) (parts : List (Nat × A)) : Option A :=
  match tget T t with
  | none => none
  | some i => match i.u with
    | .st fs => (fillA (fun n => (nth fs n).map fun f => (f.2.1, f.2.2)) (i.zero.map .d) parts).map .agg
    | .arr _ e => match tget T e with
      | some j => (fillA (fun n => some (n * j.size, j.size)) (i.zero.map .d) parts).map .agg
      | none => none
    | _ => none

def minmaxA (isMax : Bool) : A → A → Option A
  | .d (.int k a), .d (.int k' b) => bif decide (k = k') then some (.d (.int k (bif isMax then max a b else min a b))) else none
  | _, _ => none

def builtinA (T : TT) (b : Builtin) (ts : List Nat) (xs : List A) : Option (Prop × A) :=
  match b, ts, xs with
  | .len, [t], [x] => (lenA T t x).map fun y => (True, y)
  | .min, _, [x, y] => (minmaxA false x y).map fun y => (True, y)
  | .max, _, [x, y] => (minmaxA true x y).map fun y => (True, y)
  | _, _, _ => none

def idxArr (T : TT) (len e : Nat) (n : Int) (x : A) : Option (Prop × A) :=
  match tget T e with
  | some j => match placeA x (n.toNat * j.size) with
    | some p => bif Nat.ble 2 len then some (0 ≤ n ∧ n < (len : Int), p) else none
    | none => none
  | none => none

def indexAddrA (T : TT) (t : Nat) (x y : A) : Option (Prop × A) :=
  match tget T t, y with
  | some i, .d (.int _ n) =>
    match i.u, x with
    | .arr len e, x => idxArr T len e n x
    | .sl e, .rsl o off len _ => match tget T e with
      | some j => some (0 ≤ n ∧ n < (len : Int), .ref o (off + n.toNat * j.size))
      | none => none
    | _, _ => none
  | _, _ => none

def indexA (T : TT) (t : Nat) (x y : A) : Option (Prop × A) :=
  match tget T t, x, y with
  | some i, .agg cs, .d (.int _ n) =>
    match i.u with
    | .arr len e => match tget T e with
      | some j => (readA j (cs.drop (n.toNat * j.size))).map fun z => (0 ≤ n ∧ n < (len : Int), z)
      | none => none
    | _ => none
  | _, _, _ => none

def opA (T : TT) (GL : GT) (op : Op) (env : Env) (H : Heap) : Option (Prop × A) :=
  match op with
  | .move x | .assign x => someT (ev GL env x)
  | .pick c a b => match ev GL env c with | .d (.bool t) => someT (bif t then ev GL env a else ev GL env b) | _ => none
  | .build t parts => (buildA T t (parts.toList.map fun p => (p.1, ev GL env p.2))).map fun y => (True, y)
  | .load t a => match tget T t with | some i => (loadA i (ev GL env a) H).map fun y => (True, y) | none => none
  | .nilCheck x => match ev GL env x with | .ref o off => someT (.ref o off) | .ptr cs => someT (.ptr cs) | .clo f cs => someT (.clo f cs) | _ => none
  | .binOp op t x y _ => binA T op t (ev GL env x) (ev GL env y)
  | .unOp op _ x => unA op (ev GL env x)
  | .convert s t x => convA T s t (ev GL env x)
  | .makeFunc (.func f) first caps => bif Nat.beq first.size 0 then someT (.clo f (caps.toList.map (ev GL env))) else none
  | .fieldAddr t x f => match tget T t with
    | some i => match i.u with | .st fs => (match nth fs f with | some g => (placeA (ev GL env x) g.2.1).map fun y => (True, y) | none => none) | _ => none
    | none => none
  | .field t x f => match tget T t, ev GL env x with
    | some i, .agg cs => match i.u with
      | .st fs => (match nth fs f with | some g => (match tget T g.1 with | some j => (readA j (cs.drop g.2.1)).map fun y => (True, y) | none => none) | none => none)
      | _ => none
    | _, _ => none
  | .indexAddr t x y => indexAddrA T t (ev GL env x) (ev GL env y)
  | .index t x y => indexA T t (ev GL env x) (ev GL env y)
  | .extract x n => match ev GL env x with | .tup xs => (nth xs n).map fun y => (True, y) | _ => none
  | .call { callee := .builtin b, args, argTypes } => builtinA T b argTypes.toList (args.toList.map (ev GL env))
  | _ => none

/-! ### that it does -/

theorem inK_tmod {k : IntKind} {a b : Int} (ha : InK k a) : InK k (a.tmod b) := by
  have h1 : (a.tmod b).natAbs ≤ a.natAbs := by rw [Int.natAbs_tmod]; exact Nat.mod_le _ _
  have h2 : 0 ≤ a → 0 ≤ a.tmod b := Int.tmod_nonneg b
  have h3 : a ≤ 0 → a.tmod b ≤ 0 := fun h => by
    have h4 : (-a).tmod b = -(a.tmod b) := Int.neg_tmod a b
    have h5 : 0 ≤ (-a).tmod b := Int.tmod_nonneg b (by omega)
    omega
  have hz : k.min ≤ 0 ∧ 0 ≤ k.max := by cases k <;> decide
  obtain ⟨l, u⟩ := ha
  constructor <;> omega

theorem inK_fdiv {k : IntKind} {a : Int} {n : Nat} (ha : InK k a) : InK k (a.fdiv (2 ^ n)) := by
  have hp : (0 : Int) < 2 ^ n := by exact_mod_cast Nat.two_pow_pos n
  have hz : k.min ≤ 0 ∧ 0 ≤ k.max := by cases k <;> decide
  have e : a.fdiv (2 ^ n) = a / (2 ^ n) := Int.fdiv_eq_ediv_of_nonneg a (Int.le_of_lt hp)
  rw [e]
  obtain ⟨l, u⟩ := ha
  rcases Int.lt_or_le a 0 with h | h
  · have h1 : a ≤ a / 2 ^ n := by
      rw [Int.le_ediv_iff_mul_le hp]
      have : (1 : Int) ≤ 2 ^ n := by omega
      have := Int.mul_le_mul_of_nonpos_left (Int.le_of_lt h) this
      omega
    have h2 : a / 2 ^ n < 0 := Int.ediv_neg_of_neg_of_pos h hp
    constructor <;> omega
  · have h1 : 0 ≤ a / 2 ^ n := Int.ediv_nonneg h (Int.le_of_lt hp)
    have h2 : a / 2 ^ n ≤ a := Int.ediv_le_self _ h
    constructor <;> omega

section
variable {P : Program} {M : Mem} {G : Nat → Value} {w : World}

def Does (P : Program) (M : Mem) (G : Nat → Value) (w : World) (s : Sem Value) (x : A) : Prop := ∃ v, s.run P w = .ok v w ∧ RelA M G x v

theorem intBin_ok {op : BinOp} {k k' : IntKind} {a b : Int} {c : Prop} {x : A} (ha : InK k a) (h : intBin op k a k' b = some (c, x)) (hc : c) (t : Nat) :
    Does P M G w (binOp op t (.int k a) (.int k' b)) x := by
  have int : ∀ n, InK k n → RelA M G (.d (.int k n)) (.int k n) := fun n h => .d (.int h)
  unfold intBin at h
  cases op
  case shl =>
    simp only [Option.some.injEq, Prod.mk.injEq] at h
    obtain ⟨rfl, rfl⟩ := h
    refine ⟨.int k (k.wrap (a * 2 ^ (min b.toNat k.bits))), ?_, int _ (inK_wrap _ _)⟩
    have : ¬ b < 0 := by omega
    simp [binOp, Op.shift, this]
  case shr =>
    simp only [Option.some.injEq, Prod.mk.injEq] at h
    obtain ⟨rfl, rfl⟩ := h
    refine ⟨.int k (a.fdiv (2 ^ (min b.toNat k.bits))), ?_, int _ (inK_fdiv ha)⟩
    have : ¬ b < 0 := by omega
    simp [binOp, Op.shift, this]
  all_goals
    have e : k = k' := by
      cases hk : decide (k = k') with
      | false => rw [hk] at h; simp at h
      | true => exact of_decide_eq_true hk
    subst e
    simp only [decide_true, cond_true, someT, Option.some.injEq, Prod.mk.injEq, reduceCtorEq] at h
  all_goals obtain ⟨rfl, rfl⟩ := h
  case add => exact ⟨_, by simp [binOp, Op.intArith], int _ (inK_wrap _ _)⟩
  case sub => exact ⟨_, by simp [binOp, Op.intArith], int _ (inK_wrap _ _)⟩
  case mul => exact ⟨_, by simp [binOp, Op.intArith], int _ (inK_wrap _ _)⟩
  case quo => exact ⟨_, by simp [binOp, Op.intDiv, hc], int _ (inK_wrap _ _)⟩
  case rem => exact ⟨_, by simp [binOp, Op.intDiv, hc], int _ (inK_tmod ha)⟩
  case and => exact ⟨_, by simp [binOp, Op.intBits], int _ (inK_wrap _ _)⟩
  case or => exact ⟨_, by simp [binOp, Op.intBits], int _ (inK_wrap _ _)⟩
  case xor => exact ⟨_, by simp [binOp, Op.intBits], int _ (inK_wrap _ _)⟩
  all_goals exact ⟨_, by simp [binOp, Op.intCmp], .d .bool⟩

theorem strBin_ok {op : BinOp} {a b : List UInt8} {c : Prop} {x : A} (h : strBin op a b = some (c, x)) (hc : c) (t : Nat) :
    Does P M G w (binOp op t (.string ⟨a.toArray⟩) (.string ⟨b.toArray⟩)) x := by
  unfold strBin at h
  cases op <;> simp only [someT, Option.some.injEq, Prod.mk.injEq, reduceCtorEq] at h
  all_goals obtain ⟨rfl, rfl⟩ := h
  case add =>
    refine ⟨.string ⟨(a ++ b).toArray⟩, ?_, .d (.str (by simpa using hc))⟩
    have h1 : ¬ (((⟨a.toArray⟩ : ByteArray).size + (⟨b.toArray⟩ : ByteArray).size : Nat) : Int) > IntKind.i64.max := by
      show ¬ ((a.toArray.size + b.toArray.size : Nat) : Int) > 9223372036854775807
      simp only [List.size_toArray]
      unfold maxLen at hc
      omega
    simp only [binOp, Op.stringOp, h1, if_false, Sem.run_pure]
    congr 2
  case eql => exact ⟨_, by simp [binOp, Op.stringOp], .d .bool⟩
  case neq => exact ⟨_, by simp [binOp, Op.stringOp], .d .bool⟩
  case lss => exact ⟨_, by simp [binOp, Op.stringOp], .d .bool⟩

theorem equal_ex (t : Nat) (a b : Value) : ∃ n, Op.equal t a b = Op.equalIn (n + 1) t a b := ⟨9999, rfl⟩

theorem under_of {t : Nat} {i : TI} (f : TiFacts P t i) : ∃ d, P.underlying t = some d ∧ uB P (some d) i.u = true := by
  have hu := f.u
  cases hd : P.underlying t with
  | none => rw [hd] at hu; simp [uB] at hu
  | some d => rw [hd] at hu; exact ⟨d, rfl, hu⟩

theorem under_bool {t : Nat} {i : TI} (f : TiFacts P t i) (h : i.u = .bool) : P.underlying t = some .bool := by
  obtain ⟨d, hd, hu⟩ := under_of f
  rw [h] at hu
  cases d <;> simp [uB] at hu
  exact hd
theorem under_str {t : Nat} {i : TI} (f : TiFacts P t i) (h : i.u = .str) : P.underlying t = some .string := by
  obtain ⟨d, hd, hu⟩ := under_of f
  rw [h] at hu
  cases d <;> simp [uB] at hu
  exact hd
theorem under_int {t : Nat} {i : TI} {k : IntKind} (f : TiFacts P t i) (h : i.u = .int k) : P.underlying t = some (.int k) := by
  obtain ⟨d, hd, hu⟩ := under_of f
  rw [h] at hu
  cases d <;> simp [uB] at hu
  subst hu
  exact hd
theorem under_ptr {t : Nat} {i : TI} {e : Nat} (f : TiFacts P t i) (h : i.u = .ptr e) : P.underlying t = some (.pointer e) := by
  obtain ⟨d, hd, hu⟩ := under_of f
  rw [h] at hu
  cases d <;> simp [uB] at hu
  subst hu
  exact hd
theorem under_sl {t : Nat} {i : TI} {e : Nat} (f : TiFacts P t i) (h : i.u = .sl e) : P.underlying t = some (.slice e) := by
  obtain ⟨d, hd, hu⟩ := under_of f
  rw [h] at hu
  cases d <;> simp [uB] at hu
  subst hu
  exact hd
theorem under_arr {t : Nat} {i : TI} {n e : Nat} (f : TiFacts P t i) (h : i.u = .arr n e) : P.underlying t = some (.array n e) := by
  obtain ⟨d, hd, hu⟩ := under_of f
  rw [h] at hu
  cases d <;> simp [uB] at hu
  obtain ⟨rfl, rfl⟩ := hu
  exact hd
theorem under_map {t : Nat} {i : TI} {k e : Nat} (f : TiFacts P t i) (h : i.u = .map k e) : P.underlying t = some (.map k e) := by
  obtain ⟨d, hd, hu⟩ := under_of f
  rw [h] at hu
  cases d <;> simp [uB] at hu
  obtain ⟨rfl, rfl⟩ := hu
  exact hd
theorem under_func {t : Nat} {i : TI} (f : TiFacts P t i) (h : i.u = .func) : ∃ a b c, P.underlying t = some (.func a b c) := by
  obtain ⟨d, hd, hu⟩ := under_of f
  rw [h] at hu
  cases d <;> simp [uB] at hu
  exact ⟨_, _, _, hd⟩

theorem fsB_spec : ∀ {fs : List Field} {gs : List (Nat × Nat × Nat)}, fsB P fs gs = true → ∀ (n : Nat) g, gs[n]? = some g → ∃ f, fs[n]? = some f ∧ f.type = g.1 ∧ f.offset = g.2.1 ∧ P.cellsOf g.1 = g.2.2 ∧ 1 ≤ g.2.2 ∧ (P.info? g.1).isSome = true
  | [], [], _ => fun n g h => by simp at h
  | f :: fs, (t, o, s) :: r, h => fun n g hg => by
    simp only [fsB, Bool.and_eq_true] at h
    obtain ⟨⟨⟨⟨⟨h1, h2⟩, h3⟩, h4⟩, h5⟩, h6⟩ := h
    cases n with
    | zero =>
      simp at hg; subst hg
      exact ⟨f, rfl, Nat.eq_of_beq_eq_true h1, Nat.eq_of_beq_eq_true h2, Nat.eq_of_beq_eq_true h3, Nat.le_of_ble_eq_true h4, h5⟩
    | succ n => simpa using fsB_spec h6 n g (by simpa using hg)
  | [], _ :: _, h => by simp [fsB] at h
  | _ :: _, [], h => by simp [fsB] at h

theorem under_st {t : Nat} {i : TI} {gs : List (Nat × Nat × Nat)} (f : TiFacts P t i) (h : i.u = .st gs) : ∃ fs, P.underlying t = some (.struct fs) ∧
    ∀ (n : Nat) g, gs[n]? = some g → ∃ f, fs[n]? = some f ∧ f.type = g.1 ∧ f.offset = g.2.1 ∧ P.cellsOf g.1 = g.2.2 ∧ 1 ≤ g.2.2 ∧ (P.info? g.1).isSome = true := by
  obtain ⟨d, hd, hu⟩ := under_of f
  rw [h] at hu
  cases d <;> simp only [uB, Bool.false_eq_true] at hu
  rename_i fs
  exact ⟨fs, hd, fun n g hg => by simpa using fsB_spec hu n g hg⟩

theorem eqNeg_some {op : BinOp} {neg : Bool} (h : eqNeg op = some neg) : op = .eql ∧ neg = false ∨ op = .neq ∧ neg = true := by
  cases op <;> simp [eqNeg] at h
  · exact .inl ⟨rfl, h⟩
  · exact .inr ⟨rfl, h⟩

theorem eq_does {op : BinOp} {t : Nat} {a b : Value} {neg : Bool} (hop : op = .eql ∧ neg = false ∨ op = .neq ∧ neg = true) (r : Bool) (he : ∀ n, (Op.equalIn (n + 1) t a b).run P w = .ok r w)
    (h1 : binOp .eql t a b = (do pure (.bool (← Op.equal t a b)))) (h2 : binOp .neq t a b = (do pure (.bool (!(← Op.equal t a b))))) : Does P M G w (binOp op t a b) (.d (.bool (bif neg then !r else r))) := by
  obtain ⟨n, e⟩ := equal_ex t a b
  rcases hop with ⟨rfl, rfl⟩ | ⟨rfl, rfl⟩
  · exact ⟨.bool r, by simp [h1, e, he], .d .bool⟩
  · exact ⟨.bool (!r), by simp [h2, e, he], .d .bool⟩

theorem eqA_ok {T : TT} (hT : TOk P T) {op : BinOp} {t : Nat} {i : TI} (ht : tget T t = some i) {x y : A} {a b : Value} (hx : RelA M G x a) (hy : RelA M G y b) {c : Prop} {z : A}
    (h : eqA i.u x y (eqNeg op) = some (c, z)) : Does P M G w (binOp op t a b) z := by
  have f := hT.facts ht
  cases hn : eqNeg op with
  | none => rw [hn] at h; simp [eqA] at h
  | some neg =>
    rw [hn] at h
    have hop := eqNeg_some hn
    unfold eqA at h
    simp only at h
    split at h
    · rename_i hu
      have hd := under_bool f hu
      cases hx; cases hy
      rename_i hx hy
      cases hx; cases hy
      simp only [someT, Option.some.injEq, Prod.mk.injEq] at h
      obtain ⟨_, rfl⟩ := h
      exact eq_does hop _ (fun n => by simp [Op.equalIn, run_underlying hd]) rfl rfl
    · rename_i hu
      have hd := under_ptr f hu
      cases hx; cases hy
      rename_i hx hy
      cases hx; cases hy
      simp only [someT, Option.some.injEq, Prod.mk.injEq] at h
      obtain ⟨_, rfl⟩ := h
      have := eq_does (P := P) (M := M) (G := G) (w := w) hop true (t := t) (a := .pointer none) (b := .pointer none) (fun n => by simp [Op.equalIn, run_underlying hd]) rfl rfl
      cases neg <;> exact this
    · rename_i hu
      have hd := under_ptr f hu
      cases hx; cases hy
      rename_i hb hy
      cases hy
      simp only [someT, Option.some.injEq, Prod.mk.injEq] at h
      obtain ⟨_, rfl⟩ := h
      have := fun (A : Addr) => eq_does (P := P) (M := M) (G := G) (w := w) hop false (t := t) (a := .pointer (some A)) (b := .pointer none) (fun n => by simp [Op.equalIn, run_underlying hd]) rfl rfl
      cases neg <;> exact this _
    · rename_i hu
      have hd := under_ptr f hu
      cases hx; cases hy
      rename_i a _ _ _ _ hy
      cases hy
      simp only [someT, Option.some.injEq, Prod.mk.injEq] at h
      obtain ⟨_, rfl⟩ := h
      have := eq_does (P := P) (M := M) (G := G) (w := w) hop false (t := t) (a := .pointer (some a)) (b := .pointer none) (fun n => by simp [Op.equalIn, run_underlying hd]) rfl rfl
      cases neg <;> exact this
    · rename_i hu
      have hd := under_map f hu
      cases hx; cases hy
      rename_i hx hy
      cases hx; cases hy
      simp only [someT, Option.some.injEq, Prod.mk.injEq] at h
      obtain ⟨_, rfl⟩ := h
      have := eq_does (P := P) (M := M) (G := G) (w := w) hop true (t := t) (a := .map none) (b := .map none) (fun n => by simp [Op.equalIn, run_underlying hd]) rfl rfl
      cases neg <;> exact this
    · rename_i hu
      have hd := under_map f hu
      cases hx; cases hy
      rename_i b hb hy
      cases hy
      simp only [someT, Option.some.injEq, Prod.mk.injEq] at h
      obtain ⟨_, rfl⟩ := h
      have := eq_does (P := P) (M := M) (G := G) (w := w) hop false (t := t) (a := .map (some b)) (b := .map none) (fun n => by simp [Op.equalIn, run_underlying hd]) rfl rfl
      cases neg <;> exact this
    · rename_i hu
      obtain ⟨_, _, _, hd⟩ := under_func f hu
      cases hx; cases hy
      rename_i hx hy
      cases hx; cases hy
      simp only [someT, Option.some.injEq, Prod.mk.injEq] at h
      obtain ⟨_, rfl⟩ := h
      have := eq_does (P := P) (M := M) (G := G) (w := w) hop true (t := t) (a := .nilFunc) (b := .nilFunc) (fun n => by simp [Op.equalIn, run_underlying hd]) rfl rfl
      cases neg <;> exact this
    · rename_i hu
      obtain ⟨_, _, _, hd⟩ := under_func f hu
      cases hx; cases hy
      rename_i vs hl hr hy
      cases hy
      simp only [someT, Option.some.injEq, Prod.mk.injEq] at h
      obtain ⟨_, rfl⟩ := h
      have := fun (g : FuncId) => eq_does (P := P) (M := M) (G := G) (w := w) hop false (t := t) (a := .func (.func g) #[] vs) (b := .nilFunc) (fun n => by simp [Op.equalIn, run_underlying hd]) rfl rfl
      cases neg <;> exact this _
    · cases h

theorem binA_ok {T : TT} (hT : TOk P T) {op : BinOp} {t : Nat} {x y : A} {a b : Value} (hx : RelA M G x a) (hy : RelA M G y b) {c : Prop} {z : A}
    (h : binA T op t x y = some (c, z)) (hc : c) : Does P M G w (binOp op t a b) z := by
  unfold binA at h
  split at h
  · cases hx; cases hy
    rename_i hx hy
    cases hx; cases hy
    rename_i hk _
    exact intBin_ok hk h hc t
  · cases hx; cases hy
    rename_i hx hy
    cases hx; cases hy
    exact strBin_ok h hc t
  · split at h
    · rename_i i ht
      exact eqA_ok hT ht hx hy h
    · cases h

theorem guard_free {op : BinOp} {t : Nat} {X Y : Operand} {a b : Value} (h1 : a ≠ .nilIface) (h2 : ∀ u, a ≠ .agg u) : (eqGuard op t X Y a b).run P w = .ok () w := by
  cases a <;> first | (exact absurd rfl h1) | (exact absurd rfl (h2 _)) | (cases op <;> simp [eqGuard])

theorem guard_ok {T : TT} {op : BinOp} {t : Nat} {x y : A} {X Y : Operand} {a b : Value} (hx : RelA M G x a) {c : Prop} {z : A} (h : binA T op t x y = some (c, z)) :
    (eqGuard op t X Y a b).run P w = .ok () w := by
  have : a ≠ .nilIface ∧ ∀ u, a ≠ .agg u := by
    unfold binA at h
    split at h
    · cases hx; rename_i hx; cases hx; simp
    · cases hx; rename_i hx; cases hx; simp
    · split at h
      · unfold eqA at h
        split at h
        · cases h
        · split at h
          all_goals first | (cases h; done) | (cases hx; first | (rename_i hx; cases hx; simp; done) | (simp; done))
      · cases h
  exact guard_free this.1 this.2

theorem does_map {s : Sem Value} {x : A} (h : Does P M G w s x) : ∃ v, (do pure (Next.value (← s))).run P w = .ok (.value v) w ∧ RelA M G x v := by
  obtain ⟨v, h1, h2⟩ := h
  exact ⟨v, by simp [h1], h2⟩

theorem placeA_ok {x y : A} {n : Nat} {v : Value} (h : placeA x n = some y) (hx : RelA M G x v) : ∃ a, v = .pointer (some a) ∧ a.spot = none ∧ RelA M G y (.pointer (some (a.add n))) := by
  unfold placeA at h
  split at h
  · cases hx
    rename_i b hb
    simp only [Option.some.injEq] at h
    subst h
    refine ⟨_, rfl, rfl, ?_⟩
    rw [addr_add_lit]
    exact .ref hb
  · rename_i cells
    cases hx
    rename_i a vals hs h1 h2
    simp only [Option.some.injEq] at h
    subst h
    refine ⟨a, rfl, hs, .ptr (fun j => vals (n + j)) ?_ (fun j x hj => ?_) fun j x hj => ?_⟩
    · rw [addr_add_none hs]
    · rw [addr_add_add]
      rw [List.getElem?_drop] at hj
      exact h1 _ x hj
    · rw [List.getElem?_drop] at hj
      exact h2 _ x hj
  · cases h

theorem unA_ok {op : UnOp} {x z : A} {v : Value} {c : Prop} (hx : RelA M G x v) (h : unA op x = some (c, z)) : Does P M G w (Op.unary op v) z := by
  unfold unA at h
  split at h
  · cases hx; rename_i hx; cases hx
    simp only [someT, Option.some.injEq, Prod.mk.injEq] at h
    obtain ⟨_, rfl⟩ := h
    exact ⟨_, by simp [Op.unary, Op.intArith], .d (.int (inK_wrap _ _))⟩
  · cases hx; rename_i hx; cases hx
    simp only [someT, Option.some.injEq, Prod.mk.injEq] at h
    obtain ⟨_, rfl⟩ := h
    exact ⟨_, by simp [Op.unary], .d .bool⟩
  · cases h

theorem convA_ok {T : TT} (hT : TOk P T) {s t : Nat} {x z : A} {v : Value} {c : Prop} (hx : RelA M G x v) (h : convA T s t x = some (c, z)) : Does P M G w (convert s t v) z := by
  unfold convA at h
  split at h
  · rename_i i j k n hs ht
    obtain ⟨ds, hds, _⟩ := under_of (hT.facts hs)
    split at h
    · rename_i k' hu
      have hd := under_int (hT.facts ht) hu
      cases hx; rename_i hx; cases hx
      simp only [someT, Option.some.injEq, Prod.mk.injEq] at h
      obtain ⟨_, rfl⟩ := h
      refine ⟨.int k' (k'.wrap n), ?_, .d (.int (inK_wrap _ _))⟩
      simp [convert, run_underlying hds, run_underlying hd, Conv.intToInt]
    · cases h
  · rename_i i j b hs ht
    split at h
    · rename_i hu hu'
      have hd := under_str (hT.facts hs) hu
      have hd' := under_str (hT.facts ht) hu'
      cases hx; rename_i hx
      simp only [someT, Option.some.injEq, Prod.mk.injEq] at h
      obtain ⟨_, rfl⟩ := h
      refine ⟨_, ?_, .d hx⟩
      cases hx
      simp [convert, run_underlying hd, run_underlying hd']
    · cases h
  · cases h

theorem rowsOf_rel {x : A} {v : Value} {rows : List Row} (h : rowsOf x = some rows) (hx : RelA M G x v) : RelD M (.sl rows) v := by
  unfold rowsOf at h
  split at h
  · cases hx; simp only [Option.some.injEq] at h; subst h; assumption
  · cases hx; simp only [Option.some.injEq] at h; subst h; assumption
  · cases hx; simp only [Option.some.injEq] at h; subst h; assumption
  · cases h

theorem inK_len {n : Nat} (h : n ≤ maxLen) : InK .i64 (n : Int) := by rw [inK_i64]; unfold maxLen at h; omega

theorem sl_len {rows : List Row} {v : Value} (h : RelD M (.sl rows) v) : ∃ a cap, v = .slice a rows.length cap ∧ rows.length ≤ maxLen := by
  cases h with
  | slnil => exact ⟨none, 0, rfl, Nat.zero_le _⟩
  | sl sz vals hl hc hm hs hz h1 h2 => subst hl; exact ⟨_, _, rfl, Nat.le_trans hc hm⟩

theorem size_mk (s : List UInt8) : (⟨s.toArray⟩ : ByteArray).size = s.length := by show s.toArray.size = _; simp

theorem lenA_ok {T : TT} (hT : TOk P T) {t ty : Nat} {x z : A} {v : Value} (hx : RelA M G x v) (h : lenA T t x = some z) : Does P M G w (Builtin.len_ #[t] ty #[v]) z := by
  unfold lenA at h
  split at h
  · cases h
  · rename_i i ht
    have f := hT.facts ht
    split at h
    · rename_i hu
      have hd := under_str f hu
      cases hx; rename_i hx; cases hx
      rename_i s hl
      simp only [Option.some.injEq] at h; subst h
      exact ⟨.int .i64 s.length, by simp [Builtin.len_, run_underlying hd, goInt, size_mk], .d (.int (inK_len hl))⟩
    · rename_i n e hu
      have hd := under_arr f hu
      cases hb : Nat.ble n maxLen with
      | false => rw [hb] at h; cases h
      | true =>
        rw [hb] at h
        simp only [cond_true, Option.some.injEq] at h; subst h
        exact ⟨.int .i64 n, by simp [Builtin.len_, run_underlying hd, goInt], .d (.int (inK_len (Nat.le_of_ble_eq_true hb)))⟩
    · rename_i hu
      have hd := under_sl f hu
      cases hx
      rename_i hc hm _
      simp only [Option.some.injEq] at h; subst h
      exact ⟨_, by simp [Builtin.len_, run_underlying hd, goInt], .d (.int (inK_len (Nat.le_trans (by assumption) (by assumption))))⟩
    · rename_i hu _
      have hd := under_sl f hu
      split at h
      · rename_i rows hr
        obtain ⟨a, cap, rfl, hl⟩ := sl_len (rowsOf_rel hr hx)
        simp only [Option.some.injEq] at h; subst h
        exact ⟨.int .i64 rows.length, by simp [Builtin.len_, run_underlying hd, goInt], .d (.int (inK_len hl))⟩
      · cases h
    · rename_i hu
      have hd := under_map f hu
      cases hx; rename_i hx; cases hx
      simp only [Option.some.injEq] at h; subst h
      exact ⟨.int .i64 0, by simp [Builtin.len_, run_underlying hd, goInt], .d (.int (by decide))⟩
    · cases h

theorem minmaxA_ok {m : Bool} {x y z : A} {a b : Value} (hx : RelA M G x a) (hy : RelA M G y b) (h : minmaxA m x y = some z) (ts : Array TypeId) (t : Nat) :
    Does P M G w (bif m then Builtin.max_ ts t #[a, b] else Builtin.min_ ts t #[a, b]) z := by
  unfold minmaxA at h
  split at h
  · rename_i k n k' n'
    cases hx; cases hy
    rename_i hx hy
    cases hx; cases hy
    rename_i hk hk'
    have e : k = k' := by
      cases hq : decide (k = k') with
      | false => rw [hq] at h; cases h
      | true => exact of_decide_eq_true hq
    subst e
    simp only [decide_true, cond_true, Option.some.injEq] at h
    subst h
    cases m
    · refine ⟨.int k (min n n'), ?_, .d (.int ?_)⟩
      · simp only [cond_false, Builtin.min_, List.foldlM_cons, List.foldlM_nil, Builtin.min2]
        have : (if n' < n then n' else n) = min n n' := by rw [Int.min_def]; split <;> split <;> omega
        simp [this]
      · simp only [cond_false, Int.min_def]; split <;> assumption
    · refine ⟨.int k (max n n'), ?_, .d (.int ?_)⟩
      · simp only [cond_true, Builtin.max_, List.foldlM_cons, List.foldlM_nil, Builtin.max2]
        have : (if n' > n then n' else n) = max n n' := by rw [Int.max_def]; split <;> split <;> omega
        simp [this]
      · simp only [cond_true, Int.max_def]; split <;> assumption
  · cases h
end

end Go.Am

