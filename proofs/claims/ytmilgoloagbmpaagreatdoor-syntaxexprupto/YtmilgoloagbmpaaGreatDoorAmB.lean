/-
  The abstract machine: the table of types, operands, and the operations that leave the world as it is ('qop'), with the proof that each does what the model does.
-/
import Derived.Test.YtmilgoloagbmpaaGreatDoorAmA
import Derived.Laws.Rows
import Derived.Laws.Entries
import Derived.Laws.Cells
import Derived.Laws.Append
namespace Go.Am

inductive TU where
  | bool | int (k : IntKind) | str | ptr (e : Nat) | sl (e : Nat) | arr (n e : Nat)
  /-- fields: type, offset, size -/
  | st (fs : List (Nat × Nat × Nat))
  | map (k e : Nat) | func | iface | other

structure TI where
  u : TU
  size : Nat
  bytes : Nat
  zero : List D

abbrev TT := List (Nat × TI)

def tget : TT → Nat → Option TI
  | [], _ => none
  | (k, i) :: r, t => bif Nat.beq k t then some i else tget r t

def TU.agg : TU → Bool
  | .st _ | .arr _ _ => true
  | _ => false

def zB : Value → D → Bool
  | .bool b, .bool c => b == c
  | .int k n, .int k' n' => decide (k = k') && decide (n = n') && decide (InK k n)
  | .string s, .str l => s.data.toList.isEmpty && l.isEmpty
  | .slice none 0 0, .sl [] => true
  | .pointer none, .nilv .ptr => true
  | .map none, .nilv .map => true
  | .nilFunc, .nilv .func => true
  | .nilIface, .nilv .iface => true
  | _, _ => false

theorem relD_of_zB {v : Value} {x : D} (h : zB v x = true) (M : Mem) : RelD M x v := by
  unfold zB at h
  split at h
  · rename_i b c; obtain rfl : b = c := by simpa using h
    exact .bool
  · rename_i k n k' n'
    simp only [Bool.and_eq_true, decide_eq_true_eq] at h
    obtain ⟨⟨rfl, rfl⟩, h⟩ := h
    exact .int h
  · rename_i s l
    simp only [Bool.and_eq_true, List.isEmpty_iff] at h
    obtain ⟨h1, rfl⟩ := h
    obtain ⟨d⟩ := s
    have : d = #[] := by simpa using h1
    subst this
    exact .str (s := []) (Nat.zero_le _)
  · exact .slnil
  · exact .nilptr
  · exact .nilmap
  · exact .nilfunc
  · exact .niliface
  · cases h

def zsB : List Value → List D → Bool
  | [], [] => true
  | v :: vs, x :: xs => zB v x && zsB vs xs
  | _, _ => false

theorem zsB_spec : ∀ {vs : List Value} {xs : List D}, zsB vs xs = true → vs.length = xs.length ∧ ∀ (i : Nat) v x, vs[i]? = some v → xs[i]? = some x → zB v x = true
  | [], [], _ => ⟨rfl, fun i v x h => by simp at h⟩
  | v :: vs, x :: xs, h => by
    simp only [zsB, Bool.and_eq_true] at h
    obtain ⟨h1, h2⟩ := zsB_spec h.2
    refine ⟨by simp [h1], fun i u y hu hy => ?_⟩
    cases i with
    | zero => simp at hu hy; subst hu; subst hy; exact h.1
    | succ i => exact h2 i u y (by simpa using hu) (by simpa using hy)
  | [], _ :: _, h => by simp [zsB] at h
  | _ :: _, [], h => by simp [zsB] at h

def fsB (P : Program) : List Field → List (Nat × Nat × Nat) → Bool
  | [], [] => true
  | f :: fs, (t, o, s) :: r => Nat.beq f.type t && Nat.beq f.offset o && Nat.beq (P.cellsOf t) s && Nat.ble 1 s && (P.info? t).isSome && fsB P fs r
  | _, _ => false

def uB (P : Program) : Option TypeDesc → TU → Bool
  | some .bool, .bool => true
  | some (.int k), .int k' => decide (k = k')
  | some .string, .str => true
  | some (.pointer e), .ptr e' => Nat.beq e e'
  | some (.slice e), .sl e' => Nat.beq e e'
  | some (.array n e), .arr n' e' => Nat.beq n n' && Nat.beq e e'
  | some (.struct fs), .st gs => fsB P fs.toList gs
  | some (.map k e), .map k' e' => Nat.beq k k' && Nat.beq e e'
  | some (.func ..), .func => true
  | some (.interface _), .iface => true
  | _, _ => false

/-- one row of the table is the program's -/
def tiB (P : Program) (t : Nat) (i : TI) : Bool :=
  (match P.info? t with
   | some j => Nat.beq j.size i.size && Nat.beq j.bytes i.bytes && (match j.zero with
      | some (.agg cs) => i.u.agg && zsB cs.toList i.zero
      | some v => !i.u.agg && zsB [v] i.zero
      | none => false)
   | none => false) && uB P (P.underlying t) i.u && Nat.beq i.zero.length i.size && Nat.ble 1 i.size

def TOk (P : Program) (T : TT) : Prop := ∀ t i, tget T t = some i → tiB P t i = true

theorem tok_of (P : Program) : ∀ (T : TT), (T.all fun p => tiB P p.1 p.2) = true → TOk P T
  | [], _ => fun t i h => by simp [tget] at h
  | (k, j) :: r, h => fun t i ht => by
    simp only [List.all_cons, Bool.and_eq_true] at h
    simp only [tget] at ht
    cases hk : Nat.beq k t with
    | true =>
      rw [hk] at ht
      simp only [cond_true, Option.some.injEq] at ht
      subst ht
      have := Nat.eq_of_beq_eq_true hk
      subst this
      exact h.1
    | false =>
      rw [hk] at ht
      exact tok_of P r h.2 t i (by simpa using ht)

structure TiFacts (P : Program) (t : Nat) (i : TI) : Prop where
  info : ∃ j, P.info? t = some j ∧ j.size = i.size ∧ j.bytes = i.bytes ∧ ∃ z, j.zero = some z ∧ z.cells.toList.length = i.zero.length ∧ (∀ (n : Nat) v x, z.cells[n]? = some v → i.zero[n]? = some x → zB v x = true) ∧
    (if i.u.agg then ∃ cs, z = .agg cs else z.cells = #[z])
  u : uB P (P.underlying t) i.u = true
  len : i.zero.length = i.size
  pos : 1 ≤ i.size

theorem TOk.facts {P : Program} {T : TT} (h : TOk P T) {t : Nat} {i : TI} (ht : tget T t = some i) : TiFacts P t i := by
  have hb := h t i ht
  simp only [tiB, Bool.and_eq_true] at hb
  obtain ⟨⟨⟨h1, h2⟩, h3⟩, h4⟩ := hb
  refine ⟨?_, h2, Nat.eq_of_beq_eq_true h3, Nat.le_of_ble_eq_true h4⟩
  split at h1
  · rename_i j hj
    simp only [Bool.and_eq_true] at h1
    obtain ⟨⟨e1, e2⟩, e3⟩ := h1
    refine ⟨j, hj, Nat.eq_of_beq_eq_true e1, Nat.eq_of_beq_eq_true e2, ?_⟩
    split at e3
    · rename_i cs hz
      simp only [Bool.and_eq_true] at e3
      obtain ⟨l1, l2⟩ := zsB_spec e3.2
      exact ⟨_, hz, l1, fun n v x a b => l2 n v x (by simpa [Value.cells] using a) b, by rw [e3.1]; exact ⟨cs, rfl⟩⟩
    · rename_i v hv hz
      simp only [Bool.and_eq_true, Bool.not_eq_true'] at e3
      obtain ⟨l1, l2⟩ := zsB_spec e3.2
      have hc : v.cells = #[v] := by cases v <;> first | rfl | (exact absurd rfl (hv _))
      refine ⟨_, hz, by rw [hc]; exact l1, fun n u x a b => l2 n u x (by rw [hc] at a; simpa using a) b, by rw [e3.1]; exact hc⟩
    · cases e3
  · cases h1

/-! ### operands -/

def constA : Value → A
  | .bool b => .d (.bool b)
  | .int k n => bif decide (InK k n) then .d (.int k n) else .junk
  | .string s => bif Nat.ble s.data.toList.length maxLen then .d (.str s.data.toList) else .junk
  | .slice none l c => bif Nat.beq l 0 && Nat.beq c 0 then .full [] else .junk
  | .pointer none => .d (.nilv .ptr)
  | .map none => .d (.nilv .map)
  | .nilFunc => .d (.nilv .func)
  | .nilIface => .d (.nilv .iface)
  | .func (.func f) a b => bif Nat.beq a.size 0 && Nat.beq b.size 0 then .clo f [] else .junk
  | .tuple a => bif Nat.beq a.size 0 then .tup [] else .junk
  | _ => .junk

theorem relA_const (M : Mem) (G : Nat → Value) (v : Value) : RelA M G (constA v) v := by
  unfold constA
  split
  · exact .d .bool
  · rename_i k n
    cases h : decide (InK k n)
    · exact .junk
    · exact .d (.int (of_decide_eq_true h))
  · rename_i s
    cases h : Nat.ble s.data.toList.length maxLen
    · exact .junk
    · exact .d (.str (Nat.le_of_ble_eq_true h))
  · rename_i l c
    cases h : Nat.beq l 0 && Nat.beq c 0
    · exact .junk
    · simp only [Bool.and_eq_true] at h
      obtain rfl := Nat.eq_of_beq_eq_true h.1
      obtain rfl := Nat.eq_of_beq_eq_true h.2
      exact .full .slnil trivial
  · exact .d .nilptr
  · exact .d .nilmap
  · exact .d .nilfunc
  · exact .d .niliface
  · rename_i f a b
    cases h : Nat.beq a.size 0 && Nat.beq b.size 0
    · exact .junk
    · simp only [Bool.and_eq_true] at h
      obtain rfl : a = #[] := Array.eq_empty_of_size_eq_zero (Nat.eq_of_beq_eq_true h.1)
      obtain rfl : b = #[] := Array.eq_empty_of_size_eq_zero (Nat.eq_of_beq_eq_true h.2)
      exact .clo rfl fun i x v h => by simp at h
  · rename_i a
    cases h : Nat.beq a.size 0
    · exact .junk
    · obtain rfl : a = #[] := Array.eq_empty_of_size_eq_zero (Nat.eq_of_beq_eq_true h)
      exact .tup rfl fun i x v h => by simp at h
  · exact .junk

abbrev GT := List (Nat × List D)
def gget : GT → Nat → Option (List D)
  | [], _ => none
  | (k, i) :: r, t => bif Nat.beq k t then some i else gget r t

def ev (GL : GT) (env : Env) : Operand → A
  | .tmp t => env t
  | .const v => constA v
  | .global g => match gget GL g with | some cs => .ptr cs | none => .junk
  | .func f => .clo f []

def upd (env : Env) (t : Nat) (x : A) : Env := fun i => bif Nat.beq i t then x else env i

def put (env : Env) (dst : Option Nat) (x : A) : Env :=
  match dst with
  | some t => upd env t x
  | none => env

/-! ### reading -/

def nth {α : Type} : List α → Nat → Option α
  | [], _ => none
  | x :: _, 0 => some x
  | _ :: r, n + 1 => nth r n

theorem nth_eq {α : Type} : ∀ (l : List α) (n : Nat), nth l n = l[n]?
  | [], _ => rfl
  | _ :: _, 0 => rfl
  | _ :: r, n + 1 => by rw [nth, nth_eq r n]; rfl

/-- a variable of a type, out of the cells from its place on -/
def readA (i : TI) (cells : List A) : Option A :=
  bif i.u.agg then (bif Nat.ble i.size cells.length then some (.agg (cells.take i.size)) else none)
  else nth cells 0

def acells : A → Option (List A)
  | .agg cs => some cs
  | .junk | .tup _ => none
  | x => some [x]

theorem acells_rel {M : Mem} {G : Nat → Value} {x : A} {v : Value} (h : RelA M G x v) {cs : List A} (hc : acells x = some cs) :
    v.cells.size = cs.length ∧ (∀ (i : Nat) u, v.cells[i]? = some u → u.oneCell' = true) ∧ ∀ (i : Nat) y u, cs[i]? = some y → v.cells[i]? = some u → RelA M G y u := by
  have single : ∀ (x : A) (v : Value), RelA M G x v → v.cells = #[v] → v.oneCell' = true → v.cells.size = [x].length ∧ (∀ (i : Nat) u, v.cells[i]? = some u → u.oneCell' = true) ∧ ∀ (i : Nat) y u, [x][i]? = some y → v.cells[i]? = some u → RelA M G y u := by
    intro x v h e h1
    rw [e]
    refine ⟨rfl, fun i u hu => ?_, fun i y u hy hu => ?_⟩
    · cases i with
      | zero => simp at hu; subst hu; exact h1
      | succ i => simp at hu
    · cases i with
      | zero => simp at hu hy; subst hu; subst hy; exact h
      | succ i => simp at hu
  cases h with
  | d h => simp only [acells, Option.some.injEq] at hc; subst hc; exact single _ _ (.d h) h.cells h.one
  | junk => simp [acells] at hc
  | ref h => simp only [acells, Option.some.injEq] at hc; subst hc; exact single _ _ (.ref h) rfl rfl
  | ptr vals hs h1 h2 => simp only [acells, Option.some.injEq] at hc; subst hc; exact single _ _ (.ptr vals hs h1 h2) rfl rfl
  | full h hf => simp only [acells, Option.some.injEq] at hc; subst hc; exact single _ _ (.full h hf) h.cells h.one
  | osl h hg => simp only [acells, Option.some.injEq] at hc; subst hc; exact single _ _ (.osl h hg) h.cells h.one
  | rsl h a b => simp only [acells, Option.some.injEq] at hc; subst hc; exact single _ _ (.rsl h a b) rfl rfl
  | clo hl h => simp only [acells, Option.some.injEq] at hc; subst hc; exact single _ _ (.clo hl h) rfl rfl
  | agg hl h1 h => simp only [acells, Option.some.injEq] at hc; subst hc; exact ⟨hl.symm, h1, h⟩
  | tup hl h => simp [acells] at hc
  | mp h => simp only [acells, Option.some.injEq] at hc; subst hc; exact single _ _ (.mp h) rfl rfl

theorem isAgg_of {P : Program} {t : Nat} {i : TI} (f : TiFacts P t i) (w : World) : (isAgg t).run P w = .ok i.u.agg w := by
  have hu := f.u
  cases hd : P.underlying t with
  | none => rw [hd] at hu; simp [uB] at hu
  | some d =>
    unfold isAgg
    rw [Sem.run_bind, run_underlying hd w]
    rw [hd] at hu
    cases d <;> cases hi : i.u <;> simp [hi, uB] at hu <;> rfl

theorem sizeOf_of {P : Program} {t : Nat} {i : TI} (f : TiFacts P t i) (w : World) : (sizeOf t).run P w = .ok i.size w := by
  obtain ⟨j, h1, h2, _⟩ := f.info
  simp [sizeOf, typeInfo, h1, h2]

/-- a variable is read -/
theorem run_loadVar {P : Program} {M : Mem} {G : Nat → Value} {t : Nat} {i : TI} (f : TiFacts P t i) (w : World) (a : Addr) (cells : List A) (vals : Nat → Value)
    (h1 : ∀ (j : Nat) x, cells[j]? = some x → w.cell? (a.add j) = some (vals j)) (h2 : ∀ (j : Nat) x, cells[j]? = some x → RelA M G x (vals j)) (h3 : ∀ (j : Nat) x, cells[j]? = some x → (vals j).oneCell' = true) {x : A} (hx : readA i cells = some x) :
    ∃ v, (loadVar t a).run P w = .ok v w ∧ RelA M G x v := by
  unfold readA at hx
  cases hg : i.u.agg with
  | true =>
    rw [hg] at hx
    simp only [cond_true] at hx
    cases hb : Nat.ble i.size cells.length with
    | false => rw [hb] at hx; cases hx
    | true =>
      rw [hb] at hx
      simp only [cond_true, Option.some.injEq] at hx
      subst hx
      have hle := Nat.le_of_ble_eq_true hb
      have hl := run_loadCells_list (P := P) w a ((List.range i.size).map vals) (fun j v hv => by
        rw [List.getElem?_map] at hv
        by_cases hj : j < i.size
        · rw [List.getElem?_range hj] at hv
          simp at hv
          subst hv
          exact h1 j _ (List.getElem?_eq_getElem (by omega))
        · rw [List.getElem?_eq_none (by simp; omega)] at hv
          cases hv)
      simp only [List.length_map, List.length_range] at hl
      have hv : ∀ (j : Nat) u, ((List.range i.size).map vals).toArray[j]? = some u → j < i.size ∧ vals j = u := by
        intro j u hu
        rw [List.getElem?_toArray, List.getElem?_map] at hu
        by_cases hj : j < i.size
        · rw [List.getElem?_range hj] at hu
          exact ⟨hj, by simpa using hu⟩
        · rw [List.getElem?_eq_none (by simp; omega)] at hu
          cases hu
      refine ⟨.agg ((List.range i.size).map vals).toArray, ?_, .agg (by simp; omega) (fun j v hu => ?_) fun j x v hx hu => ?_⟩
      · simp only [loadVar, Sem.run_bind, isAgg_of f w, hg, Result.andThen_ok, if_true, sizeOf_of f w, hl, Sem.run_pure]
      · obtain ⟨hj, rfl⟩ := hv j v hu
        exact h3 j _ (List.getElem?_eq_getElem (by omega))
      · obtain ⟨hj, rfl⟩ := hv j v hu
        refine h2 j x ?_
        rw [List.getElem?_take] at hx
        simpa [hj] using hx
  | false =>
    rw [hg] at hx
    simp only [cond_false, nth_eq] at hx
    have e : a.add 0 = a := by simp [Addr.add]
    have h0 := h1 0 x hx
    rw [e] at h0
    refine ⟨vals 0, ?_, h2 0 x hx⟩
    simp only [loadVar, Sem.run_bind, isAgg_of f w, hg, Result.andThen_ok, Bool.false_eq_true, if_false, run_load, h0]

theorem addr_add_add (a : Addr) (i j : Nat) : (a.add i).add j = a.add (i + j) := by
  unfold Addr.add
  by_cases h1 : i = 0
  · subst h1; simp
  · by_cases h2 : j = 0
    · subst h2; simp [h1]
    · simp [h1, h2, Nat.add_assoc]
theorem addr_add_lit (b o i : Nat) : (⟨b, o, none⟩ : Addr).add i = ⟨b, o + i, none⟩ := by unfold Addr.add; split <;> simp_all
theorem addr_add_none {a : Addr} (hs : a.spot = none) (i : Nat) : a.add i = ⟨a.block, a.off + i, none⟩ := by
  obtain ⟨b, o, s⟩ := a
  simp only at hs
  subst hs
  exact addr_add_lit b o i

theorem cell_row {w : World} {b : Nat} {vs : Array Value} {e : TypeId} {fr : Nat × Nat} (h : w.heap[b]? = some (.cells vs e fr)) (j : Nat) : w.cell? ⟨b, j, none⟩ = vs[j]? := by
  simp [World.cell?, h]

def loadA (i : TI) (x : A) (H : Heap) : Option A :=
  match x with
  | .ref o off => match nth H o with | some (.row cells _) => readA i (cells.drop off) | _ => none
  | .ptr cells => readA i (cells.map .d)
  | _ => none

/-- the cells from a place on -/
theorem load_at {P : Program} {M : Mem} {G : Nat → Value} {w : World} {H : Heap} (hG : Good M w) (hH : HRel M G w H) {t : Nat} {i : TI} (f : TiFacts P t i) {x y : A} {v : Value} (hx : RelA M G x v)
    (h : loadA i x H = some y) : ∃ u, (Instr.loadAt t v).run P w = .ok u w ∧ RelA M G y u := by
  cases hx with
  | @ref o off b hb =>
    simp only [loadA, nth_eq] at h
    split at h
    · rename_i cells elem ho
      obtain ⟨b', vs, hb', h1, h2, h3, h4, _⟩ := hH.obj o _ ho
      rw [hb] at hb'
      simp only [Value.pointer.injEq, Option.some.injEq, Addr.mk.injEq, and_true] at hb'
      subst hb'
      have hc : ∀ (j : Nat) x, (cells.drop off)[j]? = some x → ∃ u, vs[off + j]? = some u := fun j x hx => by
        rw [List.getElem?_drop] at hx
        have hlt : off + j < vs.size := by rw [h2]; exact (List.getElem?_eq_some_iff.1 hx).1
        exact ⟨vs[off + j], Array.getElem?_eq_getElem hlt⟩
      have := run_loadVar (P := P) (M := M) (G := G) f w ⟨b, off, none⟩ (cells.drop off) (fun j => vs[off + j]?.getD undef) (fun j x hx => by
          obtain ⟨u, hu⟩ := hc j x hx
          rw [addr_add_lit, cell_row h1, hu]; rfl) (fun j x hx => by
          obtain ⟨u, hu⟩ := hc j x hx
          rw [hu]
          rw [List.getElem?_drop] at hx
          exact h4 _ x u hx hu) (fun j x hx => by
          obtain ⟨u, hu⟩ := hc j x hx
          rw [hu]
          exact h3 _ u hu) h
      obtain ⟨u, hu, hr⟩ := this
      exact ⟨u, by simp [Instr.loadAt, Instr.sureAddr, hu], hr⟩
    · cases h
  | @ptr cells a vals hs h1 h2 =>
    simp only [loadA] at h
    have hd : ∀ (j : Nat) x, (cells.map A.d)[j]? = some x → ∃ y, cells[j]? = some y ∧ x = .d y := fun j x hx => by
      rw [List.getElem?_map] at hx
      cases hc : cells[j]? with
      | none => rw [hc] at hx; cases hx
      | some y => rw [hc] at hx; exact ⟨y, rfl, by simpa using hx.symm⟩
    obtain ⟨u, hu, hr⟩ := run_loadVar (P := P) (M := M) (G := G) f w a (cells.map .d) vals (fun j x hx => by
        obtain ⟨y, hy, rfl⟩ := hd j x hx
        exact (hG _ _ (h1 j y hy)).2) (fun j x hx => by
        obtain ⟨y, hy, rfl⟩ := hd j x hx
        exact .d (h2 j y hy)) (fun j x hx => by
        obtain ⟨y, hy, rfl⟩ := hd j x hx
        exact (h2 j y hy).one) h
    exact ⟨u, by simp [Instr.loadAt, Instr.sureAddr, hu], hr⟩
  | d h' => simp [loadA] at h
  | junk => simp [loadA] at h
  | full _ _ => simp [loadA] at h
  | osl _ _ => simp [loadA] at h
  | rsl _ _ _ => simp [loadA] at h
  | clo _ _ => simp [loadA] at h
  | agg _ _ _ => simp [loadA] at h
  | tup _ _ => simp [loadA] at h
  | mp _ => simp [loadA] at h

end Go.Am

