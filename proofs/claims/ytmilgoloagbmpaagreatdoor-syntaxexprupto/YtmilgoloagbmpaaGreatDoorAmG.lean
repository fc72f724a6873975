/-
  The abstract machine: steps whose outcome is written out in full ('frc'), so that states stay small.
-/
import Derived.Test.YtmilgoloagbmpaaGreatDoorAmF
namespace Go.Am

def frcL : List A → Option (List A)
  | [] => some []
  | x :: r => match frcL r with | some r' => some (x :: r') | none => none

theorem frcL_eq : ∀ {l l' : List A}, frcL l = some l' → l' = l
  | [], l', h => by simp [frcL] at h; exact h
  | x :: r, l', h => by
    simp only [frcL] at h
    split at h
    · rename_i r' hr
      simp only [Option.some.injEq] at h
      rw [← h, frcL_eq hr]
    · cases h

def frcD : List D → Option (List D)
  | [] => some []
  | x :: r => match frcD r with | some r' => some (x :: r') | none => none

theorem frcD_eq : ∀ {l l' : List D}, frcD l = some l' → l' = l
  | [], l', h => by simp [frcD] at h; exact h
  | x :: r, l', h => by
    simp only [frcD] at h
    split at h
    · rename_i r' hr
      simp only [Option.some.injEq] at h
      rw [← h, frcD_eq hr]
    · cases h

/-- a value, its outermost layer written out -/
def frc : A → Option A
  | .d (.bool b) => some (.d (.bool b))
  | .d (.int k n) => some (.d (.int k n))
  | .d (.str s) => some (.d (.str s))
  | .d (.sl r) => some (.d (.sl r))
  | .d (.nilv k) => some (.d (.nilv k))
  | .junk => some .junk
  | .ref o k => some (.ref o k)
  | .ptr cs => match frcD cs with | some cs' => some (.ptr cs') | none => none
  | .full r => some (.full r)
  | .osl o r => some (.osl o r)
  | .rsl a b c e => some (.rsl a b c e)
  | .clo f cs => match frcL cs with | some cs' => some (.clo f cs') | none => none
  | .agg cs => match frcL cs with | some cs' => some (.agg cs') | none => none
  | .tup cs => match frcL cs with | some cs' => some (.tup cs') | none => none
  | .mp o => some (.mp o)

theorem frc_eq {x y : A} (h : frc x = some y) : y = x := by
  unfold frc at h
  split at h <;> first
    | (simp only [Option.some.injEq] at h; exact h.symm)
    | (split at h
       · rename_i cs' hc
         simp only [Option.some.injEq] at h
         first | rw [← h, frcL_eq hc] | rw [← h, frcD_eq hc]
       · cases h)

/-- a quiet operation, wanted or not: where it goes, what it asks, what it yields -/
def stepA (C : Cx) (L : List Oper) (o : Oper) (env : Env) (H : Heap) : Option (Option Nat × Prop × A) :=
  match wantedA L env o with
  | some true => match opA C.T C.GL o.op env H with
    | some (c, x) => match frc x with
      | some y => match o.dst with
        | some t => some (some t, c, y)
        | none => some (none, c, y)
      | none => none
    | none => none
  | some false => match o.dst with
    | some t => some (some t, True, .tup [])
    | none => some (none, True, .tup [])
  | none => none

theorem AOps.q {F : Fx} (hC : CxOk F.C) {L l : List Oper} {o : Oper} {env : Env} {H : Heap} {Q : Env → Heap → Prop} {d : Option Nat} {c : Prop} {x : A} (h : stepA F.C L o env H = some (d, c, x)) (hc : c)
    (k : AOps F L l (put env d x) H Q) : AOps F L (o :: l) env H Q := by
  unfold stepA at h
  split at h
  · rename_i hw
    split at h
    · rename_i c' x' ho
      split at h
      · rename_i y hy
        have hyx := frc_eq hy
        subst hyx
        have : o.dst = d ∧ c' = c ∧ y = x := by
          split at h
          · rename_i t ht
            simp only [Option.some.injEq, Prod.mk.injEq] at h
            exact ⟨ht.trans h.1, h.2.1, h.2.2⟩
          · rename_i ht
            simp only [Option.some.injEq, Prod.mk.injEq] at h
            exact ⟨ht.trans h.1, h.2.1, h.2.2⟩
        obtain ⟨rfl, rfl, rfl⟩ := this
        exact .op hC hw ho hc k
      · cases h
    · cases h
  · rename_i hw
    have : o.dst = d ∧ A.tup [] = x := by
      split at h
      · rename_i t ht
        simp only [Option.some.injEq, Prod.mk.injEq] at h
        exact ⟨ht.trans h.1, h.2.2⟩
      · rename_i ht
        simp only [Option.some.injEq, Prod.mk.injEq] at h
        exact ⟨ht.trans h.1, h.2.2⟩
    obtain ⟨rfl, rfl⟩ := this
    exact .skip hw k
  · cases h

/-- a heap with one object more, and its number -/
def pushH : Heap → Ob → Option (Nat × Heap)
  | [], x => some (0, [x])
  | y :: r, x => match pushH r x with | some (n, r') => some (n + 1, y :: r') | none => none

theorem pushH_eq : ∀ {H : Heap} {x : Ob} {n : Nat} {H' : Heap}, pushH H x = some (n, H') → n = H.length ∧ H' = H ++ [x]
  | [], x, n, H', h => by simp [pushH] at h; exact ⟨h.1.symm, h.2.symm⟩
  | y :: r, x, n, H', h => by
    simp only [pushH] at h
    split at h
    · rename_i m r' hr
      simp only [Option.some.injEq, Prod.mk.injEq] at h
      obtain ⟨e1, e2⟩ := pushH_eq hr
      rw [← h.1, ← h.2, e1, e2]
      exact ⟨rfl, rfl⟩
    · cases h

def dstF (o : Oper) : Option (Option Nat) := match o.dst with | some t => some (some t) | none => some none
theorem dstF_eq {o : Oper} {d : Option Nat} (h : dstF o = some d) : o.dst = d := by
  unfold dstF at h
  split at h
  · rename_i t ht; simp only [Option.some.injEq] at h; exact ht.trans h
  · rename_i ht; simp only [Option.some.injEq] at h; exact ht.trans h

/-- a new variable -/
def stepN (C : Cx) (L : List Oper) (o : Oper) (env : Env) (H : Heap) : Option (Option Nat × Nat × Heap) :=
  match wantedA L env o, o.op with
  | some true, .alloc t => match tget C.T t with
    | some i => match frcL (i.zero.map .d) with
      | some cs => match pushH H (.row cs t), dstF o with | some (n, H'), some d => some (d, n, H') | _, _ => none
      | none => none
    | none => none
  | some true, .box t y => match acells (ev C.GL env y) with
    | some cs0 => match frcL cs0 with
      | some cs => match pushH H (.row cs t), dstF o with | some (n, H'), some d => some (d, n, H') | _, _ => none
      | none => none
    | none => none
  | _, _ => none

theorem AOps.n {F : Fx} (hC : CxOk F.C) {L l : List Oper} {o : Oper} {env : Env} {H H' : Heap} {Q : Env → Heap → Prop} {d : Option Nat} {n : Nat} (h : stepN F.C L o env H = some (d, n, H'))
    (k : AOps F L l (put env d (.ref n 0)) H' Q) : AOps F L (o :: l) env H Q := by
  unfold stepN at h
  split at h
  · rename_i t hw ho
    split at h
    · rename_i i ht
      split at h
      · rename_i cs hcs
        split at h
        · rename_i n' H2 d' hp hd
          simp only [Option.some.injEq, Prod.mk.injEq] at h
          obtain ⟨rfl, rfl, rfl⟩ := h
          obtain ⟨rfl, rfl⟩ := pushH_eq hp
          have := frcL_eq hcs
          subst this
          refine .alloc hC hw ho ht ?_
          rw [dstF_eq hd]
          exact k
        · cases h
      · cases h
    · cases h
  · rename_i t y hw ho
    split at h
    · rename_i cs0 hc0
      split at h
      · rename_i cs hcs
        split at h
        · rename_i n' H2 d' hp hd
          simp only [Option.some.injEq, Prod.mk.injEq] at h
          obtain ⟨rfl, rfl, rfl⟩ := h
          obtain ⟨rfl, rfl⟩ := pushH_eq hp
          have := frcL_eq hcs
          subst this
          refine .box hw ho hc0 ?_
          rw [dstF_eq hd]
          exact k
        · cases h
      · cases h
    · cases h
  · cases h

def setF : List A → Nat → List A → Option (List A)
  | c, 0, [] => frcL c
  | _ :: c, 0, x :: xs => match setF c 0 xs with | some r => some (x :: r) | none => none
  | c :: cs, n + 1, xs => match setF cs n xs with | some r => some (c :: r) | none => none
  | [], _, _ => some []

theorem setF_eq : ∀ {c : List A} {n : Nat} {xs r : List A}, setF c n xs = some r → r = setAt c n xs
  | [], 0, [], r, h => by simp [setF, frcL] at h; rw [h]; rfl
  | [], 0, _ :: _, r, h => by simp [setF] at h; rw [h]; rfl
  | [], _ + 1, [], r, h => by simp [setF] at h; rw [h]; rfl
  | [], _ + 1, _ :: _, r, h => by simp [setF] at h; rw [h]; rfl
  | c :: cs, 0, [], r, h => by simp only [setF] at h; rw [frcL_eq h]; rfl
  | c :: cs, 0, x :: xs, r, h => by
    simp only [setF] at h
    split at h
    · rename_i r' hr
      simp only [Option.some.injEq] at h
      rw [← h, setF_eq hr]
      rfl
    · cases h
  | c :: cs, n + 1, xs, r, h => by
    simp only [setF] at h
    split at h
    · rename_i r' hr
      simp only [Option.some.injEq] at h
      rw [← h, setF_eq hr]
      rfl
    · cases h

def hsetF : Heap → Nat → Ob → Option Heap
  | [], _, _ => some []
  | _ :: r, 0, x => some (x :: r)
  | y :: r, n + 1, x => match hsetF r n x with | some r' => some (y :: r') | none => none

theorem hsetF_eq : ∀ {H : Heap} {n : Nat} {x : Ob} {r : Heap}, hsetF H n x = some r → r = hset H n x
  | [], n, x, r, h => by simp [hsetF] at h; rw [h]; rfl
  | y :: H, 0, x, r, h => by simp [hsetF] at h; rw [← h]; rfl
  | y :: H, n + 1, x, r, h => by
    simp only [hsetF] at h
    split at h
    · rename_i r' hr
      simp only [Option.some.injEq] at h
      rw [← h, hsetF_eq hr]
      rfl
    · cases h

/-- a store: the heap behind it -/
def stepS (C : Cx) (L : List Oper) (o : Oper) (env : Env) (H : Heap) : Option Heap :=
  match wantedA L env o, o.op, o.dst with
  | some true, .store t x y, none => match tget C.T t, ev C.GL env x, acells (ev C.GL env y) with
    | some i, .ref p off, some xs => match nth H p with
      | some (.row cells e) => bif Nat.beq xs.length i.size && Nat.ble (off + i.size) cells.length then (match setF cells off xs with | some cs => hsetF H p (.row cs e) | none => none) else none
      | _ => none
    | _, _, _ => none
  | _, _, _ => none

theorem AOps.s {F : Fx} (hC : CxOk F.C) {L l : List Oper} {o : Oper} {env : Env} {H H' : Heap} {Q : Env → Heap → Prop} (h : stepS F.C L o env H = some H')
    (k : AOps F L l env H' Q) : AOps F L (o :: l) env H Q := by
  unfold stepS at h
  split at h
  · rename_i t x y hw ho hd
    split at h
    · rename_i i p off xs ht hx hxs
      split at h
      · rename_i cells e hn
        cases hb : Nat.beq xs.length i.size && Nat.ble (off + i.size) cells.length with
        | false => rw [hb] at h; cases h
        | true =>
          rw [hb] at h
          simp only [cond_true] at h
          split at h
          · rename_i cs hcs
            have e1 := setF_eq hcs
            have e2 := hsetF_eq h
            subst e1
            subst e2
            have hst : storeA i (ev F.C.GL env x) (ev F.C.GL env y) H = some (p, setAt cells off xs, e) := by
              unfold storeA
              rw [hx, hxs]
              simp only [hn, hb, cond_true]
            refine .store hC hw ho ht hst ?_
            rw [hd]
            exact k
          · cases h
      · cases h
    · cases h
  · cases h

/-- the callee and the arguments of a call -/
def stepC (C : Cx) (L : List Oper) (o : Oper) (env : Env) : Option (Option Nat × FuncId × List A) :=
  match wantedA L env o, callArgs C.GL env o with
  | some true, some (f, xs) => match frcL xs, dstF o with | some ys, some d => some (d, f, ys) | _, _ => none
  | _, _ => none

theorem stepC_spec {C : Cx} {L : List Oper} {o : Oper} {env : Env} {d : Option Nat} {f : FuncId} {xs : List A} (h : stepC C L o env = some (d, f, xs)) : wantedA L env o = some true ∧ callArgs C.GL env o = some (f, xs) ∧ o.dst = d := by
  unfold stepC at h
  split at h
  · rename_i g ys hw hc
    split at h
    · rename_i zs d' hz hd
      simp only [Option.some.injEq, Prod.mk.injEq] at h
      obtain ⟨rfl, rfl, rfl⟩ := h
      rw [frcL_eq hz]
      exact ⟨hw, hc, dstF_eq hd⟩
    · cases h
  · cases h

theorem AOps.c {F : Fx} {L l : List Oper} {o : Oper} {env : Env} {H : Heap} {Q : Env → Heap → Prop} {d : Option Nat} {f : FuncId} {xs : List A} {x : A} (h : stepC F.C L o env = some (d, f, xs)) (hn : namesLtL 0 xs = true)
    (hc : ACall F.C f xs [] (fun r H' => H' = [] ∧ r = x)) (k : AOps F L l (put env d x) H Q) : AOps F L (o :: l) env H Q := by
  obtain ⟨h1, h2, rfl⟩ := stepC_spec h
  exact .call h1 h2 hn hc k

/-- an element's address in a slice of data: the operands -/
def stepI (C : Cx) (L : List Oper) (o : Oper) (env : Env) : Option (Option Nat × List (List D) × Int × Nat) :=
  match wantedA L env o, o.op with
  | some true, .indexAddr t x y => match tget C.T t, ev C.GL env y, rowsOf (ev C.GL env x), dstF o with
    | some i, .d (.int _ n), some rows, some d => match i.u with
      | .sl e => match tget C.T e with | some j => some (d, rows, n, j.size) | none => none
      | _ => none
    | _, _, _, _ => none
  | _, _ => none

theorem ptr_row {M : Mem} {G : Nat → Value} {rows : List Row} {v : Value} (h : RelD M (.sl rows) v) {k : Nat} {r : Row} (hk : rows[k]? = some r) :
    ∃ a cap, v = .slice (some a) rows.length cap ∧ RelA M G (.ptr r) (.pointer (some (a.add (k * r.length)))) := by
  cases h with
  | slnil => simp at hk
  | sl sz vals hl hc hm hs hz h1 h2 =>
    rename_i a len cap
    have hs : a.spot = none := by
      rcases hs with h0 | h0
      · have := (List.getElem?_eq_some_iff.1 hk).1; omega
      · exact h0
    refine ⟨a, cap, by rw [hl], ?_⟩
    rw [hz k r hk]
    refine .ptr (fun j => vals k j) (by rw [addr_add_none hs]) (fun j x hx => ?_) fun j x hx => h2 k j r x hk hx
    rw [addr_add_add]
    exact h1 k j r x hk hx

theorem yields_index {C : Cx} (hC : CxOk C) {L : List Oper} {o : Oper} {env : Env} {H : Heap} {d : Option Nat} {rows : List (List D)} {n : Int} {sz : Nat} (h : stepI C L o env = some (d, rows, n, sz)) {k : Nat} {r : List D} (hn : n = k)
    (hk : rows[k]? = some r) (hsz : Nat.beq r.length sz = true) : Yields C o env H (.ptr r) := by
  intro M G w a next Qw hρ hG hgl hH hkk
  unfold stepI at h
  split at h
  · rename_i t x y hw ho
    rw [ho] at hρ
    split at h
    · rename_i i kd m rows' d' ht hy hr hd
      split at h
      · rename_i e hu
        split at h
        · rename_i j he
          simp only [Option.some.injEq, Prod.mk.injEq] at h
          obtain ⟨rfl, rfl, rfl, rfl⟩ := h
          have hx := hρ x (by simp [Op.operands])
          have hyy := hρ y (by simp [Op.operands])
          rw [hy] at hyy
          generalize hyv : a.eval y = yv at hyy
          cases hyy; rename_i hyy; cases hyy
          obtain ⟨ad, cap, hv, hp⟩ := ptr_row (G := G) (rowsOf_rel hr hx) hk
          have hlt : k < rows'.length := (List.getElem?_eq_some_iff.1 hk).1
          have hszz := Nat.eq_of_beq_eq_true hsz
          have hu' := under_sl (hC.tok.facts ht) hu
          unfold Oper.wp execOp
          have : (Instr.indexAt t (a.eval x) (.int kd m)).run C.P w = .ok (.pointer (some (ad.add (k * r.length)))) w := by
            have hc : 0 ≤ m ∧ m < (rows'.length : Int) := by omega
            have hm : m.toNat = k := by omega
            simp [Instr.indexAt, asInt_ok, run_underlying hu', hv, hc, sizeOf_of (hC.tok.facts he) w, hszz, hm]
          simp only [ho, hyv, Sem.run_bind, this, Result.andThen_ok, Sem.run_pure, Oper.upon_value]
          exact hkk _ M w hp hG (Ext.refl _ _ _)
        · cases h
      · cases h
    · cases h
  · cases h

theorem stepI_spec {C : Cx} {L : List Oper} {o : Oper} {env : Env} {d : Option Nat} {rows : List (List D)} {n : Int} {sz : Nat} (h : stepI C L o env = some (d, rows, n, sz)) : wantedA L env o = some true ∧ o.dst = d := by
  unfold stepI at h
  split at h
  · rename_i t x y hw ho
    split at h
    · rename_i i kd m rows' d' ht hy hr hd
      split at h
      · split at h
        · simp only [Option.some.injEq, Prod.mk.injEq] at h
          obtain ⟨rfl, _⟩ := h
          exact ⟨hw, dstF_eq hd⟩
        · cases h
      · cases h
    · cases h
  · cases h

theorem AOps.i {F : Fx} (hC : CxOk F.C) {L l : List Oper} {o : Oper} {env : Env} {H : Heap} {Q : Env → Heap → Prop} {d : Option Nat} {rows : List (List D)} {n : Int} {sz : Nat} (h : stepI F.C L o env = some (d, rows, n, sz)) {k : Nat} {r : List D} (hn : n = k)
    (hk : rows[k]? = some r) (hsz : Nat.beq r.length sz = true) (kk : AOps F L l (put env d (.ptr r)) H Q) : AOps F L (o :: l) env H Q := by
  obtain ⟨h1, rfl⟩ := stepI_spec h
  exact .yields h1 (yields_index hC h hn hk hsz) kk

/-! ### what a value in a state says of itself -/

theorem RelD.len {M : Mem} {rows : List Row} {v : Value} (h : RelD M (.sl rows) v) : rows.length ≤ 9223372036854775807 := by
  obtain ⟨_, _, _, hl⟩ := sl_len h
  exact hl

end Go.Am

