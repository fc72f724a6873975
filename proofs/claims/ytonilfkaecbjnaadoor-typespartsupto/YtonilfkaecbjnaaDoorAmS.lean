/-
  Slices that are made, filled and handed on.
-/
import Derived.Test.YtonilfkaecbjnaaDoorAmR
import Derived.Laws.MakeOwn
namespace Go.Am

def stepMk (C : Cx) (L : List Oper) (o : Oper) (env : Env) : Option (Option Nat × Nat × Int × Int × Nat × D) :=
  match wantedA L env o, o.op, dstF o with
  | some true, .makeSlice t lx cx, some d => match tget C.T t, ev C.GL env lx, ev C.GL env cx with
    | some i, .d (.int .i64 n), .d (.int .i64 m) => match i.u with
      | .sl e => match tget C.T e with
        | some j => match j.zero with
          | [z] => bif Nat.beq j.size 1 && Nat.ble 1 j.bytes then some (d, e, n, m, j.bytes, z) else none
          | _ => none
        | none => none
      | _ => none
    | _, _, _ => none
  | _, _, _ => none

theorem AOps.mk {F : Fx} (hC : CxOk F.C) {L l : List Oper} {o : Oper} {env : Env} {H H' : Heap} {Q : Env → Heap → Prop} {d : Option Nat} {e p : Nat} {n m : Int} {bytes : Nat} {z : D} (h : stepMk F.C L o env = some (d, e, n, m, bytes, z))
    (hnm : m = n) (h0 : 0 ≤ n ∧ n.toNat * bytes ≤ 140737488355328) {cs : List A} (hcs : cs = List.replicate n.toNat (.d z)) (hp : pushH H (.row cs e) = some (p, H')) (k : AOps F L l (put env d (.rsl p 0 n.toNat n.toNat)) H' Q) : AOps F L (o :: l) env H Q := by
  unfold stepMk at h
  split at h
  · rename_i t lx cx d' hw ho hd
    split at h
    · rename_i i n' m' ht hlx hcx
      split at h
      · rename_i e' hu
        split at h
        · rename_i j he
          split at h
          · rename_i z' hz
            cases hb : Nat.beq j.size 1 && Nat.ble 1 j.bytes with
            | false => rw [hb] at h; cases h
            | true =>
              rw [hb] at h
              simp only [cond_true, Option.some.injEq, Prod.mk.injEq] at h
              obtain ⟨rfl, rfl, rfl, rfl, rfl, rfl⟩ := h
              simp only [Bool.and_eq_true] at hb
              have hs1 := Nat.eq_of_beq_eq_true hb.1
              have hb1 := Nat.le_of_ble_eq_true hb.2
              subst hnm
              subst hcs
              obtain ⟨rfl, rfl⟩ := pushH_eq hp
              obtain ⟨hn0, hroom⟩ := h0
              obtain ⟨N, rfl⟩ : ∃ N : Nat, m' = N := ⟨m'.toNat, by omega⟩
              simp only [Int.toNat_natCast] at *
              have hNle : N ≤ 140737488355328 := Nat.le_trans (Nat.le_mul_of_pos_right N hb1) hroom
              refine aops_step hw fun fr M G w a K Qw hK hdok hs hsi hk => ?_
              have hx1 := hs.eval lx
              have hx2 := hs.eval cx
              rw [hlx] at hx1
              rw [hcx] at hx2
              generalize hv1 : a.eval lx = v1 at hx1
              generalize hv2 : a.eval cx = v2 at hx2
              cases hx1; rename_i hx1; cases hx1
              cases hx2; rename_i hx2; cases hx2
              have hdd := under_sl (hC.tok.facts ht) hu
              obtain ⟨j', q1, q2, q3, z1, q4, q5, q6, q7⟩ := (hC.tok.facts he).info
              have hzv : ∃ zv, z1.cells = #[zv] ∧ zB zv z' = true := by
                have hl : z1.cells.toList.length = 1 := by rw [q5, hz]; rfl
                have h1 : (0 : Nat) < z1.cells.size := by simp at hl; omega
                refine ⟨z1.cells[0], ?_, q6 0 _ _ (Array.getElem?_eq_getElem h1) (by rw [hz]; rfl)⟩
                apply Array.ext
                · simp at hl; simp [hl]
                · intro i h2 h3
                  simp at h3
                  subst h3
                  simp
              obtain ⟨zv, hzc, hzb⟩ := hzv
              have hbytes : ((j'.bytes : Int) * (N : Int)) ≤ 281474976710656 := by
                have : j.bytes * N ≤ 140737488355328 := by rw [Nat.mul_comm]; exact hroom
                have h2 : ((j.bytes * N : Nat) : Int) = (j.bytes : Int) * (N : Int) := by simp
                rw [q3]
                omega
              have hrun : (execOp a.eval o).run F.C.P w = .ok (.value (.slice (some ⟨w.heap.size, 0, none⟩) N N)) (w.alloc (.cells (madeCells z1.cells (N * j'.size)) e')) := by
                have := run_make (P := F.C.P) w t e' j' z1 hdd q1 q4 .i64 .i64 N N (by omega) (Int.le_refl _) hbytes (by omega)
                simp only [Int.toNat_natCast] at this
                unfold execOp
                simp only [ho, hv1, hv2, Sem.run_bind, this, Result.andThen_ok, Sem.run_pure]
              have hrel : CellsRel M G (List.replicate N (.d z')) (madeCells z1.cells (N * j'.size)) := by
                rw [q2, hs1, hzc, Nat.mul_one]
                have hget : ∀ (i : Nat) v, (madeCells #[zv] N)[i]? = some v → v = zv := fun i v hv => by
                  unfold madeCells at hv
                  rw [Array.getElem?_map] at hv
                  cases hr : (Array.range N)[i]? with
                  | none => rw [hr] at hv; cases hv
                  | some q => rw [hr] at hv; simp [Nat.mod_one] at hv; exact hv.symm
                refine ⟨by simp [madeCells], fun i v hv => ?_, fun i x v hx hv => ?_⟩
                · rw [hget i v hv]; exact (relD_of_zB hzb M).one
                · rw [hget i v hv]
                  rw [List.getElem?_replicate] at hx
                  split at hx
                  · cases hx; exact .d (relD_of_zB hzb M)
                  · cases hx
              have h1 := hs.newRow (dst := none) (by simp) hrel (elem := e')
              have h2 := Since.newRow hsi (cs := List.replicate N (.d z')) (vs := madeCells z1.cells (N * j'.size)) (elem := e')
              have h3 := h1.quiet (dstOk_spec hdok) (x := .rsl H.length 0 N N) (v := .slice (some ⟨w.heap.size, 0, none⟩) N N) (.rsl updG_same (Nat.le_refl _) (by unfold maxLen; omega)) h1.good (Ext.refl _ _ _)
              unfold Oper.wp
              rw [hrun]
              rw [← dstF_eq hd] at k
              exact hk _ _ _ _ _ _ _ k h3 (h2.quiet (Ext.refl _ _ _))
          · cases h
        · cases h
      · cases h
    · cases h
  · cases h


/-- a cell is read whose place is reckoned -/
def stepLd (C : Cx) (L : List Oper) (o : Oper) (env : Env) (H : Heap) : Option (Option Nat × List A × Nat) :=
  match wantedA L env o, o.op, dstF o with
  | some true, .load t x, some d => match tget C.T t, ev C.GL env x with
    | some i, .ref p off => bif i.u.agg then none else match nth H p with
      | some (.row cells _) => some (d, cells, off)
      | _ => none
    | _, _ => none
  | _, _, _ => none
theorem AOps.ld {F : Fx} (hC : CxOk F.C) {L l : List Oper} {o : Oper} {env : Env} {H : Heap} {Q : Env → Heap → Prop} {d : Option Nat} {cells : List A} {off : Nat} {y : A} (h : stepLd F.C L o env H = some (d, cells, off)) (hy : cells[off]? = some y)
    (k : AOps F L l (put env d y) H Q) : AOps F L (o :: l) env H Q := by
  unfold stepLd at h
  split at h
  · rename_i t x d' hw ho hd
    split at h
    · rename_i i p off' ht hx
      cases hag : i.u.agg with
      | true => rw [hag] at h; cases h
      | false =>
        rw [hag] at h
        simp only [cond_false] at h
        split at h
        · rename_i cs e hn
          simp only [Option.some.injEq, Prod.mk.injEq] at h
          obtain ⟨rfl, rfl, rfl⟩ := h
          refine .op hC hw (x := y) (c := True) ?_ trivial (by rw [dstF_eq hd]; exact k)
          have : loadA i (ev F.C.GL env x) H = some y := by
            rw [hx]
            simp only [loadA, hn, readA, hag, cond_false, nth_eq, List.getElem?_drop, Nat.add_zero]
            exact hy
          simp [opA, ho, ht, this]
        · cases h
    · cases h
  · cases h

/-- a store whose place is reckoned -/
def stepSx (C : Cx) (L : List Oper) (o : Oper) (env : Env) (H : Heap) : Option (Nat × Nat × List A × Nat × A) :=
  match wantedA L env o, o.op, o.dst with
  | some true, .store t x y, none => match tget C.T t, ev C.GL env x, acells (ev C.GL env y) with
    | some i, .ref p off, some [v] => bif Nat.beq i.size 1 then (match nth H p with | some (.row cells e) => some (p, off, cells, e, v) | _ => none) else none
    | _, _, _ => none
  | _, _, _ => none
theorem AOps.sx {F : Fx} (hC : CxOk F.C) {L l : List Oper} {o : Oper} {env : Env} {H H' : Heap} {Q : Env → Heap → Prop} {p off e : Nat} {cells cs' : List A} {v : A} (h : stepSx F.C L o env H = some (p, off, cells, e, v)) (hlt : off < cells.length) (hc : cs' = setAt cells off [v])
    (hH : hsetF H p (.row cs' e) = some H') (k : AOps F L l env H' Q) : AOps F L (o :: l) env H Q := by
  unfold stepSx at h
  split at h
  · rename_i t x y hw ho hd
    split at h
    · rename_i i p' off' v' ht hx hxs
      cases hb : Nat.beq i.size 1 with
      | false => rw [hb] at h; cases h
      | true =>
        rw [hb] at h
        simp only [cond_true] at h
        split at h
        · rename_i cs e' hn
          simp only [Option.some.injEq, Prod.mk.injEq] at h
          obtain ⟨rfl, rfl, rfl, rfl, rfl⟩ := h
          have h1 := Nat.eq_of_beq_eq_true hb
          have e2 := hsetF_eq hH
          subst e2
          subst hc
          have hst : storeA i (ev F.C.GL env x) (ev F.C.GL env y) H = some (p', setAt cs off' [v'], e') := by
            unfold storeA
            rw [hx, hxs]
            have : (Nat.beq [v'].length i.size && Nat.ble (off' + i.size) cs.length) = true := by
              rw [h1, Bool.and_eq_true]
              exact ⟨rfl, Nat.ble_eq_true_of_le hlt⟩
            simp only [hn, this, cond_true]
          refine .store hC hw ho ht hst ?_
          rw [hd]
          exact k
        · cases h
    · cases h
  · cases h

theorem map_set {α : Type} (g : α → A) : ∀ (l : List α) (n : Nat) (x : α), n < l.length → (l.set n x).map g = setAt (l.map g) n [g x]
  | [], _, _, h => by simp at h
  | _ :: r, 0, x, _ => by cases r <;> rfl
  | y :: r, n + 1, x, h => by
    show g y :: (r.set n x).map g = g y :: setAt (r.map g) n [g x]
    rw [map_set g r n x (by simpa using h)]

theorem cells_get {α : Type} {g : α → A} {l : List α} {i : Nat} {x : α} (h : l[i]? = some x) : (l.map g)[0 + i * 1]? = some (g x) := by simp [h]
theorem cells_lt {α : Type} {g : α → A} {l : List α} {i : Nat} (h : i < l.length) : 0 + i * 1 < (l.map g).length := by simpa using h
theorem cells_set {α : Type} {g : α → A} {l : List α} {i : Nat} {x : α} (h : i < l.length) : (l.set i x).map g = setAt (l.map g) (0 + i * 1) [g x] := by rw [map_set g l i x h]; simp
theorem cells_rep {α : Type} (g : α → A) (n : Nat) (x : α) : (List.replicate n x).map g = List.replicate n (g x) := List.map_replicate
theorem names_map {α : Type} (f : α → D) (k : Nat) : ∀ l : List α, namesLtL k (l.map fun x => A.d (f x)) = true
  | [] => rfl
  | _ :: r => names_map f k r

/-- a slice that this function made and filled, handed on as data -/
theorem AEx.fz {F : Fx} {c : Code} {env : Env} {H H' : Heap} {Q : Po} (t p : Nat) {α : Type} {l : List α} {f : α → D} {n e : Nat} (h : env t = .rsl p 0 n n) (ho : nth H p = some (.row (l.map fun x => .d (f x)) e)) (hl : l.length = n) (hH : hsetF H p .dead = some H')
    (k : AEx F c (upd env t (.d (.sl (l.map fun x => [f x])))) H' Q) : AEx F c env H Q := by
  intro fr M G w a hK hs hsi
  have e2 := hsetF_eq hH
  subst e2
  subst hl
  rw [nth_eq] at ho
  have hol : p < H.length := (List.getElem?_eq_some_iff.1 ho).1
  have hr := hs.env t
  rw [h] at hr
  generalize hv : a.tmps.getD t undef = v at hr
  cases hr
  rename_i b hg hm hc
  obtain ⟨b', vs, g1, g2, g3, g4, g5, g6⟩ := hs.hrel.obj p _ ho
  rw [hg] at g1
  simp at g1
  subst g1
  let M' : Mem := fun ad => if ad.block = b ∧ ad.spot = none then vs[ad.off]? else M ad
  have hmono : ∀ ad v, M ad = some v → M' ad = some v := fun ad v e1 => by
    show (if ad.block = b ∧ ad.spot = none then vs[ad.off]? else M ad) = some v
    rw [if_neg]
    · exact e1
    · rintro ⟨h1, h2⟩
      obtain ⟨bb, oo, ss⟩ := ad
      simp only at h1
      subst h1
      rw [g6] at e1
      cases e1
  have hgood : Good M' w := fun ad v e0 => by
    obtain ⟨bb, oo, ss⟩ := ad
    by_cases hc' : bb = b ∧ ss = none
    · obtain ⟨rfl, rfl⟩ := hc'
      have e4 : vs[oo]? = some v := by
        have : (if bb = bb ∧ (none : Option Nat) = none then vs[oo]? else M ⟨bb, oo, none⟩) = some v := e0
        rwa [if_pos ⟨rfl, rfl⟩] at this
      exact ⟨rfl, by rw [cell_row g2]; exact e4⟩
    · have e4 : M ⟨bb, oo, ss⟩ = some v := by
        have : (if bb = b ∧ ss = none then vs[oo]? else M ⟨bb, oo, ss⟩) = some v := e0
        rwa [if_neg hc'] at this
      exact hs.good _ v e4
  have hblkp : blk (.row (l.map fun x => A.d (f x)) e) (G p) = some b := by rw [hg]; rfl
  have hext : Ext (fun x => x = b) M w M' w := ⟨hmono, Nat.le_refl _, rfl, rfl, rfl, fun _ _ _ => rfl, fun ad v e1 => by
    have e1 : (if ad.block = b ∧ ad.spot = none then vs[ad.off]? else M ad) = some v := e1
    split at e1
    · rename_i hc'; exact .inr (.inl hc'.1)
    · exact .inl e1⟩
  have hdata : RelD M' (.sl (l.map fun x => [f x])) (.slice (some ⟨b, 0, none⟩) l.length l.length) := by
    refine .sl 1 (fun i _ => vs[i]?.getD undef) (by simp) (Nat.le_refl _) (by assumption) (.inr rfl) (fun i r hi => ?_) (fun i j r x hi hj => ?_) (fun i j r x hi hj => ?_)
    · rw [List.getElem?_map] at hi
      cases hx : l[i]? with
      | none => rw [hx] at hi; cases hi
      | some y => rw [hx] at hi; cases hi; rfl
    · rw [List.getElem?_map] at hi
      cases hx : l[i]? with
      | none => rw [hx] at hi; cases hi
      | some y =>
        rw [hx] at hi; cases hi
        cases j with
        | succ j => simp at hj
        | zero =>
          have hlt : i < vs.size := by rw [g3]; simp; exact (List.getElem?_eq_some_iff.1 hx).1
          rw [addr_add_lit]
          show (if b = b ∧ (none : Option Nat) = none then vs[0 + (i * 1 + 0)]? else _) = _
          rw [if_pos ⟨rfl, rfl⟩]
          simp [hlt]
    · rw [List.getElem?_map] at hi
      cases hx : l[i]? with
      | none => rw [hx] at hi; cases hi
      | some y =>
        rw [hx] at hi; cases hi
        cases j with
        | succ j => simp at hj
        | zero =>
          simp at hj
          subst hj
          have hlt : i < vs.size := by rw [g3]; simp; exact (List.getElem?_eq_some_iff.1 hx).1
          have := g5 i (A.d (f y)) vs[i] (by rw [List.getElem?_map, hx]; rfl) (Array.getElem?_eq_getElem hlt)
          have e3 : vs[i]?.getD undef = vs[i] := by simp [hlt]
          rw [e3]
          cases this
          rename_i hd
          exact hd.mono hmono
  refine k fr M' G w a hK ⟨hgood, hs.gl.mono hmono, ⟨fun o x ho' => ?_, fun o o' x x' c ho1 ho2 hx hx' => ?_, fun o ho' => hs.hrel.fresh o (by rw [hset_len] at ho'; exact ho')⟩, fun s => ?_, hs.size, hs.defers⟩ ⟨hsi.ext.trans hext (fun x hx => by subst hx; exact hsi.own _ ⟨p, _, ho, hblkp⟩), fun c ⟨o, x, h1, h2⟩ => ?_, by rw [hset_len]; exact hsi.len, hsi.keep, fun o x y h1 h2 h3 => ?_⟩
  · rw [hset_get H p _ o hol] at ho'
    split at ho'
    · cases ho'; trivial
    · rename_i hne
      refine (hs.hrel.obj o x ho').keep hmono (fun _ _ => rfl) fun c hc' off sp hn => ?_
      show (if c = b ∧ sp = none then vs[off]? else M ⟨c, off, sp⟩) = none
      rw [if_neg]
      · exact hn
      · rintro ⟨rfl, _⟩
        exact hne (hs.hrel.apart o p x _ _ ho' ho hc' hblkp)
  · rw [hset_get H p _ o hol] at ho1
    rw [hset_get H p _ o' hol] at ho2
    split at ho1
    · cases ho1; simp [blk] at hx
    · split at ho2
      · cases ho2; simp [blk] at hx'
      · exact hs.hrel.apart o o' x x' c ho1 ho2 hx hx'
  · unfold upd
    cases hb : Nat.beq s t with
    | true =>
      obtain rfl := Nat.eq_of_beq_eq_true hb
      rw [hv]
      exact .d hdata
    | false => exact (hs.env s).mono' hmono
  · rw [hset_get H p _ o hol] at h1
    split at h1
    · cases h1; simp [blk] at h2
    · exact hsi.own c ⟨o, x, h1, h2⟩
  · rw [hset_get H p _ o hol] at h3
    split at h3
    · cases h3; rfl
    · exact hsi.kind o x y h1 h2 h3

end Go.Am
