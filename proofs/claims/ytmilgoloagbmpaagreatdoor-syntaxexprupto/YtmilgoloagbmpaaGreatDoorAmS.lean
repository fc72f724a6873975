/-
  Slices that are made, filled and handed on.
-/
import Derived.Test.YtmilgoloagbmpaaGreatDoorAmR
import Derived.Laws.MakeOwn
namespace Go.Am

def stepMk (C : Cx) (L : List Oper) (o : Oper) (env : Env) : Option (Option Nat × Nat × Int × Int × Nat × D) :=
  match wantedA L env o, o.op, dstF o with
  | some true, .makeSlice t lx cx, some d => match tget C.T t, ev C.GL env lx, ev C.GL env cx with
    | some i, .d (.int .i64 n), .d (.int .i64 m) => match i.u with
      | .sl e => match tget C.T e with
        | some j => match j.zero with
          | [z] => bif Nat.beq j.size 1 && Nat.ble 1 j.bytes then some (d, e, n, m, j.bytes, z) else none
          | _ => none
        | none => none
      | _ => none
    | _, _, _ => none
  | _, _, _ => none

theorem AOps.mk {F : Fx} (hC : CxOk F.C) {L l : List Oper} {o : Oper} {env : Env} {H H' : Heap} {Q : Env → Heap → Prop} {d : Option Nat} {e p : Nat} {n m : Int} {bytes : Nat} {z : D} (h : stepMk F.C L o env = some (d, e, n, m, bytes, z))
    (hnm : m = n) (h0 : 0 ≤ n ∧ n.toNat * bytes ≤ 140737488355328) {cs : List A} (hcs : cs = List.replicate n.toNat (.d z)) (hp : pushH H (.row cs e) = some (p, H')) (k : AOps F L l (put env d (.rsl p 0 n.toNat n.toNat)) H' Q) : AOps F L (o :: l) env H Q := by
  unfold stepMk at h
  split at h
  · rename_i t lx cx d' hw ho hd
    split at h
    · rename_i i n' m' ht hlx hcx
      split at h
      · rename_i e' hu
        split at h
        · rename_i j he
          split at h
          · rename_i z' hz
            cases hb : Nat.beq j.size 1 && Nat.ble 1 j.bytes with
            | false => rw [hb] at h; cases h
            | true =>
              rw [hb] at h
              simp only [cond_true, Option.some.injEq, Prod.mk.injEq] at h
              obtain ⟨rfl, rfl, rfl, rfl, rfl, rfl⟩ := h
              simp only [Bool.and_eq_true] at hb
              have hs1 := Nat.eq_of_beq_eq_true hb.1
              have hb1 := Nat.le_of_ble_eq_true hb.2
              subst hnm
              subst hcs
              obtain ⟨rfl, rfl⟩ := pushH_eq hp
              obtain ⟨hn0, hroom⟩ := h0
              obtain ⟨N, rfl⟩ : ∃ N : Nat, m' = N := ⟨m'.toNat, by omega⟩
              simp only [Int.toNat_natCast] at *
              have hNle : N ≤ 140737488355328 := Nat.le_trans (Nat.le_mul_of_pos_right N hb1) hroom
              refine aops_step hw fun fr M G w a K Qw hK hdok hs hsi hk => ?_
              have hx1 := hs.eval lx
              have hx2 := hs.eval cx
              rw [hlx] at hx1
              rw [hcx] at hx2
              generalize hv1 : a.eval lx = v1 at hx1
              generalize hv2 : a.eval cx = v2 at hx2
              cases hx1; rename_i hx1; cases hx1
              cases hx2; rename_i hx2; cases hx2
              have hdd := under_sl (hC.tok.facts ht) hu
              obtain ⟨j', q1, q2, q3, z1, q4, q5, q6, q7⟩ := (hC.tok.facts he).info
              have hzv : ∃ zv, z1.cells = #[zv] ∧ zB zv z' = true := by
                have hl : z1.cells.toList.length = 1 := by rw [q5, hz]; rfl
                have h1 : (0 : Nat) < z1.cells.size := by simp at hl; omega
                refine ⟨z1.cells[0], ?_, q6 0 _ _ (Array.getElem?_eq_getElem h1) (by rw [hz]; rfl)⟩
                apply Array.ext
                · simp at hl; simp [hl]
                · intro i h2 h3
                  simp at h3
                  subst h3
                  simp
              obtain ⟨zv, hzc, hzb⟩ := hzv
              have hbytes : ((j'.bytes : Int) * (N : Int)) ≤ 281474976710656 := by
                have : j.bytes * N ≤ 140737488355328 := by rw [Nat.mul_comm]; exact hroom
                have h2 : ((j.bytes * N : Nat) : Int) = (j.bytes : Int) * (N : Int) := by simp
                rw [q3]
                omega
              have hrun : (execOp a.eval o).run F.C.P w = .ok (.value (.slice (some ⟨w.heap.size, 0, none⟩) N N)) (w.alloc (.cells (madeCells z1.cells (N * j'.size)) e')) := by
                have := run_make (P := F.C.P) w t e' j' z1 hdd q1 q4 .i64 .i64 N N (by omega) (Int.le_refl _) hbytes (by omega)
                simp only [Int.toNat_natCast] at this
                unfold execOp
                simp only [ho, hv1, hv2, Sem.run_bind, this, Result.andThen_ok, Sem.run_pure]
              have hrel : CellsRel M G (List.replicate N (.d z')) (madeCells z1.cells (N * j'.size)) := by
                rw [q2, hs1, hzc, Nat.mul_one]
                have hget : ∀ (i : Nat) v, (madeCells #[zv] N)[i]? = some v → v = zv := fun i v hv => by
                  unfold madeCells at hv
                  rw [Array.getElem?_map] at hv
                  cases hr : (Array.range N)[i]? with
                  | none => rw [hr] at hv; cases hv
                  | some q => rw [hr] at hv; simp [Nat.mod_one] at hv; exact hv.symm
                refine ⟨by simp [madeCells], fun i v hv => ?_, fun i x v hx hv => ?_⟩
                · rw [hget i v hv]; exact (relD_of_zB hzb M).one
                · rw [hget i v hv]
                  rw [List.getElem?_replicate] at hx
                  split at hx
                  · cases hx; exact .d (relD_of_zB hzb M)
                  · cases hx
              have h1 := hs.newRow (dst := none) (by simp) hrel (elem := e')
              have h2 := Since.newRow hsi (cs := List.replicate N (.d z')) (vs := madeCells z1.cells (N * j'.size)) (elem := e')
              have h3 := h1.quiet (dstOk_spec hdok) (x := .rsl H.length 0 N N) (v := .slice (some ⟨w.heap.size, 0, none⟩) N N) (.rsl updG_same (Nat.le_refl _) (by unfold maxLen; omega)) h1.good (Ext.refl _ _ _)
              unfold Oper.wp
              rw [hrun]
              rw [← dstF_eq hd] at k
              exact hk _ _ _ _ _ _ _ k h3 (h2.quiet (Ext.refl _ _ _))
          · cases h
        · cases h
      · cases h
    · cases h
  · cases h

/-- a cell is read whose place is reckoned -/
def stepLd (C : Cx) (L : List Oper) (o : Oper) (env : Env) (H : Heap) : Option (Option Nat × List A × Nat) :=
  match wantedA L env o, o.op, dstF o with
  | some true, .load t x, some d => match tget C.T t, ev C.GL env x with
    | some i, .ref p off => bif i.u.agg then none else match nth H p with
      | some (.row cells _) => some (d, cells, off)
      | _ => none
    | _, _ => none
  | _, _, _ => none
theorem AOps.ld {F : Fx} (hC : CxOk F.C) {L l : List Oper} {o : Oper} {env : Env} {H : Heap} {Q : Env → Heap → Prop} {d : Option Nat} {cells : List A} {off : Nat} {y : A} (h : stepLd F.C L o env H = some (d, cells, off)) (hy : cells[off]? = some y)
    (k : AOps F L l (put env d y) H Q) : AOps F L (o :: l) env H Q := by
  unfold stepLd at h
  split at h
  · rename_i t x d' hw ho hd
    split at h
    · rename_i i p off' ht hx
      cases hag : i.u.agg with
      | true => rw [hag] at h; cases h
      | false =>
        rw [hag] at h
        simp only [cond_false] at h
        split at h
        · rename_i cs e hn
          simp only [Option.some.injEq, Prod.mk.injEq] at h
          obtain ⟨rfl, rfl, rfl⟩ := h
          refine .op hC hw (x := y) (c := True) ?_ trivial (by rw [dstF_eq hd]; exact k)
          have : loadA i (ev F.C.GL env x) H = some y := by
            rw [hx]
            simp only [loadA, hn, readA, hag, cond_false, nth_eq, List.getElem?_drop, Nat.add_zero]
            exact hy
          simp [opA, ho, ht, this]
        · cases h
    · cases h
  · cases h

end Go.Am

