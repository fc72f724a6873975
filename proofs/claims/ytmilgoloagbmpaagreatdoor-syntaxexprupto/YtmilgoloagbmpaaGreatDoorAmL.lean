/-
  The abstract machine: slices of data that are built, parts of slices and strings.
-/
import Derived.Test.YtmilgoloagbmpaaGreatDoorAmK
namespace Go.Am

/-- new immutable cells -/
theorem newData {M : Mem} {w : World} (hG : Good M w) (cs : Array Value) (e : TypeId) :
    ∃ M' : Mem, Good M' (w.alloc (.cells cs e)) ∧ Ext none' M w M' (w.alloc (.cells cs e)) ∧ ∀ (j : Nat) v, cs[j]? = some v → M' ⟨w.heap.size, j, none⟩ = some v := by
  refine ⟨fun ad => if ad.block = w.heap.size ∧ ad.spot = none then cs[ad.off]? else M ad, fun ad v hv => ?_, ⟨fun ad v hv => ?_, by simp, rfl, rfl, rfl, fun b hb _ => heap_alloc_old w _ b hb, fun ad v hv => ?_⟩, fun j v hv => ?_⟩
  · simp only at hv
    split at hv
    · rename_i hc
      obtain ⟨b, o, s⟩ := ad
      simp only at hc hv
      obtain ⟨rfl, rfl⟩ := hc
      exact ⟨rfl, by rw [cell_row (w := w.alloc (.cells cs e)) (heap_alloc_new w _)]; exact hv⟩
    · refine ⟨(hG ad v hv).1, ?_⟩
      rw [World.cell?_alloc_lt w _ ad (hG.lt hv)]
      exact (hG ad v hv).2
  · have := hG.lt hv
    show (if ad.block = w.heap.size ∧ ad.spot = none then cs[ad.off]? else M ad) = some v
    rw [if_neg (by omega)]
    exact hv
  · have hv : (if ad.block = w.heap.size ∧ ad.spot = none then cs[ad.off]? else M ad) = some v := hv
    split at hv
    · rename_i hc; exact .inr (.inr (by omega))
    · exact .inl hv
  · show (if w.heap.size = w.heap.size ∧ (none : Option Nat) = none then cs[j]? else M _) = some v
    rw [if_pos ⟨rfl, rfl⟩]
    exact hv

def toD : A → Option D
  | .d x => some x
  | .full r => some (.sl r)
  | .osl _ r => some (.sl r)
  | _ => none

theorem toD_rel {M : Mem} {G : Nat → Value} {x : A} {y : D} {v : Value} (h : toD x = some y) (hx : RelA M G x v) : RelD M y v := by
  unfold toD at h
  split at h
  · simp only [Option.some.injEq] at h; subst h; cases hx; assumption
  · simp only [Option.some.injEq] at h; subst h; cases hx; assumption
  · simp only [Option.some.injEq] at h; subst h; cases hx; assumption
  · cases h

def toDs : List A → Option (List D)
  | [] => some []
  | x :: r => match toD x, toDs r with | some y, some r' => some (y :: r') | _, _ => none

theorem toDs_get : ∀ {l : List A} {l' : List D}, toDs l = some l' → l'.length = l.length ∧ ∀ (i : Nat) y, l'[i]? = some y → ∃ x, l[i]? = some x ∧ toD x = some y
  | [], l', h => by simp [toDs] at h; subst h; exact ⟨rfl, fun i y h => by simp at h⟩
  | x :: r, l', h => by
    simp only [toDs] at h
    split at h
    · rename_i y r' hy hr
      simp only [Option.some.injEq] at h
      subst h
      obtain ⟨h1, h2⟩ := toDs_get hr
      refine ⟨by simp [h1], fun i z hz => ?_⟩
      cases i with
      | zero => simp at hz; subst hz; exact ⟨x, rfl, hy⟩
      | succ i => simpa using h2 i z (by simpa using hz)
    · cases h

def toRows (sz : Nat) : Nat → List A → Option (List Row)
  | 0, _ => some []
  | n + 1, l => match toDs (l.take sz), toRows sz n (l.drop sz) with | some r, some rs => bif Nat.beq r.length sz then some (r :: rs) else none | _, _ => none

theorem toRows_get {sz : Nat} : ∀ {n : Nat} {l : List A} {rs : List Row}, toRows sz n l = some rs → rs.length = n ∧ (∀ (i : Nat) r, rs[i]? = some r → r.length = sz) ∧ ∀ (i j : Nat) r y, rs[i]? = some r → r[j]? = some y → ∃ x, l[i * sz + j]? = some x ∧ toD x = some y
  | 0, l, rs, h => by simp [toRows] at h; subst h; exact ⟨rfl, fun i r h => by simp at h, fun i j r y h => by simp at h⟩
  | n + 1, l, rs, h => by
    simp only [toRows] at h
    split at h
    · rename_i r rs' hr hrs
      cases hb : Nat.beq r.length sz with
      | false => rw [hb] at h; cases h
      | true =>
        rw [hb] at h
        simp only [cond_true, Option.some.injEq] at h
        subst h
        have e := Nat.eq_of_beq_eq_true hb
        obtain ⟨h1, h2, h3⟩ := toRows_get hrs
        obtain ⟨g1, g2⟩ := toDs_get hr
        refine ⟨by simp [h1], fun i r' hi => ?_, fun i j r' y hi hj => ?_⟩
        · cases i with
          | zero => simp at hi; subst hi; exact e
          | succ i => exact h2 i r' (by simpa using hi)
        · cases i with
          | zero =>
            simp at hi
            subst hi
            obtain ⟨x, hx, hy⟩ := g2 j y hj
            rw [List.getElem?_take] at hx
            split at hx
            · exact ⟨x, by simpa using hx, hy⟩
            · cases hx
          | succ i =>
            obtain ⟨x, hx, hy⟩ := h3 i j r' y (by simpa using hi) hj
            rw [List.getElem?_drop] at hx
            exact ⟨x, by rw [← hx]; congr 1; rw [Nat.add_mul]; omega, hy⟩
    · cases h

/-- rows of data out of cells -/
theorem rel_rows {M : Mem} {G : Nat → Value} {w : World} (hG : Good M w) {e sz n : Nat} {l : List A} {cs : Array Value} {rs : List Row} (hc : CellsRel M G l cs) (h : toRows sz n l = some rs) (hn : n ≤ maxLen) :
    ∃ M', RelD M' (.sl rs) (.slice (some ⟨w.heap.size, 0, none⟩) n n) ∧ Good M' (w.alloc (.cells cs e)) ∧ Ext none' M w M' (w.alloc (.cells cs e)) := by
  obtain ⟨M', h1, h2, h3⟩ := newData hG cs e
  obtain ⟨g1, g2, g3⟩ := toRows_get h
  have hget : ∀ (i j : Nat) r y, rs[i]? = some r → r[j]? = some y → ∃ v, cs[i * sz + j]? = some v ∧ RelD M y v := fun i j r y hi hj => by
    obtain ⟨x, hx, hy⟩ := g3 i j r y hi hj
    have hlt : i * sz + j < cs.size := by rw [← hc.1]; exact (List.getElem?_eq_some_iff.1 hx).1
    exact ⟨cs[i * sz + j], Array.getElem?_eq_getElem hlt, toD_rel hy (hc.2.2 _ x _ hx (Array.getElem?_eq_getElem hlt))⟩
  refine ⟨M', .sl sz (fun i j => (cs[i * sz + j]?).getD undef) g1 (Nat.le_refl _) hn (.inr rfl) g2 (fun i j r y hi hj => ?_) fun i j r y hi hj => ?_, h1, h2⟩
  · obtain ⟨v, hv, _⟩ := hget i j r y hi hj
    rw [addr_add_lit, hv, Nat.zero_add]
    exact h3 _ v hv
  · obtain ⟨v, hv, hr⟩ := hget i j r y hi hj
    rw [hv]
    exact hr.mono h2.mono

/-- a slice of data that is built: its rows -/
def stepB (C : Cx) (L : List Oper) (o : Oper) (env : Env) : Option (Option Nat × List Row) :=
  match wantedA L env o, o.op, dstF o with
  | some true, .buildSlice t len parts, some d => match tget C.T t with
    | some i => match i.u with
      | .sl e => match tget C.T e with
        | some j => bif Nat.ble len 65536 && Nat.ble j.size 64 then (match fillA (fun i => some (i * j.size, j.size)) (List.replicate (len * j.size) .junk) (parts.toList.map fun p => (p.1, ev C.GL env p.2)) with
          | some out => match toRows j.size len out with | some rs => some (d, rs) | none => none
          | none => none) else none
        | none => none
      | _ => none
    | none => none
  | _, _, _ => none

theorem run_zeros {P : Program} {T : TT} (hT : TOk P T) {e : Nat} {j : TI} (he : tget T e = some j) (len : Nat) (w : World) :
    ∃ z : Array Value, ((len * j.size = 0 ∧ z = #[]) ∨ (¬ len * j.size = 0 ∧ ∃ v, (zeroValue e).run P w = .ok v w ∧ z = v.cells)) ∧ ((Array.range (len * j.size)).map (z[· % z.size]!)).size = len * j.size ∧ ∀ (i : Nat) v, ((Array.range (len * j.size)).map (z[· % z.size]!))[i]? = some v → v.oneCell' = true := by
  by_cases h0 : len * j.size = 0
  · refine ⟨#[], .inl ⟨h0, rfl⟩, by simp, fun i v hv => ?_⟩
    rw [h0] at hv
    simp at hv
  · obtain ⟨z, h1, h2, _⟩ := cells_zero (M := fun _ => none) (G := fun _ => undef) hT he
    refine ⟨z.cells, .inr ⟨h0, z, h1 w, rfl⟩, by simp, fun i v hv => ?_⟩
    have hpos := (hT.facts he).pos
    have hlen := (hT.facts he).len
    have hzs : z.cells.size = j.size := by have := h2.1; simp at this; omega
    rw [Array.getElem?_map] at hv
    cases hr : (Array.range (len * j.size))[i]? with
    | none => rw [hr] at hv; cases hv
    | some k =>
      rw [hr] at hv
      simp only [Option.map_some, Option.some.injEq] at hv
      subst hv
      have hlt : k % z.cells.size < z.cells.size := Nat.mod_lt _ (by omega)
      rw [getElem!_pos z.cells (k % z.cells.size) hlt]
      exact h2.2.1 _ _ (Array.getElem?_eq_getElem hlt)

theorem stepB_spec {C : Cx} {L : List Oper} {o : Oper} {env : Env} {d : Option Nat} {rs : List Row} (h : stepB C L o env = some (d, rs)) : wantedA L env o = some true ∧ dstF o = some d := by
  unfold stepB at h
  split at h
  · rename_i t len parts dd hw ho hd
    split at h
    · split at h
      · split at h
        · rename_i j hj
          cases hb : Nat.ble len 65536 && Nat.ble j.size 64 with
          | false => rw [hb] at h; cases h
          | true =>
            rw [hb] at h
            simp only [cond_true] at h
            split at h
            · split at h
              · simp only [Option.some.injEq, Prod.mk.injEq] at h
                exact ⟨hw, by rw [hd, h.1]⟩
              · cases h
            · cases h
        · cases h
      · cases h
    · cases h
  · cases h

theorem yields_build {C : Cx} (hC : CxOk C) {L : List Oper} {o : Oper} {env : Env} {H : Heap} {d : Option Nat} {rs : List Row} (h : stepB C L o env = some (d, rs)) : Yields C o env H (.full rs) := by
  intro M G w a next Qw hρ hG hgl hH hk
  unfold stepB at h
  split at h
  · rename_i t len parts dd hw ho hd
    rw [ho] at hρ
    split at h
    · rename_i i ht
      split at h
      · rename_i e hu
        split at h
        · rename_i j hj
          cases hb : Nat.ble len 65536 && Nat.ble j.size 64 with
          | false => rw [hb] at h; cases h
          | true =>
            rw [hb] at h
            simp only [Bool.and_eq_true] at hb
            have b1 := Nat.le_of_ble_eq_true hb.1
            have b2 := Nat.le_of_ble_eq_true hb.2
            simp only [cond_true] at h
            split at h
            · rename_i out hout
              split at h
              · rename_i rs' hrs
                simp only [Option.some.injEq, Prod.mk.injEq] at h
                obtain ⟨rfl, rfl⟩ := h
                have hd := under_sl (hC.tok.facts ht) hu
                obtain ⟨z, hz, hzs, hz1⟩ := run_zeros hC.tok hj len w
                obtain ⟨ws, f1, f2⟩ := fillA_ok (M := M) (G := G) (vs := (Array.range (len * j.size)).map (z[· % z.size]!)) (vals := (parts.map fun (p : Nat × Operand) => (p.1, a.eval p.2)).toList) ⟨by rw [hzs]; simp, hz1, fun i x v hx hv => by
                    rw [List.getElem?_replicate] at hx
                    split at hx
                    · simp only [Option.some.injEq] at hx; subst hx; exact .junk
                    · cases hx⟩ (by simp) (fun i p q hp hq => by
                    rw [List.getElem?_map] at hp
                    rw [Array.getElem?_toList, Array.getElem?_map] at hq
                    cases hpi : parts[i]? with
                    | none => rw [hpi] at hq; cases hq
                    | some r =>
                      rw [Array.getElem?_toList, hpi] at hp
                      rw [hpi] at hq
                      simp only [Option.map_some, Option.some.injEq] at hp hq
                      subst hp; subst hq
                      refine ⟨rfl, hρ _ ?_⟩
                      simp only [Op.operands, List.mem_toArray, List.mem_map, Array.mem_toList_iff]
                      exact ⟨r, Array.mem_of_getElem? hpi, rfl⟩) hout
                obtain ⟨M', g1, g2, g3⟩ := rel_rows (e := e) hG f2 hrs (by unfold maxLen; omega)
                have hnot : ¬ len * j.size > 2 ^ 24 := by
                  have : len * j.size ≤ 65536 * 64 := Nat.mul_le_mul b1 b2
                  have e24 : (2 : Nat) ^ 24 = 16777216 := by decide
                  omega
                have hrun : (Instr.buildSlice t len (parts.map fun (p : Nat × Operand) => (p.1, a.eval p.2))).run C.P w = .ok (.slice (some ⟨w.heap.size, 0, none⟩) len len) (w.alloc (.cells ws e)) := by
                  simp only [Instr.buildSlice, Sem.run_bind, run_underlying hd, Result.andThen_ok, sizeOf_of (hC.tok.facts hj) w]
                  rw [if_neg hnot]
                  rcases hz with ⟨h0, rfl⟩ | ⟨h0, v, hv, rfl⟩
                  · rw [if_pos h0]
                    simp only [Sem.run_bind, Sem.run_pure, Result.andThen_ok, f1]
                    simp [newRow]
                  · rw [if_neg h0]
                    simp only [Sem.run_bind, Sem.run_pure, Result.andThen_ok, hv, f1]
                    simp [newRow]
                unfold Oper.wp execOp
                simp only [ho, Sem.run_bind, hrun, Result.andThen_ok, Sem.run_pure, Oper.upon_value]
                exact hk _ M' _ (.full g1 rfl) g2 g3
              · cases h
            · cases h
        · cases h
      · cases h
    · cases h
  · cases h

theorem AOps.b {F : Fx} (hC : CxOk F.C) {L l : List Oper} {o : Oper} {env : Env} {H : Heap} {Q : Env → Heap → Prop} {d : Option Nat} {rs : List Row} (h : stepB F.C L o env = some (d, rs)) (k : AOps F L l (put env d (.full rs)) H Q) : AOps F L (o :: l) env H Q := by
  obtain ⟨h1, h2⟩ := stepB_spec h
  refine .yields h1 (yields_build hC h) ?_
  rw [dstF_eq h2]
  exact k

theorem AQ.b {C : Cx} (hC : CxOk C) {L l : List Oper} {o : Oper} {env : Env} {H : Heap} {Q : Env → Prop} {d : Option Nat} {rs : List Row} (h : stepB C L o env = some (d, rs)) (k : AQ C L l (put env d (.full rs)) H Q) : AQ C L (o :: l) env H Q :=
  .y _ (stepB_spec h).2 (stepB_spec h).1 (yields_build hC h) k

end Go.Am

