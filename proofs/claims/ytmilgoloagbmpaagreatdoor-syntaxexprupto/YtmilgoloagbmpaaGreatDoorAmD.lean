/-
  The abstract machine: building structs, and what 'opA' yields is what the model does.
-/
import Derived.Test.YtmilgoloagbmpaaGreatDoorAmC
namespace Go.Am
section
variable {P : Program} {M : Mem} {G : Nat → Value} {w : World}
theorem setAt_len : ∀ (c : List A) (n : Nat) (xs : List A), (setAt c n xs).length = c.length
  | [], _, _ => by cases ‹Nat› <;> cases ‹List A› <;> rfl
  | _ :: _, 0, [] => rfl
  | _ :: c, 0, x :: xs => by simp [setAt, setAt_len c 0 xs]
  | _ :: cs, n + 1, xs => by simp [setAt, setAt_len cs n xs]

theorem setAt_get : ∀ (c : List A) (n : Nat) (xs : List A) (i : Nat), n + xs.length ≤ c.length → (setAt c n xs)[i]? = if n ≤ i ∧ i < n + xs.length then xs[i - n]? else c[i]?
  | [], 0, [], i, _ => by simp [setAt]
  | [], n + 1, [], i, _ => by simp [setAt]
  | [], n, x :: xs, i, h => by simp at h
  | c :: cs, 0, [], i, _ => by simp [setAt]
  | c :: cs, 0, x :: xs, i, h => by
    cases i with
    | zero => simp [setAt]
    | succ i =>
      simp only [setAt, List.getElem?_cons_succ]
      rw [setAt_get cs 0 xs i (by simp at h ⊢; omega)]
      simp only [Nat.zero_le, true_and, List.length_cons, Nat.zero_add, Nat.sub_zero, List.getElem?_cons_succ]
      by_cases hlt : i < xs.length
      · rw [if_pos hlt, if_pos (by omega)]
      · rw [if_neg hlt, if_neg (by omega)]
  | c :: cs, n + 1, xs, i, h => by
    cases i with
    | zero => simp [setAt]
    | succ i =>
      simp only [setAt, List.getElem?_cons_succ]
      rw [setAt_get cs n xs i (by simp at h; omega)]
      by_cases hlt : n ≤ i ∧ i < n + xs.length
      · rw [if_pos hlt, if_pos (by omega)]; congr 1; omega
      · rw [if_neg hlt, if_neg (by omega)]

/-- a row of cells against one of values -/
def CellsRel (M : Mem) (G : Nat → Value) (cs : List A) (vs : Array Value) : Prop :=
  cs.length = vs.size ∧ (∀ (i : Nat) v, vs[i]? = some v → v.oneCell' = true) ∧ ∀ (i : Nat) x v, cs[i]? = some x → vs[i]? = some v → RelA M G x v

theorem foldl_set_spec (off : Nat) : ∀ (vs : List Value) (j : Nat) (cs : Array Value), off + j + vs.length ≤ cs.size →
    ((vs.zipIdx j).foldl (fun cs (p : Value × Nat) => cs.setIfInBounds (off + p.2) p.1) cs).size = cs.size ∧
    ∀ i : Nat, ((vs.zipIdx j).foldl (fun cs (p : Value × Nat) => cs.setIfInBounds (off + p.2) p.1) cs)[i]? = if off + j ≤ i ∧ i < off + j + vs.length then vs[i - (off + j)]? else cs[i]?
  | [], j, cs, _ => ⟨rfl, fun i => by simp; intro h h'; omega⟩
  | v :: vs, j, cs, h => by
    simp only [List.length_cons] at h
    obtain ⟨h1, h2⟩ := foldl_set_spec off vs (j + 1) (cs.setIfInBounds (off + j) v) (by simp; omega)
    simp only [List.zipIdx_cons, List.foldl_cons]
    refine ⟨by rw [h1]; simp, fun i => ?_⟩
    rw [h2 i]
    simp only [List.length_cons]
    by_cases hi : off + (j + 1) ≤ i ∧ i < off + (j + 1) + vs.length
    · rw [if_pos hi, if_pos (by omega), show i - (off + j) = (i - (off + (j + 1))) + 1 by omega, List.getElem?_cons_succ]
    · rw [if_neg hi]
      by_cases he : i = off + j
      · subst he
        rw [if_pos (by omega), Nat.sub_self, List.getElem?_cons_zero, Array.getElem?_setIfInBounds_self, if_pos (by omega)]
      · rw [if_neg (by omega), Array.getElem?_setIfInBounds_ne (Ne.symm he)]

theorem fillA_ok {place : Nat → Option (Nat × Nat)} : ∀ {parts : List (Nat × A)} {vals : List (Nat × Value)} {cs : List A} {vs : Array Value} {out : List A}, CellsRel M G cs vs → parts.length = vals.length →
    (∀ (i : Nat) p q, parts[i]? = some p → vals[i]? = some q → p.1 = q.1 ∧ RelA M G p.2 q.2) → fillA place cs parts = some out → ∃ ws, Instr.fill place vs vals = some ws ∧ CellsRel M G out ws
  | [], [], cs, vs, out, hc, _, _, h => by simp only [fillA, Option.some.injEq] at h; subst h; exact ⟨vs, rfl, hc⟩
  | [], _ :: _, _, _, _, _, hl, _, _ => by simp at hl
  | _ :: _, [], _, _, _, _, hl, _, _ => by simp at hl
  | (n, x) :: parts, (m, v) :: vals, cs, vs, out, hc, hl, hp, h => by
    obtain ⟨e, hx⟩ := hp 0 _ _ rfl rfl
    simp only at e hx
    subst e
    simp only [fillA] at h
    split at h
    · rename_i off size xs hpl hxs
      obtain ⟨a1, a2, a3⟩ := acells_rel hx hxs
      cases hb : Nat.beq xs.length size && Nat.ble (off + size) cs.length with
      | false => rw [hb] at h; cases h
      | true =>
        rw [hb] at h
        simp only [cond_true] at h
        simp only [Bool.and_eq_true] at hb
        have e1 := Nat.eq_of_beq_eq_true hb.1
        have e2 := Nat.le_of_ble_eq_true hb.2
        obtain ⟨c1, c2, c3⟩ := hc
        have hsz : v.cells.toList.length = xs.length := by simp [a1]
        obtain ⟨f1, f2⟩ := foldl_set_spec off v.cells.toList 0 vs (by rw [hsz]; omega)
        have hz : v.cells.zipIdx.foldl (fun cs (x : Value × Nat) => cs.setIfInBounds (off + x.2) x.1) vs = (v.cells.toList.zipIdx 0).foldl (fun cs (p : Value × Nat) => cs.setIfInBounds (off + p.2) p.1) vs := by
          rw [← Array.foldl_toList, Array.toList_zipIdx]
        have hc' : CellsRel M G (setAt cs off xs) (v.cells.zipIdx.foldl (fun cs (x : Value × Nat) => cs.setIfInBounds (off + x.2) x.1) vs) := by
          rw [hz]
          refine ⟨by rw [setAt_len, f1]; exact c1, fun i u hu => ?_, fun i y u hy hu => ?_⟩
          · rw [f2 i] at hu
            split at hu
            · exact a2 _ u (by simpa using hu)
            · exact c2 i u hu
          · rw [f2 i] at hu
            rw [setAt_get cs off xs i (by omega)] at hy
            rw [hsz] at hu
            by_cases hi : off ≤ i ∧ i < off + xs.length
            · rw [if_pos hi] at hy
              rw [if_pos (by omega)] at hu
              exact a3 _ y u hy (by simpa using hu)
            · rw [if_neg hi] at hy
              rw [if_neg (by omega)] at hu
              exact c3 i y u hy hu
        obtain ⟨ws, g1, g2⟩ := fillA_ok hc' (by simpa using hl) (fun i p q hp' hq => hp (i + 1) p q hp' hq) h
        refine ⟨ws, ?_, g2⟩
        simp only [Instr.fill, hpl]
        rw [if_neg (by simp [a1, e1]; omega)]
        exact g1
    · cases h

theorem cells_zero {T : TT} (hT : TOk P T) {t : Nat} {i : TI} (ht : tget T t = some i) : ∃ z, (∀ w, (zeroValue t).run P w = .ok z w) ∧ CellsRel M G (i.zero.map .d) z.cells ∧ (if i.u.agg then ∃ cs, z = .agg cs else z.cells = #[z]) := by
  obtain ⟨j, h1, h2, h3, z, h4, h5, h6, h7⟩ := (hT.facts ht).info
  refine ⟨z, fun w => by simp [zeroValue, typeInfo, h1, h4], ⟨by simpa using h5.symm, fun n v hv => ?_, fun n x v hx hv => ?_⟩, h7⟩
  · have hlt : n < i.zero.length := by rw [← h5]; simpa using (Array.getElem?_eq_some_iff.1 hv).1
    exact (relD_of_zB (h6 n v _ hv (List.getElem?_eq_getElem hlt)) M).one
  · rw [List.getElem?_map] at hx
    cases hz : i.zero[n]? with
    | none => rw [hz] at hx; cases hx
    | some y =>
      rw [hz] at hx
      simp only [Option.map_some, Option.some.injEq] at hx
      subst hx
      exact .d (relD_of_zB (h6 n v y hv hz) M)

theorem fsB_spec' {P : Program} : ∀ {fs : List Field} {gs : List (Nat × Nat × Nat)}, fsB P fs gs = true → ∀ (n : Nat) f, fs[n]? = some f → ∃ g, gs[n]? = some g
  | [], [], _ => fun n g h => by simp at h
  | f :: fs, (t, o, s) :: r, h => fun n g hg => by
    simp only [fsB, Bool.and_eq_true] at h
    cases n with
    | zero => exact ⟨_, rfl⟩
    | succ n => simpa using fsB_spec' h.2 n g (by simpa using hg)
  | [], _ :: _, h => by simp [fsB] at h
  | _ :: _, [], h => by simp [fsB] at h

theorem under_st' {t : Nat} {i : TI} {gs : List (Nat × Nat × Nat)} (f : TiFacts P t i) (h : i.u = .st gs) : ∃ fs, P.underlying t = some (.struct fs) ∧
    (∀ (n : Nat) g, gs[n]? = some g → ∃ f, fs[n]? = some f ∧ f.type = g.1 ∧ f.offset = g.2.1 ∧ P.cellsOf g.1 = g.2.2 ∧ 1 ≤ g.2.2 ∧ (P.info? g.1).isSome = true) ∧ ∀ (n : Nat) f, fs[n]? = some f → ∃ g, gs[n]? = some g := by
  obtain ⟨d, hd, hu⟩ := under_of f
  rw [h] at hu
  cases d <;> simp only [uB, Bool.false_eq_true] at hu
  rename_i fs
  exact ⟨fs, hd, fun n g hg => by simpa using fsB_spec hu n g hg, fun n f hn => fsB_spec' hu n f (by simpa using hn)⟩

theorem run_mapM_places (w : World) : ∀ (fs : List Field), (∀ (n : Nat) f, fs[n]? = some f → (P.info? f.type).isSome = true) →
    (fs.mapM fun f => do pure (f.offset, ← sizeOf f.type) : Sem (List (Nat × Nat))).run P w = .ok (fs.map fun f => (f.offset, P.cellsOf f.type)) w
  | [], _ => rfl
  | f :: fs, h => by
    have h0 := h 0 f rfl
    obtain ⟨i, hi⟩ := Option.isSome_iff_exists.1 h0
    have ih := run_mapM_places w fs (fun n g hg => h (n + 1) g (by simpa using hg))
    have hs : (sizeOf f.type).run P w = .ok (P.cellsOf f.type) w := by simp [sizeOf, typeInfo, hi, Program.cellsOf]
    rw [List.mapM_cons]
    simp only [Sem.run_bind, hs, Result.andThen_ok, Sem.run_pure, ih, List.map_cons]

theorem run_places (w : World) (flds : Array Field) (h : ∀ (n : Nat) f, flds[n]? = some f → (P.info? f.type).isSome = true) :
    ∃ places : Array (Nat × Nat), (flds.mapM fun f => do pure (f.offset, ← sizeOf f.type) : Sem (Array (Nat × Nat))).run P w = .ok places w ∧ ∀ n : Nat, places[n]? = (flds[n]?).map fun f => (f.offset, P.cellsOf f.type) := by
  have hl := run_mapM_places (P := P) w flds.toList (fun n f hn => h n f (by simpa using hn))
  refine ⟨(flds.toList.map fun f => (f.offset, P.cellsOf f.type)).toArray, ?_, fun n => by simp⟩
  rw [Array.mapM_eq_mapM_toList]
  simp only [Sem.run_map, hl, Result.andThen_ok]

theorem buildA_ok {T : TT} (hT : TOk P T) {t : Nat} {parts : List (Nat × A)} {vals : Array (Nat × Value)} (hl : parts.length = vals.size)
    (hp : ∀ (i : Nat) p q, parts[i]? = some p → vals[i]? = some q → p.1 = q.1 ∧ RelA M G p.2 q.2) {z : A} (h : buildA T t parts = some z) : Does P M G w (Instr.build t vals) z := by
  unfold buildA at h
  split at h
  · cases h
  · rename_i i ht
    have f := hT.facts ht
    obtain ⟨zv, hz1, hz2, hz3⟩ := cells_zero (M := M) (G := G) hT ht
    split at h
    · rename_i fs hu
      obtain ⟨flds, hd, hf, hfl⟩ := under_st' f hu
      cases ho : fillA (fun n => (nth fs n).map fun f => (f.2.1, f.2.2)) (i.zero.map .d) parts with
      | none => rw [ho] at h; cases h
      | some out =>
        rw [ho] at h
        simp only [Option.map_some, Option.some.injEq] at h
        subst h
        obtain ⟨places, hp1, hp2⟩ := run_places (P := P) w flds (fun n f hn => by
          obtain ⟨g, hg⟩ := hfl n f hn
          obtain ⟨f', e1, e2, _, _, _, e6⟩ := hf n g hg
          rw [hn] at e1
          cases e1
          rw [e2]; exact e6)
        have hsame : ∀ n, places[n]? = ((nth fs n).map fun f => (f.2.1, f.2.2)) := fun n => by
          rw [nth_eq, hp2 n]
          cases hn : fs[n]? with
          | none =>
            have : flds[n]? = none := by
              cases hfn : flds[n]? with
              | none => rfl
              | some f => obtain ⟨g, hg⟩ := hfl n f hfn; rw [hg] at hn; cases hn
            rw [this]; rfl
          | some g =>
            obtain ⟨f', e1, e2, e3, e4, _, _⟩ := hf n g hn
            rw [e1]
            simp [e2, e3, e4]
        have hfun : (fun n => places[n]?) = (fun n => (nth fs n).map fun f => (f.2.1, f.2.2)) := funext hsame
        have : fillA (fun n => places[n]?) (i.zero.map .d) parts = some out := by rw [hfun]; exact ho
        obtain ⟨ws, g1, g2, g3, g4⟩ := fillA_ok hz2 (by rw [Array.length_toList]; exact hl) (fun n p q a b => hp n p q a (by simpa using b)) this
        refine ⟨.agg ws, ?_, .agg g2 g3 g4⟩
        simp only [Instr.build, Sem.run_bind, hz1, Result.andThen_ok, run_underlying hd, hp1, g1, Sem.run_pure]
    · rename_i n e hu
      have hd := under_arr f hu
      split at h
      · rename_i j he
        cases ho : fillA (fun n => some (n * j.size, j.size)) (i.zero.map .d) parts with
        | none => rw [ho] at h; cases h
        | some out =>
          rw [ho] at h
          simp only [Option.map_some, Option.some.injEq] at h
          subst h
          obtain ⟨ws, g1, g2, g3, g4⟩ := fillA_ok hz2 (by rw [Array.length_toList]; exact hl) (fun n p q a b => hp n p q a (by simpa using b)) ho
          refine ⟨.agg ws, ?_, .agg g2 g3 g4⟩
          simp only [Instr.build, Sem.run_bind, hz1, Result.andThen_ok, run_underlying hd, sizeOf_of (hT.facts he) w, g1, Sem.run_pure]
      · cases h
    · cases h

theorem asInt_ok {k : IntKind} {n : Int} : (asIntOf (.int k n)).run P w = .ok (k, n) w := rfl

theorem indexAddrA_ok {T : TT} (hT : TOk P T) {t : Nat} {x y : A} {a b : Value} (hx : RelA M G x a) (hy : RelA M G y b) {c : Prop} {z : A}
    (h : indexAddrA T t x y = some (c, z)) (hc : c) : Does P M G w (Instr.indexAt t a b) z := by
  unfold indexAddrA at h
  split at h
  · rename_i i k n ht
    have f := hT.facts ht
    cases hy; rename_i hy; cases hy
    split at h
    · rename_i hu
      have hd := under_arr f hu
      unfold idxArr at h
      split at h
      · rename_i j he
        split at h
        · rename_i p hp
          rw [cond_eq_ite] at h
          split at h
          · rename_i hb
            have h2 := Nat.le_of_ble_eq_true hb
            simp only [Option.some.injEq, Prod.mk.injEq] at h
            obtain ⟨rfl, rfl⟩ := h
            obtain ⟨ad, rfl, hs, hr⟩ := placeA_ok hp hx
            refine ⟨_, ?_, hr⟩
            have h2' := Nat.not_le.2 h2
            simp [Instr.indexAt, asInt_ok, run_underlying hd, Instr.sureAddr, hc, sizeOf_of (hT.facts he) w]
          · cases h
        · cases h
      · cases h
    · rename_i e o off len cap hu
      have hd := under_sl f hu
      split at h
      · rename_i j he
        simp only [Option.some.injEq, Prod.mk.injEq] at h
        obtain ⟨rfl, rfl⟩ := h
        cases hx
        rename_i b hg hcap hm
        refine ⟨_, ?_, .ref hg⟩
        simp [Instr.indexAt, asInt_ok, run_underlying hd, hc, sizeOf_of (hT.facts he) w, addr_add_lit]
      · cases h
    · cases h
  · cases h

/-- the cells of a part of a struct or an array -/
theorem part_ok {T : TT} (hT : TOk P T) {t : Nat} {i : TI} (ht : tget T t = some i) {cs : List A} {vs : Array Value} (hc : CellsRel M G cs vs) {off : Nat} {z : A} (h : readA i (cs.drop off) = some z) :
    Does P M G w (part t vs off) z := by
  have f := hT.facts ht
  obtain ⟨c1, c2, c3⟩ := hc
  unfold readA at h
  unfold part
  cases hg : i.u.agg with
  | true =>
    rw [hg] at h
    simp only [cond_true] at h
    cases hb : Nat.ble i.size (cs.drop off).length with
    | false => rw [hb] at h; cases h
    | true =>
      rw [hb] at h
      simp only [cond_true, Option.some.injEq] at h
      subst h
      have hle := Nat.le_of_ble_eq_true hb
      rw [List.length_drop] at hle
      have hpos := f.pos
      have hx : ∀ (j : Nat) v, (vs.extract off (off + i.size))[j]? = some v → j < i.size ∧ vs[off + j]? = some v := fun j v hv => by
        have hlt := (Array.getElem?_eq_some_iff.1 hv).1
        simp only [Array.size_extract] at hlt
        refine ⟨by omega, ?_⟩
        rw [Array.getElem?_extract, if_pos (by omega)] at hv
        exact hv
      refine ⟨.agg (vs.extract off (off + i.size)), ?_, .agg (by simp; omega) (fun j v hv => c2 _ v (hx j v hv).2) fun j x v hxx hv => ?_⟩
      · simp only [Sem.run_bind, isAgg_of f w, hg, Result.andThen_ok, if_true, sizeOf_of f w, Sem.run_pure]
      · obtain ⟨hj, hv'⟩ := hx j v hv
        refine c3 (off + j) x v ?_ hv'
        rw [List.getElem?_take, if_pos hj, List.getElem?_drop] at hxx
        exact hxx
  | false =>
    rw [hg] at h
    simp only [cond_false, nth_eq, List.getElem?_drop, Nat.add_zero] at h
    have hlt : off < vs.size := by rw [← c1]; exact (List.getElem?_eq_some_iff.1 h).1
    have hv : vs[off]? = some vs[off] := Array.getElem?_eq_getElem hlt
    refine ⟨vs[off], ?_, c3 off z _ h hv⟩
    simp only [Sem.run_bind, isAgg_of f w, hg, Result.andThen_ok, Bool.false_eq_true, if_false, hv, Sem.run_pure]

theorem indexA_ok {T : TT} (hT : TOk P T) {t : Nat} {x y : A} {a b : Value} (hx : RelA M G x a) (hy : RelA M G y b) {c : Prop} {z : A}
    (h : indexA T t x y = some (c, z)) (hc : c) : Does P M G w (Instr.index t a b) z := by
  unfold indexA at h
  split at h
  · rename_i i cs k n ht
    have f := hT.facts ht
    cases hy; rename_i hy; cases hy
    cases hx; rename_i vs h2 h1 h3
    split at h
    · rename_i len e hu
      have hd := under_arr f hu
      split at h
      · rename_i j he
        cases hr : readA j (cs.drop (n.toNat * j.size)) with
        | none => rw [hr] at h; cases h
        | some z' =>
          rw [hr] at h
          simp only [Option.map_some, Option.some.injEq, Prod.mk.injEq] at h
          obtain ⟨rfl, rfl⟩ := h
          obtain ⟨v, g1, g2⟩ := part_ok (P := P) (w := w) hT he ⟨h1, h2, h3⟩ hr
          exact ⟨v, by simp [Instr.index, asInt_ok, run_underlying hd, hc, sizeOf_of (hT.facts he) w, g1], g2⟩
      · cases h
    · cases h
  · cases h

theorem loadA_ok {T : TT} {H : Heap} (hT : TOk P T) (hG : Good M w) (hH : HRel M G w H) {t : Nat} {i : TI} (ht : tget T t = some i) {x z : A} {v : Value} (hx : RelA M G x v) (h : loadA i x H = some z) :
    Does P M G w (Instr.loadAt t v) z := load_at hG hH (hT.facts ht) hx h

theorem fieldAt_ok {T : TT} (hT : TOk P T) {t : Nat} {i : TI} (ht : tget T t = some i) {fs : List (Nat × Nat × Nat)} (hu : i.u = .st fs) {n : Nat} {g : Nat × Nat × Nat} (hg : nth fs n = some g) {x z : A} {v : Value}
    (hx : RelA M G x v) (h : placeA x g.2.1 = some z) : Does P M G w (Instr.fieldAt t v n) z := by
  obtain ⟨flds, hd, hf⟩ := under_st (hT.facts ht) hu
  rw [nth_eq] at hg
  obtain ⟨f', e1, e2, e3, e4, e5, e6⟩ := hf n g hg
  obtain ⟨a, rfl, hs, hr⟩ := placeA_ok h hx
  refine ⟨_, ?_, hr⟩
  obtain ⟨j, hj⟩ := Option.isSome_iff_exists.1 e6
  have hsz : (sizeOf f'.type).run P w = .ok g.2.2 w := by
    rw [e2]
    simp only [Program.cellsOf, hj, Option.map_some, Option.getD_some] at e4
    simp [sizeOf, typeInfo, hj, e4]
  have hne : ¬ g.2.2 = 0 := by omega
  simp [Instr.fieldAt, run_underlying hd, e1, Instr.sureAddr, fieldPlace, hsz, hne, e3]

theorem field_ok {T : TT} (hT : TOk P T) {t : Nat} {i : TI} (ht : tget T t = some i) {fs : List (Nat × Nat × Nat)} (hu : i.u = .st fs) {n : Nat} {g : Nat × Nat × Nat} (hg : nth fs n = some g) {j : TI} (hj : tget T g.1 = some j) {cs : List A} {z : A} {v : Value}
    (hx : RelA M G (.agg cs) v) (h : readA j (cs.drop g.2.1) = some z) : Does P M G w (Instr.field t v n) z := by
  obtain ⟨flds, hd, hf⟩ := under_st (hT.facts ht) hu
  rw [nth_eq] at hg
  obtain ⟨f', e1, e2, e3, e4, e5, e6⟩ := hf n g hg
  cases hx; rename_i vs h2 h1 h3
  obtain ⟨u, g1, g2⟩ := part_ok (P := P) (w := w) hT hj ⟨h1, h2, h3⟩ h
  exact ⟨u, by simp [Instr.field, run_underlying hd, e1, asAgg, e2, e3, g1], g2⟩

/-- an operation that leaves the world as it is -/
theorem opA_ok {T : TT} {GL : GT} {env : Env} {H : Heap} (hT : TOk P T) (hG : Good M w) (hH : HRel M G w H) (o : Oper) {ρ : Operand → Value} (hρ : ∀ y ∈ o.op.operands, RelA M G (ev GL env y) (ρ y)) {c : Prop} {x : A}
    (h : opA T GL o.op env H = some (c, x)) (hc : c) : ∃ v, (execOp ρ o).run P w = .ok (.value v) w ∧ RelA M G x v := by
  unfold opA at h
  unfold execOp
  split at h
  · rename_i heq
    rw [heq] at hρ ⊢
    simp only [someT, Option.some.injEq, Prod.mk.injEq] at h
    obtain ⟨_, rfl⟩ := h
    exact ⟨_, rfl, hρ _ (by simp [Op.operands])⟩
  · rename_i heq
    rw [heq] at hρ ⊢
    simp only [someT, Option.some.injEq, Prod.mk.injEq] at h
    obtain ⟨_, rfl⟩ := h
    exact ⟨_, rfl, hρ _ (by simp [Op.operands])⟩
  · rename_i c' a b heq
    rw [heq] at hρ ⊢
    split at h
    · rename_i t ht
      have h1 := hρ c' (by simp [Op.operands])
      have h2 := hρ a (by simp [Op.operands])
      have h3 := hρ b (by simp [Op.operands])
      rw [ht] at h1
      generalize hcv : ρ c' = cv at h1
      cases h1; rename_i h1; cases h1
      simp only [someT, Option.some.injEq, Prod.mk.injEq] at h
      obtain ⟨_, rfl⟩ := h
      cases t
      · exact ⟨ρ b, by simp [hcv, asBool], h3⟩
      · exact ⟨ρ a, by simp [hcv, asBool], h2⟩
    · cases h
  · rename_i t parts heq
    rw [heq] at hρ ⊢
    cases hb : buildA T t (parts.toList.map fun p => (p.1, ev GL env p.2)) with
    | none => rw [hb] at h; cases h
    | some y =>
      rw [hb] at h
      simp only [Option.map_some, Option.some.injEq, Prod.mk.injEq] at h
      obtain ⟨_, rfl⟩ := h
      refine does_map (buildA_ok hT (by simp) (fun i p q hp hq => ?_) hb)
      simp only [List.getElem?_map, Array.getElem?_toList, Array.getElem?_map] at hp hq
      cases hpi : parts[i]? with
      | none => rw [hpi] at hp; cases hp
      | some pr =>
        rw [hpi] at hp hq
        simp only [Option.map_some, Option.some.injEq] at hp hq
        subst hp; subst hq
        exact ⟨rfl, hρ _ (by simp only [Op.operands, List.mem_toArray, List.mem_map]; exact ⟨pr, by simpa using Array.mem_of_getElem? hpi, rfl⟩)⟩
  · rename_i t a heq
    rw [heq] at hρ ⊢
    split at h
    · rename_i i ht
      cases hb : loadA i (ev GL env a) H with
      | none => rw [hb] at h; cases h
      | some y =>
        rw [hb] at h
        simp only [Option.map_some, Option.some.injEq, Prod.mk.injEq] at h
        obtain ⟨_, rfl⟩ := h
        exact does_map (loadA_ok hT hG hH ht (hρ a (by simp [Op.operands])) hb)
    · cases h
  · rename_i y heq
    rw [heq] at hρ ⊢
    have h1 := hρ y (by simp [Op.operands])
    split at h
    · rename_i he
      rw [he] at h1
      generalize hv : ρ y = v at h1
      cases h1
      simp only [someT, Option.some.injEq, Prod.mk.injEq] at h
      obtain ⟨_, rfl⟩ := h
      exact ⟨_, by simp only [hv]; rfl, .ref (by assumption)⟩
    · rename_i he
      rw [he] at h1
      generalize hv : ρ y = v at h1
      cases h1
      rename_i vals a b c
      simp only [someT, Option.some.injEq, Prod.mk.injEq] at h
      obtain ⟨_, rfl⟩ := h
      exact ⟨_, by simp only [hv]; rfl, .ptr vals a b c⟩
    · rename_i he
      rw [he] at h1
      generalize hv : ρ y = v at h1
      cases h1
      rename_i a b
      simp only [someT, Option.some.injEq, Prod.mk.injEq] at h
      obtain ⟨_, rfl⟩ := h
      exact ⟨_, by simp only [hv]; rfl, .clo a b⟩
    · cases h
  · rename_i op t x y yt heq
    rw [heq] at hρ ⊢
    have h1 := hρ x (by simp [Op.operands])
    have h2 := hρ y (by simp [Op.operands])
    obtain ⟨v, g1, g2⟩ := binA_ok (w := w) hT h1 h2 h hc
    exact ⟨v, by simp [guard_ok (P := P) (w := w) (X := x) (Y := y) (b := ρ y) h1 h, g1], g2⟩
  · rename_i op t x heq
    rw [heq] at hρ ⊢
    exact does_map (unA_ok (hρ x (by simp [Op.operands])) h)
  · rename_i s t x heq
    rw [heq] at hρ ⊢
    exact does_map (convA_ok hT (hρ x (by simp [Op.operands])) h)
  · rename_i f first caps heq
    rw [heq] at hρ ⊢
    cases hb : Nat.beq first.size 0 with
    | false => rw [hb] at h; cases h
    | true =>
      rw [hb] at h
      simp only [cond_true, someT, Option.some.injEq, Prod.mk.injEq] at h
      obtain ⟨_, rfl⟩ := h
      obtain rfl : first = #[] := Array.eq_empty_of_size_eq_zero (Nat.eq_of_beq_eq_true hb)
      refine ⟨.func (.func f) #[] (caps.map ρ), by simp [Instr.makeFunc], .clo (by simp) fun i x v hx hv => ?_⟩
      simp only [List.getElem?_map, Array.getElem?_toList, Array.getElem?_map] at hx hv
      cases hpi : caps[i]? with
      | none => rw [hpi] at hx; cases hx
      | some pr =>
        rw [hpi] at hx hv
        simp only [Option.map_some, Option.some.injEq] at hx hv
        subst hx; subst hv
        exact hρ _ (by simp only [Op.operands, Array.empty_append]; exact Array.mem_of_getElem? hpi)
  · rename_i t x f heq
    rw [heq] at hρ ⊢
    split at h
    · rename_i i ht
      split at h
      · rename_i fs hu
        split at h
        · rename_i g hg
          cases hb : placeA (ev GL env x) g.2.1 with
          | none => rw [hb] at h; cases h
          | some y =>
            rw [hb] at h
            simp only [Option.map_some, Option.some.injEq, Prod.mk.injEq] at h
            obtain ⟨_, rfl⟩ := h
            exact does_map (fieldAt_ok hT ht hu hg (hρ x (by simp [Op.operands])) hb)
        · cases h
      · cases h
    · cases h
  · rename_i t x f heq
    rw [heq] at hρ ⊢
    split at h
    · rename_i i cs ht he
      split at h
      · rename_i fs hu
        split at h
        · rename_i g hg
          split at h
          · rename_i j hj
            cases hb : readA j (cs.drop g.2.1) with
            | none => rw [hb] at h; cases h
            | some y =>
              rw [hb] at h
              simp only [Option.map_some, Option.some.injEq, Prod.mk.injEq] at h
              obtain ⟨_, rfl⟩ := h
              have h1 := hρ x (by simp [Op.operands])
              rw [he] at h1
              exact does_map (field_ok hT ht hu hg hj h1 hb)
          · cases h
        · cases h
      · cases h
    · cases h
  · rename_i t x y heq
    rw [heq] at hρ ⊢
    exact does_map (indexAddrA_ok hT (hρ x (by simp [Op.operands])) (hρ y (by simp [Op.operands])) h hc)
  · rename_i t x y heq
    rw [heq] at hρ ⊢
    exact does_map (indexA_ok hT (hρ x (by simp [Op.operands])) (hρ y (by simp [Op.operands])) h hc)
  · rename_i y n heq
    rw [heq] at hρ ⊢
    have h1 := hρ y (by simp [Op.operands])
    split at h
    · rename_i xs he
      rw [he] at h1
      cases hb : nth xs n with
      | none => rw [hb] at h; cases h
      | some z =>
        rw [hb] at h
        simp only [Option.map_some, Option.some.injEq, Prod.mk.injEq] at h
        obtain ⟨_, rfl⟩ := h
        rw [nth_eq] at hb
        generalize hv : ρ y = v at h1
        cases h1
        rename_i vs hl hr
        have hlt : n < vs.size := by rw [← hl]; exact (List.getElem?_eq_some_iff.1 hb).1
        have hvn : vs[n]? = some vs[n] := Array.getElem?_eq_getElem hlt
        exact ⟨vs[n], by simp [hv, Instr.extract, hvn], hr n z _ hb hvn⟩
    · cases h
  · rename_i b args argTypes heq
    rw [heq] at hρ ⊢
    have harg : ∀ (i : Nat) a, args[i]? = some a → RelA M G (ev GL env a) (ρ a) := fun i a ha =>
      hρ a (by simp only [Op.operands, Call.operands, Array.empty_append]; exact Array.mem_of_getElem? ha)
    unfold builtinA at h
    split at h
    · rename_i t x hts hxs
      obtain ⟨ty, rfl⟩ : ∃ t, argTypes = #[t] := ⟨t, by rw [← Array.toArray_toList (xs := argTypes), hts]⟩
      obtain ⟨ar, har, hx⟩ : ∃ a, args = #[a] ∧ x = ev GL env a := by
        match hl : args.toList, hxs with
        | [a], hxs => exact ⟨a, by rw [← Array.toArray_toList (xs := args), hl], by simpa using hxs.symm⟩
      subst har
      simp only [List.cons.injEq, and_true] at hts
      subst hts; subst hx
      cases hb : lenA T ty (ev GL env ar) with
      | none => rw [hb] at h; cases h
      | some z =>
        rw [hb] at h
        simp only [Option.map_some, Option.some.injEq, Prod.mk.injEq] at h
        obtain ⟨_, rfl⟩ := h
        obtain ⟨v, g1, g2⟩ := lenA_ok (w := w) hT (ty := o.type) (harg 0 ar rfl) hb
        exact ⟨v, by simp [resolve, invoke, builtin, g1], g2⟩
    · rename_i x y hxs
      obtain ⟨a1, a2, har, hx, hy⟩ : ∃ a b, args = #[a, b] ∧ x = ev GL env a ∧ y = ev GL env b := by
        match hl : args.toList, hxs with
        | [a, b], hxs => exact ⟨a, b, by rw [← Array.toArray_toList (xs := args), hl], by simp at hxs; exact hxs.1.symm, by simp at hxs; exact hxs.2.symm⟩
      subst har; subst hx; subst hy
      cases hb : minmaxA false (ev GL env a1) (ev GL env a2) with
      | none => rw [hb] at h; cases h
      | some z =>
        rw [hb] at h
        simp only [Option.map_some, Option.some.injEq, Prod.mk.injEq] at h
        obtain ⟨_, rfl⟩ := h
        obtain ⟨v, g1, g2⟩ := minmaxA_ok (P := P) (w := w) (harg 0 a1 rfl) (harg 1 a2 rfl) hb argTypes o.type
        exact ⟨v, by simp only [cond_false] at g1; simp [resolve, invoke, builtin, g1], g2⟩
    · rename_i x y hxs
      obtain ⟨a1, a2, har, hx, hy⟩ : ∃ a b, args = #[a, b] ∧ x = ev GL env a ∧ y = ev GL env b := by
        match hl : args.toList, hxs with
        | [a, b], hxs => exact ⟨a, b, by rw [← Array.toArray_toList (xs := args), hl], by simp at hxs; exact hxs.1.symm, by simp at hxs; exact hxs.2.symm⟩
      subst har; subst hx; subst hy
      cases hb : minmaxA true (ev GL env a1) (ev GL env a2) with
      | none => rw [hb] at h; cases h
      | some z =>
        rw [hb] at h
        simp only [Option.map_some, Option.some.injEq, Prod.mk.injEq] at h
        obtain ⟨_, rfl⟩ := h
        obtain ⟨v, g1, g2⟩ := minmaxA_ok (P := P) (w := w) (harg 0 a1 rfl) (harg 1 a2 rfl) hb argTypes o.type
        exact ⟨v, by simp only [cond_true] at g1; simp [resolve, invoke, builtin, g1], g2⟩
    · cases h
  · cases h
end

end Go.Am

