/-
  The abstract machine: append.
-/
import Derived.Test.YtmilgoloagbmpaaGreatDoorAmI
import Derived.Laws.AppendOwn
namespace Go.Am

/-- the cells of rows, one behind the other -/
def flatV (sz m : Nat) (vals : Nat → Nat → Value) : List Value := (List.range (m * sz)).map fun q => vals (q / sz) (q % sz)

theorem flatV_len {sz m : Nat} {vals : Nat → Nat → Value} : (flatV sz m vals).length = m * sz := by simp [flatV]

theorem flatV_get {sz m : Nat} {vals : Nat → Nat → Value} {i j : Nat} (hj : j < sz) (hi : i < m) : (flatV sz m vals)[i * sz + j]? = some (vals i j) := by
  have hlt : i * sz + j < m * sz := by
    have : (i + 1) * sz ≤ m * sz := Nat.mul_le_mul_right _ hi
    rw [Nat.add_mul] at this
    omega
  have hz : 0 < sz := by omega
  unfold flatV
  rw [List.getElem?_map, List.getElem?_range hlt]
  simp only [Option.map_some, Option.some.injEq]
  rw [Nat.mul_comm i sz, Nat.mul_add_div hz, Nat.mul_add_mod, Nat.div_eq_of_lt hj, Nat.mod_eq_of_lt hj, Nat.add_zero]

theorem flatV_inv {sz m : Nat} {vals : Nat → Nat → Value} {q : Nat} {v : Value} (h : (flatV sz m vals)[q]? = some v) : 0 < sz ∧ q / sz < m ∧ q % sz < sz ∧ q = q / sz * sz + q % sz ∧ v = vals (q / sz) (q % sz) := by
  unfold flatV at h
  rw [List.getElem?_map] at h
  by_cases hq : q < m * sz
  · rw [List.getElem?_range hq] at h
    simp only [Option.map_some, Option.some.injEq] at h
    have hz : 0 < sz := by
      rcases Nat.eq_zero_or_pos sz with h' | h'
      · subst h'; simp at hq
      · exact h'
    exact ⟨hz, (Nat.div_lt_iff_lt_mul hz).2 hq, Nat.mod_lt _ hz, by rw [Nat.mul_comm]; exact (Nat.div_add_mod q sz).symm, h.symm⟩
  · rw [List.getElem?_eq_none (by simp; omega)] at h
    cases h

/-- the rows of a slice of data, as the world has them -/
theorem sl_cells {M : Mem} {w : World} (hG : Good M w) {rows : List Row} {v : Value} (h : RelD M (.sl rows) v) {sz : Nat} (hsz : ∀ r ∈ rows, r.length = sz) :
    ∃ (vals : Nat → Nat → Value), (∀ (i j : Nat) r x, rows[i]? = some r → r[j]? = some x → RelD M x (vals i j)) ∧
      ((v = .slice none 0 0 ∧ rows = []) ∨ ∃ a cap, v = .slice (some a) rows.length cap ∧ (cap = 0 ∨ a.spot = none) ∧ rows.length ≤ cap ∧ cap ≤ maxLen ∧
        (∀ (i j : Nat), i < rows.length → j < sz → M (a.add (i * sz + j)) = some (vals i j)) ∧ ∀ q u, (flatV sz rows.length vals)[q]? = some u → w.cell? (a.add q) = some u ∧ u.oneCell' = true) := by
  cases h with
  | slnil => exact ⟨fun _ _ => undef, fun i j r x h => by simp at h, .inl ⟨rfl, rfl⟩⟩
  | sl sz' vals hl hc hm hs hz h1 h2 =>
    rename_i a len cap
    subst hl
    have hM : ∀ (i j : Nat), i < rows.length → j < sz → M (a.add (i * sz + j)) = some (vals i j) ∧ ∃ x, RelD M x (vals i j) := by
      intro i j hi hj
      have hr : rows[i]? = some rows[i] := List.getElem?_eq_getElem hi
      have e1 : rows[i].length = sz := hsz _ (List.getElem_mem hi)
      have e2 := hz i _ hr
      have e : sz' = sz := by omega
      subst e
      have hx : rows[i][j]? = some rows[i][j] := List.getElem?_eq_getElem (by omega)
      exact ⟨h1 i j _ _ hr hx, _, h2 i j _ _ hr hx⟩
    refine ⟨vals, h2, .inr ⟨a, cap, rfl, hs, hc, hm, fun i j hi hj => (hM i j hi hj).1, fun q u hu => ?_⟩⟩
    obtain ⟨f1, f2, f3, f4, rfl⟩ := flatV_inv hu
    obtain ⟨g1, x, g2⟩ := hM _ _ f2 f3
    rw [← f4] at g1
    exact ⟨(hG _ _ g1).2, g2.one⟩

/-- what a slice's spare room must be like: nobody looks at it -/
def Tok (M : Mem) (w : World) (e sz : Nat) (v : Value) : Prop := ObRel M (fun _ => .tuple #[]) w (.tok e sz) v

theorem append_core {P : Program} {T : TT} (hT : TOk P T) {M : Mem} {w : World} (hG : Good M w) {t e ty : Nat} {it ie : TI} (ht : tget T t = some it) (hu : it.u = .sl e) (he : tget T e = some ie) {rows news : List Row} {v u : Value}
    (hv : RelD M (.sl rows) v) (hnv : RelD M (.sl news) u) (htok : Tok M w e ie.size v) (hr : ∀ r ∈ rows, r.length = ie.size) (hn : ∀ r ∈ news, r.length = ie.size) (hb : (rows.length + news.length) * ie.bytes ≤ 140737488355328)
    (hm : rows.length + news.length ≤ maxLen) :
    ∃ v' w' M', (Builtin.append_ #[t, t] ty #[v, u]).run P w = .ok v' w' ∧ RelD M' (.sl (rows ++ news)) v' ∧ Tok M' w' e ie.size v' ∧ Good M' w' ∧
      Ext (fun b => blk (.tok e ie.size) v = some b) M w M' w' ∧ ∀ b, blk (.tok e ie.size) v' = some b → blk (.tok e ie.size) v = some b ∨ w.heap.size ≤ b := by
  have fe := hT.facts he
  have hd := under_sl (hT.facts ht) hu
  obtain ⟨info, hi, hsz, hby, z, hz, hzl, _, _⟩ := fe.info
  have hpos := fe.pos
  have hzs : z.cells.size = ie.size := by have := fe.len; simp only [Array.length_toList] at hzl; omega
  obtain ⟨nvals, hnr, hnsh⟩ := sl_cells hG hnv hn
  obtain ⟨vals, hvr, hvsh⟩ := sl_cells hG hv hr
  generalize hszv : ie.size = sz at *
  have hbytes : (rows.length + news.length) * info.bytes ≤ 140737488355328 := by rw [hby]; exact hb
  -- nothing new
  rcases hnsh with ⟨rfl, rfl⟩ | ⟨na, ncap, rfl, hns, hnc, hncm, hnM, hncell⟩
  · have hrun : (Builtin.append_ #[t, t] ty #[v, .slice none 0 0]).run P w = .ok v w := by
      rcases hvsh with ⟨rfl, rfl⟩ | ⟨a, cap, rfl, hs, hc, hcm, hM, hcell⟩
      · simp [Builtin.append_, run_underlying hd, sizeOf, typeInfo, hi, Builtin.lenOf, Builtin.firstCells]
      · simp [Builtin.append_, run_underlying hd, sizeOf, typeInfo, hi, Builtin.lenOf, Builtin.firstCells, hc, storeCells]
    refine ⟨v, w, M, hrun, by simpa using hv, by simpa using htok, hG, Ext.refl _ _ _, fun b hb => .inl (by simpa using hb)⟩
  -- new rows in a new block
  have grown : ∀ (olds : List Value) (cap' : Nat) (w1 : World) (zs : Array Value), olds = flatV sz rows.length vals → rows.length + news.length ≤ cap' → cap' ≤ maxLen → w1.heap = w.heap → w1.os = w.os → w1.output = w.output → w1.tape = w.tape →
      zs.size = (cap' - (rows.length + news.length)) * sz →
      ∃ M', RelD M' (.sl (rows ++ news)) (.slice (some ⟨w.heap.size, 0, none⟩) (rows.length + news.length) cap') ∧
        Tok M' (w1.alloc (.cells (olds.toArray ++ (flatV sz news.length nvals).toArray ++ zs) e)) e sz (.slice (some ⟨w.heap.size, 0, none⟩) (rows.length + news.length) cap') ∧
        Good M' (w1.alloc (.cells (olds.toArray ++ (flatV sz news.length nvals).toArray ++ zs) e)) ∧
        Ext none' M w M' (w1.alloc (.cells (olds.toArray ++ (flatV sz news.length nvals).toArray ++ zs) e)) := by
    intro olds cap' w1 zs holds hge hcm hheap hos hout htape hzsz
    have hw1s : w1.heap.size = w.heap.size := by rw [hheap]
    let cs : Array Value := olds.toArray ++ (flatV sz news.length nvals).toArray ++ zs
    let M' : Mem := fun ad => if ad.block = w.heap.size ∧ ad.spot = none ∧ ad.off < (rows.length + news.length) * sz then cs[ad.off]? else M ad
    have hcs : cs.size = rows.length * sz + news.length * sz + zs.size := by simp [cs, holds, flatV_len, Nat.add_assoc]
    have hold : ∀ (i j : Nat), i < rows.length → j < sz → cs[i * sz + j]? = some (vals i j) := fun i j hi' hj => by
      have hlt : i * sz + j < rows.length * sz := by
        have : (i + 1) * sz ≤ rows.length * sz := Nat.mul_le_mul_right _ hi'
        rw [Nat.add_mul] at this; omega
      simp only [cs]
      rw [Array.getElem?_append_left (by simp [holds, flatV_len]; omega), Array.getElem?_append_left (by simp [holds, flatV_len]; exact hlt), List.getElem?_toArray, holds, flatV_get hj hi']
    have hnew : ∀ (i j : Nat), i < news.length → j < sz → cs[(rows.length + i) * sz + j]? = some (nvals i j) := fun i j hi' hj => by
      have hlt : i * sz + j < news.length * sz := by
        have : (i + 1) * sz ≤ news.length * sz := Nat.mul_le_mul_right _ hi'
        rw [Nat.add_mul] at this; omega
      simp only [cs]
      rw [Nat.add_mul, Array.getElem?_append_left (by simp [holds, flatV_len]; omega), Array.getElem?_append_right (by simp [holds, flatV_len]; omega), List.getElem?_toArray]
      simp only [List.size_toArray, holds, flatV_len]
      rw [show rows.length * sz + i * sz + j - rows.length * sz = i * sz + j by omega, flatV_get hj hi']
    have hmono : ∀ ad x, M ad = some x → M' ad = some x := fun ad x hx => by
      have := hG.lt hx
      simp only [M']
      rw [if_neg (by omega)]
      exact hx
    refine ⟨M', ?_, .inr ⟨⟨w.heap.size, 0, none⟩, _, cap', rfl, .inr rfl, hge, hcm, fun hlt => ⟨rfl, cs, ?_, ?_, fun k sp hk => ?_⟩⟩, fun ad x hx => ?_, hmono, by simp [hw1s], hos, hout, htape, fun b hb' _ => ?_, fun ad x hx => ?_⟩
    · refine .sl sz (fun i j => if i < rows.length then vals i j else nvals (i - rows.length) j) (by simp) hge hcm (.inr rfl) (fun i r hr' => ?_) (fun i j r x hr' hx => ?_) fun i j r x hr' hx => ?_
      · rcases List.mem_append.1 (List.mem_of_getElem? hr') with h' | h'
        · exact hr r h'
        · exact hn r h'
      · have hrl : r.length = sz := by
          rcases List.mem_append.1 (List.mem_of_getElem? hr') with h' | h'
          · exact hr r h'
          · exact hn r h'
        have hj : j < sz := by rw [← hrl]; exact (List.getElem?_eq_some_iff.1 hx).1
        have hil : i < rows.length + news.length := by have := (List.getElem?_eq_some_iff.1 hr').1; simpa using this
        have hlt : i * sz + j < (rows.length + news.length) * sz := by
          have : (i + 1) * sz ≤ (rows.length + news.length) * sz := Nat.mul_le_mul_right _ hil
          rw [Nat.add_mul] at this; omega
        rw [addr_add_lit]
        simp only [M', Nat.zero_add]
        rw [if_pos ⟨trivial, trivial, hlt⟩]
        by_cases hi' : i < rows.length
        · rw [if_pos hi', hold i j hi' hj]
        · rw [if_neg hi']
          have := hnew (i - rows.length) j (by omega) hj
          rwa [show rows.length + (i - rows.length) = i by omega] at this
      · by_cases hi' : i < rows.length
        · rw [List.getElem?_append_left hi'] at hr'
          simp only [if_pos hi']
          exact (hvr i j r x hr' hx).mono hmono
        · rw [List.getElem?_append_right (by omega)] at hr'
          simp only [if_neg hi']
          exact (hnr _ j r x hr' hx).mono hmono
    · have := heap_alloc_new w1 (.cells cs e)
      rw [hw1s] at this
      exact this
    · rw [hcs, hzsz, ← Nat.add_mul, ← Nat.add_mul]
      exact Nat.mul_le_mul_right _ (by omega)
    · simp only [M']
      rw [if_neg (by omega)]
      cases hM : M ⟨w.heap.size, k, sp⟩ with
      | none => rfl
      | some x => have := hG.lt hM; simp at this
    · simp only [M'] at hx
      split at hx
      · rename_i hc
        obtain ⟨b, o, s⟩ := ad
        simp only at hc hx
        obtain ⟨rfl, rfl, hc⟩ := hc
        refine ⟨rfl, ?_⟩
        rw [cell_row (w := w1.alloc (.cells cs e)) (b := w.heap.size) (vs := cs) (e := e) (fr := (0, 0)) (by rw [← hw1s]; exact heap_alloc_new w1 _)]
        exact hx
      · refine ⟨(hG ad x hx).1, ?_⟩
        rw [World.cell?_alloc_lt w1 _ ad (by rw [hw1s]; exact hG.lt hx)]
        have : w1.cell? ad = w.cell? ad := by simp [World.cell?, hheap]
        rw [this]
        exact (hG ad x hx).2
    · rw [heap_alloc_old w1 _ b (by rw [hw1s]; exact hb'), hheap]
    · simp only [M'] at hx
      split at hx
      · rename_i hc; exact .inr (.inr (by omega))
      · exact .inl hx
  have hzc : ∀ n, (Builtin.zeroCells z.cells n).size = n * sz := fun n => by rw [size_zeroCells, hzs]
  have hnl : (flatV sz news.length nvals).length = news.length * info.size := by rw [flatV_len, hsz]
  have hncell' : ∀ (j : Nat) u, (flatV sz news.length nvals)[j]? = some u → w.cell? (na.add j) = some u := fun j u hu => (hncell j u hu).1
  rcases hvsh with ⟨rfl, rfl⟩ | ⟨a, cap, rfl, hs, hc, hcm, hM, hcell⟩
  · -- nil
    by_cases hm0 : news.length = 0
    · have hne : news = [] := List.eq_nil_of_length_eq_zero hm0
      subst hne
      refine ⟨.slice none 0 0, w, M, ?_, .slnil, .inl rfl, hG, Ext.refl _ _ _, fun b hb' => .inl hb'⟩
      simp [Builtin.append_, run_underlying hd, sizeOf, typeInfo, hi, Builtin.lenOf, Builtin.firstCells, loadCells, loadCellsFrom]
    · simp only [List.length_nil, Nat.zero_add] at hm hbytes
      have hrun := run_append_nil (P := P) w t ty e info z hd hi hz na news.length ncap (flatV sz news.length nvals) hnl hncell' (by omega) (by unfold maxLen at hm; omega) (by omega)
      obtain ⟨M', g1, g2, g3, g4⟩ := grown [] (grownCap w news.length 0 e) w.drew _ (by simp [flatV]) (by simpa using grownCap_ge w news.length 0 e) (grownCap_le_maxLen w _ _ e hm) rfl rfl rfl rfl
        (by simpa using hzc (grownCap w news.length 0 e - news.length))
      simp only [List.length_nil, Nat.zero_add, List.nil_append] at g1 g2 g3 g4
      refine ⟨_, _, M', hrun, g1, by simpa using g2, by simpa using g3, (by simpa using g4 : Ext none' M w M' _).weaken (fun _ h => h.elim), fun b hb' => ?_⟩
      simp only [blk] at hb'
      split at hb'
      · simp at hb'; exact .inr (by omega)
      · cases hb'
  · by_cases hroom : rows.length + news.length ≤ cap
    · by_cases hm0 : news.length = 0
      · have hne : news = [] := List.eq_nil_of_length_eq_zero hm0
        subst hne
        refine ⟨.slice (some a) rows.length cap, w, M, ?_, by simpa using hv, by simpa using htok, hG, Ext.refl _ _ _, fun b hb' => .inl (by simpa using hb')⟩
        simp [Builtin.append_, run_underlying hd, sizeOf, typeInfo, hi, Builtin.lenOf, Builtin.firstCells, hc, storeCells, loadCells, loadCellsFrom]
      · -- in place
        have hlt : rows.length < cap := by omega
        rcases htok with h' | ⟨a', n', cap', h', _, _, _, htk⟩
        · cases h'
        · simp only [Value.slice.injEq, Option.some.injEq] at h'
          obtain ⟨rfl, rfl, rfl⟩ := h'
          obtain ⟨h0, vs, hvs, hcap, hfree⟩ := htk hlt
          obtain ⟨b, o, sp⟩ := a
          have hs2 : sp = none := hs.resolve_left (by omega)
          simp only at h0 hvs hfree
          subst h0; subst hs2
          have hfit : rows.length * info.size + (flatV sz news.length nvals).length ≤ vs.size := by
            rw [flatV_len, hsz, ← Nat.add_mul]
            exact Nat.le_trans (Nat.mul_le_mul_right _ hroom) hcap
          have hrun := run_append_room (P := P) w t ty e info hd hi b rows.length cap vs hvs na news.length ncap (flatV sz news.length nvals) hnl hncell' (fun u hu' => by
            obtain ⟨j, hj⟩ := List.getElem?_of_mem hu'
            exact (hncell j u hj).2) hroom hfit
          rw [hsz] at hrun
          let cs : List Value := vs.toList.take (rows.length * sz) ++ flatV sz news.length nvals ++ vs.toList.drop (rows.length * sz + (flatV sz news.length nvals).length)
          have hget := fun i => list_setAt vs.toList (rows.length * sz) (flatV sz news.length nvals) i (by rw [hsz] at hfit; simpa using hfit)
          let M' : Mem := fun ad => if ad.block = b ∧ ad.spot = none ∧ rows.length * sz ≤ ad.off ∧ ad.off < (rows.length + news.length) * sz then (flatV sz news.length nvals)[ad.off - rows.length * sz]? else M ad
          have hmono : ∀ ad x, M ad = some x → M' ad = some x := fun ad x hx => by
            simp only [M']
            rw [if_neg]
            · exact hx
            · rintro ⟨q1, q2, q3, _⟩
              obtain ⟨bb, oo, ss⟩ := ad
              simp only at q1 q2 q3
              subst q1
              rw [hfree oo ss q3] at hx
              cases hx
          have hheap : (w.setRow b cs.toArray).heap[b]? = some (.cells cs.toArray e (0, 0)) := setRow_heap w b vs _ e (0, 0) hvs
          refine ⟨_, _, M', hrun, ?_, ?_, ?_, ?_, ?_⟩
          · refine .sl sz (fun i j => if i < rows.length then vals i j else nvals (i - rows.length) j) (by simp) hroom hcm (.inr rfl) (fun i r hr' => ?_) (fun i j r x hr' hx => ?_) fun i j r x hr' hx => ?_
            · rcases List.mem_append.1 (List.mem_of_getElem? hr') with h' | h'
              · exact hr r h'
              · exact hn r h'
            · have hrl : r.length = sz := by
                rcases List.mem_append.1 (List.mem_of_getElem? hr') with h' | h'
                · exact hr r h'
                · exact hn r h'
              have hj : j < sz := by rw [← hrl]; exact (List.getElem?_eq_some_iff.1 hx).1
              by_cases hi' : i < rows.length
              · rw [if_pos hi']
                exact hmono _ _ (hM i j hi' hj)
              · have hil : i < rows.length + news.length := by have := (List.getElem?_eq_some_iff.1 hr').1; simpa using this
                rw [if_neg hi', addr_add_lit]
                have e1 : i * sz + j = rows.length * sz + ((i - rows.length) * sz + j) := by
                  have : i * sz = rows.length * sz + (i - rows.length) * sz := by rw [← Nat.add_mul]; congr 1; omega
                  omega
                have hlt' : (i - rows.length) * sz + j < news.length * sz := by
                  have : (i - rows.length + 1) * sz ≤ news.length * sz := Nat.mul_le_mul_right _ (by omega)
                  rw [Nat.add_mul] at this; omega
                simp only [M', Nat.zero_add]
                rw [if_pos ⟨trivial, trivial, by omega, by rw [Nat.add_mul]; omega⟩, e1, Nat.add_sub_cancel_left, flatV_get hj (by omega)]
            · by_cases hi' : i < rows.length
              · rw [List.getElem?_append_left hi'] at hr'
                simp only [if_pos hi']
                exact (hvr i j r x hr' hx).mono hmono
              · rw [List.getElem?_append_right (by omega)] at hr'
                simp only [if_neg hi']
                exact (hnr _ j r x hr' hx).mono hmono
          · refine .inr ⟨⟨b, 0, none⟩, _, cap, rfl, .inr rfl, hroom, hcm, fun hlt' => ⟨rfl, cs.toArray, hheap, ?_, fun k sp hk => ?_⟩⟩
            · have : cs.length = vs.size := by
                simp only [cs, List.length_append, List.length_take, List.length_drop, Array.length_toList]
                rw [hsz] at hfit
                omega
              simpa [this] using hcap
            · simp only [M']
              rw [if_neg (by omega)]
              exact hfree k sp (Nat.le_trans (Nat.mul_le_mul_right _ (by omega)) hk)
          · intro ad x hx
            simp only [M'] at hx
            split at hx
            · rename_i hcnd
              obtain ⟨bb, oo, ss⟩ := ad
              simp only at hcnd hx
              obtain ⟨rfl, rfl, q3, q4⟩ := hcnd
              refine ⟨rfl, ?_⟩
              rw [cell_row hheap, List.getElem?_toArray]
              show cs[oo]? = some x
              simp only [cs]
              rw [hget oo, if_pos ⟨q3, by rw [flatV_len, ← Nat.add_mul]; exact q4⟩]
              exact hx
            · obtain ⟨q1, q2⟩ := hG ad x hx
              refine ⟨q1, ?_⟩
              by_cases hbb : ad.block = b
              · obtain ⟨bb, oo, ss⟩ := ad
                simp only at hbb q1
                subst hbb; subst q1
                have hlt2 : oo < rows.length * sz := by
                  rcases Nat.lt_or_ge oo (rows.length * sz) with h' | h'
                  · exact h'
                  · rw [hfree oo _ h'] at hx; cases hx
                rw [cell_row hvs] at q2
                rw [cell_row hheap, List.getElem?_toArray]
                show cs[oo]? = some x
                simp only [cs]
                rw [hget oo, if_neg (by omega)]
                simpa using q2
              · rw [cell_of_block (setRow_other w b ad.block _ hbb)]
                exact q2
          · refine ⟨hmono, by rw [setRow_size]; exact Nat.le_refl _, rfl, rfl, rfl, fun k _ hk => setRow_other w b k _ (fun e' => hk (by simp [blk, hlt, e'])), fun ad x hx => ?_⟩
            simp only [M'] at hx
            split at hx
            · rename_i hcnd
              exact .inr (.inl (by simp [blk, hlt, hcnd.1]))
            · exact .inl hx
          · intro c hc'
            simp only [blk] at hc'
            split at hc'
            · simp at hc'
              subst hc'
              exact .inl (by simp [blk, hlt])
            · cases hc'
    · have hrun := run_append_grow (P := P) w t ty e info z hd hi hz a rows.length cap (flatV sz rows.length vals) (by rw [flatV_len, hsz]) (fun j u hu' => (hcell j u hu').1) na news.length ncap (flatV sz news.length nvals) hnl hncell'
        (by omega) (by unfold maxLen at hm; omega) (growslice_fits (by omega) hbytes)
      obtain ⟨M', g1, g2, g3, g4⟩ := grown (flatV sz rows.length vals) (grownCap w (rows.length + news.length) cap e) w.drew (Builtin.zeroCells z.cells (grownCap w (rows.length + news.length) cap e - (rows.length + news.length))) rfl (grownCap_ge w _ _ e) (grownCap_le_maxLen w _ _ e hm) rfl rfl rfl rfl (hzc _)
      refine ⟨_, _, M', hrun, g1, g2, g3, g4.weaken (fun _ h => h.elim), fun b hb' => ?_⟩
      simp only [blk] at hb'
      split at hb'
      · simp at hb'; exact .inr (by omega)
      · cases hb'

end Go.Am

