/- A part of the proof of SyntaxApart. -/
import Derived.Test.YtmilgoloagbmpaaGreatDoorAmA
import Derived.Laws.AppendOwn
import GoSem.Instr.Lookup
import GoSem.Instr.MapUpdate
import GoSem.Instr.MakeMap
import Derived.Below
import Derived.Laws.StructEq
import Derived.Laws.MakeOwn
import Derived.ChangeSame
import Derived.OpenShut
import Derived.ProofKit
import Derived.Laws.BytesArg
import Derived.Lib.LaidTab
namespace Go.Am

/-- the cells of rows, one behind the other -/
def flatV (sz m : Nat) (vals : Nat → Nat → Value) : List Value := (List.range (m * sz)).map fun q => vals (q / sz) (q % sz)

theorem flatV_len {sz m : Nat} {vals : Nat → Nat → Value} : (flatV sz m vals).length = m * sz := by simp [flatV]

theorem flatV_get {sz m : Nat} {vals : Nat → Nat → Value} {i j : Nat} (hj : j < sz) (hi : i < m) : (flatV sz m vals)[i * sz + j]? = some (vals i j) := by
  have hlt : i * sz + j < m * sz := by
    have : (i + 1) * sz ≤ m * sz := Nat.mul_le_mul_right _ hi
    rw [Nat.add_mul] at this
    omega
  have hz : 0 < sz := by omega
  unfold flatV
  rw [List.getElem?_map, List.getElem?_range hlt]
  simp only [Option.map_some, Option.some.injEq]
  rw [Nat.mul_comm i sz, Nat.mul_add_div hz, Nat.mul_add_mod, Nat.div_eq_of_lt hj, Nat.mod_eq_of_lt hj, Nat.add_zero]

theorem flatV_inv {sz m : Nat} {vals : Nat → Nat → Value} {q : Nat} {v : Value} (h : (flatV sz m vals)[q]? = some v) : 0 < sz ∧ q / sz < m ∧ q % sz < sz ∧ q = q / sz * sz + q % sz ∧ v = vals (q / sz) (q % sz) := by
  unfold flatV at h
  rw [List.getElem?_map] at h
  by_cases hq : q < m * sz
  · rw [List.getElem?_range hq] at h
    simp only [Option.map_some, Option.some.injEq] at h
    have hz : 0 < sz := by
      rcases Nat.eq_zero_or_pos sz with h' | h'
      · subst h'; simp at hq
      · exact h'
    exact ⟨hz, (Nat.div_lt_iff_lt_mul hz).2 hq, Nat.mod_lt _ hz, by rw [Nat.mul_comm]; exact (Nat.div_add_mod q sz).symm, h.symm⟩
  · rw [List.getElem?_eq_none (by simp; omega)] at h
    cases h

/-- the rows of a slice of data, as the world has them -/
theorem sl_cells {M : Mem} {w : World} (hG : Good M w) {rows : List Row} {v : Value} (h : RelD M (.sl rows) v) {sz : Nat} (hsz : ∀ r ∈ rows, r.length = sz) :
    ∃ (vals : Nat → Nat → Value), (∀ (i j : Nat) r x, rows[i]? = some r → r[j]? = some x → RelD M x (vals i j)) ∧
      ((v = .slice none 0 0 ∧ rows = []) ∨ ∃ a cap, v = .slice (some a) rows.length cap ∧ (cap = 0 ∨ a.spot = none) ∧ rows.length ≤ cap ∧ cap ≤ maxLen ∧
        (∀ (i j : Nat), i < rows.length → j < sz → M (a.add (i * sz + j)) = some (vals i j)) ∧ ∀ q u, (flatV sz rows.length vals)[q]? = some u → w.cell? (a.add q) = some u ∧ u.oneCell' = true) := by
  cases h with
  | slnil => exact ⟨fun _ _ => undef, fun i j r x h => by simp at h, .inl ⟨rfl, rfl⟩⟩
  | sl sz' vals hl hc hm hs hz h1 h2 =>
    rename_i a len cap
    subst hl
    have hM : ∀ (i j : Nat), i < rows.length → j < sz → M (a.add (i * sz + j)) = some (vals i j) ∧ ∃ x, RelD M x (vals i j) := by
      intro i j hi hj
      have hr : rows[i]? = some rows[i] := List.getElem?_eq_getElem hi
      have e1 : rows[i].length = sz := hsz _ (List.getElem_mem hi)
      have e2 := hz i _ hr
      have e : sz' = sz := by omega
      subst e
      have hx : rows[i][j]? = some rows[i][j] := List.getElem?_eq_getElem (by omega)
      exact ⟨h1 i j _ _ hr hx, _, h2 i j _ _ hr hx⟩
    refine ⟨vals, h2, .inr ⟨a, cap, rfl, hs, hc, hm, fun i j hi hj => (hM i j hi hj).1, fun q u hu => ?_⟩⟩
    obtain ⟨f1, f2, f3, f4, rfl⟩ := flatV_inv hu
    obtain ⟨g1, x, g2⟩ := hM _ _ f2 f3
    rw [← f4] at g1
    exact ⟨(hG _ _ g1).2, g2.one⟩

/-- what a slice's spare room must be like: nobody looks at it -/
def Tok (M : Mem) (w : World) (e sz : Nat) (v : Value) : Prop := ObRel M (fun _ => .tuple #[]) w (.tok e sz) v

theorem append_core {P : Program} {T : TT} (hT : TOk P T) {M : Mem} {w : World} (hG : Good M w) {t e ty : Nat} {it ie : TI} (ht : tget T t = some it) (hu : it.u = .sl e) (he : tget T e = some ie) {rows news : List Row} {v u : Value}
    (hv : RelD M (.sl rows) v) (hnv : RelD M (.sl news) u) (htok : Tok M w e ie.size v) (hr : ∀ r ∈ rows, r.length = ie.size) (hn : ∀ r ∈ news, r.length = ie.size) (hb : (rows.length + news.length) * ie.bytes ≤ 140737488355328)
    (hm : rows.length + news.length ≤ maxLen) :
    ∃ v' w' M', (Builtin.append_ #[t, t] ty #[v, u]).run P w = .ok v' w' ∧ RelD M' (.sl (rows ++ news)) v' ∧ Tok M' w' e ie.size v' ∧ Good M' w' ∧
      Ext (fun b => blk (.tok e ie.size) v = some b) M w M' w' ∧ ∀ b, blk (.tok e ie.size) v' = some b → blk (.tok e ie.size) v = some b ∨ w.heap.size ≤ b := by
  have fe := hT.facts he
  have hd := under_sl (hT.facts ht) hu
  obtain ⟨info, hi, hsz, hby, z, hz, hzl, _, _⟩ := fe.info
  have hpos := fe.pos
  have hzs : z.cells.size = ie.size := by have := fe.len; simp only [Array.length_toList] at hzl; omega
  obtain ⟨nvals, hnr, hnsh⟩ := sl_cells hG hnv hn
  obtain ⟨vals, hvr, hvsh⟩ := sl_cells hG hv hr
  generalize hszv : ie.size = sz at *
  have hbytes : (rows.length + news.length) * info.bytes ≤ 140737488355328 := by rw [hby]; exact hb
  -- nothing new
  rcases hnsh with ⟨rfl, rfl⟩ | ⟨na, ncap, rfl, hns, hnc, hncm, hnM, hncell⟩
  · have hrun : (Builtin.append_ #[t, t] ty #[v, .slice none 0 0]).run P w = .ok v w := by
      rcases hvsh with ⟨rfl, rfl⟩ | ⟨a, cap, rfl, hs, hc, hcm, hM, hcell⟩
      · simp [Builtin.append_, run_underlying hd, sizeOf, typeInfo, hi, Builtin.lenOf, Builtin.firstCells]
      · simp [Builtin.append_, run_underlying hd, sizeOf, typeInfo, hi, Builtin.lenOf, Builtin.firstCells, hc, storeCells]
    refine ⟨v, w, M, hrun, by simpa using hv, by simpa using htok, hG, Ext.refl _ _ _, fun b hb => .inl (by simpa using hb)⟩
  -- new rows in a new block
  have grown : ∀ (olds : List Value) (cap' : Nat) (w1 : World) (zs : Array Value), olds = flatV sz rows.length vals → rows.length + news.length ≤ cap' → cap' ≤ maxLen → w1.heap = w.heap → w1.os = w.os → w1.output = w.output → w1.tape = w.tape →
      zs.size = (cap' - (rows.length + news.length)) * sz →
      ∃ M', RelD M' (.sl (rows ++ news)) (.slice (some ⟨w.heap.size, 0, none⟩) (rows.length + news.length) cap') ∧
        Tok M' (w1.alloc (.cells (olds.toArray ++ (flatV sz news.length nvals).toArray ++ zs) e)) e sz (.slice (some ⟨w.heap.size, 0, none⟩) (rows.length + news.length) cap') ∧
        Good M' (w1.alloc (.cells (olds.toArray ++ (flatV sz news.length nvals).toArray ++ zs) e)) ∧
        Ext none' M w M' (w1.alloc (.cells (olds.toArray ++ (flatV sz news.length nvals).toArray ++ zs) e)) := by
    intro olds cap' w1 zs holds hge hcm hheap hos hout htape hzsz
    have hw1s : w1.heap.size = w.heap.size := by rw [hheap]
    let cs : Array Value := olds.toArray ++ (flatV sz news.length nvals).toArray ++ zs
    let M' : Mem := fun ad => if ad.block = w.heap.size ∧ ad.spot = none ∧ ad.off < (rows.length + news.length) * sz then cs[ad.off]? else M ad
    have hcs : cs.size = rows.length * sz + news.length * sz + zs.size := by simp [cs, holds, flatV_len, Nat.add_assoc]
    have hold : ∀ (i j : Nat), i < rows.length → j < sz → cs[i * sz + j]? = some (vals i j) := fun i j hi' hj => by
      have hlt : i * sz + j < rows.length * sz := by
        have : (i + 1) * sz ≤ rows.length * sz := Nat.mul_le_mul_right _ hi'
        rw [Nat.add_mul] at this; omega
      simp only [cs]
      rw [Array.getElem?_append_left (by simp [holds, flatV_len]; omega), Array.getElem?_append_left (by simp [holds, flatV_len]; exact hlt), List.getElem?_toArray, holds, flatV_get hj hi']
    have hnew : ∀ (i j : Nat), i < news.length → j < sz → cs[(rows.length + i) * sz + j]? = some (nvals i j) := fun i j hi' hj => by
      have hlt : i * sz + j < news.length * sz := by
        have : (i + 1) * sz ≤ news.length * sz := Nat.mul_le_mul_right _ hi'
        rw [Nat.add_mul] at this; omega
      simp only [cs]
      rw [Nat.add_mul, Array.getElem?_append_left (by simp [holds, flatV_len]; omega), Array.getElem?_append_right (by simp [holds, flatV_len]; omega), List.getElem?_toArray]
      simp only [List.size_toArray, holds, flatV_len]
      rw [show rows.length * sz + i * sz + j - rows.length * sz = i * sz + j by omega, flatV_get hj hi']
    have hmono : ∀ ad x, M ad = some x → M' ad = some x := fun ad x hx => by
      have := hG.lt hx
      simp only [M']
      rw [if_neg (by omega)]
      exact hx
    refine ⟨M', ?_, .inr ⟨⟨w.heap.size, 0, none⟩, _, cap', rfl, .inr rfl, hge, hcm, fun hlt => ⟨rfl, cs, ?_, ?_, fun k sp hk => ?_⟩⟩, fun ad x hx => ?_, hmono, by simp [hw1s], hos, hout, htape, fun b hb' _ => ?_, fun ad x hx => ?_⟩
    · refine .sl sz (fun i j => if i < rows.length then vals i j else nvals (i - rows.length) j) (by simp) hge hcm (.inr rfl) (fun i r hr' => ?_) (fun i j r x hr' hx => ?_) fun i j r x hr' hx => ?_
      · rcases List.mem_append.1 (List.mem_of_getElem? hr') with h' | h'
        · exact hr r h'
        · exact hn r h'
      · have hrl : r.length = sz := by
          rcases List.mem_append.1 (List.mem_of_getElem? hr') with h' | h'
          · exact hr r h'
          · exact hn r h'
        have hj : j < sz := by rw [← hrl]; exact (List.getElem?_eq_some_iff.1 hx).1
        have hil : i < rows.length + news.length := by have := (List.getElem?_eq_some_iff.1 hr').1; simpa using this
        have hlt : i * sz + j < (rows.length + news.length) * sz := by
          have : (i + 1) * sz ≤ (rows.length + news.length) * sz := Nat.mul_le_mul_right _ hil
          rw [Nat.add_mul] at this; omega
        rw [addr_add_lit]
        simp only [M', Nat.zero_add]
        rw [if_pos ⟨trivial, trivial, hlt⟩]
        by_cases hi' : i < rows.length
        · rw [if_pos hi', hold i j hi' hj]
        · rw [if_neg hi']
          have := hnew (i - rows.length) j (by omega) hj
          rwa [show rows.length + (i - rows.length) = i by omega] at this
      · by_cases hi' : i < rows.length
        · rw [List.getElem?_append_left hi'] at hr'
          simp only [if_pos hi']
          exact (hvr i j r x hr' hx).mono hmono
        · rw [List.getElem?_append_right (by omega)] at hr'
          simp only [if_neg hi']
          exact (hnr _ j r x hr' hx).mono hmono
    · have := heap_alloc_new w1 (.cells cs e)
      rw [hw1s] at this
      exact this
    · rw [hcs, hzsz, ← Nat.add_mul, ← Nat.add_mul]
      exact Nat.mul_le_mul_right _ (by omega)
    · simp only [M']
      rw [if_neg (by omega)]
      cases hM : M ⟨w.heap.size, k, sp⟩ with
      | none => rfl
      | some x => have := hG.lt hM; simp at this
    · simp only [M'] at hx
      split at hx
      · rename_i hc
        obtain ⟨b, o, s⟩ := ad
        simp only at hc hx
        obtain ⟨rfl, rfl, hc⟩ := hc
        refine ⟨rfl, ?_⟩
        rw [cell_row (w := w1.alloc (.cells cs e)) (b := w.heap.size) (vs := cs) (e := e) (fr := (0, 0)) (by rw [← hw1s]; exact heap_alloc_new w1 _)]
        exact hx
      · refine ⟨(hG ad x hx).1, ?_⟩
        rw [World.cell?_alloc_lt w1 _ ad (by rw [hw1s]; exact hG.lt hx)]
        have : w1.cell? ad = w.cell? ad := by simp [World.cell?, hheap]
        rw [this]
        exact (hG ad x hx).2
    · rw [heap_alloc_old w1 _ b (by rw [hw1s]; exact hb'), hheap]
    · simp only [M'] at hx
      split at hx
      · rename_i hc; exact .inr (.inr (by omega))
      · exact .inl hx
  have hzc : ∀ n, (Builtin.zeroCells z.cells n).size = n * sz := fun n => by rw [size_zeroCells, hzs]
  have hnl : (flatV sz news.length nvals).length = news.length * info.size := by rw [flatV_len, hsz]
  have hncell' : ∀ (j : Nat) u, (flatV sz news.length nvals)[j]? = some u → w.cell? (na.add j) = some u := fun j u hu => (hncell j u hu).1
  rcases hvsh with ⟨rfl, rfl⟩ | ⟨a, cap, rfl, hs, hc, hcm, hM, hcell⟩
  · -- nil
    by_cases hm0 : news.length = 0
    · have hne : news = [] := List.eq_nil_of_length_eq_zero hm0
      subst hne
      refine ⟨.slice none 0 0, w, M, ?_, .slnil, .inl rfl, hG, Ext.refl _ _ _, fun b hb' => .inl hb'⟩
      simp [Builtin.append_, run_underlying hd, sizeOf, typeInfo, hi, Builtin.lenOf, Builtin.firstCells, loadCells, loadCellsFrom]
    · simp only [List.length_nil, Nat.zero_add] at hm hbytes
      have hrun := run_append_nil (P := P) w t ty e info z hd hi hz na news.length ncap (flatV sz news.length nvals) hnl hncell' (by omega) (by unfold maxLen at hm; omega) (by omega)
      obtain ⟨M', g1, g2, g3, g4⟩ := grown [] (grownCap w news.length 0 e) w.drew _ (by simp [flatV]) (by simpa using grownCap_ge w news.length 0 e) (grownCap_le_maxLen w _ _ e hm) rfl rfl rfl rfl
        (by simpa using hzc (grownCap w news.length 0 e - news.length))
      simp only [List.length_nil, Nat.zero_add, List.nil_append] at g1 g2 g3 g4
      refine ⟨_, _, M', hrun, g1, by simpa using g2, by simpa using g3, (by simpa using g4 : Ext none' M w M' _).weaken (fun _ h => h.elim), fun b hb' => ?_⟩
      simp only [blk] at hb'
      split at hb'
      · simp at hb'; exact .inr (by omega)
      · cases hb'
  · by_cases hroom : rows.length + news.length ≤ cap
    · by_cases hm0 : news.length = 0
      · have hne : news = [] := List.eq_nil_of_length_eq_zero hm0
        subst hne
        refine ⟨.slice (some a) rows.length cap, w, M, ?_, by simpa using hv, by simpa using htok, hG, Ext.refl _ _ _, fun b hb' => .inl (by simpa using hb')⟩
        simp [Builtin.append_, run_underlying hd, sizeOf, typeInfo, hi, Builtin.lenOf, Builtin.firstCells, hc, storeCells, loadCells, loadCellsFrom]
      · -- in place
        have hlt : rows.length < cap := by omega
        rcases htok with h' | ⟨a', n', cap', h', _, _, _, htk⟩
        · cases h'
        · simp only [Value.slice.injEq, Option.some.injEq] at h'
          obtain ⟨rfl, rfl, rfl⟩ := h'
          obtain ⟨h0, vs, hvs, hcap, hfree⟩ := htk hlt
          obtain ⟨b, o, sp⟩ := a
          have hs2 : sp = none := hs.resolve_left (by omega)
          simp only at h0 hvs hfree
          subst h0; subst hs2
          have hfit : rows.length * info.size + (flatV sz news.length nvals).length ≤ vs.size := by
            rw [flatV_len, hsz, ← Nat.add_mul]
            exact Nat.le_trans (Nat.mul_le_mul_right _ hroom) hcap
          have hrun := run_append_room (P := P) w t ty e info hd hi b rows.length cap vs hvs na news.length ncap (flatV sz news.length nvals) hnl hncell' (fun u hu' => by
            obtain ⟨j, hj⟩ := List.getElem?_of_mem hu'
            exact (hncell j u hj).2) hroom hfit
          rw [hsz] at hrun
          let cs : List Value := vs.toList.take (rows.length * sz) ++ flatV sz news.length nvals ++ vs.toList.drop (rows.length * sz + (flatV sz news.length nvals).length)
          have hget := fun i => list_setAt vs.toList (rows.length * sz) (flatV sz news.length nvals) i (by rw [hsz] at hfit; simpa using hfit)
          let M' : Mem := fun ad => if ad.block = b ∧ ad.spot = none ∧ rows.length * sz ≤ ad.off ∧ ad.off < (rows.length + news.length) * sz then (flatV sz news.length nvals)[ad.off - rows.length * sz]? else M ad
          have hmono : ∀ ad x, M ad = some x → M' ad = some x := fun ad x hx => by
            simp only [M']
            rw [if_neg]
            · exact hx
            · rintro ⟨q1, q2, q3, _⟩
              obtain ⟨bb, oo, ss⟩ := ad
              simp only at q1 q2 q3
              subst q1
              rw [hfree oo ss q3] at hx
              cases hx
          have hheap : (w.setRow b cs.toArray).heap[b]? = some (.cells cs.toArray e (0, 0)) := setRow_heap w b vs _ e (0, 0) hvs
          refine ⟨_, _, M', hrun, ?_, ?_, ?_, ?_, ?_⟩
          · refine .sl sz (fun i j => if i < rows.length then vals i j else nvals (i - rows.length) j) (by simp) hroom hcm (.inr rfl) (fun i r hr' => ?_) (fun i j r x hr' hx => ?_) fun i j r x hr' hx => ?_
            · rcases List.mem_append.1 (List.mem_of_getElem? hr') with h' | h'
              · exact hr r h'
              · exact hn r h'
            · have hrl : r.length = sz := by
                rcases List.mem_append.1 (List.mem_of_getElem? hr') with h' | h'
                · exact hr r h'
                · exact hn r h'
              have hj : j < sz := by rw [← hrl]; exact (List.getElem?_eq_some_iff.1 hx).1
              by_cases hi' : i < rows.length
              · rw [if_pos hi']
                exact hmono _ _ (hM i j hi' hj)
              · have hil : i < rows.length + news.length := by have := (List.getElem?_eq_some_iff.1 hr').1; simpa using this
                rw [if_neg hi', addr_add_lit]
                have e1 : i * sz + j = rows.length * sz + ((i - rows.length) * sz + j) := by
                  have : i * sz = rows.length * sz + (i - rows.length) * sz := by rw [← Nat.add_mul]; congr 1; omega
                  omega
                have hlt' : (i - rows.length) * sz + j < news.length * sz := by
                  have : (i - rows.length + 1) * sz ≤ news.length * sz := Nat.mul_le_mul_right _ (by omega)
                  rw [Nat.add_mul] at this; omega
                simp only [M', Nat.zero_add]
                rw [if_pos ⟨trivial, trivial, by omega, by rw [Nat.add_mul]; omega⟩, e1, Nat.add_sub_cancel_left, flatV_get hj (by omega)]
            · by_cases hi' : i < rows.length
              · rw [List.getElem?_append_left hi'] at hr'
                simp only [if_pos hi']
                exact (hvr i j r x hr' hx).mono hmono
              · rw [List.getElem?_append_right (by omega)] at hr'
                simp only [if_neg hi']
                exact (hnr _ j r x hr' hx).mono hmono
          · refine .inr ⟨⟨b, 0, none⟩, _, cap, rfl, .inr rfl, hroom, hcm, fun hlt' => ⟨rfl, cs.toArray, hheap, ?_, fun k sp hk => ?_⟩⟩
            · have : cs.length = vs.size := by
                simp only [cs, List.length_append, List.length_take, List.length_drop, Array.length_toList]
                rw [hsz] at hfit
                omega
              simpa [this] using hcap
            · simp only [M']
              rw [if_neg (by omega)]
              exact hfree k sp (Nat.le_trans (Nat.mul_le_mul_right _ (by omega)) hk)
          · intro ad x hx
            simp only [M'] at hx
            split at hx
            · rename_i hcnd
              obtain ⟨bb, oo, ss⟩ := ad
              simp only at hcnd hx
              obtain ⟨rfl, rfl, q3, q4⟩ := hcnd
              refine ⟨rfl, ?_⟩
              rw [cell_row hheap, List.getElem?_toArray]
              show cs[oo]? = some x
              simp only [cs]
              rw [hget oo, if_pos ⟨q3, by rw [flatV_len, ← Nat.add_mul]; exact q4⟩]
              exact hx
            · obtain ⟨q1, q2⟩ := hG ad x hx
              refine ⟨q1, ?_⟩
              by_cases hbb : ad.block = b
              · obtain ⟨bb, oo, ss⟩ := ad
                simp only at hbb q1
                subst hbb; subst q1
                have hlt2 : oo < rows.length * sz := by
                  rcases Nat.lt_or_ge oo (rows.length * sz) with h' | h'
                  · exact h'
                  · rw [hfree oo _ h'] at hx; cases hx
                rw [cell_row hvs] at q2
                rw [cell_row hheap, List.getElem?_toArray]
                show cs[oo]? = some x
                simp only [cs]
                rw [hget oo, if_neg (by omega)]
                simpa using q2
              · rw [cell_of_block (setRow_other w b ad.block _ hbb)]
                exact q2
          · refine ⟨hmono, by rw [setRow_size]; exact Nat.le_refl _, rfl, rfl, rfl, fun k _ hk => setRow_other w b k _ (fun e' => hk (by simp [blk, hlt, e'])), fun ad x hx => ?_⟩
            simp only [M'] at hx
            split at hx
            · rename_i hcnd
              exact .inr (.inl (by simp [blk, hlt, hcnd.1]))
            · exact .inl hx
          · intro c hc'
            simp only [blk] at hc'
            split at hc'
            · simp at hc'
              subst hc'
              exact .inl (by simp [blk, hlt])
            · cases hc'
    · have hrun := run_append_grow (P := P) w t ty e info z hd hi hz a rows.length cap (flatV sz rows.length vals) (by rw [flatV_len, hsz]) (fun j u hu' => (hcell j u hu').1) na news.length ncap (flatV sz news.length nvals) hnl hncell'
        (by omega) (by unfold maxLen at hm; omega) (growslice_fits (by omega) hbytes)
      obtain ⟨M', g1, g2, g3, g4⟩ := grown (flatV sz rows.length vals) (grownCap w (rows.length + news.length) cap e) w.drew (Builtin.zeroCells z.cells (grownCap w (rows.length + news.length) cap e - (rows.length + news.length))) rfl (grownCap_ge w _ _ e) (grownCap_le_maxLen w _ _ e hm) rfl rfl rfl rfl (hzc _)
      refine ⟨_, _, M', hrun, g1, g2, g3, g4.weaken (fun _ h => h.elim), fun b hb' => ?_⟩
      simp only [blk] at hb'
      split at hb'
      · simp at hb'; exact .inr (by omega)
      · cases hb'

end Go.Am

namespace Go.Am

theorem St.turnTok {C : Cx} {N : Nat} {M M' : Mem} {G : Nat → Value} {w w' : World} {env : Env} {H : Heap} {a : Act} (h : St C N M G w env H a) {dst : Option Nat} (hd : ∀ d, dst = some d → d < N) {p e sz e' sz' : Nat} {v' : Value} {x : A}
    (hp : H[p]? = some (.tok e sz)) (hext : Ext (fun b => blk (.tok e sz) (G p) = some b) M w M' w') (hg : Good M' w') (hob : ObRel M' G w' (.tok e sz) v') (hblk : ∀ b, blk (.tok e sz) v' = some b → blk (.tok e sz) (G p) = some b ∨ w.heap.size ≤ b)
    (hx : RelA M' (updG G p v') x v') (_he : e' = e) (_hs : sz' = sz) :
    St C N M' (updG G p v') w' (put (fun t => dg [p] (env t)) dst x) (H.map (dgO [p])) (a.put dst v') := by
  have hps : ∀ q ∈ [p], ∃ a l c, G q = .slice a l c := fun q hq => by
    simp at hq; subst hq
    rcases h.hrel.obj q _ hp with e | ⟨ad, n, cap, e, _⟩
    · exact ⟨_, _, _, e⟩
    · exact ⟨_, _, _, e⟩
  have hgg : ∀ o, o ∉ [p] → G o ≠ .tuple #[] → updG G p v' o = G o := fun o ho _ => updG_ne (by simpa using ho)
  have hplt : p < H.length := (List.getElem?_eq_some_iff.1 hp).1
  have getH : ∀ (o : Nat) z, (H.map (dgO [p]))[o]? = some z → ∃ y, H[o]? = some y ∧ z = dgO [p] y := fun o z hz => by
    rw [List.getElem?_map] at hz
    cases hy : H[o]? with
    | none => rw [hy] at hz; cases hz
    | some y => rw [hy] at hz; exact ⟨y, rfl, by simpa using hz.symm⟩
  obtain ⟨p1, p2, p3⟩ := put_env (env := fun t => dg [p] (env t)) (dst := dst) (x := x) (a := a) (v := v') (N := N) (M := M') (G := updG G p v') (fun t => dg_rel ((h.env t).mono' hext.mono) hps hgg) h.size hd hx
  refine ⟨hg, h.gl.ext h.hrel hext (fun b hb => ⟨p, _, hp, hb⟩), ⟨fun o z hz => ?_, fun o o' z z' b hz hz' hb hb' => ?_, fun o ho => ?_⟩, p1, p2, p3.trans h.defers⟩
  · obtain ⟨y, hy, rfl⟩ := getH o z hz
    by_cases hop : o = p
    · subst hop
      rw [hp] at hy
      obtain rfl := Option.some.inj hy
      rw [updG_same]
      exact hob
    · rw [updG_ne hop]
      have hoy := h.hrel.obj o y hy
      refine dgO_rel (hoy.keep hext.mono (fun b hb => hext.block b (blk_lt hoy hb) fun hb' => hop (h.hrel.apart o p y _ b hy hp hb hb')) fun b hb off sp hn => ?_) hps hgg
      cases hM : M' ⟨b, off, sp⟩ with
      | none => rfl
      | some u =>
        rcases hext.fresh _ u hM with q | q | q
        · rw [hn] at q; cases q
        · exact absurd (h.hrel.apart o p y _ b hy hp hb q) hop
        · have := blk_lt hoy hb; simp only at q; omega
  · have key : ∀ (o : Nat) z b, (H.map (dgO [p]))[o]? = some z → blk z (updG G p v' o) = some b → ∃ y, H[o]? = some y ∧ (blk y (G o) = some b ∨ o = p ∧ w.heap.size ≤ b) := by
      intro o z b hz hb
      obtain ⟨y, hy, rfl⟩ := getH o z hz
      replace hb := blk_dgO hb
      refine ⟨y, hy, ?_⟩
      by_cases hop : o = p
      · subst hop
        rw [hp] at hy
        obtain rfl := Option.some.inj hy
        rw [updG_same] at hb
        rcases hblk b hb with q | q
        · exact .inl q
        · exact .inr ⟨rfl, q⟩
      · rw [updG_ne hop] at hb
        exact .inl hb
    obtain ⟨y, hy, hyb⟩ := key o z b hz hb
    obtain ⟨y', hy', hyb'⟩ := key o' z' b hz' hb'
    rcases hyb with q | ⟨q1, q2⟩ <;> rcases hyb' with r | ⟨r1, r2⟩
    · exact h.hrel.apart o o' y y' b hy hy' q r
    · have := blk_lt (h.hrel.obj o y hy) q; omega
    · have := blk_lt (h.hrel.obj o' y' hy') r; omega
    · rw [q1, r1]
  · simp only [List.length_map] at ho
    rw [updG_ne (by omega)]
    exact h.hrel.fresh o ho

theorem Since.turnTok {fr : Fr} {M M' : Mem} {G : Nat → Value} {w w' : World} {H : Heap} (h : Since fr M G w H) {p e sz : Nat} {v' : Value}
    (hp : H[p]? = some (.tok e sz)) (hext : Ext (fun b => blk (.tok e sz) (G p) = some b) M w M' w') (hblk : ∀ b, blk (.tok e sz) v' = some b → blk (.tok e sz) (G p) = some b ∨ w.heap.size ≤ b) :
    Since fr M' (updG G p v') w' (H.map (dgO [p])) := by
  have getH : ∀ (o : Nat) z, (H.map (dgO [p]))[o]? = some z → ∃ y, H[o]? = some y ∧ z = dgO [p] y := fun o z hz => by
    rw [List.getElem?_map] at hz
    cases hy : H[o]? with
    | none => rw [hy] at hz; cases hz
    | some y => rw [hy] at hz; exact ⟨y, rfl, by simpa using hz.symm⟩
  have hplt : p < H.length := (List.getElem?_eq_some_iff.1 hp).1
  refine ⟨h.ext.trans hext fun b hb => h.own b ⟨p, _, hp, hb⟩, fun b ⟨o, z, hz, hb⟩ => ?_, by simpa using h.len, fun o x ho ht => ?_, fun o x y ho ht hy => ?_⟩
  · obtain ⟨y, hy, rfl⟩ := getH o z hz
    replace hb := blk_dgO hb
    by_cases hop : o = p
    · subst hop
      rw [hp] at hy
      obtain rfl := Option.some.inj hy
      rw [updG_same] at hb
      rcases hblk b hb with q | q
      · exact h.own b ⟨o, _, hp, q⟩
      · exact .inr (Nat.le_trans h.ext.size q)
    · rw [updG_ne hop] at hb
      exact h.own b ⟨o, y, hy, hb⟩
  · have hne : o ≠ p := fun e' => by
      subst e'
      have := h.kind o x _ ho ht hp
      simp [isTok] at this
    rw [updG_ne hne]
    exact h.keep o x ho ht
  · obtain ⟨z, hz, rfl⟩ := getH o y hy
    rw [isTok_dgO]
    exact h.kind o x z ho ht hz

/-- the state with a new object: a slice's room -/
theorem St.newTok {C : Cx} {N : Nat} {M M' : Mem} {G : Nat → Value} {w w' : World} {env : Env} {H : Heap} {a : Act} (h : St C N M G w env H a) {dst : Option Nat} (hd : ∀ d, dst = some d → d < N) {e sz : Nat} {v' : Value} {x : A}
    (hext : Ext none' M w M' w') (hg : Good M' w') (hob : ObRel M' G w' (.tok e sz) v') (hblk : ∀ b, blk (.tok e sz) v' = some b → w.heap.size ≤ b)
    (hx : RelA M' (updG G H.length v') x v') :
    St C N M' (updG G H.length v') w' (put env dst x) (H ++ [.tok e sz]) (a.put dst v') := by
  have hh := h.hrel.ext hext (fun _ _ q => q)
  have hmono : ∀ {x : A} {v : Value}, RelA M' G x v → RelA M' (updG G H.length v') x v := fun hr => hr.mono (fun _ _ e => e) fun o hn => updG_ne (Nat.ne_of_lt (hh.lt hr hn))
  obtain ⟨h1, h2, h3⟩ := put_env (fun t => hmono ((h.env t).mono' hext.mono)) h.size hd hx
  refine ⟨hg, h.gl.ext h.hrel hext (fun _ h => h.elim), ⟨fun o x ho => ?_, fun o o' x x' b ho ho' hb hb' => ?_, fun o ho => ?_⟩, h1, h2, h3.trans h.defers⟩
  · rcases Nat.lt_trichotomy o H.length with hlt | rfl | hgt
    · rw [List.getElem?_append_left hlt] at ho
      rw [updG_ne (Nat.ne_of_lt hlt)]
      have hob := hh.obj o x ho
      cases x with
      | dead => trivial
      | row cells e =>
        obtain ⟨b, us, g1, g2, g3, g4, g5, g6⟩ := hob
        exact ⟨b, us, g1, g2, g3, g4, fun i y v a c => hmono (g5 i y v a c), g6⟩
      | bld o' e =>
        obtain ⟨b, v0, g1, g2, g3, g4, g5⟩ := hob
        have ho' : o' ≠ H.length := fun e => g4 (by rw [e]; exact hh.fresh _ (Nat.le_refl _))
        exact ⟨b, v0, g1, by rw [updG_ne ho']; exact g2, g3, by rw [updG_ne ho']; exact g4, g5⟩
      | buf e sz => exact hob
      | tok e sz => exact hob
      | map es =>
        obtain ⟨b, ms, cl, g1, g2, g3, g4, g5⟩ := hob
        exact ⟨b, ms, cl, g1, g2, g3, fun i k cs e a c => ⟨(g4 i k cs e a c).1, hmono (g4 i k cs e a c).2⟩, g5⟩
    · simp at ho
      subst ho
      rw [updG_same]
      exact hob
    · rw [List.getElem?_eq_none (by simp; omega)] at ho
      cases ho
  · have key : ∀ (o : Nat) x b, (H ++ [Ob.tok e sz])[o]? = some x → blk x (updG G H.length v' o) = some b → (o < H.length ∧ H[o]? = some x ∧ blk x (G o) = some b ∧ b < w.heap.size) ∨ (o = H.length ∧ w.heap.size ≤ b) := by
      intro o x b ho hb
      rcases Nat.lt_trichotomy o H.length with hlt | rfl | hgt
      · rw [List.getElem?_append_left hlt] at ho
        rw [updG_ne (Nat.ne_of_lt hlt)] at hb
        exact .inl ⟨hlt, ho, hb, blk_lt (h.hrel.obj o x ho) hb⟩
      · simp at ho
        subst ho
        rw [updG_same] at hb
        exact .inr ⟨rfl, hblk b hb⟩
      · rw [List.getElem?_eq_none (by simp; omega)] at ho
        cases ho
    rcases key o x b ho hb with ⟨q1, q2, q3, q4⟩ | ⟨q1, q2⟩ <;> rcases key o' x' b ho' hb' with ⟨p1, p2, p3, p4⟩ | ⟨p1, p2⟩
    · exact h.hrel.apart o o' x x' b q2 p2 q3 p3
    · omega
    · omega
    · omega
  · simp at ho
    rw [updG_ne (by omega)]
    exact h.hrel.fresh o (by omega)

theorem Since.newTok {fr : Fr} {M M' : Mem} {G : Nat → Value} {w w' : World} {H : Heap} (h : Since fr M G w H) {e sz : Nat} {v' : Value} (hext : Ext none' M w M' w') (hblk : ∀ b, blk (.tok e sz) v' = some b → w.heap.size ≤ b) :
    Since fr M' (updG G H.length v') w' (H ++ [.tok e sz]) := by
  refine ⟨h.ext.trans hext (fun _ h => h.elim), fun b hb => ?_, by simp; have := h.len; omega, fun o x ho ht => ?_, fun o x y ho ht hy => ?_⟩
  · obtain ⟨o, x, ho, hx⟩ := hb
    rcases Nat.lt_trichotomy o H.length with hlt | rfl | hgt
    · rw [List.getElem?_append_left hlt] at ho
      rw [updG_ne (Nat.ne_of_lt hlt)] at hx
      exact h.own b ⟨o, x, ho, hx⟩
    · simp at ho
      subst ho
      rw [updG_same] at hx
      exact .inr (Nat.le_trans h.ext.size (hblk b hx))
    · rw [List.getElem?_eq_none (by simp; omega)] at ho
      cases ho
  · have hlt : o < H.length := Nat.lt_of_lt_of_le (List.getElem?_eq_some_iff.1 ho).1 h.len
    rw [updG_ne (Nat.ne_of_lt hlt)]
    exact h.keep o x ho ht
  · have hlt : o < H.length := Nat.lt_of_lt_of_le (List.getElem?_eq_some_iff.1 ho).1 h.len
    rw [List.getElem?_append_left hlt] at hy
    exact h.kind o x y ho ht hy

/-! ### append of rows -/

def dgC (ps : List Nat) : List A → Option (List A)
  | [] => some []
  | x :: r => match frc (dg ps x), dgC ps r with | some y, some r' => some (y :: r') | _, _ => none

theorem dgC_eq {ps : List Nat} : ∀ {l l' : List A}, dgC ps l = some l' → l' = dgL ps l
  | [], l', h => by simp [dgC] at h; subst h; rfl
  | x :: r, l', h => by
    simp only [dgC] at h
    split at h
    · rename_i y r' hy hr
      simp only [Option.some.injEq] at h
      subst h
      rw [frc_eq hy, dgC_eq hr]
      rfl
    · cases h

def dgH (ps : List Nat) : Heap → Option Heap
  | [] => some []
  | .row cs e :: r => match dgC ps cs, dgH ps r with | some cs', some r' => some (.row cs' e :: r') | _, _ => none
  | .dead :: r => match dgH ps r with | some r' => some (.dead :: r') | none => none
  | .bld o e :: r => match dgH ps r with | some r' => some ((bif ps.contains o then .dead else .bld o e) :: r') | none => none
  | .buf e sz :: r => match dgH ps r with | some r' => some (.buf e sz :: r') | none => none
  | .tok e sz :: r => match dgH ps r with | some r' => some (.tok e sz :: r') | none => none
  | .map es :: r => match dgH ps r with | some r' => some (.map es :: r') | none => none

theorem dgH_eq {ps : List Nat} : ∀ {H H' : Heap}, dgH ps H = some H' → H' = H.map (dgO ps)
  | [], H', h => by simp [dgH] at h; subst h; rfl
  | .row cs e :: r, H', h => by
    simp only [dgH] at h
    split at h
    · rename_i cs' r' hc hr
      simp only [Option.some.injEq] at h
      subst h
      rw [dgC_eq hc, dgH_eq hr]
      rfl
    · cases h
  | .dead :: r, H', h => by
    simp only [dgH] at h
    split at h
    · rename_i r' hr
      simp only [Option.some.injEq] at h
      subst h
      rw [dgH_eq hr]; rfl
    · cases h
  | .bld o e :: r, H', h => by
    simp only [dgH] at h
    split at h
    · rename_i r' hr
      simp only [Option.some.injEq] at h
      subst h
      rw [dgH_eq hr]; rfl
    · cases h
  | .buf e sz :: r, H', h => by
    simp only [dgH] at h
    split at h
    · rename_i r' hr
      simp only [Option.some.injEq] at h
      subst h
      rw [dgH_eq hr]; rfl
    · cases h
  | .tok e sz :: r, H', h => by
    simp only [dgH] at h
    split at h
    · rename_i r' hr
      simp only [Option.some.injEq] at h
      subst h
      rw [dgH_eq hr]; rfl
    · cases h
  | .map es :: r, H', h => by
    simp only [dgH] at h
    split at h
    · rename_i r' hr
      simp only [Option.some.injEq] at h
      subst h
      rw [dgH_eq hr]; rfl
    · cases h

/-- what an append adds to and what it adds: the destination, the object (or none: a new one), its old rows, the new rows, the element's size and bytes, the heap behind -/
structure Ap where
  d : Option Nat
  p : Nat
  new : Bool
  rows : List Row
  news : List Row
  sz : Nat
  bytes : Nat
  H : Heap

def stepP (C : Cx) (L : List Oper) (o : Oper) (env : Env) (H : Heap) : Option Ap :=
  match wantedA L env o, o.op, dstF o with
  | some true, .call { callee := .builtin .append, args, argTypes }, some d =>
    match args.toList, argTypes.toList with
    | [x, y], [t, t'] => bif Nat.beq t t' then
      (match tget C.T t, rowsOf (ev C.GL env y) with
      | some it, some news => match it.u with
        | .sl e => match tget C.T e with
          | some ie => match ev C.GL env x with
            | .osl p rows => match nth H p with
              | some (.tok e' sz') => bif Nat.beq e e' && Nat.beq ie.size sz' then (match dgH [p] H with | some H' => some ⟨d, p, false, rows, news, ie.size, ie.bytes, H'⟩ | none => none) else none
              | _ => none
            | .full rows => match pushH H (.tok e ie.size) with
              | some (n, H') => some ⟨d, n, true, rows, news, ie.size, ie.bytes, H'⟩
              | none => none
            | _ => none
          | none => none
        | _ => none
      | _, _ => none) else none
    | _, _ => none
  | _, _, _ => none

theorem run_append_op {P : Program} {ρ : Operand → Value} {o : Oper} {x y : Operand} {t t' : TypeId} {args : Array Operand} {ts : Array TypeId} (ho : o.op = .call { callee := .builtin .append, args := args, argTypes := ts }) (ha : args.toList = [x, y]) (ht : ts.toList = [t, t']) {w w' : World} {v : Value}
    (h : (Builtin.append_ #[t, t'] o.type #[ρ x, ρ y]).run P w = .ok v w') : (execOp ρ o).run P w = .ok (.value v) w' := by
  obtain rfl : args = #[x, y] := by rw [← Array.toArray_toList (xs := args), ha]
  obtain rfl : ts = #[t, t'] := by rw [← Array.toArray_toList (xs := ts), ht]
  unfold execOp
  simp [ho, resolve, invoke, builtin, h]

theorem tok_of_full {M : Mem} {G : Nat → Value} {w : World} {rows : List Row} {v : Value} (h : RelD M (.sl rows) v) (hf : isFull v) (e sz : Nat) : ObRel M G w (.tok e sz) v ∧ ∀ b, blk (.tok e sz) v ≠ some b := by
  cases h with
  | slnil => exact ⟨.inl rfl, fun b hb => by simp [blk] at hb⟩
  | sl sz' vals hl hc hm hs hz h1 h2 =>
    rename_i a len cap
    have hf' : len = cap := hf
    subst hf'
    exact ⟨.inr ⟨a, len, len, rfl, hs, Nat.le_refl _, hm, fun hlt => absurd hlt (Nat.lt_irrefl _)⟩, fun b hb => by simp [blk] at hb⟩

theorem AOps.a {F : Fx} (hC : CxOk F.C) {L l : List Oper} {o : Oper} {env : Env} {H : Heap} {Q : Env → Heap → Prop} {d : Option Nat} {p : Nat} {nw : Bool} {rows news : List Row} {sz bytes : Nat} {H' : Heap}
    (h : stepP F.C L o env H = some ⟨d, p, nw, rows, news, sz, bytes, H'⟩) (h1 : ∀ r ∈ rows, r.length = sz) (h2 : ∀ r ∈ news, r.length = sz) (h3 : (rows.length + news.length) * (bytes + 1) ≤ 140737488355328)
    (k : AOps F L l (put (bif nw then env else fun t => dg [p] (env t)) d (.osl p (rows ++ news))) H' Q) : AOps F L (o :: l) env H Q := by
  unfold stepP at h
  split at h
  · rename_i args ts dd hw ho hd
    split at h
    · rename_i x y t t' ha ht
      cases hb : Nat.beq t t' with
      | false => rw [hb] at h; cases h
      | true =>
        rw [hb] at h
        obtain rfl := Nat.eq_of_beq_eq_true hb
        simp only [cond_true] at h
        split at h
        · rename_i it news' hit hnews
          split at h
          · rename_i e hu
            split at h
            · rename_i ie hie
              have hmem : x ∈ o.op.operands ∧ y ∈ o.op.operands := by
                rw [ho]
                obtain rfl : args = #[x, y] := by rw [← Array.toArray_toList (xs := args), ha]
                simp [Op.operands, Call.operands]
              have hlen : (rows.length + news.length) * bytes ≤ 140737488355328 ∧ rows.length + news.length ≤ maxLen := by
                have : (rows.length + news.length) * (bytes + 1) = (rows.length + news.length) * bytes + (rows.length + news.length) := Nat.mul_succ _ _
                unfold maxLen
                omega
              split at h
              · rename_i q rows' hx
                split at h
                · rename_i e' sz' hq
                  cases hbb : Nat.beq e e' && Nat.beq ie.size sz' with
                  | false => rw [hbb] at h; cases h
                  | true =>
                    rw [hbb] at h
                    simp only [Bool.and_eq_true] at hbb
                    obtain rfl := Nat.eq_of_beq_eq_true hbb.1
                    obtain rfl := Nat.eq_of_beq_eq_true hbb.2
                    simp only [cond_true] at h
                    split at h
                    · rename_i H2 hH
                      simp only [Option.some.injEq, Ap.mk.injEq] at h
                      obtain ⟨rfl, rfl, rfl, rfl, rfl, rfl, rfl, rfl⟩ := h
                      refine aops_step hw fun fr M G w a K Qw hK hdok hs hsi hk => ?_
                      have hxr := hs.eval x
                      rw [hx] at hxr
                      generalize hxv : a.eval x = xv at hxr
                      cases hxr
                      rename_i hgq hrd
                      rw [nth_eq] at hq
                      have htok : Tok M w e ie.size xv := by have := hs.hrel.obj _ _ hq; rw [hgq] at this; exact this
                      obtain ⟨v', w', M', r1, r2, r3, r4, r5, r6⟩ := append_core (ty := o.type) hC.tok hs.good hit hu hie hrd (rowsOf_rel hnews (hs.eval y)) htok h1 h2 hlen.1 hlen.2
                      unfold Oper.wp
                      rw [run_append_op ho ha ht (by rw [hxv]; exact r1)]
                      have e1 := dgH_eq hH
                      subst e1
                      rw [← hgq] at r5 r6
                      refine hk (.osl q (rows' ++ news')) (fun t => dg [q] (env t)) _ M' (updG G q v') w' v' ?_ (hs.turnTok (dstOk_spec hdok) hq r5 r4 r3 r6 (.osl r2 updG_same) rfl rfl) (hsi.turnTok hq r5 r6)
                      rw [dstF_eq hd]
                      exact k
                    · cases h
                · cases h
              · rename_i rows' hx
                split at h
                · rename_i n H2 hH
                  simp only [Option.some.injEq, Ap.mk.injEq] at h
                  obtain ⟨rfl, rfl, rfl, rfl, rfl, rfl, rfl, rfl⟩ := h
                  obtain ⟨rfl, rfl⟩ := pushH_eq hH
                  refine aops_step hw fun fr M G w a K Qw hK hdok hs hsi hk => ?_
                  have hxr := hs.eval x
                  rw [hx] at hxr
                  generalize hxv : a.eval x = xv at hxr
                  cases hxr
                  rename_i hfull hrd
                  obtain ⟨t1, t2⟩ := tok_of_full (G := fun _ => .tuple #[]) (w := w) hrd hfull e ie.size
                  obtain ⟨v', w', M', r1, r2, r3, r4, r5, r6⟩ := append_core (ty := o.type) hC.tok hs.good hit hu hie hrd (rowsOf_rel hnews (hs.eval y)) t1 h1 h2 hlen.1 hlen.2
                  unfold Oper.wp
                  rw [run_append_op ho ha ht (by rw [hxv]; exact r1)]
                  have r5' : Ext none' M w M' w' := r5.weaken fun b hb => absurd hb (t2 b)
                  have r6' : ∀ b, blk (.tok e ie.size) v' = some b → w.heap.size ≤ b := fun b hb => (r6 b hb).resolve_left (t2 b)
                  refine hk (.osl H.length (rows' ++ news')) env _ M' (updG G H.length v') w' v' ?_ (hs.newTok (dstOk_spec hdok) r5' r4 r3 r6' (.osl r2 updG_same)) (hsi.newTok r5' r6')
                  rw [dstF_eq hd]
                  exact k
                · cases h
              · cases h
            · cases h
          · cases h
        · cases h
    · cases h
  · cases h

/-! ### a slice that is full gets its room -/

end Go.Am

namespace Go.Am

/-- new immutable cells -/
theorem newData {M : Mem} {w : World} (hG : Good M w) (cs : Array Value) (e : TypeId) :
    ∃ M' : Mem, Good M' (w.alloc (.cells cs e)) ∧ Ext none' M w M' (w.alloc (.cells cs e)) ∧ ∀ (j : Nat) v, cs[j]? = some v → M' ⟨w.heap.size, j, none⟩ = some v := by
  refine ⟨fun ad => if ad.block = w.heap.size ∧ ad.spot = none then cs[ad.off]? else M ad, fun ad v hv => ?_, ⟨fun ad v hv => ?_, by simp, rfl, rfl, rfl, fun b hb _ => heap_alloc_old w _ b hb, fun ad v hv => ?_⟩, fun j v hv => ?_⟩
  · simp only at hv
    split at hv
    · rename_i hc
      obtain ⟨b, o, s⟩ := ad
      simp only at hc hv
      obtain ⟨rfl, rfl⟩ := hc
      exact ⟨rfl, by rw [cell_row (w := w.alloc (.cells cs e)) (heap_alloc_new w _)]; exact hv⟩
    · refine ⟨(hG ad v hv).1, ?_⟩
      rw [World.cell?_alloc_lt w _ ad (hG.lt hv)]
      exact (hG ad v hv).2
  · have := hG.lt hv
    show (if ad.block = w.heap.size ∧ ad.spot = none then cs[ad.off]? else M ad) = some v
    rw [if_neg (by omega)]
    exact hv
  · have hv : (if ad.block = w.heap.size ∧ ad.spot = none then cs[ad.off]? else M ad) = some v := hv
    split at hv
    · rename_i hc; exact .inr (.inr (by omega))
    · exact .inl hv
  · show (if w.heap.size = w.heap.size ∧ (none : Option Nat) = none then cs[j]? else M _) = some v
    rw [if_pos ⟨rfl, rfl⟩]
    exact hv

def toD : A → Option D
  | .d x => some x
  | .full r => some (.sl r)
  | .osl _ r => some (.sl r)
  | _ => none

theorem toD_rel {M : Mem} {G : Nat → Value} {x : A} {y : D} {v : Value} (h : toD x = some y) (hx : RelA M G x v) : RelD M y v := by
  unfold toD at h
  split at h
  · simp only [Option.some.injEq] at h; subst h; cases hx; assumption
  · simp only [Option.some.injEq] at h; subst h; cases hx; assumption
  · simp only [Option.some.injEq] at h; subst h; cases hx; assumption
  · cases h

def toDs : List A → Option (List D)
  | [] => some []
  | x :: r => match toD x, toDs r with | some y, some r' => some (y :: r') | _, _ => none

theorem toDs_get : ∀ {l : List A} {l' : List D}, toDs l = some l' → l'.length = l.length ∧ ∀ (i : Nat) y, l'[i]? = some y → ∃ x, l[i]? = some x ∧ toD x = some y
  | [], l', h => by simp [toDs] at h; subst h; exact ⟨rfl, fun i y h => by simp at h⟩
  | x :: r, l', h => by
    simp only [toDs] at h
    split at h
    · rename_i y r' hy hr
      simp only [Option.some.injEq] at h
      subst h
      obtain ⟨h1, h2⟩ := toDs_get hr
      refine ⟨by simp [h1], fun i z hz => ?_⟩
      cases i with
      | zero => simp at hz; subst hz; exact ⟨x, rfl, hy⟩
      | succ i => simpa using h2 i z (by simpa using hz)
    · cases h

def toRows (sz : Nat) : Nat → List A → Option (List Row)
  | 0, _ => some []
  | n + 1, l => match toDs (l.take sz), toRows sz n (l.drop sz) with | some r, some rs => bif Nat.beq r.length sz then some (r :: rs) else none | _, _ => none

theorem toRows_get {sz : Nat} : ∀ {n : Nat} {l : List A} {rs : List Row}, toRows sz n l = some rs → rs.length = n ∧ (∀ (i : Nat) r, rs[i]? = some r → r.length = sz) ∧ ∀ (i j : Nat) r y, rs[i]? = some r → r[j]? = some y → ∃ x, l[i * sz + j]? = some x ∧ toD x = some y
  | 0, l, rs, h => by simp [toRows] at h; subst h; exact ⟨rfl, fun i r h => by simp at h, fun i j r y h => by simp at h⟩
  | n + 1, l, rs, h => by
    simp only [toRows] at h
    split at h
    · rename_i r rs' hr hrs
      cases hb : Nat.beq r.length sz with
      | false => rw [hb] at h; cases h
      | true =>
        rw [hb] at h
        simp only [cond_true, Option.some.injEq] at h
        subst h
        have e := Nat.eq_of_beq_eq_true hb
        obtain ⟨h1, h2, h3⟩ := toRows_get hrs
        obtain ⟨g1, g2⟩ := toDs_get hr
        refine ⟨by simp [h1], fun i r' hi => ?_, fun i j r' y hi hj => ?_⟩
        · cases i with
          | zero => simp at hi; subst hi; exact e
          | succ i => exact h2 i r' (by simpa using hi)
        · cases i with
          | zero =>
            simp at hi
            subst hi
            obtain ⟨x, hx, hy⟩ := g2 j y hj
            rw [List.getElem?_take] at hx
            split at hx
            · exact ⟨x, by simpa using hx, hy⟩
            · cases hx
          | succ i =>
            obtain ⟨x, hx, hy⟩ := h3 i j r' y (by simpa using hi) hj
            rw [List.getElem?_drop] at hx
            exact ⟨x, by rw [← hx]; congr 1; rw [Nat.add_mul]; omega, hy⟩
    · cases h

/-- rows of data out of cells -/
theorem rel_rows {M : Mem} {G : Nat → Value} {w : World} (hG : Good M w) {e sz n : Nat} {l : List A} {cs : Array Value} {rs : List Row} (hc : CellsRel M G l cs) (h : toRows sz n l = some rs) (hn : n ≤ maxLen) :
    ∃ M', RelD M' (.sl rs) (.slice (some ⟨w.heap.size, 0, none⟩) n n) ∧ Good M' (w.alloc (.cells cs e)) ∧ Ext none' M w M' (w.alloc (.cells cs e)) := by
  obtain ⟨M', h1, h2, h3⟩ := newData hG cs e
  obtain ⟨g1, g2, g3⟩ := toRows_get h
  have hget : ∀ (i j : Nat) r y, rs[i]? = some r → r[j]? = some y → ∃ v, cs[i * sz + j]? = some v ∧ RelD M y v := fun i j r y hi hj => by
    obtain ⟨x, hx, hy⟩ := g3 i j r y hi hj
    have hlt : i * sz + j < cs.size := by rw [← hc.1]; exact (List.getElem?_eq_some_iff.1 hx).1
    exact ⟨cs[i * sz + j], Array.getElem?_eq_getElem hlt, toD_rel hy (hc.2.2 _ x _ hx (Array.getElem?_eq_getElem hlt))⟩
  refine ⟨M', .sl sz (fun i j => (cs[i * sz + j]?).getD undef) g1 (Nat.le_refl _) hn (.inr rfl) g2 (fun i j r y hi hj => ?_) fun i j r y hi hj => ?_, h1, h2⟩
  · obtain ⟨v, hv, _⟩ := hget i j r y hi hj
    rw [addr_add_lit, hv, Nat.zero_add]
    exact h3 _ v hv
  · obtain ⟨v, hv, hr⟩ := hget i j r y hi hj
    rw [hv]
    exact hr.mono h2.mono

/-- a slice of data that is built: its rows -/
def stepB (C : Cx) (L : List Oper) (o : Oper) (env : Env) : Option (Option Nat × List Row) :=
  match wantedA L env o, o.op, dstF o with
  | some true, .buildSlice t len parts, some d => match tget C.T t with
    | some i => match i.u with
      | .sl e => match tget C.T e with
        | some j => bif Nat.ble len 65536 && Nat.ble j.size 64 then (match fillA (fun i => some (i * j.size, j.size)) (List.replicate (len * j.size) .junk) (parts.toList.map fun p => (p.1, ev C.GL env p.2)) with
          | some out => match toRows j.size len out with | some rs => some (d, rs) | none => none
          | none => none) else none
        | none => none
      | _ => none
    | none => none
  | _, _, _ => none

theorem run_zeros {P : Program} {T : TT} (hT : TOk P T) {e : Nat} {j : TI} (he : tget T e = some j) (len : Nat) (w : World) :
    ∃ z : Array Value, ((len * j.size = 0 ∧ z = #[]) ∨ (¬ len * j.size = 0 ∧ ∃ v, (zeroValue e).run P w = .ok v w ∧ z = v.cells)) ∧ ((Array.range (len * j.size)).map (z[· % z.size]!)).size = len * j.size ∧ ∀ (i : Nat) v, ((Array.range (len * j.size)).map (z[· % z.size]!))[i]? = some v → v.oneCell' = true := by
  by_cases h0 : len * j.size = 0
  · refine ⟨#[], .inl ⟨h0, rfl⟩, by simp, fun i v hv => ?_⟩
    rw [h0] at hv
    simp at hv
  · obtain ⟨z, h1, h2, _⟩ := cells_zero (M := fun _ => none) (G := fun _ => undef) hT he
    refine ⟨z.cells, .inr ⟨h0, z, h1 w, rfl⟩, by simp, fun i v hv => ?_⟩
    have hpos := (hT.facts he).pos
    have hlen := (hT.facts he).len
    have hzs : z.cells.size = j.size := by have := h2.1; simp at this; omega
    rw [Array.getElem?_map] at hv
    cases hr : (Array.range (len * j.size))[i]? with
    | none => rw [hr] at hv; cases hv
    | some k =>
      rw [hr] at hv
      simp only [Option.map_some, Option.some.injEq] at hv
      subst hv
      have hlt : k % z.cells.size < z.cells.size := Nat.mod_lt _ (by omega)
      rw [getElem!_pos z.cells (k % z.cells.size) hlt]
      exact h2.2.1 _ _ (Array.getElem?_eq_getElem hlt)

theorem stepB_spec {C : Cx} {L : List Oper} {o : Oper} {env : Env} {d : Option Nat} {rs : List Row} (h : stepB C L o env = some (d, rs)) : wantedA L env o = some true ∧ dstF o = some d := by
  unfold stepB at h
  split at h
  · rename_i t len parts dd hw ho hd
    split at h
    · split at h
      · split at h
        · rename_i j hj
          cases hb : Nat.ble len 65536 && Nat.ble j.size 64 with
          | false => rw [hb] at h; cases h
          | true =>
            rw [hb] at h
            simp only [cond_true] at h
            split at h
            · split at h
              · simp only [Option.some.injEq, Prod.mk.injEq] at h
                exact ⟨hw, by rw [hd, h.1]⟩
              · cases h
            · cases h
        · cases h
      · cases h
    · cases h
  · cases h

theorem yields_build {C : Cx} (hC : CxOk C) {L : List Oper} {o : Oper} {env : Env} {H : Heap} {d : Option Nat} {rs : List Row} (h : stepB C L o env = some (d, rs)) : Yields C o env H (.full rs) := by
  intro M G w a next Qw hρ hG hgl hH hk
  unfold stepB at h
  split at h
  · rename_i t len parts dd hw ho hd
    rw [ho] at hρ
    split at h
    · rename_i i ht
      split at h
      · rename_i e hu
        split at h
        · rename_i j hj
          cases hb : Nat.ble len 65536 && Nat.ble j.size 64 with
          | false => rw [hb] at h; cases h
          | true =>
            rw [hb] at h
            simp only [Bool.and_eq_true] at hb
            have b1 := Nat.le_of_ble_eq_true hb.1
            have b2 := Nat.le_of_ble_eq_true hb.2
            simp only [cond_true] at h
            split at h
            · rename_i out hout
              split at h
              · rename_i rs' hrs
                simp only [Option.some.injEq, Prod.mk.injEq] at h
                obtain ⟨rfl, rfl⟩ := h
                have hd := under_sl (hC.tok.facts ht) hu
                obtain ⟨z, hz, hzs, hz1⟩ := run_zeros hC.tok hj len w
                obtain ⟨ws, f1, f2⟩ := fillA_ok (M := M) (G := G) (vs := (Array.range (len * j.size)).map (z[· % z.size]!)) (vals := (parts.map fun (p : Nat × Operand) => (p.1, a.eval p.2)).toList) ⟨by rw [hzs]; simp, hz1, fun i x v hx hv => by
                    rw [List.getElem?_replicate] at hx
                    split at hx
                    · simp only [Option.some.injEq] at hx; subst hx; exact .junk
                    · cases hx⟩ (by simp) (fun i p q hp hq => by
                    rw [List.getElem?_map] at hp
                    rw [Array.getElem?_toList, Array.getElem?_map] at hq
                    cases hpi : parts[i]? with
                    | none => rw [hpi] at hq; cases hq
                    | some r =>
                      rw [Array.getElem?_toList, hpi] at hp
                      rw [hpi] at hq
                      simp only [Option.map_some, Option.some.injEq] at hp hq
                      subst hp; subst hq
                      refine ⟨rfl, hρ _ ?_⟩
                      simp only [Op.operands, List.mem_toArray, List.mem_map, Array.mem_toList_iff]
                      exact ⟨r, Array.mem_of_getElem? hpi, rfl⟩) hout
                obtain ⟨M', g1, g2, g3⟩ := rel_rows (e := e) hG f2 hrs (by unfold maxLen; omega)
                have hnot : ¬ len * j.size > 2 ^ 24 := by
                  have : len * j.size ≤ 65536 * 64 := Nat.mul_le_mul b1 b2
                  have e24 : (2 : Nat) ^ 24 = 16777216 := by decide
                  omega
                have hrun : (Instr.buildSlice t len (parts.map fun (p : Nat × Operand) => (p.1, a.eval p.2))).run C.P w = .ok (.slice (some ⟨w.heap.size, 0, none⟩) len len) (w.alloc (.cells ws e)) := by
                  simp only [Instr.buildSlice, Sem.run_bind, run_underlying hd, Result.andThen_ok, sizeOf_of (hC.tok.facts hj) w]
                  rw [if_neg hnot]
                  rcases hz with ⟨h0, rfl⟩ | ⟨h0, v, hv, rfl⟩
                  · rw [if_pos h0]
                    simp only [Sem.run_bind, Sem.run_pure, Result.andThen_ok, f1]
                    simp [newRow]
                  · rw [if_neg h0]
                    simp only [Sem.run_bind, Sem.run_pure, Result.andThen_ok, hv, f1]
                    simp [newRow]
                unfold Oper.wp execOp
                simp only [ho, Sem.run_bind, hrun, Result.andThen_ok, Sem.run_pure, Oper.upon_value]
                exact hk _ M' _ (.full g1 rfl) g2 g3
              · cases h
            · cases h
        · cases h
      · cases h
    · cases h
  · cases h

theorem AOps.b {F : Fx} (hC : CxOk F.C) {L l : List Oper} {o : Oper} {env : Env} {H : Heap} {Q : Env → Heap → Prop} {d : Option Nat} {rs : List Row} (h : stepB F.C L o env = some (d, rs)) (k : AOps F L l (put env d (.full rs)) H Q) : AOps F L (o :: l) env H Q := by
  obtain ⟨h1, h2⟩ := stepB_spec h
  refine .yields h1 (yields_build hC h) ?_
  rw [dstF_eq h2]
  exact k

theorem AQ.b {C : Cx} (hC : CxOk C) {L l : List Oper} {o : Oper} {env : Env} {H : Heap} {Q : Env → Prop} {d : Option Nat} {rs : List Row} (h : stepB C L o env = some (d, rs)) (k : AQ C L l (put env d (.full rs)) H Q) : AQ C L (o :: l) env H Q :=
  .y _ (stepB_spec h).2 (stepB_spec h).1 (yields_build hC h) k

end Go.Am

namespace Go.Am

theorem upd_self {env : Env} {t : Nat} {x : A} (h : env t = x) : upd env t x = env := by
  funext i
  unfold upd
  cases hb : Nat.beq i t with
  | true => obtain rfl := Nat.eq_of_beq_eq_true hb; exact h.symm
  | false => rfl

theorem AOps.split {F : Fx} {L l : List Oper} {env : Env} {H : Heap} {Q : Env → Heap → Prop} {b : Bool} (t : Nat) (hb : env t = .d (.bool b)) (h1 : b = true → AOps F L l (upd env t (.d (.bool true))) H Q) (h2 : b = false → AOps F L l (upd env t (.d (.bool false))) H Q) : AOps F L l env H Q := by
  cases b with
  | true => have := h1 rfl; rwa [upd_self hb] at this
  | false => have := h2 rfl; rwa [upd_self hb] at this
theorem AQ.split {C : Cx} {L l : List Oper} {env : Env} {H : Heap} {Q : Env → Prop} {b : Bool} (t : Nat) (hb : env t = .d (.bool b)) (h1 : b = true → AQ C L l (upd env t (.d (.bool true))) H Q) (h2 : b = false → AQ C L l (upd env t (.d (.bool false))) H Q) : AQ C L l env H Q := by
  cases b with
  | true => have := h1 rfl; rwa [upd_self hb] at this
  | false => have := h2 rfl; rwa [upd_self hb] at this

/-! ### a byte of a string -/

def stepX (C : Cx) (L : List Oper) (o : Oper) (env : Env) : Option (Option Nat × List UInt8 × Int) :=
  match wantedA L env o, o.op with
  | some true, .index t x y => match tget C.T t, ev C.GL env x, ev C.GL env y, dstF o with
    | some i, .d (.str s), .d (.int _ n), some d => match i.u with
      | .str => some (d, s, n)
      | _ => none
    | _, _, _, _ => none
  | _, _ => none

theorem stepX_spec {C : Cx} {L : List Oper} {o : Oper} {env : Env} {d : Option Nat} {s : List UInt8} {n : Int} (h : stepX C L o env = some (d, s, n)) : wantedA L env o = some true ∧ dstF o = some d := by
  unfold stepX at h
  split at h
  · rename_i t x y hw ho
    split at h
    · rename_i i s' k m d' ht hx hy hd
      split at h
      · simp only [Option.some.injEq, Prod.mk.injEq] at h
        exact ⟨hw, by rw [hd, h.1]⟩
      · cases h
    · cases h
  · cases h

theorem yields_byte {C : Cx} (hC : CxOk C) {L : List Oper} {o : Oper} {env : Env} {H : Heap} {d : Option Nat} {s : List UInt8} {n : Int} (h : stepX C L o env = some (d, s, n)) {k : Nat} {b : UInt8} (hn : n = k) (hk : s[k]? = some b) : Yields C o env H (.d (.int .u8 b.toNat)) := by
  intro M G w a next Qw hρ hG hgl hH hkk
  unfold stepX at h
  split at h
  · rename_i t x y hw ho
    rw [ho] at hρ
    split at h
    · rename_i i s' kd m d' ht hx hy hd
      split at h
      · rename_i hu
        simp only [Option.some.injEq, Prod.mk.injEq] at h
        obtain ⟨rfl, rfl, rfl⟩ := h
        have hxr := hρ x (by simp [Op.operands])
        have hyr := hρ y (by simp [Op.operands])
        rw [hx] at hxr
        rw [hy] at hyr
        generalize hxv : a.eval x = xv at hxr
        generalize hyv : a.eval y = yv at hyr
        cases hxr; rename_i hxr; cases hxr
        cases hyr; rename_i hyr; cases hyr
        have hd := under_str (hC.tok.facts ht) hu
        have hlt : k < s'.length := (List.getElem?_eq_some_iff.1 hk).1
        have hget : (⟨s'.toArray⟩ : ByteArray)[m.toNat]? = some b := by
          have e : m.toNat = k := by omega
          rw [e, getElem?_pos (⟨s'.toArray⟩ : ByteArray) k (by rw [size_mk]; exact hlt)]
          have := (List.getElem?_eq_some_iff.1 hk).2
          simpa [ByteArray.getElem_eq_getElem_data] using this
        unfold Oper.wp execOp
        have : (Instr.index t (.string ⟨s'.toArray⟩) (.int kd m)).run C.P w = .ok (.int .u8 b.toNat) w := by
          have hm : 0 ≤ m := by omega
          simp [Instr.index, asInt_ok, run_underlying hd, hm, hget]
        simp only [ho, hxv, hyv, Sem.run_bind, this, Result.andThen_ok, Sem.run_pure, Oper.upon_value]
        exact hkk _ M w (.d (.int (by rw [inK_u8]; have := b.toNat_lt; omega))) hG (Ext.refl _ _ _)
      · cases h
    · cases h
  · cases h

theorem AOps.x {F : Fx} (hC : CxOk F.C) {L l : List Oper} {o : Oper} {env : Env} {H : Heap} {Q : Env → Heap → Prop} {d : Option Nat} {s : List UInt8} {n : Int} (h : stepX F.C L o env = some (d, s, n)) {k : Nat} {b : UInt8} (hn : n = k) (hk : s[k]? = some b)
    (kk : AOps F L l (put env d (.d (.int .u8 b.toNat))) H Q) : AOps F L (o :: l) env H Q := by
  obtain ⟨h1, h2⟩ := stepX_spec h
  refine .yields h1 (yields_byte hC h hn hk) ?_
  rw [dstF_eq h2]
  exact kk
theorem AQ.x {C : Cx} (hC : CxOk C) {L l : List Oper} {o : Oper} {env : Env} {H : Heap} {Q : Env → Prop} {d : Option Nat} {s : List UInt8} {n : Int} (h : stepX C L o env = some (d, s, n)) {k : Nat} {b : UInt8} (hn : n = k) (hk : s[k]? = some b)
    (kk : AQ C L l (put env d (.d (.int .u8 b.toNat))) H Q) : AQ C L (o :: l) env H Q := .y _ (stepX_spec h).2 (stepX_spec h).1 (yields_byte hC h hn hk) kk

/-! ### parts -/

/-- a bound of a part, and where there is none -/
def bnd (GL : GT) (env : Env) (x : Option Operand) (dflt : Int) : Option Int :=
  match x with
  | none => some dflt
  | some y => match ev GL env y with | .d (.int _ n) => some n | _ => none

theorem bnd_ok {M : Mem} {G : Nat → Value} {GL : GT} {env : Env} {a : Act} {x : Option Operand} {dflt n : Int} (h : bnd GL env x dflt = some n) (hρ : ∀ y, x = some y → RelA M G (ev GL env y) (a.eval y)) :
    (x = none ∧ n = dflt) ∨ ∃ y k, x = some y ∧ a.eval y = .int k n := by
  unfold bnd at h
  split at h
  · simp only [Option.some.injEq] at h; exact .inl ⟨rfl, h.symm⟩
  · rename_i y
    split at h
    · rename_i k m hy
      simp only [Option.some.injEq] at h
      subst h
      have hr := hρ y rfl
      rw [hy] at hr
      generalize hv : a.eval y = v at hr
      cases hr; rename_i hr; cases hr
      exact .inr ⟨y, k, rfl, hv⟩
    · cases h

def stepL (C : Cx) (L : List Oper) (o : Oper) (env : Env) : Option (Option Nat × List UInt8 × Int × Int) :=
  match wantedA L env o, o.op with
  | some true, .slice t x lo hi none => match tget C.T t, ev C.GL env x, dstF o with
    | some i, .d (.str s), some d => match i.u, bnd C.GL env lo 0, bnd C.GL env hi (s.length : Nat) with
      | .str, some l, some h => some (d, s, l, h)
      | _, _, _ => none
    | _, _, _ => none
  | _, _ => none

theorem stepL_spec {C : Cx} {L : List Oper} {o : Oper} {env : Env} {r : Option Nat × List UInt8 × Int × Int} (h : stepL C L o env = some r) : wantedA L env o = some true ∧ dstF o = some r.1 := by
  unfold stepL at h
  split at h
  · rename_i t x lo hi hw ho
    split at h
    · rename_i i s' d' ht hx hd
      split at h
      · simp only [Option.some.injEq] at h
        subst h
        exact ⟨hw, hd⟩
      · cases h
    · cases h
  · cases h

theorem run_bounds {P : Program} {w : World} {isSl : Bool} {len cap l h : Nat} {lo hi : Option Value} (h1 : lo = none ∧ l = 0 ∨ ∃ k, lo = some (.int k (l : Int))) (h2 : hi = none ∧ h = len ∨ ∃ k, hi = some (.int k (h : Int))) (hle : l ≤ h) (hc : h ≤ cap) :
    (Instr.sliceBounds isSl len cap lo hi none).run P w = .ok (l, h, cap) w := by
  have b : ∀ (k : IntKind) (n y : Nat) (c : BoundsCode), n ≤ y → (Instr.sliceBound (.int k (n : Int)) y c).run P w = .ok n w := fun k n y c hy => by
    simp [Instr.sliceBound, asInt_ok, hy]
  rcases h1 with ⟨rfl, rfl⟩ | ⟨k, rfl⟩ <;> rcases h2 with ⟨rfl, rfl⟩ | ⟨k', rfl⟩ <;> simp [Instr.sliceBounds, b _ _ _ _ hle, b _ _ _ _ hc]

theorem bnd_val {a : Act} {x : Option Operand} {dflt n : Int} {l dl : Nat} (h : (x = none ∧ n = dflt) ∨ ∃ y k, x = some y ∧ a.eval y = .int k n) (hl : n = l) (hd : dflt = dl) : (x.map a.eval = none ∧ l = dl) ∨ ∃ k, x.map a.eval = some (.int k (l : Int)) := by
  rcases h with ⟨rfl, rfl⟩ | ⟨y, k, rfl, e⟩
  · exact .inl ⟨rfl, by omega⟩
  · exact .inr ⟨k, by simp [e, hl]⟩

theorem extract_mk (s : List UInt8) (l h : Nat) : (⟨s.toArray⟩ : ByteArray).extract l h = ⟨((s.take h).drop l).toArray⟩ := by
  apply ByteArray.ext
  rw [ByteArray.data_extract]
  simp [List.extract_toArray, List.drop_take]

theorem yields_part {C : Cx} (hC : CxOk C) {L : List Oper} {o : Oper} {env : Env} {H : Heap} {d : Option Nat} {s : List UInt8} {lo hi : Int} (h : stepL C L o env = some (d, s, lo, hi)) {l r : Nat} (hl : lo = l) (hr : hi = r) (hlr : l ≤ r) (hrs : r ≤ s.length) :
    Yields C o env H (.d (.str ((s.take r).drop l))) := by
  intro M G w a next Qw hρ hG hgl hH hkk
  unfold stepL at h
  split at h
  · rename_i t x lo' hi' hw ho
    rw [ho] at hρ
    split at h
    · rename_i i s' d' ht hx hd
      split at h
      · rename_i l' h' hu hbl hbh
        simp only [Option.some.injEq, Prod.mk.injEq] at h
        obtain ⟨rfl, rfl, rfl, rfl⟩ := h
        have hxr := hρ x (by simp [Op.operands])
        rw [hx] at hxr
        generalize hxv : a.eval x = xv at hxr
        cases hxr; rename_i hxr; cases hxr
        rename_i hsl
        have hd := under_str (hC.tok.facts ht) hu
        have e1 := bnd_val (bnd_ok hbl fun y hy => hρ y (by subst hy; simp [Op.operands])) hl rfl
        have e2 := bnd_val (bnd_ok hbh fun y hy => hρ y (by subst hy; simp [Op.operands])) hr rfl
        have : (Instr.sliceAt t (.string ⟨s'.toArray⟩) (lo'.map a.eval) (hi'.map a.eval) none).run C.P w = .ok (.string ⟨((s'.take r).drop l).toArray⟩) w := by
          have hb := run_bounds (P := C.P) (w := w) (isSl := false) (cap := s'.length) e1 e2 hlr hrs
          simp [Instr.sliceAt, Instr.slice, run_underlying hd, size_mk, hb, extract_mk s' l r]
        unfold Oper.wp execOp
        simp only [ho, hxv, Option.map_none, Sem.run_bind, this, Result.andThen_ok, Sem.run_pure, Oper.upon_value]
        exact hkk _ M w (.d (.str (by simp; omega))) hG (Ext.refl _ _ _)
      · cases h
    · cases h
  · cases h

theorem AOps.l {F : Fx} (hC : CxOk F.C) {L l : List Oper} {o : Oper} {env : Env} {H : Heap} {Q : Env → Heap → Prop} {d : Option Nat} {s : List UInt8} {lo hi : Int} (h : stepL F.C L o env = some (d, s, lo, hi)) {p r : Nat} (hl : lo = p) (hr : hi = r) (hlr : p ≤ r) (hrs : r ≤ s.length)
    (kk : AOps F L l (put env d (.d (.str ((s.take r).drop p)))) H Q) : AOps F L (o :: l) env H Q := by
  obtain ⟨h1, h2⟩ := stepL_spec h
  refine .yields h1 (yields_part hC h hl hr hlr hrs) ?_
  rw [dstF_eq h2]
  exact kk
theorem AQ.l {C : Cx} (hC : CxOk C) {L l : List Oper} {o : Oper} {env : Env} {H : Heap} {Q : Env → Prop} {d : Option Nat} {s : List UInt8} {lo hi : Int} (h : stepL C L o env = some (d, s, lo, hi)) {p r : Nat} (hl : lo = p) (hr : hi = r) (hlr : p ≤ r) (hrs : r ≤ s.length)
    (kk : AQ C L l (put env d (.d (.str ((s.take r).drop p)))) H Q) : AQ C L (o :: l) env H Q := .y _ (stepL_spec h).2 (stepL_spec h).1 (yields_part hC h hl hr hlr hrs) kk

/-- a part of a slice of data -/
def stepD (C : Cx) (L : List Oper) (o : Oper) (env : Env) : Option (Option Nat × List Row × Int × Int × Nat) :=
  match wantedA L env o, o.op with
  | some true, .slice t x lo hi none => match tget C.T t, rowsOf (ev C.GL env x), dstF o with
    | some i, some rows, some d => match i.u, bnd C.GL env lo 0, bnd C.GL env hi (rows.length : Nat) with
      | .sl e, some l, some h => match tget C.T e with | some j => some (d, rows, l, h, j.size) | none => none
      | _, _, _ => none
    | _, _, _ => none
  | _, _ => none

theorem stepD_spec {C : Cx} {L : List Oper} {o : Oper} {env : Env} {r : Option Nat × List Row × Int × Int × Nat} (h : stepD C L o env = some r) : wantedA L env o = some true ∧ dstF o = some r.1 := by
  unfold stepD at h
  split at h
  · rename_i t x lo hi hw ho
    split at h
    · rename_i i s' d' ht hx hd
      split at h
      · split at h
        · simp only [Option.some.injEq] at h
          subst h
          exact ⟨hw, hd⟩
        · cases h
      · cases h
    · cases h
  · cases h

theorem relD_part {M : Mem} {rows : List Row} {a : Addr} {len cap : Nat} (h : RelD M (.sl rows) (.slice (some a) len cap)) {sz l r : Nat} (hsz : ∀ x ∈ rows, x.length = sz) (hlr : l ≤ r) (hr : r ≤ rows.length) :
    RelD M (.sl ((rows.take r).drop l)) (.slice (some (if cap = l then a else a.add (l * sz))) (r - l) (cap - l)) := by
  cases h with
  | sl sz' vals hl hc hm hs hz h1 h2 =>
    by_cases he : cap = l
    · have : l = r := by omega
      subst this
      rw [if_pos he, show (rows.take l).drop l = [] by simp]
      exact .sl 0 (fun _ _ => undef) (by simp) (by omega) (by omega) (.inl (by omega)) (fun i r h => by simp at h) (fun i j r x h => by simp at h) (fun i j r x h => by simp at h)
    · rw [if_neg he]
      have hget : ∀ (i : Nat) x, ((rows.take r).drop l)[i]? = some x → rows[l + i]? = some x := fun i x hx => by
        rw [List.getElem?_drop, List.getElem?_take] at hx
        split at hx
        · exact hx
        · cases hx
      have hzz : ∀ (i : Nat) x, ((rows.take r).drop l)[i]? = some x → sz' = sz := fun i x hx => by
        have e1 := hz _ x (hget i x hx)
        have e2 := hsz x (List.mem_of_getElem? (hget i x hx))
        omega
      refine .sl sz (fun i j => vals (l + i) j) (by simp; omega) (by omega) (by omega) (.inr (by rw [addr_add_none (hs.resolve_left (by omega))])) (fun i x hx => by have := hzz i x hx; have := hz _ x (hget i x hx); omega) (fun i j x y hx hy => ?_) fun i j x y hx hy => h2 _ j x y (hget i x hx) hy
      have := h1 _ j x y (hget i x hx) hy
      rw [addr_add_add]
      rw [hzz i x hx] at this
      rwa [show l * sz + (i * sz + j) = (l + i) * sz + j by rw [Nat.add_mul]; omega]

theorem yields_sub {C : Cx} (hC : CxOk C) {L : List Oper} {o : Oper} {env : Env} {H : Heap} {d : Option Nat} {rows : List Row} {lo hi : Int} {sz : Nat} (h : stepD C L o env = some (d, rows, lo, hi, sz)) {l r : Nat} (hl : lo = l) (hr : hi = r) (hlr : l ≤ r) (hrs : r ≤ rows.length)
    (hsz : ∀ x ∈ rows, x.length = sz) : Yields C o env H (.d (.sl ((rows.take r).drop l))) := by
  intro M G w a next Qw hρ hG hgl hH hkk
  unfold stepD at h
  split at h
  · rename_i t x lo' hi' hw ho
    rw [ho] at hρ
    split at h
    · rename_i i rows' d' ht hx hd
      split at h
      · rename_i e l' h' hu hbl hbh
        split at h
        · rename_i j hj
          simp only [Option.some.injEq, Prod.mk.injEq] at h
          obtain ⟨rfl, rfl, rfl, rfl, rfl⟩ := h
          have hxr := rowsOf_rel hx (hρ x (by simp [Op.operands]))
          generalize hxv : a.eval x = xv at hxr
          have hd := under_sl (hC.tok.facts ht) hu
          have e1 := bnd_val (bnd_ok hbl fun y hy => hρ y (by subst hy; simp [Op.operands])) hl rfl
          have e2 := bnd_val (bnd_ok hbh fun y hy => hρ y (by subst hy; simp [Op.operands])) hr rfl
          obtain ⟨ad, cap, rfl, hcap, hrel⟩ : ∃ ad cap, xv = .slice ad rows'.length cap ∧ rows'.length ≤ cap ∧ RelD M (.sl ((rows'.take r).drop l)) (.slice (if cap = l then ad else ad.map (·.add (l * j.size))) (r - l) (cap - l)) := by
            cases hxr with
            | slnil =>
              simp at hrs
              obtain rfl : r = 0 := hrs
              obtain rfl : l = 0 := by omega
              exact ⟨none, 0, rfl, Nat.le_refl _, by simpa using RelD.slnil⟩
            | sl sz vals hl' hc hm hs hz h1 h2 =>
              rename_i ad len cap
              subst hl'
              refine ⟨some ad, cap, rfl, hc, ?_⟩
              have := relD_part (.sl sz vals rfl hc hm hs hz h1 h2) hsz hlr hrs
              by_cases he : cap = l
              · rw [if_pos he] at this ⊢; exact this
              · rw [if_neg he] at this ⊢; exact this
          have : (Instr.sliceAt t (.slice ad rows'.length cap) (lo'.map a.eval) (hi'.map a.eval) none).run C.P w = .ok (.slice (if cap = l then ad else ad.map (·.add (l * j.size))) (r - l) (cap - l)) w := by
            have hb := run_bounds (P := C.P) (w := w) (isSl := true) (len := rows'.length) (cap := cap) e1 e2 hlr (by omega)
            simp [Instr.sliceAt, Instr.slice, run_underlying hd, hb, sizeOf_of (hC.tok.facts hj) w]
          unfold Oper.wp execOp
          simp only [ho, hxv, Option.map_none, Sem.run_bind, this, Result.andThen_ok, Sem.run_pure, Oper.upon_value]
          exact hkk _ M w (.d hrel) hG (Ext.refl _ _ _)
        · cases h
      · cases h
    · cases h
  · cases h

theorem AOps.d {F : Fx} (hC : CxOk F.C) {L l : List Oper} {o : Oper} {env : Env} {H : Heap} {Q : Env → Heap → Prop} {d : Option Nat} {rows : List Row} {lo hi : Int} {sz : Nat} (h : stepD F.C L o env = some (d, rows, lo, hi, sz)) {p r : Nat} (hl : lo = p) (hr : hi = r) (hlr : p ≤ r) (hrs : r ≤ rows.length)
    (hsz : ∀ x ∈ rows, x.length = sz) (kk : AOps F L l (put env d (.d (.sl ((rows.take r).drop p)))) H Q) : AOps F L (o :: l) env H Q := by
  obtain ⟨h1, h2⟩ := stepD_spec h
  refine .yields h1 (yields_sub hC h hl hr hlr hrs hsz) ?_
  rw [dstF_eq h2]
  exact kk
theorem AQ.d {C : Cx} (hC : CxOk C) {L l : List Oper} {o : Oper} {env : Env} {H : Heap} {Q : Env → Prop} {d : Option Nat} {rows : List Row} {lo hi : Int} {sz : Nat} (h : stepD C L o env = some (d, rows, lo, hi, sz)) {p r : Nat} (hl : lo = p) (hr : hi = r) (hlr : p ≤ r) (hrs : r ≤ rows.length)
    (hsz : ∀ x ∈ rows, x.length = sz) (kk : AQ C L l (put env d (.d (.sl ((rows.take r).drop p)))) H Q) : AQ C L (o :: l) env H Q := .y _ (stepD_spec h).2 (stepD_spec h).1 (yields_sub hC h hl hr hlr hrs hsz) kk

/-- the part of no elements and no room -/
def stepE (C : Cx) (L : List Oper) (o : Oper) (env : Env) : Option (Option Nat) :=
  match wantedA L env o, o.op with
  | some true, .slice t x none (some (.const (.int _ 0))) (some (.const (.int _ 0))) => match tget C.T t, rowsOf (ev C.GL env x), dstF o with
    | some i, some _, some d => match i.u with
      | .sl e => match tget C.T e with | some _ => some d | none => none
      | _ => none
    | _, _, _ => none
  | _, _ => none

theorem stepE_spec {C : Cx} {L : List Oper} {o : Oper} {env : Env} {d : Option Nat} (h : stepE C L o env = some d) : wantedA L env o = some true ∧ dstF o = some d := by
  unfold stepE at h
  split at h
  · rename_i t x k k' hw ho
    split at h
    · rename_i i rows d' ht hx hd
      split at h
      · split at h
        · simp only [Option.some.injEq] at h
          subst h
          exact ⟨hw, hd⟩
        · cases h
      · cases h
    · cases h
  · cases h

theorem yields_none {C : Cx} (hC : CxOk C) {L : List Oper} {o : Oper} {env : Env} {H : Heap} {d : Option Nat} (h : stepE C L o env = some d) : Yields C o env H (.full []) := by
  intro M G w a next Qw hρ hG hgl hH hkk
  unfold stepE at h
  split at h
  · rename_i t x k k' hw ho
    rw [ho] at hρ
    split at h
    · rename_i i rows' d' ht hx hd
      split at h
      · rename_i e hu
        split at h
        · rename_i j hj
          have hxr := rowsOf_rel hx (hρ x (by simp [Op.operands]))
          generalize hxv : a.eval x = xv at hxr
          have hd := under_sl (hC.tok.facts ht) hu
          obtain ⟨ad, cap, rfl⟩ : ∃ ad cap, xv = .slice ad rows'.length cap := by
            cases hxr with
            | slnil => exact ⟨none, 0, rfl⟩
            | sl sz vals hl' hc hm hs hz h1 h2 =>
              rename_i ad len cap
              subst hl'
              exact ⟨some ad, cap, rfl⟩
          have : (Instr.sliceAt t (.slice ad rows'.length cap) none (some (.int k 0)) (some (.int k' 0))).run C.P w = .ok (.slice ad 0 0) w := by
            have b : ∀ (k : IntKind) (y : Nat) (c : BoundsCode), (Instr.sliceBound (.int k 0) y c).run C.P w = .ok 0 w := fun k y c => by simp [Instr.sliceBound, asInt_ok]
            simp [Instr.sliceAt, Instr.slice, run_underlying hd, Instr.sliceBounds, b, sizeOf_of (hC.tok.facts hj) w]
          unfold Oper.wp execOp
          have ec : ∀ v, a.eval (.const v) = v := fun _ => rfl
          simp only [ho, hxv, Option.map_none, Option.map_some, ec, Sem.run_bind, this, Result.andThen_ok, Sem.run_pure, Oper.upon_value]
          refine hkk _ M w ?_ hG (Ext.refl _ _ _)
          cases ad with
          | none => exact .full .slnil trivial
          | some z => exact .full (.sl 0 (fun _ _ => undef) rfl (Nat.le_refl _) (by unfold maxLen; omega) (.inl rfl) (fun i r h => by simp at h) (fun i j r x h => by simp at h) (fun i j r x h => by simp at h)) rfl
        · cases h
      · cases h
    · cases h
  · cases h

theorem AOps.e {F : Fx} (hC : CxOk F.C) {L l : List Oper} {o : Oper} {env : Env} {H : Heap} {Q : Env → Heap → Prop} {d : Option Nat} (h : stepE F.C L o env = some d) (kk : AOps F L l (put env d (.full [])) H Q) : AOps F L (o :: l) env H Q := by
  obtain ⟨h1, h2⟩ := stepE_spec h
  refine .yields h1 (yields_none hC h) ?_
  rw [dstF_eq h2]
  exact kk

end Go.Am

namespace Go.Am

/-- the state with a new object -/
theorem St.newOb {C : Cx} {N : Nat} {M M' : Mem} {G : Nat → Value} {w w' : World} {env : Env} {H : Heap} {a : Act} (h : St C N M G w env H a) {dst : Option Nat} (hd : ∀ d, dst = some d → d < N) {ob : Ob} {v' v : Value} {x : A}
    (hext : Ext none' M w M' w') (hg : Good M' w') (hob : ∀ G, ObRel M' G w' ob v') (hblk : ∀ b, blk ob v' = some b → w.heap.size ≤ b)
    (hx : RelA M' (updG G H.length v') x v) :
    St C N M' (updG G H.length v') w' (put env dst x) (H ++ [ob]) (a.put dst v) := by
  have hh := h.hrel.ext hext (fun _ _ q => q)
  have hmono : ∀ {x : A} {v : Value}, RelA M' G x v → RelA M' (updG G H.length v') x v := fun hr => hr.mono (fun _ _ e => e) fun o hn => updG_ne (Nat.ne_of_lt (hh.lt hr hn))
  obtain ⟨h1, h2, h3⟩ := put_env (fun t => hmono ((h.env t).mono' hext.mono)) h.size hd hx
  refine ⟨hg, h.gl.ext h.hrel hext (fun _ h => h.elim), ⟨fun o x ho => ?_, fun o o' x x' b ho ho' hb hb' => ?_, fun o ho => ?_⟩, h1, h2, h3.trans h.defers⟩
  · rcases Nat.lt_trichotomy o H.length with hlt | rfl | hgt
    · rw [List.getElem?_append_left hlt] at ho
      rw [updG_ne (Nat.ne_of_lt hlt)]
      have hob := hh.obj o x ho
      cases x with
      | dead => trivial
      | row cells e =>
        obtain ⟨b, us, g1, g2, g3, g4, g5, g6⟩ := hob
        exact ⟨b, us, g1, g2, g3, g4, fun i y v a c => hmono (g5 i y v a c), g6⟩
      | bld o' e =>
        obtain ⟨b, v0, g1, g2, g3, g4, g5⟩ := hob
        have ho' : o' ≠ H.length := fun e => g4 (by rw [e]; exact hh.fresh _ (Nat.le_refl _))
        exact ⟨b, v0, g1, by rw [updG_ne ho']; exact g2, g3, by rw [updG_ne ho']; exact g4, g5⟩
      | buf e sz => exact hob
      | tok e sz => exact hob
      | map es =>
        obtain ⟨b, ms, cl, g1, g2, g3, g4, g5⟩ := hob
        exact ⟨b, ms, cl, g1, g2, g3, fun i k cs e a c => ⟨(g4 i k cs e a c).1, hmono (g4 i k cs e a c).2⟩, g5⟩
    · simp at ho
      subst ho
      rw [updG_same]
      exact hob _
    · rw [List.getElem?_eq_none (by simp; omega)] at ho
      cases ho
  · have key : ∀ (o : Nat) x b, (H ++ [ob])[o]? = some x → blk x (updG G H.length v' o) = some b → (o < H.length ∧ H[o]? = some x ∧ blk x (G o) = some b ∧ b < w.heap.size) ∨ (o = H.length ∧ w.heap.size ≤ b) := by
      intro o x b ho hb
      rcases Nat.lt_trichotomy o H.length with hlt | rfl | hgt
      · rw [List.getElem?_append_left hlt] at ho
        rw [updG_ne (Nat.ne_of_lt hlt)] at hb
        exact .inl ⟨hlt, ho, hb, blk_lt (h.hrel.obj o x ho) hb⟩
      · simp at ho
        subst ho
        rw [updG_same] at hb
        exact .inr ⟨rfl, hblk b hb⟩
      · rw [List.getElem?_eq_none (by simp; omega)] at ho
        cases ho
    rcases key o x b ho hb with ⟨q1, q2, q3, q4⟩ | ⟨q1, q2⟩ <;> rcases key o' x' b ho' hb' with ⟨p1, p2, p3, p4⟩ | ⟨p1, p2⟩
    · exact h.hrel.apart o o' x x' b q2 p2 q3 p3
    · omega
    · omega
    · omega
  · simp at ho
    rw [updG_ne (by omega)]
    exact h.hrel.fresh o (by omega)

theorem Since.newOb {fr : Fr} {M M' : Mem} {G : Nat → Value} {w w' : World} {H : Heap} (h : Since fr M G w H) {ob : Ob} {v' : Value} (hext : Ext none' M w M' w') (hblk : ∀ b, blk ob v' = some b → w.heap.size ≤ b) :
    Since fr M' (updG G H.length v') w' (H ++ [ob]) := by
  refine ⟨h.ext.trans hext (fun _ h => h.elim), fun b hb => ?_, by simp; have := h.len; omega, fun o x ho ht => ?_, fun o x y ho ht hy => ?_⟩
  · obtain ⟨o, x, ho, hx⟩ := hb
    rcases Nat.lt_trichotomy o H.length with hlt | rfl | hgt
    · rw [List.getElem?_append_left hlt] at ho
      rw [updG_ne (Nat.ne_of_lt hlt)] at hx
      exact h.own b ⟨o, x, ho, hx⟩
    · simp at ho
      subst ho
      rw [updG_same] at hx
      exact .inr (Nat.le_trans h.ext.size (hblk b hx))
    · rw [List.getElem?_eq_none (by simp; omega)] at ho
      cases ho
  · have hlt : o < H.length := Nat.lt_of_lt_of_le (List.getElem?_eq_some_iff.1 ho).1 h.len
    rw [updG_ne (Nat.ne_of_lt hlt)]
    exact h.keep o x ho ht
  · have hlt : o < H.length := Nat.lt_of_lt_of_le (List.getElem?_eq_some_iff.1 ho).1 h.len
    rw [List.getElem?_append_left hlt] at hy
    exact h.kind o x y ho ht hy

/-- the state where an object has turned, its place the same -/
theorem St.setOb {C : Cx} {N : Nat} {M : Mem} {G : Nat → Value} {w w' : World} {env : Env} {H : Heap} {a : Act} (h : St C N M G w env H a) {dst : Option Nat} (hd : ∀ d, dst = some d → d < N) {p b : Nat} {x x' : Ob}
    (hp : H[p]? = some x) (hb : blk x (G p) = some b) (hb' : blk x' (G p) = some b) (hext : Ext (fun c => c = b) M w M w') (hM : ∀ off sp, M ⟨b, off, sp⟩ = none) (hob : ObRel M G w' x' (G p)) {y : A} {v : Value} (hy : RelA M G y v) :
    St C N M G w' (put env dst y) (hset H p x') (a.put dst v) := by
  have hlt : p < H.length := (List.getElem?_eq_some_iff.1 hp).1
  obtain ⟨h1, h2, h3⟩ := put_env h.env h.size hd hy
  refine ⟨h.good.ext hext (fun ad u e hk => ?_), h.gl.ext h.hrel hext (fun c hc => by subst hc; exact ⟨p, _, hp, hb⟩), ⟨fun i z hi => ?_, fun i i' z z' c hi hi' hx hx' => ?_, fun i hi => h.hrel.fresh i (by rw [hset_len] at hi; exact hi)⟩, h1, h2, h3.trans h.defers⟩
  · obtain ⟨bb, oo, ss⟩ := ad
    have hk' : bb = b := hk
    subst hk'
    rw [hM] at e
    cases e
  · rw [hset_get H p _ i hlt] at hi
    split at hi
    · rename_i e
      subst e
      simp only [Option.some.injEq] at hi
      subst hi
      exact hob
    · rename_i hne
      have hoz := h.hrel.obj i z hi
      exact hoz.keep (fun _ _ e => e) (fun c hcb => hext.block c (blk_lt hoz hcb) fun e => hne (h.hrel.apart i p z _ b hi hp (e ▸ hcb) hb)) (fun _ _ _ _ e => e)
  · have key : ∀ (n : Nat) z d, (hset H p x')[n]? = some z → blk z (G n) = some d → ∃ y, H[n]? = some y ∧ blk y (G n) = some d := by
      intro n z d hn hz
      rw [hset_get H p _ n hlt] at hn
      by_cases e : n = p
      · rw [if_pos e] at hn
        subst e
        obtain rfl := Option.some.inj hn
        exact ⟨_, hp, by rw [hb, ← hb', hz]⟩
      · rw [if_neg e] at hn
        exact ⟨z, hn, hz⟩
    obtain ⟨y, hy, hby⟩ := key i z c hi hx
    obtain ⟨y', hy', hby'⟩ := key i' z' c hi' hx'
    exact h.hrel.apart i i' y y' c hy hy' hby hby'

theorem Since.setOb {fr : Fr} {M : Mem} {G : Nat → Value} {w w' : World} {H : Heap} (h : Since fr M G w H) {p b : Nat} {x x' : Ob}
    (hp : H[p]? = some x) (hb : blk x (G p) = some b) (hb' : blk x' (G p) = some b) (ht' : isTok x' = false) (hext : Ext (fun c => c = b) M w M w') : Since fr M G w' (hset H p x') := by
  have hlt : p < H.length := (List.getElem?_eq_some_iff.1 hp).1
  have hown : Go.Am.own G H b := ⟨p, _, hp, hb⟩
  refine ⟨h.ext.trans hext (fun x hx => by subst hx; exact h.own _ hown), fun c hc => ?_, by rw [hset_len]; exact h.len, h.keep, fun i z y hi ht hy => ?_⟩
  · obtain ⟨i, z, hi, hx⟩ := hc
    rw [hset_get H p _ i hlt] at hi
    by_cases e : i = p
    · rw [if_pos e] at hi
      subst e
      obtain rfl := Option.some.inj hi
      rw [hb'] at hx
      obtain rfl := Option.some.inj hx
      exact h.own _ hown
    · rw [if_neg e] at hi
      exact h.own c ⟨i, z, hi, hx⟩
  · rw [hset_get H p _ i hlt] at hy
    by_cases e : i = p
    · rw [if_pos e] at hy
      obtain rfl := Option.some.inj hy
      exact ht'
    · rw [if_neg e] at hy
      exact h.kind i z y hi ht hy

/-! ### maps -/

def mget (k : List UInt8) : List (List UInt8 × Row) → Option Row
  | [] => none
  | (k', cs) :: r => bif k == k' then some cs else mget k r

def mput (k : List UInt8) (cs : Row) : List (List UInt8 × Row) → List (List UInt8 × Row)
  | [] => [(k, cs)]
  | (k', cs') :: r => bif k == k' then (k, cs) :: r else (k', cs') :: mput k cs r

theorem mk_eq {a b : List UInt8} : ((⟨a.toArray⟩ : ByteArray) == ⟨b.toArray⟩) = (a == b) := by
  show (a.toArray == b.toArray) = (a == b)
  simp

theorem findNow_ok {k : List UInt8} : ∀ {es : List (List UInt8 × Row)} {ms : List MapEntry} {i : Nat}, ms.length = es.length → (∀ (n : Nat) k' cs e, es[n]? = some (k', cs) → ms[n]? = some e → e.key = .string ⟨k'.toArray⟩) →
    (mget k es = none ∧ Instr.findNow .string (.string ⟨k.toArray⟩) ms i = some none ∧ ∀ cs, mput k cs es = es ++ [(k, cs)]) ∨
    ∃ n cs e, es[n]? = some (k, cs) ∧ mget k es = some cs ∧ ms[n]? = some e ∧ Instr.findNow .string (.string ⟨k.toArray⟩) ms i = some (some (i + n, e.val)) ∧ ∀ cs', mput k cs' es = es.set n (k, cs')
  | [], [], i, _, _ => .inl ⟨rfl, rfl, fun _ => rfl⟩
  | (k', cs) :: es, m :: ms, i, hl, hk => by
    have hm := hk 0 k' cs m rfl rfl
    simp only [Instr.findNow, hm, Instr.sameNow, mget, mput, mk_eq]
    cases hb : k == k' with
    | true =>
      obtain rfl := beq_iff_eq.1 hb
      exact .inr ⟨0, cs, m, rfl, rfl, rfl, rfl, fun _ => rfl⟩
    | false =>
      simp only [cond_false]
      rcases findNow_ok (k := k) (es := es) (ms := ms) (i := i + 1) (by simpa using hl) (fun n k' cs e a b => hk (n + 1) k' cs e (by simpa using a) (by simpa using b)) with ⟨h1, h2, h3⟩ | ⟨n, cs', e, h1, h2, h3, h4, h5⟩
      · exact .inl ⟨h1, h2, fun cs' => by rw [h3]; rfl⟩
      · exact .inr ⟨n + 1, cs', e, by simpa using h1, h2, by simpa using h3, by rw [h4]; congr 3; omega, fun c => by rw [h5]; rfl⟩
  | [], _ :: _, _, hl, _ => by simp at hl
  | _ :: _, [], _, hl, _ => by simp at hl

def zeroA (i : TI) : A := bif i.u.agg then .agg (i.zero.map .d) else (match nth i.zero 0 with | some x => .d x | none => .junk)

/-- a lookup: the map, the key, whether it says so, the zero -/
structure Lk where
  d : Option Nat
  es : List (List UInt8 × Row)
  k : List UInt8
  ok : Bool
  z : A

def stepM (C : Cx) (L : List Oper) (o : Oper) (env : Env) (H : Heap) : Option Lk :=
  match wantedA L env o, o.op, dstF o with
  | some true, .lookup t x y ok, some d => match tget C.T t, ev C.GL env x, ev C.GL env y with
    | some i, .mp p, .d (.str k) => match i.u, nth H p with
      | .map kt et, some (.map es) => match tget C.T kt, tget C.T et with
        | some ki, some ei => match ki.u, frc (zeroA ei) with
          | .str, some z => some ⟨d, es, k, ok, z⟩
          | _, _ => none
        | _, _ => none
      | _, _ => none
    | _, _, _ => none
  | _, _, _ => none

def lkA (r : Option Row) (z : A) (ok : Bool) : A :=
  match r, ok with
  | some cs, true => .tup [rowA cs, .d (.bool true)]
  | none, true => .tup [z, .d (.bool false)]
  | some cs, false => rowA cs
  | none, false => z

theorem run_check_str {P : Program} {w : World} {kt : Nat} (h : P.underlying kt = some .string) (b : Bool) (s : ByteArray) : (Instr.checkKey b 10000 kt (.string s)).run P w = .ok () w := by
  have key : ∀ n, (Instr.checkKey b (n + 1) kt (.string s)).run P w = .ok () w := fun n => by simp [Instr.checkKey, run_underlying h]
  exact key 9999

theorem run_getMap {P : Program} {w : World} {b : Nat} {ms : Array MapEntry} {cl : Nat} (h : w.heap[b]? = some (.map ms cl)) : (getObj b).run P w = .ok (.map ms cl) w := by
  simp [getObj, Sem.run, h]

theorem zeroA_rel {P : Program} {T : TT} (hT : TOk P T) {t : Nat} {i : TI} (ht : tget T t = some i) (M : Mem) (G : Nat → Value) : ∃ z, (∀ w, (zeroValue t).run P w = .ok z w) ∧ RelA M G (zeroA i) z := by
  obtain ⟨z, h1, h2, h3⟩ := cells_zero (M := M) (G := G) hT ht
  refine ⟨z, h1, ?_⟩
  unfold zeroA
  cases hg : i.u.agg with
  | true =>
    rw [hg] at h3
    simp only [if_true] at h3
    obtain ⟨cs, rfl⟩ := h3
    exact .agg (by simpa [Value.cells] using h2.1) (fun n v hv => h2.2.1 n v hv) fun n x v hx hv => h2.2.2 n x v hx hv
  | false =>
    rw [hg] at h3
    simp only [Bool.false_eq_true, if_false] at h3
    simp only [cond_false, nth_eq]
    split
    · rename_i x hx
      exact h2.2.2 0 _ z (by rw [List.getElem?_map, hx]; rfl) (by rw [h3]; rfl)
    · exact .junk

theorem stepM_spec {C : Cx} {L : List Oper} {o : Oper} {env : Env} {H : Heap} {r : Lk} (h : stepM C L o env H = some r) : wantedA L env o = some true ∧ dstF o = some r.d := by
  unfold stepM at h
  split at h
  · rename_i t x y ok d hw ho hd
    split at h
    · split at h
      · split at h
        · split at h
          · simp only [Option.some.injEq] at h
            subst h
            exact ⟨hw, hd⟩
          · cases h
        · cases h
      · cases h
    · cases h
  · cases h

theorem yields_lookup {C : Cx} (hC : CxOk C) {L : List Oper} {o : Oper} {env : Env} {H : Heap} {d : Option Nat} {es : List (List UInt8 × Row)} {k : List UInt8} {ok : Bool} {z : A} (h : stepM C L o env H = some ⟨d, es, k, ok, z⟩) {r : Option Row} (hr : mget k es = r) : Yields C o env H (lkA r z ok) := by
  intro M G w a next Qw hρ hG hgl hH hkk
  subst hr
  unfold stepM at h
  split at h
  · rename_i t x y ok' d' hw ho hd
    rw [ho] at hρ
    split at h
    · rename_i i p k' ht hx hy
      split at h
      · rename_i kt et es' hu hp
        split at h
        · rename_i ki ei hki hei
          split at h
          · rename_i z' hku hz
            simp only [Option.some.injEq, Lk.mk.injEq] at h
            obtain ⟨rfl, rfl, rfl, rfl, rfl⟩ := h
            have hz' := frc_eq hz
            subst hz'
            have hxr := hρ x (by simp [Op.operands])
            have hyr := hρ y (by simp [Op.operands])
            rw [hx] at hxr
            rw [hy] at hyr
            generalize hxv : a.eval x = xv at hxr
            generalize hyv : a.eval y = yv at hyr
            cases hxr; rename_i b hgb
            cases hyr; rename_i hyr; cases hyr
            rename_i hkl
            rw [nth_eq] at hp
            obtain ⟨b', ms, cl, g1, g2, g3, g4, g5⟩ := hH.obj p _ hp
            rw [hgb] at g1
            simp at g1
            subst g1
            have hd := under_map (hC.tok.facts ht) hu
            have hkd := under_str (hC.tok.facts hki) hku
            obtain ⟨zv, hzr, hzrel⟩ := zeroA_rel hC.tok hei M G
            have hkeys : ∀ (n : Nat) k' cs e, es'[n]? = some (k', cs) → ms.toList[n]? = some e → e.key = .string ⟨k'.toArray⟩ := fun n k' cs e a b => by
              have := (g4 n k' cs e a (by simpa using b)).1
              generalize e.key = ek at this
              cases this; rfl
            have key : ∃ v, (Instr.lookup t (.map (some b)) (.string ⟨k'.toArray⟩) ok').run C.P w = .ok v w ∧ RelA M G (lkA (mget k' es') (zeroA ei) ok') v := by
              rcases findNow_ok (k := k') (i := 0) (by simpa using g3) hkeys with ⟨h1, h2, _⟩ | ⟨n, cs, e, h1, h2, h3, h4, _⟩
              · refine ⟨if ok' then .tuple #[zv, .bool false] else zv, ?_, ?_⟩
                · simp [Instr.lookup, run_underlying hd, run_getMap g2, run_check_str hkd, Instr.findKey, run_underlying hkd, h2, hzr w]
                · rw [h1]
                  cases ok' with
                  | false => simpa [lkA] using hzrel
                  | true =>
                    refine .tup rfl fun i x v hx hv => ?_
                    match i with
                    | 0 => simp at hx hv; subst hx; subst hv; exact hzrel
                    | 1 => simp at hx hv; subst hx; subst hv; exact .d .bool
                    | _ + 2 => simp at hx
              · have hev := (g4 n k' cs e h1 (by simpa using h3)).2
                refine ⟨if ok' then .tuple #[e.val, .bool true] else e.val, ?_, ?_⟩
                · simp [Instr.lookup, run_underlying hd, run_getMap g2, run_check_str hkd, Instr.findKey, run_underlying hkd, h4]
                · rw [h2]
                  cases ok' with
                  | false => simpa [lkA] using hev
                  | true =>
                    refine .tup rfl fun i x v hx hv => ?_
                    match i with
                    | 0 => simp at hx hv; subst hx; subst hv; exact hev
                    | 1 => simp at hx hv; subst hx; subst hv; exact .d .bool
                    | _ + 2 => simp at hx
            obtain ⟨v, hv, hrel⟩ := key
            unfold Oper.wp execOp
            simp only [ho, hxv, hyv, Sem.run_bind, hv, Result.andThen_ok, Sem.run_pure, Oper.upon_value]
            exact hkk _ M w hrel hG (Ext.refl _ _ _)
          · cases h
        · cases h
      · cases h
    · cases h
  · cases h

theorem AOps.m {F : Fx} (hC : CxOk F.C) {L l : List Oper} {o : Oper} {env : Env} {H : Heap} {Q : Env → Heap → Prop} {d : Option Nat} {es : List (List UInt8 × Row)} {k : List UInt8} {ok : Bool} {z : A} (h : stepM F.C L o env H = some ⟨d, es, k, ok, z⟩) {r : Option Row} (hr : mget k es = r)
    (kk : AOps F L l (put env d (lkA r z ok)) H Q) : AOps F L (o :: l) env H Q := by
  obtain ⟨h1, h2⟩ := stepM_spec h
  refine .yields h1 (yields_lookup hC h hr) ?_
  rw [dstF_eq h2]
  exact kk

/-- a new map -/
def stepW (L : List Oper) (o : Oper) (env : Env) (H : Heap) : Option (Option Nat × Nat × Heap) :=
  match wantedA L env o, o.op, dstF o with
  | some true, .makeMap _ none, some d => match pushH H (.map []) with | some (n, H') => some (d, n, H') | none => none
  | _, _, _ => none

theorem AOps.w {F : Fx} {L l : List Oper} {o : Oper} {env : Env} {H H' : Heap} {Q : Env → Heap → Prop} {d : Option Nat} {n : Nat} (h : stepW L o env H = some (d, n, H')) (k : AOps F L l (put env d (.mp n)) H' Q) : AOps F L (o :: l) env H Q := by
  unfold stepW at h
  split at h
  · rename_i t d' hw ho hd
    split at h
    · rename_i n' H2 hp
      simp only [Option.some.injEq, Prod.mk.injEq] at h
      obtain ⟨rfl, rfl, rfl⟩ := h
      obtain ⟨rfl, rfl⟩ := pushH_eq hp
      refine aops_step hw fun fr M G w a K Qw hK hdok hs hsi hk => ?_
      have hr : (execOp a.eval o).run F.C.P w = .ok (.value (.map (some w.heap.size))) (w.alloc (.map #[] 0)) := by
        unfold execOp
        simp only [ho, Instr.makeMap]
        rfl
      have hg : Good M (w.alloc (.map #[] 0)) := hs.good.alloc _
      unfold Oper.wp
      rw [hr]
      have hob : ∀ G, ObRel M G (w.alloc (.map #[] 0)) (.map []) (.map (some w.heap.size)) := fun G => ⟨w.heap.size, #[], 0, rfl, heap_alloc_new w _, rfl, fun i k cs e h => by simp at h, fun i e h => by simp at h⟩
      have hb : ∀ b, blk (.map []) (.map (some w.heap.size)) = some b → w.heap.size ≤ b := fun b hb => by simp [blk] at hb; omega
      refine hk (.mp H.length) env _ M (updG G H.length (.map (some w.heap.size))) _ _ ?_ (hs.newOb (dstOk_spec hdok) (ext_alloc none' M w _) hg hob hb (.mp updG_same)) (hsi.newOb (ext_alloc none' M w _) hb)
      rw [dstF_eq hd]
      exact k
    · cases h
  · cases h

/-- a value as a row of data -/
def valRow : A → Option Row
  | .agg cs => match toDs cs with
    | some [_] => none
    | some r => some r
    | none => none
  | x => match toD x with | some y => some [y] | none => none

theorem valRow_rel {M : Mem} {G : Nat → Value} {x : A} {r : Row} {v : Value} (h : valRow x = some r) (hx : RelA M G x v) : RelA M G (rowA r) v := by
  have single : ∀ y, toD x = some y → RelA M G (rowA [y]) v := fun y hy => .d (toD_rel hy hx)
  unfold valRow at h
  split at h
  · rename_i cs
    split at h
    · cases h
    · rename_i r' hne hr
      simp only [Option.some.injEq] at h
      subst h
      obtain ⟨l1, l2⟩ := toDs_get hr
      have e : rowA r' = .agg (r'.map .d) := by
        match r', hne with
        | [], _ => rfl
        | [x], hne => exact absurd rfl (hne x)
        | _ :: _ :: _, _ => rfl
      rw [e]
      cases hx with
      | agg hl h1 h =>
        refine .agg (by simp; omega) h1 fun i y u hy hu => ?_
        rw [List.getElem?_map] at hy
        cases hz : r'[i]? with
        | none => rw [hz] at hy; cases hy
        | some z =>
          rw [hz] at hy
          simp only [Option.map_some, Option.some.injEq] at hy
          subst hy
          obtain ⟨q, hq, hqz⟩ := l2 i z hz
          exact .d (toD_rel hqz (h i q u hq hu))
    · cases h
  · split at h
    · rename_i y hy
      simp only [Option.some.injEq] at h
      subst h
      exact single y hy
    · cases h

/-- a map takes a row: the heap behind -/
def stepU (C : Cx) (L : List Oper) (o : Oper) (env : Env) (H : Heap) : Option Heap :=
  match wantedA L env o, o.op, o.dst with
  | some true, .mapUpdate t x y z, none => match tget C.T t, ev C.GL env x, ev C.GL env y, valRow (ev C.GL env z) with
    | some i, .mp p, .d (.str k), some cs => match i.u, nth H p with
      | .map kt _, some (.map es) => match tget C.T kt with
        | some ki => match ki.u with
          | .str => hsetF H p (.map (mput k cs es))
          | _ => none
        | none => none
      | _, _ => none
    | _, _, _, _ => none
  | _, _, _ => none

theorem AOps.u {F : Fx} (hC : CxOk F.C) {L l : List Oper} {o : Oper} {env : Env} {H H' : Heap} {Q : Env → Heap → Prop} (h : stepU F.C L o env H = some H') (k : AOps F L l env H' Q) : AOps F L (o :: l) env H Q := by
  unfold stepU at h
  split at h
  · rename_i t x y z hw ho hdst
    split at h
    · rename_i i p kk cs ht hx hy hz
      split at h
      · rename_i kt et es hu hp
        split at h
        · rename_i ki hki
          split at h
          · rename_i hku
            have e1 := hsetF_eq h
            subst e1
            refine aops_step hw fun fr M G w a K Qw hK hdok hs hsi hk => ?_
            have hxr := hs.eval x
            have hyr := hs.eval y
            have hzr := valRow_rel hz (hs.eval z)
            rw [hx] at hxr
            rw [hy] at hyr
            generalize hxv : a.eval x = xv at hxr
            generalize hyv : a.eval y = yv at hyr
            generalize hzv : a.eval z = zv at hzr
            cases hxr; rename_i b hgb
            cases hyr; rename_i hyr; cases hyr
            rename_i hkl
            rw [nth_eq] at hp
            obtain ⟨b', ms, cl, g1, g2, g3, g4, g5⟩ := hs.hrel.obj p _ hp
            rw [hgb] at g1
            simp at g1
            subst g1
            have hd := under_map (hC.tok.facts ht) hu
            have hkd := under_str (hC.tok.facts hki) hku
            have hblt : b < w.heap.size := (Array.getElem?_eq_some_iff.1 g2).1
            have hkeys : ∀ (n : Nat) k' cs e, es[n]? = some (k', cs) → ms.toList[n]? = some e → e.key = .string ⟨k'.toArray⟩ := fun n k' cs e a b => by
              have := (g4 n k' cs e a (by simpa using b)).1
              generalize e.key = ek at this
              cases this; rfl
            have hMb : ∀ off sp, M ⟨b, off, sp⟩ = none := fun off sp => by
              cases hM : M ⟨b, off, sp⟩ with
              | none => rfl
              | some u =>
                have := (hs.good _ _ hM)
                have h2 := this.2
                simp [World.cell?, g2] at h2
            -- the world behind
            have key : ∃ ms' cl', (Instr.mapUpdate t (.map (some b)) (.string ⟨kk.toArray⟩) zv).run F.C.P w = .ok () { w with heap := w.heap.setIfInBounds b (.map ms' cl') } ∧ ms'.size = (mput kk cs es).length ∧
                (∀ (i : Nat) k' cs' e, (mput kk cs es)[i]? = some (k', cs') → ms'[i]? = some e → RelD M (.str k') e.key ∧ RelA M G (rowA cs') e.val) ∧ ∀ (i : Nat) e, ms'[i]? = some e → e.born < cl' := by
              have hset : ∀ o', (setObj b o').run F.C.P w = .ok () { w with heap := w.heap.setIfInBounds b o' } := fun o' => by simp [setObj, Sem.run, g2]
              rcases findNow_ok (k := kk) (i := 0) (by simpa using g3) hkeys with ⟨h1, h2, h3⟩ | ⟨n, cs0, e, h1, h2, h3, h4, h5⟩
              · refine ⟨ms.push ⟨.string ⟨kk.toArray⟩, zv, cl⟩, cl + 1, ?_, by rw [h3]; simp [g3], fun i k' cs' e hi he => ?_, fun i e he => ?_⟩
                · simp [Instr.mapUpdate, run_underlying hd, run_getMap g2, run_check_str hkd, Instr.findKey, run_underlying hkd, h2, hset]
                · rw [h3] at hi
                  rw [Array.getElem?_push] at he
                  split at he
                  · rename_i hie
                    simp only [Option.some.injEq] at he
                    subst he
                    rw [List.getElem?_append_right (by omega)] at hi
                    have : i - es.length = 0 := by omega
                    rw [this] at hi
                    simp at hi
                    obtain ⟨rfl, rfl⟩ := hi
                    exact ⟨.str hkl, hzr⟩
                  · rename_i hie
                    have hlt : i < ms.size := by have := (Array.getElem?_eq_some_iff.1 he).1; omega
                    rw [List.getElem?_append_left (by omega)] at hi
                    exact g4 i k' cs' e hi he
                · rw [Array.getElem?_push] at he
                  split at he
                  · simp only [Option.some.injEq] at he; subst he; simp
                  · have := g5 i e he; omega
              · have hn : n < ms.size := by simpa using (List.getElem?_eq_some_iff.1 h3).1
                have hmn : ms[n]? = some e := by simpa using h3
                have hke : e.key = .string ⟨kk.toArray⟩ := hkeys n kk cs0 e h1 h3
                have hst : ∀ w, (Instr.keyThatStays (.string ⟨kk.toArray⟩) (.string ⟨kk.toArray⟩)).run F.C.P w = .ok (.string ⟨kk.toArray⟩) w := fun w => by
                  have : Instr.sameBits 10000 (.string ⟨kk.toArray⟩) (.string ⟨kk.toArray⟩) = true := by
                    show ((⟨kk.toArray⟩ : ByteArray) == ⟨kk.toArray⟩) = true
                    rw [mk_eq]
                    simp
                  simp [Instr.keyThatStays, this]
                refine ⟨ms.modify n fun e => { e with key := .string ⟨kk.toArray⟩, val := zv }, cl, ?_, by rw [h5]; simp [g3], fun i k' cs' e' hi he => ?_, fun i e' he => ?_⟩
                · simp [Instr.mapUpdate, run_underlying hd, run_getMap g2, run_check_str hkd, Instr.findKey, run_underlying hkd, h4, hmn, hke, hst, hset]
                · rw [h5, List.getElem?_set] at hi
                  rw [Array.getElem?_modify] at he
                  by_cases hin : n = i
                  · rw [if_pos hin] at he hi
                    subst hin
                    rw [hmn] at he
                    simp only [Option.map_some, Option.some.injEq] at he
                    subst he
                    rw [if_pos (by omega)] at hi
                    simp only [Option.some.injEq, Prod.mk.injEq] at hi
                    obtain ⟨rfl, rfl⟩ := hi
                    exact ⟨.str hkl, hzr⟩
                  · rw [if_neg hin] at he hi
                    exact g4 i k' cs' e' hi he
                · rw [Array.getElem?_modify] at he
                  by_cases hin : n = i
                  · rw [if_pos hin] at he
                    subst hin
                    rw [hmn] at he
                    simp only [Option.map_some, Option.some.injEq] at he
                    subst he
                    exact g5 n e hmn
                  · rw [if_neg hin] at he
                    exact g5 i e' he
            obtain ⟨ms', cl', k1, k2, k3, k4⟩ := key
            have hbk : blk (.map es) (G p) = some b := by rw [hgb]; rfl
            have hbk' : blk (.map (mput kk cs es)) (G p) = some b := by rw [hgb]; rfl
            have hext : Ext (fun c => c = b) M w M { w with heap := w.heap.setIfInBounds b (.map ms' cl') } :=
              ⟨fun _ _ e => e, by simp, rfl, rfl, rfl, fun c _ hc => by simp [Array.getElem?_setIfInBounds_ne (Ne.symm hc)], fun _ _ e => .inl e⟩
            have hob : ObRel M G { w with heap := w.heap.setIfInBounds b (.map ms' cl') } (.map (mput kk cs es)) (G p) :=
              ⟨b, ms', cl', hgb, by simp [hblt], k2, k3, k4⟩
            have hr : (execOp a.eval o).run F.C.P w = .ok .skip { w with heap := w.heap.setIfInBounds b (.map ms' cl') } := by
              unfold execOp
              simp only [ho, hxv, hyv, hzv, Sem.run_bind, k1, Result.andThen_ok, Sem.run_pure]
            unfold Oper.wp
            rw [hr]
            refine hk .junk env _ M G _ undef ?_ (hs.setOb (dstOk_spec hdok) hp hbk hbk' hext hMb hob .junk) (hsi.setOb hp hbk hbk' rfl hext)
            rw [hdst]
            exact k
          · cases h
        · cases h
      · cases h
    · cases h
  · cases h

/-! ### small things for proofs -/

theorem LeA.int {k : IntKind} {n m : Int} (h : n = m) : LeA (.d (.int k n)) (.d (.int k m)) := h ▸ .rfl
theorem LeA.bool {n m : Bool} (h : n = m) : LeA (.d (.bool n)) (.d (.bool m)) := h ▸ .rfl
theorem LeA.str {n m : List UInt8} (h : n = m) : LeA (.d (.str n)) (.d (.str m)) := h ▸ .rfl
theorem LeA.succ {k : Nat} (h : (k : Int) < 9223372036854775807) : LeA (.d (.int .i64 ((k + 1 : Nat) : Int))) (.d (.int .i64 (IntKind.i64.wrap ((k : Int) + 1)))) :=
  .int (by rw [wrap_i64 (by omega) (by omega)]; omega)

end Go.Am

namespace Go.Am

/-! ### quiet operations ahead of others -/

theorem AOps.ofAQ {F : Fx} {L : List Oper} {l2 : List Oper} {H : Heap} {Q : Env → Heap → Prop} : ∀ {l1 : List Oper} {env : Env}, AQ F.C L l1 env H (fun e => AOps F L l2 e H Q) → AOps F L (l1 ++ l2) env H Q
  | [], env, h => h
  | o :: r, env, h => by
    obtain ⟨d, x, rfl, hst, hr⟩ := h
    rcases hst with ⟨hw, hy⟩ | ⟨hw, rfl⟩
    · exact .yields hw hy (AOps.ofAQ hr)
    · exact .skip hw (AOps.ofAQ hr)

theorem AQ.mono {C : Cx} {L : List Oper} {H : Heap} {Q Q' : Env → Prop} (hq : ∀ e, Q e → Q' e) : ∀ {l : List Oper} {env : Env}, AQ C L l env H Q → AQ C L l env H Q'
  | [], _, h => hq _ h
  | _ :: _, _, ⟨d, x, h1, h2, h3⟩ => ⟨d, x, h1, h2, AQ.mono hq h3⟩

theorem AOps.leE {F : Fx} {L l : List Oper} {env env' : Env} {H : Heap} {Q : Env → Heap → Prop} (he : ∀ t, LeA (env' t) (env t)) (k : AOps F L l env' H Q) : AOps F L l env H Q := by
  intro fr M G w a Qw hK hd hs hsi hq
  exact k fr M G w a Qw hK hd ⟨hs.good, hs.gl, hs.hrel, fun t => (he t).rel (hs.env t), hs.size, hs.defers⟩ hsi hq

theorem AEx.regionQ {F : Fx} {id : Nat} {L : List Oper} {env : Env} {H : Heap} {Q : Po} (n : Nat) (hd : L.all (dstOk F.N) = true) (h : AQ F.C L (L.take n) env H (fun e => AOps F L (L.drop n) e H (After Q))) : AEx F (.region id L.toArray false) env H Q := by
  refine .region hd ?_
  have := AOps.ofAQ h
  rwa [List.take_append_drop] at this

/-! ### what is there only where a boolean holds -/

abbrev Cnd := Nat → Option Bool
def sure : Cnd := fun _ => none
def envR (env : Env) (cnd : Cnd) : Env := fun t => match cnd t with | some false => .tup [] | _ => env t
def envS (env : Env) (cnd : Cnd) : Env := fun t => match cnd t with | none => env t | _ => .junk
def putC (cnd : Cnd) (d : Option Nat) (W : Option Bool) : Cnd := match d with | some t => (fun i => bif Nat.beq i t then W else cnd i) | none => cnd

def holds : Option Bool → Prop
  | none => True
  | some w => w = true

def wb : Bool → Bool → Bool
  | b, true => b
  | b, false => !b

def wantC (L : List Oper) (env : Env) (cnd : Cnd) (o : Oper) : Option (Option Bool) :=
  match o.guard with
  | none => some none
  | some (j, want) =>
    match nth L j with
    | some p => match p.dst with
      | some d => match env d, cnd d with
        | .d (.bool b), none => some (some (wb b want))
        | .d (.bool b), some c => some (some (c && wb b want))
        | _, _ => none
      | none => none
    | none => none

def isW : Option Bool → Bool
  | none => true
  | some w => w

theorem wantC_ok {L : List Oper} {env : Env} {cnd : Cnd} {o : Oper} {W : Option Bool} (h : wantC L env cnd o = some W) : wantedA L (envR env cnd) o = some (isW W) := by
  unfold wantC at h
  unfold wantedA
  split at h
  · rename_i hg
    rw [hg]
    simp only [Option.some.injEq] at h
    subst h
    rfl
  · rename_i j want hg
    rw [hg]
    simp only
    split at h
    · rename_i p hp
      rw [hp]
      simp only
      split at h
      · rename_i d hd
        rw [hd]
        simp only
        split at h
        · rename_i b he hc
          simp only [Option.some.injEq] at h
          subst h
          simp only [envR, hc, he]
          cases b <;> cases want <;> rfl
        · rename_i b c he hc
          simp only [Option.some.injEq] at h
          subst h
          cases c with
          | false => simp only [envR, hc]; rfl
          | true =>
            simp only [envR, hc, he]
            cases b <;> cases want <;> rfl
        · cases h
      · cases h
    · cases h

/-- quiet operations of the text, some of them wanted only where a boolean holds -/
def AG (C : Cx) (L : List Oper) : List Oper → Env → Cnd → Heap → (Env → Cnd → Prop) → Prop
  | [], env, cnd, _, Q => Q env cnd
  | o :: r, env, cnd, H, Q => ∃ d W x, o.dst = d ∧ wantC L env cnd o = some W ∧ (holds W → Yields C o (envR env cnd) H x) ∧ AG C L r (put env d x) (putC cnd d W) H Q

theorem envR_put {env : Env} {cnd : Cnd} {d : Option Nat} {W : Option Bool} {x : A} : envR (put env d x) (putC cnd d W) = put (envR env cnd) d (match W with | some false => .tup [] | _ => x) := by
  cases d with
  | none => rfl
  | some t =>
    funext i
    simp only [envR, putC, put, upd]
    cases hb : Nat.beq i t with
    | true => rcases W with _ | _ | _ <;> rfl
    | false => rfl

theorem AG.aq {C : Cx} {L : List Oper} {H : Heap} {Q : Env → Cnd → Prop} : ∀ {l : List Oper} {env : Env} {cnd : Cnd}, AG C L l env cnd H Q → AQ C L l (envR env cnd) H (fun e => ∃ env' cnd', e = envR env' cnd' ∧ Q env' cnd')
  | [], env, cnd, h => ⟨env, cnd, rfl, h⟩
  | o :: r, env, cnd, ⟨d, W, x, hd, hw, hy, hr⟩ => by
    have := AG.aq hr
    rw [envR_put] at this
    have hww := wantC_ok hw
    refine ⟨d, _, hd, ?_, this⟩
    rcases W with _ | _ | _
    · exact .inl ⟨hww, hy trivial⟩
    · exact .inr ⟨hww, rfl⟩
    · exact .inl ⟨hww, hy rfl⟩

theorem envR_sure {env : Env} : envR env sure = env := rfl

theorem le_envS {env : Env} {cnd : Cnd} (t : Nat) : LeA (envS env cnd t) (envR env cnd t) := by
  unfold envS envR
  cases cnd t with
  | none => exact .rfl
  | some c => exact .junk

theorem AEx.regionG {F : Fx} {id : Nat} {L : List Oper} {env : Env} {H : Heap} {Q : Po} (n : Nat) (hd : L.all (dstOk F.N) = true) (h : AG F.C L (L.take n) env sure H (fun e c => AOps F L (L.drop n) (envS e c) H (After Q))) : AEx F (.region id L.toArray false) env H Q := by
  refine .regionQ n hd ?_
  have := AG.aq h
  rw [envR_sure] at this
  refine this.mono fun e he => ?_
  obtain ⟨env', cnd', rfl, hq⟩ := he
  exact .leE le_envS hq

theorem AEx.drawG {F : Fx} (hC : CxOk F.C) {id : Nat} {L : List Oper} {env : Env} {H : Heap} {Q : Po} (n : Nat) (hd : L.all (dstOk F.N) = true) (hok : drawOk L n = true) (hnl : Nat.ble n L.length = true)
    (h : AG F.C L (L.take n) env sure H (fun e c => AOps F L (L.drop n) (envS e c) H (After Q))) : AEx F (.region id L.toArray true) env H Q := by
  refine .draw hC n hd hok hnl ?_
  have := AG.aq h
  rw [envR_sure] at this
  refine this.mono fun e he => ?_
  obtain ⟨env', cnd', rfl, hq⟩ := he
  exact .leE le_envS hq

theorem AG.nil {C : Cx} {L : List Oper} {env : Env} {cnd : Cnd} {H : Heap} {Q : Env → Cnd → Prop} (h : Q env cnd) : AG C L [] env cnd H Q := h

/-- the operands are there -/
def sides (cnd : Cnd) : List Operand → Prop
  | [] => True
  | .tmp t :: r => match cnd t with
    | none => sides cnd r
    | some c => c = true ∧ sides cnd r
  | _ :: r => sides cnd r

theorem sides_ev {GL : GT} {env : Env} {cnd : Cnd} : ∀ {l : List Operand}, sides cnd l → ∀ y ∈ l, ev GL (envR env cnd) y = ev GL env y
  | .tmp t :: r, h, y, hy => by
    simp only [sides] at h
    split at h
    · rename_i hc
      cases hy with
      | head => simp only [ev, envR, hc]
      | tail _ hy => exact sides_ev h y hy
    · rename_i c hc
      cases hy with
      | head => simp only [ev, envR, hc, h.1]
      | tail _ hy => exact sides_ev h.2 y hy
  | .const v :: r, h, y, hy => by
    cases hy with
    | head => rfl
    | tail _ hy => exact sides_ev (l := r) h y hy
  | .global g :: r, h, y, hy => by
    cases hy with
    | head => rfl
    | tail _ hy => exact sides_ev (l := r) h y hy
  | .func f :: r, h, y, hy => by
    cases hy with
    | head => rfl
    | tail _ hy => exact sides_ev (l := r) h y hy

theorem Yields.congr {C : Cx} {o : Oper} {env env' : Env} {H : Heap} {x : A} (h : Yields C o env H x) (he : ∀ y ∈ o.op.operands, ev C.GL env' y = ev C.GL env y) : Yields C o env' H x :=
  fun M G w a next Qw hρ => h M G w a next Qw fun y hy => by rw [← he y hy]; exact hρ y hy

def noG (o : Oper) : Oper := { o with guard := none }

theorem Yields.noG {C : Cx} {o : Oper} {env : Env} {H : Heap} {x : A} (h : Yields C (noG o) env H x) : Yields C o env H x := h

def opsL (o : Oper) : List Operand := o.op.operands.toList

theorem AG.lift {C : Cx} {L l : List Oper} {o : Oper} {env : Env} {cnd : Cnd} {H : Heap} {Q : Env → Cnd → Prop} {d : Option Nat} {W : Option Bool} {x : A} (hd : dstF o = some d) (hw : wantC L env cnd o = some W) (hs : holds W → sides cnd (opsL o)) (hy : holds W → Yields C (noG o) env H x)
    (k : AG C L l (put env d x) (putC cnd d W) H Q) : AG C L (o :: l) env cnd H Q :=
  ⟨d, W, x, dstF_eq hd, hw, fun h => (hy h).noG.congr fun y hy => sides_ev (hs h) y (by simpa [opsL] using hy), k⟩

/-- a quiet operation -/
def stepGA (C : Cx) (L : List Oper) (o : Oper) (env : Env) (cnd : Cnd) (H : Heap) : Option (Option Nat × Option Bool × Prop × Prop × A) :=
  match wantC L env cnd o, opA C.T C.GL o.op env H with
  | some W, some (c, x) => match frc x, dstF o with
    | some y, some d => some (d, W, sides cnd (opsL o), c, y)
    | _, _ => none
  | _, _ => none

theorem AG.q {C : Cx} (hC : CxOk C) {L l : List Oper} {o : Oper} {env : Env} {cnd : Cnd} {H : Heap} {Q : Env → Cnd → Prop} {d : Option Nat} {W : Option Bool} {S c : Prop} {x : A} (h : stepGA C L o env cnd H = some (d, W, S, c, x)) (hs : holds W → S ∧ c)
    (k : AG C L l (put env d x) (putC cnd d W) H Q) : AG C L (o :: l) env cnd H Q := by
  unfold stepGA at h
  split at h
  · rename_i W' c' x' hw ho
    split at h
    · rename_i y d' hy hd
      simp only [Option.some.injEq, Prod.mk.injEq] at h
      obtain ⟨rfl, rfl, rfl, rfl, rfl⟩ := h
      obtain rfl := frc_eq hy
      exact .lift hd hw (fun h => (hs h).1) (fun h => yields_op hC (o := noG o) ho (hs h).2) k
    · cases h
  · cases h

/-- a choice between booleans -/
structure Pk where
  d : Option Nat
  W : Option Bool
  sc : Prop
  t : Bool
  sa : Prop
  sb : Prop
  xa : Bool
  xb : Bool

def stepGP (C : Cx) (L : List Oper) (o : Oper) (env : Env) (cnd : Cnd) : Option Pk :=
  match wantC L env cnd o, o.op, dstF o with
  | some W, .pick c a b, some d => match ev C.GL env c, ev C.GL env a, ev C.GL env b with
    | .d (.bool t), .d (.bool xa), .d (.bool xb) => some ⟨d, W, sides cnd [c], t, sides cnd [a], sides cnd [b], xa, xb⟩
    | _, _, _ => none
  | _, _, _ => none

theorem AG.p {C : Cx} (hC : CxOk C) {L l : List Oper} {o : Oper} {env : Env} {cnd : Cnd} {H : Heap} {Q : Env → Cnd → Prop} {d : Option Nat} {W : Option Bool} {sc sa sb : Prop} {t xa xb : Bool} (h : stepGP C L o env cnd = some ⟨d, W, sc, t, sa, sb, xa, xb⟩)
    (hs : holds W → sc ∧ (t = true → sa) ∧ (t = false → sb)) (k : AG C L l (put env d (.d (.bool (bif t then xa else xb)))) (putC cnd d W) H Q) : AG C L (o :: l) env cnd H Q := by
  unfold stepGP at h
  split at h
  · rename_i W' c a b d' hw ho hd
    split at h
    · rename_i t' ya yb hc ha hb
      simp only [Option.some.injEq, Pk.mk.injEq] at h
      obtain ⟨rfl, rfl, rfl, rfl, rfl, rfl, rfl, rfl⟩ := h
      refine ⟨_, _, _, dstF_eq hd, hw, fun h => ?_, k⟩
      obtain ⟨h1, h2, h3⟩ := hs h
      have ec := sides_ev (GL := C.GL) (env := env) h1 c List.mem_cons_self
      refine yields_op hC (c := True) ?_ trivial
      rw [ho]
      simp only [opA, ec, hc, someT]
      cases t' with
      | true =>
        have ea := sides_ev (GL := C.GL) (env := env) (h2 rfl) a List.mem_cons_self
        simp only [cond_true, ea, ha]
      | false =>
        have eb := sides_ev (GL := C.GL) (env := env) (h3 rfl) b List.mem_cons_self
        simp only [cond_false, eb, hb]
    · cases h
  · cases h

/-- a call over data -/
def stepGC (C : Cx) (L : List Oper) (o : Oper) (env : Env) (cnd : Cnd) : Option (Option Nat × Option Bool × Prop × FuncId × List A) :=
  match wantC L env cnd o, callArgs C.GL env o with
  | some W, some (f, xs) => match frcL xs, dstF o with
    | some ys, some d => some (d, W, sides cnd (opsL o), f, ys)
    | _, _ => none
  | _, _ => none

theorem AG.c {C : Cx} {L l : List Oper} {o : Oper} {env : Env} {cnd : Cnd} {H : Heap} {Q : Env → Cnd → Prop} {d : Option Nat} {W : Option Bool} {S : Prop} {f : FuncId} {xs : List A} {x : A} (h : stepGC C L o env cnd = some (d, W, S, f, xs)) (hn : namesLtL 0 xs = true)
    (hs : holds W → S) (hc : holds W → ACall C f xs [] (fun r H' => H' = [] ∧ r = x)) (k : AG C L l (put env d x) (putC cnd d W) H Q) : AG C L (o :: l) env cnd H Q := by
  unfold stepGC at h
  split at h
  · rename_i W' f' xs' hw ho
    split at h
    · rename_i ys d' hy hd
      simp only [Option.some.injEq, Prod.mk.injEq] at h
      obtain ⟨rfl, rfl, rfl, rfl, rfl⟩ := h
      obtain rfl := frcL_eq hy
      exact .lift hd hw hs (fun h => yields_call (o := noG o) ho hn (hc h)) k
    · cases h
  · cases h

theorem AG.i {C : Cx} (hC : CxOk C) {L l : List Oper} {o : Oper} {env : Env} {cnd : Cnd} {H : Heap} {Q : Env → Cnd → Prop} {d : Option Nat} {W : Option Bool} {rows : List (List D)} {n : Int} {sz : Nat} (hw : wantC L env cnd o = some W) (h : stepI C [] (noG o) env = some (d, rows, n, sz)) {k : Nat} {r : List D}
    (hs : holds W → sides cnd (opsL o)) (hk : holds W → n = k ∧ rows[k]? = some r ∧ Nat.beq r.length sz = true) (kk : AG C L l (put env d (.ptr r)) (putC cnd d W) H Q) : AG C L (o :: l) env cnd H Q := by
  refine .lift (d := d) (W := W) ?_ hw hs (fun h' => yields_index hC h (hk h').1 (hk h').2.1 (hk h').2.2) kk
  obtain ⟨_, hd⟩ := stepI_spec h
  unfold dstF
  have : o.dst = d := hd
  rw [this]
  cases d <;> rfl

theorem AG.x {C : Cx} (hC : CxOk C) {L l : List Oper} {o : Oper} {env : Env} {cnd : Cnd} {H : Heap} {Q : Env → Cnd → Prop} {d : Option Nat} {W : Option Bool} {s : List UInt8} {n : Int} (hw : wantC L env cnd o = some W) (h : stepX C [] (noG o) env = some (d, s, n)) {k : Nat} {b : UInt8}
    (hs : holds W → sides cnd (opsL o)) (hk : holds W → n = k ∧ s[k]? = some b) (kk : AG C L l (put env d (.d (.int .u8 b.toNat))) (putC cnd d W) H Q) : AG C L (o :: l) env cnd H Q := by
  refine .lift (d := d) (W := W) ?_ hw hs (fun h' => yields_byte hC h (hk h').1 (hk h').2) kk
  have := (stepX_spec h).2
  exact this

theorem AG.split {C : Cx} {L l : List Oper} {env : Env} {cnd : Cnd} {H : Heap} {Q : Env → Cnd → Prop} {b : Bool} (t : Nat) (hb : env t = .d (.bool b)) (h1 : b = true → AG C L l (upd env t (.d (.bool true))) cnd H Q) (h2 : b = false → AG C L l (upd env t (.d (.bool false))) cnd H Q) : AG C L l env cnd H Q := by
  cases b with
  | true => have := h1 rfl; rwa [upd_self hb] at this
  | false => have := h2 rfl; rwa [upd_self hb] at this

theorem AG.b {C : Cx} (hC : CxOk C) {L l : List Oper} {o : Oper} {env : Env} {cnd : Cnd} {H : Heap} {Q : Env → Cnd → Prop} {d : Option Nat} {rs : List Row} (h : stepB C L o env = some (d, rs)) (hw : wantC L env cnd o = some none) (hs : sides cnd (opsL o)) (k : AG C L l (put env d (.full rs)) (putC cnd d none) H Q) : AG C L (o :: l) env cnd H Q :=
  ⟨d, none, _, dstF_eq (stepB_spec h).2, hw, fun _ => (yields_build hC h).congr fun y hy => sides_ev hs y (by simpa [opsL] using hy), k⟩

/-! ### for proofs -/

theorem wb_f {t : Bool} (h : t = false) : wb t false = true := by subst h; rfl
theorem wb_t {t : Bool} (h : t = true) : wb t true = true := by subst h; rfl
theorem and_f {c t : Bool} (h : c = true) (h' : t = false) : (c && wb t false) = true := by subst h; subst h'; rfl
theorem and_t {c t : Bool} (h : c = true) (h' : t = true) : (c && wb t true) = true := by subst h; subst h'; rfl
def noGuards : List Oper → Bool
  | [] => true
  | o :: r => o.guard.isNone && noGuards r

theorem AEx.regionN {F : Fx} {id : Nat} {L : List Oper} {env : Env} {H : Heap} {Q : Po} (_hg : noGuards L = true) (hd : L.all (dstOk F.N) = true) (h : AOps F L L env H (After Q)) : AEx F (.region id L.toArray false) env H Q := .region hd h

/-! ### contracts from elsewhere -/

theorem ext_below {M : Mem} {w w' : World} (h : Go.RowKit.Below w.heap.size w w') : Ext none' M w M w' :=
  ⟨fun _ _ e => e, h.size, h.os, h.output, h.tape, fun b hb _ => h.block b hb, fun _ _ e => .inl e⟩

/-- a call that hands back a value without memory and leaves the old blocks as they were -/
theorem ACall.ofBelow {C : Cx} {f : FuncId} {args : List A} {r : A} (hf : fnOk C.P f = true)
    (h : ∀ M G w (vs : Array Value), Good M w → GlOk C M w → args.length = vs.size → (∀ (i : Nat) x v, args[i]? = some x → vs[i]? = some v → RelA M G x v) →
      ∃ v, (∀ M G, RelA M G r v) ∧ Calls C.P f vs w fun e w' => e = .returned v ∧ Go.RowKit.Below w.heap.size w w') : ACall C f args [] (fun x H' => H' = [] ∧ x = r) := by
  refine ⟨hf, fun M G w vs hg hgl hh hl hr => ?_⟩
  obtain ⟨v, hv, hc⟩ := h M G w vs hg hgl hl hr
  refine hc.mono fun e w' ⟨he, hb⟩ => ?_
  have hext : Ext none' M w M w' := ext_below hb
  refine ⟨v, r, [], M, G, he, ⟨rfl, rfl⟩, hv M G, ?_, ?_, hext.weaken (fun _ h => h.elim), fun b hb => .inl hb, Nat.le_refl _, fun o x ho => by simp at ho⟩
  · exact hg.ext hext fun _ _ _ h => h.elim
  · exact hh.ext hext fun _ _ h => h

theorem args_str {args : List A} {vs : Array Value} {M : Mem} {G : Nat → Value} {s : List UInt8} {i : Nat} (hl : args.length = vs.size) (h : ∀ (i : Nat) x v, args[i]? = some x → vs[i]? = some v → RelA M G x v) (hi : args[i]? = some (.d (.str s))) :
    vs[i]? = some (.string ⟨s.toArray⟩) ∧ s.length ≤ maxLen := by
  have hlt : i < vs.size := by rw [← hl]; exact (List.getElem?_eq_some_iff.1 hi).1
  have hv : vs[i]? = some vs[i] := Array.getElem?_eq_getElem hlt
  have hr := h i _ _ hi hv
  generalize vs[i] = v at hr hv
  cases hr; rename_i hr; cases hr
  exact ⟨hv, by assumption⟩

theorem args_int {args : List A} {vs : Array Value} {M : Mem} {G : Nat → Value} {k : IntKind} {n : Int} {i : Nat} (hl : args.length = vs.size) (h : ∀ (i : Nat) x v, args[i]? = some x → vs[i]? = some v → RelA M G x v) (hi : args[i]? = some (.d (.int k n))) :
    vs[i]? = some (.int k n) ∧ InK k n := by
  have hlt : i < vs.size := by rw [← hl]; exact (List.getElem?_eq_some_iff.1 hi).1
  have hv : vs[i]? = some vs[i] := Array.getElem?_eq_getElem hlt
  have hr := h i _ _ hi hv
  generalize vs[i] = v at hr hv
  cases hr; rename_i hr; cases hr
  exact ⟨hv, by assumption⟩

theorem arr1 {vs : Array Value} {a : Value} (hl : vs.size = 1) (h0 : vs[0]? = some a) : vs = #[a] := by
  apply Array.ext_getElem?
  intro i
  match i with
  | 0 => simpa using h0
  | i + 1 => rw [Array.getElem?_eq_none (by omega), Array.getElem?_eq_none (by simp)]
theorem arr2 {vs : Array Value} {a b : Value} (hl : vs.size = 2) (h0 : vs[0]? = some a) (h1 : vs[1]? = some b) : vs = #[a, b] := by
  apply Array.ext_getElem?
  intro i
  match i with
  | 0 => simpa using h0
  | 1 => simpa using h1
  | i + 2 => rw [Array.getElem?_eq_none (by omega), Array.getElem?_eq_none (by simp)]

theorem fnOk_of {P : Program} {f : FuncId} {fn : Func} (hf : P.funcs[f]? = some fn) (hn : (fn.name == "runtime.NumGoroutine") = false) (hb : fn.body.isSome = true) : fnOk P f = true := by simp [fnOk, hf, hb, hn]

/-! ### a call over objects, the heap behind it written out -/

def frcC : List A → Option (List A)
  | [] => some []
  | x :: r => match frc x, frcC r with | some y, some r' => some (y :: r') | _, _ => none

theorem frcC_eq : ∀ {l l' : List A}, frcC l = some l' → l' = l
  | [], l', h => by simp [frcC] at h; exact h
  | x :: r, l', h => by
    simp only [frcC] at h
    split at h
    · rename_i y r' hy hr
      simp only [Option.some.injEq] at h
      rw [← h, frc_eq hy, frcC_eq hr]
    · cases h

def frcH : Heap → Option Heap
  | [] => some []
  | .row cs e :: r => match frcC cs, frcH r with | some cs', some r' => some (.row cs' e :: r') | _, _ => none
  | .dead :: r => match frcH r with | some r' => some (.dead :: r') | none => none
  | .bld o e :: r => match frcH r with | some r' => some (.bld o e :: r') | none => none
  | .buf e sz :: r => match frcH r with | some r' => some (.buf e sz :: r') | none => none
  | .tok e sz :: r => match frcH r with | some r' => some (.tok e sz :: r') | none => none
  | .map es :: r => match frcH r with | some r' => some (.map es :: r') | none => none

theorem frcH_eq : ∀ {H H' : Heap}, frcH H = some H' → H' = H
  | [], H', h => by simp [frcH] at h; exact h
  | .row cs e :: r, H', h => by
    simp only [frcH] at h
    split at h
    · rename_i cs' r' hc hr
      simp only [Option.some.injEq] at h
      rw [← h, frcC_eq hc, frcH_eq hr]
    · cases h
  | .dead :: r, H', h => by
    simp only [frcH] at h
    split at h
    · rename_i r' hr
      simp only [Option.some.injEq] at h
      rw [← h, frcH_eq hr]
    · cases h
  | .bld o e :: r, H', h => by
    simp only [frcH] at h
    split at h
    · rename_i r' hr
      simp only [Option.some.injEq] at h
      rw [← h, frcH_eq hr]
    · cases h
  | .buf e sz :: r, H', h => by
    simp only [frcH] at h
    split at h
    · rename_i r' hr
      simp only [Option.some.injEq] at h
      rw [← h, frcH_eq hr]
    · cases h
  | .tok e sz :: r, H', h => by
    simp only [frcH] at h
    split at h
    · rename_i r' hr
      simp only [Option.some.injEq] at h
      rw [← h, frcH_eq hr]
    · cases h
  | .map es :: r, H', h => by
    simp only [frcH] at h
    split at h
    · rename_i r' hr
      simp only [Option.some.injEq] at h
      rw [← h, frcH_eq hr]
    · cases h

mutual
theorem dg_nil : ∀ x : A, dg [] x = x
  | .osl _ _ => rfl
  | .clo _ cs => by simp only [dg, dgL_nil cs]
  | .agg cs => by simp only [dg, dgL_nil cs]
  | .tup cs => by simp only [dg, dgL_nil cs]
  | .d _ => rfl
  | .junk => rfl
  | .ref _ _ => rfl
  | .ptr _ => rfl
  | .full _ => rfl
  | .rsl _ _ _ _ => rfl
  | .mp _ => rfl
theorem dgL_nil : ∀ l : List A, dgL [] l = l
  | [] => rfl
  | x :: r => by simp only [dgL, dg_nil x, dgL_nil r]
end

/-- no slice's room is among the objects -/
theorem AOps.hc {F : Fx} {L l : List Oper} {o : Oper} {env : Env} {H H' : Heap} {Q : Env → Heap → Prop} {d : Option Nat} {g : FuncId} {xs : List A} {x y : A} (idx : List Nat) {cargs : List A} {cH cH' : Heap}
    (h : stepC F.C L o env = some (d, g, xs)) (hc : ACall F.C g cargs cH (fun r h => h = cH' ∧ r = x)) (hx : renL (into idx H.length) cargs = xs) (hi : idxOk idx H.length = true) (hm : MatchH (into idx H.length) H idx cH) (ht : toksOf idx cH = [])
    (hr : frc (ren (into idx H.length) x) = some y) (hH : frcH (mergeF H idx (into idx H.length) [] cH') = some H') (k : AOps F L l (put env d y) H' Q) : AOps F L (o :: l) env H Q := by
  refine .callH idx cargs cH h hx hi hm hc fun r c ⟨e1, e2⟩ => ?_
  subst e1; subst e2
  have : (fun t => dg (toksOf idx cH) (env t)) = env := by funext t; rw [ht, dg_nil]
  rw [this, ht]
  have e3 := frcH_eq hH
  have e4 := frc_eq hr
  subst e3; subst e4
  exact k

/-! ### ways that come together -/

/-- where the code goes on, the state is this -/
def Cut (F : Fx) (E : List (Nat × A)) (H2 : Heap) (Q : Po) : Po
  | .normal, e, h => Wk F.K e h E H2
  | x, e, h => Q x e h

theorem AEx.cut {F : Fx} {c b : Code} {env : Env} {H : Heap} {Q : Po} (E : List (Nat × A)) (H2 : Heap) (h : AEx F c env H (Cut F E H2 Q)) (k : AEx F b (mkEnv E) H2 Q) : AEx F c env H (Then F b Q) :=
  h.mono fun x e hh hq => by
    cases x with
    | normal => exact AEx.wk hq k
    | exit i => exact hq
    | ret => exact hq

end Go.Am

namespace Go.Am

/-! ### loops, unrolled -/

def LoopWp (P : Program) (c : Code) (Q : Exit → Act → World → Prop) (a : Act) (w : World) : Prop :=
  ∀ (b : Frame) (k : List Item) (cs : List Frame), ∃ e a' w', Q e a' w' ∧ Arrives P (lone (b.at a (.code c :: .inLoop c :: k)) cs w) b k cs e a' w'

theorem LoopWp.loop {P : Program} {c : Code} {Q : Exit → Act → World → Prop} {a : Act} {w : World} (h : LoopWp P c Q a w) : (Code.loop c).wp P Q a w := by
  intro b k cs
  obtain ⟨e, a', w', hq, harr⟩ := h b k cs
  exact ⟨e, a', w', hq, .of_steps (.one step_loop) harr⟩

theorem LoopWp.unroll {P : Program} {c : Code} {Q : Exit → Act → World → Prop} {a : Act} {w : World} (h : c.wp P (Exit.then (LoopWp P c Q) Q) a w) : LoopWp P c Q a w := by
  intro b k cs
  obtain ⟨e, a₁, w₁, hq, harr⟩ := h b (.inLoop c :: k) cs
  cases e with
  | normal =>
    obtain ⟨e₂, a₂, w₂, hq₂, harr₂⟩ := hq b k cs
    exact ⟨e₂, a₂, w₂, hq₂, .of_steps (Steps.trans harr (.one step_inLoop)) harr₂⟩
  | exit id => exact ⟨_, a₁, w₁, hq, .pass (x := .inLoop c) rfl (fun _ _ => .inl (by simp)) harr⟩
  | goto l => exact ⟨_, a₁, w₁, hq, .pass (x := .inLoop c) rfl (fun _ _ => .inl (by simp)) harr⟩
  | ret => exact ⟨_, a₁, w₁, hq, .pass (x := .inLoop c) rfl (fun _ _ => .inl (by simp)) harr⟩
  | panic ch => exact ⟨_, a₁, w₁, hq, .pass (x := .inLoop c) rfl (fun _ _ => .inl (by simp)) harr⟩
  | outgrown => exact ⟨_, a₁, w₁, hq, .pass (x := .inLoop c) rfl (fun _ _ => .inl (by simp)) harr⟩

/-- inside a loop, a round ahead -/
def ALoop (F : Fx) (c : Code) (env : Env) (H : Heap) (Q : Po) : Prop :=
  ∀ fr M G w a, fr.H0.length = F.K → St F.C F.N M G w env H a → Since fr M G w H → LoopWp F.C.P c (Fin F fr Q) a w

def Again (F : Fx) (c : Code) (Q : Po) : Po
  | .normal, e, h => ALoop F c e h Q
  | x, e, h => Q x e h

theorem AEx.ofLoop {F : Fx} {c : Code} {env : Env} {H : Heap} {Q : Po} (h : ALoop F c env H Q) : AEx F (.loop c) env H Q :=
  fun fr M G w a hK hs hsi => (h fr M G w a hK hs hsi).loop

theorem ALoop.unroll {F : Fx} {c : Code} {env : Env} {H : Heap} {Q : Po} (h : AEx F c env H (Again F c Q)) : ALoop F c env H Q := by
  intro fr M G w act hK hs hsi
  refine LoopWp.unroll (wp_mono (h fr M G w act hK hs hsi) fun e a' w' he => ?_)
  obtain ⟨x, env', H', M', G', rfl, hq, hs', hsi'⟩ := he
  cases x with
  | normal => exact hq fr M' G' w' a' hK hs' hsi'
  | exit id => exact ⟨.exit id, _, _, _, _, rfl, hq, hs', hsi'⟩
  | ret => exact ⟨.ret, _, _, _, _, rfl, hq, hs', hsi'⟩

theorem ALoop.wk {F : Fx} {c : Code} {env : Env} {H : Heap} {Q : Po} {L : List (Nat × A)} {H2 : Heap} (hw : Wk F.K env H L H2) (h : ALoop F c (mkEnv L) H2 Q) : ALoop F c env H Q := by
  intro fr M G w act hK hs hsi
  exact h fr M _ w act hK (hw.st hs) (hw.since hK hsi)

/-! ### a body's parts -/

def bodyOf (f : Func) : Code := match f.body with | some c => c | none => .skip
def sl : Code → Code | .seq a _ => a | c => c
def sr : Code → Code | .seq _ b => b | c => c
def ca : Code → Code | .cond _ a _ => a | c => c
def cb : Code → Code | .cond _ _ b => b | c => c
def bk : Code → Code | .block _ c => c | c => c
def lo : Code → Code | .loop c => c | c => c

/-! ### functions in Option -/

theorem bind_some {α β : Type} {x : Option α} {f : α → Option β} {r : β} (h : (x >>= f) = some r) : ∃ a, x = some a ∧ f a = some r := by
  cases x with
  | none => cases h
  | some a => exact ⟨a, rfl, h⟩
theorem asrt_some {α : Type} {p : Prop} [Decidable p] {x : Option α} {r : α} (h : (if decide p = true then x else none) = some r) : p ∧ x = some r := by
  by_cases hp : p
  · rw [if_pos (decide_eq_true hp)] at h; exact ⟨hp, h⟩
  · rw [if_neg (by simpa using hp)] at h; cases h
theorem asrt_imp {α : Type} {w : Bool} {p : Prop} [Decidable p] {x : Option α} {r : α} (h : (if (!w || decide p) = true then x else none) = some r) : (w = true → p) ∧ x = some r := by
  by_cases hp : (!w || decide p) = true
  · rw [if_pos hp] at h
    exact ⟨fun hw => by subst hw; simpa using hp, h⟩
  · rw [if_neg hp] at h; cases h
theorem if_t {α : Type} {b : Bool} {x y : Option α} {r : α} (hb : b = true) (h : (if b = true then x else y) = some r) : x = some r := by rw [if_pos hb] at h; exact h
theorem if_f {α : Type} {b : Bool} {x y : Option α} {r : α} (hb : b = false) (h : (if b = true then x else y) = some r) : y = some r := by rw [if_neg (by rw [hb]; decide)] at h; exact h

abbrev Str := List UInt8
def idx {α : Type} (l : List α) (n : Int) : Option α := if 0 ≤ n then l[n.toNat]? else none
theorem idx_nat {α : Type} {l : List α} {n : Int} {x : α} (h : idx l n = some x) : n = (n.toNat : Int) := by
  unfold idx at h
  split at h
  · omega
  · cases h
theorem idx_get {α : Type} {l : List α} {n : Int} {x : α} (h : idx l n = some x) : l[n.toNat]? = some x := by
  unfold idx at h
  split at h
  · exact h
  · cases h
def slc {α : Type} (l : List α) (a b : Int) : Option (List α) := if 0 ≤ a ∧ a ≤ b ∧ b ≤ l.length then some ((l.take b.toNat).drop a.toNat) else none
theorem part_spec {α : Type} {l x : List α} {a b : Int} (h : slc l a b = some x) : a = (a.toNat : Int) ∧ b = (b.toNat : Int) ∧ a.toNat ≤ b.toNat ∧ b.toNat ≤ l.length ∧ x = (l.take b.toNat).drop a.toNat := by
  unfold slc at h
  split at h
  · cases h; exact ⟨by omega, by omega, by omega, by omega, rfl⟩
  · cases h
def mgt {α : Type} (k : Str) : List (Str × α) → Option α
  | [] => none
  | (k', x) :: r => bif k == k' then some x else mgt k r
def mpt {α : Type} (k : Str) (x : α) : List (Str × α) → List (Str × α)
  | [] => [(k, x)]
  | (k', y) :: r => bif k == k' then (k, x) :: r else (k', y) :: mpt k x r

/-! ### lists of rows -/

section
variable {α : Type} {f : α → Row} {g : List α → List Row} {h : α → A}
theorem rows_idx (hg : ∀ l, g l = l.map f) {l : List α} {n : Int} {x : α} (h : idx l n = some x) : (g l)[n.toNat]? = some (f x) := by simp [hg, idx_get h]
theorem rows_app (hg : ∀ l, g l = l.map f) (l m : List α) : g (l ++ m) = g l ++ g m := by simp [hg]
theorem rows_len (hg : ∀ l, g l = l.map f) (l : List α) : (g l).length = l.length := by simp [hg]
theorem rows_lenA (hg : ∀ l, g l = l.map f) (l : List α) : A.d (.int .i64 ((g l).length : Nat)) = A.d (.int .i64 (l.length : Nat)) := by simp [hg]
theorem rows_sz (hg : ∀ l, g l = l.map f) {n : Nat} (hn : ∀ x, (f x).length = n) (l : List α) : ∀ r ∈ g l, r.length = n := by
  intro r hr
  rw [hg] at hr
  obtain ⟨x, _, rfl⟩ := List.mem_map.1 hr
  exact hn x
theorem rows_part (hg : ∀ l, g l = l.map f) {l x : List α} {a b : Int} (h : slc l a b = some x) : a = (a.toNat : Int) ∧ b = (b.toNat : Int) ∧ a.toNat ≤ b.toNat ∧ b.toNat ≤ (g l).length ∧ g x = ((g l).take b.toNat).drop a.toNat := by
  obtain ⟨h1, h2, h3, h4, rfl⟩ := part_spec h
  exact ⟨h1, h2, h3, by rw [rows_len hg]; exact h4, by simp [hg]⟩
def entsOf (f : α → Row) (m : List (Str × α)) : List (Str × Row) := m.map fun p => (p.1, f p.2)
theorem ents_get (f : α → Row) (k : Str) : ∀ m : List (Str × α), mget k (entsOf f m) = (mgt k m).map f
  | [] => rfl
  | (k', x) :: r => by
    show (bif k == k' then some (f x) else mget k (entsOf f r)) = (bif k == k' then some x else mgt k r).map f
    rw [ents_get f k r]
    cases k == k' <;> rfl
theorem ents_put (f : α → Row) (k : Str) (x : α) : ∀ m : List (Str × α), entsOf f (mpt k x m) = mput k (f x) (entsOf f m)
  | [] => rfl
  | (k', y) :: r => by
    show entsOf f (bif k == k' then (k, x) :: r else (k', y) :: mpt k x r) = (bif k == k' then (k, f x) :: entsOf f r else (k', f y) :: mput k (f x) (entsOf f r))
    rw [← ents_put f k x r]
    cases k == k' <;> rfl
theorem lk_T (hf : ∀ x, rowA (f x) = h x) {z : α} {za : A} (hz : za = h z) {k : Str} {m : List (Str × α)} {x : Option α} (hx : some (mgt k m) = some x) : lkA (mget k (entsOf f m)) za true = .tup [h (x.getD z), .d (.bool x.isSome)] := by
  cases hx
  rw [ents_get]
  cases mgt k m with
  | none => simp [lkA, hz]
  | some y => simp [lkA, hf]
theorem lk_NT {z : α} {za : A} (hz : za = h z) {x : Option α} (hx : some none = some x) : lkA none za true = .tup [h (x.getD z), .d (.bool x.isSome)] := by cases hx; simp [lkA, hz]
theorem lk_N1 {z : α} {za : A} (hz : za = h z) {x : Option α} (hx : some none = some x) : lkA none za false = h (x.getD z) := by cases hx; simp [lkA, hz]
theorem lk_1 (hf : ∀ x, rowA (f x) = h x) {z : α} {za : A} (hz : za = h z) {k : Str} {m : List (Str × α)} {x : Option α} (hx : some (mgt k m) = some x) : lkA (mget k (entsOf f m)) za false = h (x.getD z) := by
  cases hx
  rw [ents_get]
  cases mgt k m with
  | none => simp [lkA, hz]
  | some y => simp [lkA, hf]
end

/-! ### steps -/

theorem AOps.qe {F : Fx} (hC : CxOk F.C) {L l : List Oper} {o : Oper} {env : Env} {H : Heap} {Q : Env → Heap → Prop} {d : Option Nat} {c : Prop} {x y : A} (h : stepA F.C L o env H = some (d, c, x)) (hc : c) (e : x = y)
    (k : AOps F L l (put env d y) H Q) : AOps F L (o :: l) env H Q := by subst e; exact .q hC h hc k
theorem AQ.qe {C : Cx} (hC : CxOk C) {L l : List Oper} {o : Oper} {env : Env} {H : Heap} {Q : Env → Prop} {d : Option Nat} {c : Prop} {x y : A} (h : stepA C L o env H = some (d, c, x)) (hc : c) (e : x = y) (k : AQ C L l (put env d y) H Q) : AQ C L (o :: l) env H Q := by
  subst e; exact .q hC h hc k
theorem AG.qe {C : Cx} (hC : CxOk C) {L l : List Oper} {o : Oper} {env : Env} {cnd : Cnd} {H : Heap} {Q : Env → Cnd → Prop} {d : Option Nat} {W : Option Bool} {S c : Prop} {x y : A} (h : stepGA C L o env cnd H = some (d, W, S, c, x)) (hs : holds W → S ∧ c) (e : x = y)
    (k : AG C L l (put env d y) (putC cnd d W) H Q) : AG C L (o :: l) env cnd H Q := by subst e; exact .q hC h hs k
theorem AOps.lx {F : Fx} (hC : CxOk F.C) {L l : List Oper} {o : Oper} {env : Env} {H : Heap} {Q : Env → Heap → Prop} {d : Option Nat} {s x : List UInt8} {lo hi : Int} (h : stepL F.C L o env = some (d, s, lo, hi)) (hx : slc s lo hi = some x)
    (kk : AOps F L l (put env d (.d (.str x))) H Q) : AOps F L (o :: l) env H Q := by
  obtain ⟨h1, h2, h3, h4, rfl⟩ := part_spec hx
  exact .l hC h h1 h2 h3 h4 kk
theorem AQ.lx {C : Cx} (hC : CxOk C) {L l : List Oper} {o : Oper} {env : Env} {H : Heap} {Q : Env → Prop} {d : Option Nat} {s x : List UInt8} {lo hi : Int} (h : stepL C L o env = some (d, s, lo, hi)) (hx : slc s lo hi = some x)
    (kk : AQ C L l (put env d (.d (.str x))) H Q) : AQ C L (o :: l) env H Q := by
  obtain ⟨h1, h2, h3, h4, rfl⟩ := part_spec hx
  exact .l hC h h1 h2 h3 h4 kk
def stepUp (C : Cx) (L : List Oper) (o : Oper) (env : Env) (H : Heap) : Option (Nat × List UInt8 × Row × List (List UInt8 × Row)) :=
  match wantedA L env o, o.op, o.dst with
  | some true, .mapUpdate t x y z, none => match tget C.T t, ev C.GL env x, ev C.GL env y, valRow (ev C.GL env z) with
    | some i, .mp p, .d (.str k), some cs => match i.u, nth H p with
      | .map kt _, some (.map es) => match tget C.T kt with
        | some ki => match ki.u with
          | .str => some (p, k, cs, es)
          | _ => none
        | none => none
      | _, _ => none
    | _, _, _, _ => none
  | _, _, _ => none
theorem stepUp_ok {C : Cx} {L : List Oper} {o : Oper} {env : Env} {H : Heap} {p : Nat} {k : List UInt8} {cs : Row} {es : List (List UInt8 × Row)} (h : stepUp C L o env H = some (p, k, cs, es)) {H' : Heap} (h' : hsetF H p (.map (mput k cs es)) = some H') : stepU C L o env H = some H' := by
  unfold stepUp at h
  unfold stepU
  split at h
  · split at h
    · split at h
      · split at h
        · split at h
          · simp only [Option.some.injEq, Prod.mk.injEq] at h
            obtain ⟨rfl, rfl, rfl, rfl⟩ := h
            simp_all only
          · cases h
        · cases h
      · cases h
    · cases h
  · cases h
theorem AOps.ue {F : Fx} (hC : CxOk F.C) {L l : List Oper} {o : Oper} {env : Env} {H H' : Heap} {Q : Env → Heap → Prop} {p : Nat} {k : List UInt8} {cs : Row} {es es2 : List (List UInt8 × Row)} (h : stepUp F.C L o env H = some (p, k, cs, es)) (e : mput k cs es = es2) (h' : hsetF H p (.map es2) = some H')
    (kk : AOps F L l env H' Q) : AOps F L (o :: l) env H Q := by subst e; exact .u hC (stepUp_ok h h') kk
theorem AOps.be {F : Fx} (hC : CxOk F.C) {L l : List Oper} {o : Oper} {env : Env} {H : Heap} {Q : Env → Heap → Prop} {d : Option Nat} {rs rs' : List Row} (h : stepB F.C L o env = some (d, rs)) (e : rs = rs') (k : AOps F L l (put env d (.full rs')) H Q) : AOps F L (o :: l) env H Q := by subst e; exact .b hC h k
theorem AQ.be {C : Cx} (hC : CxOk C) {L l : List Oper} {o : Oper} {env : Env} {H : Heap} {Q : Env → Prop} {d : Option Nat} {rs rs' : List Row} (h : stepB C L o env = some (d, rs)) (e : rs = rs') (k : AQ C L l (put env d (.full rs')) H Q) : AQ C L (o :: l) env H Q := by subst e; exact .b hC h k
theorem AG.be {C : Cx} (hC : CxOk C) {L l : List Oper} {o : Oper} {env : Env} {cnd : Cnd} {H : Heap} {Q : Env → Cnd → Prop} {d : Option Nat} {rs rs' : List Row} (h : stepB C L o env = some (d, rs)) (e : rs = rs') (hw : wantC L env cnd o = some none) (hs : sides cnd (opsL o)) (k : AG C L l (put env d (.full rs')) (putC cnd d none) H Q) : AG C L (o :: l) env cnd H Q := by subst e; exact .b hC h hw hs k

/-- a quiet call, less known of its arguments -/
theorem yields_callL {C : Cx} {o : Oper} {env : Env} {H : Heap} {f : FuncId} {xs ys : List A} {x : A} (ha : callArgs C.GL env o = some (f, xs)) (hle : LeL ys xs) (hn : namesLtL 0 ys = true) (hc : ACall C f ys [] (fun r H' => H' = [] ∧ r = x)) : Yields C o env H x := by
  intro M G w a next Qw hρ hG hgl hH hk
  obtain ⟨vs, h1, h2, h3⟩ := callArgs_ok ha hρ hc.1
  unfold Oper.wp
  rw [h1 w]
  refine (upon_call0 hn hc hG hgl (hle.spec.1.trans h2) (hle.rels h3)).mono fun e w' he => ?_
  obtain ⟨v, r, M', rfl, rfl, g1, g2, g3⟩ := he
  exact hk v M' w' (g1 G) g2 g3

theorem AOps.cl {F : Fx} {L l : List Oper} {o : Oper} {env : Env} {H : Heap} {Q : Env → Heap → Prop} {d : Option Nat} {f : FuncId} {xs ys : List A} {x : A} (h : stepC F.C L o env = some (d, f, xs)) (hc : ACall F.C f ys [] (fun r H' => H' = [] ∧ r = x)) (hle : LeL ys xs) (hn : namesLtL 0 ys = true)
    (k : AOps F L l (put env d x) H Q) : AOps F L (o :: l) env H Q := by
  obtain ⟨h1, h2, rfl⟩ := stepC_spec h
  exact .yields h1 (yields_callL h2 hle hn hc) k
theorem AQ.cl {C : Cx} {L l : List Oper} {o : Oper} {env : Env} {H : Heap} {Q : Env → Prop} {d : Option Nat} {f : FuncId} {xs ys : List A} {x : A} (h : stepC C L o env = some (d, f, xs)) (hc : ACall C f ys [] (fun r H' => H' = [] ∧ r = x)) (hle : LeL ys xs) (hn : namesLtL 0 ys = true)
    (k : AQ C L l (put env d x) H Q) : AQ C L (o :: l) env H Q := by
  obtain ⟨h1, h2, rfl⟩ := stepC_spec h
  exact ⟨_, x, rfl, .inl ⟨h1, yields_callL h2 hle hn hc⟩, k⟩

theorem AG.cl {C : Cx} {L l : List Oper} {o : Oper} {env : Env} {cnd : Cnd} {H : Heap} {Q : Env → Cnd → Prop} {d : Option Nat} {W : Option Bool} {S : Prop} {f : FuncId} {xs ys : List A} {x : A} (h : stepGC C L o env cnd = some (d, W, S, f, xs)) (hc : holds W → ACall C f ys [] (fun r H' => H' = [] ∧ r = x)) (hle : LeL ys xs) (hn : namesLtL 0 ys = true)
    (hs : holds W → S) (k : AG C L l (put env d x) (putC cnd d W) H Q) : AG C L (o :: l) env cnd H Q := by
  unfold stepGC at h
  split at h
  · rename_i W' f' xs' hw ha
    split at h
    · rename_i ys' d' hz hd
      simp only [Option.some.injEq, Prod.mk.injEq] at h
      obtain ⟨rfl, rfl, rfl, rfl, rfl⟩ := h
      have := frcL_eq hz
      subst this
      exact .lift hd hw hs (fun hW => (yields_callL (o := noG o) ha hle hn (hc hW))) k
    · cases h
  · cases h

/-- a call over objects -/
theorem AOps.g {F : Fx} {L l : List Oper} {o : Oper} {env : Env} {H H' : Heap} {Q : Env → Heap → Prop} {d : Option Nat} {g : FuncId} {xs : List A} {x y : A} (idx : List Nat) {cargs : List A} {cH cH' : Heap}
    (h : stepC F.C L o env = some (d, g, xs)) (hc : ACall F.C g cargs cH (fun r h => h = cH' ∧ r = x)) (hx : LeL (renL (into idx H.length) cargs) xs) (hi : idxOk idx H.length = true) (hm : MatchH (into idx H.length) H idx cH)
    (hr : frc (ren (into idx H.length) x) = some y) (hH : frcH (mergeF H idx (into idx H.length) (toksOf idx cH) cH') = some H') (k : AOps F L l (put (fun t => dg (toksOf idx cH) (env t)) d y) H' Q) : AOps F L (o :: l) env H Q := by
  refine .callHL idx cargs cH h hx hi hm hc fun r c ⟨e1, e2⟩ => ?_
  subst e1; subst e2
  have e3 := frcH_eq hH
  have e4 := frc_eq hr
  subst e3; subst e4
  exact k

/-! ### new variables whose slices are empty and without room -/

def zf : D → A
  | .sl [] => .full []
  | x => .d x
theorem zf_rel {M : Mem} {G : Nat → Value} {x : D} {v : Value} (h : zB v x = true) : RelA M G (zf x) v := by
  have h' := relD_of_zB h M
  unfold zf
  split
  · unfold zB at h
    split at h <;> first | contradiction | skip
    exact .full .slnil trivial
  · exact .d h'
theorem cells_zeroF {P : Program} {M : Mem} {G : Nat → Value} {T : TT} (hT : TOk P T) {t : Nat} {i : TI} (ht : tget T t = some i) : ∃ z, (∀ w, (zeroValue t).run P w = .ok z w) ∧ CellsRel M G (i.zero.map zf) z.cells := by
  obtain ⟨j, h1, h2, h3, z, h4, h5, h6, h7⟩ := (hT.facts ht).info
  refine ⟨z, fun w => by simp [zeroValue, typeInfo, h1, h4], by simpa using h5.symm, fun n v hv => ?_, fun n x v hx hv => ?_⟩
  · have hlt : n < i.zero.length := by rw [← h5]; simpa using (Array.getElem?_eq_some_iff.1 hv).1
    exact (relD_of_zB (h6 n v _ hv (List.getElem?_eq_getElem hlt)) M).one
  · rw [List.getElem?_map] at hx
    cases hz : i.zero[n]? with
    | none => rw [hz] at hx; cases hx
    | some y =>
      rw [hz] at hx
      simp only [Option.map_some, Option.some.injEq] at hx
      subst hx
      exact zf_rel (h6 n v y hv hz)
def stepNF (C : Cx) (L : List Oper) (o : Oper) (env : Env) (H : Heap) : Option (Option Nat × Nat × Heap) :=
  match wantedA L env o, o.op with
  | some true, .alloc t => match tget C.T t with
    | some i => match frcL (i.zero.map zf) with
      | some cs => match pushH H (.row cs t), dstF o with | some (n, H'), some d => some (d, n, H') | _, _ => none
      | none => none
    | none => none
  | _, _ => none
theorem AOps.nf {F : Fx} (hC : CxOk F.C) {L l : List Oper} {o : Oper} {env : Env} {H H' : Heap} {Q : Env → Heap → Prop} {d : Option Nat} {n : Nat} (h : stepNF F.C L o env H = some (d, n, H'))
    (k : AOps F L l (put env d (.ref n 0)) H' Q) : AOps F L (o :: l) env H Q := by
  unfold stepNF at h
  split at h
  · rename_i t hw ho
    split at h
    · rename_i i ht
      split at h
      · rename_i cs hcs
        split at h
        · rename_i n' H2 d' hp hd
          simp only [Option.some.injEq, Prod.mk.injEq] at h
          obtain ⟨rfl, rfl, rfl⟩ := h
          obtain ⟨rfl, rfl⟩ := pushH_eq hp
          have := frcL_eq hcs
          subst this
          refine aops_step hw fun fr M G w a K Qw hK hd' hs hsi hk => ?_
          obtain ⟨z, h1, h2⟩ := cells_zeroF (M := M) (G := G) hC.tok ht
          have hr : (execOp a.eval o).run F.C.P w = .ok (.value (.pointer (some ⟨w.heap.size, 0, none⟩))) (w.alloc (.cells z.cells t)) := by
            unfold execOp
            simp [ho, Instr.alloc, h1, newVar, newRow]
          unfold Oper.wp
          rw [hr]
          rw [← dstF_eq hd] at k
          exact hk _ _ _ _ _ _ _ k (hs.newRow (dstOk_spec hd') h2) (Since.newRow hsi)
        · cases h
      · cases h
    · cases h
  · cases h

/-! ### a look into no map -/

/-! ### is a slice nil? -/

def stepZ (C : Cx) (L : List Oper) (o : Oper) (env : Env) : Option (Option Nat × List Row) :=
  match wantedA L env o, o.op, dstF o with
  | some true, .binOp .eql t x (.const (.slice none 0 0)) _, some d => match tget C.T t, rowsOf (ev C.GL env x) with
    | some i, some rows => match i.u with
      | .sl _ => some (d, rows)
      | _ => none
    | _, _ => none
  | _, _, _ => none
theorem AOps.z {F : Fx} (hC : CxOk F.C) {L l : List Oper} {o : Oper} {env : Env} {H : Heap} {Q : Env → Heap → Prop} {d : Option Nat} {rows : List Row} (h : stepZ F.C L o env = some (d, rows)) (k : ∀ b : Bool, (b = true → rows = []) → AOps F L l (put env d (.d (.bool b))) H Q) : AOps F L (o :: l) env H Q := by
  unfold stepZ at h
  split at h
  · rename_i t x yt d' hw ho hd
    split at h
    · rename_i i rows ht hr
      split at h
      · rename_i e hu
        simp only [Option.some.injEq, Prod.mk.injEq] at h
        obtain ⟨rfl, rfl⟩ := h
        refine aops_step hw fun fr M G w a K Qw hK hdok hs hsi hk => ?_
        have hx := rowsOf_rel hr (hs.eval x)
        have hdd := under_sl (hC.tok.facts ht) hu
        have he : a.eval (.const (.slice none 0 0)) = .slice none 0 0 := rfl
        have key : ∃ b : Bool, (b = true → rows = []) ∧ (execOp a.eval o).run F.C.P w = .ok (.value (.bool b)) w := by
          generalize hv : a.eval x = v at hx
          have dd : ∀ (v : Value) (b : Bool), (∀ n, (Op.equalIn (n + 1) t v (.slice none 0 0)).run F.C.P w = .ok b w) → binOp .eql t v (.slice none 0 0) = (do pure (.bool (← Op.equal t v (.slice none 0 0)))) → binOp .neq t v (.slice none 0 0) = (do pure (.bool (!(← Op.equal t v (.slice none 0 0))))) →
              v ≠ .nilIface → (∀ u, v ≠ .agg u) → a.eval x = v → (execOp a.eval o).run F.C.P w = .ok (.value (.bool b)) w := fun v b e1 e2 e3 e4 e5 e6 => by
            obtain ⟨u, hu1, hu2⟩ := eq_does (P := F.C.P) (M := M) (G := G) (w := w) (op := .eql) (neg := false) (.inl ⟨rfl, rfl⟩) b e1 e2 e3
            have hub : u = .bool b := by cases hu2; rename_i hh; cases hh; rfl
            subst hub
            unfold execOp
            simp only [ho, e6, he, Sem.run_bind, guard_free e4 e5, Result.andThen_ok, hu1, Sem.run_pure]
          cases hx with
          | slnil => exact ⟨true, fun _ => rfl, dd _ true (fun n => by simp [Op.equalIn, run_underlying hdd]) rfl rfl (by simp) (by simp) hv⟩
          | sl sz vals hl hc hm hs' hz h1 h2 => exact ⟨false, (fun h => by cases h), dd _ false (fun n => by simp [Op.equalIn, run_underlying hdd]) rfl rfl (by simp) (by simp) hv⟩
        obtain ⟨b, hnil, hb⟩ := key
        unfold Oper.wp
        rw [hb]
        have kb := k b hnil
        rw [← dstF_eq hd] at kb
        exact hk _ _ _ _ _ _ _ kb (hs.quiet (dstOk_spec hdok) (.d .bool) hs.good (Ext.refl _ _ _)) (hsi.quiet (Ext.refl _ _ _))
      · cases h
    · cases h
  · cases h

/-! ### slices that are about to grow -/

end Go.Am

namespace Go.Am

end Go.Am

namespace Go.Am

/-! ### structs of scalars, compared -/

section
variable {P : Program} {M : Mem} {G : Nat → Value} {w : World}

end

end Go.Am

namespace Go.Am

def stepMk (C : Cx) (L : List Oper) (o : Oper) (env : Env) : Option (Option Nat × Nat × Int × Int × Nat × D) :=
  match wantedA L env o, o.op, dstF o with
  | some true, .makeSlice t lx cx, some d => match tget C.T t, ev C.GL env lx, ev C.GL env cx with
    | some i, .d (.int .i64 n), .d (.int .i64 m) => match i.u with
      | .sl e => match tget C.T e with
        | some j => match j.zero with
          | [z] => bif Nat.beq j.size 1 && Nat.ble 1 j.bytes then some (d, e, n, m, j.bytes, z) else none
          | _ => none
        | none => none
      | _ => none
    | _, _, _ => none
  | _, _, _ => none

theorem AOps.mk {F : Fx} (hC : CxOk F.C) {L l : List Oper} {o : Oper} {env : Env} {H H' : Heap} {Q : Env → Heap → Prop} {d : Option Nat} {e p : Nat} {n m : Int} {bytes : Nat} {z : D} (h : stepMk F.C L o env = some (d, e, n, m, bytes, z))
    (hnm : m = n) (h0 : 0 ≤ n ∧ n.toNat * bytes ≤ 140737488355328) {cs : List A} (hcs : cs = List.replicate n.toNat (.d z)) (hp : pushH H (.row cs e) = some (p, H')) (k : AOps F L l (put env d (.rsl p 0 n.toNat n.toNat)) H' Q) : AOps F L (o :: l) env H Q := by
  unfold stepMk at h
  split at h
  · rename_i t lx cx d' hw ho hd
    split at h
    · rename_i i n' m' ht hlx hcx
      split at h
      · rename_i e' hu
        split at h
        · rename_i j he
          split at h
          · rename_i z' hz
            cases hb : Nat.beq j.size 1 && Nat.ble 1 j.bytes with
            | false => rw [hb] at h; cases h
            | true =>
              rw [hb] at h
              simp only [cond_true, Option.some.injEq, Prod.mk.injEq] at h
              obtain ⟨rfl, rfl, rfl, rfl, rfl, rfl⟩ := h
              simp only [Bool.and_eq_true] at hb
              have hs1 := Nat.eq_of_beq_eq_true hb.1
              have hb1 := Nat.le_of_ble_eq_true hb.2
              subst hnm
              subst hcs
              obtain ⟨rfl, rfl⟩ := pushH_eq hp
              obtain ⟨hn0, hroom⟩ := h0
              obtain ⟨N, rfl⟩ : ∃ N : Nat, m' = N := ⟨m'.toNat, by omega⟩
              simp only [Int.toNat_natCast] at *
              have hNle : N ≤ 140737488355328 := Nat.le_trans (Nat.le_mul_of_pos_right N hb1) hroom
              refine aops_step hw fun fr M G w a K Qw hK hdok hs hsi hk => ?_
              have hx1 := hs.eval lx
              have hx2 := hs.eval cx
              rw [hlx] at hx1
              rw [hcx] at hx2
              generalize hv1 : a.eval lx = v1 at hx1
              generalize hv2 : a.eval cx = v2 at hx2
              cases hx1; rename_i hx1; cases hx1
              cases hx2; rename_i hx2; cases hx2
              have hdd := under_sl (hC.tok.facts ht) hu
              obtain ⟨j', q1, q2, q3, z1, q4, q5, q6, q7⟩ := (hC.tok.facts he).info
              have hzv : ∃ zv, z1.cells = #[zv] ∧ zB zv z' = true := by
                have hl : z1.cells.toList.length = 1 := by rw [q5, hz]; rfl
                have h1 : (0 : Nat) < z1.cells.size := by simp at hl; omega
                refine ⟨z1.cells[0], ?_, q6 0 _ _ (Array.getElem?_eq_getElem h1) (by rw [hz]; rfl)⟩
                apply Array.ext
                · simp at hl; simp [hl]
                · intro i h2 h3
                  simp at h3
                  subst h3
                  simp
              obtain ⟨zv, hzc, hzb⟩ := hzv
              have hbytes : ((j'.bytes : Int) * (N : Int)) ≤ 281474976710656 := by
                have : j.bytes * N ≤ 140737488355328 := by rw [Nat.mul_comm]; exact hroom
                have h2 : ((j.bytes * N : Nat) : Int) = (j.bytes : Int) * (N : Int) := by simp
                rw [q3]
                omega
              have hrun : (execOp a.eval o).run F.C.P w = .ok (.value (.slice (some ⟨w.heap.size, 0, none⟩) N N)) (w.alloc (.cells (madeCells z1.cells (N * j'.size)) e')) := by
                have := run_make (P := F.C.P) w t e' j' z1 hdd q1 q4 .i64 .i64 N N (by omega) (Int.le_refl _) hbytes (by omega)
                simp only [Int.toNat_natCast] at this
                unfold execOp
                simp only [ho, hv1, hv2, Sem.run_bind, this, Result.andThen_ok, Sem.run_pure]
              have hrel : CellsRel M G (List.replicate N (.d z')) (madeCells z1.cells (N * j'.size)) := by
                rw [q2, hs1, hzc, Nat.mul_one]
                have hget : ∀ (i : Nat) v, (madeCells #[zv] N)[i]? = some v → v = zv := fun i v hv => by
                  unfold madeCells at hv
                  rw [Array.getElem?_map] at hv
                  cases hr : (Array.range N)[i]? with
                  | none => rw [hr] at hv; cases hv
                  | some q => rw [hr] at hv; simp [Nat.mod_one] at hv; exact hv.symm
                refine ⟨by simp [madeCells], fun i v hv => ?_, fun i x v hx hv => ?_⟩
                · rw [hget i v hv]; exact (relD_of_zB hzb M).one
                · rw [hget i v hv]
                  rw [List.getElem?_replicate] at hx
                  split at hx
                  · cases hx; exact .d (relD_of_zB hzb M)
                  · cases hx
              have h1 := hs.newRow (dst := none) (by simp) hrel (elem := e')
              have h2 := Since.newRow hsi (cs := List.replicate N (.d z')) (vs := madeCells z1.cells (N * j'.size)) (elem := e')
              have h3 := h1.quiet (dstOk_spec hdok) (x := .rsl H.length 0 N N) (v := .slice (some ⟨w.heap.size, 0, none⟩) N N) (.rsl updG_same (Nat.le_refl _) (by unfold maxLen; omega)) h1.good (Ext.refl _ _ _)
              unfold Oper.wp
              rw [hrun]
              rw [← dstF_eq hd] at k
              exact hk _ _ _ _ _ _ _ k h3 (h2.quiet (Ext.refl _ _ _))
          · cases h
        · cases h
      · cases h
    · cases h
  · cases h

/-- a cell is read whose place is reckoned -/
def stepLd (C : Cx) (L : List Oper) (o : Oper) (env : Env) (H : Heap) : Option (Option Nat × List A × Nat) :=
  match wantedA L env o, o.op, dstF o with
  | some true, .load t x, some d => match tget C.T t, ev C.GL env x with
    | some i, .ref p off => bif i.u.agg then none else match nth H p with
      | some (.row cells _) => some (d, cells, off)
      | _ => none
    | _, _ => none
  | _, _, _ => none
theorem AOps.ld {F : Fx} (hC : CxOk F.C) {L l : List Oper} {o : Oper} {env : Env} {H : Heap} {Q : Env → Heap → Prop} {d : Option Nat} {cells : List A} {off : Nat} {y : A} (h : stepLd F.C L o env H = some (d, cells, off)) (hy : cells[off]? = some y)
    (k : AOps F L l (put env d y) H Q) : AOps F L (o :: l) env H Q := by
  unfold stepLd at h
  split at h
  · rename_i t x d' hw ho hd
    split at h
    · rename_i i p off' ht hx
      cases hag : i.u.agg with
      | true => rw [hag] at h; cases h
      | false =>
        rw [hag] at h
        simp only [cond_false] at h
        split at h
        · rename_i cs e hn
          simp only [Option.some.injEq, Prod.mk.injEq] at h
          obtain ⟨rfl, rfl, rfl⟩ := h
          refine .op hC hw (x := y) (c := True) ?_ trivial (by rw [dstF_eq hd]; exact k)
          have : loadA i (ev F.C.GL env x) H = some y := by
            rw [hx]
            simp only [loadA, hn, readA, hag, cond_false, nth_eq, List.getElem?_drop, Nat.add_zero]
            exact hy
          simp [opA, ho, ht, this]
        · cases h
    · cases h
  · cases h

end Go.Am

namespace Go.Am
open Go.ChangeShapes

/-- all memory that there is -/
def memOf (W : World) : Mem := fun a => if a.spot = none then W.cell? a else none
theorem memOf_good (W : World) : Good (memOf W) W := by
  intro a v h
  unfold memOf at h
  split at h
  · rename_i hs; exact ⟨hs, h⟩
  · cases h

/-- cells of data against a list of values -/
def CellsD (M : Mem) (ds : List D) (cs : List Value) : Prop := ds.length = cs.length ∧ ∀ (i : Nat) x v, ds[i]? = some x → cs[i]? = some v → RelD M x v

/-- what a measure of readings owes -/
structure Meas {H : Type} (μ : DataW H → Nat) : Prop where
  lit : ∀ l, 1 ≤ μ (.lit l)
  str : ∀ s, s.length + 1 ≤ μ (.lit (.string s))
  nil : 1 ≤ μ .nil
  sl : ∀ es sp, (es.map μ).sum + 1 ≤ μ (.slice es sp)
  agg : ∀ ps, (ps.map μ).sum + 1 ≤ μ (.agg ps)

/-- a reading at a type, in so many steps, is a value of α -/
def Rd {H : Type} (enc : TypeId × Value → H) (P : Program) (W : World) (μ : DataW H → Nat) (fuel : Nat) (t : TypeId) {α : Type} (f : α → Row) (bk : α → Nat) : Prop :=
  ∀ cs d ps, DataW.trod enc P W 0 (fun _ => true) true fuel t cs = some (d, ps) → ∃ x : α, CellsD (memOf W) (f x) cs ∧ bk x ≤ μ d

section
variable {H : Type} {enc : TypeId × Value → H} {P : Program} {W : World} {μ : DataW H → Nat} {fuel : Nat} {t : TypeId}

theorem Rd.zero {α : Type} {f : α → Row} {bk : α → Nat} : Rd enc P W μ 0 t f bk := fun cs d ps h => by simp [DataW.trod] at h

theorem cellsD1 {M : Mem} {x : D} {v : Value} (h : RelD M x v) : CellsD M [x] [v] := by
  refine ⟨rfl, fun i y u hy hu => ?_⟩
  cases i with
  | zero => simp at hy hu; subst hy; subst hu; exact h
  | succ i => simp at hy

theorem Rd.bool (hμ : Meas μ) (ht : P.underlying t = some .bool) : Rd enc P W μ fuel t (fun b : Bool => [D.bool b]) (fun _ => 1) := by
  cases fuel with
  | zero => exact .zero
  | succ n =>
    intro cs d ps h
    unfold DataW.trod at h
    rw [ht] at h
    split at h <;> first | (rename_i heq; cases heq; done) | skip
    all_goals first | (cases h; done) | skip
    rename_i b heq
    simp only [Option.some.injEq, Prod.mk.injEq] at h
    obtain ⟨rfl, rfl⟩ := h
    exact ⟨b, cellsD1 .bool, hμ.lit _⟩

theorem Rd.int (hμ : Meas μ) {k : IntKind} (ht : P.underlying t = some (.int k)) : Rd enc P W μ fuel t (fun n : Int => [D.int k n]) (fun _ => 1) := by
  cases fuel with
  | zero => exact .zero
  | succ n =>
    intro cs d ps h
    unfold DataW.trod at h
    rw [ht] at h
    split at h <;> first | (rename_i heq; cases heq; done) | skip
    all_goals first | (cases h; done) | skip
    rename_i k1 k' m heq
    cases heq
    split at h
    · rename_i hc
      simp only [Option.some.injEq, Prod.mk.injEq] at h
      obtain ⟨rfl, rfl⟩ := h
      obtain ⟨rfl, hwf⟩ := hc
      refine ⟨m, cellsD1 (.int ?_), hμ.lit _⟩
      simpa [Lit.wf, InK] using hwf
    · cases h

theorem Rd.str (hμ : Meas μ) (ht : P.underlying t = some .string) : Rd enc P W μ fuel t (fun s : Str => [D.str s]) (fun s => s.length + 1) := by
  cases fuel with
  | zero => exact .zero
  | succ n =>
    intro cs d ps h
    unfold DataW.trod at h
    rw [ht] at h
    split at h <;> first | (rename_i heq; cases heq; done) | skip
    all_goals first | (cases h; done) | skip
    rename_i s heq
    split at h
    · rename_i hc
      simp only [Option.some.injEq, Prod.mk.injEq] at h
      obtain ⟨rfl, rfl⟩ := h
      refine ⟨s.data.toList, cellsD1 ?_, hμ.str _⟩
      have : s = ⟨s.data.toList.toArray⟩ := by simp
      rw [this]
      exact .str (by simpa using hc)
    · cases h

theorem sum_le {α β : Type} {f : α → Nat} {g : β → Nat} : ∀ {l : List α} {m : List β}, l.length = m.length → (∀ (i : Nat) x y, l[i]? = some x → m[i]? = some y → f x ≤ g y) → (l.map f).sum ≤ (m.map g).sum
  | [], [], _, _ => Nat.le_refl _
  | x :: l, y :: m, hl, h => by
    have h0 := h 0 x y rfl rfl
    have ih := sum_le (l := l) (m := m) (by simpa using hl) (fun i a b ha hb => h (i + 1) a b (by simpa using ha) (by simpa using hb))
    simp only [List.map_cons, List.sum_cons]
    omega
  | [], _ :: _, hl, _ => by simp at hl
  | _ :: _, [], hl, _ => by simp at hl

theorem cells?_get {W : World} {a : Addr} {n : Nat} {cs : List Value} (h : W.cells? 0 a n = some cs) : cs.length = n ∧ ∀ (j : Nat) v, cs[j]? = some v → W.cell? (a.add j) = some v := by
  unfold World.cells? at h
  rw [if_pos (Nat.zero_le _)] at h
  have key : ∀ (l : List Nat) (cs : List Value), l.mapM (fun i => W.cell? (a.add i)) = some cs → cs.length = l.length ∧ ∀ (j : Nat) v, cs[j]? = some v → ∃ i, l[j]? = some i ∧ W.cell? (a.add i) = some v := by
    intro l
    induction l with
    | nil => intro cs h; simp at h; subst h; exact ⟨rfl, fun j v h => by simp at h⟩
    | cons i l ih =>
      intro cs h
      rw [List.mapM_cons] at h
      simp only [bind, Option.bind_eq_some_iff, pure, Option.some.injEq] at h
      obtain ⟨v, hv, vs, hvs, rfl⟩ := h
      obtain ⟨h1, h2⟩ := ih vs hvs
      refine ⟨by simp [h1], fun j u hu => ?_⟩
      cases j with
      | zero => simp at hu; subst hu; exact ⟨i, rfl, hv⟩
      | succ j => simpa using h2 j u (by simpa using hu)
  obtain ⟨h1, h2⟩ := key _ _ h
  refine ⟨by simpa using h1, fun j v hv => ?_⟩
  obtain ⟨i, hi, hc⟩ := h2 j v hv
  have hj : j < n := by have := (List.getElem?_eq_some_iff.1 hv).1; simp at h1; omega
  rw [List.getElem?_range hj] at hi
  cases hi
  exact hc

theorem memOf_cell {W : World} {a : Addr} {v : Value} (h : W.cell? a = some v) : memOf W a = some v ∧ a.spot = none := by
  have hs : a.spot = none := by
    unfold World.cell? at h
    split at h
    · split at h
      · cases h
      · rename_i hs; simpa using hs
    · cases h
  exact ⟨by unfold memOf; rw [if_pos hs]; exact h, hs⟩

theorem Rd.sl (hμ : Meas μ) {e sz : Nat} {α : Type} [Inhabited α] {f : α → Row} {bk : α → Nat} (ht : P.underlying t = some (.slice e)) (hP : P.cellsOf e = sz) (hpos : 1 ≤ sz) (hsz : ∀ x, (f x).length = sz) (he : ∀ n, n < fuel → Rd enc P W μ n e f bk) :
    Rd enc P W μ fuel t (fun l : List α => [D.sl (l.map f)]) (fun l => (l.map bk).sum + 1) := by
  intro cs d ps h
  rcases DataW.trod_slice ht h with ⟨rfl, hx⟩ | ⟨a, len, cap, elems, rest, n, hn, rfl, hx, _, hlc, hcm, hlen, hel, hsp, _⟩
  · cases hx
    exact ⟨[], cellsD1 .slnil, hμ.nil⟩
  · have h1 : ∀ i : _root_.Fin len, ∃ x : α, ∃ ci di, W.cells? 0 (a.add (i.val * sz)) sz = some ci ∧ elems[i.val]? = some di ∧ CellsD (memOf W) (f x) ci ∧ bk x ≤ μ di.1 := by
      intro i
      have := hel i.val i.isLt
      have hlt : i.val < elems.length := by omega
      rw [List.getElem?_eq_getElem hlt, hP] at this
      obtain ⟨ci, h2, h3⟩ := Option.bind_eq_some_iff.1 this
      obtain ⟨x, h4, h5⟩ := he n (by omega) ci _ _ h3
      exact ⟨x, ci, _, h2, List.getElem?_eq_getElem hlt, h4, h5⟩
    let g : _root_.Fin len → α := fun i => Classical.choose (h1 i)
    have hg : ∀ i : _root_.Fin len, ∃ ci di, W.cells? 0 (a.add (i.val * sz)) sz = some ci ∧ elems[i.val]? = some di ∧ CellsD (memOf W) (f (g i)) ci ∧ bk (g i) ≤ μ di.1 := fun i => Classical.choose_spec (h1 i)
    have hget : ∀ (i : Nat) x, (List.ofFn g)[i]? = some x → ∃ h : i < len, x = g ⟨i, h⟩ := fun i x hx => by
      rw [List.getElem?_ofFn] at hx
      split at hx
      · rename_i h; exact ⟨h, by cases hx; rfl⟩
      · cases hx
    cases hx
    refine ⟨List.ofFn g, cellsD1 (.sl sz (fun i j => (W.cell? (a.add (i * sz + j))).getD undef) (by simp) hlc hcm ?_ ?_ ?_ ?_), ?_⟩
    · by_cases h0 : cap = 0
      · exact .inl h0
      · refine .inr ?_
        have hc0 : ∃ ci, W.cells? 0 (a.add (0 * sz)) sz = some ci := by
          by_cases hl0 : 0 < len
          · obtain ⟨ci, di, h2, _⟩ := hg ⟨0, hl0⟩
            exact ⟨ci, h2⟩
          · have hl0' : len = 0 := by omega
            obtain ⟨h2, h3⟩ := hsp rfl
            have h4 := h3 0 (by omega)
            have hlt : 0 < rest.length := by omega
            rw [List.getElem?_eq_getElem hlt, hP, hl0'] at h4
            obtain ⟨ci, h5, _⟩ := Option.bind_eq_some_iff.1 h4
            exact ⟨ci, by simpa using h5⟩
        obtain ⟨ci, hci⟩ := hc0
        obtain ⟨h2, h3⟩ := cells?_get hci
        have h4 : ci[0]? = some ci[0] := List.getElem?_eq_getElem (by omega)
        have := (memOf_cell (h3 0 _ h4)).2
        simpa [Addr.add] using this
    · intro i r hr
      rw [List.getElem?_map] at hr
      cases hx : (List.ofFn g)[i]? with
      | none => rw [hx] at hr; cases hr
      | some x => rw [hx] at hr; cases hr; exact hsz x
    · intro i j r x hr hx
      rw [List.getElem?_map] at hr
      cases hy : (List.ofFn g)[i]? with
      | none => rw [hy] at hr; cases hr
      | some y =>
        rw [hy] at hr; cases hr
        obtain ⟨hi, rfl⟩ := hget i y hy
        obtain ⟨ci, di, h2, h3, ⟨h4, h5⟩, h6⟩ := hg ⟨i, hi⟩
        obtain ⟨h7, h8⟩ := cells?_get h2
        have hj : j < ci.length := by rw [← h4]; exact (List.getElem?_eq_some_iff.1 hx).1
        have h9 := h8 j _ (List.getElem?_eq_getElem hj)
        rw [addr_add_add] at h9
        rw [(memOf_cell h9).1, h9]
        rfl
    · intro i j r x hr hx
      rw [List.getElem?_map] at hr
      cases hy : (List.ofFn g)[i]? with
      | none => rw [hy] at hr; cases hr
      | some y =>
        rw [hy] at hr; cases hr
        obtain ⟨hi, rfl⟩ := hget i y hy
        obtain ⟨ci, di, h2, h3, ⟨h4, h5⟩, h6⟩ := hg ⟨i, hi⟩
        obtain ⟨h7, h8⟩ := cells?_get h2
        have hj : j < ci.length := by rw [← h4]; exact (List.getElem?_eq_some_iff.1 hx).1
        have h9 := h8 j _ (List.getElem?_eq_getElem hj)
        rw [addr_add_add] at h9
        rw [h9]
        exact h5 j x _ hx (List.getElem?_eq_getElem hj)
    · refine Nat.le_trans ?_ (hμ.sl _ _)
      rw [List.map_map]
      refine Nat.succ_le_succ (sum_le (by simp [hlen]) fun i x y hx hy => ?_)
      obtain ⟨hi, rfl⟩ := hget i x hx
      obtain ⟨ci, di, h2, h3, h4, h6⟩ := hg ⟨i, hi⟩
      simp only at h3
      rw [h3] at hy
      cases hy
      exact h6

/-! ### structs: field by field -/

/-- the fields of a struct, from some place on -/
def FRd {H : Type} (enc : TypeId × Value → H) (P : Program) (W : World) (μ : DataW H → Nat) (fuel : Nat) (fs : List Field) (off : Nat) {α : Type} (f : α → Row) (bk : α → Nat) : Prop :=
  ∀ (cs : List Value) (xs : List (DataW H × List MemPlace)), xs.length = fs.length → (∀ (i : Nat) (g : Field), fs[i]? = some g → DataW.trod enc P W 0 (fun _ => true) true fuel g.type ((cs.drop g.offset).take (P.cellsOf g.type)) = xs[i]?) → ∃ x : α, (∀ (i : Nat) y v, (f x)[i]? = some y → cs[off + i]? = some v → RelD (memOf W) y v) ∧ bk x ≤ (xs.map fun y => μ y.1).sum

theorem FRd.nil {off : Nat} : FRd enc P W μ fuel [] off (fun _ : Unit => []) (fun _ => 0) := by
  intro cs xs hl _
  obtain rfl := List.eq_nil_of_length_eq_zero hl
  exact ⟨(), fun i y v h => by simp at h, Nat.le_refl _⟩

theorem FRd.cons {α β : Type} {f : α → Row} {g : β → Row} {bk : α → Nat} {bk' : β → Nat} {fs : List Field} {fd : Field} {off sz : Nat} (h1 : Rd enc P W μ fuel fd.type f bk) (ho : fd.offset = off) (hP : P.cellsOf fd.type = sz) (hsz : ∀ x, (f x).length = sz) (h2 : FRd enc P W μ fuel fs (off + sz) g bk') :
    FRd enc P W μ fuel (fd :: fs) off (fun p : α × β => f p.1 ++ g p.2) (fun p => bk p.1 + bk' p.2) := by
  intro cs xs hl h
  cases xs with
  | nil => simp at hl
  | cons y ys =>
  obtain ⟨d, ps⟩ := y
  obtain ⟨x, ⟨e1, e2⟩, e3⟩ := h1 _ _ _ (h 0 fd rfl)
  obtain ⟨x', e4, e5⟩ := h2 cs ys (by simpa using hl) (fun i g hg => by simpa using h (i + 1) g (by simpa using hg))
  refine ⟨(x, x'), fun i z v hz hv => ?_, by simp only [List.map_cons, List.sum_cons]; omega⟩
  rcases Nat.lt_or_ge i sz with hi | hi
  · rw [List.getElem?_append_left (by rw [hsz]; exact hi)] at hz
    refine e2 i z v hz ?_
    rw [ho, hP, List.getElem?_take, if_pos hi, List.getElem?_drop]
    exact hv
  · rw [List.getElem?_append_right (by rw [hsz]; exact hi), hsz] at hz
    refine e4 (i - sz) z v hz ?_
    rw [show off + sz + (i - sz) = off + i by omega]
    exact hv

theorem Rd.st (hμ : Meas μ) {fs : Array Field} {l : List Field} {α β : Type} {f : α → Row} {g : β → Row} {bk : α → Nat} {bk' : β → Nat} {sz : Nat} (ht : P.underlying t = some (.struct fs)) (hl : fs.toList = l) (hP : P.cellsOf t = sz) (hsz : ∀ x, (g x).length = sz)
    (h : ∀ n, n < fuel → FRd enc P W μ n l 0 f bk) (mk : α → β) (hf : ∀ x, f x = g (mk x)) (hb : ∀ x, bk' (mk x) ≤ bk x + 1) : Rd enc P W μ fuel t g bk' := by
  intro cs d ps hd
  obtain ⟨xs, n, hn, hx, hlen, hxl, hxs⟩ := DataW.trod_struct ht hd
  cases hx
  obtain ⟨x, h3, h4⟩ := h n (by omega) cs xs (by rw [hxl, ← hl]; simp) (fun i g hg => hxs i g (by rw [← hl] at hg; simpa using hg))
  refine ⟨mk x, ⟨by rw [hsz, hlen, hP], fun i y v hy hv => h3 i y v (by rw [hf]; exact hy) (by simpa using hv)⟩, ?_⟩
  have := hμ.agg (xs.map (·.1))
  rw [List.map_map] at this
  have h5 := hb x
  have h6 : (xs.map fun y => μ y.1).sum = (xs.map (μ ∘ fun x => x.fst)).sum := rfl
  omega

end
end Go.Am

namespace Go.Am
open Go.ChangeShapes

theorem mapM_turn {α β : Type} {f g : α → Option β} : ∀ {l : List α} {r : List β}, l.mapM f = some r → (∀ x ∈ l, ∀ y ∈ r, f x = some y → g x = some y) → l.mapM g = some r
  | [], r, h, _ => by simpa using h
  | x :: l, r, h, hfg => by
    rw [List.mapM_cons] at h ⊢
    simp only [bind, Option.bind_eq_some_iff, pure, Option.some.injEq] at h ⊢
    obtain ⟨y, hy, ys, hys, rfl⟩ := h
    exact ⟨y, hfg x (by simp) y (by simp) hy, ys, mapM_turn hys (fun x hx y hy' => hfg x (by simp [hx]) y (by simp [hy'])), rfl⟩

theorem mapM_range_get {α : Type} (l : List α) : (List.range l.length).mapM (fun i => l[i]?) = some l := by
  have key : ∀ (m : List α) (k : Nat), (∀ j, m[j]? = l[k + j]?) → (List.range' k m.length).mapM (fun i => l[i]?) = some m := by
    intro m
    induction m with
    | nil => intro k _; rfl
    | cons x m ih =>
      intro k h
      rw [List.length_cons, List.range'_succ, List.mapM_cons]
      have h0 := h 0
      simp at h0
      have := ih (k + 1) (fun j => by have := h (j + 1); simp at this; rw [this]; congr 1; omega)
      simp only [bind, Option.bind_eq_some_iff, pure, Option.some.injEq]
      exact ⟨x, h0.symm, m, this, rfl⟩
  rw [List.range_eq_range']
  exact key l 0 (fun j => by simp)

/-- types of plain data, closed -/
def Plain (P : Program) (S : TypeId → Prop) : Prop :=
  ∀ t, S t → P.underlying t = some .bool ∨ (∃ k, P.underlying t = some (.int k)) ∨ P.underlying t = some .string ∨ (∃ e, P.underlying t = some (.slice e) ∧ S e ∧ 1 ≤ P.cellsOf e) ∨ ∃ fs, P.underlying t = some (.struct fs) ∧ ∀ f ∈ fs.toList, S f.type

section
variable {H : Type} {enc : TypeId × Value → H} {P : Program} {W W' : World} {S : TypeId → Prop}

theorem cells?_same (hb : ∀ b, b < W.heap.size → W'.heap[b]? = W.heap[b]?) {a : Addr} {n : Nat} {cs : List Value} (h : W.cells? 0 a n = some cs) : W'.cells? 0 a n = some cs := by
  unfold World.cells? at *
  rw [if_pos (Nat.zero_le _)] at *
  refine mapM_turn h fun i _ y _ hy => ?_
  rw [cell_of_block (hb _ (World.block_lt_of_cell? W _ hy))]
  exact hy

theorem trod_same (hS : Plain P S) (hb : ∀ b, b < W.heap.size → W'.heap[b]? = W.heap[b]?) {sp : Nat → Bool} : ∀ (fuel : Nat) (t : TypeId) (cs : List Value) (x : DataW H × List MemPlace), S t → DataW.trod enc P W 0 (fun _ => true) true fuel t cs = some x →
    (∀ p ∈ x.2, sp p.block = true) → DataW.trod enc P W' 0 sp true fuel t cs = some x := by
  intro fuel
  induction fuel with
  | zero => intro t cs x _ h; simp [DataW.trod] at h
  | succ n ih =>
    intro t cs x hSt h hx
    rcases hS t hSt with ht | ⟨k, ht⟩ | ht | ⟨e, ht, hSe, hpos⟩ | ⟨fs, ht, hSf⟩
    · obtain ⟨b, rfl, rfl⟩ := DataW.trod_bool ht h
      unfold DataW.trod
      rw [ht]
    · have h2 := h
      obtain ⟨m, rfl, rfl, _⟩ := DataW.trod_int ht h
      unfold DataW.trod at h2 ⊢
      rw [ht] at h2 ⊢
      exact h2
    · have h2 := h
      obtain ⟨s, rfl, rfl, _⟩ := DataW.trod_string ht h
      unfold DataW.trod at h2 ⊢
      rw [ht] at h2 ⊢
      exact h2
    · have h0 := h
      rcases DataW.trod_slice ht h with ⟨rfl, rfl⟩ | ⟨a, len, cap, elems, rest, n', hn, rfl, rfl, _, hlc, hcm, hlen, hel, hsp, _⟩
      · unfold DataW.trod
        rw [ht]
        rfl
      · have hn' : n = n' := by omega
        subst hn'
        have hspare : cap - len = 0 ∨ sp a.block = true := by
          by_cases hc : cap = 0
          · exact .inl (by omega)
          · refine .inr (hx (.cell a.block a.off) ?_)
            simp only [List.mem_append]
            refine .inl (MemPlace.mem_row.2 ⟨0, ?_, ?_⟩)
            · have h1 := (hsp rfl).1
              have : 0 < elems.length + rest.length := by omega
              exact Nat.mul_pos this hpos
            · simp
        have hdo : ∀ (i : Nat) (y : DataW H × List MemPlace), (∀ p ∈ y.2, sp p.block = true) → (W.cells? 0 (a.add (i * P.cellsOf e)) (P.cellsOf e)).bind (DataW.trod enc P W 0 (fun _ => true) true n e) = some y →
            (W'.cells? 0 (a.add (i * P.cellsOf e)) (P.cellsOf e)).bind (DataW.trod enc P W' 0 sp true n e) = some y := fun i y hy h1 => by
          obtain ⟨ci, h2, h3⟩ := Option.bind_eq_some_iff.1 h1
          rw [cells?_same hb h2]
          exact ih e ci y hSe h3 hy
        have hmem : ∀ y ∈ elems ++ rest, ∀ p ∈ y.2, sp p.block = true := fun y hy p hp => hx p (by
          simp only [List.mem_append, List.mem_flatMap]
          exact .inr ⟨y, by simpa using hy, hp⟩)
        have m1 : (List.range len).mapM (fun i => (W'.cells? 0 (a.add (i * P.cellsOf e)) (P.cellsOf e)).bind (DataW.trod enc P W' 0 sp true n e)) = some elems := by
          have : (List.range len).mapM (fun i => elems[i]?) = some elems := by rw [← hlen]; exact mapM_range_get elems
          refine mapM_turn this fun i hi y hy h1 => hdo i y (hmem y (by simp [hy])) ?_
          rw [hel i (List.mem_range.1 hi)]
          exact h1
        have m2 : (if sp a.block then (List.range (cap - len)).mapM (fun j => (W'.cells? 0 (a.add ((len + j) * P.cellsOf e)) (P.cellsOf e)).bind (DataW.trod enc P W' 0 sp true n e)) else some []) = some rest := by
          obtain ⟨h1, h2⟩ := hsp rfl
          rcases hspare with hc | hc
          · have : rest = [] := List.eq_nil_of_length_eq_zero (by omega)
            subst this
            rw [hc]
            split <;> rfl
          · rw [if_pos hc]
            have : (List.range (cap - len)).mapM (fun i => rest[i]?) = some rest := by rw [← h1]; exact mapM_range_get rest
            refine mapM_turn this fun j hj y hy h3 => hdo (len + j) y (hmem y (by simp [hy])) ?_
            rw [h2 j (List.mem_range.1 hj)]
            exact h3
        unfold DataW.trod
        rw [ht]
        simp only [Nat.zero_le, hlc, hcm, and_self, if_true, m1, m2, Option.bind_some, Option.map_some]
    · obtain ⟨xs, n', hn, rfl, hl, hlen, hf⟩ := DataW.trod_struct ht h
      have hn' : n = n' := by omega
      subst hn'
      refine trod_struct_mk ht hl ?_
      have key : ∀ (l : List Field) (ys : List (DataW H × List MemPlace)), ys.length = l.length → (∀ f ∈ l, S f.type) → (∀ y ∈ ys, ∀ p ∈ y.2, sp p.block = true) →
          (∀ (i : Nat) f, l[i]? = some f → DataW.trod enc P W 0 (fun _ => true) true n f.type ((cs.drop f.offset).take (P.cellsOf f.type)) = ys[i]?) →
          l.mapM (fun f => DataW.trod enc P W' 0 sp true n f.type ((cs.drop f.offset).take (P.cellsOf f.type))) = some ys := by
        intro l
        induction l with
        | nil => intro ys h1 _ _ _; obtain rfl := List.eq_nil_of_length_eq_zero h1; rfl
        | cons f l ihl =>
          intro ys h1 h2 h3 h4
          cases ys with
          | nil => simp at h1
          | cons y ys =>
            rw [List.mapM_cons]
            simp only [bind, Option.bind_eq_some_iff, pure, Option.some.injEq]
            exact ⟨y, ih _ _ y (h2 f (by simp)) (by simpa using h4 0 f rfl) (h3 y (by simp)), ys, ihl ys (by simpa using h1) (fun g hg => h2 g (by simp [hg])) (fun z hz => h3 z (by simp [hz])) (fun i g hg => by simpa using h4 (i + 1) g (by simpa using hg)), rfl⟩
      refine key fs.toList xs (by simpa using hlen) hSf (fun y hy p hp => hx p (by simp only [List.mem_flatMap]; exact ⟨y, hy, hp⟩)) fun i f hi => hf i f (by simpa using hi)

theorem post_kept {f : Func} {s : ChangeSpec} {apart fresh handsOn again : Bool} {args : Array Value} {v : Value} {ds gs : List (DataW H)} {before pa pv : List MemPlace}
    (hW : DataW.Whole enc P f.params.toList s.vars apart W args.toList ds gs before)
    (hres : ∀ (b : Nat) (sp : Nat → Bool) (hd : Bool), DataW.TrodAll enc P W' b sp hd f.resultTypes.toList (v.resultList f.resultTypes.size) (s.fn H (ds ++ gs)).results [])
    (hargs : ∀ sp : Nat → Bool, (∀ p ∈ before, sp p.block = true) → DataW.TrodAll enc P W' 0 sp true f.params.toList args.toList (s.fn H (ds ++ gs)).args pa)
    (hvars : ∀ sp : Nat → Bool, (∀ p ∈ before, sp p.block = true) → DataW.TrodVars enc P W' sp s.vars (s.fn H (ds ++ gs)).vars pv)
    (hps : before = pa ++ pv) (hk : W.keptBut W' (· ∈ before)) (hfz : ∀ a : Addr, a.block < W.heap.size → W'.frozen? a = W.frozen? a)
    (hok : ∀ (j : Nat) (t : TypeId) (r : Value), f.resultTypes[j]? = some t → (v.resultList f.resultTypes.size)[j]? = some r → Value.okWide P W' .any 0 t r) :
    s.post enc P f apart fresh handsOn again W args v W' := by
  have hlt := hW.lt
  have hold : ∀ p ∈ before, (fun b => decide (b < W.heap.size)) p.block = true := fun p hp => by simpa using hW.lt p hp
  refine ⟨ds, gs, before, [], pa, pv, hW, hres _ _ _, hargs _ hold, hvars _ hold, World.keptBut_mono (fun p hp => ⟨hp, ?_⟩) hk, fun _ => ?_⟩
  · rw [hps, List.mem_append] at hp
    exact Or.inr hp
  · obtain ⟨_, _, _, _, _, hz, hn⟩ := hW
    refine ⟨hok, _, _, ([] ++ pa) ++ pv, ⟨[] ++ pa, pv, trodAll_append (hargs _ (fun _ _ => rfl)) (hres _ _ _), hvars _ (fun _ _ => rfl), rfl, ?_, ?_⟩, ?_⟩
    · intro b off hp
      have hp' : MemPlace.cell b off ∈ before := by rw [hps]; simpa using hp
      rw [hfz _ (hlt _ hp')]
      exact hz b off hp'
    · intro ha
      have := hn ha
      rw [hps] at this
      simpa using this
    · intro p hp _
      rw [hps]
      simpa using hp

theorem keptBut_of {may : MemPlace → Prop} (hb : ∀ b, b < W.heap.size → W'.heap[b]? = W.heap[b]?) (ho : W'.os = W.os) (hout : W'.output = W.output) : W.keptBut W' may := by
  refine ⟨ho, hout, fun i hi => ?_⟩
  rw [hb i hi]
  cases h : W.heap[i]? with
  | none => rfl
  | some o => cases o <;> simp

theorem frozen_of {a : Addr} (hb : W'.heap[a.block]? = W.heap[a.block]?) : W'.frozen? a = W.frozen? a := by
  unfold World.frozen?
  rw [hb]

theorem trodAll_same (hS : Plain P S) (hb : ∀ b, b < W.heap.size → W'.heap[b]? = W.heap[b]?) {sp : Nat → Bool} : ∀ {ts : List TypeId} {vs : List Value} {ds : List (DataW H)} {ps : List MemPlace}, (∀ t ∈ ts, S t) → DataW.TrodAll enc P W 0 (fun _ => true) true ts vs ds ps →
    (∀ p ∈ ps, sp p.block = true) → DataW.TrodAll enc P W' 0 sp true ts vs ds ps
  | [], [], [], _, _, h, _ => h
  | t :: ts, v :: vs, d :: ds, ps, hSt, ⟨p, q, ⟨n, h1⟩, h2, e⟩, hp => by
    subst e
    exact ⟨p, q, ⟨n, trod_same hS hb n t _ _ (hSt t (by simp)) h1 (fun x hx => hp x (by simp [hx]))⟩, trodAll_same hS hb (fun t ht => hSt t (by simp [ht])) h2 (fun x hx => hp x (by simp [hx])), rfl⟩

/-- a contract that the law is true, as the statement's -/
theorem ofACall {C : Cx} (hP : C.P = P) {f : FuncId} {fn : Func} {s : ChangeSpec} {args : Array Value} {ds gs : List (DataW H)} {before : List MemPlace} {xs : List A} {b : TypeId}
    (hc : ACall C f xs [] (fun r H' => H' = [] ∧ r = .d (.bool true))) (hlen : xs.length = args.size) (hargs : ∀ (i : Nat) x v, xs[i]? = some x → args[i]? = some v → RelA (memOf W) (fun _ => .tuple #[]) x v) (hgl : GlOk C (memOf W) W)
    (hW : DataW.Whole enc P fn.params.toList s.vars false W args.toList ds gs before) (hv : s.vars = []) (hb : fn.resultTypes = #[b]) (hbt : P.underlying b = some .bool)
    (hsf : s.fn H ds = { results := [.lit (.bool true)], args := ds }) (hS : Plain P S) (hSt : ∀ t ∈ fn.params.toList, S t) :
    Calls P f args W fun e W' => ∃ v, e = .returned v ∧ s.post enc P fn false true false false W args v W' := by
  subst hP
  have hgs : gs = [] := by
    obtain ⟨p, q, _, h2, _⟩ := hW
    rw [hv] at h2
    cases gs with
    | nil => rfl
    | cons g gs => cases h2
  subst hgs
  have hH : HRel (memOf W) (fun _ => .tuple #[]) W [] := HRel.nil _ _
  refine (hc.2 (memOf W) (fun _ => .tuple #[]) W args (memOf_good W) hgl hH hlen hargs).mono fun e W' he => ?_
  obtain ⟨v, r, H', M', G', rfl, ⟨rfl, rfl⟩, hr, _, _, hext, _⟩ := he
  cases hr
  rename_i hr
  cases hr
  refine ⟨_, rfl, ?_⟩
  have hblk : ∀ k, k < W.heap.size → W'.heap[k]? = W.heap[k]? := fun k hk => hext.block k hk (fun ⟨o, x, h1, _⟩ => by simp at h1)
  have hW' := hW
  obtain ⟨p, q, hA, hV, hpq, hz, hn⟩ := hW'
  rw [hv] at hV
  have hq : q = [] := hV
  subst hq
  refine post_kept hW (pa := p) (pv := []) ?_ ?_ ?_ hpq (keptBut_of hblk hext.os hext.output) (fun a ha => frozen_of (hblk _ ha)) ?_
  · intro b' sp hd
    rw [List.append_nil, hsf, hb]
    exact trodAll_mk1 ⟨1, by unfold DataW.trod; rw [hbt]; rfl⟩
  · intro sp hsp
    rw [List.append_nil, hsf]
    exact trodAll_same hS hblk hSt hA (fun x hx => hsp x (by rw [hpq]; simp [hx]))
  · intro sp hsp
    rw [hv, List.append_nil, hsf]
    rfl
  · intro j t r h1 h2
    rw [hb] at h1 h2
    cases j with
    | succ j => simp at h1
    | zero =>
      simp at h1 h2
      subst h1
      have : r = .bool true := by simpa [Value.resultList] using h2.symm
      subst this
      exact Go.RowKit.okWide_bool_mk hbt _

/-- a struct -/
theorem arg_st {t : TypeId} {v : Value} {base : Nat} {xs : List D} {fs : Array Field} (hv : Value.okWide P W .any base t v) (ht : P.underlying t = some (.struct fs)) (h : CellsD (memOf W) xs v.cells.toList) : RelA (memOf W) (fun _ => .tuple #[]) (.agg (xs.map .d)) v := by
  unfold Value.okWide at hv
  rw [ht] at hv
  obtain ⟨cs, rfl, _⟩ := hv
  obtain ⟨h1, h2⟩ := h
  have e : (Value.agg cs).cells = cs := rfl
  rw [e] at h1 h2
  refine .agg (by simpa using h1) (fun i v hv => ?_) fun i x v hx hv => ?_
  · have hlt : i < xs.length := by rw [h1]; simpa using (Array.getElem?_eq_some_iff.1 hv).1
    exact (h2 i _ v (List.getElem?_eq_getElem hlt) (by simpa using hv)).one
  · rw [List.getElem?_map] at hx
    cases hy : xs[i]? with
    | none => rw [hy] at hx; cases hx
    | some y => rw [hy] at hx; cases hx; exact .d (h2 i y v hy (by simpa using hv))

end
end Go.Am

namespace Go.Am
def Le {α : Type} (a b : Option α) : Prop := ∀ r, a = some r → b = some r
theorem Le.rfl {α : Type} {a : Option α} : Le a a := fun _ h => h
theorem Le.none {α : Type} {b : Option α} : Le (.none : Option α) b := fun _ h => by cases h
theorem Le.bind {α β : Type} {a a' : Option α} {f f' : α → Option β} (h : Le a a') (hf : ∀ x, Le (f x) (f' x)) : Le (a >>= f) (a' >>= f') := by
  intro r hr
  cases a with
  | none => cases hr
  | some x => rw [h x _root_.rfl]; exact hf x r hr
theorem Le.ite {α : Type} {c : Prop} [Decidable c] {a a' b b' : Option α} (h : Le a a') (h' : Le b b') : Le (if c then a else b) (if c then a' else b') := by
  split
  · exact h
  · exact h'
end Go.Am

namespace Go.Am

def gB (G : Nat → Value) (n : Nat) (w : World) : Nat → Value := updG (updG G n (.pointer (some ⟨w.heap.size, 0, none⟩))) (n + 1) (.slice none 0 0)
theorem gB_old {G : Nat → Value} {n o : Nat} {w : World} (h : o < n) : gB G n w o = G o := by unfold gB; rw [updG_ne (by omega), updG_ne (by omega)]
theorem gB_far {G : Nat → Value} {n o : Nat} {w : World} (h : n + 1 < o) : gB G n w o = G o := by unfold gB; rw [updG_ne (by omega), updG_ne (by omega)]
theorem gB_0 {G : Nat → Value} {n : Nat} {w : World} : gB G n w n = .pointer (some ⟨w.heap.size, 0, none⟩) := by unfold gB; rw [updG_ne (by omega), updG_same]
theorem gB_1 {G : Nat → Value} {n : Nat} {w : World} : gB G n w (n + 1) = .slice none 0 0 := by unfold gB; rw [updG_same]

theorem getB {H : Heap} {x y z : Ob} {o : Nat} (h : (H ++ [x, y])[o]? = some z) : (o < H.length ∧ H[o]? = some z) ∨ (o = H.length ∧ z = x) ∨ (o = H.length + 1 ∧ z = y) := by
  rcases Nat.lt_or_ge o H.length with h1 | h1
  · rw [List.getElem?_append_left h1] at h; exact .inl ⟨h1, h⟩
  · rw [List.getElem?_append_right h1] at h
    match hk : o - H.length, h with
    | 0, h => simp at h; exact .inr (.inl ⟨by omega, h.symm⟩)
    | 1, h => simp at h; exact .inr (.inr ⟨by omega, h.symm⟩)
    | k + 2, h => simp at h

theorem St.newBld {C : Cx} {N : Nat} {M : Mem} {G : Nat → Value} {w : World} {env : Env} {H : Heap} {a : Act} (h : St C N M G w env H a) {dst : Option Nat} (hd : ∀ d, dst = some d → d < N) (elem e : TypeId) :
    St C N M (gB G H.length w) (w.alloc (.cells #[.pointer none, .slice none 0 0] elem)) (put env dst (.ref H.length 0)) (H ++ [.bld (H.length + 1) elem, .buf e []]) (a.put dst (.pointer (some ⟨w.heap.size, 0, none⟩))) := by
  have hmono : ∀ {x : A} {v : Value}, RelA M G x v → RelA M (gB G H.length w) x v := fun hr => hr.mono (fun _ _ e => e) fun o hn => gB_old (h.hrel.lt hr hn)
  obtain ⟨h1, h2, h3⟩ := put_env (fun t => hmono (h.env t)) h.size hd (x := .ref H.length 0) (v := .pointer (some ⟨w.heap.size, 0, none⟩)) (.ref gB_0)
  have hnone : ∀ off sp, M ⟨w.heap.size, off, sp⟩ = none := fun off sp => by
    cases hM : M ⟨w.heap.size, off, sp⟩ with
    | none => rfl
    | some v => have := h.good.lt hM; simp at this
  refine ⟨h.good.alloc _, h.gl.ext h.hrel (ext_alloc none' _ _ _) (fun _ h => h.elim), ⟨fun o x ho => ?_, fun o o' x x' b ho ho' hb hb' => ?_, fun o ho => ?_⟩, h1, h2, h3.trans h.defers⟩
  · rcases getB ho with ⟨hlt, ho⟩ | ⟨rfl, rfl⟩ | ⟨rfl, rfl⟩
    · rw [gB_old hlt]
      have hob := h.hrel.obj o x ho
      have hk : ObRel M G (w.alloc (.cells #[.pointer none, .slice none 0 0] elem)) x (G o) := hob.keep (fun _ _ e => e) (fun b hb => heap_alloc_old w _ b (blk_lt hob hb)) (fun _ _ _ _ e => e)
      cases x with
      | dead => trivial
      | row cells e =>
        obtain ⟨b, us, g1, g2, g3, g4, g5, g6⟩ := hk
        exact ⟨b, us, g1, g2, g3, g4, fun i y v a c => hmono (g5 i y v a c), g6⟩
      | tok e sz => exact hk
      | map es =>
        obtain ⟨b, ms, cl, g1, g2, g3, g4, g5⟩ := hk
        exact ⟨b, ms, cl, g1, g2, g3, fun i k cs e a c => ⟨(g4 i k cs e a c).1, hmono (g4 i k cs e a c).2⟩, g5⟩
      | bld o' e =>
        obtain ⟨b, v0, g1, g2, g3, g4, g5⟩ := hk
        have ho' : o' < H.length := by
          rcases Nat.lt_or_ge o' H.length with q | q
          · exact q
          · exact absurd (h.hrel.fresh _ q) g4
        exact ⟨b, v0, g1, by rw [gB_old ho']; exact g2, g3, by rw [gB_old ho']; exact g4, g5⟩
      | buf e sz => exact hk
    · rw [gB_0]
      exact ⟨w.heap.size, _, rfl, by rw [gB_1]; exact heap_alloc_new w _, .inl rfl, by rw [gB_1]; simp, hnone⟩
    · rw [gB_1]
      exact ⟨Nat.zero_le _, .inl ⟨rfl, rfl⟩⟩
  · have key : ∀ (o : Nat) x b, (H ++ [Ob.bld (H.length + 1) elem, .buf e []])[o]? = some x → blk x (gB G H.length w o) = some b → (o < H.length ∧ H[o]? = some x ∧ blk x (G o) = some b ∧ b < w.heap.size) ∨ (o = H.length ∧ b = w.heap.size) := by
      intro o x b ho hb
      rcases getB ho with ⟨hlt, ho⟩ | ⟨rfl, rfl⟩ | ⟨rfl, rfl⟩
      · rw [gB_old hlt] at hb
        exact .inl ⟨hlt, ho, hb, blk_lt (h.hrel.obj o x ho) hb⟩
      · rw [gB_0] at hb
        simp [blk] at hb
        exact .inr ⟨rfl, hb.symm⟩
      · rw [gB_1] at hb
        simp [blk] at hb
    rcases key o x b ho hb with ⟨q1, q2, q3, q4⟩ | ⟨q1, q2⟩ <;> rcases key o' x' b ho' hb' with ⟨p1, p2, p3, p4⟩ | ⟨p1, p2⟩
    · exact h.hrel.apart o o' x x' b q2 p2 q3 p3
    · omega
    · omega
    · omega
  · simp at ho
    rw [gB_far (by omega)]
    exact h.hrel.fresh o (by omega)

theorem Since.newBld {fr : Fr} {M : Mem} {G : Nat → Value} {w : World} {H : Heap} (h : Since fr M G w H) (elem e : TypeId) :
    Since fr M (gB G H.length w) (w.alloc (.cells #[.pointer none, .slice none 0 0] elem)) (H ++ [.bld (H.length + 1) elem, .buf e []]) := by
  refine ⟨h.ext.trans (ext_alloc none' _ _ _) (fun _ h => h.elim), fun b hb => ?_, by simp; have := h.len; omega, fun o x ho ht => ?_, fun o x y ho ht hy => ?_⟩
  · obtain ⟨o, x, ho, hx⟩ := hb
    rcases getB ho with ⟨hlt, ho⟩ | ⟨rfl, rfl⟩ | ⟨rfl, rfl⟩
    · rw [gB_old hlt] at hx
      exact h.own b ⟨o, x, ho, hx⟩
    · rw [gB_0] at hx
      simp [blk] at hx
      subst hx
      exact .inr h.ext.size
    · rw [gB_1] at hx
      simp [blk] at hx
  · have hlt : o < H.length := Nat.lt_of_lt_of_le (List.getElem?_eq_some_iff.1 ho).1 h.len
    rw [gB_old hlt]
    exact h.keep o x ho ht
  · have hlt : o < H.length := Nat.lt_of_lt_of_le (List.getElem?_eq_some_iff.1 ho).1 h.len
    rw [List.getElem?_append_left hlt] at hy
    exact h.kind o x y ho ht hy

/-- the zero of such a struct, then its box: the value is known to the cell -/
theorem AOps.newB {F : Fx} {L l : List Oper} {o o2 : Oper} {env : Env} {H : Heap} {Q : Env → Heap → Prop} {t t2 : Nat} {d : Nat} (e : TypeId) (hw : wantedA L env o = some true) (ho : o.op = .build t #[]) (hd1 : o.dst = some d)
    (hb : ∀ w, (Instr.build t #[]).run F.C.P w = .ok (.agg #[.pointer none, .slice none 0 0]) w)
    (hw2 : wantedA L (put env (some d) (.agg [.d (.nilv .ptr), .d (.sl [])])) o2 = some true) (ho2 : o2.op = .box t2 (.tmp d))
    (k : AOps F L l (put (put env (some d) (.agg [.d (.nilv .ptr), .d (.sl [])])) o2.dst (.ref H.length 0)) (H ++ [.bld (H.length + 1) t2, .buf e []]) Q) : AOps F L (o :: o2 :: l) env H Q := by
  intro fr M G w a Qw hK hd hs hsi hq
  have hz : RelA M G (.agg [.d (.nilv .ptr), .d (.sl [])]) (.agg #[.pointer none, .slice none 0 0]) := by
    refine .agg rfl (fun i v hv => ?_) (fun i x v hx hv => ?_)
    · match i, hv with
      | 0, hv => simp at hv; subst hv; rfl
      | 1, hv => simp at hv; subst hv; rfl
      | i + 2, hv => simp at hv
    · match i, hx, hv with
      | 0, hx, hv => simp at hx hv; subst hx; subst hv; exact .d .nilptr
      | 1, hx, hv => simp at hx hv; subst hx; subst hv; exact .d .slnil
      | i + 2, hx, hv => simp at hx
  refine wpList_step fun K hKK => ?_
  rw [wantedA_ok hs hw]
  simp only [if_true]
  have hdo := hd o List.mem_cons_self
  have hr : (execOp a.eval o).run F.C.P w = .ok (.value (.agg #[.pointer none, .slice none 0 0])) w := by
    unfold execOp
    simp [ho, hb w]
  unfold Oper.wp
  rw [hr]
  obtain ⟨p1, p2, p3⟩ := put_env hs.env hs.size (dstOk_spec hdo) hz
  have hs1 : St F.C F.N M G w (put env o.dst (.agg [.d (.nilv .ptr), .d (.sl [])])) H (a.put o.dst (.agg #[.pointer none, .slice none 0 0])) := ⟨hs.good, hs.gl, hs.hrel, p1, p2, p3.trans hs.defers⟩
  refine hKK _ _ ?_
  rw [hd1] at hs1 ⊢
  refine wpList_step fun K2 hKK2 => ?_
  rw [wantedA_ok hs1 hw2]
  simp only [if_true]
  have hlt : d < F.N := dstOk_spec hdo d hd1
  have hev : (a.put (some d) (.agg #[.pointer none, .slice none 0 0])).eval (.tmp d) = .agg #[.pointer none, .slice none 0 0] := by
    have := hs.size
    simp [Act.put, Act.eval, this, hlt]
  have hr2 : (execOp (a.put (some d) (.agg #[.pointer none, .slice none 0 0])).eval o2).run F.C.P w = .ok (.value (.pointer (some ⟨w.heap.size, 0, none⟩))) (w.alloc (.cells #[.pointer none, .slice none 0 0] t2)) := by
    unfold execOp
    simp only [ho2, hev]
    simp [Instr.box, newVar, newRow]
    rfl
  unfold Oper.wp
  rw [hr2]
  exact hKK2 _ _ (k fr _ _ _ _ Qw hK (fun o ho => hd o (List.mem_cons_of_mem _ (List.mem_cons_of_mem _ ho))) (hs1.newBld (dstOk_spec (hd o2 (by simp))) t2 e) (hsi.newBld t2 e) hq)
end Go.Am

namespace Go.Am

theorem Yields.le {C : Cx} {o : Oper} {env : Env} {H : Heap} {x y : A} (h : Yields C o env H x) (hle : ∀ M G v, RelA M G x v → RelA M G y v) : Yields C o env H y :=
  fun M G w a next Qw h1 h2 h3 h4 h5 => h M G w a next Qw h1 h2 h3 h4 fun v M' w' k1 k2 k3 => h5 v M' w' (hle M' G v k1) k2 k3

/-- an element's address in an array of data -/
def stepIG (C : Cx) (L : List Oper) (o : Oper) (env : Env) : Option (Option Nat × List D × Int × Nat × Nat) :=
  match wantedA L env o, o.op with
  | some true, .indexAddr t x y => match tget C.T t, ev C.GL env y, ev C.GL env x, dstF o with
    | some i, .d (.int _ n), .ptr cs, some d => match i.u with
      | .arr len e => match tget C.T e with | some j => bif Nat.ble 2 len then some (d, cs, n, len, j.size) else none | none => none
      | _ => none
    | _, _, _, _ => none
  | _, _ => none

theorem yields_ig {C : Cx} (hC : CxOk C) {L : List Oper} {o : Oper} {env : Env} {H : Heap} {d : Option Nat} {cs : List D} {n : Int} {len sz : Nat} (h : stepIG C L o env = some (d, cs, n, len, sz)) {k : Nat} {r : List D} (hn : n = k) (hk : k < len)
    (hr : ∀ (j : Nat) x, r[j]? = some x → cs[k * sz + j]? = some x) : wantedA L env o = some true ∧ dstF o = some d ∧ Yields C o env H (.ptr r) := by
  unfold stepIG at h
  split at h
  · rename_i t x y hw ho
    split at h
    · rename_i i kd m cs' d' ht hy hx hd
      split at h
      · rename_i len' e hu
        split at h
        · rename_i j he
          rw [cond_eq_ite] at h
          split at h
          · rename_i hb
            simp only [Option.some.injEq, Prod.mk.injEq] at h
            obtain ⟨rfl, rfl, rfl, rfl, rfl⟩ := h
            refine ⟨hw, hd, ?_⟩
            have hop : opA C.T C.GL o.op env H = some (0 ≤ m ∧ m < (len' : Int), .ptr (cs'.drop (m.toNat * j.size))) := by
              rw [ho]
              simp only [opA, indexAddrA, ht, hy, hx, hu, idxArr, he, placeA, hb, cond_true]
            refine (yields_op hC hop (by omega)).le fun M G v hv => ?_
            cases hv
            rename_i a vals hs h1 h2
            have e1 : m.toNat = k := by omega
            have key : ∀ (i : Nat) z, r[i]? = some z → (cs'.drop (m.toNat * j.size))[i]? = some z := fun i z hz => by
              rw [List.getElem?_drop, e1]; exact hr i z hz
            exact .ptr vals hs (fun i z hz => h1 i z (key i z hz)) fun i z hz => h2 i z (key i z hz)
          · cases h
        · cases h
      · cases h
    · cases h
  · cases h

theorem AOps.ig {F : Fx} (hC : CxOk F.C) {L l : List Oper} {o : Oper} {env : Env} {H : Heap} {Q : Env → Heap → Prop} {d : Option Nat} {cs : List D} {n : Int} {len sz : Nat} (h : stepIG F.C L o env = some (d, cs, n, len, sz)) {k : Nat} {r : List D} (hn : n = k) (hk : k < len)
    (hr : ∀ (j : Nat) x, r[j]? = some x → cs[k * sz + j]? = some x) (kk : AOps F L l (put env d (.ptr r)) H Q) : AOps F L (o :: l) env H Q := by
  obtain ⟨h1, h2, h3⟩ := yields_ig (H := H) hC h hn hk hr
  exact .yields h1 h3 (by rw [dstF_eq h2]; exact kk)
theorem AQ.ig {C : Cx} (hC : CxOk C) {L l : List Oper} {o : Oper} {env : Env} {H : Heap} {Q : Env → Prop} {d : Option Nat} {cs : List D} {n : Int} {len sz : Nat} (h : stepIG C L o env = some (d, cs, n, len, sz)) {k : Nat} {r : List D} (hn : n = k) (hk : k < len)
    (hr : ∀ (j : Nat) x, r[j]? = some x → cs[k * sz + j]? = some x) (kk : AQ C L l (put env d (.ptr r)) H Q) : AQ C L (o :: l) env H Q := by
  obtain ⟨h1, h2, h3⟩ := yields_ig (H := H) hC h hn hk hr
  exact .y _ h2 h1 h3 kk
theorem AG.ig {C : Cx} (hC : CxOk C) {L l : List Oper} {o : Oper} {env : Env} {cnd : Cnd} {H : Heap} {Q : Env → Cnd → Prop} {d : Option Nat} {W : Option Bool} {cs : List D} {n : Int} {len sz : Nat} (hw : wantC L env cnd o = some W) (h : stepIG C [] (noG o) env = some (d, cs, n, len, sz)) {k : Nat} {r : List D}
    (hd : dstF o = some d) (hsd : holds W → sides cnd (opsL o)) (hk : holds W → n = k ∧ k < len ∧ ∀ (j : Nat) x, r[j]? = some x → cs[k * sz + j]? = some x) (kk : AG C L l (put env d (.ptr r)) (putC cnd d W) H Q) : AG C L (o :: l) env cnd H Q :=
  .lift hd hw hsd (fun h' => (yields_ig (H := H) hC h (hk h').1 (hk h').2.1 (hk h').2.2).2.2) kk

/-- an element of a table of cells -/
theorem tab_get {α : Type} {f : α → D} {l : List α} {n : Int} {x : α} (h : idx l n = some x) : n.toNat < l.length ∧ ∀ (j : Nat) y, [f x][j]? = some y → (l.map f)[n.toNat * 1 + j]? = some y := by
  unfold idx at h
  split at h
  · refine ⟨(List.getElem?_eq_some_iff.1 h).1, fun j y hj => ?_⟩
    match j, hj with
    | 0, hj => cases hj; simp [h]
    | j + 1, hj => simp at hj
  · cases h

/-! ### bytes to a string -/
def stepCS (C : Cx) (L : List Oper) (o : Oper) (env : Env) : Option (Option Nat × List Row) :=
  match wantedA L env o, o.op with
  | some true, .convert s t x => match tget C.T s, tget C.T t, rowsOf (ev C.GL env x), dstF o with
    | some i, some k, some rows, some d => match i.u, k.u with
      | .sl e, .str => match tget C.T e with
        | some j => match j.u with
          | .int .u8 => some (d, rows)
          | _ => none
        | none => none
      | _, _ => none
    | _, _, _, _ => none
  | _, _ => none

def byteStr (xs : List Int) : List UInt8 := xs.map fun n => UInt8.ofNat n.toNat

theorem yields_cs {C : Cx} (hC : CxOk C) {L : List Oper} {o : Oper} {env : Env} {H : Heap} {d : Option Nat} {rows : List Row} (h : stepCS C L o env = some (d, rows)) {xs : List Int} (hr : rows = xs.map fun n => [D.int .u8 n]) :
    wantedA L env o = some true ∧ dstF o = some d ∧ Yields C o env H (.d (.str (byteStr xs))) := by
  unfold stepCS at h
  split at h
  · rename_i s t x hw ho
    split at h
    · rename_i i k rows' d' hs ht hx hd
      split at h
      · rename_i e hu hu'
        split at h
        · rename_i j he
          split at h
          · rename_i hju
            simp only [Option.some.injEq, Prod.mk.injEq] at h
            obtain ⟨rfl, rfl⟩ := h
            subst hr
            refine ⟨hw, hd, ?_⟩
            intro M G w a next Qw hρ hG hgl hH hkk
            rw [ho] at hρ
            have hxr := rowsOf_rel hx (hρ x (by simp [Op.operands]))
            have us := under_sl (hC.tok.facts hs) hu
            have ut := under_str (hC.tok.facts ht) hu'
            have ue := under_int (hC.tok.facts he) hju
            have key : ∃ b : ByteArray, (convert s t (a.eval x)).run C.P w = .ok (.string b) w ∧ b = ⟨(byteStr xs).toArray⟩ ∧ xs.length ≤ maxLen := by
              generalize hxv : a.eval x = xv at hxr
              generalize hrw : (xs.map fun n => [D.int .u8 n]) = rws at hxr
              cases hxr with
              | slnil =>
                obtain rfl : xs = [] := List.map_eq_nil_iff.1 hrw
                exact ⟨_, run_convert_bytes_nil w s e us ue 0 0 t ut, rfl, Nat.zero_le _⟩
              | sl sz vals hl hc hm hsp hz h1 h2 =>
                rename_i ad len cap
                subst hrw
                rw [List.length_map] at hl
                subst hl
                have hcell : ∀ i, i < xs.length → w.cell? (ad.add i) = some (.int .u8 (xs.getD i 0)) := fun i hi => by
                  have hri : (xs.map fun n => [D.int .u8 n])[i]? = some [D.int .u8 xs[i]] := by simp [hi]
                  have e1 := hz i _ hri
                  have m1 := h1 i 0 _ _ hri rfl
                  have m2 := h2 i 0 _ _ hri rfl
                  simp only [List.length_singleton] at e1
                  subst e1
                  rw [Nat.mul_one, Nat.add_zero] at m1
                  have m3 := (hG _ _ m1).2
                  rw [m3]
                  generalize vals i 0 = v at m2
                  cases m2
                  simp [List.getD, hi]
                have hload : (loadCells ad xs.length).run C.P w = .ok (xs.map (Value.int .u8)).toArray w := by
                  have := run_loadCells_list (P := C.P) w ad (xs.map (Value.int .u8)) (fun j v hj => by
                    have hjl : j < xs.length := by
                      rcases Nat.lt_or_ge j xs.length with h | h
                      · exact h
                      · simp [List.getElem?_eq_none (show (xs.map (Value.int .u8)).length ≤ j by simpa using h)] at hj
                    rw [hcell j hjl]
                    simp [List.getElem?_eq_getElem hjl] at hj
                    subst hj
                    simp [List.getD, List.getElem?_eq_getElem hjl])
                  simpa using this
                refine ⟨_, by rw [run_convert_bytes_string w s t e _ _ _ us ue ut, run_bytesToString w _ _ cap xs hload, foldl_push_bytes], ?_, Nat.le_trans hc hm⟩
                simp [byteStr, ByteArray.empty, ByteArray.emptyWithCapacity]
                rfl
            obtain ⟨b, hb, rfl, hlen⟩ := key
            unfold Oper.wp execOp
            simp only [ho, Sem.run_bind, hb, Result.andThen_ok, Sem.run_pure, Oper.upon_value]
            exact hkk _ M w (.d (.str (by unfold byteStr; rw [List.length_map]; exact hlen))) hG (Ext.refl _ _ _)
          · cases h
        · cases h
      · cases h
    · cases h
  · cases h

theorem AOps.cs {F : Fx} (hC : CxOk F.C) {L l : List Oper} {o : Oper} {env : Env} {H : Heap} {Q : Env → Heap → Prop} {d : Option Nat} {rows : List Row} (h : stepCS F.C L o env = some (d, rows)) {xs : List Int} (hr : rows = xs.map fun n => [D.int .u8 n]) (k : AOps F L l (put env d (.d (.str (byteStr xs)))) H Q) : AOps F L (o :: l) env H Q := by
  obtain ⟨h1, h2, h3⟩ := yields_cs (H := H) hC h hr
  exact .yields h1 h3 (by rw [dstF_eq h2]; exact k)
theorem AQ.cs {C : Cx} (hC : CxOk C) {L l : List Oper} {o : Oper} {env : Env} {H : Heap} {Q : Env → Prop} {d : Option Nat} {rows : List Row} (h : stepCS C L o env = some (d, rows)) {xs : List Int} (hr : rows = xs.map fun n => [D.int .u8 n]) (k : AQ C L l (put env d (.d (.str (byteStr xs)))) H Q) : AQ C L (o :: l) env H Q := by
  obtain ⟨h1, h2, h3⟩ := yields_cs (H := H) hC h hr
  exact .y _ h2 h1 h3 k
end Go.Am

namespace Go.Am

theorem okC {C : Cx} [h : Nonempty (CxOk C)] : CxOk C := h.elim id

section
variable {C : Cx} {N K : Nat} {L l : List Oper} {o : Oper} {env : Env} {H : Heap}
theorem n' {Q : Env → Heap → Prop} (h : Q env H) : AOps ⟨C, N, K⟩ L [] env H Q := AOps.nil h
theorem Qn' {Q : Env → Prop} (h : Q env) : AQ C L [] env H Q := h
theorem an' {cnd : Cnd} {R : Env → Cnd → Prop} (h : R env cnd) : AG C L [] env cnd H R := h
end

section
variable {C : Cx} [Nonempty (CxOk C)] {N K : Nat} {L l : List Oper} {o : Oper} {env : Env} {H : Heap}

theorem q' {Q : Env → Heap → Prop} {d : Option Nat} {x : A} (h : stepA C L o env H = some (d, True, x)) (k : AOps ⟨C, N, K⟩ L l (put env d x) H Q) : AOps ⟨C, N, K⟩ L (o :: l) env H Q := AOps.q okC h trivial k
theorem qc' {Q : Env → Heap → Prop} {d : Option Nat} {c : Prop} {x : A} (h : stepA C L o env H = some (d, c, x)) (hc : c) (k : AOps ⟨C, N, K⟩ L l (put env d x) H Q) : AOps ⟨C, N, K⟩ L (o :: l) env H Q := AOps.q okC h hc k
theorem qe' {Q : Env → Heap → Prop} {d : Option Nat} {c : Prop} {x y : A} (h : stepA C L o env H = some (d, c, x)) (hc : c) (e : x = y) (k : AOps ⟨C, N, K⟩ L l (put env d y) H Q) : AOps ⟨C, N, K⟩ L (o :: l) env H Q := AOps.qe okC h hc e k
theorem i' {Q : Env → Heap → Prop} {d : Option Nat} {rows : List (List D)} {n : Int} {sz : Nat} (h : stepI C L o env = some (d, rows, n, sz)) {k : Nat} {r : List D} (hn : n = k) (hk : rows[k]? = some r) (hsz : Nat.beq r.length sz = true)
    (kk : AOps ⟨C, N, K⟩ L l (put env d (.ptr r)) H Q) : AOps ⟨C, N, K⟩ L (o :: l) env H Q := AOps.i okC h hn hk hsz kk
theorem x' {Q : Env → Heap → Prop} {d : Option Nat} {s : List UInt8} {n : Int} (h : stepX C L o env = some (d, s, n)) {k : Nat} {b : UInt8} (hn : n = k) (hk : s[k]? = some b) (kk : AOps ⟨C, N, K⟩ L l (put env d (.d (.int .u8 b.toNat))) H Q) : AOps ⟨C, N, K⟩ L (o :: l) env H Q := AOps.x okC h hn hk kk

theorem Q' {Q : Env → Prop} {d : Option Nat} {x : A} (h : stepA C L o env H = some (d, True, x)) (k : AQ C L l (put env d x) H Q) : AQ C L (o :: l) env H Q := AQ.q okC h trivial k

variable {cnd : Cnd} {R : Env → Cnd → Prop}
/-- no operand has a condition -/
theorem a0' {d : Option Nat} {W : Option Bool} {x : A} (h : stepGA C L o env cnd H = some (d, W, True, True, x)) (k : AG C L l (put env d x) (putC cnd d W) H R) : AG C L (o :: l) env cnd H R := AG.q okC h (fun _ => ⟨trivial, trivial⟩) k
/-- one operand has the operation's own condition -/
theorem a1' {d : Option Nat} {w : Bool} {x : A} (h : stepGA C L o env cnd H = some (d, some w, (w = true ∧ True), True, x)) (k : AG C L l (put env d x) (putC cnd d (some w)) H R) : AG C L (o :: l) env cnd H R := AG.q okC h (fun h => ⟨⟨h, trivial⟩, trivial⟩) k
theorem a2' {d : Option Nat} {w : Bool} {x : A} (h : stepGA C L o env cnd H = some (d, some w, (w = true ∧ w = true ∧ True), True, x)) (k : AG C L l (put env d x) (putC cnd d (some w)) H R) : AG C L (o :: l) env cnd H R := AG.q okC h (fun h => ⟨⟨h, h, trivial⟩, trivial⟩) k
theorem ag' {d : Option Nat} {W : Option Bool} {S c : Prop} {x : A} (h : stepGA C L o env cnd H = some (d, W, S, c, x)) (hs : holds W → S ∧ c) (k : AG C L l (put env d x) (putC cnd d W) H R) : AG C L (o :: l) env cnd H R := AG.q okC h hs k
/-- 'and', 'or' without a condition of their own -/
theorem pa' {d : Option Nat} {t xa xb : Bool} (h : stepGP C L o env cnd = some ⟨d, none, True, t, (wb t true = true ∧ True), True, xa, xb⟩) (k : AG C L l (put env d (.d (.bool (bif t then xa else xb)))) (putC cnd d none) H R) : AG C L (o :: l) env cnd H R :=
  AG.p okC h (fun _ => ⟨trivial, fun h => ⟨wb_t h, trivial⟩, fun _ => trivial⟩) k
theorem po' {d : Option Nat} {t xa xb : Bool} (h : stepGP C L o env cnd = some ⟨d, none, True, t, True, (wb t false = true ∧ True), xa, xb⟩) (k : AG C L l (put env d (.d (.bool (bif t then xa else xb)))) (putC cnd d none) H R) : AG C L (o :: l) env cnd H R :=
  AG.p okC h (fun _ => ⟨trivial, fun _ => trivial, fun h => ⟨wb_f h, trivial⟩⟩) k
/-- under a condition -/
theorem pA' {d : Option Nat} {w t xa xb : Bool} (h : stepGP C L o env cnd = some ⟨d, some w, (w = true ∧ True), t, ((w && wb t true) = true ∧ True), True, xa, xb⟩) (k : AG C L l (put env d (.d (.bool (bif t then xa else xb)))) (putC cnd d (some w)) H R) : AG C L (o :: l) env cnd H R :=
  AG.p okC h (fun hg => ⟨⟨hg, trivial⟩, fun h => ⟨and_t hg h, trivial⟩, fun _ => trivial⟩) k
theorem pO' {d : Option Nat} {w t xa xb : Bool} (h : stepGP C L o env cnd = some ⟨d, some w, (w = true ∧ True), t, True, ((w && wb t false) = true ∧ True), xa, xb⟩) (k : AG C L l (put env d (.d (.bool (bif t then xa else xb)))) (putC cnd d (some w)) H R) : AG C L (o :: l) env cnd H R :=
  AG.p okC h (fun hg => ⟨⟨hg, trivial⟩, fun _ => trivial, fun h => ⟨and_f hg h, trivial⟩⟩) k
end

section
variable {F : Fx} {env : Env} {H : Heap} {Q : Po}
/-- a region and what follows -/
theorem s' {id : Nat} {L : List Oper} {b : Code} (hg : noGuards L = true) (hd : L.all (dstOk F.N) = true) (h : AOps F L L env H (After (Then F b Q))) : AEx F (.seq (.region id L.toArray false) b) env H Q := .seq (.regionN hg hd h)
theorem sg' {id : Nat} {L : List Oper} {b : Code} (n : Nat) (hd : L.all (dstOk F.N) = true) (h : AG F.C L (L.take n) env sure H (fun e c => AOps F L (L.drop n) (envS e c) H (After (Then F b Q)))) : AEx F (.seq (.region id L.toArray false) b) env H Q := .seq (.regionG n hd h)
theorem S' {a b : Code} (h : AEx F a env H (Then F b Q)) : AEx F (.seq a b) env H Q := .seq h
theorem R' {id : Nat} {L : List Oper} (hg : noGuards L = true) (hd : L.all (dstOk F.N) = true) (h : AOps F L L env H (After Q)) : AEx F (.region id L.toArray false) env H Q := .regionN hg hd h
theorem sk' (h : Q .normal env H) : AEx F .skip env H Q := .skip h
theorem bk' {id : Nat} {c : Code} (h : AEx F c env H (InBlock id Q)) : AEx F (.block id c) env H Q := .block h
theorem re' (h : Q .ret env H) : AEx F .ret env H Q := .ret h
theorem ex' {id : Nat} (h : Q (.exit id) env H) : AEx F (.exit id) env H Q := .exit h
/-- a branch -/
theorem ci' {c : Operand} {x y : Code} {t : Bool} {α : Type} {A' B' : Option α} {r : α} (hc : ev F.C.GL env c = .d (.bool t)) (hh : (if t = true then A' else B') = some r) (h1 : A' = some r → AEx F x env H Q) (h2 : B' = some r → AEx F y env H Q) : AEx F (.cond c x y) env H Q :=
  .cond hc (fun hb => h1 (if_t hb hh)) (fun hb => h2 (if_f hb hh))
end
theorem bs' {α β : Type} {x : Option α} {f : α → Option β} {r : β} (h : (x >>= f) = some r) : ∃ a, x = some a ∧ f a = some r := bind_some h
theorem oi' {α : Type} {a b : α} (h : some a = some b) : a = b := Option.some.inj h
end Go.Am

namespace Go.Am
open Go.ChangeShapes Go.WideShapes

section
variable {P : Program} {W : World}

theorem laidVars_get : ∀ {laid : List (String × DataW Unit)} {ps : List MemPlace}, DataW.LaidVars P W laid ps → ∀ (i : Nat) n d, laid[i]? = some (n, d) →
    ∃ g t cs fuel p, P.globalNamed n = some g ∧ (P.globals[g]?).map (·.type) = some t ∧ W.var? P n = some cs ∧ DataW.trod (fun _ => ()) P W 0 (fun _ => true) false fuel t cs.toList = some (d, p)
  | [], _, _, i, n, d, hi => by simp at hi
  | (m, e) :: r, ps, h, i, n, d, hi => by
    obtain ⟨g, t, cs, fuel, p, q, h1, h2, h3, h4, h5, _⟩ := h
    cases i with
    | zero => cases hi; exact ⟨g, t, cs, fuel, p, h1, h2, h3, h4⟩
    | succ i => exact laidVars_get h5 i n d (by simpa using hi)

theorem memOf_var {name : String} {g : Nat} {cs : Array Value} (hg : P.globalNamed name = some g) (h : W.var? P name = some cs) {i : Nat} {v : Value} (hi : cs[i]? = some v) : memOf W ⟨g, i, none⟩ = some v := by
  have := World.var?_cell hg h i
  unfold memOf
  rw [if_pos rfl, this, hi]

/-- a table of integers -/
theorem tab_of_laid {laid : List (String × DataW Unit)} (h : laidMet P laid W) (i : Nat) {name : String} {k : IntKind} {zs : List Int} (hi : laid[i]? = some (name, Lib.tabData k zs)) {g : Nat} {t e : TypeId} {n : Nat}
    (hg : P.globalNamed name = some g) (hty : (P.globals[g]?).map (·.type) = some t) (ht : P.underlying t = some (.array n e)) (he : P.underlying e = some (.int k)) (hce : P.cellsOf e = 1) (hct : P.cellsOf t = n) :
    Lib.TabIs P W name k zs ∧ ∀ (j : Nat) z, zs[j]? = some z → memOf W ⟨g, j, none⟩ = some (.int k z) := by
  obtain ⟨ps, hv, _⟩ := h
  obtain ⟨g', t', cs, fuel, p, h1, h2, h3, h4⟩ := laidVars_get hv i _ _ hi
  obtain rfl := Option.some.inj (hg.symm.trans h1)
  obtain rfl := Option.some.inj (hty.symm.trans h2)
  have hc := Lib.cells_of_tab ht he hce hct h4
  have hT : Lib.TabIs P W name k zs := by unfold Lib.TabIs; rw [h3, ← hc]
  exact ⟨hT, fun j z hz => memOf_var hg h3 (by rw [← Array.getElem?_toList, hc, List.getElem?_map, hz]; rfl)⟩

/-- a table that is wholly known stays -/
theorem tabIs_keep {M : Mem} {w w' : World} {name : String} {k : IntKind} {zs : List Int} {g : Nat} (hg : P.globalNamed name = some g) (h0 : 0 < zs.length) (hM : ∀ (j : Nat) z, zs[j]? = some z → M ⟨g, j, none⟩ = some (.int k z))
    (hb : ∀ b, Sealed M w b → w'.heap[b]? = w.heap[b]?) (h : Lib.TabIs P w name k zs) : Lib.TabIs P w' name k zs := by
  unfold Lib.TabIs at h ⊢
  simp only [World.var?, hg, Option.bind_some] at h ⊢
  split at h
  · rename_i cs t f hc
    have hcs := Option.some.inj h
    rw [hb g ⟨cs, t, f, hc, by rw [hcs]; simpa using h0, fun i hi => ?_⟩, hc]
    · exact h
    · rw [hcs] at hi
      have hi' : i < zs.length := by simpa using hi
      rw [hM i zs[i] (List.getElem?_eq_getElem hi')]
      simp
  · cases h

def stabData {H : Type} (zs : List (List UInt8)) : DataW H := .agg (zs.map fun z => .lit (.string z))

theorem trod_strlit {H : Type} {enc : TypeId × Value → H} {base : Nat} {sp : Nat → Bool} {held : Bool} {fuel : Nat} {t : TypeId} {cs : List Value} {x : DataW H × List MemPlace} (ht : P.underlying t = some .string) (h : DataW.trod enc P W base sp held fuel t cs = some x) :
    ∃ z : List UInt8, cs = [.string ⟨z.toArray⟩] ∧ x.1 = .lit (.string z) ∧ z.length ≤ maxLen := by
  cases fuel with
  | zero => simp [DataW.trod] at h
  | succ n =>
    unfold DataW.trod at h
    rw [ht] at h
    split at h <;> first | (rename_i heq; cases heq; done) | skip
    all_goals first | (cases h; done) | skip
    rename_i s heq
    split at h
    · rename_i hc
      simp only [Option.some.injEq] at h
      subst h
      exact ⟨s.data.toList, by simp, rfl, by simpa using hc⟩
    · cases h

theorem cells_of_stab {H : Type} {enc : TypeId × Value → H} {base : Nat} {sp : Nat → Bool} {held : Bool} {fuel : Nat} {t e : TypeId} {n : Nat} {cs : List Value} {zs : List (List UInt8)} {p : List MemPlace}
    (ht : P.underlying t = some (.array n e)) (he : P.underlying e = some .string) (hce : P.cellsOf e = 1) (hct : P.cellsOf t = n)
    (h : DataW.trod enc P W base sp held fuel t cs = some (stabData zs, p)) : (cs = zs.map fun z => Value.string ⟨z.toArray⟩) ∧ ∀ z ∈ zs, z.length ≤ maxLen := by
  cases fuel with
  | zero => simp [DataW.trod] at h
  | succ fuel =>
    simp only [DataW.trod, ht, hce, hct, Nat.mul_one] at h
    split at h
    · rename_i hl
      obtain ⟨xs, hm, hx⟩ := Option.map_eq_some_iff.1 h
      have hxs : xs.map (·.1) = zs.map fun z => (DataW.lit (.string z) : DataW H) := by
        have := congrArg Prod.fst hx
        simpa [stabData] using this
      have hxl : xs.length = n := by simpa using Lib.mapM_length hm
      have hzl : zs.length = n := by
        have := congrArg List.length hxs
        simp at this
        omega
      have key : ∀ i, i < n → ∃ z, zs[i]? = some z ∧ cs[i]? = some (.string ⟨z.toArray⟩) ∧ z.length ≤ maxLen := fun i hi => by
        obtain ⟨b, hb, hf⟩ := Lib.mapM_at hm i i (by simp [hi])
        obtain ⟨z, hc, hz, hlen⟩ := trod_strlit he hf
        have h1 : cs[i]? = some (.string ⟨z.toArray⟩) := by
          have := congrArg (·[0]?) hc
          simpa [List.getElem?_take, List.getElem?_drop] using this
        have h2 : (xs.map (·.1))[i]? = some (DataW.lit (.string z) : DataW H) := by simp [hb, hz]
        rw [hxs] at h2
        simp only [List.getElem?_map, Option.map_eq_some_iff, DataW.lit.injEq, Lit.string.injEq] at h2
        obtain ⟨z', hz', rfl⟩ := h2
        exact ⟨z', hz', h1, hlen⟩
      constructor
      · apply List.ext_getElem?
        intro i
        by_cases hi : i < n
        · obtain ⟨z, hz, hc, _⟩ := key i hi
          simp [hc, hz]
        · rw [List.getElem?_eq_none (by omega), List.getElem?_eq_none (by simp; omega)]
      · intro z hz
        obtain ⟨i, hi⟩ := List.getElem?_of_mem hz
        obtain ⟨z', hz', _, hlen⟩ := key i (by have := (List.getElem?_eq_some_iff.1 hi).1; omega)
        rw [hi] at hz'
        cases hz'
        exact hlen
    · cases h

/-- a table of strings -/
theorem stab_of_laid {laid : List (String × DataW Unit)} (h : laidMet P laid W) (i : Nat) {name : String} {zs : List (List UInt8)} (hi : laid[i]? = some (name, stabData zs)) {g : Nat} {t e : TypeId} {n : Nat}
    (hg : P.globalNamed name = some g) (hty : (P.globals[g]?).map (·.type) = some t) (ht : P.underlying t = some (.array n e)) (he : P.underlying e = some .string) (hce : P.cellsOf e = 1) (hct : P.cellsOf t = n) {G : Nat → Value} :
    RelA (memOf W) G (.ptr (zs.map D.str)) (.pointer (some ⟨g, 0, none⟩)) := by
  obtain ⟨ps, hv, _⟩ := h
  obtain ⟨g', t', cs, fuel, p, h1, h2, h3, h4⟩ := laidVars_get hv i _ _ hi
  obtain rfl := Option.some.inj (hg.symm.trans h1)
  obtain rfl := Option.some.inj (hty.symm.trans h2)
  obtain ⟨hc, hz⟩ := cells_of_stab ht he hce hct h4
  refine .ptr (fun j => .string ⟨(zs.getD j []).toArray⟩) rfl (fun j x hx => ?_) (fun j x hx => ?_)
  · rw [List.getElem?_map] at hx
    cases hj : zs[j]? with
    | none => rw [hj] at hx; cases hx
    | some z =>
      rw [addr_add_lit, Nat.zero_add]
      exact memOf_var hg h3 (by rw [← Array.getElem?_toList, hc, List.getElem?_map, hj]; simp [List.getD, hj])
  · rw [List.getElem?_map] at hx
    cases hj : zs[j]? with
    | none => rw [hj] at hx; cases hx
    | some z =>
      rw [hj] at hx
      cases hx
      have e : zs.getD j [] = z := by simp [List.getD, hj]
      rw [e]
      exact .str (hz z (List.mem_of_getElem? hj))
end
end Go.Am

