/- A part of the proof of TypecheckErrors. -/
import Derived.Test.YtdkabnfphmmmnaaGreatDoorAmA
import Derived.Laws.AppendOwn
import GoSem.Instr.Lookup
import GoSem.Instr.MapUpdate
import GoSem.Instr.MakeMap
import Derived.Below
import Derived.Laws.StructEq
import Derived.Laws.MakeOwn
import Derived.ChangeSame
import Derived.OpenShut
import Derived.ProofKit
import Derived.Laws.BytesArg
import Derived.Lib.LaidTab
namespace Go.Am
def Ca (sz m : Nat) (J1 : Nat → Nat → Value) : List Value := (List.range (m * sz)).map fun q => J1 (q / sz) (q % sz)
theorem Xi {sz m : Nat} {J1 : Nat → Nat → Value} : (Ca sz m J1).length = m * sz := by simp [Ca]
theorem F1f {sz m : Nat} {J1 : Nat → Nat → Value} {i j : Nat} (hj : j < sz) (hi : i < m) : (Ca sz m J1)[i * sz + j]? = some (J1 i j) := by
  have hlt : i * sz + j < m * sz := by
    have : (i + 1) * sz ≤ m * sz := Nat.mul_le_mul_right _ hi
    rw [Nat.add_mul] at this
    omega
  have hz : 0 < sz := by omega
  unfold Ca
  rw [List.getElem?_map, List.getElem?_range hlt]
  simp only [Option.map_some, Option.some.injEq]
  rw [Nat.mul_comm i sz, Nat.mul_add_div hz, Nat.mul_add_mod, Nat.div_eq_of_lt hj, Nat.mod_eq_of_lt hj, Nat.add_zero]
theorem H2b {sz m : Nat} {J1 : Nat → Nat → Value} {q : Nat} {v : Value} (h : (Ca sz m J1)[q]? = some v) : 0 < sz ∧ q / sz < m ∧ q % sz < sz ∧ q = q / sz * sz + q % sz ∧ v = J1 (q / sz) (q % sz) := by
  unfold Ca at h
  rw [List.getElem?_map] at h
  by_cases hq : q < m * sz
  · rw [List.getElem?_range hq] at h
    simp only [Option.map_some, Option.some.injEq] at h
    have hz : 0 < sz := by
      rcases Nat.eq_zero_or_pos sz with h' | h'
      · subst h'; simp at hq
      · exact h'
    exact ⟨hz, (Nat.div_lt_iff_lt_mul hz).2 hq, Nat.mod_lt _ hz, by rw [Nat.mul_comm]; exact (Nat.div_add_mod q sz).symm, h.symm⟩
  · rw [List.getElem?_eq_none (by simp; omega)] at h
    cases h
theorem X1r {M : Mem} {w : World} (hG : H8 M w) {rows : List Row} {v : Value} (h : O2 M (.sl rows) v) {sz : Nat} (hsz : ∀ r ∈ rows, r.length = sz) :
    ∃ (J1 : Nat → Nat → Value), (∀ (i j : Nat) r x, rows[i]? = some r → r[j]? = some x → O2 M x (J1 i j)) ∧
      ((v = .slice none 0 0 ∧ rows = []) ∨ ∃ a cap, v = .slice (some a) rows.length cap ∧ (cap = 0 ∨ a.spot = none) ∧ rows.length ≤ cap ∧ cap ≤ maxLen ∧
        (∀ (i j : Nat), i < rows.length → j < sz → M (a.add (i * sz + j)) = some (J1 i j)) ∧ ∀ q u, (Ca sz rows.length J1)[q]? = some u → w.cell? (a.add q) = some u ∧ u.oneCell' = true) := by
  cases h with
  | slnil => exact ⟨fun _ _ => undef, fun i j r x h => by simp at h, .inl ⟨rfl, rfl⟩⟩
  | sl sz' J1 hl hc hm hs hz h1 h2 =>
    rename_i a len cap
    subst hl
    have hM : ∀ (i j : Nat), i < rows.length → j < sz → M (a.add (i * sz + j)) = some (J1 i j) ∧ ∃ x, O2 M x (J1 i j) := by
      intro i j hi hj
      have hr : rows[i]? = some rows[i] := List.getElem?_eq_getElem hi
      have e1 : rows[i].length = sz := hsz _ (List.getElem_mem hi)
      have e2 := hz i _ hr
      have e : sz' = sz := by omega
      subst e
      have hx : rows[i][j]? = some rows[i][j] := List.getElem?_eq_getElem (by omega)
      exact ⟨h1 i j _ _ hr hx, _, h2 i j _ _ hr hx⟩
    refine ⟨J1, h2, .inr ⟨a, cap, rfl, hs, hc, hm, fun i j hi hj => (hM i j hi hj).1, fun q u hu => ?_⟩⟩
    obtain ⟨f1, f2, f3, f4, rfl⟩ := H2b hu
    obtain ⟨g1, x, g2⟩ := hM _ _ f2 f3
    rw [← f4] at g1
    exact ⟨hG.cell g1 g2, g2.one⟩
def Tok (M : Mem) (w : World) (e sz : Nat) (v : Value) : Prop := Uh M (fun _ => .tuple #[]) w (.tok e sz) v
theorem K17 {P : Program} {T : TT} (hT : TOk P T) {M : Mem} {w : World} (hG : H8 M w) {t e ty : Nat} {it ie : TI} (ht : P2 T t = some it) (hu : it.u = .sl e) (he : P2 T e = some ie) {rows news : List Row} {v u : Value}
    (hv : O2 M (.sl rows) v) (hnv : O2 M (.sl news) u) (htok : Tok M w e ie.size v) (hr : ∀ r ∈ rows, r.length = ie.size) (hn : ∀ r ∈ news, r.length = ie.size) (hb : (rows.length + news.length) * ie.bytes ≤ 140737488355328)
    (hm : rows.length + news.length ≤ maxLen) :
    ∃ v' w' M', (Builtin.append_ #[t, t] ty #[v, u]).run P w = .ok v' w' ∧ O2 M' (.sl (rows ++ news)) v' ∧ Tok M' w' e ie.size v' ∧ H8 M' w' ∧
      Ext (fun b => blk (.tok e ie.size) v = some b) M w M' w' ∧ ∀ b, blk (.tok e ie.size) v' = some b → blk (.tok e ie.size) v = some b ∨ w.heap.size ≤ b := by
  have fe := hT.facts he
  have hd := Rj (hT.facts ht) hu
  obtain ⟨info, hi, hsz, hby, z, hz, hzl, _, _⟩ := fe.info
  have hpos := fe.pos
  have hzs : z.cells.size = ie.size := by have := fe.len; simp only [Array.length_toList] at hzl; omega
  obtain ⟨nvals, hnr, hnsh⟩ := X1r hG hnv hn
  obtain ⟨J1, hvr, hvsh⟩ := X1r hG hv hr
  generalize hszv : ie.size = sz at *
  have hbytes : (rows.length + news.length) * info.bytes ≤ 140737488355328 := by rw [hby]; exact hb
  rcases hnsh with ⟨rfl, rfl⟩ | ⟨na, ncap, rfl, hns, hnc, hncm, hnM, hncell⟩
  · have hrun : (Builtin.append_ #[t, t] ty #[v, .slice none 0 0]).run P w = .ok v w := by
      rcases hvsh with ⟨rfl, rfl⟩ | ⟨a, cap, rfl, hs, hc, hcm, hM, hcell⟩
      · simp [Builtin.append_, run_underlying hd, sizeOf, typeInfo, hi, Builtin.lenOf, Builtin.firstCells]
      · simp [Builtin.append_, run_underlying hd, sizeOf, typeInfo, hi, Builtin.lenOf, Builtin.firstCells, hc, storeCells]
    refine ⟨v, w, M, hrun, by simpa using hv, by simpa using htok, hG, Ext.refl _ _ _, fun b hb => .inl (by simpa using hb)⟩
  have grown : ∀ (olds : List Value) (cap' : Nat) (w1 : World) (zs : Array Value), olds = Ca sz rows.length J1 → rows.length + news.length ≤ cap' → cap' ≤ maxLen → w1.heap = w.heap → w1.os = w.os → w1.output = w.output → w1.tape = w.tape →
      zs.size = (cap' - (rows.length + news.length)) * sz →
      ∃ M', O2 M' (.sl (rows ++ news)) (.slice (some ⟨w.heap.size, 0, none⟩) (rows.length + news.length) cap') ∧
        Tok M' (w1.alloc (.cells (olds.toArray ++ (Ca sz news.length nvals).toArray ++ zs) e)) e sz (.slice (some ⟨w.heap.size, 0, none⟩) (rows.length + news.length) cap') ∧
        H8 M' (w1.alloc (.cells (olds.toArray ++ (Ca sz news.length nvals).toArray ++ zs) e)) ∧
        Ext J6 M w M' (w1.alloc (.cells (olds.toArray ++ (Ca sz news.length nvals).toArray ++ zs) e)) := by
    intro olds cap' w1 zs holds hge hcm hheap hos hout htape hzsz
    have hw1s : w1.heap.size = w.heap.size := by rw [hheap]
    let cs : Array Value := olds.toArray ++ (Ca sz news.length nvals).toArray ++ zs
    let M' : Mem := fun ad => if ad.block = w.heap.size ∧ ad.spot = none ∧ ad.off < (rows.length + news.length) * sz then cs[ad.off]? else M ad
    have hcs : cs.size = rows.length * sz + news.length * sz + zs.size := by simp [cs, holds, Xi, Nat.add_assoc]
    have hold : ∀ (i j : Nat), i < rows.length → j < sz → cs[i * sz + j]? = some (J1 i j) := fun i j hi' hj => by
      have hlt : i * sz + j < rows.length * sz := by
        have : (i + 1) * sz ≤ rows.length * sz := Nat.mul_le_mul_right _ hi'
        rw [Nat.add_mul] at this; omega
      simp only [cs]
      rw [Array.getElem?_append_left (by simp [holds, Xi]; omega), Array.getElem?_append_left (by simp [holds, Xi]; exact hlt), List.getElem?_toArray, holds, F1f hj hi']
    have hnew : ∀ (i j : Nat), i < news.length → j < sz → cs[(rows.length + i) * sz + j]? = some (nvals i j) := fun i j hi' hj => by
      have hlt : i * sz + j < news.length * sz := by
        have : (i + 1) * sz ≤ news.length * sz := Nat.mul_le_mul_right _ hi'
        rw [Nat.add_mul] at this; omega
      simp only [cs]
      rw [Nat.add_mul, Array.getElem?_append_left (by simp [holds, Xi]; omega), Array.getElem?_append_right (by simp [holds, Xi]; omega), List.getElem?_toArray]
      simp only [List.size_toArray, holds, Xi]
      rw [show rows.length * sz + i * sz + j - rows.length * sz = i * sz + j by omega, F1f hj hi']
    have hmono : ∀ ad x, M ad = some x → M' ad = some x := fun ad x hx => by
      have := hG.lt hx
      simp only [M']
      rw [if_neg (by omega)]
      exact hx
    refine ⟨M', ?_, .inr ⟨⟨w.heap.size, 0, none⟩, _, cap', rfl, .inr rfl, hge, hcm, fun hlt => ⟨rfl, cs, ?_, ?_, fun k sp hk => ?_⟩⟩, fun ad x hx => ?_, hmono, by simp [hw1s], hos, hout, htape, fun b hb' _ => ?_, fun ad x hx => ?_⟩
    · refine .sl sz (fun i j => if i < rows.length then J1 i j else nvals (i - rows.length) j) (by simp) hge hcm (.inr rfl) (fun i r hr' => ?_) (fun i j r x hr' hx => ?_) fun i j r x hr' hx => ?_
      · rcases List.mem_append.1 (List.mem_of_getElem? hr') with h' | h'
        · exact hr r h'
        · exact hn r h'
      · have hrl : r.length = sz := by
          rcases List.mem_append.1 (List.mem_of_getElem? hr') with h' | h'
          · exact hr r h'
          · exact hn r h'
        have hj : j < sz := by rw [← hrl]; exact (List.getElem?_eq_some_iff.1 hx).1
        have hil : i < rows.length + news.length := by have := (List.getElem?_eq_some_iff.1 hr').1; simpa using this
        have hlt : i * sz + j < (rows.length + news.length) * sz := by
          have : (i + 1) * sz ≤ (rows.length + news.length) * sz := Nat.mul_le_mul_right _ hil
          rw [Nat.add_mul] at this; omega
        rw [Rk]
        simp only [M', Nat.zero_add]
        rw [if_pos ⟨trivial, trivial, hlt⟩]
        by_cases hi' : i < rows.length
        · rw [if_pos hi', hold i j hi' hj]
        · rw [if_neg hi']
          have := hnew (i - rows.length) j (by omega) hj
          rwa [show rows.length + (i - rows.length) = i by omega] at this
      · by_cases hi' : i < rows.length
        · rw [List.getElem?_append_left hi'] at hr'
          simp only [if_pos hi']
          exact (hvr i j r x hr' hx).mono hmono
        · rw [List.getElem?_append_right (by omega)] at hr'
          simp only [if_neg hi']
          exact (hnr _ j r x hr' hx).mono hmono
    · have := heap_alloc_new w1 (.cells cs e)
      rw [hw1s] at this
      exact this
    · rw [hcs, hzsz, ← Nat.add_mul, ← Nat.add_mul]
      exact Nat.mul_le_mul_right _ (by omega)
    · simp only [M']
      rw [if_neg (by omega)]
      cases hM : M ⟨w.heap.size, k, sp⟩ with
      | none => rfl
      | some x => have := hG.lt hM; simp at this
    · simp only [M'] at hx
      split at hx
      · rename_i hc
        obtain ⟨b, o, s⟩ := ad
        simp only at hc hx
        obtain ⟨rfl, rfl, hc⟩ := hc
        refine .inl ⟨rfl, ?_⟩
        rw [Yv (w := w1.alloc (.cells cs e)) (b := w.heap.size) (vs := cs) (e := e) (fr := (0, 0)) (by rw [← hw1s]; exact heap_alloc_new w1 _)]
        exact hx
      · exact E1w (by rw [heap_alloc_old w1 _ _ (by rw [hw1s]; exact hG.lt hx), hheap]) (hG ad x hx)
    · rw [heap_alloc_old w1 _ b (by rw [hw1s]; exact hb'), hheap]
    · simp only [M'] at hx
      split at hx
      · rename_i hc; exact .inr (.inr (by omega))
      · exact .inl hx
  have hzc : ∀ n, (Builtin.zeroCells z.cells n).size = n * sz := fun n => by rw [size_zeroCells, hzs]
  have hnl : (Ca sz news.length nvals).length = news.length * info.size := by rw [Xi, hsz]
  have hncell' : ∀ (j : Nat) u, (Ca sz news.length nvals)[j]? = some u → w.cell? (na.add j) = some u := fun j u hu => (hncell j u hu).1
  rcases hvsh with ⟨rfl, rfl⟩ | ⟨a, cap, rfl, hs, hc, hcm, hM, hcell⟩
  ·
    by_cases hm0 : news.length = 0
    · have hne : news = [] := List.eq_nil_of_length_eq_zero hm0
      subst hne
      refine ⟨.slice none 0 0, w, M, ?_, .slnil, .inl rfl, hG, Ext.refl _ _ _, fun b hb' => .inl hb'⟩
      simp [Builtin.append_, run_underlying hd, sizeOf, typeInfo, hi, Builtin.lenOf, Builtin.firstCells, loadCells, loadCellsFrom]
    · simp only [List.length_nil, Nat.zero_add] at hm hbytes
      have hrun := run_append_nil (P := P) w t ty e info z hd hi hz na news.length ncap (Ca sz news.length nvals) hnl hncell' (by omega) (by unfold maxLen at hm; omega) (by omega)
      obtain ⟨M', g1, g2, g3, g4⟩ := grown [] (grownCap w news.length 0 e) w.drew _ (by simp [Ca]) (by simpa using grownCap_ge w news.length 0 e) (grownCap_le_maxLen w _ _ e hm) rfl rfl rfl rfl
        (by simpa using hzc (grownCap w news.length 0 e - news.length))
      simp only [List.length_nil, Nat.zero_add, List.nil_append] at g1 g2 g3 g4
      refine ⟨_, _, M', hrun, g1, by simpa using g2, by simpa using g3, (by simpa using g4 : Ext J6 M w M' _).weaken (fun _ h => h.elim), fun b hb' => ?_⟩
      simp only [blk] at hb'
      split at hb'
      · simp at hb'; exact .inr (by omega)
      · cases hb'
  · by_cases hroom : rows.length + news.length ≤ cap
    · by_cases hm0 : news.length = 0
      · have hne : news = [] := List.eq_nil_of_length_eq_zero hm0
        subst hne
        refine ⟨.slice (some a) rows.length cap, w, M, ?_, by simpa using hv, by simpa using htok, hG, Ext.refl _ _ _, fun b hb' => .inl (by simpa using hb')⟩
        simp [Builtin.append_, run_underlying hd, sizeOf, typeInfo, hi, Builtin.lenOf, Builtin.firstCells, hc, storeCells, loadCells, loadCellsFrom]
      ·
        have hlt : rows.length < cap := by omega
        rcases htok with h' | ⟨a', n', cap', h', _, _, _, htk⟩
        · cases h'
        · simp only [Value.slice.injEq, Option.some.injEq] at h'
          obtain ⟨rfl, rfl, rfl⟩ := h'
          obtain ⟨h0, vs, hvs, hcap, hfree⟩ := htk hlt
          obtain ⟨b, o, sp⟩ := a
          have hs2 : sp = none := hs.resolve_left (by omega)
          simp only at h0 hvs hfree
          subst h0; subst hs2
          have hfit : rows.length * info.size + (Ca sz news.length nvals).length ≤ vs.size := by
            rw [Xi, hsz, ← Nat.add_mul]
            exact Nat.le_trans (Nat.mul_le_mul_right _ hroom) hcap
          have hrun := run_append_room (P := P) w t ty e info hd hi b rows.length cap vs hvs na news.length ncap (Ca sz news.length nvals) hnl hncell' (fun u hu' => by
            obtain ⟨j, hj⟩ := List.getElem?_of_mem hu'
            exact (hncell j u hj).2) hroom hfit
          rw [hsz] at hrun
          let cs : List Value := vs.toList.take (rows.length * sz) ++ Ca sz news.length nvals ++ vs.toList.drop (rows.length * sz + (Ca sz news.length nvals).length)
          have hget := fun i => T1t vs.toList (rows.length * sz) (Ca sz news.length nvals) i (by rw [hsz] at hfit; simpa using hfit)
          let M' : Mem := fun ad => if ad.block = b ∧ ad.spot = none ∧ rows.length * sz ≤ ad.off ∧ ad.off < (rows.length + news.length) * sz then (Ca sz news.length nvals)[ad.off - rows.length * sz]? else M ad
          have hmono : ∀ ad x, M ad = some x → M' ad = some x := fun ad x hx => by
            simp only [M']
            rw [if_neg]
            · exact hx
            · rintro ⟨q1, q2, q3, _⟩
              obtain ⟨bb, oo, ss⟩ := ad
              simp only at q1 q2 q3
              subst q1
              rw [hfree oo ss q3] at hx
              cases hx
          have hheap : (w.setRow b cs.toArray).heap[b]? = some (.cells cs.toArray e (0, 0)) := setRow_heap w b vs _ e (0, 0) hvs
          refine ⟨_, _, M', hrun, ?_, ?_, ?_, ?_, ?_⟩
          · refine .sl sz (fun i j => if i < rows.length then J1 i j else nvals (i - rows.length) j) (by simp) hroom hcm (.inr rfl) (fun i r hr' => ?_) (fun i j r x hr' hx => ?_) fun i j r x hr' hx => ?_
            · rcases List.mem_append.1 (List.mem_of_getElem? hr') with h' | h'
              · exact hr r h'
              · exact hn r h'
            · have hrl : r.length = sz := by
                rcases List.mem_append.1 (List.mem_of_getElem? hr') with h' | h'
                · exact hr r h'
                · exact hn r h'
              have hj : j < sz := by rw [← hrl]; exact (List.getElem?_eq_some_iff.1 hx).1
              by_cases hi' : i < rows.length
              · rw [if_pos hi']
                exact hmono _ _ (hM i j hi' hj)
              · have hil : i < rows.length + news.length := by have := (List.getElem?_eq_some_iff.1 hr').1; simpa using this
                rw [if_neg hi', Rk]
                have e1 : i * sz + j = rows.length * sz + ((i - rows.length) * sz + j) := by
                  have : i * sz = rows.length * sz + (i - rows.length) * sz := by rw [← Nat.add_mul]; congr 1; omega
                  omega
                have hlt' : (i - rows.length) * sz + j < news.length * sz := by
                  have : (i - rows.length + 1) * sz ≤ news.length * sz := Nat.mul_le_mul_right _ (by omega)
                  rw [Nat.add_mul] at this; omega
                simp only [M', Nat.zero_add]
                rw [if_pos ⟨trivial, trivial, by omega, by rw [Nat.add_mul]; omega⟩, e1, Nat.add_sub_cancel_left, F1f hj (by omega)]
            · by_cases hi' : i < rows.length
              · rw [List.getElem?_append_left hi'] at hr'
                simp only [if_pos hi']
                exact (hvr i j r x hr' hx).mono hmono
              · rw [List.getElem?_append_right (by omega)] at hr'
                simp only [if_neg hi']
                exact (hnr _ j r x hr' hx).mono hmono
          · refine .inr ⟨⟨b, 0, none⟩, _, cap, rfl, .inr rfl, hroom, hcm, fun hlt' => ⟨rfl, cs.toArray, hheap, ?_, fun k sp hk => ?_⟩⟩
            · have : cs.length = vs.size := by
                simp only [cs, List.length_append, List.length_take, List.length_drop, Array.length_toList]
                rw [hsz] at hfit
                omega
              simpa [this] using hcap
            · simp only [M']
              rw [if_neg (by omega)]
              exact hfree k sp (Nat.le_trans (Nat.mul_le_mul_right _ (by omega)) hk)
          · intro ad x hx
            simp only [M'] at hx
            split at hx
            · rename_i hcnd
              obtain ⟨bb, oo, ss⟩ := ad
              simp only at hcnd hx
              obtain ⟨rfl, rfl, q3, q4⟩ := hcnd
              refine .inl ⟨rfl, ?_⟩
              rw [Yv hheap, List.getElem?_toArray]
              show cs[oo]? = some x
              simp only [cs]
              rw [hget oo, if_pos ⟨q3, by rw [Xi, ← Nat.add_mul]; exact q4⟩]
              exact hx
            · by_cases hbb : ad.block = b
              · obtain ⟨q1, q2⟩ : ad.spot = none ∧ w.cell? ad = some x := by
                  rcases hG ad x hx with h | ⟨_, ms, cl, h, _⟩
                  · exact h
                  · rw [hbb, hvs] at h; cases h
                refine .inl ⟨q1, ?_⟩
                obtain ⟨bb, oo, ss⟩ := ad
                simp only at hbb q1
                subst hbb; subst q1
                have hlt2 : oo < rows.length * sz := by
                  rcases Nat.lt_or_ge oo (rows.length * sz) with h' | h'
                  · exact h'
                  · rw [hfree oo _ h'] at hx; cases hx
                rw [Yv hvs] at q2
                rw [Yv hheap, List.getElem?_toArray]
                show cs[oo]? = some x
                simp only [cs]
                rw [hget oo, if_neg (by omega)]
                simpa using q2
              · exact E1w (setRow_other w b ad.block _ hbb) (hG ad x hx)
          · refine ⟨hmono, by rw [X1q]; exact Nat.le_refl _, rfl, rfl, rfl, fun k _ hk => setRow_other w b k _ (fun e' => hk (by simp [blk, hlt, e'])), fun ad x hx => ?_⟩
            simp only [M'] at hx
            split at hx
            · rename_i hcnd
              exact .inr (.inl (by simp [blk, hlt, hcnd.1]))
            · exact .inl hx
          · intro c hc'
            simp only [blk] at hc'
            split at hc'
            · simp at hc'
              subst hc'
              exact .inl (by simp [blk, hlt])
            · cases hc'
    · have hrun := run_append_grow (P := P) w t ty e info z hd hi hz a rows.length cap (Ca sz rows.length J1) (by rw [Xi, hsz]) (fun j u hu' => (hcell j u hu').1) na news.length ncap (Ca sz news.length nvals) hnl hncell'
        (by omega) (by unfold maxLen at hm; omega) (growslice_fits (by omega) hbytes)
      obtain ⟨M', g1, g2, g3, g4⟩ := grown (Ca sz rows.length J1) (grownCap w (rows.length + news.length) cap e) w.drew (Builtin.zeroCells z.cells (grownCap w (rows.length + news.length) cap e - (rows.length + news.length))) rfl (grownCap_ge w _ _ e) (grownCap_le_maxLen w _ _ e hm) rfl rfl rfl rfl (hzc _)
      refine ⟨_, _, M', hrun, g1, g2, g3, g4.weaken (fun _ h => h.elim), fun b hb' => ?_⟩
      simp only [blk] at hb'
      split at hb'
      · simp at hb'; exact .inr (by omega)
      · cases hb'
end Go.Am

namespace Go.Am
theorem St.turnTok {C : Cx} {N : Nat} {M M' : Mem} {G : Nat → Value} {w w' : World} {env : Env} {H : T0} {a : Act} (h : St C N M G w env H a) {dst : Option Nat} (hd : ∀ d, dst = some d → d < N) {p e sz e' sz' : Nat} {v' : Value} {x : A}
    (hp : H[p]? = some (.tok e sz)) (hext : Ext (fun b => blk (.tok e sz) (G p) = some b) M w M' w') (hg : H8 M' w') (hob : Uh M' G w' (.tok e sz) v') (hblk : ∀ b, blk (.tok e sz) v' = some b → blk (.tok e sz) (G p) = some b ∨ w.heap.size ≤ b)
    (hx : B1 M' (A7 G p v') x v') (_he : e' = e) (_hs : sz' = sz) :
    St C N M' (A7 G p v') w' (put (fun t => dg [p] (env t)) dst x) (H.map (dgO [p])) (a.put dst v') := by
  have hps : ∀ q ∈ [p], ∃ a l c, G q = .slice a l c := fun q hq => by
    simp at hq; subst hq
    rcases h.hrel.obj q _ hp with e | ⟨ad, n, cap, e, _⟩
    · exact ⟨_, _, _, e⟩
    · exact ⟨_, _, _, e⟩
  have hgg : ∀ o, o ∉ [p] → G o ≠ .tuple #[] → A7 G p v' o = G o := fun o ho _ => R2 (by simpa using ho)
  have hplt : p < H.length := (List.getElem?_eq_some_iff.1 hp).1
  have getH : ∀ (o : Nat) z, (H.map (dgO [p]))[o]? = some z → ∃ y, H[o]? = some y ∧ z = dgO [p] y := fun o z hz => by
    rw [List.getElem?_map] at hz
    cases hy : H[o]? with
    | none => rw [hy] at hz; cases hz
    | some y => rw [hy] at hz; exact ⟨y, rfl, by simpa using hz.symm⟩
  obtain ⟨p1, p2, p3⟩ := Ku (env := fun t => dg [p] (env t)) (dst := dst) (x := x) (a := a) (v := v') (N := N) (M := M') (G := A7 G p v') (fun t => P21 ((h.env t).mono' hext.mono) hps hgg) h.size hd hx
  refine ⟨hg, h.gl.ext h.hrel hext (fun b hb => ⟨p, _, hp, hb⟩), ⟨fun o z hz => ?_, fun o o' z z' b hz hz' hb hb' => ?_, fun o ho => ?_⟩, p1, p2, p3.trans h.defers⟩
  · obtain ⟨y, hy, rfl⟩ := getH o z hz
    by_cases hop : o = p
    · subst hop
      rw [hp] at hy
      obtain rfl := Option.some.inj hy
      rw [X2]
      exact hob
    · rw [R2 hop]
      have hoy := h.hrel.obj o y hy
      refine F26 (hoy.keep hext.mono (fun b hb => hext.block b (He hoy hb) fun hb' => hop (h.hrel.apart o p y _ b hy hp hb hb')) fun b hb off sp hn => ?_) hps hgg
      cases hM : M' ⟨b, off, sp⟩ with
      | none => rfl
      | some u =>
        rcases hext.fresh _ u hM with q | q | q
        · rw [hn] at q; cases q
        · exact absurd (h.hrel.apart o p y _ b hy hp hb q) hop
        · have := He hoy hb; simp only at q; omega
  · have key : ∀ (o : Nat) z b, (H.map (dgO [p]))[o]? = some z → blk z (A7 G p v' o) = some b → ∃ y, H[o]? = some y ∧ (blk y (G o) = some b ∨ o = p ∧ w.heap.size ≤ b) := by
      intro o z b hz hb
      obtain ⟨y, hy, rfl⟩ := getH o z hz
      replace hb := J16 hb
      refine ⟨y, hy, ?_⟩
      by_cases hop : o = p
      · subst hop
        rw [hp] at hy
        obtain rfl := Option.some.inj hy
        rw [X2] at hb
        rcases hblk b hb with q | q
        · exact .inl q
        · exact .inr ⟨rfl, q⟩
      · rw [R2 hop] at hb
        exact .inl hb
    obtain ⟨y, hy, hyb⟩ := key o z b hz hb
    obtain ⟨y', hy', hyb'⟩ := key o' z' b hz' hb'
    rcases hyb with q | ⟨q1, q2⟩ <;> rcases hyb' with r | ⟨r1, r2⟩
    · exact h.hrel.apart o o' y y' b hy hy' q r
    · have := He (h.hrel.obj o y hy) q; omega
    · have := He (h.hrel.obj o' y' hy') r; omega
    · rw [q1, r1]
  · simp only [List.length_map] at ho
    rw [R2 (by omega)]
    exact h.hrel.fresh o ho
theorem M3.turnTok {fr : Fr} {M M' : Mem} {G : Nat → Value} {w w' : World} {H : T0} (h : M3 fr M G w H) {p e sz : Nat} {v' : Value}
    (hp : H[p]? = some (.tok e sz)) (hext : Ext (fun b => blk (.tok e sz) (G p) = some b) M w M' w') (hblk : ∀ b, blk (.tok e sz) v' = some b → blk (.tok e sz) (G p) = some b ∨ w.heap.size ≤ b) :
    M3 fr M' (A7 G p v') w' (H.map (dgO [p])) := by
  have getH : ∀ (o : Nat) z, (H.map (dgO [p]))[o]? = some z → ∃ y, H[o]? = some y ∧ z = dgO [p] y := fun o z hz => by
    rw [List.getElem?_map] at hz
    cases hy : H[o]? with
    | none => rw [hy] at hz; cases hz
    | some y => rw [hy] at hz; exact ⟨y, rfl, by simpa using hz.symm⟩
  have hplt : p < H.length := (List.getElem?_eq_some_iff.1 hp).1
  refine ⟨h.ext.trans hext fun b hb => h.own b ⟨p, _, hp, hb⟩, fun b ⟨o, z, hz, hb⟩ => ?_, by simpa using h.len, fun o x ho ht => ?_, fun o x y ho ht hy => ?_⟩
  · obtain ⟨y, hy, rfl⟩ := getH o z hz
    replace hb := J16 hb
    by_cases hop : o = p
    · subst hop
      rw [hp] at hy
      obtain rfl := Option.some.inj hy
      rw [X2] at hb
      rcases hblk b hb with q | q
      · exact h.own b ⟨o, _, hp, q⟩
      · exact .inr (Nat.le_trans h.ext.size q)
    · rw [R2 hop] at hb
      exact h.own b ⟨o, y, hy, hb⟩
  · have hne : o ≠ p := fun e' => by
      subst e'
      have := h.kind o x _ ho ht hp
      simp [isTok] at this
    rw [R2 hne]
    exact h.keep o x ho ht
  · obtain ⟨z, hz, rfl⟩ := getH o y hy
    rw [A1y]
    exact h.kind o x z ho ht hz
theorem St.newTok {C : Cx} {N : Nat} {M M' : Mem} {G : Nat → Value} {w w' : World} {env : Env} {H : T0} {a : Act} (h : St C N M G w env H a) {dst : Option Nat} (hd : ∀ d, dst = some d → d < N) {e sz : Nat} {v' : Value} {x : A}
    (hext : Ext J6 M w M' w') (hg : H8 M' w') (hob : Uh M' G w' (.tok e sz) v') (hblk : ∀ b, blk (.tok e sz) v' = some b → w.heap.size ≤ b)
    (hx : B1 M' (A7 G H.length v') x v') :
    St C N M' (A7 G H.length v') w' (put env dst x) (H ++ [.tok e sz]) (a.put dst v') := by
  have hh := h.hrel.ext hext (fun _ _ q => q)
  have hmono : ∀ {x : A} {v : Value}, B1 M' G x v → B1 M' (A7 G H.length v') x v := fun hr => hr.mono (fun _ _ e => e) fun o hn => R2 (Nat.ne_of_lt (hh.lt hr hn))
  obtain ⟨h1, h2, h3⟩ := Ku (fun t => hmono ((h.env t).mono' hext.mono)) h.size hd hx
  refine ⟨hg, h.gl.ext h.hrel hext (fun _ h => h.elim), ⟨fun o x ho => ?_, fun o o' x x' b ho ho' hb hb' => ?_, fun o ho => ?_⟩, h1, h2, h3.trans h.defers⟩
  · rcases Nat.lt_trichotomy o H.length with hlt | rfl | hgt
    · rw [List.getElem?_append_left hlt] at ho
      rw [R2 (Nat.ne_of_lt hlt)]
      have hob := hh.obj o x ho
      cases x with
      | dead => trivial
      | row cells e =>
        obtain ⟨b, us, g1, g2, g3, g4, g5, g6⟩ := hob
        exact ⟨b, us, g1, g2, g3, g4, fun i y v a c => hmono (g5 i y v a c), g6⟩
      | bld o' e =>
        obtain ⟨b, v0, g1, g2, g3, g4, g5⟩ := hob
        have ho' : o' ≠ H.length := fun e => g4 (by rw [e]; exact hh.fresh _ (Nat.le_refl _))
        exact ⟨b, v0, g1, by rw [R2 ho']; exact g2, g3, by rw [R2 ho']; exact g4, g5⟩
      | buf e sz => exact hob
      | tok e sz => exact hob
      | map es =>
        obtain ⟨b, ms, cl, g1, g2, g3, g4, g5⟩ := hob
        exact ⟨b, ms, cl, g1, g2, g3, fun i k cs e a c => ⟨(g4 i k cs e a c).1, hmono (g4 i k cs e a c).2⟩, g5⟩
    · simp at ho
      subst ho
      rw [X2]
      exact hob
    · rw [List.getElem?_eq_none (by simp; omega)] at ho
      cases ho
  · have key : ∀ (o : Nat) x b, (H ++ [Ob.tok e sz])[o]? = some x → blk x (A7 G H.length v' o) = some b → (o < H.length ∧ H[o]? = some x ∧ blk x (G o) = some b ∧ b < w.heap.size) ∨ (o = H.length ∧ w.heap.size ≤ b) := by
      intro o x b ho hb
      rcases Nat.lt_trichotomy o H.length with hlt | rfl | hgt
      · rw [List.getElem?_append_left hlt] at ho
        rw [R2 (Nat.ne_of_lt hlt)] at hb
        exact .inl ⟨hlt, ho, hb, He (h.hrel.obj o x ho) hb⟩
      · simp at ho
        subst ho
        rw [X2] at hb
        exact .inr ⟨rfl, hblk b hb⟩
      · rw [List.getElem?_eq_none (by simp; omega)] at ho
        cases ho
    rcases key o x b ho hb with ⟨q1, q2, q3, q4⟩ | ⟨q1, q2⟩ <;> rcases key o' x' b ho' hb' with ⟨p1, p2, p3, p4⟩ | ⟨p1, p2⟩
    · exact h.hrel.apart o o' x x' b q2 p2 q3 p3
    · omega
    · omega
    · omega
  · simp at ho
    rw [R2 (by omega)]
    exact h.hrel.fresh o (by omega)
theorem M3.newTok {fr : Fr} {M M' : Mem} {G : Nat → Value} {w w' : World} {H : T0} (h : M3 fr M G w H) {e sz : Nat} {v' : Value} (hext : Ext J6 M w M' w') (hblk : ∀ b, blk (.tok e sz) v' = some b → w.heap.size ≤ b) :
    M3 fr M' (A7 G H.length v') w' (H ++ [.tok e sz]) := by
  refine ⟨h.ext.trans hext (fun _ h => h.elim), fun b hb => ?_, by simp; have := h.len; omega, fun o x ho ht => ?_, fun o x y ho ht hy => ?_⟩
  · obtain ⟨o, x, ho, hx⟩ := hb
    rcases Nat.lt_trichotomy o H.length with hlt | rfl | hgt
    · rw [List.getElem?_append_left hlt] at ho
      rw [R2 (Nat.ne_of_lt hlt)] at hx
      exact h.own b ⟨o, x, ho, hx⟩
    · simp at ho
      subst ho
      rw [X2] at hx
      exact .inr (Nat.le_trans h.ext.size (hblk b hx))
    · rw [List.getElem?_eq_none (by simp; omega)] at ho
      cases ho
  · have hlt : o < H.length := Nat.lt_of_lt_of_le (List.getElem?_eq_some_iff.1 ho).1 h.len
    rw [R2 (Nat.ne_of_lt hlt)]
    exact h.keep o x ho ht
  · have hlt : o < H.length := Nat.lt_of_lt_of_le (List.getElem?_eq_some_iff.1 ho).1 h.len
    rw [List.getElem?_append_left hlt] at hy
    exact h.kind o x y ho ht hy
def dgC (ps : List Nat) : List A → Option (List A)
  | [] => some []
  | x :: r => match frc (dg ps x), dgC ps r with | some y, some r' => some (y :: r') | _, _ => none
theorem I2b {ps : List Nat} : ∀ {l l' : List A}, dgC ps l = some l' → l' = dgL ps l
  | [], l', h => by simp [dgC] at h; subst h; rfl
  | x :: r, l', h => by
    simp only [dgC] at h
    split at h
    · rename_i y r' hy hr
      simp only [Option.some.injEq] at h
      subst h
      rw [Ut hy, I2b hr]
      rfl
    · cases h
def dgH (ps : List Nat) : T0 → Option T0
  | [] => some []
  | .row cs e :: r => match dgC ps cs, dgH ps r with | some cs', some r' => some (.row cs' e :: r') | _, _ => none
  | .dead :: r => match dgH ps r with | some r' => some (.dead :: r') | none => none
  | .bld o e :: r => match dgH ps r with | some r' => some ((bif ps.contains o then .dead else .bld o e) :: r') | none => none
  | .buf e sz :: r => match dgH ps r with | some r' => some (.buf e sz :: r') | none => none
  | .tok e sz :: r => match dgH ps r with | some r' => some (.tok e sz :: r') | none => none
  | .map es :: r => match dgH ps r with | some r' => some (.map es :: r') | none => none
theorem O1c {ps : List Nat} : ∀ {H H' : T0}, dgH ps H = some H' → H' = H.map (dgO ps)
  | [], H', h => by simp [dgH] at h; subst h; rfl
  | .row cs e :: r, H', h => by
    simp only [dgH] at h
    split at h
    · rename_i cs' r' hc hr
      simp only [Option.some.injEq] at h
      subst h
      rw [I2b hc, O1c hr]
      rfl
    · cases h
  | .dead :: r, H', h => by
    simp only [dgH] at h
    split at h
    · rename_i r' hr
      simp only [Option.some.injEq] at h
      subst h
      rw [O1c hr]; rfl
    · cases h
  | .bld o e :: r, H', h => by
    simp only [dgH] at h
    split at h
    · rename_i r' hr
      simp only [Option.some.injEq] at h
      subst h
      rw [O1c hr]; rfl
    · cases h
  | .buf e sz :: r, H', h => by
    simp only [dgH] at h
    split at h
    · rename_i r' hr
      simp only [Option.some.injEq] at h
      subst h
      rw [O1c hr]; rfl
    · cases h
  | .tok e sz :: r, H', h => by
    simp only [dgH] at h
    split at h
    · rename_i r' hr
      simp only [Option.some.injEq] at h
      subst h
      rw [O1c hr]; rfl
    · cases h
  | .map es :: r, H', h => by
    simp only [dgH] at h
    split at h
    · rename_i r' hr
      simp only [Option.some.injEq] at h
      subst h
      rw [O1c hr]; rfl
    · cases h
structure Ap where
  d : Option Nat
  p : Nat
  new : Bool
  rows : List Row
  news : List Row
  sz : Nat
  bytes : Nat
  H : T0
def P28 (C : Cx) (L : List Oper) (o : Oper) (env : Env) (H : T0) : Option Ap :=
  match K1 L env o, o.op, H6 o with
  | some true, .call { callee := .builtin .append, args, argTypes }, some d =>
    match args.toList, argTypes.toList with
    | [x, y], [t, t'] => bif Nat.beq t t' then
      (match P2 C.T t, Zv (ev C.GL env y) with
      | some it, some news => match it.u with
        | .sl e => match P2 C.T e with
          | some ie => match ev C.GL env x with
            | .osl p rows => match nth H p with
              | some (.tok e' sz') => bif Nat.beq e e' && Nat.beq ie.size sz' then (match dgH [p] H with | some H' => some ⟨d, p, false, rows, news, ie.size, ie.bytes, H'⟩ | none => none) else none
              | _ => none
            | .full rows => match At H (.tok e ie.size) with
              | some (n, H') => some ⟨d, n, true, rows, news, ie.size, ie.bytes, H'⟩
              | none => none
            | _ => none
          | none => none
        | _ => none
      | _, _ => none) else none
    | _, _ => none
  | _, _, _ => none
theorem Wt {P : Program} {ρ : Operand → Value} {o : Oper} {x y : Operand} {t t' : TypeId} {args : Array Operand} {ts : Array TypeId} (ho : o.op = .call { callee := .builtin .append, args := args, argTypes := ts }) (ha : args.toList = [x, y]) (ht : ts.toList = [t, t']) {w w' : World} {v : Value}
    (h : (Builtin.append_ #[t, t'] o.type #[ρ x, ρ y]).run P w = .ok v w') : (execOp ρ o).run P w = .ok (.value v) w' := by
  obtain rfl : args = #[x, y] := by rw [← Array.toArray_toList (xs := args), ha]
  obtain rfl : ts = #[t, t'] := by rw [← Array.toArray_toList (xs := ts), ht]
  unfold execOp
  simp [ho, resolve, invoke, builtin, h]
theorem Lu {M : Mem} {G : Nat → Value} {w : World} {rows : List Row} {v : Value} (h : O2 M (.sl rows) v) (hf : M1t v) (e sz : Nat) : Uh M G w (.tok e sz) v ∧ ∀ b, blk (.tok e sz) v ≠ some b := by
  cases h with
  | slnil => exact ⟨.inl rfl, fun b hb => by simp [blk] at hb⟩
  | sl sz' J1 hl hc hm hs hz h1 h2 =>
    rename_i a len cap
    have hf' : len = cap := hf
    subst hf'
    exact ⟨.inr ⟨a, len, len, rfl, hs, Nat.le_refl _, hm, fun hlt => absurd hlt (Nat.lt_irrefl _)⟩, fun b hb => by simp [blk] at hb⟩
theorem I0.a {F : Fx} (hC : B2 F.C) {L l : List Oper} {o : Oper} {env : Env} {H : T0} {Q : Env → T0 → Prop} {d : Option Nat} {p : Nat} {nw : Bool} {rows news : List Row} {sz bytes : Nat} {H' : T0}
    (h : P28 F.C L o env H = some ⟨d, p, nw, rows, news, sz, bytes, H'⟩) (h1 : ∀ r ∈ rows, r.length = sz) (h2 : ∀ r ∈ news, r.length = sz) (h3 : (rows.length + news.length) * (bytes + 1) ≤ 140737488355328)
    (k : I0 F L l (put (bif nw then env else fun t => dg [p] (env t)) d (.osl p (rows ++ news))) H' Q) : I0 F L (o :: l) env H Q := by
  unfold P28 at h
  split at h
  · rename_i args ts dd hw ho hd
    split at h
    · rename_i x y t t' ha ht
      cases hb : Nat.beq t t' with
      | false => rw [hb] at h; cases h
      | true =>
        rw [hb] at h
        obtain rfl := Nat.eq_of_beq_eq_true hb
        simp only [cond_true] at h
        split at h
        · rename_i it news' hit hnews
          split at h
          · rename_i e hu
            split at h
            · rename_i ie hie
              have hmem : x ∈ o.op.operands ∧ y ∈ o.op.operands := by
                rw [ho]
                obtain rfl : args = #[x, y] := by rw [← Array.toArray_toList (xs := args), ha]
                simp [Op.operands, Call.operands]
              have hlen : (rows.length + news.length) * bytes ≤ 140737488355328 ∧ rows.length + news.length ≤ maxLen := by
                have : (rows.length + news.length) * (bytes + 1) = (rows.length + news.length) * bytes + (rows.length + news.length) := Nat.mul_succ _ _
                unfold maxLen
                omega
              split at h
              · rename_i q rows' hx
                split at h
                · rename_i e' sz' hq
                  cases hbb : Nat.beq e e' && Nat.beq ie.size sz' with
                  | false => rw [hbb] at h; cases h
                  | true =>
                    rw [hbb] at h
                    simp only [Bool.and_eq_true] at hbb
                    obtain rfl := Nat.eq_of_beq_eq_true hbb.1
                    obtain rfl := Nat.eq_of_beq_eq_true hbb.2
                    simp only [cond_true] at h
                    split at h
                    · rename_i H2 hH
                      simp only [Option.some.injEq, Ap.mk.injEq] at h
                      obtain ⟨rfl, rfl, rfl, rfl, rfl, rfl, rfl, rfl⟩ := h
                      refine Ja hw fun fr M G w a K Qw hK hdok hs hsi hk => ?_
                      have hxr := hs.eval x
                      rw [hx] at hxr
                      generalize hxv : a.eval x = xv at hxr
                      cases hxr
                      rename_i hgq hrd
                      rw [F3] at hq
                      have htok : Tok M w e ie.size xv := by have := hs.hrel.obj _ _ hq; rw [hgq] at this; exact this
                      obtain ⟨v', w', M', r1, r2, r3, r4, r5, r6⟩ := K17 (ty := o.type) hC.tok hs.good hit hu hie hrd (Wh hnews (hs.eval y)) htok h1 h2 hlen.1 hlen.2
                      unfold Oper.wp
                      rw [Wt ho ha ht (by rw [hxv]; exact r1)]
                      have e1 := O1c hH
                      subst e1
                      rw [← hgq] at r5 r6
                      refine hk (.osl q (rows' ++ news')) (fun t => dg [q] (env t)) _ M' (A7 G q v') w' v' ?_ (hs.turnTok (Q4 hdok) hq r5 r4 r3 r6 (.osl r2 X2) rfl rfl) (hsi.turnTok hq r5 r6)
                      rw [S3 hd]
                      exact k
                    · cases h
                · cases h
              · rename_i rows' hx
                split at h
                · rename_i n H2 hH
                  simp only [Option.some.injEq, Ap.mk.injEq] at h
                  obtain ⟨rfl, rfl, rfl, rfl, rfl, rfl, rfl, rfl⟩ := h
                  obtain ⟨rfl, rfl⟩ := Zl hH
                  refine Ja hw fun fr M G w a K Qw hK hdok hs hsi hk => ?_
                  have hxr := hs.eval x
                  rw [hx] at hxr
                  generalize hxv : a.eval x = xv at hxr
                  cases hxr
                  rename_i hfull hrd
                  obtain ⟨t1, t2⟩ := Lu (G := fun _ => .tuple #[]) (w := w) hrd hfull e ie.size
                  obtain ⟨v', w', M', r1, r2, r3, r4, r5, r6⟩ := K17 (ty := o.type) hC.tok hs.good hit hu hie hrd (Wh hnews (hs.eval y)) t1 h1 h2 hlen.1 hlen.2
                  unfold Oper.wp
                  rw [Wt ho ha ht (by rw [hxv]; exact r1)]
                  have r5' : Ext J6 M w M' w' := r5.weaken fun b hb => absurd hb (t2 b)
                  have r6' : ∀ b, blk (.tok e ie.size) v' = some b → w.heap.size ≤ b := fun b hb => (r6 b hb).resolve_left (t2 b)
                  refine hk (.osl H.length (rows' ++ news')) env _ M' (A7 G H.length v') w' v' ?_ (hs.newTok (Q4 hdok) r5' r4 r3 r6' (.osl r2 X2)) (hsi.newTok r5' r6')
                  rw [S3 hd]
                  exact k
                · cases h
              · cases h
            · cases h
          · cases h
        · cases h
    · cases h
  · cases h
theorem AEx.tokE {F : Fx} {c : Code} {env : Env} {H : T0} {Q : Po} (t e sz : Nat) {rows : List Row} (h : env t = .full rows) (k : AEx F c (upd env t (.osl H.length rows)) (H ++ [.tok e sz]) Q) : AEx F c env H Q := by
  intro fr M G w a hK hs hsi
  have hr := hs.env t
  rw [h] at hr
  generalize hv : a.tmps.getD t undef = v at hr
  cases hr
  rename_i hf hrd
  obtain ⟨t1, t2⟩ := Lu (G := G) (w := w) hrd hf e sz
  have hsi' := hsi.newTok (Ext.refl J6 M w) (e := e) (sz := sz) (v' := v) fun b hb => absurd hb (t2 b)
  have hs' := hs.newTok (dst := none) (by simp) (Ext.refl J6 M w) hs.good (e := e) (sz := sz) (v' := v) (x := .osl H.length rows) t1 (fun b hb => absurd hb (t2 b)) (.osl hrd X2)
  refine k fr M _ w a hK ⟨hs'.good, hs'.gl, hs'.hrel, fun s => ?_, hs.size, hs.defers⟩ hsi'
  unfold upd
  cases hb : Nat.beq s t with
  | true =>
    obtain rfl := Nat.eq_of_beq_eq_true hb
    rw [hv]
    exact .osl hrd X2
  | false => exact hs'.env s
theorem AEx.tokC {F : Fx} {c : Code} {env : Env} {H : T0} {Q : Po} (o n e sz : Nat) {cs cs' : List A} {el m : Nat} {rows : List Row} {H1 H2 : T0} (ho : nth H o = some (.row cs el)) (h : nth cs n = some (.full rows)) (hp : At H (.tok e sz) = some (m, H1)) (hcs : G16 cs n [.osl m rows] = some cs') (hH : Pm H1 o (.row cs' el) = some H2)
    (k : AEx F c env H2 Q) : AEx F c env H Q := by
  intro fr M G w a hK hs hsi
  obtain ⟨rfl, rfl⟩ := Zl hp
  have e1 := S1h hcs
  have e2 := Cw hH
  subst e1
  subst e2
  rw [F3] at ho h
  have hol : o < H.length := (List.getElem?_eq_some_iff.1 ho).1
  have hnl : n < cs.length := (List.getElem?_eq_some_iff.1 h).1
  obtain ⟨b, vs, g1, g2, g3, g4, g5, g6⟩ := hs.hrel.obj o _ ho
  have hvn : vs[n]? = some vs[n] := Array.getElem?_eq_getElem (by omega)
  have hr := g5 n _ _ h hvn
  generalize hv : vs[n] = v at hr hvn
  cases hr
  rename_i hf hrd
  obtain ⟨t1, t2⟩ := Lu (G := G) (w := w) hrd hf e sz
  have hsi' := hsi.newTok (Ext.refl J6 M w) (e := e) (sz := sz) (v' := v) fun b hb => absurd hb (t2 b)
  have hs' := hs.newTok (dst := none) (by simp) (Ext.refl J6 M w) hs.good (e := e) (sz := sz) (v' := v) (x := .junk) t1 (fun b hb => absurd hb (t2 b)) .junk
  have hgo : A7 G H.length v o = G o := R2 (Nat.ne_of_lt hol)
  have ho' : (H ++ [Ob.tok e sz])[o]? = some (.row cs el) := by rw [List.getElem?_append_left hol]; exact ho
  have hol' : o < (H ++ [Ob.tok e sz]).length := by simp; omega
  obtain ⟨b', vs', q1, q2, q3, q4, q5, q6⟩ := hs'.hrel.obj o _ ho'
  rw [hgo] at q1
  rw [g1] at q1
  simp at q1
  subst q1
  rw [g2] at q2
  simp at q2
  subst q2
  have hget := fun i => Aw cs n [.osl H.length rows] i (by simp; omega)
  refine k fr M (A7 G H.length v) w a hK ⟨hs'.good, hs'.gl, ⟨fun i x hi => ?_, fun i i' x x' c hi hi' hx hx' => ?_, fun i hi => hs'.hrel.fresh i (by rw [Xl] at hi; exact hi)⟩, hs'.env, hs.size, hs.defers⟩ ?_
  · rw [Z8 _ o _ i hol'] at hi
    split at hi
    · rename_i e; subst e
      simp only [Option.some.injEq] at hi
      subst hi
      refine ⟨b, vs, by rw [hgo]; exact g1, g2, by rw [Y10]; exact g3, g4, fun j y u hy hu => ?_, g6⟩
      rw [hget j] at hy
      split at hy
      · rename_i hj
        have : j = n := by simp at hj; omega
        subst this
        simp at hy
        subst hy
        rw [hvn] at hu
        obtain rfl := Option.some.inj hu
        exact .osl hrd X2
      · exact q5 j y u hy hu
    · exact hs'.hrel.obj i x hi
  · have key : ∀ (n' : Nat) z d, (Ha (H ++ [Ob.tok e sz]) o (Ob.row (Mg cs n [.osl H.length rows]) el))[n']? = some z → blk z (A7 G H.length v n') = some d → ∃ y, (H ++ [Ob.tok e sz])[n']? = some y ∧ blk y (A7 G H.length v n') = some d := by
      intro n' z d hn hz
      rw [Z8 _ o _ n' hol'] at hn
      by_cases e : n' = o
      · rw [if_pos e] at hn
        subst e
        obtain rfl := Option.some.inj hn
        exact ⟨_, ho', by rw [hgo, g1] at hz ⊢; exact hz⟩
      · rw [if_neg e] at hn
        exact ⟨z, hn, hz⟩
    obtain ⟨y, hy, hby⟩ := key i x c hi hx
    obtain ⟨y', hy', hby'⟩ := key i' x' c hi' hx'
    exact hs'.hrel.apart i i' y y' c hy hy' hby hby'
  · refine ⟨hsi'.ext, fun c ⟨i, x, hi, hx⟩ => ?_, by rw [Xl]; exact hsi'.len, hsi'.keep, fun i x y hi ht hy => ?_⟩
    · rw [Z8 _ o _ i hol'] at hi
      by_cases e : i = o
      · rw [if_pos e] at hi
        subst e
        obtain rfl := Option.some.inj hi
        exact hsi'.own c ⟨i, _, ho', by rw [hgo, g1] at hx ⊢; exact hx⟩
      · rw [if_neg e] at hi
        exact hsi'.own c ⟨i, x, hi, hx⟩
    · rw [Z8 _ o _ i hol'] at hy
      by_cases e : i = o
      · rw [if_pos e] at hy
        obtain rfl := Option.some.inj hy
        rfl
      · rw [if_neg e] at hy
        exact hsi'.kind i x y hi ht hy
end Go.Am

namespace Go.Am
theorem D2h {M : Mem} {w : World} (hG : H8 M w) (cs : Array Value) (e : TypeId) :
    ∃ M' : Mem, H8 M' (w.alloc (.cells cs e)) ∧ Ext J6 M w M' (w.alloc (.cells cs e)) ∧ ∀ (j : Nat) v, cs[j]? = some v → M' ⟨w.heap.size, j, none⟩ = some v := by
  refine ⟨fun ad => if ad.block = w.heap.size ∧ ad.spot = none then cs[ad.off]? else M ad, fun ad v hv => ?_, ⟨fun ad v hv => ?_, by simp, rfl, rfl, rfl, fun b hb _ => heap_alloc_old w _ b hb, fun ad v hv => ?_⟩, fun j v hv => ?_⟩
  · simp only at hv
    split at hv
    · rename_i hc
      obtain ⟨b, o, s⟩ := ad
      simp only at hc hv
      obtain ⟨rfl, rfl⟩ := hc
      exact .inl ⟨rfl, by rw [Yv (w := w.alloc (.cells cs e)) (heap_alloc_new w _)]; exact hv⟩
    · exact E1w (heap_alloc_old w _ _ (hG.lt hv)) (hG ad v hv)
  · have := hG.lt hv
    show (if ad.block = w.heap.size ∧ ad.spot = none then cs[ad.off]? else M ad) = some v
    rw [if_neg (by omega)]
    exact hv
  · have hv : (if ad.block = w.heap.size ∧ ad.spot = none then cs[ad.off]? else M ad) = some v := hv
    split at hv
    · rename_i hc; exact .inr (.inr (by omega))
    · exact .inl hv
  · show (if w.heap.size = w.heap.size ∧ (none : Option Nat) = none then cs[j]? else M _) = some v
    rw [if_pos ⟨rfl, rfl⟩]
    exact hv
def toD : A → Option D
  | .d x => some x
  | .full r => some (.sl r)
  | .osl _ r => some (.sl r)
  | _ => none
theorem H1w {M : Mem} {G : Nat → Value} {x : A} {y : D} {v : Value} (h : toD x = some y) (hx : B1 M G x v) : O2 M y v := by
  unfold toD at h
  split at h
  · simp only [Option.some.injEq] at h; subst h; cases hx; assumption
  · simp only [Option.some.injEq] at h; subst h; cases hx; assumption
  · simp only [Option.some.injEq] at h; subst h; cases hx; assumption
  · cases h
def I1w : List A → Option (List D)
  | [] => some []
  | x :: r => match toD x, I1w r with | some y, some r' => some (y :: r') | _, _ => none
theorem Y1r : ∀ {l : List A} {l' : List D}, I1w l = some l' → l'.length = l.length ∧ ∀ (i : Nat) y, l'[i]? = some y → ∃ x, l[i]? = some x ∧ toD x = some y
  | [], l', h => by simp [I1w] at h; subst h; exact ⟨rfl, fun i y h => by simp at h⟩
  | x :: r, l', h => by
    simp only [I1w] at h
    split at h
    · rename_i y r' hy hr
      simp only [Option.some.injEq] at h
      subst h
      obtain ⟨h1, h2⟩ := Y1r hr
      refine ⟨by simp [h1], fun i z hz => ?_⟩
      cases i with
      | zero => simp at hz; subst hz; exact ⟨x, rfl, hy⟩
      | succ i => simpa using h2 i z (by simpa using hz)
    · cases h
def W1h (sz : Nat) : Nat → List A → Option (List Row)
  | 0, _ => some []
  | n + 1, l => match I1w (l.take sz), W1h sz n (l.drop sz) with | some r, some rs => bif Nat.beq r.length sz then some (r :: rs) else none | _, _ => none
theorem Y1t {sz : Nat} : ∀ {n : Nat} {l : List A} {rs : List Row}, W1h sz n l = some rs → rs.length = n ∧ (∀ (i : Nat) r, rs[i]? = some r → r.length = sz) ∧ ∀ (i j : Nat) r y, rs[i]? = some r → r[j]? = some y → ∃ x, l[i * sz + j]? = some x ∧ toD x = some y
  | 0, l, rs, h => by simp [W1h] at h; subst h; exact ⟨rfl, fun i r h => by simp at h, fun i j r y h => by simp at h⟩
  | n + 1, l, rs, h => by
    simp only [W1h] at h
    split at h
    · rename_i r rs' hr hrs
      cases hb : Nat.beq r.length sz with
      | false => rw [hb] at h; cases h
      | true =>
        rw [hb] at h
        simp only [cond_true, Option.some.injEq] at h
        subst h
        have e := Nat.eq_of_beq_eq_true hb
        obtain ⟨h1, h2, h3⟩ := Y1t hrs
        obtain ⟨g1, g2⟩ := Y1r hr
        refine ⟨by simp [h1], fun i r' hi => ?_, fun i j r' y hi hj => ?_⟩
        · cases i with
          | zero => simp at hi; subst hi; exact e
          | succ i => exact h2 i r' (by simpa using hi)
        · cases i with
          | zero =>
            simp at hi
            subst hi
            obtain ⟨x, hx, hy⟩ := g2 j y hj
            rw [List.getElem?_take] at hx
            split at hx
            · exact ⟨x, by simpa using hx, hy⟩
            · cases hx
          | succ i =>
            obtain ⟨x, hx, hy⟩ := h3 i j r' y (by simpa using hi) hj
            rw [List.getElem?_drop] at hx
            exact ⟨x, by rw [← hx]; congr 1; rw [Nat.add_mul]; omega, hy⟩
    · cases h
theorem X2e {M : Mem} {G : Nat → Value} {w : World} (hG : H8 M w) {e sz n : Nat} {l : List A} {cs : Array Value} {rs : List Row} (hc : Mn M G l cs) (h : W1h sz n l = some rs) (hn : n ≤ maxLen) :
    ∃ M', O2 M' (.sl rs) (.slice (some ⟨w.heap.size, 0, none⟩) n n) ∧ H8 M' (w.alloc (.cells cs e)) ∧ Ext J6 M w M' (w.alloc (.cells cs e)) := by
  obtain ⟨M', h1, h2, h3⟩ := D2h hG cs e
  obtain ⟨g1, g2, g3⟩ := Y1t h
  have hget : ∀ (i j : Nat) r y, rs[i]? = some r → r[j]? = some y → ∃ v, cs[i * sz + j]? = some v ∧ O2 M y v := fun i j r y hi hj => by
    obtain ⟨x, hx, hy⟩ := g3 i j r y hi hj
    have hlt : i * sz + j < cs.size := by rw [← hc.1]; exact (List.getElem?_eq_some_iff.1 hx).1
    exact ⟨cs[i * sz + j], Array.getElem?_eq_getElem hlt, H1w hy (hc.2.2 _ x _ hx (Array.getElem?_eq_getElem hlt))⟩
  refine ⟨M', .sl sz (fun i j => (cs[i * sz + j]?).getD undef) g1 (Nat.le_refl _) hn (.inr rfl) g2 (fun i j r y hi hj => ?_) fun i j r y hi hj => ?_, h1, h2⟩
  · obtain ⟨v, hv, _⟩ := hget i j r y hi hj
    rw [Rk, hv, Nat.zero_add]
    exact h3 _ v hv
  · obtain ⟨v, hv, hr⟩ := hget i j r y hi hj
    rw [hv]
    exact hr.mono h2.mono
def R11 (C : Cx) (L : List Oper) (o : Oper) (env : Env) : Option (Option Nat × List Row) :=
  match K1 L env o, o.op, H6 o with
  | some true, .buildSlice t len parts, some d => match P2 C.T t with
    | some i => match i.u with
      | .sl e => match P2 C.T e with
        | some j => bif Nat.ble len 65536 && Nat.ble j.size 64 then (match Qx (fun i => some (i * j.size, j.size)) (List.replicate (len * j.size) .junk) (parts.toList.map fun p => (p.1, ev C.GL env p.2)) with
          | some out => match W1h j.size len out with | some rs => some (d, rs) | none => none
          | none => none) else none
        | none => none
      | _ => none
    | none => none
  | _, _, _ => none
theorem J2b {P : Program} {T : TT} (hT : TOk P T) {e : Nat} {j : TI} (he : P2 T e = some j) (len : Nat) (w : World) :
    ∃ z : Array Value, ((len * j.size = 0 ∧ z = #[]) ∨ (¬ len * j.size = 0 ∧ ∃ v, (zeroValue e).run P w = .ok v w ∧ z = v.cells)) ∧ ((Array.range (len * j.size)).map (z[· % z.size]!)).size = len * j.size ∧ ∀ (i : Nat) v, ((Array.range (len * j.size)).map (z[· % z.size]!))[i]? = some v → v.oneCell' = true := by
  by_cases h0 : len * j.size = 0
  · refine ⟨#[], .inl ⟨h0, rfl⟩, by simp, fun i v hv => ?_⟩
    rw [h0] at hv
    simp at hv
  · obtain ⟨z, h1, h2, _⟩ := Q1b (M := fun _ => none) (G := fun _ => undef) hT he
    refine ⟨z.cells, .inr ⟨h0, z, h1 w, rfl⟩, by simp, fun i v hv => ?_⟩
    have hpos := (hT.facts he).pos
    have hlen := (hT.facts he).len
    have hzs : z.cells.size = j.size := by have := h2.1; simp at this; omega
    rw [Array.getElem?_map] at hv
    cases hr : (Array.range (len * j.size))[i]? with
    | none => rw [hr] at hv; cases hv
    | some k =>
      rw [hr] at hv
      simp only [Option.map_some, Option.some.injEq] at hv
      subst hv
      have hlt : k % z.cells.size < z.cells.size := Nat.mod_lt _ (by omega)
      rw [getElem!_pos z.cells (k % z.cells.size) hlt]
      exact h2.2.1 _ _ (Array.getElem?_eq_getElem hlt)
theorem S11 {C : Cx} {L : List Oper} {o : Oper} {env : Env} {d : Option Nat} {rs : List Row} (h : R11 C L o env = some (d, rs)) : K1 L env o = some true ∧ H6 o = some d := by
  unfold R11 at h
  split at h
  · rename_i t len parts dd hw ho hd
    split at h
    · split at h
      · split at h
        · rename_i j hj
          cases hb : Nat.ble len 65536 && Nat.ble j.size 64 with
          | false => rw [hb] at h; cases h
          | true =>
            rw [hb] at h
            simp only [cond_true] at h
            split at h
            · split at h
              · simp only [Option.some.injEq, Prod.mk.injEq] at h
                exact ⟨hw, by rw [hd, h.1]⟩
              · cases h
            · cases h
        · cases h
      · cases h
    · cases h
  · cases h
theorem T11 {C : Cx} (hC : B2 C) {L : List Oper} {o : Oper} {env : Env} {H : T0} {d : Option Nat} {rs : List Row} (h : R11 C L o env = some (d, rs)) : N7 C o env H (.full rs) := by
  intro M G w a next Qw hρ hG hgl hH hk
  unfold R11 at h
  split at h
  · rename_i t len parts dd hw ho hd
    rw [ho] at hρ
    split at h
    · rename_i i ht
      split at h
      · rename_i e hu
        split at h
        · rename_i j hj
          cases hb : Nat.ble len 65536 && Nat.ble j.size 64 with
          | false => rw [hb] at h; cases h
          | true =>
            rw [hb] at h
            simp only [Bool.and_eq_true] at hb
            have b1 := Nat.le_of_ble_eq_true hb.1
            have b2 := Nat.le_of_ble_eq_true hb.2
            simp only [cond_true] at h
            split at h
            · rename_i out hout
              split at h
              · rename_i rs' hrs
                simp only [Option.some.injEq, Prod.mk.injEq] at h
                obtain ⟨rfl, rfl⟩ := h
                have hd := Rj (hC.tok.facts ht) hu
                obtain ⟨z, hz, hzs, hz1⟩ := J2b hC.tok hj len w
                obtain ⟨ws, f1, f2⟩ := L1c (M := M) (G := G) (vs := (Array.range (len * j.size)).map (z[· % z.size]!)) (J1 := (parts.map fun (p : Nat × Operand) => (p.1, a.eval p.2)).toList) ⟨by rw [hzs]; simp, hz1, fun i x v hx hv => by
                    rw [List.getElem?_replicate] at hx
                    split at hx
                    · simp only [Option.some.injEq] at hx; subst hx; exact .junk
                    · cases hx⟩ (by simp) (fun i p q hp hq => by
                    rw [List.getElem?_map] at hp
                    rw [Array.getElem?_toList, Array.getElem?_map] at hq
                    cases hpi : parts[i]? with
                    | none => rw [hpi] at hq; cases hq
                    | some r =>
                      rw [Array.getElem?_toList, hpi] at hp
                      rw [hpi] at hq
                      simp only [Option.map_some, Option.some.injEq] at hp hq
                      subst hp; subst hq
                      refine ⟨rfl, hρ _ ?_⟩
                      simp only [Op.operands, List.mem_toArray, List.mem_map, Array.mem_toList_iff]
                      exact ⟨r, Array.mem_of_getElem? hpi, rfl⟩) hout
                obtain ⟨M', g1, g2, g3⟩ := X2e (e := e) hG f2 hrs (by unfold maxLen; omega)
                have hnot : ¬ len * j.size > 2 ^ 24 := by
                  have : len * j.size ≤ 65536 * 64 := Nat.mul_le_mul b1 b2
                  have e24 : (2 : Nat) ^ 24 = 16777216 := by decide
                  omega
                have hrun : (Instr.buildSlice t len (parts.map fun (p : Nat × Operand) => (p.1, a.eval p.2))).run C.P w = .ok (.slice (some ⟨w.heap.size, 0, none⟩) len len) (w.alloc (.cells ws e)) := by
                  simp only [Instr.buildSlice, Sem.run_bind, run_underlying hd, Result.andThen_ok, Qk (hC.tok.facts hj) w]
                  rw [if_neg hnot]
                  rcases hz with ⟨h0, rfl⟩ | ⟨h0, v, hv, rfl⟩
                  · rw [if_pos h0]
                    simp only [Sem.run_bind, Sem.run_pure, Result.andThen_ok, f1]
                    simp [newRow]
                  · rw [if_neg h0]
                    simp only [Sem.run_bind, Sem.run_pure, Result.andThen_ok, hv, f1]
                    simp [newRow]
                unfold Oper.wp execOp
                simp only [ho, Sem.run_bind, hrun, Result.andThen_ok, Sem.run_pure, Oper.upon_value]
                exact hk _ M' _ (.full g1 rfl) g2 g3
              · cases h
            · cases h
        · cases h
      · cases h
    · cases h
  · cases h
theorem I0.b {F : Fx} (hC : B2 F.C) {L l : List Oper} {o : Oper} {env : Env} {H : T0} {Q : Env → T0 → Prop} {d : Option Nat} {rs : List Row} (h : R11 F.C L o env = some (d, rs)) (k : I0 F L l (put env d (.full rs)) H Q) : I0 F L (o :: l) env H Q := by
  obtain ⟨h1, h2⟩ := S11 h
  refine .yields h1 (T11 hC h) ?_
  rw [S3 h2]
  exact k
theorem AQ.b {C : Cx} (hC : B2 C) {L l : List Oper} {o : Oper} {env : Env} {H : T0} {Q : Env → Prop} {d : Option Nat} {rs : List Row} (h : R11 C L o env = some (d, rs)) (k : AQ C L l (put env d (.full rs)) H Q) : AQ C L (o :: l) env H Q :=
  .y _ (S11 h).2 (S11 h).1 (T11 hC h) k
end Go.Am

namespace Go.Am
theorem K16 {env : Env} {t : Nat} {x : A} (h : env t = x) : upd env t x = env := by
  funext i
  unfold upd
  cases hb : Nat.beq i t with
  | true => obtain rfl := Nat.eq_of_beq_eq_true hb; exact h.symm
  | false => rfl
theorem I0.split {F : Fx} {L l : List Oper} {env : Env} {H : T0} {Q : Env → T0 → Prop} {b : Bool} (t : Nat) (hb : env t = .d (.bool b)) (h1 : b = true → I0 F L l (upd env t (.d (.bool true))) H Q) (h2 : b = false → I0 F L l (upd env t (.d (.bool false))) H Q) : I0 F L l env H Q := by
  cases b with
  | true => have := h1 rfl; rwa [K16 hb] at this
  | false => have := h2 rfl; rwa [K16 hb] at this
theorem AQ.split {C : Cx} {L l : List Oper} {env : Env} {H : T0} {Q : Env → Prop} {b : Bool} (t : Nat) (hb : env t = .d (.bool b)) (h1 : b = true → AQ C L l (upd env t (.d (.bool true))) H Q) (h2 : b = false → AQ C L l (upd env t (.d (.bool false))) H Q) : AQ C L l env H Q := by
  cases b with
  | true => have := h1 rfl; rwa [K16 hb] at this
  | false => have := h2 rfl; rwa [K16 hb] at this
def G1f (C : Cx) (L : List Oper) (o : Oper) (env : Env) : Option (Option Nat × List UInt8 × Int) :=
  match K1 L env o, o.op with
  | some true, .index t x y => match P2 C.T t, ev C.GL env x, ev C.GL env y, H6 o with
    | some i, .d (.str s), .d (.int _ n), some d => match i.u with
      | .str => some (d, s, n)
      | _ => none
    | _, _, _, _ => none
  | _, _ => none
theorem U1b {C : Cx} {L : List Oper} {o : Oper} {env : Env} {d : Option Nat} {s : List UInt8} {n : Int} (h : G1f C L o env = some (d, s, n)) : K1 L env o = some true ∧ H6 o = some d := by
  unfold G1f at h
  split at h
  · rename_i t x y hw ho
    split at h
    · rename_i i s' k m d' ht hx hy hd
      split at h
      · simp only [Option.some.injEq, Prod.mk.injEq] at h
        exact ⟨hw, by rw [hd, h.1]⟩
      · cases h
    · cases h
  · cases h
theorem K1g {C : Cx} (hC : B2 C) {L : List Oper} {o : Oper} {env : Env} {H : T0} {d : Option Nat} {s : List UInt8} {n : Int} (h : G1f C L o env = some (d, s, n)) {k : Nat} {b : UInt8} (hn : n = k) (hk : s[k]? = some b) : N7 C o env H (.d (.int .u8 b.toNat)) := by
  intro M G w a next Qw hρ hG hgl hH hkk
  unfold G1f at h
  split at h
  · rename_i t x y hw ho
    rw [ho] at hρ
    split at h
    · rename_i i s' kd m d' ht hx hy hd
      split at h
      · rename_i hu
        simp only [Option.some.injEq, Prod.mk.injEq] at h
        obtain ⟨rfl, rfl, rfl⟩ := h
        have hxr := hρ x (by simp [Op.operands])
        have hyr := hρ y (by simp [Op.operands])
        rw [hx] at hxr
        rw [hy] at hyr
        generalize hxv : a.eval x = xv at hxr
        generalize hyv : a.eval y = yv at hyr
        cases hxr; rename_i hxr; cases hxr
        cases hyr; rename_i hyr; cases hyr
        have hd := Qp (hC.tok.facts ht) hu
        have hlt : k < s'.length := (List.getElem?_eq_some_iff.1 hk).1
        have hget : (⟨s'.toArray⟩ : ByteArray)[m.toNat]? = some b := by
          have e : m.toNat = k := by omega
          rw [e, getElem?_pos (⟨s'.toArray⟩ : ByteArray) k (by rw [O1h]; exact hlt)]
          have := (List.getElem?_eq_some_iff.1 hk).2
          simpa [ByteArray.getElem_eq_getElem_data] using this
        unfold Oper.wp execOp
        have : (Instr.index t (.string ⟨s'.toArray⟩) (.int kd m)).run C.P w = .ok (.int .u8 b.toNat) w := by
          have hm : 0 ≤ m := by omega
          simp [Instr.index, H10, run_underlying hd, hm, hget]
        simp only [ho, hxv, hyv, Sem.run_bind, this, Result.andThen_ok, Sem.run_pure, Oper.upon_value]
        exact hkk _ M w (.d (.int (by rw [Y2h]; have := b.toNat_lt; omega))) hG (Ext.refl _ _ _)
      · cases h
    · cases h
  · cases h
theorem I0.x {F : Fx} (hC : B2 F.C) {L l : List Oper} {o : Oper} {env : Env} {H : T0} {Q : Env → T0 → Prop} {d : Option Nat} {s : List UInt8} {n : Int} (h : G1f F.C L o env = some (d, s, n)) {k : Nat} {b : UInt8} (hn : n = k) (hk : s[k]? = some b)
    (kk : I0 F L l (put env d (.d (.int .u8 b.toNat))) H Q) : I0 F L (o :: l) env H Q := by
  obtain ⟨h1, h2⟩ := U1b h
  refine .yields h1 (K1g hC h hn hk) ?_
  rw [S3 h2]
  exact kk
theorem AQ.x {C : Cx} (hC : B2 C) {L l : List Oper} {o : Oper} {env : Env} {H : T0} {Q : Env → Prop} {d : Option Nat} {s : List UInt8} {n : Int} (h : G1f C L o env = some (d, s, n)) {k : Nat} {b : UInt8} (hn : n = k) (hk : s[k]? = some b)
    (kk : AQ C L l (put env d (.d (.int .u8 b.toNat))) H Q) : AQ C L (o :: l) env H Q := .y _ (U1b h).2 (U1b h).1 (K1g hC h hn hk) kk
def bnd (GL : GT) (env : Env) (x : Option Operand) (dflt : Int) : Option Int :=
  match x with
  | none => some dflt
  | some y => match ev GL env y with | .d (.int _ n) => some n | _ => none
theorem Z1t {M : Mem} {G : Nat → Value} {GL : GT} {env : Env} {a : Act} {x : Option Operand} {dflt n : Int} (h : bnd GL env x dflt = some n) (hρ : ∀ y, x = some y → B1 M G (ev GL env y) (a.eval y)) :
    (x = none ∧ n = dflt) ∨ ∃ y k, x = some y ∧ a.eval y = .int k n := by
  unfold bnd at h
  split at h
  · simp only [Option.some.injEq] at h; exact .inl ⟨rfl, h.symm⟩
  · rename_i y
    split at h
    · rename_i k m hy
      simp only [Option.some.injEq] at h
      subst h
      have hr := hρ y rfl
      rw [hy] at hr
      generalize hv : a.eval y = v at hr
      cases hr; rename_i hr; cases hr
      exact .inr ⟨y, k, rfl, hv⟩
    · cases h
def H1f (C : Cx) (L : List Oper) (o : Oper) (env : Env) : Option (Option Nat × List UInt8 × Int × Int) :=
  match K1 L env o, o.op with
  | some true, .slice t x lo hi none => match P2 C.T t, ev C.GL env x, H6 o with
    | some i, .d (.str s), some d => match i.u, bnd C.GL env lo 0, bnd C.GL env hi (s.length : Nat) with
      | .str, some l, some h => some (d, s, l, h)
      | _, _, _ => none
    | _, _, _ => none
  | _, _ => none
theorem R1j {C : Cx} {L : List Oper} {o : Oper} {env : Env} {r : Option Nat × List UInt8 × Int × Int} (h : H1f C L o env = some r) : K1 L env o = some true ∧ H6 o = some r.1 := by
  unfold H1f at h
  split at h
  · rename_i t x lo hi hw ho
    split at h
    · rename_i i s' d' ht hx hd
      split at h
      · simp only [Option.some.injEq] at h
        subst h
        exact ⟨hw, hd⟩
      · cases h
    · cases h
  · cases h
theorem A1u {P : Program} {w : World} {isSl : Bool} {len cap l h : Nat} {lo hi : Option Value} (h1 : lo = none ∧ l = 0 ∨ ∃ k, lo = some (.int k (l : Int))) (h2 : hi = none ∧ h = len ∨ ∃ k, hi = some (.int k (h : Int))) (hle : l ≤ h) (hc : h ≤ cap) :
    (Instr.sliceBounds isSl len cap lo hi none).run P w = .ok (l, h, cap) w := by
  have b : ∀ (k : IntKind) (n y : Nat) (c : BoundsCode), n ≤ y → (Instr.sliceBound (.int k (n : Int)) y c).run P w = .ok n w := fun k n y c hy => by
    simp [Instr.sliceBound, H10, hy]
  rcases h1 with ⟨rfl, rfl⟩ | ⟨k, rfl⟩ <;> rcases h2 with ⟨rfl, rfl⟩ | ⟨k', rfl⟩ <;> simp [Instr.sliceBounds, b _ _ _ _ hle, b _ _ _ _ hc]
theorem N1p {a : Act} {x : Option Operand} {dflt n : Int} {l dl : Nat} (h : (x = none ∧ n = dflt) ∨ ∃ y k, x = some y ∧ a.eval y = .int k n) (hl : n = l) (hd : dflt = dl) : (x.map a.eval = none ∧ l = dl) ∨ ∃ k, x.map a.eval = some (.int k (l : Int)) := by
  rcases h with ⟨rfl, rfl⟩ | ⟨y, k, rfl, e⟩
  · exact .inl ⟨rfl, by omega⟩
  · exact .inr ⟨k, by simp [e, hl]⟩
theorem Q28 (s : List UInt8) (l h : Nat) : (⟨s.toArray⟩ : ByteArray).extract l h = ⟨((s.take h).drop l).toArray⟩ := by
  apply ByteArray.ext
  rw [ByteArray.data_extract]
  simp [List.extract_toArray, List.drop_take]
theorem A1r {C : Cx} (hC : B2 C) {L : List Oper} {o : Oper} {env : Env} {H : T0} {d : Option Nat} {s : List UInt8} {lo hi : Int} (h : H1f C L o env = some (d, s, lo, hi)) {l r : Nat} (hl : lo = l) (hr : hi = r) (hlr : l ≤ r) (hrs : r ≤ s.length) :
    N7 C o env H (.d (.str ((s.take r).drop l))) := by
  intro M G w a next Qw hρ hG hgl hH hkk
  unfold H1f at h
  split at h
  · rename_i t x lo' hi' hw ho
    rw [ho] at hρ
    split at h
    · rename_i i s' d' ht hx hd
      split at h
      · rename_i l' h' hu hbl hbh
        simp only [Option.some.injEq, Prod.mk.injEq] at h
        obtain ⟨rfl, rfl, rfl, rfl⟩ := h
        have hxr := hρ x (by simp [Op.operands])
        rw [hx] at hxr
        generalize hxv : a.eval x = xv at hxr
        cases hxr; rename_i hxr; cases hxr
        rename_i hsl
        have hd := Qp (hC.tok.facts ht) hu
        have e1 := N1p (Z1t hbl fun y hy => hρ y (by subst hy; simp [Op.operands])) hl rfl
        have e2 := N1p (Z1t hbh fun y hy => hρ y (by subst hy; simp [Op.operands])) hr rfl
        have : (Instr.sliceAt t (.string ⟨s'.toArray⟩) (lo'.map a.eval) (hi'.map a.eval) none).run C.P w = .ok (.string ⟨((s'.take r).drop l).toArray⟩) w := by
          have hb := A1u (P := C.P) (w := w) (isSl := false) (cap := s'.length) e1 e2 hlr hrs
          simp [Instr.sliceAt, Instr.slice, run_underlying hd, O1h, hb, Q28 s' l r]
        unfold Oper.wp execOp
        simp only [ho, hxv, Option.map_none, Sem.run_bind, this, Result.andThen_ok, Sem.run_pure, Oper.upon_value]
        exact hkk _ M w (.d (.str (by simp; omega))) hG (Ext.refl _ _ _)
      · cases h
    · cases h
  · cases h
theorem I0.l {F : Fx} (hC : B2 F.C) {L l : List Oper} {o : Oper} {env : Env} {H : T0} {Q : Env → T0 → Prop} {d : Option Nat} {s : List UInt8} {lo hi : Int} (h : H1f F.C L o env = some (d, s, lo, hi)) {p r : Nat} (hl : lo = p) (hr : hi = r) (hlr : p ≤ r) (hrs : r ≤ s.length)
    (kk : I0 F L l (put env d (.d (.str ((s.take r).drop p)))) H Q) : I0 F L (o :: l) env H Q := by
  obtain ⟨h1, h2⟩ := R1j h
  refine .yields h1 (A1r hC h hl hr hlr hrs) ?_
  rw [S3 h2]
  exact kk
theorem AQ.l {C : Cx} (hC : B2 C) {L l : List Oper} {o : Oper} {env : Env} {H : T0} {Q : Env → Prop} {d : Option Nat} {s : List UInt8} {lo hi : Int} (h : H1f C L o env = some (d, s, lo, hi)) {p r : Nat} (hl : lo = p) (hr : hi = r) (hlr : p ≤ r) (hrs : r ≤ s.length)
    (kk : AQ C L l (put env d (.d (.str ((s.take r).drop p)))) H Q) : AQ C L (o :: l) env H Q := .y _ (R1j h).2 (R1j h).1 (A1r hC h hl hr hlr hrs) kk
def I1f (C : Cx) (L : List Oper) (o : Oper) (env : Env) : Option (Option Nat × List Row × Int × Int × Nat) :=
  match K1 L env o, o.op with
  | some true, .slice t x lo hi none => match P2 C.T t, Zv (ev C.GL env x), H6 o with
    | some i, some rows, some d => match i.u, bnd C.GL env lo 0, bnd C.GL env hi (rows.length : Nat) with
      | .sl e, some l, some h => match P2 C.T e with | some j => some (d, rows, l, h, j.size) | none => none
      | _, _, _ => none
    | _, _, _ => none
  | _, _ => none
theorem S1j {C : Cx} {L : List Oper} {o : Oper} {env : Env} {r : Option Nat × List Row × Int × Int × Nat} (h : I1f C L o env = some r) : K1 L env o = some true ∧ H6 o = some r.1 := by
  unfold I1f at h
  split at h
  · rename_i t x lo hi hw ho
    split at h
    · rename_i i s' d' ht hx hd
      split at h
      · split at h
        · simp only [Option.some.injEq] at h
          subst h
          exact ⟨hw, hd⟩
        · cases h
      · cases h
    · cases h
  · cases h
theorem K2b {M : Mem} {rows : List Row} {a : Addr} {len cap : Nat} (h : O2 M (.sl rows) (.slice (some a) len cap)) {sz l r : Nat} (hsz : ∀ x ∈ rows, x.length = sz) (hlr : l ≤ r) (hr : r ≤ rows.length) :
    O2 M (.sl ((rows.take r).drop l)) (.slice (some (if cap = l then a else a.add (l * sz))) (r - l) (cap - l)) := by
  cases h with
  | sl sz' J1 hl hc hm hs hz h1 h2 =>
    by_cases he : cap = l
    · have : l = r := by omega
      subst this
      rw [if_pos he, show (rows.take l).drop l = [] by simp]
      exact .sl 0 (fun _ _ => undef) (by simp) (by omega) (by omega) (.inl (by omega)) (fun i r h => by simp at h) (fun i j r x h => by simp at h) (fun i j r x h => by simp at h)
    · rw [if_neg he]
      have hget : ∀ (i : Nat) x, ((rows.take r).drop l)[i]? = some x → rows[l + i]? = some x := fun i x hx => by
        rw [List.getElem?_drop, List.getElem?_take] at hx
        split at hx
        · exact hx
        · cases hx
      have hzz : ∀ (i : Nat) x, ((rows.take r).drop l)[i]? = some x → sz' = sz := fun i x hx => by
        have e1 := hz _ x (hget i x hx)
        have e2 := hsz x (List.mem_of_getElem? (hget i x hx))
        omega
      refine .sl sz (fun i j => J1 (l + i) j) (by simp; omega) (by omega) (by omega) (.inr (by rw [V19 (hs.resolve_left (by omega))])) (fun i x hx => by have := hzz i x hx; have := hz _ x (hget i x hx); omega) (fun i j x y hx hy => ?_) fun i j x y hx hy => h2 _ j x y (hget i x hx) hy
      have := h1 _ j x y (hget i x hx) hy
      rw [Xv]
      rw [hzz i x hx] at this
      rwa [show l * sz + (i * sz + j) = (l + i) * sz + j by rw [Nat.add_mul]; omega]
theorem B1u {C : Cx} (hC : B2 C) {L : List Oper} {o : Oper} {env : Env} {H : T0} {d : Option Nat} {rows : List Row} {lo hi : Int} {sz : Nat} (h : I1f C L o env = some (d, rows, lo, hi, sz)) {l r : Nat} (hl : lo = l) (hr : hi = r) (hlr : l ≤ r) (hrs : r ≤ rows.length)
    (hsz : ∀ x ∈ rows, x.length = sz) : N7 C o env H (.d (.sl ((rows.take r).drop l))) := by
  intro M G w a next Qw hρ hG hgl hH hkk
  unfold I1f at h
  split at h
  · rename_i t x lo' hi' hw ho
    rw [ho] at hρ
    split at h
    · rename_i i rows' d' ht hx hd
      split at h
      · rename_i e l' h' hu hbl hbh
        split at h
        · rename_i j hj
          simp only [Option.some.injEq, Prod.mk.injEq] at h
          obtain ⟨rfl, rfl, rfl, rfl, rfl⟩ := h
          have hxr := Wh hx (hρ x (by simp [Op.operands]))
          generalize hxv : a.eval x = xv at hxr
          have hd := Rj (hC.tok.facts ht) hu
          have e1 := N1p (Z1t hbl fun y hy => hρ y (by subst hy; simp [Op.operands])) hl rfl
          have e2 := N1p (Z1t hbh fun y hy => hρ y (by subst hy; simp [Op.operands])) hr rfl
          obtain ⟨ad, cap, rfl, hcap, hrel⟩ : ∃ ad cap, xv = .slice ad rows'.length cap ∧ rows'.length ≤ cap ∧ O2 M (.sl ((rows'.take r).drop l)) (.slice (if cap = l then ad else ad.map (·.add (l * j.size))) (r - l) (cap - l)) := by
            cases hxr with
            | slnil =>
              simp at hrs
              obtain rfl : r = 0 := hrs
              obtain rfl : l = 0 := by omega
              exact ⟨none, 0, rfl, Nat.le_refl _, by simpa using O2.slnil⟩
            | sl sz J1 hl' hc hm hs hz h1 h2 =>
              rename_i ad len cap
              subst hl'
              refine ⟨some ad, cap, rfl, hc, ?_⟩
              have := K2b (.sl sz J1 rfl hc hm hs hz h1 h2) hsz hlr hrs
              by_cases he : cap = l
              · rw [if_pos he] at this ⊢; exact this
              · rw [if_neg he] at this ⊢; exact this
          have : (Instr.sliceAt t (.slice ad rows'.length cap) (lo'.map a.eval) (hi'.map a.eval) none).run C.P w = .ok (.slice (if cap = l then ad else ad.map (·.add (l * j.size))) (r - l) (cap - l)) w := by
            have hb := A1u (P := C.P) (w := w) (isSl := true) (len := rows'.length) (cap := cap) e1 e2 hlr (by omega)
            simp [Instr.sliceAt, Instr.slice, run_underlying hd, hb, Qk (hC.tok.facts hj) w]
          unfold Oper.wp execOp
          simp only [ho, hxv, Option.map_none, Sem.run_bind, this, Result.andThen_ok, Sem.run_pure, Oper.upon_value]
          exact hkk _ M w (.d hrel) hG (Ext.refl _ _ _)
        · cases h
      · cases h
    · cases h
  · cases h
theorem I0.d {F : Fx} (hC : B2 F.C) {L l : List Oper} {o : Oper} {env : Env} {H : T0} {Q : Env → T0 → Prop} {d : Option Nat} {rows : List Row} {lo hi : Int} {sz : Nat} (h : I1f F.C L o env = some (d, rows, lo, hi, sz)) {p r : Nat} (hl : lo = p) (hr : hi = r) (hlr : p ≤ r) (hrs : r ≤ rows.length)
    (hsz : ∀ x ∈ rows, x.length = sz) (kk : I0 F L l (put env d (.d (.sl ((rows.take r).drop p)))) H Q) : I0 F L (o :: l) env H Q := by
  obtain ⟨h1, h2⟩ := S1j h
  refine .yields h1 (B1u hC h hl hr hlr hrs hsz) ?_
  rw [S3 h2]
  exact kk
theorem AQ.d {C : Cx} (hC : B2 C) {L l : List Oper} {o : Oper} {env : Env} {H : T0} {Q : Env → Prop} {d : Option Nat} {rows : List Row} {lo hi : Int} {sz : Nat} (h : I1f C L o env = some (d, rows, lo, hi, sz)) {p r : Nat} (hl : lo = p) (hr : hi = r) (hlr : p ≤ r) (hrs : r ≤ rows.length)
    (hsz : ∀ x ∈ rows, x.length = sz) (kk : AQ C L l (put env d (.d (.sl ((rows.take r).drop p)))) H Q) : AQ C L (o :: l) env H Q := .y _ (S1j h).2 (S1j h).1 (B1u hC h hl hr hlr hrs hsz) kk
def C1u (C : Cx) (L : List Oper) (o : Oper) (env : Env) : Option (Option Nat) :=
  match K1 L env o, o.op with
  | some true, .slice t x none (some (.const (.int _ 0))) (some (.const (.int _ 0))) => match P2 C.T t, Zv (ev C.GL env x), H6 o with
    | some i, some _, some d => match i.u with
      | .sl e => match P2 C.T e with | some _ => some d | none => none
      | _ => none
    | _, _, _ => none
  | _, _ => none
theorem R28 {C : Cx} {L : List Oper} {o : Oper} {env : Env} {d : Option Nat} (h : C1u C L o env = some d) : K1 L env o = some true ∧ H6 o = some d := by
  unfold C1u at h
  split at h
  · rename_i t x k k' hw ho
    split at h
    · rename_i i rows d' ht hx hd
      split at h
      · split at h
        · simp only [Option.some.injEq] at h
          subst h
          exact ⟨hw, hd⟩
        · cases h
      · cases h
    · cases h
  · cases h
theorem B25 {C : Cx} (hC : B2 C) {L : List Oper} {o : Oper} {env : Env} {H : T0} {d : Option Nat} (h : C1u C L o env = some d) : N7 C o env H (.full []) := by
  intro M G w a next Qw hρ hG hgl hH hkk
  unfold C1u at h
  split at h
  · rename_i t x k k' hw ho
    rw [ho] at hρ
    split at h
    · rename_i i rows' d' ht hx hd
      split at h
      · rename_i e hu
        split at h
        · rename_i j hj
          have hxr := Wh hx (hρ x (by simp [Op.operands]))
          generalize hxv : a.eval x = xv at hxr
          have hd := Rj (hC.tok.facts ht) hu
          obtain ⟨ad, cap, rfl⟩ : ∃ ad cap, xv = .slice ad rows'.length cap := by
            cases hxr with
            | slnil => exact ⟨none, 0, rfl⟩
            | sl sz J1 hl' hc hm hs hz h1 h2 =>
              rename_i ad len cap
              subst hl'
              exact ⟨some ad, cap, rfl⟩
          have : (Instr.sliceAt t (.slice ad rows'.length cap) none (some (.int k 0)) (some (.int k' 0))).run C.P w = .ok (.slice ad 0 0) w := by
            have b : ∀ (k : IntKind) (y : Nat) (c : BoundsCode), (Instr.sliceBound (.int k 0) y c).run C.P w = .ok 0 w := fun k y c => by simp [Instr.sliceBound, H10]
            simp [Instr.sliceAt, Instr.slice, run_underlying hd, Instr.sliceBounds, b, Qk (hC.tok.facts hj) w]
          unfold Oper.wp execOp
          have ec : ∀ v, a.eval (.const v) = v := fun _ => rfl
          simp only [ho, hxv, Option.map_none, Option.map_some, ec, Sem.run_bind, this, Result.andThen_ok, Sem.run_pure, Oper.upon_value]
          refine hkk _ M w ?_ hG (Ext.refl _ _ _)
          cases ad with
          | none => exact .full .slnil trivial
          | some z => exact .full (.sl 0 (fun _ _ => undef) rfl (Nat.le_refl _) (by unfold maxLen; omega) (.inl rfl) (fun i r h => by simp at h) (fun i j r x h => by simp at h) (fun i j r x h => by simp at h)) rfl
        · cases h
      · cases h
    · cases h
  · cases h
theorem I0.e {F : Fx} (hC : B2 F.C) {L l : List Oper} {o : Oper} {env : Env} {H : T0} {Q : Env → T0 → Prop} {d : Option Nat} (h : C1u F.C L o env = some d) (kk : I0 F L l (put env d (.full [])) H Q) : I0 F L (o :: l) env H Q := by
  obtain ⟨h1, h2⟩ := R28 h
  refine .yields h1 (B25 hC h) ?_
  rw [S3 h2]
  exact kk
end Go.Am

namespace Go.Am
theorem St.newOb {C : Cx} {N : Nat} {M M' : Mem} {G : Nat → Value} {w w' : World} {env : Env} {H : T0} {a : Act} (h : St C N M G w env H a) {dst : Option Nat} (hd : ∀ d, dst = some d → d < N) {ob : Ob} {v' v : Value} {x : A}
    (hext : Ext J6 M w M' w') (hg : H8 M' w') (hob : ∀ G, Uh M' G w' ob v') (hblk : ∀ b, blk ob v' = some b → w.heap.size ≤ b)
    (hx : B1 M' (A7 G H.length v') x v) :
    St C N M' (A7 G H.length v') w' (put env dst x) (H ++ [ob]) (a.put dst v) := by
  have hh := h.hrel.ext hext (fun _ _ q => q)
  have hmono : ∀ {x : A} {v : Value}, B1 M' G x v → B1 M' (A7 G H.length v') x v := fun hr => hr.mono (fun _ _ e => e) fun o hn => R2 (Nat.ne_of_lt (hh.lt hr hn))
  obtain ⟨h1, h2, h3⟩ := Ku (fun t => hmono ((h.env t).mono' hext.mono)) h.size hd hx
  refine ⟨hg, h.gl.ext h.hrel hext (fun _ h => h.elim), ⟨fun o x ho => ?_, fun o o' x x' b ho ho' hb hb' => ?_, fun o ho => ?_⟩, h1, h2, h3.trans h.defers⟩
  · rcases Nat.lt_trichotomy o H.length with hlt | rfl | hgt
    · rw [List.getElem?_append_left hlt] at ho
      rw [R2 (Nat.ne_of_lt hlt)]
      have hob := hh.obj o x ho
      cases x with
      | dead => trivial
      | row cells e =>
        obtain ⟨b, us, g1, g2, g3, g4, g5, g6⟩ := hob
        exact ⟨b, us, g1, g2, g3, g4, fun i y v a c => hmono (g5 i y v a c), g6⟩
      | bld o' e =>
        obtain ⟨b, v0, g1, g2, g3, g4, g5⟩ := hob
        have ho' : o' ≠ H.length := fun e => g4 (by rw [e]; exact hh.fresh _ (Nat.le_refl _))
        exact ⟨b, v0, g1, by rw [R2 ho']; exact g2, g3, by rw [R2 ho']; exact g4, g5⟩
      | buf e sz => exact hob
      | tok e sz => exact hob
      | map es =>
        obtain ⟨b, ms, cl, g1, g2, g3, g4, g5⟩ := hob
        exact ⟨b, ms, cl, g1, g2, g3, fun i k cs e a c => ⟨(g4 i k cs e a c).1, hmono (g4 i k cs e a c).2⟩, g5⟩
    · simp at ho
      subst ho
      rw [X2]
      exact hob _
    · rw [List.getElem?_eq_none (by simp; omega)] at ho
      cases ho
  · have key : ∀ (o : Nat) x b, (H ++ [ob])[o]? = some x → blk x (A7 G H.length v' o) = some b → (o < H.length ∧ H[o]? = some x ∧ blk x (G o) = some b ∧ b < w.heap.size) ∨ (o = H.length ∧ w.heap.size ≤ b) := by
      intro o x b ho hb
      rcases Nat.lt_trichotomy o H.length with hlt | rfl | hgt
      · rw [List.getElem?_append_left hlt] at ho
        rw [R2 (Nat.ne_of_lt hlt)] at hb
        exact .inl ⟨hlt, ho, hb, He (h.hrel.obj o x ho) hb⟩
      · simp at ho
        subst ho
        rw [X2] at hb
        exact .inr ⟨rfl, hblk b hb⟩
      · rw [List.getElem?_eq_none (by simp; omega)] at ho
        cases ho
    rcases key o x b ho hb with ⟨q1, q2, q3, q4⟩ | ⟨q1, q2⟩ <;> rcases key o' x' b ho' hb' with ⟨p1, p2, p3, p4⟩ | ⟨p1, p2⟩
    · exact h.hrel.apart o o' x x' b q2 p2 q3 p3
    · omega
    · omega
    · omega
  · simp at ho
    rw [R2 (by omega)]
    exact h.hrel.fresh o (by omega)
theorem M3.newOb {fr : Fr} {M M' : Mem} {G : Nat → Value} {w w' : World} {H : T0} (h : M3 fr M G w H) {ob : Ob} {v' : Value} (hext : Ext J6 M w M' w') (hblk : ∀ b, blk ob v' = some b → w.heap.size ≤ b) :
    M3 fr M' (A7 G H.length v') w' (H ++ [ob]) := by
  refine ⟨h.ext.trans hext (fun _ h => h.elim), fun b hb => ?_, by simp; have := h.len; omega, fun o x ho ht => ?_, fun o x y ho ht hy => ?_⟩
  · obtain ⟨o, x, ho, hx⟩ := hb
    rcases Nat.lt_trichotomy o H.length with hlt | rfl | hgt
    · rw [List.getElem?_append_left hlt] at ho
      rw [R2 (Nat.ne_of_lt hlt)] at hx
      exact h.own b ⟨o, x, ho, hx⟩
    · simp at ho
      subst ho
      rw [X2] at hx
      exact .inr (Nat.le_trans h.ext.size (hblk b hx))
    · rw [List.getElem?_eq_none (by simp; omega)] at ho
      cases ho
  · have hlt : o < H.length := Nat.lt_of_lt_of_le (List.getElem?_eq_some_iff.1 ho).1 h.len
    rw [R2 (Nat.ne_of_lt hlt)]
    exact h.keep o x ho ht
  · have hlt : o < H.length := Nat.lt_of_lt_of_le (List.getElem?_eq_some_iff.1 ho).1 h.len
    rw [List.getElem?_append_left hlt] at hy
    exact h.kind o x y ho ht hy
theorem St.setOb {C : Cx} {N : Nat} {M : Mem} {G : Nat → Value} {w w' : World} {env : Env} {H : T0} {a : Act} (h : St C N M G w env H a) {dst : Option Nat} (hd : ∀ d, dst = some d → d < N) {p b : Nat} {x x' : Ob}
    (hp : H[p]? = some x) (hb : blk x (G p) = some b) (hb' : blk x' (G p) = some b) (hext : Ext (fun c => c = b) M w M w') (hM : ∀ off sp, M ⟨b, off, sp⟩ = none) (hob : Uh M G w' x' (G p)) {y : A} {v : Value} (hy : B1 M G y v) :
    St C N M G w' (put env dst y) (Ha H p x') (a.put dst v) := by
  have hlt : p < H.length := (List.getElem?_eq_some_iff.1 hp).1
  obtain ⟨h1, h2, h3⟩ := Ku h.env h.size hd hy
  refine ⟨h.good.ext hext (fun ad u e hk => ?_), h.gl.ext h.hrel hext (fun c hc => by subst hc; exact ⟨p, _, hp, hb⟩), ⟨fun i z hi => ?_, fun i i' z z' c hi hi' hx hx' => ?_, fun i hi => h.hrel.fresh i (by rw [Xl] at hi; exact hi)⟩, h1, h2, h3.trans h.defers⟩
  · obtain ⟨bb, oo, ss⟩ := ad
    have hk' : bb = b := hk
    subst hk'
    rw [hM] at e
    cases e
  · rw [Z8 H p _ i hlt] at hi
    split at hi
    · rename_i e
      subst e
      simp only [Option.some.injEq] at hi
      subst hi
      exact hob
    · rename_i hne
      have hoz := h.hrel.obj i z hi
      exact hoz.keep (fun _ _ e => e) (fun c hcb => hext.block c (He hoz hcb) fun e => hne (h.hrel.apart i p z _ b hi hp (e ▸ hcb) hb)) (fun _ _ _ _ e => e)
  · have key : ∀ (n : Nat) z d, (Ha H p x')[n]? = some z → blk z (G n) = some d → ∃ y, H[n]? = some y ∧ blk y (G n) = some d := by
      intro n z d hn hz
      rw [Z8 H p _ n hlt] at hn
      by_cases e : n = p
      · rw [if_pos e] at hn
        subst e
        obtain rfl := Option.some.inj hn
        exact ⟨_, hp, by rw [hb, ← hb', hz]⟩
      · rw [if_neg e] at hn
        exact ⟨z, hn, hz⟩
    obtain ⟨y, hy, hby⟩ := key i z c hi hx
    obtain ⟨y', hy', hby'⟩ := key i' z' c hi' hx'
    exact h.hrel.apart i i' y y' c hy hy' hby hby'
theorem M3.setOb {fr : Fr} {M : Mem} {G : Nat → Value} {w w' : World} {H : T0} (h : M3 fr M G w H) {p b : Nat} {x x' : Ob}
    (hp : H[p]? = some x) (hb : blk x (G p) = some b) (hb' : blk x' (G p) = some b) (ht' : isTok x' = false) (hext : Ext (fun c => c = b) M w M w') : M3 fr M G w' (Ha H p x') := by
  have hlt : p < H.length := (List.getElem?_eq_some_iff.1 hp).1
  have hown : Go.Am.own G H b := ⟨p, _, hp, hb⟩
  refine ⟨h.ext.trans hext (fun x hx => by subst hx; exact h.own _ hown), fun c hc => ?_, by rw [Xl]; exact h.len, h.keep, fun i z y hi ht hy => ?_⟩
  · obtain ⟨i, z, hi, hx⟩ := hc
    rw [Z8 H p _ i hlt] at hi
    by_cases e : i = p
    · rw [if_pos e] at hi
      subst e
      obtain rfl := Option.some.inj hi
      rw [hb'] at hx
      obtain rfl := Option.some.inj hx
      exact h.own _ hown
    · rw [if_neg e] at hi
      exact h.own c ⟨i, z, hi, hx⟩
  · rw [Z8 H p _ i hlt] at hy
    by_cases e : i = p
    · rw [if_pos e] at hy
      obtain rfl := Option.some.inj hy
      exact ht'
    · rw [if_neg e] at hy
      exact h.kind i z y hi ht hy
def O3 (k : List UInt8) : List (List UInt8 × Row) → Option Row
  | [] => none
  | (k', cs) :: r => bif k == k' then some cs else O3 k r
def mput (k : List UInt8) (cs : Row) : List (List UInt8 × Row) → List (List UInt8 × Row)
  | [] => [(k, cs)]
  | (k', cs') :: r => bif k == k' then (k, cs) :: r else (k', cs') :: mput k cs r
theorem N2g {a b : List UInt8} : ((⟨a.toArray⟩ : ByteArray) == ⟨b.toArray⟩) = (a == b) := by
  show (a.toArray == b.toArray) = (a == b)
  simp
theorem V1b {k : List UInt8} : ∀ {es : List (List UInt8 × Row)} {ms : List MapEntry} {i : Nat}, ms.length = es.length → (∀ (n : Nat) k' cs e, es[n]? = some (k', cs) → ms[n]? = some e → e.key = .string ⟨k'.toArray⟩) →
    (O3 k es = none ∧ Instr.findNow .string (.string ⟨k.toArray⟩) ms i = some none ∧ ∀ cs, mput k cs es = es ++ [(k, cs)]) ∨
    ∃ n cs e, es[n]? = some (k, cs) ∧ O3 k es = some cs ∧ ms[n]? = some e ∧ Instr.findNow .string (.string ⟨k.toArray⟩) ms i = some (some (i + n, e.val)) ∧ ∀ cs', mput k cs' es = es.set n (k, cs')
  | [], [], i, _, _ => .inl ⟨rfl, rfl, fun _ => rfl⟩
  | (k', cs) :: es, m :: ms, i, hl, hk => by
    have hm := hk 0 k' cs m rfl rfl
    simp only [Instr.findNow, hm, Instr.sameNow, O3, mput, N2g]
    cases hb : k == k' with
    | true =>
      obtain rfl := beq_iff_eq.1 hb
      exact .inr ⟨0, cs, m, rfl, rfl, rfl, rfl, fun _ => rfl⟩
    | false =>
      simp only [cond_false]
      rcases V1b (k := k) (es := es) (ms := ms) (i := i + 1) (by simpa using hl) (fun n k' cs e a b => hk (n + 1) k' cs e (by simpa using a) (by simpa using b)) with ⟨h1, h2, h3⟩ | ⟨n, cs', e, h1, h2, h3, h4, h5⟩
      · exact .inl ⟨h1, h2, fun cs' => by rw [h3]; rfl⟩
      · exact .inr ⟨n + 1, cs', e, by simpa using h1, h2, by simpa using h3, by rw [h4]; congr 3; omega, fun c => by rw [h5]; rfl⟩
  | [], _ :: _, _, hl, _ => by simp at hl
  | _ :: _, [], _, hl, _ => by simp at hl
theorem T1j (es : List (List UInt8 × Row)) : (Wv.s es).list.length = es.length := by simp [Wv.list]
theorem Z1r {M : Mem} {G : Nat → Value} {es : List (List UInt8 × Row)} {ms : Array MapEntry} (h : ∀ (i : Nat) k cs e, (Wv.s es).list[i]? = some (k, cs) → ms[i]? = some e → O2 M k e.key ∧ B1 M G (Th cs) e.val) :
    ∀ (i : Nat) k cs e, es[i]? = some (k, cs) → ms[i]? = some e → O2 M (.str k) e.key ∧ B1 M G (Th cs) e.val := fun i k cs e a b => h i (.str k) cs e (by simp [Wv.list, a]) b
theorem L2b {M : Mem} {G : Nat → Value} {es : List (List UInt8 × Row)} {ms : Array MapEntry} (h : ∀ (i : Nat) k cs e, es[i]? = some (k, cs) → ms[i]? = some e → O2 M (.str k) e.key ∧ B1 M G (Th cs) e.val) :
    ∀ (i : Nat) k cs e, (Wv.s es).list[i]? = some (k, cs) → ms[i]? = some e → O2 M k e.key ∧ B1 M G (Th cs) e.val := fun i k cs e a b => by
  simp only [Wv.list, List.getElem?_map] at a
  cases hp : es[i]? with
  | none => rw [hp] at a; cases a
  | some p =>
    rw [hp] at a
    simp only [Option.map_some, Option.some.injEq, Prod.mk.injEq] at a
    obtain ⟨rfl, rfl⟩ := a
    exact h i p.1 p.2 e hp b
def J1f (i : TI) : A := bif i.u.agg then .agg (i.zero.map .d) else (match nth i.zero 0 with | some x => .d x | none => .junk)
structure Lk where
  d : Option Nat
  es : List (List UInt8 × Row)
  k : List UInt8
  ok : Bool
  z : A
def U1j (C : Cx) (L : List Oper) (o : Oper) (env : Env) (H : T0) : Option Lk :=
  match K1 L env o, o.op, H6 o with
  | some true, .lookup t x y ok, some d => match P2 C.T t, ev C.GL env x, ev C.GL env y with
    | some i, .mp p, .d (.str k) => match i.u, nth H p with
      | .map kt et, some (.map (.s es)) => match P2 C.T kt, P2 C.T et with
        | some ki, some ei => match ki.u, frc (J1f ei) with
          | .str, some z => some ⟨d, es, k, ok, z⟩
          | _, _ => none
        | _, _ => none
      | _, _ => none
    | _, _, _ => none
  | _, _, _ => none
def lkA (r : Option Row) (z : A) (ok : Bool) : A :=
  match r, ok with
  | some cs, true => .tup [Th cs, .d (.bool true)]
  | none, true => .tup [z, .d (.bool false)]
  | some cs, false => Th cs
  | none, false => z
theorem Yi {P : Program} {w : World} {kt : Nat} (h : P.underlying kt = some .string) (b : Bool) (s : ByteArray) : (Instr.checkKey b 10000 kt (.string s)).run P w = .ok () w := by
  have key : ∀ n, (Instr.checkKey b (n + 1) kt (.string s)).run P w = .ok () w := fun n => by simp [Instr.checkKey, run_underlying h]
  exact key 9999
theorem Hk {P : Program} {w : World} {b : Nat} {ms : Array MapEntry} {cl : Nat} (h : w.heap[b]? = some (.map ms cl)) : (getObj b).run P w = .ok (.map ms cl) w := by
  simp [getObj, Sem.run, h]
theorem V1m {P : Program} {T : TT} (hT : TOk P T) {t : Nat} {i : TI} (ht : P2 T t = some i) (M : Mem) (G : Nat → Value) : ∃ z, (∀ w, (zeroValue t).run P w = .ok z w) ∧ B1 M G (J1f i) z := by
  obtain ⟨z, h1, h2, h3⟩ := Q1b (M := M) (G := G) hT ht
  refine ⟨z, h1, ?_⟩
  unfold J1f
  cases hg : i.u.agg with
  | true =>
    rw [hg] at h3
    simp only [if_true] at h3
    obtain ⟨cs, rfl⟩ := h3
    exact .agg (by simpa [Value.cells] using h2.1) (fun n v hv => h2.2.1 n v hv) fun n x v hx hv => h2.2.2 n x v hx hv
  | false =>
    rw [hg] at h3
    simp only [Bool.false_eq_true, if_false] at h3
    simp only [cond_false, F3]
    split
    · rename_i x hx
      exact h2.2.2 0 _ z (by rw [List.getElem?_map, hx]; rfl) (by rw [h3]; rfl)
    · exact .junk
theorem D1u {C : Cx} {L : List Oper} {o : Oper} {env : Env} {H : T0} {r : Lk} (h : U1j C L o env H = some r) : K1 L env o = some true ∧ H6 o = some r.d := by
  unfold U1j at h
  split at h
  · rename_i t x y ok d hw ho hd
    split at h
    · split at h
      · split at h
        · split at h
          · simp only [Option.some.injEq] at h
            subst h
            exact ⟨hw, hd⟩
          · cases h
        · cases h
      · cases h
    · cases h
  · cases h
theorem B1l {C : Cx} (hC : B2 C) {L : List Oper} {o : Oper} {env : Env} {H : T0} {d : Option Nat} {es : List (List UInt8 × Row)} {k : List UInt8} {ok : Bool} {z : A} (h : U1j C L o env H = some ⟨d, es, k, ok, z⟩) {r : Option Row} (hr : O3 k es = r) : N7 C o env H (lkA r z ok) := by
  intro M G w a next Qw hρ hG hgl hH hkk
  subst hr
  unfold U1j at h
  split at h
  · rename_i t x y ok' d' hw ho hd
    rw [ho] at hρ
    split at h
    · rename_i i p k' ht hx hy
      split at h
      · rename_i kt et es' hu hp
        split at h
        · rename_i ki ei hki hei
          split at h
          · rename_i z' hku hz
            simp only [Option.some.injEq, Lk.mk.injEq] at h
            obtain ⟨rfl, rfl, rfl, rfl, rfl⟩ := h
            have hz' := Ut hz
            subst hz'
            have hxr := hρ x (by simp [Op.operands])
            have hyr := hρ y (by simp [Op.operands])
            rw [hx] at hxr
            rw [hy] at hyr
            generalize hxv : a.eval x = xv at hxr
            generalize hyv : a.eval y = yv at hyr
            cases hxr; rename_i b hgb
            cases hyr; rename_i hyr; cases hyr
            rename_i hkl
            rw [F3] at hp
            obtain ⟨b', ms, cl, g1, g2, g3, g4, g5, g6⟩ := hH.obj p _ hp
            have g3 := g3.trans (T1j es')
            have g4 := Z1r g4
            rw [hgb] at g1
            simp at g1
            subst g1
            have hd := Ss (hC.tok.facts ht) hu
            have hkd := Qp (hC.tok.facts hki) hku
            obtain ⟨zv, hzr, hzrel⟩ := V1m hC.tok hei M G
            have hkeys : ∀ (n : Nat) k' cs e, es'[n]? = some (k', cs) → ms.toList[n]? = some e → e.key = .string ⟨k'.toArray⟩ := fun n k' cs e a b => by
              have := (g4 n k' cs e a (by simpa using b)).1
              generalize e.key = ek at this
              cases this; rfl
            have key : ∃ v, (Instr.lookup t (.map (some b)) (.string ⟨k'.toArray⟩) ok').run C.P w = .ok v w ∧ B1 M G (lkA (O3 k' es') (J1f ei) ok') v := by
              rcases V1b (k := k') (i := 0) (by simpa using g3) hkeys with ⟨h1, h2, _⟩ | ⟨n, cs, e, h1, h2, h3, h4, _⟩
              · refine ⟨if ok' then .tuple #[zv, .bool false] else zv, ?_, ?_⟩
                · simp [Instr.lookup, run_underlying hd, Hk g2, Yi hkd, Instr.findKey, run_underlying hkd, h2, hzr w]
                · rw [h1]
                  cases ok' with
                  | false => simpa [lkA] using hzrel
                  | true =>
                    refine .tup rfl fun i x v hx hv => ?_
                    match i with
                    | 0 => simp at hx hv; subst hx; subst hv; exact hzrel
                    | 1 => simp at hx hv; subst hx; subst hv; exact .d .bool
                    | _ + 2 => simp at hx
              · have hev := (g4 n k' cs e h1 (by simpa using h3)).2
                refine ⟨if ok' then .tuple #[e.val, .bool true] else e.val, ?_, ?_⟩
                · simp [Instr.lookup, run_underlying hd, Hk g2, Yi hkd, Instr.findKey, run_underlying hkd, h4]
                · rw [h2]
                  cases ok' with
                  | false => simpa [lkA] using hev
                  | true =>
                    refine .tup rfl fun i x v hx hv => ?_
                    match i with
                    | 0 => simp at hx hv; subst hx; subst hv; exact hev
                    | 1 => simp at hx hv; subst hx; subst hv; exact .d .bool
                    | _ + 2 => simp at hx
            obtain ⟨v, hv, hrel⟩ := key
            unfold Oper.wp execOp
            simp only [ho, hxv, hyv, Sem.run_bind, hv, Result.andThen_ok, Sem.run_pure, Oper.upon_value]
            exact hkk _ M w hrel hG (Ext.refl _ _ _)
          · cases h
        · cases h
      · cases h
    · cases h
  · cases h
theorem I0.m {F : Fx} (hC : B2 F.C) {L l : List Oper} {o : Oper} {env : Env} {H : T0} {Q : Env → T0 → Prop} {d : Option Nat} {es : List (List UInt8 × Row)} {k : List UInt8} {ok : Bool} {z : A} (h : U1j F.C L o env H = some ⟨d, es, k, ok, z⟩) {r : Option Row} (hr : O3 k es = r)
    (kk : I0 F L l (put env d (lkA r z ok)) H Q) : I0 F L (o :: l) env H Q := by
  obtain ⟨h1, h2⟩ := D1u h
  refine .yields h1 (B1l hC h hr) ?_
  rw [S3 h2]
  exact kk
def O2g (L : List Oper) (o : Oper) (env : Env) (H : T0) : Option (Option Nat × Nat × T0) :=
  match K1 L env o, o.op, H6 o with
  | some true, .makeMap _ none, some d => match At H (.map (.s [])) with | some (n, H') => some (d, n, H') | none => none
  | _, _, _ => none
theorem I0.w {F : Fx} {L l : List Oper} {o : Oper} {env : Env} {H H' : T0} {Q : Env → T0 → Prop} {d : Option Nat} {n : Nat} (h : O2g L o env H = some (d, n, H')) (k : I0 F L l (put env d (.mp n)) H' Q) : I0 F L (o :: l) env H Q := by
  unfold O2g at h
  split at h
  · rename_i t d' hw ho hd
    split at h
    · rename_i n' H2 hp
      simp only [Option.some.injEq, Prod.mk.injEq] at h
      obtain ⟨rfl, rfl, rfl⟩ := h
      obtain ⟨rfl, rfl⟩ := Zl hp
      refine Ja hw fun fr M G w a K Qw hK hdok hs hsi hk => ?_
      have hr : (execOp a.eval o).run F.C.P w = .ok (.value (.map (some w.heap.size))) (w.alloc (.map #[] 0)) := by
        unfold execOp
        simp only [ho, Instr.makeMap]
        rfl
      have hg : H8 M (w.alloc (.map #[] 0)) := hs.good.alloc _
      unfold Oper.wp
      rw [hr]
      have hob : ∀ G, Uh M G (w.alloc (.map #[] 0)) (.map (.s [])) (.map (some w.heap.size)) := fun G => ⟨w.heap.size, #[], 0, rfl, heap_alloc_new w _, rfl, fun i k cs e h => by simp [Wv.list] at h, fun i e h => by simp at h, fun off sp => by
        cases hM : M ⟨w.heap.size, off, sp⟩ with
        | none => rfl
        | some v => have := hs.good.lt hM; simp at this⟩
      have hb : ∀ b, blk (.map (.s [])) (.map (some w.heap.size)) = some b → w.heap.size ≤ b := fun b hb => by simp [blk] at hb; omega
      refine hk (.mp H.length) env _ M (A7 G H.length (.map (some w.heap.size))) _ _ ?_ (hs.newOb (Q4 hdok) (Zm J6 M w _) hg hob hb (.mp X2)) (hsi.newOb (Zm J6 M w _) hb)
      rw [S3 hd]
      exact k
    · cases h
  · cases h
def X1h : A → Option Row
  | .agg cs => match I1w cs with
    | some [_] => none
    | some r => some r
    | none => none
  | x => match toD x with | some y => some [y] | none => none
theorem E1u {M : Mem} {G : Nat → Value} {x : A} {r : Row} {v : Value} (h : X1h x = some r) (hx : B1 M G x v) : B1 M G (Th r) v := by
  have single : ∀ y, toD x = some y → B1 M G (Th [y]) v := fun y hy => .d (H1w hy hx)
  unfold X1h at h
  split at h
  · rename_i cs
    split at h
    · cases h
    · rename_i r' hne hr
      simp only [Option.some.injEq] at h
      subst h
      obtain ⟨l1, l2⟩ := Y1r hr
      have e : Th r' = .agg (r'.map .d) := by
        match r', hne with
        | [], _ => rfl
        | [x], hne => exact absurd rfl (hne x)
        | _ :: _ :: _, _ => rfl
      rw [e]
      cases hx with
      | agg hl h1 h =>
        refine .agg (by simp; omega) h1 fun i y u hy hu => ?_
        rw [List.getElem?_map] at hy
        cases hz : r'[i]? with
        | none => rw [hz] at hy; cases hy
        | some z =>
          rw [hz] at hy
          simp only [Option.map_some, Option.some.injEq] at hy
          subst hy
          obtain ⟨q, hq, hqz⟩ := l2 i z hz
          exact .d (H1w hqz (h i q u hq hu))
    · cases h
  · split at h
    · rename_i y hy
      simp only [Option.some.injEq] at h
      subst h
      exact single y hy
    · cases h
def B20 (C : Cx) (L : List Oper) (o : Oper) (env : Env) (H : T0) : Option T0 :=
  match K1 L env o, o.op, o.dst with
  | some true, .mapUpdate t x y z, none => match P2 C.T t, ev C.GL env x, ev C.GL env y, X1h (ev C.GL env z) with
    | some i, .mp p, .d (.str k), some cs => match i.u, nth H p with
      | .map kt _, some (.map (.s es)) => match P2 C.T kt with
        | some ki => match ki.u with
          | .str => Pm H p (.map (.s (mput k cs es)))
          | _ => none
        | none => none
      | _, _ => none
    | _, _, _, _ => none
  | _, _, _ => none
theorem I0.u {F : Fx} (hC : B2 F.C) {L l : List Oper} {o : Oper} {env : Env} {H H' : T0} {Q : Env → T0 → Prop} (h : B20 F.C L o env H = some H') (k : I0 F L l env H' Q) : I0 F L (o :: l) env H Q := by
  unfold B20 at h
  split at h
  · rename_i t x y z hw ho hdst
    split at h
    · rename_i i p kk cs ht hx hy hz
      split at h
      · rename_i kt et es hu hp
        split at h
        · rename_i ki hki
          split at h
          · rename_i hku
            have e1 := Cw h
            subst e1
            refine Ja hw fun fr M G w a K Qw hK hdok hs hsi hk => ?_
            have hxr := hs.eval x
            have hyr := hs.eval y
            have hzr := E1u hz (hs.eval z)
            rw [hx] at hxr
            rw [hy] at hyr
            generalize hxv : a.eval x = xv at hxr
            generalize hyv : a.eval y = yv at hyr
            generalize hzv : a.eval z = zv at hzr
            cases hxr; rename_i b hgb
            cases hyr; rename_i hyr; cases hyr
            rename_i hkl
            rw [F3] at hp
            obtain ⟨b', ms, cl, g1, g2, g3, g4, g5, g6⟩ := hs.hrel.obj p _ hp
            have g3 := g3.trans (T1j es)
            have g4 := Z1r g4
            rw [hgb] at g1
            simp at g1
            subst g1
            have hd := Ss (hC.tok.facts ht) hu
            have hkd := Qp (hC.tok.facts hki) hku
            have hblt : b < w.heap.size := (Array.getElem?_eq_some_iff.1 g2).1
            have hkeys : ∀ (n : Nat) k' cs e, es[n]? = some (k', cs) → ms.toList[n]? = some e → e.key = .string ⟨k'.toArray⟩ := fun n k' cs e a b => by
              have := (g4 n k' cs e a (by simpa using b)).1
              generalize e.key = ek at this
              cases this; rfl
            have hMb : ∀ off sp, M ⟨b, off, sp⟩ = none := g6
            have key : ∃ ms' cl', (Instr.mapUpdate t (.map (some b)) (.string ⟨kk.toArray⟩) zv).run F.C.P w = .ok () { w with heap := w.heap.setIfInBounds b (.map ms' cl') } ∧ ms'.size = (mput kk cs es).length ∧
                (∀ (i : Nat) k' cs' e, (mput kk cs es)[i]? = some (k', cs') → ms'[i]? = some e → O2 M (.str k') e.key ∧ B1 M G (Th cs') e.val) ∧ ∀ (i : Nat) e, ms'[i]? = some e → e.born < cl' := by
              have Ha : ∀ o', (setObj b o').run F.C.P w = .ok () { w with heap := w.heap.setIfInBounds b o' } := fun o' => by simp [setObj, Sem.run, g2]
              rcases V1b (k := kk) (i := 0) (by simpa using g3) hkeys with ⟨h1, h2, h3⟩ | ⟨n, cs0, e, h1, h2, h3, h4, h5⟩
              · refine ⟨ms.push ⟨.string ⟨kk.toArray⟩, zv, cl⟩, cl + 1, ?_, by rw [h3]; simp [g3], fun i k' cs' e hi he => ?_, fun i e he => ?_⟩
                · simp [Instr.mapUpdate, run_underlying hd, Hk g2, Yi hkd, Instr.findKey, run_underlying hkd, h2, Ha]
                · rw [h3] at hi
                  rw [Array.getElem?_push] at he
                  split at he
                  · rename_i hie
                    simp only [Option.some.injEq] at he
                    subst he
                    rw [List.getElem?_append_right (by omega)] at hi
                    have : i - es.length = 0 := by omega
                    rw [this] at hi
                    simp at hi
                    obtain ⟨rfl, rfl⟩ := hi
                    exact ⟨.str hkl, hzr⟩
                  · rename_i hie
                    have hlt : i < ms.size := by have := (Array.getElem?_eq_some_iff.1 he).1; omega
                    rw [List.getElem?_append_left (by omega)] at hi
                    exact g4 i k' cs' e hi he
                · rw [Array.getElem?_push] at he
                  split at he
                  · simp only [Option.some.injEq] at he; subst he; simp
                  · have := g5 i e he; omega
              · have hn : n < ms.size := by simpa using (List.getElem?_eq_some_iff.1 h3).1
                have hmn : ms[n]? = some e := by simpa using h3
                have hke : e.key = .string ⟨kk.toArray⟩ := hkeys n kk cs0 e h1 h3
                have hst : ∀ w, (Instr.keyThatStays (.string ⟨kk.toArray⟩) (.string ⟨kk.toArray⟩)).run F.C.P w = .ok (.string ⟨kk.toArray⟩) w := fun w => by
                  have : Instr.sameBits 10000 (.string ⟨kk.toArray⟩) (.string ⟨kk.toArray⟩) = true := by
                    show ((⟨kk.toArray⟩ : ByteArray) == ⟨kk.toArray⟩) = true
                    rw [N2g]
                    simp
                  simp [Instr.keyThatStays, this]
                refine ⟨ms.modify n fun e => { e with key := .string ⟨kk.toArray⟩, val := zv }, cl, ?_, by rw [h5]; simp [g3], fun i k' cs' e' hi he => ?_, fun i e' he => ?_⟩
                · simp [Instr.mapUpdate, run_underlying hd, Hk g2, Yi hkd, Instr.findKey, run_underlying hkd, h4, hmn, hke, hst, Ha]
                · rw [h5, List.getElem?_set] at hi
                  rw [Array.getElem?_modify] at he
                  by_cases hin : n = i
                  · rw [if_pos hin] at he hi
                    subst hin
                    rw [hmn] at he
                    simp only [Option.map_some, Option.some.injEq] at he
                    subst he
                    rw [if_pos (by omega)] at hi
                    simp only [Option.some.injEq, Prod.mk.injEq] at hi
                    obtain ⟨rfl, rfl⟩ := hi
                    exact ⟨.str hkl, hzr⟩
                  · rw [if_neg hin] at he hi
                    exact g4 i k' cs' e' hi he
                · rw [Array.getElem?_modify] at he
                  by_cases hin : n = i
                  · rw [if_pos hin] at he
                    subst hin
                    rw [hmn] at he
                    simp only [Option.map_some, Option.some.injEq] at he
                    subst he
                    exact g5 n e hmn
                  · rw [if_neg hin] at he
                    exact g5 i e' he
            obtain ⟨ms', cl', k1, k2, k3, k4⟩ := key
            have hbk : blk (.map (.s es)) (G p) = some b := by rw [hgb]; rfl
            have hbk' : blk (.map (.s (mput kk cs es))) (G p) = some b := by rw [hgb]; rfl
            have hext : Ext (fun c => c = b) M w M { w with heap := w.heap.setIfInBounds b (.map ms' cl') } :=
              ⟨fun _ _ e => e, by simp, rfl, rfl, rfl, fun c _ hc => by simp [Array.getElem?_setIfInBounds_ne (Ne.symm hc)], fun _ _ e => .inl e⟩
            have hob : Uh M G { w with heap := w.heap.setIfInBounds b (.map ms' cl') } (.map (.s (mput kk cs es))) (G p) :=
              ⟨b, ms', cl', hgb, by simp [hblt], k2.trans (T1j _).symm, L2b k3, k4, g6⟩
            have hr : (execOp a.eval o).run F.C.P w = .ok .skip { w with heap := w.heap.setIfInBounds b (.map ms' cl') } := by
              unfold execOp
              simp only [ho, hxv, hyv, hzv, Sem.run_bind, k1, Result.andThen_ok, Sem.run_pure]
            unfold Oper.wp
            rw [hr]
            refine hk .junk env _ M G _ undef ?_ (hs.setOb (Q4 hdok) hp hbk hbk' hext hMb hob .junk) (hsi.setOb hp hbk hbk' rfl hext)
            rw [hdst]
            exact k
          · cases h
        · cases h
      · cases h
    · cases h
  · cases h
theorem LeA.int {k : IntKind} {n m : Int} (h : n = m) : LeA (.d (.int k n)) (.d (.int k m)) := h ▸ .rfl
theorem LeA.bool {n m : Bool} (h : n = m) : LeA (.d (.bool n)) (.d (.bool m)) := h ▸ .rfl
theorem LeA.str {n m : List UInt8} (h : n = m) : LeA (.d (.str n)) (.d (.str m)) := h ▸ .rfl
theorem LeA.succ {k : Nat} (h : (k : Int) < 9223372036854775807) : LeA (.d (.int .i64 ((k + 1 : Nat) : Int))) (.d (.int .i64 (IntKind.i64.wrap ((k : Int) + 1)))) :=
  .int (by rw [C21 (by omega) (by omega)]; omega)
end Go.Am

namespace Go.Am
theorem I0.ofAQ {F : Fx} {L : List Oper} {l2 : List Oper} {H : T0} {Q : Env → T0 → Prop} : ∀ {l1 : List Oper} {env : Env}, AQ F.C L l1 env H (fun e => I0 F L l2 e H Q) → I0 F L (l1 ++ l2) env H Q
  | [], env, h => h
  | o :: r, env, h => by
    obtain ⟨d, x, rfl, hst, hr⟩ := h
    rcases hst with ⟨hw, hy⟩ | ⟨hw, rfl⟩
    · exact .yields hw hy (I0.ofAQ hr)
    · exact .skip hw (I0.ofAQ hr)
theorem AQ.mono {C : Cx} {L : List Oper} {H : T0} {Q Q' : Env → Prop} (hq : ∀ e, Q e → Q' e) : ∀ {l : List Oper} {env : Env}, AQ C L l env H Q → AQ C L l env H Q'
  | [], _, h => hq _ h
  | _ :: _, _, ⟨d, x, h1, h2, h3⟩ => ⟨d, x, h1, h2, AQ.mono hq h3⟩
theorem I0.leE {F : Fx} {L l : List Oper} {env env' : Env} {H : T0} {Q : Env → T0 → Prop} (he : ∀ t, LeA (env' t) (env t)) (k : I0 F L l env' H Q) : I0 F L l env H Q := by
  intro fr M G w a Qw hK hd hs hsi hq
  exact k fr M G w a Qw hK hd ⟨hs.good, hs.gl, hs.hrel, fun t => (he t).rel (hs.env t), hs.size, hs.defers⟩ hsi hq
theorem AEx.regionQ {F : Fx} {id : Nat} {L : List Oper} {env : Env} {H : T0} {Q : Po} (n : Nat) (hd : L.all (Nl F.N) = true) (h : AQ F.C L (L.take n) env H (fun e => I0 F L (L.drop n) e H (Zz Q))) : AEx F (.region id L.toArray false) env H Q := by
  refine .region hd ?_
  have := I0.ofAQ h
  rwa [List.take_append_drop] at this
abbrev Cnd := Nat → Option Bool
def S28 : Cnd := fun _ => none
def Py (env : Env) (cnd : Cnd) : Env := fun t => match cnd t with | some false => .tup [] | _ => env t
def R21 (env : Env) (cnd : Cnd) : Env := fun t => match cnd t with | none => env t | _ => .junk
def Sj (cnd : Cnd) (d : Option Nat) (W : Option Bool) : Cnd := match d with | some t => (fun i => bif Nat.beq i t then W else cnd i) | none => cnd
def holds : Option Bool → Prop
  | none => True
  | some w => w = true
def wb : Bool → Bool → Bool
  | b, true => b
  | b, false => !b
def Ar (L : List Oper) (env : Env) (cnd : Cnd) (o : Oper) : Option (Option Bool) :=
  match o.guard with
  | none => some none
  | some (j, want) =>
    match nth L j with
    | some p => match p.dst with
      | some d => match env d, cnd d with
        | .d (.bool b), none => some (some (wb b want))
        | .d (.bool b), some c => some (some (c && wb b want))
        | _, _ => none
      | none => none
    | none => none
def isW : Option Bool → Bool
  | none => true
  | some w => w
theorem Y2e {L : List Oper} {env : Env} {cnd : Cnd} {o : Oper} {W : Option Bool} (h : Ar L env cnd o = some W) : K1 L (Py env cnd) o = some (isW W) := by
  unfold Ar at h
  unfold K1
  split at h
  · rename_i hg
    rw [hg]
    simp only [Option.some.injEq] at h
    subst h
    rfl
  · rename_i j want hg
    rw [hg]
    simp only
    split at h
    · rename_i p hp
      rw [hp]
      simp only
      split at h
      · rename_i d hd
        rw [hd]
        simp only
        split at h
        · rename_i b he hc
          simp only [Option.some.injEq] at h
          subst h
          simp only [Py, hc, he]
          cases b <;> cases want <;> rfl
        · rename_i b c he hc
          simp only [Option.some.injEq] at h
          subst h
          cases c with
          | false => simp only [Py, hc]; rfl
          | true =>
            simp only [Py, hc, he]
            cases b <;> cases want <;> rfl
        · cases h
      · cases h
    · cases h
def AG (C : Cx) (L : List Oper) : List Oper → Env → Cnd → T0 → (Env → Cnd → Prop) → Prop
  | [], env, cnd, _, Q => Q env cnd
  | o :: r, env, cnd, H, Q => ∃ d W x, o.dst = d ∧ Ar L env cnd o = some W ∧ (holds W → N7 C o (Py env cnd) H x) ∧ AG C L r (put env d x) (Sj cnd d W) H Q
theorem Z2e {env : Env} {cnd : Cnd} {d : Option Nat} {W : Option Bool} {x : A} : Py (put env d x) (Sj cnd d W) = put (Py env cnd) d (match W with | some false => .tup [] | _ => x) := by
  cases d with
  | none => rfl
  | some t =>
    funext i
    simp only [Py, Sj, put, upd]
    cases hb : Nat.beq i t with
    | true => rcases W with _ | _ | _ <;> rfl
    | false => rfl
theorem AG.aq {C : Cx} {L : List Oper} {H : T0} {Q : Env → Cnd → Prop} : ∀ {l : List Oper} {env : Env} {cnd : Cnd}, AG C L l env cnd H Q → AQ C L l (Py env cnd) H (fun e => ∃ env' cnd', e = Py env' cnd' ∧ Q env' cnd')
  | [], env, cnd, h => ⟨env, cnd, rfl, h⟩
  | o :: r, env, cnd, ⟨d, W, x, hd, hw, hy, hr⟩ => by
    have := AG.aq hr
    rw [Z2e] at this
    have hww := Y2e hw
    refine ⟨d, _, hd, ?_, this⟩
    rcases W with _ | _ | _
    · exact .inl ⟨hww, hy trivial⟩
    · exact .inr ⟨hww, rfl⟩
    · exact .inl ⟨hww, hy rfl⟩
theorem B1y {env : Env} : Py env S28 = env := rfl
theorem G26 {env : Env} {cnd : Cnd} (t : Nat) : LeA (R21 env cnd t) (Py env cnd t) := by
  unfold R21 Py
  cases cnd t with
  | none => exact .rfl
  | some c => exact .junk
theorem AEx.regionG {F : Fx} {id : Nat} {L : List Oper} {env : Env} {H : T0} {Q : Po} (n : Nat) (hd : L.all (Nl F.N) = true) (h : AG F.C L (L.take n) env S28 H (fun e c => I0 F L (L.drop n) (R21 e c) H (Zz Q))) : AEx F (.region id L.toArray false) env H Q := by
  refine .regionQ n hd ?_
  have := AG.aq h
  rw [B1y] at this
  refine this.mono fun e he => ?_
  obtain ⟨env', cnd', rfl, hq⟩ := he
  exact .leE G26 hq
theorem AEx.drawG {F : Fx} (hC : B2 F.C) {id : Nat} {L : List Oper} {env : Env} {H : T0} {Q : Po} (n : Nat) (hd : L.all (Nl F.N) = true) (hok : U1m L n = true) (hnl : Nat.ble n L.length = true)
    (h : AG F.C L (L.take n) env S28 H (fun e c => I0 F L (L.drop n) (R21 e c) H (Zz Q))) : AEx F (.region id L.toArray true) env H Q := by
  refine .draw hC n hd hok hnl ?_
  have := AG.aq h
  rw [B1y] at this
  refine this.mono fun e he => ?_
  obtain ⟨env', cnd', rfl, hq⟩ := he
  exact .leE G26 hq
theorem AG.nil {C : Cx} {L : List Oper} {env : Env} {cnd : Cnd} {H : T0} {Q : Env → Cnd → Prop} (h : Q env cnd) : AG C L [] env cnd H Q := h
def Ol (cnd : Cnd) : List Operand → Prop
  | [] => True
  | .tmp t :: r => match cnd t with
    | none => Ol cnd r
    | some c => c = true ∧ Ol cnd r
  | _ :: r => Ol cnd r
theorem Pq {GL : GT} {env : Env} {cnd : Cnd} : ∀ {l : List Operand}, Ol cnd l → ∀ y ∈ l, ev GL (Py env cnd) y = ev GL env y
  | .tmp t :: r, h, y, hy => by
    simp only [Ol] at h
    split at h
    · rename_i hc
      cases hy with
      | head => simp only [ev, Py, hc]
      | tail _ hy => exact Pq h y hy
    · rename_i c hc
      cases hy with
      | head => simp only [ev, Py, hc, h.1]
      | tail _ hy => exact Pq h.2 y hy
  | .const v :: r, h, y, hy => by
    cases hy with
    | head => rfl
    | tail _ hy => exact Pq (l := r) h y hy
  | .global g :: r, h, y, hy => by
    cases hy with
    | head => rfl
    | tail _ hy => exact Pq (l := r) h y hy
  | .func f :: r, h, y, hy => by
    cases hy with
    | head => rfl
    | tail _ hy => exact Pq (l := r) h y hy
theorem N7.congr {C : Cx} {o : Oper} {env env' : Env} {H : T0} {x : A} (h : N7 C o env H x) (he : ∀ y ∈ o.op.operands, ev C.GL env' y = ev C.GL env y) : N7 C o env' H x :=
  fun M G w a next Qw hρ => h M G w a next Qw fun y hy => by rw [← he y hy]; exact hρ y hy
def noG (o : Oper) : Oper := { o with guard := none }
theorem N7.noG {C : Cx} {o : Oper} {env : Env} {H : T0} {x : A} (h : N7 C (noG o) env H x) : N7 C o env H x := h
def U11 (o : Oper) : List Operand := o.op.operands.toList
theorem AG.lift {C : Cx} {L l : List Oper} {o : Oper} {env : Env} {cnd : Cnd} {H : T0} {Q : Env → Cnd → Prop} {d : Option Nat} {W : Option Bool} {x : A} (hd : H6 o = some d) (hw : Ar L env cnd o = some W) (hs : holds W → Ol cnd (U11 o)) (hy : holds W → N7 C (noG o) env H x)
    (k : AG C L l (put env d x) (Sj cnd d W) H Q) : AG C L (o :: l) env cnd H Q :=
  ⟨d, W, x, S3 hd, hw, fun h => (hy h).noG.congr fun y hy => Pq (hs h) y (by simpa [U11] using hy), k⟩
def Z17 (C : Cx) (L : List Oper) (o : Oper) (env : Env) (cnd : Cnd) (H : T0) : Option (Option Nat × Option Bool × Prop × Prop × A) :=
  match Ar L env cnd o, opA C.T C.GL o.op env H with
  | some W, some (c, x) => match frc x, H6 o with
    | some y, some d => some (d, W, Ol cnd (U11 o), c, y)
    | _, _ => none
  | _, _ => none
theorem AG.q {C : Cx} (hC : B2 C) {L l : List Oper} {o : Oper} {env : Env} {cnd : Cnd} {H : T0} {Q : Env → Cnd → Prop} {d : Option Nat} {W : Option Bool} {S c : Prop} {x : A} (h : Z17 C L o env cnd H = some (d, W, S, c, x)) (hs : holds W → S ∧ c)
    (k : AG C L l (put env d x) (Sj cnd d W) H Q) : AG C L (o :: l) env cnd H Q := by
  unfold Z17 at h
  split at h
  · rename_i W' c' x' hw ho
    split at h
    · rename_i y d' hy hd
      simp only [Option.some.injEq, Prod.mk.injEq] at h
      obtain ⟨rfl, rfl, rfl, rfl, rfl⟩ := h
      obtain rfl := Ut hy
      exact .lift hd hw (fun h => (hs h).1) (fun h => Bw hC (o := noG o) ho (hs h).2) k
    · cases h
  · cases h
structure Pk where
  d : Option Nat
  W : Option Bool
  sc : Prop
  t : Bool
  sa : Prop
  sb : Prop
  xa : Bool
  xb : Bool
def Y1h (C : Cx) (L : List Oper) (o : Oper) (env : Env) (cnd : Cnd) : Option Pk :=
  match Ar L env cnd o, o.op, H6 o with
  | some W, .pick c a b, some d => match ev C.GL env c, ev C.GL env a, ev C.GL env b with
    | .d (.bool t), .d (.bool xa), .d (.bool xb) => some ⟨d, W, Ol cnd [c], t, Ol cnd [a], Ol cnd [b], xa, xb⟩
    | _, _, _ => none
  | _, _, _ => none
theorem AG.p {C : Cx} (hC : B2 C) {L l : List Oper} {o : Oper} {env : Env} {cnd : Cnd} {H : T0} {Q : Env → Cnd → Prop} {d : Option Nat} {W : Option Bool} {sc sa sb : Prop} {t xa xb : Bool} (h : Y1h C L o env cnd = some ⟨d, W, sc, t, sa, sb, xa, xb⟩)
    (hs : holds W → sc ∧ (t = true → sa) ∧ (t = false → sb)) (k : AG C L l (put env d (.d (.bool (bif t then xa else xb)))) (Sj cnd d W) H Q) : AG C L (o :: l) env cnd H Q := by
  unfold Y1h at h
  split at h
  · rename_i W' c a b d' hw ho hd
    split at h
    · rename_i t' ya yb hc ha hb
      simp only [Option.some.injEq, Pk.mk.injEq] at h
      obtain ⟨rfl, rfl, rfl, rfl, rfl, rfl, rfl, rfl⟩ := h
      refine ⟨_, _, _, S3 hd, hw, fun h => ?_, k⟩
      obtain ⟨h1, h2, h3⟩ := hs h
      have ec := Pq (GL := C.GL) (env := env) h1 c List.mem_cons_self
      refine Bw hC (c := True) ?_ trivial
      rw [ho]
      simp only [opA, ec, hc, D3]
      cases t' with
      | true =>
        have ea := Pq (GL := C.GL) (env := env) (h2 rfl) a List.mem_cons_self
        simp only [cond_true, ea, ha]
      | false =>
        have eb := Pq (GL := C.GL) (env := env) (h3 rfl) b List.mem_cons_self
        simp only [cond_false, eb, hb]
    · cases h
  · cases h
def F1u (C : Cx) (L : List Oper) (o : Oper) (env : Env) (cnd : Cnd) : Option (Option Nat × Option Bool × Prop × FuncId × List A) :=
  match Ar L env cnd o, Yl C.GL env o with
  | some W, some (f, xs) => match Ru xs, H6 o with
    | some ys, some d => some (d, W, Ol cnd (U11 o), f, ys)
    | _, _ => none
  | _, _ => none
theorem AG.c {C : Cx} {L l : List Oper} {o : Oper} {env : Env} {cnd : Cnd} {H : T0} {Q : Env → Cnd → Prop} {d : Option Nat} {W : Option Bool} {S : Prop} {f : FuncId} {xs : List A} {x : A} (h : F1u C L o env cnd = some (d, W, S, f, xs)) (hn : B3 0 xs = true)
    (hs : holds W → S) (hc : holds W → S0 C f xs [] (fun r H' => H' = [] ∧ r = x)) (k : AG C L l (put env d x) (Sj cnd d W) H Q) : AG C L (o :: l) env cnd H Q := by
  unfold F1u at h
  split at h
  · rename_i W' f' xs' hw ho
    split at h
    · rename_i ys d' hy hd
      simp only [Option.some.injEq, Prod.mk.injEq] at h
      obtain ⟨rfl, rfl, rfl, rfl, rfl⟩ := h
      obtain rfl := Kr hy
      exact .lift hd hw hs (fun h => I17 (o := noG o) ho hn (hc h)) k
    · cases h
  · cases h
theorem AG.i {C : Cx} (hC : B2 C) {L l : List Oper} {o : Oper} {env : Env} {cnd : Cnd} {H : T0} {Q : Env → Cnd → Prop} {d : Option Nat} {W : Option Bool} {rows : List (List D)} {n : Int} {sz : Nat} (hw : Ar L env cnd o = some W) (h : R1b C [] (noG o) env = some (d, rows, n, sz)) {k : Nat} {r : List D}
    (hs : holds W → Ol cnd (U11 o)) (hk : holds W → n = k ∧ rows[k]? = some r ∧ Nat.beq r.length sz = true) (kk : AG C L l (put env d (.ptr r)) (Sj cnd d W) H Q) : AG C L (o :: l) env cnd H Q := by
  refine .lift (d := d) (W := W) ?_ hw hs (fun h' => O11 hC h (hk h').1 (hk h').2.1 (hk h').2.2) kk
  obtain ⟨_, hd⟩ := S1b h
  unfold H6
  have : o.dst = d := hd
  rw [this]
  cases d <;> rfl
theorem AG.x {C : Cx} (hC : B2 C) {L l : List Oper} {o : Oper} {env : Env} {cnd : Cnd} {H : T0} {Q : Env → Cnd → Prop} {d : Option Nat} {W : Option Bool} {s : List UInt8} {n : Int} (hw : Ar L env cnd o = some W) (h : G1f C [] (noG o) env = some (d, s, n)) {k : Nat} {b : UInt8}
    (hs : holds W → Ol cnd (U11 o)) (hk : holds W → n = k ∧ s[k]? = some b) (kk : AG C L l (put env d (.d (.int .u8 b.toNat))) (Sj cnd d W) H Q) : AG C L (o :: l) env cnd H Q := by
  refine .lift (d := d) (W := W) ?_ hw hs (fun h' => K1g hC h (hk h').1 (hk h').2) kk
  have := (U1b h).2
  exact this
theorem AG.split {C : Cx} {L l : List Oper} {env : Env} {cnd : Cnd} {H : T0} {Q : Env → Cnd → Prop} {b : Bool} (t : Nat) (hb : env t = .d (.bool b)) (h1 : b = true → AG C L l (upd env t (.d (.bool true))) cnd H Q) (h2 : b = false → AG C L l (upd env t (.d (.bool false))) cnd H Q) : AG C L l env cnd H Q := by
  cases b with
  | true => have := h1 rfl; rwa [K16 hb] at this
  | false => have := h2 rfl; rwa [K16 hb] at this
theorem AG.b {C : Cx} (hC : B2 C) {L l : List Oper} {o : Oper} {env : Env} {cnd : Cnd} {H : T0} {Q : Env → Cnd → Prop} {d : Option Nat} {rs : List Row} (h : R11 C L o env = some (d, rs)) (hw : Ar L env cnd o = some none) (hs : Ol cnd (U11 o)) (k : AG C L l (put env d (.full rs)) (Sj cnd d none) H Q) : AG C L (o :: l) env cnd H Q :=
  ⟨d, none, _, S3 (S11 h).2, hw, fun _ => (T11 hC h).congr fun y hy => Pq hs y (by simpa [U11] using hy), k⟩
theorem B2j {t : Bool} (h : t = false) : wb t false = true := by subst h; rfl
theorem C2j {t : Bool} (h : t = true) : wb t true = true := by subst h; rfl
theorem V2i {c t : Bool} (h : c = true) (h' : t = false) : (c && wb t false) = true := by subst h; subst h'; rfl
theorem W2i {c t : Bool} (h : c = true) (h' : t = true) : (c && wb t true) = true := by subst h; subst h'; rfl
def I10 : List Oper → Bool
  | [] => true
  | o :: r => o.guard.isNone && I10 r
theorem AEx.regionN {F : Fx} {id : Nat} {L : List Oper} {env : Env} {H : T0} {Q : Po} (_hg : I10 L = true) (hd : L.all (Nl F.N) = true) (h : I0 F L L env H (Zz Q)) : AEx F (.region id L.toArray false) env H Q := .region hd h
theorem M2b {M : Mem} {w w' : World} (h : Go.RowKit.Below w.heap.size w w') : Ext J6 M w M w' :=
  ⟨fun _ _ e => e, h.size, h.os, h.output, h.tape, fun b hb _ => h.block b hb, fun _ _ e => .inl e⟩
theorem S0.ofBelow {C : Cx} {f : FuncId} {args : List A} {r : A} (hf : T1m C.P f = true)
    (h : ∀ M G w (vs : Array Value), H8 M w → M1c C M w → args.length = vs.size → (∀ (i : Nat) x v, args[i]? = some x → vs[i]? = some v → B1 M G x v) →
      ∃ v, (∀ M G, B1 M G r v) ∧ Calls C.P f vs w fun e w' => e = .returned v ∧ Go.RowKit.Below w.heap.size w w') : S0 C f args [] (fun x H' => H' = [] ∧ x = r) := by
  refine ⟨hf, fun M G w vs hg hgl hh hl hr => ?_⟩
  obtain ⟨v, hv, hc⟩ := h M G w vs hg hgl hl hr
  refine hc.mono fun e w' ⟨he, hb⟩ => ?_
  have hext : Ext J6 M w M w' := M2b hb
  refine ⟨v, r, [], M, G, he, ⟨rfl, rfl⟩, hv M G, ?_, ?_, hext.weaken (fun _ h => h.elim), fun b hb => .inl hb, Nat.le_refl _, fun o x ho => by simp at ho⟩
  · exact hg.ext hext fun _ _ _ h => h.elim
  · exact hh.ext hext fun _ _ h => h
theorem A1s {args : List A} {vs : Array Value} {M : Mem} {G : Nat → Value} {s : List UInt8} {i : Nat} (hl : args.length = vs.size) (h : ∀ (i : Nat) x v, args[i]? = some x → vs[i]? = some v → B1 M G x v) (hi : args[i]? = some (.d (.str s))) :
    vs[i]? = some (.string ⟨s.toArray⟩) ∧ s.length ≤ maxLen := by
  have hlt : i < vs.size := by rw [← hl]; exact (List.getElem?_eq_some_iff.1 hi).1
  have hv : vs[i]? = some vs[i] := Array.getElem?_eq_getElem hlt
  have hr := h i _ _ hi hv
  generalize vs[i] = v at hr hv
  cases hr; rename_i hr; cases hr
  exact ⟨hv, by assumption⟩
theorem A2f {args : List A} {vs : Array Value} {M : Mem} {G : Nat → Value} {k : IntKind} {n : Int} {i : Nat} (hl : args.length = vs.size) (h : ∀ (i : Nat) x v, args[i]? = some x → vs[i]? = some v → B1 M G x v) (hi : args[i]? = some (.d (.int k n))) :
    vs[i]? = some (.int k n) ∧ InK k n := by
  have hlt : i < vs.size := by rw [← hl]; exact (List.getElem?_eq_some_iff.1 hi).1
  have hv : vs[i]? = some vs[i] := Array.getElem?_eq_getElem hlt
  have hr := h i _ _ hi hv
  generalize vs[i] = v at hr hv
  cases hr; rename_i hr; cases hr
  exact ⟨hv, by assumption⟩
theorem E2i {vs : Array Value} {a : Value} (hl : vs.size = 1) (h0 : vs[0]? = some a) : vs = #[a] := by
  apply Array.ext_getElem?
  intro i
  match i with
  | 0 => simpa using h0
  | i + 1 => rw [Array.getElem?_eq_none (by omega), Array.getElem?_eq_none (by simp)]
theorem D2j {vs : Array Value} {a b : Value} (hl : vs.size = 2) (h0 : vs[0]? = some a) (h1 : vs[1]? = some b) : vs = #[a, b] := by
  apply Array.ext_getElem?
  intro i
  match i with
  | 0 => simpa using h0
  | 1 => simpa using h1
  | i + 2 => rw [Array.getElem?_eq_none (by omega), Array.getElem?_eq_none (by simp)]
theorem J1w {P : Program} {f : FuncId} {fn : Func} (hf : P.funcs[f]? = some fn) (hn : (fn.name == "runtime.NumGoroutine") = false) (hb : fn.body.isSome = true) : T1m P f = true := by simp [T1m, hf, hb, hn]
def B1s : List A → Option (List A)
  | [] => some []
  | x :: r => match frc x, B1s r with | some y, some r' => some (y :: r') | _, _ => none
theorem H26 : ∀ {l l' : List A}, B1s l = some l' → l' = l
  | [], l', h => by simp [B1s] at h; exact h
  | x :: r, l', h => by
    simp only [B1s] at h
    split at h
    · rename_i y r' hy hr
      simp only [Option.some.injEq] at h
      rw [← h, Ut hy, H26 hr]
    · cases h
def Qm : T0 → Option T0
  | [] => some []
  | .row cs e :: r => match B1s cs, Qm r with | some cs', some r' => some (.row cs' e :: r') | _, _ => none
  | .dead :: r => match Qm r with | some r' => some (.dead :: r') | none => none
  | .bld o e :: r => match Qm r with | some r' => some (.bld o e :: r') | none => none
  | .buf e sz :: r => match Qm r with | some r' => some (.buf e sz :: r') | none => none
  | .tok e sz :: r => match Qm r with | some r' => some (.tok e sz :: r') | none => none
  | .map es :: r => match Qm r with | some r' => some (.map es :: r') | none => none
theorem Mu : ∀ {H H' : T0}, Qm H = some H' → H' = H
  | [], H', h => by simp [Qm] at h; exact h
  | .row cs e :: r, H', h => by
    simp only [Qm] at h
    split at h
    · rename_i cs' r' hc hr
      simp only [Option.some.injEq] at h
      rw [← h, H26 hc, Mu hr]
    · cases h
  | .dead :: r, H', h => by
    simp only [Qm] at h
    split at h
    · rename_i r' hr
      simp only [Option.some.injEq] at h
      rw [← h, Mu hr]
    · cases h
  | .bld o e :: r, H', h => by
    simp only [Qm] at h
    split at h
    · rename_i r' hr
      simp only [Option.some.injEq] at h
      rw [← h, Mu hr]
    · cases h
  | .buf e sz :: r, H', h => by
    simp only [Qm] at h
    split at h
    · rename_i r' hr
      simp only [Option.some.injEq] at h
      rw [← h, Mu hr]
    · cases h
  | .tok e sz :: r, H', h => by
    simp only [Qm] at h
    split at h
    · rename_i r' hr
      simp only [Option.some.injEq] at h
      rw [← h, Mu hr]
    · cases h
  | .map es :: r, H', h => by
    simp only [Qm] at h
    split at h
    · rename_i r' hr
      simp only [Option.some.injEq] at h
      rw [← h, Mu hr]
    · cases h
mutual
theorem S21 : ∀ x : A, dg [] x = x
  | .osl _ _ => rfl
  | .clo _ cs => by simp only [dg, O1p cs]
  | .agg cs => by simp only [dg, O1p cs]
  | .tup cs => by simp only [dg, O1p cs]
  | .d _ => rfl
  | .junk => rfl
  | .ref _ _ => rfl
  | .ptr _ => rfl
  | .full _ => rfl
  | .rsl _ _ _ _ => rfl
  | .mp _ => rfl
theorem O1p : ∀ l : List A, dgL [] l = l
  | [] => rfl
  | x :: r => by simp only [dgL, S21 x, O1p r]
end
theorem I0.hc {F : Fx} {L l : List Oper} {o : Oper} {env : Env} {H H' : T0} {Q : Env → T0 → Prop} {d : Option Nat} {g : FuncId} {xs : List A} {x y : A} (idx : List Nat) {cargs : List A} {cH cH' : T0}
    (h : Dk F.C L o env = some (d, g, xs)) (hc : S0 F.C g cargs cH (fun r h => h = cH' ∧ r = x)) (hx : Mr (Se idx H.length) cargs = xs) (hi : E1f idx H.length = true) (hm : Q11 (Se idx H.length) H idx cH) (ht : Ka idx cH = [])
    (hr : frc (ren (Se idx H.length) x) = some y) (hH : Qm (Fm H idx (Se idx H.length) [] cH') = some H') (k : I0 F L l (put env d y) H' Q) : I0 F L (o :: l) env H Q := by
  refine .callH idx cargs cH h hx hi hm hc fun r c ⟨e1, e2⟩ => ?_
  subst e1; subst e2
  have : (fun t => dg (Ka idx cH) (env t)) = env := by funext t; rw [ht, S21]
  rw [this, ht]
  have e3 := Mu hH
  have e4 := Ut hr
  subst e3; subst e4
  exact k
def Cut (F : Fx) (E : List (Nat × A)) (H2 : T0) (Q : Po) : Po
  | .normal, e, h => Wk F.K e h E H2
  | x, e, h => Q x e h
theorem AEx.cut {F : Fx} {c b : Code} {env : Env} {H : T0} {Q : Po} (E : List (Nat × A)) (H2 : T0) (h : AEx F c env H (Cut F E H2 Q)) (k : AEx F b (Zs E) H2 Q) : AEx F c env H (Then F b Q) :=
  h.mono fun x e hh hq => by
    cases x with
    | normal => exact AEx.wk hq k
    | exit i => exact hq
    | ret => exact hq
end Go.Am

namespace Go.Am
def P1c (P : Program) (c : Code) (Q : Exit → Act → World → Prop) (a : Act) (w : World) : Prop :=
  ∀ (b : Frame) (k : List Item) (cs : List Frame), ∃ e a' w', Q e a' w' ∧ Arrives P (lone (b.at a (.code c :: .inLoop c :: k)) cs w) b k cs e a' w'
theorem P1c.loop {P : Program} {c : Code} {Q : Exit → Act → World → Prop} {a : Act} {w : World} (h : P1c P c Q a w) : (Code.loop c).wp P Q a w := by
  intro b k cs
  obtain ⟨e, a', w', hq, harr⟩ := h b k cs
  exact ⟨e, a', w', hq, .of_steps (.one step_loop) harr⟩
theorem P1c.unroll {P : Program} {c : Code} {Q : Exit → Act → World → Prop} {a : Act} {w : World} (h : c.wp P (Exit.then (P1c P c Q) Q) a w) : P1c P c Q a w := by
  intro b k cs
  obtain ⟨e, a₁, w₁, hq, harr⟩ := h b (.inLoop c :: k) cs
  cases e with
  | normal =>
    obtain ⟨e₂, a₂, w₂, hq₂, harr₂⟩ := hq b k cs
    exact ⟨e₂, a₂, w₂, hq₂, .of_steps (Steps.trans harr (.one step_inLoop)) harr₂⟩
  | exit id => exact ⟨_, a₁, w₁, hq, .pass (x := .inLoop c) rfl (fun _ _ => .inl (by simp)) harr⟩
  | goto l => exact ⟨_, a₁, w₁, hq, .pass (x := .inLoop c) rfl (fun _ _ => .inl (by simp)) harr⟩
  | ret => exact ⟨_, a₁, w₁, hq, .pass (x := .inLoop c) rfl (fun _ _ => .inl (by simp)) harr⟩
  | panic ch => exact ⟨_, a₁, w₁, hq, .pass (x := .inLoop c) rfl (fun _ _ => .inl (by simp)) harr⟩
  | outgrown => exact ⟨_, a₁, w₁, hq, .pass (x := .inLoop c) rfl (fun _ _ => .inl (by simp)) harr⟩
def Z0 (F : Fx) (c : Code) (env : Env) (H : T0) (Q : Po) : Prop :=
  ∀ fr M G w a, fr.H0.length = F.K → St F.C F.N M G w env H a → M3 fr M G w H → P1c F.C.P c (Fin F fr Q) a w
def P2g (F : Fx) (c : Code) (Q : Po) : Po
  | .normal, e, h => Z0 F c e h Q
  | x, e, h => Q x e h
theorem AEx.ofLoop {F : Fx} {c : Code} {env : Env} {H : T0} {Q : Po} (h : Z0 F c env H Q) : AEx F (.loop c) env H Q :=
  fun fr M G w a hK hs hsi => (h fr M G w a hK hs hsi).loop
theorem Z0.unroll {F : Fx} {c : Code} {env : Env} {H : T0} {Q : Po} (h : AEx F c env H (P2g F c Q)) : Z0 F c env H Q := by
  intro fr M G w act hK hs hsi
  refine P1c.unroll (wp_mono (h fr M G w act hK hs hsi) fun e a' w' he => ?_)
  obtain ⟨x, env', H', M', G', rfl, hq, hs', hsi'⟩ := he
  cases x with
  | normal => exact hq fr M' G' w' a' hK hs' hsi'
  | exit id => exact ⟨.exit id, _, _, _, _, rfl, hq, hs', hsi'⟩
  | ret => exact ⟨.ret, _, _, _, _, rfl, hq, hs', hsi'⟩
theorem Z0.wk {F : Fx} {c : Code} {env : Env} {H : T0} {Q : Po} {L : List (Nat × A)} {H2 : T0} (hw : Wk F.K env H L H2) (h : Z0 F c (Zs L) H2 Q) : Z0 F c env H Q := by
  intro fr M G w act hK hs hsi
  exact h fr M _ w act hK (hw.st hs) (hw.since hK hsi)
def G1u (f : Func) : Code := match f.body with | some c => c | none => .skip
def sl : Code → Code | .seq a _ => a | c => c
def sr : Code → Code | .seq _ b => b | c => c
def ca : Code → Code | .cond _ a _ => a | c => c
def cb : Code → Code | .cond _ _ b => b | c => c
def bk : Code → Code | .block _ c => c | c => c
def lo : Code → Code | .loop c => c | c => c
theorem bind_some {α β : Type} {x : Option α} {f : α → Option β} {r : β} (h : (x >>= f) = some r) : ∃ a, x = some a ∧ f a = some r := by
  cases x with
  | none => cases h
  | some a => exact ⟨a, rfl, h⟩
theorem U1 {α : Type} {p : Prop} [Decidable p] {x : Option α} {r : α} (h : (if decide p = true then x else none) = some r) : p ∧ x = some r := by
  by_cases hp : p
  · rw [if_pos (decide_eq_true hp)] at h; exact ⟨hp, h⟩
  · rw [if_neg (by simpa using hp)] at h; cases h
theorem T21 {α : Type} {w : Bool} {p : Prop} [Decidable p] {x : Option α} {r : α} (h : (if (!w || decide p) = true then x else none) = some r) : (w = true → p) ∧ x = some r := by
  by_cases hp : (!w || decide p) = true
  · rw [if_pos hp] at h
    exact ⟨fun hw => by subst hw; simpa using hp, h⟩
  · rw [if_neg hp] at h; cases h
theorem T1 {α : Type} {b : Bool} {x y : Option α} {r : α} (hb : b = true) (h : (if b = true then x else y) = some r) : x = some r := by rw [if_pos hb] at h; exact h
theorem E2j {α : Type} {b : Bool} {x y : Option α} {r : α} (hb : b = false) (h : (if b = true then x else y) = some r) : y = some r := by rw [if_neg (by rw [hb]; decide)] at h; exact h
abbrev Str := List UInt8
def idx {α : Type} (l : List α) (n : Int) : Option α := if 0 ≤ n then l[n.toNat]? else none
theorem W0 {α : Type} {l : List α} {n : Int} {x : α} (h : idx l n = some x) : n = (n.toNat : Int) := by
  unfold idx at h
  split at h
  · omega
  · cases h
theorem Rx {α : Type} {l : List α} {n : Int} {x : α} (h : idx l n = some x) : l[n.toNat]? = some x := by
  unfold idx at h
  split at h
  · exact h
  · cases h
def slc {α : Type} (l : List α) (a b : Int) : Option (List α) := if 0 ≤ a ∧ a ≤ b ∧ b ≤ l.length then some ((l.take b.toNat).drop a.toNat) else none
theorem W1m {α : Type} {l x : List α} {a b : Int} (h : slc l a b = some x) : a = (a.toNat : Int) ∧ b = (b.toNat : Int) ∧ a.toNat ≤ b.toNat ∧ b.toNat ≤ l.length ∧ x = (l.take b.toNat).drop a.toNat := by
  unfold slc at h
  split at h
  · cases h; exact ⟨by omega, by omega, by omega, by omega, rfl⟩
  · cases h
theorem V6 {a b a' b' n : Nat} (ha : a' = a) (hb : b' = b) (h : (a + b) * n ≤ 140737488355328) : (a' + b') * n ≤ 140737488355328 := by subst ha; subst hb; exact h
def mgt {α : Type} (k : Str) : List (Str × α) → Option α
  | [] => none
  | (k', x) :: r => bif k == k' then some x else mgt k r
def mpt {α : Type} (k : Str) (x : α) : List (Str × α) → List (Str × α)
  | [] => [(k, x)]
  | (k', y) :: r => bif k == k' then (k, x) :: r else (k', y) :: mpt k x r
section
variable {α : Type} {f : α → Row} {g : List α → List Row} {h : α → A}
theorem Z5 (hg : ∀ l, g l = l.map f) {l : List α} {n : Int} {x : α} (h : idx l n = some x) : (g l)[n.toNat]? = some (f x) := by simp [hg, Rx h]
theorem A6 (hg : ∀ l, g l = l.map f) (l m : List α) : g (l ++ m) = g l ++ g m := by simp [hg]
theorem O5 (hg : ∀ l, g l = l.map f) (l : List α) : (g l).length = l.length := by simp [hg]
theorem V4 (hg : ∀ l, g l = l.map f) (l : List α) : A.d (.int .i64 ((g l).length : Nat)) = A.d (.int .i64 (l.length : Nat)) := by simp [hg]
theorem W7 (hg : ∀ l, g l = l.map f) {n : Nat} (hn : ∀ x, (f x).length = n) (l : List α) : ∀ r ∈ g l, r.length = n := by
  intro r hr
  rw [hg] at hr
  obtain ⟨x, _, rfl⟩ := List.mem_map.1 hr
  exact hn x
theorem W4 (hg : ∀ l, g l = l.map f) {l x : List α} {a b : Int} (h : slc l a b = some x) : a = (a.toNat : Int) ∧ b = (b.toNat : Int) ∧ a.toNat ≤ b.toNat ∧ b.toNat ≤ (g l).length ∧ g x = ((g l).take b.toNat).drop a.toNat := by
  obtain ⟨h1, h2, h3, h4, rfl⟩ := W1m h
  exact ⟨h1, h2, h3, by rw [O5 hg]; exact h4, by simp [hg]⟩
def B6 (f : α → Row) (m : List (Str × α)) : List (Str × Row) := m.map fun p => (p.1, f p.2)
theorem C1s (f : α → Row) (k : Str) : ∀ m : List (Str × α), O3 k (B6 f m) = (mgt k m).map f
  | [] => rfl
  | (k', x) :: r => by
    show (bif k == k' then some (f x) else O3 k (B6 f r)) = (bif k == k' then some x else mgt k r).map f
    rw [C1s f k r]
    cases k == k' <;> rfl
theorem P5 (f : α → Row) (k : Str) (x : α) : ∀ m : List (Str × α), B6 f (mpt k x m) = mput k (f x) (B6 f m)
  | [] => rfl
  | (k', y) :: r => by
    show B6 f (bif k == k' then (k, x) :: r else (k', y) :: mpt k x r) = (bif k == k' then (k, f x) :: B6 f r else (k', f y) :: mput k (f x) (B6 f r))
    rw [← P5 f k x r]
    cases k == k' <;> rfl
theorem Sk (hf : ∀ x, Th (f x) = h x) {z : α} {za : A} (hz : za = h z) {k : Str} {m : List (Str × α)} {x : Option α} (hx : some (mgt k m) = some x) : lkA (O3 k (B6 f m)) za true = .tup [h (x.getD z), .d (.bool x.isSome)] := by
  cases hx
  rw [C1s]
  cases mgt k m with
  | none => simp [lkA, hz]
  | some y => simp [lkA, hf]
theorem Df {z : α} {za : A} (hz : za = h z) {x : Option α} (hx : some none = some x) : lkA none za true = .tup [h (x.getD z), .d (.bool x.isSome)] := by cases hx; simp [lkA, hz]
theorem Ef {z : α} {za : A} (hz : za = h z) {x : Option α} (hx : some none = some x) : lkA none za false = h (x.getD z) := by cases hx; simp [lkA, hz]
theorem Tk (hf : ∀ x, Th (f x) = h x) {z : α} {za : A} (hz : za = h z) {k : Str} {m : List (Str × α)} {x : Option α} (hx : some (mgt k m) = some x) : lkA (O3 k (B6 f m)) za false = h (x.getD z) := by
  cases hx
  rw [C1s]
  cases mgt k m with
  | none => simp [lkA, hz]
  | some y => simp [lkA, hf]
end
theorem I0.qe {F : Fx} (hC : B2 F.C) {L l : List Oper} {o : Oper} {env : Env} {H : T0} {Q : Env → T0 → Prop} {d : Option Nat} {c : Prop} {x y : A} (h : Om F.C L o env H = some (d, c, x)) (hc : c) (e : x = y)
    (k : I0 F L l (put env d y) H Q) : I0 F L (o :: l) env H Q := by subst e; exact .q hC h hc k
theorem AQ.qe {C : Cx} (hC : B2 C) {L l : List Oper} {o : Oper} {env : Env} {H : T0} {Q : Env → Prop} {d : Option Nat} {c : Prop} {x y : A} (h : Om C L o env H = some (d, c, x)) (hc : c) (e : x = y) (k : AQ C L l (put env d y) H Q) : AQ C L (o :: l) env H Q := by
  subst e; exact .q hC h hc k
theorem AG.qe {C : Cx} (hC : B2 C) {L l : List Oper} {o : Oper} {env : Env} {cnd : Cnd} {H : T0} {Q : Env → Cnd → Prop} {d : Option Nat} {W : Option Bool} {S c : Prop} {x y : A} (h : Z17 C L o env cnd H = some (d, W, S, c, x)) (hs : holds W → S ∧ c) (e : x = y)
    (k : AG C L l (put env d y) (Sj cnd d W) H Q) : AG C L (o :: l) env cnd H Q := by subst e; exact .q hC h hs k
theorem I0.lx {F : Fx} (hC : B2 F.C) {L l : List Oper} {o : Oper} {env : Env} {H : T0} {Q : Env → T0 → Prop} {d : Option Nat} {s x : List UInt8} {lo hi : Int} (h : H1f F.C L o env = some (d, s, lo, hi)) (hx : slc s lo hi = some x)
    (kk : I0 F L l (put env d (.d (.str x))) H Q) : I0 F L (o :: l) env H Q := by
  obtain ⟨h1, h2, h3, h4, rfl⟩ := W1m hx
  exact .l hC h h1 h2 h3 h4 kk
theorem AQ.lx {C : Cx} (hC : B2 C) {L l : List Oper} {o : Oper} {env : Env} {H : T0} {Q : Env → Prop} {d : Option Nat} {s x : List UInt8} {lo hi : Int} (h : H1f C L o env = some (d, s, lo, hi)) (hx : slc s lo hi = some x)
    (kk : AQ C L l (put env d (.d (.str x))) H Q) : AQ C L (o :: l) env H Q := by
  obtain ⟨h1, h2, h3, h4, rfl⟩ := W1m hx
  exact .l hC h h1 h2 h3 h4 kk
theorem I0.dx {F : Fx} (hC : B2 F.C) {L l : List Oper} {o : Oper} {env : Env} {H : T0} {Q : Env → T0 → Prop} {d : Option Nat} {rows rs : List Row} {lo hi : Int} {sz : Nat} (h : I1f F.C L o env = some (d, rows, lo, hi, sz))
    (hx : lo = (lo.toNat : Int) ∧ hi = (hi.toNat : Int) ∧ lo.toNat ≤ hi.toNat ∧ hi.toNat ≤ rows.length ∧ rs = (rows.take hi.toNat).drop lo.toNat) (hsz : ∀ x ∈ rows, x.length = sz) (kk : I0 F L l (put env d (.d (.sl rs))) H Q) : I0 F L (o :: l) env H Q := by
  obtain ⟨h1, h2, h3, h4, rfl⟩ := hx
  exact .d hC h h1 h2 h3 h4 hsz kk
theorem AQ.dx {C : Cx} (hC : B2 C) {L l : List Oper} {o : Oper} {env : Env} {H : T0} {Q : Env → Prop} {d : Option Nat} {rows rs : List Row} {lo hi : Int} {sz : Nat} (h : I1f C L o env = some (d, rows, lo, hi, sz))
    (hx : lo = (lo.toNat : Int) ∧ hi = (hi.toNat : Int) ∧ lo.toNat ≤ hi.toNat ∧ hi.toNat ≤ rows.length ∧ rs = (rows.take hi.toNat).drop lo.toNat) (hsz : ∀ x ∈ rows, x.length = sz) (kk : AQ C L l (put env d (.d (.sl rs))) H Q) : AQ C L (o :: l) env H Q := by
  obtain ⟨h1, h2, h3, h4, rfl⟩ := hx
  exact .d hC h h1 h2 h3 h4 hsz kk
theorem I0.ap {F : Fx} (hC : B2 F.C) {L l : List Oper} {o : Oper} {env : Env} {H : T0} {Q : Env → T0 → Prop} {d : Option Nat} {p : Nat} {nw : Bool} {rows news rs : List Row} {sz bytes : Nat} {H' : T0}
    (h : P28 F.C L o env H = some ⟨d, p, nw, rows, news, sz, bytes, H'⟩) (e : rs = rows ++ news) (h1 : ∀ r ∈ rows, r.length = sz) (h2 : ∀ r ∈ news, r.length = sz) (h3 : (rows.length + news.length) * (bytes + 1) ≤ 140737488355328)
    (k : I0 F L l (put (bif nw then env else fun t => dg [p] (env t)) d (.osl p rs)) H' Q) : I0 F L (o :: l) env H Q := by subst e; exact .a hC h h1 h2 h3 k
theorem I0.me {F : Fx} (hC : B2 F.C) {L l : List Oper} {o : Oper} {env : Env} {H : T0} {Q : Env → T0 → Prop} {d : Option Nat} {es : List (List UInt8 × Row)} {k : List UInt8} {ok : Bool} {z y : A} (h : U1j F.C L o env H = some ⟨d, es, k, ok, z⟩) (e : lkA (O3 k es) z ok = y)
    (kk : I0 F L l (put env d y) H Q) : I0 F L (o :: l) env H Q := by subst e; exact .m hC h rfl kk
def U21 (C : Cx) (L : List Oper) (o : Oper) (env : Env) (H : T0) : Option (Nat × List UInt8 × Row × List (List UInt8 × Row)) :=
  match K1 L env o, o.op, o.dst with
  | some true, .mapUpdate t x y z, none => match P2 C.T t, ev C.GL env x, ev C.GL env y, X1h (ev C.GL env z) with
    | some i, .mp p, .d (.str k), some cs => match i.u, nth H p with
      | .map kt _, some (.map (.s es)) => match P2 C.T kt with
        | some ki => match ki.u with
          | .str => some (p, k, cs, es)
          | _ => none
        | none => none
      | _, _ => none
    | _, _, _, _ => none
  | _, _, _ => none
theorem N2b {C : Cx} {L : List Oper} {o : Oper} {env : Env} {H : T0} {p : Nat} {k : List UInt8} {cs : Row} {es : List (List UInt8 × Row)} (h : U21 C L o env H = some (p, k, cs, es)) {H' : T0} (h' : Pm H p (.map (.s (mput k cs es))) = some H') : B20 C L o env H = some H' := by
  unfold U21 at h
  unfold B20
  split at h
  · split at h
    · split at h
      · split at h
        · split at h
          · simp only [Option.some.injEq, Prod.mk.injEq] at h
            obtain ⟨rfl, rfl, rfl, rfl⟩ := h
            simp_all only
          · cases h
        · cases h
      · cases h
    · cases h
  · cases h
theorem I0.ue {F : Fx} (hC : B2 F.C) {L l : List Oper} {o : Oper} {env : Env} {H H' : T0} {Q : Env → T0 → Prop} {p : Nat} {k : List UInt8} {cs : Row} {es es2 : List (List UInt8 × Row)} (h : U21 F.C L o env H = some (p, k, cs, es)) (e : mput k cs es = es2) (h' : Pm H p (.map (.s es2)) = some H')
    (kk : I0 F L l env H' Q) : I0 F L (o :: l) env H Q := by subst e; exact .u hC (N2b h h') kk
theorem I0.be {F : Fx} (hC : B2 F.C) {L l : List Oper} {o : Oper} {env : Env} {H : T0} {Q : Env → T0 → Prop} {d : Option Nat} {rs rs' : List Row} (h : R11 F.C L o env = some (d, rs)) (e : rs = rs') (k : I0 F L l (put env d (.full rs')) H Q) : I0 F L (o :: l) env H Q := by subst e; exact .b hC h k
theorem AQ.be {C : Cx} (hC : B2 C) {L l : List Oper} {o : Oper} {env : Env} {H : T0} {Q : Env → Prop} {d : Option Nat} {rs rs' : List Row} (h : R11 C L o env = some (d, rs)) (e : rs = rs') (k : AQ C L l (put env d (.full rs')) H Q) : AQ C L (o :: l) env H Q := by subst e; exact .b hC h k
theorem AG.be {C : Cx} (hC : B2 C) {L l : List Oper} {o : Oper} {env : Env} {cnd : Cnd} {H : T0} {Q : Env → Cnd → Prop} {d : Option Nat} {rs rs' : List Row} (h : R11 C L o env = some (d, rs)) (e : rs = rs') (hw : Ar L env cnd o = some none) (hs : Ol cnd (U11 o)) (k : AG C L l (put env d (.full rs')) (Sj cnd d none) H Q) : AG C L (o :: l) env cnd H Q := by subst e; exact .b hC h hw hs k
theorem Q1c {C : Cx} {o : Oper} {env : Env} {H : T0} {f : FuncId} {xs ys : List A} {x : A} (ha : Yl C.GL env o = some (f, xs)) (hle : LeL ys xs) (hn : B3 0 ys = true) (hc : S0 C f ys [] (fun r H' => H' = [] ∧ r = x)) : N7 C o env H x := by
  intro M G w a next Qw hρ hG hgl hH hk
  obtain ⟨vs, h1, h2, h3⟩ := H17 ha hρ hc.1
  unfold Oper.wp
  rw [h1 w]
  refine (P1j hn hc hG hgl (hle.spec.1.trans h2) (hle.rels h3)).mono fun e w' he => ?_
  obtain ⟨v, r, M', rfl, rfl, g1, g2, g3⟩ := he
  exact hk v M' w' (g1 G) g2 g3
theorem I0.cl {F : Fx} {L l : List Oper} {o : Oper} {env : Env} {H : T0} {Q : Env → T0 → Prop} {d : Option Nat} {f : FuncId} {xs ys : List A} {x : A} (h : Dk F.C L o env = some (d, f, xs)) (hc : S0 F.C f ys [] (fun r H' => H' = [] ∧ r = x)) (hle : LeL ys xs) (hn : B3 0 ys = true)
    (k : I0 F L l (put env d x) H Q) : I0 F L (o :: l) env H Q := by
  obtain ⟨h1, h2, rfl⟩ := Ek h
  exact .yields h1 (Q1c h2 hle hn hc) k
theorem AQ.cl {C : Cx} {L l : List Oper} {o : Oper} {env : Env} {H : T0} {Q : Env → Prop} {d : Option Nat} {f : FuncId} {xs ys : List A} {x : A} (h : Dk C L o env = some (d, f, xs)) (hc : S0 C f ys [] (fun r H' => H' = [] ∧ r = x)) (hle : LeL ys xs) (hn : B3 0 ys = true)
    (k : AQ C L l (put env d x) H Q) : AQ C L (o :: l) env H Q := by
  obtain ⟨h1, h2, rfl⟩ := Ek h
  exact ⟨_, x, rfl, .inl ⟨h1, Q1c h2 hle hn hc⟩, k⟩
theorem AG.cl {C : Cx} {L l : List Oper} {o : Oper} {env : Env} {cnd : Cnd} {H : T0} {Q : Env → Cnd → Prop} {d : Option Nat} {W : Option Bool} {S : Prop} {f : FuncId} {xs ys : List A} {x : A} (h : F1u C L o env cnd = some (d, W, S, f, xs)) (hc : holds W → S0 C f ys [] (fun r H' => H' = [] ∧ r = x)) (hle : LeL ys xs) (hn : B3 0 ys = true)
    (hs : holds W → S) (k : AG C L l (put env d x) (Sj cnd d W) H Q) : AG C L (o :: l) env cnd H Q := by
  unfold F1u at h
  split at h
  · rename_i W' f' xs' hw ha
    split at h
    · rename_i ys' d' hz hd
      simp only [Option.some.injEq, Prod.mk.injEq] at h
      obtain ⟨rfl, rfl, rfl, rfl, rfl⟩ := h
      have := Kr hz
      subst this
      exact .lift hd hw hs (fun hW => (Q1c (o := noG o) ha hle hn (hc hW))) k
    · cases h
  · cases h
theorem I0.g {F : Fx} {L l : List Oper} {o : Oper} {env : Env} {H H' : T0} {Q : Env → T0 → Prop} {d : Option Nat} {g : FuncId} {xs : List A} {x y : A} (idx : List Nat) {cargs : List A} {cH cH' : T0}
    (h : Dk F.C L o env = some (d, g, xs)) (hc : S0 F.C g cargs cH (fun r h => h = cH' ∧ r = x)) (hx : LeL (Mr (Se idx H.length) cargs) xs) (hi : E1f idx H.length = true) (hm : Q11 (Se idx H.length) H idx cH)
    (hr : frc (ren (Se idx H.length) x) = some y) (hH : Qm (Fm H idx (Se idx H.length) (Ka idx cH) cH') = some H') (k : I0 F L l (put (fun t => dg (Ka idx cH) (env t)) d y) H' Q) : I0 F L (o :: l) env H Q := by
  refine .callHL idx cargs cH h hx hi hm hc fun r c ⟨e1, e2⟩ => ?_
  subst e1; subst e2
  have e3 := Mu hH
  have e4 := Ut hr
  subst e3; subst e4
  exact k
def zf : D → A
  | .sl [] => .full []
  | x => .d x
theorem F2i {M : Mem} {G : Nat → Value} {x : D} {v : Value} (h : zB v x = true) : B1 M G (zf x) v := by
  have h' := Xs h M
  unfold zf
  split
  · unfold zB at h
    split at h <;> first | contradiction | skip
    exact .full .slnil trivial
  · exact .d h'
theorem L1g {P : Program} {M : Mem} {G : Nat → Value} {T : TT} (hT : TOk P T) {t : Nat} {i : TI} (ht : P2 T t = some i) : ∃ z, (∀ w, (zeroValue t).run P w = .ok z w) ∧ Mn M G (i.zero.map zf) z.cells := by
  obtain ⟨j, h1, h2, h3, z, h4, h5, h6, h7⟩ := (hT.facts ht).info
  refine ⟨z, fun w => by simp [zeroValue, typeInfo, h1, h4], by simpa using h5.symm, fun n v hv => ?_, fun n x v hx hv => ?_⟩
  · have hlt : n < i.zero.length := by rw [← h5]; simpa using (Array.getElem?_eq_some_iff.1 hv).1
    exact (Xs (h6 n v _ hv (List.getElem?_eq_getElem hlt)) M).one
  · rw [List.getElem?_map] at hx
    cases hz : i.zero[n]? with
    | none => rw [hz] at hx; cases hx
    | some y =>
      rw [hz] at hx
      simp only [Option.map_some, Option.some.injEq] at hx
      subst hx
      exact F2i (h6 n v y hv hz)
def O2b (C : Cx) (L : List Oper) (o : Oper) (env : Env) (H : T0) : Option (Option Nat × Nat × T0) :=
  match K1 L env o, o.op with
  | some true, .alloc t => match P2 C.T t with
    | some i => match Ru (i.zero.map zf) with
      | some cs => match At H (.row cs t), H6 o with | some (n, H'), some d => some (d, n, H') | _, _ => none
      | none => none
    | none => none
  | _, _ => none
theorem I0.nf {F : Fx} (hC : B2 F.C) {L l : List Oper} {o : Oper} {env : Env} {H H' : T0} {Q : Env → T0 → Prop} {d : Option Nat} {n : Nat} (h : O2b F.C L o env H = some (d, n, H'))
    (k : I0 F L l (put env d (.ref n 0)) H' Q) : I0 F L (o :: l) env H Q := by
  unfold O2b at h
  split at h
  · rename_i t hw ho
    split at h
    · rename_i i ht
      split at h
      · rename_i cs hcs
        split at h
        · rename_i n' H2 d' hp hd
          simp only [Option.some.injEq, Prod.mk.injEq] at h
          obtain ⟨rfl, rfl, rfl⟩ := h
          obtain ⟨rfl, rfl⟩ := Zl hp
          have := Kr hcs
          subst this
          refine Ja hw fun fr M G w a K Qw hK hd' hs hsi hk => ?_
          obtain ⟨z, h1, h2⟩ := L1g (M := M) (G := G) hC.tok ht
          have hr : (execOp a.eval o).run F.C.P w = .ok (.value (.pointer (some ⟨w.heap.size, 0, none⟩))) (w.alloc (.cells z.cells t)) := by
            unfold execOp
            simp [ho, Instr.alloc, h1, newVar, newRow]
          unfold Oper.wp
          rw [hr]
          rw [← S3 hd] at k
          exact hk _ _ _ _ _ _ _ k (hs.newRow (Q4 hd') h2) (M3.newRow hsi)
        · cases h
      · cases h
    · cases h
  · cases h
def Q2g (C : Cx) (L : List Oper) (o : Oper) (env : Env) : Option (Option Nat × List Row) :=
  match K1 L env o, o.op, H6 o with
  | some true, .binOp .eql t x (.const (.slice none 0 0)) _, some d => match P2 C.T t, Zv (ev C.GL env x) with
    | some i, some rows => match i.u with
      | .sl _ => some (d, rows)
      | _ => none
    | _, _ => none
  | _, _, _ => none
theorem I0.z {F : Fx} (hC : B2 F.C) {L l : List Oper} {o : Oper} {env : Env} {H : T0} {Q : Env → T0 → Prop} {d : Option Nat} {rows : List Row} (h : Q2g F.C L o env = some (d, rows)) (k : ∀ b : Bool, (b = true → rows = []) → I0 F L l (put env d (.d (.bool b))) H Q) : I0 F L (o :: l) env H Q := by
  unfold Q2g at h
  split at h
  · rename_i t x yt d' hw ho hd
    split at h
    · rename_i i rows ht hr
      split at h
      · rename_i e hu
        simp only [Option.some.injEq, Prod.mk.injEq] at h
        obtain ⟨rfl, rfl⟩ := h
        refine Ja hw fun fr M G w a K Qw hK hdok hs hsi hk => ?_
        have hx := Wh hr (hs.eval x)
        have hdd := Rj (hC.tok.facts ht) hu
        have he : a.eval (.const (.slice none 0 0)) = .slice none 0 0 := rfl
        have key : ∃ b : Bool, (b = true → rows = []) ∧ (execOp a.eval o).run F.C.P w = .ok (.value (.bool b)) w := by
          generalize hv : a.eval x = v at hx
          have dd : ∀ (v : Value) (b : Bool), (∀ n, (Op.equalIn (n + 1) t v (.slice none 0 0)).run F.C.P w = .ok b w) → binOp .eql t v (.slice none 0 0) = (do pure (.bool (← Op.equal t v (.slice none 0 0)))) → binOp .neq t v (.slice none 0 0) = (do pure (.bool (!(← Op.equal t v (.slice none 0 0))))) →
              v ≠ .nilIface → (∀ u, v ≠ .agg u) → a.eval x = v → (execOp a.eval o).run F.C.P w = .ok (.value (.bool b)) w := fun v b e1 e2 e3 e4 e5 e6 => by
            obtain ⟨u, hu1, hu2⟩ := Jp (P := F.C.P) (M := M) (G := G) (w := w) (op := .eql) (neg := false) (.inl ⟨rfl, rfl⟩) b e1 e2 e3
            have hub : u = .bool b := by cases hu2; rename_i hh; cases hh; rfl
            subst hub
            unfold execOp
            simp only [ho, e6, he, Sem.run_bind, P1t e4 e5, Result.andThen_ok, hu1, Sem.run_pure]
          cases hx with
          | slnil => exact ⟨true, fun _ => rfl, dd _ true (fun n => by simp [Op.equalIn, run_underlying hdd]) rfl rfl (by simp) (by simp) hv⟩
          | sl sz J1 hl hc hm hs' hz h1 h2 => exact ⟨false, (fun h => by cases h), dd _ false (fun n => by simp [Op.equalIn, run_underlying hdd]) rfl rfl (by simp) (by simp) hv⟩
        obtain ⟨b, hnil, hb⟩ := key
        unfold Oper.wp
        rw [hb]
        have kb := k b hnil
        rw [← S3 hd] at kb
        exact hk _ _ _ _ _ _ _ kb (hs.quiet (Q4 hdok) (.d .bool) hs.good (Ext.refl _ _ _)) (hsi.quiet (Ext.refl _ _ _))
      · cases h
    · cases h
  · cases h
theorem I0.tokE {F : Fx} {L l : List Oper} {env : Env} {H : T0} {Q : Env → T0 → Prop} (t e sz : Nat) {rows : List Row} (h : env t = .full rows) (k : I0 F L l (upd env t (.osl H.length rows)) (H ++ [.tok e sz]) Q) : I0 F L l env H Q := by
  intro fr M G w a Qw hK hd hs hsi hq
  have hr := hs.env t
  rw [h] at hr
  generalize hv : a.tmps.getD t undef = v at hr
  cases hr
  rename_i hf hrd
  obtain ⟨t1, t2⟩ := Lu (G := G) (w := w) hrd hf e sz
  have hsi' := hsi.newTok (Ext.refl J6 M w) (e := e) (sz := sz) (v' := v) fun b hb => absurd hb (t2 b)
  have hs' := hs.newTok (dst := none) (by simp) (Ext.refl J6 M w) hs.good (e := e) (sz := sz) (v' := v) (x := .osl H.length rows) t1 (fun b hb => absurd hb (t2 b)) (.osl hrd X2)
  refine k fr M _ w a Qw hK hd ⟨hs'.good, hs'.gl, hs'.hrel, fun s => ?_, hs.size, hs.defers⟩ hsi' hq
  unfold upd
  cases hb : Nat.beq s t with
  | true =>
    obtain rfl := Nat.eq_of_beq_eq_true hb
    rw [hv]
    exact .osl hrd X2
  | false => exact hs'.env s
theorem I0.tokC {F : Fx} {L l : List Oper} {env : Env} {H : T0} {Q : Env → T0 → Prop} (o n e sz : Nat) {cs cs' : List A} {el m : Nat} {rows : List Row} {H1 H2 : T0} (ho : nth H o = some (.row cs el)) (h : nth cs n = some (.full rows)) (hp : At H (.tok e sz) = some (m, H1)) (hcs : G16 cs n [.osl m rows] = some cs') (hH : Pm H1 o (.row cs' el) = some H2)
    (k : I0 F L l env H2 Q) : I0 F L l env H Q := by
  intro fr M G w a Qw hK hd hs hsi hq
  obtain ⟨rfl, rfl⟩ := Zl hp
  have e1 := S1h hcs
  have e2 := Cw hH
  subst e1
  subst e2
  rw [F3] at ho h
  have hol : o < H.length := (List.getElem?_eq_some_iff.1 ho).1
  have hnl : n < cs.length := (List.getElem?_eq_some_iff.1 h).1
  obtain ⟨b, vs, g1, g2, g3, g4, g5, g6⟩ := hs.hrel.obj o _ ho
  have hvn : vs[n]? = some vs[n] := Array.getElem?_eq_getElem (by omega)
  have hr := g5 n _ _ h hvn
  generalize hv : vs[n] = v at hr hvn
  cases hr
  rename_i hf hrd
  obtain ⟨t1, t2⟩ := Lu (G := G) (w := w) hrd hf e sz
  have hsi' := hsi.newTok (Ext.refl J6 M w) (e := e) (sz := sz) (v' := v) fun b hb => absurd hb (t2 b)
  have hs' := hs.newTok (dst := none) (by simp) (Ext.refl J6 M w) hs.good (e := e) (sz := sz) (v' := v) (x := .junk) t1 (fun b hb => absurd hb (t2 b)) .junk
  have hgo : A7 G H.length v o = G o := R2 (Nat.ne_of_lt hol)
  have ho' : (H ++ [Ob.tok e sz])[o]? = some (.row cs el) := by rw [List.getElem?_append_left hol]; exact ho
  have hol' : o < (H ++ [Ob.tok e sz]).length := by simp; omega
  obtain ⟨b', vs', q1, q2, q3, q4, q5, q6⟩ := hs'.hrel.obj o _ ho'
  rw [hgo] at q1
  rw [g1] at q1
  simp at q1
  subst q1
  rw [g2] at q2
  simp at q2
  subst q2
  have hget := fun i => Aw cs n [.osl H.length rows] i (by simp; omega)
  refine k fr M (A7 G H.length v) w a Qw hK hd ⟨hs'.good, hs'.gl, ⟨fun i x hi => ?_, fun i i' x x' c hi hi' hx hx' => ?_, fun i hi => hs'.hrel.fresh i (by rw [Xl] at hi; exact hi)⟩, hs'.env, hs.size, hs.defers⟩ ?_ hq
  · rw [Z8 _ o _ i hol'] at hi
    split at hi
    · rename_i e; subst e
      simp only [Option.some.injEq] at hi
      subst hi
      refine ⟨b, vs, by rw [hgo]; exact g1, g2, by rw [Y10]; exact g3, g4, fun j y u hy hu => ?_, g6⟩
      rw [hget j] at hy
      split at hy
      · rename_i hj
        have : j = n := by simp at hj; omega
        subst this
        simp at hy
        subst hy
        rw [hvn] at hu
        obtain rfl := Option.some.inj hu
        exact .osl hrd X2
      · exact q5 j y u hy hu
    · exact hs'.hrel.obj i x hi
  · have key : ∀ (n' : Nat) z d, (Ha (H ++ [Ob.tok e sz]) o (Ob.row (Mg cs n [.osl H.length rows]) el))[n']? = some z → blk z (A7 G H.length v n') = some d → ∃ y, (H ++ [Ob.tok e sz])[n']? = some y ∧ blk y (A7 G H.length v n') = some d := by
      intro n' z d hn hz
      rw [Z8 _ o _ n' hol'] at hn
      by_cases e : n' = o
      · rw [if_pos e] at hn
        subst e
        obtain rfl := Option.some.inj hn
        exact ⟨_, ho', by rw [hgo, g1] at hz ⊢; exact hz⟩
      · rw [if_neg e] at hn
        exact ⟨z, hn, hz⟩
    obtain ⟨y, hy, hby⟩ := key i x c hi hx
    obtain ⟨y', hy', hby'⟩ := key i' x' c hi' hx'
    exact hs'.hrel.apart i i' y y' c hy hy' hby hby'
  · refine ⟨hsi'.ext, fun c ⟨i, x, hi, hx⟩ => ?_, by rw [Xl]; exact hsi'.len, hsi'.keep, fun i x y hi ht hy => ?_⟩
    · rw [Z8 _ o _ i hol'] at hi
      by_cases e : i = o
      · rw [if_pos e] at hi
        subst e
        obtain rfl := Option.some.inj hi
        exact hsi'.own c ⟨i, _, ho', by rw [hgo, g1] at hx ⊢; exact hx⟩
      · rw [if_neg e] at hi
        exact hsi'.own c ⟨i, x, hi, hx⟩
    · rw [Z8 _ o _ i hol'] at hy
      by_cases e : i = o
      · rw [if_pos e] at hy
        obtain rfl := Option.some.inj hy
        rfl
      · rw [if_neg e] at hy
        exact hsi'.kind i x y hi ht hy
end Go.Am

namespace Go.Am
theorem C1y {P : Program} {o : Oper} {a : Act} {w : World} {K : Act → World → Prop} {Q Q' : Exit → Act → World → Prop} (h1 : ∀ c a w, Q (.panic c) a w → Q' (.panic c) a w) (h2 : LetsOut Q → LetsOut Q')
    (h : o.wp P a w K Q) : o.wp P a w K Q' := by
  unfold Oper.wp at *
  generalize (execOp a.eval o).run P w = r at *
  cases r with
  | ok n w' =>
    cases n <;> simp only [Oper.upon] at h ⊢ <;>
      first
        | exact h
        | exact Calls.mono h (fun e w'' he => by cases e <;> first | exact he | exact h1 _ _ _ he | exact h2 he)
  | halt x w' => cases x <;> simp only [Oper.upon] at h ⊢ <;> first | exact h | exact h1 _ _ _ h
def U0 (F : Fx) (L : List Oper) (m : Nat) (listed : Array Bool) (env : Env) (H : T0) (Q : Po) : Prop :=
  ∀ fr M G w a, fr.H0.length = F.K → St F.C F.N M G w env H a → M3 fr M G w H → wpAny F.C.P .any L.toArray (Fin F fr Q) m listed a w
theorem U0.nil {F : Fx} {L : List Oper} {m : Nat} {listed : Array Bool} {env : Env} {H : T0} {Q : Po} (hr : Region.ready .any L.toArray listed = []) (h : Q .normal env H) : U0 F L m listed env H Q := by
  intro fr M G w a hK hs hsi
  have hq : Fin F fr Q .normal a w := ⟨.normal, env, H, M, G, rfl, h, hs, hsi⟩
  cases m with
  | zero => exact ⟨hr, hq⟩
  | succ m => exact ⟨fun _ => hq, fun i hi => by rw [hr] at hi; cases hi⟩
def Z1h (F : Fx) (L : List Oper) (m : Nat) (listed : Array Bool) (env : Env) (H : T0) (Q : Po) : List Nat → Prop
  | [] => True
  | j :: r => (∃ o, nth L j = some o ∧ I0 F L [o] env H (fun e h => U0 F L m (listed.setIfInBounds j true) e h Q)) ∧ Z1h F L m listed env H Q r
theorem Z1h.get {F : Fx} {L : List Oper} {m : Nat} {listed : Array Bool} {env : Env} {H : T0} {Q : Po} : ∀ {js : List Nat}, Z1h F L m listed env H Q js → ∀ j ∈ js, ∃ o, nth L j = some o ∧ I0 F L [o] env H (fun e h => U0 F L m (listed.setIfInBounds j true) e h Q)
  | [], _, j, hj => by cases hj
  | i :: r, h, j, hj => by
    rcases List.mem_cons.1 hj with rfl | hj
    · exact h.1
    · exact Z1h.get h.2 j hj
theorem U0.step {F : Fx} {L : List Oper} {m : Nat} {listed : Array Bool} {env : Env} {H : T0} {Q : Po} (hd : L.all (Nl F.N) = true) {j0 : Nat} {js : List Nat} (hr : Region.ready .any L.toArray listed = j0 :: js) (h : Z1h F L m listed env H Q (j0 :: js)) : U0 F L (m + 1) listed env H Q := by
  intro fr M G w a hK hs hsi
  refine ⟨fun h0 => (by rw [hr] at h0; cases h0), fun i hi => ?_⟩
  rw [hr] at hi
  obtain ⟨o, ho, hop⟩ := h.get i hi
  rw [F3] at ho
  let Qw : Exit → Act → World → Prop := fun e a w => match e with
    | .normal => wpAny F.C.P .any L.toArray (Fin F fr Q) m (listed.setIfInBounds i true) a w
    | e => Fin F fr Q e a w
  have := hop fr M G w a Qw hK (fun o' ho' => by
    rw [List.mem_singleton] at ho'
    subst ho'
    exact List.all_eq_true.1 hd _ (List.mem_of_getElem? ho)) hs hsi (fun env' H' M' G' w' a' hq hs' hsi' => hq fr M' G' w' a' hK hs' hsi')
  simp only [wpList] at this
  unfold wpOp
  simp only [List.getElem?_toArray, ho]
  have hout : LetsOut Qw → LetsOut (Fin F fr Q) := fun ⟨a, w, h⟩ => ⟨a, w, h⟩
  split
  · rename_i hw
    rw [if_pos hw] at this
    rcases this with h1 | ⟨h1, h2⟩
    · exact .inl (C1y (fun c a w h => h) hout h1)
    · exact .inr ⟨h1, hout h2⟩
  · rename_i hw
    rw [if_neg hw] at this
    exact this
theorem AEx.drawE {F : Fx} (hC : B2 F.C) {id : Nat} {L : List Oper} {env : Env} {H : T0} {Q : Po} (h : U0 F L L.length (Array.replicate L.length false) env H Q) : AEx F (.region id L.toArray true) env H Q := by
  intro fr M G w act hK hs hsi
  refine wp_region_any hC.mixed ?_
  have hs' : St F.C F.N M G { w with drawn := w.drawn + 1 } env H act :=
    ⟨fun a v e => hs.good a v e, hs.gl.ext hs.hrel (S := J6) ⟨fun _ _ e => e, Nat.le_refl _, rfl, rfl, rfl, fun _ _ _ => rfl, fun _ _ e => .inl e⟩ (fun _ h => h.elim), hs.hrel.ext (S := J6) ⟨fun _ _ e => e, Nat.le_refl _, rfl, rfl, rfl, fun _ _ _ => rfl, fun _ _ e => .inl e⟩ (fun _ _ h => h), hs.env, hs.size, hs.defers⟩
  have hsi' : M3 fr M G { w with drawn := w.drawn + 1 } H := hsi.quiet ⟨fun _ _ e => e, Nat.le_refl _, rfl, rfl, rfl, fun _ _ _ => rfl, fun _ _ e => .inl e⟩
  have := h fr M G _ act hK hs' hsi'
  simpa using this
end Go.Am

namespace Go.Am
section
variable {P : Program} {M : Mem} {G : Nat → Value} {w : World}
end
theorem AG.bx {C : Cx} (hC : B2 C) {L l : List Oper} {o : Oper} {env : Env} {cnd : Cnd} {H : T0} {Q : Env → Cnd → Prop} {d : Option Nat} {W : Option Bool} {rs rs' : List Row} (hw : Ar L env cnd o = some W) (h : R11 C [] (noG o) env = some (d, rs)) (e : rs = rs') (hsd : holds W → Ol cnd (U11 o))
    (k : AG C L l (put env d (.full rs')) (Sj cnd d W) H Q) : AG C L (o :: l) env cnd H Q := by
  subst e
  exact .lift (by simpa [H6, noG] using (S11 h).2) hw hsd (fun _ => T11 hC h) k
end Go.Am

namespace Go.Am
def P2b (C : Cx) (L : List Oper) (o : Oper) (env : Env) : Option (Option Nat × Nat × Int × Int × Nat × D) :=
  match K1 L env o, o.op, H6 o with
  | some true, .makeSlice t lx cx, some d => match P2 C.T t, ev C.GL env lx, ev C.GL env cx with
    | some i, .d (.int .i64 n), .d (.int .i64 m) => match i.u with
      | .sl e => match P2 C.T e with
        | some j => match j.zero with
          | [z] => bif Nat.beq j.size 1 && Nat.ble 1 j.bytes then some (d, e, n, m, j.bytes, z) else none
          | _ => none
        | none => none
      | _ => none
    | _, _, _ => none
  | _, _, _ => none
theorem I0.mk {F : Fx} (hC : B2 F.C) {L l : List Oper} {o : Oper} {env : Env} {H H' : T0} {Q : Env → T0 → Prop} {d : Option Nat} {e p : Nat} {n m : Int} {bytes : Nat} {z : D} (h : P2b F.C L o env = some (d, e, n, m, bytes, z))
    (hnm : m = n) (h0 : 0 ≤ n ∧ n.toNat * bytes ≤ 140737488355328) {cs : List A} (hcs : cs = List.replicate n.toNat (.d z)) (hp : At H (.row cs e) = some (p, H')) (k : I0 F L l (put env d (.rsl p 0 n.toNat n.toNat)) H' Q) : I0 F L (o :: l) env H Q := by
  unfold P2b at h
  split at h
  · rename_i t lx cx d' hw ho hd
    split at h
    · rename_i i n' m' ht hlx hcx
      split at h
      · rename_i e' hu
        split at h
        · rename_i j he
          split at h
          · rename_i z' hz
            cases hb : Nat.beq j.size 1 && Nat.ble 1 j.bytes with
            | false => rw [hb] at h; cases h
            | true =>
              rw [hb] at h
              simp only [cond_true, Option.some.injEq, Prod.mk.injEq] at h
              obtain ⟨rfl, rfl, rfl, rfl, rfl, rfl⟩ := h
              simp only [Bool.and_eq_true] at hb
              have hs1 := Nat.eq_of_beq_eq_true hb.1
              have hb1 := Nat.le_of_ble_eq_true hb.2
              subst hnm
              subst hcs
              obtain ⟨rfl, rfl⟩ := Zl hp
              obtain ⟨hn0, hroom⟩ := h0
              obtain ⟨N, rfl⟩ : ∃ N : Nat, m' = N := ⟨m'.toNat, by omega⟩
              simp only [Int.toNat_natCast] at *
              have hNle : N ≤ 140737488355328 := Nat.le_trans (Nat.le_mul_of_pos_right N hb1) hroom
              refine Ja hw fun fr M G w a K Qw hK hdok hs hsi hk => ?_
              have hx1 := hs.eval lx
              have hx2 := hs.eval cx
              rw [hlx] at hx1
              rw [hcx] at hx2
              generalize hv1 : a.eval lx = v1 at hx1
              generalize hv2 : a.eval cx = v2 at hx2
              cases hx1; rename_i hx1; cases hx1
              cases hx2; rename_i hx2; cases hx2
              have hdd := Rj (hC.tok.facts ht) hu
              obtain ⟨j', q1, q2, q3, z1, q4, q5, q6, q7⟩ := (hC.tok.facts he).info
              have hzv : ∃ zv, z1.cells = #[zv] ∧ zB zv z' = true := by
                have hl : z1.cells.toList.length = 1 := by rw [q5, hz]; rfl
                have h1 : (0 : Nat) < z1.cells.size := by simp at hl; omega
                refine ⟨z1.cells[0], ?_, q6 0 _ _ (Array.getElem?_eq_getElem h1) (by rw [hz]; rfl)⟩
                apply Array.ext
                · simp at hl; simp [hl]
                · intro i h2 h3
                  simp at h3
                  subst h3
                  simp
              obtain ⟨zv, hzc, hzb⟩ := hzv
              have hbytes : ((j'.bytes : Int) * (N : Int)) ≤ 281474976710656 := by
                have : j.bytes * N ≤ 140737488355328 := by rw [Nat.mul_comm]; exact hroom
                have h2 : ((j.bytes * N : Nat) : Int) = (j.bytes : Int) * (N : Int) := by simp
                rw [q3]
                omega
              have hrun : (execOp a.eval o).run F.C.P w = .ok (.value (.slice (some ⟨w.heap.size, 0, none⟩) N N)) (w.alloc (.cells (madeCells z1.cells (N * j'.size)) e')) := by
                have := run_make (P := F.C.P) w t e' j' z1 hdd q1 q4 .i64 .i64 N N (by omega) (Int.le_refl _) hbytes (by omega)
                simp only [Int.toNat_natCast] at this
                unfold execOp
                simp only [ho, hv1, hv2, Sem.run_bind, this, Result.andThen_ok, Sem.run_pure]
              have hrel : Mn M G (List.replicate N (.d z')) (madeCells z1.cells (N * j'.size)) := by
                rw [q2, hs1, hzc, Nat.mul_one]
                have hget : ∀ (i : Nat) v, (madeCells #[zv] N)[i]? = some v → v = zv := fun i v hv => by
                  unfold madeCells at hv
                  rw [Array.getElem?_map] at hv
                  cases hr : (Array.range N)[i]? with
                  | none => rw [hr] at hv; cases hv
                  | some q => rw [hr] at hv; simp [Nat.mod_one] at hv; exact hv.symm
                refine ⟨by simp [madeCells], fun i v hv => ?_, fun i x v hx hv => ?_⟩
                · rw [hget i v hv]; exact (Xs hzb M).one
                · rw [hget i v hv]
                  rw [List.getElem?_replicate] at hx
                  split at hx
                  · cases hx; exact .d (Xs hzb M)
                  · cases hx
              have h1 := hs.newRow (dst := none) (by simp) hrel (elem := e')
              have h2 := M3.newRow hsi (cs := List.replicate N (.d z')) (vs := madeCells z1.cells (N * j'.size)) (elem := e')
              have h3 := h1.quiet (Q4 hdok) (x := .rsl H.length 0 N N) (v := .slice (some ⟨w.heap.size, 0, none⟩) N N) (.rsl X2 (Nat.le_refl _) (by unfold maxLen; omega)) h1.good (Ext.refl _ _ _)
              unfold Oper.wp
              rw [hrun]
              rw [← S3 hd] at k
              exact hk _ _ _ _ _ _ _ k h3 (h2.quiet (Ext.refl _ _ _))
          · cases h
        · cases h
      · cases h
    · cases h
  · cases h
def H1u (C : Cx) (L : List Oper) (o : Oper) (env : Env) (H : T0) : Option (Option Nat × List A × Nat) :=
  match K1 L env o, o.op, H6 o with
  | some true, .load t x, some d => match P2 C.T t, ev C.GL env x with
    | some i, .ref p off => bif i.u.agg then none else match nth H p with
      | some (.row cells _) => some (d, cells, off)
      | _ => none
    | _, _ => none
  | _, _, _ => none
theorem I0.ld {F : Fx} (hC : B2 F.C) {L l : List Oper} {o : Oper} {env : Env} {H : T0} {Q : Env → T0 → Prop} {d : Option Nat} {cells : List A} {off : Nat} {y : A} (h : H1u F.C L o env H = some (d, cells, off)) (hy : cells[off]? = some y)
    (k : I0 F L l (put env d y) H Q) : I0 F L (o :: l) env H Q := by
  unfold H1u at h
  split at h
  · rename_i t x d' hw ho hd
    split at h
    · rename_i i p off' ht hx
      cases hag : i.u.agg with
      | true => rw [hag] at h; cases h
      | false =>
        rw [hag] at h
        simp only [cond_false] at h
        split at h
        · rename_i cs e hn
          simp only [Option.some.injEq, Prod.mk.injEq] at h
          obtain ⟨rfl, rfl, rfl⟩ := h
          refine .op hC hw (x := y) (c := True) ?_ trivial (by rw [S3 hd]; exact k)
          have : Kh i (ev F.C.GL env x) H = some y := by
            rw [hx]
            simp only [Kh, hn, Px, hag, cond_false, F3, List.getElem?_drop, Nat.add_zero]
            exact hy
          simp [opA, ho, ht, this]
        · cases h
    · cases h
  · cases h
def Q2b (C : Cx) (L : List Oper) (o : Oper) (env : Env) (H : T0) : Option (Nat × Nat × List A × Nat × A) :=
  match K1 L env o, o.op, o.dst with
  | some true, .store t x y, none => match P2 C.T t, ev C.GL env x, Vh (ev C.GL env y) with
    | some i, .ref p off, some [v] => bif Nat.beq i.size 1 then (match nth H p with | some (.row cells e) => some (p, off, cells, e, v) | _ => none) else none
    | _, _, _ => none
  | _, _, _ => none
theorem I0.sx {F : Fx} (hC : B2 F.C) {L l : List Oper} {o : Oper} {env : Env} {H H' : T0} {Q : Env → T0 → Prop} {p off e : Nat} {cells cs' : List A} {v : A} (h : Q2b F.C L o env H = some (p, off, cells, e, v)) (hlt : off < cells.length) (hc : cs' = Mg cells off [v])
    (hH : Pm H p (.row cs' e) = some H') (k : I0 F L l env H' Q) : I0 F L (o :: l) env H Q := by
  unfold Q2b at h
  split at h
  · rename_i t x y hw ho hd
    split at h
    · rename_i i p' off' v' ht hx hxs
      cases hb : Nat.beq i.size 1 with
      | false => rw [hb] at h; cases h
      | true =>
        rw [hb] at h
        simp only [cond_true] at h
        split at h
        · rename_i cs e' hn
          simp only [Option.some.injEq, Prod.mk.injEq] at h
          obtain ⟨rfl, rfl, rfl, rfl, rfl⟩ := h
          have h1 := Nat.eq_of_beq_eq_true hb
          have e2 := Cw hH
          subst e2
          subst hc
          have hst : R1h i (ev F.C.GL env x) (ev F.C.GL env y) H = some (p', Mg cs off' [v'], e') := by
            unfold R1h
            rw [hx, hxs]
            have : (Nat.beq [v'].length i.size && Nat.ble (off' + i.size) cs.length) = true := by
              rw [h1, Bool.and_eq_true]
              exact ⟨rfl, Nat.ble_eq_true_of_le hlt⟩
            simp only [hn, this, cond_true]
          refine .store hC hw ho ht hst ?_
          rw [hd]
          exact k
        · cases h
    · cases h
  · cases h
theorem K1f {α : Type} (f : α → D) (k : Nat) : ∀ l : List α, B3 k (l.map fun x => A.d (f x)) = true
  | [] => rfl
  | _ :: r => K1f f k r
end Go.Am

namespace Go.Am
open Go.ChangeShapes
def Oo (W : World) : Mem := fun a => if a.spot = none then W.cell? a else none
theorem T28 (W : World) : H8 (Oo W) W := by
  intro a v h
  unfold Oo at h
  split at h
  · rename_i hs; exact .inl ⟨hs, h⟩
  · cases h
def X1m (M : Mem) (ds : List D) (cs : List Value) : Prop := ds.length = cs.length ∧ ∀ (i : Nat) x v, ds[i]? = some x → cs[i]? = some v → O2 M x v
structure K1w {H : Type} (μ : DataW H → Nat) : Prop where
  lit : ∀ l, 1 ≤ μ (.lit l)
  str : ∀ s, s.length + 1 ≤ μ (.lit (.string s))
  nil : 1 ≤ μ .nil
  sl : ∀ es sp, (es.map μ).sum + 1 ≤ μ (.slice es sp)
  agg : ∀ ps, (ps.map μ).sum + 1 ≤ μ (.agg ps)
def Rd {H : Type} (enc : TypeId × Value → H) (P : Program) (W : World) (μ : DataW H → Nat) (fuel : Nat) (t : TypeId) {α : Type} (f : α → Row) (bk : α → Nat) : Prop :=
  ∀ cs d ps, DataW.trod enc P W 0 (fun _ => true) true fuel t cs = some (d, ps) → ∃ x : α, X1m (Oo W) (f x) cs ∧ bk x ≤ μ d
section
variable {H : Type} {enc : TypeId × Value → H} {P : Program} {W : World} {μ : DataW H → Nat} {fuel : Nat} {t : TypeId}
theorem Rd.zero {α : Type} {f : α → Row} {bk : α → Nat} : Rd enc P W μ 0 t f bk := fun cs d ps h => by simp [DataW.trod] at h
theorem A1i {M : Mem} {x : D} {v : Value} (h : O2 M x v) : X1m M [x] [v] := by
  refine ⟨rfl, fun i y u hy hu => ?_⟩
  cases i with
  | zero => simp at hy hu; subst hy; subst hu; exact h
  | succ i => simp at hy
theorem Rd.bool (hμ : K1w μ) (ht : P.underlying t = some .bool) : Rd enc P W μ fuel t (fun b : Bool => [D.bool b]) (fun _ => 1) := by
  cases fuel with
  | zero => exact .zero
  | succ n =>
    intro cs d ps h
    unfold DataW.trod at h
    rw [ht] at h
    split at h <;> first | (rename_i heq; cases heq; done) | skip
    all_goals first | (cases h; done) | skip
    rename_i b heq
    simp only [Option.some.injEq, Prod.mk.injEq] at h
    obtain ⟨rfl, rfl⟩ := h
    exact ⟨b, A1i .bool, hμ.lit _⟩
theorem Rd.int (hμ : K1w μ) {k : IntKind} (ht : P.underlying t = some (.int k)) : Rd enc P W μ fuel t (fun n : Int => [D.int k n]) (fun _ => 1) := by
  cases fuel with
  | zero => exact .zero
  | succ n =>
    intro cs d ps h
    unfold DataW.trod at h
    rw [ht] at h
    split at h <;> first | (rename_i heq; cases heq; done) | skip
    all_goals first | (cases h; done) | skip
    rename_i k1 k' m heq
    cases heq
    split at h
    · rename_i hc
      simp only [Option.some.injEq, Prod.mk.injEq] at h
      obtain ⟨rfl, rfl⟩ := h
      obtain ⟨rfl, hwf⟩ := hc
      refine ⟨m, A1i (.int ?_), hμ.lit _⟩
      simpa [Lit.wf, InK] using hwf
    · cases h
theorem Rd.str (hμ : K1w μ) (ht : P.underlying t = some .string) : Rd enc P W μ fuel t (fun s : Str => [D.str s]) (fun s => s.length + 1) := by
  cases fuel with
  | zero => exact .zero
  | succ n =>
    intro cs d ps h
    unfold DataW.trod at h
    rw [ht] at h
    split at h <;> first | (rename_i heq; cases heq; done) | skip
    all_goals first | (cases h; done) | skip
    rename_i s heq
    split at h
    · rename_i hc
      simp only [Option.some.injEq, Prod.mk.injEq] at h
      obtain ⟨rfl, rfl⟩ := h
      refine ⟨s.data.toList, A1i ?_, hμ.str _⟩
      have : s = ⟨s.data.toList.toArray⟩ := by simp
      rw [this]
      exact .str (by simpa using hc)
    · cases h
theorem R2b {α β : Type} {f : α → Nat} {g : β → Nat} : ∀ {l : List α} {m : List β}, l.length = m.length → (∀ (i : Nat) x y, l[i]? = some x → m[i]? = some y → f x ≤ g y) → (l.map f).sum ≤ (m.map g).sum
  | [], [], _, _ => Nat.le_refl _
  | x :: l, y :: m, hl, h => by
    have h0 := h 0 x y rfl rfl
    have ih := R2b (l := l) (m := m) (by simpa using hl) (fun i a b ha hb => h (i + 1) a b (by simpa using ha) (by simpa using hb))
    simp only [List.map_cons, List.sum_cons]
    omega
  | [], _ :: _, hl, _ => by simp at hl
  | _ :: _, [], hl, _ => by simp at hl
theorem V1j {W : World} {a : Addr} {n : Nat} {cs : List Value} (h : W.cells? 0 a n = some cs) : cs.length = n ∧ ∀ (j : Nat) v, cs[j]? = some v → W.cell? (a.add j) = some v := by
  unfold World.cells? at h
  rw [if_pos (Nat.zero_le _)] at h
  have key : ∀ (l : List Nat) (cs : List Value), l.mapM (fun i => W.cell? (a.add i)) = some cs → cs.length = l.length ∧ ∀ (j : Nat) v, cs[j]? = some v → ∃ i, l[j]? = some i ∧ W.cell? (a.add i) = some v := by
    intro l
    induction l with
    | nil => intro cs h; simp at h; subst h; exact ⟨rfl, fun j v h => by simp at h⟩
    | cons i l ih =>
      intro cs h
      rw [List.mapM_cons] at h
      simp only [bind, Option.bind_eq_some_iff, pure, Option.some.injEq] at h
      obtain ⟨v, hv, vs, hvs, rfl⟩ := h
      obtain ⟨h1, h2⟩ := ih vs hvs
      refine ⟨by simp [h1], fun j u hu => ?_⟩
      cases j with
      | zero => simp at hu; subst hu; exact ⟨i, rfl, hv⟩
      | succ j => simpa using h2 j u (by simpa using hu)
  obtain ⟨h1, h2⟩ := key _ _ h
  refine ⟨by simpa using h1, fun j v hv => ?_⟩
  obtain ⟨i, hi, hc⟩ := h2 j v hv
  have hj : j < n := by have := (List.getElem?_eq_some_iff.1 hv).1; simp at h1; omega
  rw [List.getElem?_range hj] at hi
  cases hi
  exact hc
theorem W1j {W : World} {a : Addr} {v : Value} (h : W.cell? a = some v) : Oo W a = some v ∧ a.spot = none := by
  have hs : a.spot = none := by
    unfold World.cell? at h
    split at h
    · split at h
      · cases h
      · rename_i hs; simpa using hs
    · cases h
  exact ⟨by unfold Oo; rw [if_pos hs]; exact h, hs⟩
theorem Rd.sl (hμ : K1w μ) {e sz : Nat} {α : Type} [Inhabited α] {f : α → Row} {bk : α → Nat} (ht : P.underlying t = some (.slice e)) (hP : P.cellsOf e = sz) (hpos : 1 ≤ sz) (hsz : ∀ x, (f x).length = sz) (he : ∀ n, n < fuel → Rd enc P W μ n e f bk) :
    Rd enc P W μ fuel t (fun l : List α => [D.sl (l.map f)]) (fun l => (l.map bk).sum + 1) := by
  intro cs d ps h
  rcases DataW.trod_slice ht h with ⟨rfl, hx⟩ | ⟨a, len, cap, elems, rest, n, hn, rfl, hx, _, hlc, hcm, hlen, hel, hsp, _⟩
  · cases hx
    exact ⟨[], A1i .slnil, hμ.nil⟩
  · have h1 : ∀ i : _root_.Fin len, ∃ x : α, ∃ ci di, W.cells? 0 (a.add (i.val * sz)) sz = some ci ∧ elems[i.val]? = some di ∧ X1m (Oo W) (f x) ci ∧ bk x ≤ μ di.1 := by
      intro i
      have := hel i.val i.isLt
      have hlt : i.val < elems.length := by omega
      rw [List.getElem?_eq_getElem hlt, hP] at this
      obtain ⟨ci, h2, h3⟩ := Option.bind_eq_some_iff.1 this
      obtain ⟨x, h4, h5⟩ := he n (by omega) ci _ _ h3
      exact ⟨x, ci, _, h2, List.getElem?_eq_getElem hlt, h4, h5⟩
    let g : _root_.Fin len → α := fun i => Classical.choose (h1 i)
    have hg : ∀ i : _root_.Fin len, ∃ ci di, W.cells? 0 (a.add (i.val * sz)) sz = some ci ∧ elems[i.val]? = some di ∧ X1m (Oo W) (f (g i)) ci ∧ bk (g i) ≤ μ di.1 := fun i => Classical.choose_spec (h1 i)
    have hget : ∀ (i : Nat) x, (List.ofFn g)[i]? = some x → ∃ h : i < len, x = g ⟨i, h⟩ := fun i x hx => by
      rw [List.getElem?_ofFn] at hx
      split at hx
      · rename_i h; exact ⟨h, by cases hx; rfl⟩
      · cases hx
    cases hx
    refine ⟨List.ofFn g, A1i (.sl sz (fun i j => (W.cell? (a.add (i * sz + j))).getD undef) (by simp) hlc hcm ?_ ?_ ?_ ?_), ?_⟩
    · by_cases h0 : cap = 0
      · exact .inl h0
      · refine .inr ?_
        have hc0 : ∃ ci, W.cells? 0 (a.add (0 * sz)) sz = some ci := by
          by_cases hl0 : 0 < len
          · obtain ⟨ci, di, h2, _⟩ := hg ⟨0, hl0⟩
            exact ⟨ci, h2⟩
          · have hl0' : len = 0 := by omega
            obtain ⟨h2, h3⟩ := hsp rfl
            have h4 := h3 0 (by omega)
            have hlt : 0 < rest.length := by omega
            rw [List.getElem?_eq_getElem hlt, hP, hl0'] at h4
            obtain ⟨ci, h5, _⟩ := Option.bind_eq_some_iff.1 h4
            exact ⟨ci, by simpa using h5⟩
        obtain ⟨ci, hci⟩ := hc0
        obtain ⟨h2, h3⟩ := V1j hci
        have h4 : ci[0]? = some ci[0] := List.getElem?_eq_getElem (by omega)
        have := (W1j (h3 0 _ h4)).2
        simpa [Addr.add] using this
    · intro i r hr
      rw [List.getElem?_map] at hr
      cases hx : (List.ofFn g)[i]? with
      | none => rw [hx] at hr; cases hr
      | some x => rw [hx] at hr; cases hr; exact hsz x
    · intro i j r x hr hx
      rw [List.getElem?_map] at hr
      cases hy : (List.ofFn g)[i]? with
      | none => rw [hy] at hr; cases hr
      | some y =>
        rw [hy] at hr; cases hr
        obtain ⟨hi, rfl⟩ := hget i y hy
        obtain ⟨ci, di, h2, h3, ⟨h4, h5⟩, h6⟩ := hg ⟨i, hi⟩
        obtain ⟨h7, h8⟩ := V1j h2
        have hj : j < ci.length := by rw [← h4]; exact (List.getElem?_eq_some_iff.1 hx).1
        have h9 := h8 j _ (List.getElem?_eq_getElem hj)
        rw [Xv] at h9
        rw [(W1j h9).1, h9]
        rfl
    · intro i j r x hr hx
      rw [List.getElem?_map] at hr
      cases hy : (List.ofFn g)[i]? with
      | none => rw [hy] at hr; cases hr
      | some y =>
        rw [hy] at hr; cases hr
        obtain ⟨hi, rfl⟩ := hget i y hy
        obtain ⟨ci, di, h2, h3, ⟨h4, h5⟩, h6⟩ := hg ⟨i, hi⟩
        obtain ⟨h7, h8⟩ := V1j h2
        have hj : j < ci.length := by rw [← h4]; exact (List.getElem?_eq_some_iff.1 hx).1
        have h9 := h8 j _ (List.getElem?_eq_getElem hj)
        rw [Xv] at h9
        rw [h9]
        exact h5 j x _ hx (List.getElem?_eq_getElem hj)
    · refine Nat.le_trans ?_ (hμ.sl _ _)
      rw [List.map_map]
      refine Nat.succ_le_succ (R2b (by simp [hlen]) fun i x y hx hy => ?_)
      obtain ⟨hi, rfl⟩ := hget i x hx
      obtain ⟨ci, di, h2, h3, h4, h6⟩ := hg ⟨i, hi⟩
      simp only at h3
      rw [h3] at hy
      cases hy
      exact h6
def FRd {H : Type} (enc : TypeId × Value → H) (P : Program) (W : World) (μ : DataW H → Nat) (fuel : Nat) (fs : List Field) (off : Nat) {α : Type} (f : α → Row) (bk : α → Nat) : Prop :=
  ∀ (cs : List Value) (xs : List (DataW H × List MemPlace)), xs.length = fs.length → (∀ (i : Nat) (g : Field), fs[i]? = some g → DataW.trod enc P W 0 (fun _ => true) true fuel g.type ((cs.drop g.offset).take (P.cellsOf g.type)) = xs[i]?) → ∃ x : α, (∀ (i : Nat) y v, (f x)[i]? = some y → cs[off + i]? = some v → O2 (Oo W) y v) ∧ bk x ≤ (xs.map fun y => μ y.1).sum
theorem FRd.nil {off : Nat} : FRd enc P W μ fuel [] off (fun _ : Unit => []) (fun _ => 0) := by
  intro cs xs hl _
  obtain rfl := List.eq_nil_of_length_eq_zero hl
  exact ⟨(), fun i y v h => by simp at h, Nat.le_refl _⟩
theorem FRd.cons {α β : Type} {f : α → Row} {g : β → Row} {bk : α → Nat} {bk' : β → Nat} {fs : List Field} {fd : Field} {off sz : Nat} (h1 : Rd enc P W μ fuel fd.type f bk) (ho : fd.offset = off) (hP : P.cellsOf fd.type = sz) (hsz : ∀ x, (f x).length = sz) (h2 : FRd enc P W μ fuel fs (off + sz) g bk') :
    FRd enc P W μ fuel (fd :: fs) off (fun p : α × β => f p.1 ++ g p.2) (fun p => bk p.1 + bk' p.2) := by
  intro cs xs hl h
  cases xs with
  | nil => simp at hl
  | cons y ys =>
  obtain ⟨d, ps⟩ := y
  obtain ⟨x, ⟨e1, e2⟩, e3⟩ := h1 _ _ _ (h 0 fd rfl)
  obtain ⟨x', e4, e5⟩ := h2 cs ys (by simpa using hl) (fun i g hg => by simpa using h (i + 1) g (by simpa using hg))
  refine ⟨(x, x'), fun i z v hz hv => ?_, by simp only [List.map_cons, List.sum_cons]; omega⟩
  rcases Nat.lt_or_ge i sz with hi | hi
  · rw [List.getElem?_append_left (by rw [hsz]; exact hi)] at hz
    refine e2 i z v hz ?_
    rw [ho, hP, List.getElem?_take, if_pos hi, List.getElem?_drop]
    exact hv
  · rw [List.getElem?_append_right (by rw [hsz]; exact hi), hsz] at hz
    refine e4 (i - sz) z v hz ?_
    rw [show off + sz + (i - sz) = off + i by omega]
    exact hv
theorem Rd.st (hμ : K1w μ) {fs : Array Field} {l : List Field} {α β : Type} {f : α → Row} {g : β → Row} {bk : α → Nat} {bk' : β → Nat} {sz : Nat} (ht : P.underlying t = some (.struct fs)) (hl : fs.toList = l) (hP : P.cellsOf t = sz) (hsz : ∀ x, (g x).length = sz)
    (h : ∀ n, n < fuel → FRd enc P W μ n l 0 f bk) (mk : α → β) (hf : ∀ x, f x = g (mk x)) (hb : ∀ x, bk' (mk x) ≤ bk x + 1) : Rd enc P W μ fuel t g bk' := by
  intro cs d ps hd
  obtain ⟨xs, n, hn, hx, hlen, hxl, hxs⟩ := DataW.trod_struct ht hd
  cases hx
  obtain ⟨x, h3, h4⟩ := h n (by omega) cs xs (by rw [hxl, ← hl]; simp) (fun i g hg => hxs i g (by rw [← hl] at hg; simpa using hg))
  refine ⟨mk x, ⟨by rw [hsz, hlen, hP], fun i y v hy hv => h3 i y v (by rw [hf]; exact hy) (by simpa using hv)⟩, ?_⟩
  have := hμ.agg (xs.map (·.1))
  rw [List.map_map] at this
  have h5 := hb x
  have h6 : (xs.map fun y => μ y.1).sum = (xs.map (μ ∘ fun x => x.fst)).sum := rfl
  omega
end
end Go.Am

namespace Go.Am
open Go.ChangeShapes
theorem L1f {α β : Type} {f g : α → Option β} : ∀ {l : List α} {r : List β}, l.mapM f = some r → (∀ x ∈ l, ∀ y ∈ r, f x = some y → g x = some y) → l.mapM g = some r
  | [], r, h, _ => by simpa using h
  | x :: l, r, h, hfg => by
    rw [List.mapM_cons] at h ⊢
    simp only [bind, Option.bind_eq_some_iff, pure, Option.some.injEq] at h ⊢
    obtain ⟨y, hy, ys, hys, rfl⟩ := h
    exact ⟨y, hfg x (by simp) y (by simp) hy, ys, L1f hys (fun x hx y hy' => hfg x (by simp [hx]) y (by simp [hy'])), rfl⟩
theorem B1i {α : Type} (l : List α) : (List.range l.length).mapM (fun i => l[i]?) = some l := by
  have key : ∀ (m : List α) (k : Nat), (∀ j, m[j]? = l[k + j]?) → (List.range' k m.length).mapM (fun i => l[i]?) = some m := by
    intro m
    induction m with
    | nil => intro k _; rfl
    | cons x m ih =>
      intro k h
      rw [List.length_cons, List.range'_succ, List.mapM_cons]
      have h0 := h 0
      simp at h0
      have := ih (k + 1) (fun j => by have := h (j + 1); simp at this; rw [this]; congr 1; omega)
      simp only [bind, Option.bind_eq_some_iff, pure, Option.some.injEq]
      exact ⟨x, h0.symm, m, this, rfl⟩
  rw [List.range_eq_range']
  exact key l 0 (fun j => by simp)
def C20 (P : Program) (S : TypeId → Prop) : Prop :=
  ∀ t, S t → P.underlying t = some .bool ∨ (∃ k, P.underlying t = some (.int k)) ∨ P.underlying t = some .string ∨ (∃ e, P.underlying t = some (.slice e) ∧ S e ∧ 1 ≤ P.cellsOf e) ∨ ∃ fs, P.underlying t = some (.struct fs) ∧ ∀ f ∈ fs.toList, S f.type
section
variable {H : Type} {enc : TypeId × Value → H} {P : Program} {W W' : World} {S : TypeId → Prop}
theorem C25 (hb : ∀ b, b < W.heap.size → W'.heap[b]? = W.heap[b]?) {a : Addr} {n : Nat} {cs : List Value} (h : W.cells? 0 a n = some cs) : W'.cells? 0 a n = some cs := by
  unfold World.cells? at *
  rw [if_pos (Nat.zero_le _)] at *
  refine L1f h fun i _ y _ hy => ?_
  rw [U19 (hb _ (World.block_lt_of_cell? W _ hy))]
  exact hy
theorem S2b (hS : C20 P S) (hb : ∀ b, b < W.heap.size → W'.heap[b]? = W.heap[b]?) {sp : Nat → Bool} : ∀ (fuel : Nat) (t : TypeId) (cs : List Value) (x : DataW H × List MemPlace), S t → DataW.trod enc P W 0 (fun _ => true) true fuel t cs = some x →
    (∀ p ∈ x.2, sp p.block = true) → DataW.trod enc P W' 0 sp true fuel t cs = some x := by
  intro fuel
  induction fuel with
  | zero => intro t cs x _ h; simp [DataW.trod] at h
  | succ n ih =>
    intro t cs x hSt h hx
    rcases hS t hSt with ht | ⟨k, ht⟩ | ht | ⟨e, ht, hSe, hpos⟩ | ⟨fs, ht, hSf⟩
    · obtain ⟨b, rfl, rfl⟩ := DataW.trod_bool ht h
      unfold DataW.trod
      rw [ht]
    · have h2 := h
      obtain ⟨m, rfl, rfl, _⟩ := DataW.trod_int ht h
      unfold DataW.trod at h2 ⊢
      rw [ht] at h2 ⊢
      exact h2
    · have h2 := h
      obtain ⟨s, rfl, rfl, _⟩ := DataW.trod_string ht h
      unfold DataW.trod at h2 ⊢
      rw [ht] at h2 ⊢
      exact h2
    · have h0 := h
      rcases DataW.trod_slice ht h with ⟨rfl, rfl⟩ | ⟨a, len, cap, elems, rest, n', hn, rfl, rfl, _, hlc, hcm, hlen, hel, hsp, _⟩
      · unfold DataW.trod
        rw [ht]
        rfl
      · have hn' : n = n' := by omega
        subst hn'
        have hspare : cap - len = 0 ∨ sp a.block = true := by
          by_cases hc : cap = 0
          · exact .inl (by omega)
          · refine .inr (hx (.cell a.block a.off) ?_)
            simp only [List.mem_append]
            refine .inl (MemPlace.mem_row.2 ⟨0, ?_, ?_⟩)
            · have h1 := (hsp rfl).1
              have : 0 < elems.length + rest.length := by omega
              exact Nat.mul_pos this hpos
            · simp
        have hdo : ∀ (i : Nat) (y : DataW H × List MemPlace), (∀ p ∈ y.2, sp p.block = true) → (W.cells? 0 (a.add (i * P.cellsOf e)) (P.cellsOf e)).bind (DataW.trod enc P W 0 (fun _ => true) true n e) = some y →
            (W'.cells? 0 (a.add (i * P.cellsOf e)) (P.cellsOf e)).bind (DataW.trod enc P W' 0 sp true n e) = some y := fun i y hy h1 => by
          obtain ⟨ci, h2, h3⟩ := Option.bind_eq_some_iff.1 h1
          rw [C25 hb h2]
          exact ih e ci y hSe h3 hy
        have hmem : ∀ y ∈ elems ++ rest, ∀ p ∈ y.2, sp p.block = true := fun y hy p hp => hx p (by
          simp only [List.mem_append, List.mem_flatMap]
          exact .inr ⟨y, by simpa using hy, hp⟩)
        have m1 : (List.range len).mapM (fun i => (W'.cells? 0 (a.add (i * P.cellsOf e)) (P.cellsOf e)).bind (DataW.trod enc P W' 0 sp true n e)) = some elems := by
          have : (List.range len).mapM (fun i => elems[i]?) = some elems := by rw [← hlen]; exact B1i elems
          refine L1f this fun i hi y hy h1 => hdo i y (hmem y (by simp [hy])) ?_
          rw [hel i (List.mem_range.1 hi)]
          exact h1
        have m2 : (if sp a.block then (List.range (cap - len)).mapM (fun j => (W'.cells? 0 (a.add ((len + j) * P.cellsOf e)) (P.cellsOf e)).bind (DataW.trod enc P W' 0 sp true n e)) else some []) = some rest := by
          obtain ⟨h1, h2⟩ := hsp rfl
          rcases hspare with hc | hc
          · have : rest = [] := List.eq_nil_of_length_eq_zero (by omega)
            subst this
            rw [hc]
            split <;> rfl
          · rw [if_pos hc]
            have : (List.range (cap - len)).mapM (fun i => rest[i]?) = some rest := by rw [← h1]; exact B1i rest
            refine L1f this fun j hj y hy h3 => hdo (len + j) y (hmem y (by simp [hy])) ?_
            rw [h2 j (List.mem_range.1 hj)]
            exact h3
        unfold DataW.trod
        rw [ht]
        simp only [Nat.zero_le, hlc, hcm, and_self, if_true, m1, m2, Option.bind_some, Option.map_some]
    · obtain ⟨xs, n', hn, rfl, hl, hlen, hf⟩ := DataW.trod_struct ht h
      have hn' : n = n' := by omega
      subst hn'
      refine trod_struct_mk ht hl ?_
      have key : ∀ (l : List Field) (ys : List (DataW H × List MemPlace)), ys.length = l.length → (∀ f ∈ l, S f.type) → (∀ y ∈ ys, ∀ p ∈ y.2, sp p.block = true) →
          (∀ (i : Nat) f, l[i]? = some f → DataW.trod enc P W 0 (fun _ => true) true n f.type ((cs.drop f.offset).take (P.cellsOf f.type)) = ys[i]?) →
          l.mapM (fun f => DataW.trod enc P W' 0 sp true n f.type ((cs.drop f.offset).take (P.cellsOf f.type))) = some ys := by
        intro l
        induction l with
        | nil => intro ys h1 _ _ _; obtain rfl := List.eq_nil_of_length_eq_zero h1; rfl
        | cons f l ihl =>
          intro ys h1 h2 h3 h4
          cases ys with
          | nil => simp at h1
          | cons y ys =>
            rw [List.mapM_cons]
            simp only [bind, Option.bind_eq_some_iff, pure, Option.some.injEq]
            exact ⟨y, ih _ _ y (h2 f (by simp)) (by simpa using h4 0 f rfl) (h3 y (by simp)), ys, ihl ys (by simpa using h1) (fun g hg => h2 g (by simp [hg])) (fun z hz => h3 z (by simp [hz])) (fun i g hg => by simpa using h4 (i + 1) g (by simpa using hg)), rfl⟩
      refine key fs.toList xs (by simpa using hlen) hSf (fun y hy p hp => hx p (by simp only [List.mem_flatMap]; exact ⟨y, hy, hp⟩)) fun i f hi => hf i f (by simpa using hi)
theorem T2b {f : Func} {s : ChangeSpec} {apart fresh handsOn again : Bool} {args : Array Value} {v : Value} {ds gs : List (DataW H)} {before pa pv : List MemPlace}
    (hW : DataW.Whole enc P f.params.toList s.vars apart W args.toList ds gs before)
    (hres : ∀ (b : Nat) (sp : Nat → Bool) (hd : Bool), DataW.TrodAll enc P W' b sp hd f.resultTypes.toList (v.resultList f.resultTypes.size) (s.fn H (ds ++ gs)).results [])
    (hargs : ∀ sp : Nat → Bool, (∀ p ∈ before, sp p.block = true) → DataW.TrodAll enc P W' 0 sp true f.params.toList args.toList (s.fn H (ds ++ gs)).args pa)
    (hvars : ∀ sp : Nat → Bool, (∀ p ∈ before, sp p.block = true) → DataW.TrodVars enc P W' sp s.vars (s.fn H (ds ++ gs)).vars pv)
    (hps : before = pa ++ pv) (hk : W.keptBut W' (· ∈ before)) (hfz : ∀ a : Addr, a.block < W.heap.size → W'.frozen? a = W.frozen? a)
    (hok : ∀ (j : Nat) (t : TypeId) (r : Value), f.resultTypes[j]? = some t → (v.resultList f.resultTypes.size)[j]? = some r → Value.okWide P W' .any 0 t r) :
    s.post enc P f apart fresh handsOn again W args v W' := by
  have hlt := hW.lt
  have hold : ∀ p ∈ before, (fun b => decide (b < W.heap.size)) p.block = true := fun p hp => by simpa using hW.lt p hp
  refine ⟨ds, gs, before, [], pa, pv, hW, hres _ _ _, hargs _ hold, hvars _ hold, World.keptBut_mono (fun p hp => ⟨hp, ?_⟩) hk, fun _ => ?_⟩
  · rw [hps, List.mem_append] at hp
    exact Or.inr hp
  · obtain ⟨_, _, _, _, _, hz, hn⟩ := hW
    refine ⟨hok, _, _, ([] ++ pa) ++ pv, ⟨[] ++ pa, pv, trodAll_append (hargs _ (fun _ _ => rfl)) (hres _ _ _), hvars _ (fun _ _ => rfl), rfl, ?_, ?_⟩, ?_⟩
    · intro b off hp
      have hp' : MemPlace.cell b off ∈ before := by rw [hps]; simpa using hp
      rw [hfz _ (hlt _ hp')]
      exact hz b off hp'
    · intro ha
      have := hn ha
      rw [hps] at this
      simpa using this
    · intro p hp _
      rw [hps]
      simpa using hp
theorem U28 {may : MemPlace → Prop} (hb : ∀ b, b < W.heap.size → W'.heap[b]? = W.heap[b]?) (ho : W'.os = W.os) (hout : W'.output = W.output) : W.keptBut W' may := by
  refine ⟨ho, hout, fun i hi => ?_⟩
  rw [hb i hi]
  cases h : W.heap[i]? with
  | none => rfl
  | some o => cases o <;> simp
theorem U2b {a : Addr} (hb : W'.heap[a.block]? = W.heap[a.block]?) : W'.frozen? a = W.frozen? a := by
  unfold World.frozen?
  rw [hb]
theorem Y1m (hS : C20 P S) (hb : ∀ b, b < W.heap.size → W'.heap[b]? = W.heap[b]?) {sp : Nat → Bool} : ∀ {ts : List TypeId} {vs : List Value} {ds : List (DataW H)} {ps : List MemPlace}, (∀ t ∈ ts, S t) → DataW.TrodAll enc P W 0 (fun _ => true) true ts vs ds ps →
    (∀ p ∈ ps, sp p.block = true) → DataW.TrodAll enc P W' 0 sp true ts vs ds ps
  | [], [], [], _, _, h, _ => h
  | t :: ts, v :: vs, d :: ds, ps, hSt, ⟨p, q, ⟨n, h1⟩, h2, e⟩, hp => by
    subst e
    exact ⟨p, q, ⟨n, S2b hS hb n t _ _ (hSt t (by simp)) h1 (fun x hx => hp x (by simp [hx]))⟩, Y1m hS hb (fun t ht => hSt t (by simp [ht])) h2 (fun x hx => hp x (by simp [hx])), rfl⟩
theorem E2h {C : Cx} (hP : C.P = P) {f : FuncId} {fn : Func} {s : ChangeSpec} {args : Array Value} {ds gs : List (DataW H)} {before : List MemPlace} {xs : List A} {b : TypeId}
    (hc : S0 C f xs [] (fun r H' => H' = [] ∧ r = .d (.bool true))) (hlen : xs.length = args.size) (hargs : ∀ (i : Nat) x v, xs[i]? = some x → args[i]? = some v → B1 (Oo W) (fun _ => .tuple #[]) x v) (hgl : M1c C (Oo W) W)
    (hW : DataW.Whole enc P fn.params.toList s.vars false W args.toList ds gs before) (hv : s.vars = []) (hb : fn.resultTypes = #[b]) (hbt : P.underlying b = some .bool)
    (hsf : s.fn H ds = { results := [.lit (.bool true)], args := ds }) (hS : C20 P S) (hSt : ∀ t ∈ fn.params.toList, S t) :
    Calls P f args W fun e W' => ∃ v, e = .returned v ∧ s.post enc P fn false true false false W args v W' := by
  subst hP
  have hgs : gs = [] := by
    obtain ⟨p, q, _, h2, _⟩ := hW
    rw [hv] at h2
    cases gs with
    | nil => rfl
    | cons g gs => cases h2
  subst hgs
  have hH : Hj (Oo W) (fun _ => .tuple #[]) W [] := Hj.nil _ _
  refine (hc.2 (Oo W) (fun _ => .tuple #[]) W args (T28 W) hgl hH hlen hargs).mono fun e W' he => ?_
  obtain ⟨v, r, H', M', G', rfl, ⟨rfl, rfl⟩, hr, _, _, hext, _⟩ := he
  cases hr
  rename_i hr
  cases hr
  refine ⟨_, rfl, ?_⟩
  have hblk : ∀ k, k < W.heap.size → W'.heap[k]? = W.heap[k]? := fun k hk => hext.block k hk (fun ⟨o, x, h1, _⟩ => by simp at h1)
  have hW' := hW
  obtain ⟨p, q, hA, hV, hpq, hz, hn⟩ := hW'
  rw [hv] at hV
  have hq : q = [] := hV
  subst hq
  refine T2b hW (pa := p) (pv := []) ?_ ?_ ?_ hpq (U28 hblk hext.os hext.output) (fun a ha => U2b (hblk _ ha)) ?_
  · intro b' sp hd
    rw [List.append_nil, hsf, hb]
    exact trodAll_mk1 ⟨1, by unfold DataW.trod; rw [hbt]; rfl⟩
  · intro sp hsp
    rw [List.append_nil, hsf]
    exact Y1m hS hblk hSt hA (fun x hx => hsp x (by rw [hpq]; simp [hx]))
  · intro sp hsp
    rw [hv, List.append_nil, hsf]
    rfl
  · intro j t r h1 h2
    rw [hb] at h1 h2
    cases j with
    | succ j => simp at h1
    | zero =>
      simp at h1 h2
      subst h1
      have : r = .bool true := by simpa [Value.resultList] using h2.symm
      subst this
      exact Go.RowKit.okWide_bool_mk hbt _
theorem G2i {t : TypeId} {v : Value} {base : Nat} {xs : List D} {fs : Array Field} (hv : Value.okWide P W .any base t v) (ht : P.underlying t = some (.struct fs)) (h : X1m (Oo W) xs v.cells.toList) : B1 (Oo W) (fun _ => .tuple #[]) (.agg (xs.map .d)) v := by
  unfold Value.okWide at hv
  rw [ht] at hv
  obtain ⟨cs, rfl, _⟩ := hv
  obtain ⟨h1, h2⟩ := h
  have e : (Value.agg cs).cells = cs := rfl
  rw [e] at h1 h2
  refine .agg (by simpa using h1) (fun i v hv => ?_) fun i x v hx hv => ?_
  · have hlt : i < xs.length := by rw [h1]; simpa using (Array.getElem?_eq_some_iff.1 hv).1
    exact (h2 i _ v (List.getElem?_eq_getElem hlt) (by simpa using hv)).one
  · rw [List.getElem?_map] at hx
    cases hy : xs[i]? with
    | none => rw [hy] at hx; cases hx
    | some y => rw [hy] at hx; cases hx; exact .d (h2 i y v hy (by simpa using hv))
end
end Go.Am

namespace Go.Am
def Le {α : Type} (a b : Option α) : Prop := ∀ r, a = some r → b = some r
theorem Le.rfl {α : Type} {a : Option α} : Le a a := fun _ h => h
theorem Le.none {α : Type} {b : Option α} : Le (.none : Option α) b := fun _ h => by cases h
theorem Le.bind {α β : Type} {a a' : Option α} {f f' : α → Option β} (h : Le a a') (hf : ∀ x, Le (f x) (f' x)) : Le (a >>= f) (a' >>= f') := by
  intro r hr
  cases a with
  | none => cases hr
  | some x => rw [h x _root_.rfl]; exact hf x r hr
theorem Le.ite {α : Type} {c : Prop} [Decidable c] {a a' b b' : Option α} (h : Le a a') (h' : Le b b') : Le (if c then a else b) (if c then a' else b') := by
  split
  · exact h
  · exact h'
end Go.Am

namespace Go.Am
end Go.Am

namespace Go.Am
theorem N7.le {C : Cx} {o : Oper} {env : Env} {H : T0} {x y : A} (h : N7 C o env H x) (hle : ∀ M G v, B1 M G x v → B1 M G y v) : N7 C o env H y :=
  fun M G w a next Qw h1 h2 h3 h4 h5 => h M G w a next Qw h1 h2 h3 h4 fun v M' w' k1 k2 k3 => h5 v M' w' (hle M' G v k1) k2 k3
def I1u (C : Cx) (L : List Oper) (o : Oper) (env : Env) : Option (Option Nat × List Row) :=
  match K1 L env o, o.op with
  | some true, .convert s t x => match P2 C.T s, P2 C.T t, Zv (ev C.GL env x), H6 o with
    | some i, some k, some rows, some d => match i.u, k.u with
      | .sl e, .str => match P2 C.T e with
        | some j => match j.u with
          | .int .u8 => some (d, rows)
          | _ => none
        | none => none
      | _, _ => none
    | _, _, _, _ => none
  | _, _ => none
def K1c (xs : List Int) : List UInt8 := xs.map fun n => UInt8.ofNat n.toNat
theorem D1y {C : Cx} (hC : B2 C) {L : List Oper} {o : Oper} {env : Env} {H : T0} {d : Option Nat} {rows : List Row} (h : I1u C L o env = some (d, rows)) {xs : List Int} (hr : rows = xs.map fun n => [D.int .u8 n]) :
    K1 L env o = some true ∧ H6 o = some d ∧ N7 C o env H (.d (.str (K1c xs))) := by
  unfold I1u at h
  split at h
  · rename_i s t x hw ho
    split at h
    · rename_i i k rows' d' hs ht hx hd
      split at h
      · rename_i e hu hu'
        split at h
        · rename_i j he
          split at h
          · rename_i hju
            simp only [Option.some.injEq, Prod.mk.injEq] at h
            obtain ⟨rfl, rfl⟩ := h
            subst hr
            refine ⟨hw, hd, ?_⟩
            intro M G w a next Qw hρ hG hgl hH hkk
            rw [ho] at hρ
            have hxr := Wh hx (hρ x (by simp [Op.operands]))
            have us := Rj (hC.tok.facts hs) hu
            have ut := Qp (hC.tok.facts ht) hu'
            have ue := A1f (hC.tok.facts he) hju
            have key : ∃ b : ByteArray, (convert s t (a.eval x)).run C.P w = .ok (.string b) w ∧ b = ⟨(K1c xs).toArray⟩ ∧ xs.length ≤ maxLen := by
              generalize hxv : a.eval x = xv at hxr
              generalize hrw : (xs.map fun n => [D.int .u8 n]) = rws at hxr
              cases hxr with
              | slnil =>
                obtain rfl : xs = [] := List.map_eq_nil_iff.1 hrw
                exact ⟨_, run_convert_bytes_nil w s e us ue 0 0 t ut, rfl, Nat.zero_le _⟩
              | sl sz J1 hl hc hm hsp hz h1 h2 =>
                rename_i ad len cap
                subst hrw
                rw [List.length_map] at hl
                subst hl
                have hcell : ∀ i, i < xs.length → w.cell? (ad.add i) = some (.int .u8 (xs.getD i 0)) := fun i hi => by
                  have hri : (xs.map fun n => [D.int .u8 n])[i]? = some [D.int .u8 xs[i]] := by simp [hi]
                  have e1 := hz i _ hri
                  have m1 := h1 i 0 _ _ hri rfl
                  have m2 := h2 i 0 _ _ hri rfl
                  simp only [List.length_singleton] at e1
                  subst e1
                  rw [Nat.mul_one, Nat.add_zero] at m1
                  have m3 := hG.cell m1 m2
                  rw [m3]
                  generalize J1 i 0 = v at m2
                  cases m2
                  simp [List.getD, hi]
                have hload : (loadCells ad xs.length).run C.P w = .ok (xs.map (Value.int .u8)).toArray w := by
                  have := run_loadCells_list (P := C.P) w ad (xs.map (Value.int .u8)) (fun j v hj => by
                    have hjl : j < xs.length := by
                      rcases Nat.lt_or_ge j xs.length with h | h
                      · exact h
                      · simp [List.getElem?_eq_none (show (xs.map (Value.int .u8)).length ≤ j by simpa using h)] at hj
                    rw [hcell j hjl]
                    simp [List.getElem?_eq_getElem hjl] at hj
                    subst hj
                    simp [List.getD, List.getElem?_eq_getElem hjl])
                  simpa using this
                refine ⟨_, by rw [run_convert_bytes_string w s t e _ _ _ us ue ut, run_bytesToString w _ _ cap xs hload, foldl_push_bytes], ?_, Nat.le_trans hc hm⟩
                simp [K1c, ByteArray.empty, ByteArray.emptyWithCapacity]
                rfl
            obtain ⟨b, hb, rfl, hlen⟩ := key
            unfold Oper.wp execOp
            simp only [ho, Sem.run_bind, hb, Result.andThen_ok, Sem.run_pure, Oper.upon_value]
            exact hkk _ M w (.d (.str (by unfold K1c; rw [List.length_map]; exact hlen))) hG (Ext.refl _ _ _)
          · cases h
        · cases h
      · cases h
    · cases h
  · cases h
theorem I0.cs {F : Fx} (hC : B2 F.C) {L l : List Oper} {o : Oper} {env : Env} {H : T0} {Q : Env → T0 → Prop} {d : Option Nat} {rows : List Row} (h : I1u F.C L o env = some (d, rows)) {xs : List Int} (hr : rows = xs.map fun n => [D.int .u8 n]) (k : I0 F L l (put env d (.d (.str (K1c xs)))) H Q) : I0 F L (o :: l) env H Q := by
  obtain ⟨h1, h2, h3⟩ := D1y (H := H) hC h hr
  exact .yields h1 h3 (by rw [S3 h2]; exact k)
theorem AQ.cs {C : Cx} (hC : B2 C) {L l : List Oper} {o : Oper} {env : Env} {H : T0} {Q : Env → Prop} {d : Option Nat} {rows : List Row} (h : I1u C L o env = some (d, rows)) {xs : List Int} (hr : rows = xs.map fun n => [D.int .u8 n]) (k : AQ C L l (put env d (.d (.str (K1c xs)))) H Q) : AQ C L (o :: l) env H Q := by
  obtain ⟨h1, h2, h3⟩ := D1y (H := H) hC h hr
  exact .y _ h2 h1 h3 k
end Go.Am

namespace Go.Am
theorem okC {C : Cx} [h : Nonempty (B2 C)] : B2 C := h.elim id
section
variable {C : Cx} {N K : Nat} {L l : List Oper} {o : Oper} {env : Env} {H : T0}
theorem n' {Q : Env → T0 → Prop} (h : Q env H) : I0 ⟨C, N, K⟩ L [] env H Q := I0.nil h
theorem Qn' {Q : Env → Prop} (h : Q env) : AQ C L [] env H Q := h
theorem an' {cnd : Cnd} {R : Env → Cnd → Prop} (h : R env cnd) : AG C L [] env cnd H R := h
end
section
variable {C : Cx} [Nonempty (B2 C)] {N K : Nat} {L l : List Oper} {o : Oper} {env : Env} {H : T0}
theorem q' {Q : Env → T0 → Prop} {d : Option Nat} {x : A} (h : Om C L o env H = some (d, True, x)) (k : I0 ⟨C, N, K⟩ L l (put env d x) H Q) : I0 ⟨C, N, K⟩ L (o :: l) env H Q := I0.q okC h trivial k
theorem qc' {Q : Env → T0 → Prop} {d : Option Nat} {c : Prop} {x : A} (h : Om C L o env H = some (d, c, x)) (hc : c) (k : I0 ⟨C, N, K⟩ L l (put env d x) H Q) : I0 ⟨C, N, K⟩ L (o :: l) env H Q := I0.q okC h hc k
theorem qe' {Q : Env → T0 → Prop} {d : Option Nat} {c : Prop} {x y : A} (h : Om C L o env H = some (d, c, x)) (hc : c) (e : x = y) (k : I0 ⟨C, N, K⟩ L l (put env d y) H Q) : I0 ⟨C, N, K⟩ L (o :: l) env H Q := I0.qe okC h hc e k
theorem i' {Q : Env → T0 → Prop} {d : Option Nat} {rows : List (List D)} {n : Int} {sz : Nat} (h : R1b C L o env = some (d, rows, n, sz)) {k : Nat} {r : List D} (hn : n = k) (hk : rows[k]? = some r) (hsz : Nat.beq r.length sz = true)
    (kk : I0 ⟨C, N, K⟩ L l (put env d (.ptr r)) H Q) : I0 ⟨C, N, K⟩ L (o :: l) env H Q := I0.i okC h hn hk hsz kk
theorem x' {Q : Env → T0 → Prop} {d : Option Nat} {s : List UInt8} {n : Int} (h : G1f C L o env = some (d, s, n)) {k : Nat} {b : UInt8} (hn : n = k) (hk : s[k]? = some b) (kk : I0 ⟨C, N, K⟩ L l (put env d (.d (.int .u8 b.toNat))) H Q) : I0 ⟨C, N, K⟩ L (o :: l) env H Q := I0.x okC h hn hk kk
theorem Q' {Q : Env → Prop} {d : Option Nat} {x : A} (h : Om C L o env H = some (d, True, x)) (k : AQ C L l (put env d x) H Q) : AQ C L (o :: l) env H Q := AQ.q okC h trivial k
variable {cnd : Cnd} {R : Env → Cnd → Prop}
theorem a0' {d : Option Nat} {W : Option Bool} {x : A} (h : Z17 C L o env cnd H = some (d, W, True, True, x)) (k : AG C L l (put env d x) (Sj cnd d W) H R) : AG C L (o :: l) env cnd H R := AG.q okC h (fun _ => ⟨trivial, trivial⟩) k
theorem a1' {d : Option Nat} {w : Bool} {x : A} (h : Z17 C L o env cnd H = some (d, some w, (w = true ∧ True), True, x)) (k : AG C L l (put env d x) (Sj cnd d (some w)) H R) : AG C L (o :: l) env cnd H R := AG.q okC h (fun h => ⟨⟨h, trivial⟩, trivial⟩) k
theorem a2' {d : Option Nat} {w : Bool} {x : A} (h : Z17 C L o env cnd H = some (d, some w, (w = true ∧ w = true ∧ True), True, x)) (k : AG C L l (put env d x) (Sj cnd d (some w)) H R) : AG C L (o :: l) env cnd H R := AG.q okC h (fun h => ⟨⟨h, h, trivial⟩, trivial⟩) k
theorem ag' {d : Option Nat} {W : Option Bool} {S c : Prop} {x : A} (h : Z17 C L o env cnd H = some (d, W, S, c, x)) (hs : holds W → S ∧ c) (k : AG C L l (put env d x) (Sj cnd d W) H R) : AG C L (o :: l) env cnd H R := AG.q okC h hs k
theorem pa' {d : Option Nat} {t xa xb : Bool} (h : Y1h C L o env cnd = some ⟨d, none, True, t, (wb t true = true ∧ True), True, xa, xb⟩) (k : AG C L l (put env d (.d (.bool (bif t then xa else xb)))) (Sj cnd d none) H R) : AG C L (o :: l) env cnd H R :=
  AG.p okC h (fun _ => ⟨trivial, fun h => ⟨C2j h, trivial⟩, fun _ => trivial⟩) k
theorem po' {d : Option Nat} {t xa xb : Bool} (h : Y1h C L o env cnd = some ⟨d, none, True, t, True, (wb t false = true ∧ True), xa, xb⟩) (k : AG C L l (put env d (.d (.bool (bif t then xa else xb)))) (Sj cnd d none) H R) : AG C L (o :: l) env cnd H R :=
  AG.p okC h (fun _ => ⟨trivial, fun _ => trivial, fun h => ⟨B2j h, trivial⟩⟩) k
theorem pA' {d : Option Nat} {w t xa xb : Bool} (h : Y1h C L o env cnd = some ⟨d, some w, (w = true ∧ True), t, ((w && wb t true) = true ∧ True), True, xa, xb⟩) (k : AG C L l (put env d (.d (.bool (bif t then xa else xb)))) (Sj cnd d (some w)) H R) : AG C L (o :: l) env cnd H R :=
  AG.p okC h (fun hg => ⟨⟨hg, trivial⟩, fun h => ⟨W2i hg h, trivial⟩, fun _ => trivial⟩) k
theorem pO' {d : Option Nat} {w t xa xb : Bool} (h : Y1h C L o env cnd = some ⟨d, some w, (w = true ∧ True), t, True, ((w && wb t false) = true ∧ True), xa, xb⟩) (k : AG C L l (put env d (.d (.bool (bif t then xa else xb)))) (Sj cnd d (some w)) H R) : AG C L (o :: l) env cnd H R :=
  AG.p okC h (fun hg => ⟨⟨hg, trivial⟩, fun _ => trivial, fun h => ⟨V2i hg h, trivial⟩⟩) k
end
section
variable {F : Fx} {env : Env} {H : T0} {Q : Po}
theorem s' {id : Nat} {L : List Oper} {b : Code} (hg : I10 L = true) (hd : L.all (Nl F.N) = true) (h : I0 F L L env H (Zz (Then F b Q))) : AEx F (.seq (.region id L.toArray false) b) env H Q := .seq (.regionN hg hd h)
theorem sg' {id : Nat} {L : List Oper} {b : Code} (n : Nat) (hd : L.all (Nl F.N) = true) (h : AG F.C L (L.take n) env S28 H (fun e c => I0 F L (L.drop n) (R21 e c) H (Zz (Then F b Q)))) : AEx F (.seq (.region id L.toArray false) b) env H Q := .seq (.regionG n hd h)
theorem S' {a b : Code} (h : AEx F a env H (Then F b Q)) : AEx F (.seq a b) env H Q := .seq h
theorem R' {id : Nat} {L : List Oper} (hg : I10 L = true) (hd : L.all (Nl F.N) = true) (h : I0 F L L env H (Zz Q)) : AEx F (.region id L.toArray false) env H Q := .regionN hg hd h
theorem sk' (h : Q .normal env H) : AEx F .skip env H Q := .skip h
theorem bk' {id : Nat} {c : Code} (h : AEx F c env H (K1p id Q)) : AEx F (.block id c) env H Q := .block h
theorem re' (h : Q .ret env H) : AEx F .ret env H Q := .ret h
theorem ex' {id : Nat} (h : Q (.exit id) env H) : AEx F (.exit id) env H Q := .exit h
theorem ci' {c : Operand} {x y : Code} {t : Bool} {α : Type} {A' B' : Option α} {r : α} (hc : ev F.C.GL env c = .d (.bool t)) (hh : (if t = true then A' else B') = some r) (h1 : A' = some r → AEx F x env H Q) (h2 : B' = some r → AEx F y env H Q) : AEx F (.cond c x y) env H Q :=
  .cond hc (fun hb => h1 (T1 hb hh)) (fun hb => h2 (E2j hb hh))
end
def D1s (env : Env) : List (Nat × A) → List A
  | [] => []
  | p :: r => env p.1 :: D1s env r
def J1 : List (Nat × A) → List A
  | [] => []
  | p :: r => p.2 :: J1 r
def tkH : T0 → T0 → T0
  | [], _ => []
  | _ :: r, x :: H => x :: tkH r H
  | _ :: _, [] => []
def R1c (H : T0) : List Nat → List (Option Ob)
  | [] => []
  | p :: r => nth H p :: R1c H r
def Z1m (f : Nat → Nat) : T0 → List (Option Ob)
  | [] => []
  | x :: r => some (I16 f x) :: Z1m f r
theorem H2i {k : Nat} {env : Env} : ∀ {L : List (Nat × A)}, D1s env L = J1 L → B3 k (J1 L) = true → WkE k env L
  | [], _, _ => trivial
  | (t, x) :: r, h, hn => by
    simp only [D1s, J1, List.cons.injEq] at h
    simp only [J1, B3, Bool.and_eq_true] at hn
    exact ⟨⟨by rw [h.1]; exact .rfl, hn.1⟩, H2i h.2 hn.2⟩
theorem V28 {k : Nat} : ∀ {H H2 : T0}, tkH H2 H = H2 → H2.all (M28 k) = true → WkH k H H2
  | [], [], _, _ => trivial
  | _ :: _, [], _, _ => trivial
  | [], y :: r, h, _ => by simp [tkH] at h
  | x :: H, y :: r, h, hn => by
    simp only [tkH, List.cons.injEq] at h
    simp only [List.all_cons, Bool.and_eq_true] at hn
    obtain ⟨rfl, h⟩ := h
    exact ⟨WkO.same hn.1, V28 h hn.2⟩
def okB (K : Nat) (xs : List A) (H : T0) : Bool := B3 H.length xs && H.all (M28 H.length) && Nat.ble K H.length
theorem wk' {K : Nat} {env : Env} {H : T0} {L : List (Nat × A)} {H2 : T0} (h1 : D1s env L = J1 L) (h2 : tkH H2 H = H2) (h3 : okB K (J1 L) H2 = true) : Wk K env H L H2 := by
  simp only [okB, Bool.and_eq_true] at h3
  exact ⟨H2i h1 h3.1.1, V28 h2 h3.1.2, h3.2⟩
theorem lw' {F : Fx} {c : Code} {env : Env} {H : T0} {Q : Po} {L : List (Nat × A)} {H2 : T0} (k : Z0 F c (Zs L) H2 Q) (h1 : D1s env L = J1 L) (h2 : tkH H2 H = H2) (h3 : okB F.K (J1 L) H2 = true) : Z0 F c env H Q := .wk (wk' h1 h2 h3) k
theorem ew' {F : Fx} {c : Code} {env : Env} {H : T0} {Q : Po} {L : List (Nat × A)} {H2 : T0} (k : AEx F c (Zs L) H2 Q) (h1 : D1s env L = J1 L) (h2 : tkH H2 H = H2) (h3 : okB F.K (J1 L) H2 = true) : AEx F c env H Q := .wk (wk' h1 h2 h3) k
theorem fw' {F : Fx} {c : Code} {env : Env} {H : T0} {Q : Po} {L : List (Nat × A)} {H2 : T0} (k : Z0 F c (Zs L) H2 Q) (h1 : D1s env L = J1 L) (h2 : tkH H2 H = H2) (h3 : okB F.K (J1 L) H2 = true) : AEx F (.loop c) env H Q := .ofLoop (.wk (wk' h1 h2 h3) k)
abbrev Ret (H0 : T0) (a : A) : A → T0 → Prop := fun x H' => H' = H0 ∧ x = a
theorem rt' {F : Fx} {rs : List ResultVar} {x : A} {env : Env} {H H' : T0} (h1 : G1w F.C.T rs env H = some x) (h2 : tkH H' H = H') (h3 : okB F.K [x] H' = true) : M21 F rs (Ret H' x) .ret env H := by
  simp only [okB, B3, Bool.and_eq_true, Bool.and_true] at h3
  exact ⟨x, x, H', h1, .rfl, V28 h2 h3.1.2, h3.1.1, h3.2, rfl, rfl⟩
theorem rn' {F : Fx} {rs : List ResultVar} {x : A} {env : Env} {H H' : T0} (h1 : G1w F.C.T rs env H = some x) (h2 : tkH H' H = H') (h3 : okB F.K [x] H' = true) : M21 F rs (Ret H' x) .normal env H := by
  simp only [okB, B3, Bool.and_eq_true, Bool.and_true] at h3
  exact ⟨x, x, H', h1, .rfl, V28 h2 h3.1.2, h3.1.1, h3.2, rfl, rfl⟩
theorem I26 {f : Nat → Nat} {H : T0} : ∀ {idx : List Nat} {cH : T0}, R1c H idx = Z1m f cH → Q11 f H idx cH
  | [], [], _ => trivial
  | p :: ps, y :: ys, h => by
    simp only [R1c, Z1m, List.cons.injEq] at h
    exact ⟨h.1, I26 h.2⟩
  | [], _ :: _, h => by simp [R1c, Z1m] at h
  | _ :: _, [], h => by simp [R1c, Z1m] at h
theorem F2j {xs ys : List A} (h : xs = ys) : LeL xs ys := by subst h; exact .refl _
theorem g' {F : Fx} {L l : List Oper} {o : Oper} {env : Env} {H H' : T0} {Q : Env → T0 → Prop} {d : Option Nat} {g : FuncId} {xs : List A} {x y : A} (idx : List Nat) {cargs : List A} {cH cH' : T0}
    (hc : S0 F.C g cargs cH (Ret cH' x)) (h : Dk F.C L o env = some (d, g, xs)) (hx : Mr (Se idx H.length) cargs = xs) (hi : E1f idx H.length = true) (hm : R1c H idx = Z1m (Se idx H.length) cH)
    (hr : frc (ren (Se idx H.length) x) = some y) (hH : Qm (Fm H idx (Se idx H.length) (Ka idx cH) cH') = some H') (k : I0 F L l (put (fun t => dg (Ka idx cH) (env t)) d y) H' Q) : I0 F L (o :: l) env H Q :=
  .g idx h hc (F2j hx) hi (I26 hm) hr hH k
theorem c' {F : Fx} {L l : List Oper} {o : Oper} {env : Env} {H : T0} {Q : Env → T0 → Prop} {d : Option Nat} {f : FuncId} {xs : List A} {x : A} (hc : S0 F.C f xs [] (Ret [] x)) (h : Dk F.C L o env = some (d, f, xs)) (hn : B3 0 xs = true)
    (k : I0 F L l (put env d x) H Q) : I0 F L (o :: l) env H Q := .c h hn hc k
theorem Qc' {C : Cx} {L l : List Oper} {o : Oper} {env : Env} {H : T0} {Q : Env → Prop} {d : Option Nat} {f : FuncId} {xs : List A} {x : A} (hc : S0 C f xs [] (Ret [] x)) (h : Dk C L o env = some (d, f, xs)) (hn : B3 0 xs = true)
    (k : AQ C L l (put env d x) H Q) : AQ C L (o :: l) env H Q := .c h hn hc k
theorem bs' {α β : Type} {x : Option α} {f : α → Option β} {r : β} (h : (x >>= f) = some r) : ∃ a, x = some a ∧ f a = some r := bind_some h
theorem oi' {α : Type} {a b : α} (h : some a = some b) : a = b := Option.some.inj h
def Ct : Nat → List Prop
  | 0 => []
  | k + 1 => True :: Ct k
def V11 (C : Cx) (L : List Oper) (H : T0) : Nat → List Oper → Env → Option (List Oper × Env × List Prop)
  | 0, l, env => some (l, env, [])
  | _ + 1, [], _ => none
  | k + 1, o :: l, env => match Om C L o env H with
    | some (d, c, x) => match V11 C L H k l (put env d x) with
      | some (l', e', cs) => some (l', e', c :: cs)
      | none => none
    | none => none
theorem E1y {C : Cx} {L : List Oper} {H : T0} {k : Nat} {o : Oper} {l l' : List Oper} {env env' : Env} (h : V11 C L H (k + 1) (o :: l) env = some (l', env', Ct (k + 1))) :
    ∃ d x, Om C L o env H = some (d, True, x) ∧ V11 C L H k l (put env d x) = some (l', env', Ct k) := by
  rw [V11] at h
  split at h
  · rename_i d c x hs
    split at h
    · rename_i l2 e2 cs hr
      simp only [Option.some.injEq, Prod.mk.injEq, Ct, List.cons.injEq] at h
      obtain ⟨rfl, rfl, hc, rfl⟩ := h
      subst hc
      exact ⟨d, x, hs, hr⟩
    · cases h
  · cases h
theorem V21 {C : Cx} {L : List Oper} {H : T0} {k : Nat} {l' : List Oper} {env : Env} {r : Env × List Prop} (h : V11 C L H (k + 1) [] env = some (l', r)) : False := by rw [V11] at h; cases h
def L1w (C : Cx) (N : Nat) (L : List Oper) (H : T0) (k : Nat) (env : Env) : Option (List Oper × Env × List Prop) := bif I10 L && L.all (Nl N) then V11 C L H k L env else none
theorem P1p {C : Cx} {N : Nat} {L : List Oper} {H : T0} {env : Env} {k : Nat} {r : List Oper × Env × List Prop} (h : L1w C N L H k env = some r) : I10 L = true ∧ L.all (Nl N) = true ∧ V11 C L H k L env = some r := by
  unfold L1w at h
  cases hb : I10 L && L.all (Nl N) with
  | false => rw [hb] at h; cases h
  | true => rw [hb] at h; simp only [Bool.and_eq_true] at hb; exact ⟨hb.1, hb.2, h⟩
section
variable {C : Cx} [Nonempty (B2 C)] {N K : Nat} {L l l' : List Oper} {env env' : Env} {H : T0}
theorem o' (k : Nat) {Q : Env → T0 → Prop} (h : V11 C L H k l env = some (l', env', Ct k)) (n : I0 ⟨C, N, K⟩ L l' env' H Q) : I0 ⟨C, N, K⟩ L l env H Q := by
  induction k generalizing l env with
  | zero => rw [V11] at h; cases h; exact n
  | succ k ih => cases l with
    | nil => exact (V21 h).elim
    | cons o l =>
      obtain ⟨d, x, hs, hr⟩ := E1y h
      exact q' hs (ih hr)
theorem O' (k : Nat) {Q : Env → Prop} (h : V11 C L H k l env = some (l', env', Ct k)) (n : AQ C L l' env' H Q) : AQ C L l env H Q := by
  induction k generalizing l env with
  | zero => rw [V11] at h; cases h; exact n
  | succ k ih => cases l with
    | nil => exact (V21 h).elim
    | cons o l =>
      obtain ⟨d, x, hs, hr⟩ := E1y h
      exact Q' hs (ih hr)
theorem e' {Q : Env → T0 → Prop} (h : V11 C L H l.length l env = some ([], env', Ct l.length)) (n : Q env' H) : I0 ⟨C, N, K⟩ L l env H Q := o' _ h (n' n)
theorem E' {Q : Env → Prop} (h : V11 C L H l.length l env = some ([], env', Ct l.length)) (n : Q env') : AQ C L l env H Q := O' _ h (Qn' n)
theorem p' (k : Nat) {id : Nat} {b : Code} {Q : Po} (h : L1w C N L H k env = some (l', env', Ct k)) (n : I0 ⟨C, N, K⟩ L l' env' H (Zz (Then ⟨C, N, K⟩ b Q))) : AEx ⟨C, N, K⟩ (.seq (.region id L.toArray false) b) env H Q := by
  obtain ⟨h1, h2, h3⟩ := P1p h
  exact s' h1 h2 (o' k h3 n)
theorem t' {id : Nat} {b : Code} {Q : Po} (h : L1w C N L H L.length env = some ([], env', Ct L.length)) (n : AEx ⟨C, N, K⟩ b env' H Q) : AEx ⟨C, N, K⟩ (.seq (.region id L.toArray false) b) env H Q := by
  obtain ⟨h1, h2, h3⟩ := P1p h
  exact s' h1 h2 (e' h3 n)
theorem P' (k : Nat) {id : Nat} {Q : Po} (h : L1w C N L H k env = some (l', env', Ct k)) (n : I0 ⟨C, N, K⟩ L l' env' H (Zz Q)) : AEx ⟨C, N, K⟩ (.region id L.toArray false) env H Q := by
  obtain ⟨h1, h2, h3⟩ := P1p h
  exact R' h1 h2 (o' k h3 n)
theorem T' {id : Nat} {Q : Po} (h : L1w C N L H L.length env = some ([], env', Ct L.length)) (n : Q .normal env' H) : AEx ⟨C, N, K⟩ (.region id L.toArray false) env H Q := by
  obtain ⟨h1, h2, h3⟩ := P1p h
  exact R' h1 h2 (e' h3 n)
def W21 (C : Cx) (L : List Oper) (H : T0) : Nat → List Oper → Env → Cnd → Option (List Oper × Env × Cnd × List Prop × List Prop)
  | 0, l, env, cnd => some (l, env, cnd, [], [])
  | _ + 1, [], _, _ => none
  | k + 1, o :: l, env, cnd => match Z17 C L o env cnd H with
    | some (d, W, S, c, x) => match W21 C L H k l (put env d x) (Sj cnd d W) with
      | some (l', e', n', ss, cs) => some (l', e', n', S :: ss, c :: cs)
      | none => none
    | none => none
theorem G' (k : Nat) {cnd cnd' : Cnd} {R : Env → Cnd → Prop} (h : W21 C L H k l env cnd = some (l', env', cnd', Ct k, Ct k)) (n : AG C L l' env' cnd' H R) : AG C L l env cnd H R := by
  induction k generalizing l env cnd with
  | zero => rw [W21] at h; cases h; exact n
  | succ k ih => cases l with
    | nil => rw [W21] at h; cases h
    | cons o l =>
      rw [W21] at h
      split at h
      · rename_i d W S c x hs
        split at h
        · rename_i l2 e2 n2 ss cs hr
          simp only [Option.some.injEq, Prod.mk.injEq, Ct, List.cons.injEq] at h
          obtain ⟨rfl, rfl, rfl, ⟨hS, rfl⟩, hc, rfl⟩ := h
          subst hS; subst hc
          exact a0' hs (ih hr)
        · cases h
      · cases h
end
def sub (i : Nat) (c : Code) : Code := match i with
  | 0 => sl c
  | 1 => sr c
  | 2 => ca c
  | 3 => cb c
  | 4 => bk c
  | _ => lo c
def kon (F : Fx) (i : Nat) (c : Code) (Q : Po) : Po := match i with
  | 0 => Then F (sr c) Q
  | 4 => match c with
    | .block id _ => K1p id Q
    | _ => Q
  | 5 => P2g F (lo c) Q
  | _ => Q
def pc : Code → List Nat → Code
  | c, [] => c
  | c, i :: p => pc (sub i c) p
def pk (F : Fx) : Code → List Nat → Po → Po
  | _, [], Q => Q
  | c, i :: p, Q => pk F (sub i c) p (kon F i c Q)
abbrev LM (C : Cx) (n K : Nat) (f : Func) (p : List Nat) (E : List (Nat × A)) (H : T0) (R : A → T0 → Prop) : Prop :=
  Z0 (Fx.mk C n K) (lo (pc (G1u f) p)) (Zs E) H (pk (Fx.mk C n K) (G1u f) p (M21 (Fx.mk C n K) f.results.toList R))
abbrev JM (C : Cx) (n K : Nat) (f : Func) (p : List Nat) (E : List (Nat × A)) (H : T0) (R : A → T0 → Prop) : Prop :=
  AEx (Fx.mk C n K) (pc (G1u f) p) (Zs E) H (pk (Fx.mk C n K) (G1u f) p (M21 (Fx.mk C n K) f.results.toList R))
end Go.Am

namespace Go.Am
open Go.ChangeShapes Go.WideShapes
section
variable {P : Program} {W : World}
theorem A1n : ∀ {laid : List (String × DataW Unit)} {ps : List MemPlace}, DataW.LaidVars P W laid ps → ∀ (i : Nat) n d, laid[i]? = some (n, d) →
    ∃ g t cs fuel p, P.globalNamed n = some g ∧ (P.globals[g]?).map (·.type) = some t ∧ W.var? P n = some cs ∧ DataW.trod (fun _ => ()) P W 0 (fun _ => true) false fuel t cs.toList = some (d, p)
  | [], _, _, i, n, d, hi => by simp at hi
  | (m, e) :: r, ps, h, i, n, d, hi => by
    obtain ⟨g, t, cs, fuel, p, q, h1, h2, h3, h4, h5, _⟩ := h
    cases i with
    | zero => cases hi; exact ⟨g, t, cs, fuel, p, h1, h2, h3, h4⟩
    | succ i => exact A1n h5 i n d (by simpa using hi)
theorem V2b {name : String} {g : Nat} {cs : Array Value} (hg : P.globalNamed name = some g) (h : W.var? P name = some cs) {i : Nat} {v : Value} (hi : cs[i]? = some v) : Oo W ⟨g, i, none⟩ = some v := by
  have := World.var?_cell hg h i
  unfold Oo
  rw [if_pos rfl, this, hi]
theorem D25 {laid : List (String × DataW Unit)} (h : laidMet P laid W) (i : Nat) {name : String} {k : IntKind} {zs : List Int} (hi : laid[i]? = some (name, Lib.tabData k zs)) {g : Nat} {t e : TypeId} {n : Nat}
    (hg : P.globalNamed name = some g) (hty : (P.globals[g]?).map (·.type) = some t) (ht : P.underlying t = some (.array n e)) (he : P.underlying e = some (.int k)) (hce : P.cellsOf e = 1) (hct : P.cellsOf t = n) :
    Lib.TabIs P W name k zs ∧ ∀ (j : Nat) z, zs[j]? = some z → Oo W ⟨g, j, none⟩ = some (.int k z) := by
  obtain ⟨ps, hv, _⟩ := h
  obtain ⟨g', t', cs, fuel, p, h1, h2, h3, h4⟩ := A1n hv i _ _ hi
  obtain rfl := Option.some.inj (hg.symm.trans h1)
  obtain rfl := Option.some.inj (hty.symm.trans h2)
  have hc := Lib.cells_of_tab ht he hce hct h4
  have hT : Lib.TabIs P W name k zs := by unfold Lib.TabIs; rw [h3, ← hc]
  exact ⟨hT, fun j z hz => V2b hg h3 (by rw [← Array.getElem?_toList, hc, List.getElem?_map, hz]; rfl)⟩
theorem W28 {M : Mem} {w w' : World} {name : String} {k : IntKind} {zs : List Int} {g : Nat} (hg : P.globalNamed name = some g) (h0 : 0 < zs.length) (hM : ∀ (j : Nat) z, zs[j]? = some z → M ⟨g, j, none⟩ = some (.int k z))
    (hb : ∀ b, K21 M w b → w'.heap[b]? = w.heap[b]?) (h : Lib.TabIs P w name k zs) : Lib.TabIs P w' name k zs := by
  unfold Lib.TabIs at h ⊢
  simp only [World.var?, hg, Option.bind_some] at h ⊢
  split at h
  · rename_i cs t f hc
    have hcs := Option.some.inj h
    rw [hb g ⟨cs, t, f, hc, by rw [hcs]; simpa using h0, fun i hi => ?_⟩, hc]
    · exact h
    · rw [hcs] at hi
      have hi' : i < zs.length := by simpa using hi
      rw [hM i zs[i] (List.getElem?_eq_getElem hi')]
      simp
  · cases h
end
end Go.Am

namespace Go.Am
theorem I0.ghost {F : Fx} {L l : List Oper} {env env' : Env} {H H' : T0} {Q : Env → T0 → Prop} {o : Nat} {x : Ob} (hx : H[o]? = some x) (hlen : H'.length = H.length)
    (hkind : ∀ (i : Nat) y, H'[i]? = some y → isTok y = false ∨ H[i]? = some y)
    (h : ∀ M G w, H8 M w → Hj M G w H → ∃ M', (∀ a v, M a = some v → M' a = some v) ∧ H8 M' w ∧ (∀ a v, M' a = some v → M a = some v ∨ blk x (G o) = some a.block) ∧
      (∀ t v, B1 M G (env t) v → B1 M' G (env' t) v) ∧ Hj M' G w H' ∧ (∀ b, own G H' b → own G H b))
    (k : I0 F L l env' H' Q) : I0 F L l env H Q := by
  intro fr M G w a Qw hK hd hs hsi hq
  obtain ⟨M', h1, h2, h3, h4, h5, h6⟩ := h M G w hs.good hs.hrel
  have he : Ext (fun b => blk x (G o) = some b) M w M' w := ⟨h1, Nat.le_refl _, rfl, rfl, rfl, fun _ _ _ => rfl, fun a v e => by
    rcases h3 a v e with e1 | e1
    · exact .inl e1
    · exact .inr (.inl e1)⟩
  have ho : ∀ b, blk x (G o) = some b → own G H b := fun b hb => ⟨o, x, hx, hb⟩
  refine k fr M' G w a Qw hK hd ⟨h2, hs.gl.ext hs.hrel he ho, h5, fun t => h4 t _ (hs.env t), hs.size, hs.defers⟩ ?_ hq
  refine ⟨hsi.ext.trans he (fun b hb => hsi.own b (ho b hb)), fun b hb => hsi.own b (h6 b hb), by rw [hlen]; exact hsi.len, hsi.keep, fun i y z hy ht hz => ?_⟩
  rcases hkind i z hz with e | e
  · exact e
  · exact hsi.kind i y z hy ht e
mutual
def fm (j : Nat) (x : D) : A → A
  | .mp i => bif Nat.beq i j then .d x else .mp i
  | .clo f cs => .clo f (fmL j x cs)
  | .agg cs => .agg (fmL j x cs)
  | .tup cs => .tup (fmL j x cs)
  | .d y => .d y
  | .junk => .junk
  | .ref a b => .ref a b
  | .ptr c => .ptr c
  | .full r => .full r
  | .osl a r => .osl a r
  | .rsl a b c d => .rsl a b c d
def fmL (j : Nat) (x : D) : List A → List A
  | [] => []
  | y :: r => fm j x y :: fmL j x r
end
theorem C1i (j : Nat) (x : D) : ∀ l, fmL j x l = l.map (fm j x)
  | [] => rfl
  | y :: r => by simp only [fmL, List.map_cons, C1i j x r]
def fzO (φ : A → A) : Ob → Ob
  | .row cs e => .row (cs.map φ) e
  | y => y
def fzH (φ : A → A) (j : Nat) : Nat → T0 → T0
  | _, [] => []
  | i, y :: r => (bif Nat.beq i j then .dead else fzO φ y) :: fzH φ j (i + 1) r
theorem Q1p {φ : A → A} {j : Nat} : ∀ {H : T0} {i n : Nat}, (fzH φ j i H)[n]? = (H[n]?).map fun y => bif Nat.beq (i + n) j then Ob.dead else fzO φ y
  | [], i, n => by simp [fzH]
  | y :: r, i, 0 => by simp [fzH]
  | y :: r, i, n + 1 => by
    simp only [fzH, List.getElem?_cons_succ]
    rw [Q1p, show i + 1 + n = i + (n + 1) by omega]
theorem M1w {φ : A → A} {j : Nat} : ∀ {H : T0} {i : Nat}, (fzH φ j i H).length = H.length
  | [], _ => rfl
  | y :: r, i => by simp only [fzH, List.length_cons, M1w]
theorem F2h {φ : A → A} {y : Ob} {g : Value} : blk (fzO φ y) g = blk y g := by
  cases y with
  | row cs e => cases g <;> first | rfl | (rename_i p; cases p <;> rfl)
  | _ => rfl
theorem I0.frz {F : Fx} {L l : List Oper} {env : Env} {H H' : T0} {Q : Env → T0 → Prop} (φ : A → A) (j : Nat) {x : Ob} (hj : H[j]? = some x) (hH : Qm (fzH φ j 0 H) = some H')
    (h : ∀ M G w, H8 M w → Hj M G w H → ∃ M', (∀ a v, M a = some v → M' a = some v) ∧ H8 M' w ∧ (∀ a v, M' a = some v → M a = some v ∨ blk x (G j) = some a.block) ∧ ∀ y v, B1 M G y v → B1 M' G (φ y) v)
    (k : I0 F L l (fun t => φ (env t)) H' Q) : I0 F L l env H Q := by
  obtain rfl := Mu hH
  refine .ghost hj M1w (fun i y hy => ?_) (fun M G w hg hh => ?_) k
  · rw [Q1p] at hy
    cases hi : H[i]? with
    | none => rw [hi] at hy; cases hy
    | some z =>
      rw [hi] at hy
      simp only [Option.map_some, Option.some.injEq] at hy
      cases hb : Nat.beq (0 + i) j with
      | true => rw [hb] at hy; subst hy; exact .inl rfl
      | false =>
        rw [hb] at hy
        simp only [cond_false] at hy
        subst hy
        cases z with
        | row cs e => exact .inl rfl
        | _ => exact .inr rfl
  · obtain ⟨M', hm, hg', hfr, hrel⟩ := h M G w hg hh
    have conv : ∀ (n : Nat) z, (fzH φ j 0 H)[n]? = some z → ∀ c, blk z (G n) = some c → ∃ z', H[n]? = some z' ∧ blk z' (G n) = some c := fun n z hz c hc => by
      rw [Q1p] at hz
      cases hn : H[n]? with
      | none => rw [hn] at hz; cases hz
      | some q =>
        rw [hn] at hz
        simp only [Option.map_some, Option.some.injEq] at hz
        subst hz
        cases hb : Nat.beq (0 + n) j with
        | true => rw [hb] at hc; cases hc
        | false => rw [hb] at hc; simp only [cond_false, F2h] at hc; exact ⟨q, rfl, hc⟩
    refine ⟨M', hm, hg', hfr, fun t v h => hrel _ _ h, ⟨fun i y hy => ?_, fun i i' y y' c hy hy' hb hb' => ?_, fun i hi => hh.fresh i (by rw [M1w] at hi; exact hi)⟩, fun c hc => ?_⟩
    · rw [Q1p] at hy
      cases hi : H[i]? with
      | none => rw [hi] at hy; cases hy
      | some z =>
        rw [hi] at hy
        simp only [Option.map_some, Option.some.injEq] at hy
        cases hb : Nat.beq (0 + i) j with
        | true => rw [hb] at hy; subst hy; trivial
        | false =>
          rw [hb] at hy
          simp only [cond_false] at hy
          subst hy
          have hne : i ≠ j := fun e => by subst e; simp at hb
          have hz := hh.obj i z hi
          have hz' : Uh M' G w z (G i) := hz.keep hm (fun _ _ => rfl) (fun c hc off sp hn => by
            cases hM : M' ⟨c, off, sp⟩ with
            | none => rfl
            | some v =>
              rcases hfr _ _ hM with e | e
              · rw [hn] at e; cases e
              · exact absurd (hh.apart i j _ _ c hi hj hc e) hne)
          cases z with
          | row cs e =>
            obtain ⟨b', vs, h1, h2, h3, h4, h5, h6⟩ := hz'
            obtain ⟨b2, vs2, k1, k2, k3, k4, k5, k6⟩ := hz
            rw [h1] at k1
            simp at k1
            subst k1
            rw [h2] at k2
            simp at k2
            subst k2
            refine ⟨b', vs, h1, h2, by simpa using h3, h4, fun n x v hx hv => ?_, h6⟩
            rw [List.getElem?_map] at hx
            cases hc : cs[n]? with
            | none => rw [hc] at hx; cases hx
            | some q => rw [hc] at hx; simp at hx; subst hx; exact hrel _ _ (k5 n q v hc hv)
          | _ => exact hz'
    · obtain ⟨z, hz, hzb⟩ := conv i y hy c hb
      obtain ⟨z', hz', hzb'⟩ := conv i' y' hy' c hb'
      exact hh.apart i i' z z' c hz hz' hzb hzb'
    · obtain ⟨n, z, hz, hc⟩ := hc
      obtain ⟨z', h1, h2⟩ := conv n z hz c hc
      exact ⟨n, z', h1, h2⟩
theorem I2i {M M' : Mem} {G : Nat → Value} {j : Nat} {x : D} (hm : ∀ a v, M a = some v → M' a = some v) (hj : O2 M' x (G j)) {y : A} {v : Value} (h : B1 M G y v) : B1 M' G (fm j x y) v := by
  have lst : ∀ {cs : List A} {vs : Array Value}, (∀ (i : Nat) x' v, cs[i]? = some x' → vs[i]? = some v → B1 M' G (fm j x x') v) → ∀ (i : Nat) x' v, (fmL j x cs)[i]? = some x' → vs[i]? = some v → B1 M' G x' v := by
    intro cs vs hh i x' v hx hv
    rw [C1i, List.getElem?_map] at hx
    cases hc : cs[i]? with
    | none => rw [hc] at hx; cases hx
    | some z => rw [hc] at hx; simp at hx; subst hx; exact hh i z v hc hv
  induction h with
  | d h => exact .d (h.mono hm)
  | junk => exact .junk
  | ref h => exact .ref h
  | ptr J1 hs h1 h2 => exact .ptr J1 hs (fun j x e => hm _ _ (h1 j x e)) (fun j x e => (h2 j x e).mono hm)
  | full h hf => exact .full (h.mono hm) hf
  | osl h hg => exact .osl (h.mono hm) hg
  | rsl h hc hmx => exact .rsl h hc hmx
  | clo hl _ ih => exact .clo (by rw [C1i]; simpa using hl) (lst ih)
  | agg hl h1 _ ih => exact .agg (by rw [C1i]; simpa using hl) h1 (lst ih)
  | tup hl _ ih => exact .tup (by rw [C1i]; simpa using hl) (lst ih)
  | @mp o b h =>
    simp only [fm]
    cases hb : Nat.beq o j with
    | true =>
      have := Nat.eq_of_beq_eq_true hb
      subst this
      simp only [cond_true]
      rw [h] at hj
      exact .d hj
    | false => exact .mp h
theorem F1y {cs : Row} (h : cs.length ≠ 1) : Th cs = .agg (cs.map .d) := by
  match cs, h with
  | [], _ => rfl
  | [x], h => exact absurd rfl h
  | _ :: _ :: _, _ => rfl
theorem J26 {cs : Row} (h : cs.length = 1) : ∃ x, cs = [x] := by
  match cs, h with
  | [x], _ => exact ⟨x, rfl⟩
theorem W2b {M : Mem} {G : Nat → Value} {cs : Row} {v : Value} (h : B1 M G (Th cs) v) : ∃ J1 : Nat → Value, v = I1p cs.length J1 ∧ ∀ (j : Nat) x, cs[j]? = some x → O2 M x (J1 j) := by
  by_cases h1 : cs.length = 1
  · obtain ⟨x, rfl⟩ := J26 h1
    refine ⟨fun _ => v, rfl, fun j y hy => ?_⟩
    have h : B1 M G (.d x) v := h
    cases h; rename_i h
    cases j with
    | zero => simp at hy; subst hy; exact h
    | succ j => simp at hy
  · rw [F1y h1] at h
    cases h; rename_i vs q1 hl h2
    have hl' : vs.size = cs.length := by simpa using hl.symm
    refine ⟨fun j => vs.getD j undef, ?_, fun j y hy => ?_⟩
    · unfold I1p
      rw [if_neg h1]
      congr 1
      apply Array.ext
      · simp [hl']
      · intro i hi hi'
        simp [Array.getD, hi]
    · have hlt : j < vs.size := by rw [hl']; exact (List.getElem?_eq_some_iff.1 hy).1
      have := h2 j (.d y) vs[j] (by simp [hy]) (Array.getElem?_eq_getElem hlt)
      cases this; rename_i this
      simpa [Array.getD, hlt] using this
theorem X2b {M : Mem} {G : Nat → Value} {cs : Row} {J1 : Nat → Value} (h : ∀ (j : Nat) x, cs[j]? = some x → O2 M x (J1 j)) : B1 M G (Th cs) (I1p cs.length J1) := by
  by_cases h1 : cs.length = 1
  · obtain ⟨x, rfl⟩ := J26 h1
    exact .d (h 0 x rfl)
  · rw [F1y h1]
    unfold I1p
    rw [if_neg h1]
    refine .agg (by simp) (fun i v hv => ?_) fun i x v hx hv => ?_
    · rw [List.getElem?_toArray, List.getElem?_map] at hv
      cases hr : (List.range cs.length)[i]? with
      | none => rw [hr] at hv; cases hv
      | some k =>
        rw [hr] at hv
        simp only [Option.map_some, Option.some.injEq] at hv
        obtain ⟨hi, hk⟩ := List.getElem?_eq_some_iff.1 hr
        simp at hi hk
        subst hk; subst hv
        exact (h i _ (List.getElem?_eq_getElem hi)).one
    · rw [List.getElem?_toArray, List.getElem?_map] at hv
      rw [List.getElem?_map] at hx
      cases hr : (List.range cs.length)[i]? with
      | none => rw [hr] at hv; cases hv
      | some k =>
        rw [hr] at hv
        simp only [Option.map_some, Option.some.injEq] at hv
        obtain ⟨hi, hk⟩ := List.getElem?_eq_some_iff.1 hr
        simp at hi hk
        subst hk; subst hv
        cases hc : cs[i]? with
        | none => rw [hc] at hx; cases hx
        | some y =>
          rw [hc] at hx
          simp only [Option.map_some, Option.some.injEq] at hx
          subst hx
          exact .d (h i y hc)
theorem I0.fm (j : Nat) {F : Fx} {L l : List Oper} {env : Env} {H H' : T0} {Q : Env → T0 → Prop} {es : List (List UInt8 × Row)} (hj : nth H j = some (.map (.s es))) (hH : Qm (fzH (Go.Am.fm j (.mp es)) j 0 H) = some H')
    (k : I0 F L l (fun t => Go.Am.fm j (.mp es) (env t)) H' Q) : I0 F L l env H Q := by
  rw [F3] at hj
  refine .frz (Go.Am.fm j (.mp es)) j hj hH (fun M G w hg hh => ?_) k
  obtain ⟨b, ms, cl, g1, g2, g3, g4, g5, g6⟩ := hh.obj j _ hj
  have g3 := g3.trans (T1j es)
  have g4 := Z1r g4
  have hbk : blk (.map (.s es)) (G j) = some b := by rw [g1]; rfl
  let M' : Mem := fun a => if a = ⟨b, 0, some 0⟩ then some (R1m ms) else M a
  have hm : ∀ a v, M a = some v → M' a = some v := fun a v e => by
    by_cases h : a = ⟨b, 0, some 0⟩
    · subst h; rw [g6] at e; cases e
    · simp only [M', if_neg h, e]
  have hrel : O2 M' (.mp es) (G j) := by
    have hrow : ∀ i : Nat, ∃ J1 : Nat → Value, ∀ k cs e, es[i]? = some (k, cs) → ms[i]? = some e → e.val = I1p cs.length J1 ∧ ∀ (j : Nat) x, cs[j]? = some x → O2 M x (J1 j) := fun i => by
      cases hi : es[i]? with
      | none => exact ⟨fun _ => undef, fun k cs e h => by cases h⟩
      | some p =>
        obtain ⟨k, cs⟩ := p
        have hlt : i < ms.size := by rw [g3]; exact (List.getElem?_eq_some_iff.1 hi).1
        obtain ⟨J1, v1, v2⟩ := W2b (g4 i k cs _ hi (Array.getElem?_eq_getElem hlt)).2
        refine ⟨J1, fun k' cs' e hk he => ?_⟩
        simp only [Option.some.injEq, Prod.mk.injEq] at hk
        obtain ⟨rfl, rfl⟩ := hk
        rw [Array.getElem?_eq_getElem hlt] at he
        obtain rfl := Option.some.inj he
        exact ⟨v1, v2⟩
    rw [g1]
    refine .mp (fun i => Classical.choose (hrow i)) (by simp only [M', if_true]) g3 (fun i k cs e a c => ?_) (fun i j k cs x a c => ?_)
    · have hk := (g4 i k cs e a c).1
      refine ⟨?_, ?_, (Classical.choose_spec (hrow i) k cs e a c).1⟩
      · generalize e.key = ek at hk; cases hk; rfl
      · generalize e.key = ek at hk; cases hk; assumption
    · have hlt : i < ms.size := by rw [g3]; exact (List.getElem?_eq_some_iff.1 a).1
      exact ((Classical.choose_spec (hrow i) k cs _ a (Array.getElem?_eq_getElem hlt)).2 j x c).mono hm
  refine ⟨M', hm, fun a v e => ?_, fun a v e => ?_, fun y v h => I2i hm hrel h⟩
  · by_cases h : a = ⟨b, 0, some 0⟩
    · subst h
      simp only [M', if_true, Option.some.injEq] at e
      exact .inr ⟨rfl, ms, cl, g2, e.symm⟩
    · simp only [M', if_neg h] at e
      exact hg a v e
  · by_cases h : a = ⟨b, 0, some 0⟩
    · subst h; exact .inr hbk
    · simp only [M', if_neg h] at e; exact .inl e
mutual
def bx (k : Nat) (y0 : D) (ds : List D) : A → A
  | .ref o off => bif Nat.beq o k then (bif Nat.beq off 0 then .d y0 else .ptr (ds.drop off)) else .ref o off
  | .rsl o b c d => bif Nat.beq o k then .junk else .rsl o b c d
  | .clo f cs => .clo f (bxL k y0 ds cs)
  | .agg cs => .agg (bxL k y0 ds cs)
  | .tup cs => .tup (bxL k y0 ds cs)
  | .d y => .d y
  | .junk => .junk
  | .mp i => .mp i
  | .ptr c => .ptr c
  | .full r => .full r
  | .osl a r => .osl a r
def bxL (k : Nat) (y0 : D) (ds : List D) : List A → List A
  | [] => []
  | y :: r => bx k y0 ds y :: bxL k y0 ds r
end
theorem D1i (k : Nat) (y0 : D) (ds : List D) : ∀ l, bxL k y0 ds l = l.map (bx k y0 ds)
  | [] => rfl
  | y :: r => by simp only [bxL, List.map_cons, D1i k y0 ds r]
def toZ : A → Option D
  | .d (.nilv .map) => some (.mp [])
  | .d x => some x
  | _ => none
theorem G2h {M : Mem} {G : Nat → Value} {x : A} {d : D} {v : Value} (h : toZ x = some d) (hr : B1 M G x v) : O2 M d v := by
  unfold toZ at h
  split at h
  · simp only [Option.some.injEq] at h
    subst h
    cases hr; rename_i hr; cases hr
    exact .mpnil
  · simp only [Option.some.injEq] at h
    subst h
    cases hr; assumption
  · cases h
def X21 : List A → Option (List D)
  | [] => some []
  | y :: r => match toZ y, X21 r with
    | some x, some ds => some (x :: ds)
    | _, _ => none
theorem Y21 : ∀ {cs : List A} {ds : List D}, X21 cs = some ds → cs.length = ds.length ∧ ∀ (j : Nat) x, ds[j]? = some x → ∃ y, cs[j]? = some y ∧ toZ y = some x
  | [], ds, h => by simp only [X21, Option.some.injEq] at h; subst h; exact ⟨rfl, fun j x h => by simp at h⟩
  | y :: r, ds, h => by
    simp only [X21] at h
    split at h
    · rename_i x ds' hz hd
      simp only [Option.some.injEq] at h
      subst h
      obtain ⟨h1, h2⟩ := Y21 hd
      refine ⟨by simp [h1], fun j x' hj => ?_⟩
      cases j with
      | zero => simp at hj; subst hj; exact ⟨y, rfl, hz⟩
      | succ j => simpa using h2 j x' (by simpa using hj)
    · cases h
theorem J2i {M M' : Mem} {G : Nat → Value} {k : Nat} {ds : List D} {y0 : D} {b : Nat} (hy : ∀ v, O2 M' (.box ds) v → O2 M' y0 v) (hm : ∀ a v, M a = some v → M' a = some v) (hk : G k = .pointer (some ⟨b, 0, none⟩)) (J1 : Nat → Value)
    (h1 : ∀ (j : Nat) x, ds[j]? = some x → M' ⟨b, j, none⟩ = some (J1 j)) (h2 : ∀ (j : Nat) x, ds[j]? = some x → O2 M' x (J1 j)) {y : A} {v : Value} (h : B1 M G y v) : B1 M' G (bx k y0 ds y) v := by
  have lst : ∀ {cs : List A} {vs : Array Value}, (∀ (i : Nat) x' v, cs[i]? = some x' → vs[i]? = some v → B1 M' G (bx k y0 ds x') v) → ∀ (i : Nat) x' v, (bxL k y0 ds cs)[i]? = some x' → vs[i]? = some v → B1 M' G x' v := by
    intro cs vs hh i x' v hx hv
    rw [D1i, List.getElem?_map] at hx
    cases hc : cs[i]? with
    | none => rw [hc] at hx; cases hx
    | some z => rw [hc] at hx; simp at hx; subst hx; exact hh i z v hc hv
  have ad : ∀ (off j : Nat), (⟨b, off, none⟩ : Addr).add j = ⟨b, off + j, none⟩ := fun off j => by
    unfold Addr.add; split
    · subst_vars; rfl
    · rfl
  induction h with
  | d h => exact .d (h.mono hm)
  | junk => exact .junk
  | @ref o off b' h =>
    simp only [bx]
    cases hb : Nat.beq o k with
    | false => exact .ref h
    | true =>
      obtain rfl := Nat.eq_of_beq_eq_true hb
      rw [hk] at h
      simp at h
      subst h
      simp only [cond_true]
      cases ho : Nat.beq off 0 with
      | true =>
        obtain rfl := Nat.eq_of_beq_eq_true ho
        simp only [cond_true]
        exact .d (hy _ (.box J1 rfl (fun j x e => by rw [ad, Nat.zero_add]; exact h1 j x e) h2))
      | false =>
        simp only [cond_false]
        refine .ptr (fun j => J1 (off + j)) rfl (fun j x e => ?_) (fun j x e => ?_)
        · rw [List.getElem?_drop] at e
          rw [ad]; exact h1 _ x e
        · rw [List.getElem?_drop] at e
          exact h2 _ x e
  | ptr J1 hs h1 h2 => exact .ptr J1 hs (fun j x e => hm _ _ (h1 j x e)) (fun j x e => (h2 j x e).mono hm)
  | full h hf => exact .full (h.mono hm) hf
  | osl h hg => exact .osl (h.mono hm) hg
  | @rsl o _ _ _ _ _ h hc hmx =>
    simp only [bx]
    cases hb : Nat.beq o k with
    | true => exact .junk
    | false => exact .rsl h hc hmx
  | clo hl _ ih => exact .clo (by rw [D1i]; simpa using hl) (lst ih)
  | agg hl h1 _ ih => exact .agg (by rw [D1i]; simpa using hl) h1 (lst ih)
  | tup hl _ ih => exact .tup (by rw [D1i]; simpa using hl) (lst ih)
  | mp h => exact .mp h
theorem I0.bx (k : Nat) {F : Fx} {L l : List Oper} {env : Env} {H H' : T0} {Q : Env → T0 → Prop} {cs : List A} {e : TypeId} {ds : List D} {y : D} (he : y = .box ds ∨ y = .bxo (some ds)) (hj : nth H k = some (.row cs e)) (hd : X21 cs = some ds) (hH : Qm (fzH (Go.Am.bx k y ds) k 0 H) = some H')
    (kk : I0 F L l (fun t => Go.Am.bx k y ds (env t)) H' Q) : I0 F L l env H Q := by
  have hy : ∀ (M : Mem) v, O2 M (.box ds) v → O2 M y v := fun M v h => by
    rcases he with rfl | rfl
    · exact h
    · cases h with
      | box J1 hs h1 h2 => exact .bxs J1 hs h1 h2
  rw [F3] at hj
  obtain ⟨hdl, hdg⟩ := Y21 hd
  refine .frz (Go.Am.bx k y ds) k hj hH (fun M G w hg hh => ?_) kk
  obtain ⟨b, vs, g1, g2, g3, g4, g5, g6⟩ := hh.obj k _ hj
  have hbk : blk (.row cs e) (G k) = some b := by rw [g1]; rfl
  let M' : Mem := fun a => if a.block = b ∧ a.spot = none then vs[a.off]? else M a
  have hm : ∀ a v, M a = some v → M' a = some v := fun a v e => by
    by_cases h : a.block = b ∧ a.spot = none
    · obtain ⟨ab, ao, asp⟩ := a
      simp only at h
      rw [h.1, g6] at e; cases e
    · simp only [M', if_neg h, e]
  have hl : ds.length ≤ vs.size := by omega
  have hv : ∀ (j : Nat) x, ds[j]? = some x → ∃ v, vs[j]? = some v ∧ O2 M' x v := fun j x hx => by
    have hlt : j < vs.size := Nat.lt_of_lt_of_le (List.getElem?_eq_some_iff.1 hx).1 hl
    obtain ⟨y, hy, hz⟩ := hdg j x hx
    exact ⟨_, Array.getElem?_eq_getElem hlt, (G2h hz (g5 j y vs[j] hy (Array.getElem?_eq_getElem hlt))).mono hm⟩
  refine ⟨M', hm, fun a v e => ?_, fun a v e => ?_, fun y v h => J2i (hy M') hm g1 (fun j => vs[j]?.getD undef) (fun j x hx => ?_) (fun j x hx => ?_) h⟩
  · by_cases h : a.block = b ∧ a.spot = none
    · simp only [M', if_pos h] at e
      obtain ⟨ab, ao, asp⟩ := a
      simp only at h e
      obtain ⟨rfl, rfl⟩ := h
      exact .inl ⟨rfl, by rw [Yv g2]; exact e⟩
    · simp only [M', if_neg h] at e
      exact hg a v e
  · by_cases h : a.block = b ∧ a.spot = none
    · exact .inr (by rw [hbk, h.1])
    · simp only [M', if_neg h] at e; exact .inl e
  · obtain ⟨v, h1, _⟩ := hv j x hx
    simp only [M', and_self, if_true, h1, Option.getD_some]
  · obtain ⟨v, h1, h2⟩ := hv j x hx
    rw [h1]; exact h2
end Go.Am

