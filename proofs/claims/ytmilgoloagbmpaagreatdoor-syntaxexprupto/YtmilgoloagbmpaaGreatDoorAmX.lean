/-
  The abstract machine: an element of a global table; bytes made into a string.
-/
import Derived.Test.YtmilgoloagbmpaaGreatDoorAmW
import Derived.Laws.BytesArg
namespace Go.Am

theorem Yields.le {C : Cx} {o : Oper} {env : Env} {H : Heap} {x y : A} (h : Yields C o env H x) (hle : ∀ M G v, RelA M G x v → RelA M G y v) : Yields C o env H y :=
  fun M G w a next Qw h1 h2 h3 h4 h5 => h M G w a next Qw h1 h2 h3 h4 fun v M' w' k1 k2 k3 => h5 v M' w' (hle M' G v k1) k2 k3

/-- an element's address in an array of data -/
def stepIG (C : Cx) (L : List Oper) (o : Oper) (env : Env) : Option (Option Nat × List D × Int × Nat × Nat) :=
  match wantedA L env o, o.op with
  | some true, .indexAddr t x y => match tget C.T t, ev C.GL env y, ev C.GL env x, dstF o with
    | some i, .d (.int _ n), .ptr cs, some d => match i.u with
      | .arr len e => match tget C.T e with | some j => bif Nat.ble 2 len then some (d, cs, n, len, j.size) else none | none => none
      | _ => none
    | _, _, _, _ => none
  | _, _ => none

theorem yields_ig {C : Cx} (hC : CxOk C) {L : List Oper} {o : Oper} {env : Env} {H : Heap} {d : Option Nat} {cs : List D} {n : Int} {len sz : Nat} (h : stepIG C L o env = some (d, cs, n, len, sz)) {k : Nat} {r : List D} (hn : n = k) (hk : k < len)
    (hr : ∀ (j : Nat) x, r[j]? = some x → cs[k * sz + j]? = some x) : wantedA L env o = some true ∧ dstF o = some d ∧ Yields C o env H (.ptr r) := by
  unfold stepIG at h
  split at h
  · rename_i t x y hw ho
    split at h
    · rename_i i kd m cs' d' ht hy hx hd
      split at h
      · rename_i len' e hu
        split at h
        · rename_i j he
          rw [cond_eq_ite] at h
          split at h
          · rename_i hb
            simp only [Option.some.injEq, Prod.mk.injEq] at h
            obtain ⟨rfl, rfl, rfl, rfl, rfl⟩ := h
            refine ⟨hw, hd, ?_⟩
            have hop : opA C.T C.GL o.op env H = some (0 ≤ m ∧ m < (len' : Int), .ptr (cs'.drop (m.toNat * j.size))) := by
              rw [ho]
              simp only [opA, indexAddrA, ht, hy, hx, hu, idxArr, he, placeA, hb, cond_true]
            refine (yields_op hC hop (by omega)).le fun M G v hv => ?_
            cases hv
            rename_i a vals hs h1 h2
            have e1 : m.toNat = k := by omega
            have key : ∀ (i : Nat) z, r[i]? = some z → (cs'.drop (m.toNat * j.size))[i]? = some z := fun i z hz => by
              rw [List.getElem?_drop, e1]; exact hr i z hz
            exact .ptr vals hs (fun i z hz => h1 i z (key i z hz)) fun i z hz => h2 i z (key i z hz)
          · cases h
        · cases h
      · cases h
    · cases h
  · cases h

theorem AOps.ig {F : Fx} (hC : CxOk F.C) {L l : List Oper} {o : Oper} {env : Env} {H : Heap} {Q : Env → Heap → Prop} {d : Option Nat} {cs : List D} {n : Int} {len sz : Nat} (h : stepIG F.C L o env = some (d, cs, n, len, sz)) {k : Nat} {r : List D} (hn : n = k) (hk : k < len)
    (hr : ∀ (j : Nat) x, r[j]? = some x → cs[k * sz + j]? = some x) (kk : AOps F L l (put env d (.ptr r)) H Q) : AOps F L (o :: l) env H Q := by
  obtain ⟨h1, h2, h3⟩ := yields_ig (H := H) hC h hn hk hr
  exact .yields h1 h3 (by rw [dstF_eq h2]; exact kk)
theorem AQ.ig {C : Cx} (hC : CxOk C) {L l : List Oper} {o : Oper} {env : Env} {H : Heap} {Q : Env → Prop} {d : Option Nat} {cs : List D} {n : Int} {len sz : Nat} (h : stepIG C L o env = some (d, cs, n, len, sz)) {k : Nat} {r : List D} (hn : n = k) (hk : k < len)
    (hr : ∀ (j : Nat) x, r[j]? = some x → cs[k * sz + j]? = some x) (kk : AQ C L l (put env d (.ptr r)) H Q) : AQ C L (o :: l) env H Q := by
  obtain ⟨h1, h2, h3⟩ := yields_ig (H := H) hC h hn hk hr
  exact .y _ h2 h1 h3 kk
theorem AG.ig {C : Cx} (hC : CxOk C) {L l : List Oper} {o : Oper} {env : Env} {cnd : Cnd} {H : Heap} {Q : Env → Cnd → Prop} {d : Option Nat} {W : Option Bool} {cs : List D} {n : Int} {len sz : Nat} (hw : wantC L env cnd o = some W) (h : stepIG C [] (noG o) env = some (d, cs, n, len, sz)) {k : Nat} {r : List D}
    (hd : dstF o = some d) (hsd : holds W → sides cnd (opsL o)) (hk : holds W → n = k ∧ k < len ∧ ∀ (j : Nat) x, r[j]? = some x → cs[k * sz + j]? = some x) (kk : AG C L l (put env d (.ptr r)) (putC cnd d W) H Q) : AG C L (o :: l) env cnd H Q :=
  .lift hd hw hsd (fun h' => (yields_ig (H := H) hC h (hk h').1 (hk h').2.1 (hk h').2.2).2.2) kk

/-- an element of a table of cells -/
theorem tab_get {α : Type} {f : α → D} {l : List α} {n : Int} {x : α} (h : idx l n = some x) : n.toNat < l.length ∧ ∀ (j : Nat) y, [f x][j]? = some y → (l.map f)[n.toNat * 1 + j]? = some y := by
  unfold idx at h
  split at h
  · refine ⟨(List.getElem?_eq_some_iff.1 h).1, fun j y hj => ?_⟩
    match j, hj with
    | 0, hj => cases hj; simp [h]
    | j + 1, hj => simp at hj
  · cases h

/-! ### bytes to a string -/
def stepCS (C : Cx) (L : List Oper) (o : Oper) (env : Env) : Option (Option Nat × List Row) :=
  match wantedA L env o, o.op with
  | some true, .convert s t x => match tget C.T s, tget C.T t, rowsOf (ev C.GL env x), dstF o with
    | some i, some k, some rows, some d => match i.u, k.u with
      | .sl e, .str => match tget C.T e with
        | some j => match j.u with
          | .int .u8 => some (d, rows)
          | _ => none
        | none => none
      | _, _ => none
    | _, _, _, _ => none
  | _, _ => none

def byteStr (xs : List Int) : List UInt8 := xs.map fun n => UInt8.ofNat n.toNat

theorem yields_cs {C : Cx} (hC : CxOk C) {L : List Oper} {o : Oper} {env : Env} {H : Heap} {d : Option Nat} {rows : List Row} (h : stepCS C L o env = some (d, rows)) {xs : List Int} (hr : rows = xs.map fun n => [D.int .u8 n]) :
    wantedA L env o = some true ∧ dstF o = some d ∧ Yields C o env H (.d (.str (byteStr xs))) := by
  unfold stepCS at h
  split at h
  · rename_i s t x hw ho
    split at h
    · rename_i i k rows' d' hs ht hx hd
      split at h
      · rename_i e hu hu'
        split at h
        · rename_i j he
          split at h
          · rename_i hju
            simp only [Option.some.injEq, Prod.mk.injEq] at h
            obtain ⟨rfl, rfl⟩ := h
            subst hr
            refine ⟨hw, hd, ?_⟩
            intro M G w a next Qw hρ hG hgl hH hkk
            rw [ho] at hρ
            have hxr := rowsOf_rel hx (hρ x (by simp [Op.operands]))
            have us := under_sl (hC.tok.facts hs) hu
            have ut := under_str (hC.tok.facts ht) hu'
            have ue := under_int (hC.tok.facts he) hju
            have key : ∃ b : ByteArray, (convert s t (a.eval x)).run C.P w = .ok (.string b) w ∧ b = ⟨(byteStr xs).toArray⟩ ∧ xs.length ≤ maxLen := by
              generalize hxv : a.eval x = xv at hxr
              generalize hrw : (xs.map fun n => [D.int .u8 n]) = rws at hxr
              cases hxr with
              | slnil =>
                obtain rfl : xs = [] := List.map_eq_nil_iff.1 hrw
                exact ⟨_, run_convert_bytes_nil w s e us ue 0 0 t ut, rfl, Nat.zero_le _⟩
              | sl sz vals hl hc hm hsp hz h1 h2 =>
                rename_i ad len cap
                subst hrw
                rw [List.length_map] at hl
                subst hl
                have hcell : ∀ i, i < xs.length → w.cell? (ad.add i) = some (.int .u8 (xs.getD i 0)) := fun i hi => by
                  have hri : (xs.map fun n => [D.int .u8 n])[i]? = some [D.int .u8 xs[i]] := by simp [hi]
                  have e1 := hz i _ hri
                  have m1 := h1 i 0 _ _ hri rfl
                  have m2 := h2 i 0 _ _ hri rfl
                  simp only [List.length_singleton] at e1
                  subst e1
                  rw [Nat.mul_one, Nat.add_zero] at m1
                  have m3 := (hG _ _ m1).2
                  rw [m3]
                  generalize vals i 0 = v at m2
                  cases m2
                  simp [List.getD, hi]
                have hload : (loadCells ad xs.length).run C.P w = .ok (xs.map (Value.int .u8)).toArray w := by
                  have := run_loadCells_list (P := C.P) w ad (xs.map (Value.int .u8)) (fun j v hj => by
                    have hjl : j < xs.length := by
                      rcases Nat.lt_or_ge j xs.length with h | h
                      · exact h
                      · simp [List.getElem?_eq_none (show (xs.map (Value.int .u8)).length ≤ j by simpa using h)] at hj
                    rw [hcell j hjl]
                    simp [List.getElem?_eq_getElem hjl] at hj
                    subst hj
                    simp [List.getD, List.getElem?_eq_getElem hjl])
                  simpa using this
                refine ⟨_, by rw [run_convert_bytes_string w s t e _ _ _ us ue ut, run_bytesToString w _ _ cap xs hload, foldl_push_bytes], ?_, Nat.le_trans hc hm⟩
                simp [byteStr, ByteArray.empty, ByteArray.emptyWithCapacity]
                rfl
            obtain ⟨b, hb, rfl, hlen⟩ := key
            unfold Oper.wp execOp
            simp only [ho, Sem.run_bind, hb, Result.andThen_ok, Sem.run_pure, Oper.upon_value]
            exact hkk _ M w (.d (.str (by unfold byteStr; rw [List.length_map]; exact hlen))) hG (Ext.refl _ _ _)
          · cases h
        · cases h
      · cases h
    · cases h
  · cases h

theorem AOps.cs {F : Fx} (hC : CxOk F.C) {L l : List Oper} {o : Oper} {env : Env} {H : Heap} {Q : Env → Heap → Prop} {d : Option Nat} {rows : List Row} (h : stepCS F.C L o env = some (d, rows)) {xs : List Int} (hr : rows = xs.map fun n => [D.int .u8 n]) (k : AOps F L l (put env d (.d (.str (byteStr xs)))) H Q) : AOps F L (o :: l) env H Q := by
  obtain ⟨h1, h2, h3⟩ := yields_cs (H := H) hC h hr
  exact .yields h1 h3 (by rw [dstF_eq h2]; exact k)
theorem AQ.cs {C : Cx} (hC : CxOk C) {L l : List Oper} {o : Oper} {env : Env} {H : Heap} {Q : Env → Prop} {d : Option Nat} {rows : List Row} (h : stepCS C L o env = some (d, rows)) {xs : List Int} (hr : rows = xs.map fun n => [D.int .u8 n]) (k : AQ C L l (put env d (.d (.str (byteStr xs)))) H Q) : AQ C L (o :: l) env H Q := by
  obtain ⟨h1, h2, h3⟩ := yields_cs (H := H) hC h hr
  exact .y _ h2 h1 h3 k
end Go.Am

