/-
  The abstract machine: a boolean looked at, bytes and parts of strings, parts of slices of data.
-/
import Derived.Test.YtmilgoloagbmpaaGreatDoorAmL
namespace Go.Am

theorem upd_self {env : Env} {t : Nat} {x : A} (h : env t = x) : upd env t x = env := by
  funext i
  unfold upd
  cases hb : Nat.beq i t with
  | true => obtain rfl := Nat.eq_of_beq_eq_true hb; exact h.symm
  | false => rfl

theorem AOps.split {F : Fx} {L l : List Oper} {env : Env} {H : Heap} {Q : Env → Heap → Prop} {b : Bool} (t : Nat) (hb : env t = .d (.bool b)) (h1 : b = true → AOps F L l (upd env t (.d (.bool true))) H Q) (h2 : b = false → AOps F L l (upd env t (.d (.bool false))) H Q) : AOps F L l env H Q := by
  cases b with
  | true => have := h1 rfl; rwa [upd_self hb] at this
  | false => have := h2 rfl; rwa [upd_self hb] at this
theorem AQ.split {C : Cx} {L l : List Oper} {env : Env} {H : Heap} {Q : Env → Prop} {b : Bool} (t : Nat) (hb : env t = .d (.bool b)) (h1 : b = true → AQ C L l (upd env t (.d (.bool true))) H Q) (h2 : b = false → AQ C L l (upd env t (.d (.bool false))) H Q) : AQ C L l env H Q := by
  cases b with
  | true => have := h1 rfl; rwa [upd_self hb] at this
  | false => have := h2 rfl; rwa [upd_self hb] at this

/-! ### a byte of a string -/

def stepX (C : Cx) (L : List Oper) (o : Oper) (env : Env) : Option (Option Nat × List UInt8 × Int) :=
  match wantedA L env o, o.op with
  | some true, .index t x y => match tget C.T t, ev C.GL env x, ev C.GL env y, dstF o with
    | some i, .d (.str s), .d (.int _ n), some d => match i.u with
      | .str => some (d, s, n)
      | _ => none
    | _, _, _, _ => none
  | _, _ => none

theorem stepX_spec {C : Cx} {L : List Oper} {o : Oper} {env : Env} {d : Option Nat} {s : List UInt8} {n : Int} (h : stepX C L o env = some (d, s, n)) : wantedA L env o = some true ∧ dstF o = some d := by
  unfold stepX at h
  split at h
  · rename_i t x y hw ho
    split at h
    · rename_i i s' k m d' ht hx hy hd
      split at h
      · simp only [Option.some.injEq, Prod.mk.injEq] at h
        exact ⟨hw, by rw [hd, h.1]⟩
      · cases h
    · cases h
  · cases h

theorem yields_byte {C : Cx} (hC : CxOk C) {L : List Oper} {o : Oper} {env : Env} {H : Heap} {d : Option Nat} {s : List UInt8} {n : Int} (h : stepX C L o env = some (d, s, n)) {k : Nat} {b : UInt8} (hn : n = k) (hk : s[k]? = some b) : Yields C o env H (.d (.int .u8 b.toNat)) := by
  intro M G w a next Qw hρ hG hgl hH hkk
  unfold stepX at h
  split at h
  · rename_i t x y hw ho
    rw [ho] at hρ
    split at h
    · rename_i i s' kd m d' ht hx hy hd
      split at h
      · rename_i hu
        simp only [Option.some.injEq, Prod.mk.injEq] at h
        obtain ⟨rfl, rfl, rfl⟩ := h
        have hxr := hρ x (by simp [Op.operands])
        have hyr := hρ y (by simp [Op.operands])
        rw [hx] at hxr
        rw [hy] at hyr
        generalize hxv : a.eval x = xv at hxr
        generalize hyv : a.eval y = yv at hyr
        cases hxr; rename_i hxr; cases hxr
        cases hyr; rename_i hyr; cases hyr
        have hd := under_str (hC.tok.facts ht) hu
        have hlt : k < s'.length := (List.getElem?_eq_some_iff.1 hk).1
        have hget : (⟨s'.toArray⟩ : ByteArray)[m.toNat]? = some b := by
          have e : m.toNat = k := by omega
          rw [e, getElem?_pos (⟨s'.toArray⟩ : ByteArray) k (by rw [size_mk]; exact hlt)]
          have := (List.getElem?_eq_some_iff.1 hk).2
          simpa [ByteArray.getElem_eq_getElem_data] using this
        unfold Oper.wp execOp
        have : (Instr.index t (.string ⟨s'.toArray⟩) (.int kd m)).run C.P w = .ok (.int .u8 b.toNat) w := by
          have hm : 0 ≤ m := by omega
          simp [Instr.index, asInt_ok, run_underlying hd, hm, hget]
        simp only [ho, hxv, hyv, Sem.run_bind, this, Result.andThen_ok, Sem.run_pure, Oper.upon_value]
        exact hkk _ M w (.d (.int (by rw [inK_u8]; have := b.toNat_lt; omega))) hG (Ext.refl _ _ _)
      · cases h
    · cases h
  · cases h

theorem AOps.x {F : Fx} (hC : CxOk F.C) {L l : List Oper} {o : Oper} {env : Env} {H : Heap} {Q : Env → Heap → Prop} {d : Option Nat} {s : List UInt8} {n : Int} (h : stepX F.C L o env = some (d, s, n)) {k : Nat} {b : UInt8} (hn : n = k) (hk : s[k]? = some b)
    (kk : AOps F L l (put env d (.d (.int .u8 b.toNat))) H Q) : AOps F L (o :: l) env H Q := by
  obtain ⟨h1, h2⟩ := stepX_spec h
  refine .yields h1 (yields_byte hC h hn hk) ?_
  rw [dstF_eq h2]
  exact kk
theorem AQ.x {C : Cx} (hC : CxOk C) {L l : List Oper} {o : Oper} {env : Env} {H : Heap} {Q : Env → Prop} {d : Option Nat} {s : List UInt8} {n : Int} (h : stepX C L o env = some (d, s, n)) {k : Nat} {b : UInt8} (hn : n = k) (hk : s[k]? = some b)
    (kk : AQ C L l (put env d (.d (.int .u8 b.toNat))) H Q) : AQ C L (o :: l) env H Q := .y _ (stepX_spec h).2 (stepX_spec h).1 (yields_byte hC h hn hk) kk

/-! ### parts -/

/-- a bound of a part, and where there is none -/
def bnd (GL : GT) (env : Env) (x : Option Operand) (dflt : Int) : Option Int :=
  match x with
  | none => some dflt
  | some y => match ev GL env y with | .d (.int _ n) => some n | _ => none

theorem bnd_ok {M : Mem} {G : Nat → Value} {GL : GT} {env : Env} {a : Act} {x : Option Operand} {dflt n : Int} (h : bnd GL env x dflt = some n) (hρ : ∀ y, x = some y → RelA M G (ev GL env y) (a.eval y)) :
    (x = none ∧ n = dflt) ∨ ∃ y k, x = some y ∧ a.eval y = .int k n := by
  unfold bnd at h
  split at h
  · simp only [Option.some.injEq] at h; exact .inl ⟨rfl, h.symm⟩
  · rename_i y
    split at h
    · rename_i k m hy
      simp only [Option.some.injEq] at h
      subst h
      have hr := hρ y rfl
      rw [hy] at hr
      generalize hv : a.eval y = v at hr
      cases hr; rename_i hr; cases hr
      exact .inr ⟨y, k, rfl, hv⟩
    · cases h

def stepL (C : Cx) (L : List Oper) (o : Oper) (env : Env) : Option (Option Nat × List UInt8 × Int × Int) :=
  match wantedA L env o, o.op with
  | some true, .slice t x lo hi none => match tget C.T t, ev C.GL env x, dstF o with
    | some i, .d (.str s), some d => match i.u, bnd C.GL env lo 0, bnd C.GL env hi (s.length : Nat) with
      | .str, some l, some h => some (d, s, l, h)
      | _, _, _ => none
    | _, _, _ => none
  | _, _ => none

theorem stepL_spec {C : Cx} {L : List Oper} {o : Oper} {env : Env} {r : Option Nat × List UInt8 × Int × Int} (h : stepL C L o env = some r) : wantedA L env o = some true ∧ dstF o = some r.1 := by
  unfold stepL at h
  split at h
  · rename_i t x lo hi hw ho
    split at h
    · rename_i i s' d' ht hx hd
      split at h
      · simp only [Option.some.injEq] at h
        subst h
        exact ⟨hw, hd⟩
      · cases h
    · cases h
  · cases h

theorem run_bounds {P : Program} {w : World} {isSl : Bool} {len cap l h : Nat} {lo hi : Option Value} (h1 : lo = none ∧ l = 0 ∨ ∃ k, lo = some (.int k (l : Int))) (h2 : hi = none ∧ h = len ∨ ∃ k, hi = some (.int k (h : Int))) (hle : l ≤ h) (hc : h ≤ cap) :
    (Instr.sliceBounds isSl len cap lo hi none).run P w = .ok (l, h, cap) w := by
  have b : ∀ (k : IntKind) (n y : Nat) (c : BoundsCode), n ≤ y → (Instr.sliceBound (.int k (n : Int)) y c).run P w = .ok n w := fun k n y c hy => by
    simp [Instr.sliceBound, asInt_ok, hy]
  rcases h1 with ⟨rfl, rfl⟩ | ⟨k, rfl⟩ <;> rcases h2 with ⟨rfl, rfl⟩ | ⟨k', rfl⟩ <;> simp [Instr.sliceBounds, b _ _ _ _ hle, b _ _ _ _ hc]

theorem bnd_val {a : Act} {x : Option Operand} {dflt n : Int} {l dl : Nat} (h : (x = none ∧ n = dflt) ∨ ∃ y k, x = some y ∧ a.eval y = .int k n) (hl : n = l) (hd : dflt = dl) : (x.map a.eval = none ∧ l = dl) ∨ ∃ k, x.map a.eval = some (.int k (l : Int)) := by
  rcases h with ⟨rfl, rfl⟩ | ⟨y, k, rfl, e⟩
  · exact .inl ⟨rfl, by omega⟩
  · exact .inr ⟨k, by simp [e, hl]⟩

theorem extract_mk (s : List UInt8) (l h : Nat) : (⟨s.toArray⟩ : ByteArray).extract l h = ⟨((s.take h).drop l).toArray⟩ := by
  apply ByteArray.ext
  rw [ByteArray.data_extract]
  simp [List.extract_toArray, List.drop_take]

theorem yields_part {C : Cx} (hC : CxOk C) {L : List Oper} {o : Oper} {env : Env} {H : Heap} {d : Option Nat} {s : List UInt8} {lo hi : Int} (h : stepL C L o env = some (d, s, lo, hi)) {l r : Nat} (hl : lo = l) (hr : hi = r) (hlr : l ≤ r) (hrs : r ≤ s.length) :
    Yields C o env H (.d (.str ((s.take r).drop l))) := by
  intro M G w a next Qw hρ hG hgl hH hkk
  unfold stepL at h
  split at h
  · rename_i t x lo' hi' hw ho
    rw [ho] at hρ
    split at h
    · rename_i i s' d' ht hx hd
      split at h
      · rename_i l' h' hu hbl hbh
        simp only [Option.some.injEq, Prod.mk.injEq] at h
        obtain ⟨rfl, rfl, rfl, rfl⟩ := h
        have hxr := hρ x (by simp [Op.operands])
        rw [hx] at hxr
        generalize hxv : a.eval x = xv at hxr
        cases hxr; rename_i hxr; cases hxr
        rename_i hsl
        have hd := under_str (hC.tok.facts ht) hu
        have e1 := bnd_val (bnd_ok hbl fun y hy => hρ y (by subst hy; simp [Op.operands])) hl rfl
        have e2 := bnd_val (bnd_ok hbh fun y hy => hρ y (by subst hy; simp [Op.operands])) hr rfl
        have : (Instr.sliceAt t (.string ⟨s'.toArray⟩) (lo'.map a.eval) (hi'.map a.eval) none).run C.P w = .ok (.string ⟨((s'.take r).drop l).toArray⟩) w := by
          have hb := run_bounds (P := C.P) (w := w) (isSl := false) (cap := s'.length) e1 e2 hlr hrs
          simp [Instr.sliceAt, Instr.slice, run_underlying hd, size_mk, hb, extract_mk s' l r]
        unfold Oper.wp execOp
        simp only [ho, hxv, Option.map_none, Sem.run_bind, this, Result.andThen_ok, Sem.run_pure, Oper.upon_value]
        exact hkk _ M w (.d (.str (by simp; omega))) hG (Ext.refl _ _ _)
      · cases h
    · cases h
  · cases h

theorem AOps.l {F : Fx} (hC : CxOk F.C) {L l : List Oper} {o : Oper} {env : Env} {H : Heap} {Q : Env → Heap → Prop} {d : Option Nat} {s : List UInt8} {lo hi : Int} (h : stepL F.C L o env = some (d, s, lo, hi)) {p r : Nat} (hl : lo = p) (hr : hi = r) (hlr : p ≤ r) (hrs : r ≤ s.length)
    (kk : AOps F L l (put env d (.d (.str ((s.take r).drop p)))) H Q) : AOps F L (o :: l) env H Q := by
  obtain ⟨h1, h2⟩ := stepL_spec h
  refine .yields h1 (yields_part hC h hl hr hlr hrs) ?_
  rw [dstF_eq h2]
  exact kk
theorem AQ.l {C : Cx} (hC : CxOk C) {L l : List Oper} {o : Oper} {env : Env} {H : Heap} {Q : Env → Prop} {d : Option Nat} {s : List UInt8} {lo hi : Int} (h : stepL C L o env = some (d, s, lo, hi)) {p r : Nat} (hl : lo = p) (hr : hi = r) (hlr : p ≤ r) (hrs : r ≤ s.length)
    (kk : AQ C L l (put env d (.d (.str ((s.take r).drop p)))) H Q) : AQ C L (o :: l) env H Q := .y _ (stepL_spec h).2 (stepL_spec h).1 (yields_part hC h hl hr hlr hrs) kk

/-- a part of a slice of data -/
def stepD (C : Cx) (L : List Oper) (o : Oper) (env : Env) : Option (Option Nat × List Row × Int × Int × Nat) :=
  match wantedA L env o, o.op with
  | some true, .slice t x lo hi none => match tget C.T t, rowsOf (ev C.GL env x), dstF o with
    | some i, some rows, some d => match i.u, bnd C.GL env lo 0, bnd C.GL env hi (rows.length : Nat) with
      | .sl e, some l, some h => match tget C.T e with | some j => some (d, rows, l, h, j.size) | none => none
      | _, _, _ => none
    | _, _, _ => none
  | _, _ => none

theorem stepD_spec {C : Cx} {L : List Oper} {o : Oper} {env : Env} {r : Option Nat × List Row × Int × Int × Nat} (h : stepD C L o env = some r) : wantedA L env o = some true ∧ dstF o = some r.1 := by
  unfold stepD at h
  split at h
  · rename_i t x lo hi hw ho
    split at h
    · rename_i i s' d' ht hx hd
      split at h
      · split at h
        · simp only [Option.some.injEq] at h
          subst h
          exact ⟨hw, hd⟩
        · cases h
      · cases h
    · cases h
  · cases h

theorem relD_part {M : Mem} {rows : List Row} {a : Addr} {len cap : Nat} (h : RelD M (.sl rows) (.slice (some a) len cap)) {sz l r : Nat} (hsz : ∀ x ∈ rows, x.length = sz) (hlr : l ≤ r) (hr : r ≤ rows.length) :
    RelD M (.sl ((rows.take r).drop l)) (.slice (some (if cap = l then a else a.add (l * sz))) (r - l) (cap - l)) := by
  cases h with
  | sl sz' vals hl hc hm hs hz h1 h2 =>
    by_cases he : cap = l
    · have : l = r := by omega
      subst this
      rw [if_pos he, show (rows.take l).drop l = [] by simp]
      exact .sl 0 (fun _ _ => undef) (by simp) (by omega) (by omega) (.inl (by omega)) (fun i r h => by simp at h) (fun i j r x h => by simp at h) (fun i j r x h => by simp at h)
    · rw [if_neg he]
      have hget : ∀ (i : Nat) x, ((rows.take r).drop l)[i]? = some x → rows[l + i]? = some x := fun i x hx => by
        rw [List.getElem?_drop, List.getElem?_take] at hx
        split at hx
        · exact hx
        · cases hx
      have hzz : ∀ (i : Nat) x, ((rows.take r).drop l)[i]? = some x → sz' = sz := fun i x hx => by
        have e1 := hz _ x (hget i x hx)
        have e2 := hsz x (List.mem_of_getElem? (hget i x hx))
        omega
      refine .sl sz (fun i j => vals (l + i) j) (by simp; omega) (by omega) (by omega) (.inr (by rw [addr_add_none (hs.resolve_left (by omega))])) (fun i x hx => by have := hzz i x hx; have := hz _ x (hget i x hx); omega) (fun i j x y hx hy => ?_) fun i j x y hx hy => h2 _ j x y (hget i x hx) hy
      have := h1 _ j x y (hget i x hx) hy
      rw [addr_add_add]
      rw [hzz i x hx] at this
      rwa [show l * sz + (i * sz + j) = (l + i) * sz + j by rw [Nat.add_mul]; omega]

theorem yields_sub {C : Cx} (hC : CxOk C) {L : List Oper} {o : Oper} {env : Env} {H : Heap} {d : Option Nat} {rows : List Row} {lo hi : Int} {sz : Nat} (h : stepD C L o env = some (d, rows, lo, hi, sz)) {l r : Nat} (hl : lo = l) (hr : hi = r) (hlr : l ≤ r) (hrs : r ≤ rows.length)
    (hsz : ∀ x ∈ rows, x.length = sz) : Yields C o env H (.d (.sl ((rows.take r).drop l))) := by
  intro M G w a next Qw hρ hG hgl hH hkk
  unfold stepD at h
  split at h
  · rename_i t x lo' hi' hw ho
    rw [ho] at hρ
    split at h
    · rename_i i rows' d' ht hx hd
      split at h
      · rename_i e l' h' hu hbl hbh
        split at h
        · rename_i j hj
          simp only [Option.some.injEq, Prod.mk.injEq] at h
          obtain ⟨rfl, rfl, rfl, rfl, rfl⟩ := h
          have hxr := rowsOf_rel hx (hρ x (by simp [Op.operands]))
          generalize hxv : a.eval x = xv at hxr
          have hd := under_sl (hC.tok.facts ht) hu
          have e1 := bnd_val (bnd_ok hbl fun y hy => hρ y (by subst hy; simp [Op.operands])) hl rfl
          have e2 := bnd_val (bnd_ok hbh fun y hy => hρ y (by subst hy; simp [Op.operands])) hr rfl
          obtain ⟨ad, cap, rfl, hcap, hrel⟩ : ∃ ad cap, xv = .slice ad rows'.length cap ∧ rows'.length ≤ cap ∧ RelD M (.sl ((rows'.take r).drop l)) (.slice (if cap = l then ad else ad.map (·.add (l * j.size))) (r - l) (cap - l)) := by
            cases hxr with
            | slnil =>
              simp at hrs
              obtain rfl : r = 0 := hrs
              obtain rfl : l = 0 := by omega
              exact ⟨none, 0, rfl, Nat.le_refl _, by simpa using RelD.slnil⟩
            | sl sz vals hl' hc hm hs hz h1 h2 =>
              rename_i ad len cap
              subst hl'
              refine ⟨some ad, cap, rfl, hc, ?_⟩
              have := relD_part (.sl sz vals rfl hc hm hs hz h1 h2) hsz hlr hrs
              by_cases he : cap = l
              · rw [if_pos he] at this ⊢; exact this
              · rw [if_neg he] at this ⊢; exact this
          have : (Instr.sliceAt t (.slice ad rows'.length cap) (lo'.map a.eval) (hi'.map a.eval) none).run C.P w = .ok (.slice (if cap = l then ad else ad.map (·.add (l * j.size))) (r - l) (cap - l)) w := by
            have hb := run_bounds (P := C.P) (w := w) (isSl := true) (len := rows'.length) (cap := cap) e1 e2 hlr (by omega)
            simp [Instr.sliceAt, Instr.slice, run_underlying hd, hb, sizeOf_of (hC.tok.facts hj) w]
          unfold Oper.wp execOp
          simp only [ho, hxv, Option.map_none, Sem.run_bind, this, Result.andThen_ok, Sem.run_pure, Oper.upon_value]
          exact hkk _ M w (.d hrel) hG (Ext.refl _ _ _)
        · cases h
      · cases h
    · cases h
  · cases h

theorem AOps.d {F : Fx} (hC : CxOk F.C) {L l : List Oper} {o : Oper} {env : Env} {H : Heap} {Q : Env → Heap → Prop} {d : Option Nat} {rows : List Row} {lo hi : Int} {sz : Nat} (h : stepD F.C L o env = some (d, rows, lo, hi, sz)) {p r : Nat} (hl : lo = p) (hr : hi = r) (hlr : p ≤ r) (hrs : r ≤ rows.length)
    (hsz : ∀ x ∈ rows, x.length = sz) (kk : AOps F L l (put env d (.d (.sl ((rows.take r).drop p)))) H Q) : AOps F L (o :: l) env H Q := by
  obtain ⟨h1, h2⟩ := stepD_spec h
  refine .yields h1 (yields_sub hC h hl hr hlr hrs hsz) ?_
  rw [dstF_eq h2]
  exact kk
theorem AQ.d {C : Cx} (hC : CxOk C) {L l : List Oper} {o : Oper} {env : Env} {H : Heap} {Q : Env → Prop} {d : Option Nat} {rows : List Row} {lo hi : Int} {sz : Nat} (h : stepD C L o env = some (d, rows, lo, hi, sz)) {p r : Nat} (hl : lo = p) (hr : hi = r) (hlr : p ≤ r) (hrs : r ≤ rows.length)
    (hsz : ∀ x ∈ rows, x.length = sz) (kk : AQ C L l (put env d (.d (.sl ((rows.take r).drop p)))) H Q) : AQ C L (o :: l) env H Q := .y _ (stepD_spec h).2 (stepD_spec h).1 (yields_sub hC h hl hr hlr hrs hsz) kk

/-- the part of no elements and no room -/
def stepE (C : Cx) (L : List Oper) (o : Oper) (env : Env) : Option (Option Nat) :=
  match wantedA L env o, o.op with
  | some true, .slice t x none (some (.const (.int _ 0))) (some (.const (.int _ 0))) => match tget C.T t, rowsOf (ev C.GL env x), dstF o with
    | some i, some _, some d => match i.u with
      | .sl e => match tget C.T e with | some _ => some d | none => none
      | _ => none
    | _, _, _ => none
  | _, _ => none

theorem stepE_spec {C : Cx} {L : List Oper} {o : Oper} {env : Env} {d : Option Nat} (h : stepE C L o env = some d) : wantedA L env o = some true ∧ dstF o = some d := by
  unfold stepE at h
  split at h
  · rename_i t x k k' hw ho
    split at h
    · rename_i i rows d' ht hx hd
      split at h
      · split at h
        · simp only [Option.some.injEq] at h
          subst h
          exact ⟨hw, hd⟩
        · cases h
      · cases h
    · cases h
  · cases h

theorem yields_none {C : Cx} (hC : CxOk C) {L : List Oper} {o : Oper} {env : Env} {H : Heap} {d : Option Nat} (h : stepE C L o env = some d) : Yields C o env H (.full []) := by
  intro M G w a next Qw hρ hG hgl hH hkk
  unfold stepE at h
  split at h
  · rename_i t x k k' hw ho
    rw [ho] at hρ
    split at h
    · rename_i i rows' d' ht hx hd
      split at h
      · rename_i e hu
        split at h
        · rename_i j hj
          have hxr := rowsOf_rel hx (hρ x (by simp [Op.operands]))
          generalize hxv : a.eval x = xv at hxr
          have hd := under_sl (hC.tok.facts ht) hu
          obtain ⟨ad, cap, rfl⟩ : ∃ ad cap, xv = .slice ad rows'.length cap := by
            cases hxr with
            | slnil => exact ⟨none, 0, rfl⟩
            | sl sz vals hl' hc hm hs hz h1 h2 =>
              rename_i ad len cap
              subst hl'
              exact ⟨some ad, cap, rfl⟩
          have : (Instr.sliceAt t (.slice ad rows'.length cap) none (some (.int k 0)) (some (.int k' 0))).run C.P w = .ok (.slice ad 0 0) w := by
            have b : ∀ (k : IntKind) (y : Nat) (c : BoundsCode), (Instr.sliceBound (.int k 0) y c).run C.P w = .ok 0 w := fun k y c => by simp [Instr.sliceBound, asInt_ok]
            simp [Instr.sliceAt, Instr.slice, run_underlying hd, Instr.sliceBounds, b, sizeOf_of (hC.tok.facts hj) w]
          unfold Oper.wp execOp
          have ec : ∀ v, a.eval (.const v) = v := fun _ => rfl
          simp only [ho, hxv, Option.map_none, Option.map_some, ec, Sem.run_bind, this, Result.andThen_ok, Sem.run_pure, Oper.upon_value]
          refine hkk _ M w ?_ hG (Ext.refl _ _ _)
          cases ad with
          | none => exact .full .slnil trivial
          | some z => exact .full (.sl 0 (fun _ _ => undef) rfl (Nat.le_refl _) (by unfold maxLen; omega) (.inl rfl) (fun i r h => by simp at h) (fun i j r x h => by simp at h) (fun i j r x h => by simp at h)) rfl
        · cases h
      · cases h
    · cases h
  · cases h

theorem AOps.e {F : Fx} (hC : CxOk F.C) {L l : List Oper} {o : Oper} {env : Env} {H : Heap} {Q : Env → Heap → Prop} {d : Option Nat} (h : stepE F.C L o env = some d) (kk : AOps F L l (put env d (.full [])) H Q) : AOps F L (o :: l) env H Q := by
  obtain ⟨h1, h2⟩ := stepE_spec h
  refine .yields h1 (yields_none hC h) ?_
  rw [dstF_eq h2]
  exact kk

end Go.Am

