/-
  The abstract machine: states, the judgements on operations ('AOps') and code ('AEx'), and their rules but for calls and for regions that draw their order.
-/
import Derived.Test.YtmilgoloagbmpaaGreatDoorAmD
import Derived.Tactics
import Derived.Laws.CopyRow
namespace Go.Am

/-- a block whose every cell is known -/
def Sealed (M : Mem) (w : World) (b : Nat) : Prop := ∃ vs t f, w.heap[b]? = some (.cells vs t f) ∧ 0 < vs.size ∧ ∀ i, i < vs.size → M ⟨b, i, none⟩ ≠ none

structure Cx where
  P : Program
  T : TT
  GL : GT
  /-- what else is known of the immutable cells, and of the blocks that are wholly known -/
  gp : Mem → World → Prop
  gpm : ∀ {M M' : Mem} {w w' : World}, (∀ a v, M a = some v → M' a = some v) → (∀ b, Sealed M w b → w'.heap[b]? = w.heap[b]?) → gp M w → gp M' w'

structure CxOk (C : Cx) : Prop where
  tok : TOk C.P C.T
  mixed : C.P.follows .mixedOrders = true

theorem not_own {M : Mem} {G : Nat → Value} {w : World} {H : Heap} (hH : HRel M G w H) {b : Nat} (hs : Sealed M w b) : ¬ own G H b := by
  rintro ⟨o, x, ho, hb⟩
  obtain ⟨vs, t, f, h1, h2, h3⟩ := hs
  have hob := hH.obj o x ho
  generalize G o = g at hb hob
  cases x with
  | dead => simp [blk] at hb
  | row cells elem =>
    obtain ⟨b', us, rfl, _, _, _, _, h6⟩ := hob
    simp [blk] at hb; subst hb
    exact h3 0 h2 (h6 0 none)
  | tok elem sz =>
    rcases hob with rfl | ⟨a, n, cap, rfl, _, _, _, h4⟩
    · simp [blk] at hb
    · simp only [blk] at hb
      split at hb
      · rename_i hlt
        obtain ⟨_, us, g1, g2, g3⟩ := h4 hlt
        simp at hb; subst hb
        rw [h1] at g1
        cases g1
        have hm : (n + 1) * sz ≤ cap * sz := Nat.mul_le_mul_right sz hlt
        rw [Nat.add_mul, Nat.one_mul] at hm
        rcases Nat.eq_zero_or_pos sz with h0 | h0
        · subst h0
          exact h3 0 h2 (g3 0 none (by omega))
        · exact h3 (vs.size - 1) (by omega) (g3 (vs.size - 1) none (by omega))
      · cases hb
  | map es =>
    obtain ⟨b', ms, cl, rfl, g1, _⟩ := hob
    simp [blk] at hb; subst hb
    rw [h1] at g1
    cases g1
  | bld o' elem =>
    obtain ⟨b', v0, rfl, _, _, _, h6⟩ := hob
    simp [blk] at hb; subst hb
    exact h3 0 h2 (h6 0 none)
  | buf elem bs =>
    rcases hob with ⟨_, ⟨rfl, _⟩ | ⟨b', cap, cur, rfl, _, _, _, _, _, h6⟩⟩
    · simp [blk] at hb
    · simp [blk] at hb; subst hb
      exact h3 0 h2 (h6 0 none)

structure GlOk (C : Cx) (M : Mem) (w : World) : Prop where
  tab : ∀ G g cs, gget C.GL g = some cs → RelA M G (.ptr cs) (.pointer (some ⟨g, 0, none⟩))
  gp : C.gp M w

theorem GlOk.ext {C : Cx} {M M' : Mem} {w w' : World} {G : Nat → Value} {H : Heap} {S : Nat → Prop} (h : GlOk C M w) (hH : HRel M G w H) (he : Ext S M w M' w') (hS : ∀ b, S b → own G H b) : GlOk C M' w' :=
  ⟨fun G g cs e => (h.tab G g cs e).mono' he.mono, C.gpm he.mono (fun b hb => he.block b (by obtain ⟨vs, t, f, h1, _⟩ := hb; exact (Array.getElem?_eq_some_iff.1 h1).1) fun hs => not_own hH hb (hS b hs)) h.gp⟩

structure St (C : Cx) (N : Nat) (M : Mem) (G : Nat → Value) (w : World) (env : Env) (H : Heap) (a : Act) : Prop where
  good : Good M w
  gl : GlOk C M w
  hrel : HRel M G w H
  env : ∀ t, RelA M G (env t) (a.tmps.getD t undef)
  size : a.tmps.size = N
  defers : a.defers = []

def isTok : Ob → Bool
  | .tok .. => true
  | .buf .. => true
  | _ => false

/-- how things stood when the function began -/
structure Fr where
  H0 : Heap
  G0 : Nat → Value
  M0 : Mem
  w0 : World

structure Since (fr : Fr) (M : Mem) (G : Nat → Value) (w : World) (H : Heap) : Prop where
  ext : Ext (own fr.G0 fr.H0) fr.M0 fr.w0 M w
  own : ∀ b, own G H b → own fr.G0 fr.H0 b ∨ fr.w0.heap.size ≤ b
  len : fr.H0.length ≤ H.length
  keep : ∀ (o : Nat) x, fr.H0[o]? = some x → isTok x = false → G o = fr.G0 o
  kind : ∀ (o : Nat) x y, fr.H0[o]? = some x → isTok x = false → H[o]? = some y → isTok y = false

structure Fx where
  C : Cx
  N : Nat
  K : Nat

theorem St.eval {C : Cx} {N : Nat} {M : Mem} {G : Nat → Value} {w : World} {env : Env} {H : Heap} {a : Act} (h : St C N M G w env H a) (y : Operand) : RelA M G (ev C.GL env y) (a.eval y) := by
  cases y with
  | tmp t => exact h.env t
  | const v => exact relA_const M G v
  | global g =>
    simp only [ev]
    split
    · exact h.gl.tab G g _ (by assumption)
    · exact .junk
  | func f => exact .clo rfl fun i x v h => by simp at h

theorem put_env {env : Env} {dst : Option Nat} {x : A} {a : Act} {v : Value} {N : Nat} {M : Mem} {G : Nat → Value} (he : ∀ t, RelA M G (env t) (a.tmps.getD t undef)) (hs : a.tmps.size = N) (hd : ∀ d, dst = some d → d < N) (hx : RelA M G x v) :
    (∀ t, RelA M G (put env dst x t) ((a.put dst v).tmps.getD t undef)) ∧ (a.put dst v).tmps.size = N ∧ (a.put dst v).defers = a.defers := by
  cases dst with
  | none => exact ⟨he, hs, rfl⟩
  | some d =>
    refine ⟨fun t => ?_, by simp [Act.put, hs], rfl⟩
    have hlt := hd d rfl
    simp only [put, upd, Act.put]
    cases hb : Nat.beq t d with
    | true =>
      have := Nat.eq_of_beq_eq_true hb
      subst this
      simp only [cond_true]
      have : t < a.tmps.size := by omega
      simpa [this] using hx
    | false =>
      have hne : d ≠ t := fun e => by subst e; simp at hb
      simp only [cond_false]
      have := he t
      simpa [Array.getElem?_setIfInBounds_ne hne] using this

/-- the state behind a quiet operation -/
theorem St.quiet {C : Cx} {N : Nat} {M M' : Mem} {G : Nat → Value} {w w' : World} {env : Env} {H : Heap} {a : Act} (h : St C N M G w env H a) {dst : Option Nat} (hd : ∀ d, dst = some d → d < N) {x : A} {v : Value}
    (hx : RelA M' G x v) (hg : Good M' w') (he : Ext none' M w M' w') : St C N M' G w' (put env dst x) H (a.put dst v) := by
  obtain ⟨h1, h2, h3⟩ := put_env (fun t => (h.env t).mono' he.mono) h.size hd hx
  exact ⟨hg, h.gl.ext h.hrel he (fun _ h => h.elim), h.hrel.ext he (fun _ _ => id), h1, h2, h3.trans h.defers⟩

theorem Since.quiet {fr : Fr} {M M' : Mem} {G : Nat → Value} {w w' : World} {H : Heap} (h : Since fr M G w H) (he : Ext none' M w M' w') : Since fr M' G w' H :=
  ⟨h.ext.trans he (fun _ h => h.elim), h.own, h.len, h.keep, h.kind⟩

/-- the operation yields x whatever else there is -/
def Yields (C : Cx) (o : Oper) (env : Env) (H : Heap) (x : A) : Prop :=
  ∀ M G w (a : Act) (next : Act → World → Prop) (Qw : Exit → Act → World → Prop), (∀ y ∈ o.op.operands, RelA M G (ev C.GL env y) (a.eval y)) → Good M w → GlOk C M w → HRel M G w H →
    (∀ v M' w', RelA M' G x v → Good M' w' → Ext none' M w M' w' → next (a.put o.dst v) w') → o.wp C.P a w next Qw

theorem yields_op {C : Cx} (hC : CxOk C) {o : Oper} {env : Env} {H : Heap} {c : Prop} {x : A} (h : opA C.T C.GL o.op env H = some (c, x)) (hc : c) : Yields C o env H x := by
  intro M G w a next Qw hρ hG _ hH hk
  obtain ⟨v, h1, h2⟩ := opA_ok hC.tok hG hH o hρ h hc
  unfold Oper.wp
  rw [h1]
  exact hk v M w h2 hG (Ext.refl _ _ _)

/-- the guard of an operation -/
def wantedA (L : List Oper) (env : Env) (o : Oper) : Option Bool :=
  match o.guard with
  | none => some true
  | some (j, want) =>
    match nth L j with
    | some p => match p.dst with
      | some d => match env d with
        | .d (.bool b) => some (b == want)
        | .tup [] => some false
        | _ => none
      | none => none
    | none => none

theorem wantedA_ok {C : Cx} {N : Nat} {M : Mem} {G : Nat → Value} {w : World} {env : Env} {H : Heap} {a : Act} (h : St C N M G w env H a) {L : List Oper} {o : Oper} {b : Bool} (hw : wantedA L env o = some b) :
    Region.wanted o (yielded L.toArray a.tmps) = b := by
  unfold wantedA at hw
  unfold Region.wanted
  split at hw
  · rename_i hg
    rw [hg]
    simpa using hw
  · rename_i j want hg
    rw [hg]
    split at hw
    · rename_i p hp
      split at hw
      · rename_i d hd
        split at hw
        · rename_i b' he
          simp only [Option.some.injEq] at hw
          have hr := h.env d
          rw [he] at hr
          generalize hv : a.tmps.getD d undef = v at hr
          cases hr; rename_i hr; cases hr
          have hlt : d < a.tmps.size := by
            rcases Nat.lt_or_ge d a.tmps.size with h' | h'
            · exact h'
            · simp [Array.getElem?_eq_none h', undef] at hv
          have : yielded L.toArray a.tmps j = some b' := by
            unfold yielded
            rw [nth_eq] at hp
            simp only [List.getElem?_toArray, hp, Option.bind_some, hd]
            simp [hlt] at hv
            simp [hlt, hv]
          simp only [this]
          subst hw
          cases b' <;> cases want <;> rfl
        · rename_i he
          simp only [Option.some.injEq] at hw
          subst hw
          have hr := h.env d
          rw [he] at hr
          generalize hv : a.tmps.getD d undef = v at hr
          cases hr
          rename_i vs hl _
          have e : vs = #[] := Array.eq_empty_of_size_eq_zero (by simpa using hl.symm)
          subst e
          have : yielded L.toArray a.tmps j = none := by
            unfold yielded
            rw [nth_eq] at hp
            simp only [List.getElem?_toArray, hp, Option.bind_some, hd]
            rcases Nat.lt_or_ge d a.tmps.size with h' | h'
            · simp [h'] at hv
              simp [h', hv]
            · simp [Array.getElem?_eq_none h']
          simp only [this]
          cases want <;> rfl
        · cases hw
      · cases hw
    · cases hw

def dstOk (N : Nat) (o : Oper) : Bool := match o.dst with | some d => Nat.blt d N | none => true

theorem dstOk_spec {N : Nat} {o : Oper} (h : dstOk N o = true) : ∀ d, o.dst = some d → d < N := by
  intro d hd
  unfold dstOk at h
  rw [hd] at h
  exact Nat.le_of_ble_eq_true h

/-- operations one behind the other -/
def AOps (F : Fx) (L l : List Oper) (env : Env) (H : Heap) (Q : Env → Heap → Prop) : Prop :=
  ∀ fr M G w a (Qw : Exit → Act → World → Prop), fr.H0.length = F.K → (∀ o ∈ l, dstOk F.N o = true) → St F.C F.N M G w env H a → Since fr M G w H →
    (∀ env' H' M' G' w' a', Q env' H' → St F.C F.N M' G' w' env' H' a' → Since fr M' G' w' H' → Qw .normal a' w') → wpList F.C.P L.toArray Qw l a w

theorem AOps.nil {F : Fx} {L : List Oper} {env : Env} {H : Heap} {Q : Env → Heap → Prop} (h : Q env H) : AOps F L [] env H Q :=
  fun _ _ _ _ _ _ _ _ hs hsi hq => wpList_nil (hq _ _ _ _ _ _ h hs hsi)

/-- an operation that is not wanted -/
theorem AOps.skip {F : Fx} {L l : List Oper} {o : Oper} {env : Env} {H : Heap} {Q : Env → Heap → Prop} (hw : wantedA L env o = some false) (k : AOps F L l (put env o.dst (.tup [])) H Q) : AOps F L (o :: l) env H Q := by
  intro fr M G w a Qw hK hd hs hsi hq
  refine wpList_step fun K hKK => ?_
  rw [wantedA_ok hs hw]
  simp only [Bool.false_eq_true, if_false]
  refine hKK _ _ (k fr M G w _ Qw hK (fun o ho => hd o (List.mem_cons_of_mem _ ho)) ?_ hsi hq)
  exact hs.quiet (dstOk_spec (hd o List.mem_cons_self)) (.tup rfl fun i x v h => by simp at h) hs.good (Ext.refl _ _ _)

theorem AOps.yields {F : Fx} {L l : List Oper} {o : Oper} {env : Env} {H : Heap} {Q : Env → Heap → Prop} {x : A} (hw : wantedA L env o = some true) (hy : Yields F.C o env H x) (k : AOps F L l (put env o.dst x) H Q) : AOps F L (o :: l) env H Q := by
  intro fr M G w a Qw hK hd hs hsi hq
  refine wpList_step fun K hKK => ?_
  rw [wantedA_ok hs hw]
  simp only [if_true]
  refine hy M G w a K Qw (fun y _ => hs.eval y) hs.good hs.gl hs.hrel fun v M' w' h1 h2 h3 => ?_
  exact hKK _ _ (k fr M' G w' _ Qw hK (fun o ho => hd o (List.mem_cons_of_mem _ ho)) (hs.quiet (dstOk_spec (hd o List.mem_cons_self)) h1 h2 h3) (hsi.quiet h3) hq)

theorem AOps.op {F : Fx} (hC : CxOk F.C) {L l : List Oper} {o : Oper} {env : Env} {H : Heap} {Q : Env → Heap → Prop} {c : Prop} {x : A} (hw : wantedA L env o = some true) (h : opA F.C.T F.C.GL o.op env H = some (c, x)) (hc : c)
    (k : AOps F L l (put env o.dst x) H Q) : AOps F L (o :: l) env H Q := .yields hw (yields_op hC h hc) k

/-! ### operations that turn the memory -/

def updG (G : Nat → Value) (o : Nat) (v : Value) : Nat → Value := fun i => if i = o then v else G i

theorem updG_same {G : Nat → Value} {o : Nat} {v : Value} : updG G o v o = v := by simp [updG]
theorem updG_ne {G : Nat → Value} {o i : Nat} {v : Value} (h : i ≠ o) : updG G o v i = G i := by simp [updG, h]

theorem ext_alloc (S : Nat → Prop) (M : Mem) (w : World) (o : Obj) : Ext S M w M (w.alloc o) :=
  ⟨fun _ _ h => h, by simp, rfl, rfl, rfl, fun b hb _ => heap_alloc_old w o b hb, fun _ _ h => .inl h⟩

theorem Good.alloc {M : Mem} {w : World} (h : Good M w) (o : Obj) : Good M (w.alloc o) := fun a v e => ⟨(h a v e).1, by rw [World.cell?_alloc_lt w o a (h.lt e)]; exact (h a v e).2⟩

/-- a new row of cells -/
theorem St.newRow {C : Cx} {N : Nat} {M : Mem} {G : Nat → Value} {w : World} {env : Env} {H : Heap} {a : Act} (h : St C N M G w env H a) {dst : Option Nat} (hd : ∀ d, dst = some d → d < N) {cs : List A} {vs : Array Value} {elem : TypeId}
    (hc : CellsRel M G cs vs) : St C N M (updG G H.length (.pointer (some ⟨w.heap.size, 0, none⟩))) (w.alloc (.cells vs elem)) (put env dst (.ref H.length 0)) (H ++ [.row cs elem]) (a.put dst (.pointer (some ⟨w.heap.size, 0, none⟩))) := by
  have hmono : ∀ {x : A} {v : Value}, RelA M G x v → RelA M (updG G H.length (.pointer (some ⟨w.heap.size, 0, none⟩))) x v := fun hr => hr.mono (fun _ _ e => e) fun o hn => updG_ne (Nat.ne_of_lt (h.hrel.lt hr hn))
  obtain ⟨h1, h2, h3⟩ := put_env (fun t => hmono (h.env t)) h.size hd (x := .ref H.length 0) (v := .pointer (some ⟨w.heap.size, 0, none⟩)) (.ref updG_same)
  refine ⟨h.good.alloc _, h.gl.ext h.hrel (ext_alloc none' _ _ _) (fun _ h => h.elim), ⟨fun o x ho => ?_, fun o o' x x' b ho ho' hb hb' => ?_, fun o ho => ?_⟩, h1, h2, h3.trans h.defers⟩
  · rcases Nat.lt_trichotomy o H.length with hlt | rfl | hgt
    · rw [List.getElem?_append_left hlt] at ho
      rw [updG_ne (Nat.ne_of_lt hlt)]
      have hob := h.hrel.obj o x ho
      have hk : ObRel M G (w.alloc (.cells vs elem)) x (G o) := hob.keep (fun _ _ e => e) (fun b hb => heap_alloc_old w _ b (blk_lt hob hb)) (fun _ _ _ _ e => e)
      cases x with
      | dead => trivial
      | row cells e =>
        obtain ⟨b, us, g1, g2, g3, g4, g5, g6⟩ := hk
        exact ⟨b, us, g1, g2, g3, g4, fun i y v a c => hmono (g5 i y v a c), g6⟩
      | tok e sz => exact hk
      | map es =>
        obtain ⟨b, ms, cl, g1, g2, g3, g4, g5⟩ := hk
        exact ⟨b, ms, cl, g1, g2, g3, fun i k cs e a c => ⟨(g4 i k cs e a c).1, hmono (g4 i k cs e a c).2⟩, g5⟩
      | bld o' e =>
        obtain ⟨b, v0, g1, g2, g3, g4, g5⟩ := hk
        have ho' : o' ≠ H.length := fun e => g4 (by rw [e]; exact h.hrel.fresh _ (Nat.le_refl _))
        exact ⟨b, v0, g1, by rw [updG_ne ho']; exact g2, g3, by rw [updG_ne ho']; exact g4, g5⟩
      | buf e sz => exact hk
    · simp at ho
      subst ho
      rw [updG_same]
      exact ⟨w.heap.size, vs, rfl, heap_alloc_new w _, hc.1.symm, hc.2.1, fun i x v a b => hmono (hc.2.2 i x v a b), fun off sp => by
        cases hM : M ⟨w.heap.size, off, sp⟩ with
        | none => rfl
        | some v => have := h.good.lt hM; simp at this⟩
    · rw [List.getElem?_eq_none (by simp; omega)] at ho
      cases ho
  · have key : ∀ (o : Nat) x b, (H ++ [Ob.row cs elem])[o]? = some x → blk x (updG G H.length (.pointer (some ⟨w.heap.size, 0, none⟩)) o) = some b → (o < H.length ∧ H[o]? = some x ∧ blk x (G o) = some b ∧ b < w.heap.size) ∨ (o = H.length ∧ b = w.heap.size) := by
      intro o x b ho hb
      rcases Nat.lt_trichotomy o H.length with hlt | rfl | hgt
      · rw [List.getElem?_append_left hlt] at ho
        rw [updG_ne (Nat.ne_of_lt hlt)] at hb
        exact .inl ⟨hlt, ho, hb, blk_lt (h.hrel.obj o x ho) hb⟩
      · simp at ho
        subst ho
        rw [updG_same] at hb
        simp [blk] at hb
        exact .inr ⟨rfl, hb.symm⟩
      · rw [List.getElem?_eq_none (by simp; omega)] at ho
        cases ho
    rcases key o x b ho hb with ⟨q1, q2, q3, q4⟩ | ⟨q1, q2⟩ <;> rcases key o' x' b ho' hb' with ⟨p1, p2, p3, p4⟩ | ⟨p1, p2⟩
    · exact h.hrel.apart o o' x x' b q2 p2 q3 p3
    · omega
    · omega
    · omega
  · simp at ho
    rw [updG_ne (by omega)]
    exact h.hrel.fresh o (by omega)

theorem Since.newRow {fr : Fr} {M : Mem} {G : Nat → Value} {w : World} {H : Heap} (h : Since fr M G w H) {cs : List A} {vs : Array Value} {elem : TypeId} :
    Since fr M (updG G H.length (.pointer (some ⟨w.heap.size, 0, none⟩))) (w.alloc (.cells vs elem)) (H ++ [.row cs elem]) := by
  refine ⟨h.ext.trans (ext_alloc none' _ _ _) (fun _ h => h.elim), fun b hb => ?_, by simp; have := h.len; omega, fun o x ho ht => ?_, fun o x y ho ht hy => ?_⟩
  · obtain ⟨o, x, ho, hx⟩ := hb
    rcases Nat.lt_trichotomy o H.length with hlt | rfl | hgt
    · rw [List.getElem?_append_left hlt] at ho
      rw [updG_ne (Nat.ne_of_lt hlt)] at hx
      exact h.own b ⟨o, x, ho, hx⟩
    · simp at ho
      subst ho
      rw [updG_same] at hx
      simp [blk] at hx
      subst hx
      exact .inr h.ext.size
    · rw [List.getElem?_eq_none (by simp; omega)] at ho
      cases ho
  · have hlt : o < H.length := Nat.lt_of_lt_of_le (List.getElem?_eq_some_iff.1 ho).1 h.len
    rw [updG_ne (Nat.ne_of_lt hlt)]
    exact h.keep o x ho ht
  · have hlt : o < H.length := Nat.lt_of_lt_of_le (List.getElem?_eq_some_iff.1 ho).1 h.len
    rw [List.getElem?_append_left hlt] at hy
    exact h.kind o x y ho ht hy

theorem aops_step {F : Fx} {L l : List Oper} {o : Oper} {env : Env} {H : Heap} {Q : Env → Heap → Prop} (hw : wantedA L env o = some true)
    (h : ∀ fr M G w a (K : Act → World → Prop) (Qw : Exit → Act → World → Prop), fr.H0.length = F.K → dstOk F.N o = true → St F.C F.N M G w env H a → Since fr M G w H →
      (∀ x env' H' M' G' w' v, AOps F L l (put env' o.dst x) H' Q → St F.C F.N M' G' w' (put env' o.dst x) H' (a.put o.dst v) → Since fr M' G' w' H' → K (a.put o.dst v) w') → o.wp F.C.P a w K Qw) : AOps F L (o :: l) env H Q := by
  intro fr M G w a Qw hK hd hs hsi hq
  refine wpList_step fun K hKK => ?_
  rw [wantedA_ok hs hw]
  simp only [if_true]
  refine h fr M G w a K Qw hK (hd o List.mem_cons_self) hs hsi fun x env' H' M' G' w' v k hs' hsi' => ?_
  exact hKK _ _ (k fr M' G' w' _ Qw hK (fun o ho => hd o (List.mem_cons_of_mem _ ho)) hs' hsi' hq)

theorem AOps.alloc {F : Fx} (hC : CxOk F.C) {L l : List Oper} {o : Oper} {env : Env} {H : Heap} {Q : Env → Heap → Prop} {t : Nat} {i : TI} (hw : wantedA L env o = some true) (ho : o.op = .alloc t) (ht : tget F.C.T t = some i)
    (k : AOps F L l (put env o.dst (.ref H.length 0)) (H ++ [.row (i.zero.map .d) t]) Q) : AOps F L (o :: l) env H Q := by
  refine aops_step hw fun fr M G w a K Qw hK hd hs hsi hk => ?_
  obtain ⟨z, h1, h2, _⟩ := cells_zero (M := M) (G := G) hC.tok ht
  have hr : (execOp a.eval o).run F.C.P w = .ok (.value (.pointer (some ⟨w.heap.size, 0, none⟩))) (w.alloc (.cells z.cells t)) := by
    unfold execOp
    simp [ho, Instr.alloc, h1, newVar, newRow]
  unfold Oper.wp
  rw [hr]
  exact hk _ _ _ _ _ _ _ k (hs.newRow (dstOk_spec hd) h2) (Since.newRow hsi)

theorem AOps.box {F : Fx} {L l : List Oper} {o : Oper} {env : Env} {H : Heap} {Q : Env → Heap → Prop} {t : Nat} {y : Operand} {cs : List A} (hw : wantedA L env o = some true) (ho : o.op = .box t y) (hy : acells (ev F.C.GL env y) = some cs)
    (k : AOps F L l (put env o.dst (.ref H.length 0)) (H ++ [.row cs t]) Q) : AOps F L (o :: l) env H Q := by
  refine aops_step hw fun fr M G w a K Qw hK hd hs hsi hk => ?_
  obtain ⟨c1, c2, c3⟩ := acells_rel (hs.eval y) hy
  have hr : (execOp a.eval o).run F.C.P w = .ok (.value (.pointer (some ⟨w.heap.size, 0, none⟩))) (w.alloc (.cells (a.eval y).cells t)) := by
    unfold execOp
    simp [ho, Instr.box, newVar, newRow]
  unfold Oper.wp
  rw [hr]
  exact hk _ _ _ _ _ _ _ k (hs.newRow (dstOk_spec hd) ⟨c1.symm, c2, c3⟩) (Since.newRow hsi)

/-! ### a store -/

def hset : Heap → Nat → Ob → Heap
  | [], _, _ => []
  | _ :: r, 0, x => x :: r
  | y :: r, n + 1, x => y :: hset r n x

theorem hset_len : ∀ (H : Heap) (n : Nat) (x : Ob), (hset H n x).length = H.length
  | [], _, _ => rfl
  | _ :: _, 0, _ => rfl
  | _ :: r, n + 1, x => by simp [hset, hset_len r n x]

theorem hset_get : ∀ (H : Heap) (n : Nat) (x : Ob) (i : Nat), n < H.length → (hset H n x)[i]? = if i = n then some x else H[i]?
  | [], n, x, i, h => by simp at h
  | y :: r, 0, x, i, _ => by cases i <;> simp [hset]
  | y :: r, n + 1, x, i, h => by
    cases i with
    | zero => simp [hset]
    | succ i => simp only [hset, List.getElem?_cons_succ, hset_get r n x i (by simpa using h), Nat.add_right_cancel_iff]

theorem setRow_size (w : World) (g : Nat) (cs : Array Value) : (w.setRow g cs).heap.size = w.heap.size := by simp [World.setRow]

/-- cells of a row are written -/
theorem St.setRow {C : Cx} {N : Nat} {M : Mem} {G : Nat → Value} {w : World} {env : Env} {H : Heap} {a : Act} (h : St C N M G w env H a) {dst : Option Nat} (hd : ∀ d, dst = some d → d < N) {o b : Nat} {cs cs' : List A} {vs vs' : Array Value} {elem : TypeId}
    (ho : H[o]? = some (.row cs elem)) (hg : G o = .pointer (some ⟨b, 0, none⟩)) (hb : w.heap[b]? = some (.cells vs elem (0, 0))) (hc : CellsRel M G cs' vs') :
    St C N M G (w.setRow b vs') (put env dst .junk) (hset H o (.row cs' elem)) (a.put dst undef) ∧ Ext (fun x => x = b) M w M (w.setRow b vs') := by
  have hlt : o < H.length := (List.getElem?_eq_some_iff.1 ho).1
  have hown : blk (.row cs elem) (G o) = some b := by rw [hg]; rfl
  have hMb : ∀ off sp, M ⟨b, off, sp⟩ = none := by
    obtain ⟨b', us, g1, _, _, _, _, g6⟩ := h.hrel.obj o _ ho
    rw [hg] at g1
    simp at g1
    subst g1
    exact g6
  have hext : Ext (fun x => x = b) M w M (w.setRow b vs') :=
    ⟨fun _ _ e => e, by rw [setRow_size]; exact Nat.le_refl _, rfl, rfl, rfl, fun k _ hk => setRow_other w b k vs' hk, fun _ _ e => .inl e⟩
  obtain ⟨h1, h2, h3⟩ := put_env h.env h.size hd (x := .junk) (v := undef) .junk
  refine ⟨⟨h.good.ext hext (fun ad v e hk => ?_), h.gl.ext h.hrel hext (fun x hx => by subst hx; exact ⟨o, _, ho, hown⟩), ⟨fun i x hi => ?_, fun i i' x x' c hi hi' hx hx' => ?_, fun i hi => h.hrel.fresh i (by rw [hset_len] at hi; exact hi)⟩, h1, h2, h3.trans h.defers⟩, hext⟩
  · obtain ⟨bb, oo, ss⟩ := ad
    have hk' : bb = b := hk
    subst hk'
    rw [hMb] at e
    cases e
  · rw [hset_get H o _ i hlt] at hi
    split at hi
    · rename_i e
      subst e
      simp only [Option.some.injEq] at hi
      subst hi
      refine ⟨b, vs', hg, setRow_heap w b vs vs' elem (0, 0) hb, hc.1.symm, hc.2.1, hc.2.2, hMb⟩
    · rename_i hne
      have hob := h.hrel.obj i x hi
      exact hob.keep (fun _ _ e => e) (fun c hcb => setRow_other w b c vs' fun e => hne (h.hrel.apart i o x _ b hi ho (e ▸ hcb) hown)) (fun _ _ _ _ e => e)
  · have key : ∀ (n : Nat) z d, (hset H o (Ob.row cs' elem))[n]? = some z → blk z (G n) = some d → ∃ y, H[n]? = some y ∧ blk y (G n) = some d := by
      intro n z d hn hz
      rw [hset_get H o _ n hlt] at hn
      by_cases e : n = o
      · rw [if_pos e] at hn
        subst e
        obtain rfl := Option.some.inj hn
        exact ⟨_, ho, by rw [hg] at hz ⊢; exact hz⟩
      · rw [if_neg e] at hn
        exact ⟨z, hn, hz⟩
    obtain ⟨y, hy, hby⟩ := key i x c hi hx
    obtain ⟨y', hy', hby'⟩ := key i' x' c hi' hx'
    exact h.hrel.apart i i' y y' c hy hy' hby hby'

theorem Since.setRow {fr : Fr} {M : Mem} {G : Nat → Value} {w w' : World} {H : Heap} (h : Since fr M G w H) {o b : Nat} {cs cs' : List A} {elem : TypeId}
    (ho : H[o]? = some (.row cs elem)) (hg : G o = .pointer (some ⟨b, 0, none⟩)) (he : Ext (fun x => x = b) M w M w') : Since fr M G w' (hset H o (.row cs' elem)) := by
  have hlt : o < H.length := (List.getElem?_eq_some_iff.1 ho).1
  have hb : Go.Am.own G H b := ⟨o, _, ho, by rw [hg]; rfl⟩
  refine ⟨h.ext.trans he (fun x hx => by subst hx; exact h.own _ hb), fun c hc => ?_, by rw [hset_len]; exact h.len, h.keep, fun i x y hi ht hy => ?_⟩
  · obtain ⟨i, x, hi, hx⟩ := hc
    rw [hset_get H o _ i hlt] at hi
    by_cases e : i = o
    · rw [if_pos e] at hi
      subst e
      obtain rfl := Option.some.inj hi
      rw [hg] at hx
      simp [blk] at hx
      subst hx
      exact h.own _ hb
    · rw [if_neg e] at hi
      exact h.own c ⟨i, x, hi, hx⟩
  rw [hset_get H o _ i hlt] at hy
  by_cases e : i = o
  · rw [if_pos e] at hy
    obtain rfl := Option.some.inj hy
    rfl
  · rw [if_neg e] at hy
    exact h.kind i x y hi ht hy

/-- what a store comes to: the object, its cells behind the store, its type -/
def storeA (i : TI) (x y : A) (H : Heap) : Option (Nat × List A × Nat) :=
  match x, acells y with
  | .ref o off, some xs => match nth H o with
    | some (.row cells elem) => bif Nat.beq xs.length i.size && Nat.ble (off + i.size) cells.length then some (o, setAt cells off xs, elem) else none
    | _ => none
  | _, _ => none

theorem list_setAt (vs : List Value) (off : Nat) (us : List Value) (i : Nat) (h : off + us.length ≤ vs.length) :
    (vs.take off ++ us ++ vs.drop (off + us.length))[i]? = if off ≤ i ∧ i < off + us.length then us[i - off]? else vs[i]? := by
  by_cases h1 : i < off
  · rw [List.getElem?_append_left (by simp; omega), List.getElem?_append_left (by simp; omega), List.getElem?_take, if_pos h1, if_neg (by omega)]
  · by_cases h2 : i < off + us.length
    · rw [List.getElem?_append_left (by simp; omega), List.getElem?_append_right (by simp; omega), if_pos (by omega)]
      congr 1
      simp
      omega
    · rw [List.getElem?_append_right (by simp; omega), if_neg (by omega), List.getElem?_drop]
      congr 1
      simp
      omega

theorem AOps.store {F : Fx} (hC : CxOk F.C) {L l : List Oper} {o : Oper} {env : Env} {H : Heap} {Q : Env → Heap → Prop} {t : Nat} {x y : Operand} {i : TI} {p : Nat} {cs : List A} {e : Nat} (hw : wantedA L env o = some true) (ho : o.op = .store t x y)
    (ht : tget F.C.T t = some i) (hst : storeA i (ev F.C.GL env x) (ev F.C.GL env y) H = some (p, cs, e)) (k : AOps F L l (put env o.dst .junk) (hset H p (.row cs e)) Q) : AOps F L (o :: l) env H Q := by
  refine aops_step hw fun fr M G w a K Qw hK hd hs hsi hk => ?_
  have f := hC.tok.facts ht
  have hx := hs.eval x
  have hy := hs.eval y
  unfold storeA at hst
  split at hst
  · rename_i o' off xs hxe hye
    split at hst
    · rename_i cells elem hob
      cases hbb : Nat.beq xs.length i.size && Nat.ble (off + i.size) cells.length with
      | false => rw [hbb] at hst; cases hst
      | true =>
        rw [hbb] at hst
        simp only [cond_true, Option.some.injEq, Prod.mk.injEq] at hst
        obtain ⟨rfl, rfl, rfl⟩ := hst
        simp only [Bool.and_eq_true] at hbb
        have e1 := Nat.eq_of_beq_eq_true hbb.1
        have e2 := Nat.le_of_ble_eq_true hbb.2
        rw [hxe] at hx
        generalize hxv : a.eval x = xv at hx
        cases hx
        rename_i b hg
        rw [nth_eq] at hob
        obtain ⟨b', vs, g1, g2, g3, g4, g5, g6⟩ := hs.hrel.obj _ _ hob
        rw [hg] at g1
        simp at g1
        subst g1
        obtain ⟨a1, a2, a3⟩ := acells_rel hy hye
        have hst := run_storeCells_at F.C.P b off elem (a.eval y).cells.toList 0 vs w g2 (by simp only [Array.length_toList, a1]; omega) (fun v hv => by
          obtain ⟨n, hn⟩ := Array.getElem?_of_mem (Array.mem_toList_iff.1 hv)
          exact a2 n v hn)
        have hr : (execOp a.eval o).run F.C.P w = .ok .skip (w.setRow b (vs.toList.take off ++ (a.eval y).cells.toList ++ vs.toList.drop (off + (a.eval y).cells.toList.length)).toArray) := by
          unfold execOp
          simp only [ho, hxv, Instr.storeAt, Instr.sureAddr, storeVar, Sem.run_bind, Sem.run_pure, Result.andThen_ok, sizeOf_of f w]
          rw [if_neg (by simp [a1, e1])]
          simp only [Nat.add_zero] at hst
          simp [hst]
        have hlen : (a.eval y).cells.toList.length = xs.length := by simp [a1]
        have hc : CellsRel M G (setAt cells off xs) (vs.toList.take off ++ (a.eval y).cells.toList ++ vs.toList.drop (off + (a.eval y).cells.toList.length)).toArray := by
          have hget := fun n => list_setAt vs.toList off (a.eval y).cells.toList n (by rw [hlen]; simp only [Array.length_toList]; omega)
          refine ⟨?_, fun n v hv => ?_, fun n z v hz hv => ?_⟩
          · rw [setAt_len]
            simp
            omega
          · rw [List.getElem?_toArray, hget n] at hv
            split at hv
            · exact a2 _ v (by simpa using hv)
            · exact g4 n v (by simpa using hv)
          · rw [List.getElem?_toArray, hget n, hlen] at hv
            rw [setAt_get cells off xs n (by omega)] at hz
            by_cases hn : off ≤ n ∧ n < off + xs.length
            · rw [if_pos hn] at hz hv
              exact a3 _ z v hz (by simpa using hv)
            · rw [if_neg hn] at hz hv
              exact g5 n z v hz (by simpa using hv)
        obtain ⟨q1, q2⟩ := hs.setRow (dstOk_spec hd) hob hg g2 hc
        unfold Oper.wp
        rw [hr]
        exact hk _ _ _ _ _ _ _ k q1 (hsi.setRow hob hg q2)
    · cases hst
  · cases hst

end Go.Am

