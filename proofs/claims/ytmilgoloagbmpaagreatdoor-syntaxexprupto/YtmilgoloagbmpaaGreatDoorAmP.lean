/-
  What the printed texts lean on: loops unrolled, a body's parts, calls, lists of rows, what a function in Option says.
-/
import Derived.Test.YtmilgoloagbmpaaGreatDoorAmO
namespace Go.Am

/-! ### loops, unrolled -/

def LoopWp (P : Program) (c : Code) (Q : Exit → Act → World → Prop) (a : Act) (w : World) : Prop :=
  ∀ (b : Frame) (k : List Item) (cs : List Frame), ∃ e a' w', Q e a' w' ∧ Arrives P (lone (b.at a (.code c :: .inLoop c :: k)) cs w) b k cs e a' w'

theorem LoopWp.loop {P : Program} {c : Code} {Q : Exit → Act → World → Prop} {a : Act} {w : World} (h : LoopWp P c Q a w) : (Code.loop c).wp P Q a w := by
  intro b k cs
  obtain ⟨e, a', w', hq, harr⟩ := h b k cs
  exact ⟨e, a', w', hq, .of_steps (.one step_loop) harr⟩

theorem LoopWp.unroll {P : Program} {c : Code} {Q : Exit → Act → World → Prop} {a : Act} {w : World} (h : c.wp P (Exit.then (LoopWp P c Q) Q) a w) : LoopWp P c Q a w := by
  intro b k cs
  obtain ⟨e, a₁, w₁, hq, harr⟩ := h b (.inLoop c :: k) cs
  cases e with
  | normal =>
    obtain ⟨e₂, a₂, w₂, hq₂, harr₂⟩ := hq b k cs
    exact ⟨e₂, a₂, w₂, hq₂, .of_steps (Steps.trans harr (.one step_inLoop)) harr₂⟩
  | exit id => exact ⟨_, a₁, w₁, hq, .pass (x := .inLoop c) rfl (fun _ _ => .inl (by simp)) harr⟩
  | goto l => exact ⟨_, a₁, w₁, hq, .pass (x := .inLoop c) rfl (fun _ _ => .inl (by simp)) harr⟩
  | ret => exact ⟨_, a₁, w₁, hq, .pass (x := .inLoop c) rfl (fun _ _ => .inl (by simp)) harr⟩
  | panic ch => exact ⟨_, a₁, w₁, hq, .pass (x := .inLoop c) rfl (fun _ _ => .inl (by simp)) harr⟩
  | outgrown => exact ⟨_, a₁, w₁, hq, .pass (x := .inLoop c) rfl (fun _ _ => .inl (by simp)) harr⟩

/-- inside a loop, a round ahead -/
def ALoop (F : Fx) (c : Code) (env : Env) (H : Heap) (Q : Po) : Prop :=
  ∀ fr M G w a, fr.H0.length = F.K → St F.C F.N M G w env H a → Since fr M G w H → LoopWp F.C.P c (Fin F fr Q) a w

def Again (F : Fx) (c : Code) (Q : Po) : Po
  | .normal, e, h => ALoop F c e h Q
  | x, e, h => Q x e h

theorem AEx.ofLoop {F : Fx} {c : Code} {env : Env} {H : Heap} {Q : Po} (h : ALoop F c env H Q) : AEx F (.loop c) env H Q :=
  fun fr M G w a hK hs hsi => (h fr M G w a hK hs hsi).loop

theorem ALoop.unroll {F : Fx} {c : Code} {env : Env} {H : Heap} {Q : Po} (h : AEx F c env H (Again F c Q)) : ALoop F c env H Q := by
  intro fr M G w act hK hs hsi
  refine LoopWp.unroll (wp_mono (h fr M G w act hK hs hsi) fun e a' w' he => ?_)
  obtain ⟨x, env', H', M', G', rfl, hq, hs', hsi'⟩ := he
  cases x with
  | normal => exact hq fr M' G' w' a' hK hs' hsi'
  | exit id => exact ⟨.exit id, _, _, _, _, rfl, hq, hs', hsi'⟩
  | ret => exact ⟨.ret, _, _, _, _, rfl, hq, hs', hsi'⟩

theorem ALoop.wk {F : Fx} {c : Code} {env : Env} {H : Heap} {Q : Po} {L : List (Nat × A)} {H2 : Heap} (hw : Wk F.K env H L H2) (h : ALoop F c (mkEnv L) H2 Q) : ALoop F c env H Q := by
  intro fr M G w act hK hs hsi
  exact h fr M _ w act hK (hw.st hs) (hw.since hK hsi)

/-! ### a body's parts -/

def bodyOf (f : Func) : Code := match f.body with | some c => c | none => .skip
def sl : Code → Code | .seq a _ => a | c => c
def sr : Code → Code | .seq _ b => b | c => c
def ca : Code → Code | .cond _ a _ => a | c => c
def cb : Code → Code | .cond _ _ b => b | c => c
def bk : Code → Code | .block _ c => c | c => c
def lo : Code → Code | .loop c => c | c => c

/-! ### functions in Option -/

theorem bind_some {α β : Type} {x : Option α} {f : α → Option β} {r : β} (h : (x >>= f) = some r) : ∃ a, x = some a ∧ f a = some r := by
  cases x with
  | none => cases h
  | some a => exact ⟨a, rfl, h⟩
theorem asrt_some {α : Type} {p : Prop} [Decidable p] {x : Option α} {r : α} (h : (if decide p = true then x else none) = some r) : p ∧ x = some r := by
  by_cases hp : p
  · rw [if_pos (decide_eq_true hp)] at h; exact ⟨hp, h⟩
  · rw [if_neg (by simpa using hp)] at h; cases h
theorem asrt_imp {α : Type} {w : Bool} {p : Prop} [Decidable p] {x : Option α} {r : α} (h : (if (!w || decide p) = true then x else none) = some r) : (w = true → p) ∧ x = some r := by
  by_cases hp : (!w || decide p) = true
  · rw [if_pos hp] at h
    exact ⟨fun hw => by subst hw; simpa using hp, h⟩
  · rw [if_neg hp] at h; cases h
theorem if_t {α : Type} {b : Bool} {x y : Option α} {r : α} (hb : b = true) (h : (if b = true then x else y) = some r) : x = some r := by rw [if_pos hb] at h; exact h
theorem if_f {α : Type} {b : Bool} {x y : Option α} {r : α} (hb : b = false) (h : (if b = true then x else y) = some r) : y = some r := by rw [if_neg (by rw [hb]; decide)] at h; exact h

abbrev Str := List UInt8
def idx {α : Type} (l : List α) (n : Int) : Option α := if 0 ≤ n then l[n.toNat]? else none
theorem idx_nat {α : Type} {l : List α} {n : Int} {x : α} (h : idx l n = some x) : n = (n.toNat : Int) := by
  unfold idx at h
  split at h
  · omega
  · cases h
theorem idx_get {α : Type} {l : List α} {n : Int} {x : α} (h : idx l n = some x) : l[n.toNat]? = some x := by
  unfold idx at h
  split at h
  · exact h
  · cases h
def slc {α : Type} (l : List α) (a b : Int) : Option (List α) := if 0 ≤ a ∧ a ≤ b ∧ b ≤ l.length then some ((l.take b.toNat).drop a.toNat) else none
theorem part_spec {α : Type} {l x : List α} {a b : Int} (h : slc l a b = some x) : a = (a.toNat : Int) ∧ b = (b.toNat : Int) ∧ a.toNat ≤ b.toNat ∧ b.toNat ≤ l.length ∧ x = (l.take b.toNat).drop a.toNat := by
  unfold slc at h
  split at h
  · cases h; exact ⟨by omega, by omega, by omega, by omega, rfl⟩
  · cases h
def mgt {α : Type} (k : Str) : List (Str × α) → Option α
  | [] => none
  | (k', x) :: r => bif k == k' then some x else mgt k r
def mpt {α : Type} (k : Str) (x : α) : List (Str × α) → List (Str × α)
  | [] => [(k, x)]
  | (k', y) :: r => bif k == k' then (k, x) :: r else (k', y) :: mpt k x r

/-! ### lists of rows -/

section
variable {α : Type} {f : α → Row} {g : List α → List Row} {h : α → A}
theorem rows_idx (hg : ∀ l, g l = l.map f) {l : List α} {n : Int} {x : α} (h : idx l n = some x) : (g l)[n.toNat]? = some (f x) := by simp [hg, idx_get h]
theorem rows_app (hg : ∀ l, g l = l.map f) (l m : List α) : g (l ++ m) = g l ++ g m := by simp [hg]
theorem rows_len (hg : ∀ l, g l = l.map f) (l : List α) : (g l).length = l.length := by simp [hg]
theorem rows_lenA (hg : ∀ l, g l = l.map f) (l : List α) : A.d (.int .i64 ((g l).length : Nat)) = A.d (.int .i64 (l.length : Nat)) := by simp [hg]
theorem rows_sz (hg : ∀ l, g l = l.map f) {n : Nat} (hn : ∀ x, (f x).length = n) (l : List α) : ∀ r ∈ g l, r.length = n := by
  intro r hr
  rw [hg] at hr
  obtain ⟨x, _, rfl⟩ := List.mem_map.1 hr
  exact hn x
theorem rows_part (hg : ∀ l, g l = l.map f) {l x : List α} {a b : Int} (h : slc l a b = some x) : a = (a.toNat : Int) ∧ b = (b.toNat : Int) ∧ a.toNat ≤ b.toNat ∧ b.toNat ≤ (g l).length ∧ g x = ((g l).take b.toNat).drop a.toNat := by
  obtain ⟨h1, h2, h3, h4, rfl⟩ := part_spec h
  exact ⟨h1, h2, h3, by rw [rows_len hg]; exact h4, by simp [hg]⟩
def entsOf (f : α → Row) (m : List (Str × α)) : List (Str × Row) := m.map fun p => (p.1, f p.2)
theorem ents_get (f : α → Row) (k : Str) : ∀ m : List (Str × α), mget k (entsOf f m) = (mgt k m).map f
  | [] => rfl
  | (k', x) :: r => by
    show (bif k == k' then some (f x) else mget k (entsOf f r)) = (bif k == k' then some x else mgt k r).map f
    rw [ents_get f k r]
    cases k == k' <;> rfl
theorem ents_put (f : α → Row) (k : Str) (x : α) : ∀ m : List (Str × α), entsOf f (mpt k x m) = mput k (f x) (entsOf f m)
  | [] => rfl
  | (k', y) :: r => by
    show entsOf f (bif k == k' then (k, x) :: r else (k', y) :: mpt k x r) = (bif k == k' then (k, f x) :: entsOf f r else (k', f y) :: mput k (f x) (entsOf f r))
    rw [← ents_put f k x r]
    cases k == k' <;> rfl
theorem lk_T (hf : ∀ x, rowA (f x) = h x) {z : α} {za : A} (hz : za = h z) {k : Str} {m : List (Str × α)} {x : Option α} (hx : some (mgt k m) = some x) : lkA (mget k (entsOf f m)) za true = .tup [h (x.getD z), .d (.bool x.isSome)] := by
  cases hx
  rw [ents_get]
  cases mgt k m with
  | none => simp [lkA, hz]
  | some y => simp [lkA, hf]
theorem lk_NT {z : α} {za : A} (hz : za = h z) {x : Option α} (hx : some none = some x) : lkA none za true = .tup [h (x.getD z), .d (.bool x.isSome)] := by cases hx; simp [lkA, hz]
theorem lk_N1 {z : α} {za : A} (hz : za = h z) {x : Option α} (hx : some none = some x) : lkA none za false = h (x.getD z) := by cases hx; simp [lkA, hz]
theorem lk_1 (hf : ∀ x, rowA (f x) = h x) {z : α} {za : A} (hz : za = h z) {k : Str} {m : List (Str × α)} {x : Option α} (hx : some (mgt k m) = some x) : lkA (mget k (entsOf f m)) za false = h (x.getD z) := by
  cases hx
  rw [ents_get]
  cases mgt k m with
  | none => simp [lkA, hz]
  | some y => simp [lkA, hf]
end

/-! ### steps -/

theorem AOps.qe {F : Fx} (hC : CxOk F.C) {L l : List Oper} {o : Oper} {env : Env} {H : Heap} {Q : Env → Heap → Prop} {d : Option Nat} {c : Prop} {x y : A} (h : stepA F.C L o env H = some (d, c, x)) (hc : c) (e : x = y)
    (k : AOps F L l (put env d y) H Q) : AOps F L (o :: l) env H Q := by subst e; exact .q hC h hc k
theorem AQ.qe {C : Cx} (hC : CxOk C) {L l : List Oper} {o : Oper} {env : Env} {H : Heap} {Q : Env → Prop} {d : Option Nat} {c : Prop} {x y : A} (h : stepA C L o env H = some (d, c, x)) (hc : c) (e : x = y) (k : AQ C L l (put env d y) H Q) : AQ C L (o :: l) env H Q := by
  subst e; exact .q hC h hc k
theorem AG.qe {C : Cx} (hC : CxOk C) {L l : List Oper} {o : Oper} {env : Env} {cnd : Cnd} {H : Heap} {Q : Env → Cnd → Prop} {d : Option Nat} {W : Option Bool} {S c : Prop} {x y : A} (h : stepGA C L o env cnd H = some (d, W, S, c, x)) (hs : holds W → S ∧ c) (e : x = y)
    (k : AG C L l (put env d y) (putC cnd d W) H Q) : AG C L (o :: l) env cnd H Q := by subst e; exact .q hC h hs k
theorem AOps.lx {F : Fx} (hC : CxOk F.C) {L l : List Oper} {o : Oper} {env : Env} {H : Heap} {Q : Env → Heap → Prop} {d : Option Nat} {s x : List UInt8} {lo hi : Int} (h : stepL F.C L o env = some (d, s, lo, hi)) (hx : slc s lo hi = some x)
    (kk : AOps F L l (put env d (.d (.str x))) H Q) : AOps F L (o :: l) env H Q := by
  obtain ⟨h1, h2, h3, h4, rfl⟩ := part_spec hx
  exact .l hC h h1 h2 h3 h4 kk
theorem AQ.lx {C : Cx} (hC : CxOk C) {L l : List Oper} {o : Oper} {env : Env} {H : Heap} {Q : Env → Prop} {d : Option Nat} {s x : List UInt8} {lo hi : Int} (h : stepL C L o env = some (d, s, lo, hi)) (hx : slc s lo hi = some x)
    (kk : AQ C L l (put env d (.d (.str x))) H Q) : AQ C L (o :: l) env H Q := by
  obtain ⟨h1, h2, h3, h4, rfl⟩ := part_spec hx
  exact .l hC h h1 h2 h3 h4 kk
def stepUp (C : Cx) (L : List Oper) (o : Oper) (env : Env) (H : Heap) : Option (Nat × List UInt8 × Row × List (List UInt8 × Row)) :=
  match wantedA L env o, o.op, o.dst with
  | some true, .mapUpdate t x y z, none => match tget C.T t, ev C.GL env x, ev C.GL env y, valRow (ev C.GL env z) with
    | some i, .mp p, .d (.str k), some cs => match i.u, nth H p with
      | .map kt _, some (.map es) => match tget C.T kt with
        | some ki => match ki.u with
          | .str => some (p, k, cs, es)
          | _ => none
        | none => none
      | _, _ => none
    | _, _, _, _ => none
  | _, _, _ => none
theorem stepUp_ok {C : Cx} {L : List Oper} {o : Oper} {env : Env} {H : Heap} {p : Nat} {k : List UInt8} {cs : Row} {es : List (List UInt8 × Row)} (h : stepUp C L o env H = some (p, k, cs, es)) {H' : Heap} (h' : hsetF H p (.map (mput k cs es)) = some H') : stepU C L o env H = some H' := by
  unfold stepUp at h
  unfold stepU
  split at h
  · split at h
    · split at h
      · split at h
        · split at h
          · simp only [Option.some.injEq, Prod.mk.injEq] at h
            obtain ⟨rfl, rfl, rfl, rfl⟩ := h
            simp_all only
          · cases h
        · cases h
      · cases h
    · cases h
  · cases h
theorem AOps.ue {F : Fx} (hC : CxOk F.C) {L l : List Oper} {o : Oper} {env : Env} {H H' : Heap} {Q : Env → Heap → Prop} {p : Nat} {k : List UInt8} {cs : Row} {es es2 : List (List UInt8 × Row)} (h : stepUp F.C L o env H = some (p, k, cs, es)) (e : mput k cs es = es2) (h' : hsetF H p (.map es2) = some H')
    (kk : AOps F L l env H' Q) : AOps F L (o :: l) env H Q := by subst e; exact .u hC (stepUp_ok h h') kk
theorem AOps.be {F : Fx} (hC : CxOk F.C) {L l : List Oper} {o : Oper} {env : Env} {H : Heap} {Q : Env → Heap → Prop} {d : Option Nat} {rs rs' : List Row} (h : stepB F.C L o env = some (d, rs)) (e : rs = rs') (k : AOps F L l (put env d (.full rs')) H Q) : AOps F L (o :: l) env H Q := by subst e; exact .b hC h k
theorem AQ.be {C : Cx} (hC : CxOk C) {L l : List Oper} {o : Oper} {env : Env} {H : Heap} {Q : Env → Prop} {d : Option Nat} {rs rs' : List Row} (h : stepB C L o env = some (d, rs)) (e : rs = rs') (k : AQ C L l (put env d (.full rs')) H Q) : AQ C L (o :: l) env H Q := by subst e; exact .b hC h k
theorem AG.be {C : Cx} (hC : CxOk C) {L l : List Oper} {o : Oper} {env : Env} {cnd : Cnd} {H : Heap} {Q : Env → Cnd → Prop} {d : Option Nat} {rs rs' : List Row} (h : stepB C L o env = some (d, rs)) (e : rs = rs') (hw : wantC L env cnd o = some none) (hs : sides cnd (opsL o)) (k : AG C L l (put env d (.full rs')) (putC cnd d none) H Q) : AG C L (o :: l) env cnd H Q := by subst e; exact .b hC h hw hs k

/-- a quiet call, less known of its arguments -/
theorem yields_callL {C : Cx} {o : Oper} {env : Env} {H : Heap} {f : FuncId} {xs ys : List A} {x : A} (ha : callArgs C.GL env o = some (f, xs)) (hle : LeL ys xs) (hn : namesLtL 0 ys = true) (hc : ACall C f ys [] (fun r H' => H' = [] ∧ r = x)) : Yields C o env H x := by
  intro M G w a next Qw hρ hG hgl hH hk
  obtain ⟨vs, h1, h2, h3⟩ := callArgs_ok ha hρ hc.1
  unfold Oper.wp
  rw [h1 w]
  refine (upon_call0 hn hc hG hgl (hle.spec.1.trans h2) (hle.rels h3)).mono fun e w' he => ?_
  obtain ⟨v, r, M', rfl, rfl, g1, g2, g3⟩ := he
  exact hk v M' w' (g1 G) g2 g3

theorem AOps.cl {F : Fx} {L l : List Oper} {o : Oper} {env : Env} {H : Heap} {Q : Env → Heap → Prop} {d : Option Nat} {f : FuncId} {xs ys : List A} {x : A} (h : stepC F.C L o env = some (d, f, xs)) (hc : ACall F.C f ys [] (fun r H' => H' = [] ∧ r = x)) (hle : LeL ys xs) (hn : namesLtL 0 ys = true)
    (k : AOps F L l (put env d x) H Q) : AOps F L (o :: l) env H Q := by
  obtain ⟨h1, h2, rfl⟩ := stepC_spec h
  exact .yields h1 (yields_callL h2 hle hn hc) k
theorem AQ.cl {C : Cx} {L l : List Oper} {o : Oper} {env : Env} {H : Heap} {Q : Env → Prop} {d : Option Nat} {f : FuncId} {xs ys : List A} {x : A} (h : stepC C L o env = some (d, f, xs)) (hc : ACall C f ys [] (fun r H' => H' = [] ∧ r = x)) (hle : LeL ys xs) (hn : namesLtL 0 ys = true)
    (k : AQ C L l (put env d x) H Q) : AQ C L (o :: l) env H Q := by
  obtain ⟨h1, h2, rfl⟩ := stepC_spec h
  exact ⟨_, x, rfl, .inl ⟨h1, yields_callL h2 hle hn hc⟩, k⟩

theorem AG.cl {C : Cx} {L l : List Oper} {o : Oper} {env : Env} {cnd : Cnd} {H : Heap} {Q : Env → Cnd → Prop} {d : Option Nat} {W : Option Bool} {S : Prop} {f : FuncId} {xs ys : List A} {x : A} (h : stepGC C L o env cnd = some (d, W, S, f, xs)) (hc : holds W → ACall C f ys [] (fun r H' => H' = [] ∧ r = x)) (hle : LeL ys xs) (hn : namesLtL 0 ys = true)
    (hs : holds W → S) (k : AG C L l (put env d x) (putC cnd d W) H Q) : AG C L (o :: l) env cnd H Q := by
  unfold stepGC at h
  split at h
  · rename_i W' f' xs' hw ha
    split at h
    · rename_i ys' d' hz hd
      simp only [Option.some.injEq, Prod.mk.injEq] at h
      obtain ⟨rfl, rfl, rfl, rfl, rfl⟩ := h
      have := frcL_eq hz
      subst this
      exact .lift hd hw hs (fun hW => (yields_callL (o := noG o) ha hle hn (hc hW))) k
    · cases h
  · cases h

/-- a call over objects -/
theorem AOps.g {F : Fx} {L l : List Oper} {o : Oper} {env : Env} {H H' : Heap} {Q : Env → Heap → Prop} {d : Option Nat} {g : FuncId} {xs : List A} {x y : A} (idx : List Nat) {cargs : List A} {cH cH' : Heap}
    (h : stepC F.C L o env = some (d, g, xs)) (hc : ACall F.C g cargs cH (fun r h => h = cH' ∧ r = x)) (hx : LeL (renL (into idx H.length) cargs) xs) (hi : idxOk idx H.length = true) (hm : MatchH (into idx H.length) H idx cH)
    (hr : frc (ren (into idx H.length) x) = some y) (hH : frcH (mergeF H idx (into idx H.length) (toksOf idx cH) cH') = some H') (k : AOps F L l (put (fun t => dg (toksOf idx cH) (env t)) d y) H' Q) : AOps F L (o :: l) env H Q := by
  refine .callHL idx cargs cH h hx hi hm hc fun r c ⟨e1, e2⟩ => ?_
  subst e1; subst e2
  have e3 := frcH_eq hH
  have e4 := frc_eq hr
  subst e3; subst e4
  exact k

/-! ### new variables whose slices are empty and without room -/

def zf : D → A
  | .sl [] => .full []
  | x => .d x
theorem zf_rel {M : Mem} {G : Nat → Value} {x : D} {v : Value} (h : zB v x = true) : RelA M G (zf x) v := by
  have h' := relD_of_zB h M
  unfold zf
  split
  · unfold zB at h
    split at h <;> first | contradiction | skip
    exact .full .slnil trivial
  · exact .d h'
theorem cells_zeroF {P : Program} {M : Mem} {G : Nat → Value} {T : TT} (hT : TOk P T) {t : Nat} {i : TI} (ht : tget T t = some i) : ∃ z, (∀ w, (zeroValue t).run P w = .ok z w) ∧ CellsRel M G (i.zero.map zf) z.cells := by
  obtain ⟨j, h1, h2, h3, z, h4, h5, h6, h7⟩ := (hT.facts ht).info
  refine ⟨z, fun w => by simp [zeroValue, typeInfo, h1, h4], by simpa using h5.symm, fun n v hv => ?_, fun n x v hx hv => ?_⟩
  · have hlt : n < i.zero.length := by rw [← h5]; simpa using (Array.getElem?_eq_some_iff.1 hv).1
    exact (relD_of_zB (h6 n v _ hv (List.getElem?_eq_getElem hlt)) M).one
  · rw [List.getElem?_map] at hx
    cases hz : i.zero[n]? with
    | none => rw [hz] at hx; cases hx
    | some y =>
      rw [hz] at hx
      simp only [Option.map_some, Option.some.injEq] at hx
      subst hx
      exact zf_rel (h6 n v y hv hz)
def stepNF (C : Cx) (L : List Oper) (o : Oper) (env : Env) (H : Heap) : Option (Option Nat × Nat × Heap) :=
  match wantedA L env o, o.op with
  | some true, .alloc t => match tget C.T t with
    | some i => match frcL (i.zero.map zf) with
      | some cs => match pushH H (.row cs t), dstF o with | some (n, H'), some d => some (d, n, H') | _, _ => none
      | none => none
    | none => none
  | _, _ => none
theorem AOps.nf {F : Fx} (hC : CxOk F.C) {L l : List Oper} {o : Oper} {env : Env} {H H' : Heap} {Q : Env → Heap → Prop} {d : Option Nat} {n : Nat} (h : stepNF F.C L o env H = some (d, n, H'))
    (k : AOps F L l (put env d (.ref n 0)) H' Q) : AOps F L (o :: l) env H Q := by
  unfold stepNF at h
  split at h
  · rename_i t hw ho
    split at h
    · rename_i i ht
      split at h
      · rename_i cs hcs
        split at h
        · rename_i n' H2 d' hp hd
          simp only [Option.some.injEq, Prod.mk.injEq] at h
          obtain ⟨rfl, rfl, rfl⟩ := h
          obtain ⟨rfl, rfl⟩ := pushH_eq hp
          have := frcL_eq hcs
          subst this
          refine aops_step hw fun fr M G w a K Qw hK hd' hs hsi hk => ?_
          obtain ⟨z, h1, h2⟩ := cells_zeroF (M := M) (G := G) hC.tok ht
          have hr : (execOp a.eval o).run F.C.P w = .ok (.value (.pointer (some ⟨w.heap.size, 0, none⟩))) (w.alloc (.cells z.cells t)) := by
            unfold execOp
            simp [ho, Instr.alloc, h1, newVar, newRow]
          unfold Oper.wp
          rw [hr]
          rw [← dstF_eq hd] at k
          exact hk _ _ _ _ _ _ _ k (hs.newRow (dstOk_spec hd') h2) (Since.newRow hsi)
        · cases h
      · cases h
    · cases h
  · cases h

/-! ### a look into no map -/

/-! ### is a slice nil? -/

def stepZ (C : Cx) (L : List Oper) (o : Oper) (env : Env) : Option (Option Nat × List Row) :=
  match wantedA L env o, o.op, dstF o with
  | some true, .binOp .eql t x (.const (.slice none 0 0)) _, some d => match tget C.T t, rowsOf (ev C.GL env x) with
    | some i, some rows => match i.u with
      | .sl _ => some (d, rows)
      | _ => none
    | _, _ => none
  | _, _, _ => none
theorem AOps.z {F : Fx} (hC : CxOk F.C) {L l : List Oper} {o : Oper} {env : Env} {H : Heap} {Q : Env → Heap → Prop} {d : Option Nat} {rows : List Row} (h : stepZ F.C L o env = some (d, rows)) (k : ∀ b : Bool, (b = true → rows = []) → AOps F L l (put env d (.d (.bool b))) H Q) : AOps F L (o :: l) env H Q := by
  unfold stepZ at h
  split at h
  · rename_i t x yt d' hw ho hd
    split at h
    · rename_i i rows ht hr
      split at h
      · rename_i e hu
        simp only [Option.some.injEq, Prod.mk.injEq] at h
        obtain ⟨rfl, rfl⟩ := h
        refine aops_step hw fun fr M G w a K Qw hK hdok hs hsi hk => ?_
        have hx := rowsOf_rel hr (hs.eval x)
        have hdd := under_sl (hC.tok.facts ht) hu
        have he : a.eval (.const (.slice none 0 0)) = .slice none 0 0 := rfl
        have key : ∃ b : Bool, (b = true → rows = []) ∧ (execOp a.eval o).run F.C.P w = .ok (.value (.bool b)) w := by
          generalize hv : a.eval x = v at hx
          have dd : ∀ (v : Value) (b : Bool), (∀ n, (Op.equalIn (n + 1) t v (.slice none 0 0)).run F.C.P w = .ok b w) → binOp .eql t v (.slice none 0 0) = (do pure (.bool (← Op.equal t v (.slice none 0 0)))) → binOp .neq t v (.slice none 0 0) = (do pure (.bool (!(← Op.equal t v (.slice none 0 0))))) →
              v ≠ .nilIface → (∀ u, v ≠ .agg u) → a.eval x = v → (execOp a.eval o).run F.C.P w = .ok (.value (.bool b)) w := fun v b e1 e2 e3 e4 e5 e6 => by
            obtain ⟨u, hu1, hu2⟩ := eq_does (P := F.C.P) (M := M) (G := G) (w := w) (op := .eql) (neg := false) (.inl ⟨rfl, rfl⟩) b e1 e2 e3
            have hub : u = .bool b := by cases hu2; rename_i hh; cases hh; rfl
            subst hub
            unfold execOp
            simp only [ho, e6, he, Sem.run_bind, guard_free e4 e5, Result.andThen_ok, hu1, Sem.run_pure]
          cases hx with
          | slnil => exact ⟨true, fun _ => rfl, dd _ true (fun n => by simp [Op.equalIn, run_underlying hdd]) rfl rfl (by simp) (by simp) hv⟩
          | sl sz vals hl hc hm hs' hz h1 h2 => exact ⟨false, (fun h => by cases h), dd _ false (fun n => by simp [Op.equalIn, run_underlying hdd]) rfl rfl (by simp) (by simp) hv⟩
        obtain ⟨b, hnil, hb⟩ := key
        unfold Oper.wp
        rw [hb]
        have kb := k b hnil
        rw [← dstF_eq hd] at kb
        exact hk _ _ _ _ _ _ _ kb (hs.quiet (dstOk_spec hdok) (.d .bool) hs.good (Ext.refl _ _ _)) (hsi.quiet (Ext.refl _ _ _))
      · cases h
    · cases h
  · cases h

/-! ### slices that are about to grow -/

end Go.Am

