/-
  The abstract machine: guarded operations whose guard is not known. A temporary may be there only where a boolean holds ('cnd'); the booleans that '&&' and '||' make come out as one boolean.
-/
import Derived.Test.YtmilgoloagbmpaaGreatDoorAmN
import Derived.Below
namespace Go.Am

/-! ### quiet operations ahead of others -/

theorem AOps.ofAQ {F : Fx} {L : List Oper} {l2 : List Oper} {H : Heap} {Q : Env → Heap → Prop} : ∀ {l1 : List Oper} {env : Env}, AQ F.C L l1 env H (fun e => AOps F L l2 e H Q) → AOps F L (l1 ++ l2) env H Q
  | [], env, h => h
  | o :: r, env, h => by
    obtain ⟨d, x, rfl, hst, hr⟩ := h
    rcases hst with ⟨hw, hy⟩ | ⟨hw, rfl⟩
    · exact .yields hw hy (AOps.ofAQ hr)
    · exact .skip hw (AOps.ofAQ hr)

theorem AQ.mono {C : Cx} {L : List Oper} {H : Heap} {Q Q' : Env → Prop} (hq : ∀ e, Q e → Q' e) : ∀ {l : List Oper} {env : Env}, AQ C L l env H Q → AQ C L l env H Q'
  | [], _, h => hq _ h
  | _ :: _, _, ⟨d, x, h1, h2, h3⟩ => ⟨d, x, h1, h2, AQ.mono hq h3⟩

theorem AOps.leE {F : Fx} {L l : List Oper} {env env' : Env} {H : Heap} {Q : Env → Heap → Prop} (he : ∀ t, LeA (env' t) (env t)) (k : AOps F L l env' H Q) : AOps F L l env H Q := by
  intro fr M G w a Qw hK hd hs hsi hq
  exact k fr M G w a Qw hK hd ⟨hs.good, hs.gl, hs.hrel, fun t => (he t).rel (hs.env t), hs.size, hs.defers⟩ hsi hq

theorem AEx.regionQ {F : Fx} {id : Nat} {L : List Oper} {env : Env} {H : Heap} {Q : Po} (n : Nat) (hd : L.all (dstOk F.N) = true) (h : AQ F.C L (L.take n) env H (fun e => AOps F L (L.drop n) e H (After Q))) : AEx F (.region id L.toArray false) env H Q := by
  refine .region hd ?_
  have := AOps.ofAQ h
  rwa [List.take_append_drop] at this

/-! ### what is there only where a boolean holds -/

abbrev Cnd := Nat → Option Bool
def sure : Cnd := fun _ => none
def envR (env : Env) (cnd : Cnd) : Env := fun t => match cnd t with | some false => .tup [] | _ => env t
def envS (env : Env) (cnd : Cnd) : Env := fun t => match cnd t with | none => env t | _ => .junk
def putC (cnd : Cnd) (d : Option Nat) (W : Option Bool) : Cnd := match d with | some t => (fun i => bif Nat.beq i t then W else cnd i) | none => cnd

def holds : Option Bool → Prop
  | none => True
  | some w => w = true

def wb : Bool → Bool → Bool
  | b, true => b
  | b, false => !b

def wantC (L : List Oper) (env : Env) (cnd : Cnd) (o : Oper) : Option (Option Bool) :=
  match o.guard with
  | none => some none
  | some (j, want) =>
    match nth L j with
    | some p => match p.dst with
      | some d => match env d, cnd d with
        | .d (.bool b), none => some (some (wb b want))
        | .d (.bool b), some c => some (some (c && wb b want))
        | _, _ => none
      | none => none
    | none => none

def isW : Option Bool → Bool
  | none => true
  | some w => w

theorem wantC_ok {L : List Oper} {env : Env} {cnd : Cnd} {o : Oper} {W : Option Bool} (h : wantC L env cnd o = some W) : wantedA L (envR env cnd) o = some (isW W) := by
  unfold wantC at h
  unfold wantedA
  split at h
  · rename_i hg
    rw [hg]
    simp only [Option.some.injEq] at h
    subst h
    rfl
  · rename_i j want hg
    rw [hg]
    simp only
    split at h
    · rename_i p hp
      rw [hp]
      simp only
      split at h
      · rename_i d hd
        rw [hd]
        simp only
        split at h
        · rename_i b he hc
          simp only [Option.some.injEq] at h
          subst h
          simp only [envR, hc, he]
          cases b <;> cases want <;> rfl
        · rename_i b c he hc
          simp only [Option.some.injEq] at h
          subst h
          cases c with
          | false => simp only [envR, hc]; rfl
          | true =>
            simp only [envR, hc, he]
            cases b <;> cases want <;> rfl
        · cases h
      · cases h
    · cases h

/-- quiet operations of the text, some of them wanted only where a boolean holds -/
def AG (C : Cx) (L : List Oper) : List Oper → Env → Cnd → Heap → (Env → Cnd → Prop) → Prop
  | [], env, cnd, _, Q => Q env cnd
  | o :: r, env, cnd, H, Q => ∃ d W x, o.dst = d ∧ wantC L env cnd o = some W ∧ (holds W → Yields C o (envR env cnd) H x) ∧ AG C L r (put env d x) (putC cnd d W) H Q

theorem envR_put {env : Env} {cnd : Cnd} {d : Option Nat} {W : Option Bool} {x : A} : envR (put env d x) (putC cnd d W) = put (envR env cnd) d (match W with | some false => .tup [] | _ => x) := by
  cases d with
  | none => rfl
  | some t =>
    funext i
    simp only [envR, putC, put, upd]
    cases hb : Nat.beq i t with
    | true => rcases W with _ | _ | _ <;> rfl
    | false => rfl

theorem AG.aq {C : Cx} {L : List Oper} {H : Heap} {Q : Env → Cnd → Prop} : ∀ {l : List Oper} {env : Env} {cnd : Cnd}, AG C L l env cnd H Q → AQ C L l (envR env cnd) H (fun e => ∃ env' cnd', e = envR env' cnd' ∧ Q env' cnd')
  | [], env, cnd, h => ⟨env, cnd, rfl, h⟩
  | o :: r, env, cnd, ⟨d, W, x, hd, hw, hy, hr⟩ => by
    have := AG.aq hr
    rw [envR_put] at this
    have hww := wantC_ok hw
    refine ⟨d, _, hd, ?_, this⟩
    rcases W with _ | _ | _
    · exact .inl ⟨hww, hy trivial⟩
    · exact .inr ⟨hww, rfl⟩
    · exact .inl ⟨hww, hy rfl⟩

theorem envR_sure {env : Env} : envR env sure = env := rfl

theorem le_envS {env : Env} {cnd : Cnd} (t : Nat) : LeA (envS env cnd t) (envR env cnd t) := by
  unfold envS envR
  cases cnd t with
  | none => exact .rfl
  | some c => exact .junk

theorem AEx.regionG {F : Fx} {id : Nat} {L : List Oper} {env : Env} {H : Heap} {Q : Po} (n : Nat) (hd : L.all (dstOk F.N) = true) (h : AG F.C L (L.take n) env sure H (fun e c => AOps F L (L.drop n) (envS e c) H (After Q))) : AEx F (.region id L.toArray false) env H Q := by
  refine .regionQ n hd ?_
  have := AG.aq h
  rw [envR_sure] at this
  refine this.mono fun e he => ?_
  obtain ⟨env', cnd', rfl, hq⟩ := he
  exact .leE le_envS hq

theorem AEx.drawG {F : Fx} (hC : CxOk F.C) {id : Nat} {L : List Oper} {env : Env} {H : Heap} {Q : Po} (n : Nat) (hd : L.all (dstOk F.N) = true) (hok : drawOk L n = true) (hnl : Nat.ble n L.length = true)
    (h : AG F.C L (L.take n) env sure H (fun e c => AOps F L (L.drop n) (envS e c) H (After Q))) : AEx F (.region id L.toArray true) env H Q := by
  refine .draw hC n hd hok hnl ?_
  have := AG.aq h
  rw [envR_sure] at this
  refine this.mono fun e he => ?_
  obtain ⟨env', cnd', rfl, hq⟩ := he
  exact .leE le_envS hq

theorem AG.nil {C : Cx} {L : List Oper} {env : Env} {cnd : Cnd} {H : Heap} {Q : Env → Cnd → Prop} (h : Q env cnd) : AG C L [] env cnd H Q := h

/-- the operands are there -/
def sides (cnd : Cnd) : List Operand → Prop
  | [] => True
  | .tmp t :: r => match cnd t with
    | none => sides cnd r
    | some c => c = true ∧ sides cnd r
  | _ :: r => sides cnd r

theorem sides_ev {GL : GT} {env : Env} {cnd : Cnd} : ∀ {l : List Operand}, sides cnd l → ∀ y ∈ l, ev GL (envR env cnd) y = ev GL env y
  | .tmp t :: r, h, y, hy => by
    simp only [sides] at h
    split at h
    · rename_i hc
      cases hy with
      | head => simp only [ev, envR, hc]
      | tail _ hy => exact sides_ev h y hy
    · rename_i c hc
      cases hy with
      | head => simp only [ev, envR, hc, h.1]
      | tail _ hy => exact sides_ev h.2 y hy
  | .const v :: r, h, y, hy => by
    cases hy with
    | head => rfl
    | tail _ hy => exact sides_ev (l := r) h y hy
  | .global g :: r, h, y, hy => by
    cases hy with
    | head => rfl
    | tail _ hy => exact sides_ev (l := r) h y hy
  | .func f :: r, h, y, hy => by
    cases hy with
    | head => rfl
    | tail _ hy => exact sides_ev (l := r) h y hy

theorem Yields.congr {C : Cx} {o : Oper} {env env' : Env} {H : Heap} {x : A} (h : Yields C o env H x) (he : ∀ y ∈ o.op.operands, ev C.GL env' y = ev C.GL env y) : Yields C o env' H x :=
  fun M G w a next Qw hρ => h M G w a next Qw fun y hy => by rw [← he y hy]; exact hρ y hy

def noG (o : Oper) : Oper := { o with guard := none }

theorem Yields.noG {C : Cx} {o : Oper} {env : Env} {H : Heap} {x : A} (h : Yields C (noG o) env H x) : Yields C o env H x := h

def opsL (o : Oper) : List Operand := o.op.operands.toList

theorem AG.lift {C : Cx} {L l : List Oper} {o : Oper} {env : Env} {cnd : Cnd} {H : Heap} {Q : Env → Cnd → Prop} {d : Option Nat} {W : Option Bool} {x : A} (hd : dstF o = some d) (hw : wantC L env cnd o = some W) (hs : holds W → sides cnd (opsL o)) (hy : holds W → Yields C (noG o) env H x)
    (k : AG C L l (put env d x) (putC cnd d W) H Q) : AG C L (o :: l) env cnd H Q :=
  ⟨d, W, x, dstF_eq hd, hw, fun h => (hy h).noG.congr fun y hy => sides_ev (hs h) y (by simpa [opsL] using hy), k⟩

/-- a quiet operation -/
def stepGA (C : Cx) (L : List Oper) (o : Oper) (env : Env) (cnd : Cnd) (H : Heap) : Option (Option Nat × Option Bool × Prop × Prop × A) :=
  match wantC L env cnd o, opA C.T C.GL o.op env H with
  | some W, some (c, x) => match frc x, dstF o with
    | some y, some d => some (d, W, sides cnd (opsL o), c, y)
    | _, _ => none
  | _, _ => none

theorem AG.q {C : Cx} (hC : CxOk C) {L l : List Oper} {o : Oper} {env : Env} {cnd : Cnd} {H : Heap} {Q : Env → Cnd → Prop} {d : Option Nat} {W : Option Bool} {S c : Prop} {x : A} (h : stepGA C L o env cnd H = some (d, W, S, c, x)) (hs : holds W → S ∧ c)
    (k : AG C L l (put env d x) (putC cnd d W) H Q) : AG C L (o :: l) env cnd H Q := by
  unfold stepGA at h
  split at h
  · rename_i W' c' x' hw ho
    split at h
    · rename_i y d' hy hd
      simp only [Option.some.injEq, Prod.mk.injEq] at h
      obtain ⟨rfl, rfl, rfl, rfl, rfl⟩ := h
      obtain rfl := frc_eq hy
      exact .lift hd hw (fun h => (hs h).1) (fun h => yields_op hC (o := noG o) ho (hs h).2) k
    · cases h
  · cases h

/-- a choice between booleans -/
structure Pk where
  d : Option Nat
  W : Option Bool
  sc : Prop
  t : Bool
  sa : Prop
  sb : Prop
  xa : Bool
  xb : Bool

def stepGP (C : Cx) (L : List Oper) (o : Oper) (env : Env) (cnd : Cnd) : Option Pk :=
  match wantC L env cnd o, o.op, dstF o with
  | some W, .pick c a b, some d => match ev C.GL env c, ev C.GL env a, ev C.GL env b with
    | .d (.bool t), .d (.bool xa), .d (.bool xb) => some ⟨d, W, sides cnd [c], t, sides cnd [a], sides cnd [b], xa, xb⟩
    | _, _, _ => none
  | _, _, _ => none

theorem AG.p {C : Cx} (hC : CxOk C) {L l : List Oper} {o : Oper} {env : Env} {cnd : Cnd} {H : Heap} {Q : Env → Cnd → Prop} {d : Option Nat} {W : Option Bool} {sc sa sb : Prop} {t xa xb : Bool} (h : stepGP C L o env cnd = some ⟨d, W, sc, t, sa, sb, xa, xb⟩)
    (hs : holds W → sc ∧ (t = true → sa) ∧ (t = false → sb)) (k : AG C L l (put env d (.d (.bool (bif t then xa else xb)))) (putC cnd d W) H Q) : AG C L (o :: l) env cnd H Q := by
  unfold stepGP at h
  split at h
  · rename_i W' c a b d' hw ho hd
    split at h
    · rename_i t' ya yb hc ha hb
      simp only [Option.some.injEq, Pk.mk.injEq] at h
      obtain ⟨rfl, rfl, rfl, rfl, rfl, rfl, rfl, rfl⟩ := h
      refine ⟨_, _, _, dstF_eq hd, hw, fun h => ?_, k⟩
      obtain ⟨h1, h2, h3⟩ := hs h
      have ec := sides_ev (GL := C.GL) (env := env) h1 c List.mem_cons_self
      refine yields_op hC (c := True) ?_ trivial
      rw [ho]
      simp only [opA, ec, hc, someT]
      cases t' with
      | true =>
        have ea := sides_ev (GL := C.GL) (env := env) (h2 rfl) a List.mem_cons_self
        simp only [cond_true, ea, ha]
      | false =>
        have eb := sides_ev (GL := C.GL) (env := env) (h3 rfl) b List.mem_cons_self
        simp only [cond_false, eb, hb]
    · cases h
  · cases h

/-- a call over data -/
def stepGC (C : Cx) (L : List Oper) (o : Oper) (env : Env) (cnd : Cnd) : Option (Option Nat × Option Bool × Prop × FuncId × List A) :=
  match wantC L env cnd o, callArgs C.GL env o with
  | some W, some (f, xs) => match frcL xs, dstF o with
    | some ys, some d => some (d, W, sides cnd (opsL o), f, ys)
    | _, _ => none
  | _, _ => none

theorem AG.c {C : Cx} {L l : List Oper} {o : Oper} {env : Env} {cnd : Cnd} {H : Heap} {Q : Env → Cnd → Prop} {d : Option Nat} {W : Option Bool} {S : Prop} {f : FuncId} {xs : List A} {x : A} (h : stepGC C L o env cnd = some (d, W, S, f, xs)) (hn : namesLtL 0 xs = true)
    (hs : holds W → S) (hc : holds W → ACall C f xs [] (fun r H' => H' = [] ∧ r = x)) (k : AG C L l (put env d x) (putC cnd d W) H Q) : AG C L (o :: l) env cnd H Q := by
  unfold stepGC at h
  split at h
  · rename_i W' f' xs' hw ho
    split at h
    · rename_i ys d' hy hd
      simp only [Option.some.injEq, Prod.mk.injEq] at h
      obtain ⟨rfl, rfl, rfl, rfl, rfl⟩ := h
      obtain rfl := frcL_eq hy
      exact .lift hd hw hs (fun h => yields_call (o := noG o) ho hn (hc h)) k
    · cases h
  · cases h

theorem AG.i {C : Cx} (hC : CxOk C) {L l : List Oper} {o : Oper} {env : Env} {cnd : Cnd} {H : Heap} {Q : Env → Cnd → Prop} {d : Option Nat} {W : Option Bool} {rows : List (List D)} {n : Int} {sz : Nat} (hw : wantC L env cnd o = some W) (h : stepI C [] (noG o) env = some (d, rows, n, sz)) {k : Nat} {r : List D}
    (hs : holds W → sides cnd (opsL o)) (hk : holds W → n = k ∧ rows[k]? = some r ∧ Nat.beq r.length sz = true) (kk : AG C L l (put env d (.ptr r)) (putC cnd d W) H Q) : AG C L (o :: l) env cnd H Q := by
  refine .lift (d := d) (W := W) ?_ hw hs (fun h' => yields_index hC h (hk h').1 (hk h').2.1 (hk h').2.2) kk
  obtain ⟨_, hd⟩ := stepI_spec h
  unfold dstF
  have : o.dst = d := hd
  rw [this]
  cases d <;> rfl

theorem AG.x {C : Cx} (hC : CxOk C) {L l : List Oper} {o : Oper} {env : Env} {cnd : Cnd} {H : Heap} {Q : Env → Cnd → Prop} {d : Option Nat} {W : Option Bool} {s : List UInt8} {n : Int} (hw : wantC L env cnd o = some W) (h : stepX C [] (noG o) env = some (d, s, n)) {k : Nat} {b : UInt8}
    (hs : holds W → sides cnd (opsL o)) (hk : holds W → n = k ∧ s[k]? = some b) (kk : AG C L l (put env d (.d (.int .u8 b.toNat))) (putC cnd d W) H Q) : AG C L (o :: l) env cnd H Q := by
  refine .lift (d := d) (W := W) ?_ hw hs (fun h' => yields_byte hC h (hk h').1 (hk h').2) kk
  have := (stepX_spec h).2
  exact this

theorem AG.split {C : Cx} {L l : List Oper} {env : Env} {cnd : Cnd} {H : Heap} {Q : Env → Cnd → Prop} {b : Bool} (t : Nat) (hb : env t = .d (.bool b)) (h1 : b = true → AG C L l (upd env t (.d (.bool true))) cnd H Q) (h2 : b = false → AG C L l (upd env t (.d (.bool false))) cnd H Q) : AG C L l env cnd H Q := by
  cases b with
  | true => have := h1 rfl; rwa [upd_self hb] at this
  | false => have := h2 rfl; rwa [upd_self hb] at this

theorem AG.b {C : Cx} (hC : CxOk C) {L l : List Oper} {o : Oper} {env : Env} {cnd : Cnd} {H : Heap} {Q : Env → Cnd → Prop} {d : Option Nat} {rs : List Row} (h : stepB C L o env = some (d, rs)) (hw : wantC L env cnd o = some none) (hs : sides cnd (opsL o)) (k : AG C L l (put env d (.full rs)) (putC cnd d none) H Q) : AG C L (o :: l) env cnd H Q :=
  ⟨d, none, _, dstF_eq (stepB_spec h).2, hw, fun _ => (yields_build hC h).congr fun y hy => sides_ev hs y (by simpa [opsL] using hy), k⟩

/-! ### for proofs -/

theorem wb_f {t : Bool} (h : t = false) : wb t false = true := by subst h; rfl
theorem wb_t {t : Bool} (h : t = true) : wb t true = true := by subst h; rfl
theorem and_f {c t : Bool} (h : c = true) (h' : t = false) : (c && wb t false) = true := by subst h; subst h'; rfl
theorem and_t {c t : Bool} (h : c = true) (h' : t = true) : (c && wb t true) = true := by subst h; subst h'; rfl
def noGuards : List Oper → Bool
  | [] => true
  | o :: r => o.guard.isNone && noGuards r

theorem AEx.regionN {F : Fx} {id : Nat} {L : List Oper} {env : Env} {H : Heap} {Q : Po} (_hg : noGuards L = true) (hd : L.all (dstOk F.N) = true) (h : AOps F L L env H (After Q)) : AEx F (.region id L.toArray false) env H Q := .region hd h

/-! ### contracts from elsewhere -/

theorem ext_below {M : Mem} {w w' : World} (h : Go.RowKit.Below w.heap.size w w') : Ext none' M w M w' :=
  ⟨fun _ _ e => e, h.size, h.os, h.output, h.tape, fun b hb _ => h.block b hb, fun _ _ e => .inl e⟩

/-- a call that hands back a value without memory and leaves the old blocks as they were -/
theorem ACall.ofBelow {C : Cx} {f : FuncId} {args : List A} {r : A} (hf : fnOk C.P f = true)
    (h : ∀ M G w (vs : Array Value), Good M w → GlOk C M w → args.length = vs.size → (∀ (i : Nat) x v, args[i]? = some x → vs[i]? = some v → RelA M G x v) →
      ∃ v, (∀ M G, RelA M G r v) ∧ Calls C.P f vs w fun e w' => e = .returned v ∧ Go.RowKit.Below w.heap.size w w') : ACall C f args [] (fun x H' => H' = [] ∧ x = r) := by
  refine ⟨hf, fun M G w vs hg hgl hh hl hr => ?_⟩
  obtain ⟨v, hv, hc⟩ := h M G w vs hg hgl hl hr
  refine hc.mono fun e w' ⟨he, hb⟩ => ?_
  have hext : Ext none' M w M w' := ext_below hb
  refine ⟨v, r, [], M, G, he, ⟨rfl, rfl⟩, hv M G, ?_, ?_, hext.weaken (fun _ h => h.elim), fun b hb => .inl hb, Nat.le_refl _, fun o x ho => by simp at ho⟩
  · exact hg.ext hext fun _ _ _ h => h.elim
  · exact hh.ext hext fun _ _ h => h

theorem args_str {args : List A} {vs : Array Value} {M : Mem} {G : Nat → Value} {s : List UInt8} {i : Nat} (hl : args.length = vs.size) (h : ∀ (i : Nat) x v, args[i]? = some x → vs[i]? = some v → RelA M G x v) (hi : args[i]? = some (.d (.str s))) :
    vs[i]? = some (.string ⟨s.toArray⟩) ∧ s.length ≤ maxLen := by
  have hlt : i < vs.size := by rw [← hl]; exact (List.getElem?_eq_some_iff.1 hi).1
  have hv : vs[i]? = some vs[i] := Array.getElem?_eq_getElem hlt
  have hr := h i _ _ hi hv
  generalize vs[i] = v at hr hv
  cases hr; rename_i hr; cases hr
  exact ⟨hv, by assumption⟩

theorem args_int {args : List A} {vs : Array Value} {M : Mem} {G : Nat → Value} {k : IntKind} {n : Int} {i : Nat} (hl : args.length = vs.size) (h : ∀ (i : Nat) x v, args[i]? = some x → vs[i]? = some v → RelA M G x v) (hi : args[i]? = some (.d (.int k n))) :
    vs[i]? = some (.int k n) ∧ InK k n := by
  have hlt : i < vs.size := by rw [← hl]; exact (List.getElem?_eq_some_iff.1 hi).1
  have hv : vs[i]? = some vs[i] := Array.getElem?_eq_getElem hlt
  have hr := h i _ _ hi hv
  generalize vs[i] = v at hr hv
  cases hr; rename_i hr; cases hr
  exact ⟨hv, by assumption⟩

theorem arr1 {vs : Array Value} {a : Value} (hl : vs.size = 1) (h0 : vs[0]? = some a) : vs = #[a] := by
  apply Array.ext_getElem?
  intro i
  match i with
  | 0 => simpa using h0
  | i + 1 => rw [Array.getElem?_eq_none (by omega), Array.getElem?_eq_none (by simp)]
theorem arr2 {vs : Array Value} {a b : Value} (hl : vs.size = 2) (h0 : vs[0]? = some a) (h1 : vs[1]? = some b) : vs = #[a, b] := by
  apply Array.ext_getElem?
  intro i
  match i with
  | 0 => simpa using h0
  | 1 => simpa using h1
  | i + 2 => rw [Array.getElem?_eq_none (by omega), Array.getElem?_eq_none (by simp)]

theorem fnOk_of {P : Program} {f : FuncId} {fn : Func} (hf : P.funcs[f]? = some fn) (hn : (fn.name == "runtime.NumGoroutine") = false) (hb : fn.body.isSome = true) : fnOk P f = true := by simp [fnOk, hf, hb, hn]

/-! ### a call over objects, the heap behind it written out -/

def frcC : List A → Option (List A)
  | [] => some []
  | x :: r => match frc x, frcC r with | some y, some r' => some (y :: r') | _, _ => none

theorem frcC_eq : ∀ {l l' : List A}, frcC l = some l' → l' = l
  | [], l', h => by simp [frcC] at h; exact h
  | x :: r, l', h => by
    simp only [frcC] at h
    split at h
    · rename_i y r' hy hr
      simp only [Option.some.injEq] at h
      rw [← h, frc_eq hy, frcC_eq hr]
    · cases h

def frcH : Heap → Option Heap
  | [] => some []
  | .row cs e :: r => match frcC cs, frcH r with | some cs', some r' => some (.row cs' e :: r') | _, _ => none
  | .dead :: r => match frcH r with | some r' => some (.dead :: r') | none => none
  | .bld o e :: r => match frcH r with | some r' => some (.bld o e :: r') | none => none
  | .buf e sz :: r => match frcH r with | some r' => some (.buf e sz :: r') | none => none
  | .tok e sz :: r => match frcH r with | some r' => some (.tok e sz :: r') | none => none
  | .map es :: r => match frcH r with | some r' => some (.map es :: r') | none => none

theorem frcH_eq : ∀ {H H' : Heap}, frcH H = some H' → H' = H
  | [], H', h => by simp [frcH] at h; exact h
  | .row cs e :: r, H', h => by
    simp only [frcH] at h
    split at h
    · rename_i cs' r' hc hr
      simp only [Option.some.injEq] at h
      rw [← h, frcC_eq hc, frcH_eq hr]
    · cases h
  | .dead :: r, H', h => by
    simp only [frcH] at h
    split at h
    · rename_i r' hr
      simp only [Option.some.injEq] at h
      rw [← h, frcH_eq hr]
    · cases h
  | .bld o e :: r, H', h => by
    simp only [frcH] at h
    split at h
    · rename_i r' hr
      simp only [Option.some.injEq] at h
      rw [← h, frcH_eq hr]
    · cases h
  | .buf e sz :: r, H', h => by
    simp only [frcH] at h
    split at h
    · rename_i r' hr
      simp only [Option.some.injEq] at h
      rw [← h, frcH_eq hr]
    · cases h
  | .tok e sz :: r, H', h => by
    simp only [frcH] at h
    split at h
    · rename_i r' hr
      simp only [Option.some.injEq] at h
      rw [← h, frcH_eq hr]
    · cases h
  | .map es :: r, H', h => by
    simp only [frcH] at h
    split at h
    · rename_i r' hr
      simp only [Option.some.injEq] at h
      rw [← h, frcH_eq hr]
    · cases h

mutual
theorem dg_nil : ∀ x : A, dg [] x = x
  | .osl _ _ => rfl
  | .clo _ cs => by simp only [dg, dgL_nil cs]
  | .agg cs => by simp only [dg, dgL_nil cs]
  | .tup cs => by simp only [dg, dgL_nil cs]
  | .d _ => rfl
  | .junk => rfl
  | .ref _ _ => rfl
  | .ptr _ => rfl
  | .full _ => rfl
  | .rsl _ _ _ _ => rfl
  | .mp _ => rfl
theorem dgL_nil : ∀ l : List A, dgL [] l = l
  | [] => rfl
  | x :: r => by simp only [dgL, dg_nil x, dgL_nil r]
end

/-- no slice's room is among the objects -/
theorem AOps.hc {F : Fx} {L l : List Oper} {o : Oper} {env : Env} {H H' : Heap} {Q : Env → Heap → Prop} {d : Option Nat} {g : FuncId} {xs : List A} {x y : A} (idx : List Nat) {cargs : List A} {cH cH' : Heap}
    (h : stepC F.C L o env = some (d, g, xs)) (hc : ACall F.C g cargs cH (fun r h => h = cH' ∧ r = x)) (hx : renL (into idx H.length) cargs = xs) (hi : idxOk idx H.length = true) (hm : MatchH (into idx H.length) H idx cH) (ht : toksOf idx cH = [])
    (hr : frc (ren (into idx H.length) x) = some y) (hH : frcH (mergeF H idx (into idx H.length) [] cH') = some H') (k : AOps F L l (put env d y) H' Q) : AOps F L (o :: l) env H Q := by
  refine .callH idx cargs cH h hx hi hm hc fun r c ⟨e1, e2⟩ => ?_
  subst e1; subst e2
  have : (fun t => dg (toksOf idx cH) (env t)) = env := by funext t; rw [ht, dg_nil]
  rw [this, ht]
  have e3 := frcH_eq hH
  have e4 := frc_eq hr
  subst e3; subst e4
  exact k

/-! ### ways that come together -/

/-- where the code goes on, the state is this -/
def Cut (F : Fx) (E : List (Nat × A)) (H2 : Heap) (Q : Po) : Po
  | .normal, e, h => Wk F.K e h E H2
  | x, e, h => Q x e h

theorem AEx.cut {F : Fx} {c b : Code} {env : Env} {H : Heap} {Q : Po} (E : List (Nat × A)) (H2 : Heap) (h : AEx F c env H (Cut F E H2 Q)) (k : AEx F b (mkEnv E) H2 Q) : AEx F c env H (Then F b Q) :=
  h.mono fun x e hh hq => by
    cases x with
    | normal => exact AEx.wk hq k
    | exit i => exact hq
    | ret => exact hq

end Go.Am

