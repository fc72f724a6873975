/-
  The abstract machine: names in values, forgetting ('Wk'), control, loops, the beginning and the end of a function, calls that touch nothing.
-/
import Derived.Test.YtmilgoloagbmpaaGreatDoorAmE
import Derived.Calls
namespace Go.Am

/-! ### names -/

mutual
def namesLt (k : Nat) : A → Bool
  | .d _ | .junk | .ptr _ | .full _ => true
  | .ref o _ => Nat.blt o k
  | .osl o _ => Nat.blt o k
  | .rsl o _ _ _ => Nat.blt o k
  | .mp o => Nat.blt o k
  | .clo _ cs => namesLtL k cs
  | .agg cs => namesLtL k cs
  | .tup cs => namesLtL k cs
def namesLtL (k : Nat) : List A → Bool
  | [] => true
  | x :: r => namesLt k x && namesLtL k r
end

theorem namesLtL_mem {k : Nat} : ∀ {l : List A}, namesLtL k l = true → ∀ x ∈ l, namesLt k x = true
  | [], _, x, h => by cases h
  | y :: r, h, x, hx => by
    simp only [namesLtL, Bool.and_eq_true] at h
    cases hx with
    | head => exact h.1
    | tail _ hx => exact namesLtL_mem h.2 x hx

theorem namesLt_spec {k : Nat} {x : A} (h : namesLt k x = true) {o : Nat} (hn : Names x o) : o < k := by
  induction hn with
  | ref => simpa [namesLt] using h
  | osl => simpa [namesLt] using h
  | rsl => simpa [namesLt] using h
  | mp => simpa [namesLt] using h
  | clo hm _ ih => exact ih (namesLtL_mem (by simpa only [namesLt] using h) _ hm)
  | agg hm _ ih => exact ih (namesLtL_mem (by simpa only [namesLt] using h) _ hm)
  | tup hm _ ih => exact ih (namesLtL_mem (by simpa only [namesLt] using h) _ hm)

def obLt (k : Nat) : Ob → Bool
  | .row cs _ => namesLtL k cs
  | .bld o _ => Nat.blt o k
  | _ => true

/-! ### forgetting -/

/-- less is known -/
inductive LeA : A → A → Prop
  | rfl {x} : LeA x x
  | junk {x} : LeA .junk x
  | osl {o rows} : LeA (.d (.sl rows)) (.osl o rows)
  | full {rows} : LeA (.d (.sl rows)) (.full rows)
  | agg {xs ys} (hl : xs.length = ys.length) (h : ∀ (i : Nat) x y, xs[i]? = some x → ys[i]? = some y → LeA x y) : LeA (.agg xs) (.agg ys)
  | tup {xs ys} (hl : xs.length = ys.length) (h : ∀ (i : Nat) x y, xs[i]? = some x → ys[i]? = some y → LeA x y) : LeA (.tup xs) (.tup ys)
  | clo {f xs ys} (hl : xs.length = ys.length) (h : ∀ (i : Nat) x y, xs[i]? = some x → ys[i]? = some y → LeA x y) : LeA (.clo f xs) (.clo f ys)

theorem LeA.rel {M : Mem} {G : Nat → Value} {x y : A} (h : LeA x y) : ∀ {v : Value}, RelA M G y v → RelA M G x v := by
  have get : ∀ {xs ys : List A}, xs.length = ys.length → ∀ {i : Nat} {x : A}, xs[i]? = some x → ∃ y, ys[i]? = some y := by
    intro xs ys hl i x hx
    exact ⟨_, List.getElem?_eq_getElem (by rw [← hl]; exact (List.getElem?_eq_some_iff.1 hx).1)⟩
  induction h with
  | rfl => exact fun h => h
  | junk => exact fun _ => .junk
  | osl => intro v hy; cases hy; exact .d (by assumption)
  | full => intro v hy; cases hy; exact .d (by assumption)
  | agg hl _ ih =>
    intro v hy
    cases hy with
    | agg hl' h1 h =>
      refine .agg (by omega) h1 fun i x v hx hv => ?_
      obtain ⟨y, hy⟩ := get hl hx
      exact ih i x y hx hy (h i y v hy hv)
  | tup hl _ ih =>
    intro v hy
    cases hy with
    | tup hl' h =>
      refine .tup (by omega) fun i x v hx hv => ?_
      obtain ⟨y, hy⟩ := get hl hx
      exact ih i x y hx hy (h i y v hy hv)
  | clo hl _ ih =>
    intro v hy
    cases hy with
    | clo hl' h =>
      refine .clo (by omega) fun i x v hx hv => ?_
      obtain ⟨y, hy⟩ := get hl hx
      exact ih i x y hx hy (h i y v hy hv)

def LeL : List A → List A → Prop
  | [], [] => True
  | x :: xs, y :: ys => LeA x y ∧ LeL xs ys
  | _, _ => False

theorem LeL.spec : ∀ {xs ys : List A}, LeL xs ys → xs.length = ys.length ∧ ∀ (i : Nat) x y, xs[i]? = some x → ys[i]? = some y → LeA x y
  | [], [], _ => ⟨rfl, fun i x y h => by simp at h⟩
  | x :: xs, y :: ys, h => by
    obtain ⟨h1, h2⟩ := LeL.spec h.2
    refine ⟨by simp [h1], fun i a b ha hb => ?_⟩
    cases i with
    | zero => simp at ha hb; subst ha; subst hb; exact h.1
    | succ i => exact h2 i a b (by simpa using ha) (by simpa using hb)
  | [], _ :: _, h => h.elim
  | _ :: _, [], h => h.elim

theorem LeA.aggL {xs ys : List A} (h : LeL xs ys) : LeA (.agg xs) (.agg ys) := .agg h.spec.1 h.spec.2
def mkEnv : List (Nat × A) → Env
  | [] => fun _ => .junk
  | (t, x) :: r => upd (mkEnv r) t x

def WkE (k : Nat) (env : Env) : List (Nat × A) → Prop
  | [] => True
  | (t, x) :: r => (LeA x (env t) ∧ namesLt k x = true) ∧ WkE k env r

def WkO (k : Nat) : Ob → Ob → Prop
  | .dead, _ => True
  | .row cs2 e2, .row cs e => e2 = e ∧ LeL cs2 cs ∧ namesLtL k cs2 = true
  | .row _ _, _ => False
  | .bld o e, x => x = .bld o e ∧ o < k
  | x2, x => x2 = x

theorem LeL.refl : ∀ xs : List A, LeL xs xs
  | [] => trivial
  | _ :: r => ⟨.rfl, LeL.refl r⟩

theorem WkO.same {k : Nat} {x : Ob} (h : obLt k x = true) : WkO k x x := by
  cases x with
  | dead => trivial
  | row cs e => exact ⟨rfl, .refl _, h⟩
  | bld o e => exact ⟨rfl, by simpa [obLt] using h⟩
  | tok e sz => rfl
  | buf e sz => rfl
  | map es => rfl

theorem WkO.row {k : Nat} {cs2 : List A} {e : TypeId} {x : Ob} (h : WkO k (.row cs2 e) x) : ∃ cs, x = .row cs e ∧ LeL cs2 cs ∧ namesLtL k cs2 = true := by
  cases x with
  | row cs e' => obtain ⟨rfl, h1, h2⟩ := h; exact ⟨cs, rfl, h1, h2⟩
  | _ => exact h.elim

theorem WkO.blk {k : Nat} {x2 x : Ob} {g : Value} {b : Nat} (h : WkO k x2 x) (hb : blk x2 g = some b) : blk x g = some b := by
  cases x2 with
  | dead => simp [Go.Am.blk] at hb
  | row cs e => obtain ⟨cs', rfl, _⟩ := h.row; cases g <;> first | exact hb | (rename_i a; cases a <;> exact hb)
  | bld o e => obtain ⟨rfl, _⟩ := h; exact hb
  | tok e sz => have : .tok e sz = x := h; subst this; exact hb
  | buf e sz => have : .buf e sz = x := h; subst this; exact hb
  | map es => have : .map es = x := h; subst this; exact hb

theorem WkO.isTok {k : Nat} {x2 x : Ob} (h : WkO k x2 x) (hx : isTok x = false) : isTok x2 = false := by
  cases x2 with
  | dead => rfl
  | row cs e => rfl
  | bld o e => rfl
  | tok e sz => have : .tok e sz = x := h; subst this; exact hx
  | buf e sz => have : .buf e sz = x := h; subst this; exact hx
  | map es => rfl

def WkH (k : Nat) : Heap → Heap → Prop
  | _, [] => True
  | [], _ :: _ => False
  | x :: H, x2 :: H2 => WkO k x2 x ∧ WkH k H H2

theorem WkE.spec {k : Nat} {env : Env} : ∀ {L : List (Nat × A)}, WkE k env L → ∀ t, LeA (mkEnv L t) (env t) ∧ namesLt k (mkEnv L t) = true
  | [], _, t => ⟨.junk, rfl⟩
  | (s, x) :: r, h, t => by
    simp only [mkEnv, upd]
    cases hb : Nat.beq t s with
    | true =>
      have := Nat.eq_of_beq_eq_true hb
      subst this
      exact h.1
    | false => exact WkE.spec h.2 t

theorem WkH.spec {k : Nat} : ∀ {H H2 : Heap}, WkH k H H2 → H2.length ≤ H.length ∧ ∀ (o : Nat) x2, H2[o]? = some x2 → ∃ x, H[o]? = some x ∧ WkO k x2 x
  | _, [], _ => ⟨Nat.zero_le _, fun o x2 h => by simp at h⟩
  | [], _ :: _, h => h.elim
  | x :: H, y :: H2, h => by
    obtain ⟨h1, h2⟩ := WkH.spec h.2
    refine ⟨by simpa using h1, fun o x2 ho => ?_⟩
    cases o with
    | zero => simp at ho; subst ho; exact ⟨x, rfl, h.1⟩
    | succ o => simpa using h2 o x2 (by simpa using ho)

/-- the places of what is left -/
def cutG (k : Nat) (G : Nat → Value) : Nat → Value := fun o => if o < k then G o else .tuple #[]

theorem RelA.cut {M : Mem} {G : Nat → Value} {x : A} {v : Value} {k : Nat} (h : RelA M G x v) (hn : namesLt k x = true) : RelA M (cutG k G) x v :=
  h.mono (fun _ _ e => e) fun o ho => by simp [cutG, namesLt_spec hn ho]

theorem HRel.wk {M : Mem} {G : Nat → Value} {w : World} {H H2 : Heap} (h : HRel M G w H) (hw : WkH H2.length H H2) : HRel M (cutG H2.length G) w H2 := by
  obtain ⟨h1, h2⟩ := hw.spec
  have hlt : ∀ {o : Nat} {x : Ob}, H2[o]? = some x → o < H2.length := fun h => (List.getElem?_eq_some_iff.1 h).1
  have blkd : ∀ {x2 x : Ob} {g : Value} {b : Nat}, WkO H2.length x2 x → blk x2 g = some b → blk x g = some b := fun hw hb => hw.blk hb
  refine ⟨fun o x2 ho => ?_, fun o o' x x' b ho ho' hb hb' => ?_, fun o ho => by simp [cutG]; omega⟩
  · obtain ⟨x, hx, hwk⟩ := h2 o x2 ho
    have hg : cutG H2.length G o = G o := by simp [cutG, hlt ho]
    rw [hg]
    · have hob := h.obj o _ hx
      cases x2 with
      | dead => trivial
      | row cs e =>
        obtain ⟨cs', rfl, hle, hn⟩ := hwk.row
        obtain ⟨b, us, g1, g2, g3, g4, g5, g6⟩ := hob
        obtain ⟨l1, l2⟩ := hle.spec
        refine ⟨b, us, g1, g2, by omega, g4, fun i y v a c => ?_, g6⟩
        have hil : i < cs'.length := by rw [← l1]; exact (List.getElem?_eq_some_iff.1 a).1
        have hz : cs'[i]? = some cs'[i] := List.getElem?_eq_getElem hil
        exact ((l2 i y _ a hz).rel (g5 i _ v hz c)).cut (namesLtL_mem hn y (List.mem_of_getElem? a))
      | bld o' e =>
        obtain ⟨rfl, hn⟩ := hwk
        obtain ⟨b, v0, g1, g2, g3, g4, g5⟩ := hob
        have hc : cutG H2.length G o' = G o' := by simp [cutG, hn]
        exact ⟨b, v0, g1, by rw [hc]; exact g2, g3, by rw [hc]; exact g4, g5⟩
      | buf e sz =>
        have : .buf e sz = x := hwk
        subst this
        exact hob
      | tok e sz =>
        have : .tok e sz = x := hwk
        subst this
        exact hob
      | map es =>
        have : .map es = x := hwk
        subst this
        obtain ⟨b, ms, cl, g1, g2, g3, g4, g5⟩ := hob
        refine ⟨b, ms, cl, g1, g2, g3, fun i k cs e a c => ⟨(g4 i k cs e a c).1, (g4 i k cs e a c).2.cut ?_⟩, g5⟩
        have : ∀ l : List D, namesLtL H2.length (l.map .d) = true := fun l => by
          induction l with
          | nil => rfl
          | cons x r ih => simp [namesLtL, namesLt, ih]
        match cs with
        | [] => simp [rowA, namesLt, namesLtL]
        | [x] => simp [rowA, namesLt]
        | x :: y :: r => simp only [rowA, namesLt]; exact this _
  · obtain ⟨y, hy, hwk⟩ := h2 o x ho
    obtain ⟨y', hy', hwk'⟩ := h2 o' x' ho'
    have hg : cutG H2.length G o = G o := by simp [cutG, hlt ho]
    have hg' : cutG H2.length G o' = G o' := by simp [cutG, hlt ho']
    rw [hg] at hb
    rw [hg'] at hb'
    exact h.apart o o' y y' b hy hy' (blkd hwk hb) (blkd hwk' hb')

theorem own_cut {G : Nat → Value} {H H2 : Heap} (hw : WkH H2.length H H2) {b : Nat} (h : own (cutG H2.length G) H2 b) : own G H b := by
  obtain ⟨o, x2, ho, hb⟩ := h
  obtain ⟨_, h2⟩ := hw.spec
  obtain ⟨x, hx, hwk⟩ := h2 o x2 ho
  have hlt := (List.getElem?_eq_some_iff.1 ho).1
  have hg : cutG H2.length G o = G o := by simp [cutG, hlt]
  rw [hg] at hb
  exact ⟨o, _, hx, hwk.blk hb⟩

/-- one state can be forgotten to another -/
structure Wk (K : Nat) (env : Env) (H : Heap) (L : List (Nat × A)) (H2 : Heap) : Prop where
  e : WkE H2.length env L
  h : WkH H2.length H H2
  k : Nat.ble K H2.length = true

theorem Wk.st {C : Cx} {N K : Nat} {M : Mem} {G : Nat → Value} {w : World} {env : Env} {H : Heap} {a : Act} {L : List (Nat × A)} {H2 : Heap} (hw : Wk K env H L H2) (h : St C N M G w env H a) :
    St C N M (cutG H2.length G) w (mkEnv L) H2 a :=
  ⟨h.good, h.gl, h.hrel.wk hw.h, fun t => ((hw.e.spec t).1.rel (h.env t)).cut (hw.e.spec t).2, h.size, h.defers⟩

theorem Wk.since {fr : Fr} {K : Nat} {M : Mem} {G : Nat → Value} {w : World} {env : Env} {H : Heap} {L : List (Nat × A)} {H2 : Heap} (hw : Wk K env H L H2) (hK : fr.H0.length = K) (h : Since fr M G w H) :
    Since fr M (cutG H2.length G) w H2 := by
  have hle := Nat.le_of_ble_eq_true hw.k
  refine ⟨h.ext, fun b hb => h.own b (own_cut hw.h hb), by omega, fun o x ho ht => ?_, fun o x y ho ht hy => ?_⟩
  · have hlt := (List.getElem?_eq_some_iff.1 ho).1
    rw [show cutG H2.length G o = G o by simp [cutG]; omega]
    exact h.keep o x ho ht
  · obtain ⟨z, hz, hwk⟩ := hw.h.spec.2 o y hy
    exact hwk.isTok (h.kind o x _ ho ht hz)

/-! ### code -/

inductive Ex where
  | normal | exit (id : Nat) | ret

def Ex.to : Ex → Exit
  | .normal => .normal
  | .exit id => .exit id
  | .ret => .ret

abbrev Po := Ex → Env → Heap → Prop

def Fin (F : Fx) (fr : Fr) (Q : Po) : Exit → Act → World → Prop := fun e a w =>
  ∃ x env H M G, e = Ex.to x ∧ Q x env H ∧ St F.C F.N M G w env H a ∧ Since fr M G w H

def AEx (F : Fx) (c : Code) (env : Env) (H : Heap) (Q : Po) : Prop :=
  ∀ fr M G w a, fr.H0.length = F.K → St F.C F.N M G w env H a → Since fr M G w H → c.wp F.C.P (Fin F fr Q) a w

section
variable {F : Fx} {env : Env} {H : Heap} {Q : Po}

def Then (F : Fx) (c : Code) (Q : Po) : Po
  | .normal, e, h => AEx F c e h Q
  | x, e, h => Q x e h

def InBlock (id : Nat) (Q : Po) : Po
  | .exit i, e, h => bif Nat.beq i id then Q .normal e h else Q (.exit i) e h
  | x, e, h => Q x e h

theorem AEx.skip (h : Q .normal env H) : AEx F .skip env H Q := fun _ _ _ _ _ _ hs hsi => wp_skip ⟨.normal, _, _, _, _, rfl, h, hs, hsi⟩
theorem AEx.ret (h : Q .ret env H) : AEx F .ret env H Q := fun _ _ _ _ _ _ hs hsi => wp_ret ⟨.ret, _, _, _, _, rfl, h, hs, hsi⟩
theorem AEx.exit {id : Nat} (h : Q (.exit id) env H) : AEx F (.exit id) env H Q := fun _ _ _ _ _ _ hs hsi => wp_exit ⟨.exit id, _, _, _, _, rfl, h, hs, hsi⟩

theorem AEx.seq {a b : Code} (h : AEx F a env H (Then F b Q)) : AEx F (.seq a b) env H Q := by
  intro fr M G w act hK hs hsi
  refine wp_seq (wp_mono (h fr M G w act hK hs hsi) fun e a' w' he => ?_)
  obtain ⟨x, env', H', M', G', rfl, hq, hs', hsi'⟩ := he
  cases x with
  | normal => exact hq fr M' G' w' a' hK hs' hsi'
  | exit id => exact ⟨.exit id, _, _, _, _, rfl, hq, hs', hsi'⟩
  | ret => exact ⟨.ret, _, _, _, _, rfl, hq, hs', hsi'⟩

theorem AEx.block {id : Nat} {c : Code} (h : AEx F c env H (InBlock id Q)) : AEx F (.block id c) env H Q := by
  intro fr M G w act hK hs hsi
  refine wp_block (wp_mono (h fr M G w act hK hs hsi) fun e a' w' he => ?_)
  obtain ⟨x, env', H', M', G', rfl, hq, hs', hsi'⟩ := he
  cases x with
  | normal => exact ⟨.normal, _, _, _, _, rfl, hq, hs', hsi'⟩
  | exit i =>
    simp only [InBlock] at hq
    simp only [Ex.to, Exit.inBlock]
    cases hb : Nat.beq i id with
    | true =>
      rw [hb] at hq
      rw [if_pos (Nat.eq_of_beq_eq_true hb)]
      exact ⟨.normal, _, _, _, _, rfl, hq, hs', hsi'⟩
    | false =>
      rw [hb] at hq
      rw [if_neg (fun e => by subst e; simp at hb)]
      exact ⟨.exit i, _, _, _, _, rfl, hq, hs', hsi'⟩
  | ret => exact ⟨.ret, _, _, _, _, rfl, hq, hs', hsi'⟩

theorem eval_bool {C : Cx} {N : Nat} {M : Mem} {G : Nat → Value} {w : World} {a : Act} (hs : St C N M G w env H a) {c : Operand} {t : Bool} (h : ev C.GL env c = .d (.bool t)) : a.eval c = .bool t := by
  have hr := hs.eval c
  rw [h] at hr
  generalize a.eval c = v at hr
  cases hr; rename_i hr; cases hr; rfl

theorem AEx.cond {c : Operand} {x y : Code} {t : Bool} (hc : ev F.C.GL env c = .d (.bool t)) (h1 : t = true → AEx F x env H Q) (h2 : t = false → AEx F y env H Q) : AEx F (.cond c x y) env H Q := by
  intro fr M G w act hK hs hsi
  exact wp_cond_split (eval_bool hs hc) (fun ht => h1 ht fr M G w act hK hs hsi) (fun ht => h2 ht fr M G w act hK hs hsi)
theorem AEx.cond_true {c : Operand} {x y : Code} (hc : ev F.C.GL env c = .d (.bool true)) (h : AEx F x env H Q) : AEx F (.cond c x y) env H Q := .cond hc (fun _ => h) (fun h => by cases h)
theorem AEx.cond_false {c : Operand} {x y : Code} (hc : ev F.C.GL env c = .d (.bool false)) (h : AEx F y env H Q) : AEx F (.cond c x y) env H Q := .cond hc (fun h => by cases h) (fun _ => h)

def After (Q : Po) : Env → Heap → Prop := Q .normal

theorem AEx.region {id : Nat} {L : List Oper} (hd : L.all (dstOk F.N) = true) (h : AOps F L L env H (After Q)) : AEx F (.region id L.toArray false) env H Q := by
  intro fr M G w act hK hs hsi
  exact wp_region_lit (h fr M G w act _ hK (List.all_eq_true.1 hd) hs hsi fun env' H' M' G' w' a' hq hs' hsi' => ⟨.normal, _, _, _, _, rfl, hq, hs', hsi'⟩)

theorem AEx.wk {c : Code} {L : List (Nat × A)} {H2 : Heap} (hw : Wk F.K env H L H2) (h : AEx F c (mkEnv L) H2 Q) : AEx F c env H Q := by
  intro fr M G w act hK hs hsi
  exact h fr M _ w act hK (hw.st hs) (hw.since hK hsi)

theorem AEx.mono {c : Code} {Q' : Po} (h : AEx F c env H Q) (hq : ∀ x e h, Q x e h → Q' x e h) : AEx F c env H Q' := by
  intro fr M G w act hK hs hsi
  refine wp_mono (h fr M G w act hK hs hsi) fun e a' w' he => ?_
  obtain ⟨x, env', H', M', G', rfl, hq', hs', hsi'⟩ := he
  exact ⟨x, _, _, _, _, rfl, hq _ _ _ hq', hs', hsi'⟩

/-- behind a round of a loop -/
def Round {X : Type} (F : Fx) (E : X → List (Nat × A)) (Hs : X → Heap) (μ : X → Nat) (Pr : X → Prop) (x : X) (Q : Po) : Po
  | .normal, e, h => ∃ y, Pr y ∧ μ y < μ x ∧ Wk F.K e h (E y) (Hs y)
  | z, e, h => Q z e h

open Classical in
theorem AEx.loop {X : Type} (E : X → List (Nat × A)) (Hs : X → Heap) (μ : X → Nat) (Pr : X → Prop) (x0 : X) (hw : Wk F.K env H (E x0) (Hs x0)) (p0 : Pr x0) {c : Code}
    (h : ∀ x, Pr x → AEx F c (mkEnv (E x)) (Hs x) (Round F E Hs μ Pr x Q)) : AEx F (.loop c) env H Q := by
  intro fr M G w act hK hs hsi
  let J : Nat → Act → World → Prop := fun n a' w' => ∃ x M' G', μ x = n ∧ Pr x ∧ St F.C F.N M' G' w' (mkEnv (E x)) (Hs x) a' ∧ Since fr M' G' w' (Hs x)
  let I : Act → World → Prop := fun a' w' => ∃ n, J n a' w'
  have least : ∀ (n : Nat) a' w', J n a' w' → ∃ m, J m a' w' ∧ ∀ k, k < m → ¬ J k a' w' := by
    intro n
    induction n using Nat.strongRecOn with
    | _ n ih =>
      intro a' w' hj
      by_cases he : ∃ k, k < n ∧ J k a' w'
      · obtain ⟨k, hk, hjk⟩ := he
        exact ih k hk a' w' hjk
      · exact ⟨n, hj, fun k hk hjk => he ⟨k, hk, hjk⟩⟩
  have min : ∀ a' w', I a' w' → ∃ m, J m a' w' ∧ ∀ k, k < m → ¬ J k a' w' := fun a' w' ⟨n, hn⟩ => least n a' w' hn
  let ν : Act → World → Nat := fun a' w' => if hi : I a' w' then Classical.choose (min a' w' hi) else 0
  refine wp_loop I ν ⟨_, x0, M, _, rfl, p0, hw.st hs, hw.since hK hsi⟩ fun a' w' hi => ?_
  have hν : ν a' w' = Classical.choose (min a' w' hi) := by simp [ν, hi]
  obtain ⟨hJ, _⟩ := Classical.choose_spec (min a' w' hi)
  rw [← hν] at hJ
  obtain ⟨x, M', G', hx, hp, hs', hsi'⟩ := hJ
  refine wp_mono (h x hp fr M' G' w' a' hK hs' hsi') fun e a2 w2 he => ?_
  obtain ⟨z, env', H', M2, G2, rfl, hq, hs2, hsi2⟩ := he
  cases z with
  | normal =>
    obtain ⟨y, hpy, hlt, hwk⟩ := hq
    have hJy : J (μ y) a2 w2 := ⟨y, M2, _, rfl, hpy, hwk.st hs2, hwk.since hK hsi2⟩
    have hI2 : I a2 w2 := ⟨_, hJy⟩
    refine ⟨hI2, ?_⟩
    have hν2 : ν a2 w2 = Classical.choose (min a2 w2 hI2) := by simp [ν, hI2]
    obtain ⟨_, hmin⟩ := Classical.choose_spec (min a2 w2 hI2)
    rw [← hν2] at hmin
    rcases Nat.lt_or_ge (ν a2 w2) (ν a' w') with h1 | h1
    · exact h1
    · exact absurd hJy (hmin _ (by omega))
  | exit id => exact ⟨.exit id, _, _, _, _, rfl, hq, hs2, hsi2⟩
  | ret => exact ⟨.ret, _, _, _, _, rfl, hq, hs2, hsi2⟩
end

/-! ### a function -/

def fnOk (P : Program) (f : FuncId) : Bool :=
  match P.funcs[f]? with
  | some fn => fn.body.isSome && !(fn.name == "runtime.NumGoroutine")
  | none => false

def RetPost (M : Mem) (G : Nat → Value) (w : World) (H : Heap) (Q : A → Heap → Prop) : Ending → World → Prop := fun e w' =>
  ∃ v r H' M' G', e = .returned v ∧ Q r H' ∧ RelA M' G' r v ∧ Good M' w' ∧ HRel M' G' w' H' ∧ Ext (own G H) M w M' w' ∧ (∀ b, own G' H' b → own G H b ∨ w.heap.size ≤ b) ∧ H.length ≤ H'.length ∧
    ∀ (o : Nat) x, H[o]? = some x → isTok x = false → G' o = G o ∧ ∀ y, H'[o]? = some y → isTok y = false

/-- a call of f with these arguments, over these objects, hands back what Q says -/
def ACall (C : Cx) (f : FuncId) (args : List A) (H : Heap) (Q : A → Heap → Prop) : Prop :=
  fnOk C.P f = true ∧ ∀ M G w (vs : Array Value), Good M w → GlOk C M w → HRel M G w H → args.length = vs.size → (∀ (i : Nat) x v, args[i]? = some x → vs[i]? = some v → RelA M G x v) →
    Calls C.P f vs w (RetPost M G w H Q)

def argEnv (args : List A) : Env := fun i => match nth args i with | some x => x | none => .junk

def resV (T : TT) (e : Env) (h : Heap) : ResultVar → Option A
  | .tmp t => some (e t)
  | .cell a t => match tget T t with | some i => loadA i (e a) h | none => none

def resVs (T : TT) (e : Env) (h : Heap) : List ResultVar → Option (List A)
  | [] => some []
  | r :: rs => match resV T e h r, resVs T e h rs with | some x, some xs => some (x :: xs) | _, _ => none

def resA (T : TT) (rs : List ResultVar) (e : Env) (h : Heap) : Option A :=
  match resVs T e h rs with
  | some [x] => some x
  | some xs => some (.tup xs)
  | none => none

/-- the end of a function -/
def Ends (F : Fx) (rs : List ResultVar) (Q : A → Heap → Prop) : Po
  | .exit _, _, _ => False
  | _, e, h => ∃ r0 r H', resA F.C.T rs e h = some r0 ∧ LeA r r0 ∧ WkH H'.length h H' ∧ namesLt H'.length r = true ∧ Nat.ble F.K H'.length = true ∧ Q r H'

def resOne (a : Act) : ResultVar → Sem Value
  | .tmp t => pure (a.tmps.getD t undef)
  | .cell p t => do loadVar t (← asAddr (a.tmps.getD p undef))

theorem resV_ok {C : Cx} (hC : CxOk C) {N : Nat} {M : Mem} {G : Nat → Value} {w : World} {env : Env} {H : Heap} {a : Act} (hs : St C N M G w env H a) {r : ResultVar} {x : A} (h : resV C.T env H r = some x) :
    ∃ v, (resOne a r).run C.P w = .ok v w ∧ RelA M G x v := by
  cases r with
  | tmp t =>
    simp only [resV, Option.some.injEq] at h
    subst h
    exact ⟨_, rfl, hs.env t⟩
  | cell p t =>
    simp only [resV] at h
    split at h
    · rename_i i ht
      have hp := hs.env p
      obtain ⟨v, h1, h2⟩ := loadA_ok (P := C.P) hC.tok hs.good hs.hrel ht hp h
      refine ⟨v, ?_, h2⟩
      have key : ∀ u : Value, (Instr.loadAt t u).run C.P w = .ok v w → ((do loadVar t (← asAddr u)) : Sem Value).run C.P w = .ok v w := by
        intro u h1
        unfold Instr.loadAt Instr.sureAddr at h1
        cases u <;> try (simp at h1; done)
        rename_i ad
        cases ad with
        | none => simp at h1
        | some ad => simpa [asAddr] using h1
      exact key _ h1
    · cases h

theorem resVs_ok {C : Cx} (hC : CxOk C) {N : Nat} {M : Mem} {G : Nat → Value} {w : World} {env : Env} {H : Heap} {a : Act} (hs : St C N M G w env H a) : ∀ {rs : List ResultVar} {xs : List A}, resVs C.T env H rs = some xs →
    ∃ vs : List Value, (rs.mapM (resOne a)).run C.P w = .ok vs w ∧ xs.length = vs.length ∧
      ∀ (i : Nat) x v, xs[i]? = some x → vs[i]? = some v → RelA M G x v
  | [], xs, h => by
    simp only [resVs, Option.some.injEq] at h
    subst h
    exact ⟨[], rfl, rfl, fun i x v h => by simp at h⟩
  | r :: rs, xs, h => by
    simp only [resVs] at h
    split at h
    · rename_i x ys hx hxs
      simp only [Option.some.injEq] at h
      subst h
      obtain ⟨v, h1, h2⟩ := resV_ok hC hs hx
      obtain ⟨vs, h3, h4, h5⟩ := resVs_ok hC hs hxs
      refine ⟨v :: vs, ?_, by simp [h4], fun i y u hy hu => ?_⟩
      · rw [List.mapM_cons]
        simp only [Sem.run_bind, h1, Result.andThen_ok, h3, Sem.run_pure]
      · cases i with
        | zero => simp at hy hu; subst hy; subst hu; exact h2
        | succ i => exact h5 i y u (by simpa using hy) (by simpa using hu)
    · cases h

theorem results_ok {C : Cx} (hC : CxOk C) {N : Nat} {M : Mem} {G : Nat → Value} {w : World} {env : Env} {H : Heap} {a : Act} (hs : St C N M G w env H a) {fn : Func} {x : A} (h : resA C.T fn.results.toList env H = some x) :
    ∃ v, (results fn a.tmps).run C.P w = .ok v w ∧ RelA M G x v := by
  unfold resA at h
  have key : ∀ {xs : List A}, resVs C.T env H fn.results.toList = some xs → ∃ vs : List Value, (results fn a.tmps).run C.P w = .ok (if h : vs.toArray.size = 1 then vs.toArray[0] else .tuple vs.toArray) w ∧ xs.length = vs.length ∧
      ∀ (i : Nat) x v, xs[i]? = some x → vs[i]? = some v → RelA M G x v := by
    intro xs hx
    obtain ⟨vs, h1, h2, h3⟩ := resVs_ok hC hs hx
    refine ⟨vs, ?_, h2, h3⟩
    have e : results fn a.tmps = (do let vs ← fn.results.mapM (resOne a); pure (if h : vs.size = 1 then vs[0] else .tuple vs)) := rfl
    rw [e, Array.mapM_eq_mapM_toList]
    simp only [Sem.run_bind, Sem.run_map, h1, Result.andThen_ok, Sem.run_pure]
  split at h
  · rename_i y hy
    simp only [Option.some.injEq] at h
    subst h
    obtain ⟨vs, h1, h2, h3⟩ := key hy
    obtain ⟨v, rfl⟩ : ∃ v, vs = [v] := List.length_eq_one_iff.1 h2.symm
    exact ⟨v, h1, h3 0 _ v rfl rfl⟩
  · rename_i xs hne hxs
    simp only [Option.some.injEq] at h
    subst h
    obtain ⟨vs, h1, h2, h3⟩ := key hxs
    refine ⟨.tuple vs.toArray, ?_, .tup (by simpa using h2) fun i x v hx hv => h3 i x v hx (by simpa using hv)⟩
    rw [h1]
    rw [dif_neg]
    intro e
    have e' : xs.length = 1 := by rw [h2]; simpa using e
    obtain ⟨y, hy⟩ := List.length_eq_one_iff.1 e'
    exact hne y hy
  · cases h

theorem ACall.intro {C : Cx} (hC : CxOk C) {f : FuncId} {fn : Func} {c : Code} {args : List A} {H : Heap} {Q : A → Heap → Prop} (hf : C.P.funcs[f]? = some fn) (hn : (fn.name == "runtime.NumGoroutine") = false) (hb : fn.body = some c)
    (ha : Nat.ble args.length fn.ntmps = true) (h : AEx ⟨C, fn.ntmps, H.length⟩ c (argEnv args) H (Ends ⟨C, fn.ntmps, H.length⟩ fn.results.toList Q)) : ACall C f args H Q := by
  refine ⟨by simp [fnOk, hf, hb, hn], fun M G w vs hg hgl hh hl hr => ?_⟩
  have hle := Nat.le_of_ble_eq_true ha
  have hs : St C fn.ntmps M G w (argEnv args) H { tmps := vs ++ Array.replicate (fn.ntmps - vs.size) undef, defers := [] } := by
    refine ⟨hg, hgl, hh, fun t => ?_, by simp; omega, rfl⟩
    unfold argEnv
    cases hx : nth args t with
    | none => exact .junk
    | some x =>
      rw [nth_eq] at hx
      have hlt : t < vs.size := by rw [← hl]; exact (List.getElem?_eq_some_iff.1 hx).1
      have hv : vs[t]? = some vs[t] := Array.getElem?_eq_getElem hlt
      have : (vs ++ Array.replicate (fn.ntmps - vs.size) undef).getD t undef = vs[t] := by
        simp [Array.getD_eq_getD_getElem?, Array.getElem?_append, hlt]
      rw [this]
      exact hr t x _ hx hv
  have hsi : Since ⟨H, G, M, w⟩ M G w H := ⟨Ext.refl _ _ _, fun b hb => .inl hb, Nat.le_refl _, fun _ _ _ _ => rfl, fun o x y hx ht hy => by rw [hx] at hy; exact Option.some.inj hy ▸ ht⟩
  refine calls_of_wp hf hb (wp_mono (h ⟨H, G, M, w⟩ M G w _ rfl hs hsi) fun e a' w' he => ?_)
  obtain ⟨x, env', H', M', G', rfl, hq, hs', hsi'⟩ := he
  have fin : ∀ (r0 r : A) (H2 : Heap), resA C.T fn.results.toList env' H' = some r0 → LeA r r0 → WkH H2.length H' H2 → namesLt H2.length r = true → Nat.ble H.length H2.length = true → Q r H2 →
      a'.defers = [] ∧ ∃ v, (results fn a'.tmps).run C.P w' = .ok v w' ∧ RetPost M G w H Q (.returned v) w' := by
    intro r0 r H2 h1 hle h2 h3 h4 h5
    obtain ⟨v, g1, g2⟩ := results_ok hC hs' h1
    refine ⟨hs'.defers, v, g1, v, r, H2, M', cutG H2.length G', rfl, h5, (hle.rel g2).cut h3, hs'.good, hs'.hrel.wk h2, hsi'.ext, fun b hb => hsi'.own b (own_cut h2 hb), Nat.le_of_ble_eq_true h4, fun o x ho ht => ?_⟩
    have hlt := (List.getElem?_eq_some_iff.1 ho).1
    have hle2 := Nat.le_of_ble_eq_true h4
    refine ⟨?_, fun y hy => ?_⟩
    · rw [show cutG H2.length G' o = G' o by simp [cutG]; omega]
      exact hsi'.keep o x ho ht
    · obtain ⟨z, hz, hwk⟩ := h2.spec.2 o y hy
      exact hwk.isTok (hsi'.kind o x _ ho ht hz)
  cases x with
  | normal => obtain ⟨r0, r, H2, h1, hle, h2, h3, h4, h5⟩ := hq; exact fin r0 r H2 h1 hle h2 h3 h4 h5
  | ret => obtain ⟨r0, r, H2, h1, hle, h2, h3, h4, h5⟩ := hq; exact fin r0 r H2 h1 hle h2 h3 h4 h5
  | exit id => exact hq.elim

theorem ACall.mono {C : Cx} {f : FuncId} {args : List A} {H : Heap} {Q Q' : A → Heap → Prop} (h : ACall C f args H Q) (hq : ∀ r H', Q r H' → Q' r H') : ACall C f args H Q' :=
  ⟨h.1, fun M G w vs a b c d e => (h.2 M G w vs a b c d e).mono fun _ _ ⟨v, r, H', M', G', h1, h2, h3⟩ => ⟨v, r, H', M', G', h1, hq _ _ h2, h3⟩⟩

/-! ### a call -/

theorem run_call {P : Program} {ρ : Operand → Value} {o : Oper} {fo : Operand} {as : Array Operand} {ts : Array TypeId} {f : FuncId} {caps : Array Value} (ho : o.op = .call { callee := .value fo, args := as, argTypes := ts })
    (hf : ρ fo = .func (.func f) #[] caps) (hk : fnOk P f = true) (w : World) : (execOp ρ o).run P w = .ok (.enter f (as.map ρ ++ caps)) w := by
  unfold fnOk at hk
  split at hk
  · rename_i fn hfn
    simp only [Bool.and_eq_true, Bool.not_eq_true'] at hk
    obtain ⟨c, hc⟩ := Option.isSome_iff_exists.1 hk.1
    unfold execOp
    have hne : ¬ fn.name = "runtime.NumGoroutine" := by simpa using hk.2
    simp [ho, resolve, hf, Deferred.ofValue, invoke, callFunc, hfn, hne, hc]
  · cases hk

/-- the arguments of a call -/
def callArgs (GL : GT) (env : Env) (o : Oper) : Option (FuncId × List A) :=
  match o.op with
  | .call { callee := .value fo, args, .. } => match ev GL env fo with
    | .clo f caps => some (f, args.toList.map (ev GL env) ++ caps)
    | _ => none
  | _ => none

theorem callArgs_ok {C : Cx} {env : Env} {o : Oper} {f : FuncId} {xs : List A} (h : callArgs C.GL env o = some (f, xs)) {M : Mem} {G : Nat → Value} {ρ : Operand → Value} (hρ : ∀ y ∈ o.op.operands, RelA M G (ev C.GL env y) (ρ y)) (hk : fnOk C.P f = true) :
    ∃ vs : Array Value, (∀ w, (execOp ρ o).run C.P w = .ok (.enter f vs) w) ∧ xs.length = vs.size ∧ ∀ (i : Nat) x v, xs[i]? = some x → vs[i]? = some v → RelA M G x v := by
  unfold callArgs at h
  split at h
  · rename_i fo as ts ho
    rw [ho] at hρ
    split at h
    · rename_i g caps hg
      simp only [Option.some.injEq, Prod.mk.injEq] at h
      obtain ⟨rfl, rfl⟩ := h
      have h1 := hρ fo (by simp [Op.operands, Call.operands])
      rw [hg] at h1
      generalize hfv : ρ fo = fv at h1
      cases h1
      rename_i cv hl hr
      refine ⟨as.map ρ ++ cv, run_call ho hfv hk, by simp [hl], fun i x v hx hv => ?_⟩
      by_cases hi : i < as.size
      · rw [List.getElem?_append_left (by simpa using hi), List.getElem?_map] at hx
        rw [Array.getElem?_append_left (by simpa using hi), Array.getElem?_map] at hv
        cases ha : as[i]? with
        | none => rw [ha] at hv; cases hv
        | some y =>
          rw [ha] at hv
          rw [Array.getElem?_toList, ha] at hx
          simp only [Option.map_some, Option.some.injEq] at hx hv
          subst hx; subst hv
          exact hρ y (by simp only [Op.operands, Call.operands, Array.mem_append]; exact .inr (Array.mem_of_getElem? ha))
      · rw [List.getElem?_append_right (by simp; omega)] at hx
        rw [Array.getElem?_append_right (by simp; omega)] at hv
        simp only [List.length_map, Array.length_toList, Array.size_map] at hx hv
        exact hr _ x v hx hv
    · cases h
  · cases h

theorem RelA.bare {M : Mem} {G G' : Nat → Value} {x : A} {v : Value} (h : RelA M G x v) (hn : namesLt 0 x = true) : RelA M G' x v :=
  h.mono (fun _ _ e => e) fun o ho => absurd (namesLt_spec hn ho) (by omega)

/-- a call that takes and hands back data alone -/
theorem upon_call0 {C : Cx} {f : FuncId} {xs : List A} (hn : namesLtL 0 xs = true) {Qr : A → Prop} (hc : ACall C f xs [] (fun r H' => H' = [] ∧ Qr r)) {M : Mem} {G : Nat → Value} {w : World} (hg : Good M w) (hgl : GlOk C M w) {vs : Array Value}
    (hl : xs.length = vs.size) (hr : ∀ (i : Nat) x v, xs[i]? = some x → vs[i]? = some v → RelA M G x v) : Calls C.P f vs w fun e w' => ∃ v r M', e = .returned v ∧ Qr r ∧ (∀ G', RelA M' G' r v) ∧ Good M' w' ∧ Ext none' M w M' w' := by
  refine (hc.2 M (fun _ => .tuple #[]) w vs hg hgl (HRel.nil _ _) hl fun i x v hx hv => (hr i x v hx hv).bare (namesLtL_mem hn x (List.mem_of_getElem? hx))).mono fun e w' he => ?_
  obtain ⟨v, r, H', M', G', rfl, ⟨rfl, hq⟩, h1, h2, h3, h4, _, _, _⟩ := he
  refine ⟨v, r, M', rfl, hq, fun G'' => h1.mono (fun _ _ e => e) fun o ho => absurd (h3.fresh o (Nat.zero_le _)) (h1.names ho), h2, h4.weaken fun b hb => ?_⟩
  obtain ⟨o, x, ho, _⟩ := hb
  simp at ho

theorem yields_call {C : Cx} {o : Oper} {env : Env} {H : Heap} {f : FuncId} {xs : List A} {x : A} (ha : callArgs C.GL env o = some (f, xs)) (hn : namesLtL 0 xs = true) (hc : ACall C f xs [] (fun r H' => H' = [] ∧ r = x)) : Yields C o env H x := by
  intro M G w a next Qw hρ hG hgl hH hk
  obtain ⟨vs, h1, h2, h3⟩ := callArgs_ok ha hρ hc.1
  unfold Oper.wp
  rw [h1 w]
  refine (upon_call0 hn hc hG hgl h2 h3).mono fun e w' he => ?_
  obtain ⟨v, r, M', rfl, rfl, g1, g2, g3⟩ := he
  exact hk v M' w' (g1 G) g2 g3

theorem AOps.call {F : Fx} {L l : List Oper} {o : Oper} {env : Env} {H : Heap} {Q : Env → Heap → Prop} {f : FuncId} {xs : List A} {x : A} (hw : wantedA L env o = some true) (ha : callArgs F.C.GL env o = some (f, xs)) (hn : namesLtL 0 xs = true)
    (hc : ACall F.C f xs [] (fun r H' => H' = [] ∧ r = x)) (k : AOps F L l (put env o.dst x) H Q) : AOps F L (o :: l) env H Q := .yields hw (yields_call ha hn hc) k

end Go.Am

