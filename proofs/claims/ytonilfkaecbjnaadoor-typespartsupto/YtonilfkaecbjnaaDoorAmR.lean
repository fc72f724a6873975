/-
  Structs compared; slices that are made and filled.
-/
import Derived.Test.YtonilfkaecbjnaaDoorAmQ
import Derived.Laws.StructEq
namespace Go.Am

/-! ### structs of scalars, compared -/

def eqCell (u : TU) (x y : A) : Option Bool :=
  match u, x, y with
  | .bool, .d (.bool a), .d (.bool b) => some (a == b)
  | .int _, .d (.int k a), .d (.int k' b) => bif decide (k = k') then some (a == b) else none
  | .str, .d (.str a), .d (.str b) => some (a == b)
  | _, _, _ => none
def eqFs (T : TT) (xs ys : List A) : List (Nat × Nat × Nat) → Option Bool
  | [] => some true
  | g :: r => match tget T g.1 with
    | some i => match readA i (xs.drop g.2.1), readA i (ys.drop g.2.1) with
      | some x, some y => match eqCell i.u x y, eqFs T xs ys r with
        | some b, some q => some (bif b then q else false)
        | _, _ => none
      | _, _ => none
    | none => none

/-- a struct type of the program's that this serves -/
def seB (P : Program) (t : Nat) : Bool :=
  match P.underlying t with
  | some (.struct fs) => (fs.toList.all fun f => !(f.name == "_")) && !P.stoodInHeld t && !P.eqGuardType P.depth t
  | _ => false

section
variable {P : Program} {M : Mem} {G : Nat → Value} {w : World}

theorem eqCell_run {T : TT} (hT : TOk P T) {t : Nat} {i : TI} (ht : tget T t = some i) {x y : A} {b : Bool} (h : eqCell i.u x y = some b) {u v : Value} (hx : RelA M G x u) (hy : RelA M G y v) (n : Nat) : (Op.equalIn (n + 1) t u v).run P w = .ok b w := by
  have f := hT.facts ht
  unfold eqCell at h
  split at h
  · rename_i hu
    cases hx; cases hy
    rename_i hx hy
    cases hx; cases hy
    simp only [Option.some.injEq] at h
    subst h
    simp [Op.equalIn, run_underlying (under_bool f hu)]
  · rename_i k0 k a k' b' hu
    cases hx; cases hy
    rename_i hx hy
    cases hx; cases hy
    cases hk : decide (k = k') with
    | false => rw [hk] at h; cases h
    | true =>
      rw [hk] at h
      simp only [cond_true, Option.some.injEq] at h
      subst h
      have := of_decide_eq_true hk
      subst this
      simp [Op.equalIn, run_underlying (under_int f hu)]
  · rename_i hu
    cases hx; cases hy
    rename_i hx hy
    cases hx; cases hy
    simp only [Option.some.injEq] at h
    subst h
    simp [Op.equalIn, run_underlying (under_str f hu), mk_eq]
  · cases h

theorem eqFs_run {T : TT} (hT : TOk P T) {xs ys : List A} {us vs : Array Value} (hx : CellsRel M G xs us) (hy : CellsRel M G ys vs) (n : Nat) : ∀ {gs : List (Nat × Nat × Nat)} {fs : List Field} {b : Bool}, gs.length = fs.length →
    (∀ (k : Nat) g f, gs[k]? = some g → fs[k]? = some f → f.type = g.1 ∧ f.offset = g.2.1 ∧ (f.name == "_") = false) → eqFs T xs ys gs = some b → (Op.eqFields (n + 1) us vs fs).run P w = .ok b w
  | [], [], b, _, _, h => by simp only [eqFs, Option.some.injEq] at h; subst h; rfl
  | g :: gs, f :: fs, b, hl, hf, h => by
    obtain ⟨e1, e2, e3⟩ := hf 0 g f rfl rfl
    simp only [eqFs] at h
    split at h
    · rename_i i hi
      split at h
      · rename_i x y h1 h2
        split at h
        · rename_i c q hc hq
          simp only [Option.some.injEq] at h
          subst h
          obtain ⟨u, p1, p2⟩ := part_ok (P := P) (w := w) hT hi hx h1
          obtain ⟨v, q1, q2⟩ := part_ok (P := P) (w := w) hT hi hy h2
          have hr := eqCell_run (w := w) hT hi hc p2 q2 n
          have ih := eqFs_run hT hx hy n (by simpa using hl) (fun k g f a b => hf (k + 1) g f (by simpa using a) (by simpa using b)) hq
          have hne : f.name ≠ "_" := by simpa using e3
          simp only [Op.eqFields, hne, ne_eq, not_false_eq_true, if_true, Sem.run_bind, e1, e2, p1, q1, hr, Result.andThen_ok]
          cases c with
          | false => simp
          | true => simpa using ih
        · cases h
      · cases h
    · cases h
  | [], _ :: _, _, hl, _, _ => by simp at hl
  | _ :: _, [], _, hl, _, _ => by simp at hl
end

def stepSE (C : Cx) (L : List Oper) (o : Oper) (env : Env) : Option (Option Nat × Nat × Bool) :=
  match wantedA L env o, o.op, dstF o with
  | some true, .binOp op t x y _, some d => match tget C.T t, ev C.GL env x, ev C.GL env y, eqNeg op with
    | some i, .agg xs, .agg ys, some neg => match i.u with
      | .st gs => match eqFs C.T xs ys gs with
        | some b => some (d, t, bif neg then !b else b)
        | none => none
      | _ => none
    | _, _, _, _ => none
  | _, _, _ => none

theorem yields_se {C : Cx} (hC : CxOk C) {L : List Oper} {o : Oper} {env : Env} {H : Heap} {d : Option Nat} {t : Nat} {b : Bool} (h : stepSE C L o env = some (d, t, b)) (hs : seB C.P t = true) : wantedA L env o = some true ∧ dstF o = some d ∧ Yields C o env H (.d (.bool b)) := by
  unfold stepSE at h
  split at h
  · rename_i op t' x y yt d' hw ho hd
    split at h
    · rename_i i xs ys neg ht hx hy hn
      split at h
      · rename_i gs hu
        split at h
        · rename_i c hc
          simp only [Option.some.injEq, Prod.mk.injEq] at h
          obtain ⟨rfl, rfl, rfl⟩ := h
          refine ⟨hw, hd, ?_⟩
          intro M G w a next Qw hρ hG hgl hH hkk
          rw [ho] at hρ
          have hxr := hρ x (by simp [Op.operands])
          have hyr := hρ y (by simp [Op.operands])
          rw [hx] at hxr
          rw [hy] at hyr
          generalize hxv : a.eval x = xv at hxr
          generalize hyv : a.eval y = yv at hyr
          cases hxr; rename_i us a2 a1 a3
          cases hyr; rename_i vs b2 b1 b3
          obtain ⟨fs, hfs, hg, hg'⟩ := under_st' (hC.tok.facts ht) hu
          unfold seB at hs
          rw [hfs] at hs
          simp only [Bool.and_eq_true, Bool.not_eq_true', List.all_eq_true] at hs
          obtain ⟨⟨s1, s2⟩, s3⟩ := hs
          have hlen : gs.length = fs.toList.length := by
            refine Nat.le_antisymm ?_ ?_
            · refine Nat.le_of_not_lt fun hlt => ?_
              obtain ⟨f, hf, _⟩ := hg fs.toList.length _ (List.getElem?_eq_getElem hlt)
              simp at hf
            · refine Nat.le_of_not_lt fun hlt => ?_
              have hlt' : gs.length < fs.size := by simpa using hlt
              obtain ⟨g, hgg⟩ := hg' gs.length _ (Array.getElem?_eq_getElem hlt')
              simp at hgg
          have hrun : ∀ n, (Op.equalIn (n + 1 + 1) t' (.agg us) (.agg vs)).run C.P w = .ok c w := fun n => by
            have hfo : C.P.fieldsOf t' = fs := by simp [Program.fieldsOf, hfs]
            rw [run_equalIn_struct w (n + 1) t' us vs (by rw [hfo]; exact hfs) s2, hfo]
            refine eqFs_run hC.tok ⟨a1, a2, a3⟩ ⟨b1, b2, b3⟩ n hlen (fun k g f e1 e2 => ?_) hc
            obtain ⟨f', q1, q2, q3, _⟩ := hg k g e1
            have : f' = f := by rw [Array.getElem?_toList] at e2; rw [q1] at e2; exact Option.some.inj e2
            subst this
            exact ⟨q2, q3, s1 _ (List.mem_of_getElem? e2)⟩
          have heq : (Op.equal t' (.agg us) (.agg vs)).run C.P w = .ok c w := hrun 9998
          have hgd : (eqGuard op t' x y (.agg us) (.agg vs)).run C.P w = .ok () w := by
            unfold eqGuard
            rcases eqNeg_some hn with ⟨rfl, rfl⟩ | ⟨rfl, rfl⟩ <;> simp [run_program, s3]
          have hb : (binOp op t' (.agg us) (.agg vs)).run C.P w = .ok (.bool (bif neg then !c else c)) w := by
            rcases eqNeg_some hn with ⟨rfl, rfl⟩ | ⟨rfl, rfl⟩
            · show (do pure (.bool (← Op.equal t' (.agg us) (.agg vs))) : Sem Value).run C.P w = _
              simp only [Sem.run_bind, heq, Result.andThen_ok, Sem.run_pure, cond_false]
            · show (do pure (.bool (!(← Op.equal t' (.agg us) (.agg vs)))) : Sem Value).run C.P w = _
              simp only [Sem.run_bind, heq, Result.andThen_ok, Sem.run_pure, cond_true]
          unfold Oper.wp execOp
          simp only [ho, hxv, hyv, Sem.run_bind, hgd, Result.andThen_ok, hb, Sem.run_pure, Oper.upon_value]
          exact hkk _ M w (.d .bool) hG (Ext.refl _ _ _)
        · cases h
      · cases h
    · cases h
  · cases h

theorem AOps.se {F : Fx} (hC : CxOk F.C) {L l : List Oper} {o : Oper} {env : Env} {H : Heap} {Q : Env → Heap → Prop} {d : Option Nat} {t : Nat} {b : Bool} (h : stepSE F.C L o env = some (d, t, b)) (hs : seB F.C.P t = true) (k : AOps F L l (put env d (.d (.bool b))) H Q) : AOps F L (o :: l) env H Q := by
  obtain ⟨h1, h2, h3⟩ := yields_se hC h hs
  exact .yields h1 h3 (by rw [dstF_eq h2]; exact k)
theorem AQ.se {C : Cx} (hC : CxOk C) {L l : List Oper} {o : Oper} {env : Env} {H : Heap} {Q : Env → Prop} {d : Option Nat} {t : Nat} {b : Bool} (h : stepSE C L o env = some (d, t, b)) (hs : seB C.P t = true) (k : AQ C L l (put env d (.d (.bool b))) H Q) : AQ C L (o :: l) env H Q := by
  obtain ⟨h1, h2, h3⟩ := yields_se (H := H) hC h hs
  exact .y _ h2 h1 h3 k
theorem AG.se {C : Cx} (hC : CxOk C) {L l : List Oper} {o : Oper} {env : Env} {cnd : Cnd} {H : Heap} {Q : Env → Cnd → Prop} {d : Option Nat} {W : Option Bool} {t : Nat} {b : Bool} (hw : wantC L env cnd o = some W) (h : stepSE C [] (noG o) env = some (d, t, b)) (hs : seB C.P t = true) (hsd : holds W → sides cnd (opsL o))
    (k : AG C L l (put env d (.d (.bool b))) (putC cnd d W) H Q) : AG C L (o :: l) env cnd H Q := by
  obtain ⟨_, h2, h3⟩ := yields_se (H := H) hC h hs
  exact .lift (by simpa [dstF, noG] using h2) hw hsd (fun _ => h3) k
theorem AG.bx {C : Cx} (hC : CxOk C) {L l : List Oper} {o : Oper} {env : Env} {cnd : Cnd} {H : Heap} {Q : Env → Cnd → Prop} {d : Option Nat} {W : Option Bool} {rs rs' : List Row} (hw : wantC L env cnd o = some W) (h : stepB C [] (noG o) env = some (d, rs)) (e : rs = rs') (hsd : holds W → sides cnd (opsL o))
    (k : AG C L l (put env d (.full rs')) (putC cnd d W) H Q) : AG C L (o :: l) env cnd H Q := by
  subst e
  exact .lift (by simpa [dstF, noG] using (stepB_spec h).2) hw hsd (fun _ => yields_build hC h) k

end Go.Am
