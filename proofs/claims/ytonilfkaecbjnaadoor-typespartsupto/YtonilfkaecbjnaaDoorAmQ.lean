/-
  A region that draws its order, gone through order by order.
-/
import Derived.Test.YtonilfkaecbjnaaDoorAmP
namespace Go.Am

theorem wp_congrQ {P : Program} {o : Oper} {a : Act} {w : World} {K : Act → World → Prop} {Q Q' : Exit → Act → World → Prop} (h1 : ∀ c a w, Q (.panic c) a w → Q' (.panic c) a w) (h2 : LetsOut Q → LetsOut Q')
    (h : o.wp P a w K Q) : o.wp P a w K Q' := by
  unfold Oper.wp at *
  generalize (execOp a.eval o).run P w = r at *
  cases r with
  | ok n w' =>
    cases n <;> simp only [Oper.upon] at h ⊢ <;>
      first
        | exact h
        | exact Calls.mono h (fun e w'' he => by cases e <;> first | exact he | exact h1 _ _ _ he | exact h2 he)
  | halt x w' => cases x <;> simp only [Oper.upon] at h ⊢ <;> first | exact h | exact h1 _ _ _ h

/-- some operations are behind us; the rest come in whatever order -/
def ADraw (F : Fx) (L : List Oper) (m : Nat) (listed : Array Bool) (env : Env) (H : Heap) (Q : Po) : Prop :=
  ∀ fr M G w a, fr.H0.length = F.K → St F.C F.N M G w env H a → Since fr M G w H → wpAny F.C.P .any L.toArray (Fin F fr Q) m listed a w

theorem ADraw.nil {F : Fx} {L : List Oper} {m : Nat} {listed : Array Bool} {env : Env} {H : Heap} {Q : Po} (hr : Region.ready .any L.toArray listed = []) (h : Q .normal env H) : ADraw F L m listed env H Q := by
  intro fr M G w a hK hs hsi
  have hq : Fin F fr Q .normal a w := ⟨.normal, env, H, M, G, rfl, h, hs, hsi⟩
  cases m with
  | zero => exact ⟨hr, hq⟩
  | succ m => exact ⟨fun _ => hq, fun i hi => by rw [hr] at hi; cases hi⟩

/-- each of these may come next -/
def DrawAll (F : Fx) (L : List Oper) (m : Nat) (listed : Array Bool) (env : Env) (H : Heap) (Q : Po) : List Nat → Prop
  | [] => True
  | j :: r => (∃ o, nth L j = some o ∧ AOps F L [o] env H (fun e h => ADraw F L m (listed.setIfInBounds j true) e h Q)) ∧ DrawAll F L m listed env H Q r

theorem DrawAll.get {F : Fx} {L : List Oper} {m : Nat} {listed : Array Bool} {env : Env} {H : Heap} {Q : Po} : ∀ {js : List Nat}, DrawAll F L m listed env H Q js → ∀ j ∈ js, ∃ o, nth L j = some o ∧ AOps F L [o] env H (fun e h => ADraw F L m (listed.setIfInBounds j true) e h Q)
  | [], _, j, hj => by cases hj
  | i :: r, h, j, hj => by
    rcases List.mem_cons.1 hj with rfl | hj
    · exact h.1
    · exact DrawAll.get h.2 j hj

theorem ADraw.step {F : Fx} {L : List Oper} {m : Nat} {listed : Array Bool} {env : Env} {H : Heap} {Q : Po} (hd : L.all (dstOk F.N) = true) {j0 : Nat} {js : List Nat} (hr : Region.ready .any L.toArray listed = j0 :: js) (h : DrawAll F L m listed env H Q (j0 :: js)) : ADraw F L (m + 1) listed env H Q := by
  intro fr M G w a hK hs hsi
  refine ⟨fun h0 => (by rw [hr] at h0; cases h0), fun i hi => ?_⟩
  rw [hr] at hi
  obtain ⟨o, ho, hop⟩ := h.get i hi
  rw [nth_eq] at ho
  let Qw : Exit → Act → World → Prop := fun e a w => match e with
    | .normal => wpAny F.C.P .any L.toArray (Fin F fr Q) m (listed.setIfInBounds i true) a w
    | e => Fin F fr Q e a w
  have := hop fr M G w a Qw hK (fun o' ho' => by
    rw [List.mem_singleton] at ho'
    subst ho'
    exact List.all_eq_true.1 hd _ (List.mem_of_getElem? ho)) hs hsi (fun env' H' M' G' w' a' hq hs' hsi' => hq fr M' G' w' a' hK hs' hsi')
  simp only [wpList] at this
  unfold wpOp
  simp only [List.getElem?_toArray, ho]
  have hout : LetsOut Qw → LetsOut (Fin F fr Q) := fun ⟨a, w, h⟩ => ⟨a, w, h⟩
  split
  · rename_i hw
    rw [if_pos hw] at this
    rcases this with h1 | ⟨h1, h2⟩
    · exact .inl (wp_congrQ (fun c a w h => h) hout h1)
    · exact .inr ⟨h1, hout h2⟩
  · rename_i hw
    rw [if_neg hw] at this
    exact this

theorem AEx.drawE {F : Fx} (hC : CxOk F.C) {id : Nat} {L : List Oper} {env : Env} {H : Heap} {Q : Po} (h : ADraw F L L.length (Array.replicate L.length false) env H Q) : AEx F (.region id L.toArray true) env H Q := by
  intro fr M G w act hK hs hsi
  refine wp_region_any hC.mixed ?_
  have hs' : St F.C F.N M G { w with drawn := w.drawn + 1 } env H act :=
    ⟨fun a v e => hs.good a v e, hs.gl, hs.hrel.ext (S := none') ⟨fun _ _ e => e, Nat.le_refl _, rfl, rfl, rfl, fun _ _ _ => rfl, fun _ _ e => .inl e⟩ (fun _ _ h => h), hs.env, hs.size, hs.defers⟩
  have hsi' : Since fr M G { w with drawn := w.drawn + 1 } H := hsi.quiet ⟨fun _ _ e => e, Nat.le_refl _, rfl, rfl, rfl, fun _ _ _ => rfl, fun _ _ e => .inl e⟩
  have := h fr M G _ act hK hs' hsi'
  simpa using this

end Go.Am
