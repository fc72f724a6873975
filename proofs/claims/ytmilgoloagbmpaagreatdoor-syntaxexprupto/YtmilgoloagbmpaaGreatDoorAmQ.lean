/-
  A region that draws its order, gone through order by order.
-/
import Derived.Test.YtmilgoloagbmpaaGreatDoorAmP
namespace Go.Am

/-- some operations are behind us; the rest come in whatever order -/
def ADraw (F : Fx) (L : List Oper) (m : Nat) (listed : Array Bool) (env : Env) (H : Heap) (Q : Po) : Prop :=
  ∀ fr M G w a, fr.H0.length = F.K → St F.C F.N M G w env H a → Since fr M G w H → wpAny F.C.P .any L.toArray (Fin F fr Q) m listed a w

theorem ADraw.nil {F : Fx} {L : List Oper} {m : Nat} {listed : Array Bool} {env : Env} {H : Heap} {Q : Po} (hr : Region.ready .any L.toArray listed = []) (h : Q .normal env H) : ADraw F L m listed env H Q := by
  intro fr M G w a hK hs hsi
  have hq : Fin F fr Q .normal a w := ⟨.normal, env, H, M, G, rfl, h, hs, hsi⟩
  cases m with
  | zero => exact ⟨hr, hq⟩
  | succ m => exact ⟨fun _ => hq, fun i hi => by rw [hr] at hi; cases hi⟩

/-- each of these may come next -/
def DrawAll (F : Fx) (L : List Oper) (m : Nat) (listed : Array Bool) (env : Env) (H : Heap) (Q : Po) : List Nat → Prop
  | [] => True
  | j :: r => (∃ o, nth L j = some o ∧ AOps F L [o] env H (fun e h => ADraw F L m (listed.setIfInBounds j true) e h Q)) ∧ DrawAll F L m listed env H Q r

theorem DrawAll.get {F : Fx} {L : List Oper} {m : Nat} {listed : Array Bool} {env : Env} {H : Heap} {Q : Po} : ∀ {js : List Nat}, DrawAll F L m listed env H Q js → ∀ j ∈ js, ∃ o, nth L j = some o ∧ AOps F L [o] env H (fun e h => ADraw F L m (listed.setIfInBounds j true) e h Q)
  | [], _, j, hj => by cases hj
  | i :: r, h, j, hj => by
    rcases List.mem_cons.1 hj with rfl | hj
    · exact h.1
    · exact DrawAll.get h.2 j hj

end Go.Am

