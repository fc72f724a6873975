/- A part of the proof of InterpSpaces: the statement of the law, for all inputs of bulk at most 1048576. The card ties the listed variables to a pruned copy of the program. -/
import Derived.Test.YtnabbmegmkdehaaGreatDoorRd
import Derived.Test.YtnabbmegmkdehaaGreatDoorPlB
namespace Go.Proofs.YtnabbmegmkdehaaGreatDoor
open Go.Am Go.ChangeShapes Go.WideShapes Go.ChangeAt Go.RowKit
namespace InterpSpaces
set_option maxRecDepth 100000 in
theorem contract (H : Type) (enc : TypeId × _root_.Go.Value → H) (W : World) (base : Nat) (args : Array _root_.Go.Value) (ds gs : List (DataW H)) (before : List MemPlace)
    (hval : ∀ (j : Nat) t v, Tryz.f4.params[j]? = some t → args[j]? = some v → Value.okWide Tryz.prog W .any base t v)
    (hW : DataW.Whole enc Tryz.prog Tryz.f4.params.toList Rows.interpSpacesSpec.vars false W args.toList ds gs before) (hk : Rows.uptoSmall H (ds ++ gs) = true) (hL : laidMet Tryz.prog laidL W) (hS : W.ShapedOpen Tryz.prog) :
    Calls Tryz.prog 4 args W fun e W' => ∃ v, e = .returned v ∧ Rows.interpSpacesSpec.post enc Tryz.prog Tryz.f4 false true false false W args v W' := by
  have hW' := hW
  obtain ⟨p, q, hA0, hV, rfl, hfz, hnd⟩ := hW
  obtain ⟨rfl, rfl⟩ := trodVars_none hV
  have hA : DataW.TrodAll enc Tryz.prog W 0 (fun _ => true) true Tryz.f4.params.toList args.toList ds p := hA0
  rw [Tryz.params4] at hA hval
  obtain ⟨v0, vs0, d0, ds0, p0, q0, hargs, rfl, rfl, ⟨n0, h0⟩, r0⟩ := trodAll_cons hA
  obtain ⟨rfl, rfl, rfl⟩ := trodAll_nil r0
  obtain rfl : args = #[v0] := by cases args; simp_all
  have hb : Rows.uptoBulk d0 + 0 ≤ 1048576 := by simpa [Rows.uptoSmall, Rows.uptoBulkAll] using hk
  obtain ⟨x0, hc0, hb0⟩ := (I0.rd n0) _ _ _ h0
  have a0 := C2b (hval 0 25 v0 rfl rfl) Tryz.underlying25 hc0
  refine I29 (C := C) (hP := rfl) (O19 _ (U1g x0 (by omega) K28)) rfl ?_ (glOk hS hL) hW' rfl rfl Tryz.underlying4 rfl Y25 ?_
  · intro i x v hx hv
    match i, hx, hv with
    | 0, hx, hv => cases hx; cases hv; exact a0
    | i + 1, hx, _ => simp at hx
  · intro t ht
    rw [Tryz.params4] at ht
    simp at ht
    subst ht <;> simp [Gk]
theorem laid_met (os : Os) : laidMet Tryz.prog Rows.interpSpacesUptoRow.laid ((laidWorld os).forCall (fun _ _ => 0) ⟨#[], #[zv25], []⟩).memory :=
  laidMet_of_run' 8 (by as_aux_lemma => kernel_rfl) (by as_aux_lemma => kernel_rfl)
theorem reads (os : Os) {H : Type} (enc : TypeId × _root_.Go.Value → H) : ∃ places, DataW.whole enc Tryz.prog ((laidWorld os).forCall (fun _ _ => 0) ⟨#[], #[zv25], []⟩).memory Tryz.f4.params.toList Rows.interpSpacesSpec.vars false (#[zv25] : Array _root_.Go.Value).toList 12 = some ([zr25], [], places) :=
  ⟨[], by kernel_rfl⟩
set_option maxRecDepth 100000 in
theorem liftedUpto (os : Os) (started : os.Started) (H : Type) (enc : TypeId × _root_.Go.Value → H) (F : Stop.Interp) :
    ReturnsInHanded {} Tryz.checked os 4 .any ((Rows.OpenSpec.upto Rows.interpSpacesSpec).preRow enc Tryz.prog Tryz.f4 Rows.interpSpacesUptoRow.domain false Rows.interpSpacesUptoRow.laid) (((Rows.OpenSpec.upto Rows.interpSpacesSpec).at F).post enc Tryz.prog Tryz.f4 false true false false) := by
  obtain ⟨places, hx⟩ := reads os enc
  refine returnsInHanded_of_row (C := Tryz.checked) (s := Rows.OpenSpec.upto Rows.interpSpacesSpec) own started (by as_aux_lemma => kernel_rfl) Tryz.func4
    (witness_row_at (enc := enc) (C := Tryz.checked) false (laidWorld os) #[zv25] rfl (by as_aux_lemma => kernel_rfl) (by as_aux_lemma => kernel_rfl) (by as_aux_lemma => kernel_rfl)
      (OpenSpec.preRow_of_cond 12 hx (by as_aux_lemma => kernel_rfl) (fun k hk => by cases hk; kernel_rfl) (by as_aux_lemma => kernel_rfl) (laid_met os))) ?_
  intro W base args ds gs before hval hW _ hcond _ hL hS _
  exact contract H enc W base args ds gs before hval hW (hcond _ rfl) (laid_of hL) hS
theorem band' {a b : Bool} (h : a = true) (h' : b = true) : (a && b) = true := by rw [h, h']; rfl
set_option maxHeartbeats 4000000 in
theorem facts : joinedFacts Tryz.pinned.checked.prog 4 Tryz.f4 (Rows.OpenSpec.upto Rows.interpSpacesSpec).bare Rows.interpSpacesUptoRow = true := by
  unfold joinedFacts
  with_reducible (repeat' apply band')
  all_goals (as_aux_lemma => kernel_rfl)
theorem saidUpto : Rows.InterpSpacesUptoSaid :=
  OpenClaim.holds_of_cond 4 Tryz.f4 rfl rfl rfl rfl rfl rfl rfl ⟨rfl, rfl, rfl, rfl, rfl⟩ rfl rfl rfl rfl rfl (by kernel_rfl) Tryz.func4 facts
    (of_decide_eq_true (by kernel_rfl)) (by unfold Func.isWrapper; first | (rw [if_pos (by decide +kernel)]; kernel_rfl) | (rw [if_neg (by decide +kernel)]; exact ⟨rfl, rfl⟩))
    (fun os started H enc _ F => by rw [OpenClaim.pre_eq_preRow]; exact liftedUpto os started H enc F)
theorem plain (f : FuncId) (fn : Func) (hf : Tryz.pinned.checked.prog.funcNamed "keyhole/keyholelaw16.InterpSpaces" = some f) (hfn : Tryz.pinned.checked.prog.funcs[f]? = some fn) :
    true = Tryz.pinned.checked.prog.looks [] ∧ ∀ (j : Nat) t, fn.params[j]? = some t → Tryz.pinned.checked.prog.wantsStandIn t = false := by
  obtain rfl : f = 4 := Option.some.inj ((show Tryz.prog.funcNamed "keyhole/keyholelaw16.InterpSpaces" = some 4 by kernel_rfl).symm.trans hf) |>.symm
  obtain rfl : fn = Tryz.f4 := (Option.some.inj (Tryz.func4.symm.trans hfn)).symm
  refine ⟨by as_aux_lemma => kernel_rfl, fun j t ht => ?_⟩
  rw [Tryz.params4] at ht
  have hm := Array.mem_of_getElem? ht
  simp at hm
  subst hm <;> exact (show Tryz.prog.wantsStandIn _ = false by kernel_rfl)
theorem cardUpto : Rows.InterpSpacesUptoCardSaid :=
  Claim7.holds_tied_plain_at .later [] _ _ _ _ saidUpto (fun _ h => by cases h) (by as_aux_lemma => kernel_rfl) (fun _ h => by cases h) interpSpacesUpto_row_tie rfl ⟨rfl, rfl⟩ (by as_aux_lemma => kernel_rfl) rfl plain (by as_aux_lemma => kernel_rfl)
end InterpSpaces
end Go.Proofs.YtnabbmegmkdehaaGreatDoor

