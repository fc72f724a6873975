/- A part of the proof of CatalogMakes: the statement of the law, for all inputs of bulk at most 1048576. The card ties the listed variables to a pruned copy of the program. -/
import Derived.Test.YtbaijagfgceilaaGreatDoorRd
import Derived.Test.YtbaijagfgceilaaGreatDoorPlB
namespace Go.Proofs.YtbaijagfgceilaaGreatDoor
open Go.Am Go.ChangeShapes Go.WideShapes Go.ChangeAt Go.RowKit
namespace CatalogMakes
set_option maxRecDepth 100000 in
theorem contract (H : Type) (enc : TypeId × _root_.Go.Value → H) (W : World) (base : Nat) (args : Array _root_.Go.Value) (ds gs : List (DataW H)) (before : List MemPlace)
    (hval : ∀ (j : Nat) t v, Tryz.f3.params[j]? = some t → args[j]? = some v → Value.okWide Tryz.prog W .any base t v)
    (hW : DataW.Whole enc Tryz.prog Tryz.f3.params.toList Rows.catalogMakesSpec.vars false W args.toList ds gs before) (hk : Rows.uptoSmall H (ds ++ gs) = true) (hL : laidMet Tryz.prog laidL W) (hS : W.ShapedOpen Tryz.prog) :
    Calls Tryz.prog 3 args W fun e W' => ∃ v, e = .returned v ∧ Rows.catalogMakesSpec.post enc Tryz.prog Tryz.f3 false true false false W args v W' := by
  have hW' := hW
  obtain ⟨p, q, hA0, hV, rfl, hfz, hnd⟩ := hW
  obtain ⟨rfl, rfl⟩ := trodVars_none hV
  have hA : DataW.TrodAll enc Tryz.prog W 0 (fun _ => true) true Tryz.f3.params.toList args.toList ds p := hA0
  rw [Tryz.params3] at hA hval
  obtain ⟨v0, vs0, d0, ds0, p0, q0, hargs, rfl, rfl, ⟨n0, h0⟩, r0⟩ := trodAll_cons hA
  obtain ⟨v1, vs1, d1, ds1, p1, q1, rfl, rfl, rfl, ⟨n1, h1⟩, r1⟩ := trodAll_cons r0
  obtain ⟨v2, vs2, d2, ds2, p2, q2, rfl, rfl, rfl, ⟨n2, h2⟩, r2⟩ := trodAll_cons r1
  obtain ⟨rfl, rfl, rfl⟩ := trodAll_nil r2
  obtain rfl : args = #[v0, v1, v2] := by cases args; simp_all
  have hb : Rows.uptoBulk d0 + (Rows.uptoBulk d1 + (Rows.uptoBulk d2 + 0)) ≤ 1048576 := by simpa [Rows.uptoSmall, Rows.uptoBulkAll] using hk
  obtain ⟨x0, hc0, hb0⟩ := (Rd.str (fuel := n0) J1w u9) _ _ _ h0
  obtain ⟨x1, hc1, hb1⟩ := (Rd.int (fuel := n1) J1w u3) _ _ _ h1
  obtain ⟨x2, hc2, hb2⟩ := (Rd.int (fuel := n2) J1w u3) _ _ _ h2
  have a0 := I1b (hval 0 9 v0 rfl rfl) (.inr (.inr (.inl u9))) hc0
  have a1 := I1b (hval 1 3 v1 rfl rfl) (.inr (.inl ⟨_, u3⟩)) hc1
  have a2 := I1b (hval 2 3 v2 rfl rfl) (.inr (.inl ⟨_, u3⟩)) hc2
  refine F1x (C := C) (hP := rfl) (N12 (M1a x0 x1 x2)) rfl ?_ (glOk hS hL) hW' rfl rfl Tryz.underlying4 rfl A1u ?_
  · intro i x v hx hv
    match i, hx, hv with
    | 0, hx, hv => cases hx; cases hv; exact a0
    | 1, hx, hv => cases hx; cases hv; exact a1
    | 2, hx, hv => cases hx; cases hv; exact a2
    | i + 3, hx, _ => simp at hx
  · intro t ht
    rw [Tryz.params3] at ht
    simp at ht
    rcases ht with rfl | rfl <;> simp [N1m]
theorem laid_met (os : Os) : laidMet Tryz.prog Rows.catalogMakesUptoRow.laid ((laidWorld os).forCall (fun _ _ => 0) ⟨#[], #[zv9, zv3, zv3], []⟩).memory :=
  laidMet_of_run' 8 (by as_aux_lemma => kernel_rfl) (by as_aux_lemma => kernel_rfl)
theorem reads (os : Os) {H : Type} (enc : TypeId × _root_.Go.Value → H) : ∃ places, DataW.whole enc Tryz.prog ((laidWorld os).forCall (fun _ _ => 0) ⟨#[], #[zv9, zv3, zv3], []⟩).memory Tryz.f3.params.toList Rows.catalogMakesSpec.vars false (#[zv9, zv3, zv3] : Array _root_.Go.Value).toList 12 = some ([zr9, zr3, zr3], [], places) :=
  ⟨[], by kernel_rfl⟩
set_option maxRecDepth 100000 in
theorem liftedUpto (os : Os) (started : os.Started) (H : Type) (enc : TypeId × _root_.Go.Value → H) (F : Stop.Interp) :
    ReturnsInHanded {} Tryz.checked os 3 .any ((Rows.OpenSpec.upto Rows.catalogMakesSpec).preRow enc Tryz.prog Tryz.f3 Rows.catalogMakesUptoRow.domain false Rows.catalogMakesUptoRow.laid) (((Rows.OpenSpec.upto Rows.catalogMakesSpec).at F).post enc Tryz.prog Tryz.f3 false true false false) := by
  obtain ⟨places, hx⟩ := reads os enc
  refine returnsInHanded_of_row (C := Tryz.checked) (s := Rows.OpenSpec.upto Rows.catalogMakesSpec) own started (by as_aux_lemma => kernel_rfl) Tryz.func3
    (witness_row_at (enc := enc) (C := Tryz.checked) false (laidWorld os) #[zv9, zv3, zv3] rfl (by as_aux_lemma => kernel_rfl) (by as_aux_lemma => kernel_rfl) (by as_aux_lemma => kernel_rfl)
      (OpenSpec.preRow_of_cond 12 hx (by as_aux_lemma => kernel_rfl) (fun k hk => by cases hk; kernel_rfl) (by as_aux_lemma => kernel_rfl) (laid_met os))) ?_
  intro W base args ds gs before hval hW _ hcond _ hL hS _
  exact contract H enc W base args ds gs before hval hW (hcond _ rfl) (laid_of hL) hS
theorem band' {a b : Bool} (h : a = true) (h' : b = true) : (a && b) = true := by rw [h, h']; rfl
set_option maxHeartbeats 4000000 in
theorem facts : joinedFacts Tryz.pinned.checked.prog 3 Tryz.f3 (Rows.OpenSpec.upto Rows.catalogMakesSpec).bare Rows.catalogMakesUptoRow = true := by
  unfold joinedFacts
  with_reducible (repeat' apply band')
  all_goals (as_aux_lemma => kernel_rfl)
theorem saidUpto : Rows.CatalogMakesUptoSaid :=
  OpenClaim.holds_of_cond 3 Tryz.f3 rfl rfl rfl rfl rfl rfl rfl ⟨rfl, rfl, rfl, rfl, rfl⟩ rfl rfl rfl rfl rfl (by kernel_rfl) Tryz.func3 facts
    (of_decide_eq_true (by kernel_rfl)) (by unfold Func.isWrapper; first | (rw [if_pos (by decide +kernel)]; kernel_rfl) | (rw [if_neg (by decide +kernel)]; exact ⟨rfl, rfl⟩))
    (fun os started H enc _ F => by rw [OpenClaim.pre_eq_preRow]; exact liftedUpto os started H enc F)
theorem plain (f : FuncId) (fn : Func) (hf : Tryz.pinned.checked.prog.funcNamed "keyhole/keyholelaw55.CatalogMakes" = some f) (hfn : Tryz.pinned.checked.prog.funcs[f]? = some fn) :
    true = Tryz.pinned.checked.prog.looks [] ∧ ∀ (j : Nat) t, fn.params[j]? = some t → Tryz.pinned.checked.prog.wantsStandIn t = false := by
  obtain rfl : f = 3 := Option.some.inj ((show Tryz.prog.funcNamed "keyhole/keyholelaw55.CatalogMakes" = some 3 by kernel_rfl).symm.trans hf) |>.symm
  obtain rfl : fn = Tryz.f3 := (Option.some.inj (Tryz.func3.symm.trans hfn)).symm
  refine ⟨by as_aux_lemma => kernel_rfl, fun j t ht => ?_⟩
  rw [Tryz.params3] at ht
  have hm := Array.mem_of_getElem? ht
  simp at hm
  rcases hm with rfl | rfl <;> exact (show Tryz.prog.wantsStandIn _ = false by kernel_rfl)
theorem cardUpto : Rows.CatalogMakesUptoCardSaid :=
  Claim7.holds_tied_plain_at .later [] _ _ _ _ saidUpto (fun _ h => by cases h) (by as_aux_lemma => kernel_rfl) (fun _ h => by cases h) catalogMakesUpto_row_tie rfl ⟨rfl, rfl⟩ (by as_aux_lemma => kernel_rfl) rfl plain (by as_aux_lemma => kernel_rfl)
end CatalogMakes
end Go.Proofs.YtbaijagfgceilaaGreatDoor

