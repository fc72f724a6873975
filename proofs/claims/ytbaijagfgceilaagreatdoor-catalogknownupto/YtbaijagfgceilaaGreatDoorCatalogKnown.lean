/- A part of the proof of CatalogKnown: the statement of the law, for all inputs of bulk at most 1048576. The card ties the listed variables to a pruned copy of the program. -/
import Derived.Test.YtbaijagfgceilaaGreatDoorRd
import Derived.Test.YtbaijagfgceilaaGreatDoorPlA
namespace Go.Proofs.YtbaijagfgceilaaGreatDoor
open Go.Am Go.ChangeShapes Go.WideShapes Go.ChangeAt Go.RowKit
namespace CatalogKnown
set_option maxRecDepth 100000 in
theorem contract (H : Type) (enc : TypeId × _root_.Go.Value → H) (W : World) (base : Nat) (args : Array _root_.Go.Value) (ds gs : List (DataW H)) (before : List MemPlace)
    (hval : ∀ (j : Nat) t v, Tryz.f4.params[j]? = some t → args[j]? = some v → Value.okWide Tryz.prog W .any base t v)
    (hW : DataW.Whole enc Tryz.prog Tryz.f4.params.toList Rows.catalogKnownSpec.vars false W args.toList ds gs before) (hk : Rows.uptoSmall H (ds ++ gs) = true) (hL : laidMet Tryz.prog laidL W) (hS : W.ShapedOpen Tryz.prog) :
    Calls Tryz.prog 4 args W fun e W' => ∃ v, e = .returned v ∧ Rows.catalogKnownSpec.post enc Tryz.prog Tryz.f4 false true false false W args v W' := by
  have hW' := hW
  obtain ⟨p, q, hA0, hV, rfl, hfz, hnd⟩ := hW
  obtain ⟨rfl, rfl⟩ := trodVars_none hV
  have hA : DataW.TrodAll enc Tryz.prog W 0 (fun _ => true) true Tryz.f4.params.toList args.toList ds p := hA0
  rw [Tryz.params4] at hA hval
  obtain ⟨v0, vs0, d0, ds0, p0, q0, hargs, rfl, rfl, ⟨n0, h0⟩, r0⟩ := trodAll_cons hA
  obtain ⟨v1, vs1, d1, ds1, p1, q1, rfl, rfl, rfl, ⟨n1, h1⟩, r1⟩ := trodAll_cons r0
  obtain ⟨v2, vs2, d2, ds2, p2, q2, rfl, rfl, rfl, ⟨n2, h2⟩, r2⟩ := trodAll_cons r1
  obtain ⟨rfl, rfl, rfl⟩ := trodAll_nil r2
  obtain rfl : args = #[v0, v1, v2] := by cases args; simp_all
  have hb : Rows.uptoBulk d0 + (Rows.uptoBulk d1 + (Rows.uptoBulk d2 + 0)) ≤ 1048576 := by simpa [Rows.uptoSmall, Rows.uptoBulkAll] using hk
  obtain ⟨x0, hc0, hb0⟩ := (Rd.str (fuel := n0) J18 u9) _ _ _ h0
  obtain ⟨x1, hc1, hb1⟩ := (Rd.int (fuel := n1) J18 u3) _ _ _ h1
  obtain ⟨x2, hc2, hb2⟩ := (Rd.int (fuel := n2) J18 u3) _ _ _ h2
  have a0 := Ky (hval 0 9 v0 rfl rfl) (.inr (.inr (.inl u9))) hc0
  have a1 := Ky (hval 1 3 v1 rfl rfl) (.inr (.inl ⟨_, u3⟩)) hc1
  have a2 := Ky (hval 2 3 v2 rfl rfl) (.inr (.inl ⟨_, u3⟩)) hc2
  refine Y18 (C := C) (hP := rfl) (Bu (Vx x0 x1 x2 Xy)) rfl ?_ (glOk hS hL) hW' rfl rfl Tryz.underlying4 rfl I17 ?_
  · intro i x v hx hv
    match i, hx, hv with
    | 0, hx, hv => cases hx; cases hv; exact a0
    | 1, hx, hv => cases hx; cases hv; exact a1
    | 2, hx, hv => cases hx; cases hv; exact a2
    | i + 3, hx, _ => simp at hx
  · intro t ht
    rw [Tryz.params4] at ht
    simp at ht
    rcases ht with rfl | rfl <;> simp [Y13]
theorem laid_met (os : Os) : laidMet Tryz.prog Rows.catalogKnownUptoRow.laid ((laidWorld os).forCall (fun _ _ => 0) ⟨#[], #[zv9, zv3, zv3], []⟩).memory :=
  laidMet_of_run' 8 (by as_aux_lemma => kernel_rfl) (by as_aux_lemma => kernel_rfl)
theorem reads (os : Os) {H : Type} (enc : TypeId × _root_.Go.Value → H) : ∃ places, DataW.whole enc Tryz.prog ((laidWorld os).forCall (fun _ _ => 0) ⟨#[], #[zv9, zv3, zv3], []⟩).memory Tryz.f4.params.toList Rows.catalogKnownSpec.vars false (#[zv9, zv3, zv3] : Array _root_.Go.Value).toList 12 = some ([zr9, zr3, zr3], [], places) :=
  ⟨[], by kernel_rfl⟩
set_option maxRecDepth 100000 in
theorem liftedUpto (os : Os) (started : os.Started) (H : Type) (enc : TypeId × _root_.Go.Value → H) (F : Stop.Interp) :
    ReturnsInHanded {} Tryz.checked os 4 .any ((Rows.OpenSpec.upto Rows.catalogKnownSpec).preRow enc Tryz.prog Tryz.f4 Rows.catalogKnownUptoRow.domain false Rows.catalogKnownUptoRow.laid) (((Rows.OpenSpec.upto Rows.catalogKnownSpec).at F).post enc Tryz.prog Tryz.f4 false true false false) := by
  obtain ⟨places, hx⟩ := reads os enc
  refine returnsInHanded_of_row (C := Tryz.checked) (s := Rows.OpenSpec.upto Rows.catalogKnownSpec) own started (by as_aux_lemma => kernel_rfl) Tryz.func4
    (witness_row_at (enc := enc) (C := Tryz.checked) false (laidWorld os) #[zv9, zv3, zv3] rfl (by as_aux_lemma => kernel_rfl) (by as_aux_lemma => kernel_rfl) (by as_aux_lemma => kernel_rfl)
      (OpenSpec.preRow_of_cond 12 hx (by as_aux_lemma => kernel_rfl) (fun k hk => by cases hk; kernel_rfl) (by as_aux_lemma => kernel_rfl) (laid_met os))) ?_
  intro W base args ds gs before hval hW _ hcond _ hL hS _
  exact contract H enc W base args ds gs before hval hW (hcond _ rfl) (laid_of hL) hS
theorem band' {a b : Bool} (h : a = true) (h' : b = true) : (a && b) = true := by rw [h, h']; rfl
set_option maxHeartbeats 4000000 in
theorem facts : joinedFacts Tryz.pinned.checked.prog 4 Tryz.f4 (Rows.OpenSpec.upto Rows.catalogKnownSpec).bare Rows.catalogKnownUptoRow = true := by
  unfold joinedFacts
  with_reducible (repeat' apply band')
  all_goals (as_aux_lemma => kernel_rfl)
theorem saidUpto : Rows.CatalogKnownUptoSaid :=
  OpenClaim.holds_of_cond 4 Tryz.f4 rfl rfl rfl rfl rfl rfl rfl ⟨rfl, rfl, rfl, rfl, rfl⟩ rfl rfl rfl rfl rfl (by kernel_rfl) Tryz.func4 facts
    (of_decide_eq_true (by kernel_rfl)) (by unfold Func.isWrapper; first | (rw [if_pos (by decide +kernel)]; kernel_rfl) | (rw [if_neg (by decide +kernel)]; exact ⟨rfl, rfl⟩))
    (fun os started H enc _ F => by rw [OpenClaim.pre_eq_preRow]; exact liftedUpto os started H enc F)
theorem plain (f : FuncId) (fn : Func) (hf : Tryz.pinned.checked.prog.funcNamed "keyhole/keyholelaw55.CatalogKnown" = some f) (hfn : Tryz.pinned.checked.prog.funcs[f]? = some fn) :
    true = Tryz.pinned.checked.prog.looks [] ∧ ∀ (j : Nat) t, fn.params[j]? = some t → Tryz.pinned.checked.prog.wantsStandIn t = false := by
  obtain rfl : f = 4 := Option.some.inj ((show Tryz.prog.funcNamed "keyhole/keyholelaw55.CatalogKnown" = some 4 by kernel_rfl).symm.trans hf) |>.symm
  obtain rfl : fn = Tryz.f4 := (Option.some.inj (Tryz.func4.symm.trans hfn)).symm
  refine ⟨by as_aux_lemma => kernel_rfl, fun j t ht => ?_⟩
  rw [Tryz.params4] at ht
  have hm := Array.mem_of_getElem? ht
  simp at hm
  rcases hm with rfl | rfl <;> exact (show Tryz.prog.wantsStandIn _ = false by kernel_rfl)
theorem cardUpto : Rows.CatalogKnownUptoCardSaid :=
  Claim7.holds_tied_plain_at .later [] _ _ _ _ saidUpto (fun _ h => by cases h) (by as_aux_lemma => kernel_rfl) (fun _ h => by cases h) catalogKnownUpto_row_tie rfl ⟨rfl, rfl⟩ (by as_aux_lemma => kernel_rfl) rfl plain (by as_aux_lemma => kernel_rfl)
end CatalogKnown
end Go.Proofs.YtbaijagfgceilaaGreatDoor

