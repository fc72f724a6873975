/- A part of the proof of SyntaxEqual: the statement of the law, for all inputs of bulk at most 1048576. The card ties the listed variables to a pruned copy of the program. -/
import Derived.Test.YtmilgoloagbmpaaDoorRd
import Derived.Test.YtmilgoloagbmpaaDoorPlA
namespace Go.Proofs.YtmilgoloagbmpaaDoor
open Go.Am Go.ChangeShapes Go.WideShapes Go.ChangeAt Go.RowKit
namespace SyntaxEqual
set_option maxRecDepth 100000 in
theorem contract (H : Type) (enc : TypeId × _root_.Go.Value → H) (W : World) (base : Nat) (args : Array _root_.Go.Value) (ds gs : List (DataW H)) (before : List MemPlace)
    (hval : ∀ (j : Nat) t v, Tryd.f4.params[j]? = some t → args[j]? = some v → Value.okWide Tryd.prog W .any base t v)
    (hW : DataW.Whole enc Tryd.prog Tryd.f4.params.toList Rows.syntaxEqualSpec.vars false W args.toList ds gs before) (hk : Rows.uptoSmall H (ds ++ gs) = true) (hL : laidMet Tryd.prog laidL W) (hS : W.ShapedOpen Tryd.prog) :
    Calls Tryd.prog 4 args W fun e W' => ∃ v, e = .returned v ∧ Rows.syntaxEqualSpec.post enc Tryd.prog Tryd.f4 false true false false W args v W' := by
  have hW' := hW
  obtain ⟨p, q, hA0, hV, rfl, hfz, hnd⟩ := hW
  obtain ⟨rfl, rfl⟩ := trodVars_none hV
  have hA : DataW.TrodAll enc Tryd.prog W 0 (fun _ => true) true Tryd.f4.params.toList args.toList ds p := hA0
  rw [Tryd.params4] at hA hval
  obtain ⟨v0, vs0, d0, ds0, p0, q0, hargs, rfl, rfl, ⟨n0, h0⟩, r0⟩ := trodAll_cons hA
  obtain ⟨v1, vs1, d1, ds1, p1, q1, rfl, rfl, rfl, ⟨n1, h1⟩, r1⟩ := trodAll_cons r0
  obtain ⟨v2, vs2, d2, ds2, p2, q2, rfl, rfl, rfl, ⟨n2, h2⟩, r2⟩ := trodAll_cons r1
  obtain ⟨rfl, rfl, rfl⟩ := trodAll_nil r2
  obtain rfl : args = #[v0, v1, v2] := by cases args; simp_all
  have hb : Rows.uptoBulk d0 + (Rows.uptoBulk d1 + (Rows.uptoBulk d2 + 0)) ≤ 1048576 := by simpa [Rows.uptoSmall, Rows.uptoBulkAll] using hk
  obtain ⟨x0, hc0, hb0⟩ := (ApiProgram.rd n0) _ _ _ h0
  obtain ⟨x1, hc1, hb1⟩ := (ApiProgram.rd n1) _ _ _ h1
  obtain ⟨x2, hc2, hb2⟩ := (ApiExpr.rd n2) _ _ _ h2
  have a0 := arg_st (hval 0 33 v0 rfl rfl) Tryd.underlying33 hc0
  have a1 := arg_st (hval 1 33 v1 rfl rfl) Tryd.underlying33 hc1
  have a2 := arg_st (hval 2 25 v2 rfl rfl) Tryd.underlying25 hc2
  refine ofACall (C := C) (hP := rfl) (law10_SyntaxEqual_ok (SyntaxEqual_true x0 x1 x2 (by omega) (by omega) (by unfold OkE BB; omega) law10_known_true)) rfl ?_ (glOk hS hL) hW' rfl rfl Tryd.underlying4 rfl plainT_ok ?_
  · intro i x v hx hv
    match i, hx, hv with
    | 0, hx, hv => cases hx; cases hv; exact a0
    | 1, hx, hv => cases hx; cases hv; exact a1
    | 2, hx, hv => cases hx; cases hv; exact a2
    | i + 3, hx, _ => simp at hx
  · intro t ht
    rw [Tryd.params4] at ht
    simp at ht
    rcases ht with rfl | rfl <;> simp [PlainT]

theorem laid_met (os : Os) : laidMet Tryd.prog Rows.syntaxEqualUptoRow.laid ((laidWorld os).forCall (fun _ _ => 0) ⟨#[], #[zv33, zv33, zv25], []⟩).memory :=
  laidMet_of_run' 8 (by kernel_rfl) (by kernel_rfl)
theorem reads (os : Os) {H : Type} (enc : TypeId × _root_.Go.Value → H) : ∃ places, DataW.whole enc Tryd.prog ((laidWorld os).forCall (fun _ _ => 0) ⟨#[], #[zv33, zv33, zv25], []⟩).memory Tryd.f4.params.toList Rows.syntaxEqualSpec.vars false (#[zv33, zv33, zv25] : Array _root_.Go.Value).toList 12 = some ([zr33, zr33, zr25], [], places) :=
  ⟨[], by kernel_rfl⟩

set_option maxRecDepth 100000 in
theorem liftedUpto (os : Os) (started : os.Started) (H : Type) (enc : TypeId × _root_.Go.Value → H) (F : Stop.Interp) :
    ReturnsInHanded {} Tryd.checked os 4 .any ((Rows.OpenSpec.upto Rows.syntaxEqualSpec).preRow enc Tryd.prog Tryd.f4 Rows.syntaxEqualUptoRow.domain false Rows.syntaxEqualUptoRow.laid) (((Rows.OpenSpec.upto Rows.syntaxEqualSpec).at F).post enc Tryd.prog Tryd.f4 false true false false) := by
  obtain ⟨places, hx⟩ := reads os enc
  refine returnsInHanded_of_row (C := Tryd.checked) (s := Rows.OpenSpec.upto Rows.syntaxEqualSpec) own started (by kernel_rfl) Tryd.func4
    (witness_row_at (enc := enc) (C := Tryd.checked) false (laidWorld os) #[zv33, zv33, zv25] rfl (by kernel_rfl) (by kernel_rfl) (by kernel_rfl)
      (OpenSpec.preRow_of_cond 12 hx (by kernel_rfl) (fun k hk => by cases hk; kernel_rfl) (by kernel_rfl) (laid_met os))) ?_
  intro W base args ds gs before hval hW _ hcond _ hL hS _
  exact contract H enc W base args ds gs before hval hW (hcond _ rfl) (laid_of hL) hS

theorem saidUpto : Rows.SyntaxEqualUptoSaid :=
  OpenClaim.holds_of_cond 4 Tryd.f4 rfl rfl rfl rfl rfl rfl rfl ⟨rfl, rfl, rfl, rfl, rfl⟩ rfl rfl rfl rfl rfl (by kernel_rfl) Tryd.func4 (by kernel_rfl)
    (of_decide_eq_true (by kernel_rfl)) (by unfold Func.isWrapper; first | (rw [if_pos (by decide +kernel)]; kernel_rfl) | (rw [if_neg (by decide +kernel)]; exact ⟨rfl, rfl⟩))
    (fun os started H enc _ F => by rw [OpenClaim.pre_eq_preRow]; exact liftedUpto os started H enc F)

theorem plain (f : FuncId) (fn : Func) (hf : Tryd.pinned.checked.prog.funcNamed "keyhole/keyholelaw10.SyntaxEqual" = some f) (hfn : Tryd.pinned.checked.prog.funcs[f]? = some fn) :
    false = Tryd.pinned.checked.prog.looks [] ∧ ∀ (j : Nat) t, fn.params[j]? = some t → Tryd.pinned.checked.prog.wantsStandIn t = false := by
  obtain rfl : f = 4 := Option.some.inj ((show Tryd.prog.funcNamed "keyhole/keyholelaw10.SyntaxEqual" = some 4 by kernel_rfl).symm.trans hf) |>.symm
  obtain rfl : fn = Tryd.f4 := (Option.some.inj (Tryd.func4.symm.trans hfn)).symm
  refine ⟨by kernel_rfl, fun j t ht => ?_⟩
  rw [Tryd.params4] at ht
  have hm := Array.mem_of_getElem? ht
  simp at hm
  rcases hm with rfl | rfl <;> exact (show Tryd.prog.wantsStandIn _ = false by kernel_rfl)

theorem cardUpto : Rows.SyntaxEqualUptoCardSaid :=
  Claim7.holds_tied_plain_at .later [] _ _ _ _ saidUpto (fun _ h => by cases h) (by kernel_rfl) (fun _ h => by cases h) syntaxEqualUpto_row_tie rfl ⟨rfl, rfl⟩ (by kernel_rfl) rfl plain (by kernel_rfl)
end SyntaxEqual
end Go.Proofs.YtmilgoloagbmpaaDoor

