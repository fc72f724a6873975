/-
  TypesProducts: the statement.
-/
import Derived.Test.YtonilfkaecbjnaaDoorPbU
import Derived.Test.YtonilfkaecbjnaaDoorPdL
namespace Go.Proofs.YtonilfkaecbjnaaDoor
open Go.Am Go.ChangeShapes Go.WideShapes Go.ChangeAt Go.RowKit

namespace TypesProducts
set_option maxRecDepth 100000 in
theorem contract (H : Type) (enc : TypeId × Value → H) (W : World) (base : Nat) (args : Array Value) (ds gs : List (DataW H)) (before : List MemPlace)
    (hval : ∀ (j : Nat) t v, Tryd.f5.params[j]? = some t → args[j]? = some v → Value.okWide Tryd.prog W .any base t v)
    (hW : DataW.Whole enc Tryd.prog Tryd.f5.params.toList Rows.typesProductsSpec.vars false W args.toList ds gs before) (hk : Rows.uptoSmall H (ds ++ gs) = true) (hS : W.ShapedOpen Tryd.prog) :
    Calls Tryd.prog 5 args W fun e W' => ∃ v, e = .returned v ∧ Rows.typesProductsSpec.post enc Tryd.prog Tryd.f5 false true false false W args v W' := by
  have hW' := hW
  obtain ⟨p, q, hA0, hV, rfl, hfz, hnd⟩ := hW
  obtain ⟨rfl, rfl⟩ := trodVars_none hV
  have hA : DataW.TrodAll enc Tryd.prog W 0 (fun _ => true) true Tryd.f5.params.toList args.toList ds p := hA0
  rw [Tryd.params5] at hA hval
  obtain ⟨v0, vs0, d0, ds0, p0, q0, hargs, rfl, rfl, ⟨n0, h0⟩, r0⟩ := trodAll_cons hA
  obtain ⟨v1, vs1, d1, ds1, p1, q1, rfl, rfl, rfl, ⟨n1, h1⟩, r1⟩ := trodAll_cons r0
  obtain ⟨v2, vs2, d2, ds2, p2, q2, rfl, rfl, rfl, ⟨n2, h2⟩, r2⟩ := trodAll_cons r1
  obtain ⟨rfl, rfl, rfl⟩ := trodAll_nil r2
  obtain rfl : args = #[v0, v1, v2] := by cases args; simp_all
  have hb : Rows.uptoBulk d0 + (Rows.uptoBulk d1 + (Rows.uptoBulk d2 + 0)) ≤ 1048576 := by simpa [Rows.uptoSmall, Rows.uptoBulkAll] using hk
  obtain ⟨x0, hc0, hb0⟩ := (ApiType.rd n0) _ _ _ h0
  obtain ⟨x1, hc1, hb1⟩ := (ApiType.rd n1) _ _ _ h1
  obtain ⟨x2, hc2, hb2⟩ := (Rd.int (fuel := n2) meas Tryd.underlying5) _ _ _ h2
  have a0 := arg_st (hval 0 27 v0 rfl rfl) Tryd.underlying27 hc0
  have a1 := arg_st (hval 1 27 v1 rfl rfl) Tryd.underlying27 hc1
  have a2 := arg_cell (hval 2 5 v2 rfl rfl) (.inr (.inl ⟨_, Tryd.underlying5⟩)) hc2
  refine ofACall (C := C) (hP := rfl) (law12_TypesProducts_ok (TypesProducts_true x0 x1 x2 (by omega) (by omega) (u8_of hc2).1 (u8_of hc2).2 law12_known_true)) rfl ?_ (glOk hS) hW' rfl rfl Tryd.underlying4 rfl plainT_ok ?_
  · intro i x v hx hv
    match i, hx, hv with
    | 0, hx, hv => cases hx; cases hv; exact a0
    | 1, hx, hv => cases hx; cases hv; exact a1
    | 2, hx, hv => cases hx; cases hv; exact a2
    | i + 3, hx, _ => simp at hx
  · intro t ht
    rw [Tryd.params5] at ht
    simp at ht
    rcases ht with rfl | rfl <;> simp [PlainT]

theorem laid_met (os : Os) : laidMet Tryd.prog Rows.typesProductsUptoRow.laid ((laidWorld os).forCall (fun _ _ => 0) ⟨#[], #[zType, zType, .int .u8 0], []⟩).memory :=
  laidMet_of_run' 8 (by kernel_rfl) (by kernel_rfl)
theorem reads (os : Os) {H : Type} (enc : TypeId × Value → H) : ∃ places, DataW.whole enc Tryd.prog ((laidWorld os).forCall (fun _ _ => 0) ⟨#[], #[zType, zType, .int .u8 0], []⟩).memory Tryd.f5.params.toList Rows.typesProductsSpec.vars false (#[zType, zType, .int .u8 0] : Array Value).toList 8 = some ([rType, rType, .lit (.int .u8 0)], [], places) :=
  ⟨[], by kernel_rfl⟩

set_option maxRecDepth 100000 in
theorem liftedUpto (os : Os) (started : os.Started) (H : Type) (enc : TypeId × Value → H) (F : Stop.Interp) :
    ReturnsInHanded {} Tryd.checked os 5 .any ((Rows.OpenSpec.upto Rows.typesProductsSpec).preRow enc Tryd.prog Tryd.f5 Rows.typesProductsUptoRow.domain false Rows.typesProductsUptoRow.laid) (((Rows.OpenSpec.upto Rows.typesProductsSpec).at F).post enc Tryd.prog Tryd.f5 false true false false) := by
  obtain ⟨places, hx⟩ := reads os enc
  refine returnsInHanded_of_row (C := Tryd.checked) (s := Rows.OpenSpec.upto Rows.typesProductsSpec) own started (by kernel_rfl) Tryd.func5
    (witness_row_at (enc := enc) (C := Tryd.checked) false (laidWorld os) #[zType, zType, .int .u8 0] rfl (by kernel_rfl) (by kernel_rfl) (by kernel_rfl)
      (OpenSpec.preRow_of_cond 8 hx (by kernel_rfl) (fun k hk => by cases hk; kernel_rfl) (by kernel_rfl) (laid_met os))) ?_
  intro W base args ds gs before hval hW _ hcond _ _ hS _
  exact contract H enc W base args ds gs before hval hW (hcond _ rfl) hS

theorem saidUpto : Rows.TypesProductsUptoSaid :=
  OpenClaim.holds_of_cond 5 Tryd.f5 rfl rfl rfl rfl rfl rfl rfl ⟨rfl, rfl, rfl, rfl, rfl⟩ rfl rfl rfl rfl rfl (by kernel_rfl) Tryd.func5 (by kernel_rfl)
    (of_decide_eq_true (by kernel_rfl)) (by unfold Func.isWrapper; first | (rw [if_pos (by decide +kernel)]; kernel_rfl) | (rw [if_neg (by decide +kernel)]; exact ⟨rfl, rfl⟩))
    (fun os started H enc _ F => by rw [OpenClaim.pre_eq_preRow]; exact liftedUpto os started H enc F)

theorem plain (f : FuncId) (fn : Func) (hf : Tryd.pinned.checked.prog.funcNamed "keyhole/keyholelaw12.TypesProducts" = some f) (hfn : Tryd.pinned.checked.prog.funcs[f]? = some fn) :
    false = Tryd.pinned.checked.prog.looks [] ∧ ∀ (j : Nat) t, fn.params[j]? = some t → Tryd.pinned.checked.prog.wantsStandIn t = false := by
  obtain rfl : f = 5 := Option.some.inj ((show Tryd.prog.funcNamed "keyhole/keyholelaw12.TypesProducts" = some 5 by kernel_rfl).symm.trans hf) |>.symm
  obtain rfl : fn = Tryd.f5 := (Option.some.inj (Tryd.func5.symm.trans hfn)).symm
  refine ⟨by kernel_rfl, fun j t ht => ?_⟩
  rw [Tryd.params5] at ht
  have hm := Array.mem_of_getElem? ht
  simp at hm
  rcases hm with rfl | rfl <;> exact (show Tryd.prog.wantsStandIn _ = false by kernel_rfl)

theorem cardUpto : Rows.TypesProductsUptoCardSaid :=
  Claim7.holds_tied_plain_at .later [] _ _ _ _ saidUpto (fun _ h => by cases h) (by kernel_rfl) (fun _ h => by cases h) typesProductsUpto_row_tie rfl ⟨rfl, rfl⟩ (by kernel_rfl) rfl plain (by kernel_rfl)
end TypesProducts
end Go.Proofs.YtonilfkaecbjnaaDoor

