/-
  P12.1: the statement.
-/
import Derived.Test.YtonilfkaecbjnaaDoorCards
import Derived.Test.YtonilfkaecbjnaaDoorTie
import Derived.Test.YtonilfkaecbjnaaDoorPbA
import Derived.Test.YtonilfkaecbjnaaDoorPdE
import Derived.Test.YtonilfkaecbjnaaDoorPkB
import Derived.WalkKit
namespace Go.Proofs.YtonilfkaecbjnaaDoor
open Go.Am Go.ChangeShapes Go.WideShapes Go.ChangeAt Go.RowKit

theorem own : ownKnob Tryd.prog.godebug = none := by kernel_rfl
theorem glOk {W : World} (h : W.ShapedOpen Tryd.prog) : GlOk C (memOf W) := by
  obtain ⟨m, hm⟩ := cell_of_shapedOpen_int (g := 0) (zero := #[.int .i64 0]) (t := 3) h (of_decide_eq_true (by kernel_rfl)) (by kernel_rfl) rfl (by kernel_rfl) (by kernel_rfl) Tryd.underlying3
  exact { tab := fun G g cs e => (by cases e), gp := ⟨m, (memOf_cell hm).1⟩ }

def PlainT (t : TypeId) : Prop := t ∈ [3, 4, 5, 9, 23, 24, 25, 27]
theorem plainT_ok : Plain Tryd.prog PlainT := by
  intro t ht
  simp only [PlainT, List.mem_cons, List.not_mem_nil, or_false] at ht
  rcases ht with rfl | rfl | rfl | rfl | rfl | rfl | rfl | rfl
  · exact .inr (.inl ⟨_, Tryd.underlying3⟩)
  · exact .inl Tryd.underlying4
  · exact .inr (.inl ⟨_, Tryd.underlying5⟩)
  · exact .inr (.inr (.inl Tryd.underlying9))
  · exact .inr (.inl ⟨_, u23⟩)
  · exact .inr (.inr (.inr (.inl ⟨_, Tryd.underlying24, by simp [PlainT], by rw [c9]; omega⟩)))
  · exact .inr (.inr (.inr (.inl ⟨_, Tryd.underlying25, by simp [PlainT], by rw [c27]; omega⟩)))
  · refine .inr (.inr (.inr (.inr ⟨_, Tryd.underlying27, fun f hf => ?_⟩)))
    simp at hf
    rcases hf with rfl | rfl | rfl | rfl | rfl | rfl | rfl <;> simp [PlainT]

namespace TypesChecks
set_option maxRecDepth 100000 in
theorem contract (H : Type) (enc : TypeId × Value → H) (W : World) (base : Nat) (args : Array Value) (ds gs : List (DataW H)) (before : List MemPlace)
    (hval : ∀ (j : Nat) t v, Tryd.f7.params[j]? = some t → args[j]? = some v → Value.okWide Tryd.prog W .any base t v)
    (hW : DataW.Whole enc Tryd.prog Tryd.f7.params.toList Rows.typesChecksSpec.vars false W args.toList ds gs before) (hk : Rows.uptoSmall H (ds ++ gs) = true) (hS : W.ShapedOpen Tryd.prog) :
    Calls Tryd.prog 7 args W fun e W' => ∃ v, e = .returned v ∧ Rows.typesChecksSpec.post enc Tryd.prog Tryd.f7 false true false false W args v W' := by
  have hW' := hW
  obtain ⟨p, q, hA0, hV, rfl, hfz, hnd⟩ := hW
  obtain ⟨rfl, rfl⟩ := trodVars_none hV
  have hA : DataW.TrodAll enc Tryd.prog W 0 (fun _ => true) true Tryd.f7.params.toList args.toList ds p := hA0
  rw [Tryd.params7] at hA hval
  obtain ⟨v0, vs0, d0, ds0, p0, q0, hargs, rfl, rfl, ⟨n0, h0⟩, r0⟩ := trodAll_cons hA
  obtain ⟨v1, vs1, d1, ds1, p1, q1, rfl, rfl, rfl, ⟨n1, h1⟩, r1⟩ := trodAll_cons r0
  obtain ⟨rfl, rfl, rfl⟩ := trodAll_nil r1
  obtain rfl : args = #[v0, v1] := by cases args; simp_all
  have hb : Rows.uptoBulk d0 + (Rows.uptoBulk d1 + 0) ≤ 1048576 := by simpa [Rows.uptoSmall, Rows.uptoBulkAll] using hk
  obtain ⟨x0, hc0, hb0⟩ := ApiType.rd n0 _ _ _ h0
  obtain ⟨x1, hc1, hb1⟩ := ApiType.rd n1 _ _ _ h1
  have a0 := arg_st (hval 0 27 v0 rfl rfl) Tryd.underlying27 hc0
  have a1 := arg_st (hval 1 27 v1 rfl rfl) Tryd.underlying27 hc1
  refine ofACall (C := C) (hP := rfl) (law12_TypesChecks_ok (TypesChecks_true x0 x1 (by unfold Ok BB; omega) (by unfold Ok BB; omega) law12_known_true)) rfl ?_ (glOk hS) hW' rfl rfl Tryd.underlying4 rfl plainT_ok ?_
  · intro i x v hx hv
    match i, hx, hv with
    | 0, hx, hv => cases hx; cases hv; exact a0
    | 1, hx, hv => cases hx; cases hv; exact a1
    | i + 2, hx, _ => simp at hx
  · intro t ht
    rw [Tryd.params7] at ht
    simp at ht
    rcases ht with rfl | rfl <;> simp [PlainT]

/-- a world for the witness -/
def laidCells : DataW Unit → Array Value
  | .agg l => (l.map fun
      | .lit (.int k n) => .int k n
      | .lit (.string s) => .string ⟨s.toArray⟩
      | _ => .bool false).toArray
  | _ => #[]
def laidPut (d : DataW Unit) : Obj → Obj
  | .cells _ t frozen => .cells (laidCells d) t frozen
  | o => o
noncomputable def laidWorld (os : Os) : World :=
  { World.holding Tryd.prog os ⟨#[], #[], []⟩ with heap := (((World.holding Tryd.prog os ⟨#[], #[], []⟩).heap.modify 2 (laidPut Rows.laid_internal_strconv_uint64pow10)).modify 3 (laidPut Rows.laid_math_bits_deBruijn32tab)).modify 4 (laidPut Rows.laid_math_bits_deBruijn64tab) }
def zType : Value := .agg #[.int .i64 0, .int .i64 0, .int .i64 0, .int .i64 0, .string ⟨#[]⟩, .slice none 0 0, .slice none 0 0]
def rType {H : Type} : DataW H := .agg [.lit (.int .i64 0), .lit (.int .i64 0), .lit (.int .i64 0), .lit (.int .i64 0), .lit (.string []), .nil, .nil]
theorem laid_met (os : Os) : laidMet Tryd.prog Rows.typesChecksUptoRow.laid ((laidWorld os).forCall (fun _ _ => 0) ⟨#[], #[zType, zType], []⟩).memory :=
  laidMet_of_run' 8 (by kernel_rfl) (by kernel_rfl)
theorem reads (os : Os) {H : Type} (enc : TypeId × Value → H) : ∃ places, DataW.whole enc Tryd.prog ((laidWorld os).forCall (fun _ _ => 0) ⟨#[], #[zType, zType], []⟩).memory Tryd.f7.params.toList Rows.typesChecksSpec.vars false #[zType, zType].toList 8 = some ([rType, rType], [], places) :=
  ⟨[], by kernel_rfl⟩

set_option maxRecDepth 100000 in
theorem liftedUpto (os : Os) (started : os.Started) (H : Type) (enc : TypeId × Value → H) (F : Stop.Interp) :
    ReturnsInHanded {} Tryd.checked os 7 .any ((Rows.OpenSpec.upto Rows.typesChecksSpec).preRow enc Tryd.prog Tryd.f7 Rows.typesChecksUptoRow.domain false Rows.typesChecksUptoRow.laid) (((Rows.OpenSpec.upto Rows.typesChecksSpec).at F).post enc Tryd.prog Tryd.f7 false true false false) := by
  obtain ⟨places, hx⟩ := reads os enc
  refine returnsInHanded_of_row (C := Tryd.checked) (s := Rows.OpenSpec.upto Rows.typesChecksSpec) own started (by kernel_rfl) Tryd.func7
    (witness_row_at (enc := enc) (C := Tryd.checked) false (laidWorld os) #[zType, zType] rfl (by kernel_rfl) (by kernel_rfl) (by kernel_rfl)
      (OpenSpec.preRow_of_cond 8 hx (by kernel_rfl) (fun k hk => by cases hk; kernel_rfl) (by kernel_rfl) (laid_met os))) ?_
  intro W base args ds gs before hval hW _ hcond _ _ hS _
  exact contract H enc W base args ds gs before hval hW (hcond _ rfl) hS

theorem saidUpto : Rows.TypesChecksUptoSaid :=
  OpenClaim.holds_of_cond 7 Tryd.f7 rfl rfl rfl rfl rfl rfl rfl ⟨rfl, rfl, rfl, rfl, rfl⟩ rfl rfl rfl rfl rfl (by kernel_rfl) Tryd.func7 (by kernel_rfl)
    (of_decide_eq_true (by kernel_rfl)) (by unfold Func.isWrapper; first | (rw [if_pos (by decide +kernel)]; kernel_rfl) | (rw [if_neg (by decide +kernel)]; exact ⟨rfl, rfl⟩))
    (fun os started H enc _ F => by rw [OpenClaim.pre_eq_preRow]; exact liftedUpto os started H enc F)

theorem plain (f : FuncId) (fn : Func) (hf : Tryd.pinned.checked.prog.funcNamed "keyhole/keyholelaw12.TypesChecks" = some f) (hfn : Tryd.pinned.checked.prog.funcs[f]? = some fn) :
    false = Tryd.pinned.checked.prog.looks [] ∧ ∀ (j : Nat) t, fn.params[j]? = some t → Tryd.pinned.checked.prog.wantsStandIn t = false := by
  obtain rfl : f = 7 := Option.some.inj ((show Tryd.prog.funcNamed "keyhole/keyholelaw12.TypesChecks" = some 7 by kernel_rfl).symm.trans hf) |>.symm
  obtain rfl : fn = Tryd.f7 := (Option.some.inj (Tryd.func7.symm.trans hfn)).symm
  refine ⟨by kernel_rfl, fun j t ht => ?_⟩
  rw [Tryd.params7] at ht
  have hm := Array.mem_of_getElem? ht
  simp at hm
  rcases hm with rfl | rfl <;> exact (show Tryd.prog.wantsStandIn _ = false by kernel_rfl)

theorem cardUpto : Rows.TypesChecksUptoCardSaid :=
  Claim7.holds_tied_plain_at .later [] _ _ _ _ saidUpto (fun _ h => by cases h) (by kernel_rfl) (fun _ h => by cases h) typesChecksUpto_row_tie rfl ⟨rfl, rfl⟩ (by kernel_rfl) rfl plain (by kernel_rfl)
end TypesChecks
end Go.Proofs.YtonilfkaecbjnaaDoor
