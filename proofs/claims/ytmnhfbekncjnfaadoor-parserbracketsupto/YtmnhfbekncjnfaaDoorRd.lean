/- A part of the proof of ParserBrackets. -/
import Derived.Test.YtmnhfbekncjnfaaDoorRows
import Derived.Test.YtmnhfbekncjnfaaDoorPlA
import Derived.ProofKit
import Derived.OpenShut
import Derived.Deep.DeepHandedRow
import Derived.Lib.LaidTab
import Derived.Test.YtmnhfbekncjnfaaDoorCards
import Derived.Test.YtmnhfbekncjnfaaDoorTie
import Derived.WalkKit
import Derived.HandedShaped
set_option linter.unusedSimpArgs false
set_option linter.unusedVariables false
set_option maxRecDepth 10000
namespace Go.Proofs.YtmnhfbekncjnfaaDoor
open Go.Am Go.ChangeShapes Go.WideShapes Go.ChangeAt Go.RowKit
theorem Vl {H:Type}:∀ l:List (DataW H),Rows.uptoBulkAll l=(l.map Rows.uptoBulk).sum
 | []=>rfl
 | x::r=>by simp only [Rows.uptoBulkAll,List.map_cons,List.sum_cons,Vl r]
theorem M19 {H:Type}:Hu (Rows.uptoBulk (H:=H)) where
 lit l:=by cases l <;> simp [Rows.uptoBulk]
 str s:=by simp [Rows.uptoBulk]
 nil:=by simp [Rows.uptoBulk]
 sl es sp:=by simp only [Rows.uptoBulk,Vl]; omega
 agg ps:=by simp only [Rows.uptoBulk,Vl]; omega
section
variable {H:Type}{enc:TypeId×_root_.Go.Value→H}{W:World}
theorem c5:Tryd.prog.cellsOf 5=1:=by kernel_rfl
theorem c4:Tryd.prog.cellsOf 4=1:=by kernel_rfl
theorem u9:Tryd.prog.underlying 9=some .string:=by kernel_rfl
theorem u5:Tryd.prog.underlying 5=some (.int .u8):=by kernel_rfl
theorem u4:Tryd.prog.underlying 4=some .bool:=by kernel_rfl
end
def Xz (t:TypeId):Prop:=t∈[9,5,4]
theorem D15:Mw Tryd.prog Xz:=by
 intro t ht
 simp only [Xz,List.mem_cons,List.not_mem_nil,or_false] at ht
 rcases ht with rfl | rfl | rfl
 ·exact .inr (.inr (.inl u9))
 ·exact .inr (.inl ⟨_,u5⟩)
 ·exact .inl u4
end Go.Proofs.YtmnhfbekncjnfaaDoor

namespace Go.Proofs.YtmnhfbekncjnfaaDoor
open Go.Am Go.ChangeShapes Go.WideShapes Go.ChangeAt Go.RowKit
theorem own : ownKnob Tryd.prog.godebug = none := by kernel_rfl
def laidL : List (String × DataW Unit) := [("math/bits.deBruijn32tab", Rows.laid_math_bits_deBruijn32tab), ("math/bits.deBruijn64tab", Rows.laid_math_bits_deBruijn64tab), ("internal/strconv.uint64pow10", Rows.laid_internal_strconv_uint64pow10), ("strconv.ErrRange", Rows.laid_strconv_ErrRange), ("strconv.ErrSyntax", Rows.laid_strconv_ErrSyntax)]
theorem laid_of {W : World} (h : laidMetH Tryd.prog laidL W) : laidMet Tryd.prog laidL W := h
theorem glOk {W : World} (h : W.ShapedOpen Tryd.prog) (hL : laidMet Tryd.prog laidL W) : Dg C (La W) W := by
  obtain ⟨m, hm⟩ := cell_of_shapedOpen_int (g := 0) (zero := #[.int .i64 0]) (t := 3) h (of_decide_eq_true (by kernel_rfl)) (by kernel_rfl) rfl (by kernel_rfl) (by kernel_rfl) Tryd.underlying3
  obtain ⟨h10, hm10⟩ := A10 hL 2 (name := "internal/strconv.uint64pow10") (k := .u64) (zs := Lib.pow10Tab) rfl (g := 3) (t := 113) (e := 94) (n := 20) (by kernel_rfl) (by kernel_rfl) (by kernel_rfl) (by kernel_rfl) (by kernel_rfl) (by kernel_rfl)
  exact { tab := fun G g cs e => (by cases e), gp := ⟨⟨m, (Nn hm).1⟩, hm10, h10⟩ }
def laidCells : DataW Unit → Array Value
  | .agg l => (l.map fun
      | .lit (.int k n) => .int k n
      | .lit (.string s) => .string ⟨s.toArray⟩
      | _ => .bool false).toArray
  | _ => #[]
def laidBox (t b : Nat) : Obj → Obj
  | .cells _ ty frozen => .cells #[.iface t (.pointer (some ⟨b, 0, none⟩))] ty frozen
  | o => o
def laidPut (d : DataW Unit) : Obj → Obj
  | .cells _ t frozen => .cells (laidCells d) t frozen
  | o => o
noncomputable def laidWorld (os : Os) : World :=
  { World.holding Tryd.prog os ⟨#[], #[], []⟩ with heap := ((((((((World.holding Tryd.prog os ⟨#[], #[], []⟩).heap.modify 4 (laidPut Rows.laid_math_bits_deBruijn32tab)).modify 5 (laidPut Rows.laid_math_bits_deBruijn64tab)).modify 3 (laidPut Rows.laid_internal_strconv_uint64pow10)).modify 2 (laidBox 103 ((World.holding Tryd.prog os ⟨#[], #[], []⟩).heap.size + 0))).push (.cells #[.string ⟨([118, 97, 108, 117, 101, 32, 111, 117, 116, 32, 111, 102, 32, 114, 97, 110, 103, 101] : List UInt8).toArray⟩] 105 (0, 0))).modify 1 (laidBox 103 ((World.holding Tryd.prog os ⟨#[], #[], []⟩).heap.size + 1))).push (.cells #[.string ⟨([105, 110, 118, 97, 108, 105, 100, 32, 115, 121, 110, 116, 97, 120] : List UInt8).toArray⟩] 105 (0, 0))) }
def zv5 : _root_.Go.Value := .int .u8 0
def zr5 {H : Type} : DataW H := .lit (.int .u8 0)
def zv9 : _root_.Go.Value := .string ⟨#[]⟩
def zr9 {H : Type} : DataW H := .lit (.string [])
end Go.Proofs.YtmnhfbekncjnfaaDoor

