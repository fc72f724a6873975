/- A part of the proof of CatalogMakes. -/
import Derived.Test.YtbaijagfgceilaaGreatDoorRows
import Derived.Test.YtbaijagfgceilaaGreatDoorPlA
import Derived.ProofKit
import Derived.OpenShut
import Derived.Deep.DeepHandedRow
import Derived.Lib.LaidTab
import Derived.Test.YtbaijagfgceilaaGreatDoorCards
import Derived.Test.YtbaijagfgceilaaGreatDoorTie
import Derived.WalkKit
import Derived.HandedShaped
set_option linter.unusedSimpArgs false
set_option linter.unusedVariables false
set_option maxRecDepth 10000
namespace Go.Proofs.YtbaijagfgceilaaGreatDoor
open Go.Am Go.ChangeShapes Go.WideShapes Go.ChangeAt Go.RowKit
theorem O10 {H:Type}:∀ l:List (DataW H),Rows.uptoBulkAll l=(l.map Rows.uptoBulk).sum
 | []=>rfl
 | x::r=>by simp only [Rows.uptoBulkAll,List.map_cons,List.sum_cons,O10 r]
theorem J1w {H:Type}:O1u (Rows.uptoBulk (H:=H)) where
 lit l:=by cases l <;> simp [Rows.uptoBulk]
 str s:=by simp [Rows.uptoBulk]
 nil:=by simp [Rows.uptoBulk]
 sl es sp:=by simp only [Rows.uptoBulk,O10]; omega
 agg ps:=by simp only [Rows.uptoBulk,O10]; omega
section
variable {H:Type}{enc:TypeId×_root_.Go.Value→H}{W:World}
theorem c3:Tryz.prog.cellsOf 3=1:=by kernel_rfl
theorem c4:Tryz.prog.cellsOf 4=1:=by kernel_rfl
theorem u9:Tryz.prog.underlying 9=some .string:=by kernel_rfl
theorem u3:Tryz.prog.underlying 3=some (.int .i64):=by kernel_rfl
theorem u4:Tryz.prog.underlying 4=some .bool:=by kernel_rfl
end
def N1m (t:TypeId):Prop:=t∈[9,3,4]
theorem A1u:N1i Tryz.prog N1m:=by
 intro t ht
 simp only [N1m,List.mem_cons,List.not_mem_nil,or_false] at ht
 rcases ht with rfl | rfl | rfl
 ·exact .inr (.inr (.inl u9))
 ·exact .inr (.inl ⟨_,u3⟩)
 ·exact .inl u4
end Go.Proofs.YtbaijagfgceilaaGreatDoor

namespace Go.Proofs.YtbaijagfgceilaaGreatDoor
open Go.Am Go.ChangeShapes Go.WideShapes Go.ChangeAt Go.RowKit
theorem own : ownKnob Tryz.prog.godebug = none := by kernel_rfl
def laidL : List (String × DataW Unit) := [("math/bits.deBruijn32tab", Rows.laid_math_bits_deBruijn32tab), ("math/bits.deBruijn64tab", Rows.laid_math_bits_deBruijn64tab), ("internal/strconv.uint64pow10", Rows.laid_internal_strconv_uint64pow10), ("unicode/utf8.acceptRanges", Rows.laid_unicode_utf8_acceptRanges), ("strconv.ErrRange", Rows.laid_strconv_ErrRange), ("strconv.ErrSyntax", Rows.laid_strconv_ErrSyntax), ("unicode/utf8.first", Rows.laid_unicode_utf8_first)]
theorem laid_of {W : World} (h : laidMetH Tryz.prog laidL W) : laidMet Tryz.prog laidL W := h
theorem glOk {W : World} (h : W.ShapedOpen Tryz.prog) (hL : laidMet Tryz.prog laidL W) : Sr C (Xj W) W := by
  obtain ⟨m, hm⟩ := cell_of_shapedOpen_int (g := 1) (zero := #[.int .i64 0]) (t := 3) h (of_decide_eq_true (by kernel_rfl)) (by kernel_rfl) rfl (by kernel_rfl) (by kernel_rfl) Tryz.underlying3
  obtain ⟨h10, hm10⟩ := P1m hL 2 (name := "internal/strconv.uint64pow10") (k := .u64) (zs := Lib.pow10Tab) rfl (g := 0) (t := 180) (e := 140) (n := 20) (by kernel_rfl) (by kernel_rfl) (by kernel_rfl) (by kernel_rfl) (by kernel_rfl) (by kernel_rfl)
  exact { tab := fun G g cs e => (by cases e), gp := ⟨⟨m, (C1p hm).1⟩, hm10, h10⟩ }
def laidLit : DataW Unit → Value
  | .lit (.int k n) => .int k n
  | .lit (.string s) => .string ⟨s.toArray⟩
  | _ => .bool false
def laidCells : DataW Unit → Array Value
  | .agg l => (l.flatMap fun
      | .agg m => m.map laidLit
      | x => [laidLit x]).toArray
  | _ => #[]
def laidBox (t b : Nat) : Obj → Obj
  | .cells _ ty frozen => .cells #[.iface t (.pointer (some ⟨b, 0, none⟩))] ty frozen
  | o => o
def laidPut (d : DataW Unit) : Obj → Obj
  | .cells _ t frozen => .cells (laidCells d) t frozen
  | o => o
noncomputable def laidWorld (os : Os) : World :=
  { World.holding Tryz.prog os ⟨#[], #[], []⟩ with heap := ((((((((((World.holding Tryz.prog os ⟨#[], #[], []⟩).heap.modify 4 (laidPut Rows.laid_math_bits_deBruijn32tab)).modify 5 (laidPut Rows.laid_math_bits_deBruijn64tab)).modify 0 (laidPut Rows.laid_internal_strconv_uint64pow10)).modify 3 (laidPut Rows.laid_unicode_utf8_acceptRanges)).modify 7 (laidBox 246 ((World.holding Tryz.prog os ⟨#[], #[], []⟩).heap.size + 0))).push (.cells #[.string ⟨([118, 97, 108, 117, 101, 32, 111, 117, 116, 32, 111, 102, 32, 114, 97, 110, 103, 101] : List UInt8).toArray⟩] 248 (0, 0))).modify 6 (laidBox 246 ((World.holding Tryz.prog os ⟨#[], #[], []⟩).heap.size + 1))).push (.cells #[.string ⟨([105, 110, 118, 97, 108, 105, 100, 32, 115, 121, 110, 116, 97, 120] : List UInt8).toArray⟩] 248 (0, 0))).modify 2 (laidPut Rows.laid_unicode_utf8_first)) }
def zv3 : _root_.Go.Value := .int .i64 0
def zr3 {H : Type} : DataW H := .lit (.int .i64 0)
def zv9 : _root_.Go.Value := .string ⟨#[]⟩
def zr9 {H : Type} : DataW H := .lit (.string [])
end Go.Proofs.YtbaijagfgceilaaGreatDoor

