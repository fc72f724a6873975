/- A part of the proof of ParserFirst. -/
import Derived.Test.YtmnhfbekncjnfaaGreatDoorRows
import Derived.Test.YtmnhfbekncjnfaaGreatDoorPlA
import Derived.ProofKit
import Derived.OpenShut
import Derived.Deep.DeepHandedRow
import Derived.Lib.LaidTab
import Derived.Test.YtmnhfbekncjnfaaGreatDoorCards
import Derived.Test.YtmnhfbekncjnfaaGreatDoorTie
import Derived.WalkKit
import Derived.HandedShaped
set_option linter.unusedSimpArgs false
set_option linter.unusedVariables false
set_option maxRecDepth 10000
namespace Go.Proofs.YtmnhfbekncjnfaaGreatDoor
open Go.Am Go.ChangeShapes Go.WideShapes Go.ChangeAt Go.RowKit
theorem Gx {H:Type}:∀ l:List (DataW H),Rows.uptoBulkAll l=(l.map Rows.uptoBulk).sum
 | []=>rfl
 | x::r=>by simp only [Rows.uptoBulkAll,List.map_cons,List.sum_cons,Gx r]
theorem G1o {H:Type}:B1n (Rows.uptoBulk (H:=H)) where
 lit l:=by cases l <;> simp [Rows.uptoBulk]
 str s:=by simp [Rows.uptoBulk]
 nil:=by simp [Rows.uptoBulk]
 sl es sp:=by simp only [Rows.uptoBulk,Gx]; omega
 agg ps:=by simp only [Rows.uptoBulk,Gx]; omega
section
variable {H:Type}{enc:TypeId×_root_.Go.Value→H}{W:World}
theorem c9:Tryz.prog.cellsOf 9=1:=by kernel_rfl
theorem c3:Tryz.prog.cellsOf 3=1:=by kernel_rfl
theorem c26:Tryz.prog.cellsOf 26=4:=by kernel_rfl
theorem c36:Tryz.prog.cellsOf 36=7:=by kernel_rfl
theorem N1p:Tryz.prog.cellsOf 144=17:=by kernel_rfl
theorem O1p:Tryz.prog.cellsOf 128=17:=by kernel_rfl
theorem c5:Tryz.prog.cellsOf 5=1:=by kernel_rfl
theorem c4:Tryz.prog.cellsOf 4=1:=by kernel_rfl
theorem u9:Tryz.prog.underlying 9=some .string:=by kernel_rfl
theorem u23:Tryz.prog.underlying 23=some (.int .i64):=by kernel_rfl
theorem u3:Tryz.prog.underlying 3=some (.int .i64):=by kernel_rfl
theorem u24:Tryz.prog.underlying 24=some (.slice 26):=by kernel_rfl
theorem u32:Tryz.prog.underlying 32=some (.int .i64):=by kernel_rfl
theorem u33:Tryz.prog.underlying 33=some (.slice 9):=by kernel_rfl
theorem u34:Tryz.prog.underlying 34=some (.slice 36):=by kernel_rfl
theorem P1p:Tryz.prog.underlying 126=some (.int .i64):=by kernel_rfl
theorem Q1p:Tryz.prog.underlying 141=some (.int .i64):=by kernel_rfl
theorem R1p:Tryz.prog.underlying 142=some (.slice 3):=by kernel_rfl
theorem u47:Tryz.prog.underlying 47=some (.slice 144):=by kernel_rfl
theorem u46:Tryz.prog.underlying 46=some (.slice 128):=by kernel_rfl
theorem u5:Tryz.prog.underlying 5=some (.int .u8):=by kernel_rfl
theorem u56:Tryz.prog.underlying 56=some (.slice 5):=by kernel_rfl
theorem u4:Tryz.prog.underlying 4=some .bool:=by kernel_rfl
end
def Gg (t:TypeId):Prop:=t∈[9,23,3,24,26,32,33,34,36,126,141,142,144,47,128,46,49,5,56,4]
theorem G1j:Z19 Tryz.prog Gg:=by
 intro t ht
 simp only [Gg,List.mem_cons,List.not_mem_nil,or_false] at ht
 rcases ht with rfl | rfl | rfl | rfl | rfl | rfl | rfl | rfl | rfl | rfl | rfl | rfl | rfl | rfl | rfl | rfl | rfl | rfl | rfl | rfl
 ·exact .inr (.inr (.inl u9))
 ·exact .inr (.inl ⟨_,u23⟩)
 ·exact .inr (.inl ⟨_,u3⟩)
 ·exact .inr (.inr (.inr (.inl ⟨_,u24,by simp [Gg],by rw [c26]; omega⟩)))
 ·refine .inr (.inr (.inr (.inr ⟨_,Tryz.underlying26,fun f hf=>?_⟩)))
  simp at hf
  rcases hf with rfl | rfl | rfl | rfl <;> simp [Gg]
 ·exact .inr (.inl ⟨_,u32⟩)
 ·exact .inr (.inr (.inr (.inl ⟨_,u33,by simp [Gg],by rw [c9]; omega⟩)))
 ·exact .inr (.inr (.inr (.inl ⟨_,u34,by simp [Gg],by rw [c36]; omega⟩)))
 ·refine .inr (.inr (.inr (.inr ⟨_,Tryz.underlying36,fun f hf=>?_⟩)))
  simp at hf
  rcases hf with rfl | rfl | rfl | rfl | rfl | rfl | rfl <;> simp [Gg]
 ·exact .inr (.inl ⟨_,P1p⟩)
 ·exact .inr (.inl ⟨_,Q1p⟩)
 ·exact .inr (.inr (.inr (.inl ⟨_,R1p,by simp [Gg],by rw [c3]; omega⟩)))
 ·refine .inr (.inr (.inr (.inr ⟨_,Tryz.underlying144,fun f hf=>?_⟩)))
  simp at hf
  rcases hf with rfl | rfl | rfl | rfl | rfl | rfl | rfl | rfl | rfl | rfl | rfl <;> simp [Gg]
 ·exact .inr (.inr (.inr (.inl ⟨_,u47,by simp [Gg],by rw [N1p]; omega⟩)))
 ·refine .inr (.inr (.inr (.inr ⟨_,Tryz.underlying128,fun f hf=>?_⟩)))
  simp at hf
  rcases hf with rfl | rfl | rfl | rfl | rfl | rfl | rfl | rfl <;> simp [Gg]
 ·exact .inr (.inr (.inr (.inl ⟨_,u46,by simp [Gg],by rw [O1p]; omega⟩)))
 ·refine .inr (.inr (.inr (.inr ⟨_,Tryz.underlying49,fun f hf=>?_⟩)))
  simp at hf
  rcases hf with rfl | rfl <;> simp [Gg]
 ·exact .inr (.inl ⟨_,u5⟩)
 ·exact .inr (.inr (.inr (.inl ⟨_,u56,by simp [Gg],by rw [c5]; omega⟩)))
 ·exact .inl u4
end Go.Proofs.YtmnhfbekncjnfaaGreatDoor

namespace Go.Proofs.YtmnhfbekncjnfaaGreatDoor
open Go.Am Go.ChangeShapes Go.WideShapes Go.ChangeAt Go.RowKit
theorem own : ownKnob Tryz.prog.godebug = none := by kernel_rfl
def laidL : List (String × DataW Unit) := [("math/bits.deBruijn32tab", Rows.laid_math_bits_deBruijn32tab), ("math/bits.deBruijn64tab", Rows.laid_math_bits_deBruijn64tab), ("internal/strconv.uint64pow10", Rows.laid_internal_strconv_uint64pow10), ("strconv.ErrRange", Rows.laid_strconv_ErrRange), ("strconv.ErrSyntax", Rows.laid_strconv_ErrSyntax)]
theorem laid_of {W : World} (h : laidMetH Tryz.prog laidL W) : laidMet Tryz.prog laidL W := h
theorem glOk {W : World} (h : W.ShapedOpen Tryz.prog) (hL : laidMet Tryz.prog laidL W) : Up C (Rj W) W := by
  obtain ⟨m, hm⟩ := cell_of_shapedOpen_int (g := 2) (zero := #[.int .i64 0]) (t := 3) h (of_decide_eq_true (by kernel_rfl)) (by kernel_rfl) rfl (by kernel_rfl) (by kernel_rfl) Tryz.underlying3
  obtain ⟨h10, hm10⟩ := A1d hL 2 (name := "internal/strconv.uint64pow10") (k := .u64) (zs := Lib.pow10Tab) rfl (g := 3) (t := 232) (e := 208) (n := 20) (by kernel_rfl) (by kernel_rfl) (by kernel_rfl) (by kernel_rfl) (by kernel_rfl) (by kernel_rfl)
  exact { tab := fun G g cs e => (by cases e), gp := ⟨⟨m, (F1f hm).1⟩, hm10, h10⟩ }
def laidCells : DataW Unit → Array Value
  | .agg l => (l.map fun
      | .lit (.int k n) => .int k n
      | .lit (.string s) => .string ⟨s.toArray⟩
      | _ => .bool false).toArray
  | _ => #[]
def laidBox (t b : Nat) : Obj → Obj
  | .cells _ ty frozen => .cells #[.iface t (.pointer (some ⟨b, 0, none⟩))] ty frozen
  | o => o
def laidPut (d : DataW Unit) : Obj → Obj
  | .cells _ t frozen => .cells (laidCells d) t frozen
  | o => o
noncomputable def laidWorld (os : Os) : World :=
  { World.holding Tryz.prog os ⟨#[], #[], []⟩ with heap := ((((((((World.holding Tryz.prog os ⟨#[], #[], []⟩).heap.modify 4 (laidPut Rows.laid_math_bits_deBruijn32tab)).modify 5 (laidPut Rows.laid_math_bits_deBruijn64tab)).modify 3 (laidPut Rows.laid_internal_strconv_uint64pow10)).modify 1 (laidBox 218 ((World.holding Tryz.prog os ⟨#[], #[], []⟩).heap.size + 0))).push (.cells #[.string ⟨([118, 97, 108, 117, 101, 32, 111, 117, 116, 32, 111, 102, 32, 114, 97, 110, 103, 101] : List UInt8).toArray⟩] 220 (0, 0))).modify 0 (laidBox 218 ((World.holding Tryz.prog os ⟨#[], #[], []⟩).heap.size + 1))).push (.cells #[.string ⟨([105, 110, 118, 97, 108, 105, 100, 32, 115, 121, 110, 116, 97, 120] : List UInt8).toArray⟩] 220 (0, 0))) }
def zv9 : _root_.Go.Value := .string ⟨#[]⟩
def zr9 {H : Type} : DataW H := .lit (.string [])
def zv26 : _root_.Go.Value := .agg #[.int .i64 0, .int .i64 0, .string ⟨#[]⟩, .slice none 0 0]
def zr26 {H : Type} : DataW H := .agg [.lit (.int .i64 0), .lit (.int .i64 0), .lit (.string []), .nil]
def zv36 : _root_.Go.Value := .agg #[.int .i64 0, .int .i64 0, .int .i64 0, .int .i64 0, .string ⟨#[]⟩, .slice none 0 0, .slice none 0 0]
def zr36 {H : Type} : DataW H := .agg [.lit (.int .i64 0), .lit (.int .i64 0), .lit (.int .i64 0), .lit (.int .i64 0), .lit (.string []), .nil, .nil]
def zv49 : _root_.Go.Value := .agg #[.slice none 0 0, .slice none 0 0]
def zr49 {H : Type} : DataW H := .agg [.nil, .nil]
def zv56 : _root_.Go.Value := .slice none 0 0
def zr56 {H : Type} : DataW H := .nil
end Go.Proofs.YtmnhfbekncjnfaaGreatDoor

