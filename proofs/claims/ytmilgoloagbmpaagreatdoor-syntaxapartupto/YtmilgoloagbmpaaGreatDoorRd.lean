/- A part of the proof of SyntaxApart. -/
import Derived.Test.YtmilgoloagbmpaaGreatDoorRows
import Derived.Test.YtmilgoloagbmpaaGreatDoorPlA
import Derived.ProofKit
import Derived.OpenShut
import Derived.Deep.DeepHandedRow
import Derived.Lib.LaidTab
import Derived.Test.YtmilgoloagbmpaaGreatDoorCards
import Derived.Test.YtmilgoloagbmpaaGreatDoorTie
import Derived.WalkKit
import Derived.HandedShaped
set_option linter.unusedSimpArgs false
set_option linter.unusedVariables false
set_option maxRecDepth 10000
namespace Go.Proofs.YtmilgoloagbmpaaGreatDoor
open Go.Am Go.ChangeShapes Go.WideShapes Go.ChangeAt Go.RowKit
theorem bulkAll_sum {H : Type} : ∀ l : List (DataW H), Rows.uptoBulkAll l = (l.map Rows.uptoBulk).sum
  | [] => rfl
  | x :: r => by simp only [Rows.uptoBulkAll, List.map_cons, List.sum_cons, bulkAll_sum r]
theorem meas {H : Type} : Meas (Rows.uptoBulk (H := H)) where
  lit l := by cases l <;> simp [Rows.uptoBulk]
  str s := by simp [Rows.uptoBulk]
  nil := by simp [Rows.uptoBulk]
  sl es sp := by simp only [Rows.uptoBulk, bulkAll_sum]; omega
  agg ps := by simp only [Rows.uptoBulk, bulkAll_sum]; omega
section
variable {H : Type} {enc : TypeId × _root_.Go.Value → H} {W : World}
theorem c62 : Tryz.prog.cellsOf 62 = 1 := by kernel_rfl
theorem c9 : Tryz.prog.cellsOf 9 = 1 := by kernel_rfl
theorem c44 : Tryz.prog.cellsOf 44 = 1 := by kernel_rfl
theorem c3 : Tryz.prog.cellsOf 3 = 1 := by kernel_rfl
theorem c45 : Tryz.prog.cellsOf 45 = 1 := by kernel_rfl
theorem c46 : Tryz.prog.cellsOf 46 = 1 := by kernel_rfl
theorem c48 : Tryz.prog.cellsOf 48 = 7 := by kernel_rfl
theorem c33 : Tryz.prog.cellsOf 33 = 1 := by kernel_rfl
theorem c34 : Tryz.prog.cellsOf 34 = 1 := by kernel_rfl
theorem c36 : Tryz.prog.cellsOf 36 = 4 := by kernel_rfl
theorem c65 : Tryz.prog.cellsOf 65 = 1 := by kernel_rfl
theorem c66 : Tryz.prog.cellsOf 66 = 1 := by kernel_rfl
theorem c68 : Tryz.prog.cellsOf 68 = 17 := by kernel_rfl
theorem c23 : Tryz.prog.cellsOf 23 = 1 := by kernel_rfl
theorem c64 : Tryz.prog.cellsOf 64 = 17 := by kernel_rfl
theorem c22 : Tryz.prog.cellsOf 22 = 1 := by kernel_rfl
theorem c25 : Tryz.prog.cellsOf 25 = 2 := by kernel_rfl
theorem u62 : Tryz.prog.underlying 62 = some (.int .i64) := by kernel_rfl
theorem u9 : Tryz.prog.underlying 9 = some .string := by kernel_rfl
theorem u44 : Tryz.prog.underlying 44 = some (.int .i64) := by kernel_rfl
theorem u3 : Tryz.prog.underlying 3 = some (.int .i64) := by kernel_rfl
theorem u45 : Tryz.prog.underlying 45 = some (.slice 9) := by kernel_rfl
theorem u46 : Tryz.prog.underlying 46 = some (.slice 48) := by kernel_rfl
theorem u33 : Tryz.prog.underlying 33 = some (.int .i64) := by kernel_rfl
theorem u34 : Tryz.prog.underlying 34 = some (.slice 36) := by kernel_rfl
theorem u65 : Tryz.prog.underlying 65 = some (.int .i64) := by kernel_rfl
theorem u66 : Tryz.prog.underlying 66 = some (.slice 3) := by kernel_rfl
theorem u23 : Tryz.prog.underlying 23 = some (.slice 68) := by kernel_rfl
theorem u22 : Tryz.prog.underlying 22 = some (.slice 64) := by kernel_rfl
theorem u4 : Tryz.prog.underlying 4 = some .bool := by kernel_rfl
theorem ApiType.bulks_map : ∀ l : List ApiType, ApiType.bulks l = (l.map ApiType.bulk).sum
  | [] => rfl
  | x :: r => by simp only [ApiType.bulks, List.map_cons, List.sum_cons, ApiType.bulks_map r]
theorem ApiType.row_len (x : ApiType) : (ApiType.row x).length = 7 := rfl
theorem ApiType.rd : ∀ fuel, Rd enc Tryz.prog W Rows.uptoBulk fuel 48 ApiType.row ApiType.bulk := by
  intro fuel
  induction fuel using Nat.strongRecOn with
  | ind fuel ih =>
  have F := fun n (hn : n < fuel) => FRd.cons (enc := enc) (W := W) (off := 0) (fd := (⟨"Kind", 44, 0, false, "", "", 0⟩ : Field)) (Rd.int (fuel := n) meas u44) rfl c44 (fun _ => rfl) (FRd.cons (fd := (⟨"Low", 3, 1, false, "", "", 8⟩ : Field)) (Rd.int meas u3) rfl c3 (fun _ => rfl) (FRd.cons (fd := (⟨"High", 3, 2, false, "", "", 16⟩ : Field)) (Rd.int meas u3) rfl c3 (fun _ => rfl) (FRd.cons (fd := (⟨"Size", 3, 3, false, "", "", 24⟩ : Field)) (Rd.int meas u3) rfl c3 (fun _ => rfl) (FRd.cons (fd := (⟨"Name", 9, 4, false, "", "", 32⟩ : Field)) (Rd.str meas u9) rfl c9 (fun _ => rfl) (FRd.cons (fd := (⟨"Names", 45, 5, false, "", "", 48⟩ : Field)) (Rd.sl meas (f := fun s : Str => [D.str s]) (bk := fun s => s.length + 1) u45 c9 (Nat.le_refl _) (fun _ => rfl) (fun _ _ => Rd.str meas u9)) rfl c45 (fun _ => rfl) (FRd.cons (fd := (⟨"Of", 46, 6, false, "", "", 72⟩ : Field)) (Rd.sl meas (f := ApiType.row) (bk := ApiType.bulk) u46 c48 (by omega) ApiType.row_len (fun m hm => ih m (by omega))) rfl c46 (fun _ => rfl) FRd.nil))))))
  exact Rd.st meas Tryz.underlying48 rfl c48 ApiType.row_len F (fun p => ApiType.mk p.1 p.2.1 p.2.2.1 p.2.2.2.1 p.2.2.2.2.1 p.2.2.2.2.2.1 p.2.2.2.2.2.2.1) (fun x => by simp [ApiType.row, ApiType.rows_map, estr.rows, estr.row, ei64.rows, ei64.row]) (fun x => by simp [ApiType.bulk, ApiType.bulks_map])
theorem ApiExpr.bulks_map : ∀ l : List ApiExpr, ApiExpr.bulks l = (l.map ApiExpr.bulk).sum
  | [] => rfl
  | x :: r => by simp only [ApiExpr.bulks, List.map_cons, List.sum_cons, ApiExpr.bulks_map r]
theorem ApiExpr.row_len (x : ApiExpr) : (ApiExpr.row x).length = 4 := rfl
theorem ApiExpr.rd : ∀ fuel, Rd enc Tryz.prog W Rows.uptoBulk fuel 36 ApiExpr.row ApiExpr.bulk := by
  intro fuel
  induction fuel using Nat.strongRecOn with
  | ind fuel ih =>
  have F := fun n (hn : n < fuel) => FRd.cons (enc := enc) (W := W) (off := 0) (fd := (⟨"Op", 33, 0, false, "", "", 0⟩ : Field)) (Rd.int (fuel := n) meas u33) rfl c33 (fun _ => rfl) (FRd.cons (fd := (⟨"N", 3, 1, false, "", "", 8⟩ : Field)) (Rd.int meas u3) rfl c3 (fun _ => rfl) (FRd.cons (fd := (⟨"Name", 9, 2, false, "", "", 16⟩ : Field)) (Rd.str meas u9) rfl c9 (fun _ => rfl) (FRd.cons (fd := (⟨"Kids", 34, 3, false, "", "", 32⟩ : Field)) (Rd.sl meas (f := ApiExpr.row) (bk := ApiExpr.bulk) u34 c36 (by omega) ApiExpr.row_len (fun m hm => ih m (by omega))) rfl c34 (fun _ => rfl) FRd.nil)))
  exact Rd.st meas Tryz.underlying36 rfl c36 ApiExpr.row_len F (fun p => ApiExpr.mk p.1 p.2.1 p.2.2.1 p.2.2.2.1) (fun x => by simp [ApiExpr.row, ApiType.rows_map, ApiExpr.rows_map, estr.rows, estr.row, ei64.rows, ei64.row]) (fun x => by simp [ApiExpr.bulk, ApiExpr.bulks_map])
theorem ApiStmt.bulks_map : ∀ l : List ApiStmt, ApiStmt.bulks l = (l.map ApiStmt.bulk).sum
  | [] => rfl
  | x :: r => by simp only [ApiStmt.bulks, List.map_cons, List.sum_cons, ApiStmt.bulks_map r]
theorem ApiStmt.row_len (x : ApiStmt) : (ApiStmt.row x).length = 17 := rfl
theorem ApiStmt.rd : ∀ fuel, Rd enc Tryz.prog W Rows.uptoBulk fuel 68 ApiStmt.row ApiStmt.bulk := by
  intro fuel
  induction fuel using Nat.strongRecOn with
  | ind fuel ih =>
  have F := fun n (hn : n < fuel) => FRd.cons (enc := enc) (W := W) (off := 0) (fd := (⟨"Verb", 65, 0, false, "", "", 0⟩ : Field)) (Rd.int (fuel := n) meas u65) rfl c65 (fun _ => rfl) (FRd.cons (fd := (⟨"Place", 36, 1, false, "", "", 8⟩ : Field)) (ApiExpr.rd _) rfl c36 (fun _ => rfl) (FRd.cons (fd := (⟨"Value", 36, 5, false, "", "", 64⟩ : Field)) (ApiExpr.rd _) rfl c36 (fun _ => rfl) (FRd.cons (fd := (⟨"Name", 9, 9, false, "", "", 120⟩ : Field)) (Rd.str meas u9) rfl c9 (fun _ => rfl) (FRd.cons (fd := (⟨"Args", 34, 10, false, "", "", 136⟩ : Field)) (Rd.sl meas (f := ApiExpr.row) (bk := ApiExpr.bulk) u34 c36 (by omega) ApiExpr.row_len (fun m hm => ApiExpr.rd m)) rfl c34 (fun _ => rfl) (FRd.cons (fd := (⟨"N", 3, 11, false, "", "", 160⟩ : Field)) (Rd.int meas u3) rfl c3 (fun _ => rfl) (FRd.cons (fd := (⟨"Low", 3, 12, false, "", "", 168⟩ : Field)) (Rd.int meas u3) rfl c3 (fun _ => rfl) (FRd.cons (fd := (⟨"High", 3, 13, false, "", "", 176⟩ : Field)) (Rd.int meas u3) rfl c3 (fun _ => rfl) (FRd.cons (fd := (⟨"Numbers", 66, 14, false, "", "", 184⟩ : Field)) (Rd.sl meas (f := fun n : Int => [D.int .i64 n]) (bk := fun _ => 1) u66 c3 (Nat.le_refl _) (fun _ => rfl) (fun _ _ => Rd.int meas u3)) rfl c66 (fun _ => rfl) (FRd.cons (fd := (⟨"Then", 23, 15, false, "", "", 208⟩ : Field)) (Rd.sl meas (f := ApiStmt.row) (bk := ApiStmt.bulk) u23 c68 (by omega) ApiStmt.row_len (fun m hm => ih m (by omega))) rfl c23 (fun _ => rfl) (FRd.cons (fd := (⟨"Else", 23, 16, false, "", "", 232⟩ : Field)) (Rd.sl meas (f := ApiStmt.row) (bk := ApiStmt.bulk) u23 c68 (by omega) ApiStmt.row_len (fun m hm => ih m (by omega))) rfl c23 (fun _ => rfl) FRd.nil))))))))))
  exact Rd.st meas Tryz.underlying68 rfl c68 ApiStmt.row_len F (fun p => ApiStmt.mk p.1 p.2.1 p.2.2.1 p.2.2.2.1 p.2.2.2.2.1 p.2.2.2.2.2.1 p.2.2.2.2.2.2.1 p.2.2.2.2.2.2.2.1 p.2.2.2.2.2.2.2.2.1 p.2.2.2.2.2.2.2.2.2.1 p.2.2.2.2.2.2.2.2.2.2.1) (fun x => by simp [ApiStmt.row, ApiExpr.row, ApiType.rows_map, ApiExpr.rows_map, ApiStmt.rows_map, estr.rows, estr.row, ei64.rows, ei64.row]) (fun x => by simp [ApiStmt.bulk, ApiExpr.bulks_map, ApiStmt.bulks_map])
theorem ApiDecl.bulks_map : ∀ l : List ApiDecl, ApiDecl.bulks l = (l.map ApiDecl.bulk).sum
  | [] => rfl
  | x :: r => by simp only [ApiDecl.bulks, List.map_cons, List.sum_cons, ApiDecl.bulks_map r]
theorem ApiDecl.row_len (x : ApiDecl) : (ApiDecl.row x).length = 17 := rfl
theorem ApiDecl.rd : ∀ fuel, Rd enc Tryz.prog W Rows.uptoBulk fuel 64 ApiDecl.row ApiDecl.bulk := by
  intro fuel
  induction fuel using Nat.strongRecOn with
  | ind fuel ih =>
  have F := fun n (hn : n < fuel) => FRd.cons (enc := enc) (W := W) (off := 0) (fd := (⟨"Kind", 62, 0, false, "", "", 0⟩ : Field)) (Rd.int (fuel := n) meas u62) rfl c62 (fun _ => rfl) (FRd.cons (fd := (⟨"Name", 9, 1, false, "", "", 8⟩ : Field)) (Rd.str meas u9) rfl c9 (fun _ => rfl) (FRd.cons (fd := (⟨"Type", 48, 2, false, "", "", 24⟩ : Field)) (ApiType.rd _) rfl c48 (fun _ => rfl) (FRd.cons (fd := (⟨"Init", 3, 9, false, "", "", 120⟩ : Field)) (Rd.int meas u3) rfl c3 (fun _ => rfl) (FRd.cons (fd := (⟨"Value", 36, 10, false, "", "", 128⟩ : Field)) (ApiExpr.rd _) rfl c36 (fun _ => rfl) (FRd.cons (fd := (⟨"Params", 22, 14, false, "", "", 184⟩ : Field)) (Rd.sl meas (f := ApiDecl.row) (bk := ApiDecl.bulk) u22 c64 (by omega) ApiDecl.row_len (fun m hm => ih m (by omega))) rfl c22 (fun _ => rfl) (FRd.cons (fd := (⟨"Vars", 22, 15, false, "", "", 208⟩ : Field)) (Rd.sl meas (f := ApiDecl.row) (bk := ApiDecl.bulk) u22 c64 (by omega) ApiDecl.row_len (fun m hm => ih m (by omega))) rfl c22 (fun _ => rfl) (FRd.cons (fd := (⟨"Body", 23, 16, false, "", "", 232⟩ : Field)) (Rd.sl meas (f := ApiStmt.row) (bk := ApiStmt.bulk) u23 c68 (by omega) ApiStmt.row_len (fun m hm => ApiStmt.rd m)) rfl c23 (fun _ => rfl) FRd.nil)))))))
  exact Rd.st meas Tryz.underlying64 rfl c64 ApiDecl.row_len F (fun p => ApiDecl.mk p.1 p.2.1 p.2.2.1 p.2.2.2.1 p.2.2.2.2.1 p.2.2.2.2.2.1 p.2.2.2.2.2.2.1 p.2.2.2.2.2.2.2.1) (fun x => by simp [ApiDecl.row, ApiExpr.row, ApiStmt.row, ApiType.row, ApiType.rows_map, ApiExpr.rows_map, ApiStmt.rows_map, ApiDecl.rows_map, estr.rows, estr.row, ei64.rows, ei64.row]) (fun x => by simp [ApiDecl.bulk, ApiDecl.bulks_map, ApiExpr.bulks_map, ApiStmt.bulks_map, ApiType.bulks_map])
theorem ApiProgram.bulks_map : ∀ l : List ApiProgram, ApiProgram.bulks l = (l.map ApiProgram.bulk).sum
  | [] => rfl
  | x :: r => by simp only [ApiProgram.bulks, List.map_cons, List.sum_cons, ApiProgram.bulks_map r]
theorem ApiProgram.row_len (x : ApiProgram) : (ApiProgram.row x).length = 2 := rfl
theorem ApiProgram.rd : ∀ fuel, Rd enc Tryz.prog W Rows.uptoBulk fuel 25 ApiProgram.row ApiProgram.bulk := by
  intro fuel
  induction fuel using Nat.strongRecOn with
  | ind fuel ih =>
  have F := fun n (hn : n < fuel) => FRd.cons (enc := enc) (W := W) (off := 0) (fd := (⟨"Decls", 22, 0, false, "", "", 0⟩ : Field)) (Rd.sl (fuel := n) meas (f := ApiDecl.row) (bk := ApiDecl.bulk) u22 c64 (by omega) ApiDecl.row_len (fun m hm => ApiDecl.rd m)) rfl c22 (fun _ => rfl) (FRd.cons (fd := (⟨"Body", 23, 1, false, "", "", 24⟩ : Field)) (Rd.sl meas (f := ApiStmt.row) (bk := ApiStmt.bulk) u23 c68 (by omega) ApiStmt.row_len (fun m hm => ApiStmt.rd m)) rfl c23 (fun _ => rfl) FRd.nil)
  exact Rd.st meas Tryz.underlying25 rfl c25 ApiProgram.row_len F (fun p => ApiProgram.mk p.1 p.2.1) (fun x => by simp [ApiProgram.row, ApiDecl.row, ApiStmt.row, ApiType.rows_map, ApiExpr.rows_map, ApiStmt.rows_map, ApiDecl.rows_map, ApiProgram.rows_map, estr.rows, estr.row, ei64.rows, ei64.row]) (fun x => by simp [ApiProgram.bulk, ApiDecl.bulks_map, ApiStmt.bulks_map])
end
def PlainT (t : TypeId) : Prop := t ∈ [62, 9, 44, 3, 45, 46, 48, 33, 34, 36, 65, 66, 68, 23, 64, 22, 25, 4]
theorem plainT_ok : Plain Tryz.prog PlainT := by
  intro t ht
  simp only [PlainT, List.mem_cons, List.not_mem_nil, or_false] at ht
  rcases ht with rfl | rfl | rfl | rfl | rfl | rfl | rfl | rfl | rfl | rfl | rfl | rfl | rfl | rfl | rfl | rfl | rfl | rfl
  · exact .inr (.inl ⟨_, u62⟩)
  · exact .inr (.inr (.inl u9))
  · exact .inr (.inl ⟨_, u44⟩)
  · exact .inr (.inl ⟨_, u3⟩)
  · exact .inr (.inr (.inr (.inl ⟨_, u45, by simp [PlainT], by rw [c9]; omega⟩)))
  · exact .inr (.inr (.inr (.inl ⟨_, u46, by simp [PlainT], by rw [c48]; omega⟩)))
  · refine .inr (.inr (.inr (.inr ⟨_, Tryz.underlying48, fun f hf => ?_⟩)))
    simp at hf
    rcases hf with rfl | rfl | rfl | rfl | rfl | rfl | rfl <;> simp [PlainT]
  · exact .inr (.inl ⟨_, u33⟩)
  · exact .inr (.inr (.inr (.inl ⟨_, u34, by simp [PlainT], by rw [c36]; omega⟩)))
  · refine .inr (.inr (.inr (.inr ⟨_, Tryz.underlying36, fun f hf => ?_⟩)))
    simp at hf
    rcases hf with rfl | rfl | rfl | rfl <;> simp [PlainT]
  · exact .inr (.inl ⟨_, u65⟩)
  · exact .inr (.inr (.inr (.inl ⟨_, u66, by simp [PlainT], by rw [c3]; omega⟩)))
  · refine .inr (.inr (.inr (.inr ⟨_, Tryz.underlying68, fun f hf => ?_⟩)))
    simp at hf
    rcases hf with rfl | rfl | rfl | rfl | rfl | rfl | rfl | rfl | rfl | rfl | rfl <;> simp [PlainT]
  · exact .inr (.inr (.inr (.inl ⟨_, u23, by simp [PlainT], by rw [c68]; omega⟩)))
  · refine .inr (.inr (.inr (.inr ⟨_, Tryz.underlying64, fun f hf => ?_⟩)))
    simp at hf
    rcases hf with rfl | rfl | rfl | rfl | rfl | rfl | rfl | rfl <;> simp [PlainT]
  · exact .inr (.inr (.inr (.inl ⟨_, u22, by simp [PlainT], by rw [c64]; omega⟩)))
  · refine .inr (.inr (.inr (.inr ⟨_, Tryz.underlying25, fun f hf => ?_⟩)))
    simp at hf
    rcases hf with rfl | rfl <;> simp [PlainT]
  · exact .inl u4
end Go.Proofs.YtmilgoloagbmpaaGreatDoor

namespace Go.Proofs.YtmilgoloagbmpaaGreatDoor
open Go.Am Go.ChangeShapes Go.WideShapes Go.ChangeAt Go.RowKit
theorem own : ownKnob Tryz.prog.godebug = none := by kernel_rfl
def laidL : List (String × DataW Unit) := [("math/bits.deBruijn32tab", Rows.laid_math_bits_deBruijn32tab), ("math/bits.deBruijn64tab", Rows.laid_math_bits_deBruijn64tab), ("internal/strconv.uint64pow10", Rows.laid_internal_strconv_uint64pow10), ("keyhole/syntax.signs", Rows.laid_keyhole_syntax_signs)]
theorem laid_of {W : World} (h : laidMetH Tryz.prog laidL W) : laidMet Tryz.prog laidL W := h
theorem glOk {W : World} (h : W.ShapedOpen Tryz.prog) (hL : laidMet Tryz.prog laidL W) : GlOk C (memOf W) W := by
  obtain ⟨m, hm⟩ := cell_of_shapedOpen_int (g := 2) (zero := #[.int .i64 0]) (t := 3) h (of_decide_eq_true (by kernel_rfl)) (by kernel_rfl) rfl (by kernel_rfl) (by kernel_rfl) Tryz.underlying3
  obtain ⟨h10, hm10⟩ := tab_of_laid hL 2 (name := "internal/strconv.uint64pow10") (k := .u64) (zs := Lib.pow10Tab) rfl (g := 1) (t := 213) (e := 198) (n := 20) (by kernel_rfl) (by kernel_rfl) (by kernel_rfl) (by kernel_rfl) (by kernel_rfl) (by kernel_rfl)
  refine { tab := fun G g cs e => ?_, gp := ⟨⟨m, (memOf_cell hm).1⟩, hm10, h10⟩ }
  have e' : (bif Nat.beq 0 g then some (tab_signs.map D.str) else none) = some cs := e
  cases hb : Nat.beq 0 g with
  | false => rw [hb] at e'; cases e'
  | true =>
    obtain rfl := Nat.eq_of_beq_eq_true hb
    rw [hb] at e'
    cases e'
    exact stab_of_laid hL 3 (name := "keyhole/syntax.signs") (zs := tab_signs) rfl (g := 0) (t := 171) (e := 9) (n := 13) (by kernel_rfl) (by kernel_rfl) (by kernel_rfl) (by kernel_rfl) (by kernel_rfl) (by kernel_rfl)
/-- a world for the witness -/
def laidCells : DataW Unit → Array Value
  | .agg l => (l.map fun
      | .lit (.int k n) => .int k n
      | .lit (.string s) => .string ⟨s.toArray⟩
      | _ => .bool false).toArray
  | _ => #[]
def laidPut (d : DataW Unit) : Obj → Obj
  | .cells _ t frozen => .cells (laidCells d) t frozen
  | o => o
noncomputable def laidWorld (os : Os) : World :=
  { World.holding Tryz.prog os ⟨#[], #[], []⟩ with heap := (((((World.holding Tryz.prog os ⟨#[], #[], []⟩).heap.modify 3 (laidPut Rows.laid_math_bits_deBruijn32tab)).modify 4 (laidPut Rows.laid_math_bits_deBruijn64tab)).modify 1 (laidPut Rows.laid_internal_strconv_uint64pow10)).modify 0 (laidPut Rows.laid_keyhole_syntax_signs)) }
def zv9 : _root_.Go.Value := .string ⟨#[]⟩
def zr9 {H : Type} : DataW H := .lit (.string [])
def zv25 : _root_.Go.Value := .agg #[.slice none 0 0, .slice none 0 0]
def zr25 {H : Type} : DataW H := .agg [.nil, .nil]
def zv36 : _root_.Go.Value := .agg #[.int .i64 0, .int .i64 0, .string ⟨#[]⟩, .slice none 0 0]
def zr36 {H : Type} : DataW H := .agg [.lit (.int .i64 0), .lit (.int .i64 0), .lit (.string []), .nil]
def zv48 : _root_.Go.Value := .agg #[.int .i64 0, .int .i64 0, .int .i64 0, .int .i64 0, .string ⟨#[]⟩, .slice none 0 0, .slice none 0 0]
def zr48 {H : Type} : DataW H := .agg [.lit (.int .i64 0), .lit (.int .i64 0), .lit (.int .i64 0), .lit (.int .i64 0), .lit (.string []), .nil, .nil]
end Go.Proofs.YtmilgoloagbmpaaGreatDoor

