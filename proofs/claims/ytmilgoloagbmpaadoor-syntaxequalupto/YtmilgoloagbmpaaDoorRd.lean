/- A part of the proof of SyntaxEqual. -/
import Derived.Test.YtmilgoloagbmpaaDoorRows
import Derived.Test.YtmilgoloagbmpaaDoorPlA
import Derived.ProofKit
import Derived.OpenShut
import Derived.Deep.DeepHandedRow
import Derived.Lib.LaidTab
import Derived.Test.YtmilgoloagbmpaaDoorCards
import Derived.Test.YtmilgoloagbmpaaDoorTie
import Derived.WalkKit
import Derived.HandedShaped
set_option linter.unusedSimpArgs false
set_option linter.unusedVariables false
set_option maxRecDepth 10000
namespace Go.Proofs.YtmilgoloagbmpaaDoor
open Go.Am Go.ChangeShapes Go.WideShapes Go.ChangeAt Go.RowKit
theorem bulkAll_sum {H : Type} : ∀ l : List (DataW H), Rows.uptoBulkAll l = (l.map Rows.uptoBulk).sum
  | [] => rfl
  | x :: r => by simp only [Rows.uptoBulkAll, List.map_cons, List.sum_cons, bulkAll_sum r]
theorem meas {H : Type} : Meas (Rows.uptoBulk (H := H)) where
  lit l := by cases l <;> simp [Rows.uptoBulk]
  str s := by simp [Rows.uptoBulk]
  nil := by simp [Rows.uptoBulk]
  sl es sp := by simp only [Rows.uptoBulk, bulkAll_sum]; omega
  agg ps := by simp only [Rows.uptoBulk, bulkAll_sum]; omega
section
variable {H : Type} {enc : TypeId × _root_.Go.Value → H} {W : World}
theorem c22 : Tryd.prog.cellsOf 22 = 1 := by kernel_rfl
theorem c3 : Tryd.prog.cellsOf 3 = 1 := by kernel_rfl
theorem c9 : Tryd.prog.cellsOf 9 = 1 := by kernel_rfl
theorem c23 : Tryd.prog.cellsOf 23 = 1 := by kernel_rfl
theorem c25 : Tryd.prog.cellsOf 25 = 4 := by kernel_rfl
theorem c48 : Tryd.prog.cellsOf 48 = 1 := by kernel_rfl
theorem c49 : Tryd.prog.cellsOf 49 = 1 := by kernel_rfl
theorem c50 : Tryd.prog.cellsOf 50 = 1 := by kernel_rfl
theorem c51 : Tryd.prog.cellsOf 51 = 1 := by kernel_rfl
theorem c53 : Tryd.prog.cellsOf 53 = 7 := by kernel_rfl
theorem c37 : Tryd.prog.cellsOf 37 = 1 := by kernel_rfl
theorem c38 : Tryd.prog.cellsOf 38 = 1 := by kernel_rfl
theorem c40 : Tryd.prog.cellsOf 40 = 17 := by kernel_rfl
theorem c31 : Tryd.prog.cellsOf 31 = 1 := by kernel_rfl
theorem c55 : Tryd.prog.cellsOf 55 = 17 := by kernel_rfl
theorem c30 : Tryd.prog.cellsOf 30 = 1 := by kernel_rfl
theorem c33 : Tryd.prog.cellsOf 33 = 2 := by kernel_rfl
theorem u22 : Tryd.prog.underlying 22 = some (.int .i64) := by kernel_rfl
theorem u3 : Tryd.prog.underlying 3 = some (.int .i64) := by kernel_rfl
theorem u9 : Tryd.prog.underlying 9 = some .string := by kernel_rfl
theorem u23 : Tryd.prog.underlying 23 = some (.slice 25) := by kernel_rfl
theorem u48 : Tryd.prog.underlying 48 = some (.int .i64) := by kernel_rfl
theorem u49 : Tryd.prog.underlying 49 = some (.int .i64) := by kernel_rfl
theorem u50 : Tryd.prog.underlying 50 = some (.slice 9) := by kernel_rfl
theorem u51 : Tryd.prog.underlying 51 = some (.slice 53) := by kernel_rfl
theorem u37 : Tryd.prog.underlying 37 = some (.int .i64) := by kernel_rfl
theorem u38 : Tryd.prog.underlying 38 = some (.slice 3) := by kernel_rfl
theorem u31 : Tryd.prog.underlying 31 = some (.slice 40) := by kernel_rfl
theorem u30 : Tryd.prog.underlying 30 = some (.slice 55) := by kernel_rfl
theorem u4 : Tryd.prog.underlying 4 = some .bool := by kernel_rfl
theorem ApiExpr.bulks_map : ∀ l : List ApiExpr, ApiExpr.bulks l = (l.map ApiExpr.bulk).sum
  | [] => rfl
  | x :: r => by simp only [ApiExpr.bulks, List.map_cons, List.sum_cons, ApiExpr.bulks_map r]
theorem ApiExpr.row_len (x : ApiExpr) : (ApiExpr.row x).length = 4 := rfl
theorem ApiExpr.rd : ∀ fuel, Rd enc Tryd.prog W Rows.uptoBulk fuel 25 ApiExpr.row ApiExpr.bulk := by
  intro fuel
  induction fuel using Nat.strongRecOn with
  | ind fuel ih =>
  have F := fun n (hn : n < fuel) => FRd.cons (enc := enc) (W := W) (off := 0) (fd := (⟨"Op", 22, 0, false, "", "", 0⟩ : Field)) (Rd.int (fuel := n) meas u22) rfl c22 (fun _ => rfl) (FRd.cons (fd := (⟨"N", 3, 1, false, "", "", 8⟩ : Field)) (Rd.int meas u3) rfl c3 (fun _ => rfl) (FRd.cons (fd := (⟨"Name", 9, 2, false, "", "", 16⟩ : Field)) (Rd.str meas u9) rfl c9 (fun _ => rfl) (FRd.cons (fd := (⟨"Kids", 23, 3, false, "", "", 32⟩ : Field)) (Rd.sl meas (f := ApiExpr.row) (bk := ApiExpr.bulk) u23 c25 (by omega) ApiExpr.row_len (fun m hm => ih m (by omega))) rfl c23 (fun _ => rfl) FRd.nil)))
  exact Rd.st meas Tryd.underlying25 rfl c25 ApiExpr.row_len F (fun p => ApiExpr.mk p.1 p.2.1 p.2.2.1 p.2.2.2.1) (fun x => by simp [ApiExpr.row, ApiExpr.rows_map, estr.rows, estr.row, ei64.rows, ei64.row]) (fun x => by simp [ApiExpr.bulk, ApiExpr.bulks_map])
theorem ApiType.bulks_map : ∀ l : List ApiType, ApiType.bulks l = (l.map ApiType.bulk).sum
  | [] => rfl
  | x :: r => by simp only [ApiType.bulks, List.map_cons, List.sum_cons, ApiType.bulks_map r]
theorem ApiType.row_len (x : ApiType) : (ApiType.row x).length = 7 := rfl
theorem ApiType.rd : ∀ fuel, Rd enc Tryd.prog W Rows.uptoBulk fuel 53 ApiType.row ApiType.bulk := by
  intro fuel
  induction fuel using Nat.strongRecOn with
  | ind fuel ih =>
  have F := fun n (hn : n < fuel) => FRd.cons (enc := enc) (W := W) (off := 0) (fd := (⟨"Kind", 49, 0, false, "", "", 0⟩ : Field)) (Rd.int (fuel := n) meas u49) rfl c49 (fun _ => rfl) (FRd.cons (fd := (⟨"Low", 3, 1, false, "", "", 8⟩ : Field)) (Rd.int meas u3) rfl c3 (fun _ => rfl) (FRd.cons (fd := (⟨"High", 3, 2, false, "", "", 16⟩ : Field)) (Rd.int meas u3) rfl c3 (fun _ => rfl) (FRd.cons (fd := (⟨"Size", 3, 3, false, "", "", 24⟩ : Field)) (Rd.int meas u3) rfl c3 (fun _ => rfl) (FRd.cons (fd := (⟨"Name", 9, 4, false, "", "", 32⟩ : Field)) (Rd.str meas u9) rfl c9 (fun _ => rfl) (FRd.cons (fd := (⟨"Names", 50, 5, false, "", "", 48⟩ : Field)) (Rd.sl meas (f := fun s : Str => [D.str s]) (bk := fun s => s.length + 1) u50 c9 (Nat.le_refl _) (fun _ => rfl) (fun _ _ => Rd.str meas u9)) rfl c50 (fun _ => rfl) (FRd.cons (fd := (⟨"Of", 51, 6, false, "", "", 72⟩ : Field)) (Rd.sl meas (f := ApiType.row) (bk := ApiType.bulk) u51 c53 (by omega) ApiType.row_len (fun m hm => ih m (by omega))) rfl c51 (fun _ => rfl) FRd.nil))))))
  exact Rd.st meas Tryd.underlying53 rfl c53 ApiType.row_len F (fun p => ApiType.mk p.1 p.2.1 p.2.2.1 p.2.2.2.1 p.2.2.2.2.1 p.2.2.2.2.2.1 p.2.2.2.2.2.2.1) (fun x => by simp [ApiType.row, ApiExpr.rows_map, ApiType.rows_map, estr.rows, estr.row, ei64.rows, ei64.row]) (fun x => by simp [ApiType.bulk, ApiType.bulks_map])
theorem ApiStmt.bulks_map : ∀ l : List ApiStmt, ApiStmt.bulks l = (l.map ApiStmt.bulk).sum
  | [] => rfl
  | x :: r => by simp only [ApiStmt.bulks, List.map_cons, List.sum_cons, ApiStmt.bulks_map r]
theorem ApiStmt.row_len (x : ApiStmt) : (ApiStmt.row x).length = 17 := rfl
theorem ApiStmt.rd : ∀ fuel, Rd enc Tryd.prog W Rows.uptoBulk fuel 40 ApiStmt.row ApiStmt.bulk := by
  intro fuel
  induction fuel using Nat.strongRecOn with
  | ind fuel ih =>
  have F := fun n (hn : n < fuel) => FRd.cons (enc := enc) (W := W) (off := 0) (fd := (⟨"Verb", 37, 0, false, "", "", 0⟩ : Field)) (Rd.int (fuel := n) meas u37) rfl c37 (fun _ => rfl) (FRd.cons (fd := (⟨"Place", 25, 1, false, "", "", 8⟩ : Field)) (ApiExpr.rd _) rfl c25 (fun _ => rfl) (FRd.cons (fd := (⟨"Value", 25, 5, false, "", "", 64⟩ : Field)) (ApiExpr.rd _) rfl c25 (fun _ => rfl) (FRd.cons (fd := (⟨"Name", 9, 9, false, "", "", 120⟩ : Field)) (Rd.str meas u9) rfl c9 (fun _ => rfl) (FRd.cons (fd := (⟨"Args", 23, 10, false, "", "", 136⟩ : Field)) (Rd.sl meas (f := ApiExpr.row) (bk := ApiExpr.bulk) u23 c25 (by omega) ApiExpr.row_len (fun m hm => ApiExpr.rd m)) rfl c23 (fun _ => rfl) (FRd.cons (fd := (⟨"N", 3, 11, false, "", "", 160⟩ : Field)) (Rd.int meas u3) rfl c3 (fun _ => rfl) (FRd.cons (fd := (⟨"Low", 3, 12, false, "", "", 168⟩ : Field)) (Rd.int meas u3) rfl c3 (fun _ => rfl) (FRd.cons (fd := (⟨"High", 3, 13, false, "", "", 176⟩ : Field)) (Rd.int meas u3) rfl c3 (fun _ => rfl) (FRd.cons (fd := (⟨"Numbers", 38, 14, false, "", "", 184⟩ : Field)) (Rd.sl meas (f := fun n : Int => [D.int .i64 n]) (bk := fun _ => 1) u38 c3 (Nat.le_refl _) (fun _ => rfl) (fun _ _ => Rd.int meas u3)) rfl c38 (fun _ => rfl) (FRd.cons (fd := (⟨"Then", 31, 15, false, "", "", 208⟩ : Field)) (Rd.sl meas (f := ApiStmt.row) (bk := ApiStmt.bulk) u31 c40 (by omega) ApiStmt.row_len (fun m hm => ih m (by omega))) rfl c31 (fun _ => rfl) (FRd.cons (fd := (⟨"Else", 31, 16, false, "", "", 232⟩ : Field)) (Rd.sl meas (f := ApiStmt.row) (bk := ApiStmt.bulk) u31 c40 (by omega) ApiStmt.row_len (fun m hm => ih m (by omega))) rfl c31 (fun _ => rfl) FRd.nil))))))))))
  exact Rd.st meas Tryd.underlying40 rfl c40 ApiStmt.row_len F (fun p => ApiStmt.mk p.1 p.2.1 p.2.2.1 p.2.2.2.1 p.2.2.2.2.1 p.2.2.2.2.2.1 p.2.2.2.2.2.2.1 p.2.2.2.2.2.2.2.1 p.2.2.2.2.2.2.2.2.1 p.2.2.2.2.2.2.2.2.2.1 p.2.2.2.2.2.2.2.2.2.2.1) (fun x => by simp [ApiStmt.row, ApiExpr.row, ApiExpr.rows_map, ApiType.rows_map, ApiStmt.rows_map, estr.rows, estr.row, ei64.rows, ei64.row]) (fun x => by simp [ApiStmt.bulk, ApiExpr.bulks_map, ApiStmt.bulks_map])
theorem ApiDecl.bulks_map : ∀ l : List ApiDecl, ApiDecl.bulks l = (l.map ApiDecl.bulk).sum
  | [] => rfl
  | x :: r => by simp only [ApiDecl.bulks, List.map_cons, List.sum_cons, ApiDecl.bulks_map r]
theorem ApiDecl.row_len (x : ApiDecl) : (ApiDecl.row x).length = 17 := rfl
theorem ApiDecl.rd : ∀ fuel, Rd enc Tryd.prog W Rows.uptoBulk fuel 55 ApiDecl.row ApiDecl.bulk := by
  intro fuel
  induction fuel using Nat.strongRecOn with
  | ind fuel ih =>
  have F := fun n (hn : n < fuel) => FRd.cons (enc := enc) (W := W) (off := 0) (fd := (⟨"Kind", 48, 0, false, "", "", 0⟩ : Field)) (Rd.int (fuel := n) meas u48) rfl c48 (fun _ => rfl) (FRd.cons (fd := (⟨"Name", 9, 1, false, "", "", 8⟩ : Field)) (Rd.str meas u9) rfl c9 (fun _ => rfl) (FRd.cons (fd := (⟨"Type", 53, 2, false, "", "", 24⟩ : Field)) (ApiType.rd _) rfl c53 (fun _ => rfl) (FRd.cons (fd := (⟨"Init", 3, 9, false, "", "", 120⟩ : Field)) (Rd.int meas u3) rfl c3 (fun _ => rfl) (FRd.cons (fd := (⟨"Value", 25, 10, false, "", "", 128⟩ : Field)) (ApiExpr.rd _) rfl c25 (fun _ => rfl) (FRd.cons (fd := (⟨"Params", 30, 14, false, "", "", 184⟩ : Field)) (Rd.sl meas (f := ApiDecl.row) (bk := ApiDecl.bulk) u30 c55 (by omega) ApiDecl.row_len (fun m hm => ih m (by omega))) rfl c30 (fun _ => rfl) (FRd.cons (fd := (⟨"Vars", 30, 15, false, "", "", 208⟩ : Field)) (Rd.sl meas (f := ApiDecl.row) (bk := ApiDecl.bulk) u30 c55 (by omega) ApiDecl.row_len (fun m hm => ih m (by omega))) rfl c30 (fun _ => rfl) (FRd.cons (fd := (⟨"Body", 31, 16, false, "", "", 232⟩ : Field)) (Rd.sl meas (f := ApiStmt.row) (bk := ApiStmt.bulk) u31 c40 (by omega) ApiStmt.row_len (fun m hm => ApiStmt.rd m)) rfl c31 (fun _ => rfl) FRd.nil)))))))
  exact Rd.st meas Tryd.underlying55 rfl c55 ApiDecl.row_len F (fun p => ApiDecl.mk p.1 p.2.1 p.2.2.1 p.2.2.2.1 p.2.2.2.2.1 p.2.2.2.2.2.1 p.2.2.2.2.2.2.1 p.2.2.2.2.2.2.2.1) (fun x => by simp [ApiDecl.row, ApiExpr.row, ApiStmt.row, ApiType.row, ApiExpr.rows_map, ApiType.rows_map, ApiStmt.rows_map, ApiDecl.rows_map, estr.rows, estr.row, ei64.rows, ei64.row]) (fun x => by simp [ApiDecl.bulk, ApiDecl.bulks_map, ApiExpr.bulks_map, ApiStmt.bulks_map, ApiType.bulks_map])
theorem ApiProgram.bulks_map : ∀ l : List ApiProgram, ApiProgram.bulks l = (l.map ApiProgram.bulk).sum
  | [] => rfl
  | x :: r => by simp only [ApiProgram.bulks, List.map_cons, List.sum_cons, ApiProgram.bulks_map r]
theorem ApiProgram.row_len (x : ApiProgram) : (ApiProgram.row x).length = 2 := rfl
theorem ApiProgram.rd : ∀ fuel, Rd enc Tryd.prog W Rows.uptoBulk fuel 33 ApiProgram.row ApiProgram.bulk := by
  intro fuel
  induction fuel using Nat.strongRecOn with
  | ind fuel ih =>
  have F := fun n (hn : n < fuel) => FRd.cons (enc := enc) (W := W) (off := 0) (fd := (⟨"Decls", 30, 0, false, "", "", 0⟩ : Field)) (Rd.sl (fuel := n) meas (f := ApiDecl.row) (bk := ApiDecl.bulk) u30 c55 (by omega) ApiDecl.row_len (fun m hm => ApiDecl.rd m)) rfl c30 (fun _ => rfl) (FRd.cons (fd := (⟨"Body", 31, 1, false, "", "", 24⟩ : Field)) (Rd.sl meas (f := ApiStmt.row) (bk := ApiStmt.bulk) u31 c40 (by omega) ApiStmt.row_len (fun m hm => ApiStmt.rd m)) rfl c31 (fun _ => rfl) FRd.nil)
  exact Rd.st meas Tryd.underlying33 rfl c33 ApiProgram.row_len F (fun p => ApiProgram.mk p.1 p.2.1) (fun x => by simp [ApiProgram.row, ApiDecl.row, ApiStmt.row, ApiExpr.rows_map, ApiType.rows_map, ApiStmt.rows_map, ApiDecl.rows_map, ApiProgram.rows_map, estr.rows, estr.row, ei64.rows, ei64.row]) (fun x => by simp [ApiProgram.bulk, ApiDecl.bulks_map, ApiStmt.bulks_map])
end
def PlainT (t : TypeId) : Prop := t ∈ [22, 3, 9, 23, 25, 48, 49, 50, 51, 53, 37, 38, 40, 31, 55, 30, 33, 4]
theorem plainT_ok : Plain Tryd.prog PlainT := by
  intro t ht
  simp only [PlainT, List.mem_cons, List.not_mem_nil, or_false] at ht
  rcases ht with rfl | rfl | rfl | rfl | rfl | rfl | rfl | rfl | rfl | rfl | rfl | rfl | rfl | rfl | rfl | rfl | rfl | rfl
  · exact .inr (.inl ⟨_, u22⟩)
  · exact .inr (.inl ⟨_, u3⟩)
  · exact .inr (.inr (.inl u9))
  · exact .inr (.inr (.inr (.inl ⟨_, u23, by simp [PlainT], by rw [c25]; omega⟩)))
  · refine .inr (.inr (.inr (.inr ⟨_, Tryd.underlying25, fun f hf => ?_⟩)))
    simp at hf
    rcases hf with rfl | rfl | rfl | rfl <;> simp [PlainT]
  · exact .inr (.inl ⟨_, u48⟩)
  · exact .inr (.inl ⟨_, u49⟩)
  · exact .inr (.inr (.inr (.inl ⟨_, u50, by simp [PlainT], by rw [c9]; omega⟩)))
  · exact .inr (.inr (.inr (.inl ⟨_, u51, by simp [PlainT], by rw [c53]; omega⟩)))
  · refine .inr (.inr (.inr (.inr ⟨_, Tryd.underlying53, fun f hf => ?_⟩)))
    simp at hf
    rcases hf with rfl | rfl | rfl | rfl | rfl | rfl | rfl <;> simp [PlainT]
  · exact .inr (.inl ⟨_, u37⟩)
  · exact .inr (.inr (.inr (.inl ⟨_, u38, by simp [PlainT], by rw [c3]; omega⟩)))
  · refine .inr (.inr (.inr (.inr ⟨_, Tryd.underlying40, fun f hf => ?_⟩)))
    simp at hf
    rcases hf with rfl | rfl | rfl | rfl | rfl | rfl | rfl | rfl | rfl | rfl | rfl <;> simp [PlainT]
  · exact .inr (.inr (.inr (.inl ⟨_, u31, by simp [PlainT], by rw [c40]; omega⟩)))
  · refine .inr (.inr (.inr (.inr ⟨_, Tryd.underlying55, fun f hf => ?_⟩)))
    simp at hf
    rcases hf with rfl | rfl | rfl | rfl | rfl | rfl | rfl | rfl <;> simp [PlainT]
  · exact .inr (.inr (.inr (.inl ⟨_, u30, by simp [PlainT], by rw [c55]; omega⟩)))
  · refine .inr (.inr (.inr (.inr ⟨_, Tryd.underlying33, fun f hf => ?_⟩)))
    simp at hf
    rcases hf with rfl | rfl <;> simp [PlainT]
  · exact .inl u4
end Go.Proofs.YtmilgoloagbmpaaDoor

namespace Go.Proofs.YtmilgoloagbmpaaDoor
open Go.Am Go.ChangeShapes Go.WideShapes Go.ChangeAt Go.RowKit
theorem own : ownKnob Tryd.prog.godebug = none := by kernel_rfl
def laidL : List (String × DataW Unit) := [("math/bits.deBruijn32tab", Rows.laid_math_bits_deBruijn32tab), ("math/bits.deBruijn64tab", Rows.laid_math_bits_deBruijn64tab), ("internal/strconv.uint64pow10", Rows.laid_internal_strconv_uint64pow10), ("keyhole/syntax.signs", Rows.laid_keyhole_syntax_signs)]
theorem laid_of {W : World} (h : laidMetH Tryd.prog laidL W) : laidMet Tryd.prog laidL W := h
theorem glOk {W : World} (h : W.ShapedOpen Tryd.prog) (hL : laidMet Tryd.prog laidL W) : GlOk C (memOf W) W := by
  obtain ⟨m, hm⟩ := cell_of_shapedOpen_int (g := 1) (zero := #[.int .i64 0]) (t := 3) h (of_decide_eq_true (by kernel_rfl)) (by kernel_rfl) rfl (by kernel_rfl) (by kernel_rfl) Tryd.underlying3
  obtain ⟨h10, hm10⟩ := tab_of_laid hL 2 (name := "internal/strconv.uint64pow10") (k := .u64) (zs := Lib.pow10Tab) rfl (g := 2) (t := 142) (e := 133) (n := 20) (by kernel_rfl) (by kernel_rfl) (by kernel_rfl) (by kernel_rfl) (by kernel_rfl) (by kernel_rfl)
  refine { tab := fun G g cs e => ?_, gp := ⟨⟨m, (memOf_cell hm).1⟩, hm10, h10⟩ }
  have e' : (bif Nat.beq 0 g then some (tab_signs.map D.str) else none) = some cs := e
  cases hb : Nat.beq 0 g with
  | false => rw [hb] at e'; cases e'
  | true =>
    obtain rfl := Nat.eq_of_beq_eq_true hb
    rw [hb] at e'
    cases e'
    exact stab_of_laid hL 3 (name := "keyhole/syntax.signs") (zs := tab_signs) rfl (g := 0) (t := 117) (e := 9) (n := 13) (by kernel_rfl) (by kernel_rfl) (by kernel_rfl) (by kernel_rfl) (by kernel_rfl) (by kernel_rfl)
/-- a world for the witness -/
def laidCells : DataW Unit → Array Value
  | .agg l => (l.map fun
      | .lit (.int k n) => .int k n
      | .lit (.string s) => .string ⟨s.toArray⟩
      | _ => .bool false).toArray
  | _ => #[]
def laidPut (d : DataW Unit) : Obj → Obj
  | .cells _ t frozen => .cells (laidCells d) t frozen
  | o => o
noncomputable def laidWorld (os : Os) : World :=
  { World.holding Tryd.prog os ⟨#[], #[], []⟩ with heap := (((((World.holding Tryd.prog os ⟨#[], #[], []⟩).heap.modify 3 (laidPut Rows.laid_math_bits_deBruijn32tab)).modify 4 (laidPut Rows.laid_math_bits_deBruijn64tab)).modify 2 (laidPut Rows.laid_internal_strconv_uint64pow10)).modify 0 (laidPut Rows.laid_keyhole_syntax_signs)) }
def zv9 : _root_.Go.Value := .string ⟨#[]⟩
def zr9 {H : Type} : DataW H := .lit (.string [])
def zv25 : _root_.Go.Value := .agg #[.int .i64 0, .int .i64 0, .string ⟨#[]⟩, .slice none 0 0]
def zr25 {H : Type} : DataW H := .agg [.lit (.int .i64 0), .lit (.int .i64 0), .lit (.string []), .nil]
def zv33 : _root_.Go.Value := .agg #[.slice none 0 0, .slice none 0 0]
def zr33 {H : Type} : DataW H := .agg [.nil, .nil]
end Go.Proofs.YtmilgoloagbmpaaDoor

