/- A part of the proof of SyntaxPrint. -/
import Derived.Test.YtmilgoloagbmpaaGreatDoorRows
import Derived.Test.YtmilgoloagbmpaaGreatDoorPlA
import Derived.ProofKit
import Derived.OpenShut
import Derived.Deep.DeepHandedRow
import Derived.Lib.LaidTab
import Derived.Test.YtmilgoloagbmpaaGreatDoorCards
import Derived.Test.YtmilgoloagbmpaaGreatDoorTie
import Derived.WalkKit
import Derived.HandedShaped
set_option linter.unusedSimpArgs false
set_option linter.unusedVariables false
set_option maxRecDepth 10000
namespace Go.Proofs.YtmilgoloagbmpaaGreatDoor
open Go.Am Go.ChangeShapes Go.WideShapes Go.ChangeAt Go.RowKit
theorem A11 {H : Type} : ∀ l : List (DataW H), Rows.uptoBulkAll l = (l.map Rows.uptoBulk).sum
  | [] => rfl
  | x :: r => by simp only [Rows.uptoBulkAll, List.map_cons, List.sum_cons, A11 r]
theorem Oa {H : Type} : W1a (Rows.uptoBulk (H := H)) where
  lit l := by cases l <;> simp [Rows.uptoBulk]
  str s := by simp [Rows.uptoBulk]
  nil := by simp [Rows.uptoBulk]
  sl es sp := by simp only [Rows.uptoBulk, A11]; omega
  agg ps := by simp only [Rows.uptoBulk, A11]; omega
section
variable {H : Type} {enc : TypeId × _root_.Go.Value → H} {W : World}
theorem c62 : Tryz.prog.cellsOf 62 = 1 := by kernel_rfl
theorem c9 : Tryz.prog.cellsOf 9 = 1 := by kernel_rfl
theorem c44 : Tryz.prog.cellsOf 44 = 1 := by kernel_rfl
theorem c3 : Tryz.prog.cellsOf 3 = 1 := by kernel_rfl
theorem c45 : Tryz.prog.cellsOf 45 = 1 := by kernel_rfl
theorem c46 : Tryz.prog.cellsOf 46 = 1 := by kernel_rfl
theorem c48 : Tryz.prog.cellsOf 48 = 7 := by kernel_rfl
theorem c33 : Tryz.prog.cellsOf 33 = 1 := by kernel_rfl
theorem c34 : Tryz.prog.cellsOf 34 = 1 := by kernel_rfl
theorem c36 : Tryz.prog.cellsOf 36 = 4 := by kernel_rfl
theorem c65 : Tryz.prog.cellsOf 65 = 1 := by kernel_rfl
theorem c66 : Tryz.prog.cellsOf 66 = 1 := by kernel_rfl
theorem c68 : Tryz.prog.cellsOf 68 = 17 := by kernel_rfl
theorem c23 : Tryz.prog.cellsOf 23 = 1 := by kernel_rfl
theorem c64 : Tryz.prog.cellsOf 64 = 17 := by kernel_rfl
theorem c22 : Tryz.prog.cellsOf 22 = 1 := by kernel_rfl
theorem c25 : Tryz.prog.cellsOf 25 = 2 := by kernel_rfl
theorem u62 : Tryz.prog.underlying 62 = some (.int .i64) := by kernel_rfl
theorem u9 : Tryz.prog.underlying 9 = some .string := by kernel_rfl
theorem u44 : Tryz.prog.underlying 44 = some (.int .i64) := by kernel_rfl
theorem u3 : Tryz.prog.underlying 3 = some (.int .i64) := by kernel_rfl
theorem u45 : Tryz.prog.underlying 45 = some (.slice 9) := by kernel_rfl
theorem u46 : Tryz.prog.underlying 46 = some (.slice 48) := by kernel_rfl
theorem u33 : Tryz.prog.underlying 33 = some (.int .i64) := by kernel_rfl
theorem u34 : Tryz.prog.underlying 34 = some (.slice 36) := by kernel_rfl
theorem u65 : Tryz.prog.underlying 65 = some (.int .i64) := by kernel_rfl
theorem u66 : Tryz.prog.underlying 66 = some (.slice 3) := by kernel_rfl
theorem u23 : Tryz.prog.underlying 23 = some (.slice 68) := by kernel_rfl
theorem u22 : Tryz.prog.underlying 22 = some (.slice 64) := by kernel_rfl
theorem u4 : Tryz.prog.underlying 4 = some .bool := by kernel_rfl
theorem D0.bulks_map : ∀ l : List D0, D0.bulks l = (l.map D0.bulk).sum
  | [] => rfl
  | x :: r => by simp only [D0.bulks, List.map_cons, List.sum_cons, D0.bulks_map r]
theorem D0.row_len (x : D0) : (D0.row x).length = 7 := rfl
theorem D0.rd : ∀ fuel, Rd enc Tryz.prog W Rows.uptoBulk fuel 48 D0.row D0.bulk := by
  intro fuel
  induction fuel using Nat.strongRecOn with
  | ind fuel ih =>
  have F := fun n (hn : n < fuel) => FRd.cons (enc := enc) (W := W) (off := 0) (fd := (⟨"Kind", 44, 0, false, "", "", 0⟩ : Field)) (Rd.int (fuel := n) Oa u44) rfl c44 (fun _ => rfl) (FRd.cons (fd := (⟨"Low", 3, 1, false, "", "", 8⟩ : Field)) (Rd.int Oa u3) rfl c3 (fun _ => rfl) (FRd.cons (fd := (⟨"High", 3, 2, false, "", "", 16⟩ : Field)) (Rd.int Oa u3) rfl c3 (fun _ => rfl) (FRd.cons (fd := (⟨"Size", 3, 3, false, "", "", 24⟩ : Field)) (Rd.int Oa u3) rfl c3 (fun _ => rfl) (FRd.cons (fd := (⟨"Name", 9, 4, false, "", "", 32⟩ : Field)) (Rd.str Oa u9) rfl c9 (fun _ => rfl) (FRd.cons (fd := (⟨"Names", 45, 5, false, "", "", 48⟩ : Field)) (Rd.sl Oa (f := fun s : Str => [D.str s]) (bk := fun s => s.length + 1) u45 c9 (Nat.le_refl _) (fun _ => rfl) (fun _ _ => Rd.str Oa u9)) rfl c45 (fun _ => rfl) (FRd.cons (fd := (⟨"Of", 46, 6, false, "", "", 72⟩ : Field)) (Rd.sl Oa (f := D0.row) (bk := D0.bulk) u46 c48 (by omega) D0.row_len (fun m hm => ih m (by omega))) rfl c46 (fun _ => rfl) FRd.nil))))))
  exact Rd.st Oa Tryz.underlying48 rfl c48 D0.row_len F (fun p => D0.mk p.1 p.2.1 p.2.2.1 p.2.2.2.1 p.2.2.2.2.1 p.2.2.2.2.2.1 p.2.2.2.2.2.2.1) (fun x => by simp [D0.row, D0.rows_map, estr.rows, estr.row, ei64.rows, ei64.row]) (fun x => by simp [D0.bulk, D0.bulks_map])
theorem A0.bulks_map : ∀ l : List A0, A0.bulks l = (l.map A0.bulk).sum
  | [] => rfl
  | x :: r => by simp only [A0.bulks, List.map_cons, List.sum_cons, A0.bulks_map r]
theorem A0.row_len (x : A0) : (A0.row x).length = 4 := rfl
theorem A0.rd : ∀ fuel, Rd enc Tryz.prog W Rows.uptoBulk fuel 36 A0.row A0.bulk := by
  intro fuel
  induction fuel using Nat.strongRecOn with
  | ind fuel ih =>
  have F := fun n (hn : n < fuel) => FRd.cons (enc := enc) (W := W) (off := 0) (fd := (⟨"Op", 33, 0, false, "", "", 0⟩ : Field)) (Rd.int (fuel := n) Oa u33) rfl c33 (fun _ => rfl) (FRd.cons (fd := (⟨"N", 3, 1, false, "", "", 8⟩ : Field)) (Rd.int Oa u3) rfl c3 (fun _ => rfl) (FRd.cons (fd := (⟨"Name", 9, 2, false, "", "", 16⟩ : Field)) (Rd.str Oa u9) rfl c9 (fun _ => rfl) (FRd.cons (fd := (⟨"Kids", 34, 3, false, "", "", 32⟩ : Field)) (Rd.sl Oa (f := A0.row) (bk := A0.bulk) u34 c36 (by omega) A0.row_len (fun m hm => ih m (by omega))) rfl c34 (fun _ => rfl) FRd.nil)))
  exact Rd.st Oa Tryz.underlying36 rfl c36 A0.row_len F (fun p => A0.mk p.1 p.2.1 p.2.2.1 p.2.2.2.1) (fun x => by simp [A0.row, D0.rows_map, A0.rows_map, estr.rows, estr.row, ei64.rows, ei64.row]) (fun x => by simp [A0.bulk, A0.bulks_map])
theorem B0.bulks_map : ∀ l : List B0, B0.bulks l = (l.map B0.bulk).sum
  | [] => rfl
  | x :: r => by simp only [B0.bulks, List.map_cons, List.sum_cons, B0.bulks_map r]
theorem B0.row_len (x : B0) : (B0.row x).length = 17 := rfl
theorem B0.rd : ∀ fuel, Rd enc Tryz.prog W Rows.uptoBulk fuel 68 B0.row B0.bulk := by
  intro fuel
  induction fuel using Nat.strongRecOn with
  | ind fuel ih =>
  have F := fun n (hn : n < fuel) => FRd.cons (enc := enc) (W := W) (off := 0) (fd := (⟨"Verb", 65, 0, false, "", "", 0⟩ : Field)) (Rd.int (fuel := n) Oa u65) rfl c65 (fun _ => rfl) (FRd.cons (fd := (⟨"Place", 36, 1, false, "", "", 8⟩ : Field)) (A0.rd _) rfl c36 (fun _ => rfl) (FRd.cons (fd := (⟨"Value", 36, 5, false, "", "", 64⟩ : Field)) (A0.rd _) rfl c36 (fun _ => rfl) (FRd.cons (fd := (⟨"Name", 9, 9, false, "", "", 120⟩ : Field)) (Rd.str Oa u9) rfl c9 (fun _ => rfl) (FRd.cons (fd := (⟨"Args", 34, 10, false, "", "", 136⟩ : Field)) (Rd.sl Oa (f := A0.row) (bk := A0.bulk) u34 c36 (by omega) A0.row_len (fun m hm => A0.rd m)) rfl c34 (fun _ => rfl) (FRd.cons (fd := (⟨"N", 3, 11, false, "", "", 160⟩ : Field)) (Rd.int Oa u3) rfl c3 (fun _ => rfl) (FRd.cons (fd := (⟨"Low", 3, 12, false, "", "", 168⟩ : Field)) (Rd.int Oa u3) rfl c3 (fun _ => rfl) (FRd.cons (fd := (⟨"High", 3, 13, false, "", "", 176⟩ : Field)) (Rd.int Oa u3) rfl c3 (fun _ => rfl) (FRd.cons (fd := (⟨"Numbers", 66, 14, false, "", "", 184⟩ : Field)) (Rd.sl Oa (f := fun n : Int => [D.int .i64 n]) (bk := fun _ => 1) u66 c3 (Nat.le_refl _) (fun _ => rfl) (fun _ _ => Rd.int Oa u3)) rfl c66 (fun _ => rfl) (FRd.cons (fd := (⟨"Then", 23, 15, false, "", "", 208⟩ : Field)) (Rd.sl Oa (f := B0.row) (bk := B0.bulk) u23 c68 (by omega) B0.row_len (fun m hm => ih m (by omega))) rfl c23 (fun _ => rfl) (FRd.cons (fd := (⟨"Else", 23, 16, false, "", "", 232⟩ : Field)) (Rd.sl Oa (f := B0.row) (bk := B0.bulk) u23 c68 (by omega) B0.row_len (fun m hm => ih m (by omega))) rfl c23 (fun _ => rfl) FRd.nil))))))))))
  exact Rd.st Oa Tryz.underlying68 rfl c68 B0.row_len F (fun p => B0.mk p.1 p.2.1 p.2.2.1 p.2.2.2.1 p.2.2.2.2.1 p.2.2.2.2.2.1 p.2.2.2.2.2.2.1 p.2.2.2.2.2.2.2.1 p.2.2.2.2.2.2.2.2.1 p.2.2.2.2.2.2.2.2.2.1 p.2.2.2.2.2.2.2.2.2.2.1) (fun x => by simp [B0.row, A0.row, D0.rows_map, A0.rows_map, B0.rows_map, estr.rows, estr.row, ei64.rows, ei64.row]) (fun x => by simp [B0.bulk, A0.bulks_map, B0.bulks_map])
theorem E0.bulks_map : ∀ l : List E0, E0.bulks l = (l.map E0.bulk).sum
  | [] => rfl
  | x :: r => by simp only [E0.bulks, List.map_cons, List.sum_cons, E0.bulks_map r]
theorem E0.row_len (x : E0) : (E0.row x).length = 17 := rfl
theorem E0.rd : ∀ fuel, Rd enc Tryz.prog W Rows.uptoBulk fuel 64 E0.row E0.bulk := by
  intro fuel
  induction fuel using Nat.strongRecOn with
  | ind fuel ih =>
  have F := fun n (hn : n < fuel) => FRd.cons (enc := enc) (W := W) (off := 0) (fd := (⟨"Kind", 62, 0, false, "", "", 0⟩ : Field)) (Rd.int (fuel := n) Oa u62) rfl c62 (fun _ => rfl) (FRd.cons (fd := (⟨"Name", 9, 1, false, "", "", 8⟩ : Field)) (Rd.str Oa u9) rfl c9 (fun _ => rfl) (FRd.cons (fd := (⟨"Type", 48, 2, false, "", "", 24⟩ : Field)) (D0.rd _) rfl c48 (fun _ => rfl) (FRd.cons (fd := (⟨"Init", 3, 9, false, "", "", 120⟩ : Field)) (Rd.int Oa u3) rfl c3 (fun _ => rfl) (FRd.cons (fd := (⟨"Value", 36, 10, false, "", "", 128⟩ : Field)) (A0.rd _) rfl c36 (fun _ => rfl) (FRd.cons (fd := (⟨"Params", 22, 14, false, "", "", 184⟩ : Field)) (Rd.sl Oa (f := E0.row) (bk := E0.bulk) u22 c64 (by omega) E0.row_len (fun m hm => ih m (by omega))) rfl c22 (fun _ => rfl) (FRd.cons (fd := (⟨"Vars", 22, 15, false, "", "", 208⟩ : Field)) (Rd.sl Oa (f := E0.row) (bk := E0.bulk) u22 c64 (by omega) E0.row_len (fun m hm => ih m (by omega))) rfl c22 (fun _ => rfl) (FRd.cons (fd := (⟨"Body", 23, 16, false, "", "", 232⟩ : Field)) (Rd.sl Oa (f := B0.row) (bk := B0.bulk) u23 c68 (by omega) B0.row_len (fun m hm => B0.rd m)) rfl c23 (fun _ => rfl) FRd.nil)))))))
  exact Rd.st Oa Tryz.underlying64 rfl c64 E0.row_len F (fun p => E0.mk p.1 p.2.1 p.2.2.1 p.2.2.2.1 p.2.2.2.2.1 p.2.2.2.2.2.1 p.2.2.2.2.2.2.1 p.2.2.2.2.2.2.2.1) (fun x => by simp [E0.row, A0.row, B0.row, D0.row, D0.rows_map, A0.rows_map, B0.rows_map, E0.rows_map, estr.rows, estr.row, ei64.rows, ei64.row]) (fun x => by simp [E0.bulk, E0.bulks_map, A0.bulks_map, B0.bulks_map, D0.bulks_map])
theorem L0.bulks_map : ∀ l : List L0, L0.bulks l = (l.map L0.bulk).sum
  | [] => rfl
  | x :: r => by simp only [L0.bulks, List.map_cons, List.sum_cons, L0.bulks_map r]
theorem L0.row_len (x : L0) : (L0.row x).length = 2 := rfl
theorem L0.rd : ∀ fuel, Rd enc Tryz.prog W Rows.uptoBulk fuel 25 L0.row L0.bulk := by
  intro fuel
  induction fuel using Nat.strongRecOn with
  | ind fuel ih =>
  have F := fun n (hn : n < fuel) => FRd.cons (enc := enc) (W := W) (off := 0) (fd := (⟨"Decls", 22, 0, false, "", "", 0⟩ : Field)) (Rd.sl (fuel := n) Oa (f := E0.row) (bk := E0.bulk) u22 c64 (by omega) E0.row_len (fun m hm => E0.rd m)) rfl c22 (fun _ => rfl) (FRd.cons (fd := (⟨"Body", 23, 1, false, "", "", 24⟩ : Field)) (Rd.sl Oa (f := B0.row) (bk := B0.bulk) u23 c68 (by omega) B0.row_len (fun m hm => B0.rd m)) rfl c23 (fun _ => rfl) FRd.nil)
  exact Rd.st Oa Tryz.underlying25 rfl c25 L0.row_len F (fun p => L0.mk p.1 p.2.1) (fun x => by simp [L0.row, E0.row, B0.row, D0.rows_map, A0.rows_map, B0.rows_map, E0.rows_map, L0.rows_map, estr.rows, estr.row, ei64.rows, ei64.row]) (fun x => by simp [L0.bulk, E0.bulks_map, B0.bulks_map])
end
def Fj (t : TypeId) : Prop := t ∈ [62, 9, 44, 3, 45, 46, 48, 33, 34, 36, 65, 66, 68, 23, 64, 22, 25, 4]
theorem B1q : I1e Tryz.prog Fj := by
  intro t ht
  simp only [Fj, List.mem_cons, List.not_mem_nil, or_false] at ht
  rcases ht with rfl | rfl | rfl | rfl | rfl | rfl | rfl | rfl | rfl | rfl | rfl | rfl | rfl | rfl | rfl | rfl | rfl | rfl
  · exact .inr (.inl ⟨_, u62⟩)
  · exact .inr (.inr (.inl u9))
  · exact .inr (.inl ⟨_, u44⟩)
  · exact .inr (.inl ⟨_, u3⟩)
  · exact .inr (.inr (.inr (.inl ⟨_, u45, by simp [Fj], by rw [c9]; omega⟩)))
  · exact .inr (.inr (.inr (.inl ⟨_, u46, by simp [Fj], by rw [c48]; omega⟩)))
  · refine .inr (.inr (.inr (.inr ⟨_, Tryz.underlying48, fun f hf => ?_⟩)))
    simp at hf
    rcases hf with rfl | rfl | rfl | rfl | rfl | rfl | rfl <;> simp [Fj]
  · exact .inr (.inl ⟨_, u33⟩)
  · exact .inr (.inr (.inr (.inl ⟨_, u34, by simp [Fj], by rw [c36]; omega⟩)))
  · refine .inr (.inr (.inr (.inr ⟨_, Tryz.underlying36, fun f hf => ?_⟩)))
    simp at hf
    rcases hf with rfl | rfl | rfl | rfl <;> simp [Fj]
  · exact .inr (.inl ⟨_, u65⟩)
  · exact .inr (.inr (.inr (.inl ⟨_, u66, by simp [Fj], by rw [c3]; omega⟩)))
  · refine .inr (.inr (.inr (.inr ⟨_, Tryz.underlying68, fun f hf => ?_⟩)))
    simp at hf
    rcases hf with rfl | rfl | rfl | rfl | rfl | rfl | rfl | rfl | rfl | rfl | rfl <;> simp [Fj]
  · exact .inr (.inr (.inr (.inl ⟨_, u23, by simp [Fj], by rw [c68]; omega⟩)))
  · refine .inr (.inr (.inr (.inr ⟨_, Tryz.underlying64, fun f hf => ?_⟩)))
    simp at hf
    rcases hf with rfl | rfl | rfl | rfl | rfl | rfl | rfl | rfl <;> simp [Fj]
  · exact .inr (.inr (.inr (.inl ⟨_, u22, by simp [Fj], by rw [c64]; omega⟩)))
  · refine .inr (.inr (.inr (.inr ⟨_, Tryz.underlying25, fun f hf => ?_⟩)))
    simp at hf
    rcases hf with rfl | rfl <;> simp [Fj]
  · exact .inl u4
end Go.Proofs.YtmilgoloagbmpaaGreatDoor

namespace Go.Proofs.YtmilgoloagbmpaaGreatDoor
open Go.Am Go.ChangeShapes Go.WideShapes Go.ChangeAt Go.RowKit
theorem own : ownKnob Tryz.prog.godebug = none := by kernel_rfl
def laidL : List (String × DataW Unit) := [("math/bits.deBruijn32tab", Rows.laid_math_bits_deBruijn32tab), ("math/bits.deBruijn64tab", Rows.laid_math_bits_deBruijn64tab), ("internal/strconv.uint64pow10", Rows.laid_internal_strconv_uint64pow10), ("keyhole/syntax.signs", Rows.laid_keyhole_syntax_signs)]
theorem laid_of {W : World} (h : laidMetH Tryz.prog laidL W) : laidMet Tryz.prog laidL W := h
theorem glOk {W : World} (h : W.ShapedOpen Tryz.prog) (hL : laidMet Tryz.prog laidL W) : J10 C (Og W) W := by
  obtain ⟨m, hm⟩ := cell_of_shapedOpen_int (g := 2) (zero := #[.int .i64 0]) (t := 3) h (of_decide_eq_true (by kernel_rfl)) (by kernel_rfl) rfl (by kernel_rfl) (by kernel_rfl) Tryz.underlying3
  obtain ⟨h10, hm10⟩ := I1j hL 2 (name := "internal/strconv.uint64pow10") (k := .u64) (zs := Lib.pow10Tab) rfl (g := 1) (t := 213) (e := 198) (n := 20) (by kernel_rfl) (by kernel_rfl) (by kernel_rfl) (by kernel_rfl) (by kernel_rfl) (by kernel_rfl)
  refine { tab := fun G g cs e => ?_, gp := ⟨⟨m, (I12 hm).1⟩, hm10, h10⟩ }
  have e' : (bif Nat.beq 0 g then some (Zo.map D.str) else none) = some cs := e
  cases hb : Nat.beq 0 g with
  | false => rw [hb] at e'; cases e'
  | true =>
    obtain rfl := Nat.eq_of_beq_eq_true hb
    rw [hb] at e'
    cases e'
    exact I1g hL 3 (name := "keyhole/syntax.signs") (zs := Zo) rfl (g := 0) (t := 171) (e := 9) (n := 13) (by kernel_rfl) (by kernel_rfl) (by kernel_rfl) (by kernel_rfl) (by kernel_rfl) (by kernel_rfl)
def laidCells : DataW Unit → Array Value
  | .agg l => (l.map fun
      | .lit (.int k n) => .int k n
      | .lit (.string s) => .string ⟨s.toArray⟩
      | _ => .bool false).toArray
  | _ => #[]
def laidPut (d : DataW Unit) : Obj → Obj
  | .cells _ t frozen => .cells (laidCells d) t frozen
  | o => o
noncomputable def laidWorld (os : Os) : World :=
  { World.holding Tryz.prog os ⟨#[], #[], []⟩ with heap := (((((World.holding Tryz.prog os ⟨#[], #[], []⟩).heap.modify 3 (laidPut Rows.laid_math_bits_deBruijn32tab)).modify 4 (laidPut Rows.laid_math_bits_deBruijn64tab)).modify 1 (laidPut Rows.laid_internal_strconv_uint64pow10)).modify 0 (laidPut Rows.laid_keyhole_syntax_signs)) }
def zv9 : _root_.Go.Value := .string ⟨#[]⟩
def zr9 {H : Type} : DataW H := .lit (.string [])
def zv25 : _root_.Go.Value := .agg #[.slice none 0 0, .slice none 0 0]
def zr25 {H : Type} : DataW H := .agg [.nil, .nil]
def zv36 : _root_.Go.Value := .agg #[.int .i64 0, .int .i64 0, .string ⟨#[]⟩, .slice none 0 0]
def zr36 {H : Type} : DataW H := .agg [.lit (.int .i64 0), .lit (.int .i64 0), .lit (.string []), .nil]
def zv48 : _root_.Go.Value := .agg #[.int .i64 0, .int .i64 0, .int .i64 0, .int .i64 0, .string ⟨#[]⟩, .slice none 0 0, .slice none 0 0]
def zr48 {H : Type} : DataW H := .agg [.lit (.int .i64 0), .lit (.int .i64 0), .lit (.int .i64 0), .lit (.int .i64 0), .lit (.string []), .nil, .nil]
end Go.Proofs.YtmilgoloagbmpaaGreatDoor

