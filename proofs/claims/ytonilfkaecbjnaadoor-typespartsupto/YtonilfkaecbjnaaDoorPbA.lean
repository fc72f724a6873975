/-
  The bridge from readings to types of the program.
-/
import Derived.Test.YtonilfkaecbjnaaDoorRows
import Derived.Test.YtonilfkaecbjnaaDoorPdC
import Derived.ProofKit
import Derived.OpenShut
import Derived.Deep.DeepHandedRow
import Derived.Lib.LaidTab
namespace Go.Proofs.YtonilfkaecbjnaaDoor
open Go.Am Go.ChangeShapes Go.WideShapes Go.ChangeAt Go.RowKit

theorem bulkAll_sum {H : Type} : ∀ l : List (DataW H), Rows.uptoBulkAll l = (l.map Rows.uptoBulk).sum
  | [] => rfl
  | x :: r => by simp only [Rows.uptoBulkAll, List.map_cons, List.sum_cons, bulkAll_sum r]
theorem meas {H : Type} : Meas (Rows.uptoBulk (H := H)) where
  lit l := by cases l <;> simp [Rows.uptoBulk]
  str s := by simp [Rows.uptoBulk]
  nil := by simp [Rows.uptoBulk]
  sl es sp := by simp only [Rows.uptoBulk, bulkAll_sum]; omega
  agg ps := by simp only [Rows.uptoBulk, bulkAll_sum]; omega

section
variable {H : Type} {enc : TypeId × Value → H} {W : World}
theorem c3 : Tryd.prog.cellsOf 3 = 1 := by kernel_rfl
theorem c9 : Tryd.prog.cellsOf 9 = 1 := by kernel_rfl
theorem c23 : Tryd.prog.cellsOf 23 = 1 := by kernel_rfl
theorem c24 : Tryd.prog.cellsOf 24 = 1 := by kernel_rfl
theorem c25 : Tryd.prog.cellsOf 25 = 1 := by kernel_rfl
theorem c27 : Tryd.prog.cellsOf 27 = 7 := by kernel_rfl
theorem u23 : Tryd.prog.underlying 23 = some (.int .i64) := by kernel_rfl
theorem ApiType.row_len (x : ApiType) : (ApiType.row x).length = 7 := rfl
theorem ApiType.bulks_map : ∀ l : List ApiType, ApiType.bulks l = (l.map ApiType.bulk).sum
  | [] => rfl
  | x :: r => by simp only [ApiType.bulks, List.map_cons, List.sum_cons, ApiType.bulks_map r]
theorem Rd.strs {fuel : Nat} : Rd enc Tryd.prog W Rows.uptoBulk fuel 24 (fun l : List Str => [D.sl (estr.rows l)]) (fun l => (l.map fun s => s.length + 1).sum + 1) :=
  Rd.sl meas (t := 24) (e := 9) (sz := 1) (f := fun s : Str => [D.str s]) (bk := fun s => s.length + 1) Tryd.underlying24 c9 (Nat.le_refl _) (fun _ => rfl) (fun _ _ => Rd.str meas Tryd.underlying9)
theorem ApiType.rd : ∀ fuel, Rd enc Tryd.prog W Rows.uptoBulk fuel 27 ApiType.row ApiType.bulk := by
  intro fuel
  induction fuel using Nat.strongRecOn with
  | ind fuel ih =>
  have F := fun n (hn : n < fuel) => FRd.cons (enc := enc) (W := W) (off := 0) (fd := (⟨"Kind", 23, 0, false, "", "", 0⟩ : Field)) (Rd.int (fuel := n) meas u23) rfl c23 (fun _ => rfl) (FRd.cons (fd := (⟨"Low", 3, 1, false, "", "", 8⟩ : Field)) (Rd.int meas Tryd.underlying3) rfl c3 (fun _ => rfl) (FRd.cons (fd := (⟨"High", 3, 2, false, "", "", 16⟩ : Field)) (Rd.int meas Tryd.underlying3) rfl c3 (fun _ => rfl) (FRd.cons (fd := (⟨"Size", 3, 3, false, "", "", 24⟩ : Field)) (Rd.int meas Tryd.underlying3) rfl c3 (fun _ => rfl) (FRd.cons (fd := (⟨"Name", 9, 4, false, "", "", 32⟩ : Field)) (Rd.str meas Tryd.underlying9) rfl c9 (fun _ => rfl) (FRd.cons (fd := (⟨"Names", 24, 5, false, "", "", 48⟩ : Field)) Rd.strs rfl c24 (fun _ => rfl) (FRd.cons (fd := (⟨"Of", 25, 6, false, "", "", 72⟩ : Field)) (Rd.sl meas (f := ApiType.row) (bk := ApiType.bulk) Tryd.underlying25 c27 (by omega) ApiType.row_len (fun m hm => ih m (by omega))) rfl c25 (fun _ => rfl) FRd.nil))))))
  exact Rd.st meas Tryd.underlying27 rfl c27 ApiType.row_len F (fun p => ApiType.mk p.1 p.2.1 p.2.2.1 p.2.2.2.1 p.2.2.2.2.1 p.2.2.2.2.2.1 p.2.2.2.2.2.2.1) (fun x => by simp [ApiType.row, ApiType.rows_map]) (fun x => by simp [ApiType.bulk, ApiType.bulks_map])
end
end Go.Proofs.YtonilfkaecbjnaaDoor

