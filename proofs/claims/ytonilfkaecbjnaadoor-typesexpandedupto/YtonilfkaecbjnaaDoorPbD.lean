/-
  Readings of declarations, printed by mkrd.py.
-/
import Derived.Test.YtonilfkaecbjnaaDoorPcA
set_option linter.unusedSimpArgs false
set_option linter.unusedVariables false
set_option maxRecDepth 10000
namespace Go.Proofs.YtonilfkaecbjnaaDoor
open Go.Am Go.ChangeShapes Go.WideShapes Go.ChangeAt Go.RowKit
section
variable {H : Type} {enc : TypeId × _root_.Go.Value → H} {W : World}
theorem c22 : Tryd.prog.cellsOf 22 = 1 := by kernel_rfl
theorem c46 : Tryd.prog.cellsOf 46 = 1 := by kernel_rfl
theorem c52 : Tryd.prog.cellsOf 52 = 1 := by kernel_rfl
theorem c53 : Tryd.prog.cellsOf 53 = 1 := by kernel_rfl
theorem c54 : Tryd.prog.cellsOf 54 = 1 := by kernel_rfl
theorem c56 : Tryd.prog.cellsOf 56 = 4 := by kernel_rfl
theorem c57 : Tryd.prog.cellsOf 57 = 1 := by kernel_rfl
theorem c59 : Tryd.prog.cellsOf 59 = 17 := by kernel_rfl
theorem c76 : Tryd.prog.cellsOf 76 = 1 := by kernel_rfl
theorem c78 : Tryd.prog.cellsOf 78 = 17 := by kernel_rfl
theorem u52 : Tryd.prog.underlying 52 = some (.int .i64) := by kernel_rfl
theorem u53 : Tryd.prog.underlying 53 = some (.int .i64) := by kernel_rfl
theorem u76 : Tryd.prog.underlying 76 = some (.int .i64) := by kernel_rfl
mutual
def ApiExpr.bulk : ApiExpr → Nat
  | .mk y0 y1 y2 y3 => 1 + (1 + ((y2.length + 1) + ((ApiExpr.bulks y3 + 1) + (0)))) + 1
def ApiExpr.bulks : List ApiExpr → Nat
  | [] => 0
  | x :: r => ApiExpr.bulk x + ApiExpr.bulks r
end
theorem ApiExpr.bulks_map : ∀ l : List ApiExpr, ApiExpr.bulks l = (l.map ApiExpr.bulk).sum
  | [] => rfl
  | x :: r => by simp only [ApiExpr.bulks, List.map_cons, List.sum_cons, ApiExpr.bulks_map r]
theorem ApiExpr.row_len (x : ApiExpr) : (ApiExpr.row x).length = 4 := rfl
theorem ApiExpr.rd : ∀ fuel, Rd enc Tryd.prog W Rows.uptoBulk fuel 56 ApiExpr.row ApiExpr.bulk := by
  intro fuel
  induction fuel using Nat.strongRecOn with
  | ind fuel ih =>
  have F := fun n (hn : n < fuel) => FRd.cons (enc := enc) (W := W) (off := 0) (fd := (⟨"Op", 53, 0, false, "", "", 0⟩ : Field)) (Rd.int (fuel := n) meas u53) rfl c53 (fun _ => rfl) (FRd.cons (fd := (⟨"N", 3, 1, false, "", "", 8⟩ : Field)) (Rd.int meas Tryd.underlying3) rfl c3 (fun _ => rfl) (FRd.cons (fd := (⟨"Name", 9, 2, false, "", "", 16⟩ : Field)) (Rd.str meas Tryd.underlying9) rfl c9 (fun _ => rfl) (FRd.cons (fd := (⟨"Kids", 54, 3, false, "", "", 32⟩ : Field)) (Rd.sl meas (f := ApiExpr.row) (bk := ApiExpr.bulk) Tryd.underlying54 c56 (by omega) ApiExpr.row_len (fun m hm => ih m (by omega))) rfl c54 (fun _ => rfl) FRd.nil)))
  exact Rd.st meas Tryd.underlying56 rfl c56 ApiExpr.row_len F (fun p => ApiExpr.mk p.1 p.2.1 p.2.2.1 p.2.2.2.1) (fun x => by simp [ApiExpr.row, ApiExpr.rows_map, ApiExpr.rows_map, ApiType.rows_map, ei64.rows, ei64.row]) (fun x => by simp [ApiExpr.bulk, ApiExpr.bulks_map])
mutual
def ApiStmt.bulk : ApiStmt → Nat
  | .mk y0 y1 y2 y3 y4 y5 y6 y7 y8 y9 y10 => 1 + (ApiExpr.bulk y1 + (ApiExpr.bulk y2 + ((y3.length + 1) + ((ApiExpr.bulks y4 + 1) + (1 + (1 + (1 + (((y8.map fun _ => 1).sum + 1) + ((ApiStmt.bulks y9 + 1) + ((ApiStmt.bulks y10 + 1) + (0))))))))))) + 1
def ApiStmt.bulks : List ApiStmt → Nat
  | [] => 0
  | x :: r => ApiStmt.bulk x + ApiStmt.bulks r
end
theorem ApiStmt.bulks_map : ∀ l : List ApiStmt, ApiStmt.bulks l = (l.map ApiStmt.bulk).sum
  | [] => rfl
  | x :: r => by simp only [ApiStmt.bulks, List.map_cons, List.sum_cons, ApiStmt.bulks_map r]
theorem ApiStmt.row_len (x : ApiStmt) : (ApiStmt.row x).length = 17 := rfl
theorem ApiStmt.rd : ∀ fuel, Rd enc Tryd.prog W Rows.uptoBulk fuel 78 ApiStmt.row ApiStmt.bulk := by
  intro fuel
  induction fuel using Nat.strongRecOn with
  | ind fuel ih =>
  have F := fun n (hn : n < fuel) => FRd.cons (enc := enc) (W := W) (off := 0) (fd := (⟨"Verb", 76, 0, false, "", "", 0⟩ : Field)) (Rd.int (fuel := n) meas u76) rfl c76 (fun _ => rfl) (FRd.cons (fd := (⟨"Place", 56, 1, false, "", "", 8⟩ : Field)) (ApiExpr.rd _) rfl c56 (fun _ => rfl) (FRd.cons (fd := (⟨"Value", 56, 5, false, "", "", 64⟩ : Field)) (ApiExpr.rd _) rfl c56 (fun _ => rfl) (FRd.cons (fd := (⟨"Name", 9, 9, false, "", "", 120⟩ : Field)) (Rd.str meas Tryd.underlying9) rfl c9 (fun _ => rfl) (FRd.cons (fd := (⟨"Args", 54, 10, false, "", "", 136⟩ : Field)) (Rd.sl meas (f := ApiExpr.row) (bk := ApiExpr.bulk) Tryd.underlying54 c56 (by omega) ApiExpr.row_len (fun m hm => ApiExpr.rd m)) rfl c54 (fun _ => rfl) (FRd.cons (fd := (⟨"N", 3, 11, false, "", "", 160⟩ : Field)) (Rd.int meas Tryd.underlying3) rfl c3 (fun _ => rfl) (FRd.cons (fd := (⟨"Low", 3, 12, false, "", "", 168⟩ : Field)) (Rd.int meas Tryd.underlying3) rfl c3 (fun _ => rfl) (FRd.cons (fd := (⟨"High", 3, 13, false, "", "", 176⟩ : Field)) (Rd.int meas Tryd.underlying3) rfl c3 (fun _ => rfl) (FRd.cons (fd := (⟨"Numbers", 46, 14, false, "", "", 184⟩ : Field)) (Rd.sl meas (f := fun n : Int => [D.int .i64 n]) (bk := fun _ => 1) Tryd.underlying46 c3 (Nat.le_refl _) (fun _ => rfl) (fun _ _ => Rd.int meas Tryd.underlying3)) rfl c46 (fun _ => rfl) (FRd.cons (fd := (⟨"Then", 57, 15, false, "", "", 208⟩ : Field)) (Rd.sl meas (f := ApiStmt.row) (bk := ApiStmt.bulk) Tryd.underlying57 c78 (by omega) ApiStmt.row_len (fun m hm => ih m (by omega))) rfl c57 (fun _ => rfl) (FRd.cons (fd := (⟨"Else", 57, 16, false, "", "", 232⟩ : Field)) (Rd.sl meas (f := ApiStmt.row) (bk := ApiStmt.bulk) Tryd.underlying57 c78 (by omega) ApiStmt.row_len (fun m hm => ih m (by omega))) rfl c57 (fun _ => rfl) FRd.nil))))))))))
  exact Rd.st meas Tryd.underlying78 rfl c78 ApiStmt.row_len F (fun p => ApiStmt.mk p.1 p.2.1 p.2.2.1 p.2.2.2.1 p.2.2.2.2.1 p.2.2.2.2.2.1 p.2.2.2.2.2.2.1 p.2.2.2.2.2.2.2.1 p.2.2.2.2.2.2.2.2.1 p.2.2.2.2.2.2.2.2.2.1 p.2.2.2.2.2.2.2.2.2.2.1) (fun x => by simp [ApiStmt.row, ApiExpr.row, ApiExpr.rows_map, ApiStmt.rows_map, ApiExpr.rows_map, ApiType.rows_map, ei64.rows, ei64.row]) (fun x => by simp [ApiStmt.bulk, ApiExpr.bulks_map, ApiStmt.bulks_map])
mutual
def ApiDecl.bulk : ApiDecl → Nat
  | .mk y0 y1 y2 y3 y4 y5 y6 y7 => 1 + ((y1.length + 1) + (ApiType.bulk y2 + (1 + (ApiExpr.bulk y4 + ((ApiDecl.bulks y5 + 1) + ((ApiDecl.bulks y6 + 1) + ((ApiStmt.bulks y7 + 1) + (0)))))))) + 1
def ApiDecl.bulks : List ApiDecl → Nat
  | [] => 0
  | x :: r => ApiDecl.bulk x + ApiDecl.bulks r
end
theorem ApiDecl.bulks_map : ∀ l : List ApiDecl, ApiDecl.bulks l = (l.map ApiDecl.bulk).sum
  | [] => rfl
  | x :: r => by simp only [ApiDecl.bulks, List.map_cons, List.sum_cons, ApiDecl.bulks_map r]
theorem ApiDecl.row_len (x : ApiDecl) : (ApiDecl.row x).length = 17 := rfl
theorem ApiDecl.rd : ∀ fuel, Rd enc Tryd.prog W Rows.uptoBulk fuel 59 ApiDecl.row ApiDecl.bulk := by
  intro fuel
  induction fuel using Nat.strongRecOn with
  | ind fuel ih =>
  have F := fun n (hn : n < fuel) => FRd.cons (enc := enc) (W := W) (off := 0) (fd := (⟨"Kind", 52, 0, false, "", "", 0⟩ : Field)) (Rd.int (fuel := n) meas u52) rfl c52 (fun _ => rfl) (FRd.cons (fd := (⟨"Name", 9, 1, false, "", "", 8⟩ : Field)) (Rd.str meas Tryd.underlying9) rfl c9 (fun _ => rfl) (FRd.cons (fd := (⟨"Type", 27, 2, false, "", "", 24⟩ : Field)) (ApiType.rd _) rfl c27 (fun _ => rfl) (FRd.cons (fd := (⟨"Init", 3, 9, false, "", "", 120⟩ : Field)) (Rd.int meas Tryd.underlying3) rfl c3 (fun _ => rfl) (FRd.cons (fd := (⟨"Value", 56, 10, false, "", "", 128⟩ : Field)) (ApiExpr.rd _) rfl c56 (fun _ => rfl) (FRd.cons (fd := (⟨"Params", 22, 14, false, "", "", 184⟩ : Field)) (Rd.sl meas (f := ApiDecl.row) (bk := ApiDecl.bulk) Tryd.underlying22 c59 (by omega) ApiDecl.row_len (fun m hm => ih m (by omega))) rfl c22 (fun _ => rfl) (FRd.cons (fd := (⟨"Vars", 22, 15, false, "", "", 208⟩ : Field)) (Rd.sl meas (f := ApiDecl.row) (bk := ApiDecl.bulk) Tryd.underlying22 c59 (by omega) ApiDecl.row_len (fun m hm => ih m (by omega))) rfl c22 (fun _ => rfl) (FRd.cons (fd := (⟨"Body", 57, 16, false, "", "", 232⟩ : Field)) (Rd.sl meas (f := ApiStmt.row) (bk := ApiStmt.bulk) Tryd.underlying57 c78 (by omega) ApiStmt.row_len (fun m hm => ApiStmt.rd m)) rfl c57 (fun _ => rfl) FRd.nil)))))))
  exact Rd.st meas Tryd.underlying59 rfl c59 ApiDecl.row_len F (fun p => ApiDecl.mk p.1 p.2.1 p.2.2.1 p.2.2.2.1 p.2.2.2.2.1 p.2.2.2.2.2.1 p.2.2.2.2.2.2.1 p.2.2.2.2.2.2.2.1) (fun x => by simp [ApiDecl.row, ApiExpr.row, ApiStmt.row, ApiType.row, ApiDecl.rows_map, ApiExpr.rows_map, ApiStmt.rows_map, ApiType.rows_map, ApiExpr.rows_map, ApiType.rows_map, ei64.rows, ei64.row]) (fun x => by simp [ApiDecl.bulk, ApiDecl.bulks_map, ApiExpr.bulks_map, ApiStmt.bulks_map, ApiType.bulks_map])
theorem Rd.decls {fuel : Nat} : Rd enc Tryd.prog W Rows.uptoBulk fuel 22 (fun l : List ApiDecl => [D.sl (ApiDecl.rows l)]) (fun l => ApiDecl.bulks l + 1) := by
  have := Rd.sl (enc := enc) (W := W) (fuel := fuel) meas (f := ApiDecl.row) (bk := ApiDecl.bulk) Tryd.underlying22 c59 (by omega) ApiDecl.row_len (fun m _ => ApiDecl.rd m)
  simpa only [← ApiDecl.rows_map, ← ApiDecl.bulks_map] using this
end
end Go.Proofs.YtonilfkaecbjnaaDoor

