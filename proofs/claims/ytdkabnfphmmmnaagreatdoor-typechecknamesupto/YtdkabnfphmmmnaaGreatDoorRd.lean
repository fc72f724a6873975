/- A part of the proof of TypecheckNames. -/
import Derived.Test.YtdkabnfphmmmnaaGreatDoorRows
import Derived.Test.YtdkabnfphmmmnaaGreatDoorPlA
import Derived.ProofKit
import Derived.OpenShut
import Derived.Deep.DeepHandedRow
import Derived.Lib.LaidTab
import Derived.Test.YtdkabnfphmmmnaaGreatDoorCards
import Derived.Test.YtdkabnfphmmmnaaGreatDoorTie
import Derived.WalkKit
import Derived.HandedShaped
set_option linter.unusedSimpArgs false
set_option linter.unusedVariables false
set_option maxRecDepth 10000
namespace Go.Proofs.YtdkabnfphmmmnaaGreatDoor
open Go.Am Go.ChangeShapes Go.WideShapes Go.ChangeAt Go.RowKit
theorem Jx {H:Type}:∀ l:List (DataW H),Rows.uptoBulkAll l=(l.map Rows.uptoBulk).sum
 | []=>rfl
 | x::r=>by simp only [Rows.uptoBulkAll,List.map_cons,List.sum_cons,Jx r]
theorem U6 {H:Type}:O1f (Rows.uptoBulk (H:=H)) where
 lit l:=by cases l <;> simp [Rows.uptoBulk]
 str s:=by simp [Rows.uptoBulk]
 nil:=by simp [Rows.uptoBulk]
 sl es sp:=by simp only [Rows.uptoBulk,Jx]; omega
 agg ps:=by simp only [Rows.uptoBulk,Jx]; omega
section
variable {H:Type}{enc:TypeId×_root_.Go.Value→H}{W:World}
theorem c57:Tryz.prog.cellsOf 57=1:=by kernel_rfl
theorem c9:Tryz.prog.cellsOf 9=1:=by kernel_rfl
theorem c36:Tryz.prog.cellsOf 36=1:=by kernel_rfl
theorem c3:Tryz.prog.cellsOf 3=1:=by kernel_rfl
theorem c37:Tryz.prog.cellsOf 37=1:=by kernel_rfl
theorem c38:Tryz.prog.cellsOf 38=1:=by kernel_rfl
theorem c40:Tryz.prog.cellsOf 40=7:=by kernel_rfl
theorem c31:Tryz.prog.cellsOf 31=1:=by kernel_rfl
theorem c32:Tryz.prog.cellsOf 32=1:=by kernel_rfl
theorem c34:Tryz.prog.cellsOf 34=4:=by kernel_rfl
theorem c50:Tryz.prog.cellsOf 50=1:=by kernel_rfl
theorem c51:Tryz.prog.cellsOf 51=1:=by kernel_rfl
theorem c53:Tryz.prog.cellsOf 53=17:=by kernel_rfl
theorem c23:Tryz.prog.cellsOf 23=1:=by kernel_rfl
theorem c59:Tryz.prog.cellsOf 59=17:=by kernel_rfl
theorem c22:Tryz.prog.cellsOf 22=1:=by kernel_rfl
theorem c25:Tryz.prog.cellsOf 25=2:=by kernel_rfl
theorem u57:Tryz.prog.underlying 57=some (.int .i64):=by kernel_rfl
theorem u9:Tryz.prog.underlying 9=some .string:=by kernel_rfl
theorem u36:Tryz.prog.underlying 36=some (.int .i64):=by kernel_rfl
theorem u3:Tryz.prog.underlying 3=some (.int .i64):=by kernel_rfl
theorem u37:Tryz.prog.underlying 37=some (.slice 9):=by kernel_rfl
theorem u38:Tryz.prog.underlying 38=some (.slice 40):=by kernel_rfl
theorem u31:Tryz.prog.underlying 31=some (.int .i64):=by kernel_rfl
theorem u32:Tryz.prog.underlying 32=some (.slice 34):=by kernel_rfl
theorem u50:Tryz.prog.underlying 50=some (.int .i64):=by kernel_rfl
theorem u51:Tryz.prog.underlying 51=some (.slice 3):=by kernel_rfl
theorem u23:Tryz.prog.underlying 23=some (.slice 53):=by kernel_rfl
theorem u22:Tryz.prog.underlying 22=some (.slice 59):=by kernel_rfl
theorem u4:Tryz.prog.underlying 4=some .bool:=by kernel_rfl
theorem A0.bulks_map:∀ l:List A0,A0.bulks l=(l.map A0.bulk).sum
 | []=>rfl
 | x::r=>by simp only [A0.bulks,List.map_cons,List.sum_cons,A0.bulks_map r]
theorem A0.row_len (x:A0):(A0.row x).length=7:=rfl
theorem A0.rd:∀ fuel,Rd enc Tryz.prog W Rows.uptoBulk fuel 40 A0.row A0.bulk:=by
 intro fuel
 induction fuel using Nat.strongRecOn with
 | ind fuel ih=>
 have F:=fun n (hn:n < fuel)=>FRd.cons (enc:=enc) (W:=W) (off:=0) (fd:=(⟨"Kind",36,0,false, "", "",0⟩:Field)) (Rd.int (fuel:=n) U6 u36) rfl c36 (fun _=>rfl) (FRd.cons (fd:=(⟨"Low",3,1,false, "", "",8⟩:Field)) (Rd.int U6 u3) rfl c3 (fun _=>rfl) (FRd.cons (fd:=(⟨"High",3,2,false, "", "",16⟩:Field)) (Rd.int U6 u3) rfl c3 (fun _=>rfl) (FRd.cons (fd:=(⟨"Size",3,3,false, "", "",24⟩:Field)) (Rd.int U6 u3) rfl c3 (fun _=>rfl) (FRd.cons (fd:=(⟨"Name",9,4,false, "", "",32⟩:Field)) (Rd.str U6 u9) rfl c9 (fun _=>rfl) (FRd.cons (fd:=(⟨"Names",37,5,false, "", "",48⟩:Field)) (Rd.sl U6 (f:=fun s:Str=>[D.str s]) (bk:=fun s=>s.length+1) u37 c9 (Nat.le_refl _) (fun _=>rfl) (fun _ _=>Rd.str U6 u9)) rfl c37 (fun _=>rfl) (FRd.cons (fd:=(⟨"Of",38,6,false, "", "",72⟩:Field)) (Rd.sl U6 (f:=A0.row) (bk:=A0.bulk) u38 c40 (by omega) A0.row_len (fun m hm=>ih m (by omega))) rfl c38 (fun _=>rfl) FRd.nil))))))
 exact Rd.st U6 Tryz.underlying40 rfl c40 A0.row_len F (fun p=>A0.mk p.1 p.2.1 p.2.2.1 p.2.2.2.1 p.2.2.2.2.1 p.2.2.2.2.2.1 p.2.2.2.2.2.2.1) (fun x=>by simp [A0.row,A0.rows_map,estr.rows,estr.row,ei64.rows,ei64.row]) (fun x=>by simp [A0.bulk,A0.bulks_map])
theorem B0.bulks_map:∀ l:List B0,B0.bulks l=(l.map B0.bulk).sum
 | []=>rfl
 | x::r=>by simp only [B0.bulks,List.map_cons,List.sum_cons,B0.bulks_map r]
theorem B0.row_len (x:B0):(B0.row x).length=4:=rfl
theorem B0.rd:∀ fuel,Rd enc Tryz.prog W Rows.uptoBulk fuel 34 B0.row B0.bulk:=by
 intro fuel
 induction fuel using Nat.strongRecOn with
 | ind fuel ih=>
 have F:=fun n (hn:n < fuel)=>FRd.cons (enc:=enc) (W:=W) (off:=0) (fd:=(⟨"Op",31,0,false, "", "",0⟩:Field)) (Rd.int (fuel:=n) U6 u31) rfl c31 (fun _=>rfl) (FRd.cons (fd:=(⟨"N",3,1,false, "", "",8⟩:Field)) (Rd.int U6 u3) rfl c3 (fun _=>rfl) (FRd.cons (fd:=(⟨"Name",9,2,false, "", "",16⟩:Field)) (Rd.str U6 u9) rfl c9 (fun _=>rfl) (FRd.cons (fd:=(⟨"Kids",32,3,false, "", "",32⟩:Field)) (Rd.sl U6 (f:=B0.row) (bk:=B0.bulk) u32 c34 (by omega) B0.row_len (fun m hm=>ih m (by omega))) rfl c32 (fun _=>rfl) FRd.nil)))
 exact Rd.st U6 Tryz.underlying34 rfl c34 B0.row_len F (fun p=>B0.mk p.1 p.2.1 p.2.2.1 p.2.2.2.1) (fun x=>by simp [B0.row,A0.rows_map,B0.rows_map,estr.rows,estr.row,ei64.rows,ei64.row]) (fun x=>by simp [B0.bulk,B0.bulks_map])
theorem C0.bulks_map:∀ l:List C0,C0.bulks l=(l.map C0.bulk).sum
 | []=>rfl
 | x::r=>by simp only [C0.bulks,List.map_cons,List.sum_cons,C0.bulks_map r]
theorem C0.row_len (x:C0):(C0.row x).length=17:=rfl
theorem C0.rd:∀ fuel,Rd enc Tryz.prog W Rows.uptoBulk fuel 53 C0.row C0.bulk:=by
 intro fuel
 induction fuel using Nat.strongRecOn with
 | ind fuel ih=>
 have F:=fun n (hn:n < fuel)=>FRd.cons (enc:=enc) (W:=W) (off:=0) (fd:=(⟨"Verb",50,0,false, "", "",0⟩:Field)) (Rd.int (fuel:=n) U6 u50) rfl c50 (fun _=>rfl) (FRd.cons (fd:=(⟨"Place",34,1,false, "", "",8⟩:Field)) (B0.rd _) rfl c34 (fun _=>rfl) (FRd.cons (fd:=(⟨"Value",34,5,false, "", "",64⟩:Field)) (B0.rd _) rfl c34 (fun _=>rfl) (FRd.cons (fd:=(⟨"Name",9,9,false, "", "",120⟩:Field)) (Rd.str U6 u9) rfl c9 (fun _=>rfl) (FRd.cons (fd:=(⟨"Args",32,10,false, "", "",136⟩:Field)) (Rd.sl U6 (f:=B0.row) (bk:=B0.bulk) u32 c34 (by omega) B0.row_len (fun m hm=>B0.rd m)) rfl c32 (fun _=>rfl) (FRd.cons (fd:=(⟨"N",3,11,false, "", "",160⟩:Field)) (Rd.int U6 u3) rfl c3 (fun _=>rfl) (FRd.cons (fd:=(⟨"Low",3,12,false, "", "",168⟩:Field)) (Rd.int U6 u3) rfl c3 (fun _=>rfl) (FRd.cons (fd:=(⟨"High",3,13,false, "", "",176⟩:Field)) (Rd.int U6 u3) rfl c3 (fun _=>rfl) (FRd.cons (fd:=(⟨"Numbers",51,14,false, "", "",184⟩:Field)) (Rd.sl U6 (f:=fun n:Int=>[D.int .i64 n]) (bk:=fun _=>1) u51 c3 (Nat.le_refl _) (fun _=>rfl) (fun _ _=>Rd.int U6 u3)) rfl c51 (fun _=>rfl) (FRd.cons (fd:=(⟨"Then",23,15,false, "", "",208⟩:Field)) (Rd.sl U6 (f:=C0.row) (bk:=C0.bulk) u23 c53 (by omega) C0.row_len (fun m hm=>ih m (by omega))) rfl c23 (fun _=>rfl) (FRd.cons (fd:=(⟨"Else",23,16,false, "", "",232⟩:Field)) (Rd.sl U6 (f:=C0.row) (bk:=C0.bulk) u23 c53 (by omega) C0.row_len (fun m hm=>ih m (by omega))) rfl c23 (fun _=>rfl) FRd.nil))))))))))
 exact Rd.st U6 Tryz.underlying53 rfl c53 C0.row_len F (fun p=>C0.mk p.1 p.2.1 p.2.2.1 p.2.2.2.1 p.2.2.2.2.1 p.2.2.2.2.2.1 p.2.2.2.2.2.2.1 p.2.2.2.2.2.2.2.1 p.2.2.2.2.2.2.2.2.1 p.2.2.2.2.2.2.2.2.2.1 p.2.2.2.2.2.2.2.2.2.2.1) (fun x=>by simp [C0.row,B0.row,A0.rows_map,B0.rows_map,C0.rows_map,estr.rows,estr.row,ei64.rows,ei64.row]) (fun x=>by simp [C0.bulk,B0.bulks_map,C0.bulks_map])
theorem D0.bulks_map:∀ l:List D0,D0.bulks l=(l.map D0.bulk).sum
 | []=>rfl
 | x::r=>by simp only [D0.bulks,List.map_cons,List.sum_cons,D0.bulks_map r]
theorem D0.row_len (x:D0):(D0.row x).length=17:=rfl
theorem D0.rd:∀ fuel,Rd enc Tryz.prog W Rows.uptoBulk fuel 59 D0.row D0.bulk:=by
 intro fuel
 induction fuel using Nat.strongRecOn with
 | ind fuel ih=>
 have F:=fun n (hn:n < fuel)=>FRd.cons (enc:=enc) (W:=W) (off:=0) (fd:=(⟨"Kind",57,0,false, "", "",0⟩:Field)) (Rd.int (fuel:=n) U6 u57) rfl c57 (fun _=>rfl) (FRd.cons (fd:=(⟨"Name",9,1,false, "", "",8⟩:Field)) (Rd.str U6 u9) rfl c9 (fun _=>rfl) (FRd.cons (fd:=(⟨"Type",40,2,false, "", "",24⟩:Field)) (A0.rd _) rfl c40 (fun _=>rfl) (FRd.cons (fd:=(⟨"Init",3,9,false, "", "",120⟩:Field)) (Rd.int U6 u3) rfl c3 (fun _=>rfl) (FRd.cons (fd:=(⟨"Value",34,10,false, "", "",128⟩:Field)) (B0.rd _) rfl c34 (fun _=>rfl) (FRd.cons (fd:=(⟨"Params",22,14,false, "", "",184⟩:Field)) (Rd.sl U6 (f:=D0.row) (bk:=D0.bulk) u22 c59 (by omega) D0.row_len (fun m hm=>ih m (by omega))) rfl c22 (fun _=>rfl) (FRd.cons (fd:=(⟨"Vars",22,15,false, "", "",208⟩:Field)) (Rd.sl U6 (f:=D0.row) (bk:=D0.bulk) u22 c59 (by omega) D0.row_len (fun m hm=>ih m (by omega))) rfl c22 (fun _=>rfl) (FRd.cons (fd:=(⟨"Body",23,16,false, "", "",232⟩:Field)) (Rd.sl U6 (f:=C0.row) (bk:=C0.bulk) u23 c53 (by omega) C0.row_len (fun m hm=>C0.rd m)) rfl c23 (fun _=>rfl) FRd.nil)))))))
 exact Rd.st U6 Tryz.underlying59 rfl c59 D0.row_len F (fun p=>D0.mk p.1 p.2.1 p.2.2.1 p.2.2.2.1 p.2.2.2.2.1 p.2.2.2.2.2.1 p.2.2.2.2.2.2.1 p.2.2.2.2.2.2.2.1) (fun x=>by simp [D0.row,B0.row,C0.row,A0.row,A0.rows_map,B0.rows_map,C0.rows_map,D0.rows_map,estr.rows,estr.row,ei64.rows,ei64.row]) (fun x=>by simp [D0.bulk,D0.bulks_map,B0.bulks_map,C0.bulks_map,A0.bulks_map])
theorem O0.bulks_map:∀ l:List O0,O0.bulks l=(l.map O0.bulk).sum
 | []=>rfl
 | x::r=>by simp only [O0.bulks,List.map_cons,List.sum_cons,O0.bulks_map r]
theorem O0.row_len (x:O0):(O0.row x).length=2:=rfl
theorem O0.rd:∀ fuel,Rd enc Tryz.prog W Rows.uptoBulk fuel 25 O0.row O0.bulk:=by
 intro fuel
 induction fuel using Nat.strongRecOn with
 | ind fuel ih=>
 have F:=fun n (hn:n < fuel)=>FRd.cons (enc:=enc) (W:=W) (off:=0) (fd:=(⟨"Decls",22,0,false, "", "",0⟩:Field)) (Rd.sl (fuel:=n) U6 (f:=D0.row) (bk:=D0.bulk) u22 c59 (by omega) D0.row_len (fun m hm=>D0.rd m)) rfl c22 (fun _=>rfl) (FRd.cons (fd:=(⟨"Body",23,1,false, "", "",24⟩:Field)) (Rd.sl U6 (f:=C0.row) (bk:=C0.bulk) u23 c53 (by omega) C0.row_len (fun m hm=>C0.rd m)) rfl c23 (fun _=>rfl) FRd.nil)
 exact Rd.st U6 Tryz.underlying25 rfl c25 O0.row_len F (fun p=>O0.mk p.1 p.2.1) (fun x=>by simp [O0.row,D0.row,C0.row,A0.rows_map,B0.rows_map,C0.rows_map,D0.rows_map,O0.rows_map,estr.rows,estr.row,ei64.rows,ei64.row]) (fun x=>by simp [O0.bulk,D0.bulks_map,C0.bulks_map])
end
def Zf (t:TypeId):Prop:=t∈[57,9,36,3,37,38,40,31,32,34,50,51,53,23,59,22,25,4]
theorem W1p:Q1e Tryz.prog Zf:=by
 intro t ht
 simp only [Zf,List.mem_cons,List.not_mem_nil,or_false] at ht
 rcases ht with rfl | rfl | rfl | rfl | rfl | rfl | rfl | rfl | rfl | rfl | rfl | rfl | rfl | rfl | rfl | rfl | rfl | rfl
 ·exact .inr (.inl ⟨_,u57⟩)
 ·exact .inr (.inr (.inl u9))
 ·exact .inr (.inl ⟨_,u36⟩)
 ·exact .inr (.inl ⟨_,u3⟩)
 ·exact .inr (.inr (.inr (.inl ⟨_,u37,by simp [Zf],by rw [c9]; omega⟩)))
 ·exact .inr (.inr (.inr (.inl ⟨_,u38,by simp [Zf],by rw [c40]; omega⟩)))
 ·refine .inr (.inr (.inr (.inr ⟨_,Tryz.underlying40,fun f hf=>?_⟩)))
  simp at hf
  rcases hf with rfl | rfl | rfl | rfl | rfl | rfl | rfl <;> simp [Zf]
 ·exact .inr (.inl ⟨_,u31⟩)
 ·exact .inr (.inr (.inr (.inl ⟨_,u32,by simp [Zf],by rw [c34]; omega⟩)))
 ·refine .inr (.inr (.inr (.inr ⟨_,Tryz.underlying34,fun f hf=>?_⟩)))
  simp at hf
  rcases hf with rfl | rfl | rfl | rfl <;> simp [Zf]
 ·exact .inr (.inl ⟨_,u50⟩)
 ·exact .inr (.inr (.inr (.inl ⟨_,u51,by simp [Zf],by rw [c3]; omega⟩)))
 ·refine .inr (.inr (.inr (.inr ⟨_,Tryz.underlying53,fun f hf=>?_⟩)))
  simp at hf
  rcases hf with rfl | rfl | rfl | rfl | rfl | rfl | rfl | rfl | rfl | rfl | rfl <;> simp [Zf]
 ·exact .inr (.inr (.inr (.inl ⟨_,u23,by simp [Zf],by rw [c53]; omega⟩)))
 ·refine .inr (.inr (.inr (.inr ⟨_,Tryz.underlying59,fun f hf=>?_⟩)))
  simp at hf
  rcases hf with rfl | rfl | rfl | rfl | rfl | rfl | rfl | rfl <;> simp [Zf]
 ·exact .inr (.inr (.inr (.inl ⟨_,u22,by simp [Zf],by rw [c59]; omega⟩)))
 ·refine .inr (.inr (.inr (.inr ⟨_,Tryz.underlying25,fun f hf=>?_⟩)))
  simp at hf
  rcases hf with rfl | rfl <;> simp [Zf]
 ·exact .inl u4
end Go.Proofs.YtdkabnfphmmmnaaGreatDoor

namespace Go.Proofs.YtdkabnfphmmmnaaGreatDoor
open Go.Am Go.ChangeShapes Go.WideShapes Go.ChangeAt Go.RowKit
theorem own : ownKnob Tryz.prog.godebug = none := by kernel_rfl
def laidL : List (String × DataW Unit) := [("math/bits.deBruijn32tab", Rows.laid_math_bits_deBruijn32tab), ("math/bits.deBruijn64tab", Rows.laid_math_bits_deBruijn64tab), ("internal/strconv.uint64pow10", Rows.laid_internal_strconv_uint64pow10)]
theorem laid_of {W : World} (h : laidMetH Tryz.prog laidL W) : laidMet Tryz.prog laidL W := h
theorem glOk {W : World} (h : W.ShapedOpen Tryz.prog) (hL : laidMet Tryz.prog laidL W) : Cw C (Yc W) W := by
  obtain ⟨m, hm⟩ := cell_of_shapedOpen_int (g := 1) (zero := #[.int .i64 0]) (t := 3) h (of_decide_eq_true (by kernel_rfl)) (by kernel_rfl) rfl (by kernel_rfl) (by kernel_rfl) Tryz.underlying3
  obtain ⟨h10, hm10⟩ := K1i hL 2 (name := "internal/strconv.uint64pow10") (k := .u64) (zs := Lib.pow10Tab) rfl (g := 0) (t := 243) (e := 236) (n := 20) (by kernel_rfl) (by kernel_rfl) (by kernel_rfl) (by kernel_rfl) (by kernel_rfl) (by kernel_rfl)
  exact { tab := fun G g cs e => (by cases e), gp := ⟨⟨m, (Qz hm).1⟩, hm10, h10⟩ }
def laidCells : DataW Unit → Array Value
  | .agg l => (l.map fun
      | .lit (.int k n) => .int k n
      | .lit (.string s) => .string ⟨s.toArray⟩
      | _ => .bool false).toArray
  | _ => #[]
def laidPut (d : DataW Unit) : Obj → Obj
  | .cells _ t frozen => .cells (laidCells d) t frozen
  | o => o
noncomputable def laidWorld (os : Os) : World :=
  { World.holding Tryz.prog os ⟨#[], #[], []⟩ with heap := ((((World.holding Tryz.prog os ⟨#[], #[], []⟩).heap.modify 2 (laidPut Rows.laid_math_bits_deBruijn32tab)).modify 3 (laidPut Rows.laid_math_bits_deBruijn64tab)).modify 0 (laidPut Rows.laid_internal_strconv_uint64pow10)) }
def zv3 : _root_.Go.Value := .int .i64 0
def zr3 {H : Type} : DataW H := .lit (.int .i64 0)
def zv9 : _root_.Go.Value := .string ⟨#[]⟩
def zr9 {H : Type} : DataW H := .lit (.string [])
def zv25 : _root_.Go.Value := .agg #[.slice none 0 0, .slice none 0 0]
def zr25 {H : Type} : DataW H := .agg [.nil, .nil]
def zv34 : _root_.Go.Value := .agg #[.int .i64 0, .int .i64 0, .string ⟨#[]⟩, .slice none 0 0]
def zr34 {H : Type} : DataW H := .agg [.lit (.int .i64 0), .lit (.int .i64 0), .lit (.string []), .nil]
end Go.Proofs.YtdkabnfphmmmnaaGreatDoor

