/- A part of the proof of ParserInverse. -/
import Derived.Test.YtmnhfbekncjnfaaGreatDoorRows
import Derived.Test.YtmnhfbekncjnfaaGreatDoorPlA
import Derived.ProofKit
import Derived.OpenShut
import Derived.Deep.DeepHandedRow
import Derived.Lib.LaidTab
import Derived.Test.YtmnhfbekncjnfaaGreatDoorCards
import Derived.Test.YtmnhfbekncjnfaaGreatDoorTie
import Derived.WalkKit
import Derived.HandedShaped
set_option linter.unusedSimpArgs false
set_option linter.unusedVariables false
set_option maxRecDepth 10000
namespace Go.Proofs.YtmnhfbekncjnfaaGreatDoor
open Go.Am Go.ChangeShapes Go.WideShapes Go.ChangeAt Go.RowKit
theorem Kz {H:Type}:∀ l:List (DataW H),Rows.uptoBulkAll l=(l.map Rows.uptoBulk).sum
 | []=>rfl
 | x::r=>by simp only [Rows.uptoBulkAll,List.map_cons,List.sum_cons,Kz r]
theorem P9 {H:Type}:U1g (Rows.uptoBulk (H:=H)) where
 lit l:=by cases l <;> simp [Rows.uptoBulk]
 str s:=by simp [Rows.uptoBulk]
 nil:=by simp [Rows.uptoBulk]
 sl es sp:=by simp only [Rows.uptoBulk,Kz]; omega
 agg ps:=by simp only [Rows.uptoBulk,Kz]; omega
section
variable {H:Type}{enc:TypeId×_root_.Go.Value→H}{W:World}
theorem c9:Tryz.prog.cellsOf 9=1:=by kernel_rfl
theorem c23:Tryz.prog.cellsOf 23=1:=by kernel_rfl
theorem c3:Tryz.prog.cellsOf 3=1:=by kernel_rfl
theorem c24:Tryz.prog.cellsOf 24=1:=by kernel_rfl
theorem c26:Tryz.prog.cellsOf 26=4:=by kernel_rfl
theorem c32:Tryz.prog.cellsOf 32=1:=by kernel_rfl
theorem c33:Tryz.prog.cellsOf 33=1:=by kernel_rfl
theorem c34:Tryz.prog.cellsOf 34=1:=by kernel_rfl
theorem c36:Tryz.prog.cellsOf 36=7:=by kernel_rfl
theorem I1y:Tryz.prog.cellsOf 126=1:=by kernel_rfl
theorem J1y:Tryz.prog.cellsOf 141=1:=by kernel_rfl
theorem K1y:Tryz.prog.cellsOf 142=1:=by kernel_rfl
theorem Y1d:Tryz.prog.cellsOf 144=17:=by kernel_rfl
theorem c47:Tryz.prog.cellsOf 47=1:=by kernel_rfl
theorem F1j:Tryz.prog.cellsOf 128=17:=by kernel_rfl
theorem c46:Tryz.prog.cellsOf 46=1:=by kernel_rfl
theorem c49:Tryz.prog.cellsOf 49=2:=by kernel_rfl
theorem c5:Tryz.prog.cellsOf 5=1:=by kernel_rfl
theorem c4:Tryz.prog.cellsOf 4=1:=by kernel_rfl
theorem u9:Tryz.prog.underlying 9=some .string:=by kernel_rfl
theorem u23:Tryz.prog.underlying 23=some (.int .i64):=by kernel_rfl
theorem u3:Tryz.prog.underlying 3=some (.int .i64):=by kernel_rfl
theorem u24:Tryz.prog.underlying 24=some (.slice 26):=by kernel_rfl
theorem u32:Tryz.prog.underlying 32=some (.int .i64):=by kernel_rfl
theorem u33:Tryz.prog.underlying 33=some (.slice 9):=by kernel_rfl
theorem u34:Tryz.prog.underlying 34=some (.slice 36):=by kernel_rfl
theorem W1w:Tryz.prog.underlying 126=some (.int .i64):=by kernel_rfl
theorem X1w:Tryz.prog.underlying 141=some (.int .i64):=by kernel_rfl
theorem Y1w:Tryz.prog.underlying 142=some (.slice 3):=by kernel_rfl
theorem u47:Tryz.prog.underlying 47=some (.slice 144):=by kernel_rfl
theorem u46:Tryz.prog.underlying 46=some (.slice 128):=by kernel_rfl
theorem u5:Tryz.prog.underlying 5=some (.int .u8):=by kernel_rfl
theorem u56:Tryz.prog.underlying 56=some (.slice 5):=by kernel_rfl
theorem u4:Tryz.prog.underlying 4=some .bool:=by kernel_rfl
theorem A0.bulks_map:∀ l:List A0,A0.bulks l=(l.map A0.bulk).sum
 | []=>rfl
 | x::r=>by simp only [A0.bulks,List.map_cons,List.sum_cons,A0.bulks_map r]
theorem A0.row_len (x:A0):(A0.row x).length=4:=rfl
theorem A0.rd:∀ fuel,Rd enc Tryz.prog W Rows.uptoBulk fuel 26 A0.row A0.bulk:=by
 intro fuel
 induction fuel using Nat.strongRecOn with
 | ind fuel ih=>
 have F:=fun n (hn:n < fuel)=>FRd.cons (enc:=enc) (W:=W) (off:=0) (fd:=(⟨"Op",23,0,false, "", "",0⟩:Field)) (Rd.int (fuel:=n) P9 u23) rfl c23 (fun _=>rfl) (FRd.cons (fd:=(⟨"N",3,1,false, "", "",8⟩:Field)) (Rd.int P9 u3) rfl c3 (fun _=>rfl) (FRd.cons (fd:=(⟨"Name",9,2,false, "", "",16⟩:Field)) (Rd.str P9 u9) rfl c9 (fun _=>rfl) (FRd.cons (fd:=(⟨"Kids",24,3,false, "", "",32⟩:Field)) (Rd.sl P9 (f:=A0.row) (bk:=A0.bulk) u24 c26 (by omega) A0.row_len (fun m hm=>ih m (by omega))) rfl c24 (fun _=>rfl) FRd.nil)))
 exact Rd.st P9 Tryz.underlying26 rfl c26 A0.row_len F (fun p=>A0.mk p.1 p.2.1 p.2.2.1 p.2.2.2.1) (fun x=>by simp [A0.row,A0.rows_map,estr.rows,estr.row,ei64.rows,ei64.row]) (fun x=>by simp [A0.bulk,A0.bulks_map])
theorem E0.bulks_map:∀ l:List E0,E0.bulks l=(l.map E0.bulk).sum
 | []=>rfl
 | x::r=>by simp only [E0.bulks,List.map_cons,List.sum_cons,E0.bulks_map r]
theorem E0.row_len (x:E0):(E0.row x).length=7:=rfl
theorem E0.rd:∀ fuel,Rd enc Tryz.prog W Rows.uptoBulk fuel 36 E0.row E0.bulk:=by
 intro fuel
 induction fuel using Nat.strongRecOn with
 | ind fuel ih=>
 have F:=fun n (hn:n < fuel)=>FRd.cons (enc:=enc) (W:=W) (off:=0) (fd:=(⟨"Kind",32,0,false, "", "",0⟩:Field)) (Rd.int (fuel:=n) P9 u32) rfl c32 (fun _=>rfl) (FRd.cons (fd:=(⟨"Low",3,1,false, "", "",8⟩:Field)) (Rd.int P9 u3) rfl c3 (fun _=>rfl) (FRd.cons (fd:=(⟨"High",3,2,false, "", "",16⟩:Field)) (Rd.int P9 u3) rfl c3 (fun _=>rfl) (FRd.cons (fd:=(⟨"Size",3,3,false, "", "",24⟩:Field)) (Rd.int P9 u3) rfl c3 (fun _=>rfl) (FRd.cons (fd:=(⟨"Name",9,4,false, "", "",32⟩:Field)) (Rd.str P9 u9) rfl c9 (fun _=>rfl) (FRd.cons (fd:=(⟨"Names",33,5,false, "", "",48⟩:Field)) (Rd.sl P9 (f:=fun s:Str=>[D.str s]) (bk:=fun s=>s.length+1) u33 c9 (zqr _) (fun _=>rfl) (fun _ _=>Rd.str P9 u9)) rfl c33 (fun _=>rfl) (FRd.cons (fd:=(⟨"Of",34,6,false, "", "",72⟩:Field)) (Rd.sl P9 (f:=E0.row) (bk:=E0.bulk) u34 c36 (by omega) E0.row_len (fun m hm=>ih m (by omega))) rfl c34 (fun _=>rfl) FRd.nil))))))
 exact Rd.st P9 Tryz.underlying36 rfl c36 E0.row_len F (fun p=>E0.mk p.1 p.2.1 p.2.2.1 p.2.2.2.1 p.2.2.2.2.1 p.2.2.2.2.2.1 p.2.2.2.2.2.2.1) (fun x=>by simp [E0.row,A0.rows_map,E0.rows_map,estr.rows,estr.row,ei64.rows,ei64.row]) (fun x=>by simp [E0.bulk,E0.bulks_map])
theorem B0.bulks_map:∀ l:List B0,B0.bulks l=(l.map B0.bulk).sum
 | []=>rfl
 | x::r=>by simp only [B0.bulks,List.map_cons,List.sum_cons,B0.bulks_map r]
theorem B0.row_len (x:B0):(B0.row x).length=17:=rfl
theorem B0.rd:∀ fuel,Rd enc Tryz.prog W Rows.uptoBulk fuel 144 B0.row B0.bulk:=by
 intro fuel
 induction fuel using Nat.strongRecOn with
 | ind fuel ih=>
 have F:=fun n (hn:n < fuel)=>FRd.cons (enc:=enc) (W:=W) (off:=0) (fd:=(⟨"Verb",141,0,false, "", "",0⟩:Field)) (Rd.int (fuel:=n) P9 X1w) rfl J1y (fun _=>rfl) (FRd.cons (fd:=(⟨"Place",26,1,false, "", "",8⟩:Field)) (A0.rd _) rfl c26 (fun _=>rfl) (FRd.cons (fd:=(⟨"Value",26,5,false, "", "",64⟩:Field)) (A0.rd _) rfl c26 (fun _=>rfl) (FRd.cons (fd:=(⟨"Name",9,9,false, "", "",120⟩:Field)) (Rd.str P9 u9) rfl c9 (fun _=>rfl) (FRd.cons (fd:=(⟨"Args",24,10,false, "", "",136⟩:Field)) (Rd.sl P9 (f:=A0.row) (bk:=A0.bulk) u24 c26 (by omega) A0.row_len (fun m hm=>A0.rd m)) rfl c24 (fun _=>rfl) (FRd.cons (fd:=(⟨"N",3,11,false, "", "",160⟩:Field)) (Rd.int P9 u3) rfl c3 (fun _=>rfl) (FRd.cons (fd:=(⟨"Low",3,12,false, "", "",168⟩:Field)) (Rd.int P9 u3) rfl c3 (fun _=>rfl) (FRd.cons (fd:=(⟨"High",3,13,false, "", "",176⟩:Field)) (Rd.int P9 u3) rfl c3 (fun _=>rfl) (FRd.cons (fd:=(⟨"Numbers",142,14,false, "", "",184⟩:Field)) (Rd.sl P9 (f:=fun n:Int=>[D.int .i64 n]) (bk:=fun _=>1) Y1w c3 (zqr _) (fun _=>rfl) (fun _ _=>Rd.int P9 u3)) rfl K1y (fun _=>rfl) (FRd.cons (fd:=(⟨"Then",47,15,false, "", "",208⟩:Field)) (Rd.sl P9 (f:=B0.row) (bk:=B0.bulk) u47 Y1d (by omega) B0.row_len (fun m hm=>ih m (by omega))) rfl c47 (fun _=>rfl) (FRd.cons (fd:=(⟨"Else",47,16,false, "", "",232⟩:Field)) (Rd.sl P9 (f:=B0.row) (bk:=B0.bulk) u47 Y1d (by omega) B0.row_len (fun m hm=>ih m (by omega))) rfl c47 (fun _=>rfl) FRd.nil))))))))))
 exact Rd.st P9 Tryz.underlying144 rfl Y1d B0.row_len F (fun p=>B0.mk p.1 p.2.1 p.2.2.1 p.2.2.2.1 p.2.2.2.2.1 p.2.2.2.2.2.1 p.2.2.2.2.2.2.1 p.2.2.2.2.2.2.2.1 p.2.2.2.2.2.2.2.2.1 p.2.2.2.2.2.2.2.2.2.1 p.2.2.2.2.2.2.2.2.2.2.1) (fun x=>by simp [B0.row,A0.row,A0.rows_map,E0.rows_map,B0.rows_map,estr.rows,estr.row,ei64.rows,ei64.row]) (fun x=>by simp [B0.bulk,A0.bulks_map,B0.bulks_map])
theorem C0.bulks_map:∀ l:List C0,C0.bulks l=(l.map C0.bulk).sum
 | []=>rfl
 | x::r=>by simp only [C0.bulks,List.map_cons,List.sum_cons,C0.bulks_map r]
theorem C0.row_len (x:C0):(C0.row x).length=17:=rfl
theorem C0.rd:∀ fuel,Rd enc Tryz.prog W Rows.uptoBulk fuel 128 C0.row C0.bulk:=by
 intro fuel
 induction fuel using Nat.strongRecOn with
 | ind fuel ih=>
 have F:=fun n (hn:n < fuel)=>FRd.cons (enc:=enc) (W:=W) (off:=0) (fd:=(⟨"Kind",126,0,false, "", "",0⟩:Field)) (Rd.int (fuel:=n) P9 W1w) rfl I1y (fun _=>rfl) (FRd.cons (fd:=(⟨"Name",9,1,false, "", "",8⟩:Field)) (Rd.str P9 u9) rfl c9 (fun _=>rfl) (FRd.cons (fd:=(⟨"Type",36,2,false, "", "",24⟩:Field)) (E0.rd _) rfl c36 (fun _=>rfl) (FRd.cons (fd:=(⟨"Init",3,9,false, "", "",120⟩:Field)) (Rd.int P9 u3) rfl c3 (fun _=>rfl) (FRd.cons (fd:=(⟨"Value",26,10,false, "", "",128⟩:Field)) (A0.rd _) rfl c26 (fun _=>rfl) (FRd.cons (fd:=(⟨"Params",46,14,false, "", "",184⟩:Field)) (Rd.sl P9 (f:=C0.row) (bk:=C0.bulk) u46 F1j (by omega) C0.row_len (fun m hm=>ih m (by omega))) rfl c46 (fun _=>rfl) (FRd.cons (fd:=(⟨"Vars",46,15,false, "", "",208⟩:Field)) (Rd.sl P9 (f:=C0.row) (bk:=C0.bulk) u46 F1j (by omega) C0.row_len (fun m hm=>ih m (by omega))) rfl c46 (fun _=>rfl) (FRd.cons (fd:=(⟨"Body",47,16,false, "", "",232⟩:Field)) (Rd.sl P9 (f:=B0.row) (bk:=B0.bulk) u47 Y1d (by omega) B0.row_len (fun m hm=>B0.rd m)) rfl c47 (fun _=>rfl) FRd.nil)))))))
 exact Rd.st P9 Tryz.underlying128 rfl F1j C0.row_len F (fun p=>C0.mk p.1 p.2.1 p.2.2.1 p.2.2.2.1 p.2.2.2.2.1 p.2.2.2.2.2.1 p.2.2.2.2.2.2.1 p.2.2.2.2.2.2.2.1) (fun x=>by simp [C0.row,A0.row,B0.row,E0.row,A0.rows_map,E0.rows_map,B0.rows_map,C0.rows_map,estr.rows,estr.row,ei64.rows,ei64.row]) (fun x=>by simp [C0.bulk,C0.bulks_map,A0.bulks_map,B0.bulks_map,E0.bulks_map])
theorem O0.bulks_map:∀ l:List O0,O0.bulks l=(l.map O0.bulk).sum
 | []=>rfl
 | x::r=>by simp only [O0.bulks,List.map_cons,List.sum_cons,O0.bulks_map r]
theorem O0.row_len (x:O0):(O0.row x).length=2:=rfl
theorem O0.rd:∀ fuel,Rd enc Tryz.prog W Rows.uptoBulk fuel 49 O0.row O0.bulk:=by
 intro fuel
 induction fuel using Nat.strongRecOn with
 | ind fuel ih=>
 have F:=fun n (hn:n < fuel)=>FRd.cons (enc:=enc) (W:=W) (off:=0) (fd:=(⟨"Decls",46,0,false, "", "",0⟩:Field)) (Rd.sl (fuel:=n) P9 (f:=C0.row) (bk:=C0.bulk) u46 F1j (by omega) C0.row_len (fun m hm=>C0.rd m)) rfl c46 (fun _=>rfl) (FRd.cons (fd:=(⟨"Body",47,1,false, "", "",24⟩:Field)) (Rd.sl P9 (f:=B0.row) (bk:=B0.bulk) u47 Y1d (by omega) B0.row_len (fun m hm=>B0.rd m)) rfl c47 (fun _=>rfl) FRd.nil)
 exact Rd.st P9 Tryz.underlying49 rfl c49 O0.row_len F (fun p=>O0.mk p.1 p.2.1) (fun x=>by simp [O0.row,C0.row,B0.row,A0.rows_map,E0.rows_map,B0.rows_map,C0.rows_map,O0.rows_map,estr.rows,estr.row,ei64.rows,ei64.row]) (fun x=>by simp [O0.bulk,C0.bulks_map,B0.bulks_map])
end
def Wg (t:TypeId):Prop:=t∈[9,23,3,24,26,32,33,34,36,126,141,142,144,47,128,46,49,5,56,4]
theorem W1q:W1f Tryz.prog Wg:=by
 intro t ht
 simp only [Wg,List.mem_cons,List.not_mem_nil,or_false] at ht
 rcases ht with rfl | rfl | rfl | rfl | rfl | rfl | rfl | rfl | rfl | rfl | rfl | rfl | rfl | rfl | rfl | rfl | rfl | rfl | rfl | rfl
 ·exact .inr (.inr (.inl u9))
 ·exact .inr (.inl ⟨_,u23⟩)
 ·exact .inr (.inl ⟨_,u3⟩)
 ·exact .inr (.inr (.inr (.inl ⟨_,u24,by simp [Wg],by rw [c26]; omega⟩)))
 ·refine .inr (.inr (.inr (.inr ⟨_,Tryz.underlying26,fun f hf=>?_⟩)))
  simp at hf
  rcases hf with rfl | rfl | rfl | rfl <;> simp [Wg]
 ·exact .inr (.inl ⟨_,u32⟩)
 ·exact .inr (.inr (.inr (.inl ⟨_,u33,by simp [Wg],by rw [c9]; omega⟩)))
 ·exact .inr (.inr (.inr (.inl ⟨_,u34,by simp [Wg],by rw [c36]; omega⟩)))
 ·refine .inr (.inr (.inr (.inr ⟨_,Tryz.underlying36,fun f hf=>?_⟩)))
  simp at hf
  rcases hf with rfl | rfl | rfl | rfl | rfl | rfl | rfl <;> simp [Wg]
 ·exact .inr (.inl ⟨_,W1w⟩)
 ·exact .inr (.inl ⟨_,X1w⟩)
 ·exact .inr (.inr (.inr (.inl ⟨_,Y1w,by simp [Wg],by rw [c3]; omega⟩)))
 ·refine .inr (.inr (.inr (.inr ⟨_,Tryz.underlying144,fun f hf=>?_⟩)))
  simp at hf
  rcases hf with rfl | rfl | rfl | rfl | rfl | rfl | rfl | rfl | rfl | rfl | rfl <;> simp [Wg]
 ·exact .inr (.inr (.inr (.inl ⟨_,u47,by simp [Wg],by rw [Y1d]; omega⟩)))
 ·refine .inr (.inr (.inr (.inr ⟨_,Tryz.underlying128,fun f hf=>?_⟩)))
  simp at hf
  rcases hf with rfl | rfl | rfl | rfl | rfl | rfl | rfl | rfl <;> simp [Wg]
 ·exact .inr (.inr (.inr (.inl ⟨_,u46,by simp [Wg],by rw [F1j]; omega⟩)))
 ·refine .inr (.inr (.inr (.inr ⟨_,Tryz.underlying49,fun f hf=>?_⟩)))
  simp at hf
  rcases hf with rfl | rfl <;> simp [Wg]
 ·exact .inr (.inl ⟨_,u5⟩)
 ·exact .inr (.inr (.inr (.inl ⟨_,u56,by simp [Wg],by rw [c5]; omega⟩)))
 ·exact .inl u4
end Go.Proofs.YtmnhfbekncjnfaaGreatDoor

namespace Go.Proofs.YtmnhfbekncjnfaaGreatDoor
open Go.Am Go.ChangeShapes Go.WideShapes Go.ChangeAt Go.RowKit
theorem own : ownKnob Tryz.prog.godebug = none := by kernel_rfl
def laidL : List (String × DataW Unit) := [("math/bits.deBruijn32tab", Rows.laid_math_bits_deBruijn32tab), ("math/bits.deBruijn64tab", Rows.laid_math_bits_deBruijn64tab), ("internal/strconv.uint64pow10", Rows.laid_internal_strconv_uint64pow10), ("strconv.ErrRange", Rows.laid_strconv_ErrRange), ("strconv.ErrSyntax", Rows.laid_strconv_ErrSyntax)]
theorem laid_of {W : World} (h : laidMetH Tryz.prog laidL W) : laidMet Tryz.prog laidL W := h
theorem glOk {W : World} (h : W.ShapedOpen Tryz.prog) (hL : laidMet Tryz.prog laidL W) : Qq C (Yg W) W := by
  obtain ⟨m, hm⟩ := cell_of_shapedOpen_int (g := 2) (zero := #[.int .i64 0]) (t := 3) h (of_decide_eq_true (by kernel_rfl)) (by kernel_rfl) rfl (by kernel_rfl) (by kernel_rfl) Tryz.underlying3
  obtain ⟨h10, hm10⟩ := I1j hL 2 (name := "internal/strconv.uint64pow10") (k := .u64) (zs := Lib.pow10Tab) rfl (g := 3) (t := 232) (e := 208) (n := 20) (by kernel_rfl) (by kernel_rfl) (by kernel_rfl) (by kernel_rfl) (by kernel_rfl) (by kernel_rfl)
  exact { tab := fun G g cs e => (by cases e), gp := ⟨⟨m, (M11 hm).1⟩, hm10, h10⟩ }
def laidCells : DataW Unit → Array Value
  | .agg l => (l.map fun
      | .lit (.int k n) => .int k n
      | .lit (.string s) => .string ⟨s.toArray⟩
      | _ => .bool false).toArray
  | _ => #[]
def laidBox (t b : Nat) : Obj → Obj
  | .cells _ ty frozen => .cells #[.iface t (.pointer (some ⟨b, 0, none⟩))] ty frozen
  | o => o
def laidPut (d : DataW Unit) : Obj → Obj
  | .cells _ t frozen => .cells (laidCells d) t frozen
  | o => o
noncomputable def laidWorld (os : Os) : World :=
  { World.holding Tryz.prog os ⟨#[], #[], []⟩ with heap := ((((((((World.holding Tryz.prog os ⟨#[], #[], []⟩).heap.modify 4 (laidPut Rows.laid_math_bits_deBruijn32tab)).modify 5 (laidPut Rows.laid_math_bits_deBruijn64tab)).modify 3 (laidPut Rows.laid_internal_strconv_uint64pow10)).modify 1 (laidBox 218 ((World.holding Tryz.prog os ⟨#[], #[], []⟩).heap.size + 0))).push (.cells #[.string ⟨([118, 97, 108, 117, 101, 32, 111, 117, 116, 32, 111, 102, 32, 114, 97, 110, 103, 101] : List UInt8).toArray⟩] 220 (0, 0))).modify 0 (laidBox 218 ((World.holding Tryz.prog os ⟨#[], #[], []⟩).heap.size + 1))).push (.cells #[.string ⟨([105, 110, 118, 97, 108, 105, 100, 32, 115, 121, 110, 116, 97, 120] : List UInt8).toArray⟩] 220 (0, 0))) }
def zv9 : _root_.Go.Value := .string ⟨#[]⟩
def zr9 {H : Type} : DataW H := .lit (.string [])
def zv26 : _root_.Go.Value := .agg #[.int .i64 0, .int .i64 0, .string ⟨#[]⟩, .slice none 0 0]
def zr26 {H : Type} : DataW H := .agg [.lit (.int .i64 0), .lit (.int .i64 0), .lit (.string []), .nil]
def zv36 : _root_.Go.Value := .agg #[.int .i64 0, .int .i64 0, .int .i64 0, .int .i64 0, .string ⟨#[]⟩, .slice none 0 0, .slice none 0 0]
def zr36 {H : Type} : DataW H := .agg [.lit (.int .i64 0), .lit (.int .i64 0), .lit (.int .i64 0), .lit (.int .i64 0), .lit (.string []), .nil, .nil]
def zv49 : _root_.Go.Value := .agg #[.slice none 0 0, .slice none 0 0]
def zr49 {H : Type} : DataW H := .agg [.nil, .nil]
def zv56 : _root_.Go.Value := .slice none 0 0
def zr56 {H : Type} : DataW H := .nil
end Go.Proofs.YtmnhfbekncjnfaaGreatDoor

