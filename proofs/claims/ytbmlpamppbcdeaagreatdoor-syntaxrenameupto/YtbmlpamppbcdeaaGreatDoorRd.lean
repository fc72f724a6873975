/- A part of the proof of SyntaxRename. -/
import Derived.Test.YtbmlpamppbcdeaaGreatDoorRows
import Derived.Test.YtbmlpamppbcdeaaGreatDoorPlA
import Derived.ProofKit
import Derived.OpenShut
import Derived.Deep.DeepHandedRow
import Derived.Lib.LaidTab
import Derived.Test.YtbmlpamppbcdeaaGreatDoorCards
import Derived.Test.YtbmlpamppbcdeaaGreatDoorTie
import Derived.WalkKit
import Derived.HandedShaped
set_option linter.unusedSimpArgs false
set_option linter.unusedVariables false
set_option maxRecDepth 10000
namespace Go.Proofs.YtbmlpamppbcdeaaGreatDoor
open Go.Am Go.ChangeShapes Go.WideShapes Go.ChangeAt Go.RowKit
theorem L12 {H:Type}:∀ l:List (DataW H),Rows.uptoBulkAll l=(l.map Rows.uptoBulk).sum
 | []=>rfl
 | x::r=>by simp only [Rows.uptoBulkAll,List.map_cons,List.sum_cons,L12 r]
theorem M8 {H:Type}:M1i (Rows.uptoBulk (H:=H)) where
 lit l:=by cases l <;> simp [Rows.uptoBulk]
 str s:=by simp [Rows.uptoBulk]
 nil:=by simp [Rows.uptoBulk]
 sl es sp:=by simp only [Rows.uptoBulk,L12]; omega
 agg ps:=by simp only [Rows.uptoBulk,L12]; omega
section
variable {H:Type}{enc:TypeId×_root_.Go.Value→H}{W:World}
theorem c73:Tryz.prog.cellsOf 73=1:=by kernel_rfl
theorem c9:Tryz.prog.cellsOf 9=1:=by kernel_rfl
theorem c45:Tryz.prog.cellsOf 45=1:=by kernel_rfl
theorem c3:Tryz.prog.cellsOf 3=1:=by kernel_rfl
theorem c28:Tryz.prog.cellsOf 28=1:=by kernel_rfl
theorem c46:Tryz.prog.cellsOf 46=1:=by kernel_rfl
theorem c48:Tryz.prog.cellsOf 48=7:=by kernel_rfl
theorem c37:Tryz.prog.cellsOf 37=1:=by kernel_rfl
theorem c38:Tryz.prog.cellsOf 38=1:=by kernel_rfl
theorem c40:Tryz.prog.cellsOf 40=4:=by kernel_rfl
theorem c76:Tryz.prog.cellsOf 76=1:=by kernel_rfl
theorem c77:Tryz.prog.cellsOf 77=1:=by kernel_rfl
theorem c79:Tryz.prog.cellsOf 79=17:=by kernel_rfl
theorem c23:Tryz.prog.cellsOf 23=1:=by kernel_rfl
theorem c75:Tryz.prog.cellsOf 75=17:=by kernel_rfl
theorem c22:Tryz.prog.cellsOf 22=1:=by kernel_rfl
theorem c25:Tryz.prog.cellsOf 25=2:=by kernel_rfl
theorem c5:Tryz.prog.cellsOf 5=1:=by kernel_rfl
theorem u73:Tryz.prog.underlying 73=some (.int .i64):=by kernel_rfl
theorem u9:Tryz.prog.underlying 9=some .string:=by kernel_rfl
theorem u45:Tryz.prog.underlying 45=some (.int .i64):=by kernel_rfl
theorem u3:Tryz.prog.underlying 3=some (.int .i64):=by kernel_rfl
theorem u28:Tryz.prog.underlying 28=some (.slice 9):=by kernel_rfl
theorem u46:Tryz.prog.underlying 46=some (.slice 48):=by kernel_rfl
theorem u37:Tryz.prog.underlying 37=some (.int .i64):=by kernel_rfl
theorem u38:Tryz.prog.underlying 38=some (.slice 40):=by kernel_rfl
theorem u76:Tryz.prog.underlying 76=some (.int .i64):=by kernel_rfl
theorem u77:Tryz.prog.underlying 77=some (.slice 3):=by kernel_rfl
theorem u23:Tryz.prog.underlying 23=some (.slice 79):=by kernel_rfl
theorem u22:Tryz.prog.underlying 22=some (.slice 75):=by kernel_rfl
theorem u5:Tryz.prog.underlying 5=some (.int .u8):=by kernel_rfl
theorem u61:Tryz.prog.underlying 61=some (.slice 5):=by kernel_rfl
theorem u4:Tryz.prog.underlying 4=some .bool:=by kernel_rfl
theorem F0.bulks_map:∀ l:List F0,F0.bulks l=(l.map F0.bulk).sum
 | []=>rfl
 | x::r=>by simp only [F0.bulks,List.map_cons,List.sum_cons,F0.bulks_map r]
theorem F0.row_len (x:F0):(F0.row x).length=7:=rfl
theorem F0.rd:∀ fuel,Rd enc Tryz.prog W Rows.uptoBulk fuel 48 F0.row F0.bulk:=by
 intro fuel
 induction fuel using Nat.strongRecOn with
 | ind fuel ih=>
 have F:=fun n (hn:n < fuel)=>FRd.cons (enc:=enc) (W:=W) (off:=0) (fd:=(⟨"Kind",45,0,false, "", "",0⟩:Field)) (Rd.int (fuel:=n) M8 u45) rfl c45 (fun _=>rfl) (FRd.cons (fd:=(⟨"Low",3,1,false, "", "",8⟩:Field)) (Rd.int M8 u3) rfl c3 (fun _=>rfl) (FRd.cons (fd:=(⟨"High",3,2,false, "", "",16⟩:Field)) (Rd.int M8 u3) rfl c3 (fun _=>rfl) (FRd.cons (fd:=(⟨"Size",3,3,false, "", "",24⟩:Field)) (Rd.int M8 u3) rfl c3 (fun _=>rfl) (FRd.cons (fd:=(⟨"Name",9,4,false, "", "",32⟩:Field)) (Rd.str M8 u9) rfl c9 (fun _=>rfl) (FRd.cons (fd:=(⟨"Names",28,5,false, "", "",48⟩:Field)) (Rd.sl M8 (f:=fun s:Str=>[D.str s]) (bk:=fun s=>s.length+1) u28 c9 (Nat.le_refl _) (fun _=>rfl) (fun _ _=>Rd.str M8 u9)) rfl c28 (fun _=>rfl) (FRd.cons (fd:=(⟨"Of",46,6,false, "", "",72⟩:Field)) (Rd.sl M8 (f:=F0.row) (bk:=F0.bulk) u46 c48 (by omega) F0.row_len (fun m hm=>ih m (by omega))) rfl c46 (fun _=>rfl) FRd.nil))))))
 exact Rd.st M8 Tryz.underlying48 rfl c48 F0.row_len F (fun p=>F0.mk p.1 p.2.1 p.2.2.1 p.2.2.2.1 p.2.2.2.2.1 p.2.2.2.2.2.1 p.2.2.2.2.2.2.1) (fun x=>by simp [F0.row,F0.rows_map,estr.rows,estr.row,ei64.rows,ei64.row]) (fun x=>by simp [F0.bulk,F0.bulks_map])
theorem A0.bulks_map:∀ l:List A0,A0.bulks l=(l.map A0.bulk).sum
 | []=>rfl
 | x::r=>by simp only [A0.bulks,List.map_cons,List.sum_cons,A0.bulks_map r]
theorem A0.row_len (x:A0):(A0.row x).length=4:=rfl
theorem A0.rd:∀ fuel,Rd enc Tryz.prog W Rows.uptoBulk fuel 40 A0.row A0.bulk:=by
 intro fuel
 induction fuel using Nat.strongRecOn with
 | ind fuel ih=>
 have F:=fun n (hn:n < fuel)=>FRd.cons (enc:=enc) (W:=W) (off:=0) (fd:=(⟨"Op",37,0,false, "", "",0⟩:Field)) (Rd.int (fuel:=n) M8 u37) rfl c37 (fun _=>rfl) (FRd.cons (fd:=(⟨"N",3,1,false, "", "",8⟩:Field)) (Rd.int M8 u3) rfl c3 (fun _=>rfl) (FRd.cons (fd:=(⟨"Name",9,2,false, "", "",16⟩:Field)) (Rd.str M8 u9) rfl c9 (fun _=>rfl) (FRd.cons (fd:=(⟨"Kids",38,3,false, "", "",32⟩:Field)) (Rd.sl M8 (f:=A0.row) (bk:=A0.bulk) u38 c40 (by omega) A0.row_len (fun m hm=>ih m (by omega))) rfl c38 (fun _=>rfl) FRd.nil)))
 exact Rd.st M8 Tryz.underlying40 rfl c40 A0.row_len F (fun p=>A0.mk p.1 p.2.1 p.2.2.1 p.2.2.2.1) (fun x=>by simp [A0.row,F0.rows_map,A0.rows_map,estr.rows,estr.row,ei64.rows,ei64.row]) (fun x=>by simp [A0.bulk,A0.bulks_map])
theorem C0.bulks_map:∀ l:List C0,C0.bulks l=(l.map C0.bulk).sum
 | []=>rfl
 | x::r=>by simp only [C0.bulks,List.map_cons,List.sum_cons,C0.bulks_map r]
theorem C0.row_len (x:C0):(C0.row x).length=17:=rfl
theorem C0.rd:∀ fuel,Rd enc Tryz.prog W Rows.uptoBulk fuel 79 C0.row C0.bulk:=by
 intro fuel
 induction fuel using Nat.strongRecOn with
 | ind fuel ih=>
 have F:=fun n (hn:n < fuel)=>FRd.cons (enc:=enc) (W:=W) (off:=0) (fd:=(⟨"Verb",76,0,false, "", "",0⟩:Field)) (Rd.int (fuel:=n) M8 u76) rfl c76 (fun _=>rfl) (FRd.cons (fd:=(⟨"Place",40,1,false, "", "",8⟩:Field)) (A0.rd _) rfl c40 (fun _=>rfl) (FRd.cons (fd:=(⟨"Value",40,5,false, "", "",64⟩:Field)) (A0.rd _) rfl c40 (fun _=>rfl) (FRd.cons (fd:=(⟨"Name",9,9,false, "", "",120⟩:Field)) (Rd.str M8 u9) rfl c9 (fun _=>rfl) (FRd.cons (fd:=(⟨"Args",38,10,false, "", "",136⟩:Field)) (Rd.sl M8 (f:=A0.row) (bk:=A0.bulk) u38 c40 (by omega) A0.row_len (fun m hm=>A0.rd m)) rfl c38 (fun _=>rfl) (FRd.cons (fd:=(⟨"N",3,11,false, "", "",160⟩:Field)) (Rd.int M8 u3) rfl c3 (fun _=>rfl) (FRd.cons (fd:=(⟨"Low",3,12,false, "", "",168⟩:Field)) (Rd.int M8 u3) rfl c3 (fun _=>rfl) (FRd.cons (fd:=(⟨"High",3,13,false, "", "",176⟩:Field)) (Rd.int M8 u3) rfl c3 (fun _=>rfl) (FRd.cons (fd:=(⟨"Numbers",77,14,false, "", "",184⟩:Field)) (Rd.sl M8 (f:=fun n:Int=>[D.int .i64 n]) (bk:=fun _=>1) u77 c3 (Nat.le_refl _) (fun _=>rfl) (fun _ _=>Rd.int M8 u3)) rfl c77 (fun _=>rfl) (FRd.cons (fd:=(⟨"Then",23,15,false, "", "",208⟩:Field)) (Rd.sl M8 (f:=C0.row) (bk:=C0.bulk) u23 c79 (by omega) C0.row_len (fun m hm=>ih m (by omega))) rfl c23 (fun _=>rfl) (FRd.cons (fd:=(⟨"Else",23,16,false, "", "",232⟩:Field)) (Rd.sl M8 (f:=C0.row) (bk:=C0.bulk) u23 c79 (by omega) C0.row_len (fun m hm=>ih m (by omega))) rfl c23 (fun _=>rfl) FRd.nil))))))))))
 exact Rd.st M8 Tryz.underlying79 rfl c79 C0.row_len F (fun p=>C0.mk p.1 p.2.1 p.2.2.1 p.2.2.2.1 p.2.2.2.2.1 p.2.2.2.2.2.1 p.2.2.2.2.2.2.1 p.2.2.2.2.2.2.2.1 p.2.2.2.2.2.2.2.2.1 p.2.2.2.2.2.2.2.2.2.1 p.2.2.2.2.2.2.2.2.2.2.1) (fun x=>by simp [C0.row,A0.row,F0.rows_map,A0.rows_map,C0.rows_map,estr.rows,estr.row,ei64.rows,ei64.row]) (fun x=>by simp [C0.bulk,A0.bulks_map,C0.bulks_map])
theorem D0.bulks_map:∀ l:List D0,D0.bulks l=(l.map D0.bulk).sum
 | []=>rfl
 | x::r=>by simp only [D0.bulks,List.map_cons,List.sum_cons,D0.bulks_map r]
theorem D0.row_len (x:D0):(D0.row x).length=17:=rfl
theorem D0.rd:∀ fuel,Rd enc Tryz.prog W Rows.uptoBulk fuel 75 D0.row D0.bulk:=by
 intro fuel
 induction fuel using Nat.strongRecOn with
 | ind fuel ih=>
 have F:=fun n (hn:n < fuel)=>FRd.cons (enc:=enc) (W:=W) (off:=0) (fd:=(⟨"Kind",73,0,false, "", "",0⟩:Field)) (Rd.int (fuel:=n) M8 u73) rfl c73 (fun _=>rfl) (FRd.cons (fd:=(⟨"Name",9,1,false, "", "",8⟩:Field)) (Rd.str M8 u9) rfl c9 (fun _=>rfl) (FRd.cons (fd:=(⟨"Type",48,2,false, "", "",24⟩:Field)) (F0.rd _) rfl c48 (fun _=>rfl) (FRd.cons (fd:=(⟨"Init",3,9,false, "", "",120⟩:Field)) (Rd.int M8 u3) rfl c3 (fun _=>rfl) (FRd.cons (fd:=(⟨"Value",40,10,false, "", "",128⟩:Field)) (A0.rd _) rfl c40 (fun _=>rfl) (FRd.cons (fd:=(⟨"Params",22,14,false, "", "",184⟩:Field)) (Rd.sl M8 (f:=D0.row) (bk:=D0.bulk) u22 c75 (by omega) D0.row_len (fun m hm=>ih m (by omega))) rfl c22 (fun _=>rfl) (FRd.cons (fd:=(⟨"Vars",22,15,false, "", "",208⟩:Field)) (Rd.sl M8 (f:=D0.row) (bk:=D0.bulk) u22 c75 (by omega) D0.row_len (fun m hm=>ih m (by omega))) rfl c22 (fun _=>rfl) (FRd.cons (fd:=(⟨"Body",23,16,false, "", "",232⟩:Field)) (Rd.sl M8 (f:=C0.row) (bk:=C0.bulk) u23 c79 (by omega) C0.row_len (fun m hm=>C0.rd m)) rfl c23 (fun _=>rfl) FRd.nil)))))))
 exact Rd.st M8 Tryz.underlying75 rfl c75 D0.row_len F (fun p=>D0.mk p.1 p.2.1 p.2.2.1 p.2.2.2.1 p.2.2.2.2.1 p.2.2.2.2.2.1 p.2.2.2.2.2.2.1 p.2.2.2.2.2.2.2.1) (fun x=>by simp [D0.row,A0.row,C0.row,F0.row,F0.rows_map,A0.rows_map,C0.rows_map,D0.rows_map,estr.rows,estr.row,ei64.rows,ei64.row]) (fun x=>by simp [D0.bulk,D0.bulks_map,A0.bulks_map,C0.bulks_map,F0.bulks_map])
theorem O0.bulks_map:∀ l:List O0,O0.bulks l=(l.map O0.bulk).sum
 | []=>rfl
 | x::r=>by simp only [O0.bulks,List.map_cons,List.sum_cons,O0.bulks_map r]
theorem O0.row_len (x:O0):(O0.row x).length=2:=rfl
theorem O0.rd:∀ fuel,Rd enc Tryz.prog W Rows.uptoBulk fuel 25 O0.row O0.bulk:=by
 intro fuel
 induction fuel using Nat.strongRecOn with
 | ind fuel ih=>
 have F:=fun n (hn:n < fuel)=>FRd.cons (enc:=enc) (W:=W) (off:=0) (fd:=(⟨"Decls",22,0,false, "", "",0⟩:Field)) (Rd.sl (fuel:=n) M8 (f:=D0.row) (bk:=D0.bulk) u22 c75 (by omega) D0.row_len (fun m hm=>D0.rd m)) rfl c22 (fun _=>rfl) (FRd.cons (fd:=(⟨"Body",23,1,false, "", "",24⟩:Field)) (Rd.sl M8 (f:=C0.row) (bk:=C0.bulk) u23 c79 (by omega) C0.row_len (fun m hm=>C0.rd m)) rfl c23 (fun _=>rfl) FRd.nil)
 exact Rd.st M8 Tryz.underlying25 rfl c25 O0.row_len F (fun p=>O0.mk p.1 p.2.1) (fun x=>by simp [O0.row,D0.row,C0.row,F0.rows_map,A0.rows_map,C0.rows_map,D0.rows_map,O0.rows_map,estr.rows,estr.row,ei64.rows,ei64.row]) (fun x=>by simp [O0.bulk,D0.bulks_map,C0.bulks_map])
end
def Mj (t:TypeId):Prop:=t∈[73,9,45,3,28,46,48,37,38,40,76,77,79,23,75,22,25,5,61,4]
theorem P1q:Plain Tryz.prog Mj:=by
 intro t ht
 simp only [Mj,List.mem_cons,List.not_mem_nil,or_false] at ht
 rcases ht with rfl | rfl | rfl | rfl | rfl | rfl | rfl | rfl | rfl | rfl | rfl | rfl | rfl | rfl | rfl | rfl | rfl | rfl | rfl | rfl
 ·exact .inr (.inl ⟨_,u73⟩)
 ·exact .inr (.inr (.inl u9))
 ·exact .inr (.inl ⟨_,u45⟩)
 ·exact .inr (.inl ⟨_,u3⟩)
 ·exact .inr (.inr (.inr (.inl ⟨_,u28,by simp [Mj],by rw [c9]; omega⟩)))
 ·exact .inr (.inr (.inr (.inl ⟨_,u46,by simp [Mj],by rw [c48]; omega⟩)))
 ·refine .inr (.inr (.inr (.inr ⟨_,Tryz.underlying48,fun f hf=>?_⟩)))
  simp at hf
  rcases hf with rfl | rfl | rfl | rfl | rfl | rfl | rfl <;> simp [Mj]
 ·exact .inr (.inl ⟨_,u37⟩)
 ·exact .inr (.inr (.inr (.inl ⟨_,u38,by simp [Mj],by rw [c40]; omega⟩)))
 ·refine .inr (.inr (.inr (.inr ⟨_,Tryz.underlying40,fun f hf=>?_⟩)))
  simp at hf
  rcases hf with rfl | rfl | rfl | rfl <;> simp [Mj]
 ·exact .inr (.inl ⟨_,u76⟩)
 ·exact .inr (.inr (.inr (.inl ⟨_,u77,by simp [Mj],by rw [c3]; omega⟩)))
 ·refine .inr (.inr (.inr (.inr ⟨_,Tryz.underlying79,fun f hf=>?_⟩)))
  simp at hf
  rcases hf with rfl | rfl | rfl | rfl | rfl | rfl | rfl | rfl | rfl | rfl | rfl <;> simp [Mj]
 ·exact .inr (.inr (.inr (.inl ⟨_,u23,by simp [Mj],by rw [c79]; omega⟩)))
 ·refine .inr (.inr (.inr (.inr ⟨_,Tryz.underlying75,fun f hf=>?_⟩)))
  simp at hf
  rcases hf with rfl | rfl | rfl | rfl | rfl | rfl | rfl | rfl <;> simp [Mj]
 ·exact .inr (.inr (.inr (.inl ⟨_,u22,by simp [Mj],by rw [c75]; omega⟩)))
 ·refine .inr (.inr (.inr (.inr ⟨_,Tryz.underlying25,fun f hf=>?_⟩)))
  simp at hf
  rcases hf with rfl | rfl <;> simp [Mj]
 ·exact .inr (.inl ⟨_,u5⟩)
 ·exact .inr (.inr (.inr (.inl ⟨_,u61,by simp [Mj],by rw [c5]; omega⟩)))
 ·exact .inl u4
end Go.Proofs.YtbmlpamppbcdeaaGreatDoor

namespace Go.Proofs.YtbmlpamppbcdeaaGreatDoor
open Go.Am Go.ChangeShapes Go.WideShapes Go.ChangeAt Go.RowKit
theorem own : ownKnob Tryz.prog.godebug = none := by kernel_rfl
def laidL : List (String × DataW Unit) := [("math/bits.deBruijn32tab", Rows.laid_math_bits_deBruijn32tab), ("math/bits.deBruijn64tab", Rows.laid_math_bits_deBruijn64tab), ("internal/strconv.uint64pow10", Rows.laid_internal_strconv_uint64pow10), ("keyhole/syntax.signs", Rows.laid_keyhole_syntax_signs)]
theorem laid_of {W : World} (h : laidMetH Tryz.prog laidL W) : laidMet Tryz.prog laidL W := h
theorem glOk {W : World} (h : W.ShapedOpen Tryz.prog) (hL : laidMet Tryz.prog laidL W) : Yx C (Pg W) W := by
  obtain ⟨m, hm⟩ := cell_of_shapedOpen_int (g := 2) (zero := #[.int .i64 0]) (t := 3) h (of_decide_eq_true (by kernel_rfl)) (by kernel_rfl) rfl (by kernel_rfl) (by kernel_rfl) Tryz.underlying3
  obtain ⟨h10, hm10⟩ := M1k hL 2 (name := "internal/strconv.uint64pow10") (k := .u64) (zs := Lib.pow10Tab) rfl (g := 1) (t := 290) (e := 255) (n := 20) (by kernel_rfl) (by kernel_rfl) (by kernel_rfl) (by kernel_rfl) (by kernel_rfl) (by kernel_rfl)
  refine { tab := fun G g cs e => ?_, gp := ⟨⟨m, (M14 hm).1⟩, hm10, h10⟩ }
  have e' : (bif Nat.beq 0 g then some (Nu.map D.str) else none) = some cs := e
  cases hb : Nat.beq 0 g with
  | false => rw [hb] at e'; cases e'
  | true =>
    obtain rfl := Nat.eq_of_beq_eq_true hb
    rw [hb] at e'
    cases e'
    exact S1i hL 3 (name := "keyhole/syntax.signs") (zs := Nu) rfl (g := 0) (t := 236) (e := 9) (n := 13) (by kernel_rfl) (by kernel_rfl) (by kernel_rfl) (by kernel_rfl) (by kernel_rfl) (by kernel_rfl)
def laidCells : DataW Unit → Array Value
  | .agg l => (l.map fun
      | .lit (.int k n) => .int k n
      | .lit (.string s) => .string ⟨s.toArray⟩
      | _ => .bool false).toArray
  | _ => #[]
def laidPut (d : DataW Unit) : Obj → Obj
  | .cells _ t frozen => .cells (laidCells d) t frozen
  | o => o
noncomputable def laidWorld (os : Os) : World :=
  { World.holding Tryz.prog os ⟨#[], #[], []⟩ with heap := (((((World.holding Tryz.prog os ⟨#[], #[], []⟩).heap.modify 5 (laidPut Rows.laid_math_bits_deBruijn32tab)).modify 6 (laidPut Rows.laid_math_bits_deBruijn64tab)).modify 1 (laidPut Rows.laid_internal_strconv_uint64pow10)).modify 0 (laidPut Rows.laid_keyhole_syntax_signs)) }
def zv9 : _root_.Go.Value := .string ⟨#[]⟩
def zr9 {H : Type} : DataW H := .lit (.string [])
def zv25 : _root_.Go.Value := .agg #[.slice none 0 0, .slice none 0 0]
def zr25 {H : Type} : DataW H := .agg [.nil, .nil]
def zv40 : _root_.Go.Value := .agg #[.int .i64 0, .int .i64 0, .string ⟨#[]⟩, .slice none 0 0]
def zr40 {H : Type} : DataW H := .agg [.lit (.int .i64 0), .lit (.int .i64 0), .lit (.string []), .nil]
def zv48 : _root_.Go.Value := .agg #[.int .i64 0, .int .i64 0, .int .i64 0, .int .i64 0, .string ⟨#[]⟩, .slice none 0 0, .slice none 0 0]
def zr48 {H : Type} : DataW H := .agg [.lit (.int .i64 0), .lit (.int .i64 0), .lit (.int .i64 0), .lit (.int .i64 0), .lit (.string []), .nil, .nil]
def zv61 : _root_.Go.Value := .slice none 0 0
def zr61 {H : Type} : DataW H := .nil
end Go.Proofs.YtbmlpamppbcdeaaGreatDoor

