/- A part of the proof of InterpSpaces. -/
import Derived.Test.YtnabbmegmkdehaaGreatDoorRows
import Derived.Test.YtnabbmegmkdehaaGreatDoorPlB
import Derived.ProofKit
import Derived.OpenShut
import Derived.Deep.DeepHandedRow
import Derived.Lib.LaidTab
import Derived.Test.YtnabbmegmkdehaaGreatDoorCards
import Derived.Test.YtnabbmegmkdehaaGreatDoorTie
import Derived.WalkKit
import Derived.HandedShaped
set_option linter.defProp false
set_option linter.unusedSimpArgs false
set_option linter.unusedVariables false
set_option maxRecDepth 10000
namespace Go.Proofs.YtnabbmegmkdehaaGreatDoor
open Go.Am Go.ChangeShapes Go.WideShapes Go.ChangeAt Go.RowKit
def E18 {H:Type}:∀l:List (DataW H),Rows.uptoBulkAll l=(l.map Rows.uptoBulk).sum
 |[]=>rfl
 |x::r=>by simp only[Rows.uptoBulkAll,List.map_cons,List.sum_cons,E18 r]
def Y4 {H:Type}:H1s (Rows.uptoBulk (H:=H)) where
 lit l:=by cases l<;>simp[Rows.uptoBulk]
 str s:=by simp[Rows.uptoBulk]
 nil:=by simp[Rows.uptoBulk]
 sl es sp:=by simp only[Rows.uptoBulk,E18];omega
 agg ps:=by simp only[Rows.uptoBulk,E18];omega
section
variable {H:Type}{enc:TypeId×_root_.Go.Value→H}{W:World}
def c46:Tryz.prog.cellsOf 46=1:=by kernel_rfl
def c9:Tryz.prog.cellsOf 9=1:=by kernel_rfl
def c47:Tryz.prog.cellsOf 47=1:=by kernel_rfl
def c3:Tryz.prog.cellsOf 3=1:=by kernel_rfl
def c48:Tryz.prog.cellsOf 48=1:=by kernel_rfl
def c49:Tryz.prog.cellsOf 49=1:=by kernel_rfl
def c51:Tryz.prog.cellsOf 51=7:=by kernel_rfl
def c52:Tryz.prog.cellsOf 52=1:=by kernel_rfl
def c53:Tryz.prog.cellsOf 53=1:=by kernel_rfl
def c55:Tryz.prog.cellsOf 55=4:=by kernel_rfl
def O2d:Tryz.prog.cellsOf 109=1:=by kernel_rfl
def c28:Tryz.prog.cellsOf 28=1:=by kernel_rfl
def P1o:Tryz.prog.cellsOf 111=17:=by kernel_rfl
def c23:Tryz.prog.cellsOf 23=1:=by kernel_rfl
def c57:Tryz.prog.cellsOf 57=17:=by kernel_rfl
def c22:Tryz.prog.cellsOf 22=1:=by kernel_rfl
def c25:Tryz.prog.cellsOf 25=2:=by kernel_rfl
def c27:Tryz.prog.cellsOf 27=13:=by kernel_rfl
def c30:Tryz.prog.cellsOf 30=3:=by kernel_rfl
def c4:Tryz.prog.cellsOf 4=1:=by kernel_rfl
def u46:Tryz.prog.underlying 46=some (.int .i64):=by kernel_rfl
def u9:Tryz.prog.underlying 9=some .string:=by kernel_rfl
def u47:Tryz.prog.underlying 47=some (.int .i64):=by kernel_rfl
def u3:Tryz.prog.underlying 3=some (.int .i64):=by kernel_rfl
def u48:Tryz.prog.underlying 48=some (.slice 9):=by kernel_rfl
def u49:Tryz.prog.underlying 49=some (.slice 51):=by kernel_rfl
def u52:Tryz.prog.underlying 52=some (.int .i64):=by kernel_rfl
def u53:Tryz.prog.underlying 53=some (.slice 55):=by kernel_rfl
def M2c:Tryz.prog.underlying 109=some (.int .i64):=by kernel_rfl
def u28:Tryz.prog.underlying 28=some (.slice 3):=by kernel_rfl
def u23:Tryz.prog.underlying 23=some (.slice 111):=by kernel_rfl
def u22:Tryz.prog.underlying 22=some (.slice 57):=by kernel_rfl
def u4:Tryz.prog.underlying 4=some .bool:=by kernel_rfl
def A0.bulks_map:∀l:List A0,A0.bulks l=(l.map A0.bulk).sum
 |[]=>rfl
 |x::r=>by simp only[A0.bulks,List.map_cons,List.sum_cons,A0.bulks_map r]
def A0.row_len (x:A0):(A0.row x).length=7:=rfl
def A0.rd:∀fuel,Rd enc Tryz.prog W Rows.uptoBulk fuel 51 A0.row A0.bulk:=by
 intro fuel
 induction fuel using Nat.strongRecOn with
 |ind fuel b=>
 have F:=λn (d:n<fuel)=>FRd.cons (enc:=enc) (W:=W) (off:=0) (fd:=(⟨"Kind",47,0,false, "", "",0⟩:Field)) (Rd.int (fuel:=n) Y4 u47) rfl c47 (λ_=>rfl) (FRd.cons (fd:=(⟨"Low",3,1,false, "", "",8⟩:Field)) (Rd.int Y4 u3) rfl c3 (λ_=>rfl) (FRd.cons (fd:=(⟨"High",3,2,false, "", "",16⟩:Field)) (Rd.int Y4 u3) rfl c3 (λ_=>rfl) (FRd.cons (fd:=(⟨"Size",3,3,false, "", "",24⟩:Field)) (Rd.int Y4 u3) rfl c3 (λ_=>rfl) (FRd.cons (fd:=(⟨"Name",9,4,false, "", "",32⟩:Field)) (Rd.str Y4 u9) rfl c9 (λ_=>rfl) (FRd.cons (fd:=(⟨"Names",48,5,false, "", "",48⟩:Field)) (Rd.sl Y4 (f:=λs:Str=>[D.str s]) (bk:=λs=>s.length+1) u48 c9 (zqr _) (λ_=>rfl) (λ_ _=>Rd.str Y4 u9)) rfl c48 (λ_=>rfl) (FRd.cons (fd:=(⟨"Of",49,6,false, "", "",72⟩:Field)) (Rd.sl Y4 (f:=A0.row) (bk:=A0.bulk) u49 c51 (by omega) A0.row_len (λm c=>b m (by omega))) rfl c49 (λ_=>rfl) FRd.nil))))));exact Rd.st Y4 Tryz.underlying51 rfl c51 A0.row_len F (λp=>A0.mk p.1 p.2.1 p.2.2.1 p.2.2.2.1 p.2.2.2.2.1 p.2.2.2.2.2.1 p.2.2.2.2.2.2.1) (λx=>by simp[A0.row,A0.rows_map,estr.rows,estr.row,ei64.rows,ei64.row]) (λx=>by simp[A0.bulk,A0.bulks_map])
def D0.bulks_map:∀l:List D0,D0.bulks l=(l.map D0.bulk).sum
 |[]=>rfl
 |x::r=>by simp only[D0.bulks,List.map_cons,List.sum_cons,D0.bulks_map r]
def D0.row_len (x:D0):(D0.row x).length=4:=rfl
def D0.rd:∀fuel,Rd enc Tryz.prog W Rows.uptoBulk fuel 55 D0.row D0.bulk:=by
 intro fuel
 induction fuel using Nat.strongRecOn with
 |ind fuel b=>
 have F:=λn (d:n<fuel)=>FRd.cons (enc:=enc) (W:=W) (off:=0) (fd:=(⟨"Op",52,0,false, "", "",0⟩:Field)) (Rd.int (fuel:=n) Y4 u52) rfl c52 (λ_=>rfl) (FRd.cons (fd:=(⟨"N",3,1,false, "", "",8⟩:Field)) (Rd.int Y4 u3) rfl c3 (λ_=>rfl) (FRd.cons (fd:=(⟨"Name",9,2,false, "", "",16⟩:Field)) (Rd.str Y4 u9) rfl c9 (λ_=>rfl) (FRd.cons (fd:=(⟨"Kids",53,3,false, "", "",32⟩:Field)) (Rd.sl Y4 (f:=D0.row) (bk:=D0.bulk) u53 c55 (by omega) D0.row_len (λm c=>b m (by omega))) rfl c53 (λ_=>rfl) FRd.nil)));exact Rd.st Y4 Tryz.underlying55 rfl c55 D0.row_len F (λp=>D0.mk p.1 p.2.1 p.2.2.1 p.2.2.2.1) (λx=>by simp[D0.row,A0.rows_map,D0.rows_map,estr.rows,estr.row,ei64.rows,ei64.row]) (λx=>by simp[D0.bulk,D0.bulks_map])
def E0.bulks_map:∀l:List E0,E0.bulks l=(l.map E0.bulk).sum
 |[]=>rfl
 |x::r=>by simp only[E0.bulks,List.map_cons,List.sum_cons,E0.bulks_map r]
def E0.row_len (x:E0):(E0.row x).length=17:=rfl
def E0.rd:∀fuel,Rd enc Tryz.prog W Rows.uptoBulk fuel 111 E0.row E0.bulk:=by
 intro fuel
 induction fuel using Nat.strongRecOn with
 |ind fuel b=>
 have F:=λn (d:n<fuel)=>FRd.cons (enc:=enc) (W:=W) (off:=0) (fd:=(⟨"Verb",109,0,false, "", "",0⟩:Field)) (Rd.int (fuel:=n) Y4 M2c) rfl O2d (λ_=>rfl) (FRd.cons (fd:=(⟨"Place",55,1,false, "", "",8⟩:Field)) (D0.rd _) rfl c55 (λ_=>rfl) (FRd.cons (fd:=(⟨"Value",55,5,false, "", "",64⟩:Field)) (D0.rd _) rfl c55 (λ_=>rfl) (FRd.cons (fd:=(⟨"Name",9,9,false, "", "",120⟩:Field)) (Rd.str Y4 u9) rfl c9 (λ_=>rfl) (FRd.cons (fd:=(⟨"Args",53,10,false, "", "",136⟩:Field)) (Rd.sl Y4 (f:=D0.row) (bk:=D0.bulk) u53 c55 (by omega) D0.row_len (λm c=>D0.rd m)) rfl c53 (λ_=>rfl) (FRd.cons (fd:=(⟨"N",3,11,false, "", "",160⟩:Field)) (Rd.int Y4 u3) rfl c3 (λ_=>rfl) (FRd.cons (fd:=(⟨"Low",3,12,false, "", "",168⟩:Field)) (Rd.int Y4 u3) rfl c3 (λ_=>rfl) (FRd.cons (fd:=(⟨"High",3,13,false, "", "",176⟩:Field)) (Rd.int Y4 u3) rfl c3 (λ_=>rfl) (FRd.cons (fd:=(⟨"Numbers",28,14,false, "", "",184⟩:Field)) (Rd.sl Y4 (f:=λn:Int=>[D.int .i64 n]) (bk:=λ_=>1) u28 c3 (zqr _) (λ_=>rfl) (λ_ _=>Rd.int Y4 u3)) rfl c28 (λ_=>rfl) (FRd.cons (fd:=(⟨"Then",23,15,false, "", "",208⟩:Field)) (Rd.sl Y4 (f:=E0.row) (bk:=E0.bulk) u23 P1o (by omega) E0.row_len (λm c=>b m (by omega))) rfl c23 (λ_=>rfl) (FRd.cons (fd:=(⟨"Else",23,16,false, "", "",232⟩:Field)) (Rd.sl Y4 (f:=E0.row) (bk:=E0.bulk) u23 P1o (by omega) E0.row_len (λm c=>b m (by omega))) rfl c23 (λ_=>rfl) FRd.nil))))))))));exact Rd.st Y4 Tryz.underlying111 rfl P1o E0.row_len F (λp=>E0.mk p.1 p.2.1 p.2.2.1 p.2.2.2.1 p.2.2.2.2.1 p.2.2.2.2.2.1 p.2.2.2.2.2.2.1 p.2.2.2.2.2.2.2.1 p.2.2.2.2.2.2.2.2.1 p.2.2.2.2.2.2.2.2.2.1 p.2.2.2.2.2.2.2.2.2.2.1) (λx=>by simp[E0.row,D0.row,A0.rows_map,D0.rows_map,E0.rows_map,estr.rows,estr.row,ei64.rows,ei64.row]) (λx=>by simp[E0.bulk,D0.bulks_map,E0.bulks_map])
def C0.bulks_map:∀l:List C0,C0.bulks l=(l.map C0.bulk).sum
 |[]=>rfl
 |x::r=>by simp only[C0.bulks,List.map_cons,List.sum_cons,C0.bulks_map r]
def C0.row_len (x:C0):(C0.row x).length=17:=rfl
def C0.rd:∀fuel,Rd enc Tryz.prog W Rows.uptoBulk fuel 57 C0.row C0.bulk:=by
 intro fuel
 induction fuel using Nat.strongRecOn with
 |ind fuel b=>
 have F:=λn (d:n<fuel)=>FRd.cons (enc:=enc) (W:=W) (off:=0) (fd:=(⟨"Kind",46,0,false, "", "",0⟩:Field)) (Rd.int (fuel:=n) Y4 u46) rfl c46 (λ_=>rfl) (FRd.cons (fd:=(⟨"Name",9,1,false, "", "",8⟩:Field)) (Rd.str Y4 u9) rfl c9 (λ_=>rfl) (FRd.cons (fd:=(⟨"Type",51,2,false, "", "",24⟩:Field)) (A0.rd _) rfl c51 (λ_=>rfl) (FRd.cons (fd:=(⟨"Init",3,9,false, "", "",120⟩:Field)) (Rd.int Y4 u3) rfl c3 (λ_=>rfl) (FRd.cons (fd:=(⟨"Value",55,10,false, "", "",128⟩:Field)) (D0.rd _) rfl c55 (λ_=>rfl) (FRd.cons (fd:=(⟨"Params",22,14,false, "", "",184⟩:Field)) (Rd.sl Y4 (f:=C0.row) (bk:=C0.bulk) u22 c57 (by omega) C0.row_len (λm c=>b m (by omega))) rfl c22 (λ_=>rfl) (FRd.cons (fd:=(⟨"Vars",22,15,false, "", "",208⟩:Field)) (Rd.sl Y4 (f:=C0.row) (bk:=C0.bulk) u22 c57 (by omega) C0.row_len (λm c=>b m (by omega))) rfl c22 (λ_=>rfl) (FRd.cons (fd:=(⟨"Body",23,16,false, "", "",232⟩:Field)) (Rd.sl Y4 (f:=E0.row) (bk:=E0.bulk) u23 P1o (by omega) E0.row_len (λm c=>E0.rd m)) rfl c23 (λ_=>rfl) FRd.nil)))))));exact Rd.st Y4 Tryz.underlying57 rfl c57 C0.row_len F (λp=>C0.mk p.1 p.2.1 p.2.2.1 p.2.2.2.1 p.2.2.2.2.1 p.2.2.2.2.2.1 p.2.2.2.2.2.2.1 p.2.2.2.2.2.2.2.1) (λx=>by simp[C0.row,D0.row,E0.row,A0.row,A0.rows_map,D0.rows_map,E0.rows_map,C0.rows_map,estr.rows,estr.row,ei64.rows,ei64.row]) (λx=>by simp[C0.bulk,C0.bulks_map,D0.bulks_map,E0.bulks_map,A0.bulks_map])
def I0.bulks_map:∀l:List I0,I0.bulks l=(l.map I0.bulk).sum
 |[]=>rfl
 |x::r=>by simp only[I0.bulks,List.map_cons,List.sum_cons,I0.bulks_map r]
def I0.row_len (x:I0):(I0.row x).length=2:=rfl
def I0.rd:∀fuel,Rd enc Tryz.prog W Rows.uptoBulk fuel 25 I0.row I0.bulk:=by
 intro fuel
 induction fuel using Nat.strongRecOn with
 |ind fuel c=>
 have F:=λn (d:n<fuel)=>FRd.cons (enc:=enc) (W:=W) (off:=0) (fd:=(⟨"Decls",22,0,false, "", "",0⟩:Field)) (Rd.sl (fuel:=n) Y4 (f:=C0.row) (bk:=C0.bulk) u22 c57 (by omega) C0.row_len (λm b=>C0.rd m)) rfl c22 (λ_=>rfl) (FRd.cons (fd:=(⟨"Body",23,1,false, "", "",24⟩:Field)) (Rd.sl Y4 (f:=E0.row) (bk:=E0.bulk) u23 P1o (by omega) E0.row_len (λm b=>E0.rd m)) rfl c23 (λ_=>rfl) FRd.nil);exact Rd.st Y4 Tryz.underlying25 rfl c25 I0.row_len F (λp=>I0.mk p.1 p.2.1) (λx=>by simp[I0.row,C0.row,E0.row,A0.rows_map,D0.rows_map,E0.rows_map,C0.rows_map,I0.rows_map,estr.rows,estr.row,ei64.rows,ei64.row]) (λx=>by simp[I0.bulk,C0.bulks_map,E0.bulks_map])
def C1.bulks_map:∀l:List C1,C1.bulks l=(l.map C1.bulk).sum
 |[]=>rfl
 |x::r=>by simp only[C1.bulks,List.map_cons,List.sum_cons,C1.bulks_map r]
def C1.row_len (x:C1):(C1.row x).length=13:=rfl
def C1.rd:∀fuel,Rd enc Tryz.prog W Rows.uptoBulk fuel 27 C1.row C1.bulk:=by
 intro fuel
 induction fuel using Nat.strongRecOn with
 |ind fuel b=>
 have F:=λn (c:n<fuel)=>FRd.cons (enc:=enc) (W:=W) (off:=0) (fd:=(⟨"Assign",3,0,false, "", "",0⟩:Field)) (Rd.int (fuel:=n) Y4 u3) rfl c3 (λ_=>rfl) (FRd.cons (fd:=(⟨"Branch",3,1,false, "", "",8⟩:Field)) (Rd.int Y4 u3) rfl c3 (λ_=>rfl) (FRd.cons (fd:=(⟨"Loop",3,2,false, "", "",16⟩:Field)) (Rd.int Y4 u3) rfl c3 (λ_=>rfl) (FRd.cons (fd:=(⟨"Call",3,3,false, "", "",24⟩:Field)) (Rd.int Y4 u3) rfl c3 (λ_=>rfl) (FRd.cons (fd:=(⟨"Output",3,4,false, "", "",32⟩:Field)) (Rd.int Y4 u3) rfl c3 (λ_=>rfl) (FRd.cons (fd:=(⟨"Release",3,5,false, "", "",40⟩:Field)) (Rd.int Y4 u3) rfl c3 (λ_=>rfl) (FRd.cons (fd:=(⟨"Load",3,6,false, "", "",48⟩:Field)) (Rd.int Y4 u3) rfl c3 (λ_=>rfl) (FRd.cons (fd:=(⟨"Index",3,7,false, "", "",56⟩:Field)) (Rd.int Y4 u3) rfl c3 (λ_=>rfl) (FRd.cons (fd:=(⟨"Arith",3,8,false, "", "",64⟩:Field)) (Rd.int Y4 u3) rfl c3 (λ_=>rfl) (FRd.cons (fd:=(⟨"Multiply",3,9,false, "", "",72⟩:Field)) (Rd.int Y4 u3) rfl c3 (λ_=>rfl) (FRd.cons (fd:=(⟨"Divide",3,10,false, "", "",80⟩:Field)) (Rd.int Y4 u3) rfl c3 (λ_=>rfl) (FRd.cons (fd:=(⟨"Compare",3,11,false, "", "",88⟩:Field)) (Rd.int Y4 u3) rfl c3 (λ_=>rfl) (FRd.cons (fd:=(⟨"Logic",3,12,false, "", "",96⟩:Field)) (Rd.int Y4 u3) rfl c3 (λ_=>rfl) FRd.nil))))))))))));exact Rd.st Y4 Tryz.underlying27 rfl c27 C1.row_len F (λp=>C1.mk p.1 p.2.1 p.2.2.1 p.2.2.2.1 p.2.2.2.2.1 p.2.2.2.2.2.1 p.2.2.2.2.2.2.1 p.2.2.2.2.2.2.2.1 p.2.2.2.2.2.2.2.2.1 p.2.2.2.2.2.2.2.2.2.1 p.2.2.2.2.2.2.2.2.2.2.1 p.2.2.2.2.2.2.2.2.2.2.2.1 p.2.2.2.2.2.2.2.2.2.2.2.2.1) (λx=>by simp[C1.row,A0.rows_map,D0.rows_map,E0.rows_map,C0.rows_map,I0.rows_map,C1.rows_map,estr.rows,estr.row,ei64.rows,ei64.row]) (λx=>by simp[C1.bulk])
def O1.bulks_map:∀l:List O1,O1.bulks l=(l.map O1.bulk).sum
 |[]=>rfl
 |x::r=>by simp only[O1.bulks,List.map_cons,List.sum_cons,O1.bulks_map r]
def O1.row_len (x:O1):(O1.row x).length=3:=rfl
def O1.rd:∀fuel,Rd enc Tryz.prog W Rows.uptoBulk fuel 30 O1.row O1.bulk:=by
 intro fuel
 induction fuel using Nat.strongRecOn with
 |ind fuel b=>
 have F:=λn (c:n<fuel)=>FRd.cons (enc:=enc) (W:=W) (off:=0) (fd:=(⟨"Secret",28,0,false, "", "",0⟩:Field)) (Rd.sl (fuel:=n) Y4 (f:=λn:Int=>[D.int .i64 n]) (bk:=λ_=>1) u28 c3 (zqr _) (λ_=>rfl) (λ_ _=>Rd.int Y4 u3)) rfl c28 (λ_=>rfl) (FRd.cons (fd:=(⟨"Public",28,1,false, "", "",24⟩:Field)) (Rd.sl Y4 (f:=λn:Int=>[D.int .i64 n]) (bk:=λ_=>1) u28 c3 (zqr _) (λ_=>rfl) (λ_ _=>Rd.int Y4 u3)) rfl c28 (λ_=>rfl) (FRd.cons (fd:=(⟨"Random",28,2,false, "", "",48⟩:Field)) (Rd.sl Y4 (f:=λn:Int=>[D.int .i64 n]) (bk:=λ_=>1) u28 c3 (zqr _) (λ_=>rfl) (λ_ _=>Rd.int Y4 u3)) rfl c28 (λ_=>rfl) FRd.nil));exact Rd.st Y4 Tryz.underlying30 rfl c30 O1.row_len F (λp=>O1.mk p.1 p.2.1 p.2.2.1) (λx=>by simp[O1.row,A0.rows_map,D0.rows_map,E0.rows_map,C0.rows_map,I0.rows_map,C1.rows_map,O1.rows_map,estr.rows,estr.row,ei64.rows,ei64.row]) (λx=>by simp[O1.bulk])
end
def Gk (t:TypeId):Prop:=t∈[46,9,47,3,48,49,51,52,53,55,109,28,111,23,57,22,25,27,30,4]
def Y25:Plain Tryz.prog Gk:=by
 intro t c;simp only[Gk,List.mem_cons,List.not_mem_nil,or_false]at c;rcases c with rfl|rfl|rfl|rfl|rfl|rfl|rfl|rfl|rfl|rfl|rfl|rfl|rfl|rfl|rfl|rfl|rfl|rfl|rfl|rfl
 ·exact .inr (.inl ⟨_,u46⟩)
 ·exact .inr (.inr (.inl u9))
 ·exact .inr (.inl ⟨_,u47⟩)
 ·exact .inr (.inl ⟨_,u3⟩)
 ·exact .inr (.inr (.inr (.inl ⟨_,u48,by simp[Gk],by rw[c9];omega⟩)))
 ·exact .inr (.inr (.inr (.inl ⟨_,u49,by simp[Gk],by rw[c51];omega⟩)))
 ·refine .inr (.inr (.inr (.inr ⟨_,Tryz.underlying51,λf b=>?_⟩)));simp at b;rcases b with rfl|rfl|rfl|rfl|rfl|rfl|rfl<;>simp[Gk]
 ·exact .inr (.inl ⟨_,u52⟩)
 ·exact .inr (.inr (.inr (.inl ⟨_,u53,by simp[Gk],by rw[c55];omega⟩)))
 ·refine .inr (.inr (.inr (.inr ⟨_,Tryz.underlying55,λf b=>?_⟩)));simp at b;rcases b with rfl|rfl|rfl|rfl<;>simp[Gk]
 ·exact .inr (.inl ⟨_,M2c⟩)
 ·exact .inr (.inr (.inr (.inl ⟨_,u28,by simp[Gk],by rw[c3];omega⟩)))
 ·refine .inr (.inr (.inr (.inr ⟨_,Tryz.underlying111,λf b=>?_⟩)));simp at b;rcases b with rfl|rfl|rfl|rfl|rfl|rfl|rfl|rfl|rfl|rfl|rfl<;>simp[Gk]
 ·exact .inr (.inr (.inr (.inl ⟨_,u23,by simp[Gk],by rw[P1o];omega⟩)))
 ·refine .inr (.inr (.inr (.inr ⟨_,Tryz.underlying57,λf b=>?_⟩)));simp at b;rcases b with rfl|rfl|rfl|rfl|rfl|rfl|rfl|rfl<;>simp[Gk]
 ·exact .inr (.inr (.inr (.inl ⟨_,u22,by simp[Gk],by rw[c57];omega⟩)))
 ·refine .inr (.inr (.inr (.inr ⟨_,Tryz.underlying25,λf b=>?_⟩)));simp at b;rcases b with rfl|rfl<;>simp[Gk]
 ·refine .inr (.inr (.inr (.inr ⟨_,Tryz.underlying27,λf b=>?_⟩)));simp at b;rcases b with rfl|rfl|rfl|rfl|rfl|rfl|rfl|rfl|rfl|rfl|rfl|rfl|rfl<;>simp[Gk]
 ·refine .inr (.inr (.inr (.inr ⟨_,Tryz.underlying30,λf b=>?_⟩)));simp at b;rcases b with rfl|rfl|rfl<;>simp[Gk]
 ·exact .inl u4
end Go.Proofs.YtnabbmegmkdehaaGreatDoor

namespace Go.Proofs.YtnabbmegmkdehaaGreatDoor
open Go.Am Go.ChangeShapes Go.WideShapes Go.ChangeAt Go.RowKit
theorem own : ownKnob Tryz.prog.godebug = none := by kernel_rfl
def laidL : List (String × DataW Unit) := [("math/bits.deBruijn32tab", Rows.laid_math_bits_deBruijn32tab), ("math/bits.deBruijn64tab", Rows.laid_math_bits_deBruijn64tab), ("internal/strconv.uint64pow10", Rows.laid_internal_strconv_uint64pow10)]
theorem laid_of {W : World} (h : laidMetH Tryz.prog laidL W) : laidMet Tryz.prog laidL W := h
theorem glOk {W : World} (h : W.ShapedOpen Tryz.prog) (hL : laidMet Tryz.prog laidL W) : L10 C (Nm W) W := by
  obtain ⟨m, hm⟩ := cell_of_shapedOpen_int (g := 1) (zero := #[.int .i64 0]) (t := 3) h (of_decide_eq_true (by kernel_rfl)) (by kernel_rfl) rfl (by kernel_rfl) (by kernel_rfl) Tryz.underlying3
  obtain ⟨h10, hm10⟩ := G1w hL 2 (name := "internal/strconv.uint64pow10") (k := .u64) (zs := Lib.pow10Tab) rfl (g := 0) (t := 363) (e := 339) (n := 20) (by kernel_rfl) (by kernel_rfl) (by kernel_rfl) (by kernel_rfl) (by kernel_rfl) (by kernel_rfl)
  exact { tab := fun G g cs e => (by cases e), gp := ⟨⟨m, (J1a hm).1⟩, hm10, h10⟩ }
def laidLit : DataW Unit → Value
  | .lit (.int k n) => .int k n
  | .lit (.string s) => .string ⟨s.toArray⟩
  | _ => .bool false
def laidCells : DataW Unit → Array Value
  | .agg l => (l.flatMap fun
      | .agg m => m.map laidLit
      | x => [laidLit x]).toArray
  | _ => #[]
def laidBox (t b : Nat) : Obj → Obj
  | .cells _ ty frozen => .cells #[.iface t (.pointer (some ⟨b, 0, none⟩))] ty frozen
  | o => o
def laidPut (d : DataW Unit) : Obj → Obj
  | .cells _ t frozen => .cells (laidCells d) t frozen
  | o => o
noncomputable def laidWorld (os : Os) : World :=
  { World.holding Tryz.prog os ⟨#[], #[], []⟩ with heap := ((((World.holding Tryz.prog os ⟨#[], #[], []⟩).heap.modify 2 (laidPut Rows.laid_math_bits_deBruijn32tab)).modify 3 (laidPut Rows.laid_math_bits_deBruijn64tab)).modify 0 (laidPut Rows.laid_internal_strconv_uint64pow10)) }
def zv25 : _root_.Go.Value := .agg #[.slice none 0 0, .slice none 0 0]
def zr25 {H : Type} : DataW H := .agg [.nil, .nil]
def zv27 : _root_.Go.Value := .agg #[.int .i64 0, .int .i64 0, .int .i64 0, .int .i64 0, .int .i64 0, .int .i64 0, .int .i64 0, .int .i64 0, .int .i64 0, .int .i64 0, .int .i64 0, .int .i64 0, .int .i64 0]
def zr27 {H : Type} : DataW H := .agg [.lit (.int .i64 0), .lit (.int .i64 0), .lit (.int .i64 0), .lit (.int .i64 0), .lit (.int .i64 0), .lit (.int .i64 0), .lit (.int .i64 0), .lit (.int .i64 0), .lit (.int .i64 0), .lit (.int .i64 0), .lit (.int .i64 0), .lit (.int .i64 0), .lit (.int .i64 0)]
def zv30 : _root_.Go.Value := .agg #[.slice none 0 0, .slice none 0 0, .slice none 0 0]
def zr30 {H : Type} : DataW H := .agg [.nil, .nil, .nil]
end Go.Proofs.YtnabbmegmkdehaaGreatDoor

