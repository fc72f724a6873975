/- A part of the proof of ParserBrackets. -/
import Derived.Test.YtmnhfbekncjnfaaDoorXxA
import Derived.Test.YtmnhfbekncjnfaaDoorAmG
set_option maxRecDepth 100000
set_option maxHeartbeats 4000000
set_option synthInstance.maxSize 20000
set_option linter.unusedVariables false
namespace Go.Proofs.YtmnhfbekncjnfaaDoor
open Go.Am
instance:Nonempty (L1 C):=⟨hC⟩
def ebool.zero:Bool:=false
def ebool.leaf (x:Bool):D:=.bool x
def ebool.cells (l:List Bool):List A:=l.map fun x=>.d (ebool.leaf x)
def ebool.row (x:Bool):Row:=[.bool x]
def ebool.rows (l:List Bool):List Row:=l.map ebool.row
theorem ebool.rows_map (l:List Bool):ebool.rows l=l.map ebool.row:=rfl
theorem ebool.idx {l:List Bool}{n:Int}{x:Bool}(h:idx l n=some x):(ebool.rows l)[n.toNat]?=some (ebool.row x):=G7 ebool.rows_map h
theorem ebool.app (l m:List Bool):ebool.rows (l++m)=ebool.rows l++ebool.rows m:=H7 ebool.rows_map l m
theorem ebool.len (l:List Bool):(ebool.rows l).length=l.length:=M6 ebool.rows_map l
theorem ebool.lenA (l:List Bool):A.d (.int .i64 ((ebool.rows l).length:Nat))=A.d (.int .i64 (l.length:Nat)):=D6 ebool.rows_map l
theorem ebool.sz (l:List Bool):∀ r∈ebool.rows l,r.length=1:=O8 ebool.rows_map (fun _=>rfl) l
theorem ebool.part {l x:List Bool}{a b:Int}(h:slc l a b=some x):a=(a.toNat:Int)∧b=(b.toNat:Int)∧a.toNat≤b.toNat∧b.toNat≤(ebool.rows l).length∧ebool.rows x=((ebool.rows l).take b.toNat).drop a.toNat:=E6 ebool.rows_map h
def ebool.ents (m:List (Str×Bool)):List (Str×Row):=J5 ebool.row m
def ebool.val (x:Bool):A:=.d (.bool x)
theorem ebool.lkT {k:Str}{m:List (Str×Bool)}{x:Option Bool}(hx:some (mgt k m)=some x):lkA (Q3 k (ebool.ents m)) (ebool.val ebool.zero) true = .tup [ebool.val (x.getD ebool.zero),.d (.bool x.isSome)]:=Ig (h:=ebool.val) (fun _=>rfl) rfl hx
theorem ebool.lk {k:Str}{m:List (Str×Bool)}{x:Option Bool}(hx:some (mgt k m)=some x):lkA (Q3 k (ebool.ents m)) (ebool.val ebool.zero) false=ebool.val (x.getD ebool.zero):=Jg (h:=ebool.val) (fun _=>rfl) rfl hx
theorem ebool.lkNT {x:Option Bool}(hx:some none=some x):lkA none (ebool.val ebool.zero) true = .tup [ebool.val (x.getD ebool.zero),.d (.bool x.isSome)]:=Cd (h:=ebool.val) rfl hx
theorem ebool.lkN {x:Option Bool}(hx:some none=some x):lkA none (ebool.val ebool.zero) false=ebool.val (x.getD ebool.zero):=Dd (h:=ebool.val) rfl hx
theorem ebool.mput (k:Str)(x:Bool)(m:List (Str×Bool)):mput k (ebool.row x) (ebool.ents m)=ebool.ents (mpt k x m):=(N6 ebool.row k x m).symm
def estr.zero:Str:=[]
def estr.leaf (x:Str):D:=.str x
def estr.cells (l:List Str):List A:=l.map fun x=>.d (estr.leaf x)
def estr.row (x:Str):Row:=[.str x]
def estr.rows (l:List Str):List Row:=l.map estr.row
theorem estr.rows_map (l:List Str):estr.rows l=l.map estr.row:=rfl
theorem estr.idx {l:List Str}{n:Int}{x:Str}(h:idx l n=some x):(estr.rows l)[n.toNat]?=some (estr.row x):=G7 estr.rows_map h
theorem estr.app (l m:List Str):estr.rows (l++m)=estr.rows l++estr.rows m:=H7 estr.rows_map l m
theorem estr.len (l:List Str):(estr.rows l).length=l.length:=M6 estr.rows_map l
theorem estr.lenA (l:List Str):A.d (.int .i64 ((estr.rows l).length:Nat))=A.d (.int .i64 (l.length:Nat)):=D6 estr.rows_map l
theorem estr.sz (l:List Str):∀ r∈estr.rows l,r.length=1:=O8 estr.rows_map (fun _=>rfl) l
theorem estr.part {l x:List Str}{a b:Int}(h:slc l a b=some x):a=(a.toNat:Int)∧b=(b.toNat:Int)∧a.toNat≤b.toNat∧b.toNat≤(estr.rows l).length∧estr.rows x=((estr.rows l).take b.toNat).drop a.toNat:=E6 estr.rows_map h
def estr.ents (m:List (Str×Str)):List (Str×Row):=J5 estr.row m
def estr.val (x:Str):A:=.d (.str x)
theorem estr.lkT {k:Str}{m:List (Str×Str)}{x:Option Str}(hx:some (mgt k m)=some x):lkA (Q3 k (estr.ents m)) (estr.val estr.zero) true = .tup [estr.val (x.getD estr.zero),.d (.bool x.isSome)]:=Ig (h:=estr.val) (fun _=>rfl) rfl hx
theorem estr.lk {k:Str}{m:List (Str×Str)}{x:Option Str}(hx:some (mgt k m)=some x):lkA (Q3 k (estr.ents m)) (estr.val estr.zero) false=estr.val (x.getD estr.zero):=Jg (h:=estr.val) (fun _=>rfl) rfl hx
theorem estr.lkNT {x:Option Str}(hx:some none=some x):lkA none (estr.val estr.zero) true = .tup [estr.val (x.getD estr.zero),.d (.bool x.isSome)]:=Cd (h:=estr.val) rfl hx
theorem estr.lkN {x:Option Str}(hx:some none=some x):lkA none (estr.val estr.zero) false=estr.val (x.getD estr.zero):=Dd (h:=estr.val) rfl hx
theorem estr.mput (k:Str)(x:Str)(m:List (Str×Str)):mput k (estr.row x) (estr.ents m)=estr.ents (mpt k x m):=(N6 estr.row k x m).symm
def ei8.zero:Int:=0
def ei8.leaf (x:Int):D:=.int .i8 x
def ei8.cells (l:List Int):List A:=l.map fun x=>.d (ei8.leaf x)
def ei8.row (x:Int):Row:=[.int .i8 x]
def ei8.rows (l:List Int):List Row:=l.map ei8.row
theorem ei8.rows_map (l:List Int):ei8.rows l=l.map ei8.row:=rfl
theorem ei8.idx {l:List Int}{n:Int}{x:Int}(h:idx l n=some x):(ei8.rows l)[n.toNat]?=some (ei8.row x):=G7 ei8.rows_map h
theorem ei8.app (l m:List Int):ei8.rows (l++m)=ei8.rows l++ei8.rows m:=H7 ei8.rows_map l m
theorem ei8.len (l:List Int):(ei8.rows l).length=l.length:=M6 ei8.rows_map l
theorem ei8.lenA (l:List Int):A.d (.int .i64 ((ei8.rows l).length:Nat))=A.d (.int .i64 (l.length:Nat)):=D6 ei8.rows_map l
theorem ei8.sz (l:List Int):∀ r∈ei8.rows l,r.length=1:=O8 ei8.rows_map (fun _=>rfl) l
theorem ei8.part {l x:List Int}{a b:Int}(h:slc l a b=some x):a=(a.toNat:Int)∧b=(b.toNat:Int)∧a.toNat≤b.toNat∧b.toNat≤(ei8.rows l).length∧ei8.rows x=((ei8.rows l).take b.toNat).drop a.toNat:=E6 ei8.rows_map h
def ei8.ents (m:List (Str×Int)):List (Str×Row):=J5 ei8.row m
def ei8.val (x:Int):A:=.d (.int .i8 x)
theorem ei8.lkT {k:Str}{m:List (Str×Int)}{x:Option Int}(hx:some (mgt k m)=some x):lkA (Q3 k (ei8.ents m)) (ei8.val ei8.zero) true = .tup [ei8.val (x.getD ei8.zero),.d (.bool x.isSome)]:=Ig (h:=ei8.val) (fun _=>rfl) rfl hx
theorem ei8.lk {k:Str}{m:List (Str×Int)}{x:Option Int}(hx:some (mgt k m)=some x):lkA (Q3 k (ei8.ents m)) (ei8.val ei8.zero) false=ei8.val (x.getD ei8.zero):=Jg (h:=ei8.val) (fun _=>rfl) rfl hx
theorem ei8.lkNT {x:Option Int}(hx:some none=some x):lkA none (ei8.val ei8.zero) true = .tup [ei8.val (x.getD ei8.zero),.d (.bool x.isSome)]:=Cd (h:=ei8.val) rfl hx
theorem ei8.lkN {x:Option Int}(hx:some none=some x):lkA none (ei8.val ei8.zero) false=ei8.val (x.getD ei8.zero):=Dd (h:=ei8.val) rfl hx
theorem ei8.mput (k:Str)(x:Int)(m:List (Str×Int)):mput k (ei8.row x) (ei8.ents m)=ei8.ents (mpt k x m):=(N6 ei8.row k x m).symm
def ei16.zero:Int:=0
def ei16.leaf (x:Int):D:=.int .i16 x
def ei16.cells (l:List Int):List A:=l.map fun x=>.d (ei16.leaf x)
def ei16.row (x:Int):Row:=[.int .i16 x]
def ei16.rows (l:List Int):List Row:=l.map ei16.row
theorem ei16.rows_map (l:List Int):ei16.rows l=l.map ei16.row:=rfl
theorem ei16.idx {l:List Int}{n:Int}{x:Int}(h:idx l n=some x):(ei16.rows l)[n.toNat]?=some (ei16.row x):=G7 ei16.rows_map h
theorem ei16.app (l m:List Int):ei16.rows (l++m)=ei16.rows l++ei16.rows m:=H7 ei16.rows_map l m
theorem ei16.len (l:List Int):(ei16.rows l).length=l.length:=M6 ei16.rows_map l
theorem ei16.lenA (l:List Int):A.d (.int .i64 ((ei16.rows l).length:Nat))=A.d (.int .i64 (l.length:Nat)):=D6 ei16.rows_map l
theorem ei16.sz (l:List Int):∀ r∈ei16.rows l,r.length=1:=O8 ei16.rows_map (fun _=>rfl) l
theorem ei16.part {l x:List Int}{a b:Int}(h:slc l a b=some x):a=(a.toNat:Int)∧b=(b.toNat:Int)∧a.toNat≤b.toNat∧b.toNat≤(ei16.rows l).length∧ei16.rows x=((ei16.rows l).take b.toNat).drop a.toNat:=E6 ei16.rows_map h
def ei16.ents (m:List (Str×Int)):List (Str×Row):=J5 ei16.row m
def ei16.val (x:Int):A:=.d (.int .i16 x)
theorem ei16.lkT {k:Str}{m:List (Str×Int)}{x:Option Int}(hx:some (mgt k m)=some x):lkA (Q3 k (ei16.ents m)) (ei16.val ei16.zero) true = .tup [ei16.val (x.getD ei16.zero),.d (.bool x.isSome)]:=Ig (h:=ei16.val) (fun _=>rfl) rfl hx
theorem ei16.lk {k:Str}{m:List (Str×Int)}{x:Option Int}(hx:some (mgt k m)=some x):lkA (Q3 k (ei16.ents m)) (ei16.val ei16.zero) false=ei16.val (x.getD ei16.zero):=Jg (h:=ei16.val) (fun _=>rfl) rfl hx
theorem ei16.lkNT {x:Option Int}(hx:some none=some x):lkA none (ei16.val ei16.zero) true = .tup [ei16.val (x.getD ei16.zero),.d (.bool x.isSome)]:=Cd (h:=ei16.val) rfl hx
theorem ei16.lkN {x:Option Int}(hx:some none=some x):lkA none (ei16.val ei16.zero) false=ei16.val (x.getD ei16.zero):=Dd (h:=ei16.val) rfl hx
theorem ei16.mput (k:Str)(x:Int)(m:List (Str×Int)):mput k (ei16.row x) (ei16.ents m)=ei16.ents (mpt k x m):=(N6 ei16.row k x m).symm
def ei32.zero:Int:=0
def ei32.leaf (x:Int):D:=.int .i32 x
def ei32.cells (l:List Int):List A:=l.map fun x=>.d (ei32.leaf x)
def ei32.row (x:Int):Row:=[.int .i32 x]
def ei32.rows (l:List Int):List Row:=l.map ei32.row
theorem ei32.rows_map (l:List Int):ei32.rows l=l.map ei32.row:=rfl
theorem ei32.idx {l:List Int}{n:Int}{x:Int}(h:idx l n=some x):(ei32.rows l)[n.toNat]?=some (ei32.row x):=G7 ei32.rows_map h
theorem ei32.app (l m:List Int):ei32.rows (l++m)=ei32.rows l++ei32.rows m:=H7 ei32.rows_map l m
theorem ei32.len (l:List Int):(ei32.rows l).length=l.length:=M6 ei32.rows_map l
theorem ei32.lenA (l:List Int):A.d (.int .i64 ((ei32.rows l).length:Nat))=A.d (.int .i64 (l.length:Nat)):=D6 ei32.rows_map l
theorem ei32.sz (l:List Int):∀ r∈ei32.rows l,r.length=1:=O8 ei32.rows_map (fun _=>rfl) l
theorem ei32.part {l x:List Int}{a b:Int}(h:slc l a b=some x):a=(a.toNat:Int)∧b=(b.toNat:Int)∧a.toNat≤b.toNat∧b.toNat≤(ei32.rows l).length∧ei32.rows x=((ei32.rows l).take b.toNat).drop a.toNat:=E6 ei32.rows_map h
def ei32.ents (m:List (Str×Int)):List (Str×Row):=J5 ei32.row m
def ei32.val (x:Int):A:=.d (.int .i32 x)
theorem ei32.lkT {k:Str}{m:List (Str×Int)}{x:Option Int}(hx:some (mgt k m)=some x):lkA (Q3 k (ei32.ents m)) (ei32.val ei32.zero) true = .tup [ei32.val (x.getD ei32.zero),.d (.bool x.isSome)]:=Ig (h:=ei32.val) (fun _=>rfl) rfl hx
theorem ei32.lk {k:Str}{m:List (Str×Int)}{x:Option Int}(hx:some (mgt k m)=some x):lkA (Q3 k (ei32.ents m)) (ei32.val ei32.zero) false=ei32.val (x.getD ei32.zero):=Jg (h:=ei32.val) (fun _=>rfl) rfl hx
theorem ei32.lkNT {x:Option Int}(hx:some none=some x):lkA none (ei32.val ei32.zero) true = .tup [ei32.val (x.getD ei32.zero),.d (.bool x.isSome)]:=Cd (h:=ei32.val) rfl hx
theorem ei32.lkN {x:Option Int}(hx:some none=some x):lkA none (ei32.val ei32.zero) false=ei32.val (x.getD ei32.zero):=Dd (h:=ei32.val) rfl hx
theorem ei32.mput (k:Str)(x:Int)(m:List (Str×Int)):mput k (ei32.row x) (ei32.ents m)=ei32.ents (mpt k x m):=(N6 ei32.row k x m).symm
def ei64.zero:Int:=0
def ei64.leaf (x:Int):D:=.int .i64 x
def ei64.cells (l:List Int):List A:=l.map fun x=>.d (ei64.leaf x)
def ei64.row (x:Int):Row:=[.int .i64 x]
def ei64.rows (l:List Int):List Row:=l.map ei64.row
theorem ei64.rows_map (l:List Int):ei64.rows l=l.map ei64.row:=rfl
theorem ei64.idx {l:List Int}{n:Int}{x:Int}(h:idx l n=some x):(ei64.rows l)[n.toNat]?=some (ei64.row x):=G7 ei64.rows_map h
theorem ei64.app (l m:List Int):ei64.rows (l++m)=ei64.rows l++ei64.rows m:=H7 ei64.rows_map l m
theorem ei64.len (l:List Int):(ei64.rows l).length=l.length:=M6 ei64.rows_map l
theorem ei64.lenA (l:List Int):A.d (.int .i64 ((ei64.rows l).length:Nat))=A.d (.int .i64 (l.length:Nat)):=D6 ei64.rows_map l
theorem ei64.sz (l:List Int):∀ r∈ei64.rows l,r.length=1:=O8 ei64.rows_map (fun _=>rfl) l
theorem ei64.part {l x:List Int}{a b:Int}(h:slc l a b=some x):a=(a.toNat:Int)∧b=(b.toNat:Int)∧a.toNat≤b.toNat∧b.toNat≤(ei64.rows l).length∧ei64.rows x=((ei64.rows l).take b.toNat).drop a.toNat:=E6 ei64.rows_map h
def ei64.ents (m:List (Str×Int)):List (Str×Row):=J5 ei64.row m
def ei64.val (x:Int):A:=.d (.int .i64 x)
theorem ei64.lkT {k:Str}{m:List (Str×Int)}{x:Option Int}(hx:some (mgt k m)=some x):lkA (Q3 k (ei64.ents m)) (ei64.val ei64.zero) true = .tup [ei64.val (x.getD ei64.zero),.d (.bool x.isSome)]:=Ig (h:=ei64.val) (fun _=>rfl) rfl hx
theorem ei64.lk {k:Str}{m:List (Str×Int)}{x:Option Int}(hx:some (mgt k m)=some x):lkA (Q3 k (ei64.ents m)) (ei64.val ei64.zero) false=ei64.val (x.getD ei64.zero):=Jg (h:=ei64.val) (fun _=>rfl) rfl hx
theorem ei64.lkNT {x:Option Int}(hx:some none=some x):lkA none (ei64.val ei64.zero) true = .tup [ei64.val (x.getD ei64.zero),.d (.bool x.isSome)]:=Cd (h:=ei64.val) rfl hx
theorem ei64.lkN {x:Option Int}(hx:some none=some x):lkA none (ei64.val ei64.zero) false=ei64.val (x.getD ei64.zero):=Dd (h:=ei64.val) rfl hx
theorem ei64.mput (k:Str)(x:Int)(m:List (Str×Int)):mput k (ei64.row x) (ei64.ents m)=ei64.ents (mpt k x m):=(N6 ei64.row k x m).symm
def eu8.zero:Int:=0
def eu8.leaf (x:Int):D:=.int .u8 x
def eu8.cells (l:List Int):List A:=l.map fun x=>.d (eu8.leaf x)
def eu8.row (x:Int):Row:=[.int .u8 x]
def eu8.rows (l:List Int):List Row:=l.map eu8.row
theorem eu8.rows_map (l:List Int):eu8.rows l=l.map eu8.row:=rfl
theorem eu8.idx {l:List Int}{n:Int}{x:Int}(h:idx l n=some x):(eu8.rows l)[n.toNat]?=some (eu8.row x):=G7 eu8.rows_map h
theorem eu8.app (l m:List Int):eu8.rows (l++m)=eu8.rows l++eu8.rows m:=H7 eu8.rows_map l m
theorem eu8.len (l:List Int):(eu8.rows l).length=l.length:=M6 eu8.rows_map l
theorem eu8.lenA (l:List Int):A.d (.int .i64 ((eu8.rows l).length:Nat))=A.d (.int .i64 (l.length:Nat)):=D6 eu8.rows_map l
theorem eu8.sz (l:List Int):∀ r∈eu8.rows l,r.length=1:=O8 eu8.rows_map (fun _=>rfl) l
theorem eu8.part {l x:List Int}{a b:Int}(h:slc l a b=some x):a=(a.toNat:Int)∧b=(b.toNat:Int)∧a.toNat≤b.toNat∧b.toNat≤(eu8.rows l).length∧eu8.rows x=((eu8.rows l).take b.toNat).drop a.toNat:=E6 eu8.rows_map h
def eu8.ents (m:List (Str×Int)):List (Str×Row):=J5 eu8.row m
def eu8.val (x:Int):A:=.d (.int .u8 x)
theorem eu8.lkT {k:Str}{m:List (Str×Int)}{x:Option Int}(hx:some (mgt k m)=some x):lkA (Q3 k (eu8.ents m)) (eu8.val eu8.zero) true = .tup [eu8.val (x.getD eu8.zero),.d (.bool x.isSome)]:=Ig (h:=eu8.val) (fun _=>rfl) rfl hx
theorem eu8.lk {k:Str}{m:List (Str×Int)}{x:Option Int}(hx:some (mgt k m)=some x):lkA (Q3 k (eu8.ents m)) (eu8.val eu8.zero) false=eu8.val (x.getD eu8.zero):=Jg (h:=eu8.val) (fun _=>rfl) rfl hx
theorem eu8.lkNT {x:Option Int}(hx:some none=some x):lkA none (eu8.val eu8.zero) true = .tup [eu8.val (x.getD eu8.zero),.d (.bool x.isSome)]:=Cd (h:=eu8.val) rfl hx
theorem eu8.lkN {x:Option Int}(hx:some none=some x):lkA none (eu8.val eu8.zero) false=eu8.val (x.getD eu8.zero):=Dd (h:=eu8.val) rfl hx
theorem eu8.mput (k:Str)(x:Int)(m:List (Str×Int)):mput k (eu8.row x) (eu8.ents m)=eu8.ents (mpt k x m):=(N6 eu8.row k x m).symm
def eu16.zero:Int:=0
def eu16.leaf (x:Int):D:=.int .u16 x
def eu16.cells (l:List Int):List A:=l.map fun x=>.d (eu16.leaf x)
def eu16.row (x:Int):Row:=[.int .u16 x]
def eu16.rows (l:List Int):List Row:=l.map eu16.row
theorem eu16.rows_map (l:List Int):eu16.rows l=l.map eu16.row:=rfl
theorem eu16.idx {l:List Int}{n:Int}{x:Int}(h:idx l n=some x):(eu16.rows l)[n.toNat]?=some (eu16.row x):=G7 eu16.rows_map h
theorem eu16.app (l m:List Int):eu16.rows (l++m)=eu16.rows l++eu16.rows m:=H7 eu16.rows_map l m
theorem eu16.len (l:List Int):(eu16.rows l).length=l.length:=M6 eu16.rows_map l
theorem eu16.lenA (l:List Int):A.d (.int .i64 ((eu16.rows l).length:Nat))=A.d (.int .i64 (l.length:Nat)):=D6 eu16.rows_map l
theorem eu16.sz (l:List Int):∀ r∈eu16.rows l,r.length=1:=O8 eu16.rows_map (fun _=>rfl) l
theorem eu16.part {l x:List Int}{a b:Int}(h:slc l a b=some x):a=(a.toNat:Int)∧b=(b.toNat:Int)∧a.toNat≤b.toNat∧b.toNat≤(eu16.rows l).length∧eu16.rows x=((eu16.rows l).take b.toNat).drop a.toNat:=E6 eu16.rows_map h
def eu16.ents (m:List (Str×Int)):List (Str×Row):=J5 eu16.row m
def eu16.val (x:Int):A:=.d (.int .u16 x)
theorem eu16.lkT {k:Str}{m:List (Str×Int)}{x:Option Int}(hx:some (mgt k m)=some x):lkA (Q3 k (eu16.ents m)) (eu16.val eu16.zero) true = .tup [eu16.val (x.getD eu16.zero),.d (.bool x.isSome)]:=Ig (h:=eu16.val) (fun _=>rfl) rfl hx
theorem eu16.lk {k:Str}{m:List (Str×Int)}{x:Option Int}(hx:some (mgt k m)=some x):lkA (Q3 k (eu16.ents m)) (eu16.val eu16.zero) false=eu16.val (x.getD eu16.zero):=Jg (h:=eu16.val) (fun _=>rfl) rfl hx
theorem eu16.lkNT {x:Option Int}(hx:some none=some x):lkA none (eu16.val eu16.zero) true = .tup [eu16.val (x.getD eu16.zero),.d (.bool x.isSome)]:=Cd (h:=eu16.val) rfl hx
theorem eu16.lkN {x:Option Int}(hx:some none=some x):lkA none (eu16.val eu16.zero) false=eu16.val (x.getD eu16.zero):=Dd (h:=eu16.val) rfl hx
theorem eu16.mput (k:Str)(x:Int)(m:List (Str×Int)):mput k (eu16.row x) (eu16.ents m)=eu16.ents (mpt k x m):=(N6 eu16.row k x m).symm
def eu32.zero:Int:=0
def eu32.leaf (x:Int):D:=.int .u32 x
def eu32.cells (l:List Int):List A:=l.map fun x=>.d (eu32.leaf x)
def eu32.row (x:Int):Row:=[.int .u32 x]
def eu32.rows (l:List Int):List Row:=l.map eu32.row
theorem eu32.rows_map (l:List Int):eu32.rows l=l.map eu32.row:=rfl
theorem eu32.idx {l:List Int}{n:Int}{x:Int}(h:idx l n=some x):(eu32.rows l)[n.toNat]?=some (eu32.row x):=G7 eu32.rows_map h
theorem eu32.app (l m:List Int):eu32.rows (l++m)=eu32.rows l++eu32.rows m:=H7 eu32.rows_map l m
theorem eu32.len (l:List Int):(eu32.rows l).length=l.length:=M6 eu32.rows_map l
theorem eu32.lenA (l:List Int):A.d (.int .i64 ((eu32.rows l).length:Nat))=A.d (.int .i64 (l.length:Nat)):=D6 eu32.rows_map l
theorem eu32.sz (l:List Int):∀ r∈eu32.rows l,r.length=1:=O8 eu32.rows_map (fun _=>rfl) l
theorem eu32.part {l x:List Int}{a b:Int}(h:slc l a b=some x):a=(a.toNat:Int)∧b=(b.toNat:Int)∧a.toNat≤b.toNat∧b.toNat≤(eu32.rows l).length∧eu32.rows x=((eu32.rows l).take b.toNat).drop a.toNat:=E6 eu32.rows_map h
def eu32.ents (m:List (Str×Int)):List (Str×Row):=J5 eu32.row m
def eu32.val (x:Int):A:=.d (.int .u32 x)
theorem eu32.lkT {k:Str}{m:List (Str×Int)}{x:Option Int}(hx:some (mgt k m)=some x):lkA (Q3 k (eu32.ents m)) (eu32.val eu32.zero) true = .tup [eu32.val (x.getD eu32.zero),.d (.bool x.isSome)]:=Ig (h:=eu32.val) (fun _=>rfl) rfl hx
theorem eu32.lk {k:Str}{m:List (Str×Int)}{x:Option Int}(hx:some (mgt k m)=some x):lkA (Q3 k (eu32.ents m)) (eu32.val eu32.zero) false=eu32.val (x.getD eu32.zero):=Jg (h:=eu32.val) (fun _=>rfl) rfl hx
theorem eu32.lkNT {x:Option Int}(hx:some none=some x):lkA none (eu32.val eu32.zero) true = .tup [eu32.val (x.getD eu32.zero),.d (.bool x.isSome)]:=Cd (h:=eu32.val) rfl hx
theorem eu32.lkN {x:Option Int}(hx:some none=some x):lkA none (eu32.val eu32.zero) false=eu32.val (x.getD eu32.zero):=Dd (h:=eu32.val) rfl hx
theorem eu32.mput (k:Str)(x:Int)(m:List (Str×Int)):mput k (eu32.row x) (eu32.ents m)=eu32.ents (mpt k x m):=(N6 eu32.row k x m).symm
def eu64.zero:Int:=0
def eu64.leaf (x:Int):D:=.int .u64 x
def eu64.cells (l:List Int):List A:=l.map fun x=>.d (eu64.leaf x)
def eu64.row (x:Int):Row:=[.int .u64 x]
def eu64.rows (l:List Int):List Row:=l.map eu64.row
theorem eu64.rows_map (l:List Int):eu64.rows l=l.map eu64.row:=rfl
theorem eu64.idx {l:List Int}{n:Int}{x:Int}(h:idx l n=some x):(eu64.rows l)[n.toNat]?=some (eu64.row x):=G7 eu64.rows_map h
theorem eu64.app (l m:List Int):eu64.rows (l++m)=eu64.rows l++eu64.rows m:=H7 eu64.rows_map l m
theorem eu64.len (l:List Int):(eu64.rows l).length=l.length:=M6 eu64.rows_map l
theorem eu64.lenA (l:List Int):A.d (.int .i64 ((eu64.rows l).length:Nat))=A.d (.int .i64 (l.length:Nat)):=D6 eu64.rows_map l
theorem eu64.sz (l:List Int):∀ r∈eu64.rows l,r.length=1:=O8 eu64.rows_map (fun _=>rfl) l
theorem eu64.part {l x:List Int}{a b:Int}(h:slc l a b=some x):a=(a.toNat:Int)∧b=(b.toNat:Int)∧a.toNat≤b.toNat∧b.toNat≤(eu64.rows l).length∧eu64.rows x=((eu64.rows l).take b.toNat).drop a.toNat:=E6 eu64.rows_map h
def eu64.ents (m:List (Str×Int)):List (Str×Row):=J5 eu64.row m
def eu64.val (x:Int):A:=.d (.int .u64 x)
theorem eu64.lkT {k:Str}{m:List (Str×Int)}{x:Option Int}(hx:some (mgt k m)=some x):lkA (Q3 k (eu64.ents m)) (eu64.val eu64.zero) true = .tup [eu64.val (x.getD eu64.zero),.d (.bool x.isSome)]:=Ig (h:=eu64.val) (fun _=>rfl) rfl hx
theorem eu64.lk {k:Str}{m:List (Str×Int)}{x:Option Int}(hx:some (mgt k m)=some x):lkA (Q3 k (eu64.ents m)) (eu64.val eu64.zero) false=eu64.val (x.getD eu64.zero):=Jg (h:=eu64.val) (fun _=>rfl) rfl hx
theorem eu64.lkNT {x:Option Int}(hx:some none=some x):lkA none (eu64.val eu64.zero) true = .tup [eu64.val (x.getD eu64.zero),.d (.bool x.isSome)]:=Cd (h:=eu64.val) rfl hx
theorem eu64.lkN {x:Option Int}(hx:some none=some x):lkA none (eu64.val eu64.zero) false=eu64.val (x.getD eu64.zero):=Dd (h:=eu64.val) rfl hx
theorem eu64.mput (k:Str)(x:Int)(m:List (Str×Int)):mput k (eu64.row x) (eu64.ents m)=eu64.ents (mpt k x m):=(N6 eu64.row k x m).symm
structure A0 where
 Op:Int
 NV:Int
 Name:Str
 Kids:List A0
def A0.zero:A0:=⟨0,0,[],[]⟩
instance:Inhabited A0:=⟨A0.zero⟩
mutual
def A0.rowX:A0→Row
 | .mk y0 y1 y2 y3=>[.int .i64 y0,.int .i64 y1,.str y2,.sl (A0.rowsX y3)]
def A0.rowsX:List A0→List Row
 | []=>[]
 | x::r=>A0.rowX x::A0.rowsX r
end
def A0.rows (l:List A0):List Row:=A0.rowsX l
def A0.row (x:A0):Row:=[.int .i64 x.Op,.int .i64 x.NV,.str x.Name,.sl (A0.rows x.Kids)]
theorem A0.rows_map:∀ l,A0.rows l=l.map A0.row
 | []=>rfl
 | x::r=>by
  show A0.rowX x::A0.rows r=A0.row x::r.map A0.row
  rw [A0.rows_map r]
  cases x
  rfl
def A0.cells (x:A0):List A:=[.d (.int .i64 x.Op),.d (.int .i64 x.NV),.d (.str x.Name),.d (.sl (A0.rows x.Kids))]
theorem A0.idx {l:List A0}{n:Int}{x:A0}(h:idx l n=some x):(A0.rows l)[n.toNat]?=some (A0.row x):=G7 A0.rows_map h
theorem A0.app (l m:List A0):A0.rows (l++m)=A0.rows l++A0.rows m:=H7 A0.rows_map l m
theorem A0.len (l:List A0):(A0.rows l).length=l.length:=M6 A0.rows_map l
theorem A0.lenA (l:List A0):A.d (.int .i64 ((A0.rows l).length:Nat))=A.d (.int .i64 (l.length:Nat)):=D6 A0.rows_map l
theorem A0.sz (l:List A0):∀ r∈A0.rows l,r.length=4:=O8 A0.rows_map (fun _=>rfl) l
theorem A0.part {l x:List A0}{a b:Int}(h:slc l a b=some x):a=(a.toNat:Int)∧b=(b.toNat:Int)∧a.toNat≤b.toNat∧b.toNat≤(A0.rows l).length∧A0.rows x=((A0.rows l).take b.toNat).drop a.toNat:=E6 A0.rows_map h
def A0.ents (m:List (Str×A0)):List (Str×Row):=J5 A0.row m
def A0.val (x:A0):A:=.agg (A0.cells x)
theorem A0.lkT {k:Str}{m:List (Str×A0)}{x:Option A0}(hx:some (mgt k m)=some x):lkA (Q3 k (A0.ents m)) (A0.val A0.zero) true = .tup [A0.val (x.getD A0.zero),.d (.bool x.isSome)]:=Ig (h:=A0.val) (fun _=>rfl) rfl hx
theorem A0.lk {k:Str}{m:List (Str×A0)}{x:Option A0}(hx:some (mgt k m)=some x):lkA (Q3 k (A0.ents m)) (A0.val A0.zero) false=A0.val (x.getD A0.zero):=Jg (h:=A0.val) (fun _=>rfl) rfl hx
theorem A0.lkNT {x:Option A0}(hx:some none=some x):lkA none (A0.val A0.zero) true = .tup [A0.val (x.getD A0.zero),.d (.bool x.isSome)]:=Cd (h:=A0.val) rfl hx
theorem A0.lkN {x:Option A0}(hx:some none=some x):lkA none (A0.val A0.zero) false=A0.val (x.getD A0.zero):=Dd (h:=A0.val) rfl hx
theorem A0.mput (k:Str)(x:A0)(m:List (Str×A0)):mput k (A0.row x) (A0.ents m)=A0.ents (mpt k x m):=(N6 A0.row k x m).symm
structure E0 where
 Kind:Int
 Text:Str
 At:Int
def E0.zero:E0:=⟨0,[],0⟩
instance:Inhabited E0:=⟨E0.zero⟩
def E0.row (x:E0):Row:=[.int .i64 x.Kind,.str x.Text,.int .i64 x.At]
def E0.rows (l:List E0):List Row:=l.map E0.row
theorem E0.rows_map (l:List E0):E0.rows l=l.map E0.row:=rfl
def E0.cells (x:E0):List A:=[.d (.int .i64 x.Kind),.d (.str x.Text),.d (.int .i64 x.At)]
theorem E0.idx {l:List E0}{n:Int}{x:E0}(h:idx l n=some x):(E0.rows l)[n.toNat]?=some (E0.row x):=G7 E0.rows_map h
theorem E0.app (l m:List E0):E0.rows (l++m)=E0.rows l++E0.rows m:=H7 E0.rows_map l m
theorem E0.len (l:List E0):(E0.rows l).length=l.length:=M6 E0.rows_map l
theorem E0.lenA (l:List E0):A.d (.int .i64 ((E0.rows l).length:Nat))=A.d (.int .i64 (l.length:Nat)):=D6 E0.rows_map l
theorem E0.sz (l:List E0):∀ r∈E0.rows l,r.length=3:=O8 E0.rows_map (fun _=>rfl) l
theorem E0.part {l x:List E0}{a b:Int}(h:slc l a b=some x):a=(a.toNat:Int)∧b=(b.toNat:Int)∧a.toNat≤b.toNat∧b.toNat≤(E0.rows l).length∧E0.rows x=((E0.rows l).take b.toNat).drop a.toNat:=E6 E0.rows_map h
def E0.ents (m:List (Str×E0)):List (Str×Row):=J5 E0.row m
def E0.val (x:E0):A:=.agg (E0.cells x)
theorem E0.lkT {k:Str}{m:List (Str×E0)}{x:Option E0}(hx:some (mgt k m)=some x):lkA (Q3 k (E0.ents m)) (E0.val E0.zero) true = .tup [E0.val (x.getD E0.zero),.d (.bool x.isSome)]:=Ig (h:=E0.val) (fun _=>rfl) rfl hx
theorem E0.lk {k:Str}{m:List (Str×E0)}{x:Option E0}(hx:some (mgt k m)=some x):lkA (Q3 k (E0.ents m)) (E0.val E0.zero) false=E0.val (x.getD E0.zero):=Jg (h:=E0.val) (fun _=>rfl) rfl hx
theorem E0.lkNT {x:Option E0}(hx:some none=some x):lkA none (E0.val E0.zero) true = .tup [E0.val (x.getD E0.zero),.d (.bool x.isSome)]:=Cd (h:=E0.val) rfl hx
theorem E0.lkN {x:Option E0}(hx:some none=some x):lkA none (E0.val E0.zero) false=E0.val (x.getD E0.zero):=Dd (h:=E0.val) rfl hx
theorem E0.mput (k:Str)(x:E0)(m:List (Str×E0)):mput k (E0.row x) (E0.ents m)=E0.ents (mpt k x m):=(N6 E0.row k x m).symm
structure B0 where
 tokens:List E0
 next:Int
 endV:Int
def B0.zero:B0:=⟨[],0,0⟩
instance:Inhabited B0:=⟨B0.zero⟩
def B0.row (x:B0):Row:=[.sl (E0.rows x.tokens),.int .i64 x.next,.int .i64 x.endV]
def B0.rows (l:List B0):List Row:=l.map B0.row
theorem B0.rows_map (l:List B0):B0.rows l=l.map B0.row:=rfl
def B0.cells (x:B0):List A:=[.d (.sl (E0.rows x.tokens)),.d (.int .i64 x.next),.d (.int .i64 x.endV)]
theorem B0.idx {l:List B0}{n:Int}{x:B0}(h:idx l n=some x):(B0.rows l)[n.toNat]?=some (B0.row x):=G7 B0.rows_map h
theorem B0.app (l m:List B0):B0.rows (l++m)=B0.rows l++B0.rows m:=H7 B0.rows_map l m
theorem B0.len (l:List B0):(B0.rows l).length=l.length:=M6 B0.rows_map l
theorem B0.lenA (l:List B0):A.d (.int .i64 ((B0.rows l).length:Nat))=A.d (.int .i64 (l.length:Nat)):=D6 B0.rows_map l
theorem B0.sz (l:List B0):∀ r∈B0.rows l,r.length=3:=O8 B0.rows_map (fun _=>rfl) l
theorem B0.part {l x:List B0}{a b:Int}(h:slc l a b=some x):a=(a.toNat:Int)∧b=(b.toNat:Int)∧a.toNat≤b.toNat∧b.toNat≤(B0.rows l).length∧B0.rows x=((B0.rows l).take b.toNat).drop a.toNat:=E6 B0.rows_map h
def B0.ents (m:List (Str×B0)):List (Str×Row):=J5 B0.row m
def B0.val (x:B0):A:=.agg (B0.cells x)
theorem B0.lkT {k:Str}{m:List (Str×B0)}{x:Option B0}(hx:some (mgt k m)=some x):lkA (Q3 k (B0.ents m)) (B0.val B0.zero) true = .tup [B0.val (x.getD B0.zero),.d (.bool x.isSome)]:=Ig (h:=B0.val) (fun _=>rfl) rfl hx
theorem B0.lk {k:Str}{m:List (Str×B0)}{x:Option B0}(hx:some (mgt k m)=some x):lkA (Q3 k (B0.ents m)) (B0.val B0.zero) false=B0.val (x.getD B0.zero):=Jg (h:=B0.val) (fun _=>rfl) rfl hx
theorem B0.lkNT {x:Option B0}(hx:some none=some x):lkA none (B0.val B0.zero) true = .tup [B0.val (x.getD B0.zero),.d (.bool x.isSome)]:=Cd (h:=B0.val) rfl hx
theorem B0.lkN {x:Option B0}(hx:some none=some x):lkA none (B0.val B0.zero) false=B0.val (x.getD B0.zero):=Dd (h:=B0.val) rfl hx
theorem B0.mput (k:Str)(x:B0)(m:List (Str×B0)):mput k (B0.row x) (B0.ents m)=B0.ents (mpt k x m):=(N6 B0.row k x m).symm
structure D0 where
 nodes:Int
 depth:Int
 badForm:Bool
 badName:Bool
 badNumber:Bool
def D0.zero:D0:=⟨0,0,false,false,false⟩
instance:Inhabited D0:=⟨D0.zero⟩
def D0.row (x:D0):Row:=[.int .i64 x.nodes,.int .i64 x.depth,.bool x.badForm,.bool x.badName,.bool x.badNumber]
def D0.rows (l:List D0):List Row:=l.map D0.row
theorem D0.rows_map (l:List D0):D0.rows l=l.map D0.row:=rfl
def D0.cells (x:D0):List A:=[.d (.int .i64 x.nodes),.d (.int .i64 x.depth),.d (.bool x.badForm),.d (.bool x.badName),.d (.bool x.badNumber)]
theorem D0.idx {l:List D0}{n:Int}{x:D0}(h:idx l n=some x):(D0.rows l)[n.toNat]?=some (D0.row x):=G7 D0.rows_map h
theorem D0.app (l m:List D0):D0.rows (l++m)=D0.rows l++D0.rows m:=H7 D0.rows_map l m
theorem D0.len (l:List D0):(D0.rows l).length=l.length:=M6 D0.rows_map l
theorem D0.lenA (l:List D0):A.d (.int .i64 ((D0.rows l).length:Nat))=A.d (.int .i64 (l.length:Nat)):=D6 D0.rows_map l
theorem D0.sz (l:List D0):∀ r∈D0.rows l,r.length=5:=O8 D0.rows_map (fun _=>rfl) l
theorem D0.part {l x:List D0}{a b:Int}(h:slc l a b=some x):a=(a.toNat:Int)∧b=(b.toNat:Int)∧a.toNat≤b.toNat∧b.toNat≤(D0.rows l).length∧D0.rows x=((D0.rows l).take b.toNat).drop a.toNat:=E6 D0.rows_map h
def D0.ents (m:List (Str×D0)):List (Str×Row):=J5 D0.row m
def D0.val (x:D0):A:=.agg (D0.cells x)
theorem D0.lkT {k:Str}{m:List (Str×D0)}{x:Option D0}(hx:some (mgt k m)=some x):lkA (Q3 k (D0.ents m)) (D0.val D0.zero) true = .tup [D0.val (x.getD D0.zero),.d (.bool x.isSome)]:=Ig (h:=D0.val) (fun _=>rfl) rfl hx
theorem D0.lk {k:Str}{m:List (Str×D0)}{x:Option D0}(hx:some (mgt k m)=some x):lkA (Q3 k (D0.ents m)) (D0.val D0.zero) false=D0.val (x.getD D0.zero):=Jg (h:=D0.val) (fun _=>rfl) rfl hx
theorem D0.lkNT {x:Option D0}(hx:some none=some x):lkA none (D0.val D0.zero) true = .tup [D0.val (x.getD D0.zero),.d (.bool x.isSome)]:=Cd (h:=D0.val) rfl hx
theorem D0.lkN {x:Option D0}(hx:some none=some x):lkA none (D0.val D0.zero) false=D0.val (x.getD D0.zero):=Dd (h:=D0.val) rfl hx
theorem D0.mput (k:Str)(x:D0)(m:List (Str×D0)):mput k (D0.row x) (D0.ents m)=D0.ents (mpt k x m):=(N6 D0.row k x m).symm
end Go.Proofs.YtmnhfbekncjnfaaDoor

set_option maxRecDepth 100000
set_option maxHeartbeats 4000000
set_option synthInstance.maxSize 20000
set_option linter.unusedVariables false
namespace Go.Proofs.YtmnhfbekncjnfaaDoor
open Go.Am
def U6 (c:Int):Option Bool:=
 some (bif (decide (c≥97)) then (decide (c≤122)) else false)
theorem Se {c res}(hh:U6 c=some res):S0 C 32 [.d (.int .u8 c)] [] (Ret [] (.d (.bool res))):=by
 unfold U6 at hh
 cases hh
 exact S0.intro hC Tryd.func32 rfl rfl rfl (t' rfl (sg' 7 rfl (G' 4 rfl (a1' rfl (pa' rfl (a0' rfl (an' (n' (re' (rt' rfl rfl rfl))))))))))
def Q5 (c:Int):Option Bool:=
 some (bif (decide (c≥48)) then (decide (c≤57)) else false)
theorem Lc {c res}(hh:Q5 c=some res):S0 C 35 [.d (.int .u8 c)] [] (Ret [] (.d (.bool res))):=by
 unfold Q5 at hh
 cases hh
 exact S0.intro hC Tryd.func35 rfl rfl rfl (t' rfl (sg' 7 rfl (G' 4 rfl (a1' rfl (pa' rfl (a0' rfl (an' (n' (re' (rt' rfl rfl rfl))))))))))
def K5 (s:Str)(i1:Int):Option Int:=
 (if (decide (i1 < ((s).length:Int)))=true then idx s i1 else some default)>>=fun x1=>
 (if (decide (i1 < ((s).length:Int)))=true then U6 (x1.toNat:Int) else some default)>>=fun x2=>
 (if ((decide (i1 < ((s).length:Int)))&&(!x2))=true then idx s i1 else some default)>>=fun x3=>
 (if ((decide (i1 < ((s).length:Int)))&&(!x2))=true then Q5 (x3.toNat:Int) else some default)>>=fun x4=>
 if (bif (decide (i1 < ((s).length:Int))) then (bif x2 then true else x4) else false)=true then
  K5 s (IntKind.i64.wrap (i1+1))
 else
  some i1
 partial_fixpoint
abbrev Km (s:Str)(i1:Int)(res:Int):Prop:=LM C 24 0 Tryd.f33 [1,0,4] [(0,.d (.str s)),(1,.d (.int .i64 i1))] [] (Ret [] (.d (.int .i64 res)))
theorem Jr (s:Str):(∀ i1 res,K5 s i1=some res→Km s i1 res):=by
 refine K5.partial_correctness s _ ?_
 ·intro g0 ih0 i1 res hh
  obtain ⟨x1,hx1,hh⟩:=bs' hh
  obtain ⟨x2,hx2,hh⟩:=bs' hh
  obtain ⟨x3,hx3,hh⟩:=bs' hh
  obtain ⟨x4,hx4,hh⟩:=bs' hh
  refine Z0.unroll (S' (sg' 16 rfl (G' 7 rfl (AG.x hC rfl rfl (fun hg=>⟨hg,hg,trivial⟩) (fun hw=>⟨H5 (Ba hw hx1),Pa (Ba hw hx1)⟩) (AG.c rfl rfl (fun hg=>⟨hg,trivial⟩) (fun hw=>Se (Ba hw hx2)) (a1' rfl (G' 2 rfl (AG.x hC rfl rfl (fun hg=>⟨hg,hg,trivial⟩) (fun hw=>⟨H5 (Ba hw hx3),Pa (Ba hw hx3)⟩) ?_))))))))
  refine AG.c rfl rfl (fun hg=>⟨hg,trivial⟩) (fun hw=>Lc (Ba hw hx4)) (pO' rfl (pa' rfl (an' (n' (ci' rfl hh (fun hh=>?_) (fun hh=>?_))))))
  ·exact sk' (bk' (T' rfl (lw' (ih0 _ _ hh) rfl rfl rfl)))
  cases hh
  exact ex' (t' rfl (re' (rt' rfl rfl rfl)))
theorem Ft {s i1 res}(hh:K5 s i1=some res):Km s i1 res:=(Jr s) _ _ hh
def Ld (s:Str)(i:Int):Option Int:=
 K5 s i
theorem Yo {s i res}(hh:Ld s i=some res):S0 C 33 [.d (.str s),.d (.int .i64 i)] [] (Ret [] (.d (.int .i64 res))):=by
 unfold Ld at hh
 exact S0.intro hC Tryd.func33 rfl rfl rfl (t' rfl (S' (bk' (fw' (Ft hh) rfl rfl rfl))))
def R5 (word:Str):Option Bool:=
 (if (!(word == []))=true then Kc word [32] else some default)>>=fun x1=>
 if (!(bif (!(word == [])) then (!x1) else false)||(decide (1+word.length≤maxLen)))=true then
  if (!(bif (!(word == [])) then (!x1) else false)||(decide (([32]++word).length+1≤maxLen)))=true then
   (if (bif (!(word == [])) then (!x1) else false)=true then Kc [32,116,121,112,101,32,115,101,99,114,101,116,32,112,117,98,108,105,99,32,114,97,110,100,111,109,32,118,97,114,32,104,97,116,99,104,32,102,117,110,99,32,114,101,116,117,114,110,32,98,101,103,105,110,32,101,110,100,32,98,111,111,108,32,105,110,116,32,97,114,114,97,121,32,111,102,32,114,101,99,111,114,100,32,116,114,117,101,32,102,97,108,115,101,32,99,97,108,108,32,114,101,108,101,97,115,101,32,111,117,116,112,117,116,32,119,97,105,116,32,105,102,32,101,108,115,101,32,119,104,105,108,101,32,108,105,109,105,116,32,102,111,114,32,116,111,32,115,101,116,116,108,101,32,109,105,110,32,109,97,120,32] (([32]++word)++[32]) else some default)>>=fun x2=>
   some (bif (bif (!(word == [])) then (!x1) else false) then x2 else false)
  else none
 else none
theorem Ui {word res}(hh:R5 word=some res):S0 C 34 [.d (.str word)] [] (Ret [] (.d (.bool res))):=by
 unfold R5 at hh
 obtain ⟨x1,hx1,hh⟩:=bs' hh
 obtain ⟨c5,hh⟩:=Wx hh
 obtain ⟨c6,hh⟩:=Wx hh
 obtain ⟨x2,hx2,hh⟩:=bs' hh
 cases hh
 refine S0.intro hC Tryd.func34 rfl rfl rfl (t' rfl (sg' 14 rfl (G' 4 rfl (AG.c rfl rfl (fun hg=>⟨hg,trivial⟩) (fun hw=>Tn (Ba hw hx1)) (a1' rfl (pa' rfl (G' 2 rfl (ag' rfl (fun hg=>⟨⟨hg,trivial⟩,(c5 hg)⟩) (ag' rfl (fun hg=>⟨⟨hg,trivial⟩,(c6 hg)⟩) (AG.c rfl rfl (fun hg=>⟨hg,trivial⟩) (fun hw=>Tn (Ba hw hx2)) (pa' rfl (a0' rfl (an' ?_)))))))))))))
 exact n' (re' (rt' rfl rfl rfl))
def M3 (s:Str)(n:Int)(v7:Int):Option Int:=
 if (decide (v7 < ((s).length:Int)))=true then
  idx s v7>>=fun x1=>
  Q5 (x1.toNat:Int)>>=fun x2=>
  if (!x2)=true then
   some 6
  else
   idx s v7>>=fun x3=>
   M3 s (min (IntKind.i64.wrap ((IntKind.i64.wrap (10 * n))+(IntKind.i64.wrap (IntKind.u8.wrap ((x3.toNat:Int) - 48))))) 1048577) (IntKind.i64.wrap (v7+1))
 else
  idx s 0>>=fun x4=>
  if (bif ((x4.toNat:Int) == 48) then (decide (((s).length:Int) > 1)) else false)=true then
   some 6
  else
   if (decide (n > 1048576))=true then
    some 3
   else
    some 0
 partial_fixpoint
abbrev Vi (s:Str)(n:Int)(v7:Int)(res:Int):Prop:=LM C 37 0 Tryd.f36 [1,1,0,1,4] [(0,.d (.str s)),(3,.d (.int .i64 n)),(6,.d (.int .i64 ((s).length:Int))),(7,.d (.int .i64 v7))] [] (Ret [] (.d (.int .i64 res)))
theorem Yn (s:Str):(∀ n v7 res,M3 s n v7=some res→Vi s n v7 res):=by
 refine M3.partial_correctness s _ ?_
 ·intro g0 ih0 n v7 res hh
  refine Z0.unroll (t' rfl (S' (ci' rfl hh (fun hh=>?_) (fun hh=>?_))))
  ·obtain ⟨x1,hx1,hh⟩:=bs' hh
   obtain ⟨x2,hx2,hh⟩:=bs' hh
   refine sk' (S' (bk' (t' rfl (S' (p' 2 rfl (x' rfl (H5 hx1) (Pa hx1) (c' (Lc hx2) rfl rfl (e' rfl (ci' rfl hh (fun hh=>?_) (fun hh=>?_))))))))))
   ·cases hh
    exact t' rfl (re' (rt' rfl rfl rfl))
   obtain ⟨x3,hx3,hh⟩:=bs' hh
   exact sk' (P' 4 rfl (x' rfl (H5 hx3) (Pa hx3) (e' rfl (T' rfl (lw' (ih0 _ _ _ hh) rfl rfl rfl)))))
  obtain ⟨x4,hx4,hh⟩:=bs' hh
  refine ex' (S' (bk' (sg' 9 rfl (a0' rfl (AG.x hC rfl rfl (fun _=>trivial) (fun hw=>⟨H5 hx4,Pa hx4⟩) (G' 3 rfl (a1' rfl (a1' rfl (pa' rfl (a0' rfl (an' (n' (ci' rfl hh (fun hh=>?_) (fun hh=>?_))))))))))))))
  ·cases hh
   exact t' rfl (re' (rt' rfl rfl rfl))
  refine t' rfl (ci' rfl hh (fun hh=>?_) (fun hh=>?_))
  ·cases hh
   exact t' rfl (re' (rt' rfl rfl rfl))
  cases hh
  exact sk' (t' rfl (re' (rt' rfl rfl rfl)))
theorem Zo {s n v7 res}(hh:M3 s n v7=some res):Vi s n v7 res:=(Yn s) _ _ _ hh
def Rb (s:Str):Option Int:=
 M3 s 0 0
theorem Gt {s res}(hh:Rb s=some res):S0 C 36 [.d (.str s)] [] (Ret [] (.d (.int .i64 res))):=by
 unfold Rb at hh
 exact S0.intro hC Tryd.func36 rfl rfl rfl (t' rfl (t' rfl (S' (t' rfl (bk' (fw' (Zo hh) rfl rfl rfl))))))
def U7 (s:Str):Option Str:=
 idx s 0>>=fun x3=>
 Sh [59,58,44,46,61,43,45,42,47,37,60,62,33,63,40,41,91,93,123,125] (x3.toNat:Int)>>=fun x4=>
 if (decide (x4≥0))=true then
  slc s 0 1>>=fun x5=>
  some x5
 else
  some []
theorem Yj {s res}(hh:U7 s=some res):JM C 24 0 Tryd.f37 [1,1] [(0,.d (.str s))] [] (Ret [] (.d (.str res))):=by
 unfold U7 at hh
 obtain ⟨x3,hx3,hh⟩:=bs' hh
 obtain ⟨x4,hx4,hh⟩:=bs' hh
 refine S' (p' 1 rfl (x' rfl (H5 hx3) (Pa hx3) (c' (Lu hx4) rfl rfl (e' rfl (ci' rfl hh (fun hh=>?_) (fun hh=>?_))))))
 ·obtain ⟨x5,hx5,hh⟩:=bs' hh
  cases hh
  exact p' 1 rfl (F0.lx hC rfl hx5 (e' rfl (re' (rt' rfl rfl rfl))))
 cases hh
 exact sk' (t' rfl (re' (rt' rfl rfl rfl)))
def D4 (s:Str)(v8:Bool):Option Str:=
 if v8=true then
  slc s 0 2>>=fun x2=>
  some x2
 else
  U7 s
theorem P6 {s v8 res}(hh:D4 s v8=some res):JM C 24 0 Tryd.f37 [1,0,1,2,1,4,1] [(0,.d (.str s)),(8,.d (.bool v8))] [] (Ret [] (.d (.str res))):=by
 unfold D4 at hh
 refine ci' rfl hh (fun hh=>?_) (fun hh=>?_)
 ·obtain ⟨x2,hx2,hh⟩:=bs' hh
  cases hh
  exact p' 1 rfl (F0.lx hC rfl hx2 (e' rfl (re' (rt' rfl rfl rfl))))
 exact sk' (ew' (Yj hh) rfl rfl rfl)
def L9 (s:Str):Option Str:=
 if (decide (((s).length:Int)≥2))=true then
  slc s 0 2>>=fun x1=>
  if (x1 == [46,46])=true then
   D4 s (x1 == [46,46])
  else
   if (x1 == [61,61])=true then
    D4 s (x1 == [61,61])
   else
    if (x1 == [33,61])=true then
     D4 s (x1 == [33,61])
    else
     if (x1 == [60,61])=true then
      D4 s (x1 == [60,61])
     else
      if (x1 == [62,61])=true then
       D4 s (x1 == [62,61])
      else
       if (x1 == [38,38])=true then
        D4 s (x1 == [38,38])
       else
        D4 s (x1 == [124,124])
 else
  U7 s
theorem Hw {s res}(hh:L9 s=some res):S0 C 37 [.d (.str s)] [] (Ret [] (.d (.str res))):=by
 unfold L9 at hh
 refine S0.intro hC Tryd.func37 rfl rfl rfl (t' rfl (S' (t' rfl (ci' rfl hh (fun hh=>?_) (fun hh=>?_)))))
 ·obtain ⟨x1,hx1,hh⟩:=bs' hh
  refine p' 1 rfl (F0.lx hC rfl hx1 (n' (bk' (S' (t' rfl (ci' rfl hh (fun hh=>?_) (fun hh=>?_)))))))
  ·exact sk' (ew' (P6 hh) rfl rfl rfl)
  refine t' rfl (ci' rfl hh (fun hh=>?_) (fun hh=>?_))
  ·exact sk' (ew' (P6 hh) rfl rfl rfl)
  refine t' rfl (ci' rfl hh (fun hh=>?_) (fun hh=>?_))
  ·exact sk' (ew' (P6 hh) rfl rfl rfl)
  refine t' rfl (ci' rfl hh (fun hh=>?_) (fun hh=>?_))
  ·exact sk' (ew' (P6 hh) rfl rfl rfl)
  refine t' rfl (ci' rfl hh (fun hh=>?_) (fun hh=>?_))
  ·exact sk' (ew' (P6 hh) rfl rfl rfl)
  refine t' rfl (ci' rfl hh (fun hh=>?_) (fun hh=>?_))
  ·exact sk' (ew' (P6 hh) rfl rfl rfl)
  exact T' rfl (ew' (P6 hh) rfl rfl rfl)
 exact sk' (ew' (Yj hh) rfl rfl rfl)
def Ua (s:Str)(i:Int):Option (E0×Int):=
 idx s i>>=fun x1=>
 U6 (x1.toNat:Int)>>=fun x2=>
 if x2=true then
  Ld s i>>=fun x3=>
  slc s i x3>>=fun x4=>
  R5 x4>>=fun x5=>
  if x5=true then
   some ((E0.mk 2 x4 i),0)
  else
   if (decide (((x4).length:Int) > 12))=true then
    some ((E0.mk 0 x4 i),7)
   else
    some ((E0.mk 0 x4 i),0)
 else
  Q5 (x1.toNat:Int)>>=fun x6=>
  if x6=true then
   Ld s i>>=fun x7=>
   slc s i x7>>=fun x8=>
   Rb x8>>=fun x9=>
   some ((E0.mk 1 x8 i),x9)
  else
   slc s i ((s).length:Int)>>=fun x10=>
   L9 x10>>=fun x11=>
   if (x11 == [])=true then
    some ((E0.mk 3 x11 i),6)
   else
    some ((E0.mk 3 x11 i),0)
theorem Iw {s i res}(hh:Ua s i=some res):S0 C 20 [.d (.str s),.d (.int .i64 i)] [] (Ret [] (.tup [.agg (E0.cells res.1),.d (.int .i64 res.2)])):=by
 unfold Ua at hh
 obtain ⟨x1,hx1,hh⟩:=bs' hh
 obtain ⟨x2,hx2,hh⟩:=bs' hh
 refine S0.intro hC Tryd.func20 rfl rfl rfl (s' rfl rfl (F0.n hC rfl (e' rfl (p' 2 rfl (F0.n hC rfl (F0.s hC rfl (n' (S' (p' 2 rfl (x' rfl (H5 hx1) (Pa hx1) (e' rfl (bk' (p' 1 rfl ?_)))))))))))))
 refine c' (Se hx2) rfl rfl (e' rfl (ci' rfl hh (fun hh=>?_) (fun hh=>?_)))
 ·obtain ⟨x3,hx3,hh⟩:=bs' hh
  obtain ⟨x4,hx4,hh⟩:=bs' hh
  obtain ⟨x5,hx5,hh⟩:=bs' hh
  refine p' 4 rfl (c' (Yo hx3) rfl rfl (F0.lx hC rfl hx4 (q' rfl (F0.s hC rfl (n' (p' 2 rfl (c' (Ui hx5) rfl rfl (n' (ci' rfl hh (fun hh=>?_) (fun hh=>?_))))))))))
  ·cases hh
   exact P' 1 rfl (F0.s hC rfl (n' (p' 1 rfl (F0.s hC rfl (e' rfl (re' (rt' rfl rfl rfl)))))))
  refine t' rfl (ci' rfl hh (fun hh=>?_) (fun hh=>?_))
  ·cases hh
   exact p' 1 rfl (F0.s hC rfl (e' rfl (re' (rt' rfl rfl rfl))))
  cases hh
  exact sk' (p' 1 rfl (F0.s hC rfl (e' rfl (re' (rt' rfl rfl rfl)))))
 obtain ⟨x6,hx6,hh⟩:=bs' hh
 refine p' 1 rfl (c' (Lc hx6) rfl rfl (e' rfl (ci' rfl hh (fun hh=>?_) (fun hh=>?_))))
 ·obtain ⟨x7,hx7,hh⟩:=bs' hh
  obtain ⟨x8,hx8,hh⟩:=bs' hh
  obtain ⟨x9,hx9,hh⟩:=bs' hh
  cases hh
  refine p' 4 rfl (c' (Yo hx7) rfl rfl (F0.lx hC rfl hx8 (q' rfl (F0.s hC rfl (q' rfl (F0.s hC rfl (n' (S' (AEx.draw hC 4 rfl rfl rfl (O' 3 rfl (Qc' (Gt hx9) rfl rfl (Qn' (F0.s hC rfl ?_)))))))))))))
  exact e' rfl (re' (rt' rfl rfl rfl))
 obtain ⟨x10,hx10,hh⟩:=bs' hh
 obtain ⟨x11,hx11,hh⟩:=bs' hh
 refine p' 2 rfl (F0.lx hC rfl hx10 (c' (Hw hx11) rfl rfl (q' rfl (F0.s hC rfl (q' rfl (F0.s hC rfl (n' (t' rfl (ci' rfl hh (fun hh=>?_) (fun hh=>?_))))))))))
 ·cases hh
  exact p' 1 rfl (F0.s hC rfl (e' rfl (re' (rt' rfl rfl rfl))))
 cases hh
 exact sk' (p' 1 rfl (F0.s hC rfl (e' rfl (re' (rt' rfl rfl rfl)))))
mutual
def Y2 (s:Str)(out:List E0)(i:Int):Option (List E0×Int×Int):=
 if (decide (i < ((s).length:Int)))=true then
  idx s i>>=fun x1=>
  if ((x1.toNat:Int) == 32)=true then
   I6 s out i x1 ((x1.toNat:Int) == 32)
  else
   if ((x1.toNat:Int) == 9)=true then
    I6 s out i x1 ((x1.toNat:Int) == 9)
   else
    I6 s out i x1 ((x1.toNat:Int) == 10)
 else
  some (out,0,0)
 partial_fixpoint
def I6 (s:Str)(out1:List E0)(i1:Int)(x1:UInt8)(v19:Bool):Option (List E0×Int×Int):=
 if v19=true then
  Y2 s out1 (IntKind.i64.wrap (i1+1))
 else
  if ((x1.toNat:Int) == 35)=true then
   T4 s out1 i1
  else
   Ua s i1>>=fun x2=>
   if (x2.2 != 0)=true then
    some ([],i1,x2.2)
   else
    if (decide ((out1.length+1) * 33≤140737488355328))=true then
     Y2 s (out1++[x2.1]) (IntKind.i64.wrap (i1+((x2.1.Text).length:Int)))
    else none
 partial_fixpoint
def T4 (s:Str)(out2:List E0)(i2:Int):Option (List E0×Int×Int):=
 (if (decide (i2 < ((s).length:Int)))=true then idx s i2 else some default)>>=fun x3=>
 if (bif (decide (i2 < ((s).length:Int))) then ((x3.toNat:Int) != 10) else false)=true then
  T4 s out2 (IntKind.i64.wrap (i2+1))
 else
  Y2 s out2 i2
 partial_fixpoint
end
abbrev Lm (s:Str)(out:List E0)(i:Int)(res:List E0×Int×Int):Prop:=LM C 59 0 Tryd.f12 [1,1,1,0,1,4] [(0,.d (.str s)),(5,.osl 0 (E0.rows out)),(6,.d (.int .i64 i))] [.tok 55 3] (Ret [] (.tup [.d (.sl (E0.rows res.1)),.d (.int .i64 res.2.1),.d (.int .i64 res.2.2)]))
abbrev Mm (s:Str)(out1:List E0)(i1:Int)(x1:UInt8)(v19:Bool)(res:List E0×Int×Int):Prop:=JM C 59 0 Tryd.f12 [1,1,1,0,1,4,5,1,4,0,1,4,1] [(0,.d (.str s)),(5,.osl 0 (E0.rows out1)),(6,.d (.int .i64 i1)),(18,.d (.int .u8 (x1.toNat:Int))),(19,.d (.bool v19))] [.tok 55 3] (Ret [] (.tup [.d (.sl (E0.rows res.1)),.d (.int .i64 res.2.1),.d (.int .i64 res.2.2)]))
abbrev Nm (s:Str)(out2:List E0)(i2:Int)(res:List E0×Int×Int):Prop:=LM C 59 0 Tryd.f12 [1,1,1,0,1,4,5,1,4,0,1,4,1,3,1,2,0,4] [(0,.d (.str s)),(5,.osl 0 (E0.rows out2)),(6,.d (.int .i64 i2))] [.tok 55 3] (Ret [] (.tup [.d (.sl (E0.rows res.1)),.d (.int .i64 res.2.1),.d (.int .i64 res.2.2)]))
theorem Mf (s:Str):(∀ out i res,Y2 s out i=some res→Lm s out i res)∧(∀ out1 i1 x1 v19 res,I6 s out1 i1 x1 v19=some res→Mm s out1 i1 x1 v19 res)∧(∀ out2 i2 res,T4 s out2 i2=some res→Nm s out2 i2 res):=by
 refine Y2.mutual_partial_correctness s _ _ _ ?_ ?_ ?_
 ·intro g1 ih1 out i res hh
  refine Z0.unroll (S' (t' rfl (ci' rfl hh (fun hh=>?_) (fun hh=>?_))))
  ·obtain ⟨x1,hx1,hh⟩:=bs' hh
   refine sk' (bk' (S' (p' 2 rfl (x' rfl (H5 hx1) (Pa hx1) (n' (bk' (S' (t' rfl (ci' rfl hh (fun hh=>?_) (fun hh=>?_))))))))))
   ·exact sk' (ew' (ih1 _ _ _ _ _ hh) rfl rfl rfl)
   refine t' rfl (ci' rfl hh (fun hh=>?_) (fun hh=>?_))
   ·exact sk' (ew' (ih1 _ _ _ _ _ hh) rfl rfl rfl)
   exact T' rfl (ew' (ih1 _ _ _ _ _ hh) rfl rfl rfl)
  refine ex' (t' rfl (re' ?_))
  obtain rfl:=oi' hh
  exact ⟨_,.tup [.d (.sl (E0.rows out)),.d (.int .i64 0),.d (.int .i64 0)],[],rfl,(.tupL ⟨.osl,.rfl,.rfl,trivial⟩),trivial,rfl,rfl,rfl,rfl⟩
 ·intro g0 g2 ih0 ih2 out1 i1 x1 v19 res hh
  refine ci' rfl hh (fun hh=>?_) (fun hh=>?_)
  ·exact t' rfl (ex' (lw' (ih0 _ _ _ hh) rfl rfl rfl))
  refine t' rfl (ci' rfl hh (fun hh=>?_) (fun hh=>?_))
  ·exact S' (bk' (fw' (ih2 _ _ _ hh) rfl rfl rfl))
  obtain ⟨x2,hx2,hh⟩:=bs' hh
  refine sk' (p' 2 rfl (c' (Iw hx2) rfl rfl (o' 3 rfl (F0.n hC rfl (F0.s hC rfl (e' rfl (S' (t' rfl (ci' rfl hh (fun hh=>?_) (fun hh=>?_))))))))))
  ·refine t' rfl (re' ?_)
   obtain rfl:=oi' hh
   exact ⟨_,.tup [.d (.sl (E0.rows [])),.d (.int .i64 i1),.d (.int .i64 x2.2)],[],rfl,(.tupL ⟨.full,.rfl,.rfl,trivial⟩),trivial,rfl,rfl,rfl,rfl⟩
  obtain ⟨c8,hh⟩:=Ac hh
  exact sk' (p' 2 rfl (F0.be hC rfl (E0.rows_map [x2.1]).symm (F0.ap hC rfl (rs:=E0.rows (out1++[x2.1])) (E0.app out1 [x2.1]) (E0.sz out1) (E0.sz [x2.1]) (S17 (E0.len out1) (E0.len [x2.1]) c8) (e' rfl (T' rfl (lw' (ih0 _ _ _ hh) rfl rfl rfl))))))
 ·intro g0 g2 ih0 ih2 out2 i2 res hh
  obtain ⟨x3,hx3,hh⟩:=bs' hh
  refine Z0.unroll (S' (sg' 10 rfl (G' 7 rfl (AG.x hC rfl rfl (fun hg=>⟨hg,hg,trivial⟩) (fun hw=>⟨H5 (Ba hw hx3),Pa (Ba hw hx3)⟩) (a1' rfl (pa' rfl (an' (n' (ci' rfl hh (fun hh=>?_) (fun hh=>?_))))))))))
  ·exact sk' (bk' (T' rfl (lw' (ih2 _ _ _ hh) rfl rfl rfl)))
  exact ex' (ex' (lw' (ih0 _ _ _ hh) rfl rfl rfl))
theorem Ht {s out i res}(hh:Y2 s out i=some res):Lm s out i res:=(Mf s).1 _ _ _ hh
theorem Y16 {s out1 i1 x1 v19 res}(hh:I6 s out1 i1 x1 v19=some res):Mm s out1 i1 x1 v19 res:=(Mf s).2.1 _ _ _ _ _ hh
theorem Z16 {s out2 i2 res}(hh:T4 s out2 i2=some res):Nm s out2 i2 res:=(Mf s).2.2 _ _ _ hh
def Md (s:Str):Option (List E0×Int×Int):=
 if (decide (((s).length:Int) > 8192))=true then
  some ([],0,5)
 else
  Y2 s [] 0
theorem Qy {s res}(hh:Md s=some res):S0 C 12 [.d (.str s)] [] (Ret [] (.tup [.d (.sl (E0.rows res.1)),.d (.int .i64 res.2.1),.d (.int .i64 res.2.2)])):=by
 unfold Md at hh
 refine S0.intro hC Tryd.func12 rfl rfl rfl (t' rfl (S' (t' rfl (ci' rfl hh (fun hh=>?_) (fun hh=>?_)))))
 ·refine t' rfl (re' ?_)
  obtain rfl:=oi' hh
  exact ⟨_,.tup [.d (.sl (E0.rows [])),.d (.int .i64 0),.d (.int .i64 5)],[],rfl,(.tupL ⟨.full,.rfl,.rfl,trivial⟩),trivial,rfl,rfl,rfl,rfl⟩
 exact sk' (p' 1 rfl (F0.tokE 5 55 3 rfl (n' (S' (t' rfl (bk' (fw' (Ht hh) rfl rfl rfl)))))))
def Q6 (text:Str)(parserParser:B0):Option Bool:=
 if (decide (parserParser.next≥((parserParser.tokens).length:Int)))=true then
  some false
 else
  idx parserParser.tokens parserParser.next>>=fun x1=>
  some (bif (x1.Text == text) then (bif (x1.Kind == 2) then true else (x1.Kind == 3)) else false)
theorem Zn {text parserParser res}(hh:Q6 text parserParser=some res):S0 C 24 [.ref 0 0,.d (.str text)] [.row (B0.cells parserParser) 45] (Ret [.row (B0.cells parserParser) 45] (.d (.bool res))):=by
 unfold Q6 at hh
 refine S0.intro hC Tryd.func24 rfl rfl rfl (t' rfl (S' (S' (AEx.draw hC 10 rfl rfl rfl (O' 8 rfl (AQ.qe hC rfl trivial (E0.lenA _) (E' rfl (n' (ci' rfl hh (fun hh=>?_) (fun hh=>?_))))))))))
 ·cases hh
  exact t' rfl (re' (rt' rfl rfl rfl))
 obtain ⟨x1,hx1,hh⟩:=bs' hh
 cases hh
 refine sk' (S' (AEx.drawL hC 11 [] [(10,1)] [[.row (B0.cells parserParser) 45,.row [.d (.int .i64 0),.d (.str []),.d (.int .i64 0)] 55]] rfl rfl rfl rfl rfl rfl rfl rfl rfl rfl (AS.q hC rfl rfl rfl rfl (AS.q hC rfl rfl rfl rfl (AS.q hC rfl rfl rfl rfl (AS.q hC rfl rfl rfl rfl (AS.q hC rfl rfl rfl rfl (AS.q hC rfl rfl rfl rfl (AS.q hC rfl rfl rfl rfl (AS.q hC rfl rfl rfl rfl ?_))))))))))
 refine AS.ix hC rfl (H5 hx1) (E0.idx hx1) rfl rfl rfl (AS.q hC rfl rfl rfl rfl (AS.n hC rfl rfl rfl rfl (AS.nil (F0.s hC rfl (n' (sg' 15 rfl (G' 6 rfl (a1' rfl (a1' rfl (a1' rfl (a0' rfl (a1' rfl (a1' rfl ?_)))))))))))))
 exact pO' rfl (pa' rfl (a0' rfl (an' (n' (re' (rt' rfl rfl rfl))))))
def L0 (text:Str)(parserParser:B0):Option (Bool×B0):=
 Q6 text parserParser>>=fun x1=>
 if (!x1)=true then
  some (false,parserParser)
 else
  some (true,(B0.mk parserParser.tokens (IntKind.i64.wrap (parserParser.next+1)) parserParser.endV))
theorem W0 {text parserParser res}(hh:L0 text parserParser=some res):S0 C 16 [.ref 0 0,.d (.str text)] [.row (B0.cells parserParser) 45] (Ret [.row (B0.cells res.2) 45] (.d (.bool res.1))):=by
 unfold L0 at hh
 obtain ⟨x1,hx1,hh⟩:=bs' hh
 refine S0.intro hC Tryd.func16 rfl rfl rfl (t' rfl (S' (p' 2 rfl (g' [0] (Zn hx1) rfl rfl rfl rfl rfl rfl (e' rfl (ci' rfl hh (fun hh=>?_) (fun hh=>?_)))))))
 ·cases hh
  exact t' rfl (re' (rt' rfl rfl rfl))
 cases hh
 exact sk' (p' 7 rfl (F0.s hC rfl (n' (t' rfl (re' (rt' rfl rfl rfl))))))
def Q4 (parserParser:B0):Option Bool:=
 (if (decide (parserParser.next < ((parserParser.tokens).length:Int)))=true then idx parserParser.tokens parserParser.next else some default)>>=fun x1=>
 some (bif (decide (parserParser.next < ((parserParser.tokens).length:Int))) then (x1.Kind == 0) else false)
theorem Sk {parserParser res}(hh:Q4 parserParser=some res):S0 C 59 [.ref 0 0] [.row (B0.cells parserParser) 45] (Ret [.row (B0.cells parserParser) 45] (.d (.bool res))):=by
 unfold Q4 at hh
 obtain ⟨x1,hx1,hh⟩:=bs' hh
 cases hh
 refine S0.intro hC Tryd.func59 rfl rfl rfl (t' rfl (S' (AEx.drawG hC 25 rfl rfl rfl (G' 8 rfl (AG.qe hC rfl (fun hg=>⟨trivial,trivial⟩) (E0.lenA _) (G' 3 rfl (a1' rfl (a1' rfl (a1' rfl (a0' rfl (a1' rfl (a1' rfl (a1' rfl ?_)))))))))))))
 exact AG.i hC rfl rfl (fun hg=>⟨hg,hg,trivial⟩) (fun hw=>⟨H5 (Ba hw hx1),E0.idx (Ba hw hx1),rfl⟩) (a1' rfl (a1' rfl (a1' rfl (pa' rfl (a0' rfl (an' (n' (re' (rt' rfl rfl rfl)))))))))
def T3 (parserParser:B0):Option (Pn Unit):=
 if (decide (parserParser.next < ((parserParser.tokens).length:Int)))=true then
  idx parserParser.tokens parserParser.next>>=fun x1=>
  some (.pn x1.At)
 else
  some (.pn parserParser.endV)
theorem I5 {parserParser res}(hh:T3 parserParser=some res):T2 C 14 [.ref 0 0] [.row (B0.cells parserParser) 45] (C7 res (fun rr=>[.row (B0.cells parserParser) 45]) (fun rr=>.tup [])) (O6 res V4 [.row (B0.cells parserParser) 45]):=by
 unfold T3 at hh
 refine T2.intro hC Tryd.func14 rfl rfl rfl (t' rfl (S' (S' (AEx.draw hC 10 rfl rfl rfl (O' 8 rfl (AQ.qe hC rfl trivial (E0.lenA _) (E' rfl (n' (ci' rfl hh (fun hh=>?_) (fun hh=>?_))))))))))
 ·obtain ⟨x1,hx1,hh⟩:=bs' hh
  cases hh
  exact AEx.draw hC 12 rfl rfl rfl (O' 8 rfl (AQ.i hC rfl (H5 hx1) (E0.idx hx1) rfl (E' rfl (n' (P' 2 rfl (pn' hC rfl ((fun hi=>pe' rfl rfl hi))))))))
 cases hh
 exact sk' (P' 2 rfl (pn' hC rfl ((fun hi=>pe' rfl rfl hi))))
def F4 (parserParser:B0):Option (Pn (Str×B0)):=
 idx parserParser.tokens (IntKind.i64.wrap ((IntKind.i64.wrap (parserParser.next+1)) - 1))>>=fun x3=>
 some (.ok (x3.Text,(B0.mk parserParser.tokens (IntKind.i64.wrap (parserParser.next+1)) parserParser.endV)))
theorem Nd {parserParser res}(hh:F4 parserParser=some res):JMp C 51 1 Tryd.f65 [1,1] [(0,.ref 0 0)] [.row (B0.cells parserParser) 45] (C7 res (fun rr=>[.row (B0.cells rr.2) 45]) (fun rr=>.d (.str rr.1))) (O6 res V4 [.row (B0.cells parserParser) 45]):=by
 unfold F4 at hh
 obtain ⟨x3,hx3,hh⟩:=bs' hh
 cases hh
 exact p' 7 rfl (F0.s hC rfl (n' (S' (AEx.draw hC 13 rfl rfl rfl (O' 9 rfl (AQ.i hC rfl (H5 hx3) (E0.idx hx3) rfl (E' rfl (n' (re' (rt' rfl rfl rfl))))))))))
def L4 (k:Int)(parserParser:B0):Option (Pn (Str×B0)):=
 (if (!(decide (parserParser.next≥((parserParser.tokens).length:Int))))=true then idx parserParser.tokens parserParser.next else some default)>>=fun x1=>
 if (bif (decide (parserParser.next≥((parserParser.tokens).length:Int))) then true else (x1.Kind != k))=true then
  T3 parserParser>>=fun x2=>match x2 with
  | .pn nn=>
  some (.pn nn)
  | .ok x2=>
  F4 parserParser
 else
  F4 parserParser
theorem P8 {k parserParser res}(hh:L4 k parserParser=some res):T2 C 65 [.ref 0 0,.d (.int .i64 k)] [.row (B0.cells parserParser) 45] (C7 res (fun rr=>[.row (B0.cells rr.2) 45]) (fun rr=>.d (.str rr.1))) (O6 res V4 [.row (B0.cells parserParser) 45]):=by
 unfold L4 at hh
 obtain ⟨x1,hx1,hh⟩:=bs' hh
 refine T2.intro hC Tryd.func65 rfl rfl rfl (t' rfl (S' (S' (AEx.drawG hC 25 rfl rfl rfl (G' 8 rfl (AG.qe hC rfl (fun hg=>⟨trivial,trivial⟩) (E0.lenA _) (G' 3 rfl (a1' rfl (a1' rfl (a1' rfl (a0' rfl (a1' rfl (a1' rfl ?_)))))))))))))
 refine a1' rfl (AG.i hC rfl rfl (fun hg=>⟨hg,hg,trivial⟩) (fun hw=>⟨H5 (Ba hw hx1),E0.idx (Ba hw hx1),rfl⟩) (a1' rfl (a1' rfl (a0' rfl (a2' rfl (po' rfl (an' (n' (ci' rfl hh (fun hh=>?_) (fun hh=>?_))))))))))
 ·refine P' 1 rfl ?_
  rcases bp' hh with ⟨nn,hx2,⟨⟩⟩ | ⟨x2,hx2,hh⟩
  ·exact gn' [0] (I5 hx2) rfl rfl rfl rfl rfl (fun hi=>pe' rfl rfl hi)
  exact g' [0] ((I5 hx2).ok) rfl rfl rfl rfl rfl rfl (n' (ew' (Nd hh) rfl rfl rfl))
 exact sk' (ew' (Nd hh) rfl rfl rfl)
def M4 (parserParser:B0):Option (Pn (Str×B0)):=
 L4 0 parserParser>>=fun x1=>match x1 with
 | .pn nn=>
 some (.pn nn)
 | .ok x1=>
 some (.ok (x1.1,x1.2))
theorem X1 {parserParser res}(hh:M4 parserParser=some res):T2 C 63 [.ref 0 0] [.row (B0.cells parserParser) 45] (C7 res (fun rr=>[.row (B0.cells rr.2) 45]) (fun rr=>.d (.str rr.1))) (O6 res V4 [.row (B0.cells parserParser) 45]):=by
 unfold M4 at hh
 refine T2.intro hC Tryd.func63 rfl rfl rfl (t' rfl (p' 1 rfl ?_))
 rcases bp' hh with ⟨nn,hx1,⟨⟩⟩ | ⟨x1,hx1,hh⟩
 ·exact gn' [0] (P8 hx1) rfl rfl rfl rfl rfl (fun hi=>pe' rfl rfl hi)
 cases hh
 exact g' [0] ((P8 hx1).ok) rfl rfl rfl rfl rfl rfl (e' rfl (re' (rt' rfl rfl rfl)))
def X2 (text:Str)(parserParser:B0):Option (Pn B0):=
 L0 text parserParser>>=fun x1=>
 if (!x1.1)=true then
  T3 x1.2>>=fun x2=>match x2 with
  | .pn nn=>
  some (.pn nn)
  | .ok x2=>
  some (.ok x1.2)
 else
  some (.ok x1.2)
theorem J2 {text parserParser res}(hh:X2 text parserParser=some res):T2 C 17 [.ref 0 0,.d (.str text)] [.row (B0.cells parserParser) 45] (C7 res (fun rr=>[.row (B0.cells rr) 45]) (fun rr=>.tup [])) (O6 res V4 [.dead]):=by
 unfold X2 at hh
 obtain ⟨x1,hx1,hh⟩:=bs' hh
 refine T2.intro hC Tryd.func17 rfl rfl rfl (p' 2 rfl (g' [0] (W0 hx1) rfl rfl rfl rfl rfl rfl (e' rfl (ci' rfl hh (fun hh=>?_) (fun hh=>?_)))))
 ·refine P' 1 rfl ?_
  rcases bp' hh with ⟨nn,hx2,⟨⟩⟩ | ⟨x2,hx2,hh⟩
  ·exact gn' [0] (I5 hx2) rfl rfl rfl rfl rfl (fun hi=>peW ⟨trivial,trivial⟩ rfl hi)
  cases hh
  exact g' [0] ((I5 hx2).ok) rfl rfl rfl rfl rfl rfl (n' (rn' rfl rfl rfl))
 cases hh
 exact sk' (rn' rfl rfl rfl)
def R4 (parserParser:B0):Option (Pn (Int×B0)):=
 L4 1 parserParser>>=fun x1=>match x1 with
 | .pn nn=>
 some (.pn nn)
 | .ok x1=>
 Jm x1.1>>=fun x2=>
 some (.ok (x2,x1.2))
theorem Ie {parserParser res}(hh:R4 parserParser=some res):T2 C 62 [.ref 0 0] [.row (B0.cells parserParser) 45] (C7 res (fun rr=>[.row (B0.cells rr.2) 45]) (fun rr=>.d (.int .i64 rr.1))) (O6 res V4 [.row (B0.cells parserParser) 45]):=by
 unfold R4 at hh
 refine T2.intro hC Tryd.func62 rfl rfl rfl (t' rfl (p' 1 rfl ?_))
 rcases bp' hh with ⟨nn,hx1,⟨⟩⟩ | ⟨x1,hx1,hh⟩
 ·exact gn' [0] (P8 hx1) rfl rfl rfl rfl rfl (fun hi=>pe' rfl rfl hi)
 obtain ⟨x2,hx2,hh⟩:=bs' hh
 cases hh
 exact g' [0] ((P8 hx1).ok) rfl rfl rfl rfl rfl rfl (c' (O14 hx2) rfl rfl (e' rfl (t' rfl (re' (rt' rfl rfl rfl)))))
def R3 (parserParser:B0):Option (Int×Bool×B0):=
 L0 [42] parserParser>>=fun x1=>
 if x1.1=true then
  some (10,true,x1.2)
 else
  L0 [47] x1.2>>=fun x2=>
  if x2.1=true then
   some (11,true,x2.2)
  else
   L0 [37] x2.2>>=fun x3=>
   some (12,x3.1,x3.2)
theorem Oi {parserParser res}(hh:R3 parserParser=some res):S0 C 53 [.ref 0 0] [.row [.ref 1 0] 35,.row (B0.cells parserParser) 45] (Ret [.row [.ref 1 0] 35,.row (B0.cells res.2.2) 45] (.tup [.d (.int .i64 res.1),.d (.bool res.2.1)])):=by
 unfold R3 at hh
 obtain ⟨x1,hx1,hh⟩:=bs' hh
 refine S0.intro hC Tryd.func53 rfl rfl rfl (t' rfl (S' (bk' (p' 1 rfl (g' [1] (W0 hx1) rfl rfl rfl rfl rfl rfl (e' rfl (ci' rfl hh (fun hh=>?_) (fun hh=>?_))))))))
 ·cases hh
  exact t' rfl (re' (rt' rfl rfl rfl))
 obtain ⟨x2,hx2,hh⟩:=bs' hh
 refine p' 1 rfl (g' [1] (W0 hx2) rfl rfl rfl rfl rfl rfl (e' rfl (ci' rfl hh (fun hh=>?_) (fun hh=>?_))))
 ·cases hh
  exact t' rfl (re' (rt' rfl rfl rfl))
 obtain ⟨x3,hx3,hh⟩:=bs' hh
 cases hh
 exact sk' (p' 1 rfl (g' [1] (W0 hx3) rfl rfl rfl rfl rfl rfl (e' rfl (re' (rt' rfl rfl rfl)))))
def Y4 (parserParser:B0):Option (Int×Bool×B0):=
 L0 [43] parserParser>>=fun x1=>
 if x1.1=true then
  some (8,true,x1.2)
 else
  L0 [45] x1.2>>=fun x2=>
  some (9,x2.1,x2.2)
theorem Ol {parserParser res}(hh:Y4 parserParser=some res):S0 C 48 [.ref 0 0] [.row [.ref 1 0] 35,.row (B0.cells parserParser) 45] (Ret [.row [.ref 1 0] 35,.row (B0.cells res.2.2) 45] (.tup [.d (.int .i64 res.1),.d (.bool res.2.1)])):=by
 unfold Y4 at hh
 obtain ⟨x1,hx1,hh⟩:=bs' hh
 refine S0.intro hC Tryd.func48 rfl rfl rfl (t' rfl (S' (p' 1 rfl (g' [1] (W0 hx1) rfl rfl rfl rfl rfl rfl (n' (ci' rfl hh (fun hh=>?_) (fun hh=>?_)))))))
 ·cases hh
  exact t' rfl (re' (rt' rfl rfl rfl))
 obtain ⟨x2,hx2,hh⟩:=bs' hh
 cases hh
 exact sk' (p' 1 rfl (g' [1] (W0 hx2) rfl rfl rfl rfl rfl rfl (e' rfl (re' (rt' rfl rfl rfl)))))
def Z4 (parserParser:B0):Option (Int×Bool×B0):=
 L0 [38,38] parserParser>>=fun x1=>
 some (19,x1.1,x1.2)
theorem Pl {parserParser res}(hh:Z4 parserParser=some res):S0 C 39 [.ref 0 0] [.row [.ref 1 0] 35,.row (B0.cells parserParser) 45] (Ret [.row [.ref 1 0] 35,.row (B0.cells res.2.2) 45] (.tup [.d (.int .i64 res.1),.d (.bool res.2.1)])):=by
 unfold Z4 at hh
 obtain ⟨x1,hx1,hh⟩:=bs' hh
 cases hh
 exact S0.intro hC Tryd.func39 rfl rfl rfl (t' rfl (p' 1 rfl (g' [1] (W0 hx1) rfl rfl rfl rfl rfl rfl (e' rfl (re' (rt' rfl rfl rfl))))))
def L5 (parserParser:B0):Option (Int×Bool×B0):=
 L0 [124,124] parserParser>>=fun x1=>
 some (20,x1.1,x1.2)
theorem Om {parserParser res}(hh:L5 parserParser=some res):S0 C 23 [.ref 0 0] [.row [.ref 1 0] 35,.row (B0.cells parserParser) 45] (Ret [.row [.ref 1 0] 35,.row (B0.cells res.2.2) 45] (.tup [.d (.int .i64 res.1),.d (.bool res.2.1)])):=by
 unfold L5 at hh
 obtain ⟨x1,hx1,hh⟩:=bs' hh
 cases hh
 exact S0.intro hC Tryd.func23 rfl rfl rfl (t' rfl (p' 1 rfl (g' [1] (W0 hx1) rfl rfl rfl rfl rfl rfl (e' rfl (re' (rt' rfl rfl rfl))))))
mutual
def C1 (parserParser:B0):Option (Pn (A0×B0)):=
 X3 parserParser>>=fun x1=>match x1 with
 | .pn nn=>
 some (.pn nn)
 | .ok x1=>
 L0 [63] x1.2>>=fun x2=>
 if (!x2.1)=true then
  some (.ok (x1.1,x2.2))
 else
  C1 x2.2>>=fun x3=>match x3 with
  | .pn nn=>
  some (.pn nn)
  | .ok x3=>
  X2 [58] x3.2>>=fun x4=>match x4 with
  | .pn nn=>
  some (.pn nn)
  | .ok x4=>
  C1 x4>>=fun x5=>match x5 with
  | .pn nn=>
  some (.pn nn)
  | .ok x5=>
  some (.ok ((A0.mk 23 0 [] [x1.1,x3.1,x5.1]),x5.2))
 partial_fixpoint
def X3 (parserParser:B0):Option (Pn (A0×B0)):=
 A5 parserParser>>=fun x1=>match x1 with
 | .pn nn=>
 some (.pn nn)
 | .ok x1=>
 some (.ok (x1.1,x1.2))
 partial_fixpoint
def A5 (parserParser:B0):Option (Pn (A0×B0)):=
 H3 parserParser>>=fun x1=>match x1 with
 | .pn nn=>
 some (.pn nn)
 | .ok x1=>
 D2 x1.2 x1.1
 partial_fixpoint
def D2 (o0:B0)(o3:A0):Option (Pn (A0×B0)):=
 L5 o0>>=fun x2=>
 if (!x2.2.1)=true then
  some (.ok (o3,x2.2.2))
 else
  H3 x2.2.2>>=fun x3=>match x3 with
  | .pn nn=>
  some (.pn nn)
  | .ok x3=>
  D2 x3.2 (A0.mk x2.1 0 [] [o3,x3.1])
 partial_fixpoint
def H3 (parserParser:B0):Option (Pn (A0×B0)):=
 Y3 parserParser>>=fun x1=>match x1 with
 | .pn nn=>
 some (.pn nn)
 | .ok x1=>
 some (.ok (x1.1,x1.2))
 partial_fixpoint
def Y3 (parserParser:B0):Option (Pn (A0×B0)):=
 C2 parserParser>>=fun x1=>match x1 with
 | .pn nn=>
 some (.pn nn)
 | .ok x1=>
 T1 x1.2 x1.1
 partial_fixpoint
def T1 (o0:B0)(o3:A0):Option (Pn (A0×B0)):=
 Z4 o0>>=fun x2=>
 if (!x2.2.1)=true then
  some (.ok (o3,x2.2.2))
 else
  C2 x2.2.2>>=fun x3=>match x3 with
  | .pn nn=>
  some (.pn nn)
  | .ok x3=>
  T1 x3.2 (A0.mk x2.1 0 [] [o3,x3.1])
 partial_fixpoint
def C2 (parserParser:B0):Option (Pn (A0×B0)):=
 Z2 parserParser>>=fun x1=>match x1 with
 | .pn nn=>
 some (.pn nn)
 | .ok x1=>
 L0 [61,61] x1.2>>=fun x2=>
 if x2.1=true then
  R0 x2.2 x1 13
 else
  L0 [33,61] x2.2>>=fun x4=>
  if x4.1=true then
   R0 x4.2 x1 14
  else
   L0 [60] x4.2>>=fun x5=>
   if x5.1=true then
    R0 x5.2 x1 15
   else
    L0 [60,61] x5.2>>=fun x6=>
    if x6.1=true then
     R0 x6.2 x1 16
    else
     L0 [62] x6.2>>=fun x7=>
     if x7.1=true then
      R0 x7.2 x1 17
     else
      L0 [62,61] x7.2>>=fun x8=>
      if x8.1=true then
       R0 x8.2 x1 18
      else
       some (.ok (x1.1,x8.2))
 partial_fixpoint
def R0 (o0:B0)(x1:A0×B0)(op:Int):Option (Pn (A0×B0)):=
 Z2 o0>>=fun x3=>match x3 with
 | .pn nn=>
 some (.pn nn)
 | .ok x3=>
 some (.ok ((A0.mk op 0 [] [x1.1,x3.1]),x3.2))
 partial_fixpoint
def Z2 (parserParser:B0):Option (Pn (A0×B0)):=
 Z3 parserParser>>=fun x1=>match x1 with
 | .pn nn=>
 some (.pn nn)
 | .ok x1=>
 some (.ok (x1.1,x1.2))
 partial_fixpoint
def Z3 (parserParser:B0):Option (Pn (A0×B0)):=
 R2 parserParser>>=fun x1=>match x1 with
 | .pn nn=>
 some (.pn nn)
 | .ok x1=>
 U1 x1.2 x1.1
 partial_fixpoint
def U1 (o0:B0)(o3:A0):Option (Pn (A0×B0)):=
 Y4 o0>>=fun x2=>
 if (!x2.2.1)=true then
  some (.ok (o3,x2.2.2))
 else
  R2 x2.2.2>>=fun x3=>match x3 with
  | .pn nn=>
  some (.pn nn)
  | .ok x3=>
  U1 x3.2 (A0.mk x2.1 0 [] [o3,x3.1])
 partial_fixpoint
def R2 (parserParser:B0):Option (Pn (A0×B0)):=
 A4 parserParser>>=fun x1=>match x1 with
 | .pn nn=>
 some (.pn nn)
 | .ok x1=>
 some (.ok (x1.1,x1.2))
 partial_fixpoint
def A4 (parserParser:B0):Option (Pn (A0×B0)):=
 F2 parserParser>>=fun x1=>match x1 with
 | .pn nn=>
 some (.pn nn)
 | .ok x1=>
 V1 x1.2 x1.1
 partial_fixpoint
def V1 (o0:B0)(o3:A0):Option (Pn (A0×B0)):=
 R3 o0>>=fun x2=>
 if (!x2.2.1)=true then
  some (.ok (o3,x2.2.2))
 else
  F2 x2.2.2>>=fun x3=>match x3 with
  | .pn nn=>
  some (.pn nn)
  | .ok x3=>
  V1 x3.2 (A0.mk x2.1 0 [] [o3,x3.1])
 partial_fixpoint
def F2 (parserParser:B0):Option (Pn (A0×B0)):=
 L0 [45] parserParser>>=fun x1=>
 if x1.1=true then
  F2 x1.2>>=fun x4=>match x4 with
  | .pn nn=>
  some (.pn nn)
  | .ok x4=>
  some (.ok ((A0.mk 6 0 [] [x4.1]),x4.2))
 else
  L0 [33] x1.2>>=fun x2=>
  if x2.1=true then
   F2 x2.2>>=fun x5=>match x5 with
   | .pn nn=>
   some (.pn nn)
   | .ok x5=>
   some (.ok ((A0.mk 7 0 [] [x5.1]),x5.2))
  else
   N3 x2.2>>=fun x3=>match x3 with
   | .pn nn=>
   some (.pn nn)
   | .ok x3=>
   some (.ok (x3.1,x3.2))
 partial_fixpoint
def N3 (parserParser:B0):Option (Pn (A0×B0)):=
 Q4 parserParser>>=fun x1=>
 if x1=true then
  C4 parserParser>>=fun x2=>match x2 with
  | .pn nn=>
  some (.pn nn)
  | .ok x2=>
  some (.ok (x2.1,x2.2))
 else
  L0 [116,114,117,101] parserParser>>=fun x3=>
  if x3.1=true then
   some (.ok ((A0.mk 1 0 [] []),x3.2))
  else
   L0 [102,97,108,115,101] x3.2>>=fun x4=>
   if x4.1=true then
    some (.ok ((A0.mk 2 0 [] []),x4.2))
   else
    L0 [109,105,110] x4.2>>=fun x5=>
    if x5.1=true then
     U3 21 x5.2>>=fun x11=>match x11 with
     | .pn nn=>
     some (.pn nn)
     | .ok x11=>
     some (.ok (x11.1,x11.2))
    else
     L0 [109,97,120] x5.2>>=fun x6=>
     if x6.1=true then
      U3 22 x6.2>>=fun x12=>match x12 with
      | .pn nn=>
      some (.pn nn)
      | .ok x12=>
      some (.ok (x12.1,x12.2))
     else
      L0 [40] x6.2>>=fun x7=>
      if x7.1=true then
       C1 x7.2>>=fun x9=>match x9 with
       | .pn nn=>
       some (.pn nn)
       | .ok x9=>
       X2 [41] x9.2>>=fun x10=>match x10 with
       | .pn nn=>
       some (.pn nn)
       | .ok x10=>
       some (.ok (x9.1,x10))
      else
       R4 x7.2>>=fun x8=>match x8 with
       | .pn nn=>
       some (.pn nn)
       | .ok x8=>
       some (.ok ((A0.mk 0 x8.1 [] []),x8.2))
 partial_fixpoint
def U3 (op:Int)(parserParser:B0):Option (Pn (A0×B0)):=
 X2 [40] parserParser>>=fun x1=>match x1 with
 | .pn nn=>
 some (.pn nn)
 | .ok x1=>
 C1 x1>>=fun x2=>match x2 with
 | .pn nn=>
 some (.pn nn)
 | .ok x2=>
 X2 [44] x2.2>>=fun x3=>match x3 with
 | .pn nn=>
 some (.pn nn)
 | .ok x3=>
 C1 x3>>=fun x4=>match x4 with
 | .pn nn=>
 some (.pn nn)
 | .ok x4=>
 X2 [41] x4.2>>=fun x5=>match x5 with
 | .pn nn=>
 some (.pn nn)
 | .ok x5=>
 some (.ok ((A0.mk op 0 [] [x2.1,x4.1]),x5))
 partial_fixpoint
def C4 (parserParser:B0):Option (Pn (A0×B0)):=
 M4 parserParser>>=fun x1=>match x1 with
 | .pn nn=>
 some (.pn nn)
 | .ok x1=>
 N2 x1.2 3 x1.1 []
 partial_fixpoint
def N2 (o0:B0)(o2_Op:Int)(o2_Name:Str)(o2_Kids:List A0):Option (Pn (A0×B0)):=
 L0 [46] o0>>=fun x2=>
 if x2.1=true then
  M4 x2.2>>=fun x3=>match x3 with
  | .pn nn=>
  some (.pn nn)
  | .ok x3=>
  N2 x3.2 4 x3.1 [(A0.mk o2_Op 0 o2_Name o2_Kids)]
 else
  L0 [91] x2.2>>=fun x4=>
  if x4.1=true then
   C1 x4.2>>=fun x5=>match x5 with
   | .pn nn=>
   some (.pn nn)
   | .ok x5=>
   X2 [93] x5.2>>=fun x6=>match x6 with
   | .pn nn=>
   some (.pn nn)
   | .ok x6=>
   N2 x6 5 [] [(A0.mk o2_Op 0 o2_Name o2_Kids),x5.1]
  else
   some (.ok ((A0.mk o2_Op 0 o2_Name o2_Kids),x4.2))
 partial_fixpoint
end
abbrev Xc (parserParser:B0)(res:Pn (A0×B0)):Prop:=T2 C 10 [.ref 0 0] [.row (B0.cells parserParser) 45] (C7 res (fun rr=>[.row (B0.cells rr.2) 45]) (fun rr=>.agg (A0.cells rr.1))) (O6 res V4 [.dead])
abbrev Fi (parserParser:B0)(res:Pn (A0×B0)):Prop:=T2 C 15 [.ref 0 0] [.row (B0.cells parserParser) 45] (C7 res (fun rr=>[.row (B0.cells rr.2) 45]) (fun rr=>.agg (A0.cells rr.1))) (O6 res V4 [.dead])
abbrev Xf (parserParser:B0)(res:Pn (A0×B0)):Prop:=T2 C 21 [.ref 0 0,.bnd 22 [.ref 0 0],.clo 23 [.ref 1 0]] [.row (B0.cells parserParser) 45,.row [.ref 0 0] 35] (C7 res (fun rr=>[.row (B0.cells rr.2) 45,.row [.ref 0 0] 35]) (fun rr=>.agg (A0.cells rr.1))) (O6 res V4 [.dead,.row [.ref 0 0] 35])
abbrev Od (o0:B0)(o3:A0)(res:Pn (A0×B0)):Prop:=LMp C 26 2 Tryd.f21 [1,1,4] [(1,.bnd 22 [.ref 0 0]),(2,.clo 23 [.ref 1 0]),(6,.ref 2 0),(7,.ref 3 0)] [.row (B0.cells o0) 45,.row [.ref 0 0] 35,.row [.d (.int .i64 0),.d (.int .i64 0),.d (.str []),.full (A0.rows [])] 26,.row (A0.cells o3) 26] (C7 res (fun rr=>[.row (B0.cells rr.2) 45,.row [.ref 0 0] 35]) (fun rr=>.agg (A0.cells rr.1))) (O6 res V4 [.dead,.row [.ref 0 0] 35])
abbrev Ug (parserParser:B0)(res:Pn (A0×B0)):Prop:=T2 C 22 [.ref 0 0] [.row (B0.cells parserParser) 45] (C7 res (fun rr=>[.row (B0.cells rr.2) 45]) (fun rr=>.agg (A0.cells rr.1))) (O6 res V4 [.dead])
abbrev Pd (parserParser:B0)(res:Pn (A0×B0)):Prop:=T2 C 21 [.ref 0 0,.bnd 38 [.ref 0 0],.clo 39 [.ref 1 0]] [.row (B0.cells parserParser) 45,.row [.ref 0 0] 35] (C7 res (fun rr=>[.row (B0.cells rr.2) 45,.row [.ref 0 0] 35]) (fun rr=>.agg (A0.cells rr.1))) (O6 res V4 [.dead,.row [.ref 0 0] 35])
abbrev Bc (o0:B0)(o3:A0)(res:Pn (A0×B0)):Prop:=LMp C 26 2 Tryd.f21 [1,1,4] [(1,.bnd 38 [.ref 0 0]),(2,.clo 39 [.ref 1 0]),(6,.ref 2 0),(7,.ref 3 0)] [.row (B0.cells o0) 45,.row [.ref 0 0] 35,.row [.d (.int .i64 0),.d (.int .i64 0),.d (.str []),.full (A0.rows [])] 26,.row (A0.cells o3) 26] (C7 res (fun rr=>[.row (B0.cells rr.2) 45,.row [.ref 0 0] 35]) (fun rr=>.agg (A0.cells rr.1))) (O6 res V4 [.dead,.row [.ref 0 0] 35])
abbrev Yc (parserParser:B0)(res:Pn (A0×B0)):Prop:=T2 C 38 [.ref 0 0] [.row (B0.cells parserParser) 45] (C7 res (fun rr=>[.row (B0.cells rr.2) 45]) (fun rr=>.agg (A0.cells rr.1))) (O6 res V4 [.dead])
abbrev Lb (o0:B0)(x1:A0×B0)(op:Int)(res:Pn (A0×B0)):Prop:=JMp C 32 1 Tryd.f38 [1,1,1,1] [(0,.ref 0 0),(2,.ref 1 0),(3,.ref 2 0),(4,.d (.int .i64 op))] [.row (B0.cells o0) 45,.row [.d (.int .i64 0),.d (.int .i64 0),.d (.str []),.full (A0.rows [])] 26,.row (A0.cells x1.1) 26] (C7 res (fun rr=>[.row (B0.cells rr.2) 45]) (fun rr=>.agg (A0.cells rr.1))) (O6 res V4 [.dead])
abbrev Vg (parserParser:B0)(res:Pn (A0×B0)):Prop:=T2 C 43 [.ref 0 0] [.row (B0.cells parserParser) 45] (C7 res (fun rr=>[.row (B0.cells rr.2) 45]) (fun rr=>.agg (A0.cells rr.1))) (O6 res V4 [.dead])
abbrev Qd (parserParser:B0)(res:Pn (A0×B0)):Prop:=T2 C 21 [.ref 0 0,.bnd 47 [.ref 0 0],.clo 48 [.ref 1 0]] [.row (B0.cells parserParser) 45,.row [.ref 0 0] 35] (C7 res (fun rr=>[.row (B0.cells rr.2) 45,.row [.ref 0 0] 35]) (fun rr=>.agg (A0.cells rr.1))) (O6 res V4 [.dead,.row [.ref 0 0] 35])
abbrev Cc (o0:B0)(o3:A0)(res:Pn (A0×B0)):Prop:=LMp C 26 2 Tryd.f21 [1,1,4] [(1,.bnd 47 [.ref 0 0]),(2,.clo 48 [.ref 1 0]),(6,.ref 2 0),(7,.ref 3 0)] [.row (B0.cells o0) 45,.row [.ref 0 0] 35,.row [.d (.int .i64 0),.d (.int .i64 0),.d (.str []),.full (A0.rows [])] 26,.row (A0.cells o3) 26] (C7 res (fun rr=>[.row (B0.cells rr.2) 45,.row [.ref 0 0] 35]) (fun rr=>.agg (A0.cells rr.1))) (O6 res V4 [.dead,.row [.ref 0 0] 35])
abbrev Je (parserParser:B0)(res:Pn (A0×B0)):Prop:=T2 C 47 [.ref 0 0] [.row (B0.cells parserParser) 45] (C7 res (fun rr=>[.row (B0.cells rr.2) 45]) (fun rr=>.agg (A0.cells rr.1))) (O6 res V4 [.dead])
abbrev Sd (parserParser:B0)(res:Pn (A0×B0)):Prop:=T2 C 21 [.ref 0 0,.bnd 52 [.ref 0 0],.clo 53 [.ref 1 0]] [.row (B0.cells parserParser) 45,.row [.ref 0 0] 35] (C7 res (fun rr=>[.row (B0.cells rr.2) 45,.row [.ref 0 0] 35]) (fun rr=>.agg (A0.cells rr.1))) (O6 res V4 [.dead,.row [.ref 0 0] 35])
abbrev Dc (o0:B0)(o3:A0)(res:Pn (A0×B0)):Prop:=LMp C 26 2 Tryd.f21 [1,1,4] [(1,.bnd 52 [.ref 0 0]),(2,.clo 53 [.ref 1 0]),(6,.ref 2 0),(7,.ref 3 0)] [.row (B0.cells o0) 45,.row [.ref 0 0] 35,.row [.d (.int .i64 0),.d (.int .i64 0),.d (.str []),.full (A0.rows [])] 26,.row (A0.cells o3) 26] (C7 res (fun rr=>[.row (B0.cells rr.2) 45,.row [.ref 0 0] 35]) (fun rr=>.agg (A0.cells rr.1))) (O6 res V4 [.dead,.row [.ref 0 0] 35])
abbrev Yf (parserParser:B0)(res:Pn (A0×B0)):Prop:=T2 C 52 [.ref 0 0] [.row (B0.cells parserParser) 45] (C7 res (fun rr=>[.row (B0.cells rr.2) 45]) (fun rr=>.agg (A0.cells rr.1))) (O6 res V4 [.dead])
abbrev Ke (parserParser:B0)(res:Pn (A0×B0)):Prop:=T2 C 57 [.ref 0 0] [.row (B0.cells parserParser) 45] (C7 res (fun rr=>[.row (B0.cells rr.2) 45]) (fun rr=>.agg (A0.cells rr.1))) (O6 res V4 [.dead])
abbrev Lg (op:Int)(parserParser:B0)(res:Pn (A0×B0)):Prop:=T2 C 61 [.ref 0 0,.d (.int .i64 op)] [.row (B0.cells parserParser) 45] (C7 res (fun rr=>[.row (B0.cells rr.2) 45]) (fun rr=>.agg (A0.cells rr.1))) (O6 res V4 [.dead])
abbrev Zf (parserParser:B0)(res:Pn (A0×B0)):Prop:=T2 C 60 [.ref 0 0] [.row (B0.cells parserParser) 45] (C7 res (fun rr=>[.row (B0.cells rr.2) 45]) (fun rr=>.agg (A0.cells rr.1))) (O6 res V4 [.dead])
abbrev Td (o0:B0)(o2_Op:Int)(o2_Name:Str)(o2_Kids:List A0)(res:Pn (A0×B0)):Prop:=LMp C 28 1 Tryd.f60 [1,1,4] [(0,.ref 0 0),(2,.ref 1 0),(3,.ref 2 0)] [.row (B0.cells o0) 45,.row [.d (.int .i64 0),.d (.int .i64 0),.d (.str []),.full (A0.rows [])] 26,.row [.d (.int .i64 o2_Op),.d (.int .i64 0),.d (.str o2_Name),.d (.sl (A0.rows o2_Kids))] 26] (C7 res (fun rr=>[.row (B0.cells rr.2) 45]) (fun rr=>.agg (A0.cells rr.1))) (O6 res V4 [.dead])
theorem O0:(∀ parserParser res,C1 parserParser=some res→Xc parserParser res)∧(∀ parserParser res,X3 parserParser=some res→Fi parserParser res)∧(∀ parserParser res,A5 parserParser=some res→Xf parserParser res)∧(∀ o0 o3 res,D2 o0 o3=some res→Od o0 o3 res)∧(∀ parserParser res,H3 parserParser=some res→Ug parserParser res)∧(∀ parserParser res,Y3 parserParser=some res→Pd parserParser res)∧(∀ o0 o3 res,T1 o0 o3=some res→Bc o0 o3 res)∧(∀ parserParser res,C2 parserParser=some res→Yc parserParser res)∧(∀ o0 x1 op res,R0 o0 x1 op=some res→Lb o0 x1 op res)∧(∀ parserParser res,Z2 parserParser=some res→Vg parserParser res)∧(∀ parserParser res,Z3 parserParser=some res→Qd parserParser res)∧(∀ o0 o3 res,U1 o0 o3=some res→Cc o0 o3 res)∧(∀ parserParser res,R2 parserParser=some res→Je parserParser res)∧(∀ parserParser res,A4 parserParser=some res→Sd parserParser res)∧(∀ o0 o3 res,V1 o0 o3=some res→Dc o0 o3 res)∧(∀ parserParser res,F2 parserParser=some res→Yf parserParser res)∧(∀ parserParser res,N3 parserParser=some res→Ke parserParser res)∧(∀ op parserParser res,U3 op parserParser=some res→Lg op parserParser res)∧(∀ parserParser res,C4 parserParser=some res→Zf parserParser res)∧(∀ o0 o2_Op o2_Name o2_Kids res,N2 o0 o2_Op o2_Name o2_Kids=some res→Td o0 o2_Op o2_Name o2_Kids res):=by
 refine C1.mutual_partial_correctness _ _ _ _ _ _ _ _ _ _ _ _ _ _ _ _ _ _ _ _ ?_ ?_ ?_ ?_ ?_ ?_ ?_ ?_ ?_ ?_ ?_ ?_ ?_ ?_ ?_ ?_ ?_ ?_ ?_ ?_
 ·intro g0 g1 ih0 ih1 parserParser res hh
  refine T2.intro hC Tryd.func10 rfl rfl rfl (s' rfl rfl (F0.nf hC rfl (n' (p' 1 rfl ?_))))
  rcases bp' hh with ⟨nn,hx1,⟨⟩⟩ | ⟨x1,hx1,hh⟩
  ·exact gn' [0] (ih1 _ _ hx1) rfl rfl rfl rfl rfl (fun hi=>peW ⟨trivial,trivial⟩ rfl hi)
  obtain ⟨x2,hx2,hh⟩:=bs' hh
  refine g' [0] ((ih1 _ _ hx1).ok) rfl rfl rfl rfl rfl rfl (F0.nf hC rfl (F0.s hC rfl (n' (S' (p' 1 rfl (g' [0] (W0 hx2) rfl rfl rfl rfl rfl rfl (e' rfl (ci' rfl hh (fun hh=>?_) (fun hh=>?_)))))))))
  ·cases hh
   exact p' 1 rfl (F0.s hC rfl (n' (re' (rt' rfl rfl rfl))))
  refine sk' (p' 1 rfl ?_)
  rcases bp' hh with ⟨nn,hx3,⟨⟩⟩ | ⟨x3,hx3,hh⟩
  ·exact gn' [0] (ih0 _ _ hx3) rfl rfl rfl rfl rfl (fun hi=>peW ⟨trivial,trivial⟩ rfl hi)
  refine g' [0] ((ih0 _ _ hx3).ok) rfl rfl rfl rfl rfl rfl (F0.nf hC rfl (F0.s hC rfl (n' (p' 1 rfl ?_))))
  rcases bp' hh with ⟨nn,hx4,⟨⟩⟩ | ⟨x4,hx4,hh⟩
  ·exact gn' [0] (J2 hx4) rfl rfl rfl rfl rfl (fun hi=>peW ⟨trivial,trivial⟩ rfl hi)
  refine g' [0] ((J2 hx4).ok) rfl rfl rfl rfl rfl rfl (n' (S' ?_))
  rcases bp' hh with ⟨nn,hx5,⟨⟩⟩ | ⟨x5,hx5,hh⟩
  ·refine AEx.drawE hC ?_
   refine C0.step rfl (j0:=0) (js:=[1,2]) (by kernel_rfl) ⟨⟨_,rfl,?_⟩,⟨_,rfl,?_⟩,⟨_,rfl,?_⟩,trivial⟩
   ·refine e' rfl ?_
    refine C0.step rfl (j0:=1) (js:=[2]) (by kernel_rfl) ⟨⟨_,rfl,?_⟩,⟨_,rfl,?_⟩,trivial⟩
    ·refine e' rfl ?_
     refine C0.step rfl (j0:=2) (js:=[]) (by kernel_rfl) ⟨⟨_,rfl,?_⟩,trivial⟩
     refine e' rfl ?_
     refine C0.step rfl (j0:=3) (js:=[]) (by kernel_rfl) ⟨⟨_,rfl,?_⟩,trivial⟩
     exact gn' [0] (ih0 _ _ hx5) rfl rfl rfl rfl rfl (fun hi=>peW ⟨trivial,trivial⟩ rfl hi)
    ·refine e' rfl ?_
     refine C0.step rfl (j0:=1) (js:=[3]) (by kernel_rfl) ⟨⟨_,rfl,?_⟩,⟨_,rfl,?_⟩,trivial⟩
     ·refine e' rfl ?_
      refine C0.step rfl (j0:=3) (js:=[]) (by kernel_rfl) ⟨⟨_,rfl,?_⟩,trivial⟩
      exact gn' [0] (ih0 _ _ hx5) rfl rfl rfl rfl rfl (fun hi=>peW ⟨trivial,trivial⟩ rfl hi)
     ·exact gn' [0] (ih0 _ _ hx5) rfl rfl rfl rfl rfl (fun hi=>peW ⟨trivial,trivial⟩ rfl hi)
   ·refine e' rfl ?_
    refine C0.step rfl (j0:=0) (js:=[2]) (by kernel_rfl) ⟨⟨_,rfl,?_⟩,⟨_,rfl,?_⟩,trivial⟩
    ·refine e' rfl ?_
     refine C0.step rfl (j0:=2) (js:=[]) (by kernel_rfl) ⟨⟨_,rfl,?_⟩,trivial⟩
     refine e' rfl ?_
     refine C0.step rfl (j0:=3) (js:=[]) (by kernel_rfl) ⟨⟨_,rfl,?_⟩,trivial⟩
     exact gn' [0] (ih0 _ _ hx5) rfl rfl rfl rfl rfl (fun hi=>peW ⟨trivial,trivial⟩ rfl hi)
    ·refine e' rfl ?_
     refine C0.step rfl (j0:=0) (js:=[3]) (by kernel_rfl) ⟨⟨_,rfl,?_⟩,⟨_,rfl,?_⟩,trivial⟩
     ·refine e' rfl ?_
      refine C0.step rfl (j0:=3) (js:=[]) (by kernel_rfl) ⟨⟨_,rfl,?_⟩,trivial⟩
      exact gn' [0] (ih0 _ _ hx5) rfl rfl rfl rfl rfl (fun hi=>peW ⟨trivial,trivial⟩ rfl hi)
     ·exact gn' [0] (ih0 _ _ hx5) rfl rfl rfl rfl rfl (fun hi=>peW ⟨trivial,trivial⟩ rfl hi)
   ·refine e' rfl ?_
    refine C0.step rfl (j0:=0) (js:=[1,3]) (by kernel_rfl) ⟨⟨_,rfl,?_⟩,⟨_,rfl,?_⟩,⟨_,rfl,?_⟩,trivial⟩
    ·refine e' rfl ?_
     refine C0.step rfl (j0:=1) (js:=[3]) (by kernel_rfl) ⟨⟨_,rfl,?_⟩,⟨_,rfl,?_⟩,trivial⟩
     ·refine e' rfl ?_
      refine C0.step rfl (j0:=3) (js:=[]) (by kernel_rfl) ⟨⟨_,rfl,?_⟩,trivial⟩
      exact gn' [0] (ih0 _ _ hx5) rfl rfl rfl rfl rfl (fun hi=>peW ⟨trivial,trivial⟩ rfl hi)
     ·exact gn' [0] (ih0 _ _ hx5) rfl rfl rfl rfl rfl (fun hi=>peW ⟨trivial,trivial⟩ rfl hi)
    ·refine e' rfl ?_
     refine C0.step rfl (j0:=0) (js:=[3]) (by kernel_rfl) ⟨⟨_,rfl,?_⟩,⟨_,rfl,?_⟩,trivial⟩
     ·refine e' rfl ?_
      refine C0.step rfl (j0:=3) (js:=[]) (by kernel_rfl) ⟨⟨_,rfl,?_⟩,trivial⟩
      exact gn' [0] (ih0 _ _ hx5) rfl rfl rfl rfl rfl (fun hi=>peW ⟨trivial,trivial⟩ rfl hi)
     ·exact gn' [0] (ih0 _ _ hx5) rfl rfl rfl rfl rfl (fun hi=>peW ⟨trivial,trivial⟩ rfl hi)
    ·exact gn' [0] (ih0 _ _ hx5) rfl rfl rfl rfl rfl (fun hi=>peW ⟨trivial,trivial⟩ rfl hi)
  refine AEx.drawE hC ?_
  refine C0.step rfl (j0:=0) (js:=[1,2]) (by kernel_rfl) ⟨⟨_,rfl,?_⟩,⟨_,rfl,?_⟩,⟨_,rfl,?_⟩,trivial⟩
  ·refine e' rfl ?_
   refine C0.step rfl (j0:=1) (js:=[2]) (by kernel_rfl) ⟨⟨_,rfl,?_⟩,⟨_,rfl,?_⟩,trivial⟩
   ·refine e' rfl ?_
    refine C0.step rfl (j0:=2) (js:=[]) (by kernel_rfl) ⟨⟨_,rfl,?_⟩,trivial⟩
    refine e' rfl ?_
    refine C0.step rfl (j0:=3) (js:=[]) (by kernel_rfl) ⟨⟨_,rfl,?_⟩,trivial⟩
    refine g' [0] ((ih0 _ _ hx5).ok) rfl rfl rfl rfl rfl rfl (n' ?_)
    refine C0.step rfl (j0:=4) (js:=[]) (by kernel_rfl) ⟨⟨_,rfl,?_⟩,trivial⟩
    refine F0.be hC rfl (A0.rows_map [x1.1,x3.1,x5.1]).symm (n' ?_)
    refine C0.step rfl (j0:=5) (js:=[]) (by kernel_rfl) ⟨⟨_,rfl,?_⟩,trivial⟩
    refine e' rfl ?_
    refine C0.step rfl (j0:=6) (js:=[]) (by kernel_rfl) ⟨⟨_,rfl,?_⟩,trivial⟩
    refine F0.s hC rfl (n' (C0.nil (by kernel_rfl) (re' ?_)))
    obtain rfl:=oi' hh
    exact ⟨_,.agg [.d (.int .i64 23),.d (.int .i64 0),.d (.str []),.d (.sl (A0.rows [x1.1,x3.1,x5.1]))],[.row (B0.cells x5.2) 45],rfl,(.aggL ⟨.rfl,.rfl,.rfl,.full,trivial⟩),⟨⟨rfl,.refl _,rfl⟩,trivial⟩,rfl,rfl,rpq rfl rfl⟩
   ·refine e' rfl ?_
    refine C0.step rfl (j0:=1) (js:=[3]) (by kernel_rfl) ⟨⟨_,rfl,?_⟩,⟨_,rfl,?_⟩,trivial⟩
    ·refine e' rfl ?_
     refine C0.step rfl (j0:=3) (js:=[]) (by kernel_rfl) ⟨⟨_,rfl,?_⟩,trivial⟩
     refine g' [0] ((ih0 _ _ hx5).ok) rfl rfl rfl rfl rfl rfl (n' ?_)
     refine C0.step rfl (j0:=4) (js:=[]) (by kernel_rfl) ⟨⟨_,rfl,?_⟩,trivial⟩
     refine F0.be hC rfl (A0.rows_map [x1.1,x3.1,x5.1]).symm (n' ?_)
     refine C0.step rfl (j0:=5) (js:=[]) (by kernel_rfl) ⟨⟨_,rfl,?_⟩,trivial⟩
     refine e' rfl ?_
     refine C0.step rfl (j0:=6) (js:=[]) (by kernel_rfl) ⟨⟨_,rfl,?_⟩,trivial⟩
     refine F0.s hC rfl (n' (C0.nil (by kernel_rfl) (re' ?_)))
     obtain rfl:=oi' hh
     exact ⟨_,.agg [.d (.int .i64 23),.d (.int .i64 0),.d (.str []),.d (.sl (A0.rows [x1.1,x3.1,x5.1]))],[.row (B0.cells x5.2) 45],rfl,(.aggL ⟨.rfl,.rfl,.rfl,.full,trivial⟩),⟨⟨rfl,.refl _,rfl⟩,trivial⟩,rfl,rfl,rpq rfl rfl⟩
    ·refine g' [0] ((ih0 _ _ hx5).ok) rfl rfl rfl rfl rfl rfl (n' ?_)
     refine C0.step rfl (j0:=1) (js:=[]) (by kernel_rfl) ⟨⟨_,rfl,?_⟩,trivial⟩
     refine e' rfl ?_
     refine C0.step rfl (j0:=4) (js:=[]) (by kernel_rfl) ⟨⟨_,rfl,?_⟩,trivial⟩
     refine F0.be hC rfl (A0.rows_map [x1.1,x3.1,x5.1]).symm (n' ?_)
     refine C0.step rfl (j0:=5) (js:=[]) (by kernel_rfl) ⟨⟨_,rfl,?_⟩,trivial⟩
     refine e' rfl ?_
     refine C0.step rfl (j0:=6) (js:=[]) (by kernel_rfl) ⟨⟨_,rfl,?_⟩,trivial⟩
     refine F0.s hC rfl (n' (C0.nil (by kernel_rfl) (re' ?_)))
     obtain rfl:=oi' hh
     exact ⟨_,.agg [.d (.int .i64 23),.d (.int .i64 0),.d (.str []),.d (.sl (A0.rows [x1.1,x3.1,x5.1]))],[.row (B0.cells x5.2) 45],rfl,(.aggL ⟨.rfl,.rfl,.rfl,.full,trivial⟩),⟨⟨rfl,.refl _,rfl⟩,trivial⟩,rfl,rfl,rpq rfl rfl⟩
  ·refine e' rfl ?_
   refine C0.step rfl (j0:=0) (js:=[2]) (by kernel_rfl) ⟨⟨_,rfl,?_⟩,⟨_,rfl,?_⟩,trivial⟩
   ·refine e' rfl ?_
    refine C0.step rfl (j0:=2) (js:=[]) (by kernel_rfl) ⟨⟨_,rfl,?_⟩,trivial⟩
    refine e' rfl ?_
    refine C0.step rfl (j0:=3) (js:=[]) (by kernel_rfl) ⟨⟨_,rfl,?_⟩,trivial⟩
    refine g' [0] ((ih0 _ _ hx5).ok) rfl rfl rfl rfl rfl rfl (n' ?_)
    refine C0.step rfl (j0:=4) (js:=[]) (by kernel_rfl) ⟨⟨_,rfl,?_⟩,trivial⟩
    refine F0.be hC rfl (A0.rows_map [x1.1,x3.1,x5.1]).symm (n' ?_)
    refine C0.step rfl (j0:=5) (js:=[]) (by kernel_rfl) ⟨⟨_,rfl,?_⟩,trivial⟩
    refine e' rfl ?_
    refine C0.step rfl (j0:=6) (js:=[]) (by kernel_rfl) ⟨⟨_,rfl,?_⟩,trivial⟩
    refine F0.s hC rfl (n' (C0.nil (by kernel_rfl) (re' ?_)))
    obtain rfl:=oi' hh
    exact ⟨_,.agg [.d (.int .i64 23),.d (.int .i64 0),.d (.str []),.d (.sl (A0.rows [x1.1,x3.1,x5.1]))],[.row (B0.cells x5.2) 45],rfl,(.aggL ⟨.rfl,.rfl,.rfl,.full,trivial⟩),⟨⟨rfl,.refl _,rfl⟩,trivial⟩,rfl,rfl,rpq rfl rfl⟩
   ·refine e' rfl ?_
    refine C0.step rfl (j0:=0) (js:=[3]) (by kernel_rfl) ⟨⟨_,rfl,?_⟩,⟨_,rfl,?_⟩,trivial⟩
    ·refine e' rfl ?_
     refine C0.step rfl (j0:=3) (js:=[]) (by kernel_rfl) ⟨⟨_,rfl,?_⟩,trivial⟩
     refine g' [0] ((ih0 _ _ hx5).ok) rfl rfl rfl rfl rfl rfl (n' ?_)
     refine C0.step rfl (j0:=4) (js:=[]) (by kernel_rfl) ⟨⟨_,rfl,?_⟩,trivial⟩
     refine F0.be hC rfl (A0.rows_map [x1.1,x3.1,x5.1]).symm (n' ?_)
     refine C0.step rfl (j0:=5) (js:=[]) (by kernel_rfl) ⟨⟨_,rfl,?_⟩,trivial⟩
     refine e' rfl ?_
     refine C0.step rfl (j0:=6) (js:=[]) (by kernel_rfl) ⟨⟨_,rfl,?_⟩,trivial⟩
     refine F0.s hC rfl (n' (C0.nil (by kernel_rfl) (re' ?_)))
     obtain rfl:=oi' hh
     exact ⟨_,.agg [.d (.int .i64 23),.d (.int .i64 0),.d (.str []),.d (.sl (A0.rows [x1.1,x3.1,x5.1]))],[.row (B0.cells x5.2) 45],rfl,(.aggL ⟨.rfl,.rfl,.rfl,.full,trivial⟩),⟨⟨rfl,.refl _,rfl⟩,trivial⟩,rfl,rfl,rpq rfl rfl⟩
    ·refine g' [0] ((ih0 _ _ hx5).ok) rfl rfl rfl rfl rfl rfl (n' ?_)
     refine C0.step rfl (j0:=0) (js:=[]) (by kernel_rfl) ⟨⟨_,rfl,?_⟩,trivial⟩
     refine e' rfl ?_
     refine C0.step rfl (j0:=4) (js:=[]) (by kernel_rfl) ⟨⟨_,rfl,?_⟩,trivial⟩
     refine F0.be hC rfl (A0.rows_map [x1.1,x3.1,x5.1]).symm (n' ?_)
     refine C0.step rfl (j0:=5) (js:=[]) (by kernel_rfl) ⟨⟨_,rfl,?_⟩,trivial⟩
     refine e' rfl ?_
     refine C0.step rfl (j0:=6) (js:=[]) (by kernel_rfl) ⟨⟨_,rfl,?_⟩,trivial⟩
     refine F0.s hC rfl (n' (C0.nil (by kernel_rfl) (re' ?_)))
     obtain rfl:=oi' hh
     exact ⟨_,.agg [.d (.int .i64 23),.d (.int .i64 0),.d (.str []),.d (.sl (A0.rows [x1.1,x3.1,x5.1]))],[.row (B0.cells x5.2) 45],rfl,(.aggL ⟨.rfl,.rfl,.rfl,.full,trivial⟩),⟨⟨rfl,.refl _,rfl⟩,trivial⟩,rfl,rfl,rpq rfl rfl⟩
  ·refine e' rfl ?_
   refine C0.step rfl (j0:=0) (js:=[1,3]) (by kernel_rfl) ⟨⟨_,rfl,?_⟩,⟨_,rfl,?_⟩,⟨_,rfl,?_⟩,trivial⟩
   ·refine e' rfl ?_
    refine C0.step rfl (j0:=1) (js:=[3]) (by kernel_rfl) ⟨⟨_,rfl,?_⟩,⟨_,rfl,?_⟩,trivial⟩
    ·refine e' rfl ?_
     refine C0.step rfl (j0:=3) (js:=[]) (by kernel_rfl) ⟨⟨_,rfl,?_⟩,trivial⟩
     refine g' [0] ((ih0 _ _ hx5).ok) rfl rfl rfl rfl rfl rfl (n' ?_)
     refine C0.step rfl (j0:=4) (js:=[]) (by kernel_rfl) ⟨⟨_,rfl,?_⟩,trivial⟩
     refine F0.be hC rfl (A0.rows_map [x1.1,x3.1,x5.1]).symm (n' ?_)
     refine C0.step rfl (j0:=5) (js:=[]) (by kernel_rfl) ⟨⟨_,rfl,?_⟩,trivial⟩
     refine e' rfl ?_
     refine C0.step rfl (j0:=6) (js:=[]) (by kernel_rfl) ⟨⟨_,rfl,?_⟩,trivial⟩
     refine F0.s hC rfl (n' (C0.nil (by kernel_rfl) (re' ?_)))
     obtain rfl:=oi' hh
     exact ⟨_,.agg [.d (.int .i64 23),.d (.int .i64 0),.d (.str []),.d (.sl (A0.rows [x1.1,x3.1,x5.1]))],[.row (B0.cells x5.2) 45],rfl,(.aggL ⟨.rfl,.rfl,.rfl,.full,trivial⟩),⟨⟨rfl,.refl _,rfl⟩,trivial⟩,rfl,rfl,rpq rfl rfl⟩
    ·refine g' [0] ((ih0 _ _ hx5).ok) rfl rfl rfl rfl rfl rfl (n' ?_)
     refine C0.step rfl (j0:=1) (js:=[]) (by kernel_rfl) ⟨⟨_,rfl,?_⟩,trivial⟩
     refine e' rfl ?_
     refine C0.step rfl (j0:=4) (js:=[]) (by kernel_rfl) ⟨⟨_,rfl,?_⟩,trivial⟩
     refine F0.be hC rfl (A0.rows_map [x1.1,x3.1,x5.1]).symm (n' ?_)
     refine C0.step rfl (j0:=5) (js:=[]) (by kernel_rfl) ⟨⟨_,rfl,?_⟩,trivial⟩
     refine e' rfl ?_
     refine C0.step rfl (j0:=6) (js:=[]) (by kernel_rfl) ⟨⟨_,rfl,?_⟩,trivial⟩
     refine F0.s hC rfl (n' (C0.nil (by kernel_rfl) (re' ?_)))
     obtain rfl:=oi' hh
     exact ⟨_,.agg [.d (.int .i64 23),.d (.int .i64 0),.d (.str []),.d (.sl (A0.rows [x1.1,x3.1,x5.1]))],[.row (B0.cells x5.2) 45],rfl,(.aggL ⟨.rfl,.rfl,.rfl,.full,trivial⟩),⟨⟨rfl,.refl _,rfl⟩,trivial⟩,rfl,rfl,rpq rfl rfl⟩
   ·refine e' rfl ?_
    refine C0.step rfl (j0:=0) (js:=[3]) (by kernel_rfl) ⟨⟨_,rfl,?_⟩,⟨_,rfl,?_⟩,trivial⟩
    ·refine e' rfl ?_
     refine C0.step rfl (j0:=3) (js:=[]) (by kernel_rfl) ⟨⟨_,rfl,?_⟩,trivial⟩
     refine g' [0] ((ih0 _ _ hx5).ok) rfl rfl rfl rfl rfl rfl (n' ?_)
     refine C0.step rfl (j0:=4) (js:=[]) (by kernel_rfl) ⟨⟨_,rfl,?_⟩,trivial⟩
     refine F0.be hC rfl (A0.rows_map [x1.1,x3.1,x5.1]).symm (n' ?_)
     refine C0.step rfl (j0:=5) (js:=[]) (by kernel_rfl) ⟨⟨_,rfl,?_⟩,trivial⟩
     refine e' rfl ?_
     refine C0.step rfl (j0:=6) (js:=[]) (by kernel_rfl) ⟨⟨_,rfl,?_⟩,trivial⟩
     refine F0.s hC rfl (n' (C0.nil (by kernel_rfl) (re' ?_)))
     obtain rfl:=oi' hh
     exact ⟨_,.agg [.d (.int .i64 23),.d (.int .i64 0),.d (.str []),.d (.sl (A0.rows [x1.1,x3.1,x5.1]))],[.row (B0.cells x5.2) 45],rfl,(.aggL ⟨.rfl,.rfl,.rfl,.full,trivial⟩),⟨⟨rfl,.refl _,rfl⟩,trivial⟩,rfl,rfl,rpq rfl rfl⟩
    ·refine g' [0] ((ih0 _ _ hx5).ok) rfl rfl rfl rfl rfl rfl (n' ?_)
     refine C0.step rfl (j0:=0) (js:=[]) (by kernel_rfl) ⟨⟨_,rfl,?_⟩,trivial⟩
     refine e' rfl ?_
     refine C0.step rfl (j0:=4) (js:=[]) (by kernel_rfl) ⟨⟨_,rfl,?_⟩,trivial⟩
     refine F0.be hC rfl (A0.rows_map [x1.1,x3.1,x5.1]).symm (n' ?_)
     refine C0.step rfl (j0:=5) (js:=[]) (by kernel_rfl) ⟨⟨_,rfl,?_⟩,trivial⟩
     refine e' rfl ?_
     refine C0.step rfl (j0:=6) (js:=[]) (by kernel_rfl) ⟨⟨_,rfl,?_⟩,trivial⟩
     refine F0.s hC rfl (n' (C0.nil (by kernel_rfl) (re' ?_)))
     obtain rfl:=oi' hh
     exact ⟨_,.agg [.d (.int .i64 23),.d (.int .i64 0),.d (.str []),.d (.sl (A0.rows [x1.1,x3.1,x5.1]))],[.row (B0.cells x5.2) 45],rfl,(.aggL ⟨.rfl,.rfl,.rfl,.full,trivial⟩),⟨⟨rfl,.refl _,rfl⟩,trivial⟩,rfl,rfl,rpq rfl rfl⟩
   ·refine g' [0] ((ih0 _ _ hx5).ok) rfl rfl rfl rfl rfl rfl (n' ?_)
    refine C0.step rfl (j0:=0) (js:=[1]) (by kernel_rfl) ⟨⟨_,rfl,?_⟩,⟨_,rfl,?_⟩,trivial⟩
    ·refine e' rfl ?_
     refine C0.step rfl (j0:=1) (js:=[]) (by kernel_rfl) ⟨⟨_,rfl,?_⟩,trivial⟩
     refine e' rfl ?_
     refine C0.step rfl (j0:=4) (js:=[]) (by kernel_rfl) ⟨⟨_,rfl,?_⟩,trivial⟩
     refine F0.be hC rfl (A0.rows_map [x1.1,x3.1,x5.1]).symm (n' ?_)
     refine C0.step rfl (j0:=5) (js:=[]) (by kernel_rfl) ⟨⟨_,rfl,?_⟩,trivial⟩
     refine e' rfl ?_
     refine C0.step rfl (j0:=6) (js:=[]) (by kernel_rfl) ⟨⟨_,rfl,?_⟩,trivial⟩
     refine F0.s hC rfl (n' (C0.nil (by kernel_rfl) (re' ?_)))
     obtain rfl:=oi' hh
     exact ⟨_,.agg [.d (.int .i64 23),.d (.int .i64 0),.d (.str []),.d (.sl (A0.rows [x1.1,x3.1,x5.1]))],[.row (B0.cells x5.2) 45],rfl,(.aggL ⟨.rfl,.rfl,.rfl,.full,trivial⟩),⟨⟨rfl,.refl _,rfl⟩,trivial⟩,rfl,rfl,rpq rfl rfl⟩
    ·refine e' rfl ?_
     refine C0.step rfl (j0:=0) (js:=[]) (by kernel_rfl) ⟨⟨_,rfl,?_⟩,trivial⟩
     refine e' rfl ?_
     refine C0.step rfl (j0:=4) (js:=[]) (by kernel_rfl) ⟨⟨_,rfl,?_⟩,trivial⟩
     refine F0.be hC rfl (A0.rows_map [x1.1,x3.1,x5.1]).symm (n' ?_)
     refine C0.step rfl (j0:=5) (js:=[]) (by kernel_rfl) ⟨⟨_,rfl,?_⟩,trivial⟩
     refine e' rfl ?_
     refine C0.step rfl (j0:=6) (js:=[]) (by kernel_rfl) ⟨⟨_,rfl,?_⟩,trivial⟩
     refine F0.s hC rfl (n' (C0.nil (by kernel_rfl) (re' ?_)))
     obtain rfl:=oi' hh
     exact ⟨_,.agg [.d (.int .i64 23),.d (.int .i64 0),.d (.str []),.d (.sl (A0.rows [x1.1,x3.1,x5.1]))],[.row (B0.cells x5.2) 45],rfl,(.aggL ⟨.rfl,.rfl,.rfl,.full,trivial⟩),⟨⟨rfl,.refl _,rfl⟩,trivial⟩,rfl,rfl,rpq rfl rfl⟩
 ·intro g2 ih2 parserParser res hh
  refine T2.intro hC Tryd.func15 rfl rfl rfl (s' rfl rfl (F0.n hC rfl (F0.nf hC rfl (n' (p' 4 rfl ?_)))))
  rcases bp' hh with ⟨nn,hx1,⟨⟩⟩ | ⟨x1,hx1,hh⟩
  ·exact gn' [0,1] (ih2 _ _ hx1) rfl rfl rfl rfl rfl (fun hi=>peW ⟨trivial,trivial⟩ rfl hi)
  cases hh
  exact g' [0,1] ((ih2 _ _ hx1).ok) rfl rfl rfl rfl rfl rfl (F0.s hC rfl (n' (re' (rt' rfl rfl rfl))))
 ·intro g3 g4 ih3 ih4 parserParser res hh
  refine T2.intro hC Tryd.func21 rfl rfl rfl (s' rfl rfl (F0.nf hC rfl (n' (p' 1 rfl ?_))))
  rcases bp' hh with ⟨nn,hx1,⟨⟩⟩ | ⟨x1,hx1,hh⟩
  ·exact gn' [0] (ih4 _ _ hx1) rfl rfl rfl rfl rfl (fun hi=>peW ⟨trivial,⟨rfl,.refl _,rfl⟩,trivial⟩ rfl hi)
  exact g' [0] ((ih4 _ _ hx1).ok) rfl rfl rfl rfl rfl rfl (F0.nf hC rfl (F0.s hC rfl (n' (bk' (fw' (ih3 _ _ _ hh) rfl rfl rfl)))))
 ·intro g3 g4 ih3 ih4 o0 o3 res hh
  obtain ⟨x2,hx2,hh⟩:=bs' hh
  refine Z0.unroll (bk' (p' 1 rfl (g' [1,0] (Om hx2) rfl rfl rfl rfl rfl rfl (e' rfl (S' (t' rfl (ci' rfl hh (fun hh=>?_) (fun hh=>?_))))))))
  ·cases hh
   exact p' 1 rfl (F0.s hC rfl (n' (re' (rt' rfl rfl rfl))))
  refine sk' ?_
  rcases bp' hh with ⟨nn,hx3,⟨⟩⟩ | ⟨x3,hx3,hh⟩
  ·refine AEx.drawE hC ?_
   refine C0.step rfl (j0:=0) (js:=[1,2]) (by kernel_rfl) ⟨⟨_,rfl,?_⟩,⟨_,rfl,?_⟩,⟨_,rfl,?_⟩,trivial⟩
   ·refine e' rfl ?_
    refine C0.step rfl (j0:=1) (js:=[2]) (by kernel_rfl) ⟨⟨_,rfl,?_⟩,⟨_,rfl,?_⟩,trivial⟩
    ·refine e' rfl ?_
     refine C0.step rfl (j0:=2) (js:=[]) (by kernel_rfl) ⟨⟨_,rfl,?_⟩,trivial⟩
     refine e' rfl ?_
     refine C0.step rfl (j0:=3) (js:=[]) (by kernel_rfl) ⟨⟨_,rfl,?_⟩,trivial⟩
     exact gn' [0] (ih4 _ _ hx3) rfl rfl rfl rfl rfl (fun hi=>peW ⟨trivial,⟨rfl,.refl _,rfl⟩,trivial⟩ rfl hi)
    ·refine e' rfl ?_
     refine C0.step rfl (j0:=1) (js:=[3]) (by kernel_rfl) ⟨⟨_,rfl,?_⟩,⟨_,rfl,?_⟩,trivial⟩
     ·refine e' rfl ?_
      refine C0.step rfl (j0:=3) (js:=[]) (by kernel_rfl) ⟨⟨_,rfl,?_⟩,trivial⟩
      exact gn' [0] (ih4 _ _ hx3) rfl rfl rfl rfl rfl (fun hi=>peW ⟨trivial,⟨rfl,.refl _,rfl⟩,trivial⟩ rfl hi)
     ·exact gn' [0] (ih4 _ _ hx3) rfl rfl rfl rfl rfl (fun hi=>peW ⟨trivial,⟨rfl,.refl _,rfl⟩,trivial⟩ rfl hi)
   ·refine e' rfl ?_
    refine C0.step rfl (j0:=0) (js:=[2]) (by kernel_rfl) ⟨⟨_,rfl,?_⟩,⟨_,rfl,?_⟩,trivial⟩
    ·refine e' rfl ?_
     refine C0.step rfl (j0:=2) (js:=[]) (by kernel_rfl) ⟨⟨_,rfl,?_⟩,trivial⟩
     refine e' rfl ?_
     refine C0.step rfl (j0:=3) (js:=[]) (by kernel_rfl) ⟨⟨_,rfl,?_⟩,trivial⟩
     exact gn' [0] (ih4 _ _ hx3) rfl rfl rfl rfl rfl (fun hi=>peW ⟨trivial,⟨rfl,.refl _,rfl⟩,trivial⟩ rfl hi)
    ·refine e' rfl ?_
     refine C0.step rfl (j0:=0) (js:=[3]) (by kernel_rfl) ⟨⟨_,rfl,?_⟩,⟨_,rfl,?_⟩,trivial⟩
     ·refine e' rfl ?_
      refine C0.step rfl (j0:=3) (js:=[]) (by kernel_rfl) ⟨⟨_,rfl,?_⟩,trivial⟩
      exact gn' [0] (ih4 _ _ hx3) rfl rfl rfl rfl rfl (fun hi=>peW ⟨trivial,⟨rfl,.refl _,rfl⟩,trivial⟩ rfl hi)
     ·exact gn' [0] (ih4 _ _ hx3) rfl rfl rfl rfl rfl (fun hi=>peW ⟨trivial,⟨rfl,.refl _,rfl⟩,trivial⟩ rfl hi)
   ·refine e' rfl ?_
    refine C0.step rfl (j0:=0) (js:=[1,3]) (by kernel_rfl) ⟨⟨_,rfl,?_⟩,⟨_,rfl,?_⟩,⟨_,rfl,?_⟩,trivial⟩
    ·refine e' rfl ?_
     refine C0.step rfl (j0:=1) (js:=[3]) (by kernel_rfl) ⟨⟨_,rfl,?_⟩,⟨_,rfl,?_⟩,trivial⟩
     ·refine e' rfl ?_
      refine C0.step rfl (j0:=3) (js:=[]) (by kernel_rfl) ⟨⟨_,rfl,?_⟩,trivial⟩
      exact gn' [0] (ih4 _ _ hx3) rfl rfl rfl rfl rfl (fun hi=>peW ⟨trivial,⟨rfl,.refl _,rfl⟩,trivial⟩ rfl hi)
     ·exact gn' [0] (ih4 _ _ hx3) rfl rfl rfl rfl rfl (fun hi=>peW ⟨trivial,⟨rfl,.refl _,rfl⟩,trivial⟩ rfl hi)
    ·refine e' rfl ?_
     refine C0.step rfl (j0:=0) (js:=[3]) (by kernel_rfl) ⟨⟨_,rfl,?_⟩,⟨_,rfl,?_⟩,trivial⟩
     ·refine e' rfl ?_
      refine C0.step rfl (j0:=3) (js:=[]) (by kernel_rfl) ⟨⟨_,rfl,?_⟩,trivial⟩
      exact gn' [0] (ih4 _ _ hx3) rfl rfl rfl rfl rfl (fun hi=>peW ⟨trivial,⟨rfl,.refl _,rfl⟩,trivial⟩ rfl hi)
     ·exact gn' [0] (ih4 _ _ hx3) rfl rfl rfl rfl rfl (fun hi=>peW ⟨trivial,⟨rfl,.refl _,rfl⟩,trivial⟩ rfl hi)
    ·exact gn' [0] (ih4 _ _ hx3) rfl rfl rfl rfl rfl (fun hi=>peW ⟨trivial,⟨rfl,.refl _,rfl⟩,trivial⟩ rfl hi)
  refine AEx.drawE hC ?_
  refine C0.step rfl (j0:=0) (js:=[1,2]) (by kernel_rfl) ⟨⟨_,rfl,?_⟩,⟨_,rfl,?_⟩,⟨_,rfl,?_⟩,trivial⟩
  ·refine e' rfl ?_
   refine C0.step rfl (j0:=1) (js:=[2]) (by kernel_rfl) ⟨⟨_,rfl,?_⟩,⟨_,rfl,?_⟩,trivial⟩
   ·refine e' rfl ?_
    refine C0.step rfl (j0:=2) (js:=[]) (by kernel_rfl) ⟨⟨_,rfl,?_⟩,trivial⟩
    refine e' rfl ?_
    refine C0.step rfl (j0:=3) (js:=[]) (by kernel_rfl) ⟨⟨_,rfl,?_⟩,trivial⟩
    refine g' [0] ((ih4 _ _ hx3).ok) rfl rfl rfl rfl rfl rfl (n' ?_)
    refine C0.step rfl (j0:=4) (js:=[]) (by kernel_rfl) ⟨⟨_,rfl,?_⟩,trivial⟩
    refine F0.be hC rfl (A0.rows_map [o3,x3.1]).symm (n' ?_)
    refine C0.step rfl (j0:=5) (js:=[]) (by kernel_rfl) ⟨⟨_,rfl,?_⟩,trivial⟩
    refine e' rfl ?_
    refine C0.step rfl (j0:=6) (js:=[]) (by kernel_rfl) ⟨⟨_,rfl,?_⟩,trivial⟩
    refine F0.s hC rfl (n' (C0.nil (by kernel_rfl) ?_))
    refine Z0.wk ?_ (ih3 _ _ _ hh)
    exact ⟨⟨⟨.rfl,rfl⟩,⟨.rfl,rfl⟩,⟨.rfl,rfl⟩,⟨.rfl,rfl⟩,trivial⟩,⟨⟨rfl,.refl _,rfl⟩,⟨rfl,.refl _,rfl⟩,⟨rfl,.refl _,rfl⟩,⟨rfl,⟨.rfl,.rfl,.rfl,.full,trivial⟩,rfl⟩,trivial⟩,rfl⟩
   ·refine e' rfl ?_
    refine C0.step rfl (j0:=1) (js:=[3]) (by kernel_rfl) ⟨⟨_,rfl,?_⟩,⟨_,rfl,?_⟩,trivial⟩
    ·refine e' rfl ?_
     refine C0.step rfl (j0:=3) (js:=[]) (by kernel_rfl) ⟨⟨_,rfl,?_⟩,trivial⟩
     refine g' [0] ((ih4 _ _ hx3).ok) rfl rfl rfl rfl rfl rfl (n' ?_)
     refine C0.step rfl (j0:=4) (js:=[]) (by kernel_rfl) ⟨⟨_,rfl,?_⟩,trivial⟩
     refine F0.be hC rfl (A0.rows_map [o3,x3.1]).symm (n' ?_)
     refine C0.step rfl (j0:=5) (js:=[]) (by kernel_rfl) ⟨⟨_,rfl,?_⟩,trivial⟩
     refine e' rfl ?_
     refine C0.step rfl (j0:=6) (js:=[]) (by kernel_rfl) ⟨⟨_,rfl,?_⟩,trivial⟩
     refine F0.s hC rfl (n' (C0.nil (by kernel_rfl) ?_))
     refine Z0.wk ?_ (ih3 _ _ _ hh)
     exact ⟨⟨⟨.rfl,rfl⟩,⟨.rfl,rfl⟩,⟨.rfl,rfl⟩,⟨.rfl,rfl⟩,trivial⟩,⟨⟨rfl,.refl _,rfl⟩,⟨rfl,.refl _,rfl⟩,⟨rfl,.refl _,rfl⟩,⟨rfl,⟨.rfl,.rfl,.rfl,.full,trivial⟩,rfl⟩,trivial⟩,rfl⟩
    ·refine g' [0] ((ih4 _ _ hx3).ok) rfl rfl rfl rfl rfl rfl (n' ?_)
     refine C0.step rfl (j0:=1) (js:=[]) (by kernel_rfl) ⟨⟨_,rfl,?_⟩,trivial⟩
     refine e' rfl ?_
     refine C0.step rfl (j0:=4) (js:=[]) (by kernel_rfl) ⟨⟨_,rfl,?_⟩,trivial⟩
     refine F0.be hC rfl (A0.rows_map [o3,x3.1]).symm (n' ?_)
     refine C0.step rfl (j0:=5) (js:=[]) (by kernel_rfl) ⟨⟨_,rfl,?_⟩,trivial⟩
     refine e' rfl ?_
     refine C0.step rfl (j0:=6) (js:=[]) (by kernel_rfl) ⟨⟨_,rfl,?_⟩,trivial⟩
     refine F0.s hC rfl (n' (C0.nil (by kernel_rfl) ?_))
     refine Z0.wk ?_ (ih3 _ _ _ hh)
     exact ⟨⟨⟨.rfl,rfl⟩,⟨.rfl,rfl⟩,⟨.rfl,rfl⟩,⟨.rfl,rfl⟩,trivial⟩,⟨⟨rfl,.refl _,rfl⟩,⟨rfl,.refl _,rfl⟩,⟨rfl,.refl _,rfl⟩,⟨rfl,⟨.rfl,.rfl,.rfl,.full,trivial⟩,rfl⟩,trivial⟩,rfl⟩
  ·refine e' rfl ?_
   refine C0.step rfl (j0:=0) (js:=[2]) (by kernel_rfl) ⟨⟨_,rfl,?_⟩,⟨_,rfl,?_⟩,trivial⟩
   ·refine e' rfl ?_
    refine C0.step rfl (j0:=2) (js:=[]) (by kernel_rfl) ⟨⟨_,rfl,?_⟩,trivial⟩
    refine e' rfl ?_
    refine C0.step rfl (j0:=3) (js:=[]) (by kernel_rfl) ⟨⟨_,rfl,?_⟩,trivial⟩
    refine g' [0] ((ih4 _ _ hx3).ok) rfl rfl rfl rfl rfl rfl (n' ?_)
    refine C0.step rfl (j0:=4) (js:=[]) (by kernel_rfl) ⟨⟨_,rfl,?_⟩,trivial⟩
    refine F0.be hC rfl (A0.rows_map [o3,x3.1]).symm (n' ?_)
    refine C0.step rfl (j0:=5) (js:=[]) (by kernel_rfl) ⟨⟨_,rfl,?_⟩,trivial⟩
    refine e' rfl ?_
    refine C0.step rfl (j0:=6) (js:=[]) (by kernel_rfl) ⟨⟨_,rfl,?_⟩,trivial⟩
    refine F0.s hC rfl (n' (C0.nil (by kernel_rfl) ?_))
    refine Z0.wk ?_ (ih3 _ _ _ hh)
    exact ⟨⟨⟨.rfl,rfl⟩,⟨.rfl,rfl⟩,⟨.rfl,rfl⟩,⟨.rfl,rfl⟩,trivial⟩,⟨⟨rfl,.refl _,rfl⟩,⟨rfl,.refl _,rfl⟩,⟨rfl,.refl _,rfl⟩,⟨rfl,⟨.rfl,.rfl,.rfl,.full,trivial⟩,rfl⟩,trivial⟩,rfl⟩
   ·refine e' rfl ?_
    refine C0.step rfl (j0:=0) (js:=[3]) (by kernel_rfl) ⟨⟨_,rfl,?_⟩,⟨_,rfl,?_⟩,trivial⟩
    ·refine e' rfl ?_
     refine C0.step rfl (j0:=3) (js:=[]) (by kernel_rfl) ⟨⟨_,rfl,?_⟩,trivial⟩
     refine g' [0] ((ih4 _ _ hx3).ok) rfl rfl rfl rfl rfl rfl (n' ?_)
     refine C0.step rfl (j0:=4) (js:=[]) (by kernel_rfl) ⟨⟨_,rfl,?_⟩,trivial⟩
     refine F0.be hC rfl (A0.rows_map [o3,x3.1]).symm (n' ?_)
     refine C0.step rfl (j0:=5) (js:=[]) (by kernel_rfl) ⟨⟨_,rfl,?_⟩,trivial⟩
     refine e' rfl ?_
     refine C0.step rfl (j0:=6) (js:=[]) (by kernel_rfl) ⟨⟨_,rfl,?_⟩,trivial⟩
     refine F0.s hC rfl (n' (C0.nil (by kernel_rfl) ?_))
     refine Z0.wk ?_ (ih3 _ _ _ hh)
     exact ⟨⟨⟨.rfl,rfl⟩,⟨.rfl,rfl⟩,⟨.rfl,rfl⟩,⟨.rfl,rfl⟩,trivial⟩,⟨⟨rfl,.refl _,rfl⟩,⟨rfl,.refl _,rfl⟩,⟨rfl,.refl _,rfl⟩,⟨rfl,⟨.rfl,.rfl,.rfl,.full,trivial⟩,rfl⟩,trivial⟩,rfl⟩
    ·refine g' [0] ((ih4 _ _ hx3).ok) rfl rfl rfl rfl rfl rfl (n' ?_)
     refine C0.step rfl (j0:=0) (js:=[4]) (by kernel_rfl) ⟨⟨_,rfl,?_⟩,⟨_,rfl,?_⟩,trivial⟩
     ·refine e' rfl ?_
      refine C0.step rfl (j0:=4) (js:=[]) (by kernel_rfl) ⟨⟨_,rfl,?_⟩,trivial⟩
      refine F0.be hC rfl (A0.rows_map [o3,x3.1]).symm (n' ?_)
      refine C0.step rfl (j0:=5) (js:=[]) (by kernel_rfl) ⟨⟨_,rfl,?_⟩,trivial⟩
      refine e' rfl ?_
      refine C0.step rfl (j0:=6) (js:=[]) (by kernel_rfl) ⟨⟨_,rfl,?_⟩,trivial⟩
      refine F0.s hC rfl (n' (C0.nil (by kernel_rfl) ?_))
      refine Z0.wk ?_ (ih3 _ _ _ hh)
      exact ⟨⟨⟨.rfl,rfl⟩,⟨.rfl,rfl⟩,⟨.rfl,rfl⟩,⟨.rfl,rfl⟩,trivial⟩,⟨⟨rfl,.refl _,rfl⟩,⟨rfl,.refl _,rfl⟩,⟨rfl,.refl _,rfl⟩,⟨rfl,⟨.rfl,.rfl,.rfl,.full,trivial⟩,rfl⟩,trivial⟩,rfl⟩
     ·refine F0.be hC rfl (A0.rows_map [o3,x3.1]).symm (n' ?_)
      refine C0.step rfl (j0:=0) (js:=[]) (by kernel_rfl) ⟨⟨_,rfl,?_⟩,trivial⟩
      refine e' rfl ?_
      refine C0.step rfl (j0:=5) (js:=[]) (by kernel_rfl) ⟨⟨_,rfl,?_⟩,trivial⟩
      refine e' rfl ?_
      refine C0.step rfl (j0:=6) (js:=[]) (by kernel_rfl) ⟨⟨_,rfl,?_⟩,trivial⟩
      refine F0.s hC rfl (n' (C0.nil (by kernel_rfl) ?_))
      refine Z0.wk ?_ (ih3 _ _ _ hh)
      exact ⟨⟨⟨.rfl,rfl⟩,⟨.rfl,rfl⟩,⟨.rfl,rfl⟩,⟨.rfl,rfl⟩,trivial⟩,⟨⟨rfl,.refl _,rfl⟩,⟨rfl,.refl _,rfl⟩,⟨rfl,.refl _,rfl⟩,⟨rfl,⟨.rfl,.rfl,.rfl,.full,trivial⟩,rfl⟩,trivial⟩,rfl⟩
  ·refine e' rfl ?_
   refine C0.step rfl (j0:=0) (js:=[1,3]) (by kernel_rfl) ⟨⟨_,rfl,?_⟩,⟨_,rfl,?_⟩,⟨_,rfl,?_⟩,trivial⟩
   ·refine e' rfl ?_
    refine C0.step rfl (j0:=1) (js:=[3]) (by kernel_rfl) ⟨⟨_,rfl,?_⟩,⟨_,rfl,?_⟩,trivial⟩
    ·refine e' rfl ?_
     refine C0.step rfl (j0:=3) (js:=[]) (by kernel_rfl) ⟨⟨_,rfl,?_⟩,trivial⟩
     refine g' [0] ((ih4 _ _ hx3).ok) rfl rfl rfl rfl rfl rfl (n' ?_)
     refine C0.step rfl (j0:=4) (js:=[]) (by kernel_rfl) ⟨⟨_,rfl,?_⟩,trivial⟩
     refine F0.be hC rfl (A0.rows_map [o3,x3.1]).symm (n' ?_)
     refine C0.step rfl (j0:=5) (js:=[]) (by kernel_rfl) ⟨⟨_,rfl,?_⟩,trivial⟩
     refine e' rfl ?_
     refine C0.step rfl (j0:=6) (js:=[]) (by kernel_rfl) ⟨⟨_,rfl,?_⟩,trivial⟩
     refine F0.s hC rfl (n' (C0.nil (by kernel_rfl) ?_))
     refine Z0.wk ?_ (ih3 _ _ _ hh)
     exact ⟨⟨⟨.rfl,rfl⟩,⟨.rfl,rfl⟩,⟨.rfl,rfl⟩,⟨.rfl,rfl⟩,trivial⟩,⟨⟨rfl,.refl _,rfl⟩,⟨rfl,.refl _,rfl⟩,⟨rfl,.refl _,rfl⟩,⟨rfl,⟨.rfl,.rfl,.rfl,.full,trivial⟩,rfl⟩,trivial⟩,rfl⟩
    ·refine g' [0] ((ih4 _ _ hx3).ok) rfl rfl rfl rfl rfl rfl (n' ?_)
     refine C0.step rfl (j0:=1) (js:=[]) (by kernel_rfl) ⟨⟨_,rfl,?_⟩,trivial⟩
     refine e' rfl ?_
     refine C0.step rfl (j0:=4) (js:=[]) (by kernel_rfl) ⟨⟨_,rfl,?_⟩,trivial⟩
     refine F0.be hC rfl (A0.rows_map [o3,x3.1]).symm (n' ?_)
     refine C0.step rfl (j0:=5) (js:=[]) (by kernel_rfl) ⟨⟨_,rfl,?_⟩,trivial⟩
     refine e' rfl ?_
     refine C0.step rfl (j0:=6) (js:=[]) (by kernel_rfl) ⟨⟨_,rfl,?_⟩,trivial⟩
     refine F0.s hC rfl (n' (C0.nil (by kernel_rfl) ?_))
     refine Z0.wk ?_ (ih3 _ _ _ hh)
     exact ⟨⟨⟨.rfl,rfl⟩,⟨.rfl,rfl⟩,⟨.rfl,rfl⟩,⟨.rfl,rfl⟩,trivial⟩,⟨⟨rfl,.refl _,rfl⟩,⟨rfl,.refl _,rfl⟩,⟨rfl,.refl _,rfl⟩,⟨rfl,⟨.rfl,.rfl,.rfl,.full,trivial⟩,rfl⟩,trivial⟩,rfl⟩
   ·refine e' rfl ?_
    refine C0.step rfl (j0:=0) (js:=[3]) (by kernel_rfl) ⟨⟨_,rfl,?_⟩,⟨_,rfl,?_⟩,trivial⟩
    ·refine e' rfl ?_
     refine C0.step rfl (j0:=3) (js:=[]) (by kernel_rfl) ⟨⟨_,rfl,?_⟩,trivial⟩
     refine g' [0] ((ih4 _ _ hx3).ok) rfl rfl rfl rfl rfl rfl (n' ?_)
     refine C0.step rfl (j0:=4) (js:=[]) (by kernel_rfl) ⟨⟨_,rfl,?_⟩,trivial⟩
     refine F0.be hC rfl (A0.rows_map [o3,x3.1]).symm (n' ?_)
     refine C0.step rfl (j0:=5) (js:=[]) (by kernel_rfl) ⟨⟨_,rfl,?_⟩,trivial⟩
     refine e' rfl ?_
     refine C0.step rfl (j0:=6) (js:=[]) (by kernel_rfl) ⟨⟨_,rfl,?_⟩,trivial⟩
     refine F0.s hC rfl (n' (C0.nil (by kernel_rfl) ?_))
     refine Z0.wk ?_ (ih3 _ _ _ hh)
     exact ⟨⟨⟨.rfl,rfl⟩,⟨.rfl,rfl⟩,⟨.rfl,rfl⟩,⟨.rfl,rfl⟩,trivial⟩,⟨⟨rfl,.refl _,rfl⟩,⟨rfl,.refl _,rfl⟩,⟨rfl,.refl _,rfl⟩,⟨rfl,⟨.rfl,.rfl,.rfl,.full,trivial⟩,rfl⟩,trivial⟩,rfl⟩
    ·refine g' [0] ((ih4 _ _ hx3).ok) rfl rfl rfl rfl rfl rfl (n' ?_)
     refine C0.step rfl (j0:=0) (js:=[4]) (by kernel_rfl) ⟨⟨_,rfl,?_⟩,⟨_,rfl,?_⟩,trivial⟩
     ·refine e' rfl ?_
      refine C0.step rfl (j0:=4) (js:=[]) (by kernel_rfl) ⟨⟨_,rfl,?_⟩,trivial⟩
      refine F0.be hC rfl (A0.rows_map [o3,x3.1]).symm (n' ?_)
      refine C0.step rfl (j0:=5) (js:=[]) (by kernel_rfl) ⟨⟨_,rfl,?_⟩,trivial⟩
      refine e' rfl ?_
      refine C0.step rfl (j0:=6) (js:=[]) (by kernel_rfl) ⟨⟨_,rfl,?_⟩,trivial⟩
      refine F0.s hC rfl (n' (C0.nil (by kernel_rfl) ?_))
      refine Z0.wk ?_ (ih3 _ _ _ hh)
      exact ⟨⟨⟨.rfl,rfl⟩,⟨.rfl,rfl⟩,⟨.rfl,rfl⟩,⟨.rfl,rfl⟩,trivial⟩,⟨⟨rfl,.refl _,rfl⟩,⟨rfl,.refl _,rfl⟩,⟨rfl,.refl _,rfl⟩,⟨rfl,⟨.rfl,.rfl,.rfl,.full,trivial⟩,rfl⟩,trivial⟩,rfl⟩
     ·refine F0.be hC rfl (A0.rows_map [o3,x3.1]).symm (n' ?_)
      refine C0.step rfl (j0:=0) (js:=[]) (by kernel_rfl) ⟨⟨_,rfl,?_⟩,trivial⟩
      refine e' rfl ?_
      refine C0.step rfl (j0:=5) (js:=[]) (by kernel_rfl) ⟨⟨_,rfl,?_⟩,trivial⟩
      refine e' rfl ?_
      refine C0.step rfl (j0:=6) (js:=[]) (by kernel_rfl) ⟨⟨_,rfl,?_⟩,trivial⟩
      refine F0.s hC rfl (n' (C0.nil (by kernel_rfl) ?_))
      refine Z0.wk ?_ (ih3 _ _ _ hh)
      exact ⟨⟨⟨.rfl,rfl⟩,⟨.rfl,rfl⟩,⟨.rfl,rfl⟩,⟨.rfl,rfl⟩,trivial⟩,⟨⟨rfl,.refl _,rfl⟩,⟨rfl,.refl _,rfl⟩,⟨rfl,.refl _,rfl⟩,⟨rfl,⟨.rfl,.rfl,.rfl,.full,trivial⟩,rfl⟩,trivial⟩,rfl⟩
   ·refine g' [0] ((ih4 _ _ hx3).ok) rfl rfl rfl rfl rfl rfl (n' ?_)
    refine C0.step rfl (j0:=0) (js:=[1]) (by kernel_rfl) ⟨⟨_,rfl,?_⟩,⟨_,rfl,?_⟩,trivial⟩
    ·refine e' rfl ?_
     refine C0.step rfl (j0:=1) (js:=[]) (by kernel_rfl) ⟨⟨_,rfl,?_⟩,trivial⟩
     refine e' rfl ?_
     refine C0.step rfl (j0:=4) (js:=[]) (by kernel_rfl) ⟨⟨_,rfl,?_⟩,trivial⟩
     refine F0.be hC rfl (A0.rows_map [o3,x3.1]).symm (n' ?_)
     refine C0.step rfl (j0:=5) (js:=[]) (by kernel_rfl) ⟨⟨_,rfl,?_⟩,trivial⟩
     refine e' rfl ?_
     refine C0.step rfl (j0:=6) (js:=[]) (by kernel_rfl) ⟨⟨_,rfl,?_⟩,trivial⟩
     refine F0.s hC rfl (n' (C0.nil (by kernel_rfl) ?_))
     refine Z0.wk ?_ (ih3 _ _ _ hh)
     exact ⟨⟨⟨.rfl,rfl⟩,⟨.rfl,rfl⟩,⟨.rfl,rfl⟩,⟨.rfl,rfl⟩,trivial⟩,⟨⟨rfl,.refl _,rfl⟩,⟨rfl,.refl _,rfl⟩,⟨rfl,.refl _,rfl⟩,⟨rfl,⟨.rfl,.rfl,.rfl,.full,trivial⟩,rfl⟩,trivial⟩,rfl⟩
    ·refine e' rfl ?_
     refine C0.step rfl (j0:=0) (js:=[4]) (by kernel_rfl) ⟨⟨_,rfl,?_⟩,⟨_,rfl,?_⟩,trivial⟩
     ·refine e' rfl ?_
      refine C0.step rfl (j0:=4) (js:=[]) (by kernel_rfl) ⟨⟨_,rfl,?_⟩,trivial⟩
      refine F0.be hC rfl (A0.rows_map [o3,x3.1]).symm (n' ?_)
      refine C0.step rfl (j0:=5) (js:=[]) (by kernel_rfl) ⟨⟨_,rfl,?_⟩,trivial⟩
      refine e' rfl ?_
      refine C0.step rfl (j0:=6) (js:=[]) (by kernel_rfl) ⟨⟨_,rfl,?_⟩,trivial⟩
      refine F0.s hC rfl (n' (C0.nil (by kernel_rfl) ?_))
      refine Z0.wk ?_ (ih3 _ _ _ hh)
      exact ⟨⟨⟨.rfl,rfl⟩,⟨.rfl,rfl⟩,⟨.rfl,rfl⟩,⟨.rfl,rfl⟩,trivial⟩,⟨⟨rfl,.refl _,rfl⟩,⟨rfl,.refl _,rfl⟩,⟨rfl,.refl _,rfl⟩,⟨rfl,⟨.rfl,.rfl,.rfl,.full,trivial⟩,rfl⟩,trivial⟩,rfl⟩
     ·refine F0.be hC rfl (A0.rows_map [o3,x3.1]).symm (n' ?_)
      refine C0.step rfl (j0:=0) (js:=[]) (by kernel_rfl) ⟨⟨_,rfl,?_⟩,trivial⟩
      refine e' rfl ?_
      refine C0.step rfl (j0:=5) (js:=[]) (by kernel_rfl) ⟨⟨_,rfl,?_⟩,trivial⟩
      refine e' rfl ?_
      refine C0.step rfl (j0:=6) (js:=[]) (by kernel_rfl) ⟨⟨_,rfl,?_⟩,trivial⟩
      refine F0.s hC rfl (n' (C0.nil (by kernel_rfl) ?_))
      refine Z0.wk ?_ (ih3 _ _ _ hh)
      exact ⟨⟨⟨.rfl,rfl⟩,⟨.rfl,rfl⟩,⟨.rfl,rfl⟩,⟨.rfl,rfl⟩,trivial⟩,⟨⟨rfl,.refl _,rfl⟩,⟨rfl,.refl _,rfl⟩,⟨rfl,.refl _,rfl⟩,⟨rfl,⟨.rfl,.rfl,.rfl,.full,trivial⟩,rfl⟩,trivial⟩,rfl⟩
 ·intro g5 ih5 parserParser res hh
  refine T2.intro hC Tryd.func22 rfl rfl rfl (s' rfl rfl (F0.n hC rfl (F0.nf hC rfl (n' (p' 4 rfl ?_)))))
  rcases bp' hh with ⟨nn,hx1,⟨⟩⟩ | ⟨x1,hx1,hh⟩
  ·exact gn' [0,1] (ih5 _ _ hx1) rfl rfl rfl rfl rfl (fun hi=>peW ⟨trivial,trivial⟩ rfl hi)
  cases hh
  exact g' [0,1] ((ih5 _ _ hx1).ok) rfl rfl rfl rfl rfl rfl (F0.s hC rfl (n' (re' (rt' rfl rfl rfl))))
 ·intro g6 g7 ih6 ih7 parserParser res hh
  refine T2.intro hC Tryd.func21 rfl rfl rfl (s' rfl rfl (F0.nf hC rfl (n' (p' 1 rfl ?_))))
  rcases bp' hh with ⟨nn,hx1,⟨⟩⟩ | ⟨x1,hx1,hh⟩
  ·exact gn' [0] (ih7 _ _ hx1) rfl rfl rfl rfl rfl (fun hi=>peW ⟨trivial,⟨rfl,.refl _,rfl⟩,trivial⟩ rfl hi)
  exact g' [0] ((ih7 _ _ hx1).ok) rfl rfl rfl rfl rfl rfl (F0.nf hC rfl (F0.s hC rfl (n' (bk' (fw' (ih6 _ _ _ hh) rfl rfl rfl)))))
 ·intro g6 g7 ih6 ih7 o0 o3 res hh
  obtain ⟨x2,hx2,hh⟩:=bs' hh
  refine Z0.unroll (bk' (p' 1 rfl (g' [1,0] (Pl hx2) rfl rfl rfl rfl rfl rfl (e' rfl (S' (t' rfl (ci' rfl hh (fun hh=>?_) (fun hh=>?_))))))))
  ·cases hh
   exact p' 1 rfl (F0.s hC rfl (n' (re' (rt' rfl rfl rfl))))
  refine sk' ?_
  rcases bp' hh with ⟨nn,hx3,⟨⟩⟩ | ⟨x3,hx3,hh⟩
  ·refine AEx.drawE hC ?_
   refine C0.step rfl (j0:=0) (js:=[1,2]) (by kernel_rfl) ⟨⟨_,rfl,?_⟩,⟨_,rfl,?_⟩,⟨_,rfl,?_⟩,trivial⟩
   ·refine e' rfl ?_
    refine C0.step rfl (j0:=1) (js:=[2]) (by kernel_rfl) ⟨⟨_,rfl,?_⟩,⟨_,rfl,?_⟩,trivial⟩
    ·refine e' rfl ?_
     refine C0.step rfl (j0:=2) (js:=[]) (by kernel_rfl) ⟨⟨_,rfl,?_⟩,trivial⟩
     refine e' rfl ?_
     refine C0.step rfl (j0:=3) (js:=[]) (by kernel_rfl) ⟨⟨_,rfl,?_⟩,trivial⟩
     exact gn' [0] (ih7 _ _ hx3) rfl rfl rfl rfl rfl (fun hi=>peW ⟨trivial,⟨rfl,.refl _,rfl⟩,trivial⟩ rfl hi)
    ·refine e' rfl ?_
     refine C0.step rfl (j0:=1) (js:=[3]) (by kernel_rfl) ⟨⟨_,rfl,?_⟩,⟨_,rfl,?_⟩,trivial⟩
     ·refine e' rfl ?_
      refine C0.step rfl (j0:=3) (js:=[]) (by kernel_rfl) ⟨⟨_,rfl,?_⟩,trivial⟩
      exact gn' [0] (ih7 _ _ hx3) rfl rfl rfl rfl rfl (fun hi=>peW ⟨trivial,⟨rfl,.refl _,rfl⟩,trivial⟩ rfl hi)
     ·exact gn' [0] (ih7 _ _ hx3) rfl rfl rfl rfl rfl (fun hi=>peW ⟨trivial,⟨rfl,.refl _,rfl⟩,trivial⟩ rfl hi)
   ·refine e' rfl ?_
    refine C0.step rfl (j0:=0) (js:=[2]) (by kernel_rfl) ⟨⟨_,rfl,?_⟩,⟨_,rfl,?_⟩,trivial⟩
    ·refine e' rfl ?_
     refine C0.step rfl (j0:=2) (js:=[]) (by kernel_rfl) ⟨⟨_,rfl,?_⟩,trivial⟩
     refine e' rfl ?_
     refine C0.step rfl (j0:=3) (js:=[]) (by kernel_rfl) ⟨⟨_,rfl,?_⟩,trivial⟩
     exact gn' [0] (ih7 _ _ hx3) rfl rfl rfl rfl rfl (fun hi=>peW ⟨trivial,⟨rfl,.refl _,rfl⟩,trivial⟩ rfl hi)
    ·refine e' rfl ?_
     refine C0.step rfl (j0:=0) (js:=[3]) (by kernel_rfl) ⟨⟨_,rfl,?_⟩,⟨_,rfl,?_⟩,trivial⟩
     ·refine e' rfl ?_
      refine C0.step rfl (j0:=3) (js:=[]) (by kernel_rfl) ⟨⟨_,rfl,?_⟩,trivial⟩
      exact gn' [0] (ih7 _ _ hx3) rfl rfl rfl rfl rfl (fun hi=>peW ⟨trivial,⟨rfl,.refl _,rfl⟩,trivial⟩ rfl hi)
     ·exact gn' [0] (ih7 _ _ hx3) rfl rfl rfl rfl rfl (fun hi=>peW ⟨trivial,⟨rfl,.refl _,rfl⟩,trivial⟩ rfl hi)
   ·refine e' rfl ?_
    refine C0.step rfl (j0:=0) (js:=[1,3]) (by kernel_rfl) ⟨⟨_,rfl,?_⟩,⟨_,rfl,?_⟩,⟨_,rfl,?_⟩,trivial⟩
    ·refine e' rfl ?_
     refine C0.step rfl (j0:=1) (js:=[3]) (by kernel_rfl) ⟨⟨_,rfl,?_⟩,⟨_,rfl,?_⟩,trivial⟩
     ·refine e' rfl ?_
      refine C0.step rfl (j0:=3) (js:=[]) (by kernel_rfl) ⟨⟨_,rfl,?_⟩,trivial⟩
      exact gn' [0] (ih7 _ _ hx3) rfl rfl rfl rfl rfl (fun hi=>peW ⟨trivial,⟨rfl,.refl _,rfl⟩,trivial⟩ rfl hi)
     ·exact gn' [0] (ih7 _ _ hx3) rfl rfl rfl rfl rfl (fun hi=>peW ⟨trivial,⟨rfl,.refl _,rfl⟩,trivial⟩ rfl hi)
    ·refine e' rfl ?_
     refine C0.step rfl (j0:=0) (js:=[3]) (by kernel_rfl) ⟨⟨_,rfl,?_⟩,⟨_,rfl,?_⟩,trivial⟩
     ·refine e' rfl ?_
      refine C0.step rfl (j0:=3) (js:=[]) (by kernel_rfl) ⟨⟨_,rfl,?_⟩,trivial⟩
      exact gn' [0] (ih7 _ _ hx3) rfl rfl rfl rfl rfl (fun hi=>peW ⟨trivial,⟨rfl,.refl _,rfl⟩,trivial⟩ rfl hi)
     ·exact gn' [0] (ih7 _ _ hx3) rfl rfl rfl rfl rfl (fun hi=>peW ⟨trivial,⟨rfl,.refl _,rfl⟩,trivial⟩ rfl hi)
    ·exact gn' [0] (ih7 _ _ hx3) rfl rfl rfl rfl rfl (fun hi=>peW ⟨trivial,⟨rfl,.refl _,rfl⟩,trivial⟩ rfl hi)
  refine AEx.drawE hC ?_
  refine C0.step rfl (j0:=0) (js:=[1,2]) (by kernel_rfl) ⟨⟨_,rfl,?_⟩,⟨_,rfl,?_⟩,⟨_,rfl,?_⟩,trivial⟩
  ·refine e' rfl ?_
   refine C0.step rfl (j0:=1) (js:=[2]) (by kernel_rfl) ⟨⟨_,rfl,?_⟩,⟨_,rfl,?_⟩,trivial⟩
   ·refine e' rfl ?_
    refine C0.step rfl (j0:=2) (js:=[]) (by kernel_rfl) ⟨⟨_,rfl,?_⟩,trivial⟩
    refine e' rfl ?_
    refine C0.step rfl (j0:=3) (js:=[]) (by kernel_rfl) ⟨⟨_,rfl,?_⟩,trivial⟩
    refine g' [0] ((ih7 _ _ hx3).ok) rfl rfl rfl rfl rfl rfl (n' ?_)
    refine C0.step rfl (j0:=4) (js:=[]) (by kernel_rfl) ⟨⟨_,rfl,?_⟩,trivial⟩
    refine F0.be hC rfl (A0.rows_map [o3,x3.1]).symm (n' ?_)
    refine C0.step rfl (j0:=5) (js:=[]) (by kernel_rfl) ⟨⟨_,rfl,?_⟩,trivial⟩
    refine e' rfl ?_
    refine C0.step rfl (j0:=6) (js:=[]) (by kernel_rfl) ⟨⟨_,rfl,?_⟩,trivial⟩
    refine F0.s hC rfl (n' (C0.nil (by kernel_rfl) ?_))
    refine Z0.wk ?_ (ih6 _ _ _ hh)
    exact ⟨⟨⟨.rfl,rfl⟩,⟨.rfl,rfl⟩,⟨.rfl,rfl⟩,⟨.rfl,rfl⟩,trivial⟩,⟨⟨rfl,.refl _,rfl⟩,⟨rfl,.refl _,rfl⟩,⟨rfl,.refl _,rfl⟩,⟨rfl,⟨.rfl,.rfl,.rfl,.full,trivial⟩,rfl⟩,trivial⟩,rfl⟩
   ·refine e' rfl ?_
    refine C0.step rfl (j0:=1) (js:=[3]) (by kernel_rfl) ⟨⟨_,rfl,?_⟩,⟨_,rfl,?_⟩,trivial⟩
    ·refine e' rfl ?_
     refine C0.step rfl (j0:=3) (js:=[]) (by kernel_rfl) ⟨⟨_,rfl,?_⟩,trivial⟩
     refine g' [0] ((ih7 _ _ hx3).ok) rfl rfl rfl rfl rfl rfl (n' ?_)
     refine C0.step rfl (j0:=4) (js:=[]) (by kernel_rfl) ⟨⟨_,rfl,?_⟩,trivial⟩
     refine F0.be hC rfl (A0.rows_map [o3,x3.1]).symm (n' ?_)
     refine C0.step rfl (j0:=5) (js:=[]) (by kernel_rfl) ⟨⟨_,rfl,?_⟩,trivial⟩
     refine e' rfl ?_
     refine C0.step rfl (j0:=6) (js:=[]) (by kernel_rfl) ⟨⟨_,rfl,?_⟩,trivial⟩
     refine F0.s hC rfl (n' (C0.nil (by kernel_rfl) ?_))
     refine Z0.wk ?_ (ih6 _ _ _ hh)
     exact ⟨⟨⟨.rfl,rfl⟩,⟨.rfl,rfl⟩,⟨.rfl,rfl⟩,⟨.rfl,rfl⟩,trivial⟩,⟨⟨rfl,.refl _,rfl⟩,⟨rfl,.refl _,rfl⟩,⟨rfl,.refl _,rfl⟩,⟨rfl,⟨.rfl,.rfl,.rfl,.full,trivial⟩,rfl⟩,trivial⟩,rfl⟩
    ·refine g' [0] ((ih7 _ _ hx3).ok) rfl rfl rfl rfl rfl rfl (n' ?_)
     refine C0.step rfl (j0:=1) (js:=[]) (by kernel_rfl) ⟨⟨_,rfl,?_⟩,trivial⟩
     refine e' rfl ?_
     refine C0.step rfl (j0:=4) (js:=[]) (by kernel_rfl) ⟨⟨_,rfl,?_⟩,trivial⟩
     refine F0.be hC rfl (A0.rows_map [o3,x3.1]).symm (n' ?_)
     refine C0.step rfl (j0:=5) (js:=[]) (by kernel_rfl) ⟨⟨_,rfl,?_⟩,trivial⟩
     refine e' rfl ?_
     refine C0.step rfl (j0:=6) (js:=[]) (by kernel_rfl) ⟨⟨_,rfl,?_⟩,trivial⟩
     refine F0.s hC rfl (n' (C0.nil (by kernel_rfl) ?_))
     refine Z0.wk ?_ (ih6 _ _ _ hh)
     exact ⟨⟨⟨.rfl,rfl⟩,⟨.rfl,rfl⟩,⟨.rfl,rfl⟩,⟨.rfl,rfl⟩,trivial⟩,⟨⟨rfl,.refl _,rfl⟩,⟨rfl,.refl _,rfl⟩,⟨rfl,.refl _,rfl⟩,⟨rfl,⟨.rfl,.rfl,.rfl,.full,trivial⟩,rfl⟩,trivial⟩,rfl⟩
  ·refine e' rfl ?_
   refine C0.step rfl (j0:=0) (js:=[2]) (by kernel_rfl) ⟨⟨_,rfl,?_⟩,⟨_,rfl,?_⟩,trivial⟩
   ·refine e' rfl ?_
    refine C0.step rfl (j0:=2) (js:=[]) (by kernel_rfl) ⟨⟨_,rfl,?_⟩,trivial⟩
    refine e' rfl ?_
    refine C0.step rfl (j0:=3) (js:=[]) (by kernel_rfl) ⟨⟨_,rfl,?_⟩,trivial⟩
    refine g' [0] ((ih7 _ _ hx3).ok) rfl rfl rfl rfl rfl rfl (n' ?_)
    refine C0.step rfl (j0:=4) (js:=[]) (by kernel_rfl) ⟨⟨_,rfl,?_⟩,trivial⟩
    refine F0.be hC rfl (A0.rows_map [o3,x3.1]).symm (n' ?_)
    refine C0.step rfl (j0:=5) (js:=[]) (by kernel_rfl) ⟨⟨_,rfl,?_⟩,trivial⟩
    refine e' rfl ?_
    refine C0.step rfl (j0:=6) (js:=[]) (by kernel_rfl) ⟨⟨_,rfl,?_⟩,trivial⟩
    refine F0.s hC rfl (n' (C0.nil (by kernel_rfl) ?_))
    refine Z0.wk ?_ (ih6 _ _ _ hh)
    exact ⟨⟨⟨.rfl,rfl⟩,⟨.rfl,rfl⟩,⟨.rfl,rfl⟩,⟨.rfl,rfl⟩,trivial⟩,⟨⟨rfl,.refl _,rfl⟩,⟨rfl,.refl _,rfl⟩,⟨rfl,.refl _,rfl⟩,⟨rfl,⟨.rfl,.rfl,.rfl,.full,trivial⟩,rfl⟩,trivial⟩,rfl⟩
   ·refine e' rfl ?_
    refine C0.step rfl (j0:=0) (js:=[3]) (by kernel_rfl) ⟨⟨_,rfl,?_⟩,⟨_,rfl,?_⟩,trivial⟩
    ·refine e' rfl ?_
     refine C0.step rfl (j0:=3) (js:=[]) (by kernel_rfl) ⟨⟨_,rfl,?_⟩,trivial⟩
     refine g' [0] ((ih7 _ _ hx3).ok) rfl rfl rfl rfl rfl rfl (n' ?_)
     refine C0.step rfl (j0:=4) (js:=[]) (by kernel_rfl) ⟨⟨_,rfl,?_⟩,trivial⟩
     refine F0.be hC rfl (A0.rows_map [o3,x3.1]).symm (n' ?_)
     refine C0.step rfl (j0:=5) (js:=[]) (by kernel_rfl) ⟨⟨_,rfl,?_⟩,trivial⟩
     refine e' rfl ?_
     refine C0.step rfl (j0:=6) (js:=[]) (by kernel_rfl) ⟨⟨_,rfl,?_⟩,trivial⟩
     refine F0.s hC rfl (n' (C0.nil (by kernel_rfl) ?_))
     refine Z0.wk ?_ (ih6 _ _ _ hh)
     exact ⟨⟨⟨.rfl,rfl⟩,⟨.rfl,rfl⟩,⟨.rfl,rfl⟩,⟨.rfl,rfl⟩,trivial⟩,⟨⟨rfl,.refl _,rfl⟩,⟨rfl,.refl _,rfl⟩,⟨rfl,.refl _,rfl⟩,⟨rfl,⟨.rfl,.rfl,.rfl,.full,trivial⟩,rfl⟩,trivial⟩,rfl⟩
    ·refine g' [0] ((ih7 _ _ hx3).ok) rfl rfl rfl rfl rfl rfl (n' ?_)
     refine C0.step rfl (j0:=0) (js:=[4]) (by kernel_rfl) ⟨⟨_,rfl,?_⟩,⟨_,rfl,?_⟩,trivial⟩
     ·refine e' rfl ?_
      refine C0.step rfl (j0:=4) (js:=[]) (by kernel_rfl) ⟨⟨_,rfl,?_⟩,trivial⟩
      refine F0.be hC rfl (A0.rows_map [o3,x3.1]).symm (n' ?_)
      refine C0.step rfl (j0:=5) (js:=[]) (by kernel_rfl) ⟨⟨_,rfl,?_⟩,trivial⟩
      refine e' rfl ?_
      refine C0.step rfl (j0:=6) (js:=[]) (by kernel_rfl) ⟨⟨_,rfl,?_⟩,trivial⟩
      refine F0.s hC rfl (n' (C0.nil (by kernel_rfl) ?_))
      refine Z0.wk ?_ (ih6 _ _ _ hh)
      exact ⟨⟨⟨.rfl,rfl⟩,⟨.rfl,rfl⟩,⟨.rfl,rfl⟩,⟨.rfl,rfl⟩,trivial⟩,⟨⟨rfl,.refl _,rfl⟩,⟨rfl,.refl _,rfl⟩,⟨rfl,.refl _,rfl⟩,⟨rfl,⟨.rfl,.rfl,.rfl,.full,trivial⟩,rfl⟩,trivial⟩,rfl⟩
     ·refine F0.be hC rfl (A0.rows_map [o3,x3.1]).symm (n' ?_)
      refine C0.step rfl (j0:=0) (js:=[]) (by kernel_rfl) ⟨⟨_,rfl,?_⟩,trivial⟩
      refine e' rfl ?_
      refine C0.step rfl (j0:=5) (js:=[]) (by kernel_rfl) ⟨⟨_,rfl,?_⟩,trivial⟩
      refine e' rfl ?_
      refine C0.step rfl (j0:=6) (js:=[]) (by kernel_rfl) ⟨⟨_,rfl,?_⟩,trivial⟩
      refine F0.s hC rfl (n' (C0.nil (by kernel_rfl) ?_))
      refine Z0.wk ?_ (ih6 _ _ _ hh)
      exact ⟨⟨⟨.rfl,rfl⟩,⟨.rfl,rfl⟩,⟨.rfl,rfl⟩,⟨.rfl,rfl⟩,trivial⟩,⟨⟨rfl,.refl _,rfl⟩,⟨rfl,.refl _,rfl⟩,⟨rfl,.refl _,rfl⟩,⟨rfl,⟨.rfl,.rfl,.rfl,.full,trivial⟩,rfl⟩,trivial⟩,rfl⟩
  ·refine e' rfl ?_
   refine C0.step rfl (j0:=0) (js:=[1,3]) (by kernel_rfl) ⟨⟨_,rfl,?_⟩,⟨_,rfl,?_⟩,⟨_,rfl,?_⟩,trivial⟩
   ·refine e' rfl ?_
    refine C0.step rfl (j0:=1) (js:=[3]) (by kernel_rfl) ⟨⟨_,rfl,?_⟩,⟨_,rfl,?_⟩,trivial⟩
    ·refine e' rfl ?_
     refine C0.step rfl (j0:=3) (js:=[]) (by kernel_rfl) ⟨⟨_,rfl,?_⟩,trivial⟩
     refine g' [0] ((ih7 _ _ hx3).ok) rfl rfl rfl rfl rfl rfl (n' ?_)
     refine C0.step rfl (j0:=4) (js:=[]) (by kernel_rfl) ⟨⟨_,rfl,?_⟩,trivial⟩
     refine F0.be hC rfl (A0.rows_map [o3,x3.1]).symm (n' ?_)
     refine C0.step rfl (j0:=5) (js:=[]) (by kernel_rfl) ⟨⟨_,rfl,?_⟩,trivial⟩
     refine e' rfl ?_
     refine C0.step rfl (j0:=6) (js:=[]) (by kernel_rfl) ⟨⟨_,rfl,?_⟩,trivial⟩
     refine F0.s hC rfl (n' (C0.nil (by kernel_rfl) ?_))
     refine Z0.wk ?_ (ih6 _ _ _ hh)
     exact ⟨⟨⟨.rfl,rfl⟩,⟨.rfl,rfl⟩,⟨.rfl,rfl⟩,⟨.rfl,rfl⟩,trivial⟩,⟨⟨rfl,.refl _,rfl⟩,⟨rfl,.refl _,rfl⟩,⟨rfl,.refl _,rfl⟩,⟨rfl,⟨.rfl,.rfl,.rfl,.full,trivial⟩,rfl⟩,trivial⟩,rfl⟩
    ·refine g' [0] ((ih7 _ _ hx3).ok) rfl rfl rfl rfl rfl rfl (n' ?_)
     refine C0.step rfl (j0:=1) (js:=[]) (by kernel_rfl) ⟨⟨_,rfl,?_⟩,trivial⟩
     refine e' rfl ?_
     refine C0.step rfl (j0:=4) (js:=[]) (by kernel_rfl) ⟨⟨_,rfl,?_⟩,trivial⟩
     refine F0.be hC rfl (A0.rows_map [o3,x3.1]).symm (n' ?_)
     refine C0.step rfl (j0:=5) (js:=[]) (by kernel_rfl) ⟨⟨_,rfl,?_⟩,trivial⟩
     refine e' rfl ?_
     refine C0.step rfl (j0:=6) (js:=[]) (by kernel_rfl) ⟨⟨_,rfl,?_⟩,trivial⟩
     refine F0.s hC rfl (n' (C0.nil (by kernel_rfl) ?_))
     refine Z0.wk ?_ (ih6 _ _ _ hh)
     exact ⟨⟨⟨.rfl,rfl⟩,⟨.rfl,rfl⟩,⟨.rfl,rfl⟩,⟨.rfl,rfl⟩,trivial⟩,⟨⟨rfl,.refl _,rfl⟩,⟨rfl,.refl _,rfl⟩,⟨rfl,.refl _,rfl⟩,⟨rfl,⟨.rfl,.rfl,.rfl,.full,trivial⟩,rfl⟩,trivial⟩,rfl⟩
   ·refine e' rfl ?_
    refine C0.step rfl (j0:=0) (js:=[3]) (by kernel_rfl) ⟨⟨_,rfl,?_⟩,⟨_,rfl,?_⟩,trivial⟩
    ·refine e' rfl ?_
     refine C0.step rfl (j0:=3) (js:=[]) (by kernel_rfl) ⟨⟨_,rfl,?_⟩,trivial⟩
     refine g' [0] ((ih7 _ _ hx3).ok) rfl rfl rfl rfl rfl rfl (n' ?_)
     refine C0.step rfl (j0:=4) (js:=[]) (by kernel_rfl) ⟨⟨_,rfl,?_⟩,trivial⟩
     refine F0.be hC rfl (A0.rows_map [o3,x3.1]).symm (n' ?_)
     refine C0.step rfl (j0:=5) (js:=[]) (by kernel_rfl) ⟨⟨_,rfl,?_⟩,trivial⟩
     refine e' rfl ?_
     refine C0.step rfl (j0:=6) (js:=[]) (by kernel_rfl) ⟨⟨_,rfl,?_⟩,trivial⟩
     refine F0.s hC rfl (n' (C0.nil (by kernel_rfl) ?_))
     refine Z0.wk ?_ (ih6 _ _ _ hh)
     exact ⟨⟨⟨.rfl,rfl⟩,⟨.rfl,rfl⟩,⟨.rfl,rfl⟩,⟨.rfl,rfl⟩,trivial⟩,⟨⟨rfl,.refl _,rfl⟩,⟨rfl,.refl _,rfl⟩,⟨rfl,.refl _,rfl⟩,⟨rfl,⟨.rfl,.rfl,.rfl,.full,trivial⟩,rfl⟩,trivial⟩,rfl⟩
    ·refine g' [0] ((ih7 _ _ hx3).ok) rfl rfl rfl rfl rfl rfl (n' ?_)
     refine C0.step rfl (j0:=0) (js:=[4]) (by kernel_rfl) ⟨⟨_,rfl,?_⟩,⟨_,rfl,?_⟩,trivial⟩
     ·refine e' rfl ?_
      refine C0.step rfl (j0:=4) (js:=[]) (by kernel_rfl) ⟨⟨_,rfl,?_⟩,trivial⟩
      refine F0.be hC rfl (A0.rows_map [o3,x3.1]).symm (n' ?_)
      refine C0.step rfl (j0:=5) (js:=[]) (by kernel_rfl) ⟨⟨_,rfl,?_⟩,trivial⟩
      refine e' rfl ?_
      refine C0.step rfl (j0:=6) (js:=[]) (by kernel_rfl) ⟨⟨_,rfl,?_⟩,trivial⟩
      refine F0.s hC rfl (n' (C0.nil (by kernel_rfl) ?_))
      refine Z0.wk ?_ (ih6 _ _ _ hh)
      exact ⟨⟨⟨.rfl,rfl⟩,⟨.rfl,rfl⟩,⟨.rfl,rfl⟩,⟨.rfl,rfl⟩,trivial⟩,⟨⟨rfl,.refl _,rfl⟩,⟨rfl,.refl _,rfl⟩,⟨rfl,.refl _,rfl⟩,⟨rfl,⟨.rfl,.rfl,.rfl,.full,trivial⟩,rfl⟩,trivial⟩,rfl⟩
     ·refine F0.be hC rfl (A0.rows_map [o3,x3.1]).symm (n' ?_)
      refine C0.step rfl (j0:=0) (js:=[]) (by kernel_rfl) ⟨⟨_,rfl,?_⟩,trivial⟩
      refine e' rfl ?_
      refine C0.step rfl (j0:=5) (js:=[]) (by kernel_rfl) ⟨⟨_,rfl,?_⟩,trivial⟩
      refine e' rfl ?_
      refine C0.step rfl (j0:=6) (js:=[]) (by kernel_rfl) ⟨⟨_,rfl,?_⟩,trivial⟩
      refine F0.s hC rfl (n' (C0.nil (by kernel_rfl) ?_))
      refine Z0.wk ?_ (ih6 _ _ _ hh)
      exact ⟨⟨⟨.rfl,rfl⟩,⟨.rfl,rfl⟩,⟨.rfl,rfl⟩,⟨.rfl,rfl⟩,trivial⟩,⟨⟨rfl,.refl _,rfl⟩,⟨rfl,.refl _,rfl⟩,⟨rfl,.refl _,rfl⟩,⟨rfl,⟨.rfl,.rfl,.rfl,.full,trivial⟩,rfl⟩,trivial⟩,rfl⟩
   ·refine g' [0] ((ih7 _ _ hx3).ok) rfl rfl rfl rfl rfl rfl (n' ?_)
    refine C0.step rfl (j0:=0) (js:=[1]) (by kernel_rfl) ⟨⟨_,rfl,?_⟩,⟨_,rfl,?_⟩,trivial⟩
    ·refine e' rfl ?_
     refine C0.step rfl (j0:=1) (js:=[]) (by kernel_rfl) ⟨⟨_,rfl,?_⟩,trivial⟩
     refine e' rfl ?_
     refine C0.step rfl (j0:=4) (js:=[]) (by kernel_rfl) ⟨⟨_,rfl,?_⟩,trivial⟩
     refine F0.be hC rfl (A0.rows_map [o3,x3.1]).symm (n' ?_)
     refine C0.step rfl (j0:=5) (js:=[]) (by kernel_rfl) ⟨⟨_,rfl,?_⟩,trivial⟩
     refine e' rfl ?_
     refine C0.step rfl (j0:=6) (js:=[]) (by kernel_rfl) ⟨⟨_,rfl,?_⟩,trivial⟩
     refine F0.s hC rfl (n' (C0.nil (by kernel_rfl) ?_))
     refine Z0.wk ?_ (ih6 _ _ _ hh)
     exact ⟨⟨⟨.rfl,rfl⟩,⟨.rfl,rfl⟩,⟨.rfl,rfl⟩,⟨.rfl,rfl⟩,trivial⟩,⟨⟨rfl,.refl _,rfl⟩,⟨rfl,.refl _,rfl⟩,⟨rfl,.refl _,rfl⟩,⟨rfl,⟨.rfl,.rfl,.rfl,.full,trivial⟩,rfl⟩,trivial⟩,rfl⟩
    ·refine e' rfl ?_
     refine C0.step rfl (j0:=0) (js:=[4]) (by kernel_rfl) ⟨⟨_,rfl,?_⟩,⟨_,rfl,?_⟩,trivial⟩
     ·refine e' rfl ?_
      refine C0.step rfl (j0:=4) (js:=[]) (by kernel_rfl) ⟨⟨_,rfl,?_⟩,trivial⟩
      refine F0.be hC rfl (A0.rows_map [o3,x3.1]).symm (n' ?_)
      refine C0.step rfl (j0:=5) (js:=[]) (by kernel_rfl) ⟨⟨_,rfl,?_⟩,trivial⟩
      refine e' rfl ?_
      refine C0.step rfl (j0:=6) (js:=[]) (by kernel_rfl) ⟨⟨_,rfl,?_⟩,trivial⟩
      refine F0.s hC rfl (n' (C0.nil (by kernel_rfl) ?_))
      refine Z0.wk ?_ (ih6 _ _ _ hh)
      exact ⟨⟨⟨.rfl,rfl⟩,⟨.rfl,rfl⟩,⟨.rfl,rfl⟩,⟨.rfl,rfl⟩,trivial⟩,⟨⟨rfl,.refl _,rfl⟩,⟨rfl,.refl _,rfl⟩,⟨rfl,.refl _,rfl⟩,⟨rfl,⟨.rfl,.rfl,.rfl,.full,trivial⟩,rfl⟩,trivial⟩,rfl⟩
     ·refine F0.be hC rfl (A0.rows_map [o3,x3.1]).symm (n' ?_)
      refine C0.step rfl (j0:=0) (js:=[]) (by kernel_rfl) ⟨⟨_,rfl,?_⟩,trivial⟩
      refine e' rfl ?_
      refine C0.step rfl (j0:=5) (js:=[]) (by kernel_rfl) ⟨⟨_,rfl,?_⟩,trivial⟩
      refine e' rfl ?_
      refine C0.step rfl (j0:=6) (js:=[]) (by kernel_rfl) ⟨⟨_,rfl,?_⟩,trivial⟩
      refine F0.s hC rfl (n' (C0.nil (by kernel_rfl) ?_))
      refine Z0.wk ?_ (ih6 _ _ _ hh)
      exact ⟨⟨⟨.rfl,rfl⟩,⟨.rfl,rfl⟩,⟨.rfl,rfl⟩,⟨.rfl,rfl⟩,trivial⟩,⟨⟨rfl,.refl _,rfl⟩,⟨rfl,.refl _,rfl⟩,⟨rfl,.refl _,rfl⟩,⟨rfl,⟨.rfl,.rfl,.rfl,.full,trivial⟩,rfl⟩,trivial⟩,rfl⟩
 ·intro g8 g9 ih8 ih9 parserParser res hh
  refine T2.intro hC Tryd.func38 rfl rfl rfl (s' rfl rfl (F0.nf hC rfl (n' (p' 1 rfl ?_))))
  rcases bp' hh with ⟨nn,hx1,⟨⟩⟩ | ⟨x1,hx1,hh⟩
  ·exact gn' [0] (ih9 _ _ hx1) rfl rfl rfl rfl rfl (fun hi=>peW ⟨trivial,trivial⟩ rfl hi)
  obtain ⟨x2,hx2,hh⟩:=bs' hh
  refine g' [0] ((ih9 _ _ hx1).ok) rfl rfl rfl rfl rfl rfl (F0.nf hC rfl (F0.s hC rfl (n' (t' rfl (S' (bk' (p' 1 rfl (g' [0] (W0 hx2) rfl rfl rfl rfl rfl rfl (e' rfl (ci' rfl hh (fun hh=>?_) (fun hh=>?_)))))))))))
  ·exact sk' (ew' (ih8 _ _ _ _ hh) rfl rfl rfl)
  obtain ⟨x4,hx4,hh⟩:=bs' hh
  refine p' 1 rfl (g' [0] (W0 hx4) rfl rfl rfl rfl rfl rfl (e' rfl (ci' rfl hh (fun hh=>?_) (fun hh=>?_))))
  ·exact T' rfl (ew' (ih8 _ _ _ _ hh) rfl rfl rfl)
  obtain ⟨x5,hx5,hh⟩:=bs' hh
  refine p' 1 rfl (g' [0] (W0 hx5) rfl rfl rfl rfl rfl rfl (e' rfl (ci' rfl hh (fun hh=>?_) (fun hh=>?_))))
  ·exact T' rfl (ew' (ih8 _ _ _ _ hh) rfl rfl rfl)
  obtain ⟨x6,hx6,hh⟩:=bs' hh
  refine p' 1 rfl (g' [0] (W0 hx6) rfl rfl rfl rfl rfl rfl (e' rfl (ci' rfl hh (fun hh=>?_) (fun hh=>?_))))
  ·exact T' rfl (ew' (ih8 _ _ _ _ hh) rfl rfl rfl)
  obtain ⟨x7,hx7,hh⟩:=bs' hh
  refine p' 1 rfl (g' [0] (W0 hx7) rfl rfl rfl rfl rfl rfl (e' rfl (ci' rfl hh (fun hh=>?_) (fun hh=>?_))))
  ·exact T' rfl (ew' (ih8 _ _ _ _ hh) rfl rfl rfl)
  obtain ⟨x8,hx8,hh⟩:=bs' hh
  refine p' 1 rfl (g' [0] (W0 hx8) rfl rfl rfl rfl rfl rfl (e' rfl (ci' rfl hh (fun hh=>?_) (fun hh=>?_))))
  ·exact T' rfl (ew' (ih8 _ _ _ _ hh) rfl rfl rfl)
  cases hh
  exact p' 1 rfl (F0.s hC rfl (n' (re' (rt' rfl rfl rfl))))
 ·intro g9 ih9 o0 x1 op res hh
  refine S' ?_
  rcases bp' hh with ⟨nn,hx3,⟨⟩⟩ | ⟨x3,hx3,hh⟩
  ·refine AEx.drawE hC ?_
   refine C0.step rfl (j0:=0) (js:=[1,2]) (by kernel_rfl) ⟨⟨_,rfl,?_⟩,⟨_,rfl,?_⟩,⟨_,rfl,?_⟩,trivial⟩
   ·refine e' rfl ?_
    refine C0.step rfl (j0:=1) (js:=[2]) (by kernel_rfl) ⟨⟨_,rfl,?_⟩,⟨_,rfl,?_⟩,trivial⟩
    ·refine e' rfl ?_
     refine C0.step rfl (j0:=2) (js:=[]) (by kernel_rfl) ⟨⟨_,rfl,?_⟩,trivial⟩
     refine e' rfl ?_
     refine C0.step rfl (j0:=3) (js:=[]) (by kernel_rfl) ⟨⟨_,rfl,?_⟩,trivial⟩
     exact gn' [0] (ih9 _ _ hx3) rfl rfl rfl rfl rfl (fun hi=>peW ⟨trivial,trivial⟩ rfl hi)
    ·refine e' rfl ?_
     refine C0.step rfl (j0:=1) (js:=[3]) (by kernel_rfl) ⟨⟨_,rfl,?_⟩,⟨_,rfl,?_⟩,trivial⟩
     ·refine e' rfl ?_
      refine C0.step rfl (j0:=3) (js:=[]) (by kernel_rfl) ⟨⟨_,rfl,?_⟩,trivial⟩
      exact gn' [0] (ih9 _ _ hx3) rfl rfl rfl rfl rfl (fun hi=>peW ⟨trivial,trivial⟩ rfl hi)
     ·exact gn' [0] (ih9 _ _ hx3) rfl rfl rfl rfl rfl (fun hi=>peW ⟨trivial,trivial⟩ rfl hi)
   ·refine e' rfl ?_
    refine C0.step rfl (j0:=0) (js:=[2]) (by kernel_rfl) ⟨⟨_,rfl,?_⟩,⟨_,rfl,?_⟩,trivial⟩
    ·refine e' rfl ?_
     refine C0.step rfl (j0:=2) (js:=[]) (by kernel_rfl) ⟨⟨_,rfl,?_⟩,trivial⟩
     refine e' rfl ?_
     refine C0.step rfl (j0:=3) (js:=[]) (by kernel_rfl) ⟨⟨_,rfl,?_⟩,trivial⟩
     exact gn' [0] (ih9 _ _ hx3) rfl rfl rfl rfl rfl (fun hi=>peW ⟨trivial,trivial⟩ rfl hi)
    ·refine e' rfl ?_
     refine C0.step rfl (j0:=0) (js:=[3]) (by kernel_rfl) ⟨⟨_,rfl,?_⟩,⟨_,rfl,?_⟩,trivial⟩
     ·refine e' rfl ?_
      refine C0.step rfl (j0:=3) (js:=[]) (by kernel_rfl) ⟨⟨_,rfl,?_⟩,trivial⟩
      exact gn' [0] (ih9 _ _ hx3) rfl rfl rfl rfl rfl (fun hi=>peW ⟨trivial,trivial⟩ rfl hi)
     ·exact gn' [0] (ih9 _ _ hx3) rfl rfl rfl rfl rfl (fun hi=>peW ⟨trivial,trivial⟩ rfl hi)
   ·refine e' rfl ?_
    refine C0.step rfl (j0:=0) (js:=[1,3]) (by kernel_rfl) ⟨⟨_,rfl,?_⟩,⟨_,rfl,?_⟩,⟨_,rfl,?_⟩,trivial⟩
    ·refine e' rfl ?_
     refine C0.step rfl (j0:=1) (js:=[3]) (by kernel_rfl) ⟨⟨_,rfl,?_⟩,⟨_,rfl,?_⟩,trivial⟩
     ·refine e' rfl ?_
      refine C0.step rfl (j0:=3) (js:=[]) (by kernel_rfl) ⟨⟨_,rfl,?_⟩,trivial⟩
      exact gn' [0] (ih9 _ _ hx3) rfl rfl rfl rfl rfl (fun hi=>peW ⟨trivial,trivial⟩ rfl hi)
     ·exact gn' [0] (ih9 _ _ hx3) rfl rfl rfl rfl rfl (fun hi=>peW ⟨trivial,trivial⟩ rfl hi)
    ·refine e' rfl ?_
     refine C0.step rfl (j0:=0) (js:=[3]) (by kernel_rfl) ⟨⟨_,rfl,?_⟩,⟨_,rfl,?_⟩,trivial⟩
     ·refine e' rfl ?_
      refine C0.step rfl (j0:=3) (js:=[]) (by kernel_rfl) ⟨⟨_,rfl,?_⟩,trivial⟩
      exact gn' [0] (ih9 _ _ hx3) rfl rfl rfl rfl rfl (fun hi=>peW ⟨trivial,trivial⟩ rfl hi)
     ·exact gn' [0] (ih9 _ _ hx3) rfl rfl rfl rfl rfl (fun hi=>peW ⟨trivial,trivial⟩ rfl hi)
    ·exact gn' [0] (ih9 _ _ hx3) rfl rfl rfl rfl rfl (fun hi=>peW ⟨trivial,trivial⟩ rfl hi)
  refine AEx.drawE hC ?_
  refine C0.step rfl (j0:=0) (js:=[1,2]) (by kernel_rfl) ⟨⟨_,rfl,?_⟩,⟨_,rfl,?_⟩,⟨_,rfl,?_⟩,trivial⟩
  ·refine e' rfl ?_
   refine C0.step rfl (j0:=1) (js:=[2]) (by kernel_rfl) ⟨⟨_,rfl,?_⟩,⟨_,rfl,?_⟩,trivial⟩
   ·refine e' rfl ?_
    refine C0.step rfl (j0:=2) (js:=[]) (by kernel_rfl) ⟨⟨_,rfl,?_⟩,trivial⟩
    refine e' rfl ?_
    refine C0.step rfl (j0:=3) (js:=[]) (by kernel_rfl) ⟨⟨_,rfl,?_⟩,trivial⟩
    refine g' [0] ((ih9 _ _ hx3).ok) rfl rfl rfl rfl rfl rfl (n' ?_)
    refine C0.step rfl (j0:=4) (js:=[]) (by kernel_rfl) ⟨⟨_,rfl,?_⟩,trivial⟩
    refine F0.be hC rfl (A0.rows_map [x1.1,x3.1]).symm (n' ?_)
    refine C0.step rfl (j0:=5) (js:=[]) (by kernel_rfl) ⟨⟨_,rfl,?_⟩,trivial⟩
    refine e' rfl ?_
    refine C0.step rfl (j0:=6) (js:=[]) (by kernel_rfl) ⟨⟨_,rfl,?_⟩,trivial⟩
    refine F0.s hC rfl (n' (C0.nil (by kernel_rfl) (re' ?_)))
    obtain rfl:=oi' hh
    exact ⟨_,.agg [.d (.int .i64 op),.d (.int .i64 0),.d (.str []),.d (.sl (A0.rows [x1.1,x3.1]))],[.row (B0.cells x3.2) 45],rfl,(.aggL ⟨.rfl,.rfl,.rfl,.full,trivial⟩),⟨⟨rfl,.refl _,rfl⟩,trivial⟩,rfl,rfl,rpq rfl rfl⟩
   ·refine e' rfl ?_
    refine C0.step rfl (j0:=1) (js:=[3]) (by kernel_rfl) ⟨⟨_,rfl,?_⟩,⟨_,rfl,?_⟩,trivial⟩
    ·refine e' rfl ?_
     refine C0.step rfl (j0:=3) (js:=[]) (by kernel_rfl) ⟨⟨_,rfl,?_⟩,trivial⟩
     refine g' [0] ((ih9 _ _ hx3).ok) rfl rfl rfl rfl rfl rfl (n' ?_)
     refine C0.step rfl (j0:=4) (js:=[]) (by kernel_rfl) ⟨⟨_,rfl,?_⟩,trivial⟩
     refine F0.be hC rfl (A0.rows_map [x1.1,x3.1]).symm (n' ?_)
     refine C0.step rfl (j0:=5) (js:=[]) (by kernel_rfl) ⟨⟨_,rfl,?_⟩,trivial⟩
     refine e' rfl ?_
     refine C0.step rfl (j0:=6) (js:=[]) (by kernel_rfl) ⟨⟨_,rfl,?_⟩,trivial⟩
     refine F0.s hC rfl (n' (C0.nil (by kernel_rfl) (re' ?_)))
     obtain rfl:=oi' hh
     exact ⟨_,.agg [.d (.int .i64 op),.d (.int .i64 0),.d (.str []),.d (.sl (A0.rows [x1.1,x3.1]))],[.row (B0.cells x3.2) 45],rfl,(.aggL ⟨.rfl,.rfl,.rfl,.full,trivial⟩),⟨⟨rfl,.refl _,rfl⟩,trivial⟩,rfl,rfl,rpq rfl rfl⟩
    ·refine g' [0] ((ih9 _ _ hx3).ok) rfl rfl rfl rfl rfl rfl (n' ?_)
     refine C0.step rfl (j0:=1) (js:=[]) (by kernel_rfl) ⟨⟨_,rfl,?_⟩,trivial⟩
     refine e' rfl ?_
     refine C0.step rfl (j0:=4) (js:=[]) (by kernel_rfl) ⟨⟨_,rfl,?_⟩,trivial⟩
     refine F0.be hC rfl (A0.rows_map [x1.1,x3.1]).symm (n' ?_)
     refine C0.step rfl (j0:=5) (js:=[]) (by kernel_rfl) ⟨⟨_,rfl,?_⟩,trivial⟩
     refine e' rfl ?_
     refine C0.step rfl (j0:=6) (js:=[]) (by kernel_rfl) ⟨⟨_,rfl,?_⟩,trivial⟩
     refine F0.s hC rfl (n' (C0.nil (by kernel_rfl) (re' ?_)))
     obtain rfl:=oi' hh
     exact ⟨_,.agg [.d (.int .i64 op),.d (.int .i64 0),.d (.str []),.d (.sl (A0.rows [x1.1,x3.1]))],[.row (B0.cells x3.2) 45],rfl,(.aggL ⟨.rfl,.rfl,.rfl,.full,trivial⟩),⟨⟨rfl,.refl _,rfl⟩,trivial⟩,rfl,rfl,rpq rfl rfl⟩
  ·refine e' rfl ?_
   refine C0.step rfl (j0:=0) (js:=[2]) (by kernel_rfl) ⟨⟨_,rfl,?_⟩,⟨_,rfl,?_⟩,trivial⟩
   ·refine e' rfl ?_
    refine C0.step rfl (j0:=2) (js:=[]) (by kernel_rfl) ⟨⟨_,rfl,?_⟩,trivial⟩
    refine e' rfl ?_
    refine C0.step rfl (j0:=3) (js:=[]) (by kernel_rfl) ⟨⟨_,rfl,?_⟩,trivial⟩
    refine g' [0] ((ih9 _ _ hx3).ok) rfl rfl rfl rfl rfl rfl (n' ?_)
    refine C0.step rfl (j0:=4) (js:=[]) (by kernel_rfl) ⟨⟨_,rfl,?_⟩,trivial⟩
    refine F0.be hC rfl (A0.rows_map [x1.1,x3.1]).symm (n' ?_)
    refine C0.step rfl (j0:=5) (js:=[]) (by kernel_rfl) ⟨⟨_,rfl,?_⟩,trivial⟩
    refine e' rfl ?_
    refine C0.step rfl (j0:=6) (js:=[]) (by kernel_rfl) ⟨⟨_,rfl,?_⟩,trivial⟩
    refine F0.s hC rfl (n' (C0.nil (by kernel_rfl) (re' ?_)))
    obtain rfl:=oi' hh
    exact ⟨_,.agg [.d (.int .i64 op),.d (.int .i64 0),.d (.str []),.d (.sl (A0.rows [x1.1,x3.1]))],[.row (B0.cells x3.2) 45],rfl,(.aggL ⟨.rfl,.rfl,.rfl,.full,trivial⟩),⟨⟨rfl,.refl _,rfl⟩,trivial⟩,rfl,rfl,rpq rfl rfl⟩
   ·refine e' rfl ?_
    refine C0.step rfl (j0:=0) (js:=[3]) (by kernel_rfl) ⟨⟨_,rfl,?_⟩,⟨_,rfl,?_⟩,trivial⟩
    ·refine e' rfl ?_
     refine C0.step rfl (j0:=3) (js:=[]) (by kernel_rfl) ⟨⟨_,rfl,?_⟩,trivial⟩
     refine g' [0] ((ih9 _ _ hx3).ok) rfl rfl rfl rfl rfl rfl (n' ?_)
     refine C0.step rfl (j0:=4) (js:=[]) (by kernel_rfl) ⟨⟨_,rfl,?_⟩,trivial⟩
     refine F0.be hC rfl (A0.rows_map [x1.1,x3.1]).symm (n' ?_)
     refine C0.step rfl (j0:=5) (js:=[]) (by kernel_rfl) ⟨⟨_,rfl,?_⟩,trivial⟩
     refine e' rfl ?_
     refine C0.step rfl (j0:=6) (js:=[]) (by kernel_rfl) ⟨⟨_,rfl,?_⟩,trivial⟩
     refine F0.s hC rfl (n' (C0.nil (by kernel_rfl) (re' ?_)))
     obtain rfl:=oi' hh
     exact ⟨_,.agg [.d (.int .i64 op),.d (.int .i64 0),.d (.str []),.d (.sl (A0.rows [x1.1,x3.1]))],[.row (B0.cells x3.2) 45],rfl,(.aggL ⟨.rfl,.rfl,.rfl,.full,trivial⟩),⟨⟨rfl,.refl _,rfl⟩,trivial⟩,rfl,rfl,rpq rfl rfl⟩
    ·refine g' [0] ((ih9 _ _ hx3).ok) rfl rfl rfl rfl rfl rfl (n' ?_)
     refine C0.step rfl (j0:=0) (js:=[4]) (by kernel_rfl) ⟨⟨_,rfl,?_⟩,⟨_,rfl,?_⟩,trivial⟩
     ·refine e' rfl ?_
      refine C0.step rfl (j0:=4) (js:=[]) (by kernel_rfl) ⟨⟨_,rfl,?_⟩,trivial⟩
      refine F0.be hC rfl (A0.rows_map [x1.1,x3.1]).symm (n' ?_)
      refine C0.step rfl (j0:=5) (js:=[]) (by kernel_rfl) ⟨⟨_,rfl,?_⟩,trivial⟩
      refine e' rfl ?_
      refine C0.step rfl (j0:=6) (js:=[]) (by kernel_rfl) ⟨⟨_,rfl,?_⟩,trivial⟩
      refine F0.s hC rfl (n' (C0.nil (by kernel_rfl) (re' ?_)))
      obtain rfl:=oi' hh
      exact ⟨_,.agg [.d (.int .i64 op),.d (.int .i64 0),.d (.str []),.d (.sl (A0.rows [x1.1,x3.1]))],[.row (B0.cells x3.2) 45],rfl,(.aggL ⟨.rfl,.rfl,.rfl,.full,trivial⟩),⟨⟨rfl,.refl _,rfl⟩,trivial⟩,rfl,rfl,rpq rfl rfl⟩
     ·refine F0.be hC rfl (A0.rows_map [x1.1,x3.1]).symm (n' ?_)
      refine C0.step rfl (j0:=0) (js:=[]) (by kernel_rfl) ⟨⟨_,rfl,?_⟩,trivial⟩
      refine e' rfl ?_
      refine C0.step rfl (j0:=5) (js:=[]) (by kernel_rfl) ⟨⟨_,rfl,?_⟩,trivial⟩
      refine e' rfl ?_
      refine C0.step rfl (j0:=6) (js:=[]) (by kernel_rfl) ⟨⟨_,rfl,?_⟩,trivial⟩
      refine F0.s hC rfl (n' (C0.nil (by kernel_rfl) (re' ?_)))
      obtain rfl:=oi' hh
      exact ⟨_,.agg [.d (.int .i64 op),.d (.int .i64 0),.d (.str []),.d (.sl (A0.rows [x1.1,x3.1]))],[.row (B0.cells x3.2) 45],rfl,(.aggL ⟨.rfl,.rfl,.rfl,.full,trivial⟩),⟨⟨rfl,.refl _,rfl⟩,trivial⟩,rfl,rfl,rpq rfl rfl⟩
  ·refine e' rfl ?_
   refine C0.step rfl (j0:=0) (js:=[1,3]) (by kernel_rfl) ⟨⟨_,rfl,?_⟩,⟨_,rfl,?_⟩,⟨_,rfl,?_⟩,trivial⟩
   ·refine e' rfl ?_
    refine C0.step rfl (j0:=1) (js:=[3]) (by kernel_rfl) ⟨⟨_,rfl,?_⟩,⟨_,rfl,?_⟩,trivial⟩
    ·refine e' rfl ?_
     refine C0.step rfl (j0:=3) (js:=[]) (by kernel_rfl) ⟨⟨_,rfl,?_⟩,trivial⟩
     refine g' [0] ((ih9 _ _ hx3).ok) rfl rfl rfl rfl rfl rfl (n' ?_)
     refine C0.step rfl (j0:=4) (js:=[]) (by kernel_rfl) ⟨⟨_,rfl,?_⟩,trivial⟩
     refine F0.be hC rfl (A0.rows_map [x1.1,x3.1]).symm (n' ?_)
     refine C0.step rfl (j0:=5) (js:=[]) (by kernel_rfl) ⟨⟨_,rfl,?_⟩,trivial⟩
     refine e' rfl ?_
     refine C0.step rfl (j0:=6) (js:=[]) (by kernel_rfl) ⟨⟨_,rfl,?_⟩,trivial⟩
     refine F0.s hC rfl (n' (C0.nil (by kernel_rfl) (re' ?_)))
     obtain rfl:=oi' hh
     exact ⟨_,.agg [.d (.int .i64 op),.d (.int .i64 0),.d (.str []),.d (.sl (A0.rows [x1.1,x3.1]))],[.row (B0.cells x3.2) 45],rfl,(.aggL ⟨.rfl,.rfl,.rfl,.full,trivial⟩),⟨⟨rfl,.refl _,rfl⟩,trivial⟩,rfl,rfl,rpq rfl rfl⟩
    ·refine g' [0] ((ih9 _ _ hx3).ok) rfl rfl rfl rfl rfl rfl (n' ?_)
     refine C0.step rfl (j0:=1) (js:=[]) (by kernel_rfl) ⟨⟨_,rfl,?_⟩,trivial⟩
     refine e' rfl ?_
     refine C0.step rfl (j0:=4) (js:=[]) (by kernel_rfl) ⟨⟨_,rfl,?_⟩,trivial⟩
     refine F0.be hC rfl (A0.rows_map [x1.1,x3.1]).symm (n' ?_)
     refine C0.step rfl (j0:=5) (js:=[]) (by kernel_rfl) ⟨⟨_,rfl,?_⟩,trivial⟩
     refine e' rfl ?_
     refine C0.step rfl (j0:=6) (js:=[]) (by kernel_rfl) ⟨⟨_,rfl,?_⟩,trivial⟩
     refine F0.s hC rfl (n' (C0.nil (by kernel_rfl) (re' ?_)))
     obtain rfl:=oi' hh
     exact ⟨_,.agg [.d (.int .i64 op),.d (.int .i64 0),.d (.str []),.d (.sl (A0.rows [x1.1,x3.1]))],[.row (B0.cells x3.2) 45],rfl,(.aggL ⟨.rfl,.rfl,.rfl,.full,trivial⟩),⟨⟨rfl,.refl _,rfl⟩,trivial⟩,rfl,rfl,rpq rfl rfl⟩
   ·refine e' rfl ?_
    refine C0.step rfl (j0:=0) (js:=[3]) (by kernel_rfl) ⟨⟨_,rfl,?_⟩,⟨_,rfl,?_⟩,trivial⟩
    ·refine e' rfl ?_
     refine C0.step rfl (j0:=3) (js:=[]) (by kernel_rfl) ⟨⟨_,rfl,?_⟩,trivial⟩
     refine g' [0] ((ih9 _ _ hx3).ok) rfl rfl rfl rfl rfl rfl (n' ?_)
     refine C0.step rfl (j0:=4) (js:=[]) (by kernel_rfl) ⟨⟨_,rfl,?_⟩,trivial⟩
     refine F0.be hC rfl (A0.rows_map [x1.1,x3.1]).symm (n' ?_)
     refine C0.step rfl (j0:=5) (js:=[]) (by kernel_rfl) ⟨⟨_,rfl,?_⟩,trivial⟩
     refine e' rfl ?_
     refine C0.step rfl (j0:=6) (js:=[]) (by kernel_rfl) ⟨⟨_,rfl,?_⟩,trivial⟩
     refine F0.s hC rfl (n' (C0.nil (by kernel_rfl) (re' ?_)))
     obtain rfl:=oi' hh
     exact ⟨_,.agg [.d (.int .i64 op),.d (.int .i64 0),.d (.str []),.d (.sl (A0.rows [x1.1,x3.1]))],[.row (B0.cells x3.2) 45],rfl,(.aggL ⟨.rfl,.rfl,.rfl,.full,trivial⟩),⟨⟨rfl,.refl _,rfl⟩,trivial⟩,rfl,rfl,rpq rfl rfl⟩
    ·refine g' [0] ((ih9 _ _ hx3).ok) rfl rfl rfl rfl rfl rfl (n' ?_)
     refine C0.step rfl (j0:=0) (js:=[4]) (by kernel_rfl) ⟨⟨_,rfl,?_⟩,⟨_,rfl,?_⟩,trivial⟩
     ·refine e' rfl ?_
      refine C0.step rfl (j0:=4) (js:=[]) (by kernel_rfl) ⟨⟨_,rfl,?_⟩,trivial⟩
      refine F0.be hC rfl (A0.rows_map [x1.1,x3.1]).symm (n' ?_)
      refine C0.step rfl (j0:=5) (js:=[]) (by kernel_rfl) ⟨⟨_,rfl,?_⟩,trivial⟩
      refine e' rfl ?_
      refine C0.step rfl (j0:=6) (js:=[]) (by kernel_rfl) ⟨⟨_,rfl,?_⟩,trivial⟩
      refine F0.s hC rfl (n' (C0.nil (by kernel_rfl) (re' ?_)))
      obtain rfl:=oi' hh
      exact ⟨_,.agg [.d (.int .i64 op),.d (.int .i64 0),.d (.str []),.d (.sl (A0.rows [x1.1,x3.1]))],[.row (B0.cells x3.2) 45],rfl,(.aggL ⟨.rfl,.rfl,.rfl,.full,trivial⟩),⟨⟨rfl,.refl _,rfl⟩,trivial⟩,rfl,rfl,rpq rfl rfl⟩
     ·refine F0.be hC rfl (A0.rows_map [x1.1,x3.1]).symm (n' ?_)
      refine C0.step rfl (j0:=0) (js:=[]) (by kernel_rfl) ⟨⟨_,rfl,?_⟩,trivial⟩
      refine e' rfl ?_
      refine C0.step rfl (j0:=5) (js:=[]) (by kernel_rfl) ⟨⟨_,rfl,?_⟩,trivial⟩
      refine e' rfl ?_
      refine C0.step rfl (j0:=6) (js:=[]) (by kernel_rfl) ⟨⟨_,rfl,?_⟩,trivial⟩
      refine F0.s hC rfl (n' (C0.nil (by kernel_rfl) (re' ?_)))
      obtain rfl:=oi' hh
      exact ⟨_,.agg [.d (.int .i64 op),.d (.int .i64 0),.d (.str []),.d (.sl (A0.rows [x1.1,x3.1]))],[.row (B0.cells x3.2) 45],rfl,(.aggL ⟨.rfl,.rfl,.rfl,.full,trivial⟩),⟨⟨rfl,.refl _,rfl⟩,trivial⟩,rfl,rfl,rpq rfl rfl⟩
   ·refine g' [0] ((ih9 _ _ hx3).ok) rfl rfl rfl rfl rfl rfl (n' ?_)
    refine C0.step rfl (j0:=0) (js:=[1]) (by kernel_rfl) ⟨⟨_,rfl,?_⟩,⟨_,rfl,?_⟩,trivial⟩
    ·refine e' rfl ?_
     refine C0.step rfl (j0:=1) (js:=[]) (by kernel_rfl) ⟨⟨_,rfl,?_⟩,trivial⟩
     refine e' rfl ?_
     refine C0.step rfl (j0:=4) (js:=[]) (by kernel_rfl) ⟨⟨_,rfl,?_⟩,trivial⟩
     refine F0.be hC rfl (A0.rows_map [x1.1,x3.1]).symm (n' ?_)
     refine C0.step rfl (j0:=5) (js:=[]) (by kernel_rfl) ⟨⟨_,rfl,?_⟩,trivial⟩
     refine e' rfl ?_
     refine C0.step rfl (j0:=6) (js:=[]) (by kernel_rfl) ⟨⟨_,rfl,?_⟩,trivial⟩
     refine F0.s hC rfl (n' (C0.nil (by kernel_rfl) (re' ?_)))
     obtain rfl:=oi' hh
     exact ⟨_,.agg [.d (.int .i64 op),.d (.int .i64 0),.d (.str []),.d (.sl (A0.rows [x1.1,x3.1]))],[.row (B0.cells x3.2) 45],rfl,(.aggL ⟨.rfl,.rfl,.rfl,.full,trivial⟩),⟨⟨rfl,.refl _,rfl⟩,trivial⟩,rfl,rfl,rpq rfl rfl⟩
    ·refine e' rfl ?_
     refine C0.step rfl (j0:=0) (js:=[4]) (by kernel_rfl) ⟨⟨_,rfl,?_⟩,⟨_,rfl,?_⟩,trivial⟩
     ·refine e' rfl ?_
      refine C0.step rfl (j0:=4) (js:=[]) (by kernel_rfl) ⟨⟨_,rfl,?_⟩,trivial⟩
      refine F0.be hC rfl (A0.rows_map [x1.1,x3.1]).symm (n' ?_)
      refine C0.step rfl (j0:=5) (js:=[]) (by kernel_rfl) ⟨⟨_,rfl,?_⟩,trivial⟩
      refine e' rfl ?_
      refine C0.step rfl (j0:=6) (js:=[]) (by kernel_rfl) ⟨⟨_,rfl,?_⟩,trivial⟩
      refine F0.s hC rfl (n' (C0.nil (by kernel_rfl) (re' ?_)))
      obtain rfl:=oi' hh
      exact ⟨_,.agg [.d (.int .i64 op),.d (.int .i64 0),.d (.str []),.d (.sl (A0.rows [x1.1,x3.1]))],[.row (B0.cells x3.2) 45],rfl,(.aggL ⟨.rfl,.rfl,.rfl,.full,trivial⟩),⟨⟨rfl,.refl _,rfl⟩,trivial⟩,rfl,rfl,rpq rfl rfl⟩
     ·refine F0.be hC rfl (A0.rows_map [x1.1,x3.1]).symm (n' ?_)
      refine C0.step rfl (j0:=0) (js:=[]) (by kernel_rfl) ⟨⟨_,rfl,?_⟩,trivial⟩
      refine e' rfl ?_
      refine C0.step rfl (j0:=5) (js:=[]) (by kernel_rfl) ⟨⟨_,rfl,?_⟩,trivial⟩
      refine e' rfl ?_
      refine C0.step rfl (j0:=6) (js:=[]) (by kernel_rfl) ⟨⟨_,rfl,?_⟩,trivial⟩
      refine F0.s hC rfl (n' (C0.nil (by kernel_rfl) (re' ?_)))
      obtain rfl:=oi' hh
      exact ⟨_,.agg [.d (.int .i64 op),.d (.int .i64 0),.d (.str []),.d (.sl (A0.rows [x1.1,x3.1]))],[.row (B0.cells x3.2) 45],rfl,(.aggL ⟨.rfl,.rfl,.rfl,.full,trivial⟩),⟨⟨rfl,.refl _,rfl⟩,trivial⟩,rfl,rfl,rpq rfl rfl⟩
 ·intro g10 ih10 parserParser res hh
  refine T2.intro hC Tryd.func43 rfl rfl rfl (s' rfl rfl (F0.n hC rfl (F0.nf hC rfl (n' (p' 4 rfl ?_)))))
  rcases bp' hh with ⟨nn,hx1,⟨⟩⟩ | ⟨x1,hx1,hh⟩
  ·exact gn' [0,1] (ih10 _ _ hx1) rfl rfl rfl rfl rfl (fun hi=>peW ⟨trivial,trivial⟩ rfl hi)
  cases hh
  exact g' [0,1] ((ih10 _ _ hx1).ok) rfl rfl rfl rfl rfl rfl (F0.s hC rfl (n' (re' (rt' rfl rfl rfl))))
 ·intro g11 g12 ih11 ih12 parserParser res hh
  refine T2.intro hC Tryd.func21 rfl rfl rfl (s' rfl rfl (F0.nf hC rfl (n' (p' 1 rfl ?_))))
  rcases bp' hh with ⟨nn,hx1,⟨⟩⟩ | ⟨x1,hx1,hh⟩
  ·exact gn' [0] (ih12 _ _ hx1) rfl rfl rfl rfl rfl (fun hi=>peW ⟨trivial,⟨rfl,.refl _,rfl⟩,trivial⟩ rfl hi)
  exact g' [0] ((ih12 _ _ hx1).ok) rfl rfl rfl rfl rfl rfl (F0.nf hC rfl (F0.s hC rfl (n' (bk' (fw' (ih11 _ _ _ hh) rfl rfl rfl)))))
 ·intro g11 g12 ih11 ih12 o0 o3 res hh
  obtain ⟨x2,hx2,hh⟩:=bs' hh
  refine Z0.unroll (bk' (p' 1 rfl (g' [1,0] (Ol hx2) rfl rfl rfl rfl rfl rfl (e' rfl (S' (t' rfl (ci' rfl hh (fun hh=>?_) (fun hh=>?_))))))))
  ·cases hh
   exact p' 1 rfl (F0.s hC rfl (n' (re' (rt' rfl rfl rfl))))
  refine sk' ?_
  rcases bp' hh with ⟨nn,hx3,⟨⟩⟩ | ⟨x3,hx3,hh⟩
  ·refine AEx.drawE hC ?_
   refine C0.step rfl (j0:=0) (js:=[1,2]) (by kernel_rfl) ⟨⟨_,rfl,?_⟩,⟨_,rfl,?_⟩,⟨_,rfl,?_⟩,trivial⟩
   ·refine e' rfl ?_
    refine C0.step rfl (j0:=1) (js:=[2]) (by kernel_rfl) ⟨⟨_,rfl,?_⟩,⟨_,rfl,?_⟩,trivial⟩
    ·refine e' rfl ?_
     refine C0.step rfl (j0:=2) (js:=[]) (by kernel_rfl) ⟨⟨_,rfl,?_⟩,trivial⟩
     refine e' rfl ?_
     refine C0.step rfl (j0:=3) (js:=[]) (by kernel_rfl) ⟨⟨_,rfl,?_⟩,trivial⟩
     exact gn' [0] (ih12 _ _ hx3) rfl rfl rfl rfl rfl (fun hi=>peW ⟨trivial,⟨rfl,.refl _,rfl⟩,trivial⟩ rfl hi)
    ·refine e' rfl ?_
     refine C0.step rfl (j0:=1) (js:=[3]) (by kernel_rfl) ⟨⟨_,rfl,?_⟩,⟨_,rfl,?_⟩,trivial⟩
     ·refine e' rfl ?_
      refine C0.step rfl (j0:=3) (js:=[]) (by kernel_rfl) ⟨⟨_,rfl,?_⟩,trivial⟩
      exact gn' [0] (ih12 _ _ hx3) rfl rfl rfl rfl rfl (fun hi=>peW ⟨trivial,⟨rfl,.refl _,rfl⟩,trivial⟩ rfl hi)
     ·exact gn' [0] (ih12 _ _ hx3) rfl rfl rfl rfl rfl (fun hi=>peW ⟨trivial,⟨rfl,.refl _,rfl⟩,trivial⟩ rfl hi)
   ·refine e' rfl ?_
    refine C0.step rfl (j0:=0) (js:=[2]) (by kernel_rfl) ⟨⟨_,rfl,?_⟩,⟨_,rfl,?_⟩,trivial⟩
    ·refine e' rfl ?_
     refine C0.step rfl (j0:=2) (js:=[]) (by kernel_rfl) ⟨⟨_,rfl,?_⟩,trivial⟩
     refine e' rfl ?_
     refine C0.step rfl (j0:=3) (js:=[]) (by kernel_rfl) ⟨⟨_,rfl,?_⟩,trivial⟩
     exact gn' [0] (ih12 _ _ hx3) rfl rfl rfl rfl rfl (fun hi=>peW ⟨trivial,⟨rfl,.refl _,rfl⟩,trivial⟩ rfl hi)
    ·refine e' rfl ?_
     refine C0.step rfl (j0:=0) (js:=[3]) (by kernel_rfl) ⟨⟨_,rfl,?_⟩,⟨_,rfl,?_⟩,trivial⟩
     ·refine e' rfl ?_
      refine C0.step rfl (j0:=3) (js:=[]) (by kernel_rfl) ⟨⟨_,rfl,?_⟩,trivial⟩
      exact gn' [0] (ih12 _ _ hx3) rfl rfl rfl rfl rfl (fun hi=>peW ⟨trivial,⟨rfl,.refl _,rfl⟩,trivial⟩ rfl hi)
     ·exact gn' [0] (ih12 _ _ hx3) rfl rfl rfl rfl rfl (fun hi=>peW ⟨trivial,⟨rfl,.refl _,rfl⟩,trivial⟩ rfl hi)
   ·refine e' rfl ?_
    refine C0.step rfl (j0:=0) (js:=[1,3]) (by kernel_rfl) ⟨⟨_,rfl,?_⟩,⟨_,rfl,?_⟩,⟨_,rfl,?_⟩,trivial⟩
    ·refine e' rfl ?_
     refine C0.step rfl (j0:=1) (js:=[3]) (by kernel_rfl) ⟨⟨_,rfl,?_⟩,⟨_,rfl,?_⟩,trivial⟩
     ·refine e' rfl ?_
      refine C0.step rfl (j0:=3) (js:=[]) (by kernel_rfl) ⟨⟨_,rfl,?_⟩,trivial⟩
      exact gn' [0] (ih12 _ _ hx3) rfl rfl rfl rfl rfl (fun hi=>peW ⟨trivial,⟨rfl,.refl _,rfl⟩,trivial⟩ rfl hi)
     ·exact gn' [0] (ih12 _ _ hx3) rfl rfl rfl rfl rfl (fun hi=>peW ⟨trivial,⟨rfl,.refl _,rfl⟩,trivial⟩ rfl hi)
    ·refine e' rfl ?_
     refine C0.step rfl (j0:=0) (js:=[3]) (by kernel_rfl) ⟨⟨_,rfl,?_⟩,⟨_,rfl,?_⟩,trivial⟩
     ·refine e' rfl ?_
      refine C0.step rfl (j0:=3) (js:=[]) (by kernel_rfl) ⟨⟨_,rfl,?_⟩,trivial⟩
      exact gn' [0] (ih12 _ _ hx3) rfl rfl rfl rfl rfl (fun hi=>peW ⟨trivial,⟨rfl,.refl _,rfl⟩,trivial⟩ rfl hi)
     ·exact gn' [0] (ih12 _ _ hx3) rfl rfl rfl rfl rfl (fun hi=>peW ⟨trivial,⟨rfl,.refl _,rfl⟩,trivial⟩ rfl hi)
    ·exact gn' [0] (ih12 _ _ hx3) rfl rfl rfl rfl rfl (fun hi=>peW ⟨trivial,⟨rfl,.refl _,rfl⟩,trivial⟩ rfl hi)
  refine AEx.drawE hC ?_
  refine C0.step rfl (j0:=0) (js:=[1,2]) (by kernel_rfl) ⟨⟨_,rfl,?_⟩,⟨_,rfl,?_⟩,⟨_,rfl,?_⟩,trivial⟩
  ·refine e' rfl ?_
   refine C0.step rfl (j0:=1) (js:=[2]) (by kernel_rfl) ⟨⟨_,rfl,?_⟩,⟨_,rfl,?_⟩,trivial⟩
   ·refine e' rfl ?_
    refine C0.step rfl (j0:=2) (js:=[]) (by kernel_rfl) ⟨⟨_,rfl,?_⟩,trivial⟩
    refine e' rfl ?_
    refine C0.step rfl (j0:=3) (js:=[]) (by kernel_rfl) ⟨⟨_,rfl,?_⟩,trivial⟩
    refine g' [0] ((ih12 _ _ hx3).ok) rfl rfl rfl rfl rfl rfl (n' ?_)
    refine C0.step rfl (j0:=4) (js:=[]) (by kernel_rfl) ⟨⟨_,rfl,?_⟩,trivial⟩
    refine F0.be hC rfl (A0.rows_map [o3,x3.1]).symm (n' ?_)
    refine C0.step rfl (j0:=5) (js:=[]) (by kernel_rfl) ⟨⟨_,rfl,?_⟩,trivial⟩
    refine e' rfl ?_
    refine C0.step rfl (j0:=6) (js:=[]) (by kernel_rfl) ⟨⟨_,rfl,?_⟩,trivial⟩
    refine F0.s hC rfl (n' (C0.nil (by kernel_rfl) ?_))
    refine Z0.wk ?_ (ih11 _ _ _ hh)
    exact ⟨⟨⟨.rfl,rfl⟩,⟨.rfl,rfl⟩,⟨.rfl,rfl⟩,⟨.rfl,rfl⟩,trivial⟩,⟨⟨rfl,.refl _,rfl⟩,⟨rfl,.refl _,rfl⟩,⟨rfl,.refl _,rfl⟩,⟨rfl,⟨.rfl,.rfl,.rfl,.full,trivial⟩,rfl⟩,trivial⟩,rfl⟩
   ·refine e' rfl ?_
    refine C0.step rfl (j0:=1) (js:=[3]) (by kernel_rfl) ⟨⟨_,rfl,?_⟩,⟨_,rfl,?_⟩,trivial⟩
    ·refine e' rfl ?_
     refine C0.step rfl (j0:=3) (js:=[]) (by kernel_rfl) ⟨⟨_,rfl,?_⟩,trivial⟩
     refine g' [0] ((ih12 _ _ hx3).ok) rfl rfl rfl rfl rfl rfl (n' ?_)
     refine C0.step rfl (j0:=4) (js:=[]) (by kernel_rfl) ⟨⟨_,rfl,?_⟩,trivial⟩
     refine F0.be hC rfl (A0.rows_map [o3,x3.1]).symm (n' ?_)
     refine C0.step rfl (j0:=5) (js:=[]) (by kernel_rfl) ⟨⟨_,rfl,?_⟩,trivial⟩
     refine e' rfl ?_
     refine C0.step rfl (j0:=6) (js:=[]) (by kernel_rfl) ⟨⟨_,rfl,?_⟩,trivial⟩
     refine F0.s hC rfl (n' (C0.nil (by kernel_rfl) ?_))
     refine Z0.wk ?_ (ih11 _ _ _ hh)
     exact ⟨⟨⟨.rfl,rfl⟩,⟨.rfl,rfl⟩,⟨.rfl,rfl⟩,⟨.rfl,rfl⟩,trivial⟩,⟨⟨rfl,.refl _,rfl⟩,⟨rfl,.refl _,rfl⟩,⟨rfl,.refl _,rfl⟩,⟨rfl,⟨.rfl,.rfl,.rfl,.full,trivial⟩,rfl⟩,trivial⟩,rfl⟩
    ·refine g' [0] ((ih12 _ _ hx3).ok) rfl rfl rfl rfl rfl rfl (n' ?_)
     refine C0.step rfl (j0:=1) (js:=[]) (by kernel_rfl) ⟨⟨_,rfl,?_⟩,trivial⟩
     refine e' rfl ?_
     refine C0.step rfl (j0:=4) (js:=[]) (by kernel_rfl) ⟨⟨_,rfl,?_⟩,trivial⟩
     refine F0.be hC rfl (A0.rows_map [o3,x3.1]).symm (n' ?_)
     refine C0.step rfl (j0:=5) (js:=[]) (by kernel_rfl) ⟨⟨_,rfl,?_⟩,trivial⟩
     refine e' rfl ?_
     refine C0.step rfl (j0:=6) (js:=[]) (by kernel_rfl) ⟨⟨_,rfl,?_⟩,trivial⟩
     refine F0.s hC rfl (n' (C0.nil (by kernel_rfl) ?_))
     refine Z0.wk ?_ (ih11 _ _ _ hh)
     exact ⟨⟨⟨.rfl,rfl⟩,⟨.rfl,rfl⟩,⟨.rfl,rfl⟩,⟨.rfl,rfl⟩,trivial⟩,⟨⟨rfl,.refl _,rfl⟩,⟨rfl,.refl _,rfl⟩,⟨rfl,.refl _,rfl⟩,⟨rfl,⟨.rfl,.rfl,.rfl,.full,trivial⟩,rfl⟩,trivial⟩,rfl⟩
  ·refine e' rfl ?_
   refine C0.step rfl (j0:=0) (js:=[2]) (by kernel_rfl) ⟨⟨_,rfl,?_⟩,⟨_,rfl,?_⟩,trivial⟩
   ·refine e' rfl ?_
    refine C0.step rfl (j0:=2) (js:=[]) (by kernel_rfl) ⟨⟨_,rfl,?_⟩,trivial⟩
    refine e' rfl ?_
    refine C0.step rfl (j0:=3) (js:=[]) (by kernel_rfl) ⟨⟨_,rfl,?_⟩,trivial⟩
    refine g' [0] ((ih12 _ _ hx3).ok) rfl rfl rfl rfl rfl rfl (n' ?_)
    refine C0.step rfl (j0:=4) (js:=[]) (by kernel_rfl) ⟨⟨_,rfl,?_⟩,trivial⟩
    refine F0.be hC rfl (A0.rows_map [o3,x3.1]).symm (n' ?_)
    refine C0.step rfl (j0:=5) (js:=[]) (by kernel_rfl) ⟨⟨_,rfl,?_⟩,trivial⟩
    refine e' rfl ?_
    refine C0.step rfl (j0:=6) (js:=[]) (by kernel_rfl) ⟨⟨_,rfl,?_⟩,trivial⟩
    refine F0.s hC rfl (n' (C0.nil (by kernel_rfl) ?_))
    refine Z0.wk ?_ (ih11 _ _ _ hh)
    exact ⟨⟨⟨.rfl,rfl⟩,⟨.rfl,rfl⟩,⟨.rfl,rfl⟩,⟨.rfl,rfl⟩,trivial⟩,⟨⟨rfl,.refl _,rfl⟩,⟨rfl,.refl _,rfl⟩,⟨rfl,.refl _,rfl⟩,⟨rfl,⟨.rfl,.rfl,.rfl,.full,trivial⟩,rfl⟩,trivial⟩,rfl⟩
   ·refine e' rfl ?_
    refine C0.step rfl (j0:=0) (js:=[3]) (by kernel_rfl) ⟨⟨_,rfl,?_⟩,⟨_,rfl,?_⟩,trivial⟩
    ·refine e' rfl ?_
     refine C0.step rfl (j0:=3) (js:=[]) (by kernel_rfl) ⟨⟨_,rfl,?_⟩,trivial⟩
     refine g' [0] ((ih12 _ _ hx3).ok) rfl rfl rfl rfl rfl rfl (n' ?_)
     refine C0.step rfl (j0:=4) (js:=[]) (by kernel_rfl) ⟨⟨_,rfl,?_⟩,trivial⟩
     refine F0.be hC rfl (A0.rows_map [o3,x3.1]).symm (n' ?_)
     refine C0.step rfl (j0:=5) (js:=[]) (by kernel_rfl) ⟨⟨_,rfl,?_⟩,trivial⟩
     refine e' rfl ?_
     refine C0.step rfl (j0:=6) (js:=[]) (by kernel_rfl) ⟨⟨_,rfl,?_⟩,trivial⟩
     refine F0.s hC rfl (n' (C0.nil (by kernel_rfl) ?_))
     refine Z0.wk ?_ (ih11 _ _ _ hh)
     exact ⟨⟨⟨.rfl,rfl⟩,⟨.rfl,rfl⟩,⟨.rfl,rfl⟩,⟨.rfl,rfl⟩,trivial⟩,⟨⟨rfl,.refl _,rfl⟩,⟨rfl,.refl _,rfl⟩,⟨rfl,.refl _,rfl⟩,⟨rfl,⟨.rfl,.rfl,.rfl,.full,trivial⟩,rfl⟩,trivial⟩,rfl⟩
    ·refine g' [0] ((ih12 _ _ hx3).ok) rfl rfl rfl rfl rfl rfl (n' ?_)
     refine C0.step rfl (j0:=0) (js:=[4]) (by kernel_rfl) ⟨⟨_,rfl,?_⟩,⟨_,rfl,?_⟩,trivial⟩
     ·refine e' rfl ?_
      refine C0.step rfl (j0:=4) (js:=[]) (by kernel_rfl) ⟨⟨_,rfl,?_⟩,trivial⟩
      refine F0.be hC rfl (A0.rows_map [o3,x3.1]).symm (n' ?_)
      refine C0.step rfl (j0:=5) (js:=[]) (by kernel_rfl) ⟨⟨_,rfl,?_⟩,trivial⟩
      refine e' rfl ?_
      refine C0.step rfl (j0:=6) (js:=[]) (by kernel_rfl) ⟨⟨_,rfl,?_⟩,trivial⟩
      refine F0.s hC rfl (n' (C0.nil (by kernel_rfl) ?_))
      refine Z0.wk ?_ (ih11 _ _ _ hh)
      exact ⟨⟨⟨.rfl,rfl⟩,⟨.rfl,rfl⟩,⟨.rfl,rfl⟩,⟨.rfl,rfl⟩,trivial⟩,⟨⟨rfl,.refl _,rfl⟩,⟨rfl,.refl _,rfl⟩,⟨rfl,.refl _,rfl⟩,⟨rfl,⟨.rfl,.rfl,.rfl,.full,trivial⟩,rfl⟩,trivial⟩,rfl⟩
     ·refine F0.be hC rfl (A0.rows_map [o3,x3.1]).symm (n' ?_)
      refine C0.step rfl (j0:=0) (js:=[]) (by kernel_rfl) ⟨⟨_,rfl,?_⟩,trivial⟩
      refine e' rfl ?_
      refine C0.step rfl (j0:=5) (js:=[]) (by kernel_rfl) ⟨⟨_,rfl,?_⟩,trivial⟩
      refine e' rfl ?_
      refine C0.step rfl (j0:=6) (js:=[]) (by kernel_rfl) ⟨⟨_,rfl,?_⟩,trivial⟩
      refine F0.s hC rfl (n' (C0.nil (by kernel_rfl) ?_))
      refine Z0.wk ?_ (ih11 _ _ _ hh)
      exact ⟨⟨⟨.rfl,rfl⟩,⟨.rfl,rfl⟩,⟨.rfl,rfl⟩,⟨.rfl,rfl⟩,trivial⟩,⟨⟨rfl,.refl _,rfl⟩,⟨rfl,.refl _,rfl⟩,⟨rfl,.refl _,rfl⟩,⟨rfl,⟨.rfl,.rfl,.rfl,.full,trivial⟩,rfl⟩,trivial⟩,rfl⟩
  ·refine e' rfl ?_
   refine C0.step rfl (j0:=0) (js:=[1,3]) (by kernel_rfl) ⟨⟨_,rfl,?_⟩,⟨_,rfl,?_⟩,⟨_,rfl,?_⟩,trivial⟩
   ·refine e' rfl ?_
    refine C0.step rfl (j0:=1) (js:=[3]) (by kernel_rfl) ⟨⟨_,rfl,?_⟩,⟨_,rfl,?_⟩,trivial⟩
    ·refine e' rfl ?_
     refine C0.step rfl (j0:=3) (js:=[]) (by kernel_rfl) ⟨⟨_,rfl,?_⟩,trivial⟩
     refine g' [0] ((ih12 _ _ hx3).ok) rfl rfl rfl rfl rfl rfl (n' ?_)
     refine C0.step rfl (j0:=4) (js:=[]) (by kernel_rfl) ⟨⟨_,rfl,?_⟩,trivial⟩
     refine F0.be hC rfl (A0.rows_map [o3,x3.1]).symm (n' ?_)
     refine C0.step rfl (j0:=5) (js:=[]) (by kernel_rfl) ⟨⟨_,rfl,?_⟩,trivial⟩
     refine e' rfl ?_
     refine C0.step rfl (j0:=6) (js:=[]) (by kernel_rfl) ⟨⟨_,rfl,?_⟩,trivial⟩
     refine F0.s hC rfl (n' (C0.nil (by kernel_rfl) ?_))
     refine Z0.wk ?_ (ih11 _ _ _ hh)
     exact ⟨⟨⟨.rfl,rfl⟩,⟨.rfl,rfl⟩,⟨.rfl,rfl⟩,⟨.rfl,rfl⟩,trivial⟩,⟨⟨rfl,.refl _,rfl⟩,⟨rfl,.refl _,rfl⟩,⟨rfl,.refl _,rfl⟩,⟨rfl,⟨.rfl,.rfl,.rfl,.full,trivial⟩,rfl⟩,trivial⟩,rfl⟩
    ·refine g' [0] ((ih12 _ _ hx3).ok) rfl rfl rfl rfl rfl rfl (n' ?_)
     refine C0.step rfl (j0:=1) (js:=[]) (by kernel_rfl) ⟨⟨_,rfl,?_⟩,trivial⟩
     refine e' rfl ?_
     refine C0.step rfl (j0:=4) (js:=[]) (by kernel_rfl) ⟨⟨_,rfl,?_⟩,trivial⟩
     refine F0.be hC rfl (A0.rows_map [o3,x3.1]).symm (n' ?_)
     refine C0.step rfl (j0:=5) (js:=[]) (by kernel_rfl) ⟨⟨_,rfl,?_⟩,trivial⟩
     refine e' rfl ?_
     refine C0.step rfl (j0:=6) (js:=[]) (by kernel_rfl) ⟨⟨_,rfl,?_⟩,trivial⟩
     refine F0.s hC rfl (n' (C0.nil (by kernel_rfl) ?_))
     refine Z0.wk ?_ (ih11 _ _ _ hh)
     exact ⟨⟨⟨.rfl,rfl⟩,⟨.rfl,rfl⟩,⟨.rfl,rfl⟩,⟨.rfl,rfl⟩,trivial⟩,⟨⟨rfl,.refl _,rfl⟩,⟨rfl,.refl _,rfl⟩,⟨rfl,.refl _,rfl⟩,⟨rfl,⟨.rfl,.rfl,.rfl,.full,trivial⟩,rfl⟩,trivial⟩,rfl⟩
   ·refine e' rfl ?_
    refine C0.step rfl (j0:=0) (js:=[3]) (by kernel_rfl) ⟨⟨_,rfl,?_⟩,⟨_,rfl,?_⟩,trivial⟩
    ·refine e' rfl ?_
     refine C0.step rfl (j0:=3) (js:=[]) (by kernel_rfl) ⟨⟨_,rfl,?_⟩,trivial⟩
     refine g' [0] ((ih12 _ _ hx3).ok) rfl rfl rfl rfl rfl rfl (n' ?_)
     refine C0.step rfl (j0:=4) (js:=[]) (by kernel_rfl) ⟨⟨_,rfl,?_⟩,trivial⟩
     refine F0.be hC rfl (A0.rows_map [o3,x3.1]).symm (n' ?_)
     refine C0.step rfl (j0:=5) (js:=[]) (by kernel_rfl) ⟨⟨_,rfl,?_⟩,trivial⟩
     refine e' rfl ?_
     refine C0.step rfl (j0:=6) (js:=[]) (by kernel_rfl) ⟨⟨_,rfl,?_⟩,trivial⟩
     refine F0.s hC rfl (n' (C0.nil (by kernel_rfl) ?_))
     refine Z0.wk ?_ (ih11 _ _ _ hh)
     exact ⟨⟨⟨.rfl,rfl⟩,⟨.rfl,rfl⟩,⟨.rfl,rfl⟩,⟨.rfl,rfl⟩,trivial⟩,⟨⟨rfl,.refl _,rfl⟩,⟨rfl,.refl _,rfl⟩,⟨rfl,.refl _,rfl⟩,⟨rfl,⟨.rfl,.rfl,.rfl,.full,trivial⟩,rfl⟩,trivial⟩,rfl⟩
    ·refine g' [0] ((ih12 _ _ hx3).ok) rfl rfl rfl rfl rfl rfl (n' ?_)
     refine C0.step rfl (j0:=0) (js:=[4]) (by kernel_rfl) ⟨⟨_,rfl,?_⟩,⟨_,rfl,?_⟩,trivial⟩
     ·refine e' rfl ?_
      refine C0.step rfl (j0:=4) (js:=[]) (by kernel_rfl) ⟨⟨_,rfl,?_⟩,trivial⟩
      refine F0.be hC rfl (A0.rows_map [o3,x3.1]).symm (n' ?_)
      refine C0.step rfl (j0:=5) (js:=[]) (by kernel_rfl) ⟨⟨_,rfl,?_⟩,trivial⟩
      refine e' rfl ?_
      refine C0.step rfl (j0:=6) (js:=[]) (by kernel_rfl) ⟨⟨_,rfl,?_⟩,trivial⟩
      refine F0.s hC rfl (n' (C0.nil (by kernel_rfl) ?_))
      refine Z0.wk ?_ (ih11 _ _ _ hh)
      exact ⟨⟨⟨.rfl,rfl⟩,⟨.rfl,rfl⟩,⟨.rfl,rfl⟩,⟨.rfl,rfl⟩,trivial⟩,⟨⟨rfl,.refl _,rfl⟩,⟨rfl,.refl _,rfl⟩,⟨rfl,.refl _,rfl⟩,⟨rfl,⟨.rfl,.rfl,.rfl,.full,trivial⟩,rfl⟩,trivial⟩,rfl⟩
     ·refine F0.be hC rfl (A0.rows_map [o3,x3.1]).symm (n' ?_)
      refine C0.step rfl (j0:=0) (js:=[]) (by kernel_rfl) ⟨⟨_,rfl,?_⟩,trivial⟩
      refine e' rfl ?_
      refine C0.step rfl (j0:=5) (js:=[]) (by kernel_rfl) ⟨⟨_,rfl,?_⟩,trivial⟩
      refine e' rfl ?_
      refine C0.step rfl (j0:=6) (js:=[]) (by kernel_rfl) ⟨⟨_,rfl,?_⟩,trivial⟩
      refine F0.s hC rfl (n' (C0.nil (by kernel_rfl) ?_))
      refine Z0.wk ?_ (ih11 _ _ _ hh)
      exact ⟨⟨⟨.rfl,rfl⟩,⟨.rfl,rfl⟩,⟨.rfl,rfl⟩,⟨.rfl,rfl⟩,trivial⟩,⟨⟨rfl,.refl _,rfl⟩,⟨rfl,.refl _,rfl⟩,⟨rfl,.refl _,rfl⟩,⟨rfl,⟨.rfl,.rfl,.rfl,.full,trivial⟩,rfl⟩,trivial⟩,rfl⟩
   ·refine g' [0] ((ih12 _ _ hx3).ok) rfl rfl rfl rfl rfl rfl (n' ?_)
    refine C0.step rfl (j0:=0) (js:=[1]) (by kernel_rfl) ⟨⟨_,rfl,?_⟩,⟨_,rfl,?_⟩,trivial⟩
    ·refine e' rfl ?_
     refine C0.step rfl (j0:=1) (js:=[]) (by kernel_rfl) ⟨⟨_,rfl,?_⟩,trivial⟩
     refine e' rfl ?_
     refine C0.step rfl (j0:=4) (js:=[]) (by kernel_rfl) ⟨⟨_,rfl,?_⟩,trivial⟩
     refine F0.be hC rfl (A0.rows_map [o3,x3.1]).symm (n' ?_)
     refine C0.step rfl (j0:=5) (js:=[]) (by kernel_rfl) ⟨⟨_,rfl,?_⟩,trivial⟩
     refine e' rfl ?_
     refine C0.step rfl (j0:=6) (js:=[]) (by kernel_rfl) ⟨⟨_,rfl,?_⟩,trivial⟩
     refine F0.s hC rfl (n' (C0.nil (by kernel_rfl) ?_))
     refine Z0.wk ?_ (ih11 _ _ _ hh)
     exact ⟨⟨⟨.rfl,rfl⟩,⟨.rfl,rfl⟩,⟨.rfl,rfl⟩,⟨.rfl,rfl⟩,trivial⟩,⟨⟨rfl,.refl _,rfl⟩,⟨rfl,.refl _,rfl⟩,⟨rfl,.refl _,rfl⟩,⟨rfl,⟨.rfl,.rfl,.rfl,.full,trivial⟩,rfl⟩,trivial⟩,rfl⟩
    ·refine e' rfl ?_
     refine C0.step rfl (j0:=0) (js:=[4]) (by kernel_rfl) ⟨⟨_,rfl,?_⟩,⟨_,rfl,?_⟩,trivial⟩
     ·refine e' rfl ?_
      refine C0.step rfl (j0:=4) (js:=[]) (by kernel_rfl) ⟨⟨_,rfl,?_⟩,trivial⟩
      refine F0.be hC rfl (A0.rows_map [o3,x3.1]).symm (n' ?_)
      refine C0.step rfl (j0:=5) (js:=[]) (by kernel_rfl) ⟨⟨_,rfl,?_⟩,trivial⟩
      refine e' rfl ?_
      refine C0.step rfl (j0:=6) (js:=[]) (by kernel_rfl) ⟨⟨_,rfl,?_⟩,trivial⟩
      refine F0.s hC rfl (n' (C0.nil (by kernel_rfl) ?_))
      refine Z0.wk ?_ (ih11 _ _ _ hh)
      exact ⟨⟨⟨.rfl,rfl⟩,⟨.rfl,rfl⟩,⟨.rfl,rfl⟩,⟨.rfl,rfl⟩,trivial⟩,⟨⟨rfl,.refl _,rfl⟩,⟨rfl,.refl _,rfl⟩,⟨rfl,.refl _,rfl⟩,⟨rfl,⟨.rfl,.rfl,.rfl,.full,trivial⟩,rfl⟩,trivial⟩,rfl⟩
     ·refine F0.be hC rfl (A0.rows_map [o3,x3.1]).symm (n' ?_)
      refine C0.step rfl (j0:=0) (js:=[]) (by kernel_rfl) ⟨⟨_,rfl,?_⟩,trivial⟩
      refine e' rfl ?_
      refine C0.step rfl (j0:=5) (js:=[]) (by kernel_rfl) ⟨⟨_,rfl,?_⟩,trivial⟩
      refine e' rfl ?_
      refine C0.step rfl (j0:=6) (js:=[]) (by kernel_rfl) ⟨⟨_,rfl,?_⟩,trivial⟩
      refine F0.s hC rfl (n' (C0.nil (by kernel_rfl) ?_))
      refine Z0.wk ?_ (ih11 _ _ _ hh)
      exact ⟨⟨⟨.rfl,rfl⟩,⟨.rfl,rfl⟩,⟨.rfl,rfl⟩,⟨.rfl,rfl⟩,trivial⟩,⟨⟨rfl,.refl _,rfl⟩,⟨rfl,.refl _,rfl⟩,⟨rfl,.refl _,rfl⟩,⟨rfl,⟨.rfl,.rfl,.rfl,.full,trivial⟩,rfl⟩,trivial⟩,rfl⟩
 ·intro g13 ih13 parserParser res hh
  refine T2.intro hC Tryd.func47 rfl rfl rfl (s' rfl rfl (F0.n hC rfl (F0.nf hC rfl (n' (p' 4 rfl ?_)))))
  rcases bp' hh with ⟨nn,hx1,⟨⟩⟩ | ⟨x1,hx1,hh⟩
  ·exact gn' [0,1] (ih13 _ _ hx1) rfl rfl rfl rfl rfl (fun hi=>peW ⟨trivial,trivial⟩ rfl hi)
  cases hh
  exact g' [0,1] ((ih13 _ _ hx1).ok) rfl rfl rfl rfl rfl rfl (F0.s hC rfl (n' (re' (rt' rfl rfl rfl))))
 ·intro g14 g15 ih14 ih15 parserParser res hh
  refine T2.intro hC Tryd.func21 rfl rfl rfl (s' rfl rfl (F0.nf hC rfl (n' (p' 1 rfl ?_))))
  rcases bp' hh with ⟨nn,hx1,⟨⟩⟩ | ⟨x1,hx1,hh⟩
  ·exact gn' [0] (ih15 _ _ hx1) rfl rfl rfl rfl rfl (fun hi=>peW ⟨trivial,⟨rfl,.refl _,rfl⟩,trivial⟩ rfl hi)
  exact g' [0] ((ih15 _ _ hx1).ok) rfl rfl rfl rfl rfl rfl (F0.nf hC rfl (F0.s hC rfl (n' (bk' (fw' (ih14 _ _ _ hh) rfl rfl rfl)))))
 ·intro g14 g15 ih14 ih15 o0 o3 res hh
  obtain ⟨x2,hx2,hh⟩:=bs' hh
  refine Z0.unroll (bk' (p' 1 rfl (g' [1,0] (Oi hx2) rfl rfl rfl rfl rfl rfl (e' rfl (S' (t' rfl (ci' rfl hh (fun hh=>?_) (fun hh=>?_))))))))
  ·cases hh
   exact p' 1 rfl (F0.s hC rfl (n' (re' (rt' rfl rfl rfl))))
  refine sk' ?_
  rcases bp' hh with ⟨nn,hx3,⟨⟩⟩ | ⟨x3,hx3,hh⟩
  ·refine AEx.drawE hC ?_
   refine C0.step rfl (j0:=0) (js:=[1,2]) (by kernel_rfl) ⟨⟨_,rfl,?_⟩,⟨_,rfl,?_⟩,⟨_,rfl,?_⟩,trivial⟩
   ·refine e' rfl ?_
    refine C0.step rfl (j0:=1) (js:=[2]) (by kernel_rfl) ⟨⟨_,rfl,?_⟩,⟨_,rfl,?_⟩,trivial⟩
    ·refine e' rfl ?_
     refine C0.step rfl (j0:=2) (js:=[]) (by kernel_rfl) ⟨⟨_,rfl,?_⟩,trivial⟩
     refine e' rfl ?_
     refine C0.step rfl (j0:=3) (js:=[]) (by kernel_rfl) ⟨⟨_,rfl,?_⟩,trivial⟩
     exact gn' [0] (ih15 _ _ hx3) rfl rfl rfl rfl rfl (fun hi=>peW ⟨trivial,⟨rfl,.refl _,rfl⟩,trivial⟩ rfl hi)
    ·refine e' rfl ?_
     refine C0.step rfl (j0:=1) (js:=[3]) (by kernel_rfl) ⟨⟨_,rfl,?_⟩,⟨_,rfl,?_⟩,trivial⟩
     ·refine e' rfl ?_
      refine C0.step rfl (j0:=3) (js:=[]) (by kernel_rfl) ⟨⟨_,rfl,?_⟩,trivial⟩
      exact gn' [0] (ih15 _ _ hx3) rfl rfl rfl rfl rfl (fun hi=>peW ⟨trivial,⟨rfl,.refl _,rfl⟩,trivial⟩ rfl hi)
     ·exact gn' [0] (ih15 _ _ hx3) rfl rfl rfl rfl rfl (fun hi=>peW ⟨trivial,⟨rfl,.refl _,rfl⟩,trivial⟩ rfl hi)
   ·refine e' rfl ?_
    refine C0.step rfl (j0:=0) (js:=[2]) (by kernel_rfl) ⟨⟨_,rfl,?_⟩,⟨_,rfl,?_⟩,trivial⟩
    ·refine e' rfl ?_
     refine C0.step rfl (j0:=2) (js:=[]) (by kernel_rfl) ⟨⟨_,rfl,?_⟩,trivial⟩
     refine e' rfl ?_
     refine C0.step rfl (j0:=3) (js:=[]) (by kernel_rfl) ⟨⟨_,rfl,?_⟩,trivial⟩
     exact gn' [0] (ih15 _ _ hx3) rfl rfl rfl rfl rfl (fun hi=>peW ⟨trivial,⟨rfl,.refl _,rfl⟩,trivial⟩ rfl hi)
    ·refine e' rfl ?_
     refine C0.step rfl (j0:=0) (js:=[3]) (by kernel_rfl) ⟨⟨_,rfl,?_⟩,⟨_,rfl,?_⟩,trivial⟩
     ·refine e' rfl ?_
      refine C0.step rfl (j0:=3) (js:=[]) (by kernel_rfl) ⟨⟨_,rfl,?_⟩,trivial⟩
      exact gn' [0] (ih15 _ _ hx3) rfl rfl rfl rfl rfl (fun hi=>peW ⟨trivial,⟨rfl,.refl _,rfl⟩,trivial⟩ rfl hi)
     ·exact gn' [0] (ih15 _ _ hx3) rfl rfl rfl rfl rfl (fun hi=>peW ⟨trivial,⟨rfl,.refl _,rfl⟩,trivial⟩ rfl hi)
   ·refine e' rfl ?_
    refine C0.step rfl (j0:=0) (js:=[1,3]) (by kernel_rfl) ⟨⟨_,rfl,?_⟩,⟨_,rfl,?_⟩,⟨_,rfl,?_⟩,trivial⟩
    ·refine e' rfl ?_
     refine C0.step rfl (j0:=1) (js:=[3]) (by kernel_rfl) ⟨⟨_,rfl,?_⟩,⟨_,rfl,?_⟩,trivial⟩
     ·refine e' rfl ?_
      refine C0.step rfl (j0:=3) (js:=[]) (by kernel_rfl) ⟨⟨_,rfl,?_⟩,trivial⟩
      exact gn' [0] (ih15 _ _ hx3) rfl rfl rfl rfl rfl (fun hi=>peW ⟨trivial,⟨rfl,.refl _,rfl⟩,trivial⟩ rfl hi)
     ·exact gn' [0] (ih15 _ _ hx3) rfl rfl rfl rfl rfl (fun hi=>peW ⟨trivial,⟨rfl,.refl _,rfl⟩,trivial⟩ rfl hi)
    ·refine e' rfl ?_
     refine C0.step rfl (j0:=0) (js:=[3]) (by kernel_rfl) ⟨⟨_,rfl,?_⟩,⟨_,rfl,?_⟩,trivial⟩
     ·refine e' rfl ?_
      refine C0.step rfl (j0:=3) (js:=[]) (by kernel_rfl) ⟨⟨_,rfl,?_⟩,trivial⟩
      exact gn' [0] (ih15 _ _ hx3) rfl rfl rfl rfl rfl (fun hi=>peW ⟨trivial,⟨rfl,.refl _,rfl⟩,trivial⟩ rfl hi)
     ·exact gn' [0] (ih15 _ _ hx3) rfl rfl rfl rfl rfl (fun hi=>peW ⟨trivial,⟨rfl,.refl _,rfl⟩,trivial⟩ rfl hi)
    ·exact gn' [0] (ih15 _ _ hx3) rfl rfl rfl rfl rfl (fun hi=>peW ⟨trivial,⟨rfl,.refl _,rfl⟩,trivial⟩ rfl hi)
  refine AEx.drawE hC ?_
  refine C0.step rfl (j0:=0) (js:=[1,2]) (by kernel_rfl) ⟨⟨_,rfl,?_⟩,⟨_,rfl,?_⟩,⟨_,rfl,?_⟩,trivial⟩
  ·refine e' rfl ?_
   refine C0.step rfl (j0:=1) (js:=[2]) (by kernel_rfl) ⟨⟨_,rfl,?_⟩,⟨_,rfl,?_⟩,trivial⟩
   ·refine e' rfl ?_
    refine C0.step rfl (j0:=2) (js:=[]) (by kernel_rfl) ⟨⟨_,rfl,?_⟩,trivial⟩
    refine e' rfl ?_
    refine C0.step rfl (j0:=3) (js:=[]) (by kernel_rfl) ⟨⟨_,rfl,?_⟩,trivial⟩
    refine g' [0] ((ih15 _ _ hx3).ok) rfl rfl rfl rfl rfl rfl (n' ?_)
    refine C0.step rfl (j0:=4) (js:=[]) (by kernel_rfl) ⟨⟨_,rfl,?_⟩,trivial⟩
    refine F0.be hC rfl (A0.rows_map [o3,x3.1]).symm (n' ?_)
    refine C0.step rfl (j0:=5) (js:=[]) (by kernel_rfl) ⟨⟨_,rfl,?_⟩,trivial⟩
    refine e' rfl ?_
    refine C0.step rfl (j0:=6) (js:=[]) (by kernel_rfl) ⟨⟨_,rfl,?_⟩,trivial⟩
    refine F0.s hC rfl (n' (C0.nil (by kernel_rfl) ?_))
    refine Z0.wk ?_ (ih14 _ _ _ hh)
    exact ⟨⟨⟨.rfl,rfl⟩,⟨.rfl,rfl⟩,⟨.rfl,rfl⟩,⟨.rfl,rfl⟩,trivial⟩,⟨⟨rfl,.refl _,rfl⟩,⟨rfl,.refl _,rfl⟩,⟨rfl,.refl _,rfl⟩,⟨rfl,⟨.rfl,.rfl,.rfl,.full,trivial⟩,rfl⟩,trivial⟩,rfl⟩
   ·refine e' rfl ?_
    refine C0.step rfl (j0:=1) (js:=[3]) (by kernel_rfl) ⟨⟨_,rfl,?_⟩,⟨_,rfl,?_⟩,trivial⟩
    ·refine e' rfl ?_
     refine C0.step rfl (j0:=3) (js:=[]) (by kernel_rfl) ⟨⟨_,rfl,?_⟩,trivial⟩
     refine g' [0] ((ih15 _ _ hx3).ok) rfl rfl rfl rfl rfl rfl (n' ?_)
     refine C0.step rfl (j0:=4) (js:=[]) (by kernel_rfl) ⟨⟨_,rfl,?_⟩,trivial⟩
     refine F0.be hC rfl (A0.rows_map [o3,x3.1]).symm (n' ?_)
     refine C0.step rfl (j0:=5) (js:=[]) (by kernel_rfl) ⟨⟨_,rfl,?_⟩,trivial⟩
     refine e' rfl ?_
     refine C0.step rfl (j0:=6) (js:=[]) (by kernel_rfl) ⟨⟨_,rfl,?_⟩,trivial⟩
     refine F0.s hC rfl (n' (C0.nil (by kernel_rfl) ?_))
     refine Z0.wk ?_ (ih14 _ _ _ hh)
     exact ⟨⟨⟨.rfl,rfl⟩,⟨.rfl,rfl⟩,⟨.rfl,rfl⟩,⟨.rfl,rfl⟩,trivial⟩,⟨⟨rfl,.refl _,rfl⟩,⟨rfl,.refl _,rfl⟩,⟨rfl,.refl _,rfl⟩,⟨rfl,⟨.rfl,.rfl,.rfl,.full,trivial⟩,rfl⟩,trivial⟩,rfl⟩
    ·refine g' [0] ((ih15 _ _ hx3).ok) rfl rfl rfl rfl rfl rfl (n' ?_)
     refine C0.step rfl (j0:=1) (js:=[]) (by kernel_rfl) ⟨⟨_,rfl,?_⟩,trivial⟩
     refine e' rfl ?_
     refine C0.step rfl (j0:=4) (js:=[]) (by kernel_rfl) ⟨⟨_,rfl,?_⟩,trivial⟩
     refine F0.be hC rfl (A0.rows_map [o3,x3.1]).symm (n' ?_)
     refine C0.step rfl (j0:=5) (js:=[]) (by kernel_rfl) ⟨⟨_,rfl,?_⟩,trivial⟩
     refine e' rfl ?_
     refine C0.step rfl (j0:=6) (js:=[]) (by kernel_rfl) ⟨⟨_,rfl,?_⟩,trivial⟩
     refine F0.s hC rfl (n' (C0.nil (by kernel_rfl) ?_))
     refine Z0.wk ?_ (ih14 _ _ _ hh)
     exact ⟨⟨⟨.rfl,rfl⟩,⟨.rfl,rfl⟩,⟨.rfl,rfl⟩,⟨.rfl,rfl⟩,trivial⟩,⟨⟨rfl,.refl _,rfl⟩,⟨rfl,.refl _,rfl⟩,⟨rfl,.refl _,rfl⟩,⟨rfl,⟨.rfl,.rfl,.rfl,.full,trivial⟩,rfl⟩,trivial⟩,rfl⟩
  ·refine e' rfl ?_
   refine C0.step rfl (j0:=0) (js:=[2]) (by kernel_rfl) ⟨⟨_,rfl,?_⟩,⟨_,rfl,?_⟩,trivial⟩
   ·refine e' rfl ?_
    refine C0.step rfl (j0:=2) (js:=[]) (by kernel_rfl) ⟨⟨_,rfl,?_⟩,trivial⟩
    refine e' rfl ?_
    refine C0.step rfl (j0:=3) (js:=[]) (by kernel_rfl) ⟨⟨_,rfl,?_⟩,trivial⟩
    refine g' [0] ((ih15 _ _ hx3).ok) rfl rfl rfl rfl rfl rfl (n' ?_)
    refine C0.step rfl (j0:=4) (js:=[]) (by kernel_rfl) ⟨⟨_,rfl,?_⟩,trivial⟩
    refine F0.be hC rfl (A0.rows_map [o3,x3.1]).symm (n' ?_)
    refine C0.step rfl (j0:=5) (js:=[]) (by kernel_rfl) ⟨⟨_,rfl,?_⟩,trivial⟩
    refine e' rfl ?_
    refine C0.step rfl (j0:=6) (js:=[]) (by kernel_rfl) ⟨⟨_,rfl,?_⟩,trivial⟩
    refine F0.s hC rfl (n' (C0.nil (by kernel_rfl) ?_))
    refine Z0.wk ?_ (ih14 _ _ _ hh)
    exact ⟨⟨⟨.rfl,rfl⟩,⟨.rfl,rfl⟩,⟨.rfl,rfl⟩,⟨.rfl,rfl⟩,trivial⟩,⟨⟨rfl,.refl _,rfl⟩,⟨rfl,.refl _,rfl⟩,⟨rfl,.refl _,rfl⟩,⟨rfl,⟨.rfl,.rfl,.rfl,.full,trivial⟩,rfl⟩,trivial⟩,rfl⟩
   ·refine e' rfl ?_
    refine C0.step rfl (j0:=0) (js:=[3]) (by kernel_rfl) ⟨⟨_,rfl,?_⟩,⟨_,rfl,?_⟩,trivial⟩
    ·refine e' rfl ?_
     refine C0.step rfl (j0:=3) (js:=[]) (by kernel_rfl) ⟨⟨_,rfl,?_⟩,trivial⟩
     refine g' [0] ((ih15 _ _ hx3).ok) rfl rfl rfl rfl rfl rfl (n' ?_)
     refine C0.step rfl (j0:=4) (js:=[]) (by kernel_rfl) ⟨⟨_,rfl,?_⟩,trivial⟩
     refine F0.be hC rfl (A0.rows_map [o3,x3.1]).symm (n' ?_)
     refine C0.step rfl (j0:=5) (js:=[]) (by kernel_rfl) ⟨⟨_,rfl,?_⟩,trivial⟩
     refine e' rfl ?_
     refine C0.step rfl (j0:=6) (js:=[]) (by kernel_rfl) ⟨⟨_,rfl,?_⟩,trivial⟩
     refine F0.s hC rfl (n' (C0.nil (by kernel_rfl) ?_))
     refine Z0.wk ?_ (ih14 _ _ _ hh)
     exact ⟨⟨⟨.rfl,rfl⟩,⟨.rfl,rfl⟩,⟨.rfl,rfl⟩,⟨.rfl,rfl⟩,trivial⟩,⟨⟨rfl,.refl _,rfl⟩,⟨rfl,.refl _,rfl⟩,⟨rfl,.refl _,rfl⟩,⟨rfl,⟨.rfl,.rfl,.rfl,.full,trivial⟩,rfl⟩,trivial⟩,rfl⟩
    ·refine g' [0] ((ih15 _ _ hx3).ok) rfl rfl rfl rfl rfl rfl (n' ?_)
     refine C0.step rfl (j0:=0) (js:=[4]) (by kernel_rfl) ⟨⟨_,rfl,?_⟩,⟨_,rfl,?_⟩,trivial⟩
     ·refine e' rfl ?_
      refine C0.step rfl (j0:=4) (js:=[]) (by kernel_rfl) ⟨⟨_,rfl,?_⟩,trivial⟩
      refine F0.be hC rfl (A0.rows_map [o3,x3.1]).symm (n' ?_)
      refine C0.step rfl (j0:=5) (js:=[]) (by kernel_rfl) ⟨⟨_,rfl,?_⟩,trivial⟩
      refine e' rfl ?_
      refine C0.step rfl (j0:=6) (js:=[]) (by kernel_rfl) ⟨⟨_,rfl,?_⟩,trivial⟩
      refine F0.s hC rfl (n' (C0.nil (by kernel_rfl) ?_))
      refine Z0.wk ?_ (ih14 _ _ _ hh)
      exact ⟨⟨⟨.rfl,rfl⟩,⟨.rfl,rfl⟩,⟨.rfl,rfl⟩,⟨.rfl,rfl⟩,trivial⟩,⟨⟨rfl,.refl _,rfl⟩,⟨rfl,.refl _,rfl⟩,⟨rfl,.refl _,rfl⟩,⟨rfl,⟨.rfl,.rfl,.rfl,.full,trivial⟩,rfl⟩,trivial⟩,rfl⟩
     ·refine F0.be hC rfl (A0.rows_map [o3,x3.1]).symm (n' ?_)
      refine C0.step rfl (j0:=0) (js:=[]) (by kernel_rfl) ⟨⟨_,rfl,?_⟩,trivial⟩
      refine e' rfl ?_
      refine C0.step rfl (j0:=5) (js:=[]) (by kernel_rfl) ⟨⟨_,rfl,?_⟩,trivial⟩
      refine e' rfl ?_
      refine C0.step rfl (j0:=6) (js:=[]) (by kernel_rfl) ⟨⟨_,rfl,?_⟩,trivial⟩
      refine F0.s hC rfl (n' (C0.nil (by kernel_rfl) ?_))
      refine Z0.wk ?_ (ih14 _ _ _ hh)
      exact ⟨⟨⟨.rfl,rfl⟩,⟨.rfl,rfl⟩,⟨.rfl,rfl⟩,⟨.rfl,rfl⟩,trivial⟩,⟨⟨rfl,.refl _,rfl⟩,⟨rfl,.refl _,rfl⟩,⟨rfl,.refl _,rfl⟩,⟨rfl,⟨.rfl,.rfl,.rfl,.full,trivial⟩,rfl⟩,trivial⟩,rfl⟩
  ·refine e' rfl ?_
   refine C0.step rfl (j0:=0) (js:=[1,3]) (by kernel_rfl) ⟨⟨_,rfl,?_⟩,⟨_,rfl,?_⟩,⟨_,rfl,?_⟩,trivial⟩
   ·refine e' rfl ?_
    refine C0.step rfl (j0:=1) (js:=[3]) (by kernel_rfl) ⟨⟨_,rfl,?_⟩,⟨_,rfl,?_⟩,trivial⟩
    ·refine e' rfl ?_
     refine C0.step rfl (j0:=3) (js:=[]) (by kernel_rfl) ⟨⟨_,rfl,?_⟩,trivial⟩
     refine g' [0] ((ih15 _ _ hx3).ok) rfl rfl rfl rfl rfl rfl (n' ?_)
     refine C0.step rfl (j0:=4) (js:=[]) (by kernel_rfl) ⟨⟨_,rfl,?_⟩,trivial⟩
     refine F0.be hC rfl (A0.rows_map [o3,x3.1]).symm (n' ?_)
     refine C0.step rfl (j0:=5) (js:=[]) (by kernel_rfl) ⟨⟨_,rfl,?_⟩,trivial⟩
     refine e' rfl ?_
     refine C0.step rfl (j0:=6) (js:=[]) (by kernel_rfl) ⟨⟨_,rfl,?_⟩,trivial⟩
     refine F0.s hC rfl (n' (C0.nil (by kernel_rfl) ?_))
     refine Z0.wk ?_ (ih14 _ _ _ hh)
     exact ⟨⟨⟨.rfl,rfl⟩,⟨.rfl,rfl⟩,⟨.rfl,rfl⟩,⟨.rfl,rfl⟩,trivial⟩,⟨⟨rfl,.refl _,rfl⟩,⟨rfl,.refl _,rfl⟩,⟨rfl,.refl _,rfl⟩,⟨rfl,⟨.rfl,.rfl,.rfl,.full,trivial⟩,rfl⟩,trivial⟩,rfl⟩
    ·refine g' [0] ((ih15 _ _ hx3).ok) rfl rfl rfl rfl rfl rfl (n' ?_)
     refine C0.step rfl (j0:=1) (js:=[]) (by kernel_rfl) ⟨⟨_,rfl,?_⟩,trivial⟩
     refine e' rfl ?_
     refine C0.step rfl (j0:=4) (js:=[]) (by kernel_rfl) ⟨⟨_,rfl,?_⟩,trivial⟩
     refine F0.be hC rfl (A0.rows_map [o3,x3.1]).symm (n' ?_)
     refine C0.step rfl (j0:=5) (js:=[]) (by kernel_rfl) ⟨⟨_,rfl,?_⟩,trivial⟩
     refine e' rfl ?_
     refine C0.step rfl (j0:=6) (js:=[]) (by kernel_rfl) ⟨⟨_,rfl,?_⟩,trivial⟩
     refine F0.s hC rfl (n' (C0.nil (by kernel_rfl) ?_))
     refine Z0.wk ?_ (ih14 _ _ _ hh)
     exact ⟨⟨⟨.rfl,rfl⟩,⟨.rfl,rfl⟩,⟨.rfl,rfl⟩,⟨.rfl,rfl⟩,trivial⟩,⟨⟨rfl,.refl _,rfl⟩,⟨rfl,.refl _,rfl⟩,⟨rfl,.refl _,rfl⟩,⟨rfl,⟨.rfl,.rfl,.rfl,.full,trivial⟩,rfl⟩,trivial⟩,rfl⟩
   ·refine e' rfl ?_
    refine C0.step rfl (j0:=0) (js:=[3]) (by kernel_rfl) ⟨⟨_,rfl,?_⟩,⟨_,rfl,?_⟩,trivial⟩
    ·refine e' rfl ?_
     refine C0.step rfl (j0:=3) (js:=[]) (by kernel_rfl) ⟨⟨_,rfl,?_⟩,trivial⟩
     refine g' [0] ((ih15 _ _ hx3).ok) rfl rfl rfl rfl rfl rfl (n' ?_)
     refine C0.step rfl (j0:=4) (js:=[]) (by kernel_rfl) ⟨⟨_,rfl,?_⟩,trivial⟩
     refine F0.be hC rfl (A0.rows_map [o3,x3.1]).symm (n' ?_)
     refine C0.step rfl (j0:=5) (js:=[]) (by kernel_rfl) ⟨⟨_,rfl,?_⟩,trivial⟩
     refine e' rfl ?_
     refine C0.step rfl (j0:=6) (js:=[]) (by kernel_rfl) ⟨⟨_,rfl,?_⟩,trivial⟩
     refine F0.s hC rfl (n' (C0.nil (by kernel_rfl) ?_))
     refine Z0.wk ?_ (ih14 _ _ _ hh)
     exact ⟨⟨⟨.rfl,rfl⟩,⟨.rfl,rfl⟩,⟨.rfl,rfl⟩,⟨.rfl,rfl⟩,trivial⟩,⟨⟨rfl,.refl _,rfl⟩,⟨rfl,.refl _,rfl⟩,⟨rfl,.refl _,rfl⟩,⟨rfl,⟨.rfl,.rfl,.rfl,.full,trivial⟩,rfl⟩,trivial⟩,rfl⟩
    ·refine g' [0] ((ih15 _ _ hx3).ok) rfl rfl rfl rfl rfl rfl (n' ?_)
     refine C0.step rfl (j0:=0) (js:=[4]) (by kernel_rfl) ⟨⟨_,rfl,?_⟩,⟨_,rfl,?_⟩,trivial⟩
     ·refine e' rfl ?_
      refine C0.step rfl (j0:=4) (js:=[]) (by kernel_rfl) ⟨⟨_,rfl,?_⟩,trivial⟩
      refine F0.be hC rfl (A0.rows_map [o3,x3.1]).symm (n' ?_)
      refine C0.step rfl (j0:=5) (js:=[]) (by kernel_rfl) ⟨⟨_,rfl,?_⟩,trivial⟩
      refine e' rfl ?_
      refine C0.step rfl (j0:=6) (js:=[]) (by kernel_rfl) ⟨⟨_,rfl,?_⟩,trivial⟩
      refine F0.s hC rfl (n' (C0.nil (by kernel_rfl) ?_))
      refine Z0.wk ?_ (ih14 _ _ _ hh)
      exact ⟨⟨⟨.rfl,rfl⟩,⟨.rfl,rfl⟩,⟨.rfl,rfl⟩,⟨.rfl,rfl⟩,trivial⟩,⟨⟨rfl,.refl _,rfl⟩,⟨rfl,.refl _,rfl⟩,⟨rfl,.refl _,rfl⟩,⟨rfl,⟨.rfl,.rfl,.rfl,.full,trivial⟩,rfl⟩,trivial⟩,rfl⟩
     ·refine F0.be hC rfl (A0.rows_map [o3,x3.1]).symm (n' ?_)
      refine C0.step rfl (j0:=0) (js:=[]) (by kernel_rfl) ⟨⟨_,rfl,?_⟩,trivial⟩
      refine e' rfl ?_
      refine C0.step rfl (j0:=5) (js:=[]) (by kernel_rfl) ⟨⟨_,rfl,?_⟩,trivial⟩
      refine e' rfl ?_
      refine C0.step rfl (j0:=6) (js:=[]) (by kernel_rfl) ⟨⟨_,rfl,?_⟩,trivial⟩
      refine F0.s hC rfl (n' (C0.nil (by kernel_rfl) ?_))
      refine Z0.wk ?_ (ih14 _ _ _ hh)
      exact ⟨⟨⟨.rfl,rfl⟩,⟨.rfl,rfl⟩,⟨.rfl,rfl⟩,⟨.rfl,rfl⟩,trivial⟩,⟨⟨rfl,.refl _,rfl⟩,⟨rfl,.refl _,rfl⟩,⟨rfl,.refl _,rfl⟩,⟨rfl,⟨.rfl,.rfl,.rfl,.full,trivial⟩,rfl⟩,trivial⟩,rfl⟩
   ·refine g' [0] ((ih15 _ _ hx3).ok) rfl rfl rfl rfl rfl rfl (n' ?_)
    refine C0.step rfl (j0:=0) (js:=[1]) (by kernel_rfl) ⟨⟨_,rfl,?_⟩,⟨_,rfl,?_⟩,trivial⟩
    ·refine e' rfl ?_
     refine C0.step rfl (j0:=1) (js:=[]) (by kernel_rfl) ⟨⟨_,rfl,?_⟩,trivial⟩
     refine e' rfl ?_
     refine C0.step rfl (j0:=4) (js:=[]) (by kernel_rfl) ⟨⟨_,rfl,?_⟩,trivial⟩
     refine F0.be hC rfl (A0.rows_map [o3,x3.1]).symm (n' ?_)
     refine C0.step rfl (j0:=5) (js:=[]) (by kernel_rfl) ⟨⟨_,rfl,?_⟩,trivial⟩
     refine e' rfl ?_
     refine C0.step rfl (j0:=6) (js:=[]) (by kernel_rfl) ⟨⟨_,rfl,?_⟩,trivial⟩
     refine F0.s hC rfl (n' (C0.nil (by kernel_rfl) ?_))
     refine Z0.wk ?_ (ih14 _ _ _ hh)
     exact ⟨⟨⟨.rfl,rfl⟩,⟨.rfl,rfl⟩,⟨.rfl,rfl⟩,⟨.rfl,rfl⟩,trivial⟩,⟨⟨rfl,.refl _,rfl⟩,⟨rfl,.refl _,rfl⟩,⟨rfl,.refl _,rfl⟩,⟨rfl,⟨.rfl,.rfl,.rfl,.full,trivial⟩,rfl⟩,trivial⟩,rfl⟩
    ·refine e' rfl ?_
     refine C0.step rfl (j0:=0) (js:=[4]) (by kernel_rfl) ⟨⟨_,rfl,?_⟩,⟨_,rfl,?_⟩,trivial⟩
     ·refine e' rfl ?_
      refine C0.step rfl (j0:=4) (js:=[]) (by kernel_rfl) ⟨⟨_,rfl,?_⟩,trivial⟩
      refine F0.be hC rfl (A0.rows_map [o3,x3.1]).symm (n' ?_)
      refine C0.step rfl (j0:=5) (js:=[]) (by kernel_rfl) ⟨⟨_,rfl,?_⟩,trivial⟩
      refine e' rfl ?_
      refine C0.step rfl (j0:=6) (js:=[]) (by kernel_rfl) ⟨⟨_,rfl,?_⟩,trivial⟩
      refine F0.s hC rfl (n' (C0.nil (by kernel_rfl) ?_))
      refine Z0.wk ?_ (ih14 _ _ _ hh)
      exact ⟨⟨⟨.rfl,rfl⟩,⟨.rfl,rfl⟩,⟨.rfl,rfl⟩,⟨.rfl,rfl⟩,trivial⟩,⟨⟨rfl,.refl _,rfl⟩,⟨rfl,.refl _,rfl⟩,⟨rfl,.refl _,rfl⟩,⟨rfl,⟨.rfl,.rfl,.rfl,.full,trivial⟩,rfl⟩,trivial⟩,rfl⟩
     ·refine F0.be hC rfl (A0.rows_map [o3,x3.1]).symm (n' ?_)
      refine C0.step rfl (j0:=0) (js:=[]) (by kernel_rfl) ⟨⟨_,rfl,?_⟩,trivial⟩
      refine e' rfl ?_
      refine C0.step rfl (j0:=5) (js:=[]) (by kernel_rfl) ⟨⟨_,rfl,?_⟩,trivial⟩
      refine e' rfl ?_
      refine C0.step rfl (j0:=6) (js:=[]) (by kernel_rfl) ⟨⟨_,rfl,?_⟩,trivial⟩
      refine F0.s hC rfl (n' (C0.nil (by kernel_rfl) ?_))
      refine Z0.wk ?_ (ih14 _ _ _ hh)
      exact ⟨⟨⟨.rfl,rfl⟩,⟨.rfl,rfl⟩,⟨.rfl,rfl⟩,⟨.rfl,rfl⟩,trivial⟩,⟨⟨rfl,.refl _,rfl⟩,⟨rfl,.refl _,rfl⟩,⟨rfl,.refl _,rfl⟩,⟨rfl,⟨.rfl,.rfl,.rfl,.full,trivial⟩,rfl⟩,trivial⟩,rfl⟩
 ·intro g15 g16 ih15 ih16 parserParser res hh
  obtain ⟨x1,hx1,hh⟩:=bs' hh
  refine T2.intro hC Tryd.func52 rfl rfl rfl (s' rfl rfl (F0.nf hC rfl (n' (S' (bk' (p' 1 rfl (g' [0] (W0 hx1) rfl rfl rfl rfl rfl rfl (e' rfl (ci' rfl hh (fun hh=>?_) (fun hh=>?_))))))))))
  ·refine p' 1 rfl ?_
   rcases bp' hh with ⟨nn,hx4,⟨⟩⟩ | ⟨x4,hx4,hh⟩
   ·exact gn' [0] (ih15 _ _ hx4) rfl rfl rfl rfl rfl (fun hi=>peW ⟨trivial,trivial⟩ rfl hi)
   refine g' [0] ((ih15 _ _ hx4).ok) rfl rfl rfl rfl rfl rfl (F0.be hC rfl (A0.rows_map [x4.1]).symm (q' rfl (F0.s hC rfl (n' (re' ?_)))))
   obtain rfl:=oi' hh
   exact ⟨_,.agg [.d (.int .i64 6),.d (.int .i64 0),.d (.str []),.d (.sl (A0.rows [x4.1]))],[.row (B0.cells x4.2) 45],rfl,(.aggL ⟨.rfl,.rfl,.rfl,.full,trivial⟩),⟨⟨rfl,.refl _,rfl⟩,trivial⟩,rfl,rfl,rpq rfl rfl⟩
  obtain ⟨x2,hx2,hh⟩:=bs' hh
  refine p' 1 rfl (g' [0] (W0 hx2) rfl rfl rfl rfl rfl rfl (e' rfl (ci' rfl hh (fun hh=>?_) (fun hh=>?_))))
  ·refine p' 1 rfl ?_
   rcases bp' hh with ⟨nn,hx5,⟨⟩⟩ | ⟨x5,hx5,hh⟩
   ·exact gn' [0] (ih15 _ _ hx5) rfl rfl rfl rfl rfl (fun hi=>peW ⟨trivial,trivial⟩ rfl hi)
   refine g' [0] ((ih15 _ _ hx5).ok) rfl rfl rfl rfl rfl rfl (F0.be hC rfl (A0.rows_map [x5.1]).symm (q' rfl (F0.s hC rfl (n' (re' ?_)))))
   obtain rfl:=oi' hh
   exact ⟨_,.agg [.d (.int .i64 7),.d (.int .i64 0),.d (.str []),.d (.sl (A0.rows [x5.1]))],[.row (B0.cells x5.2) 45],rfl,(.aggL ⟨.rfl,.rfl,.rfl,.full,trivial⟩),⟨⟨rfl,.refl _,rfl⟩,trivial⟩,rfl,rfl,rpq rfl rfl⟩
  refine sk' (p' 1 rfl ?_)
  rcases bp' hh with ⟨nn,hx3,⟨⟩⟩ | ⟨x3,hx3,hh⟩
  ·exact gn' [0] (ih16 _ _ hx3) rfl rfl rfl rfl rfl (fun hi=>peW ⟨trivial,trivial⟩ rfl hi)
  cases hh
  exact g' [0] ((ih16 _ _ hx3).ok) rfl rfl rfl rfl rfl rfl (F0.s hC rfl (n' (re' (rt' rfl rfl rfl))))
 ·intro g0 g17 g18 ih0 ih17 ih18 parserParser res hh
  obtain ⟨x1,hx1,hh⟩:=bs' hh
  refine T2.intro hC Tryd.func57 rfl rfl rfl (s' rfl rfl (F0.nf hC rfl (n' (S' (bk' (p' 1 rfl (g' [0] (Sk hx1) rfl rfl rfl rfl rfl rfl (e' rfl (ci' rfl hh (fun hh=>?_) (fun hh=>?_))))))))))
  ·refine p' 1 rfl ?_
   rcases bp' hh with ⟨nn,hx2,⟨⟩⟩ | ⟨x2,hx2,hh⟩
   ·exact gn' [0] (ih18 _ _ hx2) rfl rfl rfl rfl rfl (fun hi=>peW ⟨trivial,trivial⟩ rfl hi)
   cases hh
   exact g' [0] ((ih18 _ _ hx2).ok) rfl rfl rfl rfl rfl rfl (F0.s hC rfl (n' (re' (rt' rfl rfl rfl))))
  obtain ⟨x3,hx3,hh⟩:=bs' hh
  refine p' 1 rfl (g' [0] (W0 hx3) rfl rfl rfl rfl rfl rfl (e' rfl (ci' rfl hh (fun hh=>?_) (fun hh=>?_))))
  ·cases hh
   exact p' 1 rfl (F0.s hC rfl (n' (re' (rt' rfl rfl rfl))))
  obtain ⟨x4,hx4,hh⟩:=bs' hh
  refine p' 1 rfl (g' [0] (W0 hx4) rfl rfl rfl rfl rfl rfl (e' rfl (ci' rfl hh (fun hh=>?_) (fun hh=>?_))))
  ·cases hh
   exact p' 1 rfl (F0.s hC rfl (n' (re' (rt' rfl rfl rfl))))
  obtain ⟨x5,hx5,hh⟩:=bs' hh
  refine p' 1 rfl (g' [0] (W0 hx5) rfl rfl rfl rfl rfl rfl (e' rfl (ci' rfl hh (fun hh=>?_) (fun hh=>?_))))
  ·refine p' 1 rfl ?_
   rcases bp' hh with ⟨nn,hx11,⟨⟩⟩ | ⟨x11,hx11,hh⟩
   ·exact gn' [0] (ih17 _ _ _ hx11) rfl rfl rfl rfl rfl (fun hi=>peW ⟨trivial,trivial⟩ rfl hi)
   cases hh
   exact g' [0] ((ih17 _ _ _ hx11).ok) rfl rfl rfl rfl rfl rfl (F0.s hC rfl (n' (re' (rt' rfl rfl rfl))))
  obtain ⟨x6,hx6,hh⟩:=bs' hh
  refine p' 1 rfl (g' [0] (W0 hx6) rfl rfl rfl rfl rfl rfl (e' rfl (ci' rfl hh (fun hh=>?_) (fun hh=>?_))))
  ·refine p' 1 rfl ?_
   rcases bp' hh with ⟨nn,hx12,⟨⟩⟩ | ⟨x12,hx12,hh⟩
   ·exact gn' [0] (ih17 _ _ _ hx12) rfl rfl rfl rfl rfl (fun hi=>peW ⟨trivial,trivial⟩ rfl hi)
   cases hh
   exact g' [0] ((ih17 _ _ _ hx12).ok) rfl rfl rfl rfl rfl rfl (F0.s hC rfl (n' (re' (rt' rfl rfl rfl))))
  obtain ⟨x7,hx7,hh⟩:=bs' hh
  refine p' 1 rfl (g' [0] (W0 hx7) rfl rfl rfl rfl rfl rfl (e' rfl (ci' rfl hh (fun hh=>?_) (fun hh=>?_))))
  ·refine p' 1 rfl ?_
   rcases bp' hh with ⟨nn,hx9,⟨⟩⟩ | ⟨x9,hx9,hh⟩
   ·exact gn' [0] (ih0 _ _ hx9) rfl rfl rfl rfl rfl (fun hi=>peW ⟨trivial,trivial⟩ rfl hi)
   refine g' [0] ((ih0 _ _ hx9).ok) rfl rfl rfl rfl rfl rfl (F0.nf hC rfl (F0.s hC rfl (n' (p' 1 rfl ?_))))
   rcases bp' hh with ⟨nn,hx10,⟨⟩⟩ | ⟨x10,hx10,hh⟩
   ·exact gn' [0] (J2 hx10) rfl rfl rfl rfl rfl (fun hi=>peW ⟨trivial,trivial⟩ rfl hi)
   cases hh
   exact g' [0] ((J2 hx10).ok) rfl rfl rfl rfl rfl rfl (n' (p' 1 rfl (F0.s hC rfl (n' (re' (rt' rfl rfl rfl))))))
  refine sk' (p' 1 rfl ?_)
  rcases bp' hh with ⟨nn,hx8,⟨⟩⟩ | ⟨x8,hx8,hh⟩
  ·exact gn' [0] (Ie hx8) rfl rfl rfl rfl rfl (fun hi=>peW ⟨trivial,trivial⟩ rfl hi)
  cases hh
  exact g' [0] ((Ie hx8).ok) rfl rfl rfl rfl rfl rfl (q' rfl (F0.s hC rfl (n' (re' (rt' rfl rfl rfl)))))
 ·intro g0 ih0 op parserParser res hh
  refine T2.intro hC Tryd.func61 rfl rfl rfl (s' rfl rfl (F0.nf hC rfl (n' (p' 1 rfl ?_))))
  rcases bp' hh with ⟨nn,hx1,⟨⟩⟩ | ⟨x1,hx1,hh⟩
  ·exact gn' [0] (J2 hx1) rfl rfl rfl rfl rfl (fun hi=>peW ⟨trivial,trivial⟩ rfl hi)
  refine g' [0] ((J2 hx1).ok) rfl rfl rfl rfl rfl rfl (n' (p' 1 rfl ?_))
  rcases bp' hh with ⟨nn,hx2,⟨⟩⟩ | ⟨x2,hx2,hh⟩
  ·exact gn' [0] (ih0 _ _ hx2) rfl rfl rfl rfl rfl (fun hi=>peW ⟨trivial,trivial⟩ rfl hi)
  refine g' [0] ((ih0 _ _ hx2).ok) rfl rfl rfl rfl rfl rfl (F0.nf hC rfl (F0.s hC rfl (n' (p' 1 rfl ?_))))
  rcases bp' hh with ⟨nn,hx3,⟨⟩⟩ | ⟨x3,hx3,hh⟩
  ·exact gn' [0] (J2 hx3) rfl rfl rfl rfl rfl (fun hi=>peW ⟨trivial,trivial⟩ rfl hi)
  refine g' [0] ((J2 hx3).ok) rfl rfl rfl rfl rfl rfl (n' (p' 1 rfl ?_))
  rcases bp' hh with ⟨nn,hx4,⟨⟩⟩ | ⟨x4,hx4,hh⟩
  ·exact gn' [0] (ih0 _ _ hx4) rfl rfl rfl rfl rfl (fun hi=>peW ⟨trivial,trivial⟩ rfl hi)
  refine g' [0] ((ih0 _ _ hx4).ok) rfl rfl rfl rfl rfl rfl (F0.nf hC rfl (F0.s hC rfl (n' (p' 1 rfl ?_))))
  rcases bp' hh with ⟨nn,hx5,⟨⟩⟩ | ⟨x5,hx5,hh⟩
  ·exact gn' [0] (J2 hx5) rfl rfl rfl rfl rfl (fun hi=>peW ⟨trivial,trivial⟩ rfl hi)
  refine g' [0] ((J2 hx5).ok) rfl rfl rfl rfl rfl rfl (n' (p' 3 rfl (F0.be hC rfl (A0.rows_map [x2.1,x4.1]).symm (q' rfl (F0.s hC rfl (n' (re' ?_)))))))
  obtain rfl:=oi' hh
  exact ⟨_,.agg [.d (.int .i64 op),.d (.int .i64 0),.d (.str []),.d (.sl (A0.rows [x2.1,x4.1]))],[.row (B0.cells x5) 45],rfl,(.aggL ⟨.rfl,.rfl,.rfl,.full,trivial⟩),⟨⟨rfl,.refl _,rfl⟩,trivial⟩,rfl,rfl,rpq rfl rfl⟩
 ·intro g19 ih19 parserParser res hh
  refine T2.intro hC Tryd.func60 rfl rfl rfl (s' rfl rfl (F0.nf hC rfl (n' (p' 1 rfl ?_))))
  rcases bp' hh with ⟨nn,hx1,⟨⟩⟩ | ⟨x1,hx1,hh⟩
  ·exact gn' [0] (X1 hx1) rfl rfl rfl rfl rfl (fun hi=>peW ⟨trivial,trivial⟩ rfl hi)
  exact g' [0] ((X1 hx1).ok) rfl rfl rfl rfl rfl rfl (q' rfl (F0.nf hC rfl (F0.s hC rfl (n' (bk' (fw' (ih19 _ _ _ _ _ hh) rfl rfl rfl))))))
 ·intro g0 g19 ih0 ih19 o0 o2_Op o2_Name o2_Kids res hh
  obtain ⟨x2,hx2,hh⟩:=bs' hh
  refine Z0.unroll (bk' (bk' (p' 1 rfl (g' [0] (W0 hx2) rfl rfl rfl rfl rfl rfl (e' rfl (ci' rfl hh (fun hh=>?_) (fun hh=>?_)))))))
  ·rcases bp' hh with ⟨nn,hx3,⟨⟩⟩ | ⟨x3,hx3,hh⟩
   ·refine AEx.drawE hC ?_
    refine C0.step rfl (j0:=0) (js:=[2]) (by kernel_rfl) ⟨⟨_,rfl,?_⟩,⟨_,rfl,?_⟩,trivial⟩
    ·refine e' rfl ?_
     refine C0.step rfl (j0:=1) (js:=[2]) (by kernel_rfl) ⟨⟨_,rfl,?_⟩,⟨_,rfl,?_⟩,trivial⟩
     ·exact gn' [0] (X1 hx3) rfl rfl rfl rfl rfl (fun hi=>peW ⟨trivial,trivial⟩ rfl hi)
     ·refine e' rfl ?_
      refine C0.step rfl (j0:=1) (js:=[3]) (by kernel_rfl) ⟨⟨_,rfl,?_⟩,⟨_,rfl,?_⟩,trivial⟩
      ·exact gn' [0] (X1 hx3) rfl rfl rfl rfl rfl (fun hi=>peW ⟨trivial,trivial⟩ rfl hi)
      ·refine F0.be hC rfl (A0.rows_map [(A0.mk o2_Op 0 o2_Name o2_Kids)]).symm (n' ?_)
       refine C0.step rfl (j0:=1) (js:=[]) (by kernel_rfl) ⟨⟨_,rfl,?_⟩,trivial⟩
       exact gn' [0] (X1 hx3) rfl rfl rfl rfl rfl (fun hi=>peW ⟨trivial,trivial⟩ rfl hi)
    ·refine e' rfl ?_
     refine C0.step rfl (j0:=0) (js:=[3]) (by kernel_rfl) ⟨⟨_,rfl,?_⟩,⟨_,rfl,?_⟩,trivial⟩
     ·refine e' rfl ?_
      refine C0.step rfl (j0:=1) (js:=[3]) (by kernel_rfl) ⟨⟨_,rfl,?_⟩,⟨_,rfl,?_⟩,trivial⟩
      ·exact gn' [0] (X1 hx3) rfl rfl rfl rfl rfl (fun hi=>peW ⟨trivial,trivial⟩ rfl hi)
      ·refine F0.be hC rfl (A0.rows_map [(A0.mk o2_Op 0 o2_Name o2_Kids)]).symm (n' ?_)
       refine C0.step rfl (j0:=1) (js:=[]) (by kernel_rfl) ⟨⟨_,rfl,?_⟩,trivial⟩
       exact gn' [0] (X1 hx3) rfl rfl rfl rfl rfl (fun hi=>peW ⟨trivial,trivial⟩ rfl hi)
     ·refine F0.be hC rfl (A0.rows_map [(A0.mk o2_Op 0 o2_Name o2_Kids)]).symm (n' ?_)
      refine C0.step rfl (j0:=0) (js:=[]) (by kernel_rfl) ⟨⟨_,rfl,?_⟩,trivial⟩
      refine e' rfl ?_
      refine C0.step rfl (j0:=1) (js:=[]) (by kernel_rfl) ⟨⟨_,rfl,?_⟩,trivial⟩
      exact gn' [0] (X1 hx3) rfl rfl rfl rfl rfl (fun hi=>peW ⟨trivial,trivial⟩ rfl hi)
   refine AEx.drawE hC ?_
   refine C0.step rfl (j0:=0) (js:=[2]) (by kernel_rfl) ⟨⟨_,rfl,?_⟩,⟨_,rfl,?_⟩,trivial⟩
   ·refine e' rfl ?_
    refine C0.step rfl (j0:=1) (js:=[2]) (by kernel_rfl) ⟨⟨_,rfl,?_⟩,⟨_,rfl,?_⟩,trivial⟩
    ·refine g' [0] ((X1 hx3).ok) rfl rfl rfl rfl rfl rfl (n' ?_)
     refine C0.step rfl (j0:=2) (js:=[]) (by kernel_rfl) ⟨⟨_,rfl,?_⟩,trivial⟩
     refine e' rfl ?_
     refine C0.step rfl (j0:=3) (js:=[]) (by kernel_rfl) ⟨⟨_,rfl,?_⟩,trivial⟩
     refine F0.be hC rfl (A0.rows_map [(A0.mk o2_Op 0 o2_Name o2_Kids)]).symm (n' ?_)
     refine C0.step rfl (j0:=4) (js:=[]) (by kernel_rfl) ⟨⟨_,rfl,?_⟩,trivial⟩
     refine e' rfl ?_
     refine C0.step rfl (j0:=5) (js:=[]) (by kernel_rfl) ⟨⟨_,rfl,?_⟩,trivial⟩
     refine F0.s hC rfl (n' (C0.nil (by kernel_rfl) ?_))
     refine Z0.wk ?_ (ih19 _ _ _ _ _ hh)
     exact ⟨⟨⟨.rfl,rfl⟩,⟨.rfl,rfl⟩,⟨.rfl,rfl⟩,trivial⟩,⟨⟨rfl,.refl _,rfl⟩,⟨rfl,.refl _,rfl⟩,⟨rfl,⟨.rfl,.rfl,.rfl,.full,trivial⟩,rfl⟩,trivial⟩,rfl⟩
    ·refine e' rfl ?_
     refine C0.step rfl (j0:=1) (js:=[3]) (by kernel_rfl) ⟨⟨_,rfl,?_⟩,⟨_,rfl,?_⟩,trivial⟩
     ·refine g' [0] ((X1 hx3).ok) rfl rfl rfl rfl rfl rfl (n' ?_)
      refine C0.step rfl (j0:=3) (js:=[]) (by kernel_rfl) ⟨⟨_,rfl,?_⟩,trivial⟩
      refine F0.be hC rfl (A0.rows_map [(A0.mk o2_Op 0 o2_Name o2_Kids)]).symm (n' ?_)
      refine C0.step rfl (j0:=4) (js:=[]) (by kernel_rfl) ⟨⟨_,rfl,?_⟩,trivial⟩
      refine e' rfl ?_
      refine C0.step rfl (j0:=5) (js:=[]) (by kernel_rfl) ⟨⟨_,rfl,?_⟩,trivial⟩
      refine F0.s hC rfl (n' (C0.nil (by kernel_rfl) ?_))
      refine Z0.wk ?_ (ih19 _ _ _ _ _ hh)
      exact ⟨⟨⟨.rfl,rfl⟩,⟨.rfl,rfl⟩,⟨.rfl,rfl⟩,trivial⟩,⟨⟨rfl,.refl _,rfl⟩,⟨rfl,.refl _,rfl⟩,⟨rfl,⟨.rfl,.rfl,.rfl,.full,trivial⟩,rfl⟩,trivial⟩,rfl⟩
     ·refine F0.be hC rfl (A0.rows_map [(A0.mk o2_Op 0 o2_Name o2_Kids)]).symm (n' ?_)
      refine C0.step rfl (j0:=1) (js:=[]) (by kernel_rfl) ⟨⟨_,rfl,?_⟩,trivial⟩
      refine g' [0] ((X1 hx3).ok) rfl rfl rfl rfl rfl rfl (n' ?_)
      refine C0.step rfl (j0:=4) (js:=[]) (by kernel_rfl) ⟨⟨_,rfl,?_⟩,trivial⟩
      refine e' rfl ?_
      refine C0.step rfl (j0:=5) (js:=[]) (by kernel_rfl) ⟨⟨_,rfl,?_⟩,trivial⟩
      refine F0.s hC rfl (n' (C0.nil (by kernel_rfl) ?_))
      refine Z0.wk ?_ (ih19 _ _ _ _ _ hh)
      exact ⟨⟨⟨.rfl,rfl⟩,⟨.rfl,rfl⟩,⟨.rfl,rfl⟩,trivial⟩,⟨⟨rfl,.refl _,rfl⟩,⟨rfl,.refl _,rfl⟩,⟨rfl,⟨.rfl,.rfl,.rfl,.full,trivial⟩,rfl⟩,trivial⟩,rfl⟩
   ·refine e' rfl ?_
    refine C0.step rfl (j0:=0) (js:=[3]) (by kernel_rfl) ⟨⟨_,rfl,?_⟩,⟨_,rfl,?_⟩,trivial⟩
    ·refine e' rfl ?_
     refine C0.step rfl (j0:=1) (js:=[3]) (by kernel_rfl) ⟨⟨_,rfl,?_⟩,⟨_,rfl,?_⟩,trivial⟩
     ·refine g' [0] ((X1 hx3).ok) rfl rfl rfl rfl rfl rfl (n' ?_)
      refine C0.step rfl (j0:=3) (js:=[]) (by kernel_rfl) ⟨⟨_,rfl,?_⟩,trivial⟩
      refine F0.be hC rfl (A0.rows_map [(A0.mk o2_Op 0 o2_Name o2_Kids)]).symm (n' ?_)
      refine C0.step rfl (j0:=4) (js:=[]) (by kernel_rfl) ⟨⟨_,rfl,?_⟩,trivial⟩
      refine e' rfl ?_
      refine C0.step rfl (j0:=5) (js:=[]) (by kernel_rfl) ⟨⟨_,rfl,?_⟩,trivial⟩
      refine F0.s hC rfl (n' (C0.nil (by kernel_rfl) ?_))
      refine Z0.wk ?_ (ih19 _ _ _ _ _ hh)
      exact ⟨⟨⟨.rfl,rfl⟩,⟨.rfl,rfl⟩,⟨.rfl,rfl⟩,trivial⟩,⟨⟨rfl,.refl _,rfl⟩,⟨rfl,.refl _,rfl⟩,⟨rfl,⟨.rfl,.rfl,.rfl,.full,trivial⟩,rfl⟩,trivial⟩,rfl⟩
     ·refine F0.be hC rfl (A0.rows_map [(A0.mk o2_Op 0 o2_Name o2_Kids)]).symm (n' ?_)
      refine C0.step rfl (j0:=1) (js:=[]) (by kernel_rfl) ⟨⟨_,rfl,?_⟩,trivial⟩
      refine g' [0] ((X1 hx3).ok) rfl rfl rfl rfl rfl rfl (n' ?_)
      refine C0.step rfl (j0:=4) (js:=[]) (by kernel_rfl) ⟨⟨_,rfl,?_⟩,trivial⟩
      refine e' rfl ?_
      refine C0.step rfl (j0:=5) (js:=[]) (by kernel_rfl) ⟨⟨_,rfl,?_⟩,trivial⟩
      refine F0.s hC rfl (n' (C0.nil (by kernel_rfl) ?_))
      refine Z0.wk ?_ (ih19 _ _ _ _ _ hh)
      exact ⟨⟨⟨.rfl,rfl⟩,⟨.rfl,rfl⟩,⟨.rfl,rfl⟩,trivial⟩,⟨⟨rfl,.refl _,rfl⟩,⟨rfl,.refl _,rfl⟩,⟨rfl,⟨.rfl,.rfl,.rfl,.full,trivial⟩,rfl⟩,trivial⟩,rfl⟩
    ·refine F0.be hC rfl (A0.rows_map [(A0.mk o2_Op 0 o2_Name o2_Kids)]).symm (n' ?_)
     refine C0.step rfl (j0:=0) (js:=[]) (by kernel_rfl) ⟨⟨_,rfl,?_⟩,trivial⟩
     refine e' rfl ?_
     refine C0.step rfl (j0:=1) (js:=[]) (by kernel_rfl) ⟨⟨_,rfl,?_⟩,trivial⟩
     refine g' [0] ((X1 hx3).ok) rfl rfl rfl rfl rfl rfl (n' ?_)
     refine C0.step rfl (j0:=4) (js:=[]) (by kernel_rfl) ⟨⟨_,rfl,?_⟩,trivial⟩
     refine e' rfl ?_
     refine C0.step rfl (j0:=5) (js:=[]) (by kernel_rfl) ⟨⟨_,rfl,?_⟩,trivial⟩
     refine F0.s hC rfl (n' (C0.nil (by kernel_rfl) ?_))
     refine Z0.wk ?_ (ih19 _ _ _ _ _ hh)
     exact ⟨⟨⟨.rfl,rfl⟩,⟨.rfl,rfl⟩,⟨.rfl,rfl⟩,trivial⟩,⟨⟨rfl,.refl _,rfl⟩,⟨rfl,.refl _,rfl⟩,⟨rfl,⟨.rfl,.rfl,.rfl,.full,trivial⟩,rfl⟩,trivial⟩,rfl⟩
  obtain ⟨x4,hx4,hh⟩:=bs' hh
  refine p' 1 rfl (g' [0] (W0 hx4) rfl rfl rfl rfl rfl rfl (e' rfl (ci' rfl hh (fun hh=>?_) (fun hh=>?_))))
  ·refine p' 1 rfl ?_
   rcases bp' hh with ⟨nn,hx5,⟨⟩⟩ | ⟨x5,hx5,hh⟩
   ·exact gn' [0] (ih0 _ _ hx5) rfl rfl rfl rfl rfl (fun hi=>peW ⟨trivial,trivial⟩ rfl hi)
   refine g' [0] ((ih0 _ _ hx5).ok) rfl rfl rfl rfl rfl rfl (F0.nf hC rfl (F0.s hC rfl (n' (p' 1 rfl ?_))))
   rcases bp' hh with ⟨nn,hx6,⟨⟩⟩ | ⟨x6,hx6,hh⟩
   ·exact gn' [0] (J2 hx6) rfl rfl rfl rfl rfl (fun hi=>peW ⟨trivial,trivial⟩ rfl hi)
   refine g' [0] ((J2 hx6).ok) rfl rfl rfl rfl rfl rfl (n' (P' 2 rfl (F0.be hC rfl (A0.rows_map [(A0.mk o2_Op 0 o2_Name o2_Kids),x5.1]).symm (q' rfl (F0.s hC rfl (n' ?_))))))
   refine Z0.wk ?_ (ih19 _ _ _ _ _ hh)
   exact ⟨⟨⟨.rfl,rfl⟩,⟨.rfl,rfl⟩,⟨.rfl,rfl⟩,trivial⟩,⟨⟨rfl,.refl _,rfl⟩,⟨rfl,.refl _,rfl⟩,⟨rfl,⟨.rfl,.rfl,.rfl,.full,trivial⟩,rfl⟩,trivial⟩,rfl⟩
  cases hh
  exact p' 1 rfl (F0.s hC rfl (n' (re' (rt' rfl rfl rfl))))
theorem Ec {parserParser res}(hh:C1 parserParser=some res):Xc parserParser res:=(O0).1 _ _ hh
theorem B13 {parserParser res}(hh:X3 parserParser=some res):Fi parserParser res:=(O0).2.1 _ _ hh
theorem G10 {parserParser res}(hh:A5 parserParser=some res):Xf parserParser res:=(O0).2.2.1 _ _ hh
theorem Rw {o0 o3 res}(hh:D2 o0 o3=some res):Od o0 o3 res:=(O0).2.2.2.1 _ _ _ hh
theorem L12 {parserParser res}(hh:H3 parserParser=some res):Ug parserParser res:=(O0).2.2.2.2.1 _ _ hh
theorem Sw {parserParser res}(hh:Y3 parserParser=some res):Pd parserParser res:=(O0).2.2.2.2.2.1 _ _ hh
theorem Mu {o0 o3 res}(hh:T1 o0 o3=some res):Bc o0 o3 res:=(O0).2.2.2.2.2.2.1 _ _ _ hh
theorem Uv {parserParser res}(hh:C2 parserParser=some res):Yc parserParser res:=(O0).2.2.2.2.2.2.2.1 _ _ hh
theorem It {o0 x1 op res}(hh:R0 o0 x1 op=some res):Lb o0 x1 op res:=(O0).2.2.2.2.2.2.2.2.1 _ _ _ _ hh
theorem M12 {parserParser res}(hh:Z2 parserParser=some res):Vg parserParser res:=(O0).2.2.2.2.2.2.2.2.2.1 _ _ hh
theorem Tw {parserParser res}(hh:Z3 parserParser=some res):Qd parserParser res:=(O0).2.2.2.2.2.2.2.2.2.2.1 _ _ hh
theorem Nu {o0 o3 res}(hh:U1 o0 o3=some res):Cc o0 o3 res:=(O0).2.2.2.2.2.2.2.2.2.2.2.1 _ _ _ hh
theorem Ry {parserParser res}(hh:R2 parserParser=some res):Je parserParser res:=(O0).2.2.2.2.2.2.2.2.2.2.2.2.1 _ _ hh
theorem Uw {parserParser res}(hh:A4 parserParser=some res):Sd parserParser res:=(O0).2.2.2.2.2.2.2.2.2.2.2.2.2.1 _ _ hh
theorem Ou {o0 o3 res}(hh:V1 o0 o3=some res):Dc o0 o3 res:=(O0).2.2.2.2.2.2.2.2.2.2.2.2.2.2.1 _ _ _ hh
theorem H10 {parserParser res}(hh:F2 parserParser=some res):Yf parserParser res:=(O0).2.2.2.2.2.2.2.2.2.2.2.2.2.2.2.1 _ _ hh
theorem Sy {parserParser res}(hh:N3 parserParser=some res):Ke parserParser res:=(O0).2.2.2.2.2.2.2.2.2.2.2.2.2.2.2.2.1 _ _ hh
theorem Y10 {op parserParser res}(hh:U3 op parserParser=some res):Lg op parserParser res:=(O0).2.2.2.2.2.2.2.2.2.2.2.2.2.2.2.2.2.1 _ _ _ hh
theorem I10 {parserParser res}(hh:C4 parserParser=some res):Zf parserParser res:=(O0).2.2.2.2.2.2.2.2.2.2.2.2.2.2.2.2.2.2.1 _ _ hh
theorem Ww {o0 o2_Op o2_Name o2_Kids res}(hh:N2 o0 o2_Op o2_Name o2_Kids=some res):Td o0 o2_Op o2_Name o2_Kids res:=(O0).2.2.2.2.2.2.2.2.2.2.2.2.2.2.2.2.2.2.2 _ _ _ _ _ hh
end Go.Proofs.YtmnhfbekncjnfaaDoor

set_option maxRecDepth 100000
set_option maxHeartbeats 4000000
set_option synthInstance.maxSize 20000
set_option linter.unusedVariables false
namespace Go.Proofs.YtmnhfbekncjnfaaDoor
open Go.Am
def V6 (parserParser:B0)(apiExpr:A0):Option (Pn (B0×A0)):=
 C1 parserParser>>=fun x1=>match x1 with
 | .pn nn=>
 some (.pn nn)
 | .ok x1=>
 some (.ok (x1.2,x1.1))
theorem Bg {parserParser apiExpr res}(hh:V6 parserParser apiExpr=some res):T2 C 9 [.ref 0 0,.ref 1 0] [.row (B0.cells parserParser) 45,.row [.d (.int .i64 apiExpr.Op),.d (.int .i64 apiExpr.NV),.d (.str apiExpr.Name),.full (A0.rows apiExpr.Kids)] 26] (C7 res (fun rr=>[.row (B0.cells rr.1) 45,.row (A0.cells rr.2) 26]) (fun rr=>.tup [])) (O6 res V4 [.dead,.row [.d (.int .i64 apiExpr.Op),.d (.int .i64 apiExpr.NV),.d (.str apiExpr.Name),.full (A0.rows apiExpr.Kids)] 26]):=by
 unfold V6 at hh
 refine T2.intro hC Tryd.func9 rfl rfl rfl (P' 1 rfl ?_)
 rcases bp' hh with ⟨nn,hx1,⟨⟩⟩ | ⟨x1,hx1,hh⟩
 ·exact gn' [0] (Ec hx1) rfl rfl rfl rfl rfl (fun hi=>peW ⟨trivial,⟨rfl,.refl _,rfl⟩,trivial⟩ rfl hi)
 cases hh
 exact g' [0] ((Ec hx1).ok) rfl rfl rfl rfl rfl rfl (F0.s hC rfl (n' (rn' rfl rfl rfl)))
def Q9 (text:Str)(apiExpr:A0):Option (Int×Int×A0):=
 Md text>>=fun x1=>
 if (x1.2.2 != 0)=true then
  some (x1.2.1,x1.2.2,apiExpr)
 else
  V6 (B0.mk x1.1 0 ((text).length:Int)) apiExpr>>=fun x2=>match x2 with
  | .pn nn=>
  some (nn,6,apiExpr)
  | .ok x2=>
  if (decide (x2.1.next < ((x2.1.tokens).length:Int)))=true then
   T3 x2.1>>=fun x3=>match x3 with
   | .pn nn=>
   some (nn,6,x2.2)
   | .ok x3=>
   some (0,0,x2.2)
  else
   some (0,0,x2.2)
theorem Pu {text apiExpr res}(hh:Q9 text apiExpr=some res):S0 C 8 [.d (.str text),.clo 9 [.ref 0 0]] [.row [.d (.int .i64 apiExpr.Op),.d (.int .i64 apiExpr.NV),.d (.str apiExpr.Name),.full (A0.rows apiExpr.Kids)] 26] (Ret [.row (A0.cells res.2.2) 26] (.tup [.d (.int .i64 res.1),.d (.int .i64 res.2.1)])):=by
 unfold Q9 at hh
 obtain ⟨x1,hx1,hh⟩:=bs' hh
 refine S0.introD hC Tryd.func8 rfl rfl rfl (s' rfl rfl (F0.n hC rfl (F0.n hC rfl (n' (p' 1 rfl (c' (Qy hx1) rfl rfl (o' 5 rfl (F0.s hC rfl (F0.s hC rfl (n' (S' (t' rfl (ci' rfl hh (fun hh=>?_) (fun hh=>?_))))))))))))))
 ·refine S' ?_
  refine AEx.drawL hC 3 [2] [] [[.row [.d (.int .i64 apiExpr.Op),.d (.int .i64 apiExpr.NV),.d (.str apiExpr.Name),.full (A0.rows apiExpr.Kids)] 26,.row [.d (.int .i64 x1.2.1)] 3,.row [.d (.int .i64 x1.2.2)] 27],[.row [.d (.int .i64 apiExpr.Op),.d (.int .i64 apiExpr.NV),.d (.str apiExpr.Name),.full (A0.rows apiExpr.Kids)] 26,.row [.d (.int .i64 x1.2.1)] 3,.row [.d (.int .i64 x1.2.2)] 27]] rfl rfl rfl rfl rfl rfl rfl rfl rfl rfl ?_
  refine AS.q hC rfl rfl rfl rfl (AS.q hC rfl rfl rfl rfl (AS.s hC rfl rfl rfl rfl rfl rfl rfl (AS.nil (F0.s hC rfl (n' (re' ?_))))))
  obtain rfl:=oi' hh
  exact ⟨_,_,[.row (A0.cells apiExpr) 26],rfl,.rfl,⟨⟨rfl,⟨.rfl,.rfl,.rfl,.full,trivial⟩,rfl⟩,trivial⟩,rfl,rfl,rfl,rfl⟩
 refine sk' (AEx.dfr hC K12 N14 rfl rfl rfl rfl rfl rfl fun _=>(p' 4 rfl (F0.n hC rfl (e' rfl (p' 2 rfl ?_)))))
 rcases bp' hh with ⟨nn,hx2,hh⟩ | ⟨x2,hx2,hh⟩
 ·obtain rfl:=oi' hh
  exact gn' [3,0] (Bg hx2) rfl rfl rfl rfl rfl (fun hi=>dfk hi rfl rfl rfl (⟨_,_,[.row (A0.cells apiExpr) 26],rfl,.rfl,⟨⟨rfl,⟨.rfl,.rfl,.rfl,.full,trivial⟩,rfl⟩,trivial⟩,rfl,rfl,rfl,rfl⟩))
 refine g' [3,0] ((Bg hx2).ok) rfl rfl rfl rfl rfl rfl (n' (S' (S' (AEx.draw hC 10 rfl rfl rfl (O' 8 rfl (AQ.qe hC rfl trivial (E0.lenA _) (E' rfl (n' (ci' rfl hh (fun hh=>?_) (fun hh=>?_))))))))))
 ·refine P' 1 rfl ?_
  rcases bp' hh with ⟨nn,hx3,hh⟩ | ⟨x3,hx3,hh⟩
  ·cases hh
   exact gn' [3] (I5 hx3) rfl rfl rfl rfl rfl (fun hi=>dfk hi rfl rfl rfl (rt' rfl rfl rfl))
  cases hh
  exact g' [3] ((I5 hx3).ok) rfl rfl rfl rfl rfl rfl (n' (s' rfl rfl (F0.s hC rfl (F0.s hC rfl (n' (re' (rt' rfl rfl rfl)))))))
 cases hh
 exact sk' (s' rfl rfl (F0.s hC rfl (F0.s hC rfl (n' (re' (rt' rfl rfl rfl))))))
def W6 (d:Int)(syntaxReport:D0):Option D0:=
 some (D0.mk syntaxReport.nodes (max syntaxReport.depth d) syntaxReport.badForm syntaxReport.badName syntaxReport.badNumber)
theorem Pm {d syntaxReport res}(hh:W6 d syntaxReport=some res):S0 C 25 [.ref 0 0,.d (.int .i64 d)] [.row (D0.cells syntaxReport) 50] (Ret [.row (D0.cells res) 50] (.tup [])):=by
 unfold W6 at hh
 cases hh
 exact S0.intro hC Tryd.func25 rfl rfl rfl (P' 9 rfl (F0.s hC rfl (n' (rn' rfl rfl rfl))))
def F6 (op:Int)(v9:Bool):Option Int:=
 if v9=true then
  some 1
 else
  if (op == 5)=true then
   some 2
  else
   if (op == 23)=true then
    some 3
   else
    if (bif (decide (op≥8)) then (decide (op≤22)) else false)=true then
     some 2
    else
     some (-1)
theorem Ud {op v9 res}(hh:F6 op v9=some res):JM C 23 0 Tryd.f27 [1,0,1,4,1,3,1] [(0,.d (.int .i64 op)),(3,.d (.int .i64 op)),(9,.d (.bool v9))] [] (Ret [] (.d (.int .i64 res))):=by
 unfold F6 at hh
 refine ci' rfl hh (fun hh=>?_) (fun hh=>?_)
 ·cases hh
  exact t' rfl (re' (rt' rfl rfl rfl))
 refine t' rfl (ci' rfl hh (fun hh=>?_) (fun hh=>?_))
 ·cases hh
  exact t' rfl (re' (rt' rfl rfl rfl))
 refine t' rfl (ci' rfl hh (fun hh=>?_) (fun hh=>?_))
 ·cases hh
  exact t' rfl (re' (rt' rfl rfl rfl))
 refine sk' (S' (sg' 6 rfl (G' 4 rfl (a1' rfl (pa' rfl (an' (n' (ci' rfl hh (fun hh=>?_) (fun hh=>?_)))))))))
 ·cases hh
  exact t' rfl (re' (rt' rfl rfl rfl))
 cases hh
 exact sk' (t' rfl (re' (rt' rfl rfl rfl)))
def C5 (op:Int)(v4:Bool):Option Int:=
 if v4=true then
  some 0
 else
  if (op == 4)=true then
   F6 op (op == 4)
  else
   if (op == 6)=true then
    F6 op (op == 6)
   else
    F6 op (op == 7)
theorem Va {op v4 res}(hh:C5 op v4=some res):JM C 23 0 Tryd.f27 [1,0,1,4,1] [(0,.d (.int .i64 op)),(3,.d (.int .i64 op)),(4,.d (.bool v4))] [] (Ret [] (.d (.int .i64 res))):=by
 unfold C5 at hh
 refine ci' rfl hh (fun hh=>?_) (fun hh=>?_)
 ·cases hh
  exact t' rfl (re' (rt' rfl rfl rfl))
 refine S' (t' rfl (ci' rfl hh (fun hh=>?_) (fun hh=>?_)))
 ·exact sk' (ew' (Ud hh) rfl rfl rfl)
 refine t' rfl (ci' rfl hh (fun hh=>?_) (fun hh=>?_))
 ·exact sk' (ew' (Ud hh) rfl rfl rfl)
 exact T' rfl (ew' (Ud hh) rfl rfl rfl)
def Ca (op:Int):Option Int:=
 if (op == 0)=true then
  C5 op (op == 0)
 else
  if (op == 1)=true then
   C5 op (op == 1)
  else
   if (op == 2)=true then
    C5 op (op == 2)
   else
    C5 op (op == 3)
theorem Jt {op res}(hh:Ca op=some res):S0 C 27 [.d (.int .i64 op)] [] (Ret [] (.d (.int .i64 res))):=by
 unfold Ca at hh
 refine S0.intro hC Tryd.func27 rfl rfl rfl (t' rfl (S' (t' rfl (bk' (S' (t' rfl (ci' rfl hh (fun hh=>?_) (fun hh=>?_))))))))
 ·exact sk' (ew' (Va hh) rfl rfl rfl)
 refine t' rfl (ci' rfl hh (fun hh=>?_) (fun hh=>?_))
 ·exact sk' (ew' (Va hh) rfl rfl rfl)
 refine t' rfl (ci' rfl hh (fun hh=>?_) (fun hh=>?_))
 ·exact sk' (ew' (Va hh) rfl rfl rfl)
 exact T' rfl (ew' (Va hh) rfl rfl rfl)
def K3 (ok:Bool)(syntaxReport:D0):Option D0:=
 some (D0.mk syntaxReport.nodes syntaxReport.depth (bif syntaxReport.badForm then true else (!ok)) syntaxReport.badName syntaxReport.badNumber)
theorem Q8 {ok syntaxReport res}(hh:K3 ok syntaxReport=some res):S0 C 26 [.ref 0 0,.d (.bool ok)] [.row (D0.cells syntaxReport) 50] (Ret [.row (D0.cells res) 50] (.tup [])):=by
 unfold K3 at hh
 cases hh
 exact S0.intro hC Tryd.func26 rfl rfl rfl (AEx.regionG 11 rfl (G' 7 rfl (a1' rfl (po' rfl (G' 2 rfl (an' (F0.s hC rfl (n' (rn' rfl rfl rfl)))))))))
def D5 (o0:A0):Option Bool:=
 if (bif (o0.Op == 4) then true else (o0.Op == 5))=true then
  if (((o0.Kids).length:Int) == 0)=true then
   some false
  else
   idx o0.Kids 0>>=fun x1=>
   D5 x1
 else
  some (o0.Op == 3)
 partial_fixpoint
abbrev Wi (o0:A0)(res:Bool):Prop:=LM C 22 0 Tryd.f28 [1,0,4] [(1,.ref 0 0)] [.row (A0.cells o0) 26] (Ret [] (.d (.bool res)))
theorem Ao:(∀ o0 res,D5 o0=some res→Wi o0 res):=by
 refine D5.partial_correctness _ ?_
 ·intro g0 ih0 o0 res hh
  refine Z0.unroll (S' (sg' 8 rfl (G' 5 rfl (a1' rfl (a1' rfl (po' rfl (an' (n' (ci' rfl hh (fun hh=>?_) (fun hh=>?_))))))))))
  ·refine sk' (bk' (S' (p' 2 rfl (qe' rfl trivial (A0.lenA _) (e' rfl (ci' rfl hh (fun hh=>?_) (fun hh=>?_)))))))
   ·cases hh
    exact t' rfl (re' (rt' rfl rfl rfl))
   obtain ⟨x1,hx1,hh⟩:=bs' hh
   exact sk' (P' 2 rfl (i' rfl (H5 hx1) (A0.idx hx1) rfl (q' rfl (F0.s hC rfl (n' (lw' (ih0 _ _ hh) rfl rfl rfl))))))
  cases hh
  exact ex' (t' rfl (re' (rt' rfl rfl rfl)))
theorem Bp {o0 res}(hh:D5 o0=some res):Wi o0 res:=(Ao) _ _ hh
def Da (e:A0):Option Bool:=
 D5 e
theorem Kt {e res}(hh:Da e=some res):S0 C 28 [.agg (A0.cells e)] [] (Ret [] (.d (.bool res))):=by
 unfold Da at hh
 exact S0.intro hC Tryd.func28 rfl rfl rfl (s' rfl rfl (F0.n hC rfl (e' rfl (S' (bk' (fw' (Bp hh) rfl rfl rfl))))))
def V3 (s:Str)(v6:Int):Option Bool:=
 if (decide (v6 < ((s).length:Int)))=true then
  idx s v6>>=fun x1=>
  U6 (x1.toNat:Int)>>=fun x2=>
  (if ((!x2)&&(!(v6 == 0)))=true then idx s v6 else some default)>>=fun x3=>
  (if ((!x2)&&(!(v6 == 0)))=true then Q5 (x3.toNat:Int) else some default)>>=fun x4=>
  if (bif (!x2) then (bif (v6 == 0) then true else (!x4)) else false)=true then
   some false
  else
   V3 s (IntKind.i64.wrap (v6+1))
 else
  some (!(s == []))
 partial_fixpoint
abbrev Xi (s:Str)(v6:Int)(res:Bool):Prop:=LM C 28 0 Tryd.f49 [1,0,1,4] [(0,.d (.str s)),(5,.d (.int .i64 ((s).length:Int))),(6,.d (.int .i64 v6))] [] (Ret [] (.d (.bool res)))
theorem Bo (s:Str):(∀ v6 res,V3 s v6=some res→Xi s v6 res):=by
 refine V3.partial_correctness s _ ?_
 ·intro g0 ih0 v6 res hh
  refine Z0.unroll (t' rfl (S' (ci' rfl hh (fun hh=>?_) (fun hh=>?_))))
  ·obtain ⟨x1,hx1,hh⟩:=bs' hh
   obtain ⟨x2,hx2,hh⟩:=bs' hh
   obtain ⟨x3,hx3,hh⟩:=bs' hh
   obtain ⟨x4,hx4,hh⟩:=bs' hh
   refine sk' (S' (bk' (t' rfl (sg' 16 rfl (G' 2 rfl (AG.x hC rfl rfl (fun _=>trivial) (fun hw=>⟨H5 hx1,Pa hx1⟩) (AG.c rfl rfl (fun _=>trivial) (fun _=>Se hx2) (G' 3 rfl (a1' rfl (a1' rfl (G' 2 rfl (AG.x hC rfl rfl (fun hg=>⟨hg,hg,trivial⟩) (fun hw=>⟨H5 (Ba hw hx3),Pa (Ba hw hx3)⟩) (AG.c rfl rfl (fun hg=>⟨hg,trivial⟩) (fun hw=>Lc (Ba hw hx4)) ?_)))))))))))))
   refine a1' rfl (pO' rfl (pa' rfl (an' (n' (ci' rfl hh (fun hh=>?_) (fun hh=>?_))))))
   ·cases hh
    exact t' rfl (re' (rt' rfl rfl rfl))
   exact sk' (T' rfl (lw' (ih0 _ _ hh) rfl rfl rfl))
  cases hh
  exact ex' (t' rfl (re' (rt' rfl rfl rfl)))
theorem Cp {s v6 res}(hh:V3 s v6=some res):Xi s v6 res:=(Bo s) _ _ hh
def Sb (s:Str):Option Bool:=
 V3 s 0
theorem Lt {s res}(hh:Sb s=some res):S0 C 49 [.d (.str s)] [] (Ret [] (.d (.bool res))):=by
 unfold Sb at hh
 exact S0.intro hC Tryd.func49 rfl rfl rfl (t' rfl (S' (t' rfl (bk' (fw' (Cp hh) rfl rfl rfl)))))
def Tb (s:Str):Option Bool:=
 (if (decide (((s).length:Int)≤12))=true then Sb s else some default)>>=fun x1=>
 (if (bif (decide (((s).length:Int)≤12)) then x1 else false)=true then R5 s else some default)>>=fun x2=>
 some (bif (bif (decide (((s).length:Int)≤12)) then x1 else false) then (!x2) else false)
theorem Mt {s res}(hh:Tb s=some res):S0 C 44 [.d (.str s)] [] (Ret [] (.d (.bool res))):=by
 unfold Tb at hh
 obtain ⟨x1,hx1,hh⟩:=bs' hh
 obtain ⟨x2,hx2,hh⟩:=bs' hh
 cases hh
 exact S0.intro hC Tryd.func44 rfl rfl rfl (t' rfl (sg' 13 rfl (G' 5 rfl (AG.c rfl rfl (fun hg=>⟨hg,trivial⟩) (fun hw=>Lt (Ba hw hx1)) (pa' rfl (G' 2 rfl (AG.c rfl rfl (fun hg=>⟨hg,trivial⟩) (fun hw=>Ui (Ba hw hx2)) (a1' rfl (pa' rfl (a0' rfl (an' (n' (re' (rt' rfl rfl rfl))))))))))))))
def Y8 (s:Str):Option Bool:=
 Tb s>>=fun x1=>
 some x1
theorem Kr {s res}(hh:Y8 s=some res):S0 C 40 [.d (.str s)] [] (Ret [] (.d (.bool res))):=by
 unfold Y8 at hh
 obtain ⟨x1,hx1,hh⟩:=bs' hh
 cases hh
 exact S0.intro hC Tryd.func40 rfl rfl rfl (t' rfl (p' 1 rfl (c' (Mt hx1) rfl rfl (e' rfl (re' (rt' rfl rfl rfl))))))
def M5 (s:Str)(syntaxReport:D0):Option D0:=
 (if (!syntaxReport.badName)=true then Y8 s else some default)>>=fun x1=>
 some (D0.mk syntaxReport.nodes syntaxReport.depth syntaxReport.badForm (bif syntaxReport.badName then true else (!x1)) syntaxReport.badNumber)
theorem Qm {s syntaxReport res}(hh:M5 s syntaxReport=some res):S0 C 29 [.ref 0 0,.d (.str s)] [.row (D0.cells syntaxReport) 50] (Ret [.row (D0.cells res) 50] (.tup [])):=by
 unfold M5 at hh
 obtain ⟨x1,hx1,hh⟩:=bs' hh
 cases hh
 exact S0.intro hC Tryd.func29 rfl rfl rfl (AEx.regionG 12 rfl (G' 7 rfl (AG.c rfl rfl (fun hg=>⟨hg,trivial⟩) (fun hw=>Kr (Ba hw hx1)) (a1' rfl (po' rfl (G' 2 rfl (an' (F0.s hC rfl (n' (rn' rfl rfl rfl))))))))))
def Qa (n:Int)(low:Int)(high:Int):Option Bool:=
 some (bif (decide (n≥low)) then (decide (n≤high)) else false)
theorem Lr {n low high res}(hh:Qa n low high=some res):S0 C 31 [.d (.int .i64 n),.d (.int .i64 low),.d (.int .i64 high)] [] (Ret [] (.d (.bool res))):=by
 unfold Qa at hh
 cases hh
 exact S0.intro hC Tryd.func31 rfl rfl rfl (t' rfl (sg' 9 rfl (G' 6 rfl (a2' rfl (pa' rfl (a0' rfl (an' (n' (re' (rt' rfl rfl rfl))))))))))
def S4 (ok:Bool)(syntaxReport:D0):Option D0:=
 some (D0.mk syntaxReport.nodes syntaxReport.depth syntaxReport.badForm syntaxReport.badName (bif syntaxReport.badNumber then true else (!ok)))
theorem Tk {ok syntaxReport res}(hh:S4 ok syntaxReport=some res):S0 C 30 [.ref 0 0,.d (.bool ok)] [.row (D0.cells syntaxReport) 50] (Ret [.row (D0.cells res) 50] (.tup [])):=by
 unfold S4 at hh
 cases hh
 exact S0.intro hC Tryd.func30 rfl rfl rfl (AEx.regionG 11 rfl (G' 7 rfl (a1' rfl (po' rfl (G' 2 rfl (an' (F0.s hC rfl (n' (rn' rfl rfl rfl)))))))))
mutual
def C3 (e:A0)(depth:Int)(syntaxReport:D0):Option D0:=
 W6 depth (D0.mk (IntKind.i64.wrap (syntaxReport.nodes+1)) syntaxReport.depth syntaxReport.badForm syntaxReport.badName syntaxReport.badNumber)>>=fun x1=>
 Ca e.Op>>=fun x2=>
 K3 (x2 == ((e.Kids).length:Int)) x1>>=fun x3=>
 K3 (bif (e.NV == 0) then true else (e.Op == 0)) x3>>=fun x4=>
 K3 (bif (e.Name == []) then true else (bif (e.Op == 3) then true else (e.Op == 4))) x4>>=fun x5=>
 if (bif (e.Op == 4) then true else (e.Op == 5))=true then
  Da e>>=fun x6=>
  K3 x6 x5>>=fun x7=>
  E3 e depth x7
 else
  E3 e depth x5
 partial_fixpoint
def E3 (e:A0)(depth:Int)(o0:D0):Option D0:=
 if (bif (e.Op == 3) then true else (e.Op == 4))=true then
  M5 e.Name o0>>=fun x8=>
  O3 e depth x8
 else
  O3 e depth o0
 partial_fixpoint
def O3 (e:A0)(depth:Int)(o01:D0):Option D0:=
 if (e.Op == 0)=true then
  Qa e.NV 0 1048576>>=fun x9=>
  S4 x9 o01>>=fun x10=>
  P3 e depth x10
 else
  P3 e depth o01
 partial_fixpoint
def P3 (e:A0)(depth:Int)(o02:D0):Option D0:=
 L2 e depth o02 0
 partial_fixpoint
def L2 (e:A0)(depth:Int)(o03:D0)(v82:Int):Option D0:=
 if (decide (v82 < ((e.Kids).length:Int)))=true then
  idx e.Kids v82>>=fun x11=>
  C3 x11 (IntKind.i64.wrap (depth+1)) o03>>=fun x12=>
  L2 e depth x12 (IntKind.i64.wrap (v82+1))
 else
  some o03
 partial_fixpoint
end
abbrev Mg (e:A0)(depth:Int)(syntaxReport:D0)(res:D0):Prop:=S0 C 18 [.ref 0 0,.agg (A0.cells e),.d (.int .i64 depth)] [.row (D0.cells syntaxReport) 50] (Ret [.row (D0.cells res) 50] (.tup []))
abbrev Me (e:A0)(depth:Int)(o0:D0)(res:D0):Prop:=JM C 92 1 Tryd.f18 [1,1,1,1,1,1,1,1] [(0,.ref 0 0),(2,.d (.int .i64 depth)),(4,.ref 1 0),(6,.d (.bool (bif (e.Op == 3) then true else (e.Op == 4))))] [.row (D0.cells o0) 50,.row (A0.cells e) 26] (Ret [.row (D0.cells res) 50] (.tup []))
abbrev Oe (e:A0)(depth:Int)(o01:D0)(res:D0):Prop:=JM C 92 1 Tryd.f18 [1,1,1,1,1,1,1,1,1] [(0,.ref 0 0),(2,.d (.int .i64 depth)),(4,.ref 1 0)] [.row (D0.cells o01) 50,.row (A0.cells e) 26] (Ret [.row (D0.cells res) 50] (.tup []))
abbrev Pe (e:A0)(depth:Int)(o02:D0)(res:D0):Prop:=JM C 92 1 Tryd.f18 [1,1,1,1,1,1,1,1,1,1] [(0,.ref 0 0),(2,.d (.int .i64 depth)),(4,.ref 1 0)] [.row (D0.cells o02) 50,.row (A0.cells e) 26] (Ret [.row (D0.cells res) 50] (.tup []))
abbrev Qe (e:A0)(depth:Int)(o03:D0)(v82:Int)(res:D0):Prop:=LM C 92 1 Tryd.f18 [1,1,1,1,1,1,1,1,1,1,1,4] [(0,.ref 0 0),(2,.d (.int .i64 depth)),(80,.d (.sl (A0.rows e.Kids))),(81,.d (.int .i64 ((e.Kids).length:Int))),(82,.d (.int .i64 v82))] [.row (D0.cells o03) 50] (Ret [.row (D0.cells res) 50] (.tup []))
theorem J6:(∀ e depth syntaxReport res,C3 e depth syntaxReport=some res→Mg e depth syntaxReport res)∧(∀ e depth o0 res,E3 e depth o0=some res→Me e depth o0 res)∧(∀ e depth o01 res,O3 e depth o01=some res→Oe e depth o01 res)∧(∀ e depth o02 res,P3 e depth o02=some res→Pe e depth o02 res)∧(∀ e depth o03 v82 res,L2 e depth o03 v82=some res→Qe e depth o03 v82 res):=by
 refine C3.mutual_partial_correctness _ _ _ _ _ ?_ ?_ ?_ ?_ ?_
 ·intro g1 ih1 e depth syntaxReport res hh
  obtain ⟨x1,hx1,hh⟩:=bs' hh
  obtain ⟨x2,hx2,hh⟩:=bs' hh
  obtain ⟨x3,hx3,hh⟩:=bs' hh
  obtain ⟨x4,hx4,hh⟩:=bs' hh
  obtain ⟨x5,hx5,hh⟩:=bs' hh
  refine S0.intro hC Tryd.func18 rfl rfl rfl (s' rfl rfl (F0.n hC rfl (n' (p' 7 rfl (F0.s hC rfl (n' (p' 2 rfl (g' [0] (Pm hx1) rfl rfl rfl rfl rfl rfl (n' (S' (AEx.draw hC 8 rfl rfl rfl (O' 3 rfl (Qc' (Jt hx2) rfl rfl ?_)))))))))))))
  refine O' 2 rfl (AQ.qe hC rfl trivial (A0.lenA _) (E' rfl (g' [0] (Q8 hx3) rfl rfl rfl rfl rfl rfl (n' (sg' 9 rfl (G' 6 rfl (a1' rfl (a1' rfl (po' rfl (an' (g' [0] (Q8 hx4) rfl rfl rfl rfl rfl rfl (n' (sg' 9 rfl ?_)))))))))))))
  refine G' 5 rfl (a1' rfl (a1' rfl (po' rfl (a0' rfl (an' (n' (sg' 7 rfl (G' 6 rfl (po' rfl (an' (g' [0] (Q8 hx5) rfl rfl rfl rfl rfl rfl (n' (S' ?_)))))))))))))
  refine sg' 8 rfl (G' 5 rfl (a1' rfl (a1' rfl (po' rfl (an' (n' (ci' rfl hh (fun hh=>?_) (fun hh=>?_))))))))
  ·obtain ⟨x6,hx6,hh⟩:=bs' hh
   obtain ⟨x7,hx7,hh⟩:=bs' hh
   exact P' 2 rfl (c' (Kt hx6) rfl rfl (g' [0] (Q8 hx7) rfl rfl rfl rfl rfl rfl (n' (ew' (ih1 _ _ _ _ hh) rfl rfl rfl))))
  exact sk' (ew' (ih1 _ _ _ _ hh) rfl rfl rfl)
 ·intro g2 ih2 e depth o0 res hh
  refine S' (t' rfl (ci' rfl hh (fun hh=>?_) (fun hh=>?_)))
  ·obtain ⟨x8,hx8,hh⟩:=bs' hh
   exact P' 3 rfl (g' [0] (Qm hx8) rfl rfl rfl rfl rfl rfl (n' (ew' (ih2 _ _ _ _ hh) rfl rfl rfl)))
  exact sk' (ew' (ih2 _ _ _ _ hh) rfl rfl rfl)
 ·intro g3 ih3 e depth o01 res hh
  refine S' (t' rfl (ci' rfl hh (fun hh=>?_) (fun hh=>?_)))
  ·obtain ⟨x9,hx9,hh⟩:=bs' hh
   obtain ⟨x10,hx10,hh⟩:=bs' hh
   exact P' 3 rfl (c' (Lr hx9) rfl rfl (g' [0] (Tk hx10) rfl rfl rfl rfl rfl rfl (n' (ew' (ih3 _ _ _ _ hh) rfl rfl rfl))))
  exact sk' (ew' (ih3 _ _ _ _ hh) rfl rfl rfl)
 ·intro g4 ih4 e depth o02 res hh
  exact p' 2 rfl (qe' rfl trivial (A0.lenA _) (e' rfl (bk' (fw' (ih4 _ _ _ _ _ hh) rfl rfl rfl))))
 ·intro g0 g4 ih0 ih4 e depth o03 v82 res hh
  refine Z0.unroll (t' rfl (S' (ci' rfl hh (fun hh=>?_) (fun hh=>?_))))
  ·obtain ⟨x11,hx11,hh⟩:=bs' hh
   obtain ⟨x12,hx12,hh⟩:=bs' hh
   exact sk' (S' (bk' (s' rfl rfl (i' rfl (H5 hx11) (A0.idx hx11) rfl (q' rfl (F0.nf hC rfl (F0.s hC rfl (n' (P' 4 rfl (g' [0] (ih0 _ _ _ _ hx12) rfl rfl rfl rfl rfl rfl (n' (T' rfl (lw' (ih4 _ _ _ _ _ hh) rfl rfl rfl)))))))))))))
  cases hh
  exact ex' (rn' rfl rfl rfl)
theorem Rm {e depth syntaxReport res}(hh:C3 e depth syntaxReport=some res):Mg e depth syntaxReport res:=(J6).1 _ _ _ _ hh
theorem Ty {e depth o0 res}(hh:E3 e depth o0=some res):Me e depth o0 res:=(J6).2.1 _ _ _ _ hh
theorem Uy {e depth o01 res}(hh:O3 e depth o01=some res):Oe e depth o01 res:=(J6).2.2.1 _ _ _ _ hh
theorem Vy {e depth o02 res}(hh:P3 e depth o02=some res):Pe e depth o02 res:=(J6).2.2.2.1 _ _ _ _ hh
theorem Wy {e depth o03 v82 res}(hh:L2 e depth o03 v82=some res):Qe e depth o03 v82 res:=(J6).2.2.2.2 _ _ _ _ _ hh
def N5 (syntaxReport:D0):Option Int:=
 if (bif (decide (syntaxReport.nodes > 1024)) then true else (decide (syntaxReport.depth > 12)))=true then
  some 4
 else
  if syntaxReport.badForm=true then
   some 1
  else
   if syntaxReport.badName=true then
    some 7
   else
    if syntaxReport.badNumber=true then
     some 3
    else
     some 0
theorem Sm {syntaxReport res}(hh:N5 syntaxReport=some res):S0 C 19 [.ref 0 0] [.row (D0.cells syntaxReport) 50] (Ret [.row (D0.cells syntaxReport) 50] (.d (.int .i64 res))):=by
 unfold N5 at hh
 refine S0.intro hC Tryd.func19 rfl rfl rfl (t' rfl (S' (bk' (sg' 13 rfl (G' 7 rfl (a1' rfl (a1' rfl (a1' rfl (a1' rfl (po' rfl (a0' rfl (an' (n' (ci' rfl hh (fun hh=>?_) (fun hh=>?_)))))))))))))))
 ·cases hh
  exact t' rfl (re' (rt' rfl rfl rfl))
 refine t' rfl (ci' rfl hh (fun hh=>?_) (fun hh=>?_))
 ·cases hh
  exact t' rfl (re' (rt' rfl rfl rfl))
 refine t' rfl (ci' rfl hh (fun hh=>?_) (fun hh=>?_))
 ·cases hh
  exact t' rfl (re' (rt' rfl rfl rfl))
 refine t' rfl (ci' rfl hh (fun hh=>?_) (fun hh=>?_))
 ·cases hh
  exact t' rfl (re' (rt' rfl rfl rfl))
 cases hh
 exact sk' (t' rfl (re' (rt' rfl rfl rfl)))
def R6 (e:A0):Option Int:=
 C3 e 1 (D0.mk 0 0 false false false)>>=fun x1=>
 N5 x1>>=fun x2=>
 some x2
theorem Co {e res}(hh:R6 e=some res):S0 C 11 [.agg (A0.cells e)] [] (Ret [] (.d (.int .i64 res))):=by
 unfold R6 at hh
 obtain ⟨x1,hx1,hh⟩:=bs' hh
 obtain ⟨x2,hx2,hh⟩:=bs' hh
 cases hh
 exact S0.intro hC Tryd.func11 rfl rfl rfl (s' rfl rfl (F0.n hC rfl (e' rfl (p' 1 rfl (F0.n hC rfl (e' rfl (p' 2 rfl (g' [1] (Rm hx1) rfl rfl rfl rfl rfl rfl (n' (p' 1 rfl (g' [1] (Sm hx2) rfl rfl rfl rfl rfl rfl (e' rfl (re' (rt' rfl rfl rfl))))))))))))))
def P2 (text:Str):Option (A0×Int×Int):=
 Q9 text (A0.mk 0 0 [] [])>>=fun x1=>
 if (x1.2.1 != 0)=true then
  some ((A0.mk 0 0 [] []),x1.1,x1.2.1)
 else
  R6 x1.2.2>>=fun x2=>
  if (x2 != 0)=true then
   some ((A0.mk 0 0 [] []),0,x2)
  else
   some (x1.2.2,0,0)
theorem Ma {text res}(hh:P2 text=some res):S0 C 5 [.d (.str text)] [] (Ret [] (.tup [.agg (A0.cells res.1),.d (.int .i64 res.2.1),.d (.int .i64 res.2.2)])):=by
 unfold P2 at hh
 obtain ⟨x1,hx1,hh⟩:=bs' hh
 refine S0.intro hC Tryd.func5 rfl rfl rfl (s' rfl rfl (F0.nf hC rfl (e' rfl (s' rfl rfl (F0.nf hC rfl (n' (p' 2 rfl (g' [1] (Pu hx1) rfl rfl rfl rfl rfl rfl (e' rfl (S' (t' rfl (ci' rfl hh (fun hh=>?_) (fun hh=>?_)))))))))))))
 ·cases hh
  exact p' 3 rfl (F0.s hC rfl (e' rfl (re' (rt' rfl rfl rfl))))
 obtain ⟨x2,hx2,hh⟩:=bs' hh
 refine sk' (S' (p' 1 rfl (c' (Co hx2) rfl rfl (e' rfl (t' rfl (ci' rfl hh (fun hh=>?_) (fun hh=>?_)))))))
 ·cases hh
  exact p' 2 rfl (F0.s hC rfl (e' rfl (re' (rt' rfl rfl rfl))))
 cases hh
 exact sk' (p' 1 rfl (F0.s hC rfl (e' rfl (re' (rt' rfl rfl rfl)))))
def Mc (s:Str):Option A0:=
 some (A0.mk 3 0 s [])
theorem Pi {s res}(hh:Mc s=some res):S0 C 7 [.d (.str s)] [] (Ret [] (.agg (A0.cells res))):=by
 unfold Mc at hh
 cases hh
 exact S0.intro hC Tryd.func7 rfl rfl rfl (s' rfl rfl (F0.nf hC rfl (n' (p' 2 rfl (F0.s hC rfl (n' (re' (rt' rfl rfl rfl))))))))
mutual
def F3 (a:A0)(b:A0):Option Bool:=
 if (bif (bif (bif (a.Op != b.Op) then true else (a.NV != b.NV)) then true else (!(a.Name == b.Name))) then true else (((a.Kids).length:Int) != ((b.Kids).length:Int)))=true then
  some false
 else
  L3 a b 0
 partial_fixpoint
def L3 (a:A0)(b:A0)(i:Int):Option Bool:=
 if (decide (i < ((a.Kids).length:Int)))=true then
  idx a.Kids i>>=fun x1=>
  idx b.Kids i>>=fun x2=>
  F3 x1 x2>>=fun x3=>
  if (!x3)=true then
   some false
  else
   L3 a b (IntKind.i64.wrap (i+1))
 else
  some true
 partial_fixpoint
end
abbrev Yi (a:A0)(b:A0)(res:Bool):Prop:=S0 C 6 [.agg (A0.cells a),.agg (A0.cells b)] [] (Ret [] (.d (.bool res)))
abbrev Ng (a:A0)(b:A0)(i:Int)(res:Bool):Prop:=LM C 53 0 Tryd.f6 [1,1,0,1,4] [(2,.ref 0 0),(3,.ref 1 0),(5,.d (.int .i64 i))] [.row (A0.cells a) 26,.row (A0.cells b) 26] (Ret [] (.d (.bool res)))
theorem Wg:(∀ a b res,F3 a b=some res→Yi a b res)∧(∀ a b i res,L3 a b i=some res→Ng a b i res):=by
 refine F3.mutual_partial_correctness _ _ ?_ ?_
 ·intro g1 ih1 a b res hh
  refine S0.intro hC Tryd.func6 rfl rfl rfl (s' rfl rfl (F0.n hC rfl (F0.n hC rfl (e' rfl (S' (sg' 28 rfl (G' 7 rfl (a1' rfl (a0' rfl (a1' rfl (a2' rfl (po' rfl (G' 2 rfl ?_)))))))))))))
  refine a1' rfl (a0' rfl (a1' rfl (a2' rfl (po' rfl (G' 2 rfl (a1' rfl (AG.qe hC rfl (fun hg=>⟨⟨hg,trivial⟩,trivial⟩) (A0.lenA _) (a0' rfl (a1' rfl (AG.qe hC rfl (fun hg=>⟨⟨hg,trivial⟩,trivial⟩) (A0.lenA _) (a2' rfl (po' rfl (an' ?_)))))))))))))
  refine n' (ci' rfl hh (fun hh=>?_) (fun hh=>?_))
  ·cases hh
   exact t' rfl (re' (rt' rfl rfl rfl))
  exact sk' (S' (t' rfl (bk' (fw' (ih1 _ _ _ _ hh) rfl rfl rfl))))
 ·intro g0 g1 ih0 ih1 a b i res hh
  refine Z0.unroll (S' (p' 3 rfl (qe' rfl trivial (A0.lenA _) (e' rfl (ci' rfl hh (fun hh=>?_) (fun hh=>?_))))))
  ·obtain ⟨x1,hx1,hh⟩:=bs' hh
   obtain ⟨x2,hx2,hh⟩:=bs' hh
   obtain ⟨x3,hx3,hh⟩:=bs' hh
   refine sk' (S' (bk' (S' (AEx.draw hC 12 rfl rfl rfl (O' 3 rfl (AQ.i hC rfl (H5 hx1) (A0.idx hx1) rfl (O' 4 rfl (AQ.i hC rfl (H5 hx2) (A0.idx hx2) rfl (Q' rfl (Qc' (ih0 _ _ _ hx3) rfl rfl (E' rfl (n' (ci' rfl hh (fun hh=>?_) (fun hh=>?_))))))))))))))
   ·cases hh
    exact t' rfl (re' (rt' rfl rfl rfl))
   exact sk' (T' rfl (lw' (ih1 _ _ _ _ hh) rfl rfl rfl))
  cases hh
  exact ex' (t' rfl (re' (rt' rfl rfl rfl)))
theorem Gi {a b res}(hh:F3 a b=some res):Yi a b res:=(Wg).1 _ _ _ hh
theorem Z10 {a b i res}(hh:L3 a b i=some res):Ng a b i res:=(Wg).2 _ _ _ _ hh
def Gb:Option Bool:=
 P2 [97,32,45,32,98,32,45,32,99,91,49,93,46,100]>>=fun x1=>
 Mc [99]>>=fun x2=>
 Mc [97]>>=fun x3=>
 Mc [98]>>=fun x4=>
 P2 [97,32,61,61,32,98,32,61,61,32,99]>>=fun x5=>
 (if (x1.2.2 == 0)=true then F3 x1.1 (A0.mk 9 0 [] [(A0.mk 9 0 [] [x3,x4]),(A0.mk 4 0 [100] [(A0.mk 5 0 [] [x2,(A0.mk 0 1 [] [])])])]) else some default)>>=fun x6=>
 some (bif (bif (bif (x1.2.2 == 0) then x6 else false) then (x5.2.2 == 6) else false) then (x5.2.1 == 7) else false)
theorem Qu {res}(hh:Gb=some res):S0 C 4 [] [] (Ret [] (.d (.bool res))):=by
 unfold Gb at hh
 obtain ⟨x1,hx1,hh⟩:=bs' hh
 obtain ⟨x2,hx2,hh⟩:=bs' hh
 obtain ⟨x3,hx3,hh⟩:=bs' hh
 obtain ⟨x4,hx4,hh⟩:=bs' hh
 obtain ⟨x5,hx5,hh⟩:=bs' hh
 obtain ⟨x6,hx6,hh⟩:=bs' hh
 cases hh
 refine S0.intro hC Tryd.func4 rfl rfl rfl (t' rfl (s' rfl rfl (c' (Ma hx1) rfl rfl (o' 4 rfl (F0.nf hC rfl (F0.s hC rfl (e' rfl (s' rfl rfl (c' (Pi hx2) rfl rfl (q' rfl (F0.be hC rfl (A0.rows_map [x2,(A0.mk 0 1 [] [])]).symm (q' rfl (F0.be hC rfl (A0.rows_map [(A0.mk 5 0 [] [x2,(A0.mk 0 1 [] [])])]).symm ?_)))))))))))))
 refine q' rfl (F0.nf hC rfl (F0.s hC rfl (n' (S' (AEx.drawL hC 8 [] [(7,2)] [[.row (A0.cells x1.1) 26,.row [.d (.int .i64 4),.d (.int .i64 0),.d (.str [100]),.full (A0.rows [(A0.mk 5 0 [] [x2,(A0.mk 0 1 [] [])])])] 26,.row [.d (.int .i64 0),.d (.int .i64 0),.d (.str []),.full (A0.rows [])] 26]] rfl rfl rfl rfl rfl rfl rfl rfl rfl rfl (AS.c (Pi hx3) rfl rfl rfl rfl ?_))))))
 refine AS.c (Pi hx4) rfl rfl rfl rfl (AS.a rfl (fun H=>AQ.be hC rfl (A0.rows_map [x3,x4]).symm (AQ.nil rfl)) rfl rfl (AS.q hC rfl rfl rfl rfl (AS.q hC rfl rfl rfl rfl (AS.a rfl (fun H=>AQ.be hC rfl (A0.rows_map [(A0.mk 9 0 [] [x3,x4]),(A0.mk 4 0 [100] [(A0.mk 5 0 [] [x2,(A0.mk 0 1 [] [])])])]).symm (AQ.nil rfl)) rfl rfl (AS.q hC rfl rfl rfl rfl ?_)))))
 refine AS.n hC rfl rfl rfl rfl (AS.nil (F0.s hC rfl (n' (s' rfl rfl (c' (Ma hx5) rfl rfl (o' 4 rfl (F0.nf hC rfl (F0.s hC rfl (e' rfl (sg' 16 rfl (G' 5 rfl (AG.cl rfl (fun hw=>Gi (Ba hw hx6)) ⟨.rfl,(.aggL ⟨.rfl,.rfl,.rfl,.full,trivial⟩),trivial⟩ rfl (fun hg=>⟨hg,hg,trivial⟩) (pa' rfl ?_)))))))))))))
 exact G' 2 rfl (a1' rfl (pa' rfl (G' 2 rfl (a1' rfl (pa' rfl (a0' rfl (an' (n' (re' (rt' rfl rfl rfl))))))))))
def Q2 (text:Str)(n:Int)(x2:A0×Int×Int)(openV:Str)(endV:Str)(v27:Int):Option Bool:=
 if (decide (v27 < (Int.tmod (IntKind.i64.wrap n) 101)))=true then
  if (decide (openV.length+1≤maxLen))=true then
   if (decide (endV.length+1≤maxLen))=true then
    Q2 text n x2 (openV++[40]) (endV++[41]) (IntKind.i64.wrap (v27+1))
   else none
  else none
 else
  if (decide (openV.length+text.length≤maxLen))=true then
   if (decide ((openV++text).length+1≤maxLen))=true then
    if (decide (((openV++text)++[10]).length+endV.length≤maxLen))=true then
     P2 (((openV++text)++[10])++endV)>>=fun x3=>
     (if ((bif (bif (x2.2.2 != 0) then true else (x3.2.2 == 0)) then (bif (bif (x3.2.2 != 0) then true else (x2.2.2 == 0)) then true else (decide ((Int.tmod n 101) > 0))) else false)&&(!(x2.2.2 != 0)))=true then F3 x2.1 x3.1 else some default)>>=fun x4=>
     some (bif (bif (bif (x2.2.2 != 0) then true else (x3.2.2 == 0)) then (bif (bif (x3.2.2 != 0) then true else (x2.2.2 == 0)) then true else (decide ((Int.tmod n 101) > 0))) else false) then (bif (x2.2.2 != 0) then true else x4) else false)
    else none
   else none
  else none
 partial_fixpoint
abbrev Ed (text:Str)(n:Int)(x2:A0×Int×Int)(openV:Str)(endV:Str)(v27:Int)(res:Bool):Prop:=LM C 73 0 Tryd.f3 [1,1,1,1,1,0,1,4] [(0,.d (.str text)),(1,.d (.int .u8 n)),(5,.ref 0 0),(7,.d (.int .i64 x2.2.2)),(8,.d (.str openV)),(9,.d (.str endV)),(26,.d (.int .i64 (Int.tmod (IntKind.i64.wrap n) 101))),(27,.d (.int .i64 v27))] [.row (A0.cells x2.1) 26] (Ret [] (.d (.bool res)))
theorem Hi (text:Str)(n:Int)(x2:A0×Int×Int):(∀ openV endV v27 res,Q2 text n x2 openV endV v27=some res→Ed text n x2 openV endV v27 res):=by
 refine Q2.partial_correctness text n x2 _ ?_
 ·intro g0 ih0 openV endV v27 res hh
  refine Z0.unroll (t' rfl (S' (ci' rfl hh (fun hh=>?_) (fun hh=>?_))))
  ·obtain ⟨c13,hh⟩:=Ac hh
   obtain ⟨c14,hh⟩:=Ac hh
   exact sk' (S' (bk' (p' 1 rfl (qc' rfl c13 (e' rfl (P' 1 rfl (qc' rfl c14 (e' rfl (T' rfl (lw' (ih0 _ _ _ _ hh) rfl rfl rfl))))))))))
  obtain ⟨c15,hh⟩:=Ac hh
  obtain ⟨c16,hh⟩:=Ac hh
  obtain ⟨c17,hh⟩:=Ac hh
  obtain ⟨x3,hx3,hh⟩:=bs' hh
  obtain ⟨x4,hx4,hh⟩:=bs' hh
  cases hh
  refine ex' (p' 2 rfl (qc' rfl c15 (qc' rfl c16 (q' rfl (qc' rfl c17 (c' (Ma hx3) rfl rfl (o' 4 rfl (F0.nf hC rfl (F0.s hC rfl (e' rfl (sg' 29 rfl (G' 4 rfl (a1' rfl ?_)))))))))))))
  refine po' rfl (G' 2 rfl (a1' rfl (a1' rfl (a0' rfl (a1' rfl (pO' rfl (a1' rfl (a0' rfl (ag' rfl (fun hg=>⟨⟨hg,trivial⟩,(by decide)⟩) (a1' rfl (pO' rfl (pa' rfl (G' 2 rfl ?_)))))))))))))
  exact a1' rfl (a1' rfl (G' 2 rfl (AG.c rfl rfl (fun hg=>⟨hg,hg,trivial⟩) (fun hw=>Gi (Ba hw hx4)) (pO' rfl (pa' rfl (a0' rfl (an' (n' (re' (rt' rfl rfl rfl))))))))))
theorem Qi {text n x2 openV endV v27 res}(hh:Q2 text n x2 openV endV v27=some res):Ed text n x2 openV endV v27 res:=(Hi text n x2) _ _ _ _ hh
def M9 (text:Str)(n:Int):Option Bool:=
 Gb>>=fun x1=>
 if (!x1)=true then
  some false
 else
  if (decide (((text).length:Int) > 2000))=true then
   some true
  else
   P2 text>>=fun x2=>
   Q2 text n x2 [] [] 0
theorem Uk {text n res}(hh:M9 text n=some res):S0 C 3 [.d (.str text),.d (.int .u8 n)] [] (Ret [] (.d (.bool res))):=by
 unfold M9 at hh
 obtain ⟨x1,hx1,hh⟩:=bs' hh
 refine S0.intro hC Tryd.func3 rfl rfl rfl (t' rfl (S' (s' rfl rfl (c' (Qu hx1) rfl rfl (e' rfl (ci' rfl hh (fun hh=>?_) (fun hh=>?_)))))))
 ·cases hh
  exact t' rfl (re' (rt' rfl rfl rfl))
 refine sk' (S' (t' rfl (ci' rfl hh (fun hh=>?_) (fun hh=>?_))))
 ·cases hh
  exact t' rfl (re' (rt' rfl rfl rfl))
 obtain ⟨x2,hx2,hh⟩:=bs' hh
 exact sk' (p' 1 rfl (c' (Ma hx2) rfl rfl (o' 4 rfl (F0.nf hC rfl (F0.s hC rfl (e' rfl (t' rfl (S' (p' 2 rfl (qc' rfl (by decide) (e' rfl (bk' (fw' (Qi hh) rfl rfl rfl)))))))))))))
end Go.Proofs.YtmnhfbekncjnfaaDoor

