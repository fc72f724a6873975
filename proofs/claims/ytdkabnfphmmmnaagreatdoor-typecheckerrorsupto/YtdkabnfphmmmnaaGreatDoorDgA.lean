/- A part of the proof of TypecheckErrors. -/
import Derived.Test.YtdkabnfphmmmnaaGreatDoorXxA
import Derived.Test.YtdkabnfphmmmnaaGreatDoorAmB
set_option maxRecDepth 100000
set_option maxHeartbeats 4000000
set_option synthInstance.maxSize 2000
set_option linter.unusedVariables false
namespace Go.Proofs.YtdkabnfphmmmnaaGreatDoor
open Go.Am
instance : Nonempty (B2 C) := ⟨hC⟩
def ebool.zero : Bool := false
def ebool.leaf (x : Bool) : D := .bool x
def ebool.cells (l : List Bool) : List A := l.map fun x => .d (ebool.leaf x)
def ebool.row (x : Bool) : Row := [.bool x]
def ebool.rows (l : List Bool) : List Row := l.map ebool.row
theorem ebool.rows_map (l : List Bool) : ebool.rows l = l.map ebool.row := rfl
theorem ebool.idx {l : List Bool} {n : Int} {x : Bool} (h : idx l n = some x) : (ebool.rows l)[n.toNat]? = some (ebool.row x) := Z5 ebool.rows_map h
theorem ebool.app (l m : List Bool) : ebool.rows (l ++ m) = ebool.rows l ++ ebool.rows m := A6 ebool.rows_map l m
theorem ebool.len (l : List Bool) : (ebool.rows l).length = l.length := O5 ebool.rows_map l
theorem ebool.lenA (l : List Bool) : A.d (.int .i64 ((ebool.rows l).length : Nat)) = A.d (.int .i64 (l.length : Nat)) := V4 ebool.rows_map l
theorem ebool.sz (l : List Bool) : ∀ r ∈ ebool.rows l, r.length = 1 := W7 ebool.rows_map (fun _ => rfl) l
theorem ebool.part {l x : List Bool} {a b : Int} (h : slc l a b = some x) : a = (a.toNat : Int) ∧ b = (b.toNat : Int) ∧ a.toNat ≤ b.toNat ∧ b.toNat ≤ (ebool.rows l).length ∧ ebool.rows x = ((ebool.rows l).take b.toNat).drop a.toNat := W4 ebool.rows_map h
def ebool.ents (m : List (Str × Bool)) : List (Str × Row) := B6 ebool.row m
def ebool.val (x : Bool) : A := .d (.bool x)
theorem ebool.lkT {k : Str} {m : List (Str × Bool)} {x : Option Bool} (hx : some (mgt k m) = some x) : lkA (O3 k (ebool.ents m)) (ebool.val ebool.zero) true = .tup [ebool.val (x.getD ebool.zero), .d (.bool x.isSome)] := Sk (h := ebool.val) (fun _ => rfl) rfl hx
theorem ebool.lk {k : Str} {m : List (Str × Bool)} {x : Option Bool} (hx : some (mgt k m) = some x) : lkA (O3 k (ebool.ents m)) (ebool.val ebool.zero) false = ebool.val (x.getD ebool.zero) := Tk (h := ebool.val) (fun _ => rfl) rfl hx
theorem ebool.lkNT {x : Option Bool} (hx : some none = some x) : lkA none (ebool.val ebool.zero) true = .tup [ebool.val (x.getD ebool.zero), .d (.bool x.isSome)] := Df (h := ebool.val) rfl hx
theorem ebool.lkN {x : Option Bool} (hx : some none = some x) : lkA none (ebool.val ebool.zero) false = ebool.val (x.getD ebool.zero) := Ef (h := ebool.val) rfl hx
theorem ebool.mput (k : Str) (x : Bool) (m : List (Str × Bool)) : mput k (ebool.row x) (ebool.ents m) = ebool.ents (mpt k x m) := (P5 ebool.row k x m).symm
def estr.zero : Str := []
def estr.leaf (x : Str) : D := .str x
def estr.cells (l : List Str) : List A := l.map fun x => .d (estr.leaf x)
def estr.row (x : Str) : Row := [.str x]
def estr.rows (l : List Str) : List Row := l.map estr.row
theorem estr.rows_map (l : List Str) : estr.rows l = l.map estr.row := rfl
theorem estr.idx {l : List Str} {n : Int} {x : Str} (h : idx l n = some x) : (estr.rows l)[n.toNat]? = some (estr.row x) := Z5 estr.rows_map h
theorem estr.app (l m : List Str) : estr.rows (l ++ m) = estr.rows l ++ estr.rows m := A6 estr.rows_map l m
theorem estr.len (l : List Str) : (estr.rows l).length = l.length := O5 estr.rows_map l
theorem estr.lenA (l : List Str) : A.d (.int .i64 ((estr.rows l).length : Nat)) = A.d (.int .i64 (l.length : Nat)) := V4 estr.rows_map l
theorem estr.sz (l : List Str) : ∀ r ∈ estr.rows l, r.length = 1 := W7 estr.rows_map (fun _ => rfl) l
theorem estr.part {l x : List Str} {a b : Int} (h : slc l a b = some x) : a = (a.toNat : Int) ∧ b = (b.toNat : Int) ∧ a.toNat ≤ b.toNat ∧ b.toNat ≤ (estr.rows l).length ∧ estr.rows x = ((estr.rows l).take b.toNat).drop a.toNat := W4 estr.rows_map h
def estr.ents (m : List (Str × Str)) : List (Str × Row) := B6 estr.row m
def estr.val (x : Str) : A := .d (.str x)
theorem estr.lkT {k : Str} {m : List (Str × Str)} {x : Option Str} (hx : some (mgt k m) = some x) : lkA (O3 k (estr.ents m)) (estr.val estr.zero) true = .tup [estr.val (x.getD estr.zero), .d (.bool x.isSome)] := Sk (h := estr.val) (fun _ => rfl) rfl hx
theorem estr.lk {k : Str} {m : List (Str × Str)} {x : Option Str} (hx : some (mgt k m) = some x) : lkA (O3 k (estr.ents m)) (estr.val estr.zero) false = estr.val (x.getD estr.zero) := Tk (h := estr.val) (fun _ => rfl) rfl hx
theorem estr.lkNT {x : Option Str} (hx : some none = some x) : lkA none (estr.val estr.zero) true = .tup [estr.val (x.getD estr.zero), .d (.bool x.isSome)] := Df (h := estr.val) rfl hx
theorem estr.lkN {x : Option Str} (hx : some none = some x) : lkA none (estr.val estr.zero) false = estr.val (x.getD estr.zero) := Ef (h := estr.val) rfl hx
theorem estr.mput (k : Str) (x : Str) (m : List (Str × Str)) : mput k (estr.row x) (estr.ents m) = estr.ents (mpt k x m) := (P5 estr.row k x m).symm
def ei8.zero : Int := 0
def ei8.leaf (x : Int) : D := .int .i8 x
def ei8.cells (l : List Int) : List A := l.map fun x => .d (ei8.leaf x)
def ei8.row (x : Int) : Row := [.int .i8 x]
def ei8.rows (l : List Int) : List Row := l.map ei8.row
theorem ei8.rows_map (l : List Int) : ei8.rows l = l.map ei8.row := rfl
theorem ei8.idx {l : List Int} {n : Int} {x : Int} (h : idx l n = some x) : (ei8.rows l)[n.toNat]? = some (ei8.row x) := Z5 ei8.rows_map h
theorem ei8.app (l m : List Int) : ei8.rows (l ++ m) = ei8.rows l ++ ei8.rows m := A6 ei8.rows_map l m
theorem ei8.len (l : List Int) : (ei8.rows l).length = l.length := O5 ei8.rows_map l
theorem ei8.lenA (l : List Int) : A.d (.int .i64 ((ei8.rows l).length : Nat)) = A.d (.int .i64 (l.length : Nat)) := V4 ei8.rows_map l
theorem ei8.sz (l : List Int) : ∀ r ∈ ei8.rows l, r.length = 1 := W7 ei8.rows_map (fun _ => rfl) l
theorem ei8.part {l x : List Int} {a b : Int} (h : slc l a b = some x) : a = (a.toNat : Int) ∧ b = (b.toNat : Int) ∧ a.toNat ≤ b.toNat ∧ b.toNat ≤ (ei8.rows l).length ∧ ei8.rows x = ((ei8.rows l).take b.toNat).drop a.toNat := W4 ei8.rows_map h
def ei8.ents (m : List (Str × Int)) : List (Str × Row) := B6 ei8.row m
def ei8.val (x : Int) : A := .d (.int .i8 x)
theorem ei8.lkT {k : Str} {m : List (Str × Int)} {x : Option Int} (hx : some (mgt k m) = some x) : lkA (O3 k (ei8.ents m)) (ei8.val ei8.zero) true = .tup [ei8.val (x.getD ei8.zero), .d (.bool x.isSome)] := Sk (h := ei8.val) (fun _ => rfl) rfl hx
theorem ei8.lk {k : Str} {m : List (Str × Int)} {x : Option Int} (hx : some (mgt k m) = some x) : lkA (O3 k (ei8.ents m)) (ei8.val ei8.zero) false = ei8.val (x.getD ei8.zero) := Tk (h := ei8.val) (fun _ => rfl) rfl hx
theorem ei8.lkNT {x : Option Int} (hx : some none = some x) : lkA none (ei8.val ei8.zero) true = .tup [ei8.val (x.getD ei8.zero), .d (.bool x.isSome)] := Df (h := ei8.val) rfl hx
theorem ei8.lkN {x : Option Int} (hx : some none = some x) : lkA none (ei8.val ei8.zero) false = ei8.val (x.getD ei8.zero) := Ef (h := ei8.val) rfl hx
theorem ei8.mput (k : Str) (x : Int) (m : List (Str × Int)) : mput k (ei8.row x) (ei8.ents m) = ei8.ents (mpt k x m) := (P5 ei8.row k x m).symm
def ei16.zero : Int := 0
def ei16.leaf (x : Int) : D := .int .i16 x
def ei16.cells (l : List Int) : List A := l.map fun x => .d (ei16.leaf x)
def ei16.row (x : Int) : Row := [.int .i16 x]
def ei16.rows (l : List Int) : List Row := l.map ei16.row
theorem ei16.rows_map (l : List Int) : ei16.rows l = l.map ei16.row := rfl
theorem ei16.idx {l : List Int} {n : Int} {x : Int} (h : idx l n = some x) : (ei16.rows l)[n.toNat]? = some (ei16.row x) := Z5 ei16.rows_map h
theorem ei16.app (l m : List Int) : ei16.rows (l ++ m) = ei16.rows l ++ ei16.rows m := A6 ei16.rows_map l m
theorem ei16.len (l : List Int) : (ei16.rows l).length = l.length := O5 ei16.rows_map l
theorem ei16.lenA (l : List Int) : A.d (.int .i64 ((ei16.rows l).length : Nat)) = A.d (.int .i64 (l.length : Nat)) := V4 ei16.rows_map l
theorem ei16.sz (l : List Int) : ∀ r ∈ ei16.rows l, r.length = 1 := W7 ei16.rows_map (fun _ => rfl) l
theorem ei16.part {l x : List Int} {a b : Int} (h : slc l a b = some x) : a = (a.toNat : Int) ∧ b = (b.toNat : Int) ∧ a.toNat ≤ b.toNat ∧ b.toNat ≤ (ei16.rows l).length ∧ ei16.rows x = ((ei16.rows l).take b.toNat).drop a.toNat := W4 ei16.rows_map h
def ei16.ents (m : List (Str × Int)) : List (Str × Row) := B6 ei16.row m
def ei16.val (x : Int) : A := .d (.int .i16 x)
theorem ei16.lkT {k : Str} {m : List (Str × Int)} {x : Option Int} (hx : some (mgt k m) = some x) : lkA (O3 k (ei16.ents m)) (ei16.val ei16.zero) true = .tup [ei16.val (x.getD ei16.zero), .d (.bool x.isSome)] := Sk (h := ei16.val) (fun _ => rfl) rfl hx
theorem ei16.lk {k : Str} {m : List (Str × Int)} {x : Option Int} (hx : some (mgt k m) = some x) : lkA (O3 k (ei16.ents m)) (ei16.val ei16.zero) false = ei16.val (x.getD ei16.zero) := Tk (h := ei16.val) (fun _ => rfl) rfl hx
theorem ei16.lkNT {x : Option Int} (hx : some none = some x) : lkA none (ei16.val ei16.zero) true = .tup [ei16.val (x.getD ei16.zero), .d (.bool x.isSome)] := Df (h := ei16.val) rfl hx
theorem ei16.lkN {x : Option Int} (hx : some none = some x) : lkA none (ei16.val ei16.zero) false = ei16.val (x.getD ei16.zero) := Ef (h := ei16.val) rfl hx
theorem ei16.mput (k : Str) (x : Int) (m : List (Str × Int)) : mput k (ei16.row x) (ei16.ents m) = ei16.ents (mpt k x m) := (P5 ei16.row k x m).symm
def ei32.zero : Int := 0
def ei32.leaf (x : Int) : D := .int .i32 x
def ei32.cells (l : List Int) : List A := l.map fun x => .d (ei32.leaf x)
def ei32.row (x : Int) : Row := [.int .i32 x]
def ei32.rows (l : List Int) : List Row := l.map ei32.row
theorem ei32.rows_map (l : List Int) : ei32.rows l = l.map ei32.row := rfl
theorem ei32.idx {l : List Int} {n : Int} {x : Int} (h : idx l n = some x) : (ei32.rows l)[n.toNat]? = some (ei32.row x) := Z5 ei32.rows_map h
theorem ei32.app (l m : List Int) : ei32.rows (l ++ m) = ei32.rows l ++ ei32.rows m := A6 ei32.rows_map l m
theorem ei32.len (l : List Int) : (ei32.rows l).length = l.length := O5 ei32.rows_map l
theorem ei32.lenA (l : List Int) : A.d (.int .i64 ((ei32.rows l).length : Nat)) = A.d (.int .i64 (l.length : Nat)) := V4 ei32.rows_map l
theorem ei32.sz (l : List Int) : ∀ r ∈ ei32.rows l, r.length = 1 := W7 ei32.rows_map (fun _ => rfl) l
theorem ei32.part {l x : List Int} {a b : Int} (h : slc l a b = some x) : a = (a.toNat : Int) ∧ b = (b.toNat : Int) ∧ a.toNat ≤ b.toNat ∧ b.toNat ≤ (ei32.rows l).length ∧ ei32.rows x = ((ei32.rows l).take b.toNat).drop a.toNat := W4 ei32.rows_map h
def ei32.ents (m : List (Str × Int)) : List (Str × Row) := B6 ei32.row m
def ei32.val (x : Int) : A := .d (.int .i32 x)
theorem ei32.lkT {k : Str} {m : List (Str × Int)} {x : Option Int} (hx : some (mgt k m) = some x) : lkA (O3 k (ei32.ents m)) (ei32.val ei32.zero) true = .tup [ei32.val (x.getD ei32.zero), .d (.bool x.isSome)] := Sk (h := ei32.val) (fun _ => rfl) rfl hx
theorem ei32.lk {k : Str} {m : List (Str × Int)} {x : Option Int} (hx : some (mgt k m) = some x) : lkA (O3 k (ei32.ents m)) (ei32.val ei32.zero) false = ei32.val (x.getD ei32.zero) := Tk (h := ei32.val) (fun _ => rfl) rfl hx
theorem ei32.lkNT {x : Option Int} (hx : some none = some x) : lkA none (ei32.val ei32.zero) true = .tup [ei32.val (x.getD ei32.zero), .d (.bool x.isSome)] := Df (h := ei32.val) rfl hx
theorem ei32.lkN {x : Option Int} (hx : some none = some x) : lkA none (ei32.val ei32.zero) false = ei32.val (x.getD ei32.zero) := Ef (h := ei32.val) rfl hx
theorem ei32.mput (k : Str) (x : Int) (m : List (Str × Int)) : mput k (ei32.row x) (ei32.ents m) = ei32.ents (mpt k x m) := (P5 ei32.row k x m).symm
def ei64.zero : Int := 0
def ei64.leaf (x : Int) : D := .int .i64 x
def ei64.cells (l : List Int) : List A := l.map fun x => .d (ei64.leaf x)
def ei64.row (x : Int) : Row := [.int .i64 x]
def ei64.rows (l : List Int) : List Row := l.map ei64.row
theorem ei64.rows_map (l : List Int) : ei64.rows l = l.map ei64.row := rfl
theorem ei64.idx {l : List Int} {n : Int} {x : Int} (h : idx l n = some x) : (ei64.rows l)[n.toNat]? = some (ei64.row x) := Z5 ei64.rows_map h
theorem ei64.app (l m : List Int) : ei64.rows (l ++ m) = ei64.rows l ++ ei64.rows m := A6 ei64.rows_map l m
theorem ei64.len (l : List Int) : (ei64.rows l).length = l.length := O5 ei64.rows_map l
theorem ei64.lenA (l : List Int) : A.d (.int .i64 ((ei64.rows l).length : Nat)) = A.d (.int .i64 (l.length : Nat)) := V4 ei64.rows_map l
theorem ei64.sz (l : List Int) : ∀ r ∈ ei64.rows l, r.length = 1 := W7 ei64.rows_map (fun _ => rfl) l
theorem ei64.part {l x : List Int} {a b : Int} (h : slc l a b = some x) : a = (a.toNat : Int) ∧ b = (b.toNat : Int) ∧ a.toNat ≤ b.toNat ∧ b.toNat ≤ (ei64.rows l).length ∧ ei64.rows x = ((ei64.rows l).take b.toNat).drop a.toNat := W4 ei64.rows_map h
def ei64.ents (m : List (Str × Int)) : List (Str × Row) := B6 ei64.row m
def ei64.val (x : Int) : A := .d (.int .i64 x)
theorem ei64.lkT {k : Str} {m : List (Str × Int)} {x : Option Int} (hx : some (mgt k m) = some x) : lkA (O3 k (ei64.ents m)) (ei64.val ei64.zero) true = .tup [ei64.val (x.getD ei64.zero), .d (.bool x.isSome)] := Sk (h := ei64.val) (fun _ => rfl) rfl hx
theorem ei64.lk {k : Str} {m : List (Str × Int)} {x : Option Int} (hx : some (mgt k m) = some x) : lkA (O3 k (ei64.ents m)) (ei64.val ei64.zero) false = ei64.val (x.getD ei64.zero) := Tk (h := ei64.val) (fun _ => rfl) rfl hx
theorem ei64.lkNT {x : Option Int} (hx : some none = some x) : lkA none (ei64.val ei64.zero) true = .tup [ei64.val (x.getD ei64.zero), .d (.bool x.isSome)] := Df (h := ei64.val) rfl hx
theorem ei64.lkN {x : Option Int} (hx : some none = some x) : lkA none (ei64.val ei64.zero) false = ei64.val (x.getD ei64.zero) := Ef (h := ei64.val) rfl hx
theorem ei64.mput (k : Str) (x : Int) (m : List (Str × Int)) : mput k (ei64.row x) (ei64.ents m) = ei64.ents (mpt k x m) := (P5 ei64.row k x m).symm
def ei64.entsI (m : List (Int × Int)) : List (Int × Row) := Am.entsI ei64.row m
theorem ei64.lkIT {k : Int} {m : List (Int × Int)} {x : Option Int} (hx : some (Dt k m) = some x) : lkA (Fv k (ei64.entsI m)) (ei64.val ei64.zero) true = .tup [ei64.val (x.getD ei64.zero), .d (.bool x.isSome)] := X2i (h := ei64.val) (fun _ => rfl) rfl hx
theorem ei64.lkI {k : Int} {m : List (Int × Int)} {x : Option Int} (hx : some (Dt k m) = some x) : lkA (Fv k (ei64.entsI m)) (ei64.val ei64.zero) false = ei64.val (x.getD ei64.zero) := Y2i (h := ei64.val) (fun _ => rfl) rfl hx
theorem ei64.mputI (k : Int) (x : Int) (m : List (Int × Int)) : Am.mputI k (ei64.row x) (ei64.entsI m) = ei64.entsI (W19 k x m) := (O1y ei64.row k x m).symm
def eu8.zero : Int := 0
def eu8.leaf (x : Int) : D := .int .u8 x
def eu8.cells (l : List Int) : List A := l.map fun x => .d (eu8.leaf x)
def eu8.row (x : Int) : Row := [.int .u8 x]
def eu8.rows (l : List Int) : List Row := l.map eu8.row
theorem eu8.rows_map (l : List Int) : eu8.rows l = l.map eu8.row := rfl
theorem eu8.idx {l : List Int} {n : Int} {x : Int} (h : idx l n = some x) : (eu8.rows l)[n.toNat]? = some (eu8.row x) := Z5 eu8.rows_map h
theorem eu8.app (l m : List Int) : eu8.rows (l ++ m) = eu8.rows l ++ eu8.rows m := A6 eu8.rows_map l m
theorem eu8.len (l : List Int) : (eu8.rows l).length = l.length := O5 eu8.rows_map l
theorem eu8.lenA (l : List Int) : A.d (.int .i64 ((eu8.rows l).length : Nat)) = A.d (.int .i64 (l.length : Nat)) := V4 eu8.rows_map l
theorem eu8.sz (l : List Int) : ∀ r ∈ eu8.rows l, r.length = 1 := W7 eu8.rows_map (fun _ => rfl) l
theorem eu8.part {l x : List Int} {a b : Int} (h : slc l a b = some x) : a = (a.toNat : Int) ∧ b = (b.toNat : Int) ∧ a.toNat ≤ b.toNat ∧ b.toNat ≤ (eu8.rows l).length ∧ eu8.rows x = ((eu8.rows l).take b.toNat).drop a.toNat := W4 eu8.rows_map h
def eu8.ents (m : List (Str × Int)) : List (Str × Row) := B6 eu8.row m
def eu8.val (x : Int) : A := .d (.int .u8 x)
theorem eu8.lkT {k : Str} {m : List (Str × Int)} {x : Option Int} (hx : some (mgt k m) = some x) : lkA (O3 k (eu8.ents m)) (eu8.val eu8.zero) true = .tup [eu8.val (x.getD eu8.zero), .d (.bool x.isSome)] := Sk (h := eu8.val) (fun _ => rfl) rfl hx
theorem eu8.lk {k : Str} {m : List (Str × Int)} {x : Option Int} (hx : some (mgt k m) = some x) : lkA (O3 k (eu8.ents m)) (eu8.val eu8.zero) false = eu8.val (x.getD eu8.zero) := Tk (h := eu8.val) (fun _ => rfl) rfl hx
theorem eu8.lkNT {x : Option Int} (hx : some none = some x) : lkA none (eu8.val eu8.zero) true = .tup [eu8.val (x.getD eu8.zero), .d (.bool x.isSome)] := Df (h := eu8.val) rfl hx
theorem eu8.lkN {x : Option Int} (hx : some none = some x) : lkA none (eu8.val eu8.zero) false = eu8.val (x.getD eu8.zero) := Ef (h := eu8.val) rfl hx
theorem eu8.mput (k : Str) (x : Int) (m : List (Str × Int)) : mput k (eu8.row x) (eu8.ents m) = eu8.ents (mpt k x m) := (P5 eu8.row k x m).symm
def eu16.zero : Int := 0
def eu16.leaf (x : Int) : D := .int .u16 x
def eu16.cells (l : List Int) : List A := l.map fun x => .d (eu16.leaf x)
def eu16.row (x : Int) : Row := [.int .u16 x]
def eu16.rows (l : List Int) : List Row := l.map eu16.row
theorem eu16.rows_map (l : List Int) : eu16.rows l = l.map eu16.row := rfl
theorem eu16.idx {l : List Int} {n : Int} {x : Int} (h : idx l n = some x) : (eu16.rows l)[n.toNat]? = some (eu16.row x) := Z5 eu16.rows_map h
theorem eu16.app (l m : List Int) : eu16.rows (l ++ m) = eu16.rows l ++ eu16.rows m := A6 eu16.rows_map l m
theorem eu16.len (l : List Int) : (eu16.rows l).length = l.length := O5 eu16.rows_map l
theorem eu16.lenA (l : List Int) : A.d (.int .i64 ((eu16.rows l).length : Nat)) = A.d (.int .i64 (l.length : Nat)) := V4 eu16.rows_map l
theorem eu16.sz (l : List Int) : ∀ r ∈ eu16.rows l, r.length = 1 := W7 eu16.rows_map (fun _ => rfl) l
theorem eu16.part {l x : List Int} {a b : Int} (h : slc l a b = some x) : a = (a.toNat : Int) ∧ b = (b.toNat : Int) ∧ a.toNat ≤ b.toNat ∧ b.toNat ≤ (eu16.rows l).length ∧ eu16.rows x = ((eu16.rows l).take b.toNat).drop a.toNat := W4 eu16.rows_map h
def eu16.ents (m : List (Str × Int)) : List (Str × Row) := B6 eu16.row m
def eu16.val (x : Int) : A := .d (.int .u16 x)
theorem eu16.lkT {k : Str} {m : List (Str × Int)} {x : Option Int} (hx : some (mgt k m) = some x) : lkA (O3 k (eu16.ents m)) (eu16.val eu16.zero) true = .tup [eu16.val (x.getD eu16.zero), .d (.bool x.isSome)] := Sk (h := eu16.val) (fun _ => rfl) rfl hx
theorem eu16.lk {k : Str} {m : List (Str × Int)} {x : Option Int} (hx : some (mgt k m) = some x) : lkA (O3 k (eu16.ents m)) (eu16.val eu16.zero) false = eu16.val (x.getD eu16.zero) := Tk (h := eu16.val) (fun _ => rfl) rfl hx
theorem eu16.lkNT {x : Option Int} (hx : some none = some x) : lkA none (eu16.val eu16.zero) true = .tup [eu16.val (x.getD eu16.zero), .d (.bool x.isSome)] := Df (h := eu16.val) rfl hx
theorem eu16.lkN {x : Option Int} (hx : some none = some x) : lkA none (eu16.val eu16.zero) false = eu16.val (x.getD eu16.zero) := Ef (h := eu16.val) rfl hx
theorem eu16.mput (k : Str) (x : Int) (m : List (Str × Int)) : mput k (eu16.row x) (eu16.ents m) = eu16.ents (mpt k x m) := (P5 eu16.row k x m).symm
def eu32.zero : Int := 0
def eu32.leaf (x : Int) : D := .int .u32 x
def eu32.cells (l : List Int) : List A := l.map fun x => .d (eu32.leaf x)
def eu32.row (x : Int) : Row := [.int .u32 x]
def eu32.rows (l : List Int) : List Row := l.map eu32.row
theorem eu32.rows_map (l : List Int) : eu32.rows l = l.map eu32.row := rfl
theorem eu32.idx {l : List Int} {n : Int} {x : Int} (h : idx l n = some x) : (eu32.rows l)[n.toNat]? = some (eu32.row x) := Z5 eu32.rows_map h
theorem eu32.app (l m : List Int) : eu32.rows (l ++ m) = eu32.rows l ++ eu32.rows m := A6 eu32.rows_map l m
theorem eu32.len (l : List Int) : (eu32.rows l).length = l.length := O5 eu32.rows_map l
theorem eu32.lenA (l : List Int) : A.d (.int .i64 ((eu32.rows l).length : Nat)) = A.d (.int .i64 (l.length : Nat)) := V4 eu32.rows_map l
theorem eu32.sz (l : List Int) : ∀ r ∈ eu32.rows l, r.length = 1 := W7 eu32.rows_map (fun _ => rfl) l
theorem eu32.part {l x : List Int} {a b : Int} (h : slc l a b = some x) : a = (a.toNat : Int) ∧ b = (b.toNat : Int) ∧ a.toNat ≤ b.toNat ∧ b.toNat ≤ (eu32.rows l).length ∧ eu32.rows x = ((eu32.rows l).take b.toNat).drop a.toNat := W4 eu32.rows_map h
def eu32.ents (m : List (Str × Int)) : List (Str × Row) := B6 eu32.row m
def eu32.val (x : Int) : A := .d (.int .u32 x)
theorem eu32.lkT {k : Str} {m : List (Str × Int)} {x : Option Int} (hx : some (mgt k m) = some x) : lkA (O3 k (eu32.ents m)) (eu32.val eu32.zero) true = .tup [eu32.val (x.getD eu32.zero), .d (.bool x.isSome)] := Sk (h := eu32.val) (fun _ => rfl) rfl hx
theorem eu32.lk {k : Str} {m : List (Str × Int)} {x : Option Int} (hx : some (mgt k m) = some x) : lkA (O3 k (eu32.ents m)) (eu32.val eu32.zero) false = eu32.val (x.getD eu32.zero) := Tk (h := eu32.val) (fun _ => rfl) rfl hx
theorem eu32.lkNT {x : Option Int} (hx : some none = some x) : lkA none (eu32.val eu32.zero) true = .tup [eu32.val (x.getD eu32.zero), .d (.bool x.isSome)] := Df (h := eu32.val) rfl hx
theorem eu32.lkN {x : Option Int} (hx : some none = some x) : lkA none (eu32.val eu32.zero) false = eu32.val (x.getD eu32.zero) := Ef (h := eu32.val) rfl hx
theorem eu32.mput (k : Str) (x : Int) (m : List (Str × Int)) : mput k (eu32.row x) (eu32.ents m) = eu32.ents (mpt k x m) := (P5 eu32.row k x m).symm
def eu64.zero : Int := 0
def eu64.leaf (x : Int) : D := .int .u64 x
def eu64.cells (l : List Int) : List A := l.map fun x => .d (eu64.leaf x)
def eu64.row (x : Int) : Row := [.int .u64 x]
def eu64.rows (l : List Int) : List Row := l.map eu64.row
theorem eu64.rows_map (l : List Int) : eu64.rows l = l.map eu64.row := rfl
theorem eu64.idx {l : List Int} {n : Int} {x : Int} (h : idx l n = some x) : (eu64.rows l)[n.toNat]? = some (eu64.row x) := Z5 eu64.rows_map h
theorem eu64.app (l m : List Int) : eu64.rows (l ++ m) = eu64.rows l ++ eu64.rows m := A6 eu64.rows_map l m
theorem eu64.len (l : List Int) : (eu64.rows l).length = l.length := O5 eu64.rows_map l
theorem eu64.lenA (l : List Int) : A.d (.int .i64 ((eu64.rows l).length : Nat)) = A.d (.int .i64 (l.length : Nat)) := V4 eu64.rows_map l
theorem eu64.sz (l : List Int) : ∀ r ∈ eu64.rows l, r.length = 1 := W7 eu64.rows_map (fun _ => rfl) l
theorem eu64.part {l x : List Int} {a b : Int} (h : slc l a b = some x) : a = (a.toNat : Int) ∧ b = (b.toNat : Int) ∧ a.toNat ≤ b.toNat ∧ b.toNat ≤ (eu64.rows l).length ∧ eu64.rows x = ((eu64.rows l).take b.toNat).drop a.toNat := W4 eu64.rows_map h
def eu64.ents (m : List (Str × Int)) : List (Str × Row) := B6 eu64.row m
def eu64.val (x : Int) : A := .d (.int .u64 x)
theorem eu64.lkT {k : Str} {m : List (Str × Int)} {x : Option Int} (hx : some (mgt k m) = some x) : lkA (O3 k (eu64.ents m)) (eu64.val eu64.zero) true = .tup [eu64.val (x.getD eu64.zero), .d (.bool x.isSome)] := Sk (h := eu64.val) (fun _ => rfl) rfl hx
theorem eu64.lk {k : Str} {m : List (Str × Int)} {x : Option Int} (hx : some (mgt k m) = some x) : lkA (O3 k (eu64.ents m)) (eu64.val eu64.zero) false = eu64.val (x.getD eu64.zero) := Tk (h := eu64.val) (fun _ => rfl) rfl hx
theorem eu64.lkNT {x : Option Int} (hx : some none = some x) : lkA none (eu64.val eu64.zero) true = .tup [eu64.val (x.getD eu64.zero), .d (.bool x.isSome)] := Df (h := eu64.val) rfl hx
theorem eu64.lkN {x : Option Int} (hx : some none = some x) : lkA none (eu64.val eu64.zero) false = eu64.val (x.getD eu64.zero) := Ef (h := eu64.val) rfl hx
theorem eu64.mput (k : Str) (x : Int) (m : List (Str × Int)) : mput k (eu64.row x) (eu64.ents m) = eu64.ents (mpt k x m) := (P5 eu64.row k x m).symm
structure A0 where
  Kind : Int
  Low : Int
  High : Int
  Size : Int
  Name : Str
  Names : List Str
  Of : List A0
def A0.zero : A0 := ⟨0, 0, 0, 0, [], [], []⟩
instance : Inhabited A0 := ⟨A0.zero⟩
mutual
def A0.rowX : A0 → Row
  | .mk y0 y1 y2 y3 y4 y5 y6 => [.int .i64 y0, .int .i64 y1, .int .i64 y2, .int .i64 y3, .str y4, .sl (estr.rows y5), .sl (A0.rowsX y6)]
def A0.rowsX : List A0 → List Row
  | [] => []
  | x :: r => A0.rowX x :: A0.rowsX r
end
def A0.rows (l : List A0) : List Row := A0.rowsX l
def A0.row (x : A0) : Row := [.int .i64 x.Kind, .int .i64 x.Low, .int .i64 x.High, .int .i64 x.Size, .str x.Name, .sl (estr.rows x.Names), .sl (A0.rows x.Of)]
theorem A0.rows_map : ∀ l, A0.rows l = l.map A0.row
  | [] => rfl
  | x :: r => by
    show A0.rowX x :: A0.rows r = A0.row x :: r.map A0.row
    rw [A0.rows_map r]
    cases x
    rfl
def A0.cells (x : A0) : List A := [.d (.int .i64 x.Kind), .d (.int .i64 x.Low), .d (.int .i64 x.High), .d (.int .i64 x.Size), .d (.str x.Name), .d (.sl (estr.rows x.Names)), .d (.sl (A0.rows x.Of))]
theorem A0.idx {l : List A0} {n : Int} {x : A0} (h : idx l n = some x) : (A0.rows l)[n.toNat]? = some (A0.row x) := Z5 A0.rows_map h
theorem A0.app (l m : List A0) : A0.rows (l ++ m) = A0.rows l ++ A0.rows m := A6 A0.rows_map l m
theorem A0.len (l : List A0) : (A0.rows l).length = l.length := O5 A0.rows_map l
theorem A0.lenA (l : List A0) : A.d (.int .i64 ((A0.rows l).length : Nat)) = A.d (.int .i64 (l.length : Nat)) := V4 A0.rows_map l
theorem A0.sz (l : List A0) : ∀ r ∈ A0.rows l, r.length = 7 := W7 A0.rows_map (fun _ => rfl) l
theorem A0.part {l x : List A0} {a b : Int} (h : slc l a b = some x) : a = (a.toNat : Int) ∧ b = (b.toNat : Int) ∧ a.toNat ≤ b.toNat ∧ b.toNat ≤ (A0.rows l).length ∧ A0.rows x = ((A0.rows l).take b.toNat).drop a.toNat := W4 A0.rows_map h
def A0.ents (m : List (Str × A0)) : List (Str × Row) := B6 A0.row m
def A0.val (x : A0) : A := .agg (A0.cells x)
theorem A0.lkT {k : Str} {m : List (Str × A0)} {x : Option A0} (hx : some (mgt k m) = some x) : lkA (O3 k (A0.ents m)) (A0.val A0.zero) true = .tup [A0.val (x.getD A0.zero), .d (.bool x.isSome)] := Sk (h := A0.val) (fun _ => rfl) rfl hx
theorem A0.lk {k : Str} {m : List (Str × A0)} {x : Option A0} (hx : some (mgt k m) = some x) : lkA (O3 k (A0.ents m)) (A0.val A0.zero) false = A0.val (x.getD A0.zero) := Tk (h := A0.val) (fun _ => rfl) rfl hx
theorem A0.lkNT {x : Option A0} (hx : some none = some x) : lkA none (A0.val A0.zero) true = .tup [A0.val (x.getD A0.zero), .d (.bool x.isSome)] := Df (h := A0.val) rfl hx
theorem A0.lkN {x : Option A0} (hx : some none = some x) : lkA none (A0.val A0.zero) false = A0.val (x.getD A0.zero) := Ef (h := A0.val) rfl hx
theorem A0.mput (k : Str) (x : A0) (m : List (Str × A0)) : mput k (A0.row x) (A0.ents m) = A0.ents (mpt k x m) := (P5 A0.row k x m).symm
structure C0 where
  Op : Int
  NV : Int
  Name : Str
  Kids : List C0
def C0.zero : C0 := ⟨0, 0, [], []⟩
instance : Inhabited C0 := ⟨C0.zero⟩
mutual
def C0.rowX : C0 → Row
  | .mk y0 y1 y2 y3 => [.int .i64 y0, .int .i64 y1, .str y2, .sl (C0.rowsX y3)]
def C0.rowsX : List C0 → List Row
  | [] => []
  | x :: r => C0.rowX x :: C0.rowsX r
end
def C0.rows (l : List C0) : List Row := C0.rowsX l
def C0.row (x : C0) : Row := [.int .i64 x.Op, .int .i64 x.NV, .str x.Name, .sl (C0.rows x.Kids)]
theorem C0.rows_map : ∀ l, C0.rows l = l.map C0.row
  | [] => rfl
  | x :: r => by
    show C0.rowX x :: C0.rows r = C0.row x :: r.map C0.row
    rw [C0.rows_map r]
    cases x
    rfl
def C0.cells (x : C0) : List A := [.d (.int .i64 x.Op), .d (.int .i64 x.NV), .d (.str x.Name), .d (.sl (C0.rows x.Kids))]
theorem C0.idx {l : List C0} {n : Int} {x : C0} (h : idx l n = some x) : (C0.rows l)[n.toNat]? = some (C0.row x) := Z5 C0.rows_map h
theorem C0.app (l m : List C0) : C0.rows (l ++ m) = C0.rows l ++ C0.rows m := A6 C0.rows_map l m
theorem C0.len (l : List C0) : (C0.rows l).length = l.length := O5 C0.rows_map l
theorem C0.lenA (l : List C0) : A.d (.int .i64 ((C0.rows l).length : Nat)) = A.d (.int .i64 (l.length : Nat)) := V4 C0.rows_map l
theorem C0.sz (l : List C0) : ∀ r ∈ C0.rows l, r.length = 4 := W7 C0.rows_map (fun _ => rfl) l
theorem C0.part {l x : List C0} {a b : Int} (h : slc l a b = some x) : a = (a.toNat : Int) ∧ b = (b.toNat : Int) ∧ a.toNat ≤ b.toNat ∧ b.toNat ≤ (C0.rows l).length ∧ C0.rows x = ((C0.rows l).take b.toNat).drop a.toNat := W4 C0.rows_map h
def C0.ents (m : List (Str × C0)) : List (Str × Row) := B6 C0.row m
def C0.val (x : C0) : A := .agg (C0.cells x)
theorem C0.lkT {k : Str} {m : List (Str × C0)} {x : Option C0} (hx : some (mgt k m) = some x) : lkA (O3 k (C0.ents m)) (C0.val C0.zero) true = .tup [C0.val (x.getD C0.zero), .d (.bool x.isSome)] := Sk (h := C0.val) (fun _ => rfl) rfl hx
theorem C0.lk {k : Str} {m : List (Str × C0)} {x : Option C0} (hx : some (mgt k m) = some x) : lkA (O3 k (C0.ents m)) (C0.val C0.zero) false = C0.val (x.getD C0.zero) := Tk (h := C0.val) (fun _ => rfl) rfl hx
theorem C0.lkNT {x : Option C0} (hx : some none = some x) : lkA none (C0.val C0.zero) true = .tup [C0.val (x.getD C0.zero), .d (.bool x.isSome)] := Df (h := C0.val) rfl hx
theorem C0.lkN {x : Option C0} (hx : some none = some x) : lkA none (C0.val C0.zero) false = C0.val (x.getD C0.zero) := Ef (h := C0.val) rfl hx
theorem C0.mput (k : Str) (x : C0) (m : List (Str × C0)) : mput k (C0.row x) (C0.ents m) = C0.ents (mpt k x m) := (P5 C0.row k x m).symm
structure D0 where
  Verb : Int
  Place : C0
  Value : C0
  Name : Str
  Args : List C0
  NV : Int
  Low : Int
  High : Int
  Numbers : List Int
  Then : List D0
  Else : List D0
def D0.zero : D0 := ⟨0, ⟨0, 0, [], []⟩, ⟨0, 0, [], []⟩, [], [], 0, 0, 0, [], [], []⟩
instance : Inhabited D0 := ⟨D0.zero⟩
mutual
def D0.rowX : D0 → Row
  | .mk y0 y1 y2 y3 y4 y5 y6 y7 y8 y9 y10 => [.int .i64 y0, .int .i64 y1.Op, .int .i64 y1.NV, .str y1.Name, .sl (C0.rows y1.Kids), .int .i64 y2.Op, .int .i64 y2.NV, .str y2.Name, .sl (C0.rows y2.Kids), .str y3, .sl (C0.rows y4), .int .i64 y5, .int .i64 y6, .int .i64 y7, .sl (ei64.rows y8), .sl (D0.rowsX y9), .sl (D0.rowsX y10)]
def D0.rowsX : List D0 → List Row
  | [] => []
  | x :: r => D0.rowX x :: D0.rowsX r
end
def D0.rows (l : List D0) : List Row := D0.rowsX l
def D0.row (x : D0) : Row := [.int .i64 x.Verb, .int .i64 x.Place.Op, .int .i64 x.Place.NV, .str x.Place.Name, .sl (C0.rows x.Place.Kids), .int .i64 x.Value.Op, .int .i64 x.Value.NV, .str x.Value.Name, .sl (C0.rows x.Value.Kids), .str x.Name, .sl (C0.rows x.Args), .int .i64 x.NV, .int .i64 x.Low, .int .i64 x.High, .sl (ei64.rows x.Numbers), .sl (D0.rows x.Then), .sl (D0.rows x.Else)]
theorem D0.rows_map : ∀ l, D0.rows l = l.map D0.row
  | [] => rfl
  | x :: r => by
    show D0.rowX x :: D0.rows r = D0.row x :: r.map D0.row
    rw [D0.rows_map r]
    cases x
    rfl
def D0.cells (x : D0) : List A := [.d (.int .i64 x.Verb), .d (.int .i64 x.Place.Op), .d (.int .i64 x.Place.NV), .d (.str x.Place.Name), .d (.sl (C0.rows x.Place.Kids)), .d (.int .i64 x.Value.Op), .d (.int .i64 x.Value.NV), .d (.str x.Value.Name), .d (.sl (C0.rows x.Value.Kids)), .d (.str x.Name), .d (.sl (C0.rows x.Args)), .d (.int .i64 x.NV), .d (.int .i64 x.Low), .d (.int .i64 x.High), .d (.sl (ei64.rows x.Numbers)), .d (.sl (D0.rows x.Then)), .d (.sl (D0.rows x.Else))]
theorem D0.idx {l : List D0} {n : Int} {x : D0} (h : idx l n = some x) : (D0.rows l)[n.toNat]? = some (D0.row x) := Z5 D0.rows_map h
theorem D0.app (l m : List D0) : D0.rows (l ++ m) = D0.rows l ++ D0.rows m := A6 D0.rows_map l m
theorem D0.len (l : List D0) : (D0.rows l).length = l.length := O5 D0.rows_map l
theorem D0.lenA (l : List D0) : A.d (.int .i64 ((D0.rows l).length : Nat)) = A.d (.int .i64 (l.length : Nat)) := V4 D0.rows_map l
theorem D0.sz (l : List D0) : ∀ r ∈ D0.rows l, r.length = 17 := W7 D0.rows_map (fun _ => rfl) l
theorem D0.part {l x : List D0} {a b : Int} (h : slc l a b = some x) : a = (a.toNat : Int) ∧ b = (b.toNat : Int) ∧ a.toNat ≤ b.toNat ∧ b.toNat ≤ (D0.rows l).length ∧ D0.rows x = ((D0.rows l).take b.toNat).drop a.toNat := W4 D0.rows_map h
def D0.ents (m : List (Str × D0)) : List (Str × Row) := B6 D0.row m
def D0.val (x : D0) : A := .agg (D0.cells x)
theorem D0.lkT {k : Str} {m : List (Str × D0)} {x : Option D0} (hx : some (mgt k m) = some x) : lkA (O3 k (D0.ents m)) (D0.val D0.zero) true = .tup [D0.val (x.getD D0.zero), .d (.bool x.isSome)] := Sk (h := D0.val) (fun _ => rfl) rfl hx
theorem D0.lk {k : Str} {m : List (Str × D0)} {x : Option D0} (hx : some (mgt k m) = some x) : lkA (O3 k (D0.ents m)) (D0.val D0.zero) false = D0.val (x.getD D0.zero) := Tk (h := D0.val) (fun _ => rfl) rfl hx
theorem D0.lkNT {x : Option D0} (hx : some none = some x) : lkA none (D0.val D0.zero) true = .tup [D0.val (x.getD D0.zero), .d (.bool x.isSome)] := Df (h := D0.val) rfl hx
theorem D0.lkN {x : Option D0} (hx : some none = some x) : lkA none (D0.val D0.zero) false = D0.val (x.getD D0.zero) := Ef (h := D0.val) rfl hx
theorem D0.mput (k : Str) (x : D0) (m : List (Str × D0)) : mput k (D0.row x) (D0.ents m) = D0.ents (mpt k x m) := (P5 D0.row k x m).symm
structure B0 where
  Kind : Int
  Name : Str
  TypeV : A0
  Init : Int
  Value : C0
  Params : List B0
  Vars : List B0
  Body : List D0
def B0.zero : B0 := ⟨0, [], ⟨0, 0, 0, 0, [], [], []⟩, 0, ⟨0, 0, [], []⟩, [], [], []⟩
instance : Inhabited B0 := ⟨B0.zero⟩
mutual
def B0.rowX : B0 → Row
  | .mk y0 y1 y2 y3 y4 y5 y6 y7 => [.int .i64 y0, .str y1, .int .i64 y2.Kind, .int .i64 y2.Low, .int .i64 y2.High, .int .i64 y2.Size, .str y2.Name, .sl (estr.rows y2.Names), .sl (A0.rows y2.Of), .int .i64 y3, .int .i64 y4.Op, .int .i64 y4.NV, .str y4.Name, .sl (C0.rows y4.Kids), .sl (B0.rowsX y5), .sl (B0.rowsX y6), .sl (D0.rows y7)]
def B0.rowsX : List B0 → List Row
  | [] => []
  | x :: r => B0.rowX x :: B0.rowsX r
end
def B0.rows (l : List B0) : List Row := B0.rowsX l
def B0.row (x : B0) : Row := [.int .i64 x.Kind, .str x.Name, .int .i64 x.TypeV.Kind, .int .i64 x.TypeV.Low, .int .i64 x.TypeV.High, .int .i64 x.TypeV.Size, .str x.TypeV.Name, .sl (estr.rows x.TypeV.Names), .sl (A0.rows x.TypeV.Of), .int .i64 x.Init, .int .i64 x.Value.Op, .int .i64 x.Value.NV, .str x.Value.Name, .sl (C0.rows x.Value.Kids), .sl (B0.rows x.Params), .sl (B0.rows x.Vars), .sl (D0.rows x.Body)]
theorem B0.rows_map : ∀ l, B0.rows l = l.map B0.row
  | [] => rfl
  | x :: r => by
    show B0.rowX x :: B0.rows r = B0.row x :: r.map B0.row
    rw [B0.rows_map r]
    cases x
    rfl
def B0.cells (x : B0) : List A := [.d (.int .i64 x.Kind), .d (.str x.Name), .d (.int .i64 x.TypeV.Kind), .d (.int .i64 x.TypeV.Low), .d (.int .i64 x.TypeV.High), .d (.int .i64 x.TypeV.Size), .d (.str x.TypeV.Name), .d (.sl (estr.rows x.TypeV.Names)), .d (.sl (A0.rows x.TypeV.Of)), .d (.int .i64 x.Init), .d (.int .i64 x.Value.Op), .d (.int .i64 x.Value.NV), .d (.str x.Value.Name), .d (.sl (C0.rows x.Value.Kids)), .d (.sl (B0.rows x.Params)), .d (.sl (B0.rows x.Vars)), .d (.sl (D0.rows x.Body))]
theorem B0.idx {l : List B0} {n : Int} {x : B0} (h : idx l n = some x) : (B0.rows l)[n.toNat]? = some (B0.row x) := Z5 B0.rows_map h
theorem B0.app (l m : List B0) : B0.rows (l ++ m) = B0.rows l ++ B0.rows m := A6 B0.rows_map l m
theorem B0.len (l : List B0) : (B0.rows l).length = l.length := O5 B0.rows_map l
theorem B0.lenA (l : List B0) : A.d (.int .i64 ((B0.rows l).length : Nat)) = A.d (.int .i64 (l.length : Nat)) := V4 B0.rows_map l
theorem B0.sz (l : List B0) : ∀ r ∈ B0.rows l, r.length = 17 := W7 B0.rows_map (fun _ => rfl) l
theorem B0.part {l x : List B0} {a b : Int} (h : slc l a b = some x) : a = (a.toNat : Int) ∧ b = (b.toNat : Int) ∧ a.toNat ≤ b.toNat ∧ b.toNat ≤ (B0.rows l).length ∧ B0.rows x = ((B0.rows l).take b.toNat).drop a.toNat := W4 B0.rows_map h
def B0.ents (m : List (Str × B0)) : List (Str × Row) := B6 B0.row m
def B0.val (x : B0) : A := .agg (B0.cells x)
theorem B0.lkT {k : Str} {m : List (Str × B0)} {x : Option B0} (hx : some (mgt k m) = some x) : lkA (O3 k (B0.ents m)) (B0.val B0.zero) true = .tup [B0.val (x.getD B0.zero), .d (.bool x.isSome)] := Sk (h := B0.val) (fun _ => rfl) rfl hx
theorem B0.lk {k : Str} {m : List (Str × B0)} {x : Option B0} (hx : some (mgt k m) = some x) : lkA (O3 k (B0.ents m)) (B0.val B0.zero) false = B0.val (x.getD B0.zero) := Tk (h := B0.val) (fun _ => rfl) rfl hx
theorem B0.lkNT {x : Option B0} (hx : some none = some x) : lkA none (B0.val B0.zero) true = .tup [B0.val (x.getD B0.zero), .d (.bool x.isSome)] := Df (h := B0.val) rfl hx
theorem B0.lkN {x : Option B0} (hx : some none = some x) : lkA none (B0.val B0.zero) false = B0.val (x.getD B0.zero) := Ef (h := B0.val) rfl hx
theorem B0.mput (k : Str) (x : B0) (m : List (Str × B0)) : mput k (B0.row x) (B0.ents m) = B0.ents (mpt k x m) := (P5 B0.row k x m).symm
def B0.flat (l : List B0) : List A := (B0.rows l).flatten.map A.d
theorem B0.ne {l : List B0} (h : 0 < l.length) : B0.rows l ≠ [] := fun e => by have := B0.len l; rw [e] at this; simp at this; omega
theorem B0.flat_get {l : List B0} {i j : Nat} {x : B0} {d : D} (h : l[i]? = some x) (hj : (B0.row x)[j]? = some d) : (B0.flat l)[0 + i * 17 + j]? = some (.d d) := by rw [Nat.zero_add]; exact Am.flat_get B0.rows_map (fun _ => rfl) h hj
theorem B0.flat_lt {l : List B0} {i j : Nat} {x : B0} (h : l[i]? = some x) (hj : j < 17) : 0 + i * 17 + j < (B0.flat l).length := by rw [Nat.zero_add]; exact Am.flat_lt B0.rows_map (fun _ => rfl) h hj
theorem B0.flat_set {l : List B0} {i j : Nat} {x y : B0} {d : D} (h : l[i]? = some x) (hj : j < 17) (hy : B0.row y = (B0.row x).set j d) : B0.flat (l.set i y) = Mg (B0.flat l) (0 + i * 17 + j) [.d d] := by rw [Nat.zero_add]; exact Am.flat_set B0.rows_map (fun _ => rfl) h hj hy
structure K0 where
  Decls : List B0
  Body : List D0
def K0.zero : K0 := ⟨[], []⟩
instance : Inhabited K0 := ⟨K0.zero⟩
def K0.row (x : K0) : Row := [.sl (B0.rows x.Decls), .sl (D0.rows x.Body)]
def K0.rows (l : List K0) : List Row := l.map K0.row
theorem K0.rows_map (l : List K0) : K0.rows l = l.map K0.row := rfl
def K0.cells (x : K0) : List A := [.d (.sl (B0.rows x.Decls)), .d (.sl (D0.rows x.Body))]
theorem K0.idx {l : List K0} {n : Int} {x : K0} (h : idx l n = some x) : (K0.rows l)[n.toNat]? = some (K0.row x) := Z5 K0.rows_map h
theorem K0.app (l m : List K0) : K0.rows (l ++ m) = K0.rows l ++ K0.rows m := A6 K0.rows_map l m
theorem K0.len (l : List K0) : (K0.rows l).length = l.length := O5 K0.rows_map l
theorem K0.lenA (l : List K0) : A.d (.int .i64 ((K0.rows l).length : Nat)) = A.d (.int .i64 (l.length : Nat)) := V4 K0.rows_map l
theorem K0.sz (l : List K0) : ∀ r ∈ K0.rows l, r.length = 2 := W7 K0.rows_map (fun _ => rfl) l
theorem K0.part {l x : List K0} {a b : Int} (h : slc l a b = some x) : a = (a.toNat : Int) ∧ b = (b.toNat : Int) ∧ a.toNat ≤ b.toNat ∧ b.toNat ≤ (K0.rows l).length ∧ K0.rows x = ((K0.rows l).take b.toNat).drop a.toNat := W4 K0.rows_map h
def K0.ents (m : List (Str × K0)) : List (Str × Row) := B6 K0.row m
def K0.val (x : K0) : A := .agg (K0.cells x)
theorem K0.lkT {k : Str} {m : List (Str × K0)} {x : Option K0} (hx : some (mgt k m) = some x) : lkA (O3 k (K0.ents m)) (K0.val K0.zero) true = .tup [K0.val (x.getD K0.zero), .d (.bool x.isSome)] := Sk (h := K0.val) (fun _ => rfl) rfl hx
theorem K0.lk {k : Str} {m : List (Str × K0)} {x : Option K0} (hx : some (mgt k m) = some x) : lkA (O3 k (K0.ents m)) (K0.val K0.zero) false = K0.val (x.getD K0.zero) := Tk (h := K0.val) (fun _ => rfl) rfl hx
theorem K0.lkNT {x : Option K0} (hx : some none = some x) : lkA none (K0.val K0.zero) true = .tup [K0.val (x.getD K0.zero), .d (.bool x.isSome)] := Df (h := K0.val) rfl hx
theorem K0.lkN {x : Option K0} (hx : some none = some x) : lkA none (K0.val K0.zero) false = K0.val (x.getD K0.zero) := Ef (h := K0.val) rfl hx
theorem K0.mput (k : Str) (x : K0) (m : List (Str × K0)) : mput k (K0.row x) (K0.ents m) = K0.ents (mpt k x m) := (P5 K0.row k x m).symm
structure E0 where
  nodes : Int
  depth : Int
  badForm : Bool
  badName : Bool
  badNumber : Bool
def E0.zero : E0 := ⟨0, 0, false, false, false⟩
instance : Inhabited E0 := ⟨E0.zero⟩
def E0.row (x : E0) : Row := [.int .i64 x.nodes, .int .i64 x.depth, .bool x.badForm, .bool x.badName, .bool x.badNumber]
def E0.rows (l : List E0) : List Row := l.map E0.row
theorem E0.rows_map (l : List E0) : E0.rows l = l.map E0.row := rfl
def E0.cells (x : E0) : List A := [.d (.int .i64 x.nodes), .d (.int .i64 x.depth), .d (.bool x.badForm), .d (.bool x.badName), .d (.bool x.badNumber)]
theorem E0.idx {l : List E0} {n : Int} {x : E0} (h : idx l n = some x) : (E0.rows l)[n.toNat]? = some (E0.row x) := Z5 E0.rows_map h
theorem E0.app (l m : List E0) : E0.rows (l ++ m) = E0.rows l ++ E0.rows m := A6 E0.rows_map l m
theorem E0.len (l : List E0) : (E0.rows l).length = l.length := O5 E0.rows_map l
theorem E0.lenA (l : List E0) : A.d (.int .i64 ((E0.rows l).length : Nat)) = A.d (.int .i64 (l.length : Nat)) := V4 E0.rows_map l
theorem E0.sz (l : List E0) : ∀ r ∈ E0.rows l, r.length = 5 := W7 E0.rows_map (fun _ => rfl) l
theorem E0.part {l x : List E0} {a b : Int} (h : slc l a b = some x) : a = (a.toNat : Int) ∧ b = (b.toNat : Int) ∧ a.toNat ≤ b.toNat ∧ b.toNat ≤ (E0.rows l).length ∧ E0.rows x = ((E0.rows l).take b.toNat).drop a.toNat := W4 E0.rows_map h
def E0.ents (m : List (Str × E0)) : List (Str × Row) := B6 E0.row m
def E0.val (x : E0) : A := .agg (E0.cells x)
theorem E0.lkT {k : Str} {m : List (Str × E0)} {x : Option E0} (hx : some (mgt k m) = some x) : lkA (O3 k (E0.ents m)) (E0.val E0.zero) true = .tup [E0.val (x.getD E0.zero), .d (.bool x.isSome)] := Sk (h := E0.val) (fun _ => rfl) rfl hx
theorem E0.lk {k : Str} {m : List (Str × E0)} {x : Option E0} (hx : some (mgt k m) = some x) : lkA (O3 k (E0.ents m)) (E0.val E0.zero) false = E0.val (x.getD E0.zero) := Tk (h := E0.val) (fun _ => rfl) rfl hx
theorem E0.lkNT {x : Option E0} (hx : some none = some x) : lkA none (E0.val E0.zero) true = .tup [E0.val (x.getD E0.zero), .d (.bool x.isSome)] := Df (h := E0.val) rfl hx
theorem E0.lkN {x : Option E0} (hx : some none = some x) : lkA none (E0.val E0.zero) false = E0.val (x.getD E0.zero) := Ef (h := E0.val) rfl hx
theorem E0.mput (k : Str) (x : E0) (m : List (Str × E0)) : mput k (E0.row x) (E0.ents m) = E0.ents (mpt k x m) := (P5 E0.row k x m).symm
structure X0 where
  place : Bool
  value : Bool
  name : Bool
  args : Bool
  n : Bool
  bounds : Bool
  numbers : Bool
  thenV : Bool
  other : Bool
def X0.zero : X0 := ⟨false, false, false, false, false, false, false, false, false⟩
instance : Inhabited X0 := ⟨X0.zero⟩
def X0.row (x : X0) : Row := [.bool x.place, .bool x.value, .bool x.name, .bool x.args, .bool x.n, .bool x.bounds, .bool x.numbers, .bool x.thenV, .bool x.other]
def X0.rows (l : List X0) : List Row := l.map X0.row
theorem X0.rows_map (l : List X0) : X0.rows l = l.map X0.row := rfl
def X0.cells (x : X0) : List A := [.d (.bool x.place), .d (.bool x.value), .d (.bool x.name), .d (.bool x.args), .d (.bool x.n), .d (.bool x.bounds), .d (.bool x.numbers), .d (.bool x.thenV), .d (.bool x.other)]
theorem X0.idx {l : List X0} {n : Int} {x : X0} (h : idx l n = some x) : (X0.rows l)[n.toNat]? = some (X0.row x) := Z5 X0.rows_map h
theorem X0.app (l m : List X0) : X0.rows (l ++ m) = X0.rows l ++ X0.rows m := A6 X0.rows_map l m
theorem X0.len (l : List X0) : (X0.rows l).length = l.length := O5 X0.rows_map l
theorem X0.lenA (l : List X0) : A.d (.int .i64 ((X0.rows l).length : Nat)) = A.d (.int .i64 (l.length : Nat)) := V4 X0.rows_map l
theorem X0.sz (l : List X0) : ∀ r ∈ X0.rows l, r.length = 9 := W7 X0.rows_map (fun _ => rfl) l
theorem X0.part {l x : List X0} {a b : Int} (h : slc l a b = some x) : a = (a.toNat : Int) ∧ b = (b.toNat : Int) ∧ a.toNat ≤ b.toNat ∧ b.toNat ≤ (X0.rows l).length ∧ X0.rows x = ((X0.rows l).take b.toNat).drop a.toNat := W4 X0.rows_map h
def X0.ents (m : List (Str × X0)) : List (Str × Row) := B6 X0.row m
def X0.val (x : X0) : A := .agg (X0.cells x)
theorem X0.lkT {k : Str} {m : List (Str × X0)} {x : Option X0} (hx : some (mgt k m) = some x) : lkA (O3 k (X0.ents m)) (X0.val X0.zero) true = .tup [X0.val (x.getD X0.zero), .d (.bool x.isSome)] := Sk (h := X0.val) (fun _ => rfl) rfl hx
theorem X0.lk {k : Str} {m : List (Str × X0)} {x : Option X0} (hx : some (mgt k m) = some x) : lkA (O3 k (X0.ents m)) (X0.val X0.zero) false = X0.val (x.getD X0.zero) := Tk (h := X0.val) (fun _ => rfl) rfl hx
theorem X0.lkNT {x : Option X0} (hx : some none = some x) : lkA none (X0.val X0.zero) true = .tup [X0.val (x.getD X0.zero), .d (.bool x.isSome)] := Df (h := X0.val) rfl hx
theorem X0.lkN {x : Option X0} (hx : some none = some x) : lkA none (X0.val X0.zero) false = X0.val (x.getD X0.zero) := Ef (h := X0.val) rfl hx
theorem X0.mput (k : Str) (x : X0) (m : List (Str × X0)) : mput k (X0.row x) (X0.ents m) = X0.ents (mpt k x m) := (P5 X0.row k x m).symm
structure F0 where
  p : K0
  atV : Int
  localV : Bool
  names : List (Str × Bool)
def F0.zero : F0 := ⟨⟨[], []⟩, 0, false, []⟩
instance : Inhabited F0 := ⟨F0.zero⟩
def F0.row (x : F0) : Row := [.sl (B0.rows x.p.Decls), .sl (D0.rows x.p.Body), .int .i64 x.atV, .bool x.localV, .mp (ebool.ents x.names)]
def F0.rows (l : List F0) : List Row := l.map F0.row
theorem F0.rows_map (l : List F0) : F0.rows l = l.map F0.row := rfl
def F0.cells (x : F0) : List A := [.d (.sl (B0.rows x.p.Decls)), .d (.sl (D0.rows x.p.Body)), .d (.int .i64 x.atV), .d (.bool x.localV), .d (.mp (ebool.ents x.names))]
theorem F0.idx {l : List F0} {n : Int} {x : F0} (h : idx l n = some x) : (F0.rows l)[n.toNat]? = some (F0.row x) := Z5 F0.rows_map h
theorem F0.app (l m : List F0) : F0.rows (l ++ m) = F0.rows l ++ F0.rows m := A6 F0.rows_map l m
theorem F0.len (l : List F0) : (F0.rows l).length = l.length := O5 F0.rows_map l
theorem F0.lenA (l : List F0) : A.d (.int .i64 ((F0.rows l).length : Nat)) = A.d (.int .i64 (l.length : Nat)) := V4 F0.rows_map l
theorem F0.sz (l : List F0) : ∀ r ∈ F0.rows l, r.length = 5 := W7 F0.rows_map (fun _ => rfl) l
theorem F0.part {l x : List F0} {a b : Int} (h : slc l a b = some x) : a = (a.toNat : Int) ∧ b = (b.toNat : Int) ∧ a.toNat ≤ b.toNat ∧ b.toNat ≤ (F0.rows l).length ∧ F0.rows x = ((F0.rows l).take b.toNat).drop a.toNat := W4 F0.rows_map h
def F0.ents (m : List (Str × F0)) : List (Str × Row) := B6 F0.row m
def F0.val (x : F0) : A := .agg (F0.cells x)
theorem F0.lkT {k : Str} {m : List (Str × F0)} {x : Option F0} (hx : some (mgt k m) = some x) : lkA (O3 k (F0.ents m)) (F0.val F0.zero) true = .tup [F0.val (x.getD F0.zero), .d (.bool x.isSome)] := Sk (h := F0.val) (fun _ => rfl) rfl hx
theorem F0.lk {k : Str} {m : List (Str × F0)} {x : Option F0} (hx : some (mgt k m) = some x) : lkA (O3 k (F0.ents m)) (F0.val F0.zero) false = F0.val (x.getD F0.zero) := Tk (h := F0.val) (fun _ => rfl) rfl hx
theorem F0.lkNT {x : Option F0} (hx : some none = some x) : lkA none (F0.val F0.zero) true = .tup [F0.val (x.getD F0.zero), .d (.bool x.isSome)] := Df (h := F0.val) rfl hx
theorem F0.lkN {x : Option F0} (hx : some none = some x) : lkA none (F0.val F0.zero) false = F0.val (x.getD F0.zero) := Ef (h := F0.val) rfl hx
theorem F0.mput (k : Str) (x : F0) (m : List (Str × F0)) : mput k (F0.row x) (F0.ents m) = F0.ents (mpt k x m) := (P5 F0.row k x m).symm
structure L0 where
  typ : A0
  fixed : Bool
def L0.zero : L0 := ⟨⟨0, 0, 0, 0, [], [], []⟩, false⟩
instance : Inhabited L0 := ⟨L0.zero⟩
def L0.row (x : L0) : Row := [.int .i64 x.typ.Kind, .int .i64 x.typ.Low, .int .i64 x.typ.High, .int .i64 x.typ.Size, .str x.typ.Name, .sl (estr.rows x.typ.Names), .sl (A0.rows x.typ.Of), .bool x.fixed]
def L0.rows (l : List L0) : List Row := l.map L0.row
theorem L0.rows_map (l : List L0) : L0.rows l = l.map L0.row := rfl
def L0.cells (x : L0) : List A := [.d (.int .i64 x.typ.Kind), .d (.int .i64 x.typ.Low), .d (.int .i64 x.typ.High), .d (.int .i64 x.typ.Size), .d (.str x.typ.Name), .d (.sl (estr.rows x.typ.Names)), .d (.sl (A0.rows x.typ.Of)), .d (.bool x.fixed)]
theorem L0.idx {l : List L0} {n : Int} {x : L0} (h : idx l n = some x) : (L0.rows l)[n.toNat]? = some (L0.row x) := Z5 L0.rows_map h
theorem L0.app (l m : List L0) : L0.rows (l ++ m) = L0.rows l ++ L0.rows m := A6 L0.rows_map l m
theorem L0.len (l : List L0) : (L0.rows l).length = l.length := O5 L0.rows_map l
theorem L0.lenA (l : List L0) : A.d (.int .i64 ((L0.rows l).length : Nat)) = A.d (.int .i64 (l.length : Nat)) := V4 L0.rows_map l
theorem L0.sz (l : List L0) : ∀ r ∈ L0.rows l, r.length = 8 := W7 L0.rows_map (fun _ => rfl) l
theorem L0.part {l x : List L0} {a b : Int} (h : slc l a b = some x) : a = (a.toNat : Int) ∧ b = (b.toNat : Int) ∧ a.toNat ≤ b.toNat ∧ b.toNat ≤ (L0.rows l).length ∧ L0.rows x = ((L0.rows l).take b.toNat).drop a.toNat := W4 L0.rows_map h
def L0.ents (m : List (Str × L0)) : List (Str × Row) := B6 L0.row m
def L0.val (x : L0) : A := .agg (L0.cells x)
theorem L0.lkT {k : Str} {m : List (Str × L0)} {x : Option L0} (hx : some (mgt k m) = some x) : lkA (O3 k (L0.ents m)) (L0.val L0.zero) true = .tup [L0.val (x.getD L0.zero), .d (.bool x.isSome)] := Sk (h := L0.val) (fun _ => rfl) rfl hx
theorem L0.lk {k : Str} {m : List (Str × L0)} {x : Option L0} (hx : some (mgt k m) = some x) : lkA (O3 k (L0.ents m)) (L0.val L0.zero) false = L0.val (x.getD L0.zero) := Tk (h := L0.val) (fun _ => rfl) rfl hx
theorem L0.lkNT {x : Option L0} (hx : some none = some x) : lkA none (L0.val L0.zero) true = .tup [L0.val (x.getD L0.zero), .d (.bool x.isSome)] := Df (h := L0.val) rfl hx
theorem L0.lkN {x : Option L0} (hx : some none = some x) : lkA none (L0.val L0.zero) false = L0.val (x.getD L0.zero) := Ef (h := L0.val) rfl hx
theorem L0.mput (k : Str) (x : L0) (m : List (Str × L0)) : mput k (L0.row x) (L0.ents m) = L0.ents (mpt k x m) := (P5 L0.row k x m).symm
structure J0 where
  around : Option J0
  vars : List (Str × L0)
def J0.zero : J0 := ⟨none, []⟩
instance : Inhabited J0 := ⟨J0.zero⟩
mutual
def J0.rowX : J0 → Row
  | .mk y0 y1 => [.bxo (J0.optX y0), .mp (L0.ents y1)]
def J0.optX : Option J0 → Option Row
  | none => none
  | some x => some (J0.rowX x)
end
def J0.opt (x : Option J0) : Option Row := J0.optX x
def J0.row (x : J0) : Row := [.bxo (J0.opt x.around), .mp (L0.ents x.vars)]
def J0.rows (l : List J0) : List Row := l.map J0.row
theorem J0.rows_map (l : List J0) : J0.rows l = l.map J0.row := rfl
theorem J0.opt_some {x : Option J0} {y : J0} (h : x = some y) : D.bxo (J0.opt x) = .bxo (some (J0.row y)) := by subst h; cases y; rfl
theorem J0.opt_nilB (x : Option J0) : X1j (.bxo (J0.opt x)) = some x.isNone := by cases x <;> rfl
def J0.cells (x : J0) : List A := [.d (.bxo (J0.opt x.around)), .d (.mp (L0.ents x.vars))]
theorem J0.idx {l : List J0} {n : Int} {x : J0} (h : idx l n = some x) : (J0.rows l)[n.toNat]? = some (J0.row x) := Z5 J0.rows_map h
theorem J0.app (l m : List J0) : J0.rows (l ++ m) = J0.rows l ++ J0.rows m := A6 J0.rows_map l m
theorem J0.len (l : List J0) : (J0.rows l).length = l.length := O5 J0.rows_map l
theorem J0.lenA (l : List J0) : A.d (.int .i64 ((J0.rows l).length : Nat)) = A.d (.int .i64 (l.length : Nat)) := V4 J0.rows_map l
theorem J0.sz (l : List J0) : ∀ r ∈ J0.rows l, r.length = 2 := W7 J0.rows_map (fun _ => rfl) l
theorem J0.part {l x : List J0} {a b : Int} (h : slc l a b = some x) : a = (a.toNat : Int) ∧ b = (b.toNat : Int) ∧ a.toNat ≤ b.toNat ∧ b.toNat ≤ (J0.rows l).length ∧ J0.rows x = ((J0.rows l).take b.toNat).drop a.toNat := W4 J0.rows_map h
def J0.ents (m : List (Str × J0)) : List (Str × Row) := B6 J0.row m
def J0.val (x : J0) : A := .agg (J0.cells x)
theorem J0.lkT {k : Str} {m : List (Str × J0)} {x : Option J0} (hx : some (mgt k m) = some x) : lkA (O3 k (J0.ents m)) (J0.val J0.zero) true = .tup [J0.val (x.getD J0.zero), .d (.bool x.isSome)] := Sk (h := J0.val) (fun _ => rfl) rfl hx
theorem J0.lk {k : Str} {m : List (Str × J0)} {x : Option J0} (hx : some (mgt k m) = some x) : lkA (O3 k (J0.ents m)) (J0.val J0.zero) false = J0.val (x.getD J0.zero) := Tk (h := J0.val) (fun _ => rfl) rfl hx
theorem J0.lkNT {x : Option J0} (hx : some none = some x) : lkA none (J0.val J0.zero) true = .tup [J0.val (x.getD J0.zero), .d (.bool x.isSome)] := Df (h := J0.val) rfl hx
theorem J0.lkN {x : Option J0} (hx : some none = some x) : lkA none (J0.val J0.zero) false = J0.val (x.getD J0.zero) := Ef (h := J0.val) rfl hx
theorem J0.mput (k : Str) (x : J0) (m : List (Str × J0)) : mput k (J0.row x) (J0.ents m) = J0.ents (mpt k x m) := (P5 J0.row k x m).symm
structure R0 where
  Path : Str
  Bool : Bool
  Low : Int
  High : Int
def R0.zero : R0 := ⟨[], false, 0, 0⟩
instance : Inhabited R0 := ⟨R0.zero⟩
def R0.row (x : R0) : Row := [.str x.Path, .bool x.Bool, .int .i64 x.Low, .int .i64 x.High]
def R0.rows (l : List R0) : List Row := l.map R0.row
theorem R0.rows_map (l : List R0) : R0.rows l = l.map R0.row := rfl
def R0.cells (x : R0) : List A := [.d (.str x.Path), .d (.bool x.Bool), .d (.int .i64 x.Low), .d (.int .i64 x.High)]
theorem R0.idx {l : List R0} {n : Int} {x : R0} (h : idx l n = some x) : (R0.rows l)[n.toNat]? = some (R0.row x) := Z5 R0.rows_map h
theorem R0.app (l m : List R0) : R0.rows (l ++ m) = R0.rows l ++ R0.rows m := A6 R0.rows_map l m
theorem R0.len (l : List R0) : (R0.rows l).length = l.length := O5 R0.rows_map l
theorem R0.lenA (l : List R0) : A.d (.int .i64 ((R0.rows l).length : Nat)) = A.d (.int .i64 (l.length : Nat)) := V4 R0.rows_map l
theorem R0.sz (l : List R0) : ∀ r ∈ R0.rows l, r.length = 4 := W7 R0.rows_map (fun _ => rfl) l
theorem R0.part {l x : List R0} {a b : Int} (h : slc l a b = some x) : a = (a.toNat : Int) ∧ b = (b.toNat : Int) ∧ a.toNat ≤ b.toNat ∧ b.toNat ≤ (R0.rows l).length ∧ R0.rows x = ((R0.rows l).take b.toNat).drop a.toNat := W4 R0.rows_map h
def R0.ents (m : List (Str × R0)) : List (Str × Row) := B6 R0.row m
def R0.val (x : R0) : A := .agg (R0.cells x)
theorem R0.lkT {k : Str} {m : List (Str × R0)} {x : Option R0} (hx : some (mgt k m) = some x) : lkA (O3 k (R0.ents m)) (R0.val R0.zero) true = .tup [R0.val (x.getD R0.zero), .d (.bool x.isSome)] := Sk (h := R0.val) (fun _ => rfl) rfl hx
theorem R0.lk {k : Str} {m : List (Str × R0)} {x : Option R0} (hx : some (mgt k m) = some x) : lkA (O3 k (R0.ents m)) (R0.val R0.zero) false = R0.val (x.getD R0.zero) := Tk (h := R0.val) (fun _ => rfl) rfl hx
theorem R0.lkNT {x : Option R0} (hx : some none = some x) : lkA none (R0.val R0.zero) true = .tup [R0.val (x.getD R0.zero), .d (.bool x.isSome)] := Df (h := R0.val) rfl hx
theorem R0.lkN {x : Option R0} (hx : some none = some x) : lkA none (R0.val R0.zero) false = R0.val (x.getD R0.zero) := Ef (h := R0.val) rfl hx
theorem R0.mput (k : Str) (x : R0) (m : List (Str × R0)) : mput k (R0.row x) (R0.ents m) = R0.ents (mpt k x m) := (P5 R0.row k x m).symm
structure N0 where
  steps : Int
  outputs : Int
def N0.zero : N0 := ⟨0, 0⟩
instance : Inhabited N0 := ⟨N0.zero⟩
def N0.row (x : N0) : Row := [.int .i64 x.steps, .int .i64 x.outputs]
def N0.rows (l : List N0) : List Row := l.map N0.row
theorem N0.rows_map (l : List N0) : N0.rows l = l.map N0.row := rfl
def N0.cells (x : N0) : List A := [.d (.int .i64 x.steps), .d (.int .i64 x.outputs)]
theorem N0.idx {l : List N0} {n : Int} {x : N0} (h : idx l n = some x) : (N0.rows l)[n.toNat]? = some (N0.row x) := Z5 N0.rows_map h
theorem N0.app (l m : List N0) : N0.rows (l ++ m) = N0.rows l ++ N0.rows m := A6 N0.rows_map l m
theorem N0.len (l : List N0) : (N0.rows l).length = l.length := O5 N0.rows_map l
theorem N0.lenA (l : List N0) : A.d (.int .i64 ((N0.rows l).length : Nat)) = A.d (.int .i64 (l.length : Nat)) := V4 N0.rows_map l
theorem N0.sz (l : List N0) : ∀ r ∈ N0.rows l, r.length = 2 := W7 N0.rows_map (fun _ => rfl) l
theorem N0.part {l x : List N0} {a b : Int} (h : slc l a b = some x) : a = (a.toNat : Int) ∧ b = (b.toNat : Int) ∧ a.toNat ≤ b.toNat ∧ b.toNat ≤ (N0.rows l).length ∧ N0.rows x = ((N0.rows l).take b.toNat).drop a.toNat := W4 N0.rows_map h
def N0.ents (m : List (Str × N0)) : List (Str × Row) := B6 N0.row m
def N0.val (x : N0) : A := .agg (N0.cells x)
theorem N0.lkT {k : Str} {m : List (Str × N0)} {x : Option N0} (hx : some (mgt k m) = some x) : lkA (O3 k (N0.ents m)) (N0.val N0.zero) true = .tup [N0.val (x.getD N0.zero), .d (.bool x.isSome)] := Sk (h := N0.val) (fun _ => rfl) rfl hx
theorem N0.lk {k : Str} {m : List (Str × N0)} {x : Option N0} (hx : some (mgt k m) = some x) : lkA (O3 k (N0.ents m)) (N0.val N0.zero) false = N0.val (x.getD N0.zero) := Tk (h := N0.val) (fun _ => rfl) rfl hx
theorem N0.lkNT {x : Option N0} (hx : some none = some x) : lkA none (N0.val N0.zero) true = .tup [N0.val (x.getD N0.zero), .d (.bool x.isSome)] := Df (h := N0.val) rfl hx
theorem N0.lkN {x : Option N0} (hx : some none = some x) : lkA none (N0.val N0.zero) false = N0.val (x.getD N0.zero) := Ef (h := N0.val) rfl hx
theorem N0.mput (k : Str) (x : N0) (m : List (Str × N0)) : mput k (N0.row x) (N0.ents m) = N0.ents (mpt k x m) := (P5 N0.row k x m).symm
structure Q0 where
  nodes : Int
  depth : Int
def Q0.zero : Q0 := ⟨0, 0⟩
instance : Inhabited Q0 := ⟨Q0.zero⟩
def Q0.row (x : Q0) : Row := [.int .i64 x.nodes, .int .i64 x.depth]
def Q0.rows (l : List Q0) : List Row := l.map Q0.row
theorem Q0.rows_map (l : List Q0) : Q0.rows l = l.map Q0.row := rfl
def Q0.cells (x : Q0) : List A := [.d (.int .i64 x.nodes), .d (.int .i64 x.depth)]
theorem Q0.idx {l : List Q0} {n : Int} {x : Q0} (h : idx l n = some x) : (Q0.rows l)[n.toNat]? = some (Q0.row x) := Z5 Q0.rows_map h
theorem Q0.app (l m : List Q0) : Q0.rows (l ++ m) = Q0.rows l ++ Q0.rows m := A6 Q0.rows_map l m
theorem Q0.len (l : List Q0) : (Q0.rows l).length = l.length := O5 Q0.rows_map l
theorem Q0.lenA (l : List Q0) : A.d (.int .i64 ((Q0.rows l).length : Nat)) = A.d (.int .i64 (l.length : Nat)) := V4 Q0.rows_map l
theorem Q0.sz (l : List Q0) : ∀ r ∈ Q0.rows l, r.length = 2 := W7 Q0.rows_map (fun _ => rfl) l
theorem Q0.part {l x : List Q0} {a b : Int} (h : slc l a b = some x) : a = (a.toNat : Int) ∧ b = (b.toNat : Int) ∧ a.toNat ≤ b.toNat ∧ b.toNat ≤ (Q0.rows l).length ∧ Q0.rows x = ((Q0.rows l).take b.toNat).drop a.toNat := W4 Q0.rows_map h
def Q0.ents (m : List (Str × Q0)) : List (Str × Row) := B6 Q0.row m
def Q0.val (x : Q0) : A := .agg (Q0.cells x)
theorem Q0.lkT {k : Str} {m : List (Str × Q0)} {x : Option Q0} (hx : some (mgt k m) = some x) : lkA (O3 k (Q0.ents m)) (Q0.val Q0.zero) true = .tup [Q0.val (x.getD Q0.zero), .d (.bool x.isSome)] := Sk (h := Q0.val) (fun _ => rfl) rfl hx
theorem Q0.lk {k : Str} {m : List (Str × Q0)} {x : Option Q0} (hx : some (mgt k m) = some x) : lkA (O3 k (Q0.ents m)) (Q0.val Q0.zero) false = Q0.val (x.getD Q0.zero) := Tk (h := Q0.val) (fun _ => rfl) rfl hx
theorem Q0.lkNT {x : Option Q0} (hx : some none = some x) : lkA none (Q0.val Q0.zero) true = .tup [Q0.val (x.getD Q0.zero), .d (.bool x.isSome)] := Df (h := Q0.val) rfl hx
theorem Q0.lkN {x : Option Q0} (hx : some none = some x) : lkA none (Q0.val Q0.zero) false = Q0.val (x.getD Q0.zero) := Ef (h := Q0.val) rfl hx
theorem Q0.mput (k : Str) (x : Q0) (m : List (Str × Q0)) : mput k (Q0.row x) (Q0.ents m) = Q0.ents (mpt k x m) := (P5 Q0.row k x m).symm
structure O0 where
  Name : Str
  TypeV : A0
  Fixed : Bool
def O0.zero : O0 := ⟨[], ⟨0, 0, 0, 0, [], [], []⟩, false⟩
instance : Inhabited O0 := ⟨O0.zero⟩
def O0.row (x : O0) : Row := [.str x.Name, .int .i64 x.TypeV.Kind, .int .i64 x.TypeV.Low, .int .i64 x.TypeV.High, .int .i64 x.TypeV.Size, .str x.TypeV.Name, .sl (estr.rows x.TypeV.Names), .sl (A0.rows x.TypeV.Of), .bool x.Fixed]
def O0.rows (l : List O0) : List Row := l.map O0.row
theorem O0.rows_map (l : List O0) : O0.rows l = l.map O0.row := rfl
def O0.cells (x : O0) : List A := [.d (.str x.Name), .d (.int .i64 x.TypeV.Kind), .d (.int .i64 x.TypeV.Low), .d (.int .i64 x.TypeV.High), .d (.int .i64 x.TypeV.Size), .d (.str x.TypeV.Name), .d (.sl (estr.rows x.TypeV.Names)), .d (.sl (A0.rows x.TypeV.Of)), .d (.bool x.Fixed)]
theorem O0.idx {l : List O0} {n : Int} {x : O0} (h : idx l n = some x) : (O0.rows l)[n.toNat]? = some (O0.row x) := Z5 O0.rows_map h
theorem O0.app (l m : List O0) : O0.rows (l ++ m) = O0.rows l ++ O0.rows m := A6 O0.rows_map l m
theorem O0.len (l : List O0) : (O0.rows l).length = l.length := O5 O0.rows_map l
theorem O0.lenA (l : List O0) : A.d (.int .i64 ((O0.rows l).length : Nat)) = A.d (.int .i64 (l.length : Nat)) := V4 O0.rows_map l
theorem O0.sz (l : List O0) : ∀ r ∈ O0.rows l, r.length = 9 := W7 O0.rows_map (fun _ => rfl) l
theorem O0.part {l x : List O0} {a b : Int} (h : slc l a b = some x) : a = (a.toNat : Int) ∧ b = (b.toNat : Int) ∧ a.toNat ≤ b.toNat ∧ b.toNat ≤ (O0.rows l).length ∧ O0.rows x = ((O0.rows l).take b.toNat).drop a.toNat := W4 O0.rows_map h
def O0.ents (m : List (Str × O0)) : List (Str × Row) := B6 O0.row m
def O0.val (x : O0) : A := .agg (O0.cells x)
theorem O0.lkT {k : Str} {m : List (Str × O0)} {x : Option O0} (hx : some (mgt k m) = some x) : lkA (O3 k (O0.ents m)) (O0.val O0.zero) true = .tup [O0.val (x.getD O0.zero), .d (.bool x.isSome)] := Sk (h := O0.val) (fun _ => rfl) rfl hx
theorem O0.lk {k : Str} {m : List (Str × O0)} {x : Option O0} (hx : some (mgt k m) = some x) : lkA (O3 k (O0.ents m)) (O0.val O0.zero) false = O0.val (x.getD O0.zero) := Tk (h := O0.val) (fun _ => rfl) rfl hx
theorem O0.lkNT {x : Option O0} (hx : some none = some x) : lkA none (O0.val O0.zero) true = .tup [O0.val (x.getD O0.zero), .d (.bool x.isSome)] := Df (h := O0.val) rfl hx
theorem O0.lkN {x : Option O0} (hx : some none = some x) : lkA none (O0.val O0.zero) false = O0.val (x.getD O0.zero) := Ef (h := O0.val) rfl hx
theorem O0.mput (k : Str) (x : O0) (m : List (Str × O0)) : mput k (O0.row x) (O0.ents m) = O0.ents (mpt k x m) := (P5 O0.row k x m).symm
structure P0 where
  Program : K0
  Function : Int
  Vars : List O0
  Taken : List Str
def P0.zero : P0 := ⟨⟨[], []⟩, 0, [], []⟩
instance : Inhabited P0 := ⟨P0.zero⟩
def P0.row (x : P0) : Row := [.sl (B0.rows x.Program.Decls), .sl (D0.rows x.Program.Body), .int .i64 x.Function, .sl (O0.rows x.Vars), .sl (estr.rows x.Taken)]
def P0.rows (l : List P0) : List Row := l.map P0.row
theorem P0.rows_map (l : List P0) : P0.rows l = l.map P0.row := rfl
def P0.cells (x : P0) : List A := [.d (.sl (B0.rows x.Program.Decls)), .d (.sl (D0.rows x.Program.Body)), .d (.int .i64 x.Function), .d (.sl (O0.rows x.Vars)), .d (.sl (estr.rows x.Taken))]
theorem P0.idx {l : List P0} {n : Int} {x : P0} (h : idx l n = some x) : (P0.rows l)[n.toNat]? = some (P0.row x) := Z5 P0.rows_map h
theorem P0.app (l m : List P0) : P0.rows (l ++ m) = P0.rows l ++ P0.rows m := A6 P0.rows_map l m
theorem P0.len (l : List P0) : (P0.rows l).length = l.length := O5 P0.rows_map l
theorem P0.lenA (l : List P0) : A.d (.int .i64 ((P0.rows l).length : Nat)) = A.d (.int .i64 (l.length : Nat)) := V4 P0.rows_map l
theorem P0.sz (l : List P0) : ∀ r ∈ P0.rows l, r.length = 5 := W7 P0.rows_map (fun _ => rfl) l
theorem P0.part {l x : List P0} {a b : Int} (h : slc l a b = some x) : a = (a.toNat : Int) ∧ b = (b.toNat : Int) ∧ a.toNat ≤ b.toNat ∧ b.toNat ≤ (P0.rows l).length ∧ P0.rows x = ((P0.rows l).take b.toNat).drop a.toNat := W4 P0.rows_map h
def P0.ents (m : List (Str × P0)) : List (Str × Row) := B6 P0.row m
def P0.val (x : P0) : A := .agg (P0.cells x)
theorem P0.lkT {k : Str} {m : List (Str × P0)} {x : Option P0} (hx : some (mgt k m) = some x) : lkA (O3 k (P0.ents m)) (P0.val P0.zero) true = .tup [P0.val (x.getD P0.zero), .d (.bool x.isSome)] := Sk (h := P0.val) (fun _ => rfl) rfl hx
theorem P0.lk {k : Str} {m : List (Str × P0)} {x : Option P0} (hx : some (mgt k m) = some x) : lkA (O3 k (P0.ents m)) (P0.val P0.zero) false = P0.val (x.getD P0.zero) := Tk (h := P0.val) (fun _ => rfl) rfl hx
theorem P0.lkNT {x : Option P0} (hx : some none = some x) : lkA none (P0.val P0.zero) true = .tup [P0.val (x.getD P0.zero), .d (.bool x.isSome)] := Df (h := P0.val) rfl hx
theorem P0.lkN {x : Option P0} (hx : some none = some x) : lkA none (P0.val P0.zero) false = P0.val (x.getD P0.zero) := Ef (h := P0.val) rfl hx
theorem P0.mput (k : Str) (x : P0) (m : List (Str × P0)) : mput k (P0.row x) (P0.ents m) = P0.ents (mpt k x m) := (P5 P0.row k x m).symm
def esl_ApiDecl.row (x : List B0) : Row := [.sl (B0.rows x)]
def esl_ApiDecl.rows (l : List (List B0)) : List Row := l.map esl_ApiDecl.row
theorem esl_ApiDecl.rows_map (l : List (List B0)) : esl_ApiDecl.rows l = l.map esl_ApiDecl.row := rfl
def esl_ApiDecl.zero : List B0 := []
theorem esl_ApiDecl.idx {l : List (List B0)} {n : Int} {x : (List B0)} (h : idx l n = some x) : (esl_ApiDecl.rows l)[n.toNat]? = some (esl_ApiDecl.row x) := Z5 esl_ApiDecl.rows_map h
theorem esl_ApiDecl.app (l m : List (List B0)) : esl_ApiDecl.rows (l ++ m) = esl_ApiDecl.rows l ++ esl_ApiDecl.rows m := A6 esl_ApiDecl.rows_map l m
theorem esl_ApiDecl.len (l : List (List B0)) : (esl_ApiDecl.rows l).length = l.length := O5 esl_ApiDecl.rows_map l
theorem esl_ApiDecl.lenA (l : List (List B0)) : A.d (.int .i64 ((esl_ApiDecl.rows l).length : Nat)) = A.d (.int .i64 (l.length : Nat)) := V4 esl_ApiDecl.rows_map l
theorem esl_ApiDecl.sz (l : List (List B0)) : ∀ r ∈ esl_ApiDecl.rows l, r.length = 1 := W7 esl_ApiDecl.rows_map (fun _ => rfl) l
theorem esl_ApiDecl.part {l x : List (List B0)} {a b : Int} (h : slc l a b = some x) : a = (a.toNat : Int) ∧ b = (b.toNat : Int) ∧ a.toNat ≤ b.toNat ∧ b.toNat ≤ (esl_ApiDecl.rows l).length ∧ esl_ApiDecl.rows x = ((esl_ApiDecl.rows l).take b.toNat).drop a.toNat := W4 esl_ApiDecl.rows_map h
def esl_ApiDecl.ents (m : List (Str × (List B0))) : List (Str × Row) := B6 esl_ApiDecl.row m
def esl_ApiDecl.val (x : (List B0)) : A := .d (.sl (B0.rows x))
theorem esl_ApiDecl.lkT {k : Str} {m : List (Str × (List B0))} {x : Option (List B0)} (hx : some (mgt k m) = some x) : lkA (O3 k (esl_ApiDecl.ents m)) (esl_ApiDecl.val esl_ApiDecl.zero) true = .tup [esl_ApiDecl.val (x.getD esl_ApiDecl.zero), .d (.bool x.isSome)] := Sk (h := esl_ApiDecl.val) (fun _ => rfl) rfl hx
theorem esl_ApiDecl.lk {k : Str} {m : List (Str × (List B0))} {x : Option (List B0)} (hx : some (mgt k m) = some x) : lkA (O3 k (esl_ApiDecl.ents m)) (esl_ApiDecl.val esl_ApiDecl.zero) false = esl_ApiDecl.val (x.getD esl_ApiDecl.zero) := Tk (h := esl_ApiDecl.val) (fun _ => rfl) rfl hx
theorem esl_ApiDecl.lkNT {x : Option (List B0)} (hx : some none = some x) : lkA none (esl_ApiDecl.val esl_ApiDecl.zero) true = .tup [esl_ApiDecl.val (x.getD esl_ApiDecl.zero), .d (.bool x.isSome)] := Df (h := esl_ApiDecl.val) rfl hx
theorem esl_ApiDecl.lkN {x : Option (List B0)} (hx : some none = some x) : lkA none (esl_ApiDecl.val esl_ApiDecl.zero) false = esl_ApiDecl.val (x.getD esl_ApiDecl.zero) := Ef (h := esl_ApiDecl.val) rfl hx
theorem esl_ApiDecl.mput (k : Str) (x : (List B0)) (m : List (Str × (List B0))) : mput k (esl_ApiDecl.row x) (esl_ApiDecl.ents m) = esl_ApiDecl.ents (mpt k x m) := (P5 esl_ApiDecl.row k x m).symm
end Go.Proofs.YtdkabnfphmmmnaaGreatDoor

set_option maxRecDepth 100000
set_option maxHeartbeats 4000000
set_option synthInstance.maxSize 2000
set_option linter.unusedVariables false
namespace Go.Proofs.YtdkabnfphmmmnaaGreatDoor
open Go.Am
def Gb (l : List Str) : Option (List Str) := if decide ((0 + l.length) * 17 ≤ 140737488355328) = true then some l else none
theorem M14 {l res : List Str} (hh : Gb l = some res) : S0 C 225 [.d (.sl (estr.rows l))] [] (fun x H' => H' = [] ∧ x = .d (.sl (estr.rows res))) := by
  obtain ⟨hroom, hh⟩ := U1 hh
  cases hh
  refine S0.intro hC Tryz.func225 rfl rfl rfl ?_
  refine AEx.seq ?_
  refine AEx.regionN rfl rfl ?_
  refine I0.q hC rfl trivial ?_
  refine I0.nil ?_
  refine AEx.seq ?_
  refine AEx.seq ?_
  refine AEx.regionN rfl rfl ?_
  refine I0.q hC rfl trivial ?_
  refine I0.z hC rfl fun b hnil => ?_
  refine I0.nil ?_
  refine AEx.cond rfl (fun hb => ?_) (fun hb => ?_)
  · obtain rfl : l = [] := List.eq_nil_of_length_eq_zero (by have := estr.len l; rw [hnil hb] at this; exact this.symm)
    refine AEx.seq ?_
    refine AEx.regionN rfl rfl ?_
    refine I0.q hC rfl trivial ?_
    skip
    refine I0.nil ?_
    refine AEx.ret ?_
    exact ⟨_, .d (.sl (estr.rows [])), [], rfl, .full, trivial, rfl, rfl, rfl, rfl⟩
  · refine AEx.skip ?_
    refine AEx.seq ?_
    refine AEx.regionN rfl rfl ?_
    refine I0.b hC rfl ?_
    refine I0.q hC rfl trivial ?_
    refine I0.ap hC rfl (rs := estr.rows l) rfl (fun r hr => absurd hr (List.not_mem_nil)) (estr.sz l) (V6 rfl (estr.len l) hroom) ?_
    refine I0.q hC rfl trivial ?_
    refine I0.nil ?_
    refine AEx.ret ?_
    exact ⟨_, .d (.sl (estr.rows l)), [], rfl, .osl, trivial, rfl, rfl, rfl, rfl⟩
def Sp (s : Str) : Option C0 :=
  some (C0.mk 3 0 s [])
theorem B10 {s res} (hh : Sp s = some res) : S0 C 25 [.d (.str s)] [] (Ret [] (.agg (C0.cells res))) := by
  unfold Sp at hh
  cases hh
  exact S0.intro hC Tryz.func25 rfl rfl rfl (s' rfl rfl (I0.nf hC rfl (n' (p' 2 rfl (I0.s hC rfl (n' (re' (rt' rfl rfl rfl))))))))
def Ts (n : Int) : Option C0 :=
  some (C0.mk 0 n [] [])
theorem W11 {n res} (hh : Ts n = some res) : S0 C 26 [.d (.int .i64 n)] [] (Ret [] (.agg (C0.cells res))) := by
  unfold Ts at hh
  cases hh
  exact S0.intro hC Tryz.func26 rfl rfl rfl (s' rfl rfl (I0.nf hC rfl (n' (p' 2 rfl (I0.s hC rfl (n' (re' (rt' rfl rfl rfl))))))))
def Ft (o : Int) (kids : List C0) : Option C0 :=
  some (C0.mk o 0 [] kids)
theorem Y19 {o kids res} (hh : Ft o kids = some res) : S0 C 24 [.d (.int .i64 o), .d (.sl (C0.rows kids))] [] (Ret [] (.agg (C0.cells res))) := by
  unfold Ft at hh
  cases hh
  exact S0.intro hC Tryz.func24 rfl rfl rfl (s' rfl rfl (I0.nf hC rfl (n' (p' 3 rfl (I0.s hC rfl (n' (re' (rt' rfl rfl rfl))))))))
def Pl (k : Int) : Option (Bool × Bool) :=
  some ((bif (decide (k ≥ 0)) then (decide (k ≤ 6)) else false), (bif (k == 5) then true else (k == 6)))
theorem I1n {k res} (hh : Pl k = some res) : S0 C 173 [.d (.int .i64 k)] [] (Ret [] (.tup [.d (.bool res.1), .d (.bool res.2)])) := by
  unfold Pl at hh
  cases hh
  exact S0.intro hC Tryz.func173 rfl rfl rfl (t' rfl (sg' 14 rfl (G' 4 rfl (a1' rfl (pa' rfl (G' 4 rfl (a1' rfl (po' rfl (G' 2 rfl (an' (n' (re' (rt' rfl rfl rfl)))))))))))))
def Y0 (ok : Bool) (syntaxReport : E0) : Option E0 :=
  some (E0.mk syntaxReport.nodes syntaxReport.depth (bif syntaxReport.badForm then true else (!ok)) syntaxReport.badName syntaxReport.badNumber)
theorem G1 {ok syntaxReport res} (hh : Y0 ok syntaxReport = some res) : S0 C 149 [.ref 0 0, .d (.bool ok)] [.row (E0.cells syntaxReport) 135] (Ret [.row (E0.cells res) 135] (.tup [])) := by
  unfold Y0 at hh
  cases hh
  exact S0.intro hC Tryz.func149 rfl rfl rfl (AEx.regionG 11 rfl (G' 7 rfl (a1' rfl (po' rfl (G' 2 rfl (an' (I0.s hC rfl (n' (rn' rfl rfl rfl)))))))))
def Y1 (s1 : List Str) (s2 : List Str) (v13 : Int) : Option Bool :=
  if (decide (v13 < ((s1).length : Int))) = true then
    idx s1 v13 >>= fun x1 =>
    idx s2 v13 >>= fun x2 =>
    if (!(x1 == x2)) = true then
      some false
    else
      Y1 s1 s2 (IntKind.i64.wrap (v13 + 1))
  else
    some true
  partial_fixpoint
abbrev Vo (s1 : List Str) (s2 : List Str) (v13 : Int) (res : Bool) : Prop := LM C 26 0 Tryz.f207 [1, 1, 0, 1, 4] [(0, .d (.sl (estr.rows s1))), (1, .d (.sl (estr.rows s2))), (12, .d (.int .i64 ((s1).length : Int))), (13, .d (.int .i64 v13))] [] (Ret [] (.d (.bool res)))
theorem Az (s1 : List Str) (s2 : List Str) : (∀ v13 res, Y1 s1 s2 v13 = some res → Vo s1 s2 v13 res) := by
  refine Y1.partial_correctness s1 s2 _ ?_
  · intro g0 ih0 v13 res hh
    refine Z0.unroll (t' rfl (S' (ci' rfl hh (fun hh => ?_) (fun hh => ?_))))
    · obtain ⟨x1, hx1, hh⟩ := bs' hh
      obtain ⟨x2, hx2, hh⟩ := bs' hh
      refine sk' (S' (bk' (t' rfl (S' (AEx.draw hC 9 rfl rfl rfl (O' 2 rfl (AQ.i hC rfl (W0 hx1) (estr.idx hx1) rfl (O' 3 rfl (AQ.i hC rfl (W0 hx2) (estr.idx hx2) rfl (E' rfl (n' (ci' rfl hh (fun hh => ?_) (fun hh => ?_)))))))))))))
      · cases hh
        exact t' rfl (re' (rt' rfl rfl rfl))
      exact sk' (T' rfl (lw' (ih0 _ _ hh) rfl rfl rfl))
    cases hh
    exact ex' (t' rfl (re' (rt' rfl rfl rfl)))
theorem J10 {s1 s2 v13 res} (hh : Y1 s1 s2 v13 = some res) : Vo s1 s2 v13 res := (Az s1 s2) _ _ hh
def T3 (s1 : List Str) (s2 : List Str) : Option Bool :=
  if (((s1).length : Int) != ((s2).length : Int)) = true then
    some false
  else
    Y1 s1 s2 0
theorem Vq {s1 s2 res} (hh : T3 s1 s2 = some res) : S0 C 207 [.d (.sl (estr.rows s1)), .d (.sl (estr.rows s2))] [] (Ret [] (.d (.bool res))) := by
  unfold T3 at hh
  refine S0.intro hC Tryz.func207 rfl rfl rfl (t' rfl (S' (p' 1 rfl (qe' rfl trivial (estr.lenA _) (q' rfl (qe' rfl trivial (estr.lenA _) (e' rfl (ci' rfl hh (fun hh => ?_) (fun hh => ?_)))))))))
  · cases hh
    exact t' rfl (re' (rt' rfl rfl rfl))
  exact sk' (S' (p' 1 rfl (qe' rfl trivial (estr.lenA _) (e' rfl (bk' (fw' (J10 hh) rfl rfl rfl))))))
mutual
def O7 (a : A0) (b : A0) : Option Bool :=
  (if (bif (bif (bif (bif (a.Kind == b.Kind) then (a.Low == b.Low) else false) then (a.High == b.High) else false) then (a.Size == b.Size) else false) then (a.Name == b.Name) else false) = true then T3 a.Names b.Names else some default) >>= fun x1 =>
  (if (bif (bif (bif (bif (bif (a.Kind == b.Kind) then (a.Low == b.Low) else false) then (a.High == b.High) else false) then (a.Size == b.Size) else false) then (a.Name == b.Name) else false) then x1 else false) = true then P1 a.Of b.Of else some default) >>= fun x2 =>
  some (bif (bif (bif (bif (bif (bif (a.Kind == b.Kind) then (a.Low == b.Low) else false) then (a.High == b.High) else false) then (a.Size == b.Size) else false) then (a.Name == b.Name) else false) then x1 else false) then x2 else false)
  partial_fixpoint
def P1 (s1 : List A0) (s2 : List A0) : Option Bool :=
  if (((s1).length : Int) != ((s2).length : Int)) = true then
    some false
  else
    D1 s1 s2 0
  partial_fixpoint
def D1 (s1 : List A0) (s2 : List A0) (v17 : Int) : Option Bool :=
  if (decide (v17 < ((s1).length : Int))) = true then
    idx s1 v17 >>= fun x1 =>
    idx s2 v17 >>= fun x2 =>
    O7 x1 x2 >>= fun x3 =>
    if (!x3) = true then
      some false
    else
      D1 s1 s2 (IntKind.i64.wrap (v17 + 1))
  else
    some true
  partial_fixpoint
end
abbrev D18 (a : A0) (b : A0) (res : Bool) : Prop := S0 C 174 [.agg (A0.cells a), .agg (A0.cells b)] [] (Ret [] (.d (.bool res)))
abbrev La (s1 : List A0) (s2 : List A0) (res : Bool) : Prop := S0 C 208 [.d (.sl (A0.rows s1)), .d (.sl (A0.rows s2)), .clo 174 []] [] (Ret [] (.d (.bool res)))
abbrev H9 (s1 : List A0) (s2 : List A0) (v17 : Int) (res : Bool) : Prop := LM C 32 0 Tryz.f208 [1, 1, 0, 1, 4] [(1, .d (.sl (A0.rows s2))), (2, .clo 174 []), (15, .d (.sl (A0.rows s1))), (16, .d (.int .i64 ((s1).length : Int))), (17, .d (.int .i64 v17))] [] (Ret [] (.d (.bool res)))
theorem Gt : (∀ a b res, O7 a b = some res → D18 a b res) ∧ (∀ s1 s2 res, P1 s1 s2 = some res → La s1 s2 res) ∧ (∀ s1 s2 v17 res, D1 s1 s2 v17 = some res → H9 s1 s2 v17 res) := by
  refine O7.mutual_partial_correctness _ _ _ ?_ ?_ ?_
  · intro g1 ih1 a b res hh
    obtain ⟨x1, hx1, hh⟩ := bs' hh
    obtain ⟨x2, hx2, hh⟩ := bs' hh
    cases hh
    refine S0.intro hC Tryz.func174 rfl rfl rfl (s' rfl rfl (I0.n hC rfl (I0.n hC rfl (e' rfl (sg' 48 rfl (G' 7 rfl (a1' rfl (a0' rfl (a1' rfl (a2' rfl (pa' rfl (G' 2 rfl (a1' rfl ?_)))))))))))))
    refine a0' rfl (a1' rfl (a2' rfl (pa' rfl (G' 2 rfl (a1' rfl (a0' rfl (a1' rfl (a2' rfl (pa' rfl (G' 2 rfl (a1' rfl (a0' rfl (a1' rfl ?_)))))))))))))
    refine a2' rfl (pa' rfl (G' 2 rfl (a1' rfl (a0' rfl (a1' rfl (AG.c rfl rfl (fun hg => ⟨hg, hg, trivial⟩) (fun hw => Vq (T1 hw hx1)) (pa' rfl (G' 2 rfl (a1' rfl (a0' rfl (a1' rfl (AG.c rfl rfl (fun hg => ⟨hg, hg, trivial⟩) (fun hw => ih1 _ _ _ (T1 hw hx2)) (pa' rfl ?_)))))))))))))
    exact a0' rfl (an' (n' (re' (rt' rfl rfl rfl))))
  · intro g2 ih2 s1 s2 res hh
    refine S0.intro hC Tryz.func208 rfl rfl rfl (t' rfl (S' (p' 1 rfl (qe' rfl trivial (A0.lenA _) (q' rfl (qe' rfl trivial (A0.lenA _) (e' rfl (ci' rfl hh (fun hh => ?_) (fun hh => ?_)))))))))
    · cases hh
      exact t' rfl (re' (rt' rfl rfl rfl))
    exact sk' (S' (p' 1 rfl (qe' rfl trivial (A0.lenA _) (e' rfl (bk' (fw' (ih2 _ _ _ _ hh) rfl rfl rfl))))))
  · intro g0 g2 ih0 ih2 s1 s2 v17 res hh
    refine Z0.unroll (t' rfl (S' (ci' rfl hh (fun hh => ?_) (fun hh => ?_))))
    · obtain ⟨x1, hx1, hh⟩ := bs' hh
      obtain ⟨x2, hx2, hh⟩ := bs' hh
      obtain ⟨x3, hx3, hh⟩ := bs' hh
      refine sk' (S' (bk' (p' 1 rfl (i' rfl (W0 hx1) (A0.idx hx1) rfl (q' rfl (I0.nf hC rfl (q' rfl (I0.s hC rfl (n' (p' 2 rfl (i' rfl (W0 hx2) (A0.idx hx2) rfl (q' rfl (I0.nf hC rfl ?_)))))))))))))
      refine I0.s hC rfl (n' (p' 3 rfl (c' (ih0 _ _ _ hx3) rfl rfl (e' rfl (ci' rfl hh (fun hh => ?_) (fun hh => ?_))))))
      · cases hh
        exact t' rfl (re' (rt' rfl rfl rfl))
      exact sk' (T' rfl (lw' (ih2 _ _ _ _ hh) rfl rfl rfl))
    cases hh
    exact ex' (t' rfl (re' (rt' rfl rfl rfl)))
theorem T1l {a b res} (hh : O7 a b = some res) : D18 a b res := (Gt).1 _ _ _ hh
theorem M17 {s1 s2 res} (hh : P1 s1 s2 = some res) : La s1 s2 res := (Gt).2.1 _ _ _ hh
theorem N14 {s1 s2 v17 res} (hh : D1 s1 s2 v17 = some res) : H9 s1 s2 v17 res := (Gt).2.2 _ _ _ _ hh
def N8 (d : Int) (syntaxReport : E0) : Option E0 :=
  some (E0.mk syntaxReport.nodes (max syntaxReport.depth d) syntaxReport.badForm syntaxReport.badName syntaxReport.badNumber)
theorem Nr {d syntaxReport res} (hh : N8 d syntaxReport = some res) : S0 C 148 [.ref 0 0, .d (.int .i64 d)] [.row (E0.cells syntaxReport) 135] (Ret [.row (E0.cells res) 135] (.tup [])) := by
  unfold N8 at hh
  cases hh
  exact S0.intro hC Tryz.func148 rfl rfl rfl (P' 9 rfl (I0.s hC rfl (n' (rn' rfl rfl rfl))))
def T4 (n : Int) (low : Int) (high : Int) : Option Bool :=
  some (bif (decide (n ≥ low)) then (decide (n ≤ high)) else false)
theorem Q6 {n low high res} (hh : T4 n low high = some res) : S0 C 154 [.d (.int .i64 n), .d (.int .i64 low), .d (.int .i64 high)] [] (Ret [] (.d (.bool res))) := by
  unfold T4 at hh
  cases hh
  exact S0.intro hC Tryz.func154 rfl rfl rfl (t' rfl (sg' 9 rfl (G' 6 rfl (a2' rfl (pa' rfl (a0' rfl (an' (n' (re' (rt' rfl rfl rfl))))))))))
def J2 (ok : Bool) (syntaxReport : E0) : Option E0 :=
  some (E0.mk syntaxReport.nodes syntaxReport.depth syntaxReport.badForm syntaxReport.badName (bif syntaxReport.badNumber then true else (!ok)))
theorem O4 {ok syntaxReport res} (hh : J2 ok syntaxReport = some res) : S0 C 153 [.ref 0 0, .d (.bool ok)] [.row (E0.cells syntaxReport) 135] (Ret [.row (E0.cells res) 135] (.tup [])) := by
  unfold J2 at hh
  cases hh
  exact S0.intro hC Tryz.func153 rfl rfl rfl (AEx.regionG 11 rfl (G' 7 rfl (a1' rfl (po' rfl (G' 2 rfl (an' (I0.s hC rfl (n' (rn' rfl rfl rfl)))))))))
def Gn (c : Int) : Option Bool :=
  some (bif (decide (c ≥ 97)) then (decide (c ≤ 122)) else false)
theorem X1p {c res} (hh : Gn c = some res) : S0 C 229 [.d (.int .u8 c)] [] (Ret [] (.d (.bool res))) := by
  unfold Gn at hh
  cases hh
  exact S0.intro hC Tryz.func229 rfl rfl rfl (t' rfl (sg' 7 rfl (G' 4 rfl (a1' rfl (pa' rfl (a0' rfl (an' (n' (re' (rt' rfl rfl rfl))))))))))
def Kp (c : Int) : Option Bool :=
  some (bif (decide (c ≥ 48)) then (decide (c ≤ 57)) else false)
theorem G1s {c res} (hh : Kp c = some res) : S0 C 230 [.d (.int .u8 c)] [] (Ret [] (.d (.bool res))) := by
  unfold Kp at hh
  cases hh
  exact S0.intro hC Tryz.func230 rfl rfl rfl (t' rfl (sg' 7 rfl (G' 4 rfl (a1' rfl (pa' rfl (a0' rfl (an' (n' (re' (rt' rfl rfl rfl))))))))))
def O8 (s : Str) (v6 : Int) : Option Bool :=
  if (decide (v6 < ((s).length : Int))) = true then
    idx s v6 >>= fun x1 =>
    Gn (x1.toNat : Int) >>= fun x2 =>
    (if ((!x2) && (!(v6 == 0))) = true then idx s v6 else some default) >>= fun x3 =>
    (if ((!x2) && (!(v6 == 0))) = true then Kp (x3.toNat : Int) else some default) >>= fun x4 =>
    if (bif (!x2) then (bif (v6 == 0) then true else (!x4)) else false) = true then
      some false
    else
      O8 s (IntKind.i64.wrap (v6 + 1))
  else
    some (!(s == []))
  partial_fixpoint
abbrev L1a (s : Str) (v6 : Int) (res : Bool) : Prop := LM C 28 0 Tryz.f223 [1, 0, 1, 4] [(0, .d (.str s)), (5, .d (.int .i64 ((s).length : Int))), (6, .d (.int .i64 v6))] [] (Ret [] (.d (.bool res)))
theorem U1l (s : Str) : (∀ v6 res, O8 s v6 = some res → L1a s v6 res) := by
  refine O8.partial_correctness s _ ?_
  · intro g0 ih0 v6 res hh
    refine Z0.unroll (t' rfl (S' (ci' rfl hh (fun hh => ?_) (fun hh => ?_))))
    · obtain ⟨x1, hx1, hh⟩ := bs' hh
      obtain ⟨x2, hx2, hh⟩ := bs' hh
      obtain ⟨x3, hx3, hh⟩ := bs' hh
      obtain ⟨x4, hx4, hh⟩ := bs' hh
      refine sk' (S' (bk' (t' rfl (sg' 16 rfl (G' 2 rfl (AG.x hC rfl rfl (fun _ => trivial) (fun hw => ⟨W0 hx1, Rx hx1⟩) (AG.c rfl rfl (fun _ => trivial) (fun _ => X1p hx2) (G' 3 rfl (a1' rfl (a1' rfl (G' 2 rfl (AG.x hC rfl rfl (fun hg => ⟨hg, hg, trivial⟩) (fun hw => ⟨W0 (T1 hw hx3), Rx (T1 hw hx3)⟩) (AG.c rfl rfl (fun hg => ⟨hg, trivial⟩) (fun hw => G1s (T1 hw hx4)) ?_)))))))))))))
      refine a1' rfl (pO' rfl (pa' rfl (an' (n' (ci' rfl hh (fun hh => ?_) (fun hh => ?_))))))
      · cases hh
        exact t' rfl (re' (rt' rfl rfl rfl))
      exact sk' (T' rfl (lw' (ih0 _ _ hh) rfl rfl rfl))
    cases hh
    exact ex' (t' rfl (re' (rt' rfl rfl rfl)))
theorem J1n {s v6 res} (hh : O8 s v6 = some res) : L1a s v6 res := (U1l s) _ _ hh
def Rr (s : Str) : Option Bool :=
  O8 s 0
theorem Q1u {s res} (hh : Rr s = some res) : S0 C 223 [.d (.str s)] [] (Ret [] (.d (.bool res))) := by
  unfold Rr at hh
  exact S0.intro hC Tryz.func223 rfl rfl rfl (t' rfl (S' (t' rfl (bk' (fw' (J1n hh) rfl rfl rfl)))))
def Tj (Yg : Str) : Option Bool :=
  (if (!(Yg == [])) = true then Et Yg [32] else some default) >>= fun x1 =>
  if (!(bif (!(Yg == [])) then (!x1) else false) || (decide (1 + Yg.length ≤ maxLen))) = true then
    if (!(bif (!(Yg == [])) then (!x1) else false) || (decide (([32] ++ Yg).length + 1 ≤ maxLen))) = true then
      (if (bif (!(Yg == [])) then (!x1) else false) = true then Et [32, 116, 121, 112, 101, 32, 115, 101, 99, 114, 101, 116, 32, 112, 117, 98, 108, 105, 99, 32, 114, 97, 110, 100, 111, 109, 32, 118, 97, 114, 32, 104, 97, 116, 99, 104, 32, 102, 117, 110, 99, 32, 114, 101, 116, 117, 114, 110, 32, 98, 101, 103, 105, 110, 32, 101, 110, 100, 32, 98, 111, 111, 108, 32, 105, 110, 116, 32, 97, 114, 114, 97, 121, 32, 111, 102, 32, 114, 101, 99, 111, 114, 100, 32, 116, 114, 117, 101, 32, 102, 97, 108, 115, 101, 32, 99, 97, 108, 108, 32, 114, 101, 108, 101, 97, 115, 101, 32, 111, 117, 116, 112, 117, 116, 32, 119, 97, 105, 116, 32, 105, 102, 32, 101, 108, 115, 101, 32, 119, 104, 105, 108, 101, 32, 108, 105, 109, 105, 116, 32, 102, 111, 114, 32, 116, 111, 32, 115, 101, 116, 116, 108, 101, 32, 109, 105, 110, 32, 109, 97, 120, 32] (([32] ++ Yg) ++ [32]) else some default) >>= fun x2 =>
      some (bif (bif (!(Yg == [])) then (!x1) else false) then x2 else false)
    else none
  else none
theorem Y1p {Yg res} (hh : Tj Yg = some res) : S0 C 224 [.d (.str Yg)] [] (Ret [] (.d (.bool res))) := by
  unfold Tj at hh
  obtain ⟨x1, hx1, hh⟩ := bs' hh
  obtain ⟨c5, hh⟩ := T21 hh
  obtain ⟨c6, hh⟩ := T21 hh
  obtain ⟨x2, hx2, hh⟩ := bs' hh
  cases hh
  refine S0.intro hC Tryz.func224 rfl rfl rfl (t' rfl (sg' 14 rfl (G' 4 rfl (AG.c rfl rfl (fun hg => ⟨hg, trivial⟩) (fun hw => C1l (T1 hw hx1)) (a1' rfl (pa' rfl (G' 2 rfl (ag' rfl (fun hg => ⟨⟨hg, trivial⟩, (c5 hg)⟩) (ag' rfl (fun hg => ⟨⟨hg, trivial⟩, (c6 hg)⟩) (AG.c rfl rfl (fun hg => ⟨hg, trivial⟩) (fun hw => C1l (T1 hw hx2)) (pa' rfl (a0' rfl (an' ?_)))))))))))))
  exact n' (re' (rt' rfl rfl rfl))
def Sr (s : Str) : Option Bool :=
  (if (decide (((s).length : Int) ≤ 12)) = true then Rr s else some default) >>= fun x1 =>
  (if (bif (decide (((s).length : Int) ≤ 12)) then x1 else false) = true then Tj s else some default) >>= fun x2 =>
  some (bif (bif (decide (((s).length : Int) ≤ 12)) then x1 else false) then (!x2) else false)
theorem R1u {s res} (hh : Sr s = some res) : S0 C 210 [.d (.str s)] [] (Ret [] (.d (.bool res))) := by
  unfold Sr at hh
  obtain ⟨x1, hx1, hh⟩ := bs' hh
  obtain ⟨x2, hx2, hh⟩ := bs' hh
  cases hh
  exact S0.intro hC Tryz.func210 rfl rfl rfl (t' rfl (sg' 13 rfl (G' 5 rfl (AG.c rfl rfl (fun hg => ⟨hg, trivial⟩) (fun hw => Q1u (T1 hw hx1)) (pa' rfl (G' 2 rfl (AG.c rfl rfl (fun hg => ⟨hg, trivial⟩) (fun hw => Y1p (T1 hw hx2)) (a1' rfl (pa' rfl (a0' rfl (an' (n' (re' (rt' rfl rfl rfl))))))))))))))
def Zi (s : Str) : Option Bool :=
  Sr s >>= fun x1 =>
  some x1
theorem T1c {s res} (hh : Zi s = some res) : S0 C 179 [.d (.str s)] [] (Ret [] (.d (.bool res))) := by
  unfold Zi at hh
  obtain ⟨x1, hx1, hh⟩ := bs' hh
  cases hh
  exact S0.intro hC Tryz.func179 rfl rfl rfl (t' rfl (p' 1 rfl (c' (R1u hx1) rfl rfl (e' rfl (re' (rt' rfl rfl rfl))))))
def H5 (s : Str) (syntaxReport : E0) : Option E0 :=
  (if (!syntaxReport.badName) = true then Zi s else some default) >>= fun x1 =>
  some (E0.mk syntaxReport.nodes syntaxReport.depth syntaxReport.badForm (bif syntaxReport.badName then true else (!x1)) syntaxReport.badNumber)
theorem Ah {s syntaxReport res} (hh : H5 s syntaxReport = some res) : S0 C 152 [.ref 0 0, .d (.str s)] [.row (E0.cells syntaxReport) 135] (Ret [.row (E0.cells res) 135] (.tup [])) := by
  unfold H5 at hh
  obtain ⟨x1, hx1, hh⟩ := bs' hh
  cases hh
  exact S0.intro hC Tryz.func152 rfl rfl rfl (AEx.regionG 12 rfl (G' 7 rfl (AG.c rfl rfl (fun hg => ⟨hg, trivial⟩) (fun hw => T1c (T1 hw hx1)) (a1' rfl (po' rfl (G' 2 rfl (an' (I0.s hC rfl (n' (rn' rfl rfl rfl))))))))))
mutual
def F5 (t : A0) (depth : Int) (syntaxReport : E0) : Option E0 :=
  N8 depth (E0.mk (IntKind.i64.wrap (syntaxReport.nodes + 1)) syntaxReport.depth syntaxReport.badForm syntaxReport.badName syntaxReport.badNumber) >>= fun x1 =>
  Y0 (bif (decide (t.Kind ≥ 0)) then (decide (t.Kind ≤ 4)) else false) x1 >>= fun x2 =>
  Y0 (bif (t.Kind == 1) then true else (bif (t.Low == 0) then (t.High == 0) else false)) x2 >>= fun x3 =>
  Y0 (bif (t.Kind == 2) then true else (t.Size == 0)) x3 >>= fun x4 =>
  Y0 (bif (t.Kind == 4) then true else (t.Name == [])) x4 >>= fun x5 =>
  Y0 (bif (t.Kind == 3) then true else (((t.Names).length : Int) == 0)) x5 >>= fun x6 =>
  if (t.Kind == 2) = true then
    Y0 (((t.Of).length : Int) == 1) x6 >>= fun x7 =>
    T4 t.Size 1 32 >>= fun x8 =>
    J2 x8 x7 >>= fun x9 =>
    T5 t depth x9
  else
    if (t.Kind == 3) = true then
      Y0 (bif (decide (((t.Of).length : Int) ≥ 1)) then (((t.Of).length : Int) == ((t.Names).length : Int)) else false) x6 >>= fun x14 =>
      J2 (decide (((t.Of).length : Int) ≤ 32)) x14 >>= fun x15 =>
      T5 t depth x15
    else
      Y0 (((t.Of).length : Int) == 0) x6 >>= fun x16 =>
      T5 t depth x16
  partial_fixpoint
def T5 (t : A0) (depth : Int) (o0 : E0) : Option E0 :=
  if (t.Kind == 1) = true then
    T4 t.Low (-1048576) 1048576 >>= fun x10 =>
    (if x10 = true then T4 t.High t.Low 1048576 else some default) >>= fun x11 =>
    J2 (bif x10 then x11 else false) o0 >>= fun x12 =>
    U5 t depth x12
  else
    U5 t depth o0
  partial_fixpoint
def U5 (t : A0) (depth : Int) (o01 : E0) : Option E0 :=
  if (t.Kind == 4) = true then
    H5 t.Name o01 >>= fun x13 =>
    B7 t depth x13
  else
    B7 t depth o01
  partial_fixpoint
def B7 (t : A0) (depth : Int) (o02 : E0) : Option E0 :=
  L4 t depth o02 0
  partial_fixpoint
def L4 (t : A0) (depth : Int) (o03 : E0) (v147 : Int) : Option E0 :=
  if (decide (v147 < ((t.Names).length : Int))) = true then
    idx t.Names v147 >>= fun x17 =>
    H5 x17 o03 >>= fun x18 =>
    L4 t depth x18 (IntKind.i64.wrap (v147 + 1))
  else
    C5 t depth o03 0
  partial_fixpoint
def C5 (t : A0) (depth : Int) (o04 : E0) (v158 : Int) : Option E0 :=
  if (decide (v158 < ((t.Of).length : Int))) = true then
    idx t.Of v158 >>= fun x19 =>
    F5 x19 (IntKind.i64.wrap (depth + 1)) o04 >>= fun x20 =>
    C5 t depth x20 (IntKind.i64.wrap (v158 + 1))
  else
    some o04
  partial_fixpoint
end
abbrev D15 (t : A0) (depth : Int) (syntaxReport : E0) (res : E0) : Prop := S0 C 175 [.ref 0 0, .agg (A0.cells t), .d (.int .i64 depth)] [.row (E0.cells syntaxReport) 135] (Ret [.row (E0.cells res) 135] (.tup []))
abbrev Bz (t : A0) (depth : Int) (o0 : E0) (res : E0) : Prop := JM C 168 1 Tryz.f175 [1, 1, 1, 1, 1, 1, 1, 1, 1, 1] [(0, .ref 0 0), (2, .d (.int .i64 depth)), (4, .ref 1 0), (6, .d (.bool (t.Kind == 1))), (9, .d (.bool (t.Kind == 4)))] [.row (E0.cells o0) 135, .row (A0.cells t) 40] (Ret [.row (E0.cells res) 135] (.tup []))
abbrev Cz (t : A0) (depth : Int) (o01 : E0) (res : E0) : Prop := JM C 168 1 Tryz.f175 [1, 1, 1, 1, 1, 1, 1, 1, 1, 1, 1] [(0, .ref 0 0), (2, .d (.int .i64 depth)), (4, .ref 1 0), (9, .d (.bool (t.Kind == 4)))] [.row (E0.cells o01) 135, .row (A0.cells t) 40] (Ret [.row (E0.cells res) 135] (.tup []))
abbrev Dz (t : A0) (depth : Int) (o02 : E0) (res : E0) : Prop := JM C 168 1 Tryz.f175 [1, 1, 1, 1, 1, 1, 1, 1, 1, 1, 1, 1] [(0, .ref 0 0), (2, .d (.int .i64 depth)), (4, .ref 1 0)] [.row (E0.cells o02) 135, .row (A0.cells t) 40] (Ret [.row (E0.cells res) 135] (.tup []))
abbrev Ez (t : A0) (depth : Int) (o03 : E0) (v147 : Int) (res : E0) : Prop := LM C 168 1 Tryz.f175 [1, 1, 1, 1, 1, 1, 1, 1, 1, 1, 1, 1, 0, 1, 4] [(0, .ref 0 0), (2, .d (.int .i64 depth)), (4, .ref 1 0), (145, .d (.sl (estr.rows t.Names))), (146, .d (.int .i64 ((t.Names).length : Int))), (147, .d (.int .i64 v147))] [.row (E0.cells o03) 135, .row (A0.cells t) 40] (Ret [.row (E0.cells res) 135] (.tup []))
abbrev Fz (t : A0) (depth : Int) (o04 : E0) (v158 : Int) (res : E0) : Prop := LM C 168 1 Tryz.f175 [1, 1, 1, 1, 1, 1, 1, 1, 1, 1, 1, 1, 1, 1, 4] [(0, .ref 0 0), (2, .d (.int .i64 depth)), (156, .d (.sl (A0.rows t.Of))), (157, .d (.int .i64 ((t.Of).length : Int))), (158, .d (.int .i64 v158))] [.row (E0.cells o04) 135] (Ret [.row (E0.cells res) 135] (.tup []))
theorem Mc : (∀ t depth syntaxReport res, F5 t depth syntaxReport = some res → D15 t depth syntaxReport res) ∧ (∀ t depth o0 res, T5 t depth o0 = some res → Bz t depth o0 res) ∧ (∀ t depth o01 res, U5 t depth o01 = some res → Cz t depth o01 res) ∧ (∀ t depth o02 res, B7 t depth o02 = some res → Dz t depth o02 res) ∧ (∀ t depth o03 v147 res, L4 t depth o03 v147 = some res → Ez t depth o03 v147 res) ∧ (∀ t depth o04 v158 res, C5 t depth o04 v158 = some res → Fz t depth o04 v158 res) := by
  refine F5.mutual_partial_correctness _ _ _ _ _ _ ?_ ?_ ?_ ?_ ?_ ?_
  · intro g1 ih1 t depth syntaxReport res hh
    obtain ⟨x1, hx1, hh⟩ := bs' hh
    obtain ⟨x2, hx2, hh⟩ := bs' hh
    obtain ⟨x3, hx3, hh⟩ := bs' hh
    obtain ⟨x4, hx4, hh⟩ := bs' hh
    obtain ⟨x5, hx5, hh⟩ := bs' hh
    obtain ⟨x6, hx6, hh⟩ := bs' hh
    refine S0.intro hC Tryz.func175 rfl rfl rfl (s' rfl rfl (I0.n hC rfl (n' (p' 7 rfl (I0.s hC rfl (n' (p' 2 rfl (g' [0] (Nr hx1) rfl rfl rfl rfl rfl rfl (n' (sg' 9 rfl (G' 6 rfl (a1' rfl (a1' rfl ?_)))))))))))))
    refine pa' rfl (an' (g' [0] (G1 hx2) rfl rfl rfl rfl rfl rfl (n' (S' (AEx.draw hC 16 rfl rfl rfl (E' rfl (n' (sg' 12 rfl (G' 4 rfl (a1' rfl (a1' rfl (a1' rfl (a0' rfl ?_)))))))))))))
    refine a1' rfl (a1' rfl (pA' rfl (po' rfl (an' (g' [0] (G1 hx3) rfl rfl rfl rfl rfl rfl (n' (sg' 7 rfl (G' 4 rfl (a1' rfl (a1' rfl (po' rfl (an' (g' [0] (G1 hx4) rfl rfl rfl rfl rfl rfl ?_)))))))))))))
    refine n' (sg' 7 rfl (G' 4 rfl (a1' rfl (a1' rfl (po' rfl (an' (g' [0] (G1 hx5) rfl rfl rfl rfl rfl rfl (n' (sg' 8 rfl (G' 4 rfl (a1' rfl (AG.qe hC rfl (fun hg => ⟨⟨hg, trivial⟩, trivial⟩) (estr.lenA _) (a1' rfl ?_)))))))))))))
    refine po' rfl (an' (g' [0] (G1 hx6) rfl rfl rfl rfl rfl rfl (n' (S' (bk' (t' rfl (ci' rfl hh (fun hh => ?_) (fun hh => ?_))))))))
    · obtain ⟨x7, hx7, hh⟩ := bs' hh
      obtain ⟨x8, hx8, hh⟩ := bs' hh
      obtain ⟨x9, hx9, hh⟩ := bs' hh
      exact p' 3 rfl (qe' rfl trivial (A0.lenA _) (q' rfl (g' [0] (G1 hx7) rfl rfl rfl rfl rfl rfl (n' (P' 3 rfl (c' (Q6 hx8) rfl rfl (g' [0] (O4 hx9) rfl rfl rfl rfl rfl rfl (n' (ew' (ih1 _ _ _ _ hh) rfl rfl rfl)))))))))
    refine t' rfl (ci' rfl hh (fun hh => ?_) (fun hh => ?_))
    · obtain ⟨x14, hx14, hh⟩ := bs' hh
      obtain ⟨x15, hx15, hh⟩ := bs' hh
      refine sg' 14 rfl (G' 3 rfl (AG.qe hC rfl (fun hg => ⟨trivial, trivial⟩) (A0.lenA _) (G' 3 rfl (a1' rfl (AG.qe hC rfl (fun hg => ⟨⟨hg, trivial⟩, trivial⟩) (A0.lenA _) (a0' rfl (a1' rfl (AG.qe hC rfl (fun hg => ⟨⟨hg, trivial⟩, trivial⟩) (estr.lenA _) (a2' rfl (pa' rfl (an' (g' [0] (G1 hx14) rfl rfl rfl rfl rfl rfl (n' ?_)))))))))))))
      exact P' 3 rfl (qe' rfl trivial (A0.lenA _) (q' rfl (g' [0] (O4 hx15) rfl rfl rfl rfl rfl rfl (n' (ew' (ih1 _ _ _ _ hh) rfl rfl rfl)))))
    obtain ⟨x16, hx16, hh⟩ := bs' hh
    exact P' 3 rfl (qe' rfl trivial (A0.lenA _) (q' rfl (g' [0] (G1 hx16) rfl rfl rfl rfl rfl rfl (n' (ew' (ih1 _ _ _ _ hh) rfl rfl rfl)))))
  · intro g2 ih2 t depth o0 res hh
    refine S' (t' rfl (ci' rfl hh (fun hh => ?_) (fun hh => ?_)))
    · obtain ⟨x10, hx10, hh⟩ := bs' hh
      obtain ⟨x11, hx11, hh⟩ := bs' hh
      obtain ⟨x12, hx12, hh⟩ := bs' hh
      exact AEx.regionG 11 rfl (G' 3 rfl (AG.c rfl rfl (fun _ => trivial) (fun _ => Q6 hx10) (G' 2 rfl (a1' rfl (a0' rfl (a1' rfl (AG.c rfl rfl (fun hg => ⟨hg, hg, trivial⟩) (fun hw => Q6 (T1 hw hx11)) (pa' rfl (an' (g' [0] (O4 hx12) rfl rfl rfl rfl rfl rfl (n' (ew' (ih2 _ _ _ _ hh) rfl rfl rfl))))))))))))
    exact sk' (ew' (ih2 _ _ _ _ hh) rfl rfl rfl)
  · intro g3 ih3 t depth o01 res hh
    refine S' (t' rfl (ci' rfl hh (fun hh => ?_) (fun hh => ?_)))
    · obtain ⟨x13, hx13, hh⟩ := bs' hh
      exact P' 3 rfl (g' [0] (Ah hx13) rfl rfl rfl rfl rfl rfl (n' (ew' (ih3 _ _ _ _ hh) rfl rfl rfl)))
    exact sk' (ew' (ih3 _ _ _ _ hh) rfl rfl rfl)
  · intro g4 ih4 t depth o02 res hh
    exact S' (p' 2 rfl (qe' rfl trivial (estr.lenA _) (e' rfl (bk' (fw' (ih4 _ _ _ _ _ hh) rfl rfl rfl)))))
  · intro g4 g5 ih4 ih5 t depth o03 v147 res hh
    refine Z0.unroll (t' rfl (S' (ci' rfl hh (fun hh => ?_) (fun hh => ?_))))
    · obtain ⟨x17, hx17, hh⟩ := bs' hh
      obtain ⟨x18, hx18, hh⟩ := bs' hh
      exact sk' (S' (bk' (s' rfl rfl (i' rfl (W0 hx17) (estr.idx hx17) rfl (e' rfl (P' 2 rfl (g' [0] (Ah hx18) rfl rfl rfl rfl rfl rfl (n' (T' rfl (lw' (ih4 _ _ _ _ _ hh) rfl rfl rfl))))))))))
    exact ex' (p' 2 rfl (qe' rfl trivial (A0.lenA _) (e' rfl (bk' (fw' (ih5 _ _ _ _ _ hh) rfl rfl rfl)))))
  · intro g0 g5 ih0 ih5 t depth o04 v158 res hh
    refine Z0.unroll (t' rfl (S' (ci' rfl hh (fun hh => ?_) (fun hh => ?_))))
    · obtain ⟨x19, hx19, hh⟩ := bs' hh
      obtain ⟨x20, hx20, hh⟩ := bs' hh
      exact sk' (S' (bk' (s' rfl rfl (i' rfl (W0 hx19) (A0.idx hx19) rfl (q' rfl (I0.nf hC rfl (I0.s hC rfl (n' (P' 4 rfl (g' [0] (ih0 _ _ _ _ hx20) rfl rfl rfl rfl rfl rfl (n' (T' rfl (lw' (ih5 _ _ _ _ _ hh) rfl rfl rfl)))))))))))))
    cases hh
    exact ex' (rn' rfl rfl rfl)
theorem X11 {t depth syntaxReport res} (hh : F5 t depth syntaxReport = some res) : D15 t depth syntaxReport res := (Mc).1 _ _ _ _ hh
theorem P24 {t depth o0 res} (hh : T5 t depth o0 = some res) : Bz t depth o0 res := (Mc).2.1 _ _ _ _ hh
theorem Q24 {t depth o01 res} (hh : U5 t depth o01 = some res) : Cz t depth o01 res := (Mc).2.2.1 _ _ _ _ hh
theorem R24 {t depth o02 res} (hh : B7 t depth o02 = some res) : Dz t depth o02 res := (Mc).2.2.2.1 _ _ _ _ hh
theorem S24 {t depth o03 v147 res} (hh : L4 t depth o03 v147 = some res) : Ez t depth o03 v147 res := (Mc).2.2.2.2.1 _ _ _ _ _ hh
theorem T24 {t depth o04 v158 res} (hh : C5 t depth o04 v158 = some res) : Fz t depth o04 v158 res := (Mc).2.2.2.2.2 _ _ _ _ _ hh
mutual
def R6 (a : C0) (b : C0) : Option Bool :=
  (if (bif (bif (a.Op == b.Op) then (a.NV == b.NV) else false) then (a.Name == b.Name) else false) = true then Q1 a.Kids b.Kids else some default) >>= fun x1 =>
  some (bif (bif (bif (a.Op == b.Op) then (a.NV == b.NV) else false) then (a.Name == b.Name) else false) then x1 else false)
  partial_fixpoint
def Q1 (s1 : List C0) (s2 : List C0) : Option Bool :=
  if (((s1).length : Int) != ((s2).length : Int)) = true then
    some false
  else
    E1 s1 s2 0
  partial_fixpoint
def E1 (s1 : List C0) (s2 : List C0) (v17 : Int) : Option Bool :=
  if (decide (v17 < ((s1).length : Int))) = true then
    idx s1 v17 >>= fun x1 =>
    idx s2 v17 >>= fun x2 =>
    R6 x1 x2 >>= fun x3 =>
    if (!x3) = true then
      some false
    else
      E1 s1 s2 (IntKind.i64.wrap (v17 + 1))
  else
    some true
  partial_fixpoint
end
abbrev E18 (a : C0) (b : C0) (res : Bool) : Prop := S0 C 209 [.agg (C0.cells a), .agg (C0.cells b)] [] (Ret [] (.d (.bool res)))
abbrev Ma (s1 : List C0) (s2 : List C0) (res : Bool) : Prop := S0 C 222 [.d (.sl (C0.rows s1)), .d (.sl (C0.rows s2)), .clo 209 []] [] (Ret [] (.d (.bool res)))
abbrev I9 (s1 : List C0) (s2 : List C0) (v17 : Int) (res : Bool) : Prop := LM C 32 0 Tryz.f222 [1, 1, 0, 1, 4] [(1, .d (.sl (C0.rows s2))), (2, .clo 209 []), (15, .d (.sl (C0.rows s1))), (16, .d (.int .i64 ((s1).length : Int))), (17, .d (.int .i64 v17))] [] (Ret [] (.d (.bool res)))
theorem Ht : (∀ a b res, R6 a b = some res → E18 a b res) ∧ (∀ s1 s2 res, Q1 s1 s2 = some res → Ma s1 s2 res) ∧ (∀ s1 s2 v17 res, E1 s1 s2 v17 = some res → I9 s1 s2 v17 res) := by
  refine R6.mutual_partial_correctness _ _ _ ?_ ?_ ?_
  · intro g1 ih1 a b res hh
    obtain ⟨x1, hx1, hh⟩ := bs' hh
    cases hh
    refine S0.intro hC Tryz.func209 rfl rfl rfl (s' rfl rfl (I0.n hC rfl (I0.n hC rfl (e' rfl (sg' 27 rfl (G' 7 rfl (a1' rfl (a0' rfl (a1' rfl (a2' rfl (pa' rfl (G' 2 rfl (a1' rfl ?_)))))))))))))
    exact a0' rfl (a1' rfl (a2' rfl (pa' rfl (G' 2 rfl (a1' rfl (a0' rfl (a1' rfl (AG.c rfl rfl (fun hg => ⟨hg, hg, trivial⟩) (fun hw => ih1 _ _ _ (T1 hw hx1)) (pa' rfl (a0' rfl (an' (n' (re' (rt' rfl rfl rfl))))))))))))))
  · intro g2 ih2 s1 s2 res hh
    refine S0.intro hC Tryz.func222 rfl rfl rfl (t' rfl (S' (p' 1 rfl (qe' rfl trivial (C0.lenA _) (q' rfl (qe' rfl trivial (C0.lenA _) (e' rfl (ci' rfl hh (fun hh => ?_) (fun hh => ?_)))))))))
    · cases hh
      exact t' rfl (re' (rt' rfl rfl rfl))
    exact sk' (S' (p' 1 rfl (qe' rfl trivial (C0.lenA _) (e' rfl (bk' (fw' (ih2 _ _ _ _ hh) rfl rfl rfl))))))
  · intro g0 g2 ih0 ih2 s1 s2 v17 res hh
    refine Z0.unroll (t' rfl (S' (ci' rfl hh (fun hh => ?_) (fun hh => ?_))))
    · obtain ⟨x1, hx1, hh⟩ := bs' hh
      obtain ⟨x2, hx2, hh⟩ := bs' hh
      obtain ⟨x3, hx3, hh⟩ := bs' hh
      refine sk' (S' (bk' (p' 1 rfl (i' rfl (W0 hx1) (C0.idx hx1) rfl (q' rfl (I0.nf hC rfl (q' rfl (I0.s hC rfl (n' (p' 2 rfl (i' rfl (W0 hx2) (C0.idx hx2) rfl (q' rfl (I0.nf hC rfl ?_)))))))))))))
      refine I0.s hC rfl (n' (p' 3 rfl (c' (ih0 _ _ _ hx3) rfl rfl (e' rfl (ci' rfl hh (fun hh => ?_) (fun hh => ?_))))))
      · cases hh
        exact t' rfl (re' (rt' rfl rfl rfl))
      exact sk' (T' rfl (lw' (ih2 _ _ _ _ hh) rfl rfl rfl))
    cases hh
    exact ex' (t' rfl (re' (rt' rfl rfl rfl)))
theorem V1l {a b res} (hh : R6 a b = some res) : E18 a b res := (Ht).1 _ _ _ hh
theorem N17 {s1 s2 res} (hh : Q1 s1 s2 = some res) : Ma s1 s2 res := (Ht).2.1 _ _ _ hh
theorem O14 {s1 s2 v17 res} (hh : E1 s1 s2 v17 = some res) : I9 s1 s2 v17 res := (Ht).2.2 _ _ _ _ hh
def Ff (op : Int) (v9 : Bool) : Option Int :=
  if v9 = true then
    some 1
  else
    if (op == 5) = true then
      some 2
    else
      if (op == 23) = true then
        some 3
      else
        if (bif (decide (op ≥ 8)) then (decide (op ≤ 22)) else false) = true then
          some 2
        else
          some (-1)
theorem Ew {op v9 res} (hh : Ff op v9 = some res) : JM C 23 0 Tryz.f150 [1, 0, 1, 4, 1, 3, 1] [(0, .d (.int .i64 op)), (3, .d (.int .i64 op)), (9, .d (.bool v9))] [] (Ret [] (.d (.int .i64 res))) := by
  unfold Ff at hh
  refine ci' rfl hh (fun hh => ?_) (fun hh => ?_)
  · cases hh
    exact t' rfl (re' (rt' rfl rfl rfl))
  refine t' rfl (ci' rfl hh (fun hh => ?_) (fun hh => ?_))
  · cases hh
    exact t' rfl (re' (rt' rfl rfl rfl))
  refine t' rfl (ci' rfl hh (fun hh => ?_) (fun hh => ?_))
  · cases hh
    exact t' rfl (re' (rt' rfl rfl rfl))
  refine sk' (S' (sg' 6 rfl (G' 4 rfl (a1' rfl (pa' rfl (an' (n' (ci' rfl hh (fun hh => ?_) (fun hh => ?_)))))))))
  · cases hh
    exact t' rfl (re' (rt' rfl rfl rfl))
  cases hh
  exact sk' (t' rfl (re' (rt' rfl rfl rfl)))
def Ec (op : Int) (v4 : Bool) : Option Int :=
  if v4 = true then
    some 0
  else
    if (op == 4) = true then
      Ff op (op == 4)
    else
      if (op == 6) = true then
        Ff op (op == 6)
      else
        Ff op (op == 7)
theorem Tp {op v4 res} (hh : Ec op v4 = some res) : JM C 23 0 Tryz.f150 [1, 0, 1, 4, 1] [(0, .d (.int .i64 op)), (3, .d (.int .i64 op)), (4, .d (.bool v4))] [] (Ret [] (.d (.int .i64 res))) := by
  unfold Ec at hh
  refine ci' rfl hh (fun hh => ?_) (fun hh => ?_)
  · cases hh
    exact t' rfl (re' (rt' rfl rfl rfl))
  refine S' (t' rfl (ci' rfl hh (fun hh => ?_) (fun hh => ?_)))
  · exact sk' (ew' (Ew hh) rfl rfl rfl)
  refine t' rfl (ci' rfl hh (fun hh => ?_) (fun hh => ?_))
  · exact sk' (ew' (Ew hh) rfl rfl rfl)
  exact T' rfl (ew' (Ew hh) rfl rfl rfl)
def Nn (op : Int) : Option Int :=
  if (op == 0) = true then
    Ec op (op == 0)
  else
    if (op == 1) = true then
      Ec op (op == 1)
    else
      if (op == 2) = true then
        Ec op (op == 2)
      else
        Ec op (op == 3)
theorem S1u {op res} (hh : Nn op = some res) : S0 C 150 [.d (.int .i64 op)] [] (Ret [] (.d (.int .i64 res))) := by
  unfold Nn at hh
  refine S0.intro hC Tryz.func150 rfl rfl rfl (t' rfl (S' (t' rfl (bk' (S' (t' rfl (ci' rfl hh (fun hh => ?_) (fun hh => ?_))))))))
  · exact sk' (ew' (Tp hh) rfl rfl rfl)
  refine t' rfl (ci' rfl hh (fun hh => ?_) (fun hh => ?_))
  · exact sk' (ew' (Tp hh) rfl rfl rfl)
  refine t' rfl (ci' rfl hh (fun hh => ?_) (fun hh => ?_))
  · exact sk' (ew' (Tp hh) rfl rfl rfl)
  exact T' rfl (ew' (Tp hh) rfl rfl rfl)
def Fc (o0 : C0) : Option Bool :=
  if (bif (o0.Op == 4) then true else (o0.Op == 5)) = true then
    if (((o0.Kids).length : Int) == 0) = true then
      some false
    else
      idx o0.Kids 0 >>= fun x1 =>
      Fc x1
  else
    some (o0.Op == 3)
  partial_fixpoint
abbrev M1a (o0 : C0) (res : Bool) : Prop := LM C 22 0 Tryz.f151 [1, 0, 4] [(1, .ref 0 0)] [.row (C0.cells o0) 34] (Ret [] (.d (.bool res)))
theorem W1l : (∀ o0 res, Fc o0 = some res → M1a o0 res) := by
  refine Fc.partial_correctness _ ?_
  · intro g0 ih0 o0 res hh
    refine Z0.unroll (S' (sg' 8 rfl (G' 5 rfl (a1' rfl (a1' rfl (po' rfl (an' (n' (ci' rfl hh (fun hh => ?_) (fun hh => ?_))))))))))
    · refine sk' (bk' (S' (p' 2 rfl (qe' rfl trivial (C0.lenA _) (e' rfl (ci' rfl hh (fun hh => ?_) (fun hh => ?_)))))))
      · cases hh
        exact t' rfl (re' (rt' rfl rfl rfl))
      obtain ⟨x1, hx1, hh⟩ := bs' hh
      exact sk' (P' 2 rfl (i' rfl (W0 hx1) (C0.idx hx1) rfl (q' rfl (I0.s hC rfl (n' (lw' (ih0 _ _ hh) rfl rfl rfl))))))
    cases hh
    exact ex' (t' rfl (re' (rt' rfl rfl rfl)))
theorem K1n {o0 res} (hh : Fc o0 = some res) : M1a o0 res := (W1l) _ _ hh
def Uk (e : C0) : Option Bool :=
  Fc e
theorem N1f {e res} (hh : Uk e = some res) : S0 C 151 [.agg (C0.cells e)] [] (Ret [] (.d (.bool res))) := by
  unfold Uk at hh
  exact S0.intro hC Tryz.func151 rfl rfl rfl (s' rfl rfl (I0.n hC rfl (e' rfl (S' (bk' (fw' (K1n hh) rfl rfl rfl))))))
mutual
def P3 (e : C0) (depth : Int) (syntaxReport : E0) : Option E0 :=
  N8 depth (E0.mk (IntKind.i64.wrap (syntaxReport.nodes + 1)) syntaxReport.depth syntaxReport.badForm syntaxReport.badName syntaxReport.badNumber) >>= fun x1 =>
  Nn e.Op >>= fun x2 =>
  Y0 (x2 == ((e.Kids).length : Int)) x1 >>= fun x3 =>
  Y0 (bif (e.NV == 0) then true else (e.Op == 0)) x3 >>= fun x4 =>
  Y0 (bif (e.Name == []) then true else (bif (e.Op == 3) then true else (e.Op == 4))) x4 >>= fun x5 =>
  if (bif (e.Op == 4) then true else (e.Op == 5)) = true then
    Uk e >>= fun x6 =>
    Y0 x6 x5 >>= fun x7 =>
    K6 e depth x7
  else
    K6 e depth x5
  partial_fixpoint
def K6 (e : C0) (depth : Int) (o0 : E0) : Option E0 :=
  if (bif (e.Op == 3) then true else (e.Op == 4)) = true then
    H5 e.Name o0 >>= fun x8 =>
    X7 e depth x8
  else
    X7 e depth o0
  partial_fixpoint
def X7 (e : C0) (depth : Int) (o01 : E0) : Option E0 :=
  if (e.Op == 0) = true then
    T4 e.NV 0 1048576 >>= fun x9 =>
    J2 x9 o01 >>= fun x10 =>
    Y7 e depth x10
  else
    Y7 e depth o01
  partial_fixpoint
def Y7 (e : C0) (depth : Int) (o02 : E0) : Option E0 :=
  A4 e depth o02 0
  partial_fixpoint
def A4 (e : C0) (depth : Int) (o03 : E0) (v82 : Int) : Option E0 :=
  if (decide (v82 < ((e.Kids).length : Int))) = true then
    idx e.Kids v82 >>= fun x11 =>
    P3 x11 (IntKind.i64.wrap (depth + 1)) o03 >>= fun x12 =>
    A4 e depth x12 (IntKind.i64.wrap (v82 + 1))
  else
    some o03
  partial_fixpoint
end
abbrev Y11 (e : C0) (depth : Int) (syntaxReport : E0) (res : E0) : Prop := S0 C 84 [.ref 0 0, .agg (C0.cells e), .d (.int .i64 depth)] [.row (E0.cells syntaxReport) 135] (Ret [.row (E0.cells res) 135] (.tup []))
abbrev Hy (e : C0) (depth : Int) (o0 : E0) (res : E0) : Prop := JM C 92 1 Tryz.f84 [1, 1, 1, 1, 1, 1, 1, 1] [(0, .ref 0 0), (2, .d (.int .i64 depth)), (4, .ref 1 0), (6, .d (.bool (bif (e.Op == 3) then true else (e.Op == 4))))] [.row (E0.cells o0) 135, .row (C0.cells e) 34] (Ret [.row (E0.cells res) 135] (.tup []))
abbrev Iy (e : C0) (depth : Int) (o01 : E0) (res : E0) : Prop := JM C 92 1 Tryz.f84 [1, 1, 1, 1, 1, 1, 1, 1, 1] [(0, .ref 0 0), (2, .d (.int .i64 depth)), (4, .ref 1 0)] [.row (E0.cells o01) 135, .row (C0.cells e) 34] (Ret [.row (E0.cells res) 135] (.tup []))
abbrev Jy (e : C0) (depth : Int) (o02 : E0) (res : E0) : Prop := JM C 92 1 Tryz.f84 [1, 1, 1, 1, 1, 1, 1, 1, 1, 1] [(0, .ref 0 0), (2, .d (.int .i64 depth)), (4, .ref 1 0)] [.row (E0.cells o02) 135, .row (C0.cells e) 34] (Ret [.row (E0.cells res) 135] (.tup []))
abbrev Ky (e : C0) (depth : Int) (o03 : E0) (v82 : Int) (res : E0) : Prop := LM C 92 1 Tryz.f84 [1, 1, 1, 1, 1, 1, 1, 1, 1, 1, 1, 4] [(0, .ref 0 0), (2, .d (.int .i64 depth)), (80, .d (.sl (C0.rows e.Kids))), (81, .d (.int .i64 ((e.Kids).length : Int))), (82, .d (.int .i64 v82))] [.row (E0.cells o03) 135] (Ret [.row (E0.cells res) 135] (.tup []))
theorem Ag : (∀ e depth syntaxReport res, P3 e depth syntaxReport = some res → Y11 e depth syntaxReport res) ∧ (∀ e depth o0 res, K6 e depth o0 = some res → Hy e depth o0 res) ∧ (∀ e depth o01 res, X7 e depth o01 = some res → Iy e depth o01 res) ∧ (∀ e depth o02 res, Y7 e depth o02 = some res → Jy e depth o02 res) ∧ (∀ e depth o03 v82 res, A4 e depth o03 v82 = some res → Ky e depth o03 v82 res) := by
  refine P3.mutual_partial_correctness _ _ _ _ _ ?_ ?_ ?_ ?_ ?_
  · intro g1 ih1 e depth syntaxReport res hh
    obtain ⟨x1, hx1, hh⟩ := bs' hh
    obtain ⟨x2, hx2, hh⟩ := bs' hh
    obtain ⟨x3, hx3, hh⟩ := bs' hh
    obtain ⟨x4, hx4, hh⟩ := bs' hh
    obtain ⟨x5, hx5, hh⟩ := bs' hh
    refine S0.intro hC Tryz.func84 rfl rfl rfl (s' rfl rfl (I0.n hC rfl (n' (p' 7 rfl (I0.s hC rfl (n' (p' 2 rfl (g' [0] (Nr hx1) rfl rfl rfl rfl rfl rfl (n' (S' (AEx.draw hC 8 rfl rfl rfl (O' 3 rfl (Qc' (S1u hx2) rfl rfl ?_)))))))))))))
    refine O' 2 rfl (AQ.qe hC rfl trivial (C0.lenA _) (E' rfl (g' [0] (G1 hx3) rfl rfl rfl rfl rfl rfl (n' (sg' 9 rfl (G' 6 rfl (a1' rfl (a1' rfl (po' rfl (an' (g' [0] (G1 hx4) rfl rfl rfl rfl rfl rfl (n' (sg' 9 rfl ?_)))))))))))))
    refine G' 5 rfl (a1' rfl (a1' rfl (po' rfl (a0' rfl (an' (n' (sg' 7 rfl (G' 6 rfl (po' rfl (an' (g' [0] (G1 hx5) rfl rfl rfl rfl rfl rfl (n' (S' ?_)))))))))))))
    refine sg' 8 rfl (G' 5 rfl (a1' rfl (a1' rfl (po' rfl (an' (n' (ci' rfl hh (fun hh => ?_) (fun hh => ?_))))))))
    · obtain ⟨x6, hx6, hh⟩ := bs' hh
      obtain ⟨x7, hx7, hh⟩ := bs' hh
      exact P' 2 rfl (c' (N1f hx6) rfl rfl (g' [0] (G1 hx7) rfl rfl rfl rfl rfl rfl (n' (ew' (ih1 _ _ _ _ hh) rfl rfl rfl))))
    exact sk' (ew' (ih1 _ _ _ _ hh) rfl rfl rfl)
  · intro g2 ih2 e depth o0 res hh
    refine S' (t' rfl (ci' rfl hh (fun hh => ?_) (fun hh => ?_)))
    · obtain ⟨x8, hx8, hh⟩ := bs' hh
      exact P' 3 rfl (g' [0] (Ah hx8) rfl rfl rfl rfl rfl rfl (n' (ew' (ih2 _ _ _ _ hh) rfl rfl rfl)))
    exact sk' (ew' (ih2 _ _ _ _ hh) rfl rfl rfl)
  · intro g3 ih3 e depth o01 res hh
    refine S' (t' rfl (ci' rfl hh (fun hh => ?_) (fun hh => ?_)))
    · obtain ⟨x9, hx9, hh⟩ := bs' hh
      obtain ⟨x10, hx10, hh⟩ := bs' hh
      exact P' 3 rfl (c' (Q6 hx9) rfl rfl (g' [0] (O4 hx10) rfl rfl rfl rfl rfl rfl (n' (ew' (ih3 _ _ _ _ hh) rfl rfl rfl))))
    exact sk' (ew' (ih3 _ _ _ _ hh) rfl rfl rfl)
  · intro g4 ih4 e depth o02 res hh
    exact p' 2 rfl (qe' rfl trivial (C0.lenA _) (e' rfl (bk' (fw' (ih4 _ _ _ _ _ hh) rfl rfl rfl))))
  · intro g0 g4 ih0 ih4 e depth o03 v82 res hh
    refine Z0.unroll (t' rfl (S' (ci' rfl hh (fun hh => ?_) (fun hh => ?_))))
    · obtain ⟨x11, hx11, hh⟩ := bs' hh
      obtain ⟨x12, hx12, hh⟩ := bs' hh
      exact sk' (S' (bk' (s' rfl rfl (i' rfl (W0 hx11) (C0.idx hx11) rfl (q' rfl (I0.nf hC rfl (I0.s hC rfl (n' (P' 4 rfl (g' [0] (ih0 _ _ _ _ hx12) rfl rfl rfl rfl rfl rfl (n' (T' rfl (lw' (ih4 _ _ _ _ _ hh) rfl rfl rfl)))))))))))))
    cases hh
    exact ex' (rn' rfl rfl rfl)
theorem Tr {e depth syntaxReport res} (hh : P3 e depth syntaxReport = some res) : Y11 e depth syntaxReport res := (Ag).1 _ _ _ _ hh
theorem L22 {e depth o0 res} (hh : K6 e depth o0 = some res) : Hy e depth o0 res := (Ag).2.1 _ _ _ _ hh
theorem M22 {e depth o01 res} (hh : X7 e depth o01 = some res) : Iy e depth o01 res := (Ag).2.2.1 _ _ _ _ hh
theorem N22 {e depth o02 res} (hh : Y7 e depth o02 = some res) : Jy e depth o02 res := (Ag).2.2.2.1 _ _ _ _ hh
theorem O22 {e depth o03 v82 res} (hh : A4 e depth o03 v82 = some res) : Ky e depth o03 v82 res := (Ag).2.2.2.2 _ _ _ _ _ hh
def I4 (e : C0) (used : Bool) (syntaxReport : E0) : Option E0 :=
  (if (!used) = true then R6 e (C0.mk 0 0 [] []) else some default) >>= fun x1 =>
  if (bif (!used) then x1 else false) = true then
    some syntaxReport
  else
    Y0 used syntaxReport >>= fun x2 =>
    P3 e 1 x2 >>= fun x3 =>
    some x3
theorem Rm {e used syntaxReport res} (hh : I4 e used syntaxReport = some res) : S0 C 176 [.ref 0 0, .agg (C0.cells e), .d (.bool used)] [.row (E0.cells syntaxReport) 135] (Ret [.row (E0.cells res) 135] (.tup [])) := by
  unfold I4 at hh
  obtain ⟨x1, hx1, hh⟩ := bs' hh
  refine S0.intro hC Tryz.func176 rfl rfl rfl (s' rfl rfl (I0.n hC rfl (n' (S' (sg' 7 rfl (G' 5 rfl (AG.c rfl rfl (fun hg => ⟨hg, hg, trivial⟩) (fun hw => V1l (T1 hw hx1)) (pa' rfl (an' (n' (ci' rfl hh (fun hh => ?_) (fun hh => ?_))))))))))))
  · cases hh
    exact re' (rt' rfl rfl rfl)
  obtain ⟨x2, hx2, hh⟩ := bs' hh
  obtain ⟨x3, hx3, hh⟩ := bs' hh
  cases hh
  exact sk' (p' 2 rfl (g' [0] (G1 hx2) rfl rfl rfl rfl rfl rfl (n' (P' 2 rfl (g' [0] (Tr hx3) rfl rfl rfl rfl rfl rfl (n' (rn' rfl rfl rfl)))))))
def Qg (v : Int) : Option (X0 × Bool) :=
  if (v == 0) = true then
    some ((X0.mk true true false false false false false false false), true)
  else
    if (v == 1) = true then
      some ((X0.mk true false true true false false false false false), true)
    else
      if (v == 2) = true then
        some ((X0.mk true false true false false false false false false), true)
      else
        if (v == 3) = true then
          some ((X0.mk false true false false false false false false false), true)
        else
          if (v == 4) = true then
            some ((X0.mk false false false false true false false false false), true)
          else
            if (v == 5) = true then
              some ((X0.mk false true false false false false false true true), true)
            else
              if (v == 6) = true then
                some ((X0.mk false true false false true false false true false), true)
              else
                if (v == 7) = true then
                  some ((X0.mk false false true false false true false true false), true)
                else
                  if (v == 8) = true then
                    some ((X0.mk false false false false false false true false false), true)
                  else
                    some ((X0.mk false false false false false false false false false), false)
theorem X1l {v res} (hh : Qg v = some res) : S0 C 177 [.d (.int .i64 v)] [] (Ret [] (.tup [.agg (X0.cells res.1), .d (.bool res.2)])) := by
  unfold Qg at hh
  refine S0.intro hC Tryz.func177 rfl rfl rfl (s' rfl rfl (I0.n hC rfl (e' rfl (S' (t' rfl (bk' (t' rfl (ci' rfl hh (fun hh => ?_) (fun hh => ?_)))))))))
  · cases hh
    exact p' 1 rfl (I0.s hC rfl (e' rfl (re' (rt' rfl rfl rfl))))
  refine t' rfl (ci' rfl hh (fun hh => ?_) (fun hh => ?_))
  · cases hh
    exact p' 1 rfl (I0.s hC rfl (e' rfl (re' (rt' rfl rfl rfl))))
  refine t' rfl (ci' rfl hh (fun hh => ?_) (fun hh => ?_))
  · cases hh
    exact p' 1 rfl (I0.s hC rfl (e' rfl (re' (rt' rfl rfl rfl))))
  refine t' rfl (ci' rfl hh (fun hh => ?_) (fun hh => ?_))
  · cases hh
    exact p' 1 rfl (I0.s hC rfl (e' rfl (re' (rt' rfl rfl rfl))))
  refine t' rfl (ci' rfl hh (fun hh => ?_) (fun hh => ?_))
  · cases hh
    exact p' 1 rfl (I0.s hC rfl (e' rfl (re' (rt' rfl rfl rfl))))
  refine t' rfl (ci' rfl hh (fun hh => ?_) (fun hh => ?_))
  · cases hh
    exact p' 1 rfl (I0.s hC rfl (e' rfl (re' (rt' rfl rfl rfl))))
  refine t' rfl (ci' rfl hh (fun hh => ?_) (fun hh => ?_))
  · cases hh
    exact p' 1 rfl (I0.s hC rfl (e' rfl (re' (rt' rfl rfl rfl))))
  refine t' rfl (ci' rfl hh (fun hh => ?_) (fun hh => ?_))
  · cases hh
    exact p' 1 rfl (I0.s hC rfl (e' rfl (re' (rt' rfl rfl rfl))))
  refine t' rfl (ci' rfl hh (fun hh => ?_) (fun hh => ?_))
  · cases hh
    exact p' 1 rfl (I0.s hC rfl (e' rfl (re' (rt' rfl rfl rfl))))
  cases hh
  exact sk' (p' 1 rfl (I0.s hC rfl (e' rfl (re' (rt' rfl rfl rfl)))))
def Q3 (s : D0) (o0 : E0) (last : Int) (v58 : Int) : Option E0 :=
  if (decide (v58 < ((s.Numbers).length : Int))) = true then
    idx s.Numbers v58 >>= fun x10 =>
    T4 x10 0 1048576 >>= fun x11 =>
    J2 (bif x11 then (decide (x10 > last)) else false) o0 >>= fun x12 =>
    Q3 s x12 x10 (IntKind.i64.wrap (v58 + 1))
  else
    some o0
  partial_fixpoint
abbrev Xt (s : D0) (o0 : E0) (last : Int) (v58 : Int) (res : E0) : Prop := LM C 73 1 Tryz.f178 [1, 1, 4, 1, 3, 1, 3, 1, 3, 1, 2, 1, 1, 1, 4] [(0, .ref 0 0), (5, .d (.int .i64 last)), (56, .d (.sl (ei64.rows s.Numbers))), (57, .d (.int .i64 ((s.Numbers).length : Int))), (58, .d (.int .i64 v58))] [.row (E0.cells o0) 135] (Ret [.row (E0.cells res) 135] (.tup []))
theorem M16 (s : D0) : (∀ o0 last v58 res, Q3 s o0 last v58 = some res → Xt s o0 last v58 res) := by
  refine Q3.partial_correctness s _ ?_
  · intro g0 ih0 o0 last v58 res hh
    refine Z0.unroll (t' rfl (S' (ci' rfl hh (fun hh => ?_) (fun hh => ?_))))
    · obtain ⟨x10, hx10, hh⟩ := bs' hh
      obtain ⟨x11, hx11, hh⟩ := bs' hh
      obtain ⟨x12, hx12, hh⟩ := bs' hh
      refine sk' (S' (bk' (s' rfl rfl (i' rfl (W0 hx10) (ei64.idx hx10) rfl (e' rfl (sg' 8 rfl (G' 2 rfl (AG.c rfl rfl (fun _ => trivial) (fun _ => Q6 hx11) (G' 3 rfl (a2' rfl (pa' rfl (an' (g' [0] (O4 hx12) rfl rfl rfl rfl rfl rfl ?_)))))))))))))
      exact n' (T' rfl (T' rfl (lw' (ih0 _ _ _ _ hh) rfl rfl rfl)))
    cases hh
    exact ex' (rn' rfl rfl rfl)
theorem F18 {s o0 last v58 res} (hh : Q3 s o0 last v58 = some res) : Xt s o0 last v58 res := (M16 s) _ _ _ _ hh
def Z7 (s : D0) (syntaxReport : E0) : Option E0 :=
  if (s.Verb == 4) = true then
    T4 s.NV 0 1048576 >>= fun x1 =>
    J2 x1 syntaxReport >>= fun x2 =>
    some x2
  else
    if (s.Verb == 6) = true then
      T4 s.NV 0 4096 >>= fun x3 =>
      J2 x3 syntaxReport >>= fun x4 =>
      some x4
    else
      if (s.Verb == 7) = true then
        T4 s.Low (-1048576) 1048576 >>= fun x5 =>
        (if x5 = true then T4 s.High s.Low 1048576 else some default) >>= fun x6 =>
        J2 (bif (bif x5 then x6 else false) then (decide ((IntKind.i64.wrap (s.High - s.Low)) < 4096)) else false) syntaxReport >>= fun x7 =>
        some x7
      else
        if (s.Verb == 8) = true then
          T4 ((s.Numbers).length : Int) 1 32 >>= fun x8 =>
          J2 x8 syntaxReport >>= fun x9 =>
          Q3 s x9 (-1) 0
        else
          some syntaxReport
theorem U1c {s syntaxReport res} (hh : Z7 s syntaxReport = some res) : S0 C 178 [.ref 0 0, .agg (D0.cells s)] [.row (E0.cells syntaxReport) 135] (Ret [.row (E0.cells res) 135] (.tup [])) := by
  unfold Z7 at hh
  refine S0.intro hC Tryz.func178 rfl rfl rfl (s' rfl rfl (I0.n hC rfl (n' (t' rfl (bk' (t' rfl (ci' rfl hh (fun hh => ?_) (fun hh => ?_))))))))
  · obtain ⟨x1, hx1, hh⟩ := bs' hh
    obtain ⟨x2, hx2, hh⟩ := bs' hh
    cases hh
    exact P' 3 rfl (c' (Q6 hx1) rfl rfl (g' [0] (O4 hx2) rfl rfl rfl rfl rfl rfl (n' (rn' rfl rfl rfl))))
  refine t' rfl (ci' rfl hh (fun hh => ?_) (fun hh => ?_))
  · obtain ⟨x3, hx3, hh⟩ := bs' hh
    obtain ⟨x4, hx4, hh⟩ := bs' hh
    cases hh
    exact P' 3 rfl (c' (Q6 hx3) rfl rfl (g' [0] (O4 hx4) rfl rfl rfl rfl rfl rfl (n' (rn' rfl rfl rfl))))
  refine t' rfl (ci' rfl hh (fun hh => ?_) (fun hh => ?_))
  · obtain ⟨x5, hx5, hh⟩ := bs' hh
    obtain ⟨x6, hx6, hh⟩ := bs' hh
    obtain ⟨x7, hx7, hh⟩ := bs' hh
    cases hh
    refine sg' 11 rfl (G' 2 rfl (AG.c rfl rfl (fun _ => trivial) (fun _ => Q6 hx5) (G' 2 rfl (a1' rfl (a0' rfl (a1' rfl (AG.c rfl rfl (fun hg => ⟨hg, hg, trivial⟩) (fun hw => Q6 (T1 hw hx6)) (pa' rfl (a0' rfl (an' (n' (AEx.regionG 10 rfl (G' 4 rfl ?_)))))))))))))
    exact a1' rfl (a0' rfl (a1' rfl (a2' rfl (a1' rfl (pa' rfl (an' (g' [0] (O4 hx7) rfl rfl rfl rfl rfl rfl (n' (rn' rfl rfl rfl)))))))))
  refine t' rfl (ci' rfl hh (fun hh => ?_) (fun hh => ?_))
  · obtain ⟨x8, hx8, hh⟩ := bs' hh
    obtain ⟨x9, hx9, hh⟩ := bs' hh
    exact p' 3 rfl (qe' rfl trivial (ei64.lenA _) (c' (Q6 hx8) rfl rfl (g' [0] (O4 hx9) rfl rfl rfl rfl rfl rfl (n' (t' rfl (p' 2 rfl (qe' rfl trivial (ei64.lenA _) (e' rfl (bk' (fw' (F18 hh) rfl rfl rfl))))))))))
  cases hh
  exact sk' (rn' rfl rfl rfl)
end Go.Proofs.YtdkabnfphmmmnaaGreatDoor

set_option maxRecDepth 100000
set_option maxHeartbeats 4000000
set_option synthInstance.maxSize 2000
set_option linter.unusedVariables false
namespace Go.Proofs.YtdkabnfphmmmnaaGreatDoor
open Go.Am
mutual
def X3 (l : List D0) (nesting : Int) (syntaxReport : E0) : Option E0 :=
  J4 l nesting syntaxReport 0
  partial_fixpoint
def J4 (l : List D0) (nesting : Int) (o03 : E0) (v14 : Int) : Option E0 :=
  if (decide (v14 < ((l).length : Int))) = true then
    idx l v14 >>= fun x1 =>
    N8 nesting (E0.mk (IntKind.i64.wrap (o03.nodes + 1)) o03.depth o03.badForm o03.badName o03.badNumber) >>= fun x2 =>
    Qg x1.Verb >>= fun x3 =>
    Y0 x3.2 x2 >>= fun x4 =>
    I4 x1.Place x3.1.place x4 >>= fun x5 =>
    if x3.1.place = true then
      Uk x1.Place >>= fun x6 =>
      Y0 x6 x5 >>= fun x7 =>
      X4 l nesting x7 x1 x3 v14
    else
      X4 l nesting x5 x1 x3 v14
  else
    some o03
  partial_fixpoint
def X4 (l : List D0) (nesting : Int) (o0 : E0) (x1 : D0) (x3 : X0 × Bool) (v141 : Int) : Option E0 :=
  I4 x1.Value x3.1.value o0 >>= fun x8 =>
  Y0 (bif x3.1.name then true else (x1.Name == [])) x8 >>= fun x9 =>
  if x3.1.name = true then
    H5 x1.Name x9 >>= fun x10 =>
    Y4 l nesting x10 x1 x3 v141
  else
    Y4 l nesting x9 x1 x3 v141
  partial_fixpoint
def Y4 (l : List D0) (nesting : Int) (o01 : E0) (x1 : D0) (x3 : X0 × Bool) (v142 : Int) : Option E0 :=
  Y0 (bif x3.1.args then true else (((x1.Args).length : Int) == 0)) o01 >>= fun x11 =>
  V5 l nesting x11 x1 x3 v142 0
  partial_fixpoint
def V5 (l : List D0) (nesting : Int) (o02 : E0) (x1 : D0) (x3 : X0 × Bool) (v143 : Int) (v84 : Int) : Option E0 :=
  if (decide (v84 < ((x1.Args).length : Int))) = true then
    idx x1.Args v84 >>= fun x12 =>
    P3 x12 1 o02 >>= fun x13 =>
    V5 l nesting x13 x1 x3 v143 (IntKind.i64.wrap (v84 + 1))
  else
    Y0 (bif x3.1.n then true else (x1.NV == 0)) o02 >>= fun x14 =>
    Y0 (bif x3.1.bounds then true else (bif (x1.Low == 0) then (x1.High == 0) else false)) x14 >>= fun x15 =>
    Y0 (bif x3.1.numbers then true else (((x1.Numbers).length : Int) == 0)) x15 >>= fun x16 =>
    Y0 (bif x3.1.thenV then true else (((x1.Then).length : Int) == 0)) x16 >>= fun x17 =>
    Y0 (bif x3.1.other then true else (((x1.Else).length : Int) == 0)) x17 >>= fun x18 =>
    Z7 x1 x18 >>= fun x19 =>
    X3 x1.Then (IntKind.i64.wrap (nesting + 1)) x19 >>= fun x20 =>
    X3 x1.Else (IntKind.i64.wrap (nesting + 1)) x20 >>= fun x21 =>
    J4 l nesting x21 (IntKind.i64.wrap (v143 + 1))
  partial_fixpoint
end
abbrev A11 (l : List D0) (nesting : Int) (syntaxReport : E0) (res : E0) : Prop := S0 C 109 [.ref 0 0, .d (.sl (D0.rows l)), .d (.int .i64 nesting)] [.row (E0.cells syntaxReport) 135] (Ret [.row (E0.cells res) 135] (.tup []))
abbrev Fw (l : List D0) (nesting : Int) (o03 : E0) (v14 : Int) (res : E0) : Prop := LM C 161 1 Tryz.f109 [1, 4] [(0, .ref 0 0), (2, .d (.int .i64 nesting)), (12, .d (.sl (D0.rows l))), (13, .d (.int .i64 ((l).length : Int))), (14, .d (.int .i64 v14))] [.row (E0.cells o03) 135] (Ret [.row (E0.cells res) 135] (.tup []))
abbrev Gw (l : List D0) (nesting : Int) (o0 : E0) (x1 : D0) (x3 : X0 × Bool) (v141 : Int) (res : E0) : Prop := JM C 161 1 Tryz.f109 [1, 4, 5, 1, 1, 0, 4, 1, 1, 1, 1, 1, 1, 1] [(0, .ref 0 0), (2, .d (.int .i64 nesting)), (7, .ref 1 0), (8, .ref 2 0), (12, .d (.sl (D0.rows l))), (13, .d (.int .i64 ((l).length : Int))), (14, .d (.int .i64 v141))] [.row (E0.cells o0) 135, .row (D0.cells x1) 53, .row (X0.cells x3.1) 206] (Ret [.row (E0.cells res) 135] (.tup []))
abbrev Hw (l : List D0) (nesting : Int) (o01 : E0) (x1 : D0) (x3 : X0 × Bool) (v142 : Int) (res : E0) : Prop := JM C 161 1 Tryz.f109 [1, 4, 5, 1, 1, 0, 4, 1, 1, 1, 1, 1, 1, 1, 1, 1, 1] [(0, .ref 0 0), (2, .d (.int .i64 nesting)), (7, .ref 1 0), (8, .ref 2 0), (12, .d (.sl (D0.rows l))), (13, .d (.int .i64 ((l).length : Int))), (14, .d (.int .i64 v142))] [.row (E0.cells o01) 135, .row (D0.cells x1) 53, .row (X0.cells x3.1) 206] (Ret [.row (E0.cells res) 135] (.tup []))
abbrev Iw (l : List D0) (nesting : Int) (o02 : E0) (x1 : D0) (x3 : X0 × Bool) (v143 : Int) (v84 : Int) (res : E0) : Prop := LM C 161 1 Tryz.f109 [1, 4, 5, 1, 1, 0, 4, 1, 1, 1, 1, 1, 1, 1, 1, 1, 1, 1, 0, 1, 4] [(0, .ref 0 0), (2, .d (.int .i64 nesting)), (7, .ref 1 0), (8, .ref 2 0), (12, .d (.sl (D0.rows l))), (13, .d (.int .i64 ((l).length : Int))), (14, .d (.int .i64 v143)), (82, .d (.sl (C0.rows x1.Args))), (83, .d (.int .i64 ((x1.Args).length : Int))), (84, .d (.int .i64 v84))] [.row (E0.cells o02) 135, .row (D0.cells x1) 53, .row (X0.cells x3.1) 206] (Ret [.row (E0.cells res) 135] (.tup []))
theorem Ie : (∀ l nesting syntaxReport res, X3 l nesting syntaxReport = some res → A11 l nesting syntaxReport res) ∧ (∀ l nesting o03 v14 res, J4 l nesting o03 v14 = some res → Fw l nesting o03 v14 res) ∧ (∀ l nesting o0 x1 x3 v141 res, X4 l nesting o0 x1 x3 v141 = some res → Gw l nesting o0 x1 x3 v141 res) ∧ (∀ l nesting o01 x1 x3 v142 res, Y4 l nesting o01 x1 x3 v142 = some res → Hw l nesting o01 x1 x3 v142 res) ∧ (∀ l nesting o02 x1 x3 v143 v84 res, V5 l nesting o02 x1 x3 v143 v84 = some res → Iw l nesting o02 x1 x3 v143 v84 res) := by
  refine X3.mutual_partial_correctness _ _ _ _ _ ?_ ?_ ?_ ?_ ?_
  · intro g1 ih1 l nesting syntaxReport res hh
    exact S0.intro hC Tryz.func109 rfl rfl rfl (p' 1 rfl (qe' rfl trivial (D0.lenA _) (e' rfl (bk' (fw' (ih1 _ _ _ _ _ hh) rfl rfl rfl)))))
  · intro g2 ih2 l nesting o03 v14 res hh
    refine Z0.unroll (t' rfl (S' (ci' rfl hh (fun hh => ?_) (fun hh => ?_))))
    · obtain ⟨x1, hx1, hh⟩ := bs' hh
      obtain ⟨x2, hx2, hh⟩ := bs' hh
      obtain ⟨x3, hx3, hh⟩ := bs' hh
      obtain ⟨x4, hx4, hh⟩ := bs' hh
      obtain ⟨x5, hx5, hh⟩ := bs' hh
      refine sk' (S' (bk' (s' rfl rfl (i' rfl (W0 hx1) (D0.idx hx1) rfl (q' rfl (I0.nf hC rfl (I0.s hC rfl (n' (p' 7 rfl (I0.s hC rfl (n' (p' 2 rfl (g' [0] (Nr hx2) rfl rfl rfl rfl rfl rfl ?_)))))))))))))
      refine n' (p' 2 rfl (c' (X1l hx3) rfl rfl (o' 3 rfl (I0.n hC rfl (I0.s hC rfl (e' rfl (p' 2 rfl (g' [0] (G1 hx4) rfl rfl rfl rfl rfl rfl (n' (p' 5 rfl (g' [0] (Rm hx5) rfl rfl rfl rfl rfl rfl (n' (S' ?_)))))))))))))
      refine t' rfl (ci' rfl hh (fun hh => ?_) (fun hh => ?_))
      · obtain ⟨x6, hx6, hh⟩ := bs' hh
        obtain ⟨x7, hx7, hh⟩ := bs' hh
        exact P' 3 rfl (c' (N1f hx6) rfl rfl (g' [0] (G1 hx7) rfl rfl rfl rfl rfl rfl (n' (ew' (ih2 _ _ _ _ _ _ _ hh) rfl rfl rfl))))
      exact sk' (ew' (ih2 _ _ _ _ _ _ _ hh) rfl rfl rfl)
    cases hh
    exact ex' (rn' rfl rfl rfl)
  · intro g3 ih3 l nesting o0 x1 x3 v141 res hh
    obtain ⟨x8, hx8, hh⟩ := bs' hh
    obtain ⟨x9, hx9, hh⟩ := bs' hh
    refine p' 5 rfl (g' [0] (Rm hx8) rfl rfl rfl rfl rfl rfl (n' (sg' 8 rfl (G' 5 rfl (a1' rfl (a1' rfl (po' rfl (an' (g' [0] (G1 hx9) rfl rfl rfl rfl rfl rfl (n' (S' (t' rfl (ci' rfl hh (fun hh => ?_) (fun hh => ?_))))))))))))))
    · obtain ⟨x10, hx10, hh⟩ := bs' hh
      exact P' 3 rfl (g' [0] (Ah hx10) rfl rfl rfl rfl rfl rfl (n' (ew' (ih3 _ _ _ _ _ _ _ hh) rfl rfl rfl)))
    exact sk' (ew' (ih3 _ _ _ _ _ _ _ hh) rfl rfl rfl)
  · intro g4 ih4 l nesting o01 x1 x3 v142 res hh
    obtain ⟨x11, hx11, hh⟩ := bs' hh
    exact sg' 9 rfl (G' 5 rfl (a1' rfl (AG.qe hC rfl (fun hg => ⟨⟨hg, trivial⟩, trivial⟩) (C0.lenA _) (a1' rfl (po' rfl (an' (g' [0] (G1 hx11) rfl rfl rfl rfl rfl rfl (n' (S' (p' 2 rfl (qe' rfl trivial (C0.lenA _) (e' rfl (bk' (fw' (ih4 _ _ _ _ _ _ _ _ hh) rfl rfl rfl))))))))))))))
  · intro g0 g1 g4 ih0 ih1 ih4 l nesting o02 x1 x3 v143 v84 res hh
    refine Z0.unroll (t' rfl (S' (ci' rfl hh (fun hh => ?_) (fun hh => ?_))))
    · obtain ⟨x12, hx12, hh⟩ := bs' hh
      obtain ⟨x13, hx13, hh⟩ := bs' hh
      exact sk' (S' (bk' (s' rfl rfl (i' rfl (W0 hx12) (C0.idx hx12) rfl (q' rfl (I0.nf hC rfl (I0.s hC rfl (n' (P' 2 rfl (g' [0] (Tr hx13) rfl rfl rfl rfl rfl rfl (n' (T' rfl (lw' (ih4 _ _ _ _ _ _ _ _ hh) rfl rfl rfl)))))))))))))
    obtain ⟨x14, hx14, hh⟩ := bs' hh
    obtain ⟨x15, hx15, hh⟩ := bs' hh
    obtain ⟨x16, hx16, hh⟩ := bs' hh
    obtain ⟨x17, hx17, hh⟩ := bs' hh
    obtain ⟨x18, hx18, hh⟩ := bs' hh
    obtain ⟨x19, hx19, hh⟩ := bs' hh
    obtain ⟨x20, hx20, hh⟩ := bs' hh
    obtain ⟨x21, hx21, hh⟩ := bs' hh
    refine ex' (sg' 8 rfl (G' 5 rfl (a1' rfl (a1' rfl (po' rfl (an' (g' [0] (G1 hx14) rfl rfl rfl rfl rfl rfl (n' (sg' 13 rfl (G' 5 rfl (a1' rfl (a1' rfl (a1' rfl ?_)))))))))))))
    refine a0' rfl (a1' rfl (a1' rfl (pA' rfl (po' rfl (an' (g' [0] (G1 hx15) rfl rfl rfl rfl rfl rfl (n' (sg' 9 rfl (G' 5 rfl (a1' rfl (AG.qe hC rfl (fun hg => ⟨⟨hg, trivial⟩, trivial⟩) (ei64.lenA _) (a1' rfl (po' rfl ?_)))))))))))))
    refine an' (g' [0] (G1 hx16) rfl rfl rfl rfl rfl rfl (n' (sg' 9 rfl (G' 5 rfl (a1' rfl (AG.qe hC rfl (fun hg => ⟨⟨hg, trivial⟩, trivial⟩) (D0.lenA _) (a1' rfl (po' rfl (an' (g' [0] (G1 hx17) rfl rfl rfl rfl rfl rfl (n' (sg' 9 rfl (G' 5 rfl ?_)))))))))))))
    refine a1' rfl (AG.qe hC rfl (fun hg => ⟨⟨hg, trivial⟩, trivial⟩) (D0.lenA _) (a1' rfl (po' rfl (an' (g' [0] (G1 hx18) rfl rfl rfl rfl rfl rfl (n' (p' 2 rfl (g' [0] (U1c hx19) rfl rfl rfl rfl rfl rfl (n' (p' 5 rfl (g' [0] (ih0 _ _ _ _ hx20) rfl rfl rfl rfl rfl rfl (n' (P' 5 rfl ?_)))))))))))))
    exact g' [0] (ih0 _ _ _ _ hx21) rfl rfl rfl rfl rfl rfl (n' (T' rfl (lw' (ih1 _ _ _ _ _ hh) rfl rfl rfl)))
theorem Gz {l nesting syntaxReport res} (hh : X3 l nesting syntaxReport = some res) : A11 l nesting syntaxReport res := (Ie).1 _ _ _ _ hh
theorem G20 {l nesting o03 v14 res} (hh : J4 l nesting o03 v14 = some res) : Fw l nesting o03 v14 res := (Ie).2.1 _ _ _ _ _ hh
theorem H20 {l nesting o0 x1 x3 v141 res} (hh : X4 l nesting o0 x1 x3 v141 = some res) : Gw l nesting o0 x1 x3 v141 res := (Ie).2.2.1 _ _ _ _ _ _ _ hh
theorem I20 {l nesting o01 x1 x3 v142 res} (hh : Y4 l nesting o01 x1 x3 v142 = some res) : Hw l nesting o01 x1 x3 v142 res := (Ie).2.2.2.1 _ _ _ _ _ _ _ hh
theorem J20 {l nesting o02 x1 x3 v143 v84 res} (hh : V5 l nesting o02 x1 x3 v143 v84 = some res) : Iw l nesting o02 x1 x3 v143 v84 res := (Ie).2.2.2.2 _ _ _ _ _ _ _ _ hh
mutual
def M5 (l : List B0) (syntaxReport : E0) : Option E0 :=
  Z4 l syntaxReport 0
  partial_fixpoint
def Z4 (l : List B0) (o03 : E0) (v15 : Int) : Option E0 :=
  if (decide (v15 < ((l).length : Int))) = true then
    idx l v15 >>= fun x1 =>
    Pl x1.Kind >>= fun x2 =>
    Y0 x2.1 (E0.mk (IntKind.i64.wrap (o03.nodes + 1)) o03.depth o03.badForm o03.badName o03.badNumber) >>= fun x3 =>
    (if (!x2.1) = true then O7 x1.TypeV (A0.mk 0 0 0 0 [] [] []) else some default) >>= fun x4 =>
    if (bif x2.1 then true else (!x4)) = true then
      F5 x1.TypeV 1 x3 >>= fun x5 =>
      W5 l x5 x1 x2 v15
    else
      W5 l x3 x1 x2 v15
  else
    some o03
  partial_fixpoint
def W5 (l : List B0) (o0 : E0) (x1 : B0) (x2 : Bool × Bool) (v151 : Int) : Option E0 :=
  H5 x1.Name o0 >>= fun x6 =>
  I4 x1.Value x2.2 x6 >>= fun x7 =>
  Y0 (bif (x1.Kind == 4) then true else (x1.Init == 0)) x7 >>= fun x8 =>
  T4 x1.Init (-1048576) 1048576 >>= fun x9 =>
  (if (x9 && (!(x1.TypeV.Kind != 0))) = true then T4 x1.Init 0 1 else some default) >>= fun x10 =>
  J2 (bif x9 then (bif (x1.TypeV.Kind != 0) then true else x10) else false) x8 >>= fun x11 =>
  Y0 (bif (x1.Kind == 6) then true else (bif (bif (((x1.Params).length : Int) == 0) then (((x1.Vars).length : Int) == 0) else false) then (((x1.Body).length : Int) == 0) else false)) x11 >>= fun x12 =>
  A5 l x12 x1 v151 0
  partial_fixpoint
def A5 (l : List B0) (o01 : E0) (x1 : B0) (v152 : Int) (v109 : Int) : Option E0 :=
  if (decide (v109 < ((x1.Params).length : Int))) = true then
    idx x1.Params v109 >>= fun x13 =>
    Y0 (bif (x13.Kind == 4) then (x13.Init == 0) else false) o01 >>= fun x14 =>
    A5 l x14 x1 v152 (IntKind.i64.wrap (v109 + 1))
  else
    X5 l o01 x1 v152 0
  partial_fixpoint
def X5 (l : List B0) (o02 : E0) (x1 : B0) (v153 : Int) (v127 : Int) : Option E0 :=
  if (decide (v127 < ((x1.Vars).length : Int))) = true then
    idx x1.Vars v127 >>= fun x15 =>
    Y0 (x15.Kind == 4) o02 >>= fun x16 =>
    X5 l x16 x1 v153 (IntKind.i64.wrap (v127 + 1))
  else
    M5 x1.Params o02 >>= fun x17 =>
    M5 x1.Vars x17 >>= fun x18 =>
    X3 x1.Body 1 x18 >>= fun x19 =>
    Z4 l x19 (IntKind.i64.wrap (v153 + 1))
  partial_fixpoint
end
abbrev B11 (l : List B0) (syntaxReport : E0) (res : E0) : Prop := S0 C 108 [.ref 0 0, .d (.sl (B0.rows l))] [.row (E0.cells syntaxReport) 135] (Ret [.row (E0.cells res) 135] (.tup []))
abbrev Jw (l : List B0) (o03 : E0) (v15 : Int) (res : E0) : Prop := LM C 150 1 Tryz.f108 [1, 4] [(0, .ref 0 0), (13, .d (.sl (B0.rows l))), (14, .d (.int .i64 ((l).length : Int))), (15, .d (.int .i64 v15))] [.row (E0.cells o03) 135] (Ret [.row (E0.cells res) 135] (.tup []))
abbrev Kw (l : List B0) (o0 : E0) (x1 : B0) (x2 : Bool × Bool) (v151 : Int) (res : E0) : Prop := JM C 150 1 Tryz.f108 [1, 4, 5, 1, 1, 0, 4, 1, 1, 1, 1, 1] [(0, .ref 0 0), (5, .ref 1 0), (7, .d (.bool x2.2)), (13, .d (.sl (B0.rows l))), (14, .d (.int .i64 ((l).length : Int))), (15, .d (.int .i64 v151))] [.row (E0.cells o0) 135, .row (B0.cells x1) 59] (Ret [.row (E0.cells res) 135] (.tup []))
abbrev Lw (l : List B0) (o01 : E0) (x1 : B0) (v152 : Int) (v109 : Int) (res : E0) : Prop := LM C 150 1 Tryz.f108 [1, 4, 5, 1, 1, 0, 4, 1, 1, 1, 1, 1, 1, 1, 1, 1, 1, 1, 0, 1, 4] [(0, .ref 0 0), (5, .ref 1 0), (13, .d (.sl (B0.rows l))), (14, .d (.int .i64 ((l).length : Int))), (15, .d (.int .i64 v152)), (107, .d (.sl (B0.rows x1.Params))), (108, .d (.int .i64 ((x1.Params).length : Int))), (109, .d (.int .i64 v109))] [.row (E0.cells o01) 135, .row (B0.cells x1) 59] (Ret [.row (E0.cells res) 135] (.tup []))
abbrev Mw (l : List B0) (o02 : E0) (x1 : B0) (v153 : Int) (v127 : Int) (res : E0) : Prop := LM C 150 1 Tryz.f108 [1, 4, 5, 1, 1, 0, 4, 1, 1, 1, 1, 1, 1, 1, 1, 1, 1, 1, 1, 0, 1, 4] [(0, .ref 0 0), (5, .ref 1 0), (13, .d (.sl (B0.rows l))), (14, .d (.int .i64 ((l).length : Int))), (15, .d (.int .i64 v153)), (125, .d (.sl (B0.rows x1.Vars))), (126, .d (.int .i64 ((x1.Vars).length : Int))), (127, .d (.int .i64 v127))] [.row (E0.cells o02) 135, .row (B0.cells x1) 59] (Ret [.row (E0.cells res) 135] (.tup []))
theorem Je : (∀ l syntaxReport res, M5 l syntaxReport = some res → B11 l syntaxReport res) ∧ (∀ l o03 v15 res, Z4 l o03 v15 = some res → Jw l o03 v15 res) ∧ (∀ l o0 x1 x2 v151 res, W5 l o0 x1 x2 v151 = some res → Kw l o0 x1 x2 v151 res) ∧ (∀ l o01 x1 v152 v109 res, A5 l o01 x1 v152 v109 = some res → Lw l o01 x1 v152 v109 res) ∧ (∀ l o02 x1 v153 v127 res, X5 l o02 x1 v153 v127 = some res → Mw l o02 x1 v153 v127 res) := by
  refine M5.mutual_partial_correctness _ _ _ _ _ ?_ ?_ ?_ ?_ ?_
  · intro g1 ih1 l syntaxReport res hh
    exact S0.intro hC Tryz.func108 rfl rfl rfl (p' 1 rfl (qe' rfl trivial (B0.lenA _) (e' rfl (bk' (fw' (ih1 _ _ _ _ hh) rfl rfl rfl)))))
  · intro g2 ih2 l o03 v15 res hh
    refine Z0.unroll (t' rfl (S' (ci' rfl hh (fun hh => ?_) (fun hh => ?_))))
    · obtain ⟨x1, hx1, hh⟩ := bs' hh
      obtain ⟨x2, hx2, hh⟩ := bs' hh
      obtain ⟨x3, hx3, hh⟩ := bs' hh
      obtain ⟨x4, hx4, hh⟩ := bs' hh
      refine sk' (S' (bk' (s' rfl rfl (i' rfl (W0 hx1) (B0.idx hx1) rfl (q' rfl (I0.nf hC rfl (I0.s hC rfl (n' (p' 7 rfl (I0.s hC rfl (n' (p' 2 rfl (c' (I1n hx2) rfl rfl ?_)))))))))))))
      refine e' rfl (p' 2 rfl (g' [0] (G1 hx3) rfl rfl rfl rfl rfl rfl (n' (S' (sg' 8 rfl (G' 3 rfl (a1' rfl (a0' rfl (AG.c rfl rfl (fun hg => ⟨hg, hg, trivial⟩) (fun hw => T1l (T1 hw hx4)) (a1' rfl (po' rfl (an' (n' (ci' rfl hh (fun hh => ?_) (fun hh => ?_)))))))))))))))
      · obtain ⟨x5, hx5, hh⟩ := bs' hh
        exact P' 3 rfl (g' [0] (X11 hx5) rfl rfl rfl rfl rfl rfl (n' (ew' (ih2 _ _ _ _ _ _ hh) rfl rfl rfl)))
      exact sk' (ew' (ih2 _ _ _ _ _ _ hh) rfl rfl rfl)
    cases hh
    exact ex' (rn' rfl rfl rfl)
  · intro g3 ih3 l o0 x1 x2 v151 res hh
    obtain ⟨x6, hx6, hh⟩ := bs' hh
    obtain ⟨x7, hx7, hh⟩ := bs' hh
    obtain ⟨x8, hx8, hh⟩ := bs' hh
    obtain ⟨x9, hx9, hh⟩ := bs' hh
    obtain ⟨x10, hx10, hh⟩ := bs' hh
    obtain ⟨x11, hx11, hh⟩ := bs' hh
    obtain ⟨x12, hx12, hh⟩ := bs' hh
    refine p' 3 rfl (g' [0] (Ah hx6) rfl rfl rfl rfl rfl rfl (n' (p' 4 rfl (g' [0] (Rm hx7) rfl rfl rfl rfl rfl rfl (n' (sg' 9 rfl (G' 6 rfl (a1' rfl (a1' rfl (po' rfl (an' (g' [0] (G1 hx8) rfl rfl rfl rfl rfl rfl (n' ?_)))))))))))))
    refine sg' 15 rfl (G' 3 rfl (AG.c rfl rfl (fun _ => trivial) (fun _ => Q6 hx9) (G' 2 rfl (a1' rfl (a1' rfl (a1' rfl (a1' rfl (a0' rfl (a1' rfl (AG.c rfl rfl (fun hg => ⟨hg, trivial⟩) (fun hw => Q6 (T1 hw hx10)) (pO' rfl (pa' rfl (an' ?_)))))))))))))
    refine g' [0] (O4 hx11) rfl rfl rfl rfl rfl rfl (n' (t' rfl (sg' 20 rfl (G' 4 rfl (a1' rfl (AG.qe hC rfl (fun hg => ⟨⟨hg, trivial⟩, trivial⟩) (B0.lenA _) (a1' rfl (a1' rfl (a0' rfl (a1' rfl (AG.qe hC rfl (fun hg => ⟨⟨hg, trivial⟩, trivial⟩) (B0.lenA _) (a1' rfl (pA' rfl ?_)))))))))))))
    refine a1' rfl (a0' rfl (a1' rfl (AG.qe hC rfl (fun hg => ⟨⟨hg, trivial⟩, trivial⟩) (D0.lenA _) (a1' rfl (pA' rfl (po' rfl (an' (g' [0] (G1 hx12) rfl rfl rfl rfl rfl rfl (n' (S' (p' 2 rfl (qe' rfl trivial (B0.lenA _) (e' rfl ?_)))))))))))))
    exact bk' (fw' (ih3 _ _ _ _ _ _ hh) rfl rfl rfl)
  · intro g3 g4 ih3 ih4 l o01 x1 v152 v109 res hh
    refine Z0.unroll (t' rfl (S' (ci' rfl hh (fun hh => ?_) (fun hh => ?_))))
    · obtain ⟨x13, hx13, hh⟩ := bs' hh
      obtain ⟨x14, hx14, hh⟩ := bs' hh
      refine sk' (S' (bk' (s' rfl rfl (i' rfl (W0 hx13) (B0.idx hx13) rfl (q' rfl (I0.nf hC rfl (I0.s hC rfl (n' (AEx.regionG 9 rfl (G' 6 rfl (a1' rfl (a1' rfl (pa' rfl ?_)))))))))))))
      exact an' (g' [0] (G1 hx14) rfl rfl rfl rfl rfl rfl (n' (T' rfl (lw' (ih3 _ _ _ _ _ _ hh) rfl rfl rfl))))
    exact ex' (S' (p' 2 rfl (qe' rfl trivial (B0.lenA _) (e' rfl (bk' (fw' (ih4 _ _ _ _ _ _ hh) rfl rfl rfl))))))
  · intro g0 g1 g4 ih0 ih1 ih4 l o02 x1 v153 v127 res hh
    refine Z0.unroll (t' rfl (S' (ci' rfl hh (fun hh => ?_) (fun hh => ?_))))
    · obtain ⟨x15, hx15, hh⟩ := bs' hh
      obtain ⟨x16, hx16, hh⟩ := bs' hh
      exact sk' (S' (bk' (s' rfl rfl (i' rfl (W0 hx15) (B0.idx hx15) rfl (q' rfl (I0.nf hC rfl (I0.s hC rfl (n' (P' 4 rfl (g' [0] (G1 hx16) rfl rfl rfl rfl rfl rfl (n' (T' rfl (lw' (ih4 _ _ _ _ _ _ hh) rfl rfl rfl)))))))))))))
    obtain ⟨x17, hx17, hh⟩ := bs' hh
    obtain ⟨x18, hx18, hh⟩ := bs' hh
    obtain ⟨x19, hx19, hh⟩ := bs' hh
    exact ex' (p' 3 rfl (g' [0] (ih0 _ _ _ hx17) rfl rfl rfl rfl rfl rfl (n' (p' 3 rfl (g' [0] (ih0 _ _ _ hx18) rfl rfl rfl rfl rfl rfl (n' (P' 3 rfl (g' [0] (Gz hx19) rfl rfl rfl rfl rfl rfl (n' (T' rfl (lw' (ih1 _ _ _ _ hh) rfl rfl rfl)))))))))))
theorem O1g {l syntaxReport res} (hh : M5 l syntaxReport = some res) : B11 l syntaxReport res := (Je).1 _ _ _ hh
theorem K20 {l o03 v15 res} (hh : Z4 l o03 v15 = some res) : Jw l o03 v15 res := (Je).2.1 _ _ _ _ hh
theorem L20 {l o0 x1 x2 v151 res} (hh : W5 l o0 x1 x2 v151 = some res) : Kw l o0 x1 x2 v151 res := (Je).2.2.1 _ _ _ _ _ _ hh
theorem M20 {l o01 x1 v152 v109 res} (hh : A5 l o01 x1 v152 v109 = some res) : Lw l o01 x1 v152 v109 res := (Je).2.2.2.1 _ _ _ _ _ _ hh
theorem N20 {l o02 x1 v153 v127 res} (hh : X5 l o02 x1 v153 v127 = some res) : Mw l o02 x1 v153 v127 res := (Je).2.2.2.2 _ _ _ _ _ _ hh
def Uj (p : K0) : Option E0 :=
  M5 p.Decls (E0.mk 0 0 false false false) >>= fun x1 =>
  X3 p.Body 1 x1 >>= fun x2 =>
  some x2
theorem Z1p {p res} (hh : Uj p = some res) : S0 C 53 [.agg (K0.cells p)] [] (Ret [.dead, .row (E0.cells res) 135] (.ref 1 0)) := by
  unfold Uj at hh
  obtain ⟨x1, hx1, hh⟩ := bs' hh
  obtain ⟨x2, hx2, hh⟩ := bs' hh
  refine S0.intro hC Tryz.func53 rfl rfl rfl (s' rfl rfl (I0.n hC rfl (e' rfl (p' 1 rfl (I0.n hC rfl (e' rfl (p' 3 rfl (g' [1] (O1g hx1) rfl rfl rfl rfl rfl rfl (n' (p' 3 rfl (g' [1] (Gz hx2) rfl rfl rfl rfl rfl rfl (n' (t' rfl ?_)))))))))))))
  refine re' ?_
  obtain rfl := oi' hh
  exact ⟨_, _, [.dead, .row (E0.cells x2) 135], rfl, .rfl, ⟨trivial, ⟨⟨rfl, .refl _, rfl⟩, trivial⟩⟩, rfl, rfl, rfl, rfl⟩
def E7 (syntaxReport : E0) : Option Int :=
  if (bif (decide (syntaxReport.nodes > 1024)) then true else (decide (syntaxReport.depth > 12))) = true then
    some 4
  else
    if syntaxReport.badForm = true then
      some 1
    else
      if syntaxReport.badName = true then
        some 7
      else
        if syntaxReport.badNumber = true then
          some 3
        else
          some 0
theorem Ur {syntaxReport res} (hh : E7 syntaxReport = some res) : S0 C 54 [.ref 0 0] [.row (E0.cells syntaxReport) 135] (Ret [.row (E0.cells syntaxReport) 135] (.d (.int .i64 res))) := by
  unfold E7 at hh
  refine S0.intro hC Tryz.func54 rfl rfl rfl (t' rfl (S' (bk' (sg' 13 rfl (G' 7 rfl (a1' rfl (a1' rfl (a1' rfl (a1' rfl (po' rfl (a0' rfl (an' (n' (ci' rfl hh (fun hh => ?_) (fun hh => ?_)))))))))))))))
  · cases hh
    exact t' rfl (re' (rt' rfl rfl rfl))
  refine t' rfl (ci' rfl hh (fun hh => ?_) (fun hh => ?_))
  · cases hh
    exact t' rfl (re' (rt' rfl rfl rfl))
  refine t' rfl (ci' rfl hh (fun hh => ?_) (fun hh => ?_))
  · cases hh
    exact t' rfl (re' (rt' rfl rfl rfl))
  refine t' rfl (ci' rfl hh (fun hh => ?_) (fun hh => ?_))
  · cases hh
    exact t' rfl (re' (rt' rfl rfl rfl))
  cases hh
  exact sk' (t' rfl (re' (rt' rfl rfl rfl)))
def On (p : K0) : Option Int :=
  Uj p >>= fun x1 =>
  E7 x1 >>= fun x2 =>
  some x2
theorem T1u {p res} (hh : On p = some res) : S0 C 28 [.agg (K0.cells p)] [] (Ret [] (.d (.int .i64 res))) := by
  unfold On at hh
  obtain ⟨x1, hx1, hh⟩ := bs' hh
  obtain ⟨x2, hx2, hh⟩ := bs' hh
  cases hh
  exact S0.intro hC Tryz.func28 rfl rfl rfl (s' rfl rfl (I0.n hC rfl (e' rfl (p' 1 rfl (g' [] (Z1p hx1) rfl rfl rfl rfl rfl rfl (g' [2] (Ur hx2) rfl rfl rfl rfl rfl rfl (e' rfl (re' (rt' rfl rfl rfl)))))))))
mutual
def K2 (c : F0) (m0 : List (Str × Bool)) (v18 : Int) : Option Int :=
  if (decide (v18 < ((c.p.Decls).length : Int))) = true then
    idx c.p.Decls v18 >>= fun x1 =>
    some (mgt x1.Name m0) >>= fun x2 =>
    if (x2.getD ebool.zero) = true then
      some v18
    else
      A2 c (mpt x1.Name true m0) [] v18 v18 x1 0
  else
    some (-1)
  partial_fixpoint
def A2 (c : F0) (m01 : List (Str × Bool)) (m21 : List (Str × Bool)) (i : Int) (v181 : Int) (x1 : B0) (v38 : Int) : Option Int :=
  if (decide (v38 < (([x1.Params, x1.Vars]).length : Int))) = true then
    idx [x1.Params, x1.Vars] v38 >>= fun x3 =>
    W2 c m01 m21 i v181 x1 v38 x3 0
  else
    K2 c m01 (IntKind.i64.wrap (v181 + 1))
  partial_fixpoint
def W2 (c : F0) (m02 : List (Str × Bool)) (m2 : List (Str × Bool)) (i1 : Int) (v182 : Int) (x1 : B0) (v381 : Int) (x3 : List B0) (v44 : Int) : Option Int :=
  if (decide (v44 < ((x3).length : Int))) = true then
    idx x3 v44 >>= fun x4 =>
    some (mgt x4.Name c.names) >>= fun x5 =>
    some (mgt x4.Name m2) >>= fun x6 =>
    if (bif (x5.getD ebool.zero) then true else (x6.getD ebool.zero)) = true then
      some i1
    else
      W2 c m02 (mpt x4.Name true m2) i1 v182 x1 v381 x3 (IntKind.i64.wrap (v44 + 1))
  else
    A2 c m02 m2 i1 v182 x1 (IntKind.i64.wrap (v381 + 1))
  partial_fixpoint
end
abbrev Pn (c : F0) (m0 : List (Str × Bool)) (v18 : Int) (res : Int) : Prop := LM C 68 0 Tryz.f29 [1, 1, 0, 1, 4] [(0, .d (.box (F0.row c))), (3, .mp 0), (16, .d (.sl (B0.rows c.p.Decls))), (17, .d (.int .i64 ((c.p.Decls).length : Int))), (18, .d (.int .i64 v18))] [.map (.s (ebool.ents m0))] (Ret [] (.d (.int .i64 res)))
abbrev Qn (c : F0) (m01 : List (Str × Bool)) (m21 : List (Str × Bool)) (i : Int) (v181 : Int) (x1 : B0) (v38 : Int) (res : Int) : Prop := LM C 68 0 Tryz.f29 [1, 1, 0, 1, 4, 5, 1, 1, 0, 4, 1, 1, 1, 1, 1, 4] [(0, .d (.box (F0.row c))), (3, .mp 0), (4, .d (.int .i64 i)), (6, .mp 2), (16, .d (.sl (B0.rows c.p.Decls))), (17, .d (.int .i64 ((c.p.Decls).length : Int))), (18, .d (.int .i64 v181)), (36, .full (esl_ApiDecl.rows [x1.Params, x1.Vars])), (37, .d (.int .i64 (([x1.Params, x1.Vars]).length : Int))), (38, .d (.int .i64 v38))] [.map (.s (ebool.ents m01)), .dead, .map (.s (ebool.ents m21))] (Ret [] (.d (.int .i64 res)))
abbrev Rn (c : F0) (m02 : List (Str × Bool)) (m2 : List (Str × Bool)) (i1 : Int) (v182 : Int) (x1 : B0) (v381 : Int) (x3 : List B0) (v44 : Int) (res : Int) : Prop := LM C 68 0 Tryz.f29 [1, 1, 0, 1, 4, 5, 1, 1, 0, 4, 1, 1, 1, 1, 1, 4, 5, 1, 1, 0, 4, 1, 1, 4] [(0, .d (.box (F0.row c))), (3, .mp 0), (4, .d (.int .i64 i1)), (6, .mp 2), (16, .d (.sl (B0.rows c.p.Decls))), (17, .d (.int .i64 ((c.p.Decls).length : Int))), (18, .d (.int .i64 v182)), (36, .full (esl_ApiDecl.rows [x1.Params, x1.Vars])), (37, .d (.int .i64 (([x1.Params, x1.Vars]).length : Int))), (38, .d (.int .i64 v381)), (42, .d (.sl (B0.rows x3))), (43, .d (.int .i64 ((x3).length : Int))), (44, .d (.int .i64 v44))] [.map (.s (ebool.ents m02)), .dead, .map (.s (ebool.ents m2))] (Ret [] (.d (.int .i64 res)))
theorem Te (c : F0) : (∀ m0 v18 res, K2 c m0 v18 = some res → Pn c m0 v18 res) ∧ (∀ m01 m21 i v181 x1 v38 res, A2 c m01 m21 i v181 x1 v38 = some res → Qn c m01 m21 i v181 x1 v38 res) ∧ (∀ m02 m2 i1 v182 x1 v381 x3 v44 res, W2 c m02 m2 i1 v182 x1 v381 x3 v44 = some res → Rn c m02 m2 i1 v182 x1 v381 x3 v44 res) := by
  refine K2.mutual_partial_correctness c _ _ _ ?_ ?_ ?_
  · intro g1 ih1 m0 v18 res hh
    refine Z0.unroll (t' rfl (S' (ci' rfl hh (fun hh => ?_) (fun hh => ?_))))
    · obtain ⟨x1, hx1, hh⟩ := bs' hh
      obtain ⟨x2, hx2, hh⟩ := bs' hh
      refine sk' (S' (bk' (p' 1 rfl (i' rfl (W0 hx1) (B0.idx hx1) rfl (q' rfl (I0.nf hC rfl (q' rfl (I0.s hC rfl (n' (S' (p' 3 rfl (I0.me hC rfl (ebool.lk hx2) (n' (ci' rfl hh (fun hh => ?_) (fun hh => ?_)))))))))))))))
      · cases hh
        exact t' rfl (re' (rt' rfl rfl rfl))
      refine sk' (p' 3 rfl (I0.ue hC rfl (ebool.mput _ true _) rfl (n' (s' rfl rfl (I0.w rfl (e' rfl (p' 4 rfl (I0.be hC rfl (esl_ApiDecl.rows_map [x1.Params, x1.Vars]).symm (qe' rfl trivial (esl_ApiDecl.lenA _) (e' rfl (bk' ?_)))))))))))
      refine AEx.ofLoop ?_
      refine Z0.wk ?_ (ih1 _ _ _ _ _ _ _ hh)
      exact ⟨⟨⟨.rfl, rfl⟩, ⟨⟨.rfl, rfl⟩, ⟨⟨.rfl, rfl⟩, ⟨⟨.rfl, rfl⟩, ⟨⟨.rfl, rfl⟩, ⟨⟨.rfl, rfl⟩, ⟨⟨.rfl, rfl⟩, ⟨⟨.rfl, rfl⟩, ⟨⟨.rfl, rfl⟩, ⟨⟨.rfl, rfl⟩, trivial⟩⟩⟩⟩⟩⟩⟩⟩⟩⟩, ⟨rfl, ⟨trivial, ⟨rfl, trivial⟩⟩⟩, rfl⟩
    cases hh
    exact ex' (t' rfl (re' (rt' rfl rfl rfl)))
  · intro g0 g2 ih0 ih2 m01 m21 i v181 x1 v38 res hh
    refine Z0.unroll (t' rfl (S' (ci' rfl hh (fun hh => ?_) (fun hh => ?_))))
    · obtain ⟨x3, hx3, hh⟩ := bs' hh
      refine sk' (S' (bk' (s' rfl rfl (i' rfl (W0 hx3) (esl_ApiDecl.idx hx3) rfl (e' rfl (p' 1 rfl (qe' rfl trivial (B0.lenA _) (e' rfl (bk' ?_)))))))))
      refine AEx.ofLoop ?_
      refine Z0.wk ?_ (ih2 _ _ _ _ _ _ _ _ _ hh)
      exact ⟨⟨⟨.rfl, rfl⟩, ⟨⟨.rfl, rfl⟩, ⟨⟨.rfl, rfl⟩, ⟨⟨.rfl, rfl⟩, ⟨⟨.rfl, rfl⟩, ⟨⟨.rfl, rfl⟩, ⟨⟨.rfl, rfl⟩, ⟨⟨.rfl, rfl⟩, ⟨⟨.rfl, rfl⟩, ⟨⟨.rfl, rfl⟩, ⟨⟨.rfl, rfl⟩, ⟨⟨.rfl, rfl⟩, ⟨⟨.rfl, rfl⟩, trivial⟩⟩⟩⟩⟩⟩⟩⟩⟩⟩⟩⟩⟩, ⟨rfl, ⟨trivial, ⟨rfl, trivial⟩⟩⟩, rfl⟩
    exact ex' (T' rfl (lw' (ih0 _ _ _ hh) rfl rfl rfl))
  · intro g1 g2 ih1 ih2 m02 m2 i1 v182 x1 v381 x3 v44 res hh
    refine Z0.unroll (t' rfl (S' (ci' rfl hh (fun hh => ?_) (fun hh => ?_))))
    · obtain ⟨x4, hx4, hh⟩ := bs' hh
      obtain ⟨x5, hx5, hh⟩ := bs' hh
      obtain ⟨x6, hx6, hh⟩ := bs' hh
      refine sk' (S' (bk' (s' rfl rfl (i' rfl (W0 hx4) (B0.idx hx4) rfl (q' rfl (I0.nf hC rfl (I0.s hC rfl (n' (S' (S' (AEx.drawG hC 13 rfl rfl rfl (G' 6 rfl (AG.fl hC rfl rfl (fun _ => trivial) (fun _ => rfl) (ebool.lk hx5) ?_)))))))))))))
      refine G' 3 rfl (a1' rfl (AG.me hC rfl rfl (fun hg => ⟨hg, hg, trivial⟩) (ebool.lk hx6) (po' rfl (an' (n' (ci' rfl hh (fun hh => ?_) (fun hh => ?_)))))))
      · cases hh
        exact t' rfl (re' (rt' rfl rfl rfl))
      refine sk' (P' 3 rfl (I0.ue hC rfl (ebool.mput _ true _) rfl (n' (T' rfl ?_))))
      refine Z0.wk ?_ (ih2 _ _ _ _ _ _ _ _ _ hh)
      exact ⟨⟨⟨.rfl, rfl⟩, ⟨⟨.rfl, rfl⟩, ⟨⟨.rfl, rfl⟩, ⟨⟨.rfl, rfl⟩, ⟨⟨.rfl, rfl⟩, ⟨⟨.rfl, rfl⟩, ⟨⟨.rfl, rfl⟩, ⟨⟨.rfl, rfl⟩, ⟨⟨.rfl, rfl⟩, ⟨⟨.rfl, rfl⟩, ⟨⟨.rfl, rfl⟩, ⟨⟨.rfl, rfl⟩, ⟨⟨.rfl, rfl⟩, trivial⟩⟩⟩⟩⟩⟩⟩⟩⟩⟩⟩⟩⟩, ⟨rfl, ⟨trivial, ⟨rfl, trivial⟩⟩⟩, rfl⟩
    refine ex' (T' rfl ?_)
    refine Z0.wk ?_ (ih1 _ _ _ _ _ _ _ hh)
    exact ⟨⟨⟨.rfl, rfl⟩, ⟨⟨.rfl, rfl⟩, ⟨⟨.rfl, rfl⟩, ⟨⟨.rfl, rfl⟩, ⟨⟨.rfl, rfl⟩, ⟨⟨.rfl, rfl⟩, ⟨⟨.rfl, rfl⟩, ⟨⟨.rfl, rfl⟩, ⟨⟨.rfl, rfl⟩, ⟨⟨.rfl, rfl⟩, trivial⟩⟩⟩⟩⟩⟩⟩⟩⟩⟩, ⟨rfl, ⟨trivial, ⟨rfl, trivial⟩⟩⟩, rfl⟩
theorem Hz {c m0 v18 res} (hh : K2 c m0 v18 = some res) : Pn c m0 v18 res := (Te c).1 _ _ _ hh
theorem E1r {c m01 m21 i v181 x1 v38 res} (hh : A2 c m01 m21 i v181 x1 v38 = some res) : Qn c m01 m21 i v181 x1 v38 res := (Te c).2.1 _ _ _ _ _ _ _ hh
theorem F1r {c m02 m2 i1 v182 x1 v381 x3 v44 res} (hh : W2 c m02 m2 i1 v182 x1 v381 x3 v44 = some res) : Rn c m02 m2 i1 v182 x1 v381 x3 v44 res := (Te c).2.2 _ _ _ _ _ _ _ _ _ hh
def A8 (c : F0) : Option Int :=
  K2 c [] 0
theorem Z11 {c res} (hh : A8 c = some res) : S0 C 29 [.d (.box (F0.row c))] [] (Ret [] (.d (.int .i64 res))) := by
  unfold A8 at hh
  exact S0.intro hC Tryz.func29 rfl rfl rfl (t' rfl (s' rfl rfl (I0.w rfl (e' rfl (S' (p' 5 rfl (qe' rfl trivial (B0.lenA _) (e' rfl (bk' (fw' (Hz hh) rfl rfl rfl))))))))))
def Tc (t : A0) : Option Int :=
  F5 t 1 (E0.mk 0 0 false false false) >>= fun x1 =>
  E7 x1 >>= fun x2 =>
  some x2
theorem E15 {t res} (hh : Tc t = some res) : S0 C 185 [.agg (A0.cells t)] [] (Ret [] (.d (.int .i64 res))) := by
  unfold Tc at hh
  obtain ⟨x1, hx1, hh⟩ := bs' hh
  obtain ⟨x2, hx2, hh⟩ := bs' hh
  cases hh
  exact S0.intro hC Tryz.func185 rfl rfl rfl (s' rfl rfl (I0.n hC rfl (e' rfl (p' 1 rfl (I0.n hC rfl (e' rfl (p' 2 rfl (g' [1] (X11 hx1) rfl rfl rfl rfl rfl rfl (n' (p' 1 rfl (g' [1] (Ur hx2) rfl rfl rfl rfl rfl rfl (e' rfl (re' (rt' rfl rfl rfl))))))))))))))
mutual
def Q5 (t : A0) (m : List (Str × A0)) : Option (A0 × Bool) :=
  if (t.Kind == 4) = true then
    some (mgt t.Name m) >>= fun x1 =>
    if (!x1.isSome) = true then
      some ((A0.mk 0 0 0 0 [] [] []), false)
    else
      B8 m (x1.getD A0.zero)
  else
    B8 m t
  partial_fixpoint
def B8 (m : List (Str × A0)) (o1 : A0) : Option (A0 × Bool) :=
  Gb o1.Names >>= fun x2 =>
  G5 m o1 x2 [] 0
  partial_fixpoint
def G5 (m : List (Str × A0)) (o1 : A0) (x2 : List Str) (o3_Of : List A0) (v36 : Int) : Option (A0 × Bool) :=
  if (decide (v36 < ((o1.Of).length : Int))) = true then
    idx o1.Of v36 >>= fun x3 =>
    Q5 x3 m >>= fun x4 =>
    if (!x4.2) = true then
      some ((A0.mk 0 0 0 0 [] [] []), false)
    else
      if (decide ((o3_Of.length + 1) * 97 ≤ 140737488355328)) = true then
        G5 m o1 x2 (o3_Of ++ [x4.1]) (IntKind.i64.wrap (v36 + 1))
      else none
  else
    some ((A0.mk o1.Kind o1.Low o1.High o1.Size o1.Name x2 o3_Of), true)
  partial_fixpoint
end
abbrev V1c (t : A0) (m : List (Str × A0)) (res : A0 × Bool) : Prop := S0 C 211 [.mp 0, .agg (A0.cells t)] [.map (.s (A0.ents m))] (Ret [.map (.s (A0.ents m))] (.tup [.agg (A0.cells res.1), .d (.bool res.2)]))
abbrev F15 (m : List (Str × A0)) (o1 : A0) (res : A0 × Bool) : Prop := JM C 57 1 Tryz.f211 [1, 1] [(0, .mp 0), (3, .ref 1 0), (4, .ref 2 0)] [.map (.s (A0.ents m)), .row (A0.cells o1) 40, .row [.d (.int .i64 0), .d (.int .i64 0), .d (.int .i64 0), .d (.int .i64 0), .d (.str []), .full (estr.rows []), .full (A0.rows [])] 40] (Ret [.map (.s (A0.ents m))] (.tup [.agg (A0.cells res.1), .d (.bool res.2)]))
abbrev G15 (m : List (Str × A0)) (o1 : A0) (x2 : List Str) (o3_Of : List A0) (v36 : Int) (res : A0 × Bool) : Prop := LM C 57 1 Tryz.f211 [1, 1, 1, 1, 1, 0, 1, 4] [(0, .mp 0), (4, .ref 2 0), (8, .ref 3 0), (34, .d (.sl (A0.rows o1.Of))), (35, .d (.int .i64 ((o1.Of).length : Int))), (36, .d (.int .i64 v36))] [.map (.s (A0.ents m)), .dead, .row [.d (.int .i64 0), .d (.int .i64 0), .d (.int .i64 0), .d (.int .i64 0), .d (.str []), .full (estr.rows []), .full (A0.rows [])] 40, .row [.d (.int .i64 o1.Kind), .d (.int .i64 o1.Low), .d (.int .i64 o1.High), .d (.int .i64 o1.Size), .d (.str o1.Name), .d (.sl (estr.rows x2)), .osl 4 (A0.rows o3_Of)] 40, .tok 40 7] (Ret [.map (.s (A0.ents m))] (.tup [.agg (A0.cells res.1), .d (.bool res.2)]))
theorem Nw (m : List (Str × A0)) : (∀ t res, Q5 t m = some res → V1c t m res) ∧ (∀ o1 res, B8 m o1 = some res → F15 m o1 res) ∧ (∀ o1 x2 o3_Of v36 res, G5 m o1 x2 o3_Of v36 = some res → G15 m o1 x2 o3_Of v36 res) := by
  refine Q5.mutual_partial_correctness m _ _ _ ?_ ?_ ?_
  · intro g1 ih1 t res hh
    refine S0.intro hC Tryz.func211 rfl rfl rfl (s' rfl rfl (I0.n hC rfl (I0.nf hC rfl (e' rfl (S' (t' rfl (ci' rfl hh (fun hh => ?_) (fun hh => ?_))))))))
    · obtain ⟨x1, hx1, hh⟩ := bs' hh
      refine p' 3 rfl (I0.me hC rfl (A0.lkT hx1) (o' 3 rfl (I0.nf hC rfl (I0.s hC rfl (e' rfl (S' (t' rfl (ci' rfl hh (fun hh => ?_) (fun hh => ?_)))))))))
      · cases hh
        exact p' 1 rfl (I0.s hC rfl (e' rfl (re' (rt' rfl rfl rfl))))
      exact sk' (P' 1 rfl (I0.s hC rfl (n' (ew' (ih1 _ _ hh) rfl rfl rfl))))
    exact sk' (ew' (ih1 _ _ hh) rfl rfl rfl)
  · intro g2 ih2 o1 res hh
    obtain ⟨x2, hx2, hh⟩ := bs' hh
    refine p' 1 rfl (I0.nf hC rfl (I0.s hC rfl (n' (p' 2 rfl (c' (M14 hx2) rfl rfl (q' rfl (I0.s hC rfl (n' (p' 1 rfl (I0.s hC rfl (I0.tokC 3 6 40 7 rfl rfl rfl rfl rfl (n' (S' ?_)))))))))))))
    refine p' 2 rfl (qe' rfl trivial (A0.lenA _) (e' rfl (bk' ?_)))
    refine AEx.ofLoop ?_
    refine Z0.wk ?_ (ih2 _ _ _ _ _ hh)
    exact ⟨⟨⟨.rfl, rfl⟩, ⟨⟨.rfl, rfl⟩, ⟨⟨.rfl, rfl⟩, ⟨⟨.rfl, rfl⟩, ⟨⟨.rfl, rfl⟩, ⟨⟨.rfl, rfl⟩, trivial⟩⟩⟩⟩⟩⟩, ⟨rfl, ⟨trivial, ⟨⟨rfl, .refl _, rfl⟩, ⟨⟨rfl, .refl _, rfl⟩, ⟨rfl, trivial⟩⟩⟩⟩⟩, rfl⟩
  · intro g0 g2 ih0 ih2 o1 x2 o3_Of v36 res hh
    refine Z0.unroll (t' rfl (S' (ci' rfl hh (fun hh => ?_) (fun hh => ?_))))
    · obtain ⟨x3, hx3, hh⟩ := bs' hh
      obtain ⟨x4, hx4, hh⟩ := bs' hh
      refine sk' (S' (bk' (s' rfl rfl (i' rfl (W0 hx3) (A0.idx hx3) rfl (q' rfl (I0.nf hC rfl (I0.s hC rfl (n' (p' 2 rfl (g' [0] (ih0 _ _ hx4) rfl rfl rfl rfl rfl rfl (o' 3 rfl (I0.nf hC rfl (I0.s hC rfl ?_)))))))))))))
      refine e' rfl (S' (t' rfl (ci' rfl hh (fun hh => ?_) (fun hh => ?_))))
      · cases hh
        exact p' 1 rfl (I0.s hC rfl (e' rfl (re' (rt' rfl rfl rfl))))
      obtain ⟨c4, hh⟩ := U1 hh
      refine sk' (P' 3 rfl (I0.be hC rfl (A0.rows_map [x4.1]).symm (I0.ap hC rfl (rs := A0.rows (o3_Of ++ [x4.1])) (A0.app o3_Of [x4.1]) (A0.sz o3_Of) (A0.sz [x4.1]) (V6 (A0.len o3_Of) (A0.len [x4.1]) c4) (q' rfl (I0.s hC rfl (n' (T' rfl ?_)))))))
      refine Z0.wk ?_ (ih2 _ _ _ _ _ hh)
      exact ⟨⟨⟨.rfl, rfl⟩, ⟨⟨.rfl, rfl⟩, ⟨⟨.rfl, rfl⟩, ⟨⟨.rfl, rfl⟩, ⟨⟨.rfl, rfl⟩, ⟨⟨.rfl, rfl⟩, trivial⟩⟩⟩⟩⟩⟩, ⟨rfl, ⟨trivial, ⟨⟨rfl, .refl _, rfl⟩, ⟨⟨rfl, .refl _, rfl⟩, ⟨rfl, trivial⟩⟩⟩⟩⟩, rfl⟩
    refine ex' (p' 1 rfl (I0.s hC rfl (e' rfl (re' ?_))))
    obtain rfl := oi' hh
    exact ⟨_, .tup [.agg [.d (.int .i64 o1.Kind), .d (.int .i64 o1.Low), .d (.int .i64 o1.High), .d (.int .i64 o1.Size), .d (.str o1.Name), .d (.sl (estr.rows x2)), .d (.sl (A0.rows o3_Of))], .d (.bool true)], [.map (.s (A0.ents m))], rfl, (.tupL ⟨(.aggL ⟨.rfl, ⟨.rfl, ⟨.rfl, ⟨.rfl, ⟨.rfl, ⟨.rfl, ⟨.osl, trivial⟩⟩⟩⟩⟩⟩⟩), ⟨.rfl, trivial⟩⟩), ⟨rfl, trivial⟩, rfl, rfl, rfl, rfl⟩
theorem A1q {t m res} (hh : Q5 t m = some res) : V1c t m res := (Nw m).1 _ _ hh
theorem E29 {m o1 res} (hh : B8 m o1 = some res) : F15 m o1 res := (Nw m).2.1 _ _ hh
theorem F29 {m o1 x2 o3_Of v36 res} (hh : G5 m o1 x2 o3_Of v36 = some res) : G15 m o1 x2 o3_Of v36 res := (Nw m).2.2 _ _ _ _ _ hh
def S2 (s : List Str) (v : Str) (v8 : Int) : Option Int :=
  if (decide (v8 < ((s).length : Int))) = true then
    idx s v8 >>= fun x1 =>
    if (v == x1) = true then
      some v8
    else
      S2 s v (IntKind.i64.wrap (v8 + 1))
  else
    some (-1)
  partial_fixpoint
abbrev Wo (s : List Str) (v : Str) (v8 : Int) (res : Int) : Prop := LM C 19 0 Tryz.f232 [1, 0, 1, 4] [(0, .d (.sl (estr.rows s))), (1, .d (.str v)), (7, .d (.int .i64 ((s).length : Int))), (8, .d (.int .i64 v8))] [] (Ret [] (.d (.int .i64 res)))
theorem Iz (s : List Str) (v : Str) : (∀ v8 res, S2 s v v8 = some res → Wo s v v8 res) := by
  refine S2.partial_correctness s v _ ?_
  · intro g0 ih0 v8 res hh
    refine Z0.unroll (t' rfl (S' (ci' rfl hh (fun hh => ?_) (fun hh => ?_))))
    · obtain ⟨x1, hx1, hh⟩ := bs' hh
      refine sk' (S' (bk' (t' rfl (p' 3 rfl (i' rfl (W0 hx1) (estr.idx hx1) rfl (e' rfl (ci' rfl hh (fun hh => ?_) (fun hh => ?_))))))))
      · cases hh
        exact t' rfl (re' (rt' rfl rfl rfl))
      exact sk' (T' rfl (lw' (ih0 _ _ hh) rfl rfl rfl))
    cases hh
    exact ex' (t' rfl (re' (rt' rfl rfl rfl)))
theorem K10 {s v v8 res} (hh : S2 s v v8 = some res) : Wo s v v8 res := (Iz s v) _ _ hh
def K8 (s : List Str) (v : Str) : Option Int :=
  S2 s v 0
theorem P14 {s v res} (hh : K8 s v = some res) : S0 C 232 [.d (.sl (estr.rows s)), .d (.str v)] [] (Ret [] (.d (.int .i64 res))) := by
  unfold K8 at hh
  exact S0.intro hC Tryz.func232 rfl rfl rfl (t' rfl (S' (p' 1 rfl (qe' rfl trivial (estr.lenA _) (e' rfl (bk' (fw' (K10 hh) rfl rfl rfl)))))))
def J5 (s : List Str) (v : Str) : Option Bool :=
  K8 s v >>= fun x1 =>
  some (decide (x1 ≥ 0))
theorem L10 {s v res} (hh : J5 s v = some res) : S0 C 226 [.d (.sl (estr.rows s)), .d (.str v)] [] (Ret [] (.d (.bool res))) := by
  unfold J5 at hh
  obtain ⟨x1, hx1, hh⟩ := bs' hh
  cases hh
  exact S0.intro hC Tryz.func226 rfl rfl rfl (t' rfl (p' 2 rfl (c' (P14 hx1) rfl rfl (e' rfl (re' (rt' rfl rfl rfl))))))
mutual
def Zd (t : A0) : Option Bool :=
  Nb t 0
  partial_fixpoint
def Nb (t : A0) (v8 : Int) : Option Bool :=
  if (decide (v8 < ((t.Names).length : Int))) = true then
    idx t.Names v8 >>= fun x1 =>
    slc t.Names 0 v8 >>= fun x2 =>
    J5 x2 x1 >>= fun x3 =>
    if x3 = true then
      some true
    else
      Nb t (IntKind.i64.wrap (v8 + 1))
  else
    F2 t.Of >>= fun x4 =>
    some x4
  partial_fixpoint
def F2 (s : List A0) : Option Bool :=
  B4 s >>= fun x1 =>
  some (decide (x1 ≥ 0))
  partial_fixpoint
def B4 (s : List A0) : Option Int :=
  C2 s 0
  partial_fixpoint
def C2 (s : List A0) (v8 : Int) : Option Int :=
  if (decide (v8 < ((s).length : Int))) = true then
    idx s v8 >>= fun x1 =>
    Zd x1 >>= fun x2 =>
    if x2 = true then
      some v8
    else
      C2 s (IntKind.i64.wrap (v8 + 1))
  else
    some (-1)
  partial_fixpoint
end
abbrev D1l (t : A0) (res : Bool) : Prop := S0 C 212 [.agg (A0.cells t)] [] (Ret [] (.d (.bool res)))
abbrev W1c (t : A0) (v8 : Int) (res : Bool) : Prop := LM C 23 0 Tryz.f212 [1, 0, 1, 4] [(1, .ref 0 0), (6, .d (.sl (estr.rows t.Names))), (7, .d (.int .i64 ((t.Names).length : Int))), (8, .d (.int .i64 v8))] [.row (A0.cells t) 40] (Ret [] (.d (.bool res)))
abbrev Aj (s : List A0) (res : Bool) : Prop := S0 C 227 [.d (.sl (A0.rows s)), .clo 212 []] [] (Ret [] (.d (.bool res)))
abbrev Vk (s : List A0) (res : Int) : Prop := S0 C 233 [.d (.sl (A0.rows s)), .clo 212 []] [] (Ret [] (.d (.int .i64 res)))
abbrev Bj (s : List A0) (v8 : Int) (res : Int) : Prop := LM C 19 0 Tryz.f233 [1, 0, 1, 4] [(0, .d (.sl (A0.rows s))), (1, .clo 212 []), (7, .d (.int .i64 ((s).length : Int))), (8, .d (.int .i64 v8))] [] (Ret [] (.d (.int .i64 res)))
theorem Up : (∀ t res, Zd t = some res → D1l t res) ∧ (∀ t v8 res, Nb t v8 = some res → W1c t v8 res) ∧ (∀ s res, F2 s = some res → Aj s res) ∧ (∀ s res, B4 s = some res → Vk s res) ∧ (∀ s v8 res, C2 s v8 = some res → Bj s v8 res) := by
  refine Zd.mutual_partial_correctness _ _ _ _ _ ?_ ?_ ?_ ?_ ?_
  · intro g1 ih1 t res hh
    exact S0.intro hC Tryz.func212 rfl rfl rfl (s' rfl rfl (I0.n hC rfl (e' rfl (S' (p' 2 rfl (qe' rfl trivial (estr.lenA _) (e' rfl (bk' (fw' (ih1 _ _ _ hh) rfl rfl rfl)))))))))
  · intro g1 g2 ih1 ih2 t v8 res hh
    refine Z0.unroll (t' rfl (S' (ci' rfl hh (fun hh => ?_) (fun hh => ?_))))
    · obtain ⟨x1, hx1, hh⟩ := bs' hh
      obtain ⟨x2, hx2, hh⟩ := bs' hh
      obtain ⟨x3, hx3, hh⟩ := bs' hh
      refine sk' (S' (bk' (p' 1 rfl (i' rfl (W0 hx1) (estr.idx hx1) rfl (e' rfl (p' 3 rfl (I0.dx hC rfl (estr.part hx2) (estr.sz _) (q' rfl (c' (L10 hx3) rfl rfl (n' (ci' rfl hh (fun hh => ?_) (fun hh => ?_))))))))))))
      · cases hh
        exact t' rfl (re' (rt' rfl rfl rfl))
      exact sk' (T' rfl (lw' (ih1 _ _ _ hh) rfl rfl rfl))
    obtain ⟨x4, hx4, hh⟩ := bs' hh
    cases hh
    exact ex' (p' 2 rfl (c' (ih2 _ _ hx4) rfl rfl (e' rfl (re' (rt' rfl rfl rfl)))))
  · intro g3 ih3 s res hh
    obtain ⟨x1, hx1, hh⟩ := bs' hh
    cases hh
    exact S0.intro hC Tryz.func227 rfl rfl rfl (t' rfl (p' 2 rfl (c' (ih3 _ _ hx1) rfl rfl (e' rfl (re' (rt' rfl rfl rfl))))))
  · intro g4 ih4 s res hh
    exact S0.intro hC Tryz.func233 rfl rfl rfl (t' rfl (S' (p' 1 rfl (qe' rfl trivial (A0.lenA _) (e' rfl (bk' (fw' (ih4 _ _ _ hh) rfl rfl rfl)))))))
  · intro g0 g4 ih0 ih4 s v8 res hh
    refine Z0.unroll (t' rfl (S' (ci' rfl hh (fun hh => ?_) (fun hh => ?_))))
    · obtain ⟨x1, hx1, hh⟩ := bs' hh
      obtain ⟨x2, hx2, hh⟩ := bs' hh
      refine sk' (S' (bk' (t' rfl (p' 3 rfl (i' rfl (W0 hx1) (A0.idx hx1) rfl (q' rfl (c' (ih0 _ _ hx2) rfl rfl (n' (ci' rfl hh (fun hh => ?_) (fun hh => ?_))))))))))
      · cases hh
        exact t' rfl (re' (rt' rfl rfl rfl))
      exact sk' (T' rfl (lw' (ih4 _ _ _ hh) rfl rfl rfl))
    cases hh
    exact ex' (t' rfl (re' (rt' rfl rfl rfl)))
theorem J1i {t res} (hh : Zd t = some res) : D1l t res := (Up).1 _ _ hh
theorem X2d {t v8 res} (hh : Nb t v8 = some res) : W1c t v8 res := (Up).2.1 _ _ _ hh
theorem Z1j {s res} (hh : F2 s = some res) : Aj s res := (Up).2.2.1 _ _ hh
theorem P1m {s res} (hh : B4 s = some res) : Vk s res := (Up).2.2.2.1 _ _ hh
theorem A1k {s v8 res} (hh : C2 s v8 = some res) : Bj s v8 res := (Up).2.2.2.2 _ _ _ hh
mutual
def Bg (t : A0) : Option Int :=
  Pb t 0 0
  partial_fixpoint
def Pb (t : A0) (d : Int) (v9 : Int) : Option Int :=
  if (decide (v9 < ((t.Of).length : Int))) = true then
    idx t.Of v9 >>= fun x1 =>
    Bg x1 >>= fun x2 =>
    Pb t (max d x2) (IntKind.i64.wrap (v9 + 1))
  else
    some (IntKind.i64.wrap (d + 1))
  partial_fixpoint
end
abbrev E1l (t : A0) (res : Int) : Prop := S0 C 213 [.agg (A0.cells t)] [] (Ret [] (.d (.int .i64 res)))
abbrev X1c (t : A0) (d : Int) (v9 : Int) (res : Int) : Prop := LM C 20 0 Tryz.f213 [1, 1, 0, 1, 4] [(3, .d (.int .i64 d)), (7, .d (.sl (A0.rows t.Of))), (8, .d (.int .i64 ((t.Of).length : Int))), (9, .d (.int .i64 v9))] [] (Ret [] (.d (.int .i64 res)))
theorem O1f : (∀ t res, Bg t = some res → E1l t res) ∧ (∀ t d v9 res, Pb t d v9 = some res → X1c t d v9 res) := by
  refine Bg.mutual_partial_correctness _ _ ?_ ?_
  · intro g1 ih1 t res hh
    exact S0.intro hC Tryz.func213 rfl rfl rfl (s' rfl rfl (I0.n hC rfl (e' rfl (t' rfl (S' (p' 2 rfl (qe' rfl trivial (A0.lenA _) (e' rfl (bk' (fw' (ih1 _ _ _ _ hh) rfl rfl rfl))))))))))
  · intro g0 g1 ih0 ih1 t d v9 res hh
    refine Z0.unroll (t' rfl (S' (ci' rfl hh (fun hh => ?_) (fun hh => ?_))))
    · obtain ⟨x1, hx1, hh⟩ := bs' hh
      obtain ⟨x2, hx2, hh⟩ := bs' hh
      exact sk' (S' (bk' (s' rfl rfl (i' rfl (W0 hx1) (A0.idx hx1) rfl (q' rfl (I0.nf hC rfl (I0.s hC rfl (n' (P' 2 rfl (c' (ih0 _ _ hx2) rfl rfl (e' rfl (T' rfl (lw' (ih1 _ _ _ _ hh) rfl rfl rfl)))))))))))))
    cases hh
    exact ex' (t' rfl (re' (rt' rfl rfl rfl)))
theorem Q1w {t res} (hh : Bg t = some res) : E1l t res := (O1f).1 _ _ hh
theorem Y2d {t d v9 res} (hh : Pb t d v9 = some res) : X1c t d v9 res := (O1f).2 _ _ _ _ hh
mutual
def Qb (t : A0) : Option Int :=
  if (t.Kind == 2) = true then
    idx t.Of 0 >>= fun x1 =>
    Qb x1 >>= fun x3 =>
    some (min (IntKind.i64.wrap ((min t.Size 33) * x3)) 33)
  else
    if (t.Kind == 3) = true then
      Rb t 0 0
    else
      some (min 1 33)
  partial_fixpoint
def Rb (t : A0) (n : Int) (v24 : Int) : Option Int :=
  if (decide (v24 < ((t.Of).length : Int))) = true then
    idx t.Of v24 >>= fun x2 =>
    Qb x2 >>= fun x4 =>
    Rb t (IntKind.i64.wrap (n + x4)) (IntKind.i64.wrap (v24 + 1))
  else
    some (min n 33)
  partial_fixpoint
end
abbrev F1l (t : A0) (res : Int) : Prop := S0 C 214 [.agg (A0.cells t)] [] (Ret [] (.d (.int .i64 res)))
abbrev Y1c (t : A0) (n : Int) (v24 : Int) (res : Int) : Prop := LM C 35 0 Tryz.f214 [1, 1, 0, 1, 4, 1, 3, 1, 2, 1, 4] [(3, .d (.int .i64 n)), (22, .d (.sl (A0.rows t.Of))), (23, .d (.int .i64 ((t.Of).length : Int))), (24, .d (.int .i64 v24))] [] (Ret [] (.d (.int .i64 res)))
theorem P1f : (∀ t res, Qb t = some res → F1l t res) ∧ (∀ t n v24 res, Rb t n v24 = some res → Y1c t n v24 res) := by
  refine Qb.mutual_partial_correctness _ _ ?_ ?_
  · intro g0 g1 ih0 ih1 t res hh
    refine S0.intro hC Tryz.func214 rfl rfl rfl (s' rfl rfl (I0.n hC rfl (e' rfl (t' rfl (S' (t' rfl (bk' (t' rfl (ci' rfl hh (fun hh => ?_) (fun hh => ?_))))))))))
    · obtain ⟨x1, hx1, hh⟩ := bs' hh
      obtain ⟨x3, hx3, hh⟩ := bs' hh
      cases hh
      exact AEx.draw hC 10 rfl rfl rfl (O' 5 rfl (AQ.i hC rfl (W0 hx1) (A0.idx hx1) rfl (Q' rfl (Qc' (ih0 _ _ hx3) rfl rfl (E' rfl (n' (t' rfl (re' (rt' rfl rfl rfl)))))))))
    refine t' rfl (ci' rfl hh (fun hh => ?_) (fun hh => ?_))
    · exact p' 2 rfl (qe' rfl trivial (A0.lenA _) (e' rfl (bk' (fw' (ih1 _ _ _ _ hh) rfl rfl rfl))))
    cases hh
    exact T' rfl (t' rfl (re' (rt' rfl rfl rfl)))
  · intro g0 g1 ih0 ih1 t n v24 res hh
    refine Z0.unroll (t' rfl (S' (ci' rfl hh (fun hh => ?_) (fun hh => ?_))))
    · obtain ⟨x2, hx2, hh⟩ := bs' hh
      obtain ⟨x4, hx4, hh⟩ := bs' hh
      exact sk' (S' (bk' (s' rfl rfl (i' rfl (W0 hx2) (A0.idx hx2) rfl (q' rfl (I0.nf hC rfl (I0.s hC rfl (n' (P' 2 rfl (c' (ih0 _ _ hx4) rfl rfl (e' rfl (T' rfl (lw' (ih1 _ _ _ _ hh) rfl rfl rfl)))))))))))))
    cases hh
    exact ex' (t' rfl (re' (rt' rfl rfl rfl)))
theorem K1i {t res} (hh : Qb t = some res) : F1l t res := (P1f).1 _ _ hh
theorem Z2d {t n v24 res} (hh : Rb t n v24 = some res) : Y1c t n v24 res := (P1f).2 _ _ _ _ hh
def Bh (t : A0) (m : List (Str × A0)) : Option (A0 × Int) :=
  Tc t >>= fun x1 =>
  if (x1 != 0) = true then
    some ((A0.mk 0 0 0 0 [] [] []), x1)
  else
    Q5 t m >>= fun x2 =>
    if (!x2.2) = true then
      some ((A0.mk 0 0 0 0 [] [] []), 7)
    else
      Zd x2.1 >>= fun x3 =>
      if x3 = true then
        some ((A0.mk 0 0 0 0 [] [] []), 8)
      else
        Bg x2.1 >>= fun x4 =>
        (if (!(decide (x4 > 12))) = true then Qb x2.1 else some default) >>= fun x5 =>
        if (bif (decide (x4 > 12)) then true else (decide (x5 > 32))) = true then
          some ((A0.mk 0 0 0 0 [] [] []), 4)
        else
          some (x2.1, 0)
theorem N1a {t m res} (hh : Bh t m = some res) : S0 C 180 [.mp 0, .agg (A0.cells t)] [.map (.s (A0.ents m))] (Ret [.map (.s (A0.ents m))] (.tup [.agg (A0.cells res.1), .d (.int .i64 res.2)])) := by
  unfold Bh at hh
  obtain ⟨x1, hx1, hh⟩ := bs' hh
  refine S0.intro hC Tryz.func180 rfl rfl rfl (s' rfl rfl (I0.n hC rfl (I0.nf hC rfl (e' rfl (S' (p' 1 rfl (c' (E15 hx1) rfl rfl (e' rfl (t' rfl (ci' rfl hh (fun hh => ?_) (fun hh => ?_)))))))))))
  · cases hh
    exact p' 2 rfl (I0.s hC rfl (e' rfl (re' (rt' rfl rfl rfl))))
  obtain ⟨x2, hx2, hh⟩ := bs' hh
  refine sk' (p' 2 rfl (g' [0] (A1q hx2) rfl rfl rfl rfl rfl rfl (o' 3 rfl (I0.nf hC rfl (I0.s hC rfl (e' rfl (S' (t' rfl (ci' rfl hh (fun hh => ?_) (fun hh => ?_))))))))))
  · cases hh
    exact p' 1 rfl (I0.s hC rfl (e' rfl (re' (rt' rfl rfl rfl))))
  obtain ⟨x3, hx3, hh⟩ := bs' hh
  refine sk' (S' (p' 1 rfl (c' (J1i hx3) rfl rfl (n' (ci' rfl hh (fun hh => ?_) (fun hh => ?_))))))
  · cases hh
    exact p' 1 rfl (I0.s hC rfl (e' rfl (re' (rt' rfl rfl rfl))))
  obtain ⟨x4, hx4, hh⟩ := bs' hh
  obtain ⟨x5, hx5, hh⟩ := bs' hh
  refine sk' (S' (sg' 8 rfl (a0' rfl (AG.c rfl rfl (fun _ => trivial) (fun _ => Q1w hx4) (G' 3 rfl (AG.c rfl rfl (fun hg => ⟨hg, trivial⟩) (fun hw => K1i (T1 hw hx5)) (a1' rfl (po' rfl (an' (n' (ci' rfl hh (fun hh => ?_) (fun hh => ?_))))))))))))
  · cases hh
    exact p' 1 rfl (I0.s hC rfl (e' rfl (re' (rt' rfl rfl rfl))))
  cases hh
  exact sk' (p' 1 rfl (I0.s hC rfl (e' rfl (re' (rt' rfl rfl rfl)))))
def J7 (decls : List B0) (t : A0) (m2 : List (Str × A0)) (v16 : Int) : Option (A0 × Int) :=
  if (decide (v16 < ((decls).length : Int))) = true then
    idx decls v16 >>= fun x1 =>
    if (x1.Kind != 0) = true then
      J7 decls t m2 (IntKind.i64.wrap (v16 + 1))
    else
      Zi x1.Name >>= fun x2 =>
      if (!x2) = true then
        some ((A0.mk 0 0 0 0 [] [] []), 7)
      else
        some (mgt x1.Name m2) >>= fun x3 =>
        if x3.isSome = true then
          some ((A0.mk 0 0 0 0 [] [] []), 8)
        else
          Bh x1.TypeV m2 >>= fun x4 =>
          if (x4.2 != 0) = true then
            some ((A0.mk 0 0 0 0 [] [] []), x4.2)
          else
            J7 decls t (mpt x1.Name x4.1 m2) (IntKind.i64.wrap (v16 + 1))
  else
    Bh t m2 >>= fun x5 =>
    some (x5.1, x5.2)
  partial_fixpoint
abbrev O1a (decls : List B0) (t : A0) (m2 : List (Str × A0)) (v16 : Int) (res : A0 × Int) : Prop := LM C 58 0 Tryz.f110 [1, 1, 0, 1, 4] [(3, .ref 0 0), (4, .ref 1 0), (6, .mp 2), (14, .d (.sl (B0.rows decls))), (15, .d (.int .i64 ((decls).length : Int))), (16, .d (.int .i64 v16))] [.row (A0.cells t) 40, .row [.d (.int .i64 0), .d (.int .i64 0), .d (.int .i64 0), .d (.int .i64 0), .d (.str []), .full (estr.rows []), .full (A0.rows [])] 40, .map (.s (A0.ents m2))] (Ret [] (.tup [.agg (A0.cells res.1), .d (.int .i64 res.2)]))
theorem Y1l (decls : List B0) (t : A0) : (∀ m2 v16 res, J7 decls t m2 v16 = some res → O1a decls t m2 v16 res) := by
  refine J7.partial_correctness decls t _ ?_
  · intro g0 ih0 m2 v16 res hh
    refine Z0.unroll (t' rfl (S' (ci' rfl hh (fun hh => ?_) (fun hh => ?_))))
    · obtain ⟨x1, hx1, hh⟩ := bs' hh
      refine sk' (S' (bk' (s' rfl rfl (i' rfl (W0 hx1) (B0.idx hx1) rfl (q' rfl (I0.nf hC rfl (I0.s hC rfl (n' (S' (t' rfl (ci' rfl hh (fun hh => ?_) (fun hh => ?_))))))))))))
      · exact ex' (T' rfl (lw' (ih0 _ _ _ hh) rfl rfl rfl))
      obtain ⟨x2, hx2, hh⟩ := bs' hh
      refine sk' (S' (p' 2 rfl (c' (T1c hx2) rfl rfl (e' rfl (ci' rfl hh (fun hh => ?_) (fun hh => ?_))))))
      · cases hh
        exact p' 1 rfl (I0.s hC rfl (e' rfl (re' (rt' rfl rfl rfl))))
      obtain ⟨x3, hx3, hh⟩ := bs' hh
      refine sk' (S' (p' 3 rfl (I0.me hC rfl (A0.lkT hx3) (o' 3 rfl (I0.nf hC rfl (I0.s hC rfl (e' rfl (t' rfl (ci' rfl hh (fun hh => ?_) (fun hh => ?_))))))))))
      · cases hh
        exact p' 1 rfl (I0.s hC rfl (e' rfl (re' (rt' rfl rfl rfl))))
      obtain ⟨x4, hx4, hh⟩ := bs' hh
      refine sk' (p' 3 rfl (g' [2] (N1a hx4) rfl rfl rfl rfl rfl rfl (o' 3 rfl (I0.nf hC rfl (I0.s hC rfl (e' rfl (S' (t' rfl (ci' rfl hh (fun hh => ?_) (fun hh => ?_))))))))))
      · cases hh
        exact p' 2 rfl (I0.s hC rfl (e' rfl (re' (rt' rfl rfl rfl))))
      exact sk' (P' 4 rfl (I0.ue hC rfl (A0.mput _ x4.1 _) rfl (n' (T' rfl (lw' (ih0 _ _ _ hh) rfl rfl rfl)))))
    obtain ⟨x5, hx5, hh⟩ := bs' hh
    cases hh
    exact ex' (p' 2 rfl (g' [2] (N1a hx5) rfl rfl rfl rfl rfl rfl (o' 2 rfl (I0.s hC rfl (e' rfl (re' (rt' rfl rfl rfl)))))))
theorem L1n {decls t m2 v16 res} (hh : J7 decls t m2 v16 = some res) : O1a decls t m2 v16 res := (Y1l decls t) _ _ _ hh
end Go.Proofs.YtdkabnfphmmmnaaGreatDoor

set_option maxRecDepth 100000
set_option maxHeartbeats 4000000
set_option synthInstance.maxSize 2000
set_option linter.unusedVariables false
namespace Go.Proofs.YtdkabnfphmmmnaaGreatDoor
open Go.Am
def Sn (decls : List B0) (t : A0) : Option (A0 × Int) :=
  J7 decls t [] 0
theorem U1u {decls t res} (hh : Sn decls t = some res) : S0 C 110 [.d (.sl (B0.rows decls)), .agg (A0.cells t)] [] (Ret [] (.tup [.agg (A0.cells res.1), .d (.int .i64 res.2)])) := by
  unfold Sn at hh
  exact S0.intro hC Tryz.func110 rfl rfl rfl (s' rfl rfl (I0.n hC rfl (I0.nf hC rfl (e' rfl (s' rfl rfl (I0.w rfl (e' rfl (S' (p' 1 rfl (qe' rfl trivial (B0.lenA _) (e' rfl (bk' (fw' (L1n hh) rfl rfl rfl)))))))))))))
def D5 (c : F0) (t : A0) (before : Int) : Option (A0 × Int) :=
  slc c.p.Decls 0 before >>= fun x1 =>
  Sn x1 t >>= fun x2 =>
  some (x2.1, x2.2)
theorem Xk {c t before res} (hh : D5 c t before = some res) : S0 C 55 [.d (.box (F0.row c)), .agg (A0.cells t), .d (.int .i64 before)] [] (Ret [] (.tup [.agg (A0.cells res.1), .d (.int .i64 res.2)])) := by
  unfold D5 at hh
  obtain ⟨x1, hx1, hh⟩ := bs' hh
  obtain ⟨x2, hx2, hh⟩ := bs' hh
  cases hh
  refine S0.intro hC Tryz.func55 rfl rfl rfl (s' rfl rfl (I0.n hC rfl (I0.nf hC rfl (e' rfl (S' (AEx.draw hC 11 rfl rfl rfl (O' 6 rfl (AQ.dx hC rfl (B0.part hx1) (B0.sz _) (Q' rfl (Qc' (U1u hx2) rfl rfl (E' rfl (I0.s hC rfl (e' rfl ?_)))))))))))))
  exact re' (rt' rfl rfl rfl)
def P7 (t : A0) : Option Bool :=
  some (bif (t.Kind == 0) then true else (t.Kind == 1))
theorem Qo {t res} (hh : P7 t = some res) : S0 C 56 [.agg (A0.cells t)] [] (Ret [] (.d (.bool res))) := by
  unfold P7 at hh
  cases hh
  exact S0.intro hC Tryz.func56 rfl rfl rfl (s' rfl rfl (I0.n hC rfl (e' rfl (sg' 9 rfl (G' 5 rfl (a1' rfl (a1' rfl (po' rfl (a0' rfl (an' (n' (re' (rt' rfl rfl rfl)))))))))))))
def B5 (s : Option J0) : Option (List (Str × L0) × Option J0) :=
  some ([], s)
theorem Sm {s res} (hh : B5 s = some res) : S0 C 60 [.d (.bxo (J0.opt s))] [] (Ret [.map (.s (L0.ents res.1)), .row [.d (.bxo (J0.opt res.2)), .mp 0] 110] (.ref 1 0)) := by
  unfold B5 at hh
  cases hh
  exact S0.intro hC Tryz.func60 rfl rfl rfl (t' rfl (p' 1 rfl (I0.w rfl (q' rfl (I0.n hC rfl (e' rfl (re' (rt' rfl rfl rfl))))))))
def C3 (c : F0) (t : A0) (before : Int) : Option A0 :=
  D5 c t before >>= fun x1 =>
  some x1.1
theorem F9 {c t before res} (hh : C3 c t before = some res) : S0 C 61 [.d (.box (F0.row c)), .agg (A0.cells t), .d (.int .i64 before)] [] (Ret [] (.agg (A0.cells res))) := by
  unfold C3 at hh
  obtain ⟨x1, hx1, hh⟩ := bs' hh
  cases hh
  refine S0.intro hC Tryz.func61 rfl rfl rfl (s' rfl rfl (I0.n hC rfl (I0.nf hC rfl (n' (p' 3 rfl (c' (Xk hx1) rfl rfl (o' 3 rfl (I0.nf hC rfl (I0.s hC rfl (e' rfl (p' 1 rfl (I0.s hC rfl (n' ?_)))))))))))))
  exact re' (rt' rfl rfl rfl)
def Q2 (c : F0) (variables : Bool) (m0 : List (Str × L0)) (x1 : List (Str × L0) × Option J0) (x2 : List B0) (v22 : Int) : Option (Option J0) :=
  if (decide (v22 < ((x2).length : Int))) = true then
    idx x2 v22 >>= fun x3 =>
    if (bif (bif (bif (x3.Kind == 1) then true else (x3.Kind == 2)) then true else (x3.Kind == 3)) then true else (bif variables then (x3.Kind == 4) else false)) = true then
      C3 c x3.TypeV v22 >>= fun x4 =>
      Q2 c variables (mpt x3.Name (L0.mk x4 (bif (bif (x3.Kind == 1) then true else (x3.Kind == 2)) then true else (x3.Kind == 3))) m0) x1 x2 (IntKind.i64.wrap (v22 + 1))
    else
      Q2 c variables m0 x1 x2 (IntKind.i64.wrap (v22 + 1))
  else
    some (some (J0.mk x1.2 m0)) >>= fun x5 =>
    some x5
  partial_fixpoint
abbrev Wq (c : F0) (variables : Bool) (m0 : List (Str × L0)) (x1 : List (Str × L0) × Option J0) (x2 : List B0) (v22 : Int) (res : Option J0) : Prop := LM C 64 0 Tryz.f32 [1, 1, 1, 0, 1, 4] [(0, .d (.box (F0.row c))), (2, .d (.bool variables)), (8, .ref 1 0), (20, .d (.sl (B0.rows x2))), (21, .d (.int .i64 ((x2).length : Int))), (22, .d (.int .i64 v22))] [.map (.s (L0.ents m0)), .row [.d (.bxo (J0.opt x1.2)), .mp 0] 110] (Ret [] (.d (.bxo (J0.opt res))))
theorem J11 (c : F0) (variables : Bool) (x1 : List (Str × L0) × Option J0) (x2 : List B0) : (∀ m0 v22 res, Q2 c variables m0 x1 x2 v22 = some res → Wq c variables m0 x1 x2 v22 res) := by
  refine Q2.partial_correctness c variables x1 x2 _ ?_
  · intro g0 ih0 m0 v22 res hh
    refine Z0.unroll (t' rfl (S' (ci' rfl hh (fun hh => ?_) (fun hh => ?_))))
    · obtain ⟨x3, hx3, hh⟩ := bs' hh
      refine sk' (S' (bk' (p' 1 rfl (i' rfl (W0 hx3) (B0.idx hx3) rfl (q' rfl (I0.nf hC rfl (q' rfl (I0.s hC rfl (n' (sg' 14 rfl (G' 5 rfl (a1' rfl (a1' rfl ?_)))))))))))))
      refine po' rfl (G' 2 rfl (a1' rfl (a1' rfl (po' rfl (a0' rfl (an' (n' (sg' 9 rfl (G' 3 rfl (a1' rfl (a0' rfl (a1' rfl (a1' rfl ?_)))))))))))))
      refine pA' rfl (po' rfl (an' (n' (ci' rfl hh (fun hh => ?_) (fun hh => ?_)))))
      · obtain ⟨x4, hx4, hh⟩ := bs' hh
        exact AEx.draw hC 13 rfl rfl rfl (O' 10 rfl (Qc' (F9 hx4) rfl rfl (E' rfl (I0.ue hC rfl (L0.mput _ (L0.mk x4 (bif (bif (x3.Kind == 1) then true else (x3.Kind == 2)) then true else (x3.Kind == 3))) _) rfl (n' (T' rfl (lw' (ih0 _ _ _ hh) rfl rfl rfl)))))))
      exact sk' (T' rfl (lw' (ih0 _ _ _ hh) rfl rfl rfl))
    obtain ⟨x5, hx5, hh⟩ := bs' hh
    refine ex' (p' 2 rfl (I0.fm 0 rfl rfl (I0.bx 1 (y := .bxo (J0.opt x5)) (by cases hx5; exact .inr rfl) rfl rfl rfl (n' ?_))))
    cases hh
    exact re' (rt' rfl rfl rfl)
theorem A12 {c variables m0 x1 x2 v22 res} (hh : Q2 c variables m0 x1 x2 v22 = some res) : Wq c variables m0 x1 x2 v22 res := (J11 c variables x1 x2) _ _ _ hh
def E5 (c : F0) (before : Int) (variables : Bool) : Option (Option J0) :=
  B5 none >>= fun x1 =>
  slc c.p.Decls 0 before >>= fun x2 =>
  Q2 c variables x1.1 x1 x2 0
theorem A1 {c before variables res} (hh : E5 c before variables = some res) : S0 C 32 [.d (.box (F0.row c)), .d (.int .i64 before), .d (.bool variables)] [] (Ret [] (.d (.bxo (J0.opt res)))) := by
  unfold E5 at hh
  obtain ⟨x1, hx1, hh⟩ := bs' hh
  obtain ⟨x2, hx2, hh⟩ := bs' hh
  exact S0.intro hC Tryz.func32 rfl rfl rfl (t' rfl (t' rfl (p' 1 rfl (I0.g [] rfl (Sm hx1) ⟨.nbx, trivial⟩ rfl trivial rfl rfl (e' rfl (S' (p' 6 rfl (I0.dx hC rfl (B0.part hx2) (B0.sz _) (qe' rfl trivial (B0.lenA _) (e' rfl (bk' (fw' (A12 hh) rfl rfl rfl))))))))))))
def G3 (low : Int) (high : Int) : Option A0 :=
  some (A0.mk 1 low high 0 [] [] [])
theorem U4 {low high res} (hh : G3 low high = some res) : S0 C 86 [.d (.int .i64 low), .d (.int .i64 high)] [] (Ret [] (.agg (A0.cells res))) := by
  unfold G3 at hh
  cases hh
  exact S0.intro hC Tryz.func86 rfl rfl rfl (s' rfl rfl (I0.nf hC rfl (n' (p' 3 rfl (I0.s hC rfl (n' (re' (rt' rfl rfl rfl))))))))
def Q9 (t : A0) : Option (A0 × Int) :=
  if (bif (t.Kind == 1) then (bif (decide (t.Low < (-1048576))) then true else (decide (t.High > 1048576))) else false) = true then
    some ((A0.mk 0 0 0 0 [] [] []), 3)
  else
    some (t, 0)
theorem Qy {t res} (hh : Q9 t = some res) : S0 C 85 [.agg (A0.cells t)] [] (Ret [] (.tup [.agg (A0.cells res.1), .d (.int .i64 res.2)])) := by
  unfold Q9 at hh
  refine S0.intro hC Tryz.func85 rfl rfl rfl (s' rfl rfl (I0.n hC rfl (I0.nf hC rfl (e' rfl (S' (sg' 13 rfl (G' 5 rfl (a1' rfl (a1' rfl (a1' rfl (a0' rfl (a1' rfl (a1' rfl ?_)))))))))))))
  refine pO' rfl (pa' rfl (an' (n' (ci' rfl hh (fun hh => ?_) (fun hh => ?_)))))
  · cases hh
    exact p' 1 rfl (I0.s hC rfl (e' rfl (re' (rt' rfl rfl rfl))))
  cases hh
  exact sk' (p' 1 rfl (I0.s hC rfl (e' rfl (re' (rt' rfl rfl rfl)))))
def I3 (name : Str) (s1 : Option J0) : Option (L0 × Bool) :=
  if (!s1.isNone) = true then
    s1 >>= fun x1 =>
    some (mgt name x1.vars) >>= fun x2 =>
    if x2.isSome = true then
      some ((x2.getD L0.zero), true)
    else
      s1 >>= fun x3 =>
      I3 name x3.around
  else
    some ((L0.mk (A0.mk 0 0 0 0 [] [] []) false), false)
  partial_fixpoint
abbrev Us (name : Str) (s1 : Option J0) (res : L0 × Bool) : Prop := LM C 26 0 Tryz.f87 [1, 0, 4] [(0, .d (.bxo (J0.opt s1))), (1, .d (.str name)), (4, .ref 0 0)] [.row [.d (.int .i64 0), .d (.int .i64 0), .d (.int .i64 0), .d (.int .i64 0), .d (.str []), .full (estr.rows []), .full (A0.rows []), .d (.bool false)] 107] (Ret [] (.tup [.agg (L0.cells res.1), .d (.bool res.2)]))
theorem Q14 (name : Str) : (∀ s1 res, I3 name s1 = some res → Us name s1 res) := by
  refine I3.partial_correctness name _ ?_
  · intro g0 ih0 s1 res hh
    refine Z0.unroll (S' (p' 1 rfl (I0.nq hC rfl (J0.opt_nilB s1) (n' (ci' rfl hh (fun hh => ?_) (fun hh => ?_))))))
    · obtain ⟨x1, hx1, hh⟩ := bs' hh
      obtain ⟨x2, hx2, hh⟩ := bs' hh
      refine sk' (S' (bk' (p' 1 rfl (I0.nk hC rfl (J0.opt_some hx1) (o' 3 rfl (I0.fl hC rfl rfl (L0.lkT hx2) (o' 3 rfl (I0.nf hC rfl (I0.s hC rfl (e' rfl (t' rfl (ci' rfl hh (fun hh => ?_) (fun hh => ?_)))))))))))))
      · cases hh
        exact p' 1 rfl (I0.s hC rfl (e' rfl (re' (rt' rfl rfl rfl))))
      obtain ⟨x3, hx3, hh⟩ := bs' hh
      exact sk' (P' 1 rfl (I0.nk hC rfl (J0.opt_some hx3) (e' rfl (lw' (ih0 _ _ hh) rfl rfl rfl))))
    cases hh
    exact ex' (p' 1 rfl (I0.s hC rfl (e' rfl (re' (rt' rfl rfl rfl)))))
theorem N16 {name s1 res} (hh : I3 name s1 = some res) : Us name s1 res := (Q14 name) _ _ hh
def Y5 (s : Option J0) (name : Str) : Option (L0 × Bool) :=
  I3 name s
theorem Tm {s name res} (hh : Y5 s name = some res) : S0 C 87 [.d (.bxo (J0.opt s)), .d (.str name)] [] (Ret [] (.tup [.agg (L0.cells res.1), .d (.bool res.2)])) := by
  unfold Y5 at hh
  exact S0.intro hC Tryz.func87 rfl rfl rfl (s' rfl rfl (I0.nf hC rfl (e' rfl (S' (bk' (fw' (N16 hh) rfl rfl rfl))))))
def K4 (t : A0) (name : Str) (v15 : Int) : Option (A0 × Int) :=
  if (decide (v15 < ((t.Names).length : Int))) = true then
    idx t.Names v15 >>= fun x1 =>
    if (x1 == name) = true then
      idx t.Of v15 >>= fun x2 =>
      some (x2, 0)
    else
      K4 t name (IntKind.i64.wrap (v15 + 1))
  else
    some ((A0.mk 0 0 0 0 [] [] []), 7)
  partial_fixpoint
abbrev Ow (t : A0) (name : Str) (v15 : Int) (res : A0 × Int) : Prop := LM C 30 0 Tryz.f88 [1, 1, 0, 1, 4] [(1, .d (.str name)), (2, .ref 0 0), (4, .ref 1 0), (13, .d (.sl (estr.rows t.Names))), (14, .d (.int .i64 ((t.Names).length : Int))), (15, .d (.int .i64 v15))] [.row (A0.cells t) 40, .row [.d (.int .i64 0), .d (.int .i64 0), .d (.int .i64 0), .d (.int .i64 0), .d (.str []), .full (estr.rows []), .full (A0.rows [])] 40] (Ret [] (.tup [.agg (A0.cells res.1), .d (.int .i64 res.2)]))
theorem Z19 (t : A0) (name : Str) : (∀ v15 res, K4 t name v15 = some res → Ow t name v15 res) := by
  refine K4.partial_correctness t name _ ?_
  · intro g0 ih0 v15 res hh
    refine Z0.unroll (t' rfl (S' (ci' rfl hh (fun hh => ?_) (fun hh => ?_))))
    · obtain ⟨x1, hx1, hh⟩ := bs' hh
      refine sk' (S' (bk' (p' 1 rfl (i' rfl (W0 hx1) (estr.idx hx1) rfl (e' rfl (t' rfl (ci' rfl hh (fun hh => ?_) (fun hh => ?_))))))))
      · obtain ⟨x2, hx2, hh⟩ := bs' hh
        cases hh
        exact p' 3 rfl (i' rfl (W0 hx2) (A0.idx hx2) rfl (q' rfl (I0.s hC rfl (e' rfl (re' (rt' rfl rfl rfl))))))
      exact sk' (T' rfl (lw' (ih0 _ _ hh) rfl rfl rfl))
    cases hh
    exact ex' (p' 1 rfl (I0.s hC rfl (e' rfl (re' (rt' rfl rfl rfl)))))
theorem W1b {t name v15 res} (hh : K4 t name v15 = some res) : Ow t name v15 res := (Z19 t name) _ _ hh
def V7 (t : A0) (name : Str) : Option (A0 × Int) :=
  if (t.Kind != 3) = true then
    some ((A0.mk 0 0 0 0 [] [] []), 9)
  else
    K4 t name 0
theorem P1g {t name res} (hh : V7 t name = some res) : S0 C 88 [.agg (A0.cells t), .d (.str name)] [] (Ret [] (.tup [.agg (A0.cells res.1), .d (.int .i64 res.2)])) := by
  unfold V7 at hh
  refine S0.intro hC Tryz.func88 rfl rfl rfl (s' rfl rfl (I0.n hC rfl (I0.nf hC rfl (e' rfl (S' (t' rfl (ci' rfl hh (fun hh => ?_) (fun hh => ?_))))))))
  · cases hh
    exact p' 1 rfl (I0.s hC rfl (e' rfl (re' (rt' rfl rfl rfl))))
  exact sk' (S' (p' 2 rfl (qe' rfl trivial (estr.lenA _) (e' rfl (bk' (fw' (W1b hh) rfl rfl rfl))))))
def R3 (k : Int) (l : List A0) (v9 : Int) : Option Bool :=
  if (decide (v9 < ((l).length : Int))) = true then
    idx l v9 >>= fun x1 =>
    if (x1.Kind != k) = true then
      some false
    else
      R3 k l (IntKind.i64.wrap (v9 + 1))
  else
    some true
  partial_fixpoint
abbrev Yt (k : Int) (l : List A0) (v9 : Int) (res : Bool) : Prop := LM C 18 0 Tryz.f155 [1, 0, 1, 4] [(0, .d (.int .i64 k)), (7, .d (.sl (A0.rows l))), (8, .d (.int .i64 ((l).length : Int))), (9, .d (.int .i64 v9))] [] (Ret [] (.d (.bool res)))
theorem O16 (k : Int) (l : List A0) : (∀ v9 res, R3 k l v9 = some res → Yt k l v9 res) := by
  refine R3.partial_correctness k l _ ?_
  · intro g0 ih0 v9 res hh
    refine Z0.unroll (t' rfl (S' (ci' rfl hh (fun hh => ?_) (fun hh => ?_))))
    · obtain ⟨x1, hx1, hh⟩ := bs' hh
      refine sk' (S' (bk' (s' rfl rfl (i' rfl (W0 hx1) (A0.idx hx1) rfl (q' rfl (I0.nf hC rfl (I0.s hC rfl (n' (t' rfl (ci' rfl hh (fun hh => ?_) (fun hh => ?_)))))))))))
      · cases hh
        exact t' rfl (re' (rt' rfl rfl rfl))
      exact sk' (T' rfl (lw' (ih0 _ _ hh) rfl rfl rfl))
    cases hh
    exact ex' (t' rfl (re' (rt' rfl rfl rfl)))
theorem G18 {k l v9 res} (hh : R3 k l v9 = some res) : Yt k l v9 res := (O16 k l) _ _ hh
def L6 (k : Int) (l : List A0) : Option Bool :=
  R3 k l 0
theorem Xh {k l res} (hh : L6 k l = some res) : S0 C 155 [.d (.int .i64 k), .d (.sl (A0.rows l))] [] (Ret [] (.d (.bool res))) := by
  unfold L6 at hh
  exact S0.intro hC Tryz.func155 rfl rfl rfl (t' rfl (S' (p' 1 rfl (qe' rfl trivial (A0.lenA _) (e' rfl (bk' (fw' (G18 hh) rfl rfl rfl)))))))
def Tf (t : A0) : Option Int :=
  some (max t.High (IntKind.i64.wrap (0 - t.Low)))
theorem Q1g {t res} (hh : Tf t = some res) : S0 C 200 [.agg (A0.cells t)] [] (Ret [] (.d (.int .i64 res))) := by
  unfold Tf at hh
  cases hh
  exact S0.intro hC Tryz.func200 rfl rfl rfl (s' rfl rfl (I0.n hC rfl (e' rfl (t' rfl (re' (rt' rfl rfl rfl))))))
def I8 (low : Int) (high : Int) : Option A0 :=
  G3 low high >>= fun x7 =>
  some x7
theorem Zt {low high res} (hh : I8 low high = some res) : JM C 135 0 Tryz.f156 [1, 0, 1, 4, 1, 3, 1, 3, 1, 3, 1, 3, 1, 2, 1, 1, 1] [(6, .ref 2 0), (12, .d (.int .i64 low)), (13, .d (.int .i64 high))] [.dead, .dead, .row [.d (.int .i64 0), .d (.int .i64 0), .d (.int .i64 0), .d (.int .i64 0), .d (.str []), .full (estr.rows []), .full (A0.rows [])] 40] (Ret [] (.agg (A0.cells res))) := by
  unfold I8 at hh
  obtain ⟨x7, hx7, hh⟩ := bs' hh
  cases hh
  exact p' 2 rfl (c' (U4 hx7) rfl rfl (I0.s hC rfl (n' (re' (rt' rfl rfl rfl)))))
def J8 (b : A0) (low : Int) : Option A0 :=
  if (decide (b.High > 0)) = true then
    I8 low (max (IntKind.i64.wrap (b.High - 1)) 0)
  else
    I8 low 0
theorem Au {b low res} (hh : J8 b low = some res) : JM C 135 0 Tryz.f156 [1, 0, 1, 4, 1, 3, 1, 3, 1, 3, 1, 3, 1, 2, 1, 1] [(5, .ref 1 0), (6, .ref 2 0), (12, .d (.int .i64 low)), (13, .d (.int .i64 0))] [.dead, .row (A0.cells b) 40, .row [.d (.int .i64 0), .d (.int .i64 0), .d (.int .i64 0), .d (.int .i64 0), .d (.str []), .full (estr.rows []), .full (A0.rows [])] 40] (Ret [] (.agg (A0.cells res))) := by
  unfold J8 at hh
  refine S' (t' rfl (ci' rfl hh (fun hh => ?_) (fun hh => ?_)))
  · refine T' rfl ?_
    refine AEx.wk ?_ (Zt hh)
    exact ⟨⟨⟨.rfl, rfl⟩, ⟨⟨.rfl, rfl⟩, ⟨⟨.rfl, rfl⟩, trivial⟩⟩⟩, ⟨trivial, ⟨trivial, ⟨⟨rfl, .refl _, rfl⟩, trivial⟩⟩⟩, rfl⟩
  refine sk' ?_
  refine AEx.wk ?_ (Zt hh)
  exact ⟨⟨⟨.rfl, rfl⟩, ⟨⟨.rfl, rfl⟩, ⟨⟨.rfl, rfl⟩, trivial⟩⟩⟩, ⟨trivial, ⟨trivial, ⟨⟨rfl, .refl _, rfl⟩, trivial⟩⟩⟩, rfl⟩
def P8 (op : Int) (a : A0) (b : A0) : Option A0 :=
  if (op == 8) = true then
    G3 (IntKind.i64.wrap (a.Low + b.Low)) (IntKind.i64.wrap (a.High + b.High)) >>= fun x1 =>
    some x1
  else
    if (op == 9) = true then
      G3 (IntKind.i64.wrap (a.Low - b.High)) (IntKind.i64.wrap (a.High - b.Low)) >>= fun x2 =>
      some x2
    else
      if (op == 10) = true then
        G3 (min (min (min (IntKind.i64.wrap (a.Low * b.Low)) (IntKind.i64.wrap (a.Low * b.High))) (IntKind.i64.wrap (a.High * b.Low))) (IntKind.i64.wrap (a.High * b.High))) (max (max (max (IntKind.i64.wrap (a.Low * b.Low)) (IntKind.i64.wrap (a.Low * b.High))) (IntKind.i64.wrap (a.High * b.Low))) (IntKind.i64.wrap (a.High * b.High))) >>= fun x3 =>
        some x3
      else
        if (op == 11) = true then
          Tf a >>= fun x4 =>
          if (bif (decide (a.Low ≥ 0)) then (decide (b.Low ≥ 0)) else false) = true then
            G3 0 x4 >>= fun x5 =>
            some x5
          else
            G3 (IntKind.i64.wrap (0 - x4)) x4 >>= fun x6 =>
            some x6
        else
          if (op == 12) = true then
            if (decide (b.Low < 0)) = true then
              J8 b (min (IntKind.i64.wrap (b.Low + 1)) 0)
            else
              J8 b 0
          else
            if (op == 21) = true then
              G3 (min a.Low b.Low) (min a.High b.High) >>= fun x8 =>
              some x8
            else
              G3 (max a.Low b.Low) (max a.High b.High) >>= fun x9 =>
              some x9
theorem U1e {op a b res} (hh : P8 op a b = some res) : S0 C 156 [.d (.int .i64 op), .agg (A0.cells a), .agg (A0.cells b)] [] (Ret [] (.agg (A0.cells res))) := by
  unfold P8 at hh
  refine S0.intro hC Tryz.func156 rfl rfl rfl (s' rfl rfl (I0.n hC rfl (I0.n hC rfl (I0.nf hC rfl (n' (S' (t' rfl (bk' (t' rfl (ci' rfl hh (fun hh => ?_) (fun hh => ?_)))))))))))
  · obtain ⟨x1, hx1, hh⟩ := bs' hh
    cases hh
    exact p' 10 rfl (c' (U4 hx1) rfl rfl (I0.s hC rfl (n' (re' (rt' rfl rfl rfl)))))
  refine t' rfl (ci' rfl hh (fun hh => ?_) (fun hh => ?_))
  · obtain ⟨x2, hx2, hh⟩ := bs' hh
    cases hh
    exact p' 10 rfl (c' (U4 hx2) rfl rfl (I0.s hC rfl (n' (re' (rt' rfl rfl rfl)))))
  refine t' rfl (ci' rfl hh (fun hh => ?_) (fun hh => ?_))
  · obtain ⟨x3, hx3, hh⟩ := bs' hh
    cases hh
    exact S' (AEx.draw hC 24 rfl rfl rfl (E' rfl (n' (p' 10 rfl (c' (U4 hx3) rfl rfl (I0.s hC rfl (n' (re' (rt' rfl rfl rfl)))))))))
  refine t' rfl (ci' rfl hh (fun hh => ?_) (fun hh => ?_))
  · obtain ⟨x4, hx4, hh⟩ := bs' hh
    refine p' 1 rfl (c' (Q1g hx4) rfl rfl (e' rfl (S' (sg' 8 rfl (G' 5 rfl (a1' rfl (a1' rfl (pa' rfl (an' (n' (ci' rfl hh (fun hh => ?_) (fun hh => ?_))))))))))))
    · obtain ⟨x5, hx5, hh⟩ := bs' hh
      cases hh
      exact p' 1 rfl (c' (U4 hx5) rfl rfl (I0.s hC rfl (n' (re' (rt' rfl rfl rfl)))))
    obtain ⟨x6, hx6, hh⟩ := bs' hh
    cases hh
    exact sk' (p' 3 rfl (c' (U4 hx6) rfl rfl (I0.s hC rfl (n' (re' (rt' rfl rfl rfl))))))
  refine t' rfl (ci' rfl hh (fun hh => ?_) (fun hh => ?_))
  · refine t' rfl (S' (t' rfl (ci' rfl hh (fun hh => ?_) (fun hh => ?_))))
    · refine T' rfl ?_
      refine AEx.wk ?_ (Au hh)
      exact ⟨⟨⟨.rfl, rfl⟩, ⟨⟨.rfl, rfl⟩, ⟨⟨.rfl, rfl⟩, ⟨⟨.rfl, rfl⟩, trivial⟩⟩⟩⟩, ⟨trivial, ⟨⟨rfl, .refl _, rfl⟩, ⟨⟨rfl, .refl _, rfl⟩, trivial⟩⟩⟩, rfl⟩
    refine sk' ?_
    refine AEx.wk ?_ (Au hh)
    exact ⟨⟨⟨.rfl, rfl⟩, ⟨⟨.rfl, rfl⟩, ⟨⟨.rfl, rfl⟩, ⟨⟨.rfl, rfl⟩, trivial⟩⟩⟩⟩, ⟨trivial, ⟨⟨rfl, .refl _, rfl⟩, ⟨⟨rfl, .refl _, rfl⟩, trivial⟩⟩⟩, rfl⟩
  refine t' rfl (ci' rfl hh (fun hh => ?_) (fun hh => ?_))
  · obtain ⟨x8, hx8, hh⟩ := bs' hh
    cases hh
    exact p' 10 rfl (c' (U4 hx8) rfl rfl (I0.s hC rfl (n' (re' (rt' rfl rfl rfl)))))
  obtain ⟨x9, hx9, hh⟩ := bs' hh
  cases hh
  exact sk' (p' 10 rfl (c' (U4 hx9) rfl rfl (I0.s hC rfl (n' (re' (rt' rfl rfl rfl))))))
def F7 (op : Int) (kids : List A0) (x1 : Bool) (v60 : Bool) : Option (A0 × Int) :=
  if v60 = true then
    if x1 = true then
      some ((A0.mk 0 0 0 0 [] [] []), 0)
    else
      some ((A0.mk 0 0 0 0 [] [] []), 9)
  else
    if (op == 23) = true then
      slc kids 1 ((kids).length : Int) >>= fun x7 =>
      idx kids 0 >>= fun x8 =>
      if (x8.Kind != 0) = true then
        some ((A0.mk 0 0 0 0 [] [] []), 9)
      else
        L6 1 x7 >>= fun x9 =>
        if x9 = true then
          idx x7 0 >>= fun x10 =>
          idx x7 1 >>= fun x11 =>
          idx x7 0 >>= fun x12 =>
          idx x7 1 >>= fun x13 =>
          G3 (min x10.Low x11.Low) (max x12.High x13.High) >>= fun x14 =>
          some (x14, 0)
        else
          L6 0 x7 >>= fun x15 =>
          if x15 = true then
            some ((A0.mk 0 0 0 0 [] [] []), 0)
          else
            some ((A0.mk 0 0 0 0 [] [] []), 9)
    else
      if x1 = true then
        idx kids 0 >>= fun x16 =>
        idx kids 1 >>= fun x17 =>
        P8 op x16 x17 >>= fun x18 =>
        Q9 x18 >>= fun x19 =>
        some (x19.1, x19.2)
      else
        some ((A0.mk 0 0 0 0 [] [] []), 9)
theorem Lh {op kids x1 v60 res} (hh : F7 op kids x1 v60 = some res) : JM C 103 0 Tryz.f89 [1, 1, 1, 0, 1, 4, 1, 3, 1, 3, 1, 3, 1] [(0, .d (.int .i64 op)), (1, .d (.sl (A0.rows kids))), (4, .ref 0 0), (6, .clo 155 []), (7, .d (.bool x1)), (16, .d (.int .i64 op)), (60, .d (.bool v60))] [.row [.d (.int .i64 0), .d (.int .i64 0), .d (.int .i64 0), .d (.int .i64 0), .d (.str []), .full (estr.rows []), .full (A0.rows [])] 40] (Ret [] (.tup [.agg (A0.cells res.1), .d (.int .i64 res.2)])) := by
  unfold F7 at hh
  refine ci' rfl hh (fun hh => ?_) (fun hh => ?_)
  · refine t' rfl (ci' rfl hh (fun hh => ?_) (fun hh => ?_))
    · cases hh
      exact p' 1 rfl (I0.s hC rfl (e' rfl (re' (rt' rfl rfl rfl))))
    cases hh
    exact sk' (p' 1 rfl (I0.s hC rfl (e' rfl (re' (rt' rfl rfl rfl)))))
  refine t' rfl (ci' rfl hh (fun hh => ?_) (fun hh => ?_))
  · obtain ⟨x7, hx7, hh⟩ := bs' hh
    obtain ⟨x8, hx8, hh⟩ := bs' hh
    refine p' 1 rfl (I0.dx hC rfl (A0.part (by rw [A0.len]; exact hx7)) (A0.sz _) (e' rfl (S' (p' 1 rfl (i' rfl (W0 hx8) (A0.idx hx8) rfl (e' rfl (ci' rfl hh (fun hh => ?_) (fun hh => ?_))))))))
    · cases hh
      exact ex' (p' 1 rfl (I0.s hC rfl (e' rfl (re' (rt' rfl rfl rfl)))))
    obtain ⟨x9, hx9, hh⟩ := bs' hh
    refine sk' (S' (p' 2 rfl (c' (Xh hx9) rfl rfl (n' (ci' rfl hh (fun hh => ?_) (fun hh => ?_))))))
    · obtain ⟨x10, hx10, hh⟩ := bs' hh
      obtain ⟨x11, hx11, hh⟩ := bs' hh
      obtain ⟨x12, hx12, hh⟩ := bs' hh
      obtain ⟨x13, hx13, hh⟩ := bs' hh
      obtain ⟨x14, hx14, hh⟩ := bs' hh
      cases hh
      refine S' (AEx.draw hC 19 rfl rfl rfl (Q' rfl (AQ.i hC rfl (W0 hx10) (A0.idx hx10) rfl (O' 3 rfl (AQ.i hC rfl (W0 hx11) (A0.idx hx11) rfl (O' 4 rfl (AQ.i hC rfl (W0 hx12) (A0.idx hx12) rfl (O' 3 rfl (AQ.i hC rfl (W0 hx13) (A0.idx hx13) rfl (O' 3 rfl (Qc' (U4 hx14) rfl rfl (Qn' (I0.s hC rfl ?_)))))))))))))
      exact e' rfl (re' (rt' rfl rfl rfl))
    obtain ⟨x15, hx15, hh⟩ := bs' hh
    refine sk' (p' 2 rfl (c' (Xh hx15) rfl rfl (n' (ci' rfl hh (fun hh => ?_) (fun hh => ?_)))))
    · cases hh
      exact p' 1 rfl (I0.s hC rfl (e' rfl (re' (rt' rfl rfl rfl))))
    cases hh
    exact sk' (p' 1 rfl (I0.s hC rfl (e' rfl (re' (rt' rfl rfl rfl)))))
  refine t' rfl (ci' rfl hh (fun hh => ?_) (fun hh => ?_))
  · obtain ⟨x16, hx16, hh⟩ := bs' hh
    obtain ⟨x17, hx17, hh⟩ := bs' hh
    obtain ⟨x18, hx18, hh⟩ := bs' hh
    obtain ⟨x19, hx19, hh⟩ := bs' hh
    cases hh
    exact S' (AEx.draw hC 11 rfl rfl rfl (O' 2 rfl (AQ.i hC rfl (W0 hx16) (A0.idx hx16) rfl (O' 2 rfl (AQ.i hC rfl (W0 hx17) (A0.idx hx17) rfl (Q' rfl (Qc' (U1e hx18) rfl rfl (Qc' (Qy hx19) rfl rfl (E' rfl (I0.s hC rfl (e' rfl (re' (rt' rfl rfl rfl)))))))))))))
  cases hh
  exact sk' (p' 1 rfl (I0.s hC rfl (e' rfl (re' (rt' rfl rfl rfl)))))
def Sb (op : Int) (kids : List A0) (x1 : Bool) (x2 : Bool) (v52 : Bool) : Option (A0 × Int) :=
  if v52 = true then
    if (bif x1 then true else x2) = true then
      some ((A0.mk 0 0 0 0 [] [] []), 0)
    else
      some ((A0.mk 0 0 0 0 [] [] []), 9)
  else
    if (op == 15) = true then
      F7 op kids x1 (op == 15)
    else
      if (op == 16) = true then
        F7 op kids x1 (op == 16)
      else
        if (op == 17) = true then
          F7 op kids x1 (op == 17)
        else
          F7 op kids x1 (op == 18)
theorem Gv {op kids x1 x2 v52 res} (hh : Sb op kids x1 x2 v52 = some res) : JM C 103 0 Tryz.f89 [1, 1, 1, 0, 1, 4, 1, 3, 1, 3, 1] [(0, .d (.int .i64 op)), (1, .d (.sl (A0.rows kids))), (4, .ref 0 0), (6, .clo 155 []), (7, .d (.bool x1)), (8, .d (.bool x2)), (16, .d (.int .i64 op)), (52, .d (.bool v52))] [.row [.d (.int .i64 0), .d (.int .i64 0), .d (.int .i64 0), .d (.int .i64 0), .d (.str []), .full (estr.rows []), .full (A0.rows [])] 40] (Ret [] (.tup [.agg (A0.cells res.1), .d (.int .i64 res.2)])) := by
  unfold Sb at hh
  refine ci' rfl hh (fun hh => ?_) (fun hh => ?_)
  · refine sg' 4 rfl (G' 3 rfl (po' rfl (an' (n' (ci' rfl hh (fun hh => ?_) (fun hh => ?_))))))
    · cases hh
      exact p' 1 rfl (I0.s hC rfl (e' rfl (re' (rt' rfl rfl rfl))))
    cases hh
    exact sk' (p' 1 rfl (I0.s hC rfl (e' rfl (re' (rt' rfl rfl rfl)))))
  refine S' (t' rfl (ci' rfl hh (fun hh => ?_) (fun hh => ?_)))
  · exact sk' (ew' (Lh hh) rfl rfl rfl)
  refine t' rfl (ci' rfl hh (fun hh => ?_) (fun hh => ?_))
  · exact sk' (ew' (Lh hh) rfl rfl rfl)
  refine t' rfl (ci' rfl hh (fun hh => ?_) (fun hh => ?_))
  · exact sk' (ew' (Lh hh) rfl rfl rfl)
  exact T' rfl (ew' (Lh hh) rfl rfl rfl)
def G7 (op : Int) (kids : List A0) (x1 : Bool) (x2 : Bool) (v46 : Bool) : Option (A0 × Int) :=
  if v46 = true then
    if x2 = true then
      some ((A0.mk 0 0 0 0 [] [] []), 0)
    else
      some ((A0.mk 0 0 0 0 [] [] []), 9)
  else
    if (op == 13) = true then
      Sb op kids x1 x2 (op == 13)
    else
      Sb op kids x1 x2 (op == 14)
theorem Um {op kids x1 x2 v46 res} (hh : G7 op kids x1 x2 v46 = some res) : JM C 103 0 Tryz.f89 [1, 1, 1, 0, 1, 4, 1, 3, 1] [(0, .d (.int .i64 op)), (1, .d (.sl (A0.rows kids))), (4, .ref 0 0), (6, .clo 155 []), (7, .d (.bool x1)), (8, .d (.bool x2)), (16, .d (.int .i64 op)), (46, .d (.bool v46))] [.row [.d (.int .i64 0), .d (.int .i64 0), .d (.int .i64 0), .d (.int .i64 0), .d (.str []), .full (estr.rows []), .full (A0.rows [])] 40] (Ret [] (.tup [.agg (A0.cells res.1), .d (.int .i64 res.2)])) := by
  unfold G7 at hh
  refine ci' rfl hh (fun hh => ?_) (fun hh => ?_)
  · refine t' rfl (ci' rfl hh (fun hh => ?_) (fun hh => ?_))
    · cases hh
      exact p' 1 rfl (I0.s hC rfl (e' rfl (re' (rt' rfl rfl rfl))))
    cases hh
    exact sk' (p' 1 rfl (I0.s hC rfl (e' rfl (re' (rt' rfl rfl rfl)))))
  refine S' (t' rfl (ci' rfl hh (fun hh => ?_) (fun hh => ?_)))
  · exact sk' (ew' (Gv hh) rfl rfl rfl)
  exact T' rfl (ew' (Gv hh) rfl rfl rfl)
def J9 (op : Int) (kids : List A0) : Option (A0 × Int) :=
  L6 1 kids >>= fun x1 =>
  L6 0 kids >>= fun x2 =>
  if (op == 6) = true then
    if x1 = true then
      idx kids 0 >>= fun x3 =>
      idx kids 0 >>= fun x4 =>
      G3 (IntKind.i64.wrap (0 - x3.High)) (IntKind.i64.wrap (0 - x4.Low)) >>= fun x5 =>
      Q9 x5 >>= fun x6 =>
      some (x6.1, x6.2)
    else
      some ((A0.mk 0 0 0 0 [] [] []), 9)
  else
    if (op == 7) = true then
      G7 op kids x1 x2 (op == 7)
    else
      if (op == 19) = true then
        G7 op kids x1 x2 (op == 19)
      else
        G7 op kids x1 x2 (op == 20)
theorem R1g {op kids res} (hh : J9 op kids = some res) : S0 C 89 [.d (.int .i64 op), .d (.sl (A0.rows kids))] [] (Ret [] (.tup [.agg (A0.cells res.1), .d (.int .i64 res.2)])) := by
  unfold J9 at hh
  obtain ⟨x1, hx1, hh⟩ := bs' hh
  obtain ⟨x2, hx2, hh⟩ := bs' hh
  refine S0.intro hC Tryz.func89 rfl rfl rfl (s' rfl rfl (I0.nf hC rfl (e' rfl (t' rfl (p' 2 rfl (c' (Xh hx1) rfl rfl (o' 2 rfl (c' (Xh hx2) rfl rfl (e' rfl (S' (t' rfl (bk' (t' rfl (ci' rfl hh (fun hh => ?_) (fun hh => ?_)))))))))))))))
  · refine t' rfl (ci' rfl hh (fun hh => ?_) (fun hh => ?_))
    · obtain ⟨x3, hx3, hh⟩ := bs' hh
      obtain ⟨x4, hx4, hh⟩ := bs' hh
      obtain ⟨x5, hx5, hh⟩ := bs' hh
      obtain ⟨x6, hx6, hh⟩ := bs' hh
      cases hh
      exact S' (AEx.draw hC 14 rfl rfl rfl (Q' rfl (AQ.i hC rfl (W0 hx3) (A0.idx hx3) rfl (O' 4 rfl (AQ.i hC rfl (W0 hx4) (A0.idx hx4) rfl (O' 3 rfl (Qc' (U4 hx5) rfl rfl (Qc' (Qy hx6) rfl rfl (E' rfl (I0.s hC rfl (e' rfl (re' (rt' rfl rfl rfl)))))))))))))
    cases hh
    exact sk' (p' 1 rfl (I0.s hC rfl (e' rfl (re' (rt' rfl rfl rfl)))))
  refine S' (t' rfl (ci' rfl hh (fun hh => ?_) (fun hh => ?_)))
  · exact sk' (ew' (Um hh) rfl rfl rfl)
  refine t' rfl (ci' rfl hh (fun hh => ?_) (fun hh => ?_))
  · exact sk' (ew' (Um hh) rfl rfl rfl)
  exact T' rfl (ew' (Um hh) rfl rfl rfl)
def M9 (s : Option J0) (e : C0) (kids1 : List A0) (v51 : Bool) : Option (A0 × Int) :=
  if v51 = true then
    some ((A0.mk 0 0 0 0 [] [] []), 0)
  else
    if (e.Op == 3) = true then
      Y5 s e.Name >>= fun x4 =>
      if (!x4.2) = true then
        some ((A0.mk 0 0 0 0 [] [] []), 7)
      else
        some (x4.1.typ, 0)
    else
      if (e.Op == 4) = true then
        idx kids1 0 >>= fun x5 =>
        V7 x5 e.Name >>= fun x6 =>
        some (x6.1, x6.2)
      else
        if (e.Op == 5) = true then
          idx kids1 0 >>= fun x7 =>
          (if (!(x7.Kind != 2)) = true then idx kids1 1 else some default) >>= fun x8 =>
          if (bif (x7.Kind != 2) then true else (x8.Kind != 1)) = true then
            some ((A0.mk 0 0 0 0 [] [] []), 9)
          else
            idx kids1 0 >>= fun x9 =>
            idx x9.Of 0 >>= fun x10 =>
            some (x10, 0)
        else
          J9 e.Op kids1 >>= fun x11 =>
          some (x11.1, x11.2)
theorem B12 {s e kids1 v51 res} (hh : M9 s e kids1 v51 = some res) : JM C 106 0 Tryz.f42 [1, 1, 1, 0, 1, 4, 1, 3, 1] [(0, .d (.bxo (J0.opt s))), (3, .ref 0 0), (4, .ref 1 0), (6, .osl 2 (A0.rows kids1)), (40, .d (.int .i64 e.Op)), (51, .d (.bool v51))] [.row (C0.cells e) 34, .row [.d (.int .i64 0), .d (.int .i64 0), .d (.int .i64 0), .d (.int .i64 0), .d (.str []), .full (estr.rows []), .full (A0.rows [])] 40, .tok 40 7] (Ret [] (.tup [.agg (A0.cells res.1), .d (.int .i64 res.2)])) := by
  unfold M9 at hh
  refine ci' rfl hh (fun hh => ?_) (fun hh => ?_)
  · cases hh
    exact p' 1 rfl (I0.s hC rfl (e' rfl (re' (rt' rfl rfl rfl))))
  refine t' rfl (ci' rfl hh (fun hh => ?_) (fun hh => ?_))
  · obtain ⟨x4, hx4, hh⟩ := bs' hh
    refine p' 3 rfl (c' (Tm hx4) rfl rfl (o' 3 rfl (I0.nf hC rfl (I0.s hC rfl (e' rfl (S' (t' rfl (ci' rfl hh (fun hh => ?_) (fun hh => ?_)))))))))
    · cases hh
      exact p' 1 rfl (I0.s hC rfl (e' rfl (re' (rt' rfl rfl rfl))))
    cases hh
    exact sk' (p' 2 rfl (I0.s hC rfl (e' rfl (re' (rt' rfl rfl rfl)))))
  refine t' rfl (ci' rfl hh (fun hh => ?_) (fun hh => ?_))
  · obtain ⟨x5, hx5, hh⟩ := bs' hh
    obtain ⟨x6, hx6, hh⟩ := bs' hh
    cases hh
    exact S' (AEx.draw hC 8 rfl rfl rfl (Q' rfl (AQ.i hC rfl (W0 hx5) (A0.idx hx5) rfl (O' 3 rfl (Qc' (P1g hx6) rfl rfl (E' rfl (I0.s hC rfl (e' rfl (re' (rt' rfl rfl rfl))))))))))
  refine t' rfl (ci' rfl hh (fun hh => ?_) (fun hh => ?_))
  · obtain ⟨x7, hx7, hh⟩ := bs' hh
    obtain ⟨x8, hx8, hh⟩ := bs' hh
    refine S' (sg' 12 rfl (a0' rfl (AG.i hC rfl rfl (fun _ => trivial) (fun hw => ⟨W0 hx7, A0.idx hx7, rfl⟩) (G' 5 rfl (AG.i hC rfl rfl (fun hg => ⟨hg, trivial⟩) (fun hw => ⟨W0 (T1 hw hx8), A0.idx (T1 hw hx8), rfl⟩) (a1' rfl (a1' rfl (a1' rfl (po' rfl (an' (n' (ci' rfl hh (fun hh => ?_) (fun hh => ?_)))))))))))))
    · cases hh
      exact p' 1 rfl (I0.s hC rfl (e' rfl (re' (rt' rfl rfl rfl))))
    obtain ⟨x9, hx9, hh⟩ := bs' hh
    obtain ⟨x10, hx10, hh⟩ := bs' hh
    cases hh
    exact sk' (p' 1 rfl (i' rfl (W0 hx9) (A0.idx hx9) rfl (o' 2 rfl (i' rfl (W0 hx10) (A0.idx hx10) rfl (q' rfl (I0.s hC rfl (e' rfl (re' (rt' rfl rfl rfl)))))))))
  obtain ⟨x11, hx11, hh⟩ := bs' hh
  cases hh
  exact sk' (p' 3 rfl (I0.cl rfl (R1g hx11) ⟨.rfl, ⟨.osl, trivial⟩⟩ rfl (o' 2 rfl (I0.s hC rfl (e' rfl (re' (rt' rfl rfl rfl)))))))
mutual
def G4 (s : Option J0) (e : C0) : Option (A0 × Int) :=
  if (decide (0 ≤ ((e.Kids).length : Int) ∧ ((e.Kids).length : Int).toNat * 97 ≤ 140737488355328)) = true then
    C8 s e [] 0
  else none
  partial_fixpoint
def C8 (s : Option J0) (e : C0) (kids : List A0) (v20 : Int) : Option (A0 × Int) :=
  if (decide (v20 < ((e.Kids).length : Int))) = true then
    idx e.Kids v20 >>= fun x1 =>
    G4 s x1 >>= fun x12 =>
    if (x12.2 != 0) = true then
      some ((A0.mk 0 0 0 0 [] [] []), x12.2)
    else
      if (decide ((kids.length + 1) * 97 ≤ 140737488355328)) = true then
        C8 s e (kids ++ [x12.1]) (IntKind.i64.wrap (v20 + 1))
      else none
  else
    if (e.Op == 0) = true then
      G3 e.NV e.NV >>= fun x2 =>
      Q9 x2 >>= fun x3 =>
      some (x3.1, x3.2)
    else
      if (e.Op == 1) = true then
        M9 s e kids (e.Op == 1)
      else
        M9 s e kids (e.Op == 2)
  partial_fixpoint
end
abbrev Z1c (s : Option J0) (e : C0) (res : A0 × Int) : Prop := S0 C 42 [.d (.bxo (J0.opt s)), .agg (C0.cells e)] [] (Ret [] (.tup [.agg (A0.cells res.1), .d (.int .i64 res.2)]))
abbrev H15 (s : Option J0) (e : C0) (kids : List A0) (v20 : Int) (res : A0 × Int) : Prop := LM C 106 0 Tryz.f42 [1, 1, 0, 1, 4] [(0, .d (.bxo (J0.opt s))), (3, .ref 0 0), (4, .ref 1 0), (6, .osl 2 (A0.rows kids)), (18, .d (.sl (C0.rows e.Kids))), (19, .d (.int .i64 ((e.Kids).length : Int))), (20, .d (.int .i64 v20))] [.row (C0.cells e) 34, .row [.d (.int .i64 0), .d (.int .i64 0), .d (.int .i64 0), .d (.int .i64 0), .d (.str []), .full (estr.rows []), .full (A0.rows [])] 40, .tok 40 7] (Ret [] (.tup [.agg (A0.cells res.1), .d (.int .i64 res.2)]))
theorem H18 (s : Option J0) : (∀ e res, G4 s e = some res → Z1c s e res) ∧ (∀ e kids v20 res, C8 s e kids v20 = some res → H15 s e kids v20 res) := by
  refine G4.mutual_partial_correctness s _ _ ?_ ?_
  · intro g1 ih1 e res hh
    obtain ⟨c10, hh⟩ := U1 hh
    exact S0.intro hC Tryz.func42 rfl rfl rfl (s' rfl rfl (I0.n hC rfl (I0.nf hC rfl (e' rfl (p' 2 rfl (qe' rfl trivial (C0.lenA _) (I0.mz hC rfl c10 rfl (e' rfl (S' (p' 2 rfl (qe' rfl trivial (C0.lenA _) (e' rfl (bk' (fw' (ih1 _ _ _ _ hh) rfl rfl rfl))))))))))))))
  · intro g0 g1 ih0 ih1 e kids v20 res hh
    refine Z0.unroll (t' rfl (S' (ci' rfl hh (fun hh => ?_) (fun hh => ?_))))
    · obtain ⟨x1, hx1, hh⟩ := bs' hh
      obtain ⟨x12, hx12, hh⟩ := bs' hh
      refine sk' (S' (bk' (s' rfl rfl (i' rfl (W0 hx1) (C0.idx hx1) rfl (q' rfl (I0.nf hC rfl (I0.s hC rfl (n' (p' 2 rfl (c' (ih0 _ _ hx12) rfl rfl (o' 3 rfl (I0.nf hC rfl (I0.s hC rfl ?_)))))))))))))
      refine e' rfl (S' (t' rfl (ci' rfl hh (fun hh => ?_) (fun hh => ?_))))
      · cases hh
        exact p' 2 rfl (I0.s hC rfl (e' rfl (re' (rt' rfl rfl rfl))))
      obtain ⟨c11, hh⟩ := U1 hh
      exact sk' (P' 2 rfl (I0.be hC rfl (A0.rows_map [x12.1]).symm (I0.ap hC rfl (rs := A0.rows (kids ++ [x12.1])) (A0.app kids [x12.1]) (A0.sz kids) (A0.sz [x12.1]) (V6 (A0.len kids) (A0.len [x12.1]) c11) (e' rfl (T' rfl (lw' (ih1 _ _ _ _ hh) rfl rfl rfl))))))
    refine ex' (S' (t' rfl (bk' (t' rfl (ci' rfl hh (fun hh => ?_) (fun hh => ?_))))))
    · obtain ⟨x2, hx2, hh⟩ := bs' hh
      obtain ⟨x3, hx3, hh⟩ := bs' hh
      cases hh
      exact p' 4 rfl (c' (U4 hx2) rfl rfl (c' (Qy hx3) rfl rfl (o' 2 rfl (I0.s hC rfl (e' rfl (re' (rt' rfl rfl rfl)))))))
    refine S' (t' rfl (ci' rfl hh (fun hh => ?_) (fun hh => ?_)))
    · exact sk' (ew' (B12 hh) rfl rfl rfl)
    exact T' rfl (ew' (B12 hh) rfl rfl rfl)
theorem N1 {s e res} (hh : G4 s e = some res) : Z1c s e res := (H18 s).1 _ _ hh
theorem G29 {s e kids v20 res} (hh : C8 s e kids v20 = some res) : H15 s e kids v20 res := (H18 s).2 _ _ _ _ hh
def Qi (e : C0) : Option Bool :=
  some (bif (bif (e.Op == 3) then true else (e.Op == 4)) then true else (e.Op == 5))
theorem B1k {e res} (hh : Qi e = some res) : S0 C 112 [.agg (C0.cells e)] [] (Ret [] (.d (.bool res))) := by
  unfold Qi at hh
  cases hh
  refine S0.intro hC Tryz.func112 rfl rfl rfl (s' rfl rfl (I0.n hC rfl (e' rfl (sg' 14 rfl (G' 5 rfl (a1' rfl (a1' rfl (po' rfl (G' 2 rfl (a1' rfl (a1' rfl (po' rfl (a0' rfl ?_)))))))))))))
  exact an' (n' (re' (rt' rfl rfl rfl)))
mutual
def Cg (a : A0) (b : A0) : Option Bool :=
  (if (bif (bif (bif (bif (a.Kind == b.Kind) then (a.Low == b.Low) else false) then (a.High == b.High) else false) then (a.Size == b.Size) else false) then (a.Name == b.Name) else false) = true then T3 a.Names b.Names else some default) >>= fun x1 =>
  (if (bif (bif (bif (bif (bif (a.Kind == b.Kind) then (a.Low == b.Low) else false) then (a.High == b.High) else false) then (a.Size == b.Size) else false) then (a.Name == b.Name) else false) then x1 else false) = true then L1 a.Of b.Of else some default) >>= fun x2 =>
  some (bif (bif (bif (bif (bif (bif (a.Kind == b.Kind) then (a.Low == b.Low) else false) then (a.High == b.High) else false) then (a.Size == b.Size) else false) then (a.Name == b.Name) else false) then x1 else false) then x2 else false)
  partial_fixpoint
def L1 (s1 : List A0) (s2 : List A0) : Option Bool :=
  if (((s1).length : Int) != ((s2).length : Int)) = true then
    some false
  else
    C1 s1 s2 0
  partial_fixpoint
def C1 (s1 : List A0) (s2 : List A0) (v17 : Int) : Option Bool :=
  if (decide (v17 < ((s1).length : Int))) = true then
    idx s1 v17 >>= fun x1 =>
    idx s2 v17 >>= fun x2 =>
    Cg x1 x2 >>= fun x3 =>
    if (!x3) = true then
      some false
    else
      C1 s1 s2 (IntKind.i64.wrap (v17 + 1))
  else
    some true
  partial_fixpoint
end
abbrev G1l (a : A0) (b : A0) (res : Bool) : Prop := S0 C 181 [.agg (A0.cells a), .agg (A0.cells b)] [] (Ret [] (.d (.bool res)))
abbrev K9 (s1 : List A0) (s2 : List A0) (res : Bool) : Prop := S0 C 208 [.d (.sl (A0.rows s1)), .d (.sl (A0.rows s2)), .clo 181 []] [] (Ret [] (.d (.bool res)))
abbrev Q8 (s1 : List A0) (s2 : List A0) (v17 : Int) (res : Bool) : Prop := LM C 32 0 Tryz.f208 [1, 1, 0, 1, 4] [(1, .d (.sl (A0.rows s2))), (2, .clo 181 []), (15, .d (.sl (A0.rows s1))), (16, .d (.int .i64 ((s1).length : Int))), (17, .d (.int .i64 v17))] [] (Ret [] (.d (.bool res)))
theorem C12 : (∀ a b res, Cg a b = some res → G1l a b res) ∧ (∀ s1 s2 res, L1 s1 s2 = some res → K9 s1 s2 res) ∧ (∀ s1 s2 v17 res, C1 s1 s2 v17 = some res → Q8 s1 s2 v17 res) := by
  refine Cg.mutual_partial_correctness _ _ _ ?_ ?_ ?_
  · intro g1 ih1 a b res hh
    obtain ⟨x1, hx1, hh⟩ := bs' hh
    obtain ⟨x2, hx2, hh⟩ := bs' hh
    cases hh
    refine S0.intro hC Tryz.func181 rfl rfl rfl (s' rfl rfl (I0.n hC rfl (I0.n hC rfl (e' rfl (sg' 48 rfl (G' 7 rfl (a1' rfl (a0' rfl (a1' rfl (a2' rfl (pa' rfl (G' 2 rfl (a1' rfl ?_)))))))))))))
    refine a0' rfl (a1' rfl (a2' rfl (pa' rfl (G' 2 rfl (a1' rfl (a0' rfl (a1' rfl (a2' rfl (pa' rfl (G' 2 rfl (a1' rfl (a0' rfl (a1' rfl ?_)))))))))))))
    refine a2' rfl (pa' rfl (G' 2 rfl (a1' rfl (a0' rfl (a1' rfl (AG.c rfl rfl (fun hg => ⟨hg, hg, trivial⟩) (fun hw => Vq (T1 hw hx1)) (pa' rfl (G' 2 rfl (a1' rfl (a0' rfl (a1' rfl (AG.c rfl rfl (fun hg => ⟨hg, hg, trivial⟩) (fun hw => ih1 _ _ _ (T1 hw hx2)) (pa' rfl ?_)))))))))))))
    exact a0' rfl (an' (n' (re' (rt' rfl rfl rfl))))
  · intro g2 ih2 s1 s2 res hh
    refine S0.intro hC Tryz.func208 rfl rfl rfl (t' rfl (S' (p' 1 rfl (qe' rfl trivial (A0.lenA _) (q' rfl (qe' rfl trivial (A0.lenA _) (e' rfl (ci' rfl hh (fun hh => ?_) (fun hh => ?_)))))))))
    · cases hh
      exact t' rfl (re' (rt' rfl rfl rfl))
    exact sk' (S' (p' 1 rfl (qe' rfl trivial (A0.lenA _) (e' rfl (bk' (fw' (ih2 _ _ _ _ hh) rfl rfl rfl))))))
  · intro g0 g2 ih0 ih2 s1 s2 v17 res hh
    refine Z0.unroll (t' rfl (S' (ci' rfl hh (fun hh => ?_) (fun hh => ?_))))
    · obtain ⟨x1, hx1, hh⟩ := bs' hh
      obtain ⟨x2, hx2, hh⟩ := bs' hh
      obtain ⟨x3, hx3, hh⟩ := bs' hh
      refine sk' (S' (bk' (p' 1 rfl (i' rfl (W0 hx1) (A0.idx hx1) rfl (q' rfl (I0.nf hC rfl (q' rfl (I0.s hC rfl (n' (p' 2 rfl (i' rfl (W0 hx2) (A0.idx hx2) rfl (q' rfl (I0.nf hC rfl ?_)))))))))))))
      refine I0.s hC rfl (n' (p' 3 rfl (c' (ih0 _ _ _ hx3) rfl rfl (e' rfl (ci' rfl hh (fun hh => ?_) (fun hh => ?_))))))
      · cases hh
        exact t' rfl (re' (rt' rfl rfl rfl))
      exact sk' (T' rfl (lw' (ih2 _ _ _ _ hh) rfl rfl rfl))
    cases hh
    exact ex' (t' rfl (re' (rt' rfl rfl rfl)))
theorem R1w {a b res} (hh : Cg a b = some res) : G1l a b res := (C12).1 _ _ _ hh
theorem R14 {s1 s2 res} (hh : L1 s1 s2 = some res) : K9 s1 s2 res := (C12).2.1 _ _ _ hh
theorem L11 {s1 s2 v17 res} (hh : C1 s1 s2 v17 = some res) : Q8 s1 s2 v17 res := (C12).2.2 _ _ _ _ hh
def C7 (fromV : A0) (to : A0) (place : Bool) : Option Bool :=
  P7 fromV >>= fun x1 =>
  (if (!x1) = true then P7 to else some default) >>= fun x2 =>
  if (bif x1 then true else x2) = true then
    some (fromV.Kind == to.Kind)
  else
    (if place = true then Cg fromV to else some default) >>= fun x3 =>
    some (bif place then x3 else false)
theorem Cp {fromV to place res} (hh : C7 fromV to place = some res) : S0 C 111 [.agg (A0.cells fromV), .agg (A0.cells to), .d (.bool place)] [] (Ret [] (.d (.bool res))) := by
  unfold C7 at hh
  obtain ⟨x1, hx1, hh⟩ := bs' hh
  obtain ⟨x2, hx2, hh⟩ := bs' hh
  refine S0.intro hC Tryz.func111 rfl rfl rfl (s' rfl rfl (I0.n hC rfl (I0.n hC rfl (e' rfl (S' (sg' 6 rfl (a0' rfl (AG.c rfl rfl (fun _ => trivial) (fun _ => Qo hx1) (G' 2 rfl (AG.c rfl rfl (fun hg => ⟨hg, trivial⟩) (fun hw => Qo (T1 hw hx2)) (po' rfl (an' (n' (ci' rfl hh (fun hh => ?_) (fun hh => ?_)))))))))))))))
  · cases hh
    exact t' rfl (re' (rt' rfl rfl rfl))
  obtain ⟨x3, hx3, hh⟩ := bs' hh
  cases hh
  exact sk' (sg' 7 rfl (G' 4 rfl (AG.c rfl rfl (fun hg => ⟨hg, hg, trivial⟩) (fun hw => R1w (T1 hw hx3)) (pa' rfl (a0' rfl (an' (n' (re' (rt' rfl rfl rfl)))))))))
def Da (s : Option J0) (e : C0) (to : A0) : Option Int :=
  G4 s e >>= fun x1 =>
  (if (x1.2 == 0) = true then Qi e else some default) >>= fun x2 =>
  (if (x1.2 == 0) = true then C7 x1.1 to x2 else some default) >>= fun x3 =>
  if (bif (x1.2 == 0) then (!x3) else false) = true then
    some 9
  else
    some x1.2
theorem Vp {s e to res} (hh : Da s e to = some res) : S0 C 57 [.d (.bxo (J0.opt s)), .agg (C0.cells e), .agg (A0.cells to)] [] (Ret [] (.d (.int .i64 res))) := by
  unfold Da at hh
  obtain ⟨x1, hx1, hh⟩ := bs' hh
  obtain ⟨x2, hx2, hh⟩ := bs' hh
  obtain ⟨x3, hx3, hh⟩ := bs' hh
  refine S0.intro hC Tryz.func57 rfl rfl rfl (s' rfl rfl (I0.n hC rfl (I0.n hC rfl (e' rfl (p' 2 rfl (c' (N1 hx1) rfl rfl (o' 3 rfl (I0.nf hC rfl (I0.s hC rfl (e' rfl (S' (S' (AEx.drawG hC 10 rfl rfl rfl ?_)))))))))))))
  refine G' 6 rfl (AG.c rfl rfl (fun hg => ⟨hg, trivial⟩) (fun hw => B1k (T1 hw hx2)) (AG.c rfl rfl (fun hg => ⟨hg, hg, hg, trivial⟩) (fun hw => Cp (T1 hw hx3)) (a1' rfl (pa' rfl (an' (n' (ci' rfl hh (fun hh => ?_) (fun hh => ?_))))))))
  · cases hh
    exact T' rfl (t' rfl (re' (rt' rfl rfl rfl)))
  cases hh
  exact sk' (t' rfl (re' (rt' rfl rfl rfl)))
def U6 (o0 : C0) : Option Str :=
  if (bif (o0.Op != 3) then (decide (((o0.Kids).length : Int) > 0)) else false) = true then
    idx o0.Kids 0 >>= fun x1 =>
    U6 x1
  else
    some o0.Name
  partial_fixpoint
abbrev I15 (o0 : C0) (res : Str) : Prop := LM C 18 0 Tryz.f182 [1, 0, 4] [(1, .ref 0 0)] [.row (C0.cells o0) 34] (Ret [] (.d (.str res)))
theorem L1i : (∀ o0 res, U6 o0 = some res → I15 o0 res) := by
  refine U6.partial_correctness _ ?_
  · intro g0 ih0 o0 res hh
    refine Z0.unroll (S' (sg' 9 rfl (G' 5 rfl (a1' rfl (AG.qe hC rfl (fun hg => ⟨⟨hg, trivial⟩, trivial⟩) (C0.lenA _) (a1' rfl (pa' rfl (an' (n' (ci' rfl hh (fun hh => ?_) (fun hh => ?_)))))))))))
    · obtain ⟨x1, hx1, hh⟩ := bs' hh
      exact sk' (bk' (P' 2 rfl (i' rfl (W0 hx1) (C0.idx hx1) rfl (q' rfl (I0.s hC rfl (n' (lw' (ih0 _ _ hh) rfl rfl rfl)))))))
    cases hh
    exact ex' (t' rfl (re' (rt' rfl rfl rfl)))
theorem C1k {o0 res} (hh : U6 o0 = some res) : I15 o0 res := (L1i) _ _ hh
def Hn (e : C0) : Option Str :=
  U6 e
theorem B1q {e res} (hh : Hn e = some res) : S0 C 182 [.agg (C0.cells e)] [] (Ret [] (.d (.str res))) := by
  unfold Hn at hh
  exact S0.intro hC Tryz.func182 rfl rfl rfl (s' rfl rfl (I0.n hC rfl (e' rfl (S' (bk' (fw' (C1k hh) rfl rfl rfl))))))
def Ya (s : Option J0) (e : C0) : Option (A0 × Int) :=
  G4 s e >>= fun x1 =>
  if (x1.2 != 0) = true then
    some ((A0.mk 0 0 0 0 [] [] []), x1.2)
  else
    Hn e >>= fun x2 =>
    Y5 s x2 >>= fun x3 =>
    if x3.1.fixed = true then
      some ((A0.mk 0 0 0 0 [] [] []), 15)
    else
      some (x1.1, 0)
theorem Su {s e res} (hh : Ya s e = some res) : S0 C 113 [.d (.bxo (J0.opt s)), .agg (C0.cells e)] [] (Ret [] (.tup [.agg (A0.cells res.1), .d (.int .i64 res.2)])) := by
  unfold Ya at hh
  obtain ⟨x1, hx1, hh⟩ := bs' hh
  refine S0.intro hC Tryz.func113 rfl rfl rfl (s' rfl rfl (I0.n hC rfl (I0.nf hC rfl (e' rfl (p' 2 rfl (c' (N1 hx1) rfl rfl (o' 3 rfl (I0.nf hC rfl (I0.s hC rfl (e' rfl (S' (t' rfl (ci' rfl hh (fun hh => ?_) (fun hh => ?_))))))))))))))
  · cases hh
    exact p' 2 rfl (I0.s hC rfl (e' rfl (re' (rt' rfl rfl rfl))))
  obtain ⟨x2, hx2, hh⟩ := bs' hh
  obtain ⟨x3, hx3, hh⟩ := bs' hh
  refine sk' (S' (p' 2 rfl (c' (B1q hx2) rfl rfl (c' (Tm hx3) rfl rfl (o' 3 rfl (I0.nf hC rfl (I0.s hC rfl (e' rfl (t' rfl (ci' rfl hh (fun hh => ?_) (fun hh => ?_)))))))))))
  · cases hh
    exact p' 1 rfl (I0.s hC rfl (e' rfl (re' (rt' rfl rfl rfl))))
  cases hh
  exact sk' (p' 1 rfl (I0.s hC rfl (e' rfl (re' (rt' rfl rfl rfl)))))
def J3 (kind : Int) (name : Str) (x1 : List B0) (v19 : Int) : Option Int :=
  if (decide (v19 < ((x1).length : Int))) = true then
    idx x1 v19 >>= fun x2 =>
    if (bif (x2.Kind == kind) then (x2.Name == name) else false) = true then
      some v19
    else
      J3 kind name x1 (IntKind.i64.wrap (v19 + 1))
  else
    some (-1)
  partial_fixpoint
abbrev Vs (kind : Int) (name : Str) (x1 : List B0) (v19 : Int) (res : Int) : Prop := LM C 36 0 Tryz.f183 [1, 0, 1, 4] [(1, .d (.int .i64 kind)), (2, .d (.str name)), (17, .d (.sl (B0.rows x1))), (18, .d (.int .i64 ((x1).length : Int))), (19, .d (.int .i64 v19))] [] (Ret [] (.d (.int .i64 res)))
theorem S14 (kind : Int) (name : Str) (x1 : List B0) : (∀ v19 res, J3 kind name x1 v19 = some res → Vs kind name x1 v19 res) := by
  refine J3.partial_correctness kind name x1 _ ?_
  · intro g0 ih0 v19 res hh
    refine Z0.unroll (t' rfl (S' (ci' rfl hh (fun hh => ?_) (fun hh => ?_))))
    · obtain ⟨x2, hx2, hh⟩ := bs' hh
      refine sk' (S' (bk' (p' 1 rfl (i' rfl (W0 hx2) (B0.idx hx2) rfl (q' rfl (I0.nf hC rfl (q' rfl (I0.s hC rfl (n' (sg' 10 rfl (G' 6 rfl (a1' rfl (a0' rfl ?_)))))))))))))
      refine a2' rfl (pa' rfl (an' (n' (ci' rfl hh (fun hh => ?_) (fun hh => ?_)))))
      · cases hh
        exact t' rfl (re' (rt' rfl rfl rfl))
      exact sk' (T' rfl (lw' (ih0 _ _ hh) rfl rfl rfl))
    cases hh
    exact ex' (t' rfl (re' (rt' rfl rfl rfl)))
theorem P16 {kind name x1 v19 res} (hh : J3 kind name x1 v19 = some res) : Vs kind name x1 v19 res := (S14 kind name x1) _ _ hh
def H7 (c : F0) (kind : Int) (name : Str) (limit : Int) : Option Int :=
  slc c.p.Decls 0 limit >>= fun x1 =>
  J3 kind name x1 0
theorem Hv {c kind name limit res} (hh : H7 c kind name limit = some res) : S0 C 183 [.d (.box (F0.row c)), .d (.int .i64 kind), .d (.str name), .d (.int .i64 limit)] [] (Ret [] (.d (.int .i64 res))) := by
  unfold H7 at hh
  obtain ⟨x1, hx1, hh⟩ := bs' hh
  exact S0.intro hC Tryz.func183 rfl rfl rfl (t' rfl (S' (p' 6 rfl (I0.dx hC rfl (B0.part hx1) (B0.sz _) (qe' rfl trivial (B0.lenA _) (e' rfl (bk' (fw' (P16 hh) rfl rfl rfl))))))))
def K3 (c : F0) (s : Option J0) (x : D0) (x1 : A0 × Int) (x3 : B0) (x2 : Int) (v52 : Int) : Option Int :=
  if (decide (v52 < ((x.Args).length : Int))) = true then
    idx x.Args v52 >>= fun x4 =>
    idx x3.Params v52 >>= fun x5 =>
    C3 c x5.TypeV x2 >>= fun x6 =>
    Da s x4 x6 >>= fun x7 =>
    if (x7 != 0) = true then
      some x7
    else
      K3 c s x x1 x3 x2 (IntKind.i64.wrap (v52 + 1))
  else
    C3 c x3.TypeV x2 >>= fun x8 =>
    C7 x8 x1.1 true >>= fun x9 =>
    if (!x9) = true then
      some 9
    else
      some 0
  partial_fixpoint
abbrev Ws (c : F0) (s : Option J0) (x : D0) (x1 : A0 × Int) (x3 : B0) (x2 : Int) (v52 : Int) (res : Int) : Prop := LM C 81 0 Tryz.f114 [1, 1, 1, 1, 1, 1, 1, 0, 1, 4] [(0, .d (.box (F0.row c))), (1, .d (.bxo (J0.opt s))), (7, .ref 1 0), (9, .d (.int .i64 x2)), (10, .ref 2 0), (50, .d (.sl (C0.rows x.Args))), (51, .d (.int .i64 ((x.Args).length : Int))), (52, .d (.int .i64 v52))] [.dead, .row (A0.cells x1.1) 40, .row (B0.cells x3) 59] (Ret [] (.d (.int .i64 res)))
theorem T14 (c : F0) (s : Option J0) (x : D0) (x1 : A0 × Int) (x3 : B0) (x2 : Int) : (∀ v52 res, K3 c s x x1 x3 x2 v52 = some res → Ws c s x x1 x3 x2 v52 res) := by
  refine K3.partial_correctness c s x x1 x3 x2 _ ?_
  · intro g0 ih0 v52 res hh
    refine Z0.unroll (t' rfl (S' (ci' rfl hh (fun hh => ?_) (fun hh => ?_))))
    · obtain ⟨x4, hx4, hh⟩ := bs' hh
      obtain ⟨x5, hx5, hh⟩ := bs' hh
      obtain ⟨x6, hx6, hh⟩ := bs' hh
      obtain ⟨x7, hx7, hh⟩ := bs' hh
      refine sk' (S' (bk' (p' 1 rfl (i' rfl (W0 hx4) (C0.idx hx4) rfl (q' rfl (I0.nf hC rfl (q' rfl (I0.s hC rfl (n' (S' (AEx.draw hC 13 rfl rfl rfl (O' 6 rfl (AQ.i hC rfl (W0 hx5) (B0.idx hx5) rfl ?_)))))))))))))
      refine O' 3 rfl (Qc' (F9 hx6) rfl rfl (Qc' (Vp hx7) rfl rfl (E' rfl (n' (t' rfl (ci' rfl hh (fun hh => ?_) (fun hh => ?_)))))))
      · cases hh
        exact t' rfl (re' (rt' rfl rfl rfl))
      refine sk' (T' rfl ?_)
      refine Z0.wk ?_ (ih0 _ _ hh)
      exact ⟨⟨⟨.rfl, rfl⟩, ⟨⟨.rfl, rfl⟩, ⟨⟨.rfl, rfl⟩, ⟨⟨.rfl, rfl⟩, ⟨⟨.rfl, rfl⟩, ⟨⟨.rfl, rfl⟩, ⟨⟨.rfl, rfl⟩, ⟨⟨.rfl, rfl⟩, trivial⟩⟩⟩⟩⟩⟩⟩⟩, ⟨trivial, ⟨⟨rfl, .refl _, rfl⟩, ⟨⟨rfl, .refl _, rfl⟩, trivial⟩⟩⟩, rfl⟩
    obtain ⟨x8, hx8, hh⟩ := bs' hh
    obtain ⟨x9, hx9, hh⟩ := bs' hh
    refine ex' (S' (S' (AEx.draw hC 8 rfl rfl rfl (O' 4 rfl (Qc' (F9 hx8) rfl rfl (Q' rfl (Qc' (Cp hx9) rfl rfl (E' rfl (n' (ci' rfl hh (fun hh => ?_) (fun hh => ?_)))))))))))
    · cases hh
      exact t' rfl (re' (rt' rfl rfl rfl))
    cases hh
    exact sk' (t' rfl (re' (rt' rfl rfl rfl)))
theorem Q16 {c s x x1 x3 x2 v52 res} (hh : K3 c s x x1 x3 x2 v52 = some res) : Ws c s x x1 x3 x2 v52 res := (T14 c s x x1 x3 x2) _ _ hh
end Go.Proofs.YtdkabnfphmmmnaaGreatDoor

