/- A part of the proof of TypecheckWider. -/
import Derived.Test.YtdkabnfphmmmnaaGreatDoorXxA
import Derived.Test.YtdkabnfphmmmnaaGreatDoorAmB
set_option maxRecDepth 100000
set_option maxHeartbeats 4000000
set_option synthInstance.maxSize 2000
set_option linter.unusedVariables false
namespace Go.Proofs.YtdkabnfphmmmnaaGreatDoor
open Go.Am
instance : Nonempty (W1 C) := ⟨hC⟩
def ebool.zero : Bool := false
def ebool.leaf (x : Bool) : D := .bool x
def ebool.cells (l : List Bool) : List A := l.map fun x => .d (ebool.leaf x)
def ebool.row (x : Bool) : Row := [.bool x]
def ebool.rows (l : List Bool) : List Row := l.map ebool.row
theorem ebool.rows_map (l : List Bool) : ebool.rows l = l.map ebool.row := rfl
theorem ebool.idx {l : List Bool} {n : Int} {x : Bool} (h : idx l n = some x) : (ebool.rows l)[n.toNat]? = some (ebool.row x) := A7 ebool.rows_map h
theorem ebool.app (l m : List Bool) : ebool.rows (l ++ m) = ebool.rows l ++ ebool.rows m := B7 ebool.rows_map l m
theorem ebool.len (l : List Bool) : (ebool.rows l).length = l.length := K6 ebool.rows_map l
theorem ebool.lenA (l : List Bool) : A.d (.int .i64 ((ebool.rows l).length : Nat)) = A.d (.int .i64 (l.length : Nat)) := N5 ebool.rows_map l
theorem ebool.sz (l : List Bool) : ∀ r ∈ ebool.rows l, r.length = 1 := W8 ebool.rows_map (fun _ => rfl) l
theorem ebool.part {l x : List Bool} {a b : Int} (h : slc l a b = some x) : a = (a.toNat : Int) ∧ b = (b.toNat : Int) ∧ a.toNat ≤ b.toNat ∧ b.toNat ≤ (ebool.rows l).length ∧ ebool.rows x = ((ebool.rows l).take b.toNat).drop a.toNat := O5 ebool.rows_map h
def ebool.ents (m : List (Str × Bool)) : List (Str × Row) := P6 ebool.row m
def ebool.val (x : Bool) : A := .d (.bool x)
theorem ebool.lkT {k : Str} {m : List (Str × Bool)} {x : Option Bool} (hx : some (mgt k m) = some x) : lkA (V3 k (ebool.ents m)) (ebool.val ebool.zero) true = .tup [ebool.val (x.getD ebool.zero), .d (.bool x.isSome)] := Wi (h := ebool.val) (fun _ => rfl) rfl hx
theorem ebool.lk {k : Str} {m : List (Str × Bool)} {x : Option Bool} (hx : some (mgt k m) = some x) : lkA (V3 k (ebool.ents m)) (ebool.val ebool.zero) false = ebool.val (x.getD ebool.zero) := Xi (h := ebool.val) (fun _ => rfl) rfl hx
theorem ebool.lkNT {x : Option Bool} (hx : some none = some x) : lkA none (ebool.val ebool.zero) true = .tup [ebool.val (x.getD ebool.zero), .d (.bool x.isSome)] := He (h := ebool.val) rfl hx
theorem ebool.lkN {x : Option Bool} (hx : some none = some x) : lkA none (ebool.val ebool.zero) false = ebool.val (x.getD ebool.zero) := Ie (h := ebool.val) rfl hx
theorem ebool.mput (k : Str) (x : Bool) (m : List (Str × Bool)) : mput k (ebool.row x) (ebool.ents m) = ebool.ents (mpt k x m) := (L6 ebool.row k x m).symm
def estr.zero : Str := []
def estr.leaf (x : Str) : D := .str x
def estr.cells (l : List Str) : List A := l.map fun x => .d (estr.leaf x)
def estr.row (x : Str) : Row := [.str x]
def estr.rows (l : List Str) : List Row := l.map estr.row
theorem estr.rows_map (l : List Str) : estr.rows l = l.map estr.row := rfl
theorem estr.idx {l : List Str} {n : Int} {x : Str} (h : idx l n = some x) : (estr.rows l)[n.toNat]? = some (estr.row x) := A7 estr.rows_map h
theorem estr.app (l m : List Str) : estr.rows (l ++ m) = estr.rows l ++ estr.rows m := B7 estr.rows_map l m
theorem estr.len (l : List Str) : (estr.rows l).length = l.length := K6 estr.rows_map l
theorem estr.lenA (l : List Str) : A.d (.int .i64 ((estr.rows l).length : Nat)) = A.d (.int .i64 (l.length : Nat)) := N5 estr.rows_map l
theorem estr.sz (l : List Str) : ∀ r ∈ estr.rows l, r.length = 1 := W8 estr.rows_map (fun _ => rfl) l
theorem estr.part {l x : List Str} {a b : Int} (h : slc l a b = some x) : a = (a.toNat : Int) ∧ b = (b.toNat : Int) ∧ a.toNat ≤ b.toNat ∧ b.toNat ≤ (estr.rows l).length ∧ estr.rows x = ((estr.rows l).take b.toNat).drop a.toNat := O5 estr.rows_map h
def estr.ents (m : List (Str × Str)) : List (Str × Row) := P6 estr.row m
def estr.val (x : Str) : A := .d (.str x)
theorem estr.lkT {k : Str} {m : List (Str × Str)} {x : Option Str} (hx : some (mgt k m) = some x) : lkA (V3 k (estr.ents m)) (estr.val estr.zero) true = .tup [estr.val (x.getD estr.zero), .d (.bool x.isSome)] := Wi (h := estr.val) (fun _ => rfl) rfl hx
theorem estr.lk {k : Str} {m : List (Str × Str)} {x : Option Str} (hx : some (mgt k m) = some x) : lkA (V3 k (estr.ents m)) (estr.val estr.zero) false = estr.val (x.getD estr.zero) := Xi (h := estr.val) (fun _ => rfl) rfl hx
theorem estr.lkNT {x : Option Str} (hx : some none = some x) : lkA none (estr.val estr.zero) true = .tup [estr.val (x.getD estr.zero), .d (.bool x.isSome)] := He (h := estr.val) rfl hx
theorem estr.lkN {x : Option Str} (hx : some none = some x) : lkA none (estr.val estr.zero) false = estr.val (x.getD estr.zero) := Ie (h := estr.val) rfl hx
theorem estr.mput (k : Str) (x : Str) (m : List (Str × Str)) : mput k (estr.row x) (estr.ents m) = estr.ents (mpt k x m) := (L6 estr.row k x m).symm
def ei8.zero : Int := 0
def ei8.leaf (x : Int) : D := .int .i8 x
def ei8.cells (l : List Int) : List A := l.map fun x => .d (ei8.leaf x)
def ei8.row (x : Int) : Row := [.int .i8 x]
def ei8.rows (l : List Int) : List Row := l.map ei8.row
theorem ei8.rows_map (l : List Int) : ei8.rows l = l.map ei8.row := rfl
theorem ei8.idx {l : List Int} {n : Int} {x : Int} (h : idx l n = some x) : (ei8.rows l)[n.toNat]? = some (ei8.row x) := A7 ei8.rows_map h
theorem ei8.app (l m : List Int) : ei8.rows (l ++ m) = ei8.rows l ++ ei8.rows m := B7 ei8.rows_map l m
theorem ei8.len (l : List Int) : (ei8.rows l).length = l.length := K6 ei8.rows_map l
theorem ei8.lenA (l : List Int) : A.d (.int .i64 ((ei8.rows l).length : Nat)) = A.d (.int .i64 (l.length : Nat)) := N5 ei8.rows_map l
theorem ei8.sz (l : List Int) : ∀ r ∈ ei8.rows l, r.length = 1 := W8 ei8.rows_map (fun _ => rfl) l
theorem ei8.part {l x : List Int} {a b : Int} (h : slc l a b = some x) : a = (a.toNat : Int) ∧ b = (b.toNat : Int) ∧ a.toNat ≤ b.toNat ∧ b.toNat ≤ (ei8.rows l).length ∧ ei8.rows x = ((ei8.rows l).take b.toNat).drop a.toNat := O5 ei8.rows_map h
def ei8.ents (m : List (Str × Int)) : List (Str × Row) := P6 ei8.row m
def ei8.val (x : Int) : A := .d (.int .i8 x)
theorem ei8.lkT {k : Str} {m : List (Str × Int)} {x : Option Int} (hx : some (mgt k m) = some x) : lkA (V3 k (ei8.ents m)) (ei8.val ei8.zero) true = .tup [ei8.val (x.getD ei8.zero), .d (.bool x.isSome)] := Wi (h := ei8.val) (fun _ => rfl) rfl hx
theorem ei8.lk {k : Str} {m : List (Str × Int)} {x : Option Int} (hx : some (mgt k m) = some x) : lkA (V3 k (ei8.ents m)) (ei8.val ei8.zero) false = ei8.val (x.getD ei8.zero) := Xi (h := ei8.val) (fun _ => rfl) rfl hx
theorem ei8.lkNT {x : Option Int} (hx : some none = some x) : lkA none (ei8.val ei8.zero) true = .tup [ei8.val (x.getD ei8.zero), .d (.bool x.isSome)] := He (h := ei8.val) rfl hx
theorem ei8.lkN {x : Option Int} (hx : some none = some x) : lkA none (ei8.val ei8.zero) false = ei8.val (x.getD ei8.zero) := Ie (h := ei8.val) rfl hx
theorem ei8.mput (k : Str) (x : Int) (m : List (Str × Int)) : mput k (ei8.row x) (ei8.ents m) = ei8.ents (mpt k x m) := (L6 ei8.row k x m).symm
def ei16.zero : Int := 0
def ei16.leaf (x : Int) : D := .int .i16 x
def ei16.cells (l : List Int) : List A := l.map fun x => .d (ei16.leaf x)
def ei16.row (x : Int) : Row := [.int .i16 x]
def ei16.rows (l : List Int) : List Row := l.map ei16.row
theorem ei16.rows_map (l : List Int) : ei16.rows l = l.map ei16.row := rfl
theorem ei16.idx {l : List Int} {n : Int} {x : Int} (h : idx l n = some x) : (ei16.rows l)[n.toNat]? = some (ei16.row x) := A7 ei16.rows_map h
theorem ei16.app (l m : List Int) : ei16.rows (l ++ m) = ei16.rows l ++ ei16.rows m := B7 ei16.rows_map l m
theorem ei16.len (l : List Int) : (ei16.rows l).length = l.length := K6 ei16.rows_map l
theorem ei16.lenA (l : List Int) : A.d (.int .i64 ((ei16.rows l).length : Nat)) = A.d (.int .i64 (l.length : Nat)) := N5 ei16.rows_map l
theorem ei16.sz (l : List Int) : ∀ r ∈ ei16.rows l, r.length = 1 := W8 ei16.rows_map (fun _ => rfl) l
theorem ei16.part {l x : List Int} {a b : Int} (h : slc l a b = some x) : a = (a.toNat : Int) ∧ b = (b.toNat : Int) ∧ a.toNat ≤ b.toNat ∧ b.toNat ≤ (ei16.rows l).length ∧ ei16.rows x = ((ei16.rows l).take b.toNat).drop a.toNat := O5 ei16.rows_map h
def ei16.ents (m : List (Str × Int)) : List (Str × Row) := P6 ei16.row m
def ei16.val (x : Int) : A := .d (.int .i16 x)
theorem ei16.lkT {k : Str} {m : List (Str × Int)} {x : Option Int} (hx : some (mgt k m) = some x) : lkA (V3 k (ei16.ents m)) (ei16.val ei16.zero) true = .tup [ei16.val (x.getD ei16.zero), .d (.bool x.isSome)] := Wi (h := ei16.val) (fun _ => rfl) rfl hx
theorem ei16.lk {k : Str} {m : List (Str × Int)} {x : Option Int} (hx : some (mgt k m) = some x) : lkA (V3 k (ei16.ents m)) (ei16.val ei16.zero) false = ei16.val (x.getD ei16.zero) := Xi (h := ei16.val) (fun _ => rfl) rfl hx
theorem ei16.lkNT {x : Option Int} (hx : some none = some x) : lkA none (ei16.val ei16.zero) true = .tup [ei16.val (x.getD ei16.zero), .d (.bool x.isSome)] := He (h := ei16.val) rfl hx
theorem ei16.lkN {x : Option Int} (hx : some none = some x) : lkA none (ei16.val ei16.zero) false = ei16.val (x.getD ei16.zero) := Ie (h := ei16.val) rfl hx
theorem ei16.mput (k : Str) (x : Int) (m : List (Str × Int)) : mput k (ei16.row x) (ei16.ents m) = ei16.ents (mpt k x m) := (L6 ei16.row k x m).symm
def ei32.zero : Int := 0
def ei32.leaf (x : Int) : D := .int .i32 x
def ei32.cells (l : List Int) : List A := l.map fun x => .d (ei32.leaf x)
def ei32.row (x : Int) : Row := [.int .i32 x]
def ei32.rows (l : List Int) : List Row := l.map ei32.row
theorem ei32.rows_map (l : List Int) : ei32.rows l = l.map ei32.row := rfl
theorem ei32.idx {l : List Int} {n : Int} {x : Int} (h : idx l n = some x) : (ei32.rows l)[n.toNat]? = some (ei32.row x) := A7 ei32.rows_map h
theorem ei32.app (l m : List Int) : ei32.rows (l ++ m) = ei32.rows l ++ ei32.rows m := B7 ei32.rows_map l m
theorem ei32.len (l : List Int) : (ei32.rows l).length = l.length := K6 ei32.rows_map l
theorem ei32.lenA (l : List Int) : A.d (.int .i64 ((ei32.rows l).length : Nat)) = A.d (.int .i64 (l.length : Nat)) := N5 ei32.rows_map l
theorem ei32.sz (l : List Int) : ∀ r ∈ ei32.rows l, r.length = 1 := W8 ei32.rows_map (fun _ => rfl) l
theorem ei32.part {l x : List Int} {a b : Int} (h : slc l a b = some x) : a = (a.toNat : Int) ∧ b = (b.toNat : Int) ∧ a.toNat ≤ b.toNat ∧ b.toNat ≤ (ei32.rows l).length ∧ ei32.rows x = ((ei32.rows l).take b.toNat).drop a.toNat := O5 ei32.rows_map h
def ei32.ents (m : List (Str × Int)) : List (Str × Row) := P6 ei32.row m
def ei32.val (x : Int) : A := .d (.int .i32 x)
theorem ei32.lkT {k : Str} {m : List (Str × Int)} {x : Option Int} (hx : some (mgt k m) = some x) : lkA (V3 k (ei32.ents m)) (ei32.val ei32.zero) true = .tup [ei32.val (x.getD ei32.zero), .d (.bool x.isSome)] := Wi (h := ei32.val) (fun _ => rfl) rfl hx
theorem ei32.lk {k : Str} {m : List (Str × Int)} {x : Option Int} (hx : some (mgt k m) = some x) : lkA (V3 k (ei32.ents m)) (ei32.val ei32.zero) false = ei32.val (x.getD ei32.zero) := Xi (h := ei32.val) (fun _ => rfl) rfl hx
theorem ei32.lkNT {x : Option Int} (hx : some none = some x) : lkA none (ei32.val ei32.zero) true = .tup [ei32.val (x.getD ei32.zero), .d (.bool x.isSome)] := He (h := ei32.val) rfl hx
theorem ei32.lkN {x : Option Int} (hx : some none = some x) : lkA none (ei32.val ei32.zero) false = ei32.val (x.getD ei32.zero) := Ie (h := ei32.val) rfl hx
theorem ei32.mput (k : Str) (x : Int) (m : List (Str × Int)) : mput k (ei32.row x) (ei32.ents m) = ei32.ents (mpt k x m) := (L6 ei32.row k x m).symm
def ei64.zero : Int := 0
def ei64.leaf (x : Int) : D := .int .i64 x
def ei64.cells (l : List Int) : List A := l.map fun x => .d (ei64.leaf x)
def ei64.row (x : Int) : Row := [.int .i64 x]
def ei64.rows (l : List Int) : List Row := l.map ei64.row
theorem ei64.rows_map (l : List Int) : ei64.rows l = l.map ei64.row := rfl
theorem ei64.idx {l : List Int} {n : Int} {x : Int} (h : idx l n = some x) : (ei64.rows l)[n.toNat]? = some (ei64.row x) := A7 ei64.rows_map h
theorem ei64.app (l m : List Int) : ei64.rows (l ++ m) = ei64.rows l ++ ei64.rows m := B7 ei64.rows_map l m
theorem ei64.len (l : List Int) : (ei64.rows l).length = l.length := K6 ei64.rows_map l
theorem ei64.lenA (l : List Int) : A.d (.int .i64 ((ei64.rows l).length : Nat)) = A.d (.int .i64 (l.length : Nat)) := N5 ei64.rows_map l
theorem ei64.sz (l : List Int) : ∀ r ∈ ei64.rows l, r.length = 1 := W8 ei64.rows_map (fun _ => rfl) l
theorem ei64.part {l x : List Int} {a b : Int} (h : slc l a b = some x) : a = (a.toNat : Int) ∧ b = (b.toNat : Int) ∧ a.toNat ≤ b.toNat ∧ b.toNat ≤ (ei64.rows l).length ∧ ei64.rows x = ((ei64.rows l).take b.toNat).drop a.toNat := O5 ei64.rows_map h
def ei64.ents (m : List (Str × Int)) : List (Str × Row) := P6 ei64.row m
def ei64.val (x : Int) : A := .d (.int .i64 x)
theorem ei64.lkT {k : Str} {m : List (Str × Int)} {x : Option Int} (hx : some (mgt k m) = some x) : lkA (V3 k (ei64.ents m)) (ei64.val ei64.zero) true = .tup [ei64.val (x.getD ei64.zero), .d (.bool x.isSome)] := Wi (h := ei64.val) (fun _ => rfl) rfl hx
theorem ei64.lk {k : Str} {m : List (Str × Int)} {x : Option Int} (hx : some (mgt k m) = some x) : lkA (V3 k (ei64.ents m)) (ei64.val ei64.zero) false = ei64.val (x.getD ei64.zero) := Xi (h := ei64.val) (fun _ => rfl) rfl hx
theorem ei64.lkNT {x : Option Int} (hx : some none = some x) : lkA none (ei64.val ei64.zero) true = .tup [ei64.val (x.getD ei64.zero), .d (.bool x.isSome)] := He (h := ei64.val) rfl hx
theorem ei64.lkN {x : Option Int} (hx : some none = some x) : lkA none (ei64.val ei64.zero) false = ei64.val (x.getD ei64.zero) := Ie (h := ei64.val) rfl hx
theorem ei64.mput (k : Str) (x : Int) (m : List (Str × Int)) : mput k (ei64.row x) (ei64.ents m) = ei64.ents (mpt k x m) := (L6 ei64.row k x m).symm
def ei64.entsI (m : List (Int × Int)) : List (Int × Row) := Am.entsI ei64.row m
theorem ei64.lkIT {k : Int} {m : List (Int × Int)} {x : Option Int} (hx : some (Ym k m) = some x) : lkA (Eo k (ei64.entsI m)) (ei64.val ei64.zero) true = .tup [ei64.val (x.getD ei64.zero), .d (.bool x.isSome)] := V1s (h := ei64.val) (fun _ => rfl) rfl hx
theorem ei64.lkI {k : Int} {m : List (Int × Int)} {x : Option Int} (hx : some (Ym k m) = some x) : lkA (Eo k (ei64.entsI m)) (ei64.val ei64.zero) false = ei64.val (x.getD ei64.zero) := W1s (h := ei64.val) (fun _ => rfl) rfl hx
theorem ei64.mputI (k : Int) (x : Int) (m : List (Int × Int)) : Am.mputI k (ei64.row x) (ei64.entsI m) = ei64.entsI (Px k x m) := (S1d ei64.row k x m).symm
def eu8.zero : Int := 0
def eu8.leaf (x : Int) : D := .int .u8 x
def eu8.cells (l : List Int) : List A := l.map fun x => .d (eu8.leaf x)
def eu8.row (x : Int) : Row := [.int .u8 x]
def eu8.rows (l : List Int) : List Row := l.map eu8.row
theorem eu8.rows_map (l : List Int) : eu8.rows l = l.map eu8.row := rfl
theorem eu8.idx {l : List Int} {n : Int} {x : Int} (h : idx l n = some x) : (eu8.rows l)[n.toNat]? = some (eu8.row x) := A7 eu8.rows_map h
theorem eu8.app (l m : List Int) : eu8.rows (l ++ m) = eu8.rows l ++ eu8.rows m := B7 eu8.rows_map l m
theorem eu8.len (l : List Int) : (eu8.rows l).length = l.length := K6 eu8.rows_map l
theorem eu8.lenA (l : List Int) : A.d (.int .i64 ((eu8.rows l).length : Nat)) = A.d (.int .i64 (l.length : Nat)) := N5 eu8.rows_map l
theorem eu8.sz (l : List Int) : ∀ r ∈ eu8.rows l, r.length = 1 := W8 eu8.rows_map (fun _ => rfl) l
theorem eu8.part {l x : List Int} {a b : Int} (h : slc l a b = some x) : a = (a.toNat : Int) ∧ b = (b.toNat : Int) ∧ a.toNat ≤ b.toNat ∧ b.toNat ≤ (eu8.rows l).length ∧ eu8.rows x = ((eu8.rows l).take b.toNat).drop a.toNat := O5 eu8.rows_map h
def eu8.ents (m : List (Str × Int)) : List (Str × Row) := P6 eu8.row m
def eu8.val (x : Int) : A := .d (.int .u8 x)
theorem eu8.lkT {k : Str} {m : List (Str × Int)} {x : Option Int} (hx : some (mgt k m) = some x) : lkA (V3 k (eu8.ents m)) (eu8.val eu8.zero) true = .tup [eu8.val (x.getD eu8.zero), .d (.bool x.isSome)] := Wi (h := eu8.val) (fun _ => rfl) rfl hx
theorem eu8.lk {k : Str} {m : List (Str × Int)} {x : Option Int} (hx : some (mgt k m) = some x) : lkA (V3 k (eu8.ents m)) (eu8.val eu8.zero) false = eu8.val (x.getD eu8.zero) := Xi (h := eu8.val) (fun _ => rfl) rfl hx
theorem eu8.lkNT {x : Option Int} (hx : some none = some x) : lkA none (eu8.val eu8.zero) true = .tup [eu8.val (x.getD eu8.zero), .d (.bool x.isSome)] := He (h := eu8.val) rfl hx
theorem eu8.lkN {x : Option Int} (hx : some none = some x) : lkA none (eu8.val eu8.zero) false = eu8.val (x.getD eu8.zero) := Ie (h := eu8.val) rfl hx
theorem eu8.mput (k : Str) (x : Int) (m : List (Str × Int)) : mput k (eu8.row x) (eu8.ents m) = eu8.ents (mpt k x m) := (L6 eu8.row k x m).symm
def eu16.zero : Int := 0
def eu16.leaf (x : Int) : D := .int .u16 x
def eu16.cells (l : List Int) : List A := l.map fun x => .d (eu16.leaf x)
def eu16.row (x : Int) : Row := [.int .u16 x]
def eu16.rows (l : List Int) : List Row := l.map eu16.row
theorem eu16.rows_map (l : List Int) : eu16.rows l = l.map eu16.row := rfl
theorem eu16.idx {l : List Int} {n : Int} {x : Int} (h : idx l n = some x) : (eu16.rows l)[n.toNat]? = some (eu16.row x) := A7 eu16.rows_map h
theorem eu16.app (l m : List Int) : eu16.rows (l ++ m) = eu16.rows l ++ eu16.rows m := B7 eu16.rows_map l m
theorem eu16.len (l : List Int) : (eu16.rows l).length = l.length := K6 eu16.rows_map l
theorem eu16.lenA (l : List Int) : A.d (.int .i64 ((eu16.rows l).length : Nat)) = A.d (.int .i64 (l.length : Nat)) := N5 eu16.rows_map l
theorem eu16.sz (l : List Int) : ∀ r ∈ eu16.rows l, r.length = 1 := W8 eu16.rows_map (fun _ => rfl) l
theorem eu16.part {l x : List Int} {a b : Int} (h : slc l a b = some x) : a = (a.toNat : Int) ∧ b = (b.toNat : Int) ∧ a.toNat ≤ b.toNat ∧ b.toNat ≤ (eu16.rows l).length ∧ eu16.rows x = ((eu16.rows l).take b.toNat).drop a.toNat := O5 eu16.rows_map h
def eu16.ents (m : List (Str × Int)) : List (Str × Row) := P6 eu16.row m
def eu16.val (x : Int) : A := .d (.int .u16 x)
theorem eu16.lkT {k : Str} {m : List (Str × Int)} {x : Option Int} (hx : some (mgt k m) = some x) : lkA (V3 k (eu16.ents m)) (eu16.val eu16.zero) true = .tup [eu16.val (x.getD eu16.zero), .d (.bool x.isSome)] := Wi (h := eu16.val) (fun _ => rfl) rfl hx
theorem eu16.lk {k : Str} {m : List (Str × Int)} {x : Option Int} (hx : some (mgt k m) = some x) : lkA (V3 k (eu16.ents m)) (eu16.val eu16.zero) false = eu16.val (x.getD eu16.zero) := Xi (h := eu16.val) (fun _ => rfl) rfl hx
theorem eu16.lkNT {x : Option Int} (hx : some none = some x) : lkA none (eu16.val eu16.zero) true = .tup [eu16.val (x.getD eu16.zero), .d (.bool x.isSome)] := He (h := eu16.val) rfl hx
theorem eu16.lkN {x : Option Int} (hx : some none = some x) : lkA none (eu16.val eu16.zero) false = eu16.val (x.getD eu16.zero) := Ie (h := eu16.val) rfl hx
theorem eu16.mput (k : Str) (x : Int) (m : List (Str × Int)) : mput k (eu16.row x) (eu16.ents m) = eu16.ents (mpt k x m) := (L6 eu16.row k x m).symm
def eu32.zero : Int := 0
def eu32.leaf (x : Int) : D := .int .u32 x
def eu32.cells (l : List Int) : List A := l.map fun x => .d (eu32.leaf x)
def eu32.row (x : Int) : Row := [.int .u32 x]
def eu32.rows (l : List Int) : List Row := l.map eu32.row
theorem eu32.rows_map (l : List Int) : eu32.rows l = l.map eu32.row := rfl
theorem eu32.idx {l : List Int} {n : Int} {x : Int} (h : idx l n = some x) : (eu32.rows l)[n.toNat]? = some (eu32.row x) := A7 eu32.rows_map h
theorem eu32.app (l m : List Int) : eu32.rows (l ++ m) = eu32.rows l ++ eu32.rows m := B7 eu32.rows_map l m
theorem eu32.len (l : List Int) : (eu32.rows l).length = l.length := K6 eu32.rows_map l
theorem eu32.lenA (l : List Int) : A.d (.int .i64 ((eu32.rows l).length : Nat)) = A.d (.int .i64 (l.length : Nat)) := N5 eu32.rows_map l
theorem eu32.sz (l : List Int) : ∀ r ∈ eu32.rows l, r.length = 1 := W8 eu32.rows_map (fun _ => rfl) l
theorem eu32.part {l x : List Int} {a b : Int} (h : slc l a b = some x) : a = (a.toNat : Int) ∧ b = (b.toNat : Int) ∧ a.toNat ≤ b.toNat ∧ b.toNat ≤ (eu32.rows l).length ∧ eu32.rows x = ((eu32.rows l).take b.toNat).drop a.toNat := O5 eu32.rows_map h
def eu32.ents (m : List (Str × Int)) : List (Str × Row) := P6 eu32.row m
def eu32.val (x : Int) : A := .d (.int .u32 x)
theorem eu32.lkT {k : Str} {m : List (Str × Int)} {x : Option Int} (hx : some (mgt k m) = some x) : lkA (V3 k (eu32.ents m)) (eu32.val eu32.zero) true = .tup [eu32.val (x.getD eu32.zero), .d (.bool x.isSome)] := Wi (h := eu32.val) (fun _ => rfl) rfl hx
theorem eu32.lk {k : Str} {m : List (Str × Int)} {x : Option Int} (hx : some (mgt k m) = some x) : lkA (V3 k (eu32.ents m)) (eu32.val eu32.zero) false = eu32.val (x.getD eu32.zero) := Xi (h := eu32.val) (fun _ => rfl) rfl hx
theorem eu32.lkNT {x : Option Int} (hx : some none = some x) : lkA none (eu32.val eu32.zero) true = .tup [eu32.val (x.getD eu32.zero), .d (.bool x.isSome)] := He (h := eu32.val) rfl hx
theorem eu32.lkN {x : Option Int} (hx : some none = some x) : lkA none (eu32.val eu32.zero) false = eu32.val (x.getD eu32.zero) := Ie (h := eu32.val) rfl hx
theorem eu32.mput (k : Str) (x : Int) (m : List (Str × Int)) : mput k (eu32.row x) (eu32.ents m) = eu32.ents (mpt k x m) := (L6 eu32.row k x m).symm
def eu64.zero : Int := 0
def eu64.leaf (x : Int) : D := .int .u64 x
def eu64.cells (l : List Int) : List A := l.map fun x => .d (eu64.leaf x)
def eu64.row (x : Int) : Row := [.int .u64 x]
def eu64.rows (l : List Int) : List Row := l.map eu64.row
theorem eu64.rows_map (l : List Int) : eu64.rows l = l.map eu64.row := rfl
theorem eu64.idx {l : List Int} {n : Int} {x : Int} (h : idx l n = some x) : (eu64.rows l)[n.toNat]? = some (eu64.row x) := A7 eu64.rows_map h
theorem eu64.app (l m : List Int) : eu64.rows (l ++ m) = eu64.rows l ++ eu64.rows m := B7 eu64.rows_map l m
theorem eu64.len (l : List Int) : (eu64.rows l).length = l.length := K6 eu64.rows_map l
theorem eu64.lenA (l : List Int) : A.d (.int .i64 ((eu64.rows l).length : Nat)) = A.d (.int .i64 (l.length : Nat)) := N5 eu64.rows_map l
theorem eu64.sz (l : List Int) : ∀ r ∈ eu64.rows l, r.length = 1 := W8 eu64.rows_map (fun _ => rfl) l
theorem eu64.part {l x : List Int} {a b : Int} (h : slc l a b = some x) : a = (a.toNat : Int) ∧ b = (b.toNat : Int) ∧ a.toNat ≤ b.toNat ∧ b.toNat ≤ (eu64.rows l).length ∧ eu64.rows x = ((eu64.rows l).take b.toNat).drop a.toNat := O5 eu64.rows_map h
def eu64.ents (m : List (Str × Int)) : List (Str × Row) := P6 eu64.row m
def eu64.val (x : Int) : A := .d (.int .u64 x)
theorem eu64.lkT {k : Str} {m : List (Str × Int)} {x : Option Int} (hx : some (mgt k m) = some x) : lkA (V3 k (eu64.ents m)) (eu64.val eu64.zero) true = .tup [eu64.val (x.getD eu64.zero), .d (.bool x.isSome)] := Wi (h := eu64.val) (fun _ => rfl) rfl hx
theorem eu64.lk {k : Str} {m : List (Str × Int)} {x : Option Int} (hx : some (mgt k m) = some x) : lkA (V3 k (eu64.ents m)) (eu64.val eu64.zero) false = eu64.val (x.getD eu64.zero) := Xi (h := eu64.val) (fun _ => rfl) rfl hx
theorem eu64.lkNT {x : Option Int} (hx : some none = some x) : lkA none (eu64.val eu64.zero) true = .tup [eu64.val (x.getD eu64.zero), .d (.bool x.isSome)] := He (h := eu64.val) rfl hx
theorem eu64.lkN {x : Option Int} (hx : some none = some x) : lkA none (eu64.val eu64.zero) false = eu64.val (x.getD eu64.zero) := Ie (h := eu64.val) rfl hx
theorem eu64.mput (k : Str) (x : Int) (m : List (Str × Int)) : mput k (eu64.row x) (eu64.ents m) = eu64.ents (mpt k x m) := (L6 eu64.row k x m).symm
structure A0 where
  Kind : Int
  Low : Int
  High : Int
  Size : Int
  Name : Str
  Names : List Str
  Of : List A0
def A0.zero : A0 := ⟨0, 0, 0, 0, [], [], []⟩
instance : Inhabited A0 := ⟨A0.zero⟩
mutual
def A0.rowX : A0 → Row
  | .mk y0 y1 y2 y3 y4 y5 y6 => [.int .i64 y0, .int .i64 y1, .int .i64 y2, .int .i64 y3, .str y4, .sl (estr.rows y5), .sl (A0.rowsX y6)]
def A0.rowsX : List A0 → List Row
  | [] => []
  | x :: r => A0.rowX x :: A0.rowsX r
end
def A0.rows (l : List A0) : List Row := A0.rowsX l
def A0.row (x : A0) : Row := [.int .i64 x.Kind, .int .i64 x.Low, .int .i64 x.High, .int .i64 x.Size, .str x.Name, .sl (estr.rows x.Names), .sl (A0.rows x.Of)]
theorem A0.rows_map : ∀ l, A0.rows l = l.map A0.row
  | [] => rfl
  | x :: r => by
    show A0.rowX x :: A0.rows r = A0.row x :: r.map A0.row
    rw [A0.rows_map r]
    cases x
    rfl
def A0.cells (x : A0) : List A := [.d (.int .i64 x.Kind), .d (.int .i64 x.Low), .d (.int .i64 x.High), .d (.int .i64 x.Size), .d (.str x.Name), .d (.sl (estr.rows x.Names)), .d (.sl (A0.rows x.Of))]
theorem A0.idx {l : List A0} {n : Int} {x : A0} (h : idx l n = some x) : (A0.rows l)[n.toNat]? = some (A0.row x) := A7 A0.rows_map h
theorem A0.app (l m : List A0) : A0.rows (l ++ m) = A0.rows l ++ A0.rows m := B7 A0.rows_map l m
theorem A0.len (l : List A0) : (A0.rows l).length = l.length := K6 A0.rows_map l
theorem A0.lenA (l : List A0) : A.d (.int .i64 ((A0.rows l).length : Nat)) = A.d (.int .i64 (l.length : Nat)) := N5 A0.rows_map l
theorem A0.sz (l : List A0) : ∀ r ∈ A0.rows l, r.length = 7 := W8 A0.rows_map (fun _ => rfl) l
theorem A0.part {l x : List A0} {a b : Int} (h : slc l a b = some x) : a = (a.toNat : Int) ∧ b = (b.toNat : Int) ∧ a.toNat ≤ b.toNat ∧ b.toNat ≤ (A0.rows l).length ∧ A0.rows x = ((A0.rows l).take b.toNat).drop a.toNat := O5 A0.rows_map h
def A0.ents (m : List (Str × A0)) : List (Str × Row) := P6 A0.row m
def A0.val (x : A0) : A := .agg (A0.cells x)
theorem A0.lkT {k : Str} {m : List (Str × A0)} {x : Option A0} (hx : some (mgt k m) = some x) : lkA (V3 k (A0.ents m)) (A0.val A0.zero) true = .tup [A0.val (x.getD A0.zero), .d (.bool x.isSome)] := Wi (h := A0.val) (fun _ => rfl) rfl hx
theorem A0.lk {k : Str} {m : List (Str × A0)} {x : Option A0} (hx : some (mgt k m) = some x) : lkA (V3 k (A0.ents m)) (A0.val A0.zero) false = A0.val (x.getD A0.zero) := Xi (h := A0.val) (fun _ => rfl) rfl hx
theorem A0.lkNT {x : Option A0} (hx : some none = some x) : lkA none (A0.val A0.zero) true = .tup [A0.val (x.getD A0.zero), .d (.bool x.isSome)] := He (h := A0.val) rfl hx
theorem A0.lkN {x : Option A0} (hx : some none = some x) : lkA none (A0.val A0.zero) false = A0.val (x.getD A0.zero) := Ie (h := A0.val) rfl hx
theorem A0.mput (k : Str) (x : A0) (m : List (Str × A0)) : mput k (A0.row x) (A0.ents m) = A0.ents (mpt k x m) := (L6 A0.row k x m).symm
structure C0 where
  Op : Int
  NV : Int
  Name : Str
  Kids : List C0
def C0.zero : C0 := ⟨0, 0, [], []⟩
instance : Inhabited C0 := ⟨C0.zero⟩
mutual
def C0.rowX : C0 → Row
  | .mk y0 y1 y2 y3 => [.int .i64 y0, .int .i64 y1, .str y2, .sl (C0.rowsX y3)]
def C0.rowsX : List C0 → List Row
  | [] => []
  | x :: r => C0.rowX x :: C0.rowsX r
end
def C0.rows (l : List C0) : List Row := C0.rowsX l
def C0.row (x : C0) : Row := [.int .i64 x.Op, .int .i64 x.NV, .str x.Name, .sl (C0.rows x.Kids)]
theorem C0.rows_map : ∀ l, C0.rows l = l.map C0.row
  | [] => rfl
  | x :: r => by
    show C0.rowX x :: C0.rows r = C0.row x :: r.map C0.row
    rw [C0.rows_map r]
    cases x
    rfl
def C0.cells (x : C0) : List A := [.d (.int .i64 x.Op), .d (.int .i64 x.NV), .d (.str x.Name), .d (.sl (C0.rows x.Kids))]
theorem C0.idx {l : List C0} {n : Int} {x : C0} (h : idx l n = some x) : (C0.rows l)[n.toNat]? = some (C0.row x) := A7 C0.rows_map h
theorem C0.app (l m : List C0) : C0.rows (l ++ m) = C0.rows l ++ C0.rows m := B7 C0.rows_map l m
theorem C0.len (l : List C0) : (C0.rows l).length = l.length := K6 C0.rows_map l
theorem C0.lenA (l : List C0) : A.d (.int .i64 ((C0.rows l).length : Nat)) = A.d (.int .i64 (l.length : Nat)) := N5 C0.rows_map l
theorem C0.sz (l : List C0) : ∀ r ∈ C0.rows l, r.length = 4 := W8 C0.rows_map (fun _ => rfl) l
theorem C0.part {l x : List C0} {a b : Int} (h : slc l a b = some x) : a = (a.toNat : Int) ∧ b = (b.toNat : Int) ∧ a.toNat ≤ b.toNat ∧ b.toNat ≤ (C0.rows l).length ∧ C0.rows x = ((C0.rows l).take b.toNat).drop a.toNat := O5 C0.rows_map h
def C0.ents (m : List (Str × C0)) : List (Str × Row) := P6 C0.row m
def C0.val (x : C0) : A := .agg (C0.cells x)
theorem C0.lkT {k : Str} {m : List (Str × C0)} {x : Option C0} (hx : some (mgt k m) = some x) : lkA (V3 k (C0.ents m)) (C0.val C0.zero) true = .tup [C0.val (x.getD C0.zero), .d (.bool x.isSome)] := Wi (h := C0.val) (fun _ => rfl) rfl hx
theorem C0.lk {k : Str} {m : List (Str × C0)} {x : Option C0} (hx : some (mgt k m) = some x) : lkA (V3 k (C0.ents m)) (C0.val C0.zero) false = C0.val (x.getD C0.zero) := Xi (h := C0.val) (fun _ => rfl) rfl hx
theorem C0.lkNT {x : Option C0} (hx : some none = some x) : lkA none (C0.val C0.zero) true = .tup [C0.val (x.getD C0.zero), .d (.bool x.isSome)] := He (h := C0.val) rfl hx
theorem C0.lkN {x : Option C0} (hx : some none = some x) : lkA none (C0.val C0.zero) false = C0.val (x.getD C0.zero) := Ie (h := C0.val) rfl hx
theorem C0.mput (k : Str) (x : C0) (m : List (Str × C0)) : mput k (C0.row x) (C0.ents m) = C0.ents (mpt k x m) := (L6 C0.row k x m).symm
structure F0 where
  Verb : Int
  Place : C0
  Value : C0
  Name : Str
  Args : List C0
  NV : Int
  Low : Int
  High : Int
  Numbers : List Int
  Then : List F0
  Else : List F0
def F0.zero : F0 := ⟨0, ⟨0, 0, [], []⟩, ⟨0, 0, [], []⟩, [], [], 0, 0, 0, [], [], []⟩
instance : Inhabited F0 := ⟨F0.zero⟩
mutual
def F0.rowX : F0 → Row
  | .mk y0 y1 y2 y3 y4 y5 y6 y7 y8 y9 y10 => [.int .i64 y0, .int .i64 y1.Op, .int .i64 y1.NV, .str y1.Name, .sl (C0.rows y1.Kids), .int .i64 y2.Op, .int .i64 y2.NV, .str y2.Name, .sl (C0.rows y2.Kids), .str y3, .sl (C0.rows y4), .int .i64 y5, .int .i64 y6, .int .i64 y7, .sl (ei64.rows y8), .sl (F0.rowsX y9), .sl (F0.rowsX y10)]
def F0.rowsX : List F0 → List Row
  | [] => []
  | x :: r => F0.rowX x :: F0.rowsX r
end
def F0.rows (l : List F0) : List Row := F0.rowsX l
def F0.row (x : F0) : Row := [.int .i64 x.Verb, .int .i64 x.Place.Op, .int .i64 x.Place.NV, .str x.Place.Name, .sl (C0.rows x.Place.Kids), .int .i64 x.Value.Op, .int .i64 x.Value.NV, .str x.Value.Name, .sl (C0.rows x.Value.Kids), .str x.Name, .sl (C0.rows x.Args), .int .i64 x.NV, .int .i64 x.Low, .int .i64 x.High, .sl (ei64.rows x.Numbers), .sl (F0.rows x.Then), .sl (F0.rows x.Else)]
theorem F0.rows_map : ∀ l, F0.rows l = l.map F0.row
  | [] => rfl
  | x :: r => by
    show F0.rowX x :: F0.rows r = F0.row x :: r.map F0.row
    rw [F0.rows_map r]
    cases x
    rfl
def F0.cells (x : F0) : List A := [.d (.int .i64 x.Verb), .d (.int .i64 x.Place.Op), .d (.int .i64 x.Place.NV), .d (.str x.Place.Name), .d (.sl (C0.rows x.Place.Kids)), .d (.int .i64 x.Value.Op), .d (.int .i64 x.Value.NV), .d (.str x.Value.Name), .d (.sl (C0.rows x.Value.Kids)), .d (.str x.Name), .d (.sl (C0.rows x.Args)), .d (.int .i64 x.NV), .d (.int .i64 x.Low), .d (.int .i64 x.High), .d (.sl (ei64.rows x.Numbers)), .d (.sl (F0.rows x.Then)), .d (.sl (F0.rows x.Else))]
theorem F0.idx {l : List F0} {n : Int} {x : F0} (h : idx l n = some x) : (F0.rows l)[n.toNat]? = some (F0.row x) := A7 F0.rows_map h
theorem F0.app (l m : List F0) : F0.rows (l ++ m) = F0.rows l ++ F0.rows m := B7 F0.rows_map l m
theorem F0.len (l : List F0) : (F0.rows l).length = l.length := K6 F0.rows_map l
theorem F0.lenA (l : List F0) : A.d (.int .i64 ((F0.rows l).length : Nat)) = A.d (.int .i64 (l.length : Nat)) := N5 F0.rows_map l
theorem F0.sz (l : List F0) : ∀ r ∈ F0.rows l, r.length = 17 := W8 F0.rows_map (fun _ => rfl) l
theorem F0.part {l x : List F0} {a b : Int} (h : slc l a b = some x) : a = (a.toNat : Int) ∧ b = (b.toNat : Int) ∧ a.toNat ≤ b.toNat ∧ b.toNat ≤ (F0.rows l).length ∧ F0.rows x = ((F0.rows l).take b.toNat).drop a.toNat := O5 F0.rows_map h
def F0.ents (m : List (Str × F0)) : List (Str × Row) := P6 F0.row m
def F0.val (x : F0) : A := .agg (F0.cells x)
theorem F0.lkT {k : Str} {m : List (Str × F0)} {x : Option F0} (hx : some (mgt k m) = some x) : lkA (V3 k (F0.ents m)) (F0.val F0.zero) true = .tup [F0.val (x.getD F0.zero), .d (.bool x.isSome)] := Wi (h := F0.val) (fun _ => rfl) rfl hx
theorem F0.lk {k : Str} {m : List (Str × F0)} {x : Option F0} (hx : some (mgt k m) = some x) : lkA (V3 k (F0.ents m)) (F0.val F0.zero) false = F0.val (x.getD F0.zero) := Xi (h := F0.val) (fun _ => rfl) rfl hx
theorem F0.lkNT {x : Option F0} (hx : some none = some x) : lkA none (F0.val F0.zero) true = .tup [F0.val (x.getD F0.zero), .d (.bool x.isSome)] := He (h := F0.val) rfl hx
theorem F0.lkN {x : Option F0} (hx : some none = some x) : lkA none (F0.val F0.zero) false = F0.val (x.getD F0.zero) := Ie (h := F0.val) rfl hx
theorem F0.mput (k : Str) (x : F0) (m : List (Str × F0)) : mput k (F0.row x) (F0.ents m) = F0.ents (mpt k x m) := (L6 F0.row k x m).symm
structure E0 where
  Kind : Int
  Name : Str
  TypeV : A0
  Init : Int
  Value : C0
  Params : List E0
  Vars : List E0
  Body : List F0
def E0.zero : E0 := ⟨0, [], ⟨0, 0, 0, 0, [], [], []⟩, 0, ⟨0, 0, [], []⟩, [], [], []⟩
instance : Inhabited E0 := ⟨E0.zero⟩
mutual
def E0.rowX : E0 → Row
  | .mk y0 y1 y2 y3 y4 y5 y6 y7 => [.int .i64 y0, .str y1, .int .i64 y2.Kind, .int .i64 y2.Low, .int .i64 y2.High, .int .i64 y2.Size, .str y2.Name, .sl (estr.rows y2.Names), .sl (A0.rows y2.Of), .int .i64 y3, .int .i64 y4.Op, .int .i64 y4.NV, .str y4.Name, .sl (C0.rows y4.Kids), .sl (E0.rowsX y5), .sl (E0.rowsX y6), .sl (F0.rows y7)]
def E0.rowsX : List E0 → List Row
  | [] => []
  | x :: r => E0.rowX x :: E0.rowsX r
end
def E0.rows (l : List E0) : List Row := E0.rowsX l
def E0.row (x : E0) : Row := [.int .i64 x.Kind, .str x.Name, .int .i64 x.TypeV.Kind, .int .i64 x.TypeV.Low, .int .i64 x.TypeV.High, .int .i64 x.TypeV.Size, .str x.TypeV.Name, .sl (estr.rows x.TypeV.Names), .sl (A0.rows x.TypeV.Of), .int .i64 x.Init, .int .i64 x.Value.Op, .int .i64 x.Value.NV, .str x.Value.Name, .sl (C0.rows x.Value.Kids), .sl (E0.rows x.Params), .sl (E0.rows x.Vars), .sl (F0.rows x.Body)]
theorem E0.rows_map : ∀ l, E0.rows l = l.map E0.row
  | [] => rfl
  | x :: r => by
    show E0.rowX x :: E0.rows r = E0.row x :: r.map E0.row
    rw [E0.rows_map r]
    cases x
    rfl
def E0.cells (x : E0) : List A := [.d (.int .i64 x.Kind), .d (.str x.Name), .d (.int .i64 x.TypeV.Kind), .d (.int .i64 x.TypeV.Low), .d (.int .i64 x.TypeV.High), .d (.int .i64 x.TypeV.Size), .d (.str x.TypeV.Name), .d (.sl (estr.rows x.TypeV.Names)), .d (.sl (A0.rows x.TypeV.Of)), .d (.int .i64 x.Init), .d (.int .i64 x.Value.Op), .d (.int .i64 x.Value.NV), .d (.str x.Value.Name), .d (.sl (C0.rows x.Value.Kids)), .d (.sl (E0.rows x.Params)), .d (.sl (E0.rows x.Vars)), .d (.sl (F0.rows x.Body))]
theorem E0.idx {l : List E0} {n : Int} {x : E0} (h : idx l n = some x) : (E0.rows l)[n.toNat]? = some (E0.row x) := A7 E0.rows_map h
theorem E0.app (l m : List E0) : E0.rows (l ++ m) = E0.rows l ++ E0.rows m := B7 E0.rows_map l m
theorem E0.len (l : List E0) : (E0.rows l).length = l.length := K6 E0.rows_map l
theorem E0.lenA (l : List E0) : A.d (.int .i64 ((E0.rows l).length : Nat)) = A.d (.int .i64 (l.length : Nat)) := N5 E0.rows_map l
theorem E0.sz (l : List E0) : ∀ r ∈ E0.rows l, r.length = 17 := W8 E0.rows_map (fun _ => rfl) l
theorem E0.part {l x : List E0} {a b : Int} (h : slc l a b = some x) : a = (a.toNat : Int) ∧ b = (b.toNat : Int) ∧ a.toNat ≤ b.toNat ∧ b.toNat ≤ (E0.rows l).length ∧ E0.rows x = ((E0.rows l).take b.toNat).drop a.toNat := O5 E0.rows_map h
def E0.ents (m : List (Str × E0)) : List (Str × Row) := P6 E0.row m
def E0.val (x : E0) : A := .agg (E0.cells x)
theorem E0.lkT {k : Str} {m : List (Str × E0)} {x : Option E0} (hx : some (mgt k m) = some x) : lkA (V3 k (E0.ents m)) (E0.val E0.zero) true = .tup [E0.val (x.getD E0.zero), .d (.bool x.isSome)] := Wi (h := E0.val) (fun _ => rfl) rfl hx
theorem E0.lk {k : Str} {m : List (Str × E0)} {x : Option E0} (hx : some (mgt k m) = some x) : lkA (V3 k (E0.ents m)) (E0.val E0.zero) false = E0.val (x.getD E0.zero) := Xi (h := E0.val) (fun _ => rfl) rfl hx
theorem E0.lkNT {x : Option E0} (hx : some none = some x) : lkA none (E0.val E0.zero) true = .tup [E0.val (x.getD E0.zero), .d (.bool x.isSome)] := He (h := E0.val) rfl hx
theorem E0.lkN {x : Option E0} (hx : some none = some x) : lkA none (E0.val E0.zero) false = E0.val (x.getD E0.zero) := Ie (h := E0.val) rfl hx
theorem E0.mput (k : Str) (x : E0) (m : List (Str × E0)) : mput k (E0.row x) (E0.ents m) = E0.ents (mpt k x m) := (L6 E0.row k x m).symm
structure N0 where
  Decls : List E0
  Body : List F0
def N0.zero : N0 := ⟨[], []⟩
instance : Inhabited N0 := ⟨N0.zero⟩
def N0.row (x : N0) : Row := [.sl (E0.rows x.Decls), .sl (F0.rows x.Body)]
def N0.rows (l : List N0) : List Row := l.map N0.row
theorem N0.rows_map (l : List N0) : N0.rows l = l.map N0.row := rfl
def N0.cells (x : N0) : List A := [.d (.sl (E0.rows x.Decls)), .d (.sl (F0.rows x.Body))]
theorem N0.idx {l : List N0} {n : Int} {x : N0} (h : idx l n = some x) : (N0.rows l)[n.toNat]? = some (N0.row x) := A7 N0.rows_map h
theorem N0.app (l m : List N0) : N0.rows (l ++ m) = N0.rows l ++ N0.rows m := B7 N0.rows_map l m
theorem N0.len (l : List N0) : (N0.rows l).length = l.length := K6 N0.rows_map l
theorem N0.lenA (l : List N0) : A.d (.int .i64 ((N0.rows l).length : Nat)) = A.d (.int .i64 (l.length : Nat)) := N5 N0.rows_map l
theorem N0.sz (l : List N0) : ∀ r ∈ N0.rows l, r.length = 2 := W8 N0.rows_map (fun _ => rfl) l
theorem N0.part {l x : List N0} {a b : Int} (h : slc l a b = some x) : a = (a.toNat : Int) ∧ b = (b.toNat : Int) ∧ a.toNat ≤ b.toNat ∧ b.toNat ≤ (N0.rows l).length ∧ N0.rows x = ((N0.rows l).take b.toNat).drop a.toNat := O5 N0.rows_map h
def N0.ents (m : List (Str × N0)) : List (Str × Row) := P6 N0.row m
def N0.val (x : N0) : A := .agg (N0.cells x)
theorem N0.lkT {k : Str} {m : List (Str × N0)} {x : Option N0} (hx : some (mgt k m) = some x) : lkA (V3 k (N0.ents m)) (N0.val N0.zero) true = .tup [N0.val (x.getD N0.zero), .d (.bool x.isSome)] := Wi (h := N0.val) (fun _ => rfl) rfl hx
theorem N0.lk {k : Str} {m : List (Str × N0)} {x : Option N0} (hx : some (mgt k m) = some x) : lkA (V3 k (N0.ents m)) (N0.val N0.zero) false = N0.val (x.getD N0.zero) := Xi (h := N0.val) (fun _ => rfl) rfl hx
theorem N0.lkNT {x : Option N0} (hx : some none = some x) : lkA none (N0.val N0.zero) true = .tup [N0.val (x.getD N0.zero), .d (.bool x.isSome)] := He (h := N0.val) rfl hx
theorem N0.lkN {x : Option N0} (hx : some none = some x) : lkA none (N0.val N0.zero) false = N0.val (x.getD N0.zero) := Ie (h := N0.val) rfl hx
theorem N0.mput (k : Str) (x : N0) (m : List (Str × N0)) : mput k (N0.row x) (N0.ents m) = N0.ents (mpt k x m) := (L6 N0.row k x m).symm
structure B0 where
  nodes : Int
  depth : Int
  badForm : Bool
  badName : Bool
  badNumber : Bool
def B0.zero : B0 := ⟨0, 0, false, false, false⟩
instance : Inhabited B0 := ⟨B0.zero⟩
def B0.row (x : B0) : Row := [.int .i64 x.nodes, .int .i64 x.depth, .bool x.badForm, .bool x.badName, .bool x.badNumber]
def B0.rows (l : List B0) : List Row := l.map B0.row
theorem B0.rows_map (l : List B0) : B0.rows l = l.map B0.row := rfl
def B0.cells (x : B0) : List A := [.d (.int .i64 x.nodes), .d (.int .i64 x.depth), .d (.bool x.badForm), .d (.bool x.badName), .d (.bool x.badNumber)]
theorem B0.idx {l : List B0} {n : Int} {x : B0} (h : idx l n = some x) : (B0.rows l)[n.toNat]? = some (B0.row x) := A7 B0.rows_map h
theorem B0.app (l m : List B0) : B0.rows (l ++ m) = B0.rows l ++ B0.rows m := B7 B0.rows_map l m
theorem B0.len (l : List B0) : (B0.rows l).length = l.length := K6 B0.rows_map l
theorem B0.lenA (l : List B0) : A.d (.int .i64 ((B0.rows l).length : Nat)) = A.d (.int .i64 (l.length : Nat)) := N5 B0.rows_map l
theorem B0.sz (l : List B0) : ∀ r ∈ B0.rows l, r.length = 5 := W8 B0.rows_map (fun _ => rfl) l
theorem B0.part {l x : List B0} {a b : Int} (h : slc l a b = some x) : a = (a.toNat : Int) ∧ b = (b.toNat : Int) ∧ a.toNat ≤ b.toNat ∧ b.toNat ≤ (B0.rows l).length ∧ B0.rows x = ((B0.rows l).take b.toNat).drop a.toNat := O5 B0.rows_map h
def B0.ents (m : List (Str × B0)) : List (Str × Row) := P6 B0.row m
def B0.val (x : B0) : A := .agg (B0.cells x)
theorem B0.lkT {k : Str} {m : List (Str × B0)} {x : Option B0} (hx : some (mgt k m) = some x) : lkA (V3 k (B0.ents m)) (B0.val B0.zero) true = .tup [B0.val (x.getD B0.zero), .d (.bool x.isSome)] := Wi (h := B0.val) (fun _ => rfl) rfl hx
theorem B0.lk {k : Str} {m : List (Str × B0)} {x : Option B0} (hx : some (mgt k m) = some x) : lkA (V3 k (B0.ents m)) (B0.val B0.zero) false = B0.val (x.getD B0.zero) := Xi (h := B0.val) (fun _ => rfl) rfl hx
theorem B0.lkNT {x : Option B0} (hx : some none = some x) : lkA none (B0.val B0.zero) true = .tup [B0.val (x.getD B0.zero), .d (.bool x.isSome)] := He (h := B0.val) rfl hx
theorem B0.lkN {x : Option B0} (hx : some none = some x) : lkA none (B0.val B0.zero) false = B0.val (x.getD B0.zero) := Ie (h := B0.val) rfl hx
theorem B0.mput (k : Str) (x : B0) (m : List (Str × B0)) : mput k (B0.row x) (B0.ents m) = B0.ents (mpt k x m) := (L6 B0.row k x m).symm
structure S0 where
  place : Bool
  value : Bool
  name : Bool
  args : Bool
  n : Bool
  bounds : Bool
  numbers : Bool
  thenV : Bool
  other : Bool
def S0.zero : S0 := ⟨false, false, false, false, false, false, false, false, false⟩
instance : Inhabited S0 := ⟨S0.zero⟩
def S0.row (x : S0) : Row := [.bool x.place, .bool x.value, .bool x.name, .bool x.args, .bool x.n, .bool x.bounds, .bool x.numbers, .bool x.thenV, .bool x.other]
def S0.rows (l : List S0) : List Row := l.map S0.row
theorem S0.rows_map (l : List S0) : S0.rows l = l.map S0.row := rfl
def S0.cells (x : S0) : List A := [.d (.bool x.place), .d (.bool x.value), .d (.bool x.name), .d (.bool x.args), .d (.bool x.n), .d (.bool x.bounds), .d (.bool x.numbers), .d (.bool x.thenV), .d (.bool x.other)]
theorem S0.idx {l : List S0} {n : Int} {x : S0} (h : idx l n = some x) : (S0.rows l)[n.toNat]? = some (S0.row x) := A7 S0.rows_map h
theorem S0.app (l m : List S0) : S0.rows (l ++ m) = S0.rows l ++ S0.rows m := B7 S0.rows_map l m
theorem S0.len (l : List S0) : (S0.rows l).length = l.length := K6 S0.rows_map l
theorem S0.lenA (l : List S0) : A.d (.int .i64 ((S0.rows l).length : Nat)) = A.d (.int .i64 (l.length : Nat)) := N5 S0.rows_map l
theorem S0.sz (l : List S0) : ∀ r ∈ S0.rows l, r.length = 9 := W8 S0.rows_map (fun _ => rfl) l
theorem S0.part {l x : List S0} {a b : Int} (h : slc l a b = some x) : a = (a.toNat : Int) ∧ b = (b.toNat : Int) ∧ a.toNat ≤ b.toNat ∧ b.toNat ≤ (S0.rows l).length ∧ S0.rows x = ((S0.rows l).take b.toNat).drop a.toNat := O5 S0.rows_map h
def S0.ents (m : List (Str × S0)) : List (Str × Row) := P6 S0.row m
def S0.val (x : S0) : A := .agg (S0.cells x)
theorem S0.lkT {k : Str} {m : List (Str × S0)} {x : Option S0} (hx : some (mgt k m) = some x) : lkA (V3 k (S0.ents m)) (S0.val S0.zero) true = .tup [S0.val (x.getD S0.zero), .d (.bool x.isSome)] := Wi (h := S0.val) (fun _ => rfl) rfl hx
theorem S0.lk {k : Str} {m : List (Str × S0)} {x : Option S0} (hx : some (mgt k m) = some x) : lkA (V3 k (S0.ents m)) (S0.val S0.zero) false = S0.val (x.getD S0.zero) := Xi (h := S0.val) (fun _ => rfl) rfl hx
theorem S0.lkNT {x : Option S0} (hx : some none = some x) : lkA none (S0.val S0.zero) true = .tup [S0.val (x.getD S0.zero), .d (.bool x.isSome)] := He (h := S0.val) rfl hx
theorem S0.lkN {x : Option S0} (hx : some none = some x) : lkA none (S0.val S0.zero) false = S0.val (x.getD S0.zero) := Ie (h := S0.val) rfl hx
theorem S0.mput (k : Str) (x : S0) (m : List (Str × S0)) : mput k (S0.row x) (S0.ents m) = S0.ents (mpt k x m) := (L6 S0.row k x m).symm
structure D0 where
  p : N0
  atV : Int
  localV : Bool
  names : List (Str × Bool)
def D0.zero : D0 := ⟨⟨[], []⟩, 0, false, []⟩
instance : Inhabited D0 := ⟨D0.zero⟩
def D0.row (x : D0) : Row := [.sl (E0.rows x.p.Decls), .sl (F0.rows x.p.Body), .int .i64 x.atV, .bool x.localV, .mp (ebool.ents x.names)]
def D0.rows (l : List D0) : List Row := l.map D0.row
theorem D0.rows_map (l : List D0) : D0.rows l = l.map D0.row := rfl
def D0.cells (x : D0) : List A := [.d (.sl (E0.rows x.p.Decls)), .d (.sl (F0.rows x.p.Body)), .d (.int .i64 x.atV), .d (.bool x.localV), .d (.mp (ebool.ents x.names))]
theorem D0.idx {l : List D0} {n : Int} {x : D0} (h : idx l n = some x) : (D0.rows l)[n.toNat]? = some (D0.row x) := A7 D0.rows_map h
theorem D0.app (l m : List D0) : D0.rows (l ++ m) = D0.rows l ++ D0.rows m := B7 D0.rows_map l m
theorem D0.len (l : List D0) : (D0.rows l).length = l.length := K6 D0.rows_map l
theorem D0.lenA (l : List D0) : A.d (.int .i64 ((D0.rows l).length : Nat)) = A.d (.int .i64 (l.length : Nat)) := N5 D0.rows_map l
theorem D0.sz (l : List D0) : ∀ r ∈ D0.rows l, r.length = 5 := W8 D0.rows_map (fun _ => rfl) l
theorem D0.part {l x : List D0} {a b : Int} (h : slc l a b = some x) : a = (a.toNat : Int) ∧ b = (b.toNat : Int) ∧ a.toNat ≤ b.toNat ∧ b.toNat ≤ (D0.rows l).length ∧ D0.rows x = ((D0.rows l).take b.toNat).drop a.toNat := O5 D0.rows_map h
def D0.ents (m : List (Str × D0)) : List (Str × Row) := P6 D0.row m
def D0.val (x : D0) : A := .agg (D0.cells x)
theorem D0.lkT {k : Str} {m : List (Str × D0)} {x : Option D0} (hx : some (mgt k m) = some x) : lkA (V3 k (D0.ents m)) (D0.val D0.zero) true = .tup [D0.val (x.getD D0.zero), .d (.bool x.isSome)] := Wi (h := D0.val) (fun _ => rfl) rfl hx
theorem D0.lk {k : Str} {m : List (Str × D0)} {x : Option D0} (hx : some (mgt k m) = some x) : lkA (V3 k (D0.ents m)) (D0.val D0.zero) false = D0.val (x.getD D0.zero) := Xi (h := D0.val) (fun _ => rfl) rfl hx
theorem D0.lkNT {x : Option D0} (hx : some none = some x) : lkA none (D0.val D0.zero) true = .tup [D0.val (x.getD D0.zero), .d (.bool x.isSome)] := He (h := D0.val) rfl hx
theorem D0.lkN {x : Option D0} (hx : some none = some x) : lkA none (D0.val D0.zero) false = D0.val (x.getD D0.zero) := Ie (h := D0.val) rfl hx
theorem D0.mput (k : Str) (x : D0) (m : List (Str × D0)) : mput k (D0.row x) (D0.ents m) = D0.ents (mpt k x m) := (L6 D0.row k x m).symm
structure J0 where
  typ : A0
  fixed : Bool
def J0.zero : J0 := ⟨⟨0, 0, 0, 0, [], [], []⟩, false⟩
instance : Inhabited J0 := ⟨J0.zero⟩
def J0.row (x : J0) : Row := [.int .i64 x.typ.Kind, .int .i64 x.typ.Low, .int .i64 x.typ.High, .int .i64 x.typ.Size, .str x.typ.Name, .sl (estr.rows x.typ.Names), .sl (A0.rows x.typ.Of), .bool x.fixed]
def J0.rows (l : List J0) : List Row := l.map J0.row
theorem J0.rows_map (l : List J0) : J0.rows l = l.map J0.row := rfl
def J0.cells (x : J0) : List A := [.d (.int .i64 x.typ.Kind), .d (.int .i64 x.typ.Low), .d (.int .i64 x.typ.High), .d (.int .i64 x.typ.Size), .d (.str x.typ.Name), .d (.sl (estr.rows x.typ.Names)), .d (.sl (A0.rows x.typ.Of)), .d (.bool x.fixed)]
theorem J0.idx {l : List J0} {n : Int} {x : J0} (h : idx l n = some x) : (J0.rows l)[n.toNat]? = some (J0.row x) := A7 J0.rows_map h
theorem J0.app (l m : List J0) : J0.rows (l ++ m) = J0.rows l ++ J0.rows m := B7 J0.rows_map l m
theorem J0.len (l : List J0) : (J0.rows l).length = l.length := K6 J0.rows_map l
theorem J0.lenA (l : List J0) : A.d (.int .i64 ((J0.rows l).length : Nat)) = A.d (.int .i64 (l.length : Nat)) := N5 J0.rows_map l
theorem J0.sz (l : List J0) : ∀ r ∈ J0.rows l, r.length = 8 := W8 J0.rows_map (fun _ => rfl) l
theorem J0.part {l x : List J0} {a b : Int} (h : slc l a b = some x) : a = (a.toNat : Int) ∧ b = (b.toNat : Int) ∧ a.toNat ≤ b.toNat ∧ b.toNat ≤ (J0.rows l).length ∧ J0.rows x = ((J0.rows l).take b.toNat).drop a.toNat := O5 J0.rows_map h
def J0.ents (m : List (Str × J0)) : List (Str × Row) := P6 J0.row m
def J0.val (x : J0) : A := .agg (J0.cells x)
theorem J0.lkT {k : Str} {m : List (Str × J0)} {x : Option J0} (hx : some (mgt k m) = some x) : lkA (V3 k (J0.ents m)) (J0.val J0.zero) true = .tup [J0.val (x.getD J0.zero), .d (.bool x.isSome)] := Wi (h := J0.val) (fun _ => rfl) rfl hx
theorem J0.lk {k : Str} {m : List (Str × J0)} {x : Option J0} (hx : some (mgt k m) = some x) : lkA (V3 k (J0.ents m)) (J0.val J0.zero) false = J0.val (x.getD J0.zero) := Xi (h := J0.val) (fun _ => rfl) rfl hx
theorem J0.lkNT {x : Option J0} (hx : some none = some x) : lkA none (J0.val J0.zero) true = .tup [J0.val (x.getD J0.zero), .d (.bool x.isSome)] := He (h := J0.val) rfl hx
theorem J0.lkN {x : Option J0} (hx : some none = some x) : lkA none (J0.val J0.zero) false = J0.val (x.getD J0.zero) := Ie (h := J0.val) rfl hx
theorem J0.mput (k : Str) (x : J0) (m : List (Str × J0)) : mput k (J0.row x) (J0.ents m) = J0.ents (mpt k x m) := (L6 J0.row k x m).symm
structure I0 where
  around : Option I0
  vars : List (Str × J0)
def I0.zero : I0 := ⟨none, []⟩
instance : Inhabited I0 := ⟨I0.zero⟩
mutual
def I0.rowX : I0 → Row
  | .mk y0 y1 => [.bxo (I0.optX y0), .mp (J0.ents y1)]
def I0.optX : Option I0 → Option Row
  | none => none
  | some x => some (I0.rowX x)
end
def I0.opt (x : Option I0) : Option Row := I0.optX x
def I0.row (x : I0) : Row := [.bxo (I0.opt x.around), .mp (J0.ents x.vars)]
def I0.rows (l : List I0) : List Row := l.map I0.row
theorem I0.rows_map (l : List I0) : I0.rows l = l.map I0.row := rfl
theorem I0.opt_some {x : Option I0} {y : I0} (h : x = some y) : D.bxo (I0.opt x) = .bxo (some (I0.row y)) := by subst h; cases y; rfl
theorem I0.opt_nilB (x : Option I0) : S13 (.bxo (I0.opt x)) = some x.isNone := by cases x <;> rfl
def I0.cells (x : I0) : List A := [.d (.bxo (I0.opt x.around)), .d (.mp (J0.ents x.vars))]
theorem I0.idx {l : List I0} {n : Int} {x : I0} (h : idx l n = some x) : (I0.rows l)[n.toNat]? = some (I0.row x) := A7 I0.rows_map h
theorem I0.app (l m : List I0) : I0.rows (l ++ m) = I0.rows l ++ I0.rows m := B7 I0.rows_map l m
theorem I0.len (l : List I0) : (I0.rows l).length = l.length := K6 I0.rows_map l
theorem I0.lenA (l : List I0) : A.d (.int .i64 ((I0.rows l).length : Nat)) = A.d (.int .i64 (l.length : Nat)) := N5 I0.rows_map l
theorem I0.sz (l : List I0) : ∀ r ∈ I0.rows l, r.length = 2 := W8 I0.rows_map (fun _ => rfl) l
theorem I0.part {l x : List I0} {a b : Int} (h : slc l a b = some x) : a = (a.toNat : Int) ∧ b = (b.toNat : Int) ∧ a.toNat ≤ b.toNat ∧ b.toNat ≤ (I0.rows l).length ∧ I0.rows x = ((I0.rows l).take b.toNat).drop a.toNat := O5 I0.rows_map h
def I0.ents (m : List (Str × I0)) : List (Str × Row) := P6 I0.row m
def I0.val (x : I0) : A := .agg (I0.cells x)
theorem I0.lkT {k : Str} {m : List (Str × I0)} {x : Option I0} (hx : some (mgt k m) = some x) : lkA (V3 k (I0.ents m)) (I0.val I0.zero) true = .tup [I0.val (x.getD I0.zero), .d (.bool x.isSome)] := Wi (h := I0.val) (fun _ => rfl) rfl hx
theorem I0.lk {k : Str} {m : List (Str × I0)} {x : Option I0} (hx : some (mgt k m) = some x) : lkA (V3 k (I0.ents m)) (I0.val I0.zero) false = I0.val (x.getD I0.zero) := Xi (h := I0.val) (fun _ => rfl) rfl hx
theorem I0.lkNT {x : Option I0} (hx : some none = some x) : lkA none (I0.val I0.zero) true = .tup [I0.val (x.getD I0.zero), .d (.bool x.isSome)] := He (h := I0.val) rfl hx
theorem I0.lkN {x : Option I0} (hx : some none = some x) : lkA none (I0.val I0.zero) false = I0.val (x.getD I0.zero) := Ie (h := I0.val) rfl hx
theorem I0.mput (k : Str) (x : I0) (m : List (Str × I0)) : mput k (I0.row x) (I0.ents m) = I0.ents (mpt k x m) := (L6 I0.row k x m).symm
structure P0 where
  Path : Str
  Bool : Bool
  Low : Int
  High : Int
def P0.zero : P0 := ⟨[], false, 0, 0⟩
instance : Inhabited P0 := ⟨P0.zero⟩
def P0.row (x : P0) : Row := [.str x.Path, .bool x.Bool, .int .i64 x.Low, .int .i64 x.High]
def P0.rows (l : List P0) : List Row := l.map P0.row
theorem P0.rows_map (l : List P0) : P0.rows l = l.map P0.row := rfl
def P0.cells (x : P0) : List A := [.d (.str x.Path), .d (.bool x.Bool), .d (.int .i64 x.Low), .d (.int .i64 x.High)]
theorem P0.idx {l : List P0} {n : Int} {x : P0} (h : idx l n = some x) : (P0.rows l)[n.toNat]? = some (P0.row x) := A7 P0.rows_map h
theorem P0.app (l m : List P0) : P0.rows (l ++ m) = P0.rows l ++ P0.rows m := B7 P0.rows_map l m
theorem P0.len (l : List P0) : (P0.rows l).length = l.length := K6 P0.rows_map l
theorem P0.lenA (l : List P0) : A.d (.int .i64 ((P0.rows l).length : Nat)) = A.d (.int .i64 (l.length : Nat)) := N5 P0.rows_map l
theorem P0.sz (l : List P0) : ∀ r ∈ P0.rows l, r.length = 4 := W8 P0.rows_map (fun _ => rfl) l
theorem P0.part {l x : List P0} {a b : Int} (h : slc l a b = some x) : a = (a.toNat : Int) ∧ b = (b.toNat : Int) ∧ a.toNat ≤ b.toNat ∧ b.toNat ≤ (P0.rows l).length ∧ P0.rows x = ((P0.rows l).take b.toNat).drop a.toNat := O5 P0.rows_map h
def P0.ents (m : List (Str × P0)) : List (Str × Row) := P6 P0.row m
def P0.val (x : P0) : A := .agg (P0.cells x)
theorem P0.lkT {k : Str} {m : List (Str × P0)} {x : Option P0} (hx : some (mgt k m) = some x) : lkA (V3 k (P0.ents m)) (P0.val P0.zero) true = .tup [P0.val (x.getD P0.zero), .d (.bool x.isSome)] := Wi (h := P0.val) (fun _ => rfl) rfl hx
theorem P0.lk {k : Str} {m : List (Str × P0)} {x : Option P0} (hx : some (mgt k m) = some x) : lkA (V3 k (P0.ents m)) (P0.val P0.zero) false = P0.val (x.getD P0.zero) := Xi (h := P0.val) (fun _ => rfl) rfl hx
theorem P0.lkNT {x : Option P0} (hx : some none = some x) : lkA none (P0.val P0.zero) true = .tup [P0.val (x.getD P0.zero), .d (.bool x.isSome)] := He (h := P0.val) rfl hx
theorem P0.lkN {x : Option P0} (hx : some none = some x) : lkA none (P0.val P0.zero) false = P0.val (x.getD P0.zero) := Ie (h := P0.val) rfl hx
theorem P0.mput (k : Str) (x : P0) (m : List (Str × P0)) : mput k (P0.row x) (P0.ents m) = P0.ents (mpt k x m) := (L6 P0.row k x m).symm
structure K0 where
  steps : Int
  outputs : Int
def K0.zero : K0 := ⟨0, 0⟩
instance : Inhabited K0 := ⟨K0.zero⟩
def K0.row (x : K0) : Row := [.int .i64 x.steps, .int .i64 x.outputs]
def K0.rows (l : List K0) : List Row := l.map K0.row
theorem K0.rows_map (l : List K0) : K0.rows l = l.map K0.row := rfl
def K0.cells (x : K0) : List A := [.d (.int .i64 x.steps), .d (.int .i64 x.outputs)]
theorem K0.idx {l : List K0} {n : Int} {x : K0} (h : idx l n = some x) : (K0.rows l)[n.toNat]? = some (K0.row x) := A7 K0.rows_map h
theorem K0.app (l m : List K0) : K0.rows (l ++ m) = K0.rows l ++ K0.rows m := B7 K0.rows_map l m
theorem K0.len (l : List K0) : (K0.rows l).length = l.length := K6 K0.rows_map l
theorem K0.lenA (l : List K0) : A.d (.int .i64 ((K0.rows l).length : Nat)) = A.d (.int .i64 (l.length : Nat)) := N5 K0.rows_map l
theorem K0.sz (l : List K0) : ∀ r ∈ K0.rows l, r.length = 2 := W8 K0.rows_map (fun _ => rfl) l
theorem K0.part {l x : List K0} {a b : Int} (h : slc l a b = some x) : a = (a.toNat : Int) ∧ b = (b.toNat : Int) ∧ a.toNat ≤ b.toNat ∧ b.toNat ≤ (K0.rows l).length ∧ K0.rows x = ((K0.rows l).take b.toNat).drop a.toNat := O5 K0.rows_map h
def K0.ents (m : List (Str × K0)) : List (Str × Row) := P6 K0.row m
def K0.val (x : K0) : A := .agg (K0.cells x)
theorem K0.lkT {k : Str} {m : List (Str × K0)} {x : Option K0} (hx : some (mgt k m) = some x) : lkA (V3 k (K0.ents m)) (K0.val K0.zero) true = .tup [K0.val (x.getD K0.zero), .d (.bool x.isSome)] := Wi (h := K0.val) (fun _ => rfl) rfl hx
theorem K0.lk {k : Str} {m : List (Str × K0)} {x : Option K0} (hx : some (mgt k m) = some x) : lkA (V3 k (K0.ents m)) (K0.val K0.zero) false = K0.val (x.getD K0.zero) := Xi (h := K0.val) (fun _ => rfl) rfl hx
theorem K0.lkNT {x : Option K0} (hx : some none = some x) : lkA none (K0.val K0.zero) true = .tup [K0.val (x.getD K0.zero), .d (.bool x.isSome)] := He (h := K0.val) rfl hx
theorem K0.lkN {x : Option K0} (hx : some none = some x) : lkA none (K0.val K0.zero) false = K0.val (x.getD K0.zero) := Ie (h := K0.val) rfl hx
theorem K0.mput (k : Str) (x : K0) (m : List (Str × K0)) : mput k (K0.row x) (K0.ents m) = K0.ents (mpt k x m) := (L6 K0.row k x m).symm
def esl_ApiDecl.row (x : List E0) : Row := [.sl (E0.rows x)]
def esl_ApiDecl.rows (l : List (List E0)) : List Row := l.map esl_ApiDecl.row
theorem esl_ApiDecl.rows_map (l : List (List E0)) : esl_ApiDecl.rows l = l.map esl_ApiDecl.row := rfl
def esl_ApiDecl.zero : List E0 := []
theorem esl_ApiDecl.idx {l : List (List E0)} {n : Int} {x : (List E0)} (h : idx l n = some x) : (esl_ApiDecl.rows l)[n.toNat]? = some (esl_ApiDecl.row x) := A7 esl_ApiDecl.rows_map h
theorem esl_ApiDecl.app (l m : List (List E0)) : esl_ApiDecl.rows (l ++ m) = esl_ApiDecl.rows l ++ esl_ApiDecl.rows m := B7 esl_ApiDecl.rows_map l m
theorem esl_ApiDecl.len (l : List (List E0)) : (esl_ApiDecl.rows l).length = l.length := K6 esl_ApiDecl.rows_map l
theorem esl_ApiDecl.lenA (l : List (List E0)) : A.d (.int .i64 ((esl_ApiDecl.rows l).length : Nat)) = A.d (.int .i64 (l.length : Nat)) := N5 esl_ApiDecl.rows_map l
theorem esl_ApiDecl.sz (l : List (List E0)) : ∀ r ∈ esl_ApiDecl.rows l, r.length = 1 := W8 esl_ApiDecl.rows_map (fun _ => rfl) l
theorem esl_ApiDecl.part {l x : List (List E0)} {a b : Int} (h : slc l a b = some x) : a = (a.toNat : Int) ∧ b = (b.toNat : Int) ∧ a.toNat ≤ b.toNat ∧ b.toNat ≤ (esl_ApiDecl.rows l).length ∧ esl_ApiDecl.rows x = ((esl_ApiDecl.rows l).take b.toNat).drop a.toNat := O5 esl_ApiDecl.rows_map h
def esl_ApiDecl.ents (m : List (Str × (List E0))) : List (Str × Row) := P6 esl_ApiDecl.row m
def esl_ApiDecl.val (x : (List E0)) : A := .d (.sl (E0.rows x))
theorem esl_ApiDecl.lkT {k : Str} {m : List (Str × (List E0))} {x : Option (List E0)} (hx : some (mgt k m) = some x) : lkA (V3 k (esl_ApiDecl.ents m)) (esl_ApiDecl.val esl_ApiDecl.zero) true = .tup [esl_ApiDecl.val (x.getD esl_ApiDecl.zero), .d (.bool x.isSome)] := Wi (h := esl_ApiDecl.val) (fun _ => rfl) rfl hx
theorem esl_ApiDecl.lk {k : Str} {m : List (Str × (List E0))} {x : Option (List E0)} (hx : some (mgt k m) = some x) : lkA (V3 k (esl_ApiDecl.ents m)) (esl_ApiDecl.val esl_ApiDecl.zero) false = esl_ApiDecl.val (x.getD esl_ApiDecl.zero) := Xi (h := esl_ApiDecl.val) (fun _ => rfl) rfl hx
theorem esl_ApiDecl.lkNT {x : Option (List E0)} (hx : some none = some x) : lkA none (esl_ApiDecl.val esl_ApiDecl.zero) true = .tup [esl_ApiDecl.val (x.getD esl_ApiDecl.zero), .d (.bool x.isSome)] := He (h := esl_ApiDecl.val) rfl hx
theorem esl_ApiDecl.lkN {x : Option (List E0)} (hx : some none = some x) : lkA none (esl_ApiDecl.val esl_ApiDecl.zero) false = esl_ApiDecl.val (x.getD esl_ApiDecl.zero) := Ie (h := esl_ApiDecl.val) rfl hx
theorem esl_ApiDecl.mput (k : Str) (x : (List E0)) (m : List (Str × (List E0))) : mput k (esl_ApiDecl.row x) (esl_ApiDecl.ents m) = esl_ApiDecl.ents (mpt k x m) := (L6 esl_ApiDecl.row k x m).symm
end Go.Proofs.YtdkabnfphmmmnaaGreatDoor

set_option maxRecDepth 100000
set_option maxHeartbeats 4000000
set_option synthInstance.maxSize 2000
set_option linter.unusedVariables false
namespace Go.Proofs.YtdkabnfphmmmnaaGreatDoor
open Go.Am
def X9 (l : List Str) : Option (List Str) := if decide ((0 + l.length) * 17 ≤ 140737488355328) = true then some l else none
theorem Iu {l res : List Str} (hh : X9 l = some res) : T0 C 225 [.d (.sl (estr.rows l))] [] (fun x H' => H' = [] ∧ x = .d (.sl (estr.rows res))) := by
  obtain ⟨hroom, hh⟩ := Pd hh
  cases hh
  refine T0.intro hC Tryz.func225 rfl rfl rfl ?_
  refine AEx.seq ?_
  refine AEx.regionN rfl rfl ?_
  refine L0.q hC rfl trivial ?_
  refine L0.nil ?_
  refine AEx.seq ?_
  refine AEx.seq ?_
  refine AEx.regionN rfl rfl ?_
  refine L0.q hC rfl trivial ?_
  refine L0.z hC rfl fun b hnil => ?_
  refine L0.nil ?_
  refine AEx.cond rfl (fun hb => ?_) (fun hb => ?_)
  · obtain rfl : l = [] := List.eq_nil_of_length_eq_zero (by have := estr.len l; rw [hnil hb] at this; exact this.symm)
    refine AEx.seq ?_
    refine AEx.regionN rfl rfl ?_
    refine L0.q hC rfl trivial ?_
    skip
    refine L0.nil ?_
    refine AEx.ret ?_
    exact ⟨_, .d (.sl (estr.rows [])), [], rfl, .full, trivial, rfl, rfl, rfl, rfl⟩
  · refine AEx.skip ?_
    refine AEx.seq ?_
    refine AEx.regionN rfl rfl ?_
    refine L0.b hC rfl ?_
    refine L0.q hC rfl trivial ?_
    refine L0.ap hC rfl (rs := estr.rows l) rfl (fun r hr => absurd hr (List.not_mem_nil)) (estr.sz l) (I12 rfl (estr.len l) hroom) ?_
    refine L0.q hC rfl trivial ?_
    refine L0.nil ?_
    refine AEx.ret ?_
    exact ⟨_, .d (.sl (estr.rows l)), [], rfl, .osl, trivial, rfl, rfl, rfl, rfl⟩
def Qk (s : Str) : Option C0 :=
  some (C0.mk 3 0 s [])
theorem Kr {s res} (hh : Qk s = some res) : T0 C 25 [.d (.str s)] [] (Ret [] (.agg (C0.cells res))) := by
  unfold Qk at hh
  cases hh
  exact T0.intro hC Tryz.func25 rfl rfl rfl (s' rfl rfl (L0.nf hC rfl (n' (p' 2 rfl (L0.s hC rfl (n' (re' (rt' rfl rfl rfl))))))))
def Pm (n : Int) : Option C0 :=
  some (C0.mk 0 n [] [])
theorem Ct {n res} (hh : Pm n = some res) : T0 C 26 [.d (.int .i64 n)] [] (Ret [] (.agg (C0.cells res))) := by
  unfold Pm at hh
  cases hh
  exact T0.intro hC Tryz.func26 rfl rfl rfl (s' rfl rfl (L0.nf hC rfl (n' (p' 2 rfl (L0.s hC rfl (n' (re' (rt' rfl rfl rfl))))))))
def Nb (o : Int) (kids : List C0) : Option C0 :=
  some (C0.mk o 0 [] kids)
theorem Nh {o kids res} (hh : Nb o kids = some res) : T0 C 24 [.d (.int .i64 o), .d (.sl (C0.rows kids))] [] (Ret [] (.agg (C0.cells res))) := by
  unfold Nb at hh
  cases hh
  exact T0.intro hC Tryz.func24 rfl rfl rfl (s' rfl rfl (L0.nf hC rfl (n' (p' 3 rfl (L0.s hC rfl (n' (re' (rt' rfl rfl rfl))))))))
def Jh (k : Int) : Option (Bool × Bool) :=
  some ((bif (decide (k ≥ 0)) then (decide (k ≤ 6)) else false), (bif (k == 5) then true else (k == 6)))
theorem C16 {k res} (hh : Jh k = some res) : T0 C 173 [.d (.int .i64 k)] [] (Ret [] (.tup [.d (.bool res.1), .d (.bool res.2)])) := by
  unfold Jh at hh
  cases hh
  exact T0.intro hC Tryz.func173 rfl rfl rfl (t' rfl (sg' 14 rfl (G' 4 rfl (a1' rfl (pa' rfl (G' 4 rfl (a1' rfl (po' rfl (G' 2 rfl (an' (n' (re' (rt' rfl rfl rfl)))))))))))))
def U0 (ok : Bool) (syntaxReport : B0) : Option B0 :=
  some (B0.mk syntaxReport.nodes syntaxReport.depth (bif syntaxReport.badForm then true else (!ok)) syntaxReport.badName syntaxReport.badNumber)
theorem B1 {ok syntaxReport res} (hh : U0 ok syntaxReport = some res) : T0 C 149 [.ref 0 0, .d (.bool ok)] [.row (B0.cells syntaxReport) 135] (Ret [.row (B0.cells res) 135] (.tup [])) := by
  unfold U0 at hh
  cases hh
  exact T0.intro hC Tryz.func149 rfl rfl rfl (AEx.regionG 11 rfl (G' 7 rfl (a1' rfl (po' rfl (G' 2 rfl (an' (L0.s hC rfl (n' (rn' rfl rfl rfl)))))))))
def P1 (s1 : List Str) (s2 : List Str) (v13 : Int) : Option Bool :=
  if (decide (v13 < ((s1).length : Int))) = true then
    idx s1 v13 >>= fun x1 =>
    idx s2 v13 >>= fun x2 =>
    if (!(x1 == x2)) = true then
      some false
    else
      P1 s1 s2 (IntKind.i64.wrap (v13 + 1))
  else
    some true
  partial_fixpoint
abbrev Uj (s1 : List Str) (s2 : List Str) (v13 : Int) (res : Bool) : Prop := LM C 26 0 Tryz.f207 [1, 1, 0, 1, 4] [(0, .d (.sl (estr.rows s1))), (1, .d (.sl (estr.rows s2))), (12, .d (.int .i64 ((s1).length : Int))), (13, .d (.int .i64 v13))] [] (Ret [] (.d (.bool res)))
theorem Rq (s1 : List Str) (s2 : List Str) : (∀ v13 res, P1 s1 s2 v13 = some res → Uj s1 s2 v13 res) := by
  refine P1.partial_correctness s1 s2 _ ?_
  · intro g0 ih0 v13 res hh
    refine D2.unroll (t' rfl (S' (ci' rfl hh (fun hh => ?_) (fun hh => ?_))))
    · obtain ⟨x1, hx1, hh⟩ := bs' hh
      obtain ⟨x2, hx2, hh⟩ := bs' hh
      refine sk' (S' (bk' (t' rfl (S' (AEx.draw hC 9 rfl rfl rfl (O' 2 rfl (AQ.i hC rfl (C1 hx1) (estr.idx hx1) rfl (O' 3 rfl (AQ.i hC rfl (C1 hx2) (estr.idx hx2) rfl (E' rfl (n' (ci' rfl hh (fun hh => ?_) (fun hh => ?_)))))))))))))
      · cases hh
        exact t' rfl (re' (rt' rfl rfl rfl))
      exact sk' (T' rfl (lw' (ih0 _ _ hh) rfl rfl rfl))
    cases hh
    exact ex' (t' rfl (re' (rt' rfl rfl rfl)))
theorem Sr {s1 s2 v13 res} (hh : P1 s1 s2 v13 = some res) : Uj s1 s2 v13 res := (Rq s1 s2) _ _ hh
def G3 (s1 : List Str) (s2 : List Str) : Option Bool :=
  if (((s1).length : Int) != ((s2).length : Int)) = true then
    some false
  else
    P1 s1 s2 0
theorem Jl {s1 s2 res} (hh : G3 s1 s2 = some res) : T0 C 207 [.d (.sl (estr.rows s1)), .d (.sl (estr.rows s2))] [] (Ret [] (.d (.bool res))) := by
  unfold G3 at hh
  refine T0.intro hC Tryz.func207 rfl rfl rfl (t' rfl (S' (p' 1 rfl (qe' rfl trivial (estr.lenA _) (q' rfl (qe' rfl trivial (estr.lenA _) (e' rfl (ci' rfl hh (fun hh => ?_) (fun hh => ?_)))))))))
  · cases hh
    exact t' rfl (re' (rt' rfl rfl rfl))
  exact sk' (S' (p' 1 rfl (qe' rfl trivial (estr.lenA _) (e' rfl (bk' (fw' (Sr hh) rfl rfl rfl))))))
mutual
def C7 (a : A0) (b : A0) : Option Bool :=
  (if (bif (bif (bif (bif (a.Kind == b.Kind) then (a.Low == b.Low) else false) then (a.High == b.High) else false) then (a.Size == b.Size) else false) then (a.Name == b.Name) else false) = true then G3 a.Names b.Names else some default) >>= fun x1 =>
  (if (bif (bif (bif (bif (bif (a.Kind == b.Kind) then (a.Low == b.Low) else false) then (a.High == b.High) else false) then (a.Size == b.Size) else false) then (a.Name == b.Name) else false) then x1 else false) = true then J1 a.Of b.Of else some default) >>= fun x2 =>
  some (bif (bif (bif (bif (bif (bif (a.Kind == b.Kind) then (a.Low == b.Low) else false) then (a.High == b.High) else false) then (a.Size == b.Size) else false) then (a.Name == b.Name) else false) then x1 else false) then x2 else false)
  partial_fixpoint
def J1 (s1 : List A0) (s2 : List A0) : Option Bool :=
  if (((s1).length : Int) != ((s2).length : Int)) = true then
    some false
  else
    Y0 s1 s2 0
  partial_fixpoint
def Y0 (s1 : List A0) (s2 : List A0) (v17 : Int) : Option Bool :=
  if (decide (v17 < ((s1).length : Int))) = true then
    idx s1 v17 >>= fun x1 =>
    idx s2 v17 >>= fun x2 =>
    C7 x1 x2 >>= fun x3 =>
    if (!x3) = true then
      some false
    else
      Y0 s1 s2 (IntKind.i64.wrap (v17 + 1))
  else
    some true
  partial_fixpoint
end
abbrev Uw (a : A0) (b : A0) (res : Bool) : Prop := T0 C 174 [.agg (A0.cells a), .agg (A0.cells b)] [] (Ret [] (.d (.bool res)))
abbrev J9 (s1 : List A0) (s2 : List A0) (res : Bool) : Prop := T0 C 208 [.d (.sl (A0.rows s1)), .d (.sl (A0.rows s2)), .clo 174 []] [] (Ret [] (.d (.bool res)))
abbrev P8 (s1 : List A0) (s2 : List A0) (v17 : Int) (res : Bool) : Prop := LM C 32 0 Tryz.f208 [1, 1, 0, 1, 4] [(1, .d (.sl (A0.rows s2))), (2, .clo 174 []), (15, .d (.sl (A0.rows s1))), (16, .d (.int .i64 ((s1).length : Int))), (17, .d (.int .i64 v17))] [] (Ret [] (.d (.bool res)))
theorem An : (∀ a b res, C7 a b = some res → Uw a b res) ∧ (∀ s1 s2 res, J1 s1 s2 = some res → J9 s1 s2 res) ∧ (∀ s1 s2 v17 res, Y0 s1 s2 v17 = some res → P8 s1 s2 v17 res) := by
  refine C7.mutual_partial_correctness _ _ _ ?_ ?_ ?_
  · intro g1 ih1 a b res hh
    obtain ⟨x1, hx1, hh⟩ := bs' hh
    obtain ⟨x2, hx2, hh⟩ := bs' hh
    cases hh
    refine T0.intro hC Tryz.func174 rfl rfl rfl (s' rfl rfl (L0.n hC rfl (L0.n hC rfl (e' rfl (sg' 48 rfl (G' 7 rfl (a1' rfl (a0' rfl (a1' rfl (a2' rfl (pa' rfl (G' 2 rfl (a1' rfl ?_)))))))))))))
    refine a0' rfl (a1' rfl (a2' rfl (pa' rfl (G' 2 rfl (a1' rfl (a0' rfl (a1' rfl (a2' rfl (pa' rfl (G' 2 rfl (a1' rfl (a0' rfl (a1' rfl ?_)))))))))))))
    refine a2' rfl (pa' rfl (G' 2 rfl (a1' rfl (a0' rfl (a1' rfl (AG.c rfl rfl (fun hg => ⟨hg, hg, trivial⟩) (fun hw => Jl (Jd hw hx1)) (pa' rfl (G' 2 rfl (a1' rfl (a0' rfl (a1' rfl (AG.c rfl rfl (fun hg => ⟨hg, hg, trivial⟩) (fun hw => ih1 _ _ _ (Jd hw hx2)) (pa' rfl ?_)))))))))))))
    exact a0' rfl (an' (n' (re' (rt' rfl rfl rfl))))
  · intro g2 ih2 s1 s2 res hh
    refine T0.intro hC Tryz.func208 rfl rfl rfl (t' rfl (S' (p' 1 rfl (qe' rfl trivial (A0.lenA _) (q' rfl (qe' rfl trivial (A0.lenA _) (e' rfl (ci' rfl hh (fun hh => ?_) (fun hh => ?_)))))))))
    · cases hh
      exact t' rfl (re' (rt' rfl rfl rfl))
    exact sk' (S' (p' 1 rfl (qe' rfl trivial (A0.lenA _) (e' rfl (bk' (fw' (ih2 _ _ _ _ hh) rfl rfl rfl))))))
  · intro g0 g2 ih0 ih2 s1 s2 v17 res hh
    refine D2.unroll (t' rfl (S' (ci' rfl hh (fun hh => ?_) (fun hh => ?_))))
    · obtain ⟨x1, hx1, hh⟩ := bs' hh
      obtain ⟨x2, hx2, hh⟩ := bs' hh
      obtain ⟨x3, hx3, hh⟩ := bs' hh
      refine sk' (S' (bk' (p' 1 rfl (i' rfl (C1 hx1) (A0.idx hx1) rfl (q' rfl (L0.nf hC rfl (q' rfl (L0.s hC rfl (n' (p' 2 rfl (i' rfl (C1 hx2) (A0.idx hx2) rfl (q' rfl (L0.nf hC rfl ?_)))))))))))))
      refine L0.s hC rfl (n' (p' 3 rfl (c' (ih0 _ _ _ hx3) rfl rfl (e' rfl (ci' rfl hh (fun hh => ?_) (fun hh => ?_))))))
      · cases hh
        exact t' rfl (re' (rt' rfl rfl rfl))
      exact sk' (T' rfl (lw' (ih2 _ _ _ _ hh) rfl rfl rfl))
    cases hh
    exact ex' (t' rfl (re' (rt' rfl rfl rfl)))
theorem T14 {a b res} (hh : C7 a b = some res) : Uw a b res := (An).1 _ _ _ hh
theorem Jw {s1 s2 res} (hh : J1 s1 s2 = some res) : J9 s1 s2 res := (An).2.1 _ _ _ hh
theorem Ju {s1 s2 v17 res} (hh : Y0 s1 s2 v17 = some res) : P8 s1 s2 v17 res := (An).2.2 _ _ _ _ hh
def B8 (d : Int) (syntaxReport : B0) : Option B0 :=
  some (B0.mk syntaxReport.nodes (max syntaxReport.depth d) syntaxReport.badForm syntaxReport.badName syntaxReport.badNumber)
theorem Xl {d syntaxReport res} (hh : B8 d syntaxReport = some res) : T0 C 148 [.ref 0 0, .d (.int .i64 d)] [.row (B0.cells syntaxReport) 135] (Ret [.row (B0.cells res) 135] (.tup [])) := by
  unfold B8 at hh
  cases hh
  exact T0.intro hC Tryz.func148 rfl rfl rfl (P' 9 rfl (L0.s hC rfl (n' (rn' rfl rfl rfl))))
def H4 (n : Int) (low : Int) (high : Int) : Option Bool :=
  some (bif (decide (n ≥ low)) then (decide (n ≤ high)) else false)
theorem A6 {n low high res} (hh : H4 n low high = some res) : T0 C 154 [.d (.int .i64 n), .d (.int .i64 low), .d (.int .i64 high)] [] (Ret [] (.d (.bool res))) := by
  unfold H4 at hh
  cases hh
  exact T0.intro hC Tryz.func154 rfl rfl rfl (t' rfl (sg' 9 rfl (G' 6 rfl (a2' rfl (pa' rfl (a0' rfl (an' (n' (re' (rt' rfl rfl rfl))))))))))
def Z1 (ok : Bool) (syntaxReport : B0) : Option B0 :=
  some (B0.mk syntaxReport.nodes syntaxReport.depth syntaxReport.badForm syntaxReport.badName (bif syntaxReport.badNumber then true else (!ok)))
theorem D4 {ok syntaxReport res} (hh : Z1 ok syntaxReport = some res) : T0 C 153 [.ref 0 0, .d (.bool ok)] [.row (B0.cells syntaxReport) 135] (Ret [.row (B0.cells res) 135] (.tup [])) := by
  unfold Z1 at hh
  cases hh
  exact T0.intro hC Tryz.func153 rfl rfl rfl (AEx.regionG 11 rfl (G' 7 rfl (a1' rfl (po' rfl (G' 2 rfl (an' (L0.s hC rfl (n' (rn' rfl rfl rfl)))))))))
def Qi (c : Int) : Option Bool :=
  some (bif (decide (c ≥ 97)) then (decide (c ≤ 122)) else false)
theorem N17 {c res} (hh : Qi c = some res) : T0 C 229 [.d (.int .u8 c)] [] (Ret [] (.d (.bool res))) := by
  unfold Qi at hh
  cases hh
  exact T0.intro hC Tryz.func229 rfl rfl rfl (t' rfl (sg' 7 rfl (G' 4 rfl (a1' rfl (pa' rfl (a0' rfl (an' (n' (re' (rt' rfl rfl rfl))))))))))
def Fk (c : Int) : Option Bool :=
  some (bif (decide (c ≥ 48)) then (decide (c ≤ 57)) else false)
theorem Z18 {c res} (hh : Fk c = some res) : T0 C 230 [.d (.int .u8 c)] [] (Ret [] (.d (.bool res))) := by
  unfold Fk at hh
  cases hh
  exact T0.intro hC Tryz.func230 rfl rfl rfl (t' rfl (sg' 7 rfl (G' 4 rfl (a1' rfl (pa' rfl (a0' rfl (an' (n' (re' (rt' rfl rfl rfl))))))))))
def C8 (s : Str) (v6 : Int) : Option Bool :=
  if (decide (v6 < ((s).length : Int))) = true then
    idx s v6 >>= fun x1 =>
    Qi (x1.toNat : Int) >>= fun x2 =>
    (if ((!x2) && (!(v6 == 0))) = true then idx s v6 else some default) >>= fun x3 =>
    (if ((!x2) && (!(v6 == 0))) = true then Fk (x3.toNat : Int) else some default) >>= fun x4 =>
    if (bif (!x2) then (bif (v6 == 0) then true else (!x4)) else false) = true then
      some false
    else
      C8 s (IntKind.i64.wrap (v6 + 1))
  else
    some (!(s == []))
  partial_fixpoint
abbrev Yx (s : Str) (v6 : Int) (res : Bool) : Prop := LM C 28 0 Tryz.f223 [1, 0, 1, 4] [(0, .d (.str s)), (5, .d (.int .i64 ((s).length : Int))), (6, .d (.int .i64 v6))] [] (Ret [] (.d (.bool res)))
theorem U14 (s : Str) : (∀ v6 res, C8 s v6 = some res → Yx s v6 res) := by
  refine C8.partial_correctness s _ ?_
  · intro g0 ih0 v6 res hh
    refine D2.unroll (t' rfl (S' (ci' rfl hh (fun hh => ?_) (fun hh => ?_))))
    · obtain ⟨x1, hx1, hh⟩ := bs' hh
      obtain ⟨x2, hx2, hh⟩ := bs' hh
      obtain ⟨x3, hx3, hh⟩ := bs' hh
      obtain ⟨x4, hx4, hh⟩ := bs' hh
      refine sk' (S' (bk' (t' rfl (sg' 16 rfl (G' 2 rfl (AG.x hC rfl rfl (fun _ => trivial) (fun hw => ⟨C1 hx1, H12 hx1⟩) (AG.c rfl rfl (fun _ => trivial) (fun _ => N17 hx2) (G' 3 rfl (a1' rfl (a1' rfl (G' 2 rfl (AG.x hC rfl rfl (fun hg => ⟨hg, hg, trivial⟩) (fun hw => ⟨C1 (Jd hw hx3), H12 (Jd hw hx3)⟩) (AG.c rfl rfl (fun hg => ⟨hg, trivial⟩) (fun hw => Z18 (Jd hw hx4)) ?_)))))))))))))
      refine a1' rfl (pO' rfl (pa' rfl (an' (n' (ci' rfl hh (fun hh => ?_) (fun hh => ?_))))))
      · cases hh
        exact t' rfl (re' (rt' rfl rfl rfl))
      exact sk' (T' rfl (lw' (ih0 _ _ hh) rfl rfl rfl))
    cases hh
    exact ex' (t' rfl (re' (rt' rfl rfl rfl)))
theorem D16 {s v6 res} (hh : C8 s v6 = some res) : Yx s v6 res := (U14 s) _ _ hh
def Yl (s : Str) : Option Bool :=
  C8 s 0
theorem W1a {s res} (hh : Yl s = some res) : T0 C 223 [.d (.str s)] [] (Ret [] (.d (.bool res))) := by
  unfold Yl at hh
  exact T0.intro hC Tryz.func223 rfl rfl rfl (t' rfl (S' (t' rfl (bk' (fw' (D16 hh) rfl rfl rfl)))))
def Hg (Ye : Str) : Option Bool :=
  (if (!(Ye == [])) = true then Zm Ye [32] else some default) >>= fun x1 =>
  if (!(bif (!(Ye == [])) then (!x1) else false) || (decide (1 + Ye.length ≤ maxLen))) = true then
    if (!(bif (!(Ye == [])) then (!x1) else false) || (decide (([32] ++ Ye).length + 1 ≤ maxLen))) = true then
      (if (bif (!(Ye == [])) then (!x1) else false) = true then Zm [32, 116, 121, 112, 101, 32, 115, 101, 99, 114, 101, 116, 32, 112, 117, 98, 108, 105, 99, 32, 114, 97, 110, 100, 111, 109, 32, 118, 97, 114, 32, 104, 97, 116, 99, 104, 32, 102, 117, 110, 99, 32, 114, 101, 116, 117, 114, 110, 32, 98, 101, 103, 105, 110, 32, 101, 110, 100, 32, 98, 111, 111, 108, 32, 105, 110, 116, 32, 97, 114, 114, 97, 121, 32, 111, 102, 32, 114, 101, 99, 111, 114, 100, 32, 116, 114, 117, 101, 32, 102, 97, 108, 115, 101, 32, 99, 97, 108, 108, 32, 114, 101, 108, 101, 97, 115, 101, 32, 111, 117, 116, 112, 117, 116, 32, 119, 97, 105, 116, 32, 105, 102, 32, 101, 108, 115, 101, 32, 119, 104, 105, 108, 101, 32, 108, 105, 109, 105, 116, 32, 102, 111, 114, 32, 116, 111, 32, 115, 101, 116, 116, 108, 101, 32, 109, 105, 110, 32, 109, 97, 120, 32] (([32] ++ Ye) ++ [32]) else some default) >>= fun x2 =>
      some (bif (bif (!(Ye == [])) then (!x1) else false) then x2 else false)
    else none
  else none
theorem O17 {Ye res} (hh : Hg Ye = some res) : T0 C 224 [.d (.str Ye)] [] (Ret [] (.d (.bool res))) := by
  unfold Hg at hh
  obtain ⟨x1, hx1, hh⟩ := bs' hh
  obtain ⟨c5, hh⟩ := A1g hh
  obtain ⟨c6, hh⟩ := A1g hh
  obtain ⟨x2, hx2, hh⟩ := bs' hh
  cases hh
  refine T0.intro hC Tryz.func224 rfl rfl rfl (t' rfl (sg' 14 rfl (G' 4 rfl (AG.c rfl rfl (fun hg => ⟨hg, trivial⟩) (fun hw => L14 (Jd hw hx1)) (a1' rfl (pa' rfl (G' 2 rfl (ag' rfl (fun hg => ⟨⟨hg, trivial⟩, (c5 hg)⟩) (ag' rfl (fun hg => ⟨⟨hg, trivial⟩, (c6 hg)⟩) (AG.c rfl rfl (fun hg => ⟨hg, trivial⟩) (fun hw => L14 (Jd hw hx2)) (pa' rfl (a0' rfl (an' ?_)))))))))))))
  exact n' (re' (rt' rfl rfl rfl))
def Zl (s : Str) : Option Bool :=
  (if (decide (((s).length : Int) ≤ 12)) = true then Yl s else some default) >>= fun x1 =>
  (if (bif (decide (((s).length : Int) ≤ 12)) then x1 else false) = true then Hg s else some default) >>= fun x2 =>
  some (bif (bif (decide (((s).length : Int) ≤ 12)) then x1 else false) then (!x2) else false)
theorem X1a {s res} (hh : Zl s = some res) : T0 C 210 [.d (.str s)] [] (Ret [] (.d (.bool res))) := by
  unfold Zl at hh
  obtain ⟨x1, hx1, hh⟩ := bs' hh
  obtain ⟨x2, hx2, hh⟩ := bs' hh
  cases hh
  exact T0.intro hC Tryz.func210 rfl rfl rfl (t' rfl (sg' 13 rfl (G' 5 rfl (AG.c rfl rfl (fun hg => ⟨hg, trivial⟩) (fun hw => W1a (Jd hw hx1)) (pa' rfl (G' 2 rfl (AG.c rfl rfl (fun hg => ⟨hg, trivial⟩) (fun hw => O17 (Jd hw hx2)) (a1' rfl (pa' rfl (a0' rfl (an' (n' (re' (rt' rfl rfl rfl))))))))))))))
def Mf (s : Str) : Option Bool :=
  Zl s >>= fun x1 =>
  some x1
theorem Hz {s res} (hh : Mf s = some res) : T0 C 179 [.d (.str s)] [] (Ret [] (.d (.bool res))) := by
  unfold Mf at hh
  obtain ⟨x1, hx1, hh⟩ := bs' hh
  cases hh
  exact T0.intro hC Tryz.func179 rfl rfl rfl (t' rfl (p' 1 rfl (c' (X1a hx1) rfl rfl (e' rfl (re' (rt' rfl rfl rfl))))))
def W4 (s : Str) (syntaxReport : B0) : Option B0 :=
  (if (!syntaxReport.badName) = true then Mf s else some default) >>= fun x1 =>
  some (B0.mk syntaxReport.nodes syntaxReport.depth syntaxReport.badForm (bif syntaxReport.badName then true else (!x1)) syntaxReport.badNumber)
theorem Qd {s syntaxReport res} (hh : W4 s syntaxReport = some res) : T0 C 152 [.ref 0 0, .d (.str s)] [.row (B0.cells syntaxReport) 135] (Ret [.row (B0.cells res) 135] (.tup [])) := by
  unfold W4 at hh
  obtain ⟨x1, hx1, hh⟩ := bs' hh
  cases hh
  exact T0.intro hC Tryz.func152 rfl rfl rfl (AEx.regionG 12 rfl (G' 7 rfl (AG.c rfl rfl (fun hg => ⟨hg, trivial⟩) (fun hw => Hz (Jd hw hx1)) (a1' rfl (po' rfl (G' 2 rfl (an' (L0.s hC rfl (n' (rn' rfl rfl rfl))))))))))
mutual
def R4 (t : A0) (depth : Int) (syntaxReport : B0) : Option B0 :=
  B8 depth (B0.mk (IntKind.i64.wrap (syntaxReport.nodes + 1)) syntaxReport.depth syntaxReport.badForm syntaxReport.badName syntaxReport.badNumber) >>= fun x1 =>
  U0 (bif (decide (t.Kind ≥ 0)) then (decide (t.Kind ≤ 4)) else false) x1 >>= fun x2 =>
  U0 (bif (t.Kind == 1) then true else (bif (t.Low == 0) then (t.High == 0) else false)) x2 >>= fun x3 =>
  U0 (bif (t.Kind == 2) then true else (t.Size == 0)) x3 >>= fun x4 =>
  U0 (bif (t.Kind == 4) then true else (t.Name == [])) x4 >>= fun x5 =>
  U0 (bif (t.Kind == 3) then true else (((t.Names).length : Int) == 0)) x5 >>= fun x6 =>
  if (t.Kind == 2) = true then
    U0 (((t.Of).length : Int) == 1) x6 >>= fun x7 =>
    H4 t.Size 1 32 >>= fun x8 =>
    Z1 x8 x7 >>= fun x9 =>
    H5 t depth x9
  else
    if (t.Kind == 3) = true then
      U0 (bif (decide (((t.Of).length : Int) ≥ 1)) then (((t.Of).length : Int) == ((t.Names).length : Int)) else false) x6 >>= fun x14 =>
      Z1 (decide (((t.Of).length : Int) ≤ 32)) x14 >>= fun x15 =>
      H5 t depth x15
    else
      U0 (((t.Of).length : Int) == 0) x6 >>= fun x16 =>
      H5 t depth x16
  partial_fixpoint
def H5 (t : A0) (depth : Int) (o0 : B0) : Option B0 :=
  if (t.Kind == 1) = true then
    H4 t.Low (-1048576) 1048576 >>= fun x10 =>
    (if x10 = true then H4 t.High t.Low 1048576 else some default) >>= fun x11 =>
    Z1 (bif x10 then x11 else false) o0 >>= fun x12 =>
    I5 t depth x12
  else
    I5 t depth o0
  partial_fixpoint
def I5 (t : A0) (depth : Int) (o01 : B0) : Option B0 :=
  if (t.Kind == 4) = true then
    W4 t.Name o01 >>= fun x13 =>
    M6 t depth x13
  else
    M6 t depth o01
  partial_fixpoint
def M6 (t : A0) (depth : Int) (o02 : B0) : Option B0 :=
  B4 t depth o02 0
  partial_fixpoint
def B4 (t : A0) (depth : Int) (o03 : B0) (v147 : Int) : Option B0 :=
  if (decide (v147 < ((t.Names).length : Int))) = true then
    idx t.Names v147 >>= fun x17 =>
    W4 x17 o03 >>= fun x18 =>
    B4 t depth x18 (IntKind.i64.wrap (v147 + 1))
  else
    O4 t depth o03 0
  partial_fixpoint
def O4 (t : A0) (depth : Int) (o04 : B0) (v158 : Int) : Option B0 :=
  if (decide (v158 < ((t.Of).length : Int))) = true then
    idx t.Of v158 >>= fun x19 =>
    R4 x19 (IntKind.i64.wrap (depth + 1)) o04 >>= fun x20 =>
    O4 t depth x20 (IntKind.i64.wrap (v158 + 1))
  else
    some o04
  partial_fixpoint
end
abbrev Zu (t : A0) (depth : Int) (syntaxReport : B0) (res : B0) : Prop := T0 C 175 [.ref 0 0, .agg (A0.cells t), .d (.int .i64 depth)] [.row (B0.cells syntaxReport) 135] (Ret [.row (B0.cells res) 135] (.tup []))
abbrev Sq (t : A0) (depth : Int) (o0 : B0) (res : B0) : Prop := JM C 168 1 Tryz.f175 [1, 1, 1, 1, 1, 1, 1, 1, 1, 1] [(0, .ref 0 0), (2, .d (.int .i64 depth)), (4, .ref 1 0), (6, .d (.bool (t.Kind == 1))), (9, .d (.bool (t.Kind == 4)))] [.row (B0.cells o0) 135, .row (A0.cells t) 40] (Ret [.row (B0.cells res) 135] (.tup []))
abbrev Tq (t : A0) (depth : Int) (o01 : B0) (res : B0) : Prop := JM C 168 1 Tryz.f175 [1, 1, 1, 1, 1, 1, 1, 1, 1, 1, 1] [(0, .ref 0 0), (2, .d (.int .i64 depth)), (4, .ref 1 0), (9, .d (.bool (t.Kind == 4)))] [.row (B0.cells o01) 135, .row (A0.cells t) 40] (Ret [.row (B0.cells res) 135] (.tup []))
abbrev Uq (t : A0) (depth : Int) (o02 : B0) (res : B0) : Prop := JM C 168 1 Tryz.f175 [1, 1, 1, 1, 1, 1, 1, 1, 1, 1, 1, 1] [(0, .ref 0 0), (2, .d (.int .i64 depth)), (4, .ref 1 0)] [.row (B0.cells o02) 135, .row (A0.cells t) 40] (Ret [.row (B0.cells res) 135] (.tup []))
abbrev Vq (t : A0) (depth : Int) (o03 : B0) (v147 : Int) (res : B0) : Prop := LM C 168 1 Tryz.f175 [1, 1, 1, 1, 1, 1, 1, 1, 1, 1, 1, 1, 0, 1, 4] [(0, .ref 0 0), (2, .d (.int .i64 depth)), (4, .ref 1 0), (145, .d (.sl (estr.rows t.Names))), (146, .d (.int .i64 ((t.Names).length : Int))), (147, .d (.int .i64 v147))] [.row (B0.cells o03) 135, .row (A0.cells t) 40] (Ret [.row (B0.cells res) 135] (.tup []))
abbrev Wq (t : A0) (depth : Int) (o04 : B0) (v158 : Int) (res : B0) : Prop := LM C 168 1 Tryz.f175 [1, 1, 1, 1, 1, 1, 1, 1, 1, 1, 1, 1, 1, 1, 4] [(0, .ref 0 0), (2, .d (.int .i64 depth)), (156, .d (.sl (A0.rows t.Of))), (157, .d (.int .i64 ((t.Of).length : Int))), (158, .d (.int .i64 v158))] [.row (B0.cells o04) 135] (Ret [.row (B0.cells res) 135] (.tup []))
theorem Oa : (∀ t depth syntaxReport res, R4 t depth syntaxReport = some res → Zu t depth syntaxReport res) ∧ (∀ t depth o0 res, H5 t depth o0 = some res → Sq t depth o0 res) ∧ (∀ t depth o01 res, I5 t depth o01 = some res → Tq t depth o01 res) ∧ (∀ t depth o02 res, M6 t depth o02 = some res → Uq t depth o02 res) ∧ (∀ t depth o03 v147 res, B4 t depth o03 v147 = some res → Vq t depth o03 v147 res) ∧ (∀ t depth o04 v158 res, O4 t depth o04 v158 = some res → Wq t depth o04 v158 res) := by
  refine R4.mutual_partial_correctness _ _ _ _ _ _ ?_ ?_ ?_ ?_ ?_ ?_
  · intro g1 ih1 t depth syntaxReport res hh
    obtain ⟨x1, hx1, hh⟩ := bs' hh
    obtain ⟨x2, hx2, hh⟩ := bs' hh
    obtain ⟨x3, hx3, hh⟩ := bs' hh
    obtain ⟨x4, hx4, hh⟩ := bs' hh
    obtain ⟨x5, hx5, hh⟩ := bs' hh
    obtain ⟨x6, hx6, hh⟩ := bs' hh
    refine T0.intro hC Tryz.func175 rfl rfl rfl (s' rfl rfl (L0.n hC rfl (n' (p' 7 rfl (L0.s hC rfl (n' (p' 2 rfl (g' [0] (Xl hx1) rfl rfl rfl rfl rfl rfl (n' (sg' 9 rfl (G' 6 rfl (a1' rfl (a1' rfl ?_)))))))))))))
    refine pa' rfl (an' (g' [0] (B1 hx2) rfl rfl rfl rfl rfl rfl (n' (S' (AEx.draw hC 16 rfl rfl rfl (E' rfl (n' (sg' 12 rfl (G' 4 rfl (a1' rfl (a1' rfl (a1' rfl (a0' rfl ?_)))))))))))))
    refine a1' rfl (a1' rfl (pA' rfl (po' rfl (an' (g' [0] (B1 hx3) rfl rfl rfl rfl rfl rfl (n' (sg' 7 rfl (G' 4 rfl (a1' rfl (a1' rfl (po' rfl (an' (g' [0] (B1 hx4) rfl rfl rfl rfl rfl rfl ?_)))))))))))))
    refine n' (sg' 7 rfl (G' 4 rfl (a1' rfl (a1' rfl (po' rfl (an' (g' [0] (B1 hx5) rfl rfl rfl rfl rfl rfl (n' (sg' 8 rfl (G' 4 rfl (a1' rfl (AG.qe hC rfl (fun hg => ⟨⟨hg, trivial⟩, trivial⟩) (estr.lenA _) (a1' rfl ?_)))))))))))))
    refine po' rfl (an' (g' [0] (B1 hx6) rfl rfl rfl rfl rfl rfl (n' (S' (bk' (t' rfl (ci' rfl hh (fun hh => ?_) (fun hh => ?_))))))))
    · obtain ⟨x7, hx7, hh⟩ := bs' hh
      obtain ⟨x8, hx8, hh⟩ := bs' hh
      obtain ⟨x9, hx9, hh⟩ := bs' hh
      exact p' 3 rfl (qe' rfl trivial (A0.lenA _) (q' rfl (g' [0] (B1 hx7) rfl rfl rfl rfl rfl rfl (n' (P' 3 rfl (c' (A6 hx8) rfl rfl (g' [0] (D4 hx9) rfl rfl rfl rfl rfl rfl (n' (ew' (ih1 _ _ _ _ hh) rfl rfl rfl)))))))))
    refine t' rfl (ci' rfl hh (fun hh => ?_) (fun hh => ?_))
    · obtain ⟨x14, hx14, hh⟩ := bs' hh
      obtain ⟨x15, hx15, hh⟩ := bs' hh
      refine sg' 14 rfl (G' 3 rfl (AG.qe hC rfl (fun hg => ⟨trivial, trivial⟩) (A0.lenA _) (G' 3 rfl (a1' rfl (AG.qe hC rfl (fun hg => ⟨⟨hg, trivial⟩, trivial⟩) (A0.lenA _) (a0' rfl (a1' rfl (AG.qe hC rfl (fun hg => ⟨⟨hg, trivial⟩, trivial⟩) (estr.lenA _) (a2' rfl (pa' rfl (an' (g' [0] (B1 hx14) rfl rfl rfl rfl rfl rfl (n' ?_)))))))))))))
      exact P' 3 rfl (qe' rfl trivial (A0.lenA _) (q' rfl (g' [0] (D4 hx15) rfl rfl rfl rfl rfl rfl (n' (ew' (ih1 _ _ _ _ hh) rfl rfl rfl)))))
    obtain ⟨x16, hx16, hh⟩ := bs' hh
    exact P' 3 rfl (qe' rfl trivial (A0.lenA _) (q' rfl (g' [0] (B1 hx16) rfl rfl rfl rfl rfl rfl (n' (ew' (ih1 _ _ _ _ hh) rfl rfl rfl)))))
  · intro g2 ih2 t depth o0 res hh
    refine S' (t' rfl (ci' rfl hh (fun hh => ?_) (fun hh => ?_)))
    · obtain ⟨x10, hx10, hh⟩ := bs' hh
      obtain ⟨x11, hx11, hh⟩ := bs' hh
      obtain ⟨x12, hx12, hh⟩ := bs' hh
      exact AEx.regionG 11 rfl (G' 3 rfl (AG.c rfl rfl (fun _ => trivial) (fun _ => A6 hx10) (G' 2 rfl (a1' rfl (a0' rfl (a1' rfl (AG.c rfl rfl (fun hg => ⟨hg, hg, trivial⟩) (fun hw => A6 (Jd hw hx11)) (pa' rfl (an' (g' [0] (D4 hx12) rfl rfl rfl rfl rfl rfl (n' (ew' (ih2 _ _ _ _ hh) rfl rfl rfl))))))))))))
    exact sk' (ew' (ih2 _ _ _ _ hh) rfl rfl rfl)
  · intro g3 ih3 t depth o01 res hh
    refine S' (t' rfl (ci' rfl hh (fun hh => ?_) (fun hh => ?_)))
    · obtain ⟨x13, hx13, hh⟩ := bs' hh
      exact P' 3 rfl (g' [0] (Qd hx13) rfl rfl rfl rfl rfl rfl (n' (ew' (ih3 _ _ _ _ hh) rfl rfl rfl)))
    exact sk' (ew' (ih3 _ _ _ _ hh) rfl rfl rfl)
  · intro g4 ih4 t depth o02 res hh
    exact S' (p' 2 rfl (qe' rfl trivial (estr.lenA _) (e' rfl (bk' (fw' (ih4 _ _ _ _ _ hh) rfl rfl rfl)))))
  · intro g4 g5 ih4 ih5 t depth o03 v147 res hh
    refine D2.unroll (t' rfl (S' (ci' rfl hh (fun hh => ?_) (fun hh => ?_))))
    · obtain ⟨x17, hx17, hh⟩ := bs' hh
      obtain ⟨x18, hx18, hh⟩ := bs' hh
      exact sk' (S' (bk' (s' rfl rfl (i' rfl (C1 hx17) (estr.idx hx17) rfl (e' rfl (P' 2 rfl (g' [0] (Qd hx18) rfl rfl rfl rfl rfl rfl (n' (T' rfl (lw' (ih4 _ _ _ _ _ hh) rfl rfl rfl))))))))))
    exact ex' (p' 2 rfl (qe' rfl trivial (A0.lenA _) (e' rfl (bk' (fw' (ih5 _ _ _ _ _ hh) rfl rfl rfl)))))
  · intro g0 g5 ih0 ih5 t depth o04 v158 res hh
    refine D2.unroll (t' rfl (S' (ci' rfl hh (fun hh => ?_) (fun hh => ?_))))
    · obtain ⟨x19, hx19, hh⟩ := bs' hh
      obtain ⟨x20, hx20, hh⟩ := bs' hh
      exact sk' (S' (bk' (s' rfl rfl (i' rfl (C1 hx19) (A0.idx hx19) rfl (q' rfl (L0.nf hC rfl (L0.s hC rfl (n' (P' 4 rfl (g' [0] (ih0 _ _ _ _ hx20) rfl rfl rfl rfl rfl rfl (n' (T' rfl (lw' (ih5 _ _ _ _ _ hh) rfl rfl rfl)))))))))))))
    cases hh
    exact ex' (rn' rfl rfl rfl)
theorem Dt {t depth syntaxReport res} (hh : R4 t depth syntaxReport = some res) : Zu t depth syntaxReport res := (Oa).1 _ _ _ _ hh
theorem I1i {t depth o0 res} (hh : H5 t depth o0 = some res) : Sq t depth o0 res := (Oa).2.1 _ _ _ _ hh
theorem J1i {t depth o01 res} (hh : I5 t depth o01 = some res) : Tq t depth o01 res := (Oa).2.2.1 _ _ _ _ hh
theorem K1i {t depth o02 res} (hh : M6 t depth o02 = some res) : Uq t depth o02 res := (Oa).2.2.2.1 _ _ _ _ hh
theorem L1i {t depth o03 v147 res} (hh : B4 t depth o03 v147 = some res) : Vq t depth o03 v147 res := (Oa).2.2.2.2.1 _ _ _ _ _ hh
theorem M1i {t depth o04 v158 res} (hh : O4 t depth o04 v158 = some res) : Wq t depth o04 v158 res := (Oa).2.2.2.2.2 _ _ _ _ _ hh
mutual
def B6 (a : C0) (b : C0) : Option Bool :=
  (if (bif (bif (a.Op == b.Op) then (a.NV == b.NV) else false) then (a.Name == b.Name) else false) = true then K1 a.Kids b.Kids else some default) >>= fun x1 =>
  some (bif (bif (bif (a.Op == b.Op) then (a.NV == b.NV) else false) then (a.Name == b.Name) else false) then x1 else false)
  partial_fixpoint
def K1 (s1 : List C0) (s2 : List C0) : Option Bool :=
  if (((s1).length : Int) != ((s2).length : Int)) = true then
    some false
  else
    Z0 s1 s2 0
  partial_fixpoint
def Z0 (s1 : List C0) (s2 : List C0) (v17 : Int) : Option Bool :=
  if (decide (v17 < ((s1).length : Int))) = true then
    idx s1 v17 >>= fun x1 =>
    idx s2 v17 >>= fun x2 =>
    B6 x1 x2 >>= fun x3 =>
    if (!x3) = true then
      some false
    else
      Z0 s1 s2 (IntKind.i64.wrap (v17 + 1))
  else
    some true
  partial_fixpoint
end
abbrev Vw (a : C0) (b : C0) (res : Bool) : Prop := T0 C 209 [.agg (C0.cells a), .agg (C0.cells b)] [] (Ret [] (.d (.bool res)))
abbrev K9 (s1 : List C0) (s2 : List C0) (res : Bool) : Prop := T0 C 222 [.d (.sl (C0.rows s1)), .d (.sl (C0.rows s2)), .clo 209 []] [] (Ret [] (.d (.bool res)))
abbrev Q8 (s1 : List C0) (s2 : List C0) (v17 : Int) (res : Bool) : Prop := LM C 32 0 Tryz.f222 [1, 1, 0, 1, 4] [(1, .d (.sl (C0.rows s2))), (2, .clo 209 []), (15, .d (.sl (C0.rows s1))), (16, .d (.int .i64 ((s1).length : Int))), (17, .d (.int .i64 v17))] [] (Ret [] (.d (.bool res)))
theorem Bn : (∀ a b res, B6 a b = some res → Vw a b res) ∧ (∀ s1 s2 res, K1 s1 s2 = some res → K9 s1 s2 res) ∧ (∀ s1 s2 v17 res, Z0 s1 s2 v17 = some res → Q8 s1 s2 v17 res) := by
  refine B6.mutual_partial_correctness _ _ _ ?_ ?_ ?_
  · intro g1 ih1 a b res hh
    obtain ⟨x1, hx1, hh⟩ := bs' hh
    cases hh
    refine T0.intro hC Tryz.func209 rfl rfl rfl (s' rfl rfl (L0.n hC rfl (L0.n hC rfl (e' rfl (sg' 27 rfl (G' 7 rfl (a1' rfl (a0' rfl (a1' rfl (a2' rfl (pa' rfl (G' 2 rfl (a1' rfl ?_)))))))))))))
    exact a0' rfl (a1' rfl (a2' rfl (pa' rfl (G' 2 rfl (a1' rfl (a0' rfl (a1' rfl (AG.c rfl rfl (fun hg => ⟨hg, hg, trivial⟩) (fun hw => ih1 _ _ _ (Jd hw hx1)) (pa' rfl (a0' rfl (an' (n' (re' (rt' rfl rfl rfl))))))))))))))
  · intro g2 ih2 s1 s2 res hh
    refine T0.intro hC Tryz.func222 rfl rfl rfl (t' rfl (S' (p' 1 rfl (qe' rfl trivial (C0.lenA _) (q' rfl (qe' rfl trivial (C0.lenA _) (e' rfl (ci' rfl hh (fun hh => ?_) (fun hh => ?_)))))))))
    · cases hh
      exact t' rfl (re' (rt' rfl rfl rfl))
    exact sk' (S' (p' 1 rfl (qe' rfl trivial (C0.lenA _) (e' rfl (bk' (fw' (ih2 _ _ _ _ hh) rfl rfl rfl))))))
  · intro g0 g2 ih0 ih2 s1 s2 v17 res hh
    refine D2.unroll (t' rfl (S' (ci' rfl hh (fun hh => ?_) (fun hh => ?_))))
    · obtain ⟨x1, hx1, hh⟩ := bs' hh
      obtain ⟨x2, hx2, hh⟩ := bs' hh
      obtain ⟨x3, hx3, hh⟩ := bs' hh
      refine sk' (S' (bk' (p' 1 rfl (i' rfl (C1 hx1) (C0.idx hx1) rfl (q' rfl (L0.nf hC rfl (q' rfl (L0.s hC rfl (n' (p' 2 rfl (i' rfl (C1 hx2) (C0.idx hx2) rfl (q' rfl (L0.nf hC rfl ?_)))))))))))))
      refine L0.s hC rfl (n' (p' 3 rfl (c' (ih0 _ _ _ hx3) rfl rfl (e' rfl (ci' rfl hh (fun hh => ?_) (fun hh => ?_))))))
      · cases hh
        exact t' rfl (re' (rt' rfl rfl rfl))
      exact sk' (T' rfl (lw' (ih2 _ _ _ _ hh) rfl rfl rfl))
    cases hh
    exact ex' (t' rfl (re' (rt' rfl rfl rfl)))
theorem V14 {a b res} (hh : B6 a b = some res) : Vw a b res := (Bn).1 _ _ _ hh
theorem Kw {s1 s2 res} (hh : K1 s1 s2 = some res) : K9 s1 s2 res := (Bn).2.1 _ _ _ hh
theorem Ku {s1 s2 v17 res} (hh : Z0 s1 s2 v17 = some res) : Q8 s1 s2 v17 res := (Bn).2.2 _ _ _ _ hh
def Jc (op : Int) (v9 : Bool) : Option Int :=
  if v9 = true then
    some 1
  else
    if (op == 5) = true then
      some 2
    else
      if (op == 23) = true then
        some 3
      else
        if (bif (decide (op ≥ 8)) then (decide (op ≤ 22)) else false) = true then
          some 2
        else
          some (-1)
theorem Wo {op v9 res} (hh : Jc op v9 = some res) : JM C 23 0 Tryz.f150 [1, 0, 1, 4, 1, 3, 1] [(0, .d (.int .i64 op)), (3, .d (.int .i64 op)), (9, .d (.bool v9))] [] (Ret [] (.d (.int .i64 res))) := by
  unfold Jc at hh
  refine ci' rfl hh (fun hh => ?_) (fun hh => ?_)
  · cases hh
    exact t' rfl (re' (rt' rfl rfl rfl))
  refine t' rfl (ci' rfl hh (fun hh => ?_) (fun hh => ?_))
  · cases hh
    exact t' rfl (re' (rt' rfl rfl rfl))
  refine t' rfl (ci' rfl hh (fun hh => ?_) (fun hh => ?_))
  · cases hh
    exact t' rfl (re' (rt' rfl rfl rfl))
  refine sk' (S' (sg' 6 rfl (G' 4 rfl (a1' rfl (pa' rfl (an' (n' (ci' rfl hh (fun hh => ?_) (fun hh => ?_)))))))))
  · cases hh
    exact t' rfl (re' (rt' rfl rfl rfl))
  cases hh
  exact sk' (t' rfl (re' (rt' rfl rfl rfl)))
def Ma (op : Int) (v4 : Bool) : Option Int :=
  if v4 = true then
    some 0
  else
    if (op == 4) = true then
      Jc op (op == 4)
    else
      if (op == 6) = true then
        Jc op (op == 6)
      else
        Jc op (op == 7)
theorem Rk {op v4 res} (hh : Ma op v4 = some res) : JM C 23 0 Tryz.f150 [1, 0, 1, 4, 1] [(0, .d (.int .i64 op)), (3, .d (.int .i64 op)), (4, .d (.bool v4))] [] (Ret [] (.d (.int .i64 res))) := by
  unfold Ma at hh
  refine ci' rfl hh (fun hh => ?_) (fun hh => ?_)
  · cases hh
    exact t' rfl (re' (rt' rfl rfl rfl))
  refine S' (t' rfl (ci' rfl hh (fun hh => ?_) (fun hh => ?_)))
  · exact sk' (ew' (Wo hh) rfl rfl rfl)
  refine t' rfl (ci' rfl hh (fun hh => ?_) (fun hh => ?_))
  · exact sk' (ew' (Wo hh) rfl rfl rfl)
  exact T' rfl (ew' (Wo hh) rfl rfl rfl)
def Yi (op : Int) : Option Int :=
  if (op == 0) = true then
    Ma op (op == 0)
  else
    if (op == 1) = true then
      Ma op (op == 1)
    else
      if (op == 2) = true then
        Ma op (op == 2)
      else
        Ma op (op == 3)
theorem Y1a {op res} (hh : Yi op = some res) : T0 C 150 [.d (.int .i64 op)] [] (Ret [] (.d (.int .i64 res))) := by
  unfold Yi at hh
  refine T0.intro hC Tryz.func150 rfl rfl rfl (t' rfl (S' (t' rfl (bk' (S' (t' rfl (ci' rfl hh (fun hh => ?_) (fun hh => ?_))))))))
  · exact sk' (ew' (Rk hh) rfl rfl rfl)
  refine t' rfl (ci' rfl hh (fun hh => ?_) (fun hh => ?_))
  · exact sk' (ew' (Rk hh) rfl rfl rfl)
  refine t' rfl (ci' rfl hh (fun hh => ?_) (fun hh => ?_))
  · exact sk' (ew' (Rk hh) rfl rfl rfl)
  exact T' rfl (ew' (Rk hh) rfl rfl rfl)
def Na (o0 : C0) : Option Bool :=
  if (bif (o0.Op == 4) then true else (o0.Op == 5)) = true then
    if (((o0.Kids).length : Int) == 0) = true then
      some false
    else
      idx o0.Kids 0 >>= fun x1 =>
      Na x1
  else
    some (o0.Op == 3)
  partial_fixpoint
abbrev Zx (o0 : C0) (res : Bool) : Prop := LM C 22 0 Tryz.f151 [1, 0, 4] [(1, .ref 0 0)] [.row (C0.cells o0) 34] (Ret [] (.d (.bool res)))
theorem W14 : (∀ o0 res, Na o0 = some res → Zx o0 res) := by
  refine Na.partial_correctness _ ?_
  · intro g0 ih0 o0 res hh
    refine D2.unroll (S' (sg' 8 rfl (G' 5 rfl (a1' rfl (a1' rfl (po' rfl (an' (n' (ci' rfl hh (fun hh => ?_) (fun hh => ?_))))))))))
    · refine sk' (bk' (S' (p' 2 rfl (qe' rfl trivial (C0.lenA _) (e' rfl (ci' rfl hh (fun hh => ?_) (fun hh => ?_)))))))
      · cases hh
        exact t' rfl (re' (rt' rfl rfl rfl))
      obtain ⟨x1, hx1, hh⟩ := bs' hh
      exact sk' (P' 2 rfl (i' rfl (C1 hx1) (C0.idx hx1) rfl (q' rfl (L0.s hC rfl (n' (lw' (ih0 _ _ hh) rfl rfl rfl))))))
    cases hh
    exact ex' (t' rfl (re' (rt' rfl rfl rfl)))
theorem E16 {o0 res} (hh : Na o0 = some res) : Zx o0 res := (W14) _ _ hh
def Vg (e : C0) : Option Bool :=
  Na e
theorem Q10 {e res} (hh : Vg e = some res) : T0 C 151 [.agg (C0.cells e)] [] (Ret [] (.d (.bool res))) := by
  unfold Vg at hh
  exact T0.intro hC Tryz.func151 rfl rfl rfl (s' rfl rfl (L0.n hC rfl (e' rfl (S' (bk' (fw' (E16 hh) rfl rfl rfl))))))
mutual
def D3 (e : C0) (depth : Int) (syntaxReport : B0) : Option B0 :=
  B8 depth (B0.mk (IntKind.i64.wrap (syntaxReport.nodes + 1)) syntaxReport.depth syntaxReport.badForm syntaxReport.badName syntaxReport.badNumber) >>= fun x1 =>
  Yi e.Op >>= fun x2 =>
  U0 (x2 == ((e.Kids).length : Int)) x1 >>= fun x3 =>
  U0 (bif (e.NV == 0) then true else (e.Op == 0)) x3 >>= fun x4 =>
  U0 (bif (e.Name == []) then true else (bif (e.Op == 3) then true else (e.Op == 4))) x4 >>= fun x5 =>
  if (bif (e.Op == 4) then true else (e.Op == 5)) = true then
    Vg e >>= fun x6 =>
    U0 x6 x5 >>= fun x7 =>
    U5 e depth x7
  else
    U5 e depth x5
  partial_fixpoint
def U5 (e : C0) (depth : Int) (o0 : B0) : Option B0 :=
  if (bif (e.Op == 3) then true else (e.Op == 4)) = true then
    W4 e.Name o0 >>= fun x8 =>
    K7 e depth x8
  else
    K7 e depth o0
  partial_fixpoint
def K7 (e : C0) (depth : Int) (o01 : B0) : Option B0 :=
  if (e.Op == 0) = true then
    H4 e.NV 0 1048576 >>= fun x9 =>
    Z1 x9 o01 >>= fun x10 =>
    L7 e depth x10
  else
    L7 e depth o01
  partial_fixpoint
def L7 (e : C0) (depth : Int) (o02 : B0) : Option B0 :=
  P3 e depth o02 0
  partial_fixpoint
def P3 (e : C0) (depth : Int) (o03 : B0) (v82 : Int) : Option B0 :=
  if (decide (v82 < ((e.Kids).length : Int))) = true then
    idx e.Kids v82 >>= fun x11 =>
    D3 x11 (IntKind.i64.wrap (depth + 1)) o03 >>= fun x12 =>
    P3 e depth x12 (IntKind.i64.wrap (v82 + 1))
  else
    some o03
  partial_fixpoint
end
abbrev Et (e : C0) (depth : Int) (syntaxReport : B0) (res : B0) : Prop := T0 C 84 [.ref 0 0, .agg (C0.cells e), .d (.int .i64 depth)] [.row (B0.cells syntaxReport) 135] (Ret [.row (B0.cells res) 135] (.tup []))
abbrev Eq (e : C0) (depth : Int) (o0 : B0) (res : B0) : Prop := JM C 92 1 Tryz.f84 [1, 1, 1, 1, 1, 1, 1, 1] [(0, .ref 0 0), (2, .d (.int .i64 depth)), (4, .ref 1 0), (6, .d (.bool (bif (e.Op == 3) then true else (e.Op == 4))))] [.row (B0.cells o0) 135, .row (C0.cells e) 34] (Ret [.row (B0.cells res) 135] (.tup []))
abbrev Fq (e : C0) (depth : Int) (o01 : B0) (res : B0) : Prop := JM C 92 1 Tryz.f84 [1, 1, 1, 1, 1, 1, 1, 1, 1] [(0, .ref 0 0), (2, .d (.int .i64 depth)), (4, .ref 1 0)] [.row (B0.cells o01) 135, .row (C0.cells e) 34] (Ret [.row (B0.cells res) 135] (.tup []))
abbrev Gq (e : C0) (depth : Int) (o02 : B0) (res : B0) : Prop := JM C 92 1 Tryz.f84 [1, 1, 1, 1, 1, 1, 1, 1, 1, 1] [(0, .ref 0 0), (2, .d (.int .i64 depth)), (4, .ref 1 0)] [.row (B0.cells o02) 135, .row (C0.cells e) 34] (Ret [.row (B0.cells res) 135] (.tup []))
abbrev Hq (e : C0) (depth : Int) (o03 : B0) (v82 : Int) (res : B0) : Prop := LM C 92 1 Tryz.f84 [1, 1, 1, 1, 1, 1, 1, 1, 1, 1, 1, 4] [(0, .ref 0 0), (2, .d (.int .i64 depth)), (80, .d (.sl (C0.rows e.Kids))), (81, .d (.int .i64 ((e.Kids).length : Int))), (82, .d (.int .i64 v82))] [.row (B0.cells o03) 135] (Ret [.row (B0.cells res) 135] (.tup []))
theorem Wc : (∀ e depth syntaxReport res, D3 e depth syntaxReport = some res → Et e depth syntaxReport res) ∧ (∀ e depth o0 res, U5 e depth o0 = some res → Eq e depth o0 res) ∧ (∀ e depth o01 res, K7 e depth o01 = some res → Fq e depth o01 res) ∧ (∀ e depth o02 res, L7 e depth o02 = some res → Gq e depth o02 res) ∧ (∀ e depth o03 v82 res, P3 e depth o03 v82 = some res → Hq e depth o03 v82 res) := by
  refine D3.mutual_partial_correctness _ _ _ _ _ ?_ ?_ ?_ ?_ ?_
  · intro g1 ih1 e depth syntaxReport res hh
    obtain ⟨x1, hx1, hh⟩ := bs' hh
    obtain ⟨x2, hx2, hh⟩ := bs' hh
    obtain ⟨x3, hx3, hh⟩ := bs' hh
    obtain ⟨x4, hx4, hh⟩ := bs' hh
    obtain ⟨x5, hx5, hh⟩ := bs' hh
    refine T0.intro hC Tryz.func84 rfl rfl rfl (s' rfl rfl (L0.n hC rfl (n' (p' 7 rfl (L0.s hC rfl (n' (p' 2 rfl (g' [0] (Xl hx1) rfl rfl rfl rfl rfl rfl (n' (S' (AEx.draw hC 8 rfl rfl rfl (O' 3 rfl (Qc' (Y1a hx2) rfl rfl ?_)))))))))))))
    refine O' 2 rfl (AQ.qe hC rfl trivial (C0.lenA _) (E' rfl (g' [0] (B1 hx3) rfl rfl rfl rfl rfl rfl (n' (sg' 9 rfl (G' 6 rfl (a1' rfl (a1' rfl (po' rfl (an' (g' [0] (B1 hx4) rfl rfl rfl rfl rfl rfl (n' (sg' 9 rfl ?_)))))))))))))
    refine G' 5 rfl (a1' rfl (a1' rfl (po' rfl (a0' rfl (an' (n' (sg' 7 rfl (G' 6 rfl (po' rfl (an' (g' [0] (B1 hx5) rfl rfl rfl rfl rfl rfl (n' (S' ?_)))))))))))))
    refine sg' 8 rfl (G' 5 rfl (a1' rfl (a1' rfl (po' rfl (an' (n' (ci' rfl hh (fun hh => ?_) (fun hh => ?_))))))))
    · obtain ⟨x6, hx6, hh⟩ := bs' hh
      obtain ⟨x7, hx7, hh⟩ := bs' hh
      exact P' 2 rfl (c' (Q10 hx6) rfl rfl (g' [0] (B1 hx7) rfl rfl rfl rfl rfl rfl (n' (ew' (ih1 _ _ _ _ hh) rfl rfl rfl))))
    exact sk' (ew' (ih1 _ _ _ _ hh) rfl rfl rfl)
  · intro g2 ih2 e depth o0 res hh
    refine S' (t' rfl (ci' rfl hh (fun hh => ?_) (fun hh => ?_)))
    · obtain ⟨x8, hx8, hh⟩ := bs' hh
      exact P' 3 rfl (g' [0] (Qd hx8) rfl rfl rfl rfl rfl rfl (n' (ew' (ih2 _ _ _ _ hh) rfl rfl rfl)))
    exact sk' (ew' (ih2 _ _ _ _ hh) rfl rfl rfl)
  · intro g3 ih3 e depth o01 res hh
    refine S' (t' rfl (ci' rfl hh (fun hh => ?_) (fun hh => ?_)))
    · obtain ⟨x9, hx9, hh⟩ := bs' hh
      obtain ⟨x10, hx10, hh⟩ := bs' hh
      exact P' 3 rfl (c' (A6 hx9) rfl rfl (g' [0] (D4 hx10) rfl rfl rfl rfl rfl rfl (n' (ew' (ih3 _ _ _ _ hh) rfl rfl rfl))))
    exact sk' (ew' (ih3 _ _ _ _ hh) rfl rfl rfl)
  · intro g4 ih4 e depth o02 res hh
    exact p' 2 rfl (qe' rfl trivial (C0.lenA _) (e' rfl (bk' (fw' (ih4 _ _ _ _ _ hh) rfl rfl rfl))))
  · intro g0 g4 ih0 ih4 e depth o03 v82 res hh
    refine D2.unroll (t' rfl (S' (ci' rfl hh (fun hh => ?_) (fun hh => ?_))))
    · obtain ⟨x11, hx11, hh⟩ := bs' hh
      obtain ⟨x12, hx12, hh⟩ := bs' hh
      exact sk' (S' (bk' (s' rfl rfl (i' rfl (C1 hx11) (C0.idx hx11) rfl (q' rfl (L0.nf hC rfl (L0.s hC rfl (n' (P' 4 rfl (g' [0] (ih0 _ _ _ _ hx12) rfl rfl rfl rfl rfl rfl (n' (T' rfl (lw' (ih4 _ _ _ _ _ hh) rfl rfl rfl)))))))))))))
    cases hh
    exact ex' (rn' rfl rfl rfl)
theorem Bm {e depth syntaxReport res} (hh : D3 e depth syntaxReport = some res) : Et e depth syntaxReport res := (Wc).1 _ _ _ _ hh
theorem Q1g {e depth o0 res} (hh : U5 e depth o0 = some res) : Eq e depth o0 res := (Wc).2.1 _ _ _ _ hh
theorem R1g {e depth o01 res} (hh : K7 e depth o01 = some res) : Fq e depth o01 res := (Wc).2.2.1 _ _ _ _ hh
theorem S1g {e depth o02 res} (hh : L7 e depth o02 = some res) : Gq e depth o02 res := (Wc).2.2.2.1 _ _ _ _ hh
theorem T1g {e depth o03 v82 res} (hh : P3 e depth o03 v82 = some res) : Hq e depth o03 v82 res := (Wc).2.2.2.2 _ _ _ _ _ hh
def Y3 (e : C0) (used : Bool) (syntaxReport : B0) : Option B0 :=
  (if (!used) = true then B6 e (C0.mk 0 0 [] []) else some default) >>= fun x1 =>
  if (bif (!used) then x1 else false) = true then
    some syntaxReport
  else
    U0 used syntaxReport >>= fun x2 =>
    D3 e 1 x2 >>= fun x3 =>
    some x3
theorem Ci {e used syntaxReport res} (hh : Y3 e used syntaxReport = some res) : T0 C 176 [.ref 0 0, .agg (C0.cells e), .d (.bool used)] [.row (B0.cells syntaxReport) 135] (Ret [.row (B0.cells res) 135] (.tup [])) := by
  unfold Y3 at hh
  obtain ⟨x1, hx1, hh⟩ := bs' hh
  refine T0.intro hC Tryz.func176 rfl rfl rfl (s' rfl rfl (L0.n hC rfl (n' (S' (sg' 7 rfl (G' 5 rfl (AG.c rfl rfl (fun hg => ⟨hg, hg, trivial⟩) (fun hw => V14 (Jd hw hx1)) (pa' rfl (an' (n' (ci' rfl hh (fun hh => ?_) (fun hh => ?_))))))))))))
  · cases hh
    exact re' (rt' rfl rfl rfl)
  obtain ⟨x2, hx2, hh⟩ := bs' hh
  obtain ⟨x3, hx3, hh⟩ := bs' hh
  cases hh
  exact sk' (p' 2 rfl (g' [0] (B1 hx2) rfl rfl rfl rfl rfl rfl (n' (P' 2 rfl (g' [0] (Bm hx3) rfl rfl rfl rfl rfl rfl (n' (rn' rfl rfl rfl)))))))
def Kd (v : Int) : Option (S0 × Bool) :=
  if (v == 0) = true then
    some ((S0.mk true true false false false false false false false), true)
  else
    if (v == 1) = true then
      some ((S0.mk true false true true false false false false false), true)
    else
      if (v == 2) = true then
        some ((S0.mk true false true false false false false false false), true)
      else
        if (v == 3) = true then
          some ((S0.mk false true false false false false false false false), true)
        else
          if (v == 4) = true then
            some ((S0.mk false false false false true false false false false), true)
          else
            if (v == 5) = true then
              some ((S0.mk false true false false false false false true true), true)
            else
              if (v == 6) = true then
                some ((S0.mk false true false false true false false true false), true)
              else
                if (v == 7) = true then
                  some ((S0.mk false false true false false true false true false), true)
                else
                  if (v == 8) = true then
                    some ((S0.mk false false false false false false true false false), true)
                  else
                    some ((S0.mk false false false false false false false false false), false)
theorem X14 {v res} (hh : Kd v = some res) : T0 C 177 [.d (.int .i64 v)] [] (Ret [] (.tup [.agg (S0.cells res.1), .d (.bool res.2)])) := by
  unfold Kd at hh
  refine T0.intro hC Tryz.func177 rfl rfl rfl (s' rfl rfl (L0.n hC rfl (e' rfl (S' (t' rfl (bk' (t' rfl (ci' rfl hh (fun hh => ?_) (fun hh => ?_)))))))))
  · cases hh
    exact p' 1 rfl (L0.s hC rfl (e' rfl (re' (rt' rfl rfl rfl))))
  refine t' rfl (ci' rfl hh (fun hh => ?_) (fun hh => ?_))
  · cases hh
    exact p' 1 rfl (L0.s hC rfl (e' rfl (re' (rt' rfl rfl rfl))))
  refine t' rfl (ci' rfl hh (fun hh => ?_) (fun hh => ?_))
  · cases hh
    exact p' 1 rfl (L0.s hC rfl (e' rfl (re' (rt' rfl rfl rfl))))
  refine t' rfl (ci' rfl hh (fun hh => ?_) (fun hh => ?_))
  · cases hh
    exact p' 1 rfl (L0.s hC rfl (e' rfl (re' (rt' rfl rfl rfl))))
  refine t' rfl (ci' rfl hh (fun hh => ?_) (fun hh => ?_))
  · cases hh
    exact p' 1 rfl (L0.s hC rfl (e' rfl (re' (rt' rfl rfl rfl))))
  refine t' rfl (ci' rfl hh (fun hh => ?_) (fun hh => ?_))
  · cases hh
    exact p' 1 rfl (L0.s hC rfl (e' rfl (re' (rt' rfl rfl rfl))))
  refine t' rfl (ci' rfl hh (fun hh => ?_) (fun hh => ?_))
  · cases hh
    exact p' 1 rfl (L0.s hC rfl (e' rfl (re' (rt' rfl rfl rfl))))
  refine t' rfl (ci' rfl hh (fun hh => ?_) (fun hh => ?_))
  · cases hh
    exact p' 1 rfl (L0.s hC rfl (e' rfl (re' (rt' rfl rfl rfl))))
  refine t' rfl (ci' rfl hh (fun hh => ?_) (fun hh => ?_))
  · cases hh
    exact p' 1 rfl (L0.s hC rfl (e' rfl (re' (rt' rfl rfl rfl))))
  cases hh
  exact sk' (p' 1 rfl (L0.s hC rfl (e' rfl (re' (rt' rfl rfl rfl)))))
def E3 (s : F0) (o0 : B0) (last : Int) (v58 : Int) : Option B0 :=
  if (decide (v58 < ((s.Numbers).length : Int))) = true then
    idx s.Numbers v58 >>= fun x10 =>
    H4 x10 0 1048576 >>= fun x11 =>
    Z1 (bif x11 then (decide (x10 > last)) else false) o0 >>= fun x12 =>
    E3 s x12 x10 (IntKind.i64.wrap (v58 + 1))
  else
    some o0
  partial_fixpoint
abbrev Jn (s : F0) (o0 : B0) (last : Int) (v58 : Int) (res : B0) : Prop := LM C 73 1 Tryz.f178 [1, 1, 4, 1, 3, 1, 3, 1, 3, 1, 2, 1, 1, 1, 4] [(0, .ref 0 0), (5, .d (.int .i64 last)), (56, .d (.sl (ei64.rows s.Numbers))), (57, .d (.int .i64 ((s.Numbers).length : Int))), (58, .d (.int .i64 v58))] [.row (B0.cells o0) 135] (Ret [.row (B0.cells res) 135] (.tup []))
theorem Pv (s : F0) : (∀ o0 last v58 res, E3 s o0 last v58 = some res → Jn s o0 last v58 res) := by
  refine E3.partial_correctness s _ ?_
  · intro g0 ih0 o0 last v58 res hh
    refine D2.unroll (t' rfl (S' (ci' rfl hh (fun hh => ?_) (fun hh => ?_))))
    · obtain ⟨x10, hx10, hh⟩ := bs' hh
      obtain ⟨x11, hx11, hh⟩ := bs' hh
      obtain ⟨x12, hx12, hh⟩ := bs' hh
      refine sk' (S' (bk' (s' rfl rfl (i' rfl (C1 hx10) (ei64.idx hx10) rfl (e' rfl (sg' 8 rfl (G' 2 rfl (AG.c rfl rfl (fun _ => trivial) (fun _ => A6 hx11) (G' 3 rfl (a2' rfl (pa' rfl (an' (g' [0] (D4 hx12) rfl rfl rfl rfl rfl rfl ?_)))))))))))))
      exact n' (T' rfl (T' rfl (lw' (ih0 _ _ _ _ hh) rfl rfl rfl)))
    cases hh
    exact ex' (rn' rfl rfl rfl)
theorem Ww {s o0 last v58 res} (hh : E3 s o0 last v58 = some res) : Jn s o0 last v58 res := (Pv s) _ _ _ _ hh
def M7 (s : F0) (syntaxReport : B0) : Option B0 :=
  if (s.Verb == 4) = true then
    H4 s.NV 0 1048576 >>= fun x1 =>
    Z1 x1 syntaxReport >>= fun x2 =>
    some x2
  else
    if (s.Verb == 6) = true then
      H4 s.NV 0 4096 >>= fun x3 =>
      Z1 x3 syntaxReport >>= fun x4 =>
      some x4
    else
      if (s.Verb == 7) = true then
        H4 s.Low (-1048576) 1048576 >>= fun x5 =>
        (if x5 = true then H4 s.High s.Low 1048576 else some default) >>= fun x6 =>
        Z1 (bif (bif x5 then x6 else false) then (decide ((IntKind.i64.wrap (s.High - s.Low)) < 4096)) else false) syntaxReport >>= fun x7 =>
        some x7
      else
        if (s.Verb == 8) = true then
          H4 ((s.Numbers).length : Int) 1 32 >>= fun x8 =>
          Z1 x8 syntaxReport >>= fun x9 =>
          E3 s x9 (-1) 0
        else
          some syntaxReport
theorem Iz {s syntaxReport res} (hh : M7 s syntaxReport = some res) : T0 C 178 [.ref 0 0, .agg (F0.cells s)] [.row (B0.cells syntaxReport) 135] (Ret [.row (B0.cells res) 135] (.tup [])) := by
  unfold M7 at hh
  refine T0.intro hC Tryz.func178 rfl rfl rfl (s' rfl rfl (L0.n hC rfl (n' (t' rfl (bk' (t' rfl (ci' rfl hh (fun hh => ?_) (fun hh => ?_))))))))
  · obtain ⟨x1, hx1, hh⟩ := bs' hh
    obtain ⟨x2, hx2, hh⟩ := bs' hh
    cases hh
    exact P' 3 rfl (c' (A6 hx1) rfl rfl (g' [0] (D4 hx2) rfl rfl rfl rfl rfl rfl (n' (rn' rfl rfl rfl))))
  refine t' rfl (ci' rfl hh (fun hh => ?_) (fun hh => ?_))
  · obtain ⟨x3, hx3, hh⟩ := bs' hh
    obtain ⟨x4, hx4, hh⟩ := bs' hh
    cases hh
    exact P' 3 rfl (c' (A6 hx3) rfl rfl (g' [0] (D4 hx4) rfl rfl rfl rfl rfl rfl (n' (rn' rfl rfl rfl))))
  refine t' rfl (ci' rfl hh (fun hh => ?_) (fun hh => ?_))
  · obtain ⟨x5, hx5, hh⟩ := bs' hh
    obtain ⟨x6, hx6, hh⟩ := bs' hh
    obtain ⟨x7, hx7, hh⟩ := bs' hh
    cases hh
    refine sg' 11 rfl (G' 2 rfl (AG.c rfl rfl (fun _ => trivial) (fun _ => A6 hx5) (G' 2 rfl (a1' rfl (a0' rfl (a1' rfl (AG.c rfl rfl (fun hg => ⟨hg, hg, trivial⟩) (fun hw => A6 (Jd hw hx6)) (pa' rfl (a0' rfl (an' (n' (AEx.regionG 10 rfl (G' 4 rfl ?_)))))))))))))
    exact a1' rfl (a0' rfl (a1' rfl (a2' rfl (a1' rfl (pa' rfl (an' (g' [0] (D4 hx7) rfl rfl rfl rfl rfl rfl (n' (rn' rfl rfl rfl)))))))))
  refine t' rfl (ci' rfl hh (fun hh => ?_) (fun hh => ?_))
  · obtain ⟨x8, hx8, hh⟩ := bs' hh
    obtain ⟨x9, hx9, hh⟩ := bs' hh
    exact p' 3 rfl (qe' rfl trivial (ei64.lenA _) (c' (A6 hx8) rfl rfl (g' [0] (D4 hx9) rfl rfl rfl rfl rfl rfl (n' (t' rfl (p' 2 rfl (qe' rfl trivial (ei64.lenA _) (e' rfl (bk' (fw' (Ww hh) rfl rfl rfl))))))))))
  cases hh
  exact sk' (rn' rfl rfl rfl)
end Go.Proofs.YtdkabnfphmmmnaaGreatDoor

set_option maxRecDepth 100000
set_option maxHeartbeats 4000000
set_option synthInstance.maxSize 2000
set_option linter.unusedVariables false
namespace Go.Proofs.YtdkabnfphmmmnaaGreatDoor
open Go.Am
mutual
def K3 (l : List F0) (nesting : Int) (syntaxReport : B0) : Option B0 :=
  Z3 l nesting syntaxReport 0
  partial_fixpoint
def Z3 (l : List F0) (nesting : Int) (o03 : B0) (v14 : Int) : Option B0 :=
  if (decide (v14 < ((l).length : Int))) = true then
    idx l v14 >>= fun x1 =>
    B8 nesting (B0.mk (IntKind.i64.wrap (o03.nodes + 1)) o03.depth o03.badForm o03.badName o03.badNumber) >>= fun x2 =>
    Kd x1.Verb >>= fun x3 =>
    U0 x3.2 x2 >>= fun x4 =>
    Y3 x1.Place x3.1.place x4 >>= fun x5 =>
    if x3.1.place = true then
      Vg x1.Place >>= fun x6 =>
      U0 x6 x5 >>= fun x7 =>
      J4 l nesting x7 x1 x3 v14
    else
      J4 l nesting x5 x1 x3 v14
  else
    some o03
  partial_fixpoint
def J4 (l : List F0) (nesting : Int) (o0 : B0) (x1 : F0) (x3 : S0 × Bool) (v141 : Int) : Option B0 :=
  Y3 x1.Value x3.1.value o0 >>= fun x8 =>
  U0 (bif x3.1.name then true else (x1.Name == [])) x8 >>= fun x9 =>
  if x3.1.name = true then
    W4 x1.Name x9 >>= fun x10 =>
    K4 l nesting x10 x1 x3 v141
  else
    K4 l nesting x9 x1 x3 v141
  partial_fixpoint
def K4 (l : List F0) (nesting : Int) (o01 : B0) (x1 : F0) (x3 : S0 × Bool) (v142 : Int) : Option B0 :=
  U0 (bif x3.1.args then true else (((x1.Args).length : Int) == 0)) o01 >>= fun x11 =>
  J5 l nesting x11 x1 x3 v142 0
  partial_fixpoint
def J5 (l : List F0) (nesting : Int) (o02 : B0) (x1 : F0) (x3 : S0 × Bool) (v143 : Int) (v84 : Int) : Option B0 :=
  if (decide (v84 < ((x1.Args).length : Int))) = true then
    idx x1.Args v84 >>= fun x12 =>
    D3 x12 1 o02 >>= fun x13 =>
    J5 l nesting x13 x1 x3 v143 (IntKind.i64.wrap (v84 + 1))
  else
    U0 (bif x3.1.n then true else (x1.NV == 0)) o02 >>= fun x14 =>
    U0 (bif x3.1.bounds then true else (bif (x1.Low == 0) then (x1.High == 0) else false)) x14 >>= fun x15 =>
    U0 (bif x3.1.numbers then true else (((x1.Numbers).length : Int) == 0)) x15 >>= fun x16 =>
    U0 (bif x3.1.thenV then true else (((x1.Then).length : Int) == 0)) x16 >>= fun x17 =>
    U0 (bif x3.1.other then true else (((x1.Else).length : Int) == 0)) x17 >>= fun x18 =>
    M7 x1 x18 >>= fun x19 =>
    K3 x1.Then (IntKind.i64.wrap (nesting + 1)) x19 >>= fun x20 =>
    K3 x1.Else (IntKind.i64.wrap (nesting + 1)) x20 >>= fun x21 =>
    Z3 l nesting x21 (IntKind.i64.wrap (v143 + 1))
  partial_fixpoint
end
abbrev Ks (l : List F0) (nesting : Int) (syntaxReport : B0) (res : B0) : Prop := T0 C 109 [.ref 0 0, .d (.sl (F0.rows l)), .d (.int .i64 nesting)] [.row (B0.cells syntaxReport) 135] (Ret [.row (B0.cells res) 135] (.tup []))
abbrev Xo (l : List F0) (nesting : Int) (o03 : B0) (v14 : Int) (res : B0) : Prop := LM C 161 1 Tryz.f109 [1, 4] [(0, .ref 0 0), (2, .d (.int .i64 nesting)), (12, .d (.sl (F0.rows l))), (13, .d (.int .i64 ((l).length : Int))), (14, .d (.int .i64 v14))] [.row (B0.cells o03) 135] (Ret [.row (B0.cells res) 135] (.tup []))
abbrev Yo (l : List F0) (nesting : Int) (o0 : B0) (x1 : F0) (x3 : S0 × Bool) (v141 : Int) (res : B0) : Prop := JM C 161 1 Tryz.f109 [1, 4, 5, 1, 1, 0, 4, 1, 1, 1, 1, 1, 1, 1] [(0, .ref 0 0), (2, .d (.int .i64 nesting)), (7, .ref 1 0), (8, .ref 2 0), (12, .d (.sl (F0.rows l))), (13, .d (.int .i64 ((l).length : Int))), (14, .d (.int .i64 v141))] [.row (B0.cells o0) 135, .row (F0.cells x1) 53, .row (S0.cells x3.1) 206] (Ret [.row (B0.cells res) 135] (.tup []))
abbrev Zo (l : List F0) (nesting : Int) (o01 : B0) (x1 : F0) (x3 : S0 × Bool) (v142 : Int) (res : B0) : Prop := JM C 161 1 Tryz.f109 [1, 4, 5, 1, 1, 0, 4, 1, 1, 1, 1, 1, 1, 1, 1, 1, 1] [(0, .ref 0 0), (2, .d (.int .i64 nesting)), (7, .ref 1 0), (8, .ref 2 0), (12, .d (.sl (F0.rows l))), (13, .d (.int .i64 ((l).length : Int))), (14, .d (.int .i64 v142))] [.row (B0.cells o01) 135, .row (F0.cells x1) 53, .row (S0.cells x3.1) 206] (Ret [.row (B0.cells res) 135] (.tup []))
abbrev Bp (l : List F0) (nesting : Int) (o02 : B0) (x1 : F0) (x3 : S0 × Bool) (v143 : Int) (v84 : Int) (res : B0) : Prop := LM C 161 1 Tryz.f109 [1, 4, 5, 1, 1, 0, 4, 1, 1, 1, 1, 1, 1, 1, 1, 1, 1, 1, 0, 1, 4] [(0, .ref 0 0), (2, .d (.int .i64 nesting)), (7, .ref 1 0), (8, .ref 2 0), (12, .d (.sl (F0.rows l))), (13, .d (.int .i64 ((l).length : Int))), (14, .d (.int .i64 v143)), (82, .d (.sl (C0.rows x1.Args))), (83, .d (.int .i64 ((x1.Args).length : Int))), (84, .d (.int .i64 v84))] [.row (B0.cells o02) 135, .row (F0.cells x1) 53, .row (S0.cells x3.1) 206] (Ret [.row (B0.cells res) 135] (.tup []))
theorem Tb : (∀ l nesting syntaxReport res, K3 l nesting syntaxReport = some res → Ks l nesting syntaxReport res) ∧ (∀ l nesting o03 v14 res, Z3 l nesting o03 v14 = some res → Xo l nesting o03 v14 res) ∧ (∀ l nesting o0 x1 x3 v141 res, J4 l nesting o0 x1 x3 v141 = some res → Yo l nesting o0 x1 x3 v141 res) ∧ (∀ l nesting o01 x1 x3 v142 res, K4 l nesting o01 x1 x3 v142 = some res → Zo l nesting o01 x1 x3 v142 res) ∧ (∀ l nesting o02 x1 x3 v143 v84 res, J5 l nesting o02 x1 x3 v143 v84 = some res → Bp l nesting o02 x1 x3 v143 v84 res) := by
  refine K3.mutual_partial_correctness _ _ _ _ _ ?_ ?_ ?_ ?_ ?_
  · intro g1 ih1 l nesting syntaxReport res hh
    exact T0.intro hC Tryz.func109 rfl rfl rfl (p' 1 rfl (qe' rfl trivial (F0.lenA _) (e' rfl (bk' (fw' (ih1 _ _ _ _ _ hh) rfl rfl rfl)))))
  · intro g2 ih2 l nesting o03 v14 res hh
    refine D2.unroll (t' rfl (S' (ci' rfl hh (fun hh => ?_) (fun hh => ?_))))
    · obtain ⟨x1, hx1, hh⟩ := bs' hh
      obtain ⟨x2, hx2, hh⟩ := bs' hh
      obtain ⟨x3, hx3, hh⟩ := bs' hh
      obtain ⟨x4, hx4, hh⟩ := bs' hh
      obtain ⟨x5, hx5, hh⟩ := bs' hh
      refine sk' (S' (bk' (s' rfl rfl (i' rfl (C1 hx1) (F0.idx hx1) rfl (q' rfl (L0.nf hC rfl (L0.s hC rfl (n' (p' 7 rfl (L0.s hC rfl (n' (p' 2 rfl (g' [0] (Xl hx2) rfl rfl rfl rfl rfl rfl ?_)))))))))))))
      refine n' (p' 2 rfl (c' (X14 hx3) rfl rfl (o' 3 rfl (L0.n hC rfl (L0.s hC rfl (e' rfl (p' 2 rfl (g' [0] (B1 hx4) rfl rfl rfl rfl rfl rfl (n' (p' 5 rfl (g' [0] (Ci hx5) rfl rfl rfl rfl rfl rfl (n' (S' ?_)))))))))))))
      refine t' rfl (ci' rfl hh (fun hh => ?_) (fun hh => ?_))
      · obtain ⟨x6, hx6, hh⟩ := bs' hh
        obtain ⟨x7, hx7, hh⟩ := bs' hh
        exact P' 3 rfl (c' (Q10 hx6) rfl rfl (g' [0] (B1 hx7) rfl rfl rfl rfl rfl rfl (n' (ew' (ih2 _ _ _ _ _ _ _ hh) rfl rfl rfl))))
      exact sk' (ew' (ih2 _ _ _ _ _ _ _ hh) rfl rfl rfl)
    cases hh
    exact ex' (rn' rfl rfl rfl)
  · intro g3 ih3 l nesting o0 x1 x3 v141 res hh
    obtain ⟨x8, hx8, hh⟩ := bs' hh
    obtain ⟨x9, hx9, hh⟩ := bs' hh
    refine p' 5 rfl (g' [0] (Ci hx8) rfl rfl rfl rfl rfl rfl (n' (sg' 8 rfl (G' 5 rfl (a1' rfl (a1' rfl (po' rfl (an' (g' [0] (B1 hx9) rfl rfl rfl rfl rfl rfl (n' (S' (t' rfl (ci' rfl hh (fun hh => ?_) (fun hh => ?_))))))))))))))
    · obtain ⟨x10, hx10, hh⟩ := bs' hh
      exact P' 3 rfl (g' [0] (Qd hx10) rfl rfl rfl rfl rfl rfl (n' (ew' (ih3 _ _ _ _ _ _ _ hh) rfl rfl rfl)))
    exact sk' (ew' (ih3 _ _ _ _ _ _ _ hh) rfl rfl rfl)
  · intro g4 ih4 l nesting o01 x1 x3 v142 res hh
    obtain ⟨x11, hx11, hh⟩ := bs' hh
    exact sg' 9 rfl (G' 5 rfl (a1' rfl (AG.qe hC rfl (fun hg => ⟨⟨hg, trivial⟩, trivial⟩) (C0.lenA _) (a1' rfl (po' rfl (an' (g' [0] (B1 hx11) rfl rfl rfl rfl rfl rfl (n' (S' (p' 2 rfl (qe' rfl trivial (C0.lenA _) (e' rfl (bk' (fw' (ih4 _ _ _ _ _ _ _ _ hh) rfl rfl rfl))))))))))))))
  · intro g0 g1 g4 ih0 ih1 ih4 l nesting o02 x1 x3 v143 v84 res hh
    refine D2.unroll (t' rfl (S' (ci' rfl hh (fun hh => ?_) (fun hh => ?_))))
    · obtain ⟨x12, hx12, hh⟩ := bs' hh
      obtain ⟨x13, hx13, hh⟩ := bs' hh
      exact sk' (S' (bk' (s' rfl rfl (i' rfl (C1 hx12) (C0.idx hx12) rfl (q' rfl (L0.nf hC rfl (L0.s hC rfl (n' (P' 2 rfl (g' [0] (Bm hx13) rfl rfl rfl rfl rfl rfl (n' (T' rfl (lw' (ih4 _ _ _ _ _ _ _ _ hh) rfl rfl rfl)))))))))))))
    obtain ⟨x14, hx14, hh⟩ := bs' hh
    obtain ⟨x15, hx15, hh⟩ := bs' hh
    obtain ⟨x16, hx16, hh⟩ := bs' hh
    obtain ⟨x17, hx17, hh⟩ := bs' hh
    obtain ⟨x18, hx18, hh⟩ := bs' hh
    obtain ⟨x19, hx19, hh⟩ := bs' hh
    obtain ⟨x20, hx20, hh⟩ := bs' hh
    obtain ⟨x21, hx21, hh⟩ := bs' hh
    refine ex' (sg' 8 rfl (G' 5 rfl (a1' rfl (a1' rfl (po' rfl (an' (g' [0] (B1 hx14) rfl rfl rfl rfl rfl rfl (n' (sg' 13 rfl (G' 5 rfl (a1' rfl (a1' rfl (a1' rfl ?_)))))))))))))
    refine a0' rfl (a1' rfl (a1' rfl (pA' rfl (po' rfl (an' (g' [0] (B1 hx15) rfl rfl rfl rfl rfl rfl (n' (sg' 9 rfl (G' 5 rfl (a1' rfl (AG.qe hC rfl (fun hg => ⟨⟨hg, trivial⟩, trivial⟩) (ei64.lenA _) (a1' rfl (po' rfl ?_)))))))))))))
    refine an' (g' [0] (B1 hx16) rfl rfl rfl rfl rfl rfl (n' (sg' 9 rfl (G' 5 rfl (a1' rfl (AG.qe hC rfl (fun hg => ⟨⟨hg, trivial⟩, trivial⟩) (F0.lenA _) (a1' rfl (po' rfl (an' (g' [0] (B1 hx17) rfl rfl rfl rfl rfl rfl (n' (sg' 9 rfl (G' 5 rfl ?_)))))))))))))
    refine a1' rfl (AG.qe hC rfl (fun hg => ⟨⟨hg, trivial⟩, trivial⟩) (F0.lenA _) (a1' rfl (po' rfl (an' (g' [0] (B1 hx18) rfl rfl rfl rfl rfl rfl (n' (p' 2 rfl (g' [0] (Iz hx19) rfl rfl rfl rfl rfl rfl (n' (p' 5 rfl (g' [0] (ih0 _ _ _ _ hx20) rfl rfl rfl rfl rfl rfl (n' (P' 5 rfl ?_)))))))))))))
    exact g' [0] (ih0 _ _ _ _ hx21) rfl rfl rfl rfl rfl rfl (n' (T' rfl (lw' (ih1 _ _ _ _ _ hh) rfl rfl rfl)))
theorem Xq {l nesting syntaxReport res} (hh : K3 l nesting syntaxReport = some res) : Ks l nesting syntaxReport res := (Tb).1 _ _ _ _ hh
theorem M1e {l nesting o03 v14 res} (hh : Z3 l nesting o03 v14 = some res) : Xo l nesting o03 v14 res := (Tb).2.1 _ _ _ _ _ hh
theorem N1e {l nesting o0 x1 x3 v141 res} (hh : J4 l nesting o0 x1 x3 v141 = some res) : Yo l nesting o0 x1 x3 v141 res := (Tb).2.2.1 _ _ _ _ _ _ _ hh
theorem O1e {l nesting o01 x1 x3 v142 res} (hh : K4 l nesting o01 x1 x3 v142 = some res) : Zo l nesting o01 x1 x3 v142 res := (Tb).2.2.2.1 _ _ _ _ _ _ _ hh
theorem P1e {l nesting o02 x1 x3 v143 v84 res} (hh : J5 l nesting o02 x1 x3 v143 v84 = some res) : Bp l nesting o02 x1 x3 v143 v84 res := (Tb).2.2.2.2 _ _ _ _ _ _ _ _ hh
mutual
def B5 (l : List E0) (syntaxReport : B0) : Option B0 :=
  L4 l syntaxReport 0
  partial_fixpoint
def L4 (l : List E0) (o03 : B0) (v15 : Int) : Option B0 :=
  if (decide (v15 < ((l).length : Int))) = true then
    idx l v15 >>= fun x1 =>
    Jh x1.Kind >>= fun x2 =>
    U0 x2.1 (B0.mk (IntKind.i64.wrap (o03.nodes + 1)) o03.depth o03.badForm o03.badName o03.badNumber) >>= fun x3 =>
    (if (!x2.1) = true then C7 x1.TypeV (A0.mk 0 0 0 0 [] [] []) else some default) >>= fun x4 =>
    if (bif x2.1 then true else (!x4)) = true then
      R4 x1.TypeV 1 x3 >>= fun x5 =>
      K5 l x5 x1 x2 v15
    else
      K5 l x3 x1 x2 v15
  else
    some o03
  partial_fixpoint
def K5 (l : List E0) (o0 : B0) (x1 : E0) (x2 : Bool × Bool) (v151 : Int) : Option B0 :=
  W4 x1.Name o0 >>= fun x6 =>
  Y3 x1.Value x2.2 x6 >>= fun x7 =>
  U0 (bif (x1.Kind == 4) then true else (x1.Init == 0)) x7 >>= fun x8 =>
  H4 x1.Init (-1048576) 1048576 >>= fun x9 =>
  (if (x9 && (!(x1.TypeV.Kind != 0))) = true then H4 x1.Init 0 1 else some default) >>= fun x10 =>
  Z1 (bif x9 then (bif (x1.TypeV.Kind != 0) then true else x10) else false) x8 >>= fun x11 =>
  U0 (bif (x1.Kind == 6) then true else (bif (bif (((x1.Params).length : Int) == 0) then (((x1.Vars).length : Int) == 0) else false) then (((x1.Body).length : Int) == 0) else false)) x11 >>= fun x12 =>
  M4 l x12 x1 v151 0
  partial_fixpoint
def M4 (l : List E0) (o01 : B0) (x1 : E0) (v152 : Int) (v109 : Int) : Option B0 :=
  if (decide (v109 < ((x1.Params).length : Int))) = true then
    idx x1.Params v109 >>= fun x13 =>
    U0 (bif (x13.Kind == 4) then (x13.Init == 0) else false) o01 >>= fun x14 =>
    M4 l x14 x1 v152 (IntKind.i64.wrap (v109 + 1))
  else
    L5 l o01 x1 v152 0
  partial_fixpoint
def L5 (l : List E0) (o02 : B0) (x1 : E0) (v153 : Int) (v127 : Int) : Option B0 :=
  if (decide (v127 < ((x1.Vars).length : Int))) = true then
    idx x1.Vars v127 >>= fun x15 =>
    U0 (x15.Kind == 4) o02 >>= fun x16 =>
    L5 l x16 x1 v153 (IntKind.i64.wrap (v127 + 1))
  else
    B5 x1.Params o02 >>= fun x17 =>
    B5 x1.Vars x17 >>= fun x18 =>
    K3 x1.Body 1 x18 >>= fun x19 =>
    L4 l x19 (IntKind.i64.wrap (v153 + 1))
  partial_fixpoint
end
abbrev Ls (l : List E0) (syntaxReport : B0) (res : B0) : Prop := T0 C 108 [.ref 0 0, .d (.sl (E0.rows l))] [.row (B0.cells syntaxReport) 135] (Ret [.row (B0.cells res) 135] (.tup []))
abbrev Cp (l : List E0) (o03 : B0) (v15 : Int) (res : B0) : Prop := LM C 150 1 Tryz.f108 [1, 4] [(0, .ref 0 0), (13, .d (.sl (E0.rows l))), (14, .d (.int .i64 ((l).length : Int))), (15, .d (.int .i64 v15))] [.row (B0.cells o03) 135] (Ret [.row (B0.cells res) 135] (.tup []))
abbrev Dp (l : List E0) (o0 : B0) (x1 : E0) (x2 : Bool × Bool) (v151 : Int) (res : B0) : Prop := JM C 150 1 Tryz.f108 [1, 4, 5, 1, 1, 0, 4, 1, 1, 1, 1, 1] [(0, .ref 0 0), (5, .ref 1 0), (7, .d (.bool x2.2)), (13, .d (.sl (E0.rows l))), (14, .d (.int .i64 ((l).length : Int))), (15, .d (.int .i64 v151))] [.row (B0.cells o0) 135, .row (E0.cells x1) 59] (Ret [.row (B0.cells res) 135] (.tup []))
abbrev Ep (l : List E0) (o01 : B0) (x1 : E0) (v152 : Int) (v109 : Int) (res : B0) : Prop := LM C 150 1 Tryz.f108 [1, 4, 5, 1, 1, 0, 4, 1, 1, 1, 1, 1, 1, 1, 1, 1, 1, 1, 0, 1, 4] [(0, .ref 0 0), (5, .ref 1 0), (13, .d (.sl (E0.rows l))), (14, .d (.int .i64 ((l).length : Int))), (15, .d (.int .i64 v152)), (107, .d (.sl (E0.rows x1.Params))), (108, .d (.int .i64 ((x1.Params).length : Int))), (109, .d (.int .i64 v109))] [.row (B0.cells o01) 135, .row (E0.cells x1) 59] (Ret [.row (B0.cells res) 135] (.tup []))
abbrev Fp (l : List E0) (o02 : B0) (x1 : E0) (v153 : Int) (v127 : Int) (res : B0) : Prop := LM C 150 1 Tryz.f108 [1, 4, 5, 1, 1, 0, 4, 1, 1, 1, 1, 1, 1, 1, 1, 1, 1, 1, 1, 0, 1, 4] [(0, .ref 0 0), (5, .ref 1 0), (13, .d (.sl (E0.rows l))), (14, .d (.int .i64 ((l).length : Int))), (15, .d (.int .i64 v153)), (125, .d (.sl (E0.rows x1.Vars))), (126, .d (.int .i64 ((x1.Vars).length : Int))), (127, .d (.int .i64 v127))] [.row (B0.cells o02) 135, .row (E0.cells x1) 59] (Ret [.row (B0.cells res) 135] (.tup []))
theorem Ub : (∀ l syntaxReport res, B5 l syntaxReport = some res → Ls l syntaxReport res) ∧ (∀ l o03 v15 res, L4 l o03 v15 = some res → Cp l o03 v15 res) ∧ (∀ l o0 x1 x2 v151 res, K5 l o0 x1 x2 v151 = some res → Dp l o0 x1 x2 v151 res) ∧ (∀ l o01 x1 v152 v109 res, M4 l o01 x1 v152 v109 = some res → Ep l o01 x1 v152 v109 res) ∧ (∀ l o02 x1 v153 v127 res, L5 l o02 x1 v153 v127 = some res → Fp l o02 x1 v153 v127 res) := by
  refine B5.mutual_partial_correctness _ _ _ _ _ ?_ ?_ ?_ ?_ ?_
  · intro g1 ih1 l syntaxReport res hh
    exact T0.intro hC Tryz.func108 rfl rfl rfl (p' 1 rfl (qe' rfl trivial (E0.lenA _) (e' rfl (bk' (fw' (ih1 _ _ _ _ hh) rfl rfl rfl)))))
  · intro g2 ih2 l o03 v15 res hh
    refine D2.unroll (t' rfl (S' (ci' rfl hh (fun hh => ?_) (fun hh => ?_))))
    · obtain ⟨x1, hx1, hh⟩ := bs' hh
      obtain ⟨x2, hx2, hh⟩ := bs' hh
      obtain ⟨x3, hx3, hh⟩ := bs' hh
      obtain ⟨x4, hx4, hh⟩ := bs' hh
      refine sk' (S' (bk' (s' rfl rfl (i' rfl (C1 hx1) (E0.idx hx1) rfl (q' rfl (L0.nf hC rfl (L0.s hC rfl (n' (p' 7 rfl (L0.s hC rfl (n' (p' 2 rfl (c' (C16 hx2) rfl rfl ?_)))))))))))))
      refine e' rfl (p' 2 rfl (g' [0] (B1 hx3) rfl rfl rfl rfl rfl rfl (n' (S' (sg' 8 rfl (G' 3 rfl (a1' rfl (a0' rfl (AG.c rfl rfl (fun hg => ⟨hg, hg, trivial⟩) (fun hw => T14 (Jd hw hx4)) (a1' rfl (po' rfl (an' (n' (ci' rfl hh (fun hh => ?_) (fun hh => ?_)))))))))))))))
      · obtain ⟨x5, hx5, hh⟩ := bs' hh
        exact P' 3 rfl (g' [0] (Dt hx5) rfl rfl rfl rfl rfl rfl (n' (ew' (ih2 _ _ _ _ _ _ hh) rfl rfl rfl)))
      exact sk' (ew' (ih2 _ _ _ _ _ _ hh) rfl rfl rfl)
    cases hh
    exact ex' (rn' rfl rfl rfl)
  · intro g3 ih3 l o0 x1 x2 v151 res hh
    obtain ⟨x6, hx6, hh⟩ := bs' hh
    obtain ⟨x7, hx7, hh⟩ := bs' hh
    obtain ⟨x8, hx8, hh⟩ := bs' hh
    obtain ⟨x9, hx9, hh⟩ := bs' hh
    obtain ⟨x10, hx10, hh⟩ := bs' hh
    obtain ⟨x11, hx11, hh⟩ := bs' hh
    obtain ⟨x12, hx12, hh⟩ := bs' hh
    refine p' 3 rfl (g' [0] (Qd hx6) rfl rfl rfl rfl rfl rfl (n' (p' 4 rfl (g' [0] (Ci hx7) rfl rfl rfl rfl rfl rfl (n' (sg' 9 rfl (G' 6 rfl (a1' rfl (a1' rfl (po' rfl (an' (g' [0] (B1 hx8) rfl rfl rfl rfl rfl rfl (n' ?_)))))))))))))
    refine sg' 15 rfl (G' 3 rfl (AG.c rfl rfl (fun _ => trivial) (fun _ => A6 hx9) (G' 2 rfl (a1' rfl (a1' rfl (a1' rfl (a1' rfl (a0' rfl (a1' rfl (AG.c rfl rfl (fun hg => ⟨hg, trivial⟩) (fun hw => A6 (Jd hw hx10)) (pO' rfl (pa' rfl (an' ?_)))))))))))))
    refine g' [0] (D4 hx11) rfl rfl rfl rfl rfl rfl (n' (t' rfl (sg' 20 rfl (G' 4 rfl (a1' rfl (AG.qe hC rfl (fun hg => ⟨⟨hg, trivial⟩, trivial⟩) (E0.lenA _) (a1' rfl (a1' rfl (a0' rfl (a1' rfl (AG.qe hC rfl (fun hg => ⟨⟨hg, trivial⟩, trivial⟩) (E0.lenA _) (a1' rfl (pA' rfl ?_)))))))))))))
    refine a1' rfl (a0' rfl (a1' rfl (AG.qe hC rfl (fun hg => ⟨⟨hg, trivial⟩, trivial⟩) (F0.lenA _) (a1' rfl (pA' rfl (po' rfl (an' (g' [0] (B1 hx12) rfl rfl rfl rfl rfl rfl (n' (S' (p' 2 rfl (qe' rfl trivial (E0.lenA _) (e' rfl ?_)))))))))))))
    exact bk' (fw' (ih3 _ _ _ _ _ _ hh) rfl rfl rfl)
  · intro g3 g4 ih3 ih4 l o01 x1 v152 v109 res hh
    refine D2.unroll (t' rfl (S' (ci' rfl hh (fun hh => ?_) (fun hh => ?_))))
    · obtain ⟨x13, hx13, hh⟩ := bs' hh
      obtain ⟨x14, hx14, hh⟩ := bs' hh
      refine sk' (S' (bk' (s' rfl rfl (i' rfl (C1 hx13) (E0.idx hx13) rfl (q' rfl (L0.nf hC rfl (L0.s hC rfl (n' (AEx.regionG 9 rfl (G' 6 rfl (a1' rfl (a1' rfl (pa' rfl ?_)))))))))))))
      exact an' (g' [0] (B1 hx14) rfl rfl rfl rfl rfl rfl (n' (T' rfl (lw' (ih3 _ _ _ _ _ _ hh) rfl rfl rfl))))
    exact ex' (S' (p' 2 rfl (qe' rfl trivial (E0.lenA _) (e' rfl (bk' (fw' (ih4 _ _ _ _ _ _ hh) rfl rfl rfl))))))
  · intro g0 g1 g4 ih0 ih1 ih4 l o02 x1 v153 v127 res hh
    refine D2.unroll (t' rfl (S' (ci' rfl hh (fun hh => ?_) (fun hh => ?_))))
    · obtain ⟨x15, hx15, hh⟩ := bs' hh
      obtain ⟨x16, hx16, hh⟩ := bs' hh
      exact sk' (S' (bk' (s' rfl rfl (i' rfl (C1 hx15) (E0.idx hx15) rfl (q' rfl (L0.nf hC rfl (L0.s hC rfl (n' (P' 4 rfl (g' [0] (B1 hx16) rfl rfl rfl rfl rfl rfl (n' (T' rfl (lw' (ih4 _ _ _ _ _ _ hh) rfl rfl rfl)))))))))))))
    obtain ⟨x17, hx17, hh⟩ := bs' hh
    obtain ⟨x18, hx18, hh⟩ := bs' hh
    obtain ⟨x19, hx19, hh⟩ := bs' hh
    exact ex' (p' 3 rfl (g' [0] (ih0 _ _ _ hx17) rfl rfl rfl rfl rfl rfl (n' (p' 3 rfl (g' [0] (ih0 _ _ _ hx18) rfl rfl rfl rfl rfl rfl (n' (P' 3 rfl (g' [0] (Xq hx19) rfl rfl rfl rfl rfl rfl (n' (T' rfl (lw' (ih1 _ _ _ _ hh) rfl rfl rfl)))))))))))
theorem D11 {l syntaxReport res} (hh : B5 l syntaxReport = some res) : Ls l syntaxReport res := (Ub).1 _ _ _ hh
theorem Q1e {l o03 v15 res} (hh : L4 l o03 v15 = some res) : Cp l o03 v15 res := (Ub).2.1 _ _ _ _ hh
theorem R1e {l o0 x1 x2 v151 res} (hh : K5 l o0 x1 x2 v151 = some res) : Dp l o0 x1 x2 v151 res := (Ub).2.2.1 _ _ _ _ _ _ hh
theorem S1e {l o01 x1 v152 v109 res} (hh : M4 l o01 x1 v152 v109 = some res) : Ep l o01 x1 v152 v109 res := (Ub).2.2.2.1 _ _ _ _ _ _ hh
theorem T1e {l o02 x1 v153 v127 res} (hh : L5 l o02 x1 v153 v127 = some res) : Fp l o02 x1 v153 v127 res := (Ub).2.2.2.2 _ _ _ _ _ _ hh
def Ig (p : N0) : Option B0 :=
  B5 p.Decls (B0.mk 0 0 false false false) >>= fun x1 =>
  K3 p.Body 1 x1 >>= fun x2 =>
  some x2
theorem P17 {p res} (hh : Ig p = some res) : T0 C 53 [.agg (N0.cells p)] [] (Ret [.dead, .row (B0.cells res) 135] (.ref 1 0)) := by
  unfold Ig at hh
  obtain ⟨x1, hx1, hh⟩ := bs' hh
  obtain ⟨x2, hx2, hh⟩ := bs' hh
  refine T0.intro hC Tryz.func53 rfl rfl rfl (s' rfl rfl (L0.n hC rfl (e' rfl (p' 1 rfl (L0.n hC rfl (e' rfl (p' 3 rfl (g' [1] (D11 hx1) rfl rfl rfl rfl rfl rfl (n' (p' 3 rfl (g' [1] (Xq hx2) rfl rfl rfl rfl rfl rfl (n' (t' rfl ?_)))))))))))))
  refine re' ?_
  obtain rfl := oi' hh
  exact ⟨_, _, [.dead, .row (B0.cells x2) 135], rfl, .rfl, ⟨trivial, ⟨⟨rfl, .refl _, rfl⟩, trivial⟩⟩, rfl, rfl, rfl, rfl⟩
def Q6 (syntaxReport : B0) : Option Int :=
  if (bif (decide (syntaxReport.nodes > 1024)) then true else (decide (syntaxReport.depth > 12))) = true then
    some 4
  else
    if syntaxReport.badForm = true then
      some 1
    else
      if syntaxReport.badName = true then
        some 7
      else
        if syntaxReport.badNumber = true then
          some 3
        else
          some 0
theorem Cm {syntaxReport res} (hh : Q6 syntaxReport = some res) : T0 C 54 [.ref 0 0] [.row (B0.cells syntaxReport) 135] (Ret [.row (B0.cells syntaxReport) 135] (.d (.int .i64 res))) := by
  unfold Q6 at hh
  refine T0.intro hC Tryz.func54 rfl rfl rfl (t' rfl (S' (bk' (sg' 13 rfl (G' 7 rfl (a1' rfl (a1' rfl (a1' rfl (a1' rfl (po' rfl (a0' rfl (an' (n' (ci' rfl hh (fun hh => ?_) (fun hh => ?_)))))))))))))))
  · cases hh
    exact t' rfl (re' (rt' rfl rfl rfl))
  refine t' rfl (ci' rfl hh (fun hh => ?_) (fun hh => ?_))
  · cases hh
    exact t' rfl (re' (rt' rfl rfl rfl))
  refine t' rfl (ci' rfl hh (fun hh => ?_) (fun hh => ?_))
  · cases hh
    exact t' rfl (re' (rt' rfl rfl rfl))
  refine t' rfl (ci' rfl hh (fun hh => ?_) (fun hh => ?_))
  · cases hh
    exact t' rfl (re' (rt' rfl rfl rfl))
  cases hh
  exact sk' (t' rfl (re' (rt' rfl rfl rfl)))
def Zi (p : N0) : Option Int :=
  Ig p >>= fun x1 =>
  Q6 x1 >>= fun x2 =>
  some x2
theorem Z1a {p res} (hh : Zi p = some res) : T0 C 28 [.agg (N0.cells p)] [] (Ret [] (.d (.int .i64 res))) := by
  unfold Zi at hh
  obtain ⟨x1, hx1, hh⟩ := bs' hh
  obtain ⟨x2, hx2, hh⟩ := bs' hh
  cases hh
  exact T0.intro hC Tryz.func28 rfl rfl rfl (s' rfl rfl (L0.n hC rfl (e' rfl (p' 1 rfl (g' [] (P17 hx1) rfl rfl rfl rfl rfl rfl (g' [2] (Cm hx2) rfl rfl rfl rfl rfl rfl (e' rfl (re' (rt' rfl rfl rfl)))))))))
mutual
def A2 (c : D0) (m0 : List (Str × Bool)) (v18 : Int) : Option Int :=
  if (decide (v18 < ((c.p.Decls).length : Int))) = true then
    idx c.p.Decls v18 >>= fun x1 =>
    some (mgt x1.Name m0) >>= fun x2 =>
    if (x2.getD ebool.zero) = true then
      some v18
    else
      R1 c (mpt x1.Name true m0) [] v18 v18 x1 0
  else
    some (-1)
  partial_fixpoint
def R1 (c : D0) (m01 : List (Str × Bool)) (m21 : List (Str × Bool)) (i : Int) (v181 : Int) (x1 : E0) (v38 : Int) : Option Int :=
  if (decide (v38 < (([x1.Params, x1.Vars]).length : Int))) = true then
    idx [x1.Params, x1.Vars] v38 >>= fun x3 =>
    L2 c m01 m21 i v181 x1 v38 x3 0
  else
    A2 c m01 (IntKind.i64.wrap (v181 + 1))
  partial_fixpoint
def L2 (c : D0) (m02 : List (Str × Bool)) (m2 : List (Str × Bool)) (i1 : Int) (v182 : Int) (x1 : E0) (v381 : Int) (x3 : List E0) (v44 : Int) : Option Int :=
  if (decide (v44 < ((x3).length : Int))) = true then
    idx x3 v44 >>= fun x4 =>
    some (mgt x4.Name c.names) >>= fun x5 =>
    some (mgt x4.Name m2) >>= fun x6 =>
    if (bif (x5.getD ebool.zero) then true else (x6.getD ebool.zero)) = true then
      some i1
    else
      L2 c m02 (mpt x4.Name true m2) i1 v182 x1 v381 x3 (IntKind.i64.wrap (v44 + 1))
  else
    R1 c m02 m2 i1 v182 x1 (IntKind.i64.wrap (v381 + 1))
  partial_fixpoint
end
abbrev Aj (c : D0) (m0 : List (Str × Bool)) (v18 : Int) (res : Int) : Prop := LM C 68 0 Tryz.f29 [1, 1, 0, 1, 4] [(0, .d (.box (D0.row c))), (3, .mp 0), (16, .d (.sl (E0.rows c.p.Decls))), (17, .d (.int .i64 ((c.p.Decls).length : Int))), (18, .d (.int .i64 v18))] [.map (.s (ebool.ents m0))] (Ret [] (.d (.int .i64 res)))
abbrev Bj (c : D0) (m01 : List (Str × Bool)) (m21 : List (Str × Bool)) (i : Int) (v181 : Int) (x1 : E0) (v38 : Int) (res : Int) : Prop := LM C 68 0 Tryz.f29 [1, 1, 0, 1, 4, 5, 1, 1, 0, 4, 1, 1, 1, 1, 1, 4] [(0, .d (.box (D0.row c))), (3, .mp 0), (4, .d (.int .i64 i)), (6, .mp 2), (16, .d (.sl (E0.rows c.p.Decls))), (17, .d (.int .i64 ((c.p.Decls).length : Int))), (18, .d (.int .i64 v181)), (36, .full (esl_ApiDecl.rows [x1.Params, x1.Vars])), (37, .d (.int .i64 (([x1.Params, x1.Vars]).length : Int))), (38, .d (.int .i64 v38))] [.map (.s (ebool.ents m01)), .dead, .map (.s (ebool.ents m21))] (Ret [] (.d (.int .i64 res)))
abbrev Cj (c : D0) (m02 : List (Str × Bool)) (m2 : List (Str × Bool)) (i1 : Int) (v182 : Int) (x1 : E0) (v381 : Int) (x3 : List E0) (v44 : Int) (res : Int) : Prop := LM C 68 0 Tryz.f29 [1, 1, 0, 1, 4, 5, 1, 1, 0, 4, 1, 1, 1, 1, 1, 4, 5, 1, 1, 0, 4, 1, 1, 4] [(0, .d (.box (D0.row c))), (3, .mp 0), (4, .d (.int .i64 i1)), (6, .mp 2), (16, .d (.sl (E0.rows c.p.Decls))), (17, .d (.int .i64 ((c.p.Decls).length : Int))), (18, .d (.int .i64 v182)), (36, .full (esl_ApiDecl.rows [x1.Params, x1.Vars])), (37, .d (.int .i64 (([x1.Params, x1.Vars]).length : Int))), (38, .d (.int .i64 v381)), (42, .d (.sl (E0.rows x3))), (43, .d (.int .i64 ((x3).length : Int))), (44, .d (.int .i64 v44))] [.map (.s (ebool.ents m02)), .dead, .map (.s (ebool.ents m2))] (Ret [] (.d (.int .i64 res)))
theorem Cc (c : D0) : (∀ m0 v18 res, A2 c m0 v18 = some res → Aj c m0 v18 res) ∧ (∀ m01 m21 i v181 x1 v38 res, R1 c m01 m21 i v181 x1 v38 = some res → Bj c m01 m21 i v181 x1 v38 res) ∧ (∀ m02 m2 i1 v182 x1 v381 x3 v44 res, L2 c m02 m2 i1 v182 x1 v381 x3 v44 = some res → Cj c m02 m2 i1 v182 x1 v381 x3 v44 res) := by
  refine A2.mutual_partial_correctness c _ _ _ ?_ ?_ ?_
  · intro g1 ih1 m0 v18 res hh
    refine D2.unroll (t' rfl (S' (ci' rfl hh (fun hh => ?_) (fun hh => ?_))))
    · obtain ⟨x1, hx1, hh⟩ := bs' hh
      obtain ⟨x2, hx2, hh⟩ := bs' hh
      refine sk' (S' (bk' (p' 1 rfl (i' rfl (C1 hx1) (E0.idx hx1) rfl (q' rfl (L0.nf hC rfl (q' rfl (L0.s hC rfl (n' (S' (p' 3 rfl (L0.me hC rfl (ebool.lk hx2) (n' (ci' rfl hh (fun hh => ?_) (fun hh => ?_)))))))))))))))
      · cases hh
        exact t' rfl (re' (rt' rfl rfl rfl))
      refine sk' (p' 3 rfl (L0.ue hC rfl (ebool.mput _ true _) rfl (n' (s' rfl rfl (L0.w rfl (e' rfl (p' 4 rfl (L0.be hC rfl (esl_ApiDecl.rows_map [x1.Params, x1.Vars]).symm (qe' rfl trivial (esl_ApiDecl.lenA _) (e' rfl (bk' ?_)))))))))))
      refine AEx.ofLoop ?_
      refine D2.wk ?_ (ih1 _ _ _ _ _ _ _ hh)
      exact ⟨⟨⟨.rfl, rfl⟩, ⟨⟨.rfl, rfl⟩, ⟨⟨.rfl, rfl⟩, ⟨⟨.rfl, rfl⟩, ⟨⟨.rfl, rfl⟩, ⟨⟨.rfl, rfl⟩, ⟨⟨.rfl, rfl⟩, ⟨⟨.rfl, rfl⟩, ⟨⟨.rfl, rfl⟩, ⟨⟨.rfl, rfl⟩, trivial⟩⟩⟩⟩⟩⟩⟩⟩⟩⟩, ⟨rfl, ⟨trivial, ⟨rfl, trivial⟩⟩⟩, rfl⟩
    cases hh
    exact ex' (t' rfl (re' (rt' rfl rfl rfl)))
  · intro g0 g2 ih0 ih2 m01 m21 i v181 x1 v38 res hh
    refine D2.unroll (t' rfl (S' (ci' rfl hh (fun hh => ?_) (fun hh => ?_))))
    · obtain ⟨x3, hx3, hh⟩ := bs' hh
      refine sk' (S' (bk' (s' rfl rfl (i' rfl (C1 hx3) (esl_ApiDecl.idx hx3) rfl (e' rfl (p' 1 rfl (qe' rfl trivial (E0.lenA _) (e' rfl (bk' ?_)))))))))
      refine AEx.ofLoop ?_
      refine D2.wk ?_ (ih2 _ _ _ _ _ _ _ _ _ hh)
      exact ⟨⟨⟨.rfl, rfl⟩, ⟨⟨.rfl, rfl⟩, ⟨⟨.rfl, rfl⟩, ⟨⟨.rfl, rfl⟩, ⟨⟨.rfl, rfl⟩, ⟨⟨.rfl, rfl⟩, ⟨⟨.rfl, rfl⟩, ⟨⟨.rfl, rfl⟩, ⟨⟨.rfl, rfl⟩, ⟨⟨.rfl, rfl⟩, ⟨⟨.rfl, rfl⟩, ⟨⟨.rfl, rfl⟩, ⟨⟨.rfl, rfl⟩, trivial⟩⟩⟩⟩⟩⟩⟩⟩⟩⟩⟩⟩⟩, ⟨rfl, ⟨trivial, ⟨rfl, trivial⟩⟩⟩, rfl⟩
    exact ex' (T' rfl (lw' (ih0 _ _ _ hh) rfl rfl rfl))
  · intro g1 g2 ih1 ih2 m02 m2 i1 v182 x1 v381 x3 v44 res hh
    refine D2.unroll (t' rfl (S' (ci' rfl hh (fun hh => ?_) (fun hh => ?_))))
    · obtain ⟨x4, hx4, hh⟩ := bs' hh
      obtain ⟨x5, hx5, hh⟩ := bs' hh
      obtain ⟨x6, hx6, hh⟩ := bs' hh
      refine sk' (S' (bk' (s' rfl rfl (i' rfl (C1 hx4) (E0.idx hx4) rfl (q' rfl (L0.nf hC rfl (L0.s hC rfl (n' (S' (S' (AEx.drawG hC 13 rfl rfl rfl (G' 6 rfl (AG.fl hC rfl rfl (fun _ => trivial) (fun _ => rfl) (ebool.lk hx5) ?_)))))))))))))
      refine G' 3 rfl (a1' rfl (AG.me hC rfl rfl (fun hg => ⟨hg, hg, trivial⟩) (ebool.lk hx6) (po' rfl (an' (n' (ci' rfl hh (fun hh => ?_) (fun hh => ?_)))))))
      · cases hh
        exact t' rfl (re' (rt' rfl rfl rfl))
      refine sk' (P' 3 rfl (L0.ue hC rfl (ebool.mput _ true _) rfl (n' (T' rfl ?_))))
      refine D2.wk ?_ (ih2 _ _ _ _ _ _ _ _ _ hh)
      exact ⟨⟨⟨.rfl, rfl⟩, ⟨⟨.rfl, rfl⟩, ⟨⟨.rfl, rfl⟩, ⟨⟨.rfl, rfl⟩, ⟨⟨.rfl, rfl⟩, ⟨⟨.rfl, rfl⟩, ⟨⟨.rfl, rfl⟩, ⟨⟨.rfl, rfl⟩, ⟨⟨.rfl, rfl⟩, ⟨⟨.rfl, rfl⟩, ⟨⟨.rfl, rfl⟩, ⟨⟨.rfl, rfl⟩, ⟨⟨.rfl, rfl⟩, trivial⟩⟩⟩⟩⟩⟩⟩⟩⟩⟩⟩⟩⟩, ⟨rfl, ⟨trivial, ⟨rfl, trivial⟩⟩⟩, rfl⟩
    refine ex' (T' rfl ?_)
    refine D2.wk ?_ (ih1 _ _ _ _ _ _ _ hh)
    exact ⟨⟨⟨.rfl, rfl⟩, ⟨⟨.rfl, rfl⟩, ⟨⟨.rfl, rfl⟩, ⟨⟨.rfl, rfl⟩, ⟨⟨.rfl, rfl⟩, ⟨⟨.rfl, rfl⟩, ⟨⟨.rfl, rfl⟩, ⟨⟨.rfl, rfl⟩, ⟨⟨.rfl, rfl⟩, ⟨⟨.rfl, rfl⟩, trivial⟩⟩⟩⟩⟩⟩⟩⟩⟩⟩, ⟨rfl, ⟨trivial, ⟨rfl, trivial⟩⟩⟩, rfl⟩
theorem Yq {c m0 v18 res} (hh : A2 c m0 v18 = some res) : Aj c m0 v18 res := (Cc c).1 _ _ _ hh
theorem H18 {c m01 m21 i v181 x1 v38 res} (hh : R1 c m01 m21 i v181 x1 v38 = some res) : Bj c m01 m21 i v181 x1 v38 res := (Cc c).2.1 _ _ _ _ _ _ _ hh
theorem I18 {c m02 m2 i1 v182 x1 v381 x3 v44 res} (hh : L2 c m02 m2 i1 v182 x1 v381 x3 v44 = some res) : Cj c m02 m2 i1 v182 x1 v381 x3 v44 res := (Cc c).2.2 _ _ _ _ _ _ _ _ _ hh
def N7 (c : D0) : Option Int :=
  A2 c [] 0
theorem Ft {c res} (hh : N7 c = some res) : T0 C 29 [.d (.box (D0.row c))] [] (Ret [] (.d (.int .i64 res))) := by
  unfold N7 at hh
  exact T0.intro hC Tryz.func29 rfl rfl rfl (t' rfl (s' rfl rfl (L0.w rfl (e' rfl (S' (p' 5 rfl (qe' rfl trivial (E0.lenA _) (e' rfl (bk' (fw' (Yq hh) rfl rfl rfl))))))))))
def Ra (t : A0) : Option Int :=
  R4 t 1 (B0.mk 0 0 false false false) >>= fun x1 =>
  Q6 x1 >>= fun x2 =>
  some x2
theorem Av {t res} (hh : Ra t = some res) : T0 C 185 [.agg (A0.cells t)] [] (Ret [] (.d (.int .i64 res))) := by
  unfold Ra at hh
  obtain ⟨x1, hx1, hh⟩ := bs' hh
  obtain ⟨x2, hx2, hh⟩ := bs' hh
  cases hh
  exact T0.intro hC Tryz.func185 rfl rfl rfl (s' rfl rfl (L0.n hC rfl (e' rfl (p' 1 rfl (L0.n hC rfl (e' rfl (p' 2 rfl (g' [1] (Dt hx1) rfl rfl rfl rfl rfl rfl (n' (p' 1 rfl (g' [1] (Cm hx2) rfl rfl rfl rfl rfl rfl (e' rfl (re' (rt' rfl rfl rfl))))))))))))))
mutual
def E5 (t : A0) (m : List (Str × A0)) : Option (A0 × Bool) :=
  if (t.Kind == 4) = true then
    some (mgt t.Name m) >>= fun x1 =>
    if (!x1.isSome) = true then
      some ((A0.mk 0 0 0 0 [] [] []), false)
    else
      O7 m (x1.getD A0.zero)
  else
    O7 m t
  partial_fixpoint
def O7 (m : List (Str × A0)) (o1 : A0) : Option (A0 × Bool) :=
  X9 o1.Names >>= fun x2 =>
  S4 m o1 x2 [] 0
  partial_fixpoint
def S4 (m : List (Str × A0)) (o1 : A0) (x2 : List Str) (o3_Of : List A0) (v36 : Int) : Option (A0 × Bool) :=
  if (decide (v36 < ((o1.Of).length : Int))) = true then
    idx o1.Of v36 >>= fun x3 =>
    E5 x3 m >>= fun x4 =>
    if (!x4.2) = true then
      some ((A0.mk 0 0 0 0 [] [] []), false)
    else
      if (decide ((o3_Of.length + 1) * 97 ≤ 140737488355328)) = true then
        S4 m o1 x2 (o3_Of ++ [x4.1]) (IntKind.i64.wrap (v36 + 1))
      else none
  else
    some ((A0.mk o1.Kind o1.Low o1.High o1.Size o1.Name x2 o3_Of), true)
  partial_fixpoint
end
abbrev Jz (t : A0) (m : List (Str × A0)) (res : A0 × Bool) : Prop := T0 C 211 [.mp 0, .agg (A0.cells t)] [.map (.s (A0.ents m))] (Ret [.map (.s (A0.ents m))] (.tup [.agg (A0.cells res.1), .d (.bool res.2)]))
abbrev Bv (m : List (Str × A0)) (o1 : A0) (res : A0 × Bool) : Prop := JM C 57 1 Tryz.f211 [1, 1] [(0, .mp 0), (3, .ref 1 0), (4, .ref 2 0)] [.map (.s (A0.ents m)), .row (A0.cells o1) 40, .row [.d (.int .i64 0), .d (.int .i64 0), .d (.int .i64 0), .d (.int .i64 0), .d (.str []), .full (estr.rows []), .full (A0.rows [])] 40] (Ret [.map (.s (A0.ents m))] (.tup [.agg (A0.cells res.1), .d (.bool res.2)]))
abbrev Cv (m : List (Str × A0)) (o1 : A0) (x2 : List Str) (o3_Of : List A0) (v36 : Int) (res : A0 × Bool) : Prop := LM C 57 1 Tryz.f211 [1, 1, 1, 1, 1, 0, 1, 4] [(0, .mp 0), (4, .ref 2 0), (8, .ref 3 0), (34, .d (.sl (A0.rows o1.Of))), (35, .d (.int .i64 ((o1.Of).length : Int))), (36, .d (.int .i64 v36))] [.map (.s (A0.ents m)), .dead, .row [.d (.int .i64 0), .d (.int .i64 0), .d (.int .i64 0), .d (.int .i64 0), .d (.str []), .full (estr.rows []), .full (A0.rows [])] 40, .row [.d (.int .i64 o1.Kind), .d (.int .i64 o1.Low), .d (.int .i64 o1.High), .d (.int .i64 o1.Size), .d (.str o1.Name), .d (.sl (estr.rows x2)), .osl 4 (A0.rows o3_Of)] 40, .tok 40 7] (Ret [.map (.s (A0.ents m))] (.tup [.agg (A0.cells res.1), .d (.bool res.2)]))
theorem Hp (m : List (Str × A0)) : (∀ t res, E5 t m = some res → Jz t m res) ∧ (∀ o1 res, O7 m o1 = some res → Bv m o1 res) ∧ (∀ o1 x2 o3_Of v36 res, S4 m o1 x2 o3_Of v36 = some res → Cv m o1 x2 o3_Of v36 res) := by
  refine E5.mutual_partial_correctness m _ _ _ ?_ ?_ ?_
  · intro g1 ih1 t res hh
    refine T0.intro hC Tryz.func211 rfl rfl rfl (s' rfl rfl (L0.n hC rfl (L0.nf hC rfl (e' rfl (S' (t' rfl (ci' rfl hh (fun hh => ?_) (fun hh => ?_))))))))
    · obtain ⟨x1, hx1, hh⟩ := bs' hh
      refine p' 3 rfl (L0.me hC rfl (A0.lkT hx1) (o' 3 rfl (L0.nf hC rfl (L0.s hC rfl (e' rfl (S' (t' rfl (ci' rfl hh (fun hh => ?_) (fun hh => ?_)))))))))
      · cases hh
        exact p' 1 rfl (L0.s hC rfl (e' rfl (re' (rt' rfl rfl rfl))))
      exact sk' (P' 1 rfl (L0.s hC rfl (n' (ew' (ih1 _ _ hh) rfl rfl rfl))))
    exact sk' (ew' (ih1 _ _ hh) rfl rfl rfl)
  · intro g2 ih2 o1 res hh
    obtain ⟨x2, hx2, hh⟩ := bs' hh
    refine p' 1 rfl (L0.nf hC rfl (L0.s hC rfl (n' (p' 2 rfl (c' (Iu hx2) rfl rfl (q' rfl (L0.s hC rfl (n' (p' 1 rfl (L0.s hC rfl (L0.tokC 3 6 40 7 rfl rfl rfl rfl rfl (n' (S' ?_)))))))))))))
    refine p' 2 rfl (qe' rfl trivial (A0.lenA _) (e' rfl (bk' ?_)))
    refine AEx.ofLoop ?_
    refine D2.wk ?_ (ih2 _ _ _ _ _ hh)
    exact ⟨⟨⟨.rfl, rfl⟩, ⟨⟨.rfl, rfl⟩, ⟨⟨.rfl, rfl⟩, ⟨⟨.rfl, rfl⟩, ⟨⟨.rfl, rfl⟩, ⟨⟨.rfl, rfl⟩, trivial⟩⟩⟩⟩⟩⟩, ⟨rfl, ⟨trivial, ⟨⟨rfl, .refl _, rfl⟩, ⟨⟨rfl, .refl _, rfl⟩, ⟨rfl, trivial⟩⟩⟩⟩⟩, rfl⟩
  · intro g0 g2 ih0 ih2 o1 x2 o3_Of v36 res hh
    refine D2.unroll (t' rfl (S' (ci' rfl hh (fun hh => ?_) (fun hh => ?_))))
    · obtain ⟨x3, hx3, hh⟩ := bs' hh
      obtain ⟨x4, hx4, hh⟩ := bs' hh
      refine sk' (S' (bk' (s' rfl rfl (i' rfl (C1 hx3) (A0.idx hx3) rfl (q' rfl (L0.nf hC rfl (L0.s hC rfl (n' (p' 2 rfl (g' [0] (ih0 _ _ hx4) rfl rfl rfl rfl rfl rfl (o' 3 rfl (L0.nf hC rfl (L0.s hC rfl ?_)))))))))))))
      refine e' rfl (S' (t' rfl (ci' rfl hh (fun hh => ?_) (fun hh => ?_))))
      · cases hh
        exact p' 1 rfl (L0.s hC rfl (e' rfl (re' (rt' rfl rfl rfl))))
      obtain ⟨c4, hh⟩ := Pd hh
      refine sk' (P' 3 rfl (L0.be hC rfl (A0.rows_map [x4.1]).symm (L0.ap hC rfl (rs := A0.rows (o3_Of ++ [x4.1])) (A0.app o3_Of [x4.1]) (A0.sz o3_Of) (A0.sz [x4.1]) (I12 (A0.len o3_Of) (A0.len [x4.1]) c4) (q' rfl (L0.s hC rfl (n' (T' rfl ?_)))))))
      refine D2.wk ?_ (ih2 _ _ _ _ _ hh)
      exact ⟨⟨⟨.rfl, rfl⟩, ⟨⟨.rfl, rfl⟩, ⟨⟨.rfl, rfl⟩, ⟨⟨.rfl, rfl⟩, ⟨⟨.rfl, rfl⟩, ⟨⟨.rfl, rfl⟩, trivial⟩⟩⟩⟩⟩⟩, ⟨rfl, ⟨trivial, ⟨⟨rfl, .refl _, rfl⟩, ⟨⟨rfl, .refl _, rfl⟩, ⟨rfl, trivial⟩⟩⟩⟩⟩, rfl⟩
    refine ex' (p' 1 rfl (L0.s hC rfl (e' rfl (re' ?_))))
    obtain rfl := oi' hh
    exact ⟨_, .tup [.agg [.d (.int .i64 o1.Kind), .d (.int .i64 o1.Low), .d (.int .i64 o1.High), .d (.int .i64 o1.Size), .d (.str o1.Name), .d (.sl (estr.rows x2)), .d (.sl (A0.rows o3_Of))], .d (.bool true)], [.map (.s (A0.ents m))], rfl, (.tupL ⟨(.aggL ⟨.rfl, ⟨.rfl, ⟨.rfl, ⟨.rfl, ⟨.rfl, ⟨.rfl, ⟨.osl, trivial⟩⟩⟩⟩⟩⟩⟩), ⟨.rfl, trivial⟩⟩), ⟨rfl, trivial⟩, rfl, rfl, rfl, rfl⟩
theorem Q17 {t m res} (hh : E5 t m = some res) : Jz t m res := (Hp m).1 _ _ hh
theorem Q1l {m o1 res} (hh : O7 m o1 = some res) : Bv m o1 res := (Hp m).2.1 _ _ hh
theorem R1l {m o1 x2 o3_Of v36 res} (hh : S4 m o1 x2 o3_Of v36 = some res) : Cv m o1 x2 o3_Of v36 res := (Hp m).2.2 _ _ _ _ _ hh
def F2 (s : List Str) (v : Str) (v8 : Int) : Option Int :=
  if (decide (v8 < ((s).length : Int))) = true then
    idx s v8 >>= fun x1 =>
    if (v == x1) = true then
      some v8
    else
      F2 s v (IntKind.i64.wrap (v8 + 1))
  else
    some (-1)
  partial_fixpoint
abbrev Vj (s : List Str) (v : Str) (v8 : Int) (res : Int) : Prop := LM C 19 0 Tryz.f232 [1, 0, 1, 4] [(0, .d (.sl (estr.rows s))), (1, .d (.str v)), (7, .d (.int .i64 ((s).length : Int))), (8, .d (.int .i64 v8))] [] (Ret [] (.d (.int .i64 res)))
theorem Zq (s : List Str) (v : Str) : (∀ v8 res, F2 s v v8 = some res → Vj s v v8 res) := by
  refine F2.partial_correctness s v _ ?_
  · intro g0 ih0 v8 res hh
    refine D2.unroll (t' rfl (S' (ci' rfl hh (fun hh => ?_) (fun hh => ?_))))
    · obtain ⟨x1, hx1, hh⟩ := bs' hh
      refine sk' (S' (bk' (t' rfl (p' 3 rfl (i' rfl (C1 hx1) (estr.idx hx1) rfl (e' rfl (ci' rfl hh (fun hh => ?_) (fun hh => ?_))))))))
      · cases hh
        exact t' rfl (re' (rt' rfl rfl rfl))
      exact sk' (T' rfl (lw' (ih0 _ _ hh) rfl rfl rfl))
    cases hh
    exact ex' (t' rfl (re' (rt' rfl rfl rfl)))
theorem Tr {s v v8 res} (hh : F2 s v v8 = some res) : Vj s v v8 res := (Zq s v) _ _ hh
def X7 (s : List Str) (v : Str) : Option Int :=
  F2 s v 0
theorem Lu {s v res} (hh : X7 s v = some res) : T0 C 232 [.d (.sl (estr.rows s)), .d (.str v)] [] (Ret [] (.d (.int .i64 res))) := by
  unfold X7 at hh
  exact T0.intro hC Tryz.func232 rfl rfl rfl (t' rfl (S' (p' 1 rfl (qe' rfl trivial (estr.lenA _) (e' rfl (bk' (fw' (Tr hh) rfl rfl rfl)))))))
def Y4 (s : List Str) (v : Str) : Option Bool :=
  X7 s v >>= fun x1 =>
  some (decide (x1 ≥ 0))
theorem Ur {s v res} (hh : Y4 s v = some res) : T0 C 226 [.d (.sl (estr.rows s)), .d (.str v)] [] (Ret [] (.d (.bool res))) := by
  unfold Y4 at hh
  obtain ⟨x1, hx1, hh⟩ := bs' hh
  cases hh
  exact T0.intro hC Tryz.func226 rfl rfl rfl (t' rfl (p' 2 rfl (c' (Lu hx1) rfl rfl (e' rfl (re' (rt' rfl rfl rfl))))))
mutual
def Mb (t : A0) : Option Bool :=
  Da t 0
  partial_fixpoint
def Da (t : A0) (v8 : Int) : Option Bool :=
  if (decide (v8 < ((t.Names).length : Int))) = true then
    idx t.Names v8 >>= fun x1 =>
    slc t.Names 0 v8 >>= fun x2 =>
    Y4 x2 x1 >>= fun x3 =>
    if x3 = true then
      some true
    else
      Da t (IntKind.i64.wrap (v8 + 1))
  else
    X1 t.Of >>= fun x4 =>
    some x4
  partial_fixpoint
def X1 (s : List A0) : Option Bool :=
  Q3 s >>= fun x1 =>
  some (decide (x1 ≥ 0))
  partial_fixpoint
def Q3 (s : List A0) : Option Int :=
  T1 s 0
  partial_fixpoint
def T1 (s : List A0) (v8 : Int) : Option Int :=
  if (decide (v8 < ((s).length : Int))) = true then
    idx s v8 >>= fun x1 =>
    Mb x1 >>= fun x2 =>
    if x2 = true then
      some v8
    else
      T1 s (IntKind.i64.wrap (v8 + 1))
  else
    some (-1)
  partial_fixpoint
end
abbrev M14 (t : A0) (res : Bool) : Prop := T0 C 212 [.agg (A0.cells t)] [] (Ret [] (.d (.bool res)))
abbrev Kz (t : A0) (v8 : Int) (res : Bool) : Prop := LM C 23 0 Tryz.f212 [1, 0, 1, 4] [(1, .ref 0 0), (6, .d (.sl (estr.rows t.Names))), (7, .d (.int .i64 ((t.Names).length : Int))), (8, .d (.int .i64 v8))] [.row (A0.cells t) 40] (Ret [] (.d (.bool res)))
abbrev Nf (s : List A0) (res : Bool) : Prop := T0 C 227 [.d (.sl (A0.rows s)), .clo 212 []] [] (Ret [] (.d (.bool res)))
abbrev Wg (s : List A0) (res : Int) : Prop := T0 C 233 [.d (.sl (A0.rows s)), .clo 212 []] [] (Ret [] (.d (.int .i64 res)))
abbrev Pf (s : List A0) (v8 : Int) (res : Int) : Prop := LM C 19 0 Tryz.f233 [1, 0, 1, 4] [(0, .d (.sl (A0.rows s))), (1, .clo 212 []), (7, .d (.int .i64 ((s).length : Int))), (8, .d (.int .i64 v8))] [] (Ret [] (.d (.int .i64 res)))
theorem Sk : (∀ t res, Mb t = some res → M14 t res) ∧ (∀ t v8 res, Da t v8 = some res → Kz t v8 res) ∧ (∀ s res, X1 s = some res → Nf s res) ∧ (∀ s res, Q3 s = some res → Wg s res) ∧ (∀ s v8 res, T1 s v8 = some res → Pf s v8 res) := by
  refine Mb.mutual_partial_correctness _ _ _ _ _ ?_ ?_ ?_ ?_ ?_
  · intro g1 ih1 t res hh
    exact T0.intro hC Tryz.func212 rfl rfl rfl (s' rfl rfl (L0.n hC rfl (e' rfl (S' (p' 2 rfl (qe' rfl trivial (estr.lenA _) (e' rfl (bk' (fw' (ih1 _ _ _ hh) rfl rfl rfl)))))))))
  · intro g1 g2 ih1 ih2 t v8 res hh
    refine D2.unroll (t' rfl (S' (ci' rfl hh (fun hh => ?_) (fun hh => ?_))))
    · obtain ⟨x1, hx1, hh⟩ := bs' hh
      obtain ⟨x2, hx2, hh⟩ := bs' hh
      obtain ⟨x3, hx3, hh⟩ := bs' hh
      refine sk' (S' (bk' (p' 1 rfl (i' rfl (C1 hx1) (estr.idx hx1) rfl (e' rfl (p' 3 rfl (L0.dx hC rfl (estr.part hx2) (estr.sz _) (q' rfl (c' (Ur hx3) rfl rfl (n' (ci' rfl hh (fun hh => ?_) (fun hh => ?_))))))))))))
      · cases hh
        exact t' rfl (re' (rt' rfl rfl rfl))
      exact sk' (T' rfl (lw' (ih1 _ _ _ hh) rfl rfl rfl))
    obtain ⟨x4, hx4, hh⟩ := bs' hh
    cases hh
    exact ex' (p' 2 rfl (c' (ih2 _ _ hx4) rfl rfl (e' rfl (re' (rt' rfl rfl rfl)))))
  · intro g3 ih3 s res hh
    obtain ⟨x1, hx1, hh⟩ := bs' hh
    cases hh
    exact T0.intro hC Tryz.func227 rfl rfl rfl (t' rfl (p' 2 rfl (c' (ih3 _ _ hx1) rfl rfl (e' rfl (re' (rt' rfl rfl rfl))))))
  · intro g4 ih4 s res hh
    exact T0.intro hC Tryz.func233 rfl rfl rfl (t' rfl (S' (p' 1 rfl (qe' rfl trivial (A0.lenA _) (e' rfl (bk' (fw' (ih4 _ _ _ hh) rfl rfl rfl)))))))
  · intro g0 g4 ih0 ih4 s v8 res hh
    refine D2.unroll (t' rfl (S' (ci' rfl hh (fun hh => ?_) (fun hh => ?_))))
    · obtain ⟨x1, hx1, hh⟩ := bs' hh
      obtain ⟨x2, hx2, hh⟩ := bs' hh
      refine sk' (S' (bk' (t' rfl (p' 3 rfl (i' rfl (C1 hx1) (A0.idx hx1) rfl (q' rfl (c' (ih0 _ _ hx2) rfl rfl (n' (ci' rfl hh (fun hh => ?_) (fun hh => ?_))))))))))
      · cases hh
        exact t' rfl (re' (rt' rfl rfl rfl))
      exact sk' (T' rfl (lw' (ih4 _ _ _ hh) rfl rfl rfl))
    cases hh
    exact ex' (t' rfl (re' (rt' rfl rfl rfl)))
theorem S12 {t res} (hh : Mb t = some res) : M14 t res := (Sk).1 _ _ hh
theorem A1p {t v8 res} (hh : Da t v8 = some res) : Kz t v8 res := (Sk).2.1 _ _ _ hh
theorem V13 {s res} (hh : X1 s = some res) : Nf s res := (Sk).2.2.1 _ _ hh
theorem I15 {s res} (hh : Q3 s = some res) : Wg s res := (Sk).2.2.2.1 _ _ hh
theorem W13 {s v8 res} (hh : T1 s v8 = some res) : Pf s v8 res := (Sk).2.2.2.2 _ _ _ hh
mutual
def Xc (t : A0) : Option Int :=
  Ea t 0 0
  partial_fixpoint
def Ea (t : A0) (d : Int) (v9 : Int) : Option Int :=
  if (decide (v9 < ((t.Of).length : Int))) = true then
    idx t.Of v9 >>= fun x1 =>
    Xc x1 >>= fun x2 =>
    Ea t (max d x2) (IntKind.i64.wrap (v9 + 1))
  else
    some (IntKind.i64.wrap (d + 1))
  partial_fixpoint
end
abbrev N14 (t : A0) (res : Int) : Prop := T0 C 213 [.agg (A0.cells t)] [] (Ret [] (.d (.int .i64 res)))
abbrev Lz (t : A0) (d : Int) (v9 : Int) (res : Int) : Prop := LM C 20 0 Tryz.f213 [1, 1, 0, 1, 4] [(3, .d (.int .i64 d)), (7, .d (.sl (A0.rows t.Of))), (8, .d (.int .i64 ((t.Of).length : Int))), (9, .d (.int .i64 v9))] [] (Ret [] (.d (.int .i64 res)))
theorem R10 : (∀ t res, Xc t = some res → N14 t res) ∧ (∀ t d v9 res, Ea t d v9 = some res → Lz t d v9 res) := by
  refine Xc.mutual_partial_correctness _ _ ?_ ?_
  · intro g1 ih1 t res hh
    exact T0.intro hC Tryz.func213 rfl rfl rfl (s' rfl rfl (L0.n hC rfl (e' rfl (t' rfl (S' (p' 2 rfl (qe' rfl trivial (A0.lenA _) (e' rfl (bk' (fw' (ih1 _ _ _ _ hh) rfl rfl rfl))))))))))
  · intro g0 g1 ih0 ih1 t d v9 res hh
    refine D2.unroll (t' rfl (S' (ci' rfl hh (fun hh => ?_) (fun hh => ?_))))
    · obtain ⟨x1, hx1, hh⟩ := bs' hh
      obtain ⟨x2, hx2, hh⟩ := bs' hh
      exact sk' (S' (bk' (s' rfl rfl (i' rfl (C1 hx1) (A0.idx hx1) rfl (q' rfl (L0.nf hC rfl (L0.s hC rfl (n' (P' 2 rfl (c' (ih0 _ _ hx2) rfl rfl (e' rfl (T' rfl (lw' (ih1 _ _ _ _ hh) rfl rfl rfl)))))))))))))
    cases hh
    exact ex' (t' rfl (re' (rt' rfl rfl rfl)))
theorem J1c {t res} (hh : Xc t = some res) : N14 t res := (R10).1 _ _ hh
theorem B1p {t d v9 res} (hh : Ea t d v9 = some res) : Lz t d v9 res := (R10).2 _ _ _ _ hh
mutual
def Fa (t : A0) : Option Int :=
  if (t.Kind == 2) = true then
    idx t.Of 0 >>= fun x1 =>
    Fa x1 >>= fun x3 =>
    some (min (IntKind.i64.wrap ((min t.Size 33) * x3)) 33)
  else
    if (t.Kind == 3) = true then
      Ga t 0 0
    else
      some (min 1 33)
  partial_fixpoint
def Ga (t : A0) (n : Int) (v24 : Int) : Option Int :=
  if (decide (v24 < ((t.Of).length : Int))) = true then
    idx t.Of v24 >>= fun x2 =>
    Fa x2 >>= fun x4 =>
    Ga t (IntKind.i64.wrap (n + x4)) (IntKind.i64.wrap (v24 + 1))
  else
    some (min n 33)
  partial_fixpoint
end
abbrev O14 (t : A0) (res : Int) : Prop := T0 C 214 [.agg (A0.cells t)] [] (Ret [] (.d (.int .i64 res)))
abbrev Mz (t : A0) (n : Int) (v24 : Int) (res : Int) : Prop := LM C 35 0 Tryz.f214 [1, 1, 0, 1, 4, 1, 3, 1, 2, 1, 4] [(3, .d (.int .i64 n)), (22, .d (.sl (A0.rows t.Of))), (23, .d (.int .i64 ((t.Of).length : Int))), (24, .d (.int .i64 v24))] [] (Ret [] (.d (.int .i64 res)))
theorem S10 : (∀ t res, Fa t = some res → O14 t res) ∧ (∀ t n v24 res, Ga t n v24 = some res → Mz t n v24 res) := by
  refine Fa.mutual_partial_correctness _ _ ?_ ?_
  · intro g0 g1 ih0 ih1 t res hh
    refine T0.intro hC Tryz.func214 rfl rfl rfl (s' rfl rfl (L0.n hC rfl (e' rfl (t' rfl (S' (t' rfl (bk' (t' rfl (ci' rfl hh (fun hh => ?_) (fun hh => ?_))))))))))
    · obtain ⟨x1, hx1, hh⟩ := bs' hh
      obtain ⟨x3, hx3, hh⟩ := bs' hh
      cases hh
      exact AEx.draw hC 10 rfl rfl rfl (O' 5 rfl (AQ.i hC rfl (C1 hx1) (A0.idx hx1) rfl (Q' rfl (Qc' (ih0 _ _ hx3) rfl rfl (E' rfl (n' (t' rfl (re' (rt' rfl rfl rfl)))))))))
    refine t' rfl (ci' rfl hh (fun hh => ?_) (fun hh => ?_))
    · exact p' 2 rfl (qe' rfl trivial (A0.lenA _) (e' rfl (bk' (fw' (ih1 _ _ _ _ hh) rfl rfl rfl))))
    cases hh
    exact T' rfl (t' rfl (re' (rt' rfl rfl rfl)))
  · intro g0 g1 ih0 ih1 t n v24 res hh
    refine D2.unroll (t' rfl (S' (ci' rfl hh (fun hh => ?_) (fun hh => ?_))))
    · obtain ⟨x2, hx2, hh⟩ := bs' hh
      obtain ⟨x4, hx4, hh⟩ := bs' hh
      exact sk' (S' (bk' (s' rfl rfl (i' rfl (C1 hx2) (A0.idx hx2) rfl (q' rfl (L0.nf hC rfl (L0.s hC rfl (n' (P' 2 rfl (c' (ih0 _ _ hx4) rfl rfl (e' rfl (T' rfl (lw' (ih1 _ _ _ _ hh) rfl rfl rfl)))))))))))))
    cases hh
    exact ex' (t' rfl (re' (rt' rfl rfl rfl)))
theorem T12 {t res} (hh : Fa t = some res) : O14 t res := (S10).1 _ _ hh
theorem C1p {t n v24 res} (hh : Ga t n v24 = some res) : Mz t n v24 res := (S10).2 _ _ _ _ hh
def Sd (t : A0) (m : List (Str × A0)) : Option (A0 × Int) :=
  Ra t >>= fun x1 =>
  if (x1 != 0) = true then
    some ((A0.mk 0 0 0 0 [] [] []), x1)
  else
    E5 t m >>= fun x2 =>
    if (!x2.2) = true then
      some ((A0.mk 0 0 0 0 [] [] []), 7)
    else
      Mb x2.1 >>= fun x3 =>
      if x3 = true then
        some ((A0.mk 0 0 0 0 [] [] []), 8)
      else
        Xc x2.1 >>= fun x4 =>
        (if (!(decide (x4 > 12))) = true then Fa x2.1 else some default) >>= fun x5 =>
        if (bif (decide (x4 > 12)) then true else (decide (x5 > 32))) = true then
          some ((A0.mk 0 0 0 0 [] [] []), 4)
        else
          some (x2.1, 0)
theorem Ay {t m res} (hh : Sd t m = some res) : T0 C 180 [.mp 0, .agg (A0.cells t)] [.map (.s (A0.ents m))] (Ret [.map (.s (A0.ents m))] (.tup [.agg (A0.cells res.1), .d (.int .i64 res.2)])) := by
  unfold Sd at hh
  obtain ⟨x1, hx1, hh⟩ := bs' hh
  refine T0.intro hC Tryz.func180 rfl rfl rfl (s' rfl rfl (L0.n hC rfl (L0.nf hC rfl (e' rfl (S' (p' 1 rfl (c' (Av hx1) rfl rfl (e' rfl (t' rfl (ci' rfl hh (fun hh => ?_) (fun hh => ?_)))))))))))
  · cases hh
    exact p' 2 rfl (L0.s hC rfl (e' rfl (re' (rt' rfl rfl rfl))))
  obtain ⟨x2, hx2, hh⟩ := bs' hh
  refine sk' (p' 2 rfl (g' [0] (Q17 hx2) rfl rfl rfl rfl rfl rfl (o' 3 rfl (L0.nf hC rfl (L0.s hC rfl (e' rfl (S' (t' rfl (ci' rfl hh (fun hh => ?_) (fun hh => ?_))))))))))
  · cases hh
    exact p' 1 rfl (L0.s hC rfl (e' rfl (re' (rt' rfl rfl rfl))))
  obtain ⟨x3, hx3, hh⟩ := bs' hh
  refine sk' (S' (p' 1 rfl (c' (S12 hx3) rfl rfl (n' (ci' rfl hh (fun hh => ?_) (fun hh => ?_))))))
  · cases hh
    exact p' 1 rfl (L0.s hC rfl (e' rfl (re' (rt' rfl rfl rfl))))
  obtain ⟨x4, hx4, hh⟩ := bs' hh
  obtain ⟨x5, hx5, hh⟩ := bs' hh
  refine sk' (S' (sg' 8 rfl (a0' rfl (AG.c rfl rfl (fun _ => trivial) (fun _ => J1c hx4) (G' 3 rfl (AG.c rfl rfl (fun hg => ⟨hg, trivial⟩) (fun hw => T12 (Jd hw hx5)) (a1' rfl (po' rfl (an' (n' (ci' rfl hh (fun hh => ?_) (fun hh => ?_))))))))))))
  · cases hh
    exact p' 1 rfl (L0.s hC rfl (e' rfl (re' (rt' rfl rfl rfl))))
  cases hh
  exact sk' (p' 1 rfl (L0.s hC rfl (e' rfl (re' (rt' rfl rfl rfl)))))
def W6 (decls : List E0) (t : A0) (m2 : List (Str × A0)) (v16 : Int) : Option (A0 × Int) :=
  if (decide (v16 < ((decls).length : Int))) = true then
    idx decls v16 >>= fun x1 =>
    if (x1.Kind != 0) = true then
      W6 decls t m2 (IntKind.i64.wrap (v16 + 1))
    else
      Mf x1.Name >>= fun x2 =>
      if (!x2) = true then
        some ((A0.mk 0 0 0 0 [] [] []), 7)
      else
        some (mgt x1.Name m2) >>= fun x3 =>
        if x3.isSome = true then
          some ((A0.mk 0 0 0 0 [] [] []), 8)
        else
          Sd x1.TypeV m2 >>= fun x4 =>
          if (x4.2 != 0) = true then
            some ((A0.mk 0 0 0 0 [] [] []), x4.2)
          else
            W6 decls t (mpt x1.Name x4.1 m2) (IntKind.i64.wrap (v16 + 1))
  else
    Sd t m2 >>= fun x5 =>
    some (x5.1, x5.2)
  partial_fixpoint
abbrev Cy (decls : List E0) (t : A0) (m2 : List (Str × A0)) (v16 : Int) (res : A0 × Int) : Prop := LM C 58 0 Tryz.f110 [1, 1, 0, 1, 4] [(3, .ref 0 0), (4, .ref 1 0), (6, .mp 2), (14, .d (.sl (E0.rows decls))), (15, .d (.int .i64 ((decls).length : Int))), (16, .d (.int .i64 v16))] [.row (A0.cells t) 40, .row [.d (.int .i64 0), .d (.int .i64 0), .d (.int .i64 0), .d (.int .i64 0), .d (.str []), .full (estr.rows []), .full (A0.rows [])] 40, .map (.s (A0.ents m2))] (Ret [] (.tup [.agg (A0.cells res.1), .d (.int .i64 res.2)]))
theorem Y14 (decls : List E0) (t : A0) : (∀ m2 v16 res, W6 decls t m2 v16 = some res → Cy decls t m2 v16 res) := by
  refine W6.partial_correctness decls t _ ?_
  · intro g0 ih0 m2 v16 res hh
    refine D2.unroll (t' rfl (S' (ci' rfl hh (fun hh => ?_) (fun hh => ?_))))
    · obtain ⟨x1, hx1, hh⟩ := bs' hh
      refine sk' (S' (bk' (s' rfl rfl (i' rfl (C1 hx1) (E0.idx hx1) rfl (q' rfl (L0.nf hC rfl (L0.s hC rfl (n' (S' (t' rfl (ci' rfl hh (fun hh => ?_) (fun hh => ?_))))))))))))
      · exact ex' (T' rfl (lw' (ih0 _ _ _ hh) rfl rfl rfl))
      obtain ⟨x2, hx2, hh⟩ := bs' hh
      refine sk' (S' (p' 2 rfl (c' (Hz hx2) rfl rfl (e' rfl (ci' rfl hh (fun hh => ?_) (fun hh => ?_))))))
      · cases hh
        exact p' 1 rfl (L0.s hC rfl (e' rfl (re' (rt' rfl rfl rfl))))
      obtain ⟨x3, hx3, hh⟩ := bs' hh
      refine sk' (S' (p' 3 rfl (L0.me hC rfl (A0.lkT hx3) (o' 3 rfl (L0.nf hC rfl (L0.s hC rfl (e' rfl (t' rfl (ci' rfl hh (fun hh => ?_) (fun hh => ?_))))))))))
      · cases hh
        exact p' 1 rfl (L0.s hC rfl (e' rfl (re' (rt' rfl rfl rfl))))
      obtain ⟨x4, hx4, hh⟩ := bs' hh
      refine sk' (p' 3 rfl (g' [2] (Ay hx4) rfl rfl rfl rfl rfl rfl (o' 3 rfl (L0.nf hC rfl (L0.s hC rfl (e' rfl (S' (t' rfl (ci' rfl hh (fun hh => ?_) (fun hh => ?_))))))))))
      · cases hh
        exact p' 2 rfl (L0.s hC rfl (e' rfl (re' (rt' rfl rfl rfl))))
      exact sk' (P' 4 rfl (L0.ue hC rfl (A0.mput _ x4.1 _) rfl (n' (T' rfl (lw' (ih0 _ _ _ hh) rfl rfl rfl)))))
    obtain ⟨x5, hx5, hh⟩ := bs' hh
    cases hh
    exact ex' (p' 2 rfl (g' [2] (Ay hx5) rfl rfl rfl rfl rfl rfl (o' 2 rfl (L0.s hC rfl (e' rfl (re' (rt' rfl rfl rfl)))))))
theorem F16 {decls t m2 v16 res} (hh : W6 decls t m2 v16 = some res) : Cy decls t m2 v16 res := (Y14 decls t) _ _ _ hh
end Go.Proofs.YtdkabnfphmmmnaaGreatDoor

set_option maxRecDepth 100000
set_option maxHeartbeats 4000000
set_option synthInstance.maxSize 2000
set_option linter.unusedVariables false
namespace Go.Proofs.YtdkabnfphmmmnaaGreatDoor
open Go.Am
def Dj (decls : List E0) (t : A0) : Option (A0 × Int) :=
  W6 decls t [] 0
theorem A1b {decls t res} (hh : Dj decls t = some res) : T0 C 110 [.d (.sl (E0.rows decls)), .agg (A0.cells t)] [] (Ret [] (.tup [.agg (A0.cells res.1), .d (.int .i64 res.2)])) := by
  unfold Dj at hh
  exact T0.intro hC Tryz.func110 rfl rfl rfl (s' rfl rfl (L0.n hC rfl (L0.nf hC rfl (e' rfl (s' rfl rfl (L0.w rfl (e' rfl (S' (p' 1 rfl (qe' rfl trivial (E0.lenA _) (e' rfl (bk' (fw' (F16 hh) rfl rfl rfl)))))))))))))
def P4 (c : D0) (t : A0) (before : Int) : Option (A0 × Int) :=
  slc c.p.Decls 0 before >>= fun x1 =>
  Dj x1 t >>= fun x2 =>
  some (x2.1, x2.2)
theorem Xg {c t before res} (hh : P4 c t before = some res) : T0 C 55 [.d (.box (D0.row c)), .agg (A0.cells t), .d (.int .i64 before)] [] (Ret [] (.tup [.agg (A0.cells res.1), .d (.int .i64 res.2)])) := by
  unfold P4 at hh
  obtain ⟨x1, hx1, hh⟩ := bs' hh
  obtain ⟨x2, hx2, hh⟩ := bs' hh
  cases hh
  refine T0.intro hC Tryz.func55 rfl rfl rfl (s' rfl rfl (L0.n hC rfl (L0.nf hC rfl (e' rfl (S' (AEx.draw hC 11 rfl rfl rfl (O' 6 rfl (AQ.dx hC rfl (E0.part hx1) (E0.sz _) (Q' rfl (Qc' (A1b hx2) rfl rfl (E' rfl (L0.s hC rfl (e' rfl ?_)))))))))))))
  exact re' (rt' rfl rfl rfl)
def D7 (t : A0) : Option Bool :=
  some (bif (t.Kind == 0) then true else (t.Kind == 1))
theorem Qj {t res} (hh : D7 t = some res) : T0 C 56 [.agg (A0.cells t)] [] (Ret [] (.d (.bool res))) := by
  unfold D7 at hh
  cases hh
  exact T0.intro hC Tryz.func56 rfl rfl rfl (s' rfl rfl (L0.n hC rfl (e' rfl (sg' 9 rfl (G' 5 rfl (a1' rfl (a1' rfl (po' rfl (a0' rfl (an' (n' (re' (rt' rfl rfl rfl)))))))))))))
def N4 (s : Option I0) : Option (List (Str × J0) × Option I0) :=
  some ([], s)
theorem Di {s res} (hh : N4 s = some res) : T0 C 60 [.d (.bxo (I0.opt s))] [] (Ret [.map (.s (J0.ents res.1)), .row [.d (.bxo (I0.opt res.2)), .mp 0] 110] (.ref 1 0)) := by
  unfold N4 at hh
  cases hh
  exact T0.intro hC Tryz.func60 rfl rfl rfl (t' rfl (p' 1 rfl (L0.w rfl (q' rfl (L0.n hC rfl (e' rfl (re' (rt' rfl rfl rfl))))))))
def S2 (c : D0) (t : A0) (before : Int) : Option A0 :=
  P4 c t before >>= fun x1 =>
  some x1.1
theorem M8 {c t before res} (hh : S2 c t before = some res) : T0 C 61 [.d (.box (D0.row c)), .agg (A0.cells t), .d (.int .i64 before)] [] (Ret [] (.agg (A0.cells res))) := by
  unfold S2 at hh
  obtain ⟨x1, hx1, hh⟩ := bs' hh
  cases hh
  refine T0.intro hC Tryz.func61 rfl rfl rfl (s' rfl rfl (L0.n hC rfl (L0.nf hC rfl (n' (p' 3 rfl (c' (Xg hx1) rfl rfl (o' 3 rfl (L0.nf hC rfl (L0.s hC rfl (e' rfl (p' 1 rfl (L0.s hC rfl (n' ?_)))))))))))))
  exact re' (rt' rfl rfl rfl)
def E2 (c : D0) (variables : Bool) (m0 : List (Str × J0)) (x1 : List (Str × J0) × Option I0) (x2 : List E0) (v22 : Int) : Option (Option I0) :=
  if (decide (v22 < ((x2).length : Int))) = true then
    idx x2 v22 >>= fun x3 =>
    if (bif (bif (bif (x3.Kind == 1) then true else (x3.Kind == 2)) then true else (x3.Kind == 3)) then true else (bif variables then (x3.Kind == 4) else false)) = true then
      S2 c x3.TypeV v22 >>= fun x4 =>
      E2 c variables (mpt x3.Name (J0.mk x4 (bif (bif (x3.Kind == 1) then true else (x3.Kind == 2)) then true else (x3.Kind == 3))) m0) x1 x2 (IntKind.i64.wrap (v22 + 1))
    else
      E2 c variables m0 x1 x2 (IntKind.i64.wrap (v22 + 1))
  else
    some (some (I0.mk x1.2 m0)) >>= fun x5 =>
    some x5
  partial_fixpoint
abbrev Kl (c : D0) (variables : Bool) (m0 : List (Str × J0)) (x1 : List (Str × J0) × Option I0) (x2 : List E0) (v22 : Int) (res : Option I0) : Prop := LM C 64 0 Tryz.f32 [1, 1, 1, 0, 1, 4] [(0, .d (.box (D0.row c))), (2, .d (.bool variables)), (8, .ref 1 0), (20, .d (.sl (E0.rows x2))), (21, .d (.int .i64 ((x2).length : Int))), (22, .d (.int .i64 v22))] [.map (.s (J0.ents m0)), .row [.d (.bxo (I0.opt x1.2)), .mp 0] 110] (Ret [] (.d (.bxo (I0.opt res))))
theorem Ns (c : D0) (variables : Bool) (x1 : List (Str × J0) × Option I0) (x2 : List E0) : (∀ m0 v22 res, E2 c variables m0 x1 x2 v22 = some res → Kl c variables m0 x1 x2 v22 res) := by
  refine E2.partial_correctness c variables x1 x2 _ ?_
  · intro g0 ih0 m0 v22 res hh
    refine D2.unroll (t' rfl (S' (ci' rfl hh (fun hh => ?_) (fun hh => ?_))))
    · obtain ⟨x3, hx3, hh⟩ := bs' hh
      refine sk' (S' (bk' (p' 1 rfl (i' rfl (C1 hx3) (E0.idx hx3) rfl (q' rfl (L0.nf hC rfl (q' rfl (L0.s hC rfl (n' (sg' 14 rfl (G' 5 rfl (a1' rfl (a1' rfl ?_)))))))))))))
      refine po' rfl (G' 2 rfl (a1' rfl (a1' rfl (po' rfl (a0' rfl (an' (n' (sg' 9 rfl (G' 3 rfl (a1' rfl (a0' rfl (a1' rfl (a1' rfl ?_)))))))))))))
      refine pA' rfl (po' rfl (an' (n' (ci' rfl hh (fun hh => ?_) (fun hh => ?_)))))
      · obtain ⟨x4, hx4, hh⟩ := bs' hh
        exact AEx.draw hC 13 rfl rfl rfl (O' 10 rfl (Qc' (M8 hx4) rfl rfl (E' rfl (L0.ue hC rfl (J0.mput _ (J0.mk x4 (bif (bif (x3.Kind == 1) then true else (x3.Kind == 2)) then true else (x3.Kind == 3))) _) rfl (n' (T' rfl (lw' (ih0 _ _ _ hh) rfl rfl rfl)))))))
      exact sk' (T' rfl (lw' (ih0 _ _ _ hh) rfl rfl rfl))
    obtain ⟨x5, hx5, hh⟩ := bs' hh
    refine ex' (p' 2 rfl (L0.fm 0 rfl rfl (L0.bx 1 (y := .bxo (I0.opt x5)) (by cases hx5; exact .inr rfl) rfl rfl rfl (n' ?_))))
    cases hh
    exact re' (rt' rfl rfl rfl)
theorem Gt {c variables m0 x1 x2 v22 res} (hh : E2 c variables m0 x1 x2 v22 = some res) : Kl c variables m0 x1 x2 v22 res := (Ns c variables x1 x2) _ _ _ hh
def Q4 (c : D0) (before : Int) (variables : Bool) : Option (Option I0) :=
  N4 none >>= fun x1 =>
  slc c.p.Decls 0 before >>= fun x2 =>
  E2 c variables x1.1 x1 x2 0
theorem V0 {c before variables res} (hh : Q4 c before variables = some res) : T0 C 32 [.d (.box (D0.row c)), .d (.int .i64 before), .d (.bool variables)] [] (Ret [] (.d (.bxo (I0.opt res)))) := by
  unfold Q4 at hh
  obtain ⟨x1, hx1, hh⟩ := bs' hh
  obtain ⟨x2, hx2, hh⟩ := bs' hh
  exact T0.intro hC Tryz.func32 rfl rfl rfl (t' rfl (t' rfl (p' 1 rfl (L0.g [] rfl (Di hx1) ⟨.nbx, trivial⟩ rfl trivial rfl rfl (e' rfl (S' (p' 6 rfl (L0.dx hC rfl (E0.part hx2) (E0.sz _) (qe' rfl trivial (E0.lenA _) (e' rfl (bk' (fw' (Gt hh) rfl rfl rfl))))))))))))
def W2 (low : Int) (high : Int) : Option A0 :=
  some (A0.mk 1 low high 0 [] [] [])
theorem I4 {low high res} (hh : W2 low high = some res) : T0 C 86 [.d (.int .i64 low), .d (.int .i64 high)] [] (Ret [] (.agg (A0.cells res))) := by
  unfold W2 at hh
  cases hh
  exact T0.intro hC Tryz.func86 rfl rfl rfl (s' rfl rfl (L0.nf hC rfl (n' (p' 3 rfl (L0.s hC rfl (n' (re' (rt' rfl rfl rfl))))))))
def X8 (t : A0) : Option (A0 × Int) :=
  if (bif (t.Kind == 1) then (bif (decide (t.Low < (-1048576))) then true else (decide (t.High > 1048576))) else false) = true then
    some ((A0.mk 0 0 0 0 [] [] []), 3)
  else
    some (t, 0)
theorem Kq {t res} (hh : X8 t = some res) : T0 C 85 [.agg (A0.cells t)] [] (Ret [] (.tup [.agg (A0.cells res.1), .d (.int .i64 res.2)])) := by
  unfold X8 at hh
  refine T0.intro hC Tryz.func85 rfl rfl rfl (s' rfl rfl (L0.n hC rfl (L0.nf hC rfl (e' rfl (S' (sg' 13 rfl (G' 5 rfl (a1' rfl (a1' rfl (a1' rfl (a0' rfl (a1' rfl (a1' rfl ?_)))))))))))))
  refine pO' rfl (pa' rfl (an' (n' (ci' rfl hh (fun hh => ?_) (fun hh => ?_)))))
  · cases hh
    exact p' 1 rfl (L0.s hC rfl (e' rfl (re' (rt' rfl rfl rfl))))
  cases hh
  exact sk' (p' 1 rfl (L0.s hC rfl (e' rfl (re' (rt' rfl rfl rfl)))))
def Y2 (name : Str) (s1 : Option I0) : Option (J0 × Bool) :=
  if (!s1.isNone) = true then
    s1 >>= fun x1 =>
    some (mgt name x1.vars) >>= fun x2 =>
    if x2.isSome = true then
      some ((x2.getD J0.zero), true)
    else
      s1 >>= fun x3 =>
      Y2 name x3.around
  else
    some ((J0.mk (A0.mk 0 0 0 0 [] [] []) false), false)
  partial_fixpoint
abbrev Qm (name : Str) (s1 : Option I0) (res : J0 × Bool) : Prop := LM C 26 0 Tryz.f87 [1, 0, 4] [(0, .d (.bxo (I0.opt s1))), (1, .d (.str name)), (4, .ref 0 0)] [.row [.d (.int .i64 0), .d (.int .i64 0), .d (.int .i64 0), .d (.int .i64 0), .d (.str []), .full (estr.rows []), .full (A0.rows []), .d (.bool false)] 107] (Ret [] (.tup [.agg (J0.cells res.1), .d (.bool res.2)]))
theorem Mu (name : Str) : (∀ s1 res, Y2 name s1 = some res → Qm name s1 res) := by
  refine Y2.partial_correctness name _ ?_
  · intro g0 ih0 s1 res hh
    refine D2.unroll (S' (p' 1 rfl (L0.nq hC rfl (I0.opt_nilB s1) (n' (ci' rfl hh (fun hh => ?_) (fun hh => ?_))))))
    · obtain ⟨x1, hx1, hh⟩ := bs' hh
      obtain ⟨x2, hx2, hh⟩ := bs' hh
      refine sk' (S' (bk' (p' 1 rfl (L0.nk hC rfl (I0.opt_some hx1) (o' 3 rfl (L0.fl hC rfl rfl (J0.lkT hx2) (o' 3 rfl (L0.nf hC rfl (L0.s hC rfl (e' rfl (t' rfl (ci' rfl hh (fun hh => ?_) (fun hh => ?_)))))))))))))
      · cases hh
        exact p' 1 rfl (L0.s hC rfl (e' rfl (re' (rt' rfl rfl rfl))))
      obtain ⟨x3, hx3, hh⟩ := bs' hh
      exact sk' (P' 1 rfl (L0.nk hC rfl (I0.opt_some hx3) (e' rfl (lw' (ih0 _ _ hh) rfl rfl rfl))))
    cases hh
    exact ex' (p' 1 rfl (L0.s hC rfl (e' rfl (re' (rt' rfl rfl rfl)))))
theorem Qv {name s1 res} (hh : Y2 name s1 = some res) : Qm name s1 res := (Mu name) _ _ hh
def M5 (s : Option I0) (name : Str) : Option (J0 × Bool) :=
  Y2 name s
theorem Ei {s name res} (hh : M5 s name = some res) : T0 C 87 [.d (.bxo (I0.opt s)), .d (.str name)] [] (Ret [] (.tup [.agg (J0.cells res.1), .d (.bool res.2)])) := by
  unfold M5 at hh
  exact T0.intro hC Tryz.func87 rfl rfl rfl (s' rfl rfl (L0.nf hC rfl (e' rfl (S' (bk' (fw' (Qv hh) rfl rfl rfl))))))
def A4 (t : A0) (name : Str) (v15 : Int) : Option (A0 × Int) :=
  if (decide (v15 < ((t.Names).length : Int))) = true then
    idx t.Names v15 >>= fun x1 =>
    if (x1 == name) = true then
      idx t.Of v15 >>= fun x2 =>
      some (x2, 0)
    else
      A4 t name (IntKind.i64.wrap (v15 + 1))
  else
    some ((A0.mk 0 0 0 0 [] [] []), 7)
  partial_fixpoint
abbrev Ip (t : A0) (name : Str) (v15 : Int) (res : A0 × Int) : Prop := LM C 30 0 Tryz.f88 [1, 1, 0, 1, 4] [(1, .d (.str name)), (2, .ref 0 0), (4, .ref 1 0), (13, .d (.sl (estr.rows t.Names))), (14, .d (.int .i64 ((t.Names).length : Int))), (15, .d (.int .i64 v15))] [.row (A0.cells t) 40, .row [.d (.int .i64 0), .d (.int .i64 0), .d (.int .i64 0), .d (.int .i64 0), .d (.str []), .full (estr.rows []), .full (A0.rows [])] 40] (Ret [] (.tup [.agg (A0.cells res.1), .d (.int .i64 res.2)]))
theorem Rx (t : A0) (name : Str) : (∀ v15 res, A4 t name v15 = some res → Ip t name v15 res) := by
  refine A4.partial_correctness t name _ ?_
  · intro g0 ih0 v15 res hh
    refine D2.unroll (t' rfl (S' (ci' rfl hh (fun hh => ?_) (fun hh => ?_))))
    · obtain ⟨x1, hx1, hh⟩ := bs' hh
      refine sk' (S' (bk' (p' 1 rfl (i' rfl (C1 hx1) (estr.idx hx1) rfl (e' rfl (t' rfl (ci' rfl hh (fun hh => ?_) (fun hh => ?_))))))))
      · obtain ⟨x2, hx2, hh⟩ := bs' hh
        cases hh
        exact p' 3 rfl (i' rfl (C1 hx2) (A0.idx hx2) rfl (q' rfl (L0.s hC rfl (e' rfl (re' (rt' rfl rfl rfl))))))
      exact sk' (T' rfl (lw' (ih0 _ _ hh) rfl rfl rfl))
    cases hh
    exact ex' (p' 1 rfl (L0.s hC rfl (e' rfl (re' (rt' rfl rfl rfl)))))
theorem My {t name v15 res} (hh : A4 t name v15 = some res) : Ip t name v15 res := (Rx t name) _ _ hh
def J7 (t : A0) (name : Str) : Option (A0 × Int) :=
  if (t.Kind != 3) = true then
    some ((A0.mk 0 0 0 0 [] [] []), 9)
  else
    A4 t name 0
theorem E11 {t name res} (hh : J7 t name = some res) : T0 C 88 [.agg (A0.cells t), .d (.str name)] [] (Ret [] (.tup [.agg (A0.cells res.1), .d (.int .i64 res.2)])) := by
  unfold J7 at hh
  refine T0.intro hC Tryz.func88 rfl rfl rfl (s' rfl rfl (L0.n hC rfl (L0.nf hC rfl (e' rfl (S' (t' rfl (ci' rfl hh (fun hh => ?_) (fun hh => ?_))))))))
  · cases hh
    exact p' 1 rfl (L0.s hC rfl (e' rfl (re' (rt' rfl rfl rfl))))
  exact sk' (S' (p' 2 rfl (qe' rfl trivial (estr.lenA _) (e' rfl (bk' (fw' (My hh) rfl rfl rfl))))))
def F3 (k : Int) (l : List A0) (v9 : Int) : Option Bool :=
  if (decide (v9 < ((l).length : Int))) = true then
    idx l v9 >>= fun x1 =>
    if (x1.Kind != k) = true then
      some false
    else
      F3 k l (IntKind.i64.wrap (v9 + 1))
  else
    some true
  partial_fixpoint
abbrev Kn (k : Int) (l : List A0) (v9 : Int) (res : Bool) : Prop := LM C 18 0 Tryz.f155 [1, 0, 1, 4] [(0, .d (.int .i64 k)), (7, .d (.sl (A0.rows l))), (8, .d (.int .i64 ((l).length : Int))), (9, .d (.int .i64 v9))] [] (Ret [] (.d (.bool res)))
theorem Rv (k : Int) (l : List A0) : (∀ v9 res, F3 k l v9 = some res → Kn k l v9 res) := by
  refine F3.partial_correctness k l _ ?_
  · intro g0 ih0 v9 res hh
    refine D2.unroll (t' rfl (S' (ci' rfl hh (fun hh => ?_) (fun hh => ?_))))
    · obtain ⟨x1, hx1, hh⟩ := bs' hh
      refine sk' (S' (bk' (s' rfl rfl (i' rfl (C1 hx1) (A0.idx hx1) rfl (q' rfl (L0.nf hC rfl (L0.s hC rfl (n' (t' rfl (ci' rfl hh (fun hh => ?_) (fun hh => ?_)))))))))))
      · cases hh
        exact t' rfl (re' (rt' rfl rfl rfl))
      exact sk' (T' rfl (lw' (ih0 _ _ hh) rfl rfl rfl))
    cases hh
    exact ex' (t' rfl (re' (rt' rfl rfl rfl)))
theorem Xw {k l v9 res} (hh : F3 k l v9 = some res) : Kn k l v9 res := (Rv k l) _ _ hh
def V5 (k : Int) (l : List A0) : Option Bool :=
  F3 k l 0
theorem Je {k l res} (hh : V5 k l = some res) : T0 C 155 [.d (.int .i64 k), .d (.sl (A0.rows l))] [] (Ret [] (.d (.bool res))) := by
  unfold V5 at hh
  exact T0.intro hC Tryz.func155 rfl rfl rfl (t' rfl (S' (p' 1 rfl (qe' rfl trivial (A0.lenA _) (e' rfl (bk' (fw' (Xw hh) rfl rfl rfl)))))))
def Pc (t : A0) : Option Int :=
  some (max t.High (IntKind.i64.wrap (0 - t.Low)))
theorem F11 {t res} (hh : Pc t = some res) : T0 C 200 [.agg (A0.cells t)] [] (Ret [] (.d (.int .i64 res))) := by
  unfold Pc at hh
  cases hh
  exact T0.intro hC Tryz.func200 rfl rfl rfl (s' rfl rfl (L0.n hC rfl (e' rfl (t' rfl (re' (rt' rfl rfl rfl))))))
def V7 (low : Int) (high : Int) : Option A0 :=
  W2 low high >>= fun x7 =>
  some x7
theorem Ln {low high res} (hh : V7 low high = some res) : JM C 135 0 Tryz.f156 [1, 0, 1, 4, 1, 3, 1, 3, 1, 3, 1, 3, 1, 2, 1, 1, 1] [(6, .ref 2 0), (12, .d (.int .i64 low)), (13, .d (.int .i64 high))] [.dead, .dead, .row [.d (.int .i64 0), .d (.int .i64 0), .d (.int .i64 0), .d (.int .i64 0), .d (.str []), .full (estr.rows []), .full (A0.rows [])] 40] (Ret [] (.agg (A0.cells res))) := by
  unfold V7 at hh
  obtain ⟨x7, hx7, hh⟩ := bs' hh
  cases hh
  exact p' 2 rfl (c' (I4 hx7) rfl rfl (L0.s hC rfl (n' (re' (rt' rfl rfl rfl)))))
def W7 (b : A0) (low : Int) : Option A0 :=
  if (decide (b.High > 0)) = true then
    V7 low (max (IntKind.i64.wrap (b.High - 1)) 0)
  else
    V7 low 0
theorem Mn {b low res} (hh : W7 b low = some res) : JM C 135 0 Tryz.f156 [1, 0, 1, 4, 1, 3, 1, 3, 1, 3, 1, 3, 1, 2, 1, 1] [(5, .ref 1 0), (6, .ref 2 0), (12, .d (.int .i64 low)), (13, .d (.int .i64 0))] [.dead, .row (A0.cells b) 40, .row [.d (.int .i64 0), .d (.int .i64 0), .d (.int .i64 0), .d (.int .i64 0), .d (.str []), .full (estr.rows []), .full (A0.rows [])] 40] (Ret [] (.agg (A0.cells res))) := by
  unfold W7 at hh
  refine S' (t' rfl (ci' rfl hh (fun hh => ?_) (fun hh => ?_)))
  · refine T' rfl ?_
    refine AEx.wk ?_ (Ln hh)
    exact ⟨⟨⟨.rfl, rfl⟩, ⟨⟨.rfl, rfl⟩, ⟨⟨.rfl, rfl⟩, trivial⟩⟩⟩, ⟨trivial, ⟨trivial, ⟨⟨rfl, .refl _, rfl⟩, trivial⟩⟩⟩, rfl⟩
  refine sk' ?_
  refine AEx.wk ?_ (Ln hh)
  exact ⟨⟨⟨.rfl, rfl⟩, ⟨⟨.rfl, rfl⟩, ⟨⟨.rfl, rfl⟩, trivial⟩⟩⟩, ⟨trivial, ⟨trivial, ⟨⟨rfl, .refl _, rfl⟩, trivial⟩⟩⟩, rfl⟩
def D8 (op : Int) (a : A0) (b : A0) : Option A0 :=
  if (op == 8) = true then
    W2 (IntKind.i64.wrap (a.Low + b.Low)) (IntKind.i64.wrap (a.High + b.High)) >>= fun x1 =>
    some x1
  else
    if (op == 9) = true then
      W2 (IntKind.i64.wrap (a.Low - b.High)) (IntKind.i64.wrap (a.High - b.Low)) >>= fun x2 =>
      some x2
    else
      if (op == 10) = true then
        W2 (min (min (min (IntKind.i64.wrap (a.Low * b.Low)) (IntKind.i64.wrap (a.Low * b.High))) (IntKind.i64.wrap (a.High * b.Low))) (IntKind.i64.wrap (a.High * b.High))) (max (max (max (IntKind.i64.wrap (a.Low * b.Low)) (IntKind.i64.wrap (a.Low * b.High))) (IntKind.i64.wrap (a.High * b.Low))) (IntKind.i64.wrap (a.High * b.High))) >>= fun x3 =>
        some x3
      else
        if (op == 11) = true then
          Pc a >>= fun x4 =>
          if (bif (decide (a.Low ≥ 0)) then (decide (b.Low ≥ 0)) else false) = true then
            W2 0 x4 >>= fun x5 =>
            some x5
          else
            W2 (IntKind.i64.wrap (0 - x4)) x4 >>= fun x6 =>
            some x6
        else
          if (op == 12) = true then
            if (decide (b.Low < 0)) = true then
              W7 b (min (IntKind.i64.wrap (b.Low + 1)) 0)
            else
              W7 b 0
          else
            if (op == 21) = true then
              W2 (min a.Low b.Low) (min a.High b.High) >>= fun x8 =>
              some x8
            else
              W2 (max a.Low b.Low) (max a.High b.High) >>= fun x9 =>
              some x9
theorem Zz {op a b res} (hh : D8 op a b = some res) : T0 C 156 [.d (.int .i64 op), .agg (A0.cells a), .agg (A0.cells b)] [] (Ret [] (.agg (A0.cells res))) := by
  unfold D8 at hh
  refine T0.intro hC Tryz.func156 rfl rfl rfl (s' rfl rfl (L0.n hC rfl (L0.n hC rfl (L0.nf hC rfl (n' (S' (t' rfl (bk' (t' rfl (ci' rfl hh (fun hh => ?_) (fun hh => ?_)))))))))))
  · obtain ⟨x1, hx1, hh⟩ := bs' hh
    cases hh
    exact p' 10 rfl (c' (I4 hx1) rfl rfl (L0.s hC rfl (n' (re' (rt' rfl rfl rfl)))))
  refine t' rfl (ci' rfl hh (fun hh => ?_) (fun hh => ?_))
  · obtain ⟨x2, hx2, hh⟩ := bs' hh
    cases hh
    exact p' 10 rfl (c' (I4 hx2) rfl rfl (L0.s hC rfl (n' (re' (rt' rfl rfl rfl)))))
  refine t' rfl (ci' rfl hh (fun hh => ?_) (fun hh => ?_))
  · obtain ⟨x3, hx3, hh⟩ := bs' hh
    cases hh
    exact S' (AEx.draw hC 24 rfl rfl rfl (E' rfl (n' (p' 10 rfl (c' (I4 hx3) rfl rfl (L0.s hC rfl (n' (re' (rt' rfl rfl rfl)))))))))
  refine t' rfl (ci' rfl hh (fun hh => ?_) (fun hh => ?_))
  · obtain ⟨x4, hx4, hh⟩ := bs' hh
    refine p' 1 rfl (c' (F11 hx4) rfl rfl (e' rfl (S' (sg' 8 rfl (G' 5 rfl (a1' rfl (a1' rfl (pa' rfl (an' (n' (ci' rfl hh (fun hh => ?_) (fun hh => ?_))))))))))))
    · obtain ⟨x5, hx5, hh⟩ := bs' hh
      cases hh
      exact p' 1 rfl (c' (I4 hx5) rfl rfl (L0.s hC rfl (n' (re' (rt' rfl rfl rfl)))))
    obtain ⟨x6, hx6, hh⟩ := bs' hh
    cases hh
    exact sk' (p' 3 rfl (c' (I4 hx6) rfl rfl (L0.s hC rfl (n' (re' (rt' rfl rfl rfl))))))
  refine t' rfl (ci' rfl hh (fun hh => ?_) (fun hh => ?_))
  · refine t' rfl (S' (t' rfl (ci' rfl hh (fun hh => ?_) (fun hh => ?_))))
    · refine T' rfl ?_
      refine AEx.wk ?_ (Mn hh)
      exact ⟨⟨⟨.rfl, rfl⟩, ⟨⟨.rfl, rfl⟩, ⟨⟨.rfl, rfl⟩, ⟨⟨.rfl, rfl⟩, trivial⟩⟩⟩⟩, ⟨trivial, ⟨⟨rfl, .refl _, rfl⟩, ⟨⟨rfl, .refl _, rfl⟩, trivial⟩⟩⟩, rfl⟩
    refine sk' ?_
    refine AEx.wk ?_ (Mn hh)
    exact ⟨⟨⟨.rfl, rfl⟩, ⟨⟨.rfl, rfl⟩, ⟨⟨.rfl, rfl⟩, ⟨⟨.rfl, rfl⟩, trivial⟩⟩⟩⟩, ⟨trivial, ⟨⟨rfl, .refl _, rfl⟩, ⟨⟨rfl, .refl _, rfl⟩, trivial⟩⟩⟩, rfl⟩
  refine t' rfl (ci' rfl hh (fun hh => ?_) (fun hh => ?_))
  · obtain ⟨x8, hx8, hh⟩ := bs' hh
    cases hh
    exact p' 10 rfl (c' (I4 hx8) rfl rfl (L0.s hC rfl (n' (re' (rt' rfl rfl rfl)))))
  obtain ⟨x9, hx9, hh⟩ := bs' hh
  cases hh
  exact sk' (p' 10 rfl (c' (I4 hx9) rfl rfl (L0.s hC rfl (n' (re' (rt' rfl rfl rfl))))))
def R6 (op : Int) (kids : List A0) (x1 : Bool) (v60 : Bool) : Option (A0 × Int) :=
  if v60 = true then
    if x1 = true then
      some ((A0.mk 0 0 0 0 [] [] []), 0)
    else
      some ((A0.mk 0 0 0 0 [] [] []), 9)
  else
    if (op == 23) = true then
      slc kids 1 ((kids).length : Int) >>= fun x7 =>
      idx kids 0 >>= fun x8 =>
      if (x8.Kind != 0) = true then
        some ((A0.mk 0 0 0 0 [] [] []), 9)
      else
        V5 1 x7 >>= fun x9 =>
        if x9 = true then
          idx x7 0 >>= fun x10 =>
          idx x7 1 >>= fun x11 =>
          idx x7 0 >>= fun x12 =>
          idx x7 1 >>= fun x13 =>
          W2 (min x10.Low x11.Low) (max x12.High x13.High) >>= fun x14 =>
          some (x14, 0)
        else
          V5 0 x7 >>= fun x15 =>
          if x15 = true then
            some ((A0.mk 0 0 0 0 [] [] []), 0)
          else
            some ((A0.mk 0 0 0 0 [] [] []), 9)
    else
      if x1 = true then
        idx kids 0 >>= fun x16 =>
        idx kids 1 >>= fun x17 =>
        D8 op x16 x17 >>= fun x18 =>
        X8 x18 >>= fun x19 =>
        some (x19.1, x19.2)
      else
        some ((A0.mk 0 0 0 0 [] [] []), 9)
theorem Xd {op kids x1 v60 res} (hh : R6 op kids x1 v60 = some res) : JM C 103 0 Tryz.f89 [1, 1, 1, 0, 1, 4, 1, 3, 1, 3, 1, 3, 1] [(0, .d (.int .i64 op)), (1, .d (.sl (A0.rows kids))), (4, .ref 0 0), (6, .clo 155 []), (7, .d (.bool x1)), (16, .d (.int .i64 op)), (60, .d (.bool v60))] [.row [.d (.int .i64 0), .d (.int .i64 0), .d (.int .i64 0), .d (.int .i64 0), .d (.str []), .full (estr.rows []), .full (A0.rows [])] 40] (Ret [] (.tup [.agg (A0.cells res.1), .d (.int .i64 res.2)])) := by
  unfold R6 at hh
  refine ci' rfl hh (fun hh => ?_) (fun hh => ?_)
  · refine t' rfl (ci' rfl hh (fun hh => ?_) (fun hh => ?_))
    · cases hh
      exact p' 1 rfl (L0.s hC rfl (e' rfl (re' (rt' rfl rfl rfl))))
    cases hh
    exact sk' (p' 1 rfl (L0.s hC rfl (e' rfl (re' (rt' rfl rfl rfl)))))
  refine t' rfl (ci' rfl hh (fun hh => ?_) (fun hh => ?_))
  · obtain ⟨x7, hx7, hh⟩ := bs' hh
    obtain ⟨x8, hx8, hh⟩ := bs' hh
    refine p' 1 rfl (L0.dx hC rfl (A0.part (by rw [A0.len]; exact hx7)) (A0.sz _) (e' rfl (S' (p' 1 rfl (i' rfl (C1 hx8) (A0.idx hx8) rfl (e' rfl (ci' rfl hh (fun hh => ?_) (fun hh => ?_))))))))
    · cases hh
      exact ex' (p' 1 rfl (L0.s hC rfl (e' rfl (re' (rt' rfl rfl rfl)))))
    obtain ⟨x9, hx9, hh⟩ := bs' hh
    refine sk' (S' (p' 2 rfl (c' (Je hx9) rfl rfl (n' (ci' rfl hh (fun hh => ?_) (fun hh => ?_))))))
    · obtain ⟨x10, hx10, hh⟩ := bs' hh
      obtain ⟨x11, hx11, hh⟩ := bs' hh
      obtain ⟨x12, hx12, hh⟩ := bs' hh
      obtain ⟨x13, hx13, hh⟩ := bs' hh
      obtain ⟨x14, hx14, hh⟩ := bs' hh
      cases hh
      refine S' (AEx.draw hC 19 rfl rfl rfl (Q' rfl (AQ.i hC rfl (C1 hx10) (A0.idx hx10) rfl (O' 3 rfl (AQ.i hC rfl (C1 hx11) (A0.idx hx11) rfl (O' 4 rfl (AQ.i hC rfl (C1 hx12) (A0.idx hx12) rfl (O' 3 rfl (AQ.i hC rfl (C1 hx13) (A0.idx hx13) rfl (O' 3 rfl (Qc' (I4 hx14) rfl rfl (Qn' (L0.s hC rfl ?_)))))))))))))
      exact e' rfl (re' (rt' rfl rfl rfl))
    obtain ⟨x15, hx15, hh⟩ := bs' hh
    refine sk' (p' 2 rfl (c' (Je hx15) rfl rfl (n' (ci' rfl hh (fun hh => ?_) (fun hh => ?_)))))
    · cases hh
      exact p' 1 rfl (L0.s hC rfl (e' rfl (re' (rt' rfl rfl rfl))))
    cases hh
    exact sk' (p' 1 rfl (L0.s hC rfl (e' rfl (re' (rt' rfl rfl rfl)))))
  refine t' rfl (ci' rfl hh (fun hh => ?_) (fun hh => ?_))
  · obtain ⟨x16, hx16, hh⟩ := bs' hh
    obtain ⟨x17, hx17, hh⟩ := bs' hh
    obtain ⟨x18, hx18, hh⟩ := bs' hh
    obtain ⟨x19, hx19, hh⟩ := bs' hh
    cases hh
    exact S' (AEx.draw hC 11 rfl rfl rfl (O' 2 rfl (AQ.i hC rfl (C1 hx16) (A0.idx hx16) rfl (O' 2 rfl (AQ.i hC rfl (C1 hx17) (A0.idx hx17) rfl (Q' rfl (Qc' (Zz hx18) rfl rfl (Qc' (Kq hx19) rfl rfl (E' rfl (L0.s hC rfl (e' rfl (re' (rt' rfl rfl rfl)))))))))))))
  cases hh
  exact sk' (p' 1 rfl (L0.s hC rfl (e' rfl (re' (rt' rfl rfl rfl)))))
def Ha (op : Int) (kids : List A0) (x1 : Bool) (x2 : Bool) (v52 : Bool) : Option (A0 × Int) :=
  if v52 = true then
    if (bif x1 then true else x2) = true then
      some ((A0.mk 0 0 0 0 [] [] []), 0)
    else
      some ((A0.mk 0 0 0 0 [] [] []), 9)
  else
    if (op == 15) = true then
      R6 op kids x1 (op == 15)
    else
      if (op == 16) = true then
        R6 op kids x1 (op == 16)
      else
        if (op == 17) = true then
          R6 op kids x1 (op == 17)
        else
          R6 op kids x1 (op == 18)
theorem Fo {op kids x1 x2 v52 res} (hh : Ha op kids x1 x2 v52 = some res) : JM C 103 0 Tryz.f89 [1, 1, 1, 0, 1, 4, 1, 3, 1, 3, 1] [(0, .d (.int .i64 op)), (1, .d (.sl (A0.rows kids))), (4, .ref 0 0), (6, .clo 155 []), (7, .d (.bool x1)), (8, .d (.bool x2)), (16, .d (.int .i64 op)), (52, .d (.bool v52))] [.row [.d (.int .i64 0), .d (.int .i64 0), .d (.int .i64 0), .d (.int .i64 0), .d (.str []), .full (estr.rows []), .full (A0.rows [])] 40] (Ret [] (.tup [.agg (A0.cells res.1), .d (.int .i64 res.2)])) := by
  unfold Ha at hh
  refine ci' rfl hh (fun hh => ?_) (fun hh => ?_)
  · refine sg' 4 rfl (G' 3 rfl (po' rfl (an' (n' (ci' rfl hh (fun hh => ?_) (fun hh => ?_))))))
    · cases hh
      exact p' 1 rfl (L0.s hC rfl (e' rfl (re' (rt' rfl rfl rfl))))
    cases hh
    exact sk' (p' 1 rfl (L0.s hC rfl (e' rfl (re' (rt' rfl rfl rfl)))))
  refine S' (t' rfl (ci' rfl hh (fun hh => ?_) (fun hh => ?_)))
  · exact sk' (ew' (Xd hh) rfl rfl rfl)
  refine t' rfl (ci' rfl hh (fun hh => ?_) (fun hh => ?_))
  · exact sk' (ew' (Xd hh) rfl rfl rfl)
  refine t' rfl (ci' rfl hh (fun hh => ?_) (fun hh => ?_))
  · exact sk' (ew' (Xd hh) rfl rfl rfl)
  exact T' rfl (ew' (Xd hh) rfl rfl rfl)
def S6 (op : Int) (kids : List A0) (x1 : Bool) (x2 : Bool) (v46 : Bool) : Option (A0 × Int) :=
  if v46 = true then
    if x2 = true then
      some ((A0.mk 0 0 0 0 [] [] []), 0)
    else
      some ((A0.mk 0 0 0 0 [] [] []), 9)
  else
    if (op == 13) = true then
      Ha op kids x1 x2 (op == 13)
    else
      Ha op kids x1 x2 (op == 14)
theorem Fi {op kids x1 x2 v46 res} (hh : S6 op kids x1 x2 v46 = some res) : JM C 103 0 Tryz.f89 [1, 1, 1, 0, 1, 4, 1, 3, 1] [(0, .d (.int .i64 op)), (1, .d (.sl (A0.rows kids))), (4, .ref 0 0), (6, .clo 155 []), (7, .d (.bool x1)), (8, .d (.bool x2)), (16, .d (.int .i64 op)), (46, .d (.bool v46))] [.row [.d (.int .i64 0), .d (.int .i64 0), .d (.int .i64 0), .d (.int .i64 0), .d (.str []), .full (estr.rows []), .full (A0.rows [])] 40] (Ret [] (.tup [.agg (A0.cells res.1), .d (.int .i64 res.2)])) := by
  unfold S6 at hh
  refine ci' rfl hh (fun hh => ?_) (fun hh => ?_)
  · refine t' rfl (ci' rfl hh (fun hh => ?_) (fun hh => ?_))
    · cases hh
      exact p' 1 rfl (L0.s hC rfl (e' rfl (re' (rt' rfl rfl rfl))))
    cases hh
    exact sk' (p' 1 rfl (L0.s hC rfl (e' rfl (re' (rt' rfl rfl rfl)))))
  refine S' (t' rfl (ci' rfl hh (fun hh => ?_) (fun hh => ?_)))
  · exact sk' (ew' (Fo hh) rfl rfl rfl)
  exact T' rfl (ew' (Fo hh) rfl rfl rfl)
def R8 (op : Int) (kids : List A0) : Option (A0 × Int) :=
  V5 1 kids >>= fun x1 =>
  V5 0 kids >>= fun x2 =>
  if (op == 6) = true then
    if x1 = true then
      idx kids 0 >>= fun x3 =>
      idx kids 0 >>= fun x4 =>
      W2 (IntKind.i64.wrap (0 - x3.High)) (IntKind.i64.wrap (0 - x4.Low)) >>= fun x5 =>
      X8 x5 >>= fun x6 =>
      some (x6.1, x6.2)
    else
      some ((A0.mk 0 0 0 0 [] [] []), 9)
  else
    if (op == 7) = true then
      S6 op kids x1 x2 (op == 7)
    else
      if (op == 19) = true then
        S6 op kids x1 x2 (op == 19)
      else
        S6 op kids x1 x2 (op == 20)
theorem G11 {op kids res} (hh : R8 op kids = some res) : T0 C 89 [.d (.int .i64 op), .d (.sl (A0.rows kids))] [] (Ret [] (.tup [.agg (A0.cells res.1), .d (.int .i64 res.2)])) := by
  unfold R8 at hh
  obtain ⟨x1, hx1, hh⟩ := bs' hh
  obtain ⟨x2, hx2, hh⟩ := bs' hh
  refine T0.intro hC Tryz.func89 rfl rfl rfl (s' rfl rfl (L0.nf hC rfl (e' rfl (t' rfl (p' 2 rfl (c' (Je hx1) rfl rfl (o' 2 rfl (c' (Je hx2) rfl rfl (e' rfl (S' (t' rfl (bk' (t' rfl (ci' rfl hh (fun hh => ?_) (fun hh => ?_)))))))))))))))
  · refine t' rfl (ci' rfl hh (fun hh => ?_) (fun hh => ?_))
    · obtain ⟨x3, hx3, hh⟩ := bs' hh
      obtain ⟨x4, hx4, hh⟩ := bs' hh
      obtain ⟨x5, hx5, hh⟩ := bs' hh
      obtain ⟨x6, hx6, hh⟩ := bs' hh
      cases hh
      exact S' (AEx.draw hC 14 rfl rfl rfl (Q' rfl (AQ.i hC rfl (C1 hx3) (A0.idx hx3) rfl (O' 4 rfl (AQ.i hC rfl (C1 hx4) (A0.idx hx4) rfl (O' 3 rfl (Qc' (I4 hx5) rfl rfl (Qc' (Kq hx6) rfl rfl (E' rfl (L0.s hC rfl (e' rfl (re' (rt' rfl rfl rfl)))))))))))))
    cases hh
    exact sk' (p' 1 rfl (L0.s hC rfl (e' rfl (re' (rt' rfl rfl rfl)))))
  refine S' (t' rfl (ci' rfl hh (fun hh => ?_) (fun hh => ?_)))
  · exact sk' (ew' (Fi hh) rfl rfl rfl)
  refine t' rfl (ci' rfl hh (fun hh => ?_) (fun hh => ?_))
  · exact sk' (ew' (Fi hh) rfl rfl rfl)
  exact T' rfl (ew' (Fi hh) rfl rfl rfl)
def U8 (s : Option I0) (e : C0) (kids1 : List A0) (v51 : Bool) : Option (A0 × Int) :=
  if v51 = true then
    some ((A0.mk 0 0 0 0 [] [] []), 0)
  else
    if (e.Op == 3) = true then
      M5 s e.Name >>= fun x4 =>
      if (!x4.2) = true then
        some ((A0.mk 0 0 0 0 [] [] []), 7)
      else
        some (x4.1.typ, 0)
    else
      if (e.Op == 4) = true then
        idx kids1 0 >>= fun x5 =>
        J7 x5 e.Name >>= fun x6 =>
        some (x6.1, x6.2)
      else
        if (e.Op == 5) = true then
          idx kids1 0 >>= fun x7 =>
          (if (!(x7.Kind != 2)) = true then idx kids1 1 else some default) >>= fun x8 =>
          if (bif (x7.Kind != 2) then true else (x8.Kind != 1)) = true then
            some ((A0.mk 0 0 0 0 [] [] []), 9)
          else
            idx kids1 0 >>= fun x9 =>
            idx x9.Of 0 >>= fun x10 =>
            some (x10, 0)
        else
          R8 e.Op kids1 >>= fun x11 =>
          some (x11.1, x11.2)
theorem Ht {s e kids1 v51 res} (hh : U8 s e kids1 v51 = some res) : JM C 106 0 Tryz.f42 [1, 1, 1, 0, 1, 4, 1, 3, 1] [(0, .d (.bxo (I0.opt s))), (3, .ref 0 0), (4, .ref 1 0), (6, .osl 2 (A0.rows kids1)), (40, .d (.int .i64 e.Op)), (51, .d (.bool v51))] [.row (C0.cells e) 34, .row [.d (.int .i64 0), .d (.int .i64 0), .d (.int .i64 0), .d (.int .i64 0), .d (.str []), .full (estr.rows []), .full (A0.rows [])] 40, .tok 40 7] (Ret [] (.tup [.agg (A0.cells res.1), .d (.int .i64 res.2)])) := by
  unfold U8 at hh
  refine ci' rfl hh (fun hh => ?_) (fun hh => ?_)
  · cases hh
    exact p' 1 rfl (L0.s hC rfl (e' rfl (re' (rt' rfl rfl rfl))))
  refine t' rfl (ci' rfl hh (fun hh => ?_) (fun hh => ?_))
  · obtain ⟨x4, hx4, hh⟩ := bs' hh
    refine p' 3 rfl (c' (Ei hx4) rfl rfl (o' 3 rfl (L0.nf hC rfl (L0.s hC rfl (e' rfl (S' (t' rfl (ci' rfl hh (fun hh => ?_) (fun hh => ?_)))))))))
    · cases hh
      exact p' 1 rfl (L0.s hC rfl (e' rfl (re' (rt' rfl rfl rfl))))
    cases hh
    exact sk' (p' 2 rfl (L0.s hC rfl (e' rfl (re' (rt' rfl rfl rfl)))))
  refine t' rfl (ci' rfl hh (fun hh => ?_) (fun hh => ?_))
  · obtain ⟨x5, hx5, hh⟩ := bs' hh
    obtain ⟨x6, hx6, hh⟩ := bs' hh
    cases hh
    exact S' (AEx.draw hC 8 rfl rfl rfl (Q' rfl (AQ.i hC rfl (C1 hx5) (A0.idx hx5) rfl (O' 3 rfl (Qc' (E11 hx6) rfl rfl (E' rfl (L0.s hC rfl (e' rfl (re' (rt' rfl rfl rfl))))))))))
  refine t' rfl (ci' rfl hh (fun hh => ?_) (fun hh => ?_))
  · obtain ⟨x7, hx7, hh⟩ := bs' hh
    obtain ⟨x8, hx8, hh⟩ := bs' hh
    refine S' (sg' 12 rfl (a0' rfl (AG.i hC rfl rfl (fun _ => trivial) (fun hw => ⟨C1 hx7, A0.idx hx7, rfl⟩) (G' 5 rfl (AG.i hC rfl rfl (fun hg => ⟨hg, trivial⟩) (fun hw => ⟨C1 (Jd hw hx8), A0.idx (Jd hw hx8), rfl⟩) (a1' rfl (a1' rfl (a1' rfl (po' rfl (an' (n' (ci' rfl hh (fun hh => ?_) (fun hh => ?_)))))))))))))
    · cases hh
      exact p' 1 rfl (L0.s hC rfl (e' rfl (re' (rt' rfl rfl rfl))))
    obtain ⟨x9, hx9, hh⟩ := bs' hh
    obtain ⟨x10, hx10, hh⟩ := bs' hh
    cases hh
    exact sk' (p' 1 rfl (i' rfl (C1 hx9) (A0.idx hx9) rfl (o' 2 rfl (i' rfl (C1 hx10) (A0.idx hx10) rfl (q' rfl (L0.s hC rfl (e' rfl (re' (rt' rfl rfl rfl)))))))))
  obtain ⟨x11, hx11, hh⟩ := bs' hh
  cases hh
  exact sk' (p' 3 rfl (L0.cl rfl (G11 hx11) ⟨.rfl, ⟨.osl, trivial⟩⟩ rfl (o' 2 rfl (L0.s hC rfl (e' rfl (re' (rt' rfl rfl rfl)))))))
mutual
def W3 (s : Option I0) (e : C0) : Option (A0 × Int) :=
  if (decide (0 ≤ ((e.Kids).length : Int) ∧ ((e.Kids).length : Int).toNat * 97 ≤ 140737488355328)) = true then
    P7 s e [] 0
  else none
  partial_fixpoint
def P7 (s : Option I0) (e : C0) (kids : List A0) (v20 : Int) : Option (A0 × Int) :=
  if (decide (v20 < ((e.Kids).length : Int))) = true then
    idx e.Kids v20 >>= fun x1 =>
    W3 s x1 >>= fun x12 =>
    if (x12.2 != 0) = true then
      some ((A0.mk 0 0 0 0 [] [] []), x12.2)
    else
      if (decide ((kids.length + 1) * 97 ≤ 140737488355328)) = true then
        P7 s e (kids ++ [x12.1]) (IntKind.i64.wrap (v20 + 1))
      else none
  else
    if (e.Op == 0) = true then
      W2 e.NV e.NV >>= fun x2 =>
      X8 x2 >>= fun x3 =>
      some (x3.1, x3.2)
    else
      if (e.Op == 1) = true then
        U8 s e kids (e.Op == 1)
      else
        U8 s e kids (e.Op == 2)
  partial_fixpoint
end
abbrev Nz (s : Option I0) (e : C0) (res : A0 × Int) : Prop := T0 C 42 [.d (.bxo (I0.opt s)), .agg (C0.cells e)] [] (Ret [] (.tup [.agg (A0.cells res.1), .d (.int .i64 res.2)]))
abbrev Dv (s : Option I0) (e : C0) (kids : List A0) (v20 : Int) (res : A0 × Int) : Prop := LM C 106 0 Tryz.f42 [1, 1, 0, 1, 4] [(0, .d (.bxo (I0.opt s))), (3, .ref 0 0), (4, .ref 1 0), (6, .osl 2 (A0.rows kids)), (18, .d (.sl (C0.rows e.Kids))), (19, .d (.int .i64 ((e.Kids).length : Int))), (20, .d (.int .i64 v20))] [.row (C0.cells e) 34, .row [.d (.int .i64 0), .d (.int .i64 0), .d (.int .i64 0), .d (.int .i64 0), .d (.str []), .full (estr.rows []), .full (A0.rows [])] 40, .tok 40 7] (Ret [] (.tup [.agg (A0.cells res.1), .d (.int .i64 res.2)]))
theorem Yw (s : Option I0) : (∀ e res, W3 s e = some res → Nz s e res) ∧ (∀ e kids v20 res, P7 s e kids v20 = some res → Dv s e kids v20 res) := by
  refine W3.mutual_partial_correctness s _ _ ?_ ?_
  · intro g1 ih1 e res hh
    obtain ⟨c10, hh⟩ := Pd hh
    exact T0.intro hC Tryz.func42 rfl rfl rfl (s' rfl rfl (L0.n hC rfl (L0.nf hC rfl (e' rfl (p' 2 rfl (qe' rfl trivial (C0.lenA _) (L0.mz hC rfl c10 rfl (e' rfl (S' (p' 2 rfl (qe' rfl trivial (C0.lenA _) (e' rfl (bk' (fw' (ih1 _ _ _ _ hh) rfl rfl rfl))))))))))))))
  · intro g0 g1 ih0 ih1 e kids v20 res hh
    refine D2.unroll (t' rfl (S' (ci' rfl hh (fun hh => ?_) (fun hh => ?_))))
    · obtain ⟨x1, hx1, hh⟩ := bs' hh
      obtain ⟨x12, hx12, hh⟩ := bs' hh
      refine sk' (S' (bk' (s' rfl rfl (i' rfl (C1 hx1) (C0.idx hx1) rfl (q' rfl (L0.nf hC rfl (L0.s hC rfl (n' (p' 2 rfl (c' (ih0 _ _ hx12) rfl rfl (o' 3 rfl (L0.nf hC rfl (L0.s hC rfl ?_)))))))))))))
      refine e' rfl (S' (t' rfl (ci' rfl hh (fun hh => ?_) (fun hh => ?_))))
      · cases hh
        exact p' 2 rfl (L0.s hC rfl (e' rfl (re' (rt' rfl rfl rfl))))
      obtain ⟨c11, hh⟩ := Pd hh
      exact sk' (P' 2 rfl (L0.be hC rfl (A0.rows_map [x12.1]).symm (L0.ap hC rfl (rs := A0.rows (kids ++ [x12.1])) (A0.app kids [x12.1]) (A0.sz kids) (A0.sz [x12.1]) (I12 (A0.len kids) (A0.len [x12.1]) c11) (e' rfl (T' rfl (lw' (ih1 _ _ _ _ hh) rfl rfl rfl))))))
    refine ex' (S' (t' rfl (bk' (t' rfl (ci' rfl hh (fun hh => ?_) (fun hh => ?_))))))
    · obtain ⟨x2, hx2, hh⟩ := bs' hh
      obtain ⟨x3, hx3, hh⟩ := bs' hh
      cases hh
      exact p' 4 rfl (c' (I4 hx2) rfl rfl (c' (Kq hx3) rfl rfl (o' 2 rfl (L0.s hC rfl (e' rfl (re' (rt' rfl rfl rfl)))))))
    refine S' (t' rfl (ci' rfl hh (fun hh => ?_) (fun hh => ?_)))
    · exact sk' (ew' (Ht hh) rfl rfl rfl)
    exact T' rfl (ew' (Ht hh) rfl rfl rfl)
theorem F1 {s e res} (hh : W3 s e = some res) : Nz s e res := (Yw s).1 _ _ hh
theorem S1l {s e kids v20 res} (hh : P7 s e kids v20 = some res) : Dv s e kids v20 res := (Yw s).2 _ _ _ _ hh
def Df (e : C0) : Option Bool :=
  some (bif (bif (e.Op == 3) then true else (e.Op == 4)) then true else (e.Op == 5))
theorem X13 {e res} (hh : Df e = some res) : T0 C 112 [.agg (C0.cells e)] [] (Ret [] (.d (.bool res))) := by
  unfold Df at hh
  cases hh
  refine T0.intro hC Tryz.func112 rfl rfl rfl (s' rfl rfl (L0.n hC rfl (e' rfl (sg' 14 rfl (G' 5 rfl (a1' rfl (a1' rfl (po' rfl (G' 2 rfl (a1' rfl (a1' rfl (po' rfl (a0' rfl ?_)))))))))))))
  exact an' (n' (re' (rt' rfl rfl rfl)))
mutual
def Yc (a : A0) (b : A0) : Option Bool :=
  (if (bif (bif (bif (bif (a.Kind == b.Kind) then (a.Low == b.Low) else false) then (a.High == b.High) else false) then (a.Size == b.Size) else false) then (a.Name == b.Name) else false) = true then G3 a.Names b.Names else some default) >>= fun x1 =>
  (if (bif (bif (bif (bif (bif (a.Kind == b.Kind) then (a.Low == b.Low) else false) then (a.High == b.High) else false) then (a.Size == b.Size) else false) then (a.Name == b.Name) else false) then x1 else false) = true then E1 a.Of b.Of else some default) >>= fun x2 =>
  some (bif (bif (bif (bif (bif (bif (a.Kind == b.Kind) then (a.Low == b.Low) else false) then (a.High == b.High) else false) then (a.Size == b.Size) else false) then (a.Name == b.Name) else false) then x1 else false) then x2 else false)
  partial_fixpoint
def E1 (s1 : List A0) (s2 : List A0) : Option Bool :=
  if (((s1).length : Int) != ((s2).length : Int)) = true then
    some false
  else
    X0 s1 s2 0
  partial_fixpoint
def X0 (s1 : List A0) (s2 : List A0) (v17 : Int) : Option Bool :=
  if (decide (v17 < ((s1).length : Int))) = true then
    idx s1 v17 >>= fun x1 =>
    idx s2 v17 >>= fun x2 =>
    Yc x1 x2 >>= fun x3 =>
    if (!x3) = true then
      some false
    else
      X0 s1 s2 (IntKind.i64.wrap (v17 + 1))
  else
    some true
  partial_fixpoint
end
abbrev P14 (a : A0) (b : A0) (res : Bool) : Prop := T0 C 181 [.agg (A0.cells a), .agg (A0.cells b)] [] (Ret [] (.d (.bool res)))
abbrev S8 (s1 : List A0) (s2 : List A0) (res : Bool) : Prop := T0 C 208 [.d (.sl (A0.rows s1)), .d (.sl (A0.rows s2)), .clo 181 []] [] (Ret [] (.d (.bool res)))
abbrev E8 (s1 : List A0) (s2 : List A0) (v17 : Int) (res : Bool) : Prop := LM C 32 0 Tryz.f208 [1, 1, 0, 1, 4] [(1, .d (.sl (A0.rows s2))), (2, .clo 181 []), (15, .d (.sl (A0.rows s1))), (16, .d (.int .i64 ((s1).length : Int))), (17, .d (.int .i64 v17))] [] (Ret [] (.d (.bool res)))
theorem It : (∀ a b res, Yc a b = some res → P14 a b res) ∧ (∀ s1 s2 res, E1 s1 s2 = some res → S8 s1 s2 res) ∧ (∀ s1 s2 v17 res, X0 s1 s2 v17 = some res → E8 s1 s2 v17 res) := by
  refine Yc.mutual_partial_correctness _ _ _ ?_ ?_ ?_
  · intro g1 ih1 a b res hh
    obtain ⟨x1, hx1, hh⟩ := bs' hh
    obtain ⟨x2, hx2, hh⟩ := bs' hh
    cases hh
    refine T0.intro hC Tryz.func181 rfl rfl rfl (s' rfl rfl (L0.n hC rfl (L0.n hC rfl (e' rfl (sg' 48 rfl (G' 7 rfl (a1' rfl (a0' rfl (a1' rfl (a2' rfl (pa' rfl (G' 2 rfl (a1' rfl ?_)))))))))))))
    refine a0' rfl (a1' rfl (a2' rfl (pa' rfl (G' 2 rfl (a1' rfl (a0' rfl (a1' rfl (a2' rfl (pa' rfl (G' 2 rfl (a1' rfl (a0' rfl (a1' rfl ?_)))))))))))))
    refine a2' rfl (pa' rfl (G' 2 rfl (a1' rfl (a0' rfl (a1' rfl (AG.c rfl rfl (fun hg => ⟨hg, hg, trivial⟩) (fun hw => Jl (Jd hw hx1)) (pa' rfl (G' 2 rfl (a1' rfl (a0' rfl (a1' rfl (AG.c rfl rfl (fun hg => ⟨hg, hg, trivial⟩) (fun hw => ih1 _ _ _ (Jd hw hx2)) (pa' rfl ?_)))))))))))))
    exact a0' rfl (an' (n' (re' (rt' rfl rfl rfl))))
  · intro g2 ih2 s1 s2 res hh
    refine T0.intro hC Tryz.func208 rfl rfl rfl (t' rfl (S' (p' 1 rfl (qe' rfl trivial (A0.lenA _) (q' rfl (qe' rfl trivial (A0.lenA _) (e' rfl (ci' rfl hh (fun hh => ?_) (fun hh => ?_)))))))))
    · cases hh
      exact t' rfl (re' (rt' rfl rfl rfl))
    exact sk' (S' (p' 1 rfl (qe' rfl trivial (A0.lenA _) (e' rfl (bk' (fw' (ih2 _ _ _ _ hh) rfl rfl rfl))))))
  · intro g0 g2 ih0 ih2 s1 s2 v17 res hh
    refine D2.unroll (t' rfl (S' (ci' rfl hh (fun hh => ?_) (fun hh => ?_))))
    · obtain ⟨x1, hx1, hh⟩ := bs' hh
      obtain ⟨x2, hx2, hh⟩ := bs' hh
      obtain ⟨x3, hx3, hh⟩ := bs' hh
      refine sk' (S' (bk' (p' 1 rfl (i' rfl (C1 hx1) (A0.idx hx1) rfl (q' rfl (L0.nf hC rfl (q' rfl (L0.s hC rfl (n' (p' 2 rfl (i' rfl (C1 hx2) (A0.idx hx2) rfl (q' rfl (L0.nf hC rfl ?_)))))))))))))
      refine L0.s hC rfl (n' (p' 3 rfl (c' (ih0 _ _ _ hx3) rfl rfl (e' rfl (ci' rfl hh (fun hh => ?_) (fun hh => ?_))))))
      · cases hh
        exact t' rfl (re' (rt' rfl rfl rfl))
      exact sk' (T' rfl (lw' (ih2 _ _ _ _ hh) rfl rfl rfl))
    cases hh
    exact ex' (t' rfl (re' (rt' rfl rfl rfl)))
theorem K1c {a b res} (hh : Yc a b = some res) : P14 a b res := (It).1 _ _ _ hh
theorem Nu {s1 s2 res} (hh : E1 s1 s2 = some res) : S8 s1 s2 res := (It).2.1 _ _ _ hh
theorem Qs {s1 s2 v17 res} (hh : X0 s1 s2 v17 = some res) : E8 s1 s2 v17 res := (It).2.2 _ _ _ _ hh
def N6 (fromV : A0) (to : A0) (place : Bool) : Option Bool :=
  D7 fromV >>= fun x1 =>
  (if (!x1) = true then D7 to else some default) >>= fun x2 =>
  if (bif x1 then true else x2) = true then
    some (fromV.Kind == to.Kind)
  else
    (if place = true then Yc fromV to else some default) >>= fun x3 =>
    some (bif place then x3 else false)
theorem Zj {fromV to place res} (hh : N6 fromV to place = some res) : T0 C 111 [.agg (A0.cells fromV), .agg (A0.cells to), .d (.bool place)] [] (Ret [] (.d (.bool res))) := by
  unfold N6 at hh
  obtain ⟨x1, hx1, hh⟩ := bs' hh
  obtain ⟨x2, hx2, hh⟩ := bs' hh
  refine T0.intro hC Tryz.func111 rfl rfl rfl (s' rfl rfl (L0.n hC rfl (L0.n hC rfl (e' rfl (S' (sg' 6 rfl (a0' rfl (AG.c rfl rfl (fun _ => trivial) (fun _ => Qj hx1) (G' 2 rfl (AG.c rfl rfl (fun hg => ⟨hg, trivial⟩) (fun hw => Qj (Jd hw hx2)) (po' rfl (an' (n' (ci' rfl hh (fun hh => ?_) (fun hh => ?_)))))))))))))))
  · cases hh
    exact t' rfl (re' (rt' rfl rfl rfl))
  obtain ⟨x3, hx3, hh⟩ := bs' hh
  cases hh
  exact sk' (sg' 7 rfl (G' 4 rfl (AG.c rfl rfl (fun hg => ⟨hg, hg, trivial⟩) (fun hw => K1c (Jd hw hx3)) (pa' rfl (a0' rfl (an' (n' (re' (rt' rfl rfl rfl)))))))))
def E9 (s : Option I0) (e : C0) (to : A0) : Option Int :=
  W3 s e >>= fun x1 =>
  (if (x1.2 == 0) = true then Df e else some default) >>= fun x2 =>
  (if (x1.2 == 0) = true then N6 x1.1 to x2 else some default) >>= fun x3 =>
  if (bif (x1.2 == 0) then (!x3) else false) = true then
    some 9
  else
    some x1.2
theorem Tk {s e to res} (hh : E9 s e to = some res) : T0 C 57 [.d (.bxo (I0.opt s)), .agg (C0.cells e), .agg (A0.cells to)] [] (Ret [] (.d (.int .i64 res))) := by
  unfold E9 at hh
  obtain ⟨x1, hx1, hh⟩ := bs' hh
  obtain ⟨x2, hx2, hh⟩ := bs' hh
  obtain ⟨x3, hx3, hh⟩ := bs' hh
  refine T0.intro hC Tryz.func57 rfl rfl rfl (s' rfl rfl (L0.n hC rfl (L0.n hC rfl (e' rfl (p' 2 rfl (c' (F1 hx1) rfl rfl (o' 3 rfl (L0.nf hC rfl (L0.s hC rfl (e' rfl (S' (S' (AEx.drawG hC 10 rfl rfl rfl ?_)))))))))))))
  refine G' 6 rfl (AG.c rfl rfl (fun hg => ⟨hg, trivial⟩) (fun hw => X13 (Jd hw hx2)) (AG.c rfl rfl (fun hg => ⟨hg, hg, hg, trivial⟩) (fun hw => Zj (Jd hw hx3)) (a1' rfl (pa' rfl (an' (n' (ci' rfl hh (fun hh => ?_) (fun hh => ?_))))))))
  · cases hh
    exact T' rfl (t' rfl (re' (rt' rfl rfl rfl)))
  cases hh
  exact sk' (t' rfl (re' (rt' rfl rfl rfl)))
def E6 (o0 : C0) : Option Str :=
  if (bif (o0.Op != 3) then (decide (((o0.Kids).length : Int) > 0)) else false) = true then
    idx o0.Kids 0 >>= fun x1 =>
    E6 x1
  else
    some o0.Name
  partial_fixpoint
abbrev Ev (o0 : C0) (res : Str) : Prop := LM C 18 0 Tryz.f182 [1, 0, 4] [(1, .ref 0 0)] [.row (C0.cells o0) 34] (Ret [] (.d (.str res)))
theorem U12 : (∀ o0 res, E6 o0 = some res → Ev o0 res) := by
  refine E6.partial_correctness _ ?_
  · intro g0 ih0 o0 res hh
    refine D2.unroll (S' (sg' 9 rfl (G' 5 rfl (a1' rfl (AG.qe hC rfl (fun hg => ⟨⟨hg, trivial⟩, trivial⟩) (C0.lenA _) (a1' rfl (pa' rfl (an' (n' (ci' rfl hh (fun hh => ?_) (fun hh => ?_)))))))))))
    · obtain ⟨x1, hx1, hh⟩ := bs' hh
      exact sk' (bk' (P' 2 rfl (i' rfl (C1 hx1) (C0.idx hx1) rfl (q' rfl (L0.s hC rfl (n' (lw' (ih0 _ _ hh) rfl rfl rfl)))))))
    cases hh
    exact ex' (t' rfl (re' (rt' rfl rfl rfl)))
theorem Y13 {o0 res} (hh : E6 o0 = some res) : Ev o0 res := (U12) _ _ hh
def Ri (e : C0) : Option Str :=
  E6 e
theorem R17 {e res} (hh : Ri e = some res) : T0 C 182 [.agg (C0.cells e)] [] (Ret [] (.d (.str res))) := by
  unfold Ri at hh
  exact T0.intro hC Tryz.func182 rfl rfl rfl (s' rfl rfl (L0.n hC rfl (e' rfl (S' (bk' (fw' (Y13 hh) rfl rfl rfl))))))
def S9 (s : Option I0) (e : C0) : Option (A0 × Int) :=
  W3 s e >>= fun x1 =>
  if (x1.2 != 0) = true then
    some ((A0.mk 0 0 0 0 [] [] []), x1.2)
  else
    Ri e >>= fun x2 =>
    M5 s x2 >>= fun x3 =>
    if x3.1.fixed = true then
      some ((A0.mk 0 0 0 0 [] [] []), 15)
    else
      some (x1.1, 0)
theorem Wn {s e res} (hh : S9 s e = some res) : T0 C 113 [.d (.bxo (I0.opt s)), .agg (C0.cells e)] [] (Ret [] (.tup [.agg (A0.cells res.1), .d (.int .i64 res.2)])) := by
  unfold S9 at hh
  obtain ⟨x1, hx1, hh⟩ := bs' hh
  refine T0.intro hC Tryz.func113 rfl rfl rfl (s' rfl rfl (L0.n hC rfl (L0.nf hC rfl (e' rfl (p' 2 rfl (c' (F1 hx1) rfl rfl (o' 3 rfl (L0.nf hC rfl (L0.s hC rfl (e' rfl (S' (t' rfl (ci' rfl hh (fun hh => ?_) (fun hh => ?_))))))))))))))
  · cases hh
    exact p' 2 rfl (L0.s hC rfl (e' rfl (re' (rt' rfl rfl rfl))))
  obtain ⟨x2, hx2, hh⟩ := bs' hh
  obtain ⟨x3, hx3, hh⟩ := bs' hh
  refine sk' (S' (p' 2 rfl (c' (R17 hx2) rfl rfl (c' (Ei hx3) rfl rfl (o' 3 rfl (L0.nf hC rfl (L0.s hC rfl (e' rfl (t' rfl (ci' rfl hh (fun hh => ?_) (fun hh => ?_)))))))))))
  · cases hh
    exact p' 1 rfl (L0.s hC rfl (e' rfl (re' (rt' rfl rfl rfl))))
  cases hh
  exact sk' (p' 1 rfl (L0.s hC rfl (e' rfl (re' (rt' rfl rfl rfl)))))
def Z2 (kind : Int) (name : Str) (x1 : List E0) (v19 : Int) : Option Int :=
  if (decide (v19 < ((x1).length : Int))) = true then
    idx x1 v19 >>= fun x2 =>
    if (bif (x2.Kind == kind) then (x2.Name == name) else false) = true then
      some v19
    else
      Z2 kind name x1 (IntKind.i64.wrap (v19 + 1))
  else
    some (-1)
  partial_fixpoint
abbrev Rm (kind : Int) (name : Str) (x1 : List E0) (v19 : Int) (res : Int) : Prop := LM C 36 0 Tryz.f183 [1, 0, 1, 4] [(1, .d (.int .i64 kind)), (2, .d (.str name)), (17, .d (.sl (E0.rows x1))), (18, .d (.int .i64 ((x1).length : Int))), (19, .d (.int .i64 v19))] [] (Ret [] (.d (.int .i64 res)))
theorem Ou (kind : Int) (name : Str) (x1 : List E0) : (∀ v19 res, Z2 kind name x1 v19 = some res → Rm kind name x1 v19 res) := by
  refine Z2.partial_correctness kind name x1 _ ?_
  · intro g0 ih0 v19 res hh
    refine D2.unroll (t' rfl (S' (ci' rfl hh (fun hh => ?_) (fun hh => ?_))))
    · obtain ⟨x2, hx2, hh⟩ := bs' hh
      refine sk' (S' (bk' (p' 1 rfl (i' rfl (C1 hx2) (E0.idx hx2) rfl (q' rfl (L0.nf hC rfl (q' rfl (L0.s hC rfl (n' (sg' 10 rfl (G' 6 rfl (a1' rfl (a0' rfl ?_)))))))))))))
      refine a2' rfl (pa' rfl (an' (n' (ci' rfl hh (fun hh => ?_) (fun hh => ?_)))))
      · cases hh
        exact t' rfl (re' (rt' rfl rfl rfl))
      exact sk' (T' rfl (lw' (ih0 _ _ hh) rfl rfl rfl))
    cases hh
    exact ex' (t' rfl (re' (rt' rfl rfl rfl)))
theorem Sv {kind name x1 v19 res} (hh : Z2 kind name x1 v19 = some res) : Rm kind name x1 v19 res := (Ou kind name x1) _ _ hh
def T6 (c : D0) (kind : Int) (name : Str) (limit : Int) : Option Int :=
  slc c.p.Decls 0 limit >>= fun x1 =>
  Z2 kind name x1 0
theorem Ho {c kind name limit res} (hh : T6 c kind name limit = some res) : T0 C 183 [.d (.box (D0.row c)), .d (.int .i64 kind), .d (.str name), .d (.int .i64 limit)] [] (Ret [] (.d (.int .i64 res))) := by
  unfold T6 at hh
  obtain ⟨x1, hx1, hh⟩ := bs' hh
  exact T0.intro hC Tryz.func183 rfl rfl rfl (t' rfl (S' (p' 6 rfl (L0.dx hC rfl (E0.part hx1) (E0.sz _) (qe' rfl trivial (E0.lenA _) (e' rfl (bk' (fw' (Sv hh) rfl rfl rfl))))))))
def A3 (c : D0) (s : Option I0) (x : F0) (x1 : A0 × Int) (x3 : E0) (x2 : Int) (v52 : Int) : Option Int :=
  if (decide (v52 < ((x.Args).length : Int))) = true then
    idx x.Args v52 >>= fun x4 =>
    idx x3.Params v52 >>= fun x5 =>
    S2 c x5.TypeV x2 >>= fun x6 =>
    E9 s x4 x6 >>= fun x7 =>
    if (x7 != 0) = true then
      some x7
    else
      A3 c s x x1 x3 x2 (IntKind.i64.wrap (v52 + 1))
  else
    S2 c x3.TypeV x2 >>= fun x8 =>
    N6 x8 x1.1 true >>= fun x9 =>
    if (!x9) = true then
      some 9
    else
      some 0
  partial_fixpoint
abbrev Sm (c : D0) (s : Option I0) (x : F0) (x1 : A0 × Int) (x3 : E0) (x2 : Int) (v52 : Int) (res : Int) : Prop := LM C 81 0 Tryz.f114 [1, 1, 1, 1, 1, 1, 1, 0, 1, 4] [(0, .d (.box (D0.row c))), (1, .d (.bxo (I0.opt s))), (7, .ref 1 0), (9, .d (.int .i64 x2)), (10, .ref 2 0), (50, .d (.sl (C0.rows x.Args))), (51, .d (.int .i64 ((x.Args).length : Int))), (52, .d (.int .i64 v52))] [.dead, .row (A0.cells x1.1) 40, .row (E0.cells x3) 59] (Ret [] (.d (.int .i64 res)))
theorem Pu (c : D0) (s : Option I0) (x : F0) (x1 : A0 × Int) (x3 : E0) (x2 : Int) : (∀ v52 res, A3 c s x x1 x3 x2 v52 = some res → Sm c s x x1 x3 x2 v52 res) := by
  refine A3.partial_correctness c s x x1 x3 x2 _ ?_
  · intro g0 ih0 v52 res hh
    refine D2.unroll (t' rfl (S' (ci' rfl hh (fun hh => ?_) (fun hh => ?_))))
    · obtain ⟨x4, hx4, hh⟩ := bs' hh
      obtain ⟨x5, hx5, hh⟩ := bs' hh
      obtain ⟨x6, hx6, hh⟩ := bs' hh
      obtain ⟨x7, hx7, hh⟩ := bs' hh
      refine sk' (S' (bk' (p' 1 rfl (i' rfl (C1 hx4) (C0.idx hx4) rfl (q' rfl (L0.nf hC rfl (q' rfl (L0.s hC rfl (n' (S' (AEx.draw hC 13 rfl rfl rfl (O' 6 rfl (AQ.i hC rfl (C1 hx5) (E0.idx hx5) rfl ?_)))))))))))))
      refine O' 3 rfl (Qc' (M8 hx6) rfl rfl (Qc' (Tk hx7) rfl rfl (E' rfl (n' (t' rfl (ci' rfl hh (fun hh => ?_) (fun hh => ?_)))))))
      · cases hh
        exact t' rfl (re' (rt' rfl rfl rfl))
      refine sk' (T' rfl ?_)
      refine D2.wk ?_ (ih0 _ _ hh)
      exact ⟨⟨⟨.rfl, rfl⟩, ⟨⟨.rfl, rfl⟩, ⟨⟨.rfl, rfl⟩, ⟨⟨.rfl, rfl⟩, ⟨⟨.rfl, rfl⟩, ⟨⟨.rfl, rfl⟩, ⟨⟨.rfl, rfl⟩, ⟨⟨.rfl, rfl⟩, trivial⟩⟩⟩⟩⟩⟩⟩⟩, ⟨trivial, ⟨⟨rfl, .refl _, rfl⟩, ⟨⟨rfl, .refl _, rfl⟩, trivial⟩⟩⟩, rfl⟩
    obtain ⟨x8, hx8, hh⟩ := bs' hh
    obtain ⟨x9, hx9, hh⟩ := bs' hh
    refine ex' (S' (S' (AEx.draw hC 8 rfl rfl rfl (O' 4 rfl (Qc' (M8 hx8) rfl rfl (Q' rfl (Qc' (Zj hx9) rfl rfl (E' rfl (n' (ci' rfl hh (fun hh => ?_) (fun hh => ?_)))))))))))
    · cases hh
      exact t' rfl (re' (rt' rfl rfl rfl))
    cases hh
    exact sk' (t' rfl (re' (rt' rfl rfl rfl)))
theorem Tv {c s x x1 x3 x2 v52 res} (hh : A3 c s x x1 x3 x2 v52 = some res) : Sm c s x x1 x3 x2 v52 res := (Pu c s x x1 x3 x2) _ _ hh
end Go.Proofs.YtdkabnfphmmmnaaGreatDoor

