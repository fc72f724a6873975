/- A part of the proof of SyntaxPrint. -/
import Derived.Test.YtmilgoloagbmpaaGreatDoorXxA
import Derived.Test.YtmilgoloagbmpaaGreatDoorAmB
set_option maxRecDepth 100000
set_option maxHeartbeats 4000000
set_option linter.unusedVariables false
namespace Go.Proofs.YtmilgoloagbmpaaGreatDoor
open Go.Am
instance : Nonempty (T2 C) := ⟨hC⟩
def ebool.zero : Bool := false
def ebool.leaf (x : Bool) : D := .bool x
def ebool.cells (l : List Bool) : List A := l.map fun x => .d (ebool.leaf x)
def ebool.row (x : Bool) : Row := [.bool x]
def ebool.rows (l : List Bool) : List Row := l.map ebool.row
theorem ebool.rows_map (l : List Bool) : ebool.rows l = l.map ebool.row := rfl
theorem ebool.idx {l : List Bool} {n : Int} {x : Bool} (h : idx l n = some x) : (ebool.rows l)[n.toNat]? = some (ebool.row x) := W8 ebool.rows_map h
theorem ebool.app (l m : List Bool) : ebool.rows (l ++ m) = ebool.rows l ++ ebool.rows m := X8 ebool.rows_map l m
theorem ebool.len (l : List Bool) : (ebool.rows l).length = l.length := S7 ebool.rows_map l
theorem ebool.lenA (l : List Bool) : A.d (.int .i64 ((ebool.rows l).length : Nat)) = A.d (.int .i64 (l.length : Nat)) := P6 ebool.rows_map l
theorem ebool.sz (l : List Bool) : ∀ r ∈ ebool.rows l, r.length = 1 := Fc ebool.rows_map (fun _ => rfl) l
theorem ebool.part {l x : List Bool} {a b : Int} (h : slc l a b = some x) : a = (a.toNat : Int) ∧ b = (b.toNat : Int) ∧ a.toNat ≤ b.toNat ∧ b.toNat ≤ (ebool.rows l).length ∧ ebool.rows x = ((ebool.rows l).take b.toNat).drop a.toNat := Q6 ebool.rows_map h
def ebool.ents (m : List (Str × Bool)) : List (Str × Row) := U6 ebool.row m
def ebool.val (x : Bool) : A := .d (.bool x)
theorem ebool.lkT {k : Str} {m : List (Str × Bool)} {x : Option Bool} (hx : some (mgt k m) = some x) : lkA (Q5 k (ebool.ents m)) (ebool.val ebool.zero) true = .tup [ebool.val (x.getD ebool.zero), .d (.bool x.isSome)] := Mn (h := ebool.val) (fun _ => rfl) rfl hx
theorem ebool.lk {k : Str} {m : List (Str × Bool)} {x : Option Bool} (hx : some (mgt k m) = some x) : lkA (Q5 k (ebool.ents m)) (ebool.val ebool.zero) false = ebool.val (x.getD ebool.zero) := Nn (h := ebool.val) (fun _ => rfl) rfl hx
theorem ebool.lkNT {x : Option Bool} (hx : some none = some x) : lkA none (ebool.val ebool.zero) true = .tup [ebool.val (x.getD ebool.zero), .d (.bool x.isSome)] := Ai (h := ebool.val) rfl hx
theorem ebool.lkN {x : Option Bool} (hx : some none = some x) : lkA none (ebool.val ebool.zero) false = ebool.val (x.getD ebool.zero) := Bi (h := ebool.val) rfl hx
theorem ebool.mput (k : Str) (x : Bool) (m : List (Str × Bool)) : mput k (ebool.row x) (ebool.ents m) = ebool.ents (mpt k x m) := (T7 ebool.row k x m).symm
def estr.zero : Str := []
def estr.leaf (x : Str) : D := .str x
def estr.cells (l : List Str) : List A := l.map fun x => .d (estr.leaf x)
def estr.row (x : Str) : Row := [.str x]
def estr.rows (l : List Str) : List Row := l.map estr.row
theorem estr.rows_map (l : List Str) : estr.rows l = l.map estr.row := rfl
theorem estr.idx {l : List Str} {n : Int} {x : Str} (h : idx l n = some x) : (estr.rows l)[n.toNat]? = some (estr.row x) := W8 estr.rows_map h
theorem estr.app (l m : List Str) : estr.rows (l ++ m) = estr.rows l ++ estr.rows m := X8 estr.rows_map l m
theorem estr.len (l : List Str) : (estr.rows l).length = l.length := S7 estr.rows_map l
theorem estr.lenA (l : List Str) : A.d (.int .i64 ((estr.rows l).length : Nat)) = A.d (.int .i64 (l.length : Nat)) := P6 estr.rows_map l
theorem estr.sz (l : List Str) : ∀ r ∈ estr.rows l, r.length = 1 := Fc estr.rows_map (fun _ => rfl) l
theorem estr.part {l x : List Str} {a b : Int} (h : slc l a b = some x) : a = (a.toNat : Int) ∧ b = (b.toNat : Int) ∧ a.toNat ≤ b.toNat ∧ b.toNat ≤ (estr.rows l).length ∧ estr.rows x = ((estr.rows l).take b.toNat).drop a.toNat := Q6 estr.rows_map h
def estr.ents (m : List (Str × Str)) : List (Str × Row) := U6 estr.row m
def estr.val (x : Str) : A := .d (.str x)
theorem estr.lkT {k : Str} {m : List (Str × Str)} {x : Option Str} (hx : some (mgt k m) = some x) : lkA (Q5 k (estr.ents m)) (estr.val estr.zero) true = .tup [estr.val (x.getD estr.zero), .d (.bool x.isSome)] := Mn (h := estr.val) (fun _ => rfl) rfl hx
theorem estr.lk {k : Str} {m : List (Str × Str)} {x : Option Str} (hx : some (mgt k m) = some x) : lkA (Q5 k (estr.ents m)) (estr.val estr.zero) false = estr.val (x.getD estr.zero) := Nn (h := estr.val) (fun _ => rfl) rfl hx
theorem estr.lkNT {x : Option Str} (hx : some none = some x) : lkA none (estr.val estr.zero) true = .tup [estr.val (x.getD estr.zero), .d (.bool x.isSome)] := Ai (h := estr.val) rfl hx
theorem estr.lkN {x : Option Str} (hx : some none = some x) : lkA none (estr.val estr.zero) false = estr.val (x.getD estr.zero) := Bi (h := estr.val) rfl hx
theorem estr.mput (k : Str) (x : Str) (m : List (Str × Str)) : mput k (estr.row x) (estr.ents m) = estr.ents (mpt k x m) := (T7 estr.row k x m).symm
def ei8.zero : Int := 0
def ei8.leaf (x : Int) : D := .int .i8 x
def ei8.cells (l : List Int) : List A := l.map fun x => .d (ei8.leaf x)
def ei8.row (x : Int) : Row := [.int .i8 x]
def ei8.rows (l : List Int) : List Row := l.map ei8.row
theorem ei8.rows_map (l : List Int) : ei8.rows l = l.map ei8.row := rfl
theorem ei8.idx {l : List Int} {n : Int} {x : Int} (h : idx l n = some x) : (ei8.rows l)[n.toNat]? = some (ei8.row x) := W8 ei8.rows_map h
theorem ei8.app (l m : List Int) : ei8.rows (l ++ m) = ei8.rows l ++ ei8.rows m := X8 ei8.rows_map l m
theorem ei8.len (l : List Int) : (ei8.rows l).length = l.length := S7 ei8.rows_map l
theorem ei8.lenA (l : List Int) : A.d (.int .i64 ((ei8.rows l).length : Nat)) = A.d (.int .i64 (l.length : Nat)) := P6 ei8.rows_map l
theorem ei8.sz (l : List Int) : ∀ r ∈ ei8.rows l, r.length = 1 := Fc ei8.rows_map (fun _ => rfl) l
theorem ei8.part {l x : List Int} {a b : Int} (h : slc l a b = some x) : a = (a.toNat : Int) ∧ b = (b.toNat : Int) ∧ a.toNat ≤ b.toNat ∧ b.toNat ≤ (ei8.rows l).length ∧ ei8.rows x = ((ei8.rows l).take b.toNat).drop a.toNat := Q6 ei8.rows_map h
def ei8.ents (m : List (Str × Int)) : List (Str × Row) := U6 ei8.row m
def ei8.val (x : Int) : A := .d (.int .i8 x)
theorem ei8.lkT {k : Str} {m : List (Str × Int)} {x : Option Int} (hx : some (mgt k m) = some x) : lkA (Q5 k (ei8.ents m)) (ei8.val ei8.zero) true = .tup [ei8.val (x.getD ei8.zero), .d (.bool x.isSome)] := Mn (h := ei8.val) (fun _ => rfl) rfl hx
theorem ei8.lk {k : Str} {m : List (Str × Int)} {x : Option Int} (hx : some (mgt k m) = some x) : lkA (Q5 k (ei8.ents m)) (ei8.val ei8.zero) false = ei8.val (x.getD ei8.zero) := Nn (h := ei8.val) (fun _ => rfl) rfl hx
theorem ei8.lkNT {x : Option Int} (hx : some none = some x) : lkA none (ei8.val ei8.zero) true = .tup [ei8.val (x.getD ei8.zero), .d (.bool x.isSome)] := Ai (h := ei8.val) rfl hx
theorem ei8.lkN {x : Option Int} (hx : some none = some x) : lkA none (ei8.val ei8.zero) false = ei8.val (x.getD ei8.zero) := Bi (h := ei8.val) rfl hx
theorem ei8.mput (k : Str) (x : Int) (m : List (Str × Int)) : mput k (ei8.row x) (ei8.ents m) = ei8.ents (mpt k x m) := (T7 ei8.row k x m).symm
def ei16.zero : Int := 0
def ei16.leaf (x : Int) : D := .int .i16 x
def ei16.cells (l : List Int) : List A := l.map fun x => .d (ei16.leaf x)
def ei16.row (x : Int) : Row := [.int .i16 x]
def ei16.rows (l : List Int) : List Row := l.map ei16.row
theorem ei16.rows_map (l : List Int) : ei16.rows l = l.map ei16.row := rfl
theorem ei16.idx {l : List Int} {n : Int} {x : Int} (h : idx l n = some x) : (ei16.rows l)[n.toNat]? = some (ei16.row x) := W8 ei16.rows_map h
theorem ei16.app (l m : List Int) : ei16.rows (l ++ m) = ei16.rows l ++ ei16.rows m := X8 ei16.rows_map l m
theorem ei16.len (l : List Int) : (ei16.rows l).length = l.length := S7 ei16.rows_map l
theorem ei16.lenA (l : List Int) : A.d (.int .i64 ((ei16.rows l).length : Nat)) = A.d (.int .i64 (l.length : Nat)) := P6 ei16.rows_map l
theorem ei16.sz (l : List Int) : ∀ r ∈ ei16.rows l, r.length = 1 := Fc ei16.rows_map (fun _ => rfl) l
theorem ei16.part {l x : List Int} {a b : Int} (h : slc l a b = some x) : a = (a.toNat : Int) ∧ b = (b.toNat : Int) ∧ a.toNat ≤ b.toNat ∧ b.toNat ≤ (ei16.rows l).length ∧ ei16.rows x = ((ei16.rows l).take b.toNat).drop a.toNat := Q6 ei16.rows_map h
def ei16.ents (m : List (Str × Int)) : List (Str × Row) := U6 ei16.row m
def ei16.val (x : Int) : A := .d (.int .i16 x)
theorem ei16.lkT {k : Str} {m : List (Str × Int)} {x : Option Int} (hx : some (mgt k m) = some x) : lkA (Q5 k (ei16.ents m)) (ei16.val ei16.zero) true = .tup [ei16.val (x.getD ei16.zero), .d (.bool x.isSome)] := Mn (h := ei16.val) (fun _ => rfl) rfl hx
theorem ei16.lk {k : Str} {m : List (Str × Int)} {x : Option Int} (hx : some (mgt k m) = some x) : lkA (Q5 k (ei16.ents m)) (ei16.val ei16.zero) false = ei16.val (x.getD ei16.zero) := Nn (h := ei16.val) (fun _ => rfl) rfl hx
theorem ei16.lkNT {x : Option Int} (hx : some none = some x) : lkA none (ei16.val ei16.zero) true = .tup [ei16.val (x.getD ei16.zero), .d (.bool x.isSome)] := Ai (h := ei16.val) rfl hx
theorem ei16.lkN {x : Option Int} (hx : some none = some x) : lkA none (ei16.val ei16.zero) false = ei16.val (x.getD ei16.zero) := Bi (h := ei16.val) rfl hx
theorem ei16.mput (k : Str) (x : Int) (m : List (Str × Int)) : mput k (ei16.row x) (ei16.ents m) = ei16.ents (mpt k x m) := (T7 ei16.row k x m).symm
def ei32.zero : Int := 0
def ei32.leaf (x : Int) : D := .int .i32 x
def ei32.cells (l : List Int) : List A := l.map fun x => .d (ei32.leaf x)
def ei32.row (x : Int) : Row := [.int .i32 x]
def ei32.rows (l : List Int) : List Row := l.map ei32.row
theorem ei32.rows_map (l : List Int) : ei32.rows l = l.map ei32.row := rfl
theorem ei32.idx {l : List Int} {n : Int} {x : Int} (h : idx l n = some x) : (ei32.rows l)[n.toNat]? = some (ei32.row x) := W8 ei32.rows_map h
theorem ei32.app (l m : List Int) : ei32.rows (l ++ m) = ei32.rows l ++ ei32.rows m := X8 ei32.rows_map l m
theorem ei32.len (l : List Int) : (ei32.rows l).length = l.length := S7 ei32.rows_map l
theorem ei32.lenA (l : List Int) : A.d (.int .i64 ((ei32.rows l).length : Nat)) = A.d (.int .i64 (l.length : Nat)) := P6 ei32.rows_map l
theorem ei32.sz (l : List Int) : ∀ r ∈ ei32.rows l, r.length = 1 := Fc ei32.rows_map (fun _ => rfl) l
theorem ei32.part {l x : List Int} {a b : Int} (h : slc l a b = some x) : a = (a.toNat : Int) ∧ b = (b.toNat : Int) ∧ a.toNat ≤ b.toNat ∧ b.toNat ≤ (ei32.rows l).length ∧ ei32.rows x = ((ei32.rows l).take b.toNat).drop a.toNat := Q6 ei32.rows_map h
def ei32.ents (m : List (Str × Int)) : List (Str × Row) := U6 ei32.row m
def ei32.val (x : Int) : A := .d (.int .i32 x)
theorem ei32.lkT {k : Str} {m : List (Str × Int)} {x : Option Int} (hx : some (mgt k m) = some x) : lkA (Q5 k (ei32.ents m)) (ei32.val ei32.zero) true = .tup [ei32.val (x.getD ei32.zero), .d (.bool x.isSome)] := Mn (h := ei32.val) (fun _ => rfl) rfl hx
theorem ei32.lk {k : Str} {m : List (Str × Int)} {x : Option Int} (hx : some (mgt k m) = some x) : lkA (Q5 k (ei32.ents m)) (ei32.val ei32.zero) false = ei32.val (x.getD ei32.zero) := Nn (h := ei32.val) (fun _ => rfl) rfl hx
theorem ei32.lkNT {x : Option Int} (hx : some none = some x) : lkA none (ei32.val ei32.zero) true = .tup [ei32.val (x.getD ei32.zero), .d (.bool x.isSome)] := Ai (h := ei32.val) rfl hx
theorem ei32.lkN {x : Option Int} (hx : some none = some x) : lkA none (ei32.val ei32.zero) false = ei32.val (x.getD ei32.zero) := Bi (h := ei32.val) rfl hx
theorem ei32.mput (k : Str) (x : Int) (m : List (Str × Int)) : mput k (ei32.row x) (ei32.ents m) = ei32.ents (mpt k x m) := (T7 ei32.row k x m).symm
def ei64.zero : Int := 0
def ei64.leaf (x : Int) : D := .int .i64 x
def ei64.cells (l : List Int) : List A := l.map fun x => .d (ei64.leaf x)
def ei64.row (x : Int) : Row := [.int .i64 x]
def ei64.rows (l : List Int) : List Row := l.map ei64.row
theorem ei64.rows_map (l : List Int) : ei64.rows l = l.map ei64.row := rfl
theorem ei64.idx {l : List Int} {n : Int} {x : Int} (h : idx l n = some x) : (ei64.rows l)[n.toNat]? = some (ei64.row x) := W8 ei64.rows_map h
theorem ei64.app (l m : List Int) : ei64.rows (l ++ m) = ei64.rows l ++ ei64.rows m := X8 ei64.rows_map l m
theorem ei64.len (l : List Int) : (ei64.rows l).length = l.length := S7 ei64.rows_map l
theorem ei64.lenA (l : List Int) : A.d (.int .i64 ((ei64.rows l).length : Nat)) = A.d (.int .i64 (l.length : Nat)) := P6 ei64.rows_map l
theorem ei64.sz (l : List Int) : ∀ r ∈ ei64.rows l, r.length = 1 := Fc ei64.rows_map (fun _ => rfl) l
theorem ei64.part {l x : List Int} {a b : Int} (h : slc l a b = some x) : a = (a.toNat : Int) ∧ b = (b.toNat : Int) ∧ a.toNat ≤ b.toNat ∧ b.toNat ≤ (ei64.rows l).length ∧ ei64.rows x = ((ei64.rows l).take b.toNat).drop a.toNat := Q6 ei64.rows_map h
def ei64.ents (m : List (Str × Int)) : List (Str × Row) := U6 ei64.row m
def ei64.val (x : Int) : A := .d (.int .i64 x)
theorem ei64.lkT {k : Str} {m : List (Str × Int)} {x : Option Int} (hx : some (mgt k m) = some x) : lkA (Q5 k (ei64.ents m)) (ei64.val ei64.zero) true = .tup [ei64.val (x.getD ei64.zero), .d (.bool x.isSome)] := Mn (h := ei64.val) (fun _ => rfl) rfl hx
theorem ei64.lk {k : Str} {m : List (Str × Int)} {x : Option Int} (hx : some (mgt k m) = some x) : lkA (Q5 k (ei64.ents m)) (ei64.val ei64.zero) false = ei64.val (x.getD ei64.zero) := Nn (h := ei64.val) (fun _ => rfl) rfl hx
theorem ei64.lkNT {x : Option Int} (hx : some none = some x) : lkA none (ei64.val ei64.zero) true = .tup [ei64.val (x.getD ei64.zero), .d (.bool x.isSome)] := Ai (h := ei64.val) rfl hx
theorem ei64.lkN {x : Option Int} (hx : some none = some x) : lkA none (ei64.val ei64.zero) false = ei64.val (x.getD ei64.zero) := Bi (h := ei64.val) rfl hx
theorem ei64.mput (k : Str) (x : Int) (m : List (Str × Int)) : mput k (ei64.row x) (ei64.ents m) = ei64.ents (mpt k x m) := (T7 ei64.row k x m).symm
def eu8.zero : Int := 0
def eu8.leaf (x : Int) : D := .int .u8 x
def eu8.cells (l : List Int) : List A := l.map fun x => .d (eu8.leaf x)
def eu8.row (x : Int) : Row := [.int .u8 x]
def eu8.rows (l : List Int) : List Row := l.map eu8.row
theorem eu8.rows_map (l : List Int) : eu8.rows l = l.map eu8.row := rfl
theorem eu8.idx {l : List Int} {n : Int} {x : Int} (h : idx l n = some x) : (eu8.rows l)[n.toNat]? = some (eu8.row x) := W8 eu8.rows_map h
theorem eu8.app (l m : List Int) : eu8.rows (l ++ m) = eu8.rows l ++ eu8.rows m := X8 eu8.rows_map l m
theorem eu8.len (l : List Int) : (eu8.rows l).length = l.length := S7 eu8.rows_map l
theorem eu8.lenA (l : List Int) : A.d (.int .i64 ((eu8.rows l).length : Nat)) = A.d (.int .i64 (l.length : Nat)) := P6 eu8.rows_map l
theorem eu8.sz (l : List Int) : ∀ r ∈ eu8.rows l, r.length = 1 := Fc eu8.rows_map (fun _ => rfl) l
theorem eu8.part {l x : List Int} {a b : Int} (h : slc l a b = some x) : a = (a.toNat : Int) ∧ b = (b.toNat : Int) ∧ a.toNat ≤ b.toNat ∧ b.toNat ≤ (eu8.rows l).length ∧ eu8.rows x = ((eu8.rows l).take b.toNat).drop a.toNat := Q6 eu8.rows_map h
def eu8.ents (m : List (Str × Int)) : List (Str × Row) := U6 eu8.row m
def eu8.val (x : Int) : A := .d (.int .u8 x)
theorem eu8.lkT {k : Str} {m : List (Str × Int)} {x : Option Int} (hx : some (mgt k m) = some x) : lkA (Q5 k (eu8.ents m)) (eu8.val eu8.zero) true = .tup [eu8.val (x.getD eu8.zero), .d (.bool x.isSome)] := Mn (h := eu8.val) (fun _ => rfl) rfl hx
theorem eu8.lk {k : Str} {m : List (Str × Int)} {x : Option Int} (hx : some (mgt k m) = some x) : lkA (Q5 k (eu8.ents m)) (eu8.val eu8.zero) false = eu8.val (x.getD eu8.zero) := Nn (h := eu8.val) (fun _ => rfl) rfl hx
theorem eu8.lkNT {x : Option Int} (hx : some none = some x) : lkA none (eu8.val eu8.zero) true = .tup [eu8.val (x.getD eu8.zero), .d (.bool x.isSome)] := Ai (h := eu8.val) rfl hx
theorem eu8.lkN {x : Option Int} (hx : some none = some x) : lkA none (eu8.val eu8.zero) false = eu8.val (x.getD eu8.zero) := Bi (h := eu8.val) rfl hx
theorem eu8.mput (k : Str) (x : Int) (m : List (Str × Int)) : mput k (eu8.row x) (eu8.ents m) = eu8.ents (mpt k x m) := (T7 eu8.row k x m).symm
def eu16.zero : Int := 0
def eu16.leaf (x : Int) : D := .int .u16 x
def eu16.cells (l : List Int) : List A := l.map fun x => .d (eu16.leaf x)
def eu16.row (x : Int) : Row := [.int .u16 x]
def eu16.rows (l : List Int) : List Row := l.map eu16.row
theorem eu16.rows_map (l : List Int) : eu16.rows l = l.map eu16.row := rfl
theorem eu16.idx {l : List Int} {n : Int} {x : Int} (h : idx l n = some x) : (eu16.rows l)[n.toNat]? = some (eu16.row x) := W8 eu16.rows_map h
theorem eu16.app (l m : List Int) : eu16.rows (l ++ m) = eu16.rows l ++ eu16.rows m := X8 eu16.rows_map l m
theorem eu16.len (l : List Int) : (eu16.rows l).length = l.length := S7 eu16.rows_map l
theorem eu16.lenA (l : List Int) : A.d (.int .i64 ((eu16.rows l).length : Nat)) = A.d (.int .i64 (l.length : Nat)) := P6 eu16.rows_map l
theorem eu16.sz (l : List Int) : ∀ r ∈ eu16.rows l, r.length = 1 := Fc eu16.rows_map (fun _ => rfl) l
theorem eu16.part {l x : List Int} {a b : Int} (h : slc l a b = some x) : a = (a.toNat : Int) ∧ b = (b.toNat : Int) ∧ a.toNat ≤ b.toNat ∧ b.toNat ≤ (eu16.rows l).length ∧ eu16.rows x = ((eu16.rows l).take b.toNat).drop a.toNat := Q6 eu16.rows_map h
def eu16.ents (m : List (Str × Int)) : List (Str × Row) := U6 eu16.row m
def eu16.val (x : Int) : A := .d (.int .u16 x)
theorem eu16.lkT {k : Str} {m : List (Str × Int)} {x : Option Int} (hx : some (mgt k m) = some x) : lkA (Q5 k (eu16.ents m)) (eu16.val eu16.zero) true = .tup [eu16.val (x.getD eu16.zero), .d (.bool x.isSome)] := Mn (h := eu16.val) (fun _ => rfl) rfl hx
theorem eu16.lk {k : Str} {m : List (Str × Int)} {x : Option Int} (hx : some (mgt k m) = some x) : lkA (Q5 k (eu16.ents m)) (eu16.val eu16.zero) false = eu16.val (x.getD eu16.zero) := Nn (h := eu16.val) (fun _ => rfl) rfl hx
theorem eu16.lkNT {x : Option Int} (hx : some none = some x) : lkA none (eu16.val eu16.zero) true = .tup [eu16.val (x.getD eu16.zero), .d (.bool x.isSome)] := Ai (h := eu16.val) rfl hx
theorem eu16.lkN {x : Option Int} (hx : some none = some x) : lkA none (eu16.val eu16.zero) false = eu16.val (x.getD eu16.zero) := Bi (h := eu16.val) rfl hx
theorem eu16.mput (k : Str) (x : Int) (m : List (Str × Int)) : mput k (eu16.row x) (eu16.ents m) = eu16.ents (mpt k x m) := (T7 eu16.row k x m).symm
def eu32.zero : Int := 0
def eu32.leaf (x : Int) : D := .int .u32 x
def eu32.cells (l : List Int) : List A := l.map fun x => .d (eu32.leaf x)
def eu32.row (x : Int) : Row := [.int .u32 x]
def eu32.rows (l : List Int) : List Row := l.map eu32.row
theorem eu32.rows_map (l : List Int) : eu32.rows l = l.map eu32.row := rfl
theorem eu32.idx {l : List Int} {n : Int} {x : Int} (h : idx l n = some x) : (eu32.rows l)[n.toNat]? = some (eu32.row x) := W8 eu32.rows_map h
theorem eu32.app (l m : List Int) : eu32.rows (l ++ m) = eu32.rows l ++ eu32.rows m := X8 eu32.rows_map l m
theorem eu32.len (l : List Int) : (eu32.rows l).length = l.length := S7 eu32.rows_map l
theorem eu32.lenA (l : List Int) : A.d (.int .i64 ((eu32.rows l).length : Nat)) = A.d (.int .i64 (l.length : Nat)) := P6 eu32.rows_map l
theorem eu32.sz (l : List Int) : ∀ r ∈ eu32.rows l, r.length = 1 := Fc eu32.rows_map (fun _ => rfl) l
theorem eu32.part {l x : List Int} {a b : Int} (h : slc l a b = some x) : a = (a.toNat : Int) ∧ b = (b.toNat : Int) ∧ a.toNat ≤ b.toNat ∧ b.toNat ≤ (eu32.rows l).length ∧ eu32.rows x = ((eu32.rows l).take b.toNat).drop a.toNat := Q6 eu32.rows_map h
def eu32.ents (m : List (Str × Int)) : List (Str × Row) := U6 eu32.row m
def eu32.val (x : Int) : A := .d (.int .u32 x)
theorem eu32.lkT {k : Str} {m : List (Str × Int)} {x : Option Int} (hx : some (mgt k m) = some x) : lkA (Q5 k (eu32.ents m)) (eu32.val eu32.zero) true = .tup [eu32.val (x.getD eu32.zero), .d (.bool x.isSome)] := Mn (h := eu32.val) (fun _ => rfl) rfl hx
theorem eu32.lk {k : Str} {m : List (Str × Int)} {x : Option Int} (hx : some (mgt k m) = some x) : lkA (Q5 k (eu32.ents m)) (eu32.val eu32.zero) false = eu32.val (x.getD eu32.zero) := Nn (h := eu32.val) (fun _ => rfl) rfl hx
theorem eu32.lkNT {x : Option Int} (hx : some none = some x) : lkA none (eu32.val eu32.zero) true = .tup [eu32.val (x.getD eu32.zero), .d (.bool x.isSome)] := Ai (h := eu32.val) rfl hx
theorem eu32.lkN {x : Option Int} (hx : some none = some x) : lkA none (eu32.val eu32.zero) false = eu32.val (x.getD eu32.zero) := Bi (h := eu32.val) rfl hx
theorem eu32.mput (k : Str) (x : Int) (m : List (Str × Int)) : mput k (eu32.row x) (eu32.ents m) = eu32.ents (mpt k x m) := (T7 eu32.row k x m).symm
def eu64.zero : Int := 0
def eu64.leaf (x : Int) : D := .int .u64 x
def eu64.cells (l : List Int) : List A := l.map fun x => .d (eu64.leaf x)
def eu64.row (x : Int) : Row := [.int .u64 x]
def eu64.rows (l : List Int) : List Row := l.map eu64.row
theorem eu64.rows_map (l : List Int) : eu64.rows l = l.map eu64.row := rfl
theorem eu64.idx {l : List Int} {n : Int} {x : Int} (h : idx l n = some x) : (eu64.rows l)[n.toNat]? = some (eu64.row x) := W8 eu64.rows_map h
theorem eu64.app (l m : List Int) : eu64.rows (l ++ m) = eu64.rows l ++ eu64.rows m := X8 eu64.rows_map l m
theorem eu64.len (l : List Int) : (eu64.rows l).length = l.length := S7 eu64.rows_map l
theorem eu64.lenA (l : List Int) : A.d (.int .i64 ((eu64.rows l).length : Nat)) = A.d (.int .i64 (l.length : Nat)) := P6 eu64.rows_map l
theorem eu64.sz (l : List Int) : ∀ r ∈ eu64.rows l, r.length = 1 := Fc eu64.rows_map (fun _ => rfl) l
theorem eu64.part {l x : List Int} {a b : Int} (h : slc l a b = some x) : a = (a.toNat : Int) ∧ b = (b.toNat : Int) ∧ a.toNat ≤ b.toNat ∧ b.toNat ≤ (eu64.rows l).length ∧ eu64.rows x = ((eu64.rows l).take b.toNat).drop a.toNat := Q6 eu64.rows_map h
def eu64.ents (m : List (Str × Int)) : List (Str × Row) := U6 eu64.row m
def eu64.val (x : Int) : A := .d (.int .u64 x)
theorem eu64.lkT {k : Str} {m : List (Str × Int)} {x : Option Int} (hx : some (mgt k m) = some x) : lkA (Q5 k (eu64.ents m)) (eu64.val eu64.zero) true = .tup [eu64.val (x.getD eu64.zero), .d (.bool x.isSome)] := Mn (h := eu64.val) (fun _ => rfl) rfl hx
theorem eu64.lk {k : Str} {m : List (Str × Int)} {x : Option Int} (hx : some (mgt k m) = some x) : lkA (Q5 k (eu64.ents m)) (eu64.val eu64.zero) false = eu64.val (x.getD eu64.zero) := Nn (h := eu64.val) (fun _ => rfl) rfl hx
theorem eu64.lkNT {x : Option Int} (hx : some none = some x) : lkA none (eu64.val eu64.zero) true = .tup [eu64.val (x.getD eu64.zero), .d (.bool x.isSome)] := Ai (h := eu64.val) rfl hx
theorem eu64.lkN {x : Option Int} (hx : some none = some x) : lkA none (eu64.val eu64.zero) false = eu64.val (x.getD eu64.zero) := Bi (h := eu64.val) rfl hx
theorem eu64.mput (k : Str) (x : Int) (m : List (Str × Int)) : mput k (eu64.row x) (eu64.ents m) = eu64.ents (mpt k x m) := (T7 eu64.row k x m).symm
structure D0 where
  Kind : Int
  Low : Int
  High : Int
  Size : Int
  Name : Str
  Names : List Str
  Of : List D0
def D0.zero : D0 := ⟨0, 0, 0, 0, [], [], []⟩
instance : Inhabited D0 := ⟨D0.zero⟩
mutual
def D0.rowX : D0 → Row
  | .mk y0 y1 y2 y3 y4 y5 y6 => [.int .i64 y0, .int .i64 y1, .int .i64 y2, .int .i64 y3, .str y4, .sl (estr.rows y5), .sl (D0.rowsX y6)]
def D0.rowsX : List D0 → List Row
  | [] => []
  | x :: r => D0.rowX x :: D0.rowsX r
end
def D0.rows (l : List D0) : List Row := D0.rowsX l
def D0.row (x : D0) : Row := [.int .i64 x.Kind, .int .i64 x.Low, .int .i64 x.High, .int .i64 x.Size, .str x.Name, .sl (estr.rows x.Names), .sl (D0.rows x.Of)]
theorem D0.rows_map : ∀ l, D0.rows l = l.map D0.row
  | [] => rfl
  | x :: r => by
    show D0.rowX x :: D0.rows r = D0.row x :: r.map D0.row
    rw [D0.rows_map r]
    cases x
    rfl
def D0.cells (x : D0) : List A := [.d (.int .i64 x.Kind), .d (.int .i64 x.Low), .d (.int .i64 x.High), .d (.int .i64 x.Size), .d (.str x.Name), .d (.sl (estr.rows x.Names)), .d (.sl (D0.rows x.Of))]
theorem D0.idx {l : List D0} {n : Int} {x : D0} (h : idx l n = some x) : (D0.rows l)[n.toNat]? = some (D0.row x) := W8 D0.rows_map h
theorem D0.app (l m : List D0) : D0.rows (l ++ m) = D0.rows l ++ D0.rows m := X8 D0.rows_map l m
theorem D0.len (l : List D0) : (D0.rows l).length = l.length := S7 D0.rows_map l
theorem D0.lenA (l : List D0) : A.d (.int .i64 ((D0.rows l).length : Nat)) = A.d (.int .i64 (l.length : Nat)) := P6 D0.rows_map l
theorem D0.sz (l : List D0) : ∀ r ∈ D0.rows l, r.length = 7 := Fc D0.rows_map (fun _ => rfl) l
theorem D0.part {l x : List D0} {a b : Int} (h : slc l a b = some x) : a = (a.toNat : Int) ∧ b = (b.toNat : Int) ∧ a.toNat ≤ b.toNat ∧ b.toNat ≤ (D0.rows l).length ∧ D0.rows x = ((D0.rows l).take b.toNat).drop a.toNat := Q6 D0.rows_map h
def D0.ents (m : List (Str × D0)) : List (Str × Row) := U6 D0.row m
def D0.val (x : D0) : A := .agg (D0.cells x)
theorem D0.lkT {k : Str} {m : List (Str × D0)} {x : Option D0} (hx : some (mgt k m) = some x) : lkA (Q5 k (D0.ents m)) (D0.val D0.zero) true = .tup [D0.val (x.getD D0.zero), .d (.bool x.isSome)] := Mn (h := D0.val) (fun _ => rfl) rfl hx
theorem D0.lk {k : Str} {m : List (Str × D0)} {x : Option D0} (hx : some (mgt k m) = some x) : lkA (Q5 k (D0.ents m)) (D0.val D0.zero) false = D0.val (x.getD D0.zero) := Nn (h := D0.val) (fun _ => rfl) rfl hx
theorem D0.lkNT {x : Option D0} (hx : some none = some x) : lkA none (D0.val D0.zero) true = .tup [D0.val (x.getD D0.zero), .d (.bool x.isSome)] := Ai (h := D0.val) rfl hx
theorem D0.lkN {x : Option D0} (hx : some none = some x) : lkA none (D0.val D0.zero) false = D0.val (x.getD D0.zero) := Bi (h := D0.val) rfl hx
theorem D0.mput (k : Str) (x : D0) (m : List (Str × D0)) : mput k (D0.row x) (D0.ents m) = D0.ents (mpt k x m) := (T7 D0.row k x m).symm
structure A0 where
  Op : Int
  NV : Int
  Name : Str
  Kids : List A0
def A0.zero : A0 := ⟨0, 0, [], []⟩
instance : Inhabited A0 := ⟨A0.zero⟩
mutual
def A0.rowX : A0 → Row
  | .mk y0 y1 y2 y3 => [.int .i64 y0, .int .i64 y1, .str y2, .sl (A0.rowsX y3)]
def A0.rowsX : List A0 → List Row
  | [] => []
  | x :: r => A0.rowX x :: A0.rowsX r
end
def A0.rows (l : List A0) : List Row := A0.rowsX l
def A0.row (x : A0) : Row := [.int .i64 x.Op, .int .i64 x.NV, .str x.Name, .sl (A0.rows x.Kids)]
theorem A0.rows_map : ∀ l, A0.rows l = l.map A0.row
  | [] => rfl
  | x :: r => by
    show A0.rowX x :: A0.rows r = A0.row x :: r.map A0.row
    rw [A0.rows_map r]
    cases x
    rfl
def A0.cells (x : A0) : List A := [.d (.int .i64 x.Op), .d (.int .i64 x.NV), .d (.str x.Name), .d (.sl (A0.rows x.Kids))]
theorem A0.idx {l : List A0} {n : Int} {x : A0} (h : idx l n = some x) : (A0.rows l)[n.toNat]? = some (A0.row x) := W8 A0.rows_map h
theorem A0.app (l m : List A0) : A0.rows (l ++ m) = A0.rows l ++ A0.rows m := X8 A0.rows_map l m
theorem A0.len (l : List A0) : (A0.rows l).length = l.length := S7 A0.rows_map l
theorem A0.lenA (l : List A0) : A.d (.int .i64 ((A0.rows l).length : Nat)) = A.d (.int .i64 (l.length : Nat)) := P6 A0.rows_map l
theorem A0.sz (l : List A0) : ∀ r ∈ A0.rows l, r.length = 4 := Fc A0.rows_map (fun _ => rfl) l
theorem A0.part {l x : List A0} {a b : Int} (h : slc l a b = some x) : a = (a.toNat : Int) ∧ b = (b.toNat : Int) ∧ a.toNat ≤ b.toNat ∧ b.toNat ≤ (A0.rows l).length ∧ A0.rows x = ((A0.rows l).take b.toNat).drop a.toNat := Q6 A0.rows_map h
def A0.ents (m : List (Str × A0)) : List (Str × Row) := U6 A0.row m
def A0.val (x : A0) : A := .agg (A0.cells x)
theorem A0.lkT {k : Str} {m : List (Str × A0)} {x : Option A0} (hx : some (mgt k m) = some x) : lkA (Q5 k (A0.ents m)) (A0.val A0.zero) true = .tup [A0.val (x.getD A0.zero), .d (.bool x.isSome)] := Mn (h := A0.val) (fun _ => rfl) rfl hx
theorem A0.lk {k : Str} {m : List (Str × A0)} {x : Option A0} (hx : some (mgt k m) = some x) : lkA (Q5 k (A0.ents m)) (A0.val A0.zero) false = A0.val (x.getD A0.zero) := Nn (h := A0.val) (fun _ => rfl) rfl hx
theorem A0.lkNT {x : Option A0} (hx : some none = some x) : lkA none (A0.val A0.zero) true = .tup [A0.val (x.getD A0.zero), .d (.bool x.isSome)] := Ai (h := A0.val) rfl hx
theorem A0.lkN {x : Option A0} (hx : some none = some x) : lkA none (A0.val A0.zero) false = A0.val (x.getD A0.zero) := Bi (h := A0.val) rfl hx
theorem A0.mput (k : Str) (x : A0) (m : List (Str × A0)) : mput k (A0.row x) (A0.ents m) = A0.ents (mpt k x m) := (T7 A0.row k x m).symm
structure B0 where
  Verb : Int
  Place : A0
  Value : A0
  Name : Str
  Args : List A0
  NV : Int
  Low : Int
  High : Int
  Numbers : List Int
  Then : List B0
  Else : List B0
def B0.zero : B0 := ⟨0, ⟨0, 0, [], []⟩, ⟨0, 0, [], []⟩, [], [], 0, 0, 0, [], [], []⟩
instance : Inhabited B0 := ⟨B0.zero⟩
mutual
def B0.rowX : B0 → Row
  | .mk y0 y1 y2 y3 y4 y5 y6 y7 y8 y9 y10 => [.int .i64 y0, .int .i64 y1.Op, .int .i64 y1.NV, .str y1.Name, .sl (A0.rows y1.Kids), .int .i64 y2.Op, .int .i64 y2.NV, .str y2.Name, .sl (A0.rows y2.Kids), .str y3, .sl (A0.rows y4), .int .i64 y5, .int .i64 y6, .int .i64 y7, .sl (ei64.rows y8), .sl (B0.rowsX y9), .sl (B0.rowsX y10)]
def B0.rowsX : List B0 → List Row
  | [] => []
  | x :: r => B0.rowX x :: B0.rowsX r
end
def B0.rows (l : List B0) : List Row := B0.rowsX l
def B0.row (x : B0) : Row := [.int .i64 x.Verb, .int .i64 x.Place.Op, .int .i64 x.Place.NV, .str x.Place.Name, .sl (A0.rows x.Place.Kids), .int .i64 x.Value.Op, .int .i64 x.Value.NV, .str x.Value.Name, .sl (A0.rows x.Value.Kids), .str x.Name, .sl (A0.rows x.Args), .int .i64 x.NV, .int .i64 x.Low, .int .i64 x.High, .sl (ei64.rows x.Numbers), .sl (B0.rows x.Then), .sl (B0.rows x.Else)]
theorem B0.rows_map : ∀ l, B0.rows l = l.map B0.row
  | [] => rfl
  | x :: r => by
    show B0.rowX x :: B0.rows r = B0.row x :: r.map B0.row
    rw [B0.rows_map r]
    cases x
    rfl
def B0.cells (x : B0) : List A := [.d (.int .i64 x.Verb), .d (.int .i64 x.Place.Op), .d (.int .i64 x.Place.NV), .d (.str x.Place.Name), .d (.sl (A0.rows x.Place.Kids)), .d (.int .i64 x.Value.Op), .d (.int .i64 x.Value.NV), .d (.str x.Value.Name), .d (.sl (A0.rows x.Value.Kids)), .d (.str x.Name), .d (.sl (A0.rows x.Args)), .d (.int .i64 x.NV), .d (.int .i64 x.Low), .d (.int .i64 x.High), .d (.sl (ei64.rows x.Numbers)), .d (.sl (B0.rows x.Then)), .d (.sl (B0.rows x.Else))]
theorem B0.idx {l : List B0} {n : Int} {x : B0} (h : idx l n = some x) : (B0.rows l)[n.toNat]? = some (B0.row x) := W8 B0.rows_map h
theorem B0.app (l m : List B0) : B0.rows (l ++ m) = B0.rows l ++ B0.rows m := X8 B0.rows_map l m
theorem B0.len (l : List B0) : (B0.rows l).length = l.length := S7 B0.rows_map l
theorem B0.lenA (l : List B0) : A.d (.int .i64 ((B0.rows l).length : Nat)) = A.d (.int .i64 (l.length : Nat)) := P6 B0.rows_map l
theorem B0.sz (l : List B0) : ∀ r ∈ B0.rows l, r.length = 17 := Fc B0.rows_map (fun _ => rfl) l
theorem B0.part {l x : List B0} {a b : Int} (h : slc l a b = some x) : a = (a.toNat : Int) ∧ b = (b.toNat : Int) ∧ a.toNat ≤ b.toNat ∧ b.toNat ≤ (B0.rows l).length ∧ B0.rows x = ((B0.rows l).take b.toNat).drop a.toNat := Q6 B0.rows_map h
def B0.ents (m : List (Str × B0)) : List (Str × Row) := U6 B0.row m
def B0.val (x : B0) : A := .agg (B0.cells x)
theorem B0.lkT {k : Str} {m : List (Str × B0)} {x : Option B0} (hx : some (mgt k m) = some x) : lkA (Q5 k (B0.ents m)) (B0.val B0.zero) true = .tup [B0.val (x.getD B0.zero), .d (.bool x.isSome)] := Mn (h := B0.val) (fun _ => rfl) rfl hx
theorem B0.lk {k : Str} {m : List (Str × B0)} {x : Option B0} (hx : some (mgt k m) = some x) : lkA (Q5 k (B0.ents m)) (B0.val B0.zero) false = B0.val (x.getD B0.zero) := Nn (h := B0.val) (fun _ => rfl) rfl hx
theorem B0.lkNT {x : Option B0} (hx : some none = some x) : lkA none (B0.val B0.zero) true = .tup [B0.val (x.getD B0.zero), .d (.bool x.isSome)] := Ai (h := B0.val) rfl hx
theorem B0.lkN {x : Option B0} (hx : some none = some x) : lkA none (B0.val B0.zero) false = B0.val (x.getD B0.zero) := Bi (h := B0.val) rfl hx
theorem B0.mput (k : Str) (x : B0) (m : List (Str × B0)) : mput k (B0.row x) (B0.ents m) = B0.ents (mpt k x m) := (T7 B0.row k x m).symm
structure E0 where
  Kind : Int
  Name : Str
  TypeV : D0
  Init : Int
  Value : A0
  Params : List E0
  Vars : List E0
  Body : List B0
def E0.zero : E0 := ⟨0, [], ⟨0, 0, 0, 0, [], [], []⟩, 0, ⟨0, 0, [], []⟩, [], [], []⟩
instance : Inhabited E0 := ⟨E0.zero⟩
mutual
def E0.rowX : E0 → Row
  | .mk y0 y1 y2 y3 y4 y5 y6 y7 => [.int .i64 y0, .str y1, .int .i64 y2.Kind, .int .i64 y2.Low, .int .i64 y2.High, .int .i64 y2.Size, .str y2.Name, .sl (estr.rows y2.Names), .sl (D0.rows y2.Of), .int .i64 y3, .int .i64 y4.Op, .int .i64 y4.NV, .str y4.Name, .sl (A0.rows y4.Kids), .sl (E0.rowsX y5), .sl (E0.rowsX y6), .sl (B0.rows y7)]
def E0.rowsX : List E0 → List Row
  | [] => []
  | x :: r => E0.rowX x :: E0.rowsX r
end
def E0.rows (l : List E0) : List Row := E0.rowsX l
def E0.row (x : E0) : Row := [.int .i64 x.Kind, .str x.Name, .int .i64 x.TypeV.Kind, .int .i64 x.TypeV.Low, .int .i64 x.TypeV.High, .int .i64 x.TypeV.Size, .str x.TypeV.Name, .sl (estr.rows x.TypeV.Names), .sl (D0.rows x.TypeV.Of), .int .i64 x.Init, .int .i64 x.Value.Op, .int .i64 x.Value.NV, .str x.Value.Name, .sl (A0.rows x.Value.Kids), .sl (E0.rows x.Params), .sl (E0.rows x.Vars), .sl (B0.rows x.Body)]
theorem E0.rows_map : ∀ l, E0.rows l = l.map E0.row
  | [] => rfl
  | x :: r => by
    show E0.rowX x :: E0.rows r = E0.row x :: r.map E0.row
    rw [E0.rows_map r]
    cases x
    rfl
def E0.cells (x : E0) : List A := [.d (.int .i64 x.Kind), .d (.str x.Name), .d (.int .i64 x.TypeV.Kind), .d (.int .i64 x.TypeV.Low), .d (.int .i64 x.TypeV.High), .d (.int .i64 x.TypeV.Size), .d (.str x.TypeV.Name), .d (.sl (estr.rows x.TypeV.Names)), .d (.sl (D0.rows x.TypeV.Of)), .d (.int .i64 x.Init), .d (.int .i64 x.Value.Op), .d (.int .i64 x.Value.NV), .d (.str x.Value.Name), .d (.sl (A0.rows x.Value.Kids)), .d (.sl (E0.rows x.Params)), .d (.sl (E0.rows x.Vars)), .d (.sl (B0.rows x.Body))]
theorem E0.idx {l : List E0} {n : Int} {x : E0} (h : idx l n = some x) : (E0.rows l)[n.toNat]? = some (E0.row x) := W8 E0.rows_map h
theorem E0.app (l m : List E0) : E0.rows (l ++ m) = E0.rows l ++ E0.rows m := X8 E0.rows_map l m
theorem E0.len (l : List E0) : (E0.rows l).length = l.length := S7 E0.rows_map l
theorem E0.lenA (l : List E0) : A.d (.int .i64 ((E0.rows l).length : Nat)) = A.d (.int .i64 (l.length : Nat)) := P6 E0.rows_map l
theorem E0.sz (l : List E0) : ∀ r ∈ E0.rows l, r.length = 17 := Fc E0.rows_map (fun _ => rfl) l
theorem E0.part {l x : List E0} {a b : Int} (h : slc l a b = some x) : a = (a.toNat : Int) ∧ b = (b.toNat : Int) ∧ a.toNat ≤ b.toNat ∧ b.toNat ≤ (E0.rows l).length ∧ E0.rows x = ((E0.rows l).take b.toNat).drop a.toNat := Q6 E0.rows_map h
def E0.ents (m : List (Str × E0)) : List (Str × Row) := U6 E0.row m
def E0.val (x : E0) : A := .agg (E0.cells x)
theorem E0.lkT {k : Str} {m : List (Str × E0)} {x : Option E0} (hx : some (mgt k m) = some x) : lkA (Q5 k (E0.ents m)) (E0.val E0.zero) true = .tup [E0.val (x.getD E0.zero), .d (.bool x.isSome)] := Mn (h := E0.val) (fun _ => rfl) rfl hx
theorem E0.lk {k : Str} {m : List (Str × E0)} {x : Option E0} (hx : some (mgt k m) = some x) : lkA (Q5 k (E0.ents m)) (E0.val E0.zero) false = E0.val (x.getD E0.zero) := Nn (h := E0.val) (fun _ => rfl) rfl hx
theorem E0.lkNT {x : Option E0} (hx : some none = some x) : lkA none (E0.val E0.zero) true = .tup [E0.val (x.getD E0.zero), .d (.bool x.isSome)] := Ai (h := E0.val) rfl hx
theorem E0.lkN {x : Option E0} (hx : some none = some x) : lkA none (E0.val E0.zero) false = E0.val (x.getD E0.zero) := Bi (h := E0.val) rfl hx
theorem E0.mput (k : Str) (x : E0) (m : List (Str × E0)) : mput k (E0.row x) (E0.ents m) = E0.ents (mpt k x m) := (T7 E0.row k x m).symm
structure L0 where
  Decls : List E0
  Body : List B0
def L0.zero : L0 := ⟨[], []⟩
instance : Inhabited L0 := ⟨L0.zero⟩
def L0.row (x : L0) : Row := [.sl (E0.rows x.Decls), .sl (B0.rows x.Body)]
def L0.rows (l : List L0) : List Row := l.map L0.row
theorem L0.rows_map (l : List L0) : L0.rows l = l.map L0.row := rfl
def L0.cells (x : L0) : List A := [.d (.sl (E0.rows x.Decls)), .d (.sl (B0.rows x.Body))]
theorem L0.idx {l : List L0} {n : Int} {x : L0} (h : idx l n = some x) : (L0.rows l)[n.toNat]? = some (L0.row x) := W8 L0.rows_map h
theorem L0.app (l m : List L0) : L0.rows (l ++ m) = L0.rows l ++ L0.rows m := X8 L0.rows_map l m
theorem L0.len (l : List L0) : (L0.rows l).length = l.length := S7 L0.rows_map l
theorem L0.lenA (l : List L0) : A.d (.int .i64 ((L0.rows l).length : Nat)) = A.d (.int .i64 (l.length : Nat)) := P6 L0.rows_map l
theorem L0.sz (l : List L0) : ∀ r ∈ L0.rows l, r.length = 2 := Fc L0.rows_map (fun _ => rfl) l
theorem L0.part {l x : List L0} {a b : Int} (h : slc l a b = some x) : a = (a.toNat : Int) ∧ b = (b.toNat : Int) ∧ a.toNat ≤ b.toNat ∧ b.toNat ≤ (L0.rows l).length ∧ L0.rows x = ((L0.rows l).take b.toNat).drop a.toNat := Q6 L0.rows_map h
def L0.ents (m : List (Str × L0)) : List (Str × Row) := U6 L0.row m
def L0.val (x : L0) : A := .agg (L0.cells x)
theorem L0.lkT {k : Str} {m : List (Str × L0)} {x : Option L0} (hx : some (mgt k m) = some x) : lkA (Q5 k (L0.ents m)) (L0.val L0.zero) true = .tup [L0.val (x.getD L0.zero), .d (.bool x.isSome)] := Mn (h := L0.val) (fun _ => rfl) rfl hx
theorem L0.lk {k : Str} {m : List (Str × L0)} {x : Option L0} (hx : some (mgt k m) = some x) : lkA (Q5 k (L0.ents m)) (L0.val L0.zero) false = L0.val (x.getD L0.zero) := Nn (h := L0.val) (fun _ => rfl) rfl hx
theorem L0.lkNT {x : Option L0} (hx : some none = some x) : lkA none (L0.val L0.zero) true = .tup [L0.val (x.getD L0.zero), .d (.bool x.isSome)] := Ai (h := L0.val) rfl hx
theorem L0.lkN {x : Option L0} (hx : some none = some x) : lkA none (L0.val L0.zero) false = L0.val (x.getD L0.zero) := Bi (h := L0.val) rfl hx
theorem L0.mput (k : Str) (x : L0) (m : List (Str × L0)) : mput k (L0.row x) (L0.ents m) = L0.ents (mpt k x m) := (T7 L0.row k x m).symm
structure C0 where
  nodes : Int
  depth : Int
  badForm : Bool
  badName : Bool
  badNumber : Bool
def C0.zero : C0 := ⟨0, 0, false, false, false⟩
instance : Inhabited C0 := ⟨C0.zero⟩
def C0.row (x : C0) : Row := [.int .i64 x.nodes, .int .i64 x.depth, .bool x.badForm, .bool x.badName, .bool x.badNumber]
def C0.rows (l : List C0) : List Row := l.map C0.row
theorem C0.rows_map (l : List C0) : C0.rows l = l.map C0.row := rfl
def C0.cells (x : C0) : List A := [.d (.int .i64 x.nodes), .d (.int .i64 x.depth), .d (.bool x.badForm), .d (.bool x.badName), .d (.bool x.badNumber)]
theorem C0.idx {l : List C0} {n : Int} {x : C0} (h : idx l n = some x) : (C0.rows l)[n.toNat]? = some (C0.row x) := W8 C0.rows_map h
theorem C0.app (l m : List C0) : C0.rows (l ++ m) = C0.rows l ++ C0.rows m := X8 C0.rows_map l m
theorem C0.len (l : List C0) : (C0.rows l).length = l.length := S7 C0.rows_map l
theorem C0.lenA (l : List C0) : A.d (.int .i64 ((C0.rows l).length : Nat)) = A.d (.int .i64 (l.length : Nat)) := P6 C0.rows_map l
theorem C0.sz (l : List C0) : ∀ r ∈ C0.rows l, r.length = 5 := Fc C0.rows_map (fun _ => rfl) l
theorem C0.part {l x : List C0} {a b : Int} (h : slc l a b = some x) : a = (a.toNat : Int) ∧ b = (b.toNat : Int) ∧ a.toNat ≤ b.toNat ∧ b.toNat ≤ (C0.rows l).length ∧ C0.rows x = ((C0.rows l).take b.toNat).drop a.toNat := Q6 C0.rows_map h
def C0.ents (m : List (Str × C0)) : List (Str × Row) := U6 C0.row m
def C0.val (x : C0) : A := .agg (C0.cells x)
theorem C0.lkT {k : Str} {m : List (Str × C0)} {x : Option C0} (hx : some (mgt k m) = some x) : lkA (Q5 k (C0.ents m)) (C0.val C0.zero) true = .tup [C0.val (x.getD C0.zero), .d (.bool x.isSome)] := Mn (h := C0.val) (fun _ => rfl) rfl hx
theorem C0.lk {k : Str} {m : List (Str × C0)} {x : Option C0} (hx : some (mgt k m) = some x) : lkA (Q5 k (C0.ents m)) (C0.val C0.zero) false = C0.val (x.getD C0.zero) := Nn (h := C0.val) (fun _ => rfl) rfl hx
theorem C0.lkNT {x : Option C0} (hx : some none = some x) : lkA none (C0.val C0.zero) true = .tup [C0.val (x.getD C0.zero), .d (.bool x.isSome)] := Ai (h := C0.val) rfl hx
theorem C0.lkN {x : Option C0} (hx : some none = some x) : lkA none (C0.val C0.zero) false = C0.val (x.getD C0.zero) := Bi (h := C0.val) rfl hx
theorem C0.mput (k : Str) (x : C0) (m : List (Str × C0)) : mput k (C0.row x) (C0.ents m) = C0.ents (mpt k x m) := (T7 C0.row k x m).symm
structure P0 where
  place : Bool
  value : Bool
  name : Bool
  args : Bool
  n : Bool
  bounds : Bool
  numbers : Bool
  thenV : Bool
  other : Bool
def P0.zero : P0 := ⟨false, false, false, false, false, false, false, false, false⟩
instance : Inhabited P0 := ⟨P0.zero⟩
def P0.row (x : P0) : Row := [.bool x.place, .bool x.value, .bool x.name, .bool x.args, .bool x.n, .bool x.bounds, .bool x.numbers, .bool x.thenV, .bool x.other]
def P0.rows (l : List P0) : List Row := l.map P0.row
theorem P0.rows_map (l : List P0) : P0.rows l = l.map P0.row := rfl
def P0.cells (x : P0) : List A := [.d (.bool x.place), .d (.bool x.value), .d (.bool x.name), .d (.bool x.args), .d (.bool x.n), .d (.bool x.bounds), .d (.bool x.numbers), .d (.bool x.thenV), .d (.bool x.other)]
theorem P0.idx {l : List P0} {n : Int} {x : P0} (h : idx l n = some x) : (P0.rows l)[n.toNat]? = some (P0.row x) := W8 P0.rows_map h
theorem P0.app (l m : List P0) : P0.rows (l ++ m) = P0.rows l ++ P0.rows m := X8 P0.rows_map l m
theorem P0.len (l : List P0) : (P0.rows l).length = l.length := S7 P0.rows_map l
theorem P0.lenA (l : List P0) : A.d (.int .i64 ((P0.rows l).length : Nat)) = A.d (.int .i64 (l.length : Nat)) := P6 P0.rows_map l
theorem P0.sz (l : List P0) : ∀ r ∈ P0.rows l, r.length = 9 := Fc P0.rows_map (fun _ => rfl) l
theorem P0.part {l x : List P0} {a b : Int} (h : slc l a b = some x) : a = (a.toNat : Int) ∧ b = (b.toNat : Int) ∧ a.toNat ≤ b.toNat ∧ b.toNat ≤ (P0.rows l).length ∧ P0.rows x = ((P0.rows l).take b.toNat).drop a.toNat := Q6 P0.rows_map h
def P0.ents (m : List (Str × P0)) : List (Str × Row) := U6 P0.row m
def P0.val (x : P0) : A := .agg (P0.cells x)
theorem P0.lkT {k : Str} {m : List (Str × P0)} {x : Option P0} (hx : some (mgt k m) = some x) : lkA (Q5 k (P0.ents m)) (P0.val P0.zero) true = .tup [P0.val (x.getD P0.zero), .d (.bool x.isSome)] := Mn (h := P0.val) (fun _ => rfl) rfl hx
theorem P0.lk {k : Str} {m : List (Str × P0)} {x : Option P0} (hx : some (mgt k m) = some x) : lkA (Q5 k (P0.ents m)) (P0.val P0.zero) false = P0.val (x.getD P0.zero) := Nn (h := P0.val) (fun _ => rfl) rfl hx
theorem P0.lkNT {x : Option P0} (hx : some none = some x) : lkA none (P0.val P0.zero) true = .tup [P0.val (x.getD P0.zero), .d (.bool x.isSome)] := Ai (h := P0.val) rfl hx
theorem P0.lkN {x : Option P0} (hx : some none = some x) : lkA none (P0.val P0.zero) false = P0.val (x.getD P0.zero) := Bi (h := P0.val) rfl hx
theorem P0.mput (k : Str) (x : P0) (m : List (Str × P0)) : mput k (P0.row x) (P0.ents m) = P0.ents (mpt k x m) := (T7 P0.row k x m).symm
structure I0 where
  nodes : Int
  depth : Int
def I0.zero : I0 := ⟨0, 0⟩
instance : Inhabited I0 := ⟨I0.zero⟩
def I0.row (x : I0) : Row := [.int .i64 x.nodes, .int .i64 x.depth]
def I0.rows (l : List I0) : List Row := l.map I0.row
theorem I0.rows_map (l : List I0) : I0.rows l = l.map I0.row := rfl
def I0.cells (x : I0) : List A := [.d (.int .i64 x.nodes), .d (.int .i64 x.depth)]
theorem I0.idx {l : List I0} {n : Int} {x : I0} (h : idx l n = some x) : (I0.rows l)[n.toNat]? = some (I0.row x) := W8 I0.rows_map h
theorem I0.app (l m : List I0) : I0.rows (l ++ m) = I0.rows l ++ I0.rows m := X8 I0.rows_map l m
theorem I0.len (l : List I0) : (I0.rows l).length = l.length := S7 I0.rows_map l
theorem I0.lenA (l : List I0) : A.d (.int .i64 ((I0.rows l).length : Nat)) = A.d (.int .i64 (l.length : Nat)) := P6 I0.rows_map l
theorem I0.sz (l : List I0) : ∀ r ∈ I0.rows l, r.length = 2 := Fc I0.rows_map (fun _ => rfl) l
theorem I0.part {l x : List I0} {a b : Int} (h : slc l a b = some x) : a = (a.toNat : Int) ∧ b = (b.toNat : Int) ∧ a.toNat ≤ b.toNat ∧ b.toNat ≤ (I0.rows l).length ∧ I0.rows x = ((I0.rows l).take b.toNat).drop a.toNat := Q6 I0.rows_map h
def I0.ents (m : List (Str × I0)) : List (Str × Row) := U6 I0.row m
def I0.val (x : I0) : A := .agg (I0.cells x)
theorem I0.lkT {k : Str} {m : List (Str × I0)} {x : Option I0} (hx : some (mgt k m) = some x) : lkA (Q5 k (I0.ents m)) (I0.val I0.zero) true = .tup [I0.val (x.getD I0.zero), .d (.bool x.isSome)] := Mn (h := I0.val) (fun _ => rfl) rfl hx
theorem I0.lk {k : Str} {m : List (Str × I0)} {x : Option I0} (hx : some (mgt k m) = some x) : lkA (Q5 k (I0.ents m)) (I0.val I0.zero) false = I0.val (x.getD I0.zero) := Nn (h := I0.val) (fun _ => rfl) rfl hx
theorem I0.lkNT {x : Option I0} (hx : some none = some x) : lkA none (I0.val I0.zero) true = .tup [I0.val (x.getD I0.zero), .d (.bool x.isSome)] := Ai (h := I0.val) rfl hx
theorem I0.lkN {x : Option I0} (hx : some none = some x) : lkA none (I0.val I0.zero) false = I0.val (x.getD I0.zero) := Bi (h := I0.val) rfl hx
theorem I0.mput (k : Str) (x : I0) (m : List (Str × I0)) : mput k (I0.row x) (I0.ents m) = I0.ents (mpt k x m) := (T7 I0.row k x m).symm
end Go.Proofs.YtmilgoloagbmpaaGreatDoor

set_option maxRecDepth 100000
set_option maxHeartbeats 4000000
set_option linter.unusedVariables false
namespace Go.Proofs.YtmilgoloagbmpaaGreatDoor
open Go.Am
def Bp (n : Int) : Option A0 :=
  some (A0.mk 0 n [] [])
abbrev O1j (n : Int) (res : A0) : Prop := R0 C 34 [.d (.int .i64 n)] [] (fun x H' => H' = [] ∧ x = .agg (A0.cells res))
theorem Ez {n : Int} {res : A0} (hh : Bp n = some res) : O1j n res := by
  unfold Bp at hh
  refine R0.intro hC Tryz.func34 rfl rfl rfl ?_
  refine s' rfl rfl (J0.nf hC rfl (n' (s' rfl rfl (q' rfl (q' rfl (J0.s hC rfl (n' (re' ?_))))))))
  obtain rfl := oi' hh
  exact ⟨_, _, [], rfl, .rfl, trivial, rfl, rfl, rfl, rfl⟩
def Ld (o : Int) (kids : List A0) : Option A0 :=
  some (A0.mk o 0 [] kids)
abbrev M1g (o : Int) (kids : List A0) (res : A0) : Prop := R0 C 33 [.d (.int .i64 o), .d (.sl (A0.rows kids))] [] (fun x H' => H' = [] ∧ x = .agg (A0.cells res))
theorem Bg {o : Int} {kids : List A0} {res : A0} (hh : Ld o kids = some res) : M1g o kids res := by
  unfold Ld at hh
  refine R0.intro hC Tryz.func33 rfl rfl rfl ?_
  refine s' rfl rfl (J0.nf hC rfl (n' (s' rfl rfl (q' rfl (q' rfl (q' rfl (J0.s hC rfl (n' (re' ?_)))))))))
  obtain rfl := oi' hh
  exact ⟨_, _, [], rfl, .rfl, trivial, rfl, rfl, rfl, rfl⟩
def Rc (s : Str) : Option A0 :=
  some (A0.mk 3 0 s [])
abbrev N1g (s : Str) (res : A0) : Prop := R0 C 35 [.d (.str s)] [] (fun x H' => H' = [] ∧ x = .agg (A0.cells res))
theorem De {s : Str} {res : A0} (hh : Rc s = some res) : N1g s res := by
  unfold Rc at hh
  refine R0.intro hC Tryz.func35 rfl rfl rfl ?_
  refine s' rfl rfl (J0.nf hC rfl (n' (s' rfl rfl (q' rfl (q' rfl (J0.s hC rfl (n' (re' ?_))))))))
  obtain rfl := oi' hh
  exact ⟨_, _, [], rfl, .rfl, trivial, rfl, rfl, rfl, rfl⟩
def B6 (d : Int) (syntaxReport : C0) : Option C0 :=
  some (C0.mk syntaxReport.nodes (max syntaxReport.depth d) syntaxReport.badForm syntaxReport.badName syntaxReport.badNumber)
abbrev K12 (d : Int) (syntaxReport : C0) (res : C0) : Prop := R0 C 100 [.ref 0 0, .d (.int .i64 d)] [.row (C0.cells syntaxReport) 75] (fun x H' => H' = [.row (C0.cells res) 75] ∧ x = .tup [])
theorem Kk {d : Int} {syntaxReport : C0} {res : C0} (hh : B6 d syntaxReport = some res) : K12 d syntaxReport res := by
  unfold B6 at hh
  refine R0.intro hC Tryz.func100 rfl rfl rfl ?_
  refine R' rfl rfl (q' rfl (q' rfl (q' rfl (q' rfl (q' rfl (q' rfl (q' rfl (q' rfl (q' rfl (J0.s hC rfl (n' ?_)))))))))))
  obtain rfl := oi' hh
  exact ⟨_, _, [.row [.d (.int .i64 syntaxReport.nodes), .d (.int .i64 (max syntaxReport.depth d)), .d (.bool syntaxReport.badForm), .d (.bool syntaxReport.badName), .d (.bool syntaxReport.badNumber)] 75], rfl, .rfl, ⟨⟨rfl, .refl _, rfl⟩, trivial⟩, rfl, rfl, rfl, rfl⟩
def Tb (op : Int) (v9 : Bool) : Option Int :=
  if v9 = true then
    some 1
  else
    if (op == 5) = true then
      some 2
    else
      if (op == 23) = true then
        some 3
      else
        if (bif (decide (op ≥ 8)) then (decide (op ≤ 22)) else false) = true then
          some 2
        else
          some (-1)
abbrev E16 (op : Int) (v9 : Bool) (res : Int) : Prop := AEx (Fx.mk C 23 0) (sr (cb (sr (bk (sr (sl (sr (N0 Tryz.f102)))))))) (X0 [(0, .d (.int .i64 op)), (3, .d (.int .i64 op)), (9, .d (.bool v9))]) [] (Am.InBlock 0 (Am.Then (Fx.mk C 23 0) (sr (sr (N0 Tryz.f102))) (Am.Ends (Fx.mk C 23 0) Tryz.f102.results.toList (fun x H' => H' = [] ∧ x = .d (.int .i64 res)))))
theorem Cp {op : Int} {v9 : Bool} {res : Int} (hh : Tb op v9 = some res) : E16 op v9 res := by
  unfold Tb at hh
  refine ci' rfl hh (fun hh => ?_) (fun hh => ?_)
  · refine s' rfl rfl (q' rfl (n' (re' ?_)))
    obtain rfl := oi' hh
    exact ⟨_, _, [], rfl, .rfl, trivial, rfl, rfl, rfl, rfl⟩
  refine s' rfl rfl (q' rfl (q' rfl (n' ?_)))
  refine ci' rfl hh (fun hh => ?_) (fun hh => ?_)
  · refine s' rfl rfl (q' rfl (n' (re' ?_)))
    obtain rfl := oi' hh
    exact ⟨_, _, [], rfl, .rfl, trivial, rfl, rfl, rfl, rfl⟩
  refine s' rfl rfl (q' rfl (q' rfl (n' ?_)))
  refine ci' rfl hh (fun hh => ?_) (fun hh => ?_)
  · refine s' rfl rfl (q' rfl (n' (re' ?_)))
    obtain rfl := oi' hh
    exact ⟨_, _, [], rfl, .rfl, trivial, rfl, rfl, rfl, rfl⟩
  refine sk' (S' (sg' 6 rfl (a0' rfl (a0' rfl (a0' rfl (a0' rfl (a1' rfl (pa' rfl (an' (n' ?_))))))))))
  refine ci' rfl hh (fun hh => ?_) (fun hh => ?_)
  · refine s' rfl rfl (q' rfl (n' (re' ?_)))
    obtain rfl := oi' hh
    exact ⟨_, _, [], rfl, .rfl, trivial, rfl, rfl, rfl, rfl⟩
  refine sk' (s' rfl rfl (q' rfl (n' (re' ?_))))
  obtain rfl := oi' hh
  exact ⟨_, _, [], rfl, .rfl, trivial, rfl, rfl, rfl, rfl⟩
def B9 (op : Int) (v4 : Bool) : Option Int :=
  if v4 = true then
    some 0
  else
    if (op == 4) = true then
      Tb op (op == 4)
    else
      if (op == 6) = true then
        Tb op (op == 6)
      else
        Tb op (op == 7)
abbrev F16 (op : Int) (v4 : Bool) (res : Int) : Prop := AEx (Fx.mk C 23 0) (sr (bk (sr (sl (sr (N0 Tryz.f102)))))) (X0 [(0, .d (.int .i64 op)), (3, .d (.int .i64 op)), (4, .d (.bool v4))]) [] (Am.InBlock 0 (Am.Then (Fx.mk C 23 0) (sr (sr (N0 Tryz.f102))) (Am.Ends (Fx.mk C 23 0) Tryz.f102.results.toList (fun x H' => H' = [] ∧ x = .d (.int .i64 res)))))
theorem Ui {op : Int} {v4 : Bool} {res : Int} (hh : B9 op v4 = some res) : F16 op v4 res := by
  unfold B9 at hh
  refine ci' rfl hh (fun hh => ?_) (fun hh => ?_)
  · refine s' rfl rfl (q' rfl (n' (re' ?_)))
    obtain rfl := oi' hh
    exact ⟨_, _, [], rfl, .rfl, trivial, rfl, rfl, rfl, rfl⟩
  refine S' (s' rfl rfl (q' rfl (q' rfl (n' ?_))))
  refine ci' rfl hh (fun hh => ?_) (fun hh => ?_)
  · refine sk' ?_
    refine AEx.wk ?_ (Cp hh)
    exact ⟨⟨⟨.rfl, rfl⟩, ⟨⟨.rfl, rfl⟩, ⟨⟨.rfl, rfl⟩, trivial⟩⟩⟩, trivial, rfl⟩
  refine s' rfl rfl (q' rfl (q' rfl (n' ?_)))
  refine ci' rfl hh (fun hh => ?_) (fun hh => ?_)
  · refine sk' ?_
    refine AEx.wk ?_ (Cp hh)
    exact ⟨⟨⟨.rfl, rfl⟩, ⟨⟨.rfl, rfl⟩, ⟨⟨.rfl, rfl⟩, trivial⟩⟩⟩, trivial, rfl⟩
  refine R' rfl rfl (q' rfl (q' rfl (n' ?_)))
  refine AEx.wk ?_ (Cp hh)
  exact ⟨⟨⟨.rfl, rfl⟩, ⟨⟨.rfl, rfl⟩, ⟨⟨.rfl, rfl⟩, trivial⟩⟩⟩, trivial, rfl⟩
def Hh (op : Int) : Option Int :=
  if (op == 0) = true then
    B9 op (op == 0)
  else
    if (op == 1) = true then
      B9 op (op == 1)
    else
      if (op == 2) = true then
        B9 op (op == 2)
      else
        B9 op (op == 3)
abbrev A1b (op : Int) (res : Int) : Prop := R0 C 102 [.d (.int .i64 op)] [] (fun x H' => H' = [] ∧ x = .d (.int .i64 res))
theorem U19 {op : Int} {res : Int} (hh : Hh op = some res) : A1b op res := by
  unfold Hh at hh
  refine R0.intro hC Tryz.func102 rfl rfl rfl ?_
  refine s' rfl rfl (q' rfl (n' (S' (s' rfl rfl (q' rfl (n' (AEx.block (S' (s' rfl rfl (q' rfl (q' rfl (n' ?_))))))))))))
  refine ci' rfl hh (fun hh => ?_) (fun hh => ?_)
  · refine sk' ?_
    refine AEx.wk ?_ (Ui hh)
    exact ⟨⟨⟨.rfl, rfl⟩, ⟨⟨.rfl, rfl⟩, ⟨⟨.rfl, rfl⟩, trivial⟩⟩⟩, trivial, rfl⟩
  refine s' rfl rfl (q' rfl (q' rfl (n' ?_)))
  refine ci' rfl hh (fun hh => ?_) (fun hh => ?_)
  · refine sk' ?_
    refine AEx.wk ?_ (Ui hh)
    exact ⟨⟨⟨.rfl, rfl⟩, ⟨⟨.rfl, rfl⟩, ⟨⟨.rfl, rfl⟩, trivial⟩⟩⟩, trivial, rfl⟩
  refine s' rfl rfl (q' rfl (q' rfl (n' ?_)))
  refine ci' rfl hh (fun hh => ?_) (fun hh => ?_)
  · refine sk' ?_
    refine AEx.wk ?_ (Ui hh)
    exact ⟨⟨⟨.rfl, rfl⟩, ⟨⟨.rfl, rfl⟩, ⟨⟨.rfl, rfl⟩, trivial⟩⟩⟩, trivial, rfl⟩
  refine R' rfl rfl (q' rfl (q' rfl (n' ?_)))
  refine AEx.wk ?_ (Ui hh)
  exact ⟨⟨⟨.rfl, rfl⟩, ⟨⟨.rfl, rfl⟩, ⟨⟨.rfl, rfl⟩, trivial⟩⟩⟩, trivial, rfl⟩
def W0 (ok : Bool) (syntaxReport : C0) : Option C0 :=
  some (C0.mk syntaxReport.nodes syntaxReport.depth (bif syntaxReport.badForm then true else (!ok)) syntaxReport.badName syntaxReport.badNumber)
abbrev L12 (ok : Bool) (syntaxReport : C0) (res : C0) : Prop := R0 C 101 [.ref 0 0, .d (.bool ok)] [.row (C0.cells syntaxReport) 75] (fun x H' => H' = [.row (C0.cells res) 75] ∧ x = .tup [])
theorem B1 {ok : Bool} {syntaxReport : C0} {res : C0} (hh : W0 ok syntaxReport = some res) : L12 ok syntaxReport res := by
  unfold W0 at hh
  refine R0.intro hC Tryz.func101 rfl rfl rfl ?_
  refine AEx.regionG 11 rfl (a0' rfl (a0' rfl (a0' rfl (a0' rfl (a0' rfl (a0' rfl (a0' rfl (a1' rfl (po' rfl (a0' rfl (a0' rfl (an' (J0.s hC rfl ?_)))))))))))))
  refine n' ?_
  obtain rfl := oi' hh
  exact ⟨_, _, [.row [.d (.int .i64 syntaxReport.nodes), .d (.int .i64 syntaxReport.depth), .d (.bool (bif syntaxReport.badForm then true else (!ok))), .d (.bool syntaxReport.badName), .d (.bool syntaxReport.badNumber)] 75], rfl, .rfl, ⟨⟨rfl, .refl _, rfl⟩, trivial⟩, rfl, rfl, rfl, rfl⟩
def C9 (o0 : A0) : Option Bool :=
  if (bif (o0.Op == 4) then true else (o0.Op == 5)) = true then
    if (((o0.Kids).length : Int) == 0) = true then
      some false
    else
      idx o0.Kids 0 >>= fun x1 =>
      C9 x1
  else
    some (o0.Op == 3)
  partial_fixpoint
abbrev Mq (o0 : A0) (res : Bool) : Prop := Q0 (Fx.mk C 22 0) (lo (bk (sl (sr (N0 Tryz.f103))))) (X0 [(1, .ref 0 0)]) [.row (A0.cells o0) 36] (Am.InBlock 0 (Am.Then (Fx.mk C 22 0) (sr (sr (N0 Tryz.f103))) (Am.Ends (Fx.mk C 22 0) Tryz.f103.results.toList (fun x H' => H' = [] ∧ x = .d (.bool res)))))
theorem I13 : (∀ (o0 : A0) (res : Bool), C9 o0 = some res → Mq o0 res) := by
  refine C9.partial_correctness (fun o0 res => Mq o0 res) ?_
  · intro g0 ih0 o0 res hh
    refine Q0.unroll ?_
    refine S' (sg' 8 rfl (a0' rfl (a0' rfl (a0' rfl (a0' rfl (a0' rfl (a1' rfl (a1' rfl (po' rfl (an' (n' ?_)))))))))))
    refine ci' rfl hh (fun hh => ?_) (fun hh => ?_)
    · refine sk' (AEx.block (S' (s' rfl rfl (q' rfl (q' rfl (qe' rfl trivial (A0.lenA _) (q' rfl (n' ?_))))))))
      refine ci' rfl hh (fun hh => ?_) (fun hh => ?_)
      · refine s' rfl rfl (q' rfl (n' (re' ?_)))
        obtain rfl := oi' hh
        exact ⟨_, _, [], rfl, .rfl, trivial, rfl, rfl, rfl, rfl⟩
      obtain ⟨x1, hx1, hh⟩ := bs' hh
      refine sk' (R' rfl rfl (q' rfl (q' rfl (i' rfl (V0 hx1) (A0.idx hx1) rfl (q' rfl (J0.s hC rfl (n' ?_)))))))
      refine Q0.wk ?_ (ih0 _ _ hh)
      exact ⟨⟨⟨.rfl, rfl⟩, trivial⟩, ⟨⟨rfl, .refl _, rfl⟩, trivial⟩, rfl⟩
    refine ex' (s' rfl rfl (q' rfl (q' rfl (q' rfl (q' rfl (n' (re' ?_)))))))
    obtain rfl := oi' hh
    exact ⟨_, _, [], rfl, .rfl, trivial, rfl, rfl, rfl, rfl⟩
theorem I14 {o0 : A0} {res : Bool} (hh : C9 o0 = some res) : Mq o0 res := (I13) _ _ hh
def Ef (e : A0) : Option Bool :=
  C9 e
abbrev B1b (e : A0) (res : Bool) : Prop := R0 C 103 [.agg (A0.cells e)] [] (fun x H' => H' = [] ∧ x = .d (.bool res))
theorem Zz {e : A0} {res : Bool} (hh : Ef e = some res) : B1b e res := by
  unfold Ef at hh
  refine R0.intro hC Tryz.func103 rfl rfl rfl ?_
  refine s' rfl rfl (J0.n hC rfl (q' rfl (n' (S' (AEx.block ?_)))))
  refine AEx.ofLoop ?_
  refine Q0.wk ?_ (I14 hh)
  exact ⟨⟨⟨.rfl, rfl⟩, trivial⟩, ⟨⟨rfl, .refl _, rfl⟩, trivial⟩, rfl⟩
def Zg (c : Int) : Option Bool :=
  some (bif (decide (c ≥ 97)) then (decide (c ≤ 122)) else false)
abbrev S17 (c : Int) (res : Bool) : Prop := R0 C 182 [.d (.int .u8 c)] [] (fun x H' => H' = [] ∧ x = .d (.bool res))
theorem G16 {c : Int} {res : Bool} (hh : Zg c = some res) : S17 c res := by
  unfold Zg at hh
  refine R0.intro hC Tryz.func182 rfl rfl rfl ?_
  refine s' rfl rfl (q' rfl (n' (sg' 7 rfl (a0' rfl (a0' rfl (a0' rfl (a0' rfl (a1' rfl (pa' rfl (a0' rfl (an' (n' (re' ?_)))))))))))))
  obtain rfl := oi' hh
  exact ⟨_, _, [], rfl, .rfl, trivial, rfl, rfl, rfl, rfl⟩
def Ri (c : Int) : Option Bool :=
  some (bif (decide (c ≥ 48)) then (decide (c ≤ 57)) else false)
abbrev V19 (c : Int) (res : Bool) : Prop := R0 C 183 [.d (.int .u8 c)] [] (fun x H' => H' = [] ∧ x = .d (.bool res))
theorem T17 {c : Int} {res : Bool} (hh : Ri c = some res) : V19 c res := by
  unfold Ri at hh
  refine R0.intro hC Tryz.func183 rfl rfl rfl ?_
  refine s' rfl rfl (q' rfl (n' (sg' 7 rfl (a0' rfl (a0' rfl (a0' rfl (a0' rfl (a1' rfl (pa' rfl (a0' rfl (an' (n' (re' ?_)))))))))))))
  obtain rfl := oi' hh
  exact ⟨_, _, [], rfl, .rfl, trivial, rfl, rfl, rfl, rfl⟩
def C6 (s : Str) (v6 : Int) : Option Bool :=
  if (decide (v6 < ((s).length : Int))) = true then
    idx s v6 >>= fun x1 =>
    Zg (x1.toNat : Int) >>= fun x2 =>
    (if ((!x2) && (!(v6 == 0))) = true then idx s v6 else some default) >>= fun x3 =>
    (if ((!x2) && (!(v6 == 0))) = true then Ri (x3.toNat : Int) else some default) >>= fun x4 =>
    if (bif (!x2) then (bif (v6 == 0) then true else (!x4)) else false) = true then
      some false
    else
      C6 s (IntKind.i64.wrap (v6 + 1))
  else
    some (!(s == []))
  partial_fixpoint
abbrev Nq (s : Str) (v6 : Int) (res : Bool) : Prop := Q0 (Fx.mk C 28 0) (lo (bk (sr (sl (sr (N0 Tryz.f160)))))) (X0 [(0, .d (.str s)), (5, .d (.int .i64 ((s).length : Int))), (6, .d (.int .i64 v6))]) [] (Am.InBlock 0 (Am.Then (Fx.mk C 28 0) (sr (sr (N0 Tryz.f160))) (Am.Ends (Fx.mk C 28 0) Tryz.f160.results.toList (fun x H' => H' = [] ∧ x = .d (.bool res)))))
theorem J13 (s : Str) : (∀ (v6 : Int) (res : Bool), C6 s v6 = some res → Nq s v6 res) := by
  refine C6.partial_correctness s
    (fun v6 res => Nq s v6 res) ?_
  · intro g0 ih0 v6 res hh
    refine Q0.unroll ?_
    refine s' rfl rfl (q' rfl (n' (S' ?_)))
    refine ci' rfl hh (fun hh => ?_) (fun hh => ?_)
    · obtain ⟨x1, hx1, hh⟩ := bs' hh
      obtain ⟨x2, hx2, hh⟩ := bs' hh
      obtain ⟨x3, hx3, hh⟩ := bs' hh
      obtain ⟨x4, hx4, hh⟩ := bs' hh
      refine sk' (S' (AEx.block (s' rfl rfl (q' rfl (q' rfl (n' (sg' 16 rfl (a0' rfl (a0' rfl (AG.x hC rfl rfl (fun _ => trivial) (fun hw => ⟨V0 hx1, Lv hx1⟩) (AG.c rfl rfl (fun _ => trivial) (fun _ => G16 hx2) (a0' rfl (a0' rfl ?_)))))))))))))
      refine a0' rfl (a1' rfl (a1' rfl (a0' rfl (a0' rfl (AG.x hC rfl rfl (fun hg => ⟨hg, hg, trivial⟩) (fun hw => ⟨V0 (V1 hw hx3), Lv (V1 hw hx3)⟩) (AG.c rfl rfl (fun hg => ⟨hg, trivial⟩) (fun hw => T17 (V1 hw hx4)) (a1' rfl (pO' rfl (pa' rfl (an' (n' ?_)))))))))))
      refine ci' rfl hh (fun hh => ?_) (fun hh => ?_)
      · refine s' rfl rfl (q' rfl (n' (re' ?_)))
        obtain rfl := oi' hh
        exact ⟨_, _, [], rfl, .rfl, trivial, rfl, rfl, rfl, rfl⟩
      refine sk' (R' rfl rfl (q' rfl (q' rfl (n' ?_))))
      refine Q0.wk ?_ (ih0 _ _ hh)
      exact ⟨⟨⟨.rfl, rfl⟩, ⟨⟨.rfl, rfl⟩, ⟨⟨.rfl, rfl⟩, trivial⟩⟩⟩, trivial, rfl⟩
    refine ex' (s' rfl rfl (q' rfl (q' rfl (q' rfl (n' (re' ?_))))))
    obtain rfl := oi' hh
    exact ⟨_, _, [], rfl, .rfl, trivial, rfl, rfl, rfl, rfl⟩
theorem J14 {s : Str} {v6 : Int} {res : Bool} (hh : C6 s v6 = some res) : Nq s v6 res := (J13 s) _ _ hh
def Mk (s : Str) : Option Bool :=
  C6 s 0
abbrev C1b (s : Str) (res : Bool) : Prop := R0 C 160 [.d (.str s)] [] (fun x H' => H' = [] ∧ x = .d (.bool res))
theorem W19 {s : Str} {res : Bool} (hh : Mk s = some res) : C1b s res := by
  unfold Mk at hh
  refine R0.intro hC Tryz.func160 rfl rfl rfl ?_
  refine s' rfl rfl (q' rfl (n' (S' (s' rfl rfl (q' rfl (q' rfl (q' rfl (n' (AEx.block ?_)))))))))
  refine AEx.ofLoop ?_
  refine Q0.wk ?_ (J14 hh)
  exact ⟨⟨⟨.rfl, rfl⟩, ⟨⟨.rfl, rfl⟩, ⟨⟨.rfl, rfl⟩, trivial⟩⟩⟩, trivial, rfl⟩
def Re (A4 : Str) : Option Bool :=
  (if (!(A4 == [])) = true then Sl A4 [32] else some default) >>= fun x1 =>
  if (!(bif (!(A4 == [])) then (!x1) else false) || (decide (1 + A4.length ≤ maxLen))) = true then
    if (!(bif (!(A4 == [])) then (!x1) else false) || (decide (([32] ++ A4).length + 1 ≤ maxLen))) = true then
      (if (bif (!(A4 == [])) then (!x1) else false) = true then Sl [32, 116, 121, 112, 101, 32, 115, 101, 99, 114, 101, 116, 32, 112, 117, 98, 108, 105, 99, 32, 114, 97, 110, 100, 111, 109, 32, 118, 97, 114, 32, 104, 97, 116, 99, 104, 32, 102, 117, 110, 99, 32, 114, 101, 116, 117, 114, 110, 32, 98, 101, 103, 105, 110, 32, 101, 110, 100, 32, 98, 111, 111, 108, 32, 105, 110, 116, 32, 97, 114, 114, 97, 121, 32, 111, 102, 32, 114, 101, 99, 111, 114, 100, 32, 116, 114, 117, 101, 32, 102, 97, 108, 115, 101, 32, 99, 97, 108, 108, 32, 114, 101, 108, 101, 97, 115, 101, 32, 111, 117, 116, 112, 117, 116, 32, 119, 97, 105, 116, 32, 105, 102, 32, 101, 108, 115, 101, 32, 119, 104, 105, 108, 101, 32, 108, 105, 109, 105, 116, 32, 102, 111, 114, 32, 116, 111, 32, 115, 101, 116, 116, 108, 101, 32, 109, 105, 110, 32, 109, 97, 120, 32] (([32] ++ A4) ++ [32]) else some default) >>= fun x2 =>
      some (bif (bif (!(A4 == [])) then (!x1) else false) then x2 else false)
    else none
  else none
abbrev U17 (A4 : Str) (res : Bool) : Prop := R0 C 161 [.d (.str A4)] [] (fun x H' => H' = [] ∧ x = .d (.bool res))
theorem H16 {A4 : Str} {res : Bool} (hh : Re A4 = some res) : U17 A4 res := by
  unfold Re at hh
  refine R0.intro hC Tryz.func161 rfl rfl rfl ?_
  obtain ⟨x1, hx1, hh⟩ := bs' hh
  obtain ⟨c7, hh⟩ := F1g hh
  obtain ⟨c8, hh⟩ := F1g hh
  obtain ⟨x2, hx2, hh⟩ := bs' hh
  refine s' rfl rfl (q' rfl (n' (sg' 14 rfl (a0' rfl (a0' rfl (a0' rfl (a0' rfl (AG.c rfl rfl (fun hg => ⟨hg, trivial⟩) (fun hw => D13 (V1 hw hx1)) (a1' rfl (pa' rfl (a0' rfl (a0' rfl (ag' rfl (fun hg => ⟨⟨hg, trivial⟩, (c7 hg)⟩) ?_)))))))))))))
  refine ag' rfl (fun hg => ⟨⟨hg, trivial⟩, (c8 hg)⟩) (AG.c rfl rfl (fun hg => ⟨hg, trivial⟩) (fun hw => D13 (V1 hw hx2)) (pa' rfl (a0' rfl (an' (n' (re' ?_))))))
  obtain rfl := oi' hh
  exact ⟨_, _, [], rfl, .rfl, trivial, rfl, rfl, rfl, rfl⟩
def Qk (s : Str) : Option Bool :=
  (if (decide (((s).length : Int) ≤ 12)) = true then Mk s else some default) >>= fun x1 =>
  (if (bif (decide (((s).length : Int) ≤ 12)) then x1 else false) = true then Re s else some default) >>= fun x2 =>
  some (bif (bif (decide (((s).length : Int) ≤ 12)) then x1 else false) then (!x2) else false)
abbrev D1b (s : Str) (res : Bool) : Prop := R0 C 130 [.d (.str s)] [] (fun x H' => H' = [] ∧ x = .d (.bool res))
theorem X19 {s : Str} {res : Bool} (hh : Qk s = some res) : D1b s res := by
  unfold Qk at hh
  refine R0.intro hC Tryz.func130 rfl rfl rfl ?_
  obtain ⟨x1, hx1, hh⟩ := bs' hh
  obtain ⟨x2, hx2, hh⟩ := bs' hh
  refine s' rfl rfl (q' rfl (n' (sg' 13 rfl (a0' rfl (a0' rfl (a0' rfl (a0' rfl (a0' rfl (AG.c rfl rfl (fun hg => ⟨hg, trivial⟩) (fun hw => W19 (V1 hw hx1)) (pa' rfl (a0' rfl (a0' rfl (AG.c rfl rfl (fun hg => ⟨hg, trivial⟩) (fun hw => H16 (V1 hw hx2)) ?_)))))))))))))
  refine a1' rfl (pa' rfl (a0' rfl (an' (n' (re' ?_)))))
  obtain rfl := oi' hh
  exact ⟨_, _, [], rfl, .rfl, trivial, rfl, rfl, rfl, rfl⟩
def Cg (s : Str) : Option Bool :=
  Qk s >>= fun x1 =>
  some x1
abbrev Y19 (s : Str) (res : Bool) : Prop := R0 C 68 [.d (.str s)] [] (fun x H' => H' = [] ∧ x = .d (.bool res))
theorem V17 {s : Str} {res : Bool} (hh : Cg s = some res) : Y19 s res := by
  unfold Cg at hh
  refine R0.intro hC Tryz.func68 rfl rfl rfl ?_
  obtain ⟨x1, hx1, hh⟩ := bs' hh
  refine s' rfl rfl (q' rfl (n' (s' rfl rfl (q' rfl (J0.c rfl rfl (X19 hx1) (q' rfl (n' (re' ?_))))))))
  obtain rfl := oi' hh
  exact ⟨_, _, [], rfl, .rfl, trivial, rfl, rfl, rfl, rfl⟩
def T3 (s : Str) (syntaxReport : C0) : Option C0 :=
  (if (!syntaxReport.badName) = true then Cg s else some default) >>= fun x1 =>
  some (C0.mk syntaxReport.nodes syntaxReport.depth syntaxReport.badForm (bif syntaxReport.badName then true else (!x1)) syntaxReport.badNumber)
abbrev M12 (s : Str) (syntaxReport : C0) (res : C0) : Prop := R0 C 104 [.ref 0 0, .d (.str s)] [.row (C0.cells syntaxReport) 75] (fun x H' => H' = [.row (C0.cells res) 75] ∧ x = .tup [])
theorem Xc {s : Str} {syntaxReport : C0} {res : C0} (hh : T3 s syntaxReport = some res) : M12 s syntaxReport res := by
  unfold T3 at hh
  refine R0.intro hC Tryz.func104 rfl rfl rfl ?_
  obtain ⟨x1, hx1, hh⟩ := bs' hh
  refine AEx.regionG 12 rfl (a0' rfl (a0' rfl (a0' rfl (a0' rfl (a0' rfl (a0' rfl (a0' rfl (AG.c rfl rfl (fun hg => ⟨hg, trivial⟩) (fun hw => V17 (V1 hw hx1)) (a1' rfl (po' rfl (a0' rfl (a0' rfl (an' ?_)))))))))))))
  refine J0.s hC rfl (n' ?_)
  obtain rfl := oi' hh
  exact ⟨_, _, [.row [.d (.int .i64 syntaxReport.nodes), .d (.int .i64 syntaxReport.depth), .d (.bool syntaxReport.badForm), .d (.bool (bif syntaxReport.badName then true else (!x1))), .d (.bool syntaxReport.badNumber)] 75], rfl, .rfl, ⟨⟨rfl, .refl _, rfl⟩, trivial⟩, rfl, rfl, rfl, rfl⟩
def I3 (n : Int) (low : Int) (high : Int) : Option Bool :=
  some (bif (decide (n ≥ low)) then (decide (n ≤ high)) else false)
abbrev Z19 (n : Int) (low : Int) (high : Int) (res : Bool) : Prop := R0 C 106 [.d (.int .i64 n), .d (.int .i64 low), .d (.int .i64 high)] [] (fun x H' => H' = [] ∧ x = .d (.bool res))
theorem A5 {n : Int} {low : Int} {high : Int} {res : Bool} (hh : I3 n low high = some res) : Z19 n low high res := by
  unfold I3 at hh
  refine R0.intro hC Tryz.func106 rfl rfl rfl ?_
  refine s' rfl rfl (q' rfl (n' (sg' 9 rfl (a0' rfl (a0' rfl (a0' rfl (a0' rfl (a0' rfl (a0' rfl (a2' rfl (pa' rfl (a0' rfl (an' ?_)))))))))))))
  refine n' (re' ?_)
  obtain rfl := oi' hh
  exact ⟨_, _, [], rfl, .rfl, trivial, rfl, rfl, rfl, rfl⟩
def O1 (ok : Bool) (syntaxReport : C0) : Option C0 :=
  some (C0.mk syntaxReport.nodes syntaxReport.depth syntaxReport.badForm syntaxReport.badName (bif syntaxReport.badNumber then true else (!ok)))
abbrev P10 (ok : Bool) (syntaxReport : C0) (res : C0) : Prop := R0 C 105 [.ref 0 0, .d (.bool ok)] [.row (C0.cells syntaxReport) 75] (fun x H' => H' = [.row (C0.cells res) 75] ∧ x = .tup [])
theorem D3 {ok : Bool} {syntaxReport : C0} {res : C0} (hh : O1 ok syntaxReport = some res) : P10 ok syntaxReport res := by
  unfold O1 at hh
  refine R0.intro hC Tryz.func105 rfl rfl rfl ?_
  refine AEx.regionG 11 rfl (a0' rfl (a0' rfl (a0' rfl (a0' rfl (a0' rfl (a0' rfl (a0' rfl (a1' rfl (po' rfl (a0' rfl (a0' rfl (an' (J0.s hC rfl ?_)))))))))))))
  refine n' ?_
  obtain rfl := oi' hh
  exact ⟨_, _, [.row [.d (.int .i64 syntaxReport.nodes), .d (.int .i64 syntaxReport.depth), .d (.bool syntaxReport.badForm), .d (.bool syntaxReport.badName), .d (.bool (bif syntaxReport.badNumber then true else (!ok)))] 75], rfl, .rfl, ⟨⟨rfl, .refl _, rfl⟩, trivial⟩, rfl, rfl, rfl, rfl⟩
mutual
def F2 (e : A0) (depth : Int) (syntaxReport : C0) : Option C0 :=
  B6 depth (C0.mk (IntKind.i64.wrap (syntaxReport.nodes + 1)) syntaxReport.depth syntaxReport.badForm syntaxReport.badName syntaxReport.badNumber) >>= fun x1 =>
  Hh e.Op >>= fun x2 =>
  W0 (x2 == ((e.Kids).length : Int)) x1 >>= fun x3 =>
  W0 (bif (e.NV == 0) then true else (e.Op == 0)) x3 >>= fun x4 =>
  W0 (bif (e.Name == []) then true else (bif (e.Op == 3) then true else (e.Op == 4))) x4 >>= fun x5 =>
  if (bif (e.Op == 4) then true else (e.Op == 5)) = true then
    Ef e >>= fun x6 =>
    W0 x6 x5 >>= fun x7 =>
    S4 e depth x7
  else
    S4 e depth x5
  partial_fixpoint
def S4 (e : A0) (depth : Int) (o0 : C0) : Option C0 :=
  if (bif (e.Op == 3) then true else (e.Op == 4)) = true then
    T3 e.Name o0 >>= fun x8 =>
    U5 e depth x8
  else
    U5 e depth o0
  partial_fixpoint
def U5 (e : A0) (depth : Int) (o01 : C0) : Option C0 :=
  if (e.Op == 0) = true then
    I3 e.NV 0 1048576 >>= fun x9 =>
    O1 x9 o01 >>= fun x10 =>
    V5 e depth x10
  else
    V5 e depth o01
  partial_fixpoint
def V5 (e : A0) (depth : Int) (o02 : C0) : Option C0 :=
  P2 e depth o02 0
  partial_fixpoint
def P2 (e : A0) (depth : Int) (o03 : C0) (v82 : Int) : Option C0 :=
  if (decide (v82 < ((e.Kids).length : Int))) = true then
    idx e.Kids v82 >>= fun x11 =>
    F2 x11 (IntKind.i64.wrap (depth + 1)) o03 >>= fun x12 =>
    P2 e depth x12 (IntKind.i64.wrap (v82 + 1))
  else
    some o03
  partial_fixpoint
end
abbrev Tl (e : A0) (depth : Int) (syntaxReport : C0) (res : C0) : Prop := R0 C 47 [.ref 0 0, .agg (A0.cells e), .d (.int .i64 depth)] [.row (C0.cells syntaxReport) 75] (fun x H' => H' = [.row (C0.cells res) 75] ∧ x = .tup [])
abbrev Fi (e : A0) (depth : Int) (o0 : C0) (res : C0) : Prop := AEx (Fx.mk C 92 1) (sr (sr (sr (sr (sr (sr (sr (sr (N0 Tryz.f47))))))))) (X0 [(0, .ref 0 0), (2, .d (.int .i64 depth)), (4, .ref 1 0), (6, .d (.bool (bif (e.Op == 3) then true else (e.Op == 4))))]) [.row (C0.cells o0) 75, .row (A0.cells e) 36] (Am.Ends (Fx.mk C 92 1) Tryz.f47.results.toList (fun x H' => H' = [.row (C0.cells res) 75] ∧ x = .tup []))
abbrev Gi (e : A0) (depth : Int) (o01 : C0) (res : C0) : Prop := AEx (Fx.mk C 92 1) (sr (sr (sr (sr (sr (sr (sr (sr (sr (N0 Tryz.f47)))))))))) (X0 [(0, .ref 0 0), (2, .d (.int .i64 depth)), (4, .ref 1 0)]) [.row (C0.cells o01) 75, .row (A0.cells e) 36] (Am.Ends (Fx.mk C 92 1) Tryz.f47.results.toList (fun x H' => H' = [.row (C0.cells res) 75] ∧ x = .tup []))
abbrev Hi (e : A0) (depth : Int) (o02 : C0) (res : C0) : Prop := AEx (Fx.mk C 92 1) (sr (sr (sr (sr (sr (sr (sr (sr (sr (sr (N0 Tryz.f47))))))))))) (X0 [(0, .ref 0 0), (2, .d (.int .i64 depth)), (4, .ref 1 0)]) [.row (C0.cells o02) 75, .row (A0.cells e) 36] (Am.Ends (Fx.mk C 92 1) Tryz.f47.results.toList (fun x H' => H' = [.row (C0.cells res) 75] ∧ x = .tup []))
abbrev Ii (e : A0) (depth : Int) (o03 : C0) (v82 : Int) (res : C0) : Prop := Q0 (Fx.mk C 92 1) (lo (bk (sr (sr (sr (sr (sr (sr (sr (sr (sr (sr (sr (N0 Tryz.f47)))))))))))))) (X0 [(0, .ref 0 0), (2, .d (.int .i64 depth)), (80, .d (.sl (A0.rows e.Kids))), (81, .d (.int .i64 ((e.Kids).length : Int))), (82, .d (.int .i64 v82))]) [.row (C0.cells o03) 75] (Am.InBlock 0 (Am.Ends (Fx.mk C 92 1) Tryz.f47.results.toList (fun x H' => H' = [.row (C0.cells res) 75] ∧ x = .tup [])))
theorem Hc : (∀ (e : A0) (depth : Int) (syntaxReport : C0) (res : C0), F2 e depth syntaxReport = some res → Tl e depth syntaxReport res) ∧
    (∀ (e : A0) (depth : Int) (o0 : C0) (res : C0), S4 e depth o0 = some res → Fi e depth o0 res) ∧
    (∀ (e : A0) (depth : Int) (o01 : C0) (res : C0), U5 e depth o01 = some res → Gi e depth o01 res) ∧
    (∀ (e : A0) (depth : Int) (o02 : C0) (res : C0), V5 e depth o02 = some res → Hi e depth o02 res) ∧
    (∀ (e : A0) (depth : Int) (o03 : C0) (v82 : Int) (res : C0), P2 e depth o03 v82 = some res → Ii e depth o03 v82 res) := by
  refine F2.mutual_partial_correctness (fun e depth syntaxReport res => Tl e depth syntaxReport res)
    (fun e depth o0 res => Fi e depth o0 res)
    (fun e depth o01 res => Gi e depth o01 res)
    (fun e depth o02 res => Hi e depth o02 res)
    (fun e depth o03 v82 res => Ii e depth o03 v82 res) ?_ ?_ ?_ ?_ ?_
  · intro g1 ih1 e depth syntaxReport res hh
    refine R0.intro hC Tryz.func47 rfl rfl rfl ?_
    obtain ⟨x1, hx1, hh⟩ := bs' hh
    obtain ⟨x2, hx2, hh⟩ := bs' hh
    obtain ⟨x3, hx3, hh⟩ := bs' hh
    obtain ⟨x4, hx4, hh⟩ := bs' hh
    obtain ⟨x5, hx5, hh⟩ := bs' hh
    refine s' rfl rfl (J0.n hC rfl (n' (s' rfl rfl (q' rfl (q' rfl (q' rfl (q' rfl (q' rfl (q' rfl (q' rfl (J0.s hC rfl (n' (s' rfl rfl ?_)))))))))))))
    refine q' rfl (q' rfl (J0.g [0] rfl (Kk hx1) ⟨.rfl, ⟨.rfl, trivial⟩⟩ rfl ⟨rfl, trivial⟩ rfl rfl (n' (S' (AEx.draw hC 8 rfl rfl rfl (Q' rfl (Q' rfl (Q' rfl (AQ.c rfl rfl (U19 hx2) (Q' rfl (Q' rfl (AQ.qe hC rfl trivial (A0.lenA _) (Q' rfl ?_)))))))))))))
    refine Qn' (J0.g [0] rfl (B1 hx3) ⟨.rfl, ⟨.rfl, trivial⟩⟩ rfl ⟨rfl, trivial⟩ rfl rfl (n' (sg' 9 rfl (a0' rfl (a0' rfl (a0' rfl (a0' rfl (a0' rfl (a0' rfl (a1' rfl (a1' rfl (po' rfl (an' ?_)))))))))))))
    refine J0.g [0] rfl (B1 hx4) ⟨.rfl, ⟨.rfl, trivial⟩⟩ rfl ⟨rfl, trivial⟩ rfl rfl (n' (sg' 9 rfl (a0' rfl (a0' rfl (a0' rfl (a0' rfl (a0' rfl (a1' rfl (a1' rfl (po' rfl (a0' rfl (an' (n' ?_)))))))))))))
    refine sg' 7 rfl (a0' rfl (a0' rfl (a0' rfl (a0' rfl (a0' rfl (a0' rfl (po' rfl (an' (J0.g [0] rfl (B1 hx5) ⟨.rfl, ⟨.rfl, trivial⟩⟩ rfl ⟨rfl, trivial⟩ rfl rfl (n' (S' (sg' 8 rfl (a0' rfl ?_)))))))))))))
    iterate 4 refine a0' rfl ?_
    refine a1' rfl (a1' rfl (po' rfl (an' (n' ?_))))
    refine ci' rfl hh (fun hh => ?_) (fun hh => ?_)
    · obtain ⟨x6, hx6, hh⟩ := bs' hh
      obtain ⟨x7, hx7, hh⟩ := bs' hh
      refine R' rfl rfl (q' rfl (q' rfl (J0.c rfl rfl (Zz hx6) (J0.g [0] rfl (B1 hx7) ⟨.rfl, ⟨.rfl, trivial⟩⟩ rfl ⟨rfl, trivial⟩ rfl rfl (n' ?_)))))
      refine AEx.wk ?_ (ih1 _ _ _ _ hh)
      exact ⟨⟨⟨.rfl, rfl⟩, ⟨⟨.rfl, rfl⟩, ⟨⟨.rfl, rfl⟩, ⟨⟨.rfl, rfl⟩, trivial⟩⟩⟩⟩, ⟨⟨rfl, .refl _, rfl⟩, ⟨⟨rfl, .refl _, rfl⟩, trivial⟩⟩, rfl⟩
    refine sk' ?_
    refine AEx.wk ?_ (ih1 _ _ _ _ hh)
    exact ⟨⟨⟨.rfl, rfl⟩, ⟨⟨.rfl, rfl⟩, ⟨⟨.rfl, rfl⟩, ⟨⟨.rfl, rfl⟩, trivial⟩⟩⟩⟩, ⟨⟨rfl, .refl _, rfl⟩, ⟨⟨rfl, .refl _, rfl⟩, trivial⟩⟩, rfl⟩
  · intro g2 ih2 e depth o0 res hh
    refine S' (s' rfl rfl (q' rfl (n' ?_)))
    refine ci' rfl hh (fun hh => ?_) (fun hh => ?_)
    · obtain ⟨x8, hx8, hh⟩ := bs' hh
      refine R' rfl rfl (q' rfl (q' rfl (q' rfl (J0.g [0] rfl (Xc hx8) ⟨.rfl, ⟨.rfl, trivial⟩⟩ rfl ⟨rfl, trivial⟩ rfl rfl (n' ?_)))))
      refine AEx.wk ?_ (ih2 _ _ _ _ hh)
      exact ⟨⟨⟨.rfl, rfl⟩, ⟨⟨.rfl, rfl⟩, ⟨⟨.rfl, rfl⟩, trivial⟩⟩⟩, ⟨⟨rfl, .refl _, rfl⟩, ⟨⟨rfl, .refl _, rfl⟩, trivial⟩⟩, rfl⟩
    refine sk' ?_
    refine AEx.wk ?_ (ih2 _ _ _ _ hh)
    exact ⟨⟨⟨.rfl, rfl⟩, ⟨⟨.rfl, rfl⟩, ⟨⟨.rfl, rfl⟩, trivial⟩⟩⟩, ⟨⟨rfl, .refl _, rfl⟩, ⟨⟨rfl, .refl _, rfl⟩, trivial⟩⟩, rfl⟩
  · intro g3 ih3 e depth o01 res hh
    refine S' (s' rfl rfl (q' rfl (q' rfl (q' rfl (n' ?_)))))
    refine ci' rfl hh (fun hh => ?_) (fun hh => ?_)
    · obtain ⟨x9, hx9, hh⟩ := bs' hh
      obtain ⟨x10, hx10, hh⟩ := bs' hh
      refine R' rfl rfl (q' rfl (q' rfl (q' rfl (J0.c rfl rfl (A5 hx9) (J0.g [0] rfl (D3 hx10) ⟨.rfl, ⟨.rfl, trivial⟩⟩ rfl ⟨rfl, trivial⟩ rfl rfl (n' ?_))))))
      refine AEx.wk ?_ (ih3 _ _ _ _ hh)
      exact ⟨⟨⟨.rfl, rfl⟩, ⟨⟨.rfl, rfl⟩, ⟨⟨.rfl, rfl⟩, trivial⟩⟩⟩, ⟨⟨rfl, .refl _, rfl⟩, ⟨⟨rfl, .refl _, rfl⟩, trivial⟩⟩, rfl⟩
    refine sk' ?_
    refine AEx.wk ?_ (ih3 _ _ _ _ hh)
    exact ⟨⟨⟨.rfl, rfl⟩, ⟨⟨.rfl, rfl⟩, ⟨⟨.rfl, rfl⟩, trivial⟩⟩⟩, ⟨⟨rfl, .refl _, rfl⟩, ⟨⟨rfl, .refl _, rfl⟩, trivial⟩⟩, rfl⟩
  · intro g4 ih4 e depth o02 res hh
    refine s' rfl rfl (q' rfl (q' rfl (qe' rfl trivial (A0.lenA _) (q' rfl (n' (AEx.block ?_))))))
    refine AEx.ofLoop ?_
    refine Q0.wk ?_ (ih4 _ _ _ _ _ hh)
    exact ⟨⟨⟨.rfl, rfl⟩, ⟨⟨.rfl, rfl⟩, ⟨⟨.rfl, rfl⟩, ⟨⟨.rfl, rfl⟩, ⟨⟨.rfl, rfl⟩, trivial⟩⟩⟩⟩⟩, ⟨⟨rfl, .refl _, rfl⟩, trivial⟩, rfl⟩
  · intro g0 g4 ih0 ih4 e depth o03 v82 res hh
    refine Q0.unroll ?_
    refine s' rfl rfl (q' rfl (n' (S' ?_)))
    refine ci' rfl hh (fun hh => ?_) (fun hh => ?_)
    · obtain ⟨x11, hx11, hh⟩ := bs' hh
      obtain ⟨x12, hx12, hh⟩ := bs' hh
      refine sk' (S' (AEx.block (s' rfl rfl (i' rfl (V0 hx11) (A0.idx hx11) rfl (q' rfl (J0.nf hC rfl (J0.s hC rfl (n' (R' rfl rfl (q' rfl (q' rfl (q' rfl (q' rfl ?_)))))))))))))
      refine J0.g [0] rfl (ih0 _ _ _ _ hx12) ⟨.rfl, ⟨.rfl, ⟨.rfl, trivial⟩⟩⟩ rfl ⟨rfl, trivial⟩ rfl rfl (n' (R' rfl rfl (q' rfl (q' rfl (n' ?_)))))
      refine Q0.wk ?_ (ih4 _ _ _ _ _ hh)
      exact ⟨⟨⟨.rfl, rfl⟩, ⟨⟨.rfl, rfl⟩, ⟨⟨.rfl, rfl⟩, ⟨⟨.rfl, rfl⟩, ⟨⟨.rfl, rfl⟩, trivial⟩⟩⟩⟩⟩, ⟨⟨rfl, .refl _, rfl⟩, trivial⟩, rfl⟩
    refine ex' ?_
    obtain rfl := oi' hh
    exact ⟨_, _, [.row (C0.cells o03) 75], rfl, .rfl, ⟨⟨rfl, .refl _, rfl⟩, trivial⟩, rfl, rfl, rfl, rfl⟩
theorem Rk {e : A0} {depth : Int} {syntaxReport : C0} {res : C0} (hh : F2 e depth syntaxReport = some res) : Tl e depth syntaxReport res := (Hc).1 _ _ _ _ hh
theorem O1g {e : A0} {depth : Int} {o0 : C0} {res : C0} (hh : S4 e depth o0 = some res) : Fi e depth o0 res := (Hc).2.1 _ _ _ _ hh
theorem P1g {e : A0} {depth : Int} {o01 : C0} {res : C0} (hh : U5 e depth o01 = some res) : Gi e depth o01 res := (Hc).2.2.1 _ _ _ _ hh
theorem Q1g {e : A0} {depth : Int} {o02 : C0} {res : C0} (hh : V5 e depth o02 = some res) : Hi e depth o02 res := (Hc).2.2.2.1 _ _ _ _ hh
theorem R1g {e : A0} {depth : Int} {o03 : C0} {v82 : Int} {res : C0} (hh : P2 e depth o03 v82 = some res) : Ii e depth o03 v82 res := (Hc).2.2.2.2 _ _ _ _ _ hh
def H5 (syntaxReport : C0) : Option Int :=
  if (bif (decide (syntaxReport.nodes > 1024)) then true else (decide (syntaxReport.depth > 12))) = true then
    some 4
  else
    if syntaxReport.badForm = true then
      some 1
    else
      if syntaxReport.badName = true then
        some 7
      else
        if syntaxReport.badNumber = true then
          some 3
        else
          some 0
abbrev N12 (syntaxReport : C0) (res : Int) : Prop := R0 C 39 [.ref 0 0] [.row (C0.cells syntaxReport) 75] (fun x H' => H' = [.row (C0.cells syntaxReport) 75] ∧ x = .d (.int .i64 res))
theorem Sk {syntaxReport : C0} {res : Int} (hh : H5 syntaxReport = some res) : N12 syntaxReport res := by
  unfold H5 at hh
  refine R0.intro hC Tryz.func39 rfl rfl rfl ?_
  refine s' rfl rfl (q' rfl (n' (S' (AEx.block (sg' 13 rfl (a0' rfl (a0' rfl (a0' rfl (a0' rfl (a0' rfl (a0' rfl (a0' rfl (a1' rfl ?_)))))))))))))
  refine a1' rfl (a1' rfl (a1' rfl (po' rfl (a0' rfl (an' (n' ?_))))))
  refine ci' rfl hh (fun hh => ?_) (fun hh => ?_)
  · refine s' rfl rfl (q' rfl (n' (re' ?_)))
    obtain rfl := oi' hh
    exact ⟨_, _, [.row (C0.cells syntaxReport) 75], rfl, .rfl, ⟨⟨rfl, .refl _, rfl⟩, trivial⟩, rfl, rfl, rfl, rfl⟩
  refine s' rfl rfl (q' rfl (q' rfl (q' rfl (q' rfl (q' rfl (n' ?_))))))
  refine ci' rfl hh (fun hh => ?_) (fun hh => ?_)
  · refine s' rfl rfl (q' rfl (n' (re' ?_)))
    obtain rfl := oi' hh
    exact ⟨_, _, [.row (C0.cells syntaxReport) 75], rfl, .rfl, ⟨⟨rfl, .refl _, rfl⟩, trivial⟩, rfl, rfl, rfl, rfl⟩
  refine s' rfl rfl (q' rfl (q' rfl (q' rfl (q' rfl (q' rfl (n' ?_))))))
  refine ci' rfl hh (fun hh => ?_) (fun hh => ?_)
  · refine s' rfl rfl (q' rfl (n' (re' ?_)))
    obtain rfl := oi' hh
    exact ⟨_, _, [.row (C0.cells syntaxReport) 75], rfl, .rfl, ⟨⟨rfl, .refl _, rfl⟩, trivial⟩, rfl, rfl, rfl, rfl⟩
  refine s' rfl rfl (q' rfl (q' rfl (q' rfl (q' rfl (q' rfl (n' ?_))))))
  refine ci' rfl hh (fun hh => ?_) (fun hh => ?_)
  · refine s' rfl rfl (q' rfl (n' (re' ?_)))
    obtain rfl := oi' hh
    exact ⟨_, _, [.row (C0.cells syntaxReport) 75], rfl, .rfl, ⟨⟨rfl, .refl _, rfl⟩, trivial⟩, rfl, rfl, rfl, rfl⟩
  refine sk' (s' rfl rfl (q' rfl (n' (re' ?_))))
  obtain rfl := oi' hh
  exact ⟨_, _, [.row (C0.cells syntaxReport) 75], rfl, .rfl, ⟨⟨rfl, .refl _, rfl⟩, trivial⟩, rfl, rfl, rfl, rfl⟩
def Se (e : A0) : Option Int :=
  F2 e 1 (C0.mk 0 0 false false false) >>= fun x1 =>
  H5 x1 >>= fun x2 =>
  some x2
abbrev K14 (e : A0) (res : Int) : Prop := R0 C 18 [.agg (A0.cells e)] [] (fun x H' => H' = [] ∧ x = .d (.int .i64 res))
theorem Yu {e : A0} {res : Int} (hh : Se e = some res) : K14 e res := by
  unfold Se at hh
  refine R0.intro hC Tryz.func18 rfl rfl rfl ?_
  obtain ⟨x1, hx1, hh⟩ := bs' hh
  obtain ⟨x2, hx2, hh⟩ := bs' hh
  refine s' rfl rfl (J0.n hC rfl (q' rfl (n' (s' rfl rfl (q' rfl (J0.n hC rfl (q' rfl (n' (s' rfl rfl (q' rfl (q' rfl (J0.g [1] rfl (Rk hx1) ⟨.rfl, ⟨.rfl, ⟨.rfl, trivial⟩⟩⟩ rfl ⟨rfl, trivial⟩ rfl rfl (n' ?_)))))))))))))
  refine s' rfl rfl (q' rfl (J0.g [1] rfl (Sk hx2) ⟨.rfl, trivial⟩ rfl ⟨rfl, trivial⟩ rfl rfl (q' rfl (n' (re' ?_)))))
  obtain rfl := oi' hh
  exact ⟨_, _, [], rfl, .rfl, trivial, rfl, rfl, rfl, rfl⟩
def Ub (op : Int) (v20 : Bool) : Option Int :=
  if v20 = true then
    some 5
  else
    if (op == 6) = true then
      if (op == 6) = true then
        some 6
      else
        some 7
    else
      if (op == 7) = true then
        some 6
      else
        some 7
abbrev I16 (op : Int) (v20 : Bool) (res : Int) : Prop := AEx (Fx.mk C 27 0) (sr (cb (sr (cb (sr (cb (sr (cb (sr (cb (sr (bk (sr (sl (sr (N0 Tryz.f154)))))))))))))))) (X0 [(3, .d (.int .i64 op)), (20, .d (.bool v20))]) [] (Am.InBlock 0 (Am.Then (Fx.mk C 27 0) (sr (sr (N0 Tryz.f154))) (Am.Ends (Fx.mk C 27 0) Tryz.f154.results.toList (fun x H' => H' = [] ∧ x = .d (.int .i64 res)))))
theorem Dp {op : Int} {v20 : Bool} {res : Int} (hh : Ub op v20 = some res) : I16 op v20 res := by
  unfold Ub at hh
  refine ci' rfl hh (fun hh => ?_) (fun hh => ?_)
  · refine s' rfl rfl (q' rfl (n' (re' ?_)))
    obtain rfl := oi' hh
    exact ⟨_, _, [], rfl, .rfl, trivial, rfl, rfl, rfl, rfl⟩
  refine S' (s' rfl rfl (q' rfl (q' rfl (n' ?_))))
  refine ci' rfl hh (fun hh => ?_) (fun hh => ?_)
  · refine sk' ?_
    refine ci' rfl hh (fun hh => ?_) (fun hh => ?_)
    · refine s' rfl rfl (q' rfl (n' (re' ?_)))
      obtain rfl := oi' hh
      exact ⟨_, _, [], rfl, .rfl, trivial, rfl, rfl, rfl, rfl⟩
    refine sk' (s' rfl rfl (q' rfl (n' (re' ?_))))
    obtain rfl := oi' hh
    exact ⟨_, _, [], rfl, .rfl, trivial, rfl, rfl, rfl, rfl⟩
  refine R' rfl rfl (q' rfl (q' rfl (n' ?_)))
  refine ci' rfl hh (fun hh => ?_) (fun hh => ?_)
  · refine s' rfl rfl (q' rfl (n' (re' ?_)))
    obtain rfl := oi' hh
    exact ⟨_, _, [], rfl, .rfl, trivial, rfl, rfl, rfl, rfl⟩
  refine sk' (s' rfl rfl (q' rfl (n' (re' ?_))))
  obtain rfl := oi' hh
  exact ⟨_, _, [], rfl, .rfl, trivial, rfl, rfl, rfl, rfl⟩
def Md (op : Int) (v17 : Bool) : Option Int :=
  if v17 = true then
    some 4
  else
    if (op == 10) = true then
      Ub op (op == 10)
    else
      if (op == 11) = true then
        Ub op (op == 11)
      else
        Ub op (op == 12)
abbrev J16 (op : Int) (v17 : Bool) (res : Int) : Prop := AEx (Fx.mk C 27 0) (sr (cb (sr (cb (sr (cb (sr (cb (sr (bk (sr (sl (sr (N0 Tryz.f154)))))))))))))) (X0 [(3, .d (.int .i64 op)), (17, .d (.bool v17))]) [] (Am.InBlock 0 (Am.Then (Fx.mk C 27 0) (sr (sr (N0 Tryz.f154))) (Am.Ends (Fx.mk C 27 0) Tryz.f154.results.toList (fun x H' => H' = [] ∧ x = .d (.int .i64 res)))))
theorem Sw {op : Int} {v17 : Bool} {res : Int} (hh : Md op v17 = some res) : J16 op v17 res := by
  unfold Md at hh
  refine ci' rfl hh (fun hh => ?_) (fun hh => ?_)
  · refine s' rfl rfl (q' rfl (n' (re' ?_)))
    obtain rfl := oi' hh
    exact ⟨_, _, [], rfl, .rfl, trivial, rfl, rfl, rfl, rfl⟩
  refine S' (s' rfl rfl (q' rfl (q' rfl (n' ?_))))
  refine ci' rfl hh (fun hh => ?_) (fun hh => ?_)
  · refine sk' ?_
    refine AEx.wk ?_ (Dp hh)
    exact ⟨⟨⟨.rfl, rfl⟩, ⟨⟨.rfl, rfl⟩, trivial⟩⟩, trivial, rfl⟩
  refine s' rfl rfl (q' rfl (q' rfl (n' ?_)))
  refine ci' rfl hh (fun hh => ?_) (fun hh => ?_)
  · refine sk' ?_
    refine AEx.wk ?_ (Dp hh)
    exact ⟨⟨⟨.rfl, rfl⟩, ⟨⟨.rfl, rfl⟩, trivial⟩⟩, trivial, rfl⟩
  refine R' rfl rfl (q' rfl (q' rfl (n' ?_)))
  refine AEx.wk ?_ (Dp hh)
  exact ⟨⟨⟨.rfl, rfl⟩, ⟨⟨.rfl, rfl⟩, trivial⟩⟩, trivial, rfl⟩
def D6 (op : Int) (v10 : Bool) : Option Int :=
  if v10 = true then
    some 3
  else
    if (op == 8) = true then
      Md op (op == 8)
    else
      Md op (op == 9)
abbrev K16 (op : Int) (v10 : Bool) (res : Int) : Prop := AEx (Fx.mk C 27 0) (sr (cb (sr (cb (sr (cb (sr (bk (sr (sl (sr (N0 Tryz.f154)))))))))))) (X0 [(3, .d (.int .i64 op)), (10, .d (.bool v10))]) [] (Am.InBlock 0 (Am.Then (Fx.mk C 27 0) (sr (sr (N0 Tryz.f154))) (Am.Ends (Fx.mk C 27 0) Tryz.f154.results.toList (fun x H' => H' = [] ∧ x = .d (.int .i64 res)))))
theorem Yc {op : Int} {v10 : Bool} {res : Int} (hh : D6 op v10 = some res) : K16 op v10 res := by
  unfold D6 at hh
  refine ci' rfl hh (fun hh => ?_) (fun hh => ?_)
  · refine s' rfl rfl (q' rfl (n' (re' ?_)))
    obtain rfl := oi' hh
    exact ⟨_, _, [], rfl, .rfl, trivial, rfl, rfl, rfl, rfl⟩
  refine S' (s' rfl rfl (q' rfl (q' rfl (n' ?_))))
  refine ci' rfl hh (fun hh => ?_) (fun hh => ?_)
  · refine sk' ?_
    refine AEx.wk ?_ (Sw hh)
    exact ⟨⟨⟨.rfl, rfl⟩, ⟨⟨.rfl, rfl⟩, trivial⟩⟩, trivial, rfl⟩
  refine R' rfl rfl (q' rfl (q' rfl (n' ?_)))
  refine AEx.wk ?_ (Sw hh)
  exact ⟨⟨⟨.rfl, rfl⟩, ⟨⟨.rfl, rfl⟩, trivial⟩⟩, trivial, rfl⟩
def Ff (op : Int) : Option Int :=
  if (op == 23) = true then
    some 0
  else
    if (op == 20) = true then
      some 1
    else
      if (op == 19) = true then
        some 2
      else
        if (op == 13) = true then
          D6 op (op == 13)
        else
          if (op == 14) = true then
            D6 op (op == 14)
          else
            if (op == 15) = true then
              D6 op (op == 15)
            else
              if (op == 16) = true then
                D6 op (op == 16)
              else
                if (op == 17) = true then
                  D6 op (op == 17)
                else
                  D6 op (op == 18)
abbrev E1b (op : Int) (res : Int) : Prop := R0 C 154 [.d (.int .i64 op)] [] (fun x H' => H' = [] ∧ x = .d (.int .i64 res))
theorem A10 {op : Int} {res : Int} (hh : Ff op = some res) : E1b op res := by
  unfold Ff at hh
  refine R0.intro hC Tryz.func154 rfl rfl rfl ?_
  refine s' rfl rfl (q' rfl (n' (S' (s' rfl rfl (q' rfl (n' (AEx.block (s' rfl rfl (q' rfl (q' rfl (n' ?_)))))))))))
  refine ci' rfl hh (fun hh => ?_) (fun hh => ?_)
  · refine s' rfl rfl (q' rfl (n' (re' ?_)))
    obtain rfl := oi' hh
    exact ⟨_, _, [], rfl, .rfl, trivial, rfl, rfl, rfl, rfl⟩
  refine s' rfl rfl (q' rfl (q' rfl (n' ?_)))
  refine ci' rfl hh (fun hh => ?_) (fun hh => ?_)
  · refine s' rfl rfl (q' rfl (n' (re' ?_)))
    obtain rfl := oi' hh
    exact ⟨_, _, [], rfl, .rfl, trivial, rfl, rfl, rfl, rfl⟩
  refine s' rfl rfl (q' rfl (q' rfl (n' ?_)))
  refine ci' rfl hh (fun hh => ?_) (fun hh => ?_)
  · refine s' rfl rfl (q' rfl (n' (re' ?_)))
    obtain rfl := oi' hh
    exact ⟨_, _, [], rfl, .rfl, trivial, rfl, rfl, rfl, rfl⟩
  refine S' (s' rfl rfl (q' rfl (q' rfl (n' ?_))))
  refine ci' rfl hh (fun hh => ?_) (fun hh => ?_)
  · refine sk' ?_
    refine AEx.wk ?_ (Yc hh)
    exact ⟨⟨⟨.rfl, rfl⟩, ⟨⟨.rfl, rfl⟩, trivial⟩⟩, trivial, rfl⟩
  refine s' rfl rfl (q' rfl (q' rfl (n' ?_)))
  refine ci' rfl hh (fun hh => ?_) (fun hh => ?_)
  · refine sk' ?_
    refine AEx.wk ?_ (Yc hh)
    exact ⟨⟨⟨.rfl, rfl⟩, ⟨⟨.rfl, rfl⟩, trivial⟩⟩, trivial, rfl⟩
  refine s' rfl rfl (q' rfl (q' rfl (n' ?_)))
  refine ci' rfl hh (fun hh => ?_) (fun hh => ?_)
  · refine sk' ?_
    refine AEx.wk ?_ (Yc hh)
    exact ⟨⟨⟨.rfl, rfl⟩, ⟨⟨.rfl, rfl⟩, trivial⟩⟩, trivial, rfl⟩
  refine s' rfl rfl (q' rfl (q' rfl (n' ?_)))
  refine ci' rfl hh (fun hh => ?_) (fun hh => ?_)
  · refine sk' ?_
    refine AEx.wk ?_ (Yc hh)
    exact ⟨⟨⟨.rfl, rfl⟩, ⟨⟨.rfl, rfl⟩, trivial⟩⟩, trivial, rfl⟩
  refine s' rfl rfl (q' rfl (q' rfl (n' ?_)))
  refine ci' rfl hh (fun hh => ?_) (fun hh => ?_)
  · refine sk' ?_
    refine AEx.wk ?_ (Yc hh)
    exact ⟨⟨⟨.rfl, rfl⟩, ⟨⟨.rfl, rfl⟩, trivial⟩⟩, trivial, rfl⟩
  refine R' rfl rfl (q' rfl (q' rfl (n' ?_)))
  refine AEx.wk ?_ (Yc hh)
  exact ⟨⟨⟨.rfl, rfl⟩, ⟨⟨.rfl, rfl⟩, trivial⟩⟩, trivial, rfl⟩
mutual
def U0 (e : A0) (b : Str) : Option Str :=
  if (e.Op == 0) = true then
    Gh e.NV >>= fun x1 =>
    F0 x1 b >>= fun x2 =>
    some x2.2
  else
    if (e.Op == 1) = true then
      F0 [116, 114, 117, 101] b >>= fun x3 =>
      some x3.2
    else
      if (e.Op == 2) = true then
        F0 [102, 97, 108, 115, 101] b >>= fun x4 =>
        some x4.2
      else
        if (e.Op == 3) = true then
          F0 e.Name b >>= fun x5 =>
          some x5.2
        else
          if (e.Op == 4) = true then
            idx e.Kids 0 >>= fun x6 =>
            U0 x6 b >>= fun x14 =>
            if (decide (1 + e.Name.length ≤ maxLen)) = true then
              F0 ([46] ++ e.Name) x14 >>= fun x15 =>
              some x15.2
            else none
          else
            if (e.Op == 5) = true then
              idx e.Kids 0 >>= fun x7 =>
              U0 x7 b >>= fun x16 =>
              F0 [91] x16 >>= fun x17 =>
              idx e.Kids 1 >>= fun x18 =>
              U0 x18 x17.2 >>= fun x19 =>
              F0 [93] x19 >>= fun x20 =>
              some x20.2
            else
              if (e.Op == 6) = true then
                B2 e b (e.Op == 6)
              else
                B2 e b (e.Op == 7)
  partial_fixpoint
def B2 (e : A0) (b : Str) (v77 : Bool) : Option Str :=
  if v77 = true then
    if (e.Op == 7) = true then
      G4 e b [33]
    else
      G4 e b [45]
  else
    if (e.Op == 21) = true then
      U2 e b (e.Op == 21)
    else
      U2 e b (e.Op == 22)
  partial_fixpoint
def U2 (e : A0) (b : Str) (v94 : Bool) : Option Str :=
  if v94 = true then
    if (e.Op == 22) = true then
      F4 e b [109, 97, 120, 40]
    else
      F4 e b [109, 105, 110, 40]
  else
    if (e.Op == 23) = true then
      idx e.Kids 0 >>= fun x13 =>
      O4 x13 1 b >>= fun x22 =>
      F0 [32, 63, 32] x22 >>= fun x23 =>
      idx e.Kids 1 >>= fun x24 =>
      U0 x24 x23.2 >>= fun x25 =>
      F0 [32, 58, 32] x25 >>= fun x26 =>
      idx e.Kids 2 >>= fun x27 =>
      U0 x27 x26.2 >>= fun x28 =>
      some x28
    else
      T4 e b >>= fun x29 =>
      some x29
  partial_fixpoint
def T4 (e : A0) (b : Str) : Option Str :=
  Ff e.Op >>= fun x1 =>
  if (x1 == 3) = true then
    O3 e b x1 4
  else
    O3 e b x1 x1
  partial_fixpoint
def O3 (e : A0) (b : Str) (x1 : Int) (left : Int) : Option Str :=
  idx e.Kids 0 >>= fun x2 =>
  O4 x2 left b >>= fun x3 =>
  idx Zo (IntKind.i64.wrap (e.Op - 8)) >>= fun x4 =>
  if (decide (1 + x4.length ≤ maxLen)) = true then
    if (decide (([32] ++ x4).length + 1 ≤ maxLen)) = true then
      F0 (([32] ++ x4) ++ [32]) x3 >>= fun x5 =>
      idx e.Kids 1 >>= fun x6 =>
      O4 x6 (IntKind.i64.wrap (x1 + 1)) x5.2 >>= fun x7 =>
      some x7
    else none
  else none
  partial_fixpoint
def O4 (e : A0) (required : Int) (b : Str) : Option Str :=
  Ff e.Op >>= fun x1 =>
  if (decide (x1 ≥ required)) = true then
    U0 e b >>= fun x3 =>
    some x3
  else
    F0 [40] b >>= fun x2 =>
    U0 e x2.2 >>= fun x4 =>
    F0 [41] x4 >>= fun x5 =>
    some x5.2
  partial_fixpoint
def F4 (e : A0) (b : Str) (A4 : Str) : Option Str :=
  F0 A4 b >>= fun x10 =>
  W3 e.Kids x10.2 >>= fun x11 =>
  F0 [41] x11 >>= fun x12 =>
  some x12.2
  partial_fixpoint
def W3 (l : List A0) (b : Str) : Option Str :=
  L1 l b 0
  partial_fixpoint
def L1 (l : List A0) (b1 : Str) (v8 : Int) : Option Str :=
  if (decide (v8 < ((l).length : Int))) = true then
    idx l v8 >>= fun x1 =>
    if (decide (v8 > 0)) = true then
      F0 [44, 32] b1 >>= fun x3 =>
      U0 x1 x3.2 >>= fun x2 =>
      L1 l x2 (IntKind.i64.wrap (v8 + 1))
    else
      U0 x1 b1 >>= fun x2 =>
      L1 l x2 (IntKind.i64.wrap (v8 + 1))
  else
    some b1
  partial_fixpoint
def G4 (e : A0) (b : Str) (Ge : Str) : Option Str :=
  F0 Ge b >>= fun x8 =>
  idx e.Kids 0 >>= fun x9 =>
  O4 x9 6 x8.2 >>= fun x21 =>
  some x21
  partial_fixpoint
end
abbrev Tk (e : A0) (b : Str) (res : Str) : Prop := R0 C 43 [.ref 0 0, .agg (A0.cells e)] [.bld 1 86, .buf 5 b] (fun x H' => H' = [.bld 1 86, .buf 5 res] ∧ x = .tup [])
abbrev Ih (e : A0) (b : Str) (v77 : Bool) (res : Str) : Prop := AEx (Fx.mk C 141 2) (sr (cb (sr (cb (sr (cb (sr (cb (sr (cb (sr (cb (sr (bk (sr (sr (N0 Tryz.f43))))))))))))))))) (X0 [(0, .ref 0 0), (3, .ref 2 0), (7, .d (.int .i64 e.Op)), (77, .d (.bool v77))]) [.bld 1 86, .buf 5 b, .row (A0.cells e) 36] (Am.InBlock 0 (Am.Ends (Fx.mk C 141 2) Tryz.f43.results.toList (fun x H' => H' = [.bld 1 86, .buf 5 res] ∧ x = .tup [])))
abbrev Jh (e : A0) (b : Str) (v94 : Bool) (res : Str) : Prop := AEx (Fx.mk C 141 2) (sr (cb (sr (cb (sr (cb (sr (cb (sr (cb (sr (cb (sr (cb (sr (bk (sr (sr (N0 Tryz.f43))))))))))))))))))) (X0 [(0, .ref 0 0), (3, .ref 2 0), (7, .d (.int .i64 e.Op)), (94, .d (.bool v94))]) [.bld 1 86, .buf 5 b, .row (A0.cells e) 36] (Am.InBlock 0 (Am.Ends (Fx.mk C 141 2) Tryz.f43.results.toList (fun x H' => H' = [.bld 1 86, .buf 5 res] ∧ x = .tup [])))
abbrev Ji (e : A0) (b : Str) (res : Str) : Prop := R0 C 93 [.ref 0 0, .agg (A0.cells e)] [.bld 1 86, .buf 5 b] (fun x H' => H' = [.bld 1 86, .buf 5 res] ∧ x = .tup [])
abbrev Dg (e : A0) (b : Str) (x1 : Int) (left : Int) (res : Str) : Prop := AEx (Fx.mk C 38 2) (sr (sr (sr (sr (N0 Tryz.f93))))) (X0 [(0, .ref 0 0), (3, .ref 2 0), (4, .d (.int .i64 x1)), (5, .d (.int .i64 left))]) [.bld 1 86, .buf 5 b, .row (A0.cells e) 36] (Am.Ends (Fx.mk C 38 2) Tryz.f93.results.toList (fun x H' => H' = [.bld 1 86, .buf 5 res] ∧ x = .tup []))
abbrev Ul (e : A0) (required : Int) (b : Str) (res : Str) : Prop := R0 C 91 [.ref 0 0, .agg (A0.cells e), .d (.int .i64 required)] [.bld 1 86, .buf 5 b] (fun x H' => H' = [.bld 1 86, .buf 5 res] ∧ x = .tup [])
abbrev Kh (e : A0) (b : Str) (A4 : Str) (res : Str) : Prop := AEx (Fx.mk C 141 2) (sr (sr (ca (sr (cb (sr (cb (sr (cb (sr (cb (sr (cb (sr (cb (sr (cb (sr (bk (sr (sr (N0 Tryz.f43)))))))))))))))))))))) (X0 [(0, .ref 0 0), (3, .ref 2 0), (5, .d (.str A4))]) [.bld 1 86, .buf 5 b, .row (A0.cells e) 36] (Am.InBlock 0 (Am.Ends (Fx.mk C 141 2) Tryz.f43.results.toList (fun x H' => H' = [.bld 1 86, .buf 5 res] ∧ x = .tup [])))
abbrev Uk (l : List A0) (b : Str) (res : Str) : Prop := R0 C 92 [.ref 0 0, .d (.sl (A0.rows l))] [.bld 1 86, .buf 5 b] (fun x H' => H' = [.bld 1 86, .buf 5 res] ∧ x = .tup [])
abbrev Lh (l : List A0) (b1 : Str) (v8 : Int) (res : Str) : Prop := Q0 (Fx.mk C 23 2) (lo (bk (sr (N0 Tryz.f92)))) (X0 [(0, .ref 0 0), (6, .d (.sl (A0.rows l))), (7, .d (.int .i64 ((l).length : Int))), (8, .d (.int .i64 v8))]) [.bld 1 86, .buf 5 b1] (Am.InBlock 0 (Am.Ends (Fx.mk C 23 2) Tryz.f92.results.toList (fun x H' => H' = [.bld 1 86, .buf 5 res] ∧ x = .tup [])))
abbrev Mh (e : A0) (b : Str) (Ge : Str) (res : Str) : Prop := AEx (Fx.mk C 141 2) (sr (sr (ca (sr (cb (sr (cb (sr (cb (sr (cb (sr (cb (sr (cb (sr (bk (sr (sr (N0 Tryz.f43)))))))))))))))))))) (X0 [(0, .ref 0 0), (3, .ref 2 0), (4, .d (.str Ge))]) [.bld 1 86, .buf 5 b, .row (A0.cells e) 36] (Am.InBlock 0 (Am.Ends (Fx.mk C 141 2) Tryz.f43.results.toList (fun x H' => H' = [.bld 1 86, .buf 5 res] ∧ x = .tup [])))
theorem E3 : (∀ (e : A0) (b : Str) (res : Str), U0 e b = some res → Tk e b res) ∧
    (∀ (e : A0) (b : Str) (v77 : Bool) (res : Str), B2 e b v77 = some res → Ih e b v77 res) ∧
    (∀ (e : A0) (b : Str) (v94 : Bool) (res : Str), U2 e b v94 = some res → Jh e b v94 res) ∧
    (∀ (e : A0) (b : Str) (res : Str), T4 e b = some res → Ji e b res) ∧
    (∀ (e : A0) (b : Str) (x1 : Int) (left : Int) (res : Str), O3 e b x1 left = some res → Dg e b x1 left res) ∧
    (∀ (e : A0) (required : Int) (b : Str) (res : Str), O4 e required b = some res → Ul e required b res) ∧
    (∀ (e : A0) (b : Str) (A4 : Str) (res : Str), F4 e b A4 = some res → Kh e b A4 res) ∧
    (∀ (l : List A0) (b : Str) (res : Str), W3 l b = some res → Uk l b res) ∧
    (∀ (l : List A0) (b1 : Str) (v8 : Int) (res : Str), L1 l b1 v8 = some res → Lh l b1 v8 res) ∧
    (∀ (e : A0) (b : Str) (Ge : Str) (res : Str), G4 e b Ge = some res → Mh e b Ge res) := by
  refine U0.mutual_partial_correctness (fun e b res => Tk e b res)
    (fun e b v77 res => Ih e b v77 res)
    (fun e b v94 res => Jh e b v94 res)
    (fun e b res => Ji e b res)
    (fun e b x1 left res => Dg e b x1 left res)
    (fun e required b res => Ul e required b res)
    (fun e b A4 res => Kh e b A4 res)
    (fun l b res => Uk l b res)
    (fun l b1 v8 res => Lh l b1 v8 res)
    (fun e b Ge res => Mh e b Ge res) ?_ ?_ ?_ ?_ ?_ ?_ ?_ ?_ ?_ ?_
  · intro g0 g1 ih0 ih1 e b res hh
    refine R0.intro hC Tryz.func43 rfl rfl rfl ?_
    refine s' rfl rfl (J0.n hC rfl (n' (s' rfl rfl (q' rfl (q' rfl (n' (AEx.block (s' rfl rfl (q' rfl (q' rfl (n' ?_)))))))))))
    refine ci' rfl hh (fun hh => ?_) (fun hh => ?_)
    · obtain ⟨x1, hx1, hh⟩ := bs' hh
      obtain ⟨x2, hx2, hh⟩ := bs' hh
      refine AEx.draw hC 6 rfl rfl rfl (Q' rfl (Q' rfl (Q' rfl (Q' rfl (Q' rfl (AQ.c rfl rfl (Xg hx1) (Qn' (J0.g [0, 1] rfl (K0 hx2) ⟨.rfl, ⟨.rfl, trivial⟩⟩ rfl ⟨rfl, ⟨rfl, trivial⟩⟩ rfl rfl (n' ?_)))))))))
      obtain rfl := oi' hh
      exact ⟨_, _, [.bld 1 86, .buf 5 x2.2], rfl, .rfl, ⟨⟨rfl, Nat.le_of_ble_eq_true rfl⟩, ⟨rfl, trivial⟩⟩, rfl, rfl, rfl, rfl⟩
    refine s' rfl rfl (q' rfl (q' rfl (n' ?_)))
    refine ci' rfl hh (fun hh => ?_) (fun hh => ?_)
    · obtain ⟨x3, hx3, hh⟩ := bs' hh
      refine R' rfl rfl (q' rfl (q' rfl (q' rfl (J0.g [0, 1] rfl (K0 hx3) ⟨.rfl, ⟨.rfl, trivial⟩⟩ rfl ⟨rfl, ⟨rfl, trivial⟩⟩ rfl rfl (n' ?_)))))
      obtain rfl := oi' hh
      exact ⟨_, _, [.bld 1 86, .buf 5 x3.2], rfl, .rfl, ⟨⟨rfl, Nat.le_of_ble_eq_true rfl⟩, ⟨rfl, trivial⟩⟩, rfl, rfl, rfl, rfl⟩
    refine s' rfl rfl (q' rfl (q' rfl (n' ?_)))
    refine ci' rfl hh (fun hh => ?_) (fun hh => ?_)
    · obtain ⟨x4, hx4, hh⟩ := bs' hh
      refine R' rfl rfl (q' rfl (q' rfl (q' rfl (J0.g [0, 1] rfl (K0 hx4) ⟨.rfl, ⟨.rfl, trivial⟩⟩ rfl ⟨rfl, ⟨rfl, trivial⟩⟩ rfl rfl (n' ?_)))))
      obtain rfl := oi' hh
      exact ⟨_, _, [.bld 1 86, .buf 5 x4.2], rfl, .rfl, ⟨⟨rfl, Nat.le_of_ble_eq_true rfl⟩, ⟨rfl, trivial⟩⟩, rfl, rfl, rfl, rfl⟩
    refine s' rfl rfl (q' rfl (q' rfl (n' ?_)))
    refine ci' rfl hh (fun hh => ?_) (fun hh => ?_)
    · obtain ⟨x5, hx5, hh⟩ := bs' hh
      refine AEx.draw hC 5 rfl rfl rfl (Q' rfl (Q' rfl (Q' rfl (Q' rfl (Q' rfl (Qn' (J0.g [0, 1] rfl (K0 hx5) ⟨.rfl, ⟨.rfl, trivial⟩⟩ rfl ⟨rfl, ⟨rfl, trivial⟩⟩ rfl rfl (n' ?_))))))))
      obtain rfl := oi' hh
      exact ⟨_, _, [.bld 1 86, .buf 5 x5.2], rfl, .rfl, ⟨⟨rfl, Nat.le_of_ble_eq_true rfl⟩, ⟨rfl, trivial⟩⟩, rfl, rfl, rfl, rfl⟩
    refine s' rfl rfl (q' rfl (q' rfl (n' ?_)))
    refine ci' rfl hh (fun hh => ?_) (fun hh => ?_)
    · obtain ⟨x6, hx6, hh⟩ := bs' hh
      obtain ⟨x14, hx14, hh⟩ := bs' hh
      obtain ⟨c3, hh⟩ := O0 hh
      obtain ⟨x15, hx15, hh⟩ := bs' hh
      refine s' rfl rfl (q' rfl (q' rfl (q' rfl (i' rfl (V0 hx6) (A0.idx hx6) rfl (q' rfl (J0.g [0, 1] rfl (ih0 _ _ _ hx14) ⟨.rfl, ⟨.rfl, trivial⟩⟩ rfl ⟨rfl, ⟨rfl, trivial⟩⟩ rfl rfl (n' (AEx.draw hC 6 rfl rfl rfl (Q' rfl (Q' rfl (Q' rfl (Q' rfl (Q' rfl ?_)))))))))))))
      refine AQ.q hC rfl c3 (Qn' (J0.g [0, 1] rfl (K0 hx15) ⟨.rfl, ⟨.rfl, trivial⟩⟩ rfl ⟨rfl, ⟨rfl, trivial⟩⟩ rfl rfl (n' ?_)))
      obtain rfl := oi' hh
      exact ⟨_, _, [.bld 1 86, .buf 5 x15.2], rfl, .rfl, ⟨⟨rfl, Nat.le_of_ble_eq_true rfl⟩, ⟨rfl, trivial⟩⟩, rfl, rfl, rfl, rfl⟩
    refine s' rfl rfl (q' rfl (q' rfl (n' ?_)))
    refine ci' rfl hh (fun hh => ?_) (fun hh => ?_)
    · obtain ⟨x7, hx7, hh⟩ := bs' hh
      obtain ⟨x16, hx16, hh⟩ := bs' hh
      obtain ⟨x17, hx17, hh⟩ := bs' hh
      obtain ⟨x18, hx18, hh⟩ := bs' hh
      obtain ⟨x19, hx19, hh⟩ := bs' hh
      obtain ⟨x20, hx20, hh⟩ := bs' hh
      refine s' rfl rfl (q' rfl (q' rfl (q' rfl (i' rfl (V0 hx7) (A0.idx hx7) rfl (q' rfl (J0.g [0, 1] rfl (ih0 _ _ _ hx16) ⟨.rfl, ⟨.rfl, trivial⟩⟩ rfl ⟨rfl, ⟨rfl, trivial⟩⟩ rfl rfl (n' (s' rfl rfl (q' rfl (q' rfl (q' rfl (J0.g [0, 1] rfl (K0 hx17) ⟨.rfl, ⟨.rfl, trivial⟩⟩ rfl ⟨rfl, ⟨rfl, trivial⟩⟩ rfl rfl (n' ?_)))))))))))))
      refine s' rfl rfl (q' rfl (q' rfl (q' rfl (i' rfl (V0 hx18) (A0.idx hx18) rfl (q' rfl (J0.g [0, 1] rfl (ih0 _ _ _ hx19) ⟨.rfl, ⟨.rfl, trivial⟩⟩ rfl ⟨rfl, ⟨rfl, trivial⟩⟩ rfl rfl (n' (R' rfl rfl (q' rfl (q' rfl (q' rfl (J0.g [0, 1] rfl (K0 hx20) ⟨.rfl, ⟨.rfl, trivial⟩⟩ rfl ⟨rfl, ⟨rfl, trivial⟩⟩ rfl rfl (n' ?_)))))))))))))
      obtain rfl := oi' hh
      exact ⟨_, _, [.bld 1 86, .buf 5 x20.2], rfl, .rfl, ⟨⟨rfl, Nat.le_of_ble_eq_true rfl⟩, ⟨rfl, trivial⟩⟩, rfl, rfl, rfl, rfl⟩
    refine S' (s' rfl rfl (q' rfl (q' rfl (n' ?_))))
    refine ci' rfl hh (fun hh => ?_) (fun hh => ?_)
    · refine sk' ?_
      refine AEx.wk ?_ (ih1 _ _ _ _ hh)
      exact ⟨⟨⟨.rfl, rfl⟩, ⟨⟨.rfl, rfl⟩, ⟨⟨.rfl, rfl⟩, ⟨⟨.rfl, rfl⟩, trivial⟩⟩⟩⟩, ⟨⟨rfl, Nat.le_of_ble_eq_true rfl⟩, ⟨rfl, ⟨⟨rfl, .refl _, rfl⟩, trivial⟩⟩⟩, rfl⟩
    refine R' rfl rfl (q' rfl (q' rfl (n' ?_)))
    refine AEx.wk ?_ (ih1 _ _ _ _ hh)
    exact ⟨⟨⟨.rfl, rfl⟩, ⟨⟨.rfl, rfl⟩, ⟨⟨.rfl, rfl⟩, ⟨⟨.rfl, rfl⟩, trivial⟩⟩⟩⟩, ⟨⟨rfl, Nat.le_of_ble_eq_true rfl⟩, ⟨rfl, ⟨⟨rfl, .refl _, rfl⟩, trivial⟩⟩⟩, rfl⟩
  · intro g2 g9 ih2 ih9 e b v77 res hh
    refine ci' rfl hh (fun hh => ?_) (fun hh => ?_)
    · refine s' rfl rfl (q' rfl (n' (S' (s' rfl rfl (q' rfl (q' rfl (q' rfl (n' ?_))))))))
      refine ci' rfl hh (fun hh => ?_) (fun hh => ?_)
      · refine R' rfl rfl (q' rfl (n' ?_))
        refine AEx.wk ?_ (ih9 _ _ _ _ hh)
        exact ⟨⟨⟨.rfl, rfl⟩, ⟨⟨.rfl, rfl⟩, ⟨⟨.rfl, rfl⟩, trivial⟩⟩⟩, ⟨⟨rfl, Nat.le_of_ble_eq_true rfl⟩, ⟨rfl, ⟨⟨rfl, .refl _, rfl⟩, trivial⟩⟩⟩, rfl⟩
      refine sk' ?_
      refine AEx.wk ?_ (ih9 _ _ _ _ hh)
      exact ⟨⟨⟨.rfl, rfl⟩, ⟨⟨.rfl, rfl⟩, ⟨⟨.rfl, rfl⟩, trivial⟩⟩⟩, ⟨⟨rfl, Nat.le_of_ble_eq_true rfl⟩, ⟨rfl, ⟨⟨rfl, .refl _, rfl⟩, trivial⟩⟩⟩, rfl⟩
    refine S' (s' rfl rfl (q' rfl (q' rfl (n' ?_))))
    refine ci' rfl hh (fun hh => ?_) (fun hh => ?_)
    · refine sk' ?_
      refine AEx.wk ?_ (ih2 _ _ _ _ hh)
      exact ⟨⟨⟨.rfl, rfl⟩, ⟨⟨.rfl, rfl⟩, ⟨⟨.rfl, rfl⟩, ⟨⟨.rfl, rfl⟩, trivial⟩⟩⟩⟩, ⟨⟨rfl, Nat.le_of_ble_eq_true rfl⟩, ⟨rfl, ⟨⟨rfl, .refl _, rfl⟩, trivial⟩⟩⟩, rfl⟩
    refine R' rfl rfl (q' rfl (q' rfl (n' ?_)))
    refine AEx.wk ?_ (ih2 _ _ _ _ hh)
    exact ⟨⟨⟨.rfl, rfl⟩, ⟨⟨.rfl, rfl⟩, ⟨⟨.rfl, rfl⟩, ⟨⟨.rfl, rfl⟩, trivial⟩⟩⟩⟩, ⟨⟨rfl, Nat.le_of_ble_eq_true rfl⟩, ⟨rfl, ⟨⟨rfl, .refl _, rfl⟩, trivial⟩⟩⟩, rfl⟩
  · intro g0 g3 g5 g6 ih0 ih3 ih5 ih6 e b v94 res hh
    refine ci' rfl hh (fun hh => ?_) (fun hh => ?_)
    · refine s' rfl rfl (q' rfl (n' (S' (s' rfl rfl (q' rfl (q' rfl (q' rfl (n' ?_))))))))
      refine ci' rfl hh (fun hh => ?_) (fun hh => ?_)
      · refine R' rfl rfl (q' rfl (n' ?_))
        refine AEx.wk ?_ (ih6 _ _ _ _ hh)
        exact ⟨⟨⟨.rfl, rfl⟩, ⟨⟨.rfl, rfl⟩, ⟨⟨.rfl, rfl⟩, trivial⟩⟩⟩, ⟨⟨rfl, Nat.le_of_ble_eq_true rfl⟩, ⟨rfl, ⟨⟨rfl, .refl _, rfl⟩, trivial⟩⟩⟩, rfl⟩
      refine sk' ?_
      refine AEx.wk ?_ (ih6 _ _ _ _ hh)
      exact ⟨⟨⟨.rfl, rfl⟩, ⟨⟨.rfl, rfl⟩, ⟨⟨.rfl, rfl⟩, trivial⟩⟩⟩, ⟨⟨rfl, Nat.le_of_ble_eq_true rfl⟩, ⟨rfl, ⟨⟨rfl, .refl _, rfl⟩, trivial⟩⟩⟩, rfl⟩
    refine s' rfl rfl (q' rfl (q' rfl (n' ?_)))
    refine ci' rfl hh (fun hh => ?_) (fun hh => ?_)
    · obtain ⟨x13, hx13, hh⟩ := bs' hh
      obtain ⟨x22, hx22, hh⟩ := bs' hh
      obtain ⟨x23, hx23, hh⟩ := bs' hh
      obtain ⟨x24, hx24, hh⟩ := bs' hh
      obtain ⟨x25, hx25, hh⟩ := bs' hh
      obtain ⟨x26, hx26, hh⟩ := bs' hh
      obtain ⟨x27, hx27, hh⟩ := bs' hh
      obtain ⟨x28, hx28, hh⟩ := bs' hh
      refine s' rfl rfl (q' rfl (q' rfl (q' rfl (i' rfl (V0 hx13) (A0.idx hx13) rfl (q' rfl (J0.g [0, 1] rfl (ih5 _ _ _ _ hx22) ⟨.rfl, ⟨.rfl, ⟨.rfl, trivial⟩⟩⟩ rfl ⟨rfl, ⟨rfl, trivial⟩⟩ rfl rfl (n' (s' rfl rfl (q' rfl (q' rfl (q' rfl (J0.g [0, 1] rfl (K0 hx23) ⟨.rfl, ⟨.rfl, trivial⟩⟩ rfl ⟨rfl, ⟨rfl, trivial⟩⟩ rfl rfl (n' ?_)))))))))))))
      refine s' rfl rfl (q' rfl (q' rfl (q' rfl (i' rfl (V0 hx24) (A0.idx hx24) rfl (q' rfl (J0.g [0, 1] rfl (ih0 _ _ _ hx25) ⟨.rfl, ⟨.rfl, trivial⟩⟩ rfl ⟨rfl, ⟨rfl, trivial⟩⟩ rfl rfl (n' (s' rfl rfl (q' rfl (q' rfl (q' rfl (J0.g [0, 1] rfl (K0 hx26) ⟨.rfl, ⟨.rfl, trivial⟩⟩ rfl ⟨rfl, ⟨rfl, trivial⟩⟩ rfl rfl (n' ?_)))))))))))))
      refine R' rfl rfl (q' rfl (q' rfl (q' rfl (i' rfl (V0 hx27) (A0.idx hx27) rfl (q' rfl (J0.g [0, 1] rfl (ih0 _ _ _ hx28) ⟨.rfl, ⟨.rfl, trivial⟩⟩ rfl ⟨rfl, ⟨rfl, trivial⟩⟩ rfl rfl (n' ?_)))))))
      obtain rfl := oi' hh
      exact ⟨_, _, [.bld 1 86, .buf 5 x28], rfl, .rfl, ⟨⟨rfl, Nat.le_of_ble_eq_true rfl⟩, ⟨rfl, trivial⟩⟩, rfl, rfl, rfl, rfl⟩
    obtain ⟨x29, hx29, hh⟩ := bs' hh
    refine R' rfl rfl (q' rfl (q' rfl (J0.g [0, 1] rfl (ih3 _ _ _ hx29) ⟨.rfl, ⟨.rfl, trivial⟩⟩ rfl ⟨rfl, ⟨rfl, trivial⟩⟩ rfl rfl (n' ?_))))
    obtain rfl := oi' hh
    exact ⟨_, _, [.bld 1 86, .buf 5 x29], rfl, .rfl, ⟨⟨rfl, Nat.le_of_ble_eq_true rfl⟩, ⟨rfl, trivial⟩⟩, rfl, rfl, rfl, rfl⟩
  · intro g4 ih4 e b res hh
    refine R0.intro hC Tryz.func93 rfl rfl rfl ?_
    obtain ⟨x1, hx1, hh⟩ := bs' hh
    refine s' rfl rfl (J0.n hC rfl (n' (s' rfl rfl (q' rfl (q' rfl (J0.c rfl rfl (A10 hx1) (q' rfl (n' (s' rfl rfl (q' rfl (q' rfl (n' (S' ?_)))))))))))))
    refine s' rfl rfl (q' rfl (q' rfl (n' ?_)))
    refine ci' rfl hh (fun hh => ?_) (fun hh => ?_)
    · refine R' rfl rfl (q' rfl (n' ?_))
      refine AEx.wk ?_ (ih4 _ _ _ _ _ hh)
      exact ⟨⟨⟨.rfl, rfl⟩, ⟨⟨.rfl, rfl⟩, ⟨⟨.rfl, rfl⟩, ⟨⟨.rfl, rfl⟩, trivial⟩⟩⟩⟩, ⟨⟨rfl, Nat.le_of_ble_eq_true rfl⟩, ⟨rfl, ⟨⟨rfl, .refl _, rfl⟩, trivial⟩⟩⟩, rfl⟩
    refine sk' ?_
    refine AEx.wk ?_ (ih4 _ _ _ _ _ hh)
    exact ⟨⟨⟨.rfl, rfl⟩, ⟨⟨.rfl, rfl⟩, ⟨⟨.rfl, rfl⟩, ⟨⟨.rfl, rfl⟩, trivial⟩⟩⟩⟩, ⟨⟨rfl, Nat.le_of_ble_eq_true rfl⟩, ⟨rfl, ⟨⟨rfl, .refl _, rfl⟩, trivial⟩⟩⟩, rfl⟩
  · intro g5 ih5 e b x1 left res hh
    obtain ⟨x2, hx2, hh⟩ := bs' hh
    obtain ⟨x3, hx3, hh⟩ := bs' hh
    obtain ⟨x4, hx4, hh⟩ := bs' hh
    obtain ⟨c5, hh⟩ := O0 hh
    obtain ⟨c6, hh⟩ := O0 hh
    obtain ⟨x5, hx5, hh⟩ := bs' hh
    obtain ⟨x6, hx6, hh⟩ := bs' hh
    obtain ⟨x7, hx7, hh⟩ := bs' hh
    refine s' rfl rfl (q' rfl (q' rfl (q' rfl (i' rfl (V0 hx2) (A0.idx hx2) rfl (q' rfl (q' rfl (J0.g [0, 1] rfl (ih5 _ _ _ _ hx3) ⟨.rfl, ⟨.rfl, ⟨.rfl, trivial⟩⟩⟩ rfl ⟨rfl, ⟨rfl, trivial⟩⟩ rfl rfl (n' (S' (AEx.draw hC 10 rfl rfl rfl (Q' rfl (Q' rfl (Q' rfl ?_)))))))))))))
    refine Q' rfl (Q' rfl (Q' rfl (AQ.ig hC rfl (V0 hx4) (J1k (f := D.str) hx4).1 (J1k (f := D.str) hx4).2 (Q' rfl (AQ.q hC rfl c5 (AQ.q hC rfl c6 (Qn' (J0.g [0, 1] rfl (K0 hx5) ⟨.rfl, ⟨.rfl, trivial⟩⟩ rfl ⟨rfl, ⟨rfl, trivial⟩⟩ rfl rfl (n' (R' rfl rfl (q' rfl (q' rfl (q' rfl ?_)))))))))))))
    refine i' rfl (V0 hx6) (A0.idx hx6) rfl (q' rfl (q' rfl (q' rfl (J0.g [0, 1] rfl (ih5 _ _ _ _ hx7) ⟨.rfl, ⟨.rfl, ⟨.rfl, trivial⟩⟩⟩ rfl ⟨rfl, ⟨rfl, trivial⟩⟩ rfl rfl (n' ?_)))))
    obtain rfl := oi' hh
    exact ⟨_, _, [.bld 1 86, .buf 5 x7], rfl, .rfl, ⟨⟨rfl, Nat.le_of_ble_eq_true rfl⟩, ⟨rfl, trivial⟩⟩, rfl, rfl, rfl, rfl⟩
  · intro g0 ih0 e required b res hh
    refine R0.intro hC Tryz.func91 rfl rfl rfl ?_
    obtain ⟨x1, hx1, hh⟩ := bs' hh
    refine s' rfl rfl (J0.n hC rfl (n' (S' (s' rfl rfl (q' rfl (q' rfl (J0.c rfl rfl (A10 hx1) (q' rfl (q' rfl (n' ?_))))))))))
    refine ci' rfl hh (fun hh => ?_) (fun hh => ?_)
    · obtain ⟨x3, hx3, hh⟩ := bs' hh
      refine s' rfl rfl (q' rfl (q' rfl (J0.g [0, 1] rfl (ih0 _ _ _ hx3) ⟨.rfl, ⟨.rfl, trivial⟩⟩ rfl ⟨rfl, ⟨rfl, trivial⟩⟩ rfl rfl (n' (re' ?_)))))
      obtain rfl := oi' hh
      exact ⟨_, _, [.bld 1 86, .buf 5 x3], rfl, .rfl, ⟨⟨rfl, Nat.le_of_ble_eq_true rfl⟩, ⟨rfl, trivial⟩⟩, rfl, rfl, rfl, rfl⟩
    obtain ⟨x2, hx2, hh⟩ := bs' hh
    obtain ⟨x4, hx4, hh⟩ := bs' hh
    obtain ⟨x5, hx5, hh⟩ := bs' hh
    refine sk' (s' rfl rfl (q' rfl (q' rfl (q' rfl (J0.g [0, 1] rfl (K0 hx2) ⟨.rfl, ⟨.rfl, trivial⟩⟩ rfl ⟨rfl, ⟨rfl, trivial⟩⟩ rfl rfl (n' (s' rfl rfl (q' rfl (q' rfl (J0.g [0, 1] rfl (ih0 _ _ _ hx4) ⟨.rfl, ⟨.rfl, trivial⟩⟩ rfl ⟨rfl, ⟨rfl, trivial⟩⟩ rfl rfl (n' (R' rfl rfl (q' rfl ?_)))))))))))))
    refine q' rfl (q' rfl (J0.g [0, 1] rfl (K0 hx5) ⟨.rfl, ⟨.rfl, trivial⟩⟩ rfl ⟨rfl, ⟨rfl, trivial⟩⟩ rfl rfl (n' ?_)))
    obtain rfl := oi' hh
    exact ⟨_, _, [.bld 1 86, .buf 5 x5.2], rfl, .rfl, ⟨⟨rfl, Nat.le_of_ble_eq_true rfl⟩, ⟨rfl, trivial⟩⟩, rfl, rfl, rfl, rfl⟩
  · intro g7 ih7 e b A4 res hh
    obtain ⟨x10, hx10, hh⟩ := bs' hh
    obtain ⟨x11, hx11, hh⟩ := bs' hh
    obtain ⟨x12, hx12, hh⟩ := bs' hh
    refine s' rfl rfl (q' rfl (q' rfl (q' rfl (q' rfl (J0.g [0, 1] rfl (K0 hx10) ⟨.rfl, ⟨.rfl, trivial⟩⟩ rfl ⟨rfl, ⟨rfl, trivial⟩⟩ rfl rfl (n' (s' rfl rfl (q' rfl (q' rfl (q' rfl (J0.g [0, 1] rfl (ih7 _ _ _ hx11) ⟨.rfl, ⟨.rfl, trivial⟩⟩ rfl ⟨rfl, ⟨rfl, trivial⟩⟩ rfl rfl (n' (R' rfl rfl ?_)))))))))))))
    refine q' rfl (q' rfl (q' rfl (J0.g [0, 1] rfl (K0 hx12) ⟨.rfl, ⟨.rfl, trivial⟩⟩ rfl ⟨rfl, ⟨rfl, trivial⟩⟩ rfl rfl (n' ?_))))
    obtain rfl := oi' hh
    exact ⟨_, _, [.bld 1 86, .buf 5 x12.2], rfl, .rfl, ⟨⟨rfl, Nat.le_of_ble_eq_true rfl⟩, ⟨rfl, trivial⟩⟩, rfl, rfl, rfl, rfl⟩
  · intro g8 ih8 l b res hh
    refine R0.intro hC Tryz.func92 rfl rfl rfl ?_
    refine s' rfl rfl (q' rfl (qe' rfl trivial (A0.lenA _) (q' rfl (n' (AEx.block ?_)))))
    refine AEx.ofLoop ?_
    refine Q0.wk ?_ (ih8 _ _ _ _ hh)
    exact ⟨⟨⟨.rfl, rfl⟩, ⟨⟨.rfl, rfl⟩, ⟨⟨.rfl, rfl⟩, ⟨⟨.rfl, rfl⟩, trivial⟩⟩⟩⟩, ⟨⟨rfl, Nat.le_of_ble_eq_true rfl⟩, ⟨rfl, trivial⟩⟩, rfl⟩
  · intro g0 g8 ih0 ih8 l b1 v8 res hh
    refine Q0.unroll ?_
    refine s' rfl rfl (q' rfl (n' (S' ?_)))
    refine ci' rfl hh (fun hh => ?_) (fun hh => ?_)
    · obtain ⟨x1, hx1, hh⟩ := bs' hh
      refine sk' (S' (AEx.block (s' rfl rfl (q' rfl (i' rfl (V0 hx1) (A0.idx hx1) rfl (q' rfl (J0.nf hC rfl (q' rfl (J0.s hC rfl (n' (S' (s' rfl rfl (q' rfl ?_)))))))))))))
      refine q' rfl (n' ?_)
      refine ci' rfl hh (fun hh => ?_) (fun hh => ?_)
      · obtain ⟨x3, hx3, hh⟩ := bs' hh
        obtain ⟨x2, hx2, hh⟩ := bs' hh
        refine R' rfl rfl (q' rfl (q' rfl (q' rfl (J0.g [0, 1] rfl (K0 hx3) ⟨.rfl, ⟨.rfl, trivial⟩⟩ rfl ⟨rfl, ⟨rfl, trivial⟩⟩ rfl rfl (n' (R' rfl rfl (q' rfl (q' rfl (J0.g [0, 1] rfl (ih0 _ _ _ hx2) ⟨.rfl, ⟨.rfl, trivial⟩⟩ rfl ⟨rfl, ⟨rfl, trivial⟩⟩ rfl rfl (n' (R' rfl rfl (q' rfl (q' rfl ?_)))))))))))))
        refine n' ?_
        refine Q0.wk ?_ (ih8 _ _ _ _ hh)
        exact ⟨⟨⟨.rfl, rfl⟩, ⟨⟨.rfl, rfl⟩, ⟨⟨.rfl, rfl⟩, ⟨⟨.rfl, rfl⟩, trivial⟩⟩⟩⟩, ⟨⟨rfl, Nat.le_of_ble_eq_true rfl⟩, ⟨rfl, trivial⟩⟩, rfl⟩
      obtain ⟨x2, hx2, hh⟩ := bs' hh
      refine sk' (R' rfl rfl (q' rfl (q' rfl (J0.g [0, 1] rfl (ih0 _ _ _ hx2) ⟨.rfl, ⟨.rfl, trivial⟩⟩ rfl ⟨rfl, ⟨rfl, trivial⟩⟩ rfl rfl (n' (R' rfl rfl (q' rfl (q' rfl (n' ?_)))))))))
      refine Q0.wk ?_ (ih8 _ _ _ _ hh)
      exact ⟨⟨⟨.rfl, rfl⟩, ⟨⟨.rfl, rfl⟩, ⟨⟨.rfl, rfl⟩, ⟨⟨.rfl, rfl⟩, trivial⟩⟩⟩⟩, ⟨⟨rfl, Nat.le_of_ble_eq_true rfl⟩, ⟨rfl, trivial⟩⟩, rfl⟩
    refine ex' ?_
    obtain rfl := oi' hh
    exact ⟨_, _, [.bld 1 86, .buf 5 b1], rfl, .rfl, ⟨⟨rfl, Nat.le_of_ble_eq_true rfl⟩, ⟨rfl, trivial⟩⟩, rfl, rfl, rfl, rfl⟩
  · intro g5 ih5 e b Ge res hh
    obtain ⟨x8, hx8, hh⟩ := bs' hh
    obtain ⟨x9, hx9, hh⟩ := bs' hh
    obtain ⟨x21, hx21, hh⟩ := bs' hh
    refine s' rfl rfl (q' rfl (q' rfl (q' rfl (q' rfl (J0.g [0, 1] rfl (K0 hx8) ⟨.rfl, ⟨.rfl, trivial⟩⟩ rfl ⟨rfl, ⟨rfl, trivial⟩⟩ rfl rfl (n' (R' rfl rfl (q' rfl (q' rfl (q' rfl (i' rfl (V0 hx9) (A0.idx hx9) rfl (q' rfl (J0.g [0, 1] rfl (ih5 _ _ _ _ hx21) ⟨.rfl, ⟨.rfl, ⟨.rfl, trivial⟩⟩⟩ rfl ⟨rfl, ⟨rfl, trivial⟩⟩ rfl rfl ?_)))))))))))))
    refine n' ?_
    obtain rfl := oi' hh
    exact ⟨_, _, [.bld 1 86, .buf 5 x21], rfl, .rfl, ⟨⟨rfl, Nat.le_of_ble_eq_true rfl⟩, ⟨rfl, trivial⟩⟩, rfl, rfl, rfl, rfl⟩
theorem J3 {e : A0} {b : Str} {res : Str} (hh : U0 e b = some res) : Tk e b res := (E3).1 _ _ _ hh
theorem J1e {e : A0} {b : Str} {v77 : Bool} {res : Str} (hh : B2 e b v77 = some res) : Ih e b v77 res := (E3).2.1 _ _ _ _ hh
theorem K1e {e : A0} {b : Str} {v94 : Bool} {res : Str} (hh : U2 e b v94 = some res) : Jh e b v94 res := (E3).2.2.1 _ _ _ _ hh
theorem S1g {e : A0} {b : Str} {res : Str} (hh : T4 e b = some res) : Ji e b res := (E3).2.2.2.1 _ _ _ hh
theorem M1c {e : A0} {b : Str} {x1 : Int} {left : Int} {res : Str} (hh : O3 e b x1 left = some res) : Dg e b x1 left res := (E3).2.2.2.2.1 _ _ _ _ _ hh
theorem L1k {e : A0} {required : Int} {b : Str} {res : Str} (hh : O4 e required b = some res) : Ul e required b res := (E3).2.2.2.2.2.1 _ _ _ _ hh
theorem L1e {e : A0} {b : Str} {A4 : Str} {res : Str} (hh : F4 e b A4 = some res) : Kh e b A4 res := (E3).2.2.2.2.2.2.1 _ _ _ _ hh
theorem Q10 {l : List A0} {b : Str} {res : Str} (hh : W3 l b = some res) : Uk l b res := (E3).2.2.2.2.2.2.2.1 _ _ _ hh
theorem M1e {l : List A0} {b1 : Str} {v8 : Int} {res : Str} (hh : L1 l b1 v8 = some res) : Lh l b1 v8 res := (E3).2.2.2.2.2.2.2.2.1 _ _ _ _ hh
theorem N1e {e : A0} {b : Str} {Ge : Str} {res : Str} (hh : G4 e b Ge = some res) : Mh e b Ge res := (E3).2.2.2.2.2.2.2.2.2 _ _ _ _ hh
end Go.Proofs.YtmilgoloagbmpaaGreatDoor

set_option maxRecDepth 100000
set_option maxHeartbeats 4000000
set_option linter.unusedVariables false
namespace Go.Proofs.YtmilgoloagbmpaaGreatDoor
open Go.Am
def R6 (b : Str) : Option (Str × Int) :=
  Pg b >>= fun x1 =>
  if (decide (x1 > 8192)) = true then
    some ([], 5)
  else
    Ie b >>= fun x2 =>
    some (x2, 0)
abbrev L11 (b : Str) (res : Str × Int) : Prop := R0 C 44 [.ref 0 0] [.bld 1 86, .buf 5 b] (fun x H' => H' = [.dead, .dead] ∧ x = .tup [.d (.str res.1), .d (.int .i64 res.2)])
theorem Ir {b : Str} {res : Str × Int} (hh : R6 b = some res) : L11 b res := by
  unfold R6 at hh
  refine R0.intro hC Tryz.func44 rfl rfl rfl ?_
  obtain ⟨x1, hx1, hh⟩ := bs' hh
  refine s' rfl rfl (q' rfl (q' rfl (n' (S' (s' rfl rfl (q' rfl (q' rfl (q' rfl (J0.g [0, 1] rfl (Oz hx1) ⟨.rfl, trivial⟩ rfl ⟨rfl, ⟨rfl, trivial⟩⟩ rfl rfl (q' rfl (n' ?_)))))))))))
  refine ci' rfl hh (fun hh => ?_) (fun hh => ?_)
  · refine s' rfl rfl (q' rfl (q' rfl (n' (re' ?_))))
    obtain rfl := oi' hh
    exact ⟨_, _, [.dead, .dead], rfl, .rfl, ⟨trivial, ⟨trivial, trivial⟩⟩, rfl, rfl, rfl, rfl⟩
  obtain ⟨x2, hx2, hh⟩ := bs' hh
  refine sk' (s' rfl rfl (q' rfl (q' rfl (q' rfl (J0.g [0, 1] rfl (Mx hx2) ⟨.rfl, trivial⟩ rfl ⟨rfl, ⟨rfl, trivial⟩⟩ rfl rfl (q' rfl (q' rfl (n' (re' ?_)))))))))
  obtain rfl := oi' hh
  exact ⟨_, _, [.dead, .dead], rfl, .rfl, ⟨trivial, ⟨trivial, trivial⟩⟩, rfl, rfl, rfl, rfl⟩
def Vc (e : A0) : Option (Str × Int) :=
  Se e >>= fun x1 =>
  if (x1 != 0) = true then
    some ([], x1)
  else
    U0 e [] >>= fun x2 =>
    R6 x2 >>= fun x3 =>
    some (x3.1, x3.2)
abbrev L14 (e : A0) (res : Str × Int) : Prop := R0 C 16 [.agg (A0.cells e)] [] (fun x H' => H' = [] ∧ x = .tup [.d (.str res.1), .d (.int .i64 res.2)])
theorem On {e : A0} {res : Str × Int} (hh : Vc e = some res) : L14 e res := by
  unfold Vc at hh
  refine R0.intro hC Tryz.func16 rfl rfl rfl ?_
  obtain ⟨x1, hx1, hh⟩ := bs' hh
  refine s' rfl rfl (J0.n hC rfl (q' rfl (q' rfl (n' (S' (s' rfl rfl (q' rfl (J0.c rfl rfl (Yu hx1) (q' rfl (n' (s' rfl rfl (q' rfl (q' rfl ?_)))))))))))))
  refine n' ?_
  refine ci' rfl hh (fun hh => ?_) (fun hh => ?_)
  · refine s' rfl rfl (q' rfl (q' rfl (q' rfl (n' (re' ?_)))))
    obtain rfl := oi' hh
    exact ⟨_, _, [], rfl, .rfl, trivial, rfl, rfl, rfl, rfl⟩
  obtain ⟨x2, hx2, hh⟩ := bs' hh
  obtain ⟨x3, hx3, hh⟩ := bs' hh
  refine sk' (s' rfl rfl (J0.newB 5 rfl rfl rfl R1t rfl rfl (q' rfl (n' (s' rfl rfl (q' rfl (q' rfl (J0.g [1, 2] rfl (J3 hx2) ⟨.rfl, ⟨.rfl, trivial⟩⟩ rfl ⟨rfl, ⟨rfl, trivial⟩⟩ rfl rfl (n' (s' rfl rfl (q' rfl (J0.g [1, 2] rfl (Ir hx3) ⟨.rfl, trivial⟩ rfl ⟨rfl, ⟨rfl, trivial⟩⟩ rfl rfl (q' rfl ?_)))))))))))))
  refine q' rfl (q' rfl (q' rfl (n' (re' ?_))))
  obtain rfl := oi' hh
  exact ⟨_, _, [], rfl, .rfl, trivial, rfl, rfl, rfl, rfl⟩
def Sf (k : Int) : Option (Bool × Bool) :=
  some ((bif (decide (k ≥ 0)) then (decide (k ≤ 6)) else false), (bif (k == 5) then true else (k == 6)))
abbrev L16 (k : Int) (res : Bool × Bool) : Prop := R0 C 142 [.d (.int .i64 k)] [] (fun x H' => H' = [] ∧ x = .tup [.d (.bool res.1), .d (.bool res.2)])
theorem M14 {k : Int} {res : Bool × Bool} (hh : Sf k = some res) : L16 k res := by
  unfold Sf at hh
  refine R0.intro hC Tryz.func142 rfl rfl rfl ?_
  refine s' rfl rfl (q' rfl (q' rfl (n' (sg' 14 rfl (a0' rfl (a0' rfl (a0' rfl (a0' rfl (a1' rfl (pa' rfl (a0' rfl (a0' rfl (a0' rfl ?_)))))))))))))
  refine a0' rfl (a1' rfl (po' rfl (a0' rfl (a0' rfl (an' (n' (re' ?_)))))))
  obtain rfl := oi' hh
  exact ⟨_, _, [], rfl, .rfl, trivial, rfl, rfl, rfl, rfl⟩
def Q1 (s1 : List Str) (s2 : List Str) (v13 : Int) : Option Bool :=
  if (decide (v13 < ((s1).length : Int))) = true then
    idx s1 v13 >>= fun x1 =>
    idx s2 v13 >>= fun x2 =>
    if (!(x1 == x2)) = true then
      some false
    else
      Q1 s1 s2 (IntKind.i64.wrap (v13 + 1))
  else
    some true
  partial_fixpoint
abbrev Jd (s1 : List Str) (s2 : List Str) (v13 : Int) (res : Bool) : Prop := Q0 (Fx.mk C 26 0) (lo (bk (sr (sl (sr (sr (N0 Tryz.f167))))))) (X0 [(0, .d (.sl (estr.rows s1))), (1, .d (.sl (estr.rows s2))), (12, .d (.int .i64 ((s1).length : Int))), (13, .d (.int .i64 v13))]) [] (Am.InBlock 0 (Am.Then (Fx.mk C 26 0) (sr (sr (sr (N0 Tryz.f167)))) (Am.Ends (Fx.mk C 26 0) Tryz.f167.results.toList (fun x H' => H' = [] ∧ x = .d (.bool res)))))
theorem Jr (s1 : List Str) (s2 : List Str) : (∀ (v13 : Int) (res : Bool), Q1 s1 s2 v13 = some res → Jd s1 s2 v13 res) := by
  refine Q1.partial_correctness s1
    s2
    (fun v13 res => Jd s1 s2 v13 res) ?_
  · intro g0 ih0 v13 res hh
    refine Q0.unroll ?_
    refine s' rfl rfl (q' rfl (n' (S' ?_)))
    refine ci' rfl hh (fun hh => ?_) (fun hh => ?_)
    · obtain ⟨x1, hx1, hh⟩ := bs' hh
      obtain ⟨x2, hx2, hh⟩ := bs' hh
      refine sk' (S' (AEx.block (s' rfl rfl (q' rfl (q' rfl (n' (S' (AEx.draw hC 9 rfl rfl rfl (Q' rfl (Q' rfl (AQ.i hC rfl (V0 hx1) (estr.idx hx1) rfl (Q' rfl (Q' rfl ?_)))))))))))))
      refine Q' rfl (AQ.i hC rfl (V0 hx2) (estr.idx hx2) rfl (Q' rfl (Q' rfl (Qn' (n' ?_)))))
      refine ci' rfl hh (fun hh => ?_) (fun hh => ?_)
      · refine s' rfl rfl (q' rfl (n' (re' ?_)))
        obtain rfl := oi' hh
        exact ⟨_, _, [], rfl, .rfl, trivial, rfl, rfl, rfl, rfl⟩
      refine sk' (R' rfl rfl (q' rfl (q' rfl (n' ?_))))
      refine Q0.wk ?_ (ih0 _ _ hh)
      exact ⟨⟨⟨.rfl, rfl⟩, ⟨⟨.rfl, rfl⟩, ⟨⟨.rfl, rfl⟩, ⟨⟨.rfl, rfl⟩, trivial⟩⟩⟩⟩, trivial, rfl⟩
    refine ex' (s' rfl rfl (q' rfl (n' (re' ?_))))
    obtain rfl := oi' hh
    exact ⟨_, _, [], rfl, .rfl, trivial, rfl, rfl, rfl, rfl⟩
theorem Gs {s1 : List Str} {s2 : List Str} {v13 : Int} {res : Bool} (hh : Q1 s1 s2 v13 = some res) : Jd s1 s2 v13 res := (Jr s1 s2) _ _ hh
def B5 (s1 : List Str) (s2 : List Str) : Option Bool :=
  if (((s1).length : Int) != ((s2).length : Int)) = true then
    some false
  else
    Q1 s1 s2 0
abbrev Mv (s1 : List Str) (s2 : List Str) (res : Bool) : Prop := R0 C 167 [.d (.sl (estr.rows s1)), .d (.sl (estr.rows s2))] [] (fun x H' => H' = [] ∧ x = .d (.bool res))
theorem Pu {s1 : List Str} {s2 : List Str} {res : Bool} (hh : B5 s1 s2 = some res) : Mv s1 s2 res := by
  unfold B5 at hh
  refine R0.intro hC Tryz.func167 rfl rfl rfl ?_
  refine s' rfl rfl (q' rfl (n' (S' (s' rfl rfl (q' rfl (qe' rfl trivial (estr.lenA _) (q' rfl (qe' rfl trivial (estr.lenA _) (q' rfl (n' ?_))))))))))
  refine ci' rfl hh (fun hh => ?_) (fun hh => ?_)
  · refine s' rfl rfl (q' rfl (n' (re' ?_)))
    obtain rfl := oi' hh
    exact ⟨_, _, [], rfl, .rfl, trivial, rfl, rfl, rfl, rfl⟩
  refine sk' (S' (s' rfl rfl (q' rfl (qe' rfl trivial (estr.lenA _) (q' rfl (n' (AEx.block ?_)))))))
  refine AEx.ofLoop ?_
  refine Q0.wk ?_ (Gs hh)
  exact ⟨⟨⟨.rfl, rfl⟩, ⟨⟨.rfl, rfl⟩, ⟨⟨.rfl, rfl⟩, ⟨⟨.rfl, rfl⟩, trivial⟩⟩⟩⟩, trivial, rfl⟩
mutual
def R5 (a : D0) (b : D0) : Option Bool :=
  (if (bif (bif (bif (bif (a.Kind == b.Kind) then (a.Low == b.Low) else false) then (a.High == b.High) else false) then (a.Size == b.Size) else false) then (a.Name == b.Name) else false) = true then B5 a.Names b.Names else some default) >>= fun x1 =>
  (if (bif (bif (bif (bif (bif (a.Kind == b.Kind) then (a.Low == b.Low) else false) then (a.High == b.High) else false) then (a.Size == b.Size) else false) then (a.Name == b.Name) else false) then x1 else false) = true then G1 a.Of b.Of else some default) >>= fun x2 =>
  some (bif (bif (bif (bif (bif (bif (a.Kind == b.Kind) then (a.Low == b.Low) else false) then (a.High == b.High) else false) then (a.Size == b.Size) else false) then (a.Name == b.Name) else false) then x1 else false) then x2 else false)
  partial_fixpoint
def G1 (s1 : List D0) (s2 : List D0) : Option Bool :=
  if (((s1).length : Int) != ((s2).length : Int)) = true then
    some false
  else
    Y0 s1 s2 0
  partial_fixpoint
def Y0 (s1 : List D0) (s2 : List D0) (v17 : Int) : Option Bool :=
  if (decide (v17 < ((s1).length : Int))) = true then
    idx s1 v17 >>= fun x1 =>
    idx s2 v17 >>= fun x2 =>
    R5 x1 x2 >>= fun x3 =>
    if (!x3) = true then
      some false
    else
      Y0 s1 s2 (IntKind.i64.wrap (v17 + 1))
  else
    some true
  partial_fixpoint
end
abbrev Ep (a : D0) (b : D0) (res : Bool) : Prop := R0 C 143 [.agg (D0.cells a), .agg (D0.cells b)] [] (fun x H' => H' = [] ∧ x = .d (.bool res))
abbrev P4 (s1 : List D0) (s2 : List D0) (res : Bool) : Prop := R0 C 168 [.d (.sl (D0.rows s1)), .d (.sl (D0.rows s2)), .clo 143 []] [] (fun x H' => H' = [] ∧ x = .d (.bool res))
abbrev X3 (s1 : List D0) (s2 : List D0) (v17 : Int) (res : Bool) : Prop := Q0 (Fx.mk C 32 0) (lo (bk (sr (sl (sr (sr (N0 Tryz.f168))))))) (X0 [(1, .d (.sl (D0.rows s2))), (2, .clo 143 []), (15, .d (.sl (D0.rows s1))), (16, .d (.int .i64 ((s1).length : Int))), (17, .d (.int .i64 v17))]) [] (Am.InBlock 0 (Am.Then (Fx.mk C 32 0) (sr (sr (sr (N0 Tryz.f168)))) (Am.Ends (Fx.mk C 32 0) Tryz.f168.results.toList (fun x H' => H' = [] ∧ x = .d (.bool res)))))
theorem Vl : (∀ (a : D0) (b : D0) (res : Bool), R5 a b = some res → Ep a b res) ∧
    (∀ (s1 : List D0) (s2 : List D0) (res : Bool), G1 s1 s2 = some res → P4 s1 s2 res) ∧
    (∀ (s1 : List D0) (s2 : List D0) (v17 : Int) (res : Bool), Y0 s1 s2 v17 = some res → X3 s1 s2 v17 res) := by
  refine R5.mutual_partial_correctness (fun a b res => Ep a b res)
    (fun s1 s2 res => P4 s1 s2 res)
    (fun s1 s2 v17 res => X3 s1 s2 v17 res) ?_ ?_ ?_
  · intro g1 ih1 a b res hh
    refine R0.intro hC Tryz.func143 rfl rfl rfl ?_
    obtain ⟨x1, hx1, hh⟩ := bs' hh
    obtain ⟨x2, hx2, hh⟩ := bs' hh
    refine s' rfl rfl (J0.n hC rfl (J0.n hC rfl (q' rfl (n' (sg' 48 rfl (a0' rfl (a0' rfl (a0' rfl (a0' rfl (a0' rfl (a0' rfl (a0' rfl (a1' rfl ?_)))))))))))))
    refine a0' rfl (a1' rfl (a2' rfl (pa' rfl (a0' rfl (a0' rfl (a1' rfl (a0' rfl (a1' rfl (a2' rfl (pa' rfl (a0' rfl (a0' rfl (a1' rfl ?_)))))))))))))
    refine a0' rfl (a1' rfl (a2' rfl (pa' rfl (a0' rfl (a0' rfl (a1' rfl (a0' rfl (a1' rfl (a2' rfl (pa' rfl (a0' rfl (a0' rfl (a1' rfl ?_)))))))))))))
    refine a0' rfl (a1' rfl (AG.c rfl rfl (fun hg => ⟨hg, hg, trivial⟩) (fun hw => Pu (V1 hw hx1)) (pa' rfl (a0' rfl (a0' rfl (a1' rfl (a0' rfl (a1' rfl (AG.c rfl rfl (fun hg => ⟨hg, hg, trivial⟩) (fun hw => ih1 _ _ _ (V1 hw hx2)) (pa' rfl (a0' rfl (an' (n' ?_)))))))))))))
    refine re' ?_
    obtain rfl := oi' hh
    exact ⟨_, _, [], rfl, .rfl, trivial, rfl, rfl, rfl, rfl⟩
  · intro g2 ih2 s1 s2 res hh
    refine R0.intro hC Tryz.func168 rfl rfl rfl ?_
    refine s' rfl rfl (q' rfl (n' (S' (s' rfl rfl (q' rfl (qe' rfl trivial (D0.lenA _) (q' rfl (qe' rfl trivial (D0.lenA _) (q' rfl (n' ?_))))))))))
    refine ci' rfl hh (fun hh => ?_) (fun hh => ?_)
    · refine s' rfl rfl (q' rfl (n' (re' ?_)))
      obtain rfl := oi' hh
      exact ⟨_, _, [], rfl, .rfl, trivial, rfl, rfl, rfl, rfl⟩
    refine sk' (S' (s' rfl rfl (q' rfl (qe' rfl trivial (D0.lenA _) (q' rfl (n' (AEx.block ?_)))))))
    refine AEx.ofLoop ?_
    refine Q0.wk ?_ (ih2 _ _ _ _ hh)
    exact ⟨⟨⟨.rfl, rfl⟩, ⟨⟨.rfl, rfl⟩, ⟨⟨.rfl, rfl⟩, ⟨⟨.rfl, rfl⟩, ⟨⟨.rfl, rfl⟩, trivial⟩⟩⟩⟩⟩, trivial, rfl⟩
  · intro g0 g2 ih0 ih2 s1 s2 v17 res hh
    refine Q0.unroll ?_
    refine s' rfl rfl (q' rfl (n' (S' ?_)))
    refine ci' rfl hh (fun hh => ?_) (fun hh => ?_)
    · obtain ⟨x1, hx1, hh⟩ := bs' hh
      obtain ⟨x2, hx2, hh⟩ := bs' hh
      obtain ⟨x3, hx3, hh⟩ := bs' hh
      refine sk' (S' (AEx.block (s' rfl rfl (q' rfl (i' rfl (V0 hx1) (D0.idx hx1) rfl (q' rfl (J0.nf hC rfl (q' rfl (J0.s hC rfl (n' (s' rfl rfl (q' rfl (q' rfl ?_)))))))))))))
      refine i' rfl (V0 hx2) (D0.idx hx2) rfl (q' rfl (J0.nf hC rfl (J0.s hC rfl (n' (s' rfl rfl (q' rfl (q' rfl (q' rfl (J0.c rfl rfl (ih0 _ _ _ hx3) (q' rfl (n' ?_)))))))))))
      refine ci' rfl hh (fun hh => ?_) (fun hh => ?_)
      · refine s' rfl rfl (q' rfl (n' (re' ?_)))
        obtain rfl := oi' hh
        exact ⟨_, _, [], rfl, .rfl, trivial, rfl, rfl, rfl, rfl⟩
      refine sk' (R' rfl rfl (q' rfl (q' rfl (n' ?_))))
      refine Q0.wk ?_ (ih2 _ _ _ _ hh)
      exact ⟨⟨⟨.rfl, rfl⟩, ⟨⟨.rfl, rfl⟩, ⟨⟨.rfl, rfl⟩, ⟨⟨.rfl, rfl⟩, ⟨⟨.rfl, rfl⟩, trivial⟩⟩⟩⟩⟩, trivial, rfl⟩
    refine ex' (s' rfl rfl (q' rfl (n' (re' ?_))))
    obtain rfl := oi' hh
    exact ⟨_, _, [], rfl, .rfl, trivial, rfl, rfl, rfl, rfl⟩
theorem K13 {a : D0} {b : D0} {res : Bool} (hh : R5 a b = some res) : Ep a b res := (Vl).1 _ _ _ hh
theorem Fw {s1 : List D0} {s2 : List D0} {res : Bool} (hh : G1 s1 s2 = some res) : P4 s1 s2 res := (Vl).2.1 _ _ _ hh
theorem Qu {s1 : List D0} {s2 : List D0} {v17 : Int} {res : Bool} (hh : Y0 s1 s2 v17 = some res) : X3 s1 s2 v17 res := (Vl).2.2 _ _ _ _ hh
mutual
def D4 (t : D0) (depth : Int) (syntaxReport : C0) : Option C0 :=
  B6 depth (C0.mk (IntKind.i64.wrap (syntaxReport.nodes + 1)) syntaxReport.depth syntaxReport.badForm syntaxReport.badName syntaxReport.badNumber) >>= fun x1 =>
  W0 (bif (decide (t.Kind ≥ 0)) then (decide (t.Kind ≤ 4)) else false) x1 >>= fun x2 =>
  W0 (bif (t.Kind == 1) then true else (bif (t.Low == 0) then (t.High == 0) else false)) x2 >>= fun x3 =>
  W0 (bif (t.Kind == 2) then true else (t.Size == 0)) x3 >>= fun x4 =>
  W0 (bif (t.Kind == 4) then true else (t.Name == [])) x4 >>= fun x5 =>
  W0 (bif (t.Kind == 3) then true else (((t.Names).length : Int) == 0)) x5 >>= fun x6 =>
  if (t.Kind == 2) = true then
    W0 (((t.Of).length : Int) == 1) x6 >>= fun x7 =>
    I3 t.Size 1 32 >>= fun x8 =>
    O1 x8 x7 >>= fun x9 =>
    H4 t depth x9
  else
    if (t.Kind == 3) = true then
      W0 (bif (decide (((t.Of).length : Int) ≥ 1)) then (((t.Of).length : Int) == ((t.Names).length : Int)) else false) x6 >>= fun x14 =>
      O1 (decide (((t.Of).length : Int) ≤ 32)) x14 >>= fun x15 =>
      H4 t depth x15
    else
      W0 (((t.Of).length : Int) == 0) x6 >>= fun x16 =>
      H4 t depth x16
  partial_fixpoint
def H4 (t : D0) (depth : Int) (o0 : C0) : Option C0 :=
  if (t.Kind == 1) = true then
    I3 t.Low (-1048576) 1048576 >>= fun x10 =>
    (if x10 = true then I3 t.High t.Low 1048576 else some default) >>= fun x11 =>
    O1 (bif x10 then x11 else false) o0 >>= fun x12 =>
    I4 t depth x12
  else
    I4 t depth o0
  partial_fixpoint
def I4 (t : D0) (depth : Int) (o01 : C0) : Option C0 :=
  if (t.Kind == 4) = true then
    T3 t.Name o01 >>= fun x13 =>
    F5 t depth x13
  else
    F5 t depth o01
  partial_fixpoint
def F5 (t : D0) (depth : Int) (o02 : C0) : Option C0 :=
  Z2 t depth o02 0
  partial_fixpoint
def Z2 (t : D0) (depth : Int) (o03 : C0) (v147 : Int) : Option C0 :=
  if (decide (v147 < ((t.Names).length : Int))) = true then
    idx t.Names v147 >>= fun x17 =>
    T3 x17 o03 >>= fun x18 =>
    Z2 t depth x18 (IntKind.i64.wrap (v147 + 1))
  else
    P3 t depth o03 0
  partial_fixpoint
def P3 (t : D0) (depth : Int) (o04 : C0) (v158 : Int) : Option C0 :=
  if (decide (v158 < ((t.Of).length : Int))) = true then
    idx t.Of v158 >>= fun x19 =>
    D4 x19 (IntKind.i64.wrap (depth + 1)) o04 >>= fun x20 =>
    P3 t depth x20 (IntKind.i64.wrap (v158 + 1))
  else
    some o04
  partial_fixpoint
end
abbrev Pn (t : D0) (depth : Int) (syntaxReport : C0) (res : C0) : Prop := R0 C 60 [.ref 0 0, .agg (D0.cells t), .d (.int .i64 depth)] [.row (C0.cells syntaxReport) 75] (fun x H' => H' = [.row (C0.cells res) 75] ∧ x = .tup [])
abbrev Kj (t : D0) (depth : Int) (o0 : C0) (res : C0) : Prop := AEx (Fx.mk C 168 1) (sr (sr (sr (sr (sr (sr (sr (sr (sr (sr (N0 Tryz.f60))))))))))) (X0 [(0, .ref 0 0), (2, .d (.int .i64 depth)), (4, .ref 1 0), (6, .d (.bool (t.Kind == 1))), (9, .d (.bool (t.Kind == 4)))]) [.row (C0.cells o0) 75, .row (D0.cells t) 48] (Am.Ends (Fx.mk C 168 1) Tryz.f60.results.toList (fun x H' => H' = [.row (C0.cells res) 75] ∧ x = .tup []))
abbrev Lj (t : D0) (depth : Int) (o01 : C0) (res : C0) : Prop := AEx (Fx.mk C 168 1) (sr (sr (sr (sr (sr (sr (sr (sr (sr (sr (sr (N0 Tryz.f60)))))))))))) (X0 [(0, .ref 0 0), (2, .d (.int .i64 depth)), (4, .ref 1 0), (9, .d (.bool (t.Kind == 4)))]) [.row (C0.cells o01) 75, .row (D0.cells t) 48] (Am.Ends (Fx.mk C 168 1) Tryz.f60.results.toList (fun x H' => H' = [.row (C0.cells res) 75] ∧ x = .tup []))
abbrev Mj (t : D0) (depth : Int) (o02 : C0) (res : C0) : Prop := AEx (Fx.mk C 168 1) (sr (sr (sr (sr (sr (sr (sr (sr (sr (sr (sr (sr (N0 Tryz.f60))))))))))))) (X0 [(0, .ref 0 0), (2, .d (.int .i64 depth)), (4, .ref 1 0)]) [.row (C0.cells o02) 75, .row (D0.cells t) 48] (Am.Ends (Fx.mk C 168 1) Tryz.f60.results.toList (fun x H' => H' = [.row (C0.cells res) 75] ∧ x = .tup []))
abbrev Nj (t : D0) (depth : Int) (o03 : C0) (v147 : Int) (res : C0) : Prop := Q0 (Fx.mk C 168 1) (lo (bk (sr (sl (sr (sr (sr (sr (sr (sr (sr (sr (sr (sr (sr (sr (N0 Tryz.f60))))))))))))))))) (X0 [(0, .ref 0 0), (2, .d (.int .i64 depth)), (4, .ref 1 0), (145, .d (.sl (estr.rows t.Names))), (146, .d (.int .i64 ((t.Names).length : Int))), (147, .d (.int .i64 v147))]) [.row (C0.cells o03) 75, .row (D0.cells t) 48] (Am.InBlock 1 (Am.Then (Fx.mk C 168 1) (sr (sr (sr (sr (sr (sr (sr (sr (sr (sr (sr (sr (sr (N0 Tryz.f60)))))))))))))) (Am.Ends (Fx.mk C 168 1) Tryz.f60.results.toList (fun x H' => H' = [.row (C0.cells res) 75] ∧ x = .tup []))))
abbrev Oj (t : D0) (depth : Int) (o04 : C0) (v158 : Int) (res : C0) : Prop := Q0 (Fx.mk C 168 1) (lo (bk (sr (sr (sr (sr (sr (sr (sr (sr (sr (sr (sr (sr (sr (sr (N0 Tryz.f60))))))))))))))))) (X0 [(0, .ref 0 0), (2, .d (.int .i64 depth)), (156, .d (.sl (D0.rows t.Of))), (157, .d (.int .i64 ((t.Of).length : Int))), (158, .d (.int .i64 v158))]) [.row (C0.cells o04) 75] (Am.InBlock 3 (Am.Ends (Fx.mk C 168 1) Tryz.f60.results.toList (fun x H' => H' = [.row (C0.cells res) 75] ∧ x = .tup [])))
theorem F9 : (∀ (t : D0) (depth : Int) (syntaxReport : C0) (res : C0), D4 t depth syntaxReport = some res → Pn t depth syntaxReport res) ∧
    (∀ (t : D0) (depth : Int) (o0 : C0) (res : C0), H4 t depth o0 = some res → Kj t depth o0 res) ∧
    (∀ (t : D0) (depth : Int) (o01 : C0) (res : C0), I4 t depth o01 = some res → Lj t depth o01 res) ∧
    (∀ (t : D0) (depth : Int) (o02 : C0) (res : C0), F5 t depth o02 = some res → Mj t depth o02 res) ∧
    (∀ (t : D0) (depth : Int) (o03 : C0) (v147 : Int) (res : C0), Z2 t depth o03 v147 = some res → Nj t depth o03 v147 res) ∧
    (∀ (t : D0) (depth : Int) (o04 : C0) (v158 : Int) (res : C0), P3 t depth o04 v158 = some res → Oj t depth o04 v158 res) := by
  refine D4.mutual_partial_correctness (fun t depth syntaxReport res => Pn t depth syntaxReport res)
    (fun t depth o0 res => Kj t depth o0 res)
    (fun t depth o01 res => Lj t depth o01 res)
    (fun t depth o02 res => Mj t depth o02 res)
    (fun t depth o03 v147 res => Nj t depth o03 v147 res)
    (fun t depth o04 v158 res => Oj t depth o04 v158 res) ?_ ?_ ?_ ?_ ?_ ?_
  · intro g1 ih1 t depth syntaxReport res hh
    refine R0.intro hC Tryz.func60 rfl rfl rfl ?_
    obtain ⟨x1, hx1, hh⟩ := bs' hh
    obtain ⟨x2, hx2, hh⟩ := bs' hh
    obtain ⟨x3, hx3, hh⟩ := bs' hh
    obtain ⟨x4, hx4, hh⟩ := bs' hh
    obtain ⟨x5, hx5, hh⟩ := bs' hh
    obtain ⟨x6, hx6, hh⟩ := bs' hh
    refine s' rfl rfl (J0.n hC rfl (n' (s' rfl rfl (q' rfl (q' rfl (q' rfl (q' rfl (q' rfl (q' rfl (q' rfl (J0.s hC rfl (n' (s' rfl rfl ?_)))))))))))))
    refine q' rfl (q' rfl (J0.g [0] rfl (Kk hx1) ⟨.rfl, ⟨.rfl, trivial⟩⟩ rfl ⟨rfl, trivial⟩ rfl rfl (n' (sg' 9 rfl (a0' rfl (a0' rfl (a0' rfl (a0' rfl (a0' rfl (a0' rfl (a1' rfl (a1' rfl (pa' rfl ?_)))))))))))))
    refine an' (J0.g [0] rfl (B1 hx2) ⟨.rfl, ⟨.rfl, trivial⟩⟩ rfl ⟨rfl, trivial⟩ rfl rfl (n' (S' (AEx.draw hC 16 rfl rfl rfl (Q' rfl (Q' rfl (Q' rfl (Q' rfl (Q' rfl (Q' rfl (Q' rfl (Q' rfl (Q' rfl ?_)))))))))))))
    iterate 7 refine Q' rfl ?_
    refine Qn' (n' (sg' 12 rfl (a0' rfl (a0' rfl (a0' rfl (a0' rfl (a1' rfl (a1' rfl (a1' rfl (a0' rfl (a1' rfl (a1' rfl (pA' rfl ?_)))))))))))))
    refine po' rfl (an' (J0.g [0] rfl (B1 hx3) ⟨.rfl, ⟨.rfl, trivial⟩⟩ rfl ⟨rfl, trivial⟩ rfl rfl (n' (sg' 7 rfl (a0' rfl (a0' rfl (a0' rfl (a0' rfl (a1' rfl (a1' rfl (po' rfl (an' (J0.g [0] rfl (B1 hx4) ⟨.rfl, ⟨.rfl, trivial⟩⟩ rfl ⟨rfl, trivial⟩ rfl rfl ?_)))))))))))))
    refine n' (sg' 7 rfl (a0' rfl (a0' rfl (a0' rfl (a0' rfl (a1' rfl (a1' rfl (po' rfl (an' (J0.g [0] rfl (B1 hx5) ⟨.rfl, ⟨.rfl, trivial⟩⟩ rfl ⟨rfl, trivial⟩ rfl rfl (n' (sg' 8 rfl (a0' rfl ?_)))))))))))))
    refine a0' rfl (a0' rfl (a0' rfl (a1' rfl (AG.qe hC rfl (fun hg => ⟨⟨hg, trivial⟩, trivial⟩) (estr.lenA _) (a1' rfl (po' rfl (an' (J0.g [0] rfl (B1 hx6) ⟨.rfl, ⟨.rfl, trivial⟩⟩ rfl ⟨rfl, trivial⟩ rfl rfl (n' (S' (AEx.block (s' rfl rfl (q' rfl ?_)))))))))))))
    refine q' rfl (n' ?_)
    refine ci' rfl hh (fun hh => ?_) (fun hh => ?_)
    · obtain ⟨x7, hx7, hh⟩ := bs' hh
      obtain ⟨x8, hx8, hh⟩ := bs' hh
      obtain ⟨x9, hx9, hh⟩ := bs' hh
      refine s' rfl rfl (q' rfl (q' rfl (q' rfl (qe' rfl trivial (D0.lenA _) (q' rfl (J0.g [0] rfl (B1 hx7) ⟨.rfl, ⟨.rfl, trivial⟩⟩ rfl ⟨rfl, trivial⟩ rfl rfl (n' (R' rfl rfl (q' rfl (q' rfl (q' rfl (J0.c rfl rfl (A5 hx8) (J0.g [0] rfl (D3 hx9) ⟨.rfl, ⟨.rfl, trivial⟩⟩ rfl ⟨rfl, trivial⟩ rfl rfl ?_)))))))))))))
      refine n' ?_
      refine AEx.wk ?_ (ih1 _ _ _ _ hh)
      exact ⟨⟨⟨.rfl, rfl⟩, ⟨⟨.rfl, rfl⟩, ⟨⟨.rfl, rfl⟩, ⟨⟨.rfl, rfl⟩, ⟨⟨.rfl, rfl⟩, trivial⟩⟩⟩⟩⟩, ⟨⟨rfl, .refl _, rfl⟩, ⟨⟨rfl, .refl _, rfl⟩, trivial⟩⟩, rfl⟩
    refine s' rfl rfl (q' rfl (q' rfl (n' ?_)))
    refine ci' rfl hh (fun hh => ?_) (fun hh => ?_)
    · obtain ⟨x14, hx14, hh⟩ := bs' hh
      obtain ⟨x15, hx15, hh⟩ := bs' hh
      refine sg' 14 rfl (a0' rfl (a0' rfl (a0' rfl (AG.qe hC rfl (fun hg => ⟨trivial, trivial⟩) (D0.lenA _) (a0' rfl (a0' rfl (a0' rfl (a1' rfl (AG.qe hC rfl (fun hg => ⟨⟨hg, trivial⟩, trivial⟩) (D0.lenA _) (a0' rfl (a1' rfl (AG.qe hC rfl (fun hg => ⟨⟨hg, trivial⟩, trivial⟩) (estr.lenA _) (a2' rfl ?_)))))))))))))
      refine pa' rfl (an' (J0.g [0] rfl (B1 hx14) ⟨.rfl, ⟨.rfl, trivial⟩⟩ rfl ⟨rfl, trivial⟩ rfl rfl (n' (R' rfl rfl (q' rfl (q' rfl (q' rfl (qe' rfl trivial (D0.lenA _) (q' rfl (J0.g [0] rfl (D3 hx15) ⟨.rfl, ⟨.rfl, trivial⟩⟩ rfl ⟨rfl, trivial⟩ rfl rfl (n' ?_)))))))))))
      refine AEx.wk ?_ (ih1 _ _ _ _ hh)
      exact ⟨⟨⟨.rfl, rfl⟩, ⟨⟨.rfl, rfl⟩, ⟨⟨.rfl, rfl⟩, ⟨⟨.rfl, rfl⟩, ⟨⟨.rfl, rfl⟩, trivial⟩⟩⟩⟩⟩, ⟨⟨rfl, .refl _, rfl⟩, ⟨⟨rfl, .refl _, rfl⟩, trivial⟩⟩, rfl⟩
    obtain ⟨x16, hx16, hh⟩ := bs' hh
    refine R' rfl rfl (q' rfl (q' rfl (q' rfl (qe' rfl trivial (D0.lenA _) (q' rfl (J0.g [0] rfl (B1 hx16) ⟨.rfl, ⟨.rfl, trivial⟩⟩ rfl ⟨rfl, trivial⟩ rfl rfl (n' ?_)))))))
    refine AEx.wk ?_ (ih1 _ _ _ _ hh)
    exact ⟨⟨⟨.rfl, rfl⟩, ⟨⟨.rfl, rfl⟩, ⟨⟨.rfl, rfl⟩, ⟨⟨.rfl, rfl⟩, ⟨⟨.rfl, rfl⟩, trivial⟩⟩⟩⟩⟩, ⟨⟨rfl, .refl _, rfl⟩, ⟨⟨rfl, .refl _, rfl⟩, trivial⟩⟩, rfl⟩
  · intro g2 ih2 t depth o0 res hh
    refine S' (s' rfl rfl (q' rfl (n' ?_)))
    refine ci' rfl hh (fun hh => ?_) (fun hh => ?_)
    · obtain ⟨x10, hx10, hh⟩ := bs' hh
      obtain ⟨x11, hx11, hh⟩ := bs' hh
      obtain ⟨x12, hx12, hh⟩ := bs' hh
      refine AEx.regionG 11 rfl (a0' rfl (a0' rfl (a0' rfl (AG.c rfl rfl (fun _ => trivial) (fun _ => A5 hx10) (a0' rfl (a0' rfl (a1' rfl (a0' rfl (a1' rfl (AG.c rfl rfl (fun hg => ⟨hg, hg, trivial⟩) (fun hw => A5 (V1 hw hx11)) (pa' rfl (an' (J0.g [0] rfl (D3 hx12) ⟨.rfl, ⟨.rfl, trivial⟩⟩ rfl ⟨rfl, trivial⟩ rfl rfl ?_)))))))))))))
      refine n' ?_
      refine AEx.wk ?_ (ih2 _ _ _ _ hh)
      exact ⟨⟨⟨.rfl, rfl⟩, ⟨⟨.rfl, rfl⟩, ⟨⟨.rfl, rfl⟩, ⟨⟨.rfl, rfl⟩, trivial⟩⟩⟩⟩, ⟨⟨rfl, .refl _, rfl⟩, ⟨⟨rfl, .refl _, rfl⟩, trivial⟩⟩, rfl⟩
    refine sk' ?_
    refine AEx.wk ?_ (ih2 _ _ _ _ hh)
    exact ⟨⟨⟨.rfl, rfl⟩, ⟨⟨.rfl, rfl⟩, ⟨⟨.rfl, rfl⟩, ⟨⟨.rfl, rfl⟩, trivial⟩⟩⟩⟩, ⟨⟨rfl, .refl _, rfl⟩, ⟨⟨rfl, .refl _, rfl⟩, trivial⟩⟩, rfl⟩
  · intro g3 ih3 t depth o01 res hh
    refine S' (s' rfl rfl (q' rfl (n' ?_)))
    refine ci' rfl hh (fun hh => ?_) (fun hh => ?_)
    · obtain ⟨x13, hx13, hh⟩ := bs' hh
      refine R' rfl rfl (q' rfl (q' rfl (q' rfl (J0.g [0] rfl (Xc hx13) ⟨.rfl, ⟨.rfl, trivial⟩⟩ rfl ⟨rfl, trivial⟩ rfl rfl (n' ?_)))))
      refine AEx.wk ?_ (ih3 _ _ _ _ hh)
      exact ⟨⟨⟨.rfl, rfl⟩, ⟨⟨.rfl, rfl⟩, ⟨⟨.rfl, rfl⟩, trivial⟩⟩⟩, ⟨⟨rfl, .refl _, rfl⟩, ⟨⟨rfl, .refl _, rfl⟩, trivial⟩⟩, rfl⟩
    refine sk' ?_
    refine AEx.wk ?_ (ih3 _ _ _ _ hh)
    exact ⟨⟨⟨.rfl, rfl⟩, ⟨⟨.rfl, rfl⟩, ⟨⟨.rfl, rfl⟩, trivial⟩⟩⟩, ⟨⟨rfl, .refl _, rfl⟩, ⟨⟨rfl, .refl _, rfl⟩, trivial⟩⟩, rfl⟩
  · intro g4 ih4 t depth o02 res hh
    refine S' (s' rfl rfl (q' rfl (q' rfl (qe' rfl trivial (estr.lenA _) (q' rfl (n' (AEx.block ?_)))))))
    refine AEx.ofLoop ?_
    refine Q0.wk ?_ (ih4 _ _ _ _ _ hh)
    exact ⟨⟨⟨.rfl, rfl⟩, ⟨⟨.rfl, rfl⟩, ⟨⟨.rfl, rfl⟩, ⟨⟨.rfl, rfl⟩, ⟨⟨.rfl, rfl⟩, ⟨⟨.rfl, rfl⟩, trivial⟩⟩⟩⟩⟩⟩, ⟨⟨rfl, .refl _, rfl⟩, ⟨⟨rfl, .refl _, rfl⟩, trivial⟩⟩, rfl⟩
  · intro g4 g5 ih4 ih5 t depth o03 v147 res hh
    refine Q0.unroll ?_
    refine s' rfl rfl (q' rfl (n' (S' ?_)))
    refine ci' rfl hh (fun hh => ?_) (fun hh => ?_)
    · obtain ⟨x17, hx17, hh⟩ := bs' hh
      obtain ⟨x18, hx18, hh⟩ := bs' hh
      refine sk' (S' (AEx.block (s' rfl rfl (i' rfl (V0 hx17) (estr.idx hx17) rfl (q' rfl (q' rfl (n' (R' rfl rfl (q' rfl (q' rfl (J0.g [0] rfl (Xc hx18) ⟨.rfl, ⟨.rfl, trivial⟩⟩ rfl ⟨rfl, trivial⟩ rfl rfl (n' (R' rfl rfl ?_)))))))))))))
      refine q' rfl (q' rfl (n' ?_))
      refine Q0.wk ?_ (ih4 _ _ _ _ _ hh)
      exact ⟨⟨⟨.rfl, rfl⟩, ⟨⟨.rfl, rfl⟩, ⟨⟨.rfl, rfl⟩, ⟨⟨.rfl, rfl⟩, ⟨⟨.rfl, rfl⟩, ⟨⟨.rfl, rfl⟩, trivial⟩⟩⟩⟩⟩⟩, ⟨⟨rfl, .refl _, rfl⟩, ⟨⟨rfl, .refl _, rfl⟩, trivial⟩⟩, rfl⟩
    refine ex' (s' rfl rfl (q' rfl (q' rfl (qe' rfl trivial (D0.lenA _) (q' rfl (n' (AEx.block ?_)))))))
    refine AEx.ofLoop ?_
    refine Q0.wk ?_ (ih5 _ _ _ _ _ hh)
    exact ⟨⟨⟨.rfl, rfl⟩, ⟨⟨.rfl, rfl⟩, ⟨⟨.rfl, rfl⟩, ⟨⟨.rfl, rfl⟩, ⟨⟨.rfl, rfl⟩, trivial⟩⟩⟩⟩⟩, ⟨⟨rfl, .refl _, rfl⟩, trivial⟩, rfl⟩
  · intro g0 g5 ih0 ih5 t depth o04 v158 res hh
    refine Q0.unroll ?_
    refine s' rfl rfl (q' rfl (n' (S' ?_)))
    refine ci' rfl hh (fun hh => ?_) (fun hh => ?_)
    · obtain ⟨x19, hx19, hh⟩ := bs' hh
      obtain ⟨x20, hx20, hh⟩ := bs' hh
      refine sk' (S' (AEx.block (s' rfl rfl (i' rfl (V0 hx19) (D0.idx hx19) rfl (q' rfl (J0.nf hC rfl (J0.s hC rfl (n' (R' rfl rfl (q' rfl (q' rfl (q' rfl (q' rfl ?_)))))))))))))
      refine J0.g [0] rfl (ih0 _ _ _ _ hx20) ⟨.rfl, ⟨.rfl, ⟨.rfl, trivial⟩⟩⟩ rfl ⟨rfl, trivial⟩ rfl rfl (n' (R' rfl rfl (q' rfl (q' rfl (n' ?_)))))
      refine Q0.wk ?_ (ih5 _ _ _ _ _ hh)
      exact ⟨⟨⟨.rfl, rfl⟩, ⟨⟨.rfl, rfl⟩, ⟨⟨.rfl, rfl⟩, ⟨⟨.rfl, rfl⟩, ⟨⟨.rfl, rfl⟩, trivial⟩⟩⟩⟩⟩, ⟨⟨rfl, .refl _, rfl⟩, trivial⟩, rfl⟩
    refine ex' ?_
    obtain rfl := oi' hh
    exact ⟨_, _, [.row (C0.cells o04) 75], rfl, .rfl, ⟨⟨rfl, .refl _, rfl⟩, trivial⟩, rfl, rfl, rfl, rfl⟩
theorem O12 {t : D0} {depth : Int} {syntaxReport : C0} {res : C0} (hh : D4 t depth syntaxReport = some res) : Pn t depth syntaxReport res := (F9).1 _ _ _ _ hh
theorem P1i {t : D0} {depth : Int} {o0 : C0} {res : C0} (hh : H4 t depth o0 = some res) : Kj t depth o0 res := (F9).2.1 _ _ _ _ hh
theorem Q1i {t : D0} {depth : Int} {o01 : C0} {res : C0} (hh : I4 t depth o01 = some res) : Lj t depth o01 res := (F9).2.2.1 _ _ _ _ hh
theorem R1i {t : D0} {depth : Int} {o02 : C0} {res : C0} (hh : F5 t depth o02 = some res) : Mj t depth o02 res := (F9).2.2.2.1 _ _ _ _ hh
theorem S1i {t : D0} {depth : Int} {o03 : C0} {v147 : Int} {res : C0} (hh : Z2 t depth o03 v147 = some res) : Nj t depth o03 v147 res := (F9).2.2.2.2.1 _ _ _ _ _ hh
theorem T1i {t : D0} {depth : Int} {o04 : C0} {v158 : Int} {res : C0} (hh : P3 t depth o04 v158 = some res) : Oj t depth o04 v158 res := (F9).2.2.2.2.2 _ _ _ _ _ hh
mutual
def C5 (a : A0) (b : A0) : Option Bool :=
  (if (bif (bif (a.Op == b.Op) then (a.NV == b.NV) else false) then (a.Name == b.Name) else false) = true then H1 a.Kids b.Kids else some default) >>= fun x1 =>
  some (bif (bif (bif (a.Op == b.Op) then (a.NV == b.NV) else false) then (a.Name == b.Name) else false) then x1 else false)
  partial_fixpoint
def H1 (s1 : List A0) (s2 : List A0) : Option Bool :=
  if (((s1).length : Int) != ((s2).length : Int)) = true then
    some false
  else
    Z0 s1 s2 0
  partial_fixpoint
def Z0 (s1 : List A0) (s2 : List A0) (v17 : Int) : Option Bool :=
  if (decide (v17 < ((s1).length : Int))) = true then
    idx s1 v17 >>= fun x1 =>
    idx s2 v17 >>= fun x2 =>
    C5 x1 x2 >>= fun x3 =>
    if (!x3) = true then
      some false
    else
      Z0 s1 s2 (IntKind.i64.wrap (v17 + 1))
  else
    some true
  partial_fixpoint
end
abbrev Fp (a : A0) (b : A0) (res : Bool) : Prop := R0 C 169 [.agg (A0.cells a), .agg (A0.cells b)] [] (fun x H' => H' = [] ∧ x = .d (.bool res))
abbrev Q4 (s1 : List A0) (s2 : List A0) (res : Bool) : Prop := R0 C 186 [.d (.sl (A0.rows s1)), .d (.sl (A0.rows s2)), .clo 169 []] [] (fun x H' => H' = [] ∧ x = .d (.bool res))
abbrev Y3 (s1 : List A0) (s2 : List A0) (v17 : Int) (res : Bool) : Prop := Q0 (Fx.mk C 32 0) (lo (bk (sr (sl (sr (sr (N0 Tryz.f186))))))) (X0 [(1, .d (.sl (A0.rows s2))), (2, .clo 169 []), (15, .d (.sl (A0.rows s1))), (16, .d (.int .i64 ((s1).length : Int))), (17, .d (.int .i64 v17))]) [] (Am.InBlock 0 (Am.Then (Fx.mk C 32 0) (sr (sr (sr (N0 Tryz.f186)))) (Am.Ends (Fx.mk C 32 0) Tryz.f186.results.toList (fun x H' => H' = [] ∧ x = .d (.bool res)))))
theorem Wl : (∀ (a : A0) (b : A0) (res : Bool), C5 a b = some res → Fp a b res) ∧
    (∀ (s1 : List A0) (s2 : List A0) (res : Bool), H1 s1 s2 = some res → Q4 s1 s2 res) ∧
    (∀ (s1 : List A0) (s2 : List A0) (v17 : Int) (res : Bool), Z0 s1 s2 v17 = some res → Y3 s1 s2 v17 res) := by
  refine C5.mutual_partial_correctness (fun a b res => Fp a b res)
    (fun s1 s2 res => Q4 s1 s2 res)
    (fun s1 s2 v17 res => Y3 s1 s2 v17 res) ?_ ?_ ?_
  · intro g1 ih1 a b res hh
    refine R0.intro hC Tryz.func169 rfl rfl rfl ?_
    obtain ⟨x1, hx1, hh⟩ := bs' hh
    refine s' rfl rfl (J0.n hC rfl (J0.n hC rfl (q' rfl (n' (sg' 27 rfl (a0' rfl (a0' rfl (a0' rfl (a0' rfl (a0' rfl (a0' rfl (a0' rfl (a1' rfl ?_)))))))))))))
    refine a0' rfl (a1' rfl (a2' rfl (pa' rfl (a0' rfl (a0' rfl (a1' rfl (a0' rfl (a1' rfl (a2' rfl (pa' rfl (a0' rfl (a0' rfl (a1' rfl ?_)))))))))))))
    refine a0' rfl (a1' rfl (AG.c rfl rfl (fun hg => ⟨hg, hg, trivial⟩) (fun hw => ih1 _ _ _ (V1 hw hx1)) (pa' rfl (a0' rfl (an' (n' (re' ?_)))))))
    obtain rfl := oi' hh
    exact ⟨_, _, [], rfl, .rfl, trivial, rfl, rfl, rfl, rfl⟩
  · intro g2 ih2 s1 s2 res hh
    refine R0.intro hC Tryz.func186 rfl rfl rfl ?_
    refine s' rfl rfl (q' rfl (n' (S' (s' rfl rfl (q' rfl (qe' rfl trivial (A0.lenA _) (q' rfl (qe' rfl trivial (A0.lenA _) (q' rfl (n' ?_))))))))))
    refine ci' rfl hh (fun hh => ?_) (fun hh => ?_)
    · refine s' rfl rfl (q' rfl (n' (re' ?_)))
      obtain rfl := oi' hh
      exact ⟨_, _, [], rfl, .rfl, trivial, rfl, rfl, rfl, rfl⟩
    refine sk' (S' (s' rfl rfl (q' rfl (qe' rfl trivial (A0.lenA _) (q' rfl (n' (AEx.block ?_)))))))
    refine AEx.ofLoop ?_
    refine Q0.wk ?_ (ih2 _ _ _ _ hh)
    exact ⟨⟨⟨.rfl, rfl⟩, ⟨⟨.rfl, rfl⟩, ⟨⟨.rfl, rfl⟩, ⟨⟨.rfl, rfl⟩, ⟨⟨.rfl, rfl⟩, trivial⟩⟩⟩⟩⟩, trivial, rfl⟩
  · intro g0 g2 ih0 ih2 s1 s2 v17 res hh
    refine Q0.unroll ?_
    refine s' rfl rfl (q' rfl (n' (S' ?_)))
    refine ci' rfl hh (fun hh => ?_) (fun hh => ?_)
    · obtain ⟨x1, hx1, hh⟩ := bs' hh
      obtain ⟨x2, hx2, hh⟩ := bs' hh
      obtain ⟨x3, hx3, hh⟩ := bs' hh
      refine sk' (S' (AEx.block (s' rfl rfl (q' rfl (i' rfl (V0 hx1) (A0.idx hx1) rfl (q' rfl (J0.nf hC rfl (q' rfl (J0.s hC rfl (n' (s' rfl rfl (q' rfl (q' rfl ?_)))))))))))))
      refine i' rfl (V0 hx2) (A0.idx hx2) rfl (q' rfl (J0.nf hC rfl (J0.s hC rfl (n' (s' rfl rfl (q' rfl (q' rfl (q' rfl (J0.c rfl rfl (ih0 _ _ _ hx3) (q' rfl (n' ?_)))))))))))
      refine ci' rfl hh (fun hh => ?_) (fun hh => ?_)
      · refine s' rfl rfl (q' rfl (n' (re' ?_)))
        obtain rfl := oi' hh
        exact ⟨_, _, [], rfl, .rfl, trivial, rfl, rfl, rfl, rfl⟩
      refine sk' (R' rfl rfl (q' rfl (q' rfl (n' ?_))))
      refine Q0.wk ?_ (ih2 _ _ _ _ hh)
      exact ⟨⟨⟨.rfl, rfl⟩, ⟨⟨.rfl, rfl⟩, ⟨⟨.rfl, rfl⟩, ⟨⟨.rfl, rfl⟩, ⟨⟨.rfl, rfl⟩, trivial⟩⟩⟩⟩⟩, trivial, rfl⟩
    refine ex' (s' rfl rfl (q' rfl (n' (re' ?_))))
    obtain rfl := oi' hh
    exact ⟨_, _, [], rfl, .rfl, trivial, rfl, rfl, rfl, rfl⟩
theorem L13 {a : A0} {b : A0} {res : Bool} (hh : C5 a b = some res) : Fp a b res := (Wl).1 _ _ _ hh
theorem Gw {s1 : List A0} {s2 : List A0} {res : Bool} (hh : H1 s1 s2 = some res) : Q4 s1 s2 res := (Wl).2.1 _ _ _ hh
theorem Ru {s1 : List A0} {s2 : List A0} {v17 : Int} {res : Bool} (hh : Z0 s1 s2 v17 = some res) : Y3 s1 s2 v17 res := (Wl).2.2 _ _ _ _ hh
def V2 (e : A0) (used : Bool) (syntaxReport : C0) : Option C0 :=
  (if (!used) = true then C5 e (A0.mk 0 0 [] []) else some default) >>= fun x1 =>
  if (bif (!used) then x1 else false) = true then
    some syntaxReport
  else
    W0 used syntaxReport >>= fun x2 =>
    F2 e 1 x2 >>= fun x3 =>
    some x3
abbrev Fz (e : A0) (used : Bool) (syntaxReport : C0) (res : C0) : Prop := R0 C 144 [.ref 0 0, .agg (A0.cells e), .d (.bool used)] [.row (C0.cells syntaxReport) 75] (fun x H' => H' = [.row (C0.cells res) 75] ∧ x = .tup [])
theorem Qg {e : A0} {used : Bool} {syntaxReport : C0} {res : C0} (hh : V2 e used syntaxReport = some res) : Fz e used syntaxReport res := by
  unfold V2 at hh
  refine R0.intro hC Tryz.func144 rfl rfl rfl ?_
  obtain ⟨x1, hx1, hh⟩ := bs' hh
  refine s' rfl rfl (J0.n hC rfl (n' (S' (sg' 7 rfl (a0' rfl (a0' rfl (a0' rfl (a0' rfl (a0' rfl (AG.c rfl rfl (fun hg => ⟨hg, hg, trivial⟩) (fun hw => L13 (V1 hw hx1)) (pa' rfl (an' (n' ?_)))))))))))))
  refine ci' rfl hh (fun hh => ?_) (fun hh => ?_)
  · refine re' ?_
    obtain rfl := oi' hh
    exact ⟨_, _, [.row (C0.cells syntaxReport) 75], rfl, .rfl, ⟨⟨rfl, .refl _, rfl⟩, trivial⟩, rfl, rfl, rfl, rfl⟩
  obtain ⟨x2, hx2, hh⟩ := bs' hh
  obtain ⟨x3, hx3, hh⟩ := bs' hh
  refine sk' (s' rfl rfl (q' rfl (q' rfl (J0.g [0] rfl (B1 hx2) ⟨.rfl, ⟨.rfl, trivial⟩⟩ rfl ⟨rfl, trivial⟩ rfl rfl (n' (R' rfl rfl (q' rfl (q' rfl (J0.g [0] rfl (Rk hx3) ⟨.rfl, ⟨.rfl, ⟨.rfl, trivial⟩⟩⟩ rfl ⟨rfl, trivial⟩ rfl rfl (n' ?_))))))))))
  obtain rfl := oi' hh
  exact ⟨_, _, [.row (C0.cells x3) 75], rfl, .rfl, ⟨⟨rfl, .refl _, rfl⟩, trivial⟩, rfl, rfl, rfl, rfl⟩
def Wc (v : Int) : Option (P0 × Bool) :=
  if (v == 0) = true then
    some ((P0.mk true true false false false false false false false), true)
  else
    if (v == 1) = true then
      some ((P0.mk true false true true false false false false false), true)
    else
      if (v == 2) = true then
        some ((P0.mk true false true false false false false false false), true)
      else
        if (v == 3) = true then
          some ((P0.mk false true false false false false false false false), true)
        else
          if (v == 4) = true then
            some ((P0.mk false false false false true false false false false), true)
          else
            if (v == 5) = true then
              some ((P0.mk false true false false false false false true true), true)
            else
              if (v == 6) = true then
                some ((P0.mk false true false false true false false true false), true)
              else
                if (v == 7) = true then
                  some ((P0.mk false false true false false true false true false), true)
                else
                  if (v == 8) = true then
                    some ((P0.mk false false false false false false true false false), true)
                  else
                    some ((P0.mk false false false false false false false false false), false)
abbrev N14 (v : Int) (res : P0 × Bool) : Prop := R0 C 134 [.d (.int .i64 v)] [] (fun x H' => H' = [] ∧ x = .tup [.agg (P0.cells res.1), .d (.bool res.2)])
theorem M13 {v : Int} {res : P0 × Bool} (hh : Wc v = some res) : N14 v res := by
  unfold Wc at hh
  refine R0.intro hC Tryz.func134 rfl rfl rfl ?_
  refine s' rfl rfl (J0.n hC rfl (q' rfl (n' (S' (s' rfl rfl (q' rfl (n' (AEx.block (s' rfl rfl (q' rfl (q' rfl (n' ?_))))))))))))
  refine ci' rfl hh (fun hh => ?_) (fun hh => ?_)
  · refine s' rfl rfl (q' rfl (J0.s hC rfl (q' rfl (n' (re' ?_)))))
    obtain rfl := oi' hh
    exact ⟨_, _, [], rfl, .rfl, trivial, rfl, rfl, rfl, rfl⟩
  refine s' rfl rfl (q' rfl (q' rfl (n' ?_)))
  refine ci' rfl hh (fun hh => ?_) (fun hh => ?_)
  · refine s' rfl rfl (q' rfl (J0.s hC rfl (q' rfl (n' (re' ?_)))))
    obtain rfl := oi' hh
    exact ⟨_, _, [], rfl, .rfl, trivial, rfl, rfl, rfl, rfl⟩
  refine s' rfl rfl (q' rfl (q' rfl (n' ?_)))
  refine ci' rfl hh (fun hh => ?_) (fun hh => ?_)
  · refine s' rfl rfl (q' rfl (J0.s hC rfl (q' rfl (n' (re' ?_)))))
    obtain rfl := oi' hh
    exact ⟨_, _, [], rfl, .rfl, trivial, rfl, rfl, rfl, rfl⟩
  refine s' rfl rfl (q' rfl (q' rfl (n' ?_)))
  refine ci' rfl hh (fun hh => ?_) (fun hh => ?_)
  · refine s' rfl rfl (q' rfl (J0.s hC rfl (q' rfl (n' (re' ?_)))))
    obtain rfl := oi' hh
    exact ⟨_, _, [], rfl, .rfl, trivial, rfl, rfl, rfl, rfl⟩
  refine s' rfl rfl (q' rfl (q' rfl (n' ?_)))
  refine ci' rfl hh (fun hh => ?_) (fun hh => ?_)
  · refine s' rfl rfl (q' rfl (J0.s hC rfl (q' rfl (n' (re' ?_)))))
    obtain rfl := oi' hh
    exact ⟨_, _, [], rfl, .rfl, trivial, rfl, rfl, rfl, rfl⟩
  refine s' rfl rfl (q' rfl (q' rfl (n' ?_)))
  refine ci' rfl hh (fun hh => ?_) (fun hh => ?_)
  · refine s' rfl rfl (q' rfl (J0.s hC rfl (q' rfl (n' (re' ?_)))))
    obtain rfl := oi' hh
    exact ⟨_, _, [], rfl, .rfl, trivial, rfl, rfl, rfl, rfl⟩
  refine s' rfl rfl (q' rfl (q' rfl (n' ?_)))
  refine ci' rfl hh (fun hh => ?_) (fun hh => ?_)
  · refine s' rfl rfl (q' rfl (J0.s hC rfl (q' rfl (n' (re' ?_)))))
    obtain rfl := oi' hh
    exact ⟨_, _, [], rfl, .rfl, trivial, rfl, rfl, rfl, rfl⟩
  refine s' rfl rfl (q' rfl (q' rfl (n' ?_)))
  refine ci' rfl hh (fun hh => ?_) (fun hh => ?_)
  · refine s' rfl rfl (q' rfl (J0.s hC rfl (q' rfl (n' (re' ?_)))))
    obtain rfl := oi' hh
    exact ⟨_, _, [], rfl, .rfl, trivial, rfl, rfl, rfl, rfl⟩
  refine s' rfl rfl (q' rfl (q' rfl (n' ?_)))
  refine ci' rfl hh (fun hh => ?_) (fun hh => ?_)
  · refine s' rfl rfl (q' rfl (J0.s hC rfl (q' rfl (n' (re' ?_)))))
    obtain rfl := oi' hh
    exact ⟨_, _, [], rfl, .rfl, trivial, rfl, rfl, rfl, rfl⟩
  refine sk' (s' rfl rfl (q' rfl (J0.s hC rfl (q' rfl (n' (re' ?_))))))
  obtain rfl := oi' hh
  exact ⟨_, _, [], rfl, .rfl, trivial, rfl, rfl, rfl, rfl⟩
def I2 (s : B0) (o0 : C0) (last : Int) (v58 : Int) : Option C0 :=
  if (decide (v58 < ((s.Numbers).length : Int))) = true then
    idx s.Numbers v58 >>= fun x10 =>
    I3 x10 0 1048576 >>= fun x11 =>
    O1 (bif x11 then (decide (x10 > last)) else false) o0 >>= fun x12 =>
    I2 s x12 x10 (IntKind.i64.wrap (v58 + 1))
  else
    some o0
  partial_fixpoint
abbrev Eg (s : B0) (o0 : C0) (last : Int) (v58 : Int) (res : C0) : Prop := Q0 (Fx.mk C 73 1) (lo (bk (sr (sr (sr (ca (sr (cb (sr (cb (sr (cb (sr (bk (sr (sr (N0 Tryz.f145))))))))))))))))) (X0 [(0, .ref 0 0), (5, .d (.int .i64 last)), (56, .d (.sl (ei64.rows s.Numbers))), (57, .d (.int .i64 ((s.Numbers).length : Int))), (58, .d (.int .i64 v58))]) [.row (C0.cells o0) 75] (Am.InBlock 1 (Am.InBlock 0 (Am.Ends (Fx.mk C 73 1) Tryz.f145.results.toList (fun x H' => H' = [.row (C0.cells res) 75] ∧ x = .tup []))))
theorem Nv (s : B0) : (∀ (o0 : C0) (last : Int) (v58 : Int) (res : C0), I2 s o0 last v58 = some res → Eg s o0 last v58 res) := by
  refine I2.partial_correctness s
    (fun o0 last v58 res => Eg s o0 last v58 res) ?_
  · intro g0 ih0 o0 last v58 res hh
    refine Q0.unroll ?_
    refine s' rfl rfl (q' rfl (n' (S' ?_)))
    refine ci' rfl hh (fun hh => ?_) (fun hh => ?_)
    · obtain ⟨x10, hx10, hh⟩ := bs' hh
      obtain ⟨x11, hx11, hh⟩ := bs' hh
      obtain ⟨x12, hx12, hh⟩ := bs' hh
      refine sk' (S' (AEx.block (s' rfl rfl (i' rfl (V0 hx10) (ei64.idx hx10) rfl (q' rfl (q' rfl (n' (sg' 8 rfl (a0' rfl (a0' rfl (AG.c rfl rfl (fun _ => trivial) (fun _ => A5 hx11) (a0' rfl (a0' rfl ?_)))))))))))))
      refine a0' rfl (a2' rfl (pa' rfl (an' (J0.g [0] rfl (D3 hx12) ⟨.rfl, ⟨.rfl, trivial⟩⟩ rfl ⟨rfl, trivial⟩ rfl rfl (n' (R' rfl rfl (q' rfl (q' rfl (n' (R' rfl rfl (q' rfl (q' rfl (n' ?_)))))))))))))
      refine Q0.wk ?_ (ih0 _ _ _ _ hh)
      exact ⟨⟨⟨.rfl, rfl⟩, ⟨⟨.rfl, rfl⟩, ⟨⟨.rfl, rfl⟩, ⟨⟨.rfl, rfl⟩, ⟨⟨.rfl, rfl⟩, trivial⟩⟩⟩⟩⟩, ⟨⟨rfl, .refl _, rfl⟩, trivial⟩, rfl⟩
    refine ex' ?_
    obtain rfl := oi' hh
    exact ⟨_, _, [.row (C0.cells o0) 75], rfl, .rfl, ⟨⟨rfl, .refl _, rfl⟩, trivial⟩, rfl, rfl, rfl, rfl⟩
theorem Tw {s : B0} {o0 : C0} {last : Int} {v58 : Int} {res : C0} (hh : I2 s o0 last v58 = some res) : Eg s o0 last v58 res := (Nv s) _ _ _ _ hh
def W5 (s : B0) (syntaxReport : C0) : Option C0 :=
  if (s.Verb == 4) = true then
    I3 s.NV 0 1048576 >>= fun x1 =>
    O1 x1 syntaxReport >>= fun x2 =>
    some x2
  else
    if (s.Verb == 6) = true then
      I3 s.NV 0 4096 >>= fun x3 =>
      O1 x3 syntaxReport >>= fun x4 =>
      some x4
    else
      if (s.Verb == 7) = true then
        I3 s.Low (-1048576) 1048576 >>= fun x5 =>
        (if x5 = true then I3 s.High s.Low 1048576 else some default) >>= fun x6 =>
        O1 (bif (bif x5 then x6 else false) then (decide ((IntKind.i64.wrap (s.High - s.Low)) < 4096)) else false) syntaxReport >>= fun x7 =>
        some x7
      else
        if (s.Verb == 8) = true then
          I3 ((s.Numbers).length : Int) 1 32 >>= fun x8 =>
          O1 x8 syntaxReport >>= fun x9 =>
          I2 s x9 (-1) 0
        else
          some syntaxReport
abbrev Pz (s : B0) (syntaxReport : C0) (res : C0) : Prop := R0 C 145 [.ref 0 0, .agg (B0.cells s)] [.row (C0.cells syntaxReport) 75] (fun x H' => H' = [.row (C0.cells res) 75] ∧ x = .tup [])
theorem Gz {s : B0} {syntaxReport : C0} {res : C0} (hh : W5 s syntaxReport = some res) : Pz s syntaxReport res := by
  unfold W5 at hh
  refine R0.intro hC Tryz.func145 rfl rfl rfl ?_
  refine s' rfl rfl (J0.n hC rfl (n' (s' rfl rfl (q' rfl (q' rfl (n' (AEx.block (s' rfl rfl (q' rfl (q' rfl (n' ?_)))))))))))
  refine ci' rfl hh (fun hh => ?_) (fun hh => ?_)
  · obtain ⟨x1, hx1, hh⟩ := bs' hh
    obtain ⟨x2, hx2, hh⟩ := bs' hh
    refine R' rfl rfl (q' rfl (q' rfl (q' rfl (J0.c rfl rfl (A5 hx1) (J0.g [0] rfl (D3 hx2) ⟨.rfl, ⟨.rfl, trivial⟩⟩ rfl ⟨rfl, trivial⟩ rfl rfl (n' ?_))))))
    obtain rfl := oi' hh
    exact ⟨_, _, [.row (C0.cells x2) 75], rfl, .rfl, ⟨⟨rfl, .refl _, rfl⟩, trivial⟩, rfl, rfl, rfl, rfl⟩
  refine s' rfl rfl (q' rfl (q' rfl (n' ?_)))
  refine ci' rfl hh (fun hh => ?_) (fun hh => ?_)
  · obtain ⟨x3, hx3, hh⟩ := bs' hh
    obtain ⟨x4, hx4, hh⟩ := bs' hh
    refine R' rfl rfl (q' rfl (q' rfl (q' rfl (J0.c rfl rfl (A5 hx3) (J0.g [0] rfl (D3 hx4) ⟨.rfl, ⟨.rfl, trivial⟩⟩ rfl ⟨rfl, trivial⟩ rfl rfl (n' ?_))))))
    obtain rfl := oi' hh
    exact ⟨_, _, [.row (C0.cells x4) 75], rfl, .rfl, ⟨⟨rfl, .refl _, rfl⟩, trivial⟩, rfl, rfl, rfl, rfl⟩
  refine s' rfl rfl (q' rfl (q' rfl (n' ?_)))
  refine ci' rfl hh (fun hh => ?_) (fun hh => ?_)
  · obtain ⟨x5, hx5, hh⟩ := bs' hh
    obtain ⟨x6, hx6, hh⟩ := bs' hh
    obtain ⟨x7, hx7, hh⟩ := bs' hh
    refine sg' 11 rfl (a0' rfl (a0' rfl (AG.c rfl rfl (fun _ => trivial) (fun _ => A5 hx5) (a0' rfl (a0' rfl (a1' rfl (a0' rfl (a1' rfl (AG.c rfl rfl (fun hg => ⟨hg, hg, trivial⟩) (fun hw => A5 (V1 hw hx6)) (pa' rfl (a0' rfl (an' (n' ?_)))))))))))))
    refine AEx.regionG 10 rfl (a0' rfl (a0' rfl (a0' rfl (a0' rfl (a1' rfl (a0' rfl (a1' rfl (a2' rfl (a1' rfl (pa' rfl (an' (J0.g [0] rfl (D3 hx7) ⟨.rfl, ⟨.rfl, trivial⟩⟩ rfl ⟨rfl, trivial⟩ rfl rfl (n' ?_)))))))))))))
    obtain rfl := oi' hh
    exact ⟨_, _, [.row (C0.cells x7) 75], rfl, .rfl, ⟨⟨rfl, .refl _, rfl⟩, trivial⟩, rfl, rfl, rfl, rfl⟩
  refine s' rfl rfl (q' rfl (q' rfl (n' ?_)))
  refine ci' rfl hh (fun hh => ?_) (fun hh => ?_)
  · obtain ⟨x8, hx8, hh⟩ := bs' hh
    obtain ⟨x9, hx9, hh⟩ := bs' hh
    refine s' rfl rfl (q' rfl (q' rfl (q' rfl (qe' rfl trivial (ei64.lenA _) (J0.c rfl rfl (A5 hx8) (J0.g [0] rfl (D3 hx9) ⟨.rfl, ⟨.rfl, trivial⟩⟩ rfl ⟨rfl, trivial⟩ rfl rfl (n' (s' rfl rfl (q' rfl (n' (s' rfl rfl (q' rfl (q' rfl ?_)))))))))))))
    refine qe' rfl trivial (ei64.lenA _) (q' rfl (n' (AEx.block ?_)))
    refine AEx.ofLoop ?_
    refine Q0.wk ?_ (Tw hh)
    exact ⟨⟨⟨.rfl, rfl⟩, ⟨⟨.rfl, rfl⟩, ⟨⟨.rfl, rfl⟩, ⟨⟨.rfl, rfl⟩, ⟨⟨.rfl, rfl⟩, trivial⟩⟩⟩⟩⟩, ⟨⟨rfl, .refl _, rfl⟩, trivial⟩, rfl⟩
  refine sk' ?_
  obtain rfl := oi' hh
  exact ⟨_, _, [.row (C0.cells syntaxReport) 75], rfl, .rfl, ⟨⟨rfl, .refl _, rfl⟩, trivial⟩, rfl, rfl, rfl, rfl⟩
mutual
def L2 (l : List B0) (nesting : Int) (syntaxReport : C0) : Option C0 :=
  W2 l nesting syntaxReport 0
  partial_fixpoint
def W2 (l : List B0) (nesting : Int) (o03 : C0) (v14 : Int) : Option C0 :=
  if (decide (v14 < ((l).length : Int))) = true then
    idx l v14 >>= fun x1 =>
    B6 nesting (C0.mk (IntKind.i64.wrap (o03.nodes + 1)) o03.depth o03.badForm o03.badName o03.badNumber) >>= fun x2 =>
    Wc x1.Verb >>= fun x3 =>
    W0 x3.2 x2 >>= fun x4 =>
    V2 x1.Place x3.1.place x4 >>= fun x5 =>
    if x3.1.place = true then
      Ef x1.Place >>= fun x6 =>
      W0 x6 x5 >>= fun x7 =>
      K3 l nesting x7 x1 x3 v14
    else
      K3 l nesting x5 x1 x3 v14
  else
    some o03
  partial_fixpoint
def K3 (l : List B0) (nesting : Int) (o0 : C0) (x1 : B0) (x3 : P0 × Bool) (v141 : Int) : Option C0 :=
  V2 x1.Value x3.1.value o0 >>= fun x8 =>
  W0 (bif x3.1.name then true else (x1.Name == [])) x8 >>= fun x9 =>
  if x3.1.name = true then
    T3 x1.Name x9 >>= fun x10 =>
    L3 l nesting x10 x1 x3 v141
  else
    L3 l nesting x9 x1 x3 v141
  partial_fixpoint
def L3 (l : List B0) (nesting : Int) (o01 : C0) (x1 : B0) (x3 : P0 × Bool) (v142 : Int) : Option C0 :=
  W0 (bif x3.1.args then true else (((x1.Args).length : Int) == 0)) o01 >>= fun x11 =>
  J4 l nesting x11 x1 x3 v142 0
  partial_fixpoint
def J4 (l : List B0) (nesting : Int) (o02 : C0) (x1 : B0) (x3 : P0 × Bool) (v143 : Int) (v84 : Int) : Option C0 :=
  if (decide (v84 < ((x1.Args).length : Int))) = true then
    idx x1.Args v84 >>= fun x12 =>
    F2 x12 1 o02 >>= fun x13 =>
    J4 l nesting x13 x1 x3 v143 (IntKind.i64.wrap (v84 + 1))
  else
    W0 (bif x3.1.n then true else (x1.NV == 0)) o02 >>= fun x14 =>
    W0 (bif x3.1.bounds then true else (bif (x1.Low == 0) then (x1.High == 0) else false)) x14 >>= fun x15 =>
    W0 (bif x3.1.numbers then true else (((x1.Numbers).length : Int) == 0)) x15 >>= fun x16 =>
    W0 (bif x3.1.thenV then true else (((x1.Then).length : Int) == 0)) x16 >>= fun x17 =>
    W0 (bif x3.1.other then true else (((x1.Else).length : Int) == 0)) x17 >>= fun x18 =>
    W5 x1 x18 >>= fun x19 =>
    L2 x1.Then (IntKind.i64.wrap (nesting + 1)) x19 >>= fun x20 =>
    L2 x1.Else (IntKind.i64.wrap (nesting + 1)) x20 >>= fun x21 =>
    W2 l nesting x21 (IntKind.i64.wrap (v143 + 1))
  partial_fixpoint
end
abbrev Vk (l : List B0) (nesting : Int) (syntaxReport : C0) (res : C0) : Prop := R0 C 81 [.ref 0 0, .d (.sl (B0.rows l)), .d (.int .i64 nesting)] [.row (C0.cells syntaxReport) 75] (fun x H' => H' = [.row (C0.cells res) 75] ∧ x = .tup [])
abbrev Nh (l : List B0) (nesting : Int) (o03 : C0) (v14 : Int) (res : C0) : Prop := Q0 (Fx.mk C 161 1) (lo (bk (sr (N0 Tryz.f81)))) (X0 [(0, .ref 0 0), (2, .d (.int .i64 nesting)), (12, .d (.sl (B0.rows l))), (13, .d (.int .i64 ((l).length : Int))), (14, .d (.int .i64 v14))]) [.row (C0.cells o03) 75] (Am.InBlock 0 (Am.Ends (Fx.mk C 161 1) Tryz.f81.results.toList (fun x H' => H' = [.row (C0.cells res) 75] ∧ x = .tup [])))
abbrev Oh (l : List B0) (nesting : Int) (o0 : C0) (x1 : B0) (x3 : P0 × Bool) (v141 : Int) (res : C0) : Prop := AEx (Fx.mk C 161 1) (sr (sr (sr (sr (sr (sr (sr (bk (sl (sr (sr (lo (bk (sr (N0 Tryz.f81))))))))))))))) (X0 [(0, .ref 0 0), (2, .d (.int .i64 nesting)), (7, .ref 1 0), (8, .ref 2 0), (12, .d (.sl (B0.rows l))), (13, .d (.int .i64 ((l).length : Int))), (14, .d (.int .i64 v141))]) [.row (C0.cells o0) 75, .row (B0.cells x1) 68, .row (P0.cells x3.1) 156] (Am.InBlock 1 (Am.Then (Fx.mk C 161 1) (sr (sr (sr (lo (bk (sr (N0 Tryz.f81))))))) (Am.Again (Fx.mk C 161 1) (lo (bk (sr (N0 Tryz.f81)))) (Am.InBlock 0 (Am.Ends (Fx.mk C 161 1) Tryz.f81.results.toList (fun x H' => H' = [.row (C0.cells res) 75] ∧ x = .tup []))))))
abbrev Ph (l : List B0) (nesting : Int) (o01 : C0) (x1 : B0) (x3 : P0 × Bool) (v142 : Int) (res : C0) : Prop := AEx (Fx.mk C 161 1) (sr (sr (sr (sr (sr (sr (sr (sr (sr (sr (bk (sl (sr (sr (lo (bk (sr (N0 Tryz.f81)))))))))))))))))) (X0 [(0, .ref 0 0), (2, .d (.int .i64 nesting)), (7, .ref 1 0), (8, .ref 2 0), (12, .d (.sl (B0.rows l))), (13, .d (.int .i64 ((l).length : Int))), (14, .d (.int .i64 v142))]) [.row (C0.cells o01) 75, .row (B0.cells x1) 68, .row (P0.cells x3.1) 156] (Am.InBlock 1 (Am.Then (Fx.mk C 161 1) (sr (sr (sr (lo (bk (sr (N0 Tryz.f81))))))) (Am.Again (Fx.mk C 161 1) (lo (bk (sr (N0 Tryz.f81)))) (Am.InBlock 0 (Am.Ends (Fx.mk C 161 1) Tryz.f81.results.toList (fun x H' => H' = [.row (C0.cells res) 75] ∧ x = .tup []))))))
abbrev Qh (l : List B0) (nesting : Int) (o02 : C0) (x1 : B0) (x3 : P0 × Bool) (v143 : Int) (v84 : Int) (res : C0) : Prop := Q0 (Fx.mk C 161 1) (lo (bk (sr (sl (sr (sr (sr (sr (sr (sr (sr (sr (sr (sr (sr (bk (sl (sr (sr (lo (bk (sr (N0 Tryz.f81))))))))))))))))))))))) (X0 [(0, .ref 0 0), (2, .d (.int .i64 nesting)), (7, .ref 1 0), (8, .ref 2 0), (12, .d (.sl (B0.rows l))), (13, .d (.int .i64 ((l).length : Int))), (14, .d (.int .i64 v143)), (82, .d (.sl (A0.rows x1.Args))), (83, .d (.int .i64 ((x1.Args).length : Int))), (84, .d (.int .i64 v84))]) [.row (C0.cells o02) 75, .row (B0.cells x1) 68, .row (P0.cells x3.1) 156] (Am.InBlock 2 (Am.Then (Fx.mk C 161 1) (sr (sr (sr (sr (sr (sr (sr (sr (sr (sr (sr (sr (bk (sl (sr (sr (lo (bk (sr (N0 Tryz.f81)))))))))))))))))))) (Am.InBlock 1 (Am.Then (Fx.mk C 161 1) (sr (sr (sr (lo (bk (sr (N0 Tryz.f81))))))) (Am.Again (Fx.mk C 161 1) (lo (bk (sr (N0 Tryz.f81)))) (Am.InBlock 0 (Am.Ends (Fx.mk C 161 1) Tryz.f81.results.toList (fun x H' => H' = [.row (C0.cells res) 75] ∧ x = .tup []))))))))
theorem Xa : (∀ (l : List B0) (nesting : Int) (syntaxReport : C0) (res : C0), L2 l nesting syntaxReport = some res → Vk l nesting syntaxReport res) ∧
    (∀ (l : List B0) (nesting : Int) (o03 : C0) (v14 : Int) (res : C0), W2 l nesting o03 v14 = some res → Nh l nesting o03 v14 res) ∧
    (∀ (l : List B0) (nesting : Int) (o0 : C0) (x1 : B0) (x3 : P0 × Bool) (v141 : Int) (res : C0), K3 l nesting o0 x1 x3 v141 = some res → Oh l nesting o0 x1 x3 v141 res) ∧
    (∀ (l : List B0) (nesting : Int) (o01 : C0) (x1 : B0) (x3 : P0 × Bool) (v142 : Int) (res : C0), L3 l nesting o01 x1 x3 v142 = some res → Ph l nesting o01 x1 x3 v142 res) ∧
    (∀ (l : List B0) (nesting : Int) (o02 : C0) (x1 : B0) (x3 : P0 × Bool) (v143 : Int) (v84 : Int) (res : C0), J4 l nesting o02 x1 x3 v143 v84 = some res → Qh l nesting o02 x1 x3 v143 v84 res) := by
  refine L2.mutual_partial_correctness (fun l nesting syntaxReport res => Vk l nesting syntaxReport res)
    (fun l nesting o03 v14 res => Nh l nesting o03 v14 res)
    (fun l nesting o0 x1 x3 v141 res => Oh l nesting o0 x1 x3 v141 res)
    (fun l nesting o01 x1 x3 v142 res => Ph l nesting o01 x1 x3 v142 res)
    (fun l nesting o02 x1 x3 v143 v84 res => Qh l nesting o02 x1 x3 v143 v84 res) ?_ ?_ ?_ ?_ ?_
  · intro g1 ih1 l nesting syntaxReport res hh
    refine R0.intro hC Tryz.func81 rfl rfl rfl ?_
    refine s' rfl rfl (q' rfl (qe' rfl trivial (B0.lenA _) (q' rfl (n' (AEx.block ?_)))))
    refine AEx.ofLoop ?_
    refine Q0.wk ?_ (ih1 _ _ _ _ _ hh)
    exact ⟨⟨⟨.rfl, rfl⟩, ⟨⟨.rfl, rfl⟩, ⟨⟨.rfl, rfl⟩, ⟨⟨.rfl, rfl⟩, ⟨⟨.rfl, rfl⟩, trivial⟩⟩⟩⟩⟩, ⟨⟨rfl, .refl _, rfl⟩, trivial⟩, rfl⟩
  · intro g2 ih2 l nesting o03 v14 res hh
    refine Q0.unroll ?_
    refine s' rfl rfl (q' rfl (n' (S' ?_)))
    refine ci' rfl hh (fun hh => ?_) (fun hh => ?_)
    · obtain ⟨x1, hx1, hh⟩ := bs' hh
      obtain ⟨x2, hx2, hh⟩ := bs' hh
      obtain ⟨x3, hx3, hh⟩ := bs' hh
      obtain ⟨x4, hx4, hh⟩ := bs' hh
      obtain ⟨x5, hx5, hh⟩ := bs' hh
      refine sk' (S' (AEx.block (s' rfl rfl (i' rfl (V0 hx1) (B0.idx hx1) rfl (q' rfl (J0.nf hC rfl (J0.s hC rfl (n' (s' rfl rfl (q' rfl (q' rfl (q' rfl (q' rfl ?_)))))))))))))
      refine q' rfl (q' rfl (q' rfl (J0.s hC rfl (n' (s' rfl rfl (q' rfl (q' rfl (J0.g [0] rfl (Kk hx2) ⟨.rfl, ⟨.rfl, trivial⟩⟩ rfl ⟨rfl, trivial⟩ rfl rfl (n' (s' rfl rfl (q' rfl (q' rfl (J0.c rfl rfl (M13 hx3) ?_)))))))))))))
      refine q' rfl (q' rfl (q' rfl (J0.n hC rfl (J0.s hC rfl (q' rfl (n' (s' rfl rfl (q' rfl (q' rfl (J0.g [0] rfl (B1 hx4) ⟨.rfl, ⟨.rfl, trivial⟩⟩ rfl ⟨rfl, trivial⟩ rfl rfl (n' (s' rfl rfl (q' rfl ?_)))))))))))))
      iterate 4 refine q' rfl ?_
      refine J0.g [0] rfl (Qg hx5) ⟨.rfl, ⟨.rfl, ⟨.rfl, trivial⟩⟩⟩ rfl ⟨rfl, trivial⟩ rfl rfl (n' (S' (s' rfl rfl (q' rfl (q' rfl (n' ?_))))))
      refine ci' rfl hh (fun hh => ?_) (fun hh => ?_)
      · obtain ⟨x6, hx6, hh⟩ := bs' hh
        obtain ⟨x7, hx7, hh⟩ := bs' hh
        refine R' rfl rfl (q' rfl (q' rfl (q' rfl (J0.c rfl rfl (Zz hx6) (J0.g [0] rfl (B1 hx7) ⟨.rfl, ⟨.rfl, trivial⟩⟩ rfl ⟨rfl, trivial⟩ rfl rfl (n' ?_))))))
        refine AEx.wk ?_ (ih2 _ _ _ _ _ _ _ hh)
        exact ⟨⟨⟨.rfl, rfl⟩, ⟨⟨.rfl, rfl⟩, ⟨⟨.rfl, rfl⟩, ⟨⟨.rfl, rfl⟩, ⟨⟨.rfl, rfl⟩, ⟨⟨.rfl, rfl⟩, ⟨⟨.rfl, rfl⟩, trivial⟩⟩⟩⟩⟩⟩⟩, ⟨⟨rfl, .refl _, rfl⟩, ⟨⟨rfl, .refl _, rfl⟩, ⟨⟨rfl, .refl _, rfl⟩, trivial⟩⟩⟩, rfl⟩
      refine sk' ?_
      refine AEx.wk ?_ (ih2 _ _ _ _ _ _ _ hh)
      exact ⟨⟨⟨.rfl, rfl⟩, ⟨⟨.rfl, rfl⟩, ⟨⟨.rfl, rfl⟩, ⟨⟨.rfl, rfl⟩, ⟨⟨.rfl, rfl⟩, ⟨⟨.rfl, rfl⟩, ⟨⟨.rfl, rfl⟩, trivial⟩⟩⟩⟩⟩⟩⟩, ⟨⟨rfl, .refl _, rfl⟩, ⟨⟨rfl, .refl _, rfl⟩, ⟨⟨rfl, .refl _, rfl⟩, trivial⟩⟩⟩, rfl⟩
    refine ex' ?_
    obtain rfl := oi' hh
    exact ⟨_, _, [.row (C0.cells o03) 75], rfl, .rfl, ⟨⟨rfl, .refl _, rfl⟩, trivial⟩, rfl, rfl, rfl, rfl⟩
  · intro g3 ih3 l nesting o0 x1 x3 v141 res hh
    obtain ⟨x8, hx8, hh⟩ := bs' hh
    obtain ⟨x9, hx9, hh⟩ := bs' hh
    refine s' rfl rfl (q' rfl (q' rfl (q' rfl (q' rfl (q' rfl (J0.g [0] rfl (Qg hx8) ⟨.rfl, ⟨.rfl, ⟨.rfl, trivial⟩⟩⟩ rfl ⟨rfl, trivial⟩ rfl rfl (n' (sg' 8 rfl (a0' rfl (a0' rfl (a0' rfl (a0' rfl (a0' rfl ?_)))))))))))))
    refine a1' rfl (a1' rfl (po' rfl (an' (J0.g [0] rfl (B1 hx9) ⟨.rfl, ⟨.rfl, trivial⟩⟩ rfl ⟨rfl, trivial⟩ rfl rfl (n' (S' (s' rfl rfl (q' rfl (q' rfl (n' ?_))))))))))
    refine ci' rfl hh (fun hh => ?_) (fun hh => ?_)
    · obtain ⟨x10, hx10, hh⟩ := bs' hh
      refine R' rfl rfl (q' rfl (q' rfl (q' rfl (J0.g [0] rfl (Xc hx10) ⟨.rfl, ⟨.rfl, trivial⟩⟩ rfl ⟨rfl, trivial⟩ rfl rfl (n' ?_)))))
      refine AEx.wk ?_ (ih3 _ _ _ _ _ _ _ hh)
      exact ⟨⟨⟨.rfl, rfl⟩, ⟨⟨.rfl, rfl⟩, ⟨⟨.rfl, rfl⟩, ⟨⟨.rfl, rfl⟩, ⟨⟨.rfl, rfl⟩, ⟨⟨.rfl, rfl⟩, ⟨⟨.rfl, rfl⟩, trivial⟩⟩⟩⟩⟩⟩⟩, ⟨⟨rfl, .refl _, rfl⟩, ⟨⟨rfl, .refl _, rfl⟩, ⟨⟨rfl, .refl _, rfl⟩, trivial⟩⟩⟩, rfl⟩
    refine sk' ?_
    refine AEx.wk ?_ (ih3 _ _ _ _ _ _ _ hh)
    exact ⟨⟨⟨.rfl, rfl⟩, ⟨⟨.rfl, rfl⟩, ⟨⟨.rfl, rfl⟩, ⟨⟨.rfl, rfl⟩, ⟨⟨.rfl, rfl⟩, ⟨⟨.rfl, rfl⟩, ⟨⟨.rfl, rfl⟩, trivial⟩⟩⟩⟩⟩⟩⟩, ⟨⟨rfl, .refl _, rfl⟩, ⟨⟨rfl, .refl _, rfl⟩, ⟨⟨rfl, .refl _, rfl⟩, trivial⟩⟩⟩, rfl⟩
  · intro g4 ih4 l nesting o01 x1 x3 v142 res hh
    obtain ⟨x11, hx11, hh⟩ := bs' hh
    refine sg' 9 rfl (a0' rfl (a0' rfl (a0' rfl (a0' rfl (a0' rfl (a1' rfl (AG.qe hC rfl (fun hg => ⟨⟨hg, trivial⟩, trivial⟩) (A0.lenA _) (a1' rfl (po' rfl (an' (J0.g [0] rfl (B1 hx11) ⟨.rfl, ⟨.rfl, trivial⟩⟩ rfl ⟨rfl, trivial⟩ rfl rfl (n' (S' ?_)))))))))))))
    refine s' rfl rfl (q' rfl (q' rfl (qe' rfl trivial (A0.lenA _) (q' rfl (n' (AEx.block ?_))))))
    refine AEx.ofLoop ?_
    refine Q0.wk ?_ (ih4 _ _ _ _ _ _ _ _ hh)
    exact ⟨⟨⟨.rfl, rfl⟩, ⟨⟨.rfl, rfl⟩, ⟨⟨.rfl, rfl⟩, ⟨⟨.rfl, rfl⟩, ⟨⟨.rfl, rfl⟩, ⟨⟨.rfl, rfl⟩, ⟨⟨.rfl, rfl⟩, ⟨⟨.rfl, rfl⟩, ⟨⟨.rfl, rfl⟩, ⟨⟨.rfl, rfl⟩, trivial⟩⟩⟩⟩⟩⟩⟩⟩⟩⟩, ⟨⟨rfl, .refl _, rfl⟩, ⟨⟨rfl, .refl _, rfl⟩, ⟨⟨rfl, .refl _, rfl⟩, trivial⟩⟩⟩, rfl⟩
  · intro g0 g1 g4 ih0 ih1 ih4 l nesting o02 x1 x3 v143 v84 res hh
    refine Q0.unroll ?_
    refine s' rfl rfl (q' rfl (n' (S' ?_)))
    refine ci' rfl hh (fun hh => ?_) (fun hh => ?_)
    · obtain ⟨x12, hx12, hh⟩ := bs' hh
      obtain ⟨x13, hx13, hh⟩ := bs' hh
      refine sk' (S' (AEx.block (s' rfl rfl (i' rfl (V0 hx12) (A0.idx hx12) rfl (q' rfl (J0.nf hC rfl (J0.s hC rfl (n' (R' rfl rfl (q' rfl (q' rfl (J0.g [0] rfl (Rk hx13) ⟨.rfl, ⟨.rfl, ⟨.rfl, trivial⟩⟩⟩ rfl ⟨rfl, trivial⟩ rfl rfl (n' ?_)))))))))))))
      refine R' rfl rfl (q' rfl (q' rfl (n' ?_)))
      refine Q0.wk ?_ (ih4 _ _ _ _ _ _ _ _ hh)
      exact ⟨⟨⟨.rfl, rfl⟩, ⟨⟨.rfl, rfl⟩, ⟨⟨.rfl, rfl⟩, ⟨⟨.rfl, rfl⟩, ⟨⟨.rfl, rfl⟩, ⟨⟨.rfl, rfl⟩, ⟨⟨.rfl, rfl⟩, ⟨⟨.rfl, rfl⟩, ⟨⟨.rfl, rfl⟩, ⟨⟨.rfl, rfl⟩, trivial⟩⟩⟩⟩⟩⟩⟩⟩⟩⟩, ⟨⟨rfl, .refl _, rfl⟩, ⟨⟨rfl, .refl _, rfl⟩, ⟨⟨rfl, .refl _, rfl⟩, trivial⟩⟩⟩, rfl⟩
    obtain ⟨x14, hx14, hh⟩ := bs' hh
    obtain ⟨x15, hx15, hh⟩ := bs' hh
    obtain ⟨x16, hx16, hh⟩ := bs' hh
    obtain ⟨x17, hx17, hh⟩ := bs' hh
    obtain ⟨x18, hx18, hh⟩ := bs' hh
    obtain ⟨x19, hx19, hh⟩ := bs' hh
    obtain ⟨x20, hx20, hh⟩ := bs' hh
    obtain ⟨x21, hx21, hh⟩ := bs' hh
    refine ex' (sg' 8 rfl (a0' rfl (a0' rfl (a0' rfl (a0' rfl (a0' rfl (a1' rfl (a1' rfl (po' rfl (an' (J0.g [0] rfl (B1 hx14) ⟨.rfl, ⟨.rfl, trivial⟩⟩ rfl ⟨rfl, trivial⟩ rfl rfl (n' (sg' 13 rfl ?_)))))))))))))
    iterate 5 refine a0' rfl ?_
    refine a1' rfl (a1' rfl (a1' rfl (a0' rfl (a1' rfl (a1' rfl (pA' rfl (po' rfl (an' (J0.g [0] rfl (B1 hx15) ⟨.rfl, ⟨.rfl, trivial⟩⟩ rfl ⟨rfl, trivial⟩ rfl rfl (n' (sg' 9 rfl (a0' rfl (a0' rfl ?_)))))))))))))
    refine a0' rfl (a0' rfl (a0' rfl (a1' rfl (AG.qe hC rfl (fun hg => ⟨⟨hg, trivial⟩, trivial⟩) (ei64.lenA _) (a1' rfl (po' rfl (an' (J0.g [0] rfl (B1 hx16) ⟨.rfl, ⟨.rfl, trivial⟩⟩ rfl ⟨rfl, trivial⟩ rfl rfl (n' (sg' 9 rfl (a0' rfl (a0' rfl (a0' rfl ?_)))))))))))))
    refine a0' rfl (a0' rfl (a1' rfl (AG.qe hC rfl (fun hg => ⟨⟨hg, trivial⟩, trivial⟩) (B0.lenA _) (a1' rfl (po' rfl (an' (J0.g [0] rfl (B1 hx17) ⟨.rfl, ⟨.rfl, trivial⟩⟩ rfl ⟨rfl, trivial⟩ rfl rfl (n' (sg' 9 rfl (a0' rfl (a0' rfl (a0' rfl (a0' rfl ?_)))))))))))))
    refine a0' rfl (a1' rfl (AG.qe hC rfl (fun hg => ⟨⟨hg, trivial⟩, trivial⟩) (B0.lenA _) (a1' rfl (po' rfl (an' (J0.g [0] rfl (B1 hx18) ⟨.rfl, ⟨.rfl, trivial⟩⟩ rfl ⟨rfl, trivial⟩ rfl rfl (n' (s' rfl rfl (q' rfl (q' rfl (J0.g [0] rfl (Gz hx19) ⟨.rfl, ⟨.rfl, trivial⟩⟩ rfl ⟨rfl, trivial⟩ rfl rfl (n' (s' rfl rfl ?_)))))))))))))
    iterate 5 refine q' rfl ?_
    refine J0.g [0] rfl (ih0 _ _ _ _ hx20) ⟨.rfl, ⟨.rfl, ⟨.rfl, trivial⟩⟩⟩ rfl ⟨rfl, trivial⟩ rfl rfl (n' (R' rfl rfl (q' rfl (q' rfl (q' rfl (q' rfl (q' rfl (J0.g [0] rfl (ih0 _ _ _ _ hx21) ⟨.rfl, ⟨.rfl, ⟨.rfl, trivial⟩⟩⟩ rfl ⟨rfl, trivial⟩ rfl rfl (n' (R' rfl rfl (q' rfl (q' rfl (n' ?_)))))))))))))
    refine Q0.wk ?_ (ih1 _ _ _ _ _ hh)
    exact ⟨⟨⟨.rfl, rfl⟩, ⟨⟨.rfl, rfl⟩, ⟨⟨.rfl, rfl⟩, ⟨⟨.rfl, rfl⟩, ⟨⟨.rfl, rfl⟩, trivial⟩⟩⟩⟩⟩, ⟨⟨rfl, .refl _, rfl⟩, trivial⟩, rfl⟩
theorem Kr {l : List B0} {nesting : Int} {syntaxReport : C0} {res : C0} (hh : L2 l nesting syntaxReport = some res) : Vk l nesting syntaxReport res := (Xa).1 _ _ _ _ hh
theorem O1e {l : List B0} {nesting : Int} {o03 : C0} {v14 : Int} {res : C0} (hh : W2 l nesting o03 v14 = some res) : Nh l nesting o03 v14 res := (Xa).2.1 _ _ _ _ _ hh
theorem P1e {l : List B0} {nesting : Int} {o0 : C0} {x1 : B0} {x3 : P0 × Bool} {v141 : Int} {res : C0} (hh : K3 l nesting o0 x1 x3 v141 = some res) : Oh l nesting o0 x1 x3 v141 res := (Xa).2.2.1 _ _ _ _ _ _ _ hh
theorem Q1e {l : List B0} {nesting : Int} {o01 : C0} {x1 : B0} {x3 : P0 × Bool} {v142 : Int} {res : C0} (hh : L3 l nesting o01 x1 x3 v142 = some res) : Ph l nesting o01 x1 x3 v142 res := (Xa).2.2.2.1 _ _ _ _ _ _ _ hh
theorem R1e {l : List B0} {nesting : Int} {o02 : C0} {x1 : B0} {x3 : P0 × Bool} {v143 : Int} {v84 : Int} {res : C0} (hh : J4 l nesting o02 x1 x3 v143 v84 = some res) : Qh l nesting o02 x1 x3 v143 v84 res := (Xa).2.2.2.2 _ _ _ _ _ _ _ _ hh
end Go.Proofs.YtmilgoloagbmpaaGreatDoor

set_option maxRecDepth 100000
set_option maxHeartbeats 4000000
set_option linter.unusedVariables false
namespace Go.Proofs.YtmilgoloagbmpaaGreatDoor
open Go.Am
mutual
def Z3 (l : List E0) (syntaxReport : C0) : Option C0 :=
  M3 l syntaxReport 0
  partial_fixpoint
def M3 (l : List E0) (o03 : C0) (v15 : Int) : Option C0 :=
  if (decide (v15 < ((l).length : Int))) = true then
    idx l v15 >>= fun x1 =>
    Sf x1.Kind >>= fun x2 =>
    W0 x2.1 (C0.mk (IntKind.i64.wrap (o03.nodes + 1)) o03.depth o03.badForm o03.badName o03.badNumber) >>= fun x3 =>
    (if (!x2.1) = true then R5 x1.TypeV (D0.mk 0 0 0 0 [] [] []) else some default) >>= fun x4 =>
    if (bif x2.1 then true else (!x4)) = true then
      D4 x1.TypeV 1 x3 >>= fun x5 =>
      K4 l x5 x1 x2 v15
    else
      K4 l x3 x1 x2 v15
  else
    some o03
  partial_fixpoint
def K4 (l : List E0) (o0 : C0) (x1 : E0) (x2 : Bool × Bool) (v151 : Int) : Option C0 :=
  T3 x1.Name o0 >>= fun x6 =>
  V2 x1.Value x2.2 x6 >>= fun x7 =>
  W0 (bif (x1.Kind == 4) then true else (x1.Init == 0)) x7 >>= fun x8 =>
  I3 x1.Init (-1048576) 1048576 >>= fun x9 =>
  (if (x9 && (!(x1.TypeV.Kind != 0))) = true then I3 x1.Init 0 1 else some default) >>= fun x10 =>
  O1 (bif x9 then (bif (x1.TypeV.Kind != 0) then true else x10) else false) x8 >>= fun x11 =>
  W0 (bif (x1.Kind == 6) then true else (bif (bif (((x1.Params).length : Int) == 0) then (((x1.Vars).length : Int) == 0) else false) then (((x1.Body).length : Int) == 0) else false)) x11 >>= fun x12 =>
  N3 l x12 x1 v151 0
  partial_fixpoint
def N3 (l : List E0) (o01 : C0) (x1 : E0) (v152 : Int) (v109 : Int) : Option C0 :=
  if (decide (v109 < ((x1.Params).length : Int))) = true then
    idx x1.Params v109 >>= fun x13 =>
    W0 (bif (x13.Kind == 4) then (x13.Init == 0) else false) o01 >>= fun x14 =>
    N3 l x14 x1 v152 (IntKind.i64.wrap (v109 + 1))
  else
    L4 l o01 x1 v152 0
  partial_fixpoint
def L4 (l : List E0) (o02 : C0) (x1 : E0) (v153 : Int) (v127 : Int) : Option C0 :=
  if (decide (v127 < ((x1.Vars).length : Int))) = true then
    idx x1.Vars v127 >>= fun x15 =>
    W0 (x15.Kind == 4) o02 >>= fun x16 =>
    L4 l x16 x1 v153 (IntKind.i64.wrap (v127 + 1))
  else
    Z3 x1.Params o02 >>= fun x17 =>
    Z3 x1.Vars x17 >>= fun x18 =>
    L2 x1.Body 1 x18 >>= fun x19 =>
    M3 l x19 (IntKind.i64.wrap (v153 + 1))
  partial_fixpoint
end
abbrev Xk (l : List E0) (syntaxReport : C0) (res : C0) : Prop := R0 C 80 [.ref 0 0, .d (.sl (E0.rows l))] [.row (C0.cells syntaxReport) 75] (fun x H' => H' = [.row (C0.cells res) 75] ∧ x = .tup [])
abbrev Rh (l : List E0) (o03 : C0) (v15 : Int) (res : C0) : Prop := Q0 (Fx.mk C 150 1) (lo (bk (sr (N0 Tryz.f80)))) (X0 [(0, .ref 0 0), (13, .d (.sl (E0.rows l))), (14, .d (.int .i64 ((l).length : Int))), (15, .d (.int .i64 v15))]) [.row (C0.cells o03) 75] (Am.InBlock 0 (Am.Ends (Fx.mk C 150 1) Tryz.f80.results.toList (fun x H' => H' = [.row (C0.cells res) 75] ∧ x = .tup [])))
abbrev Sh (l : List E0) (o0 : C0) (x1 : E0) (x2 : Bool × Bool) (v151 : Int) (res : C0) : Prop := AEx (Fx.mk C 150 1) (sr (sr (sr (sr (sr (bk (sl (sr (sr (lo (bk (sr (N0 Tryz.f80))))))))))))) (X0 [(0, .ref 0 0), (5, .ref 1 0), (7, .d (.bool x2.2)), (13, .d (.sl (E0.rows l))), (14, .d (.int .i64 ((l).length : Int))), (15, .d (.int .i64 v151))]) [.row (C0.cells o0) 75, .row (E0.cells x1) 64] (Am.InBlock 1 (Am.Then (Fx.mk C 150 1) (sr (sr (sr (lo (bk (sr (N0 Tryz.f80))))))) (Am.Again (Fx.mk C 150 1) (lo (bk (sr (N0 Tryz.f80)))) (Am.InBlock 0 (Am.Ends (Fx.mk C 150 1) Tryz.f80.results.toList (fun x H' => H' = [.row (C0.cells res) 75] ∧ x = .tup []))))))
abbrev Th (l : List E0) (o01 : C0) (x1 : E0) (v152 : Int) (v109 : Int) (res : C0) : Prop := Q0 (Fx.mk C 150 1) (lo (bk (sr (sl (sr (sr (sr (sr (sr (sr (sr (sr (sr (sr (sr (bk (sl (sr (sr (lo (bk (sr (N0 Tryz.f80))))))))))))))))))))))) (X0 [(0, .ref 0 0), (5, .ref 1 0), (13, .d (.sl (E0.rows l))), (14, .d (.int .i64 ((l).length : Int))), (15, .d (.int .i64 v152)), (107, .d (.sl (E0.rows x1.Params))), (108, .d (.int .i64 ((x1.Params).length : Int))), (109, .d (.int .i64 v109))]) [.row (C0.cells o01) 75, .row (E0.cells x1) 64] (Am.InBlock 2 (Am.Then (Fx.mk C 150 1) (sr (sr (sr (sr (sr (sr (sr (sr (sr (sr (sr (sr (bk (sl (sr (sr (lo (bk (sr (N0 Tryz.f80)))))))))))))))))))) (Am.InBlock 1 (Am.Then (Fx.mk C 150 1) (sr (sr (sr (lo (bk (sr (N0 Tryz.f80))))))) (Am.Again (Fx.mk C 150 1) (lo (bk (sr (N0 Tryz.f80)))) (Am.InBlock 0 (Am.Ends (Fx.mk C 150 1) Tryz.f80.results.toList (fun x H' => H' = [.row (C0.cells res) 75] ∧ x = .tup []))))))))
abbrev Uh (l : List E0) (o02 : C0) (x1 : E0) (v153 : Int) (v127 : Int) (res : C0) : Prop := Q0 (Fx.mk C 150 1) (lo (bk (sr (sl (sr (sr (sr (sr (sr (sr (sr (sr (sr (sr (sr (sr (bk (sl (sr (sr (lo (bk (sr (N0 Tryz.f80)))))))))))))))))))))))) (X0 [(0, .ref 0 0), (5, .ref 1 0), (13, .d (.sl (E0.rows l))), (14, .d (.int .i64 ((l).length : Int))), (15, .d (.int .i64 v153)), (125, .d (.sl (E0.rows x1.Vars))), (126, .d (.int .i64 ((x1.Vars).length : Int))), (127, .d (.int .i64 v127))]) [.row (C0.cells o02) 75, .row (E0.cells x1) 64] (Am.InBlock 4 (Am.Then (Fx.mk C 150 1) (sr (sr (sr (sr (sr (sr (sr (sr (sr (sr (sr (sr (sr (bk (sl (sr (sr (lo (bk (sr (N0 Tryz.f80))))))))))))))))))))) (Am.InBlock 1 (Am.Then (Fx.mk C 150 1) (sr (sr (sr (lo (bk (sr (N0 Tryz.f80))))))) (Am.Again (Fx.mk C 150 1) (lo (bk (sr (N0 Tryz.f80)))) (Am.InBlock 0 (Am.Ends (Fx.mk C 150 1) Tryz.f80.results.toList (fun x H' => H' = [.row (C0.cells res) 75] ∧ x = .tup []))))))))
theorem Ya : (∀ (l : List E0) (syntaxReport : C0) (res : C0), Z3 l syntaxReport = some res → Xk l syntaxReport res) ∧
    (∀ (l : List E0) (o03 : C0) (v15 : Int) (res : C0), M3 l o03 v15 = some res → Rh l o03 v15 res) ∧
    (∀ (l : List E0) (o0 : C0) (x1 : E0) (x2 : Bool × Bool) (v151 : Int) (res : C0), K4 l o0 x1 x2 v151 = some res → Sh l o0 x1 x2 v151 res) ∧
    (∀ (l : List E0) (o01 : C0) (x1 : E0) (v152 : Int) (v109 : Int) (res : C0), N3 l o01 x1 v152 v109 = some res → Th l o01 x1 v152 v109 res) ∧
    (∀ (l : List E0) (o02 : C0) (x1 : E0) (v153 : Int) (v127 : Int) (res : C0), L4 l o02 x1 v153 v127 = some res → Uh l o02 x1 v153 v127 res) := by
  refine Z3.mutual_partial_correctness (fun l syntaxReport res => Xk l syntaxReport res)
    (fun l o03 v15 res => Rh l o03 v15 res)
    (fun l o0 x1 x2 v151 res => Sh l o0 x1 x2 v151 res)
    (fun l o01 x1 v152 v109 res => Th l o01 x1 v152 v109 res)
    (fun l o02 x1 v153 v127 res => Uh l o02 x1 v153 v127 res) ?_ ?_ ?_ ?_ ?_
  · intro g1 ih1 l syntaxReport res hh
    refine R0.intro hC Tryz.func80 rfl rfl rfl ?_
    refine s' rfl rfl (q' rfl (qe' rfl trivial (E0.lenA _) (q' rfl (n' (AEx.block ?_)))))
    refine AEx.ofLoop ?_
    refine Q0.wk ?_ (ih1 _ _ _ _ hh)
    exact ⟨⟨⟨.rfl, rfl⟩, ⟨⟨.rfl, rfl⟩, ⟨⟨.rfl, rfl⟩, ⟨⟨.rfl, rfl⟩, trivial⟩⟩⟩⟩, ⟨⟨rfl, .refl _, rfl⟩, trivial⟩, rfl⟩
  · intro g2 ih2 l o03 v15 res hh
    refine Q0.unroll ?_
    refine s' rfl rfl (q' rfl (n' (S' ?_)))
    refine ci' rfl hh (fun hh => ?_) (fun hh => ?_)
    · obtain ⟨x1, hx1, hh⟩ := bs' hh
      obtain ⟨x2, hx2, hh⟩ := bs' hh
      obtain ⟨x3, hx3, hh⟩ := bs' hh
      obtain ⟨x4, hx4, hh⟩ := bs' hh
      refine sk' (S' (AEx.block (s' rfl rfl (i' rfl (V0 hx1) (E0.idx hx1) rfl (q' rfl (J0.nf hC rfl (J0.s hC rfl (n' (s' rfl rfl (q' rfl (q' rfl (q' rfl (q' rfl ?_)))))))))))))
      refine q' rfl (q' rfl (q' rfl (J0.s hC rfl (n' (s' rfl rfl (q' rfl (q' rfl (J0.c rfl rfl (M14 hx2) (q' rfl (q' rfl (q' rfl (q' rfl (q' rfl ?_)))))))))))))
      refine n' (s' rfl rfl (q' rfl (q' rfl (J0.g [0] rfl (B1 hx3) ⟨.rfl, ⟨.rfl, trivial⟩⟩ rfl ⟨rfl, trivial⟩ rfl rfl (n' (S' (sg' 8 rfl (a0' rfl (a0' rfl (a0' rfl (a1' rfl (a0' rfl (AG.c rfl rfl (fun hg => ⟨hg, hg, trivial⟩) (fun hw => K13 (V1 hw hx4)) ?_)))))))))))))
      refine a1' rfl (po' rfl (an' (n' ?_)))
      refine ci' rfl hh (fun hh => ?_) (fun hh => ?_)
      · obtain ⟨x5, hx5, hh⟩ := bs' hh
        refine R' rfl rfl (q' rfl (q' rfl (q' rfl (J0.g [0] rfl (O12 hx5) ⟨.rfl, ⟨.rfl, ⟨.rfl, trivial⟩⟩⟩ rfl ⟨rfl, trivial⟩ rfl rfl (n' ?_)))))
        refine AEx.wk ?_ (ih2 _ _ _ _ _ _ hh)
        exact ⟨⟨⟨.rfl, rfl⟩, ⟨⟨.rfl, rfl⟩, ⟨⟨.rfl, rfl⟩, ⟨⟨.rfl, rfl⟩, ⟨⟨.rfl, rfl⟩, ⟨⟨.rfl, rfl⟩, trivial⟩⟩⟩⟩⟩⟩, ⟨⟨rfl, .refl _, rfl⟩, ⟨⟨rfl, .refl _, rfl⟩, trivial⟩⟩, rfl⟩
      refine sk' ?_
      refine AEx.wk ?_ (ih2 _ _ _ _ _ _ hh)
      exact ⟨⟨⟨.rfl, rfl⟩, ⟨⟨.rfl, rfl⟩, ⟨⟨.rfl, rfl⟩, ⟨⟨.rfl, rfl⟩, ⟨⟨.rfl, rfl⟩, ⟨⟨.rfl, rfl⟩, trivial⟩⟩⟩⟩⟩⟩, ⟨⟨rfl, .refl _, rfl⟩, ⟨⟨rfl, .refl _, rfl⟩, trivial⟩⟩, rfl⟩
    refine ex' ?_
    obtain rfl := oi' hh
    exact ⟨_, _, [.row (C0.cells o03) 75], rfl, .rfl, ⟨⟨rfl, .refl _, rfl⟩, trivial⟩, rfl, rfl, rfl, rfl⟩
  · intro g3 ih3 l o0 x1 x2 v151 res hh
    obtain ⟨x6, hx6, hh⟩ := bs' hh
    obtain ⟨x7, hx7, hh⟩ := bs' hh
    obtain ⟨x8, hx8, hh⟩ := bs' hh
    obtain ⟨x9, hx9, hh⟩ := bs' hh
    obtain ⟨x10, hx10, hh⟩ := bs' hh
    obtain ⟨x11, hx11, hh⟩ := bs' hh
    obtain ⟨x12, hx12, hh⟩ := bs' hh
    refine s' rfl rfl (q' rfl (q' rfl (q' rfl (J0.g [0] rfl (Xc hx6) ⟨.rfl, ⟨.rfl, trivial⟩⟩ rfl ⟨rfl, trivial⟩ rfl rfl (n' (s' rfl rfl (q' rfl (q' rfl (q' rfl (q' rfl (J0.g [0] rfl (Qg hx7) ⟨.rfl, ⟨.rfl, ⟨.rfl, trivial⟩⟩⟩ rfl ⟨rfl, trivial⟩ rfl rfl (n' (sg' 9 rfl ?_)))))))))))))
    iterate 6 refine a0' rfl ?_
    refine a1' rfl (a1' rfl (po' rfl (an' (J0.g [0] rfl (B1 hx8) ⟨.rfl, ⟨.rfl, trivial⟩⟩ rfl ⟨rfl, trivial⟩ rfl rfl (n' (sg' 15 rfl (a0' rfl (a0' rfl (a0' rfl (AG.c rfl rfl (fun _ => trivial) (fun _ => A5 hx9) (a0' rfl (a0' rfl (a1' rfl ?_)))))))))))))
    refine a1' rfl (a1' rfl (a1' rfl (a0' rfl (a1' rfl (AG.c rfl rfl (fun hg => ⟨hg, trivial⟩) (fun hw => A5 (V1 hw hx10)) (pO' rfl (pa' rfl (an' (J0.g [0] rfl (D3 hx11) ⟨.rfl, ⟨.rfl, trivial⟩⟩ rfl ⟨rfl, trivial⟩ rfl rfl (n' (s' rfl rfl (q' rfl (q' rfl ?_)))))))))))))
    refine q' rfl (q' rfl (n' (sg' 20 rfl (a0' rfl (a0' rfl (a0' rfl (a0' rfl (a1' rfl (AG.qe hC rfl (fun hg => ⟨⟨hg, trivial⟩, trivial⟩) (E0.lenA _) (a1' rfl (a1' rfl (a0' rfl (a1' rfl ?_)))))))))))))
    refine AG.qe hC rfl (fun hg => ⟨⟨hg, trivial⟩, trivial⟩) (E0.lenA _) (a1' rfl (pA' rfl (a1' rfl (a0' rfl (a1' rfl (AG.qe hC rfl (fun hg => ⟨⟨hg, trivial⟩, trivial⟩) (B0.lenA _) (a1' rfl (pA' rfl (po' rfl (an' (J0.g [0] rfl (B1 hx12) ⟨.rfl, ⟨.rfl, trivial⟩⟩ rfl ⟨rfl, trivial⟩ rfl rfl (n' (S' ?_)))))))))))))
    refine s' rfl rfl (q' rfl (q' rfl (qe' rfl trivial (E0.lenA _) (q' rfl (n' (AEx.block ?_))))))
    refine AEx.ofLoop ?_
    refine Q0.wk ?_ (ih3 _ _ _ _ _ _ hh)
    exact ⟨⟨⟨.rfl, rfl⟩, ⟨⟨.rfl, rfl⟩, ⟨⟨.rfl, rfl⟩, ⟨⟨.rfl, rfl⟩, ⟨⟨.rfl, rfl⟩, ⟨⟨.rfl, rfl⟩, ⟨⟨.rfl, rfl⟩, ⟨⟨.rfl, rfl⟩, trivial⟩⟩⟩⟩⟩⟩⟩⟩, ⟨⟨rfl, .refl _, rfl⟩, ⟨⟨rfl, .refl _, rfl⟩, trivial⟩⟩, rfl⟩
  · intro g3 g4 ih3 ih4 l o01 x1 v152 v109 res hh
    refine Q0.unroll ?_
    refine s' rfl rfl (q' rfl (n' (S' ?_)))
    refine ci' rfl hh (fun hh => ?_) (fun hh => ?_)
    · obtain ⟨x13, hx13, hh⟩ := bs' hh
      obtain ⟨x14, hx14, hh⟩ := bs' hh
      refine sk' (S' (AEx.block (s' rfl rfl (i' rfl (V0 hx13) (E0.idx hx13) rfl (q' rfl (J0.nf hC rfl (J0.s hC rfl (n' (AEx.regionG 9 rfl (a0' rfl (a0' rfl (a0' rfl (a0' rfl ?_)))))))))))))
      refine a0' rfl (a0' rfl (a1' rfl (a1' rfl (pa' rfl (an' (J0.g [0] rfl (B1 hx14) ⟨.rfl, ⟨.rfl, trivial⟩⟩ rfl ⟨rfl, trivial⟩ rfl rfl (n' (R' rfl rfl (q' rfl (q' rfl (n' ?_)))))))))))
      refine Q0.wk ?_ (ih3 _ _ _ _ _ _ hh)
      exact ⟨⟨⟨.rfl, rfl⟩, ⟨⟨.rfl, rfl⟩, ⟨⟨.rfl, rfl⟩, ⟨⟨.rfl, rfl⟩, ⟨⟨.rfl, rfl⟩, ⟨⟨.rfl, rfl⟩, ⟨⟨.rfl, rfl⟩, ⟨⟨.rfl, rfl⟩, trivial⟩⟩⟩⟩⟩⟩⟩⟩, ⟨⟨rfl, .refl _, rfl⟩, ⟨⟨rfl, .refl _, rfl⟩, trivial⟩⟩, rfl⟩
    refine ex' (S' (s' rfl rfl (q' rfl (q' rfl (qe' rfl trivial (E0.lenA _) (q' rfl (n' (AEx.block ?_))))))))
    refine AEx.ofLoop ?_
    refine Q0.wk ?_ (ih4 _ _ _ _ _ _ hh)
    exact ⟨⟨⟨.rfl, rfl⟩, ⟨⟨.rfl, rfl⟩, ⟨⟨.rfl, rfl⟩, ⟨⟨.rfl, rfl⟩, ⟨⟨.rfl, rfl⟩, ⟨⟨.rfl, rfl⟩, ⟨⟨.rfl, rfl⟩, ⟨⟨.rfl, rfl⟩, trivial⟩⟩⟩⟩⟩⟩⟩⟩, ⟨⟨rfl, .refl _, rfl⟩, ⟨⟨rfl, .refl _, rfl⟩, trivial⟩⟩, rfl⟩
  · intro g0 g1 g4 ih0 ih1 ih4 l o02 x1 v153 v127 res hh
    refine Q0.unroll ?_
    refine s' rfl rfl (q' rfl (n' (S' ?_)))
    refine ci' rfl hh (fun hh => ?_) (fun hh => ?_)
    · obtain ⟨x15, hx15, hh⟩ := bs' hh
      obtain ⟨x16, hx16, hh⟩ := bs' hh
      refine sk' (S' (AEx.block (s' rfl rfl (i' rfl (V0 hx15) (E0.idx hx15) rfl (q' rfl (J0.nf hC rfl (J0.s hC rfl (n' (R' rfl rfl (q' rfl (q' rfl (q' rfl (q' rfl ?_)))))))))))))
      refine J0.g [0] rfl (B1 hx16) ⟨.rfl, ⟨.rfl, trivial⟩⟩ rfl ⟨rfl, trivial⟩ rfl rfl (n' (R' rfl rfl (q' rfl (q' rfl (n' ?_)))))
      refine Q0.wk ?_ (ih4 _ _ _ _ _ _ hh)
      exact ⟨⟨⟨.rfl, rfl⟩, ⟨⟨.rfl, rfl⟩, ⟨⟨.rfl, rfl⟩, ⟨⟨.rfl, rfl⟩, ⟨⟨.rfl, rfl⟩, ⟨⟨.rfl, rfl⟩, ⟨⟨.rfl, rfl⟩, ⟨⟨.rfl, rfl⟩, trivial⟩⟩⟩⟩⟩⟩⟩⟩, ⟨⟨rfl, .refl _, rfl⟩, ⟨⟨rfl, .refl _, rfl⟩, trivial⟩⟩, rfl⟩
    obtain ⟨x17, hx17, hh⟩ := bs' hh
    obtain ⟨x18, hx18, hh⟩ := bs' hh
    obtain ⟨x19, hx19, hh⟩ := bs' hh
    refine ex' (s' rfl rfl (q' rfl (q' rfl (q' rfl (J0.g [0] rfl (ih0 _ _ _ hx17) ⟨.rfl, ⟨.rfl, trivial⟩⟩ rfl ⟨rfl, trivial⟩ rfl rfl (n' (s' rfl rfl (q' rfl (q' rfl (q' rfl (J0.g [0] rfl (ih0 _ _ _ hx18) ⟨.rfl, ⟨.rfl, trivial⟩⟩ rfl ⟨rfl, trivial⟩ rfl rfl (n' (R' rfl rfl ?_)))))))))))))
    refine q' rfl (q' rfl (q' rfl (J0.g [0] rfl (Kr hx19) ⟨.rfl, ⟨.rfl, ⟨.rfl, trivial⟩⟩⟩ rfl ⟨rfl, trivial⟩ rfl rfl (n' (R' rfl rfl (q' rfl (q' rfl (n' ?_))))))))
    refine Q0.wk ?_ (ih1 _ _ _ _ hh)
    exact ⟨⟨⟨.rfl, rfl⟩, ⟨⟨.rfl, rfl⟩, ⟨⟨.rfl, rfl⟩, ⟨⟨.rfl, rfl⟩, trivial⟩⟩⟩⟩, ⟨⟨rfl, .refl _, rfl⟩, trivial⟩, rfl⟩
theorem R10 {l : List E0} {syntaxReport : C0} {res : C0} (hh : Z3 l syntaxReport = some res) : Xk l syntaxReport res := (Ya).1 _ _ _ hh
theorem S1e {l : List E0} {o03 : C0} {v15 : Int} {res : C0} (hh : M3 l o03 v15 = some res) : Rh l o03 v15 res := (Ya).2.1 _ _ _ _ hh
theorem T1e {l : List E0} {o0 : C0} {x1 : E0} {x2 : Bool × Bool} {v151 : Int} {res : C0} (hh : K4 l o0 x1 x2 v151 = some res) : Sh l o0 x1 x2 v151 res := (Ya).2.2.1 _ _ _ _ _ _ hh
theorem U1e {l : List E0} {o01 : C0} {x1 : E0} {v152 : Int} {v109 : Int} {res : C0} (hh : N3 l o01 x1 v152 v109 = some res) : Th l o01 x1 v152 v109 res := (Ya).2.2.2.1 _ _ _ _ _ _ hh
theorem V1e {l : List E0} {o02 : C0} {x1 : E0} {v153 : Int} {v127 : Int} {res : C0} (hh : L4 l o02 x1 v153 v127 = some res) : Uh l o02 x1 v153 v127 res := (Ya).2.2.2.2 _ _ _ _ _ _ hh
def Zc (p : L0) : Option C0 :=
  Z3 p.Decls (C0.mk 0 0 false false false) >>= fun x1 =>
  L2 p.Body 1 x1 >>= fun x2 =>
  some x2
abbrev W17 (p : L0) (res : C0) : Prop := R0 C 38 [.agg (L0.cells p)] [] (fun x H' => H' = [.dead, .row (C0.cells res) 75] ∧ x = .ref 1 0)
theorem Rx {p : L0} {res : C0} (hh : Zc p = some res) : W17 p res := by
  unfold Zc at hh
  refine R0.intro hC Tryz.func38 rfl rfl rfl ?_
  obtain ⟨x1, hx1, hh⟩ := bs' hh
  obtain ⟨x2, hx2, hh⟩ := bs' hh
  refine s' rfl rfl (J0.n hC rfl (q' rfl (n' (s' rfl rfl (q' rfl (J0.n hC rfl (q' rfl (n' (s' rfl rfl (q' rfl (q' rfl (q' rfl (J0.g [1] rfl (R10 hx1) ⟨.rfl, ⟨.rfl, trivial⟩⟩ rfl ⟨rfl, trivial⟩ rfl rfl ?_)))))))))))))
  refine n' (s' rfl rfl (q' rfl (q' rfl (q' rfl (J0.g [1] rfl (Kr hx2) ⟨.rfl, ⟨.rfl, ⟨.rfl, trivial⟩⟩⟩ rfl ⟨rfl, trivial⟩ rfl rfl (n' (s' rfl rfl (q' rfl (q' rfl (n' (re' ?_)))))))))))
  obtain rfl := oi' hh
  exact ⟨_, _, [.dead, .row (C0.cells x2) 75], rfl, .rfl, ⟨trivial, ⟨⟨rfl, .refl _, rfl⟩, trivial⟩⟩, rfl, rfl, rfl, rfl⟩
def Vh (p : L0) : Option Int :=
  Zc p >>= fun x1 =>
  H5 x1 >>= fun x2 =>
  some x2
abbrev F1b (p : L0) (res : Int) : Prop := R0 C 14 [.agg (L0.cells p)] [] (fun x H' => H' = [] ∧ x = .d (.int .i64 res))
theorem A1a {p : L0} {res : Int} (hh : Vh p = some res) : F1b p res := by
  unfold Vh at hh
  refine R0.intro hC Tryz.func14 rfl rfl rfl ?_
  obtain ⟨x1, hx1, hh⟩ := bs' hh
  obtain ⟨x2, hx2, hh⟩ := bs' hh
  refine s' rfl rfl (J0.n hC rfl (q' rfl (n' (s' rfl rfl (q' rfl (J0.g [] rfl (Rx hx1) ⟨.rfl, trivial⟩ rfl trivial rfl rfl (J0.g [2] rfl (Sk hx2) ⟨.rfl, trivial⟩ rfl ⟨rfl, trivial⟩ rfl rfl (q' rfl (n' (re' ?_))))))))))
  obtain rfl := oi' hh
  exact ⟨_, _, [], rfl, .rfl, trivial, rfl, rfl, rfl, rfl⟩
mutual
def R1 (t : D0) (b : Str) : Option Str :=
  if (t.Kind == 0) = true then
    F0 [98, 111, 111, 108] b >>= fun x1 =>
    some x1.2
  else
    if (t.Kind == 1) = true then
      Gh t.Low >>= fun x2 =>
      if (decide (4 + x2.length ≤ maxLen)) = true then
        if (decide (([105, 110, 116, 91] ++ x2).length + 2 ≤ maxLen)) = true then
          Gh t.High >>= fun x3 =>
          if (decide ((([105, 110, 116, 91] ++ x2) ++ [46, 46]).length + x3.length ≤ maxLen)) = true then
            if (decide (((([105, 110, 116, 91] ++ x2) ++ [46, 46]) ++ x3).length + 1 ≤ maxLen)) = true then
              F0 (((([105, 110, 116, 91] ++ x2) ++ [46, 46]) ++ x3) ++ [93]) b >>= fun x4 =>
              some x4.2
            else none
          else none
        else none
      else none
    else
      if (t.Kind == 2) = true then
        Gh t.Size >>= fun x5 =>
        if (decide (6 + x5.length ≤ maxLen)) = true then
          if (decide (([97, 114, 114, 97, 121, 32] ++ x5).length + 4 ≤ maxLen)) = true then
            F0 (([97, 114, 114, 97, 121, 32] ++ x5) ++ [32, 111, 102, 32]) b >>= fun x6 =>
            idx t.Of 0 >>= fun x7 =>
            R1 x7 x6.2 >>= fun x14 =>
            some x14
          else none
        else none
      else
        if (t.Kind == 3) = true then
          F0 [114, 101, 99, 111, 114, 100, 32, 123] b >>= fun x8 =>
          V3 t x8.2 0
        else
          if (t.Kind == 4) = true then
            F0 t.Name b >>= fun x9 =>
            some x9.2
          else
            some b
  partial_fixpoint
def V3 (t : D0) (b1 : Str) (v56 : Int) : Option Str :=
  if (decide (v56 < ((t.Of).length : Int))) = true then
    idx t.Of v56 >>= fun x10 =>
    if (decide (v56 > 0)) = true then
      F0 [44, 32] b1 >>= fun x16 =>
      U4 t x16.2 x10 v56 v56
    else
      U4 t b1 x10 v56 v56
  else
    F0 [125] b1 >>= fun x13 =>
    some x13.2
  partial_fixpoint
def U4 (t : D0) (b11 : Str) (x10 : D0) (i : Int) (v561 : Int) : Option Str :=
  idx t.Names i >>= fun x11 =>
  if (decide (x11.length + 2 ≤ maxLen)) = true then
    F0 (x11 ++ [58, 32]) b11 >>= fun x12 =>
    R1 x10 x12.2 >>= fun x15 =>
    V3 t x15 (IntKind.i64.wrap (v561 + 1))
  else none
  partial_fixpoint
end
abbrev Xl (t : D0) (b : Str) (res : Str) : Prop := R0 C 58 [.ref 0 0, .agg (D0.cells t)] [.bld 1 86, .buf 5 b] (fun x H' => H' = [.bld 1 86, .buf 5 res] ∧ x = .tup [])
abbrev Ki (t : D0) (b1 : Str) (v56 : Int) (res : Str) : Prop := Q0 (Fx.mk C 93 2) (lo (bk (sr (sl (sr (ca (sr (cb (sr (cb (sr (cb (sr (bk (sr (sr (N0 Tryz.f58))))))))))))))))) (X0 [(0, .ref 0 0), (3, .ref 2 0), (54, .d (.sl (D0.rows t.Of))), (55, .d (.int .i64 ((t.Of).length : Int))), (56, .d (.int .i64 v56))]) [.bld 1 86, .buf 5 b1, .row (D0.cells t) 48] (Am.InBlock 1 (Am.Then (Fx.mk C 93 2) (sr (sr (ca (sr (cb (sr (cb (sr (cb (sr (bk (sr (sr (N0 Tryz.f58)))))))))))))) (Am.InBlock 0 (Am.Ends (Fx.mk C 93 2) Tryz.f58.results.toList (fun x H' => H' = [.bld 1 86, .buf 5 res] ∧ x = .tup [])))))
abbrev Li (t : D0) (b11 : Str) (x10 : D0) (i : Int) (v561 : Int) (res : Str) : Prop := AEx (Fx.mk C 93 2) (sr (sr (bk (sl (sr (sr (lo (bk (sr (sl (sr (ca (sr (cb (sr (cb (sr (cb (sr (bk (sr (sr (N0 Tryz.f58))))))))))))))))))))))) (X0 [(0, .ref 0 0), (3, .ref 2 0), (4, .d (.int .i64 i)), (5, .ref 3 0), (54, .d (.sl (D0.rows t.Of))), (55, .d (.int .i64 ((t.Of).length : Int))), (56, .d (.int .i64 v561))]) [.bld 1 86, .buf 5 b11, .row (D0.cells t) 48, .row (D0.cells x10) 48] (Am.InBlock 2 (Am.Then (Fx.mk C 93 2) (sr (sr (sr (lo (bk (sr (sl (sr (ca (sr (cb (sr (cb (sr (cb (sr (bk (sr (sr (N0 Tryz.f58)))))))))))))))))))) (Am.Again (Fx.mk C 93 2) (lo (bk (sr (sl (sr (ca (sr (cb (sr (cb (sr (cb (sr (bk (sr (sr (N0 Tryz.f58))))))))))))))))) (Am.InBlock 1 (Am.Then (Fx.mk C 93 2) (sr (sr (ca (sr (cb (sr (cb (sr (cb (sr (bk (sr (sr (N0 Tryz.f58)))))))))))))) (Am.InBlock 0 (Am.Ends (Fx.mk C 93 2) Tryz.f58.results.toList (fun x H' => H' = [.bld 1 86, .buf 5 res] ∧ x = .tup []))))))))
theorem Pj : (∀ (t : D0) (b : Str) (res : Str), R1 t b = some res → Xl t b res) ∧
    (∀ (t : D0) (b1 : Str) (v56 : Int) (res : Str), V3 t b1 v56 = some res → Ki t b1 v56 res) ∧
    (∀ (t : D0) (b11 : Str) (x10 : D0) (i : Int) (v561 : Int) (res : Str), U4 t b11 x10 i v561 = some res → Li t b11 x10 i v561 res) := by
  refine R1.mutual_partial_correctness (fun t b res => Xl t b res)
    (fun t b1 v56 res => Ki t b1 v56 res)
    (fun t b11 x10 i v561 res => Li t b11 x10 i v561 res) ?_ ?_ ?_
  · intro g0 g1 ih0 ih1 t b res hh
    refine R0.intro hC Tryz.func58 rfl rfl rfl ?_
    refine s' rfl rfl (J0.n hC rfl (n' (s' rfl rfl (q' rfl (q' rfl (n' (AEx.block (s' rfl rfl (q' rfl (q' rfl (n' ?_)))))))))))
    refine ci' rfl hh (fun hh => ?_) (fun hh => ?_)
    · obtain ⟨x1, hx1, hh⟩ := bs' hh
      refine R' rfl rfl (q' rfl (q' rfl (q' rfl (J0.g [0, 1] rfl (K0 hx1) ⟨.rfl, ⟨.rfl, trivial⟩⟩ rfl ⟨rfl, ⟨rfl, trivial⟩⟩ rfl rfl (n' ?_)))))
      obtain rfl := oi' hh
      exact ⟨_, _, [.bld 1 86, .buf 5 x1.2], rfl, .rfl, ⟨⟨rfl, Nat.le_of_ble_eq_true rfl⟩, ⟨rfl, trivial⟩⟩, rfl, rfl, rfl, rfl⟩
    refine s' rfl rfl (q' rfl (q' rfl (n' ?_)))
    refine ci' rfl hh (fun hh => ?_) (fun hh => ?_)
    · obtain ⟨x2, hx2, hh⟩ := bs' hh
      obtain ⟨c49, hh⟩ := O0 hh
      obtain ⟨c50, hh⟩ := O0 hh
      obtain ⟨x3, hx3, hh⟩ := bs' hh
      obtain ⟨c51, hh⟩ := O0 hh
      obtain ⟨c52, hh⟩ := O0 hh
      obtain ⟨x4, hx4, hh⟩ := bs' hh
      refine AEx.draw hC 13 rfl rfl rfl (Q' rfl (Q' rfl (Q' rfl (Q' rfl (Q' rfl (AQ.c rfl rfl (Xg hx2) (AQ.q hC rfl c49 (AQ.q hC rfl c50 (Q' rfl (Q' rfl (AQ.c rfl rfl (Xg hx3) (AQ.q hC rfl c51 (AQ.q hC rfl c52 ?_)))))))))))))
      refine Qn' (J0.g [0, 1] rfl (K0 hx4) ⟨.rfl, ⟨.rfl, trivial⟩⟩ rfl ⟨rfl, ⟨rfl, trivial⟩⟩ rfl rfl (n' ?_))
      obtain rfl := oi' hh
      exact ⟨_, _, [.bld 1 86, .buf 5 x4.2], rfl, .rfl, ⟨⟨rfl, Nat.le_of_ble_eq_true rfl⟩, ⟨rfl, trivial⟩⟩, rfl, rfl, rfl, rfl⟩
    refine s' rfl rfl (q' rfl (q' rfl (n' ?_)))
    refine ci' rfl hh (fun hh => ?_) (fun hh => ?_)
    · obtain ⟨x5, hx5, hh⟩ := bs' hh
      obtain ⟨c53, hh⟩ := O0 hh
      obtain ⟨c54, hh⟩ := O0 hh
      obtain ⟨x6, hx6, hh⟩ := bs' hh
      obtain ⟨x7, hx7, hh⟩ := bs' hh
      obtain ⟨x14, hx14, hh⟩ := bs' hh
      refine S' (AEx.draw hC 8 rfl rfl rfl (Q' rfl (Q' rfl (Q' rfl (Q' rfl (Q' rfl (AQ.c rfl rfl (Xg hx5) (AQ.q hC rfl c53 (AQ.q hC rfl c54 (Qn' (J0.g [0, 1] rfl (K0 hx6) ⟨.rfl, ⟨.rfl, trivial⟩⟩ rfl ⟨rfl, ⟨rfl, trivial⟩⟩ rfl rfl (n' (R' rfl rfl ?_)))))))))))))
      refine q' rfl (q' rfl (q' rfl (i' rfl (V0 hx7) (D0.idx hx7) rfl (q' rfl (J0.g [0, 1] rfl (ih0 _ _ _ hx14) ⟨.rfl, ⟨.rfl, trivial⟩⟩ rfl ⟨rfl, ⟨rfl, trivial⟩⟩ rfl rfl (n' ?_))))))
      obtain rfl := oi' hh
      exact ⟨_, _, [.bld 1 86, .buf 5 x14], rfl, .rfl, ⟨⟨rfl, Nat.le_of_ble_eq_true rfl⟩, ⟨rfl, trivial⟩⟩, rfl, rfl, rfl, rfl⟩
    refine s' rfl rfl (q' rfl (q' rfl (n' ?_)))
    refine ci' rfl hh (fun hh => ?_) (fun hh => ?_)
    · obtain ⟨x8, hx8, hh⟩ := bs' hh
      refine s' rfl rfl (q' rfl (q' rfl (q' rfl (J0.g [0, 1] rfl (K0 hx8) ⟨.rfl, ⟨.rfl, trivial⟩⟩ rfl ⟨rfl, ⟨rfl, trivial⟩⟩ rfl rfl (n' (S' (s' rfl rfl (q' rfl (q' rfl (qe' rfl trivial (D0.lenA _) (q' rfl (n' (AEx.block ?_)))))))))))))
      refine AEx.ofLoop ?_
      refine Q0.wk ?_ (ih1 _ _ _ _ hh)
      exact ⟨⟨⟨.rfl, rfl⟩, ⟨⟨.rfl, rfl⟩, ⟨⟨.rfl, rfl⟩, ⟨⟨.rfl, rfl⟩, ⟨⟨.rfl, rfl⟩, trivial⟩⟩⟩⟩⟩, ⟨⟨rfl, Nat.le_of_ble_eq_true rfl⟩, ⟨rfl, ⟨⟨rfl, .refl _, rfl⟩, trivial⟩⟩⟩, rfl⟩
    refine s' rfl rfl (q' rfl (q' rfl (n' ?_)))
    refine ci' rfl hh (fun hh => ?_) (fun hh => ?_)
    · obtain ⟨x9, hx9, hh⟩ := bs' hh
      refine AEx.draw hC 5 rfl rfl rfl (Q' rfl (Q' rfl (Q' rfl (Q' rfl (Q' rfl (Qn' (J0.g [0, 1] rfl (K0 hx9) ⟨.rfl, ⟨.rfl, trivial⟩⟩ rfl ⟨rfl, ⟨rfl, trivial⟩⟩ rfl rfl (n' ?_))))))))
      obtain rfl := oi' hh
      exact ⟨_, _, [.bld 1 86, .buf 5 x9.2], rfl, .rfl, ⟨⟨rfl, Nat.le_of_ble_eq_true rfl⟩, ⟨rfl, trivial⟩⟩, rfl, rfl, rfl, rfl⟩
    refine sk' ?_
    obtain rfl := oi' hh
    exact ⟨_, _, [.bld 1 86, .buf 5 b], rfl, .rfl, ⟨⟨rfl, Nat.le_of_ble_eq_true rfl⟩, ⟨rfl, trivial⟩⟩, rfl, rfl, rfl, rfl⟩
  · intro g2 ih2 t b1 v56 res hh
    refine Q0.unroll ?_
    refine s' rfl rfl (q' rfl (n' (S' ?_)))
    refine ci' rfl hh (fun hh => ?_) (fun hh => ?_)
    · obtain ⟨x10, hx10, hh⟩ := bs' hh
      refine sk' (S' (AEx.block (s' rfl rfl (q' rfl (i' rfl (V0 hx10) (D0.idx hx10) rfl (q' rfl (J0.nf hC rfl (q' rfl (J0.s hC rfl (n' (S' (s' rfl rfl (q' rfl ?_)))))))))))))
      refine q' rfl (n' ?_)
      refine ci' rfl hh (fun hh => ?_) (fun hh => ?_)
      · obtain ⟨x16, hx16, hh⟩ := bs' hh
        refine R' rfl rfl (q' rfl (q' rfl (q' rfl (J0.g [0, 1] rfl (K0 hx16) ⟨.rfl, ⟨.rfl, trivial⟩⟩ rfl ⟨rfl, ⟨rfl, trivial⟩⟩ rfl rfl (n' ?_)))))
        refine AEx.wk ?_ (ih2 _ _ _ _ _ _ hh)
        exact ⟨⟨⟨.rfl, rfl⟩, ⟨⟨.rfl, rfl⟩, ⟨⟨.rfl, rfl⟩, ⟨⟨.rfl, rfl⟩, ⟨⟨.rfl, rfl⟩, ⟨⟨.rfl, rfl⟩, ⟨⟨.rfl, rfl⟩, trivial⟩⟩⟩⟩⟩⟩⟩, ⟨⟨rfl, Nat.le_of_ble_eq_true rfl⟩, ⟨rfl, ⟨⟨rfl, .refl _, rfl⟩, ⟨⟨rfl, .refl _, rfl⟩, trivial⟩⟩⟩⟩, rfl⟩
      refine sk' ?_
      refine AEx.wk ?_ (ih2 _ _ _ _ _ _ hh)
      exact ⟨⟨⟨.rfl, rfl⟩, ⟨⟨.rfl, rfl⟩, ⟨⟨.rfl, rfl⟩, ⟨⟨.rfl, rfl⟩, ⟨⟨.rfl, rfl⟩, ⟨⟨.rfl, rfl⟩, ⟨⟨.rfl, rfl⟩, trivial⟩⟩⟩⟩⟩⟩⟩, ⟨⟨rfl, Nat.le_of_ble_eq_true rfl⟩, ⟨rfl, ⟨⟨rfl, .refl _, rfl⟩, ⟨⟨rfl, .refl _, rfl⟩, trivial⟩⟩⟩⟩, rfl⟩
    obtain ⟨x13, hx13, hh⟩ := bs' hh
    refine ex' (R' rfl rfl (q' rfl (q' rfl (q' rfl (J0.g [0, 1] rfl (K0 hx13) ⟨.rfl, ⟨.rfl, trivial⟩⟩ rfl ⟨rfl, ⟨rfl, trivial⟩⟩ rfl rfl (n' ?_))))))
    obtain rfl := oi' hh
    exact ⟨_, _, [.bld 1 86, .buf 5 x13.2], rfl, .rfl, ⟨⟨rfl, Nat.le_of_ble_eq_true rfl⟩, ⟨rfl, trivial⟩⟩, rfl, rfl, rfl, rfl⟩
  · intro g0 g1 ih0 ih1 t b11 x10 i v561 res hh
    obtain ⟨x11, hx11, hh⟩ := bs' hh
    obtain ⟨c55, hh⟩ := O0 hh
    obtain ⟨x12, hx12, hh⟩ := bs' hh
    obtain ⟨x15, hx15, hh⟩ := bs' hh
    refine S' (AEx.draw hC 9 rfl rfl rfl (Q' rfl (Q' rfl (Q' rfl (Q' rfl (Q' rfl (Q' rfl (AQ.i hC rfl (V0 hx11) (estr.idx hx11) rfl (Q' rfl (AQ.q hC rfl c55 (Qn' (J0.g [0, 1] rfl (K0 hx12) ⟨.rfl, ⟨.rfl, trivial⟩⟩ rfl ⟨rfl, ⟨rfl, trivial⟩⟩ rfl rfl (n' ?_)))))))))))))
    refine R' rfl rfl (q' rfl (q' rfl (J0.g [0, 1] rfl (ih0 _ _ _ hx15) ⟨.rfl, ⟨.rfl, trivial⟩⟩ rfl ⟨rfl, ⟨rfl, trivial⟩⟩ rfl rfl (n' (R' rfl rfl (q' rfl (q' rfl (n' ?_))))))))
    refine Q0.wk ?_ (ih1 _ _ _ _ hh)
    exact ⟨⟨⟨.rfl, rfl⟩, ⟨⟨.rfl, rfl⟩, ⟨⟨.rfl, rfl⟩, ⟨⟨.rfl, rfl⟩, ⟨⟨.rfl, rfl⟩, trivial⟩⟩⟩⟩⟩, ⟨⟨rfl, Nat.le_of_ble_eq_true rfl⟩, ⟨rfl, ⟨⟨rfl, .refl _, rfl⟩, trivial⟩⟩⟩, rfl⟩
theorem Yk {t : D0} {b : Str} {res : Str} (hh : R1 t b = some res) : Xl t b res := (Pj).1 _ _ _ hh
theorem T1g {t : D0} {b1 : Str} {v56 : Int} {res : Str} (hh : V3 t b1 v56 = some res) : Ki t b1 v56 res := (Pj).2.1 _ _ _ _ hh
theorem U1g {t : D0} {b11 : Str} {x10 : D0} {i : Int} {v561 : Int} {res : Str} (hh : U4 t b11 x10 i v561 = some res) : Li t b11 x10 i v561 res := (Pj).2.2 _ _ _ _ _ _ hh
def A3 (name : Str) (t : D0) (b : Str) : Option Str :=
  if (decide (name.length + 2 ≤ maxLen)) = true then
    F0 (name ++ [58, 32]) b >>= fun x1 =>
    R1 t x1.2 >>= fun x2 =>
    some x2
  else none
abbrev S10 (name : Str) (t : D0) (b : Str) (res : Str) : Prop := R0 C 115 [.ref 0 0, .d (.str name), .agg (D0.cells t)] [.bld 1 86, .buf 5 b] (fun x H' => H' = [.bld 1 86, .buf 5 res] ∧ x = .tup [])
theorem Q7 {name : Str} {t : D0} {b : Str} {res : Str} (hh : A3 name t b = some res) : S10 name t b res := by
  unfold A3 at hh
  refine R0.intro hC Tryz.func115 rfl rfl rfl ?_
  obtain ⟨c4, hh⟩ := O0 hh
  obtain ⟨x1, hx1, hh⟩ := bs' hh
  obtain ⟨x2, hx2, hh⟩ := bs' hh
  refine s' rfl rfl (J0.n hC rfl (n' (s' rfl rfl (q' rfl (q' rfl (q' rfl (q' rfl (qc' rfl c4 (J0.g [0, 1] rfl (K0 hx1) ⟨.rfl, ⟨.rfl, trivial⟩⟩ rfl ⟨rfl, ⟨rfl, trivial⟩⟩ rfl rfl (n' (R' rfl rfl (q' rfl (q' rfl ?_)))))))))))))
  refine J0.g [0, 1] rfl (Yk hx2) ⟨.rfl, ⟨.rfl, trivial⟩⟩ rfl ⟨rfl, ⟨rfl, trivial⟩⟩ rfl rfl (n' ?_)
  obtain rfl := oi' hh
  exact ⟨_, _, [.bld 1 86, .buf 5 x2], rfl, .rfl, ⟨⟨rfl, Nat.le_of_ble_eq_true rfl⟩, ⟨rfl, trivial⟩⟩, rfl, rfl, rfl, rfl⟩
def U3 (x2 : Str) (value : Str) : Option Str :=
  if (decide (3 + value.length ≤ maxLen)) = true then
    F0 ([32, 61, 32] ++ value) x2 >>= fun x4 =>
    F0 [59, 10] x4.2 >>= fun x5 =>
    some x5.2
  else none
abbrev Ov (x2 : Str) (value : Str) (res : Str) : Prop := AEx (Fx.mk C 35 2) (sr (sr (ca (sr (sl (sr (sr (sr (N0 Tryz.f113))))))))) (X0 [(0, .ref 0 0), (4, .d (.str value))]) [.bld 1 86, .buf 5 x2] (Am.Then (Fx.mk C 35 2) (sr (sr (sr (sr (N0 Tryz.f113))))) (Am.Ends (Fx.mk C 35 2) Tryz.f113.results.toList (fun x H' => H' = [.bld 1 86, .buf 5 res] ∧ x = .tup [])))
theorem Yj {x2 : Str} {value : Str} {res : Str} (hh : U3 x2 value = some res) : Ov x2 value res := by
  unfold U3 at hh
  obtain ⟨c5, hh⟩ := O0 hh
  obtain ⟨x4, hx4, hh⟩ := bs' hh
  obtain ⟨x5, hx5, hh⟩ := bs' hh
  refine R' rfl rfl (q' rfl (q' rfl (q' rfl (q' rfl (qc' rfl c5 (J0.g [0, 1] rfl (K0 hx4) ⟨.rfl, ⟨.rfl, trivial⟩⟩ rfl ⟨rfl, ⟨rfl, trivial⟩⟩ rfl rfl (n' (R' rfl rfl (q' rfl (q' rfl (q' rfl (J0.g [0, 1] rfl (K0 hx5) ⟨.rfl, ⟨.rfl, trivial⟩⟩ rfl ⟨rfl, ⟨rfl, trivial⟩⟩ rfl rfl (n' ?_)))))))))))))
  obtain rfl := oi' hh
  exact ⟨_, _, [.bld 1 86, .buf 5 x5.2], rfl, .rfl, ⟨⟨rfl, Nat.le_of_ble_eq_true rfl⟩, ⟨rfl, trivial⟩⟩, rfl, rfl, rfl, rfl⟩
def E5 (d : E0) (b : Str) : Option Str :=
  F0 [118, 97, 114, 32] b >>= fun x1 =>
  A3 d.Name d.TypeV x1.2 >>= fun x2 =>
  if (d.Init != 0) = true then
    Gh d.Init >>= fun x3 =>
    if (d.TypeV.Kind == 0) = true then
      U3 x2 [116, 114, 117, 101]
    else
      U3 x2 x3
  else
    F0 [59, 10] x2 >>= fun x5 =>
    some x5.2
abbrev Gy (d : E0) (b : Str) (res : Str) : Prop := R0 C 113 [.ref 0 0, .agg (E0.cells d)] [.bld 1 86, .buf 5 b] (fun x H' => H' = [.bld 1 86, .buf 5 res] ∧ x = .tup [])
theorem Cn {d : E0} {b : Str} {res : Str} (hh : E5 d b = some res) : Gy d b res := by
  unfold E5 at hh
  refine R0.intro hC Tryz.func113 rfl rfl rfl ?_
  obtain ⟨x1, hx1, hh⟩ := bs' hh
  obtain ⟨x2, hx2, hh⟩ := bs' hh
  refine s' rfl rfl (J0.n hC rfl (n' (s' rfl rfl (q' rfl (q' rfl (q' rfl (J0.g [0, 1] rfl (K0 hx1) ⟨.rfl, ⟨.rfl, trivial⟩⟩ rfl ⟨rfl, ⟨rfl, trivial⟩⟩ rfl rfl (n' (s' rfl rfl (q' rfl (q' rfl (q' rfl (q' rfl ?_)))))))))))))
  refine q' rfl (J0.g [0, 1] rfl (Q7 hx2) ⟨.rfl, ⟨.rfl, ⟨.rfl, trivial⟩⟩⟩ rfl ⟨rfl, ⟨rfl, trivial⟩⟩ rfl rfl (n' (S' (s' rfl rfl (q' rfl (q' rfl (q' rfl (n' ?_))))))))
  refine ci' rfl hh (fun hh => ?_) (fun hh => ?_)
  · obtain ⟨x3, hx3, hh⟩ := bs' hh
    refine s' rfl rfl (q' rfl (q' rfl (J0.c rfl rfl (Xg hx3) (q' rfl (n' (S' (s' rfl rfl (q' rfl (q' rfl (q' rfl (q' rfl (n' ?_))))))))))))
    refine ci' rfl hh (fun hh => ?_) (fun hh => ?_)
    · refine R' rfl rfl (q' rfl (n' ?_))
      refine AEx.wk ?_ (Yj hh)
      exact ⟨⟨⟨.rfl, rfl⟩, ⟨⟨.rfl, rfl⟩, trivial⟩⟩, ⟨⟨rfl, Nat.le_of_ble_eq_true rfl⟩, ⟨rfl, trivial⟩⟩, rfl⟩
    refine sk' ?_
    refine AEx.wk ?_ (Yj hh)
    exact ⟨⟨⟨.rfl, rfl⟩, ⟨⟨.rfl, rfl⟩, trivial⟩⟩, ⟨⟨rfl, Nat.le_of_ble_eq_true rfl⟩, ⟨rfl, trivial⟩⟩, rfl⟩
  obtain ⟨x5, hx5, hh⟩ := bs' hh
  refine sk' (R' rfl rfl (q' rfl (q' rfl (q' rfl (J0.g [0, 1] rfl (K0 hx5) ⟨.rfl, ⟨.rfl, trivial⟩⟩ rfl ⟨rfl, ⟨rfl, trivial⟩⟩ rfl rfl (n' ?_))))))
  obtain rfl := oi' hh
  exact ⟨_, _, [.bld 1 86, .buf 5 x5.2], rfl, .rfl, ⟨⟨rfl, Nat.le_of_ble_eq_true rfl⟩, ⟨rfl, trivial⟩⟩, rfl, rfl, rfl, rfl⟩
mutual
def X2 (s : B0) (b1 : Str) (v163 : Int) : Option Str :=
  if (decide (v163 < ((s.Numbers).length : Int))) = true then
    idx s.Numbers v163 >>= fun x25 =>
    if (decide (v163 > 0)) = true then
      F0 [44, 32] b1 >>= fun x28 =>
      M4 s x28.2 x25 v163
    else
      M4 s b1 x25 v163
  else
    F0 [59] b1 >>= fun x13 =>
    some x13.2
  partial_fixpoint
def M4 (s : B0) (b11 : Str) (x25 : Int) (v1631 : Int) : Option Str :=
  Gh x25 >>= fun x26 =>
  F0 x26 b11 >>= fun x27 =>
  X2 s x27.2 (IntKind.i64.wrap (v1631 + 1))
  partial_fixpoint
end
abbrev Wh (s : B0) (b1 : Str) (v163 : Int) (res : Str) : Prop := Q0 (Fx.mk C 185 2) (lo (bk (sr (sr (ca (sr (cb (sr (cb (sr (cb (sr (cb (sr (cb (sr (cb (sr (cb (sr (cb (sr (bk (sr (sl (sr (N0 Tryz.f117))))))))))))))))))))))))))) (X0 [(0, .ref 0 0), (161, .d (.sl (ei64.rows s.Numbers))), (162, .d (.int .i64 ((s.Numbers).length : Int))), (163, .d (.int .i64 v163))]) [.bld 1 86, .buf 5 b1] (Am.InBlock 1 (Am.InBlock 0 (Am.Then (Fx.mk C 185 2) (sr (sr (N0 Tryz.f117))) (Am.Ends (Fx.mk C 185 2) Tryz.f117.results.toList (fun x H' => H' = [.bld 1 86, .buf 5 res] ∧ x = .tup [])))))
abbrev Xh (s : B0) (b11 : Str) (x25 : Int) (v1631 : Int) (res : Str) : Prop := AEx (Fx.mk C 185 2) (sr (sr (bk (sl (sr (sr (lo (bk (sr (sr (ca (sr (cb (sr (cb (sr (cb (sr (cb (sr (cb (sr (cb (sr (cb (sr (cb (sr (bk (sr (sl (sr (N0 Tryz.f117))))))))))))))))))))))))))))))))) (X0 [(0, .ref 0 0), (7, .d (.int .i64 x25)), (161, .d (.sl (ei64.rows s.Numbers))), (162, .d (.int .i64 ((s.Numbers).length : Int))), (163, .d (.int .i64 v1631))]) [.bld 1 86, .buf 5 b11] (Am.InBlock 2 (Am.Then (Fx.mk C 185 2) (sr (sr (sr (lo (bk (sr (sr (ca (sr (cb (sr (cb (sr (cb (sr (cb (sr (cb (sr (cb (sr (cb (sr (cb (sr (bk (sr (sl (sr (N0 Tryz.f117)))))))))))))))))))))))))))))) (Am.Again (Fx.mk C 185 2) (lo (bk (sr (sr (ca (sr (cb (sr (cb (sr (cb (sr (cb (sr (cb (sr (cb (sr (cb (sr (cb (sr (bk (sr (sl (sr (N0 Tryz.f117))))))))))))))))))))))))))) (Am.InBlock 1 (Am.InBlock 0 (Am.Then (Fx.mk C 185 2) (sr (sr (N0 Tryz.f117))) (Am.Ends (Fx.mk C 185 2) Tryz.f117.results.toList (fun x H' => H' = [.bld 1 86, .buf 5 res] ∧ x = .tup []))))))))
theorem Dn (s : B0) : (∀ (b1 : Str) (v163 : Int) (res : Str), X2 s b1 v163 = some res → Wh s b1 v163 res) ∧
    (∀ (b11 : Str) (x25 : Int) (v1631 : Int) (res : Str), M4 s b11 x25 v1631 = some res → Xh s b11 x25 v1631 res) := by
  refine X2.mutual_partial_correctness s
    (fun b1 v163 res => Wh s b1 v163 res)
    (fun b11 x25 v1631 res => Xh s b11 x25 v1631 res) ?_ ?_
  · intro g1 ih1 b1 v163 res hh
    refine Q0.unroll ?_
    refine s' rfl rfl (q' rfl (n' (S' ?_)))
    refine ci' rfl hh (fun hh => ?_) (fun hh => ?_)
    · obtain ⟨x25, hx25, hh⟩ := bs' hh
      refine sk' (S' (AEx.block (s' rfl rfl (q' rfl (i' rfl (V0 hx25) (ei64.idx hx25) rfl (q' rfl (q' rfl (q' rfl (n' (S' (s' rfl rfl (q' rfl (q' rfl ?_)))))))))))))
      refine n' ?_
      refine ci' rfl hh (fun hh => ?_) (fun hh => ?_)
      · obtain ⟨x28, hx28, hh⟩ := bs' hh
        refine R' rfl rfl (q' rfl (q' rfl (q' rfl (J0.g [0, 1] rfl (K0 hx28) ⟨.rfl, ⟨.rfl, trivial⟩⟩ rfl ⟨rfl, ⟨rfl, trivial⟩⟩ rfl rfl (n' ?_)))))
        refine AEx.wk ?_ (ih1 _ _ _ _ hh)
        exact ⟨⟨⟨.rfl, rfl⟩, ⟨⟨.rfl, rfl⟩, ⟨⟨.rfl, rfl⟩, ⟨⟨.rfl, rfl⟩, ⟨⟨.rfl, rfl⟩, trivial⟩⟩⟩⟩⟩, ⟨⟨rfl, Nat.le_of_ble_eq_true rfl⟩, ⟨rfl, trivial⟩⟩, rfl⟩
      refine sk' ?_
      refine AEx.wk ?_ (ih1 _ _ _ _ hh)
      exact ⟨⟨⟨.rfl, rfl⟩, ⟨⟨.rfl, rfl⟩, ⟨⟨.rfl, rfl⟩, ⟨⟨.rfl, rfl⟩, ⟨⟨.rfl, rfl⟩, trivial⟩⟩⟩⟩⟩, ⟨⟨rfl, Nat.le_of_ble_eq_true rfl⟩, ⟨rfl, trivial⟩⟩, rfl⟩
    obtain ⟨x13, hx13, hh⟩ := bs' hh
    refine ex' (R' rfl rfl (q' rfl (q' rfl (q' rfl (J0.g [0, 1] rfl (K0 hx13) ⟨.rfl, ⟨.rfl, trivial⟩⟩ rfl ⟨rfl, ⟨rfl, trivial⟩⟩ rfl rfl (n' ?_))))))
    obtain rfl := oi' hh
    exact ⟨_, _, [.bld 1 86, .buf 5 x13.2], rfl, .rfl, ⟨⟨rfl, Nat.le_of_ble_eq_true rfl⟩, ⟨rfl, trivial⟩⟩, rfl, rfl, rfl, rfl⟩
  · intro g0 ih0 b11 x25 v1631 res hh
    obtain ⟨x26, hx26, hh⟩ := bs' hh
    obtain ⟨x27, hx27, hh⟩ := bs' hh
    refine AEx.draw hC 5 rfl rfl rfl (Q' rfl (Q' rfl (Q' rfl (Q' rfl (AQ.c rfl rfl (Xg hx26) (Qn' (J0.g [0, 1] rfl (K0 hx27) ⟨.rfl, ⟨.rfl, trivial⟩⟩ rfl ⟨rfl, ⟨rfl, trivial⟩⟩ rfl rfl (n' (R' rfl rfl (q' rfl (q' rfl (n' ?_))))))))))))
    refine Q0.wk ?_ (ih0 _ _ _ hh)
    exact ⟨⟨⟨.rfl, rfl⟩, ⟨⟨.rfl, rfl⟩, ⟨⟨.rfl, rfl⟩, ⟨⟨.rfl, rfl⟩, trivial⟩⟩⟩⟩, ⟨⟨rfl, Nat.le_of_ble_eq_true rfl⟩, ⟨rfl, trivial⟩⟩, rfl⟩
theorem Hy {s : B0} {b1 : Str} {v163 : Int} {res : Str} (hh : X2 s b1 v163 = some res) : Wh s b1 v163 res := (Dn s).1 _ _ _ hh
theorem W1e {s : B0} {b11 : Str} {x25 : Int} {v1631 : Int} {res : Str} (hh : M4 s b11 x25 v1631 = some res) : Xh s b11 x25 v1631 res := (Dn s).2 _ _ _ _ hh
mutual
def B3 (l : List B0) (margin : Str) (b : Str) : Option Str :=
  F3 l margin b 0
  partial_fixpoint
def F3 (l : List B0) (margin : Str) (b1 : Str) (v10 : Int) : Option Str :=
  if (decide (v10 < ((l).length : Int))) = true then
    idx l v10 >>= fun x1 =>
    F0 margin b1 >>= fun x2 =>
    X1 x1 margin x2.2 >>= fun x3 =>
    F0 [10] x3 >>= fun x4 =>
    F3 l margin x4.2 (IntKind.i64.wrap (v10 + 1))
  else
    some b1
  partial_fixpoint
def X1 (s : B0) (margin : Str) (b : Str) : Option Str :=
  if (s.Verb == 5) = true then
    F0 [105, 102, 32] b >>= fun x1 =>
    U0 s.Value x1.2 >>= fun x2 =>
    Q3 s.Then margin x2 >>= fun x29 =>
    if (decide (((s.Else).length : Int) > 0)) = true then
      F0 [32, 101, 108, 115, 101] x29 >>= fun x30 =>
      Q3 s.Else margin x30.2 >>= fun x31 =>
      some x31
    else
      some x29
  else
    if (s.Verb == 6) = true then
      F0 [119, 104, 105, 108, 101, 32] b >>= fun x3 =>
      U0 s.Value x3.2 >>= fun x4 =>
      Gh s.NV >>= fun x5 =>
      if (decide (7 + x5.length ≤ maxLen)) = true then
        F0 ([32, 108, 105, 109, 105, 116, 32] ++ x5) x4 >>= fun x6 =>
        Q3 s.Then margin x6.2 >>= fun x32 =>
        some x32
      else none
    else
      if (s.Verb == 7) = true then
        if (decide (4 + s.Name.length ≤ maxLen)) = true then
          if (decide (([102, 111, 114, 32] ++ s.Name).length + 3 ≤ maxLen)) = true then
            Gh s.Low >>= fun x7 =>
            if (decide ((([102, 111, 114, 32] ++ s.Name) ++ [32, 61, 32]).length + x7.length ≤ maxLen)) = true then
              if (decide (((([102, 111, 114, 32] ++ s.Name) ++ [32, 61, 32]) ++ x7).length + 4 ≤ maxLen)) = true then
                Gh s.High >>= fun x8 =>
                if (decide ((((([102, 111, 114, 32] ++ s.Name) ++ [32, 61, 32]) ++ x7) ++ [32, 116, 111, 32]).length + x8.length ≤ maxLen)) = true then
                  F0 ((((([102, 111, 114, 32] ++ s.Name) ++ [32, 61, 32]) ++ x7) ++ [32, 116, 111, 32]) ++ x8) b >>= fun x9 =>
                  Q3 s.Then margin x9.2 >>= fun x33 =>
                  some x33
                else none
              else none
            else none
          else none
        else none
      else
        if (s.Verb == 0) = true then
          U0 s.Place b >>= fun x10 =>
          F0 [32, 61, 32] x10 >>= fun x11 =>
          U0 s.Value x11.2 >>= fun x12 =>
          F0 [59] x12 >>= fun x13 =>
          some x13.2
        else
          if (s.Verb == 1) = true then
            U0 s.Place b >>= fun x14 =>
            if (decide (8 + s.Name.length ≤ maxLen)) = true then
              if (decide (([32, 61, 32, 99, 97, 108, 108, 32] ++ s.Name).length + 1 ≤ maxLen)) = true then
                F0 (([32, 61, 32, 99, 97, 108, 108, 32] ++ s.Name) ++ [40]) x14 >>= fun x15 =>
                W3 s.Args x15.2 >>= fun x16 =>
                F0 [41] x16 >>= fun x17 =>
                F0 [59] x17.2 >>= fun x13 =>
                some x13.2
              else none
            else none
          else
            if (s.Verb == 2) = true then
              U0 s.Place b >>= fun x18 =>
              if (decide (11 + s.Name.length ≤ maxLen)) = true then
                F0 ([32, 61, 32, 114, 101, 108, 101, 97, 115, 101, 32] ++ s.Name) x18 >>= fun x19 =>
                F0 [59] x19.2 >>= fun x13 =>
                some x13.2
              else none
            else
              if (s.Verb == 3) = true then
                F0 [111, 117, 116, 112, 117, 116, 32] b >>= fun x20 =>
                U0 s.Value x20.2 >>= fun x21 =>
                F0 [59] x21 >>= fun x13 =>
                some x13.2
              else
                if (s.Verb == 4) = true then
                  Gh s.NV >>= fun x22 =>
                  if (decide (5 + x22.length ≤ maxLen)) = true then
                    F0 ([119, 97, 105, 116, 32] ++ x22) b >>= fun x23 =>
                    F0 [59] x23.2 >>= fun x13 =>
                    some x13.2
                  else none
                else
                  if (s.Verb == 8) = true then
                    F0 [115, 101, 116, 116, 108, 101, 32] b >>= fun x24 =>
                    X2 s x24.2 0
                  else
                    F0 [59] b >>= fun x13 =>
                    some x13.2
  partial_fixpoint
def Q3 (l : List B0) (margin : Str) (b : Str) : Option Str :=
  F0 [32, 123, 10] b >>= fun x1 =>
  if (decide (margin.length + 1 ≤ maxLen)) = true then
    B3 l (margin ++ [9]) x1.2 >>= fun x2 =>
    if (decide (margin.length + 1 ≤ maxLen)) = true then
      F0 (margin ++ [125]) x2 >>= fun x3 =>
      some x3.2
    else none
  else none
  partial_fixpoint
end
abbrev Qj (l : List B0) (margin : Str) (b : Str) (res : Str) : Prop := R0 C 55 [.ref 0 0, .d (.sl (B0.rows l)), .d (.str margin)] [.bld 1 86, .buf 5 b] (fun x H' => H' = [.bld 1 86, .buf 5 res] ∧ x = .tup [])
abbrev Rg (l : List B0) (margin : Str) (b1 : Str) (v10 : Int) (res : Str) : Prop := Q0 (Fx.mk C 28 2) (lo (bk (sr (N0 Tryz.f55)))) (X0 [(0, .ref 0 0), (2, .d (.str margin)), (8, .d (.sl (B0.rows l))), (9, .d (.int .i64 ((l).length : Int))), (10, .d (.int .i64 v10))]) [.bld 1 86, .buf 5 b1] (Am.InBlock 0 (Am.Ends (Fx.mk C 28 2) Tryz.f55.results.toList (fun x H' => H' = [.bld 1 86, .buf 5 res] ∧ x = .tup [])))
abbrev Zk (s : B0) (margin : Str) (b : Str) (res : Str) : Prop := R0 C 117 [.ref 0 0, .agg (B0.cells s), .d (.str margin)] [.bld 1 86, .buf 5 b] (fun x H' => H' = [.bld 1 86, .buf 5 res] ∧ x = .tup [])
abbrev Rj (l : List B0) (margin : Str) (b : Str) (res : Str) : Prop := R0 C 156 [.ref 0 0, .d (.sl (B0.rows l)), .d (.str margin)] [.bld 1 86, .buf 5 b] (fun x H' => H' = [.bld 1 86, .buf 5 res] ∧ x = .tup [])
theorem Nd : (∀ (l : List B0) (margin : Str) (b : Str) (res : Str), B3 l margin b = some res → Qj l margin b res) ∧
    (∀ (l : List B0) (margin : Str) (b1 : Str) (v10 : Int) (res : Str), F3 l margin b1 v10 = some res → Rg l margin b1 v10 res) ∧
    (∀ (s : B0) (margin : Str) (b : Str) (res : Str), X1 s margin b = some res → Zk s margin b res) ∧
    (∀ (l : List B0) (margin : Str) (b : Str) (res : Str), Q3 l margin b = some res → Rj l margin b res) := by
  refine B3.mutual_partial_correctness (fun l margin b res => Qj l margin b res)
    (fun l margin b1 v10 res => Rg l margin b1 v10 res)
    (fun s margin b res => Zk s margin b res)
    (fun l margin b res => Rj l margin b res) ?_ ?_ ?_ ?_
  · intro g1 ih1 l margin b res hh
    refine R0.intro hC Tryz.func55 rfl rfl rfl ?_
    refine s' rfl rfl (q' rfl (qe' rfl trivial (B0.lenA _) (q' rfl (n' (AEx.block ?_)))))
    refine AEx.ofLoop ?_
    refine Q0.wk ?_ (ih1 _ _ _ _ _ hh)
    exact ⟨⟨⟨.rfl, rfl⟩, ⟨⟨.rfl, rfl⟩, ⟨⟨.rfl, rfl⟩, ⟨⟨.rfl, rfl⟩, ⟨⟨.rfl, rfl⟩, trivial⟩⟩⟩⟩⟩, ⟨⟨rfl, Nat.le_of_ble_eq_true rfl⟩, ⟨rfl, trivial⟩⟩, rfl⟩
  · intro g1 g2 ih1 ih2 l margin b1 v10 res hh
    refine Q0.unroll ?_
    refine s' rfl rfl (q' rfl (n' (S' ?_)))
    refine ci' rfl hh (fun hh => ?_) (fun hh => ?_)
    · obtain ⟨x1, hx1, hh⟩ := bs' hh
      obtain ⟨x2, hx2, hh⟩ := bs' hh
      obtain ⟨x3, hx3, hh⟩ := bs' hh
      obtain ⟨x4, hx4, hh⟩ := bs' hh
      refine sk' (S' (AEx.block (s' rfl rfl (i' rfl (V0 hx1) (B0.idx hx1) rfl (q' rfl (J0.nf hC rfl (J0.s hC rfl (n' (s' rfl rfl (q' rfl (q' rfl (q' rfl (q' rfl ?_)))))))))))))
      refine J0.g [0, 1] rfl (K0 hx2) ⟨.rfl, ⟨.rfl, trivial⟩⟩ rfl ⟨rfl, ⟨rfl, trivial⟩⟩ rfl rfl (n' (s' rfl rfl (q' rfl (q' rfl (q' rfl (J0.g [0, 1] rfl (ih2 _ _ _ _ hx3) ⟨.rfl, ⟨.rfl, ⟨.rfl, trivial⟩⟩⟩ rfl ⟨rfl, ⟨rfl, trivial⟩⟩ rfl rfl (n' (R' rfl rfl (q' rfl (q' rfl (q' rfl (J0.g [0, 1] rfl (K0 hx4) ⟨.rfl, ⟨.rfl, trivial⟩⟩ rfl ⟨rfl, ⟨rfl, trivial⟩⟩ rfl rfl (n' ?_)))))))))))))
      refine R' rfl rfl (q' rfl (q' rfl (n' ?_)))
      refine Q0.wk ?_ (ih1 _ _ _ _ _ hh)
      exact ⟨⟨⟨.rfl, rfl⟩, ⟨⟨.rfl, rfl⟩, ⟨⟨.rfl, rfl⟩, ⟨⟨.rfl, rfl⟩, ⟨⟨.rfl, rfl⟩, trivial⟩⟩⟩⟩⟩, ⟨⟨rfl, Nat.le_of_ble_eq_true rfl⟩, ⟨rfl, trivial⟩⟩, rfl⟩
    refine ex' ?_
    obtain rfl := oi' hh
    exact ⟨_, _, [.bld 1 86, .buf 5 b1], rfl, .rfl, ⟨⟨rfl, Nat.le_of_ble_eq_true rfl⟩, ⟨rfl, trivial⟩⟩, rfl, rfl, rfl, rfl⟩
  · intro g3 ih3 s margin b res hh
    refine R0.intro hC Tryz.func117 rfl rfl rfl ?_
    refine s' rfl rfl (J0.n hC rfl (n' (S' (s' rfl rfl (q' rfl (q' rfl (n' (AEx.block (s' rfl rfl (q' rfl (q' rfl (n' ?_))))))))))))
    refine ci' rfl hh (fun hh => ?_) (fun hh => ?_)
    · obtain ⟨x1, hx1, hh⟩ := bs' hh
      obtain ⟨x2, hx2, hh⟩ := bs' hh
      obtain ⟨x29, hx29, hh⟩ := bs' hh
      refine s' rfl rfl (q' rfl (q' rfl (q' rfl (J0.g [0, 1] rfl (K0 hx1) ⟨.rfl, ⟨.rfl, trivial⟩⟩ rfl ⟨rfl, ⟨rfl, trivial⟩⟩ rfl rfl (n' (s' rfl rfl (q' rfl (q' rfl (q' rfl (J0.g [0, 1] rfl (J3 hx2) ⟨.rfl, ⟨.rfl, trivial⟩⟩ rfl ⟨rfl, ⟨rfl, trivial⟩⟩ rfl rfl (n' (s' rfl rfl (q' rfl ?_)))))))))))))
      refine q' rfl (q' rfl (q' rfl (J0.g [0, 1] rfl (ih3 _ _ _ _ hx29) ⟨.rfl, ⟨.rfl, ⟨.rfl, trivial⟩⟩⟩ rfl ⟨rfl, ⟨rfl, trivial⟩⟩ rfl rfl (n' (S' (s' rfl rfl (q' rfl (q' rfl (qe' rfl trivial (B0.lenA _) (q' rfl (n' ?_)))))))))))
      refine ci' rfl hh (fun hh => ?_) (fun hh => ?_)
      · obtain ⟨x30, hx30, hh⟩ := bs' hh
        obtain ⟨x31, hx31, hh⟩ := bs' hh
        refine s' rfl rfl (q' rfl (q' rfl (q' rfl (J0.g [0, 1] rfl (K0 hx30) ⟨.rfl, ⟨.rfl, trivial⟩⟩ rfl ⟨rfl, ⟨rfl, trivial⟩⟩ rfl rfl (n' (R' rfl rfl (q' rfl (q' rfl (q' rfl (q' rfl (J0.g [0, 1] rfl (ih3 _ _ _ _ hx31) ⟨.rfl, ⟨.rfl, ⟨.rfl, trivial⟩⟩⟩ rfl ⟨rfl, ⟨rfl, trivial⟩⟩ rfl rfl (n' (re' ?_)))))))))))))
        obtain rfl := oi' hh
        exact ⟨_, _, [.bld 1 86, .buf 5 x31], rfl, .rfl, ⟨⟨rfl, Nat.le_of_ble_eq_true rfl⟩, ⟨rfl, trivial⟩⟩, rfl, rfl, rfl, rfl⟩
      refine sk' (re' ?_)
      obtain rfl := oi' hh
      exact ⟨_, _, [.bld 1 86, .buf 5 x29], rfl, .rfl, ⟨⟨rfl, Nat.le_of_ble_eq_true rfl⟩, ⟨rfl, trivial⟩⟩, rfl, rfl, rfl, rfl⟩
    refine s' rfl rfl (q' rfl (q' rfl (n' ?_)))
    refine ci' rfl hh (fun hh => ?_) (fun hh => ?_)
    · obtain ⟨x3, hx3, hh⟩ := bs' hh
      obtain ⟨x4, hx4, hh⟩ := bs' hh
      obtain ⟨x5, hx5, hh⟩ := bs' hh
      obtain ⟨c71, hh⟩ := O0 hh
      obtain ⟨x6, hx6, hh⟩ := bs' hh
      obtain ⟨x32, hx32, hh⟩ := bs' hh
      refine s' rfl rfl (q' rfl (q' rfl (q' rfl (J0.g [0, 1] rfl (K0 hx3) ⟨.rfl, ⟨.rfl, trivial⟩⟩ rfl ⟨rfl, ⟨rfl, trivial⟩⟩ rfl rfl (n' (s' rfl rfl (q' rfl (q' rfl (q' rfl (J0.g [0, 1] rfl (J3 hx4) ⟨.rfl, ⟨.rfl, trivial⟩⟩ rfl ⟨rfl, ⟨rfl, trivial⟩⟩ rfl rfl (n' (S' (AEx.draw hC 7 rfl rfl rfl ?_)))))))))))))
      iterate 5 refine Q' rfl ?_
      refine AQ.c rfl rfl (Xg hx5) (AQ.q hC rfl c71 (Qn' (J0.g [0, 1] rfl (K0 hx6) ⟨.rfl, ⟨.rfl, trivial⟩⟩ rfl ⟨rfl, ⟨rfl, trivial⟩⟩ rfl rfl (n' (s' rfl rfl (q' rfl (q' rfl (q' rfl (q' rfl (J0.g [0, 1] rfl (ih3 _ _ _ _ hx32) ⟨.rfl, ⟨.rfl, ⟨.rfl, trivial⟩⟩⟩ rfl ⟨rfl, ⟨rfl, trivial⟩⟩ rfl rfl (n' (re' ?_))))))))))))
      obtain rfl := oi' hh
      exact ⟨_, _, [.bld 1 86, .buf 5 x32], rfl, .rfl, ⟨⟨rfl, Nat.le_of_ble_eq_true rfl⟩, ⟨rfl, trivial⟩⟩, rfl, rfl, rfl, rfl⟩
    refine s' rfl rfl (q' rfl (q' rfl (n' ?_)))
    refine ci' rfl hh (fun hh => ?_) (fun hh => ?_)
    · obtain ⟨c72, hh⟩ := O0 hh
      obtain ⟨c73, hh⟩ := O0 hh
      obtain ⟨x7, hx7, hh⟩ := bs' hh
      obtain ⟨c74, hh⟩ := O0 hh
      obtain ⟨c75, hh⟩ := O0 hh
      obtain ⟨x8, hx8, hh⟩ := bs' hh
      obtain ⟨c76, hh⟩ := O0 hh
      obtain ⟨x9, hx9, hh⟩ := bs' hh
      obtain ⟨x33, hx33, hh⟩ := bs' hh
      refine S' (AEx.draw hC 16 rfl rfl rfl (Q' rfl (Q' rfl (Q' rfl (Q' rfl (Q' rfl (AQ.q hC rfl c72 (AQ.q hC rfl c73 (Q' rfl (Q' rfl (AQ.c rfl rfl (Xg hx7) (AQ.q hC rfl c74 (AQ.q hC rfl c75 ?_)))))))))))))
      refine Q' rfl (Q' rfl (AQ.c rfl rfl (Xg hx8) (AQ.q hC rfl c76 (Qn' (J0.g [0, 1] rfl (K0 hx9) ⟨.rfl, ⟨.rfl, trivial⟩⟩ rfl ⟨rfl, ⟨rfl, trivial⟩⟩ rfl rfl (n' (s' rfl rfl (q' rfl (q' rfl (q' rfl (q' rfl (J0.g [0, 1] rfl (ih3 _ _ _ _ hx33) ⟨.rfl, ⟨.rfl, ⟨.rfl, trivial⟩⟩⟩ rfl ⟨rfl, ⟨rfl, trivial⟩⟩ rfl rfl (n' ?_)))))))))))))
      refine re' ?_
      obtain rfl := oi' hh
      exact ⟨_, _, [.bld 1 86, .buf 5 x33], rfl, .rfl, ⟨⟨rfl, Nat.le_of_ble_eq_true rfl⟩, ⟨rfl, trivial⟩⟩, rfl, rfl, rfl, rfl⟩
    refine s' rfl rfl (q' rfl (q' rfl (n' ?_)))
    refine ci' rfl hh (fun hh => ?_) (fun hh => ?_)
    · obtain ⟨x10, hx10, hh⟩ := bs' hh
      obtain ⟨x11, hx11, hh⟩ := bs' hh
      obtain ⟨x12, hx12, hh⟩ := bs' hh
      obtain ⟨x13, hx13, hh⟩ := bs' hh
      refine s' rfl rfl (q' rfl (q' rfl (q' rfl (J0.g [0, 1] rfl (J3 hx10) ⟨.rfl, ⟨.rfl, trivial⟩⟩ rfl ⟨rfl, ⟨rfl, trivial⟩⟩ rfl rfl (n' (s' rfl rfl (q' rfl (q' rfl (q' rfl (J0.g [0, 1] rfl (K0 hx11) ⟨.rfl, ⟨.rfl, trivial⟩⟩ rfl ⟨rfl, ⟨rfl, trivial⟩⟩ rfl rfl (n' (R' rfl rfl (q' rfl ?_)))))))))))))
      refine q' rfl (q' rfl (J0.g [0, 1] rfl (J3 hx12) ⟨.rfl, ⟨.rfl, trivial⟩⟩ rfl ⟨rfl, ⟨rfl, trivial⟩⟩ rfl rfl (n' (R' rfl rfl (q' rfl (q' rfl (q' rfl (J0.g [0, 1] rfl (K0 hx13) ⟨.rfl, ⟨.rfl, trivial⟩⟩ rfl ⟨rfl, ⟨rfl, trivial⟩⟩ rfl rfl (n' ?_)))))))))
      obtain rfl := oi' hh
      exact ⟨_, _, [.bld 1 86, .buf 5 x13.2], rfl, .rfl, ⟨⟨rfl, Nat.le_of_ble_eq_true rfl⟩, ⟨rfl, trivial⟩⟩, rfl, rfl, rfl, rfl⟩
    refine s' rfl rfl (q' rfl (q' rfl (n' ?_)))
    refine ci' rfl hh (fun hh => ?_) (fun hh => ?_)
    · obtain ⟨x14, hx14, hh⟩ := bs' hh
      obtain ⟨c77, hh⟩ := O0 hh
      obtain ⟨c78, hh⟩ := O0 hh
      obtain ⟨x15, hx15, hh⟩ := bs' hh
      obtain ⟨x16, hx16, hh⟩ := bs' hh
      obtain ⟨x17, hx17, hh⟩ := bs' hh
      obtain ⟨x13, hx13, hh⟩ := bs' hh
      refine s' rfl rfl (q' rfl (q' rfl (q' rfl (J0.g [0, 1] rfl (J3 hx14) ⟨.rfl, ⟨.rfl, trivial⟩⟩ rfl ⟨rfl, ⟨rfl, trivial⟩⟩ rfl rfl (n' (S' (AEx.draw hC 7 rfl rfl rfl (Q' rfl (Q' rfl (Q' rfl (Q' rfl (Q' rfl (AQ.q hC rfl c77 ?_)))))))))))))
      refine AQ.q hC rfl c78 (Qn' (J0.g [0, 1] rfl (K0 hx15) ⟨.rfl, ⟨.rfl, trivial⟩⟩ rfl ⟨rfl, ⟨rfl, trivial⟩⟩ rfl rfl (n' (s' rfl rfl (q' rfl (q' rfl (q' rfl (J0.g [0, 1] rfl (Q10 hx16) ⟨.rfl, ⟨.rfl, trivial⟩⟩ rfl ⟨rfl, ⟨rfl, trivial⟩⟩ rfl rfl (n' (R' rfl rfl (q' rfl (q' rfl (q' rfl ?_)))))))))))))
      refine J0.g [0, 1] rfl (K0 hx17) ⟨.rfl, ⟨.rfl, trivial⟩⟩ rfl ⟨rfl, ⟨rfl, trivial⟩⟩ rfl rfl (n' (R' rfl rfl (q' rfl (q' rfl (q' rfl (J0.g [0, 1] rfl (K0 hx13) ⟨.rfl, ⟨.rfl, trivial⟩⟩ rfl ⟨rfl, ⟨rfl, trivial⟩⟩ rfl rfl (n' ?_)))))))
      obtain rfl := oi' hh
      exact ⟨_, _, [.bld 1 86, .buf 5 x13.2], rfl, .rfl, ⟨⟨rfl, Nat.le_of_ble_eq_true rfl⟩, ⟨rfl, trivial⟩⟩, rfl, rfl, rfl, rfl⟩
    refine s' rfl rfl (q' rfl (q' rfl (n' ?_)))
    refine ci' rfl hh (fun hh => ?_) (fun hh => ?_)
    · obtain ⟨x18, hx18, hh⟩ := bs' hh
      obtain ⟨c79, hh⟩ := O0 hh
      obtain ⟨x19, hx19, hh⟩ := bs' hh
      obtain ⟨x13, hx13, hh⟩ := bs' hh
      refine s' rfl rfl (q' rfl (q' rfl (q' rfl (J0.g [0, 1] rfl (J3 hx18) ⟨.rfl, ⟨.rfl, trivial⟩⟩ rfl ⟨rfl, ⟨rfl, trivial⟩⟩ rfl rfl (n' (AEx.draw hC 6 rfl rfl rfl (Q' rfl (Q' rfl (Q' rfl (Q' rfl (Q' rfl (AQ.q hC rfl c79 (Qn' ?_)))))))))))))
      refine J0.g [0, 1] rfl (K0 hx19) ⟨.rfl, ⟨.rfl, trivial⟩⟩ rfl ⟨rfl, ⟨rfl, trivial⟩⟩ rfl rfl (n' (R' rfl rfl (q' rfl (q' rfl (q' rfl (J0.g [0, 1] rfl (K0 hx13) ⟨.rfl, ⟨.rfl, trivial⟩⟩ rfl ⟨rfl, ⟨rfl, trivial⟩⟩ rfl rfl (n' ?_)))))))
      obtain rfl := oi' hh
      exact ⟨_, _, [.bld 1 86, .buf 5 x13.2], rfl, .rfl, ⟨⟨rfl, Nat.le_of_ble_eq_true rfl⟩, ⟨rfl, trivial⟩⟩, rfl, rfl, rfl, rfl⟩
    refine s' rfl rfl (q' rfl (q' rfl (n' ?_)))
    refine ci' rfl hh (fun hh => ?_) (fun hh => ?_)
    · obtain ⟨x20, hx20, hh⟩ := bs' hh
      obtain ⟨x21, hx21, hh⟩ := bs' hh
      obtain ⟨x13, hx13, hh⟩ := bs' hh
      refine s' rfl rfl (q' rfl (q' rfl (q' rfl (J0.g [0, 1] rfl (K0 hx20) ⟨.rfl, ⟨.rfl, trivial⟩⟩ rfl ⟨rfl, ⟨rfl, trivial⟩⟩ rfl rfl (n' (R' rfl rfl (q' rfl (q' rfl (q' rfl (J0.g [0, 1] rfl (J3 hx21) ⟨.rfl, ⟨.rfl, trivial⟩⟩ rfl ⟨rfl, ⟨rfl, trivial⟩⟩ rfl rfl (n' (R' rfl rfl (q' rfl ?_)))))))))))))
      refine q' rfl (q' rfl (J0.g [0, 1] rfl (K0 hx13) ⟨.rfl, ⟨.rfl, trivial⟩⟩ rfl ⟨rfl, ⟨rfl, trivial⟩⟩ rfl rfl (n' ?_)))
      obtain rfl := oi' hh
      exact ⟨_, _, [.bld 1 86, .buf 5 x13.2], rfl, .rfl, ⟨⟨rfl, Nat.le_of_ble_eq_true rfl⟩, ⟨rfl, trivial⟩⟩, rfl, rfl, rfl, rfl⟩
    refine s' rfl rfl (q' rfl (q' rfl (n' ?_)))
    refine ci' rfl hh (fun hh => ?_) (fun hh => ?_)
    · obtain ⟨x22, hx22, hh⟩ := bs' hh
      obtain ⟨c80, hh⟩ := O0 hh
      obtain ⟨x23, hx23, hh⟩ := bs' hh
      obtain ⟨x13, hx13, hh⟩ := bs' hh
      refine AEx.draw hC 7 rfl rfl rfl (Q' rfl (Q' rfl (Q' rfl (Q' rfl (Q' rfl (AQ.c rfl rfl (Xg hx22) (AQ.q hC rfl c80 (Qn' (J0.g [0, 1] rfl (K0 hx23) ⟨.rfl, ⟨.rfl, trivial⟩⟩ rfl ⟨rfl, ⟨rfl, trivial⟩⟩ rfl rfl (n' (R' rfl rfl (q' rfl (q' rfl ?_)))))))))))))
      refine q' rfl (J0.g [0, 1] rfl (K0 hx13) ⟨.rfl, ⟨.rfl, trivial⟩⟩ rfl ⟨rfl, ⟨rfl, trivial⟩⟩ rfl rfl (n' ?_))
      obtain rfl := oi' hh
      exact ⟨_, _, [.bld 1 86, .buf 5 x13.2], rfl, .rfl, ⟨⟨rfl, Nat.le_of_ble_eq_true rfl⟩, ⟨rfl, trivial⟩⟩, rfl, rfl, rfl, rfl⟩
    refine s' rfl rfl (q' rfl (q' rfl (n' ?_)))
    refine ci' rfl hh (fun hh => ?_) (fun hh => ?_)
    · obtain ⟨x24, hx24, hh⟩ := bs' hh
      refine s' rfl rfl (q' rfl (q' rfl (q' rfl (J0.g [0, 1] rfl (K0 hx24) ⟨.rfl, ⟨.rfl, trivial⟩⟩ rfl ⟨rfl, ⟨rfl, trivial⟩⟩ rfl rfl (n' (s' rfl rfl (q' rfl (q' rfl (qe' rfl trivial (ei64.lenA _) (q' rfl (n' (AEx.block ?_))))))))))))
      refine AEx.ofLoop ?_
      refine Q0.wk ?_ (Hy hh)
      exact ⟨⟨⟨.rfl, rfl⟩, ⟨⟨.rfl, rfl⟩, ⟨⟨.rfl, rfl⟩, ⟨⟨.rfl, rfl⟩, trivial⟩⟩⟩⟩, ⟨⟨rfl, Nat.le_of_ble_eq_true rfl⟩, ⟨rfl, trivial⟩⟩, rfl⟩
    obtain ⟨x13, hx13, hh⟩ := bs' hh
    refine sk' (R' rfl rfl (q' rfl (q' rfl (q' rfl (J0.g [0, 1] rfl (K0 hx13) ⟨.rfl, ⟨.rfl, trivial⟩⟩ rfl ⟨rfl, ⟨rfl, trivial⟩⟩ rfl rfl (n' ?_))))))
    obtain rfl := oi' hh
    exact ⟨_, _, [.bld 1 86, .buf 5 x13.2], rfl, .rfl, ⟨⟨rfl, Nat.le_of_ble_eq_true rfl⟩, ⟨rfl, trivial⟩⟩, rfl, rfl, rfl, rfl⟩
  · intro g0 ih0 l margin b res hh
    refine R0.intro hC Tryz.func156 rfl rfl rfl ?_
    obtain ⟨x1, hx1, hh⟩ := bs' hh
    obtain ⟨c6, hh⟩ := O0 hh
    obtain ⟨x2, hx2, hh⟩ := bs' hh
    obtain ⟨c7, hh⟩ := O0 hh
    obtain ⟨x3, hx3, hh⟩ := bs' hh
    refine s' rfl rfl (q' rfl (q' rfl (q' rfl (J0.g [0, 1] rfl (K0 hx1) ⟨.rfl, ⟨.rfl, trivial⟩⟩ rfl ⟨rfl, ⟨rfl, trivial⟩⟩ rfl rfl (n' (s' rfl rfl (q' rfl (q' rfl (q' rfl (qc' rfl c6 (J0.g [0, 1] rfl (ih0 _ _ _ _ hx2) ⟨.rfl, ⟨.rfl, ⟨.rfl, trivial⟩⟩⟩ rfl ⟨rfl, ⟨rfl, trivial⟩⟩ rfl rfl (n' (R' rfl rfl ?_)))))))))))))
    iterate 4 refine q' rfl ?_
    refine qc' rfl c7 (J0.g [0, 1] rfl (K0 hx3) ⟨.rfl, ⟨.rfl, trivial⟩⟩ rfl ⟨rfl, ⟨rfl, trivial⟩⟩ rfl rfl (n' ?_))
    obtain rfl := oi' hh
    exact ⟨_, _, [.bld 1 86, .buf 5 x3.2], rfl, .rfl, ⟨⟨rfl, Nat.le_of_ble_eq_true rfl⟩, ⟨rfl, trivial⟩⟩, rfl, rfl, rfl, rfl⟩
theorem Hq {l : List B0} {margin : Str} {b : Str} {res : Str} (hh : B3 l margin b = some res) : Qj l margin b res := (Nd).1 _ _ _ _ hh
theorem N1d {l : List B0} {margin : Str} {b1 : Str} {v10 : Int} {res : Str} (hh : F3 l margin b1 v10 = some res) : Rg l margin b1 v10 res := (Nd).2.1 _ _ _ _ _ hh
theorem P1j {s : B0} {margin : Str} {b : Str} {res : Str} (hh : X1 s margin b = some res) : Zk s margin b res := (Nd).2.2.1 _ _ _ _ hh
theorem U1i {l : List B0} {margin : Str} {b : Str} {res : Str} (hh : Q3 l margin b = some res) : Rj l margin b res := (Nd).2.2.2 _ _ _ _ hh
end Go.Proofs.YtmilgoloagbmpaaGreatDoor

