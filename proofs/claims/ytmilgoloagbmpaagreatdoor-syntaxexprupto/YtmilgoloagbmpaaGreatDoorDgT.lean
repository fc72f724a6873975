/- Data of the program, printed by gen.py. -/
import Derived.Test.YtmilgoloagbmpaaGreatDoorDrT
import Derived.Test.YtmilgoloagbmpaaGreatDoorAmY
set_option maxRecDepth 100000
set_option maxHeartbeats 4000000
set_option linter.unusedVariables false
namespace Go.Proofs.YtmilgoloagbmpaaGreatDoor
open Go.Am
instance : OkC C := ⟨hC⟩
def ebool.zero : Bool := false
def ebool.leaf (x : Bool) : D := .bool x
def ebool.cells (l : List Bool) : List A := l.map fun x => .d (ebool.leaf x)
def ebool.row (x : Bool) : Row := [.bool x]
def ebool.rows (l : List Bool) : List Row := l.map ebool.row
theorem ebool.rows_map (l : List Bool) : ebool.rows l = l.map ebool.row := rfl
theorem ebool.idx {l : List Bool} {n : Int} {x : Bool} (h : idx l n = some x) : (ebool.rows l)[n.toNat]? = some (ebool.row x) := rows_idx ebool.rows_map h
theorem ebool.app (l m : List Bool) : ebool.rows (l ++ m) = ebool.rows l ++ ebool.rows m := rows_app ebool.rows_map l m
theorem ebool.len (l : List Bool) : (ebool.rows l).length = l.length := rows_len ebool.rows_map l
theorem ebool.lenA (l : List Bool) : A.d (.int .i64 ((ebool.rows l).length : Nat)) = A.d (.int .i64 (l.length : Nat)) := rows_lenA ebool.rows_map l
theorem ebool.sz (l : List Bool) : ∀ r ∈ ebool.rows l, r.length = 1 := rows_sz ebool.rows_map (fun _ => rfl) l
theorem ebool.part {l x : List Bool} {a b : Int} (h : slc l a b = some x) : a = (a.toNat : Int) ∧ b = (b.toNat : Int) ∧ a.toNat ≤ b.toNat ∧ b.toNat ≤ (ebool.rows l).length ∧ ebool.rows x = ((ebool.rows l).take b.toNat).drop a.toNat := rows_part ebool.rows_map h
def ebool.ents (m : List (Str × Bool)) : List (Str × Row) := entsOf ebool.row m
def ebool.val (x : Bool) : A := .d (.bool x)
theorem ebool.lkT {k : Str} {m : List (Str × Bool)} {x : Option Bool} (hx : some (mgt k m) = some x) : lkA (mget k (ebool.ents m)) (ebool.val ebool.zero) true = .tup [ebool.val (x.getD ebool.zero), .d (.bool x.isSome)] := lk_T (h := ebool.val) (fun _ => rfl) rfl hx
theorem ebool.lk {k : Str} {m : List (Str × Bool)} {x : Option Bool} (hx : some (mgt k m) = some x) : lkA (mget k (ebool.ents m)) (ebool.val ebool.zero) false = ebool.val (x.getD ebool.zero) := lk_1 (h := ebool.val) (fun _ => rfl) rfl hx
theorem ebool.lkNT {x : Option Bool} (hx : some none = some x) : lkA none (ebool.val ebool.zero) true = .tup [ebool.val (x.getD ebool.zero), .d (.bool x.isSome)] := lk_NT (h := ebool.val) rfl hx
theorem ebool.lkN {x : Option Bool} (hx : some none = some x) : lkA none (ebool.val ebool.zero) false = ebool.val (x.getD ebool.zero) := lk_N1 (h := ebool.val) rfl hx
theorem ebool.mput (k : Str) (x : Bool) (m : List (Str × Bool)) : mput k (ebool.row x) (ebool.ents m) = ebool.ents (mpt k x m) := (ents_put ebool.row k x m).symm
def estr.zero : Str := []
def estr.leaf (x : Str) : D := .str x
def estr.cells (l : List Str) : List A := l.map fun x => .d (estr.leaf x)
def estr.row (x : Str) : Row := [.str x]
def estr.rows (l : List Str) : List Row := l.map estr.row
theorem estr.rows_map (l : List Str) : estr.rows l = l.map estr.row := rfl
theorem estr.idx {l : List Str} {n : Int} {x : Str} (h : idx l n = some x) : (estr.rows l)[n.toNat]? = some (estr.row x) := rows_idx estr.rows_map h
theorem estr.app (l m : List Str) : estr.rows (l ++ m) = estr.rows l ++ estr.rows m := rows_app estr.rows_map l m
theorem estr.len (l : List Str) : (estr.rows l).length = l.length := rows_len estr.rows_map l
theorem estr.lenA (l : List Str) : A.d (.int .i64 ((estr.rows l).length : Nat)) = A.d (.int .i64 (l.length : Nat)) := rows_lenA estr.rows_map l
theorem estr.sz (l : List Str) : ∀ r ∈ estr.rows l, r.length = 1 := rows_sz estr.rows_map (fun _ => rfl) l
theorem estr.part {l x : List Str} {a b : Int} (h : slc l a b = some x) : a = (a.toNat : Int) ∧ b = (b.toNat : Int) ∧ a.toNat ≤ b.toNat ∧ b.toNat ≤ (estr.rows l).length ∧ estr.rows x = ((estr.rows l).take b.toNat).drop a.toNat := rows_part estr.rows_map h
def estr.ents (m : List (Str × Str)) : List (Str × Row) := entsOf estr.row m
def estr.val (x : Str) : A := .d (.str x)
theorem estr.lkT {k : Str} {m : List (Str × Str)} {x : Option Str} (hx : some (mgt k m) = some x) : lkA (mget k (estr.ents m)) (estr.val estr.zero) true = .tup [estr.val (x.getD estr.zero), .d (.bool x.isSome)] := lk_T (h := estr.val) (fun _ => rfl) rfl hx
theorem estr.lk {k : Str} {m : List (Str × Str)} {x : Option Str} (hx : some (mgt k m) = some x) : lkA (mget k (estr.ents m)) (estr.val estr.zero) false = estr.val (x.getD estr.zero) := lk_1 (h := estr.val) (fun _ => rfl) rfl hx
theorem estr.lkNT {x : Option Str} (hx : some none = some x) : lkA none (estr.val estr.zero) true = .tup [estr.val (x.getD estr.zero), .d (.bool x.isSome)] := lk_NT (h := estr.val) rfl hx
theorem estr.lkN {x : Option Str} (hx : some none = some x) : lkA none (estr.val estr.zero) false = estr.val (x.getD estr.zero) := lk_N1 (h := estr.val) rfl hx
theorem estr.mput (k : Str) (x : Str) (m : List (Str × Str)) : mput k (estr.row x) (estr.ents m) = estr.ents (mpt k x m) := (ents_put estr.row k x m).symm
def ei8.zero : Int := 0
def ei8.leaf (x : Int) : D := .int .i8 x
def ei8.cells (l : List Int) : List A := l.map fun x => .d (ei8.leaf x)
def ei8.row (x : Int) : Row := [.int .i8 x]
def ei8.rows (l : List Int) : List Row := l.map ei8.row
theorem ei8.rows_map (l : List Int) : ei8.rows l = l.map ei8.row := rfl
theorem ei8.idx {l : List Int} {n : Int} {x : Int} (h : idx l n = some x) : (ei8.rows l)[n.toNat]? = some (ei8.row x) := rows_idx ei8.rows_map h
theorem ei8.app (l m : List Int) : ei8.rows (l ++ m) = ei8.rows l ++ ei8.rows m := rows_app ei8.rows_map l m
theorem ei8.len (l : List Int) : (ei8.rows l).length = l.length := rows_len ei8.rows_map l
theorem ei8.lenA (l : List Int) : A.d (.int .i64 ((ei8.rows l).length : Nat)) = A.d (.int .i64 (l.length : Nat)) := rows_lenA ei8.rows_map l
theorem ei8.sz (l : List Int) : ∀ r ∈ ei8.rows l, r.length = 1 := rows_sz ei8.rows_map (fun _ => rfl) l
theorem ei8.part {l x : List Int} {a b : Int} (h : slc l a b = some x) : a = (a.toNat : Int) ∧ b = (b.toNat : Int) ∧ a.toNat ≤ b.toNat ∧ b.toNat ≤ (ei8.rows l).length ∧ ei8.rows x = ((ei8.rows l).take b.toNat).drop a.toNat := rows_part ei8.rows_map h
def ei8.ents (m : List (Str × Int)) : List (Str × Row) := entsOf ei8.row m
def ei8.val (x : Int) : A := .d (.int .i8 x)
theorem ei8.lkT {k : Str} {m : List (Str × Int)} {x : Option Int} (hx : some (mgt k m) = some x) : lkA (mget k (ei8.ents m)) (ei8.val ei8.zero) true = .tup [ei8.val (x.getD ei8.zero), .d (.bool x.isSome)] := lk_T (h := ei8.val) (fun _ => rfl) rfl hx
theorem ei8.lk {k : Str} {m : List (Str × Int)} {x : Option Int} (hx : some (mgt k m) = some x) : lkA (mget k (ei8.ents m)) (ei8.val ei8.zero) false = ei8.val (x.getD ei8.zero) := lk_1 (h := ei8.val) (fun _ => rfl) rfl hx
theorem ei8.lkNT {x : Option Int} (hx : some none = some x) : lkA none (ei8.val ei8.zero) true = .tup [ei8.val (x.getD ei8.zero), .d (.bool x.isSome)] := lk_NT (h := ei8.val) rfl hx
theorem ei8.lkN {x : Option Int} (hx : some none = some x) : lkA none (ei8.val ei8.zero) false = ei8.val (x.getD ei8.zero) := lk_N1 (h := ei8.val) rfl hx
theorem ei8.mput (k : Str) (x : Int) (m : List (Str × Int)) : mput k (ei8.row x) (ei8.ents m) = ei8.ents (mpt k x m) := (ents_put ei8.row k x m).symm
def ei16.zero : Int := 0
def ei16.leaf (x : Int) : D := .int .i16 x
def ei16.cells (l : List Int) : List A := l.map fun x => .d (ei16.leaf x)
def ei16.row (x : Int) : Row := [.int .i16 x]
def ei16.rows (l : List Int) : List Row := l.map ei16.row
theorem ei16.rows_map (l : List Int) : ei16.rows l = l.map ei16.row := rfl
theorem ei16.idx {l : List Int} {n : Int} {x : Int} (h : idx l n = some x) : (ei16.rows l)[n.toNat]? = some (ei16.row x) := rows_idx ei16.rows_map h
theorem ei16.app (l m : List Int) : ei16.rows (l ++ m) = ei16.rows l ++ ei16.rows m := rows_app ei16.rows_map l m
theorem ei16.len (l : List Int) : (ei16.rows l).length = l.length := rows_len ei16.rows_map l
theorem ei16.lenA (l : List Int) : A.d (.int .i64 ((ei16.rows l).length : Nat)) = A.d (.int .i64 (l.length : Nat)) := rows_lenA ei16.rows_map l
theorem ei16.sz (l : List Int) : ∀ r ∈ ei16.rows l, r.length = 1 := rows_sz ei16.rows_map (fun _ => rfl) l
theorem ei16.part {l x : List Int} {a b : Int} (h : slc l a b = some x) : a = (a.toNat : Int) ∧ b = (b.toNat : Int) ∧ a.toNat ≤ b.toNat ∧ b.toNat ≤ (ei16.rows l).length ∧ ei16.rows x = ((ei16.rows l).take b.toNat).drop a.toNat := rows_part ei16.rows_map h
def ei16.ents (m : List (Str × Int)) : List (Str × Row) := entsOf ei16.row m
def ei16.val (x : Int) : A := .d (.int .i16 x)
theorem ei16.lkT {k : Str} {m : List (Str × Int)} {x : Option Int} (hx : some (mgt k m) = some x) : lkA (mget k (ei16.ents m)) (ei16.val ei16.zero) true = .tup [ei16.val (x.getD ei16.zero), .d (.bool x.isSome)] := lk_T (h := ei16.val) (fun _ => rfl) rfl hx
theorem ei16.lk {k : Str} {m : List (Str × Int)} {x : Option Int} (hx : some (mgt k m) = some x) : lkA (mget k (ei16.ents m)) (ei16.val ei16.zero) false = ei16.val (x.getD ei16.zero) := lk_1 (h := ei16.val) (fun _ => rfl) rfl hx
theorem ei16.lkNT {x : Option Int} (hx : some none = some x) : lkA none (ei16.val ei16.zero) true = .tup [ei16.val (x.getD ei16.zero), .d (.bool x.isSome)] := lk_NT (h := ei16.val) rfl hx
theorem ei16.lkN {x : Option Int} (hx : some none = some x) : lkA none (ei16.val ei16.zero) false = ei16.val (x.getD ei16.zero) := lk_N1 (h := ei16.val) rfl hx
theorem ei16.mput (k : Str) (x : Int) (m : List (Str × Int)) : mput k (ei16.row x) (ei16.ents m) = ei16.ents (mpt k x m) := (ents_put ei16.row k x m).symm
def ei32.zero : Int := 0
def ei32.leaf (x : Int) : D := .int .i32 x
def ei32.cells (l : List Int) : List A := l.map fun x => .d (ei32.leaf x)
def ei32.row (x : Int) : Row := [.int .i32 x]
def ei32.rows (l : List Int) : List Row := l.map ei32.row
theorem ei32.rows_map (l : List Int) : ei32.rows l = l.map ei32.row := rfl
theorem ei32.idx {l : List Int} {n : Int} {x : Int} (h : idx l n = some x) : (ei32.rows l)[n.toNat]? = some (ei32.row x) := rows_idx ei32.rows_map h
theorem ei32.app (l m : List Int) : ei32.rows (l ++ m) = ei32.rows l ++ ei32.rows m := rows_app ei32.rows_map l m
theorem ei32.len (l : List Int) : (ei32.rows l).length = l.length := rows_len ei32.rows_map l
theorem ei32.lenA (l : List Int) : A.d (.int .i64 ((ei32.rows l).length : Nat)) = A.d (.int .i64 (l.length : Nat)) := rows_lenA ei32.rows_map l
theorem ei32.sz (l : List Int) : ∀ r ∈ ei32.rows l, r.length = 1 := rows_sz ei32.rows_map (fun _ => rfl) l
theorem ei32.part {l x : List Int} {a b : Int} (h : slc l a b = some x) : a = (a.toNat : Int) ∧ b = (b.toNat : Int) ∧ a.toNat ≤ b.toNat ∧ b.toNat ≤ (ei32.rows l).length ∧ ei32.rows x = ((ei32.rows l).take b.toNat).drop a.toNat := rows_part ei32.rows_map h
def ei32.ents (m : List (Str × Int)) : List (Str × Row) := entsOf ei32.row m
def ei32.val (x : Int) : A := .d (.int .i32 x)
theorem ei32.lkT {k : Str} {m : List (Str × Int)} {x : Option Int} (hx : some (mgt k m) = some x) : lkA (mget k (ei32.ents m)) (ei32.val ei32.zero) true = .tup [ei32.val (x.getD ei32.zero), .d (.bool x.isSome)] := lk_T (h := ei32.val) (fun _ => rfl) rfl hx
theorem ei32.lk {k : Str} {m : List (Str × Int)} {x : Option Int} (hx : some (mgt k m) = some x) : lkA (mget k (ei32.ents m)) (ei32.val ei32.zero) false = ei32.val (x.getD ei32.zero) := lk_1 (h := ei32.val) (fun _ => rfl) rfl hx
theorem ei32.lkNT {x : Option Int} (hx : some none = some x) : lkA none (ei32.val ei32.zero) true = .tup [ei32.val (x.getD ei32.zero), .d (.bool x.isSome)] := lk_NT (h := ei32.val) rfl hx
theorem ei32.lkN {x : Option Int} (hx : some none = some x) : lkA none (ei32.val ei32.zero) false = ei32.val (x.getD ei32.zero) := lk_N1 (h := ei32.val) rfl hx
theorem ei32.mput (k : Str) (x : Int) (m : List (Str × Int)) : mput k (ei32.row x) (ei32.ents m) = ei32.ents (mpt k x m) := (ents_put ei32.row k x m).symm
def ei64.zero : Int := 0
def ei64.leaf (x : Int) : D := .int .i64 x
def ei64.cells (l : List Int) : List A := l.map fun x => .d (ei64.leaf x)
def ei64.row (x : Int) : Row := [.int .i64 x]
def ei64.rows (l : List Int) : List Row := l.map ei64.row
theorem ei64.rows_map (l : List Int) : ei64.rows l = l.map ei64.row := rfl
theorem ei64.idx {l : List Int} {n : Int} {x : Int} (h : idx l n = some x) : (ei64.rows l)[n.toNat]? = some (ei64.row x) := rows_idx ei64.rows_map h
theorem ei64.app (l m : List Int) : ei64.rows (l ++ m) = ei64.rows l ++ ei64.rows m := rows_app ei64.rows_map l m
theorem ei64.len (l : List Int) : (ei64.rows l).length = l.length := rows_len ei64.rows_map l
theorem ei64.lenA (l : List Int) : A.d (.int .i64 ((ei64.rows l).length : Nat)) = A.d (.int .i64 (l.length : Nat)) := rows_lenA ei64.rows_map l
theorem ei64.sz (l : List Int) : ∀ r ∈ ei64.rows l, r.length = 1 := rows_sz ei64.rows_map (fun _ => rfl) l
theorem ei64.part {l x : List Int} {a b : Int} (h : slc l a b = some x) : a = (a.toNat : Int) ∧ b = (b.toNat : Int) ∧ a.toNat ≤ b.toNat ∧ b.toNat ≤ (ei64.rows l).length ∧ ei64.rows x = ((ei64.rows l).take b.toNat).drop a.toNat := rows_part ei64.rows_map h
def ei64.ents (m : List (Str × Int)) : List (Str × Row) := entsOf ei64.row m
def ei64.val (x : Int) : A := .d (.int .i64 x)
theorem ei64.lkT {k : Str} {m : List (Str × Int)} {x : Option Int} (hx : some (mgt k m) = some x) : lkA (mget k (ei64.ents m)) (ei64.val ei64.zero) true = .tup [ei64.val (x.getD ei64.zero), .d (.bool x.isSome)] := lk_T (h := ei64.val) (fun _ => rfl) rfl hx
theorem ei64.lk {k : Str} {m : List (Str × Int)} {x : Option Int} (hx : some (mgt k m) = some x) : lkA (mget k (ei64.ents m)) (ei64.val ei64.zero) false = ei64.val (x.getD ei64.zero) := lk_1 (h := ei64.val) (fun _ => rfl) rfl hx
theorem ei64.lkNT {x : Option Int} (hx : some none = some x) : lkA none (ei64.val ei64.zero) true = .tup [ei64.val (x.getD ei64.zero), .d (.bool x.isSome)] := lk_NT (h := ei64.val) rfl hx
theorem ei64.lkN {x : Option Int} (hx : some none = some x) : lkA none (ei64.val ei64.zero) false = ei64.val (x.getD ei64.zero) := lk_N1 (h := ei64.val) rfl hx
theorem ei64.mput (k : Str) (x : Int) (m : List (Str × Int)) : mput k (ei64.row x) (ei64.ents m) = ei64.ents (mpt k x m) := (ents_put ei64.row k x m).symm
def eu8.zero : Int := 0
def eu8.leaf (x : Int) : D := .int .u8 x
def eu8.cells (l : List Int) : List A := l.map fun x => .d (eu8.leaf x)
def eu8.row (x : Int) : Row := [.int .u8 x]
def eu8.rows (l : List Int) : List Row := l.map eu8.row
theorem eu8.rows_map (l : List Int) : eu8.rows l = l.map eu8.row := rfl
theorem eu8.idx {l : List Int} {n : Int} {x : Int} (h : idx l n = some x) : (eu8.rows l)[n.toNat]? = some (eu8.row x) := rows_idx eu8.rows_map h
theorem eu8.app (l m : List Int) : eu8.rows (l ++ m) = eu8.rows l ++ eu8.rows m := rows_app eu8.rows_map l m
theorem eu8.len (l : List Int) : (eu8.rows l).length = l.length := rows_len eu8.rows_map l
theorem eu8.lenA (l : List Int) : A.d (.int .i64 ((eu8.rows l).length : Nat)) = A.d (.int .i64 (l.length : Nat)) := rows_lenA eu8.rows_map l
theorem eu8.sz (l : List Int) : ∀ r ∈ eu8.rows l, r.length = 1 := rows_sz eu8.rows_map (fun _ => rfl) l
theorem eu8.part {l x : List Int} {a b : Int} (h : slc l a b = some x) : a = (a.toNat : Int) ∧ b = (b.toNat : Int) ∧ a.toNat ≤ b.toNat ∧ b.toNat ≤ (eu8.rows l).length ∧ eu8.rows x = ((eu8.rows l).take b.toNat).drop a.toNat := rows_part eu8.rows_map h
def eu8.ents (m : List (Str × Int)) : List (Str × Row) := entsOf eu8.row m
def eu8.val (x : Int) : A := .d (.int .u8 x)
theorem eu8.lkT {k : Str} {m : List (Str × Int)} {x : Option Int} (hx : some (mgt k m) = some x) : lkA (mget k (eu8.ents m)) (eu8.val eu8.zero) true = .tup [eu8.val (x.getD eu8.zero), .d (.bool x.isSome)] := lk_T (h := eu8.val) (fun _ => rfl) rfl hx
theorem eu8.lk {k : Str} {m : List (Str × Int)} {x : Option Int} (hx : some (mgt k m) = some x) : lkA (mget k (eu8.ents m)) (eu8.val eu8.zero) false = eu8.val (x.getD eu8.zero) := lk_1 (h := eu8.val) (fun _ => rfl) rfl hx
theorem eu8.lkNT {x : Option Int} (hx : some none = some x) : lkA none (eu8.val eu8.zero) true = .tup [eu8.val (x.getD eu8.zero), .d (.bool x.isSome)] := lk_NT (h := eu8.val) rfl hx
theorem eu8.lkN {x : Option Int} (hx : some none = some x) : lkA none (eu8.val eu8.zero) false = eu8.val (x.getD eu8.zero) := lk_N1 (h := eu8.val) rfl hx
theorem eu8.mput (k : Str) (x : Int) (m : List (Str × Int)) : mput k (eu8.row x) (eu8.ents m) = eu8.ents (mpt k x m) := (ents_put eu8.row k x m).symm
def eu16.zero : Int := 0
def eu16.leaf (x : Int) : D := .int .u16 x
def eu16.cells (l : List Int) : List A := l.map fun x => .d (eu16.leaf x)
def eu16.row (x : Int) : Row := [.int .u16 x]
def eu16.rows (l : List Int) : List Row := l.map eu16.row
theorem eu16.rows_map (l : List Int) : eu16.rows l = l.map eu16.row := rfl
theorem eu16.idx {l : List Int} {n : Int} {x : Int} (h : idx l n = some x) : (eu16.rows l)[n.toNat]? = some (eu16.row x) := rows_idx eu16.rows_map h
theorem eu16.app (l m : List Int) : eu16.rows (l ++ m) = eu16.rows l ++ eu16.rows m := rows_app eu16.rows_map l m
theorem eu16.len (l : List Int) : (eu16.rows l).length = l.length := rows_len eu16.rows_map l
theorem eu16.lenA (l : List Int) : A.d (.int .i64 ((eu16.rows l).length : Nat)) = A.d (.int .i64 (l.length : Nat)) := rows_lenA eu16.rows_map l
theorem eu16.sz (l : List Int) : ∀ r ∈ eu16.rows l, r.length = 1 := rows_sz eu16.rows_map (fun _ => rfl) l
theorem eu16.part {l x : List Int} {a b : Int} (h : slc l a b = some x) : a = (a.toNat : Int) ∧ b = (b.toNat : Int) ∧ a.toNat ≤ b.toNat ∧ b.toNat ≤ (eu16.rows l).length ∧ eu16.rows x = ((eu16.rows l).take b.toNat).drop a.toNat := rows_part eu16.rows_map h
def eu16.ents (m : List (Str × Int)) : List (Str × Row) := entsOf eu16.row m
def eu16.val (x : Int) : A := .d (.int .u16 x)
theorem eu16.lkT {k : Str} {m : List (Str × Int)} {x : Option Int} (hx : some (mgt k m) = some x) : lkA (mget k (eu16.ents m)) (eu16.val eu16.zero) true = .tup [eu16.val (x.getD eu16.zero), .d (.bool x.isSome)] := lk_T (h := eu16.val) (fun _ => rfl) rfl hx
theorem eu16.lk {k : Str} {m : List (Str × Int)} {x : Option Int} (hx : some (mgt k m) = some x) : lkA (mget k (eu16.ents m)) (eu16.val eu16.zero) false = eu16.val (x.getD eu16.zero) := lk_1 (h := eu16.val) (fun _ => rfl) rfl hx
theorem eu16.lkNT {x : Option Int} (hx : some none = some x) : lkA none (eu16.val eu16.zero) true = .tup [eu16.val (x.getD eu16.zero), .d (.bool x.isSome)] := lk_NT (h := eu16.val) rfl hx
theorem eu16.lkN {x : Option Int} (hx : some none = some x) : lkA none (eu16.val eu16.zero) false = eu16.val (x.getD eu16.zero) := lk_N1 (h := eu16.val) rfl hx
theorem eu16.mput (k : Str) (x : Int) (m : List (Str × Int)) : mput k (eu16.row x) (eu16.ents m) = eu16.ents (mpt k x m) := (ents_put eu16.row k x m).symm
def eu32.zero : Int := 0
def eu32.leaf (x : Int) : D := .int .u32 x
def eu32.cells (l : List Int) : List A := l.map fun x => .d (eu32.leaf x)
def eu32.row (x : Int) : Row := [.int .u32 x]
def eu32.rows (l : List Int) : List Row := l.map eu32.row
theorem eu32.rows_map (l : List Int) : eu32.rows l = l.map eu32.row := rfl
theorem eu32.idx {l : List Int} {n : Int} {x : Int} (h : idx l n = some x) : (eu32.rows l)[n.toNat]? = some (eu32.row x) := rows_idx eu32.rows_map h
theorem eu32.app (l m : List Int) : eu32.rows (l ++ m) = eu32.rows l ++ eu32.rows m := rows_app eu32.rows_map l m
theorem eu32.len (l : List Int) : (eu32.rows l).length = l.length := rows_len eu32.rows_map l
theorem eu32.lenA (l : List Int) : A.d (.int .i64 ((eu32.rows l).length : Nat)) = A.d (.int .i64 (l.length : Nat)) := rows_lenA eu32.rows_map l
theorem eu32.sz (l : List Int) : ∀ r ∈ eu32.rows l, r.length = 1 := rows_sz eu32.rows_map (fun _ => rfl) l
theorem eu32.part {l x : List Int} {a b : Int} (h : slc l a b = some x) : a = (a.toNat : Int) ∧ b = (b.toNat : Int) ∧ a.toNat ≤ b.toNat ∧ b.toNat ≤ (eu32.rows l).length ∧ eu32.rows x = ((eu32.rows l).take b.toNat).drop a.toNat := rows_part eu32.rows_map h
def eu32.ents (m : List (Str × Int)) : List (Str × Row) := entsOf eu32.row m
def eu32.val (x : Int) : A := .d (.int .u32 x)
theorem eu32.lkT {k : Str} {m : List (Str × Int)} {x : Option Int} (hx : some (mgt k m) = some x) : lkA (mget k (eu32.ents m)) (eu32.val eu32.zero) true = .tup [eu32.val (x.getD eu32.zero), .d (.bool x.isSome)] := lk_T (h := eu32.val) (fun _ => rfl) rfl hx
theorem eu32.lk {k : Str} {m : List (Str × Int)} {x : Option Int} (hx : some (mgt k m) = some x) : lkA (mget k (eu32.ents m)) (eu32.val eu32.zero) false = eu32.val (x.getD eu32.zero) := lk_1 (h := eu32.val) (fun _ => rfl) rfl hx
theorem eu32.lkNT {x : Option Int} (hx : some none = some x) : lkA none (eu32.val eu32.zero) true = .tup [eu32.val (x.getD eu32.zero), .d (.bool x.isSome)] := lk_NT (h := eu32.val) rfl hx
theorem eu32.lkN {x : Option Int} (hx : some none = some x) : lkA none (eu32.val eu32.zero) false = eu32.val (x.getD eu32.zero) := lk_N1 (h := eu32.val) rfl hx
theorem eu32.mput (k : Str) (x : Int) (m : List (Str × Int)) : mput k (eu32.row x) (eu32.ents m) = eu32.ents (mpt k x m) := (ents_put eu32.row k x m).symm
def eu64.zero : Int := 0
def eu64.leaf (x : Int) : D := .int .u64 x
def eu64.cells (l : List Int) : List A := l.map fun x => .d (eu64.leaf x)
def eu64.row (x : Int) : Row := [.int .u64 x]
def eu64.rows (l : List Int) : List Row := l.map eu64.row
theorem eu64.rows_map (l : List Int) : eu64.rows l = l.map eu64.row := rfl
theorem eu64.idx {l : List Int} {n : Int} {x : Int} (h : idx l n = some x) : (eu64.rows l)[n.toNat]? = some (eu64.row x) := rows_idx eu64.rows_map h
theorem eu64.app (l m : List Int) : eu64.rows (l ++ m) = eu64.rows l ++ eu64.rows m := rows_app eu64.rows_map l m
theorem eu64.len (l : List Int) : (eu64.rows l).length = l.length := rows_len eu64.rows_map l
theorem eu64.lenA (l : List Int) : A.d (.int .i64 ((eu64.rows l).length : Nat)) = A.d (.int .i64 (l.length : Nat)) := rows_lenA eu64.rows_map l
theorem eu64.sz (l : List Int) : ∀ r ∈ eu64.rows l, r.length = 1 := rows_sz eu64.rows_map (fun _ => rfl) l
theorem eu64.part {l x : List Int} {a b : Int} (h : slc l a b = some x) : a = (a.toNat : Int) ∧ b = (b.toNat : Int) ∧ a.toNat ≤ b.toNat ∧ b.toNat ≤ (eu64.rows l).length ∧ eu64.rows x = ((eu64.rows l).take b.toNat).drop a.toNat := rows_part eu64.rows_map h
def eu64.ents (m : List (Str × Int)) : List (Str × Row) := entsOf eu64.row m
def eu64.val (x : Int) : A := .d (.int .u64 x)
theorem eu64.lkT {k : Str} {m : List (Str × Int)} {x : Option Int} (hx : some (mgt k m) = some x) : lkA (mget k (eu64.ents m)) (eu64.val eu64.zero) true = .tup [eu64.val (x.getD eu64.zero), .d (.bool x.isSome)] := lk_T (h := eu64.val) (fun _ => rfl) rfl hx
theorem eu64.lk {k : Str} {m : List (Str × Int)} {x : Option Int} (hx : some (mgt k m) = some x) : lkA (mget k (eu64.ents m)) (eu64.val eu64.zero) false = eu64.val (x.getD eu64.zero) := lk_1 (h := eu64.val) (fun _ => rfl) rfl hx
theorem eu64.lkNT {x : Option Int} (hx : some none = some x) : lkA none (eu64.val eu64.zero) true = .tup [eu64.val (x.getD eu64.zero), .d (.bool x.isSome)] := lk_NT (h := eu64.val) rfl hx
theorem eu64.lkN {x : Option Int} (hx : some none = some x) : lkA none (eu64.val eu64.zero) false = eu64.val (x.getD eu64.zero) := lk_N1 (h := eu64.val) rfl hx
theorem eu64.mput (k : Str) (x : Int) (m : List (Str × Int)) : mput k (eu64.row x) (eu64.ents m) = eu64.ents (mpt k x m) := (ents_put eu64.row k x m).symm
structure ApiType where
  Kind : Int
  Low : Int
  High : Int
  Size : Int
  Name : Str
  Names : List Str
  Of : List ApiType
def ApiType.zero : ApiType := ⟨0, 0, 0, 0, [], [], []⟩
instance : Inhabited ApiType := ⟨ApiType.zero⟩
mutual
def ApiType.rowX : ApiType → Row
  | .mk y0 y1 y2 y3 y4 y5 y6 => [.int .i64 y0, .int .i64 y1, .int .i64 y2, .int .i64 y3, .str y4, .sl (estr.rows y5), .sl (ApiType.rowsX y6)]
def ApiType.rowsX : List ApiType → List Row
  | [] => []
  | x :: r => ApiType.rowX x :: ApiType.rowsX r
end
def ApiType.rows (l : List ApiType) : List Row := ApiType.rowsX l
def ApiType.row (x : ApiType) : Row := [.int .i64 x.Kind, .int .i64 x.Low, .int .i64 x.High, .int .i64 x.Size, .str x.Name, .sl (estr.rows x.Names), .sl (ApiType.rows x.Of)]
theorem ApiType.rows_map : ∀ l, ApiType.rows l = l.map ApiType.row
  | [] => rfl
  | x :: r => by
    show ApiType.rowX x :: ApiType.rows r = ApiType.row x :: r.map ApiType.row
    rw [ApiType.rows_map r]
    cases x
    rfl
def ApiType.cells (x : ApiType) : List A := [.d (.int .i64 x.Kind), .d (.int .i64 x.Low), .d (.int .i64 x.High), .d (.int .i64 x.Size), .d (.str x.Name), .d (.sl (estr.rows x.Names)), .d (.sl (ApiType.rows x.Of))]
theorem ApiType.idx {l : List ApiType} {n : Int} {x : ApiType} (h : idx l n = some x) : (ApiType.rows l)[n.toNat]? = some (ApiType.row x) := rows_idx ApiType.rows_map h
theorem ApiType.app (l m : List ApiType) : ApiType.rows (l ++ m) = ApiType.rows l ++ ApiType.rows m := rows_app ApiType.rows_map l m
theorem ApiType.len (l : List ApiType) : (ApiType.rows l).length = l.length := rows_len ApiType.rows_map l
theorem ApiType.lenA (l : List ApiType) : A.d (.int .i64 ((ApiType.rows l).length : Nat)) = A.d (.int .i64 (l.length : Nat)) := rows_lenA ApiType.rows_map l
theorem ApiType.sz (l : List ApiType) : ∀ r ∈ ApiType.rows l, r.length = 7 := rows_sz ApiType.rows_map (fun _ => rfl) l
theorem ApiType.part {l x : List ApiType} {a b : Int} (h : slc l a b = some x) : a = (a.toNat : Int) ∧ b = (b.toNat : Int) ∧ a.toNat ≤ b.toNat ∧ b.toNat ≤ (ApiType.rows l).length ∧ ApiType.rows x = ((ApiType.rows l).take b.toNat).drop a.toNat := rows_part ApiType.rows_map h
def ApiType.ents (m : List (Str × ApiType)) : List (Str × Row) := entsOf ApiType.row m
def ApiType.val (x : ApiType) : A := .agg (ApiType.cells x)
theorem ApiType.lkT {k : Str} {m : List (Str × ApiType)} {x : Option ApiType} (hx : some (mgt k m) = some x) : lkA (mget k (ApiType.ents m)) (ApiType.val ApiType.zero) true = .tup [ApiType.val (x.getD ApiType.zero), .d (.bool x.isSome)] := lk_T (h := ApiType.val) (fun _ => rfl) rfl hx
theorem ApiType.lk {k : Str} {m : List (Str × ApiType)} {x : Option ApiType} (hx : some (mgt k m) = some x) : lkA (mget k (ApiType.ents m)) (ApiType.val ApiType.zero) false = ApiType.val (x.getD ApiType.zero) := lk_1 (h := ApiType.val) (fun _ => rfl) rfl hx
theorem ApiType.lkNT {x : Option ApiType} (hx : some none = some x) : lkA none (ApiType.val ApiType.zero) true = .tup [ApiType.val (x.getD ApiType.zero), .d (.bool x.isSome)] := lk_NT (h := ApiType.val) rfl hx
theorem ApiType.lkN {x : Option ApiType} (hx : some none = some x) : lkA none (ApiType.val ApiType.zero) false = ApiType.val (x.getD ApiType.zero) := lk_N1 (h := ApiType.val) rfl hx
theorem ApiType.mput (k : Str) (x : ApiType) (m : List (Str × ApiType)) : mput k (ApiType.row x) (ApiType.ents m) = ApiType.ents (mpt k x m) := (ents_put ApiType.row k x m).symm
structure ApiExpr where
  Op : Int
  NV : Int
  Name : Str
  Kids : List ApiExpr
def ApiExpr.zero : ApiExpr := ⟨0, 0, [], []⟩
instance : Inhabited ApiExpr := ⟨ApiExpr.zero⟩
mutual
def ApiExpr.rowX : ApiExpr → Row
  | .mk y0 y1 y2 y3 => [.int .i64 y0, .int .i64 y1, .str y2, .sl (ApiExpr.rowsX y3)]
def ApiExpr.rowsX : List ApiExpr → List Row
  | [] => []
  | x :: r => ApiExpr.rowX x :: ApiExpr.rowsX r
end
def ApiExpr.rows (l : List ApiExpr) : List Row := ApiExpr.rowsX l
def ApiExpr.row (x : ApiExpr) : Row := [.int .i64 x.Op, .int .i64 x.NV, .str x.Name, .sl (ApiExpr.rows x.Kids)]
theorem ApiExpr.rows_map : ∀ l, ApiExpr.rows l = l.map ApiExpr.row
  | [] => rfl
  | x :: r => by
    show ApiExpr.rowX x :: ApiExpr.rows r = ApiExpr.row x :: r.map ApiExpr.row
    rw [ApiExpr.rows_map r]
    cases x
    rfl
def ApiExpr.cells (x : ApiExpr) : List A := [.d (.int .i64 x.Op), .d (.int .i64 x.NV), .d (.str x.Name), .d (.sl (ApiExpr.rows x.Kids))]
theorem ApiExpr.idx {l : List ApiExpr} {n : Int} {x : ApiExpr} (h : idx l n = some x) : (ApiExpr.rows l)[n.toNat]? = some (ApiExpr.row x) := rows_idx ApiExpr.rows_map h
theorem ApiExpr.app (l m : List ApiExpr) : ApiExpr.rows (l ++ m) = ApiExpr.rows l ++ ApiExpr.rows m := rows_app ApiExpr.rows_map l m
theorem ApiExpr.len (l : List ApiExpr) : (ApiExpr.rows l).length = l.length := rows_len ApiExpr.rows_map l
theorem ApiExpr.lenA (l : List ApiExpr) : A.d (.int .i64 ((ApiExpr.rows l).length : Nat)) = A.d (.int .i64 (l.length : Nat)) := rows_lenA ApiExpr.rows_map l
theorem ApiExpr.sz (l : List ApiExpr) : ∀ r ∈ ApiExpr.rows l, r.length = 4 := rows_sz ApiExpr.rows_map (fun _ => rfl) l
theorem ApiExpr.part {l x : List ApiExpr} {a b : Int} (h : slc l a b = some x) : a = (a.toNat : Int) ∧ b = (b.toNat : Int) ∧ a.toNat ≤ b.toNat ∧ b.toNat ≤ (ApiExpr.rows l).length ∧ ApiExpr.rows x = ((ApiExpr.rows l).take b.toNat).drop a.toNat := rows_part ApiExpr.rows_map h
def ApiExpr.ents (m : List (Str × ApiExpr)) : List (Str × Row) := entsOf ApiExpr.row m
def ApiExpr.val (x : ApiExpr) : A := .agg (ApiExpr.cells x)
theorem ApiExpr.lkT {k : Str} {m : List (Str × ApiExpr)} {x : Option ApiExpr} (hx : some (mgt k m) = some x) : lkA (mget k (ApiExpr.ents m)) (ApiExpr.val ApiExpr.zero) true = .tup [ApiExpr.val (x.getD ApiExpr.zero), .d (.bool x.isSome)] := lk_T (h := ApiExpr.val) (fun _ => rfl) rfl hx
theorem ApiExpr.lk {k : Str} {m : List (Str × ApiExpr)} {x : Option ApiExpr} (hx : some (mgt k m) = some x) : lkA (mget k (ApiExpr.ents m)) (ApiExpr.val ApiExpr.zero) false = ApiExpr.val (x.getD ApiExpr.zero) := lk_1 (h := ApiExpr.val) (fun _ => rfl) rfl hx
theorem ApiExpr.lkNT {x : Option ApiExpr} (hx : some none = some x) : lkA none (ApiExpr.val ApiExpr.zero) true = .tup [ApiExpr.val (x.getD ApiExpr.zero), .d (.bool x.isSome)] := lk_NT (h := ApiExpr.val) rfl hx
theorem ApiExpr.lkN {x : Option ApiExpr} (hx : some none = some x) : lkA none (ApiExpr.val ApiExpr.zero) false = ApiExpr.val (x.getD ApiExpr.zero) := lk_N1 (h := ApiExpr.val) rfl hx
theorem ApiExpr.mput (k : Str) (x : ApiExpr) (m : List (Str × ApiExpr)) : mput k (ApiExpr.row x) (ApiExpr.ents m) = ApiExpr.ents (mpt k x m) := (ents_put ApiExpr.row k x m).symm
structure ApiStmt where
  Verb : Int
  Place : ApiExpr
  Value : ApiExpr
  Name : Str
  Args : List ApiExpr
  NV : Int
  Low : Int
  High : Int
  Numbers : List Int
  Then : List ApiStmt
  Else : List ApiStmt
def ApiStmt.zero : ApiStmt := ⟨0, ⟨0, 0, [], []⟩, ⟨0, 0, [], []⟩, [], [], 0, 0, 0, [], [], []⟩
instance : Inhabited ApiStmt := ⟨ApiStmt.zero⟩
mutual
def ApiStmt.rowX : ApiStmt → Row
  | .mk y0 y1 y2 y3 y4 y5 y6 y7 y8 y9 y10 => [.int .i64 y0, .int .i64 y1.Op, .int .i64 y1.NV, .str y1.Name, .sl (ApiExpr.rows y1.Kids), .int .i64 y2.Op, .int .i64 y2.NV, .str y2.Name, .sl (ApiExpr.rows y2.Kids), .str y3, .sl (ApiExpr.rows y4), .int .i64 y5, .int .i64 y6, .int .i64 y7, .sl (ei64.rows y8), .sl (ApiStmt.rowsX y9), .sl (ApiStmt.rowsX y10)]
def ApiStmt.rowsX : List ApiStmt → List Row
  | [] => []
  | x :: r => ApiStmt.rowX x :: ApiStmt.rowsX r
end
def ApiStmt.rows (l : List ApiStmt) : List Row := ApiStmt.rowsX l
def ApiStmt.row (x : ApiStmt) : Row := [.int .i64 x.Verb, .int .i64 x.Place.Op, .int .i64 x.Place.NV, .str x.Place.Name, .sl (ApiExpr.rows x.Place.Kids), .int .i64 x.Value.Op, .int .i64 x.Value.NV, .str x.Value.Name, .sl (ApiExpr.rows x.Value.Kids), .str x.Name, .sl (ApiExpr.rows x.Args), .int .i64 x.NV, .int .i64 x.Low, .int .i64 x.High, .sl (ei64.rows x.Numbers), .sl (ApiStmt.rows x.Then), .sl (ApiStmt.rows x.Else)]
theorem ApiStmt.rows_map : ∀ l, ApiStmt.rows l = l.map ApiStmt.row
  | [] => rfl
  | x :: r => by
    show ApiStmt.rowX x :: ApiStmt.rows r = ApiStmt.row x :: r.map ApiStmt.row
    rw [ApiStmt.rows_map r]
    cases x
    rfl
def ApiStmt.cells (x : ApiStmt) : List A := [.d (.int .i64 x.Verb), .d (.int .i64 x.Place.Op), .d (.int .i64 x.Place.NV), .d (.str x.Place.Name), .d (.sl (ApiExpr.rows x.Place.Kids)), .d (.int .i64 x.Value.Op), .d (.int .i64 x.Value.NV), .d (.str x.Value.Name), .d (.sl (ApiExpr.rows x.Value.Kids)), .d (.str x.Name), .d (.sl (ApiExpr.rows x.Args)), .d (.int .i64 x.NV), .d (.int .i64 x.Low), .d (.int .i64 x.High), .d (.sl (ei64.rows x.Numbers)), .d (.sl (ApiStmt.rows x.Then)), .d (.sl (ApiStmt.rows x.Else))]
theorem ApiStmt.idx {l : List ApiStmt} {n : Int} {x : ApiStmt} (h : idx l n = some x) : (ApiStmt.rows l)[n.toNat]? = some (ApiStmt.row x) := rows_idx ApiStmt.rows_map h
theorem ApiStmt.app (l m : List ApiStmt) : ApiStmt.rows (l ++ m) = ApiStmt.rows l ++ ApiStmt.rows m := rows_app ApiStmt.rows_map l m
theorem ApiStmt.len (l : List ApiStmt) : (ApiStmt.rows l).length = l.length := rows_len ApiStmt.rows_map l
theorem ApiStmt.lenA (l : List ApiStmt) : A.d (.int .i64 ((ApiStmt.rows l).length : Nat)) = A.d (.int .i64 (l.length : Nat)) := rows_lenA ApiStmt.rows_map l
theorem ApiStmt.sz (l : List ApiStmt) : ∀ r ∈ ApiStmt.rows l, r.length = 17 := rows_sz ApiStmt.rows_map (fun _ => rfl) l
theorem ApiStmt.part {l x : List ApiStmt} {a b : Int} (h : slc l a b = some x) : a = (a.toNat : Int) ∧ b = (b.toNat : Int) ∧ a.toNat ≤ b.toNat ∧ b.toNat ≤ (ApiStmt.rows l).length ∧ ApiStmt.rows x = ((ApiStmt.rows l).take b.toNat).drop a.toNat := rows_part ApiStmt.rows_map h
def ApiStmt.ents (m : List (Str × ApiStmt)) : List (Str × Row) := entsOf ApiStmt.row m
def ApiStmt.val (x : ApiStmt) : A := .agg (ApiStmt.cells x)
theorem ApiStmt.lkT {k : Str} {m : List (Str × ApiStmt)} {x : Option ApiStmt} (hx : some (mgt k m) = some x) : lkA (mget k (ApiStmt.ents m)) (ApiStmt.val ApiStmt.zero) true = .tup [ApiStmt.val (x.getD ApiStmt.zero), .d (.bool x.isSome)] := lk_T (h := ApiStmt.val) (fun _ => rfl) rfl hx
theorem ApiStmt.lk {k : Str} {m : List (Str × ApiStmt)} {x : Option ApiStmt} (hx : some (mgt k m) = some x) : lkA (mget k (ApiStmt.ents m)) (ApiStmt.val ApiStmt.zero) false = ApiStmt.val (x.getD ApiStmt.zero) := lk_1 (h := ApiStmt.val) (fun _ => rfl) rfl hx
theorem ApiStmt.lkNT {x : Option ApiStmt} (hx : some none = some x) : lkA none (ApiStmt.val ApiStmt.zero) true = .tup [ApiStmt.val (x.getD ApiStmt.zero), .d (.bool x.isSome)] := lk_NT (h := ApiStmt.val) rfl hx
theorem ApiStmt.lkN {x : Option ApiStmt} (hx : some none = some x) : lkA none (ApiStmt.val ApiStmt.zero) false = ApiStmt.val (x.getD ApiStmt.zero) := lk_N1 (h := ApiStmt.val) rfl hx
theorem ApiStmt.mput (k : Str) (x : ApiStmt) (m : List (Str × ApiStmt)) : mput k (ApiStmt.row x) (ApiStmt.ents m) = ApiStmt.ents (mpt k x m) := (ents_put ApiStmt.row k x m).symm
structure ApiDecl where
  Kind : Int
  Name : Str
  TypeV : ApiType
  Init : Int
  Value : ApiExpr
  Params : List ApiDecl
  Vars : List ApiDecl
  Body : List ApiStmt
def ApiDecl.zero : ApiDecl := ⟨0, [], ⟨0, 0, 0, 0, [], [], []⟩, 0, ⟨0, 0, [], []⟩, [], [], []⟩
instance : Inhabited ApiDecl := ⟨ApiDecl.zero⟩
mutual
def ApiDecl.rowX : ApiDecl → Row
  | .mk y0 y1 y2 y3 y4 y5 y6 y7 => [.int .i64 y0, .str y1, .int .i64 y2.Kind, .int .i64 y2.Low, .int .i64 y2.High, .int .i64 y2.Size, .str y2.Name, .sl (estr.rows y2.Names), .sl (ApiType.rows y2.Of), .int .i64 y3, .int .i64 y4.Op, .int .i64 y4.NV, .str y4.Name, .sl (ApiExpr.rows y4.Kids), .sl (ApiDecl.rowsX y5), .sl (ApiDecl.rowsX y6), .sl (ApiStmt.rows y7)]
def ApiDecl.rowsX : List ApiDecl → List Row
  | [] => []
  | x :: r => ApiDecl.rowX x :: ApiDecl.rowsX r
end
def ApiDecl.rows (l : List ApiDecl) : List Row := ApiDecl.rowsX l
def ApiDecl.row (x : ApiDecl) : Row := [.int .i64 x.Kind, .str x.Name, .int .i64 x.TypeV.Kind, .int .i64 x.TypeV.Low, .int .i64 x.TypeV.High, .int .i64 x.TypeV.Size, .str x.TypeV.Name, .sl (estr.rows x.TypeV.Names), .sl (ApiType.rows x.TypeV.Of), .int .i64 x.Init, .int .i64 x.Value.Op, .int .i64 x.Value.NV, .str x.Value.Name, .sl (ApiExpr.rows x.Value.Kids), .sl (ApiDecl.rows x.Params), .sl (ApiDecl.rows x.Vars), .sl (ApiStmt.rows x.Body)]
theorem ApiDecl.rows_map : ∀ l, ApiDecl.rows l = l.map ApiDecl.row
  | [] => rfl
  | x :: r => by
    show ApiDecl.rowX x :: ApiDecl.rows r = ApiDecl.row x :: r.map ApiDecl.row
    rw [ApiDecl.rows_map r]
    cases x
    rfl
def ApiDecl.cells (x : ApiDecl) : List A := [.d (.int .i64 x.Kind), .d (.str x.Name), .d (.int .i64 x.TypeV.Kind), .d (.int .i64 x.TypeV.Low), .d (.int .i64 x.TypeV.High), .d (.int .i64 x.TypeV.Size), .d (.str x.TypeV.Name), .d (.sl (estr.rows x.TypeV.Names)), .d (.sl (ApiType.rows x.TypeV.Of)), .d (.int .i64 x.Init), .d (.int .i64 x.Value.Op), .d (.int .i64 x.Value.NV), .d (.str x.Value.Name), .d (.sl (ApiExpr.rows x.Value.Kids)), .d (.sl (ApiDecl.rows x.Params)), .d (.sl (ApiDecl.rows x.Vars)), .d (.sl (ApiStmt.rows x.Body))]
theorem ApiDecl.idx {l : List ApiDecl} {n : Int} {x : ApiDecl} (h : idx l n = some x) : (ApiDecl.rows l)[n.toNat]? = some (ApiDecl.row x) := rows_idx ApiDecl.rows_map h
theorem ApiDecl.app (l m : List ApiDecl) : ApiDecl.rows (l ++ m) = ApiDecl.rows l ++ ApiDecl.rows m := rows_app ApiDecl.rows_map l m
theorem ApiDecl.len (l : List ApiDecl) : (ApiDecl.rows l).length = l.length := rows_len ApiDecl.rows_map l
theorem ApiDecl.lenA (l : List ApiDecl) : A.d (.int .i64 ((ApiDecl.rows l).length : Nat)) = A.d (.int .i64 (l.length : Nat)) := rows_lenA ApiDecl.rows_map l
theorem ApiDecl.sz (l : List ApiDecl) : ∀ r ∈ ApiDecl.rows l, r.length = 17 := rows_sz ApiDecl.rows_map (fun _ => rfl) l
theorem ApiDecl.part {l x : List ApiDecl} {a b : Int} (h : slc l a b = some x) : a = (a.toNat : Int) ∧ b = (b.toNat : Int) ∧ a.toNat ≤ b.toNat ∧ b.toNat ≤ (ApiDecl.rows l).length ∧ ApiDecl.rows x = ((ApiDecl.rows l).take b.toNat).drop a.toNat := rows_part ApiDecl.rows_map h
def ApiDecl.ents (m : List (Str × ApiDecl)) : List (Str × Row) := entsOf ApiDecl.row m
def ApiDecl.val (x : ApiDecl) : A := .agg (ApiDecl.cells x)
theorem ApiDecl.lkT {k : Str} {m : List (Str × ApiDecl)} {x : Option ApiDecl} (hx : some (mgt k m) = some x) : lkA (mget k (ApiDecl.ents m)) (ApiDecl.val ApiDecl.zero) true = .tup [ApiDecl.val (x.getD ApiDecl.zero), .d (.bool x.isSome)] := lk_T (h := ApiDecl.val) (fun _ => rfl) rfl hx
theorem ApiDecl.lk {k : Str} {m : List (Str × ApiDecl)} {x : Option ApiDecl} (hx : some (mgt k m) = some x) : lkA (mget k (ApiDecl.ents m)) (ApiDecl.val ApiDecl.zero) false = ApiDecl.val (x.getD ApiDecl.zero) := lk_1 (h := ApiDecl.val) (fun _ => rfl) rfl hx
theorem ApiDecl.lkNT {x : Option ApiDecl} (hx : some none = some x) : lkA none (ApiDecl.val ApiDecl.zero) true = .tup [ApiDecl.val (x.getD ApiDecl.zero), .d (.bool x.isSome)] := lk_NT (h := ApiDecl.val) rfl hx
theorem ApiDecl.lkN {x : Option ApiDecl} (hx : some none = some x) : lkA none (ApiDecl.val ApiDecl.zero) false = ApiDecl.val (x.getD ApiDecl.zero) := lk_N1 (h := ApiDecl.val) rfl hx
theorem ApiDecl.mput (k : Str) (x : ApiDecl) (m : List (Str × ApiDecl)) : mput k (ApiDecl.row x) (ApiDecl.ents m) = ApiDecl.ents (mpt k x m) := (ents_put ApiDecl.row k x m).symm
structure ApiProgram where
  Decls : List ApiDecl
  Body : List ApiStmt
def ApiProgram.zero : ApiProgram := ⟨[], []⟩
instance : Inhabited ApiProgram := ⟨ApiProgram.zero⟩
def ApiProgram.row (x : ApiProgram) : Row := [.sl (ApiDecl.rows x.Decls), .sl (ApiStmt.rows x.Body)]
def ApiProgram.rows (l : List ApiProgram) : List Row := l.map ApiProgram.row
theorem ApiProgram.rows_map (l : List ApiProgram) : ApiProgram.rows l = l.map ApiProgram.row := rfl
def ApiProgram.cells (x : ApiProgram) : List A := [.d (.sl (ApiDecl.rows x.Decls)), .d (.sl (ApiStmt.rows x.Body))]
theorem ApiProgram.idx {l : List ApiProgram} {n : Int} {x : ApiProgram} (h : idx l n = some x) : (ApiProgram.rows l)[n.toNat]? = some (ApiProgram.row x) := rows_idx ApiProgram.rows_map h
theorem ApiProgram.app (l m : List ApiProgram) : ApiProgram.rows (l ++ m) = ApiProgram.rows l ++ ApiProgram.rows m := rows_app ApiProgram.rows_map l m
theorem ApiProgram.len (l : List ApiProgram) : (ApiProgram.rows l).length = l.length := rows_len ApiProgram.rows_map l
theorem ApiProgram.lenA (l : List ApiProgram) : A.d (.int .i64 ((ApiProgram.rows l).length : Nat)) = A.d (.int .i64 (l.length : Nat)) := rows_lenA ApiProgram.rows_map l
theorem ApiProgram.sz (l : List ApiProgram) : ∀ r ∈ ApiProgram.rows l, r.length = 2 := rows_sz ApiProgram.rows_map (fun _ => rfl) l
theorem ApiProgram.part {l x : List ApiProgram} {a b : Int} (h : slc l a b = some x) : a = (a.toNat : Int) ∧ b = (b.toNat : Int) ∧ a.toNat ≤ b.toNat ∧ b.toNat ≤ (ApiProgram.rows l).length ∧ ApiProgram.rows x = ((ApiProgram.rows l).take b.toNat).drop a.toNat := rows_part ApiProgram.rows_map h
def ApiProgram.ents (m : List (Str × ApiProgram)) : List (Str × Row) := entsOf ApiProgram.row m
def ApiProgram.val (x : ApiProgram) : A := .agg (ApiProgram.cells x)
theorem ApiProgram.lkT {k : Str} {m : List (Str × ApiProgram)} {x : Option ApiProgram} (hx : some (mgt k m) = some x) : lkA (mget k (ApiProgram.ents m)) (ApiProgram.val ApiProgram.zero) true = .tup [ApiProgram.val (x.getD ApiProgram.zero), .d (.bool x.isSome)] := lk_T (h := ApiProgram.val) (fun _ => rfl) rfl hx
theorem ApiProgram.lk {k : Str} {m : List (Str × ApiProgram)} {x : Option ApiProgram} (hx : some (mgt k m) = some x) : lkA (mget k (ApiProgram.ents m)) (ApiProgram.val ApiProgram.zero) false = ApiProgram.val (x.getD ApiProgram.zero) := lk_1 (h := ApiProgram.val) (fun _ => rfl) rfl hx
theorem ApiProgram.lkNT {x : Option ApiProgram} (hx : some none = some x) : lkA none (ApiProgram.val ApiProgram.zero) true = .tup [ApiProgram.val (x.getD ApiProgram.zero), .d (.bool x.isSome)] := lk_NT (h := ApiProgram.val) rfl hx
theorem ApiProgram.lkN {x : Option ApiProgram} (hx : some none = some x) : lkA none (ApiProgram.val ApiProgram.zero) false = ApiProgram.val (x.getD ApiProgram.zero) := lk_N1 (h := ApiProgram.val) rfl hx
theorem ApiProgram.mput (k : Str) (x : ApiProgram) (m : List (Str × ApiProgram)) : mput k (ApiProgram.row x) (ApiProgram.ents m) = ApiProgram.ents (mpt k x m) := (ents_put ApiProgram.row k x m).symm
structure SyntaxReport where
  nodes : Int
  depth : Int
  badForm : Bool
  badName : Bool
  badNumber : Bool
def SyntaxReport.zero : SyntaxReport := ⟨0, 0, false, false, false⟩
instance : Inhabited SyntaxReport := ⟨SyntaxReport.zero⟩
def SyntaxReport.row (x : SyntaxReport) : Row := [.int .i64 x.nodes, .int .i64 x.depth, .bool x.badForm, .bool x.badName, .bool x.badNumber]
def SyntaxReport.rows (l : List SyntaxReport) : List Row := l.map SyntaxReport.row
theorem SyntaxReport.rows_map (l : List SyntaxReport) : SyntaxReport.rows l = l.map SyntaxReport.row := rfl
def SyntaxReport.cells (x : SyntaxReport) : List A := [.d (.int .i64 x.nodes), .d (.int .i64 x.depth), .d (.bool x.badForm), .d (.bool x.badName), .d (.bool x.badNumber)]
theorem SyntaxReport.idx {l : List SyntaxReport} {n : Int} {x : SyntaxReport} (h : idx l n = some x) : (SyntaxReport.rows l)[n.toNat]? = some (SyntaxReport.row x) := rows_idx SyntaxReport.rows_map h
theorem SyntaxReport.app (l m : List SyntaxReport) : SyntaxReport.rows (l ++ m) = SyntaxReport.rows l ++ SyntaxReport.rows m := rows_app SyntaxReport.rows_map l m
theorem SyntaxReport.len (l : List SyntaxReport) : (SyntaxReport.rows l).length = l.length := rows_len SyntaxReport.rows_map l
theorem SyntaxReport.lenA (l : List SyntaxReport) : A.d (.int .i64 ((SyntaxReport.rows l).length : Nat)) = A.d (.int .i64 (l.length : Nat)) := rows_lenA SyntaxReport.rows_map l
theorem SyntaxReport.sz (l : List SyntaxReport) : ∀ r ∈ SyntaxReport.rows l, r.length = 5 := rows_sz SyntaxReport.rows_map (fun _ => rfl) l
theorem SyntaxReport.part {l x : List SyntaxReport} {a b : Int} (h : slc l a b = some x) : a = (a.toNat : Int) ∧ b = (b.toNat : Int) ∧ a.toNat ≤ b.toNat ∧ b.toNat ≤ (SyntaxReport.rows l).length ∧ SyntaxReport.rows x = ((SyntaxReport.rows l).take b.toNat).drop a.toNat := rows_part SyntaxReport.rows_map h
def SyntaxReport.ents (m : List (Str × SyntaxReport)) : List (Str × Row) := entsOf SyntaxReport.row m
def SyntaxReport.val (x : SyntaxReport) : A := .agg (SyntaxReport.cells x)
theorem SyntaxReport.lkT {k : Str} {m : List (Str × SyntaxReport)} {x : Option SyntaxReport} (hx : some (mgt k m) = some x) : lkA (mget k (SyntaxReport.ents m)) (SyntaxReport.val SyntaxReport.zero) true = .tup [SyntaxReport.val (x.getD SyntaxReport.zero), .d (.bool x.isSome)] := lk_T (h := SyntaxReport.val) (fun _ => rfl) rfl hx
theorem SyntaxReport.lk {k : Str} {m : List (Str × SyntaxReport)} {x : Option SyntaxReport} (hx : some (mgt k m) = some x) : lkA (mget k (SyntaxReport.ents m)) (SyntaxReport.val SyntaxReport.zero) false = SyntaxReport.val (x.getD SyntaxReport.zero) := lk_1 (h := SyntaxReport.val) (fun _ => rfl) rfl hx
theorem SyntaxReport.lkNT {x : Option SyntaxReport} (hx : some none = some x) : lkA none (SyntaxReport.val SyntaxReport.zero) true = .tup [SyntaxReport.val (x.getD SyntaxReport.zero), .d (.bool x.isSome)] := lk_NT (h := SyntaxReport.val) rfl hx
theorem SyntaxReport.lkN {x : Option SyntaxReport} (hx : some none = some x) : lkA none (SyntaxReport.val SyntaxReport.zero) false = SyntaxReport.val (x.getD SyntaxReport.zero) := lk_N1 (h := SyntaxReport.val) rfl hx
theorem SyntaxReport.mput (k : Str) (x : SyntaxReport) (m : List (Str × SyntaxReport)) : mput k (SyntaxReport.row x) (SyntaxReport.ents m) = SyntaxReport.ents (mpt k x m) := (ents_put SyntaxReport.row k x m).symm
structure SyntaxUses where
  place : Bool
  value : Bool
  name : Bool
  args : Bool
  n : Bool
  bounds : Bool
  numbers : Bool
  thenV : Bool
  other : Bool
def SyntaxUses.zero : SyntaxUses := ⟨false, false, false, false, false, false, false, false, false⟩
instance : Inhabited SyntaxUses := ⟨SyntaxUses.zero⟩
def SyntaxUses.row (x : SyntaxUses) : Row := [.bool x.place, .bool x.value, .bool x.name, .bool x.args, .bool x.n, .bool x.bounds, .bool x.numbers, .bool x.thenV, .bool x.other]
def SyntaxUses.rows (l : List SyntaxUses) : List Row := l.map SyntaxUses.row
theorem SyntaxUses.rows_map (l : List SyntaxUses) : SyntaxUses.rows l = l.map SyntaxUses.row := rfl
def SyntaxUses.cells (x : SyntaxUses) : List A := [.d (.bool x.place), .d (.bool x.value), .d (.bool x.name), .d (.bool x.args), .d (.bool x.n), .d (.bool x.bounds), .d (.bool x.numbers), .d (.bool x.thenV), .d (.bool x.other)]
theorem SyntaxUses.idx {l : List SyntaxUses} {n : Int} {x : SyntaxUses} (h : idx l n = some x) : (SyntaxUses.rows l)[n.toNat]? = some (SyntaxUses.row x) := rows_idx SyntaxUses.rows_map h
theorem SyntaxUses.app (l m : List SyntaxUses) : SyntaxUses.rows (l ++ m) = SyntaxUses.rows l ++ SyntaxUses.rows m := rows_app SyntaxUses.rows_map l m
theorem SyntaxUses.len (l : List SyntaxUses) : (SyntaxUses.rows l).length = l.length := rows_len SyntaxUses.rows_map l
theorem SyntaxUses.lenA (l : List SyntaxUses) : A.d (.int .i64 ((SyntaxUses.rows l).length : Nat)) = A.d (.int .i64 (l.length : Nat)) := rows_lenA SyntaxUses.rows_map l
theorem SyntaxUses.sz (l : List SyntaxUses) : ∀ r ∈ SyntaxUses.rows l, r.length = 9 := rows_sz SyntaxUses.rows_map (fun _ => rfl) l
theorem SyntaxUses.part {l x : List SyntaxUses} {a b : Int} (h : slc l a b = some x) : a = (a.toNat : Int) ∧ b = (b.toNat : Int) ∧ a.toNat ≤ b.toNat ∧ b.toNat ≤ (SyntaxUses.rows l).length ∧ SyntaxUses.rows x = ((SyntaxUses.rows l).take b.toNat).drop a.toNat := rows_part SyntaxUses.rows_map h
def SyntaxUses.ents (m : List (Str × SyntaxUses)) : List (Str × Row) := entsOf SyntaxUses.row m
def SyntaxUses.val (x : SyntaxUses) : A := .agg (SyntaxUses.cells x)
theorem SyntaxUses.lkT {k : Str} {m : List (Str × SyntaxUses)} {x : Option SyntaxUses} (hx : some (mgt k m) = some x) : lkA (mget k (SyntaxUses.ents m)) (SyntaxUses.val SyntaxUses.zero) true = .tup [SyntaxUses.val (x.getD SyntaxUses.zero), .d (.bool x.isSome)] := lk_T (h := SyntaxUses.val) (fun _ => rfl) rfl hx
theorem SyntaxUses.lk {k : Str} {m : List (Str × SyntaxUses)} {x : Option SyntaxUses} (hx : some (mgt k m) = some x) : lkA (mget k (SyntaxUses.ents m)) (SyntaxUses.val SyntaxUses.zero) false = SyntaxUses.val (x.getD SyntaxUses.zero) := lk_1 (h := SyntaxUses.val) (fun _ => rfl) rfl hx
theorem SyntaxUses.lkNT {x : Option SyntaxUses} (hx : some none = some x) : lkA none (SyntaxUses.val SyntaxUses.zero) true = .tup [SyntaxUses.val (x.getD SyntaxUses.zero), .d (.bool x.isSome)] := lk_NT (h := SyntaxUses.val) rfl hx
theorem SyntaxUses.lkN {x : Option SyntaxUses} (hx : some none = some x) : lkA none (SyntaxUses.val SyntaxUses.zero) false = SyntaxUses.val (x.getD SyntaxUses.zero) := lk_N1 (h := SyntaxUses.val) rfl hx
theorem SyntaxUses.mput (k : Str) (x : SyntaxUses) (m : List (Str × SyntaxUses)) : mput k (SyntaxUses.row x) (SyntaxUses.ents m) = SyntaxUses.ents (mpt k x m) := (ents_put SyntaxUses.row k x m).symm
structure Keyholeref10Size where
  nodes : Int
  depth : Int
def Keyholeref10Size.zero : Keyholeref10Size := ⟨0, 0⟩
instance : Inhabited Keyholeref10Size := ⟨Keyholeref10Size.zero⟩
def Keyholeref10Size.row (x : Keyholeref10Size) : Row := [.int .i64 x.nodes, .int .i64 x.depth]
def Keyholeref10Size.rows (l : List Keyholeref10Size) : List Row := l.map Keyholeref10Size.row
theorem Keyholeref10Size.rows_map (l : List Keyholeref10Size) : Keyholeref10Size.rows l = l.map Keyholeref10Size.row := rfl
def Keyholeref10Size.cells (x : Keyholeref10Size) : List A := [.d (.int .i64 x.nodes), .d (.int .i64 x.depth)]
theorem Keyholeref10Size.idx {l : List Keyholeref10Size} {n : Int} {x : Keyholeref10Size} (h : idx l n = some x) : (Keyholeref10Size.rows l)[n.toNat]? = some (Keyholeref10Size.row x) := rows_idx Keyholeref10Size.rows_map h
theorem Keyholeref10Size.app (l m : List Keyholeref10Size) : Keyholeref10Size.rows (l ++ m) = Keyholeref10Size.rows l ++ Keyholeref10Size.rows m := rows_app Keyholeref10Size.rows_map l m
theorem Keyholeref10Size.len (l : List Keyholeref10Size) : (Keyholeref10Size.rows l).length = l.length := rows_len Keyholeref10Size.rows_map l
theorem Keyholeref10Size.lenA (l : List Keyholeref10Size) : A.d (.int .i64 ((Keyholeref10Size.rows l).length : Nat)) = A.d (.int .i64 (l.length : Nat)) := rows_lenA Keyholeref10Size.rows_map l
theorem Keyholeref10Size.sz (l : List Keyholeref10Size) : ∀ r ∈ Keyholeref10Size.rows l, r.length = 2 := rows_sz Keyholeref10Size.rows_map (fun _ => rfl) l
theorem Keyholeref10Size.part {l x : List Keyholeref10Size} {a b : Int} (h : slc l a b = some x) : a = (a.toNat : Int) ∧ b = (b.toNat : Int) ∧ a.toNat ≤ b.toNat ∧ b.toNat ≤ (Keyholeref10Size.rows l).length ∧ Keyholeref10Size.rows x = ((Keyholeref10Size.rows l).take b.toNat).drop a.toNat := rows_part Keyholeref10Size.rows_map h
def Keyholeref10Size.ents (m : List (Str × Keyholeref10Size)) : List (Str × Row) := entsOf Keyholeref10Size.row m
def Keyholeref10Size.val (x : Keyholeref10Size) : A := .agg (Keyholeref10Size.cells x)
theorem Keyholeref10Size.lkT {k : Str} {m : List (Str × Keyholeref10Size)} {x : Option Keyholeref10Size} (hx : some (mgt k m) = some x) : lkA (mget k (Keyholeref10Size.ents m)) (Keyholeref10Size.val Keyholeref10Size.zero) true = .tup [Keyholeref10Size.val (x.getD Keyholeref10Size.zero), .d (.bool x.isSome)] := lk_T (h := Keyholeref10Size.val) (fun _ => rfl) rfl hx
theorem Keyholeref10Size.lk {k : Str} {m : List (Str × Keyholeref10Size)} {x : Option Keyholeref10Size} (hx : some (mgt k m) = some x) : lkA (mget k (Keyholeref10Size.ents m)) (Keyholeref10Size.val Keyholeref10Size.zero) false = Keyholeref10Size.val (x.getD Keyholeref10Size.zero) := lk_1 (h := Keyholeref10Size.val) (fun _ => rfl) rfl hx
theorem Keyholeref10Size.lkNT {x : Option Keyholeref10Size} (hx : some none = some x) : lkA none (Keyholeref10Size.val Keyholeref10Size.zero) true = .tup [Keyholeref10Size.val (x.getD Keyholeref10Size.zero), .d (.bool x.isSome)] := lk_NT (h := Keyholeref10Size.val) rfl hx
theorem Keyholeref10Size.lkN {x : Option Keyholeref10Size} (hx : some none = some x) : lkA none (Keyholeref10Size.val Keyholeref10Size.zero) false = Keyholeref10Size.val (x.getD Keyholeref10Size.zero) := lk_N1 (h := Keyholeref10Size.val) rfl hx
theorem Keyholeref10Size.mput (k : Str) (x : Keyholeref10Size) (m : List (Str × Keyholeref10Size)) : mput k (Keyholeref10Size.row x) (Keyholeref10Size.ents m) = Keyholeref10Size.ents (mpt k x m) := (ents_put Keyholeref10Size.row k x m).symm
end Go.Proofs.YtmilgoloagbmpaaGreatDoor

