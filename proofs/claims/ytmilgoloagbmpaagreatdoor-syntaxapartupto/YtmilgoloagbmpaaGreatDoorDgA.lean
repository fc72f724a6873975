/- A part of the proof of SyntaxApart. -/
import Derived.Test.YtmilgoloagbmpaaGreatDoorXxA
import Derived.Test.YtmilgoloagbmpaaGreatDoorAmB
set_option maxRecDepth 100000
set_option maxHeartbeats 4000000
set_option linter.unusedVariables false
namespace Go.Proofs.YtmilgoloagbmpaaGreatDoor
open Go.Am
instance : Nonempty (CxOk C) := ⟨hC⟩
def ebool.zero : Bool := false
def ebool.leaf (x : Bool) : D := .bool x
def ebool.cells (l : List Bool) : List A := l.map fun x => .d (ebool.leaf x)
def ebool.row (x : Bool) : Row := [.bool x]
def ebool.rows (l : List Bool) : List Row := l.map ebool.row
theorem ebool.rows_map (l : List Bool) : ebool.rows l = l.map ebool.row := rfl
theorem ebool.idx {l : List Bool} {n : Int} {x : Bool} (h : idx l n = some x) : (ebool.rows l)[n.toNat]? = some (ebool.row x) := rows_idx ebool.rows_map h
theorem ebool.app (l m : List Bool) : ebool.rows (l ++ m) = ebool.rows l ++ ebool.rows m := rows_app ebool.rows_map l m
theorem ebool.len (l : List Bool) : (ebool.rows l).length = l.length := rows_len ebool.rows_map l
theorem ebool.lenA (l : List Bool) : A.d (.int .i64 ((ebool.rows l).length : Nat)) = A.d (.int .i64 (l.length : Nat)) := rows_lenA ebool.rows_map l
theorem ebool.sz (l : List Bool) : ∀ r ∈ ebool.rows l, r.length = 1 := rows_sz ebool.rows_map (fun _ => rfl) l
theorem ebool.part {l x : List Bool} {a b : Int} (h : slc l a b = some x) : a = (a.toNat : Int) ∧ b = (b.toNat : Int) ∧ a.toNat ≤ b.toNat ∧ b.toNat ≤ (ebool.rows l).length ∧ ebool.rows x = ((ebool.rows l).take b.toNat).drop a.toNat := rows_part ebool.rows_map h
def ebool.ents (m : List (Str × Bool)) : List (Str × Row) := entsOf ebool.row m
def ebool.val (x : Bool) : A := .d (.bool x)
theorem ebool.lkT {k : Str} {m : List (Str × Bool)} {x : Option Bool} (hx : some (mgt k m) = some x) : lkA (mget k (ebool.ents m)) (ebool.val ebool.zero) true = .tup [ebool.val (x.getD ebool.zero), .d (.bool x.isSome)] := lk_T (h := ebool.val) (fun _ => rfl) rfl hx
theorem ebool.lk {k : Str} {m : List (Str × Bool)} {x : Option Bool} (hx : some (mgt k m) = some x) : lkA (mget k (ebool.ents m)) (ebool.val ebool.zero) false = ebool.val (x.getD ebool.zero) := lk_1 (h := ebool.val) (fun _ => rfl) rfl hx
theorem ebool.lkNT {x : Option Bool} (hx : some none = some x) : lkA none (ebool.val ebool.zero) true = .tup [ebool.val (x.getD ebool.zero), .d (.bool x.isSome)] := lk_NT (h := ebool.val) rfl hx
theorem ebool.lkN {x : Option Bool} (hx : some none = some x) : lkA none (ebool.val ebool.zero) false = ebool.val (x.getD ebool.zero) := lk_N1 (h := ebool.val) rfl hx
theorem ebool.mput (k : Str) (x : Bool) (m : List (Str × Bool)) : mput k (ebool.row x) (ebool.ents m) = ebool.ents (mpt k x m) := (ents_put ebool.row k x m).symm
def estr.zero : Str := []
def estr.leaf (x : Str) : D := .str x
def estr.cells (l : List Str) : List A := l.map fun x => .d (estr.leaf x)
def estr.row (x : Str) : Row := [.str x]
def estr.rows (l : List Str) : List Row := l.map estr.row
theorem estr.rows_map (l : List Str) : estr.rows l = l.map estr.row := rfl
theorem estr.idx {l : List Str} {n : Int} {x : Str} (h : idx l n = some x) : (estr.rows l)[n.toNat]? = some (estr.row x) := rows_idx estr.rows_map h
theorem estr.app (l m : List Str) : estr.rows (l ++ m) = estr.rows l ++ estr.rows m := rows_app estr.rows_map l m
theorem estr.len (l : List Str) : (estr.rows l).length = l.length := rows_len estr.rows_map l
theorem estr.lenA (l : List Str) : A.d (.int .i64 ((estr.rows l).length : Nat)) = A.d (.int .i64 (l.length : Nat)) := rows_lenA estr.rows_map l
theorem estr.sz (l : List Str) : ∀ r ∈ estr.rows l, r.length = 1 := rows_sz estr.rows_map (fun _ => rfl) l
theorem estr.part {l x : List Str} {a b : Int} (h : slc l a b = some x) : a = (a.toNat : Int) ∧ b = (b.toNat : Int) ∧ a.toNat ≤ b.toNat ∧ b.toNat ≤ (estr.rows l).length ∧ estr.rows x = ((estr.rows l).take b.toNat).drop a.toNat := rows_part estr.rows_map h
def estr.ents (m : List (Str × Str)) : List (Str × Row) := entsOf estr.row m
def estr.val (x : Str) : A := .d (.str x)
theorem estr.lkT {k : Str} {m : List (Str × Str)} {x : Option Str} (hx : some (mgt k m) = some x) : lkA (mget k (estr.ents m)) (estr.val estr.zero) true = .tup [estr.val (x.getD estr.zero), .d (.bool x.isSome)] := lk_T (h := estr.val) (fun _ => rfl) rfl hx
theorem estr.lk {k : Str} {m : List (Str × Str)} {x : Option Str} (hx : some (mgt k m) = some x) : lkA (mget k (estr.ents m)) (estr.val estr.zero) false = estr.val (x.getD estr.zero) := lk_1 (h := estr.val) (fun _ => rfl) rfl hx
theorem estr.lkNT {x : Option Str} (hx : some none = some x) : lkA none (estr.val estr.zero) true = .tup [estr.val (x.getD estr.zero), .d (.bool x.isSome)] := lk_NT (h := estr.val) rfl hx
theorem estr.lkN {x : Option Str} (hx : some none = some x) : lkA none (estr.val estr.zero) false = estr.val (x.getD estr.zero) := lk_N1 (h := estr.val) rfl hx
theorem estr.mput (k : Str) (x : Str) (m : List (Str × Str)) : mput k (estr.row x) (estr.ents m) = estr.ents (mpt k x m) := (ents_put estr.row k x m).symm
def ei8.zero : Int := 0
def ei8.leaf (x : Int) : D := .int .i8 x
def ei8.cells (l : List Int) : List A := l.map fun x => .d (ei8.leaf x)
def ei8.row (x : Int) : Row := [.int .i8 x]
def ei8.rows (l : List Int) : List Row := l.map ei8.row
theorem ei8.rows_map (l : List Int) : ei8.rows l = l.map ei8.row := rfl
theorem ei8.idx {l : List Int} {n : Int} {x : Int} (h : idx l n = some x) : (ei8.rows l)[n.toNat]? = some (ei8.row x) := rows_idx ei8.rows_map h
theorem ei8.app (l m : List Int) : ei8.rows (l ++ m) = ei8.rows l ++ ei8.rows m := rows_app ei8.rows_map l m
theorem ei8.len (l : List Int) : (ei8.rows l).length = l.length := rows_len ei8.rows_map l
theorem ei8.lenA (l : List Int) : A.d (.int .i64 ((ei8.rows l).length : Nat)) = A.d (.int .i64 (l.length : Nat)) := rows_lenA ei8.rows_map l
theorem ei8.sz (l : List Int) : ∀ r ∈ ei8.rows l, r.length = 1 := rows_sz ei8.rows_map (fun _ => rfl) l
theorem ei8.part {l x : List Int} {a b : Int} (h : slc l a b = some x) : a = (a.toNat : Int) ∧ b = (b.toNat : Int) ∧ a.toNat ≤ b.toNat ∧ b.toNat ≤ (ei8.rows l).length ∧ ei8.rows x = ((ei8.rows l).take b.toNat).drop a.toNat := rows_part ei8.rows_map h
def ei8.ents (m : List (Str × Int)) : List (Str × Row) := entsOf ei8.row m
def ei8.val (x : Int) : A := .d (.int .i8 x)
theorem ei8.lkT {k : Str} {m : List (Str × Int)} {x : Option Int} (hx : some (mgt k m) = some x) : lkA (mget k (ei8.ents m)) (ei8.val ei8.zero) true = .tup [ei8.val (x.getD ei8.zero), .d (.bool x.isSome)] := lk_T (h := ei8.val) (fun _ => rfl) rfl hx
theorem ei8.lk {k : Str} {m : List (Str × Int)} {x : Option Int} (hx : some (mgt k m) = some x) : lkA (mget k (ei8.ents m)) (ei8.val ei8.zero) false = ei8.val (x.getD ei8.zero) := lk_1 (h := ei8.val) (fun _ => rfl) rfl hx
theorem ei8.lkNT {x : Option Int} (hx : some none = some x) : lkA none (ei8.val ei8.zero) true = .tup [ei8.val (x.getD ei8.zero), .d (.bool x.isSome)] := lk_NT (h := ei8.val) rfl hx
theorem ei8.lkN {x : Option Int} (hx : some none = some x) : lkA none (ei8.val ei8.zero) false = ei8.val (x.getD ei8.zero) := lk_N1 (h := ei8.val) rfl hx
theorem ei8.mput (k : Str) (x : Int) (m : List (Str × Int)) : mput k (ei8.row x) (ei8.ents m) = ei8.ents (mpt k x m) := (ents_put ei8.row k x m).symm
def ei16.zero : Int := 0
def ei16.leaf (x : Int) : D := .int .i16 x
def ei16.cells (l : List Int) : List A := l.map fun x => .d (ei16.leaf x)
def ei16.row (x : Int) : Row := [.int .i16 x]
def ei16.rows (l : List Int) : List Row := l.map ei16.row
theorem ei16.rows_map (l : List Int) : ei16.rows l = l.map ei16.row := rfl
theorem ei16.idx {l : List Int} {n : Int} {x : Int} (h : idx l n = some x) : (ei16.rows l)[n.toNat]? = some (ei16.row x) := rows_idx ei16.rows_map h
theorem ei16.app (l m : List Int) : ei16.rows (l ++ m) = ei16.rows l ++ ei16.rows m := rows_app ei16.rows_map l m
theorem ei16.len (l : List Int) : (ei16.rows l).length = l.length := rows_len ei16.rows_map l
theorem ei16.lenA (l : List Int) : A.d (.int .i64 ((ei16.rows l).length : Nat)) = A.d (.int .i64 (l.length : Nat)) := rows_lenA ei16.rows_map l
theorem ei16.sz (l : List Int) : ∀ r ∈ ei16.rows l, r.length = 1 := rows_sz ei16.rows_map (fun _ => rfl) l
theorem ei16.part {l x : List Int} {a b : Int} (h : slc l a b = some x) : a = (a.toNat : Int) ∧ b = (b.toNat : Int) ∧ a.toNat ≤ b.toNat ∧ b.toNat ≤ (ei16.rows l).length ∧ ei16.rows x = ((ei16.rows l).take b.toNat).drop a.toNat := rows_part ei16.rows_map h
def ei16.ents (m : List (Str × Int)) : List (Str × Row) := entsOf ei16.row m
def ei16.val (x : Int) : A := .d (.int .i16 x)
theorem ei16.lkT {k : Str} {m : List (Str × Int)} {x : Option Int} (hx : some (mgt k m) = some x) : lkA (mget k (ei16.ents m)) (ei16.val ei16.zero) true = .tup [ei16.val (x.getD ei16.zero), .d (.bool x.isSome)] := lk_T (h := ei16.val) (fun _ => rfl) rfl hx
theorem ei16.lk {k : Str} {m : List (Str × Int)} {x : Option Int} (hx : some (mgt k m) = some x) : lkA (mget k (ei16.ents m)) (ei16.val ei16.zero) false = ei16.val (x.getD ei16.zero) := lk_1 (h := ei16.val) (fun _ => rfl) rfl hx
theorem ei16.lkNT {x : Option Int} (hx : some none = some x) : lkA none (ei16.val ei16.zero) true = .tup [ei16.val (x.getD ei16.zero), .d (.bool x.isSome)] := lk_NT (h := ei16.val) rfl hx
theorem ei16.lkN {x : Option Int} (hx : some none = some x) : lkA none (ei16.val ei16.zero) false = ei16.val (x.getD ei16.zero) := lk_N1 (h := ei16.val) rfl hx
theorem ei16.mput (k : Str) (x : Int) (m : List (Str × Int)) : mput k (ei16.row x) (ei16.ents m) = ei16.ents (mpt k x m) := (ents_put ei16.row k x m).symm
def ei32.zero : Int := 0
def ei32.leaf (x : Int) : D := .int .i32 x
def ei32.cells (l : List Int) : List A := l.map fun x => .d (ei32.leaf x)
def ei32.row (x : Int) : Row := [.int .i32 x]
def ei32.rows (l : List Int) : List Row := l.map ei32.row
theorem ei32.rows_map (l : List Int) : ei32.rows l = l.map ei32.row := rfl
theorem ei32.idx {l : List Int} {n : Int} {x : Int} (h : idx l n = some x) : (ei32.rows l)[n.toNat]? = some (ei32.row x) := rows_idx ei32.rows_map h
theorem ei32.app (l m : List Int) : ei32.rows (l ++ m) = ei32.rows l ++ ei32.rows m := rows_app ei32.rows_map l m
theorem ei32.len (l : List Int) : (ei32.rows l).length = l.length := rows_len ei32.rows_map l
theorem ei32.lenA (l : List Int) : A.d (.int .i64 ((ei32.rows l).length : Nat)) = A.d (.int .i64 (l.length : Nat)) := rows_lenA ei32.rows_map l
theorem ei32.sz (l : List Int) : ∀ r ∈ ei32.rows l, r.length = 1 := rows_sz ei32.rows_map (fun _ => rfl) l
theorem ei32.part {l x : List Int} {a b : Int} (h : slc l a b = some x) : a = (a.toNat : Int) ∧ b = (b.toNat : Int) ∧ a.toNat ≤ b.toNat ∧ b.toNat ≤ (ei32.rows l).length ∧ ei32.rows x = ((ei32.rows l).take b.toNat).drop a.toNat := rows_part ei32.rows_map h
def ei32.ents (m : List (Str × Int)) : List (Str × Row) := entsOf ei32.row m
def ei32.val (x : Int) : A := .d (.int .i32 x)
theorem ei32.lkT {k : Str} {m : List (Str × Int)} {x : Option Int} (hx : some (mgt k m) = some x) : lkA (mget k (ei32.ents m)) (ei32.val ei32.zero) true = .tup [ei32.val (x.getD ei32.zero), .d (.bool x.isSome)] := lk_T (h := ei32.val) (fun _ => rfl) rfl hx
theorem ei32.lk {k : Str} {m : List (Str × Int)} {x : Option Int} (hx : some (mgt k m) = some x) : lkA (mget k (ei32.ents m)) (ei32.val ei32.zero) false = ei32.val (x.getD ei32.zero) := lk_1 (h := ei32.val) (fun _ => rfl) rfl hx
theorem ei32.lkNT {x : Option Int} (hx : some none = some x) : lkA none (ei32.val ei32.zero) true = .tup [ei32.val (x.getD ei32.zero), .d (.bool x.isSome)] := lk_NT (h := ei32.val) rfl hx
theorem ei32.lkN {x : Option Int} (hx : some none = some x) : lkA none (ei32.val ei32.zero) false = ei32.val (x.getD ei32.zero) := lk_N1 (h := ei32.val) rfl hx
theorem ei32.mput (k : Str) (x : Int) (m : List (Str × Int)) : mput k (ei32.row x) (ei32.ents m) = ei32.ents (mpt k x m) := (ents_put ei32.row k x m).symm
def ei64.zero : Int := 0
def ei64.leaf (x : Int) : D := .int .i64 x
def ei64.cells (l : List Int) : List A := l.map fun x => .d (ei64.leaf x)
def ei64.row (x : Int) : Row := [.int .i64 x]
def ei64.rows (l : List Int) : List Row := l.map ei64.row
theorem ei64.rows_map (l : List Int) : ei64.rows l = l.map ei64.row := rfl
theorem ei64.idx {l : List Int} {n : Int} {x : Int} (h : idx l n = some x) : (ei64.rows l)[n.toNat]? = some (ei64.row x) := rows_idx ei64.rows_map h
theorem ei64.app (l m : List Int) : ei64.rows (l ++ m) = ei64.rows l ++ ei64.rows m := rows_app ei64.rows_map l m
theorem ei64.len (l : List Int) : (ei64.rows l).length = l.length := rows_len ei64.rows_map l
theorem ei64.lenA (l : List Int) : A.d (.int .i64 ((ei64.rows l).length : Nat)) = A.d (.int .i64 (l.length : Nat)) := rows_lenA ei64.rows_map l
theorem ei64.sz (l : List Int) : ∀ r ∈ ei64.rows l, r.length = 1 := rows_sz ei64.rows_map (fun _ => rfl) l
theorem ei64.part {l x : List Int} {a b : Int} (h : slc l a b = some x) : a = (a.toNat : Int) ∧ b = (b.toNat : Int) ∧ a.toNat ≤ b.toNat ∧ b.toNat ≤ (ei64.rows l).length ∧ ei64.rows x = ((ei64.rows l).take b.toNat).drop a.toNat := rows_part ei64.rows_map h
def ei64.ents (m : List (Str × Int)) : List (Str × Row) := entsOf ei64.row m
def ei64.val (x : Int) : A := .d (.int .i64 x)
theorem ei64.lkT {k : Str} {m : List (Str × Int)} {x : Option Int} (hx : some (mgt k m) = some x) : lkA (mget k (ei64.ents m)) (ei64.val ei64.zero) true = .tup [ei64.val (x.getD ei64.zero), .d (.bool x.isSome)] := lk_T (h := ei64.val) (fun _ => rfl) rfl hx
theorem ei64.lk {k : Str} {m : List (Str × Int)} {x : Option Int} (hx : some (mgt k m) = some x) : lkA (mget k (ei64.ents m)) (ei64.val ei64.zero) false = ei64.val (x.getD ei64.zero) := lk_1 (h := ei64.val) (fun _ => rfl) rfl hx
theorem ei64.lkNT {x : Option Int} (hx : some none = some x) : lkA none (ei64.val ei64.zero) true = .tup [ei64.val (x.getD ei64.zero), .d (.bool x.isSome)] := lk_NT (h := ei64.val) rfl hx
theorem ei64.lkN {x : Option Int} (hx : some none = some x) : lkA none (ei64.val ei64.zero) false = ei64.val (x.getD ei64.zero) := lk_N1 (h := ei64.val) rfl hx
theorem ei64.mput (k : Str) (x : Int) (m : List (Str × Int)) : mput k (ei64.row x) (ei64.ents m) = ei64.ents (mpt k x m) := (ents_put ei64.row k x m).symm
def eu8.zero : Int := 0
def eu8.leaf (x : Int) : D := .int .u8 x
def eu8.cells (l : List Int) : List A := l.map fun x => .d (eu8.leaf x)
def eu8.row (x : Int) : Row := [.int .u8 x]
def eu8.rows (l : List Int) : List Row := l.map eu8.row
theorem eu8.rows_map (l : List Int) : eu8.rows l = l.map eu8.row := rfl
theorem eu8.idx {l : List Int} {n : Int} {x : Int} (h : idx l n = some x) : (eu8.rows l)[n.toNat]? = some (eu8.row x) := rows_idx eu8.rows_map h
theorem eu8.app (l m : List Int) : eu8.rows (l ++ m) = eu8.rows l ++ eu8.rows m := rows_app eu8.rows_map l m
theorem eu8.len (l : List Int) : (eu8.rows l).length = l.length := rows_len eu8.rows_map l
theorem eu8.lenA (l : List Int) : A.d (.int .i64 ((eu8.rows l).length : Nat)) = A.d (.int .i64 (l.length : Nat)) := rows_lenA eu8.rows_map l
theorem eu8.sz (l : List Int) : ∀ r ∈ eu8.rows l, r.length = 1 := rows_sz eu8.rows_map (fun _ => rfl) l
theorem eu8.part {l x : List Int} {a b : Int} (h : slc l a b = some x) : a = (a.toNat : Int) ∧ b = (b.toNat : Int) ∧ a.toNat ≤ b.toNat ∧ b.toNat ≤ (eu8.rows l).length ∧ eu8.rows x = ((eu8.rows l).take b.toNat).drop a.toNat := rows_part eu8.rows_map h
def eu8.ents (m : List (Str × Int)) : List (Str × Row) := entsOf eu8.row m
def eu8.val (x : Int) : A := .d (.int .u8 x)
theorem eu8.lkT {k : Str} {m : List (Str × Int)} {x : Option Int} (hx : some (mgt k m) = some x) : lkA (mget k (eu8.ents m)) (eu8.val eu8.zero) true = .tup [eu8.val (x.getD eu8.zero), .d (.bool x.isSome)] := lk_T (h := eu8.val) (fun _ => rfl) rfl hx
theorem eu8.lk {k : Str} {m : List (Str × Int)} {x : Option Int} (hx : some (mgt k m) = some x) : lkA (mget k (eu8.ents m)) (eu8.val eu8.zero) false = eu8.val (x.getD eu8.zero) := lk_1 (h := eu8.val) (fun _ => rfl) rfl hx
theorem eu8.lkNT {x : Option Int} (hx : some none = some x) : lkA none (eu8.val eu8.zero) true = .tup [eu8.val (x.getD eu8.zero), .d (.bool x.isSome)] := lk_NT (h := eu8.val) rfl hx
theorem eu8.lkN {x : Option Int} (hx : some none = some x) : lkA none (eu8.val eu8.zero) false = eu8.val (x.getD eu8.zero) := lk_N1 (h := eu8.val) rfl hx
theorem eu8.mput (k : Str) (x : Int) (m : List (Str × Int)) : mput k (eu8.row x) (eu8.ents m) = eu8.ents (mpt k x m) := (ents_put eu8.row k x m).symm
def eu16.zero : Int := 0
def eu16.leaf (x : Int) : D := .int .u16 x
def eu16.cells (l : List Int) : List A := l.map fun x => .d (eu16.leaf x)
def eu16.row (x : Int) : Row := [.int .u16 x]
def eu16.rows (l : List Int) : List Row := l.map eu16.row
theorem eu16.rows_map (l : List Int) : eu16.rows l = l.map eu16.row := rfl
theorem eu16.idx {l : List Int} {n : Int} {x : Int} (h : idx l n = some x) : (eu16.rows l)[n.toNat]? = some (eu16.row x) := rows_idx eu16.rows_map h
theorem eu16.app (l m : List Int) : eu16.rows (l ++ m) = eu16.rows l ++ eu16.rows m := rows_app eu16.rows_map l m
theorem eu16.len (l : List Int) : (eu16.rows l).length = l.length := rows_len eu16.rows_map l
theorem eu16.lenA (l : List Int) : A.d (.int .i64 ((eu16.rows l).length : Nat)) = A.d (.int .i64 (l.length : Nat)) := rows_lenA eu16.rows_map l
theorem eu16.sz (l : List Int) : ∀ r ∈ eu16.rows l, r.length = 1 := rows_sz eu16.rows_map (fun _ => rfl) l
theorem eu16.part {l x : List Int} {a b : Int} (h : slc l a b = some x) : a = (a.toNat : Int) ∧ b = (b.toNat : Int) ∧ a.toNat ≤ b.toNat ∧ b.toNat ≤ (eu16.rows l).length ∧ eu16.rows x = ((eu16.rows l).take b.toNat).drop a.toNat := rows_part eu16.rows_map h
def eu16.ents (m : List (Str × Int)) : List (Str × Row) := entsOf eu16.row m
def eu16.val (x : Int) : A := .d (.int .u16 x)
theorem eu16.lkT {k : Str} {m : List (Str × Int)} {x : Option Int} (hx : some (mgt k m) = some x) : lkA (mget k (eu16.ents m)) (eu16.val eu16.zero) true = .tup [eu16.val (x.getD eu16.zero), .d (.bool x.isSome)] := lk_T (h := eu16.val) (fun _ => rfl) rfl hx
theorem eu16.lk {k : Str} {m : List (Str × Int)} {x : Option Int} (hx : some (mgt k m) = some x) : lkA (mget k (eu16.ents m)) (eu16.val eu16.zero) false = eu16.val (x.getD eu16.zero) := lk_1 (h := eu16.val) (fun _ => rfl) rfl hx
theorem eu16.lkNT {x : Option Int} (hx : some none = some x) : lkA none (eu16.val eu16.zero) true = .tup [eu16.val (x.getD eu16.zero), .d (.bool x.isSome)] := lk_NT (h := eu16.val) rfl hx
theorem eu16.lkN {x : Option Int} (hx : some none = some x) : lkA none (eu16.val eu16.zero) false = eu16.val (x.getD eu16.zero) := lk_N1 (h := eu16.val) rfl hx
theorem eu16.mput (k : Str) (x : Int) (m : List (Str × Int)) : mput k (eu16.row x) (eu16.ents m) = eu16.ents (mpt k x m) := (ents_put eu16.row k x m).symm
def eu32.zero : Int := 0
def eu32.leaf (x : Int) : D := .int .u32 x
def eu32.cells (l : List Int) : List A := l.map fun x => .d (eu32.leaf x)
def eu32.row (x : Int) : Row := [.int .u32 x]
def eu32.rows (l : List Int) : List Row := l.map eu32.row
theorem eu32.rows_map (l : List Int) : eu32.rows l = l.map eu32.row := rfl
theorem eu32.idx {l : List Int} {n : Int} {x : Int} (h : idx l n = some x) : (eu32.rows l)[n.toNat]? = some (eu32.row x) := rows_idx eu32.rows_map h
theorem eu32.app (l m : List Int) : eu32.rows (l ++ m) = eu32.rows l ++ eu32.rows m := rows_app eu32.rows_map l m
theorem eu32.len (l : List Int) : (eu32.rows l).length = l.length := rows_len eu32.rows_map l
theorem eu32.lenA (l : List Int) : A.d (.int .i64 ((eu32.rows l).length : Nat)) = A.d (.int .i64 (l.length : Nat)) := rows_lenA eu32.rows_map l
theorem eu32.sz (l : List Int) : ∀ r ∈ eu32.rows l, r.length = 1 := rows_sz eu32.rows_map (fun _ => rfl) l
theorem eu32.part {l x : List Int} {a b : Int} (h : slc l a b = some x) : a = (a.toNat : Int) ∧ b = (b.toNat : Int) ∧ a.toNat ≤ b.toNat ∧ b.toNat ≤ (eu32.rows l).length ∧ eu32.rows x = ((eu32.rows l).take b.toNat).drop a.toNat := rows_part eu32.rows_map h
def eu32.ents (m : List (Str × Int)) : List (Str × Row) := entsOf eu32.row m
def eu32.val (x : Int) : A := .d (.int .u32 x)
theorem eu32.lkT {k : Str} {m : List (Str × Int)} {x : Option Int} (hx : some (mgt k m) = some x) : lkA (mget k (eu32.ents m)) (eu32.val eu32.zero) true = .tup [eu32.val (x.getD eu32.zero), .d (.bool x.isSome)] := lk_T (h := eu32.val) (fun _ => rfl) rfl hx
theorem eu32.lk {k : Str} {m : List (Str × Int)} {x : Option Int} (hx : some (mgt k m) = some x) : lkA (mget k (eu32.ents m)) (eu32.val eu32.zero) false = eu32.val (x.getD eu32.zero) := lk_1 (h := eu32.val) (fun _ => rfl) rfl hx
theorem eu32.lkNT {x : Option Int} (hx : some none = some x) : lkA none (eu32.val eu32.zero) true = .tup [eu32.val (x.getD eu32.zero), .d (.bool x.isSome)] := lk_NT (h := eu32.val) rfl hx
theorem eu32.lkN {x : Option Int} (hx : some none = some x) : lkA none (eu32.val eu32.zero) false = eu32.val (x.getD eu32.zero) := lk_N1 (h := eu32.val) rfl hx
theorem eu32.mput (k : Str) (x : Int) (m : List (Str × Int)) : mput k (eu32.row x) (eu32.ents m) = eu32.ents (mpt k x m) := (ents_put eu32.row k x m).symm
def eu64.zero : Int := 0
def eu64.leaf (x : Int) : D := .int .u64 x
def eu64.cells (l : List Int) : List A := l.map fun x => .d (eu64.leaf x)
def eu64.row (x : Int) : Row := [.int .u64 x]
def eu64.rows (l : List Int) : List Row := l.map eu64.row
theorem eu64.rows_map (l : List Int) : eu64.rows l = l.map eu64.row := rfl
theorem eu64.idx {l : List Int} {n : Int} {x : Int} (h : idx l n = some x) : (eu64.rows l)[n.toNat]? = some (eu64.row x) := rows_idx eu64.rows_map h
theorem eu64.app (l m : List Int) : eu64.rows (l ++ m) = eu64.rows l ++ eu64.rows m := rows_app eu64.rows_map l m
theorem eu64.len (l : List Int) : (eu64.rows l).length = l.length := rows_len eu64.rows_map l
theorem eu64.lenA (l : List Int) : A.d (.int .i64 ((eu64.rows l).length : Nat)) = A.d (.int .i64 (l.length : Nat)) := rows_lenA eu64.rows_map l
theorem eu64.sz (l : List Int) : ∀ r ∈ eu64.rows l, r.length = 1 := rows_sz eu64.rows_map (fun _ => rfl) l
theorem eu64.part {l x : List Int} {a b : Int} (h : slc l a b = some x) : a = (a.toNat : Int) ∧ b = (b.toNat : Int) ∧ a.toNat ≤ b.toNat ∧ b.toNat ≤ (eu64.rows l).length ∧ eu64.rows x = ((eu64.rows l).take b.toNat).drop a.toNat := rows_part eu64.rows_map h
def eu64.ents (m : List (Str × Int)) : List (Str × Row) := entsOf eu64.row m
def eu64.val (x : Int) : A := .d (.int .u64 x)
theorem eu64.lkT {k : Str} {m : List (Str × Int)} {x : Option Int} (hx : some (mgt k m) = some x) : lkA (mget k (eu64.ents m)) (eu64.val eu64.zero) true = .tup [eu64.val (x.getD eu64.zero), .d (.bool x.isSome)] := lk_T (h := eu64.val) (fun _ => rfl) rfl hx
theorem eu64.lk {k : Str} {m : List (Str × Int)} {x : Option Int} (hx : some (mgt k m) = some x) : lkA (mget k (eu64.ents m)) (eu64.val eu64.zero) false = eu64.val (x.getD eu64.zero) := lk_1 (h := eu64.val) (fun _ => rfl) rfl hx
theorem eu64.lkNT {x : Option Int} (hx : some none = some x) : lkA none (eu64.val eu64.zero) true = .tup [eu64.val (x.getD eu64.zero), .d (.bool x.isSome)] := lk_NT (h := eu64.val) rfl hx
theorem eu64.lkN {x : Option Int} (hx : some none = some x) : lkA none (eu64.val eu64.zero) false = eu64.val (x.getD eu64.zero) := lk_N1 (h := eu64.val) rfl hx
theorem eu64.mput (k : Str) (x : Int) (m : List (Str × Int)) : mput k (eu64.row x) (eu64.ents m) = eu64.ents (mpt k x m) := (ents_put eu64.row k x m).symm
structure ApiType where
  Kind : Int
  Low : Int
  High : Int
  Size : Int
  Name : Str
  Names : List Str
  Of : List ApiType
def ApiType.zero : ApiType := ⟨0, 0, 0, 0, [], [], []⟩
instance : Inhabited ApiType := ⟨ApiType.zero⟩
mutual
def ApiType.rowX : ApiType → Row
  | .mk y0 y1 y2 y3 y4 y5 y6 => [.int .i64 y0, .int .i64 y1, .int .i64 y2, .int .i64 y3, .str y4, .sl (estr.rows y5), .sl (ApiType.rowsX y6)]
def ApiType.rowsX : List ApiType → List Row
  | [] => []
  | x :: r => ApiType.rowX x :: ApiType.rowsX r
end
def ApiType.rows (l : List ApiType) : List Row := ApiType.rowsX l
def ApiType.row (x : ApiType) : Row := [.int .i64 x.Kind, .int .i64 x.Low, .int .i64 x.High, .int .i64 x.Size, .str x.Name, .sl (estr.rows x.Names), .sl (ApiType.rows x.Of)]
theorem ApiType.rows_map : ∀ l, ApiType.rows l = l.map ApiType.row
  | [] => rfl
  | x :: r => by
    show ApiType.rowX x :: ApiType.rows r = ApiType.row x :: r.map ApiType.row
    rw [ApiType.rows_map r]
    cases x
    rfl
def ApiType.cells (x : ApiType) : List A := [.d (.int .i64 x.Kind), .d (.int .i64 x.Low), .d (.int .i64 x.High), .d (.int .i64 x.Size), .d (.str x.Name), .d (.sl (estr.rows x.Names)), .d (.sl (ApiType.rows x.Of))]
theorem ApiType.idx {l : List ApiType} {n : Int} {x : ApiType} (h : idx l n = some x) : (ApiType.rows l)[n.toNat]? = some (ApiType.row x) := rows_idx ApiType.rows_map h
theorem ApiType.app (l m : List ApiType) : ApiType.rows (l ++ m) = ApiType.rows l ++ ApiType.rows m := rows_app ApiType.rows_map l m
theorem ApiType.len (l : List ApiType) : (ApiType.rows l).length = l.length := rows_len ApiType.rows_map l
theorem ApiType.lenA (l : List ApiType) : A.d (.int .i64 ((ApiType.rows l).length : Nat)) = A.d (.int .i64 (l.length : Nat)) := rows_lenA ApiType.rows_map l
theorem ApiType.sz (l : List ApiType) : ∀ r ∈ ApiType.rows l, r.length = 7 := rows_sz ApiType.rows_map (fun _ => rfl) l
theorem ApiType.part {l x : List ApiType} {a b : Int} (h : slc l a b = some x) : a = (a.toNat : Int) ∧ b = (b.toNat : Int) ∧ a.toNat ≤ b.toNat ∧ b.toNat ≤ (ApiType.rows l).length ∧ ApiType.rows x = ((ApiType.rows l).take b.toNat).drop a.toNat := rows_part ApiType.rows_map h
def ApiType.ents (m : List (Str × ApiType)) : List (Str × Row) := entsOf ApiType.row m
def ApiType.val (x : ApiType) : A := .agg (ApiType.cells x)
theorem ApiType.lkT {k : Str} {m : List (Str × ApiType)} {x : Option ApiType} (hx : some (mgt k m) = some x) : lkA (mget k (ApiType.ents m)) (ApiType.val ApiType.zero) true = .tup [ApiType.val (x.getD ApiType.zero), .d (.bool x.isSome)] := lk_T (h := ApiType.val) (fun _ => rfl) rfl hx
theorem ApiType.lk {k : Str} {m : List (Str × ApiType)} {x : Option ApiType} (hx : some (mgt k m) = some x) : lkA (mget k (ApiType.ents m)) (ApiType.val ApiType.zero) false = ApiType.val (x.getD ApiType.zero) := lk_1 (h := ApiType.val) (fun _ => rfl) rfl hx
theorem ApiType.lkNT {x : Option ApiType} (hx : some none = some x) : lkA none (ApiType.val ApiType.zero) true = .tup [ApiType.val (x.getD ApiType.zero), .d (.bool x.isSome)] := lk_NT (h := ApiType.val) rfl hx
theorem ApiType.lkN {x : Option ApiType} (hx : some none = some x) : lkA none (ApiType.val ApiType.zero) false = ApiType.val (x.getD ApiType.zero) := lk_N1 (h := ApiType.val) rfl hx
theorem ApiType.mput (k : Str) (x : ApiType) (m : List (Str × ApiType)) : mput k (ApiType.row x) (ApiType.ents m) = ApiType.ents (mpt k x m) := (ents_put ApiType.row k x m).symm
structure ApiExpr where
  Op : Int
  NV : Int
  Name : Str
  Kids : List ApiExpr
def ApiExpr.zero : ApiExpr := ⟨0, 0, [], []⟩
instance : Inhabited ApiExpr := ⟨ApiExpr.zero⟩
mutual
def ApiExpr.rowX : ApiExpr → Row
  | .mk y0 y1 y2 y3 => [.int .i64 y0, .int .i64 y1, .str y2, .sl (ApiExpr.rowsX y3)]
def ApiExpr.rowsX : List ApiExpr → List Row
  | [] => []
  | x :: r => ApiExpr.rowX x :: ApiExpr.rowsX r
end
def ApiExpr.rows (l : List ApiExpr) : List Row := ApiExpr.rowsX l
def ApiExpr.row (x : ApiExpr) : Row := [.int .i64 x.Op, .int .i64 x.NV, .str x.Name, .sl (ApiExpr.rows x.Kids)]
theorem ApiExpr.rows_map : ∀ l, ApiExpr.rows l = l.map ApiExpr.row
  | [] => rfl
  | x :: r => by
    show ApiExpr.rowX x :: ApiExpr.rows r = ApiExpr.row x :: r.map ApiExpr.row
    rw [ApiExpr.rows_map r]
    cases x
    rfl
def ApiExpr.cells (x : ApiExpr) : List A := [.d (.int .i64 x.Op), .d (.int .i64 x.NV), .d (.str x.Name), .d (.sl (ApiExpr.rows x.Kids))]
theorem ApiExpr.idx {l : List ApiExpr} {n : Int} {x : ApiExpr} (h : idx l n = some x) : (ApiExpr.rows l)[n.toNat]? = some (ApiExpr.row x) := rows_idx ApiExpr.rows_map h
theorem ApiExpr.app (l m : List ApiExpr) : ApiExpr.rows (l ++ m) = ApiExpr.rows l ++ ApiExpr.rows m := rows_app ApiExpr.rows_map l m
theorem ApiExpr.len (l : List ApiExpr) : (ApiExpr.rows l).length = l.length := rows_len ApiExpr.rows_map l
theorem ApiExpr.lenA (l : List ApiExpr) : A.d (.int .i64 ((ApiExpr.rows l).length : Nat)) = A.d (.int .i64 (l.length : Nat)) := rows_lenA ApiExpr.rows_map l
theorem ApiExpr.sz (l : List ApiExpr) : ∀ r ∈ ApiExpr.rows l, r.length = 4 := rows_sz ApiExpr.rows_map (fun _ => rfl) l
theorem ApiExpr.part {l x : List ApiExpr} {a b : Int} (h : slc l a b = some x) : a = (a.toNat : Int) ∧ b = (b.toNat : Int) ∧ a.toNat ≤ b.toNat ∧ b.toNat ≤ (ApiExpr.rows l).length ∧ ApiExpr.rows x = ((ApiExpr.rows l).take b.toNat).drop a.toNat := rows_part ApiExpr.rows_map h
def ApiExpr.ents (m : List (Str × ApiExpr)) : List (Str × Row) := entsOf ApiExpr.row m
def ApiExpr.val (x : ApiExpr) : A := .agg (ApiExpr.cells x)
theorem ApiExpr.lkT {k : Str} {m : List (Str × ApiExpr)} {x : Option ApiExpr} (hx : some (mgt k m) = some x) : lkA (mget k (ApiExpr.ents m)) (ApiExpr.val ApiExpr.zero) true = .tup [ApiExpr.val (x.getD ApiExpr.zero), .d (.bool x.isSome)] := lk_T (h := ApiExpr.val) (fun _ => rfl) rfl hx
theorem ApiExpr.lk {k : Str} {m : List (Str × ApiExpr)} {x : Option ApiExpr} (hx : some (mgt k m) = some x) : lkA (mget k (ApiExpr.ents m)) (ApiExpr.val ApiExpr.zero) false = ApiExpr.val (x.getD ApiExpr.zero) := lk_1 (h := ApiExpr.val) (fun _ => rfl) rfl hx
theorem ApiExpr.lkNT {x : Option ApiExpr} (hx : some none = some x) : lkA none (ApiExpr.val ApiExpr.zero) true = .tup [ApiExpr.val (x.getD ApiExpr.zero), .d (.bool x.isSome)] := lk_NT (h := ApiExpr.val) rfl hx
theorem ApiExpr.lkN {x : Option ApiExpr} (hx : some none = some x) : lkA none (ApiExpr.val ApiExpr.zero) false = ApiExpr.val (x.getD ApiExpr.zero) := lk_N1 (h := ApiExpr.val) rfl hx
theorem ApiExpr.mput (k : Str) (x : ApiExpr) (m : List (Str × ApiExpr)) : mput k (ApiExpr.row x) (ApiExpr.ents m) = ApiExpr.ents (mpt k x m) := (ents_put ApiExpr.row k x m).symm
structure ApiStmt where
  Verb : Int
  Place : ApiExpr
  Value : ApiExpr
  Name : Str
  Args : List ApiExpr
  NV : Int
  Low : Int
  High : Int
  Numbers : List Int
  Then : List ApiStmt
  Else : List ApiStmt
def ApiStmt.zero : ApiStmt := ⟨0, ⟨0, 0, [], []⟩, ⟨0, 0, [], []⟩, [], [], 0, 0, 0, [], [], []⟩
instance : Inhabited ApiStmt := ⟨ApiStmt.zero⟩
mutual
def ApiStmt.rowX : ApiStmt → Row
  | .mk y0 y1 y2 y3 y4 y5 y6 y7 y8 y9 y10 => [.int .i64 y0, .int .i64 y1.Op, .int .i64 y1.NV, .str y1.Name, .sl (ApiExpr.rows y1.Kids), .int .i64 y2.Op, .int .i64 y2.NV, .str y2.Name, .sl (ApiExpr.rows y2.Kids), .str y3, .sl (ApiExpr.rows y4), .int .i64 y5, .int .i64 y6, .int .i64 y7, .sl (ei64.rows y8), .sl (ApiStmt.rowsX y9), .sl (ApiStmt.rowsX y10)]
def ApiStmt.rowsX : List ApiStmt → List Row
  | [] => []
  | x :: r => ApiStmt.rowX x :: ApiStmt.rowsX r
end
def ApiStmt.rows (l : List ApiStmt) : List Row := ApiStmt.rowsX l
def ApiStmt.row (x : ApiStmt) : Row := [.int .i64 x.Verb, .int .i64 x.Place.Op, .int .i64 x.Place.NV, .str x.Place.Name, .sl (ApiExpr.rows x.Place.Kids), .int .i64 x.Value.Op, .int .i64 x.Value.NV, .str x.Value.Name, .sl (ApiExpr.rows x.Value.Kids), .str x.Name, .sl (ApiExpr.rows x.Args), .int .i64 x.NV, .int .i64 x.Low, .int .i64 x.High, .sl (ei64.rows x.Numbers), .sl (ApiStmt.rows x.Then), .sl (ApiStmt.rows x.Else)]
theorem ApiStmt.rows_map : ∀ l, ApiStmt.rows l = l.map ApiStmt.row
  | [] => rfl
  | x :: r => by
    show ApiStmt.rowX x :: ApiStmt.rows r = ApiStmt.row x :: r.map ApiStmt.row
    rw [ApiStmt.rows_map r]
    cases x
    rfl
def ApiStmt.cells (x : ApiStmt) : List A := [.d (.int .i64 x.Verb), .d (.int .i64 x.Place.Op), .d (.int .i64 x.Place.NV), .d (.str x.Place.Name), .d (.sl (ApiExpr.rows x.Place.Kids)), .d (.int .i64 x.Value.Op), .d (.int .i64 x.Value.NV), .d (.str x.Value.Name), .d (.sl (ApiExpr.rows x.Value.Kids)), .d (.str x.Name), .d (.sl (ApiExpr.rows x.Args)), .d (.int .i64 x.NV), .d (.int .i64 x.Low), .d (.int .i64 x.High), .d (.sl (ei64.rows x.Numbers)), .d (.sl (ApiStmt.rows x.Then)), .d (.sl (ApiStmt.rows x.Else))]
theorem ApiStmt.idx {l : List ApiStmt} {n : Int} {x : ApiStmt} (h : idx l n = some x) : (ApiStmt.rows l)[n.toNat]? = some (ApiStmt.row x) := rows_idx ApiStmt.rows_map h
theorem ApiStmt.app (l m : List ApiStmt) : ApiStmt.rows (l ++ m) = ApiStmt.rows l ++ ApiStmt.rows m := rows_app ApiStmt.rows_map l m
theorem ApiStmt.len (l : List ApiStmt) : (ApiStmt.rows l).length = l.length := rows_len ApiStmt.rows_map l
theorem ApiStmt.lenA (l : List ApiStmt) : A.d (.int .i64 ((ApiStmt.rows l).length : Nat)) = A.d (.int .i64 (l.length : Nat)) := rows_lenA ApiStmt.rows_map l
theorem ApiStmt.sz (l : List ApiStmt) : ∀ r ∈ ApiStmt.rows l, r.length = 17 := rows_sz ApiStmt.rows_map (fun _ => rfl) l
theorem ApiStmt.part {l x : List ApiStmt} {a b : Int} (h : slc l a b = some x) : a = (a.toNat : Int) ∧ b = (b.toNat : Int) ∧ a.toNat ≤ b.toNat ∧ b.toNat ≤ (ApiStmt.rows l).length ∧ ApiStmt.rows x = ((ApiStmt.rows l).take b.toNat).drop a.toNat := rows_part ApiStmt.rows_map h
def ApiStmt.ents (m : List (Str × ApiStmt)) : List (Str × Row) := entsOf ApiStmt.row m
def ApiStmt.val (x : ApiStmt) : A := .agg (ApiStmt.cells x)
theorem ApiStmt.lkT {k : Str} {m : List (Str × ApiStmt)} {x : Option ApiStmt} (hx : some (mgt k m) = some x) : lkA (mget k (ApiStmt.ents m)) (ApiStmt.val ApiStmt.zero) true = .tup [ApiStmt.val (x.getD ApiStmt.zero), .d (.bool x.isSome)] := lk_T (h := ApiStmt.val) (fun _ => rfl) rfl hx
theorem ApiStmt.lk {k : Str} {m : List (Str × ApiStmt)} {x : Option ApiStmt} (hx : some (mgt k m) = some x) : lkA (mget k (ApiStmt.ents m)) (ApiStmt.val ApiStmt.zero) false = ApiStmt.val (x.getD ApiStmt.zero) := lk_1 (h := ApiStmt.val) (fun _ => rfl) rfl hx
theorem ApiStmt.lkNT {x : Option ApiStmt} (hx : some none = some x) : lkA none (ApiStmt.val ApiStmt.zero) true = .tup [ApiStmt.val (x.getD ApiStmt.zero), .d (.bool x.isSome)] := lk_NT (h := ApiStmt.val) rfl hx
theorem ApiStmt.lkN {x : Option ApiStmt} (hx : some none = some x) : lkA none (ApiStmt.val ApiStmt.zero) false = ApiStmt.val (x.getD ApiStmt.zero) := lk_N1 (h := ApiStmt.val) rfl hx
theorem ApiStmt.mput (k : Str) (x : ApiStmt) (m : List (Str × ApiStmt)) : mput k (ApiStmt.row x) (ApiStmt.ents m) = ApiStmt.ents (mpt k x m) := (ents_put ApiStmt.row k x m).symm
structure ApiDecl where
  Kind : Int
  Name : Str
  TypeV : ApiType
  Init : Int
  Value : ApiExpr
  Params : List ApiDecl
  Vars : List ApiDecl
  Body : List ApiStmt
def ApiDecl.zero : ApiDecl := ⟨0, [], ⟨0, 0, 0, 0, [], [], []⟩, 0, ⟨0, 0, [], []⟩, [], [], []⟩
instance : Inhabited ApiDecl := ⟨ApiDecl.zero⟩
mutual
def ApiDecl.rowX : ApiDecl → Row
  | .mk y0 y1 y2 y3 y4 y5 y6 y7 => [.int .i64 y0, .str y1, .int .i64 y2.Kind, .int .i64 y2.Low, .int .i64 y2.High, .int .i64 y2.Size, .str y2.Name, .sl (estr.rows y2.Names), .sl (ApiType.rows y2.Of), .int .i64 y3, .int .i64 y4.Op, .int .i64 y4.NV, .str y4.Name, .sl (ApiExpr.rows y4.Kids), .sl (ApiDecl.rowsX y5), .sl (ApiDecl.rowsX y6), .sl (ApiStmt.rows y7)]
def ApiDecl.rowsX : List ApiDecl → List Row
  | [] => []
  | x :: r => ApiDecl.rowX x :: ApiDecl.rowsX r
end
def ApiDecl.rows (l : List ApiDecl) : List Row := ApiDecl.rowsX l
def ApiDecl.row (x : ApiDecl) : Row := [.int .i64 x.Kind, .str x.Name, .int .i64 x.TypeV.Kind, .int .i64 x.TypeV.Low, .int .i64 x.TypeV.High, .int .i64 x.TypeV.Size, .str x.TypeV.Name, .sl (estr.rows x.TypeV.Names), .sl (ApiType.rows x.TypeV.Of), .int .i64 x.Init, .int .i64 x.Value.Op, .int .i64 x.Value.NV, .str x.Value.Name, .sl (ApiExpr.rows x.Value.Kids), .sl (ApiDecl.rows x.Params), .sl (ApiDecl.rows x.Vars), .sl (ApiStmt.rows x.Body)]
theorem ApiDecl.rows_map : ∀ l, ApiDecl.rows l = l.map ApiDecl.row
  | [] => rfl
  | x :: r => by
    show ApiDecl.rowX x :: ApiDecl.rows r = ApiDecl.row x :: r.map ApiDecl.row
    rw [ApiDecl.rows_map r]
    cases x
    rfl
def ApiDecl.cells (x : ApiDecl) : List A := [.d (.int .i64 x.Kind), .d (.str x.Name), .d (.int .i64 x.TypeV.Kind), .d (.int .i64 x.TypeV.Low), .d (.int .i64 x.TypeV.High), .d (.int .i64 x.TypeV.Size), .d (.str x.TypeV.Name), .d (.sl (estr.rows x.TypeV.Names)), .d (.sl (ApiType.rows x.TypeV.Of)), .d (.int .i64 x.Init), .d (.int .i64 x.Value.Op), .d (.int .i64 x.Value.NV), .d (.str x.Value.Name), .d (.sl (ApiExpr.rows x.Value.Kids)), .d (.sl (ApiDecl.rows x.Params)), .d (.sl (ApiDecl.rows x.Vars)), .d (.sl (ApiStmt.rows x.Body))]
theorem ApiDecl.idx {l : List ApiDecl} {n : Int} {x : ApiDecl} (h : idx l n = some x) : (ApiDecl.rows l)[n.toNat]? = some (ApiDecl.row x) := rows_idx ApiDecl.rows_map h
theorem ApiDecl.app (l m : List ApiDecl) : ApiDecl.rows (l ++ m) = ApiDecl.rows l ++ ApiDecl.rows m := rows_app ApiDecl.rows_map l m
theorem ApiDecl.len (l : List ApiDecl) : (ApiDecl.rows l).length = l.length := rows_len ApiDecl.rows_map l
theorem ApiDecl.lenA (l : List ApiDecl) : A.d (.int .i64 ((ApiDecl.rows l).length : Nat)) = A.d (.int .i64 (l.length : Nat)) := rows_lenA ApiDecl.rows_map l
theorem ApiDecl.sz (l : List ApiDecl) : ∀ r ∈ ApiDecl.rows l, r.length = 17 := rows_sz ApiDecl.rows_map (fun _ => rfl) l
theorem ApiDecl.part {l x : List ApiDecl} {a b : Int} (h : slc l a b = some x) : a = (a.toNat : Int) ∧ b = (b.toNat : Int) ∧ a.toNat ≤ b.toNat ∧ b.toNat ≤ (ApiDecl.rows l).length ∧ ApiDecl.rows x = ((ApiDecl.rows l).take b.toNat).drop a.toNat := rows_part ApiDecl.rows_map h
def ApiDecl.ents (m : List (Str × ApiDecl)) : List (Str × Row) := entsOf ApiDecl.row m
def ApiDecl.val (x : ApiDecl) : A := .agg (ApiDecl.cells x)
theorem ApiDecl.lkT {k : Str} {m : List (Str × ApiDecl)} {x : Option ApiDecl} (hx : some (mgt k m) = some x) : lkA (mget k (ApiDecl.ents m)) (ApiDecl.val ApiDecl.zero) true = .tup [ApiDecl.val (x.getD ApiDecl.zero), .d (.bool x.isSome)] := lk_T (h := ApiDecl.val) (fun _ => rfl) rfl hx
theorem ApiDecl.lk {k : Str} {m : List (Str × ApiDecl)} {x : Option ApiDecl} (hx : some (mgt k m) = some x) : lkA (mget k (ApiDecl.ents m)) (ApiDecl.val ApiDecl.zero) false = ApiDecl.val (x.getD ApiDecl.zero) := lk_1 (h := ApiDecl.val) (fun _ => rfl) rfl hx
theorem ApiDecl.lkNT {x : Option ApiDecl} (hx : some none = some x) : lkA none (ApiDecl.val ApiDecl.zero) true = .tup [ApiDecl.val (x.getD ApiDecl.zero), .d (.bool x.isSome)] := lk_NT (h := ApiDecl.val) rfl hx
theorem ApiDecl.lkN {x : Option ApiDecl} (hx : some none = some x) : lkA none (ApiDecl.val ApiDecl.zero) false = ApiDecl.val (x.getD ApiDecl.zero) := lk_N1 (h := ApiDecl.val) rfl hx
theorem ApiDecl.mput (k : Str) (x : ApiDecl) (m : List (Str × ApiDecl)) : mput k (ApiDecl.row x) (ApiDecl.ents m) = ApiDecl.ents (mpt k x m) := (ents_put ApiDecl.row k x m).symm
structure ApiProgram where
  Decls : List ApiDecl
  Body : List ApiStmt
def ApiProgram.zero : ApiProgram := ⟨[], []⟩
instance : Inhabited ApiProgram := ⟨ApiProgram.zero⟩
def ApiProgram.row (x : ApiProgram) : Row := [.sl (ApiDecl.rows x.Decls), .sl (ApiStmt.rows x.Body)]
def ApiProgram.rows (l : List ApiProgram) : List Row := l.map ApiProgram.row
theorem ApiProgram.rows_map (l : List ApiProgram) : ApiProgram.rows l = l.map ApiProgram.row := rfl
def ApiProgram.cells (x : ApiProgram) : List A := [.d (.sl (ApiDecl.rows x.Decls)), .d (.sl (ApiStmt.rows x.Body))]
theorem ApiProgram.idx {l : List ApiProgram} {n : Int} {x : ApiProgram} (h : idx l n = some x) : (ApiProgram.rows l)[n.toNat]? = some (ApiProgram.row x) := rows_idx ApiProgram.rows_map h
theorem ApiProgram.app (l m : List ApiProgram) : ApiProgram.rows (l ++ m) = ApiProgram.rows l ++ ApiProgram.rows m := rows_app ApiProgram.rows_map l m
theorem ApiProgram.len (l : List ApiProgram) : (ApiProgram.rows l).length = l.length := rows_len ApiProgram.rows_map l
theorem ApiProgram.lenA (l : List ApiProgram) : A.d (.int .i64 ((ApiProgram.rows l).length : Nat)) = A.d (.int .i64 (l.length : Nat)) := rows_lenA ApiProgram.rows_map l
theorem ApiProgram.sz (l : List ApiProgram) : ∀ r ∈ ApiProgram.rows l, r.length = 2 := rows_sz ApiProgram.rows_map (fun _ => rfl) l
theorem ApiProgram.part {l x : List ApiProgram} {a b : Int} (h : slc l a b = some x) : a = (a.toNat : Int) ∧ b = (b.toNat : Int) ∧ a.toNat ≤ b.toNat ∧ b.toNat ≤ (ApiProgram.rows l).length ∧ ApiProgram.rows x = ((ApiProgram.rows l).take b.toNat).drop a.toNat := rows_part ApiProgram.rows_map h
def ApiProgram.ents (m : List (Str × ApiProgram)) : List (Str × Row) := entsOf ApiProgram.row m
def ApiProgram.val (x : ApiProgram) : A := .agg (ApiProgram.cells x)
theorem ApiProgram.lkT {k : Str} {m : List (Str × ApiProgram)} {x : Option ApiProgram} (hx : some (mgt k m) = some x) : lkA (mget k (ApiProgram.ents m)) (ApiProgram.val ApiProgram.zero) true = .tup [ApiProgram.val (x.getD ApiProgram.zero), .d (.bool x.isSome)] := lk_T (h := ApiProgram.val) (fun _ => rfl) rfl hx
theorem ApiProgram.lk {k : Str} {m : List (Str × ApiProgram)} {x : Option ApiProgram} (hx : some (mgt k m) = some x) : lkA (mget k (ApiProgram.ents m)) (ApiProgram.val ApiProgram.zero) false = ApiProgram.val (x.getD ApiProgram.zero) := lk_1 (h := ApiProgram.val) (fun _ => rfl) rfl hx
theorem ApiProgram.lkNT {x : Option ApiProgram} (hx : some none = some x) : lkA none (ApiProgram.val ApiProgram.zero) true = .tup [ApiProgram.val (x.getD ApiProgram.zero), .d (.bool x.isSome)] := lk_NT (h := ApiProgram.val) rfl hx
theorem ApiProgram.lkN {x : Option ApiProgram} (hx : some none = some x) : lkA none (ApiProgram.val ApiProgram.zero) false = ApiProgram.val (x.getD ApiProgram.zero) := lk_N1 (h := ApiProgram.val) rfl hx
theorem ApiProgram.mput (k : Str) (x : ApiProgram) (m : List (Str × ApiProgram)) : mput k (ApiProgram.row x) (ApiProgram.ents m) = ApiProgram.ents (mpt k x m) := (ents_put ApiProgram.row k x m).symm
structure SyntaxReport where
  nodes : Int
  depth : Int
  badForm : Bool
  badName : Bool
  badNumber : Bool
def SyntaxReport.zero : SyntaxReport := ⟨0, 0, false, false, false⟩
instance : Inhabited SyntaxReport := ⟨SyntaxReport.zero⟩
def SyntaxReport.row (x : SyntaxReport) : Row := [.int .i64 x.nodes, .int .i64 x.depth, .bool x.badForm, .bool x.badName, .bool x.badNumber]
def SyntaxReport.rows (l : List SyntaxReport) : List Row := l.map SyntaxReport.row
theorem SyntaxReport.rows_map (l : List SyntaxReport) : SyntaxReport.rows l = l.map SyntaxReport.row := rfl
def SyntaxReport.cells (x : SyntaxReport) : List A := [.d (.int .i64 x.nodes), .d (.int .i64 x.depth), .d (.bool x.badForm), .d (.bool x.badName), .d (.bool x.badNumber)]
theorem SyntaxReport.idx {l : List SyntaxReport} {n : Int} {x : SyntaxReport} (h : idx l n = some x) : (SyntaxReport.rows l)[n.toNat]? = some (SyntaxReport.row x) := rows_idx SyntaxReport.rows_map h
theorem SyntaxReport.app (l m : List SyntaxReport) : SyntaxReport.rows (l ++ m) = SyntaxReport.rows l ++ SyntaxReport.rows m := rows_app SyntaxReport.rows_map l m
theorem SyntaxReport.len (l : List SyntaxReport) : (SyntaxReport.rows l).length = l.length := rows_len SyntaxReport.rows_map l
theorem SyntaxReport.lenA (l : List SyntaxReport) : A.d (.int .i64 ((SyntaxReport.rows l).length : Nat)) = A.d (.int .i64 (l.length : Nat)) := rows_lenA SyntaxReport.rows_map l
theorem SyntaxReport.sz (l : List SyntaxReport) : ∀ r ∈ SyntaxReport.rows l, r.length = 5 := rows_sz SyntaxReport.rows_map (fun _ => rfl) l
theorem SyntaxReport.part {l x : List SyntaxReport} {a b : Int} (h : slc l a b = some x) : a = (a.toNat : Int) ∧ b = (b.toNat : Int) ∧ a.toNat ≤ b.toNat ∧ b.toNat ≤ (SyntaxReport.rows l).length ∧ SyntaxReport.rows x = ((SyntaxReport.rows l).take b.toNat).drop a.toNat := rows_part SyntaxReport.rows_map h
def SyntaxReport.ents (m : List (Str × SyntaxReport)) : List (Str × Row) := entsOf SyntaxReport.row m
def SyntaxReport.val (x : SyntaxReport) : A := .agg (SyntaxReport.cells x)
theorem SyntaxReport.lkT {k : Str} {m : List (Str × SyntaxReport)} {x : Option SyntaxReport} (hx : some (mgt k m) = some x) : lkA (mget k (SyntaxReport.ents m)) (SyntaxReport.val SyntaxReport.zero) true = .tup [SyntaxReport.val (x.getD SyntaxReport.zero), .d (.bool x.isSome)] := lk_T (h := SyntaxReport.val) (fun _ => rfl) rfl hx
theorem SyntaxReport.lk {k : Str} {m : List (Str × SyntaxReport)} {x : Option SyntaxReport} (hx : some (mgt k m) = some x) : lkA (mget k (SyntaxReport.ents m)) (SyntaxReport.val SyntaxReport.zero) false = SyntaxReport.val (x.getD SyntaxReport.zero) := lk_1 (h := SyntaxReport.val) (fun _ => rfl) rfl hx
theorem SyntaxReport.lkNT {x : Option SyntaxReport} (hx : some none = some x) : lkA none (SyntaxReport.val SyntaxReport.zero) true = .tup [SyntaxReport.val (x.getD SyntaxReport.zero), .d (.bool x.isSome)] := lk_NT (h := SyntaxReport.val) rfl hx
theorem SyntaxReport.lkN {x : Option SyntaxReport} (hx : some none = some x) : lkA none (SyntaxReport.val SyntaxReport.zero) false = SyntaxReport.val (x.getD SyntaxReport.zero) := lk_N1 (h := SyntaxReport.val) rfl hx
theorem SyntaxReport.mput (k : Str) (x : SyntaxReport) (m : List (Str × SyntaxReport)) : mput k (SyntaxReport.row x) (SyntaxReport.ents m) = SyntaxReport.ents (mpt k x m) := (ents_put SyntaxReport.row k x m).symm
structure SyntaxUses where
  place : Bool
  value : Bool
  name : Bool
  args : Bool
  n : Bool
  bounds : Bool
  numbers : Bool
  thenV : Bool
  other : Bool
def SyntaxUses.zero : SyntaxUses := ⟨false, false, false, false, false, false, false, false, false⟩
instance : Inhabited SyntaxUses := ⟨SyntaxUses.zero⟩
def SyntaxUses.row (x : SyntaxUses) : Row := [.bool x.place, .bool x.value, .bool x.name, .bool x.args, .bool x.n, .bool x.bounds, .bool x.numbers, .bool x.thenV, .bool x.other]
def SyntaxUses.rows (l : List SyntaxUses) : List Row := l.map SyntaxUses.row
theorem SyntaxUses.rows_map (l : List SyntaxUses) : SyntaxUses.rows l = l.map SyntaxUses.row := rfl
def SyntaxUses.cells (x : SyntaxUses) : List A := [.d (.bool x.place), .d (.bool x.value), .d (.bool x.name), .d (.bool x.args), .d (.bool x.n), .d (.bool x.bounds), .d (.bool x.numbers), .d (.bool x.thenV), .d (.bool x.other)]
theorem SyntaxUses.idx {l : List SyntaxUses} {n : Int} {x : SyntaxUses} (h : idx l n = some x) : (SyntaxUses.rows l)[n.toNat]? = some (SyntaxUses.row x) := rows_idx SyntaxUses.rows_map h
theorem SyntaxUses.app (l m : List SyntaxUses) : SyntaxUses.rows (l ++ m) = SyntaxUses.rows l ++ SyntaxUses.rows m := rows_app SyntaxUses.rows_map l m
theorem SyntaxUses.len (l : List SyntaxUses) : (SyntaxUses.rows l).length = l.length := rows_len SyntaxUses.rows_map l
theorem SyntaxUses.lenA (l : List SyntaxUses) : A.d (.int .i64 ((SyntaxUses.rows l).length : Nat)) = A.d (.int .i64 (l.length : Nat)) := rows_lenA SyntaxUses.rows_map l
theorem SyntaxUses.sz (l : List SyntaxUses) : ∀ r ∈ SyntaxUses.rows l, r.length = 9 := rows_sz SyntaxUses.rows_map (fun _ => rfl) l
theorem SyntaxUses.part {l x : List SyntaxUses} {a b : Int} (h : slc l a b = some x) : a = (a.toNat : Int) ∧ b = (b.toNat : Int) ∧ a.toNat ≤ b.toNat ∧ b.toNat ≤ (SyntaxUses.rows l).length ∧ SyntaxUses.rows x = ((SyntaxUses.rows l).take b.toNat).drop a.toNat := rows_part SyntaxUses.rows_map h
def SyntaxUses.ents (m : List (Str × SyntaxUses)) : List (Str × Row) := entsOf SyntaxUses.row m
def SyntaxUses.val (x : SyntaxUses) : A := .agg (SyntaxUses.cells x)
theorem SyntaxUses.lkT {k : Str} {m : List (Str × SyntaxUses)} {x : Option SyntaxUses} (hx : some (mgt k m) = some x) : lkA (mget k (SyntaxUses.ents m)) (SyntaxUses.val SyntaxUses.zero) true = .tup [SyntaxUses.val (x.getD SyntaxUses.zero), .d (.bool x.isSome)] := lk_T (h := SyntaxUses.val) (fun _ => rfl) rfl hx
theorem SyntaxUses.lk {k : Str} {m : List (Str × SyntaxUses)} {x : Option SyntaxUses} (hx : some (mgt k m) = some x) : lkA (mget k (SyntaxUses.ents m)) (SyntaxUses.val SyntaxUses.zero) false = SyntaxUses.val (x.getD SyntaxUses.zero) := lk_1 (h := SyntaxUses.val) (fun _ => rfl) rfl hx
theorem SyntaxUses.lkNT {x : Option SyntaxUses} (hx : some none = some x) : lkA none (SyntaxUses.val SyntaxUses.zero) true = .tup [SyntaxUses.val (x.getD SyntaxUses.zero), .d (.bool x.isSome)] := lk_NT (h := SyntaxUses.val) rfl hx
theorem SyntaxUses.lkN {x : Option SyntaxUses} (hx : some none = some x) : lkA none (SyntaxUses.val SyntaxUses.zero) false = SyntaxUses.val (x.getD SyntaxUses.zero) := lk_N1 (h := SyntaxUses.val) rfl hx
theorem SyntaxUses.mput (k : Str) (x : SyntaxUses) (m : List (Str × SyntaxUses)) : mput k (SyntaxUses.row x) (SyntaxUses.ents m) = SyntaxUses.ents (mpt k x m) := (ents_put SyntaxUses.row k x m).symm
structure Keyholeref10Size where
  nodes : Int
  depth : Int
def Keyholeref10Size.zero : Keyholeref10Size := ⟨0, 0⟩
instance : Inhabited Keyholeref10Size := ⟨Keyholeref10Size.zero⟩
def Keyholeref10Size.row (x : Keyholeref10Size) : Row := [.int .i64 x.nodes, .int .i64 x.depth]
def Keyholeref10Size.rows (l : List Keyholeref10Size) : List Row := l.map Keyholeref10Size.row
theorem Keyholeref10Size.rows_map (l : List Keyholeref10Size) : Keyholeref10Size.rows l = l.map Keyholeref10Size.row := rfl
def Keyholeref10Size.cells (x : Keyholeref10Size) : List A := [.d (.int .i64 x.nodes), .d (.int .i64 x.depth)]
theorem Keyholeref10Size.idx {l : List Keyholeref10Size} {n : Int} {x : Keyholeref10Size} (h : idx l n = some x) : (Keyholeref10Size.rows l)[n.toNat]? = some (Keyholeref10Size.row x) := rows_idx Keyholeref10Size.rows_map h
theorem Keyholeref10Size.app (l m : List Keyholeref10Size) : Keyholeref10Size.rows (l ++ m) = Keyholeref10Size.rows l ++ Keyholeref10Size.rows m := rows_app Keyholeref10Size.rows_map l m
theorem Keyholeref10Size.len (l : List Keyholeref10Size) : (Keyholeref10Size.rows l).length = l.length := rows_len Keyholeref10Size.rows_map l
theorem Keyholeref10Size.lenA (l : List Keyholeref10Size) : A.d (.int .i64 ((Keyholeref10Size.rows l).length : Nat)) = A.d (.int .i64 (l.length : Nat)) := rows_lenA Keyholeref10Size.rows_map l
theorem Keyholeref10Size.sz (l : List Keyholeref10Size) : ∀ r ∈ Keyholeref10Size.rows l, r.length = 2 := rows_sz Keyholeref10Size.rows_map (fun _ => rfl) l
theorem Keyholeref10Size.part {l x : List Keyholeref10Size} {a b : Int} (h : slc l a b = some x) : a = (a.toNat : Int) ∧ b = (b.toNat : Int) ∧ a.toNat ≤ b.toNat ∧ b.toNat ≤ (Keyholeref10Size.rows l).length ∧ Keyholeref10Size.rows x = ((Keyholeref10Size.rows l).take b.toNat).drop a.toNat := rows_part Keyholeref10Size.rows_map h
def Keyholeref10Size.ents (m : List (Str × Keyholeref10Size)) : List (Str × Row) := entsOf Keyholeref10Size.row m
def Keyholeref10Size.val (x : Keyholeref10Size) : A := .agg (Keyholeref10Size.cells x)
theorem Keyholeref10Size.lkT {k : Str} {m : List (Str × Keyholeref10Size)} {x : Option Keyholeref10Size} (hx : some (mgt k m) = some x) : lkA (mget k (Keyholeref10Size.ents m)) (Keyholeref10Size.val Keyholeref10Size.zero) true = .tup [Keyholeref10Size.val (x.getD Keyholeref10Size.zero), .d (.bool x.isSome)] := lk_T (h := Keyholeref10Size.val) (fun _ => rfl) rfl hx
theorem Keyholeref10Size.lk {k : Str} {m : List (Str × Keyholeref10Size)} {x : Option Keyholeref10Size} (hx : some (mgt k m) = some x) : lkA (mget k (Keyholeref10Size.ents m)) (Keyholeref10Size.val Keyholeref10Size.zero) false = Keyholeref10Size.val (x.getD Keyholeref10Size.zero) := lk_1 (h := Keyholeref10Size.val) (fun _ => rfl) rfl hx
theorem Keyholeref10Size.lkNT {x : Option Keyholeref10Size} (hx : some none = some x) : lkA none (Keyholeref10Size.val Keyholeref10Size.zero) true = .tup [Keyholeref10Size.val (x.getD Keyholeref10Size.zero), .d (.bool x.isSome)] := lk_NT (h := Keyholeref10Size.val) rfl hx
theorem Keyholeref10Size.lkN {x : Option Keyholeref10Size} (hx : some none = some x) : lkA none (Keyholeref10Size.val Keyholeref10Size.zero) false = Keyholeref10Size.val (x.getD Keyholeref10Size.zero) := lk_N1 (h := Keyholeref10Size.val) rfl hx
theorem Keyholeref10Size.mput (k : Str) (x : Keyholeref10Size) (m : List (Str × Keyholeref10Size)) : mput k (Keyholeref10Size.row x) (Keyholeref10Size.ents m) = Keyholeref10Size.ents (mpt k x m) := (ents_put Keyholeref10Size.row k x m).symm
end Go.Proofs.YtmilgoloagbmpaaGreatDoor

set_option maxRecDepth 100000
set_option maxHeartbeats 4000000
set_option linter.unusedVariables false
namespace Go.Proofs.YtmilgoloagbmpaaGreatDoor
open Go.Am
def law10_lit (n : Int) : Option ApiExpr :=
  some (ApiExpr.mk 0 n [] [])
abbrev law10_lit_m (n : Int) (res : ApiExpr) : Prop := ACall C 34 [.d (.int .i64 n)] [] (fun x H' => H' = [] ∧ x = .agg (ApiExpr.cells res))
theorem law10_lit_ok {n : Int} {res : ApiExpr} (hh : law10_lit n = some res) : law10_lit_m n res := by
  unfold law10_lit at hh
  refine ACall.intro hC Tryz.func34 rfl rfl rfl ?_
  refine s' rfl rfl (AOps.nf hC rfl (n' (s' rfl rfl (q' rfl (q' rfl (AOps.s hC rfl (n' (re' ?_))))))))
  obtain rfl := oi' hh
  exact ⟨_, _, [], rfl, .rfl, trivial, rfl, rfl, rfl, rfl⟩
def law10_node (o : Int) (kids : List ApiExpr) : Option ApiExpr :=
  some (ApiExpr.mk o 0 [] kids)
abbrev law10_node_m (o : Int) (kids : List ApiExpr) (res : ApiExpr) : Prop := ACall C 33 [.d (.int .i64 o), .d (.sl (ApiExpr.rows kids))] [] (fun x H' => H' = [] ∧ x = .agg (ApiExpr.cells res))
theorem law10_node_ok {o : Int} {kids : List ApiExpr} {res : ApiExpr} (hh : law10_node o kids = some res) : law10_node_m o kids res := by
  unfold law10_node at hh
  refine ACall.intro hC Tryz.func33 rfl rfl rfl ?_
  refine s' rfl rfl (AOps.nf hC rfl (n' (s' rfl rfl (q' rfl (q' rfl (q' rfl (AOps.s hC rfl (n' (re' ?_)))))))))
  obtain rfl := oi' hh
  exact ⟨_, _, [], rfl, .rfl, trivial, rfl, rfl, rfl, rfl⟩
def law10_name (s : Str) : Option ApiExpr :=
  some (ApiExpr.mk 3 0 s [])
abbrev law10_name_m (s : Str) (res : ApiExpr) : Prop := ACall C 35 [.d (.str s)] [] (fun x H' => H' = [] ∧ x = .agg (ApiExpr.cells res))
theorem law10_name_ok {s : Str} {res : ApiExpr} (hh : law10_name s = some res) : law10_name_m s res := by
  unfold law10_name at hh
  refine ACall.intro hC Tryz.func35 rfl rfl rfl ?_
  refine s' rfl rfl (AOps.nf hC rfl (n' (s' rfl rfl (q' rfl (q' rfl (AOps.s hC rfl (n' (re' ?_))))))))
  obtain rfl := oi' hh
  exact ⟨_, _, [], rfl, .rfl, trivial, rfl, rfl, rfl, rfl⟩
def syntax_report_deep (d : Int) (syntaxReport : SyntaxReport) : Option SyntaxReport :=
  some (SyntaxReport.mk syntaxReport.nodes (max syntaxReport.depth d) syntaxReport.badForm syntaxReport.badName syntaxReport.badNumber)
abbrev syntax_report_deep_m (d : Int) (syntaxReport : SyntaxReport) (res : SyntaxReport) : Prop := ACall C 100 [.ref 0 0, .d (.int .i64 d)] [.row (SyntaxReport.cells syntaxReport) 75] (fun x H' => H' = [.row (SyntaxReport.cells res) 75] ∧ x = .tup [])
theorem syntax_report_deep_ok {d : Int} {syntaxReport : SyntaxReport} {res : SyntaxReport} (hh : syntax_report_deep d syntaxReport = some res) : syntax_report_deep_m d syntaxReport res := by
  unfold syntax_report_deep at hh
  refine ACall.intro hC Tryz.func100 rfl rfl rfl ?_
  refine R' rfl rfl (q' rfl (q' rfl (q' rfl (q' rfl (q' rfl (q' rfl (q' rfl (q' rfl (q' rfl (AOps.s hC rfl (n' ?_)))))))))))
  obtain rfl := oi' hh
  exact ⟨_, _, [.row [.d (.int .i64 syntaxReport.nodes), .d (.int .i64 (max syntaxReport.depth d)), .d (.bool syntaxReport.badForm), .d (.bool syntaxReport.badName), .d (.bool syntaxReport.badNumber)] 75], rfl, .rfl, ⟨⟨rfl, .refl _, rfl⟩, trivial⟩, rfl, rfl, rfl, rfl⟩
def syntax_arity_j2 (op : Int) (v9 : Bool) : Option Int :=
  if v9 = true then
    some 1
  else
    if (op == 5) = true then
      some 2
    else
      if (op == 23) = true then
        some 3
      else
        if (bif (decide (op ≥ 8)) then (decide (op ≤ 22)) else false) = true then
          some 2
        else
          some (-1)
abbrev syntax_arity_j2_m (op : Int) (v9 : Bool) (res : Int) : Prop := AEx (Fx.mk C 23 0) (sr (cb (sr (bk (sr (sl (sr (bodyOf Tryz.f102)))))))) (mkEnv [(0, .d (.int .i64 op)), (3, .d (.int .i64 op)), (9, .d (.bool v9))]) [] (Am.InBlock 0 (Am.Then (Fx.mk C 23 0) (sr (sr (bodyOf Tryz.f102))) (Am.Ends (Fx.mk C 23 0) Tryz.f102.results.toList (fun x H' => H' = [] ∧ x = .d (.int .i64 res)))))
theorem syntax_arity_j2_ok {op : Int} {v9 : Bool} {res : Int} (hh : syntax_arity_j2 op v9 = some res) : syntax_arity_j2_m op v9 res := by
  unfold syntax_arity_j2 at hh
  refine ci' rfl hh (fun hh => ?_) (fun hh => ?_)
  · refine s' rfl rfl (q' rfl (n' (re' ?_)))
    obtain rfl := oi' hh
    exact ⟨_, _, [], rfl, .rfl, trivial, rfl, rfl, rfl, rfl⟩
  refine s' rfl rfl (q' rfl (q' rfl (n' ?_)))
  refine ci' rfl hh (fun hh => ?_) (fun hh => ?_)
  · refine s' rfl rfl (q' rfl (n' (re' ?_)))
    obtain rfl := oi' hh
    exact ⟨_, _, [], rfl, .rfl, trivial, rfl, rfl, rfl, rfl⟩
  refine s' rfl rfl (q' rfl (q' rfl (n' ?_)))
  refine ci' rfl hh (fun hh => ?_) (fun hh => ?_)
  · refine s' rfl rfl (q' rfl (n' (re' ?_)))
    obtain rfl := oi' hh
    exact ⟨_, _, [], rfl, .rfl, trivial, rfl, rfl, rfl, rfl⟩
  refine sk' (S' (sg' 6 rfl (a0' rfl (a0' rfl (a0' rfl (a0' rfl (a1' rfl (pa' rfl (an' (n' ?_))))))))))
  refine ci' rfl hh (fun hh => ?_) (fun hh => ?_)
  · refine s' rfl rfl (q' rfl (n' (re' ?_)))
    obtain rfl := oi' hh
    exact ⟨_, _, [], rfl, .rfl, trivial, rfl, rfl, rfl, rfl⟩
  refine sk' (s' rfl rfl (q' rfl (n' (re' ?_))))
  obtain rfl := oi' hh
  exact ⟨_, _, [], rfl, .rfl, trivial, rfl, rfl, rfl, rfl⟩
def syntax_arity_j1 (op : Int) (v4 : Bool) : Option Int :=
  if v4 = true then
    some 0
  else
    if (op == 4) = true then
      syntax_arity_j2 op (op == 4)
    else
      if (op == 6) = true then
        syntax_arity_j2 op (op == 6)
      else
        syntax_arity_j2 op (op == 7)
abbrev syntax_arity_j1_m (op : Int) (v4 : Bool) (res : Int) : Prop := AEx (Fx.mk C 23 0) (sr (bk (sr (sl (sr (bodyOf Tryz.f102)))))) (mkEnv [(0, .d (.int .i64 op)), (3, .d (.int .i64 op)), (4, .d (.bool v4))]) [] (Am.InBlock 0 (Am.Then (Fx.mk C 23 0) (sr (sr (bodyOf Tryz.f102))) (Am.Ends (Fx.mk C 23 0) Tryz.f102.results.toList (fun x H' => H' = [] ∧ x = .d (.int .i64 res)))))
theorem syntax_arity_j1_ok {op : Int} {v4 : Bool} {res : Int} (hh : syntax_arity_j1 op v4 = some res) : syntax_arity_j1_m op v4 res := by
  unfold syntax_arity_j1 at hh
  refine ci' rfl hh (fun hh => ?_) (fun hh => ?_)
  · refine s' rfl rfl (q' rfl (n' (re' ?_)))
    obtain rfl := oi' hh
    exact ⟨_, _, [], rfl, .rfl, trivial, rfl, rfl, rfl, rfl⟩
  refine S' (s' rfl rfl (q' rfl (q' rfl (n' ?_))))
  refine ci' rfl hh (fun hh => ?_) (fun hh => ?_)
  · refine sk' ?_
    refine AEx.wk ?_ (syntax_arity_j2_ok hh)
    exact ⟨⟨⟨.rfl, rfl⟩, ⟨⟨.rfl, rfl⟩, ⟨⟨.rfl, rfl⟩, trivial⟩⟩⟩, trivial, rfl⟩
  refine s' rfl rfl (q' rfl (q' rfl (n' ?_)))
  refine ci' rfl hh (fun hh => ?_) (fun hh => ?_)
  · refine sk' ?_
    refine AEx.wk ?_ (syntax_arity_j2_ok hh)
    exact ⟨⟨⟨.rfl, rfl⟩, ⟨⟨.rfl, rfl⟩, ⟨⟨.rfl, rfl⟩, trivial⟩⟩⟩, trivial, rfl⟩
  refine R' rfl rfl (q' rfl (q' rfl (n' ?_)))
  refine AEx.wk ?_ (syntax_arity_j2_ok hh)
  exact ⟨⟨⟨.rfl, rfl⟩, ⟨⟨.rfl, rfl⟩, ⟨⟨.rfl, rfl⟩, trivial⟩⟩⟩, trivial, rfl⟩
def syntax_arity (op : Int) : Option Int :=
  if (op == 0) = true then
    syntax_arity_j1 op (op == 0)
  else
    if (op == 1) = true then
      syntax_arity_j1 op (op == 1)
    else
      if (op == 2) = true then
        syntax_arity_j1 op (op == 2)
      else
        syntax_arity_j1 op (op == 3)
abbrev syntax_arity_m (op : Int) (res : Int) : Prop := ACall C 102 [.d (.int .i64 op)] [] (fun x H' => H' = [] ∧ x = .d (.int .i64 res))
theorem syntax_arity_ok {op : Int} {res : Int} (hh : syntax_arity op = some res) : syntax_arity_m op res := by
  unfold syntax_arity at hh
  refine ACall.intro hC Tryz.func102 rfl rfl rfl ?_
  refine s' rfl rfl (q' rfl (n' (S' (s' rfl rfl (q' rfl (n' (AEx.block (S' (s' rfl rfl (q' rfl (q' rfl (n' ?_))))))))))))
  refine ci' rfl hh (fun hh => ?_) (fun hh => ?_)
  · refine sk' ?_
    refine AEx.wk ?_ (syntax_arity_j1_ok hh)
    exact ⟨⟨⟨.rfl, rfl⟩, ⟨⟨.rfl, rfl⟩, ⟨⟨.rfl, rfl⟩, trivial⟩⟩⟩, trivial, rfl⟩
  refine s' rfl rfl (q' rfl (q' rfl (n' ?_)))
  refine ci' rfl hh (fun hh => ?_) (fun hh => ?_)
  · refine sk' ?_
    refine AEx.wk ?_ (syntax_arity_j1_ok hh)
    exact ⟨⟨⟨.rfl, rfl⟩, ⟨⟨.rfl, rfl⟩, ⟨⟨.rfl, rfl⟩, trivial⟩⟩⟩, trivial, rfl⟩
  refine s' rfl rfl (q' rfl (q' rfl (n' ?_)))
  refine ci' rfl hh (fun hh => ?_) (fun hh => ?_)
  · refine sk' ?_
    refine AEx.wk ?_ (syntax_arity_j1_ok hh)
    exact ⟨⟨⟨.rfl, rfl⟩, ⟨⟨.rfl, rfl⟩, ⟨⟨.rfl, rfl⟩, trivial⟩⟩⟩, trivial, rfl⟩
  refine R' rfl rfl (q' rfl (q' rfl (n' ?_)))
  refine AEx.wk ?_ (syntax_arity_j1_ok hh)
  exact ⟨⟨⟨.rfl, rfl⟩, ⟨⟨.rfl, rfl⟩, ⟨⟨.rfl, rfl⟩, trivial⟩⟩⟩, trivial, rfl⟩
def syntax_report_form (ok : Bool) (syntaxReport : SyntaxReport) : Option SyntaxReport :=
  some (SyntaxReport.mk syntaxReport.nodes syntaxReport.depth (bif syntaxReport.badForm then true else (!ok)) syntaxReport.badName syntaxReport.badNumber)
abbrev syntax_report_form_m (ok : Bool) (syntaxReport : SyntaxReport) (res : SyntaxReport) : Prop := ACall C 101 [.ref 0 0, .d (.bool ok)] [.row (SyntaxReport.cells syntaxReport) 75] (fun x H' => H' = [.row (SyntaxReport.cells res) 75] ∧ x = .tup [])
theorem syntax_report_form_ok {ok : Bool} {syntaxReport : SyntaxReport} {res : SyntaxReport} (hh : syntax_report_form ok syntaxReport = some res) : syntax_report_form_m ok syntaxReport res := by
  unfold syntax_report_form at hh
  refine ACall.intro hC Tryz.func101 rfl rfl rfl ?_
  refine AEx.regionG 11 rfl (a0' rfl (a0' rfl (a0' rfl (a0' rfl (a0' rfl (a0' rfl (a0' rfl (a1' rfl (po' rfl (a0' rfl (a0' rfl (an' (AOps.s hC rfl ?_)))))))))))))
  refine n' ?_
  obtain rfl := oi' hh
  exact ⟨_, _, [.row [.d (.int .i64 syntaxReport.nodes), .d (.int .i64 syntaxReport.depth), .d (.bool (bif syntaxReport.badForm then true else (!ok))), .d (.bool syntaxReport.badName), .d (.bool syntaxReport.badNumber)] 75], rfl, .rfl, ⟨⟨rfl, .refl _, rfl⟩, trivial⟩, rfl, rfl, rfl, rfl⟩
def syntax_place_l1 (o0 : ApiExpr) : Option Bool :=
  if (bif (o0.Op == 4) then true else (o0.Op == 5)) = true then
    if (((o0.Kids).length : Int) == 0) = true then
      some false
    else
      idx o0.Kids 0 >>= fun x1 =>
      syntax_place_l1 x1
  else
    some (o0.Op == 3)
  partial_fixpoint
abbrev syntax_place_l1_m (o0 : ApiExpr) (res : Bool) : Prop := ALoop (Fx.mk C 22 0) (lo (bk (sl (sr (bodyOf Tryz.f103))))) (mkEnv [(1, .ref 0 0)]) [.row (ApiExpr.cells o0) 36] (Am.InBlock 0 (Am.Then (Fx.mk C 22 0) (sr (sr (bodyOf Tryz.f103))) (Am.Ends (Fx.mk C 22 0) Tryz.f103.results.toList (fun x H' => H' = [] ∧ x = .d (.bool res)))))
theorem syntax_place_l1_grp : (∀ (o0 : ApiExpr) (res : Bool), syntax_place_l1 o0 = some res → syntax_place_l1_m o0 res) := by
  refine syntax_place_l1.partial_correctness (fun o0 res => syntax_place_l1_m o0 res) ?_
  · intro g0 ih0 o0 res hh
    refine ALoop.unroll ?_
    refine S' (sg' 8 rfl (a0' rfl (a0' rfl (a0' rfl (a0' rfl (a0' rfl (a1' rfl (a1' rfl (po' rfl (an' (n' ?_)))))))))))
    refine ci' rfl hh (fun hh => ?_) (fun hh => ?_)
    · refine sk' (AEx.block (S' (s' rfl rfl (q' rfl (q' rfl (qe' rfl trivial (ApiExpr.lenA _) (q' rfl (n' ?_))))))))
      refine ci' rfl hh (fun hh => ?_) (fun hh => ?_)
      · refine s' rfl rfl (q' rfl (n' (re' ?_)))
        obtain rfl := oi' hh
        exact ⟨_, _, [], rfl, .rfl, trivial, rfl, rfl, rfl, rfl⟩
      obtain ⟨x1, hx1, hh⟩ := bs' hh
      refine sk' (R' rfl rfl (q' rfl (q' rfl (i' rfl (idx_nat hx1) (ApiExpr.idx hx1) rfl (q' rfl (AOps.s hC rfl (n' ?_)))))))
      refine ALoop.wk ?_ (ih0 _ _ hh)
      exact ⟨⟨⟨.rfl, rfl⟩, trivial⟩, ⟨⟨rfl, .refl _, rfl⟩, trivial⟩, rfl⟩
    refine ex' (s' rfl rfl (q' rfl (q' rfl (q' rfl (q' rfl (n' (re' ?_)))))))
    obtain rfl := oi' hh
    exact ⟨_, _, [], rfl, .rfl, trivial, rfl, rfl, rfl, rfl⟩
theorem syntax_place_l1_ok {o0 : ApiExpr} {res : Bool} (hh : syntax_place_l1 o0 = some res) : syntax_place_l1_m o0 res := (syntax_place_l1_grp) _ _ hh
def syntax_place (e : ApiExpr) : Option Bool :=
  syntax_place_l1 e
abbrev syntax_place_m (e : ApiExpr) (res : Bool) : Prop := ACall C 103 [.agg (ApiExpr.cells e)] [] (fun x H' => H' = [] ∧ x = .d (.bool res))
theorem syntax_place_ok {e : ApiExpr} {res : Bool} (hh : syntax_place e = some res) : syntax_place_m e res := by
  unfold syntax_place at hh
  refine ACall.intro hC Tryz.func103 rfl rfl rfl ?_
  refine s' rfl rfl (AOps.n hC rfl (q' rfl (n' (S' (AEx.block ?_)))))
  refine AEx.ofLoop ?_
  refine ALoop.wk ?_ (syntax_place_l1_ok hh)
  exact ⟨⟨⟨.rfl, rfl⟩, trivial⟩, ⟨⟨rfl, .refl _, rfl⟩, trivial⟩, rfl⟩
def lexer_isLetter (c : Int) : Option Bool :=
  some (bif (decide (c ≥ 97)) then (decide (c ≤ 122)) else false)
abbrev lexer_isLetter_m (c : Int) (res : Bool) : Prop := ACall C 182 [.d (.int .u8 c)] [] (fun x H' => H' = [] ∧ x = .d (.bool res))
theorem lexer_isLetter_ok {c : Int} {res : Bool} (hh : lexer_isLetter c = some res) : lexer_isLetter_m c res := by
  unfold lexer_isLetter at hh
  refine ACall.intro hC Tryz.func182 rfl rfl rfl ?_
  refine s' rfl rfl (q' rfl (n' (sg' 7 rfl (a0' rfl (a0' rfl (a0' rfl (a0' rfl (a1' rfl (pa' rfl (a0' rfl (an' (n' (re' ?_)))))))))))))
  obtain rfl := oi' hh
  exact ⟨_, _, [], rfl, .rfl, trivial, rfl, rfl, rfl, rfl⟩
def lexer_isDigit (c : Int) : Option Bool :=
  some (bif (decide (c ≥ 48)) then (decide (c ≤ 57)) else false)
abbrev lexer_isDigit_m (c : Int) (res : Bool) : Prop := ACall C 183 [.d (.int .u8 c)] [] (fun x H' => H' = [] ∧ x = .d (.bool res))
theorem lexer_isDigit_ok {c : Int} {res : Bool} (hh : lexer_isDigit c = some res) : lexer_isDigit_m c res := by
  unfold lexer_isDigit at hh
  refine ACall.intro hC Tryz.func183 rfl rfl rfl ?_
  refine s' rfl rfl (q' rfl (n' (sg' 7 rfl (a0' rfl (a0' rfl (a0' rfl (a0' rfl (a1' rfl (pa' rfl (a0' rfl (an' (n' (re' ?_)))))))))))))
  obtain rfl := oi' hh
  exact ⟨_, _, [], rfl, .rfl, trivial, rfl, rfl, rfl, rfl⟩
def lexer_isWord_l1 (s : Str) (v6 : Int) : Option Bool :=
  if (decide (v6 < ((s).length : Int))) = true then
    idx s v6 >>= fun x1 =>
    lexer_isLetter (x1.toNat : Int) >>= fun x2 =>
    (if ((!x2) && (!(v6 == 0))) = true then idx s v6 else some default) >>= fun x3 =>
    (if ((!x2) && (!(v6 == 0))) = true then lexer_isDigit (x3.toNat : Int) else some default) >>= fun x4 =>
    if (bif (!x2) then (bif (v6 == 0) then true else (!x4)) else false) = true then
      some false
    else
      lexer_isWord_l1 s (IntKind.i64.wrap (v6 + 1))
  else
    some (!(s == []))
  partial_fixpoint
abbrev lexer_isWord_l1_m (s : Str) (v6 : Int) (res : Bool) : Prop := ALoop (Fx.mk C 28 0) (lo (bk (sr (sl (sr (bodyOf Tryz.f160)))))) (mkEnv [(0, .d (.str s)), (5, .d (.int .i64 ((s).length : Int))), (6, .d (.int .i64 v6))]) [] (Am.InBlock 0 (Am.Then (Fx.mk C 28 0) (sr (sr (bodyOf Tryz.f160))) (Am.Ends (Fx.mk C 28 0) Tryz.f160.results.toList (fun x H' => H' = [] ∧ x = .d (.bool res)))))
theorem lexer_isWord_l1_grp (s : Str) : (∀ (v6 : Int) (res : Bool), lexer_isWord_l1 s v6 = some res → lexer_isWord_l1_m s v6 res) := by
  refine lexer_isWord_l1.partial_correctness s
    (fun v6 res => lexer_isWord_l1_m s v6 res) ?_
  · intro g0 ih0 v6 res hh
    refine ALoop.unroll ?_
    refine s' rfl rfl (q' rfl (n' (S' ?_)))
    refine ci' rfl hh (fun hh => ?_) (fun hh => ?_)
    · obtain ⟨x1, hx1, hh⟩ := bs' hh
      obtain ⟨x2, hx2, hh⟩ := bs' hh
      obtain ⟨x3, hx3, hh⟩ := bs' hh
      obtain ⟨x4, hx4, hh⟩ := bs' hh
      refine sk' (S' (AEx.block (s' rfl rfl (q' rfl (q' rfl (n' (sg' 16 rfl (a0' rfl (a0' rfl (AG.x hC rfl rfl (fun _ => trivial) (fun hw => ⟨idx_nat hx1, idx_get hx1⟩) (AG.c rfl rfl (fun _ => trivial) (fun _ => lexer_isLetter_ok hx2) (a0' rfl (a0' rfl ?_)))))))))))))
      refine a0' rfl (a1' rfl (a1' rfl (a0' rfl (a0' rfl (AG.x hC rfl rfl (fun hg => ⟨hg, hg, trivial⟩) (fun hw => ⟨idx_nat (if_t hw hx3), idx_get (if_t hw hx3)⟩) (AG.c rfl rfl (fun hg => ⟨hg, trivial⟩) (fun hw => lexer_isDigit_ok (if_t hw hx4)) (a1' rfl (pO' rfl (pa' rfl (an' (n' ?_)))))))))))
      refine ci' rfl hh (fun hh => ?_) (fun hh => ?_)
      · refine s' rfl rfl (q' rfl (n' (re' ?_)))
        obtain rfl := oi' hh
        exact ⟨_, _, [], rfl, .rfl, trivial, rfl, rfl, rfl, rfl⟩
      refine sk' (R' rfl rfl (q' rfl (q' rfl (n' ?_))))
      refine ALoop.wk ?_ (ih0 _ _ hh)
      exact ⟨⟨⟨.rfl, rfl⟩, ⟨⟨.rfl, rfl⟩, ⟨⟨.rfl, rfl⟩, trivial⟩⟩⟩, trivial, rfl⟩
    refine ex' (s' rfl rfl (q' rfl (q' rfl (q' rfl (n' (re' ?_))))))
    obtain rfl := oi' hh
    exact ⟨_, _, [], rfl, .rfl, trivial, rfl, rfl, rfl, rfl⟩
theorem lexer_isWord_l1_ok {s : Str} {v6 : Int} {res : Bool} (hh : lexer_isWord_l1 s v6 = some res) : lexer_isWord_l1_m s v6 res := (lexer_isWord_l1_grp s) _ _ hh
def lexer_isWord (s : Str) : Option Bool :=
  lexer_isWord_l1 s 0
abbrev lexer_isWord_m (s : Str) (res : Bool) : Prop := ACall C 160 [.d (.str s)] [] (fun x H' => H' = [] ∧ x = .d (.bool res))
theorem lexer_isWord_ok {s : Str} {res : Bool} (hh : lexer_isWord s = some res) : lexer_isWord_m s res := by
  unfold lexer_isWord at hh
  refine ACall.intro hC Tryz.func160 rfl rfl rfl ?_
  refine s' rfl rfl (q' rfl (n' (S' (s' rfl rfl (q' rfl (q' rfl (q' rfl (n' (AEx.block ?_)))))))))
  refine AEx.ofLoop ?_
  refine ALoop.wk ?_ (lexer_isWord_l1_ok hh)
  exact ⟨⟨⟨.rfl, rfl⟩, ⟨⟨.rfl, rfl⟩, ⟨⟨.rfl, rfl⟩, trivial⟩⟩⟩, trivial, rfl⟩
def lexer_Reserved (word : Str) : Option Bool :=
  (if (!(word == [])) = true then X_Contains word [32] else some default) >>= fun x1 =>
  if (!(bif (!(word == [])) then (!x1) else false) || (decide (1 + word.length ≤ maxLen))) = true then
    if (!(bif (!(word == [])) then (!x1) else false) || (decide (([32] ++ word).length + 1 ≤ maxLen))) = true then
      (if (bif (!(word == [])) then (!x1) else false) = true then X_Contains [32, 116, 121, 112, 101, 32, 115, 101, 99, 114, 101, 116, 32, 112, 117, 98, 108, 105, 99, 32, 114, 97, 110, 100, 111, 109, 32, 118, 97, 114, 32, 104, 97, 116, 99, 104, 32, 102, 117, 110, 99, 32, 114, 101, 116, 117, 114, 110, 32, 98, 101, 103, 105, 110, 32, 101, 110, 100, 32, 98, 111, 111, 108, 32, 105, 110, 116, 32, 97, 114, 114, 97, 121, 32, 111, 102, 32, 114, 101, 99, 111, 114, 100, 32, 116, 114, 117, 101, 32, 102, 97, 108, 115, 101, 32, 99, 97, 108, 108, 32, 114, 101, 108, 101, 97, 115, 101, 32, 111, 117, 116, 112, 117, 116, 32, 119, 97, 105, 116, 32, 105, 102, 32, 101, 108, 115, 101, 32, 119, 104, 105, 108, 101, 32, 108, 105, 109, 105, 116, 32, 102, 111, 114, 32, 116, 111, 32, 115, 101, 116, 116, 108, 101, 32, 109, 105, 110, 32, 109, 97, 120, 32] (([32] ++ word) ++ [32]) else some default) >>= fun x2 =>
      some (bif (bif (!(word == [])) then (!x1) else false) then x2 else false)
    else none
  else none
abbrev lexer_Reserved_m (word : Str) (res : Bool) : Prop := ACall C 161 [.d (.str word)] [] (fun x H' => H' = [] ∧ x = .d (.bool res))
theorem lexer_Reserved_ok {word : Str} {res : Bool} (hh : lexer_Reserved word = some res) : lexer_Reserved_m word res := by
  unfold lexer_Reserved at hh
  refine ACall.intro hC Tryz.func161 rfl rfl rfl ?_
  obtain ⟨x1, hx1, hh⟩ := bs' hh
  obtain ⟨c7, hh⟩ := asrt_imp hh
  obtain ⟨c8, hh⟩ := asrt_imp hh
  obtain ⟨x2, hx2, hh⟩ := bs' hh
  refine s' rfl rfl (q' rfl (n' (sg' 14 rfl (a0' rfl (a0' rfl (a0' rfl (a0' rfl (AG.c rfl rfl (fun hg => ⟨hg, trivial⟩) (fun hw => X_Contains_ok (if_t hw hx1)) (a1' rfl (pa' rfl (a0' rfl (a0' rfl (ag' rfl (fun hg => ⟨⟨hg, trivial⟩, (c7 hg)⟩) ?_)))))))))))))
  refine ag' rfl (fun hg => ⟨⟨hg, trivial⟩, (c8 hg)⟩) (AG.c rfl rfl (fun hg => ⟨hg, trivial⟩) (fun hw => X_Contains_ok (if_t hw hx2)) (pa' rfl (a0' rfl (an' (n' (re' ?_))))))
  obtain rfl := oi' hh
  exact ⟨_, _, [], rfl, .rfl, trivial, rfl, rfl, rfl, rfl⟩
def lexer_IsName (s : Str) : Option Bool :=
  (if (decide (((s).length : Int) ≤ 12)) = true then lexer_isWord s else some default) >>= fun x1 =>
  (if (bif (decide (((s).length : Int) ≤ 12)) then x1 else false) = true then lexer_Reserved s else some default) >>= fun x2 =>
  some (bif (bif (decide (((s).length : Int) ≤ 12)) then x1 else false) then (!x2) else false)
abbrev lexer_IsName_m (s : Str) (res : Bool) : Prop := ACall C 130 [.d (.str s)] [] (fun x H' => H' = [] ∧ x = .d (.bool res))
theorem lexer_IsName_ok {s : Str} {res : Bool} (hh : lexer_IsName s = some res) : lexer_IsName_m s res := by
  unfold lexer_IsName at hh
  refine ACall.intro hC Tryz.func130 rfl rfl rfl ?_
  obtain ⟨x1, hx1, hh⟩ := bs' hh
  obtain ⟨x2, hx2, hh⟩ := bs' hh
  refine s' rfl rfl (q' rfl (n' (sg' 13 rfl (a0' rfl (a0' rfl (a0' rfl (a0' rfl (a0' rfl (AG.c rfl rfl (fun hg => ⟨hg, trivial⟩) (fun hw => lexer_isWord_ok (if_t hw hx1)) (pa' rfl (a0' rfl (a0' rfl (AG.c rfl rfl (fun hg => ⟨hg, trivial⟩) (fun hw => lexer_Reserved_ok (if_t hw hx2)) ?_)))))))))))))
  refine a1' rfl (pa' rfl (a0' rfl (an' (n' (re' ?_)))))
  obtain rfl := oi' hh
  exact ⟨_, _, [], rfl, .rfl, trivial, rfl, rfl, rfl, rfl⟩
def syntax_IsName (s : Str) : Option Bool :=
  lexer_IsName s >>= fun x1 =>
  some x1
abbrev syntax_IsName_m (s : Str) (res : Bool) : Prop := ACall C 68 [.d (.str s)] [] (fun x H' => H' = [] ∧ x = .d (.bool res))
theorem syntax_IsName_ok {s : Str} {res : Bool} (hh : syntax_IsName s = some res) : syntax_IsName_m s res := by
  unfold syntax_IsName at hh
  refine ACall.intro hC Tryz.func68 rfl rfl rfl ?_
  obtain ⟨x1, hx1, hh⟩ := bs' hh
  refine s' rfl rfl (q' rfl (n' (s' rfl rfl (q' rfl (AOps.c rfl rfl (lexer_IsName_ok hx1) (q' rfl (n' (re' ?_))))))))
  obtain rfl := oi' hh
  exact ⟨_, _, [], rfl, .rfl, trivial, rfl, rfl, rfl, rfl⟩
def syntax_report_name (s : Str) (syntaxReport : SyntaxReport) : Option SyntaxReport :=
  (if (!syntaxReport.badName) = true then syntax_IsName s else some default) >>= fun x1 =>
  some (SyntaxReport.mk syntaxReport.nodes syntaxReport.depth syntaxReport.badForm (bif syntaxReport.badName then true else (!x1)) syntaxReport.badNumber)
abbrev syntax_report_name_m (s : Str) (syntaxReport : SyntaxReport) (res : SyntaxReport) : Prop := ACall C 104 [.ref 0 0, .d (.str s)] [.row (SyntaxReport.cells syntaxReport) 75] (fun x H' => H' = [.row (SyntaxReport.cells res) 75] ∧ x = .tup [])
theorem syntax_report_name_ok {s : Str} {syntaxReport : SyntaxReport} {res : SyntaxReport} (hh : syntax_report_name s syntaxReport = some res) : syntax_report_name_m s syntaxReport res := by
  unfold syntax_report_name at hh
  refine ACall.intro hC Tryz.func104 rfl rfl rfl ?_
  obtain ⟨x1, hx1, hh⟩ := bs' hh
  refine AEx.regionG 12 rfl (a0' rfl (a0' rfl (a0' rfl (a0' rfl (a0' rfl (a0' rfl (a0' rfl (AG.c rfl rfl (fun hg => ⟨hg, trivial⟩) (fun hw => syntax_IsName_ok (if_t hw hx1)) (a1' rfl (po' rfl (a0' rfl (a0' rfl (an' ?_)))))))))))))
  refine AOps.s hC rfl (n' ?_)
  obtain rfl := oi' hh
  exact ⟨_, _, [.row [.d (.int .i64 syntaxReport.nodes), .d (.int .i64 syntaxReport.depth), .d (.bool syntaxReport.badForm), .d (.bool (bif syntaxReport.badName then true else (!x1))), .d (.bool syntaxReport.badNumber)] 75], rfl, .rfl, ⟨⟨rfl, .refl _, rfl⟩, trivial⟩, rfl, rfl, rfl, rfl⟩
def syntax_inside (n : Int) (low : Int) (high : Int) : Option Bool :=
  some (bif (decide (n ≥ low)) then (decide (n ≤ high)) else false)
abbrev syntax_inside_m (n : Int) (low : Int) (high : Int) (res : Bool) : Prop := ACall C 106 [.d (.int .i64 n), .d (.int .i64 low), .d (.int .i64 high)] [] (fun x H' => H' = [] ∧ x = .d (.bool res))
theorem syntax_inside_ok {n : Int} {low : Int} {high : Int} {res : Bool} (hh : syntax_inside n low high = some res) : syntax_inside_m n low high res := by
  unfold syntax_inside at hh
  refine ACall.intro hC Tryz.func106 rfl rfl rfl ?_
  refine s' rfl rfl (q' rfl (n' (sg' 9 rfl (a0' rfl (a0' rfl (a0' rfl (a0' rfl (a0' rfl (a0' rfl (a2' rfl (pa' rfl (a0' rfl (an' ?_)))))))))))))
  refine n' (re' ?_)
  obtain rfl := oi' hh
  exact ⟨_, _, [], rfl, .rfl, trivial, rfl, rfl, rfl, rfl⟩
def syntax_report_number (ok : Bool) (syntaxReport : SyntaxReport) : Option SyntaxReport :=
  some (SyntaxReport.mk syntaxReport.nodes syntaxReport.depth syntaxReport.badForm syntaxReport.badName (bif syntaxReport.badNumber then true else (!ok)))
abbrev syntax_report_number_m (ok : Bool) (syntaxReport : SyntaxReport) (res : SyntaxReport) : Prop := ACall C 105 [.ref 0 0, .d (.bool ok)] [.row (SyntaxReport.cells syntaxReport) 75] (fun x H' => H' = [.row (SyntaxReport.cells res) 75] ∧ x = .tup [])
theorem syntax_report_number_ok {ok : Bool} {syntaxReport : SyntaxReport} {res : SyntaxReport} (hh : syntax_report_number ok syntaxReport = some res) : syntax_report_number_m ok syntaxReport res := by
  unfold syntax_report_number at hh
  refine ACall.intro hC Tryz.func105 rfl rfl rfl ?_
  refine AEx.regionG 11 rfl (a0' rfl (a0' rfl (a0' rfl (a0' rfl (a0' rfl (a0' rfl (a0' rfl (a1' rfl (po' rfl (a0' rfl (a0' rfl (an' (AOps.s hC rfl ?_)))))))))))))
  refine n' ?_
  obtain rfl := oi' hh
  exact ⟨_, _, [.row [.d (.int .i64 syntaxReport.nodes), .d (.int .i64 syntaxReport.depth), .d (.bool syntaxReport.badForm), .d (.bool syntaxReport.badName), .d (.bool (bif syntaxReport.badNumber then true else (!ok)))] 75], rfl, .rfl, ⟨⟨rfl, .refl _, rfl⟩, trivial⟩, rfl, rfl, rfl, rfl⟩
mutual
def syntax_report_expr (e : ApiExpr) (depth : Int) (syntaxReport : SyntaxReport) : Option SyntaxReport :=
  syntax_report_deep depth (SyntaxReport.mk (IntKind.i64.wrap (syntaxReport.nodes + 1)) syntaxReport.depth syntaxReport.badForm syntaxReport.badName syntaxReport.badNumber) >>= fun x1 =>
  syntax_arity e.Op >>= fun x2 =>
  syntax_report_form (x2 == ((e.Kids).length : Int)) x1 >>= fun x3 =>
  syntax_report_form (bif (e.NV == 0) then true else (e.Op == 0)) x3 >>= fun x4 =>
  syntax_report_form (bif (e.Name == []) then true else (bif (e.Op == 3) then true else (e.Op == 4))) x4 >>= fun x5 =>
  if (bif (e.Op == 4) then true else (e.Op == 5)) = true then
    syntax_place e >>= fun x6 =>
    syntax_report_form x6 x5 >>= fun x7 =>
    syntax_report_expr_j1 e depth x7
  else
    syntax_report_expr_j1 e depth x5
  partial_fixpoint
def syntax_report_expr_j1 (e : ApiExpr) (depth : Int) (o0 : SyntaxReport) : Option SyntaxReport :=
  if (bif (e.Op == 3) then true else (e.Op == 4)) = true then
    syntax_report_name e.Name o0 >>= fun x8 =>
    syntax_report_expr_j2 e depth x8
  else
    syntax_report_expr_j2 e depth o0
  partial_fixpoint
def syntax_report_expr_j2 (e : ApiExpr) (depth : Int) (o01 : SyntaxReport) : Option SyntaxReport :=
  if (e.Op == 0) = true then
    syntax_inside e.NV 0 1048576 >>= fun x9 =>
    syntax_report_number x9 o01 >>= fun x10 =>
    syntax_report_expr_j3 e depth x10
  else
    syntax_report_expr_j3 e depth o01
  partial_fixpoint
def syntax_report_expr_j3 (e : ApiExpr) (depth : Int) (o02 : SyntaxReport) : Option SyntaxReport :=
  syntax_report_expr_l4 e depth o02 0
  partial_fixpoint
def syntax_report_expr_l4 (e : ApiExpr) (depth : Int) (o03 : SyntaxReport) (v82 : Int) : Option SyntaxReport :=
  if (decide (v82 < ((e.Kids).length : Int))) = true then
    idx e.Kids v82 >>= fun x11 =>
    syntax_report_expr x11 (IntKind.i64.wrap (depth + 1)) o03 >>= fun x12 =>
    syntax_report_expr_l4 e depth x12 (IntKind.i64.wrap (v82 + 1))
  else
    some o03
  partial_fixpoint
end
abbrev syntax_report_expr_m (e : ApiExpr) (depth : Int) (syntaxReport : SyntaxReport) (res : SyntaxReport) : Prop := ACall C 47 [.ref 0 0, .agg (ApiExpr.cells e), .d (.int .i64 depth)] [.row (SyntaxReport.cells syntaxReport) 75] (fun x H' => H' = [.row (SyntaxReport.cells res) 75] ∧ x = .tup [])
abbrev syntax_report_expr_j1_m (e : ApiExpr) (depth : Int) (o0 : SyntaxReport) (res : SyntaxReport) : Prop := AEx (Fx.mk C 92 1) (sr (sr (sr (sr (sr (sr (sr (sr (bodyOf Tryz.f47))))))))) (mkEnv [(0, .ref 0 0), (2, .d (.int .i64 depth)), (4, .ref 1 0), (6, .d (.bool (bif (e.Op == 3) then true else (e.Op == 4))))]) [.row (SyntaxReport.cells o0) 75, .row (ApiExpr.cells e) 36] (Am.Ends (Fx.mk C 92 1) Tryz.f47.results.toList (fun x H' => H' = [.row (SyntaxReport.cells res) 75] ∧ x = .tup []))
abbrev syntax_report_expr_j2_m (e : ApiExpr) (depth : Int) (o01 : SyntaxReport) (res : SyntaxReport) : Prop := AEx (Fx.mk C 92 1) (sr (sr (sr (sr (sr (sr (sr (sr (sr (bodyOf Tryz.f47)))))))))) (mkEnv [(0, .ref 0 0), (2, .d (.int .i64 depth)), (4, .ref 1 0)]) [.row (SyntaxReport.cells o01) 75, .row (ApiExpr.cells e) 36] (Am.Ends (Fx.mk C 92 1) Tryz.f47.results.toList (fun x H' => H' = [.row (SyntaxReport.cells res) 75] ∧ x = .tup []))
abbrev syntax_report_expr_j3_m (e : ApiExpr) (depth : Int) (o02 : SyntaxReport) (res : SyntaxReport) : Prop := AEx (Fx.mk C 92 1) (sr (sr (sr (sr (sr (sr (sr (sr (sr (sr (bodyOf Tryz.f47))))))))))) (mkEnv [(0, .ref 0 0), (2, .d (.int .i64 depth)), (4, .ref 1 0)]) [.row (SyntaxReport.cells o02) 75, .row (ApiExpr.cells e) 36] (Am.Ends (Fx.mk C 92 1) Tryz.f47.results.toList (fun x H' => H' = [.row (SyntaxReport.cells res) 75] ∧ x = .tup []))
abbrev syntax_report_expr_l4_m (e : ApiExpr) (depth : Int) (o03 : SyntaxReport) (v82 : Int) (res : SyntaxReport) : Prop := ALoop (Fx.mk C 92 1) (lo (bk (sr (sr (sr (sr (sr (sr (sr (sr (sr (sr (sr (bodyOf Tryz.f47)))))))))))))) (mkEnv [(0, .ref 0 0), (2, .d (.int .i64 depth)), (80, .d (.sl (ApiExpr.rows e.Kids))), (81, .d (.int .i64 ((e.Kids).length : Int))), (82, .d (.int .i64 v82))]) [.row (SyntaxReport.cells o03) 75] (Am.InBlock 0 (Am.Ends (Fx.mk C 92 1) Tryz.f47.results.toList (fun x H' => H' = [.row (SyntaxReport.cells res) 75] ∧ x = .tup [])))
theorem syntax_report_expr_grp : (∀ (e : ApiExpr) (depth : Int) (syntaxReport : SyntaxReport) (res : SyntaxReport), syntax_report_expr e depth syntaxReport = some res → syntax_report_expr_m e depth syntaxReport res) ∧
    (∀ (e : ApiExpr) (depth : Int) (o0 : SyntaxReport) (res : SyntaxReport), syntax_report_expr_j1 e depth o0 = some res → syntax_report_expr_j1_m e depth o0 res) ∧
    (∀ (e : ApiExpr) (depth : Int) (o01 : SyntaxReport) (res : SyntaxReport), syntax_report_expr_j2 e depth o01 = some res → syntax_report_expr_j2_m e depth o01 res) ∧
    (∀ (e : ApiExpr) (depth : Int) (o02 : SyntaxReport) (res : SyntaxReport), syntax_report_expr_j3 e depth o02 = some res → syntax_report_expr_j3_m e depth o02 res) ∧
    (∀ (e : ApiExpr) (depth : Int) (o03 : SyntaxReport) (v82 : Int) (res : SyntaxReport), syntax_report_expr_l4 e depth o03 v82 = some res → syntax_report_expr_l4_m e depth o03 v82 res) := by
  refine syntax_report_expr.mutual_partial_correctness (fun e depth syntaxReport res => syntax_report_expr_m e depth syntaxReport res)
    (fun e depth o0 res => syntax_report_expr_j1_m e depth o0 res)
    (fun e depth o01 res => syntax_report_expr_j2_m e depth o01 res)
    (fun e depth o02 res => syntax_report_expr_j3_m e depth o02 res)
    (fun e depth o03 v82 res => syntax_report_expr_l4_m e depth o03 v82 res) ?_ ?_ ?_ ?_ ?_
  · intro g1 ih1 e depth syntaxReport res hh
    refine ACall.intro hC Tryz.func47 rfl rfl rfl ?_
    obtain ⟨x1, hx1, hh⟩ := bs' hh
    obtain ⟨x2, hx2, hh⟩ := bs' hh
    obtain ⟨x3, hx3, hh⟩ := bs' hh
    obtain ⟨x4, hx4, hh⟩ := bs' hh
    obtain ⟨x5, hx5, hh⟩ := bs' hh
    refine s' rfl rfl (AOps.n hC rfl (n' (s' rfl rfl (q' rfl (q' rfl (q' rfl (q' rfl (q' rfl (q' rfl (q' rfl (AOps.s hC rfl (n' (s' rfl rfl ?_)))))))))))))
    refine q' rfl (q' rfl (AOps.g [0] rfl (syntax_report_deep_ok hx1) ⟨.rfl, ⟨.rfl, trivial⟩⟩ rfl ⟨rfl, trivial⟩ rfl rfl (n' (S' (AEx.draw hC 8 rfl rfl rfl (Q' rfl (Q' rfl (Q' rfl (AQ.c rfl rfl (syntax_arity_ok hx2) (Q' rfl (Q' rfl (AQ.qe hC rfl trivial (ApiExpr.lenA _) (Q' rfl ?_)))))))))))))
    refine Qn' (AOps.g [0] rfl (syntax_report_form_ok hx3) ⟨.rfl, ⟨.rfl, trivial⟩⟩ rfl ⟨rfl, trivial⟩ rfl rfl (n' (sg' 9 rfl (a0' rfl (a0' rfl (a0' rfl (a0' rfl (a0' rfl (a0' rfl (a1' rfl (a1' rfl (po' rfl (an' ?_)))))))))))))
    refine AOps.g [0] rfl (syntax_report_form_ok hx4) ⟨.rfl, ⟨.rfl, trivial⟩⟩ rfl ⟨rfl, trivial⟩ rfl rfl (n' (sg' 9 rfl (a0' rfl (a0' rfl (a0' rfl (a0' rfl (a0' rfl (a1' rfl (a1' rfl (po' rfl (a0' rfl (an' (n' ?_)))))))))))))
    refine sg' 7 rfl (a0' rfl (a0' rfl (a0' rfl (a0' rfl (a0' rfl (a0' rfl (po' rfl (an' (AOps.g [0] rfl (syntax_report_form_ok hx5) ⟨.rfl, ⟨.rfl, trivial⟩⟩ rfl ⟨rfl, trivial⟩ rfl rfl (n' (S' (sg' 8 rfl (a0' rfl ?_)))))))))))))
    iterate 4 refine a0' rfl ?_
    refine a1' rfl (a1' rfl (po' rfl (an' (n' ?_))))
    refine ci' rfl hh (fun hh => ?_) (fun hh => ?_)
    · obtain ⟨x6, hx6, hh⟩ := bs' hh
      obtain ⟨x7, hx7, hh⟩ := bs' hh
      refine R' rfl rfl (q' rfl (q' rfl (AOps.c rfl rfl (syntax_place_ok hx6) (AOps.g [0] rfl (syntax_report_form_ok hx7) ⟨.rfl, ⟨.rfl, trivial⟩⟩ rfl ⟨rfl, trivial⟩ rfl rfl (n' ?_)))))
      refine AEx.wk ?_ (ih1 _ _ _ _ hh)
      exact ⟨⟨⟨.rfl, rfl⟩, ⟨⟨.rfl, rfl⟩, ⟨⟨.rfl, rfl⟩, ⟨⟨.rfl, rfl⟩, trivial⟩⟩⟩⟩, ⟨⟨rfl, .refl _, rfl⟩, ⟨⟨rfl, .refl _, rfl⟩, trivial⟩⟩, rfl⟩
    refine sk' ?_
    refine AEx.wk ?_ (ih1 _ _ _ _ hh)
    exact ⟨⟨⟨.rfl, rfl⟩, ⟨⟨.rfl, rfl⟩, ⟨⟨.rfl, rfl⟩, ⟨⟨.rfl, rfl⟩, trivial⟩⟩⟩⟩, ⟨⟨rfl, .refl _, rfl⟩, ⟨⟨rfl, .refl _, rfl⟩, trivial⟩⟩, rfl⟩
  · intro g2 ih2 e depth o0 res hh
    refine S' (s' rfl rfl (q' rfl (n' ?_)))
    refine ci' rfl hh (fun hh => ?_) (fun hh => ?_)
    · obtain ⟨x8, hx8, hh⟩ := bs' hh
      refine R' rfl rfl (q' rfl (q' rfl (q' rfl (AOps.g [0] rfl (syntax_report_name_ok hx8) ⟨.rfl, ⟨.rfl, trivial⟩⟩ rfl ⟨rfl, trivial⟩ rfl rfl (n' ?_)))))
      refine AEx.wk ?_ (ih2 _ _ _ _ hh)
      exact ⟨⟨⟨.rfl, rfl⟩, ⟨⟨.rfl, rfl⟩, ⟨⟨.rfl, rfl⟩, trivial⟩⟩⟩, ⟨⟨rfl, .refl _, rfl⟩, ⟨⟨rfl, .refl _, rfl⟩, trivial⟩⟩, rfl⟩
    refine sk' ?_
    refine AEx.wk ?_ (ih2 _ _ _ _ hh)
    exact ⟨⟨⟨.rfl, rfl⟩, ⟨⟨.rfl, rfl⟩, ⟨⟨.rfl, rfl⟩, trivial⟩⟩⟩, ⟨⟨rfl, .refl _, rfl⟩, ⟨⟨rfl, .refl _, rfl⟩, trivial⟩⟩, rfl⟩
  · intro g3 ih3 e depth o01 res hh
    refine S' (s' rfl rfl (q' rfl (q' rfl (q' rfl (n' ?_)))))
    refine ci' rfl hh (fun hh => ?_) (fun hh => ?_)
    · obtain ⟨x9, hx9, hh⟩ := bs' hh
      obtain ⟨x10, hx10, hh⟩ := bs' hh
      refine R' rfl rfl (q' rfl (q' rfl (q' rfl (AOps.c rfl rfl (syntax_inside_ok hx9) (AOps.g [0] rfl (syntax_report_number_ok hx10) ⟨.rfl, ⟨.rfl, trivial⟩⟩ rfl ⟨rfl, trivial⟩ rfl rfl (n' ?_))))))
      refine AEx.wk ?_ (ih3 _ _ _ _ hh)
      exact ⟨⟨⟨.rfl, rfl⟩, ⟨⟨.rfl, rfl⟩, ⟨⟨.rfl, rfl⟩, trivial⟩⟩⟩, ⟨⟨rfl, .refl _, rfl⟩, ⟨⟨rfl, .refl _, rfl⟩, trivial⟩⟩, rfl⟩
    refine sk' ?_
    refine AEx.wk ?_ (ih3 _ _ _ _ hh)
    exact ⟨⟨⟨.rfl, rfl⟩, ⟨⟨.rfl, rfl⟩, ⟨⟨.rfl, rfl⟩, trivial⟩⟩⟩, ⟨⟨rfl, .refl _, rfl⟩, ⟨⟨rfl, .refl _, rfl⟩, trivial⟩⟩, rfl⟩
  · intro g4 ih4 e depth o02 res hh
    refine s' rfl rfl (q' rfl (q' rfl (qe' rfl trivial (ApiExpr.lenA _) (q' rfl (n' (AEx.block ?_))))))
    refine AEx.ofLoop ?_
    refine ALoop.wk ?_ (ih4 _ _ _ _ _ hh)
    exact ⟨⟨⟨.rfl, rfl⟩, ⟨⟨.rfl, rfl⟩, ⟨⟨.rfl, rfl⟩, ⟨⟨.rfl, rfl⟩, ⟨⟨.rfl, rfl⟩, trivial⟩⟩⟩⟩⟩, ⟨⟨rfl, .refl _, rfl⟩, trivial⟩, rfl⟩
  · intro g0 g4 ih0 ih4 e depth o03 v82 res hh
    refine ALoop.unroll ?_
    refine s' rfl rfl (q' rfl (n' (S' ?_)))
    refine ci' rfl hh (fun hh => ?_) (fun hh => ?_)
    · obtain ⟨x11, hx11, hh⟩ := bs' hh
      obtain ⟨x12, hx12, hh⟩ := bs' hh
      refine sk' (S' (AEx.block (s' rfl rfl (i' rfl (idx_nat hx11) (ApiExpr.idx hx11) rfl (q' rfl (AOps.nf hC rfl (AOps.s hC rfl (n' (R' rfl rfl (q' rfl (q' rfl (q' rfl (q' rfl ?_)))))))))))))
      refine AOps.g [0] rfl (ih0 _ _ _ _ hx12) ⟨.rfl, ⟨.rfl, ⟨.rfl, trivial⟩⟩⟩ rfl ⟨rfl, trivial⟩ rfl rfl (n' (R' rfl rfl (q' rfl (q' rfl (n' ?_)))))
      refine ALoop.wk ?_ (ih4 _ _ _ _ _ hh)
      exact ⟨⟨⟨.rfl, rfl⟩, ⟨⟨.rfl, rfl⟩, ⟨⟨.rfl, rfl⟩, ⟨⟨.rfl, rfl⟩, ⟨⟨.rfl, rfl⟩, trivial⟩⟩⟩⟩⟩, ⟨⟨rfl, .refl _, rfl⟩, trivial⟩, rfl⟩
    refine ex' ?_
    obtain rfl := oi' hh
    exact ⟨_, _, [.row (SyntaxReport.cells o03) 75], rfl, .rfl, ⟨⟨rfl, .refl _, rfl⟩, trivial⟩, rfl, rfl, rfl, rfl⟩
theorem syntax_report_expr_ok {e : ApiExpr} {depth : Int} {syntaxReport : SyntaxReport} {res : SyntaxReport} (hh : syntax_report_expr e depth syntaxReport = some res) : syntax_report_expr_m e depth syntaxReport res := (syntax_report_expr_grp).1 _ _ _ _ hh
theorem syntax_report_expr_j1_ok {e : ApiExpr} {depth : Int} {o0 : SyntaxReport} {res : SyntaxReport} (hh : syntax_report_expr_j1 e depth o0 = some res) : syntax_report_expr_j1_m e depth o0 res := (syntax_report_expr_grp).2.1 _ _ _ _ hh
theorem syntax_report_expr_j2_ok {e : ApiExpr} {depth : Int} {o01 : SyntaxReport} {res : SyntaxReport} (hh : syntax_report_expr_j2 e depth o01 = some res) : syntax_report_expr_j2_m e depth o01 res := (syntax_report_expr_grp).2.2.1 _ _ _ _ hh
theorem syntax_report_expr_j3_ok {e : ApiExpr} {depth : Int} {o02 : SyntaxReport} {res : SyntaxReport} (hh : syntax_report_expr_j3 e depth o02 = some res) : syntax_report_expr_j3_m e depth o02 res := (syntax_report_expr_grp).2.2.2.1 _ _ _ _ hh
theorem syntax_report_expr_l4_ok {e : ApiExpr} {depth : Int} {o03 : SyntaxReport} {v82 : Int} {res : SyntaxReport} (hh : syntax_report_expr_l4 e depth o03 v82 = some res) : syntax_report_expr_l4_m e depth o03 v82 res := (syntax_report_expr_grp).2.2.2.2 _ _ _ _ _ hh
def syntax_report_code (syntaxReport : SyntaxReport) : Option Int :=
  if (bif (decide (syntaxReport.nodes > 1024)) then true else (decide (syntaxReport.depth > 12))) = true then
    some 4
  else
    if syntaxReport.badForm = true then
      some 1
    else
      if syntaxReport.badName = true then
        some 7
      else
        if syntaxReport.badNumber = true then
          some 3
        else
          some 0
abbrev syntax_report_code_m (syntaxReport : SyntaxReport) (res : Int) : Prop := ACall C 39 [.ref 0 0] [.row (SyntaxReport.cells syntaxReport) 75] (fun x H' => H' = [.row (SyntaxReport.cells syntaxReport) 75] ∧ x = .d (.int .i64 res))
theorem syntax_report_code_ok {syntaxReport : SyntaxReport} {res : Int} (hh : syntax_report_code syntaxReport = some res) : syntax_report_code_m syntaxReport res := by
  unfold syntax_report_code at hh
  refine ACall.intro hC Tryz.func39 rfl rfl rfl ?_
  refine s' rfl rfl (q' rfl (n' (S' (AEx.block (sg' 13 rfl (a0' rfl (a0' rfl (a0' rfl (a0' rfl (a0' rfl (a0' rfl (a0' rfl (a1' rfl ?_)))))))))))))
  refine a1' rfl (a1' rfl (a1' rfl (po' rfl (a0' rfl (an' (n' ?_))))))
  refine ci' rfl hh (fun hh => ?_) (fun hh => ?_)
  · refine s' rfl rfl (q' rfl (n' (re' ?_)))
    obtain rfl := oi' hh
    exact ⟨_, _, [.row (SyntaxReport.cells syntaxReport) 75], rfl, .rfl, ⟨⟨rfl, .refl _, rfl⟩, trivial⟩, rfl, rfl, rfl, rfl⟩
  refine s' rfl rfl (q' rfl (q' rfl (q' rfl (q' rfl (q' rfl (n' ?_))))))
  refine ci' rfl hh (fun hh => ?_) (fun hh => ?_)
  · refine s' rfl rfl (q' rfl (n' (re' ?_)))
    obtain rfl := oi' hh
    exact ⟨_, _, [.row (SyntaxReport.cells syntaxReport) 75], rfl, .rfl, ⟨⟨rfl, .refl _, rfl⟩, trivial⟩, rfl, rfl, rfl, rfl⟩
  refine s' rfl rfl (q' rfl (q' rfl (q' rfl (q' rfl (q' rfl (n' ?_))))))
  refine ci' rfl hh (fun hh => ?_) (fun hh => ?_)
  · refine s' rfl rfl (q' rfl (n' (re' ?_)))
    obtain rfl := oi' hh
    exact ⟨_, _, [.row (SyntaxReport.cells syntaxReport) 75], rfl, .rfl, ⟨⟨rfl, .refl _, rfl⟩, trivial⟩, rfl, rfl, rfl, rfl⟩
  refine s' rfl rfl (q' rfl (q' rfl (q' rfl (q' rfl (q' rfl (n' ?_))))))
  refine ci' rfl hh (fun hh => ?_) (fun hh => ?_)
  · refine s' rfl rfl (q' rfl (n' (re' ?_)))
    obtain rfl := oi' hh
    exact ⟨_, _, [.row (SyntaxReport.cells syntaxReport) 75], rfl, .rfl, ⟨⟨rfl, .refl _, rfl⟩, trivial⟩, rfl, rfl, rfl, rfl⟩
  refine sk' (s' rfl rfl (q' rfl (n' (re' ?_))))
  obtain rfl := oi' hh
  exact ⟨_, _, [.row (SyntaxReport.cells syntaxReport) 75], rfl, .rfl, ⟨⟨rfl, .refl _, rfl⟩, trivial⟩, rfl, rfl, rfl, rfl⟩
def syntax_CheckExpr (e : ApiExpr) : Option Int :=
  syntax_report_expr e 1 (SyntaxReport.mk 0 0 false false false) >>= fun x1 =>
  syntax_report_code x1 >>= fun x2 =>
  some x2
abbrev syntax_CheckExpr_m (e : ApiExpr) (res : Int) : Prop := ACall C 18 [.agg (ApiExpr.cells e)] [] (fun x H' => H' = [] ∧ x = .d (.int .i64 res))
theorem syntax_CheckExpr_ok {e : ApiExpr} {res : Int} (hh : syntax_CheckExpr e = some res) : syntax_CheckExpr_m e res := by
  unfold syntax_CheckExpr at hh
  refine ACall.intro hC Tryz.func18 rfl rfl rfl ?_
  obtain ⟨x1, hx1, hh⟩ := bs' hh
  obtain ⟨x2, hx2, hh⟩ := bs' hh
  refine s' rfl rfl (AOps.n hC rfl (q' rfl (n' (s' rfl rfl (q' rfl (AOps.n hC rfl (q' rfl (n' (s' rfl rfl (q' rfl (q' rfl (AOps.g [1] rfl (syntax_report_expr_ok hx1) ⟨.rfl, ⟨.rfl, ⟨.rfl, trivial⟩⟩⟩ rfl ⟨rfl, trivial⟩ rfl rfl (n' ?_)))))))))))))
  refine s' rfl rfl (q' rfl (AOps.g [1] rfl (syntax_report_code_ok hx2) ⟨.rfl, trivial⟩ rfl ⟨rfl, trivial⟩ rfl rfl (q' rfl (n' (re' ?_)))))
  obtain rfl := oi' hh
  exact ⟨_, _, [], rfl, .rfl, trivial, rfl, rfl, rfl, rfl⟩
def syntax_level_j3 (op : Int) (v20 : Bool) : Option Int :=
  if v20 = true then
    some 5
  else
    if (op == 6) = true then
      if (op == 6) = true then
        some 6
      else
        some 7
    else
      if (op == 7) = true then
        some 6
      else
        some 7
abbrev syntax_level_j3_m (op : Int) (v20 : Bool) (res : Int) : Prop := AEx (Fx.mk C 27 0) (sr (cb (sr (cb (sr (cb (sr (cb (sr (cb (sr (bk (sr (sl (sr (bodyOf Tryz.f154)))))))))))))))) (mkEnv [(3, .d (.int .i64 op)), (20, .d (.bool v20))]) [] (Am.InBlock 0 (Am.Then (Fx.mk C 27 0) (sr (sr (bodyOf Tryz.f154))) (Am.Ends (Fx.mk C 27 0) Tryz.f154.results.toList (fun x H' => H' = [] ∧ x = .d (.int .i64 res)))))
theorem syntax_level_j3_ok {op : Int} {v20 : Bool} {res : Int} (hh : syntax_level_j3 op v20 = some res) : syntax_level_j3_m op v20 res := by
  unfold syntax_level_j3 at hh
  refine ci' rfl hh (fun hh => ?_) (fun hh => ?_)
  · refine s' rfl rfl (q' rfl (n' (re' ?_)))
    obtain rfl := oi' hh
    exact ⟨_, _, [], rfl, .rfl, trivial, rfl, rfl, rfl, rfl⟩
  refine S' (s' rfl rfl (q' rfl (q' rfl (n' ?_))))
  refine ci' rfl hh (fun hh => ?_) (fun hh => ?_)
  · refine sk' ?_
    refine ci' rfl hh (fun hh => ?_) (fun hh => ?_)
    · refine s' rfl rfl (q' rfl (n' (re' ?_)))
      obtain rfl := oi' hh
      exact ⟨_, _, [], rfl, .rfl, trivial, rfl, rfl, rfl, rfl⟩
    refine sk' (s' rfl rfl (q' rfl (n' (re' ?_))))
    obtain rfl := oi' hh
    exact ⟨_, _, [], rfl, .rfl, trivial, rfl, rfl, rfl, rfl⟩
  refine R' rfl rfl (q' rfl (q' rfl (n' ?_)))
  refine ci' rfl hh (fun hh => ?_) (fun hh => ?_)
  · refine s' rfl rfl (q' rfl (n' (re' ?_)))
    obtain rfl := oi' hh
    exact ⟨_, _, [], rfl, .rfl, trivial, rfl, rfl, rfl, rfl⟩
  refine sk' (s' rfl rfl (q' rfl (n' (re' ?_))))
  obtain rfl := oi' hh
  exact ⟨_, _, [], rfl, .rfl, trivial, rfl, rfl, rfl, rfl⟩
def syntax_level_j2 (op : Int) (v17 : Bool) : Option Int :=
  if v17 = true then
    some 4
  else
    if (op == 10) = true then
      syntax_level_j3 op (op == 10)
    else
      if (op == 11) = true then
        syntax_level_j3 op (op == 11)
      else
        syntax_level_j3 op (op == 12)
abbrev syntax_level_j2_m (op : Int) (v17 : Bool) (res : Int) : Prop := AEx (Fx.mk C 27 0) (sr (cb (sr (cb (sr (cb (sr (cb (sr (bk (sr (sl (sr (bodyOf Tryz.f154)))))))))))))) (mkEnv [(3, .d (.int .i64 op)), (17, .d (.bool v17))]) [] (Am.InBlock 0 (Am.Then (Fx.mk C 27 0) (sr (sr (bodyOf Tryz.f154))) (Am.Ends (Fx.mk C 27 0) Tryz.f154.results.toList (fun x H' => H' = [] ∧ x = .d (.int .i64 res)))))
theorem syntax_level_j2_ok {op : Int} {v17 : Bool} {res : Int} (hh : syntax_level_j2 op v17 = some res) : syntax_level_j2_m op v17 res := by
  unfold syntax_level_j2 at hh
  refine ci' rfl hh (fun hh => ?_) (fun hh => ?_)
  · refine s' rfl rfl (q' rfl (n' (re' ?_)))
    obtain rfl := oi' hh
    exact ⟨_, _, [], rfl, .rfl, trivial, rfl, rfl, rfl, rfl⟩
  refine S' (s' rfl rfl (q' rfl (q' rfl (n' ?_))))
  refine ci' rfl hh (fun hh => ?_) (fun hh => ?_)
  · refine sk' ?_
    refine AEx.wk ?_ (syntax_level_j3_ok hh)
    exact ⟨⟨⟨.rfl, rfl⟩, ⟨⟨.rfl, rfl⟩, trivial⟩⟩, trivial, rfl⟩
  refine s' rfl rfl (q' rfl (q' rfl (n' ?_)))
  refine ci' rfl hh (fun hh => ?_) (fun hh => ?_)
  · refine sk' ?_
    refine AEx.wk ?_ (syntax_level_j3_ok hh)
    exact ⟨⟨⟨.rfl, rfl⟩, ⟨⟨.rfl, rfl⟩, trivial⟩⟩, trivial, rfl⟩
  refine R' rfl rfl (q' rfl (q' rfl (n' ?_)))
  refine AEx.wk ?_ (syntax_level_j3_ok hh)
  exact ⟨⟨⟨.rfl, rfl⟩, ⟨⟨.rfl, rfl⟩, trivial⟩⟩, trivial, rfl⟩
def syntax_level_j1 (op : Int) (v10 : Bool) : Option Int :=
  if v10 = true then
    some 3
  else
    if (op == 8) = true then
      syntax_level_j2 op (op == 8)
    else
      syntax_level_j2 op (op == 9)
abbrev syntax_level_j1_m (op : Int) (v10 : Bool) (res : Int) : Prop := AEx (Fx.mk C 27 0) (sr (cb (sr (cb (sr (cb (sr (bk (sr (sl (sr (bodyOf Tryz.f154)))))))))))) (mkEnv [(3, .d (.int .i64 op)), (10, .d (.bool v10))]) [] (Am.InBlock 0 (Am.Then (Fx.mk C 27 0) (sr (sr (bodyOf Tryz.f154))) (Am.Ends (Fx.mk C 27 0) Tryz.f154.results.toList (fun x H' => H' = [] ∧ x = .d (.int .i64 res)))))
theorem syntax_level_j1_ok {op : Int} {v10 : Bool} {res : Int} (hh : syntax_level_j1 op v10 = some res) : syntax_level_j1_m op v10 res := by
  unfold syntax_level_j1 at hh
  refine ci' rfl hh (fun hh => ?_) (fun hh => ?_)
  · refine s' rfl rfl (q' rfl (n' (re' ?_)))
    obtain rfl := oi' hh
    exact ⟨_, _, [], rfl, .rfl, trivial, rfl, rfl, rfl, rfl⟩
  refine S' (s' rfl rfl (q' rfl (q' rfl (n' ?_))))
  refine ci' rfl hh (fun hh => ?_) (fun hh => ?_)
  · refine sk' ?_
    refine AEx.wk ?_ (syntax_level_j2_ok hh)
    exact ⟨⟨⟨.rfl, rfl⟩, ⟨⟨.rfl, rfl⟩, trivial⟩⟩, trivial, rfl⟩
  refine R' rfl rfl (q' rfl (q' rfl (n' ?_)))
  refine AEx.wk ?_ (syntax_level_j2_ok hh)
  exact ⟨⟨⟨.rfl, rfl⟩, ⟨⟨.rfl, rfl⟩, trivial⟩⟩, trivial, rfl⟩
def syntax_level (op : Int) : Option Int :=
  if (op == 23) = true then
    some 0
  else
    if (op == 20) = true then
      some 1
    else
      if (op == 19) = true then
        some 2
      else
        if (op == 13) = true then
          syntax_level_j1 op (op == 13)
        else
          if (op == 14) = true then
            syntax_level_j1 op (op == 14)
          else
            if (op == 15) = true then
              syntax_level_j1 op (op == 15)
            else
              if (op == 16) = true then
                syntax_level_j1 op (op == 16)
              else
                if (op == 17) = true then
                  syntax_level_j1 op (op == 17)
                else
                  syntax_level_j1 op (op == 18)
abbrev syntax_level_m (op : Int) (res : Int) : Prop := ACall C 154 [.d (.int .i64 op)] [] (fun x H' => H' = [] ∧ x = .d (.int .i64 res))
theorem syntax_level_ok {op : Int} {res : Int} (hh : syntax_level op = some res) : syntax_level_m op res := by
  unfold syntax_level at hh
  refine ACall.intro hC Tryz.func154 rfl rfl rfl ?_
  refine s' rfl rfl (q' rfl (n' (S' (s' rfl rfl (q' rfl (n' (AEx.block (s' rfl rfl (q' rfl (q' rfl (n' ?_)))))))))))
  refine ci' rfl hh (fun hh => ?_) (fun hh => ?_)
  · refine s' rfl rfl (q' rfl (n' (re' ?_)))
    obtain rfl := oi' hh
    exact ⟨_, _, [], rfl, .rfl, trivial, rfl, rfl, rfl, rfl⟩
  refine s' rfl rfl (q' rfl (q' rfl (n' ?_)))
  refine ci' rfl hh (fun hh => ?_) (fun hh => ?_)
  · refine s' rfl rfl (q' rfl (n' (re' ?_)))
    obtain rfl := oi' hh
    exact ⟨_, _, [], rfl, .rfl, trivial, rfl, rfl, rfl, rfl⟩
  refine s' rfl rfl (q' rfl (q' rfl (n' ?_)))
  refine ci' rfl hh (fun hh => ?_) (fun hh => ?_)
  · refine s' rfl rfl (q' rfl (n' (re' ?_)))
    obtain rfl := oi' hh
    exact ⟨_, _, [], rfl, .rfl, trivial, rfl, rfl, rfl, rfl⟩
  refine S' (s' rfl rfl (q' rfl (q' rfl (n' ?_))))
  refine ci' rfl hh (fun hh => ?_) (fun hh => ?_)
  · refine sk' ?_
    refine AEx.wk ?_ (syntax_level_j1_ok hh)
    exact ⟨⟨⟨.rfl, rfl⟩, ⟨⟨.rfl, rfl⟩, trivial⟩⟩, trivial, rfl⟩
  refine s' rfl rfl (q' rfl (q' rfl (n' ?_)))
  refine ci' rfl hh (fun hh => ?_) (fun hh => ?_)
  · refine sk' ?_
    refine AEx.wk ?_ (syntax_level_j1_ok hh)
    exact ⟨⟨⟨.rfl, rfl⟩, ⟨⟨.rfl, rfl⟩, trivial⟩⟩, trivial, rfl⟩
  refine s' rfl rfl (q' rfl (q' rfl (n' ?_)))
  refine ci' rfl hh (fun hh => ?_) (fun hh => ?_)
  · refine sk' ?_
    refine AEx.wk ?_ (syntax_level_j1_ok hh)
    exact ⟨⟨⟨.rfl, rfl⟩, ⟨⟨.rfl, rfl⟩, trivial⟩⟩, trivial, rfl⟩
  refine s' rfl rfl (q' rfl (q' rfl (n' ?_)))
  refine ci' rfl hh (fun hh => ?_) (fun hh => ?_)
  · refine sk' ?_
    refine AEx.wk ?_ (syntax_level_j1_ok hh)
    exact ⟨⟨⟨.rfl, rfl⟩, ⟨⟨.rfl, rfl⟩, trivial⟩⟩, trivial, rfl⟩
  refine s' rfl rfl (q' rfl (q' rfl (n' ?_)))
  refine ci' rfl hh (fun hh => ?_) (fun hh => ?_)
  · refine sk' ?_
    refine AEx.wk ?_ (syntax_level_j1_ok hh)
    exact ⟨⟨⟨.rfl, rfl⟩, ⟨⟨.rfl, rfl⟩, trivial⟩⟩, trivial, rfl⟩
  refine R' rfl rfl (q' rfl (q' rfl (n' ?_)))
  refine AEx.wk ?_ (syntax_level_j1_ok hh)
  exact ⟨⟨⟨.rfl, rfl⟩, ⟨⟨.rfl, rfl⟩, trivial⟩⟩, trivial, rfl⟩
mutual
def syntax_printer_expr (e : ApiExpr) (b : Str) : Option Str :=
  if (e.Op == 0) = true then
    X_Itoa e.NV >>= fun x1 =>
    X_WriteString_SyntaxPrinter x1 b >>= fun x2 =>
    some x2.2
  else
    if (e.Op == 1) = true then
      X_WriteString_SyntaxPrinter [116, 114, 117, 101] b >>= fun x3 =>
      some x3.2
    else
      if (e.Op == 2) = true then
        X_WriteString_SyntaxPrinter [102, 97, 108, 115, 101] b >>= fun x4 =>
        some x4.2
      else
        if (e.Op == 3) = true then
          X_WriteString_SyntaxPrinter e.Name b >>= fun x5 =>
          some x5.2
        else
          if (e.Op == 4) = true then
            idx e.Kids 0 >>= fun x6 =>
            syntax_printer_expr x6 b >>= fun x14 =>
            if (decide (1 + e.Name.length ≤ maxLen)) = true then
              X_WriteString_SyntaxPrinter ([46] ++ e.Name) x14 >>= fun x15 =>
              some x15.2
            else none
          else
            if (e.Op == 5) = true then
              idx e.Kids 0 >>= fun x7 =>
              syntax_printer_expr x7 b >>= fun x16 =>
              X_WriteString_SyntaxPrinter [91] x16 >>= fun x17 =>
              idx e.Kids 1 >>= fun x18 =>
              syntax_printer_expr x18 x17.2 >>= fun x19 =>
              X_WriteString_SyntaxPrinter [93] x19 >>= fun x20 =>
              some x20.2
            else
              if (e.Op == 6) = true then
                syntax_printer_expr_j1 e b (e.Op == 6)
              else
                syntax_printer_expr_j1 e b (e.Op == 7)
  partial_fixpoint
def syntax_printer_expr_j1 (e : ApiExpr) (b : Str) (v77 : Bool) : Option Str :=
  if v77 = true then
    if (e.Op == 7) = true then
      syntax_printer_expr_j2 e b [33]
    else
      syntax_printer_expr_j2 e b [45]
  else
    if (e.Op == 21) = true then
      syntax_printer_expr_j3 e b (e.Op == 21)
    else
      syntax_printer_expr_j3 e b (e.Op == 22)
  partial_fixpoint
def syntax_printer_expr_j3 (e : ApiExpr) (b : Str) (v94 : Bool) : Option Str :=
  if v94 = true then
    if (e.Op == 22) = true then
      syntax_printer_expr_j4 e b [109, 97, 120, 40]
    else
      syntax_printer_expr_j4 e b [109, 105, 110, 40]
  else
    if (e.Op == 23) = true then
      idx e.Kids 0 >>= fun x13 =>
      syntax_printer_kid x13 1 b >>= fun x22 =>
      X_WriteString_SyntaxPrinter [32, 63, 32] x22 >>= fun x23 =>
      idx e.Kids 1 >>= fun x24 =>
      syntax_printer_expr x24 x23.2 >>= fun x25 =>
      X_WriteString_SyntaxPrinter [32, 58, 32] x25 >>= fun x26 =>
      idx e.Kids 2 >>= fun x27 =>
      syntax_printer_expr x27 x26.2 >>= fun x28 =>
      some x28
    else
      syntax_printer_binary e b >>= fun x29 =>
      some x29
  partial_fixpoint
def syntax_printer_binary (e : ApiExpr) (b : Str) : Option Str :=
  syntax_level e.Op >>= fun x1 =>
  if (x1 == 3) = true then
    syntax_printer_binary_j1 e b x1 4
  else
    syntax_printer_binary_j1 e b x1 x1
  partial_fixpoint
def syntax_printer_binary_j1 (e : ApiExpr) (b : Str) (x1 : Int) (left : Int) : Option Str :=
  idx e.Kids 0 >>= fun x2 =>
  syntax_printer_kid x2 left b >>= fun x3 =>
  idx tab_signs (IntKind.i64.wrap (e.Op - 8)) >>= fun x4 =>
  if (decide (1 + x4.length ≤ maxLen)) = true then
    if (decide (([32] ++ x4).length + 1 ≤ maxLen)) = true then
      X_WriteString_SyntaxPrinter (([32] ++ x4) ++ [32]) x3 >>= fun x5 =>
      idx e.Kids 1 >>= fun x6 =>
      syntax_printer_kid x6 (IntKind.i64.wrap (x1 + 1)) x5.2 >>= fun x7 =>
      some x7
    else none
  else none
  partial_fixpoint
def syntax_printer_kid (e : ApiExpr) (required : Int) (b : Str) : Option Str :=
  syntax_level e.Op >>= fun x1 =>
  if (decide (x1 ≥ required)) = true then
    syntax_printer_expr e b >>= fun x3 =>
    some x3
  else
    X_WriteString_SyntaxPrinter [40] b >>= fun x2 =>
    syntax_printer_expr e x2.2 >>= fun x4 =>
    X_WriteString_SyntaxPrinter [41] x4 >>= fun x5 =>
    some x5.2
  partial_fixpoint
def syntax_printer_expr_j4 (e : ApiExpr) (b : Str) (word : Str) : Option Str :=
  X_WriteString_SyntaxPrinter word b >>= fun x10 =>
  syntax_printer_list e.Kids x10.2 >>= fun x11 =>
  X_WriteString_SyntaxPrinter [41] x11 >>= fun x12 =>
  some x12.2
  partial_fixpoint
def syntax_printer_list (l : List ApiExpr) (b : Str) : Option Str :=
  syntax_printer_list_l1 l b 0
  partial_fixpoint
def syntax_printer_list_l1 (l : List ApiExpr) (b1 : Str) (v8 : Int) : Option Str :=
  if (decide (v8 < ((l).length : Int))) = true then
    idx l v8 >>= fun x1 =>
    if (decide (v8 > 0)) = true then
      X_WriteString_SyntaxPrinter [44, 32] b1 >>= fun x3 =>
      syntax_printer_expr x1 x3.2 >>= fun x2 =>
      syntax_printer_list_l1 l x2 (IntKind.i64.wrap (v8 + 1))
    else
      syntax_printer_expr x1 b1 >>= fun x2 =>
      syntax_printer_list_l1 l x2 (IntKind.i64.wrap (v8 + 1))
  else
    some b1
  partial_fixpoint
def syntax_printer_expr_j2 (e : ApiExpr) (b : Str) (sign : Str) : Option Str :=
  X_WriteString_SyntaxPrinter sign b >>= fun x8 =>
  idx e.Kids 0 >>= fun x9 =>
  syntax_printer_kid x9 6 x8.2 >>= fun x21 =>
  some x21
  partial_fixpoint
end
abbrev syntax_printer_expr_m (e : ApiExpr) (b : Str) (res : Str) : Prop := ACall C 43 [.ref 0 0, .agg (ApiExpr.cells e)] [.bld 1 86, .buf 5 b] (fun x H' => H' = [.bld 1 86, .buf 5 res] ∧ x = .tup [])
abbrev syntax_printer_expr_j1_m (e : ApiExpr) (b : Str) (v77 : Bool) (res : Str) : Prop := AEx (Fx.mk C 141 2) (sr (cb (sr (cb (sr (cb (sr (cb (sr (cb (sr (cb (sr (bk (sr (sr (bodyOf Tryz.f43))))))))))))))))) (mkEnv [(0, .ref 0 0), (3, .ref 2 0), (7, .d (.int .i64 e.Op)), (77, .d (.bool v77))]) [.bld 1 86, .buf 5 b, .row (ApiExpr.cells e) 36] (Am.InBlock 0 (Am.Ends (Fx.mk C 141 2) Tryz.f43.results.toList (fun x H' => H' = [.bld 1 86, .buf 5 res] ∧ x = .tup [])))
abbrev syntax_printer_expr_j3_m (e : ApiExpr) (b : Str) (v94 : Bool) (res : Str) : Prop := AEx (Fx.mk C 141 2) (sr (cb (sr (cb (sr (cb (sr (cb (sr (cb (sr (cb (sr (cb (sr (bk (sr (sr (bodyOf Tryz.f43))))))))))))))))))) (mkEnv [(0, .ref 0 0), (3, .ref 2 0), (7, .d (.int .i64 e.Op)), (94, .d (.bool v94))]) [.bld 1 86, .buf 5 b, .row (ApiExpr.cells e) 36] (Am.InBlock 0 (Am.Ends (Fx.mk C 141 2) Tryz.f43.results.toList (fun x H' => H' = [.bld 1 86, .buf 5 res] ∧ x = .tup [])))
abbrev syntax_printer_binary_m (e : ApiExpr) (b : Str) (res : Str) : Prop := ACall C 93 [.ref 0 0, .agg (ApiExpr.cells e)] [.bld 1 86, .buf 5 b] (fun x H' => H' = [.bld 1 86, .buf 5 res] ∧ x = .tup [])
abbrev syntax_printer_binary_j1_m (e : ApiExpr) (b : Str) (x1 : Int) (left : Int) (res : Str) : Prop := AEx (Fx.mk C 38 2) (sr (sr (sr (sr (bodyOf Tryz.f93))))) (mkEnv [(0, .ref 0 0), (3, .ref 2 0), (4, .d (.int .i64 x1)), (5, .d (.int .i64 left))]) [.bld 1 86, .buf 5 b, .row (ApiExpr.cells e) 36] (Am.Ends (Fx.mk C 38 2) Tryz.f93.results.toList (fun x H' => H' = [.bld 1 86, .buf 5 res] ∧ x = .tup []))
abbrev syntax_printer_kid_m (e : ApiExpr) (required : Int) (b : Str) (res : Str) : Prop := ACall C 91 [.ref 0 0, .agg (ApiExpr.cells e), .d (.int .i64 required)] [.bld 1 86, .buf 5 b] (fun x H' => H' = [.bld 1 86, .buf 5 res] ∧ x = .tup [])
abbrev syntax_printer_expr_j4_m (e : ApiExpr) (b : Str) (word : Str) (res : Str) : Prop := AEx (Fx.mk C 141 2) (sr (sr (ca (sr (cb (sr (cb (sr (cb (sr (cb (sr (cb (sr (cb (sr (cb (sr (bk (sr (sr (bodyOf Tryz.f43)))))))))))))))))))))) (mkEnv [(0, .ref 0 0), (3, .ref 2 0), (5, .d (.str word))]) [.bld 1 86, .buf 5 b, .row (ApiExpr.cells e) 36] (Am.InBlock 0 (Am.Ends (Fx.mk C 141 2) Tryz.f43.results.toList (fun x H' => H' = [.bld 1 86, .buf 5 res] ∧ x = .tup [])))
abbrev syntax_printer_list_m (l : List ApiExpr) (b : Str) (res : Str) : Prop := ACall C 92 [.ref 0 0, .d (.sl (ApiExpr.rows l))] [.bld 1 86, .buf 5 b] (fun x H' => H' = [.bld 1 86, .buf 5 res] ∧ x = .tup [])
abbrev syntax_printer_list_l1_m (l : List ApiExpr) (b1 : Str) (v8 : Int) (res : Str) : Prop := ALoop (Fx.mk C 23 2) (lo (bk (sr (bodyOf Tryz.f92)))) (mkEnv [(0, .ref 0 0), (6, .d (.sl (ApiExpr.rows l))), (7, .d (.int .i64 ((l).length : Int))), (8, .d (.int .i64 v8))]) [.bld 1 86, .buf 5 b1] (Am.InBlock 0 (Am.Ends (Fx.mk C 23 2) Tryz.f92.results.toList (fun x H' => H' = [.bld 1 86, .buf 5 res] ∧ x = .tup [])))
abbrev syntax_printer_expr_j2_m (e : ApiExpr) (b : Str) (sign : Str) (res : Str) : Prop := AEx (Fx.mk C 141 2) (sr (sr (ca (sr (cb (sr (cb (sr (cb (sr (cb (sr (cb (sr (cb (sr (bk (sr (sr (bodyOf Tryz.f43)))))))))))))))))))) (mkEnv [(0, .ref 0 0), (3, .ref 2 0), (4, .d (.str sign))]) [.bld 1 86, .buf 5 b, .row (ApiExpr.cells e) 36] (Am.InBlock 0 (Am.Ends (Fx.mk C 141 2) Tryz.f43.results.toList (fun x H' => H' = [.bld 1 86, .buf 5 res] ∧ x = .tup [])))
theorem syntax_printer_expr_grp : (∀ (e : ApiExpr) (b : Str) (res : Str), syntax_printer_expr e b = some res → syntax_printer_expr_m e b res) ∧
    (∀ (e : ApiExpr) (b : Str) (v77 : Bool) (res : Str), syntax_printer_expr_j1 e b v77 = some res → syntax_printer_expr_j1_m e b v77 res) ∧
    (∀ (e : ApiExpr) (b : Str) (v94 : Bool) (res : Str), syntax_printer_expr_j3 e b v94 = some res → syntax_printer_expr_j3_m e b v94 res) ∧
    (∀ (e : ApiExpr) (b : Str) (res : Str), syntax_printer_binary e b = some res → syntax_printer_binary_m e b res) ∧
    (∀ (e : ApiExpr) (b : Str) (x1 : Int) (left : Int) (res : Str), syntax_printer_binary_j1 e b x1 left = some res → syntax_printer_binary_j1_m e b x1 left res) ∧
    (∀ (e : ApiExpr) (required : Int) (b : Str) (res : Str), syntax_printer_kid e required b = some res → syntax_printer_kid_m e required b res) ∧
    (∀ (e : ApiExpr) (b : Str) (word : Str) (res : Str), syntax_printer_expr_j4 e b word = some res → syntax_printer_expr_j4_m e b word res) ∧
    (∀ (l : List ApiExpr) (b : Str) (res : Str), syntax_printer_list l b = some res → syntax_printer_list_m l b res) ∧
    (∀ (l : List ApiExpr) (b1 : Str) (v8 : Int) (res : Str), syntax_printer_list_l1 l b1 v8 = some res → syntax_printer_list_l1_m l b1 v8 res) ∧
    (∀ (e : ApiExpr) (b : Str) (sign : Str) (res : Str), syntax_printer_expr_j2 e b sign = some res → syntax_printer_expr_j2_m e b sign res) := by
  refine syntax_printer_expr.mutual_partial_correctness (fun e b res => syntax_printer_expr_m e b res)
    (fun e b v77 res => syntax_printer_expr_j1_m e b v77 res)
    (fun e b v94 res => syntax_printer_expr_j3_m e b v94 res)
    (fun e b res => syntax_printer_binary_m e b res)
    (fun e b x1 left res => syntax_printer_binary_j1_m e b x1 left res)
    (fun e required b res => syntax_printer_kid_m e required b res)
    (fun e b word res => syntax_printer_expr_j4_m e b word res)
    (fun l b res => syntax_printer_list_m l b res)
    (fun l b1 v8 res => syntax_printer_list_l1_m l b1 v8 res)
    (fun e b sign res => syntax_printer_expr_j2_m e b sign res) ?_ ?_ ?_ ?_ ?_ ?_ ?_ ?_ ?_ ?_
  · intro g0 g1 ih0 ih1 e b res hh
    refine ACall.intro hC Tryz.func43 rfl rfl rfl ?_
    refine s' rfl rfl (AOps.n hC rfl (n' (s' rfl rfl (q' rfl (q' rfl (n' (AEx.block (s' rfl rfl (q' rfl (q' rfl (n' ?_)))))))))))
    refine ci' rfl hh (fun hh => ?_) (fun hh => ?_)
    · obtain ⟨x1, hx1, hh⟩ := bs' hh
      obtain ⟨x2, hx2, hh⟩ := bs' hh
      refine AEx.draw hC 6 rfl rfl rfl (Q' rfl (Q' rfl (Q' rfl (Q' rfl (Q' rfl (AQ.c rfl rfl (X_Itoa_ok hx1) (Qn' (AOps.g [0, 1] rfl (X_WriteString_SyntaxPrinter_ok hx2) ⟨.rfl, ⟨.rfl, trivial⟩⟩ rfl ⟨rfl, ⟨rfl, trivial⟩⟩ rfl rfl (n' ?_)))))))))
      obtain rfl := oi' hh
      exact ⟨_, _, [.bld 1 86, .buf 5 x2.2], rfl, .rfl, ⟨⟨rfl, Nat.le_of_ble_eq_true rfl⟩, ⟨rfl, trivial⟩⟩, rfl, rfl, rfl, rfl⟩
    refine s' rfl rfl (q' rfl (q' rfl (n' ?_)))
    refine ci' rfl hh (fun hh => ?_) (fun hh => ?_)
    · obtain ⟨x3, hx3, hh⟩ := bs' hh
      refine R' rfl rfl (q' rfl (q' rfl (q' rfl (AOps.g [0, 1] rfl (X_WriteString_SyntaxPrinter_ok hx3) ⟨.rfl, ⟨.rfl, trivial⟩⟩ rfl ⟨rfl, ⟨rfl, trivial⟩⟩ rfl rfl (n' ?_)))))
      obtain rfl := oi' hh
      exact ⟨_, _, [.bld 1 86, .buf 5 x3.2], rfl, .rfl, ⟨⟨rfl, Nat.le_of_ble_eq_true rfl⟩, ⟨rfl, trivial⟩⟩, rfl, rfl, rfl, rfl⟩
    refine s' rfl rfl (q' rfl (q' rfl (n' ?_)))
    refine ci' rfl hh (fun hh => ?_) (fun hh => ?_)
    · obtain ⟨x4, hx4, hh⟩ := bs' hh
      refine R' rfl rfl (q' rfl (q' rfl (q' rfl (AOps.g [0, 1] rfl (X_WriteString_SyntaxPrinter_ok hx4) ⟨.rfl, ⟨.rfl, trivial⟩⟩ rfl ⟨rfl, ⟨rfl, trivial⟩⟩ rfl rfl (n' ?_)))))
      obtain rfl := oi' hh
      exact ⟨_, _, [.bld 1 86, .buf 5 x4.2], rfl, .rfl, ⟨⟨rfl, Nat.le_of_ble_eq_true rfl⟩, ⟨rfl, trivial⟩⟩, rfl, rfl, rfl, rfl⟩
    refine s' rfl rfl (q' rfl (q' rfl (n' ?_)))
    refine ci' rfl hh (fun hh => ?_) (fun hh => ?_)
    · obtain ⟨x5, hx5, hh⟩ := bs' hh
      refine AEx.draw hC 5 rfl rfl rfl (Q' rfl (Q' rfl (Q' rfl (Q' rfl (Q' rfl (Qn' (AOps.g [0, 1] rfl (X_WriteString_SyntaxPrinter_ok hx5) ⟨.rfl, ⟨.rfl, trivial⟩⟩ rfl ⟨rfl, ⟨rfl, trivial⟩⟩ rfl rfl (n' ?_))))))))
      obtain rfl := oi' hh
      exact ⟨_, _, [.bld 1 86, .buf 5 x5.2], rfl, .rfl, ⟨⟨rfl, Nat.le_of_ble_eq_true rfl⟩, ⟨rfl, trivial⟩⟩, rfl, rfl, rfl, rfl⟩
    refine s' rfl rfl (q' rfl (q' rfl (n' ?_)))
    refine ci' rfl hh (fun hh => ?_) (fun hh => ?_)
    · obtain ⟨x6, hx6, hh⟩ := bs' hh
      obtain ⟨x14, hx14, hh⟩ := bs' hh
      obtain ⟨c3, hh⟩ := asrt_some hh
      obtain ⟨x15, hx15, hh⟩ := bs' hh
      refine s' rfl rfl (q' rfl (q' rfl (q' rfl (i' rfl (idx_nat hx6) (ApiExpr.idx hx6) rfl (q' rfl (AOps.g [0, 1] rfl (ih0 _ _ _ hx14) ⟨.rfl, ⟨.rfl, trivial⟩⟩ rfl ⟨rfl, ⟨rfl, trivial⟩⟩ rfl rfl (n' (AEx.draw hC 6 rfl rfl rfl (Q' rfl (Q' rfl (Q' rfl (Q' rfl (Q' rfl ?_)))))))))))))
      refine AQ.q hC rfl c3 (Qn' (AOps.g [0, 1] rfl (X_WriteString_SyntaxPrinter_ok hx15) ⟨.rfl, ⟨.rfl, trivial⟩⟩ rfl ⟨rfl, ⟨rfl, trivial⟩⟩ rfl rfl (n' ?_)))
      obtain rfl := oi' hh
      exact ⟨_, _, [.bld 1 86, .buf 5 x15.2], rfl, .rfl, ⟨⟨rfl, Nat.le_of_ble_eq_true rfl⟩, ⟨rfl, trivial⟩⟩, rfl, rfl, rfl, rfl⟩
    refine s' rfl rfl (q' rfl (q' rfl (n' ?_)))
    refine ci' rfl hh (fun hh => ?_) (fun hh => ?_)
    · obtain ⟨x7, hx7, hh⟩ := bs' hh
      obtain ⟨x16, hx16, hh⟩ := bs' hh
      obtain ⟨x17, hx17, hh⟩ := bs' hh
      obtain ⟨x18, hx18, hh⟩ := bs' hh
      obtain ⟨x19, hx19, hh⟩ := bs' hh
      obtain ⟨x20, hx20, hh⟩ := bs' hh
      refine s' rfl rfl (q' rfl (q' rfl (q' rfl (i' rfl (idx_nat hx7) (ApiExpr.idx hx7) rfl (q' rfl (AOps.g [0, 1] rfl (ih0 _ _ _ hx16) ⟨.rfl, ⟨.rfl, trivial⟩⟩ rfl ⟨rfl, ⟨rfl, trivial⟩⟩ rfl rfl (n' (s' rfl rfl (q' rfl (q' rfl (q' rfl (AOps.g [0, 1] rfl (X_WriteString_SyntaxPrinter_ok hx17) ⟨.rfl, ⟨.rfl, trivial⟩⟩ rfl ⟨rfl, ⟨rfl, trivial⟩⟩ rfl rfl (n' ?_)))))))))))))
      refine s' rfl rfl (q' rfl (q' rfl (q' rfl (i' rfl (idx_nat hx18) (ApiExpr.idx hx18) rfl (q' rfl (AOps.g [0, 1] rfl (ih0 _ _ _ hx19) ⟨.rfl, ⟨.rfl, trivial⟩⟩ rfl ⟨rfl, ⟨rfl, trivial⟩⟩ rfl rfl (n' (R' rfl rfl (q' rfl (q' rfl (q' rfl (AOps.g [0, 1] rfl (X_WriteString_SyntaxPrinter_ok hx20) ⟨.rfl, ⟨.rfl, trivial⟩⟩ rfl ⟨rfl, ⟨rfl, trivial⟩⟩ rfl rfl (n' ?_)))))))))))))
      obtain rfl := oi' hh
      exact ⟨_, _, [.bld 1 86, .buf 5 x20.2], rfl, .rfl, ⟨⟨rfl, Nat.le_of_ble_eq_true rfl⟩, ⟨rfl, trivial⟩⟩, rfl, rfl, rfl, rfl⟩
    refine S' (s' rfl rfl (q' rfl (q' rfl (n' ?_))))
    refine ci' rfl hh (fun hh => ?_) (fun hh => ?_)
    · refine sk' ?_
      refine AEx.wk ?_ (ih1 _ _ _ _ hh)
      exact ⟨⟨⟨.rfl, rfl⟩, ⟨⟨.rfl, rfl⟩, ⟨⟨.rfl, rfl⟩, ⟨⟨.rfl, rfl⟩, trivial⟩⟩⟩⟩, ⟨⟨rfl, Nat.le_of_ble_eq_true rfl⟩, ⟨rfl, ⟨⟨rfl, .refl _, rfl⟩, trivial⟩⟩⟩, rfl⟩
    refine R' rfl rfl (q' rfl (q' rfl (n' ?_)))
    refine AEx.wk ?_ (ih1 _ _ _ _ hh)
    exact ⟨⟨⟨.rfl, rfl⟩, ⟨⟨.rfl, rfl⟩, ⟨⟨.rfl, rfl⟩, ⟨⟨.rfl, rfl⟩, trivial⟩⟩⟩⟩, ⟨⟨rfl, Nat.le_of_ble_eq_true rfl⟩, ⟨rfl, ⟨⟨rfl, .refl _, rfl⟩, trivial⟩⟩⟩, rfl⟩
  · intro g2 g9 ih2 ih9 e b v77 res hh
    refine ci' rfl hh (fun hh => ?_) (fun hh => ?_)
    · refine s' rfl rfl (q' rfl (n' (S' (s' rfl rfl (q' rfl (q' rfl (q' rfl (n' ?_))))))))
      refine ci' rfl hh (fun hh => ?_) (fun hh => ?_)
      · refine R' rfl rfl (q' rfl (n' ?_))
        refine AEx.wk ?_ (ih9 _ _ _ _ hh)
        exact ⟨⟨⟨.rfl, rfl⟩, ⟨⟨.rfl, rfl⟩, ⟨⟨.rfl, rfl⟩, trivial⟩⟩⟩, ⟨⟨rfl, Nat.le_of_ble_eq_true rfl⟩, ⟨rfl, ⟨⟨rfl, .refl _, rfl⟩, trivial⟩⟩⟩, rfl⟩
      refine sk' ?_
      refine AEx.wk ?_ (ih9 _ _ _ _ hh)
      exact ⟨⟨⟨.rfl, rfl⟩, ⟨⟨.rfl, rfl⟩, ⟨⟨.rfl, rfl⟩, trivial⟩⟩⟩, ⟨⟨rfl, Nat.le_of_ble_eq_true rfl⟩, ⟨rfl, ⟨⟨rfl, .refl _, rfl⟩, trivial⟩⟩⟩, rfl⟩
    refine S' (s' rfl rfl (q' rfl (q' rfl (n' ?_))))
    refine ci' rfl hh (fun hh => ?_) (fun hh => ?_)
    · refine sk' ?_
      refine AEx.wk ?_ (ih2 _ _ _ _ hh)
      exact ⟨⟨⟨.rfl, rfl⟩, ⟨⟨.rfl, rfl⟩, ⟨⟨.rfl, rfl⟩, ⟨⟨.rfl, rfl⟩, trivial⟩⟩⟩⟩, ⟨⟨rfl, Nat.le_of_ble_eq_true rfl⟩, ⟨rfl, ⟨⟨rfl, .refl _, rfl⟩, trivial⟩⟩⟩, rfl⟩
    refine R' rfl rfl (q' rfl (q' rfl (n' ?_)))
    refine AEx.wk ?_ (ih2 _ _ _ _ hh)
    exact ⟨⟨⟨.rfl, rfl⟩, ⟨⟨.rfl, rfl⟩, ⟨⟨.rfl, rfl⟩, ⟨⟨.rfl, rfl⟩, trivial⟩⟩⟩⟩, ⟨⟨rfl, Nat.le_of_ble_eq_true rfl⟩, ⟨rfl, ⟨⟨rfl, .refl _, rfl⟩, trivial⟩⟩⟩, rfl⟩
  · intro g0 g3 g5 g6 ih0 ih3 ih5 ih6 e b v94 res hh
    refine ci' rfl hh (fun hh => ?_) (fun hh => ?_)
    · refine s' rfl rfl (q' rfl (n' (S' (s' rfl rfl (q' rfl (q' rfl (q' rfl (n' ?_))))))))
      refine ci' rfl hh (fun hh => ?_) (fun hh => ?_)
      · refine R' rfl rfl (q' rfl (n' ?_))
        refine AEx.wk ?_ (ih6 _ _ _ _ hh)
        exact ⟨⟨⟨.rfl, rfl⟩, ⟨⟨.rfl, rfl⟩, ⟨⟨.rfl, rfl⟩, trivial⟩⟩⟩, ⟨⟨rfl, Nat.le_of_ble_eq_true rfl⟩, ⟨rfl, ⟨⟨rfl, .refl _, rfl⟩, trivial⟩⟩⟩, rfl⟩
      refine sk' ?_
      refine AEx.wk ?_ (ih6 _ _ _ _ hh)
      exact ⟨⟨⟨.rfl, rfl⟩, ⟨⟨.rfl, rfl⟩, ⟨⟨.rfl, rfl⟩, trivial⟩⟩⟩, ⟨⟨rfl, Nat.le_of_ble_eq_true rfl⟩, ⟨rfl, ⟨⟨rfl, .refl _, rfl⟩, trivial⟩⟩⟩, rfl⟩
    refine s' rfl rfl (q' rfl (q' rfl (n' ?_)))
    refine ci' rfl hh (fun hh => ?_) (fun hh => ?_)
    · obtain ⟨x13, hx13, hh⟩ := bs' hh
      obtain ⟨x22, hx22, hh⟩ := bs' hh
      obtain ⟨x23, hx23, hh⟩ := bs' hh
      obtain ⟨x24, hx24, hh⟩ := bs' hh
      obtain ⟨x25, hx25, hh⟩ := bs' hh
      obtain ⟨x26, hx26, hh⟩ := bs' hh
      obtain ⟨x27, hx27, hh⟩ := bs' hh
      obtain ⟨x28, hx28, hh⟩ := bs' hh
      refine s' rfl rfl (q' rfl (q' rfl (q' rfl (i' rfl (idx_nat hx13) (ApiExpr.idx hx13) rfl (q' rfl (AOps.g [0, 1] rfl (ih5 _ _ _ _ hx22) ⟨.rfl, ⟨.rfl, ⟨.rfl, trivial⟩⟩⟩ rfl ⟨rfl, ⟨rfl, trivial⟩⟩ rfl rfl (n' (s' rfl rfl (q' rfl (q' rfl (q' rfl (AOps.g [0, 1] rfl (X_WriteString_SyntaxPrinter_ok hx23) ⟨.rfl, ⟨.rfl, trivial⟩⟩ rfl ⟨rfl, ⟨rfl, trivial⟩⟩ rfl rfl (n' ?_)))))))))))))
      refine s' rfl rfl (q' rfl (q' rfl (q' rfl (i' rfl (idx_nat hx24) (ApiExpr.idx hx24) rfl (q' rfl (AOps.g [0, 1] rfl (ih0 _ _ _ hx25) ⟨.rfl, ⟨.rfl, trivial⟩⟩ rfl ⟨rfl, ⟨rfl, trivial⟩⟩ rfl rfl (n' (s' rfl rfl (q' rfl (q' rfl (q' rfl (AOps.g [0, 1] rfl (X_WriteString_SyntaxPrinter_ok hx26) ⟨.rfl, ⟨.rfl, trivial⟩⟩ rfl ⟨rfl, ⟨rfl, trivial⟩⟩ rfl rfl (n' ?_)))))))))))))
      refine R' rfl rfl (q' rfl (q' rfl (q' rfl (i' rfl (idx_nat hx27) (ApiExpr.idx hx27) rfl (q' rfl (AOps.g [0, 1] rfl (ih0 _ _ _ hx28) ⟨.rfl, ⟨.rfl, trivial⟩⟩ rfl ⟨rfl, ⟨rfl, trivial⟩⟩ rfl rfl (n' ?_)))))))
      obtain rfl := oi' hh
      exact ⟨_, _, [.bld 1 86, .buf 5 x28], rfl, .rfl, ⟨⟨rfl, Nat.le_of_ble_eq_true rfl⟩, ⟨rfl, trivial⟩⟩, rfl, rfl, rfl, rfl⟩
    obtain ⟨x29, hx29, hh⟩ := bs' hh
    refine R' rfl rfl (q' rfl (q' rfl (AOps.g [0, 1] rfl (ih3 _ _ _ hx29) ⟨.rfl, ⟨.rfl, trivial⟩⟩ rfl ⟨rfl, ⟨rfl, trivial⟩⟩ rfl rfl (n' ?_))))
    obtain rfl := oi' hh
    exact ⟨_, _, [.bld 1 86, .buf 5 x29], rfl, .rfl, ⟨⟨rfl, Nat.le_of_ble_eq_true rfl⟩, ⟨rfl, trivial⟩⟩, rfl, rfl, rfl, rfl⟩
  · intro g4 ih4 e b res hh
    refine ACall.intro hC Tryz.func93 rfl rfl rfl ?_
    obtain ⟨x1, hx1, hh⟩ := bs' hh
    refine s' rfl rfl (AOps.n hC rfl (n' (s' rfl rfl (q' rfl (q' rfl (AOps.c rfl rfl (syntax_level_ok hx1) (q' rfl (n' (s' rfl rfl (q' rfl (q' rfl (n' (S' ?_)))))))))))))
    refine s' rfl rfl (q' rfl (q' rfl (n' ?_)))
    refine ci' rfl hh (fun hh => ?_) (fun hh => ?_)
    · refine R' rfl rfl (q' rfl (n' ?_))
      refine AEx.wk ?_ (ih4 _ _ _ _ _ hh)
      exact ⟨⟨⟨.rfl, rfl⟩, ⟨⟨.rfl, rfl⟩, ⟨⟨.rfl, rfl⟩, ⟨⟨.rfl, rfl⟩, trivial⟩⟩⟩⟩, ⟨⟨rfl, Nat.le_of_ble_eq_true rfl⟩, ⟨rfl, ⟨⟨rfl, .refl _, rfl⟩, trivial⟩⟩⟩, rfl⟩
    refine sk' ?_
    refine AEx.wk ?_ (ih4 _ _ _ _ _ hh)
    exact ⟨⟨⟨.rfl, rfl⟩, ⟨⟨.rfl, rfl⟩, ⟨⟨.rfl, rfl⟩, ⟨⟨.rfl, rfl⟩, trivial⟩⟩⟩⟩, ⟨⟨rfl, Nat.le_of_ble_eq_true rfl⟩, ⟨rfl, ⟨⟨rfl, .refl _, rfl⟩, trivial⟩⟩⟩, rfl⟩
  · intro g5 ih5 e b x1 left res hh
    obtain ⟨x2, hx2, hh⟩ := bs' hh
    obtain ⟨x3, hx3, hh⟩ := bs' hh
    obtain ⟨x4, hx4, hh⟩ := bs' hh
    obtain ⟨c5, hh⟩ := asrt_some hh
    obtain ⟨c6, hh⟩ := asrt_some hh
    obtain ⟨x5, hx5, hh⟩ := bs' hh
    obtain ⟨x6, hx6, hh⟩ := bs' hh
    obtain ⟨x7, hx7, hh⟩ := bs' hh
    refine s' rfl rfl (q' rfl (q' rfl (q' rfl (i' rfl (idx_nat hx2) (ApiExpr.idx hx2) rfl (q' rfl (q' rfl (AOps.g [0, 1] rfl (ih5 _ _ _ _ hx3) ⟨.rfl, ⟨.rfl, ⟨.rfl, trivial⟩⟩⟩ rfl ⟨rfl, ⟨rfl, trivial⟩⟩ rfl rfl (n' (S' (AEx.draw hC 10 rfl rfl rfl (Q' rfl (Q' rfl (Q' rfl ?_)))))))))))))
    refine Q' rfl (Q' rfl (Q' rfl (AQ.ig hC rfl (idx_nat hx4) (tab_get (f := D.str) hx4).1 (tab_get (f := D.str) hx4).2 (Q' rfl (AQ.q hC rfl c5 (AQ.q hC rfl c6 (Qn' (AOps.g [0, 1] rfl (X_WriteString_SyntaxPrinter_ok hx5) ⟨.rfl, ⟨.rfl, trivial⟩⟩ rfl ⟨rfl, ⟨rfl, trivial⟩⟩ rfl rfl (n' (R' rfl rfl (q' rfl (q' rfl (q' rfl ?_)))))))))))))
    refine i' rfl (idx_nat hx6) (ApiExpr.idx hx6) rfl (q' rfl (q' rfl (q' rfl (AOps.g [0, 1] rfl (ih5 _ _ _ _ hx7) ⟨.rfl, ⟨.rfl, ⟨.rfl, trivial⟩⟩⟩ rfl ⟨rfl, ⟨rfl, trivial⟩⟩ rfl rfl (n' ?_)))))
    obtain rfl := oi' hh
    exact ⟨_, _, [.bld 1 86, .buf 5 x7], rfl, .rfl, ⟨⟨rfl, Nat.le_of_ble_eq_true rfl⟩, ⟨rfl, trivial⟩⟩, rfl, rfl, rfl, rfl⟩
  · intro g0 ih0 e required b res hh
    refine ACall.intro hC Tryz.func91 rfl rfl rfl ?_
    obtain ⟨x1, hx1, hh⟩ := bs' hh
    refine s' rfl rfl (AOps.n hC rfl (n' (S' (s' rfl rfl (q' rfl (q' rfl (AOps.c rfl rfl (syntax_level_ok hx1) (q' rfl (q' rfl (n' ?_))))))))))
    refine ci' rfl hh (fun hh => ?_) (fun hh => ?_)
    · obtain ⟨x3, hx3, hh⟩ := bs' hh
      refine s' rfl rfl (q' rfl (q' rfl (AOps.g [0, 1] rfl (ih0 _ _ _ hx3) ⟨.rfl, ⟨.rfl, trivial⟩⟩ rfl ⟨rfl, ⟨rfl, trivial⟩⟩ rfl rfl (n' (re' ?_)))))
      obtain rfl := oi' hh
      exact ⟨_, _, [.bld 1 86, .buf 5 x3], rfl, .rfl, ⟨⟨rfl, Nat.le_of_ble_eq_true rfl⟩, ⟨rfl, trivial⟩⟩, rfl, rfl, rfl, rfl⟩
    obtain ⟨x2, hx2, hh⟩ := bs' hh
    obtain ⟨x4, hx4, hh⟩ := bs' hh
    obtain ⟨x5, hx5, hh⟩ := bs' hh
    refine sk' (s' rfl rfl (q' rfl (q' rfl (q' rfl (AOps.g [0, 1] rfl (X_WriteString_SyntaxPrinter_ok hx2) ⟨.rfl, ⟨.rfl, trivial⟩⟩ rfl ⟨rfl, ⟨rfl, trivial⟩⟩ rfl rfl (n' (s' rfl rfl (q' rfl (q' rfl (AOps.g [0, 1] rfl (ih0 _ _ _ hx4) ⟨.rfl, ⟨.rfl, trivial⟩⟩ rfl ⟨rfl, ⟨rfl, trivial⟩⟩ rfl rfl (n' (R' rfl rfl (q' rfl ?_)))))))))))))
    refine q' rfl (q' rfl (AOps.g [0, 1] rfl (X_WriteString_SyntaxPrinter_ok hx5) ⟨.rfl, ⟨.rfl, trivial⟩⟩ rfl ⟨rfl, ⟨rfl, trivial⟩⟩ rfl rfl (n' ?_)))
    obtain rfl := oi' hh
    exact ⟨_, _, [.bld 1 86, .buf 5 x5.2], rfl, .rfl, ⟨⟨rfl, Nat.le_of_ble_eq_true rfl⟩, ⟨rfl, trivial⟩⟩, rfl, rfl, rfl, rfl⟩
  · intro g7 ih7 e b word res hh
    obtain ⟨x10, hx10, hh⟩ := bs' hh
    obtain ⟨x11, hx11, hh⟩ := bs' hh
    obtain ⟨x12, hx12, hh⟩ := bs' hh
    refine s' rfl rfl (q' rfl (q' rfl (q' rfl (q' rfl (AOps.g [0, 1] rfl (X_WriteString_SyntaxPrinter_ok hx10) ⟨.rfl, ⟨.rfl, trivial⟩⟩ rfl ⟨rfl, ⟨rfl, trivial⟩⟩ rfl rfl (n' (s' rfl rfl (q' rfl (q' rfl (q' rfl (AOps.g [0, 1] rfl (ih7 _ _ _ hx11) ⟨.rfl, ⟨.rfl, trivial⟩⟩ rfl ⟨rfl, ⟨rfl, trivial⟩⟩ rfl rfl (n' (R' rfl rfl ?_)))))))))))))
    refine q' rfl (q' rfl (q' rfl (AOps.g [0, 1] rfl (X_WriteString_SyntaxPrinter_ok hx12) ⟨.rfl, ⟨.rfl, trivial⟩⟩ rfl ⟨rfl, ⟨rfl, trivial⟩⟩ rfl rfl (n' ?_))))
    obtain rfl := oi' hh
    exact ⟨_, _, [.bld 1 86, .buf 5 x12.2], rfl, .rfl, ⟨⟨rfl, Nat.le_of_ble_eq_true rfl⟩, ⟨rfl, trivial⟩⟩, rfl, rfl, rfl, rfl⟩
  · intro g8 ih8 l b res hh
    refine ACall.intro hC Tryz.func92 rfl rfl rfl ?_
    refine s' rfl rfl (q' rfl (qe' rfl trivial (ApiExpr.lenA _) (q' rfl (n' (AEx.block ?_)))))
    refine AEx.ofLoop ?_
    refine ALoop.wk ?_ (ih8 _ _ _ _ hh)
    exact ⟨⟨⟨.rfl, rfl⟩, ⟨⟨.rfl, rfl⟩, ⟨⟨.rfl, rfl⟩, ⟨⟨.rfl, rfl⟩, trivial⟩⟩⟩⟩, ⟨⟨rfl, Nat.le_of_ble_eq_true rfl⟩, ⟨rfl, trivial⟩⟩, rfl⟩
  · intro g0 g8 ih0 ih8 l b1 v8 res hh
    refine ALoop.unroll ?_
    refine s' rfl rfl (q' rfl (n' (S' ?_)))
    refine ci' rfl hh (fun hh => ?_) (fun hh => ?_)
    · obtain ⟨x1, hx1, hh⟩ := bs' hh
      refine sk' (S' (AEx.block (s' rfl rfl (q' rfl (i' rfl (idx_nat hx1) (ApiExpr.idx hx1) rfl (q' rfl (AOps.nf hC rfl (q' rfl (AOps.s hC rfl (n' (S' (s' rfl rfl (q' rfl ?_)))))))))))))
      refine q' rfl (n' ?_)
      refine ci' rfl hh (fun hh => ?_) (fun hh => ?_)
      · obtain ⟨x3, hx3, hh⟩ := bs' hh
        obtain ⟨x2, hx2, hh⟩ := bs' hh
        refine R' rfl rfl (q' rfl (q' rfl (q' rfl (AOps.g [0, 1] rfl (X_WriteString_SyntaxPrinter_ok hx3) ⟨.rfl, ⟨.rfl, trivial⟩⟩ rfl ⟨rfl, ⟨rfl, trivial⟩⟩ rfl rfl (n' (R' rfl rfl (q' rfl (q' rfl (AOps.g [0, 1] rfl (ih0 _ _ _ hx2) ⟨.rfl, ⟨.rfl, trivial⟩⟩ rfl ⟨rfl, ⟨rfl, trivial⟩⟩ rfl rfl (n' (R' rfl rfl (q' rfl (q' rfl ?_)))))))))))))
        refine n' ?_
        refine ALoop.wk ?_ (ih8 _ _ _ _ hh)
        exact ⟨⟨⟨.rfl, rfl⟩, ⟨⟨.rfl, rfl⟩, ⟨⟨.rfl, rfl⟩, ⟨⟨.rfl, rfl⟩, trivial⟩⟩⟩⟩, ⟨⟨rfl, Nat.le_of_ble_eq_true rfl⟩, ⟨rfl, trivial⟩⟩, rfl⟩
      obtain ⟨x2, hx2, hh⟩ := bs' hh
      refine sk' (R' rfl rfl (q' rfl (q' rfl (AOps.g [0, 1] rfl (ih0 _ _ _ hx2) ⟨.rfl, ⟨.rfl, trivial⟩⟩ rfl ⟨rfl, ⟨rfl, trivial⟩⟩ rfl rfl (n' (R' rfl rfl (q' rfl (q' rfl (n' ?_)))))))))
      refine ALoop.wk ?_ (ih8 _ _ _ _ hh)
      exact ⟨⟨⟨.rfl, rfl⟩, ⟨⟨.rfl, rfl⟩, ⟨⟨.rfl, rfl⟩, ⟨⟨.rfl, rfl⟩, trivial⟩⟩⟩⟩, ⟨⟨rfl, Nat.le_of_ble_eq_true rfl⟩, ⟨rfl, trivial⟩⟩, rfl⟩
    refine ex' ?_
    obtain rfl := oi' hh
    exact ⟨_, _, [.bld 1 86, .buf 5 b1], rfl, .rfl, ⟨⟨rfl, Nat.le_of_ble_eq_true rfl⟩, ⟨rfl, trivial⟩⟩, rfl, rfl, rfl, rfl⟩
  · intro g5 ih5 e b sign res hh
    obtain ⟨x8, hx8, hh⟩ := bs' hh
    obtain ⟨x9, hx9, hh⟩ := bs' hh
    obtain ⟨x21, hx21, hh⟩ := bs' hh
    refine s' rfl rfl (q' rfl (q' rfl (q' rfl (q' rfl (AOps.g [0, 1] rfl (X_WriteString_SyntaxPrinter_ok hx8) ⟨.rfl, ⟨.rfl, trivial⟩⟩ rfl ⟨rfl, ⟨rfl, trivial⟩⟩ rfl rfl (n' (R' rfl rfl (q' rfl (q' rfl (q' rfl (i' rfl (idx_nat hx9) (ApiExpr.idx hx9) rfl (q' rfl (AOps.g [0, 1] rfl (ih5 _ _ _ _ hx21) ⟨.rfl, ⟨.rfl, ⟨.rfl, trivial⟩⟩⟩ rfl ⟨rfl, ⟨rfl, trivial⟩⟩ rfl rfl ?_)))))))))))))
    refine n' ?_
    obtain rfl := oi' hh
    exact ⟨_, _, [.bld 1 86, .buf 5 x21], rfl, .rfl, ⟨⟨rfl, Nat.le_of_ble_eq_true rfl⟩, ⟨rfl, trivial⟩⟩, rfl, rfl, rfl, rfl⟩
theorem syntax_printer_expr_ok {e : ApiExpr} {b : Str} {res : Str} (hh : syntax_printer_expr e b = some res) : syntax_printer_expr_m e b res := (syntax_printer_expr_grp).1 _ _ _ hh
theorem syntax_printer_expr_j1_ok {e : ApiExpr} {b : Str} {v77 : Bool} {res : Str} (hh : syntax_printer_expr_j1 e b v77 = some res) : syntax_printer_expr_j1_m e b v77 res := (syntax_printer_expr_grp).2.1 _ _ _ _ hh
theorem syntax_printer_expr_j3_ok {e : ApiExpr} {b : Str} {v94 : Bool} {res : Str} (hh : syntax_printer_expr_j3 e b v94 = some res) : syntax_printer_expr_j3_m e b v94 res := (syntax_printer_expr_grp).2.2.1 _ _ _ _ hh
theorem syntax_printer_binary_ok {e : ApiExpr} {b : Str} {res : Str} (hh : syntax_printer_binary e b = some res) : syntax_printer_binary_m e b res := (syntax_printer_expr_grp).2.2.2.1 _ _ _ hh
theorem syntax_printer_binary_j1_ok {e : ApiExpr} {b : Str} {x1 : Int} {left : Int} {res : Str} (hh : syntax_printer_binary_j1 e b x1 left = some res) : syntax_printer_binary_j1_m e b x1 left res := (syntax_printer_expr_grp).2.2.2.2.1 _ _ _ _ _ hh
theorem syntax_printer_kid_ok {e : ApiExpr} {required : Int} {b : Str} {res : Str} (hh : syntax_printer_kid e required b = some res) : syntax_printer_kid_m e required b res := (syntax_printer_expr_grp).2.2.2.2.2.1 _ _ _ _ hh
theorem syntax_printer_expr_j4_ok {e : ApiExpr} {b : Str} {word : Str} {res : Str} (hh : syntax_printer_expr_j4 e b word = some res) : syntax_printer_expr_j4_m e b word res := (syntax_printer_expr_grp).2.2.2.2.2.2.1 _ _ _ _ hh
theorem syntax_printer_list_ok {l : List ApiExpr} {b : Str} {res : Str} (hh : syntax_printer_list l b = some res) : syntax_printer_list_m l b res := (syntax_printer_expr_grp).2.2.2.2.2.2.2.1 _ _ _ hh
theorem syntax_printer_list_l1_ok {l : List ApiExpr} {b1 : Str} {v8 : Int} {res : Str} (hh : syntax_printer_list_l1 l b1 v8 = some res) : syntax_printer_list_l1_m l b1 v8 res := (syntax_printer_expr_grp).2.2.2.2.2.2.2.2.1 _ _ _ _ hh
theorem syntax_printer_expr_j2_ok {e : ApiExpr} {b : Str} {sign : Str} {res : Str} (hh : syntax_printer_expr_j2 e b sign = some res) : syntax_printer_expr_j2_m e b sign res := (syntax_printer_expr_grp).2.2.2.2.2.2.2.2.2 _ _ _ _ hh
end Go.Proofs.YtmilgoloagbmpaaGreatDoor

set_option maxRecDepth 100000
set_option maxHeartbeats 4000000
set_option linter.unusedVariables false
namespace Go.Proofs.YtmilgoloagbmpaaGreatDoor
open Go.Am
def syntax_printer_text (b : Str) : Option (Str × Int) :=
  X_BLen_SyntaxPrinter b >>= fun x1 =>
  if (decide (x1 > 8192)) = true then
    some ([], 5)
  else
    X_BString_SyntaxPrinter b >>= fun x2 =>
    some (x2, 0)
abbrev syntax_printer_text_m (b : Str) (res : Str × Int) : Prop := ACall C 44 [.ref 0 0] [.bld 1 86, .buf 5 b] (fun x H' => H' = [.dead, .dead] ∧ x = .tup [.d (.str res.1), .d (.int .i64 res.2)])
theorem syntax_printer_text_ok {b : Str} {res : Str × Int} (hh : syntax_printer_text b = some res) : syntax_printer_text_m b res := by
  unfold syntax_printer_text at hh
  refine ACall.intro hC Tryz.func44 rfl rfl rfl ?_
  obtain ⟨x1, hx1, hh⟩ := bs' hh
  refine s' rfl rfl (q' rfl (q' rfl (n' (S' (s' rfl rfl (q' rfl (q' rfl (q' rfl (AOps.g [0, 1] rfl (X_BLen_SyntaxPrinter_ok hx1) ⟨.rfl, trivial⟩ rfl ⟨rfl, ⟨rfl, trivial⟩⟩ rfl rfl (q' rfl (n' ?_)))))))))))
  refine ci' rfl hh (fun hh => ?_) (fun hh => ?_)
  · refine s' rfl rfl (q' rfl (q' rfl (n' (re' ?_))))
    obtain rfl := oi' hh
    exact ⟨_, _, [.dead, .dead], rfl, .rfl, ⟨trivial, ⟨trivial, trivial⟩⟩, rfl, rfl, rfl, rfl⟩
  obtain ⟨x2, hx2, hh⟩ := bs' hh
  refine sk' (s' rfl rfl (q' rfl (q' rfl (q' rfl (AOps.g [0, 1] rfl (X_BString_SyntaxPrinter_ok hx2) ⟨.rfl, trivial⟩ rfl ⟨rfl, ⟨rfl, trivial⟩⟩ rfl rfl (q' rfl (q' rfl (n' (re' ?_)))))))))
  obtain rfl := oi' hh
  exact ⟨_, _, [.dead, .dead], rfl, .rfl, ⟨trivial, ⟨trivial, trivial⟩⟩, rfl, rfl, rfl, rfl⟩
def syntax_PrintExpr (e : ApiExpr) : Option (Str × Int) :=
  syntax_CheckExpr e >>= fun x1 =>
  if (x1 != 0) = true then
    some ([], x1)
  else
    syntax_printer_expr e [] >>= fun x2 =>
    syntax_printer_text x2 >>= fun x3 =>
    some (x3.1, x3.2)
abbrev syntax_PrintExpr_m (e : ApiExpr) (res : Str × Int) : Prop := ACall C 16 [.agg (ApiExpr.cells e)] [] (fun x H' => H' = [] ∧ x = .tup [.d (.str res.1), .d (.int .i64 res.2)])
theorem syntax_PrintExpr_ok {e : ApiExpr} {res : Str × Int} (hh : syntax_PrintExpr e = some res) : syntax_PrintExpr_m e res := by
  unfold syntax_PrintExpr at hh
  refine ACall.intro hC Tryz.func16 rfl rfl rfl ?_
  obtain ⟨x1, hx1, hh⟩ := bs' hh
  refine s' rfl rfl (AOps.n hC rfl (q' rfl (q' rfl (n' (S' (s' rfl rfl (q' rfl (AOps.c rfl rfl (syntax_CheckExpr_ok hx1) (q' rfl (n' (s' rfl rfl (q' rfl (q' rfl ?_)))))))))))))
  refine n' ?_
  refine ci' rfl hh (fun hh => ?_) (fun hh => ?_)
  · refine s' rfl rfl (q' rfl (q' rfl (q' rfl (n' (re' ?_)))))
    obtain rfl := oi' hh
    exact ⟨_, _, [], rfl, .rfl, trivial, rfl, rfl, rfl, rfl⟩
  obtain ⟨x2, hx2, hh⟩ := bs' hh
  obtain ⟨x3, hx3, hh⟩ := bs' hh
  refine sk' (s' rfl rfl (AOps.newB 5 rfl rfl rfl zB86 rfl rfl (q' rfl (n' (s' rfl rfl (q' rfl (q' rfl (AOps.g [1, 2] rfl (syntax_printer_expr_ok hx2) ⟨.rfl, ⟨.rfl, trivial⟩⟩ rfl ⟨rfl, ⟨rfl, trivial⟩⟩ rfl rfl (n' (s' rfl rfl (q' rfl (AOps.g [1, 2] rfl (syntax_printer_text_ok hx3) ⟨.rfl, trivial⟩ rfl ⟨rfl, ⟨rfl, trivial⟩⟩ rfl rfl (q' rfl ?_)))))))))))))
  refine q' rfl (q' rfl (q' rfl (n' (re' ?_))))
  obtain rfl := oi' hh
  exact ⟨_, _, [], rfl, .rfl, trivial, rfl, rfl, rfl, rfl⟩
def syntax_declared (k : Int) : Option (Bool × Bool) :=
  some ((bif (decide (k ≥ 0)) then (decide (k ≤ 6)) else false), (bif (k == 5) then true else (k == 6)))
abbrev syntax_declared_m (k : Int) (res : Bool × Bool) : Prop := ACall C 142 [.d (.int .i64 k)] [] (fun x H' => H' = [] ∧ x = .tup [.d (.bool res.1), .d (.bool res.2)])
theorem syntax_declared_ok {k : Int} {res : Bool × Bool} (hh : syntax_declared k = some res) : syntax_declared_m k res := by
  unfold syntax_declared at hh
  refine ACall.intro hC Tryz.func142 rfl rfl rfl ?_
  refine s' rfl rfl (q' rfl (q' rfl (n' (sg' 14 rfl (a0' rfl (a0' rfl (a0' rfl (a0' rfl (a1' rfl (pa' rfl (a0' rfl (a0' rfl (a0' rfl ?_)))))))))))))
  refine a0' rfl (a1' rfl (po' rfl (a0' rfl (a0' rfl (an' (n' (re' ?_)))))))
  obtain rfl := oi' hh
  exact ⟨_, _, [], rfl, .rfl, trivial, rfl, rfl, rfl, rfl⟩
def slices_Equal_string_string_l1 (s1 : List Str) (s2 : List Str) (v13 : Int) : Option Bool :=
  if (decide (v13 < ((s1).length : Int))) = true then
    idx s1 v13 >>= fun x1 =>
    idx s2 v13 >>= fun x2 =>
    if (!(x1 == x2)) = true then
      some false
    else
      slices_Equal_string_string_l1 s1 s2 (IntKind.i64.wrap (v13 + 1))
  else
    some true
  partial_fixpoint
abbrev slices_Equal_string_string_l1_m (s1 : List Str) (s2 : List Str) (v13 : Int) (res : Bool) : Prop := ALoop (Fx.mk C 26 0) (lo (bk (sr (sl (sr (sr (bodyOf Tryz.f167))))))) (mkEnv [(0, .d (.sl (estr.rows s1))), (1, .d (.sl (estr.rows s2))), (12, .d (.int .i64 ((s1).length : Int))), (13, .d (.int .i64 v13))]) [] (Am.InBlock 0 (Am.Then (Fx.mk C 26 0) (sr (sr (sr (bodyOf Tryz.f167)))) (Am.Ends (Fx.mk C 26 0) Tryz.f167.results.toList (fun x H' => H' = [] ∧ x = .d (.bool res)))))
theorem slices_Equal_string_string_l1_grp (s1 : List Str) (s2 : List Str) : (∀ (v13 : Int) (res : Bool), slices_Equal_string_string_l1 s1 s2 v13 = some res → slices_Equal_string_string_l1_m s1 s2 v13 res) := by
  refine slices_Equal_string_string_l1.partial_correctness s1
    s2
    (fun v13 res => slices_Equal_string_string_l1_m s1 s2 v13 res) ?_
  · intro g0 ih0 v13 res hh
    refine ALoop.unroll ?_
    refine s' rfl rfl (q' rfl (n' (S' ?_)))
    refine ci' rfl hh (fun hh => ?_) (fun hh => ?_)
    · obtain ⟨x1, hx1, hh⟩ := bs' hh
      obtain ⟨x2, hx2, hh⟩ := bs' hh
      refine sk' (S' (AEx.block (s' rfl rfl (q' rfl (q' rfl (n' (S' (AEx.draw hC 9 rfl rfl rfl (Q' rfl (Q' rfl (AQ.i hC rfl (idx_nat hx1) (estr.idx hx1) rfl (Q' rfl (Q' rfl ?_)))))))))))))
      refine Q' rfl (AQ.i hC rfl (idx_nat hx2) (estr.idx hx2) rfl (Q' rfl (Q' rfl (Qn' (n' ?_)))))
      refine ci' rfl hh (fun hh => ?_) (fun hh => ?_)
      · refine s' rfl rfl (q' rfl (n' (re' ?_)))
        obtain rfl := oi' hh
        exact ⟨_, _, [], rfl, .rfl, trivial, rfl, rfl, rfl, rfl⟩
      refine sk' (R' rfl rfl (q' rfl (q' rfl (n' ?_))))
      refine ALoop.wk ?_ (ih0 _ _ hh)
      exact ⟨⟨⟨.rfl, rfl⟩, ⟨⟨.rfl, rfl⟩, ⟨⟨.rfl, rfl⟩, ⟨⟨.rfl, rfl⟩, trivial⟩⟩⟩⟩, trivial, rfl⟩
    refine ex' (s' rfl rfl (q' rfl (n' (re' ?_))))
    obtain rfl := oi' hh
    exact ⟨_, _, [], rfl, .rfl, trivial, rfl, rfl, rfl, rfl⟩
theorem slices_Equal_string_string_l1_ok {s1 : List Str} {s2 : List Str} {v13 : Int} {res : Bool} (hh : slices_Equal_string_string_l1 s1 s2 v13 = some res) : slices_Equal_string_string_l1_m s1 s2 v13 res := (slices_Equal_string_string_l1_grp s1 s2) _ _ hh
def slices_Equal_string_string (s1 : List Str) (s2 : List Str) : Option Bool :=
  if (((s1).length : Int) != ((s2).length : Int)) = true then
    some false
  else
    slices_Equal_string_string_l1 s1 s2 0
abbrev slices_Equal_string_string_m (s1 : List Str) (s2 : List Str) (res : Bool) : Prop := ACall C 167 [.d (.sl (estr.rows s1)), .d (.sl (estr.rows s2))] [] (fun x H' => H' = [] ∧ x = .d (.bool res))
theorem slices_Equal_string_string_ok {s1 : List Str} {s2 : List Str} {res : Bool} (hh : slices_Equal_string_string s1 s2 = some res) : slices_Equal_string_string_m s1 s2 res := by
  unfold slices_Equal_string_string at hh
  refine ACall.intro hC Tryz.func167 rfl rfl rfl ?_
  refine s' rfl rfl (q' rfl (n' (S' (s' rfl rfl (q' rfl (qe' rfl trivial (estr.lenA _) (q' rfl (qe' rfl trivial (estr.lenA _) (q' rfl (n' ?_))))))))))
  refine ci' rfl hh (fun hh => ?_) (fun hh => ?_)
  · refine s' rfl rfl (q' rfl (n' (re' ?_)))
    obtain rfl := oi' hh
    exact ⟨_, _, [], rfl, .rfl, trivial, rfl, rfl, rfl, rfl⟩
  refine sk' (S' (s' rfl rfl (q' rfl (qe' rfl trivial (estr.lenA _) (q' rfl (n' (AEx.block ?_)))))))
  refine AEx.ofLoop ?_
  refine ALoop.wk ?_ (slices_Equal_string_string_l1_ok hh)
  exact ⟨⟨⟨.rfl, rfl⟩, ⟨⟨.rfl, rfl⟩, ⟨⟨.rfl, rfl⟩, ⟨⟨.rfl, rfl⟩, trivial⟩⟩⟩⟩, trivial, rfl⟩
mutual
def syntax_equalType (a : ApiType) (b : ApiType) : Option Bool :=
  (if (bif (bif (bif (bif (a.Kind == b.Kind) then (a.Low == b.Low) else false) then (a.High == b.High) else false) then (a.Size == b.Size) else false) then (a.Name == b.Name) else false) = true then slices_Equal_string_string a.Names b.Names else some default) >>= fun x1 =>
  (if (bif (bif (bif (bif (bif (a.Kind == b.Kind) then (a.Low == b.Low) else false) then (a.High == b.High) else false) then (a.Size == b.Size) else false) then (a.Name == b.Name) else false) then x1 else false) = true then slices_EqualFunc_api_Type_api_Type_api_Type_api_Type a.Of b.Of else some default) >>= fun x2 =>
  some (bif (bif (bif (bif (bif (bif (a.Kind == b.Kind) then (a.Low == b.Low) else false) then (a.High == b.High) else false) then (a.Size == b.Size) else false) then (a.Name == b.Name) else false) then x1 else false) then x2 else false)
  partial_fixpoint
def slices_EqualFunc_api_Type_api_Type_api_Type_api_Type (s1 : List ApiType) (s2 : List ApiType) : Option Bool :=
  if (((s1).length : Int) != ((s2).length : Int)) = true then
    some false
  else
    slices_EqualFunc_api_Type_api_Type_api_Type_api_Type_l1 s1 s2 0
  partial_fixpoint
def slices_EqualFunc_api_Type_api_Type_api_Type_api_Type_l1 (s1 : List ApiType) (s2 : List ApiType) (v17 : Int) : Option Bool :=
  if (decide (v17 < ((s1).length : Int))) = true then
    idx s1 v17 >>= fun x1 =>
    idx s2 v17 >>= fun x2 =>
    syntax_equalType x1 x2 >>= fun x3 =>
    if (!x3) = true then
      some false
    else
      slices_EqualFunc_api_Type_api_Type_api_Type_api_Type_l1 s1 s2 (IntKind.i64.wrap (v17 + 1))
  else
    some true
  partial_fixpoint
end
abbrev syntax_equalType_m (a : ApiType) (b : ApiType) (res : Bool) : Prop := ACall C 143 [.agg (ApiType.cells a), .agg (ApiType.cells b)] [] (fun x H' => H' = [] ∧ x = .d (.bool res))
abbrev slices_EqualFunc_api_Type_api_Type_api_Type_api_Type_m (s1 : List ApiType) (s2 : List ApiType) (res : Bool) : Prop := ACall C 168 [.d (.sl (ApiType.rows s1)), .d (.sl (ApiType.rows s2)), .clo 143 []] [] (fun x H' => H' = [] ∧ x = .d (.bool res))
abbrev slices_EqualFunc_api_Type_api_Type_api_Type_api_Type_l1_m (s1 : List ApiType) (s2 : List ApiType) (v17 : Int) (res : Bool) : Prop := ALoop (Fx.mk C 32 0) (lo (bk (sr (sl (sr (sr (bodyOf Tryz.f168))))))) (mkEnv [(1, .d (.sl (ApiType.rows s2))), (2, .clo 143 []), (15, .d (.sl (ApiType.rows s1))), (16, .d (.int .i64 ((s1).length : Int))), (17, .d (.int .i64 v17))]) [] (Am.InBlock 0 (Am.Then (Fx.mk C 32 0) (sr (sr (sr (bodyOf Tryz.f168)))) (Am.Ends (Fx.mk C 32 0) Tryz.f168.results.toList (fun x H' => H' = [] ∧ x = .d (.bool res)))))
theorem syntax_equalType_grp : (∀ (a : ApiType) (b : ApiType) (res : Bool), syntax_equalType a b = some res → syntax_equalType_m a b res) ∧
    (∀ (s1 : List ApiType) (s2 : List ApiType) (res : Bool), slices_EqualFunc_api_Type_api_Type_api_Type_api_Type s1 s2 = some res → slices_EqualFunc_api_Type_api_Type_api_Type_api_Type_m s1 s2 res) ∧
    (∀ (s1 : List ApiType) (s2 : List ApiType) (v17 : Int) (res : Bool), slices_EqualFunc_api_Type_api_Type_api_Type_api_Type_l1 s1 s2 v17 = some res → slices_EqualFunc_api_Type_api_Type_api_Type_api_Type_l1_m s1 s2 v17 res) := by
  refine syntax_equalType.mutual_partial_correctness (fun a b res => syntax_equalType_m a b res)
    (fun s1 s2 res => slices_EqualFunc_api_Type_api_Type_api_Type_api_Type_m s1 s2 res)
    (fun s1 s2 v17 res => slices_EqualFunc_api_Type_api_Type_api_Type_api_Type_l1_m s1 s2 v17 res) ?_ ?_ ?_
  · intro g1 ih1 a b res hh
    refine ACall.intro hC Tryz.func143 rfl rfl rfl ?_
    obtain ⟨x1, hx1, hh⟩ := bs' hh
    obtain ⟨x2, hx2, hh⟩ := bs' hh
    refine s' rfl rfl (AOps.n hC rfl (AOps.n hC rfl (q' rfl (n' (sg' 48 rfl (a0' rfl (a0' rfl (a0' rfl (a0' rfl (a0' rfl (a0' rfl (a0' rfl (a1' rfl ?_)))))))))))))
    refine a0' rfl (a1' rfl (a2' rfl (pa' rfl (a0' rfl (a0' rfl (a1' rfl (a0' rfl (a1' rfl (a2' rfl (pa' rfl (a0' rfl (a0' rfl (a1' rfl ?_)))))))))))))
    refine a0' rfl (a1' rfl (a2' rfl (pa' rfl (a0' rfl (a0' rfl (a1' rfl (a0' rfl (a1' rfl (a2' rfl (pa' rfl (a0' rfl (a0' rfl (a1' rfl ?_)))))))))))))
    refine a0' rfl (a1' rfl (AG.c rfl rfl (fun hg => ⟨hg, hg, trivial⟩) (fun hw => slices_Equal_string_string_ok (if_t hw hx1)) (pa' rfl (a0' rfl (a0' rfl (a1' rfl (a0' rfl (a1' rfl (AG.c rfl rfl (fun hg => ⟨hg, hg, trivial⟩) (fun hw => ih1 _ _ _ (if_t hw hx2)) (pa' rfl (a0' rfl (an' (n' ?_)))))))))))))
    refine re' ?_
    obtain rfl := oi' hh
    exact ⟨_, _, [], rfl, .rfl, trivial, rfl, rfl, rfl, rfl⟩
  · intro g2 ih2 s1 s2 res hh
    refine ACall.intro hC Tryz.func168 rfl rfl rfl ?_
    refine s' rfl rfl (q' rfl (n' (S' (s' rfl rfl (q' rfl (qe' rfl trivial (ApiType.lenA _) (q' rfl (qe' rfl trivial (ApiType.lenA _) (q' rfl (n' ?_))))))))))
    refine ci' rfl hh (fun hh => ?_) (fun hh => ?_)
    · refine s' rfl rfl (q' rfl (n' (re' ?_)))
      obtain rfl := oi' hh
      exact ⟨_, _, [], rfl, .rfl, trivial, rfl, rfl, rfl, rfl⟩
    refine sk' (S' (s' rfl rfl (q' rfl (qe' rfl trivial (ApiType.lenA _) (q' rfl (n' (AEx.block ?_)))))))
    refine AEx.ofLoop ?_
    refine ALoop.wk ?_ (ih2 _ _ _ _ hh)
    exact ⟨⟨⟨.rfl, rfl⟩, ⟨⟨.rfl, rfl⟩, ⟨⟨.rfl, rfl⟩, ⟨⟨.rfl, rfl⟩, ⟨⟨.rfl, rfl⟩, trivial⟩⟩⟩⟩⟩, trivial, rfl⟩
  · intro g0 g2 ih0 ih2 s1 s2 v17 res hh
    refine ALoop.unroll ?_
    refine s' rfl rfl (q' rfl (n' (S' ?_)))
    refine ci' rfl hh (fun hh => ?_) (fun hh => ?_)
    · obtain ⟨x1, hx1, hh⟩ := bs' hh
      obtain ⟨x2, hx2, hh⟩ := bs' hh
      obtain ⟨x3, hx3, hh⟩ := bs' hh
      refine sk' (S' (AEx.block (s' rfl rfl (q' rfl (i' rfl (idx_nat hx1) (ApiType.idx hx1) rfl (q' rfl (AOps.nf hC rfl (q' rfl (AOps.s hC rfl (n' (s' rfl rfl (q' rfl (q' rfl ?_)))))))))))))
      refine i' rfl (idx_nat hx2) (ApiType.idx hx2) rfl (q' rfl (AOps.nf hC rfl (AOps.s hC rfl (n' (s' rfl rfl (q' rfl (q' rfl (q' rfl (AOps.c rfl rfl (ih0 _ _ _ hx3) (q' rfl (n' ?_)))))))))))
      refine ci' rfl hh (fun hh => ?_) (fun hh => ?_)
      · refine s' rfl rfl (q' rfl (n' (re' ?_)))
        obtain rfl := oi' hh
        exact ⟨_, _, [], rfl, .rfl, trivial, rfl, rfl, rfl, rfl⟩
      refine sk' (R' rfl rfl (q' rfl (q' rfl (n' ?_))))
      refine ALoop.wk ?_ (ih2 _ _ _ _ hh)
      exact ⟨⟨⟨.rfl, rfl⟩, ⟨⟨.rfl, rfl⟩, ⟨⟨.rfl, rfl⟩, ⟨⟨.rfl, rfl⟩, ⟨⟨.rfl, rfl⟩, trivial⟩⟩⟩⟩⟩, trivial, rfl⟩
    refine ex' (s' rfl rfl (q' rfl (n' (re' ?_))))
    obtain rfl := oi' hh
    exact ⟨_, _, [], rfl, .rfl, trivial, rfl, rfl, rfl, rfl⟩
theorem syntax_equalType_ok {a : ApiType} {b : ApiType} {res : Bool} (hh : syntax_equalType a b = some res) : syntax_equalType_m a b res := (syntax_equalType_grp).1 _ _ _ hh
theorem slices_EqualFunc_api_Type_api_Type_api_Type_api_Type_ok {s1 : List ApiType} {s2 : List ApiType} {res : Bool} (hh : slices_EqualFunc_api_Type_api_Type_api_Type_api_Type s1 s2 = some res) : slices_EqualFunc_api_Type_api_Type_api_Type_api_Type_m s1 s2 res := (syntax_equalType_grp).2.1 _ _ _ hh
theorem slices_EqualFunc_api_Type_api_Type_api_Type_api_Type_l1_ok {s1 : List ApiType} {s2 : List ApiType} {v17 : Int} {res : Bool} (hh : slices_EqualFunc_api_Type_api_Type_api_Type_api_Type_l1 s1 s2 v17 = some res) : slices_EqualFunc_api_Type_api_Type_api_Type_api_Type_l1_m s1 s2 v17 res := (syntax_equalType_grp).2.2 _ _ _ _ hh
mutual
def syntax_report_typ (t : ApiType) (depth : Int) (syntaxReport : SyntaxReport) : Option SyntaxReport :=
  syntax_report_deep depth (SyntaxReport.mk (IntKind.i64.wrap (syntaxReport.nodes + 1)) syntaxReport.depth syntaxReport.badForm syntaxReport.badName syntaxReport.badNumber) >>= fun x1 =>
  syntax_report_form (bif (decide (t.Kind ≥ 0)) then (decide (t.Kind ≤ 4)) else false) x1 >>= fun x2 =>
  syntax_report_form (bif (t.Kind == 1) then true else (bif (t.Low == 0) then (t.High == 0) else false)) x2 >>= fun x3 =>
  syntax_report_form (bif (t.Kind == 2) then true else (t.Size == 0)) x3 >>= fun x4 =>
  syntax_report_form (bif (t.Kind == 4) then true else (t.Name == [])) x4 >>= fun x5 =>
  syntax_report_form (bif (t.Kind == 3) then true else (((t.Names).length : Int) == 0)) x5 >>= fun x6 =>
  if (t.Kind == 2) = true then
    syntax_report_form (((t.Of).length : Int) == 1) x6 >>= fun x7 =>
    syntax_inside t.Size 1 32 >>= fun x8 =>
    syntax_report_number x8 x7 >>= fun x9 =>
    syntax_report_typ_j1 t depth x9
  else
    if (t.Kind == 3) = true then
      syntax_report_form (bif (decide (((t.Of).length : Int) ≥ 1)) then (((t.Of).length : Int) == ((t.Names).length : Int)) else false) x6 >>= fun x14 =>
      syntax_report_number (decide (((t.Of).length : Int) ≤ 32)) x14 >>= fun x15 =>
      syntax_report_typ_j1 t depth x15
    else
      syntax_report_form (((t.Of).length : Int) == 0) x6 >>= fun x16 =>
      syntax_report_typ_j1 t depth x16
  partial_fixpoint
def syntax_report_typ_j1 (t : ApiType) (depth : Int) (o0 : SyntaxReport) : Option SyntaxReport :=
  if (t.Kind == 1) = true then
    syntax_inside t.Low (-1048576) 1048576 >>= fun x10 =>
    (if x10 = true then syntax_inside t.High t.Low 1048576 else some default) >>= fun x11 =>
    syntax_report_number (bif x10 then x11 else false) o0 >>= fun x12 =>
    syntax_report_typ_j2 t depth x12
  else
    syntax_report_typ_j2 t depth o0
  partial_fixpoint
def syntax_report_typ_j2 (t : ApiType) (depth : Int) (o01 : SyntaxReport) : Option SyntaxReport :=
  if (t.Kind == 4) = true then
    syntax_report_name t.Name o01 >>= fun x13 =>
    syntax_report_typ_j3 t depth x13
  else
    syntax_report_typ_j3 t depth o01
  partial_fixpoint
def syntax_report_typ_j3 (t : ApiType) (depth : Int) (o02 : SyntaxReport) : Option SyntaxReport :=
  syntax_report_typ_l4 t depth o02 0
  partial_fixpoint
def syntax_report_typ_l4 (t : ApiType) (depth : Int) (o03 : SyntaxReport) (v147 : Int) : Option SyntaxReport :=
  if (decide (v147 < ((t.Names).length : Int))) = true then
    idx t.Names v147 >>= fun x17 =>
    syntax_report_name x17 o03 >>= fun x18 =>
    syntax_report_typ_l4 t depth x18 (IntKind.i64.wrap (v147 + 1))
  else
    syntax_report_typ_l5 t depth o03 0
  partial_fixpoint
def syntax_report_typ_l5 (t : ApiType) (depth : Int) (o04 : SyntaxReport) (v158 : Int) : Option SyntaxReport :=
  if (decide (v158 < ((t.Of).length : Int))) = true then
    idx t.Of v158 >>= fun x19 =>
    syntax_report_typ x19 (IntKind.i64.wrap (depth + 1)) o04 >>= fun x20 =>
    syntax_report_typ_l5 t depth x20 (IntKind.i64.wrap (v158 + 1))
  else
    some o04
  partial_fixpoint
end
abbrev syntax_report_typ_m (t : ApiType) (depth : Int) (syntaxReport : SyntaxReport) (res : SyntaxReport) : Prop := ACall C 60 [.ref 0 0, .agg (ApiType.cells t), .d (.int .i64 depth)] [.row (SyntaxReport.cells syntaxReport) 75] (fun x H' => H' = [.row (SyntaxReport.cells res) 75] ∧ x = .tup [])
abbrev syntax_report_typ_j1_m (t : ApiType) (depth : Int) (o0 : SyntaxReport) (res : SyntaxReport) : Prop := AEx (Fx.mk C 168 1) (sr (sr (sr (sr (sr (sr (sr (sr (sr (sr (bodyOf Tryz.f60))))))))))) (mkEnv [(0, .ref 0 0), (2, .d (.int .i64 depth)), (4, .ref 1 0), (6, .d (.bool (t.Kind == 1))), (9, .d (.bool (t.Kind == 4)))]) [.row (SyntaxReport.cells o0) 75, .row (ApiType.cells t) 48] (Am.Ends (Fx.mk C 168 1) Tryz.f60.results.toList (fun x H' => H' = [.row (SyntaxReport.cells res) 75] ∧ x = .tup []))
abbrev syntax_report_typ_j2_m (t : ApiType) (depth : Int) (o01 : SyntaxReport) (res : SyntaxReport) : Prop := AEx (Fx.mk C 168 1) (sr (sr (sr (sr (sr (sr (sr (sr (sr (sr (sr (bodyOf Tryz.f60)))))))))))) (mkEnv [(0, .ref 0 0), (2, .d (.int .i64 depth)), (4, .ref 1 0), (9, .d (.bool (t.Kind == 4)))]) [.row (SyntaxReport.cells o01) 75, .row (ApiType.cells t) 48] (Am.Ends (Fx.mk C 168 1) Tryz.f60.results.toList (fun x H' => H' = [.row (SyntaxReport.cells res) 75] ∧ x = .tup []))
abbrev syntax_report_typ_j3_m (t : ApiType) (depth : Int) (o02 : SyntaxReport) (res : SyntaxReport) : Prop := AEx (Fx.mk C 168 1) (sr (sr (sr (sr (sr (sr (sr (sr (sr (sr (sr (sr (bodyOf Tryz.f60))))))))))))) (mkEnv [(0, .ref 0 0), (2, .d (.int .i64 depth)), (4, .ref 1 0)]) [.row (SyntaxReport.cells o02) 75, .row (ApiType.cells t) 48] (Am.Ends (Fx.mk C 168 1) Tryz.f60.results.toList (fun x H' => H' = [.row (SyntaxReport.cells res) 75] ∧ x = .tup []))
abbrev syntax_report_typ_l4_m (t : ApiType) (depth : Int) (o03 : SyntaxReport) (v147 : Int) (res : SyntaxReport) : Prop := ALoop (Fx.mk C 168 1) (lo (bk (sr (sl (sr (sr (sr (sr (sr (sr (sr (sr (sr (sr (sr (sr (bodyOf Tryz.f60))))))))))))))))) (mkEnv [(0, .ref 0 0), (2, .d (.int .i64 depth)), (4, .ref 1 0), (145, .d (.sl (estr.rows t.Names))), (146, .d (.int .i64 ((t.Names).length : Int))), (147, .d (.int .i64 v147))]) [.row (SyntaxReport.cells o03) 75, .row (ApiType.cells t) 48] (Am.InBlock 1 (Am.Then (Fx.mk C 168 1) (sr (sr (sr (sr (sr (sr (sr (sr (sr (sr (sr (sr (sr (bodyOf Tryz.f60)))))))))))))) (Am.Ends (Fx.mk C 168 1) Tryz.f60.results.toList (fun x H' => H' = [.row (SyntaxReport.cells res) 75] ∧ x = .tup []))))
abbrev syntax_report_typ_l5_m (t : ApiType) (depth : Int) (o04 : SyntaxReport) (v158 : Int) (res : SyntaxReport) : Prop := ALoop (Fx.mk C 168 1) (lo (bk (sr (sr (sr (sr (sr (sr (sr (sr (sr (sr (sr (sr (sr (sr (bodyOf Tryz.f60))))))))))))))))) (mkEnv [(0, .ref 0 0), (2, .d (.int .i64 depth)), (156, .d (.sl (ApiType.rows t.Of))), (157, .d (.int .i64 ((t.Of).length : Int))), (158, .d (.int .i64 v158))]) [.row (SyntaxReport.cells o04) 75] (Am.InBlock 3 (Am.Ends (Fx.mk C 168 1) Tryz.f60.results.toList (fun x H' => H' = [.row (SyntaxReport.cells res) 75] ∧ x = .tup [])))
theorem syntax_report_typ_grp : (∀ (t : ApiType) (depth : Int) (syntaxReport : SyntaxReport) (res : SyntaxReport), syntax_report_typ t depth syntaxReport = some res → syntax_report_typ_m t depth syntaxReport res) ∧
    (∀ (t : ApiType) (depth : Int) (o0 : SyntaxReport) (res : SyntaxReport), syntax_report_typ_j1 t depth o0 = some res → syntax_report_typ_j1_m t depth o0 res) ∧
    (∀ (t : ApiType) (depth : Int) (o01 : SyntaxReport) (res : SyntaxReport), syntax_report_typ_j2 t depth o01 = some res → syntax_report_typ_j2_m t depth o01 res) ∧
    (∀ (t : ApiType) (depth : Int) (o02 : SyntaxReport) (res : SyntaxReport), syntax_report_typ_j3 t depth o02 = some res → syntax_report_typ_j3_m t depth o02 res) ∧
    (∀ (t : ApiType) (depth : Int) (o03 : SyntaxReport) (v147 : Int) (res : SyntaxReport), syntax_report_typ_l4 t depth o03 v147 = some res → syntax_report_typ_l4_m t depth o03 v147 res) ∧
    (∀ (t : ApiType) (depth : Int) (o04 : SyntaxReport) (v158 : Int) (res : SyntaxReport), syntax_report_typ_l5 t depth o04 v158 = some res → syntax_report_typ_l5_m t depth o04 v158 res) := by
  refine syntax_report_typ.mutual_partial_correctness (fun t depth syntaxReport res => syntax_report_typ_m t depth syntaxReport res)
    (fun t depth o0 res => syntax_report_typ_j1_m t depth o0 res)
    (fun t depth o01 res => syntax_report_typ_j2_m t depth o01 res)
    (fun t depth o02 res => syntax_report_typ_j3_m t depth o02 res)
    (fun t depth o03 v147 res => syntax_report_typ_l4_m t depth o03 v147 res)
    (fun t depth o04 v158 res => syntax_report_typ_l5_m t depth o04 v158 res) ?_ ?_ ?_ ?_ ?_ ?_
  · intro g1 ih1 t depth syntaxReport res hh
    refine ACall.intro hC Tryz.func60 rfl rfl rfl ?_
    obtain ⟨x1, hx1, hh⟩ := bs' hh
    obtain ⟨x2, hx2, hh⟩ := bs' hh
    obtain ⟨x3, hx3, hh⟩ := bs' hh
    obtain ⟨x4, hx4, hh⟩ := bs' hh
    obtain ⟨x5, hx5, hh⟩ := bs' hh
    obtain ⟨x6, hx6, hh⟩ := bs' hh
    refine s' rfl rfl (AOps.n hC rfl (n' (s' rfl rfl (q' rfl (q' rfl (q' rfl (q' rfl (q' rfl (q' rfl (q' rfl (AOps.s hC rfl (n' (s' rfl rfl ?_)))))))))))))
    refine q' rfl (q' rfl (AOps.g [0] rfl (syntax_report_deep_ok hx1) ⟨.rfl, ⟨.rfl, trivial⟩⟩ rfl ⟨rfl, trivial⟩ rfl rfl (n' (sg' 9 rfl (a0' rfl (a0' rfl (a0' rfl (a0' rfl (a0' rfl (a0' rfl (a1' rfl (a1' rfl (pa' rfl ?_)))))))))))))
    refine an' (AOps.g [0] rfl (syntax_report_form_ok hx2) ⟨.rfl, ⟨.rfl, trivial⟩⟩ rfl ⟨rfl, trivial⟩ rfl rfl (n' (S' (AEx.draw hC 16 rfl rfl rfl (Q' rfl (Q' rfl (Q' rfl (Q' rfl (Q' rfl (Q' rfl (Q' rfl (Q' rfl (Q' rfl ?_)))))))))))))
    iterate 7 refine Q' rfl ?_
    refine Qn' (n' (sg' 12 rfl (a0' rfl (a0' rfl (a0' rfl (a0' rfl (a1' rfl (a1' rfl (a1' rfl (a0' rfl (a1' rfl (a1' rfl (pA' rfl ?_)))))))))))))
    refine po' rfl (an' (AOps.g [0] rfl (syntax_report_form_ok hx3) ⟨.rfl, ⟨.rfl, trivial⟩⟩ rfl ⟨rfl, trivial⟩ rfl rfl (n' (sg' 7 rfl (a0' rfl (a0' rfl (a0' rfl (a0' rfl (a1' rfl (a1' rfl (po' rfl (an' (AOps.g [0] rfl (syntax_report_form_ok hx4) ⟨.rfl, ⟨.rfl, trivial⟩⟩ rfl ⟨rfl, trivial⟩ rfl rfl ?_)))))))))))))
    refine n' (sg' 7 rfl (a0' rfl (a0' rfl (a0' rfl (a0' rfl (a1' rfl (a1' rfl (po' rfl (an' (AOps.g [0] rfl (syntax_report_form_ok hx5) ⟨.rfl, ⟨.rfl, trivial⟩⟩ rfl ⟨rfl, trivial⟩ rfl rfl (n' (sg' 8 rfl (a0' rfl ?_)))))))))))))
    refine a0' rfl (a0' rfl (a0' rfl (a1' rfl (AG.qe hC rfl (fun hg => ⟨⟨hg, trivial⟩, trivial⟩) (estr.lenA _) (a1' rfl (po' rfl (an' (AOps.g [0] rfl (syntax_report_form_ok hx6) ⟨.rfl, ⟨.rfl, trivial⟩⟩ rfl ⟨rfl, trivial⟩ rfl rfl (n' (S' (AEx.block (s' rfl rfl (q' rfl ?_)))))))))))))
    refine q' rfl (n' ?_)
    refine ci' rfl hh (fun hh => ?_) (fun hh => ?_)
    · obtain ⟨x7, hx7, hh⟩ := bs' hh
      obtain ⟨x8, hx8, hh⟩ := bs' hh
      obtain ⟨x9, hx9, hh⟩ := bs' hh
      refine s' rfl rfl (q' rfl (q' rfl (q' rfl (qe' rfl trivial (ApiType.lenA _) (q' rfl (AOps.g [0] rfl (syntax_report_form_ok hx7) ⟨.rfl, ⟨.rfl, trivial⟩⟩ rfl ⟨rfl, trivial⟩ rfl rfl (n' (R' rfl rfl (q' rfl (q' rfl (q' rfl (AOps.c rfl rfl (syntax_inside_ok hx8) (AOps.g [0] rfl (syntax_report_number_ok hx9) ⟨.rfl, ⟨.rfl, trivial⟩⟩ rfl ⟨rfl, trivial⟩ rfl rfl ?_)))))))))))))
      refine n' ?_
      refine AEx.wk ?_ (ih1 _ _ _ _ hh)
      exact ⟨⟨⟨.rfl, rfl⟩, ⟨⟨.rfl, rfl⟩, ⟨⟨.rfl, rfl⟩, ⟨⟨.rfl, rfl⟩, ⟨⟨.rfl, rfl⟩, trivial⟩⟩⟩⟩⟩, ⟨⟨rfl, .refl _, rfl⟩, ⟨⟨rfl, .refl _, rfl⟩, trivial⟩⟩, rfl⟩
    refine s' rfl rfl (q' rfl (q' rfl (n' ?_)))
    refine ci' rfl hh (fun hh => ?_) (fun hh => ?_)
    · obtain ⟨x14, hx14, hh⟩ := bs' hh
      obtain ⟨x15, hx15, hh⟩ := bs' hh
      refine sg' 14 rfl (a0' rfl (a0' rfl (a0' rfl (AG.qe hC rfl (fun hg => ⟨trivial, trivial⟩) (ApiType.lenA _) (a0' rfl (a0' rfl (a0' rfl (a1' rfl (AG.qe hC rfl (fun hg => ⟨⟨hg, trivial⟩, trivial⟩) (ApiType.lenA _) (a0' rfl (a1' rfl (AG.qe hC rfl (fun hg => ⟨⟨hg, trivial⟩, trivial⟩) (estr.lenA _) (a2' rfl ?_)))))))))))))
      refine pa' rfl (an' (AOps.g [0] rfl (syntax_report_form_ok hx14) ⟨.rfl, ⟨.rfl, trivial⟩⟩ rfl ⟨rfl, trivial⟩ rfl rfl (n' (R' rfl rfl (q' rfl (q' rfl (q' rfl (qe' rfl trivial (ApiType.lenA _) (q' rfl (AOps.g [0] rfl (syntax_report_number_ok hx15) ⟨.rfl, ⟨.rfl, trivial⟩⟩ rfl ⟨rfl, trivial⟩ rfl rfl (n' ?_)))))))))))
      refine AEx.wk ?_ (ih1 _ _ _ _ hh)
      exact ⟨⟨⟨.rfl, rfl⟩, ⟨⟨.rfl, rfl⟩, ⟨⟨.rfl, rfl⟩, ⟨⟨.rfl, rfl⟩, ⟨⟨.rfl, rfl⟩, trivial⟩⟩⟩⟩⟩, ⟨⟨rfl, .refl _, rfl⟩, ⟨⟨rfl, .refl _, rfl⟩, trivial⟩⟩, rfl⟩
    obtain ⟨x16, hx16, hh⟩ := bs' hh
    refine R' rfl rfl (q' rfl (q' rfl (q' rfl (qe' rfl trivial (ApiType.lenA _) (q' rfl (AOps.g [0] rfl (syntax_report_form_ok hx16) ⟨.rfl, ⟨.rfl, trivial⟩⟩ rfl ⟨rfl, trivial⟩ rfl rfl (n' ?_)))))))
    refine AEx.wk ?_ (ih1 _ _ _ _ hh)
    exact ⟨⟨⟨.rfl, rfl⟩, ⟨⟨.rfl, rfl⟩, ⟨⟨.rfl, rfl⟩, ⟨⟨.rfl, rfl⟩, ⟨⟨.rfl, rfl⟩, trivial⟩⟩⟩⟩⟩, ⟨⟨rfl, .refl _, rfl⟩, ⟨⟨rfl, .refl _, rfl⟩, trivial⟩⟩, rfl⟩
  · intro g2 ih2 t depth o0 res hh
    refine S' (s' rfl rfl (q' rfl (n' ?_)))
    refine ci' rfl hh (fun hh => ?_) (fun hh => ?_)
    · obtain ⟨x10, hx10, hh⟩ := bs' hh
      obtain ⟨x11, hx11, hh⟩ := bs' hh
      obtain ⟨x12, hx12, hh⟩ := bs' hh
      refine AEx.regionG 11 rfl (a0' rfl (a0' rfl (a0' rfl (AG.c rfl rfl (fun _ => trivial) (fun _ => syntax_inside_ok hx10) (a0' rfl (a0' rfl (a1' rfl (a0' rfl (a1' rfl (AG.c rfl rfl (fun hg => ⟨hg, hg, trivial⟩) (fun hw => syntax_inside_ok (if_t hw hx11)) (pa' rfl (an' (AOps.g [0] rfl (syntax_report_number_ok hx12) ⟨.rfl, ⟨.rfl, trivial⟩⟩ rfl ⟨rfl, trivial⟩ rfl rfl ?_)))))))))))))
      refine n' ?_
      refine AEx.wk ?_ (ih2 _ _ _ _ hh)
      exact ⟨⟨⟨.rfl, rfl⟩, ⟨⟨.rfl, rfl⟩, ⟨⟨.rfl, rfl⟩, ⟨⟨.rfl, rfl⟩, trivial⟩⟩⟩⟩, ⟨⟨rfl, .refl _, rfl⟩, ⟨⟨rfl, .refl _, rfl⟩, trivial⟩⟩, rfl⟩
    refine sk' ?_
    refine AEx.wk ?_ (ih2 _ _ _ _ hh)
    exact ⟨⟨⟨.rfl, rfl⟩, ⟨⟨.rfl, rfl⟩, ⟨⟨.rfl, rfl⟩, ⟨⟨.rfl, rfl⟩, trivial⟩⟩⟩⟩, ⟨⟨rfl, .refl _, rfl⟩, ⟨⟨rfl, .refl _, rfl⟩, trivial⟩⟩, rfl⟩
  · intro g3 ih3 t depth o01 res hh
    refine S' (s' rfl rfl (q' rfl (n' ?_)))
    refine ci' rfl hh (fun hh => ?_) (fun hh => ?_)
    · obtain ⟨x13, hx13, hh⟩ := bs' hh
      refine R' rfl rfl (q' rfl (q' rfl (q' rfl (AOps.g [0] rfl (syntax_report_name_ok hx13) ⟨.rfl, ⟨.rfl, trivial⟩⟩ rfl ⟨rfl, trivial⟩ rfl rfl (n' ?_)))))
      refine AEx.wk ?_ (ih3 _ _ _ _ hh)
      exact ⟨⟨⟨.rfl, rfl⟩, ⟨⟨.rfl, rfl⟩, ⟨⟨.rfl, rfl⟩, trivial⟩⟩⟩, ⟨⟨rfl, .refl _, rfl⟩, ⟨⟨rfl, .refl _, rfl⟩, trivial⟩⟩, rfl⟩
    refine sk' ?_
    refine AEx.wk ?_ (ih3 _ _ _ _ hh)
    exact ⟨⟨⟨.rfl, rfl⟩, ⟨⟨.rfl, rfl⟩, ⟨⟨.rfl, rfl⟩, trivial⟩⟩⟩, ⟨⟨rfl, .refl _, rfl⟩, ⟨⟨rfl, .refl _, rfl⟩, trivial⟩⟩, rfl⟩
  · intro g4 ih4 t depth o02 res hh
    refine S' (s' rfl rfl (q' rfl (q' rfl (qe' rfl trivial (estr.lenA _) (q' rfl (n' (AEx.block ?_)))))))
    refine AEx.ofLoop ?_
    refine ALoop.wk ?_ (ih4 _ _ _ _ _ hh)
    exact ⟨⟨⟨.rfl, rfl⟩, ⟨⟨.rfl, rfl⟩, ⟨⟨.rfl, rfl⟩, ⟨⟨.rfl, rfl⟩, ⟨⟨.rfl, rfl⟩, ⟨⟨.rfl, rfl⟩, trivial⟩⟩⟩⟩⟩⟩, ⟨⟨rfl, .refl _, rfl⟩, ⟨⟨rfl, .refl _, rfl⟩, trivial⟩⟩, rfl⟩
  · intro g4 g5 ih4 ih5 t depth o03 v147 res hh
    refine ALoop.unroll ?_
    refine s' rfl rfl (q' rfl (n' (S' ?_)))
    refine ci' rfl hh (fun hh => ?_) (fun hh => ?_)
    · obtain ⟨x17, hx17, hh⟩ := bs' hh
      obtain ⟨x18, hx18, hh⟩ := bs' hh
      refine sk' (S' (AEx.block (s' rfl rfl (i' rfl (idx_nat hx17) (estr.idx hx17) rfl (q' rfl (q' rfl (n' (R' rfl rfl (q' rfl (q' rfl (AOps.g [0] rfl (syntax_report_name_ok hx18) ⟨.rfl, ⟨.rfl, trivial⟩⟩ rfl ⟨rfl, trivial⟩ rfl rfl (n' (R' rfl rfl ?_)))))))))))))
      refine q' rfl (q' rfl (n' ?_))
      refine ALoop.wk ?_ (ih4 _ _ _ _ _ hh)
      exact ⟨⟨⟨.rfl, rfl⟩, ⟨⟨.rfl, rfl⟩, ⟨⟨.rfl, rfl⟩, ⟨⟨.rfl, rfl⟩, ⟨⟨.rfl, rfl⟩, ⟨⟨.rfl, rfl⟩, trivial⟩⟩⟩⟩⟩⟩, ⟨⟨rfl, .refl _, rfl⟩, ⟨⟨rfl, .refl _, rfl⟩, trivial⟩⟩, rfl⟩
    refine ex' (s' rfl rfl (q' rfl (q' rfl (qe' rfl trivial (ApiType.lenA _) (q' rfl (n' (AEx.block ?_)))))))
    refine AEx.ofLoop ?_
    refine ALoop.wk ?_ (ih5 _ _ _ _ _ hh)
    exact ⟨⟨⟨.rfl, rfl⟩, ⟨⟨.rfl, rfl⟩, ⟨⟨.rfl, rfl⟩, ⟨⟨.rfl, rfl⟩, ⟨⟨.rfl, rfl⟩, trivial⟩⟩⟩⟩⟩, ⟨⟨rfl, .refl _, rfl⟩, trivial⟩, rfl⟩
  · intro g0 g5 ih0 ih5 t depth o04 v158 res hh
    refine ALoop.unroll ?_
    refine s' rfl rfl (q' rfl (n' (S' ?_)))
    refine ci' rfl hh (fun hh => ?_) (fun hh => ?_)
    · obtain ⟨x19, hx19, hh⟩ := bs' hh
      obtain ⟨x20, hx20, hh⟩ := bs' hh
      refine sk' (S' (AEx.block (s' rfl rfl (i' rfl (idx_nat hx19) (ApiType.idx hx19) rfl (q' rfl (AOps.nf hC rfl (AOps.s hC rfl (n' (R' rfl rfl (q' rfl (q' rfl (q' rfl (q' rfl ?_)))))))))))))
      refine AOps.g [0] rfl (ih0 _ _ _ _ hx20) ⟨.rfl, ⟨.rfl, ⟨.rfl, trivial⟩⟩⟩ rfl ⟨rfl, trivial⟩ rfl rfl (n' (R' rfl rfl (q' rfl (q' rfl (n' ?_)))))
      refine ALoop.wk ?_ (ih5 _ _ _ _ _ hh)
      exact ⟨⟨⟨.rfl, rfl⟩, ⟨⟨.rfl, rfl⟩, ⟨⟨.rfl, rfl⟩, ⟨⟨.rfl, rfl⟩, ⟨⟨.rfl, rfl⟩, trivial⟩⟩⟩⟩⟩, ⟨⟨rfl, .refl _, rfl⟩, trivial⟩, rfl⟩
    refine ex' ?_
    obtain rfl := oi' hh
    exact ⟨_, _, [.row (SyntaxReport.cells o04) 75], rfl, .rfl, ⟨⟨rfl, .refl _, rfl⟩, trivial⟩, rfl, rfl, rfl, rfl⟩
theorem syntax_report_typ_ok {t : ApiType} {depth : Int} {syntaxReport : SyntaxReport} {res : SyntaxReport} (hh : syntax_report_typ t depth syntaxReport = some res) : syntax_report_typ_m t depth syntaxReport res := (syntax_report_typ_grp).1 _ _ _ _ hh
theorem syntax_report_typ_j1_ok {t : ApiType} {depth : Int} {o0 : SyntaxReport} {res : SyntaxReport} (hh : syntax_report_typ_j1 t depth o0 = some res) : syntax_report_typ_j1_m t depth o0 res := (syntax_report_typ_grp).2.1 _ _ _ _ hh
theorem syntax_report_typ_j2_ok {t : ApiType} {depth : Int} {o01 : SyntaxReport} {res : SyntaxReport} (hh : syntax_report_typ_j2 t depth o01 = some res) : syntax_report_typ_j2_m t depth o01 res := (syntax_report_typ_grp).2.2.1 _ _ _ _ hh
theorem syntax_report_typ_j3_ok {t : ApiType} {depth : Int} {o02 : SyntaxReport} {res : SyntaxReport} (hh : syntax_report_typ_j3 t depth o02 = some res) : syntax_report_typ_j3_m t depth o02 res := (syntax_report_typ_grp).2.2.2.1 _ _ _ _ hh
theorem syntax_report_typ_l4_ok {t : ApiType} {depth : Int} {o03 : SyntaxReport} {v147 : Int} {res : SyntaxReport} (hh : syntax_report_typ_l4 t depth o03 v147 = some res) : syntax_report_typ_l4_m t depth o03 v147 res := (syntax_report_typ_grp).2.2.2.2.1 _ _ _ _ _ hh
theorem syntax_report_typ_l5_ok {t : ApiType} {depth : Int} {o04 : SyntaxReport} {v158 : Int} {res : SyntaxReport} (hh : syntax_report_typ_l5 t depth o04 v158 = some res) : syntax_report_typ_l5_m t depth o04 v158 res := (syntax_report_typ_grp).2.2.2.2.2 _ _ _ _ _ hh
mutual
def syntax_EqualExpr (a : ApiExpr) (b : ApiExpr) : Option Bool :=
  (if (bif (bif (a.Op == b.Op) then (a.NV == b.NV) else false) then (a.Name == b.Name) else false) = true then slices_EqualFunc_api_Expr_api_Expr_api_Expr_api_Expr a.Kids b.Kids else some default) >>= fun x1 =>
  some (bif (bif (bif (a.Op == b.Op) then (a.NV == b.NV) else false) then (a.Name == b.Name) else false) then x1 else false)
  partial_fixpoint
def slices_EqualFunc_api_Expr_api_Expr_api_Expr_api_Expr (s1 : List ApiExpr) (s2 : List ApiExpr) : Option Bool :=
  if (((s1).length : Int) != ((s2).length : Int)) = true then
    some false
  else
    slices_EqualFunc_api_Expr_api_Expr_api_Expr_api_Expr_l1 s1 s2 0
  partial_fixpoint
def slices_EqualFunc_api_Expr_api_Expr_api_Expr_api_Expr_l1 (s1 : List ApiExpr) (s2 : List ApiExpr) (v17 : Int) : Option Bool :=
  if (decide (v17 < ((s1).length : Int))) = true then
    idx s1 v17 >>= fun x1 =>
    idx s2 v17 >>= fun x2 =>
    syntax_EqualExpr x1 x2 >>= fun x3 =>
    if (!x3) = true then
      some false
    else
      slices_EqualFunc_api_Expr_api_Expr_api_Expr_api_Expr_l1 s1 s2 (IntKind.i64.wrap (v17 + 1))
  else
    some true
  partial_fixpoint
end
abbrev syntax_EqualExpr_m (a : ApiExpr) (b : ApiExpr) (res : Bool) : Prop := ACall C 169 [.agg (ApiExpr.cells a), .agg (ApiExpr.cells b)] [] (fun x H' => H' = [] ∧ x = .d (.bool res))
abbrev slices_EqualFunc_api_Expr_api_Expr_api_Expr_api_Expr_m (s1 : List ApiExpr) (s2 : List ApiExpr) (res : Bool) : Prop := ACall C 186 [.d (.sl (ApiExpr.rows s1)), .d (.sl (ApiExpr.rows s2)), .clo 169 []] [] (fun x H' => H' = [] ∧ x = .d (.bool res))
abbrev slices_EqualFunc_api_Expr_api_Expr_api_Expr_api_Expr_l1_m (s1 : List ApiExpr) (s2 : List ApiExpr) (v17 : Int) (res : Bool) : Prop := ALoop (Fx.mk C 32 0) (lo (bk (sr (sl (sr (sr (bodyOf Tryz.f186))))))) (mkEnv [(1, .d (.sl (ApiExpr.rows s2))), (2, .clo 169 []), (15, .d (.sl (ApiExpr.rows s1))), (16, .d (.int .i64 ((s1).length : Int))), (17, .d (.int .i64 v17))]) [] (Am.InBlock 0 (Am.Then (Fx.mk C 32 0) (sr (sr (sr (bodyOf Tryz.f186)))) (Am.Ends (Fx.mk C 32 0) Tryz.f186.results.toList (fun x H' => H' = [] ∧ x = .d (.bool res)))))
theorem syntax_EqualExpr_grp : (∀ (a : ApiExpr) (b : ApiExpr) (res : Bool), syntax_EqualExpr a b = some res → syntax_EqualExpr_m a b res) ∧
    (∀ (s1 : List ApiExpr) (s2 : List ApiExpr) (res : Bool), slices_EqualFunc_api_Expr_api_Expr_api_Expr_api_Expr s1 s2 = some res → slices_EqualFunc_api_Expr_api_Expr_api_Expr_api_Expr_m s1 s2 res) ∧
    (∀ (s1 : List ApiExpr) (s2 : List ApiExpr) (v17 : Int) (res : Bool), slices_EqualFunc_api_Expr_api_Expr_api_Expr_api_Expr_l1 s1 s2 v17 = some res → slices_EqualFunc_api_Expr_api_Expr_api_Expr_api_Expr_l1_m s1 s2 v17 res) := by
  refine syntax_EqualExpr.mutual_partial_correctness (fun a b res => syntax_EqualExpr_m a b res)
    (fun s1 s2 res => slices_EqualFunc_api_Expr_api_Expr_api_Expr_api_Expr_m s1 s2 res)
    (fun s1 s2 v17 res => slices_EqualFunc_api_Expr_api_Expr_api_Expr_api_Expr_l1_m s1 s2 v17 res) ?_ ?_ ?_
  · intro g1 ih1 a b res hh
    refine ACall.intro hC Tryz.func169 rfl rfl rfl ?_
    obtain ⟨x1, hx1, hh⟩ := bs' hh
    refine s' rfl rfl (AOps.n hC rfl (AOps.n hC rfl (q' rfl (n' (sg' 27 rfl (a0' rfl (a0' rfl (a0' rfl (a0' rfl (a0' rfl (a0' rfl (a0' rfl (a1' rfl ?_)))))))))))))
    refine a0' rfl (a1' rfl (a2' rfl (pa' rfl (a0' rfl (a0' rfl (a1' rfl (a0' rfl (a1' rfl (a2' rfl (pa' rfl (a0' rfl (a0' rfl (a1' rfl ?_)))))))))))))
    refine a0' rfl (a1' rfl (AG.c rfl rfl (fun hg => ⟨hg, hg, trivial⟩) (fun hw => ih1 _ _ _ (if_t hw hx1)) (pa' rfl (a0' rfl (an' (n' (re' ?_)))))))
    obtain rfl := oi' hh
    exact ⟨_, _, [], rfl, .rfl, trivial, rfl, rfl, rfl, rfl⟩
  · intro g2 ih2 s1 s2 res hh
    refine ACall.intro hC Tryz.func186 rfl rfl rfl ?_
    refine s' rfl rfl (q' rfl (n' (S' (s' rfl rfl (q' rfl (qe' rfl trivial (ApiExpr.lenA _) (q' rfl (qe' rfl trivial (ApiExpr.lenA _) (q' rfl (n' ?_))))))))))
    refine ci' rfl hh (fun hh => ?_) (fun hh => ?_)
    · refine s' rfl rfl (q' rfl (n' (re' ?_)))
      obtain rfl := oi' hh
      exact ⟨_, _, [], rfl, .rfl, trivial, rfl, rfl, rfl, rfl⟩
    refine sk' (S' (s' rfl rfl (q' rfl (qe' rfl trivial (ApiExpr.lenA _) (q' rfl (n' (AEx.block ?_)))))))
    refine AEx.ofLoop ?_
    refine ALoop.wk ?_ (ih2 _ _ _ _ hh)
    exact ⟨⟨⟨.rfl, rfl⟩, ⟨⟨.rfl, rfl⟩, ⟨⟨.rfl, rfl⟩, ⟨⟨.rfl, rfl⟩, ⟨⟨.rfl, rfl⟩, trivial⟩⟩⟩⟩⟩, trivial, rfl⟩
  · intro g0 g2 ih0 ih2 s1 s2 v17 res hh
    refine ALoop.unroll ?_
    refine s' rfl rfl (q' rfl (n' (S' ?_)))
    refine ci' rfl hh (fun hh => ?_) (fun hh => ?_)
    · obtain ⟨x1, hx1, hh⟩ := bs' hh
      obtain ⟨x2, hx2, hh⟩ := bs' hh
      obtain ⟨x3, hx3, hh⟩ := bs' hh
      refine sk' (S' (AEx.block (s' rfl rfl (q' rfl (i' rfl (idx_nat hx1) (ApiExpr.idx hx1) rfl (q' rfl (AOps.nf hC rfl (q' rfl (AOps.s hC rfl (n' (s' rfl rfl (q' rfl (q' rfl ?_)))))))))))))
      refine i' rfl (idx_nat hx2) (ApiExpr.idx hx2) rfl (q' rfl (AOps.nf hC rfl (AOps.s hC rfl (n' (s' rfl rfl (q' rfl (q' rfl (q' rfl (AOps.c rfl rfl (ih0 _ _ _ hx3) (q' rfl (n' ?_)))))))))))
      refine ci' rfl hh (fun hh => ?_) (fun hh => ?_)
      · refine s' rfl rfl (q' rfl (n' (re' ?_)))
        obtain rfl := oi' hh
        exact ⟨_, _, [], rfl, .rfl, trivial, rfl, rfl, rfl, rfl⟩
      refine sk' (R' rfl rfl (q' rfl (q' rfl (n' ?_))))
      refine ALoop.wk ?_ (ih2 _ _ _ _ hh)
      exact ⟨⟨⟨.rfl, rfl⟩, ⟨⟨.rfl, rfl⟩, ⟨⟨.rfl, rfl⟩, ⟨⟨.rfl, rfl⟩, ⟨⟨.rfl, rfl⟩, trivial⟩⟩⟩⟩⟩, trivial, rfl⟩
    refine ex' (s' rfl rfl (q' rfl (n' (re' ?_))))
    obtain rfl := oi' hh
    exact ⟨_, _, [], rfl, .rfl, trivial, rfl, rfl, rfl, rfl⟩
theorem syntax_EqualExpr_ok {a : ApiExpr} {b : ApiExpr} {res : Bool} (hh : syntax_EqualExpr a b = some res) : syntax_EqualExpr_m a b res := (syntax_EqualExpr_grp).1 _ _ _ hh
theorem slices_EqualFunc_api_Expr_api_Expr_api_Expr_api_Expr_ok {s1 : List ApiExpr} {s2 : List ApiExpr} {res : Bool} (hh : slices_EqualFunc_api_Expr_api_Expr_api_Expr_api_Expr s1 s2 = some res) : slices_EqualFunc_api_Expr_api_Expr_api_Expr_api_Expr_m s1 s2 res := (syntax_EqualExpr_grp).2.1 _ _ _ hh
theorem slices_EqualFunc_api_Expr_api_Expr_api_Expr_api_Expr_l1_ok {s1 : List ApiExpr} {s2 : List ApiExpr} {v17 : Int} {res : Bool} (hh : slices_EqualFunc_api_Expr_api_Expr_api_Expr_api_Expr_l1 s1 s2 v17 = some res) : slices_EqualFunc_api_Expr_api_Expr_api_Expr_api_Expr_l1_m s1 s2 v17 res := (syntax_EqualExpr_grp).2.2 _ _ _ _ hh
def syntax_report_optional (e : ApiExpr) (used : Bool) (syntaxReport : SyntaxReport) : Option SyntaxReport :=
  (if (!used) = true then syntax_EqualExpr e (ApiExpr.mk 0 0 [] []) else some default) >>= fun x1 =>
  if (bif (!used) then x1 else false) = true then
    some syntaxReport
  else
    syntax_report_form used syntaxReport >>= fun x2 =>
    syntax_report_expr e 1 x2 >>= fun x3 =>
    some x3
abbrev syntax_report_optional_m (e : ApiExpr) (used : Bool) (syntaxReport : SyntaxReport) (res : SyntaxReport) : Prop := ACall C 144 [.ref 0 0, .agg (ApiExpr.cells e), .d (.bool used)] [.row (SyntaxReport.cells syntaxReport) 75] (fun x H' => H' = [.row (SyntaxReport.cells res) 75] ∧ x = .tup [])
theorem syntax_report_optional_ok {e : ApiExpr} {used : Bool} {syntaxReport : SyntaxReport} {res : SyntaxReport} (hh : syntax_report_optional e used syntaxReport = some res) : syntax_report_optional_m e used syntaxReport res := by
  unfold syntax_report_optional at hh
  refine ACall.intro hC Tryz.func144 rfl rfl rfl ?_
  obtain ⟨x1, hx1, hh⟩ := bs' hh
  refine s' rfl rfl (AOps.n hC rfl (n' (S' (sg' 7 rfl (a0' rfl (a0' rfl (a0' rfl (a0' rfl (a0' rfl (AG.c rfl rfl (fun hg => ⟨hg, hg, trivial⟩) (fun hw => syntax_EqualExpr_ok (if_t hw hx1)) (pa' rfl (an' (n' ?_)))))))))))))
  refine ci' rfl hh (fun hh => ?_) (fun hh => ?_)
  · refine re' ?_
    obtain rfl := oi' hh
    exact ⟨_, _, [.row (SyntaxReport.cells syntaxReport) 75], rfl, .rfl, ⟨⟨rfl, .refl _, rfl⟩, trivial⟩, rfl, rfl, rfl, rfl⟩
  obtain ⟨x2, hx2, hh⟩ := bs' hh
  obtain ⟨x3, hx3, hh⟩ := bs' hh
  refine sk' (s' rfl rfl (q' rfl (q' rfl (AOps.g [0] rfl (syntax_report_form_ok hx2) ⟨.rfl, ⟨.rfl, trivial⟩⟩ rfl ⟨rfl, trivial⟩ rfl rfl (n' (R' rfl rfl (q' rfl (q' rfl (AOps.g [0] rfl (syntax_report_expr_ok hx3) ⟨.rfl, ⟨.rfl, ⟨.rfl, trivial⟩⟩⟩ rfl ⟨rfl, trivial⟩ rfl rfl (n' ?_))))))))))
  obtain rfl := oi' hh
  exact ⟨_, _, [.row (SyntaxReport.cells x3) 75], rfl, .rfl, ⟨⟨rfl, .refl _, rfl⟩, trivial⟩, rfl, rfl, rfl, rfl⟩
def syntax_statement (v : Int) : Option (SyntaxUses × Bool) :=
  if (v == 0) = true then
    some ((SyntaxUses.mk true true false false false false false false false), true)
  else
    if (v == 1) = true then
      some ((SyntaxUses.mk true false true true false false false false false), true)
    else
      if (v == 2) = true then
        some ((SyntaxUses.mk true false true false false false false false false), true)
      else
        if (v == 3) = true then
          some ((SyntaxUses.mk false true false false false false false false false), true)
        else
          if (v == 4) = true then
            some ((SyntaxUses.mk false false false false true false false false false), true)
          else
            if (v == 5) = true then
              some ((SyntaxUses.mk false true false false false false false true true), true)
            else
              if (v == 6) = true then
                some ((SyntaxUses.mk false true false false true false false true false), true)
              else
                if (v == 7) = true then
                  some ((SyntaxUses.mk false false true false false true false true false), true)
                else
                  if (v == 8) = true then
                    some ((SyntaxUses.mk false false false false false false true false false), true)
                  else
                    some ((SyntaxUses.mk false false false false false false false false false), false)
abbrev syntax_statement_m (v : Int) (res : SyntaxUses × Bool) : Prop := ACall C 134 [.d (.int .i64 v)] [] (fun x H' => H' = [] ∧ x = .tup [.agg (SyntaxUses.cells res.1), .d (.bool res.2)])
theorem syntax_statement_ok {v : Int} {res : SyntaxUses × Bool} (hh : syntax_statement v = some res) : syntax_statement_m v res := by
  unfold syntax_statement at hh
  refine ACall.intro hC Tryz.func134 rfl rfl rfl ?_
  refine s' rfl rfl (AOps.n hC rfl (q' rfl (n' (S' (s' rfl rfl (q' rfl (n' (AEx.block (s' rfl rfl (q' rfl (q' rfl (n' ?_))))))))))))
  refine ci' rfl hh (fun hh => ?_) (fun hh => ?_)
  · refine s' rfl rfl (q' rfl (AOps.s hC rfl (q' rfl (n' (re' ?_)))))
    obtain rfl := oi' hh
    exact ⟨_, _, [], rfl, .rfl, trivial, rfl, rfl, rfl, rfl⟩
  refine s' rfl rfl (q' rfl (q' rfl (n' ?_)))
  refine ci' rfl hh (fun hh => ?_) (fun hh => ?_)
  · refine s' rfl rfl (q' rfl (AOps.s hC rfl (q' rfl (n' (re' ?_)))))
    obtain rfl := oi' hh
    exact ⟨_, _, [], rfl, .rfl, trivial, rfl, rfl, rfl, rfl⟩
  refine s' rfl rfl (q' rfl (q' rfl (n' ?_)))
  refine ci' rfl hh (fun hh => ?_) (fun hh => ?_)
  · refine s' rfl rfl (q' rfl (AOps.s hC rfl (q' rfl (n' (re' ?_)))))
    obtain rfl := oi' hh
    exact ⟨_, _, [], rfl, .rfl, trivial, rfl, rfl, rfl, rfl⟩
  refine s' rfl rfl (q' rfl (q' rfl (n' ?_)))
  refine ci' rfl hh (fun hh => ?_) (fun hh => ?_)
  · refine s' rfl rfl (q' rfl (AOps.s hC rfl (q' rfl (n' (re' ?_)))))
    obtain rfl := oi' hh
    exact ⟨_, _, [], rfl, .rfl, trivial, rfl, rfl, rfl, rfl⟩
  refine s' rfl rfl (q' rfl (q' rfl (n' ?_)))
  refine ci' rfl hh (fun hh => ?_) (fun hh => ?_)
  · refine s' rfl rfl (q' rfl (AOps.s hC rfl (q' rfl (n' (re' ?_)))))
    obtain rfl := oi' hh
    exact ⟨_, _, [], rfl, .rfl, trivial, rfl, rfl, rfl, rfl⟩
  refine s' rfl rfl (q' rfl (q' rfl (n' ?_)))
  refine ci' rfl hh (fun hh => ?_) (fun hh => ?_)
  · refine s' rfl rfl (q' rfl (AOps.s hC rfl (q' rfl (n' (re' ?_)))))
    obtain rfl := oi' hh
    exact ⟨_, _, [], rfl, .rfl, trivial, rfl, rfl, rfl, rfl⟩
  refine s' rfl rfl (q' rfl (q' rfl (n' ?_)))
  refine ci' rfl hh (fun hh => ?_) (fun hh => ?_)
  · refine s' rfl rfl (q' rfl (AOps.s hC rfl (q' rfl (n' (re' ?_)))))
    obtain rfl := oi' hh
    exact ⟨_, _, [], rfl, .rfl, trivial, rfl, rfl, rfl, rfl⟩
  refine s' rfl rfl (q' rfl (q' rfl (n' ?_)))
  refine ci' rfl hh (fun hh => ?_) (fun hh => ?_)
  · refine s' rfl rfl (q' rfl (AOps.s hC rfl (q' rfl (n' (re' ?_)))))
    obtain rfl := oi' hh
    exact ⟨_, _, [], rfl, .rfl, trivial, rfl, rfl, rfl, rfl⟩
  refine s' rfl rfl (q' rfl (q' rfl (n' ?_)))
  refine ci' rfl hh (fun hh => ?_) (fun hh => ?_)
  · refine s' rfl rfl (q' rfl (AOps.s hC rfl (q' rfl (n' (re' ?_)))))
    obtain rfl := oi' hh
    exact ⟨_, _, [], rfl, .rfl, trivial, rfl, rfl, rfl, rfl⟩
  refine sk' (s' rfl rfl (q' rfl (AOps.s hC rfl (q' rfl (n' (re' ?_))))))
  obtain rfl := oi' hh
  exact ⟨_, _, [], rfl, .rfl, trivial, rfl, rfl, rfl, rfl⟩
def syntax_report_numbers_l1 (s : ApiStmt) (o0 : SyntaxReport) (last : Int) (v58 : Int) : Option SyntaxReport :=
  if (decide (v58 < ((s.Numbers).length : Int))) = true then
    idx s.Numbers v58 >>= fun x10 =>
    syntax_inside x10 0 1048576 >>= fun x11 =>
    syntax_report_number (bif x11 then (decide (x10 > last)) else false) o0 >>= fun x12 =>
    syntax_report_numbers_l1 s x12 x10 (IntKind.i64.wrap (v58 + 1))
  else
    some o0
  partial_fixpoint
abbrev syntax_report_numbers_l1_m (s : ApiStmt) (o0 : SyntaxReport) (last : Int) (v58 : Int) (res : SyntaxReport) : Prop := ALoop (Fx.mk C 73 1) (lo (bk (sr (sr (sr (ca (sr (cb (sr (cb (sr (cb (sr (bk (sr (sr (bodyOf Tryz.f145))))))))))))))))) (mkEnv [(0, .ref 0 0), (5, .d (.int .i64 last)), (56, .d (.sl (ei64.rows s.Numbers))), (57, .d (.int .i64 ((s.Numbers).length : Int))), (58, .d (.int .i64 v58))]) [.row (SyntaxReport.cells o0) 75] (Am.InBlock 1 (Am.InBlock 0 (Am.Ends (Fx.mk C 73 1) Tryz.f145.results.toList (fun x H' => H' = [.row (SyntaxReport.cells res) 75] ∧ x = .tup []))))
theorem syntax_report_numbers_l1_grp (s : ApiStmt) : (∀ (o0 : SyntaxReport) (last : Int) (v58 : Int) (res : SyntaxReport), syntax_report_numbers_l1 s o0 last v58 = some res → syntax_report_numbers_l1_m s o0 last v58 res) := by
  refine syntax_report_numbers_l1.partial_correctness s
    (fun o0 last v58 res => syntax_report_numbers_l1_m s o0 last v58 res) ?_
  · intro g0 ih0 o0 last v58 res hh
    refine ALoop.unroll ?_
    refine s' rfl rfl (q' rfl (n' (S' ?_)))
    refine ci' rfl hh (fun hh => ?_) (fun hh => ?_)
    · obtain ⟨x10, hx10, hh⟩ := bs' hh
      obtain ⟨x11, hx11, hh⟩ := bs' hh
      obtain ⟨x12, hx12, hh⟩ := bs' hh
      refine sk' (S' (AEx.block (s' rfl rfl (i' rfl (idx_nat hx10) (ei64.idx hx10) rfl (q' rfl (q' rfl (n' (sg' 8 rfl (a0' rfl (a0' rfl (AG.c rfl rfl (fun _ => trivial) (fun _ => syntax_inside_ok hx11) (a0' rfl (a0' rfl ?_)))))))))))))
      refine a0' rfl (a2' rfl (pa' rfl (an' (AOps.g [0] rfl (syntax_report_number_ok hx12) ⟨.rfl, ⟨.rfl, trivial⟩⟩ rfl ⟨rfl, trivial⟩ rfl rfl (n' (R' rfl rfl (q' rfl (q' rfl (n' (R' rfl rfl (q' rfl (q' rfl (n' ?_)))))))))))))
      refine ALoop.wk ?_ (ih0 _ _ _ _ hh)
      exact ⟨⟨⟨.rfl, rfl⟩, ⟨⟨.rfl, rfl⟩, ⟨⟨.rfl, rfl⟩, ⟨⟨.rfl, rfl⟩, ⟨⟨.rfl, rfl⟩, trivial⟩⟩⟩⟩⟩, ⟨⟨rfl, .refl _, rfl⟩, trivial⟩, rfl⟩
    refine ex' ?_
    obtain rfl := oi' hh
    exact ⟨_, _, [.row (SyntaxReport.cells o0) 75], rfl, .rfl, ⟨⟨rfl, .refl _, rfl⟩, trivial⟩, rfl, rfl, rfl, rfl⟩
theorem syntax_report_numbers_l1_ok {s : ApiStmt} {o0 : SyntaxReport} {last : Int} {v58 : Int} {res : SyntaxReport} (hh : syntax_report_numbers_l1 s o0 last v58 = some res) : syntax_report_numbers_l1_m s o0 last v58 res := (syntax_report_numbers_l1_grp s) _ _ _ _ hh
def syntax_report_numbers (s : ApiStmt) (syntaxReport : SyntaxReport) : Option SyntaxReport :=
  if (s.Verb == 4) = true then
    syntax_inside s.NV 0 1048576 >>= fun x1 =>
    syntax_report_number x1 syntaxReport >>= fun x2 =>
    some x2
  else
    if (s.Verb == 6) = true then
      syntax_inside s.NV 0 4096 >>= fun x3 =>
      syntax_report_number x3 syntaxReport >>= fun x4 =>
      some x4
    else
      if (s.Verb == 7) = true then
        syntax_inside s.Low (-1048576) 1048576 >>= fun x5 =>
        (if x5 = true then syntax_inside s.High s.Low 1048576 else some default) >>= fun x6 =>
        syntax_report_number (bif (bif x5 then x6 else false) then (decide ((IntKind.i64.wrap (s.High - s.Low)) < 4096)) else false) syntaxReport >>= fun x7 =>
        some x7
      else
        if (s.Verb == 8) = true then
          syntax_inside ((s.Numbers).length : Int) 1 32 >>= fun x8 =>
          syntax_report_number x8 syntaxReport >>= fun x9 =>
          syntax_report_numbers_l1 s x9 (-1) 0
        else
          some syntaxReport
abbrev syntax_report_numbers_m (s : ApiStmt) (syntaxReport : SyntaxReport) (res : SyntaxReport) : Prop := ACall C 145 [.ref 0 0, .agg (ApiStmt.cells s)] [.row (SyntaxReport.cells syntaxReport) 75] (fun x H' => H' = [.row (SyntaxReport.cells res) 75] ∧ x = .tup [])
theorem syntax_report_numbers_ok {s : ApiStmt} {syntaxReport : SyntaxReport} {res : SyntaxReport} (hh : syntax_report_numbers s syntaxReport = some res) : syntax_report_numbers_m s syntaxReport res := by
  unfold syntax_report_numbers at hh
  refine ACall.intro hC Tryz.func145 rfl rfl rfl ?_
  refine s' rfl rfl (AOps.n hC rfl (n' (s' rfl rfl (q' rfl (q' rfl (n' (AEx.block (s' rfl rfl (q' rfl (q' rfl (n' ?_)))))))))))
  refine ci' rfl hh (fun hh => ?_) (fun hh => ?_)
  · obtain ⟨x1, hx1, hh⟩ := bs' hh
    obtain ⟨x2, hx2, hh⟩ := bs' hh
    refine R' rfl rfl (q' rfl (q' rfl (q' rfl (AOps.c rfl rfl (syntax_inside_ok hx1) (AOps.g [0] rfl (syntax_report_number_ok hx2) ⟨.rfl, ⟨.rfl, trivial⟩⟩ rfl ⟨rfl, trivial⟩ rfl rfl (n' ?_))))))
    obtain rfl := oi' hh
    exact ⟨_, _, [.row (SyntaxReport.cells x2) 75], rfl, .rfl, ⟨⟨rfl, .refl _, rfl⟩, trivial⟩, rfl, rfl, rfl, rfl⟩
  refine s' rfl rfl (q' rfl (q' rfl (n' ?_)))
  refine ci' rfl hh (fun hh => ?_) (fun hh => ?_)
  · obtain ⟨x3, hx3, hh⟩ := bs' hh
    obtain ⟨x4, hx4, hh⟩ := bs' hh
    refine R' rfl rfl (q' rfl (q' rfl (q' rfl (AOps.c rfl rfl (syntax_inside_ok hx3) (AOps.g [0] rfl (syntax_report_number_ok hx4) ⟨.rfl, ⟨.rfl, trivial⟩⟩ rfl ⟨rfl, trivial⟩ rfl rfl (n' ?_))))))
    obtain rfl := oi' hh
    exact ⟨_, _, [.row (SyntaxReport.cells x4) 75], rfl, .rfl, ⟨⟨rfl, .refl _, rfl⟩, trivial⟩, rfl, rfl, rfl, rfl⟩
  refine s' rfl rfl (q' rfl (q' rfl (n' ?_)))
  refine ci' rfl hh (fun hh => ?_) (fun hh => ?_)
  · obtain ⟨x5, hx5, hh⟩ := bs' hh
    obtain ⟨x6, hx6, hh⟩ := bs' hh
    obtain ⟨x7, hx7, hh⟩ := bs' hh
    refine sg' 11 rfl (a0' rfl (a0' rfl (AG.c rfl rfl (fun _ => trivial) (fun _ => syntax_inside_ok hx5) (a0' rfl (a0' rfl (a1' rfl (a0' rfl (a1' rfl (AG.c rfl rfl (fun hg => ⟨hg, hg, trivial⟩) (fun hw => syntax_inside_ok (if_t hw hx6)) (pa' rfl (a0' rfl (an' (n' ?_)))))))))))))
    refine AEx.regionG 10 rfl (a0' rfl (a0' rfl (a0' rfl (a0' rfl (a1' rfl (a0' rfl (a1' rfl (a2' rfl (a1' rfl (pa' rfl (an' (AOps.g [0] rfl (syntax_report_number_ok hx7) ⟨.rfl, ⟨.rfl, trivial⟩⟩ rfl ⟨rfl, trivial⟩ rfl rfl (n' ?_)))))))))))))
    obtain rfl := oi' hh
    exact ⟨_, _, [.row (SyntaxReport.cells x7) 75], rfl, .rfl, ⟨⟨rfl, .refl _, rfl⟩, trivial⟩, rfl, rfl, rfl, rfl⟩
  refine s' rfl rfl (q' rfl (q' rfl (n' ?_)))
  refine ci' rfl hh (fun hh => ?_) (fun hh => ?_)
  · obtain ⟨x8, hx8, hh⟩ := bs' hh
    obtain ⟨x9, hx9, hh⟩ := bs' hh
    refine s' rfl rfl (q' rfl (q' rfl (q' rfl (qe' rfl trivial (ei64.lenA _) (AOps.c rfl rfl (syntax_inside_ok hx8) (AOps.g [0] rfl (syntax_report_number_ok hx9) ⟨.rfl, ⟨.rfl, trivial⟩⟩ rfl ⟨rfl, trivial⟩ rfl rfl (n' (s' rfl rfl (q' rfl (n' (s' rfl rfl (q' rfl (q' rfl ?_)))))))))))))
    refine qe' rfl trivial (ei64.lenA _) (q' rfl (n' (AEx.block ?_)))
    refine AEx.ofLoop ?_
    refine ALoop.wk ?_ (syntax_report_numbers_l1_ok hh)
    exact ⟨⟨⟨.rfl, rfl⟩, ⟨⟨.rfl, rfl⟩, ⟨⟨.rfl, rfl⟩, ⟨⟨.rfl, rfl⟩, ⟨⟨.rfl, rfl⟩, trivial⟩⟩⟩⟩⟩, ⟨⟨rfl, .refl _, rfl⟩, trivial⟩, rfl⟩
  refine sk' ?_
  obtain rfl := oi' hh
  exact ⟨_, _, [.row (SyntaxReport.cells syntaxReport) 75], rfl, .rfl, ⟨⟨rfl, .refl _, rfl⟩, trivial⟩, rfl, rfl, rfl, rfl⟩
mutual
def syntax_report_stmts (l : List ApiStmt) (nesting : Int) (syntaxReport : SyntaxReport) : Option SyntaxReport :=
  syntax_report_stmts_l1 l nesting syntaxReport 0
  partial_fixpoint
def syntax_report_stmts_l1 (l : List ApiStmt) (nesting : Int) (o03 : SyntaxReport) (v14 : Int) : Option SyntaxReport :=
  if (decide (v14 < ((l).length : Int))) = true then
    idx l v14 >>= fun x1 =>
    syntax_report_deep nesting (SyntaxReport.mk (IntKind.i64.wrap (o03.nodes + 1)) o03.depth o03.badForm o03.badName o03.badNumber) >>= fun x2 =>
    syntax_statement x1.Verb >>= fun x3 =>
    syntax_report_form x3.2 x2 >>= fun x4 =>
    syntax_report_optional x1.Place x3.1.place x4 >>= fun x5 =>
    if x3.1.place = true then
      syntax_place x1.Place >>= fun x6 =>
      syntax_report_form x6 x5 >>= fun x7 =>
      syntax_report_stmts_j2 l nesting x7 x1 x3 v14
    else
      syntax_report_stmts_j2 l nesting x5 x1 x3 v14
  else
    some o03
  partial_fixpoint
def syntax_report_stmts_j2 (l : List ApiStmt) (nesting : Int) (o0 : SyntaxReport) (x1 : ApiStmt) (x3 : SyntaxUses × Bool) (v141 : Int) : Option SyntaxReport :=
  syntax_report_optional x1.Value x3.1.value o0 >>= fun x8 =>
  syntax_report_form (bif x3.1.name then true else (x1.Name == [])) x8 >>= fun x9 =>
  if x3.1.name = true then
    syntax_report_name x1.Name x9 >>= fun x10 =>
    syntax_report_stmts_j3 l nesting x10 x1 x3 v141
  else
    syntax_report_stmts_j3 l nesting x9 x1 x3 v141
  partial_fixpoint
def syntax_report_stmts_j3 (l : List ApiStmt) (nesting : Int) (o01 : SyntaxReport) (x1 : ApiStmt) (x3 : SyntaxUses × Bool) (v142 : Int) : Option SyntaxReport :=
  syntax_report_form (bif x3.1.args then true else (((x1.Args).length : Int) == 0)) o01 >>= fun x11 =>
  syntax_report_stmts_l4 l nesting x11 x1 x3 v142 0
  partial_fixpoint
def syntax_report_stmts_l4 (l : List ApiStmt) (nesting : Int) (o02 : SyntaxReport) (x1 : ApiStmt) (x3 : SyntaxUses × Bool) (v143 : Int) (v84 : Int) : Option SyntaxReport :=
  if (decide (v84 < ((x1.Args).length : Int))) = true then
    idx x1.Args v84 >>= fun x12 =>
    syntax_report_expr x12 1 o02 >>= fun x13 =>
    syntax_report_stmts_l4 l nesting x13 x1 x3 v143 (IntKind.i64.wrap (v84 + 1))
  else
    syntax_report_form (bif x3.1.n then true else (x1.NV == 0)) o02 >>= fun x14 =>
    syntax_report_form (bif x3.1.bounds then true else (bif (x1.Low == 0) then (x1.High == 0) else false)) x14 >>= fun x15 =>
    syntax_report_form (bif x3.1.numbers then true else (((x1.Numbers).length : Int) == 0)) x15 >>= fun x16 =>
    syntax_report_form (bif x3.1.thenV then true else (((x1.Then).length : Int) == 0)) x16 >>= fun x17 =>
    syntax_report_form (bif x3.1.other then true else (((x1.Else).length : Int) == 0)) x17 >>= fun x18 =>
    syntax_report_numbers x1 x18 >>= fun x19 =>
    syntax_report_stmts x1.Then (IntKind.i64.wrap (nesting + 1)) x19 >>= fun x20 =>
    syntax_report_stmts x1.Else (IntKind.i64.wrap (nesting + 1)) x20 >>= fun x21 =>
    syntax_report_stmts_l1 l nesting x21 (IntKind.i64.wrap (v143 + 1))
  partial_fixpoint
end
abbrev syntax_report_stmts_m (l : List ApiStmt) (nesting : Int) (syntaxReport : SyntaxReport) (res : SyntaxReport) : Prop := ACall C 81 [.ref 0 0, .d (.sl (ApiStmt.rows l)), .d (.int .i64 nesting)] [.row (SyntaxReport.cells syntaxReport) 75] (fun x H' => H' = [.row (SyntaxReport.cells res) 75] ∧ x = .tup [])
abbrev syntax_report_stmts_l1_m (l : List ApiStmt) (nesting : Int) (o03 : SyntaxReport) (v14 : Int) (res : SyntaxReport) : Prop := ALoop (Fx.mk C 161 1) (lo (bk (sr (bodyOf Tryz.f81)))) (mkEnv [(0, .ref 0 0), (2, .d (.int .i64 nesting)), (12, .d (.sl (ApiStmt.rows l))), (13, .d (.int .i64 ((l).length : Int))), (14, .d (.int .i64 v14))]) [.row (SyntaxReport.cells o03) 75] (Am.InBlock 0 (Am.Ends (Fx.mk C 161 1) Tryz.f81.results.toList (fun x H' => H' = [.row (SyntaxReport.cells res) 75] ∧ x = .tup [])))
abbrev syntax_report_stmts_j2_m (l : List ApiStmt) (nesting : Int) (o0 : SyntaxReport) (x1 : ApiStmt) (x3 : SyntaxUses × Bool) (v141 : Int) (res : SyntaxReport) : Prop := AEx (Fx.mk C 161 1) (sr (sr (sr (sr (sr (sr (sr (bk (sl (sr (sr (lo (bk (sr (bodyOf Tryz.f81))))))))))))))) (mkEnv [(0, .ref 0 0), (2, .d (.int .i64 nesting)), (7, .ref 1 0), (8, .ref 2 0), (12, .d (.sl (ApiStmt.rows l))), (13, .d (.int .i64 ((l).length : Int))), (14, .d (.int .i64 v141))]) [.row (SyntaxReport.cells o0) 75, .row (ApiStmt.cells x1) 68, .row (SyntaxUses.cells x3.1) 156] (Am.InBlock 1 (Am.Then (Fx.mk C 161 1) (sr (sr (sr (lo (bk (sr (bodyOf Tryz.f81))))))) (Am.Again (Fx.mk C 161 1) (lo (bk (sr (bodyOf Tryz.f81)))) (Am.InBlock 0 (Am.Ends (Fx.mk C 161 1) Tryz.f81.results.toList (fun x H' => H' = [.row (SyntaxReport.cells res) 75] ∧ x = .tup []))))))
abbrev syntax_report_stmts_j3_m (l : List ApiStmt) (nesting : Int) (o01 : SyntaxReport) (x1 : ApiStmt) (x3 : SyntaxUses × Bool) (v142 : Int) (res : SyntaxReport) : Prop := AEx (Fx.mk C 161 1) (sr (sr (sr (sr (sr (sr (sr (sr (sr (sr (bk (sl (sr (sr (lo (bk (sr (bodyOf Tryz.f81)))))))))))))))))) (mkEnv [(0, .ref 0 0), (2, .d (.int .i64 nesting)), (7, .ref 1 0), (8, .ref 2 0), (12, .d (.sl (ApiStmt.rows l))), (13, .d (.int .i64 ((l).length : Int))), (14, .d (.int .i64 v142))]) [.row (SyntaxReport.cells o01) 75, .row (ApiStmt.cells x1) 68, .row (SyntaxUses.cells x3.1) 156] (Am.InBlock 1 (Am.Then (Fx.mk C 161 1) (sr (sr (sr (lo (bk (sr (bodyOf Tryz.f81))))))) (Am.Again (Fx.mk C 161 1) (lo (bk (sr (bodyOf Tryz.f81)))) (Am.InBlock 0 (Am.Ends (Fx.mk C 161 1) Tryz.f81.results.toList (fun x H' => H' = [.row (SyntaxReport.cells res) 75] ∧ x = .tup []))))))
abbrev syntax_report_stmts_l4_m (l : List ApiStmt) (nesting : Int) (o02 : SyntaxReport) (x1 : ApiStmt) (x3 : SyntaxUses × Bool) (v143 : Int) (v84 : Int) (res : SyntaxReport) : Prop := ALoop (Fx.mk C 161 1) (lo (bk (sr (sl (sr (sr (sr (sr (sr (sr (sr (sr (sr (sr (sr (bk (sl (sr (sr (lo (bk (sr (bodyOf Tryz.f81))))))))))))))))))))))) (mkEnv [(0, .ref 0 0), (2, .d (.int .i64 nesting)), (7, .ref 1 0), (8, .ref 2 0), (12, .d (.sl (ApiStmt.rows l))), (13, .d (.int .i64 ((l).length : Int))), (14, .d (.int .i64 v143)), (82, .d (.sl (ApiExpr.rows x1.Args))), (83, .d (.int .i64 ((x1.Args).length : Int))), (84, .d (.int .i64 v84))]) [.row (SyntaxReport.cells o02) 75, .row (ApiStmt.cells x1) 68, .row (SyntaxUses.cells x3.1) 156] (Am.InBlock 2 (Am.Then (Fx.mk C 161 1) (sr (sr (sr (sr (sr (sr (sr (sr (sr (sr (sr (sr (bk (sl (sr (sr (lo (bk (sr (bodyOf Tryz.f81)))))))))))))))))))) (Am.InBlock 1 (Am.Then (Fx.mk C 161 1) (sr (sr (sr (lo (bk (sr (bodyOf Tryz.f81))))))) (Am.Again (Fx.mk C 161 1) (lo (bk (sr (bodyOf Tryz.f81)))) (Am.InBlock 0 (Am.Ends (Fx.mk C 161 1) Tryz.f81.results.toList (fun x H' => H' = [.row (SyntaxReport.cells res) 75] ∧ x = .tup []))))))))
theorem syntax_report_stmts_grp : (∀ (l : List ApiStmt) (nesting : Int) (syntaxReport : SyntaxReport) (res : SyntaxReport), syntax_report_stmts l nesting syntaxReport = some res → syntax_report_stmts_m l nesting syntaxReport res) ∧
    (∀ (l : List ApiStmt) (nesting : Int) (o03 : SyntaxReport) (v14 : Int) (res : SyntaxReport), syntax_report_stmts_l1 l nesting o03 v14 = some res → syntax_report_stmts_l1_m l nesting o03 v14 res) ∧
    (∀ (l : List ApiStmt) (nesting : Int) (o0 : SyntaxReport) (x1 : ApiStmt) (x3 : SyntaxUses × Bool) (v141 : Int) (res : SyntaxReport), syntax_report_stmts_j2 l nesting o0 x1 x3 v141 = some res → syntax_report_stmts_j2_m l nesting o0 x1 x3 v141 res) ∧
    (∀ (l : List ApiStmt) (nesting : Int) (o01 : SyntaxReport) (x1 : ApiStmt) (x3 : SyntaxUses × Bool) (v142 : Int) (res : SyntaxReport), syntax_report_stmts_j3 l nesting o01 x1 x3 v142 = some res → syntax_report_stmts_j3_m l nesting o01 x1 x3 v142 res) ∧
    (∀ (l : List ApiStmt) (nesting : Int) (o02 : SyntaxReport) (x1 : ApiStmt) (x3 : SyntaxUses × Bool) (v143 : Int) (v84 : Int) (res : SyntaxReport), syntax_report_stmts_l4 l nesting o02 x1 x3 v143 v84 = some res → syntax_report_stmts_l4_m l nesting o02 x1 x3 v143 v84 res) := by
  refine syntax_report_stmts.mutual_partial_correctness (fun l nesting syntaxReport res => syntax_report_stmts_m l nesting syntaxReport res)
    (fun l nesting o03 v14 res => syntax_report_stmts_l1_m l nesting o03 v14 res)
    (fun l nesting o0 x1 x3 v141 res => syntax_report_stmts_j2_m l nesting o0 x1 x3 v141 res)
    (fun l nesting o01 x1 x3 v142 res => syntax_report_stmts_j3_m l nesting o01 x1 x3 v142 res)
    (fun l nesting o02 x1 x3 v143 v84 res => syntax_report_stmts_l4_m l nesting o02 x1 x3 v143 v84 res) ?_ ?_ ?_ ?_ ?_
  · intro g1 ih1 l nesting syntaxReport res hh
    refine ACall.intro hC Tryz.func81 rfl rfl rfl ?_
    refine s' rfl rfl (q' rfl (qe' rfl trivial (ApiStmt.lenA _) (q' rfl (n' (AEx.block ?_)))))
    refine AEx.ofLoop ?_
    refine ALoop.wk ?_ (ih1 _ _ _ _ _ hh)
    exact ⟨⟨⟨.rfl, rfl⟩, ⟨⟨.rfl, rfl⟩, ⟨⟨.rfl, rfl⟩, ⟨⟨.rfl, rfl⟩, ⟨⟨.rfl, rfl⟩, trivial⟩⟩⟩⟩⟩, ⟨⟨rfl, .refl _, rfl⟩, trivial⟩, rfl⟩
  · intro g2 ih2 l nesting o03 v14 res hh
    refine ALoop.unroll ?_
    refine s' rfl rfl (q' rfl (n' (S' ?_)))
    refine ci' rfl hh (fun hh => ?_) (fun hh => ?_)
    · obtain ⟨x1, hx1, hh⟩ := bs' hh
      obtain ⟨x2, hx2, hh⟩ := bs' hh
      obtain ⟨x3, hx3, hh⟩ := bs' hh
      obtain ⟨x4, hx4, hh⟩ := bs' hh
      obtain ⟨x5, hx5, hh⟩ := bs' hh
      refine sk' (S' (AEx.block (s' rfl rfl (i' rfl (idx_nat hx1) (ApiStmt.idx hx1) rfl (q' rfl (AOps.nf hC rfl (AOps.s hC rfl (n' (s' rfl rfl (q' rfl (q' rfl (q' rfl (q' rfl ?_)))))))))))))
      refine q' rfl (q' rfl (q' rfl (AOps.s hC rfl (n' (s' rfl rfl (q' rfl (q' rfl (AOps.g [0] rfl (syntax_report_deep_ok hx2) ⟨.rfl, ⟨.rfl, trivial⟩⟩ rfl ⟨rfl, trivial⟩ rfl rfl (n' (s' rfl rfl (q' rfl (q' rfl (AOps.c rfl rfl (syntax_statement_ok hx3) ?_)))))))))))))
      refine q' rfl (q' rfl (q' rfl (AOps.n hC rfl (AOps.s hC rfl (q' rfl (n' (s' rfl rfl (q' rfl (q' rfl (AOps.g [0] rfl (syntax_report_form_ok hx4) ⟨.rfl, ⟨.rfl, trivial⟩⟩ rfl ⟨rfl, trivial⟩ rfl rfl (n' (s' rfl rfl (q' rfl ?_)))))))))))))
      iterate 4 refine q' rfl ?_
      refine AOps.g [0] rfl (syntax_report_optional_ok hx5) ⟨.rfl, ⟨.rfl, ⟨.rfl, trivial⟩⟩⟩ rfl ⟨rfl, trivial⟩ rfl rfl (n' (S' (s' rfl rfl (q' rfl (q' rfl (n' ?_))))))
      refine ci' rfl hh (fun hh => ?_) (fun hh => ?_)
      · obtain ⟨x6, hx6, hh⟩ := bs' hh
        obtain ⟨x7, hx7, hh⟩ := bs' hh
        refine R' rfl rfl (q' rfl (q' rfl (q' rfl (AOps.c rfl rfl (syntax_place_ok hx6) (AOps.g [0] rfl (syntax_report_form_ok hx7) ⟨.rfl, ⟨.rfl, trivial⟩⟩ rfl ⟨rfl, trivial⟩ rfl rfl (n' ?_))))))
        refine AEx.wk ?_ (ih2 _ _ _ _ _ _ _ hh)
        exact ⟨⟨⟨.rfl, rfl⟩, ⟨⟨.rfl, rfl⟩, ⟨⟨.rfl, rfl⟩, ⟨⟨.rfl, rfl⟩, ⟨⟨.rfl, rfl⟩, ⟨⟨.rfl, rfl⟩, ⟨⟨.rfl, rfl⟩, trivial⟩⟩⟩⟩⟩⟩⟩, ⟨⟨rfl, .refl _, rfl⟩, ⟨⟨rfl, .refl _, rfl⟩, ⟨⟨rfl, .refl _, rfl⟩, trivial⟩⟩⟩, rfl⟩
      refine sk' ?_
      refine AEx.wk ?_ (ih2 _ _ _ _ _ _ _ hh)
      exact ⟨⟨⟨.rfl, rfl⟩, ⟨⟨.rfl, rfl⟩, ⟨⟨.rfl, rfl⟩, ⟨⟨.rfl, rfl⟩, ⟨⟨.rfl, rfl⟩, ⟨⟨.rfl, rfl⟩, ⟨⟨.rfl, rfl⟩, trivial⟩⟩⟩⟩⟩⟩⟩, ⟨⟨rfl, .refl _, rfl⟩, ⟨⟨rfl, .refl _, rfl⟩, ⟨⟨rfl, .refl _, rfl⟩, trivial⟩⟩⟩, rfl⟩
    refine ex' ?_
    obtain rfl := oi' hh
    exact ⟨_, _, [.row (SyntaxReport.cells o03) 75], rfl, .rfl, ⟨⟨rfl, .refl _, rfl⟩, trivial⟩, rfl, rfl, rfl, rfl⟩
  · intro g3 ih3 l nesting o0 x1 x3 v141 res hh
    obtain ⟨x8, hx8, hh⟩ := bs' hh
    obtain ⟨x9, hx9, hh⟩ := bs' hh
    refine s' rfl rfl (q' rfl (q' rfl (q' rfl (q' rfl (q' rfl (AOps.g [0] rfl (syntax_report_optional_ok hx8) ⟨.rfl, ⟨.rfl, ⟨.rfl, trivial⟩⟩⟩ rfl ⟨rfl, trivial⟩ rfl rfl (n' (sg' 8 rfl (a0' rfl (a0' rfl (a0' rfl (a0' rfl (a0' rfl ?_)))))))))))))
    refine a1' rfl (a1' rfl (po' rfl (an' (AOps.g [0] rfl (syntax_report_form_ok hx9) ⟨.rfl, ⟨.rfl, trivial⟩⟩ rfl ⟨rfl, trivial⟩ rfl rfl (n' (S' (s' rfl rfl (q' rfl (q' rfl (n' ?_))))))))))
    refine ci' rfl hh (fun hh => ?_) (fun hh => ?_)
    · obtain ⟨x10, hx10, hh⟩ := bs' hh
      refine R' rfl rfl (q' rfl (q' rfl (q' rfl (AOps.g [0] rfl (syntax_report_name_ok hx10) ⟨.rfl, ⟨.rfl, trivial⟩⟩ rfl ⟨rfl, trivial⟩ rfl rfl (n' ?_)))))
      refine AEx.wk ?_ (ih3 _ _ _ _ _ _ _ hh)
      exact ⟨⟨⟨.rfl, rfl⟩, ⟨⟨.rfl, rfl⟩, ⟨⟨.rfl, rfl⟩, ⟨⟨.rfl, rfl⟩, ⟨⟨.rfl, rfl⟩, ⟨⟨.rfl, rfl⟩, ⟨⟨.rfl, rfl⟩, trivial⟩⟩⟩⟩⟩⟩⟩, ⟨⟨rfl, .refl _, rfl⟩, ⟨⟨rfl, .refl _, rfl⟩, ⟨⟨rfl, .refl _, rfl⟩, trivial⟩⟩⟩, rfl⟩
    refine sk' ?_
    refine AEx.wk ?_ (ih3 _ _ _ _ _ _ _ hh)
    exact ⟨⟨⟨.rfl, rfl⟩, ⟨⟨.rfl, rfl⟩, ⟨⟨.rfl, rfl⟩, ⟨⟨.rfl, rfl⟩, ⟨⟨.rfl, rfl⟩, ⟨⟨.rfl, rfl⟩, ⟨⟨.rfl, rfl⟩, trivial⟩⟩⟩⟩⟩⟩⟩, ⟨⟨rfl, .refl _, rfl⟩, ⟨⟨rfl, .refl _, rfl⟩, ⟨⟨rfl, .refl _, rfl⟩, trivial⟩⟩⟩, rfl⟩
  · intro g4 ih4 l nesting o01 x1 x3 v142 res hh
    obtain ⟨x11, hx11, hh⟩ := bs' hh
    refine sg' 9 rfl (a0' rfl (a0' rfl (a0' rfl (a0' rfl (a0' rfl (a1' rfl (AG.qe hC rfl (fun hg => ⟨⟨hg, trivial⟩, trivial⟩) (ApiExpr.lenA _) (a1' rfl (po' rfl (an' (AOps.g [0] rfl (syntax_report_form_ok hx11) ⟨.rfl, ⟨.rfl, trivial⟩⟩ rfl ⟨rfl, trivial⟩ rfl rfl (n' (S' ?_)))))))))))))
    refine s' rfl rfl (q' rfl (q' rfl (qe' rfl trivial (ApiExpr.lenA _) (q' rfl (n' (AEx.block ?_))))))
    refine AEx.ofLoop ?_
    refine ALoop.wk ?_ (ih4 _ _ _ _ _ _ _ _ hh)
    exact ⟨⟨⟨.rfl, rfl⟩, ⟨⟨.rfl, rfl⟩, ⟨⟨.rfl, rfl⟩, ⟨⟨.rfl, rfl⟩, ⟨⟨.rfl, rfl⟩, ⟨⟨.rfl, rfl⟩, ⟨⟨.rfl, rfl⟩, ⟨⟨.rfl, rfl⟩, ⟨⟨.rfl, rfl⟩, ⟨⟨.rfl, rfl⟩, trivial⟩⟩⟩⟩⟩⟩⟩⟩⟩⟩, ⟨⟨rfl, .refl _, rfl⟩, ⟨⟨rfl, .refl _, rfl⟩, ⟨⟨rfl, .refl _, rfl⟩, trivial⟩⟩⟩, rfl⟩
  · intro g0 g1 g4 ih0 ih1 ih4 l nesting o02 x1 x3 v143 v84 res hh
    refine ALoop.unroll ?_
    refine s' rfl rfl (q' rfl (n' (S' ?_)))
    refine ci' rfl hh (fun hh => ?_) (fun hh => ?_)
    · obtain ⟨x12, hx12, hh⟩ := bs' hh
      obtain ⟨x13, hx13, hh⟩ := bs' hh
      refine sk' (S' (AEx.block (s' rfl rfl (i' rfl (idx_nat hx12) (ApiExpr.idx hx12) rfl (q' rfl (AOps.nf hC rfl (AOps.s hC rfl (n' (R' rfl rfl (q' rfl (q' rfl (AOps.g [0] rfl (syntax_report_expr_ok hx13) ⟨.rfl, ⟨.rfl, ⟨.rfl, trivial⟩⟩⟩ rfl ⟨rfl, trivial⟩ rfl rfl (n' ?_)))))))))))))
      refine R' rfl rfl (q' rfl (q' rfl (n' ?_)))
      refine ALoop.wk ?_ (ih4 _ _ _ _ _ _ _ _ hh)
      exact ⟨⟨⟨.rfl, rfl⟩, ⟨⟨.rfl, rfl⟩, ⟨⟨.rfl, rfl⟩, ⟨⟨.rfl, rfl⟩, ⟨⟨.rfl, rfl⟩, ⟨⟨.rfl, rfl⟩, ⟨⟨.rfl, rfl⟩, ⟨⟨.rfl, rfl⟩, ⟨⟨.rfl, rfl⟩, ⟨⟨.rfl, rfl⟩, trivial⟩⟩⟩⟩⟩⟩⟩⟩⟩⟩, ⟨⟨rfl, .refl _, rfl⟩, ⟨⟨rfl, .refl _, rfl⟩, ⟨⟨rfl, .refl _, rfl⟩, trivial⟩⟩⟩, rfl⟩
    obtain ⟨x14, hx14, hh⟩ := bs' hh
    obtain ⟨x15, hx15, hh⟩ := bs' hh
    obtain ⟨x16, hx16, hh⟩ := bs' hh
    obtain ⟨x17, hx17, hh⟩ := bs' hh
    obtain ⟨x18, hx18, hh⟩ := bs' hh
    obtain ⟨x19, hx19, hh⟩ := bs' hh
    obtain ⟨x20, hx20, hh⟩ := bs' hh
    obtain ⟨x21, hx21, hh⟩ := bs' hh
    refine ex' (sg' 8 rfl (a0' rfl (a0' rfl (a0' rfl (a0' rfl (a0' rfl (a1' rfl (a1' rfl (po' rfl (an' (AOps.g [0] rfl (syntax_report_form_ok hx14) ⟨.rfl, ⟨.rfl, trivial⟩⟩ rfl ⟨rfl, trivial⟩ rfl rfl (n' (sg' 13 rfl ?_)))))))))))))
    iterate 5 refine a0' rfl ?_
    refine a1' rfl (a1' rfl (a1' rfl (a0' rfl (a1' rfl (a1' rfl (pA' rfl (po' rfl (an' (AOps.g [0] rfl (syntax_report_form_ok hx15) ⟨.rfl, ⟨.rfl, trivial⟩⟩ rfl ⟨rfl, trivial⟩ rfl rfl (n' (sg' 9 rfl (a0' rfl (a0' rfl ?_)))))))))))))
    refine a0' rfl (a0' rfl (a0' rfl (a1' rfl (AG.qe hC rfl (fun hg => ⟨⟨hg, trivial⟩, trivial⟩) (ei64.lenA _) (a1' rfl (po' rfl (an' (AOps.g [0] rfl (syntax_report_form_ok hx16) ⟨.rfl, ⟨.rfl, trivial⟩⟩ rfl ⟨rfl, trivial⟩ rfl rfl (n' (sg' 9 rfl (a0' rfl (a0' rfl (a0' rfl ?_)))))))))))))
    refine a0' rfl (a0' rfl (a1' rfl (AG.qe hC rfl (fun hg => ⟨⟨hg, trivial⟩, trivial⟩) (ApiStmt.lenA _) (a1' rfl (po' rfl (an' (AOps.g [0] rfl (syntax_report_form_ok hx17) ⟨.rfl, ⟨.rfl, trivial⟩⟩ rfl ⟨rfl, trivial⟩ rfl rfl (n' (sg' 9 rfl (a0' rfl (a0' rfl (a0' rfl (a0' rfl ?_)))))))))))))
    refine a0' rfl (a1' rfl (AG.qe hC rfl (fun hg => ⟨⟨hg, trivial⟩, trivial⟩) (ApiStmt.lenA _) (a1' rfl (po' rfl (an' (AOps.g [0] rfl (syntax_report_form_ok hx18) ⟨.rfl, ⟨.rfl, trivial⟩⟩ rfl ⟨rfl, trivial⟩ rfl rfl (n' (s' rfl rfl (q' rfl (q' rfl (AOps.g [0] rfl (syntax_report_numbers_ok hx19) ⟨.rfl, ⟨.rfl, trivial⟩⟩ rfl ⟨rfl, trivial⟩ rfl rfl (n' (s' rfl rfl ?_)))))))))))))
    iterate 5 refine q' rfl ?_
    refine AOps.g [0] rfl (ih0 _ _ _ _ hx20) ⟨.rfl, ⟨.rfl, ⟨.rfl, trivial⟩⟩⟩ rfl ⟨rfl, trivial⟩ rfl rfl (n' (R' rfl rfl (q' rfl (q' rfl (q' rfl (q' rfl (q' rfl (AOps.g [0] rfl (ih0 _ _ _ _ hx21) ⟨.rfl, ⟨.rfl, ⟨.rfl, trivial⟩⟩⟩ rfl ⟨rfl, trivial⟩ rfl rfl (n' (R' rfl rfl (q' rfl (q' rfl (n' ?_)))))))))))))
    refine ALoop.wk ?_ (ih1 _ _ _ _ _ hh)
    exact ⟨⟨⟨.rfl, rfl⟩, ⟨⟨.rfl, rfl⟩, ⟨⟨.rfl, rfl⟩, ⟨⟨.rfl, rfl⟩, ⟨⟨.rfl, rfl⟩, trivial⟩⟩⟩⟩⟩, ⟨⟨rfl, .refl _, rfl⟩, trivial⟩, rfl⟩
theorem syntax_report_stmts_ok {l : List ApiStmt} {nesting : Int} {syntaxReport : SyntaxReport} {res : SyntaxReport} (hh : syntax_report_stmts l nesting syntaxReport = some res) : syntax_report_stmts_m l nesting syntaxReport res := (syntax_report_stmts_grp).1 _ _ _ _ hh
theorem syntax_report_stmts_l1_ok {l : List ApiStmt} {nesting : Int} {o03 : SyntaxReport} {v14 : Int} {res : SyntaxReport} (hh : syntax_report_stmts_l1 l nesting o03 v14 = some res) : syntax_report_stmts_l1_m l nesting o03 v14 res := (syntax_report_stmts_grp).2.1 _ _ _ _ _ hh
theorem syntax_report_stmts_j2_ok {l : List ApiStmt} {nesting : Int} {o0 : SyntaxReport} {x1 : ApiStmt} {x3 : SyntaxUses × Bool} {v141 : Int} {res : SyntaxReport} (hh : syntax_report_stmts_j2 l nesting o0 x1 x3 v141 = some res) : syntax_report_stmts_j2_m l nesting o0 x1 x3 v141 res := (syntax_report_stmts_grp).2.2.1 _ _ _ _ _ _ _ hh
theorem syntax_report_stmts_j3_ok {l : List ApiStmt} {nesting : Int} {o01 : SyntaxReport} {x1 : ApiStmt} {x3 : SyntaxUses × Bool} {v142 : Int} {res : SyntaxReport} (hh : syntax_report_stmts_j3 l nesting o01 x1 x3 v142 = some res) : syntax_report_stmts_j3_m l nesting o01 x1 x3 v142 res := (syntax_report_stmts_grp).2.2.2.1 _ _ _ _ _ _ _ hh
theorem syntax_report_stmts_l4_ok {l : List ApiStmt} {nesting : Int} {o02 : SyntaxReport} {x1 : ApiStmt} {x3 : SyntaxUses × Bool} {v143 : Int} {v84 : Int} {res : SyntaxReport} (hh : syntax_report_stmts_l4 l nesting o02 x1 x3 v143 v84 = some res) : syntax_report_stmts_l4_m l nesting o02 x1 x3 v143 v84 res := (syntax_report_stmts_grp).2.2.2.2 _ _ _ _ _ _ _ _ hh
end Go.Proofs.YtmilgoloagbmpaaGreatDoor

