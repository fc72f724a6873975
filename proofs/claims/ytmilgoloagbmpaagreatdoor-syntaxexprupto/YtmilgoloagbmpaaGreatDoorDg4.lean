/- What the functions compute, and that they do: printed by gen.py. -/
import Derived.Test.YtmilgoloagbmpaaGreatDoorDg3
set_option maxRecDepth 100000
set_option maxHeartbeats 4000000
set_option linter.unusedVariables false
namespace Go.Proofs.YtmilgoloagbmpaaGreatDoor
open Go.Am
def ref09_letter (c : Int) : Option Bool :=
  some (bif (decide (c ≥ 97)) then (decide (c ≤ 122)) else false)
abbrev ref09_letter_m (c : Int) (res : Bool) : Prop := ACall C 164 [.d (.int .u8 c)] [] (fun x H' => H' = [] ∧ x = .d (.bool res))
theorem ref09_letter_ok {c : Int} {res : Bool} (hh : ref09_letter c = some res) : ref09_letter_m c res := by
  unfold ref09_letter at hh
  refine ACall.intro hC Tryz.func164 rfl rfl rfl ?_
  refine s' rfl rfl (q' rfl (n' (sg' 7 rfl (a0' rfl (a0' rfl (a0' rfl (a0' rfl (a1' rfl (pa' rfl (a0' rfl (an' (n' (re' ?_)))))))))))))
  obtain rfl := oi' hh
  exact ⟨_, _, [], rfl, .rfl, trivial, rfl, rfl, rfl, rfl⟩
def ref09_Reserved_l2 (s : Str) (i1 : Int) : Option Bool :=
  if (decide ((IntKind.i64.wrap ((IntKind.i64.wrap (i1 + ((s).length : Int))) + 2)) ≤ 162)) = true then
    slc [32, 116, 121, 112, 101, 32, 115, 101, 99, 114, 101, 116, 32, 112, 117, 98, 108, 105, 99, 32, 114, 97, 110, 100, 111, 109, 32, 118, 97, 114, 32, 104, 97, 116, 99, 104, 32, 102, 117, 110, 99, 32, 114, 101, 116, 117, 114, 110, 32, 98, 101, 103, 105, 110, 32, 101, 110, 100, 32, 98, 111, 111, 108, 32, 105, 110, 116, 32, 97, 114, 114, 97, 121, 32, 111, 102, 32, 114, 101, 99, 111, 114, 100, 32, 116, 114, 117, 101, 32, 102, 97, 108, 115, 101, 32, 99, 97, 108, 108, 32, 114, 101, 108, 101, 97, 115, 101, 32, 111, 117, 116, 112, 117, 116, 32, 119, 97, 105, 116, 32, 105, 102, 32, 101, 108, 115, 101, 32, 119, 104, 105, 108, 101, 32, 108, 105, 109, 105, 116, 32, 102, 111, 114, 32, 116, 111, 32, 115, 101, 116, 116, 108, 101, 32, 109, 105, 110, 32, 109, 97, 120, 32] i1 (IntKind.i64.wrap ((IntKind.i64.wrap (i1 + ((s).length : Int))) + 2)) >>= fun x3 =>
    if (decide (1 + s.length ≤ maxLen)) = true then
      if (decide (([32] ++ s).length + 1 ≤ maxLen)) = true then
        if (x3 == (([32] ++ s) ++ [32])) = true then
          some true
        else
          ref09_Reserved_l2 s (IntKind.i64.wrap (i1 + 1))
      else none
    else none
  else
    some false
  partial_fixpoint
abbrev ref09_Reserved_l2_m (s : Str) (i1 : Int) (res : Bool) : Prop := ALoop (Fx.mk C 38 0) (lo (bk (sr (sl (sr (sr (sr (bodyOf Tryz.f165)))))))) (mkEnv [(0, .d (.str s)), (4, .d (.int .i64 i1))]) [] (Am.InBlock 2 (Am.Then (Fx.mk C 38 0) (sr (sr (sr (sr (bodyOf Tryz.f165))))) (Am.Ends (Fx.mk C 38 0) Tryz.f165.results.toList (fun x H' => H' = [] ∧ x = .d (.bool res)))))
theorem ref09_Reserved_l2_grp (s : Str) : (∀ (i1 : Int) (res : Bool), ref09_Reserved_l2 s i1 = some res → ref09_Reserved_l2_m s i1 res) := by
  refine ref09_Reserved_l2.partial_correctness s
    (fun i1 res => ref09_Reserved_l2_m s i1 res) ?_
  · intro g0 ih0 i1 res hh
    refine ALoop.unroll ?_
    refine S' (s' rfl rfl (q' rfl (q' rfl (q' rfl (q' rfl (q' rfl (q' rfl (n' ?_))))))))
    refine ci' rfl hh (fun hh => ?_) (fun hh => ?_)
    · obtain ⟨x3, hx3, hh⟩ := bs' hh
      obtain ⟨c9, hh⟩ := asrt_some hh
      obtain ⟨c10, hh⟩ := asrt_some hh
      refine sk' (S' (AEx.block (s' rfl rfl (q' rfl (q' rfl (q' rfl (q' rfl (q' rfl (q' rfl (AOps.lx hC rfl hx3 (q' rfl (qc' rfl c9 (qc' rfl c10 ?_)))))))))))))
      refine q' rfl (n' ?_)
      refine ci' rfl hh (fun hh => ?_) (fun hh => ?_)
      · refine s' rfl rfl (q' rfl (n' (re' ?_)))
        obtain rfl := oi' hh
        exact ⟨_, _, [], rfl, .rfl, trivial, rfl, rfl, rfl, rfl⟩
      refine sk' (R' rfl rfl (q' rfl (q' rfl (q' rfl (n' ?_)))))
      refine ALoop.wk ?_ (ih0 _ _ hh)
      exact ⟨⟨⟨.rfl, rfl⟩, ⟨⟨.rfl, rfl⟩, trivial⟩⟩, trivial, rfl⟩
    refine ex' (s' rfl rfl (q' rfl (n' (re' ?_))))
    obtain rfl := oi' hh
    exact ⟨_, _, [], rfl, .rfl, trivial, rfl, rfl, rfl, rfl⟩
theorem ref09_Reserved_l2_ok {s : Str} {i1 : Int} {res : Bool} (hh : ref09_Reserved_l2 s i1 = some res) : ref09_Reserved_l2_m s i1 res := (ref09_Reserved_l2_grp s) _ _ hh
def ref09_Reserved_l1 (s : Str) (i : Int) : Option Bool :=
  if (decide (i < ((s).length : Int))) = true then
    idx s i >>= fun x1 =>
    ref09_letter (x1.toNat : Int) >>= fun x2 =>
    if (!x2) = true then
      some false
    else
      ref09_Reserved_l1 s (IntKind.i64.wrap (i + 1))
  else
    ref09_Reserved_l2 s 0
  partial_fixpoint
abbrev ref09_Reserved_l1_m (s : Str) (i : Int) (res : Bool) : Prop := ALoop (Fx.mk C 38 0) (lo (bk (sr (sl (sr (sr (bodyOf Tryz.f165))))))) (mkEnv [(0, .d (.str s)), (3, .d (.int .i64 i))]) [] (Am.InBlock 0 (Am.Then (Fx.mk C 38 0) (sr (sr (sr (bodyOf Tryz.f165)))) (Am.Ends (Fx.mk C 38 0) Tryz.f165.results.toList (fun x H' => H' = [] ∧ x = .d (.bool res)))))
theorem ref09_Reserved_l1_grp (s : Str) : (∀ (i : Int) (res : Bool), ref09_Reserved_l1 s i = some res → ref09_Reserved_l1_m s i res) := by
  refine ref09_Reserved_l1.partial_correctness s
    (fun i res => ref09_Reserved_l1_m s i res) ?_
  · intro g0 ih0 i res hh
    refine ALoop.unroll ?_
    refine S' (s' rfl rfl (q' rfl (q' rfl (q' rfl (q' rfl (n' ?_))))))
    refine ci' rfl hh (fun hh => ?_) (fun hh => ?_)
    · obtain ⟨x1, hx1, hh⟩ := bs' hh
      obtain ⟨x2, hx2, hh⟩ := bs' hh
      refine sk' (S' (AEx.block (s' rfl rfl (q' rfl (q' rfl (x' rfl (idx_nat hx1) (idx_get hx1) (AOps.c rfl rfl (ref09_letter_ok hx2) (q' rfl (n' ?_)))))))))
      refine ci' rfl hh (fun hh => ?_) (fun hh => ?_)
      · refine s' rfl rfl (q' rfl (n' (re' ?_)))
        obtain rfl := oi' hh
        exact ⟨_, _, [], rfl, .rfl, trivial, rfl, rfl, rfl, rfl⟩
      refine sk' (R' rfl rfl (q' rfl (q' rfl (q' rfl (n' ?_)))))
      refine ALoop.wk ?_ (ih0 _ _ hh)
      exact ⟨⟨⟨.rfl, rfl⟩, ⟨⟨.rfl, rfl⟩, trivial⟩⟩, trivial, rfl⟩
    refine ex' (S' (s' rfl rfl (q' rfl (n' (AEx.block ?_)))))
    refine AEx.ofLoop ?_
    refine ALoop.wk ?_ (ref09_Reserved_l2_ok hh)
    exact ⟨⟨⟨.rfl, rfl⟩, ⟨⟨.rfl, rfl⟩, trivial⟩⟩, trivial, rfl⟩
theorem ref09_Reserved_l1_ok {s : Str} {i : Int} {res : Bool} (hh : ref09_Reserved_l1 s i = some res) : ref09_Reserved_l1_m s i res := (ref09_Reserved_l1_grp s) _ _ hh
def ref09_Reserved (s : Str) : Option Bool :=
  if (((s).length : Int) == 0) = true then
    some false
  else
    ref09_Reserved_l1 s 0
abbrev ref09_Reserved_m (s : Str) (res : Bool) : Prop := ACall C 165 [.d (.str s)] [] (fun x H' => H' = [] ∧ x = .d (.bool res))
theorem ref09_Reserved_ok {s : Str} {res : Bool} (hh : ref09_Reserved s = some res) : ref09_Reserved_m s res := by
  unfold ref09_Reserved at hh
  refine ACall.intro hC Tryz.func165 rfl rfl rfl ?_
  refine s' rfl rfl (q' rfl (n' (S' (s' rfl rfl (q' rfl (q' rfl (q' rfl (n' ?_))))))))
  refine ci' rfl hh (fun hh => ?_) (fun hh => ?_)
  · refine s' rfl rfl (q' rfl (n' (re' ?_)))
    obtain rfl := oi' hh
    exact ⟨_, _, [], rfl, .rfl, trivial, rfl, rfl, rfl, rfl⟩
  refine sk' (S' (s' rfl rfl (q' rfl (n' (AEx.block ?_)))))
  refine AEx.ofLoop ?_
  refine ALoop.wk ?_ (ref09_Reserved_l1_ok hh)
  exact ⟨⟨⟨.rfl, rfl⟩, ⟨⟨.rfl, rfl⟩, trivial⟩⟩, trivial, rfl⟩
def ref09_digit (c : Int) : Option Bool :=
  some (bif (decide (c ≥ 48)) then (decide (c ≤ 57)) else false)
abbrev ref09_digit_m (c : Int) (res : Bool) : Prop := ACall C 185 [.d (.int .u8 c)] [] (fun x H' => H' = [] ∧ x = .d (.bool res))
theorem ref09_digit_ok {c : Int} {res : Bool} (hh : ref09_digit c = some res) : ref09_digit_m c res := by
  unfold ref09_digit at hh
  refine ACall.intro hC Tryz.func185 rfl rfl rfl ?_
  refine s' rfl rfl (q' rfl (n' (sg' 7 rfl (a0' rfl (a0' rfl (a0' rfl (a0' rfl (a1' rfl (pa' rfl (a0' rfl (an' (n' (re' ?_)))))))))))))
  obtain rfl := oi' hh
  exact ⟨_, _, [], rfl, .rfl, trivial, rfl, rfl, rfl, rfl⟩
def ref09_run_l1 (s : Str) (atV1 : Int) : Option Int :=
  (if (decide (atV1 < ((s).length : Int))) = true then idx s atV1 else some default) >>= fun x1 =>
  (if (decide (atV1 < ((s).length : Int))) = true then ref09_letter (x1.toNat : Int) else some default) >>= fun x2 =>
  (if ((decide (atV1 < ((s).length : Int))) && (!x2)) = true then idx s atV1 else some default) >>= fun x3 =>
  (if ((decide (atV1 < ((s).length : Int))) && (!x2)) = true then ref09_digit (x3.toNat : Int) else some default) >>= fun x4 =>
  if (bif (decide (atV1 < ((s).length : Int))) then (bif x2 then true else x4) else false) = true then
    ref09_run_l1 s (IntKind.i64.wrap (atV1 + 1))
  else
    some atV1
  partial_fixpoint
abbrev ref09_run_l1_m (s : Str) (atV1 : Int) (res : Int) : Prop := ALoop (Fx.mk C 24 0) (lo (bk (sl (sr (bodyOf Tryz.f166))))) (mkEnv [(0, .d (.str s)), (1, .d (.int .i64 atV1))]) [] (Am.InBlock 0 (Am.Then (Fx.mk C 24 0) (sr (sr (bodyOf Tryz.f166))) (Am.Ends (Fx.mk C 24 0) Tryz.f166.results.toList (fun x H' => H' = [] ∧ x = .d (.int .i64 res)))))
theorem ref09_run_l1_grp (s : Str) : (∀ (atV1 : Int) (res : Int), ref09_run_l1 s atV1 = some res → ref09_run_l1_m s atV1 res) := by
  refine ref09_run_l1.partial_correctness s
    (fun atV1 res => ref09_run_l1_m s atV1 res) ?_
  · intro g0 ih0 atV1 res hh
    refine ALoop.unroll ?_
    obtain ⟨x1, hx1, hh⟩ := bs' hh
    obtain ⟨x2, hx2, hh⟩ := bs' hh
    obtain ⟨x3, hx3, hh⟩ := bs' hh
    obtain ⟨x4, hx4, hh⟩ := bs' hh
    refine S' (sg' 16 rfl (a0' rfl (a0' rfl (a0' rfl (a0' rfl (a0' rfl (a0' rfl (a0' rfl (AG.x hC rfl rfl (fun hg => ⟨hg, hg, trivial⟩) (fun hw => ⟨idx_nat (if_t hw hx1), idx_get (if_t hw hx1)⟩) (AG.c rfl rfl (fun hg => ⟨hg, trivial⟩) (fun hw => ref09_letter_ok (if_t hw hx2)) (a1' rfl (a0' rfl (a0' rfl ?_)))))))))))))
    refine AG.x hC rfl rfl (fun hg => ⟨hg, hg, trivial⟩) (fun hw => ⟨idx_nat (if_t hw hx3), idx_get (if_t hw hx3)⟩) (AG.c rfl rfl (fun hg => ⟨hg, trivial⟩) (fun hw => ref09_digit_ok (if_t hw hx4)) (pO' rfl (pa' rfl (an' (n' ?_)))))
    refine ci' rfl hh (fun hh => ?_) (fun hh => ?_)
    · refine sk' (AEx.block (R' rfl rfl (q' rfl (q' rfl (q' rfl (n' ?_))))))
      refine ALoop.wk ?_ (ih0 _ _ hh)
      exact ⟨⟨⟨.rfl, rfl⟩, ⟨⟨.rfl, rfl⟩, trivial⟩⟩, trivial, rfl⟩
    refine ex' (s' rfl rfl (q' rfl (q' rfl (n' (re' ?_)))))
    obtain rfl := oi' hh
    exact ⟨_, _, [], rfl, .rfl, trivial, rfl, rfl, rfl, rfl⟩
theorem ref09_run_l1_ok {s : Str} {atV1 : Int} {res : Int} (hh : ref09_run_l1 s atV1 = some res) : ref09_run_l1_m s atV1 res := (ref09_run_l1_grp s) _ _ hh
def ref09_run (s : Str) (atV : Int) : Option Int :=
  ref09_run_l1 s atV
abbrev ref09_run_m (s : Str) (atV : Int) (res : Int) : Prop := ACall C 166 [.d (.str s), .d (.int .i64 atV)] [] (fun x H' => H' = [] ∧ x = .d (.int .i64 res))
theorem ref09_run_ok {s : Str} {atV : Int} {res : Int} (hh : ref09_run s atV = some res) : ref09_run_m s atV res := by
  unfold ref09_run at hh
  refine ACall.intro hC Tryz.func166 rfl rfl rfl ?_
  refine s' rfl rfl (q' rfl (n' (S' (AEx.block ?_))))
  refine AEx.ofLoop ?_
  refine ALoop.wk ?_ (ref09_run_l1_ok hh)
  exact ⟨⟨⟨.rfl, rfl⟩, ⟨⟨.rfl, rfl⟩, trivial⟩⟩, trivial, rfl⟩
def ref09_IsName (s : Str) : Option Bool :=
  (if (!(bif (decide (((s).length : Int) < 1)) then true else (decide (((s).length : Int) > 12)))) = true then idx s 0 else some default) >>= fun x1 =>
  (if (!(bif (decide (((s).length : Int) < 1)) then true else (decide (((s).length : Int) > 12)))) = true then ref09_letter (x1.toNat : Int) else some default) >>= fun x2 =>
  (if (!(bif (bif (decide (((s).length : Int) < 1)) then true else (decide (((s).length : Int) > 12))) then true else (!x2))) = true then ref09_Reserved s else some default) >>= fun x3 =>
  if (bif (bif (bif (decide (((s).length : Int) < 1)) then true else (decide (((s).length : Int) > 12))) then true else (!x2)) then true else x3) = true then
    some false
  else
    ref09_run s 0 >>= fun x4 =>
    some (x4 == ((s).length : Int))
abbrev ref09_IsName_m (s : Str) (res : Bool) : Prop := ACall C 137 [.d (.str s)] [] (fun x H' => H' = [] ∧ x = .d (.bool res))
theorem ref09_IsName_ok {s : Str} {res : Bool} (hh : ref09_IsName s = some res) : ref09_IsName_m s res := by
  unfold ref09_IsName at hh
  refine ACall.intro hC Tryz.func137 rfl rfl rfl ?_
  obtain ⟨x1, hx1, hh⟩ := bs' hh
  obtain ⟨x2, hx2, hh⟩ := bs' hh
  obtain ⟨x3, hx3, hh⟩ := bs' hh
  refine s' rfl rfl (q' rfl (n' (S' (sg' 18 rfl (a0' rfl (a0' rfl (a0' rfl (a0' rfl (a0' rfl (a1' rfl (a1' rfl (po' rfl (a0' rfl ?_)))))))))))))
  refine a0' rfl (AG.x hC rfl rfl (fun hg => ⟨hg, trivial⟩) (fun hw => ⟨idx_nat (if_t hw hx1), idx_get (if_t hw hx1)⟩) (AG.c rfl rfl (fun hg => ⟨hg, trivial⟩) (fun hw => ref09_letter_ok (if_t hw hx2)) (a1' rfl (po' rfl (a0' rfl (a0' rfl (AG.c rfl rfl (fun hg => ⟨hg, trivial⟩) (fun hw => ref09_Reserved_ok (if_t hw hx3)) (po' rfl (an' (n' ?_))))))))))
  refine ci' rfl hh (fun hh => ?_) (fun hh => ?_)
  · refine s' rfl rfl (q' rfl (n' (re' ?_)))
    obtain rfl := oi' hh
    exact ⟨_, _, [], rfl, .rfl, trivial, rfl, rfl, rfl, rfl⟩
  obtain ⟨x4, hx4, hh⟩ := bs' hh
  refine sk' (s' rfl rfl (q' rfl (AOps.c rfl rfl (ref09_run_ok hx4) (q' rfl (q' rfl (q' rfl (q' rfl (n' (re' ?_)))))))))
  obtain rfl := oi' hh
  exact ⟨_, _, [], rfl, .rfl, trivial, rfl, rfl, rfl, rfl⟩
def ref10_IsName (s : Str) : Option Bool :=
  ref09_IsName s >>= fun x1 =>
  some x1
abbrev ref10_IsName_m (s : Str) (res : Bool) : Prop := ACall C 75 [.d (.str s)] [] (fun x H' => H' = [] ∧ x = .d (.bool res))
theorem ref10_IsName_ok {s : Str} {res : Bool} (hh : ref10_IsName s = some res) : ref10_IsName_m s res := by
  unfold ref10_IsName at hh
  refine ACall.intro hC Tryz.func75 rfl rfl rfl ?_
  obtain ⟨x1, hx1, hh⟩ := bs' hh
  refine s' rfl rfl (q' rfl (n' (s' rfl rfl (q' rfl (AOps.c rfl rfl (ref09_IsName_ok hx1) (q' rfl (n' (re' ?_))))))))
  obtain rfl := oi' hh
  exact ⟨_, _, [], rfl, .rfl, trivial, rfl, rfl, rfl, rfl⟩
mutual
def ref10_exprNames (e : ApiExpr) : Option Bool :=
  (if (bif (e.Op == 3) then true else (e.Op == 4)) = true then ref10_IsName e.Name else some default) >>= fun x1 =>
  if (bif (bif (e.Op == 3) then true else (e.Op == 4)) then (!x1) else false) = true then
    some false
  else
    ref10_exprNames_l1 e 0
  partial_fixpoint
def ref10_exprNames_l1 (e : ApiExpr) (i : Int) : Option Bool :=
  if (decide (i < ((e.Kids).length : Int))) = true then
    idx e.Kids i >>= fun x2 =>
    ref10_exprNames x2 >>= fun x3 =>
    if (!x3) = true then
      some false
    else
      ref10_exprNames_l1 e (IntKind.i64.wrap (i + 1))
  else
    some true
  partial_fixpoint
end
abbrev ref10_exprNames_m (e : ApiExpr) (res : Bool) : Prop := ACall C 51 [.agg (ApiExpr.cells e)] [] (fun x H' => H' = [] ∧ x = .d (.bool res))
abbrev ref10_exprNames_l1_m (e : ApiExpr) (i : Int) (res : Bool) : Prop := ALoop (Fx.mk C 32 0) (lo (bk (sr (sl (sr (sr (bodyOf Tryz.f51))))))) (mkEnv [(1, .ref 0 0), (3, .d (.int .i64 i))]) [.row (ApiExpr.cells e) 36] (Am.InBlock 0 (Am.Then (Fx.mk C 32 0) (sr (sr (sr (bodyOf Tryz.f51)))) (Am.Ends (Fx.mk C 32 0) Tryz.f51.results.toList (fun x H' => H' = [] ∧ x = .d (.bool res)))))
theorem ref10_exprNames_grp : (∀ (e : ApiExpr) (res : Bool), ref10_exprNames e = some res → ref10_exprNames_m e res) ∧
    (∀ (e : ApiExpr) (i : Int) (res : Bool), ref10_exprNames_l1 e i = some res → ref10_exprNames_l1_m e i res) := by
  refine ref10_exprNames.mutual_partial_correctness (fun e res => ref10_exprNames_m e res)
    (fun e i res => ref10_exprNames_l1_m e i res) ?_ ?_
  · intro g1 ih1 e res hh
    refine ACall.intro hC Tryz.func51 rfl rfl rfl ?_
    obtain ⟨x1, hx1, hh⟩ := bs' hh
    refine s' rfl rfl (AOps.n hC rfl (q' rfl (n' (S' (sg' 14 rfl (a0' rfl (a0' rfl (a0' rfl (a0' rfl (a0' rfl (a1' rfl (a1' rfl (po' rfl ?_)))))))))))))
    refine a0' rfl (a0' rfl (a1' rfl (AG.c rfl rfl (fun hg => ⟨hg, trivial⟩) (fun hw => ref10_IsName_ok (if_t hw hx1)) (a1' rfl (pa' rfl (an' (n' ?_)))))))
    refine ci' rfl hh (fun hh => ?_) (fun hh => ?_)
    · refine s' rfl rfl (q' rfl (n' (re' ?_)))
      obtain rfl := oi' hh
      exact ⟨_, _, [], rfl, .rfl, trivial, rfl, rfl, rfl, rfl⟩
    refine sk' (S' (s' rfl rfl (q' rfl (n' (AEx.block ?_)))))
    refine AEx.ofLoop ?_
    refine ALoop.wk ?_ (ih1 _ _ _ hh)
    exact ⟨⟨⟨.rfl, rfl⟩, ⟨⟨.rfl, rfl⟩, trivial⟩⟩, ⟨⟨rfl, .refl _, rfl⟩, trivial⟩, rfl⟩
  · intro g0 g1 ih0 ih1 e i res hh
    refine ALoop.unroll ?_
    refine S' (s' rfl rfl (q' rfl (q' rfl (q' rfl (qe' rfl trivial (ApiExpr.lenA _) (q' rfl (n' ?_)))))))
    refine ci' rfl hh (fun hh => ?_) (fun hh => ?_)
    · obtain ⟨x2, hx2, hh⟩ := bs' hh
      obtain ⟨x3, hx3, hh⟩ := bs' hh
      refine sk' (S' (AEx.block (s' rfl rfl (q' rfl (q' rfl (q' rfl (i' rfl (idx_nat hx2) (ApiExpr.idx hx2) rfl (q' rfl (AOps.c rfl rfl (ih0 _ _ hx3) (q' rfl (n' ?_)))))))))))
      refine ci' rfl hh (fun hh => ?_) (fun hh => ?_)
      · refine s' rfl rfl (q' rfl (n' (re' ?_)))
        obtain rfl := oi' hh
        exact ⟨_, _, [], rfl, .rfl, trivial, rfl, rfl, rfl, rfl⟩
      refine sk' (R' rfl rfl (q' rfl (q' rfl (q' rfl (n' ?_)))))
      refine ALoop.wk ?_ (ih1 _ _ _ hh)
      exact ⟨⟨⟨.rfl, rfl⟩, ⟨⟨.rfl, rfl⟩, trivial⟩⟩, ⟨⟨rfl, .refl _, rfl⟩, trivial⟩, rfl⟩
    refine ex' (s' rfl rfl (q' rfl (n' (re' ?_))))
    obtain rfl := oi' hh
    exact ⟨_, _, [], rfl, .rfl, trivial, rfl, rfl, rfl, rfl⟩
theorem ref10_exprNames_ok {e : ApiExpr} {res : Bool} (hh : ref10_exprNames e = some res) : ref10_exprNames_m e res := (ref10_exprNames_grp).1 _ _ hh
theorem ref10_exprNames_l1_ok {e : ApiExpr} {i : Int} {res : Bool} (hh : ref10_exprNames_l1 e i = some res) : ref10_exprNames_l1_m e i res := (ref10_exprNames_grp).2 _ _ _ hh
mutual
def ref10_exprNumbers (e : ApiExpr) : Option Bool :=
  if (bif (e.Op == 0) then (bif (decide (e.NV < 0)) then true else (decide (e.NV > 1048576))) else false) = true then
    some false
  else
    ref10_exprNumbers_l1 e 0
  partial_fixpoint
def ref10_exprNumbers_l1 (e : ApiExpr) (i : Int) : Option Bool :=
  if (decide (i < ((e.Kids).length : Int))) = true then
    idx e.Kids i >>= fun x1 =>
    ref10_exprNumbers x1 >>= fun x2 =>
    if (!x2) = true then
      some false
    else
      ref10_exprNumbers_l1 e (IntKind.i64.wrap (i + 1))
  else
    some true
  partial_fixpoint
end
abbrev ref10_exprNumbers_m (e : ApiExpr) (res : Bool) : Prop := ACall C 52 [.agg (ApiExpr.cells e)] [] (fun x H' => H' = [] ∧ x = .d (.bool res))
abbrev ref10_exprNumbers_l1_m (e : ApiExpr) (i : Int) (res : Bool) : Prop := ALoop (Fx.mk C 31 0) (lo (bk (sr (sl (sr (sr (bodyOf Tryz.f52))))))) (mkEnv [(1, .ref 0 0), (3, .d (.int .i64 i))]) [.row (ApiExpr.cells e) 36] (Am.InBlock 0 (Am.Then (Fx.mk C 31 0) (sr (sr (sr (bodyOf Tryz.f52)))) (Am.Ends (Fx.mk C 31 0) Tryz.f52.results.toList (fun x H' => H' = [] ∧ x = .d (.bool res)))))
theorem ref10_exprNumbers_grp : (∀ (e : ApiExpr) (res : Bool), ref10_exprNumbers e = some res → ref10_exprNumbers_m e res) ∧
    (∀ (e : ApiExpr) (i : Int) (res : Bool), ref10_exprNumbers_l1 e i = some res → ref10_exprNumbers_l1_m e i res) := by
  refine ref10_exprNumbers.mutual_partial_correctness (fun e res => ref10_exprNumbers_m e res)
    (fun e i res => ref10_exprNumbers_l1_m e i res) ?_ ?_
  · intro g1 ih1 e res hh
    refine ACall.intro hC Tryz.func52 rfl rfl rfl ?_
    refine s' rfl rfl (AOps.n hC rfl (q' rfl (n' (S' (sg' 13 rfl (a0' rfl (a0' rfl (a0' rfl (a0' rfl (a0' rfl (a1' rfl (a1' rfl (a1' rfl ?_)))))))))))))
    refine a0' rfl (a1' rfl (a1' rfl (pO' rfl (pa' rfl (an' (n' ?_))))))
    refine ci' rfl hh (fun hh => ?_) (fun hh => ?_)
    · refine s' rfl rfl (q' rfl (n' (re' ?_)))
      obtain rfl := oi' hh
      exact ⟨_, _, [], rfl, .rfl, trivial, rfl, rfl, rfl, rfl⟩
    refine sk' (S' (s' rfl rfl (q' rfl (n' (AEx.block ?_)))))
    refine AEx.ofLoop ?_
    refine ALoop.wk ?_ (ih1 _ _ _ hh)
    exact ⟨⟨⟨.rfl, rfl⟩, ⟨⟨.rfl, rfl⟩, trivial⟩⟩, ⟨⟨rfl, .refl _, rfl⟩, trivial⟩, rfl⟩
  · intro g0 g1 ih0 ih1 e i res hh
    refine ALoop.unroll ?_
    refine S' (s' rfl rfl (q' rfl (q' rfl (q' rfl (qe' rfl trivial (ApiExpr.lenA _) (q' rfl (n' ?_)))))))
    refine ci' rfl hh (fun hh => ?_) (fun hh => ?_)
    · obtain ⟨x1, hx1, hh⟩ := bs' hh
      obtain ⟨x2, hx2, hh⟩ := bs' hh
      refine sk' (S' (AEx.block (s' rfl rfl (q' rfl (q' rfl (q' rfl (i' rfl (idx_nat hx1) (ApiExpr.idx hx1) rfl (q' rfl (AOps.c rfl rfl (ih0 _ _ hx2) (q' rfl (n' ?_)))))))))))
      refine ci' rfl hh (fun hh => ?_) (fun hh => ?_)
      · refine s' rfl rfl (q' rfl (n' (re' ?_)))
        obtain rfl := oi' hh
        exact ⟨_, _, [], rfl, .rfl, trivial, rfl, rfl, rfl, rfl⟩
      refine sk' (R' rfl rfl (q' rfl (q' rfl (q' rfl (n' ?_)))))
      refine ALoop.wk ?_ (ih1 _ _ _ hh)
      exact ⟨⟨⟨.rfl, rfl⟩, ⟨⟨.rfl, rfl⟩, trivial⟩⟩, ⟨⟨rfl, .refl _, rfl⟩, trivial⟩, rfl⟩
    refine ex' (s' rfl rfl (q' rfl (n' (re' ?_))))
    obtain rfl := oi' hh
    exact ⟨_, _, [], rfl, .rfl, trivial, rfl, rfl, rfl, rfl⟩
theorem ref10_exprNumbers_ok {e : ApiExpr} {res : Bool} (hh : ref10_exprNumbers e = some res) : ref10_exprNumbers_m e res := (ref10_exprNumbers_grp).1 _ _ hh
theorem ref10_exprNumbers_l1_ok {e : ApiExpr} {i : Int} {res : Bool} (hh : ref10_exprNumbers_l1 e i = some res) : ref10_exprNumbers_l1_m e i res := (ref10_exprNumbers_grp).2 _ _ _ hh
def ref10_verdict (s : Keyholeref10Size) (form : Bool) (names : Bool) (numbers : Bool) : Option Int :=
  if (bif (decide (s.nodes > 1024)) then true else (decide (s.depth > 12))) = true then
    some 4
  else
    if (!form) = true then
      some 1
    else
      if (!names) = true then
        some 7
      else
        if (!numbers) = true then
          some 3
        else
          some 0
abbrev ref10_verdict_m (s : Keyholeref10Size) (form : Bool) (names : Bool) (numbers : Bool) (res : Int) : Prop := ACall C 48 [.agg (Keyholeref10Size.cells s), .d (.bool form), .d (.bool names), .d (.bool numbers)] [] (fun x H' => H' = [] ∧ x = .d (.int .i64 res))
theorem ref10_verdict_ok {s : Keyholeref10Size} {form : Bool} {names : Bool} {numbers : Bool} {res : Int} (hh : ref10_verdict s form names numbers = some res) : ref10_verdict_m s form names numbers res := by
  unfold ref10_verdict at hh
  refine ACall.intro hC Tryz.func48 rfl rfl rfl ?_
  refine s' rfl rfl (AOps.n hC rfl (q' rfl (n' (S' (sg' 8 rfl (a0' rfl (a0' rfl (a0' rfl (a0' rfl (a0' rfl (a1' rfl (a1' rfl (po' rfl ?_)))))))))))))
  refine an' (n' ?_)
  refine ci' rfl hh (fun hh => ?_) (fun hh => ?_)
  · refine s' rfl rfl (q' rfl (n' (re' ?_)))
    obtain rfl := oi' hh
    exact ⟨_, _, [], rfl, .rfl, trivial, rfl, rfl, rfl, rfl⟩
  refine sk' (S' (s' rfl rfl (q' rfl (q' rfl (n' ?_)))))
  refine ci' rfl hh (fun hh => ?_) (fun hh => ?_)
  · refine s' rfl rfl (q' rfl (n' (re' ?_)))
    obtain rfl := oi' hh
    exact ⟨_, _, [], rfl, .rfl, trivial, rfl, rfl, rfl, rfl⟩
  refine sk' (S' (s' rfl rfl (q' rfl (q' rfl (n' ?_)))))
  refine ci' rfl hh (fun hh => ?_) (fun hh => ?_)
  · refine s' rfl rfl (q' rfl (n' (re' ?_)))
    obtain rfl := oi' hh
    exact ⟨_, _, [], rfl, .rfl, trivial, rfl, rfl, rfl, rfl⟩
  refine sk' (S' (s' rfl rfl (q' rfl (q' rfl (n' ?_)))))
  refine ci' rfl hh (fun hh => ?_) (fun hh => ?_)
  · refine s' rfl rfl (q' rfl (n' (re' ?_)))
    obtain rfl := oi' hh
    exact ⟨_, _, [], rfl, .rfl, trivial, rfl, rfl, rfl, rfl⟩
  refine sk' (s' rfl rfl (q' rfl (n' (re' ?_))))
  obtain rfl := oi' hh
  exact ⟨_, _, [], rfl, .rfl, trivial, rfl, rfl, rfl, rfl⟩
def ref10_FewExpr (e : ApiExpr) (most : Int) : Option Bool :=
  ref10_exprLeft e most >>= fun x1 =>
  some (decide (x1 ≥ 0))
abbrev ref10_FewExpr_m (e : ApiExpr) (most : Int) (res : Bool) : Prop := ACall C 15 [.agg (ApiExpr.cells e), .d (.int .i64 most)] [] (fun x H' => H' = [] ∧ x = .d (.bool res))
theorem ref10_FewExpr_ok {e : ApiExpr} {most : Int} {res : Bool} (hh : ref10_FewExpr e most = some res) : ref10_FewExpr_m e most res := by
  unfold ref10_FewExpr at hh
  refine ACall.intro hC Tryz.func15 rfl rfl rfl ?_
  obtain ⟨x1, hx1, hh⟩ := bs' hh
  refine s' rfl rfl (AOps.n hC rfl (q' rfl (n' (s' rfl rfl (q' rfl (q' rfl (AOps.c rfl rfl (ref10_exprLeft_ok hx1) (q' rfl (q' rfl (n' (re' ?_)))))))))))
  obtain rfl := oi' hh
  exact ⟨_, _, [], rfl, .rfl, trivial, rfl, rfl, rfl, rfl⟩
def ref10_CheckExpr (e : ApiExpr) : Option Int :=
  ref10_addExpr (Keyholeref10Size.mk 0 0) e true >>= fun x1 =>
  ref10_exprForm e >>= fun x2 =>
  ref10_exprNames e >>= fun x3 =>
  ref10_exprNumbers e >>= fun x4 =>
  ref10_verdict x1 x2 x3 x4 >>= fun x5 =>
  some x5
abbrev ref10_CheckExpr_m (e : ApiExpr) (res : Int) : Prop := ACall C 19 [.agg (ApiExpr.cells e)] [] (fun x H' => H' = [] ∧ x = .d (.int .i64 res))
theorem ref10_CheckExpr_ok {e : ApiExpr} {res : Int} (hh : ref10_CheckExpr e = some res) : ref10_CheckExpr_m e res := by
  unfold ref10_CheckExpr at hh
  refine ACall.intro hC Tryz.func19 rfl rfl rfl ?_
  obtain ⟨x1, hx1, hh⟩ := bs' hh
  obtain ⟨x2, hx2, hh⟩ := bs' hh
  obtain ⟨x3, hx3, hh⟩ := bs' hh
  obtain ⟨x4, hx4, hh⟩ := bs' hh
  obtain ⟨x5, hx5, hh⟩ := bs' hh
  refine s' rfl rfl (AOps.n hC rfl (q' rfl (n' (S' (AEx.draw hC 11 rfl rfl rfl (Q' rfl (Q' rfl (AQ.c rfl rfl (ref10_addExpr_ok hx1) (Q' rfl (AQ.c rfl rfl (ref10_exprForm_ok hx2) (Q' rfl (AQ.c rfl rfl (ref10_exprNames_ok hx3) (Q' rfl ?_)))))))))))))
  refine AQ.c rfl rfl (ref10_exprNumbers_ok hx4) (AQ.c rfl rfl (ref10_verdict_ok hx5) (Q' rfl (Qn' (n' (re' ?_)))))
  obtain rfl := oi' hh
  exact ⟨_, _, [], rfl, .rfl, trivial, rfl, rfl, rfl, rfl⟩
def ref10_Number (n : Int) : Option Str :=
  if (decide (n < 0)) = true then
    ref10_Number (IntKind.i64.wrap (0 - n)) >>= fun x1 =>
    if (decide (1 + x1.length ≤ maxLen)) = true then
      some ([45] ++ x1)
    else none
  else
    if (decide (n < 10)) = true then
      some (byteStr [(IntKind.u8.wrap (IntKind.i64.wrap (48 + (Int.tmod n 10))))])
    else
      ref10_Number (IntKind.i64.wrap (Int.tdiv n 10)) >>= fun x2 =>
      if (decide (x2.length + (byteStr [(IntKind.u8.wrap (IntKind.i64.wrap (48 + (Int.tmod n 10))))]).length ≤ maxLen)) = true then
        some (x2 ++ (byteStr [(IntKind.u8.wrap (IntKind.i64.wrap (48 + (Int.tmod n 10))))]))
      else none
  partial_fixpoint
abbrev ref10_Number_m (n : Int) (res : Str) : Prop := ACall C 96 [.d (.int .i64 n)] [] (fun x H' => H' = [] ∧ x = .d (.str res))
theorem ref10_Number_grp : (∀ (n : Int) (res : Str), ref10_Number n = some res → ref10_Number_m n res) := by
  refine ref10_Number.partial_correctness (fun n res => ref10_Number_m n res) ?_
  · intro g0 ih0 n res hh
    refine ACall.intro hC Tryz.func96 rfl rfl rfl ?_
    refine s' rfl rfl (q' rfl (n' (S' (s' rfl rfl (q' rfl (q' rfl (n' ?_)))))))
    refine ci' rfl hh (fun hh => ?_) (fun hh => ?_)
    · obtain ⟨x1, hx1, hh⟩ := bs' hh
      obtain ⟨c5, hh⟩ := asrt_some hh
      refine s' rfl rfl (q' rfl (q' rfl (AOps.c rfl rfl (ih0 _ _ hx1) (qc' rfl c5 (q' rfl (n' (re' ?_)))))))
      obtain rfl := oi' hh
      exact ⟨_, _, [], rfl, .rfl, trivial, rfl, rfl, rfl, rfl⟩
    refine sk' (s' rfl rfl (q' rfl (qc' rfl (by decide) (q' rfl (q' rfl (AOps.be hC rfl (eu8.rows_map [(IntKind.u8.wrap (IntKind.i64.wrap (48 + (Int.tmod n 10))))]).symm (AOps.cs hC rfl (xs := [(IntKind.u8.wrap (IntKind.i64.wrap (48 + (Int.tmod n 10))))]) rfl (q' rfl (n' (S' (s' rfl rfl (q' rfl (q' rfl ?_)))))))))))))
    refine n' ?_
    refine ci' rfl hh (fun hh => ?_) (fun hh => ?_)
    · refine s' rfl rfl (q' rfl (q' rfl (n' (re' ?_))))
      obtain rfl := oi' hh
      exact ⟨_, _, [], rfl, .rfl, trivial, rfl, rfl, rfl, rfl⟩
    obtain ⟨x2, hx2, hh⟩ := bs' hh
    obtain ⟨c6, hh⟩ := asrt_some hh
    refine sk' (s' rfl rfl (q' rfl (qc' rfl (by decide) (AOps.c rfl rfl (ih0 _ _ hx2) (q' rfl (qc' rfl c6 (q' rfl (n' (re' ?_)))))))))
    obtain rfl := oi' hh
    exact ⟨_, _, [], rfl, .rfl, trivial, rfl, rfl, rfl, rfl⟩
theorem ref10_Number_ok {n : Int} {res : Str} (hh : ref10_Number n = some res) : ref10_Number_m n res := (ref10_Number_grp) _ _ hh
def ref10_level (o : Int) : Option Int :=
  if (o == 23) = true then
    some 0
  else
    if (o == 20) = true then
      some 1
    else
      if (o == 19) = true then
        some 2
      else
        if (bif (decide (o ≥ 13)) then (decide (o ≤ 18)) else false) = true then
          some 3
        else
          if (bif (o == 8) then true else (o == 9)) = true then
            some 4
          else
            if (bif (bif (o == 10) then true else (o == 11)) then true else (o == 12)) = true then
              some 5
            else
              if (bif (o == 6) then true else (o == 7)) = true then
                some 6
              else
                some 7
abbrev ref10_level_m (o : Int) (res : Int) : Prop := ACall C 98 [.d (.int .i64 o)] [] (fun x H' => H' = [] ∧ x = .d (.int .i64 res))
theorem ref10_level_ok {o : Int} {res : Int} (hh : ref10_level o = some res) : ref10_level_m o res := by
  unfold ref10_level at hh
  refine ACall.intro hC Tryz.func98 rfl rfl rfl ?_
  refine s' rfl rfl (q' rfl (n' (S' (s' rfl rfl (q' rfl (q' rfl (n' ?_)))))))
  refine ci' rfl hh (fun hh => ?_) (fun hh => ?_)
  · refine s' rfl rfl (q' rfl (n' (re' ?_)))
    obtain rfl := oi' hh
    exact ⟨_, _, [], rfl, .rfl, trivial, rfl, rfl, rfl, rfl⟩
  refine sk' (S' (s' rfl rfl (q' rfl (q' rfl (n' ?_)))))
  refine ci' rfl hh (fun hh => ?_) (fun hh => ?_)
  · refine s' rfl rfl (q' rfl (n' (re' ?_)))
    obtain rfl := oi' hh
    exact ⟨_, _, [], rfl, .rfl, trivial, rfl, rfl, rfl, rfl⟩
  refine sk' (S' (s' rfl rfl (q' rfl (q' rfl (n' ?_)))))
  refine ci' rfl hh (fun hh => ?_) (fun hh => ?_)
  · refine s' rfl rfl (q' rfl (n' (re' ?_)))
    obtain rfl := oi' hh
    exact ⟨_, _, [], rfl, .rfl, trivial, rfl, rfl, rfl, rfl⟩
  refine sk' (S' (sg' 6 rfl (a0' rfl (a0' rfl (a0' rfl (a0' rfl (a1' rfl (pa' rfl (an' (n' ?_))))))))))
  refine ci' rfl hh (fun hh => ?_) (fun hh => ?_)
  · refine s' rfl rfl (q' rfl (n' (re' ?_)))
    obtain rfl := oi' hh
    exact ⟨_, _, [], rfl, .rfl, trivial, rfl, rfl, rfl, rfl⟩
  refine sk' (S' (sg' 6 rfl (a0' rfl (a0' rfl (a0' rfl (a0' rfl (a1' rfl (po' rfl (an' (n' ?_))))))))))
  refine ci' rfl hh (fun hh => ?_) (fun hh => ?_)
  · refine s' rfl rfl (q' rfl (n' (re' ?_)))
    obtain rfl := oi' hh
    exact ⟨_, _, [], rfl, .rfl, trivial, rfl, rfl, rfl, rfl⟩
  refine sk' (S' (sg' 10 rfl (a0' rfl (a0' rfl (a0' rfl (a0' rfl (a1' rfl (po' rfl (a0' rfl (a0' rfl (a1' rfl (po' rfl (an' ?_)))))))))))))
  refine n' ?_
  refine ci' rfl hh (fun hh => ?_) (fun hh => ?_)
  · refine s' rfl rfl (q' rfl (n' (re' ?_)))
    obtain rfl := oi' hh
    exact ⟨_, _, [], rfl, .rfl, trivial, rfl, rfl, rfl, rfl⟩
  refine sk' (S' (sg' 6 rfl (a0' rfl (a0' rfl (a0' rfl (a0' rfl (a1' rfl (po' rfl (an' (n' ?_))))))))))
  refine ci' rfl hh (fun hh => ?_) (fun hh => ?_)
  · refine s' rfl rfl (q' rfl (n' (re' ?_)))
    obtain rfl := oi' hh
    exact ⟨_, _, [], rfl, .rfl, trivial, rfl, rfl, rfl, rfl⟩
  refine sk' (s' rfl rfl (q' rfl (n' (re' ?_))))
  obtain rfl := oi' hh
  exact ⟨_, _, [], rfl, .rfl, trivial, rfl, rfl, rfl, rfl⟩
def ref10_sign (o : Int) : Option Str :=
  idx [[43], [45], [42], [47], [37], [61, 61], [33, 61], [60], [60, 61], [62], [62, 61], [38, 38], [124, 124]] (IntKind.i64.wrap (o - 8)) >>= fun x1 =>
  some x1
abbrev ref10_sign_m (o : Int) (res : Str) : Prop := ACall C 99 [.d (.int .i64 o)] [] (fun x H' => H' = [] ∧ x = .d (.str res))
theorem ref10_sign_ok {o : Int} {res : Str} (hh : ref10_sign o = some res) : ref10_sign_m o res := by
  unfold ref10_sign at hh
  refine ACall.intro hC Tryz.func99 rfl rfl rfl ?_
  obtain ⟨x1, hx1, hh⟩ := bs' hh
  refine s' rfl rfl (q' rfl (n' (s' rfl rfl (AOps.be hC rfl (estr.rows_map [[43], [45], [42], [47], [37], [61, 61], [33, 61], [60], [60, 61], [62], [62, 61], [38, 38], [124, 124]]).symm (q' rfl (n' (s' rfl rfl (q' rfl (q' rfl (q' rfl (i' rfl (idx_nat hx1) (estr.idx hx1) rfl (q' rfl (q' rfl ?_)))))))))))))
  refine n' (re' ?_)
  obtain rfl := oi' hh
  exact ⟨_, _, [], rfl, .rfl, trivial, rfl, rfl, rfl, rfl⟩
mutual
def ref10_ExprText (e : ApiExpr) : Option Str :=
  if (e.Op == 0) = true then
    ref10_Number e.NV >>= fun x1 =>
    some x1
  else
    if (e.Op == 1) = true then
      some [116, 114, 117, 101]
    else
      if (e.Op == 2) = true then
        some [102, 97, 108, 115, 101]
      else
        if (e.Op == 3) = true then
          some e.Name
        else
          if (e.Op == 4) = true then
            idx e.Kids 0 >>= fun x2 =>
            ref10_ExprText x2 >>= fun x11 =>
            if (decide (x11.length + 1 ≤ maxLen)) = true then
              if (decide ((x11 ++ [46]).length + e.Name.length ≤ maxLen)) = true then
                some ((x11 ++ [46]) ++ e.Name)
              else none
            else none
          else
            if (e.Op == 5) = true then
              idx e.Kids 0 >>= fun x3 =>
              ref10_ExprText x3 >>= fun x12 =>
              if (decide (x12.length + 1 ≤ maxLen)) = true then
                idx e.Kids 1 >>= fun x13 =>
                ref10_ExprText x13 >>= fun x14 =>
                if (decide ((x12 ++ [91]).length + x14.length ≤ maxLen)) = true then
                  if (decide (((x12 ++ [91]) ++ x14).length + 1 ≤ maxLen)) = true then
                    some (((x12 ++ [91]) ++ x14) ++ [93])
                  else none
                else none
              else none
            else
              if (e.Op == 6) = true then
                idx e.Kids 0 >>= fun x4 =>
                ref10_kid x4 6 >>= fun x21 =>
                if (decide (1 + x21.length ≤ maxLen)) = true then
                  some ([45] ++ x21)
                else none
              else
                if (e.Op == 7) = true then
                  idx e.Kids 0 >>= fun x5 =>
                  ref10_kid x5 6 >>= fun x22 =>
                  if (decide (1 + x22.length ≤ maxLen)) = true then
                    some ([33] ++ x22)
                  else none
                else
                  if (e.Op == 21) = true then
                    idx e.Kids 0 >>= fun x6 =>
                    ref10_ExprText x6 >>= fun x15 =>
                    if (decide (4 + x15.length ≤ maxLen)) = true then
                      if (decide (([109, 105, 110, 40] ++ x15).length + 2 ≤ maxLen)) = true then
                        idx e.Kids 1 >>= fun x16 =>
                        ref10_ExprText x16 >>= fun x17 =>
                        if (decide ((([109, 105, 110, 40] ++ x15) ++ [44, 32]).length + x17.length ≤ maxLen)) = true then
                          if (decide (((([109, 105, 110, 40] ++ x15) ++ [44, 32]) ++ x17).length + 1 ≤ maxLen)) = true then
                            some (((([109, 105, 110, 40] ++ x15) ++ [44, 32]) ++ x17) ++ [41])
                          else none
                        else none
                      else none
                    else none
                  else
                    if (e.Op == 22) = true then
                      idx e.Kids 0 >>= fun x7 =>
                      ref10_ExprText x7 >>= fun x18 =>
                      if (decide (4 + x18.length ≤ maxLen)) = true then
                        if (decide (([109, 97, 120, 40] ++ x18).length + 2 ≤ maxLen)) = true then
                          idx e.Kids 1 >>= fun x19 =>
                          ref10_ExprText x19 >>= fun x20 =>
                          if (decide ((([109, 97, 120, 40] ++ x18) ++ [44, 32]).length + x20.length ≤ maxLen)) = true then
                            if (decide (((([109, 97, 120, 40] ++ x18) ++ [44, 32]) ++ x20).length + 1 ≤ maxLen)) = true then
                              some (((([109, 97, 120, 40] ++ x18) ++ [44, 32]) ++ x20) ++ [41])
                            else none
                          else none
                        else none
                      else none
                    else
                      if (e.Op == 23) = true then
                        idx e.Kids 0 >>= fun x8 =>
                        ref10_kid x8 1 >>= fun x23 =>
                        if (decide (x23.length + 3 ≤ maxLen)) = true then
                          idx e.Kids 1 >>= fun x24 =>
                          ref10_ExprText x24 >>= fun x25 =>
                          if (decide ((x23 ++ [32, 63, 32]).length + x25.length ≤ maxLen)) = true then
                            if (decide (((x23 ++ [32, 63, 32]) ++ x25).length + 3 ≤ maxLen)) = true then
                              idx e.Kids 2 >>= fun x26 =>
                              ref10_ExprText x26 >>= fun x27 =>
                              if (decide ((((x23 ++ [32, 63, 32]) ++ x25) ++ [32, 58, 32]).length + x27.length ≤ maxLen)) = true then
                                some ((((x23 ++ [32, 63, 32]) ++ x25) ++ [32, 58, 32]) ++ x27)
                              else none
                            else none
                          else none
                        else none
                      else
                        ref10_level e.Op >>= fun x9 =>
                        if (x9 == 3) = true then
                          ref10_ExprText_j1 e x9 4
                        else
                          ref10_ExprText_j1 e x9 x9
  partial_fixpoint
def ref10_ExprText_j1 (e : ApiExpr) (x9 : Int) (left : Int) : Option Str :=
  idx e.Kids 0 >>= fun x10 =>
  ref10_kid x10 left >>= fun x28 =>
  if (decide (x28.length + 1 ≤ maxLen)) = true then
    ref10_sign e.Op >>= fun x29 =>
    if (decide ((x28 ++ [32]).length + x29.length ≤ maxLen)) = true then
      if (decide (((x28 ++ [32]) ++ x29).length + 1 ≤ maxLen)) = true then
        idx e.Kids 1 >>= fun x30 =>
        ref10_kid x30 (IntKind.i64.wrap (x9 + 1)) >>= fun x31 =>
        if (decide ((((x28 ++ [32]) ++ x29) ++ [32]).length + x31.length ≤ maxLen)) = true then
          some ((((x28 ++ [32]) ++ x29) ++ [32]) ++ x31)
        else none
      else none
    else none
  else none
  partial_fixpoint
def ref10_kid (e : ApiExpr) (required : Int) : Option Str :=
  ref10_level e.Op >>= fun x1 =>
  if (decide (x1 < required)) = true then
    ref10_ExprText e >>= fun x2 =>
    if (decide (1 + x2.length ≤ maxLen)) = true then
      if (decide (([40] ++ x2).length + 1 ≤ maxLen)) = true then
        some (([40] ++ x2) ++ [41])
      else none
    else none
  else
    ref10_ExprText e >>= fun x3 =>
    some x3
  partial_fixpoint
end
abbrev ref10_ExprText_m (e : ApiExpr) (res : Str) : Prop := ACall C 46 [.agg (ApiExpr.cells e)] [] (fun x H' => H' = [] ∧ x = .d (.str res))
abbrev ref10_ExprText_j1_m (e : ApiExpr) (x9 : Int) (left : Int) (res : Str) : Prop := AEx (Fx.mk C 140 0) (sr (sr (sr (sr (sr (sr (sr (sr (sr (sr (sr (sr (sr (sr (sr (sr (bodyOf Tryz.f46))))))))))))))))) (mkEnv [(1, .ref 0 0), (3, .d (.int .i64 e.Op)), (4, .d (.int .i64 x9)), (5, .d (.int .i64 left))]) [.row (ApiExpr.cells e) 36] (Am.Ends (Fx.mk C 140 0) Tryz.f46.results.toList (fun x H' => H' = [] ∧ x = .d (.str res)))
abbrev ref10_kid_m (e : ApiExpr) (required : Int) (res : Str) : Prop := ACall C 97 [.agg (ApiExpr.cells e), .d (.int .i64 required)] [] (fun x H' => H' = [] ∧ x = .d (.str res))
theorem ref10_ExprText_grp : (∀ (e : ApiExpr) (res : Str), ref10_ExprText e = some res → ref10_ExprText_m e res) ∧
    (∀ (e : ApiExpr) (x9 : Int) (left : Int) (res : Str), ref10_ExprText_j1 e x9 left = some res → ref10_ExprText_j1_m e x9 left res) ∧
    (∀ (e : ApiExpr) (required : Int) (res : Str), ref10_kid e required = some res → ref10_kid_m e required res) := by
  refine ref10_ExprText.mutual_partial_correctness (fun e res => ref10_ExprText_m e res)
    (fun e x9 left res => ref10_ExprText_j1_m e x9 left res)
    (fun e required res => ref10_kid_m e required res) ?_ ?_ ?_
  · intro g0 g1 g2 ih0 ih1 ih2 e res hh
    refine ACall.intro hC Tryz.func46 rfl rfl rfl ?_
    refine s' rfl rfl (AOps.n hC rfl (q' rfl (n' (s' rfl rfl (q' rfl (q' rfl (q' rfl (n' (S' (s' rfl rfl (q' rfl (q' rfl (n' ?_)))))))))))))
    refine ci' rfl hh (fun hh => ?_) (fun hh => ?_)
    · obtain ⟨x1, hx1, hh⟩ := bs' hh
      refine s' rfl rfl (q' rfl (q' rfl (AOps.c rfl rfl (ref10_Number_ok hx1) (q' rfl (n' (re' ?_))))))
      obtain rfl := oi' hh
      exact ⟨_, _, [], rfl, .rfl, trivial, rfl, rfl, rfl, rfl⟩
    refine sk' (S' (s' rfl rfl (q' rfl (q' rfl (n' ?_)))))
    refine ci' rfl hh (fun hh => ?_) (fun hh => ?_)
    · refine s' rfl rfl (q' rfl (n' (re' ?_)))
      obtain rfl := oi' hh
      exact ⟨_, _, [], rfl, .rfl, trivial, rfl, rfl, rfl, rfl⟩
    refine sk' (S' (s' rfl rfl (q' rfl (q' rfl (n' ?_)))))
    refine ci' rfl hh (fun hh => ?_) (fun hh => ?_)
    · refine s' rfl rfl (q' rfl (n' (re' ?_)))
      obtain rfl := oi' hh
      exact ⟨_, _, [], rfl, .rfl, trivial, rfl, rfl, rfl, rfl⟩
    refine sk' (S' (s' rfl rfl (q' rfl (q' rfl (n' ?_)))))
    refine ci' rfl hh (fun hh => ?_) (fun hh => ?_)
    · refine s' rfl rfl (q' rfl (q' rfl (q' rfl (n' (re' ?_)))))
      obtain rfl := oi' hh
      exact ⟨_, _, [], rfl, .rfl, trivial, rfl, rfl, rfl, rfl⟩
    refine sk' (S' (s' rfl rfl (q' rfl (q' rfl (n' ?_)))))
    refine ci' rfl hh (fun hh => ?_) (fun hh => ?_)
    · obtain ⟨x2, hx2, hh⟩ := bs' hh
      obtain ⟨x11, hx11, hh⟩ := bs' hh
      obtain ⟨c37, hh⟩ := asrt_some hh
      obtain ⟨c38, hh⟩ := asrt_some hh
      refine S' (AEx.draw hC 10 rfl rfl rfl (Q' rfl (Q' rfl (AQ.i hC rfl (idx_nat hx2) (ApiExpr.idx hx2) rfl (Q' rfl (AQ.c rfl rfl (ih0 _ _ hx11) (AQ.q hC rfl c37 (Q' rfl (Q' rfl (AQ.q hC rfl c38 (Q' rfl (Qn' (n' ?_)))))))))))))
      refine re' ?_
      obtain rfl := oi' hh
      exact ⟨_, _, [], rfl, .rfl, trivial, rfl, rfl, rfl, rfl⟩
    refine sk' (S' (s' rfl rfl (q' rfl (q' rfl (n' ?_)))))
    refine ci' rfl hh (fun hh => ?_) (fun hh => ?_)
    · obtain ⟨x3, hx3, hh⟩ := bs' hh
      obtain ⟨x12, hx12, hh⟩ := bs' hh
      obtain ⟨c39, hh⟩ := asrt_some hh
      obtain ⟨x13, hx13, hh⟩ := bs' hh
      obtain ⟨x14, hx14, hh⟩ := bs' hh
      obtain ⟨c40, hh⟩ := asrt_some hh
      obtain ⟨c41, hh⟩ := asrt_some hh
      refine S' (AEx.draw hC 14 rfl rfl rfl (Q' rfl (Q' rfl (AQ.i hC rfl (idx_nat hx3) (ApiExpr.idx hx3) rfl (Q' rfl (AQ.c rfl rfl (ih0 _ _ hx12) (AQ.q hC rfl c39 (Q' rfl (Q' rfl (AQ.i hC rfl (idx_nat hx13) (ApiExpr.idx hx13) rfl (Q' rfl (AQ.c rfl rfl (ih0 _ _ hx14) (AQ.q hC rfl c40 ?_)))))))))))))
      refine AQ.q hC rfl c41 (Q' rfl (Qn' (n' (re' ?_))))
      obtain rfl := oi' hh
      exact ⟨_, _, [], rfl, .rfl, trivial, rfl, rfl, rfl, rfl⟩
    refine sk' (S' (s' rfl rfl (q' rfl (q' rfl (n' ?_)))))
    refine ci' rfl hh (fun hh => ?_) (fun hh => ?_)
    · obtain ⟨x4, hx4, hh⟩ := bs' hh
      obtain ⟨x21, hx21, hh⟩ := bs' hh
      obtain ⟨c42, hh⟩ := asrt_some hh
      refine s' rfl rfl (q' rfl (q' rfl (i' rfl (idx_nat hx4) (ApiExpr.idx hx4) rfl (q' rfl (AOps.c rfl rfl (ih2 _ _ _ hx21) (qc' rfl c42 (q' rfl (n' (re' ?_)))))))))
      obtain rfl := oi' hh
      exact ⟨_, _, [], rfl, .rfl, trivial, rfl, rfl, rfl, rfl⟩
    refine sk' (S' (s' rfl rfl (q' rfl (q' rfl (n' ?_)))))
    refine ci' rfl hh (fun hh => ?_) (fun hh => ?_)
    · obtain ⟨x5, hx5, hh⟩ := bs' hh
      obtain ⟨x22, hx22, hh⟩ := bs' hh
      obtain ⟨c43, hh⟩ := asrt_some hh
      refine s' rfl rfl (q' rfl (q' rfl (i' rfl (idx_nat hx5) (ApiExpr.idx hx5) rfl (q' rfl (AOps.c rfl rfl (ih2 _ _ _ hx22) (qc' rfl c43 (q' rfl (n' (re' ?_)))))))))
      obtain rfl := oi' hh
      exact ⟨_, _, [], rfl, .rfl, trivial, rfl, rfl, rfl, rfl⟩
    refine sk' (S' (s' rfl rfl (q' rfl (q' rfl (n' ?_)))))
    refine ci' rfl hh (fun hh => ?_) (fun hh => ?_)
    · obtain ⟨x6, hx6, hh⟩ := bs' hh
      obtain ⟨x15, hx15, hh⟩ := bs' hh
      obtain ⟨c44, hh⟩ := asrt_some hh
      obtain ⟨c45, hh⟩ := asrt_some hh
      obtain ⟨x16, hx16, hh⟩ := bs' hh
      obtain ⟨x17, hx17, hh⟩ := bs' hh
      obtain ⟨c46, hh⟩ := asrt_some hh
      obtain ⟨c47, hh⟩ := asrt_some hh
      refine S' (AEx.draw hC 15 rfl rfl rfl (Q' rfl (Q' rfl (AQ.i hC rfl (idx_nat hx6) (ApiExpr.idx hx6) rfl (Q' rfl (AQ.c rfl rfl (ih0 _ _ hx15) (AQ.q hC rfl c44 (AQ.q hC rfl c45 (Q' rfl (Q' rfl (AQ.i hC rfl (idx_nat hx16) (ApiExpr.idx hx16) rfl (Q' rfl (AQ.c rfl rfl (ih0 _ _ hx17) ?_)))))))))))))
      refine AQ.q hC rfl c46 (AQ.q hC rfl c47 (Q' rfl (Qn' (n' (re' ?_)))))
      obtain rfl := oi' hh
      exact ⟨_, _, [], rfl, .rfl, trivial, rfl, rfl, rfl, rfl⟩
    refine sk' (S' (s' rfl rfl (q' rfl (q' rfl (n' ?_)))))
    refine ci' rfl hh (fun hh => ?_) (fun hh => ?_)
    · obtain ⟨x7, hx7, hh⟩ := bs' hh
      obtain ⟨x18, hx18, hh⟩ := bs' hh
      obtain ⟨c48, hh⟩ := asrt_some hh
      obtain ⟨c49, hh⟩ := asrt_some hh
      obtain ⟨x19, hx19, hh⟩ := bs' hh
      obtain ⟨x20, hx20, hh⟩ := bs' hh
      obtain ⟨c50, hh⟩ := asrt_some hh
      obtain ⟨c51, hh⟩ := asrt_some hh
      refine S' (AEx.draw hC 15 rfl rfl rfl (Q' rfl (Q' rfl (AQ.i hC rfl (idx_nat hx7) (ApiExpr.idx hx7) rfl (Q' rfl (AQ.c rfl rfl (ih0 _ _ hx18) (AQ.q hC rfl c48 (AQ.q hC rfl c49 (Q' rfl (Q' rfl (AQ.i hC rfl (idx_nat hx19) (ApiExpr.idx hx19) rfl (Q' rfl (AQ.c rfl rfl (ih0 _ _ hx20) ?_)))))))))))))
      refine AQ.q hC rfl c50 (AQ.q hC rfl c51 (Q' rfl (Qn' (n' (re' ?_)))))
      obtain rfl := oi' hh
      exact ⟨_, _, [], rfl, .rfl, trivial, rfl, rfl, rfl, rfl⟩
    refine sk' (S' (s' rfl rfl (q' rfl (q' rfl (n' ?_)))))
    refine ci' rfl hh (fun hh => ?_) (fun hh => ?_)
    · obtain ⟨x8, hx8, hh⟩ := bs' hh
      obtain ⟨x23, hx23, hh⟩ := bs' hh
      obtain ⟨c52, hh⟩ := asrt_some hh
      obtain ⟨x24, hx24, hh⟩ := bs' hh
      obtain ⟨x25, hx25, hh⟩ := bs' hh
      obtain ⟨c53, hh⟩ := asrt_some hh
      obtain ⟨c54, hh⟩ := asrt_some hh
      obtain ⟨x26, hx26, hh⟩ := bs' hh
      obtain ⟨x27, hx27, hh⟩ := bs' hh
      obtain ⟨c55, hh⟩ := asrt_some hh
      refine S' (AEx.draw hC 20 rfl rfl rfl (Q' rfl (Q' rfl (AQ.i hC rfl (idx_nat hx8) (ApiExpr.idx hx8) rfl (Q' rfl (AQ.c rfl rfl (ih2 _ _ _ hx23) (AQ.q hC rfl c52 (Q' rfl (Q' rfl (AQ.i hC rfl (idx_nat hx24) (ApiExpr.idx hx24) rfl (Q' rfl (AQ.c rfl rfl (ih0 _ _ hx25) (AQ.q hC rfl c53 ?_)))))))))))))
      refine AQ.q hC rfl c54 (Q' rfl (Q' rfl (AQ.i hC rfl (idx_nat hx26) (ApiExpr.idx hx26) rfl (Q' rfl (AQ.c rfl rfl (ih0 _ _ hx27) (AQ.q hC rfl c55 (Q' rfl (Qn' (n' (re' ?_))))))))))
      obtain rfl := oi' hh
      exact ⟨_, _, [], rfl, .rfl, trivial, rfl, rfl, rfl, rfl⟩
    obtain ⟨x9, hx9, hh⟩ := bs' hh
    refine sk' (s' rfl rfl (q' rfl (AOps.c rfl rfl (ref10_level_ok hx9) (q' rfl (n' (s' rfl rfl (q' rfl (q' rfl (n' (S' (s' rfl rfl (q' rfl (q' rfl ?_)))))))))))))
    refine n' ?_
    refine ci' rfl hh (fun hh => ?_) (fun hh => ?_)
    · refine R' rfl rfl (q' rfl (n' ?_))
      refine AEx.wk ?_ (ih1 _ _ _ _ hh)
      exact ⟨⟨⟨.rfl, rfl⟩, ⟨⟨.rfl, rfl⟩, ⟨⟨.rfl, rfl⟩, ⟨⟨.rfl, rfl⟩, trivial⟩⟩⟩⟩, ⟨⟨rfl, .refl _, rfl⟩, trivial⟩, rfl⟩
    refine sk' ?_
    refine AEx.wk ?_ (ih1 _ _ _ _ hh)
    exact ⟨⟨⟨.rfl, rfl⟩, ⟨⟨.rfl, rfl⟩, ⟨⟨.rfl, rfl⟩, ⟨⟨.rfl, rfl⟩, trivial⟩⟩⟩⟩, ⟨⟨rfl, .refl _, rfl⟩, trivial⟩, rfl⟩
  · intro g2 ih2 e x9 left res hh
    obtain ⟨x10, hx10, hh⟩ := bs' hh
    obtain ⟨x28, hx28, hh⟩ := bs' hh
    obtain ⟨c56, hh⟩ := asrt_some hh
    obtain ⟨x29, hx29, hh⟩ := bs' hh
    obtain ⟨c57, hh⟩ := asrt_some hh
    obtain ⟨c58, hh⟩ := asrt_some hh
    obtain ⟨x30, hx30, hh⟩ := bs' hh
    obtain ⟨x31, hx31, hh⟩ := bs' hh
    obtain ⟨c59, hh⟩ := asrt_some hh
    refine S' (AEx.draw hC 20 rfl rfl rfl (Q' rfl (Q' rfl (AQ.i hC rfl (idx_nat hx10) (ApiExpr.idx hx10) rfl (Q' rfl (Q' rfl (AQ.c rfl rfl (ih2 _ _ _ hx28) (AQ.q hC rfl c56 (Q' rfl (AQ.c rfl rfl (ref10_sign_ok hx29) (AQ.q hC rfl c57 (AQ.q hC rfl c58 (Q' rfl ?_)))))))))))))
    refine Q' rfl (AQ.i hC rfl (idx_nat hx30) (ApiExpr.idx hx30) rfl (Q' rfl (Q' rfl (Q' rfl (AQ.c rfl rfl (ih2 _ _ _ hx31) (AQ.q hC rfl c59 (Q' rfl (Qn' (n' (re' ?_))))))))))
    obtain rfl := oi' hh
    exact ⟨_, _, [], rfl, .rfl, trivial, rfl, rfl, rfl, rfl⟩
  · intro g0 ih0 e required res hh
    refine ACall.intro hC Tryz.func97 rfl rfl rfl ?_
    obtain ⟨x1, hx1, hh⟩ := bs' hh
    refine s' rfl rfl (AOps.n hC rfl (q' rfl (n' (S' (s' rfl rfl (q' rfl (q' rfl (AOps.c rfl rfl (ref10_level_ok hx1) (q' rfl (q' rfl (n' ?_)))))))))))
    refine ci' rfl hh (fun hh => ?_) (fun hh => ?_)
    · obtain ⟨x2, hx2, hh⟩ := bs' hh
      obtain ⟨c5, hh⟩ := asrt_some hh
      obtain ⟨c6, hh⟩ := asrt_some hh
      refine s' rfl rfl (q' rfl (AOps.c rfl rfl (ih0 _ _ hx2) (qc' rfl c5 (qc' rfl c6 (q' rfl (n' (re' ?_)))))))
      obtain rfl := oi' hh
      exact ⟨_, _, [], rfl, .rfl, trivial, rfl, rfl, rfl, rfl⟩
    obtain ⟨x3, hx3, hh⟩ := bs' hh
    refine sk' (s' rfl rfl (q' rfl (AOps.c rfl rfl (ih0 _ _ hx3) (q' rfl (n' (re' ?_))))))
    obtain rfl := oi' hh
    exact ⟨_, _, [], rfl, .rfl, trivial, rfl, rfl, rfl, rfl⟩
theorem ref10_ExprText_ok {e : ApiExpr} {res : Str} (hh : ref10_ExprText e = some res) : ref10_ExprText_m e res := (ref10_ExprText_grp).1 _ _ hh
theorem ref10_ExprText_j1_ok {e : ApiExpr} {x9 : Int} {left : Int} {res : Str} (hh : ref10_ExprText_j1 e x9 left = some res) : ref10_ExprText_j1_m e x9 left res := (ref10_ExprText_grp).2.1 _ _ _ _ hh
theorem ref10_kid_ok {e : ApiExpr} {required : Int} {res : Str} (hh : ref10_kid e required = some res) : ref10_kid_m e required res := (ref10_ExprText_grp).2.2 _ _ _ hh
def ref10_short (s : Str) : Option (Str × Int) :=
  if (decide (((s).length : Int) > 8192)) = true then
    some ([], 5)
  else
    some (s, 0)
abbrev ref10_short_m (s : Str) (res : Str × Int) : Prop := ACall C 45 [.d (.str s)] [] (fun x H' => H' = [] ∧ x = .tup [.d (.str res.1), .d (.int .i64 res.2)])
theorem ref10_short_ok {s : Str} {res : Str × Int} (hh : ref10_short s = some res) : ref10_short_m s res := by
  unfold ref10_short at hh
  refine ACall.intro hC Tryz.func45 rfl rfl rfl ?_
  refine s' rfl rfl (q' rfl (q' rfl (n' (S' (s' rfl rfl (q' rfl (q' rfl (q' rfl (n' ?_)))))))))
  refine ci' rfl hh (fun hh => ?_) (fun hh => ?_)
  · refine s' rfl rfl (q' rfl (q' rfl (n' (re' ?_))))
    obtain rfl := oi' hh
    exact ⟨_, _, [], rfl, .rfl, trivial, rfl, rfl, rfl, rfl⟩
  refine sk' (s' rfl rfl (q' rfl (q' rfl (q' rfl (n' (re' ?_))))))
  obtain rfl := oi' hh
  exact ⟨_, _, [], rfl, .rfl, trivial, rfl, rfl, rfl, rfl⟩
def ref10_PrintExpr (x : ApiExpr) : Option (Str × Int) :=
  ref10_CheckExpr x >>= fun x1 =>
  if (x1 != 0) = true then
    some ([], x1)
  else
    ref10_ExprText x >>= fun x2 =>
    ref10_short x2 >>= fun x3 =>
    some (x3.1, x3.2)
abbrev ref10_PrintExpr_m (x : ApiExpr) (res : Str × Int) : Prop := ACall C 17 [.agg (ApiExpr.cells x)] [] (fun x H' => H' = [] ∧ x = .tup [.d (.str res.1), .d (.int .i64 res.2)])
theorem ref10_PrintExpr_ok {x : ApiExpr} {res : Str × Int} (hh : ref10_PrintExpr x = some res) : ref10_PrintExpr_m x res := by
  unfold ref10_PrintExpr at hh
  refine ACall.intro hC Tryz.func17 rfl rfl rfl ?_
  obtain ⟨x1, hx1, hh⟩ := bs' hh
  refine s' rfl rfl (AOps.n hC rfl (q' rfl (q' rfl (n' (s' rfl rfl (q' rfl (AOps.c rfl rfl (ref10_CheckExpr_ok hx1) (q' rfl (n' (S' (s' rfl rfl (q' rfl (q' rfl ?_)))))))))))))
  refine n' ?_
  refine ci' rfl hh (fun hh => ?_) (fun hh => ?_)
  · refine s' rfl rfl (q' rfl (q' rfl (q' rfl (n' (re' ?_)))))
    obtain rfl := oi' hh
    exact ⟨_, _, [], rfl, .rfl, trivial, rfl, rfl, rfl, rfl⟩
  obtain ⟨x2, hx2, hh⟩ := bs' hh
  obtain ⟨x3, hx3, hh⟩ := bs' hh
  refine sk' (s' rfl rfl (q' rfl (AOps.c rfl rfl (ref10_ExprText_ok hx2) (AOps.c rfl rfl (ref10_short_ok hx3) (q' rfl (q' rfl (q' rfl (q' rfl (n' (re' ?_))))))))))
  obtain rfl := oi' hh
  exact ⟨_, _, [], rfl, .rfl, trivial, rfl, rfl, rfl, rfl⟩
def law10_SyntaxExpr (e : ApiExpr) : Option Bool :=
  law10_known >>= fun x1 =>
  if (!x1) = true then
    some false
  else
    ref10_FewExpr e 1200 >>= fun x2 =>
    if (!x2) = true then
      some true
    else
      syntax_PrintExpr e >>= fun x3 =>
      ref10_PrintExpr e >>= fun x4 =>
      syntax_CheckExpr e >>= fun x5 =>
      ref10_CheckExpr e >>= fun x6 =>
      some (bif (bif (x5 == x6) then (x3.1 == x4.1) else false) then (x3.2 == x4.2) else false)
abbrev law10_SyntaxExpr_m (e : ApiExpr) (res : Bool) : Prop := ACall C 4 [.agg (ApiExpr.cells e)] [] (fun x H' => H' = [] ∧ x = .d (.bool res))
theorem law10_SyntaxExpr_ok {e : ApiExpr} {res : Bool} (hh : law10_SyntaxExpr e = some res) : law10_SyntaxExpr_m e res := by
  unfold law10_SyntaxExpr at hh
  refine ACall.intro hC Tryz.func4 rfl rfl rfl ?_
  obtain ⟨x1, hx1, hh⟩ := bs' hh
  refine s' rfl rfl (AOps.n hC rfl (q' rfl (n' (S' (s' rfl rfl (AOps.c rfl rfl (law10_known_ok hx1) (q' rfl (n' ?_))))))))
  refine ci' rfl hh (fun hh => ?_) (fun hh => ?_)
  · refine s' rfl rfl (q' rfl (n' (re' ?_)))
    obtain rfl := oi' hh
    exact ⟨_, _, [], rfl, .rfl, trivial, rfl, rfl, rfl, rfl⟩
  obtain ⟨x2, hx2, hh⟩ := bs' hh
  refine sk' (S' (s' rfl rfl (q' rfl (AOps.c rfl rfl (ref10_FewExpr_ok hx2) (q' rfl (n' ?_))))))
  refine ci' rfl hh (fun hh => ?_) (fun hh => ?_)
  · refine s' rfl rfl (q' rfl (n' (re' ?_)))
    obtain rfl := oi' hh
    exact ⟨_, _, [], rfl, .rfl, trivial, rfl, rfl, rfl, rfl⟩
  obtain ⟨x3, hx3, hh⟩ := bs' hh
  obtain ⟨x4, hx4, hh⟩ := bs' hh
  obtain ⟨x5, hx5, hh⟩ := bs' hh
  obtain ⟨x6, hx6, hh⟩ := bs' hh
  refine sk' (s' rfl rfl (q' rfl (AOps.c rfl rfl (syntax_PrintExpr_ok hx3) (q' rfl (q' rfl (q' rfl (q' rfl (q' rfl (n' (s' rfl rfl (q' rfl (AOps.c rfl rfl (ref10_PrintExpr_ok hx4) (q' rfl ?_)))))))))))))
  iterate 4 refine q' rfl ?_
  refine n' (S' (AEx.drawG hC 16 rfl rfl rfl (a0' rfl (AG.c rfl rfl (fun _ => trivial) (fun _ => syntax_CheckExpr_ok hx5) (a0' rfl (AG.c rfl rfl (fun _ => trivial) (fun _ => ref10_CheckExpr_ok hx6) (a0' rfl (a0' rfl (a0' rfl (a0' rfl (a2' rfl (pa' rfl (a0' rfl ?_)))))))))))))
  refine a0' rfl (a0' rfl (a2' rfl (pa' rfl (a0' rfl (an' (n' (re' ?_)))))))
  obtain rfl := oi' hh
  exact ⟨_, _, [], rfl, .rfl, trivial, rfl, rfl, rfl, rfl⟩
end Go.Proofs.YtmilgoloagbmpaaGreatDoor

