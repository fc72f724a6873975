/- What the functions compute, and that they do: printed by gen.py. -/
import Derived.Test.YtmilgoloagbmpaaGreatDoorDg0
set_option maxRecDepth 100000
set_option maxHeartbeats 4000000
set_option linter.unusedVariables false
namespace Go.Proofs.YtmilgoloagbmpaaGreatDoor
open Go.Am
def syntax_printer_text (b : Str) : Option (Str × Int) :=
  X_BLen_SyntaxPrinter b >>= fun x1 =>
  if (decide (x1 > 8192)) = true then
    some ([], 5)
  else
    X_BString_SyntaxPrinter b >>= fun x2 =>
    some (x2, 0)
abbrev syntax_printer_text_m (b : Str) (res : Str × Int) : Prop := ACall C 44 [.ref 0 0] [.bld 1 86, .buf 5 b] (fun x H' => H' = [.dead, .dead] ∧ x = .tup [.d (.str res.1), .d (.int .i64 res.2)])
theorem syntax_printer_text_ok {b : Str} {res : Str × Int} (hh : syntax_printer_text b = some res) : syntax_printer_text_m b res := by
  unfold syntax_printer_text at hh
  refine ACall.intro hC Tryz.func44 rfl rfl rfl ?_
  obtain ⟨x1, hx1, hh⟩ := bs' hh
  refine s' rfl rfl (q' rfl (q' rfl (n' (S' (s' rfl rfl (q' rfl (q' rfl (q' rfl (AOps.g [0, 1] rfl (X_BLen_SyntaxPrinter_ok hx1) ⟨.rfl, trivial⟩ rfl ⟨rfl, ⟨rfl, trivial⟩⟩ rfl rfl (q' rfl (n' ?_)))))))))))
  refine ci' rfl hh (fun hh => ?_) (fun hh => ?_)
  · refine s' rfl rfl (q' rfl (q' rfl (n' (re' ?_))))
    obtain rfl := oi' hh
    exact ⟨_, _, [.dead, .dead], rfl, .rfl, ⟨trivial, ⟨trivial, trivial⟩⟩, rfl, rfl, rfl, rfl⟩
  obtain ⟨x2, hx2, hh⟩ := bs' hh
  refine sk' (s' rfl rfl (q' rfl (q' rfl (q' rfl (AOps.g [0, 1] rfl (X_BString_SyntaxPrinter_ok hx2) ⟨.rfl, trivial⟩ rfl ⟨rfl, ⟨rfl, trivial⟩⟩ rfl rfl (q' rfl (q' rfl (n' (re' ?_)))))))))
  obtain rfl := oi' hh
  exact ⟨_, _, [.dead, .dead], rfl, .rfl, ⟨trivial, ⟨trivial, trivial⟩⟩, rfl, rfl, rfl, rfl⟩
def syntax_PrintExpr (e : ApiExpr) : Option (Str × Int) :=
  syntax_CheckExpr e >>= fun x1 =>
  if (x1 != 0) = true then
    some ([], x1)
  else
    syntax_printer_expr e [] >>= fun x2 =>
    syntax_printer_text x2 >>= fun x3 =>
    some (x3.1, x3.2)
abbrev syntax_PrintExpr_m (e : ApiExpr) (res : Str × Int) : Prop := ACall C 16 [.agg (ApiExpr.cells e)] [] (fun x H' => H' = [] ∧ x = .tup [.d (.str res.1), .d (.int .i64 res.2)])
theorem syntax_PrintExpr_ok {e : ApiExpr} {res : Str × Int} (hh : syntax_PrintExpr e = some res) : syntax_PrintExpr_m e res := by
  unfold syntax_PrintExpr at hh
  refine ACall.intro hC Tryz.func16 rfl rfl rfl ?_
  obtain ⟨x1, hx1, hh⟩ := bs' hh
  refine s' rfl rfl (AOps.n hC rfl (q' rfl (q' rfl (n' (S' (s' rfl rfl (q' rfl (AOps.c rfl rfl (syntax_CheckExpr_ok hx1) (q' rfl (n' (s' rfl rfl (q' rfl (q' rfl ?_)))))))))))))
  refine n' ?_
  refine ci' rfl hh (fun hh => ?_) (fun hh => ?_)
  · refine s' rfl rfl (q' rfl (q' rfl (q' rfl (n' (re' ?_)))))
    obtain rfl := oi' hh
    exact ⟨_, _, [], rfl, .rfl, trivial, rfl, rfl, rfl, rfl⟩
  obtain ⟨x2, hx2, hh⟩ := bs' hh
  obtain ⟨x3, hx3, hh⟩ := bs' hh
  refine sk' (s' rfl rfl (AOps.newB 5 rfl rfl rfl zB86 rfl rfl (q' rfl (n' (s' rfl rfl (q' rfl (q' rfl (AOps.g [1, 2] rfl (syntax_printer_expr_ok hx2) ⟨.rfl, ⟨.rfl, trivial⟩⟩ rfl ⟨rfl, ⟨rfl, trivial⟩⟩ rfl rfl (n' (s' rfl rfl (q' rfl (AOps.g [1, 2] rfl (syntax_printer_text_ok hx3) ⟨.rfl, trivial⟩ rfl ⟨rfl, ⟨rfl, trivial⟩⟩ rfl rfl (q' rfl ?_)))))))))))))
  refine q' rfl (q' rfl (q' rfl (n' (re' ?_))))
  obtain rfl := oi' hh
  exact ⟨_, _, [], rfl, .rfl, trivial, rfl, rfl, rfl, rfl⟩
def syntax_declared (k : Int) : Option (Bool × Bool) :=
  some ((bif (decide (k ≥ 0)) then (decide (k ≤ 6)) else false), (bif (k == 5) then true else (k == 6)))
abbrev syntax_declared_m (k : Int) (res : Bool × Bool) : Prop := ACall C 142 [.d (.int .i64 k)] [] (fun x H' => H' = [] ∧ x = .tup [.d (.bool res.1), .d (.bool res.2)])
theorem syntax_declared_ok {k : Int} {res : Bool × Bool} (hh : syntax_declared k = some res) : syntax_declared_m k res := by
  unfold syntax_declared at hh
  refine ACall.intro hC Tryz.func142 rfl rfl rfl ?_
  refine s' rfl rfl (q' rfl (q' rfl (n' (sg' 14 rfl (a0' rfl (a0' rfl (a0' rfl (a0' rfl (a1' rfl (pa' rfl (a0' rfl (a0' rfl (a0' rfl ?_)))))))))))))
  refine a0' rfl (a1' rfl (po' rfl (a0' rfl (a0' rfl (an' (n' (re' ?_)))))))
  obtain rfl := oi' hh
  exact ⟨_, _, [], rfl, .rfl, trivial, rfl, rfl, rfl, rfl⟩
def slices_Equal_string_string_l1 (s1 : List Str) (s2 : List Str) (v13 : Int) : Option Bool :=
  if (decide (v13 < ((s1).length : Int))) = true then
    idx s1 v13 >>= fun x1 =>
    idx s2 v13 >>= fun x2 =>
    if (!(x1 == x2)) = true then
      some false
    else
      slices_Equal_string_string_l1 s1 s2 (IntKind.i64.wrap (v13 + 1))
  else
    some true
  partial_fixpoint
abbrev slices_Equal_string_string_l1_m (s1 : List Str) (s2 : List Str) (v13 : Int) (res : Bool) : Prop := ALoop (Fx.mk C 26 0) (lo (bk (sr (sl (sr (sr (bodyOf Tryz.f167))))))) (mkEnv [(0, .d (.sl (estr.rows s1))), (1, .d (.sl (estr.rows s2))), (12, .d (.int .i64 ((s1).length : Int))), (13, .d (.int .i64 v13))]) [] (Am.InBlock 0 (Am.Then (Fx.mk C 26 0) (sr (sr (sr (bodyOf Tryz.f167)))) (Am.Ends (Fx.mk C 26 0) Tryz.f167.results.toList (fun x H' => H' = [] ∧ x = .d (.bool res)))))
theorem slices_Equal_string_string_l1_grp (s1 : List Str) (s2 : List Str) : (∀ (v13 : Int) (res : Bool), slices_Equal_string_string_l1 s1 s2 v13 = some res → slices_Equal_string_string_l1_m s1 s2 v13 res) := by
  refine slices_Equal_string_string_l1.partial_correctness s1
    s2
    (fun v13 res => slices_Equal_string_string_l1_m s1 s2 v13 res) ?_
  · intro g0 ih0 v13 res hh
    refine ALoop.unroll ?_
    refine s' rfl rfl (q' rfl (n' (S' ?_)))
    refine ci' rfl hh (fun hh => ?_) (fun hh => ?_)
    · obtain ⟨x1, hx1, hh⟩ := bs' hh
      obtain ⟨x2, hx2, hh⟩ := bs' hh
      refine sk' (S' (AEx.block (s' rfl rfl (q' rfl (q' rfl (n' (S' (AEx.draw hC 9 rfl rfl rfl (Q' rfl (Q' rfl (AQ.i hC rfl (idx_nat hx1) (estr.idx hx1) rfl (Q' rfl (Q' rfl ?_)))))))))))))
      refine Q' rfl (AQ.i hC rfl (idx_nat hx2) (estr.idx hx2) rfl (Q' rfl (Q' rfl (Qn' (n' ?_)))))
      refine ci' rfl hh (fun hh => ?_) (fun hh => ?_)
      · refine s' rfl rfl (q' rfl (n' (re' ?_)))
        obtain rfl := oi' hh
        exact ⟨_, _, [], rfl, .rfl, trivial, rfl, rfl, rfl, rfl⟩
      refine sk' (R' rfl rfl (q' rfl (q' rfl (n' ?_))))
      refine ALoop.wk ?_ (ih0 _ _ hh)
      exact ⟨⟨⟨.rfl, rfl⟩, ⟨⟨.rfl, rfl⟩, ⟨⟨.rfl, rfl⟩, ⟨⟨.rfl, rfl⟩, trivial⟩⟩⟩⟩, trivial, rfl⟩
    refine ex' (s' rfl rfl (q' rfl (n' (re' ?_))))
    obtain rfl := oi' hh
    exact ⟨_, _, [], rfl, .rfl, trivial, rfl, rfl, rfl, rfl⟩
theorem slices_Equal_string_string_l1_ok {s1 : List Str} {s2 : List Str} {v13 : Int} {res : Bool} (hh : slices_Equal_string_string_l1 s1 s2 v13 = some res) : slices_Equal_string_string_l1_m s1 s2 v13 res := (slices_Equal_string_string_l1_grp s1 s2) _ _ hh
def slices_Equal_string_string (s1 : List Str) (s2 : List Str) : Option Bool :=
  if (((s1).length : Int) != ((s2).length : Int)) = true then
    some false
  else
    slices_Equal_string_string_l1 s1 s2 0
abbrev slices_Equal_string_string_m (s1 : List Str) (s2 : List Str) (res : Bool) : Prop := ACall C 167 [.d (.sl (estr.rows s1)), .d (.sl (estr.rows s2))] [] (fun x H' => H' = [] ∧ x = .d (.bool res))
theorem slices_Equal_string_string_ok {s1 : List Str} {s2 : List Str} {res : Bool} (hh : slices_Equal_string_string s1 s2 = some res) : slices_Equal_string_string_m s1 s2 res := by
  unfold slices_Equal_string_string at hh
  refine ACall.intro hC Tryz.func167 rfl rfl rfl ?_
  refine s' rfl rfl (q' rfl (n' (S' (s' rfl rfl (q' rfl (qe' rfl trivial (estr.lenA _) (q' rfl (qe' rfl trivial (estr.lenA _) (q' rfl (n' ?_))))))))))
  refine ci' rfl hh (fun hh => ?_) (fun hh => ?_)
  · refine s' rfl rfl (q' rfl (n' (re' ?_)))
    obtain rfl := oi' hh
    exact ⟨_, _, [], rfl, .rfl, trivial, rfl, rfl, rfl, rfl⟩
  refine sk' (S' (s' rfl rfl (q' rfl (qe' rfl trivial (estr.lenA _) (q' rfl (n' (AEx.block ?_)))))))
  refine AEx.ofLoop ?_
  refine ALoop.wk ?_ (slices_Equal_string_string_l1_ok hh)
  exact ⟨⟨⟨.rfl, rfl⟩, ⟨⟨.rfl, rfl⟩, ⟨⟨.rfl, rfl⟩, ⟨⟨.rfl, rfl⟩, trivial⟩⟩⟩⟩, trivial, rfl⟩
mutual
def syntax_equalType (a : ApiType) (b : ApiType) : Option Bool :=
  (if (bif (bif (bif (bif (a.Kind == b.Kind) then (a.Low == b.Low) else false) then (a.High == b.High) else false) then (a.Size == b.Size) else false) then (a.Name == b.Name) else false) = true then slices_Equal_string_string a.Names b.Names else some default) >>= fun x1 =>
  (if (bif (bif (bif (bif (bif (a.Kind == b.Kind) then (a.Low == b.Low) else false) then (a.High == b.High) else false) then (a.Size == b.Size) else false) then (a.Name == b.Name) else false) then x1 else false) = true then slices_EqualFunc_api_Type_api_Type_api_Type_api_Type a.Of b.Of else some default) >>= fun x2 =>
  some (bif (bif (bif (bif (bif (bif (a.Kind == b.Kind) then (a.Low == b.Low) else false) then (a.High == b.High) else false) then (a.Size == b.Size) else false) then (a.Name == b.Name) else false) then x1 else false) then x2 else false)
  partial_fixpoint
def slices_EqualFunc_api_Type_api_Type_api_Type_api_Type (s1 : List ApiType) (s2 : List ApiType) : Option Bool :=
  if (((s1).length : Int) != ((s2).length : Int)) = true then
    some false
  else
    slices_EqualFunc_api_Type_api_Type_api_Type_api_Type_l1 s1 s2 0
  partial_fixpoint
def slices_EqualFunc_api_Type_api_Type_api_Type_api_Type_l1 (s1 : List ApiType) (s2 : List ApiType) (v17 : Int) : Option Bool :=
  if (decide (v17 < ((s1).length : Int))) = true then
    idx s1 v17 >>= fun x1 =>
    idx s2 v17 >>= fun x2 =>
    syntax_equalType x1 x2 >>= fun x3 =>
    if (!x3) = true then
      some false
    else
      slices_EqualFunc_api_Type_api_Type_api_Type_api_Type_l1 s1 s2 (IntKind.i64.wrap (v17 + 1))
  else
    some true
  partial_fixpoint
end
abbrev syntax_equalType_m (a : ApiType) (b : ApiType) (res : Bool) : Prop := ACall C 143 [.agg (ApiType.cells a), .agg (ApiType.cells b)] [] (fun x H' => H' = [] ∧ x = .d (.bool res))
abbrev slices_EqualFunc_api_Type_api_Type_api_Type_api_Type_m (s1 : List ApiType) (s2 : List ApiType) (res : Bool) : Prop := ACall C 168 [.d (.sl (ApiType.rows s1)), .d (.sl (ApiType.rows s2)), .clo 143 []] [] (fun x H' => H' = [] ∧ x = .d (.bool res))
abbrev slices_EqualFunc_api_Type_api_Type_api_Type_api_Type_l1_m (s1 : List ApiType) (s2 : List ApiType) (v17 : Int) (res : Bool) : Prop := ALoop (Fx.mk C 32 0) (lo (bk (sr (sl (sr (sr (bodyOf Tryz.f168))))))) (mkEnv [(1, .d (.sl (ApiType.rows s2))), (2, .clo 143 []), (15, .d (.sl (ApiType.rows s1))), (16, .d (.int .i64 ((s1).length : Int))), (17, .d (.int .i64 v17))]) [] (Am.InBlock 0 (Am.Then (Fx.mk C 32 0) (sr (sr (sr (bodyOf Tryz.f168)))) (Am.Ends (Fx.mk C 32 0) Tryz.f168.results.toList (fun x H' => H' = [] ∧ x = .d (.bool res)))))
theorem syntax_equalType_grp : (∀ (a : ApiType) (b : ApiType) (res : Bool), syntax_equalType a b = some res → syntax_equalType_m a b res) ∧
    (∀ (s1 : List ApiType) (s2 : List ApiType) (res : Bool), slices_EqualFunc_api_Type_api_Type_api_Type_api_Type s1 s2 = some res → slices_EqualFunc_api_Type_api_Type_api_Type_api_Type_m s1 s2 res) ∧
    (∀ (s1 : List ApiType) (s2 : List ApiType) (v17 : Int) (res : Bool), slices_EqualFunc_api_Type_api_Type_api_Type_api_Type_l1 s1 s2 v17 = some res → slices_EqualFunc_api_Type_api_Type_api_Type_api_Type_l1_m s1 s2 v17 res) := by
  refine syntax_equalType.mutual_partial_correctness (fun a b res => syntax_equalType_m a b res)
    (fun s1 s2 res => slices_EqualFunc_api_Type_api_Type_api_Type_api_Type_m s1 s2 res)
    (fun s1 s2 v17 res => slices_EqualFunc_api_Type_api_Type_api_Type_api_Type_l1_m s1 s2 v17 res) ?_ ?_ ?_
  · intro g1 ih1 a b res hh
    refine ACall.intro hC Tryz.func143 rfl rfl rfl ?_
    obtain ⟨x1, hx1, hh⟩ := bs' hh
    obtain ⟨x2, hx2, hh⟩ := bs' hh
    refine s' rfl rfl (AOps.n hC rfl (AOps.n hC rfl (q' rfl (n' (sg' 48 rfl (a0' rfl (a0' rfl (a0' rfl (a0' rfl (a0' rfl (a0' rfl (a0' rfl (a1' rfl ?_)))))))))))))
    refine a0' rfl (a1' rfl (a2' rfl (pa' rfl (a0' rfl (a0' rfl (a1' rfl (a0' rfl (a1' rfl (a2' rfl (pa' rfl (a0' rfl (a0' rfl (a1' rfl ?_)))))))))))))
    refine a0' rfl (a1' rfl (a2' rfl (pa' rfl (a0' rfl (a0' rfl (a1' rfl (a0' rfl (a1' rfl (a2' rfl (pa' rfl (a0' rfl (a0' rfl (a1' rfl ?_)))))))))))))
    refine a0' rfl (a1' rfl (AG.c rfl rfl (fun hg => ⟨hg, hg, trivial⟩) (fun hw => slices_Equal_string_string_ok (if_t hw hx1)) (pa' rfl (a0' rfl (a0' rfl (a1' rfl (a0' rfl (a1' rfl (AG.c rfl rfl (fun hg => ⟨hg, hg, trivial⟩) (fun hw => ih1 _ _ _ (if_t hw hx2)) (pa' rfl (a0' rfl (an' (n' ?_)))))))))))))
    refine re' ?_
    obtain rfl := oi' hh
    exact ⟨_, _, [], rfl, .rfl, trivial, rfl, rfl, rfl, rfl⟩
  · intro g2 ih2 s1 s2 res hh
    refine ACall.intro hC Tryz.func168 rfl rfl rfl ?_
    refine s' rfl rfl (q' rfl (n' (S' (s' rfl rfl (q' rfl (qe' rfl trivial (ApiType.lenA _) (q' rfl (qe' rfl trivial (ApiType.lenA _) (q' rfl (n' ?_))))))))))
    refine ci' rfl hh (fun hh => ?_) (fun hh => ?_)
    · refine s' rfl rfl (q' rfl (n' (re' ?_)))
      obtain rfl := oi' hh
      exact ⟨_, _, [], rfl, .rfl, trivial, rfl, rfl, rfl, rfl⟩
    refine sk' (S' (s' rfl rfl (q' rfl (qe' rfl trivial (ApiType.lenA _) (q' rfl (n' (AEx.block ?_)))))))
    refine AEx.ofLoop ?_
    refine ALoop.wk ?_ (ih2 _ _ _ _ hh)
    exact ⟨⟨⟨.rfl, rfl⟩, ⟨⟨.rfl, rfl⟩, ⟨⟨.rfl, rfl⟩, ⟨⟨.rfl, rfl⟩, ⟨⟨.rfl, rfl⟩, trivial⟩⟩⟩⟩⟩, trivial, rfl⟩
  · intro g0 g2 ih0 ih2 s1 s2 v17 res hh
    refine ALoop.unroll ?_
    refine s' rfl rfl (q' rfl (n' (S' ?_)))
    refine ci' rfl hh (fun hh => ?_) (fun hh => ?_)
    · obtain ⟨x1, hx1, hh⟩ := bs' hh
      obtain ⟨x2, hx2, hh⟩ := bs' hh
      obtain ⟨x3, hx3, hh⟩ := bs' hh
      refine sk' (S' (AEx.block (s' rfl rfl (q' rfl (i' rfl (idx_nat hx1) (ApiType.idx hx1) rfl (q' rfl (AOps.nf hC rfl (q' rfl (AOps.s hC rfl (n' (s' rfl rfl (q' rfl (q' rfl ?_)))))))))))))
      refine i' rfl (idx_nat hx2) (ApiType.idx hx2) rfl (q' rfl (AOps.nf hC rfl (AOps.s hC rfl (n' (s' rfl rfl (q' rfl (q' rfl (q' rfl (AOps.c rfl rfl (ih0 _ _ _ hx3) (q' rfl (n' ?_)))))))))))
      refine ci' rfl hh (fun hh => ?_) (fun hh => ?_)
      · refine s' rfl rfl (q' rfl (n' (re' ?_)))
        obtain rfl := oi' hh
        exact ⟨_, _, [], rfl, .rfl, trivial, rfl, rfl, rfl, rfl⟩
      refine sk' (R' rfl rfl (q' rfl (q' rfl (n' ?_))))
      refine ALoop.wk ?_ (ih2 _ _ _ _ hh)
      exact ⟨⟨⟨.rfl, rfl⟩, ⟨⟨.rfl, rfl⟩, ⟨⟨.rfl, rfl⟩, ⟨⟨.rfl, rfl⟩, ⟨⟨.rfl, rfl⟩, trivial⟩⟩⟩⟩⟩, trivial, rfl⟩
    refine ex' (s' rfl rfl (q' rfl (n' (re' ?_))))
    obtain rfl := oi' hh
    exact ⟨_, _, [], rfl, .rfl, trivial, rfl, rfl, rfl, rfl⟩
theorem syntax_equalType_ok {a : ApiType} {b : ApiType} {res : Bool} (hh : syntax_equalType a b = some res) : syntax_equalType_m a b res := (syntax_equalType_grp).1 _ _ _ hh
theorem slices_EqualFunc_api_Type_api_Type_api_Type_api_Type_ok {s1 : List ApiType} {s2 : List ApiType} {res : Bool} (hh : slices_EqualFunc_api_Type_api_Type_api_Type_api_Type s1 s2 = some res) : slices_EqualFunc_api_Type_api_Type_api_Type_api_Type_m s1 s2 res := (syntax_equalType_grp).2.1 _ _ _ hh
theorem slices_EqualFunc_api_Type_api_Type_api_Type_api_Type_l1_ok {s1 : List ApiType} {s2 : List ApiType} {v17 : Int} {res : Bool} (hh : slices_EqualFunc_api_Type_api_Type_api_Type_api_Type_l1 s1 s2 v17 = some res) : slices_EqualFunc_api_Type_api_Type_api_Type_api_Type_l1_m s1 s2 v17 res := (syntax_equalType_grp).2.2 _ _ _ _ hh
mutual
def syntax_report_typ (t : ApiType) (depth : Int) (syntaxReport : SyntaxReport) : Option SyntaxReport :=
  syntax_report_deep depth (SyntaxReport.mk (IntKind.i64.wrap (syntaxReport.nodes + 1)) syntaxReport.depth syntaxReport.badForm syntaxReport.badName syntaxReport.badNumber) >>= fun x1 =>
  syntax_report_form (bif (decide (t.Kind ≥ 0)) then (decide (t.Kind ≤ 4)) else false) x1 >>= fun x2 =>
  syntax_report_form (bif (t.Kind == 1) then true else (bif (t.Low == 0) then (t.High == 0) else false)) x2 >>= fun x3 =>
  syntax_report_form (bif (t.Kind == 2) then true else (t.Size == 0)) x3 >>= fun x4 =>
  syntax_report_form (bif (t.Kind == 4) then true else (t.Name == [])) x4 >>= fun x5 =>
  syntax_report_form (bif (t.Kind == 3) then true else (((t.Names).length : Int) == 0)) x5 >>= fun x6 =>
  if (t.Kind == 2) = true then
    syntax_report_form (((t.Of).length : Int) == 1) x6 >>= fun x7 =>
    syntax_inside t.Size 1 32 >>= fun x8 =>
    syntax_report_number x8 x7 >>= fun x9 =>
    syntax_report_typ_j1 t depth x9
  else
    if (t.Kind == 3) = true then
      syntax_report_form (bif (decide (((t.Of).length : Int) ≥ 1)) then (((t.Of).length : Int) == ((t.Names).length : Int)) else false) x6 >>= fun x14 =>
      syntax_report_number (decide (((t.Of).length : Int) ≤ 32)) x14 >>= fun x15 =>
      syntax_report_typ_j1 t depth x15
    else
      syntax_report_form (((t.Of).length : Int) == 0) x6 >>= fun x16 =>
      syntax_report_typ_j1 t depth x16
  partial_fixpoint
def syntax_report_typ_j1 (t : ApiType) (depth : Int) (o0 : SyntaxReport) : Option SyntaxReport :=
  if (t.Kind == 1) = true then
    syntax_inside t.Low (-1048576) 1048576 >>= fun x10 =>
    (if x10 = true then syntax_inside t.High t.Low 1048576 else some default) >>= fun x11 =>
    syntax_report_number (bif x10 then x11 else false) o0 >>= fun x12 =>
    syntax_report_typ_j2 t depth x12
  else
    syntax_report_typ_j2 t depth o0
  partial_fixpoint
def syntax_report_typ_j2 (t : ApiType) (depth : Int) (o01 : SyntaxReport) : Option SyntaxReport :=
  if (t.Kind == 4) = true then
    syntax_report_name t.Name o01 >>= fun x13 =>
    syntax_report_typ_j3 t depth x13
  else
    syntax_report_typ_j3 t depth o01
  partial_fixpoint
def syntax_report_typ_j3 (t : ApiType) (depth : Int) (o02 : SyntaxReport) : Option SyntaxReport :=
  syntax_report_typ_l4 t depth o02 0
  partial_fixpoint
def syntax_report_typ_l4 (t : ApiType) (depth : Int) (o03 : SyntaxReport) (v147 : Int) : Option SyntaxReport :=
  if (decide (v147 < ((t.Names).length : Int))) = true then
    idx t.Names v147 >>= fun x17 =>
    syntax_report_name x17 o03 >>= fun x18 =>
    syntax_report_typ_l4 t depth x18 (IntKind.i64.wrap (v147 + 1))
  else
    syntax_report_typ_l5 t depth o03 0
  partial_fixpoint
def syntax_report_typ_l5 (t : ApiType) (depth : Int) (o04 : SyntaxReport) (v158 : Int) : Option SyntaxReport :=
  if (decide (v158 < ((t.Of).length : Int))) = true then
    idx t.Of v158 >>= fun x19 =>
    syntax_report_typ x19 (IntKind.i64.wrap (depth + 1)) o04 >>= fun x20 =>
    syntax_report_typ_l5 t depth x20 (IntKind.i64.wrap (v158 + 1))
  else
    some o04
  partial_fixpoint
end
abbrev syntax_report_typ_m (t : ApiType) (depth : Int) (syntaxReport : SyntaxReport) (res : SyntaxReport) : Prop := ACall C 60 [.ref 0 0, .agg (ApiType.cells t), .d (.int .i64 depth)] [.row (SyntaxReport.cells syntaxReport) 75] (fun x H' => H' = [.row (SyntaxReport.cells res) 75] ∧ x = .tup [])
abbrev syntax_report_typ_j1_m (t : ApiType) (depth : Int) (o0 : SyntaxReport) (res : SyntaxReport) : Prop := AEx (Fx.mk C 168 1) (sr (sr (sr (sr (sr (sr (sr (sr (sr (sr (bodyOf Tryz.f60))))))))))) (mkEnv [(0, .ref 0 0), (2, .d (.int .i64 depth)), (4, .ref 1 0), (6, .d (.bool (t.Kind == 1))), (9, .d (.bool (t.Kind == 4)))]) [.row (SyntaxReport.cells o0) 75, .row (ApiType.cells t) 48] (Am.Ends (Fx.mk C 168 1) Tryz.f60.results.toList (fun x H' => H' = [.row (SyntaxReport.cells res) 75] ∧ x = .tup []))
abbrev syntax_report_typ_j2_m (t : ApiType) (depth : Int) (o01 : SyntaxReport) (res : SyntaxReport) : Prop := AEx (Fx.mk C 168 1) (sr (sr (sr (sr (sr (sr (sr (sr (sr (sr (sr (bodyOf Tryz.f60)))))))))))) (mkEnv [(0, .ref 0 0), (2, .d (.int .i64 depth)), (4, .ref 1 0), (9, .d (.bool (t.Kind == 4)))]) [.row (SyntaxReport.cells o01) 75, .row (ApiType.cells t) 48] (Am.Ends (Fx.mk C 168 1) Tryz.f60.results.toList (fun x H' => H' = [.row (SyntaxReport.cells res) 75] ∧ x = .tup []))
abbrev syntax_report_typ_j3_m (t : ApiType) (depth : Int) (o02 : SyntaxReport) (res : SyntaxReport) : Prop := AEx (Fx.mk C 168 1) (sr (sr (sr (sr (sr (sr (sr (sr (sr (sr (sr (sr (bodyOf Tryz.f60))))))))))))) (mkEnv [(0, .ref 0 0), (2, .d (.int .i64 depth)), (4, .ref 1 0)]) [.row (SyntaxReport.cells o02) 75, .row (ApiType.cells t) 48] (Am.Ends (Fx.mk C 168 1) Tryz.f60.results.toList (fun x H' => H' = [.row (SyntaxReport.cells res) 75] ∧ x = .tup []))
abbrev syntax_report_typ_l4_m (t : ApiType) (depth : Int) (o03 : SyntaxReport) (v147 : Int) (res : SyntaxReport) : Prop := ALoop (Fx.mk C 168 1) (lo (bk (sr (sl (sr (sr (sr (sr (sr (sr (sr (sr (sr (sr (sr (sr (bodyOf Tryz.f60))))))))))))))))) (mkEnv [(0, .ref 0 0), (2, .d (.int .i64 depth)), (4, .ref 1 0), (145, .d (.sl (estr.rows t.Names))), (146, .d (.int .i64 ((t.Names).length : Int))), (147, .d (.int .i64 v147))]) [.row (SyntaxReport.cells o03) 75, .row (ApiType.cells t) 48] (Am.InBlock 1 (Am.Then (Fx.mk C 168 1) (sr (sr (sr (sr (sr (sr (sr (sr (sr (sr (sr (sr (sr (bodyOf Tryz.f60)))))))))))))) (Am.Ends (Fx.mk C 168 1) Tryz.f60.results.toList (fun x H' => H' = [.row (SyntaxReport.cells res) 75] ∧ x = .tup []))))
abbrev syntax_report_typ_l5_m (t : ApiType) (depth : Int) (o04 : SyntaxReport) (v158 : Int) (res : SyntaxReport) : Prop := ALoop (Fx.mk C 168 1) (lo (bk (sr (sr (sr (sr (sr (sr (sr (sr (sr (sr (sr (sr (sr (sr (bodyOf Tryz.f60))))))))))))))))) (mkEnv [(0, .ref 0 0), (2, .d (.int .i64 depth)), (156, .d (.sl (ApiType.rows t.Of))), (157, .d (.int .i64 ((t.Of).length : Int))), (158, .d (.int .i64 v158))]) [.row (SyntaxReport.cells o04) 75] (Am.InBlock 3 (Am.Ends (Fx.mk C 168 1) Tryz.f60.results.toList (fun x H' => H' = [.row (SyntaxReport.cells res) 75] ∧ x = .tup [])))
theorem syntax_report_typ_grp : (∀ (t : ApiType) (depth : Int) (syntaxReport : SyntaxReport) (res : SyntaxReport), syntax_report_typ t depth syntaxReport = some res → syntax_report_typ_m t depth syntaxReport res) ∧
    (∀ (t : ApiType) (depth : Int) (o0 : SyntaxReport) (res : SyntaxReport), syntax_report_typ_j1 t depth o0 = some res → syntax_report_typ_j1_m t depth o0 res) ∧
    (∀ (t : ApiType) (depth : Int) (o01 : SyntaxReport) (res : SyntaxReport), syntax_report_typ_j2 t depth o01 = some res → syntax_report_typ_j2_m t depth o01 res) ∧
    (∀ (t : ApiType) (depth : Int) (o02 : SyntaxReport) (res : SyntaxReport), syntax_report_typ_j3 t depth o02 = some res → syntax_report_typ_j3_m t depth o02 res) ∧
    (∀ (t : ApiType) (depth : Int) (o03 : SyntaxReport) (v147 : Int) (res : SyntaxReport), syntax_report_typ_l4 t depth o03 v147 = some res → syntax_report_typ_l4_m t depth o03 v147 res) ∧
    (∀ (t : ApiType) (depth : Int) (o04 : SyntaxReport) (v158 : Int) (res : SyntaxReport), syntax_report_typ_l5 t depth o04 v158 = some res → syntax_report_typ_l5_m t depth o04 v158 res) := by
  refine syntax_report_typ.mutual_partial_correctness (fun t depth syntaxReport res => syntax_report_typ_m t depth syntaxReport res)
    (fun t depth o0 res => syntax_report_typ_j1_m t depth o0 res)
    (fun t depth o01 res => syntax_report_typ_j2_m t depth o01 res)
    (fun t depth o02 res => syntax_report_typ_j3_m t depth o02 res)
    (fun t depth o03 v147 res => syntax_report_typ_l4_m t depth o03 v147 res)
    (fun t depth o04 v158 res => syntax_report_typ_l5_m t depth o04 v158 res) ?_ ?_ ?_ ?_ ?_ ?_
  · intro g1 ih1 t depth syntaxReport res hh
    refine ACall.intro hC Tryz.func60 rfl rfl rfl ?_
    obtain ⟨x1, hx1, hh⟩ := bs' hh
    obtain ⟨x2, hx2, hh⟩ := bs' hh
    obtain ⟨x3, hx3, hh⟩ := bs' hh
    obtain ⟨x4, hx4, hh⟩ := bs' hh
    obtain ⟨x5, hx5, hh⟩ := bs' hh
    obtain ⟨x6, hx6, hh⟩ := bs' hh
    refine s' rfl rfl (AOps.n hC rfl (n' (s' rfl rfl (q' rfl (q' rfl (q' rfl (q' rfl (q' rfl (q' rfl (q' rfl (AOps.s hC rfl (n' (s' rfl rfl ?_)))))))))))))
    refine q' rfl (q' rfl (AOps.g [0] rfl (syntax_report_deep_ok hx1) ⟨.rfl, ⟨.rfl, trivial⟩⟩ rfl ⟨rfl, trivial⟩ rfl rfl (n' (sg' 9 rfl (a0' rfl (a0' rfl (a0' rfl (a0' rfl (a0' rfl (a0' rfl (a1' rfl (a1' rfl (pa' rfl ?_)))))))))))))
    refine an' (AOps.g [0] rfl (syntax_report_form_ok hx2) ⟨.rfl, ⟨.rfl, trivial⟩⟩ rfl ⟨rfl, trivial⟩ rfl rfl (n' (S' (AEx.draw hC 16 rfl rfl rfl (Q' rfl (Q' rfl (Q' rfl (Q' rfl (Q' rfl (Q' rfl (Q' rfl (Q' rfl (Q' rfl ?_)))))))))))))
    iterate 7 refine Q' rfl ?_
    refine Qn' (n' (sg' 12 rfl (a0' rfl (a0' rfl (a0' rfl (a0' rfl (a1' rfl (a1' rfl (a1' rfl (a0' rfl (a1' rfl (a1' rfl (pA' rfl ?_)))))))))))))
    refine po' rfl (an' (AOps.g [0] rfl (syntax_report_form_ok hx3) ⟨.rfl, ⟨.rfl, trivial⟩⟩ rfl ⟨rfl, trivial⟩ rfl rfl (n' (sg' 7 rfl (a0' rfl (a0' rfl (a0' rfl (a0' rfl (a1' rfl (a1' rfl (po' rfl (an' (AOps.g [0] rfl (syntax_report_form_ok hx4) ⟨.rfl, ⟨.rfl, trivial⟩⟩ rfl ⟨rfl, trivial⟩ rfl rfl ?_)))))))))))))
    refine n' (sg' 7 rfl (a0' rfl (a0' rfl (a0' rfl (a0' rfl (a1' rfl (a1' rfl (po' rfl (an' (AOps.g [0] rfl (syntax_report_form_ok hx5) ⟨.rfl, ⟨.rfl, trivial⟩⟩ rfl ⟨rfl, trivial⟩ rfl rfl (n' (sg' 8 rfl (a0' rfl ?_)))))))))))))
    refine a0' rfl (a0' rfl (a0' rfl (a1' rfl (AG.qe hC rfl (fun hg => ⟨⟨hg, trivial⟩, trivial⟩) (estr.lenA _) (a1' rfl (po' rfl (an' (AOps.g [0] rfl (syntax_report_form_ok hx6) ⟨.rfl, ⟨.rfl, trivial⟩⟩ rfl ⟨rfl, trivial⟩ rfl rfl (n' (S' (AEx.block (s' rfl rfl (q' rfl ?_)))))))))))))
    refine q' rfl (n' ?_)
    refine ci' rfl hh (fun hh => ?_) (fun hh => ?_)
    · obtain ⟨x7, hx7, hh⟩ := bs' hh
      obtain ⟨x8, hx8, hh⟩ := bs' hh
      obtain ⟨x9, hx9, hh⟩ := bs' hh
      refine s' rfl rfl (q' rfl (q' rfl (q' rfl (qe' rfl trivial (ApiType.lenA _) (q' rfl (AOps.g [0] rfl (syntax_report_form_ok hx7) ⟨.rfl, ⟨.rfl, trivial⟩⟩ rfl ⟨rfl, trivial⟩ rfl rfl (n' (R' rfl rfl (q' rfl (q' rfl (q' rfl (AOps.c rfl rfl (syntax_inside_ok hx8) (AOps.g [0] rfl (syntax_report_number_ok hx9) ⟨.rfl, ⟨.rfl, trivial⟩⟩ rfl ⟨rfl, trivial⟩ rfl rfl ?_)))))))))))))
      refine n' ?_
      refine AEx.wk ?_ (ih1 _ _ _ _ hh)
      exact ⟨⟨⟨.rfl, rfl⟩, ⟨⟨.rfl, rfl⟩, ⟨⟨.rfl, rfl⟩, ⟨⟨.rfl, rfl⟩, ⟨⟨.rfl, rfl⟩, trivial⟩⟩⟩⟩⟩, ⟨⟨rfl, .refl _, rfl⟩, ⟨⟨rfl, .refl _, rfl⟩, trivial⟩⟩, rfl⟩
    refine s' rfl rfl (q' rfl (q' rfl (n' ?_)))
    refine ci' rfl hh (fun hh => ?_) (fun hh => ?_)
    · obtain ⟨x14, hx14, hh⟩ := bs' hh
      obtain ⟨x15, hx15, hh⟩ := bs' hh
      refine sg' 14 rfl (a0' rfl (a0' rfl (a0' rfl (AG.qe hC rfl (fun hg => ⟨trivial, trivial⟩) (ApiType.lenA _) (a0' rfl (a0' rfl (a0' rfl (a1' rfl (AG.qe hC rfl (fun hg => ⟨⟨hg, trivial⟩, trivial⟩) (ApiType.lenA _) (a0' rfl (a1' rfl (AG.qe hC rfl (fun hg => ⟨⟨hg, trivial⟩, trivial⟩) (estr.lenA _) (a2' rfl ?_)))))))))))))
      refine pa' rfl (an' (AOps.g [0] rfl (syntax_report_form_ok hx14) ⟨.rfl, ⟨.rfl, trivial⟩⟩ rfl ⟨rfl, trivial⟩ rfl rfl (n' (R' rfl rfl (q' rfl (q' rfl (q' rfl (qe' rfl trivial (ApiType.lenA _) (q' rfl (AOps.g [0] rfl (syntax_report_number_ok hx15) ⟨.rfl, ⟨.rfl, trivial⟩⟩ rfl ⟨rfl, trivial⟩ rfl rfl (n' ?_)))))))))))
      refine AEx.wk ?_ (ih1 _ _ _ _ hh)
      exact ⟨⟨⟨.rfl, rfl⟩, ⟨⟨.rfl, rfl⟩, ⟨⟨.rfl, rfl⟩, ⟨⟨.rfl, rfl⟩, ⟨⟨.rfl, rfl⟩, trivial⟩⟩⟩⟩⟩, ⟨⟨rfl, .refl _, rfl⟩, ⟨⟨rfl, .refl _, rfl⟩, trivial⟩⟩, rfl⟩
    obtain ⟨x16, hx16, hh⟩ := bs' hh
    refine R' rfl rfl (q' rfl (q' rfl (q' rfl (qe' rfl trivial (ApiType.lenA _) (q' rfl (AOps.g [0] rfl (syntax_report_form_ok hx16) ⟨.rfl, ⟨.rfl, trivial⟩⟩ rfl ⟨rfl, trivial⟩ rfl rfl (n' ?_)))))))
    refine AEx.wk ?_ (ih1 _ _ _ _ hh)
    exact ⟨⟨⟨.rfl, rfl⟩, ⟨⟨.rfl, rfl⟩, ⟨⟨.rfl, rfl⟩, ⟨⟨.rfl, rfl⟩, ⟨⟨.rfl, rfl⟩, trivial⟩⟩⟩⟩⟩, ⟨⟨rfl, .refl _, rfl⟩, ⟨⟨rfl, .refl _, rfl⟩, trivial⟩⟩, rfl⟩
  · intro g2 ih2 t depth o0 res hh
    refine S' (s' rfl rfl (q' rfl (n' ?_)))
    refine ci' rfl hh (fun hh => ?_) (fun hh => ?_)
    · obtain ⟨x10, hx10, hh⟩ := bs' hh
      obtain ⟨x11, hx11, hh⟩ := bs' hh
      obtain ⟨x12, hx12, hh⟩ := bs' hh
      refine AEx.regionG 11 rfl (a0' rfl (a0' rfl (a0' rfl (AG.c rfl rfl (fun _ => trivial) (fun _ => syntax_inside_ok hx10) (a0' rfl (a0' rfl (a1' rfl (a0' rfl (a1' rfl (AG.c rfl rfl (fun hg => ⟨hg, hg, trivial⟩) (fun hw => syntax_inside_ok (if_t hw hx11)) (pa' rfl (an' (AOps.g [0] rfl (syntax_report_number_ok hx12) ⟨.rfl, ⟨.rfl, trivial⟩⟩ rfl ⟨rfl, trivial⟩ rfl rfl ?_)))))))))))))
      refine n' ?_
      refine AEx.wk ?_ (ih2 _ _ _ _ hh)
      exact ⟨⟨⟨.rfl, rfl⟩, ⟨⟨.rfl, rfl⟩, ⟨⟨.rfl, rfl⟩, ⟨⟨.rfl, rfl⟩, trivial⟩⟩⟩⟩, ⟨⟨rfl, .refl _, rfl⟩, ⟨⟨rfl, .refl _, rfl⟩, trivial⟩⟩, rfl⟩
    refine sk' ?_
    refine AEx.wk ?_ (ih2 _ _ _ _ hh)
    exact ⟨⟨⟨.rfl, rfl⟩, ⟨⟨.rfl, rfl⟩, ⟨⟨.rfl, rfl⟩, ⟨⟨.rfl, rfl⟩, trivial⟩⟩⟩⟩, ⟨⟨rfl, .refl _, rfl⟩, ⟨⟨rfl, .refl _, rfl⟩, trivial⟩⟩, rfl⟩
  · intro g3 ih3 t depth o01 res hh
    refine S' (s' rfl rfl (q' rfl (n' ?_)))
    refine ci' rfl hh (fun hh => ?_) (fun hh => ?_)
    · obtain ⟨x13, hx13, hh⟩ := bs' hh
      refine R' rfl rfl (q' rfl (q' rfl (q' rfl (AOps.g [0] rfl (syntax_report_name_ok hx13) ⟨.rfl, ⟨.rfl, trivial⟩⟩ rfl ⟨rfl, trivial⟩ rfl rfl (n' ?_)))))
      refine AEx.wk ?_ (ih3 _ _ _ _ hh)
      exact ⟨⟨⟨.rfl, rfl⟩, ⟨⟨.rfl, rfl⟩, ⟨⟨.rfl, rfl⟩, trivial⟩⟩⟩, ⟨⟨rfl, .refl _, rfl⟩, ⟨⟨rfl, .refl _, rfl⟩, trivial⟩⟩, rfl⟩
    refine sk' ?_
    refine AEx.wk ?_ (ih3 _ _ _ _ hh)
    exact ⟨⟨⟨.rfl, rfl⟩, ⟨⟨.rfl, rfl⟩, ⟨⟨.rfl, rfl⟩, trivial⟩⟩⟩, ⟨⟨rfl, .refl _, rfl⟩, ⟨⟨rfl, .refl _, rfl⟩, trivial⟩⟩, rfl⟩
  · intro g4 ih4 t depth o02 res hh
    refine S' (s' rfl rfl (q' rfl (q' rfl (qe' rfl trivial (estr.lenA _) (q' rfl (n' (AEx.block ?_)))))))
    refine AEx.ofLoop ?_
    refine ALoop.wk ?_ (ih4 _ _ _ _ _ hh)
    exact ⟨⟨⟨.rfl, rfl⟩, ⟨⟨.rfl, rfl⟩, ⟨⟨.rfl, rfl⟩, ⟨⟨.rfl, rfl⟩, ⟨⟨.rfl, rfl⟩, ⟨⟨.rfl, rfl⟩, trivial⟩⟩⟩⟩⟩⟩, ⟨⟨rfl, .refl _, rfl⟩, ⟨⟨rfl, .refl _, rfl⟩, trivial⟩⟩, rfl⟩
  · intro g4 g5 ih4 ih5 t depth o03 v147 res hh
    refine ALoop.unroll ?_
    refine s' rfl rfl (q' rfl (n' (S' ?_)))
    refine ci' rfl hh (fun hh => ?_) (fun hh => ?_)
    · obtain ⟨x17, hx17, hh⟩ := bs' hh
      obtain ⟨x18, hx18, hh⟩ := bs' hh
      refine sk' (S' (AEx.block (s' rfl rfl (i' rfl (idx_nat hx17) (estr.idx hx17) rfl (q' rfl (q' rfl (n' (R' rfl rfl (q' rfl (q' rfl (AOps.g [0] rfl (syntax_report_name_ok hx18) ⟨.rfl, ⟨.rfl, trivial⟩⟩ rfl ⟨rfl, trivial⟩ rfl rfl (n' (R' rfl rfl ?_)))))))))))))
      refine q' rfl (q' rfl (n' ?_))
      refine ALoop.wk ?_ (ih4 _ _ _ _ _ hh)
      exact ⟨⟨⟨.rfl, rfl⟩, ⟨⟨.rfl, rfl⟩, ⟨⟨.rfl, rfl⟩, ⟨⟨.rfl, rfl⟩, ⟨⟨.rfl, rfl⟩, ⟨⟨.rfl, rfl⟩, trivial⟩⟩⟩⟩⟩⟩, ⟨⟨rfl, .refl _, rfl⟩, ⟨⟨rfl, .refl _, rfl⟩, trivial⟩⟩, rfl⟩
    refine ex' (s' rfl rfl (q' rfl (q' rfl (qe' rfl trivial (ApiType.lenA _) (q' rfl (n' (AEx.block ?_)))))))
    refine AEx.ofLoop ?_
    refine ALoop.wk ?_ (ih5 _ _ _ _ _ hh)
    exact ⟨⟨⟨.rfl, rfl⟩, ⟨⟨.rfl, rfl⟩, ⟨⟨.rfl, rfl⟩, ⟨⟨.rfl, rfl⟩, ⟨⟨.rfl, rfl⟩, trivial⟩⟩⟩⟩⟩, ⟨⟨rfl, .refl _, rfl⟩, trivial⟩, rfl⟩
  · intro g0 g5 ih0 ih5 t depth o04 v158 res hh
    refine ALoop.unroll ?_
    refine s' rfl rfl (q' rfl (n' (S' ?_)))
    refine ci' rfl hh (fun hh => ?_) (fun hh => ?_)
    · obtain ⟨x19, hx19, hh⟩ := bs' hh
      obtain ⟨x20, hx20, hh⟩ := bs' hh
      refine sk' (S' (AEx.block (s' rfl rfl (i' rfl (idx_nat hx19) (ApiType.idx hx19) rfl (q' rfl (AOps.nf hC rfl (AOps.s hC rfl (n' (R' rfl rfl (q' rfl (q' rfl (q' rfl (q' rfl ?_)))))))))))))
      refine AOps.g [0] rfl (ih0 _ _ _ _ hx20) ⟨.rfl, ⟨.rfl, ⟨.rfl, trivial⟩⟩⟩ rfl ⟨rfl, trivial⟩ rfl rfl (n' (R' rfl rfl (q' rfl (q' rfl (n' ?_)))))
      refine ALoop.wk ?_ (ih5 _ _ _ _ _ hh)
      exact ⟨⟨⟨.rfl, rfl⟩, ⟨⟨.rfl, rfl⟩, ⟨⟨.rfl, rfl⟩, ⟨⟨.rfl, rfl⟩, ⟨⟨.rfl, rfl⟩, trivial⟩⟩⟩⟩⟩, ⟨⟨rfl, .refl _, rfl⟩, trivial⟩, rfl⟩
    refine ex' ?_
    obtain rfl := oi' hh
    exact ⟨_, _, [.row (SyntaxReport.cells o04) 75], rfl, .rfl, ⟨⟨rfl, .refl _, rfl⟩, trivial⟩, rfl, rfl, rfl, rfl⟩
theorem syntax_report_typ_ok {t : ApiType} {depth : Int} {syntaxReport : SyntaxReport} {res : SyntaxReport} (hh : syntax_report_typ t depth syntaxReport = some res) : syntax_report_typ_m t depth syntaxReport res := (syntax_report_typ_grp).1 _ _ _ _ hh
theorem syntax_report_typ_j1_ok {t : ApiType} {depth : Int} {o0 : SyntaxReport} {res : SyntaxReport} (hh : syntax_report_typ_j1 t depth o0 = some res) : syntax_report_typ_j1_m t depth o0 res := (syntax_report_typ_grp).2.1 _ _ _ _ hh
theorem syntax_report_typ_j2_ok {t : ApiType} {depth : Int} {o01 : SyntaxReport} {res : SyntaxReport} (hh : syntax_report_typ_j2 t depth o01 = some res) : syntax_report_typ_j2_m t depth o01 res := (syntax_report_typ_grp).2.2.1 _ _ _ _ hh
theorem syntax_report_typ_j3_ok {t : ApiType} {depth : Int} {o02 : SyntaxReport} {res : SyntaxReport} (hh : syntax_report_typ_j3 t depth o02 = some res) : syntax_report_typ_j3_m t depth o02 res := (syntax_report_typ_grp).2.2.2.1 _ _ _ _ hh
theorem syntax_report_typ_l4_ok {t : ApiType} {depth : Int} {o03 : SyntaxReport} {v147 : Int} {res : SyntaxReport} (hh : syntax_report_typ_l4 t depth o03 v147 = some res) : syntax_report_typ_l4_m t depth o03 v147 res := (syntax_report_typ_grp).2.2.2.2.1 _ _ _ _ _ hh
theorem syntax_report_typ_l5_ok {t : ApiType} {depth : Int} {o04 : SyntaxReport} {v158 : Int} {res : SyntaxReport} (hh : syntax_report_typ_l5 t depth o04 v158 = some res) : syntax_report_typ_l5_m t depth o04 v158 res := (syntax_report_typ_grp).2.2.2.2.2 _ _ _ _ _ hh
mutual
def syntax_EqualExpr (a : ApiExpr) (b : ApiExpr) : Option Bool :=
  (if (bif (bif (a.Op == b.Op) then (a.NV == b.NV) else false) then (a.Name == b.Name) else false) = true then slices_EqualFunc_api_Expr_api_Expr_api_Expr_api_Expr a.Kids b.Kids else some default) >>= fun x1 =>
  some (bif (bif (bif (a.Op == b.Op) then (a.NV == b.NV) else false) then (a.Name == b.Name) else false) then x1 else false)
  partial_fixpoint
def slices_EqualFunc_api_Expr_api_Expr_api_Expr_api_Expr (s1 : List ApiExpr) (s2 : List ApiExpr) : Option Bool :=
  if (((s1).length : Int) != ((s2).length : Int)) = true then
    some false
  else
    slices_EqualFunc_api_Expr_api_Expr_api_Expr_api_Expr_l1 s1 s2 0
  partial_fixpoint
def slices_EqualFunc_api_Expr_api_Expr_api_Expr_api_Expr_l1 (s1 : List ApiExpr) (s2 : List ApiExpr) (v17 : Int) : Option Bool :=
  if (decide (v17 < ((s1).length : Int))) = true then
    idx s1 v17 >>= fun x1 =>
    idx s2 v17 >>= fun x2 =>
    syntax_EqualExpr x1 x2 >>= fun x3 =>
    if (!x3) = true then
      some false
    else
      slices_EqualFunc_api_Expr_api_Expr_api_Expr_api_Expr_l1 s1 s2 (IntKind.i64.wrap (v17 + 1))
  else
    some true
  partial_fixpoint
end
abbrev syntax_EqualExpr_m (a : ApiExpr) (b : ApiExpr) (res : Bool) : Prop := ACall C 169 [.agg (ApiExpr.cells a), .agg (ApiExpr.cells b)] [] (fun x H' => H' = [] ∧ x = .d (.bool res))
abbrev slices_EqualFunc_api_Expr_api_Expr_api_Expr_api_Expr_m (s1 : List ApiExpr) (s2 : List ApiExpr) (res : Bool) : Prop := ACall C 186 [.d (.sl (ApiExpr.rows s1)), .d (.sl (ApiExpr.rows s2)), .clo 169 []] [] (fun x H' => H' = [] ∧ x = .d (.bool res))
abbrev slices_EqualFunc_api_Expr_api_Expr_api_Expr_api_Expr_l1_m (s1 : List ApiExpr) (s2 : List ApiExpr) (v17 : Int) (res : Bool) : Prop := ALoop (Fx.mk C 32 0) (lo (bk (sr (sl (sr (sr (bodyOf Tryz.f186))))))) (mkEnv [(1, .d (.sl (ApiExpr.rows s2))), (2, .clo 169 []), (15, .d (.sl (ApiExpr.rows s1))), (16, .d (.int .i64 ((s1).length : Int))), (17, .d (.int .i64 v17))]) [] (Am.InBlock 0 (Am.Then (Fx.mk C 32 0) (sr (sr (sr (bodyOf Tryz.f186)))) (Am.Ends (Fx.mk C 32 0) Tryz.f186.results.toList (fun x H' => H' = [] ∧ x = .d (.bool res)))))
theorem syntax_EqualExpr_grp : (∀ (a : ApiExpr) (b : ApiExpr) (res : Bool), syntax_EqualExpr a b = some res → syntax_EqualExpr_m a b res) ∧
    (∀ (s1 : List ApiExpr) (s2 : List ApiExpr) (res : Bool), slices_EqualFunc_api_Expr_api_Expr_api_Expr_api_Expr s1 s2 = some res → slices_EqualFunc_api_Expr_api_Expr_api_Expr_api_Expr_m s1 s2 res) ∧
    (∀ (s1 : List ApiExpr) (s2 : List ApiExpr) (v17 : Int) (res : Bool), slices_EqualFunc_api_Expr_api_Expr_api_Expr_api_Expr_l1 s1 s2 v17 = some res → slices_EqualFunc_api_Expr_api_Expr_api_Expr_api_Expr_l1_m s1 s2 v17 res) := by
  refine syntax_EqualExpr.mutual_partial_correctness (fun a b res => syntax_EqualExpr_m a b res)
    (fun s1 s2 res => slices_EqualFunc_api_Expr_api_Expr_api_Expr_api_Expr_m s1 s2 res)
    (fun s1 s2 v17 res => slices_EqualFunc_api_Expr_api_Expr_api_Expr_api_Expr_l1_m s1 s2 v17 res) ?_ ?_ ?_
  · intro g1 ih1 a b res hh
    refine ACall.intro hC Tryz.func169 rfl rfl rfl ?_
    obtain ⟨x1, hx1, hh⟩ := bs' hh
    refine s' rfl rfl (AOps.n hC rfl (AOps.n hC rfl (q' rfl (n' (sg' 27 rfl (a0' rfl (a0' rfl (a0' rfl (a0' rfl (a0' rfl (a0' rfl (a0' rfl (a1' rfl ?_)))))))))))))
    refine a0' rfl (a1' rfl (a2' rfl (pa' rfl (a0' rfl (a0' rfl (a1' rfl (a0' rfl (a1' rfl (a2' rfl (pa' rfl (a0' rfl (a0' rfl (a1' rfl ?_)))))))))))))
    refine a0' rfl (a1' rfl (AG.c rfl rfl (fun hg => ⟨hg, hg, trivial⟩) (fun hw => ih1 _ _ _ (if_t hw hx1)) (pa' rfl (a0' rfl (an' (n' (re' ?_)))))))
    obtain rfl := oi' hh
    exact ⟨_, _, [], rfl, .rfl, trivial, rfl, rfl, rfl, rfl⟩
  · intro g2 ih2 s1 s2 res hh
    refine ACall.intro hC Tryz.func186 rfl rfl rfl ?_
    refine s' rfl rfl (q' rfl (n' (S' (s' rfl rfl (q' rfl (qe' rfl trivial (ApiExpr.lenA _) (q' rfl (qe' rfl trivial (ApiExpr.lenA _) (q' rfl (n' ?_))))))))))
    refine ci' rfl hh (fun hh => ?_) (fun hh => ?_)
    · refine s' rfl rfl (q' rfl (n' (re' ?_)))
      obtain rfl := oi' hh
      exact ⟨_, _, [], rfl, .rfl, trivial, rfl, rfl, rfl, rfl⟩
    refine sk' (S' (s' rfl rfl (q' rfl (qe' rfl trivial (ApiExpr.lenA _) (q' rfl (n' (AEx.block ?_)))))))
    refine AEx.ofLoop ?_
    refine ALoop.wk ?_ (ih2 _ _ _ _ hh)
    exact ⟨⟨⟨.rfl, rfl⟩, ⟨⟨.rfl, rfl⟩, ⟨⟨.rfl, rfl⟩, ⟨⟨.rfl, rfl⟩, ⟨⟨.rfl, rfl⟩, trivial⟩⟩⟩⟩⟩, trivial, rfl⟩
  · intro g0 g2 ih0 ih2 s1 s2 v17 res hh
    refine ALoop.unroll ?_
    refine s' rfl rfl (q' rfl (n' (S' ?_)))
    refine ci' rfl hh (fun hh => ?_) (fun hh => ?_)
    · obtain ⟨x1, hx1, hh⟩ := bs' hh
      obtain ⟨x2, hx2, hh⟩ := bs' hh
      obtain ⟨x3, hx3, hh⟩ := bs' hh
      refine sk' (S' (AEx.block (s' rfl rfl (q' rfl (i' rfl (idx_nat hx1) (ApiExpr.idx hx1) rfl (q' rfl (AOps.nf hC rfl (q' rfl (AOps.s hC rfl (n' (s' rfl rfl (q' rfl (q' rfl ?_)))))))))))))
      refine i' rfl (idx_nat hx2) (ApiExpr.idx hx2) rfl (q' rfl (AOps.nf hC rfl (AOps.s hC rfl (n' (s' rfl rfl (q' rfl (q' rfl (q' rfl (AOps.c rfl rfl (ih0 _ _ _ hx3) (q' rfl (n' ?_)))))))))))
      refine ci' rfl hh (fun hh => ?_) (fun hh => ?_)
      · refine s' rfl rfl (q' rfl (n' (re' ?_)))
        obtain rfl := oi' hh
        exact ⟨_, _, [], rfl, .rfl, trivial, rfl, rfl, rfl, rfl⟩
      refine sk' (R' rfl rfl (q' rfl (q' rfl (n' ?_))))
      refine ALoop.wk ?_ (ih2 _ _ _ _ hh)
      exact ⟨⟨⟨.rfl, rfl⟩, ⟨⟨.rfl, rfl⟩, ⟨⟨.rfl, rfl⟩, ⟨⟨.rfl, rfl⟩, ⟨⟨.rfl, rfl⟩, trivial⟩⟩⟩⟩⟩, trivial, rfl⟩
    refine ex' (s' rfl rfl (q' rfl (n' (re' ?_))))
    obtain rfl := oi' hh
    exact ⟨_, _, [], rfl, .rfl, trivial, rfl, rfl, rfl, rfl⟩
theorem syntax_EqualExpr_ok {a : ApiExpr} {b : ApiExpr} {res : Bool} (hh : syntax_EqualExpr a b = some res) : syntax_EqualExpr_m a b res := (syntax_EqualExpr_grp).1 _ _ _ hh
theorem slices_EqualFunc_api_Expr_api_Expr_api_Expr_api_Expr_ok {s1 : List ApiExpr} {s2 : List ApiExpr} {res : Bool} (hh : slices_EqualFunc_api_Expr_api_Expr_api_Expr_api_Expr s1 s2 = some res) : slices_EqualFunc_api_Expr_api_Expr_api_Expr_api_Expr_m s1 s2 res := (syntax_EqualExpr_grp).2.1 _ _ _ hh
theorem slices_EqualFunc_api_Expr_api_Expr_api_Expr_api_Expr_l1_ok {s1 : List ApiExpr} {s2 : List ApiExpr} {v17 : Int} {res : Bool} (hh : slices_EqualFunc_api_Expr_api_Expr_api_Expr_api_Expr_l1 s1 s2 v17 = some res) : slices_EqualFunc_api_Expr_api_Expr_api_Expr_api_Expr_l1_m s1 s2 v17 res := (syntax_EqualExpr_grp).2.2 _ _ _ _ hh
def syntax_report_optional (e : ApiExpr) (used : Bool) (syntaxReport : SyntaxReport) : Option SyntaxReport :=
  (if (!used) = true then syntax_EqualExpr e (ApiExpr.mk 0 0 [] []) else some default) >>= fun x1 =>
  if (bif (!used) then x1 else false) = true then
    some syntaxReport
  else
    syntax_report_form used syntaxReport >>= fun x2 =>
    syntax_report_expr e 1 x2 >>= fun x3 =>
    some x3
abbrev syntax_report_optional_m (e : ApiExpr) (used : Bool) (syntaxReport : SyntaxReport) (res : SyntaxReport) : Prop := ACall C 144 [.ref 0 0, .agg (ApiExpr.cells e), .d (.bool used)] [.row (SyntaxReport.cells syntaxReport) 75] (fun x H' => H' = [.row (SyntaxReport.cells res) 75] ∧ x = .tup [])
theorem syntax_report_optional_ok {e : ApiExpr} {used : Bool} {syntaxReport : SyntaxReport} {res : SyntaxReport} (hh : syntax_report_optional e used syntaxReport = some res) : syntax_report_optional_m e used syntaxReport res := by
  unfold syntax_report_optional at hh
  refine ACall.intro hC Tryz.func144 rfl rfl rfl ?_
  obtain ⟨x1, hx1, hh⟩ := bs' hh
  refine s' rfl rfl (AOps.n hC rfl (n' (S' (sg' 7 rfl (a0' rfl (a0' rfl (a0' rfl (a0' rfl (a0' rfl (AG.c rfl rfl (fun hg => ⟨hg, hg, trivial⟩) (fun hw => syntax_EqualExpr_ok (if_t hw hx1)) (pa' rfl (an' (n' ?_)))))))))))))
  refine ci' rfl hh (fun hh => ?_) (fun hh => ?_)
  · refine re' ?_
    obtain rfl := oi' hh
    exact ⟨_, _, [.row (SyntaxReport.cells syntaxReport) 75], rfl, .rfl, ⟨⟨rfl, .refl _, rfl⟩, trivial⟩, rfl, rfl, rfl, rfl⟩
  obtain ⟨x2, hx2, hh⟩ := bs' hh
  obtain ⟨x3, hx3, hh⟩ := bs' hh
  refine sk' (s' rfl rfl (q' rfl (q' rfl (AOps.g [0] rfl (syntax_report_form_ok hx2) ⟨.rfl, ⟨.rfl, trivial⟩⟩ rfl ⟨rfl, trivial⟩ rfl rfl (n' (R' rfl rfl (q' rfl (q' rfl (AOps.g [0] rfl (syntax_report_expr_ok hx3) ⟨.rfl, ⟨.rfl, ⟨.rfl, trivial⟩⟩⟩ rfl ⟨rfl, trivial⟩ rfl rfl (n' ?_))))))))))
  obtain rfl := oi' hh
  exact ⟨_, _, [.row (SyntaxReport.cells x3) 75], rfl, .rfl, ⟨⟨rfl, .refl _, rfl⟩, trivial⟩, rfl, rfl, rfl, rfl⟩
def syntax_statement (v : Int) : Option (SyntaxUses × Bool) :=
  if (v == 0) = true then
    some ((SyntaxUses.mk true true false false false false false false false), true)
  else
    if (v == 1) = true then
      some ((SyntaxUses.mk true false true true false false false false false), true)
    else
      if (v == 2) = true then
        some ((SyntaxUses.mk true false true false false false false false false), true)
      else
        if (v == 3) = true then
          some ((SyntaxUses.mk false true false false false false false false false), true)
        else
          if (v == 4) = true then
            some ((SyntaxUses.mk false false false false true false false false false), true)
          else
            if (v == 5) = true then
              some ((SyntaxUses.mk false true false false false false false true true), true)
            else
              if (v == 6) = true then
                some ((SyntaxUses.mk false true false false true false false true false), true)
              else
                if (v == 7) = true then
                  some ((SyntaxUses.mk false false true false false true false true false), true)
                else
                  if (v == 8) = true then
                    some ((SyntaxUses.mk false false false false false false true false false), true)
                  else
                    some ((SyntaxUses.mk false false false false false false false false false), false)
abbrev syntax_statement_m (v : Int) (res : SyntaxUses × Bool) : Prop := ACall C 134 [.d (.int .i64 v)] [] (fun x H' => H' = [] ∧ x = .tup [.agg (SyntaxUses.cells res.1), .d (.bool res.2)])
theorem syntax_statement_ok {v : Int} {res : SyntaxUses × Bool} (hh : syntax_statement v = some res) : syntax_statement_m v res := by
  unfold syntax_statement at hh
  refine ACall.intro hC Tryz.func134 rfl rfl rfl ?_
  refine s' rfl rfl (AOps.n hC rfl (q' rfl (n' (S' (s' rfl rfl (q' rfl (n' (AEx.block (s' rfl rfl (q' rfl (q' rfl (n' ?_))))))))))))
  refine ci' rfl hh (fun hh => ?_) (fun hh => ?_)
  · refine s' rfl rfl (q' rfl (AOps.s hC rfl (q' rfl (n' (re' ?_)))))
    obtain rfl := oi' hh
    exact ⟨_, _, [], rfl, .rfl, trivial, rfl, rfl, rfl, rfl⟩
  refine s' rfl rfl (q' rfl (q' rfl (n' ?_)))
  refine ci' rfl hh (fun hh => ?_) (fun hh => ?_)
  · refine s' rfl rfl (q' rfl (AOps.s hC rfl (q' rfl (n' (re' ?_)))))
    obtain rfl := oi' hh
    exact ⟨_, _, [], rfl, .rfl, trivial, rfl, rfl, rfl, rfl⟩
  refine s' rfl rfl (q' rfl (q' rfl (n' ?_)))
  refine ci' rfl hh (fun hh => ?_) (fun hh => ?_)
  · refine s' rfl rfl (q' rfl (AOps.s hC rfl (q' rfl (n' (re' ?_)))))
    obtain rfl := oi' hh
    exact ⟨_, _, [], rfl, .rfl, trivial, rfl, rfl, rfl, rfl⟩
  refine s' rfl rfl (q' rfl (q' rfl (n' ?_)))
  refine ci' rfl hh (fun hh => ?_) (fun hh => ?_)
  · refine s' rfl rfl (q' rfl (AOps.s hC rfl (q' rfl (n' (re' ?_)))))
    obtain rfl := oi' hh
    exact ⟨_, _, [], rfl, .rfl, trivial, rfl, rfl, rfl, rfl⟩
  refine s' rfl rfl (q' rfl (q' rfl (n' ?_)))
  refine ci' rfl hh (fun hh => ?_) (fun hh => ?_)
  · refine s' rfl rfl (q' rfl (AOps.s hC rfl (q' rfl (n' (re' ?_)))))
    obtain rfl := oi' hh
    exact ⟨_, _, [], rfl, .rfl, trivial, rfl, rfl, rfl, rfl⟩
  refine s' rfl rfl (q' rfl (q' rfl (n' ?_)))
  refine ci' rfl hh (fun hh => ?_) (fun hh => ?_)
  · refine s' rfl rfl (q' rfl (AOps.s hC rfl (q' rfl (n' (re' ?_)))))
    obtain rfl := oi' hh
    exact ⟨_, _, [], rfl, .rfl, trivial, rfl, rfl, rfl, rfl⟩
  refine s' rfl rfl (q' rfl (q' rfl (n' ?_)))
  refine ci' rfl hh (fun hh => ?_) (fun hh => ?_)
  · refine s' rfl rfl (q' rfl (AOps.s hC rfl (q' rfl (n' (re' ?_)))))
    obtain rfl := oi' hh
    exact ⟨_, _, [], rfl, .rfl, trivial, rfl, rfl, rfl, rfl⟩
  refine s' rfl rfl (q' rfl (q' rfl (n' ?_)))
  refine ci' rfl hh (fun hh => ?_) (fun hh => ?_)
  · refine s' rfl rfl (q' rfl (AOps.s hC rfl (q' rfl (n' (re' ?_)))))
    obtain rfl := oi' hh
    exact ⟨_, _, [], rfl, .rfl, trivial, rfl, rfl, rfl, rfl⟩
  refine s' rfl rfl (q' rfl (q' rfl (n' ?_)))
  refine ci' rfl hh (fun hh => ?_) (fun hh => ?_)
  · refine s' rfl rfl (q' rfl (AOps.s hC rfl (q' rfl (n' (re' ?_)))))
    obtain rfl := oi' hh
    exact ⟨_, _, [], rfl, .rfl, trivial, rfl, rfl, rfl, rfl⟩
  refine sk' (s' rfl rfl (q' rfl (AOps.s hC rfl (q' rfl (n' (re' ?_))))))
  obtain rfl := oi' hh
  exact ⟨_, _, [], rfl, .rfl, trivial, rfl, rfl, rfl, rfl⟩
def syntax_report_numbers_l1 (s : ApiStmt) (o0 : SyntaxReport) (last : Int) (v58 : Int) : Option SyntaxReport :=
  if (decide (v58 < ((s.Numbers).length : Int))) = true then
    idx s.Numbers v58 >>= fun x10 =>
    syntax_inside x10 0 1048576 >>= fun x11 =>
    syntax_report_number (bif x11 then (decide (x10 > last)) else false) o0 >>= fun x12 =>
    syntax_report_numbers_l1 s x12 x10 (IntKind.i64.wrap (v58 + 1))
  else
    some o0
  partial_fixpoint
abbrev syntax_report_numbers_l1_m (s : ApiStmt) (o0 : SyntaxReport) (last : Int) (v58 : Int) (res : SyntaxReport) : Prop := ALoop (Fx.mk C 73 1) (lo (bk (sr (sr (sr (ca (sr (cb (sr (cb (sr (cb (sr (bk (sr (sr (bodyOf Tryz.f145))))))))))))))))) (mkEnv [(0, .ref 0 0), (5, .d (.int .i64 last)), (56, .d (.sl (ei64.rows s.Numbers))), (57, .d (.int .i64 ((s.Numbers).length : Int))), (58, .d (.int .i64 v58))]) [.row (SyntaxReport.cells o0) 75] (Am.InBlock 1 (Am.InBlock 0 (Am.Ends (Fx.mk C 73 1) Tryz.f145.results.toList (fun x H' => H' = [.row (SyntaxReport.cells res) 75] ∧ x = .tup []))))
theorem syntax_report_numbers_l1_grp (s : ApiStmt) : (∀ (o0 : SyntaxReport) (last : Int) (v58 : Int) (res : SyntaxReport), syntax_report_numbers_l1 s o0 last v58 = some res → syntax_report_numbers_l1_m s o0 last v58 res) := by
  refine syntax_report_numbers_l1.partial_correctness s
    (fun o0 last v58 res => syntax_report_numbers_l1_m s o0 last v58 res) ?_
  · intro g0 ih0 o0 last v58 res hh
    refine ALoop.unroll ?_
    refine s' rfl rfl (q' rfl (n' (S' ?_)))
    refine ci' rfl hh (fun hh => ?_) (fun hh => ?_)
    · obtain ⟨x10, hx10, hh⟩ := bs' hh
      obtain ⟨x11, hx11, hh⟩ := bs' hh
      obtain ⟨x12, hx12, hh⟩ := bs' hh
      refine sk' (S' (AEx.block (s' rfl rfl (i' rfl (idx_nat hx10) (ei64.idx hx10) rfl (q' rfl (q' rfl (n' (sg' 8 rfl (a0' rfl (a0' rfl (AG.c rfl rfl (fun _ => trivial) (fun _ => syntax_inside_ok hx11) (a0' rfl (a0' rfl ?_)))))))))))))
      refine a0' rfl (a2' rfl (pa' rfl (an' (AOps.g [0] rfl (syntax_report_number_ok hx12) ⟨.rfl, ⟨.rfl, trivial⟩⟩ rfl ⟨rfl, trivial⟩ rfl rfl (n' (R' rfl rfl (q' rfl (q' rfl (n' (R' rfl rfl (q' rfl (q' rfl (n' ?_)))))))))))))
      refine ALoop.wk ?_ (ih0 _ _ _ _ hh)
      exact ⟨⟨⟨.rfl, rfl⟩, ⟨⟨.rfl, rfl⟩, ⟨⟨.rfl, rfl⟩, ⟨⟨.rfl, rfl⟩, ⟨⟨.rfl, rfl⟩, trivial⟩⟩⟩⟩⟩, ⟨⟨rfl, .refl _, rfl⟩, trivial⟩, rfl⟩
    refine ex' ?_
    obtain rfl := oi' hh
    exact ⟨_, _, [.row (SyntaxReport.cells o0) 75], rfl, .rfl, ⟨⟨rfl, .refl _, rfl⟩, trivial⟩, rfl, rfl, rfl, rfl⟩
theorem syntax_report_numbers_l1_ok {s : ApiStmt} {o0 : SyntaxReport} {last : Int} {v58 : Int} {res : SyntaxReport} (hh : syntax_report_numbers_l1 s o0 last v58 = some res) : syntax_report_numbers_l1_m s o0 last v58 res := (syntax_report_numbers_l1_grp s) _ _ _ _ hh
def syntax_report_numbers (s : ApiStmt) (syntaxReport : SyntaxReport) : Option SyntaxReport :=
  if (s.Verb == 4) = true then
    syntax_inside s.NV 0 1048576 >>= fun x1 =>
    syntax_report_number x1 syntaxReport >>= fun x2 =>
    some x2
  else
    if (s.Verb == 6) = true then
      syntax_inside s.NV 0 4096 >>= fun x3 =>
      syntax_report_number x3 syntaxReport >>= fun x4 =>
      some x4
    else
      if (s.Verb == 7) = true then
        syntax_inside s.Low (-1048576) 1048576 >>= fun x5 =>
        (if x5 = true then syntax_inside s.High s.Low 1048576 else some default) >>= fun x6 =>
        syntax_report_number (bif (bif x5 then x6 else false) then (decide ((IntKind.i64.wrap (s.High - s.Low)) < 4096)) else false) syntaxReport >>= fun x7 =>
        some x7
      else
        if (s.Verb == 8) = true then
          syntax_inside ((s.Numbers).length : Int) 1 32 >>= fun x8 =>
          syntax_report_number x8 syntaxReport >>= fun x9 =>
          syntax_report_numbers_l1 s x9 (-1) 0
        else
          some syntaxReport
abbrev syntax_report_numbers_m (s : ApiStmt) (syntaxReport : SyntaxReport) (res : SyntaxReport) : Prop := ACall C 145 [.ref 0 0, .agg (ApiStmt.cells s)] [.row (SyntaxReport.cells syntaxReport) 75] (fun x H' => H' = [.row (SyntaxReport.cells res) 75] ∧ x = .tup [])
theorem syntax_report_numbers_ok {s : ApiStmt} {syntaxReport : SyntaxReport} {res : SyntaxReport} (hh : syntax_report_numbers s syntaxReport = some res) : syntax_report_numbers_m s syntaxReport res := by
  unfold syntax_report_numbers at hh
  refine ACall.intro hC Tryz.func145 rfl rfl rfl ?_
  refine s' rfl rfl (AOps.n hC rfl (n' (s' rfl rfl (q' rfl (q' rfl (n' (AEx.block (s' rfl rfl (q' rfl (q' rfl (n' ?_)))))))))))
  refine ci' rfl hh (fun hh => ?_) (fun hh => ?_)
  · obtain ⟨x1, hx1, hh⟩ := bs' hh
    obtain ⟨x2, hx2, hh⟩ := bs' hh
    refine R' rfl rfl (q' rfl (q' rfl (q' rfl (AOps.c rfl rfl (syntax_inside_ok hx1) (AOps.g [0] rfl (syntax_report_number_ok hx2) ⟨.rfl, ⟨.rfl, trivial⟩⟩ rfl ⟨rfl, trivial⟩ rfl rfl (n' ?_))))))
    obtain rfl := oi' hh
    exact ⟨_, _, [.row (SyntaxReport.cells x2) 75], rfl, .rfl, ⟨⟨rfl, .refl _, rfl⟩, trivial⟩, rfl, rfl, rfl, rfl⟩
  refine s' rfl rfl (q' rfl (q' rfl (n' ?_)))
  refine ci' rfl hh (fun hh => ?_) (fun hh => ?_)
  · obtain ⟨x3, hx3, hh⟩ := bs' hh
    obtain ⟨x4, hx4, hh⟩ := bs' hh
    refine R' rfl rfl (q' rfl (q' rfl (q' rfl (AOps.c rfl rfl (syntax_inside_ok hx3) (AOps.g [0] rfl (syntax_report_number_ok hx4) ⟨.rfl, ⟨.rfl, trivial⟩⟩ rfl ⟨rfl, trivial⟩ rfl rfl (n' ?_))))))
    obtain rfl := oi' hh
    exact ⟨_, _, [.row (SyntaxReport.cells x4) 75], rfl, .rfl, ⟨⟨rfl, .refl _, rfl⟩, trivial⟩, rfl, rfl, rfl, rfl⟩
  refine s' rfl rfl (q' rfl (q' rfl (n' ?_)))
  refine ci' rfl hh (fun hh => ?_) (fun hh => ?_)
  · obtain ⟨x5, hx5, hh⟩ := bs' hh
    obtain ⟨x6, hx6, hh⟩ := bs' hh
    obtain ⟨x7, hx7, hh⟩ := bs' hh
    refine sg' 11 rfl (a0' rfl (a0' rfl (AG.c rfl rfl (fun _ => trivial) (fun _ => syntax_inside_ok hx5) (a0' rfl (a0' rfl (a1' rfl (a0' rfl (a1' rfl (AG.c rfl rfl (fun hg => ⟨hg, hg, trivial⟩) (fun hw => syntax_inside_ok (if_t hw hx6)) (pa' rfl (a0' rfl (an' (n' ?_)))))))))))))
    refine AEx.regionG 10 rfl (a0' rfl (a0' rfl (a0' rfl (a0' rfl (a1' rfl (a0' rfl (a1' rfl (a2' rfl (a1' rfl (pa' rfl (an' (AOps.g [0] rfl (syntax_report_number_ok hx7) ⟨.rfl, ⟨.rfl, trivial⟩⟩ rfl ⟨rfl, trivial⟩ rfl rfl (n' ?_)))))))))))))
    obtain rfl := oi' hh
    exact ⟨_, _, [.row (SyntaxReport.cells x7) 75], rfl, .rfl, ⟨⟨rfl, .refl _, rfl⟩, trivial⟩, rfl, rfl, rfl, rfl⟩
  refine s' rfl rfl (q' rfl (q' rfl (n' ?_)))
  refine ci' rfl hh (fun hh => ?_) (fun hh => ?_)
  · obtain ⟨x8, hx8, hh⟩ := bs' hh
    obtain ⟨x9, hx9, hh⟩ := bs' hh
    refine s' rfl rfl (q' rfl (q' rfl (q' rfl (qe' rfl trivial (ei64.lenA _) (AOps.c rfl rfl (syntax_inside_ok hx8) (AOps.g [0] rfl (syntax_report_number_ok hx9) ⟨.rfl, ⟨.rfl, trivial⟩⟩ rfl ⟨rfl, trivial⟩ rfl rfl (n' (s' rfl rfl (q' rfl (n' (s' rfl rfl (q' rfl (q' rfl ?_)))))))))))))
    refine qe' rfl trivial (ei64.lenA _) (q' rfl (n' (AEx.block ?_)))
    refine AEx.ofLoop ?_
    refine ALoop.wk ?_ (syntax_report_numbers_l1_ok hh)
    exact ⟨⟨⟨.rfl, rfl⟩, ⟨⟨.rfl, rfl⟩, ⟨⟨.rfl, rfl⟩, ⟨⟨.rfl, rfl⟩, ⟨⟨.rfl, rfl⟩, trivial⟩⟩⟩⟩⟩, ⟨⟨rfl, .refl _, rfl⟩, trivial⟩, rfl⟩
  refine sk' ?_
  obtain rfl := oi' hh
  exact ⟨_, _, [.row (SyntaxReport.cells syntaxReport) 75], rfl, .rfl, ⟨⟨rfl, .refl _, rfl⟩, trivial⟩, rfl, rfl, rfl, rfl⟩
mutual
def syntax_report_stmts (l : List ApiStmt) (nesting : Int) (syntaxReport : SyntaxReport) : Option SyntaxReport :=
  syntax_report_stmts_l1 l nesting syntaxReport 0
  partial_fixpoint
def syntax_report_stmts_l1 (l : List ApiStmt) (nesting : Int) (o03 : SyntaxReport) (v14 : Int) : Option SyntaxReport :=
  if (decide (v14 < ((l).length : Int))) = true then
    idx l v14 >>= fun x1 =>
    syntax_report_deep nesting (SyntaxReport.mk (IntKind.i64.wrap (o03.nodes + 1)) o03.depth o03.badForm o03.badName o03.badNumber) >>= fun x2 =>
    syntax_statement x1.Verb >>= fun x3 =>
    syntax_report_form x3.2 x2 >>= fun x4 =>
    syntax_report_optional x1.Place x3.1.place x4 >>= fun x5 =>
    if x3.1.place = true then
      syntax_place x1.Place >>= fun x6 =>
      syntax_report_form x6 x5 >>= fun x7 =>
      syntax_report_stmts_j2 l nesting x7 x1 x3 v14
    else
      syntax_report_stmts_j2 l nesting x5 x1 x3 v14
  else
    some o03
  partial_fixpoint
def syntax_report_stmts_j2 (l : List ApiStmt) (nesting : Int) (o0 : SyntaxReport) (x1 : ApiStmt) (x3 : SyntaxUses × Bool) (v141 : Int) : Option SyntaxReport :=
  syntax_report_optional x1.Value x3.1.value o0 >>= fun x8 =>
  syntax_report_form (bif x3.1.name then true else (x1.Name == [])) x8 >>= fun x9 =>
  if x3.1.name = true then
    syntax_report_name x1.Name x9 >>= fun x10 =>
    syntax_report_stmts_j3 l nesting x10 x1 x3 v141
  else
    syntax_report_stmts_j3 l nesting x9 x1 x3 v141
  partial_fixpoint
def syntax_report_stmts_j3 (l : List ApiStmt) (nesting : Int) (o01 : SyntaxReport) (x1 : ApiStmt) (x3 : SyntaxUses × Bool) (v142 : Int) : Option SyntaxReport :=
  syntax_report_form (bif x3.1.args then true else (((x1.Args).length : Int) == 0)) o01 >>= fun x11 =>
  syntax_report_stmts_l4 l nesting x11 x1 x3 v142 0
  partial_fixpoint
def syntax_report_stmts_l4 (l : List ApiStmt) (nesting : Int) (o02 : SyntaxReport) (x1 : ApiStmt) (x3 : SyntaxUses × Bool) (v143 : Int) (v84 : Int) : Option SyntaxReport :=
  if (decide (v84 < ((x1.Args).length : Int))) = true then
    idx x1.Args v84 >>= fun x12 =>
    syntax_report_expr x12 1 o02 >>= fun x13 =>
    syntax_report_stmts_l4 l nesting x13 x1 x3 v143 (IntKind.i64.wrap (v84 + 1))
  else
    syntax_report_form (bif x3.1.n then true else (x1.NV == 0)) o02 >>= fun x14 =>
    syntax_report_form (bif x3.1.bounds then true else (bif (x1.Low == 0) then (x1.High == 0) else false)) x14 >>= fun x15 =>
    syntax_report_form (bif x3.1.numbers then true else (((x1.Numbers).length : Int) == 0)) x15 >>= fun x16 =>
    syntax_report_form (bif x3.1.thenV then true else (((x1.Then).length : Int) == 0)) x16 >>= fun x17 =>
    syntax_report_form (bif x3.1.other then true else (((x1.Else).length : Int) == 0)) x17 >>= fun x18 =>
    syntax_report_numbers x1 x18 >>= fun x19 =>
    syntax_report_stmts x1.Then (IntKind.i64.wrap (nesting + 1)) x19 >>= fun x20 =>
    syntax_report_stmts x1.Else (IntKind.i64.wrap (nesting + 1)) x20 >>= fun x21 =>
    syntax_report_stmts_l1 l nesting x21 (IntKind.i64.wrap (v143 + 1))
  partial_fixpoint
end
abbrev syntax_report_stmts_m (l : List ApiStmt) (nesting : Int) (syntaxReport : SyntaxReport) (res : SyntaxReport) : Prop := ACall C 81 [.ref 0 0, .d (.sl (ApiStmt.rows l)), .d (.int .i64 nesting)] [.row (SyntaxReport.cells syntaxReport) 75] (fun x H' => H' = [.row (SyntaxReport.cells res) 75] ∧ x = .tup [])
abbrev syntax_report_stmts_l1_m (l : List ApiStmt) (nesting : Int) (o03 : SyntaxReport) (v14 : Int) (res : SyntaxReport) : Prop := ALoop (Fx.mk C 161 1) (lo (bk (sr (bodyOf Tryz.f81)))) (mkEnv [(0, .ref 0 0), (2, .d (.int .i64 nesting)), (12, .d (.sl (ApiStmt.rows l))), (13, .d (.int .i64 ((l).length : Int))), (14, .d (.int .i64 v14))]) [.row (SyntaxReport.cells o03) 75] (Am.InBlock 0 (Am.Ends (Fx.mk C 161 1) Tryz.f81.results.toList (fun x H' => H' = [.row (SyntaxReport.cells res) 75] ∧ x = .tup [])))
abbrev syntax_report_stmts_j2_m (l : List ApiStmt) (nesting : Int) (o0 : SyntaxReport) (x1 : ApiStmt) (x3 : SyntaxUses × Bool) (v141 : Int) (res : SyntaxReport) : Prop := AEx (Fx.mk C 161 1) (sr (sr (sr (sr (sr (sr (sr (bk (sl (sr (sr (lo (bk (sr (bodyOf Tryz.f81))))))))))))))) (mkEnv [(0, .ref 0 0), (2, .d (.int .i64 nesting)), (7, .ref 1 0), (8, .ref 2 0), (12, .d (.sl (ApiStmt.rows l))), (13, .d (.int .i64 ((l).length : Int))), (14, .d (.int .i64 v141))]) [.row (SyntaxReport.cells o0) 75, .row (ApiStmt.cells x1) 68, .row (SyntaxUses.cells x3.1) 156] (Am.InBlock 1 (Am.Then (Fx.mk C 161 1) (sr (sr (sr (lo (bk (sr (bodyOf Tryz.f81))))))) (Am.Again (Fx.mk C 161 1) (lo (bk (sr (bodyOf Tryz.f81)))) (Am.InBlock 0 (Am.Ends (Fx.mk C 161 1) Tryz.f81.results.toList (fun x H' => H' = [.row (SyntaxReport.cells res) 75] ∧ x = .tup []))))))
abbrev syntax_report_stmts_j3_m (l : List ApiStmt) (nesting : Int) (o01 : SyntaxReport) (x1 : ApiStmt) (x3 : SyntaxUses × Bool) (v142 : Int) (res : SyntaxReport) : Prop := AEx (Fx.mk C 161 1) (sr (sr (sr (sr (sr (sr (sr (sr (sr (sr (bk (sl (sr (sr (lo (bk (sr (bodyOf Tryz.f81)))))))))))))))))) (mkEnv [(0, .ref 0 0), (2, .d (.int .i64 nesting)), (7, .ref 1 0), (8, .ref 2 0), (12, .d (.sl (ApiStmt.rows l))), (13, .d (.int .i64 ((l).length : Int))), (14, .d (.int .i64 v142))]) [.row (SyntaxReport.cells o01) 75, .row (ApiStmt.cells x1) 68, .row (SyntaxUses.cells x3.1) 156] (Am.InBlock 1 (Am.Then (Fx.mk C 161 1) (sr (sr (sr (lo (bk (sr (bodyOf Tryz.f81))))))) (Am.Again (Fx.mk C 161 1) (lo (bk (sr (bodyOf Tryz.f81)))) (Am.InBlock 0 (Am.Ends (Fx.mk C 161 1) Tryz.f81.results.toList (fun x H' => H' = [.row (SyntaxReport.cells res) 75] ∧ x = .tup []))))))
abbrev syntax_report_stmts_l4_m (l : List ApiStmt) (nesting : Int) (o02 : SyntaxReport) (x1 : ApiStmt) (x3 : SyntaxUses × Bool) (v143 : Int) (v84 : Int) (res : SyntaxReport) : Prop := ALoop (Fx.mk C 161 1) (lo (bk (sr (sl (sr (sr (sr (sr (sr (sr (sr (sr (sr (sr (sr (bk (sl (sr (sr (lo (bk (sr (bodyOf Tryz.f81))))))))))))))))))))))) (mkEnv [(0, .ref 0 0), (2, .d (.int .i64 nesting)), (7, .ref 1 0), (8, .ref 2 0), (12, .d (.sl (ApiStmt.rows l))), (13, .d (.int .i64 ((l).length : Int))), (14, .d (.int .i64 v143)), (82, .d (.sl (ApiExpr.rows x1.Args))), (83, .d (.int .i64 ((x1.Args).length : Int))), (84, .d (.int .i64 v84))]) [.row (SyntaxReport.cells o02) 75, .row (ApiStmt.cells x1) 68, .row (SyntaxUses.cells x3.1) 156] (Am.InBlock 2 (Am.Then (Fx.mk C 161 1) (sr (sr (sr (sr (sr (sr (sr (sr (sr (sr (sr (sr (bk (sl (sr (sr (lo (bk (sr (bodyOf Tryz.f81)))))))))))))))))))) (Am.InBlock 1 (Am.Then (Fx.mk C 161 1) (sr (sr (sr (lo (bk (sr (bodyOf Tryz.f81))))))) (Am.Again (Fx.mk C 161 1) (lo (bk (sr (bodyOf Tryz.f81)))) (Am.InBlock 0 (Am.Ends (Fx.mk C 161 1) Tryz.f81.results.toList (fun x H' => H' = [.row (SyntaxReport.cells res) 75] ∧ x = .tup []))))))))
theorem syntax_report_stmts_grp : (∀ (l : List ApiStmt) (nesting : Int) (syntaxReport : SyntaxReport) (res : SyntaxReport), syntax_report_stmts l nesting syntaxReport = some res → syntax_report_stmts_m l nesting syntaxReport res) ∧
    (∀ (l : List ApiStmt) (nesting : Int) (o03 : SyntaxReport) (v14 : Int) (res : SyntaxReport), syntax_report_stmts_l1 l nesting o03 v14 = some res → syntax_report_stmts_l1_m l nesting o03 v14 res) ∧
    (∀ (l : List ApiStmt) (nesting : Int) (o0 : SyntaxReport) (x1 : ApiStmt) (x3 : SyntaxUses × Bool) (v141 : Int) (res : SyntaxReport), syntax_report_stmts_j2 l nesting o0 x1 x3 v141 = some res → syntax_report_stmts_j2_m l nesting o0 x1 x3 v141 res) ∧
    (∀ (l : List ApiStmt) (nesting : Int) (o01 : SyntaxReport) (x1 : ApiStmt) (x3 : SyntaxUses × Bool) (v142 : Int) (res : SyntaxReport), syntax_report_stmts_j3 l nesting o01 x1 x3 v142 = some res → syntax_report_stmts_j3_m l nesting o01 x1 x3 v142 res) ∧
    (∀ (l : List ApiStmt) (nesting : Int) (o02 : SyntaxReport) (x1 : ApiStmt) (x3 : SyntaxUses × Bool) (v143 : Int) (v84 : Int) (res : SyntaxReport), syntax_report_stmts_l4 l nesting o02 x1 x3 v143 v84 = some res → syntax_report_stmts_l4_m l nesting o02 x1 x3 v143 v84 res) := by
  refine syntax_report_stmts.mutual_partial_correctness (fun l nesting syntaxReport res => syntax_report_stmts_m l nesting syntaxReport res)
    (fun l nesting o03 v14 res => syntax_report_stmts_l1_m l nesting o03 v14 res)
    (fun l nesting o0 x1 x3 v141 res => syntax_report_stmts_j2_m l nesting o0 x1 x3 v141 res)
    (fun l nesting o01 x1 x3 v142 res => syntax_report_stmts_j3_m l nesting o01 x1 x3 v142 res)
    (fun l nesting o02 x1 x3 v143 v84 res => syntax_report_stmts_l4_m l nesting o02 x1 x3 v143 v84 res) ?_ ?_ ?_ ?_ ?_
  · intro g1 ih1 l nesting syntaxReport res hh
    refine ACall.intro hC Tryz.func81 rfl rfl rfl ?_
    refine s' rfl rfl (q' rfl (qe' rfl trivial (ApiStmt.lenA _) (q' rfl (n' (AEx.block ?_)))))
    refine AEx.ofLoop ?_
    refine ALoop.wk ?_ (ih1 _ _ _ _ _ hh)
    exact ⟨⟨⟨.rfl, rfl⟩, ⟨⟨.rfl, rfl⟩, ⟨⟨.rfl, rfl⟩, ⟨⟨.rfl, rfl⟩, ⟨⟨.rfl, rfl⟩, trivial⟩⟩⟩⟩⟩, ⟨⟨rfl, .refl _, rfl⟩, trivial⟩, rfl⟩
  · intro g2 ih2 l nesting o03 v14 res hh
    refine ALoop.unroll ?_
    refine s' rfl rfl (q' rfl (n' (S' ?_)))
    refine ci' rfl hh (fun hh => ?_) (fun hh => ?_)
    · obtain ⟨x1, hx1, hh⟩ := bs' hh
      obtain ⟨x2, hx2, hh⟩ := bs' hh
      obtain ⟨x3, hx3, hh⟩ := bs' hh
      obtain ⟨x4, hx4, hh⟩ := bs' hh
      obtain ⟨x5, hx5, hh⟩ := bs' hh
      refine sk' (S' (AEx.block (s' rfl rfl (i' rfl (idx_nat hx1) (ApiStmt.idx hx1) rfl (q' rfl (AOps.nf hC rfl (AOps.s hC rfl (n' (s' rfl rfl (q' rfl (q' rfl (q' rfl (q' rfl ?_)))))))))))))
      refine q' rfl (q' rfl (q' rfl (AOps.s hC rfl (n' (s' rfl rfl (q' rfl (q' rfl (AOps.g [0] rfl (syntax_report_deep_ok hx2) ⟨.rfl, ⟨.rfl, trivial⟩⟩ rfl ⟨rfl, trivial⟩ rfl rfl (n' (s' rfl rfl (q' rfl (q' rfl (AOps.c rfl rfl (syntax_statement_ok hx3) ?_)))))))))))))
      refine q' rfl (q' rfl (q' rfl (AOps.n hC rfl (AOps.s hC rfl (q' rfl (n' (s' rfl rfl (q' rfl (q' rfl (AOps.g [0] rfl (syntax_report_form_ok hx4) ⟨.rfl, ⟨.rfl, trivial⟩⟩ rfl ⟨rfl, trivial⟩ rfl rfl (n' (s' rfl rfl (q' rfl ?_)))))))))))))
      iterate 4 refine q' rfl ?_
      refine AOps.g [0] rfl (syntax_report_optional_ok hx5) ⟨.rfl, ⟨.rfl, ⟨.rfl, trivial⟩⟩⟩ rfl ⟨rfl, trivial⟩ rfl rfl (n' (S' (s' rfl rfl (q' rfl (q' rfl (n' ?_))))))
      refine ci' rfl hh (fun hh => ?_) (fun hh => ?_)
      · obtain ⟨x6, hx6, hh⟩ := bs' hh
        obtain ⟨x7, hx7, hh⟩ := bs' hh
        refine R' rfl rfl (q' rfl (q' rfl (q' rfl (AOps.c rfl rfl (syntax_place_ok hx6) (AOps.g [0] rfl (syntax_report_form_ok hx7) ⟨.rfl, ⟨.rfl, trivial⟩⟩ rfl ⟨rfl, trivial⟩ rfl rfl (n' ?_))))))
        refine AEx.wk ?_ (ih2 _ _ _ _ _ _ _ hh)
        exact ⟨⟨⟨.rfl, rfl⟩, ⟨⟨.rfl, rfl⟩, ⟨⟨.rfl, rfl⟩, ⟨⟨.rfl, rfl⟩, ⟨⟨.rfl, rfl⟩, ⟨⟨.rfl, rfl⟩, ⟨⟨.rfl, rfl⟩, trivial⟩⟩⟩⟩⟩⟩⟩, ⟨⟨rfl, .refl _, rfl⟩, ⟨⟨rfl, .refl _, rfl⟩, ⟨⟨rfl, .refl _, rfl⟩, trivial⟩⟩⟩, rfl⟩
      refine sk' ?_
      refine AEx.wk ?_ (ih2 _ _ _ _ _ _ _ hh)
      exact ⟨⟨⟨.rfl, rfl⟩, ⟨⟨.rfl, rfl⟩, ⟨⟨.rfl, rfl⟩, ⟨⟨.rfl, rfl⟩, ⟨⟨.rfl, rfl⟩, ⟨⟨.rfl, rfl⟩, ⟨⟨.rfl, rfl⟩, trivial⟩⟩⟩⟩⟩⟩⟩, ⟨⟨rfl, .refl _, rfl⟩, ⟨⟨rfl, .refl _, rfl⟩, ⟨⟨rfl, .refl _, rfl⟩, trivial⟩⟩⟩, rfl⟩
    refine ex' ?_
    obtain rfl := oi' hh
    exact ⟨_, _, [.row (SyntaxReport.cells o03) 75], rfl, .rfl, ⟨⟨rfl, .refl _, rfl⟩, trivial⟩, rfl, rfl, rfl, rfl⟩
  · intro g3 ih3 l nesting o0 x1 x3 v141 res hh
    obtain ⟨x8, hx8, hh⟩ := bs' hh
    obtain ⟨x9, hx9, hh⟩ := bs' hh
    refine s' rfl rfl (q' rfl (q' rfl (q' rfl (q' rfl (q' rfl (AOps.g [0] rfl (syntax_report_optional_ok hx8) ⟨.rfl, ⟨.rfl, ⟨.rfl, trivial⟩⟩⟩ rfl ⟨rfl, trivial⟩ rfl rfl (n' (sg' 8 rfl (a0' rfl (a0' rfl (a0' rfl (a0' rfl (a0' rfl ?_)))))))))))))
    refine a1' rfl (a1' rfl (po' rfl (an' (AOps.g [0] rfl (syntax_report_form_ok hx9) ⟨.rfl, ⟨.rfl, trivial⟩⟩ rfl ⟨rfl, trivial⟩ rfl rfl (n' (S' (s' rfl rfl (q' rfl (q' rfl (n' ?_))))))))))
    refine ci' rfl hh (fun hh => ?_) (fun hh => ?_)
    · obtain ⟨x10, hx10, hh⟩ := bs' hh
      refine R' rfl rfl (q' rfl (q' rfl (q' rfl (AOps.g [0] rfl (syntax_report_name_ok hx10) ⟨.rfl, ⟨.rfl, trivial⟩⟩ rfl ⟨rfl, trivial⟩ rfl rfl (n' ?_)))))
      refine AEx.wk ?_ (ih3 _ _ _ _ _ _ _ hh)
      exact ⟨⟨⟨.rfl, rfl⟩, ⟨⟨.rfl, rfl⟩, ⟨⟨.rfl, rfl⟩, ⟨⟨.rfl, rfl⟩, ⟨⟨.rfl, rfl⟩, ⟨⟨.rfl, rfl⟩, ⟨⟨.rfl, rfl⟩, trivial⟩⟩⟩⟩⟩⟩⟩, ⟨⟨rfl, .refl _, rfl⟩, ⟨⟨rfl, .refl _, rfl⟩, ⟨⟨rfl, .refl _, rfl⟩, trivial⟩⟩⟩, rfl⟩
    refine sk' ?_
    refine AEx.wk ?_ (ih3 _ _ _ _ _ _ _ hh)
    exact ⟨⟨⟨.rfl, rfl⟩, ⟨⟨.rfl, rfl⟩, ⟨⟨.rfl, rfl⟩, ⟨⟨.rfl, rfl⟩, ⟨⟨.rfl, rfl⟩, ⟨⟨.rfl, rfl⟩, ⟨⟨.rfl, rfl⟩, trivial⟩⟩⟩⟩⟩⟩⟩, ⟨⟨rfl, .refl _, rfl⟩, ⟨⟨rfl, .refl _, rfl⟩, ⟨⟨rfl, .refl _, rfl⟩, trivial⟩⟩⟩, rfl⟩
  · intro g4 ih4 l nesting o01 x1 x3 v142 res hh
    obtain ⟨x11, hx11, hh⟩ := bs' hh
    refine sg' 9 rfl (a0' rfl (a0' rfl (a0' rfl (a0' rfl (a0' rfl (a1' rfl (AG.qe hC rfl (fun hg => ⟨⟨hg, trivial⟩, trivial⟩) (ApiExpr.lenA _) (a1' rfl (po' rfl (an' (AOps.g [0] rfl (syntax_report_form_ok hx11) ⟨.rfl, ⟨.rfl, trivial⟩⟩ rfl ⟨rfl, trivial⟩ rfl rfl (n' (S' ?_)))))))))))))
    refine s' rfl rfl (q' rfl (q' rfl (qe' rfl trivial (ApiExpr.lenA _) (q' rfl (n' (AEx.block ?_))))))
    refine AEx.ofLoop ?_
    refine ALoop.wk ?_ (ih4 _ _ _ _ _ _ _ _ hh)
    exact ⟨⟨⟨.rfl, rfl⟩, ⟨⟨.rfl, rfl⟩, ⟨⟨.rfl, rfl⟩, ⟨⟨.rfl, rfl⟩, ⟨⟨.rfl, rfl⟩, ⟨⟨.rfl, rfl⟩, ⟨⟨.rfl, rfl⟩, ⟨⟨.rfl, rfl⟩, ⟨⟨.rfl, rfl⟩, ⟨⟨.rfl, rfl⟩, trivial⟩⟩⟩⟩⟩⟩⟩⟩⟩⟩, ⟨⟨rfl, .refl _, rfl⟩, ⟨⟨rfl, .refl _, rfl⟩, ⟨⟨rfl, .refl _, rfl⟩, trivial⟩⟩⟩, rfl⟩
  · intro g0 g1 g4 ih0 ih1 ih4 l nesting o02 x1 x3 v143 v84 res hh
    refine ALoop.unroll ?_
    refine s' rfl rfl (q' rfl (n' (S' ?_)))
    refine ci' rfl hh (fun hh => ?_) (fun hh => ?_)
    · obtain ⟨x12, hx12, hh⟩ := bs' hh
      obtain ⟨x13, hx13, hh⟩ := bs' hh
      refine sk' (S' (AEx.block (s' rfl rfl (i' rfl (idx_nat hx12) (ApiExpr.idx hx12) rfl (q' rfl (AOps.nf hC rfl (AOps.s hC rfl (n' (R' rfl rfl (q' rfl (q' rfl (AOps.g [0] rfl (syntax_report_expr_ok hx13) ⟨.rfl, ⟨.rfl, ⟨.rfl, trivial⟩⟩⟩ rfl ⟨rfl, trivial⟩ rfl rfl (n' ?_)))))))))))))
      refine R' rfl rfl (q' rfl (q' rfl (n' ?_)))
      refine ALoop.wk ?_ (ih4 _ _ _ _ _ _ _ _ hh)
      exact ⟨⟨⟨.rfl, rfl⟩, ⟨⟨.rfl, rfl⟩, ⟨⟨.rfl, rfl⟩, ⟨⟨.rfl, rfl⟩, ⟨⟨.rfl, rfl⟩, ⟨⟨.rfl, rfl⟩, ⟨⟨.rfl, rfl⟩, ⟨⟨.rfl, rfl⟩, ⟨⟨.rfl, rfl⟩, ⟨⟨.rfl, rfl⟩, trivial⟩⟩⟩⟩⟩⟩⟩⟩⟩⟩, ⟨⟨rfl, .refl _, rfl⟩, ⟨⟨rfl, .refl _, rfl⟩, ⟨⟨rfl, .refl _, rfl⟩, trivial⟩⟩⟩, rfl⟩
    obtain ⟨x14, hx14, hh⟩ := bs' hh
    obtain ⟨x15, hx15, hh⟩ := bs' hh
    obtain ⟨x16, hx16, hh⟩ := bs' hh
    obtain ⟨x17, hx17, hh⟩ := bs' hh
    obtain ⟨x18, hx18, hh⟩ := bs' hh
    obtain ⟨x19, hx19, hh⟩ := bs' hh
    obtain ⟨x20, hx20, hh⟩ := bs' hh
    obtain ⟨x21, hx21, hh⟩ := bs' hh
    refine ex' (sg' 8 rfl (a0' rfl (a0' rfl (a0' rfl (a0' rfl (a0' rfl (a1' rfl (a1' rfl (po' rfl (an' (AOps.g [0] rfl (syntax_report_form_ok hx14) ⟨.rfl, ⟨.rfl, trivial⟩⟩ rfl ⟨rfl, trivial⟩ rfl rfl (n' (sg' 13 rfl ?_)))))))))))))
    iterate 5 refine a0' rfl ?_
    refine a1' rfl (a1' rfl (a1' rfl (a0' rfl (a1' rfl (a1' rfl (pA' rfl (po' rfl (an' (AOps.g [0] rfl (syntax_report_form_ok hx15) ⟨.rfl, ⟨.rfl, trivial⟩⟩ rfl ⟨rfl, trivial⟩ rfl rfl (n' (sg' 9 rfl (a0' rfl (a0' rfl ?_)))))))))))))
    refine a0' rfl (a0' rfl (a0' rfl (a1' rfl (AG.qe hC rfl (fun hg => ⟨⟨hg, trivial⟩, trivial⟩) (ei64.lenA _) (a1' rfl (po' rfl (an' (AOps.g [0] rfl (syntax_report_form_ok hx16) ⟨.rfl, ⟨.rfl, trivial⟩⟩ rfl ⟨rfl, trivial⟩ rfl rfl (n' (sg' 9 rfl (a0' rfl (a0' rfl (a0' rfl ?_)))))))))))))
    refine a0' rfl (a0' rfl (a1' rfl (AG.qe hC rfl (fun hg => ⟨⟨hg, trivial⟩, trivial⟩) (ApiStmt.lenA _) (a1' rfl (po' rfl (an' (AOps.g [0] rfl (syntax_report_form_ok hx17) ⟨.rfl, ⟨.rfl, trivial⟩⟩ rfl ⟨rfl, trivial⟩ rfl rfl (n' (sg' 9 rfl (a0' rfl (a0' rfl (a0' rfl (a0' rfl ?_)))))))))))))
    refine a0' rfl (a1' rfl (AG.qe hC rfl (fun hg => ⟨⟨hg, trivial⟩, trivial⟩) (ApiStmt.lenA _) (a1' rfl (po' rfl (an' (AOps.g [0] rfl (syntax_report_form_ok hx18) ⟨.rfl, ⟨.rfl, trivial⟩⟩ rfl ⟨rfl, trivial⟩ rfl rfl (n' (s' rfl rfl (q' rfl (q' rfl (AOps.g [0] rfl (syntax_report_numbers_ok hx19) ⟨.rfl, ⟨.rfl, trivial⟩⟩ rfl ⟨rfl, trivial⟩ rfl rfl (n' (s' rfl rfl ?_)))))))))))))
    iterate 5 refine q' rfl ?_
    refine AOps.g [0] rfl (ih0 _ _ _ _ hx20) ⟨.rfl, ⟨.rfl, ⟨.rfl, trivial⟩⟩⟩ rfl ⟨rfl, trivial⟩ rfl rfl (n' (R' rfl rfl (q' rfl (q' rfl (q' rfl (q' rfl (q' rfl (AOps.g [0] rfl (ih0 _ _ _ _ hx21) ⟨.rfl, ⟨.rfl, ⟨.rfl, trivial⟩⟩⟩ rfl ⟨rfl, trivial⟩ rfl rfl (n' (R' rfl rfl (q' rfl (q' rfl (n' ?_)))))))))))))
    refine ALoop.wk ?_ (ih1 _ _ _ _ _ hh)
    exact ⟨⟨⟨.rfl, rfl⟩, ⟨⟨.rfl, rfl⟩, ⟨⟨.rfl, rfl⟩, ⟨⟨.rfl, rfl⟩, ⟨⟨.rfl, rfl⟩, trivial⟩⟩⟩⟩⟩, ⟨⟨rfl, .refl _, rfl⟩, trivial⟩, rfl⟩
theorem syntax_report_stmts_ok {l : List ApiStmt} {nesting : Int} {syntaxReport : SyntaxReport} {res : SyntaxReport} (hh : syntax_report_stmts l nesting syntaxReport = some res) : syntax_report_stmts_m l nesting syntaxReport res := (syntax_report_stmts_grp).1 _ _ _ _ hh
theorem syntax_report_stmts_l1_ok {l : List ApiStmt} {nesting : Int} {o03 : SyntaxReport} {v14 : Int} {res : SyntaxReport} (hh : syntax_report_stmts_l1 l nesting o03 v14 = some res) : syntax_report_stmts_l1_m l nesting o03 v14 res := (syntax_report_stmts_grp).2.1 _ _ _ _ _ hh
theorem syntax_report_stmts_j2_ok {l : List ApiStmt} {nesting : Int} {o0 : SyntaxReport} {x1 : ApiStmt} {x3 : SyntaxUses × Bool} {v141 : Int} {res : SyntaxReport} (hh : syntax_report_stmts_j2 l nesting o0 x1 x3 v141 = some res) : syntax_report_stmts_j2_m l nesting o0 x1 x3 v141 res := (syntax_report_stmts_grp).2.2.1 _ _ _ _ _ _ _ hh
theorem syntax_report_stmts_j3_ok {l : List ApiStmt} {nesting : Int} {o01 : SyntaxReport} {x1 : ApiStmt} {x3 : SyntaxUses × Bool} {v142 : Int} {res : SyntaxReport} (hh : syntax_report_stmts_j3 l nesting o01 x1 x3 v142 = some res) : syntax_report_stmts_j3_m l nesting o01 x1 x3 v142 res := (syntax_report_stmts_grp).2.2.2.1 _ _ _ _ _ _ _ hh
theorem syntax_report_stmts_l4_ok {l : List ApiStmt} {nesting : Int} {o02 : SyntaxReport} {x1 : ApiStmt} {x3 : SyntaxUses × Bool} {v143 : Int} {v84 : Int} {res : SyntaxReport} (hh : syntax_report_stmts_l4 l nesting o02 x1 x3 v143 v84 = some res) : syntax_report_stmts_l4_m l nesting o02 x1 x3 v143 v84 res := (syntax_report_stmts_grp).2.2.2.2 _ _ _ _ _ _ _ _ hh
end Go.Proofs.YtmilgoloagbmpaaGreatDoor

