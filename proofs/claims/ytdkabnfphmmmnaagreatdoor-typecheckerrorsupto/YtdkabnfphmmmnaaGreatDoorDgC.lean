/- A part of the proof of TypecheckErrors. -/
import Derived.Test.YtdkabnfphmmmnaaGreatDoorDgB
set_option maxRecDepth 100000
set_option maxHeartbeats 4000000
set_option synthInstance.maxSize 2000
set_option linter.unusedVariables false
namespace Go.Proofs.YtdkabnfphmmmnaaGreatDoor
open Go.Am
def Gm (s : D0) : Option Bool :=
  if (s.Verb == 4) = true then
    some (bif (decide (s.NV ≥ 0)) then (decide (s.NV ≤ 1048576)) else false)
  else
    if (s.Verb == 6) = true then
      some (bif (decide (s.NV ≥ 0)) then (decide (s.NV ≤ 4096)) else false)
    else
      if (s.Verb == 7) = true then
        Bl s.Low >>= fun x1 =>
        (if x1 = true then Bl s.High else some default) >>= fun x2 =>
        some (bif (bif (bif x1 then x2 else false) then (decide (s.Low ≤ s.High)) else false) then (decide ((IntKind.i64.wrap ((IntKind.i64.wrap (s.High - s.Low)) + 1)) ≤ 4096)) else false)
      else
        if (s.Verb == 8) = true then
          if (bif (decide (((s.Numbers).length : Int) < 1)) then true else (decide (((s.Numbers).length : Int) > 32))) = true then
            some false
          else
            V8 s 0
        else
          some true
theorem G1k {s res} (hh : Gm s = some res) : S0 C 136 [.agg (D0.cells s)] [] (Ret [] (.d (.bool res))) := by
  unfold Gm at hh
  refine S0.intro hC Tryz.func136 rfl rfl rfl (s' rfl rfl (I0.n hC rfl (e' rfl (S' (t' rfl (ci' rfl hh (fun hh => ?_) (fun hh => ?_)))))))
  · cases hh
    exact sg' 9 rfl (G' 5 rfl (a1' rfl (a1' rfl (pa' rfl (a0' rfl (an' (n' (re' (rt' rfl rfl rfl)))))))))
  refine sk' (S' (t' rfl (ci' rfl hh (fun hh => ?_) (fun hh => ?_))))
  · cases hh
    exact sg' 9 rfl (G' 5 rfl (a1' rfl (a1' rfl (pa' rfl (a0' rfl (an' (n' (re' (rt' rfl rfl rfl)))))))))
  refine sk' (S' (t' rfl (ci' rfl hh (fun hh => ?_) (fun hh => ?_))))
  · obtain ⟨x1, hx1, hh⟩ := bs' hh
    obtain ⟨x2, hx2, hh⟩ := bs' hh
    cases hh
    refine sg' 25 rfl (G' 2 rfl (AG.c rfl rfl (fun _ => trivial) (fun _ => Zp hx1) (G' 2 rfl (a1' rfl (AG.c rfl rfl (fun hg => ⟨hg, trivial⟩) (fun hw => Zp (T1 hw hx2)) (pa' rfl (G' 2 rfl (a1' rfl (a0' rfl (a1' rfl (a2' rfl (pa' rfl (G' 2 rfl ?_)))))))))))))
    exact a1' rfl (a0' rfl (a1' rfl (a2' rfl (a1' rfl (a1' rfl (pa' rfl (a0' rfl (an' (n' (re' (rt' rfl rfl rfl)))))))))))
  refine sk' (S' (t' rfl (ci' rfl hh (fun hh => ?_) (fun hh => ?_))))
  · refine S' (sg' 10 rfl (G' 2 rfl (AG.qe hC rfl (fun hg => ⟨trivial, trivial⟩) (ei64.lenA _) (G' 3 rfl (a1' rfl (AG.qe hC rfl (fun hg => ⟨⟨hg, trivial⟩, trivial⟩) (ei64.lenA _) (a1' rfl (po' rfl (an' (n' (ci' rfl hh (fun hh => ?_) (fun hh => ?_))))))))))))
    · cases hh
      exact t' rfl (re' (rt' rfl rfl rfl))
    exact sk' (t' rfl (bk' (fw' (W1e hh) rfl rfl rfl)))
  cases hh
  exact sk' (t' rfl (re' (rt' rfl rfl rfl)))
mutual
def W8 (l : List D0) : Option Bool :=
  T9 l 0
  partial_fixpoint
def T9 (l : List D0) (i : Int) : Option Bool :=
  if (decide (i < ((l).length : Int))) = true then
    idx l i >>= fun x1 =>
    Gm x1 >>= fun x2 =>
    (if (!(!x2)) = true then S5 x1.Place else some default) >>= fun x3 =>
    (if (!(bif (!x2) then true else (!x3))) = true then S5 x1.Value else some default) >>= fun x4 =>
    (if (!(bif (bif (!x2) then true else (!x3)) then true else (!x4))) = true then W8 x1.Then else some default) >>= fun x5 =>
    (if (!(bif (bif (bif (!x2) then true else (!x3)) then true else (!x4)) then true else (!x5))) = true then W8 x1.Else else some default) >>= fun x6 =>
    if (bif (bif (bif (bif (!x2) then true else (!x3)) then true else (!x4)) then true else (!x5)) then true else (!x6)) = true then
      some false
    else
      Nc l x1 i 0
  else
    some true
  partial_fixpoint
def Nc (l : List D0) (x1 : D0) (i1 : Int) (k : Int) : Option Bool :=
  if (decide (k < ((x1.Args).length : Int))) = true then
    idx x1.Args k >>= fun x7 =>
    S5 x7 >>= fun x8 =>
    if (!x8) = true then
      some false
    else
      Nc l x1 i1 (IntKind.i64.wrap (k + 1))
  else
    T9 l (IntKind.i64.wrap (i1 + 1))
  partial_fixpoint
end
abbrev G13 (l : List D0) (res : Bool) : Prop := S0 C 71 [.d (.sl (D0.rows l))] [] (Ret [] (.d (.bool res)))
abbrev My (l : List D0) (i : Int) (res : Bool) : Prop := LM C 57 0 Tryz.f71 [1, 0, 1, 4] [(0, .d (.sl (D0.rows l))), (3, .d (.int .i64 i))] [] (Ret [] (.d (.bool res)))
abbrev Ny (l : List D0) (x1 : D0) (i1 : Int) (k : Int) (res : Bool) : Prop := LM C 57 0 Tryz.f71 [1, 0, 1, 4, 5, 1, 0, 4, 1, 1, 1, 4] [(0, .d (.sl (D0.rows l))), (3, .d (.int .i64 i1)), (4, .ref 0 0), (5, .d (.int .i64 k))] [.row (D0.cells x1) 53] (Ret [] (.d (.bool res)))
theorem Sq : (∀ l res, W8 l = some res → G13 l res) ∧ (∀ l i res, T9 l i = some res → My l i res) ∧ (∀ l x1 i1 k res, Nc l x1 i1 k = some res → Ny l x1 i1 k res) := by
  refine W8.mutual_partial_correctness _ _ _ ?_ ?_ ?_
  · intro g1 ih1 l res hh
    exact S0.intro hC Tryz.func71 rfl rfl rfl (t' rfl (S' (t' rfl (bk' (fw' (ih1 _ _ _ hh) rfl rfl rfl)))))
  · intro g0 g2 ih0 ih2 l i res hh
    refine Z0.unroll (S' (p' 2 rfl (qe' rfl trivial (D0.lenA _) (e' rfl (ci' rfl hh (fun hh => ?_) (fun hh => ?_))))))
    · obtain ⟨x1, hx1, hh⟩ := bs' hh
      obtain ⟨x2, hx2, hh⟩ := bs' hh
      obtain ⟨x3, hx3, hh⟩ := bs' hh
      obtain ⟨x4, hx4, hh⟩ := bs' hh
      obtain ⟨x5, hx5, hh⟩ := bs' hh
      obtain ⟨x6, hx6, hh⟩ := bs' hh
      refine sk' (S' (bk' (p' 2 rfl (i' rfl (W0 hx1) (D0.idx hx1) rfl (q' rfl (I0.nf hC rfl (I0.s hC rfl (n' (S' (sg' 27 rfl (a0' rfl (AG.c rfl rfl (fun _ => trivial) (fun _ => G1k hx2) (G' 3 rfl ?_)))))))))))))
      refine a1' rfl (AG.c rfl rfl (fun hg => ⟨hg, trivial⟩) (fun hw => Vm (T1 hw hx3)) (a1' rfl (po' rfl (G' 2 rfl (a1' rfl (AG.c rfl rfl (fun hg => ⟨hg, trivial⟩) (fun hw => Vm (T1 hw hx4)) (a1' rfl (po' rfl (G' 2 rfl (a1' rfl (AG.c rfl rfl (fun hg => ⟨hg, trivial⟩) (fun hw => ih0 _ _ (T1 hw hx5)) (a1' rfl (po' rfl ?_)))))))))))))
      refine G' 2 rfl (a1' rfl (AG.c rfl rfl (fun hg => ⟨hg, trivial⟩) (fun hw => ih0 _ _ (T1 hw hx6)) (a1' rfl (po' rfl (an' (n' (ci' rfl hh (fun hh => ?_) (fun hh => ?_))))))))
      · cases hh
        exact t' rfl (re' (rt' rfl rfl rfl))
      exact sk' (t' rfl (bk' (fw' (ih2 _ _ _ _ _ hh) rfl rfl rfl)))
    cases hh
    exact ex' (t' rfl (re' (rt' rfl rfl rfl)))
  · intro g1 g2 ih1 ih2 l x1 i1 k res hh
    refine Z0.unroll (S' (p' 3 rfl (qe' rfl trivial (C0.lenA _) (e' rfl (ci' rfl hh (fun hh => ?_) (fun hh => ?_))))))
    · obtain ⟨x7, hx7, hh⟩ := bs' hh
      obtain ⟨x8, hx8, hh⟩ := bs' hh
      refine sk' (S' (bk' (p' 3 rfl (i' rfl (W0 hx7) (C0.idx hx7) rfl (q' rfl (c' (Vm hx8) rfl rfl (e' rfl (ci' rfl hh (fun hh => ?_) (fun hh => ?_)))))))))
      · cases hh
        exact t' rfl (re' (rt' rfl rfl rfl))
      exact sk' (T' rfl (lw' (ih2 _ _ _ _ _ hh) rfl rfl rfl))
    exact ex' (T' rfl (lw' (ih1 _ _ _ hh) rfl rfl rfl))
theorem H11 {l res} (hh : W8 l = some res) : G13 l res := (Sq).1 _ _ hh
theorem S22 {l i res} (hh : T9 l i = some res) : My l i res := (Sq).2.1 _ _ _ hh
theorem T22 {l x1 i1 k res} (hh : Nc l x1 i1 k = some res) : Ny l x1 i1 k res := (Sq).2.2 _ _ _ _ _ hh
mutual
def Sa (l : List B0) : Option Bool :=
  U9 l 0
  partial_fixpoint
def U9 (l : List B0) (i : Int) : Option Bool :=
  if (decide (i < ((l).length : Int))) = true then
    idx l i >>= fun x1 =>
    Bl x1.Init >>= fun x2 =>
    if (bif (!x2) then true else (bif (x1.TypeV.Kind == 0) then (bif (decide (x1.Init < 0)) then true else (decide (x1.Init > 1))) else false)) = true then
      some false
    else
      O9 x1.TypeV >>= fun x3 =>
      (if (!(!x3)) = true then S5 x1.Value else some default) >>= fun x4 =>
      (if (!(bif (!x3) then true else (!x4))) = true then Sa x1.Params else some default) >>= fun x5 =>
      (if (!(bif (bif (!x3) then true else (!x4)) then true else (!x5))) = true then Sa x1.Vars else some default) >>= fun x6 =>
      (if (!(bif (bif (bif (!x3) then true else (!x4)) then true else (!x5)) then true else (!x6))) = true then W8 x1.Body else some default) >>= fun x7 =>
      if (bif (bif (bif (bif (!x3) then true else (!x4)) then true else (!x5)) then true else (!x6)) then true else (!x7)) = true then
        some false
      else
        U9 l (IntKind.i64.wrap (i + 1))
  else
    some true
  partial_fixpoint
end
abbrev H13 (l : List B0) (res : Bool) : Prop := S0 C 70 [.d (.sl (B0.rows l))] [] (Ret [] (.d (.bool res)))
abbrev Oy (l : List B0) (i : Int) (res : Bool) : Prop := LM C 63 0 Tryz.f70 [1, 0, 1, 4] [(0, .d (.sl (B0.rows l))), (3, .d (.int .i64 i))] [] (Ret [] (.d (.bool res)))
theorem Pz : (∀ l res, Sa l = some res → H13 l res) ∧ (∀ l i res, U9 l i = some res → Oy l i res) := by
  refine Sa.mutual_partial_correctness _ _ ?_ ?_
  · intro g1 ih1 l res hh
    exact S0.intro hC Tryz.func70 rfl rfl rfl (t' rfl (S' (t' rfl (bk' (fw' (ih1 _ _ _ hh) rfl rfl rfl)))))
  · intro g0 g1 ih0 ih1 l i res hh
    refine Z0.unroll (S' (p' 2 rfl (qe' rfl trivial (B0.lenA _) (e' rfl (ci' rfl hh (fun hh => ?_) (fun hh => ?_))))))
    · obtain ⟨x1, hx1, hh⟩ := bs' hh
      obtain ⟨x2, hx2, hh⟩ := bs' hh
      refine sk' (S' (bk' (p' 2 rfl (i' rfl (W0 hx1) (B0.idx hx1) rfl (q' rfl (I0.nf hC rfl (I0.s hC rfl (n' (S' (sg' 20 rfl (G' 2 rfl (AG.c rfl rfl (fun _ => trivial) (fun _ => Zp hx2) (G' 3 rfl ?_)))))))))))))
      refine a1' rfl (a1' rfl (a1' rfl (a1' rfl (a0' rfl (a1' rfl (a1' rfl (a1' rfl (a0' rfl (a1' rfl (a1' rfl (pO' rfl (pA' rfl (po' rfl ?_)))))))))))))
      refine an' (n' (ci' rfl hh (fun hh => ?_) (fun hh => ?_)))
      · cases hh
        exact t' rfl (re' (rt' rfl rfl rfl))
      obtain ⟨x3, hx3, hh⟩ := bs' hh
      obtain ⟨x4, hx4, hh⟩ := bs' hh
      obtain ⟨x5, hx5, hh⟩ := bs' hh
      obtain ⟨x6, hx6, hh⟩ := bs' hh
      obtain ⟨x7, hx7, hh⟩ := bs' hh
      refine sk' (sg' 28 rfl (G' 2 rfl (AG.c rfl rfl (fun _ => trivial) (fun _ => F13 hx3) (G' 3 rfl (a1' rfl (AG.c rfl rfl (fun hg => ⟨hg, trivial⟩) (fun hw => Vm (T1 hw hx4)) (a1' rfl (po' rfl (G' 2 rfl (a1' rfl (AG.c rfl rfl (fun hg => ⟨hg, trivial⟩) (fun hw => ih0 _ _ (T1 hw hx5)) (a1' rfl (po' rfl ?_)))))))))))))
      refine G' 2 rfl (a1' rfl (AG.c rfl rfl (fun hg => ⟨hg, trivial⟩) (fun hw => ih0 _ _ (T1 hw hx6)) (a1' rfl (po' rfl (G' 2 rfl (a1' rfl (AG.c rfl rfl (fun hg => ⟨hg, trivial⟩) (fun hw => H11 (T1 hw hx7)) (a1' rfl (po' rfl (an' (n' (ci' rfl hh (fun hh => ?_) (fun hh => ?_)))))))))))))
      · cases hh
        exact t' rfl (re' (rt' rfl rfl rfl))
      exact sk' (T' rfl (lw' (ih1 _ _ _ hh) rfl rfl rfl))
    cases hh
    exact ex' (t' rfl (re' (rt' rfl rfl rfl)))
theorem S1i {l res} (hh : Sa l = some res) : H13 l res := (Pz).1 _ _ hh
theorem U22 {l i res} (hh : U9 l i = some res) : Oy l i res := (Pz).2 _ _ _ hh
def Mp (s : Q0) (form : Bool) (names : Bool) (numbers : Bool) : Option Int :=
  if (bif (decide (s.nodes > 1024)) then true else (decide (s.depth > 12))) = true then
    some 4
  else
    if (!form) = true then
      some 1
    else
      if (!names) = true then
        some 7
      else
        if (!numbers) = true then
          some 3
        else
          some 0
theorem M1d {s form names numbers res} (hh : Mp s form names numbers = some res) : S0 C 64 [.agg (Q0.cells s), .d (.bool form), .d (.bool names), .d (.bool numbers)] [] (Ret [] (.d (.int .i64 res))) := by
  unfold Mp at hh
  refine S0.intro hC Tryz.func64 rfl rfl rfl (s' rfl rfl (I0.n hC rfl (e' rfl (S' (sg' 8 rfl (G' 5 rfl (a1' rfl (a1' rfl (po' rfl (an' (n' (ci' rfl hh (fun hh => ?_) (fun hh => ?_)))))))))))))
  · cases hh
    exact t' rfl (re' (rt' rfl rfl rfl))
  refine sk' (S' (t' rfl (ci' rfl hh (fun hh => ?_) (fun hh => ?_))))
  · cases hh
    exact t' rfl (re' (rt' rfl rfl rfl))
  refine sk' (S' (t' rfl (ci' rfl hh (fun hh => ?_) (fun hh => ?_))))
  · cases hh
    exact t' rfl (re' (rt' rfl rfl rfl))
  refine sk' (S' (t' rfl (ci' rfl hh (fun hh => ?_) (fun hh => ?_))))
  · cases hh
    exact t' rfl (re' (rt' rfl rfl rfl))
  cases hh
  exact sk' (t' rfl (re' (rt' rfl rfl rfl)))
def Qz (p : K0) : Option Int :=
  Lz p >>= fun x1 =>
  Qf p.Decls >>= fun x2 =>
  (if x2 = true then Hc p.Body else some default) >>= fun x3 =>
  Fd p.Decls >>= fun x4 =>
  (if x4 = true then Ab p.Body else some default) >>= fun x5 =>
  Sa p.Decls >>= fun x6 =>
  (if x6 = true then W8 p.Body else some default) >>= fun x7 =>
  Mp x1 (bif x2 then x3 else false) (bif x4 then x5 else false) (bif x6 then x7 else false) >>= fun x8 =>
  some x8
theorem Z1w {p res} (hh : Qz p = some res) : S0 C 34 [.agg (K0.cells p)] [] (Ret [] (.d (.int .i64 res))) := by
  unfold Qz at hh
  obtain ⟨x1, hx1, hh⟩ := bs' hh
  obtain ⟨x2, hx2, hh⟩ := bs' hh
  obtain ⟨x3, hx3, hh⟩ := bs' hh
  obtain ⟨x4, hx4, hh⟩ := bs' hh
  obtain ⟨x5, hx5, hh⟩ := bs' hh
  obtain ⟨x6, hx6, hh⟩ := bs' hh
  obtain ⟨x7, hx7, hh⟩ := bs' hh
  obtain ⟨x8, hx8, hh⟩ := bs' hh
  cases hh
  refine S0.intro hC Tryz.func34 rfl rfl rfl (s' rfl rfl (I0.n hC rfl (e' rfl (S' (AEx.drawG hC 28 rfl rfl rfl (a0' rfl (AG.c rfl rfl (fun _ => trivial) (fun _ => W1w hx1) (G' 2 rfl (AG.c rfl rfl (fun _ => trivial) (fun _ => W1n hx2) (G' 2 rfl (a1' rfl (AG.c rfl rfl (fun hg => ⟨hg, trivial⟩) (fun hw => Q18 (T1 hw hx3)) (pa' rfl ?_)))))))))))))
  refine G' 2 rfl (AG.c rfl rfl (fun _ => trivial) (fun _ => B1m hx4) (G' 2 rfl (a1' rfl (AG.c rfl rfl (fun hg => ⟨hg, trivial⟩) (fun hw => B16 (T1 hw hx5)) (pa' rfl (G' 2 rfl (AG.c rfl rfl (fun _ => trivial) (fun _ => S1i hx6) (G' 2 rfl (a1' rfl (AG.c rfl rfl (fun hg => ⟨hg, trivial⟩) (fun hw => H11 (T1 hw hx7)) (pa' rfl ?_)))))))))))
  exact AG.c rfl rfl (fun _ => trivial) (fun _ => M1d hx8) (a0' rfl (an' (n' (re' (rt' rfl rfl rfl)))))
def Cs (p : K0) (out : List Str) (i : Int) : Option (List Str) :=
  if (decide (i < ((p.Decls).length : Int))) = true then
    idx p.Decls i >>= fun x1 =>
    if (decide ((out.length + 1) * 17 ≤ 140737488355328)) = true then
      Cs p (out ++ [x1.Name]) (IntKind.i64.wrap (i + 1))
    else none
  else
    some out
  partial_fixpoint
abbrev N1d (p : K0) (out : List Str) (i : Int) (res : List Str) : Prop := LM C 23 0 Tryz.f72 [1, 1, 0, 1, 4] [(1, .ref 0 0), (3, .osl 1 (estr.rows out)), (4, .d (.int .i64 i))] [.row (K0.cells p) 25, .tok 9 1] (Ret [.dead, .tok 9 1] (.osl 1 (estr.rows res)))
theorem X1n (p : K0) : (∀ out i res, Cs p out i = some res → N1d p out i res) := by
  refine Cs.partial_correctness p _ ?_
  · intro g0 ih0 out i res hh
    refine Z0.unroll (S' (p' 3 rfl (qe' rfl trivial (B0.lenA _) (e' rfl (ci' rfl hh (fun hh => ?_) (fun hh => ?_))))))
    · obtain ⟨x1, hx1, hh⟩ := bs' hh
      obtain ⟨c5, hh⟩ := U1 hh
      exact sk' (S' (bk' (P' 4 rfl (i' rfl (W0 hx1) (B0.idx hx1) rfl (o' 2 rfl (I0.be hC rfl (estr.rows_map [x1.Name]).symm (I0.ap hC rfl (rs := estr.rows (out ++ [x1.Name])) (estr.app out [x1.Name]) (estr.sz out) (estr.sz [x1.Name]) (V6 (estr.len out) (estr.len [x1.Name]) c5) (e' rfl (T' rfl (lw' (ih0 _ _ _ hh) rfl rfl rfl))))))))))
    refine ex' (t' rfl (re' ?_))
    obtain rfl := oi' hh
    exact ⟨_, _, [.dead, .tok 9 1], rfl, .rfl, ⟨trivial, ⟨rfl, trivial⟩⟩, rfl, rfl, rfl, rfl⟩
theorem I1q {p out i res} (hh : Cs p out i = some res) : N1d p out i res := (X1n p) _ _ _ hh
def Rz (p : K0) : Option (List Str) :=
  Cs p [] 0
theorem S16 {p res} (hh : Rz p = some res) : S0 C 72 [.agg (K0.cells p)] [] (Ret [.dead, .tok 9 1] (.osl 1 (estr.rows res))) := by
  unfold Rz at hh
  exact S0.intro hC Tryz.func72 rfl rfl rfl (s' rfl rfl (I0.n hC rfl (e' rfl (s' rfl rfl (I0.be hC rfl (estr.rows_map []).symm (I0.tokE 5 9 1 rfl (e' rfl (S' (t' rfl (bk' (fw' (I1q hh) rfl rfl rfl)))))))))))
def Ds (l : List Str) (name : Str) (i : Int) : Option Bool :=
  if (decide (i < ((l).length : Int))) = true then
    idx l i >>= fun x1 =>
    if (x1 == name) = true then
      some true
    else
      Ds l name (IntKind.i64.wrap (i + 1))
  else
    some false
  partial_fixpoint
abbrev O1d (l : List Str) (name : Str) (i : Int) (res : Bool) : Prop := LM C 18 0 Tryz.f73 [1, 0, 1, 4] [(0, .d (.sl (estr.rows l))), (1, .d (.str name)), (5, .d (.int .i64 i))] [] (Ret [] (.d (.bool res)))
theorem Y1n (l : List Str) (name : Str) : (∀ i res, Ds l name i = some res → O1d l name i res) := by
  refine Ds.partial_correctness l name _ ?_
  · intro g0 ih0 i res hh
    refine Z0.unroll (S' (p' 2 rfl (qe' rfl trivial (estr.lenA _) (e' rfl (ci' rfl hh (fun hh => ?_) (fun hh => ?_))))))
    · obtain ⟨x1, hx1, hh⟩ := bs' hh
      refine sk' (S' (bk' (p' 2 rfl (i' rfl (W0 hx1) (estr.idx hx1) rfl (e' rfl (ci' rfl hh (fun hh => ?_) (fun hh => ?_)))))))
      · cases hh
        exact t' rfl (re' (rt' rfl rfl rfl))
      exact sk' (T' rfl (lw' (ih0 _ _ hh) rfl rfl rfl))
    cases hh
    exact ex' (t' rfl (re' (rt' rfl rfl rfl)))
theorem J1q {l name i res} (hh : Ds l name i = some res) : O1d l name i res := (Y1n l name) _ _ hh
def Ou (l : List Str) (name : Str) : Option Bool :=
  Ds l name 0
theorem Ux {l name res} (hh : Ou l name = some res) : S0 C 73 [.d (.sl (estr.rows l)), .d (.str name)] [] (Ret [] (.d (.bool res))) := by
  unfold Ou at hh
  exact S0.intro hC Tryz.func73 rfl rfl rfl (t' rfl (S' (t' rfl (bk' (fw' (J1q hh) rfl rfl rfl)))))
mutual
def Cl (p : K0) (x1 : List Str) (i : Int) : Option Int :=
  if (decide (i < ((p.Decls).length : Int))) = true then
    idx p.Decls i >>= fun x2 =>
    slc x1 0 i >>= fun x3 =>
    Ou x3 x2.Name >>= fun x4 =>
    if x4 = true then
      some i
    else
      if (decide ((0 + x1.length) * 17 ≤ 140737488355328)) = true then
        Aq p x2 x1 i x1 0
      else none
  else
    some (-1)
  partial_fixpoint
def Aq (p : K0) (x2 : B0) (x1 : List Str) (i1 : Int) (inner : List Str) (k : Int) : Option Int :=
  if (decide (k < ((x2.Params).length : Int))) = true then
    idx x2.Params k >>= fun x5 =>
    Ou inner x5.Name >>= fun x6 =>
    if x6 = true then
      some i1
    else
      idx x2.Params k >>= fun x7 =>
      if (decide ((inner.length + 1) * 17 ≤ 140737488355328)) = true then
        Aq p x2 x1 i1 (inner ++ [x7.Name]) (IntKind.i64.wrap (k + 1))
      else none
  else
    Bq p x2 x1 i1 inner 0
  partial_fixpoint
def Bq (p : K0) (x2 : B0) (x1 : List Str) (i2 : Int) (inner1 : List Str) (k1 : Int) : Option Int :=
  if (decide (k1 < ((x2.Vars).length : Int))) = true then
    idx x2.Vars k1 >>= fun x8 =>
    Ou inner1 x8.Name >>= fun x9 =>
    if x9 = true then
      some i2
    else
      idx x2.Vars k1 >>= fun x10 =>
      if (decide ((inner1.length + 1) * 17 ≤ 140737488355328)) = true then
        Bq p x2 x1 i2 (inner1 ++ [x10.Name]) (IntKind.i64.wrap (k1 + 1))
      else none
  else
    Cl p x1 (IntKind.i64.wrap (i2 + 1))
  partial_fixpoint
end
abbrev I13 (p : K0) (x1 : List Str) (i : Int) (res : Int) : Prop := LM C 83 0 Tryz.f35 [1, 1, 0, 1, 4] [(1, .ref 0 0), (3, .d (.sl (estr.rows x1))), (4, .d (.int .i64 i))] [.row (K0.cells p) 25] (Ret [] (.d (.int .i64 res)))
abbrev J13 (p : K0) (x2 : B0) (x1 : List Str) (i1 : Int) (inner : List Str) (k : Int) (res : Int) : Prop := LM C 83 0 Tryz.f35 [1, 1, 0, 1, 4, 5, 1, 0, 4, 1, 1, 1, 0, 1, 4] [(1, .ref 0 0), (3, .d (.sl (estr.rows x1))), (4, .d (.int .i64 i1)), (5, .ref 1 0), (6, .osl 2 (estr.rows inner)), (7, .d (.int .i64 k))] [.row (K0.cells p) 25, .row (B0.cells x2) 59, .tok 9 1] (Ret [] (.d (.int .i64 res)))
abbrev K13 (p : K0) (x2 : B0) (x1 : List Str) (i2 : Int) (inner1 : List Str) (k1 : Int) (res : Int) : Prop := LM C 83 0 Tryz.f35 [1, 1, 0, 1, 4, 5, 1, 0, 4, 1, 1, 1, 1, 1, 4] [(1, .ref 0 0), (3, .d (.sl (estr.rows x1))), (4, .d (.int .i64 i2)), (5, .ref 1 0), (6, .osl 2 (estr.rows inner1)), (8, .d (.int .i64 k1))] [.row (K0.cells p) 25, .row (B0.cells x2) 59, .tok 9 1] (Ret [] (.d (.int .i64 res)))
theorem Tq (p : K0) (x1 : List Str) : (∀ i res, Cl p x1 i = some res → I13 p x1 i res) ∧ (∀ x2 i1 inner k res, Aq p x2 x1 i1 inner k = some res → J13 p x2 x1 i1 inner k res) ∧ (∀ x2 i2 inner1 k1 res, Bq p x2 x1 i2 inner1 k1 = some res → K13 p x2 x1 i2 inner1 k1 res) := by
  refine Cl.mutual_partial_correctness p x1 _ _ _ ?_ ?_ ?_
  · intro g1 ih1 i res hh
    refine Z0.unroll (S' (p' 3 rfl (qe' rfl trivial (B0.lenA _) (e' rfl (ci' rfl hh (fun hh => ?_) (fun hh => ?_))))))
    · obtain ⟨x2, hx2, hh⟩ := bs' hh
      obtain ⟨x3, hx3, hh⟩ := bs' hh
      obtain ⟨x4, hx4, hh⟩ := bs' hh
      refine sk' (S' (bk' (p' 3 rfl (i' rfl (W0 hx2) (B0.idx hx2) rfl (q' rfl (I0.nf hC rfl (I0.s hC rfl (n' (S' (S' (AEx.draw hC 6 rfl rfl rfl (O' 2 rfl (AQ.dx hC rfl (estr.part hx3) (estr.sz _) ?_)))))))))))))
      refine O' 2 rfl (Qc' (Ux hx4) rfl rfl (Qn' (n' (ci' rfl hh (fun hh => ?_) (fun hh => ?_)))))
      · cases hh
        exact t' rfl (re' (rt' rfl rfl rfl))
      obtain ⟨c18, hh⟩ := U1 hh
      exact sk' (s' rfl rfl (I0.be hC rfl (estr.rows_map []).symm (q' rfl (I0.ap hC rfl (rs := estr.rows x1) rfl (estr.sz []) (estr.sz x1) (V6 (estr.len []) (estr.len x1) c18) (e' rfl (S' (t' rfl (bk' (fw' (ih1 _ _ _ _ _ hh) rfl rfl rfl)))))))))
    cases hh
    exact ex' (t' rfl (re' (rt' rfl rfl rfl)))
  · intro g1 g2 ih1 ih2 x2 i1 inner k res hh
    refine Z0.unroll (S' (p' 3 rfl (qe' rfl trivial (B0.lenA _) (e' rfl (ci' rfl hh (fun hh => ?_) (fun hh => ?_))))))
    · obtain ⟨x5, hx5, hh⟩ := bs' hh
      obtain ⟨x6, hx6, hh⟩ := bs' hh
      refine sk' (S' (bk' (S' (p' 4 rfl (i' rfl (W0 hx5) (B0.idx hx5) rfl (o' 2 rfl (I0.cl rfl (Ux hx6) ⟨.osl, ⟨.rfl, trivial⟩⟩ rfl (n' (ci' rfl hh (fun hh => ?_) (fun hh => ?_))))))))))
      · cases hh
        exact t' rfl (re' (rt' rfl rfl rfl))
      obtain ⟨x7, hx7, hh⟩ := bs' hh
      obtain ⟨c19, hh⟩ := U1 hh
      exact sk' (P' 4 rfl (i' rfl (W0 hx7) (B0.idx hx7) rfl (o' 2 rfl (I0.be hC rfl (estr.rows_map [x7.Name]).symm (I0.ap hC rfl (rs := estr.rows (inner ++ [x7.Name])) (estr.app inner [x7.Name]) (estr.sz inner) (estr.sz [x7.Name]) (V6 (estr.len inner) (estr.len [x7.Name]) c19) (e' rfl (T' rfl (lw' (ih1 _ _ _ _ _ hh) rfl rfl rfl))))))))
    exact ex' (t' rfl (bk' (fw' (ih2 _ _ _ _ _ hh) rfl rfl rfl)))
  · intro g0 g2 ih0 ih2 x2 i2 inner1 k1 res hh
    refine Z0.unroll (S' (p' 3 rfl (qe' rfl trivial (B0.lenA _) (e' rfl (ci' rfl hh (fun hh => ?_) (fun hh => ?_))))))
    · obtain ⟨x8, hx8, hh⟩ := bs' hh
      obtain ⟨x9, hx9, hh⟩ := bs' hh
      refine sk' (S' (bk' (S' (p' 4 rfl (i' rfl (W0 hx8) (B0.idx hx8) rfl (o' 2 rfl (I0.cl rfl (Ux hx9) ⟨.osl, ⟨.rfl, trivial⟩⟩ rfl (n' (ci' rfl hh (fun hh => ?_) (fun hh => ?_))))))))))
      · cases hh
        exact t' rfl (re' (rt' rfl rfl rfl))
      obtain ⟨x10, hx10, hh⟩ := bs' hh
      obtain ⟨c20, hh⟩ := U1 hh
      exact sk' (P' 4 rfl (i' rfl (W0 hx10) (B0.idx hx10) rfl (o' 2 rfl (I0.be hC rfl (estr.rows_map [x10.Name]).symm (I0.ap hC rfl (rs := estr.rows (inner1 ++ [x10.Name])) (estr.app inner1 [x10.Name]) (estr.sz inner1) (estr.sz [x10.Name]) (V6 (estr.len inner1) (estr.len [x10.Name]) c20) (e' rfl (T' rfl (lw' (ih2 _ _ _ _ _ hh) rfl rfl rfl))))))))
    exact ex' (T' rfl (lw' (ih0 _ _ hh) rfl rfl rfl))
theorem T1i {p x1 i res} (hh : Cl p x1 i = some res) : I13 p x1 i res := (Tq p x1).1 _ _ hh
theorem G27 {p x2 x1 i1 inner k res} (hh : Aq p x2 x1 i1 inner k = some res) : J13 p x2 x1 i1 inner k res := (Tq p x1).2.1 _ _ _ _ _ hh
theorem H27 {p x2 x1 i2 inner1 k1 res} (hh : Bq p x2 x1 i2 inner1 k1 = some res) : K13 p x2 x1 i2 inner1 k1 res := (Tq p x1).2.2 _ _ _ _ _ hh
def L13 (p : K0) : Option Int :=
  Rz p >>= fun x1 =>
  Cl p x1 0
theorem Z1n {p res} (hh : L13 p = some res) : S0 C 35 [.agg (K0.cells p)] [] (Ret [] (.d (.int .i64 res))) := by
  unfold L13 at hh
  obtain ⟨x1, hx1, hh⟩ := bs' hh
  refine S0.intro hC Tryz.func35 rfl rfl rfl (s' rfl rfl (I0.n hC rfl (e' rfl (p' 1 rfl (g' [] (S16 hx1) rfl rfl rfl rfl rfl rfl (e' rfl (S' (t' rfl (bk' ?_)))))))))
  refine AEx.ofLoop ?_
  refine Z0.wk ?_ (T1i hh)
  exact ⟨⟨⟨.rfl, rfl⟩, ⟨⟨.osl, rfl⟩, ⟨⟨.rfl, rfl⟩, trivial⟩⟩⟩, ⟨⟨rfl, .refl _, rfl⟩, trivial⟩, rfl⟩
def Ul (t : A0) : Option Int :=
  Ej (Q0.mk 0 0) t true >>= fun x1 =>
  De t >>= fun x2 =>
  Ic t >>= fun x3 =>
  O9 t >>= fun x4 =>
  Mp x1 x2 x3 x4 >>= fun x5 =>
  some x5
theorem V18 {t res} (hh : Ul t = some res) : S0 C 195 [.agg (A0.cells t)] [] (Ret [] (.d (.int .i64 res))) := by
  unfold Ul at hh
  obtain ⟨x1, hx1, hh⟩ := bs' hh
  obtain ⟨x2, hx2, hh⟩ := bs' hh
  obtain ⟨x3, hx3, hh⟩ := bs' hh
  obtain ⟨x4, hx4, hh⟩ := bs' hh
  obtain ⟨x5, hx5, hh⟩ := bs' hh
  cases hh
  refine S0.intro hC Tryz.func195 rfl rfl rfl (s' rfl rfl (I0.n hC rfl (e' rfl (S' (AEx.draw hC 11 rfl rfl rfl (O' 2 rfl (Qc' (F1d hx1) rfl rfl (Q' rfl (Qc' (A1b hx2) rfl rfl (Q' rfl (Qc' (S18 hx3) rfl rfl (Q' rfl (Qc' (F13 hx4) rfl rfl ?_)))))))))))))
  exact Qc' (M1d hx5) rfl rfl (E' rfl (n' (re' (rt' rfl rfl rfl))))
def Gd (known : List B0) (t : A0) (i : Int) : Option (A0 × Bool) :=
  if (decide (i < ((known).length : Int))) = true then
    idx known i >>= fun x1 =>
    if (x1.Name == t.Name) = true then
      idx known i >>= fun x2 =>
      some (x2.TypeV, true)
    else
      Gd known t (IntKind.i64.wrap (i + 1))
  else
    some ((A0.mk 0 0 0 0 [] [] []), false)
  partial_fixpoint
abbrev W18 (known : List B0) (t : A0) (i : Int) (res : A0 × Bool) : Prop := LM C 61 0 Tryz.f220 [1, 0, 1, 2, 0, 1, 4] [(0, .d (.sl (B0.rows known))), (3, .ref 0 0), (4, .ref 1 0), (6, .d (.int .i64 i))] [.row (A0.cells t) 40, .row [.d (.int .i64 0), .d (.int .i64 0), .d (.int .i64 0), .d (.int .i64 0), .d (.str []), .full (estr.rows []), .full (A0.rows [])] 40] (Ret [] (.tup [.agg (A0.cells res.1), .d (.bool res.2)]))
theorem H1k (known : List B0) (t : A0) : (∀ i res, Gd known t i = some res → W18 known t i res) := by
  refine Gd.partial_correctness known t _ ?_
  · intro g0 ih0 i res hh
    refine Z0.unroll (S' (p' 2 rfl (qe' rfl trivial (B0.lenA _) (e' rfl (ci' rfl hh (fun hh => ?_) (fun hh => ?_))))))
    · obtain ⟨x1, hx1, hh⟩ := bs' hh
      refine sk' (S' (bk' (S' (AEx.draw hC 8 rfl rfl rfl (O' 2 rfl (AQ.i hC rfl (W0 hx1) (B0.idx hx1) rfl (E' rfl (n' (ci' rfl hh (fun hh => ?_) (fun hh => ?_))))))))))
      · obtain ⟨x2, hx2, hh⟩ := bs' hh
        cases hh
        exact p' 2 rfl (i' rfl (W0 hx2) (B0.idx hx2) rfl (o' 2 rfl (I0.s hC rfl (e' rfl (re' (rt' rfl rfl rfl))))))
      exact sk' (T' rfl (lw' (ih0 _ _ hh) rfl rfl rfl))
    cases hh
    exact ex' (p' 1 rfl (I0.s hC rfl (e' rfl (re' (rt' rfl rfl rfl)))))
theorem C1m {known t i res} (hh : Gd known t i = some res) : W18 known t i res := (H1k known t) _ _ hh
mutual
def Gj (known : List B0) (t : A0) : Option (A0 × Bool) :=
  if (t.Kind == 4) = true then
    Gd known t 0
  else
    Sg known t [] 0
  partial_fixpoint
def Sg (known : List B0) (t : A0) (of : List A0) (i1 : Int) : Option (A0 × Bool) :=
  if (decide (i1 < ((t.Of).length : Int))) = true then
    idx t.Of i1 >>= fun x3 =>
    Gj known x3 >>= fun x4 =>
    if (!x4.2) = true then
      some ((A0.mk 0 0 0 0 [] [] []), false)
    else
      if (decide ((of.length + 1) * 97 ≤ 140737488355328)) = true then
        Sg known t (of ++ [x4.1]) (IntKind.i64.wrap (i1 + 1))
      else none
  else
    some ((A0.mk t.Kind t.Low t.High t.Size t.Name t.Names of), true)
  partial_fixpoint
end
abbrev R1f (known : List B0) (t : A0) (res : A0 × Bool) : Prop := S0 C 220 [.d (.sl (B0.rows known)), .agg (A0.cells t)] [] (Ret [] (.tup [.agg (A0.cells res.1), .d (.bool res.2)]))
abbrev X18 (known : List B0) (t : A0) (of : List A0) (i1 : Int) (res : A0 × Bool) : Prop := LM C 61 0 Tryz.f220 [1, 1, 1, 0, 1, 4] [(0, .d (.sl (B0.rows known))), (3, .ref 0 0), (4, .ref 1 0), (7, .osl 2 (A0.rows of)), (8, .d (.int .i64 i1))] [.row (A0.cells t) 40, .row [.d (.int .i64 0), .d (.int .i64 0), .d (.int .i64 0), .d (.int .i64 0), .d (.str []), .full (estr.rows []), .full (A0.rows [])] 40, .tok 40 7] (Ret [] (.tup [.agg (A0.cells res.1), .d (.bool res.2)]))
theorem G1b (known : List B0) : (∀ t res, Gj known t = some res → R1f known t res) ∧ (∀ t of i1 res, Sg known t of i1 = some res → X18 known t of i1 res) := by
  refine Gj.mutual_partial_correctness known _ _ ?_ ?_
  · intro g1 ih1 t res hh
    refine S0.intro hC Tryz.func220 rfl rfl rfl (s' rfl rfl (I0.n hC rfl (I0.nf hC rfl (e' rfl (S' (t' rfl (ci' rfl hh (fun hh => ?_) (fun hh => ?_))))))))
    · exact S' (t' rfl (bk' (fw' (C1m hh) rfl rfl rfl)))
    exact sk' (p' 1 rfl (I0.tokE 7 40 7 rfl (n' (S' (t' rfl (bk' (fw' (ih1 _ _ _ _ hh) rfl rfl rfl)))))))
  · intro g0 g1 ih0 ih1 t of i1 res hh
    refine Z0.unroll (S' (p' 3 rfl (qe' rfl trivial (A0.lenA _) (e' rfl (ci' rfl hh (fun hh => ?_) (fun hh => ?_))))))
    · obtain ⟨x3, hx3, hh⟩ := bs' hh
      obtain ⟨x4, hx4, hh⟩ := bs' hh
      refine sk' (S' (bk' (p' 4 rfl (i' rfl (W0 hx3) (A0.idx hx3) rfl (q' rfl (c' (ih0 _ _ hx4) rfl rfl (o' 3 rfl (I0.nf hC rfl (I0.s hC rfl (e' rfl (S' (t' rfl (ci' rfl hh (fun hh => ?_) (fun hh => ?_))))))))))))))
      · cases hh
        exact p' 1 rfl (I0.s hC rfl (e' rfl (re' (rt' rfl rfl rfl))))
      obtain ⟨c4, hh⟩ := U1 hh
      exact sk' (P' 2 rfl (I0.be hC rfl (A0.rows_map [x4.1]).symm (I0.ap hC rfl (rs := A0.rows (of ++ [x4.1])) (A0.app of [x4.1]) (A0.sz of) (A0.sz [x4.1]) (V6 (A0.len of) (A0.len [x4.1]) c4) (e' rfl (T' rfl (lw' (ih1 _ _ _ _ hh) rfl rfl rfl))))))
    refine ex' (p' 2 rfl (I0.s hC rfl (n' (p' 1 rfl (I0.s hC rfl (e' rfl (re' ?_)))))))
    obtain rfl := oi' hh
    exact ⟨_, .tup [.agg [.d (.int .i64 t.Kind), .d (.int .i64 t.Low), .d (.int .i64 t.High), .d (.int .i64 t.Size), .d (.str t.Name), .d (.sl (estr.rows t.Names)), .d (.sl (A0.rows of))], .d (.bool true)], [], rfl, (.tupL ⟨(.aggL ⟨.rfl, ⟨.rfl, ⟨.rfl, ⟨.rfl, ⟨.rfl, ⟨.rfl, ⟨.osl, trivial⟩⟩⟩⟩⟩⟩⟩), ⟨.rfl, trivial⟩⟩), trivial, rfl, rfl, rfl, rfl⟩
theorem L1s {known t res} (hh : Gj known t = some res) : R1f known t res := (G1b known).1 _ _ hh
theorem O2a {known t of i1 res} (hh : Sg known t of i1 = some res) : X18 known t of i1 res := (G1b known).2 _ _ _ _ hh
mutual
def Og (t : A0) : Option Bool :=
  if (t.Kind == 3) = true then
    Hd t 0
  else
    Tg t
  partial_fixpoint
def Tg (t : A0) : Option Bool :=
  Ug t 0
  partial_fixpoint
def Ug (t : A0) (i2 : Int) : Option Bool :=
  if (decide (i2 < ((t.Of).length : Int))) = true then
    idx t.Of i2 >>= fun x3 =>
    Og x3 >>= fun x4 =>
    if x4 = true then
      some true
    else
      Ug t (IntKind.i64.wrap (i2 + 1))
  else
    some false
  partial_fixpoint
def Hd (t : A0) (i : Int) : Option Bool :=
  if (decide (i < ((t.Names).length : Int))) = true then
    Vg t i 0
  else
    Tg t
  partial_fixpoint
def Vg (t : A0) (i1 : Int) (k : Int) : Option Bool :=
  if (decide (k < i1)) = true then
    idx t.Names i1 >>= fun x1 =>
    idx t.Names k >>= fun x2 =>
    if (x1 == x2) = true then
      some true
    else
      Vg t i1 (IntKind.i64.wrap (k + 1))
  else
    Hd t (IntKind.i64.wrap (i1 + 1))
  partial_fixpoint
end
abbrev S1f (t : A0) (res : Bool) : Prop := S0 C 197 [.agg (A0.cells t)] [] (Ret [] (.d (.bool res)))
abbrev Y18 (t : A0) (res : Bool) : Prop := JM C 45 0 Tryz.f197 [1, 1] [(1, .ref 0 0)] [.row (A0.cells t) 40] (Ret [] (.d (.bool res)))
abbrev Z18 (t : A0) (i2 : Int) (res : Bool) : Prop := LM C 45 0 Tryz.f197 [1, 1, 0, 1, 4] [(1, .ref 0 0), (5, .d (.int .i64 i2))] [.row (A0.cells t) 40] (Ret [] (.d (.bool res)))
abbrev A19 (t : A0) (i : Int) (res : Bool) : Prop := LM C 45 0 Tryz.f197 [1, 0, 1, 2, 1, 4] [(1, .ref 0 0), (3, .d (.int .i64 i))] [.row (A0.cells t) 40] (Ret [] (.d (.bool res)))
abbrev B19 (t : A0) (i1 : Int) (k : Int) (res : Bool) : Prop := LM C 45 0 Tryz.f197 [1, 0, 1, 2, 1, 4, 5, 1, 0, 4, 1, 4] [(1, .ref 0 0), (3, .d (.int .i64 i1)), (4, .d (.int .i64 k))] [.row (A0.cells t) 40] (Ret [] (.d (.bool res)))
theorem Im : (∀ t res, Og t = some res → S1f t res) ∧ (∀ t res, Tg t = some res → Y18 t res) ∧ (∀ t i2 res, Ug t i2 = some res → Z18 t i2 res) ∧ (∀ t i res, Hd t i = some res → A19 t i res) ∧ (∀ t i1 k res, Vg t i1 k = some res → B19 t i1 k res) := by
  refine Og.mutual_partial_correctness _ _ _ _ _ ?_ ?_ ?_ ?_ ?_
  · intro g1 g3 ih1 ih3 t res hh
    refine S0.intro hC Tryz.func197 rfl rfl rfl (s' rfl rfl (I0.n hC rfl (e' rfl (S' (t' rfl (ci' rfl hh (fun hh => ?_) (fun hh => ?_)))))))
    · exact t' rfl (bk' (fw' (ih3 _ _ _ hh) rfl rfl rfl))
    exact sk' (ew' (ih1 _ _ hh) rfl rfl rfl)
  · intro g2 ih2 t res hh
    exact S' (t' rfl (bk' (fw' (ih2 _ _ _ hh) rfl rfl rfl)))
  · intro g0 g2 ih0 ih2 t i2 res hh
    refine Z0.unroll (S' (p' 3 rfl (qe' rfl trivial (A0.lenA _) (e' rfl (ci' rfl hh (fun hh => ?_) (fun hh => ?_))))))
    · obtain ⟨x3, hx3, hh⟩ := bs' hh
      obtain ⟨x4, hx4, hh⟩ := bs' hh
      refine sk' (S' (bk' (p' 3 rfl (i' rfl (W0 hx3) (A0.idx hx3) rfl (q' rfl (c' (ih0 _ _ hx4) rfl rfl (n' (ci' rfl hh (fun hh => ?_) (fun hh => ?_)))))))))
      · cases hh
        exact t' rfl (re' (rt' rfl rfl rfl))
      exact sk' (T' rfl (lw' (ih2 _ _ _ hh) rfl rfl rfl))
    cases hh
    exact ex' (t' rfl (re' (rt' rfl rfl rfl)))
  · intro g1 g4 ih1 ih4 t i res hh
    refine Z0.unroll (S' (p' 3 rfl (qe' rfl trivial (estr.lenA _) (e' rfl (ci' rfl hh (fun hh => ?_) (fun hh => ?_))))))
    · exact sk' (S' (bk' (t' rfl (bk' (fw' (ih4 _ _ _ _ hh) rfl rfl rfl)))))
    exact ex' (ew' (ih1 _ _ hh) rfl rfl rfl)
  · intro g3 g4 ih3 ih4 t i1 k res hh
    refine Z0.unroll (S' (t' rfl (ci' rfl hh (fun hh => ?_) (fun hh => ?_))))
    · obtain ⟨x1, hx1, hh⟩ := bs' hh
      obtain ⟨x2, hx2, hh⟩ := bs' hh
      refine sk' (S' (bk' (S' (AEx.draw hC 11 rfl rfl rfl (O' 3 rfl (AQ.i hC rfl (W0 hx1) (estr.idx hx1) rfl (O' 4 rfl (AQ.i hC rfl (W0 hx2) (estr.idx hx2) rfl (E' rfl (n' (ci' rfl hh (fun hh => ?_) (fun hh => ?_))))))))))))
      · cases hh
        exact t' rfl (re' (rt' rfl rfl rfl))
      exact sk' (T' rfl (lw' (ih4 _ _ _ _ hh) rfl rfl rfl))
    exact ex' (T' rfl (lw' (ih3 _ _ _ hh) rfl rfl rfl))
theorem P1d {t res} (hh : Og t = some res) : S1f t res := (Im).1 _ _ hh
theorem P2a {t res} (hh : Tg t = some res) : Y18 t res := (Im).2.1 _ _ hh
theorem Q2a {t i2 res} (hh : Ug t i2 = some res) : Z18 t i2 res := (Im).2.2.1 _ _ _ hh
theorem R2a {t i res} (hh : Hd t i = some res) : A19 t i res := (Im).2.2.2.1 _ _ _ hh
theorem S2a {t i1 k res} (hh : Vg t i1 k = some res) : B19 t i1 k res := (Im).2.2.2.2 _ _ _ _ hh
mutual
def Bn (t : A0) : Option Int :=
  Ih t 0 0
  partial_fixpoint
def Ih (t : A0) (d : Int) (i : Int) : Option Int :=
  if (decide (i < ((t.Of).length : Int))) = true then
    idx t.Of i >>= fun x1 =>
    Bn x1 >>= fun x2 =>
    if (decide (x2 > d)) = true then
      Ih t x2 (IntKind.i64.wrap (i + 1))
    else
      Ih t d (IntKind.i64.wrap (i + 1))
  else
    some (IntKind.i64.wrap (d + 1))
  partial_fixpoint
end
abbrev I1l (t : A0) (res : Int) : Prop := S0 C 221 [.agg (A0.cells t)] [] (Ret [] (.d (.int .i64 res)))
abbrev Q1d (t : A0) (d : Int) (i : Int) (res : Int) : Prop := LM C 25 0 Tryz.f221 [1, 1, 0, 1, 4] [(1, .ref 0 0), (3, .d (.int .i64 d)), (4, .d (.int .i64 i))] [.row (A0.cells t) 40] (Ret [] (.d (.int .i64 res)))
theorem T1f : (∀ t res, Bn t = some res → I1l t res) ∧ (∀ t d i res, Ih t d i = some res → Q1d t d i res) := by
  refine Bn.mutual_partial_correctness _ _ ?_ ?_
  · intro g1 ih1 t res hh
    exact S0.intro hC Tryz.func221 rfl rfl rfl (s' rfl rfl (I0.n hC rfl (e' rfl (t' rfl (S' (t' rfl (bk' (fw' (ih1 _ _ _ _ hh) rfl rfl rfl))))))))
  · intro g0 g1 ih0 ih1 t d i res hh
    refine Z0.unroll (S' (p' 3 rfl (qe' rfl trivial (A0.lenA _) (e' rfl (ci' rfl hh (fun hh => ?_) (fun hh => ?_))))))
    · obtain ⟨x1, hx1, hh⟩ := bs' hh
      obtain ⟨x2, hx2, hh⟩ := bs' hh
      refine sk' (S' (bk' (p' 3 rfl (i' rfl (W0 hx1) (A0.idx hx1) rfl (q' rfl (c' (ih0 _ _ hx2) rfl rfl (e' rfl (t' rfl (ci' rfl hh (fun hh => ?_) (fun hh => ?_))))))))))
      · exact T' rfl (T' rfl (lw' (ih1 _ _ _ _ hh) rfl rfl rfl))
      exact sk' (T' rfl (lw' (ih1 _ _ _ _ hh) rfl rfl rfl))
    cases hh
    exact ex' (t' rfl (re' (rt' rfl rfl rfl)))
theorem A1x {t res} (hh : Bn t = some res) : I1l t res := (T1f).1 _ _ hh
theorem A2e {t d i res} (hh : Ih t d i = some res) : Q1d t d i res := (T1f).2 _ _ _ _ hh
mutual
def Sh (t : A0) : Option Int :=
  if (t.Kind == 2) = true then
    idx t.Of 0 >>= fun x1 =>
    Sh x1 >>= fun x3 =>
    Wj t (IntKind.i64.wrap (t.Size * x3))
  else
    Wj t 1
  partial_fixpoint
def Wj (t : A0) (n : Int) : Option Int :=
  if (t.Kind == 3) = true then
    Xj t 0 0
  else
    if (decide (n > 32)) = true then
      some 33
    else
      some n
  partial_fixpoint
def Xj (t : A0) (n1 : Int) (i : Int) : Option Int :=
  if (decide (i < ((t.Of).length : Int))) = true then
    idx t.Of i >>= fun x2 =>
    Sh x2 >>= fun x4 =>
    Xj t (IntKind.i64.wrap (n1 + x4)) (IntKind.i64.wrap (i + 1))
  else
    if (decide (n1 > 32)) = true then
      some 33
    else
      some n1
  partial_fixpoint
end
abbrev J1l (t : A0) (res : Int) : Prop := S0 C 198 [.agg (A0.cells t)] [] (Ret [] (.d (.int .i64 res)))
abbrev R1d (t : A0) (n : Int) (res : Int) : Prop := JM C 37 0 Tryz.f198 [1, 1, 1] [(1, .ref 0 0), (3, .d (.int .i64 n))] [.row (A0.cells t) 40] (Ret [] (.d (.int .i64 res)))
abbrev S1d (t : A0) (n1 : Int) (i : Int) (res : Int) : Prop := LM C 37 0 Tryz.f198 [1, 1, 1, 0, 1, 2, 1, 1, 4] [(1, .ref 0 0), (3, .d (.int .i64 n1)), (4, .d (.int .i64 i))] [.row (A0.cells t) 40] (Ret [] (.d (.int .i64 res)))
theorem M13 : (∀ t res, Sh t = some res → J1l t res) ∧ (∀ t n res, Wj t n = some res → R1d t n res) ∧ (∀ t n1 i res, Xj t n1 i = some res → S1d t n1 i res) := by
  refine Sh.mutual_partial_correctness _ _ _ ?_ ?_ ?_
  · intro g0 g1 ih0 ih1 t res hh
    refine S0.intro hC Tryz.func198 rfl rfl rfl (s' rfl rfl (I0.n hC rfl (e' rfl (t' rfl (S' (t' rfl (ci' rfl hh (fun hh => ?_) (fun hh => ?_))))))))
    · obtain ⟨x1, hx1, hh⟩ := bs' hh
      obtain ⟨x3, hx3, hh⟩ := bs' hh
      exact AEx.draw hC 9 rfl rfl rfl (O' 4 rfl (AQ.i hC rfl (W0 hx1) (A0.idx hx1) rfl (Q' rfl (Qc' (ih0 _ _ hx3) rfl rfl (E' rfl (n' (ew' (ih1 _ _ _ hh) rfl rfl rfl)))))))
    exact sk' (ew' (ih1 _ _ _ hh) rfl rfl rfl)
  · intro g2 ih2 t n res hh
    refine S' (t' rfl (ci' rfl hh (fun hh => ?_) (fun hh => ?_)))
    · exact t' rfl (t' rfl (bk' (fw' (ih2 _ _ _ _ hh) rfl rfl rfl)))
    refine sk' (S' (t' rfl (ci' rfl hh (fun hh => ?_) (fun hh => ?_))))
    · cases hh
      exact t' rfl (re' (rt' rfl rfl rfl))
    cases hh
    exact sk' (t' rfl (re' (rt' rfl rfl rfl)))
  · intro g0 g2 ih0 ih2 t n1 i res hh
    refine Z0.unroll (S' (p' 3 rfl (qe' rfl trivial (A0.lenA _) (e' rfl (ci' rfl hh (fun hh => ?_) (fun hh => ?_))))))
    · obtain ⟨x2, hx2, hh⟩ := bs' hh
      obtain ⟨x4, hx4, hh⟩ := bs' hh
      exact sk' (S' (bk' (P' 4 rfl (i' rfl (W0 hx2) (A0.idx hx2) rfl (q' rfl (c' (ih0 _ _ hx4) rfl rfl (e' rfl (T' rfl (lw' (ih2 _ _ _ _ hh) rfl rfl rfl)))))))))
    refine ex' (S' (t' rfl (ci' rfl hh (fun hh => ?_) (fun hh => ?_))))
    · cases hh
      exact t' rfl (re' (rt' rfl rfl rfl))
    cases hh
    exact sk' (t' rfl (re' (rt' rfl rfl rfl)))
theorem U1i {t res} (hh : Sh t = some res) : J1l t res := (M13).1 _ _ hh
theorem B2e {t n res} (hh : Wj t n = some res) : R1d t n res := (M13).2.1 _ _ _ hh
theorem C2e {t n1 i res} (hh : Xj t n1 i = some res) : S1d t n1 i res := (M13).2.2 _ _ _ _ hh
def Vn (known : List B0) (t : A0) : Option (A0 × Int) :=
  Ul t >>= fun x1 =>
  if (x1 != 0) = true then
    some ((A0.mk 0 0 0 0 [] [] []), x1)
  else
    Gj known t >>= fun x2 =>
    if (!x2.2) = true then
      some ((A0.mk 0 0 0 0 [] [] []), 7)
    else
      Og x2.1 >>= fun x3 =>
      if x3 = true then
        some ((A0.mk 0 0 0 0 [] [] []), 8)
      else
        Bn x2.1 >>= fun x4 =>
        (if (!(decide (x4 > 12))) = true then Sh x2.1 else some default) >>= fun x5 =>
        if (bif (decide (x4 > 12)) then true else (decide (x5 > 32))) = true then
          some ((A0.mk 0 0 0 0 [] [] []), 4)
        else
          some (x2.1, 0)
theorem U1f {known t res} (hh : Vn known t = some res) : S0 C 193 [.d (.sl (B0.rows known)), .agg (A0.cells t)] [] (Ret [] (.tup [.agg (A0.cells res.1), .d (.int .i64 res.2)])) := by
  unfold Vn at hh
  obtain ⟨x1, hx1, hh⟩ := bs' hh
  refine S0.intro hC Tryz.func193 rfl rfl rfl (s' rfl rfl (I0.n hC rfl (I0.nf hC rfl (e' rfl (p' 1 rfl (c' (V18 hx1) rfl rfl (e' rfl (S' (t' rfl (ci' rfl hh (fun hh => ?_) (fun hh => ?_)))))))))))
  · cases hh
    exact p' 2 rfl (I0.s hC rfl (e' rfl (re' (rt' rfl rfl rfl))))
  obtain ⟨x2, hx2, hh⟩ := bs' hh
  refine sk' (p' 2 rfl (c' (L1s hx2) rfl rfl (o' 3 rfl (I0.nf hC rfl (I0.s hC rfl (e' rfl (S' (t' rfl (ci' rfl hh (fun hh => ?_) (fun hh => ?_))))))))))
  · cases hh
    exact p' 1 rfl (I0.s hC rfl (e' rfl (re' (rt' rfl rfl rfl))))
  obtain ⟨x3, hx3, hh⟩ := bs' hh
  refine sk' (S' (p' 1 rfl (c' (P1d hx3) rfl rfl (n' (ci' rfl hh (fun hh => ?_) (fun hh => ?_))))))
  · cases hh
    exact p' 1 rfl (I0.s hC rfl (e' rfl (re' (rt' rfl rfl rfl))))
  obtain ⟨x4, hx4, hh⟩ := bs' hh
  obtain ⟨x5, hx5, hh⟩ := bs' hh
  refine sk' (S' (sg' 8 rfl (a0' rfl (AG.c rfl rfl (fun _ => trivial) (fun _ => A1x hx4) (G' 3 rfl (AG.c rfl rfl (fun hg => ⟨hg, trivial⟩) (fun hw => U1i (T1 hw hx5)) (a1' rfl (po' rfl (an' (n' (ci' rfl hh (fun hh => ?_) (fun hh => ?_))))))))))))
  · cases hh
    exact p' 1 rfl (I0.s hC rfl (e' rfl (re' (rt' rfl rfl rfl))))
  cases hh
  exact sk' (p' 1 rfl (I0.s hC rfl (e' rfl (re' (rt' rfl rfl rfl)))))
mutual
def V9 (decls : List B0) (known : List B0) (i : Int) : Option (List B0 × Int) :=
  if (decide (i < ((decls).length : Int))) = true then
    idx decls i >>= fun x1 =>
    if (x1.Kind != 0) = true then
      V9 decls known (IntKind.i64.wrap (i + 1))
    else
      Eg x1.Name >>= fun x2 =>
      if (!x2) = true then
        some ([], 7)
      else
        Yj decls x1 known i 0
  else
    some (known, 0)
  partial_fixpoint
def Yj (decls : List B0) (x1 : B0) (known1 : List B0) (i : Int) (k : Int) : Option (List B0 × Int) :=
  if (decide (k < ((known1).length : Int))) = true then
    idx known1 k >>= fun x4 =>
    if (x4.Name == x1.Name) = true then
      some ([], 8)
    else
      Yj decls x1 known1 i (IntKind.i64.wrap (k + 1))
  else
    Vn known1 x1.TypeV >>= fun x3 =>
    if (x3.2 != 0) = true then
      some ([], x3.2)
    else
      if (decide ((known1.length + 1) * 257 ≤ 140737488355328)) = true then
        V9 decls (known1 ++ [(B0.mk 0 x1.Name x3.1 0 (C0.mk 0 0 [] []) [] [] [])]) (IntKind.i64.wrap (i + 1))
      else none
  partial_fixpoint
end
abbrev T1d (decls : List B0) (known : List B0) (i : Int) (res : List B0 × Int) : Prop := LM C 59 0 Tryz.f192 [1, 1, 0, 1, 4] [(0, .d (.sl (B0.rows decls))), (4, .osl 0 (B0.rows known)), (5, .d (.int .i64 i))] [.tok 59 17] (Ret [] (.tup [.d (.sl (B0.rows res.1)), .d (.int .i64 res.2)]))
abbrev U1d (decls : List B0) (x1 : B0) (known1 : List B0) (i : Int) (k : Int) (res : List B0 × Int) : Prop := LM C 59 0 Tryz.f192 [1, 1, 0, 1, 4, 5, 1, 0, 4, 1, 1, 1, 0, 1, 4] [(0, .d (.sl (B0.rows decls))), (4, .osl 0 (B0.rows known1)), (5, .d (.int .i64 i)), (6, .ref 1 0), (7, .d (.int .i64 k))] [.tok 59 17, .row (B0.cells x1) 59] (Ret [] (.tup [.d (.sl (B0.rows res.1)), .d (.int .i64 res.2)]))
theorem C19 (decls : List B0) : (∀ known i res, V9 decls known i = some res → T1d decls known i res) ∧ (∀ x1 known1 i k res, Yj decls x1 known1 i k = some res → U1d decls x1 known1 i k res) := by
  refine V9.mutual_partial_correctness decls _ _ ?_ ?_
  · intro g0 g1 ih0 ih1 known i res hh
    refine Z0.unroll (S' (p' 2 rfl (qe' rfl trivial (B0.lenA _) (e' rfl (ci' rfl hh (fun hh => ?_) (fun hh => ?_))))))
    · obtain ⟨x1, hx1, hh⟩ := bs' hh
      refine sk' (S' (bk' (p' 2 rfl (i' rfl (W0 hx1) (B0.idx hx1) rfl (q' rfl (I0.nf hC rfl (I0.s hC rfl (n' (S' (t' rfl (ci' rfl hh (fun hh => ?_) (fun hh => ?_))))))))))))
      · exact ex' (T' rfl (lw' (ih0 _ _ _ hh) rfl rfl rfl))
      obtain ⟨x2, hx2, hh⟩ := bs' hh
      refine sk' (S' (p' 2 rfl (c' (Tl hx2) rfl rfl (e' rfl (ci' rfl hh (fun hh => ?_) (fun hh => ?_))))))
      · refine t' rfl (re' ?_)
        obtain rfl := oi' hh
        exact ⟨_, .tup [.d (.sl (B0.rows [])), .d (.int .i64 7)], [], rfl, (.tupL ⟨.full, ⟨.rfl, trivial⟩⟩), trivial, rfl, rfl, rfl, rfl⟩
      exact sk' (S' (t' rfl (bk' (fw' (ih1 _ _ _ _ _ hh) rfl rfl rfl))))
    refine ex' (t' rfl (re' ?_))
    obtain rfl := oi' hh
    exact ⟨_, .tup [.d (.sl (B0.rows known)), .d (.int .i64 0)], [], rfl, (.tupL ⟨.osl, ⟨.rfl, trivial⟩⟩), trivial, rfl, rfl, rfl, rfl⟩
  · intro g0 g1 ih0 ih1 x1 known1 i k res hh
    refine Z0.unroll (S' (p' 2 rfl (qe' rfl trivial (B0.lenA _) (e' rfl (ci' rfl hh (fun hh => ?_) (fun hh => ?_))))))
    · obtain ⟨x4, hx4, hh⟩ := bs' hh
      refine sk' (S' (bk' (S' (AEx.draw hC 8 rfl rfl rfl (O' 2 rfl (AQ.i hC rfl (W0 hx4) (B0.idx hx4) rfl (E' rfl (n' (ci' rfl hh (fun hh => ?_) (fun hh => ?_))))))))))
      · refine t' rfl (re' ?_)
        obtain rfl := oi' hh
        exact ⟨_, .tup [.d (.sl (B0.rows [])), .d (.int .i64 8)], [], rfl, (.tupL ⟨.full, ⟨.rfl, trivial⟩⟩), trivial, rfl, rfl, rfl, rfl⟩
      exact sk' (T' rfl (lw' (ih1 _ _ _ _ _ hh) rfl rfl rfl))
    obtain ⟨x3, hx3, hh⟩ := bs' hh
    refine ex' (p' 3 rfl (I0.cl rfl (U1f hx3) ⟨.osl, ⟨.rfl, trivial⟩⟩ rfl (o' 3 rfl (I0.nf hC rfl (I0.s hC rfl (e' rfl (S' (t' rfl (ci' rfl hh (fun hh => ?_) (fun hh => ?_))))))))))
    · refine t' rfl (re' ?_)
      obtain rfl := oi' hh
      exact ⟨_, .tup [.d (.sl (B0.rows [])), .d (.int .i64 x3.2)], [], rfl, (.tupL ⟨.full, ⟨.rfl, trivial⟩⟩), trivial, rfl, rfl, rfl, rfl⟩
    obtain ⟨c5, hh⟩ := U1 hh
    refine sk' (P' 5 rfl (I0.be hC rfl (B0.rows_map [(B0.mk 0 x1.Name x3.1 0 (C0.mk 0 0 [] []) [] [] [])]).symm ?_))
    refine I0.ap hC rfl (rs := B0.rows (known1 ++ [(B0.mk 0 x1.Name x3.1 0 (C0.mk 0 0 [] []) [] [] [])])) (B0.app known1 [(B0.mk 0 x1.Name x3.1 0 (C0.mk 0 0 [] []) [] [] [])]) (B0.sz known1) (B0.sz [(B0.mk 0 x1.Name x3.1 0 (C0.mk 0 0 [] []) [] [] [])]) (V6 (B0.len known1) (B0.len [(B0.mk 0 x1.Name x3.1 0 (C0.mk 0 0 [] []) [] [] [])]) c5) ?_
    exact e' rfl (T' rfl (lw' (ih0 _ _ _ hh) rfl rfl rfl))
theorem K1q {decls known i res} (hh : V9 decls known i = some res) : T1d decls known i res := (C19 decls).1 _ _ _ hh
theorem D2e {decls x1 known1 i k res} (hh : Yj decls x1 known1 i k = some res) : U1d decls x1 known1 i k res := (C19 decls).2 _ _ _ _ _ hh
def Q17 (decls : List B0) : Option (List B0 × Int) :=
  V9 decls [] 0
theorem B1x {decls res} (hh : Q17 decls = some res) : S0 C 192 [.d (.sl (B0.rows decls))] [] (Ret [] (.tup [.d (.sl (B0.rows res.1)), .d (.int .i64 res.2)])) := by
  unfold Q17 at hh
  exact S0.intro hC Tryz.func192 rfl rfl rfl (t' rfl (p' 1 rfl (I0.tokE 4 59 17 rfl (n' (S' (t' rfl (bk' (fw' (K1q hh) rfl rfl rfl))))))))
def Ax (decls : List B0) (t : A0) : Option (A0 × Int) :=
  Q17 decls >>= fun x1 =>
  if (x1.2 != 0) = true then
    some ((A0.mk 0 0 0 0 [] [] []), x1.2)
  else
    Vn x1.1 t >>= fun x2 =>
    some (x2.1, x2.2)
theorem Z1u {decls t res} (hh : Ax decls t = some res) : S0 C 137 [.d (.sl (B0.rows decls)), .agg (A0.cells t)] [] (Ret [] (.tup [.agg (A0.cells res.1), .d (.int .i64 res.2)])) := by
  unfold Ax at hh
  obtain ⟨x1, hx1, hh⟩ := bs' hh
  refine S0.intro hC Tryz.func137 rfl rfl rfl (s' rfl rfl (I0.n hC rfl (I0.nf hC rfl (e' rfl (p' 1 rfl (c' (B1x hx1) rfl rfl (e' rfl (S' (t' rfl (ci' rfl hh (fun hh => ?_) (fun hh => ?_)))))))))))
  · cases hh
    exact p' 2 rfl (I0.s hC rfl (e' rfl (re' (rt' rfl rfl rfl))))
  obtain ⟨x2, hx2, hh⟩ := bs' hh
  cases hh
  exact sk' (p' 2 rfl (c' (U1f hx2) rfl rfl (o' 2 rfl (I0.s hC rfl (e' rfl (re' (rt' rfl rfl rfl)))))))
def Zh (p : K0) (i : Int) (t : A0) : Option (A0 × Int) :=
  slc p.Decls 0 i >>= fun x1 =>
  Ax x1 t >>= fun x2 =>
  some (x2.1, x2.2)
theorem Ai {p i t res} (hh : Zh p i t = some res) : S0 C 74 [.agg (K0.cells p), .d (.int .i64 i), .agg (A0.cells t)] [] (Ret [] (.tup [.agg (A0.cells res.1), .d (.int .i64 res.2)])) := by
  unfold Zh at hh
  obtain ⟨x1, hx1, hh⟩ := bs' hh
  obtain ⟨x2, hx2, hh⟩ := bs' hh
  cases hh
  refine S0.intro hC Tryz.func74 rfl rfl rfl (s' rfl rfl (I0.n hC rfl (I0.n hC rfl (I0.nf hC rfl (e' rfl (S' (AEx.draw hC 8 rfl rfl rfl (O' 3 rfl (AQ.dx hC rfl (B0.part hx1) (B0.sz _) (Q' rfl (Qc' (Z1u hx2) rfl rfl (E' rfl (I0.s hC rfl ?_)))))))))))))
  exact e' rfl (re' (rt' rfl rfl rfl))
def Wn (t : A0) : Option Bool :=
  some (bif (t.Kind == 0) then true else (t.Kind == 1))
theorem Cq {t res} (hh : Wn t = some res) : S0 C 75 [.agg (A0.cells t)] [] (Ret [] (.d (.bool res))) := by
  unfold Wn at hh
  cases hh
  exact S0.intro hC Tryz.func75 rfl rfl rfl (s' rfl rfl (I0.n hC rfl (e' rfl (sg' 9 rfl (G' 5 rfl (a1' rfl (a1' rfl (po' rfl (a0' rfl (an' (n' (re' (rt' rfl rfl rfl)))))))))))))
def Du (d : B0) : Option Bool :=
  some (bif (bif (d.Kind == 1) then true else (d.Kind == 2)) then true else (d.Kind == 3))
theorem N10 {d res} (hh : Du d = some res) : S0 C 80 [.agg (B0.cells d)] [] (Ret [] (.d (.bool res))) := by
  unfold Du at hh
  cases hh
  refine S0.intro hC Tryz.func80 rfl rfl rfl (s' rfl rfl (I0.n hC rfl (e' rfl (sg' 14 rfl (G' 5 rfl (a1' rfl (a1' rfl (po' rfl (G' 2 rfl (a1' rfl (a1' rfl (po' rfl (a0' rfl ?_)))))))))))))
  exact an' (n' (re' (rt' rfl rfl rfl)))
def Zj (p : K0) (n : Int) (locals : Bool) (out : List O0) (i : Int) : Option (List O0) :=
  if (decide (i < n)) = true then
    idx p.Decls i >>= fun x1 =>
    Du x1 >>= fun x2 =>
    if (bif x2 then true else (bif locals then (x1.Kind == 4) else false)) = true then
      Zh p i x1.TypeV >>= fun x3 =>
      Du x1 >>= fun x4 =>
      if (decide ((out.length + 1) * 121 ≤ 140737488355328)) = true then
        Zj p n locals (out ++ [(O0.mk x1.Name x3.1 x4)]) (IntKind.i64.wrap (i + 1))
      else none
    else
      Zj p n locals out (IntKind.i64.wrap (i + 1))
  else
    some out
  partial_fixpoint
abbrev D19 (p : K0) (n : Int) (locals : Bool) (out : List O0) (i : Int) (res : List O0) : Prop := LM C 51 0 Tryz.f77 [1, 1, 0, 1, 4] [(1, .d (.int .i64 n)), (2, .d (.bool locals)), (3, .ref 0 0), (7, .osl 1 (O0.rows out)), (8, .d (.int .i64 i))] [.row (K0.cells p) 25, .tok 146 9] (Ret [] (.d (.sl (O0.rows res))))
theorem I1k (p : K0) (n : Int) (locals : Bool) : (∀ out i res, Zj p n locals out i = some res → D19 p n locals out i res) := by
  refine Zj.partial_correctness p n locals _ ?_
  · intro g0 ih0 out i res hh
    refine Z0.unroll (S' (t' rfl (ci' rfl hh (fun hh => ?_) (fun hh => ?_))))
    · obtain ⟨x1, hx1, hh⟩ := bs' hh
      obtain ⟨x2, hx2, hh⟩ := bs' hh
      refine sk' (S' (bk' (p' 3 rfl (i' rfl (W0 hx1) (B0.idx hx1) rfl (q' rfl (I0.nf hC rfl (I0.s hC rfl (n' (sg' 10 rfl (a0' rfl (AG.c rfl rfl (fun _ => trivial) (fun _ => N10 hx2) (G' 2 rfl (a1' rfl ?_)))))))))))))
      refine a0' rfl (a1' rfl (a1' rfl (pA' rfl (po' rfl (an' (n' (ci' rfl hh (fun hh => ?_) (fun hh => ?_))))))))
      · obtain ⟨x3, hx3, hh⟩ := bs' hh
        obtain ⟨x4, hx4, hh⟩ := bs' hh
        obtain ⟨c5, hh⟩ := U1 hh
        refine p' 4 rfl (c' (Ai hx3) rfl rfl (o' 3 rfl (I0.nf hC rfl (I0.s hC rfl (e' rfl (AEx.draw hC 8 rfl rfl rfl (O' 5 rfl (Qc' (N10 hx4) rfl rfl (Q' rfl (AQ.be hC rfl (O0.rows_map [(O0.mk x1.Name x3.1 x4)]).symm (Qn' ?_)))))))))))
        exact I0.ap hC rfl (rs := O0.rows (out ++ [(O0.mk x1.Name x3.1 x4)])) (O0.app out [(O0.mk x1.Name x3.1 x4)]) (O0.sz out) (O0.sz [(O0.mk x1.Name x3.1 x4)]) (V6 (O0.len out) (O0.len [(O0.mk x1.Name x3.1 x4)]) c5) (e' rfl (T' rfl (lw' (ih0 _ _ _ hh) rfl rfl rfl)))
      exact sk' (T' rfl (lw' (ih0 _ _ _ hh) rfl rfl rfl))
    refine ex' (t' rfl (re' ?_))
    obtain rfl := oi' hh
    exact ⟨_, .d (.sl (O0.rows out)), [], rfl, .osl, trivial, rfl, rfl, rfl, rfl⟩
theorem D1m {p n locals out i res} (hh : Zj p n locals out i = some res) : D19 p n locals out i res := (I1k p n locals) _ _ _ hh
def C10 (p : K0) (n : Int) (locals : Bool) : Option (List O0) :=
  Zj p n locals [] 0
theorem V1d {p n locals res} (hh : C10 p n locals = some res) : S0 C 77 [.agg (K0.cells p), .d (.int .i64 n), .d (.bool locals)] [] (Ret [] (.d (.sl (O0.rows res)))) := by
  unfold C10 at hh
  exact S0.intro hC Tryz.func77 rfl rfl rfl (s' rfl rfl (I0.n hC rfl (e' rfl (s' rfl rfl (I0.be hC rfl (O0.rows_map []).symm (I0.tokE 12 146 9 rfl (e' rfl (S' (t' rfl (bk' (fw' (D1m hh) rfl rfl rfl)))))))))))
end Go.Proofs.YtdkabnfphmmmnaaGreatDoor

set_option maxRecDepth 100000
set_option maxHeartbeats 4000000
set_option synthInstance.maxSize 2000
set_option linter.unusedVariables false
namespace Go.Proofs.YtdkabnfphmmmnaaGreatDoor
open Go.Am
def Tb (low : Int) (high : Int) : Option A0 :=
  some (A0.mk 1 low high 0 [] [] [])
theorem W9 {low high res} (hh : Tb low high = some res) : S0 C 94 [.d (.int .i64 low), .d (.int .i64 high)] [] (Ret [] (.agg (A0.cells res))) := by
  unfold Tb at hh
  cases hh
  exact S0.intro hC Tryz.func94 rfl rfl rfl (s' rfl rfl (I0.nf hC rfl (n' (p' 3 rfl (I0.s hC rfl (n' (re' (rt' rfl rfl rfl))))))))
def Eu (s : P0) (name : Str) (i : Int) : Option (O0 × Bool) :=
  if (decide (i ≥ 0)) = true then
    idx s.Vars i >>= fun x1 =>
    if (x1.Name == name) = true then
      idx s.Vars i >>= fun x2 =>
      some (x2, true)
    else
      Eu s name (IntKind.i64.wrap (i - 1))
  else
    some ((O0.mk [] (A0.mk 0 0 0 0 [] [] []) false), false)
  partial_fixpoint
abbrev V1f (s : P0) (name : Str) (i : Int) (res : O0 × Bool) : Prop := LM C 29 0 Tryz.f95 [1, 0, 1, 4] [(1, .d (.str name)), (2, .ref 0 0), (4, .ref 1 0), (6, .d (.int .i64 i))] [.row (P0.cells s) 78, .row [.d (.str []), .d (.int .i64 0), .d (.int .i64 0), .d (.int .i64 0), .d (.int .i64 0), .d (.str []), .full (estr.rows []), .full (A0.rows []), .d (.bool false)] 146] (Ret [] (.tup [.agg (O0.cells res.1), .d (.bool res.2)]))
theorem L1q (s : P0) (name : Str) : (∀ i res, Eu s name i = some res → V1f s name i res) := by
  refine Eu.partial_correctness s name _ ?_
  · intro g0 ih0 i res hh
    refine Z0.unroll (S' (t' rfl (ci' rfl hh (fun hh => ?_) (fun hh => ?_))))
    · obtain ⟨x1, hx1, hh⟩ := bs' hh
      refine sk' (S' (bk' (p' 3 rfl (i' rfl (W0 hx1) (O0.idx hx1) rfl (e' rfl (ci' rfl hh (fun hh => ?_) (fun hh => ?_)))))))
      · obtain ⟨x2, hx2, hh⟩ := bs' hh
        cases hh
        exact p' 3 rfl (i' rfl (W0 hx2) (O0.idx hx2) rfl (q' rfl (I0.s hC rfl (e' rfl (re' (rt' rfl rfl rfl))))))
      exact sk' (T' rfl (lw' (ih0 _ _ hh) rfl rfl rfl))
    cases hh
    exact ex' (p' 1 rfl (I0.s hC rfl (e' rfl (re' (rt' rfl rfl rfl)))))
theorem M1s {s name i res} (hh : Eu s name i = some res) : V1f s name i res := (L1q s name) _ _ hh
def Z1b (s : P0) (name : Str) : Option (O0 × Bool) :=
  Eu s name (IntKind.i64.wrap (((s.Vars).length : Int) - 1))
theorem K1l {s name res} (hh : Z1b s name = some res) : S0 C 95 [.agg (P0.cells s), .d (.str name)] [] (Ret [] (.tup [.agg (O0.cells res.1), .d (.bool res.2)])) := by
  unfold Z1b at hh
  exact S0.intro hC Tryz.func95 rfl rfl rfl (s' rfl rfl (I0.n hC rfl (I0.nf hC rfl (e' rfl (S' (p' 2 rfl (qe' rfl trivial (O0.lenA _) (e' rfl (bk' (fw' (M1s hh) rfl rfl rfl))))))))))
def Fu (e : C0) (k : List A0) (i1 : Int) : Option (A0 × Int) :=
  idx k 0 >>= fun x10 =>
  if (decide (i1 < ((x10.Names).length : Int))) = true then
    idx k 0 >>= fun x11 =>
    idx x11.Names i1 >>= fun x12 =>
    if (x12 == e.Name) = true then
      idx k 0 >>= fun x13 =>
      idx x13.Of i1 >>= fun x14 =>
      some (x14, 0)
    else
      Fu e k (IntKind.i64.wrap (i1 + 1))
  else
    some ((A0.mk 0 0 0 0 [] [] []), 7)
  partial_fixpoint
abbrev W1f (e : C0) (k : List A0) (i1 : Int) (res : A0 × Int) : Prop := LM C 135 0 Tryz.f44 [1, 1, 1, 1, 1, 1, 0, 1, 2, 1, 0, 1, 4] [(3, .ref 1 0), (4, .ref 2 0), (6, .osl 3 (A0.rows k)), (12, .d (.int .i64 i1))] [.dead, .row (C0.cells e) 34, .row [.d (.int .i64 0), .d (.int .i64 0), .d (.int .i64 0), .d (.int .i64 0), .d (.str []), .full (estr.rows []), .full (A0.rows [])] 40, .tok 40 7] (Ret [] (.tup [.agg (A0.cells res.1), .d (.int .i64 res.2)]))
theorem M1q (e : C0) (k : List A0) : (∀ i1 res, Fu e k i1 = some res → W1f e k i1 res) := by
  refine Fu.partial_correctness e k _ ?_
  · intro g0 ih0 i1 res hh
    obtain ⟨x10, hx10, hh⟩ := bs' hh
    refine Z0.unroll (S' (p' 2 rfl (i' rfl (W0 hx10) (A0.idx hx10) rfl (o' 2 rfl (qe' rfl trivial (estr.lenA _) (e' rfl (ci' rfl hh (fun hh => ?_) (fun hh => ?_))))))))
    · obtain ⟨x11, hx11, hh⟩ := bs' hh
      obtain ⟨x12, hx12, hh⟩ := bs' hh
      refine sk' (S' (bk' (S' (AEx.draw hC 10 rfl rfl rfl (Q' rfl (AQ.i hC rfl (W0 hx11) (A0.idx hx11) rfl (O' 3 rfl (AQ.i hC rfl (W0 hx12) (estr.idx hx12) rfl (E' rfl (n' (ci' rfl hh (fun hh => ?_) (fun hh => ?_))))))))))))
      · obtain ⟨x13, hx13, hh⟩ := bs' hh
        obtain ⟨x14, hx14, hh⟩ := bs' hh
        cases hh
        exact p' 1 rfl (i' rfl (W0 hx13) (A0.idx hx13) rfl (o' 3 rfl (i' rfl (W0 hx14) (A0.idx hx14) rfl (q' rfl (I0.s hC rfl (e' rfl (re' (rt' rfl rfl rfl))))))))
      refine sk' (T' rfl ?_)
      refine Z0.wk ?_ (ih0 _ _ hh)
      exact ⟨⟨⟨.rfl, rfl⟩, ⟨⟨.rfl, rfl⟩, ⟨⟨.rfl, rfl⟩, ⟨⟨.rfl, rfl⟩, trivial⟩⟩⟩⟩, ⟨trivial, ⟨⟨rfl, .refl _, rfl⟩, ⟨⟨rfl, .refl _, rfl⟩, ⟨rfl, trivial⟩⟩⟩⟩, rfl⟩
    cases hh
    exact ex' (p' 1 rfl (I0.s hC rfl (e' rfl (re' (rt' rfl rfl rfl)))))
theorem N1s {e k i1 res} (hh : Fu e k i1 = some res) : W1f e k i1 res := (M1q e k) _ _ hh
def Ea (a : Int) (b : Int) : Option Int :=
  if (decide (a < b)) = true then
    some a
  else
    some b
theorem M8 {a b res} (hh : Ea a b = some res) : S0 C 82 [.d (.int .i64 a), .d (.int .i64 b)] [] (Ret [] (.d (.int .i64 res))) := by
  unfold Ea at hh
  refine S0.intro hC Tryz.func82 rfl rfl rfl (t' rfl (S' (t' rfl (ci' rfl hh (fun hh => ?_) (fun hh => ?_)))))
  · cases hh
    exact t' rfl (re' (rt' rfl rfl rfl))
  cases hh
  exact sk' (t' rfl (re' (rt' rfl rfl rfl)))
def Ub (a : Int) (b : Int) : Option Int :=
  if (decide (a > b)) = true then
    some a
  else
    some b
theorem Ac {a b res} (hh : Ub a b = some res) : S0 C 161 [.d (.int .i64 a), .d (.int .i64 b)] [] (Ret [] (.d (.int .i64 res))) := by
  unfold Ub at hh
  refine S0.intro hC Tryz.func161 rfl rfl rfl (t' rfl (S' (t' rfl (ci' rfl hh (fun hh => ?_) (fun hh => ?_)))))
  · cases hh
    exact t' rfl (re' (rt' rfl rfl rfl))
  cases hh
  exact sk' (t' rfl (re' (rt' rfl rfl rfl)))
def D10 (t : A0) : Option (A0 × Int) :=
  if (bif (decide (t.Low < (-1048576))) then true else (decide (t.High > 1048576))) = true then
    some ((A0.mk 0 0 0 0 [] [] []), 3)
  else
    some (t, 0)
theorem W1d {t res} (hh : D10 t = some res) : S0 C 162 [.agg (A0.cells t)] [] (Ret [] (.tup [.agg (A0.cells res.1), .d (.int .i64 res.2)])) := by
  unfold D10 at hh
  refine S0.intro hC Tryz.func162 rfl rfl rfl (s' rfl rfl (I0.n hC rfl (I0.nf hC rfl (e' rfl (S' (sg' 8 rfl (G' 5 rfl (a1' rfl (a1' rfl (po' rfl (an' (n' (ci' rfl hh (fun hh => ?_) (fun hh => ?_))))))))))))))
  · cases hh
    exact p' 1 rfl (I0.s hC rfl (e' rfl (re' (rt' rfl rfl rfl))))
  cases hh
  exact sk' (p' 1 rfl (I0.s hC rfl (e' rfl (re' (rt' rfl rfl rfl)))))
def N13 (t : A0) : Option Int :=
  Ub t.High (IntKind.i64.wrap (0 - t.Low)) >>= fun x1 =>
  some x1
theorem A1o {t res} (hh : N13 t = some res) : S0 C 201 [.agg (A0.cells t)] [] (Ret [] (.d (.int .i64 res))) := by
  unfold N13 at hh
  obtain ⟨x1, hx1, hh⟩ := bs' hh
  cases hh
  exact S0.intro hC Tryz.func201 rfl rfl rfl (s' rfl rfl (I0.n hC rfl (e' rfl (p' 5 rfl (c' (Ac hx1) rfl rfl (e' rfl (re' (rt' rfl rfl rfl))))))))
def Lv (low : Int) (high : Int) : Option A0 :=
  Tb low high >>= fun x6 =>
  some x6
theorem E19 {low high res} (hh : Lv low high = some res) : JM C 77 0 Tryz.f163 [1, 1, 0, 1, 2, 1, 1, 1, 1] [(6, .ref 2 0), (8, .d (.int .i64 low)), (9, .d (.int .i64 high))] [.dead, .dead, .row [.d (.int .i64 0), .d (.int .i64 0), .d (.int .i64 0), .d (.int .i64 0), .d (.str []), .full (estr.rows []), .full (A0.rows [])] 40] (Ret [] (.agg (A0.cells res))) := by
  unfold Lv at hh
  obtain ⟨x6, hx6, hh⟩ := bs' hh
  cases hh
  exact p' 2 rfl (c' (W9 hx6) rfl rfl (I0.s hC rfl (n' (re' (rt' rfl rfl rfl)))))
def Mv (b : A0) (low : Int) : Option A0 :=
  if (decide (b.High > 0)) = true then
    Ub (IntKind.i64.wrap (b.High - 1)) 0 >>= fun x5 =>
    Lv low x5
  else
    Lv low 0
theorem F19 {b low res} (hh : Mv b low = some res) : JM C 77 0 Tryz.f163 [1, 1, 0, 1, 2, 1, 1, 1] [(5, .ref 1 0), (6, .ref 2 0), (8, .d (.int .i64 low)), (9, .d (.int .i64 0))] [.dead, .row (A0.cells b) 40, .row [.d (.int .i64 0), .d (.int .i64 0), .d (.int .i64 0), .d (.int .i64 0), .d (.str []), .full (estr.rows []), .full (A0.rows [])] 40] (Ret [] (.agg (A0.cells res))) := by
  unfold Mv at hh
  refine S' (t' rfl (ci' rfl hh (fun hh => ?_) (fun hh => ?_)))
  · obtain ⟨x5, hx5, hh⟩ := bs' hh
    refine P' 3 rfl (c' (Ac hx5) rfl rfl (e' rfl ?_))
    refine AEx.wk ?_ (E19 hh)
    exact ⟨⟨⟨.rfl, rfl⟩, ⟨⟨.rfl, rfl⟩, ⟨⟨.rfl, rfl⟩, trivial⟩⟩⟩, ⟨trivial, ⟨trivial, ⟨⟨rfl, .refl _, rfl⟩, trivial⟩⟩⟩, rfl⟩
  refine sk' ?_
  refine AEx.wk ?_ (E19 hh)
  exact ⟨⟨⟨.rfl, rfl⟩, ⟨⟨.rfl, rfl⟩, ⟨⟨.rfl, rfl⟩, trivial⟩⟩⟩, ⟨trivial, ⟨trivial, ⟨⟨rfl, .refl _, rfl⟩, trivial⟩⟩⟩, rfl⟩
mutual
def Xn (o : Int) (a : A0) (b : A0) (o3 : A0) (i : Int) : Option A0 :=
  if (decide (i < 4)) = true then
    idx [a.Low, a.Low, a.High, a.High] i >>= fun x1 =>
    idx [b.Low, b.High, b.Low, b.High] i >>= fun x2 =>
    if (o == 9) = true then
      idx [a.Low, a.Low, a.High, a.High] i >>= fun x3 =>
      idx [b.Low, b.High, b.Low, b.High] i >>= fun x4 =>
      Lt o a b o3 i (IntKind.i64.wrap (x3 - x4))
    else
      Lt o a b o3 i (IntKind.i64.wrap (x1 + x2))
  else
    some o3
  partial_fixpoint
def Lt (o : Int) (a : A0) (b : A0) (o31 : A0) (i1 : Int) (n : Int) : Option A0 :=
  if (o == 10) = true then
    idx [a.Low, a.Low, a.High, a.High] i1 >>= fun x5 =>
    idx [b.Low, b.High, b.Low, b.High] i1 >>= fun x6 =>
    Mt o a b o31 i1 (IntKind.i64.wrap (x5 * x6))
  else
    Mt o a b o31 i1 n
  partial_fixpoint
def Mt (o : Int) (a : A0) (b : A0) (o32 : A0) (i2 : Int) (n1 : Int) : Option A0 :=
  if (i2 == 0) = true then
    Tb n1 n1 >>= fun x7 =>
    Nt o a b x7 i2 n1
  else
    Nt o a b o32 i2 n1
  partial_fixpoint
def Nt (o : Int) (a : A0) (b : A0) (o33 : A0) (i3 : Int) (n1 : Int) : Option A0 :=
  Ea o33.Low n1 >>= fun x8 =>
  Ub o33.High n1 >>= fun x9 =>
  Tb x8 x9 >>= fun x10 =>
  Xn o a b x10 (IntKind.i64.wrap (i3 + 1))
  partial_fixpoint
end
abbrev G19 (o : Int) (a : A0) (b : A0) (o3 : A0) (i : Int) (res : A0) : Prop := LM C 81 0 Tryz.f202 [1, 1, 1, 1, 0, 1, 4] [(0, .d (.int .i64 o)), (6, .ref 2 0), (7, .full (ei64.rows [a.Low, a.Low, a.High, a.High])), (8, .full (ei64.rows [b.Low, b.High, b.Low, b.High])), (9, .ref 3 0), (10, .d (.int .i64 i))] [.dead, .dead, .row [.d (.int .i64 0), .d (.int .i64 0), .d (.int .i64 0), .d (.int .i64 0), .d (.str []), .full (estr.rows []), .full (A0.rows [])] 40, .row (A0.cells o3) 40] (Ret [] (.agg (A0.cells res)))
abbrev H19 (o : Int) (a : A0) (b : A0) (o31 : A0) (i1 : Int) (n : Int) (res : A0) : Prop := JM C 81 0 Tryz.f202 [1, 1, 1, 1, 0, 1, 4, 5, 1, 0, 4, 1, 1] [(0, .d (.int .i64 o)), (6, .ref 2 0), (7, .full (ei64.rows [a.Low, a.Low, a.High, a.High])), (8, .full (ei64.rows [b.Low, b.High, b.Low, b.High])), (9, .ref 3 0), (10, .d (.int .i64 i1)), (11, .d (.int .i64 n))] [.dead, .dead, .row [.d (.int .i64 0), .d (.int .i64 0), .d (.int .i64 0), .d (.int .i64 0), .d (.str []), .full (estr.rows []), .full (A0.rows [])] 40, .row (A0.cells o31) 40] (Ret [] (.agg (A0.cells res)))
abbrev I19 (o : Int) (a : A0) (b : A0) (o32 : A0) (i2 : Int) (n1 : Int) (res : A0) : Prop := JM C 81 0 Tryz.f202 [1, 1, 1, 1, 0, 1, 4, 5, 1, 0, 4, 1, 1, 1] [(0, .d (.int .i64 o)), (6, .ref 2 0), (7, .full (ei64.rows [a.Low, a.Low, a.High, a.High])), (8, .full (ei64.rows [b.Low, b.High, b.Low, b.High])), (9, .ref 3 0), (10, .d (.int .i64 i2)), (11, .d (.int .i64 n1))] [.dead, .dead, .row [.d (.int .i64 0), .d (.int .i64 0), .d (.int .i64 0), .d (.int .i64 0), .d (.str []), .full (estr.rows []), .full (A0.rows [])] 40, .row (A0.cells o32) 40] (Ret [] (.agg (A0.cells res)))
abbrev J19 (o : Int) (a : A0) (b : A0) (o33 : A0) (i3 : Int) (n1 : Int) (res : A0) : Prop := JM C 81 0 Tryz.f202 [1, 1, 1, 1, 0, 1, 4, 5, 1, 0, 4, 1, 1, 1, 1] [(0, .d (.int .i64 o)), (6, .ref 2 0), (7, .full (ei64.rows [a.Low, a.Low, a.High, a.High])), (8, .full (ei64.rows [b.Low, b.High, b.Low, b.High])), (9, .ref 3 0), (10, .d (.int .i64 i3)), (11, .d (.int .i64 n1))] [.dead, .dead, .row [.d (.int .i64 0), .d (.int .i64 0), .d (.int .i64 0), .d (.int .i64 0), .d (.str []), .full (estr.rows []), .full (A0.rows [])] 40, .row (A0.cells o33) 40] (Ret [] (.agg (A0.cells res)))
theorem Wm (o : Int) (a : A0) (b : A0) : (∀ o3 i res, Xn o a b o3 i = some res → G19 o a b o3 i res) ∧ (∀ o31 i1 n res, Lt o a b o31 i1 n = some res → H19 o a b o31 i1 n res) ∧ (∀ o32 i2 n1 res, Mt o a b o32 i2 n1 = some res → I19 o a b o32 i2 n1 res) ∧ (∀ o33 i3 n1 res, Nt o a b o33 i3 n1 = some res → J19 o a b o33 i3 n1 res) := by
  refine Xn.mutual_partial_correctness o a b _ _ _ _ ?_ ?_ ?_ ?_
  · intro g1 ih1 o3 i res hh
    refine Z0.unroll (S' (t' rfl (ci' rfl hh (fun hh => ?_) (fun hh => ?_))))
    · obtain ⟨x1, hx1, hh⟩ := bs' hh
      obtain ⟨x2, hx2, hh⟩ := bs' hh
      refine sk' (S' (bk' (S' (AEx.draw hC 10 rfl rfl rfl (O' 2 rfl (AQ.i hC rfl (W0 hx1) (ei64.idx hx1) rfl (O' 3 rfl (AQ.i hC rfl (W0 hx2) (ei64.idx hx2) rfl (E' rfl (n' (S' (t' rfl (ci' rfl hh (fun hh => ?_) (fun hh => ?_))))))))))))))
      · obtain ⟨x3, hx3, hh⟩ := bs' hh
        obtain ⟨x4, hx4, hh⟩ := bs' hh
        refine AEx.draw hC 10 rfl rfl rfl (O' 2 rfl (AQ.i hC rfl (W0 hx3) (ei64.idx hx3) rfl (O' 3 rfl (AQ.i hC rfl (W0 hx4) (ei64.idx hx4) rfl (E' rfl (n' ?_))))))
        refine AEx.wk ?_ (ih1 _ _ _ _ hh)
        exact ⟨⟨⟨.rfl, rfl⟩, ⟨⟨.rfl, rfl⟩, ⟨⟨.rfl, rfl⟩, ⟨⟨.rfl, rfl⟩, ⟨⟨.rfl, rfl⟩, ⟨⟨.rfl, rfl⟩, ⟨⟨.rfl, rfl⟩, trivial⟩⟩⟩⟩⟩⟩⟩, ⟨trivial, ⟨trivial, ⟨⟨rfl, .refl _, rfl⟩, ⟨⟨rfl, .refl _, rfl⟩, trivial⟩⟩⟩⟩, rfl⟩
      refine sk' ?_
      refine AEx.wk ?_ (ih1 _ _ _ _ hh)
      exact ⟨⟨⟨.rfl, rfl⟩, ⟨⟨.rfl, rfl⟩, ⟨⟨.rfl, rfl⟩, ⟨⟨.rfl, rfl⟩, ⟨⟨.rfl, rfl⟩, ⟨⟨.rfl, rfl⟩, ⟨⟨.rfl, rfl⟩, trivial⟩⟩⟩⟩⟩⟩⟩, ⟨trivial, ⟨trivial, ⟨⟨rfl, .refl _, rfl⟩, ⟨⟨rfl, .refl _, rfl⟩, trivial⟩⟩⟩⟩, rfl⟩
    cases hh
    exact ex' (p' 1 rfl (I0.s hC rfl (n' (re' (rt' rfl rfl rfl)))))
  · intro g2 ih2 o31 i1 n res hh
    refine S' (t' rfl (ci' rfl hh (fun hh => ?_) (fun hh => ?_)))
    · obtain ⟨x5, hx5, hh⟩ := bs' hh
      obtain ⟨x6, hx6, hh⟩ := bs' hh
      refine AEx.draw hC 10 rfl rfl rfl (O' 2 rfl (AQ.i hC rfl (W0 hx5) (ei64.idx hx5) rfl (O' 3 rfl (AQ.i hC rfl (W0 hx6) (ei64.idx hx6) rfl (E' rfl (n' ?_))))))
      refine AEx.wk ?_ (ih2 _ _ _ _ hh)
      exact ⟨⟨⟨.rfl, rfl⟩, ⟨⟨.rfl, rfl⟩, ⟨⟨.rfl, rfl⟩, ⟨⟨.rfl, rfl⟩, ⟨⟨.rfl, rfl⟩, ⟨⟨.rfl, rfl⟩, ⟨⟨.rfl, rfl⟩, trivial⟩⟩⟩⟩⟩⟩⟩, ⟨trivial, ⟨trivial, ⟨⟨rfl, .refl _, rfl⟩, ⟨⟨rfl, .refl _, rfl⟩, trivial⟩⟩⟩⟩, rfl⟩
    refine sk' ?_
    refine AEx.wk ?_ (ih2 _ _ _ _ hh)
    exact ⟨⟨⟨.rfl, rfl⟩, ⟨⟨.rfl, rfl⟩, ⟨⟨.rfl, rfl⟩, ⟨⟨.rfl, rfl⟩, ⟨⟨.rfl, rfl⟩, ⟨⟨.rfl, rfl⟩, ⟨⟨.rfl, rfl⟩, trivial⟩⟩⟩⟩⟩⟩⟩, ⟨trivial, ⟨trivial, ⟨⟨rfl, .refl _, rfl⟩, ⟨⟨rfl, .refl _, rfl⟩, trivial⟩⟩⟩⟩, rfl⟩
  · intro g3 ih3 o32 i2 n1 res hh
    refine S' (t' rfl (ci' rfl hh (fun hh => ?_) (fun hh => ?_)))
    · obtain ⟨x7, hx7, hh⟩ := bs' hh
      refine P' 2 rfl (c' (W9 hx7) rfl rfl (I0.s hC rfl (n' ?_)))
      refine AEx.wk ?_ (ih3 _ _ _ _ hh)
      exact ⟨⟨⟨.rfl, rfl⟩, ⟨⟨.rfl, rfl⟩, ⟨⟨.rfl, rfl⟩, ⟨⟨.rfl, rfl⟩, ⟨⟨.rfl, rfl⟩, ⟨⟨.rfl, rfl⟩, ⟨⟨.rfl, rfl⟩, trivial⟩⟩⟩⟩⟩⟩⟩, ⟨trivial, ⟨trivial, ⟨⟨rfl, .refl _, rfl⟩, ⟨⟨rfl, .refl _, rfl⟩, trivial⟩⟩⟩⟩, rfl⟩
    refine sk' ?_
    refine AEx.wk ?_ (ih3 _ _ _ _ hh)
    exact ⟨⟨⟨.rfl, rfl⟩, ⟨⟨.rfl, rfl⟩, ⟨⟨.rfl, rfl⟩, ⟨⟨.rfl, rfl⟩, ⟨⟨.rfl, rfl⟩, ⟨⟨.rfl, rfl⟩, ⟨⟨.rfl, rfl⟩, trivial⟩⟩⟩⟩⟩⟩⟩, ⟨trivial, ⟨trivial, ⟨⟨rfl, .refl _, rfl⟩, ⟨⟨rfl, .refl _, rfl⟩, trivial⟩⟩⟩⟩, rfl⟩
  · intro g0 ih0 o33 i3 n1 res hh
    obtain ⟨x8, hx8, hh⟩ := bs' hh
    obtain ⟨x9, hx9, hh⟩ := bs' hh
    obtain ⟨x10, hx10, hh⟩ := bs' hh
    refine AEx.draw hC 9 rfl rfl rfl (O' 3 rfl (Qc' (M8 hx8) rfl rfl (O' 3 rfl (Qc' (Ac hx9) rfl rfl (Qc' (W9 hx10) rfl rfl (Qn' (I0.s hC rfl (n' (T' rfl ?_)))))))))
    refine Z0.wk ?_ (ih0 _ _ _ hh)
    exact ⟨⟨⟨.rfl, rfl⟩, ⟨⟨.rfl, rfl⟩, ⟨⟨.rfl, rfl⟩, ⟨⟨.rfl, rfl⟩, ⟨⟨.rfl, rfl⟩, ⟨⟨.rfl, rfl⟩, trivial⟩⟩⟩⟩⟩⟩, ⟨trivial, ⟨trivial, ⟨⟨rfl, .refl _, rfl⟩, ⟨⟨rfl, .refl _, rfl⟩, trivial⟩⟩⟩⟩, rfl⟩
theorem E1m {o a b o3 i res} (hh : Xn o a b o3 i = some res) : G19 o a b o3 i res := (Wm o a b).1 _ _ _ hh
theorem T2a {o a b o31 i1 n res} (hh : Lt o a b o31 i1 n = some res) : H19 o a b o31 i1 n res := (Wm o a b).2.1 _ _ _ _ hh
theorem U2a {o a b o32 i2 n1 res} (hh : Mt o a b o32 i2 n1 = some res) : I19 o a b o32 i2 n1 res := (Wm o a b).2.2.1 _ _ _ _ hh
theorem V2a {o a b o33 i3 n1 res} (hh : Nt o a b o33 i3 n1 = some res) : J19 o a b o33 i3 n1 res := (Wm o a b).2.2.2 _ _ _ _ hh
def A1a (o : Int) (a : A0) (b : A0) : Option A0 :=
  Xn o a b (A0.mk 0 0 0 0 [] [] []) 0
theorem O1s {o a b res} (hh : A1a o a b = some res) : S0 C 202 [.d (.int .i64 o), .agg (A0.cells a), .agg (A0.cells b)] [] (Ret [] (.agg (A0.cells res))) := by
  unfold A1a at hh
  refine S0.intro hC Tryz.func202 rfl rfl rfl (s' rfl rfl (I0.n hC rfl (I0.n hC rfl (I0.nf hC rfl (n' (p' 8 rfl (I0.be hC rfl (ei64.rows_map [a.Low, a.Low, a.High, a.High]).symm (e' rfl (p' 8 rfl (I0.be hC rfl (ei64.rows_map [b.Low, b.High, b.Low, b.High]).symm (e' rfl (p' 1 rfl (I0.nf hC rfl ?_)))))))))))))
  refine I0.s hC rfl (n' (S' (t' rfl (bk' ?_))))
  refine AEx.ofLoop ?_
  refine Z0.wk ?_ (E1m hh)
  exact ⟨⟨⟨.rfl, rfl⟩, ⟨⟨.rfl, rfl⟩, ⟨⟨.rfl, rfl⟩, ⟨⟨.rfl, rfl⟩, ⟨⟨.rfl, rfl⟩, ⟨⟨.rfl, rfl⟩, trivial⟩⟩⟩⟩⟩⟩, ⟨trivial, ⟨trivial, ⟨⟨rfl, .refl _, rfl⟩, ⟨⟨rfl, .refl _, rfl⟩, trivial⟩⟩⟩⟩, rfl⟩
def X1d (o : Int) (a : A0) (b : A0) : Option A0 :=
  if (o == 11) = true then
    N13 a >>= fun x1 =>
    if (bif (decide (a.Low ≥ 0)) then (decide (b.Low ≥ 0)) else false) = true then
      Tb 0 x1 >>= fun x2 =>
      some x2
    else
      Tb (IntKind.i64.wrap (0 - x1)) x1 >>= fun x3 =>
      some x3
  else
    if (o == 12) = true then
      if (decide (b.Low < 0)) = true then
        Ea (IntKind.i64.wrap (b.Low + 1)) 0 >>= fun x4 =>
        Mv b x4
      else
        Mv b 0
    else
      if (o == 21) = true then
        Ea a.Low b.Low >>= fun x7 =>
        Ea a.High b.High >>= fun x8 =>
        Tb x7 x8 >>= fun x9 =>
        some x9
      else
        if (o == 22) = true then
          Ub a.Low b.Low >>= fun x10 =>
          Ub a.High b.High >>= fun x11 =>
          Tb x10 x11 >>= fun x12 =>
          some x12
        else
          A1a o a b >>= fun x13 =>
          some x13
theorem A1v {o a b res} (hh : X1d o a b = some res) : S0 C 163 [.d (.int .i64 o), .agg (A0.cells a), .agg (A0.cells b)] [] (Ret [] (.agg (A0.cells res))) := by
  unfold X1d at hh
  refine S0.intro hC Tryz.func163 rfl rfl rfl (s' rfl rfl (I0.n hC rfl (I0.n hC rfl (I0.nf hC rfl (n' (S' (t' rfl (ci' rfl hh (fun hh => ?_) (fun hh => ?_)))))))))
  · obtain ⟨x1, hx1, hh⟩ := bs' hh
    refine p' 1 rfl (c' (A1o hx1) rfl rfl (e' rfl (S' (sg' 8 rfl (G' 5 rfl (a1' rfl (a1' rfl (pa' rfl (an' (n' (ci' rfl hh (fun hh => ?_) (fun hh => ?_))))))))))))
    · obtain ⟨x2, hx2, hh⟩ := bs' hh
      cases hh
      exact p' 1 rfl (c' (W9 hx2) rfl rfl (I0.s hC rfl (n' (re' (rt' rfl rfl rfl)))))
    obtain ⟨x3, hx3, hh⟩ := bs' hh
    cases hh
    exact sk' (p' 3 rfl (c' (W9 hx3) rfl rfl (I0.s hC rfl (n' (re' (rt' rfl rfl rfl))))))
  refine sk' (S' (t' rfl (ci' rfl hh (fun hh => ?_) (fun hh => ?_))))
  · refine t' rfl (t' rfl (S' (t' rfl (ci' rfl hh (fun hh => ?_) (fun hh => ?_)))))
    · obtain ⟨x4, hx4, hh⟩ := bs' hh
      refine P' 3 rfl (c' (M8 hx4) rfl rfl (e' rfl ?_))
      refine AEx.wk ?_ (F19 hh)
      exact ⟨⟨⟨.rfl, rfl⟩, ⟨⟨.rfl, rfl⟩, ⟨⟨.rfl, rfl⟩, ⟨⟨.rfl, rfl⟩, trivial⟩⟩⟩⟩, ⟨trivial, ⟨⟨rfl, .refl _, rfl⟩, ⟨⟨rfl, .refl _, rfl⟩, trivial⟩⟩⟩, rfl⟩
    refine sk' ?_
    refine AEx.wk ?_ (F19 hh)
    exact ⟨⟨⟨.rfl, rfl⟩, ⟨⟨.rfl, rfl⟩, ⟨⟨.rfl, rfl⟩, ⟨⟨.rfl, rfl⟩, trivial⟩⟩⟩⟩, ⟨trivial, ⟨⟨rfl, .refl _, rfl⟩, ⟨⟨rfl, .refl _, rfl⟩, trivial⟩⟩⟩, rfl⟩
  refine sk' (S' (t' rfl (ci' rfl hh (fun hh => ?_) (fun hh => ?_))))
  · obtain ⟨x7, hx7, hh⟩ := bs' hh
    obtain ⟨x8, hx8, hh⟩ := bs' hh
    obtain ⟨x9, hx9, hh⟩ := bs' hh
    cases hh
    exact S' (AEx.draw hC 11 rfl rfl rfl (O' 4 rfl (Qc' (M8 hx7) rfl rfl (O' 4 rfl (Qc' (M8 hx8) rfl rfl (Qc' (W9 hx9) rfl rfl (Qn' (I0.s hC rfl (n' (re' (rt' rfl rfl rfl)))))))))))
  refine sk' (S' (t' rfl (ci' rfl hh (fun hh => ?_) (fun hh => ?_))))
  · obtain ⟨x10, hx10, hh⟩ := bs' hh
    obtain ⟨x11, hx11, hh⟩ := bs' hh
    obtain ⟨x12, hx12, hh⟩ := bs' hh
    cases hh
    exact S' (AEx.draw hC 11 rfl rfl rfl (O' 4 rfl (Qc' (Ac hx10) rfl rfl (O' 4 rfl (Qc' (Ac hx11) rfl rfl (Qc' (W9 hx12) rfl rfl (Qn' (I0.s hC rfl (n' (re' (rt' rfl rfl rfl)))))))))))
  obtain ⟨x13, hx13, hh⟩ := bs' hh
  cases hh
  exact sk' (p' 3 rfl (c' (O1s hx13) rfl rfl (I0.s hC rfl (n' (re' (rt' rfl rfl rfl))))))
def Dl (o : Int) (k : List A0) (ints : Bool) (bools : Bool) (i : Int) : Option (A0 × Int) :=
  if (decide (i < ((k).length : Int))) = true then
    (if ints = true then idx k i else some default) >>= fun x1 =>
    (if bools = true then idx k i else some default) >>= fun x2 =>
    Dl o k (bif ints then (x1.Kind == 1) else false) (bif bools then (x2.Kind == 0) else false) (IntKind.i64.wrap (i + 1))
  else
    if (bif (bif (o == 7) then true else (o == 19)) then true else (o == 20)) = true then
      if (!bools) = true then
        some ((A0.mk 0 0 0 0 [] [] []), 9)
      else
        some ((A0.mk 0 0 0 0 [] [] []), 0)
    else
      if (bif (o == 13) then true else (o == 14)) = true then
        if (bif (!ints) then (!bools) else false) = true then
          some ((A0.mk 0 0 0 0 [] [] []), 9)
        else
          some ((A0.mk 0 0 0 0 [] [] []), 0)
      else
        if (o == 23) = true then
          idx k 0 >>= fun x3 =>
          (if (!(x3.Kind != 0)) = true then idx k 1 else some default) >>= fun x4 =>
          (if (!(x3.Kind != 0)) = true then Wn x4 else some default) >>= fun x5 =>
          (if (!(bif (x3.Kind != 0) then true else (!x5))) = true then idx k 1 else some default) >>= fun x6 =>
          (if (!(bif (x3.Kind != 0) then true else (!x5))) = true then idx k 2 else some default) >>= fun x7 =>
          if (bif (bif (x3.Kind != 0) then true else (!x5)) then true else (x6.Kind != x7.Kind)) = true then
            some ((A0.mk 0 0 0 0 [] [] []), 9)
          else
            idx k 1 >>= fun x8 =>
            if (x8.Kind == 0) = true then
              some ((A0.mk 0 0 0 0 [] [] []), 0)
            else
              idx k 1 >>= fun x9 =>
              idx k 2 >>= fun x10 =>
              Ea x9.Low x10.Low >>= fun x11 =>
              idx k 1 >>= fun x12 =>
              idx k 2 >>= fun x13 =>
              Ub x12.High x13.High >>= fun x14 =>
              Tb x11 x14 >>= fun x15 =>
              some (x15, 0)
        else
          if (!ints) = true then
            some ((A0.mk 0 0 0 0 [] [] []), 9)
          else
            if (bif (bif (bif (o == 15) then true else (o == 16)) then true else (o == 17)) then true else (o == 18)) = true then
              some ((A0.mk 0 0 0 0 [] [] []), 0)
            else
              if (o == 6) = true then
                idx k 0 >>= fun x16 =>
                idx k 0 >>= fun x17 =>
                Tb (IntKind.i64.wrap (0 - x16.High)) (IntKind.i64.wrap (0 - x17.Low)) >>= fun x18 =>
                D10 x18 >>= fun x19 =>
                some (x19.1, x19.2)
              else
                idx k 0 >>= fun x20 =>
                idx k 1 >>= fun x21 =>
                X1d o x20 x21 >>= fun x22 =>
                D10 x22 >>= fun x23 =>
                some (x23.1, x23.2)
  partial_fixpoint
abbrev O13 (o : Int) (k : List A0) (ints : Bool) (bools : Bool) (i : Int) (res : A0 × Int) : Prop := LM C 157 0 Tryz.f96 [1, 1, 1, 0, 1, 4] [(0, .d (.int .i64 o)), (1, .d (.sl (A0.rows k))), (4, .ref 0 0), (6, .d (.bool ints)), (7, .d (.bool bools)), (8, .d (.int .i64 i))] [.row [.d (.int .i64 0), .d (.int .i64 0), .d (.int .i64 0), .d (.int .i64 0), .d (.str []), .full (estr.rows []), .full (A0.rows [])] 40] (Ret [] (.tup [.agg (A0.cells res.1), .d (.int .i64 res.2)]))
theorem V1g (o : Int) (k : List A0) : (∀ ints bools i res, Dl o k ints bools i = some res → O13 o k ints bools i res) := by
  refine Dl.partial_correctness o k _ ?_
  · intro g0 ih0 ints bools i res hh
    refine Z0.unroll (S' (p' 2 rfl (qe' rfl trivial (A0.lenA _) (e' rfl (ci' rfl hh (fun hh => ?_) (fun hh => ?_))))))
    · obtain ⟨x1, hx1, hh⟩ := bs' hh
      obtain ⟨x2, hx2, hh⟩ := bs' hh
      refine sk' (S' (bk' (sg' 10 rfl (G' 4 rfl (AG.i hC rfl rfl (fun hg => ⟨hg, hg, trivial⟩) (fun hw => ⟨W0 (T1 hw hx1), A0.idx (T1 hw hx1), rfl⟩) (a1' rfl (a1' rfl (a1' rfl (pa' rfl (a0' rfl (an' (n' (AEx.regionG 10 rfl ?_)))))))))))))
      exact G' 4 rfl (AG.i hC rfl rfl (fun hg => ⟨hg, hg, trivial⟩) (fun hw => ⟨W0 (T1 hw hx2), A0.idx (T1 hw hx2), rfl⟩) (a1' rfl (a1' rfl (a1' rfl (pa' rfl (a0' rfl (an' (n' (T' rfl (lw' (ih0 _ _ _ _ hh) rfl rfl rfl))))))))))
    refine ex' (S' (sg' 10 rfl (G' 4 rfl (a1' rfl (po' rfl (G' 2 rfl (a1' rfl (po' rfl (an' (n' (ci' rfl hh (fun hh => ?_) (fun hh => ?_))))))))))))
    · refine S' (t' rfl (ci' rfl hh (fun hh => ?_) (fun hh => ?_)))
      · cases hh
        exact p' 1 rfl (I0.s hC rfl (e' rfl (re' (rt' rfl rfl rfl))))
      cases hh
      exact sk' (p' 1 rfl (I0.s hC rfl (e' rfl (re' (rt' rfl rfl rfl)))))
    refine sk' (S' (sg' 6 rfl (G' 4 rfl (a1' rfl (po' rfl (an' (n' (ci' rfl hh (fun hh => ?_) (fun hh => ?_)))))))))
    · refine S' (sg' 6 rfl (G' 4 rfl (a1' rfl (pa' rfl (an' (n' (ci' rfl hh (fun hh => ?_) (fun hh => ?_))))))))
      · cases hh
        exact p' 1 rfl (I0.s hC rfl (e' rfl (re' (rt' rfl rfl rfl))))
      cases hh
      exact sk' (p' 1 rfl (I0.s hC rfl (e' rfl (re' (rt' rfl rfl rfl)))))
    refine sk' (S' (t' rfl (ci' rfl hh (fun hh => ?_) (fun hh => ?_))))
    · obtain ⟨x3, hx3, hh⟩ := bs' hh
      obtain ⟨x4, hx4, hh⟩ := bs' hh
      obtain ⟨x5, hx5, hh⟩ := bs' hh
      obtain ⟨x6, hx6, hh⟩ := bs' hh
      obtain ⟨x7, hx7, hh⟩ := bs' hh
      refine S' (S' (AEx.drawG hC 23 rfl rfl rfl (a0' rfl (AG.i hC rfl rfl (fun _ => trivial) (fun hw => ⟨W0 hx3, A0.idx hx3, rfl⟩) (G' 5 rfl (AG.i hC rfl rfl (fun hg => ⟨hg, trivial⟩) (fun hw => ⟨W0 (T1 hw hx4), A0.idx (T1 hw hx4), rfl⟩) (a1' rfl (AG.c rfl rfl (fun hg => ⟨hg, trivial⟩) (fun hw => Cq (T1 hw hx5)) (a1' rfl (po' rfl (G' 2 rfl ?_)))))))))))
      refine AG.i hC rfl rfl (fun hg => ⟨hg, trivial⟩) (fun hw => ⟨W0 (T1 hw hx6), A0.idx (T1 hw hx6), rfl⟩) (a1' rfl (a1' rfl (a0' rfl (AG.i hC rfl rfl (fun hg => ⟨hg, trivial⟩) (fun hw => ⟨W0 (T1 hw hx7), A0.idx (T1 hw hx7), rfl⟩) (a1' rfl (a1' rfl (a2' rfl (po' rfl (an' (n' (ci' rfl hh (fun hh => ?_) (fun hh => ?_))))))))))))
      · cases hh
        exact p' 1 rfl (I0.s hC rfl (e' rfl (re' (rt' rfl rfl rfl))))
      obtain ⟨x8, hx8, hh⟩ := bs' hh
      refine sk' (S' (p' 1 rfl (i' rfl (W0 hx8) (A0.idx hx8) rfl (e' rfl (ci' rfl hh (fun hh => ?_) (fun hh => ?_))))))
      · cases hh
        exact p' 1 rfl (I0.s hC rfl (e' rfl (re' (rt' rfl rfl rfl))))
      obtain ⟨x9, hx9, hh⟩ := bs' hh
      obtain ⟨x10, hx10, hh⟩ := bs' hh
      obtain ⟨x11, hx11, hh⟩ := bs' hh
      obtain ⟨x12, hx12, hh⟩ := bs' hh
      obtain ⟨x13, hx13, hh⟩ := bs' hh
      obtain ⟨x14, hx14, hh⟩ := bs' hh
      obtain ⟨x15, hx15, hh⟩ := bs' hh
      cases hh
      refine sk' (S' (AEx.draw hC 19 rfl rfl rfl (Q' rfl (AQ.i hC rfl (W0 hx9) (A0.idx hx9) rfl (O' 3 rfl (AQ.i hC rfl (W0 hx10) (A0.idx hx10) rfl (O' 2 rfl (Qc' (M8 hx11) rfl rfl (Q' rfl (AQ.i hC rfl (W0 hx12) (A0.idx hx12) rfl (O' 3 rfl (AQ.i hC rfl (W0 hx13) (A0.idx hx13) rfl (O' 2 rfl ?_)))))))))))))
      exact Qc' (Ac hx14) rfl rfl (Qc' (W9 hx15) rfl rfl (Qn' (I0.s hC rfl (e' rfl (re' (rt' rfl rfl rfl))))))
    refine sk' (S' (t' rfl (ci' rfl hh (fun hh => ?_) (fun hh => ?_))))
    · cases hh
      exact p' 1 rfl (I0.s hC rfl (e' rfl (re' (rt' rfl rfl rfl))))
    refine sk' (S' (sg' 14 rfl (G' 4 rfl (a1' rfl (po' rfl (G' 2 rfl (a1' rfl (po' rfl (G' 2 rfl (a1' rfl (po' rfl (an' (n' (ci' rfl hh (fun hh => ?_) (fun hh => ?_)))))))))))))))
    · cases hh
      exact p' 1 rfl (I0.s hC rfl (e' rfl (re' (rt' rfl rfl rfl))))
    refine sk' (S' (t' rfl (ci' rfl hh (fun hh => ?_) (fun hh => ?_))))
    · obtain ⟨x16, hx16, hh⟩ := bs' hh
      obtain ⟨x17, hx17, hh⟩ := bs' hh
      obtain ⟨x18, hx18, hh⟩ := bs' hh
      obtain ⟨x19, hx19, hh⟩ := bs' hh
      cases hh
      exact S' (AEx.draw hC 14 rfl rfl rfl (Q' rfl (AQ.i hC rfl (W0 hx16) (A0.idx hx16) rfl (O' 4 rfl (AQ.i hC rfl (W0 hx17) (A0.idx hx17) rfl (O' 3 rfl (Qc' (W9 hx18) rfl rfl (Qc' (W1d hx19) rfl rfl (E' rfl (I0.s hC rfl (e' rfl (re' (rt' rfl rfl rfl)))))))))))))
    obtain ⟨x20, hx20, hh⟩ := bs' hh
    obtain ⟨x21, hx21, hh⟩ := bs' hh
    obtain ⟨x22, hx22, hh⟩ := bs' hh
    obtain ⟨x23, hx23, hh⟩ := bs' hh
    cases hh
    exact sk' (S' (AEx.draw hC 11 rfl rfl rfl (O' 2 rfl (AQ.i hC rfl (W0 hx20) (A0.idx hx20) rfl (O' 2 rfl (AQ.i hC rfl (W0 hx21) (A0.idx hx21) rfl (Q' rfl (Qc' (A1v hx22) rfl rfl (Qc' (W1d hx23) rfl rfl (E' rfl (I0.s hC rfl (e' rfl (re' (rt' rfl rfl rfl))))))))))))))
theorem V1i {o k ints bools i res} (hh : Dl o k ints bools i = some res) : O13 o k ints bools i res := (V1g o k) _ _ _ _ hh
def P13 (o : Int) (k : List A0) : Option (A0 × Int) :=
  Dl o k true true 0
theorem B1o {o k res} (hh : P13 o k = some res) : S0 C 96 [.d (.int .i64 o), .d (.sl (A0.rows k))] [] (Ret [] (.tup [.agg (A0.cells res.1), .d (.int .i64 res.2)])) := by
  unfold P13 at hh
  exact S0.intro hC Tryz.func96 rfl rfl rfl (s' rfl rfl (I0.nf hC rfl (e' rfl (t' rfl (t' rfl (S' (t' rfl (bk' (fw' (V1i hh) rfl rfl rfl)))))))))
mutual
def Dq (s : P0) (e : C0) : Option (A0 × Int) :=
  E10 s e [] 0
  partial_fixpoint
def E10 (s : P0) (e : C0) (k : List A0) (i : Int) : Option (A0 × Int) :=
  if (decide (i < ((e.Kids).length : Int))) = true then
    idx e.Kids i >>= fun x1 =>
    Dq s x1 >>= fun x15 =>
    if (x15.2 != 0) = true then
      some ((A0.mk 0 0 0 0 [] [] []), x15.2)
    else
      if (decide ((k.length + 1) * 97 ≤ 140737488355328)) = true then
        E10 s e (k ++ [x15.1]) (IntKind.i64.wrap (i + 1))
      else none
  else
    if (e.Op == 0) = true then
      Tb e.NV e.NV >>= fun x2 =>
      some (x2, 0)
    else
      if (bif (e.Op == 1) then true else (e.Op == 2)) = true then
        some ((A0.mk 0 0 0 0 [] [] []), 0)
      else
        if (e.Op == 3) = true then
          Z1b s e.Name >>= fun x3 =>
          if (!x3.2) = true then
            some ((A0.mk 0 0 0 0 [] [] []), 7)
          else
            some (x3.1.TypeV, 0)
        else
          if (e.Op == 4) = true then
            idx k 0 >>= fun x4 =>
            if (x4.Kind != 3) = true then
              some ((A0.mk 0 0 0 0 [] [] []), 9)
            else
              Fu e k 0
          else
            if (e.Op == 5) = true then
              idx k 0 >>= fun x5 =>
              (if (!(x5.Kind != 2)) = true then idx k 1 else some default) >>= fun x6 =>
              if (bif (x5.Kind != 2) then true else (x6.Kind != 1)) = true then
                some ((A0.mk 0 0 0 0 [] [] []), 9)
              else
                idx k 0 >>= fun x7 =>
                idx x7.Of 0 >>= fun x8 =>
                some (x8, 0)
            else
              P13 e.Op k >>= fun x9 =>
              some (x9.1, x9.2)
  partial_fixpoint
end
abbrev C1o (s : P0) (e : C0) (res : A0 × Int) : Prop := S0 C 44 [.agg (P0.cells s), .agg (C0.cells e)] [] (Ret [] (.tup [.agg (A0.cells res.1), .d (.int .i64 res.2)]))
abbrev X1f (s : P0) (e : C0) (k : List A0) (i : Int) (res : A0 × Int) : Prop := LM C 135 0 Tryz.f44 [1, 1, 0, 1, 4] [(2, .ref 0 0), (3, .ref 1 0), (4, .ref 2 0), (6, .osl 3 (A0.rows k)), (7, .d (.int .i64 i))] [.row (P0.cells s) 78, .row (C0.cells e) 34, .row [.d (.int .i64 0), .d (.int .i64 0), .d (.int .i64 0), .d (.int .i64 0), .d (.str []), .full (estr.rows []), .full (A0.rows [])] 40, .tok 40 7] (Ret [] (.tup [.agg (A0.cells res.1), .d (.int .i64 res.2)]))
theorem W1i (s : P0) : (∀ e res, Dq s e = some res → C1o s e res) ∧ (∀ e k i res, E10 s e k i = some res → X1f s e k i res) := by
  refine Dq.mutual_partial_correctness s _ _ ?_ ?_
  · intro g1 ih1 e res hh
    exact S0.intro hC Tryz.func44 rfl rfl rfl (s' rfl rfl (I0.n hC rfl (I0.n hC rfl (I0.nf hC rfl (e' rfl (s' rfl rfl (I0.be hC rfl (A0.rows_map []).symm (I0.tokE 13 40 7 rfl (e' rfl (S' (t' rfl (bk' (fw' (ih1 _ _ _ _ hh) rfl rfl rfl)))))))))))))
  · intro g0 g1 ih0 ih1 e k i res hh
    refine Z0.unroll (S' (p' 3 rfl (qe' rfl trivial (C0.lenA _) (e' rfl (ci' rfl hh (fun hh => ?_) (fun hh => ?_))))))
    · obtain ⟨x1, hx1, hh⟩ := bs' hh
      obtain ⟨x15, hx15, hh⟩ := bs' hh
      refine sk' (S' (bk' (S' ?_)))
      refine AEx.drawL hC 12 [11] [(10, 4)] [[.row (P0.cells s) 78, .row (C0.cells e) 34, .row [.d (.int .i64 0), .d (.int .i64 0), .d (.int .i64 0), .d (.int .i64 0), .d (.str []), .full (estr.rows []), .full (A0.rows [])] 40, .tok 40 7, .row [.d (.int .i64 0), .d (.int .i64 0), .d (.int .i64 0), .d (.int .i64 0), .d (.str []), .full (estr.rows []), .full (A0.rows [])] 40], [.row (P0.cells s) 78, .row (C0.cells e) 34, .row [.d (.int .i64 0), .d (.int .i64 0), .d (.int .i64 0), .d (.int .i64 0), .d (.str []), .full (estr.rows []), .full (A0.rows [])] 40, .tok 40 7, .row (A0.cells x15.1) 40]] rfl rfl rfl rfl rfl rfl rfl rfl rfl rfl ?_
      refine AS.q hC rfl rfl rfl rfl (AS.q hC rfl rfl rfl rfl (AS.q hC rfl rfl rfl rfl (AS.q hC rfl rfl rfl rfl (AS.ix hC rfl (W0 hx1) (C0.idx hx1) rfl rfl rfl (AS.q hC rfl rfl rfl rfl (AS.c (ih0 _ _ hx15) rfl rfl rfl rfl (AS.q hC rfl rfl rfl rfl (AS.q hC rfl rfl rfl rfl (AS.q hC rfl rfl rfl rfl (AS.n hC rfl rfl rfl rfl (AS.s hC rfl rfl rfl rfl rfl rfl rfl (AS.nil (e' rfl ?_)))))))))))))
      refine S' (t' rfl (ci' rfl hh (fun hh => ?_) (fun hh => ?_)))
      · cases hh
        exact p' 2 rfl (I0.s hC rfl (e' rfl (re' (rt' rfl rfl rfl))))
      obtain ⟨c5, hh⟩ := U1 hh
      exact sk' (P' 2 rfl (I0.be hC rfl (A0.rows_map [x15.1]).symm (I0.ap hC rfl (rs := A0.rows (k ++ [x15.1])) (A0.app k [x15.1]) (A0.sz k) (A0.sz [x15.1]) (V6 (A0.len k) (A0.len [x15.1]) c5) (e' rfl (T' rfl (lw' (ih1 _ _ _ _ hh) rfl rfl rfl))))))
    refine ex' (S' (t' rfl (ci' rfl hh (fun hh => ?_) (fun hh => ?_))))
    · obtain ⟨x2, hx2, hh⟩ := bs' hh
      cases hh
      exact p' 4 rfl (c' (W9 hx2) rfl rfl (I0.s hC rfl (e' rfl (re' (rt' rfl rfl rfl)))))
    refine sk' (S' (sg' 8 rfl (G' 5 rfl (a1' rfl (a1' rfl (po' rfl (an' (n' (ci' rfl hh (fun hh => ?_) (fun hh => ?_))))))))))
    · cases hh
      exact p' 1 rfl (I0.s hC rfl (e' rfl (re' (rt' rfl rfl rfl))))
    refine sk' (S' (t' rfl (ci' rfl hh (fun hh => ?_) (fun hh => ?_))))
    · obtain ⟨x3, hx3, hh⟩ := bs' hh
      refine p' 3 rfl (c' (K1l hx3) rfl rfl (o' 3 rfl (I0.nf hC rfl (I0.s hC rfl (e' rfl (S' (t' rfl (ci' rfl hh (fun hh => ?_) (fun hh => ?_)))))))))
      · cases hh
        exact p' 1 rfl (I0.s hC rfl (e' rfl (re' (rt' rfl rfl rfl))))
      cases hh
      exact sk' (p' 2 rfl (I0.s hC rfl (e' rfl (re' (rt' rfl rfl rfl)))))
    refine sk' (S' (t' rfl (ci' rfl hh (fun hh => ?_) (fun hh => ?_))))
    · obtain ⟨x4, hx4, hh⟩ := bs' hh
      refine S' (p' 1 rfl (i' rfl (W0 hx4) (A0.idx hx4) rfl (e' rfl (ci' rfl hh (fun hh => ?_) (fun hh => ?_)))))
      · cases hh
        exact p' 1 rfl (I0.s hC rfl (e' rfl (re' (rt' rfl rfl rfl))))
      refine sk' (S' (t' rfl (bk' ?_)))
      refine AEx.ofLoop ?_
      refine Z0.wk ?_ (N1s hh)
      exact ⟨⟨⟨.rfl, rfl⟩, ⟨⟨.rfl, rfl⟩, ⟨⟨.rfl, rfl⟩, ⟨⟨.rfl, rfl⟩, trivial⟩⟩⟩⟩, ⟨trivial, ⟨⟨rfl, .refl _, rfl⟩, ⟨⟨rfl, .refl _, rfl⟩, ⟨rfl, trivial⟩⟩⟩⟩, rfl⟩
    refine sk' (S' (t' rfl (ci' rfl hh (fun hh => ?_) (fun hh => ?_))))
    · obtain ⟨x5, hx5, hh⟩ := bs' hh
      obtain ⟨x6, hx6, hh⟩ := bs' hh
      refine S' (sg' 12 rfl (a0' rfl (AG.i hC rfl rfl (fun _ => trivial) (fun hw => ⟨W0 hx5, A0.idx hx5, rfl⟩) (G' 5 rfl (AG.i hC rfl rfl (fun hg => ⟨hg, trivial⟩) (fun hw => ⟨W0 (T1 hw hx6), A0.idx (T1 hw hx6), rfl⟩) (a1' rfl (a1' rfl (a1' rfl (po' rfl (an' (n' (ci' rfl hh (fun hh => ?_) (fun hh => ?_)))))))))))))
      · cases hh
        exact p' 1 rfl (I0.s hC rfl (e' rfl (re' (rt' rfl rfl rfl))))
      obtain ⟨x7, hx7, hh⟩ := bs' hh
      obtain ⟨x8, hx8, hh⟩ := bs' hh
      cases hh
      exact sk' (p' 1 rfl (i' rfl (W0 hx7) (A0.idx hx7) rfl (o' 2 rfl (i' rfl (W0 hx8) (A0.idx hx8) rfl (q' rfl (I0.s hC rfl (e' rfl (re' (rt' rfl rfl rfl)))))))))
    obtain ⟨x9, hx9, hh⟩ := bs' hh
    cases hh
    exact sk' (p' 3 rfl (I0.cl rfl (B1o hx9) ⟨.rfl, ⟨.osl, trivial⟩⟩ rfl (o' 2 rfl (I0.s hC rfl (e' rfl (re' (rt' rfl rfl rfl)))))))
theorem F10 {s e res} (hh : Dq s e = some res) : C1o s e res := (W1i s).1 _ _ hh
theorem F2f {s e k i res} (hh : E10 s e k i = some res) : X1f s e k i res := (W1i s).2 _ _ _ _ hh
def B1a (e : C0) : Option Bool :=
  some (bif (bif (e.Op == 3) then true else (e.Op == 4)) then true else (e.Op == 5))
theorem P1s {e res} (hh : B1a e = some res) : S0 C 139 [.agg (C0.cells e)] [] (Ret [] (.d (.bool res))) := by
  unfold B1a at hh
  cases hh
  refine S0.intro hC Tryz.func139 rfl rfl rfl (s' rfl rfl (I0.n hC rfl (e' rfl (sg' 14 rfl (G' 5 rfl (a1' rfl (a1' rfl (po' rfl (G' 2 rfl (a1' rfl (a1' rfl (po' rfl (a0' rfl ?_)))))))))))))
  exact an' (n' (re' (rt' rfl rfl rfl)))
def Yn (s : A0) (place : Bool) (t : A0) : Option Bool :=
  Wn s >>= fun x1 =>
  (if (!x1) = true then Wn t else some default) >>= fun x2 =>
  if (bif x1 then true else x2) = true then
    some (s.Kind == t.Kind)
  else
    (if place = true then Gc s t else some default) >>= fun x3 =>
    some (bif place then x3 else false)
theorem Yu {s place t res} (hh : Yn s place t = some res) : S0 C 138 [.agg (A0.cells s), .d (.bool place), .agg (A0.cells t)] [] (Ret [] (.d (.bool res))) := by
  unfold Yn at hh
  obtain ⟨x1, hx1, hh⟩ := bs' hh
  obtain ⟨x2, hx2, hh⟩ := bs' hh
  refine S0.intro hC Tryz.func138 rfl rfl rfl (s' rfl rfl (I0.n hC rfl (I0.n hC rfl (e' rfl (S' (sg' 6 rfl (a0' rfl (AG.c rfl rfl (fun _ => trivial) (fun _ => Cq hx1) (G' 2 rfl (AG.c rfl rfl (fun hg => ⟨hg, trivial⟩) (fun hw => Cq (T1 hw hx2)) (po' rfl (an' (n' (ci' rfl hh (fun hh => ?_) (fun hh => ?_)))))))))))))))
  · cases hh
    exact t' rfl (re' (rt' rfl rfl rfl))
  obtain ⟨x3, hx3, hh⟩ := bs' hh
  cases hh
  exact sk' (sg' 7 rfl (G' 4 rfl (AG.c rfl rfl (fun hg => ⟨hg, hg, trivial⟩) (fun hw => M18 (T1 hw hx3)) (pa' rfl (a0' rfl (an' (n' (re' (rt' rfl rfl rfl)))))))))
def Pu (s : P0) (e : C0) (t : A0) : Option Int :=
  Dq s e >>= fun x1 =>
  if (x1.2 != 0) = true then
    some x1.2
  else
    B1a e >>= fun x2 =>
    Yn x1.1 x2 t >>= fun x3 =>
    if (!x3) = true then
      some 9
    else
      some 0
theorem Vx {s e t res} (hh : Pu s e t = some res) : S0 C 76 [.agg (P0.cells s), .agg (C0.cells e), .agg (A0.cells t)] [] (Ret [] (.d (.int .i64 res))) := by
  unfold Pu at hh
  obtain ⟨x1, hx1, hh⟩ := bs' hh
  refine S0.intro hC Tryz.func76 rfl rfl rfl (s' rfl rfl (I0.n hC rfl (I0.n hC rfl (I0.n hC rfl (e' rfl (p' 2 rfl (c' (F10 hx1) rfl rfl (o' 3 rfl (I0.nf hC rfl (I0.s hC rfl (e' rfl (S' (t' rfl (ci' rfl hh (fun hh => ?_) (fun hh => ?_)))))))))))))))
  · cases hh
    exact t' rfl (re' (rt' rfl rfl rfl))
  obtain ⟨x2, hx2, hh⟩ := bs' hh
  obtain ⟨x3, hx3, hh⟩ := bs' hh
  refine sk' (S' (S' (AEx.draw hC 6 rfl rfl rfl (O' 2 rfl (Qc' (P1s hx2) rfl rfl (Q' rfl (Qc' (Yu hx3) rfl rfl (E' rfl (n' (ci' rfl hh (fun hh => ?_) (fun hh => ?_)))))))))))
  · cases hh
    exact t' rfl (re' (rt' rfl rfl rfl))
  cases hh
  exact sk' (t' rfl (re' (rt' rfl rfl rfl)))
def Eq (p : K0) (i : Int) (o3_Vars : List O0) (o3_Taken : List Str) (x1 : B0) (k : Int) : Option (P0 × Int) :=
  if (decide (k < ((x1.Params ++ x1.Vars).length : Int))) = true then
    idx (x1.Params ++ x1.Vars) k >>= fun x3 =>
    Zh p i x3.TypeV >>= fun x4 =>
    if (x4.2 != 0) = true then
      some ((P0.mk (K0.mk [] []) 0 [] []), x4.2)
    else
      idx (x1.Params ++ x1.Vars) k >>= fun x5 =>
      if (decide ((o3_Vars.length + 1) * 121 ≤ 140737488355328)) = true then
        idx (x1.Params ++ x1.Vars) k >>= fun x6 =>
        if (decide ((o3_Taken.length + 1) * 17 ≤ 140737488355328)) = true then
          Eq p i (o3_Vars ++ [(O0.mk x5.Name x4.1 false)]) (o3_Taken ++ [x6.Name]) x1 (IntKind.i64.wrap (k + 1))
        else none
      else none
  else
    some ((P0.mk p i o3_Vars o3_Taken), 0)
  partial_fixpoint
abbrev H1b (p : K0) (i : Int) (o3_Vars : List O0) (o3_Taken : List Str) (x1 : B0) (k : Int) (res : P0 × Int) : Prop := LM C 73 0 Tryz.f140 [1, 1, 1, 1, 0, 1, 4] [(1, .d (.int .i64 i)), (2, .ref 0 0), (4, .ref 1 0), (7, .ref 3 0), (8, .osl 7 (B0.rows (x1.Params ++ x1.Vars))), (9, .d (.int .i64 k))] [.row (K0.cells p) 25, .row [.full (B0.rows []), .full (D0.rows []), .d (.int .i64 0), .full (O0.rows []), .full (estr.rows [])] 78, .dead, .row [.d (.sl (B0.rows p.Decls)), .d (.sl (D0.rows p.Body)), .d (.int .i64 i), .osl 6 (O0.rows o3_Vars), .osl 5 (estr.rows o3_Taken)] 78, .dead, .tok 9 1, .tok 146 9, .tok 59 17] (Ret [] (.tup [.agg (P0.cells res.1), .d (.int .i64 res.2)]))
theorem F1m (p : K0) (i : Int) (x1 : B0) : (∀ o3_Vars o3_Taken k res, Eq p i o3_Vars o3_Taken x1 k = some res → H1b p i o3_Vars o3_Taken x1 k res) := by
  refine Eq.partial_correctness p i x1 _ ?_
  · intro g0 ih0 o3_Vars o3_Taken k res hh
    refine Z0.unroll (S' (p' 2 rfl (qe' rfl trivial (B0.lenA _) (e' rfl (ci' rfl hh (fun hh => ?_) (fun hh => ?_))))))
    · obtain ⟨x3, hx3, hh⟩ := bs' hh
      obtain ⟨x4, hx4, hh⟩ := bs' hh
      refine sk' (S' (bk' (S' ?_)))
      refine AEx.drawL hC 13 [12] [(11, 8)] [[.row (K0.cells p) 25, .row [.full (B0.rows []), .full (D0.rows []), .d (.int .i64 0), .full (O0.rows []), .full (estr.rows [])] 78, .dead, .row [.d (.sl (B0.rows p.Decls)), .d (.sl (D0.rows p.Body)), .d (.int .i64 i), .osl 6 (O0.rows o3_Vars), .osl 5 (estr.rows o3_Taken)] 78, .dead, .tok 9 1, .tok 146 9, .tok 59 17, .row [.d (.int .i64 0), .d (.int .i64 0), .d (.int .i64 0), .d (.int .i64 0), .d (.str []), .full (estr.rows []), .full (A0.rows [])] 40], [.row (K0.cells p) 25, .row [.full (B0.rows []), .full (D0.rows []), .d (.int .i64 0), .full (O0.rows []), .full (estr.rows [])] 78, .dead, .row [.d (.sl (B0.rows p.Decls)), .d (.sl (D0.rows p.Body)), .d (.int .i64 i), .osl 6 (O0.rows o3_Vars), .osl 5 (estr.rows o3_Taken)] 78, .dead, .tok 9 1, .tok 146 9, .tok 59 17, .row (A0.cells x4.1) 40]] rfl rfl rfl rfl rfl rfl rfl rfl rfl rfl ?_
      refine AS.q hC rfl rfl rfl rfl (AS.q hC rfl rfl rfl rfl (AS.q hC rfl rfl rfl rfl (AS.q hC rfl rfl rfl rfl (AS.ix hC rfl (W0 hx3) (B0.idx hx3) rfl rfl rfl (AS.q hC rfl rfl rfl rfl (AS.q hC rfl rfl rfl rfl (AS.c (Ai hx4) rfl rfl rfl rfl (AS.q hC rfl rfl rfl rfl (AS.q hC rfl rfl rfl rfl (AS.q hC rfl rfl rfl rfl (AS.n hC rfl rfl rfl rfl (AS.s hC rfl rfl rfl rfl rfl rfl rfl (AS.nil ?_)))))))))))))
      refine e' rfl (S' (t' rfl (ci' rfl hh (fun hh => ?_) (fun hh => ?_))))
      · refine s' rfl rfl (I0.bz hC rfl (q' rfl (I0.s hC rfl (e' rfl (re' ?_)))))
        obtain rfl := oi' hh
        exact ⟨_, .tup [.agg [.d (.sl (B0.rows [])), .d (.sl (D0.rows [])), .d (.int .i64 0), .d (.sl (O0.rows [])), .d (.sl (estr.rows []))], .d (.int .i64 x4.2)], [], rfl, (.tupL ⟨(.aggL ⟨.full, ⟨.full, ⟨.rfl, ⟨.full, ⟨.full, trivial⟩⟩⟩⟩⟩), ⟨.rfl, trivial⟩⟩), trivial, rfl, rfl, rfl, rfl⟩
      obtain ⟨x5, hx5, hh⟩ := bs' hh
      obtain ⟨c20, hh⟩ := U1 hh
      obtain ⟨x6, hx6, hh⟩ := bs' hh
      obtain ⟨c21, hh⟩ := U1 hh
      refine sk' (S' (AEx.draw hC 10 rfl rfl rfl (O' 4 rfl (AQ.i hC rfl (W0 hx5) (B0.idx hx5) rfl (O' 4 rfl (AQ.be hC rfl (O0.rows_map [(O0.mk x5.Name x4.1 false)]).symm (Qn' ?_)))))))
      refine I0.ap hC rfl (rs := O0.rows (o3_Vars ++ [(O0.mk x5.Name x4.1 false)])) (O0.app o3_Vars [(O0.mk x5.Name x4.1 false)]) (O0.sz o3_Vars) (O0.sz [(O0.mk x5.Name x4.1 false)]) (V6 (O0.len o3_Vars) (O0.len [(O0.mk x5.Name x4.1 false)]) c20) (q' rfl (I0.s hC rfl (n' ?_)))
      refine AEx.draw hC 8 rfl rfl rfl (O' 4 rfl (AQ.i hC rfl (W0 hx6) (B0.idx hx6) rfl (O' 2 rfl (AQ.be hC rfl (estr.rows_map [x6.Name]).symm (Qn' (I0.ap hC rfl (rs := estr.rows (o3_Taken ++ [x6.Name])) (estr.app o3_Taken [x6.Name]) (estr.sz o3_Taken) (estr.sz [x6.Name]) (V6 (estr.len o3_Taken) (estr.len [x6.Name]) c21) (q' rfl (I0.s hC rfl (n' (T' rfl ?_))))))))))
      refine Z0.wk ?_ (ih0 _ _ _ _ hh)
      exact ⟨⟨⟨.rfl, rfl⟩, ⟨⟨.rfl, rfl⟩, ⟨⟨.rfl, rfl⟩, ⟨⟨.rfl, rfl⟩, ⟨⟨.rfl, rfl⟩, ⟨⟨.rfl, rfl⟩, trivial⟩⟩⟩⟩⟩⟩, ⟨⟨rfl, .refl _, rfl⟩, ⟨⟨rfl, .refl _, rfl⟩, ⟨trivial, ⟨⟨rfl, .refl _, rfl⟩, ⟨trivial, ⟨rfl, ⟨rfl, ⟨rfl, trivial⟩⟩⟩⟩⟩⟩⟩⟩, rfl⟩
    refine ex' (p' 1 rfl (I0.s hC rfl (e' rfl (re' ?_))))
    obtain rfl := oi' hh
    exact ⟨_, .tup [.agg [.d (.sl (B0.rows p.Decls)), .d (.sl (D0.rows p.Body)), .d (.int .i64 i), .d (.sl (O0.rows o3_Vars)), .d (.sl (estr.rows o3_Taken))], .d (.int .i64 0)], [], rfl, (.tupL ⟨(.aggL ⟨.rfl, ⟨.rfl, ⟨.rfl, ⟨.osl, ⟨.osl, trivial⟩⟩⟩⟩⟩), ⟨.rfl, trivial⟩⟩), trivial, rfl, rfl, rfl, rfl⟩
theorem D1o {p i o3_Vars o3_Taken x1 k res} (hh : Eq p i o3_Vars o3_Taken x1 k = some res) : H1b p i o3_Vars o3_Taken x1 k res := (F1m p i x1) _ _ _ _ hh
def Y1d (p : K0) (i : Int) : Option (P0 × Int) :=
  idx p.Decls i >>= fun x1 =>
  Rz p >>= fun x2 =>
  if (decide ((0 + x1.Params.length) * 257 ≤ 140737488355328)) = true then
    if (decide ((x1.Params.length + x1.Vars.length) * 257 ≤ 140737488355328)) = true then
      Eq p i [] x2 x1 0
    else none
  else none
theorem B1v {p i res} (hh : Y1d p i = some res) : S0 C 140 [.agg (K0.cells p), .d (.int .i64 i)] [] (Ret [] (.tup [.agg (P0.cells res.1), .d (.int .i64 res.2)])) := by
  unfold Y1d at hh
  obtain ⟨x1, hx1, hh⟩ := bs' hh
  obtain ⟨x2, hx2, hh⟩ := bs' hh
  obtain ⟨c18, hh⟩ := U1 hh
  obtain ⟨c19, hh⟩ := U1 hh
  refine S0.intro hC Tryz.func140 rfl rfl rfl (s' rfl rfl (I0.n hC rfl (I0.nf hC rfl (e' rfl (p' 3 rfl (i' rfl (W0 hx1) (B0.idx hx1) rfl (q' rfl (I0.nf hC rfl (I0.s hC rfl (n' (S' ?_)))))))))))
  refine AEx.drawL hC 6 [3] [(5, 3)] [[.row (K0.cells p) 25, .row [.full (B0.rows []), .full (D0.rows []), .d (.int .i64 0), .full (O0.rows []), .full (estr.rows [])] 78, .row (B0.cells x1) 59, .row [.full (B0.rows []), .full (D0.rows []), .d (.int .i64 0), .full (O0.rows []), .full (estr.rows [])] 78], [.row (K0.cells p) 25, .row [.full (B0.rows []), .full (D0.rows []), .d (.int .i64 0), .full (O0.rows []), .full (estr.rows [])] 78, .row (B0.cells x1) 59, .row [.full (B0.rows []), .full (D0.rows []), .d (.int .i64 0), .full (O0.rows []), .full (estr.rows [])] 78, .dead, .tok 9 1]] rfl rfl rfl rfl rfl rfl rfl rfl rfl rfl ?_
  refine AS.q hC rfl rfl rfl rfl (AS.q hC rfl rfl rfl rfl (AS.q hC rfl rfl rfl rfl (AS.g [] (S16 hx2) rfl rfl rfl rfl rfl rfl rfl rfl rfl rfl rfl rfl (AS.a rfl (fun H => AQ.bz hC rfl (AQ.nil rfl)) rfl rfl (AS.n hC rfl rfl rfl rfl (AS.nil (I0.s hC rfl (I0.tokC 3 3 146 9 rfl rfl rfl rfl rfl (n' (S' ?_))))))))))
  refine AEx.drawL hC 6 [3] [] [[.row (K0.cells p) 25, .row [.full (B0.rows []), .full (D0.rows []), .d (.int .i64 0), .full (O0.rows []), .full (estr.rows [])] 78, .row (B0.cells x1) 59, .row [.d (.sl (B0.rows p.Decls)), .d (.sl (D0.rows p.Body)), .d (.int .i64 i), .osl 6 (O0.rows []), .osl 5 (estr.rows x2)] 78, .dead, .tok 9 1, .tok 146 9], [.row (K0.cells p) 25, .row [.full (B0.rows []), .full (D0.rows []), .d (.int .i64 0), .full (O0.rows []), .full (estr.rows [])] 78, .row (B0.cells x1) 59, .row [.d (.sl (B0.rows p.Decls)), .d (.sl (D0.rows p.Body)), .d (.int .i64 i), .osl 6 (O0.rows []), .osl 5 (estr.rows x2)] 78, .dead, .tok 9 1, .tok 146 9, .tok 59 17]] rfl rfl rfl rfl rfl rfl rfl rfl rfl rfl ?_
  refine AS.a rfl (fun H => AQ.be hC rfl (B0.rows_map []).symm (AQ.nil rfl)) rfl rfl (AS.q hC rfl rfl rfl rfl (AS.q hC rfl rfl rfl rfl (AS.am hC rfl rfl rfl rfl rfl (rs := B0.rows x1.Params) rfl (B0.sz []) (B0.sz x1.Params) (V6 (B0.len []) (B0.len x1.Params) c18) rfl rfl (AS.q hC rfl rfl rfl rfl (AS.q hC rfl rfl rfl rfl (AS.nil ?_))))))
  refine I0.ap hC rfl (rs := B0.rows (x1.Params ++ x1.Vars)) (B0.app x1.Params x1.Vars) (B0.sz x1.Params) (B0.sz x1.Vars) (V6 (B0.len x1.Params) (B0.len x1.Vars) c19) (e' rfl (S' (t' rfl (bk' ?_))))
  refine AEx.ofLoop ?_
  refine Z0.wk ?_ (D1o hh)
  exact ⟨⟨⟨.rfl, rfl⟩, ⟨⟨.rfl, rfl⟩, ⟨⟨.rfl, rfl⟩, ⟨⟨.rfl, rfl⟩, ⟨⟨.rfl, rfl⟩, ⟨⟨.rfl, rfl⟩, trivial⟩⟩⟩⟩⟩⟩, ⟨⟨rfl, .refl _, rfl⟩, ⟨⟨rfl, .refl _, rfl⟩, ⟨trivial, ⟨⟨rfl, .refl _, rfl⟩, ⟨trivial, ⟨rfl, ⟨rfl, ⟨rfl, trivial⟩⟩⟩⟩⟩⟩⟩⟩, rfl⟩
def Q13 (e : C0) : Option Str :=
  if (bif (e.Op == 3) then true else (((e.Kids).length : Int) == 0)) = true then
    some e.Name
  else
    idx e.Kids 0 >>= fun x1 =>
    Q13 x1 >>= fun x2 =>
    some x2
  partial_fixpoint
abbrev E1o (e : C0) (res : Str) : Prop := S0 C 194 [.agg (C0.cells e)] [] (Ret [] (.d (.str res)))
theorem C1x : (∀ e res, Q13 e = some res → E1o e res) := by
  refine Q13.partial_correctness _ ?_
  · intro g0 ih0 e res hh
    refine S0.intro hC Tryz.func194 rfl rfl rfl (s' rfl rfl (I0.n hC rfl (e' rfl (S' (sg' 9 rfl (G' 5 rfl (a1' rfl (AG.qe hC rfl (fun hg => ⟨⟨hg, trivial⟩, trivial⟩) (C0.lenA _) (a1' rfl (po' rfl (an' (n' (ci' rfl hh (fun hh => ?_) (fun hh => ?_))))))))))))))
    · cases hh
      exact t' rfl (re' (rt' rfl rfl rfl))
    obtain ⟨x1, hx1, hh⟩ := bs' hh
    obtain ⟨x2, hx2, hh⟩ := bs' hh
    cases hh
    exact sk' (p' 2 rfl (i' rfl (W0 hx1) (C0.idx hx1) rfl (q' rfl (c' (ih0 _ _ hx2) rfl rfl (e' rfl (re' (rt' rfl rfl rfl)))))))
theorem U1z {e res} (hh : Q13 e = some res) : E1o e res := (C1x) _ _ hh
def Sz (s : P0) (e : C0) : Option (A0 × Int) :=
  Dq s e >>= fun x1 =>
  if (x1.2 != 0) = true then
    some ((A0.mk 0 0 0 0 [] [] []), x1.2)
  else
    Q13 e >>= fun x2 =>
    Z1b s x2 >>= fun x3 =>
    if x3.1.Fixed = true then
      some ((A0.mk 0 0 0 0 [] [] []), 15)
    else
      some (x1.1, 0)
theorem T16 {s e res} (hh : Sz s e = some res) : S0 C 141 [.agg (P0.cells s), .agg (C0.cells e)] [] (Ret [] (.tup [.agg (A0.cells res.1), .d (.int .i64 res.2)])) := by
  unfold Sz at hh
  obtain ⟨x1, hx1, hh⟩ := bs' hh
  refine S0.intro hC Tryz.func141 rfl rfl rfl (s' rfl rfl (I0.n hC rfl (I0.n hC rfl (I0.nf hC rfl (e' rfl (p' 2 rfl (c' (F10 hx1) rfl rfl (o' 3 rfl (I0.nf hC rfl (I0.s hC rfl (e' rfl (S' (t' rfl (ci' rfl hh (fun hh => ?_) (fun hh => ?_)))))))))))))))
  · cases hh
    exact p' 2 rfl (I0.s hC rfl (e' rfl (re' (rt' rfl rfl rfl))))
  obtain ⟨x2, hx2, hh⟩ := bs' hh
  obtain ⟨x3, hx3, hh⟩ := bs' hh
  refine sk' (S' ?_)
  refine AEx.drawL hC 9 [8] [(7, 4)] [[.row (P0.cells s) 78, .row (C0.cells e) 34, .row [.d (.int .i64 0), .d (.int .i64 0), .d (.int .i64 0), .d (.int .i64 0), .d (.str []), .full (estr.rows []), .full (A0.rows [])] 40, .row (A0.cells x1.1) 40, .row [.d (.str []), .d (.int .i64 0), .d (.int .i64 0), .d (.int .i64 0), .d (.int .i64 0), .d (.str []), .full (estr.rows []), .full (A0.rows []), .d (.bool false)] 146], [.row (P0.cells s) 78, .row (C0.cells e) 34, .row [.d (.int .i64 0), .d (.int .i64 0), .d (.int .i64 0), .d (.int .i64 0), .d (.str []), .full (estr.rows []), .full (A0.rows [])] 40, .row (A0.cells x1.1) 40, .row (O0.cells x3.1) 146]] rfl rfl rfl rfl rfl rfl rfl rfl rfl rfl ?_
  refine AS.q hC rfl rfl rfl rfl (AS.q hC rfl rfl rfl rfl (AS.c (U1z hx2) rfl rfl rfl rfl (AS.c (K1l hx3) rfl rfl rfl rfl (AS.q hC rfl rfl rfl rfl (AS.q hC rfl rfl rfl rfl (AS.q hC rfl rfl rfl rfl (AS.n hC rfl rfl rfl rfl (AS.s hC rfl rfl rfl rfl rfl rfl rfl (AS.nil (e' rfl (S' (t' rfl (ci' rfl hh (fun hh => ?_) (fun hh => ?_))))))))))))))
  · cases hh
    exact p' 1 rfl (I0.s hC rfl (e' rfl (re' (rt' rfl rfl rfl))))
  cases hh
  exact sk' (p' 1 rfl (I0.s hC rfl (e' rfl (re' (rt' rfl rfl rfl)))))
def Jm (p : K0) (kind : Int) (name : Str) (n : Int) (i : Int) : Option Int :=
  if (decide (i < n)) = true then
    idx p.Decls i >>= fun x1 =>
    (if (x1.Kind == kind) = true then idx p.Decls i else some default) >>= fun x2 =>
    if (bif (x1.Kind == kind) then (x2.Name == name) else false) = true then
      some i
    else
      Jm p kind name n (IntKind.i64.wrap (i + 1))
  else
    some (-1)
  partial_fixpoint
abbrev E16 (p : K0) (kind : Int) (name : Str) (n : Int) (i : Int) (res : Int) : Prop := LM C 34 0 Tryz.f166 [1, 0, 1, 4] [(1, .d (.int .i64 kind)), (2, .d (.str name)), (3, .d (.int .i64 n)), (4, .ref 0 0), (9, .d (.int .i64 i))] [.row (K0.cells p) 25] (Ret [] (.d (.int .i64 res)))
theorem X1i (p : K0) (kind : Int) (name : Str) (n : Int) : (∀ i res, Jm p kind name n i = some res → E16 p kind name n i res) := by
  refine Jm.partial_correctness p kind name n _ ?_
  · intro g0 ih0 i res hh
    refine Z0.unroll (S' (t' rfl (ci' rfl hh (fun hh => ?_) (fun hh => ?_))))
    · obtain ⟨x1, hx1, hh⟩ := bs' hh
      obtain ⟨x2, hx2, hh⟩ := bs' hh
      refine sk' (S' (bk' (sg' 18 rfl (G' 3 rfl (AG.i hC rfl rfl (fun _ => trivial) (fun hw => ⟨W0 hx1, B0.idx hx1, rfl⟩) (G' 6 rfl (a1' rfl (a0' rfl (AG.i hC rfl rfl (fun hg => ⟨hg, hg, trivial⟩) (fun hw => ⟨W0 (T1 hw hx2), B0.idx (T1 hw hx2), rfl⟩) (a1' rfl (a1' rfl (a0' rfl (a2' rfl ?_)))))))))))))
      refine pa' rfl (an' (n' (ci' rfl hh (fun hh => ?_) (fun hh => ?_))))
      · cases hh
        exact t' rfl (re' (rt' rfl rfl rfl))
      exact sk' (T' rfl (lw' (ih0 _ _ hh) rfl rfl rfl))
    cases hh
    exact ex' (t' rfl (re' (rt' rfl rfl rfl)))
theorem J1k {p kind name n i res} (hh : Jm p kind name n i = some res) : E16 p kind name n i res := (X1i p kind name n) _ _ hh
end Go.Proofs.YtdkabnfphmmmnaaGreatDoor

set_option maxRecDepth 100000
set_option maxHeartbeats 4000000
set_option synthInstance.maxSize 2000
set_option linter.unusedVariables false
namespace Go.Proofs.YtdkabnfphmmmnaaGreatDoor
open Go.Am
def Es (p : K0) (kind : Int) (name : Str) (n : Int) : Option Int :=
  Jm p kind name n 0
theorem Sy {p kind name n res} (hh : Es p kind name n = some res) : S0 C 166 [.agg (K0.cells p), .d (.int .i64 kind), .d (.str name), .d (.int .i64 n)] [] (Ret [] (.d (.int .i64 res))) := by
  unfold Es at hh
  exact S0.intro hC Tryz.func166 rfl rfl rfl (s' rfl rfl (I0.n hC rfl (e' rfl (S' (t' rfl (bk' (fw' (J1k hh) rfl rfl rfl)))))))
def Gu (s : P0) (x : D0) (x1 : A0 × Int) (x3 : B0) (x2 : Int) (k : Int) : Option Int :=
  if (decide (k < ((x.Args).length : Int))) = true then
    idx x3.Params k >>= fun x4 =>
    Zh s.Program x2 x4.TypeV >>= fun x5 =>
    idx x.Args k >>= fun x6 =>
    Pu s x6 x5.1 >>= fun x7 =>
    if (x7 != 0) = true then
      some x7
    else
      Gu s x x1 x3 x2 (IntKind.i64.wrap (k + 1))
  else
    Zh s.Program x2 x3.TypeV >>= fun x8 =>
    Yn x8.1 true x1.1 >>= fun x9 =>
    if (!x9) = true then
      some 9
    else
      some 0
  partial_fixpoint
abbrev Y1f (s : P0) (x : D0) (x1 : A0 × Int) (x3 : B0) (x2 : Int) (k : Int) (res : Int) : Prop := LM C 99 0 Tryz.f142 [1, 1, 1, 1, 1, 1, 1, 1, 1, 0, 1, 4] [(2, .ref 0 0), (3, .ref 1 0), (5, .ref 2 0), (8, .d (.int .i64 x2)), (9, .ref 3 0), (10, .d (.int .i64 k))] [.row (P0.cells s) 78, .row (D0.cells x) 53, .row (A0.cells x1.1) 40, .row (B0.cells x3) 59] (Ret [] (.d (.int .i64 res)))
theorem N1q (s : P0) (x : D0) (x1 : A0 × Int) (x3 : B0) (x2 : Int) : (∀ k res, Gu s x x1 x3 x2 k = some res → Y1f s x x1 x3 x2 k res) := by
  refine Gu.partial_correctness s x x1 x3 x2 _ ?_
  · intro g0 ih0 k res hh
    refine Z0.unroll (S' (p' 3 rfl (qe' rfl trivial (C0.lenA _) (e' rfl (ci' rfl hh (fun hh => ?_) (fun hh => ?_))))))
    · obtain ⟨x4, hx4, hh⟩ := bs' hh
      obtain ⟨x5, hx5, hh⟩ := bs' hh
      obtain ⟨x6, hx6, hh⟩ := bs' hh
      obtain ⟨x7, hx7, hh⟩ := bs' hh
      refine sk' (S' (bk' (S' ?_)))
      refine AEx.drawL hC 15 [14] [(13, 4)] [[.row (P0.cells s) 78, .row (D0.cells x) 53, .row (A0.cells x1.1) 40, .row (B0.cells x3) 59, .row [.d (.int .i64 0), .d (.int .i64 0), .d (.int .i64 0), .d (.int .i64 0), .d (.str []), .full (estr.rows []), .full (A0.rows [])] 40], [.row (P0.cells s) 78, .row (D0.cells x) 53, .row (A0.cells x1.1) 40, .row (B0.cells x3) 59, .row (A0.cells x5.1) 40]] rfl rfl rfl rfl rfl rfl rfl rfl rfl rfl ?_
      iterate 6 refine AS.q hC rfl rfl rfl rfl ?_
      refine AS.ix hC rfl (W0 hx4) (B0.idx hx4) rfl rfl rfl (AS.q hC rfl rfl rfl rfl (AS.q hC rfl rfl rfl rfl (AS.c (Ai hx5) rfl rfl rfl rfl (AS.q hC rfl rfl rfl rfl (AS.q hC rfl rfl rfl rfl (AS.q hC rfl rfl rfl rfl (AS.n hC rfl rfl rfl rfl (AS.s hC rfl rfl rfl rfl rfl rfl rfl (AS.nil (e' rfl (S' (AEx.draw hC 9 rfl rfl rfl (O' 4 rfl ?_)))))))))))))
      refine AQ.i hC rfl (W0 hx6) (C0.idx hx6) rfl (O' 2 rfl (Qc' (Vx hx7) rfl rfl (E' rfl (n' (t' rfl (ci' rfl hh (fun hh => ?_) (fun hh => ?_)))))))
      · cases hh
        exact t' rfl (re' (rt' rfl rfl rfl))
      exact sk' (T' rfl (lw' (ih0 _ _ hh) rfl rfl rfl))
    obtain ⟨x8, hx8, hh⟩ := bs' hh
    obtain ⟨x9, hx9, hh⟩ := bs' hh
    refine ex' (p' 5 rfl (c' (Ai hx8) rfl rfl (o' 3 rfl (I0.nf hC rfl (I0.s hC rfl (e' rfl (S' (p' 2 rfl (c' (Yu hx9) rfl rfl (e' rfl (ci' rfl hh (fun hh => ?_) (fun hh => ?_))))))))))))
    · cases hh
      exact t' rfl (re' (rt' rfl rfl rfl))
    cases hh
    exact sk' (t' rfl (re' (rt' rfl rfl rfl)))
theorem Q1s {s x x1 x3 x2 k res} (hh : Gu s x x1 x3 x2 k = some res) : Y1f s x x1 x3 x2 k res := (N1q s x x1 x3 x2) _ _ hh
def G10 (s : P0) (x : D0) (x1 : A0 × Int) (n : Int) : Option Int :=
  Es s.Program 6 x.Name n >>= fun x2 =>
  if (decide (x2 < 0)) = true then
    some 7
  else
    idx s.Program.Decls x2 >>= fun x3 =>
    if (((x.Args).length : Int) != ((x3.Params).length : Int)) = true then
      some 2
    else
      Gu s x x1 x3 x2 0
theorem Z1d {s x x1 n res} (hh : G10 s x x1 n = some res) : JM C 99 0 Tryz.f142 [1, 1, 1, 1, 1] [(2, .ref 0 0), (3, .ref 1 0), (5, .ref 2 0), (7, .d (.int .i64 n))] [.row (P0.cells s) 78, .row (D0.cells x) 53, .row (A0.cells x1.1) 40] (Ret [] (.d (.int .i64 res))) := by
  unfold G10 at hh
  obtain ⟨x2, hx2, hh⟩ := bs' hh
  refine p' 5 rfl (c' (Sy hx2) rfl rfl (e' rfl (S' (t' rfl (ci' rfl hh (fun hh => ?_) (fun hh => ?_))))))
  · cases hh
    exact t' rfl (re' (rt' rfl rfl rfl))
  obtain ⟨x3, hx3, hh⟩ := bs' hh
  refine sk' (p' 4 rfl (i' rfl (W0 hx3) (B0.idx hx3) rfl (q' rfl (I0.nf hC rfl (I0.s hC rfl (n' (S' (p' 2 rfl (qe' rfl trivial (C0.lenA _) (o' 2 rfl (qe' rfl trivial (B0.lenA _) (e' rfl (ci' rfl hh (fun hh => ?_) (fun hh => ?_))))))))))))))
  · cases hh
    exact t' rfl (re' (rt' rfl rfl rfl))
  exact sk' (S' (t' rfl (bk' (fw' (Q1s hh) rfl rfl rfl))))
def K1k (s : P0) (x : D0) : Option Int :=
  Sz s x.Place >>= fun x1 =>
  if (x1.2 != 0) = true then
    some x1.2
  else
    if (decide (s.Function ≥ 0)) = true then
      G10 s x x1 s.Function
    else
      G10 s x x1 ((s.Program.Decls).length : Int)
theorem V1z {s x res} (hh : K1k s x = some res) : S0 C 142 [.agg (P0.cells s), .agg (D0.cells x)] [] (Ret [] (.d (.int .i64 res))) := by
  unfold K1k at hh
  obtain ⟨x1, hx1, hh⟩ := bs' hh
  refine S0.intro hC Tryz.func142 rfl rfl rfl (s' rfl rfl (I0.n hC rfl (I0.n hC rfl (e' rfl (p' 3 rfl (c' (T16 hx1) rfl rfl (o' 3 rfl (I0.nf hC rfl (I0.s hC rfl (e' rfl (S' (t' rfl (ci' rfl hh (fun hh => ?_) (fun hh => ?_))))))))))))))
  · cases hh
    exact t' rfl (re' (rt' rfl rfl rfl))
  refine sk' (p' 3 rfl (qe' rfl trivial (B0.lenA _) (e' rfl (S' (t' rfl (ci' rfl hh (fun hh => ?_) (fun hh => ?_)))))))
  · exact T' rfl (ew' (Z1d hh) rfl rfl rfl)
  exact sk' (ew' (Z1d hh) rfl rfl rfl)
def C1a (s : P0) (x : D0) : Option Int :=
  Sz s x.Place >>= fun x1 =>
  if (x1.2 != 0) = true then
    some x1.2
  else
    if (decide (s.Function ≥ 0)) = true then
      some 15
    else
      Es s.Program 5 x.Name ((s.Program.Decls).length : Int) >>= fun x2 =>
      if (decide (x2 < 0)) = true then
        some 7
      else
        idx s.Program.Decls x2 >>= fun x3 =>
        Zh s.Program x2 x3.TypeV >>= fun x4 =>
        Yn x4.1 false x1.1 >>= fun x5 =>
        if (!x5) = true then
          some 9
        else
          some 0
theorem R1s {s x res} (hh : C1a s x = some res) : S0 C 143 [.agg (P0.cells s), .agg (D0.cells x)] [] (Ret [] (.d (.int .i64 res))) := by
  unfold C1a at hh
  obtain ⟨x1, hx1, hh⟩ := bs' hh
  refine S0.intro hC Tryz.func143 rfl rfl rfl (s' rfl rfl (I0.n hC rfl (I0.n hC rfl (e' rfl (p' 3 rfl (c' (T16 hx1) rfl rfl (o' 3 rfl (I0.nf hC rfl (I0.s hC rfl (e' rfl (S' (t' rfl (ci' rfl hh (fun hh => ?_) (fun hh => ?_))))))))))))))
  · cases hh
    exact t' rfl (re' (rt' rfl rfl rfl))
  refine sk' (S' (t' rfl (ci' rfl hh (fun hh => ?_) (fun hh => ?_))))
  · cases hh
    exact t' rfl (re' (rt' rfl rfl rfl))
  obtain ⟨x2, hx2, hh⟩ := bs' hh
  refine sk' (p' 7 rfl (qe' rfl trivial (B0.lenA _) (c' (Sy hx2) rfl rfl (e' rfl (S' (t' rfl (ci' rfl hh (fun hh => ?_) (fun hh => ?_))))))))
  · cases hh
    exact t' rfl (re' (rt' rfl rfl rfl))
  obtain ⟨x3, hx3, hh⟩ := bs' hh
  obtain ⟨x4, hx4, hh⟩ := bs' hh
  obtain ⟨x5, hx5, hh⟩ := bs' hh
  refine sk' (S' ?_)
  refine AEx.drawL hC 16 [15] [(14, 3)] [[.row (P0.cells s) 78, .row (D0.cells x) 53, .row (A0.cells x1.1) 40, .row [.d (.int .i64 0), .d (.int .i64 0), .d (.int .i64 0), .d (.int .i64 0), .d (.str []), .full (estr.rows []), .full (A0.rows [])] 40], [.row (P0.cells s) 78, .row (D0.cells x) 53, .row (A0.cells x1.1) 40, .row (A0.cells x4.1) 40]] rfl rfl rfl rfl rfl rfl rfl rfl rfl rfl ?_
  iterate 7 refine AS.q hC rfl rfl rfl rfl ?_
  refine AS.ix hC rfl (W0 hx3) (B0.idx hx3) rfl rfl rfl (AS.q hC rfl rfl rfl rfl (AS.q hC rfl rfl rfl rfl (AS.c (Ai hx4) rfl rfl rfl rfl (AS.q hC rfl rfl rfl rfl (AS.q hC rfl rfl rfl rfl (AS.q hC rfl rfl rfl rfl (AS.n hC rfl rfl rfl rfl (AS.s hC rfl rfl rfl rfl rfl rfl rfl (AS.nil (e' rfl (S' (p' 2 rfl (c' (Yu hx5) rfl rfl ?_)))))))))))))
  refine e' rfl (ci' rfl hh (fun hh => ?_) (fun hh => ?_))
  · cases hh
    exact t' rfl (re' (rt' rfl rfl rfl))
  cases hh
  exact sk' (t' rfl (re' (rt' rfl rfl rfl)))
def R13 (s : P0) (e : C0) : Option Int :=
  Dq s e >>= fun x1 =>
  if (x1.2 != 0) = true then
    some x1.2
  else
    if (x1.1.Kind != 0) = true then
      some 9
    else
      some 0
theorem F1o {s e res} (hh : R13 s e = some res) : S0 C 144 [.agg (P0.cells s), .agg (C0.cells e)] [] (Ret [] (.d (.int .i64 res))) := by
  unfold R13 at hh
  obtain ⟨x1, hx1, hh⟩ := bs' hh
  refine S0.intro hC Tryz.func144 rfl rfl rfl (s' rfl rfl (I0.n hC rfl (I0.n hC rfl (e' rfl (p' 2 rfl (c' (F10 hx1) rfl rfl (o' 3 rfl (I0.nf hC rfl (I0.s hC rfl (e' rfl (S' (t' rfl (ci' rfl hh (fun hh => ?_) (fun hh => ?_))))))))))))))
  · cases hh
    exact t' rfl (re' (rt' rfl rfl rfl))
  refine sk' (S' (t' rfl (ci' rfl hh (fun hh => ?_) (fun hh => ?_))))
  · cases hh
    exact t' rfl (re' (rt' rfl rfl rfl))
  cases hh
  exact sk' (t' rfl (re' (rt' rfl rfl rfl)))
def A1e (s : P0) (x : D0) : Option P0 :=
  if (decide ((0 + s.Vars.length) * 121 ≤ 140737488355328)) = true then
    Tb x.Low x.High >>= fun x1 =>
    if (decide ((s.Vars.length + 1) * 121 ≤ 140737488355328)) = true then
      if (decide ((0 + s.Taken.length) * 17 ≤ 140737488355328)) = true then
        if (decide ((s.Taken.length + 1) * 17 ≤ 140737488355328)) = true then
          some (P0.mk s.Program s.Function (s.Vars ++ [(O0.mk x.Name x1 true)]) (s.Taken ++ [x.Name]))
        else none
      else none
    else none
  else none
theorem C1v {s x res} (hh : A1e s x = some res) : S0 C 145 [.agg (P0.cells s), .agg (D0.cells x)] [] (Ret [] (.agg (P0.cells res))) := by
  unfold A1e at hh
  obtain ⟨c9, hh⟩ := U1 hh
  obtain ⟨x1, hx1, hh⟩ := bs' hh
  obtain ⟨c10, hh⟩ := U1 hh
  obtain ⟨c11, hh⟩ := U1 hh
  obtain ⟨c12, hh⟩ := U1 hh
  refine S0.intro hC Tryz.func145 rfl rfl rfl (s' rfl rfl (I0.n hC rfl (I0.n hC rfl (I0.nf hC rfl (n' (p' 5 rfl (I0.nf hC rfl (I0.s hC rfl (n' (S' ?_))))))))))
  refine AEx.drawL hC 11 [3] [] [[.row (P0.cells s) 78, .row (D0.cells x) 53, .row [.full (B0.rows []), .full (D0.rows []), .d (.int .i64 0), .full (O0.rows []), .full (estr.rows [])] 78, .row [.d (.sl (B0.rows s.Program.Decls)), .d (.sl (D0.rows s.Program.Body)), .d (.int .i64 s.Function), .d (.sl (O0.rows [])), .d (.sl (estr.rows []))] 78], [.row (P0.cells s) 78, .row (D0.cells x) 53, .row [.full (B0.rows []), .full (D0.rows []), .d (.int .i64 0), .full (O0.rows []), .full (estr.rows [])] 78, .row [.d (.sl (B0.rows s.Program.Decls)), .d (.sl (D0.rows s.Program.Body)), .d (.int .i64 s.Function), .d (.sl (O0.rows [])), .d (.sl (estr.rows []))] 78, .tok 146 9]] rfl rfl rfl rfl rfl rfl rfl rfl rfl rfl ?_
  refine AS.a rfl (fun H => AQ.be hC rfl (O0.rows_map []).symm (AQ.nil rfl)) rfl rfl (AS.q hC rfl rfl rfl rfl (AS.q hC rfl rfl rfl rfl (AS.am hC rfl rfl rfl rfl rfl (rs := O0.rows s.Vars) rfl (O0.sz []) (O0.sz s.Vars) (V6 (O0.len []) (O0.len s.Vars) c9) rfl rfl (AS.q hC rfl rfl rfl rfl (AS.q hC rfl rfl rfl rfl (AS.q hC rfl rfl rfl rfl ?_))))))
  refine AS.q hC rfl rfl rfl rfl (AS.q hC rfl rfl rfl rfl (AS.q hC rfl rfl rfl rfl (AS.c (W9 hx1) rfl rfl rfl rfl (AS.nil (q' rfl (I0.be hC rfl (O0.rows_map [(O0.mk x.Name x1 true)]).symm ?_))))))
  refine I0.ap hC rfl (rs := O0.rows (s.Vars ++ [(O0.mk x.Name x1 true)])) (O0.app s.Vars [(O0.mk x.Name x1 true)]) (O0.sz s.Vars) (O0.sz [(O0.mk x.Name x1 true)]) (V6 (O0.len s.Vars) (O0.len [(O0.mk x.Name x1 true)]) c10) (q' rfl (I0.s hC rfl (n' (S' ?_))))
  refine AEx.drawL hC 7 [3] [] [[.row (P0.cells s) 78, .row (D0.cells x) 53, .row [.full (B0.rows []), .full (D0.rows []), .d (.int .i64 0), .full (O0.rows []), .full (estr.rows [])] 78, .row [.d (.sl (B0.rows s.Program.Decls)), .d (.sl (D0.rows s.Program.Body)), .d (.int .i64 s.Function), .osl 4 (O0.rows (s.Vars ++ [(O0.mk x.Name x1 true)])), .d (.sl (estr.rows []))] 78, .tok 146 9], [.row (P0.cells s) 78, .row (D0.cells x) 53, .row [.full (B0.rows []), .full (D0.rows []), .d (.int .i64 0), .full (O0.rows []), .full (estr.rows [])] 78, .row [.d (.sl (B0.rows s.Program.Decls)), .d (.sl (D0.rows s.Program.Body)), .d (.int .i64 s.Function), .osl 4 (O0.rows (s.Vars ++ [(O0.mk x.Name x1 true)])), .d (.sl (estr.rows []))] 78, .tok 146 9, .tok 9 1]] rfl rfl rfl rfl rfl rfl rfl rfl rfl rfl ?_
  refine AS.a rfl (fun H => AQ.be hC rfl (estr.rows_map []).symm (AQ.nil rfl)) rfl rfl (AS.q hC rfl rfl rfl rfl (AS.q hC rfl rfl rfl rfl (AS.am hC rfl rfl rfl rfl rfl (rs := estr.rows s.Taken) rfl (estr.sz []) (estr.sz s.Taken) (V6 (estr.len []) (estr.len s.Taken) c11) rfl rfl (AS.q hC rfl rfl rfl rfl (AS.q hC rfl rfl rfl rfl (AS.a rfl (fun H => AQ.be hC rfl (estr.rows_map [x.Name]).symm (AQ.nil rfl)) rfl rfl ?_))))))
  refine AS.nil (I0.ap hC rfl (rs := estr.rows (s.Taken ++ [x.Name])) (estr.app s.Taken [x.Name]) (estr.sz s.Taken) (estr.sz [x.Name]) (V6 (estr.len s.Taken) (estr.len [x.Name]) c12) (q' rfl (I0.s hC rfl (n' (p' 1 rfl (I0.s hC rfl (n' (re' ?_))))))))
  obtain rfl := oi' hh
  exact ⟨_, .agg [.d (.sl (B0.rows s.Program.Decls)), .d (.sl (D0.rows s.Program.Body)), .d (.int .i64 s.Function), .d (.sl (O0.rows (s.Vars ++ [(O0.mk x.Name x1 true)]))), .d (.sl (estr.rows (s.Taken ++ [x.Name])))], [], rfl, (.aggL ⟨.rfl, ⟨.rfl, ⟨.rfl, ⟨.osl, ⟨.osl, trivial⟩⟩⟩⟩⟩), trivial, rfl, rfl, rfl, rfl⟩
mutual
def Cn (s : P0) (l : List D0) (top : Bool) : Option Int :=
  Wx s l top 0
  partial_fixpoint
def Wx (s : P0) (l : List D0) (top : Bool) (i : Int) : Option Int :=
  if (decide (i < ((l).length : Int))) = true then
    idx l i >>= fun x1 =>
    L1k s x1 (bif top then (i == (IntKind.i64.wrap (((l).length : Int) - 1))) else false) >>= fun x2 =>
    if (x2 != 0) = true then
      some x2
    else
      Wx s l top (IntKind.i64.wrap (i + 1))
  else
    some 0
  partial_fixpoint
def L1k (s : P0) (x : D0) (last : Bool) : Option Int :=
  if (x.Verb == 0) = true then
    Sz s x.Place >>= fun x1 =>
    if (x1.2 != 0) = true then
      some x1.2
    else
      Pu s x.Value x1.1 >>= fun x2 =>
      some x2
  else
    if (x.Verb == 1) = true then
      K1k s x >>= fun x3 =>
      some x3
    else
      if (x.Verb == 2) = true then
        C1a s x >>= fun x4 =>
        some x4
      else
        if (x.Verb == 3) = true then
          Dq s x.Value >>= fun x5 =>
          (if (x5.2 == 0) = true then Wn x5.1 else some default) >>= fun x6 =>
          if (bif (x5.2 == 0) then (!x6) else false) = true then
            some 9
          else
            some x5.2
        else
          if (bif (x.Verb == 5) then true else (x.Verb == 6)) = true then
            R13 s x.Value >>= fun x7 =>
            if (x7 != 0) = true then
              some x7
            else
              Cn s x.Then false >>= fun x10 =>
              if (x10 != 0) = true then
                some x10
              else
                Cn s x.Else false >>= fun x11 =>
                some x11
          else
            if (x.Verb == 7) = true then
              Ou s.Taken x.Name >>= fun x8 =>
              if x8 = true then
                some 8
              else
                A1e s x >>= fun x9 =>
                Cn x9 x.Then false >>= fun x12 =>
                some x12
            else
              if (bif (x.Verb == 8) then (!last) else false) = true then
                some 15
              else
                some 0
  partial_fixpoint
end
abbrev L1l (s : P0) (l : List D0) (top : Bool) (res : Int) : Prop := S0 C 37 [.agg (P0.cells s), .d (.sl (D0.rows l)), .d (.bool top)] [] (Ret [] (.d (.int .i64 res)))
abbrev B1e (s : P0) (l : List D0) (top : Bool) (i : Int) (res : Int) : Prop := LM C 32 0 Tryz.f37 [1, 0, 1, 4] [(1, .d (.sl (D0.rows l))), (2, .d (.bool top)), (3, .ref 0 0), (7, .d (.int .i64 i))] [.row (P0.cells s) 78] (Ret [] (.d (.int .i64 res)))
abbrev G1o (s : P0) (x : D0) (last : Bool) (res : Int) : Prop := S0 C 79 [.agg (P0.cells s), .agg (D0.cells x), .d (.bool last)] [] (Ret [] (.d (.int .i64 res)))
theorem S13 : (∀ s l top res, Cn s l top = some res → L1l s l top res) ∧ (∀ s l top i res, Wx s l top i = some res → B1e s l top i res) ∧ (∀ s x last res, L1k s x last = some res → G1o s x last res) := by
  refine Cn.mutual_partial_correctness _ _ _ ?_ ?_ ?_
  · intro g1 ih1 s l top res hh
    exact S0.intro hC Tryz.func37 rfl rfl rfl (s' rfl rfl (I0.n hC rfl (e' rfl (S' (t' rfl (bk' (fw' (ih1 _ _ _ _ _ hh) rfl rfl rfl)))))))
  · intro g1 g2 ih1 ih2 s l top i res hh
    refine Z0.unroll (S' (p' 2 rfl (qe' rfl trivial (D0.lenA _) (e' rfl (ci' rfl hh (fun hh => ?_) (fun hh => ?_))))))
    · obtain ⟨x1, hx1, hh⟩ := bs' hh
      obtain ⟨x2, hx2, hh⟩ := bs' hh
      refine sk' (S' (bk' (S' (AEx.drawG hC 15 rfl rfl rfl (G' 3 rfl (AG.i hC rfl rfl (fun _ => trivial) (fun hw => ⟨W0 hx1, D0.idx hx1, rfl⟩) (G' 5 rfl (AG.qe hC rfl (fun hg => ⟨⟨hg, trivial⟩, trivial⟩) (D0.lenA _) (a1' rfl (a2' rfl (pa' rfl (AG.c rfl rfl (fun _ => trivial) (fun _ => ih2 _ _ _ _ hx2) (a0' rfl ?_)))))))))))))
      refine an' (n' (t' rfl (ci' rfl hh (fun hh => ?_) (fun hh => ?_))))
      · cases hh
        exact t' rfl (re' (rt' rfl rfl rfl))
      exact sk' (T' rfl (lw' (ih1 _ _ _ _ _ hh) rfl rfl rfl))
    cases hh
    exact ex' (t' rfl (re' (rt' rfl rfl rfl)))
  · intro g0 ih0 s x last res hh
    refine S0.intro hC Tryz.func79 rfl rfl rfl (s' rfl rfl (I0.n hC rfl (I0.n hC rfl (e' rfl (S' (t' rfl (ci' rfl hh (fun hh => ?_) (fun hh => ?_))))))))
    · obtain ⟨x1, hx1, hh⟩ := bs' hh
      refine p' 3 rfl (c' (T16 hx1) rfl rfl (o' 3 rfl (I0.nf hC rfl (I0.s hC rfl (e' rfl (S' (t' rfl (ci' rfl hh (fun hh => ?_) (fun hh => ?_)))))))))
      · cases hh
        exact t' rfl (re' (rt' rfl rfl rfl))
      obtain ⟨x2, hx2, hh⟩ := bs' hh
      cases hh
      exact sk' (p' 4 rfl (c' (Vx hx2) rfl rfl (e' rfl (re' (rt' rfl rfl rfl)))))
    refine sk' (S' (t' rfl (ci' rfl hh (fun hh => ?_) (fun hh => ?_))))
    · obtain ⟨x3, hx3, hh⟩ := bs' hh
      cases hh
      exact p' 2 rfl (c' (V1z hx3) rfl rfl (e' rfl (re' (rt' rfl rfl rfl))))
    refine sk' (S' (t' rfl (ci' rfl hh (fun hh => ?_) (fun hh => ?_))))
    · obtain ⟨x4, hx4, hh⟩ := bs' hh
      cases hh
      exact p' 2 rfl (c' (R1s hx4) rfl rfl (e' rfl (re' (rt' rfl rfl rfl))))
    refine sk' (S' (t' rfl (ci' rfl hh (fun hh => ?_) (fun hh => ?_))))
    · obtain ⟨x5, hx5, hh⟩ := bs' hh
      obtain ⟨x6, hx6, hh⟩ := bs' hh
      refine p' 3 rfl (c' (F10 hx5) rfl rfl (o' 3 rfl (I0.nf hC rfl (I0.s hC rfl (e' rfl (S' (sg' 7 rfl (G' 4 rfl (AG.c rfl rfl (fun hg => ⟨hg, trivial⟩) (fun hw => Cq (T1 hw hx6)) (a1' rfl (pa' rfl (an' (n' (ci' rfl hh (fun hh => ?_) (fun hh => ?_)))))))))))))))
      · cases hh
        exact t' rfl (re' (rt' rfl rfl rfl))
      cases hh
      exact sk' (t' rfl (re' (rt' rfl rfl rfl)))
    refine sk' (S' (sg' 8 rfl (G' 5 rfl (a1' rfl (a1' rfl (po' rfl (an' (n' (ci' rfl hh (fun hh => ?_) (fun hh => ?_))))))))))
    · obtain ⟨x7, hx7, hh⟩ := bs' hh
      refine p' 3 rfl (c' (F1o hx7) rfl rfl (e' rfl (S' (t' rfl (ci' rfl hh (fun hh => ?_) (fun hh => ?_))))))
      · cases hh
        exact t' rfl (re' (rt' rfl rfl rfl))
      obtain ⟨x10, hx10, hh⟩ := bs' hh
      refine sk' (p' 3 rfl (c' (ih0 _ _ _ _ hx10) rfl rfl (e' rfl (S' (t' rfl (ci' rfl hh (fun hh => ?_) (fun hh => ?_)))))))
      · cases hh
        exact t' rfl (re' (rt' rfl rfl rfl))
      obtain ⟨x11, hx11, hh⟩ := bs' hh
      cases hh
      exact sk' (p' 3 rfl (c' (ih0 _ _ _ _ hx11) rfl rfl (e' rfl (re' (rt' rfl rfl rfl)))))
    refine sk' (S' (t' rfl (ci' rfl hh (fun hh => ?_) (fun hh => ?_))))
    · obtain ⟨x8, hx8, hh⟩ := bs' hh
      refine S' (p' 4 rfl (c' (Ux hx8) rfl rfl (n' (ci' rfl hh (fun hh => ?_) (fun hh => ?_)))))
      · cases hh
        exact t' rfl (re' (rt' rfl rfl rfl))
      obtain ⟨x9, hx9, hh⟩ := bs' hh
      obtain ⟨x12, hx12, hh⟩ := bs' hh
      cases hh
      exact sk' (S' (AEx.draw hC 7 rfl rfl rfl (O' 2 rfl (Qc' (C1v hx9) rfl rfl (O' 2 rfl (Qc' (ih0 _ _ _ _ hx12) rfl rfl (E' rfl (n' (re' (rt' rfl rfl rfl))))))))))
    refine sk' (S' (sg' 7 rfl (G' 5 rfl (a1' rfl (pa' rfl (an' (n' (ci' rfl hh (fun hh => ?_) (fun hh => ?_)))))))))
    · cases hh
      exact t' rfl (re' (rt' rfl rfl rfl))
    cases hh
    exact sk' (t' rfl (re' (rt' rfl rfl rfl)))
theorem Y1i {s l top res} (hh : Cn s l top = some res) : L1l s l top res := (S13).1 _ _ _ _ hh
theorem E2e {s l top i res} (hh : Wx s l top i = some res) : B1e s l top i res := (S13).2.1 _ _ _ _ _ hh
theorem X2h {s x last res} (hh : L1k s x last = some res) : G1o s x last res := (S13).2.2 _ _ _ _ hh
def U16 (p : K0) (i : Int) (t : A0) : Option Int :=
  idx p.Decls i >>= fun x1 =>
  Y1d p i >>= fun x2 =>
  if (x2.2 != 0) = true then
    some x2.2
  else
    Cn x2.1 x1.Body false >>= fun x3 =>
    if (x3 != 0) = true then
      some x3
    else
      Pu x2.1 x1.Value t >>= fun x4 =>
      some x4
theorem O1q {p i t res} (hh : U16 p i t = some res) : S0 C 78 [.agg (K0.cells p), .d (.int .i64 i), .agg (A0.cells t)] [] (Ret [] (.d (.int .i64 res))) := by
  unfold U16 at hh
  obtain ⟨x1, hx1, hh⟩ := bs' hh
  obtain ⟨x2, hx2, hh⟩ := bs' hh
  refine S0.intro hC Tryz.func78 rfl rfl rfl (s' rfl rfl (I0.n hC rfl (I0.n hC rfl (e' rfl (p' 3 rfl (i' rfl (W0 hx1) (B0.idx hx1) rfl (q' rfl (I0.nf hC rfl (I0.s hC rfl (n' (p' 2 rfl (c' (B1v hx2) rfl rfl (o' 3 rfl ?_)))))))))))))
  refine I0.nf hC rfl (I0.s hC rfl (e' rfl (S' (t' rfl (ci' rfl hh (fun hh => ?_) (fun hh => ?_))))))
  · cases hh
    exact t' rfl (re' (rt' rfl rfl rfl))
  obtain ⟨x3, hx3, hh⟩ := bs' hh
  refine sk' (p' 3 rfl (c' (Y1i hx3) rfl rfl (e' rfl (S' (t' rfl (ci' rfl hh (fun hh => ?_) (fun hh => ?_)))))))
  · cases hh
    exact t' rfl (re' (rt' rfl rfl rfl))
  obtain ⟨x4, hx4, hh⟩ := bs' hh
  cases hh
  exact sk' (p' 4 rfl (c' (Vx hx4) rfl rfl (e' rfl (re' (rt' rfl rfl rfl)))))
def M1k (p : K0) (i : Int) : Option Int :=
  idx p.Decls i >>= fun x1 =>
  Zh p i x1.TypeV >>= fun x2 =>
  if (x2.2 != 0) = true then
    some x2.2
  else
    if (x1.Kind == 5) = true then
      Wn x2.1 >>= fun x3 =>
      if (!x3) = true then
        some 9
      else
        C10 p i false >>= fun x4 =>
        Pu (P0.mk p (-1) x4 []) x1.Value x2.1 >>= fun x5 =>
        some x5
    else
      if (x1.Kind == 6) = true then
        U16 p i x2.1 >>= fun x6 =>
        some x6
      else
        some 0
theorem W1z {p i res} (hh : M1k p i = some res) : S0 C 36 [.agg (K0.cells p), .d (.int .i64 i)] [] (Ret [] (.d (.int .i64 res))) := by
  unfold M1k at hh
  obtain ⟨x1, hx1, hh⟩ := bs' hh
  obtain ⟨x2, hx2, hh⟩ := bs' hh
  refine S0.intro hC Tryz.func36 rfl rfl rfl (s' rfl rfl (I0.n hC rfl (e' rfl (p' 3 rfl (i' rfl (W0 hx1) (B0.idx hx1) rfl (q' rfl (I0.nf hC rfl (I0.s hC rfl (n' (p' 4 rfl (c' (Ai hx2) rfl rfl (o' 3 rfl (I0.nf hC rfl ?_)))))))))))))
  refine I0.s hC rfl (e' rfl (S' (t' rfl (ci' rfl hh (fun hh => ?_) (fun hh => ?_)))))
  · cases hh
    exact t' rfl (re' (rt' rfl rfl rfl))
  refine sk' (S' (t' rfl (ci' rfl hh (fun hh => ?_) (fun hh => ?_))))
  · obtain ⟨x3, hx3, hh⟩ := bs' hh
    refine S' (p' 1 rfl (c' (Cq hx3) rfl rfl (e' rfl (ci' rfl hh (fun hh => ?_) (fun hh => ?_)))))
    · cases hh
      exact t' rfl (re' (rt' rfl rfl rfl))
    obtain ⟨x4, hx4, hh⟩ := bs' hh
    obtain ⟨x5, hx5, hh⟩ := bs' hh
    cases hh
    exact sk' (S' (AEx.draw hC 10 rfl rfl rfl (O' 3 rfl (Qc' (V1d hx4) rfl rfl (O' 4 rfl (Qc' (Vx hx5) rfl rfl (E' rfl (n' (re' (rt' rfl rfl rfl))))))))))
  refine sk' (S' (t' rfl (ci' rfl hh (fun hh => ?_) (fun hh => ?_))))
  · obtain ⟨x6, hx6, hh⟩ := bs' hh
    cases hh
    exact p' 3 rfl (c' (O1q hx6) rfl rfl (e' rfl (re' (rt' rfl rfl rfl))))
  cases hh
  exact sk' (t' rfl (re' (rt' rfl rfl rfl)))
def N1k (p : K0) : Option P0 :=
  C10 p ((p.Decls).length : Int) true >>= fun x1 =>
  Rz p >>= fun x2 =>
  some (P0.mk p (-1) x1 x2)
theorem X1z {p res} (hh : N1k p = some res) : S0 C 38 [.agg (K0.cells p)] [] (Ret [] (.agg (P0.cells res))) := by
  unfold N1k at hh
  obtain ⟨x1, hx1, hh⟩ := bs' hh
  obtain ⟨x2, hx2, hh⟩ := bs' hh
  refine S0.intro hC Tryz.func38 rfl rfl rfl (s' rfl rfl (I0.n hC rfl (I0.nf hC rfl (n' (S' ?_)))))
  refine AEx.drawL hC 8 [7] [] [[.row (K0.cells p) 25, .row [.full (B0.rows []), .full (D0.rows []), .d (.int .i64 0), .full (O0.rows []), .full (estr.rows [])] 78], [.row (K0.cells p) 25, .row [.full (B0.rows []), .full (D0.rows []), .d (.int .i64 0), .full (O0.rows []), .full (estr.rows [])] 78, .dead, .tok 9 1]] rfl rfl rfl rfl rfl rfl rfl rfl rfl rfl ?_
  refine AS.q hC rfl rfl rfl rfl (AS.q hC rfl rfl rfl rfl (AS.q hC rfl rfl rfl rfl (AS.q hC rfl rfl rfl rfl (AS.qe hC rfl trivial (B0.lenA _) rfl rfl rfl (AS.c (V1d hx1) rfl rfl rfl rfl (AS.q hC rfl rfl rfl rfl (AS.g [] (S16 hx2) rfl rfl rfl rfl rfl rfl rfl rfl rfl rfl rfl rfl (AS.nil (q' rfl (I0.s hC rfl (n' (re' ?_))))))))))))
  obtain rfl := oi' hh
  exact ⟨_, .agg [.d (.sl (B0.rows p.Decls)), .d (.sl (D0.rows p.Body)), .d (.int .i64 (-1)), .d (.sl (O0.rows x1)), .d (.sl (estr.rows x2))], [], rfl, (.aggL ⟨.rfl, ⟨.rfl, ⟨.rfl, ⟨.rfl, ⟨.osl, trivial⟩⟩⟩⟩⟩), trivial, rfl, rfl, rfl, rfl⟩
mutual
def Dn (t : A0) : Option Bool :=
  if (t.Kind == 4) = true then
    some true
  else
    Ak t 0
  partial_fixpoint
def Ak (t : A0) (i : Int) : Option Bool :=
  if (decide (i < ((t.Of).length : Int))) = true then
    idx t.Of i >>= fun x1 =>
    Dn x1 >>= fun x2 =>
    if x2 = true then
      some true
    else
      Ak t (IntKind.i64.wrap (i + 1))
  else
    some false
  partial_fixpoint
end
abbrev M1l (t : A0) (res : Bool) : Prop := S0 C 196 [.agg (A0.cells t)] [] (Ret [] (.d (.bool res)))
abbrev C1e (t : A0) (i : Int) (res : Bool) : Prop := LM C 20 0 Tryz.f196 [1, 1, 0, 1, 4] [(1, .ref 0 0), (3, .d (.int .i64 i))] [.row (A0.cells t) 40] (Ret [] (.d (.bool res)))
theorem Z1f : (∀ t res, Dn t = some res → M1l t res) ∧ (∀ t i res, Ak t i = some res → C1e t i res) := by
  refine Dn.mutual_partial_correctness _ _ ?_ ?_
  · intro g1 ih1 t res hh
    refine S0.intro hC Tryz.func196 rfl rfl rfl (s' rfl rfl (I0.n hC rfl (e' rfl (S' (t' rfl (ci' rfl hh (fun hh => ?_) (fun hh => ?_)))))))
    · cases hh
      exact t' rfl (re' (rt' rfl rfl rfl))
    exact sk' (S' (t' rfl (bk' (fw' (ih1 _ _ _ hh) rfl rfl rfl))))
  · intro g0 g1 ih0 ih1 t i res hh
    refine Z0.unroll (S' (p' 3 rfl (qe' rfl trivial (A0.lenA _) (e' rfl (ci' rfl hh (fun hh => ?_) (fun hh => ?_))))))
    · obtain ⟨x1, hx1, hh⟩ := bs' hh
      obtain ⟨x2, hx2, hh⟩ := bs' hh
      refine sk' (S' (bk' (p' 3 rfl (i' rfl (W0 hx1) (A0.idx hx1) rfl (q' rfl (c' (ih0 _ _ hx2) rfl rfl (n' (ci' rfl hh (fun hh => ?_) (fun hh => ?_)))))))))
      · cases hh
        exact t' rfl (re' (rt' rfl rfl rfl))
      exact sk' (T' rfl (lw' (ih1 _ _ _ hh) rfl rfl rfl))
    cases hh
    exact ex' (t' rfl (re' (rt' rfl rfl rfl)))
theorem D1x {t res} (hh : Dn t = some res) : M1l t res := (Z1f).1 _ _ hh
theorem F2e {t i res} (hh : Ak t i = some res) : C1e t i res := (Z1f).2 _ _ _ hh
def Tz (t : A0) : Option Int :=
  Ul t >>= fun x1 =>
  if (x1 != 0) = true then
    some x1
  else
    Dn t >>= fun x2 =>
    if x2 = true then
      some 7
    else
      Og t >>= fun x3 =>
      if x3 = true then
        some 8
      else
        Sh t >>= fun x4 =>
        if (decide (x4 > 32)) = true then
          some 4
        else
          some 0
theorem E1x {t res} (hh : Tz t = some res) : S0 C 146 [.agg (A0.cells t)] [] (Ret [] (.d (.int .i64 res))) := by
  unfold Tz at hh
  obtain ⟨x1, hx1, hh⟩ := bs' hh
  refine S0.intro hC Tryz.func146 rfl rfl rfl (s' rfl rfl (I0.n hC rfl (e' rfl (p' 1 rfl (c' (V18 hx1) rfl rfl (e' rfl (S' (t' rfl (ci' rfl hh (fun hh => ?_) (fun hh => ?_))))))))))
  · cases hh
    exact t' rfl (re' (rt' rfl rfl rfl))
  obtain ⟨x2, hx2, hh⟩ := bs' hh
  refine sk' (S' (p' 1 rfl (c' (D1x hx2) rfl rfl (n' (ci' rfl hh (fun hh => ?_) (fun hh => ?_))))))
  · cases hh
    exact t' rfl (re' (rt' rfl rfl rfl))
  obtain ⟨x3, hx3, hh⟩ := bs' hh
  refine sk' (S' (p' 1 rfl (c' (P1d hx3) rfl rfl (n' (ci' rfl hh (fun hh => ?_) (fun hh => ?_))))))
  · cases hh
    exact t' rfl (re' (rt' rfl rfl rfl))
  obtain ⟨x4, hx4, hh⟩ := bs' hh
  refine sk' (S' (p' 1 rfl (c' (U1i hx4) rfl rfl (e' rfl (ci' rfl hh (fun hh => ?_) (fun hh => ?_))))))
  · cases hh
    exact t' rfl (re' (rt' rfl rfl rfl))
  cases hh
  exact sk' (t' rfl (re' (rt' rfl rfl rfl)))
def Bi (n : Int) : Option Str :=
  if (decide (n < 10)) = true then
    slc [48, 49, 50, 51, 52, 53, 54, 55, 56, 57] n (IntKind.i64.wrap (n + 1)) >>= fun x1 =>
    some x1
  else
    Bi (IntKind.i64.wrap (Int.tdiv n 10)) >>= fun x2 =>
    slc [48, 49, 50, 51, 52, 53, 54, 55, 56, 57] (Int.tmod n 10) (IntKind.i64.wrap ((Int.tmod n 10) + 1)) >>= fun x3 =>
    if (decide (x2.length + x3.length ≤ maxLen)) = true then
      some (x2 ++ x3)
    else none
  partial_fixpoint
abbrev Z1i (n : Int) (res : Str) : Prop := S0 C 199 [.d (.int .i64 n)] [] (Ret [] (.d (.str res)))
theorem S1s : (∀ n res, Bi n = some res → Z1i n res) := by
  refine Bi.partial_correctness _ ?_
  · intro g0 ih0 n res hh
    refine S0.intro hC Tryz.func199 rfl rfl rfl (t' rfl (S' (t' rfl (ci' rfl hh (fun hh => ?_) (fun hh => ?_)))))
    · obtain ⟨x1, hx1, hh⟩ := bs' hh
      cases hh
      exact p' 3 rfl (I0.lx hC rfl hx1 (e' rfl (re' (rt' rfl rfl rfl))))
    obtain ⟨x2, hx2, hh⟩ := bs' hh
    obtain ⟨x3, hx3, hh⟩ := bs' hh
    obtain ⟨c2, hh⟩ := U1 hh
    cases hh
    refine sk' (S' (AEx.draw hC 11 rfl rfl rfl (Q' rfl (AQ.q hC rfl (by decide) (Qc' (ih0 _ _ hx2) rfl rfl (Q' rfl (AQ.q hC rfl (by decide) (Q' rfl (AQ.q hC rfl (by decide) (Q' rfl (AQ.lx hC rfl hx3 (AQ.q hC rfl c2 (E' rfl ?_)))))))))))))
    exact n' (re' (rt' rfl rfl rfl))
theorem D1v {n res} (hh : Bi n = some res) : Z1i n res := (S1s) _ _ hh
mutual
def Ae (t : A0) (path : Str) : Option (List R0) :=
  if (t.Kind == 0) = true then
    if (decide ((0 + 1) * 41 ≤ 140737488355328)) = true then
      some [(R0.mk path true 0 1)]
    else none
  else
    if (t.Kind == 1) = true then
      if (decide ((0 + 1) * 41 ≤ 140737488355328)) = true then
        some [(R0.mk path false t.Low t.High)]
      else none
    else
      if (t.Kind == 2) = true then
        Xg t path [] 0
      else
        if (t.Kind == 3) = true then
          Wg t path [] 0
        else
          some []
  partial_fixpoint
def Wg (t : A0) (path : Str) (out1 : List R0) (i1 : Int) : Option (List R0) :=
  if (decide (i1 < ((t.Of).length : Int))) = true then
    idx t.Of i1 >>= fun x3 =>
    if (decide (path.length + 1 ≤ maxLen)) = true then
      idx t.Names i1 >>= fun x4 =>
      if (decide ((path ++ [46]).length + x4.length ≤ maxLen)) = true then
        Ae x3 ((path ++ [46]) ++ x4) >>= fun x6 =>
        if (decide ((out1.length + x6.length) * 41 ≤ 140737488355328)) = true then
          Wg t path (out1 ++ x6) (IntKind.i64.wrap (i1 + 1))
        else none
      else none
    else none
  else
    some out1
  partial_fixpoint
def Xg (t : A0) (path : Str) (out : List R0) (i : Int) : Option (List R0) :=
  if (decide (i < t.Size)) = true then
    idx t.Of 0 >>= fun x1 =>
    if (decide (path.length + 1 ≤ maxLen)) = true then
      Bi i >>= fun x2 =>
      if (decide ((path ++ [46]).length + x2.length ≤ maxLen)) = true then
        Ae x1 ((path ++ [46]) ++ x2) >>= fun x5 =>
        if (decide ((out.length + x5.length) * 41 ≤ 140737488355328)) = true then
          Xg t path (out ++ x5) (IntKind.i64.wrap (i + 1))
        else none
      else none
    else none
  else
    some out
  partial_fixpoint
end
abbrev A1g (t : A0) (path : Str) (res : List R0) : Prop := S0 C 147 [.agg (A0.cells t), .d (.str path)] [] (Ret [] (.d (.sl (R0.rows res))))
abbrev K19 (t : A0) (path : Str) (out1 : List R0) (i1 : Int) (res : List R0) : Prop := LM C 74 0 Tryz.f147 [1, 1, 0, 1, 4, 1, 3, 1, 3, 1, 3, 1, 2, 1, 4] [(1, .d (.str path)), (2, .ref 0 0), (5, .osl 1 (R0.rows out1)), (7, .d (.int .i64 i1))] [.row (A0.cells t) 40, .tok 117 4] (Ret [] (.d (.sl (R0.rows res))))
abbrev L19 (t : A0) (path : Str) (out : List R0) (i : Int) (res : List R0) : Prop := LM C 74 0 Tryz.f147 [1, 1, 0, 1, 4, 1, 3, 1, 3, 1, 2, 1, 4] [(1, .d (.str path)), (2, .ref 0 0), (5, .osl 1 (R0.rows out)), (6, .d (.int .i64 i))] [.row (A0.cells t) 40, .tok 117 4] (Ret [] (.d (.sl (R0.rows res))))
theorem Ty : (∀ t path res, Ae t path = some res → A1g t path res) ∧ (∀ t path out1 i1 res, Wg t path out1 i1 = some res → K19 t path out1 i1 res) ∧ (∀ t path out i res, Xg t path out i = some res → L19 t path out i res) := by
  refine Ae.mutual_partial_correctness _ _ _ ?_ ?_ ?_
  · intro g1 g2 ih1 ih2 t path res hh
    refine S0.intro hC Tryz.func147 rfl rfl rfl (s' rfl rfl (I0.n hC rfl (e' rfl (p' 1 rfl (I0.tokE 5 117 4 rfl (n' (S' (t' rfl (bk' (t' rfl (ci' rfl hh (fun hh => ?_) (fun hh => ?_))))))))))))
    · obtain ⟨c33, hh⟩ := U1 hh
      refine P' 3 rfl (I0.be hC rfl (R0.rows_map [(R0.mk path true 0 1)]).symm (I0.ap hC rfl (rs := R0.rows [(R0.mk path true 0 1)]) rfl (R0.sz []) (R0.sz [(R0.mk path true 0 1)]) (V6 (R0.len []) (R0.len [(R0.mk path true 0 1)]) c33) (e' rfl (t' rfl (re' ?_)))))
      obtain rfl := oi' hh
      exact ⟨_, .d (.sl (R0.rows [(R0.mk path true 0 1)])), [], rfl, .osl, trivial, rfl, rfl, rfl, rfl⟩
    refine t' rfl (ci' rfl hh (fun hh => ?_) (fun hh => ?_))
    · obtain ⟨c34, hh⟩ := U1 hh
      refine P' 7 rfl (I0.be hC rfl (R0.rows_map [(R0.mk path false t.Low t.High)]).symm (I0.ap hC rfl (rs := R0.rows [(R0.mk path false t.Low t.High)]) rfl (R0.sz []) (R0.sz [(R0.mk path false t.Low t.High)]) (V6 (R0.len []) (R0.len [(R0.mk path false t.Low t.High)]) c34) (e' rfl (t' rfl (re' ?_)))))
      obtain rfl := oi' hh
      exact ⟨_, .d (.sl (R0.rows [(R0.mk path false t.Low t.High)])), [], rfl, .osl, trivial, rfl, rfl, rfl, rfl⟩
    refine t' rfl (ci' rfl hh (fun hh => ?_) (fun hh => ?_))
    · exact t' rfl (bk' (fw' (ih2 _ _ _ _ _ hh) rfl rfl rfl))
    refine t' rfl (ci' rfl hh (fun hh => ?_) (fun hh => ?_))
    · exact t' rfl (bk' (fw' (ih1 _ _ _ _ _ hh) rfl rfl rfl))
    refine sk' (t' rfl (re' ?_))
    obtain rfl := oi' hh
    exact ⟨_, .d (.sl (R0.rows [])), [], rfl, .osl, trivial, rfl, rfl, rfl, rfl⟩
  · intro g0 g1 ih0 ih1 t path out1 i1 res hh
    refine Z0.unroll (S' (p' 3 rfl (qe' rfl trivial (A0.lenA _) (e' rfl (ci' rfl hh (fun hh => ?_) (fun hh => ?_))))))
    · obtain ⟨x3, hx3, hh⟩ := bs' hh
      obtain ⟨c38, hh⟩ := U1 hh
      obtain ⟨x4, hx4, hh⟩ := bs' hh
      obtain ⟨c39, hh⟩ := U1 hh
      obtain ⟨x6, hx6, hh⟩ := bs' hh
      obtain ⟨c40, hh⟩ := U1 hh
      refine sk' (S' (bk' (AEx.draw hC 15 rfl rfl rfl (O' 4 rfl (AQ.i hC rfl (W0 hx3) (A0.idx hx3) rfl (O' 2 rfl (AQ.q hC rfl c38 (O' 3 rfl (AQ.i hC rfl (W0 hx4) (estr.idx hx4) rfl (Q' rfl (AQ.q hC rfl c39 (Qc' (ih0 _ _ _ hx6) rfl rfl (Qn' ?_)))))))))))))
      exact I0.ap hC rfl (rs := R0.rows (out1 ++ x6)) (R0.app out1 x6) (R0.sz out1) (R0.sz x6) (V6 (R0.len out1) (R0.len x6) c40) (e' rfl (T' rfl (lw' (ih1 _ _ _ _ _ hh) rfl rfl rfl)))
    refine ex' (t' rfl (re' ?_))
    obtain rfl := oi' hh
    exact ⟨_, .d (.sl (R0.rows out1)), [], rfl, .osl, trivial, rfl, rfl, rfl, rfl⟩
  · intro g0 g2 ih0 ih2 t path out i res hh
    refine Z0.unroll (S' (t' rfl (ci' rfl hh (fun hh => ?_) (fun hh => ?_))))
    · obtain ⟨x1, hx1, hh⟩ := bs' hh
      obtain ⟨c35, hh⟩ := U1 hh
      obtain ⟨x2, hx2, hh⟩ := bs' hh
      obtain ⟨c36, hh⟩ := U1 hh
      obtain ⟨x5, hx5, hh⟩ := bs' hh
      obtain ⟨c37, hh⟩ := U1 hh
      refine sk' (S' (bk' (AEx.draw hC 11 rfl rfl rfl (O' 3 rfl (AQ.i hC rfl (W0 hx1) (A0.idx hx1) rfl (O' 2 rfl (AQ.q hC rfl c35 (Q' rfl (Qc' (D1v hx2) rfl rfl (AQ.q hC rfl c36 (Qc' (ih0 _ _ _ hx5) rfl rfl (Qn' (I0.ap hC rfl (rs := R0.rows (out ++ x5)) (R0.app out x5) (R0.sz out) (R0.sz x5) (V6 (R0.len out) (R0.len x5) c37) ?_)))))))))))))
      exact e' rfl (T' rfl (lw' (ih2 _ _ _ _ _ hh) rfl rfl rfl))
    refine ex' (t' rfl (re' ?_))
    obtain rfl := oi' hh
    exact ⟨_, .d (.sl (R0.rows out)), [], rfl, .osl, trivial, rfl, rfl, rfl, rfl⟩
theorem T1s {t path res} (hh : Ae t path = some res) : A1g t path res := (Ty).1 _ _ _ hh
theorem W2a {t path out1 i1 res} (hh : Wg t path out1 i1 = some res) : K19 t path out1 i1 res := (Ty).2.1 _ _ _ _ _ hh
theorem X2a {t path out i res} (hh : Xg t path out i = some res) : L19 t path out i res := (Ty).2.2 _ _ _ _ _ hh
def Np (t : A0) : Option (List R0 × Int) :=
  Tz t >>= fun x1 =>
  if (x1 != 0) = true then
    some ([], x1)
  else
    Ae t [] >>= fun x2 =>
    some (x2, 0)
theorem D1e {t res} (hh : Np t = some res) : S0 C 81 [.agg (A0.cells t)] [] (Ret [] (.tup [.d (.sl (R0.rows res.1)), .d (.int .i64 res.2)])) := by
  unfold Np at hh
  obtain ⟨x1, hx1, hh⟩ := bs' hh
  refine S0.intro hC Tryz.func81 rfl rfl rfl (s' rfl rfl (I0.n hC rfl (e' rfl (p' 1 rfl (c' (E1x hx1) rfl rfl (e' rfl (S' (t' rfl (ci' rfl hh (fun hh => ?_) (fun hh => ?_))))))))))
  · refine t' rfl (re' ?_)
    obtain rfl := oi' hh
    exact ⟨_, .tup [.d (.sl (R0.rows [])), .d (.int .i64 x1)], [], rfl, (.tupL ⟨.full, ⟨.rfl, trivial⟩⟩), trivial, rfl, rfl, rfl, rfl⟩
  obtain ⟨x2, hx2, hh⟩ := bs' hh
  cases hh
  exact sk' (p' 1 rfl (c' (T1s hx2) rfl rfl (e' rfl (re' (rt' rfl rfl rfl)))))
def Fq (n : Int) (x1 : List R0 × Int) (i : Int) : Option Int :=
  if (decide (i < ((x1.1).length : Int))) = true then
    idx x1.1 i >>= fun x2 =>
    idx x1.1 i >>= fun x3 =>
    Ea (IntKind.i64.wrap (n * (IntKind.i64.wrap ((IntKind.i64.wrap (x2.High - x3.Low)) + 1)))) 100000 >>= fun x4 =>
    Fq x4 x1 (IntKind.i64.wrap (i + 1))
  else
    some n
  partial_fixpoint
abbrev I1b (n : Int) (x1 : List R0 × Int) (i : Int) (res : Int) : Prop := LM C 34 0 Tryz.f83 [1, 1, 1, 0, 1, 4] [(3, .d (.int .i64 n)), (4, .d (.sl (R0.rows x1.1))), (6, .d (.int .i64 i))] [] (Ret [] (.d (.int .i64 res)))
theorem G1m (x1 : List R0 × Int) : (∀ n i res, Fq n x1 i = some res → I1b n x1 i res) := by
  refine Fq.partial_correctness x1 _ ?_
  · intro g0 ih0 n i res hh
    refine Z0.unroll (S' (p' 2 rfl (qe' rfl trivial (R0.lenA _) (e' rfl (ci' rfl hh (fun hh => ?_) (fun hh => ?_))))))
    · obtain ⟨x2, hx2, hh⟩ := bs' hh
      obtain ⟨x3, hx3, hh⟩ := bs' hh
      obtain ⟨x4, hx4, hh⟩ := bs' hh
      exact sk' (S' (bk' (AEx.draw hC 16 rfl rfl rfl (O' 3 rfl (AQ.i hC rfl (W0 hx2) (R0.idx hx2) rfl (O' 4 rfl (AQ.i hC rfl (W0 hx3) (R0.idx hx3) rfl (O' 5 rfl (Qc' (M8 hx4) rfl rfl (E' rfl (n' (T' rfl (lw' (ih0 _ _ _ hh) rfl rfl rfl)))))))))))))
    cases hh
    exact ex' (t' rfl (re' (rt' rfl rfl rfl)))
theorem H1o {n x1 i res} (hh : Fq n x1 i = some res) : I1b n x1 i res := (G1m x1) _ _ _ hh
def Bx (t : A0) : Option Int :=
  Np t >>= fun x1 =>
  Fq 1 x1 0
theorem T13 {t res} (hh : Bx t = some res) : S0 C 83 [.agg (A0.cells t)] [] (Ret [] (.d (.int .i64 res))) := by
  unfold Bx at hh
  obtain ⟨x1, hx1, hh⟩ := bs' hh
  exact S0.intro hC Tryz.func83 rfl rfl rfl (s' rfl rfl (I0.n hC rfl (e' rfl (t' rfl (p' 1 rfl (c' (D1e hx1) rfl rfl (e' rfl (S' (t' rfl (bk' (fw' (H1o hh) rfl rfl rfl)))))))))))
def B1g (n : Int) : Option Int :=
  Ea n 1000000 >>= fun x1 =>
  some x1
theorem I1o {n res} (hh : B1g n = some res) : S0 C 167 [.d (.int .i64 n)] [] (Ret [] (.d (.int .i64 res))) := by
  unfold B1g at hh
  obtain ⟨x1, hx1, hh⟩ := bs' hh
  cases hh
  exact S0.intro hC Tryz.func167 rfl rfl rfl (t' rfl (p' 1 rfl (c' (M8 hx1) rfl rfl (e' rfl (re' (rt' rfl rfl rfl))))))
mutual
def Ik (p : K0) (l : List D0) (n : Int) : Option (Int × Int) :=
  Xx p l n 0 0 0
  partial_fixpoint
def Xx (p : K0) (l : List D0) (n : Int) (steps4 : Int) (outputs5 : Int) (i : Int) : Option (Int × Int) :=
  if (decide (i < ((l).length : Int))) = true then
    idx l i >>= fun x1 =>
    Ik p x1.Then n >>= fun x2 =>
    Ik p x1.Else n >>= fun x3 =>
    if (x1.Verb == 3) = true then
      Yx p l n x1 (IntKind.i64.wrap (steps4 + 1)) (IntKind.i64.wrap (outputs5 + 1)) i x2 x3
    else
      Yx p l n x1 (IntKind.i64.wrap (steps4 + 1)) outputs5 i x2 x3
  else
    some (steps4, outputs5)
  partial_fixpoint
def Yx (p : K0) (l : List D0) (n : Int) (x1 : D0) (steps5 : Int) (outputs : Int) (i1 : Int) (x2 : Int × Int) (x3 : Int × Int) : Option (Int × Int) :=
  if (x1.Verb == 5) = true then
    Ub x2.1 x3.1 >>= fun x4 =>
    Ub x2.2 x3.2 >>= fun x5 =>
    Zx p l n x1 (IntKind.i64.wrap (steps5 + x4)) (IntKind.i64.wrap (outputs + x5)) i1 x2
  else
    Zx p l n x1 steps5 outputs i1 x2
  partial_fixpoint
def Zx (p : K0) (l : List D0) (n : Int) (x1 : D0) (steps : Int) (outputs1 : Int) (i2 : Int) (x2 : Int × Int) : Option (Int × Int) :=
  if (x1.Verb == 6) = true then
    Ay p l n x1 (IntKind.i64.wrap (steps + (IntKind.i64.wrap (x1.NV * (IntKind.i64.wrap (1 + x2.1)))))) (IntKind.i64.wrap (outputs1 + (IntKind.i64.wrap (x1.NV * x2.2)))) i2 x2
  else
    Ay p l n x1 steps outputs1 i2 x2
  partial_fixpoint
def Ay (p : K0) (l : List D0) (n : Int) (x1 : D0) (steps1 : Int) (outputs2 : Int) (i3 : Int) (x2 : Int × Int) : Option (Int × Int) :=
  if (x1.Verb == 7) = true then
    Cy p l n x1 (IntKind.i64.wrap (steps1 + (IntKind.i64.wrap ((IntKind.i64.wrap ((IntKind.i64.wrap (x1.High - x1.Low)) + 1)) * (IntKind.i64.wrap (1 + x2.1)))))) (IntKind.i64.wrap (outputs2 + (IntKind.i64.wrap ((IntKind.i64.wrap ((IntKind.i64.wrap (x1.High - x1.Low)) + 1)) * x2.2)))) i3
  else
    Cy p l n x1 steps1 outputs2 i3
  partial_fixpoint
def Cy (p : K0) (l : List D0) (n : Int) (x1 : D0) (steps2 : Int) (outputs3 : Int) (i4 : Int) : Option (Int × Int) :=
  if (x1.Verb == 1) = true then
    Es p 6 x1.Name n >>= fun x6 =>
    idx p.Decls x6 >>= fun x7 =>
    Ik p x7.Body x6 >>= fun x8 =>
    Dy p l n (IntKind.i64.wrap (steps2 + x8.1)) (IntKind.i64.wrap (outputs3 + x8.2)) i4
  else
    Dy p l n steps2 outputs3 i4
  partial_fixpoint
def Dy (p : K0) (l : List D0) (n : Int) (steps3 : Int) (outputs4 : Int) (i5 : Int) : Option (Int × Int) :=
  B1g steps3 >>= fun x9 =>
  B1g outputs4 >>= fun x10 =>
  Xx p l n x9 x10 (IntKind.i64.wrap (i5 + 1))
  partial_fixpoint
end
abbrev N1l (p : K0) (l : List D0) (n : Int) (res : Int × Int) : Prop := S0 C 98 [.agg (K0.cells p), .d (.sl (D0.rows l)), .d (.int .i64 n)] [] (Ret [] (.tup [.d (.int .i64 res.1), .d (.int .i64 res.2)]))
abbrev E1e (p : K0) (l : List D0) (n : Int) (steps4 : Int) (outputs5 : Int) (i : Int) (res : Int × Int) : Prop := LM C 135 0 Tryz.f98 [1, 1, 1, 0, 1, 4] [(1, .d (.sl (D0.rows l))), (2, .d (.int .i64 n)), (3, .ref 0 0), (8, .d (.int .i64 steps4)), (9, .d (.int .i64 outputs5)), (10, .d (.int .i64 i))] [.row (K0.cells p) 25] (Ret [] (.tup [.d (.int .i64 res.1), .d (.int .i64 res.2)]))
abbrev F1e (p : K0) (l : List D0) (n : Int) (x1 : D0) (steps5 : Int) (outputs : Int) (i1 : Int) (x2 : Int × Int) (x3 : Int × Int) (res : Int × Int) : Prop := JM C 135 0 Tryz.f98 [1, 1, 1, 0, 1, 4, 5, 1, 0, 4, 1, 1, 1, 1, 1] [(1, .d (.sl (D0.rows l))), (2, .d (.int .i64 n)), (3, .ref 0 0), (8, .d (.int .i64 steps5)), (9, .d (.int .i64 outputs)), (10, .d (.int .i64 i1)), (11, .ref 1 0), (12, .d (.int .i64 x2.1)), (13, .d (.int .i64 x2.2)), (14, .d (.int .i64 x3.1)), (15, .d (.int .i64 x3.2))] [.row (K0.cells p) 25, .row (D0.cells x1) 53] (Ret [] (.tup [.d (.int .i64 res.1), .d (.int .i64 res.2)]))
abbrev G1e (p : K0) (l : List D0) (n : Int) (x1 : D0) (steps : Int) (outputs1 : Int) (i2 : Int) (x2 : Int × Int) (res : Int × Int) : Prop := JM C 135 0 Tryz.f98 [1, 1, 1, 0, 1, 4, 5, 1, 0, 4, 1, 1, 1, 1, 1, 1] [(1, .d (.sl (D0.rows l))), (2, .d (.int .i64 n)), (3, .ref 0 0), (8, .d (.int .i64 steps)), (9, .d (.int .i64 outputs1)), (10, .d (.int .i64 i2)), (11, .ref 1 0), (12, .d (.int .i64 x2.1)), (13, .d (.int .i64 x2.2))] [.row (K0.cells p) 25, .row (D0.cells x1) 53] (Ret [] (.tup [.d (.int .i64 res.1), .d (.int .i64 res.2)]))
abbrev H1e (p : K0) (l : List D0) (n : Int) (x1 : D0) (steps1 : Int) (outputs2 : Int) (i3 : Int) (x2 : Int × Int) (res : Int × Int) : Prop := JM C 135 0 Tryz.f98 [1, 1, 1, 0, 1, 4, 5, 1, 0, 4, 1, 1, 1, 1, 1, 1, 1] [(1, .d (.sl (D0.rows l))), (2, .d (.int .i64 n)), (3, .ref 0 0), (8, .d (.int .i64 steps1)), (9, .d (.int .i64 outputs2)), (10, .d (.int .i64 i3)), (11, .ref 1 0), (12, .d (.int .i64 x2.1)), (13, .d (.int .i64 x2.2))] [.row (K0.cells p) 25, .row (D0.cells x1) 53] (Ret [] (.tup [.d (.int .i64 res.1), .d (.int .i64 res.2)]))
abbrev I1e (p : K0) (l : List D0) (n : Int) (x1 : D0) (steps2 : Int) (outputs3 : Int) (i4 : Int) (res : Int × Int) : Prop := JM C 135 0 Tryz.f98 [1, 1, 1, 0, 1, 4, 5, 1, 0, 4, 1, 1, 1, 1, 1, 1, 1, 1] [(1, .d (.sl (D0.rows l))), (2, .d (.int .i64 n)), (3, .ref 0 0), (8, .d (.int .i64 steps2)), (9, .d (.int .i64 outputs3)), (10, .d (.int .i64 i4)), (11, .ref 1 0)] [.row (K0.cells p) 25, .row (D0.cells x1) 53] (Ret [] (.tup [.d (.int .i64 res.1), .d (.int .i64 res.2)]))
abbrev J1e (p : K0) (l : List D0) (n : Int) (steps3 : Int) (outputs4 : Int) (i5 : Int) (res : Int × Int) : Prop := JM C 135 0 Tryz.f98 [1, 1, 1, 0, 1, 4, 5, 1, 0, 4, 1, 1, 1, 1, 1, 1, 1, 1, 1] [(1, .d (.sl (D0.rows l))), (2, .d (.int .i64 n)), (3, .ref 0 0), (8, .d (.int .i64 steps3)), (9, .d (.int .i64 outputs4)), (10, .d (.int .i64 i5))] [.row (K0.cells p) 25] (Ret [] (.tup [.d (.int .i64 res.1), .d (.int .i64 res.2)]))
theorem Ci (p : K0) : (∀ l n res, Ik p l n = some res → N1l p l n res) ∧ (∀ l n steps4 outputs5 i res, Xx p l n steps4 outputs5 i = some res → E1e p l n steps4 outputs5 i res) ∧ (∀ l n x1 steps5 outputs i1 x2 x3 res, Yx p l n x1 steps5 outputs i1 x2 x3 = some res → F1e p l n x1 steps5 outputs i1 x2 x3 res) ∧ (∀ l n x1 steps outputs1 i2 x2 res, Zx p l n x1 steps outputs1 i2 x2 = some res → G1e p l n x1 steps outputs1 i2 x2 res) ∧ (∀ l n x1 steps1 outputs2 i3 x2 res, Ay p l n x1 steps1 outputs2 i3 x2 = some res → H1e p l n x1 steps1 outputs2 i3 x2 res) ∧ (∀ l n x1 steps2 outputs3 i4 res, Cy p l n x1 steps2 outputs3 i4 = some res → I1e p l n x1 steps2 outputs3 i4 res) ∧ (∀ l n steps3 outputs4 i5 res, Dy p l n steps3 outputs4 i5 = some res → J1e p l n steps3 outputs4 i5 res) := by
  refine Ik.mutual_partial_correctness p _ _ _ _ _ _ _ ?_ ?_ ?_ ?_ ?_ ?_ ?_
  · intro g1 ih1 l n res hh
    exact S0.intro hC Tryz.func98 rfl rfl rfl (s' rfl rfl (I0.n hC rfl (e' rfl (t' rfl (t' rfl (S' (t' rfl (bk' (fw' (ih1 _ _ _ _ _ _ hh) rfl rfl rfl)))))))))
  · intro g0 g2 ih0 ih2 l n steps4 outputs5 i res hh
    refine Z0.unroll (S' (p' 2 rfl (qe' rfl trivial (D0.lenA _) (e' rfl (ci' rfl hh (fun hh => ?_) (fun hh => ?_))))))
    · obtain ⟨x1, hx1, hh⟩ := bs' hh
      obtain ⟨x2, hx2, hh⟩ := bs' hh
      obtain ⟨x3, hx3, hh⟩ := bs' hh
      refine sk' (S' (bk' (p' 2 rfl (i' rfl (W0 hx1) (D0.idx hx1) rfl (q' rfl (I0.nf hC rfl (I0.s hC rfl (n' (p' 4 rfl (c' (ih0 _ _ _ hx2) rfl rfl (e' rfl (p' 4 rfl (c' (ih0 _ _ _ hx3) rfl rfl ?_)))))))))))))
      refine e' rfl (t' rfl (S' (t' rfl (ci' rfl hh (fun hh => ?_) (fun hh => ?_)))))
      · exact T' rfl (ew' (ih2 _ _ _ _ _ _ _ _ _ hh) rfl rfl rfl)
      exact sk' (ew' (ih2 _ _ _ _ _ _ _ _ _ hh) rfl rfl rfl)
    cases hh
    exact ex' (t' rfl (re' (rt' rfl rfl rfl)))
  · intro g3 ih3 l n x1 steps5 outputs i1 x2 x3 res hh
    refine S' (t' rfl (ci' rfl hh (fun hh => ?_) (fun hh => ?_)))
    · obtain ⟨x4, hx4, hh⟩ := bs' hh
      obtain ⟨x5, hx5, hh⟩ := bs' hh
      exact p' 3 rfl (c' (Ac hx4) rfl rfl (e' rfl (P' 3 rfl (c' (Ac hx5) rfl rfl (e' rfl (ew' (ih3 _ _ _ _ _ _ _ _ hh) rfl rfl rfl))))))
    exact sk' (ew' (ih3 _ _ _ _ _ _ _ _ hh) rfl rfl rfl)
  · intro g4 ih4 l n x1 steps outputs1 i2 x2 res hh
    refine S' (t' rfl (ci' rfl hh (fun hh => ?_) (fun hh => ?_)))
    · exact t' rfl (T' rfl (ew' (ih4 _ _ _ _ _ _ _ _ hh) rfl rfl rfl))
    exact sk' (ew' (ih4 _ _ _ _ _ _ _ _ hh) rfl rfl rfl)
  · intro g5 ih5 l n x1 steps1 outputs2 i3 x2 res hh
    refine S' (t' rfl (ci' rfl hh (fun hh => ?_) (fun hh => ?_)))
    · exact t' rfl (T' rfl (ew' (ih5 _ _ _ _ _ _ _ hh) rfl rfl rfl))
    exact sk' (ew' (ih5 _ _ _ _ _ _ _ hh) rfl rfl rfl)
  · intro g0 g6 ih0 ih6 l n x1 steps2 outputs3 i4 res hh
    refine S' (t' rfl (ci' rfl hh (fun hh => ?_) (fun hh => ?_)))
    · obtain ⟨x6, hx6, hh⟩ := bs' hh
      obtain ⟨x7, hx7, hh⟩ := bs' hh
      obtain ⟨x8, hx8, hh⟩ := bs' hh
      exact p' 4 rfl (c' (Sy hx6) rfl rfl (e' rfl (S' (AEx.draw hC 14 rfl rfl rfl (O' 4 rfl (AQ.i hC rfl (W0 hx7) (B0.idx hx7) rfl (O' 3 rfl (Qc' (ih0 _ _ _ hx8) rfl rfl (E' rfl (n' (t' rfl (T' rfl (ew' (ih6 _ _ _ _ _ _ hh) rfl rfl rfl)))))))))))))
    exact sk' (ew' (ih6 _ _ _ _ _ _ hh) rfl rfl rfl)
  · intro g1 ih1 l n steps3 outputs4 i5 res hh
    obtain ⟨x9, hx9, hh⟩ := bs' hh
    obtain ⟨x10, hx10, hh⟩ := bs' hh
    exact p' 1 rfl (c' (I1o hx9) rfl rfl (e' rfl (P' 1 rfl (c' (I1o hx10) rfl rfl (e' rfl (T' rfl (lw' (ih1 _ _ _ _ _ _ hh) rfl rfl rfl)))))))
theorem V16 {p l n res} (hh : Ik p l n = some res) : N1l p l n res := (Ci p).1 _ _ _ hh
theorem G2e {p l n steps4 outputs5 i res} (hh : Xx p l n steps4 outputs5 i = some res) : E1e p l n steps4 outputs5 i res := (Ci p).2.1 _ _ _ _ _ _ hh
theorem H2e {p l n x1 steps5 outputs i1 x2 x3 res} (hh : Yx p l n x1 steps5 outputs i1 x2 x3 = some res) : F1e p l n x1 steps5 outputs i1 x2 x3 res := (Ci p).2.2.1 _ _ _ _ _ _ _ _ _ hh
theorem I2e {p l n x1 steps outputs1 i2 x2 res} (hh : Zx p l n x1 steps outputs1 i2 x2 = some res) : G1e p l n x1 steps outputs1 i2 x2 res := (Ci p).2.2.2.1 _ _ _ _ _ _ _ _ hh
theorem J2e {p l n x1 steps1 outputs2 i3 x2 res} (hh : Ay p l n x1 steps1 outputs2 i3 x2 = some res) : H1e p l n x1 steps1 outputs2 i3 x2 res := (Ci p).2.2.2.2.1 _ _ _ _ _ _ _ _ hh
theorem K2e {p l n x1 steps2 outputs3 i4 res} (hh : Cy p l n x1 steps2 outputs3 i4 = some res) : I1e p l n x1 steps2 outputs3 i4 res := (Ci p).2.2.2.2.2.1 _ _ _ _ _ _ _ hh
theorem L2e {p l n steps3 outputs4 i5 res} (hh : Dy p l n steps3 outputs4 i5 = some res) : J1e p l n steps3 outputs4 i5 res := (Ci p).2.2.2.2.2.2 _ _ _ _ _ _ hh
def Zu (Body : List D0) : Option (Int × Int) :=
  Ik (K0.mk [] []) Body 0 >>= fun x1 =>
  some (x1.1, x1.2)
theorem W1g {Body res} (hh : Zu Body = some res) : LM C 56 0 Tryz.f46 [1, 1, 0, 1, 4] [(1, .ref 0 0), (4, .ref 2 0), (5, .d (.int .i64 0))] [.row [.d (.sl (B0.rows [])), .d (.sl (D0.rows Body))] 25, .tok 59 17, .row [.osl 1 (B0.rows []), .d (.sl (D0.rows []))] 25] (Ret [] (.tup [.d (.int .i64 res.1), .d (.int .i64 res.2)])) := by
  unfold Zu at hh
  obtain ⟨x1, hx1, hh⟩ := bs' hh
  cases hh
  exact Z0.unroll (S' (t' rfl (AEx.cond_false rfl (ex' (p' 6 rfl (I0.cl rfl (V16 hx1) ⟨(.aggL ⟨.osl, ⟨.rfl, trivial⟩⟩), ⟨.rfl, ⟨.rfl, trivial⟩⟩⟩ rfl (e' rfl (re' (rt' rfl rfl rfl)))))))))
def O10 (Body : List D0) : Option (Int × Int) :=
  if (decide ((0 + 0) * 257 ≤ 140737488355328)) = true then
    Zu Body
  else none
theorem H1m {Body res} (hh : O10 Body = some res) : S0 C 46 [.agg [.d (.sl (B0.rows [])), .d (.sl (D0.rows Body))]] [] (Ret [] (.tup [.d (.int .i64 res.1), .d (.int .i64 res.2)])) := by
  unfold O10 at hh
  obtain ⟨c3, hh⟩ := U1 hh
  refine S0.intro hC Tryz.func46 rfl rfl rfl (s' rfl rfl (I0.n hC rfl (e' rfl (s' rfl rfl (I0.be hC rfl (B0.rows_map []).symm (o' 2 rfl (I0.ap hC rfl (rs := B0.rows []) rfl (B0.sz []) (B0.sz []) (V6 (B0.len []) (B0.len []) c3) (q' rfl (I0.nf hC rfl (I0.s hC rfl (n' (S' (t' rfl ?_)))))))))))))
  exact bk' (fw' (W1g hh) rfl rfl rfl)
def El (x1 : Int) (out1 : List D0) (i1 : Int) : Option (List D0) :=
  if (decide (i1 < x1)) = true then
    if (decide ((out1.length + 1) * 257 ≤ 140737488355328)) = true then
      El x1 (out1 ++ [(D0.mk 4 (C0.mk 0 0 [] []) (C0.mk 0 0 [] []) [] [] 0 0 0 [] [] [])]) (IntKind.i64.wrap (i1 + 1))
    else none
  else
    some out1
  partial_fixpoint
abbrev U13 (x1 : Int) (out1 : List D0) (i1 : Int) (res : List D0) : Prop := LM C 33 0 Tryz.f99 [1, 1, 1, 1, 1, 0, 1, 4] [(0, .d (.int .i64 x1)), (5, .osl 0 (D0.rows out1)), (7, .d (.int .i64 i1))] [.tok 53 17] (Ret [] (.d (.sl (D0.rows res))))
theorem X1g (x1 : Int) : (∀ out1 i1 res, El x1 out1 i1 = some res → U13 x1 out1 i1 res) := by
  refine El.partial_correctness x1 _ ?_
  · intro g0 ih0 out1 i1 res hh
    refine Z0.unroll (S' (t' rfl (ci' rfl hh (fun hh => ?_) (fun hh => ?_))))
    · obtain ⟨c10, hh⟩ := U1 hh
      refine sk' (S' (bk' (P' 2 rfl (I0.be hC rfl (D0.rows_map [(D0.mk 4 (C0.mk 0 0 [] []) (C0.mk 0 0 [] []) [] [] 0 0 0 [] [] [])]).symm ?_))))
      refine I0.ap hC rfl (rs := D0.rows (out1 ++ [(D0.mk 4 (C0.mk 0 0 [] []) (C0.mk 0 0 [] []) [] [] 0 0 0 [] [] [])])) (D0.app out1 [(D0.mk 4 (C0.mk 0 0 [] []) (C0.mk 0 0 [] []) [] [] 0 0 0 [] [] [])]) (D0.sz out1) (D0.sz [(D0.mk 4 (C0.mk 0 0 [] []) (C0.mk 0 0 [] []) [] [] 0 0 0 [] [] [])]) (V6 (D0.len out1) (D0.len [(D0.mk 4 (C0.mk 0 0 [] []) (C0.mk 0 0 [] []) [] [] 0 0 0 [] [] [])]) c10) ?_
      exact e' rfl (T' rfl (lw' (ih0 _ _ _ hh) rfl rfl rfl))
    refine ex' (t' rfl (re' ?_))
    obtain rfl := oi' hh
    exact ⟨_, .d (.sl (D0.rows out1)), [], rfl, .osl, trivial, rfl, rfl, rfl, rfl⟩
theorem A1j {x1 out1 i1 res} (hh : El x1 out1 i1 = some res) : U13 x1 out1 i1 res := (X1g x1) _ _ _ hh
end Go.Proofs.YtdkabnfphmmmnaaGreatDoor

set_option maxRecDepth 100000
set_option maxHeartbeats 4000000
set_option synthInstance.maxSize 2000
set_option linter.unusedVariables false
namespace Go.Proofs.YtdkabnfphmmmnaaGreatDoor
open Go.Am
def Fl (x1 : Int) (x2 : Int) (out : List D0) (i : Int) : Option (List D0) :=
  if (decide (i < x2)) = true then
    if (decide ((out.length + 1) * 257 ≤ 140737488355328)) = true then
      Fl x1 x2 (out ++ [(D0.mk 3 (C0.mk 0 0 [] []) (C0.mk 0 0 [] []) [] [] 0 0 0 [] [] [])]) (IntKind.i64.wrap (i + 1))
    else none
  else
    El x1 out x2
  partial_fixpoint
abbrev V13 (x1 : Int) (x2 : Int) (out : List D0) (i : Int) (res : List D0) : Prop := LM C 33 0 Tryz.f99 [1, 1, 1, 1, 0, 1, 4] [(0, .d (.int .i64 x1)), (1, .d (.int .i64 x2)), (5, .osl 0 (D0.rows out)), (6, .d (.int .i64 i))] [.tok 53 17] (Ret [] (.d (.sl (D0.rows res))))
theorem Y1g (x1 : Int) (x2 : Int) : (∀ out i res, Fl x1 x2 out i = some res → V13 x1 x2 out i res) := by
  refine Fl.partial_correctness x1 x2 _ ?_
  · intro g0 ih0 out i res hh
    refine Z0.unroll (S' (t' rfl (ci' rfl hh (fun hh => ?_) (fun hh => ?_))))
    · obtain ⟨c9, hh⟩ := U1 hh
      refine sk' (S' (bk' (P' 2 rfl (I0.be hC rfl (D0.rows_map [(D0.mk 3 (C0.mk 0 0 [] []) (C0.mk 0 0 [] []) [] [] 0 0 0 [] [] [])]).symm ?_))))
      refine I0.ap hC rfl (rs := D0.rows (out ++ [(D0.mk 3 (C0.mk 0 0 [] []) (C0.mk 0 0 [] []) [] [] 0 0 0 [] [] [])])) (D0.app out [(D0.mk 3 (C0.mk 0 0 [] []) (C0.mk 0 0 [] []) [] [] 0 0 0 [] [] [])]) (D0.sz out) (D0.sz [(D0.mk 3 (C0.mk 0 0 [] []) (C0.mk 0 0 [] []) [] [] 0 0 0 [] [] [])]) (V6 (D0.len out) (D0.len [(D0.mk 3 (C0.mk 0 0 [] []) (C0.mk 0 0 [] []) [] [] 0 0 0 [] [] [])]) c9) ?_
      exact e' rfl (T' rfl (lw' (ih0 _ _ _ hh) rfl rfl rfl))
    exact ex' (S' (t' rfl (bk' (fw' (A1j hh) rfl rfl rfl))))
theorem B1j {x1 x2 out i res} (hh : Fl x1 x2 out i = some res) : V13 x1 x2 out i res := (Y1g x1 x2) _ _ _ hh
def W13 (a : Int) (b : Int) : Option (List D0) :=
  Ea a 4097 >>= fun x1 =>
  Ea b 9 >>= fun x2 =>
  Fl x1 x2 [] 0
theorem J1o {a b res} (hh : W13 a b = some res) : S0 C 99 [.d (.int .i64 a), .d (.int .i64 b)] [] (Ret [] (.d (.sl (D0.rows res)))) := by
  unfold W13 at hh
  obtain ⟨x1, hx1, hh⟩ := bs' hh
  obtain ⟨x2, hx2, hh⟩ := bs' hh
  refine S0.intro hC Tryz.func99 rfl rfl rfl (t' rfl (p' 1 rfl (c' (M8 hx1) rfl rfl (e' rfl (p' 1 rfl (c' (M8 hx2) rfl rfl (e' rfl (s' rfl rfl (I0.be hC rfl (D0.rows_map []).symm (I0.tokE 12 53 17 rfl (e' rfl (S' (t' rfl ?_)))))))))))))
  exact bk' (fw' (B1j hh) rfl rfl rfl)
def Wf (p : K0) (a1 : List B0) (i : Int) : Option (Int × Int) :=
  if (decide (i < (((p.Decls).length : Int).toNat : Int))) = true then
    if (decide (0 ≤ i ∧ i < (((p.Decls).length : Int).toNat : Int))) = true then
      a1[i.toNat]? >>= fun x1 =>
      if (x1.Kind == 6) = true then
        if (decide (0 ≤ i ∧ i < (((p.Decls).length : Int).toNat : Int))) = true then
          a1[i.toNat]? >>= fun x2 =>
          if (decide (a1.length = ((p.Decls).length : Int).toNat)) = true then
            Ik (K0.mk a1 []) x2.Body i >>= fun x3 =>
            W13 x3.1 x3.2 >>= fun x4 =>
            if (decide (0 ≤ i ∧ i < (((p.Decls).length : Int).toNat : Int))) = true then
              a1[i.toNat]? >>= fun x5 =>
              Wf p (a1.set i.toNat (B0.mk x5.Kind x5.Name x5.TypeV x5.Init x5.Value x5.Params x5.Vars x4)) (IntKind.i64.wrap (i + 1))
            else none
          else none
        else none
      else
        Wf p a1 (IntKind.i64.wrap (i + 1))
    else none
  else
    if (decide (a1.length = ((p.Decls).length : Int).toNat)) = true then
      Ik (K0.mk a1 []) p.Body (((p.Decls).length : Int).toNat : Int) >>= fun x6 =>
      some (x6.1, x6.2)
    else none
  partial_fixpoint
abbrev I11 (p : K0) (a1 : List B0) (i : Int) (res : Int × Int) : Prop := LM C 56 0 Tryz.f46 [1, 1, 0, 1, 4] [(1, .ref 0 0), (4, .ref 2 0), (5, .d (.int .i64 i))] [.row (K0.cells p) 25, .row (B0.flat a1) 59, .row [.rsl 1 0 ((p.Decls).length : Int).toNat ((p.Decls).length : Int).toNat, .d (.sl (D0.rows []))] 25] (Ret [] (.tup [.d (.int .i64 res.1), .d (.int .i64 res.2)]))
theorem X1e (p : K0) : (∀ a1 i res, Wf p a1 i = some res → I11 p a1 i res) := by
  refine Wf.partial_correctness p _ ?_
  · intro g0 ih0 a1 i res hh
    refine Z0.unroll (S' (t' rfl (ci' rfl hh (fun hh => ?_) (fun hh => ?_))))
    · obtain ⟨c19, hh⟩ := U1 hh
      obtain ⟨x1, hx1, hh⟩ := bs' hh
      refine sk' (S' (bk' (p' 3 rfl (qc' rfl c19 (q' rfl (I0.ld hC rfl (B0.flat_get hx1 rfl) (e' rfl (ci' rfl hh (fun hh => ?_) (fun hh => ?_)))))))))
      · obtain ⟨c20, hh⟩ := U1 hh
        obtain ⟨x2, hx2, hh⟩ := bs' hh
        obtain ⟨c21, hh⟩ := U1 hh
        obtain ⟨x3, hx3, hh⟩ := bs' hh
        obtain ⟨x4, hx4, hh⟩ := bs' hh
        obtain ⟨c22, hh⟩ := U1 hh
        obtain ⟨x5, hx5, hh⟩ := bs' hh
        refine S' (AEx.draw hC 14 rfl rfl rfl (O' 4 rfl (AQ.q hC rfl c20 (Q' rfl (AQ.ld hC rfl (B0.flat_get hx2 rfl) (Q' rfl (AQ.cv 1 (rows := B0.rows a1) rfl rfl rfl (B0.sz _) ((B0.len _).trans c21) (by exact ⟨(.aggL ⟨.rsl, ⟨.rfl, trivial⟩⟩), ⟨.rfl, ⟨.rfl, trivial⟩⟩⟩) (V16 hx3) rfl rfl (E' rfl (n' (AEx.draw hC 8 rfl rfl rfl (O' 5 rfl (Qc' (J1o hx4) rfl rfl (AQ.q hC rfl c22 ?_)))))))))))))
        refine E' rfl (I0.sx hC rfl (B0.flat_lt hx5 (by decide)) (B0.flat_set (y := (B0.mk x5.Kind x5.Name x5.TypeV x5.Init x5.Value x5.Params x5.Vars x4)) hx5 (by decide) rfl) rfl (n' (T' rfl ?_)))
        refine Z0.wk ?_ (ih0 _ _ _ hh)
        exact ⟨⟨⟨.rfl, rfl⟩, ⟨⟨.rfl, rfl⟩, ⟨⟨.rfl, rfl⟩, trivial⟩⟩⟩, ⟨⟨rfl, .refl _, rfl⟩, ⟨⟨rfl, .refl _, K1f _ _ _⟩, ⟨⟨rfl, .refl _, rfl⟩, trivial⟩⟩⟩, rfl⟩
      refine sk' (T' rfl ?_)
      refine Z0.wk ?_ (ih0 _ _ _ hh)
      exact ⟨⟨⟨.rfl, rfl⟩, ⟨⟨.rfl, rfl⟩, ⟨⟨.rfl, rfl⟩, trivial⟩⟩⟩, ⟨⟨rfl, .refl _, rfl⟩, ⟨⟨rfl, .refl _, K1f _ _ _⟩, ⟨⟨rfl, .refl _, rfl⟩, trivial⟩⟩⟩, rfl⟩
    obtain ⟨c23, hh⟩ := U1 hh
    obtain ⟨x6, hx6, hh⟩ := bs' hh
    cases hh
    exact ex' (p' 6 rfl (I0.cv 1 (rows := B0.rows a1) rfl rfl rfl (B0.sz _) ((B0.len _).trans c23) (by exact ⟨(.aggL ⟨.rsl, ⟨.rfl, trivial⟩⟩), ⟨.rfl, ⟨.rfl, trivial⟩⟩⟩) (V16 hx6) rfl rfl (e' rfl (re' (rt' rfl rfl rfl)))))
theorem Z1g {p a1 i res} (hh : Wf p a1 i = some res) : I11 p a1 i res := (X1e p) _ _ _ hh
def P10 (p : K0) : Option (Int × Int) :=
  if (decide (0 < p.Decls.length ∧ p.Decls.length * 257 ≤ 140737488355328)) = true then
    Wf p p.Decls 0
  else none
theorem I1m {p res} (hh : P10 p = some res) : S0 C 46 [.agg (K0.cells p)] [] (Ret [] (.tup [.d (.int .i64 res.1), .d (.int .i64 res.2)])) := by
  unfold P10 at hh
  obtain ⟨c18, hh⟩ := U1 hh
  refine S0.intro hC Tryz.func46 rfl rfl rfl (s' rfl rfl (I0.n hC rfl (e' rfl (s' rfl rfl (I0.be hC rfl (B0.rows_map []).symm (o' 2 rfl (I0.an hC rfl (B0.ne c18.1) (B0.sz _) (by rw [B0.len]; exact c18.2) rfl (B0.len _) rfl (q' rfl (I0.nf hC rfl (I0.s hC rfl (n' (S' (t' rfl ?_)))))))))))))
  refine bk' ?_
  refine AEx.ofLoop ?_
  refine Z0.wk ?_ (Z1g hh)
  exact ⟨⟨⟨.rfl, rfl⟩, ⟨⟨.rfl, rfl⟩, ⟨⟨.rfl, rfl⟩, trivial⟩⟩⟩, ⟨⟨rfl, .refl _, rfl⟩, ⟨⟨rfl, .refl _, K1f _ _ _⟩, ⟨⟨rfl, .refl _, rfl⟩, trivial⟩⟩⟩, rfl⟩
def D1a (p : K0) : Option (Int × Int) :=
  if p.Decls.isEmpty = true then
    O10 p.Body >>= fun x1 =>
    some x1
  else
    P10 p >>= fun x1 =>
    some x1
theorem U1s {p res} (hh : D1a p = some res) : S0 C 46 [.agg (K0.cells p)] [] (Ret [] (.tup [.d (.int .i64 res.1), .d (.int .i64 res.2)])) := by
  unfold D1a at hh
  split at hh
  · rename_i he
    obtain ⟨x1, hx1, hh⟩ := bs' hh
    cases hh
    cases p
    rename_i ds _
    cases ds with
    | nil => exact H1m hx1
    | cons _ _ => cases he
  · obtain ⟨x1, hx1, hh⟩ := bs' hh
    cases hh
    exact I1m hx1
mutual
def Vl (p : K0) (scalars1 : Int) (hatches1 : Int) (secrets1 : Int) (publics1 : Int) (randoms : Int) (i : Int) : Option Bool :=
  if (decide (i < ((p.Decls).length : Int))) = true then
    idx p.Decls i >>= fun x1 =>
    Zh p i x1.TypeV >>= fun x2 =>
    Du x1 >>= fun x3 =>
    if (bif x3 then true else (x1.Kind == 4)) = true then
      Np x2.1 >>= fun x4 =>
      Nv p x1 x2 (IntKind.i64.wrap (scalars1 + ((x4.1).length : Int))) hatches1 secrets1 publics1 randoms i
    else
      Nv p x1 x2 scalars1 hatches1 secrets1 publics1 randoms i
  else
    D1a p >>= fun x11 =>
    some (bif (bif (bif (bif (bif (bif (decide (scalars1 ≤ 64)) then (decide (hatches1 ≤ 8)) else false) then (decide (secrets1 ≤ 4096)) else false) then (decide (publics1 ≤ 4096)) else false) then (decide (randoms ≤ 256)) else false) then (decide (x11.1 ≤ 4096)) else false) then (decide (x11.2 ≤ 8)) else false)
  partial_fixpoint
def Nv (p : K0) (x1 : B0) (x2 : A0 × Int) (scalars : Int) (hatches2 : Int) (secrets2 : Int) (publics2 : Int) (randoms1 : Int) (i1 : Int) : Option Bool :=
  if (x1.Kind == 5) = true then
    Ov p x1 x2 scalars (IntKind.i64.wrap (hatches2 + 1)) secrets2 publics2 randoms1 i1
  else
    Ov p x1 x2 scalars hatches2 secrets2 publics2 randoms1 i1
  partial_fixpoint
def Ov (p : K0) (x1 : B0) (x2 : A0 × Int) (scalars : Int) (hatches : Int) (secrets3 : Int) (publics3 : Int) (randoms2 : Int) (i2 : Int) : Option Bool :=
  if (x1.Kind == 1) = true then
    Bx x2.1 >>= fun x5 =>
    Ea (IntKind.i64.wrap (secrets3 * x5)) 100000 >>= fun x6 =>
    Pv p x1 x2 scalars hatches x6 publics3 randoms2 i2
  else
    Pv p x1 x2 scalars hatches secrets3 publics3 randoms2 i2
  partial_fixpoint
def Pv (p : K0) (x1 : B0) (x2 : A0 × Int) (scalars : Int) (hatches : Int) (secrets : Int) (publics4 : Int) (randoms3 : Int) (i3 : Int) : Option Bool :=
  if (x1.Kind == 2) = true then
    Bx x2.1 >>= fun x7 =>
    Ea (IntKind.i64.wrap (publics4 * x7)) 100000 >>= fun x8 =>
    Qv p x1 x2 scalars hatches secrets x8 randoms3 i3
  else
    Qv p x1 x2 scalars hatches secrets publics4 randoms3 i3
  partial_fixpoint
def Qv (p : K0) (x1 : B0) (x2 : A0 × Int) (scalars : Int) (hatches : Int) (secrets : Int) (publics : Int) (randoms4 : Int) (i4 : Int) : Option Bool :=
  if (x1.Kind == 3) = true then
    Bx x2.1 >>= fun x9 =>
    Ea (IntKind.i64.wrap (randoms4 * x9)) 100000 >>= fun x10 =>
    Vl p scalars hatches secrets publics x10 (IntKind.i64.wrap (i4 + 1))
  else
    Vl p scalars hatches secrets publics randoms4 (IntKind.i64.wrap (i4 + 1))
  partial_fixpoint
end
abbrev J1b (p : K0) (scalars1 : Int) (hatches1 : Int) (secrets1 : Int) (publics1 : Int) (randoms : Int) (i : Int) (res : Bool) : Prop := LM C 112 0 Tryz.f39 [1, 1, 1, 1, 1, 1, 0, 1, 4] [(1, .ref 0 0), (3, .d (.int .i64 scalars1)), (4, .d (.int .i64 hatches1)), (5, .d (.int .i64 secrets1)), (6, .d (.int .i64 publics1)), (7, .d (.int .i64 randoms)), (8, .d (.int .i64 i))] [.row (K0.cells p) 25] (Ret [] (.d (.bool res)))
abbrev K1b (p : K0) (x1 : B0) (x2 : A0 × Int) (scalars : Int) (hatches2 : Int) (secrets2 : Int) (publics2 : Int) (randoms1 : Int) (i1 : Int) (res : Bool) : Prop := JM C 112 0 Tryz.f39 [1, 1, 1, 1, 1, 1, 0, 1, 4, 5, 1, 0, 4, 1, 1, 1] [(1, .ref 0 0), (3, .d (.int .i64 scalars)), (4, .d (.int .i64 hatches2)), (5, .d (.int .i64 secrets2)), (6, .d (.int .i64 publics2)), (7, .d (.int .i64 randoms1)), (8, .d (.int .i64 i1)), (9, .ref 1 0), (10, .ref 2 0)] [.row (K0.cells p) 25, .row (B0.cells x1) 59, .row (A0.cells x2.1) 40] (Ret [] (.d (.bool res)))
abbrev L1b (p : K0) (x1 : B0) (x2 : A0 × Int) (scalars : Int) (hatches : Int) (secrets3 : Int) (publics3 : Int) (randoms2 : Int) (i2 : Int) (res : Bool) : Prop := JM C 112 0 Tryz.f39 [1, 1, 1, 1, 1, 1, 0, 1, 4, 5, 1, 0, 4, 1, 1, 1, 1] [(1, .ref 0 0), (3, .d (.int .i64 scalars)), (4, .d (.int .i64 hatches)), (5, .d (.int .i64 secrets3)), (6, .d (.int .i64 publics3)), (7, .d (.int .i64 randoms2)), (8, .d (.int .i64 i2)), (9, .ref 1 0), (10, .ref 2 0)] [.row (K0.cells p) 25, .row (B0.cells x1) 59, .row (A0.cells x2.1) 40] (Ret [] (.d (.bool res)))
abbrev M1b (p : K0) (x1 : B0) (x2 : A0 × Int) (scalars : Int) (hatches : Int) (secrets : Int) (publics4 : Int) (randoms3 : Int) (i3 : Int) (res : Bool) : Prop := JM C 112 0 Tryz.f39 [1, 1, 1, 1, 1, 1, 0, 1, 4, 5, 1, 0, 4, 1, 1, 1, 1, 1] [(1, .ref 0 0), (3, .d (.int .i64 scalars)), (4, .d (.int .i64 hatches)), (5, .d (.int .i64 secrets)), (6, .d (.int .i64 publics4)), (7, .d (.int .i64 randoms3)), (8, .d (.int .i64 i3)), (9, .ref 1 0), (10, .ref 2 0)] [.row (K0.cells p) 25, .row (B0.cells x1) 59, .row (A0.cells x2.1) 40] (Ret [] (.d (.bool res)))
abbrev N1b (p : K0) (x1 : B0) (x2 : A0 × Int) (scalars : Int) (hatches : Int) (secrets : Int) (publics : Int) (randoms4 : Int) (i4 : Int) (res : Bool) : Prop := JM C 112 0 Tryz.f39 [1, 1, 1, 1, 1, 1, 0, 1, 4, 5, 1, 0, 4, 1, 1, 1, 1, 1, 1] [(1, .ref 0 0), (3, .d (.int .i64 scalars)), (4, .d (.int .i64 hatches)), (5, .d (.int .i64 secrets)), (6, .d (.int .i64 publics)), (7, .d (.int .i64 randoms4)), (8, .d (.int .i64 i4)), (9, .ref 1 0), (10, .ref 2 0)] [.row (K0.cells p) 25, .row (B0.cells x1) 59, .row (A0.cells x2.1) 40] (Ret [] (.d (.bool res)))
theorem Kj (p : K0) : (∀ scalars1 hatches1 secrets1 publics1 randoms i res, Vl p scalars1 hatches1 secrets1 publics1 randoms i = some res → J1b p scalars1 hatches1 secrets1 publics1 randoms i res) ∧ (∀ x1 x2 scalars hatches2 secrets2 publics2 randoms1 i1 res, Nv p x1 x2 scalars hatches2 secrets2 publics2 randoms1 i1 = some res → K1b p x1 x2 scalars hatches2 secrets2 publics2 randoms1 i1 res) ∧ (∀ x1 x2 scalars hatches secrets3 publics3 randoms2 i2 res, Ov p x1 x2 scalars hatches secrets3 publics3 randoms2 i2 = some res → L1b p x1 x2 scalars hatches secrets3 publics3 randoms2 i2 res) ∧ (∀ x1 x2 scalars hatches secrets publics4 randoms3 i3 res, Pv p x1 x2 scalars hatches secrets publics4 randoms3 i3 = some res → M1b p x1 x2 scalars hatches secrets publics4 randoms3 i3 res) ∧ (∀ x1 x2 scalars hatches secrets publics randoms4 i4 res, Qv p x1 x2 scalars hatches secrets publics randoms4 i4 = some res → N1b p x1 x2 scalars hatches secrets publics randoms4 i4 res) := by
  refine Vl.mutual_partial_correctness p _ _ _ _ _ ?_ ?_ ?_ ?_ ?_
  · intro g1 ih1 scalars1 hatches1 secrets1 publics1 randoms i res hh
    refine Z0.unroll (S' (p' 3 rfl (qe' rfl trivial (B0.lenA _) (e' rfl (ci' rfl hh (fun hh => ?_) (fun hh => ?_))))))
    · obtain ⟨x1, hx1, hh⟩ := bs' hh
      obtain ⟨x2, hx2, hh⟩ := bs' hh
      obtain ⟨x3, hx3, hh⟩ := bs' hh
      refine sk' (S' (bk' (p' 3 rfl (i' rfl (W0 hx1) (B0.idx hx1) rfl (q' rfl (I0.nf hC rfl (I0.s hC rfl (n' (p' 4 rfl (c' (Ai hx2) rfl rfl (o' 3 rfl (I0.nf hC rfl (I0.s hC rfl ?_)))))))))))))
      refine e' rfl (S' (sg' 7 rfl (a0' rfl (AG.c rfl rfl (fun _ => trivial) (fun _ => N10 hx3) (G' 2 rfl (a1' rfl (a1' rfl (po' rfl (an' (n' (ci' rfl hh (fun hh => ?_) (fun hh => ?_))))))))))))
      · obtain ⟨x4, hx4, hh⟩ := bs' hh
        exact p' 1 rfl (c' (D1e hx4) rfl rfl (e' rfl (P' 2 rfl (qe' rfl trivial (R0.lenA _) (e' rfl (ew' (ih1 _ _ _ _ _ _ _ _ _ hh) rfl rfl rfl))))))
      exact sk' (ew' (ih1 _ _ _ _ _ _ _ _ _ hh) rfl rfl rfl)
    obtain ⟨x11, hx11, hh⟩ := bs' hh
    cases hh
    refine ex' (p' 1 rfl (c' (U1s hx11) rfl rfl (e' rfl (sg' 27 rfl (G' 4 rfl (a1' rfl (pa' rfl (G' 2 rfl (a1' rfl (pa' rfl (G' 2 rfl (a1' rfl (pa' rfl ?_)))))))))))))
    exact G' 2 rfl (a1' rfl (pa' rfl (G' 2 rfl (a1' rfl (pa' rfl (G' 2 rfl (a1' rfl (pa' rfl (a0' rfl (an' (n' (re' (rt' rfl rfl rfl)))))))))))))
  · intro g2 ih2 x1 x2 scalars hatches2 secrets2 publics2 randoms1 i1 res hh
    refine S' (t' rfl (ci' rfl hh (fun hh => ?_) (fun hh => ?_)))
    · exact T' rfl (ew' (ih2 _ _ _ _ _ _ _ _ _ hh) rfl rfl rfl)
    exact sk' (ew' (ih2 _ _ _ _ _ _ _ _ _ hh) rfl rfl rfl)
  · intro g3 ih3 x1 x2 scalars hatches secrets3 publics3 randoms2 i2 res hh
    refine S' (t' rfl (ci' rfl hh (fun hh => ?_) (fun hh => ?_)))
    · obtain ⟨x5, hx5, hh⟩ := bs' hh
      obtain ⟨x6, hx6, hh⟩ := bs' hh
      exact P' 2 rfl (c' (T13 hx5) rfl rfl (q' rfl (c' (M8 hx6) rfl rfl (e' rfl (ew' (ih3 _ _ _ _ _ _ _ _ _ hh) rfl rfl rfl)))))
    exact sk' (ew' (ih3 _ _ _ _ _ _ _ _ _ hh) rfl rfl rfl)
  · intro g4 ih4 x1 x2 scalars hatches secrets publics4 randoms3 i3 res hh
    refine S' (t' rfl (ci' rfl hh (fun hh => ?_) (fun hh => ?_)))
    · obtain ⟨x7, hx7, hh⟩ := bs' hh
      obtain ⟨x8, hx8, hh⟩ := bs' hh
      exact P' 2 rfl (c' (T13 hx7) rfl rfl (q' rfl (c' (M8 hx8) rfl rfl (e' rfl (ew' (ih4 _ _ _ _ _ _ _ _ _ hh) rfl rfl rfl)))))
    exact sk' (ew' (ih4 _ _ _ _ _ _ _ _ _ hh) rfl rfl rfl)
  · intro g0 ih0 x1 x2 scalars hatches secrets publics randoms4 i4 res hh
    refine t' rfl (ci' rfl hh (fun hh => ?_) (fun hh => ?_))
    · obtain ⟨x9, hx9, hh⟩ := bs' hh
      obtain ⟨x10, hx10, hh⟩ := bs' hh
      exact P' 2 rfl (c' (T13 hx9) rfl rfl (q' rfl (c' (M8 hx10) rfl rfl (e' rfl (T' rfl (lw' (ih0 _ _ _ _ _ _ _ hh) rfl rfl rfl))))))
    exact sk' (T' rfl (lw' (ih0 _ _ _ _ _ _ _ hh) rfl rfl rfl))
theorem K1o {p scalars1 hatches1 secrets1 publics1 randoms i res} (hh : Vl p scalars1 hatches1 secrets1 publics1 randoms i = some res) : J1b p scalars1 hatches1 secrets1 publics1 randoms i res := (Kj p).1 _ _ _ _ _ _ _ hh
theorem F2c {p x1 x2 scalars hatches2 secrets2 publics2 randoms1 i1 res} (hh : Nv p x1 x2 scalars hatches2 secrets2 publics2 randoms1 i1 = some res) : K1b p x1 x2 scalars hatches2 secrets2 publics2 randoms1 i1 res := (Kj p).2.1 _ _ _ _ _ _ _ _ _ hh
theorem G2c {p x1 x2 scalars hatches secrets3 publics3 randoms2 i2 res} (hh : Ov p x1 x2 scalars hatches secrets3 publics3 randoms2 i2 = some res) : L1b p x1 x2 scalars hatches secrets3 publics3 randoms2 i2 res := (Kj p).2.2.1 _ _ _ _ _ _ _ _ _ hh
theorem H2c {p x1 x2 scalars hatches secrets publics4 randoms3 i3 res} (hh : Pv p x1 x2 scalars hatches secrets publics4 randoms3 i3 = some res) : M1b p x1 x2 scalars hatches secrets publics4 randoms3 i3 res := (Kj p).2.2.2.1 _ _ _ _ _ _ _ _ _ hh
theorem I2c {p x1 x2 scalars hatches secrets publics randoms4 i4 res} (hh : Qv p x1 x2 scalars hatches secrets publics randoms4 i4 = some res) : N1b p x1 x2 scalars hatches secrets publics randoms4 i4 res := (Kj p).2.2.2.2 _ _ _ _ _ _ _ _ _ hh
def K1e (p : K0) : Option Bool :=
  Vl p 0 0 1 1 1 0
theorem E1v {p res} (hh : K1e p = some res) : S0 C 39 [.agg (K0.cells p)] [] (Ret [] (.d (.bool res))) := by
  unfold K1e at hh
  exact S0.intro hC Tryz.func39 rfl rfl rfl (s' rfl rfl (I0.n hC rfl (e' rfl (t' rfl (t' rfl (t' rfl (t' rfl (t' rfl (S' (t' rfl (bk' (fw' (K1o hh) rfl rfl rfl))))))))))))
def Fs (p : K0) (i : Int) : Option (Int × Int) :=
  if (decide (i < ((p.Decls).length : Int))) = true then
    M1k p i >>= fun x3 =>
    if (x3 != 0) = true then
      some (i, x3)
    else
      Fs p (IntKind.i64.wrap (i + 1))
  else
    N1k p >>= fun x4 =>
    Cn x4 p.Body true >>= fun x5 =>
    if (x5 != 0) = true then
      some ((-1), x5)
    else
      K1e p >>= fun x6 =>
      if (!x6) = true then
        some ((-1), 4)
      else
        some ((-1), 0)
  partial_fixpoint
abbrev L1e (p : K0) (i : Int) (res : Int × Int) : Prop := LM C 42 0 Tryz.f14 [1, 1, 1, 1, 1, 0, 1, 4] [(1, .ref 0 0), (6, .d (.int .i64 i))] [.row (K0.cells p) 25] (Ret [] (.tup [.d (.int .i64 res.1), .d (.int .i64 res.2)]))
theorem L1o (p : K0) : (∀ i res, Fs p i = some res → L1e p i res) := by
  refine Fs.partial_correctness p _ ?_
  · intro g0 ih0 i res hh
    refine Z0.unroll (S' (p' 3 rfl (qe' rfl trivial (B0.lenA _) (e' rfl (ci' rfl hh (fun hh => ?_) (fun hh => ?_))))))
    · obtain ⟨x3, hx3, hh⟩ := bs' hh
      refine sk' (S' (bk' (p' 2 rfl (c' (W1z hx3) rfl rfl (e' rfl (t' rfl (ci' rfl hh (fun hh => ?_) (fun hh => ?_))))))))
      · cases hh
        exact t' rfl (re' (rt' rfl rfl rfl))
      exact sk' (T' rfl (lw' (ih0 _ _ hh) rfl rfl rfl))
    obtain ⟨x4, hx4, hh⟩ := bs' hh
    obtain ⟨x5, hx5, hh⟩ := bs' hh
    refine ex' (S' (AEx.draw hC 6 rfl rfl rfl (Q' rfl (Qc' (X1z hx4) rfl rfl (O' 2 rfl (Qc' (Y1i hx5) rfl rfl (E' rfl (n' (S' (t' rfl (ci' rfl hh (fun hh => ?_) (fun hh => ?_))))))))))))
    · cases hh
      exact t' rfl (re' (rt' rfl rfl rfl))
    obtain ⟨x6, hx6, hh⟩ := bs' hh
    refine sk' (S' (p' 1 rfl (c' (E1v hx6) rfl rfl (e' rfl (ci' rfl hh (fun hh => ?_) (fun hh => ?_))))))
    · cases hh
      exact t' rfl (re' (rt' rfl rfl rfl))
    cases hh
    exact sk' (t' rfl (re' (rt' rfl rfl rfl)))
theorem P1q {p i res} (hh : Fs p i = some res) : L1e p i res := (L1o p) _ _ hh
def R17 (p : K0) : Option (Int × Int) :=
  Qz p >>= fun x1 =>
  if (x1 != 0) = true then
    some ((-1), x1)
  else
    L13 p >>= fun x2 =>
    if (decide (x2 ≥ 0)) = true then
      some (x2, 8)
    else
      Fs p 0
theorem F1x {p res} (hh : R17 p = some res) : S0 C 14 [.agg (K0.cells p)] [] (Ret [] (.tup [.d (.int .i64 res.1), .d (.int .i64 res.2)])) := by
  unfold R17 at hh
  obtain ⟨x1, hx1, hh⟩ := bs' hh
  refine S0.intro hC Tryz.func14 rfl rfl rfl (s' rfl rfl (I0.n hC rfl (e' rfl (p' 1 rfl (c' (Z1w hx1) rfl rfl (e' rfl (S' (t' rfl (ci' rfl hh (fun hh => ?_) (fun hh => ?_))))))))))
  · cases hh
    exact t' rfl (re' (rt' rfl rfl rfl))
  obtain ⟨x2, hx2, hh⟩ := bs' hh
  refine sk' (p' 1 rfl (c' (Z1n hx2) rfl rfl (e' rfl (S' (t' rfl (ci' rfl hh (fun hh => ?_) (fun hh => ?_)))))))
  · cases hh
    exact t' rfl (re' (rt' rfl rfl rfl))
  exact sk' (S' (t' rfl (bk' (fw' (P1q hh) rfl rfl rfl))))
def Gs (p : K0) : Option Bool :=
  Rq >>= fun x1 =>
  if (!x1) = true then
    some false
  else
    Q1n p >>= fun x2 =>
    if (!x2) = true then
      some true
    else
      R8 p >>= fun x3 =>
      R17 p >>= fun x4 =>
      some (bif (x3.1 == x4.1) then (x3.2 == x4.2) else false)
theorem M1e {p res} (hh : Gs p = some res) : S0 C 3 [.agg (K0.cells p)] [] (Ret [] (.d (.bool res))) := by
  unfold Gs at hh
  obtain ⟨x1, hx1, hh⟩ := bs' hh
  refine S0.intro hC Tryz.func3 rfl rfl rfl (s' rfl rfl (I0.n hC rfl (e' rfl (S' (s' rfl rfl (c' (V1w hx1) rfl rfl (e' rfl (ci' rfl hh (fun hh => ?_) (fun hh => ?_)))))))))
  · cases hh
    exact t' rfl (re' (rt' rfl rfl rfl))
  obtain ⟨x2, hx2, hh⟩ := bs' hh
  refine sk' (S' (p' 1 rfl (c' (Q22 hx2) rfl rfl (e' rfl (ci' rfl hh (fun hh => ?_) (fun hh => ?_))))))
  · cases hh
    exact t' rfl (re' (rt' rfl rfl rfl))
  obtain ⟨x3, hx3, hh⟩ := bs' hh
  obtain ⟨x4, hx4, hh⟩ := bs' hh
  cases hh
  refine sk' (p' 1 rfl (c' (Zk hx3) rfl rfl (e' rfl (p' 1 rfl (c' (F1x hx4) rfl rfl (e' rfl (sg' 9 rfl (G' 6 rfl (a2' rfl (pa' rfl (a0' rfl (an' (n' ?_)))))))))))))
  exact re' (rt' rfl rfl rfl)
end Go.Proofs.YtdkabnfphmmmnaaGreatDoor

