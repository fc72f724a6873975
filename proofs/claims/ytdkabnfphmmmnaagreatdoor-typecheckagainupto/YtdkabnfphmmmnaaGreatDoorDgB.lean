/- A part of the proof of TypecheckAgain. -/
import Derived.Test.YtdkabnfphmmmnaaGreatDoorDgA
set_option maxRecDepth 100000
set_option maxHeartbeats 4000000
set_option synthInstance.maxSize 2000
set_option linter.unusedVariables false
namespace Go.Proofs.YtdkabnfphmmmnaaGreatDoor
open Go.Am
def G8 (c : D0) (s : Option I0) (x : F0) : Option Int :=
  S9 s x.Place >>= fun x1 =>
  if (x1.2 != 0) = true then
    some x1.2
  else
    V6 c 6 x.Name c.atV >>= fun x2 =>
    if (decide (x2 < 0)) = true then
      some 7
    else
      idx c.p.Decls x2 >>= fun x3 =>
      if (((x.Args).length : Int) != ((x3.Params).length : Int)) = true then
        some 2
      else
        A3 c s x x1 x3 x2 0
theorem Sy {c s x res} (hh : G8 c s x = some res) : T0 C 114 [.d (.box (D0.row c)), .d (.bxo (I0.opt s)), .agg (F0.cells x)] [] (Ret [] (.d (.int .i64 res))) := by
  unfold G8 at hh
  obtain ⟨x1, hx1, hh⟩ := bs' hh
  refine T0.intro hC Tryz.func114 rfl rfl rfl (s' rfl rfl (L0.n hC rfl (e' rfl (p' 3 rfl (c' (Vn hx1) rfl rfl (o' 3 rfl (L0.nf hC rfl (L0.s hC rfl (e' rfl (S' (t' rfl (ci' rfl hh (fun hh => ?_) (fun hh => ?_)))))))))))))
  · cases hh
    exact t' rfl (re' (rt' rfl rfl rfl))
  obtain ⟨x2, hx2, hh⟩ := bs' hh
  refine sk' (S' (AEx.draw hC 9 rfl rfl rfl (O' 7 rfl (Qc' (Ho hx2) rfl rfl (E' rfl (n' (S' (t' rfl (ci' rfl hh (fun hh => ?_) (fun hh => ?_))))))))))
  · cases hh
    exact t' rfl (re' (rt' rfl rfl rfl))
  obtain ⟨x3, hx3, hh⟩ := bs' hh
  refine sk' (p' 6 rfl (i' rfl (C1 hx3) (E0.idx hx3) rfl (q' rfl (L0.nf hC rfl (L0.s hC rfl (n' (S' (p' 2 rfl (qe' rfl trivial (C0.lenA _) (o' 2 rfl (qe' rfl trivial (E0.lenA _) (e' rfl (ci' rfl hh (fun hh => ?_) (fun hh => ?_))))))))))))))
  · cases hh
    exact t' rfl (re' (rt' rfl rfl rfl))
  refine sk' (S' (p' 2 rfl (qe' rfl trivial (C0.lenA _) (e' rfl (bk' ?_)))))
  refine AEx.ofLoop ?_
  refine A2.wk ?_ (Vv hh)
  exact ⟨⟨⟨.rfl, rfl⟩, ⟨⟨.rfl, rfl⟩, ⟨⟨.rfl, rfl⟩, ⟨⟨.rfl, rfl⟩, ⟨⟨.rfl, rfl⟩, ⟨⟨.rfl, rfl⟩, ⟨⟨.rfl, rfl⟩, ⟨⟨.rfl, rfl⟩, trivial⟩⟩⟩⟩⟩⟩⟩⟩, ⟨trivial, ⟨⟨rfl, .refl _, rfl⟩, ⟨⟨rfl, .refl _, rfl⟩, trivial⟩⟩⟩, rfl⟩
def Q6 (c : D0) (s : Option I0) (x : F0) : Option Int :=
  S9 s x.Place >>= fun x1 =>
  if (x1.2 != 0) = true then
    some x1.2
  else
    if c.localV = true then
      some 15
    else
      V6 c 5 x.Name c.atV >>= fun x2 =>
      if (decide (x2 < 0)) = true then
        some 7
      else
        idx c.p.Decls x2 >>= fun x3 =>
        U2 c x3.TypeV x2 >>= fun x4 =>
        P6 x4 x1.1 false >>= fun x5 =>
        if (!x5) = true then
          some 9
        else
          some 0
theorem Wv {c s x res} (hh : Q6 c s x = some res) : T0 C 115 [.d (.box (D0.row c)), .d (.bxo (I0.opt s)), .agg (F0.cells x)] [] (Ret [] (.d (.int .i64 res))) := by
  unfold Q6 at hh
  obtain ⟨x1, hx1, hh⟩ := bs' hh
  refine T0.intro hC Tryz.func115 rfl rfl rfl (s' rfl rfl (L0.n hC rfl (e' rfl (p' 3 rfl (c' (Vn hx1) rfl rfl (o' 3 rfl (L0.nf hC rfl (L0.s hC rfl (e' rfl (S' (t' rfl (ci' rfl hh (fun hh => ?_) (fun hh => ?_)))))))))))))
  · cases hh
    exact t' rfl (re' (rt' rfl rfl rfl))
  refine sk' (S' (t' rfl (ci' rfl hh (fun hh => ?_) (fun hh => ?_))))
  · cases hh
    exact t' rfl (re' (rt' rfl rfl rfl))
  obtain ⟨x2, hx2, hh⟩ := bs' hh
  refine sk' (S' (AEx.draw hC 9 rfl rfl rfl (O' 7 rfl (Qc' (Ho hx2) rfl rfl (E' rfl (n' (S' (t' rfl (ci' rfl hh (fun hh => ?_) (fun hh => ?_))))))))))
  · cases hh
    exact t' rfl (re' (rt' rfl rfl rfl))
  obtain ⟨x3, hx3, hh⟩ := bs' hh
  obtain ⟨x4, hx4, hh⟩ := bs' hh
  obtain ⟨x5, hx5, hh⟩ := bs' hh
  refine sk' (S' (S' (AEx.draw hC 15 rfl rfl rfl (O' 7 rfl (AQ.i hC rfl (C1 hx3) (E0.idx hx3) rfl (O' 3 rfl (Qc' (L8 hx4) rfl rfl (Q' rfl (Qc' (Uj hx5) rfl rfl (E' rfl (n' (ci' rfl hh (fun hh => ?_) (fun hh => ?_)))))))))))))
  · cases hh
    exact t' rfl (re' (rt' rfl rfl rfl))
  cases hh
  exact sk' (t' rfl (re' (rt' rfl rfl rfl)))
def S8 (s : Option I0) (e : C0) : Option Int :=
  X3 s e >>= fun x1 =>
  if (bif (x1.2 == 0) then (x1.1.Kind != 0) else false) = true then
    some 9
  else
    some x1.2
theorem Cr {s e res} (hh : S8 s e = some res) : T0 C 116 [.d (.bxo (I0.opt s)), .agg (C0.cells e)] [] (Ret [] (.d (.int .i64 res))) := by
  unfold S8 at hh
  obtain ⟨x1, hx1, hh⟩ := bs' hh
  refine T0.intro hC Tryz.func116 rfl rfl rfl (s' rfl rfl (L0.n hC rfl (e' rfl (p' 2 rfl (c' (F1 hx1) rfl rfl (o' 3 rfl (L0.nf hC rfl (L0.s hC rfl (e' rfl (S' (sg' 7 rfl (G' 4 rfl (a1' rfl ?_)))))))))))))
  refine a1' rfl (pa' rfl (an' (n' (ci' rfl hh (fun hh => ?_) (fun hh => ?_)))))
  · cases hh
    exact T' rfl (t' rfl (re' (rt' rfl rfl rfl)))
  cases hh
  exact sk' (t' rfl (re' (rt' rfl rfl rfl)))
def Rc (s : Option I0) (name : Str) : Option Bool :=
  M5 s name >>= fun x1 =>
  some x1.2
theorem N11 {s name res} (hh : Rc s name = some res) : T0 C 184 [.d (.bxo (I0.opt s)), .d (.str name)] [] (Ret [] (.d (.bool res))) := by
  unfold Rc at hh
  obtain ⟨x1, hx1, hh⟩ := bs' hh
  cases hh
  exact T0.intro hC Tryz.func184 rfl rfl rfl (t' rfl (p' 2 rfl (c' (Ai hx1) rfl rfl (o' 3 rfl (L0.nf hC rfl (L0.s hC rfl (e' rfl (t' rfl (re' (rt' rfl rfl rfl))))))))))
mutual
def U1 (c : D0) (s : Option I0) (l : List F0) (top : Bool) : Option Int :=
  H3 c s l top 0
  partial_fixpoint
def H3 (c : D0) (s : Option I0) (l : List F0) (top : Bool) (v14 : Int) : Option Int :=
  if (decide (v14 < ((l).length : Int))) = true then
    idx l v14 >>= fun x1 =>
    X1 c s x1 (bif top then (v14 == (IntKind.i64.wrap (((l).length : Int) - 1))) else false) >>= fun x2 =>
    if (x2 != 0) = true then
      some x2
    else
      H3 c s l top (IntKind.i64.wrap (v14 + 1))
  else
    some 0
  partial_fixpoint
def X1 (c : D0) (s : Option I0) (x : F0) (last : Bool) : Option Int :=
  if (x.Verb == 0) = true then
    S9 s x.Place >>= fun x1 =>
    if (x1.2 != 0) = true then
      some x1.2
    else
      E9 s x.Value x1.1 >>= fun x2 =>
      some x2
  else
    if (x.Verb == 1) = true then
      G8 c s x >>= fun x3 =>
      some x3
    else
      if (x.Verb == 2) = true then
        Q6 c s x >>= fun x4 =>
        some x4
      else
        if (x.Verb == 3) = true then
          X3 s x.Value >>= fun x5 =>
          (if (x5.2 == 0) = true then D6 x5.1 else some default) >>= fun x6 =>
          if (bif (x5.2 == 0) then (!x6) else false) = true then
            some 9
          else
            some x5.2
        else
          if (x.Verb == 5) = true then
            S8 s x.Value >>= fun x7 =>
            if (x7 != 0) = true then
              some x7
            else
              U1 c s x.Then false >>= fun x10 =>
              if (x10 != 0) = true then
                some x10
              else
                U1 c s x.Else false >>= fun x11 =>
                some x11
          else
            if (x.Verb == 6) = true then
              S8 s x.Value >>= fun x8 =>
              if (x8 != 0) = true then
                some x8
              else
                U1 c s x.Then false >>= fun x12 =>
                some x12
            else
              if (x.Verb == 7) = true then
                H8 c s x >>= fun x9 =>
                some x9
              else
                if (x.Verb == 8) = true then
                  if (!last) = true then
                    some 15
                  else
                    some 0
                else
                  some 0
  partial_fixpoint
def H8 (c : D0) (s : Option I0) (x : F0) : Option Int :=
  some (mgt x.Name c.names) >>= fun x1 =>
  (if (!(x1.getD ebool.zero)) = true then Rc s x.Name else some default) >>= fun x2 =>
  if (bif (x1.getD ebool.zero) then true else x2) = true then
    some 8
  else
    O4 s >>= fun x3 =>
    W2 x.Low x.High >>= fun x4 =>
    some (some (I0.mk x3.2 (mpt x.Name (J0.mk x4 true) x3.1))) >>= fun x5 =>
    U1 c x5 x.Then false >>= fun x6 =>
    some x6
  partial_fixpoint
end
abbrev Io (c : D0) (s : Option I0) (l : List F0) (top : Bool) (res : Int) : Prop := T0 C 31 [.d (.box (D0.row c)), .d (.bxo (I0.opt s)), .d (.sl (F0.rows l)), .d (.bool top)] [] (Ret [] (.d (.int .i64 res)))
abbrev Bm (c : D0) (s : Option I0) (l : List F0) (top : Bool) (v14 : Int) (res : Int) : Prop := LM C 35 0 Tryz.f31 [1, 0, 1, 4] [(0, .d (.box (D0.row c))), (1, .d (.bxo (I0.opt s))), (2, .d (.sl (F0.rows l))), (3, .d (.bool top)), (12, .d (.sl (F0.rows l))), (13, .d (.int .i64 ((l).length : Int))), (14, .d (.int .i64 v14))] [] (Ret [] (.d (.int .i64 res)))
abbrev Mp (c : D0) (s : Option I0) (x : F0) (last : Bool) (res : Int) : Prop := T0 C 59 [.d (.box (D0.row c)), .d (.bxo (I0.opt s)), .agg (F0.cells x), .d (.bool last)] [] (Ret [] (.d (.int .i64 res)))
abbrev Np (c : D0) (s : Option I0) (x : F0) (res : Int) : Prop := T0 C 117 [.d (.box (D0.row c)), .d (.bxo (I0.opt s)), .agg (F0.cells x)] [] (Ret [] (.d (.int .i64 res)))
theorem Kc (c : D0) : (∀ s l top res, U1 c s l top = some res → Io c s l top res) ∧ (∀ s l top v14 res, H3 c s l top v14 = some res → Bm c s l top v14 res) ∧ (∀ s x last res, X1 c s x last = some res → Mp c s x last res) ∧ (∀ s x res, H8 c s x = some res → Np c s x res) := by
  refine U1.mutual_partial_correctness c _ _ _ _ ?_ ?_ ?_ ?_
  · intro g1 ih1 s l top res hh
    exact T0.intro hC Tryz.func31 rfl rfl rfl (t' rfl (S' (p' 1 rfl (qe' rfl trivial (F0.lenA _) (e' rfl (bk' (fw' (ih1 _ _ _ _ _ hh) rfl rfl rfl)))))))
  · intro g1 g2 ih1 ih2 s l top v14 res hh
    refine A2.unroll (t' rfl (S' (ci' rfl hh (fun hh => ?_) (fun hh => ?_))))
    · obtain ⟨x1, hx1, hh⟩ := bs' hh
      obtain ⟨x2, hx2, hh⟩ := bs' hh
      refine sk' (S' (bk' (p' 1 rfl (i' rfl (C1 hx1) (F0.idx hx1) rfl (q' rfl (L0.nf hC rfl (q' rfl (L0.s hC rfl (n' (sg' 13 rfl (G' 7 rfl (AG.qe hC rfl (fun hg => ⟨⟨hg, trivial⟩, trivial⟩) (F0.lenA _) (a1' rfl ?_)))))))))))))
      refine a2' rfl (pa' rfl (AG.c rfl rfl (fun _ => trivial) (fun _ => ih2 _ _ _ _ hx2) (a0' rfl (an' (n' (t' rfl (ci' rfl hh (fun hh => ?_) (fun hh => ?_))))))))
      · cases hh
        exact t' rfl (re' (rt' rfl rfl rfl))
      exact sk' (T' rfl (lw' (ih1 _ _ _ _ _ hh) rfl rfl rfl))
    cases hh
    exact ex' (t' rfl (re' (rt' rfl rfl rfl)))
  · intro g0 g3 ih0 ih3 s x last res hh
    refine T0.intro hC Tryz.func59 rfl rfl rfl (s' rfl rfl (L0.n hC rfl (e' rfl (S' (t' rfl (bk' (t' rfl (ci' rfl hh (fun hh => ?_) (fun hh => ?_)))))))))
    · obtain ⟨x1, hx1, hh⟩ := bs' hh
      refine p' 3 rfl (c' (Vn hx1) rfl rfl (o' 3 rfl (L0.nf hC rfl (L0.s hC rfl (e' rfl (S' (t' rfl (ci' rfl hh (fun hh => ?_) (fun hh => ?_)))))))))
      · cases hh
        exact t' rfl (re' (rt' rfl rfl rfl))
      obtain ⟨x2, hx2, hh⟩ := bs' hh
      cases hh
      exact sk' (p' 4 rfl (c' (Kk hx2) rfl rfl (e' rfl (re' (rt' rfl rfl rfl)))))
    refine t' rfl (ci' rfl hh (fun hh => ?_) (fun hh => ?_))
    · obtain ⟨x3, hx3, hh⟩ := bs' hh
      cases hh
      exact p' 3 rfl (c' (Sy hx3) rfl rfl (e' rfl (re' (rt' rfl rfl rfl))))
    refine t' rfl (ci' rfl hh (fun hh => ?_) (fun hh => ?_))
    · obtain ⟨x4, hx4, hh⟩ := bs' hh
      cases hh
      exact p' 3 rfl (c' (Wv hx4) rfl rfl (e' rfl (re' (rt' rfl rfl rfl))))
    refine t' rfl (ci' rfl hh (fun hh => ?_) (fun hh => ?_))
    · obtain ⟨x5, hx5, hh⟩ := bs' hh
      obtain ⟨x6, hx6, hh⟩ := bs' hh
      refine p' 3 rfl (c' (F1 hx5) rfl rfl (o' 3 rfl (L0.nf hC rfl (L0.s hC rfl (e' rfl (S' (sg' 7 rfl (G' 4 rfl (AG.c rfl rfl (fun hg => ⟨hg, trivial⟩) (fun hw => Mj (De hw hx6)) (a1' rfl (pa' rfl (an' (n' (ci' rfl hh (fun hh => ?_) (fun hh => ?_)))))))))))))))
      · cases hh
        exact T' rfl (t' rfl (re' (rt' rfl rfl rfl)))
      cases hh
      exact sk' (t' rfl (re' (rt' rfl rfl rfl)))
    refine t' rfl (ci' rfl hh (fun hh => ?_) (fun hh => ?_))
    · obtain ⟨x7, hx7, hh⟩ := bs' hh
      refine S' (p' 3 rfl (c' (Cr hx7) rfl rfl (e' rfl (t' rfl (ci' rfl hh (fun hh => ?_) (fun hh => ?_))))))
      · cases hh
        exact t' rfl (re' (rt' rfl rfl rfl))
      obtain ⟨x10, hx10, hh⟩ := bs' hh
      refine sk' (S' (p' 4 rfl (c' (ih0 _ _ _ _ hx10) rfl rfl (e' rfl (t' rfl (ci' rfl hh (fun hh => ?_) (fun hh => ?_)))))))
      · cases hh
        exact t' rfl (re' (rt' rfl rfl rfl))
      obtain ⟨x11, hx11, hh⟩ := bs' hh
      cases hh
      exact sk' (p' 4 rfl (c' (ih0 _ _ _ _ hx11) rfl rfl (e' rfl (re' (rt' rfl rfl rfl)))))
    refine t' rfl (ci' rfl hh (fun hh => ?_) (fun hh => ?_))
    · obtain ⟨x8, hx8, hh⟩ := bs' hh
      refine S' (p' 3 rfl (c' (Cr hx8) rfl rfl (e' rfl (t' rfl (ci' rfl hh (fun hh => ?_) (fun hh => ?_))))))
      · cases hh
        exact t' rfl (re' (rt' rfl rfl rfl))
      obtain ⟨x12, hx12, hh⟩ := bs' hh
      cases hh
      exact sk' (p' 4 rfl (c' (ih0 _ _ _ _ hx12) rfl rfl (e' rfl (re' (rt' rfl rfl rfl)))))
    refine t' rfl (ci' rfl hh (fun hh => ?_) (fun hh => ?_))
    · obtain ⟨x9, hx9, hh⟩ := bs' hh
      cases hh
      exact p' 3 rfl (c' (ih3 _ _ _ hx9) rfl rfl (e' rfl (re' (rt' rfl rfl rfl))))
    refine t' rfl (ci' rfl hh (fun hh => ?_) (fun hh => ?_))
    · refine t' rfl (ci' rfl hh (fun hh => ?_) (fun hh => ?_))
      · cases hh
        exact t' rfl (re' (rt' rfl rfl rfl))
      cases hh
      exact sk' (t' rfl (re' (rt' rfl rfl rfl)))
    cases hh
    exact sk' (t' rfl (re' (rt' rfl rfl rfl)))
  · intro g0 ih0 s x res hh
    obtain ⟨x1, hx1, hh⟩ := bs' hh
    obtain ⟨x2, hx2, hh⟩ := bs' hh
    refine T0.intro hC Tryz.func117 rfl rfl rfl (s' rfl rfl (L0.n hC rfl (e' rfl (S' (S' (AEx.drawG hC 13 rfl rfl rfl (G' 6 rfl (AG.fl hC rfl rfl (fun _ => trivial) (fun _ => rfl) (ebool.lk hx1) (G' 3 rfl (a1' rfl (AG.c rfl rfl (fun hg => ⟨hg, hg, trivial⟩) (fun hw => N11 (De hw hx2)) (po' rfl (an' ?_)))))))))))))
    refine n' (ci' rfl hh (fun hh => ?_) (fun hh => ?_))
    · cases hh
      exact t' rfl (re' (rt' rfl rfl rfl))
    obtain ⟨x3, hx3, hh⟩ := bs' hh
    obtain ⟨x4, hx4, hh⟩ := bs' hh
    obtain ⟨x5, hx5, hh⟩ := bs' hh
    obtain ⟨x6, hx6, hh⟩ := bs' hh
    refine sk' (p' 1 rfl (g' [] (Zh hx3) rfl rfl rfl rfl rfl rfl (e' rfl (S' (AEx.draw hC 12 rfl rfl rfl (O' 10 rfl (Qc' (J4 hx4) rfl rfl (E' rfl (L0.ue hC rfl (J0.mput _ (J0.mk x4 true) _) rfl (n' (p' 4 rfl (L0.fm 1 rfl rfl (L0.bx 2 (y := .bxo (I0.opt x5)) (by cases hx5; exact .inr rfl) rfl rfl rfl ?_)))))))))))))
    refine c' (ih0 _ _ _ _ hx6) rfl rfl (e' rfl ?_)
    cases hh
    exact re' (rt' rfl rfl rfl)
theorem Mn {c s l top res} (hh : U1 c s l top = some res) : Io c s l top res := (Kc c).1 _ _ _ _ hh
theorem B1c {c s l top v14 res} (hh : H3 c s l top v14 = some res) : Bm c s l top v14 res := (Kc c).2.1 _ _ _ _ _ hh
theorem B1f {c s x last res} (hh : X1 c s x last = some res) : Mp c s x last res := (Kc c).2.2.1 _ _ _ _ hh
theorem C1f {c s x res} (hh : H8 c s x = some res) : Np c s x res := (Kc c).2.2.2 _ _ _ hh
mutual
def Q1 (c : D0) (i : Int) (result : A0) (x1 : E0) (m21 : List (Str × J0)) (x2 : List (Str × J0) × Option I0) (v34 : Int) : Option Int :=
  if (decide (v34 < (([x1.Params, x1.Vars]).length : Int))) = true then
    idx [x1.Params, x1.Vars] v34 >>= fun x3 =>
    R2 c i result x1 m21 x2 v34 x3 0
  else
    some (D0.mk c.p i true c.names) >>= fun x4 =>
    some (some (I0.mk x2.2 m21)) >>= fun x5 =>
    U1 x4 x5 x1.Body false >>= fun x6 =>
    if (x6 != 0) = true then
      some x6
    else
      E9 x5 x1.Value result >>= fun x7 =>
      some x7
  partial_fixpoint
def R2 (c : D0) (i : Int) (result : A0) (x1 : E0) (m2 : List (Str × J0)) (x2 : List (Str × J0) × Option I0) (v341 : Int) (x3 : List E0) (v40 : Int) : Option Int :=
  if (decide (v40 < ((x3).length : Int))) = true then
    idx x3 v40 >>= fun x8 =>
    Q4 c x8.TypeV i >>= fun x9 =>
    if (x9.2 != 0) = true then
      some x9.2
    else
      R2 c i result x1 (mpt x8.Name (J0.mk x9.1 false) m2) x2 v341 x3 (IntKind.i64.wrap (v40 + 1))
  else
    Q1 c i result x1 m2 x2 (IntKind.i64.wrap (v341 + 1))
  partial_fixpoint
end
abbrev Rj (c : D0) (i : Int) (result : A0) (x1 : E0) (m21 : List (Str × J0)) (x2 : List (Str × J0) × Option I0) (v34 : Int) (res : Int) : Prop := LM C 83 0 Tryz.f58 [1, 1, 1, 1, 0, 1, 4] [(0, .d (.box (D0.row c))), (1, .d (.int .i64 i)), (5, .ref 0 0), (7, .ref 1 0), (9, .ref 3 0), (32, .full (esl_ApiDecl.rows [x1.Params, x1.Vars])), (33, .d (.int .i64 (([x1.Params, x1.Vars]).length : Int))), (34, .d (.int .i64 v34))] [.row (A0.cells result) 40, .row (E0.cells x1) 59, .map (.s (J0.ents m21)), .row [.d (.bxo (I0.opt x2.2)), .mp 2] 110] (Ret [] (.d (.int .i64 res)))
abbrev Sj (c : D0) (i : Int) (result : A0) (x1 : E0) (m2 : List (Str × J0)) (x2 : List (Str × J0) × Option I0) (v341 : Int) (x3 : List E0) (v40 : Int) (res : Int) : Prop := LM C 83 0 Tryz.f58 [1, 1, 1, 1, 0, 1, 4, 5, 1, 1, 0, 4, 1, 1, 4] [(0, .d (.box (D0.row c))), (1, .d (.int .i64 i)), (5, .ref 0 0), (7, .ref 1 0), (9, .ref 3 0), (32, .full (esl_ApiDecl.rows [x1.Params, x1.Vars])), (33, .d (.int .i64 (([x1.Params, x1.Vars]).length : Int))), (34, .d (.int .i64 v341)), (38, .d (.sl (E0.rows x3))), (39, .d (.int .i64 ((x3).length : Int))), (40, .d (.int .i64 v40))] [.row (A0.cells result) 40, .row (E0.cells x1) 59, .map (.s (J0.ents m2)), .row [.d (.bxo (I0.opt x2.2)), .mp 2] 110] (Ret [] (.d (.int .i64 res)))
theorem Ji (c : D0) (i : Int) (result : A0) (x1 : E0) (x2 : List (Str × J0) × Option I0) : (∀ m21 v34 res, Q1 c i result x1 m21 x2 v34 = some res → Rj c i result x1 m21 x2 v34 res) ∧ (∀ m2 v341 x3 v40 res, R2 c i result x1 m2 x2 v341 x3 v40 = some res → Sj c i result x1 m2 x2 v341 x3 v40 res) := by
  refine Q1.mutual_partial_correctness c i result x1 x2 _ _ ?_ ?_
  · intro g1 ih1 m21 v34 res hh
    refine A2.unroll (t' rfl (S' (ci' rfl hh (fun hh => ?_) (fun hh => ?_))))
    · obtain ⟨x3, hx3, hh⟩ := bs' hh
      exact sk' (S' (bk' (s' rfl rfl (i' rfl (C1 hx3) (esl_ApiDecl.idx hx3) rfl (e' rfl (p' 1 rfl (qe' rfl trivial (E0.lenA _) (e' rfl (bk' (fw' (ih1 _ _ _ _ _ hh) rfl rfl rfl))))))))))
    obtain ⟨x4, hx4, hh⟩ := bs' hh
    obtain ⟨x5, hx5, hh⟩ := bs' hh
    obtain ⟨x6, hx6, hh⟩ := bs' hh
    refine ex' (p' 3 rfl (L0.nf hC rfl (L0.s hC rfl (n' (p' 2 rfl (L0.s hC rfl (q' rfl (L0.s hC rfl (n' (S' (p' 3 rfl (L0.bx 4 (y := .box (D0.row x4)) (by cases hx4; exact .inl rfl) rfl rfl rfl (L0.fm 2 rfl rfl ?_)))))))))))))
    refine L0.bx 3 (y := .bxo (I0.opt x5)) (by cases hx5; exact .inr rfl) rfl rfl rfl (c' (Mn hx6) rfl rfl (e' rfl (t' rfl (ci' rfl hh (fun hh => ?_) (fun hh => ?_)))))
    · cases hh
      exact t' rfl (re' (rt' rfl rfl rfl))
    obtain ⟨x7, hx7, hh⟩ := bs' hh
    cases hh
    exact sk' (p' 4 rfl (c' (Kk hx7) rfl rfl (e' rfl (re' (rt' rfl rfl rfl)))))
  · intro g0 g1 ih0 ih1 m2 v341 x3 v40 res hh
    refine A2.unroll (t' rfl (S' (ci' rfl hh (fun hh => ?_) (fun hh => ?_))))
    · obtain ⟨x8, hx8, hh⟩ := bs' hh
      obtain ⟨x9, hx9, hh⟩ := bs' hh
      refine sk' (S' (bk' (s' rfl rfl (i' rfl (C1 hx8) (E0.idx hx8) rfl (q' rfl (L0.nf hC rfl (L0.s hC rfl (n' (p' 4 rfl (c' (Tg hx9) rfl rfl (o' 3 rfl (L0.nf hC rfl (L0.s hC rfl ?_)))))))))))))
      refine e' rfl (S' (t' rfl (ci' rfl hh (fun hh => ?_) (fun hh => ?_))))
      · cases hh
        exact t' rfl (re' (rt' rfl rfl rfl))
      exact sk' (AEx.draw hC 8 rfl rfl rfl (E' rfl (L0.ue hC rfl (J0.mput _ (J0.mk x9.1 false) _) rfl (n' (T' rfl (lw' (ih1 _ _ _ _ _ hh) rfl rfl rfl))))))
    exact ex' (T' rfl (lw' (ih0 _ _ _ hh) rfl rfl rfl))
theorem Yr {c i result x1 m21 x2 v34 res} (hh : Q1 c i result x1 m21 x2 v34 = some res) : Rj c i result x1 m21 x2 v34 res := (Ji c i result x1 x2).1 _ _ _ hh
theorem G19 {c i result x1 m2 x2 v341 x3 v40 res} (hh : R2 c i result x1 m2 x2 v341 x3 v40 = some res) : Sj c i result x1 m2 x2 v341 x3 v40 res := (Ji c i result x1 x2).2 _ _ _ _ _ hh
def E6 (c : D0) (i : Int) (result : A0) : Option Int :=
  idx c.p.Decls i >>= fun x1 =>
  O4 none >>= fun x2 =>
  Q1 c i result x1 x2.1 x2 0
theorem Su {c i result res} (hh : E6 c i result = some res) : T0 C 58 [.d (.box (D0.row c)), .d (.int .i64 i), .agg (A0.cells result)] [] (Ret [] (.d (.int .i64 res))) := by
  unfold E6 at hh
  obtain ⟨x1, hx1, hh⟩ := bs' hh
  obtain ⟨x2, hx2, hh⟩ := bs' hh
  refine T0.intro hC Tryz.func58 rfl rfl rfl (s' rfl rfl (L0.n hC rfl (e' rfl (p' 6 rfl (i' rfl (C1 hx1) (E0.idx hx1) rfl (q' rfl (L0.nf hC rfl (L0.s hC rfl (n' (t' rfl (p' 1 rfl (L0.g [] rfl (Zh hx2) ⟨.nbx, trivial⟩ rfl trivial rfl rfl (e' rfl ?_)))))))))))))
  exact S' (p' 4 rfl (L0.be hC rfl (esl_ApiDecl.rows_map [x1.Params, x1.Vars]).symm (qe' rfl trivial (esl_ApiDecl.lenA _) (e' rfl (bk' (fw' (Yr hh) rfl rfl rfl))))))
def I8 (c : D0) (i : Int) : Option Int :=
  idx c.p.Decls i >>= fun x1 =>
  Q4 c x1.TypeV i >>= fun x2 =>
  if (x2.2 != 0) = true then
    some x2.2
  else
    if (x1.Kind == 5) = true then
      D6 x2.1 >>= fun x3 =>
      if (!x3) = true then
        some 9
      else
        R4 c i false >>= fun x4 =>
        E9 x4 x1.Value x2.1 >>= fun x5 =>
        some x5
    else
      if (x1.Kind == 6) = true then
        E6 c i x2.1 >>= fun x6 =>
        some x6
      else
        some 0
theorem Ty {c i res} (hh : I8 c i = some res) : T0 C 30 [.d (.box (D0.row c)), .d (.int .i64 i)] [] (Ret [] (.d (.int .i64 res))) := by
  unfold I8 at hh
  obtain ⟨x1, hx1, hh⟩ := bs' hh
  obtain ⟨x2, hx2, hh⟩ := bs' hh
  refine T0.intro hC Tryz.func30 rfl rfl rfl (t' rfl (p' 6 rfl (i' rfl (C1 hx1) (E0.idx hx1) rfl (q' rfl (L0.nf hC rfl (L0.s hC rfl (n' (p' 4 rfl (c' (Tg hx2) rfl rfl (o' 3 rfl (L0.nf hC rfl (L0.s hC rfl (e' rfl ?_)))))))))))))
  refine S' (t' rfl (ci' rfl hh (fun hh => ?_) (fun hh => ?_)))
  · cases hh
    exact t' rfl (re' (rt' rfl rfl rfl))
  refine sk' (S' (t' rfl (bk' (t' rfl (ci' rfl hh (fun hh => ?_) (fun hh => ?_))))))
  · obtain ⟨x3, hx3, hh⟩ := bs' hh
    refine S' (p' 1 rfl (c' (Mj hx3) rfl rfl (e' rfl (ci' rfl hh (fun hh => ?_) (fun hh => ?_)))))
    · cases hh
      exact t' rfl (re' (rt' rfl rfl rfl))
    obtain ⟨x4, hx4, hh⟩ := bs' hh
    obtain ⟨x5, hx5, hh⟩ := bs' hh
    cases hh
    exact sk' (S' (AEx.draw hC 8 rfl rfl rfl (O' 2 rfl (Qc' (V0 hx4) rfl rfl (O' 3 rfl (Qc' (Kk hx5) rfl rfl (E' rfl (n' (re' (rt' rfl rfl rfl))))))))))
  refine t' rfl (ci' rfl hh (fun hh => ?_) (fun hh => ?_))
  · obtain ⟨x6, hx6, hh⟩ := bs' hh
    cases hh
    exact p' 3 rfl (c' (Su hx6) rfl rfl (e' rfl (re' (rt' rfl rfl rfl))))
  cases hh
  exact sk' (t' rfl (re' (rt' rfl rfl rfl)))
mutual
def Zc (t : A0) : Option Bool :=
  (if (!(t.Kind == 4)) = true then Q2 t.Of else some default) >>= fun x1 =>
  some (bif (t.Kind == 4) then true else x1)
  partial_fixpoint
def Q2 (s : List A0) : Option Bool :=
  B3 s >>= fun x1 =>
  some (decide (x1 ≥ 0))
  partial_fixpoint
def B3 (s : List A0) : Option Int :=
  N1 s 0
  partial_fixpoint
def N1 (s : List A0) (v8 : Int) : Option Int :=
  if (decide (v8 < ((s).length : Int))) = true then
    idx s v8 >>= fun x1 =>
    Zc x1 >>= fun x2 =>
    if x2 = true then
      some v8
    else
      N1 s (IntKind.i64.wrap (v8 + 1))
  else
    some (-1)
  partial_fixpoint
end
abbrev V14 (t : A0) (res : Bool) : Prop := T0 C 215 [.agg (A0.cells t)] [] (Ret [] (.d (.bool res)))
abbrev Qd (s : List A0) (res : Bool) : Prop := T0 C 227 [.d (.sl (A0.rows s)), .clo 215 []] [] (Ret [] (.d (.bool res)))
abbrev Pf (s : List A0) (res : Int) : Prop := T0 C 233 [.d (.sl (A0.rows s)), .clo 215 []] [] (Ret [] (.d (.int .i64 res)))
abbrev Sd (s : List A0) (v8 : Int) (res : Int) : Prop := LM C 19 0 Tryz.f233 [1, 0, 1, 4] [(0, .d (.sl (A0.rows s))), (1, .clo 215 []), (7, .d (.int .i64 ((s).length : Int))), (8, .d (.int .i64 v8))] [] (Ret [] (.d (.int .i64 res)))
theorem Jo : (∀ t res, Zc t = some res → V14 t res) ∧ (∀ s res, Q2 s = some res → Qd s res) ∧ (∀ s res, B3 s = some res → Pf s res) ∧ (∀ s v8 res, N1 s v8 = some res → Sd s v8 res) := by
  refine Zc.mutual_partial_correctness _ _ _ _ ?_ ?_ ?_ ?_
  · intro g1 ih1 t res hh
    obtain ⟨x1, hx1, hh⟩ := bs' hh
    cases hh
    exact T0.intro hC Tryz.func215 rfl rfl rfl (s' rfl rfl (L0.n hC rfl (e' rfl (sg' 9 rfl (G' 5 rfl (a1' rfl (AG.c rfl rfl (fun hg => ⟨hg, trivial⟩) (fun hw => ih1 _ _ (De hw hx1)) (po' rfl (a0' rfl (an' (n' (re' (rt' rfl rfl rfl)))))))))))))
  · intro g2 ih2 s res hh
    obtain ⟨x1, hx1, hh⟩ := bs' hh
    cases hh
    exact T0.intro hC Tryz.func227 rfl rfl rfl (t' rfl (p' 2 rfl (c' (ih2 _ _ hx1) rfl rfl (e' rfl (re' (rt' rfl rfl rfl))))))
  · intro g3 ih3 s res hh
    exact T0.intro hC Tryz.func233 rfl rfl rfl (t' rfl (S' (p' 1 rfl (qe' rfl trivial (A0.lenA _) (e' rfl (bk' (fw' (ih3 _ _ _ hh) rfl rfl rfl)))))))
  · intro g0 g3 ih0 ih3 s v8 res hh
    refine A2.unroll (t' rfl (S' (ci' rfl hh (fun hh => ?_) (fun hh => ?_))))
    · obtain ⟨x1, hx1, hh⟩ := bs' hh
      obtain ⟨x2, hx2, hh⟩ := bs' hh
      refine sk' (S' (bk' (t' rfl (p' 3 rfl (i' rfl (C1 hx1) (A0.idx hx1) rfl (q' rfl (c' (ih0 _ _ hx2) rfl rfl (n' (ci' rfl hh (fun hh => ?_) (fun hh => ?_))))))))))
      · cases hh
        exact t' rfl (re' (rt' rfl rfl rfl))
      exact sk' (T' rfl (lw' (ih3 _ _ _ hh) rfl rfl rfl))
    cases hh
    exact ex' (t' rfl (re' (rt' rfl rfl rfl)))
theorem T1c {t res} (hh : Zc t = some res) : V14 t res := (Jo).1 _ _ hh
theorem Y11 {s res} (hh : Q2 s = some res) : Qd s res := (Jo).2.1 _ _ hh
theorem F14 {s res} (hh : B3 s = some res) : Pf s res := (Jo).2.2.1 _ _ hh
theorem Z11 {s v8 res} (hh : N1 s v8 = some res) : Sd s v8 res := (Jo).2.2.2 _ _ _ hh
def Sn (t : A0) : Option Int :=
  Zc t >>= fun x1 =>
  if x1 = true then
    some 7
  else
    Nb t >>= fun x2 =>
    if x2 = true then
      some 8
    else
      Ha t >>= fun x3 =>
      if (decide (x3 > 32)) = true then
        some 4
      else
        some 0
theorem U1c {t res} (hh : Sn t = some res) : T0 C 186 [.agg (A0.cells t)] [] (Ret [] (.d (.int .i64 res))) := by
  unfold Sn at hh
  obtain ⟨x1, hx1, hh⟩ := bs' hh
  refine T0.intro hC Tryz.func186 rfl rfl rfl (s' rfl rfl (L0.n hC rfl (e' rfl (S' (p' 1 rfl (c' (T1c hx1) rfl rfl (n' (ci' rfl hh (fun hh => ?_) (fun hh => ?_)))))))))
  · cases hh
    exact t' rfl (re' (rt' rfl rfl rfl))
  obtain ⟨x2, hx2, hh⟩ := bs' hh
  refine sk' (S' (p' 1 rfl (c' (X12 hx2) rfl rfl (n' (ci' rfl hh (fun hh => ?_) (fun hh => ?_))))))
  · cases hh
    exact t' rfl (re' (rt' rfl rfl rfl))
  obtain ⟨x3, hx3, hh⟩ := bs' hh
  refine sk' (S' (p' 1 rfl (c' (Y12 hx3) rfl rfl (e' rfl (ci' rfl hh (fun hh => ?_) (fun hh => ?_))))))
  · cases hh
    exact t' rfl (re' (rt' rfl rfl rfl))
  cases hh
  exact sk' (t' rfl (re' (rt' rfl rfl rfl)))
def Cl (t : A0) : Option Int :=
  Ta t >>= fun x1 =>
  if (x1 != 0) = true then
    some x1
  else
    Sn t >>= fun x2 =>
    some x2
theorem V1c {t res} (hh : Cl t = some res) : T0 C 118 [.agg (A0.cells t)] [] (Ret [] (.d (.int .i64 res))) := by
  unfold Cl at hh
  obtain ⟨x1, hx1, hh⟩ := bs' hh
  refine T0.intro hC Tryz.func118 rfl rfl rfl (s' rfl rfl (L0.n hC rfl (e' rfl (S' (p' 1 rfl (c' (Cv hx1) rfl rfl (e' rfl (t' rfl (ci' rfl hh (fun hh => ?_) (fun hh => ?_))))))))))
  · cases hh
    exact t' rfl (re' (rt' rfl rfl rfl))
  obtain ⟨x2, hx2, hh⟩ := bs' hh
  cases hh
  exact sk' (p' 1 rfl (c' (U1c hx2) rfl rfl (e' rfl (re' (rt' rfl rfl rfl)))))
def Qf (s : Str) : Option Str :=
  R17 s >>= fun x1 =>
  some x1
theorem Uz {s res} (hh : Qf s = some res) : T0 C 121 [.d (.str s)] [] (Ret [] (.d (.str res))) := by
  unfold Qf at hh
  obtain ⟨x1, hx1, hh⟩ := bs' hh
  cases hh
  exact T0.intro hC Tryz.func121 rfl rfl rfl (t' rfl (p' 1 rfl (c' (V1l hx1) rfl rfl (e' rfl (re' (rt' rfl rfl rfl))))))
def Ua (path : Str) (a1 : Int) (x : A0) (s : List P0) : Option (Bool × List P0) :=
  if (x.Kind == 0) = true then
    Qf path >>= fun x1 =>
    if (decide ((s.length + 1) * 41 ≤ 140737488355328)) = true then
      some (true, (s ++ [(P0.mk x1 true 0 1)]))
    else none
  else
    if (x.Kind == 1) = true then
      Qf path >>= fun x2 =>
      if (decide ((s.length + 1) * 41 ≤ 140737488355328)) = true then
        some (true, (s ++ [(P0.mk x2 false x.Low x.High)]))
      else none
    else
      some (true, s)
theorem A13 {path a1 x s res} (hh : Ua path a1 x s = some res) : T0 C 120 [.d (.str path), .d (.int .i64 a1), .agg (A0.cells x), .ref 0 0] [.row [.osl 1 (P0.rows s)] 113, .tok 117 4] (Ret [.row [.osl 1 (P0.rows res.2)] 113, .tok 117 4] (.d (.bool res.1))) := by
  unfold Ua at hh
  refine T0.intro hC Tryz.func120 rfl rfl rfl (s' rfl rfl (L0.n hC rfl (e' rfl (S' (t' rfl (bk' (t' rfl (ci' rfl hh (fun hh => ?_) (fun hh => ?_)))))))))
  · obtain ⟨x1, hx1, hh⟩ := bs' hh
    obtain ⟨c5, hh⟩ := Nd hh
    cases hh
    refine AEx.draw hC 5 rfl rfl rfl (O' 2 rfl (Qc' (Uz hx1) rfl rfl (Q' rfl (AQ.be hC rfl (P0.rows_map [(P0.mk x1 true 0 1)]).symm (Qn' ?_)))))
    exact L0.ap hC rfl (rs := P0.rows (s ++ [(P0.mk x1 true 0 1)])) (P0.app s [(P0.mk x1 true 0 1)]) (P0.sz s) (P0.sz [(P0.mk x1 true 0 1)]) (N12 (P0.len s) (P0.len [(P0.mk x1 true 0 1)]) c5) (L0.s hC rfl (n' (t' rfl (re' (rt' rfl rfl rfl)))))
  refine t' rfl (ci' rfl hh (fun hh => ?_) (fun hh => ?_))
  · obtain ⟨x2, hx2, hh⟩ := bs' hh
    obtain ⟨c6, hh⟩ := Nd hh
    cases hh
    refine AEx.draw hC 9 rfl rfl rfl (O' 2 rfl (Qc' (Uz hx2) rfl rfl (O' 5 rfl (AQ.be hC rfl (P0.rows_map [(P0.mk x2 false x.Low x.High)]).symm (Qn' ?_)))))
    exact L0.ap hC rfl (rs := P0.rows (s ++ [(P0.mk x2 false x.Low x.High)])) (P0.app s [(P0.mk x2 false x.Low x.High)]) (P0.sz s) (P0.sz [(P0.mk x2 false x.Low x.High)]) (N12 (P0.len s) (P0.len [(P0.mk x2 false x.Low x.High)]) c6) (L0.s hC rfl (n' (t' rfl (re' (rt' rfl rfl rfl)))))
  cases hh
  exact sk' (t' rfl (re' (rt' rfl rfl rfl)))
mutual
def W5 (path : Str) (t : A0) (s : Int) (s1 : List P0) : Option (Bool × Int × List P0) :=
  Ua path s t s1 >>= fun x1 =>
  if (!x1.1) = true then
    some (false, s, x1.2)
  else
    if (t.Kind == 2) = true then
      Q5 path t s x1.2 0
    else
      if (t.Kind == 3) = true then
        P5 path t s x1.2 0
      else
        some (true, (IntKind.i64.wrap (s + 1)), x1.2)
  partial_fixpoint
def P5 (path : Str) (t : A0) (o11 : Int) (o31 : List P0) (v46 : Int) : Option (Bool × Int × List P0) :=
  if (decide (v46 < ((t.Of).length : Int))) = true then
    idx t.Of v46 >>= fun x4 =>
    if (decide (path.length + 1 ≤ maxLen)) = true then
      idx t.Names v46 >>= fun x5 =>
      if (decide ((path ++ [46]).length + x5.length ≤ maxLen)) = true then
        W5 ((path ++ [46]) ++ x5) x4 o11 o31 >>= fun x7 =>
        if (!x7.1) = true then
          some (false, x7.2.1, x7.2.2)
        else
          P5 path t x7.2.1 x7.2.2 (IntKind.i64.wrap (v46 + 1))
      else none
    else none
  else
    some (true, o11, o31)
  partial_fixpoint
def Q5 (path : Str) (t : A0) (o1 : Int) (o3 : List P0) (v25 : Int) : Option (Bool × Int × List P0) :=
  if (decide (v25 < t.Size)) = true then
    if (decide (path.length + 1 ≤ maxLen)) = true then
      W12 v25 >>= fun x2 =>
      if (decide ((path ++ [46]).length + x2.length ≤ maxLen)) = true then
        idx t.Of 0 >>= fun x3 =>
        W5 ((path ++ [46]) ++ x2) x3 o1 o3 >>= fun x6 =>
        if (!x6.1) = true then
          some (false, x6.2.1, x6.2.2)
        else
          Q5 path t x6.2.1 x6.2.2 (IntKind.i64.wrap (v25 + 1))
      else none
    else none
  else
    some (true, o1, o3)
  partial_fixpoint
end
abbrev Iy (path : Str) (t : A0) (s : Int) (s1 : List P0) (res : Bool × Int × List P0) : Prop := T0 C 187 [.d (.str path), .agg (A0.cells t), .ref 0 0, .ref 1 0, .ref 2 0] [.row [.clo 120 [.ref 3 0]] 171, .row [.d (.int .i64 s)] 3, .row [.clo 187 [.ref 0 0, .ref 1 0, .ref 2 0]] 215, .row [.osl 4 (P0.rows s1)] 113, .tok 117 4] (Ret [.row [.clo 120 [.ref 3 0]] 171, .row [.d (.int .i64 res.2.1)] 3, .row [.clo 187 [.ref 0 0, .ref 1 0, .ref 2 0]] 215, .row [.osl 4 (P0.rows res.2.2)] 113, .tok 117 4] (.d (.bool res.1)))
abbrev Mt (path : Str) (t : A0) (o11 : Int) (o31 : List P0) (v46 : Int) (res : Bool × Int × List P0) : Prop := LM C 64 5 Tryz.f187 [1, 1, 0, 1, 4, 1, 3, 1, 2, 1, 4] [(0, .d (.str path)), (4, .ref 2 0), (6, .ref 5 0), (44, .d (.sl (A0.rows t.Of))), (45, .d (.int .i64 ((t.Of).length : Int))), (46, .d (.int .i64 v46))] [.row [.clo 120 [.ref 3 0]] 171, .row [.d (.int .i64 o11)] 3, .row [.clo 187 [.ref 0 0, .ref 1 0, .ref 2 0]] 215, .row [.osl 4 (P0.rows o31)] 113, .tok 117 4, .row (A0.cells t) 40] (Ret [.row [.clo 120 [.ref 3 0]] 171, .row [.d (.int .i64 res.2.1)] 3, .row [.clo 187 [.ref 0 0, .ref 1 0, .ref 2 0]] 215, .row [.osl 4 (P0.rows res.2.2)] 113, .tok 117 4] (.d (.bool res.1)))
abbrev Nt (path : Str) (t : A0) (o1 : Int) (o3 : List P0) (v25 : Int) (res : Bool × Int × List P0) : Prop := LM C 64 5 Tryz.f187 [1, 1, 0, 1, 4, 1, 2, 1, 4] [(0, .d (.str path)), (4, .ref 2 0), (6, .ref 5 0), (24, .d (.int .i64 t.Size)), (25, .d (.int .i64 v25))] [.row [.clo 120 [.ref 3 0]] 171, .row [.d (.int .i64 o1)] 3, .row [.clo 187 [.ref 0 0, .ref 1 0, .ref 2 0]] 215, .row [.osl 4 (P0.rows o3)] 113, .tok 117 4, .row (A0.cells t) 40] (Ret [.row [.clo 120 [.ref 3 0]] 171, .row [.d (.int .i64 res.2.1)] 3, .row [.clo 187 [.ref 0 0, .ref 1 0, .ref 2 0]] 215, .row [.osl 4 (P0.rows res.2.2)] 113, .tok 117 4] (.d (.bool res.1)))
theorem Wn : (∀ path t s s1 res, W5 path t s s1 = some res → Iy path t s s1 res) ∧ (∀ path t o11 o31 v46 res, P5 path t o11 o31 v46 = some res → Mt path t o11 o31 v46 res) ∧ (∀ path t o1 o3 v25 res, Q5 path t o1 o3 v25 = some res → Nt path t o1 o3 v25 res) := by
  refine W5.mutual_partial_correctness _ _ _ ?_ ?_ ?_
  · intro g1 g2 ih1 ih2 path t s s1 res hh
    obtain ⟨x1, hx1, hh⟩ := bs' hh
    refine T0.intro hC Tryz.func187 rfl rfl rfl (s' rfl rfl (L0.n hC rfl (e' rfl (S' (p' 4 rfl (g' [3, 4] (A13 hx1) rfl rfl rfl rfl rfl rfl (e' rfl (ci' rfl hh (fun hh => ?_) (fun hh => ?_)))))))))
    · cases hh
      exact t' rfl (re' (rt' rfl rfl rfl))
    refine sk' (S' (t' rfl (bk' (t' rfl (ci' rfl hh (fun hh => ?_) (fun hh => ?_))))))
    · exact t' rfl (bk' (fw' (ih2 _ _ _ _ _ _ hh) rfl rfl rfl))
    refine t' rfl (ci' rfl hh (fun hh => ?_) (fun hh => ?_))
    · exact p' 2 rfl (qe' rfl trivial (A0.lenA _) (e' rfl (bk' (fw' (ih1 _ _ _ _ _ _ hh) rfl rfl rfl))))
    cases hh
    exact P' 2 rfl (L0.s hC rfl (n' (t' rfl (re' (rt' rfl rfl rfl)))))
  · intro g0 g1 ih0 ih1 path t o11 o31 v46 res hh
    refine A2.unroll (t' rfl (S' (ci' rfl hh (fun hh => ?_) (fun hh => ?_))))
    · obtain ⟨x4, hx4, hh⟩ := bs' hh
      obtain ⟨c17, hh⟩ := Nd hh
      obtain ⟨x5, hx5, hh⟩ := bs' hh
      obtain ⟨c18, hh⟩ := Nd hh
      obtain ⟨x7, hx7, hh⟩ := bs' hh
      refine sk' (S' (bk' (p' 1 rfl (i' rfl (C1 hx4) (A0.idx hx4) rfl (q' rfl (L0.nf hC rfl (q' rfl (L0.s hC rfl (n' (S' (AEx.draw hC 10 rfl rfl rfl (O' 2 rfl (AQ.q hC rfl c17 ?_)))))))))))))
      refine O' 3 rfl (AQ.i hC rfl (C1 hx5) (estr.idx hx5) rfl (Q' rfl (AQ.q hC rfl c18 (E' rfl (g' [0, 1, 2, 3, 4] (ih0 _ _ _ _ _ hx7) rfl rfl rfl rfl rfl rfl (e' rfl (ci' rfl hh (fun hh => ?_) (fun hh => ?_))))))))
      · cases hh
        exact t' rfl (re' (rt' rfl rfl rfl))
      exact sk' (T' rfl (lw' (ih1 _ _ _ _ _ _ hh) rfl rfl rfl))
    cases hh
    exact ex' (t' rfl (re' (rt' rfl rfl rfl)))
  · intro g0 g2 ih0 ih2 path t o1 o3 v25 res hh
    refine A2.unroll (t' rfl (S' (ci' rfl hh (fun hh => ?_) (fun hh => ?_))))
    · obtain ⟨c15, hh⟩ := Nd hh
      obtain ⟨x2, hx2, hh⟩ := bs' hh
      obtain ⟨c16, hh⟩ := Nd hh
      obtain ⟨x3, hx3, hh⟩ := bs' hh
      obtain ⟨x6, hx6, hh⟩ := bs' hh
      refine sk' (S' (bk' (t' rfl (S' (AEx.draw hC 10 rfl rfl rfl (O' 2 rfl (AQ.q hC rfl c15 (Q' rfl (Qc' (B1o hx2) rfl rfl (AQ.q hC rfl c16 (O' 2 rfl (AQ.i hC rfl (C1 hx3) (A0.idx hx3) rfl (E' rfl ?_)))))))))))))
      refine g' [0, 1, 2, 3, 4] (ih0 _ _ _ _ _ hx6) rfl rfl rfl rfl rfl rfl (e' rfl (ci' rfl hh (fun hh => ?_) (fun hh => ?_)))
      · cases hh
        exact t' rfl (re' (rt' rfl rfl rfl))
      exact sk' (T' rfl (lw' (ih2 _ _ _ _ _ _ hh) rfl rfl rfl))
    cases hh
    exact ex' (t' rfl (re' (rt' rfl rfl rfl)))
theorem K16 {path t s s1 res} (hh : W5 path t s s1 = some res) : Iy path t s s1 res := (Wn).1 _ _ _ _ _ hh
theorem A1k {path t o11 o31 v46 res} (hh : P5 path t o11 o31 v46 = some res) : Mt path t o11 o31 v46 res := (Wn).2.1 _ _ _ _ _ _ hh
theorem B1k {path t o1 o3 v25 res} (hh : Q5 path t o1 o3 v25 = some res) : Nt path t o1 o3 v25 res := (Wn).2.2 _ _ _ _ _ _ hh
def Bk (t : A0) (s : List P0) : Option (List P0) :=
  W5 [] t 0 s >>= fun x1 =>
  some x1.2.2
theorem H19 {t s res} (hh : Bk t s = some res) : T0 C 119 [.agg (A0.cells t), .clo 120 [.ref 0 0]] [.row [.osl 1 (P0.rows s)] 113, .tok 117 4] (Ret [.row [.osl 1 (P0.rows res)] 113, .tok 117 4] (.tup [])) := by
  unfold Bk at hh
  obtain ⟨x1, hx1, hh⟩ := bs' hh
  cases hh
  refine T0.intro hC Tryz.func119 rfl rfl rfl (s' rfl rfl (L0.n hC rfl (L0.n hC rfl (n' (s' rfl rfl (L0.n hC rfl (L0.s hC rfl (n' (s' rfl rfl (L0.n hC rfl (n' (p' 1 rfl (L0.s hC rfl ?_)))))))))))))
  exact n' (P' 2 rfl (g' [3, 4, 5, 0, 1] (K16 hx1) rfl rfl rfl rfl rfl rfl (n' (rn' rfl rfl rfl))))
def Lh (t : A0) : Option (List P0 × Int) :=
  Cl t >>= fun x1 =>
  if (x1 != 0) = true then
    some ([], x1)
  else
    Bk t [] >>= fun x2 =>
    some (x2, 0)
theorem I19 {t res} (hh : Lh t = some res) : T0 C 62 [.agg (A0.cells t)] [] (Ret [] (.tup [.d (.sl (P0.rows res.1)), .d (.int .i64 res.2)])) := by
  unfold Lh at hh
  obtain ⟨x1, hx1, hh⟩ := bs' hh
  refine T0.intro hC Tryz.func62 rfl rfl rfl (s' rfl rfl (L0.n hC rfl (e' rfl (S' (p' 1 rfl (c' (V1c hx1) rfl rfl (e' rfl (t' rfl (ci' rfl hh (fun hh => ?_) (fun hh => ?_))))))))))
  · refine t' rfl (re' ?_)
    obtain rfl := oi' hh
    exact ⟨_, .tup [.d (.sl (P0.rows [])), .d (.int .i64 x1)], [], rfl, (.tupL ⟨.full, ⟨.rfl, trivial⟩⟩), trivial, rfl, rfl, rfl, rfl⟩
  obtain ⟨x2, hx2, hh⟩ := bs' hh
  refine sk' (s' rfl rfl (L0.nf hC rfl (L0.tokC 1 0 117 4 rfl rfl rfl rfl rfl (n' (p' 2 rfl (g' [1, 2] (H19 hx2) rfl rfl rfl rfl rfl rfl (n' (t' rfl (re' ?_)))))))))
  obtain rfl := oi' hh
  exact ⟨_, .tup [.d (.sl (P0.rows x2)), .d (.int .i64 0)], [], rfl, (.tupL ⟨.osl, ⟨.rfl, trivial⟩⟩), trivial, rfl, rfl, rfl, rfl⟩
def He (a : Int) (b : Int) : Option Int :=
  some (min (IntKind.i64.wrap (a * b)) 1073741824)
theorem Pp {a b res} (hh : He a b = some res) : T0 C 63 [.d (.int .i64 a), .d (.int .i64 b)] [] (Ret [] (.d (.int .i64 res))) := by
  unfold He at hh
  cases hh
  exact T0.intro hC Tryz.func63 rfl rfl rfl (t' rfl (t' rfl (re' (rt' rfl rfl rfl))))
def Gg (a : Int) (b : Int) : Option Int :=
  some (min (IntKind.i64.wrap (a + b)) 1073741824)
theorem Nq {a b res} (hh : Gg a b = some res) : T0 C 203 [.d (.int .i64 a), .d (.int .i64 b)] [] (Ret [] (.d (.int .i64 res))) := by
  unfold Gg at hh
  cases hh
  exact T0.intro hC Tryz.func203 rfl rfl rfl (t' rfl (t' rfl (re' (rt' rfl rfl rfl))))
def T9 (a : K0) (b : K0) : Option K0 :=
  Gg a.steps b.steps >>= fun x1 =>
  Gg a.outputs b.outputs >>= fun x2 =>
  some (K0.mk x1 x2)
theorem Kq {a b res} (hh : T9 a b = some res) : T0 C 164 [.agg (K0.cells a), .agg (K0.cells b)] [] (Ret [] (.agg (K0.cells res))) := by
  unfold T9 at hh
  obtain ⟨x1, hx1, hh⟩ := bs' hh
  obtain ⟨x2, hx2, hh⟩ := bs' hh
  cases hh
  refine T0.intro hC Tryz.func164 rfl rfl rfl (s' rfl rfl (L0.n hC rfl (L0.n hC rfl (L0.n hC rfl (n' (S' (AEx.draw hC 11 rfl rfl rfl (O' 4 rfl (Qc' (Nq hx1) rfl rfl (O' 4 rfl (Qc' (Nq hx2) rfl rfl (E' rfl (L0.s hC rfl ?_)))))))))))))
  exact n' (re' (rt' rfl rfl rfl))
def Td (a : K0) (b : K0) : Option K0 :=
  some (K0.mk (max a.steps b.steps) (max a.outputs b.outputs))
theorem Vz {a b res} (hh : Td a b = some res) : T0 C 204 [.agg (K0.cells a), .agg (K0.cells b)] [] (Ret [] (.agg (K0.cells res))) := by
  unfold Td at hh
  cases hh
  exact T0.intro hC Tryz.func204 rfl rfl rfl (s' rfl rfl (L0.n hC rfl (L0.n hC rfl (L0.n hC rfl (n' (p' 11 rfl (L0.s hC rfl (n' (re' (rt' rfl rfl rfl))))))))))
def Kd (n : Int) (body : K0) : Option K0 :=
  Gg 1 body.steps >>= fun x1 =>
  He n x1 >>= fun x2 =>
  He n body.outputs >>= fun x3 =>
  some (K0.mk x2 x3)
theorem Hv {n body res} (hh : Kd n body = some res) : T0 C 205 [.d (.int .i64 n), .agg (K0.cells body)] [] (Ret [] (.agg (K0.cells res))) := by
  unfold Kd at hh
  obtain ⟨x1, hx1, hh⟩ := bs' hh
  obtain ⟨x2, hx2, hh⟩ := bs' hh
  obtain ⟨x3, hx3, hh⟩ := bs' hh
  cases hh
  refine T0.intro hC Tryz.func205 rfl rfl rfl (s' rfl rfl (L0.n hC rfl (L0.n hC rfl (n' (S' (AEx.draw hC 10 rfl rfl rfl (O' 3 rfl (Qc' (Nq hx1) rfl rfl (Qc' (Pp hx2) rfl rfl (O' 3 rfl (Qc' (Pp hx3) rfl rfl (E' rfl (L0.s hC rfl ?_)))))))))))))
  exact n' (re' (rt' rfl rfl rfl))
mutual
def Z1 (l : List F0) (m : List (Str × K0)) : Option K0 :=
  I3 l m (K0.mk 0 0) 0
  partial_fixpoint
def I3 (l : List F0) (m : List (Str × K0)) (o3 : K0) (v11 : Int) : Option K0 :=
  if (decide (v11 < ((l).length : Int))) = true then
    idx l v11 >>= fun x1 =>
    T9 o3 (K0.mk 1 0) >>= fun x2 =>
    W6 x1 m >>= fun x3 =>
    T9 x2 x3 >>= fun x4 =>
    I3 l m x4 (IntKind.i64.wrap (v11 + 1))
  else
    some o3
  partial_fixpoint
def W6 (x : F0) (m : List (Str × K0)) : Option K0 :=
  if (x.Verb == 3) = true then
    some (K0.mk 0 1)
  else
    if (x.Verb == 1) = true then
      some (mgt x.Name m) >>= fun x1 =>
      some (x1.getD K0.zero)
    else
      if (x.Verb == 5) = true then
        Z1 x.Then m >>= fun x2 =>
        Z1 x.Else m >>= fun x3 =>
        Td x2 x3 >>= fun x4 =>
        some x4
      else
        if (x.Verb == 6) = true then
          Z1 x.Then m >>= fun x5 =>
          Kd x.NV x5 >>= fun x6 =>
          some x6
        else
          if (x.Verb == 7) = true then
            Z1 x.Then m >>= fun x7 =>
            Kd (IntKind.i64.wrap ((IntKind.i64.wrap (x.High - x.Low)) + 1)) x7 >>= fun x8 =>
            some x8
          else
            some (K0.mk 0 0)
  partial_fixpoint
end
abbrev Ko (l : List F0) (m : List (Str × K0)) (res : K0) : Prop := T0 C 97 [.agg [.mp 0], .d (.sl (F0.rows l))] [.map (.s (K0.ents m))] (Ret [.map (.s (K0.ents m))] (.agg (K0.cells res)))
abbrev Cm (l : List F0) (m : List (Str × K0)) (o3 : K0) (v11 : Int) (res : K0) : Prop := LM C 24 1 Tryz.f97 [1, 1, 0, 1, 4] [(2, .ref 1 0), (4, .ref 2 0), (5, .ref 3 0), (9, .d (.sl (F0.rows l))), (10, .d (.int .i64 ((l).length : Int))), (11, .d (.int .i64 v11))] [.map (.s (K0.ents m)), .row [.mp 0] 151, .row [.d (.int .i64 0), .d (.int .i64 0)] 85, .row (K0.cells o3) 85] (Ret [.map (.s (K0.ents m))] (.agg (K0.cells res)))
abbrev Qp (x : F0) (m : List (Str × K0)) (res : K0) : Prop := T0 C 165 [.agg [.mp 0], .agg (F0.cells x)] [.map (.s (K0.ents m))] (Ret [.map (.s (K0.ents m))] (.agg (K0.cells res)))
theorem Ug (m : List (Str × K0)) : (∀ l res, Z1 l m = some res → Ko l m res) ∧ (∀ l o3 v11 res, I3 l m o3 v11 = some res → Cm l m o3 v11 res) ∧ (∀ x res, W6 x m = some res → Qp x m res) := by
  refine Z1.mutual_partial_correctness m _ _ _ ?_ ?_ ?_
  · intro g1 ih1 l res hh
    exact T0.intro hC Tryz.func97 rfl rfl rfl (s' rfl rfl (L0.n hC rfl (L0.n hC rfl (n' (p' 1 rfl (L0.n hC rfl (L0.s hC rfl (n' (S' (p' 1 rfl (qe' rfl trivial (F0.lenA _) (e' rfl (bk' (fw' (ih1 _ _ _ _ hh) rfl rfl rfl))))))))))))))
  · intro g1 g2 ih1 ih2 l o3 v11 res hh
    refine A2.unroll (t' rfl (S' (ci' rfl hh (fun hh => ?_) (fun hh => ?_))))
    · obtain ⟨x1, hx1, hh⟩ := bs' hh
      obtain ⟨x2, hx2, hh⟩ := bs' hh
      obtain ⟨x3, hx3, hh⟩ := bs' hh
      obtain ⟨x4, hx4, hh⟩ := bs' hh
      refine sk' (S' (bk' (s' rfl rfl (i' rfl (C1 hx1) (F0.idx hx1) rfl (q' rfl (L0.nf hC rfl (L0.s hC rfl (n' (AEx.draw hC 5 rfl rfl rfl (O' 2 rfl (Qc' (Kq hx2) rfl rfl (E' rfl (g' [0] (ih2 _ _ hx3) rfl rfl rfl rfl rfl rfl ?_)))))))))))))
      exact c' (Kq hx4) rfl rfl (L0.s hC rfl (n' (T' rfl (lw' (ih1 _ _ _ _ hh) rfl rfl rfl))))
    cases hh
    exact ex' (p' 1 rfl (L0.s hC rfl (n' (re' (rt' rfl rfl rfl)))))
  · intro g0 ih0 x res hh
    refine T0.intro hC Tryz.func165 rfl rfl rfl (s' rfl rfl (L0.n hC rfl (L0.n hC rfl (L0.n hC rfl (n' (S' (t' rfl (bk' (t' rfl (ci' rfl hh (fun hh => ?_) (fun hh => ?_)))))))))))
    · cases hh
      exact p' 1 rfl (L0.s hC rfl (n' (re' (rt' rfl rfl rfl))))
    refine t' rfl (ci' rfl hh (fun hh => ?_) (fun hh => ?_))
    · obtain ⟨x1, hx1, hh⟩ := bs' hh
      cases hh
      exact p' 4 rfl (L0.me hC rfl (K0.lk hx1) (L0.s hC rfl (n' (re' (rt' rfl rfl rfl)))))
    refine t' rfl (ci' rfl hh (fun hh => ?_) (fun hh => ?_))
    · obtain ⟨x2, hx2, hh⟩ := bs' hh
      obtain ⟨x3, hx3, hh⟩ := bs' hh
      obtain ⟨x4, hx4, hh⟩ := bs' hh
      cases hh
      refine S' (AEx.drawL hC 7 [3] [] [[.map (.s (K0.ents m)), .row [.mp 0] 151, .row (F0.cells x) 53, .row [.d (.int .i64 0), .d (.int .i64 0)] 85], [.map (.s (K0.ents m)), .row [.mp 0] 151, .row (F0.cells x) 53, .row [.d (.int .i64 0), .d (.int .i64 0)] 85]] rfl rfl rfl rfl rfl rfl rfl rfl rfl rfl (AS.q hC rfl rfl rfl rfl (AS.q hC rfl rfl rfl rfl (AS.q hC rfl rfl rfl rfl ?_))))
      exact AS.g [0] (ih0 _ _ hx2) rfl rfl rfl rfl rfl rfl rfl rfl rfl rfl rfl rfl (AS.q hC rfl rfl rfl rfl (AS.q hC rfl rfl rfl rfl (AS.q hC rfl rfl rfl rfl (AS.nil (g' [0] (ih0 _ _ hx3) rfl rfl rfl rfl rfl rfl (c' (Vz hx4) rfl rfl (L0.s hC rfl (n' (re' (rt' rfl rfl rfl))))))))))
    refine t' rfl (ci' rfl hh (fun hh => ?_) (fun hh => ?_))
    · obtain ⟨x5, hx5, hh⟩ := bs' hh
      obtain ⟨x6, hx6, hh⟩ := bs' hh
      cases hh
      refine S' (AEx.drawL hC 6 [5] [] [[.map (.s (K0.ents m)), .row [.mp 0] 151, .row (F0.cells x) 53, .row [.d (.int .i64 0), .d (.int .i64 0)] 85], [.map (.s (K0.ents m)), .row [.mp 0] 151, .row (F0.cells x) 53, .row [.d (.int .i64 0), .d (.int .i64 0)] 85]] rfl rfl rfl rfl rfl rfl rfl rfl rfl rfl (AS.q hC rfl rfl rfl rfl (AS.q hC rfl rfl rfl rfl (AS.q hC rfl rfl rfl rfl ?_))))
      exact AS.q hC rfl rfl rfl rfl (AS.q hC rfl rfl rfl rfl (AS.g [0] (ih0 _ _ hx5) rfl rfl rfl rfl rfl rfl rfl rfl rfl rfl rfl rfl (AS.nil (c' (Hv hx6) rfl rfl (L0.s hC rfl (n' (re' (rt' rfl rfl rfl))))))))
    refine t' rfl (ci' rfl hh (fun hh => ?_) (fun hh => ?_))
    · obtain ⟨x7, hx7, hh⟩ := bs' hh
      obtain ⟨x8, hx8, hh⟩ := bs' hh
      cases hh
      refine S' (AEx.drawL hC 10 [9] [] [[.map (.s (K0.ents m)), .row [.mp 0] 151, .row (F0.cells x) 53, .row [.d (.int .i64 0), .d (.int .i64 0)] 85], [.map (.s (K0.ents m)), .row [.mp 0] 151, .row (F0.cells x) 53, .row [.d (.int .i64 0), .d (.int .i64 0)] 85]] rfl rfl rfl rfl rfl rfl rfl rfl rfl rfl (AS.q hC rfl rfl rfl rfl (AS.q hC rfl rfl rfl rfl (AS.q hC rfl rfl rfl rfl ?_))))
      iterate 6 refine AS.q hC rfl rfl rfl rfl ?_
      exact AS.g [0] (ih0 _ _ hx7) rfl rfl rfl rfl rfl rfl rfl rfl rfl rfl rfl rfl (AS.nil (c' (Hv hx8) rfl rfl (L0.s hC rfl (n' (re' (rt' rfl rfl rfl))))))
    cases hh
    exact sk' (p' 1 rfl (L0.s hC rfl (n' (re' (rt' rfl rfl rfl)))))
theorem Nn {l m res} (hh : Z1 l m = some res) : Ko l m res := (Ug m).1 _ _ hh
theorem C1c {l m o3 v11 res} (hh : I3 l m o3 v11 = some res) : Cm l m o3 v11 res := (Ug m).2.1 _ _ _ _ hh
theorem D1f {x m res} (hh : W6 x m = some res) : Qp x m res := (Ug m).2.2 _ _ hh
def D4 (p : N0) (m2 : List (Str × K0)) (v11 : Int) : Option K0 :=
  if (decide (v11 < ((p.Decls).length : Int))) = true then
    idx p.Decls v11 >>= fun x1 =>
    if (x1.Kind == 6) = true then
      Z1 x1.Body m2 >>= fun x2 =>
      D4 p (mpt x1.Name x2 m2) (IntKind.i64.wrap (v11 + 1))
    else
      D4 p m2 (IntKind.i64.wrap (v11 + 1))
  else
    Z1 p.Body m2 >>= fun x3 =>
    some x3
  partial_fixpoint
abbrev Dr (p : N0) (m2 : List (Str × K0)) (v11 : Int) (res : K0) : Prop := LM C 31 0 Tryz.f45 [1, 1, 0, 1, 4] [(1, .ref 0 0), (2, .ref 1 0), (3, .ref 3 0), (9, .d (.sl (E0.rows p.Decls))), (10, .d (.int .i64 ((p.Decls).length : Int))), (11, .d (.int .i64 v11))] [.row (N0.cells p) 25, .row [.d (.int .i64 0), .d (.int .i64 0)] 85, .map (.s (K0.ents m2)), .row [.mp 2] 151] (Ret [] (.agg (K0.cells res)))
theorem Wz (p : N0) : (∀ m2 v11 res, D4 p m2 v11 = some res → Dr p m2 v11 res) := by
  refine D4.partial_correctness p _ ?_
  · intro g0 ih0 m2 v11 res hh
    refine A2.unroll (t' rfl (S' (ci' rfl hh (fun hh => ?_) (fun hh => ?_))))
    · obtain ⟨x1, hx1, hh⟩ := bs' hh
      refine sk' (S' (bk' (s' rfl rfl (i' rfl (C1 hx1) (E0.idx hx1) rfl (q' rfl (L0.nf hC rfl (L0.s hC rfl (n' (t' rfl (ci' rfl hh (fun hh => ?_) (fun hh => ?_)))))))))))
      · obtain ⟨x2, hx2, hh⟩ := bs' hh
        refine AEx.drawL hC 8 [7] [] [[.row (N0.cells p) 25, .row [.d (.int .i64 0), .d (.int .i64 0)] 85, .map (.s (K0.ents m2)), .row [.mp 2] 151, .row (E0.cells x1) 59], [.row (N0.cells p) 25, .row [.d (.int .i64 0), .d (.int .i64 0)] 85, .map (.s (K0.ents m2)), .row [.mp 2] 151, .row (E0.cells x1) 59]] rfl rfl rfl rfl rfl rfl rfl rfl rfl rfl ?_
        iterate 7 refine AS.q hC rfl rfl rfl rfl ?_
        exact AS.g [2] (Nn hx2) rfl rfl rfl rfl rfl rfl rfl rfl rfl rfl rfl rfl (AS.nil (L0.ue hC rfl (K0.mput _ x2 _) rfl (n' (T' rfl (lw' (ih0 _ _ _ hh) rfl rfl rfl)))))
      exact sk' (T' rfl (lw' (ih0 _ _ _ hh) rfl rfl rfl))
    obtain ⟨x3, hx3, hh⟩ := bs' hh
    cases hh
    exact ex' (p' 3 rfl (g' [2] (Nn hx3) rfl rfl rfl rfl rfl rfl (L0.s hC rfl (n' (re' (rt' rfl rfl rfl))))))
theorem G10 {p m2 v11 res} (hh : D4 p m2 v11 = some res) : Dr p m2 v11 res := (Wz p) _ _ _ hh
def Dc (p : N0) : Option K0 :=
  D4 p [] 0
theorem Ot {p res} (hh : Dc p = some res) : T0 C 45 [.agg (N0.cells p)] [] (Ret [] (.agg (K0.cells res))) := by
  unfold Dc at hh
  refine T0.intro hC Tryz.func45 rfl rfl rfl (s' rfl rfl (L0.n hC rfl (L0.n hC rfl (n' (s' rfl rfl (L0.w rfl (q' rfl (L0.n hC rfl (L0.s hC rfl (n' (S' (p' 2 rfl (qe' rfl trivial (E0.lenA _) ?_)))))))))))))
  exact e' rfl (bk' (fw' (G10 hh) rfl rfl rfl))
end Go.Proofs.YtdkabnfphmmmnaaGreatDoor

set_option maxRecDepth 100000
set_option maxHeartbeats 4000000
set_option synthInstance.maxSize 2000
set_option linter.unusedVariables false
namespace Go.Proofs.YtdkabnfphmmmnaaGreatDoor
open Go.Am
mutual
def V1 (c : D0) (m0 : List (Int × Int)) (scalars : Int) (hatches1 : Int) (v23 : Int) : Option Int :=
  if (decide (v23 < ((c.p.Decls).length : Int))) = true then
    idx c.p.Decls v23 >>= fun x1 =>
    some (Xm x1.Kind m0) >>= fun x2 =>
    if (x1.Kind == 5) = true then
      S3 c m0 x1 scalars (IntKind.i64.wrap (hatches1 + 1)) v23 x2 v23
    else
      S3 c m0 x1 scalars hatches1 v23 x2 v23
  else
    Dc c.p >>= fun x5 =>
    if (decide (scalars > 64)) = true then
      if (decide (scalars > 64)) = true then
        some 4
      else
        some 0
    else
      if (decide (hatches1 > 8)) = true then
        if (decide (hatches1 > 8)) = true then
          some 4
        else
          some 0
      else
        some (Xm 1 m0) >>= fun x6 =>
        if (decide ((x6.getD ei64.zero) > 4096)) = true then
          if (decide ((x6.getD ei64.zero) > 4096)) = true then
            some 4
          else
            some 0
        else
          some (Xm 2 m0) >>= fun x7 =>
          if (decide ((x7.getD ei64.zero) > 4096)) = true then
            if (decide ((x7.getD ei64.zero) > 4096)) = true then
              some 4
            else
              some 0
          else
            some (Xm 3 m0) >>= fun x8 =>
            if (decide ((x8.getD ei64.zero) > 256)) = true then
              if (decide ((x8.getD ei64.zero) > 256)) = true then
                some 4
              else
                some 0
            else
              if (decide (x5.steps > 4096)) = true then
                if (decide (x5.steps > 4096)) = true then
                  some 4
                else
                  some 0
              else
                if (decide (x5.outputs > 8)) = true then
                  some 4
                else
                  some 0
  partial_fixpoint
def S3 (c : D0) (m01 : List (Int × Int)) (x1 : E0) (scalars1 : Int) (hatches : Int) (i : Int) (x2 : Option Int) (v231 : Int) : Option Int :=
  if (bif (!x2.isSome) then (x1.Kind != 4) else false) = true then
    V1 c m01 scalars1 hatches (IntKind.i64.wrap (v231 + 1))
  else
    U2 c x1.TypeV i >>= fun x3 =>
    Lh x3 >>= fun x4 =>
    O2 c m01 x1 (IntKind.i64.wrap (scalars1 + ((x4.1).length : Int))) hatches (x2.getD ei64.zero) x2 v231 x4 0
  partial_fixpoint
def O2 (c : D0) (m02 : List (Int × Int)) (x1 : E0) (scalars2 : Int) (hatches : Int) (n : Int) (x2 : Option Int) (v231 : Int) (x4 : List P0 × Int) (v62 : Int) : Option Int :=
  if (decide (v62 < ((x4.1).length : Int))) = true then
    idx x4.1 v62 >>= fun x9 =>
    if x2.isSome = true then
      He n (IntKind.i64.wrap ((IntKind.i64.wrap (x9.High - x9.Low)) + 1)) >>= fun x10 =>
      O2 c m02 x1 scalars2 hatches x10 x2 v231 x4 (IntKind.i64.wrap (v62 + 1))
    else
      O2 c m02 x1 scalars2 hatches n x2 v231 x4 (IntKind.i64.wrap (v62 + 1))
  else
    if x2.isSome = true then
      V1 c (Sx x1.Kind n m02) scalars2 hatches (IntKind.i64.wrap (v231 + 1))
    else
      V1 c m02 scalars2 hatches (IntKind.i64.wrap (v231 + 1))
  partial_fixpoint
end
abbrev Hl (c : D0) (m0 : List (Int × Int)) (scalars : Int) (hatches1 : Int) (v23 : Int) (res : Int) : Prop := LM C 107 0 Tryz.f33 [1, 1, 1, 0, 1, 4] [(0, .d (.box (D0.row c))), (3, .d (.int .i64 scalars)), (4, .d (.int .i64 hatches1)), (5, .mp 0), (21, .d (.sl (E0.rows c.p.Decls))), (22, .d (.int .i64 ((c.p.Decls).length : Int))), (23, .d (.int .i64 v23))] [.map (.i .i64 (ei64.entsI m0))] (Ret [] (.d (.int .i64 res)))
abbrev Il (c : D0) (m01 : List (Int × Int)) (x1 : E0) (scalars1 : Int) (hatches : Int) (i : Int) (x2 : Option Int) (v231 : Int) (res : Int) : Prop := JM C 107 0 Tryz.f33 [1, 1, 1, 0, 1, 4, 5, 1, 1, 0, 4, 1, 1, 1] [(0, .d (.box (D0.row c))), (3, .d (.int .i64 scalars1)), (4, .d (.int .i64 hatches)), (5, .mp 0), (6, .d (.int .i64 i)), (7, .ref 1 0), (8, .d (.int .i64 (x2.getD ei64.zero))), (9, .d (.bool x2.isSome)), (21, .d (.sl (E0.rows c.p.Decls))), (22, .d (.int .i64 ((c.p.Decls).length : Int))), (23, .d (.int .i64 v231))] [.map (.i .i64 (ei64.entsI m01)), .row (E0.cells x1) 59] (Ret [] (.d (.int .i64 res)))
abbrev Jl (c : D0) (m02 : List (Int × Int)) (x1 : E0) (scalars2 : Int) (hatches : Int) (n : Int) (x2 : Option Int) (v231 : Int) (x4 : List P0 × Int) (v62 : Int) (res : Int) : Prop := LM C 107 0 Tryz.f33 [1, 1, 1, 0, 1, 4, 5, 1, 1, 0, 4, 1, 1, 1, 1, 1, 1, 0, 1, 4] [(0, .d (.box (D0.row c))), (3, .d (.int .i64 scalars2)), (4, .d (.int .i64 hatches)), (5, .mp 0), (7, .ref 1 0), (8, .d (.int .i64 n)), (9, .d (.bool x2.isSome)), (21, .d (.sl (E0.rows c.p.Decls))), (22, .d (.int .i64 ((c.p.Decls).length : Int))), (23, .d (.int .i64 v231)), (60, .d (.sl (P0.rows x4.1))), (61, .d (.int .i64 ((x4.1).length : Int))), (62, .d (.int .i64 v62))] [.map (.i .i64 (ei64.entsI m02)), .row (E0.cells x1) 59] (Ret [] (.d (.int .i64 res)))
theorem Zd (c : D0) : (∀ m0 scalars hatches1 v23 res, V1 c m0 scalars hatches1 v23 = some res → Hl c m0 scalars hatches1 v23 res) ∧ (∀ m01 x1 scalars1 hatches i x2 v231 res, S3 c m01 x1 scalars1 hatches i x2 v231 = some res → Il c m01 x1 scalars1 hatches i x2 v231 res) ∧ (∀ m02 x1 scalars2 hatches n x2 v231 x4 v62 res, O2 c m02 x1 scalars2 hatches n x2 v231 x4 v62 = some res → Jl c m02 x1 scalars2 hatches n x2 v231 x4 v62 res) := by
  refine V1.mutual_partial_correctness c _ _ _ ?_ ?_ ?_
  · intro g1 ih1 m0 scalars hatches1 v23 res hh
    refine A2.unroll (t' rfl (S' (ci' rfl hh (fun hh => ?_) (fun hh => ?_))))
    · obtain ⟨x1, hx1, hh⟩ := bs' hh
      obtain ⟨x2, hx2, hh⟩ := bs' hh
      refine sk' (S' (bk' (p' 1 rfl (i' rfl (C1 hx1) (E0.idx hx1) rfl (q' rfl (L0.nf hC rfl (q' rfl (L0.s hC rfl (n' (p' 3 rfl (L0.mi hC rfl (ei64.lkIT hx2) (e' rfl (S' ?_)))))))))))))
      refine t' rfl (ci' rfl hh (fun hh => ?_) (fun hh => ?_))
      · exact T' rfl (ew' (ih1 _ _ _ _ _ _ _ _ hh) rfl rfl rfl)
      exact sk' (ew' (ih1 _ _ _ _ _ _ _ _ hh) rfl rfl rfl)
    obtain ⟨x5, hx5, hh⟩ := bs' hh
    refine ex' (p' 4 rfl (c' (Ot hx5) rfl rfl (L0.n hC rfl (L0.s hC rfl (n' (S' (bk' (S' (t' rfl (ci' rfl hh (fun hh => ?_) (fun hh => ?_)))))))))))
    · refine sk' (ci' rfl hh (fun hh => ?_) (fun hh => ?_))
      · cases hh
        exact t' rfl (re' (rt' rfl rfl rfl))
      cases hh
      exact sk' (t' rfl (re' (rt' rfl rfl rfl)))
    refine t' rfl (ci' rfl hh (fun hh => ?_) (fun hh => ?_))
    · refine sk' (ci' rfl hh (fun hh => ?_) (fun hh => ?_))
      · cases hh
        exact t' rfl (re' (rt' rfl rfl rfl))
      cases hh
      exact sk' (t' rfl (re' (rt' rfl rfl rfl)))
    obtain ⟨x6, hx6, hh⟩ := bs' hh
    refine p' 1 rfl (L0.mi hC rfl (ei64.lkI hx6) (e' rfl (ci' rfl hh (fun hh => ?_) (fun hh => ?_))))
    · refine sk' (ci' rfl hh (fun hh => ?_) (fun hh => ?_))
      · cases hh
        exact t' rfl (re' (rt' rfl rfl rfl))
      cases hh
      exact sk' (t' rfl (re' (rt' rfl rfl rfl)))
    obtain ⟨x7, hx7, hh⟩ := bs' hh
    refine p' 1 rfl (L0.mi hC rfl (ei64.lkI hx7) (e' rfl (ci' rfl hh (fun hh => ?_) (fun hh => ?_))))
    · refine sk' (ci' rfl hh (fun hh => ?_) (fun hh => ?_))
      · cases hh
        exact t' rfl (re' (rt' rfl rfl rfl))
      cases hh
      exact sk' (t' rfl (re' (rt' rfl rfl rfl)))
    obtain ⟨x8, hx8, hh⟩ := bs' hh
    refine p' 1 rfl (L0.mi hC rfl (ei64.lkI hx8) (e' rfl (ci' rfl hh (fun hh => ?_) (fun hh => ?_))))
    · refine sk' (ci' rfl hh (fun hh => ?_) (fun hh => ?_))
      · cases hh
        exact t' rfl (re' (rt' rfl rfl rfl))
      cases hh
      exact sk' (t' rfl (re' (rt' rfl rfl rfl)))
    refine t' rfl (ci' rfl hh (fun hh => ?_) (fun hh => ?_))
    · refine sk' (ci' rfl hh (fun hh => ?_) (fun hh => ?_))
      · cases hh
        exact t' rfl (re' (rt' rfl rfl rfl))
      cases hh
      exact sk' (t' rfl (re' (rt' rfl rfl rfl)))
    refine T' rfl (ci' rfl hh (fun hh => ?_) (fun hh => ?_))
    · cases hh
      exact t' rfl (re' (rt' rfl rfl rfl))
    cases hh
    exact sk' (t' rfl (re' (rt' rfl rfl rfl)))
  · intro g0 g2 ih0 ih2 m01 x1 scalars1 hatches i x2 v231 res hh
    refine S' (sg' 7 rfl (G' 4 rfl (a1' rfl (a1' rfl (pa' rfl (an' (n' (ci' rfl hh (fun hh => ?_) (fun hh => ?_)))))))))
    · exact ex' (T' rfl (lw' (ih0 _ _ _ _ _ hh) rfl rfl rfl))
    obtain ⟨x3, hx3, hh⟩ := bs' hh
    obtain ⟨x4, hx4, hh⟩ := bs' hh
    exact sk' (p' 4 rfl (c' (L8 hx3) rfl rfl (c' (I19 hx4) rfl rfl (e' rfl (p' 2 rfl (qe' rfl trivial (P0.lenA _) (e' rfl (S' (p' 1 rfl (qe' rfl trivial (P0.lenA _) (e' rfl (bk' (fw' (ih2 _ _ _ _ _ _ _ _ _ _ hh) rfl rfl rfl)))))))))))))
  · intro g0 g2 ih0 ih2 m02 x1 scalars2 hatches n x2 v231 x4 v62 res hh
    refine A2.unroll (t' rfl (S' (ci' rfl hh (fun hh => ?_) (fun hh => ?_))))
    · obtain ⟨x9, hx9, hh⟩ := bs' hh
      refine sk' (S' (bk' (s' rfl rfl (i' rfl (C1 hx9) (P0.idx hx9) rfl (q' rfl (L0.n hC rfl (L0.s hC rfl (n' (t' rfl (ci' rfl hh (fun hh => ?_) (fun hh => ?_)))))))))))
      · obtain ⟨x10, hx10, hh⟩ := bs' hh
        exact P' 7 rfl (c' (Pp hx10) rfl rfl (e' rfl (T' rfl (lw' (ih2 _ _ _ _ _ _ _ _ _ _ hh) rfl rfl rfl))))
      exact sk' (T' rfl (lw' (ih2 _ _ _ _ _ _ _ _ _ _ hh) rfl rfl rfl))
    refine ex' (t' rfl (ci' rfl hh (fun hh => ?_) (fun hh => ?_)))
    · exact P' 4 rfl (L0.ui hC rfl (ei64.mputI _ n _) rfl (n' (T' rfl (lw' (ih0 _ _ _ _ _ hh) rfl rfl rfl))))
    exact sk' (T' rfl (lw' (ih0 _ _ _ _ _ hh) rfl rfl rfl))
theorem Pt {c m0 scalars hatches1 v23 res} (hh : V1 c m0 scalars hatches1 v23 = some res) : Hl c m0 scalars hatches1 v23 res := (Zd c).1 _ _ _ _ _ hh
theorem F1b {c m01 x1 scalars1 hatches i x2 v231 res} (hh : S3 c m01 x1 scalars1 hatches i x2 v231 = some res) : Il c m01 x1 scalars1 hatches i x2 v231 res := (Zd c).2.1 _ _ _ _ _ _ _ _ hh
theorem G1b {c m02 x1 scalars2 hatches n x2 v231 x4 v62 res} (hh : O2 c m02 x1 scalars2 hatches n x2 v231 x4 v62 = some res) : Jl c m02 x1 scalars2 hatches n x2 v231 x4 v62 res := (Zd c).2.2 _ _ _ _ _ _ _ _ _ _ hh
def X8 (c : D0) : Option Int :=
  V1 c (Sx 3 1 (Sx 2 1 (Sx 1 1 []))) 0 0 0
theorem Gx {c res} (hh : X8 c = some res) : T0 C 33 [.d (.box (D0.row c))] [] (Ret [] (.d (.int .i64 res))) := by
  unfold X8 at hh
  exact T0.intro hC Tryz.func33 rfl rfl rfl (t' rfl (t' rfl (s' rfl rfl (L0.wi .i64 rfl (L0.ui hC rfl (ei64.mputI _ 1 []) rfl (L0.ui hC rfl (ei64.mputI _ 1 _) rfl (L0.ui hC rfl (ei64.mputI _ 1 _) rfl (e' rfl (S' (p' 5 rfl (qe' rfl trivial (E0.lenA _) (e' rfl (bk' (fw' (Pt hh) rfl rfl rfl))))))))))))))
def R5 (p : N0) (x3 : D0) (v46 : Int) : Option (Int × Int) :=
  if (decide (v46 < ((p.Decls).length : Int))) = true then
    I8 x3 v46 >>= fun x5 =>
    if (x5 != 0) = true then
      some (v46, x5)
    else
      R5 p x3 (IntKind.i64.wrap (v46 + 1))
  else
    R4 x3 ((p.Decls).length : Int) true >>= fun x6 =>
    U1 x3 x6 p.Body true >>= fun x7 =>
    if (x7 != 0) = true then
      some ((-1), x7)
    else
      X8 x3 >>= fun x8 =>
      some ((-1), x8)
  partial_fixpoint
abbrev Qt (p : N0) (x3 : D0) (v46 : Int) (res : Int × Int) : Prop := LM C 71 0 Tryz.f13 [1, 1, 1, 1, 1, 0, 1, 4] [(1, .ref 0 0), (5, .d (.box (D0.row x3))), (45, .d (.int .i64 ((p.Decls).length : Int))), (46, .d (.int .i64 v46))] [.row (N0.cells p) 25] (Ret [] (.tup [.d (.int .i64 res.1), .d (.int .i64 res.2)]))
theorem O11 (p : N0) (x3 : D0) : (∀ v46 res, R5 p x3 v46 = some res → Qt p x3 v46 res) := by
  refine R5.partial_correctness p x3 _ ?_
  · intro g0 ih0 v46 res hh
    refine A2.unroll (t' rfl (S' (ci' rfl hh (fun hh => ?_) (fun hh => ?_))))
    · obtain ⟨x5, hx5, hh⟩ := bs' hh
      refine sk' (S' (bk' (t' rfl (p' 2 rfl (c' (Ty hx5) rfl rfl (e' rfl (t' rfl (ci' rfl hh (fun hh => ?_) (fun hh => ?_)))))))))
      · cases hh
        exact t' rfl (re' (rt' rfl rfl rfl))
      exact sk' (T' rfl (lw' (ih0 _ _ hh) rfl rfl rfl))
    obtain ⟨x6, hx6, hh⟩ := bs' hh
    obtain ⟨x7, hx7, hh⟩ := bs' hh
    refine ex' (S' (S' (AEx.draw hC 10 rfl rfl rfl (O' 4 rfl (AQ.qe hC rfl trivial (E0.lenA _) (Qc' (V0 hx6) rfl rfl (O' 2 rfl (Qc' (Mn hx7) rfl rfl (E' rfl (n' (t' rfl (ci' rfl hh (fun hh => ?_) (fun hh => ?_)))))))))))))
    · cases hh
      exact t' rfl (re' (rt' rfl rfl rfl))
    obtain ⟨x8, hx8, hh⟩ := bs' hh
    cases hh
    exact sk' (p' 1 rfl (c' (Gx hx8) rfl rfl (e' rfl (re' (rt' rfl rfl rfl)))))
theorem B13 {p x3 v46 res} (hh : R5 p x3 v46 = some res) : Qt p x3 v46 res := (O11 p x3) _ _ hh
def S5 (p : N0) (m1 : List (Str × Bool)) (v27 : Int) : Option (Int × Int) :=
  if (decide (v27 < ((p.Decls).length : Int))) = true then
    idx p.Decls v27 >>= fun x2 =>
    S5 p (mpt x2.Name true m1) (IntKind.i64.wrap (v27 + 1))
  else
    some (D0.mk p ((p.Decls).length : Int) false m1) >>= fun x3 =>
    N7 x3 >>= fun x4 =>
    if (decide (x4 ≥ 0)) = true then
      some (x4, 8)
    else
      R5 p x3 0
  partial_fixpoint
abbrev Rt (p : N0) (m1 : List (Str × Bool)) (v27 : Int) (res : Int × Int) : Prop := LM C 71 0 Tryz.f13 [1, 1, 1, 0, 1, 4] [(1, .ref 0 0), (5, .ref 2 0), (25, .d (.sl (E0.rows p.Decls))), (26, .d (.int .i64 ((p.Decls).length : Int))), (27, .d (.int .i64 v27))] [.row (N0.cells p) 25, .map (.s (ebool.ents m1)), .row [.d (.sl (E0.rows p.Decls)), .d (.sl (F0.rows p.Body)), .d (.int .i64 ((p.Decls).length : Int)), .d (.bool false), .mp 1] 66] (Ret [] (.tup [.d (.int .i64 res.1), .d (.int .i64 res.2)]))
theorem P11 (p : N0) : (∀ m1 v27 res, S5 p m1 v27 = some res → Rt p m1 v27 res) := by
  refine S5.partial_correctness p _ ?_
  · intro g0 ih0 m1 v27 res hh
    refine A2.unroll (t' rfl (S' (ci' rfl hh (fun hh => ?_) (fun hh => ?_))))
    · obtain ⟨x2, hx2, hh⟩ := bs' hh
      exact sk' (S' (bk' (s' rfl rfl (i' rfl (C1 hx2) (E0.idx hx2) rfl (q' rfl (L0.nf hC rfl (L0.s hC rfl (n' (AEx.draw hC 6 rfl rfl rfl (E' rfl (L0.ue hC rfl (ebool.mput _ true _) rfl (n' (T' rfl (lw' (ih0 _ _ _ hh) rfl rfl rfl))))))))))))))
    obtain ⟨x3, hx3, hh⟩ := bs' hh
    obtain ⟨x4, hx4, hh⟩ := bs' hh
    refine ex' (S' (p' 1 rfl (L0.fm 1 rfl rfl (L0.bx 2 (y := .box (D0.row x3)) (by cases hx3; exact .inl rfl) rfl rfl rfl (c' (It hx4) rfl rfl (e' rfl (t' rfl (ci' rfl hh (fun hh => ?_) (fun hh => ?_)))))))))
    · cases hh
      exact t' rfl (re' (rt' rfl rfl rfl))
    exact sk' (S' (p' 2 rfl (qe' rfl trivial (E0.lenA _) (e' rfl (bk' (fw' (B13 hh) rfl rfl rfl))))))
theorem C13 {p m1 v27 res} (hh : S5 p m1 v27 = some res) : Rt p m1 v27 res := (P11 p) _ _ _ hh
def X5 (p : N0) : Option (Int × Int) :=
  Vi p >>= fun x1 =>
  if (x1 != 0) = true then
    some ((-1), x1)
  else
    S5 p [] 0
theorem Vg {p res} (hh : X5 p = some res) : T0 C 13 [.agg (N0.cells p)] [] (Ret [] (.tup [.d (.int .i64 res.1), .d (.int .i64 res.2)])) := by
  unfold X5 at hh
  obtain ⟨x1, hx1, hh⟩ := bs' hh
  refine T0.intro hC Tryz.func13 rfl rfl rfl (s' rfl rfl (L0.n hC rfl (e' rfl (S' (p' 1 rfl (c' (D1b hx1) rfl rfl (e' rfl (t' rfl (ci' rfl hh (fun hh => ?_) (fun hh => ?_))))))))))
  · cases hh
    exact t' rfl (re' (rt' rfl rfl rfl))
  exact sk' (p' 3 rfl (qe' rfl trivial (E0.lenA _) (L0.w rfl (q' rfl (L0.n hC rfl (e' rfl (S' (p' 2 rfl (qe' rfl trivial (E0.lenA _) (e' rfl (bk' (fw' (C13 hh) rfl rfl rfl))))))))))))
def Ld (e : C0) : Option Int :=
  D3 e 1 (B0.mk 0 0 false false false) >>= fun x1 =>
  S6 x1 >>= fun x2 =>
  some x2
theorem E15 {e res} (hh : Ld e = some res) : T0 C 41 [.agg (C0.cells e)] [] (Ret [] (.d (.int .i64 res))) := by
  unfold Ld at hh
  obtain ⟨x1, hx1, hh⟩ := bs' hh
  obtain ⟨x2, hx2, hh⟩ := bs' hh
  cases hh
  exact T0.intro hC Tryz.func41 rfl rfl rfl (s' rfl rfl (L0.n hC rfl (e' rfl (p' 1 rfl (L0.n hC rfl (e' rfl (p' 2 rfl (g' [1] (Yl hx1) rfl rfl rfl rfl rfl rfl (n' (p' 1 rfl (g' [1] (Zl hx2) rfl rfl rfl rfl rfl rfl (e' rfl (re' (rt' rfl rfl rfl))))))))))))))
def U9 (p : N0) (e : C0) : Option (A0 × Int) :=
  X5 p >>= fun x1 =>
  if (x1.2 != 0) = true then
    some ((A0.mk 0 0 0 0 [] [] []), x1.2)
  else
    Ld e >>= fun x2 =>
    if (x2 != 0) = true then
      some ((A0.mk 0 0 0 0 [] [] []), x2)
    else
      some (D0.mk p 0 false []) >>= fun x3 =>
      R4 x3 ((p.Decls).length : Int) true >>= fun x4 =>
      X3 x4 e >>= fun x5 =>
      some (x5.1, x5.2)
theorem Xn {p e res} (hh : U9 p e = some res) : T0 C 16 [.agg (N0.cells p), .agg (C0.cells e)] [] (Ret [] (.tup [.agg (A0.cells res.1), .d (.int .i64 res.2)])) := by
  unfold U9 at hh
  obtain ⟨x1, hx1, hh⟩ := bs' hh
  refine T0.intro hC Tryz.func16 rfl rfl rfl (s' rfl rfl (L0.n hC rfl (L0.n hC rfl (L0.nf hC rfl (e' rfl (S' (p' 1 rfl (c' (Vg hx1) rfl rfl (e' rfl (t' rfl (ci' rfl hh (fun hh => ?_) (fun hh => ?_))))))))))))
  · cases hh
    exact p' 2 rfl (L0.s hC rfl (e' rfl (re' (rt' rfl rfl rfl))))
  obtain ⟨x2, hx2, hh⟩ := bs' hh
  refine sk' (S' (p' 1 rfl (c' (E15 hx2) rfl rfl (e' rfl (t' rfl (ci' rfl hh (fun hh => ?_) (fun hh => ?_)))))))
  · cases hh
    exact p' 2 rfl (L0.s hC rfl (e' rfl (re' (rt' rfl rfl rfl))))
  obtain ⟨x3, hx3, hh⟩ := bs' hh
  obtain ⟨x4, hx4, hh⟩ := bs' hh
  obtain ⟨x5, hx5, hh⟩ := bs' hh
  refine sk' (p' 2 rfl (L0.n hC rfl (e' rfl (S' (AEx.drawE hC ?_)))))
  refine Q0.step rfl (j0 := 0) (js := [1, 5]) (by kernel_rfl) ⟨⟨_, rfl, ?_⟩, ⟨_, rfl, ?_⟩, ⟨_, rfl, ?_⟩, trivial⟩
  · refine e' rfl ?_
    refine Q0.step rfl (j0 := 1) (js := [5]) (by kernel_rfl) ⟨⟨_, rfl, ?_⟩, ⟨_, rfl, ?_⟩, trivial⟩
    · refine e' rfl ?_
      refine Q0.step rfl (j0 := 2) (js := [5]) (by kernel_rfl) ⟨⟨_, rfl, ?_⟩, ⟨_, rfl, ?_⟩, trivial⟩
      · refine e' rfl ?_
        refine Q0.step rfl (j0 := 3) (js := [5]) (by kernel_rfl) ⟨⟨_, rfl, ?_⟩, ⟨_, rfl, ?_⟩, trivial⟩
        · refine qe' rfl trivial (E0.lenA _) (n' ?_)
          refine Q0.step rfl (j0 := 4) (js := [5]) (by kernel_rfl) ⟨⟨_, rfl, ?_⟩, ⟨_, rfl, ?_⟩, trivial⟩
          · refine L0.bx 3 (y := .box (D0.row x3)) (by cases hx3; exact .inl rfl) rfl rfl rfl (c' (V0 hx4) rfl rfl (n' ?_))
            refine Q0.step rfl (j0 := 5) (js := []) (by kernel_rfl) ⟨⟨_, rfl, ?_⟩, trivial⟩
            refine e' rfl ?_
            refine Q0.step rfl (j0 := 6) (js := []) (by kernel_rfl) ⟨⟨_, rfl, ?_⟩, trivial⟩
            refine c' (F1 hx5) rfl rfl (n' ?_)
            refine Q0.step rfl (j0 := 7) (js := [8]) (by kernel_rfl) ⟨⟨_, rfl, ?_⟩, ⟨_, rfl, ?_⟩, trivial⟩
            · refine e' rfl ?_
              refine Q0.step rfl (j0 := 8) (js := []) (by kernel_rfl) ⟨⟨_, rfl, ?_⟩, trivial⟩
              refine e' rfl ?_
              refine Q0.step rfl (j0 := 9) (js := []) (by kernel_rfl) ⟨⟨_, rfl, ?_⟩, trivial⟩
              refine L0.s hC rfl (n' ?_)
              refine Q0.step rfl (j0 := 10) (js := []) (by kernel_rfl) ⟨⟨_, rfl, ?_⟩, trivial⟩
              cases hh
              exact e' rfl (Q0.nil (by kernel_rfl) (re' (rt' rfl rfl rfl)))
            · refine e' rfl ?_
              refine Q0.step rfl (j0 := 7) (js := []) (by kernel_rfl) ⟨⟨_, rfl, ?_⟩, trivial⟩
              refine e' rfl ?_
              refine Q0.step rfl (j0 := 9) (js := []) (by kernel_rfl) ⟨⟨_, rfl, ?_⟩, trivial⟩
              refine L0.s hC rfl (n' ?_)
              refine Q0.step rfl (j0 := 10) (js := []) (by kernel_rfl) ⟨⟨_, rfl, ?_⟩, trivial⟩
              cases hh
              exact e' rfl (Q0.nil (by kernel_rfl) (re' (rt' rfl rfl rfl)))
          · refine e' rfl ?_
            refine Q0.step rfl (j0 := 4) (js := []) (by kernel_rfl) ⟨⟨_, rfl, ?_⟩, trivial⟩
            refine L0.bx 3 (y := .box (D0.row x3)) (by cases hx3; exact .inl rfl) rfl rfl rfl (c' (V0 hx4) rfl rfl (n' ?_))
            refine Q0.step rfl (j0 := 6) (js := []) (by kernel_rfl) ⟨⟨_, rfl, ?_⟩, trivial⟩
            refine c' (F1 hx5) rfl rfl (n' ?_)
            refine Q0.step rfl (j0 := 7) (js := [8]) (by kernel_rfl) ⟨⟨_, rfl, ?_⟩, ⟨_, rfl, ?_⟩, trivial⟩
            · refine e' rfl ?_
              refine Q0.step rfl (j0 := 8) (js := []) (by kernel_rfl) ⟨⟨_, rfl, ?_⟩, trivial⟩
              refine e' rfl ?_
              refine Q0.step rfl (j0 := 9) (js := []) (by kernel_rfl) ⟨⟨_, rfl, ?_⟩, trivial⟩
              refine L0.s hC rfl (n' ?_)
              refine Q0.step rfl (j0 := 10) (js := []) (by kernel_rfl) ⟨⟨_, rfl, ?_⟩, trivial⟩
              cases hh
              exact e' rfl (Q0.nil (by kernel_rfl) (re' (rt' rfl rfl rfl)))
            · refine e' rfl ?_
              refine Q0.step rfl (j0 := 7) (js := []) (by kernel_rfl) ⟨⟨_, rfl, ?_⟩, trivial⟩
              refine e' rfl ?_
              refine Q0.step rfl (j0 := 9) (js := []) (by kernel_rfl) ⟨⟨_, rfl, ?_⟩, trivial⟩
              refine L0.s hC rfl (n' ?_)
              refine Q0.step rfl (j0 := 10) (js := []) (by kernel_rfl) ⟨⟨_, rfl, ?_⟩, trivial⟩
              cases hh
              exact e' rfl (Q0.nil (by kernel_rfl) (re' (rt' rfl rfl rfl)))
        · refine e' rfl ?_
          refine Q0.step rfl (j0 := 3) (js := []) (by kernel_rfl) ⟨⟨_, rfl, ?_⟩, trivial⟩
          refine qe' rfl trivial (E0.lenA _) (n' ?_)
          refine Q0.step rfl (j0 := 4) (js := []) (by kernel_rfl) ⟨⟨_, rfl, ?_⟩, trivial⟩
          refine L0.bx 3 (y := .box (D0.row x3)) (by cases hx3; exact .inl rfl) rfl rfl rfl (c' (V0 hx4) rfl rfl (n' ?_))
          refine Q0.step rfl (j0 := 6) (js := []) (by kernel_rfl) ⟨⟨_, rfl, ?_⟩, trivial⟩
          refine c' (F1 hx5) rfl rfl (n' ?_)
          refine Q0.step rfl (j0 := 7) (js := [8]) (by kernel_rfl) ⟨⟨_, rfl, ?_⟩, ⟨_, rfl, ?_⟩, trivial⟩
          · refine e' rfl ?_
            refine Q0.step rfl (j0 := 8) (js := []) (by kernel_rfl) ⟨⟨_, rfl, ?_⟩, trivial⟩
            refine e' rfl ?_
            refine Q0.step rfl (j0 := 9) (js := []) (by kernel_rfl) ⟨⟨_, rfl, ?_⟩, trivial⟩
            refine L0.s hC rfl (n' ?_)
            refine Q0.step rfl (j0 := 10) (js := []) (by kernel_rfl) ⟨⟨_, rfl, ?_⟩, trivial⟩
            cases hh
            exact e' rfl (Q0.nil (by kernel_rfl) (re' (rt' rfl rfl rfl)))
          · refine e' rfl ?_
            refine Q0.step rfl (j0 := 7) (js := []) (by kernel_rfl) ⟨⟨_, rfl, ?_⟩, trivial⟩
            refine e' rfl ?_
            refine Q0.step rfl (j0 := 9) (js := []) (by kernel_rfl) ⟨⟨_, rfl, ?_⟩, trivial⟩
            refine L0.s hC rfl (n' ?_)
            refine Q0.step rfl (j0 := 10) (js := []) (by kernel_rfl) ⟨⟨_, rfl, ?_⟩, trivial⟩
            cases hh
            exact e' rfl (Q0.nil (by kernel_rfl) (re' (rt' rfl rfl rfl)))
      · refine e' rfl ?_
        refine Q0.step rfl (j0 := 2) (js := []) (by kernel_rfl) ⟨⟨_, rfl, ?_⟩, trivial⟩
        refine e' rfl ?_
        refine Q0.step rfl (j0 := 3) (js := []) (by kernel_rfl) ⟨⟨_, rfl, ?_⟩, trivial⟩
        refine qe' rfl trivial (E0.lenA _) (n' ?_)
        refine Q0.step rfl (j0 := 4) (js := []) (by kernel_rfl) ⟨⟨_, rfl, ?_⟩, trivial⟩
        refine L0.bx 3 (y := .box (D0.row x3)) (by cases hx3; exact .inl rfl) rfl rfl rfl (c' (V0 hx4) rfl rfl (n' ?_))
        refine Q0.step rfl (j0 := 6) (js := []) (by kernel_rfl) ⟨⟨_, rfl, ?_⟩, trivial⟩
        refine c' (F1 hx5) rfl rfl (n' ?_)
        refine Q0.step rfl (j0 := 7) (js := [8]) (by kernel_rfl) ⟨⟨_, rfl, ?_⟩, ⟨_, rfl, ?_⟩, trivial⟩
        · refine e' rfl ?_
          refine Q0.step rfl (j0 := 8) (js := []) (by kernel_rfl) ⟨⟨_, rfl, ?_⟩, trivial⟩
          refine e' rfl ?_
          refine Q0.step rfl (j0 := 9) (js := []) (by kernel_rfl) ⟨⟨_, rfl, ?_⟩, trivial⟩
          refine L0.s hC rfl (n' ?_)
          refine Q0.step rfl (j0 := 10) (js := []) (by kernel_rfl) ⟨⟨_, rfl, ?_⟩, trivial⟩
          cases hh
          exact e' rfl (Q0.nil (by kernel_rfl) (re' (rt' rfl rfl rfl)))
        · refine e' rfl ?_
          refine Q0.step rfl (j0 := 7) (js := []) (by kernel_rfl) ⟨⟨_, rfl, ?_⟩, trivial⟩
          refine e' rfl ?_
          refine Q0.step rfl (j0 := 9) (js := []) (by kernel_rfl) ⟨⟨_, rfl, ?_⟩, trivial⟩
          refine L0.s hC rfl (n' ?_)
          refine Q0.step rfl (j0 := 10) (js := []) (by kernel_rfl) ⟨⟨_, rfl, ?_⟩, trivial⟩
          cases hh
          exact e' rfl (Q0.nil (by kernel_rfl) (re' (rt' rfl rfl rfl)))
    · refine e' rfl ?_
      refine Q0.step rfl (j0 := 1) (js := []) (by kernel_rfl) ⟨⟨_, rfl, ?_⟩, trivial⟩
      refine e' rfl ?_
      refine Q0.step rfl (j0 := 2) (js := []) (by kernel_rfl) ⟨⟨_, rfl, ?_⟩, trivial⟩
      refine e' rfl ?_
      refine Q0.step rfl (j0 := 3) (js := []) (by kernel_rfl) ⟨⟨_, rfl, ?_⟩, trivial⟩
      refine qe' rfl trivial (E0.lenA _) (n' ?_)
      refine Q0.step rfl (j0 := 4) (js := []) (by kernel_rfl) ⟨⟨_, rfl, ?_⟩, trivial⟩
      refine L0.bx 3 (y := .box (D0.row x3)) (by cases hx3; exact .inl rfl) rfl rfl rfl (c' (V0 hx4) rfl rfl (n' ?_))
      refine Q0.step rfl (j0 := 6) (js := []) (by kernel_rfl) ⟨⟨_, rfl, ?_⟩, trivial⟩
      refine c' (F1 hx5) rfl rfl (n' ?_)
      refine Q0.step rfl (j0 := 7) (js := [8]) (by kernel_rfl) ⟨⟨_, rfl, ?_⟩, ⟨_, rfl, ?_⟩, trivial⟩
      · refine e' rfl ?_
        refine Q0.step rfl (j0 := 8) (js := []) (by kernel_rfl) ⟨⟨_, rfl, ?_⟩, trivial⟩
        refine e' rfl ?_
        refine Q0.step rfl (j0 := 9) (js := []) (by kernel_rfl) ⟨⟨_, rfl, ?_⟩, trivial⟩
        refine L0.s hC rfl (n' ?_)
        refine Q0.step rfl (j0 := 10) (js := []) (by kernel_rfl) ⟨⟨_, rfl, ?_⟩, trivial⟩
        cases hh
        exact e' rfl (Q0.nil (by kernel_rfl) (re' (rt' rfl rfl rfl)))
      · refine e' rfl ?_
        refine Q0.step rfl (j0 := 7) (js := []) (by kernel_rfl) ⟨⟨_, rfl, ?_⟩, trivial⟩
        refine e' rfl ?_
        refine Q0.step rfl (j0 := 9) (js := []) (by kernel_rfl) ⟨⟨_, rfl, ?_⟩, trivial⟩
        refine L0.s hC rfl (n' ?_)
        refine Q0.step rfl (j0 := 10) (js := []) (by kernel_rfl) ⟨⟨_, rfl, ?_⟩, trivial⟩
        cases hh
        exact e' rfl (Q0.nil (by kernel_rfl) (re' (rt' rfl rfl rfl)))
  · refine e' rfl ?_
    refine Q0.step rfl (j0 := 0) (js := [2, 5]) (by kernel_rfl) ⟨⟨_, rfl, ?_⟩, ⟨_, rfl, ?_⟩, ⟨_, rfl, ?_⟩, trivial⟩
    · refine e' rfl ?_
      refine Q0.step rfl (j0 := 2) (js := [5]) (by kernel_rfl) ⟨⟨_, rfl, ?_⟩, ⟨_, rfl, ?_⟩, trivial⟩
      · refine e' rfl ?_
        refine Q0.step rfl (j0 := 3) (js := [5]) (by kernel_rfl) ⟨⟨_, rfl, ?_⟩, ⟨_, rfl, ?_⟩, trivial⟩
        · refine qe' rfl trivial (E0.lenA _) (n' ?_)
          refine Q0.step rfl (j0 := 4) (js := [5]) (by kernel_rfl) ⟨⟨_, rfl, ?_⟩, ⟨_, rfl, ?_⟩, trivial⟩
          · refine L0.bx 3 (y := .box (D0.row x3)) (by cases hx3; exact .inl rfl) rfl rfl rfl (c' (V0 hx4) rfl rfl (n' ?_))
            refine Q0.step rfl (j0 := 5) (js := []) (by kernel_rfl) ⟨⟨_, rfl, ?_⟩, trivial⟩
            refine e' rfl ?_
            refine Q0.step rfl (j0 := 6) (js := []) (by kernel_rfl) ⟨⟨_, rfl, ?_⟩, trivial⟩
            refine c' (F1 hx5) rfl rfl (n' ?_)
            refine Q0.step rfl (j0 := 7) (js := [8]) (by kernel_rfl) ⟨⟨_, rfl, ?_⟩, ⟨_, rfl, ?_⟩, trivial⟩
            · refine e' rfl ?_
              refine Q0.step rfl (j0 := 8) (js := []) (by kernel_rfl) ⟨⟨_, rfl, ?_⟩, trivial⟩
              refine e' rfl ?_
              refine Q0.step rfl (j0 := 9) (js := []) (by kernel_rfl) ⟨⟨_, rfl, ?_⟩, trivial⟩
              refine L0.s hC rfl (n' ?_)
              refine Q0.step rfl (j0 := 10) (js := []) (by kernel_rfl) ⟨⟨_, rfl, ?_⟩, trivial⟩
              cases hh
              exact e' rfl (Q0.nil (by kernel_rfl) (re' (rt' rfl rfl rfl)))
            · refine e' rfl ?_
              refine Q0.step rfl (j0 := 7) (js := []) (by kernel_rfl) ⟨⟨_, rfl, ?_⟩, trivial⟩
              refine e' rfl ?_
              refine Q0.step rfl (j0 := 9) (js := []) (by kernel_rfl) ⟨⟨_, rfl, ?_⟩, trivial⟩
              refine L0.s hC rfl (n' ?_)
              refine Q0.step rfl (j0 := 10) (js := []) (by kernel_rfl) ⟨⟨_, rfl, ?_⟩, trivial⟩
              cases hh
              exact e' rfl (Q0.nil (by kernel_rfl) (re' (rt' rfl rfl rfl)))
          · refine e' rfl ?_
            refine Q0.step rfl (j0 := 4) (js := []) (by kernel_rfl) ⟨⟨_, rfl, ?_⟩, trivial⟩
            refine L0.bx 3 (y := .box (D0.row x3)) (by cases hx3; exact .inl rfl) rfl rfl rfl (c' (V0 hx4) rfl rfl (n' ?_))
            refine Q0.step rfl (j0 := 6) (js := []) (by kernel_rfl) ⟨⟨_, rfl, ?_⟩, trivial⟩
            refine c' (F1 hx5) rfl rfl (n' ?_)
            refine Q0.step rfl (j0 := 7) (js := [8]) (by kernel_rfl) ⟨⟨_, rfl, ?_⟩, ⟨_, rfl, ?_⟩, trivial⟩
            · refine e' rfl ?_
              refine Q0.step rfl (j0 := 8) (js := []) (by kernel_rfl) ⟨⟨_, rfl, ?_⟩, trivial⟩
              refine e' rfl ?_
              refine Q0.step rfl (j0 := 9) (js := []) (by kernel_rfl) ⟨⟨_, rfl, ?_⟩, trivial⟩
              refine L0.s hC rfl (n' ?_)
              refine Q0.step rfl (j0 := 10) (js := []) (by kernel_rfl) ⟨⟨_, rfl, ?_⟩, trivial⟩
              cases hh
              exact e' rfl (Q0.nil (by kernel_rfl) (re' (rt' rfl rfl rfl)))
            · refine e' rfl ?_
              refine Q0.step rfl (j0 := 7) (js := []) (by kernel_rfl) ⟨⟨_, rfl, ?_⟩, trivial⟩
              refine e' rfl ?_
              refine Q0.step rfl (j0 := 9) (js := []) (by kernel_rfl) ⟨⟨_, rfl, ?_⟩, trivial⟩
              refine L0.s hC rfl (n' ?_)
              refine Q0.step rfl (j0 := 10) (js := []) (by kernel_rfl) ⟨⟨_, rfl, ?_⟩, trivial⟩
              cases hh
              exact e' rfl (Q0.nil (by kernel_rfl) (re' (rt' rfl rfl rfl)))
        · refine e' rfl ?_
          refine Q0.step rfl (j0 := 3) (js := []) (by kernel_rfl) ⟨⟨_, rfl, ?_⟩, trivial⟩
          refine qe' rfl trivial (E0.lenA _) (n' ?_)
          refine Q0.step rfl (j0 := 4) (js := []) (by kernel_rfl) ⟨⟨_, rfl, ?_⟩, trivial⟩
          refine L0.bx 3 (y := .box (D0.row x3)) (by cases hx3; exact .inl rfl) rfl rfl rfl (c' (V0 hx4) rfl rfl (n' ?_))
          refine Q0.step rfl (j0 := 6) (js := []) (by kernel_rfl) ⟨⟨_, rfl, ?_⟩, trivial⟩
          refine c' (F1 hx5) rfl rfl (n' ?_)
          refine Q0.step rfl (j0 := 7) (js := [8]) (by kernel_rfl) ⟨⟨_, rfl, ?_⟩, ⟨_, rfl, ?_⟩, trivial⟩
          · refine e' rfl ?_
            refine Q0.step rfl (j0 := 8) (js := []) (by kernel_rfl) ⟨⟨_, rfl, ?_⟩, trivial⟩
            refine e' rfl ?_
            refine Q0.step rfl (j0 := 9) (js := []) (by kernel_rfl) ⟨⟨_, rfl, ?_⟩, trivial⟩
            refine L0.s hC rfl (n' ?_)
            refine Q0.step rfl (j0 := 10) (js := []) (by kernel_rfl) ⟨⟨_, rfl, ?_⟩, trivial⟩
            cases hh
            exact e' rfl (Q0.nil (by kernel_rfl) (re' (rt' rfl rfl rfl)))
          · refine e' rfl ?_
            refine Q0.step rfl (j0 := 7) (js := []) (by kernel_rfl) ⟨⟨_, rfl, ?_⟩, trivial⟩
            refine e' rfl ?_
            refine Q0.step rfl (j0 := 9) (js := []) (by kernel_rfl) ⟨⟨_, rfl, ?_⟩, trivial⟩
            refine L0.s hC rfl (n' ?_)
            refine Q0.step rfl (j0 := 10) (js := []) (by kernel_rfl) ⟨⟨_, rfl, ?_⟩, trivial⟩
            cases hh
            exact e' rfl (Q0.nil (by kernel_rfl) (re' (rt' rfl rfl rfl)))
      · refine e' rfl ?_
        refine Q0.step rfl (j0 := 2) (js := []) (by kernel_rfl) ⟨⟨_, rfl, ?_⟩, trivial⟩
        refine e' rfl ?_
        refine Q0.step rfl (j0 := 3) (js := []) (by kernel_rfl) ⟨⟨_, rfl, ?_⟩, trivial⟩
        refine qe' rfl trivial (E0.lenA _) (n' ?_)
        refine Q0.step rfl (j0 := 4) (js := []) (by kernel_rfl) ⟨⟨_, rfl, ?_⟩, trivial⟩
        refine L0.bx 3 (y := .box (D0.row x3)) (by cases hx3; exact .inl rfl) rfl rfl rfl (c' (V0 hx4) rfl rfl (n' ?_))
        refine Q0.step rfl (j0 := 6) (js := []) (by kernel_rfl) ⟨⟨_, rfl, ?_⟩, trivial⟩
        refine c' (F1 hx5) rfl rfl (n' ?_)
        refine Q0.step rfl (j0 := 7) (js := [8]) (by kernel_rfl) ⟨⟨_, rfl, ?_⟩, ⟨_, rfl, ?_⟩, trivial⟩
        · refine e' rfl ?_
          refine Q0.step rfl (j0 := 8) (js := []) (by kernel_rfl) ⟨⟨_, rfl, ?_⟩, trivial⟩
          refine e' rfl ?_
          refine Q0.step rfl (j0 := 9) (js := []) (by kernel_rfl) ⟨⟨_, rfl, ?_⟩, trivial⟩
          refine L0.s hC rfl (n' ?_)
          refine Q0.step rfl (j0 := 10) (js := []) (by kernel_rfl) ⟨⟨_, rfl, ?_⟩, trivial⟩
          cases hh
          exact e' rfl (Q0.nil (by kernel_rfl) (re' (rt' rfl rfl rfl)))
        · refine e' rfl ?_
          refine Q0.step rfl (j0 := 7) (js := []) (by kernel_rfl) ⟨⟨_, rfl, ?_⟩, trivial⟩
          refine e' rfl ?_
          refine Q0.step rfl (j0 := 9) (js := []) (by kernel_rfl) ⟨⟨_, rfl, ?_⟩, trivial⟩
          refine L0.s hC rfl (n' ?_)
          refine Q0.step rfl (j0 := 10) (js := []) (by kernel_rfl) ⟨⟨_, rfl, ?_⟩, trivial⟩
          cases hh
          exact e' rfl (Q0.nil (by kernel_rfl) (re' (rt' rfl rfl rfl)))
    · refine e' rfl ?_
      refine Q0.step rfl (j0 := 0) (js := [3, 5]) (by kernel_rfl) ⟨⟨_, rfl, ?_⟩, ⟨_, rfl, ?_⟩, ⟨_, rfl, ?_⟩, trivial⟩
      · refine e' rfl ?_
        refine Q0.step rfl (j0 := 3) (js := [5]) (by kernel_rfl) ⟨⟨_, rfl, ?_⟩, ⟨_, rfl, ?_⟩, trivial⟩
        · refine qe' rfl trivial (E0.lenA _) (n' ?_)
          refine Q0.step rfl (j0 := 4) (js := [5]) (by kernel_rfl) ⟨⟨_, rfl, ?_⟩, ⟨_, rfl, ?_⟩, trivial⟩
          · refine L0.bx 3 (y := .box (D0.row x3)) (by cases hx3; exact .inl rfl) rfl rfl rfl (c' (V0 hx4) rfl rfl (n' ?_))
            refine Q0.step rfl (j0 := 5) (js := []) (by kernel_rfl) ⟨⟨_, rfl, ?_⟩, trivial⟩
            refine e' rfl ?_
            refine Q0.step rfl (j0 := 6) (js := []) (by kernel_rfl) ⟨⟨_, rfl, ?_⟩, trivial⟩
            refine c' (F1 hx5) rfl rfl (n' ?_)
            refine Q0.step rfl (j0 := 7) (js := [8]) (by kernel_rfl) ⟨⟨_, rfl, ?_⟩, ⟨_, rfl, ?_⟩, trivial⟩
            · refine e' rfl ?_
              refine Q0.step rfl (j0 := 8) (js := []) (by kernel_rfl) ⟨⟨_, rfl, ?_⟩, trivial⟩
              refine e' rfl ?_
              refine Q0.step rfl (j0 := 9) (js := []) (by kernel_rfl) ⟨⟨_, rfl, ?_⟩, trivial⟩
              refine L0.s hC rfl (n' ?_)
              refine Q0.step rfl (j0 := 10) (js := []) (by kernel_rfl) ⟨⟨_, rfl, ?_⟩, trivial⟩
              cases hh
              exact e' rfl (Q0.nil (by kernel_rfl) (re' (rt' rfl rfl rfl)))
            · refine e' rfl ?_
              refine Q0.step rfl (j0 := 7) (js := []) (by kernel_rfl) ⟨⟨_, rfl, ?_⟩, trivial⟩
              refine e' rfl ?_
              refine Q0.step rfl (j0 := 9) (js := []) (by kernel_rfl) ⟨⟨_, rfl, ?_⟩, trivial⟩
              refine L0.s hC rfl (n' ?_)
              refine Q0.step rfl (j0 := 10) (js := []) (by kernel_rfl) ⟨⟨_, rfl, ?_⟩, trivial⟩
              cases hh
              exact e' rfl (Q0.nil (by kernel_rfl) (re' (rt' rfl rfl rfl)))
          · refine e' rfl ?_
            refine Q0.step rfl (j0 := 4) (js := []) (by kernel_rfl) ⟨⟨_, rfl, ?_⟩, trivial⟩
            refine L0.bx 3 (y := .box (D0.row x3)) (by cases hx3; exact .inl rfl) rfl rfl rfl (c' (V0 hx4) rfl rfl (n' ?_))
            refine Q0.step rfl (j0 := 6) (js := []) (by kernel_rfl) ⟨⟨_, rfl, ?_⟩, trivial⟩
            refine c' (F1 hx5) rfl rfl (n' ?_)
            refine Q0.step rfl (j0 := 7) (js := [8]) (by kernel_rfl) ⟨⟨_, rfl, ?_⟩, ⟨_, rfl, ?_⟩, trivial⟩
            · refine e' rfl ?_
              refine Q0.step rfl (j0 := 8) (js := []) (by kernel_rfl) ⟨⟨_, rfl, ?_⟩, trivial⟩
              refine e' rfl ?_
              refine Q0.step rfl (j0 := 9) (js := []) (by kernel_rfl) ⟨⟨_, rfl, ?_⟩, trivial⟩
              refine L0.s hC rfl (n' ?_)
              refine Q0.step rfl (j0 := 10) (js := []) (by kernel_rfl) ⟨⟨_, rfl, ?_⟩, trivial⟩
              cases hh
              exact e' rfl (Q0.nil (by kernel_rfl) (re' (rt' rfl rfl rfl)))
            · refine e' rfl ?_
              refine Q0.step rfl (j0 := 7) (js := []) (by kernel_rfl) ⟨⟨_, rfl, ?_⟩, trivial⟩
              refine e' rfl ?_
              refine Q0.step rfl (j0 := 9) (js := []) (by kernel_rfl) ⟨⟨_, rfl, ?_⟩, trivial⟩
              refine L0.s hC rfl (n' ?_)
              refine Q0.step rfl (j0 := 10) (js := []) (by kernel_rfl) ⟨⟨_, rfl, ?_⟩, trivial⟩
              cases hh
              exact e' rfl (Q0.nil (by kernel_rfl) (re' (rt' rfl rfl rfl)))
        · refine e' rfl ?_
          refine Q0.step rfl (j0 := 3) (js := []) (by kernel_rfl) ⟨⟨_, rfl, ?_⟩, trivial⟩
          refine qe' rfl trivial (E0.lenA _) (n' ?_)
          refine Q0.step rfl (j0 := 4) (js := []) (by kernel_rfl) ⟨⟨_, rfl, ?_⟩, trivial⟩
          refine L0.bx 3 (y := .box (D0.row x3)) (by cases hx3; exact .inl rfl) rfl rfl rfl (c' (V0 hx4) rfl rfl (n' ?_))
          refine Q0.step rfl (j0 := 6) (js := []) (by kernel_rfl) ⟨⟨_, rfl, ?_⟩, trivial⟩
          refine c' (F1 hx5) rfl rfl (n' ?_)
          refine Q0.step rfl (j0 := 7) (js := [8]) (by kernel_rfl) ⟨⟨_, rfl, ?_⟩, ⟨_, rfl, ?_⟩, trivial⟩
          · refine e' rfl ?_
            refine Q0.step rfl (j0 := 8) (js := []) (by kernel_rfl) ⟨⟨_, rfl, ?_⟩, trivial⟩
            refine e' rfl ?_
            refine Q0.step rfl (j0 := 9) (js := []) (by kernel_rfl) ⟨⟨_, rfl, ?_⟩, trivial⟩
            refine L0.s hC rfl (n' ?_)
            refine Q0.step rfl (j0 := 10) (js := []) (by kernel_rfl) ⟨⟨_, rfl, ?_⟩, trivial⟩
            cases hh
            exact e' rfl (Q0.nil (by kernel_rfl) (re' (rt' rfl rfl rfl)))
          · refine e' rfl ?_
            refine Q0.step rfl (j0 := 7) (js := []) (by kernel_rfl) ⟨⟨_, rfl, ?_⟩, trivial⟩
            refine e' rfl ?_
            refine Q0.step rfl (j0 := 9) (js := []) (by kernel_rfl) ⟨⟨_, rfl, ?_⟩, trivial⟩
            refine L0.s hC rfl (n' ?_)
            refine Q0.step rfl (j0 := 10) (js := []) (by kernel_rfl) ⟨⟨_, rfl, ?_⟩, trivial⟩
            cases hh
            exact e' rfl (Q0.nil (by kernel_rfl) (re' (rt' rfl rfl rfl)))
      · refine qe' rfl trivial (E0.lenA _) (n' ?_)
        refine Q0.step rfl (j0 := 0) (js := [5]) (by kernel_rfl) ⟨⟨_, rfl, ?_⟩, ⟨_, rfl, ?_⟩, trivial⟩
        · refine e' rfl ?_
          refine Q0.step rfl (j0 := 4) (js := [5]) (by kernel_rfl) ⟨⟨_, rfl, ?_⟩, ⟨_, rfl, ?_⟩, trivial⟩
          · refine L0.bx 3 (y := .box (D0.row x3)) (by cases hx3; exact .inl rfl) rfl rfl rfl (c' (V0 hx4) rfl rfl (n' ?_))
            refine Q0.step rfl (j0 := 5) (js := []) (by kernel_rfl) ⟨⟨_, rfl, ?_⟩, trivial⟩
            refine e' rfl ?_
            refine Q0.step rfl (j0 := 6) (js := []) (by kernel_rfl) ⟨⟨_, rfl, ?_⟩, trivial⟩
            refine c' (F1 hx5) rfl rfl (n' ?_)
            refine Q0.step rfl (j0 := 7) (js := [8]) (by kernel_rfl) ⟨⟨_, rfl, ?_⟩, ⟨_, rfl, ?_⟩, trivial⟩
            · refine e' rfl ?_
              refine Q0.step rfl (j0 := 8) (js := []) (by kernel_rfl) ⟨⟨_, rfl, ?_⟩, trivial⟩
              refine e' rfl ?_
              refine Q0.step rfl (j0 := 9) (js := []) (by kernel_rfl) ⟨⟨_, rfl, ?_⟩, trivial⟩
              refine L0.s hC rfl (n' ?_)
              refine Q0.step rfl (j0 := 10) (js := []) (by kernel_rfl) ⟨⟨_, rfl, ?_⟩, trivial⟩
              cases hh
              exact e' rfl (Q0.nil (by kernel_rfl) (re' (rt' rfl rfl rfl)))
            · refine e' rfl ?_
              refine Q0.step rfl (j0 := 7) (js := []) (by kernel_rfl) ⟨⟨_, rfl, ?_⟩, trivial⟩
              refine e' rfl ?_
              refine Q0.step rfl (j0 := 9) (js := []) (by kernel_rfl) ⟨⟨_, rfl, ?_⟩, trivial⟩
              refine L0.s hC rfl (n' ?_)
              refine Q0.step rfl (j0 := 10) (js := []) (by kernel_rfl) ⟨⟨_, rfl, ?_⟩, trivial⟩
              cases hh
              exact e' rfl (Q0.nil (by kernel_rfl) (re' (rt' rfl rfl rfl)))
          · refine e' rfl ?_
            refine Q0.step rfl (j0 := 4) (js := []) (by kernel_rfl) ⟨⟨_, rfl, ?_⟩, trivial⟩
            refine L0.bx 3 (y := .box (D0.row x3)) (by cases hx3; exact .inl rfl) rfl rfl rfl (c' (V0 hx4) rfl rfl (n' ?_))
            refine Q0.step rfl (j0 := 6) (js := []) (by kernel_rfl) ⟨⟨_, rfl, ?_⟩, trivial⟩
            refine c' (F1 hx5) rfl rfl (n' ?_)
            refine Q0.step rfl (j0 := 7) (js := [8]) (by kernel_rfl) ⟨⟨_, rfl, ?_⟩, ⟨_, rfl, ?_⟩, trivial⟩
            · refine e' rfl ?_
              refine Q0.step rfl (j0 := 8) (js := []) (by kernel_rfl) ⟨⟨_, rfl, ?_⟩, trivial⟩
              refine e' rfl ?_
              refine Q0.step rfl (j0 := 9) (js := []) (by kernel_rfl) ⟨⟨_, rfl, ?_⟩, trivial⟩
              refine L0.s hC rfl (n' ?_)
              refine Q0.step rfl (j0 := 10) (js := []) (by kernel_rfl) ⟨⟨_, rfl, ?_⟩, trivial⟩
              cases hh
              exact e' rfl (Q0.nil (by kernel_rfl) (re' (rt' rfl rfl rfl)))
            · refine e' rfl ?_
              refine Q0.step rfl (j0 := 7) (js := []) (by kernel_rfl) ⟨⟨_, rfl, ?_⟩, trivial⟩
              refine e' rfl ?_
              refine Q0.step rfl (j0 := 9) (js := []) (by kernel_rfl) ⟨⟨_, rfl, ?_⟩, trivial⟩
              refine L0.s hC rfl (n' ?_)
              refine Q0.step rfl (j0 := 10) (js := []) (by kernel_rfl) ⟨⟨_, rfl, ?_⟩, trivial⟩
              cases hh
              exact e' rfl (Q0.nil (by kernel_rfl) (re' (rt' rfl rfl rfl)))
        · refine e' rfl ?_
          refine Q0.step rfl (j0 := 0) (js := []) (by kernel_rfl) ⟨⟨_, rfl, ?_⟩, trivial⟩
          refine e' rfl ?_
          refine Q0.step rfl (j0 := 4) (js := []) (by kernel_rfl) ⟨⟨_, rfl, ?_⟩, trivial⟩
          refine L0.bx 3 (y := .box (D0.row x3)) (by cases hx3; exact .inl rfl) rfl rfl rfl (c' (V0 hx4) rfl rfl (n' ?_))
          refine Q0.step rfl (j0 := 6) (js := []) (by kernel_rfl) ⟨⟨_, rfl, ?_⟩, trivial⟩
          refine c' (F1 hx5) rfl rfl (n' ?_)
          refine Q0.step rfl (j0 := 7) (js := [8]) (by kernel_rfl) ⟨⟨_, rfl, ?_⟩, ⟨_, rfl, ?_⟩, trivial⟩
          · refine e' rfl ?_
            refine Q0.step rfl (j0 := 8) (js := []) (by kernel_rfl) ⟨⟨_, rfl, ?_⟩, trivial⟩
            refine e' rfl ?_
            refine Q0.step rfl (j0 := 9) (js := []) (by kernel_rfl) ⟨⟨_, rfl, ?_⟩, trivial⟩
            refine L0.s hC rfl (n' ?_)
            refine Q0.step rfl (j0 := 10) (js := []) (by kernel_rfl) ⟨⟨_, rfl, ?_⟩, trivial⟩
            cases hh
            exact e' rfl (Q0.nil (by kernel_rfl) (re' (rt' rfl rfl rfl)))
          · refine e' rfl ?_
            refine Q0.step rfl (j0 := 7) (js := []) (by kernel_rfl) ⟨⟨_, rfl, ?_⟩, trivial⟩
            refine e' rfl ?_
            refine Q0.step rfl (j0 := 9) (js := []) (by kernel_rfl) ⟨⟨_, rfl, ?_⟩, trivial⟩
            refine L0.s hC rfl (n' ?_)
            refine Q0.step rfl (j0 := 10) (js := []) (by kernel_rfl) ⟨⟨_, rfl, ?_⟩, trivial⟩
            cases hh
            exact e' rfl (Q0.nil (by kernel_rfl) (re' (rt' rfl rfl rfl)))
      · refine e' rfl ?_
        refine Q0.step rfl (j0 := 0) (js := [3]) (by kernel_rfl) ⟨⟨_, rfl, ?_⟩, ⟨_, rfl, ?_⟩, trivial⟩
        · refine e' rfl ?_
          refine Q0.step rfl (j0 := 3) (js := []) (by kernel_rfl) ⟨⟨_, rfl, ?_⟩, trivial⟩
          refine qe' rfl trivial (E0.lenA _) (n' ?_)
          refine Q0.step rfl (j0 := 4) (js := []) (by kernel_rfl) ⟨⟨_, rfl, ?_⟩, trivial⟩
          refine L0.bx 3 (y := .box (D0.row x3)) (by cases hx3; exact .inl rfl) rfl rfl rfl (c' (V0 hx4) rfl rfl (n' ?_))
          refine Q0.step rfl (j0 := 6) (js := []) (by kernel_rfl) ⟨⟨_, rfl, ?_⟩, trivial⟩
          refine c' (F1 hx5) rfl rfl (n' ?_)
          refine Q0.step rfl (j0 := 7) (js := [8]) (by kernel_rfl) ⟨⟨_, rfl, ?_⟩, ⟨_, rfl, ?_⟩, trivial⟩
          · refine e' rfl ?_
            refine Q0.step rfl (j0 := 8) (js := []) (by kernel_rfl) ⟨⟨_, rfl, ?_⟩, trivial⟩
            refine e' rfl ?_
            refine Q0.step rfl (j0 := 9) (js := []) (by kernel_rfl) ⟨⟨_, rfl, ?_⟩, trivial⟩
            refine L0.s hC rfl (n' ?_)
            refine Q0.step rfl (j0 := 10) (js := []) (by kernel_rfl) ⟨⟨_, rfl, ?_⟩, trivial⟩
            cases hh
            exact e' rfl (Q0.nil (by kernel_rfl) (re' (rt' rfl rfl rfl)))
          · refine e' rfl ?_
            refine Q0.step rfl (j0 := 7) (js := []) (by kernel_rfl) ⟨⟨_, rfl, ?_⟩, trivial⟩
            refine e' rfl ?_
            refine Q0.step rfl (j0 := 9) (js := []) (by kernel_rfl) ⟨⟨_, rfl, ?_⟩, trivial⟩
            refine L0.s hC rfl (n' ?_)
            refine Q0.step rfl (j0 := 10) (js := []) (by kernel_rfl) ⟨⟨_, rfl, ?_⟩, trivial⟩
            cases hh
            exact e' rfl (Q0.nil (by kernel_rfl) (re' (rt' rfl rfl rfl)))
        · refine qe' rfl trivial (E0.lenA _) (n' ?_)
          refine Q0.step rfl (j0 := 0) (js := []) (by kernel_rfl) ⟨⟨_, rfl, ?_⟩, trivial⟩
          refine e' rfl ?_
          refine Q0.step rfl (j0 := 4) (js := []) (by kernel_rfl) ⟨⟨_, rfl, ?_⟩, trivial⟩
          refine L0.bx 3 (y := .box (D0.row x3)) (by cases hx3; exact .inl rfl) rfl rfl rfl (c' (V0 hx4) rfl rfl (n' ?_))
          refine Q0.step rfl (j0 := 6) (js := []) (by kernel_rfl) ⟨⟨_, rfl, ?_⟩, trivial⟩
          refine c' (F1 hx5) rfl rfl (n' ?_)
          refine Q0.step rfl (j0 := 7) (js := [8]) (by kernel_rfl) ⟨⟨_, rfl, ?_⟩, ⟨_, rfl, ?_⟩, trivial⟩
          · refine e' rfl ?_
            refine Q0.step rfl (j0 := 8) (js := []) (by kernel_rfl) ⟨⟨_, rfl, ?_⟩, trivial⟩
            refine e' rfl ?_
            refine Q0.step rfl (j0 := 9) (js := []) (by kernel_rfl) ⟨⟨_, rfl, ?_⟩, trivial⟩
            refine L0.s hC rfl (n' ?_)
            refine Q0.step rfl (j0 := 10) (js := []) (by kernel_rfl) ⟨⟨_, rfl, ?_⟩, trivial⟩
            cases hh
            exact e' rfl (Q0.nil (by kernel_rfl) (re' (rt' rfl rfl rfl)))
          · refine e' rfl ?_
            refine Q0.step rfl (j0 := 7) (js := []) (by kernel_rfl) ⟨⟨_, rfl, ?_⟩, trivial⟩
            refine e' rfl ?_
            refine Q0.step rfl (j0 := 9) (js := []) (by kernel_rfl) ⟨⟨_, rfl, ?_⟩, trivial⟩
            refine L0.s hC rfl (n' ?_)
            refine Q0.step rfl (j0 := 10) (js := []) (by kernel_rfl) ⟨⟨_, rfl, ?_⟩, trivial⟩
            cases hh
            exact e' rfl (Q0.nil (by kernel_rfl) (re' (rt' rfl rfl rfl)))
    · refine e' rfl ?_
      refine Q0.step rfl (j0 := 0) (js := [2]) (by kernel_rfl) ⟨⟨_, rfl, ?_⟩, ⟨_, rfl, ?_⟩, trivial⟩
      · refine e' rfl ?_
        refine Q0.step rfl (j0 := 2) (js := []) (by kernel_rfl) ⟨⟨_, rfl, ?_⟩, trivial⟩
        refine e' rfl ?_
        refine Q0.step rfl (j0 := 3) (js := []) (by kernel_rfl) ⟨⟨_, rfl, ?_⟩, trivial⟩
        refine qe' rfl trivial (E0.lenA _) (n' ?_)
        refine Q0.step rfl (j0 := 4) (js := []) (by kernel_rfl) ⟨⟨_, rfl, ?_⟩, trivial⟩
        refine L0.bx 3 (y := .box (D0.row x3)) (by cases hx3; exact .inl rfl) rfl rfl rfl (c' (V0 hx4) rfl rfl (n' ?_))
        refine Q0.step rfl (j0 := 6) (js := []) (by kernel_rfl) ⟨⟨_, rfl, ?_⟩, trivial⟩
        refine c' (F1 hx5) rfl rfl (n' ?_)
        refine Q0.step rfl (j0 := 7) (js := [8]) (by kernel_rfl) ⟨⟨_, rfl, ?_⟩, ⟨_, rfl, ?_⟩, trivial⟩
        · refine e' rfl ?_
          refine Q0.step rfl (j0 := 8) (js := []) (by kernel_rfl) ⟨⟨_, rfl, ?_⟩, trivial⟩
          refine e' rfl ?_
          refine Q0.step rfl (j0 := 9) (js := []) (by kernel_rfl) ⟨⟨_, rfl, ?_⟩, trivial⟩
          refine L0.s hC rfl (n' ?_)
          refine Q0.step rfl (j0 := 10) (js := []) (by kernel_rfl) ⟨⟨_, rfl, ?_⟩, trivial⟩
          cases hh
          exact e' rfl (Q0.nil (by kernel_rfl) (re' (rt' rfl rfl rfl)))
        · refine e' rfl ?_
          refine Q0.step rfl (j0 := 7) (js := []) (by kernel_rfl) ⟨⟨_, rfl, ?_⟩, trivial⟩
          refine e' rfl ?_
          refine Q0.step rfl (j0 := 9) (js := []) (by kernel_rfl) ⟨⟨_, rfl, ?_⟩, trivial⟩
          refine L0.s hC rfl (n' ?_)
          refine Q0.step rfl (j0 := 10) (js := []) (by kernel_rfl) ⟨⟨_, rfl, ?_⟩, trivial⟩
          cases hh
          exact e' rfl (Q0.nil (by kernel_rfl) (re' (rt' rfl rfl rfl)))
      · refine e' rfl ?_
        refine Q0.step rfl (j0 := 0) (js := [3]) (by kernel_rfl) ⟨⟨_, rfl, ?_⟩, ⟨_, rfl, ?_⟩, trivial⟩
        · refine e' rfl ?_
          refine Q0.step rfl (j0 := 3) (js := []) (by kernel_rfl) ⟨⟨_, rfl, ?_⟩, trivial⟩
          refine qe' rfl trivial (E0.lenA _) (n' ?_)
          refine Q0.step rfl (j0 := 4) (js := []) (by kernel_rfl) ⟨⟨_, rfl, ?_⟩, trivial⟩
          refine L0.bx 3 (y := .box (D0.row x3)) (by cases hx3; exact .inl rfl) rfl rfl rfl (c' (V0 hx4) rfl rfl (n' ?_))
          refine Q0.step rfl (j0 := 6) (js := []) (by kernel_rfl) ⟨⟨_, rfl, ?_⟩, trivial⟩
          refine c' (F1 hx5) rfl rfl (n' ?_)
          refine Q0.step rfl (j0 := 7) (js := [8]) (by kernel_rfl) ⟨⟨_, rfl, ?_⟩, ⟨_, rfl, ?_⟩, trivial⟩
          · refine e' rfl ?_
            refine Q0.step rfl (j0 := 8) (js := []) (by kernel_rfl) ⟨⟨_, rfl, ?_⟩, trivial⟩
            refine e' rfl ?_
            refine Q0.step rfl (j0 := 9) (js := []) (by kernel_rfl) ⟨⟨_, rfl, ?_⟩, trivial⟩
            refine L0.s hC rfl (n' ?_)
            refine Q0.step rfl (j0 := 10) (js := []) (by kernel_rfl) ⟨⟨_, rfl, ?_⟩, trivial⟩
            cases hh
            exact e' rfl (Q0.nil (by kernel_rfl) (re' (rt' rfl rfl rfl)))
          · refine e' rfl ?_
            refine Q0.step rfl (j0 := 7) (js := []) (by kernel_rfl) ⟨⟨_, rfl, ?_⟩, trivial⟩
            refine e' rfl ?_
            refine Q0.step rfl (j0 := 9) (js := []) (by kernel_rfl) ⟨⟨_, rfl, ?_⟩, trivial⟩
            refine L0.s hC rfl (n' ?_)
            refine Q0.step rfl (j0 := 10) (js := []) (by kernel_rfl) ⟨⟨_, rfl, ?_⟩, trivial⟩
            cases hh
            exact e' rfl (Q0.nil (by kernel_rfl) (re' (rt' rfl rfl rfl)))
        · refine qe' rfl trivial (E0.lenA _) (n' ?_)
          refine Q0.step rfl (j0 := 0) (js := []) (by kernel_rfl) ⟨⟨_, rfl, ?_⟩, trivial⟩
          refine e' rfl ?_
          refine Q0.step rfl (j0 := 4) (js := []) (by kernel_rfl) ⟨⟨_, rfl, ?_⟩, trivial⟩
          refine L0.bx 3 (y := .box (D0.row x3)) (by cases hx3; exact .inl rfl) rfl rfl rfl (c' (V0 hx4) rfl rfl (n' ?_))
          refine Q0.step rfl (j0 := 6) (js := []) (by kernel_rfl) ⟨⟨_, rfl, ?_⟩, trivial⟩
          refine c' (F1 hx5) rfl rfl (n' ?_)
          refine Q0.step rfl (j0 := 7) (js := [8]) (by kernel_rfl) ⟨⟨_, rfl, ?_⟩, ⟨_, rfl, ?_⟩, trivial⟩
          · refine e' rfl ?_
            refine Q0.step rfl (j0 := 8) (js := []) (by kernel_rfl) ⟨⟨_, rfl, ?_⟩, trivial⟩
            refine e' rfl ?_
            refine Q0.step rfl (j0 := 9) (js := []) (by kernel_rfl) ⟨⟨_, rfl, ?_⟩, trivial⟩
            refine L0.s hC rfl (n' ?_)
            refine Q0.step rfl (j0 := 10) (js := []) (by kernel_rfl) ⟨⟨_, rfl, ?_⟩, trivial⟩
            cases hh
            exact e' rfl (Q0.nil (by kernel_rfl) (re' (rt' rfl rfl rfl)))
          · refine e' rfl ?_
            refine Q0.step rfl (j0 := 7) (js := []) (by kernel_rfl) ⟨⟨_, rfl, ?_⟩, trivial⟩
            refine e' rfl ?_
            refine Q0.step rfl (j0 := 9) (js := []) (by kernel_rfl) ⟨⟨_, rfl, ?_⟩, trivial⟩
            refine L0.s hC rfl (n' ?_)
            refine Q0.step rfl (j0 := 10) (js := []) (by kernel_rfl) ⟨⟨_, rfl, ?_⟩, trivial⟩
            cases hh
            exact e' rfl (Q0.nil (by kernel_rfl) (re' (rt' rfl rfl rfl)))
  · refine e' rfl ?_
    refine Q0.step rfl (j0 := 0) (js := [1]) (by kernel_rfl) ⟨⟨_, rfl, ?_⟩, ⟨_, rfl, ?_⟩, trivial⟩
    · refine e' rfl ?_
      refine Q0.step rfl (j0 := 1) (js := []) (by kernel_rfl) ⟨⟨_, rfl, ?_⟩, trivial⟩
      refine e' rfl ?_
      refine Q0.step rfl (j0 := 2) (js := []) (by kernel_rfl) ⟨⟨_, rfl, ?_⟩, trivial⟩
      refine e' rfl ?_
      refine Q0.step rfl (j0 := 3) (js := []) (by kernel_rfl) ⟨⟨_, rfl, ?_⟩, trivial⟩
      refine qe' rfl trivial (E0.lenA _) (n' ?_)
      refine Q0.step rfl (j0 := 4) (js := []) (by kernel_rfl) ⟨⟨_, rfl, ?_⟩, trivial⟩
      refine L0.bx 3 (y := .box (D0.row x3)) (by cases hx3; exact .inl rfl) rfl rfl rfl (c' (V0 hx4) rfl rfl (n' ?_))
      refine Q0.step rfl (j0 := 6) (js := []) (by kernel_rfl) ⟨⟨_, rfl, ?_⟩, trivial⟩
      refine c' (F1 hx5) rfl rfl (n' ?_)
      refine Q0.step rfl (j0 := 7) (js := [8]) (by kernel_rfl) ⟨⟨_, rfl, ?_⟩, ⟨_, rfl, ?_⟩, trivial⟩
      · refine e' rfl ?_
        refine Q0.step rfl (j0 := 8) (js := []) (by kernel_rfl) ⟨⟨_, rfl, ?_⟩, trivial⟩
        refine e' rfl ?_
        refine Q0.step rfl (j0 := 9) (js := []) (by kernel_rfl) ⟨⟨_, rfl, ?_⟩, trivial⟩
        refine L0.s hC rfl (n' ?_)
        refine Q0.step rfl (j0 := 10) (js := []) (by kernel_rfl) ⟨⟨_, rfl, ?_⟩, trivial⟩
        cases hh
        exact e' rfl (Q0.nil (by kernel_rfl) (re' (rt' rfl rfl rfl)))
      · refine e' rfl ?_
        refine Q0.step rfl (j0 := 7) (js := []) (by kernel_rfl) ⟨⟨_, rfl, ?_⟩, trivial⟩
        refine e' rfl ?_
        refine Q0.step rfl (j0 := 9) (js := []) (by kernel_rfl) ⟨⟨_, rfl, ?_⟩, trivial⟩
        refine L0.s hC rfl (n' ?_)
        refine Q0.step rfl (j0 := 10) (js := []) (by kernel_rfl) ⟨⟨_, rfl, ?_⟩, trivial⟩
        cases hh
        exact e' rfl (Q0.nil (by kernel_rfl) (re' (rt' rfl rfl rfl)))
    · refine e' rfl ?_
      refine Q0.step rfl (j0 := 0) (js := [2]) (by kernel_rfl) ⟨⟨_, rfl, ?_⟩, ⟨_, rfl, ?_⟩, trivial⟩
      · refine e' rfl ?_
        refine Q0.step rfl (j0 := 2) (js := []) (by kernel_rfl) ⟨⟨_, rfl, ?_⟩, trivial⟩
        refine e' rfl ?_
        refine Q0.step rfl (j0 := 3) (js := []) (by kernel_rfl) ⟨⟨_, rfl, ?_⟩, trivial⟩
        refine qe' rfl trivial (E0.lenA _) (n' ?_)
        refine Q0.step rfl (j0 := 4) (js := []) (by kernel_rfl) ⟨⟨_, rfl, ?_⟩, trivial⟩
        refine L0.bx 3 (y := .box (D0.row x3)) (by cases hx3; exact .inl rfl) rfl rfl rfl (c' (V0 hx4) rfl rfl (n' ?_))
        refine Q0.step rfl (j0 := 6) (js := []) (by kernel_rfl) ⟨⟨_, rfl, ?_⟩, trivial⟩
        refine c' (F1 hx5) rfl rfl (n' ?_)
        refine Q0.step rfl (j0 := 7) (js := [8]) (by kernel_rfl) ⟨⟨_, rfl, ?_⟩, ⟨_, rfl, ?_⟩, trivial⟩
        · refine e' rfl ?_
          refine Q0.step rfl (j0 := 8) (js := []) (by kernel_rfl) ⟨⟨_, rfl, ?_⟩, trivial⟩
          refine e' rfl ?_
          refine Q0.step rfl (j0 := 9) (js := []) (by kernel_rfl) ⟨⟨_, rfl, ?_⟩, trivial⟩
          refine L0.s hC rfl (n' ?_)
          refine Q0.step rfl (j0 := 10) (js := []) (by kernel_rfl) ⟨⟨_, rfl, ?_⟩, trivial⟩
          cases hh
          exact e' rfl (Q0.nil (by kernel_rfl) (re' (rt' rfl rfl rfl)))
        · refine e' rfl ?_
          refine Q0.step rfl (j0 := 7) (js := []) (by kernel_rfl) ⟨⟨_, rfl, ?_⟩, trivial⟩
          refine e' rfl ?_
          refine Q0.step rfl (j0 := 9) (js := []) (by kernel_rfl) ⟨⟨_, rfl, ?_⟩, trivial⟩
          refine L0.s hC rfl (n' ?_)
          refine Q0.step rfl (j0 := 10) (js := []) (by kernel_rfl) ⟨⟨_, rfl, ?_⟩, trivial⟩
          cases hh
          exact e' rfl (Q0.nil (by kernel_rfl) (re' (rt' rfl rfl rfl)))
      · refine e' rfl ?_
        refine Q0.step rfl (j0 := 0) (js := [3]) (by kernel_rfl) ⟨⟨_, rfl, ?_⟩, ⟨_, rfl, ?_⟩, trivial⟩
        · refine e' rfl ?_
          refine Q0.step rfl (j0 := 3) (js := []) (by kernel_rfl) ⟨⟨_, rfl, ?_⟩, trivial⟩
          refine qe' rfl trivial (E0.lenA _) (n' ?_)
          refine Q0.step rfl (j0 := 4) (js := []) (by kernel_rfl) ⟨⟨_, rfl, ?_⟩, trivial⟩
          refine L0.bx 3 (y := .box (D0.row x3)) (by cases hx3; exact .inl rfl) rfl rfl rfl (c' (V0 hx4) rfl rfl (n' ?_))
          refine Q0.step rfl (j0 := 6) (js := []) (by kernel_rfl) ⟨⟨_, rfl, ?_⟩, trivial⟩
          refine c' (F1 hx5) rfl rfl (n' ?_)
          refine Q0.step rfl (j0 := 7) (js := [8]) (by kernel_rfl) ⟨⟨_, rfl, ?_⟩, ⟨_, rfl, ?_⟩, trivial⟩
          · refine e' rfl ?_
            refine Q0.step rfl (j0 := 8) (js := []) (by kernel_rfl) ⟨⟨_, rfl, ?_⟩, trivial⟩
            refine e' rfl ?_
            refine Q0.step rfl (j0 := 9) (js := []) (by kernel_rfl) ⟨⟨_, rfl, ?_⟩, trivial⟩
            refine L0.s hC rfl (n' ?_)
            refine Q0.step rfl (j0 := 10) (js := []) (by kernel_rfl) ⟨⟨_, rfl, ?_⟩, trivial⟩
            cases hh
            exact e' rfl (Q0.nil (by kernel_rfl) (re' (rt' rfl rfl rfl)))
          · refine e' rfl ?_
            refine Q0.step rfl (j0 := 7) (js := []) (by kernel_rfl) ⟨⟨_, rfl, ?_⟩, trivial⟩
            refine e' rfl ?_
            refine Q0.step rfl (j0 := 9) (js := []) (by kernel_rfl) ⟨⟨_, rfl, ?_⟩, trivial⟩
            refine L0.s hC rfl (n' ?_)
            refine Q0.step rfl (j0 := 10) (js := []) (by kernel_rfl) ⟨⟨_, rfl, ?_⟩, trivial⟩
            cases hh
            exact e' rfl (Q0.nil (by kernel_rfl) (re' (rt' rfl rfl rfl)))
        · refine qe' rfl trivial (E0.lenA _) (n' ?_)
          refine Q0.step rfl (j0 := 0) (js := []) (by kernel_rfl) ⟨⟨_, rfl, ?_⟩, trivial⟩
          refine e' rfl ?_
          refine Q0.step rfl (j0 := 4) (js := []) (by kernel_rfl) ⟨⟨_, rfl, ?_⟩, trivial⟩
          refine L0.bx 3 (y := .box (D0.row x3)) (by cases hx3; exact .inl rfl) rfl rfl rfl (c' (V0 hx4) rfl rfl (n' ?_))
          refine Q0.step rfl (j0 := 6) (js := []) (by kernel_rfl) ⟨⟨_, rfl, ?_⟩, trivial⟩
          refine c' (F1 hx5) rfl rfl (n' ?_)
          refine Q0.step rfl (j0 := 7) (js := [8]) (by kernel_rfl) ⟨⟨_, rfl, ?_⟩, ⟨_, rfl, ?_⟩, trivial⟩
          · refine e' rfl ?_
            refine Q0.step rfl (j0 := 8) (js := []) (by kernel_rfl) ⟨⟨_, rfl, ?_⟩, trivial⟩
            refine e' rfl ?_
            refine Q0.step rfl (j0 := 9) (js := []) (by kernel_rfl) ⟨⟨_, rfl, ?_⟩, trivial⟩
            refine L0.s hC rfl (n' ?_)
            refine Q0.step rfl (j0 := 10) (js := []) (by kernel_rfl) ⟨⟨_, rfl, ?_⟩, trivial⟩
            cases hh
            exact e' rfl (Q0.nil (by kernel_rfl) (re' (rt' rfl rfl rfl)))
          · refine e' rfl ?_
            refine Q0.step rfl (j0 := 7) (js := []) (by kernel_rfl) ⟨⟨_, rfl, ?_⟩, trivial⟩
            refine e' rfl ?_
            refine Q0.step rfl (j0 := 9) (js := []) (by kernel_rfl) ⟨⟨_, rfl, ?_⟩, trivial⟩
            refine L0.s hC rfl (n' ?_)
            refine Q0.step rfl (j0 := 10) (js := []) (by kernel_rfl) ⟨⟨_, rfl, ?_⟩, trivial⟩
            cases hh
            exact e' rfl (Q0.nil (by kernel_rfl) (re' (rt' rfl rfl rfl)))
end Go.Proofs.YtdkabnfphmmmnaaGreatDoor

set_option maxRecDepth 100000
set_option maxHeartbeats 4000000
set_option synthInstance.maxSize 2000
set_option linter.unusedVariables false
namespace Go.Proofs.YtdkabnfphmmmnaaGreatDoor
open Go.Am
def Mk (p : N0) (e : C0) : Option (Int × Int × Int) :=
  U9 p e >>= fun x1 =>
  if (x1.2 != 0) = true then
    some (0, 0, x1.2)
  else
    if (x1.1.Kind != 1) = true then
      some (0, 0, 9)
    else
      some (x1.1.Low, x1.1.High, 0)
theorem L16 {p e res} (hh : Mk p e = some res) : T0 C 19 [.agg (N0.cells p), .agg (C0.cells e)] [] (Ret [] (.tup [.d (.int .i64 res.1), .d (.int .i64 res.2.1), .d (.int .i64 res.2.2)])) := by
  unfold Mk at hh
  obtain ⟨x1, hx1, hh⟩ := bs' hh
  refine T0.intro hC Tryz.func19 rfl rfl rfl (s' rfl rfl (L0.n hC rfl (L0.n hC rfl (e' rfl (p' 2 rfl (c' (Xn hx1) rfl rfl (o' 3 rfl (L0.nf hC rfl (L0.s hC rfl (e' rfl (S' (t' rfl (ci' rfl hh (fun hh => ?_) (fun hh => ?_))))))))))))))
  · cases hh
    exact t' rfl (re' (rt' rfl rfl rfl))
  refine sk' (S' (t' rfl (ci' rfl hh (fun hh => ?_) (fun hh => ?_))))
  · cases hh
    exact t' rfl (re' (rt' rfl rfl rfl))
  cases hh
  exact sk' (S' (AEx.draw hC 7 rfl rfl rfl (E' rfl (n' (re' (rt' rfl rfl rfl))))))
def Qk (p : N0) : Option (Int × Int) :=
  X5 p >>= fun x1 =>
  if (x1.2 != 0) = true then
    some (0, x1.2)
  else
    Dc p >>= fun x2 =>
    some (x2.steps, 0)
theorem M16 {p res} (hh : Qk p = some res) : T0 C 21 [.agg (N0.cells p)] [] (Ret [] (.tup [.d (.int .i64 res.1), .d (.int .i64 res.2)])) := by
  unfold Qk at hh
  obtain ⟨x1, hx1, hh⟩ := bs' hh
  refine T0.intro hC Tryz.func21 rfl rfl rfl (s' rfl rfl (L0.n hC rfl (e' rfl (S' (p' 1 rfl (c' (Vg hx1) rfl rfl (e' rfl (t' rfl (ci' rfl hh (fun hh => ?_) (fun hh => ?_))))))))))
  · cases hh
    exact t' rfl (re' (rt' rfl rfl rfl))
  obtain ⟨x2, hx2, hh⟩ := bs' hh
  cases hh
  exact sk' (p' 1 rfl (c' (Ot hx2) rfl rfl (e' rfl (re' (rt' rfl rfl rfl)))))
def Dl : Option Bool :=
  Hk [120] >>= fun x1 =>
  Hk [112, 105, 110] >>= fun x2 =>
  Nm 2 >>= fun x3 =>
  Zm 10 [x2, x3] >>= fun x4 =>
  Nm 1 >>= fun x5 =>
  Zm 8 [x4, x5] >>= fun x6 =>
  Hk [120] >>= fun x7 =>
  Nm 3 >>= fun x8 =>
  Zm 13 [x7, x8] >>= fun x9 =>
  X5 (N0.mk [(E0.mk 1 [112, 105, 110] (A0.mk 1 0 9 0 [] [] []) 0 (C0.mk 0 0 [] []) [] [] []), (E0.mk 4 [120] (A0.mk 1 0 3 0 [] [] []) 0 (C0.mk 0 0 [] []) [] [] [])] [(F0.mk 0 x1 x6 [] [] 0 0 0 [] [] []), (F0.mk 3 (C0.mk 0 0 [] []) x9 [] [] 0 0 0 [] [] [])]) >>= fun x10 =>
  idx [(F0.mk 0 x1 x6 [] [] 0 0 0 [] [] []), (F0.mk 3 (C0.mk 0 0 [] []) x9 [] [] 0 0 0 [] [] [])] 0 >>= fun x11 =>
  Mk (N0.mk [(E0.mk 1 [112, 105, 110] (A0.mk 1 0 9 0 [] [] []) 0 (C0.mk 0 0 [] []) [] [] []), (E0.mk 4 [120] (A0.mk 1 0 3 0 [] [] []) 0 (C0.mk 0 0 [] []) [] [] [])] [(F0.mk 0 x1 x6 [] [] 0 0 0 [] [] []), (F0.mk 3 (C0.mk 0 0 [] []) x9 [] [] 0 0 0 [] [] [])]) x11.Value >>= fun x12 =>
  Qk (N0.mk [(E0.mk 1 [112, 105, 110] (A0.mk 1 0 9 0 [] [] []) 0 (C0.mk 0 0 [] []) [] [] []), (E0.mk 4 [120] (A0.mk 1 0 3 0 [] [] []) 0 (C0.mk 0 0 [] []) [] [] [])] [(F0.mk 0 x1 x6 [] [] 0 0 0 [] [] []), (F0.mk 3 (C0.mk 0 0 [] []) x9 [] [] 0 0 0 [] [] [])]) >>= fun x13 =>
  Hk [112, 105, 110] >>= fun x14 =>
  Nm 1 >>= fun x15 =>
  X5 (N0.mk [(E0.mk 1 [112, 105, 110] (A0.mk 1 0 9 0 [] [] []) 0 (C0.mk 0 0 [] []) [] [] []), (E0.mk 4 [120] (A0.mk 1 0 3 0 [] [] []) 0 (C0.mk 0 0 [] []) [] [] [])] [(F0.mk 0 x14 x15 [] [] 0 0 0 [] [] [])]) >>= fun x16 =>
  some (bif (bif (bif (bif (bif (bif (bif (bif (x10.1 == (-1)) then (x10.2 == 0) else false) then (x12.1 == 1) else false) then (x12.2.1 == 19) else false) then (x12.2.2 == 0) else false) then (x13.1 == 2) else false) then (x13.2 == 0) else false) then (x16.1 == (-1)) else false) then (x16.2 == 15) else false)
theorem W1c {res} (hh : Dl = some res) : T0 C 11 [] [] (Ret [] (.d (.bool res))) := by
  unfold Dl at hh
  obtain ⟨x1, hx1, hh⟩ := bs' hh
  obtain ⟨x2, hx2, hh⟩ := bs' hh
  obtain ⟨x3, hx3, hh⟩ := bs' hh
  obtain ⟨x4, hx4, hh⟩ := bs' hh
  obtain ⟨x5, hx5, hh⟩ := bs' hh
  obtain ⟨x6, hx6, hh⟩ := bs' hh
  obtain ⟨x7, hx7, hh⟩ := bs' hh
  obtain ⟨x8, hx8, hh⟩ := bs' hh
  obtain ⟨x9, hx9, hh⟩ := bs' hh
  obtain ⟨x10, hx10, hh⟩ := bs' hh
  obtain ⟨x11, hx11, hh⟩ := bs' hh
  obtain ⟨x12, hx12, hh⟩ := bs' hh
  obtain ⟨x13, hx13, hh⟩ := bs' hh
  obtain ⟨x14, hx14, hh⟩ := bs' hh
  obtain ⟨x15, hx15, hh⟩ := bs' hh
  obtain ⟨x16, hx16, hh⟩ := bs' hh
  cases hh
  refine T0.intro hC Tryz.func11 rfl rfl rfl (t' rfl (p' 4 rfl (L0.be hC rfl (E0.rows_map [(E0.mk 1 [112, 105, 110] (A0.mk 1 0 9 0 [] [] []) 0 (C0.mk 0 0 [] []) [] [] []), (E0.mk 4 [120] (A0.mk 1 0 3 0 [] [] []) 0 (C0.mk 0 0 [] []) [] [] [])]).symm (c' (Nr hx1) rfl rfl (c' (Nr hx2) rfl rfl (c' (Ft hx3) rfl rfl ?_))))))
  refine L0.be hC rfl (C0.rows_map [x2, x3]).symm (L0.cl rfl (Ux hx4) ⟨.rfl, ⟨.full, trivial⟩⟩ rfl (c' (Ft hx5) rfl rfl (L0.be hC rfl (C0.rows_map [x4, x5]).symm (L0.cl rfl (Ux hx6) ⟨.rfl, ⟨.full, trivial⟩⟩ rfl (q' rfl (c' (Nr hx7) rfl rfl (c' (Ft hx8) rfl rfl (L0.be hC rfl (C0.rows_map [x7, x8]).symm ?_))))))))
  refine L0.cl rfl (Ux hx9) ⟨.rfl, ⟨.full, trivial⟩⟩ rfl (q' rfl (L0.be hC rfl (F0.rows_map [(F0.mk 0 x1 x6 [] [] 0 0 0 [] [] []), (F0.mk 3 (C0.mk 0 0 [] []) x9 [] [] 0 0 0 [] [] [])]).symm (q' rfl (L0.nf hC rfl (L0.s hC rfl (n' (p' 1 rfl (L0.cl rfl (Vg hx10) ⟨(.aggL ⟨.full, ⟨.full, trivial⟩⟩), trivial⟩ rfl (e' rfl (S' (AEx.draw hC 14 rfl rfl rfl (O' 3 rfl ?_))))))))))))
  refine AQ.i hC rfl (C1 hx11) (F0.idx hx11) rfl (O' 2 rfl (AQ.cl rfl (L16 hx12) ⟨(.aggL ⟨.full, ⟨.full, trivial⟩⟩), ⟨.rfl, trivial⟩⟩ rfl (E' rfl (n' (p' 1 rfl (L0.cl rfl (M16 hx13) ⟨(.aggL ⟨.full, ⟨.full, trivial⟩⟩), trivial⟩ rfl (e' rfl (S' ?_))))))))
  refine AEx.drawL hC 8 [] [(7, 1)] [[.row [.full (E0.rows [(E0.mk 1 [112, 105, 110] (A0.mk 1 0 9 0 [] [] []) 0 (C0.mk 0 0 [] []) [] [] []), (E0.mk 4 [120] (A0.mk 1 0 3 0 [] [] []) 0 (C0.mk 0 0 [] []) [] [] [])]), .full (F0.rows [(F0.mk 0 x1 x6 [] [] 0 0 0 [] [] []), (F0.mk 3 (C0.mk 0 0 [] []) x9 [] [] 0 0 0 [] [] [])])] 25, .row [.full (E0.rows []), .full (F0.rows [])] 25]] rfl rfl rfl rfl rfl rfl rfl rfl rfl rfl ?_
  refine AS.q hC rfl rfl rfl rfl (AS.q hC rfl rfl rfl rfl (AS.c (Nr hx14) rfl rfl rfl rfl (AS.c (Ft hx15) rfl rfl rfl rfl (AS.q hC rfl rfl rfl rfl (AS.a rfl (fun H => AQ.be hC rfl (F0.rows_map [(F0.mk 0 x14 x15 [] [] 0 0 0 [] [] [])]).symm (AQ.nil rfl)) rfl rfl (AS.q hC rfl rfl rfl rfl (AS.n hC rfl rfl rfl rfl (AS.nil (L0.s hC rfl (n' (p' 1 rfl ?_)))))))))))
  refine L0.cl rfl (Vg hx16) ⟨(.aggL ⟨.full, ⟨.full, trivial⟩⟩), trivial⟩ rfl (e' rfl (sg' 35 rfl (G' 4 rfl (a1' rfl (pa' rfl (G' 2 rfl (a1' rfl (pa' rfl (G' 2 rfl (a1' rfl (pa' rfl (G' 2 rfl (a1' rfl ?_)))))))))))))
  refine pa' rfl (G' 2 rfl (a1' rfl (pa' rfl (G' 2 rfl (a1' rfl (pa' rfl (G' 2 rfl (a1' rfl (pa' rfl (G' 2 rfl (a1' rfl (pa' rfl (a0' rfl ?_)))))))))))))
  exact an' (n' (re' (rt' rfl rfl rfl)))
mutual
def Pb (t : A0) (left : Int) : Option Int :=
  Ec t (IntKind.i64.wrap ((IntKind.i64.wrap (left - 1)) - (IntKind.i64.wrap (Int.tdiv ((t.Name).length : Int) 16)))) 0
  partial_fixpoint
def Ec (t : A0) (left1 : Int) (i : Int) : Option Int :=
  if (bif (decide (i < ((t.Names).length : Int))) then (decide (left1 ≥ 0)) else false) = true then
    idx t.Names i >>= fun x1 =>
    Ec t (IntKind.i64.wrap ((IntKind.i64.wrap (left1 - 1)) - (IntKind.i64.wrap (Int.tdiv ((x1).length : Int) 16)))) (IntKind.i64.wrap (i + 1))
  else
    Fc t left1 0
  partial_fixpoint
def Fc (t : A0) (left2 : Int) (i1 : Int) : Option Int :=
  if (bif (decide (i1 < ((t.Of).length : Int))) then (decide (left2 ≥ 0)) else false) = true then
    idx t.Of i1 >>= fun x2 =>
    Pb x2 left2 >>= fun x3 =>
    Fc t x3 (IntKind.i64.wrap (i1 + 1))
  else
    some left2
  partial_fixpoint
end
abbrev Xz (t : A0) (left : Int) (res : Int) : Prop := T0 C 107 [.agg (A0.cells t), .d (.int .i64 left)] [] (Ret [] (.d (.int .i64 res)))
abbrev Iv (t : A0) (left1 : Int) (i : Int) (res : Int) : Prop := LM C 54 0 Tryz.f107 [1, 1, 0, 1, 4] [(1, .d (.int .i64 left1)), (2, .ref 0 0), (5, .d (.int .i64 i))] [.row (A0.cells t) 40] (Ret [] (.d (.int .i64 res)))
abbrev Jv (t : A0) (left2 : Int) (i1 : Int) (res : Int) : Prop := LM C 54 0 Tryz.f107 [1, 1, 1, 0, 1, 4] [(1, .d (.int .i64 left2)), (2, .ref 0 0), (6, .d (.int .i64 i1))] [.row (A0.cells t) 40] (Ret [] (.d (.int .i64 res)))
theorem Rp : (∀ t left res, Pb t left = some res → Xz t left res) ∧ (∀ t left1 i res, Ec t left1 i = some res → Iv t left1 i res) ∧ (∀ t left2 i1 res, Fc t left2 i1 = some res → Jv t left2 i1 res) := by
  refine Pb.mutual_partial_correctness _ _ _ ?_ ?_ ?_
  · intro g1 ih1 t left res hh
    exact T0.intro hC Tryz.func107 rfl rfl rfl (s' rfl rfl (L0.n hC rfl (e' rfl (p' 5 rfl (qc' rfl (by decide) (e' rfl (S' (t' rfl (bk' (fw' (ih1 _ _ _ _ hh) rfl rfl rfl))))))))))
  · intro g1 g2 ih1 ih2 t left1 i res hh
    refine A2.unroll (S' (sg' 9 rfl (G' 3 rfl (AG.qe hC rfl (fun hg => ⟨trivial, trivial⟩) (estr.lenA _) (G' 3 rfl (a1' rfl (pa' rfl (an' (n' (ci' rfl hh (fun hh => ?_) (fun hh => ?_)))))))))))
    · obtain ⟨x1, hx1, hh⟩ := bs' hh
      exact sk' (S' (bk' (P' 5 rfl (i' rfl (C1 hx1) (estr.idx hx1) rfl (o' 2 rfl (qc' rfl (by decide) (e' rfl (T' rfl (lw' (ih1 _ _ _ _ hh) rfl rfl rfl)))))))))
    exact ex' (S' (t' rfl (bk' (fw' (ih2 _ _ _ _ hh) rfl rfl rfl))))
  · intro g0 g2 ih0 ih2 t left2 i1 res hh
    refine A2.unroll (S' (sg' 9 rfl (G' 3 rfl (AG.qe hC rfl (fun hg => ⟨trivial, trivial⟩) (A0.lenA _) (G' 3 rfl (a1' rfl (pa' rfl (an' (n' (ci' rfl hh (fun hh => ?_) (fun hh => ?_)))))))))))
    · obtain ⟨x2, hx2, hh⟩ := bs' hh
      obtain ⟨x3, hx3, hh⟩ := bs' hh
      exact sk' (S' (bk' (P' 3 rfl (i' rfl (C1 hx2) (A0.idx hx2) rfl (o' 2 rfl (c' (ih0 _ _ _ hx3) rfl rfl (e' rfl (T' rfl (lw' (ih2 _ _ _ _ hh) rfl rfl rfl)))))))))
    cases hh
    exact ex' (t' rfl (re' (rt' rfl rfl rfl)))
theorem Y17 {t left res} (hh : Pb t left = some res) : Xz t left res := (Rp).1 _ _ _ hh
theorem Z1l {t left1 i res} (hh : Ec t left1 i = some res) : Iv t left1 i res := (Rp).2.1 _ _ _ _ hh
theorem A1m {t left2 i1 res} (hh : Fc t left2 i1 = some res) : Jv t left2 i1 res := (Rp).2.2 _ _ _ _ hh
mutual
def Y8 (e : C0) (left : Int) : Option Int :=
  Gc e (IntKind.i64.wrap ((IntKind.i64.wrap (left - 1)) - (IntKind.i64.wrap (Int.tdiv ((e.Name).length : Int) 16)))) 0
  partial_fixpoint
def Gc (e : C0) (left1 : Int) (i : Int) : Option Int :=
  if (bif (decide (i < ((e.Kids).length : Int))) then (decide (left1 ≥ 0)) else false) = true then
    idx e.Kids i >>= fun x1 =>
    Y8 x1 left1 >>= fun x2 =>
    Gc e x2 (IntKind.i64.wrap (i + 1))
  else
    some left1
  partial_fixpoint
end
abbrev Yz (e : C0) (left : Int) (res : Int) : Prop := T0 C 40 [.agg (C0.cells e), .d (.int .i64 left)] [] (Ret [] (.d (.int .i64 res)))
abbrev Kv (e : C0) (left1 : Int) (i : Int) (res : Int) : Prop := LM C 32 0 Tryz.f40 [1, 1, 0, 1, 4] [(1, .d (.int .i64 left1)), (2, .ref 0 0), (5, .d (.int .i64 i))] [.row (C0.cells e) 34] (Ret [] (.d (.int .i64 res)))
theorem Hx : (∀ e left res, Y8 e left = some res → Yz e left res) ∧ (∀ e left1 i res, Gc e left1 i = some res → Kv e left1 i res) := by
  refine Y8.mutual_partial_correctness _ _ ?_ ?_
  · intro g1 ih1 e left res hh
    exact T0.intro hC Tryz.func40 rfl rfl rfl (s' rfl rfl (L0.n hC rfl (e' rfl (p' 5 rfl (qc' rfl (by decide) (e' rfl (S' (t' rfl (bk' (fw' (ih1 _ _ _ _ hh) rfl rfl rfl))))))))))
  · intro g0 g1 ih0 ih1 e left1 i res hh
    refine A2.unroll (S' (sg' 9 rfl (G' 3 rfl (AG.qe hC rfl (fun hg => ⟨trivial, trivial⟩) (C0.lenA _) (G' 3 rfl (a1' rfl (pa' rfl (an' (n' (ci' rfl hh (fun hh => ?_) (fun hh => ?_)))))))))))
    · obtain ⟨x1, hx1, hh⟩ := bs' hh
      obtain ⟨x2, hx2, hh⟩ := bs' hh
      exact sk' (S' (bk' (P' 3 rfl (i' rfl (C1 hx1) (C0.idx hx1) rfl (o' 2 rfl (c' (ih0 _ _ _ hx2) rfl rfl (e' rfl (T' rfl (lw' (ih1 _ _ _ _ hh) rfl rfl rfl)))))))))
    cases hh
    exact ex' (t' rfl (re' (rt' rfl rfl rfl)))
theorem Ll {e left res} (hh : Y8 e left = some res) : Yz e left res := (Hx).1 _ _ _ hh
theorem B1m {e left1 i res} (hh : Gc e left1 i = some res) : Kv e left1 i res := (Hx).2 _ _ _ _ hh
mutual
def E8 (l : List F0) (left : Int) : Option Int :=
  K9 l left 0
  partial_fixpoint
def K9 (l : List F0) (left2 : Int) (i : Int) : Option Int :=
  if (bif (decide (i < ((l).length : Int))) then (decide (left2 ≥ 0)) else false) = true then
    idx l i >>= fun x1 =>
    Y8 x1.Place (IntKind.i64.wrap ((IntKind.i64.wrap (left2 - 1)) - (IntKind.i64.wrap (Int.tdiv ((x1.Name).length : Int) 16)))) >>= fun x2 =>
    Y8 x1.Value x2 >>= fun x3 =>
    Va l x1 x3 i 0
  else
    some left2
  partial_fixpoint
def Va (l : List F0) (x1 : F0) (left1 : Int) (i1 : Int) (k : Int) : Option Int :=
  if (bif (decide (k < ((x1.Args).length : Int))) then (decide (left1 ≥ 0)) else false) = true then
    idx x1.Args k >>= fun x4 =>
    Y8 x4 left1 >>= fun x5 =>
    Va l x1 x5 i1 (IntKind.i64.wrap (k + 1))
  else
    if (decide (((x1.Numbers).length : Int) > 100)) = true then
      some (-1)
    else
      E8 x1.Then left1 >>= fun x6 =>
      E8 x1.Else x6 >>= fun x7 =>
      K9 l x7 (IntKind.i64.wrap (i1 + 1))
  partial_fixpoint
end
abbrev Jy (l : List F0) (left : Int) (res : Int) : Prop := T0 C 51 [.d (.sl (F0.rows l)), .d (.int .i64 left)] [] (Ret [] (.d (.int .i64 res)))
abbrev Tt (l : List F0) (left2 : Int) (i : Int) (res : Int) : Prop := LM C 68 0 Tryz.f51 [1, 0, 1, 4] [(0, .d (.sl (F0.rows l))), (1, .d (.int .i64 left2)), (5, .d (.int .i64 i))] [] (Ret [] (.d (.int .i64 res)))
abbrev Ut (l : List F0) (x1 : F0) (left1 : Int) (i1 : Int) (k : Int) (res : Int) : Prop := LM C 68 0 Tryz.f51 [1, 0, 1, 4, 5, 1, 0, 4, 1, 1, 1, 1, 0, 1, 4] [(0, .d (.sl (F0.rows l))), (1, .d (.int .i64 left1)), (5, .d (.int .i64 i1)), (6, .ref 0 0), (7, .d (.int .i64 k))] [.row (F0.cells x1) 53] (Ret [] (.d (.int .i64 res)))
theorem Yn : (∀ l left res, E8 l left = some res → Jy l left res) ∧ (∀ l left2 i res, K9 l left2 i = some res → Tt l left2 i res) ∧ (∀ l x1 left1 i1 k res, Va l x1 left1 i1 k = some res → Ut l x1 left1 i1 k res) := by
  refine E8.mutual_partial_correctness _ _ _ ?_ ?_ ?_
  · intro g1 ih1 l left res hh
    exact T0.intro hC Tryz.func51 rfl rfl rfl (t' rfl (S' (t' rfl (bk' (fw' (ih1 _ _ _ _ hh) rfl rfl rfl)))))
  · intro g2 ih2 l left2 i res hh
    refine A2.unroll (S' (sg' 8 rfl (G' 2 rfl (AG.qe hC rfl (fun hg => ⟨trivial, trivial⟩) (F0.lenA _) (G' 3 rfl (a1' rfl (pa' rfl (an' (n' (ci' rfl hh (fun hh => ?_) (fun hh => ?_)))))))))))
    · obtain ⟨x1, hx1, hh⟩ := bs' hh
      obtain ⟨x2, hx2, hh⟩ := bs' hh
      obtain ⟨x3, hx3, hh⟩ := bs' hh
      refine sk' (S' (bk' (p' 2 rfl (i' rfl (C1 hx1) (F0.idx hx1) rfl (q' rfl (L0.nf hC rfl (L0.s hC rfl (n' (p' 5 rfl (qc' rfl (by decide) (e' rfl (p' 3 rfl (c' (Ll hx2) rfl rfl ?_)))))))))))))
      exact e' rfl (p' 3 rfl (c' (Ll hx3) rfl rfl (e' rfl (S' (t' rfl (bk' (fw' (ih2 _ _ _ _ _ _ hh) rfl rfl rfl)))))))
    cases hh
    exact ex' (t' rfl (re' (rt' rfl rfl rfl)))
  · intro g0 g1 g2 ih0 ih1 ih2 l x1 left1 i1 k res hh
    refine A2.unroll (S' (sg' 9 rfl (G' 3 rfl (AG.qe hC rfl (fun hg => ⟨trivial, trivial⟩) (C0.lenA _) (G' 3 rfl (a1' rfl (pa' rfl (an' (n' (ci' rfl hh (fun hh => ?_) (fun hh => ?_)))))))))))
    · obtain ⟨x4, hx4, hh⟩ := bs' hh
      obtain ⟨x5, hx5, hh⟩ := bs' hh
      exact sk' (S' (bk' (P' 3 rfl (i' rfl (C1 hx4) (C0.idx hx4) rfl (o' 2 rfl (c' (Ll hx5) rfl rfl (e' rfl (T' rfl (lw' (ih2 _ _ _ _ _ _ hh) rfl rfl rfl)))))))))
    refine ex' (S' (p' 2 rfl (qe' rfl trivial (ei64.lenA _) (e' rfl (ci' rfl hh (fun hh => ?_) (fun hh => ?_))))))
    · cases hh
      exact t' rfl (re' (rt' rfl rfl rfl))
    obtain ⟨x6, hx6, hh⟩ := bs' hh
    obtain ⟨x7, hx7, hh⟩ := bs' hh
    exact sk' (p' 3 rfl (c' (ih0 _ _ _ hx6) rfl rfl (e' rfl (P' 3 rfl (c' (ih0 _ _ _ hx7) rfl rfl (e' rfl (T' rfl (lw' (ih1 _ _ _ _ hh) rfl rfl rfl))))))))
theorem Ix {l left res} (hh : E8 l left = some res) : Jy l left res := (Yn).1 _ _ _ hh
theorem C1k {l left2 i res} (hh : K9 l left2 i = some res) : Tt l left2 i res := (Yn).2.1 _ _ _ _ hh
theorem D1k {l x1 left1 i1 k res} (hh : Va l x1 left1 i1 k = some res) : Ut l x1 left1 i1 k res := (Yn).2.2 _ _ _ _ _ _ hh
mutual
def Lc (l : List E0) (left : Int) : Option Int :=
  Wa l left 0
  partial_fixpoint
def Wa (l : List E0) (left1 : Int) (i : Int) : Option Int :=
  if (bif (decide (i < ((l).length : Int))) then (decide (left1 ≥ 0)) else false) = true then
    idx l i >>= fun x1 =>
    Pb x1.TypeV (IntKind.i64.wrap ((IntKind.i64.wrap (left1 - 1)) - (IntKind.i64.wrap (Int.tdiv ((x1.Name).length : Int) 16)))) >>= fun x2 =>
    Y8 x1.Value x2 >>= fun x3 =>
    Lc x1.Params x3 >>= fun x4 =>
    Lc x1.Vars x4 >>= fun x5 =>
    E8 x1.Body x5 >>= fun x6 =>
    Wa l x6 (IntKind.i64.wrap (i + 1))
  else
    some left1
  partial_fixpoint
end
abbrev Ky (l : List E0) (left : Int) (res : Int) : Prop := T0 C 52 [.d (.sl (E0.rows l)), .d (.int .i64 left)] [] (Ret [] (.d (.int .i64 res)))
abbrev Vt (l : List E0) (left1 : Int) (i : Int) (res : Int) : Prop := LM C 49 0 Tryz.f52 [1, 0, 1, 4] [(0, .d (.sl (E0.rows l))), (1, .d (.int .i64 left1)), (5, .d (.int .i64 i))] [] (Ret [] (.d (.int .i64 res)))
theorem Lv : (∀ l left res, Lc l left = some res → Ky l left res) ∧ (∀ l left1 i res, Wa l left1 i = some res → Vt l left1 i res) := by
  refine Lc.mutual_partial_correctness _ _ ?_ ?_
  · intro g1 ih1 l left res hh
    exact T0.intro hC Tryz.func52 rfl rfl rfl (t' rfl (S' (t' rfl (bk' (fw' (ih1 _ _ _ _ hh) rfl rfl rfl)))))
  · intro g0 g1 ih0 ih1 l left1 i res hh
    refine A2.unroll (S' (sg' 8 rfl (G' 2 rfl (AG.qe hC rfl (fun hg => ⟨trivial, trivial⟩) (E0.lenA _) (G' 3 rfl (a1' rfl (pa' rfl (an' (n' (ci' rfl hh (fun hh => ?_) (fun hh => ?_)))))))))))
    · obtain ⟨x1, hx1, hh⟩ := bs' hh
      obtain ⟨x2, hx2, hh⟩ := bs' hh
      obtain ⟨x3, hx3, hh⟩ := bs' hh
      obtain ⟨x4, hx4, hh⟩ := bs' hh
      obtain ⟨x5, hx5, hh⟩ := bs' hh
      obtain ⟨x6, hx6, hh⟩ := bs' hh
      refine sk' (S' (bk' (p' 2 rfl (i' rfl (C1 hx1) (E0.idx hx1) rfl (q' rfl (L0.nf hC rfl (L0.s hC rfl (n' (p' 5 rfl (qc' rfl (by decide) (e' rfl (p' 3 rfl (c' (Y17 hx2) rfl rfl ?_)))))))))))))
      exact e' rfl (p' 3 rfl (c' (Ll hx3) rfl rfl (e' rfl (p' 3 rfl (c' (ih0 _ _ _ hx4) rfl rfl (e' rfl (p' 3 rfl (c' (ih0 _ _ _ hx5) rfl rfl (e' rfl (P' 3 rfl (c' (Ix hx6) rfl rfl (e' rfl (T' rfl (lw' (ih1 _ _ _ _ hh) rfl rfl rfl))))))))))))))
    cases hh
    exact ex' (t' rfl (re' (rt' rfl rfl rfl)))
theorem N16 {l left res} (hh : Lc l left = some res) : Ky l left res := (Lv).1 _ _ _ hh
theorem E1k {l left1 i res} (hh : Wa l left1 i = some res) : Vt l left1 i res := (Lv).2 _ _ _ _ hh
def Jx (p : N0) (most : Int) : Option Bool :=
  Lc p.Decls most >>= fun x1 =>
  E8 p.Body x1 >>= fun x2 =>
  some (decide (x2 ≥ 0))
theorem A1h {p most res} (hh : Jx p most = some res) : T0 C 27 [.agg (N0.cells p), .d (.int .i64 most)] [] (Ret [] (.d (.bool res))) := by
  unfold Jx at hh
  obtain ⟨x1, hx1, hh⟩ := bs' hh
  obtain ⟨x2, hx2, hh⟩ := bs' hh
  cases hh
  exact T0.intro hC Tryz.func27 rfl rfl rfl (s' rfl rfl (L0.n hC rfl (e' rfl (S' (AEx.draw hC 9 rfl rfl rfl (O' 5 rfl (Qc' (N16 hx1) rfl rfl (Qc' (Ix hx2) rfl rfl (E' rfl (n' (re' (rt' rfl rfl rfl))))))))))))
def Kx (p : N0) : Option Bool :=
  Jx p 300 >>= fun x1 =>
  some x1
theorem B1h {p res} (hh : Kx p = some res) : T0 C 12 [.agg (N0.cells p)] [] (Ret [] (.d (.bool res))) := by
  unfold Kx at hh
  obtain ⟨x1, hx1, hh⟩ := bs' hh
  cases hh
  exact T0.intro hC Tryz.func12 rfl rfl rfl (s' rfl rfl (L0.n hC rfl (e' rfl (p' 1 rfl (c' (A1h hx1) rfl rfl (e' rfl (re' (rt' rfl rfl rfl))))))))
mutual
def N3 (p : N0) (v26 : Int) : Option Bool :=
  if (decide (v26 < ((p.Body).length : Int))) = true then
    idx p.Body v26 >>= fun x4 =>
    U9 p x4.Value >>= fun x5 =>
    if (x4.Verb == 3) = true then
      if (bif (x5.2 != 0) then true else (bif (x5.1.Kind != 0) then (x5.1.Kind != 1) else false)) = true then
        some false
      else
        N3 p (IntKind.i64.wrap (v26 + 1))
    else
      if (x4.Verb == 5) = true then
        P9 p x4 x5 v26 (x4.Verb == 5)
      else
        P9 p x4 x5 v26 (x4.Verb == 6)
  else
    some true
  partial_fixpoint
def P9 (p : N0) (x4 : F0) (x5 : A0 × Int) (v26 : Int) (v53 : Bool) : Option Bool :=
  if v53 = true then
    if (bif (x5.2 != 0) then true else (x5.1.Kind != 0)) = true then
      some false
    else
      N3 p (IntKind.i64.wrap (v26 + 1))
  else
    if (x4.Verb == 0) = true then
      U9 p x4.Place >>= fun x6 =>
      if (bif (bif (x5.2 != 0) then true else (x6.2 != 0)) then true else (x5.1.Kind != x6.1.Kind)) = true then
        some false
      else
        N3 p (IntKind.i64.wrap (v26 + 1))
    else
      N3 p (IntKind.i64.wrap (v26 + 1))
  partial_fixpoint
end
abbrev Lo (p : N0) (v26 : Int) (res : Bool) : Prop := LM C 86 0 Tryz.f10 [1, 1, 1, 1, 1, 0, 1, 4] [(1, .ref 0 0), (24, .d (.sl (F0.rows p.Body))), (25, .d (.int .i64 ((p.Body).length : Int))), (26, .d (.int .i64 v26))] [.row (N0.cells p) 25] (Ret [] (.d (.bool res)))
abbrev Mo (p : N0) (x4 : F0) (x5 : A0 × Int) (v26 : Int) (v53 : Bool) (res : Bool) : Prop := JM C 86 0 Tryz.f10 [1, 1, 1, 1, 1, 0, 1, 4, 5, 1, 1, 0, 4, 1, 1, 1, 4, 1, 3, 1] [(1, .ref 0 0), (6, .ref 1 0), (7, .ref 2 0), (8, .d (.int .i64 x5.2)), (24, .d (.sl (F0.rows p.Body))), (25, .d (.int .i64 ((p.Body).length : Int))), (26, .d (.int .i64 v26)), (38, .d (.int .i64 x4.Verb)), (53, .d (.bool v53))] [.row (N0.cells p) 25, .row (F0.cells x4) 53, .row (A0.cells x5.1) 40] (Ret [] (.d (.bool res)))
theorem Rm (p : N0) : (∀ v26 res, N3 p v26 = some res → Lo p v26 res) ∧ (∀ x4 x5 v26 v53 res, P9 p x4 x5 v26 v53 = some res → Mo p x4 x5 v26 v53 res) := by
  refine N3.mutual_partial_correctness p _ _ ?_ ?_
  · intro g0 g1 ih0 ih1 v26 res hh
    refine A2.unroll (t' rfl (S' (ci' rfl hh (fun hh => ?_) (fun hh => ?_))))
    · obtain ⟨x4, hx4, hh⟩ := bs' hh
      obtain ⟨x5, hx5, hh⟩ := bs' hh
      refine sk' (S' (bk' (s' rfl rfl (i' rfl (C1 hx4) (F0.idx hx4) rfl (q' rfl (L0.nf hC rfl (L0.s hC rfl (n' (p' 3 rfl (c' (Xn hx5) rfl rfl (o' 3 rfl (L0.nf hC rfl (L0.s hC rfl ?_)))))))))))))
      refine e' rfl (t' rfl (bk' (t' rfl (ci' rfl hh (fun hh => ?_) (fun hh => ?_)))))
      · refine sg' 12 rfl (G' 4 rfl (a1' rfl (a1' rfl (a1' rfl (a0' rfl (a1' rfl (a1' rfl (pA' rfl (po' rfl (an' (n' (ci' rfl hh (fun hh => ?_) (fun hh => ?_)))))))))))))
        · cases hh
          exact t' rfl (re' (rt' rfl rfl rfl))
        exact sk' (T' rfl (lw' (ih0 _ _ hh) rfl rfl rfl))
      refine S' (t' rfl (ci' rfl hh (fun hh => ?_) (fun hh => ?_)))
      · exact sk' (ew' (ih1 _ _ _ _ _ hh) rfl rfl rfl)
      exact T' rfl (ew' (ih1 _ _ _ _ _ hh) rfl rfl rfl)
    cases hh
    exact ex' (t' rfl (re' (rt' rfl rfl rfl)))
  · intro g0 ih0 x4 x5 v26 v53 res hh
    refine ci' rfl hh (fun hh => ?_) (fun hh => ?_)
    · refine sg' 7 rfl (G' 4 rfl (a1' rfl (a1' rfl (po' rfl (an' (n' (ci' rfl hh (fun hh => ?_) (fun hh => ?_))))))))
      · cases hh
        exact t' rfl (re' (rt' rfl rfl rfl))
      exact sk' (T' rfl (lw' (ih0 _ _ hh) rfl rfl rfl))
    refine t' rfl (ci' rfl hh (fun hh => ?_) (fun hh => ?_))
    · obtain ⟨x6, hx6, hh⟩ := bs' hh
      refine p' 3 rfl (c' (Xn hx6) rfl rfl (o' 3 rfl (L0.nf hC rfl (L0.s hC rfl (e' rfl (sg' 13 rfl (G' 4 rfl (a1' rfl (po' rfl (G' 2 rfl (a1' rfl (a0' rfl (a1' rfl ?_)))))))))))))
      refine a2' rfl (po' rfl (an' (n' (ci' rfl hh (fun hh => ?_) (fun hh => ?_)))))
      · cases hh
        exact t' rfl (re' (rt' rfl rfl rfl))
      exact sk' (T' rfl (lw' (ih0 _ _ hh) rfl rfl rfl))
    exact sk' (T' rfl (lw' (ih0 _ _ hh) rfl rfl rfl))
theorem Wx {p v26 res} (hh : N3 p v26 = some res) : Lo p v26 res := (Rm p).1 _ _ hh
theorem M1e {p x4 x5 v26 v53 res} (hh : P9 p x4 x5 v26 v53 = some res) : Mo p x4 x5 v26 v53 res := (Rm p).2 _ _ _ _ _ hh
def Ci (p : N0) : Option Bool :=
  Dl >>= fun x1 =>
  if (!x1) = true then
    some false
  else
    Kx p >>= fun x2 =>
    if (!x2) = true then
      some true
    else
      X5 p >>= fun x3 =>
      if (x3.2 != 0) = true then
        some true
      else
        N3 p 0
theorem H10 {p res} (hh : Ci p = some res) : T0 C 10 [.agg (N0.cells p)] [] (Ret [] (.d (.bool res))) := by
  unfold Ci at hh
  obtain ⟨x1, hx1, hh⟩ := bs' hh
  refine T0.intro hC Tryz.func10 rfl rfl rfl (s' rfl rfl (L0.n hC rfl (e' rfl (S' (s' rfl rfl (c' (W1c hx1) rfl rfl (e' rfl (ci' rfl hh (fun hh => ?_) (fun hh => ?_)))))))))
  · cases hh
    exact t' rfl (re' (rt' rfl rfl rfl))
  obtain ⟨x2, hx2, hh⟩ := bs' hh
  refine sk' (S' (p' 1 rfl (c' (B1h hx2) rfl rfl (e' rfl (ci' rfl hh (fun hh => ?_) (fun hh => ?_))))))
  · cases hh
    exact t' rfl (re' (rt' rfl rfl rfl))
  obtain ⟨x3, hx3, hh⟩ := bs' hh
  refine sk' (p' 1 rfl (c' (Vg hx3) rfl rfl (e' rfl (S' (t' rfl (ci' rfl hh (fun hh => ?_) (fun hh => ?_)))))))
  · cases hh
    exact t' rfl (re' (rt' rfl rfl rfl))
  exact sk' (S' (p' 2 rfl (qe' rfl trivial (F0.lenA _) (e' rfl (bk' (fw' (Wx hh) rfl rfl rfl))))))
end Go.Proofs.YtdkabnfphmmmnaaGreatDoor

