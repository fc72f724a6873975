/- A part of the proof of TypecheckWider. -/
import Derived.Test.YtdkabnfphmmmnaaGreatDoorDgA
set_option maxRecDepth 100000
set_option maxHeartbeats 4000000
set_option synthInstance.maxSize 2000
set_option linter.unusedVariables false
namespace Go.Proofs.YtdkabnfphmmmnaaGreatDoor
open Go.Am
def H8 (c : D0) (s : Option I0) (x : F0) : Option Int :=
  S9 s x.Place >>= fun x1 =>
  if (x1.2 != 0) = true then
    some x1.2
  else
    T6 c 6 x.Name c.atV >>= fun x2 =>
    if (decide (x2 < 0)) = true then
      some 7
    else
      idx c.p.Decls x2 >>= fun x3 =>
      if (((x.Args).length : Int) != ((x3.Params).length : Int)) = true then
        some 2
      else
        A3 c s x x1 x3 x2 0
theorem Ny {c s x res} (hh : H8 c s x = some res) : T0 C 114 [.d (.box (D0.row c)), .d (.bxo (I0.opt s)), .agg (F0.cells x)] [] (Ret [] (.d (.int .i64 res))) := by
  unfold H8 at hh
  obtain ⟨x1, hx1, hh⟩ := bs' hh
  refine T0.intro hC Tryz.func114 rfl rfl rfl (s' rfl rfl (L0.n hC rfl (e' rfl (p' 3 rfl (c' (Wn hx1) rfl rfl (o' 3 rfl (L0.nf hC rfl (L0.s hC rfl (e' rfl (S' (t' rfl (ci' rfl hh (fun hh => ?_) (fun hh => ?_)))))))))))))
  · cases hh
    exact t' rfl (re' (rt' rfl rfl rfl))
  obtain ⟨x2, hx2, hh⟩ := bs' hh
  refine sk' (S' (AEx.draw hC 9 rfl rfl rfl (O' 7 rfl (Qc' (Ho hx2) rfl rfl (E' rfl (n' (S' (t' rfl (ci' rfl hh (fun hh => ?_) (fun hh => ?_))))))))))
  · cases hh
    exact t' rfl (re' (rt' rfl rfl rfl))
  obtain ⟨x3, hx3, hh⟩ := bs' hh
  refine sk' (p' 6 rfl (i' rfl (C1 hx3) (E0.idx hx3) rfl (q' rfl (L0.nf hC rfl (L0.s hC rfl (n' (S' (p' 2 rfl (qe' rfl trivial (C0.lenA _) (o' 2 rfl (qe' rfl trivial (E0.lenA _) (e' rfl (ci' rfl hh (fun hh => ?_) (fun hh => ?_))))))))))))))
  · cases hh
    exact t' rfl (re' (rt' rfl rfl rfl))
  refine sk' (S' (p' 2 rfl (qe' rfl trivial (C0.lenA _) (e' rfl (bk' ?_)))))
  refine AEx.ofLoop ?_
  refine D2.wk ?_ (Tv hh)
  exact ⟨⟨⟨.rfl, rfl⟩, ⟨⟨.rfl, rfl⟩, ⟨⟨.rfl, rfl⟩, ⟨⟨.rfl, rfl⟩, ⟨⟨.rfl, rfl⟩, ⟨⟨.rfl, rfl⟩, ⟨⟨.rfl, rfl⟩, ⟨⟨.rfl, rfl⟩, trivial⟩⟩⟩⟩⟩⟩⟩⟩, ⟨trivial, ⟨⟨rfl, .refl _, rfl⟩, ⟨⟨rfl, .refl _, rfl⟩, trivial⟩⟩⟩, rfl⟩
def O6 (c : D0) (s : Option I0) (x : F0) : Option Int :=
  S9 s x.Place >>= fun x1 =>
  if (x1.2 != 0) = true then
    some x1.2
  else
    if c.localV = true then
      some 15
    else
      T6 c 5 x.Name c.atV >>= fun x2 =>
      if (decide (x2 < 0)) = true then
        some 7
      else
        idx c.p.Decls x2 >>= fun x3 =>
        S2 c x3.TypeV x2 >>= fun x4 =>
        N6 x4 x1.1 false >>= fun x5 =>
        if (!x5) = true then
          some 9
        else
          some 0
theorem Uv {c s x res} (hh : O6 c s x = some res) : T0 C 115 [.d (.box (D0.row c)), .d (.bxo (I0.opt s)), .agg (F0.cells x)] [] (Ret [] (.d (.int .i64 res))) := by
  unfold O6 at hh
  obtain ⟨x1, hx1, hh⟩ := bs' hh
  refine T0.intro hC Tryz.func115 rfl rfl rfl (s' rfl rfl (L0.n hC rfl (e' rfl (p' 3 rfl (c' (Wn hx1) rfl rfl (o' 3 rfl (L0.nf hC rfl (L0.s hC rfl (e' rfl (S' (t' rfl (ci' rfl hh (fun hh => ?_) (fun hh => ?_)))))))))))))
  · cases hh
    exact t' rfl (re' (rt' rfl rfl rfl))
  refine sk' (S' (t' rfl (ci' rfl hh (fun hh => ?_) (fun hh => ?_))))
  · cases hh
    exact t' rfl (re' (rt' rfl rfl rfl))
  obtain ⟨x2, hx2, hh⟩ := bs' hh
  refine sk' (S' (AEx.draw hC 9 rfl rfl rfl (O' 7 rfl (Qc' (Ho hx2) rfl rfl (E' rfl (n' (S' (t' rfl (ci' rfl hh (fun hh => ?_) (fun hh => ?_))))))))))
  · cases hh
    exact t' rfl (re' (rt' rfl rfl rfl))
  obtain ⟨x3, hx3, hh⟩ := bs' hh
  obtain ⟨x4, hx4, hh⟩ := bs' hh
  obtain ⟨x5, hx5, hh⟩ := bs' hh
  refine sk' (S' (S' (AEx.draw hC 15 rfl rfl rfl (O' 7 rfl (AQ.i hC rfl (C1 hx3) (E0.idx hx3) rfl (O' 3 rfl (Qc' (M8 hx4) rfl rfl (Q' rfl (Qc' (Zj hx5) rfl rfl (E' rfl (n' (ci' rfl hh (fun hh => ?_) (fun hh => ?_)))))))))))))
  · cases hh
    exact t' rfl (re' (rt' rfl rfl rfl))
  cases hh
  exact sk' (t' rfl (re' (rt' rfl rfl rfl)))
def T8 (s : Option I0) (e : C0) : Option Int :=
  W3 s e >>= fun x1 =>
  if (bif (x1.2 == 0) then (x1.1.Kind != 0) else false) = true then
    some 9
  else
    some x1.2
theorem Ar {s e res} (hh : T8 s e = some res) : T0 C 116 [.d (.bxo (I0.opt s)), .agg (C0.cells e)] [] (Ret [] (.d (.int .i64 res))) := by
  unfold T8 at hh
  obtain ⟨x1, hx1, hh⟩ := bs' hh
  refine T0.intro hC Tryz.func116 rfl rfl rfl (s' rfl rfl (L0.n hC rfl (e' rfl (p' 2 rfl (c' (F1 hx1) rfl rfl (o' 3 rfl (L0.nf hC rfl (L0.s hC rfl (e' rfl (S' (sg' 7 rfl (G' 4 rfl (a1' rfl ?_)))))))))))))
  refine a1' rfl (pa' rfl (an' (n' (ci' rfl hh (fun hh => ?_) (fun hh => ?_)))))
  · cases hh
    exact T' rfl (t' rfl (re' (rt' rfl rfl rfl)))
  cases hh
  exact sk' (t' rfl (re' (rt' rfl rfl rfl)))
def Rc (s : Option I0) (name : Str) : Option Bool :=
  M5 s name >>= fun x1 =>
  some x1.2
theorem H11 {s name res} (hh : Rc s name = some res) : T0 C 184 [.d (.bxo (I0.opt s)), .d (.str name)] [] (Ret [] (.d (.bool res))) := by
  unfold Rc at hh
  obtain ⟨x1, hx1, hh⟩ := bs' hh
  cases hh
  exact T0.intro hC Tryz.func184 rfl rfl rfl (t' rfl (p' 2 rfl (c' (Ei hx1) rfl rfl (o' 3 rfl (L0.nf hC rfl (L0.s hC rfl (e' rfl (t' rfl (re' (rt' rfl rfl rfl))))))))))
mutual
def U1 (c : D0) (s : Option I0) (l : List F0) (top : Bool) : Option Int :=
  H3 c s l top 0
  partial_fixpoint
def H3 (c : D0) (s : Option I0) (l : List F0) (top : Bool) (v14 : Int) : Option Int :=
  if (decide (v14 < ((l).length : Int))) = true then
    idx l v14 >>= fun x1 =>
    V2 c s x1 (bif top then (v14 == (IntKind.i64.wrap (((l).length : Int) - 1))) else false) >>= fun x2 =>
    if (x2 != 0) = true then
      some x2
    else
      H3 c s l top (IntKind.i64.wrap (v14 + 1))
  else
    some 0
  partial_fixpoint
def V2 (c : D0) (s : Option I0) (x : F0) (last : Bool) : Option Int :=
  if (x.Verb == 0) = true then
    S9 s x.Place >>= fun x1 =>
    if (x1.2 != 0) = true then
      some x1.2
    else
      E9 s x.Value x1.1 >>= fun x2 =>
      some x2
  else
    if (x.Verb == 1) = true then
      H8 c s x >>= fun x3 =>
      some x3
    else
      if (x.Verb == 2) = true then
        O6 c s x >>= fun x4 =>
        some x4
      else
        if (x.Verb == 3) = true then
          W3 s x.Value >>= fun x5 =>
          (if (x5.2 == 0) = true then D7 x5.1 else some default) >>= fun x6 =>
          if (bif (x5.2 == 0) then (!x6) else false) = true then
            some 9
          else
            some x5.2
        else
          if (x.Verb == 5) = true then
            T8 s x.Value >>= fun x7 =>
            if (x7 != 0) = true then
              some x7
            else
              U1 c s x.Then false >>= fun x10 =>
              if (x10 != 0) = true then
                some x10
              else
                U1 c s x.Else false >>= fun x11 =>
                some x11
          else
            if (x.Verb == 6) = true then
              T8 s x.Value >>= fun x8 =>
              if (x8 != 0) = true then
                some x8
              else
                U1 c s x.Then false >>= fun x12 =>
                some x12
            else
              if (x.Verb == 7) = true then
                I8 c s x >>= fun x9 =>
                some x9
              else
                if (x.Verb == 8) = true then
                  if (!last) = true then
                    some 15
                  else
                    some 0
                else
                  some 0
  partial_fixpoint
def I8 (c : D0) (s : Option I0) (x : F0) : Option Int :=
  some (mgt x.Name c.names) >>= fun x1 =>
  (if (!(x1.getD ebool.zero)) = true then Rc s x.Name else some default) >>= fun x2 =>
  if (bif (x1.getD ebool.zero) then true else x2) = true then
    some 8
  else
    N4 s >>= fun x3 =>
    W2 x.Low x.High >>= fun x4 =>
    some (some (I0.mk x3.2 (mpt x.Name (J0.mk x4 true) x3.1))) >>= fun x5 =>
    U1 c x5 x.Then false >>= fun x6 =>
    some x6
  partial_fixpoint
end
abbrev Io (c : D0) (s : Option I0) (l : List F0) (top : Bool) (res : Int) : Prop := T0 C 31 [.d (.box (D0.row c)), .d (.bxo (I0.opt s)), .d (.sl (F0.rows l)), .d (.bool top)] [] (Ret [] (.d (.int .i64 res)))
abbrev Dm (c : D0) (s : Option I0) (l : List F0) (top : Bool) (v14 : Int) (res : Int) : Prop := LM C 35 0 Tryz.f31 [1, 0, 1, 4] [(0, .d (.box (D0.row c))), (1, .d (.bxo (I0.opt s))), (2, .d (.sl (F0.rows l))), (3, .d (.bool top)), (12, .d (.sl (F0.rows l))), (13, .d (.int .i64 ((l).length : Int))), (14, .d (.int .i64 v14))] [] (Ret [] (.d (.int .i64 res)))
abbrev Jp (c : D0) (s : Option I0) (x : F0) (last : Bool) (res : Int) : Prop := T0 C 59 [.d (.box (D0.row c)), .d (.bxo (I0.opt s)), .agg (F0.cells x), .d (.bool last)] [] (Ret [] (.d (.int .i64 res)))
abbrev Kp (c : D0) (s : Option I0) (x : F0) (res : Int) : Prop := T0 C 117 [.d (.box (D0.row c)), .d (.bxo (I0.opt s)), .agg (F0.cells x)] [] (Ret [] (.d (.int .i64 res)))
theorem Kc (c : D0) : (∀ s l top res, U1 c s l top = some res → Io c s l top res) ∧ (∀ s l top v14 res, H3 c s l top v14 = some res → Dm c s l top v14 res) ∧ (∀ s x last res, V2 c s x last = some res → Jp c s x last res) ∧ (∀ s x res, I8 c s x = some res → Kp c s x res) := by
  refine U1.mutual_partial_correctness c _ _ _ _ ?_ ?_ ?_ ?_
  · intro g1 ih1 s l top res hh
    exact T0.intro hC Tryz.func31 rfl rfl rfl (t' rfl (S' (p' 1 rfl (qe' rfl trivial (F0.lenA _) (e' rfl (bk' (fw' (ih1 _ _ _ _ _ hh) rfl rfl rfl)))))))
  · intro g1 g2 ih1 ih2 s l top v14 res hh
    refine D2.unroll (t' rfl (S' (ci' rfl hh (fun hh => ?_) (fun hh => ?_))))
    · obtain ⟨x1, hx1, hh⟩ := bs' hh
      obtain ⟨x2, hx2, hh⟩ := bs' hh
      refine sk' (S' (bk' (p' 1 rfl (i' rfl (C1 hx1) (F0.idx hx1) rfl (q' rfl (L0.nf hC rfl (q' rfl (L0.s hC rfl (n' (sg' 13 rfl (G' 7 rfl (AG.qe hC rfl (fun hg => ⟨⟨hg, trivial⟩, trivial⟩) (F0.lenA _) (a1' rfl ?_)))))))))))))
      refine a2' rfl (pa' rfl (AG.c rfl rfl (fun _ => trivial) (fun _ => ih2 _ _ _ _ hx2) (a0' rfl (an' (n' (t' rfl (ci' rfl hh (fun hh => ?_) (fun hh => ?_))))))))
      · cases hh
        exact t' rfl (re' (rt' rfl rfl rfl))
      exact sk' (T' rfl (lw' (ih1 _ _ _ _ _ hh) rfl rfl rfl))
    cases hh
    exact ex' (t' rfl (re' (rt' rfl rfl rfl)))
  · intro g0 g3 ih0 ih3 s x last res hh
    refine T0.intro hC Tryz.func59 rfl rfl rfl (s' rfl rfl (L0.n hC rfl (e' rfl (S' (t' rfl (bk' (t' rfl (ci' rfl hh (fun hh => ?_) (fun hh => ?_)))))))))
    · obtain ⟨x1, hx1, hh⟩ := bs' hh
      refine p' 3 rfl (c' (Wn hx1) rfl rfl (o' 3 rfl (L0.nf hC rfl (L0.s hC rfl (e' rfl (S' (t' rfl (ci' rfl hh (fun hh => ?_) (fun hh => ?_)))))))))
      · cases hh
        exact t' rfl (re' (rt' rfl rfl rfl))
      obtain ⟨x2, hx2, hh⟩ := bs' hh
      cases hh
      exact sk' (p' 4 rfl (c' (Tk hx2) rfl rfl (e' rfl (re' (rt' rfl rfl rfl)))))
    refine t' rfl (ci' rfl hh (fun hh => ?_) (fun hh => ?_))
    · obtain ⟨x3, hx3, hh⟩ := bs' hh
      cases hh
      exact p' 3 rfl (c' (Ny hx3) rfl rfl (e' rfl (re' (rt' rfl rfl rfl))))
    refine t' rfl (ci' rfl hh (fun hh => ?_) (fun hh => ?_))
    · obtain ⟨x4, hx4, hh⟩ := bs' hh
      cases hh
      exact p' 3 rfl (c' (Uv hx4) rfl rfl (e' rfl (re' (rt' rfl rfl rfl))))
    refine t' rfl (ci' rfl hh (fun hh => ?_) (fun hh => ?_))
    · obtain ⟨x5, hx5, hh⟩ := bs' hh
      obtain ⟨x6, hx6, hh⟩ := bs' hh
      refine p' 3 rfl (c' (F1 hx5) rfl rfl (o' 3 rfl (L0.nf hC rfl (L0.s hC rfl (e' rfl (S' (sg' 7 rfl (G' 4 rfl (AG.c rfl rfl (fun hg => ⟨hg, trivial⟩) (fun hw => Qj (Jd hw hx6)) (a1' rfl (pa' rfl (an' (n' (ci' rfl hh (fun hh => ?_) (fun hh => ?_)))))))))))))))
      · cases hh
        exact T' rfl (t' rfl (re' (rt' rfl rfl rfl)))
      cases hh
      exact sk' (t' rfl (re' (rt' rfl rfl rfl)))
    refine t' rfl (ci' rfl hh (fun hh => ?_) (fun hh => ?_))
    · obtain ⟨x7, hx7, hh⟩ := bs' hh
      refine S' (p' 3 rfl (c' (Ar hx7) rfl rfl (e' rfl (t' rfl (ci' rfl hh (fun hh => ?_) (fun hh => ?_))))))
      · cases hh
        exact t' rfl (re' (rt' rfl rfl rfl))
      obtain ⟨x10, hx10, hh⟩ := bs' hh
      refine sk' (S' (p' 4 rfl (c' (ih0 _ _ _ _ hx10) rfl rfl (e' rfl (t' rfl (ci' rfl hh (fun hh => ?_) (fun hh => ?_)))))))
      · cases hh
        exact t' rfl (re' (rt' rfl rfl rfl))
      obtain ⟨x11, hx11, hh⟩ := bs' hh
      cases hh
      exact sk' (p' 4 rfl (c' (ih0 _ _ _ _ hx11) rfl rfl (e' rfl (re' (rt' rfl rfl rfl)))))
    refine t' rfl (ci' rfl hh (fun hh => ?_) (fun hh => ?_))
    · obtain ⟨x8, hx8, hh⟩ := bs' hh
      refine S' (p' 3 rfl (c' (Ar hx8) rfl rfl (e' rfl (t' rfl (ci' rfl hh (fun hh => ?_) (fun hh => ?_))))))
      · cases hh
        exact t' rfl (re' (rt' rfl rfl rfl))
      obtain ⟨x12, hx12, hh⟩ := bs' hh
      cases hh
      exact sk' (p' 4 rfl (c' (ih0 _ _ _ _ hx12) rfl rfl (e' rfl (re' (rt' rfl rfl rfl)))))
    refine t' rfl (ci' rfl hh (fun hh => ?_) (fun hh => ?_))
    · obtain ⟨x9, hx9, hh⟩ := bs' hh
      cases hh
      exact p' 3 rfl (c' (ih3 _ _ _ hx9) rfl rfl (e' rfl (re' (rt' rfl rfl rfl))))
    refine t' rfl (ci' rfl hh (fun hh => ?_) (fun hh => ?_))
    · refine t' rfl (ci' rfl hh (fun hh => ?_) (fun hh => ?_))
      · cases hh
        exact t' rfl (re' (rt' rfl rfl rfl))
      cases hh
      exact sk' (t' rfl (re' (rt' rfl rfl rfl)))
    cases hh
    exact sk' (t' rfl (re' (rt' rfl rfl rfl)))
  · intro g0 ih0 s x res hh
    obtain ⟨x1, hx1, hh⟩ := bs' hh
    obtain ⟨x2, hx2, hh⟩ := bs' hh
    refine T0.intro hC Tryz.func117 rfl rfl rfl (s' rfl rfl (L0.n hC rfl (e' rfl (S' (S' (AEx.drawG hC 13 rfl rfl rfl (G' 6 rfl (AG.fl hC rfl rfl (fun _ => trivial) (fun _ => rfl) (ebool.lk hx1) (G' 3 rfl (a1' rfl (AG.c rfl rfl (fun hg => ⟨hg, hg, trivial⟩) (fun hw => H11 (Jd hw hx2)) (po' rfl (an' ?_)))))))))))))
    refine n' (ci' rfl hh (fun hh => ?_) (fun hh => ?_))
    · cases hh
      exact t' rfl (re' (rt' rfl rfl rfl))
    obtain ⟨x3, hx3, hh⟩ := bs' hh
    obtain ⟨x4, hx4, hh⟩ := bs' hh
    obtain ⟨x5, hx5, hh⟩ := bs' hh
    obtain ⟨x6, hx6, hh⟩ := bs' hh
    refine sk' (p' 1 rfl (g' [] (Di hx3) rfl rfl rfl rfl rfl rfl (e' rfl (S' (AEx.draw hC 12 rfl rfl rfl (O' 10 rfl (Qc' (I4 hx4) rfl rfl (E' rfl (L0.ue hC rfl (J0.mput _ (J0.mk x4 true) _) rfl (n' (p' 4 rfl (L0.fm 1 rfl rfl (L0.bx 2 (y := .bxo (I0.opt x5)) (by cases hx5; exact .inr rfl) rfl rfl rfl ?_)))))))))))))
    refine c' (ih0 _ _ _ _ hx6) rfl rfl (e' rfl ?_)
    cases hh
    exact re' (rt' rfl rfl rfl)
theorem Nn {c s l top res} (hh : U1 c s l top = some res) : Io c s l top res := (Kc c).1 _ _ _ _ hh
theorem T1b {c s l top v14 res} (hh : H3 c s l top v14 = some res) : Dm c s l top v14 res := (Kc c).2.1 _ _ _ _ _ hh
theorem U1e {c s x last res} (hh : V2 c s x last = some res) : Jp c s x last res := (Kc c).2.2.1 _ _ _ _ hh
theorem V1e {c s x res} (hh : I8 c s x = some res) : Kp c s x res := (Kc c).2.2.2 _ _ _ hh
mutual
def Q1 (c : D0) (i : Int) (result : A0) (x1 : E0) (m21 : List (Str × J0)) (x2 : List (Str × J0) × Option I0) (v34 : Int) : Option Int :=
  if (decide (v34 < (([x1.Params, x1.Vars]).length : Int))) = true then
    idx [x1.Params, x1.Vars] v34 >>= fun x3 =>
    Q2 c i result x1 m21 x2 v34 x3 0
  else
    some (D0.mk c.p i true c.names) >>= fun x4 =>
    some (some (I0.mk x2.2 m21)) >>= fun x5 =>
    U1 x4 x5 x1.Body false >>= fun x6 =>
    if (x6 != 0) = true then
      some x6
    else
      E9 x5 x1.Value result >>= fun x7 =>
      some x7
  partial_fixpoint
def Q2 (c : D0) (i : Int) (result : A0) (x1 : E0) (m2 : List (Str × J0)) (x2 : List (Str × J0) × Option I0) (v341 : Int) (x3 : List E0) (v40 : Int) : Option Int :=
  if (decide (v40 < ((x3).length : Int))) = true then
    idx x3 v40 >>= fun x8 =>
    P4 c x8.TypeV i >>= fun x9 =>
    if (x9.2 != 0) = true then
      some x9.2
    else
      Q2 c i result x1 (mpt x8.Name (J0.mk x9.1 false) m2) x2 v341 x3 (IntKind.i64.wrap (v40 + 1))
  else
    Q1 c i result x1 m2 x2 (IntKind.i64.wrap (v341 + 1))
  partial_fixpoint
end
abbrev Wj (c : D0) (i : Int) (result : A0) (x1 : E0) (m21 : List (Str × J0)) (x2 : List (Str × J0) × Option I0) (v34 : Int) (res : Int) : Prop := LM C 83 0 Tryz.f58 [1, 1, 1, 1, 0, 1, 4] [(0, .d (.box (D0.row c))), (1, .d (.int .i64 i)), (5, .ref 0 0), (7, .ref 1 0), (9, .ref 3 0), (32, .full (esl_ApiDecl.rows [x1.Params, x1.Vars])), (33, .d (.int .i64 (([x1.Params, x1.Vars]).length : Int))), (34, .d (.int .i64 v34))] [.row (A0.cells result) 40, .row (E0.cells x1) 59, .map (.s (J0.ents m21)), .row [.d (.bxo (I0.opt x2.2)), .mp 2] 110] (Ret [] (.d (.int .i64 res)))
abbrev Xj (c : D0) (i : Int) (result : A0) (x1 : E0) (m2 : List (Str × J0)) (x2 : List (Str × J0) × Option I0) (v341 : Int) (x3 : List E0) (v40 : Int) (res : Int) : Prop := LM C 83 0 Tryz.f58 [1, 1, 1, 1, 0, 1, 4, 5, 1, 1, 0, 4, 1, 1, 4] [(0, .d (.box (D0.row c))), (1, .d (.int .i64 i)), (5, .ref 0 0), (7, .ref 1 0), (9, .ref 3 0), (32, .full (esl_ApiDecl.rows [x1.Params, x1.Vars])), (33, .d (.int .i64 (([x1.Params, x1.Vars]).length : Int))), (34, .d (.int .i64 v341)), (38, .d (.sl (E0.rows x3))), (39, .d (.int .i64 ((x3).length : Int))), (40, .d (.int .i64 v40))] [.row (A0.cells result) 40, .row (E0.cells x1) 59, .map (.s (J0.ents m2)), .row [.d (.bxo (I0.opt x2.2)), .mp 2] 110] (Ret [] (.d (.int .i64 res)))
theorem Ni (c : D0) (i : Int) (result : A0) (x1 : E0) (x2 : List (Str × J0) × Option I0) : (∀ m21 v34 res, Q1 c i result x1 m21 x2 v34 = some res → Wj c i result x1 m21 x2 v34 res) ∧ (∀ m2 v341 x3 v40 res, Q2 c i result x1 m2 x2 v341 x3 v40 = some res → Xj c i result x1 m2 x2 v341 x3 v40 res) := by
  refine Q1.mutual_partial_correctness c i result x1 x2 _ _ ?_ ?_
  · intro g1 ih1 m21 v34 res hh
    refine D2.unroll (t' rfl (S' (ci' rfl hh (fun hh => ?_) (fun hh => ?_))))
    · obtain ⟨x3, hx3, hh⟩ := bs' hh
      exact sk' (S' (bk' (s' rfl rfl (i' rfl (C1 hx3) (esl_ApiDecl.idx hx3) rfl (e' rfl (p' 1 rfl (qe' rfl trivial (E0.lenA _) (e' rfl (bk' (fw' (ih1 _ _ _ _ _ hh) rfl rfl rfl))))))))))
    obtain ⟨x4, hx4, hh⟩ := bs' hh
    obtain ⟨x5, hx5, hh⟩ := bs' hh
    obtain ⟨x6, hx6, hh⟩ := bs' hh
    refine ex' (p' 3 rfl (L0.nf hC rfl (L0.s hC rfl (n' (p' 2 rfl (L0.s hC rfl (q' rfl (L0.s hC rfl (n' (S' (p' 3 rfl (L0.bx 4 (y := .box (D0.row x4)) (by cases hx4; exact .inl rfl) rfl rfl rfl (L0.fm 2 rfl rfl ?_)))))))))))))
    refine L0.bx 3 (y := .bxo (I0.opt x5)) (by cases hx5; exact .inr rfl) rfl rfl rfl (c' (Nn hx6) rfl rfl (e' rfl (t' rfl (ci' rfl hh (fun hh => ?_) (fun hh => ?_)))))
    · cases hh
      exact t' rfl (re' (rt' rfl rfl rfl))
    obtain ⟨x7, hx7, hh⟩ := bs' hh
    cases hh
    exact sk' (p' 4 rfl (c' (Tk hx7) rfl rfl (e' rfl (re' (rt' rfl rfl rfl)))))
  · intro g0 g1 ih0 ih1 m2 v341 x3 v40 res hh
    refine D2.unroll (t' rfl (S' (ci' rfl hh (fun hh => ?_) (fun hh => ?_))))
    · obtain ⟨x8, hx8, hh⟩ := bs' hh
      obtain ⟨x9, hx9, hh⟩ := bs' hh
      refine sk' (S' (bk' (s' rfl rfl (i' rfl (C1 hx8) (E0.idx hx8) rfl (q' rfl (L0.nf hC rfl (L0.s hC rfl (n' (p' 4 rfl (c' (Xg hx9) rfl rfl (o' 3 rfl (L0.nf hC rfl (L0.s hC rfl ?_)))))))))))))
      refine e' rfl (S' (t' rfl (ci' rfl hh (fun hh => ?_) (fun hh => ?_))))
      · cases hh
        exact t' rfl (re' (rt' rfl rfl rfl))
      exact sk' (AEx.draw hC 8 rfl rfl rfl (E' rfl (L0.ue hC rfl (J0.mput _ (J0.mk x9.1 false) _) rfl (n' (T' rfl (lw' (ih1 _ _ _ _ _ hh) rfl rfl rfl))))))
    exact ex' (T' rfl (lw' (ih0 _ _ _ hh) rfl rfl rfl))
theorem Vr {c i result x1 m21 x2 v34 res} (hh : Q1 c i result x1 m21 x2 v34 = some res) : Wj c i result x1 m21 x2 v34 res := (Ni c i result x1 x2).1 _ _ _ hh
theorem A19 {c i result x1 m2 x2 v341 x3 v40 res} (hh : Q2 c i result x1 m2 x2 v341 x3 v40 = some res) : Xj c i result x1 m2 x2 v341 x3 v40 res := (Ni c i result x1 x2).2 _ _ _ _ _ hh
def C6 (c : D0) (i : Int) (result : A0) : Option Int :=
  idx c.p.Decls i >>= fun x1 =>
  N4 none >>= fun x2 =>
  Q1 c i result x1 x2.1 x2 0
theorem Qu {c i result res} (hh : C6 c i result = some res) : T0 C 58 [.d (.box (D0.row c)), .d (.int .i64 i), .agg (A0.cells result)] [] (Ret [] (.d (.int .i64 res))) := by
  unfold C6 at hh
  obtain ⟨x1, hx1, hh⟩ := bs' hh
  obtain ⟨x2, hx2, hh⟩ := bs' hh
  refine T0.intro hC Tryz.func58 rfl rfl rfl (s' rfl rfl (L0.n hC rfl (e' rfl (p' 6 rfl (i' rfl (C1 hx1) (E0.idx hx1) rfl (q' rfl (L0.nf hC rfl (L0.s hC rfl (n' (t' rfl (p' 1 rfl (L0.g [] rfl (Di hx2) ⟨.nbx, trivial⟩ rfl trivial rfl rfl (e' rfl ?_)))))))))))))
  exact S' (p' 4 rfl (L0.be hC rfl (esl_ApiDecl.rows_map [x1.Params, x1.Vars]).symm (qe' rfl trivial (esl_ApiDecl.lenA _) (e' rfl (bk' (fw' (Vr hh) rfl rfl rfl))))))
def J8 (c : D0) (i : Int) : Option Int :=
  idx c.p.Decls i >>= fun x1 =>
  P4 c x1.TypeV i >>= fun x2 =>
  if (x2.2 != 0) = true then
    some x2.2
  else
    if (x1.Kind == 5) = true then
      D7 x2.1 >>= fun x3 =>
      if (!x3) = true then
        some 9
      else
        Q4 c i false >>= fun x4 =>
        E9 x4 x1.Value x2.1 >>= fun x5 =>
        some x5
    else
      if (x1.Kind == 6) = true then
        C6 c i x2.1 >>= fun x6 =>
        some x6
      else
        some 0
theorem Oy {c i res} (hh : J8 c i = some res) : T0 C 30 [.d (.box (D0.row c)), .d (.int .i64 i)] [] (Ret [] (.d (.int .i64 res))) := by
  unfold J8 at hh
  obtain ⟨x1, hx1, hh⟩ := bs' hh
  obtain ⟨x2, hx2, hh⟩ := bs' hh
  refine T0.intro hC Tryz.func30 rfl rfl rfl (t' rfl (p' 6 rfl (i' rfl (C1 hx1) (E0.idx hx1) rfl (q' rfl (L0.nf hC rfl (L0.s hC rfl (n' (p' 4 rfl (c' (Xg hx2) rfl rfl (o' 3 rfl (L0.nf hC rfl (L0.s hC rfl (e' rfl ?_)))))))))))))
  refine S' (t' rfl (ci' rfl hh (fun hh => ?_) (fun hh => ?_)))
  · cases hh
    exact t' rfl (re' (rt' rfl rfl rfl))
  refine sk' (S' (t' rfl (bk' (t' rfl (ci' rfl hh (fun hh => ?_) (fun hh => ?_))))))
  · obtain ⟨x3, hx3, hh⟩ := bs' hh
    refine S' (p' 1 rfl (c' (Qj hx3) rfl rfl (e' rfl (ci' rfl hh (fun hh => ?_) (fun hh => ?_)))))
    · cases hh
      exact t' rfl (re' (rt' rfl rfl rfl))
    obtain ⟨x4, hx4, hh⟩ := bs' hh
    obtain ⟨x5, hx5, hh⟩ := bs' hh
    cases hh
    exact sk' (S' (AEx.draw hC 8 rfl rfl rfl (O' 2 rfl (Qc' (V0 hx4) rfl rfl (O' 3 rfl (Qc' (Tk hx5) rfl rfl (E' rfl (n' (re' (rt' rfl rfl rfl))))))))))
  refine t' rfl (ci' rfl hh (fun hh => ?_) (fun hh => ?_))
  · obtain ⟨x6, hx6, hh⟩ := bs' hh
    cases hh
    exact p' 3 rfl (c' (Qu hx6) rfl rfl (e' rfl (re' (rt' rfl rfl rfl))))
  cases hh
  exact sk' (t' rfl (re' (rt' rfl rfl rfl)))
mutual
def Zc (t : A0) : Option Bool :=
  (if (!(t.Kind == 4)) = true then P2 t.Of else some default) >>= fun x1 =>
  some (bif (t.Kind == 4) then true else x1)
  partial_fixpoint
def P2 (s : List A0) : Option Bool :=
  B3 s >>= fun x1 =>
  some (decide (x1 ≥ 0))
  partial_fixpoint
def B3 (s : List A0) : Option Int :=
  N1 s 0
  partial_fixpoint
def N1 (s : List A0) (v8 : Int) : Option Int :=
  if (decide (v8 < ((s).length : Int))) = true then
    idx s v8 >>= fun x1 =>
    Zc x1 >>= fun x2 =>
    if x2 = true then
      some v8
    else
      N1 s (IntKind.i64.wrap (v8 + 1))
  else
    some (-1)
  partial_fixpoint
end
abbrev Q14 (t : A0) (res : Bool) : Prop := T0 C 215 [.agg (A0.cells t)] [] (Ret [] (.d (.bool res)))
abbrev Td (s : List A0) (res : Bool) : Prop := T0 C 227 [.d (.sl (A0.rows s)), .clo 215 []] [] (Ret [] (.d (.bool res)))
abbrev Qf (s : List A0) (res : Int) : Prop := T0 C 233 [.d (.sl (A0.rows s)), .clo 215 []] [] (Ret [] (.d (.int .i64 res)))
abbrev Ud (s : List A0) (v8 : Int) (res : Int) : Prop := LM C 19 0 Tryz.f233 [1, 0, 1, 4] [(0, .d (.sl (A0.rows s))), (1, .clo 215 []), (7, .d (.int .i64 ((s).length : Int))), (8, .d (.int .i64 v8))] [] (Ret [] (.d (.int .i64 res)))
theorem Jo : (∀ t res, Zc t = some res → Q14 t res) ∧ (∀ s res, P2 s = some res → Td s res) ∧ (∀ s res, B3 s = some res → Qf s res) ∧ (∀ s v8 res, N1 s v8 = some res → Ud s v8 res) := by
  refine Zc.mutual_partial_correctness _ _ _ _ ?_ ?_ ?_ ?_
  · intro g1 ih1 t res hh
    obtain ⟨x1, hx1, hh⟩ := bs' hh
    cases hh
    exact T0.intro hC Tryz.func215 rfl rfl rfl (s' rfl rfl (L0.n hC rfl (e' rfl (sg' 9 rfl (G' 5 rfl (a1' rfl (AG.c rfl rfl (fun hg => ⟨hg, trivial⟩) (fun hw => ih1 _ _ (Jd hw hx1)) (po' rfl (a0' rfl (an' (n' (re' (rt' rfl rfl rfl)))))))))))))
  · intro g2 ih2 s res hh
    obtain ⟨x1, hx1, hh⟩ := bs' hh
    cases hh
    exact T0.intro hC Tryz.func227 rfl rfl rfl (t' rfl (p' 2 rfl (c' (ih2 _ _ hx1) rfl rfl (e' rfl (re' (rt' rfl rfl rfl))))))
  · intro g3 ih3 s res hh
    exact T0.intro hC Tryz.func233 rfl rfl rfl (t' rfl (S' (p' 1 rfl (qe' rfl trivial (A0.lenA _) (e' rfl (bk' (fw' (ih3 _ _ _ hh) rfl rfl rfl)))))))
  · intro g0 g3 ih0 ih3 s v8 res hh
    refine D2.unroll (t' rfl (S' (ci' rfl hh (fun hh => ?_) (fun hh => ?_))))
    · obtain ⟨x1, hx1, hh⟩ := bs' hh
      obtain ⟨x2, hx2, hh⟩ := bs' hh
      refine sk' (S' (bk' (t' rfl (p' 3 rfl (i' rfl (C1 hx1) (A0.idx hx1) rfl (q' rfl (c' (ih0 _ _ hx2) rfl rfl (n' (ci' rfl hh (fun hh => ?_) (fun hh => ?_))))))))))
      · cases hh
        exact t' rfl (re' (rt' rfl rfl rfl))
      exact sk' (T' rfl (lw' (ih3 _ _ _ hh) rfl rfl rfl))
    cases hh
    exact ex' (t' rfl (re' (rt' rfl rfl rfl)))
theorem L1c {t res} (hh : Zc t = some res) : Q14 t res := (Jo).1 _ _ hh
theorem T11 {s res} (hh : P2 s = some res) : Td s res := (Jo).2.1 _ _ hh
theorem Z13 {s res} (hh : B3 s = some res) : Qf s res := (Jo).2.2.1 _ _ hh
theorem U11 {s v8 res} (hh : N1 s v8 = some res) : Ud s v8 res := (Jo).2.2.2 _ _ _ hh
def Tn (t : A0) : Option Int :=
  Zc t >>= fun x1 =>
  if x1 = true then
    some 7
  else
    Mb t >>= fun x2 =>
    if x2 = true then
      some 8
    else
      Fa t >>= fun x3 =>
      if (decide (x3 > 32)) = true then
        some 4
      else
        some 0
theorem M1c {t res} (hh : Tn t = some res) : T0 C 186 [.agg (A0.cells t)] [] (Ret [] (.d (.int .i64 res))) := by
  unfold Tn at hh
  obtain ⟨x1, hx1, hh⟩ := bs' hh
  refine T0.intro hC Tryz.func186 rfl rfl rfl (s' rfl rfl (L0.n hC rfl (e' rfl (S' (p' 1 rfl (c' (L1c hx1) rfl rfl (n' (ci' rfl hh (fun hh => ?_) (fun hh => ?_)))))))))
  · cases hh
    exact t' rfl (re' (rt' rfl rfl rfl))
  obtain ⟨x2, hx2, hh⟩ := bs' hh
  refine sk' (S' (p' 1 rfl (c' (S12 hx2) rfl rfl (n' (ci' rfl hh (fun hh => ?_) (fun hh => ?_))))))
  · cases hh
    exact t' rfl (re' (rt' rfl rfl rfl))
  obtain ⟨x3, hx3, hh⟩ := bs' hh
  refine sk' (S' (p' 1 rfl (c' (T12 hx3) rfl rfl (e' rfl (ci' rfl hh (fun hh => ?_) (fun hh => ?_))))))
  · cases hh
    exact t' rfl (re' (rt' rfl rfl rfl))
  cases hh
  exact sk' (t' rfl (re' (rt' rfl rfl rfl)))
def Gl (t : A0) : Option Int :=
  Ra t >>= fun x1 =>
  if (x1 != 0) = true then
    some x1
  else
    Tn t >>= fun x2 =>
    some x2
theorem N1c {t res} (hh : Gl t = some res) : T0 C 118 [.agg (A0.cells t)] [] (Ret [] (.d (.int .i64 res))) := by
  unfold Gl at hh
  obtain ⟨x1, hx1, hh⟩ := bs' hh
  refine T0.intro hC Tryz.func118 rfl rfl rfl (s' rfl rfl (L0.n hC rfl (e' rfl (S' (p' 1 rfl (c' (Av hx1) rfl rfl (e' rfl (t' rfl (ci' rfl hh (fun hh => ?_) (fun hh => ?_))))))))))
  · cases hh
    exact t' rfl (re' (rt' rfl rfl rfl))
  obtain ⟨x2, hx2, hh⟩ := bs' hh
  cases hh
  exact sk' (p' 1 rfl (c' (M1c hx2) rfl rfl (e' rfl (re' (rt' rfl rfl rfl)))))
def Rf (s : Str) : Option Str :=
  M17 s >>= fun x1 =>
  some x1
theorem Oz {s res} (hh : Rf s = some res) : T0 C 121 [.d (.str s)] [] (Ret [] (.d (.str res))) := by
  unfold Rf at hh
  obtain ⟨x1, hx1, hh⟩ := bs' hh
  cases hh
  exact T0.intro hC Tryz.func121 rfl rfl rfl (t' rfl (p' 1 rfl (c' (P1l hx1) rfl rfl (e' rfl (re' (rt' rfl rfl rfl))))))
def Sa (path : Str) (a1 : Int) (x : A0) (s : List P0) : Option (Bool × List P0) :=
  if (x.Kind == 0) = true then
    Rf path >>= fun x1 =>
    if (decide ((s.length + 1) * 41 ≤ 140737488355328)) = true then
      some (true, (s ++ [(P0.mk x1 true 0 1)]))
    else none
  else
    if (x.Kind == 1) = true then
      Rf path >>= fun x2 =>
      if (decide ((s.length + 1) * 41 ≤ 140737488355328)) = true then
        some (true, (s ++ [(P0.mk x2 false x.Low x.High)]))
      else none
    else
      some (true, s)
theorem V12 {path a1 x s res} (hh : Sa path a1 x s = some res) : T0 C 120 [.d (.str path), .d (.int .i64 a1), .agg (A0.cells x), .ref 0 0] [.row [.osl 1 (P0.rows s)] 113, .tok 117 4] (Ret [.row [.osl 1 (P0.rows res.2)] 113, .tok 117 4] (.d (.bool res.1))) := by
  unfold Sa at hh
  refine T0.intro hC Tryz.func120 rfl rfl rfl (s' rfl rfl (L0.n hC rfl (e' rfl (S' (t' rfl (bk' (t' rfl (ci' rfl hh (fun hh => ?_) (fun hh => ?_)))))))))
  · obtain ⟨x1, hx1, hh⟩ := bs' hh
    obtain ⟨c5, hh⟩ := Pd hh
    cases hh
    refine AEx.draw hC 5 rfl rfl rfl (O' 2 rfl (Qc' (Oz hx1) rfl rfl (Q' rfl (AQ.be hC rfl (P0.rows_map [(P0.mk x1 true 0 1)]).symm (Qn' ?_)))))
    exact L0.ap hC rfl (rs := P0.rows (s ++ [(P0.mk x1 true 0 1)])) (P0.app s [(P0.mk x1 true 0 1)]) (P0.sz s) (P0.sz [(P0.mk x1 true 0 1)]) (I12 (P0.len s) (P0.len [(P0.mk x1 true 0 1)]) c5) (L0.s hC rfl (n' (t' rfl (re' (rt' rfl rfl rfl)))))
  refine t' rfl (ci' rfl hh (fun hh => ?_) (fun hh => ?_))
  · obtain ⟨x2, hx2, hh⟩ := bs' hh
    obtain ⟨c6, hh⟩ := Pd hh
    cases hh
    refine AEx.draw hC 9 rfl rfl rfl (O' 2 rfl (Qc' (Oz hx2) rfl rfl (O' 5 rfl (AQ.be hC rfl (P0.rows_map [(P0.mk x2 false x.Low x.High)]).symm (Qn' ?_)))))
    exact L0.ap hC rfl (rs := P0.rows (s ++ [(P0.mk x2 false x.Low x.High)])) (P0.app s [(P0.mk x2 false x.Low x.High)]) (P0.sz s) (P0.sz [(P0.mk x2 false x.Low x.High)]) (I12 (P0.len s) (P0.len [(P0.mk x2 false x.Low x.High)]) c6) (L0.s hC rfl (n' (t' rfl (re' (rt' rfl rfl rfl)))))
  cases hh
  exact sk' (t' rfl (re' (rt' rfl rfl rfl)))
mutual
def W5 (path : Str) (t : A0) (s : Int) (s1 : List P0) : Option (Bool × Int × List P0) :=
  Sa path s t s1 >>= fun x1 =>
  if (!x1.1) = true then
    some (false, s, x1.2)
  else
    if (t.Kind == 2) = true then
      Q5 path t s x1.2 0
    else
      if (t.Kind == 3) = true then
        P5 path t s x1.2 0
      else
        some (true, (IntKind.i64.wrap (s + 1)), x1.2)
  partial_fixpoint
def P5 (path : Str) (t : A0) (o11 : Int) (o31 : List P0) (v46 : Int) : Option (Bool × Int × List P0) :=
  if (decide (v46 < ((t.Of).length : Int))) = true then
    idx t.Of v46 >>= fun x4 =>
    if (decide (path.length + 1 ≤ maxLen)) = true then
      idx t.Names v46 >>= fun x5 =>
      if (decide ((path ++ [46]).length + x5.length ≤ maxLen)) = true then
        W5 ((path ++ [46]) ++ x5) x4 o11 o31 >>= fun x7 =>
        if (!x7.1) = true then
          some (false, x7.2.1, x7.2.2)
        else
          P5 path t x7.2.1 x7.2.2 (IntKind.i64.wrap (v46 + 1))
      else none
    else none
  else
    some (true, o11, o31)
  partial_fixpoint
def Q5 (path : Str) (t : A0) (o1 : Int) (o3 : List P0) (v25 : Int) : Option (Bool × Int × List P0) :=
  if (decide (v25 < t.Size)) = true then
    if (decide (path.length + 1 ≤ maxLen)) = true then
      R12 v25 >>= fun x2 =>
      if (decide ((path ++ [46]).length + x2.length ≤ maxLen)) = true then
        idx t.Of 0 >>= fun x3 =>
        W5 ((path ++ [46]) ++ x2) x3 o1 o3 >>= fun x6 =>
        if (!x6.1) = true then
          some (false, x6.2.1, x6.2.2)
        else
          Q5 path t x6.2.1 x6.2.2 (IntKind.i64.wrap (v25 + 1))
      else none
    else none
  else
    some (true, o1, o3)
  partial_fixpoint
end
abbrev Dy (path : Str) (t : A0) (s : Int) (s1 : List P0) (res : Bool × Int × List P0) : Prop := T0 C 187 [.d (.str path), .agg (A0.cells t), .ref 0 0, .ref 1 0, .ref 2 0] [.row [.clo 120 [.ref 3 0]] 171, .row [.d (.int .i64 s)] 3, .row [.clo 187 [.ref 0 0, .ref 1 0, .ref 2 0]] 215, .row [.osl 4 (P0.rows s1)] 113, .tok 117 4] (Ret [.row [.clo 120 [.ref 3 0]] 171, .row [.d (.int .i64 res.2.1)] 3, .row [.clo 187 [.ref 0 0, .ref 1 0, .ref 2 0]] 215, .row [.osl 4 (P0.rows res.2.2)] 113, .tok 117 4] (.d (.bool res.1)))
abbrev Jt (path : Str) (t : A0) (o11 : Int) (o31 : List P0) (v46 : Int) (res : Bool × Int × List P0) : Prop := LM C 64 5 Tryz.f187 [1, 1, 0, 1, 4, 1, 3, 1, 2, 1, 4] [(0, .d (.str path)), (4, .ref 2 0), (6, .ref 5 0), (44, .d (.sl (A0.rows t.Of))), (45, .d (.int .i64 ((t.Of).length : Int))), (46, .d (.int .i64 v46))] [.row [.clo 120 [.ref 3 0]] 171, .row [.d (.int .i64 o11)] 3, .row [.clo 187 [.ref 0 0, .ref 1 0, .ref 2 0]] 215, .row [.osl 4 (P0.rows o31)] 113, .tok 117 4, .row (A0.cells t) 40] (Ret [.row [.clo 120 [.ref 3 0]] 171, .row [.d (.int .i64 res.2.1)] 3, .row [.clo 187 [.ref 0 0, .ref 1 0, .ref 2 0]] 215, .row [.osl 4 (P0.rows res.2.2)] 113, .tok 117 4] (.d (.bool res.1)))
abbrev Kt (path : Str) (t : A0) (o1 : Int) (o3 : List P0) (v25 : Int) (res : Bool × Int × List P0) : Prop := LM C 64 5 Tryz.f187 [1, 1, 0, 1, 4, 1, 2, 1, 4] [(0, .d (.str path)), (4, .ref 2 0), (6, .ref 5 0), (24, .d (.int .i64 t.Size)), (25, .d (.int .i64 v25))] [.row [.clo 120 [.ref 3 0]] 171, .row [.d (.int .i64 o1)] 3, .row [.clo 187 [.ref 0 0, .ref 1 0, .ref 2 0]] 215, .row [.osl 4 (P0.rows o3)] 113, .tok 117 4, .row (A0.cells t) 40] (Ret [.row [.clo 120 [.ref 3 0]] 171, .row [.d (.int .i64 res.2.1)] 3, .row [.clo 187 [.ref 0 0, .ref 1 0, .ref 2 0]] 215, .row [.osl 4 (P0.rows res.2.2)] 113, .tok 117 4] (.d (.bool res.1)))
theorem Xn : (∀ path t s s1 res, W5 path t s s1 = some res → Dy path t s s1 res) ∧ (∀ path t o11 o31 v46 res, P5 path t o11 o31 v46 = some res → Jt path t o11 o31 v46 res) ∧ (∀ path t o1 o3 v25 res, Q5 path t o1 o3 v25 = some res → Kt path t o1 o3 v25 res) := by
  refine W5.mutual_partial_correctness _ _ _ ?_ ?_ ?_
  · intro g1 g2 ih1 ih2 path t s s1 res hh
    obtain ⟨x1, hx1, hh⟩ := bs' hh
    refine T0.intro hC Tryz.func187 rfl rfl rfl (s' rfl rfl (L0.n hC rfl (e' rfl (S' (p' 4 rfl (g' [3, 4] (V12 hx1) rfl rfl rfl rfl rfl rfl (e' rfl (ci' rfl hh (fun hh => ?_) (fun hh => ?_)))))))))
    · cases hh
      exact t' rfl (re' (rt' rfl rfl rfl))
    refine sk' (S' (t' rfl (bk' (t' rfl (ci' rfl hh (fun hh => ?_) (fun hh => ?_))))))
    · exact t' rfl (bk' (fw' (ih2 _ _ _ _ _ _ hh) rfl rfl rfl))
    refine t' rfl (ci' rfl hh (fun hh => ?_) (fun hh => ?_))
    · exact p' 2 rfl (qe' rfl trivial (A0.lenA _) (e' rfl (bk' (fw' (ih1 _ _ _ _ _ _ hh) rfl rfl rfl))))
    cases hh
    exact P' 2 rfl (L0.s hC rfl (n' (t' rfl (re' (rt' rfl rfl rfl)))))
  · intro g0 g1 ih0 ih1 path t o11 o31 v46 res hh
    refine D2.unroll (t' rfl (S' (ci' rfl hh (fun hh => ?_) (fun hh => ?_))))
    · obtain ⟨x4, hx4, hh⟩ := bs' hh
      obtain ⟨c17, hh⟩ := Pd hh
      obtain ⟨x5, hx5, hh⟩ := bs' hh
      obtain ⟨c18, hh⟩ := Pd hh
      obtain ⟨x7, hx7, hh⟩ := bs' hh
      refine sk' (S' (bk' (p' 1 rfl (i' rfl (C1 hx4) (A0.idx hx4) rfl (q' rfl (L0.nf hC rfl (q' rfl (L0.s hC rfl (n' (S' (AEx.draw hC 10 rfl rfl rfl (O' 2 rfl (AQ.q hC rfl c17 ?_)))))))))))))
      refine O' 3 rfl (AQ.i hC rfl (C1 hx5) (estr.idx hx5) rfl (Q' rfl (AQ.q hC rfl c18 (E' rfl (g' [0, 1, 2, 3, 4] (ih0 _ _ _ _ _ hx7) rfl rfl rfl rfl rfl rfl (e' rfl (ci' rfl hh (fun hh => ?_) (fun hh => ?_))))))))
      · cases hh
        exact t' rfl (re' (rt' rfl rfl rfl))
      exact sk' (T' rfl (lw' (ih1 _ _ _ _ _ _ hh) rfl rfl rfl))
    cases hh
    exact ex' (t' rfl (re' (rt' rfl rfl rfl)))
  · intro g0 g2 ih0 ih2 path t o1 o3 v25 res hh
    refine D2.unroll (t' rfl (S' (ci' rfl hh (fun hh => ?_) (fun hh => ?_))))
    · obtain ⟨c15, hh⟩ := Pd hh
      obtain ⟨x2, hx2, hh⟩ := bs' hh
      obtain ⟨c16, hh⟩ := Pd hh
      obtain ⟨x3, hx3, hh⟩ := bs' hh
      obtain ⟨x6, hx6, hh⟩ := bs' hh
      refine sk' (S' (bk' (t' rfl (S' (AEx.draw hC 10 rfl rfl rfl (O' 2 rfl (AQ.q hC rfl c15 (Q' rfl (Qc' (V1n hx2) rfl rfl (AQ.q hC rfl c16 (O' 2 rfl (AQ.i hC rfl (C1 hx3) (A0.idx hx3) rfl (E' rfl ?_)))))))))))))
      refine g' [0, 1, 2, 3, 4] (ih0 _ _ _ _ _ hx6) rfl rfl rfl rfl rfl rfl (e' rfl (ci' rfl hh (fun hh => ?_) (fun hh => ?_)))
      · cases hh
        exact t' rfl (re' (rt' rfl rfl rfl))
      exact sk' (T' rfl (lw' (ih2 _ _ _ _ _ _ hh) rfl rfl rfl))
    cases hh
    exact ex' (t' rfl (re' (rt' rfl rfl rfl)))
theorem G16 {path t s s1 res} (hh : W5 path t s s1 = some res) : Dy path t s s1 res := (Xn).1 _ _ _ _ _ hh
theorem W1j {path t o11 o31 v46 res} (hh : P5 path t o11 o31 v46 = some res) : Jt path t o11 o31 v46 res := (Xn).2.1 _ _ _ _ _ _ hh
theorem X1j {path t o1 o3 v25 res} (hh : Q5 path t o1 o3 v25 = some res) : Kt path t o1 o3 v25 res := (Xn).2.2 _ _ _ _ _ _ hh
def Gk (t : A0) (s : List P0) : Option (List P0) :=
  W5 [] t 0 s >>= fun x1 =>
  some x1.2.2
theorem B19 {t s res} (hh : Gk t s = some res) : T0 C 119 [.agg (A0.cells t), .clo 120 [.ref 0 0]] [.row [.osl 1 (P0.rows s)] 113, .tok 117 4] (Ret [.row [.osl 1 (P0.rows res)] 113, .tok 117 4] (.tup [])) := by
  unfold Gk at hh
  obtain ⟨x1, hx1, hh⟩ := bs' hh
  cases hh
  refine T0.intro hC Tryz.func119 rfl rfl rfl (s' rfl rfl (L0.n hC rfl (L0.n hC rfl (n' (s' rfl rfl (L0.n hC rfl (L0.s hC rfl (n' (s' rfl rfl (L0.n hC rfl (n' (p' 1 rfl (L0.s hC rfl ?_)))))))))))))
  exact n' (P' 2 rfl (g' [3, 4, 5, 0, 1] (G16 hx1) rfl rfl rfl rfl rfl rfl (n' (rn' rfl rfl rfl))))
def Oh (t : A0) : Option (List P0 × Int) :=
  Gl t >>= fun x1 =>
  if (x1 != 0) = true then
    some ([], x1)
  else
    Gk t [] >>= fun x2 =>
    some (x2, 0)
theorem C19 {t res} (hh : Oh t = some res) : T0 C 62 [.agg (A0.cells t)] [] (Ret [] (.tup [.d (.sl (P0.rows res.1)), .d (.int .i64 res.2)])) := by
  unfold Oh at hh
  obtain ⟨x1, hx1, hh⟩ := bs' hh
  refine T0.intro hC Tryz.func62 rfl rfl rfl (s' rfl rfl (L0.n hC rfl (e' rfl (S' (p' 1 rfl (c' (N1c hx1) rfl rfl (e' rfl (t' rfl (ci' rfl hh (fun hh => ?_) (fun hh => ?_))))))))))
  · refine t' rfl (re' ?_)
    obtain rfl := oi' hh
    exact ⟨_, .tup [.d (.sl (P0.rows [])), .d (.int .i64 x1)], [], rfl, (.tupL ⟨.full, ⟨.rfl, trivial⟩⟩), trivial, rfl, rfl, rfl, rfl⟩
  obtain ⟨x2, hx2, hh⟩ := bs' hh
  refine sk' (s' rfl rfl (L0.nf hC rfl (L0.tokC 1 0 117 4 rfl rfl rfl rfl rfl (n' (p' 2 rfl (g' [1, 2] (B19 hx2) rfl rfl rfl rfl rfl rfl (n' (t' rfl (re' ?_)))))))))
  obtain rfl := oi' hh
  exact ⟨_, .tup [.d (.sl (P0.rows x2)), .d (.int .i64 0)], [], rfl, (.tupL ⟨.osl, ⟨.rfl, trivial⟩⟩), trivial, rfl, rfl, rfl, rfl⟩
def Ke (a : Int) (b : Int) : Option Int :=
  some (min (IntKind.i64.wrap (a * b)) 1073741824)
theorem Lp {a b res} (hh : Ke a b = some res) : T0 C 63 [.d (.int .i64 a), .d (.int .i64 b)] [] (Ret [] (.d (.int .i64 res))) := by
  unfold Ke at hh
  cases hh
  exact T0.intro hC Tryz.func63 rfl rfl rfl (t' rfl (t' rfl (re' (rt' rfl rfl rfl))))
def Jg (a : Int) (b : Int) : Option Int :=
  some (min (IntKind.i64.wrap (a + b)) 1073741824)
theorem Lq {a b res} (hh : Jg a b = some res) : T0 C 203 [.d (.int .i64 a), .d (.int .i64 b)] [] (Ret [] (.d (.int .i64 res))) := by
  unfold Jg at hh
  cases hh
  exact T0.intro hC Tryz.func203 rfl rfl rfl (t' rfl (t' rfl (re' (rt' rfl rfl rfl))))
def T9 (a : K0) (b : K0) : Option K0 :=
  Jg a.steps b.steps >>= fun x1 =>
  Jg a.outputs b.outputs >>= fun x2 =>
  some (K0.mk x1 x2)
theorem Iq {a b res} (hh : T9 a b = some res) : T0 C 164 [.agg (K0.cells a), .agg (K0.cells b)] [] (Ret [] (.agg (K0.cells res))) := by
  unfold T9 at hh
  obtain ⟨x1, hx1, hh⟩ := bs' hh
  obtain ⟨x2, hx2, hh⟩ := bs' hh
  cases hh
  refine T0.intro hC Tryz.func164 rfl rfl rfl (s' rfl rfl (L0.n hC rfl (L0.n hC rfl (L0.n hC rfl (n' (S' (AEx.draw hC 11 rfl rfl rfl (O' 4 rfl (Qc' (Lq hx1) rfl rfl (O' 4 rfl (Qc' (Lq hx2) rfl rfl (E' rfl (L0.s hC rfl ?_)))))))))))))
  exact n' (re' (rt' rfl rfl rfl))
def Vd (a : K0) (b : K0) : Option K0 :=
  some (K0.mk (max a.steps b.steps) (max a.outputs b.outputs))
theorem Pz {a b res} (hh : Vd a b = some res) : T0 C 204 [.agg (K0.cells a), .agg (K0.cells b)] [] (Ret [] (.agg (K0.cells res))) := by
  unfold Vd at hh
  cases hh
  exact T0.intro hC Tryz.func204 rfl rfl rfl (s' rfl rfl (L0.n hC rfl (L0.n hC rfl (L0.n hC rfl (n' (p' 11 rfl (L0.s hC rfl (n' (re' (rt' rfl rfl rfl))))))))))
def Ld (n : Int) (body : K0) : Option K0 :=
  Jg 1 body.steps >>= fun x1 =>
  Ke n x1 >>= fun x2 =>
  Ke n body.outputs >>= fun x3 =>
  some (K0.mk x2 x3)
theorem Fv {n body res} (hh : Ld n body = some res) : T0 C 205 [.d (.int .i64 n), .agg (K0.cells body)] [] (Ret [] (.agg (K0.cells res))) := by
  unfold Ld at hh
  obtain ⟨x1, hx1, hh⟩ := bs' hh
  obtain ⟨x2, hx2, hh⟩ := bs' hh
  obtain ⟨x3, hx3, hh⟩ := bs' hh
  cases hh
  refine T0.intro hC Tryz.func205 rfl rfl rfl (s' rfl rfl (L0.n hC rfl (L0.n hC rfl (n' (S' (AEx.draw hC 10 rfl rfl rfl (O' 3 rfl (Qc' (Lq hx1) rfl rfl (Qc' (Lp hx2) rfl rfl (O' 3 rfl (Qc' (Lp hx3) rfl rfl (E' rfl (L0.s hC rfl ?_)))))))))))))
  exact n' (re' (rt' rfl rfl rfl))
mutual
def Y1 (l : List F0) (m : List (Str × K0)) : Option K0 :=
  I3 l m (K0.mk 0 0) 0
  partial_fixpoint
def I3 (l : List F0) (m : List (Str × K0)) (o3 : K0) (v11 : Int) : Option K0 :=
  if (decide (v11 < ((l).length : Int))) = true then
    idx l v11 >>= fun x1 =>
    T9 o3 (K0.mk 1 0) >>= fun x2 =>
    U6 x1 m >>= fun x3 =>
    T9 x2 x3 >>= fun x4 =>
    I3 l m x4 (IntKind.i64.wrap (v11 + 1))
  else
    some o3
  partial_fixpoint
def U6 (x : F0) (m : List (Str × K0)) : Option K0 :=
  if (x.Verb == 3) = true then
    some (K0.mk 0 1)
  else
    if (x.Verb == 1) = true then
      some (mgt x.Name m) >>= fun x1 =>
      some (x1.getD K0.zero)
    else
      if (x.Verb == 5) = true then
        Y1 x.Then m >>= fun x2 =>
        Y1 x.Else m >>= fun x3 =>
        Vd x2 x3 >>= fun x4 =>
        some x4
      else
        if (x.Verb == 6) = true then
          Y1 x.Then m >>= fun x5 =>
          Ld x.NV x5 >>= fun x6 =>
          some x6
        else
          if (x.Verb == 7) = true then
            Y1 x.Then m >>= fun x7 =>
            Ld (IntKind.i64.wrap ((IntKind.i64.wrap (x.High - x.Low)) + 1)) x7 >>= fun x8 =>
            some x8
          else
            some (K0.mk 0 0)
  partial_fixpoint
end
abbrev Ko (l : List F0) (m : List (Str × K0)) (res : K0) : Prop := T0 C 97 [.agg [.mp 0], .d (.sl (F0.rows l))] [.map (.s (K0.ents m))] (Ret [.map (.s (K0.ents m))] (.agg (K0.cells res)))
abbrev Em (l : List F0) (m : List (Str × K0)) (o3 : K0) (v11 : Int) (res : K0) : Prop := LM C 24 1 Tryz.f97 [1, 1, 0, 1, 4] [(2, .ref 1 0), (4, .ref 2 0), (5, .ref 3 0), (9, .d (.sl (F0.rows l))), (10, .d (.int .i64 ((l).length : Int))), (11, .d (.int .i64 v11))] [.map (.s (K0.ents m)), .row [.mp 0] 151, .row [.d (.int .i64 0), .d (.int .i64 0)] 85, .row (K0.cells o3) 85] (Ret [.map (.s (K0.ents m))] (.agg (K0.cells res)))
abbrev Mp (x : F0) (m : List (Str × K0)) (res : K0) : Prop := T0 C 165 [.agg [.mp 0], .agg (F0.cells x)] [.map (.s (K0.ents m))] (Ret [.map (.s (K0.ents m))] (.agg (K0.cells res)))
theorem Yg (m : List (Str × K0)) : (∀ l res, Y1 l m = some res → Ko l m res) ∧ (∀ l o3 v11 res, I3 l m o3 v11 = some res → Em l m o3 v11 res) ∧ (∀ x res, U6 x m = some res → Mp x m res) := by
  refine Y1.mutual_partial_correctness m _ _ _ ?_ ?_ ?_
  · intro g1 ih1 l res hh
    exact T0.intro hC Tryz.func97 rfl rfl rfl (s' rfl rfl (L0.n hC rfl (L0.n hC rfl (n' (p' 1 rfl (L0.n hC rfl (L0.s hC rfl (n' (S' (p' 1 rfl (qe' rfl trivial (F0.lenA _) (e' rfl (bk' (fw' (ih1 _ _ _ _ hh) rfl rfl rfl))))))))))))))
  · intro g1 g2 ih1 ih2 l o3 v11 res hh
    refine D2.unroll (t' rfl (S' (ci' rfl hh (fun hh => ?_) (fun hh => ?_))))
    · obtain ⟨x1, hx1, hh⟩ := bs' hh
      obtain ⟨x2, hx2, hh⟩ := bs' hh
      obtain ⟨x3, hx3, hh⟩ := bs' hh
      obtain ⟨x4, hx4, hh⟩ := bs' hh
      refine sk' (S' (bk' (s' rfl rfl (i' rfl (C1 hx1) (F0.idx hx1) rfl (q' rfl (L0.nf hC rfl (L0.s hC rfl (n' (AEx.draw hC 5 rfl rfl rfl (O' 2 rfl (Qc' (Iq hx2) rfl rfl (E' rfl (g' [0] (ih2 _ _ hx3) rfl rfl rfl rfl rfl rfl ?_)))))))))))))
      exact c' (Iq hx4) rfl rfl (L0.s hC rfl (n' (T' rfl (lw' (ih1 _ _ _ _ hh) rfl rfl rfl))))
    cases hh
    exact ex' (p' 1 rfl (L0.s hC rfl (n' (re' (rt' rfl rfl rfl)))))
  · intro g0 ih0 x res hh
    refine T0.intro hC Tryz.func165 rfl rfl rfl (s' rfl rfl (L0.n hC rfl (L0.n hC rfl (L0.n hC rfl (n' (S' (t' rfl (bk' (t' rfl (ci' rfl hh (fun hh => ?_) (fun hh => ?_)))))))))))
    · cases hh
      exact p' 1 rfl (L0.s hC rfl (n' (re' (rt' rfl rfl rfl))))
    refine t' rfl (ci' rfl hh (fun hh => ?_) (fun hh => ?_))
    · obtain ⟨x1, hx1, hh⟩ := bs' hh
      cases hh
      exact p' 4 rfl (L0.me hC rfl (K0.lk hx1) (L0.s hC rfl (n' (re' (rt' rfl rfl rfl)))))
    refine t' rfl (ci' rfl hh (fun hh => ?_) (fun hh => ?_))
    · obtain ⟨x2, hx2, hh⟩ := bs' hh
      obtain ⟨x3, hx3, hh⟩ := bs' hh
      obtain ⟨x4, hx4, hh⟩ := bs' hh
      cases hh
      refine S' (AEx.drawL hC 7 [3] [] [[.map (.s (K0.ents m)), .row [.mp 0] 151, .row (F0.cells x) 53, .row [.d (.int .i64 0), .d (.int .i64 0)] 85], [.map (.s (K0.ents m)), .row [.mp 0] 151, .row (F0.cells x) 53, .row [.d (.int .i64 0), .d (.int .i64 0)] 85]] rfl rfl rfl rfl rfl rfl rfl rfl rfl rfl (AS.q hC rfl rfl rfl rfl (AS.q hC rfl rfl rfl rfl (AS.q hC rfl rfl rfl rfl ?_))))
      exact AS.g [0] (ih0 _ _ hx2) rfl rfl rfl rfl rfl rfl rfl rfl rfl rfl rfl rfl (AS.q hC rfl rfl rfl rfl (AS.q hC rfl rfl rfl rfl (AS.q hC rfl rfl rfl rfl (AS.nil (g' [0] (ih0 _ _ hx3) rfl rfl rfl rfl rfl rfl (c' (Pz hx4) rfl rfl (L0.s hC rfl (n' (re' (rt' rfl rfl rfl))))))))))
    refine t' rfl (ci' rfl hh (fun hh => ?_) (fun hh => ?_))
    · obtain ⟨x5, hx5, hh⟩ := bs' hh
      obtain ⟨x6, hx6, hh⟩ := bs' hh
      cases hh
      refine S' (AEx.drawL hC 6 [5] [] [[.map (.s (K0.ents m)), .row [.mp 0] 151, .row (F0.cells x) 53, .row [.d (.int .i64 0), .d (.int .i64 0)] 85], [.map (.s (K0.ents m)), .row [.mp 0] 151, .row (F0.cells x) 53, .row [.d (.int .i64 0), .d (.int .i64 0)] 85]] rfl rfl rfl rfl rfl rfl rfl rfl rfl rfl (AS.q hC rfl rfl rfl rfl (AS.q hC rfl rfl rfl rfl (AS.q hC rfl rfl rfl rfl ?_))))
      exact AS.q hC rfl rfl rfl rfl (AS.q hC rfl rfl rfl rfl (AS.g [0] (ih0 _ _ hx5) rfl rfl rfl rfl rfl rfl rfl rfl rfl rfl rfl rfl (AS.nil (c' (Fv hx6) rfl rfl (L0.s hC rfl (n' (re' (rt' rfl rfl rfl))))))))
    refine t' rfl (ci' rfl hh (fun hh => ?_) (fun hh => ?_))
    · obtain ⟨x7, hx7, hh⟩ := bs' hh
      obtain ⟨x8, hx8, hh⟩ := bs' hh
      cases hh
      refine S' (AEx.drawL hC 10 [9] [] [[.map (.s (K0.ents m)), .row [.mp 0] 151, .row (F0.cells x) 53, .row [.d (.int .i64 0), .d (.int .i64 0)] 85], [.map (.s (K0.ents m)), .row [.mp 0] 151, .row (F0.cells x) 53, .row [.d (.int .i64 0), .d (.int .i64 0)] 85]] rfl rfl rfl rfl rfl rfl rfl rfl rfl rfl (AS.q hC rfl rfl rfl rfl (AS.q hC rfl rfl rfl rfl (AS.q hC rfl rfl rfl rfl ?_))))
      iterate 6 refine AS.q hC rfl rfl rfl rfl ?_
      exact AS.g [0] (ih0 _ _ hx7) rfl rfl rfl rfl rfl rfl rfl rfl rfl rfl rfl rfl (AS.nil (c' (Fv hx8) rfl rfl (L0.s hC rfl (n' (re' (rt' rfl rfl rfl))))))
    cases hh
    exact sk' (p' 1 rfl (L0.s hC rfl (n' (re' (rt' rfl rfl rfl)))))
theorem On {l m res} (hh : Y1 l m = some res) : Ko l m res := (Yg m).1 _ _ hh
theorem U1b {l m o3 v11 res} (hh : I3 l m o3 v11 = some res) : Em l m o3 v11 res := (Yg m).2.1 _ _ _ _ hh
theorem W1e {x m res} (hh : U6 x m = some res) : Mp x m res := (Yg m).2.2 _ _ hh
def C4 (p : N0) (m2 : List (Str × K0)) (v11 : Int) : Option K0 :=
  if (decide (v11 < ((p.Decls).length : Int))) = true then
    idx p.Decls v11 >>= fun x1 =>
    if (x1.Kind == 6) = true then
      Y1 x1.Body m2 >>= fun x2 =>
      C4 p (mpt x1.Name x2 m2) (IntKind.i64.wrap (v11 + 1))
    else
      C4 p m2 (IntKind.i64.wrap (v11 + 1))
  else
    Y1 p.Body m2 >>= fun x3 =>
    some x3
  partial_fixpoint
abbrev Br (p : N0) (m2 : List (Str × K0)) (v11 : Int) (res : K0) : Prop := LM C 31 0 Tryz.f45 [1, 1, 0, 1, 4] [(1, .ref 0 0), (2, .ref 1 0), (3, .ref 3 0), (9, .d (.sl (E0.rows p.Decls))), (10, .d (.int .i64 ((p.Decls).length : Int))), (11, .d (.int .i64 v11))] [.row (N0.cells p) 25, .row [.d (.int .i64 0), .d (.int .i64 0)] 85, .map (.s (K0.ents m2)), .row [.mp 2] 151] (Ret [] (.agg (K0.cells res)))
theorem Qz (p : N0) : (∀ m2 v11 res, C4 p m2 v11 = some res → Br p m2 v11 res) := by
  refine C4.partial_correctness p _ ?_
  · intro g0 ih0 m2 v11 res hh
    refine D2.unroll (t' rfl (S' (ci' rfl hh (fun hh => ?_) (fun hh => ?_))))
    · obtain ⟨x1, hx1, hh⟩ := bs' hh
      refine sk' (S' (bk' (s' rfl rfl (i' rfl (C1 hx1) (E0.idx hx1) rfl (q' rfl (L0.nf hC rfl (L0.s hC rfl (n' (t' rfl (ci' rfl hh (fun hh => ?_) (fun hh => ?_)))))))))))
      · obtain ⟨x2, hx2, hh⟩ := bs' hh
        refine AEx.drawL hC 8 [7] [] [[.row (N0.cells p) 25, .row [.d (.int .i64 0), .d (.int .i64 0)] 85, .map (.s (K0.ents m2)), .row [.mp 2] 151, .row (E0.cells x1) 59], [.row (N0.cells p) 25, .row [.d (.int .i64 0), .d (.int .i64 0)] 85, .map (.s (K0.ents m2)), .row [.mp 2] 151, .row (E0.cells x1) 59]] rfl rfl rfl rfl rfl rfl rfl rfl rfl rfl ?_
        iterate 7 refine AS.q hC rfl rfl rfl rfl ?_
        exact AS.g [2] (On hx2) rfl rfl rfl rfl rfl rfl rfl rfl rfl rfl rfl rfl (AS.nil (L0.ue hC rfl (K0.mput _ x2 _) rfl (n' (T' rfl (lw' (ih0 _ _ _ hh) rfl rfl rfl)))))
      exact sk' (T' rfl (lw' (ih0 _ _ _ hh) rfl rfl rfl))
    obtain ⟨x3, hx3, hh⟩ := bs' hh
    cases hh
    exact ex' (p' 3 rfl (g' [2] (On hx3) rfl rfl rfl rfl rfl rfl (L0.s hC rfl (n' (re' (rt' rfl rfl rfl))))))
theorem A10 {p m2 v11 res} (hh : C4 p m2 v11 = some res) : Br p m2 v11 res := (Qz p) _ _ _ hh
def Dc (p : N0) : Option K0 :=
  C4 p [] 0
theorem Lt {p res} (hh : Dc p = some res) : T0 C 45 [.agg (N0.cells p)] [] (Ret [] (.agg (K0.cells res))) := by
  unfold Dc at hh
  refine T0.intro hC Tryz.func45 rfl rfl rfl (s' rfl rfl (L0.n hC rfl (L0.n hC rfl (n' (s' rfl rfl (L0.w rfl (q' rfl (L0.n hC rfl (L0.s hC rfl (n' (S' (p' 2 rfl (qe' rfl trivial (E0.lenA _) ?_)))))))))))))
  exact e' rfl (bk' (fw' (A10 hh) rfl rfl rfl))
end Go.Proofs.YtdkabnfphmmmnaaGreatDoor

set_option maxRecDepth 100000
set_option maxHeartbeats 4000000
set_option synthInstance.maxSize 2000
set_option linter.unusedVariables false
namespace Go.Proofs.YtdkabnfphmmmnaaGreatDoor
open Go.Am
mutual
def V1 (c : D0) (m0 : List (Int × Int)) (scalars : Int) (hatches1 : Int) (v23 : Int) : Option Int :=
  if (decide (v23 < ((c.p.Decls).length : Int))) = true then
    idx c.p.Decls v23 >>= fun x1 =>
    some (Ym x1.Kind m0) >>= fun x2 =>
    if (x1.Kind == 5) = true then
      R3 c m0 x1 scalars (IntKind.i64.wrap (hatches1 + 1)) v23 x2 v23
    else
      R3 c m0 x1 scalars hatches1 v23 x2 v23
  else
    Dc c.p >>= fun x5 =>
    if (decide (scalars > 64)) = true then
      if (decide (scalars > 64)) = true then
        some 4
      else
        some 0
    else
      if (decide (hatches1 > 8)) = true then
        if (decide (hatches1 > 8)) = true then
          some 4
        else
          some 0
      else
        some (Ym 1 m0) >>= fun x6 =>
        if (decide ((x6.getD ei64.zero) > 4096)) = true then
          if (decide ((x6.getD ei64.zero) > 4096)) = true then
            some 4
          else
            some 0
        else
          some (Ym 2 m0) >>= fun x7 =>
          if (decide ((x7.getD ei64.zero) > 4096)) = true then
            if (decide ((x7.getD ei64.zero) > 4096)) = true then
              some 4
            else
              some 0
          else
            some (Ym 3 m0) >>= fun x8 =>
            if (decide ((x8.getD ei64.zero) > 256)) = true then
              if (decide ((x8.getD ei64.zero) > 256)) = true then
                some 4
              else
                some 0
            else
              if (decide (x5.steps > 4096)) = true then
                if (decide (x5.steps > 4096)) = true then
                  some 4
                else
                  some 0
              else
                if (decide (x5.outputs > 8)) = true then
                  some 4
                else
                  some 0
  partial_fixpoint
def R3 (c : D0) (m01 : List (Int × Int)) (x1 : E0) (scalars1 : Int) (hatches : Int) (i : Int) (x2 : Option Int) (v231 : Int) : Option Int :=
  if (bif (!x2.isSome) then (x1.Kind != 4) else false) = true then
    V1 c m01 scalars1 hatches (IntKind.i64.wrap (v231 + 1))
  else
    S2 c x1.TypeV i >>= fun x3 =>
    Oh x3 >>= fun x4 =>
    N2 c m01 x1 (IntKind.i64.wrap (scalars1 + ((x4.1).length : Int))) hatches (x2.getD ei64.zero) x2 v231 x4 0
  partial_fixpoint
def N2 (c : D0) (m02 : List (Int × Int)) (x1 : E0) (scalars2 : Int) (hatches : Int) (n : Int) (x2 : Option Int) (v231 : Int) (x4 : List P0 × Int) (v62 : Int) : Option Int :=
  if (decide (v62 < ((x4.1).length : Int))) = true then
    idx x4.1 v62 >>= fun x9 =>
    if x2.isSome = true then
      Ke n (IntKind.i64.wrap ((IntKind.i64.wrap (x9.High - x9.Low)) + 1)) >>= fun x10 =>
      N2 c m02 x1 scalars2 hatches x10 x2 v231 x4 (IntKind.i64.wrap (v62 + 1))
    else
      N2 c m02 x1 scalars2 hatches n x2 v231 x4 (IntKind.i64.wrap (v62 + 1))
  else
    if x2.isSome = true then
      V1 c (Px x1.Kind n m02) scalars2 hatches (IntKind.i64.wrap (v231 + 1))
    else
      V1 c m02 scalars2 hatches (IntKind.i64.wrap (v231 + 1))
  partial_fixpoint
end
abbrev Ll (c : D0) (m0 : List (Int × Int)) (scalars : Int) (hatches1 : Int) (v23 : Int) (res : Int) : Prop := LM C 107 0 Tryz.f33 [1, 1, 1, 0, 1, 4] [(0, .d (.box (D0.row c))), (3, .d (.int .i64 scalars)), (4, .d (.int .i64 hatches1)), (5, .mp 0), (21, .d (.sl (E0.rows c.p.Decls))), (22, .d (.int .i64 ((c.p.Decls).length : Int))), (23, .d (.int .i64 v23))] [.map (.i .i64 (ei64.entsI m0))] (Ret [] (.d (.int .i64 res)))
abbrev Ml (c : D0) (m01 : List (Int × Int)) (x1 : E0) (scalars1 : Int) (hatches : Int) (i : Int) (x2 : Option Int) (v231 : Int) (res : Int) : Prop := JM C 107 0 Tryz.f33 [1, 1, 1, 0, 1, 4, 5, 1, 1, 0, 4, 1, 1, 1] [(0, .d (.box (D0.row c))), (3, .d (.int .i64 scalars1)), (4, .d (.int .i64 hatches)), (5, .mp 0), (6, .d (.int .i64 i)), (7, .ref 1 0), (8, .d (.int .i64 (x2.getD ei64.zero))), (9, .d (.bool x2.isSome)), (21, .d (.sl (E0.rows c.p.Decls))), (22, .d (.int .i64 ((c.p.Decls).length : Int))), (23, .d (.int .i64 v231))] [.map (.i .i64 (ei64.entsI m01)), .row (E0.cells x1) 59] (Ret [] (.d (.int .i64 res)))
abbrev Nl (c : D0) (m02 : List (Int × Int)) (x1 : E0) (scalars2 : Int) (hatches : Int) (n : Int) (x2 : Option Int) (v231 : Int) (x4 : List P0 × Int) (v62 : Int) (res : Int) : Prop := LM C 107 0 Tryz.f33 [1, 1, 1, 0, 1, 4, 5, 1, 1, 0, 4, 1, 1, 1, 1, 1, 1, 0, 1, 4] [(0, .d (.box (D0.row c))), (3, .d (.int .i64 scalars2)), (4, .d (.int .i64 hatches)), (5, .mp 0), (7, .ref 1 0), (8, .d (.int .i64 n)), (9, .d (.bool x2.isSome)), (21, .d (.sl (E0.rows c.p.Decls))), (22, .d (.int .i64 ((c.p.Decls).length : Int))), (23, .d (.int .i64 v231)), (60, .d (.sl (P0.rows x4.1))), (61, .d (.int .i64 ((x4.1).length : Int))), (62, .d (.int .i64 v62))] [.map (.i .i64 (ei64.entsI m02)), .row (E0.cells x1) 59] (Ret [] (.d (.int .i64 res)))
theorem De (c : D0) : (∀ m0 scalars hatches1 v23 res, V1 c m0 scalars hatches1 v23 = some res → Ll c m0 scalars hatches1 v23 res) ∧ (∀ m01 x1 scalars1 hatches i x2 v231 res, R3 c m01 x1 scalars1 hatches i x2 v231 = some res → Ml c m01 x1 scalars1 hatches i x2 v231 res) ∧ (∀ m02 x1 scalars2 hatches n x2 v231 x4 v62 res, N2 c m02 x1 scalars2 hatches n x2 v231 x4 v62 = some res → Nl c m02 x1 scalars2 hatches n x2 v231 x4 v62 res) := by
  refine V1.mutual_partial_correctness c _ _ _ ?_ ?_ ?_
  · intro g1 ih1 m0 scalars hatches1 v23 res hh
    refine D2.unroll (t' rfl (S' (ci' rfl hh (fun hh => ?_) (fun hh => ?_))))
    · obtain ⟨x1, hx1, hh⟩ := bs' hh
      obtain ⟨x2, hx2, hh⟩ := bs' hh
      refine sk' (S' (bk' (p' 1 rfl (i' rfl (C1 hx1) (E0.idx hx1) rfl (q' rfl (L0.nf hC rfl (q' rfl (L0.s hC rfl (n' (p' 3 rfl (L0.mi hC rfl (ei64.lkIT hx2) (e' rfl (S' ?_)))))))))))))
      refine t' rfl (ci' rfl hh (fun hh => ?_) (fun hh => ?_))
      · exact T' rfl (ew' (ih1 _ _ _ _ _ _ _ _ hh) rfl rfl rfl)
      exact sk' (ew' (ih1 _ _ _ _ _ _ _ _ hh) rfl rfl rfl)
    obtain ⟨x5, hx5, hh⟩ := bs' hh
    refine ex' (p' 4 rfl (c' (Lt hx5) rfl rfl (L0.n hC rfl (L0.s hC rfl (n' (S' (bk' (S' (t' rfl (ci' rfl hh (fun hh => ?_) (fun hh => ?_)))))))))))
    · refine sk' (ci' rfl hh (fun hh => ?_) (fun hh => ?_))
      · cases hh
        exact t' rfl (re' (rt' rfl rfl rfl))
      cases hh
      exact sk' (t' rfl (re' (rt' rfl rfl rfl)))
    refine t' rfl (ci' rfl hh (fun hh => ?_) (fun hh => ?_))
    · refine sk' (ci' rfl hh (fun hh => ?_) (fun hh => ?_))
      · cases hh
        exact t' rfl (re' (rt' rfl rfl rfl))
      cases hh
      exact sk' (t' rfl (re' (rt' rfl rfl rfl)))
    obtain ⟨x6, hx6, hh⟩ := bs' hh
    refine p' 1 rfl (L0.mi hC rfl (ei64.lkI hx6) (e' rfl (ci' rfl hh (fun hh => ?_) (fun hh => ?_))))
    · refine sk' (ci' rfl hh (fun hh => ?_) (fun hh => ?_))
      · cases hh
        exact t' rfl (re' (rt' rfl rfl rfl))
      cases hh
      exact sk' (t' rfl (re' (rt' rfl rfl rfl)))
    obtain ⟨x7, hx7, hh⟩ := bs' hh
    refine p' 1 rfl (L0.mi hC rfl (ei64.lkI hx7) (e' rfl (ci' rfl hh (fun hh => ?_) (fun hh => ?_))))
    · refine sk' (ci' rfl hh (fun hh => ?_) (fun hh => ?_))
      · cases hh
        exact t' rfl (re' (rt' rfl rfl rfl))
      cases hh
      exact sk' (t' rfl (re' (rt' rfl rfl rfl)))
    obtain ⟨x8, hx8, hh⟩ := bs' hh
    refine p' 1 rfl (L0.mi hC rfl (ei64.lkI hx8) (e' rfl (ci' rfl hh (fun hh => ?_) (fun hh => ?_))))
    · refine sk' (ci' rfl hh (fun hh => ?_) (fun hh => ?_))
      · cases hh
        exact t' rfl (re' (rt' rfl rfl rfl))
      cases hh
      exact sk' (t' rfl (re' (rt' rfl rfl rfl)))
    refine t' rfl (ci' rfl hh (fun hh => ?_) (fun hh => ?_))
    · refine sk' (ci' rfl hh (fun hh => ?_) (fun hh => ?_))
      · cases hh
        exact t' rfl (re' (rt' rfl rfl rfl))
      cases hh
      exact sk' (t' rfl (re' (rt' rfl rfl rfl)))
    refine T' rfl (ci' rfl hh (fun hh => ?_) (fun hh => ?_))
    · cases hh
      exact t' rfl (re' (rt' rfl rfl rfl))
    cases hh
    exact sk' (t' rfl (re' (rt' rfl rfl rfl)))
  · intro g0 g2 ih0 ih2 m01 x1 scalars1 hatches i x2 v231 res hh
    refine S' (sg' 7 rfl (G' 4 rfl (a1' rfl (a1' rfl (pa' rfl (an' (n' (ci' rfl hh (fun hh => ?_) (fun hh => ?_)))))))))
    · exact ex' (T' rfl (lw' (ih0 _ _ _ _ _ hh) rfl rfl rfl))
    obtain ⟨x3, hx3, hh⟩ := bs' hh
    obtain ⟨x4, hx4, hh⟩ := bs' hh
    exact sk' (p' 4 rfl (c' (M8 hx3) rfl rfl (c' (C19 hx4) rfl rfl (e' rfl (p' 2 rfl (qe' rfl trivial (P0.lenA _) (e' rfl (S' (p' 1 rfl (qe' rfl trivial (P0.lenA _) (e' rfl (bk' (fw' (ih2 _ _ _ _ _ _ _ _ _ _ hh) rfl rfl rfl)))))))))))))
  · intro g0 g2 ih0 ih2 m02 x1 scalars2 hatches n x2 v231 x4 v62 res hh
    refine D2.unroll (t' rfl (S' (ci' rfl hh (fun hh => ?_) (fun hh => ?_))))
    · obtain ⟨x9, hx9, hh⟩ := bs' hh
      refine sk' (S' (bk' (s' rfl rfl (i' rfl (C1 hx9) (P0.idx hx9) rfl (q' rfl (L0.n hC rfl (L0.s hC rfl (n' (t' rfl (ci' rfl hh (fun hh => ?_) (fun hh => ?_)))))))))))
      · obtain ⟨x10, hx10, hh⟩ := bs' hh
        exact P' 7 rfl (c' (Lp hx10) rfl rfl (e' rfl (T' rfl (lw' (ih2 _ _ _ _ _ _ _ _ _ _ hh) rfl rfl rfl))))
      exact sk' (T' rfl (lw' (ih2 _ _ _ _ _ _ _ _ _ _ hh) rfl rfl rfl))
    refine ex' (t' rfl (ci' rfl hh (fun hh => ?_) (fun hh => ?_)))
    · exact P' 4 rfl (L0.ui hC rfl (ei64.mputI _ n _) rfl (n' (T' rfl (lw' (ih0 _ _ _ _ _ hh) rfl rfl rfl))))
    exact sk' (T' rfl (lw' (ih0 _ _ _ _ _ hh) rfl rfl rfl))
theorem Mt {c m0 scalars hatches1 v23 res} (hh : V1 c m0 scalars hatches1 v23 = some res) : Ll c m0 scalars hatches1 v23 res := (De c).1 _ _ _ _ _ hh
theorem B1b {c m01 x1 scalars1 hatches i x2 v231 res} (hh : R3 c m01 x1 scalars1 hatches i x2 v231 = some res) : Ml c m01 x1 scalars1 hatches i x2 v231 res := (De c).2.1 _ _ _ _ _ _ _ _ hh
theorem C1b {c m02 x1 scalars2 hatches n x2 v231 x4 v62 res} (hh : N2 c m02 x1 scalars2 hatches n x2 v231 x4 v62 = some res) : Nl c m02 x1 scalars2 hatches n x2 v231 x4 v62 res := (De c).2.2 _ _ _ _ _ _ _ _ _ _ hh
def Y8 (c : D0) : Option Int :=
  V1 c (Px 3 1 (Px 2 1 (Px 1 1 []))) 0 0 0
theorem Zw {c res} (hh : Y8 c = some res) : T0 C 33 [.d (.box (D0.row c))] [] (Ret [] (.d (.int .i64 res))) := by
  unfold Y8 at hh
  exact T0.intro hC Tryz.func33 rfl rfl rfl (t' rfl (t' rfl (s' rfl rfl (L0.wi .i64 rfl (L0.ui hC rfl (ei64.mputI _ 1 []) rfl (L0.ui hC rfl (ei64.mputI _ 1 _) rfl (L0.ui hC rfl (ei64.mputI _ 1 _) rfl (e' rfl (S' (p' 5 rfl (qe' rfl trivial (E0.lenA _) (e' rfl (bk' (fw' (Mt hh) rfl rfl rfl))))))))))))))
def R5 (p : N0) (x3 : D0) (v46 : Int) : Option (Int × Int) :=
  if (decide (v46 < ((p.Decls).length : Int))) = true then
    J8 x3 v46 >>= fun x5 =>
    if (x5 != 0) = true then
      some (v46, x5)
    else
      R5 p x3 (IntKind.i64.wrap (v46 + 1))
  else
    Q4 x3 ((p.Decls).length : Int) true >>= fun x6 =>
    U1 x3 x6 p.Body true >>= fun x7 =>
    if (x7 != 0) = true then
      some ((-1), x7)
    else
      Y8 x3 >>= fun x8 =>
      some ((-1), x8)
  partial_fixpoint
abbrev Nt (p : N0) (x3 : D0) (v46 : Int) (res : Int × Int) : Prop := LM C 71 0 Tryz.f13 [1, 1, 1, 1, 1, 0, 1, 4] [(1, .ref 0 0), (5, .d (.box (D0.row x3))), (45, .d (.int .i64 ((p.Decls).length : Int))), (46, .d (.int .i64 v46))] [.row (N0.cells p) 25] (Ret [] (.tup [.d (.int .i64 res.1), .d (.int .i64 res.2)]))
theorem I11 (p : N0) (x3 : D0) : (∀ v46 res, R5 p x3 v46 = some res → Nt p x3 v46 res) := by
  refine R5.partial_correctness p x3 _ ?_
  · intro g0 ih0 v46 res hh
    refine D2.unroll (t' rfl (S' (ci' rfl hh (fun hh => ?_) (fun hh => ?_))))
    · obtain ⟨x5, hx5, hh⟩ := bs' hh
      refine sk' (S' (bk' (t' rfl (p' 2 rfl (c' (Oy hx5) rfl rfl (e' rfl (t' rfl (ci' rfl hh (fun hh => ?_) (fun hh => ?_)))))))))
      · cases hh
        exact t' rfl (re' (rt' rfl rfl rfl))
      exact sk' (T' rfl (lw' (ih0 _ _ hh) rfl rfl rfl))
    obtain ⟨x6, hx6, hh⟩ := bs' hh
    obtain ⟨x7, hx7, hh⟩ := bs' hh
    refine ex' (S' (S' (AEx.draw hC 10 rfl rfl rfl (O' 4 rfl (AQ.qe hC rfl trivial (E0.lenA _) (Qc' (V0 hx6) rfl rfl (O' 2 rfl (Qc' (Nn hx7) rfl rfl (E' rfl (n' (t' rfl (ci' rfl hh (fun hh => ?_) (fun hh => ?_)))))))))))))
    · cases hh
      exact t' rfl (re' (rt' rfl rfl rfl))
    obtain ⟨x8, hx8, hh⟩ := bs' hh
    cases hh
    exact sk' (p' 1 rfl (c' (Zw hx8) rfl rfl (e' rfl (re' (rt' rfl rfl rfl)))))
theorem W12 {p x3 v46 res} (hh : R5 p x3 v46 = some res) : Nt p x3 v46 res := (I11 p x3) _ _ hh
def S5 (p : N0) (m1 : List (Str × Bool)) (v27 : Int) : Option (Int × Int) :=
  if (decide (v27 < ((p.Decls).length : Int))) = true then
    idx p.Decls v27 >>= fun x2 =>
    S5 p (mpt x2.Name true m1) (IntKind.i64.wrap (v27 + 1))
  else
    some (D0.mk p ((p.Decls).length : Int) false m1) >>= fun x3 =>
    N7 x3 >>= fun x4 =>
    if (decide (x4 ≥ 0)) = true then
      some (x4, 8)
    else
      R5 p x3 0
  partial_fixpoint
abbrev Ot (p : N0) (m1 : List (Str × Bool)) (v27 : Int) (res : Int × Int) : Prop := LM C 71 0 Tryz.f13 [1, 1, 1, 0, 1, 4] [(1, .ref 0 0), (5, .ref 2 0), (25, .d (.sl (E0.rows p.Decls))), (26, .d (.int .i64 ((p.Decls).length : Int))), (27, .d (.int .i64 v27))] [.row (N0.cells p) 25, .map (.s (ebool.ents m1)), .row [.d (.sl (E0.rows p.Decls)), .d (.sl (F0.rows p.Body)), .d (.int .i64 ((p.Decls).length : Int)), .d (.bool false), .mp 1] 66] (Ret [] (.tup [.d (.int .i64 res.1), .d (.int .i64 res.2)]))
theorem J11 (p : N0) : (∀ m1 v27 res, S5 p m1 v27 = some res → Ot p m1 v27 res) := by
  refine S5.partial_correctness p _ ?_
  · intro g0 ih0 m1 v27 res hh
    refine D2.unroll (t' rfl (S' (ci' rfl hh (fun hh => ?_) (fun hh => ?_))))
    · obtain ⟨x2, hx2, hh⟩ := bs' hh
      exact sk' (S' (bk' (s' rfl rfl (i' rfl (C1 hx2) (E0.idx hx2) rfl (q' rfl (L0.nf hC rfl (L0.s hC rfl (n' (AEx.draw hC 6 rfl rfl rfl (E' rfl (L0.ue hC rfl (ebool.mput _ true _) rfl (n' (T' rfl (lw' (ih0 _ _ _ hh) rfl rfl rfl))))))))))))))
    obtain ⟨x3, hx3, hh⟩ := bs' hh
    obtain ⟨x4, hx4, hh⟩ := bs' hh
    refine ex' (S' (p' 1 rfl (L0.fm 1 rfl rfl (L0.bx 2 (y := .box (D0.row x3)) (by cases hx3; exact .inl rfl) rfl rfl rfl (c' (Ft hx4) rfl rfl (e' rfl (t' rfl (ci' rfl hh (fun hh => ?_) (fun hh => ?_)))))))))
    · cases hh
      exact t' rfl (re' (rt' rfl rfl rfl))
    exact sk' (S' (p' 2 rfl (qe' rfl trivial (E0.lenA _) (e' rfl (bk' (fw' (W12 hh) rfl rfl rfl))))))
theorem X12 {p m1 v27 res} (hh : S5 p m1 v27 = some res) : Ot p m1 v27 res := (J11 p) _ _ _ hh
def X6 (p : N0) : Option (Int × Int) :=
  Zi p >>= fun x1 =>
  if (x1 != 0) = true then
    some ((-1), x1)
  else
    S5 p [] 0
theorem Uk {p res} (hh : X6 p = some res) : T0 C 13 [.agg (N0.cells p)] [] (Ret [] (.tup [.d (.int .i64 res.1), .d (.int .i64 res.2)])) := by
  unfold X6 at hh
  obtain ⟨x1, hx1, hh⟩ := bs' hh
  refine T0.intro hC Tryz.func13 rfl rfl rfl (s' rfl rfl (L0.n hC rfl (e' rfl (S' (p' 1 rfl (c' (Z1a hx1) rfl rfl (e' rfl (t' rfl (ci' rfl hh (fun hh => ?_) (fun hh => ?_))))))))))
  · cases hh
    exact t' rfl (re' (rt' rfl rfl rfl))
  exact sk' (p' 3 rfl (qe' rfl trivial (E0.lenA _) (L0.w rfl (q' rfl (L0.n hC rfl (e' rfl (S' (p' 2 rfl (qe' rfl trivial (E0.lenA _) (e' rfl (bk' (fw' (X12 hh) rfl rfl rfl))))))))))))
def Md (e : C0) : Option Int :=
  D3 e 1 (B0.mk 0 0 false false false) >>= fun x1 =>
  Q6 x1 >>= fun x2 =>
  some x2
theorem Z14 {e res} (hh : Md e = some res) : T0 C 41 [.agg (C0.cells e)] [] (Ret [] (.d (.int .i64 res))) := by
  unfold Md at hh
  obtain ⟨x1, hx1, hh⟩ := bs' hh
  obtain ⟨x2, hx2, hh⟩ := bs' hh
  cases hh
  exact T0.intro hC Tryz.func41 rfl rfl rfl (s' rfl rfl (L0.n hC rfl (e' rfl (p' 1 rfl (L0.n hC rfl (e' rfl (p' 2 rfl (g' [1] (Bm hx1) rfl rfl rfl rfl rfl rfl (n' (p' 1 rfl (g' [1] (Cm hx2) rfl rfl rfl rfl rfl rfl (e' rfl (re' (rt' rfl rfl rfl))))))))))))))
def Nd (p : N0) (e : C0) : Option (A0 × Int) :=
  X6 p >>= fun x1 =>
  if (x1.2 != 0) = true then
    some ((A0.mk 0 0 0 0 [] [] []), x1.2)
  else
    Md e >>= fun x2 =>
    if (x2 != 0) = true then
      some ((A0.mk 0 0 0 0 [] [] []), x2)
    else
      some (D0.mk p 0 false []) >>= fun x3 =>
      Q4 x3 ((p.Decls).length : Int) true >>= fun x4 =>
      W3 x4 e >>= fun x5 =>
      some (x5.1, x5.2)
theorem A15 {p e res} (hh : Nd p e = some res) : T0 C 16 [.agg (N0.cells p), .agg (C0.cells e)] [] (Ret [] (.tup [.agg (A0.cells res.1), .d (.int .i64 res.2)])) := by
  unfold Nd at hh
  obtain ⟨x1, hx1, hh⟩ := bs' hh
  refine T0.intro hC Tryz.func16 rfl rfl rfl (s' rfl rfl (L0.n hC rfl (L0.n hC rfl (L0.nf hC rfl (e' rfl (S' (p' 1 rfl (c' (Uk hx1) rfl rfl (e' rfl (t' rfl (ci' rfl hh (fun hh => ?_) (fun hh => ?_))))))))))))
  · cases hh
    exact p' 2 rfl (L0.s hC rfl (e' rfl (re' (rt' rfl rfl rfl))))
  obtain ⟨x2, hx2, hh⟩ := bs' hh
  refine sk' (S' (p' 1 rfl (c' (Z14 hx2) rfl rfl (e' rfl (t' rfl (ci' rfl hh (fun hh => ?_) (fun hh => ?_)))))))
  · cases hh
    exact p' 2 rfl (L0.s hC rfl (e' rfl (re' (rt' rfl rfl rfl))))
  obtain ⟨x3, hx3, hh⟩ := bs' hh
  obtain ⟨x4, hx4, hh⟩ := bs' hh
  obtain ⟨x5, hx5, hh⟩ := bs' hh
  refine sk' (p' 2 rfl (L0.n hC rfl (e' rfl (S' (AEx.drawE hC ?_)))))
  refine Q0.step rfl (j0 := 0) (js := [1, 5]) (by kernel_rfl) ⟨⟨_, rfl, ?_⟩, ⟨_, rfl, ?_⟩, ⟨_, rfl, ?_⟩, trivial⟩
  · refine e' rfl ?_
    refine Q0.step rfl (j0 := 1) (js := [5]) (by kernel_rfl) ⟨⟨_, rfl, ?_⟩, ⟨_, rfl, ?_⟩, trivial⟩
    · refine e' rfl ?_
      refine Q0.step rfl (j0 := 2) (js := [5]) (by kernel_rfl) ⟨⟨_, rfl, ?_⟩, ⟨_, rfl, ?_⟩, trivial⟩
      · refine e' rfl ?_
        refine Q0.step rfl (j0 := 3) (js := [5]) (by kernel_rfl) ⟨⟨_, rfl, ?_⟩, ⟨_, rfl, ?_⟩, trivial⟩
        · refine qe' rfl trivial (E0.lenA _) (n' ?_)
          refine Q0.step rfl (j0 := 4) (js := [5]) (by kernel_rfl) ⟨⟨_, rfl, ?_⟩, ⟨_, rfl, ?_⟩, trivial⟩
          · refine L0.bx 3 (y := .box (D0.row x3)) (by cases hx3; exact .inl rfl) rfl rfl rfl (c' (V0 hx4) rfl rfl (n' ?_))
            refine Q0.step rfl (j0 := 5) (js := []) (by kernel_rfl) ⟨⟨_, rfl, ?_⟩, trivial⟩
            refine e' rfl ?_
            refine Q0.step rfl (j0 := 6) (js := []) (by kernel_rfl) ⟨⟨_, rfl, ?_⟩, trivial⟩
            refine c' (F1 hx5) rfl rfl (n' ?_)
            refine Q0.step rfl (j0 := 7) (js := [8]) (by kernel_rfl) ⟨⟨_, rfl, ?_⟩, ⟨_, rfl, ?_⟩, trivial⟩
            · refine e' rfl ?_
              refine Q0.step rfl (j0 := 8) (js := []) (by kernel_rfl) ⟨⟨_, rfl, ?_⟩, trivial⟩
              refine e' rfl ?_
              refine Q0.step rfl (j0 := 9) (js := []) (by kernel_rfl) ⟨⟨_, rfl, ?_⟩, trivial⟩
              refine L0.s hC rfl (n' ?_)
              refine Q0.step rfl (j0 := 10) (js := []) (by kernel_rfl) ⟨⟨_, rfl, ?_⟩, trivial⟩
              cases hh
              exact e' rfl (Q0.nil (by kernel_rfl) (re' (rt' rfl rfl rfl)))
            · refine e' rfl ?_
              refine Q0.step rfl (j0 := 7) (js := []) (by kernel_rfl) ⟨⟨_, rfl, ?_⟩, trivial⟩
              refine e' rfl ?_
              refine Q0.step rfl (j0 := 9) (js := []) (by kernel_rfl) ⟨⟨_, rfl, ?_⟩, trivial⟩
              refine L0.s hC rfl (n' ?_)
              refine Q0.step rfl (j0 := 10) (js := []) (by kernel_rfl) ⟨⟨_, rfl, ?_⟩, trivial⟩
              cases hh
              exact e' rfl (Q0.nil (by kernel_rfl) (re' (rt' rfl rfl rfl)))
          · refine e' rfl ?_
            refine Q0.step rfl (j0 := 4) (js := []) (by kernel_rfl) ⟨⟨_, rfl, ?_⟩, trivial⟩
            refine L0.bx 3 (y := .box (D0.row x3)) (by cases hx3; exact .inl rfl) rfl rfl rfl (c' (V0 hx4) rfl rfl (n' ?_))
            refine Q0.step rfl (j0 := 6) (js := []) (by kernel_rfl) ⟨⟨_, rfl, ?_⟩, trivial⟩
            refine c' (F1 hx5) rfl rfl (n' ?_)
            refine Q0.step rfl (j0 := 7) (js := [8]) (by kernel_rfl) ⟨⟨_, rfl, ?_⟩, ⟨_, rfl, ?_⟩, trivial⟩
            · refine e' rfl ?_
              refine Q0.step rfl (j0 := 8) (js := []) (by kernel_rfl) ⟨⟨_, rfl, ?_⟩, trivial⟩
              refine e' rfl ?_
              refine Q0.step rfl (j0 := 9) (js := []) (by kernel_rfl) ⟨⟨_, rfl, ?_⟩, trivial⟩
              refine L0.s hC rfl (n' ?_)
              refine Q0.step rfl (j0 := 10) (js := []) (by kernel_rfl) ⟨⟨_, rfl, ?_⟩, trivial⟩
              cases hh
              exact e' rfl (Q0.nil (by kernel_rfl) (re' (rt' rfl rfl rfl)))
            · refine e' rfl ?_
              refine Q0.step rfl (j0 := 7) (js := []) (by kernel_rfl) ⟨⟨_, rfl, ?_⟩, trivial⟩
              refine e' rfl ?_
              refine Q0.step rfl (j0 := 9) (js := []) (by kernel_rfl) ⟨⟨_, rfl, ?_⟩, trivial⟩
              refine L0.s hC rfl (n' ?_)
              refine Q0.step rfl (j0 := 10) (js := []) (by kernel_rfl) ⟨⟨_, rfl, ?_⟩, trivial⟩
              cases hh
              exact e' rfl (Q0.nil (by kernel_rfl) (re' (rt' rfl rfl rfl)))
        · refine e' rfl ?_
          refine Q0.step rfl (j0 := 3) (js := []) (by kernel_rfl) ⟨⟨_, rfl, ?_⟩, trivial⟩
          refine qe' rfl trivial (E0.lenA _) (n' ?_)
          refine Q0.step rfl (j0 := 4) (js := []) (by kernel_rfl) ⟨⟨_, rfl, ?_⟩, trivial⟩
          refine L0.bx 3 (y := .box (D0.row x3)) (by cases hx3; exact .inl rfl) rfl rfl rfl (c' (V0 hx4) rfl rfl (n' ?_))
          refine Q0.step rfl (j0 := 6) (js := []) (by kernel_rfl) ⟨⟨_, rfl, ?_⟩, trivial⟩
          refine c' (F1 hx5) rfl rfl (n' ?_)
          refine Q0.step rfl (j0 := 7) (js := [8]) (by kernel_rfl) ⟨⟨_, rfl, ?_⟩, ⟨_, rfl, ?_⟩, trivial⟩
          · refine e' rfl ?_
            refine Q0.step rfl (j0 := 8) (js := []) (by kernel_rfl) ⟨⟨_, rfl, ?_⟩, trivial⟩
            refine e' rfl ?_
            refine Q0.step rfl (j0 := 9) (js := []) (by kernel_rfl) ⟨⟨_, rfl, ?_⟩, trivial⟩
            refine L0.s hC rfl (n' ?_)
            refine Q0.step rfl (j0 := 10) (js := []) (by kernel_rfl) ⟨⟨_, rfl, ?_⟩, trivial⟩
            cases hh
            exact e' rfl (Q0.nil (by kernel_rfl) (re' (rt' rfl rfl rfl)))
          · refine e' rfl ?_
            refine Q0.step rfl (j0 := 7) (js := []) (by kernel_rfl) ⟨⟨_, rfl, ?_⟩, trivial⟩
            refine e' rfl ?_
            refine Q0.step rfl (j0 := 9) (js := []) (by kernel_rfl) ⟨⟨_, rfl, ?_⟩, trivial⟩
            refine L0.s hC rfl (n' ?_)
            refine Q0.step rfl (j0 := 10) (js := []) (by kernel_rfl) ⟨⟨_, rfl, ?_⟩, trivial⟩
            cases hh
            exact e' rfl (Q0.nil (by kernel_rfl) (re' (rt' rfl rfl rfl)))
      · refine e' rfl ?_
        refine Q0.step rfl (j0 := 2) (js := []) (by kernel_rfl) ⟨⟨_, rfl, ?_⟩, trivial⟩
        refine e' rfl ?_
        refine Q0.step rfl (j0 := 3) (js := []) (by kernel_rfl) ⟨⟨_, rfl, ?_⟩, trivial⟩
        refine qe' rfl trivial (E0.lenA _) (n' ?_)
        refine Q0.step rfl (j0 := 4) (js := []) (by kernel_rfl) ⟨⟨_, rfl, ?_⟩, trivial⟩
        refine L0.bx 3 (y := .box (D0.row x3)) (by cases hx3; exact .inl rfl) rfl rfl rfl (c' (V0 hx4) rfl rfl (n' ?_))
        refine Q0.step rfl (j0 := 6) (js := []) (by kernel_rfl) ⟨⟨_, rfl, ?_⟩, trivial⟩
        refine c' (F1 hx5) rfl rfl (n' ?_)
        refine Q0.step rfl (j0 := 7) (js := [8]) (by kernel_rfl) ⟨⟨_, rfl, ?_⟩, ⟨_, rfl, ?_⟩, trivial⟩
        · refine e' rfl ?_
          refine Q0.step rfl (j0 := 8) (js := []) (by kernel_rfl) ⟨⟨_, rfl, ?_⟩, trivial⟩
          refine e' rfl ?_
          refine Q0.step rfl (j0 := 9) (js := []) (by kernel_rfl) ⟨⟨_, rfl, ?_⟩, trivial⟩
          refine L0.s hC rfl (n' ?_)
          refine Q0.step rfl (j0 := 10) (js := []) (by kernel_rfl) ⟨⟨_, rfl, ?_⟩, trivial⟩
          cases hh
          exact e' rfl (Q0.nil (by kernel_rfl) (re' (rt' rfl rfl rfl)))
        · refine e' rfl ?_
          refine Q0.step rfl (j0 := 7) (js := []) (by kernel_rfl) ⟨⟨_, rfl, ?_⟩, trivial⟩
          refine e' rfl ?_
          refine Q0.step rfl (j0 := 9) (js := []) (by kernel_rfl) ⟨⟨_, rfl, ?_⟩, trivial⟩
          refine L0.s hC rfl (n' ?_)
          refine Q0.step rfl (j0 := 10) (js := []) (by kernel_rfl) ⟨⟨_, rfl, ?_⟩, trivial⟩
          cases hh
          exact e' rfl (Q0.nil (by kernel_rfl) (re' (rt' rfl rfl rfl)))
    · refine e' rfl ?_
      refine Q0.step rfl (j0 := 1) (js := []) (by kernel_rfl) ⟨⟨_, rfl, ?_⟩, trivial⟩
      refine e' rfl ?_
      refine Q0.step rfl (j0 := 2) (js := []) (by kernel_rfl) ⟨⟨_, rfl, ?_⟩, trivial⟩
      refine e' rfl ?_
      refine Q0.step rfl (j0 := 3) (js := []) (by kernel_rfl) ⟨⟨_, rfl, ?_⟩, trivial⟩
      refine qe' rfl trivial (E0.lenA _) (n' ?_)
      refine Q0.step rfl (j0 := 4) (js := []) (by kernel_rfl) ⟨⟨_, rfl, ?_⟩, trivial⟩
      refine L0.bx 3 (y := .box (D0.row x3)) (by cases hx3; exact .inl rfl) rfl rfl rfl (c' (V0 hx4) rfl rfl (n' ?_))
      refine Q0.step rfl (j0 := 6) (js := []) (by kernel_rfl) ⟨⟨_, rfl, ?_⟩, trivial⟩
      refine c' (F1 hx5) rfl rfl (n' ?_)
      refine Q0.step rfl (j0 := 7) (js := [8]) (by kernel_rfl) ⟨⟨_, rfl, ?_⟩, ⟨_, rfl, ?_⟩, trivial⟩
      · refine e' rfl ?_
        refine Q0.step rfl (j0 := 8) (js := []) (by kernel_rfl) ⟨⟨_, rfl, ?_⟩, trivial⟩
        refine e' rfl ?_
        refine Q0.step rfl (j0 := 9) (js := []) (by kernel_rfl) ⟨⟨_, rfl, ?_⟩, trivial⟩
        refine L0.s hC rfl (n' ?_)
        refine Q0.step rfl (j0 := 10) (js := []) (by kernel_rfl) ⟨⟨_, rfl, ?_⟩, trivial⟩
        cases hh
        exact e' rfl (Q0.nil (by kernel_rfl) (re' (rt' rfl rfl rfl)))
      · refine e' rfl ?_
        refine Q0.step rfl (j0 := 7) (js := []) (by kernel_rfl) ⟨⟨_, rfl, ?_⟩, trivial⟩
        refine e' rfl ?_
        refine Q0.step rfl (j0 := 9) (js := []) (by kernel_rfl) ⟨⟨_, rfl, ?_⟩, trivial⟩
        refine L0.s hC rfl (n' ?_)
        refine Q0.step rfl (j0 := 10) (js := []) (by kernel_rfl) ⟨⟨_, rfl, ?_⟩, trivial⟩
        cases hh
        exact e' rfl (Q0.nil (by kernel_rfl) (re' (rt' rfl rfl rfl)))
  · refine e' rfl ?_
    refine Q0.step rfl (j0 := 0) (js := [2, 5]) (by kernel_rfl) ⟨⟨_, rfl, ?_⟩, ⟨_, rfl, ?_⟩, ⟨_, rfl, ?_⟩, trivial⟩
    · refine e' rfl ?_
      refine Q0.step rfl (j0 := 2) (js := [5]) (by kernel_rfl) ⟨⟨_, rfl, ?_⟩, ⟨_, rfl, ?_⟩, trivial⟩
      · refine e' rfl ?_
        refine Q0.step rfl (j0 := 3) (js := [5]) (by kernel_rfl) ⟨⟨_, rfl, ?_⟩, ⟨_, rfl, ?_⟩, trivial⟩
        · refine qe' rfl trivial (E0.lenA _) (n' ?_)
          refine Q0.step rfl (j0 := 4) (js := [5]) (by kernel_rfl) ⟨⟨_, rfl, ?_⟩, ⟨_, rfl, ?_⟩, trivial⟩
          · refine L0.bx 3 (y := .box (D0.row x3)) (by cases hx3; exact .inl rfl) rfl rfl rfl (c' (V0 hx4) rfl rfl (n' ?_))
            refine Q0.step rfl (j0 := 5) (js := []) (by kernel_rfl) ⟨⟨_, rfl, ?_⟩, trivial⟩
            refine e' rfl ?_
            refine Q0.step rfl (j0 := 6) (js := []) (by kernel_rfl) ⟨⟨_, rfl, ?_⟩, trivial⟩
            refine c' (F1 hx5) rfl rfl (n' ?_)
            refine Q0.step rfl (j0 := 7) (js := [8]) (by kernel_rfl) ⟨⟨_, rfl, ?_⟩, ⟨_, rfl, ?_⟩, trivial⟩
            · refine e' rfl ?_
              refine Q0.step rfl (j0 := 8) (js := []) (by kernel_rfl) ⟨⟨_, rfl, ?_⟩, trivial⟩
              refine e' rfl ?_
              refine Q0.step rfl (j0 := 9) (js := []) (by kernel_rfl) ⟨⟨_, rfl, ?_⟩, trivial⟩
              refine L0.s hC rfl (n' ?_)
              refine Q0.step rfl (j0 := 10) (js := []) (by kernel_rfl) ⟨⟨_, rfl, ?_⟩, trivial⟩
              cases hh
              exact e' rfl (Q0.nil (by kernel_rfl) (re' (rt' rfl rfl rfl)))
            · refine e' rfl ?_
              refine Q0.step rfl (j0 := 7) (js := []) (by kernel_rfl) ⟨⟨_, rfl, ?_⟩, trivial⟩
              refine e' rfl ?_
              refine Q0.step rfl (j0 := 9) (js := []) (by kernel_rfl) ⟨⟨_, rfl, ?_⟩, trivial⟩
              refine L0.s hC rfl (n' ?_)
              refine Q0.step rfl (j0 := 10) (js := []) (by kernel_rfl) ⟨⟨_, rfl, ?_⟩, trivial⟩
              cases hh
              exact e' rfl (Q0.nil (by kernel_rfl) (re' (rt' rfl rfl rfl)))
          · refine e' rfl ?_
            refine Q0.step rfl (j0 := 4) (js := []) (by kernel_rfl) ⟨⟨_, rfl, ?_⟩, trivial⟩
            refine L0.bx 3 (y := .box (D0.row x3)) (by cases hx3; exact .inl rfl) rfl rfl rfl (c' (V0 hx4) rfl rfl (n' ?_))
            refine Q0.step rfl (j0 := 6) (js := []) (by kernel_rfl) ⟨⟨_, rfl, ?_⟩, trivial⟩
            refine c' (F1 hx5) rfl rfl (n' ?_)
            refine Q0.step rfl (j0 := 7) (js := [8]) (by kernel_rfl) ⟨⟨_, rfl, ?_⟩, ⟨_, rfl, ?_⟩, trivial⟩
            · refine e' rfl ?_
              refine Q0.step rfl (j0 := 8) (js := []) (by kernel_rfl) ⟨⟨_, rfl, ?_⟩, trivial⟩
              refine e' rfl ?_
              refine Q0.step rfl (j0 := 9) (js := []) (by kernel_rfl) ⟨⟨_, rfl, ?_⟩, trivial⟩
              refine L0.s hC rfl (n' ?_)
              refine Q0.step rfl (j0 := 10) (js := []) (by kernel_rfl) ⟨⟨_, rfl, ?_⟩, trivial⟩
              cases hh
              exact e' rfl (Q0.nil (by kernel_rfl) (re' (rt' rfl rfl rfl)))
            · refine e' rfl ?_
              refine Q0.step rfl (j0 := 7) (js := []) (by kernel_rfl) ⟨⟨_, rfl, ?_⟩, trivial⟩
              refine e' rfl ?_
              refine Q0.step rfl (j0 := 9) (js := []) (by kernel_rfl) ⟨⟨_, rfl, ?_⟩, trivial⟩
              refine L0.s hC rfl (n' ?_)
              refine Q0.step rfl (j0 := 10) (js := []) (by kernel_rfl) ⟨⟨_, rfl, ?_⟩, trivial⟩
              cases hh
              exact e' rfl (Q0.nil (by kernel_rfl) (re' (rt' rfl rfl rfl)))
        · refine e' rfl ?_
          refine Q0.step rfl (j0 := 3) (js := []) (by kernel_rfl) ⟨⟨_, rfl, ?_⟩, trivial⟩
          refine qe' rfl trivial (E0.lenA _) (n' ?_)
          refine Q0.step rfl (j0 := 4) (js := []) (by kernel_rfl) ⟨⟨_, rfl, ?_⟩, trivial⟩
          refine L0.bx 3 (y := .box (D0.row x3)) (by cases hx3; exact .inl rfl) rfl rfl rfl (c' (V0 hx4) rfl rfl (n' ?_))
          refine Q0.step rfl (j0 := 6) (js := []) (by kernel_rfl) ⟨⟨_, rfl, ?_⟩, trivial⟩
          refine c' (F1 hx5) rfl rfl (n' ?_)
          refine Q0.step rfl (j0 := 7) (js := [8]) (by kernel_rfl) ⟨⟨_, rfl, ?_⟩, ⟨_, rfl, ?_⟩, trivial⟩
          · refine e' rfl ?_
            refine Q0.step rfl (j0 := 8) (js := []) (by kernel_rfl) ⟨⟨_, rfl, ?_⟩, trivial⟩
            refine e' rfl ?_
            refine Q0.step rfl (j0 := 9) (js := []) (by kernel_rfl) ⟨⟨_, rfl, ?_⟩, trivial⟩
            refine L0.s hC rfl (n' ?_)
            refine Q0.step rfl (j0 := 10) (js := []) (by kernel_rfl) ⟨⟨_, rfl, ?_⟩, trivial⟩
            cases hh
            exact e' rfl (Q0.nil (by kernel_rfl) (re' (rt' rfl rfl rfl)))
          · refine e' rfl ?_
            refine Q0.step rfl (j0 := 7) (js := []) (by kernel_rfl) ⟨⟨_, rfl, ?_⟩, trivial⟩
            refine e' rfl ?_
            refine Q0.step rfl (j0 := 9) (js := []) (by kernel_rfl) ⟨⟨_, rfl, ?_⟩, trivial⟩
            refine L0.s hC rfl (n' ?_)
            refine Q0.step rfl (j0 := 10) (js := []) (by kernel_rfl) ⟨⟨_, rfl, ?_⟩, trivial⟩
            cases hh
            exact e' rfl (Q0.nil (by kernel_rfl) (re' (rt' rfl rfl rfl)))
      · refine e' rfl ?_
        refine Q0.step rfl (j0 := 2) (js := []) (by kernel_rfl) ⟨⟨_, rfl, ?_⟩, trivial⟩
        refine e' rfl ?_
        refine Q0.step rfl (j0 := 3) (js := []) (by kernel_rfl) ⟨⟨_, rfl, ?_⟩, trivial⟩
        refine qe' rfl trivial (E0.lenA _) (n' ?_)
        refine Q0.step rfl (j0 := 4) (js := []) (by kernel_rfl) ⟨⟨_, rfl, ?_⟩, trivial⟩
        refine L0.bx 3 (y := .box (D0.row x3)) (by cases hx3; exact .inl rfl) rfl rfl rfl (c' (V0 hx4) rfl rfl (n' ?_))
        refine Q0.step rfl (j0 := 6) (js := []) (by kernel_rfl) ⟨⟨_, rfl, ?_⟩, trivial⟩
        refine c' (F1 hx5) rfl rfl (n' ?_)
        refine Q0.step rfl (j0 := 7) (js := [8]) (by kernel_rfl) ⟨⟨_, rfl, ?_⟩, ⟨_, rfl, ?_⟩, trivial⟩
        · refine e' rfl ?_
          refine Q0.step rfl (j0 := 8) (js := []) (by kernel_rfl) ⟨⟨_, rfl, ?_⟩, trivial⟩
          refine e' rfl ?_
          refine Q0.step rfl (j0 := 9) (js := []) (by kernel_rfl) ⟨⟨_, rfl, ?_⟩, trivial⟩
          refine L0.s hC rfl (n' ?_)
          refine Q0.step rfl (j0 := 10) (js := []) (by kernel_rfl) ⟨⟨_, rfl, ?_⟩, trivial⟩
          cases hh
          exact e' rfl (Q0.nil (by kernel_rfl) (re' (rt' rfl rfl rfl)))
        · refine e' rfl ?_
          refine Q0.step rfl (j0 := 7) (js := []) (by kernel_rfl) ⟨⟨_, rfl, ?_⟩, trivial⟩
          refine e' rfl ?_
          refine Q0.step rfl (j0 := 9) (js := []) (by kernel_rfl) ⟨⟨_, rfl, ?_⟩, trivial⟩
          refine L0.s hC rfl (n' ?_)
          refine Q0.step rfl (j0 := 10) (js := []) (by kernel_rfl) ⟨⟨_, rfl, ?_⟩, trivial⟩
          cases hh
          exact e' rfl (Q0.nil (by kernel_rfl) (re' (rt' rfl rfl rfl)))
    · refine e' rfl ?_
      refine Q0.step rfl (j0 := 0) (js := [3, 5]) (by kernel_rfl) ⟨⟨_, rfl, ?_⟩, ⟨_, rfl, ?_⟩, ⟨_, rfl, ?_⟩, trivial⟩
      · refine e' rfl ?_
        refine Q0.step rfl (j0 := 3) (js := [5]) (by kernel_rfl) ⟨⟨_, rfl, ?_⟩, ⟨_, rfl, ?_⟩, trivial⟩
        · refine qe' rfl trivial (E0.lenA _) (n' ?_)
          refine Q0.step rfl (j0 := 4) (js := [5]) (by kernel_rfl) ⟨⟨_, rfl, ?_⟩, ⟨_, rfl, ?_⟩, trivial⟩
          · refine L0.bx 3 (y := .box (D0.row x3)) (by cases hx3; exact .inl rfl) rfl rfl rfl (c' (V0 hx4) rfl rfl (n' ?_))
            refine Q0.step rfl (j0 := 5) (js := []) (by kernel_rfl) ⟨⟨_, rfl, ?_⟩, trivial⟩
            refine e' rfl ?_
            refine Q0.step rfl (j0 := 6) (js := []) (by kernel_rfl) ⟨⟨_, rfl, ?_⟩, trivial⟩
            refine c' (F1 hx5) rfl rfl (n' ?_)
            refine Q0.step rfl (j0 := 7) (js := [8]) (by kernel_rfl) ⟨⟨_, rfl, ?_⟩, ⟨_, rfl, ?_⟩, trivial⟩
            · refine e' rfl ?_
              refine Q0.step rfl (j0 := 8) (js := []) (by kernel_rfl) ⟨⟨_, rfl, ?_⟩, trivial⟩
              refine e' rfl ?_
              refine Q0.step rfl (j0 := 9) (js := []) (by kernel_rfl) ⟨⟨_, rfl, ?_⟩, trivial⟩
              refine L0.s hC rfl (n' ?_)
              refine Q0.step rfl (j0 := 10) (js := []) (by kernel_rfl) ⟨⟨_, rfl, ?_⟩, trivial⟩
              cases hh
              exact e' rfl (Q0.nil (by kernel_rfl) (re' (rt' rfl rfl rfl)))
            · refine e' rfl ?_
              refine Q0.step rfl (j0 := 7) (js := []) (by kernel_rfl) ⟨⟨_, rfl, ?_⟩, trivial⟩
              refine e' rfl ?_
              refine Q0.step rfl (j0 := 9) (js := []) (by kernel_rfl) ⟨⟨_, rfl, ?_⟩, trivial⟩
              refine L0.s hC rfl (n' ?_)
              refine Q0.step rfl (j0 := 10) (js := []) (by kernel_rfl) ⟨⟨_, rfl, ?_⟩, trivial⟩
              cases hh
              exact e' rfl (Q0.nil (by kernel_rfl) (re' (rt' rfl rfl rfl)))
          · refine e' rfl ?_
            refine Q0.step rfl (j0 := 4) (js := []) (by kernel_rfl) ⟨⟨_, rfl, ?_⟩, trivial⟩
            refine L0.bx 3 (y := .box (D0.row x3)) (by cases hx3; exact .inl rfl) rfl rfl rfl (c' (V0 hx4) rfl rfl (n' ?_))
            refine Q0.step rfl (j0 := 6) (js := []) (by kernel_rfl) ⟨⟨_, rfl, ?_⟩, trivial⟩
            refine c' (F1 hx5) rfl rfl (n' ?_)
            refine Q0.step rfl (j0 := 7) (js := [8]) (by kernel_rfl) ⟨⟨_, rfl, ?_⟩, ⟨_, rfl, ?_⟩, trivial⟩
            · refine e' rfl ?_
              refine Q0.step rfl (j0 := 8) (js := []) (by kernel_rfl) ⟨⟨_, rfl, ?_⟩, trivial⟩
              refine e' rfl ?_
              refine Q0.step rfl (j0 := 9) (js := []) (by kernel_rfl) ⟨⟨_, rfl, ?_⟩, trivial⟩
              refine L0.s hC rfl (n' ?_)
              refine Q0.step rfl (j0 := 10) (js := []) (by kernel_rfl) ⟨⟨_, rfl, ?_⟩, trivial⟩
              cases hh
              exact e' rfl (Q0.nil (by kernel_rfl) (re' (rt' rfl rfl rfl)))
            · refine e' rfl ?_
              refine Q0.step rfl (j0 := 7) (js := []) (by kernel_rfl) ⟨⟨_, rfl, ?_⟩, trivial⟩
              refine e' rfl ?_
              refine Q0.step rfl (j0 := 9) (js := []) (by kernel_rfl) ⟨⟨_, rfl, ?_⟩, trivial⟩
              refine L0.s hC rfl (n' ?_)
              refine Q0.step rfl (j0 := 10) (js := []) (by kernel_rfl) ⟨⟨_, rfl, ?_⟩, trivial⟩
              cases hh
              exact e' rfl (Q0.nil (by kernel_rfl) (re' (rt' rfl rfl rfl)))
        · refine e' rfl ?_
          refine Q0.step rfl (j0 := 3) (js := []) (by kernel_rfl) ⟨⟨_, rfl, ?_⟩, trivial⟩
          refine qe' rfl trivial (E0.lenA _) (n' ?_)
          refine Q0.step rfl (j0 := 4) (js := []) (by kernel_rfl) ⟨⟨_, rfl, ?_⟩, trivial⟩
          refine L0.bx 3 (y := .box (D0.row x3)) (by cases hx3; exact .inl rfl) rfl rfl rfl (c' (V0 hx4) rfl rfl (n' ?_))
          refine Q0.step rfl (j0 := 6) (js := []) (by kernel_rfl) ⟨⟨_, rfl, ?_⟩, trivial⟩
          refine c' (F1 hx5) rfl rfl (n' ?_)
          refine Q0.step rfl (j0 := 7) (js := [8]) (by kernel_rfl) ⟨⟨_, rfl, ?_⟩, ⟨_, rfl, ?_⟩, trivial⟩
          · refine e' rfl ?_
            refine Q0.step rfl (j0 := 8) (js := []) (by kernel_rfl) ⟨⟨_, rfl, ?_⟩, trivial⟩
            refine e' rfl ?_
            refine Q0.step rfl (j0 := 9) (js := []) (by kernel_rfl) ⟨⟨_, rfl, ?_⟩, trivial⟩
            refine L0.s hC rfl (n' ?_)
            refine Q0.step rfl (j0 := 10) (js := []) (by kernel_rfl) ⟨⟨_, rfl, ?_⟩, trivial⟩
            cases hh
            exact e' rfl (Q0.nil (by kernel_rfl) (re' (rt' rfl rfl rfl)))
          · refine e' rfl ?_
            refine Q0.step rfl (j0 := 7) (js := []) (by kernel_rfl) ⟨⟨_, rfl, ?_⟩, trivial⟩
            refine e' rfl ?_
            refine Q0.step rfl (j0 := 9) (js := []) (by kernel_rfl) ⟨⟨_, rfl, ?_⟩, trivial⟩
            refine L0.s hC rfl (n' ?_)
            refine Q0.step rfl (j0 := 10) (js := []) (by kernel_rfl) ⟨⟨_, rfl, ?_⟩, trivial⟩
            cases hh
            exact e' rfl (Q0.nil (by kernel_rfl) (re' (rt' rfl rfl rfl)))
      · refine qe' rfl trivial (E0.lenA _) (n' ?_)
        refine Q0.step rfl (j0 := 0) (js := [5]) (by kernel_rfl) ⟨⟨_, rfl, ?_⟩, ⟨_, rfl, ?_⟩, trivial⟩
        · refine e' rfl ?_
          refine Q0.step rfl (j0 := 4) (js := [5]) (by kernel_rfl) ⟨⟨_, rfl, ?_⟩, ⟨_, rfl, ?_⟩, trivial⟩
          · refine L0.bx 3 (y := .box (D0.row x3)) (by cases hx3; exact .inl rfl) rfl rfl rfl (c' (V0 hx4) rfl rfl (n' ?_))
            refine Q0.step rfl (j0 := 5) (js := []) (by kernel_rfl) ⟨⟨_, rfl, ?_⟩, trivial⟩
            refine e' rfl ?_
            refine Q0.step rfl (j0 := 6) (js := []) (by kernel_rfl) ⟨⟨_, rfl, ?_⟩, trivial⟩
            refine c' (F1 hx5) rfl rfl (n' ?_)
            refine Q0.step rfl (j0 := 7) (js := [8]) (by kernel_rfl) ⟨⟨_, rfl, ?_⟩, ⟨_, rfl, ?_⟩, trivial⟩
            · refine e' rfl ?_
              refine Q0.step rfl (j0 := 8) (js := []) (by kernel_rfl) ⟨⟨_, rfl, ?_⟩, trivial⟩
              refine e' rfl ?_
              refine Q0.step rfl (j0 := 9) (js := []) (by kernel_rfl) ⟨⟨_, rfl, ?_⟩, trivial⟩
              refine L0.s hC rfl (n' ?_)
              refine Q0.step rfl (j0 := 10) (js := []) (by kernel_rfl) ⟨⟨_, rfl, ?_⟩, trivial⟩
              cases hh
              exact e' rfl (Q0.nil (by kernel_rfl) (re' (rt' rfl rfl rfl)))
            · refine e' rfl ?_
              refine Q0.step rfl (j0 := 7) (js := []) (by kernel_rfl) ⟨⟨_, rfl, ?_⟩, trivial⟩
              refine e' rfl ?_
              refine Q0.step rfl (j0 := 9) (js := []) (by kernel_rfl) ⟨⟨_, rfl, ?_⟩, trivial⟩
              refine L0.s hC rfl (n' ?_)
              refine Q0.step rfl (j0 := 10) (js := []) (by kernel_rfl) ⟨⟨_, rfl, ?_⟩, trivial⟩
              cases hh
              exact e' rfl (Q0.nil (by kernel_rfl) (re' (rt' rfl rfl rfl)))
          · refine e' rfl ?_
            refine Q0.step rfl (j0 := 4) (js := []) (by kernel_rfl) ⟨⟨_, rfl, ?_⟩, trivial⟩
            refine L0.bx 3 (y := .box (D0.row x3)) (by cases hx3; exact .inl rfl) rfl rfl rfl (c' (V0 hx4) rfl rfl (n' ?_))
            refine Q0.step rfl (j0 := 6) (js := []) (by kernel_rfl) ⟨⟨_, rfl, ?_⟩, trivial⟩
            refine c' (F1 hx5) rfl rfl (n' ?_)
            refine Q0.step rfl (j0 := 7) (js := [8]) (by kernel_rfl) ⟨⟨_, rfl, ?_⟩, ⟨_, rfl, ?_⟩, trivial⟩
            · refine e' rfl ?_
              refine Q0.step rfl (j0 := 8) (js := []) (by kernel_rfl) ⟨⟨_, rfl, ?_⟩, trivial⟩
              refine e' rfl ?_
              refine Q0.step rfl (j0 := 9) (js := []) (by kernel_rfl) ⟨⟨_, rfl, ?_⟩, trivial⟩
              refine L0.s hC rfl (n' ?_)
              refine Q0.step rfl (j0 := 10) (js := []) (by kernel_rfl) ⟨⟨_, rfl, ?_⟩, trivial⟩
              cases hh
              exact e' rfl (Q0.nil (by kernel_rfl) (re' (rt' rfl rfl rfl)))
            · refine e' rfl ?_
              refine Q0.step rfl (j0 := 7) (js := []) (by kernel_rfl) ⟨⟨_, rfl, ?_⟩, trivial⟩
              refine e' rfl ?_
              refine Q0.step rfl (j0 := 9) (js := []) (by kernel_rfl) ⟨⟨_, rfl, ?_⟩, trivial⟩
              refine L0.s hC rfl (n' ?_)
              refine Q0.step rfl (j0 := 10) (js := []) (by kernel_rfl) ⟨⟨_, rfl, ?_⟩, trivial⟩
              cases hh
              exact e' rfl (Q0.nil (by kernel_rfl) (re' (rt' rfl rfl rfl)))
        · refine e' rfl ?_
          refine Q0.step rfl (j0 := 0) (js := []) (by kernel_rfl) ⟨⟨_, rfl, ?_⟩, trivial⟩
          refine e' rfl ?_
          refine Q0.step rfl (j0 := 4) (js := []) (by kernel_rfl) ⟨⟨_, rfl, ?_⟩, trivial⟩
          refine L0.bx 3 (y := .box (D0.row x3)) (by cases hx3; exact .inl rfl) rfl rfl rfl (c' (V0 hx4) rfl rfl (n' ?_))
          refine Q0.step rfl (j0 := 6) (js := []) (by kernel_rfl) ⟨⟨_, rfl, ?_⟩, trivial⟩
          refine c' (F1 hx5) rfl rfl (n' ?_)
          refine Q0.step rfl (j0 := 7) (js := [8]) (by kernel_rfl) ⟨⟨_, rfl, ?_⟩, ⟨_, rfl, ?_⟩, trivial⟩
          · refine e' rfl ?_
            refine Q0.step rfl (j0 := 8) (js := []) (by kernel_rfl) ⟨⟨_, rfl, ?_⟩, trivial⟩
            refine e' rfl ?_
            refine Q0.step rfl (j0 := 9) (js := []) (by kernel_rfl) ⟨⟨_, rfl, ?_⟩, trivial⟩
            refine L0.s hC rfl (n' ?_)
            refine Q0.step rfl (j0 := 10) (js := []) (by kernel_rfl) ⟨⟨_, rfl, ?_⟩, trivial⟩
            cases hh
            exact e' rfl (Q0.nil (by kernel_rfl) (re' (rt' rfl rfl rfl)))
          · refine e' rfl ?_
            refine Q0.step rfl (j0 := 7) (js := []) (by kernel_rfl) ⟨⟨_, rfl, ?_⟩, trivial⟩
            refine e' rfl ?_
            refine Q0.step rfl (j0 := 9) (js := []) (by kernel_rfl) ⟨⟨_, rfl, ?_⟩, trivial⟩
            refine L0.s hC rfl (n' ?_)
            refine Q0.step rfl (j0 := 10) (js := []) (by kernel_rfl) ⟨⟨_, rfl, ?_⟩, trivial⟩
            cases hh
            exact e' rfl (Q0.nil (by kernel_rfl) (re' (rt' rfl rfl rfl)))
      · refine e' rfl ?_
        refine Q0.step rfl (j0 := 0) (js := [3]) (by kernel_rfl) ⟨⟨_, rfl, ?_⟩, ⟨_, rfl, ?_⟩, trivial⟩
        · refine e' rfl ?_
          refine Q0.step rfl (j0 := 3) (js := []) (by kernel_rfl) ⟨⟨_, rfl, ?_⟩, trivial⟩
          refine qe' rfl trivial (E0.lenA _) (n' ?_)
          refine Q0.step rfl (j0 := 4) (js := []) (by kernel_rfl) ⟨⟨_, rfl, ?_⟩, trivial⟩
          refine L0.bx 3 (y := .box (D0.row x3)) (by cases hx3; exact .inl rfl) rfl rfl rfl (c' (V0 hx4) rfl rfl (n' ?_))
          refine Q0.step rfl (j0 := 6) (js := []) (by kernel_rfl) ⟨⟨_, rfl, ?_⟩, trivial⟩
          refine c' (F1 hx5) rfl rfl (n' ?_)
          refine Q0.step rfl (j0 := 7) (js := [8]) (by kernel_rfl) ⟨⟨_, rfl, ?_⟩, ⟨_, rfl, ?_⟩, trivial⟩
          · refine e' rfl ?_
            refine Q0.step rfl (j0 := 8) (js := []) (by kernel_rfl) ⟨⟨_, rfl, ?_⟩, trivial⟩
            refine e' rfl ?_
            refine Q0.step rfl (j0 := 9) (js := []) (by kernel_rfl) ⟨⟨_, rfl, ?_⟩, trivial⟩
            refine L0.s hC rfl (n' ?_)
            refine Q0.step rfl (j0 := 10) (js := []) (by kernel_rfl) ⟨⟨_, rfl, ?_⟩, trivial⟩
            cases hh
            exact e' rfl (Q0.nil (by kernel_rfl) (re' (rt' rfl rfl rfl)))
          · refine e' rfl ?_
            refine Q0.step rfl (j0 := 7) (js := []) (by kernel_rfl) ⟨⟨_, rfl, ?_⟩, trivial⟩
            refine e' rfl ?_
            refine Q0.step rfl (j0 := 9) (js := []) (by kernel_rfl) ⟨⟨_, rfl, ?_⟩, trivial⟩
            refine L0.s hC rfl (n' ?_)
            refine Q0.step rfl (j0 := 10) (js := []) (by kernel_rfl) ⟨⟨_, rfl, ?_⟩, trivial⟩
            cases hh
            exact e' rfl (Q0.nil (by kernel_rfl) (re' (rt' rfl rfl rfl)))
        · refine qe' rfl trivial (E0.lenA _) (n' ?_)
          refine Q0.step rfl (j0 := 0) (js := []) (by kernel_rfl) ⟨⟨_, rfl, ?_⟩, trivial⟩
          refine e' rfl ?_
          refine Q0.step rfl (j0 := 4) (js := []) (by kernel_rfl) ⟨⟨_, rfl, ?_⟩, trivial⟩
          refine L0.bx 3 (y := .box (D0.row x3)) (by cases hx3; exact .inl rfl) rfl rfl rfl (c' (V0 hx4) rfl rfl (n' ?_))
          refine Q0.step rfl (j0 := 6) (js := []) (by kernel_rfl) ⟨⟨_, rfl, ?_⟩, trivial⟩
          refine c' (F1 hx5) rfl rfl (n' ?_)
          refine Q0.step rfl (j0 := 7) (js := [8]) (by kernel_rfl) ⟨⟨_, rfl, ?_⟩, ⟨_, rfl, ?_⟩, trivial⟩
          · refine e' rfl ?_
            refine Q0.step rfl (j0 := 8) (js := []) (by kernel_rfl) ⟨⟨_, rfl, ?_⟩, trivial⟩
            refine e' rfl ?_
            refine Q0.step rfl (j0 := 9) (js := []) (by kernel_rfl) ⟨⟨_, rfl, ?_⟩, trivial⟩
            refine L0.s hC rfl (n' ?_)
            refine Q0.step rfl (j0 := 10) (js := []) (by kernel_rfl) ⟨⟨_, rfl, ?_⟩, trivial⟩
            cases hh
            exact e' rfl (Q0.nil (by kernel_rfl) (re' (rt' rfl rfl rfl)))
          · refine e' rfl ?_
            refine Q0.step rfl (j0 := 7) (js := []) (by kernel_rfl) ⟨⟨_, rfl, ?_⟩, trivial⟩
            refine e' rfl ?_
            refine Q0.step rfl (j0 := 9) (js := []) (by kernel_rfl) ⟨⟨_, rfl, ?_⟩, trivial⟩
            refine L0.s hC rfl (n' ?_)
            refine Q0.step rfl (j0 := 10) (js := []) (by kernel_rfl) ⟨⟨_, rfl, ?_⟩, trivial⟩
            cases hh
            exact e' rfl (Q0.nil (by kernel_rfl) (re' (rt' rfl rfl rfl)))
    · refine e' rfl ?_
      refine Q0.step rfl (j0 := 0) (js := [2]) (by kernel_rfl) ⟨⟨_, rfl, ?_⟩, ⟨_, rfl, ?_⟩, trivial⟩
      · refine e' rfl ?_
        refine Q0.step rfl (j0 := 2) (js := []) (by kernel_rfl) ⟨⟨_, rfl, ?_⟩, trivial⟩
        refine e' rfl ?_
        refine Q0.step rfl (j0 := 3) (js := []) (by kernel_rfl) ⟨⟨_, rfl, ?_⟩, trivial⟩
        refine qe' rfl trivial (E0.lenA _) (n' ?_)
        refine Q0.step rfl (j0 := 4) (js := []) (by kernel_rfl) ⟨⟨_, rfl, ?_⟩, trivial⟩
        refine L0.bx 3 (y := .box (D0.row x3)) (by cases hx3; exact .inl rfl) rfl rfl rfl (c' (V0 hx4) rfl rfl (n' ?_))
        refine Q0.step rfl (j0 := 6) (js := []) (by kernel_rfl) ⟨⟨_, rfl, ?_⟩, trivial⟩
        refine c' (F1 hx5) rfl rfl (n' ?_)
        refine Q0.step rfl (j0 := 7) (js := [8]) (by kernel_rfl) ⟨⟨_, rfl, ?_⟩, ⟨_, rfl, ?_⟩, trivial⟩
        · refine e' rfl ?_
          refine Q0.step rfl (j0 := 8) (js := []) (by kernel_rfl) ⟨⟨_, rfl, ?_⟩, trivial⟩
          refine e' rfl ?_
          refine Q0.step rfl (j0 := 9) (js := []) (by kernel_rfl) ⟨⟨_, rfl, ?_⟩, trivial⟩
          refine L0.s hC rfl (n' ?_)
          refine Q0.step rfl (j0 := 10) (js := []) (by kernel_rfl) ⟨⟨_, rfl, ?_⟩, trivial⟩
          cases hh
          exact e' rfl (Q0.nil (by kernel_rfl) (re' (rt' rfl rfl rfl)))
        · refine e' rfl ?_
          refine Q0.step rfl (j0 := 7) (js := []) (by kernel_rfl) ⟨⟨_, rfl, ?_⟩, trivial⟩
          refine e' rfl ?_
          refine Q0.step rfl (j0 := 9) (js := []) (by kernel_rfl) ⟨⟨_, rfl, ?_⟩, trivial⟩
          refine L0.s hC rfl (n' ?_)
          refine Q0.step rfl (j0 := 10) (js := []) (by kernel_rfl) ⟨⟨_, rfl, ?_⟩, trivial⟩
          cases hh
          exact e' rfl (Q0.nil (by kernel_rfl) (re' (rt' rfl rfl rfl)))
      · refine e' rfl ?_
        refine Q0.step rfl (j0 := 0) (js := [3]) (by kernel_rfl) ⟨⟨_, rfl, ?_⟩, ⟨_, rfl, ?_⟩, trivial⟩
        · refine e' rfl ?_
          refine Q0.step rfl (j0 := 3) (js := []) (by kernel_rfl) ⟨⟨_, rfl, ?_⟩, trivial⟩
          refine qe' rfl trivial (E0.lenA _) (n' ?_)
          refine Q0.step rfl (j0 := 4) (js := []) (by kernel_rfl) ⟨⟨_, rfl, ?_⟩, trivial⟩
          refine L0.bx 3 (y := .box (D0.row x3)) (by cases hx3; exact .inl rfl) rfl rfl rfl (c' (V0 hx4) rfl rfl (n' ?_))
          refine Q0.step rfl (j0 := 6) (js := []) (by kernel_rfl) ⟨⟨_, rfl, ?_⟩, trivial⟩
          refine c' (F1 hx5) rfl rfl (n' ?_)
          refine Q0.step rfl (j0 := 7) (js := [8]) (by kernel_rfl) ⟨⟨_, rfl, ?_⟩, ⟨_, rfl, ?_⟩, trivial⟩
          · refine e' rfl ?_
            refine Q0.step rfl (j0 := 8) (js := []) (by kernel_rfl) ⟨⟨_, rfl, ?_⟩, trivial⟩
            refine e' rfl ?_
            refine Q0.step rfl (j0 := 9) (js := []) (by kernel_rfl) ⟨⟨_, rfl, ?_⟩, trivial⟩
            refine L0.s hC rfl (n' ?_)
            refine Q0.step rfl (j0 := 10) (js := []) (by kernel_rfl) ⟨⟨_, rfl, ?_⟩, trivial⟩
            cases hh
            exact e' rfl (Q0.nil (by kernel_rfl) (re' (rt' rfl rfl rfl)))
          · refine e' rfl ?_
            refine Q0.step rfl (j0 := 7) (js := []) (by kernel_rfl) ⟨⟨_, rfl, ?_⟩, trivial⟩
            refine e' rfl ?_
            refine Q0.step rfl (j0 := 9) (js := []) (by kernel_rfl) ⟨⟨_, rfl, ?_⟩, trivial⟩
            refine L0.s hC rfl (n' ?_)
            refine Q0.step rfl (j0 := 10) (js := []) (by kernel_rfl) ⟨⟨_, rfl, ?_⟩, trivial⟩
            cases hh
            exact e' rfl (Q0.nil (by kernel_rfl) (re' (rt' rfl rfl rfl)))
        · refine qe' rfl trivial (E0.lenA _) (n' ?_)
          refine Q0.step rfl (j0 := 0) (js := []) (by kernel_rfl) ⟨⟨_, rfl, ?_⟩, trivial⟩
          refine e' rfl ?_
          refine Q0.step rfl (j0 := 4) (js := []) (by kernel_rfl) ⟨⟨_, rfl, ?_⟩, trivial⟩
          refine L0.bx 3 (y := .box (D0.row x3)) (by cases hx3; exact .inl rfl) rfl rfl rfl (c' (V0 hx4) rfl rfl (n' ?_))
          refine Q0.step rfl (j0 := 6) (js := []) (by kernel_rfl) ⟨⟨_, rfl, ?_⟩, trivial⟩
          refine c' (F1 hx5) rfl rfl (n' ?_)
          refine Q0.step rfl (j0 := 7) (js := [8]) (by kernel_rfl) ⟨⟨_, rfl, ?_⟩, ⟨_, rfl, ?_⟩, trivial⟩
          · refine e' rfl ?_
            refine Q0.step rfl (j0 := 8) (js := []) (by kernel_rfl) ⟨⟨_, rfl, ?_⟩, trivial⟩
            refine e' rfl ?_
            refine Q0.step rfl (j0 := 9) (js := []) (by kernel_rfl) ⟨⟨_, rfl, ?_⟩, trivial⟩
            refine L0.s hC rfl (n' ?_)
            refine Q0.step rfl (j0 := 10) (js := []) (by kernel_rfl) ⟨⟨_, rfl, ?_⟩, trivial⟩
            cases hh
            exact e' rfl (Q0.nil (by kernel_rfl) (re' (rt' rfl rfl rfl)))
          · refine e' rfl ?_
            refine Q0.step rfl (j0 := 7) (js := []) (by kernel_rfl) ⟨⟨_, rfl, ?_⟩, trivial⟩
            refine e' rfl ?_
            refine Q0.step rfl (j0 := 9) (js := []) (by kernel_rfl) ⟨⟨_, rfl, ?_⟩, trivial⟩
            refine L0.s hC rfl (n' ?_)
            refine Q0.step rfl (j0 := 10) (js := []) (by kernel_rfl) ⟨⟨_, rfl, ?_⟩, trivial⟩
            cases hh
            exact e' rfl (Q0.nil (by kernel_rfl) (re' (rt' rfl rfl rfl)))
  · refine e' rfl ?_
    refine Q0.step rfl (j0 := 0) (js := [1]) (by kernel_rfl) ⟨⟨_, rfl, ?_⟩, ⟨_, rfl, ?_⟩, trivial⟩
    · refine e' rfl ?_
      refine Q0.step rfl (j0 := 1) (js := []) (by kernel_rfl) ⟨⟨_, rfl, ?_⟩, trivial⟩
      refine e' rfl ?_
      refine Q0.step rfl (j0 := 2) (js := []) (by kernel_rfl) ⟨⟨_, rfl, ?_⟩, trivial⟩
      refine e' rfl ?_
      refine Q0.step rfl (j0 := 3) (js := []) (by kernel_rfl) ⟨⟨_, rfl, ?_⟩, trivial⟩
      refine qe' rfl trivial (E0.lenA _) (n' ?_)
      refine Q0.step rfl (j0 := 4) (js := []) (by kernel_rfl) ⟨⟨_, rfl, ?_⟩, trivial⟩
      refine L0.bx 3 (y := .box (D0.row x3)) (by cases hx3; exact .inl rfl) rfl rfl rfl (c' (V0 hx4) rfl rfl (n' ?_))
      refine Q0.step rfl (j0 := 6) (js := []) (by kernel_rfl) ⟨⟨_, rfl, ?_⟩, trivial⟩
      refine c' (F1 hx5) rfl rfl (n' ?_)
      refine Q0.step rfl (j0 := 7) (js := [8]) (by kernel_rfl) ⟨⟨_, rfl, ?_⟩, ⟨_, rfl, ?_⟩, trivial⟩
      · refine e' rfl ?_
        refine Q0.step rfl (j0 := 8) (js := []) (by kernel_rfl) ⟨⟨_, rfl, ?_⟩, trivial⟩
        refine e' rfl ?_
        refine Q0.step rfl (j0 := 9) (js := []) (by kernel_rfl) ⟨⟨_, rfl, ?_⟩, trivial⟩
        refine L0.s hC rfl (n' ?_)
        refine Q0.step rfl (j0 := 10) (js := []) (by kernel_rfl) ⟨⟨_, rfl, ?_⟩, trivial⟩
        cases hh
        exact e' rfl (Q0.nil (by kernel_rfl) (re' (rt' rfl rfl rfl)))
      · refine e' rfl ?_
        refine Q0.step rfl (j0 := 7) (js := []) (by kernel_rfl) ⟨⟨_, rfl, ?_⟩, trivial⟩
        refine e' rfl ?_
        refine Q0.step rfl (j0 := 9) (js := []) (by kernel_rfl) ⟨⟨_, rfl, ?_⟩, trivial⟩
        refine L0.s hC rfl (n' ?_)
        refine Q0.step rfl (j0 := 10) (js := []) (by kernel_rfl) ⟨⟨_, rfl, ?_⟩, trivial⟩
        cases hh
        exact e' rfl (Q0.nil (by kernel_rfl) (re' (rt' rfl rfl rfl)))
    · refine e' rfl ?_
      refine Q0.step rfl (j0 := 0) (js := [2]) (by kernel_rfl) ⟨⟨_, rfl, ?_⟩, ⟨_, rfl, ?_⟩, trivial⟩
      · refine e' rfl ?_
        refine Q0.step rfl (j0 := 2) (js := []) (by kernel_rfl) ⟨⟨_, rfl, ?_⟩, trivial⟩
        refine e' rfl ?_
        refine Q0.step rfl (j0 := 3) (js := []) (by kernel_rfl) ⟨⟨_, rfl, ?_⟩, trivial⟩
        refine qe' rfl trivial (E0.lenA _) (n' ?_)
        refine Q0.step rfl (j0 := 4) (js := []) (by kernel_rfl) ⟨⟨_, rfl, ?_⟩, trivial⟩
        refine L0.bx 3 (y := .box (D0.row x3)) (by cases hx3; exact .inl rfl) rfl rfl rfl (c' (V0 hx4) rfl rfl (n' ?_))
        refine Q0.step rfl (j0 := 6) (js := []) (by kernel_rfl) ⟨⟨_, rfl, ?_⟩, trivial⟩
        refine c' (F1 hx5) rfl rfl (n' ?_)
        refine Q0.step rfl (j0 := 7) (js := [8]) (by kernel_rfl) ⟨⟨_, rfl, ?_⟩, ⟨_, rfl, ?_⟩, trivial⟩
        · refine e' rfl ?_
          refine Q0.step rfl (j0 := 8) (js := []) (by kernel_rfl) ⟨⟨_, rfl, ?_⟩, trivial⟩
          refine e' rfl ?_
          refine Q0.step rfl (j0 := 9) (js := []) (by kernel_rfl) ⟨⟨_, rfl, ?_⟩, trivial⟩
          refine L0.s hC rfl (n' ?_)
          refine Q0.step rfl (j0 := 10) (js := []) (by kernel_rfl) ⟨⟨_, rfl, ?_⟩, trivial⟩
          cases hh
          exact e' rfl (Q0.nil (by kernel_rfl) (re' (rt' rfl rfl rfl)))
        · refine e' rfl ?_
          refine Q0.step rfl (j0 := 7) (js := []) (by kernel_rfl) ⟨⟨_, rfl, ?_⟩, trivial⟩
          refine e' rfl ?_
          refine Q0.step rfl (j0 := 9) (js := []) (by kernel_rfl) ⟨⟨_, rfl, ?_⟩, trivial⟩
          refine L0.s hC rfl (n' ?_)
          refine Q0.step rfl (j0 := 10) (js := []) (by kernel_rfl) ⟨⟨_, rfl, ?_⟩, trivial⟩
          cases hh
          exact e' rfl (Q0.nil (by kernel_rfl) (re' (rt' rfl rfl rfl)))
      · refine e' rfl ?_
        refine Q0.step rfl (j0 := 0) (js := [3]) (by kernel_rfl) ⟨⟨_, rfl, ?_⟩, ⟨_, rfl, ?_⟩, trivial⟩
        · refine e' rfl ?_
          refine Q0.step rfl (j0 := 3) (js := []) (by kernel_rfl) ⟨⟨_, rfl, ?_⟩, trivial⟩
          refine qe' rfl trivial (E0.lenA _) (n' ?_)
          refine Q0.step rfl (j0 := 4) (js := []) (by kernel_rfl) ⟨⟨_, rfl, ?_⟩, trivial⟩
          refine L0.bx 3 (y := .box (D0.row x3)) (by cases hx3; exact .inl rfl) rfl rfl rfl (c' (V0 hx4) rfl rfl (n' ?_))
          refine Q0.step rfl (j0 := 6) (js := []) (by kernel_rfl) ⟨⟨_, rfl, ?_⟩, trivial⟩
          refine c' (F1 hx5) rfl rfl (n' ?_)
          refine Q0.step rfl (j0 := 7) (js := [8]) (by kernel_rfl) ⟨⟨_, rfl, ?_⟩, ⟨_, rfl, ?_⟩, trivial⟩
          · refine e' rfl ?_
            refine Q0.step rfl (j0 := 8) (js := []) (by kernel_rfl) ⟨⟨_, rfl, ?_⟩, trivial⟩
            refine e' rfl ?_
            refine Q0.step rfl (j0 := 9) (js := []) (by kernel_rfl) ⟨⟨_, rfl, ?_⟩, trivial⟩
            refine L0.s hC rfl (n' ?_)
            refine Q0.step rfl (j0 := 10) (js := []) (by kernel_rfl) ⟨⟨_, rfl, ?_⟩, trivial⟩
            cases hh
            exact e' rfl (Q0.nil (by kernel_rfl) (re' (rt' rfl rfl rfl)))
          · refine e' rfl ?_
            refine Q0.step rfl (j0 := 7) (js := []) (by kernel_rfl) ⟨⟨_, rfl, ?_⟩, trivial⟩
            refine e' rfl ?_
            refine Q0.step rfl (j0 := 9) (js := []) (by kernel_rfl) ⟨⟨_, rfl, ?_⟩, trivial⟩
            refine L0.s hC rfl (n' ?_)
            refine Q0.step rfl (j0 := 10) (js := []) (by kernel_rfl) ⟨⟨_, rfl, ?_⟩, trivial⟩
            cases hh
            exact e' rfl (Q0.nil (by kernel_rfl) (re' (rt' rfl rfl rfl)))
        · refine qe' rfl trivial (E0.lenA _) (n' ?_)
          refine Q0.step rfl (j0 := 0) (js := []) (by kernel_rfl) ⟨⟨_, rfl, ?_⟩, trivial⟩
          refine e' rfl ?_
          refine Q0.step rfl (j0 := 4) (js := []) (by kernel_rfl) ⟨⟨_, rfl, ?_⟩, trivial⟩
          refine L0.bx 3 (y := .box (D0.row x3)) (by cases hx3; exact .inl rfl) rfl rfl rfl (c' (V0 hx4) rfl rfl (n' ?_))
          refine Q0.step rfl (j0 := 6) (js := []) (by kernel_rfl) ⟨⟨_, rfl, ?_⟩, trivial⟩
          refine c' (F1 hx5) rfl rfl (n' ?_)
          refine Q0.step rfl (j0 := 7) (js := [8]) (by kernel_rfl) ⟨⟨_, rfl, ?_⟩, ⟨_, rfl, ?_⟩, trivial⟩
          · refine e' rfl ?_
            refine Q0.step rfl (j0 := 8) (js := []) (by kernel_rfl) ⟨⟨_, rfl, ?_⟩, trivial⟩
            refine e' rfl ?_
            refine Q0.step rfl (j0 := 9) (js := []) (by kernel_rfl) ⟨⟨_, rfl, ?_⟩, trivial⟩
            refine L0.s hC rfl (n' ?_)
            refine Q0.step rfl (j0 := 10) (js := []) (by kernel_rfl) ⟨⟨_, rfl, ?_⟩, trivial⟩
            cases hh
            exact e' rfl (Q0.nil (by kernel_rfl) (re' (rt' rfl rfl rfl)))
          · refine e' rfl ?_
            refine Q0.step rfl (j0 := 7) (js := []) (by kernel_rfl) ⟨⟨_, rfl, ?_⟩, trivial⟩
            refine e' rfl ?_
            refine Q0.step rfl (j0 := 9) (js := []) (by kernel_rfl) ⟨⟨_, rfl, ?_⟩, trivial⟩
            refine L0.s hC rfl (n' ?_)
            refine Q0.step rfl (j0 := 10) (js := []) (by kernel_rfl) ⟨⟨_, rfl, ?_⟩, trivial⟩
            cases hh
            exact e' rfl (Q0.nil (by kernel_rfl) (re' (rt' rfl rfl rfl)))
end Go.Proofs.YtdkabnfphmmmnaaGreatDoor

set_option maxRecDepth 100000
set_option maxHeartbeats 4000000
set_option synthInstance.maxSize 2000
set_option linter.unusedVariables false
namespace Go.Proofs.YtdkabnfphmmmnaaGreatDoor
open Go.Am
def C5 (p : N0) (e : C0) : Option (Int × Int × Int) :=
  Nd p e >>= fun x1 =>
  if (x1.2 != 0) = true then
    some (0, 0, x1.2)
  else
    if (x1.1.Kind != 1) = true then
      some (0, 0, 9)
    else
      some (x1.1.Low, x1.1.High, 0)
theorem Ta {p e res} (hh : C5 p e = some res) : T0 C 19 [.agg (N0.cells p), .agg (C0.cells e)] [] (Ret [] (.tup [.d (.int .i64 res.1), .d (.int .i64 res.2.1), .d (.int .i64 res.2.2)])) := by
  unfold C5 at hh
  obtain ⟨x1, hx1, hh⟩ := bs' hh
  refine T0.intro hC Tryz.func19 rfl rfl rfl (s' rfl rfl (L0.n hC rfl (L0.n hC rfl (e' rfl (p' 2 rfl (c' (A15 hx1) rfl rfl (o' 3 rfl (L0.nf hC rfl (L0.s hC rfl (e' rfl (S' (t' rfl (ci' rfl hh (fun hh => ?_) (fun hh => ?_))))))))))))))
  · cases hh
    exact t' rfl (re' (rt' rfl rfl rfl))
  refine sk' (S' (t' rfl (ci' rfl hh (fun hh => ?_) (fun hh => ?_))))
  · cases hh
    exact t' rfl (re' (rt' rfl rfl rfl))
  cases hh
  exact sk' (S' (AEx.draw hC 7 rfl rfl rfl (E' rfl (n' (re' (rt' rfl rfl rfl))))))
def Vk (p : N0) : Option (Int × Int) :=
  X6 p >>= fun x1 =>
  if (x1.2 != 0) = true then
    some (0, x1.2)
  else
    Dc p >>= fun x2 =>
    some (x2.steps, 0)
theorem H16 {p res} (hh : Vk p = some res) : T0 C 21 [.agg (N0.cells p)] [] (Ret [] (.tup [.d (.int .i64 res.1), .d (.int .i64 res.2)])) := by
  unfold Vk at hh
  obtain ⟨x1, hx1, hh⟩ := bs' hh
  refine T0.intro hC Tryz.func21 rfl rfl rfl (s' rfl rfl (L0.n hC rfl (e' rfl (S' (p' 1 rfl (c' (Uk hx1) rfl rfl (e' rfl (t' rfl (ci' rfl hh (fun hh => ?_) (fun hh => ?_))))))))))
  · cases hh
    exact t' rfl (re' (rt' rfl rfl rfl))
  obtain ⟨x2, hx2, hh⟩ := bs' hh
  cases hh
  exact sk' (p' 1 rfl (c' (Lt hx2) rfl rfl (e' rfl (re' (rt' rfl rfl rfl)))))
def Hl : Option Bool :=
  Qk [120] >>= fun x1 =>
  Qk [112, 105, 110] >>= fun x2 =>
  Pm 2 >>= fun x3 =>
  Nb 10 [x2, x3] >>= fun x4 =>
  Pm 1 >>= fun x5 =>
  Nb 8 [x4, x5] >>= fun x6 =>
  Qk [120] >>= fun x7 =>
  Pm 3 >>= fun x8 =>
  Nb 13 [x7, x8] >>= fun x9 =>
  X6 (N0.mk [(E0.mk 1 [112, 105, 110] (A0.mk 1 0 9 0 [] [] []) 0 (C0.mk 0 0 [] []) [] [] []), (E0.mk 4 [120] (A0.mk 1 0 3 0 [] [] []) 0 (C0.mk 0 0 [] []) [] [] [])] [(F0.mk 0 x1 x6 [] [] 0 0 0 [] [] []), (F0.mk 3 (C0.mk 0 0 [] []) x9 [] [] 0 0 0 [] [] [])]) >>= fun x10 =>
  idx [(F0.mk 0 x1 x6 [] [] 0 0 0 [] [] []), (F0.mk 3 (C0.mk 0 0 [] []) x9 [] [] 0 0 0 [] [] [])] 0 >>= fun x11 =>
  C5 (N0.mk [(E0.mk 1 [112, 105, 110] (A0.mk 1 0 9 0 [] [] []) 0 (C0.mk 0 0 [] []) [] [] []), (E0.mk 4 [120] (A0.mk 1 0 3 0 [] [] []) 0 (C0.mk 0 0 [] []) [] [] [])] [(F0.mk 0 x1 x6 [] [] 0 0 0 [] [] []), (F0.mk 3 (C0.mk 0 0 [] []) x9 [] [] 0 0 0 [] [] [])]) x11.Value >>= fun x12 =>
  Vk (N0.mk [(E0.mk 1 [112, 105, 110] (A0.mk 1 0 9 0 [] [] []) 0 (C0.mk 0 0 [] []) [] [] []), (E0.mk 4 [120] (A0.mk 1 0 3 0 [] [] []) 0 (C0.mk 0 0 [] []) [] [] [])] [(F0.mk 0 x1 x6 [] [] 0 0 0 [] [] []), (F0.mk 3 (C0.mk 0 0 [] []) x9 [] [] 0 0 0 [] [] [])]) >>= fun x13 =>
  Qk [112, 105, 110] >>= fun x14 =>
  Pm 1 >>= fun x15 =>
  X6 (N0.mk [(E0.mk 1 [112, 105, 110] (A0.mk 1 0 9 0 [] [] []) 0 (C0.mk 0 0 [] []) [] [] []), (E0.mk 4 [120] (A0.mk 1 0 3 0 [] [] []) 0 (C0.mk 0 0 [] []) [] [] [])] [(F0.mk 0 x14 x15 [] [] 0 0 0 [] [] [])]) >>= fun x16 =>
  some (bif (bif (bif (bif (bif (bif (bif (bif (x10.1 == (-1)) then (x10.2 == 0) else false) then (x12.1 == 1) else false) then (x12.2.1 == 19) else false) then (x12.2.2 == 0) else false) then (x13.1 == 2) else false) then (x13.2 == 0) else false) then (x16.1 == (-1)) else false) then (x16.2 == 15) else false)
theorem O1c {res} (hh : Hl = some res) : T0 C 11 [] [] (Ret [] (.d (.bool res))) := by
  unfold Hl at hh
  obtain ⟨x1, hx1, hh⟩ := bs' hh
  obtain ⟨x2, hx2, hh⟩ := bs' hh
  obtain ⟨x3, hx3, hh⟩ := bs' hh
  obtain ⟨x4, hx4, hh⟩ := bs' hh
  obtain ⟨x5, hx5, hh⟩ := bs' hh
  obtain ⟨x6, hx6, hh⟩ := bs' hh
  obtain ⟨x7, hx7, hh⟩ := bs' hh
  obtain ⟨x8, hx8, hh⟩ := bs' hh
  obtain ⟨x9, hx9, hh⟩ := bs' hh
  obtain ⟨x10, hx10, hh⟩ := bs' hh
  obtain ⟨x11, hx11, hh⟩ := bs' hh
  obtain ⟨x12, hx12, hh⟩ := bs' hh
  obtain ⟨x13, hx13, hh⟩ := bs' hh
  obtain ⟨x14, hx14, hh⟩ := bs' hh
  obtain ⟨x15, hx15, hh⟩ := bs' hh
  obtain ⟨x16, hx16, hh⟩ := bs' hh
  cases hh
  refine T0.intro hC Tryz.func11 rfl rfl rfl (t' rfl (p' 4 rfl (L0.be hC rfl (E0.rows_map [(E0.mk 1 [112, 105, 110] (A0.mk 1 0 9 0 [] [] []) 0 (C0.mk 0 0 [] []) [] [] []), (E0.mk 4 [120] (A0.mk 1 0 3 0 [] [] []) 0 (C0.mk 0 0 [] []) [] [] [])]).symm (c' (Kr hx1) rfl rfl (c' (Kr hx2) rfl rfl (c' (Ct hx3) rfl rfl ?_))))))
  refine L0.be hC rfl (C0.rows_map [x2, x3]).symm (L0.cl rfl (Nh hx4) ⟨.rfl, ⟨.full, trivial⟩⟩ rfl (c' (Ct hx5) rfl rfl (L0.be hC rfl (C0.rows_map [x4, x5]).symm (L0.cl rfl (Nh hx6) ⟨.rfl, ⟨.full, trivial⟩⟩ rfl (q' rfl (c' (Kr hx7) rfl rfl (c' (Ct hx8) rfl rfl (L0.be hC rfl (C0.rows_map [x7, x8]).symm ?_))))))))
  refine L0.cl rfl (Nh hx9) ⟨.rfl, ⟨.full, trivial⟩⟩ rfl (q' rfl (L0.be hC rfl (F0.rows_map [(F0.mk 0 x1 x6 [] [] 0 0 0 [] [] []), (F0.mk 3 (C0.mk 0 0 [] []) x9 [] [] 0 0 0 [] [] [])]).symm (q' rfl (L0.nf hC rfl (L0.s hC rfl (n' (p' 1 rfl (L0.cl rfl (Uk hx10) ⟨(.aggL ⟨.full, ⟨.full, trivial⟩⟩), trivial⟩ rfl (e' rfl (S' (AEx.draw hC 14 rfl rfl rfl (O' 3 rfl ?_))))))))))))
  refine AQ.i hC rfl (C1 hx11) (F0.idx hx11) rfl (O' 2 rfl (AQ.cl rfl (Ta hx12) ⟨(.aggL ⟨.full, ⟨.full, trivial⟩⟩), ⟨.rfl, trivial⟩⟩ rfl (E' rfl (n' (p' 1 rfl (L0.cl rfl (H16 hx13) ⟨(.aggL ⟨.full, ⟨.full, trivial⟩⟩), trivial⟩ rfl (e' rfl (S' ?_))))))))
  refine AEx.drawL hC 8 [] [(7, 1)] [[.row [.full (E0.rows [(E0.mk 1 [112, 105, 110] (A0.mk 1 0 9 0 [] [] []) 0 (C0.mk 0 0 [] []) [] [] []), (E0.mk 4 [120] (A0.mk 1 0 3 0 [] [] []) 0 (C0.mk 0 0 [] []) [] [] [])]), .full (F0.rows [(F0.mk 0 x1 x6 [] [] 0 0 0 [] [] []), (F0.mk 3 (C0.mk 0 0 [] []) x9 [] [] 0 0 0 [] [] [])])] 25, .row [.full (E0.rows []), .full (F0.rows [])] 25]] rfl rfl rfl rfl rfl rfl rfl rfl rfl rfl ?_
  refine AS.q hC rfl rfl rfl rfl (AS.q hC rfl rfl rfl rfl (AS.c (Kr hx14) rfl rfl rfl rfl (AS.c (Ct hx15) rfl rfl rfl rfl (AS.q hC rfl rfl rfl rfl (AS.a rfl (fun H => AQ.be hC rfl (F0.rows_map [(F0.mk 0 x14 x15 [] [] 0 0 0 [] [] [])]).symm (AQ.nil rfl)) rfl rfl (AS.q hC rfl rfl rfl rfl (AS.n hC rfl rfl rfl rfl (AS.nil (L0.s hC rfl (n' (p' 1 rfl ?_)))))))))))
  refine L0.cl rfl (Uk hx16) ⟨(.aggL ⟨.full, ⟨.full, trivial⟩⟩), trivial⟩ rfl (e' rfl (sg' 35 rfl (G' 4 rfl (a1' rfl (pa' rfl (G' 2 rfl (a1' rfl (pa' rfl (G' 2 rfl (a1' rfl (pa' rfl (G' 2 rfl (a1' rfl ?_)))))))))))))
  refine pa' rfl (G' 2 rfl (a1' rfl (pa' rfl (G' 2 rfl (a1' rfl (pa' rfl (G' 2 rfl (a1' rfl (pa' rfl (G' 2 rfl (a1' rfl (pa' rfl (a0' rfl ?_)))))))))))))
  exact an' (n' (re' (rt' rfl rfl rfl)))
mutual
def Pb (t : A0) (left : Int) : Option Int :=
  Ec t (IntKind.i64.wrap ((IntKind.i64.wrap (left - 1)) - (IntKind.i64.wrap (Int.tdiv ((t.Name).length : Int) 16)))) 0
  partial_fixpoint
def Ec (t : A0) (left1 : Int) (i : Int) : Option Int :=
  if (bif (decide (i < ((t.Names).length : Int))) then (decide (left1 ≥ 0)) else false) = true then
    idx t.Names i >>= fun x1 =>
    Ec t (IntKind.i64.wrap ((IntKind.i64.wrap (left1 - 1)) - (IntKind.i64.wrap (Int.tdiv ((x1).length : Int) 16)))) (IntKind.i64.wrap (i + 1))
  else
    Fc t left1 0
  partial_fixpoint
def Fc (t : A0) (left2 : Int) (i1 : Int) : Option Int :=
  if (bif (decide (i1 < ((t.Of).length : Int))) then (decide (left2 ≥ 0)) else false) = true then
    idx t.Of i1 >>= fun x2 =>
    Pb x2 left2 >>= fun x3 =>
    Fc t x3 (IntKind.i64.wrap (i1 + 1))
  else
    some left2
  partial_fixpoint
end
abbrev Rz (t : A0) (left : Int) (res : Int) : Prop := T0 C 107 [.agg (A0.cells t), .d (.int .i64 left)] [] (Ret [] (.d (.int .i64 res)))
abbrev Gv (t : A0) (left1 : Int) (i : Int) (res : Int) : Prop := LM C 54 0 Tryz.f107 [1, 1, 0, 1, 4] [(1, .d (.int .i64 left1)), (2, .ref 0 0), (5, .d (.int .i64 i))] [.row (A0.cells t) 40] (Ret [] (.d (.int .i64 res)))
abbrev Hv (t : A0) (left2 : Int) (i1 : Int) (res : Int) : Prop := LM C 54 0 Tryz.f107 [1, 1, 1, 0, 1, 4] [(1, .d (.int .i64 left2)), (2, .ref 0 0), (6, .d (.int .i64 i1))] [.row (A0.cells t) 40] (Ret [] (.d (.int .i64 res)))
theorem Np : (∀ t left res, Pb t left = some res → Rz t left res) ∧ (∀ t left1 i res, Ec t left1 i = some res → Gv t left1 i res) ∧ (∀ t left2 i1 res, Fc t left2 i1 = some res → Hv t left2 i1 res) := by
  refine Pb.mutual_partial_correctness _ _ _ ?_ ?_ ?_
  · intro g1 ih1 t left res hh
    exact T0.intro hC Tryz.func107 rfl rfl rfl (s' rfl rfl (L0.n hC rfl (e' rfl (p' 5 rfl (qc' rfl (by decide) (e' rfl (S' (t' rfl (bk' (fw' (ih1 _ _ _ _ hh) rfl rfl rfl))))))))))
  · intro g1 g2 ih1 ih2 t left1 i res hh
    refine D2.unroll (S' (sg' 9 rfl (G' 3 rfl (AG.qe hC rfl (fun hg => ⟨trivial, trivial⟩) (estr.lenA _) (G' 3 rfl (a1' rfl (pa' rfl (an' (n' (ci' rfl hh (fun hh => ?_) (fun hh => ?_)))))))))))
    · obtain ⟨x1, hx1, hh⟩ := bs' hh
      exact sk' (S' (bk' (P' 5 rfl (i' rfl (C1 hx1) (estr.idx hx1) rfl (o' 2 rfl (qc' rfl (by decide) (e' rfl (T' rfl (lw' (ih1 _ _ _ _ hh) rfl rfl rfl)))))))))
    exact ex' (S' (t' rfl (bk' (fw' (ih2 _ _ _ _ hh) rfl rfl rfl))))
  · intro g0 g2 ih0 ih2 t left2 i1 res hh
    refine D2.unroll (S' (sg' 9 rfl (G' 3 rfl (AG.qe hC rfl (fun hg => ⟨trivial, trivial⟩) (A0.lenA _) (G' 3 rfl (a1' rfl (pa' rfl (an' (n' (ci' rfl hh (fun hh => ?_) (fun hh => ?_)))))))))))
    · obtain ⟨x2, hx2, hh⟩ := bs' hh
      obtain ⟨x3, hx3, hh⟩ := bs' hh
      exact sk' (S' (bk' (P' 3 rfl (i' rfl (C1 hx2) (A0.idx hx2) rfl (o' 2 rfl (c' (ih0 _ _ _ hx3) rfl rfl (e' rfl (T' rfl (lw' (ih2 _ _ _ _ hh) rfl rfl rfl)))))))))
    cases hh
    exact ex' (t' rfl (re' (rt' rfl rfl rfl)))
theorem S17 {t left res} (hh : Pb t left = some res) : Rz t left res := (Np).1 _ _ _ hh
theorem T1l {t left1 i res} (hh : Ec t left1 i = some res) : Gv t left1 i res := (Np).2.1 _ _ _ _ hh
theorem U1l {t left2 i1 res} (hh : Fc t left2 i1 = some res) : Hv t left2 i1 res := (Np).2.2 _ _ _ _ hh
mutual
def Y7 (e : C0) (left : Int) : Option Int :=
  Gc e (IntKind.i64.wrap ((IntKind.i64.wrap (left - 1)) - (IntKind.i64.wrap (Int.tdiv ((e.Name).length : Int) 16)))) 0
  partial_fixpoint
def Gc (e : C0) (left1 : Int) (i : Int) : Option Int :=
  if (bif (decide (i < ((e.Kids).length : Int))) then (decide (left1 ≥ 0)) else false) = true then
    idx e.Kids i >>= fun x1 =>
    Y7 x1 left1 >>= fun x2 =>
    Gc e x2 (IntKind.i64.wrap (i + 1))
  else
    some left1
  partial_fixpoint
end
abbrev Sz (e : C0) (left : Int) (res : Int) : Prop := T0 C 40 [.agg (C0.cells e), .d (.int .i64 left)] [] (Ret [] (.d (.int .i64 res)))
abbrev Iv (e : C0) (left1 : Int) (i : Int) (res : Int) : Prop := LM C 32 0 Tryz.f40 [1, 1, 0, 1, 4] [(1, .d (.int .i64 left1)), (2, .ref 0 0), (5, .d (.int .i64 i))] [.row (C0.cells e) 34] (Ret [] (.d (.int .i64 res)))
theorem Ax : (∀ e left res, Y7 e left = some res → Sz e left res) ∧ (∀ e left1 i res, Gc e left1 i = some res → Iv e left1 i res) := by
  refine Y7.mutual_partial_correctness _ _ ?_ ?_
  · intro g1 ih1 e left res hh
    exact T0.intro hC Tryz.func40 rfl rfl rfl (s' rfl rfl (L0.n hC rfl (e' rfl (p' 5 rfl (qc' rfl (by decide) (e' rfl (S' (t' rfl (bk' (fw' (ih1 _ _ _ _ hh) rfl rfl rfl))))))))))
  · intro g0 g1 ih0 ih1 e left1 i res hh
    refine D2.unroll (S' (sg' 9 rfl (G' 3 rfl (AG.qe hC rfl (fun hg => ⟨trivial, trivial⟩) (C0.lenA _) (G' 3 rfl (a1' rfl (pa' rfl (an' (n' (ci' rfl hh (fun hh => ?_) (fun hh => ?_)))))))))))
    · obtain ⟨x1, hx1, hh⟩ := bs' hh
      obtain ⟨x2, hx2, hh⟩ := bs' hh
      exact sk' (S' (bk' (P' 3 rfl (i' rfl (C1 hx1) (C0.idx hx1) rfl (o' 2 rfl (c' (ih0 _ _ _ hx2) rfl rfl (e' rfl (T' rfl (lw' (ih1 _ _ _ _ hh) rfl rfl rfl)))))))))
    cases hh
    exact ex' (t' rfl (re' (rt' rfl rfl rfl)))
theorem Uh {e left res} (hh : Y7 e left = some res) : Sz e left res := (Ax).1 _ _ _ hh
theorem V1l {e left1 i res} (hh : Gc e left1 i = some res) : Iv e left1 i res := (Ax).2 _ _ _ _ hh
mutual
def F8 (l : List F0) (left : Int) : Option Int :=
  L9 l left 0
  partial_fixpoint
def L9 (l : List F0) (left2 : Int) (i : Int) : Option Int :=
  if (bif (decide (i < ((l).length : Int))) then (decide (left2 ≥ 0)) else false) = true then
    idx l i >>= fun x1 =>
    Y7 x1.Place (IntKind.i64.wrap ((IntKind.i64.wrap (left2 - 1)) - (IntKind.i64.wrap (Int.tdiv ((x1.Name).length : Int) 16)))) >>= fun x2 =>
    Y7 x1.Value x2 >>= fun x3 =>
    Ua l x1 x3 i 0
  else
    some left2
  partial_fixpoint
def Ua (l : List F0) (x1 : F0) (left1 : Int) (i1 : Int) (k : Int) : Option Int :=
  if (bif (decide (k < ((x1.Args).length : Int))) then (decide (left1 ≥ 0)) else false) = true then
    idx x1.Args k >>= fun x4 =>
    Y7 x4 left1 >>= fun x5 =>
    Ua l x1 x5 i1 (IntKind.i64.wrap (k + 1))
  else
    if (decide (((x1.Numbers).length : Int) > 100)) = true then
      some (-1)
    else
      F8 x1.Then left1 >>= fun x6 =>
      F8 x1.Else x6 >>= fun x7 =>
      L9 l x7 (IntKind.i64.wrap (i1 + 1))
  partial_fixpoint
end
abbrev Ey (l : List F0) (left : Int) (res : Int) : Prop := T0 C 51 [.d (.sl (F0.rows l)), .d (.int .i64 left)] [] (Ret [] (.d (.int .i64 res)))
abbrev Pt (l : List F0) (left2 : Int) (i : Int) (res : Int) : Prop := LM C 68 0 Tryz.f51 [1, 0, 1, 4] [(0, .d (.sl (F0.rows l))), (1, .d (.int .i64 left2)), (5, .d (.int .i64 i))] [] (Ret [] (.d (.int .i64 res)))
abbrev Qt (l : List F0) (x1 : F0) (left1 : Int) (i1 : Int) (k : Int) (res : Int) : Prop := LM C 68 0 Tryz.f51 [1, 0, 1, 4, 5, 1, 0, 4, 1, 1, 1, 1, 0, 1, 4] [(0, .d (.sl (F0.rows l))), (1, .d (.int .i64 left1)), (5, .d (.int .i64 i1)), (6, .ref 0 0), (7, .d (.int .i64 k))] [.row (F0.cells x1) 53] (Ret [] (.d (.int .i64 res)))
theorem Yn : (∀ l left res, F8 l left = some res → Ey l left res) ∧ (∀ l left2 i res, L9 l left2 i = some res → Pt l left2 i res) ∧ (∀ l x1 left1 i1 k res, Ua l x1 left1 i1 k = some res → Qt l x1 left1 i1 k res) := by
  refine F8.mutual_partial_correctness _ _ _ ?_ ?_ ?_
  · intro g1 ih1 l left res hh
    exact T0.intro hC Tryz.func51 rfl rfl rfl (t' rfl (S' (t' rfl (bk' (fw' (ih1 _ _ _ _ hh) rfl rfl rfl)))))
  · intro g2 ih2 l left2 i res hh
    refine D2.unroll (S' (sg' 8 rfl (G' 2 rfl (AG.qe hC rfl (fun hg => ⟨trivial, trivial⟩) (F0.lenA _) (G' 3 rfl (a1' rfl (pa' rfl (an' (n' (ci' rfl hh (fun hh => ?_) (fun hh => ?_)))))))))))
    · obtain ⟨x1, hx1, hh⟩ := bs' hh
      obtain ⟨x2, hx2, hh⟩ := bs' hh
      obtain ⟨x3, hx3, hh⟩ := bs' hh
      refine sk' (S' (bk' (p' 2 rfl (i' rfl (C1 hx1) (F0.idx hx1) rfl (q' rfl (L0.nf hC rfl (L0.s hC rfl (n' (p' 5 rfl (qc' rfl (by decide) (e' rfl (p' 3 rfl (c' (Uh hx2) rfl rfl ?_)))))))))))))
      exact e' rfl (p' 3 rfl (c' (Uh hx3) rfl rfl (e' rfl (S' (t' rfl (bk' (fw' (ih2 _ _ _ _ _ _ hh) rfl rfl rfl)))))))
    cases hh
    exact ex' (t' rfl (re' (rt' rfl rfl rfl)))
  · intro g0 g1 g2 ih0 ih1 ih2 l x1 left1 i1 k res hh
    refine D2.unroll (S' (sg' 9 rfl (G' 3 rfl (AG.qe hC rfl (fun hg => ⟨trivial, trivial⟩) (C0.lenA _) (G' 3 rfl (a1' rfl (pa' rfl (an' (n' (ci' rfl hh (fun hh => ?_) (fun hh => ?_)))))))))))
    · obtain ⟨x4, hx4, hh⟩ := bs' hh
      obtain ⟨x5, hx5, hh⟩ := bs' hh
      exact sk' (S' (bk' (P' 3 rfl (i' rfl (C1 hx4) (C0.idx hx4) rfl (o' 2 rfl (c' (Uh hx5) rfl rfl (e' rfl (T' rfl (lw' (ih2 _ _ _ _ _ _ hh) rfl rfl rfl)))))))))
    refine ex' (S' (p' 2 rfl (qe' rfl trivial (ei64.lenA _) (e' rfl (ci' rfl hh (fun hh => ?_) (fun hh => ?_))))))
    · cases hh
      exact t' rfl (re' (rt' rfl rfl rfl))
    obtain ⟨x6, hx6, hh⟩ := bs' hh
    obtain ⟨x7, hx7, hh⟩ := bs' hh
    exact sk' (p' 3 rfl (c' (ih0 _ _ _ hx6) rfl rfl (e' rfl (P' 3 rfl (c' (ih0 _ _ _ hx7) rfl rfl (e' rfl (T' rfl (lw' (ih1 _ _ _ _ hh) rfl rfl rfl))))))))
theorem Bx {l left res} (hh : F8 l left = some res) : Ey l left res := (Yn).1 _ _ _ hh
theorem Y1j {l left2 i res} (hh : L9 l left2 i = some res) : Pt l left2 i res := (Yn).2.1 _ _ _ _ hh
theorem Z1j {l x1 left1 i1 k res} (hh : Ua l x1 left1 i1 k = some res) : Qt l x1 left1 i1 k res := (Yn).2.2 _ _ _ _ _ _ hh
mutual
def Lc (l : List E0) (left : Int) : Option Int :=
  Va l left 0
  partial_fixpoint
def Va (l : List E0) (left1 : Int) (i : Int) : Option Int :=
  if (bif (decide (i < ((l).length : Int))) then (decide (left1 ≥ 0)) else false) = true then
    idx l i >>= fun x1 =>
    Pb x1.TypeV (IntKind.i64.wrap ((IntKind.i64.wrap (left1 - 1)) - (IntKind.i64.wrap (Int.tdiv ((x1.Name).length : Int) 16)))) >>= fun x2 =>
    Y7 x1.Value x2 >>= fun x3 =>
    Lc x1.Params x3 >>= fun x4 =>
    Lc x1.Vars x4 >>= fun x5 =>
    F8 x1.Body x5 >>= fun x6 =>
    Va l x6 (IntKind.i64.wrap (i + 1))
  else
    some left1
  partial_fixpoint
end
abbrev Fy (l : List E0) (left : Int) (res : Int) : Prop := T0 C 52 [.d (.sl (E0.rows l)), .d (.int .i64 left)] [] (Ret [] (.d (.int .i64 res)))
abbrev Rt (l : List E0) (left1 : Int) (i : Int) (res : Int) : Prop := LM C 49 0 Tryz.f52 [1, 0, 1, 4] [(0, .d (.sl (E0.rows l))), (1, .d (.int .i64 left1)), (5, .d (.int .i64 i))] [] (Ret [] (.d (.int .i64 res)))
theorem Jv : (∀ l left res, Lc l left = some res → Fy l left res) ∧ (∀ l left1 i res, Va l left1 i = some res → Rt l left1 i res) := by
  refine Lc.mutual_partial_correctness _ _ ?_ ?_
  · intro g1 ih1 l left res hh
    exact T0.intro hC Tryz.func52 rfl rfl rfl (t' rfl (S' (t' rfl (bk' (fw' (ih1 _ _ _ _ hh) rfl rfl rfl)))))
  · intro g0 g1 ih0 ih1 l left1 i res hh
    refine D2.unroll (S' (sg' 8 rfl (G' 2 rfl (AG.qe hC rfl (fun hg => ⟨trivial, trivial⟩) (E0.lenA _) (G' 3 rfl (a1' rfl (pa' rfl (an' (n' (ci' rfl hh (fun hh => ?_) (fun hh => ?_)))))))))))
    · obtain ⟨x1, hx1, hh⟩ := bs' hh
      obtain ⟨x2, hx2, hh⟩ := bs' hh
      obtain ⟨x3, hx3, hh⟩ := bs' hh
      obtain ⟨x4, hx4, hh⟩ := bs' hh
      obtain ⟨x5, hx5, hh⟩ := bs' hh
      obtain ⟨x6, hx6, hh⟩ := bs' hh
      refine sk' (S' (bk' (p' 2 rfl (i' rfl (C1 hx1) (E0.idx hx1) rfl (q' rfl (L0.nf hC rfl (L0.s hC rfl (n' (p' 5 rfl (qc' rfl (by decide) (e' rfl (p' 3 rfl (c' (S17 hx2) rfl rfl ?_)))))))))))))
      exact e' rfl (p' 3 rfl (c' (Uh hx3) rfl rfl (e' rfl (p' 3 rfl (c' (ih0 _ _ _ hx4) rfl rfl (e' rfl (p' 3 rfl (c' (ih0 _ _ _ hx5) rfl rfl (e' rfl (P' 3 rfl (c' (Bx hx6) rfl rfl (e' rfl (T' rfl (lw' (ih1 _ _ _ _ hh) rfl rfl rfl))))))))))))))
    cases hh
    exact ex' (t' rfl (re' (rt' rfl rfl rfl)))
theorem I16 {l left res} (hh : Lc l left = some res) : Fy l left res := (Jv).1 _ _ _ hh
theorem A1k {l left1 i res} (hh : Va l left1 i = some res) : Rt l left1 i res := (Jv).2 _ _ _ _ hh
def Dx (p : N0) (most : Int) : Option Bool :=
  Lc p.Decls most >>= fun x1 =>
  F8 p.Body x1 >>= fun x2 =>
  some (decide (x2 ≥ 0))
theorem U1g {p most res} (hh : Dx p most = some res) : T0 C 27 [.agg (N0.cells p), .d (.int .i64 most)] [] (Ret [] (.d (.bool res))) := by
  unfold Dx at hh
  obtain ⟨x1, hx1, hh⟩ := bs' hh
  obtain ⟨x2, hx2, hh⟩ := bs' hh
  cases hh
  exact T0.intro hC Tryz.func27 rfl rfl rfl (s' rfl rfl (L0.n hC rfl (e' rfl (S' (AEx.draw hC 9 rfl rfl rfl (O' 5 rfl (Qc' (I16 hx1) rfl rfl (Qc' (Bx hx2) rfl rfl (E' rfl (n' (re' (rt' rfl rfl rfl))))))))))))
def Gx (p : N0) : Option Bool :=
  Dx p 300 >>= fun x1 =>
  some x1
theorem V1g {p res} (hh : Gx p = some res) : T0 C 12 [.agg (N0.cells p)] [] (Ret [] (.d (.bool res))) := by
  unfold Gx at hh
  obtain ⟨x1, hx1, hh⟩ := bs' hh
  cases hh
  exact T0.intro hC Tryz.func12 rfl rfl rfl (s' rfl rfl (L0.n hC rfl (e' rfl (p' 1 rfl (c' (U1g hx1) rfl rfl (e' rfl (re' (rt' rfl rfl rfl))))))))
def Sf (e : C0) (most : Int) : Option Bool :=
  Y7 e most >>= fun x1 =>
  some (decide (x1 ≥ 0))
theorem Tz {e most res} (hh : Sf e most = some res) : T0 C 15 [.agg (C0.cells e), .d (.int .i64 most)] [] (Ret [] (.d (.bool res))) := by
  unfold Sf at hh
  obtain ⟨x1, hx1, hh⟩ := bs' hh
  cases hh
  exact T0.intro hC Tryz.func15 rfl rfl rfl (s' rfl rfl (L0.n hC rfl (e' rfl (p' 2 rfl (c' (Uh hx1) rfl rfl (e' rfl (re' (rt' rfl rfl rfl))))))))
def Gi (p : N0) (a : C0) (b : C0) : Option Bool :=
  Hl >>= fun x1 =>
  if (!x1) = true then
    some false
  else
    Gx p >>= fun x2 =>
    (if (!(!x2)) = true then Sf a 60 else some default) >>= fun x3 =>
    (if (!(bif (!x2) then true else (!x3))) = true then Sf b 60 else some default) >>= fun x4 =>
    if (bif (bif (!x2) then true else (!x3)) then true else (!x4)) = true then
      some true
    else
      C5 p a >>= fun x5 =>
      C5 p b >>= fun x6 =>
      if (bif (x5.2.2 != 0) then true else (x6.2.2 != 0)) = true then
        some true
      else
        if (bif (bif (bif (bif (bif (decide (x5.1 > x5.2.1)) then true else (decide (x6.1 > x6.2.1))) then true else (decide (x5.1 < (-1048576)))) then true else (decide (x5.2.1 > 1048576))) then true else (decide (x6.1 < (-1048576)))) then true else (decide (x6.2.1 > 1048576))) = true then
          some false
        else
          Nb 8 [a, b] >>= fun x7 =>
          C5 p x7 >>= fun x8 =>
          if (bif (bif (x8.2.2 == 0) then (bif (x8.1 != (IntKind.i64.wrap (x5.1 + x6.1))) then true else (x8.2.1 != (IntKind.i64.wrap (x5.2.1 + x6.2.1)))) else false) then true else (bif (bif (x8.2.2 != 0) then (x8.2.2 != 3) else false) then (x8.2.2 != 4) else false)) = true then
            some false
          else
            Nb 9 [a, b] >>= fun x9 =>
            C5 p x9 >>= fun x10 =>
            if (bif (x10.2.2 == 0) then (bif (x10.1 != (IntKind.i64.wrap (x5.1 - x6.2.1))) then true else (x10.2.1 != (IntKind.i64.wrap (x5.2.1 - x6.1)))) else false) = true then
              some false
            else
              Nb 22 [a, b] >>= fun x11 =>
              C5 p x11 >>= fun x12 =>
              if (bif (x12.2.2 == 0) then (bif (x12.1 != (max x5.1 x6.1)) then true else (x12.2.1 != (max x5.2.1 x6.2.1))) else false) = true then
                some false
              else
                Nb 23 [(C0.mk 1 0 [] []), a, b] >>= fun x13 =>
                C5 p x13 >>= fun x14 =>
                some (bif (x14.2.2 != 0) then true else (bif (x14.1 == (min x5.1 x6.1)) then (x14.2.1 == (max x5.2.1 x6.2.1)) else false))
theorem B10 {p a b res} (hh : Gi p a b = some res) : T0 C 9 [.agg (N0.cells p), .agg (C0.cells a), .agg (C0.cells b)] [] (Ret [] (.d (.bool res))) := by
  unfold Gi at hh
  obtain ⟨x1, hx1, hh⟩ := bs' hh
  refine T0.intro hC Tryz.func9 rfl rfl rfl (s' rfl rfl (L0.n hC rfl (L0.n hC rfl (L0.n hC rfl (e' rfl (S' (s' rfl rfl (c' (O1c hx1) rfl rfl (e' rfl (ci' rfl hh (fun hh => ?_) (fun hh => ?_)))))))))))
  · cases hh
    exact t' rfl (re' (rt' rfl rfl rfl))
  obtain ⟨x2, hx2, hh⟩ := bs' hh
  obtain ⟨x3, hx3, hh⟩ := bs' hh
  obtain ⟨x4, hx4, hh⟩ := bs' hh
  refine sk' (S' (sg' 13 rfl (a0' rfl (AG.c rfl rfl (fun _ => trivial) (fun _ => V1g hx2) (G' 3 rfl (AG.c rfl rfl (fun hg => ⟨hg, trivial⟩) (fun hw => Tz (Jd hw hx3)) (a1' rfl (po' rfl (G' 2 rfl (AG.c rfl rfl (fun hg => ⟨hg, trivial⟩) (fun hw => Tz (Jd hw hx4)) (a1' rfl (po' rfl (an' ?_)))))))))))))
  refine n' (ci' rfl hh (fun hh => ?_) (fun hh => ?_))
  · cases hh
    exact t' rfl (re' (rt' rfl rfl rfl))
  obtain ⟨x5, hx5, hh⟩ := bs' hh
  obtain ⟨x6, hx6, hh⟩ := bs' hh
  refine sk' (p' 2 rfl (c' (Ta hx5) rfl rfl (e' rfl (p' 2 rfl (c' (Ta hx6) rfl rfl (e' rfl (S' (sg' 6 rfl (G' 4 rfl (a1' rfl (po' rfl (an' (n' (ci' rfl hh (fun hh => ?_) (fun hh => ?_)))))))))))))))
  · cases hh
    exact t' rfl (re' (rt' rfl rfl rfl))
  refine sk' (S' (sg' 24 rfl (G' 6 rfl (a2' rfl (po' rfl (G' 2 rfl (a1' rfl (po' rfl (G' 2 rfl (a1' rfl (po' rfl (G' 2 rfl (a1' rfl ?_)))))))))))))
  refine po' rfl (G' 2 rfl (a1' rfl (po' rfl (an' (n' (ci' rfl hh (fun hh => ?_) (fun hh => ?_)))))))
  · cases hh
    exact t' rfl (re' (rt' rfl rfl rfl))
  obtain ⟨x7, hx7, hh⟩ := bs' hh
  obtain ⟨x8, hx8, hh⟩ := bs' hh
  refine sk' (S' (AEx.draw hC 13 rfl rfl rfl (O' 3 rfl (AQ.be hC rfl (C0.rows_map [a, b]).symm (AQ.cl rfl (Nh hx7) ⟨.rfl, ⟨.full, trivial⟩⟩ rfl (Qc' (Ta hx8) rfl rfl (E' rfl (n' (S' (sg' 28 rfl (G' 6 rfl (a2' rfl (a2' rfl ?_)))))))))))))
  refine a1' rfl (G' 3 rfl (a2' rfl (a2' rfl (pO' rfl (pa' rfl (G' 2 rfl (a1' rfl (a1' rfl (a0' rfl (a1' rfl (pA' rfl (a1' rfl (a0' rfl ?_)))))))))))))
  refine a1' rfl (pA' rfl (po' rfl (an' (n' (ci' rfl hh (fun hh => ?_) (fun hh => ?_))))))
  · cases hh
    exact t' rfl (re' (rt' rfl rfl rfl))
  obtain ⟨x9, hx9, hh⟩ := bs' hh
  obtain ⟨x10, hx10, hh⟩ := bs' hh
  refine sk' (S' (AEx.draw hC 13 rfl rfl rfl (O' 3 rfl (AQ.be hC rfl (C0.rows_map [a, b]).symm (AQ.cl rfl (Nh hx9) ⟨.rfl, ⟨.full, trivial⟩⟩ rfl (Qc' (Ta hx10) rfl rfl (E' rfl (n' (S' (sg' 16 rfl (G' 6 rfl (a2' rfl (a2' rfl ?_)))))))))))))
  refine a1' rfl (G' 3 rfl (a2' rfl (a2' rfl (pO' rfl (pa' rfl (an' (n' (ci' rfl hh (fun hh => ?_) (fun hh => ?_)))))))))
  · cases hh
    exact t' rfl (re' (rt' rfl rfl rfl))
  obtain ⟨x11, hx11, hh⟩ := bs' hh
  obtain ⟨x12, hx12, hh⟩ := bs' hh
  refine sk' (S' (AEx.draw hC 13 rfl rfl rfl (O' 3 rfl (AQ.be hC rfl (C0.rows_map [a, b]).symm (AQ.cl rfl (Nh hx11) ⟨.rfl, ⟨.full, trivial⟩⟩ rfl (Qc' (Ta hx12) rfl rfl (E' rfl (n' (S' (sg' 16 rfl (G' 6 rfl (a2' rfl (a2' rfl ?_)))))))))))))
  refine a1' rfl (G' 3 rfl (a2' rfl (a2' rfl (pO' rfl (pa' rfl (an' (n' (ci' rfl hh (fun hh => ?_) (fun hh => ?_)))))))))
  · cases hh
    exact t' rfl (re' (rt' rfl rfl rfl))
  obtain ⟨x13, hx13, hh⟩ := bs' hh
  obtain ⟨x14, hx14, hh⟩ := bs' hh
  cases hh
  refine sk' (S' (AEx.draw hC 14 rfl rfl rfl (O' 4 rfl (AQ.be hC rfl (C0.rows_map [(C0.mk 1 0 [] []), a, b]).symm (AQ.cl rfl (Nh hx13) ⟨.rfl, ⟨.full, trivial⟩⟩ rfl (Qc' (Ta hx14) rfl rfl (E' rfl (n' (sg' 17 rfl (G' 6 rfl (a2' rfl (a2' rfl (a1' rfl ?_)))))))))))))
  exact G' 3 rfl (a2' rfl (a2' rfl (pA' rfl (po' rfl (a0' rfl (an' (n' (re' (rt' rfl rfl rfl)))))))))
end Go.Proofs.YtdkabnfphmmmnaaGreatDoor

