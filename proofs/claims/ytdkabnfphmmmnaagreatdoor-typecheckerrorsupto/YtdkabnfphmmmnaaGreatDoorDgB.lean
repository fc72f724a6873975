/- A part of the proof of TypecheckErrors. -/
import Derived.Test.YtdkabnfphmmmnaaGreatDoorDgA
set_option maxRecDepth 100000
set_option maxHeartbeats 4000000
set_option synthInstance.maxSize 2000
set_option linter.unusedVariables false
namespace Go.Proofs.YtdkabnfphmmmnaaGreatDoor
open Go.Am
def A9 (c : F0) (s : Option J0) (x : D0) : Option Int :=
  Ya s x.Place >>= fun x1 =>
  if (x1.2 != 0) = true then
    some x1.2
  else
    H7 c 6 x.Name c.atV >>= fun x2 =>
    if (decide (x2 < 0)) = true then
      some 7
    else
      idx c.p.Decls x2 >>= fun x3 =>
      if (((x.Args).length : Int) != ((x3.Params).length : Int)) = true then
        some 2
      else
        K3 c s x x1 x3 x2 0
theorem X1b {c s x res} (hh : A9 c s x = some res) : S0 C 114 [.d (.box (F0.row c)), .d (.bxo (J0.opt s)), .agg (D0.cells x)] [] (Ret [] (.d (.int .i64 res))) := by
  unfold A9 at hh
  obtain ⟨x1, hx1, hh⟩ := bs' hh
  refine S0.intro hC Tryz.func114 rfl rfl rfl (s' rfl rfl (I0.n hC rfl (e' rfl (p' 3 rfl (c' (Su hx1) rfl rfl (o' 3 rfl (I0.nf hC rfl (I0.s hC rfl (e' rfl (S' (t' rfl (ci' rfl hh (fun hh => ?_) (fun hh => ?_)))))))))))))
  · cases hh
    exact t' rfl (re' (rt' rfl rfl rfl))
  obtain ⟨x2, hx2, hh⟩ := bs' hh
  refine sk' (S' (AEx.draw hC 9 rfl rfl rfl (O' 7 rfl (Qc' (Hv hx2) rfl rfl (E' rfl (n' (S' (t' rfl (ci' rfl hh (fun hh => ?_) (fun hh => ?_))))))))))
  · cases hh
    exact t' rfl (re' (rt' rfl rfl rfl))
  obtain ⟨x3, hx3, hh⟩ := bs' hh
  refine sk' (p' 6 rfl (i' rfl (W0 hx3) (B0.idx hx3) rfl (q' rfl (I0.nf hC rfl (I0.s hC rfl (n' (S' (p' 2 rfl (qe' rfl trivial (C0.lenA _) (o' 2 rfl (qe' rfl trivial (B0.lenA _) (e' rfl (ci' rfl hh (fun hh => ?_) (fun hh => ?_))))))))))))))
  · cases hh
    exact t' rfl (re' (rt' rfl rfl rfl))
  refine sk' (S' (p' 2 rfl (qe' rfl trivial (C0.lenA _) (e' rfl (bk' ?_)))))
  refine AEx.ofLoop ?_
  refine Z0.wk ?_ (Q16 hh)
  exact ⟨⟨⟨.rfl, rfl⟩, ⟨⟨.rfl, rfl⟩, ⟨⟨.rfl, rfl⟩, ⟨⟨.rfl, rfl⟩, ⟨⟨.rfl, rfl⟩, ⟨⟨.rfl, rfl⟩, ⟨⟨.rfl, rfl⟩, ⟨⟨.rfl, rfl⟩, trivial⟩⟩⟩⟩⟩⟩⟩⟩, ⟨trivial, ⟨⟨rfl, .refl _, rfl⟩, ⟨⟨rfl, .refl _, rfl⟩, trivial⟩⟩⟩, rfl⟩
def D7 (c : F0) (s : Option J0) (x : D0) : Option Int :=
  Ya s x.Place >>= fun x1 =>
  if (x1.2 != 0) = true then
    some x1.2
  else
    if c.localV = true then
      some 15
    else
      H7 c 5 x.Name c.atV >>= fun x2 =>
      if (decide (x2 < 0)) = true then
        some 7
      else
        idx c.p.Decls x2 >>= fun x3 =>
        C3 c x3.TypeV x2 >>= fun x4 =>
        C7 x4 x1.1 false >>= fun x5 =>
        if (!x5) = true then
          some 9
        else
          some 0
theorem R16 {c s x res} (hh : D7 c s x = some res) : S0 C 115 [.d (.box (F0.row c)), .d (.bxo (J0.opt s)), .agg (D0.cells x)] [] (Ret [] (.d (.int .i64 res))) := by
  unfold D7 at hh
  obtain ⟨x1, hx1, hh⟩ := bs' hh
  refine S0.intro hC Tryz.func115 rfl rfl rfl (s' rfl rfl (I0.n hC rfl (e' rfl (p' 3 rfl (c' (Su hx1) rfl rfl (o' 3 rfl (I0.nf hC rfl (I0.s hC rfl (e' rfl (S' (t' rfl (ci' rfl hh (fun hh => ?_) (fun hh => ?_)))))))))))))
  · cases hh
    exact t' rfl (re' (rt' rfl rfl rfl))
  refine sk' (S' (t' rfl (ci' rfl hh (fun hh => ?_) (fun hh => ?_))))
  · cases hh
    exact t' rfl (re' (rt' rfl rfl rfl))
  obtain ⟨x2, hx2, hh⟩ := bs' hh
  refine sk' (S' (AEx.draw hC 9 rfl rfl rfl (O' 7 rfl (Qc' (Hv hx2) rfl rfl (E' rfl (n' (S' (t' rfl (ci' rfl hh (fun hh => ?_) (fun hh => ?_))))))))))
  · cases hh
    exact t' rfl (re' (rt' rfl rfl rfl))
  obtain ⟨x3, hx3, hh⟩ := bs' hh
  obtain ⟨x4, hx4, hh⟩ := bs' hh
  obtain ⟨x5, hx5, hh⟩ := bs' hh
  refine sk' (S' (S' (AEx.draw hC 15 rfl rfl rfl (O' 7 rfl (AQ.i hC rfl (W0 hx3) (B0.idx hx3) rfl (O' 3 rfl (Qc' (F9 hx4) rfl rfl (Q' rfl (Qc' (Cp hx5) rfl rfl (E' rfl (n' (ci' rfl hh (fun hh => ?_) (fun hh => ?_)))))))))))))
  · cases hh
    exact t' rfl (re' (rt' rfl rfl rfl))
  cases hh
  exact sk' (t' rfl (re' (rt' rfl rfl rfl)))
def L9 (s : Option J0) (e : C0) : Option Int :=
  G4 s e >>= fun x1 =>
  if (bif (x1.2 == 0) then (x1.1.Kind != 0) else false) = true then
    some 9
  else
    some x1.2
theorem Jz {s e res} (hh : L9 s e = some res) : S0 C 116 [.d (.bxo (J0.opt s)), .agg (C0.cells e)] [] (Ret [] (.d (.int .i64 res))) := by
  unfold L9 at hh
  obtain ⟨x1, hx1, hh⟩ := bs' hh
  refine S0.intro hC Tryz.func116 rfl rfl rfl (s' rfl rfl (I0.n hC rfl (e' rfl (p' 2 rfl (c' (N1 hx1) rfl rfl (o' 3 rfl (I0.nf hC rfl (I0.s hC rfl (e' rfl (S' (sg' 7 rfl (G' 4 rfl (a1' rfl ?_)))))))))))))
  refine a1' rfl (pa' rfl (an' (n' (ci' rfl hh (fun hh => ?_) (fun hh => ?_)))))
  · cases hh
    exact T' rfl (t' rfl (re' (rt' rfl rfl rfl)))
  cases hh
  exact sk' (t' rfl (re' (rt' rfl rfl rfl)))
def Uf (s : Option J0) (name : Str) : Option Bool :=
  Y5 s name >>= fun x1 =>
  some x1.2
theorem S1g {s name res} (hh : Uf s name = some res) : S0 C 184 [.d (.bxo (J0.opt s)), .d (.str name)] [] (Ret [] (.d (.bool res))) := by
  unfold Uf at hh
  obtain ⟨x1, hx1, hh⟩ := bs' hh
  cases hh
  exact S0.intro hC Tryz.func184 rfl rfl rfl (t' rfl (p' 2 rfl (c' (Tm hx1) rfl rfl (o' 3 rfl (I0.nf hC rfl (I0.s hC rfl (e' rfl (t' rfl (re' (rt' rfl rfl rfl))))))))))
mutual
def D2 (c : F0) (s : Option J0) (l : List D0) (top : Bool) : Option Int :=
  U3 c s l top 0
  partial_fixpoint
def U3 (c : F0) (s : Option J0) (l : List D0) (top : Bool) (v14 : Int) : Option Int :=
  if (decide (v14 < ((l).length : Int))) = true then
    idx l v14 >>= fun x1 =>
    E3 c s x1 (bif top then (v14 == (IntKind.i64.wrap (((l).length : Int) - 1))) else false) >>= fun x2 =>
    if (x2 != 0) = true then
      some x2
    else
      U3 c s l top (IntKind.i64.wrap (v14 + 1))
  else
    some 0
  partial_fixpoint
def E3 (c : F0) (s : Option J0) (x : D0) (last : Bool) : Option Int :=
  if (x.Verb == 0) = true then
    Ya s x.Place >>= fun x1 =>
    if (x1.2 != 0) = true then
      some x1.2
    else
      Da s x.Value x1.1 >>= fun x2 =>
      some x2
  else
    if (x.Verb == 1) = true then
      A9 c s x >>= fun x3 =>
      some x3
    else
      if (x.Verb == 2) = true then
        D7 c s x >>= fun x4 =>
        some x4
      else
        if (x.Verb == 3) = true then
          G4 s x.Value >>= fun x5 =>
          (if (x5.2 == 0) = true then P7 x5.1 else some default) >>= fun x6 =>
          if (bif (x5.2 == 0) then (!x6) else false) = true then
            some 9
          else
            some x5.2
        else
          if (x.Verb == 5) = true then
            L9 s x.Value >>= fun x7 =>
            if (x7 != 0) = true then
              some x7
            else
              D2 c s x.Then false >>= fun x10 =>
              if (x10 != 0) = true then
                some x10
              else
                D2 c s x.Else false >>= fun x11 =>
                some x11
          else
            if (x.Verb == 6) = true then
              L9 s x.Value >>= fun x8 =>
              if (x8 != 0) = true then
                some x8
              else
                D2 c s x.Then false >>= fun x12 =>
                some x12
            else
              if (x.Verb == 7) = true then
                B9 c s x >>= fun x9 =>
                some x9
              else
                if (x.Verb == 8) = true then
                  if (!last) = true then
                    some 15
                  else
                    some 0
                else
                  some 0
  partial_fixpoint
def B9 (c : F0) (s : Option J0) (x : D0) : Option Int :=
  some (mgt x.Name c.names) >>= fun x1 =>
  (if (!(x1.getD ebool.zero)) = true then Uf s x.Name else some default) >>= fun x2 =>
  if (bif (x1.getD ebool.zero) then true else x2) = true then
    some 8
  else
    B5 s >>= fun x3 =>
    G3 x.Low x.High >>= fun x4 =>
    some (some (J0.mk x3.2 (mpt x.Name (L0.mk x4 true) x3.1))) >>= fun x5 =>
    D2 c x5 x.Then false >>= fun x6 =>
    some x6
  partial_fixpoint
end
abbrev Iv (c : F0) (s : Option J0) (l : List D0) (top : Bool) (res : Int) : Prop := S0 C 31 [.d (.box (F0.row c)), .d (.bxo (J0.opt s)), .d (.sl (D0.rows l)), .d (.bool top)] [] (Ret [] (.d (.int .i64 res)))
abbrev Vr (c : F0) (s : Option J0) (l : List D0) (top : Bool) (v14 : Int) (res : Int) : Prop := LM C 35 0 Tryz.f31 [1, 0, 1, 4] [(0, .d (.box (F0.row c))), (1, .d (.bxo (J0.opt s))), (2, .d (.sl (D0.rows l))), (3, .d (.bool top)), (12, .d (.sl (D0.rows l))), (13, .d (.int .i64 ((l).length : Int))), (14, .d (.int .i64 v14))] [] (Ret [] (.d (.int .i64 res)))
abbrev Pw (c : F0) (s : Option J0) (x : D0) (last : Bool) (res : Int) : Prop := S0 C 59 [.d (.box (F0.row c)), .d (.bxo (J0.opt s)), .agg (D0.cells x), .d (.bool last)] [] (Ret [] (.d (.int .i64 res)))
abbrev Rw (c : F0) (s : Option J0) (x : D0) (res : Int) : Prop := S0 C 117 [.d (.box (F0.row c)), .d (.bxo (J0.opt s)), .agg (D0.cells x)] [] (Ret [] (.d (.int .i64 res)))
theorem Gf (c : F0) : (∀ s l top res, D2 c s l top = some res → Iv c s l top res) ∧ (∀ s l top v14 res, U3 c s l top v14 = some res → Vr c s l top v14 res) ∧ (∀ s x last res, E3 c s x last = some res → Pw c s x last res) ∧ (∀ s x res, B9 c s x = some res → Rw c s x res) := by
  refine D2.mutual_partial_correctness c _ _ _ _ ?_ ?_ ?_ ?_
  · intro g1 ih1 s l top res hh
    exact S0.intro hC Tryz.func31 rfl rfl rfl (t' rfl (S' (p' 1 rfl (qe' rfl trivial (D0.lenA _) (e' rfl (bk' (fw' (ih1 _ _ _ _ _ hh) rfl rfl rfl)))))))
  · intro g1 g2 ih1 ih2 s l top v14 res hh
    refine Z0.unroll (t' rfl (S' (ci' rfl hh (fun hh => ?_) (fun hh => ?_))))
    · obtain ⟨x1, hx1, hh⟩ := bs' hh
      obtain ⟨x2, hx2, hh⟩ := bs' hh
      refine sk' (S' (bk' (p' 1 rfl (i' rfl (W0 hx1) (D0.idx hx1) rfl (q' rfl (I0.nf hC rfl (q' rfl (I0.s hC rfl (n' (sg' 13 rfl (G' 7 rfl (AG.qe hC rfl (fun hg => ⟨⟨hg, trivial⟩, trivial⟩) (D0.lenA _) (a1' rfl ?_)))))))))))))
      refine a2' rfl (pa' rfl (AG.c rfl rfl (fun _ => trivial) (fun _ => ih2 _ _ _ _ hx2) (a0' rfl (an' (n' (t' rfl (ci' rfl hh (fun hh => ?_) (fun hh => ?_))))))))
      · cases hh
        exact t' rfl (re' (rt' rfl rfl rfl))
      exact sk' (T' rfl (lw' (ih1 _ _ _ _ _ hh) rfl rfl rfl))
    cases hh
    exact ex' (t' rfl (re' (rt' rfl rfl rfl)))
  · intro g0 g3 ih0 ih3 s x last res hh
    refine S0.intro hC Tryz.func59 rfl rfl rfl (s' rfl rfl (I0.n hC rfl (e' rfl (S' (t' rfl (bk' (t' rfl (ci' rfl hh (fun hh => ?_) (fun hh => ?_)))))))))
    · obtain ⟨x1, hx1, hh⟩ := bs' hh
      refine p' 3 rfl (c' (Su hx1) rfl rfl (o' 3 rfl (I0.nf hC rfl (I0.s hC rfl (e' rfl (S' (t' rfl (ci' rfl hh (fun hh => ?_) (fun hh => ?_)))))))))
      · cases hh
        exact t' rfl (re' (rt' rfl rfl rfl))
      obtain ⟨x2, hx2, hh⟩ := bs' hh
      cases hh
      exact sk' (p' 4 rfl (c' (Vp hx2) rfl rfl (e' rfl (re' (rt' rfl rfl rfl)))))
    refine t' rfl (ci' rfl hh (fun hh => ?_) (fun hh => ?_))
    · obtain ⟨x3, hx3, hh⟩ := bs' hh
      cases hh
      exact p' 3 rfl (c' (X1b hx3) rfl rfl (e' rfl (re' (rt' rfl rfl rfl))))
    refine t' rfl (ci' rfl hh (fun hh => ?_) (fun hh => ?_))
    · obtain ⟨x4, hx4, hh⟩ := bs' hh
      cases hh
      exact p' 3 rfl (c' (R16 hx4) rfl rfl (e' rfl (re' (rt' rfl rfl rfl))))
    refine t' rfl (ci' rfl hh (fun hh => ?_) (fun hh => ?_))
    · obtain ⟨x5, hx5, hh⟩ := bs' hh
      obtain ⟨x6, hx6, hh⟩ := bs' hh
      refine p' 3 rfl (c' (N1 hx5) rfl rfl (o' 3 rfl (I0.nf hC rfl (I0.s hC rfl (e' rfl (S' (sg' 7 rfl (G' 4 rfl (AG.c rfl rfl (fun hg => ⟨hg, trivial⟩) (fun hw => Qo (T1 hw hx6)) (a1' rfl (pa' rfl (an' (n' (ci' rfl hh (fun hh => ?_) (fun hh => ?_)))))))))))))))
      · cases hh
        exact T' rfl (t' rfl (re' (rt' rfl rfl rfl)))
      cases hh
      exact sk' (t' rfl (re' (rt' rfl rfl rfl)))
    refine t' rfl (ci' rfl hh (fun hh => ?_) (fun hh => ?_))
    · obtain ⟨x7, hx7, hh⟩ := bs' hh
      refine S' (p' 3 rfl (c' (Jz hx7) rfl rfl (e' rfl (t' rfl (ci' rfl hh (fun hh => ?_) (fun hh => ?_))))))
      · cases hh
        exact t' rfl (re' (rt' rfl rfl rfl))
      obtain ⟨x10, hx10, hh⟩ := bs' hh
      refine sk' (S' (p' 4 rfl (c' (ih0 _ _ _ _ hx10) rfl rfl (e' rfl (t' rfl (ci' rfl hh (fun hh => ?_) (fun hh => ?_)))))))
      · cases hh
        exact t' rfl (re' (rt' rfl rfl rfl))
      obtain ⟨x11, hx11, hh⟩ := bs' hh
      cases hh
      exact sk' (p' 4 rfl (c' (ih0 _ _ _ _ hx11) rfl rfl (e' rfl (re' (rt' rfl rfl rfl)))))
    refine t' rfl (ci' rfl hh (fun hh => ?_) (fun hh => ?_))
    · obtain ⟨x8, hx8, hh⟩ := bs' hh
      refine S' (p' 3 rfl (c' (Jz hx8) rfl rfl (e' rfl (t' rfl (ci' rfl hh (fun hh => ?_) (fun hh => ?_))))))
      · cases hh
        exact t' rfl (re' (rt' rfl rfl rfl))
      obtain ⟨x12, hx12, hh⟩ := bs' hh
      cases hh
      exact sk' (p' 4 rfl (c' (ih0 _ _ _ _ hx12) rfl rfl (e' rfl (re' (rt' rfl rfl rfl)))))
    refine t' rfl (ci' rfl hh (fun hh => ?_) (fun hh => ?_))
    · obtain ⟨x9, hx9, hh⟩ := bs' hh
      cases hh
      exact p' 3 rfl (c' (ih3 _ _ _ hx9) rfl rfl (e' rfl (re' (rt' rfl rfl rfl))))
    refine t' rfl (ci' rfl hh (fun hh => ?_) (fun hh => ?_))
    · refine t' rfl (ci' rfl hh (fun hh => ?_) (fun hh => ?_))
      · cases hh
        exact t' rfl (re' (rt' rfl rfl rfl))
      cases hh
      exact sk' (t' rfl (re' (rt' rfl rfl rfl)))
    cases hh
    exact sk' (t' rfl (re' (rt' rfl rfl rfl)))
  · intro g0 ih0 s x res hh
    obtain ⟨x1, hx1, hh⟩ := bs' hh
    obtain ⟨x2, hx2, hh⟩ := bs' hh
    refine S0.intro hC Tryz.func117 rfl rfl rfl (s' rfl rfl (I0.n hC rfl (e' rfl (S' (S' (AEx.drawG hC 13 rfl rfl rfl (G' 6 rfl (AG.fl hC rfl rfl (fun _ => trivial) (fun _ => rfl) (ebool.lk hx1) (G' 3 rfl (a1' rfl (AG.c rfl rfl (fun hg => ⟨hg, hg, trivial⟩) (fun hw => S1g (T1 hw hx2)) (po' rfl (an' ?_)))))))))))))
    refine n' (ci' rfl hh (fun hh => ?_) (fun hh => ?_))
    · cases hh
      exact t' rfl (re' (rt' rfl rfl rfl))
    obtain ⟨x3, hx3, hh⟩ := bs' hh
    obtain ⟨x4, hx4, hh⟩ := bs' hh
    obtain ⟨x5, hx5, hh⟩ := bs' hh
    obtain ⟨x6, hx6, hh⟩ := bs' hh
    refine sk' (p' 1 rfl (g' [] (Sm hx3) rfl rfl rfl rfl rfl rfl (e' rfl (S' (AEx.draw hC 12 rfl rfl rfl (O' 10 rfl (Qc' (U4 hx4) rfl rfl (E' rfl (I0.ue hC rfl (L0.mput _ (L0.mk x4 true) _) rfl (n' (p' 4 rfl (I0.fm 1 rfl rfl (I0.bx 2 (y := .bxo (J0.opt x5)) (by cases hx5; exact .inr rfl) rfl rfl rfl ?_)))))))))))))
    refine c' (ih0 _ _ _ _ hx6) rfl rfl (e' rfl ?_)
    cases hh
    exact re' (rt' rfl rfl rfl)
theorem Bu {c s l top res} (hh : D2 c s l top = some res) : Iv c s l top res := (Gf c).1 _ _ _ _ hh
theorem A1w {c s l top v14 res} (hh : U3 c s l top v14 = some res) : Vr c s l top v14 res := (Gf c).2.1 _ _ _ _ _ hh
theorem O20 {c s x last res} (hh : E3 c s x last = some res) : Pw c s x last res := (Gf c).2.2.1 _ _ _ _ hh
theorem P20 {c s x res} (hh : B9 c s x = some res) : Rw c s x res := (Gf c).2.2.2 _ _ _ hh
mutual
def Z1 (c : F0) (i : Int) (result : A0) (x1 : B0) (m21 : List (Str × L0)) (x2 : List (Str × L0) × Option J0) (v34 : Int) : Option Int :=
  if (decide (v34 < (([x1.Params, x1.Vars]).length : Int))) = true then
    idx [x1.Params, x1.Vars] v34 >>= fun x3 =>
    A3 c i result x1 m21 x2 v34 x3 0
  else
    some (F0.mk c.p i true c.names) >>= fun x4 =>
    some (some (J0.mk x2.2 m21)) >>= fun x5 =>
    D2 x4 x5 x1.Body false >>= fun x6 =>
    if (x6 != 0) = true then
      some x6
    else
      Da x5 x1.Value result >>= fun x7 =>
      some x7
  partial_fixpoint
def A3 (c : F0) (i : Int) (result : A0) (x1 : B0) (m2 : List (Str × L0)) (x2 : List (Str × L0) × Option J0) (v341 : Int) (x3 : List B0) (v40 : Int) : Option Int :=
  if (decide (v40 < ((x3).length : Int))) = true then
    idx x3 v40 >>= fun x8 =>
    D5 c x8.TypeV i >>= fun x9 =>
    if (x9.2 != 0) = true then
      some x9.2
    else
      A3 c i result x1 (mpt x8.Name (L0.mk x9.1 false) m2) x2 v341 x3 (IntKind.i64.wrap (v40 + 1))
  else
    Z1 c i result x1 m2 x2 (IntKind.i64.wrap (v341 + 1))
  partial_fixpoint
end
abbrev Xo (c : F0) (i : Int) (result : A0) (x1 : B0) (m21 : List (Str × L0)) (x2 : List (Str × L0) × Option J0) (v34 : Int) (res : Int) : Prop := LM C 83 0 Tryz.f58 [1, 1, 1, 1, 0, 1, 4] [(0, .d (.box (F0.row c))), (1, .d (.int .i64 i)), (5, .ref 0 0), (7, .ref 1 0), (9, .ref 3 0), (32, .full (esl_ApiDecl.rows [x1.Params, x1.Vars])), (33, .d (.int .i64 (([x1.Params, x1.Vars]).length : Int))), (34, .d (.int .i64 v34))] [.row (A0.cells result) 40, .row (B0.cells x1) 59, .map (.s (L0.ents m21)), .row [.d (.bxo (J0.opt x2.2)), .mp 2] 110] (Ret [] (.d (.int .i64 res)))
abbrev Yo (c : F0) (i : Int) (result : A0) (x1 : B0) (m2 : List (Str × L0)) (x2 : List (Str × L0) × Option J0) (v341 : Int) (x3 : List B0) (v40 : Int) (res : Int) : Prop := LM C 83 0 Tryz.f58 [1, 1, 1, 1, 0, 1, 4, 5, 1, 1, 0, 4, 1, 1, 4] [(0, .d (.box (F0.row c))), (1, .d (.int .i64 i)), (5, .ref 0 0), (7, .ref 1 0), (9, .ref 3 0), (32, .full (esl_ApiDecl.rows [x1.Params, x1.Vars])), (33, .d (.int .i64 (([x1.Params, x1.Vars]).length : Int))), (34, .d (.int .i64 v341)), (38, .d (.sl (B0.rows x3))), (39, .d (.int .i64 ((x3).length : Int))), (40, .d (.int .i64 v40))] [.row (A0.cells result) 40, .row (B0.cells x1) 59, .map (.s (L0.ents m2)), .row [.d (.bxo (J0.opt x2.2)), .mp 2] 110] (Ret [] (.d (.int .i64 res)))
theorem An (c : F0) (i : Int) (result : A0) (x1 : B0) (x2 : List (Str × L0) × Option J0) : (∀ m21 v34 res, Z1 c i result x1 m21 x2 v34 = some res → Xo c i result x1 m21 x2 v34 res) ∧ (∀ m2 v341 x3 v40 res, A3 c i result x1 m2 x2 v341 x3 v40 = some res → Yo c i result x1 m2 x2 v341 x3 v40 res) := by
  refine Z1.mutual_partial_correctness c i result x1 x2 _ _ ?_ ?_
  · intro g1 ih1 m21 v34 res hh
    refine Z0.unroll (t' rfl (S' (ci' rfl hh (fun hh => ?_) (fun hh => ?_))))
    · obtain ⟨x3, hx3, hh⟩ := bs' hh
      exact sk' (S' (bk' (s' rfl rfl (i' rfl (W0 hx3) (esl_ApiDecl.idx hx3) rfl (e' rfl (p' 1 rfl (qe' rfl trivial (B0.lenA _) (e' rfl (bk' (fw' (ih1 _ _ _ _ _ hh) rfl rfl rfl))))))))))
    obtain ⟨x4, hx4, hh⟩ := bs' hh
    obtain ⟨x5, hx5, hh⟩ := bs' hh
    obtain ⟨x6, hx6, hh⟩ := bs' hh
    refine ex' (p' 3 rfl (I0.nf hC rfl (I0.s hC rfl (n' (p' 2 rfl (I0.s hC rfl (q' rfl (I0.s hC rfl (n' (S' (p' 3 rfl (I0.bx 4 (y := .box (F0.row x4)) (by cases hx4; exact .inl rfl) rfl rfl rfl (I0.fm 2 rfl rfl ?_)))))))))))))
    refine I0.bx 3 (y := .bxo (J0.opt x5)) (by cases hx5; exact .inr rfl) rfl rfl rfl (c' (Bu hx6) rfl rfl (e' rfl (t' rfl (ci' rfl hh (fun hh => ?_) (fun hh => ?_)))))
    · cases hh
      exact t' rfl (re' (rt' rfl rfl rfl))
    obtain ⟨x7, hx7, hh⟩ := bs' hh
    cases hh
    exact sk' (p' 4 rfl (c' (Vp hx7) rfl rfl (e' rfl (re' (rt' rfl rfl rfl)))))
  · intro g0 g1 ih0 ih1 m2 v341 x3 v40 res hh
    refine Z0.unroll (t' rfl (S' (ci' rfl hh (fun hh => ?_) (fun hh => ?_))))
    · obtain ⟨x8, hx8, hh⟩ := bs' hh
      obtain ⟨x9, hx9, hh⟩ := bs' hh
      refine sk' (S' (bk' (s' rfl rfl (i' rfl (W0 hx8) (B0.idx hx8) rfl (q' rfl (I0.nf hC rfl (I0.s hC rfl (n' (p' 4 rfl (c' (Xk hx9) rfl rfl (o' 3 rfl (I0.nf hC rfl (I0.s hC rfl ?_)))))))))))))
      refine e' rfl (S' (t' rfl (ci' rfl hh (fun hh => ?_) (fun hh => ?_))))
      · cases hh
        exact t' rfl (re' (rt' rfl rfl rfl))
      exact sk' (AEx.draw hC 8 rfl rfl rfl (E' rfl (I0.ue hC rfl (L0.mput _ (L0.mk x9.1 false) _) rfl (n' (T' rfl (lw' (ih1 _ _ _ _ _ hh) rfl rfl rfl))))))
    exact ex' (T' rfl (lw' (ih0 _ _ _ hh) rfl rfl rfl))
theorem M10 {c i result x1 m21 x2 v34 res} (hh : Z1 c i result x1 m21 x2 v34 = some res) : Xo c i result x1 m21 x2 v34 res := (An c i result x1 x2).1 _ _ _ hh
theorem H1s {c i result x1 m2 x2 v341 x3 v40 res} (hh : A3 c i result x1 m2 x2 v341 x3 v40 = some res) : Yo c i result x1 m2 x2 v341 x3 v40 res := (An c i result x1 x2).2 _ _ _ _ _ hh
def S6 (c : F0) (i : Int) (result : A0) : Option Int :=
  idx c.p.Decls i >>= fun x1 =>
  B5 none >>= fun x2 =>
  Z1 c i result x1 x2.1 x2 0
theorem U14 {c i result res} (hh : S6 c i result = some res) : S0 C 58 [.d (.box (F0.row c)), .d (.int .i64 i), .agg (A0.cells result)] [] (Ret [] (.d (.int .i64 res))) := by
  unfold S6 at hh
  obtain ⟨x1, hx1, hh⟩ := bs' hh
  obtain ⟨x2, hx2, hh⟩ := bs' hh
  refine S0.intro hC Tryz.func58 rfl rfl rfl (s' rfl rfl (I0.n hC rfl (e' rfl (p' 6 rfl (i' rfl (W0 hx1) (B0.idx hx1) rfl (q' rfl (I0.nf hC rfl (I0.s hC rfl (n' (t' rfl (p' 1 rfl (I0.g [] rfl (Sm hx2) ⟨.nbx, trivial⟩ rfl trivial rfl rfl (e' rfl ?_)))))))))))))
  exact S' (p' 4 rfl (I0.be hC rfl (esl_ApiDecl.rows_map [x1.Params, x1.Vars]).symm (qe' rfl trivial (esl_ApiDecl.lenA _) (e' rfl (bk' (fw' (M10 hh) rfl rfl rfl))))))
def C9 (c : F0) (i : Int) : Option Int :=
  idx c.p.Decls i >>= fun x1 =>
  D5 c x1.TypeV i >>= fun x2 =>
  if (x2.2 != 0) = true then
    some x2.2
  else
    if (x1.Kind == 5) = true then
      P7 x2.1 >>= fun x3 =>
      if (!x3) = true then
        some 9
      else
        E5 c i false >>= fun x4 =>
        Da x4 x1.Value x2.1 >>= fun x5 =>
        some x5
    else
      if (x1.Kind == 6) = true then
        S6 c i x2.1 >>= fun x6 =>
        some x6
      else
        some 0
theorem Y1b {c i res} (hh : C9 c i = some res) : S0 C 30 [.d (.box (F0.row c)), .d (.int .i64 i)] [] (Ret [] (.d (.int .i64 res))) := by
  unfold C9 at hh
  obtain ⟨x1, hx1, hh⟩ := bs' hh
  obtain ⟨x2, hx2, hh⟩ := bs' hh
  refine S0.intro hC Tryz.func30 rfl rfl rfl (t' rfl (p' 6 rfl (i' rfl (W0 hx1) (B0.idx hx1) rfl (q' rfl (I0.nf hC rfl (I0.s hC rfl (n' (p' 4 rfl (c' (Xk hx2) rfl rfl (o' 3 rfl (I0.nf hC rfl (I0.s hC rfl (e' rfl ?_)))))))))))))
  refine S' (t' rfl (ci' rfl hh (fun hh => ?_) (fun hh => ?_)))
  · cases hh
    exact t' rfl (re' (rt' rfl rfl rfl))
  refine sk' (S' (t' rfl (bk' (t' rfl (ci' rfl hh (fun hh => ?_) (fun hh => ?_))))))
  · obtain ⟨x3, hx3, hh⟩ := bs' hh
    refine S' (p' 1 rfl (c' (Qo hx3) rfl rfl (e' rfl (ci' rfl hh (fun hh => ?_) (fun hh => ?_)))))
    · cases hh
      exact t' rfl (re' (rt' rfl rfl rfl))
    obtain ⟨x4, hx4, hh⟩ := bs' hh
    obtain ⟨x5, hx5, hh⟩ := bs' hh
    cases hh
    exact sk' (S' (AEx.draw hC 8 rfl rfl rfl (O' 2 rfl (Qc' (A1 hx4) rfl rfl (O' 3 rfl (Qc' (Vp hx5) rfl rfl (E' rfl (n' (re' (rt' rfl rfl rfl))))))))))
  refine t' rfl (ci' rfl hh (fun hh => ?_) (fun hh => ?_))
  · obtain ⟨x6, hx6, hh⟩ := bs' hh
    cases hh
    exact p' 3 rfl (c' (U14 hx6) rfl rfl (e' rfl (re' (rt' rfl rfl rfl))))
  cases hh
  exact sk' (t' rfl (re' (rt' rfl rfl rfl)))
mutual
def Dg (t : A0) : Option Bool :=
  (if (!(t.Kind == 4)) = true then Z2 t.Of else some default) >>= fun x1 =>
  some (bif (t.Kind == 4) then true else x1)
  partial_fixpoint
def Z2 (s : List A0) : Option Bool :=
  L3 s >>= fun x1 =>
  some (decide (x1 ≥ 0))
  partial_fixpoint
def L3 (s : List A0) : Option Int :=
  W1 s 0
  partial_fixpoint
def W1 (s : List A0) (v8 : Int) : Option Int :=
  if (decide (v8 < ((s).length : Int))) = true then
    idx s v8 >>= fun x1 =>
    Dg x1 >>= fun x2 =>
    if x2 = true then
      some v8
    else
      W1 s (IntKind.i64.wrap (v8 + 1))
  else
    some (-1)
  partial_fixpoint
end
abbrev H1l (t : A0) (res : Bool) : Prop := S0 C 215 [.agg (A0.cells t)] [] (Ret [] (.d (.bool res)))
abbrev Ch (s : List A0) (res : Bool) : Prop := S0 C 227 [.d (.sl (A0.rows s)), .clo 215 []] [] (Ret [] (.d (.bool res)))
abbrev Cj (s : List A0) (res : Int) : Prop := S0 C 233 [.d (.sl (A0.rows s)), .clo 215 []] [] (Ret [] (.d (.int .i64 res)))
abbrev Dh (s : List A0) (v8 : Int) (res : Int) : Prop := LM C 19 0 Tryz.f233 [1, 0, 1, 4] [(0, .d (.sl (A0.rows s))), (1, .clo 215 []), (7, .d (.int .i64 ((s).length : Int))), (8, .d (.int .i64 v8))] [] (Ret [] (.d (.int .i64 res)))
theorem Jv : (∀ t res, Dg t = some res → H1l t res) ∧ (∀ s res, Z2 s = some res → Ch s res) ∧ (∀ s res, L3 s = some res → Cj s res) ∧ (∀ s v8 res, W1 s v8 = some res → Dh s v8 res) := by
  refine Dg.mutual_partial_correctness _ _ _ _ ?_ ?_ ?_ ?_
  · intro g1 ih1 t res hh
    obtain ⟨x1, hx1, hh⟩ := bs' hh
    cases hh
    exact S0.intro hC Tryz.func215 rfl rfl rfl (s' rfl rfl (I0.n hC rfl (e' rfl (sg' 9 rfl (G' 5 rfl (a1' rfl (AG.c rfl rfl (fun hg => ⟨hg, trivial⟩) (fun hw => ih1 _ _ (T1 hw hx1)) (po' rfl (a0' rfl (an' (n' (re' (rt' rfl rfl rfl)))))))))))))
  · intro g2 ih2 s res hh
    obtain ⟨x1, hx1, hh⟩ := bs' hh
    cases hh
    exact S0.intro hC Tryz.func227 rfl rfl rfl (t' rfl (p' 2 rfl (c' (ih2 _ _ hx1) rfl rfl (e' rfl (re' (rt' rfl rfl rfl))))))
  · intro g3 ih3 s res hh
    exact S0.intro hC Tryz.func233 rfl rfl rfl (t' rfl (S' (p' 1 rfl (qe' rfl trivial (A0.lenA _) (e' rfl (bk' (fw' (ih3 _ _ _ hh) rfl rfl rfl)))))))
  · intro g0 g3 ih0 ih3 s v8 res hh
    refine Z0.unroll (t' rfl (S' (ci' rfl hh (fun hh => ?_) (fun hh => ?_))))
    · obtain ⟨x1, hx1, hh⟩ := bs' hh
      obtain ⟨x2, hx2, hh⟩ := bs' hh
      refine sk' (S' (bk' (t' rfl (p' 3 rfl (i' rfl (W0 hx1) (A0.idx hx1) rfl (q' rfl (c' (ih0 _ _ hx2) rfl rfl (n' (ci' rfl hh (fun hh => ?_) (fun hh => ?_))))))))))
      · cases hh
        exact t' rfl (re' (rt' rfl rfl rfl))
      exact sk' (T' rfl (lw' (ih3 _ _ _ hh) rfl rfl rfl))
    cases hh
    exact ex' (t' rfl (re' (rt' rfl rfl rfl)))
theorem S1w {t res} (hh : Dg t = some res) : H1l t res := (Jv).1 _ _ hh
theorem J1h {s res} (hh : Z2 s = some res) : Ch s res := (Jv).2.1 _ _ hh
theorem D1k {s res} (hh : L3 s = some res) : Cj s res := (Jv).2.2.1 _ _ hh
theorem K1h {s v8 res} (hh : W1 s v8 = some res) : Dh s v8 res := (Jv).2.2.2 _ _ _ hh
def Nu (t : A0) : Option Int :=
  Dg t >>= fun x1 =>
  if x1 = true then
    some 7
  else
    Zd t >>= fun x2 =>
    if x2 = true then
      some 8
    else
      Qb t >>= fun x3 =>
      if (decide (x3 > 32)) = true then
        some 4
      else
        some 0
theorem T1w {t res} (hh : Nu t = some res) : S0 C 186 [.agg (A0.cells t)] [] (Ret [] (.d (.int .i64 res))) := by
  unfold Nu at hh
  obtain ⟨x1, hx1, hh⟩ := bs' hh
  refine S0.intro hC Tryz.func186 rfl rfl rfl (s' rfl rfl (I0.n hC rfl (e' rfl (S' (p' 1 rfl (c' (S1w hx1) rfl rfl (n' (ci' rfl hh (fun hh => ?_) (fun hh => ?_)))))))))
  · cases hh
    exact t' rfl (re' (rt' rfl rfl rfl))
  obtain ⟨x2, hx2, hh⟩ := bs' hh
  refine sk' (S' (p' 1 rfl (c' (J1i hx2) rfl rfl (n' (ci' rfl hh (fun hh => ?_) (fun hh => ?_))))))
  · cases hh
    exact t' rfl (re' (rt' rfl rfl rfl))
  obtain ⟨x3, hx3, hh⟩ := bs' hh
  refine sk' (S' (p' 1 rfl (c' (K1i hx3) rfl rfl (e' rfl (ci' rfl hh (fun hh => ?_) (fun hh => ?_))))))
  · cases hh
    exact t' rfl (re' (rt' rfl rfl rfl))
  cases hh
  exact sk' (t' rfl (re' (rt' rfl rfl rfl)))
def Qq (t : A0) : Option Int :=
  Tc t >>= fun x1 =>
  if (x1 != 0) = true then
    some x1
  else
    Nu t >>= fun x2 =>
    some x2
theorem U1w {t res} (hh : Qq t = some res) : S0 C 118 [.agg (A0.cells t)] [] (Ret [] (.d (.int .i64 res))) := by
  unfold Qq at hh
  obtain ⟨x1, hx1, hh⟩ := bs' hh
  refine S0.intro hC Tryz.func118 rfl rfl rfl (s' rfl rfl (I0.n hC rfl (e' rfl (S' (p' 1 rfl (c' (E15 hx1) rfl rfl (e' rfl (t' rfl (ci' rfl hh (fun hh => ?_) (fun hh => ?_))))))))))
  · cases hh
    exact t' rfl (re' (rt' rfl rfl rfl))
  obtain ⟨x2, hx2, hh⟩ := bs' hh
  cases hh
  exact sk' (p' 1 rfl (c' (T1w hx2) rfl rfl (e' rfl (re' (rt' rfl rfl rfl)))))
def Dj (s : Str) : Option Str :=
  T1p s >>= fun x1 =>
  some x1
theorem A1d {s res} (hh : Dj s = some res) : S0 C 121 [.d (.str s)] [] (Ret [] (.d (.str res))) := by
  unfold Dj at hh
  obtain ⟨x1, hx1, hh⟩ := bs' hh
  cases hh
  exact S0.intro hC Tryz.func121 rfl rfl rfl (t' rfl (p' 1 rfl (c' (D29 hx1) rfl rfl (e' rfl (re' (rt' rfl rfl rfl))))))
def Uc (path : Str) (a1 : Int) (x : A0) (s : List R0) : Option (Bool × List R0) :=
  if (x.Kind == 0) = true then
    Dj path >>= fun x1 =>
    if (decide ((s.length + 1) * 41 ≤ 140737488355328)) = true then
      some (true, (s ++ [(R0.mk x1 true 0 1)]))
    else none
  else
    if (x.Kind == 1) = true then
      Dj path >>= fun x2 =>
      if (decide ((s.length + 1) * 41 ≤ 140737488355328)) = true then
        some (true, (s ++ [(R0.mk x2 false x.Low x.High)]))
      else none
    else
      some (true, s)
theorem M1i {path a1 x s res} (hh : Uc path a1 x s = some res) : S0 C 120 [.d (.str path), .d (.int .i64 a1), .agg (A0.cells x), .ref 0 0] [.row [.osl 1 (R0.rows s)] 113, .tok 117 4] (Ret [.row [.osl 1 (R0.rows res.2)] 113, .tok 117 4] (.d (.bool res.1))) := by
  unfold Uc at hh
  refine S0.intro hC Tryz.func120 rfl rfl rfl (s' rfl rfl (I0.n hC rfl (e' rfl (S' (t' rfl (bk' (t' rfl (ci' rfl hh (fun hh => ?_) (fun hh => ?_)))))))))
  · obtain ⟨x1, hx1, hh⟩ := bs' hh
    obtain ⟨c5, hh⟩ := U1 hh
    cases hh
    refine AEx.draw hC 5 rfl rfl rfl (O' 2 rfl (Qc' (A1d hx1) rfl rfl (Q' rfl (AQ.be hC rfl (R0.rows_map [(R0.mk x1 true 0 1)]).symm (Qn' ?_)))))
    exact I0.ap hC rfl (rs := R0.rows (s ++ [(R0.mk x1 true 0 1)])) (R0.app s [(R0.mk x1 true 0 1)]) (R0.sz s) (R0.sz [(R0.mk x1 true 0 1)]) (V6 (R0.len s) (R0.len [(R0.mk x1 true 0 1)]) c5) (I0.s hC rfl (n' (t' rfl (re' (rt' rfl rfl rfl)))))
  refine t' rfl (ci' rfl hh (fun hh => ?_) (fun hh => ?_))
  · obtain ⟨x2, hx2, hh⟩ := bs' hh
    obtain ⟨c6, hh⟩ := U1 hh
    cases hh
    refine AEx.draw hC 9 rfl rfl rfl (O' 2 rfl (Qc' (A1d hx2) rfl rfl (O' 5 rfl (AQ.be hC rfl (R0.rows_map [(R0.mk x2 false x.Low x.High)]).symm (Qn' ?_)))))
    exact I0.ap hC rfl (rs := R0.rows (s ++ [(R0.mk x2 false x.Low x.High)])) (R0.app s [(R0.mk x2 false x.Low x.High)]) (R0.sz s) (R0.sz [(R0.mk x2 false x.Low x.High)]) (V6 (R0.len s) (R0.len [(R0.mk x2 false x.Low x.High)]) c6) (I0.s hC rfl (n' (t' rfl (re' (rt' rfl rfl rfl)))))
  cases hh
  exact sk' (t' rfl (re' (rt' rfl rfl rfl)))
mutual
def M6 (path : Str) (t : A0) (s : Int) (s1 : List R0) : Option (Bool × Int × List R0) :=
  Uc path s t s1 >>= fun x1 =>
  if (!x1.1) = true then
    some (false, s, x1.2)
  else
    if (t.Kind == 2) = true then
      D6 path t s x1.2 0
    else
      if (t.Kind == 3) = true then
        C6 path t s x1.2 0
      else
        some (true, (IntKind.i64.wrap (s + 1)), x1.2)
  partial_fixpoint
def C6 (path : Str) (t : A0) (o11 : Int) (o31 : List R0) (v46 : Int) : Option (Bool × Int × List R0) :=
  if (decide (v46 < ((t.Of).length : Int))) = true then
    idx t.Of v46 >>= fun x4 =>
    if (decide (path.length + 1 ≤ maxLen)) = true then
      idx t.Names v46 >>= fun x5 =>
      if (decide ((path ++ [46]).length + x5.length ≤ maxLen)) = true then
        M6 ((path ++ [46]) ++ x5) x4 o11 o31 >>= fun x7 =>
        if (!x7.1) = true then
          some (false, x7.2.1, x7.2.2)
        else
          C6 path t x7.2.1 x7.2.2 (IntKind.i64.wrap (v46 + 1))
      else none
    else none
  else
    some (true, o11, o31)
  partial_fixpoint
def D6 (path : Str) (t : A0) (o1 : Int) (o3 : List R0) (v25 : Int) : Option (Bool × Int × List R0) :=
  if (decide (v25 < t.Size)) = true then
    if (decide (path.length + 1 ≤ maxLen)) = true then
      I1i v25 >>= fun x2 =>
      if (decide ((path ++ [46]).length + x2.length ≤ maxLen)) = true then
        idx t.Of 0 >>= fun x3 =>
        M6 ((path ++ [46]) ++ x2) x3 o1 o3 >>= fun x6 =>
        if (!x6.1) = true then
          some (false, x6.2.1, x6.2.2)
        else
          D6 path t x6.2.1 x6.2.2 (IntKind.i64.wrap (v25 + 1))
      else none
    else none
  else
    some (true, o1, o3)
  partial_fixpoint
end
abbrev P1a (path : Str) (t : A0) (s : Int) (s1 : List R0) (res : Bool × Int × List R0) : Prop := S0 C 187 [.d (.str path), .agg (A0.cells t), .ref 0 0, .ref 1 0, .ref 2 0] [.row [.clo 120 [.ref 3 0]] 171, .row [.d (.int .i64 s)] 3, .row [.clo 187 [.ref 0 0, .ref 1 0, .ref 2 0]] 215, .row [.osl 4 (R0.rows s1)] 113, .tok 117 4] (Ret [.row [.clo 120 [.ref 3 0]] 171, .row [.d (.int .i64 res.2.1)] 3, .row [.clo 187 [.ref 0 0, .ref 1 0, .ref 2 0]] 215, .row [.osl 4 (R0.rows res.2.2)] 113, .tok 117 4] (.d (.bool res.1)))
abbrev D12 (path : Str) (t : A0) (o11 : Int) (o31 : List R0) (v46 : Int) (res : Bool × Int × List R0) : Prop := LM C 64 5 Tryz.f187 [1, 1, 0, 1, 4, 1, 3, 1, 2, 1, 4] [(0, .d (.str path)), (4, .ref 2 0), (6, .ref 5 0), (44, .d (.sl (A0.rows t.Of))), (45, .d (.int .i64 ((t.Of).length : Int))), (46, .d (.int .i64 v46))] [.row [.clo 120 [.ref 3 0]] 171, .row [.d (.int .i64 o11)] 3, .row [.clo 187 [.ref 0 0, .ref 1 0, .ref 2 0]] 215, .row [.osl 4 (R0.rows o31)] 113, .tok 117 4, .row (A0.cells t) 40] (Ret [.row [.clo 120 [.ref 3 0]] 171, .row [.d (.int .i64 res.2.1)] 3, .row [.clo 187 [.ref 0 0, .ref 1 0, .ref 2 0]] 215, .row [.osl 4 (R0.rows res.2.2)] 113, .tok 117 4] (.d (.bool res.1)))
abbrev E12 (path : Str) (t : A0) (o1 : Int) (o3 : List R0) (v25 : Int) (res : Bool × Int × List R0) : Prop := LM C 64 5 Tryz.f187 [1, 1, 0, 1, 4, 1, 2, 1, 4] [(0, .d (.str path)), (4, .ref 2 0), (6, .ref 5 0), (24, .d (.int .i64 t.Size)), (25, .d (.int .i64 v25))] [.row [.clo 120 [.ref 3 0]] 171, .row [.d (.int .i64 o1)] 3, .row [.clo 187 [.ref 0 0, .ref 1 0, .ref 2 0]] 215, .row [.osl 4 (R0.rows o3)] 113, .tok 117 4, .row (A0.cells t) 40] (Ret [.row [.clo 120 [.ref 3 0]] 171, .row [.d (.int .i64 res.2.1)] 3, .row [.clo 187 [.ref 0 0, .ref 1 0, .ref 2 0]] 215, .row [.osl 4 (R0.rows res.2.2)] 113, .tok 117 4] (.d (.bool res.1)))
theorem Tu : (∀ path t s s1 res, M6 path t s s1 = some res → P1a path t s s1 res) ∧ (∀ path t o11 o31 v46 res, C6 path t o11 o31 v46 = some res → D12 path t o11 o31 v46 res) ∧ (∀ path t o1 o3 v25 res, D6 path t o1 o3 v25 = some res → E12 path t o1 o3 v25 res) := by
  refine M6.mutual_partial_correctness _ _ _ ?_ ?_ ?_
  · intro g1 g2 ih1 ih2 path t s s1 res hh
    obtain ⟨x1, hx1, hh⟩ := bs' hh
    refine S0.intro hC Tryz.func187 rfl rfl rfl (s' rfl rfl (I0.n hC rfl (e' rfl (S' (p' 4 rfl (g' [3, 4] (M1i hx1) rfl rfl rfl rfl rfl rfl (e' rfl (ci' rfl hh (fun hh => ?_) (fun hh => ?_)))))))))
    · cases hh
      exact t' rfl (re' (rt' rfl rfl rfl))
    refine sk' (S' (t' rfl (bk' (t' rfl (ci' rfl hh (fun hh => ?_) (fun hh => ?_))))))
    · exact t' rfl (bk' (fw' (ih2 _ _ _ _ _ _ hh) rfl rfl rfl))
    refine t' rfl (ci' rfl hh (fun hh => ?_) (fun hh => ?_))
    · exact p' 2 rfl (qe' rfl trivial (A0.lenA _) (e' rfl (bk' (fw' (ih1 _ _ _ _ _ _ hh) rfl rfl rfl))))
    cases hh
    exact P' 2 rfl (I0.s hC rfl (n' (t' rfl (re' (rt' rfl rfl rfl)))))
  · intro g0 g1 ih0 ih1 path t o11 o31 v46 res hh
    refine Z0.unroll (t' rfl (S' (ci' rfl hh (fun hh => ?_) (fun hh => ?_))))
    · obtain ⟨x4, hx4, hh⟩ := bs' hh
      obtain ⟨c17, hh⟩ := U1 hh
      obtain ⟨x5, hx5, hh⟩ := bs' hh
      obtain ⟨c18, hh⟩ := U1 hh
      obtain ⟨x7, hx7, hh⟩ := bs' hh
      refine sk' (S' (bk' (p' 1 rfl (i' rfl (W0 hx4) (A0.idx hx4) rfl (q' rfl (I0.nf hC rfl (q' rfl (I0.s hC rfl (n' (S' (AEx.draw hC 10 rfl rfl rfl (O' 2 rfl (AQ.q hC rfl c17 ?_)))))))))))))
      refine O' 3 rfl (AQ.i hC rfl (W0 hx5) (estr.idx hx5) rfl (Q' rfl (AQ.q hC rfl c18 (E' rfl (g' [0, 1, 2, 3, 4] (ih0 _ _ _ _ _ hx7) rfl rfl rfl rfl rfl rfl (e' rfl (ci' rfl hh (fun hh => ?_) (fun hh => ?_))))))))
      · cases hh
        exact t' rfl (re' (rt' rfl rfl rfl))
      exact sk' (T' rfl (lw' (ih1 _ _ _ _ _ _ hh) rfl rfl rfl))
    cases hh
    exact ex' (t' rfl (re' (rt' rfl rfl rfl)))
  · intro g0 g2 ih0 ih2 path t o1 o3 v25 res hh
    refine Z0.unroll (t' rfl (S' (ci' rfl hh (fun hh => ?_) (fun hh => ?_))))
    · obtain ⟨c15, hh⟩ := U1 hh
      obtain ⟨x2, hx2, hh⟩ := bs' hh
      obtain ⟨c16, hh⟩ := U1 hh
      obtain ⟨x3, hx3, hh⟩ := bs' hh
      obtain ⟨x6, hx6, hh⟩ := bs' hh
      refine sk' (S' (bk' (t' rfl (S' (AEx.draw hC 10 rfl rfl rfl (O' 2 rfl (AQ.q hC rfl c15 (Q' rfl (Qc' (E2c hx2) rfl rfl (AQ.q hC rfl c16 (O' 2 rfl (AQ.i hC rfl (W0 hx3) (A0.idx hx3) rfl (E' rfl ?_)))))))))))))
      refine g' [0, 1, 2, 3, 4] (ih0 _ _ _ _ _ hx6) rfl rfl rfl rfl rfl rfl (e' rfl (ci' rfl hh (fun hh => ?_) (fun hh => ?_)))
      · cases hh
        exact t' rfl (re' (rt' rfl rfl rfl))
      exact sk' (T' rfl (lw' (ih2 _ _ _ _ _ _ hh) rfl rfl rfl))
    cases hh
    exact ex' (t' rfl (re' (rt' rfl rfl rfl)))
theorem M1n {path t s s1 res} (hh : M6 path t s s1 = some res) : P1a path t s s1 res := (Tu).1 _ _ _ _ _ hh
theorem M26 {path t o11 o31 v46 res} (hh : C6 path t o11 o31 v46 = some res) : D12 path t o11 o31 v46 res := (Tu).2.1 _ _ _ _ _ _ hh
theorem N26 {path t o1 o3 v25 res} (hh : D6 path t o1 o3 v25 = some res) : E12 path t o1 o3 v25 res := (Tu).2.2 _ _ _ _ _ _ hh
def Lp (t : A0) (s : List R0) : Option (List R0) :=
  M6 [] t 0 s >>= fun x1 =>
  some x1.2.2
theorem I1s {t s res} (hh : Lp t s = some res) : S0 C 119 [.agg (A0.cells t), .clo 120 [.ref 0 0]] [.row [.osl 1 (R0.rows s)] 113, .tok 117 4] (Ret [.row [.osl 1 (R0.rows res)] 113, .tok 117 4] (.tup [])) := by
  unfold Lp at hh
  obtain ⟨x1, hx1, hh⟩ := bs' hh
  cases hh
  refine S0.intro hC Tryz.func119 rfl rfl rfl (s' rfl rfl (I0.n hC rfl (I0.n hC rfl (n' (s' rfl rfl (I0.n hC rfl (I0.s hC rfl (n' (s' rfl rfl (I0.n hC rfl (n' (p' 1 rfl (I0.s hC rfl ?_)))))))))))))
  exact n' (P' 2 rfl (g' [3, 4, 5, 0, 1] (M1n hx1) rfl rfl rfl rfl rfl rfl (n' (rn' rfl rfl rfl))))
def Bm (t : A0) : Option (List R0 × Int) :=
  Qq t >>= fun x1 =>
  if (x1 != 0) = true then
    some ([], x1)
  else
    Lp t [] >>= fun x2 =>
    some (x2, 0)
theorem J1s {t res} (hh : Bm t = some res) : S0 C 62 [.agg (A0.cells t)] [] (Ret [] (.tup [.d (.sl (R0.rows res.1)), .d (.int .i64 res.2)])) := by
  unfold Bm at hh
  obtain ⟨x1, hx1, hh⟩ := bs' hh
  refine S0.intro hC Tryz.func62 rfl rfl rfl (s' rfl rfl (I0.n hC rfl (e' rfl (S' (p' 1 rfl (c' (U1w hx1) rfl rfl (e' rfl (t' rfl (ci' rfl hh (fun hh => ?_) (fun hh => ?_))))))))))
  · refine t' rfl (re' ?_)
    obtain rfl := oi' hh
    exact ⟨_, .tup [.d (.sl (R0.rows [])), .d (.int .i64 x1)], [], rfl, (.tupL ⟨.full, ⟨.rfl, trivial⟩⟩), trivial, rfl, rfl, rfl, rfl⟩
  obtain ⟨x2, hx2, hh⟩ := bs' hh
  refine sk' (s' rfl rfl (I0.nf hC rfl (I0.tokC 1 0 117 4 rfl rfl rfl rfl rfl (n' (p' 2 rfl (g' [1, 2] (I1s hx2) rfl rfl rfl rfl rfl rfl (n' (t' rfl (re' ?_)))))))))
  obtain rfl := oi' hh
  exact ⟨_, .tup [.d (.sl (R0.rows x2)), .d (.int .i64 0)], [], rfl, (.tupL ⟨.osl, ⟨.rfl, trivial⟩⟩), trivial, rfl, rfl, rfl, rfl⟩
def Yh (a : Int) (b : Int) : Option Int :=
  some (min (IntKind.i64.wrap (a * b)) 1073741824)
theorem Sw {a b res} (hh : Yh a b = some res) : S0 C 63 [.d (.int .i64 a), .d (.int .i64 b)] [] (Ret [] (.d (.int .i64 res))) := by
  unfold Yh at hh
  cases hh
  exact S0.intro hC Tryz.func63 rfl rfl rfl (t' rfl (t' rfl (re' (rt' rfl rfl rfl))))
def Vj (a : Int) (b : Int) : Option Int :=
  some (min (IntKind.i64.wrap (a + b)) 1073741824)
theorem Ry {a b res} (hh : Vj a b = some res) : S0 C 203 [.d (.int .i64 a), .d (.int .i64 b)] [] (Ret [] (.d (.int .i64 res))) := by
  unfold Vj at hh
  cases hh
  exact S0.intro hC Tryz.func203 rfl rfl rfl (t' rfl (t' rfl (re' (rt' rfl rfl rfl))))
def Za (a : N0) (b : N0) : Option N0 :=
  Vj a.steps b.steps >>= fun x1 =>
  Vj a.outputs b.outputs >>= fun x2 =>
  some (N0.mk x1 x2)
theorem Ly {a b res} (hh : Za a b = some res) : S0 C 164 [.agg (N0.cells a), .agg (N0.cells b)] [] (Ret [] (.agg (N0.cells res))) := by
  unfold Za at hh
  obtain ⟨x1, hx1, hh⟩ := bs' hh
  obtain ⟨x2, hx2, hh⟩ := bs' hh
  cases hh
  refine S0.intro hC Tryz.func164 rfl rfl rfl (s' rfl rfl (I0.n hC rfl (I0.n hC rfl (I0.n hC rfl (n' (S' (AEx.draw hC 11 rfl rfl rfl (O' 4 rfl (Qc' (Ry hx1) rfl rfl (O' 4 rfl (Qc' (Ry hx2) rfl rfl (E' rfl (I0.s hC rfl ?_)))))))))))))
  exact n' (re' (rt' rfl rfl rfl))
def Eh (a : N0) (b : N0) : Option N0 :=
  some (N0.mk (max a.steps b.steps) (max a.outputs b.outputs))
theorem B1d {a b res} (hh : Eh a b = some res) : S0 C 204 [.agg (N0.cells a), .agg (N0.cells b)] [] (Ret [] (.agg (N0.cells res))) := by
  unfold Eh at hh
  cases hh
  exact S0.intro hC Tryz.func204 rfl rfl rfl (s' rfl rfl (I0.n hC rfl (I0.n hC rfl (I0.n hC rfl (n' (p' 11 rfl (I0.s hC rfl (n' (re' (rt' rfl rfl rfl))))))))))
def Rg (n : Int) (body : N0) : Option N0 :=
  Vj 1 body.steps >>= fun x1 =>
  Yh n x1 >>= fun x2 =>
  Yh n body.outputs >>= fun x3 =>
  some (N0.mk x2 x3)
theorem J15 {n body res} (hh : Rg n body = some res) : S0 C 205 [.d (.int .i64 n), .agg (N0.cells body)] [] (Ret [] (.agg (N0.cells res))) := by
  unfold Rg at hh
  obtain ⟨x1, hx1, hh⟩ := bs' hh
  obtain ⟨x2, hx2, hh⟩ := bs' hh
  obtain ⟨x3, hx3, hh⟩ := bs' hh
  cases hh
  refine S0.intro hC Tryz.func205 rfl rfl rfl (s' rfl rfl (I0.n hC rfl (I0.n hC rfl (n' (S' (AEx.draw hC 10 rfl rfl rfl (O' 3 rfl (Qc' (Ry hx1) rfl rfl (Qc' (Sw hx2) rfl rfl (O' 3 rfl (Qc' (Sw hx3) rfl rfl (E' rfl (I0.s hC rfl ?_)))))))))))))
  exact n' (re' (rt' rfl rfl rfl))
mutual
def I2 (l : List D0) (m : List (Str × N0)) : Option N0 :=
  V3 l m (N0.mk 0 0) 0
  partial_fixpoint
def V3 (l : List D0) (m : List (Str × N0)) (o3 : N0) (v11 : Int) : Option N0 :=
  if (decide (v11 < ((l).length : Int))) = true then
    idx l v11 >>= fun x1 =>
    Za o3 (N0.mk 1 0) >>= fun x2 =>
    I7 x1 m >>= fun x3 =>
    Za x2 x3 >>= fun x4 =>
    V3 l m x4 (IntKind.i64.wrap (v11 + 1))
  else
    some o3
  partial_fixpoint
def I7 (x : D0) (m : List (Str × N0)) : Option N0 :=
  if (x.Verb == 3) = true then
    some (N0.mk 0 1)
  else
    if (x.Verb == 1) = true then
      some (mgt x.Name m) >>= fun x1 =>
      some (x1.getD N0.zero)
    else
      if (x.Verb == 5) = true then
        I2 x.Then m >>= fun x2 =>
        I2 x.Else m >>= fun x3 =>
        Eh x2 x3 >>= fun x4 =>
        some x4
      else
        if (x.Verb == 6) = true then
          I2 x.Then m >>= fun x5 =>
          Rg x.NV x5 >>= fun x6 =>
          some x6
        else
          if (x.Verb == 7) = true then
            I2 x.Then m >>= fun x7 =>
            Rg (IntKind.i64.wrap ((IntKind.i64.wrap (x.High - x.Low)) + 1)) x7 >>= fun x8 =>
            some x8
          else
            some (N0.mk 0 0)
  partial_fixpoint
end
abbrev Kv (l : List D0) (m : List (Str × N0)) (res : N0) : Prop := S0 C 97 [.agg [.mp 0], .d (.sl (D0.rows l))] [.map (.s (N0.ents m))] (Ret [.map (.s (N0.ents m))] (.agg (N0.cells res)))
abbrev Wr (l : List D0) (m : List (Str × N0)) (o3 : N0) (v11 : Int) (res : N0) : Prop := LM C 24 1 Tryz.f97 [1, 1, 0, 1, 4] [(2, .ref 1 0), (4, .ref 2 0), (5, .ref 3 0), (9, .d (.sl (D0.rows l))), (10, .d (.int .i64 ((l).length : Int))), (11, .d (.int .i64 v11))] [.map (.s (N0.ents m)), .row [.mp 0] 151, .row [.d (.int .i64 0), .d (.int .i64 0)] 85, .row (N0.cells o3) 85] (Ret [.map (.s (N0.ents m))] (.agg (N0.cells res)))
abbrev Tw (x : D0) (m : List (Str × N0)) (res : N0) : Prop := S0 C 165 [.agg [.mp 0], .agg (D0.cells x)] [.map (.s (N0.ents m))] (Ret [.map (.s (N0.ents m))] (.agg (N0.cells res)))
theorem Yk (m : List (Str × N0)) : (∀ l res, I2 l m = some res → Kv l m res) ∧ (∀ l o3 v11 res, V3 l m o3 v11 = some res → Wr l m o3 v11 res) ∧ (∀ x res, I7 x m = some res → Tw x m res) := by
  refine I2.mutual_partial_correctness m _ _ _ ?_ ?_ ?_
  · intro g1 ih1 l res hh
    exact S0.intro hC Tryz.func97 rfl rfl rfl (s' rfl rfl (I0.n hC rfl (I0.n hC rfl (n' (p' 1 rfl (I0.n hC rfl (I0.s hC rfl (n' (S' (p' 1 rfl (qe' rfl trivial (D0.lenA _) (e' rfl (bk' (fw' (ih1 _ _ _ _ hh) rfl rfl rfl))))))))))))))
  · intro g1 g2 ih1 ih2 l o3 v11 res hh
    refine Z0.unroll (t' rfl (S' (ci' rfl hh (fun hh => ?_) (fun hh => ?_))))
    · obtain ⟨x1, hx1, hh⟩ := bs' hh
      obtain ⟨x2, hx2, hh⟩ := bs' hh
      obtain ⟨x3, hx3, hh⟩ := bs' hh
      obtain ⟨x4, hx4, hh⟩ := bs' hh
      refine sk' (S' (bk' (s' rfl rfl (i' rfl (W0 hx1) (D0.idx hx1) rfl (q' rfl (I0.nf hC rfl (I0.s hC rfl (n' (AEx.draw hC 5 rfl rfl rfl (O' 2 rfl (Qc' (Ly hx2) rfl rfl (E' rfl (g' [0] (ih2 _ _ hx3) rfl rfl rfl rfl rfl rfl ?_)))))))))))))
      exact c' (Ly hx4) rfl rfl (I0.s hC rfl (n' (T' rfl (lw' (ih1 _ _ _ _ hh) rfl rfl rfl))))
    cases hh
    exact ex' (p' 1 rfl (I0.s hC rfl (n' (re' (rt' rfl rfl rfl)))))
  · intro g0 ih0 x res hh
    refine S0.intro hC Tryz.func165 rfl rfl rfl (s' rfl rfl (I0.n hC rfl (I0.n hC rfl (I0.n hC rfl (n' (S' (t' rfl (bk' (t' rfl (ci' rfl hh (fun hh => ?_) (fun hh => ?_)))))))))))
    · cases hh
      exact p' 1 rfl (I0.s hC rfl (n' (re' (rt' rfl rfl rfl))))
    refine t' rfl (ci' rfl hh (fun hh => ?_) (fun hh => ?_))
    · obtain ⟨x1, hx1, hh⟩ := bs' hh
      cases hh
      exact p' 4 rfl (I0.me hC rfl (N0.lk hx1) (I0.s hC rfl (n' (re' (rt' rfl rfl rfl)))))
    refine t' rfl (ci' rfl hh (fun hh => ?_) (fun hh => ?_))
    · obtain ⟨x2, hx2, hh⟩ := bs' hh
      obtain ⟨x3, hx3, hh⟩ := bs' hh
      obtain ⟨x4, hx4, hh⟩ := bs' hh
      cases hh
      refine S' (AEx.drawL hC 7 [3] [] [[.map (.s (N0.ents m)), .row [.mp 0] 151, .row (D0.cells x) 53, .row [.d (.int .i64 0), .d (.int .i64 0)] 85], [.map (.s (N0.ents m)), .row [.mp 0] 151, .row (D0.cells x) 53, .row [.d (.int .i64 0), .d (.int .i64 0)] 85]] rfl rfl rfl rfl rfl rfl rfl rfl rfl rfl (AS.q hC rfl rfl rfl rfl (AS.q hC rfl rfl rfl rfl (AS.q hC rfl rfl rfl rfl ?_))))
      exact AS.g [0] (ih0 _ _ hx2) rfl rfl rfl rfl rfl rfl rfl rfl rfl rfl rfl rfl (AS.q hC rfl rfl rfl rfl (AS.q hC rfl rfl rfl rfl (AS.q hC rfl rfl rfl rfl (AS.nil (g' [0] (ih0 _ _ hx3) rfl rfl rfl rfl rfl rfl (c' (B1d hx4) rfl rfl (I0.s hC rfl (n' (re' (rt' rfl rfl rfl))))))))))
    refine t' rfl (ci' rfl hh (fun hh => ?_) (fun hh => ?_))
    · obtain ⟨x5, hx5, hh⟩ := bs' hh
      obtain ⟨x6, hx6, hh⟩ := bs' hh
      cases hh
      refine S' (AEx.drawL hC 6 [5] [] [[.map (.s (N0.ents m)), .row [.mp 0] 151, .row (D0.cells x) 53, .row [.d (.int .i64 0), .d (.int .i64 0)] 85], [.map (.s (N0.ents m)), .row [.mp 0] 151, .row (D0.cells x) 53, .row [.d (.int .i64 0), .d (.int .i64 0)] 85]] rfl rfl rfl rfl rfl rfl rfl rfl rfl rfl (AS.q hC rfl rfl rfl rfl (AS.q hC rfl rfl rfl rfl (AS.q hC rfl rfl rfl rfl ?_))))
      exact AS.q hC rfl rfl rfl rfl (AS.q hC rfl rfl rfl rfl (AS.g [0] (ih0 _ _ hx5) rfl rfl rfl rfl rfl rfl rfl rfl rfl rfl rfl rfl (AS.nil (c' (J15 hx6) rfl rfl (I0.s hC rfl (n' (re' (rt' rfl rfl rfl))))))))
    refine t' rfl (ci' rfl hh (fun hh => ?_) (fun hh => ?_))
    · obtain ⟨x7, hx7, hh⟩ := bs' hh
      obtain ⟨x8, hx8, hh⟩ := bs' hh
      cases hh
      refine S' (AEx.drawL hC 10 [9] [] [[.map (.s (N0.ents m)), .row [.mp 0] 151, .row (D0.cells x) 53, .row [.d (.int .i64 0), .d (.int .i64 0)] 85], [.map (.s (N0.ents m)), .row [.mp 0] 151, .row (D0.cells x) 53, .row [.d (.int .i64 0), .d (.int .i64 0)] 85]] rfl rfl rfl rfl rfl rfl rfl rfl rfl rfl (AS.q hC rfl rfl rfl rfl (AS.q hC rfl rfl rfl rfl (AS.q hC rfl rfl rfl rfl ?_))))
      iterate 6 refine AS.q hC rfl rfl rfl rfl ?_
      exact AS.g [0] (ih0 _ _ hx7) rfl rfl rfl rfl rfl rfl rfl rfl rfl rfl rfl rfl (AS.nil (c' (J15 hx8) rfl rfl (I0.s hC rfl (n' (re' (rt' rfl rfl rfl))))))
    cases hh
    exact sk' (p' 1 rfl (I0.s hC rfl (n' (re' (rt' rfl rfl rfl)))))
theorem Cu {l m res} (hh : I2 l m = some res) : Kv l m res := (Yk m).1 _ _ hh
theorem B1w {l m o3 v11 res} (hh : V3 l m o3 v11 = some res) : Wr l m o3 v11 res := (Yk m).2.1 _ _ _ _ hh
theorem Q20 {x m res} (hh : I7 x m = some res) : Tw x m res := (Yk m).2.2 _ _ hh
def M4 (p : K0) (m2 : List (Str × N0)) (v11 : Int) : Option N0 :=
  if (decide (v11 < ((p.Decls).length : Int))) = true then
    idx p.Decls v11 >>= fun x1 =>
    if (x1.Kind == 6) = true then
      I2 x1.Body m2 >>= fun x2 =>
      M4 p (mpt x1.Name x2 m2) (IntKind.i64.wrap (v11 + 1))
    else
      M4 p m2 (IntKind.i64.wrap (v11 + 1))
  else
    I2 p.Body m2 >>= fun x3 =>
    some x3
  partial_fixpoint
abbrev Kz (p : K0) (m2 : List (Str × N0)) (v11 : Int) (res : N0) : Prop := LM C 31 0 Tryz.f45 [1, 1, 0, 1, 4] [(1, .ref 0 0), (2, .ref 1 0), (3, .ref 3 0), (9, .d (.sl (B0.rows p.Decls))), (10, .d (.int .i64 ((p.Decls).length : Int))), (11, .d (.int .i64 v11))] [.row (K0.cells p) 25, .row [.d (.int .i64 0), .d (.int .i64 0)] 85, .map (.s (N0.ents m2)), .row [.mp 2] 151] (Ret [] (.agg (N0.cells res)))
theorem C1d (p : K0) : (∀ m2 v11 res, M4 p m2 v11 = some res → Kz p m2 v11 res) := by
  refine M4.partial_correctness p _ ?_
  · intro g0 ih0 m2 v11 res hh
    refine Z0.unroll (t' rfl (S' (ci' rfl hh (fun hh => ?_) (fun hh => ?_))))
    · obtain ⟨x1, hx1, hh⟩ := bs' hh
      refine sk' (S' (bk' (s' rfl rfl (i' rfl (W0 hx1) (B0.idx hx1) rfl (q' rfl (I0.nf hC rfl (I0.s hC rfl (n' (t' rfl (ci' rfl hh (fun hh => ?_) (fun hh => ?_)))))))))))
      · obtain ⟨x2, hx2, hh⟩ := bs' hh
        refine AEx.drawL hC 8 [7] [] [[.row (K0.cells p) 25, .row [.d (.int .i64 0), .d (.int .i64 0)] 85, .map (.s (N0.ents m2)), .row [.mp 2] 151, .row (B0.cells x1) 59], [.row (K0.cells p) 25, .row [.d (.int .i64 0), .d (.int .i64 0)] 85, .map (.s (N0.ents m2)), .row [.mp 2] 151, .row (B0.cells x1) 59]] rfl rfl rfl rfl rfl rfl rfl rfl rfl rfl ?_
        iterate 7 refine AS.q hC rfl rfl rfl rfl ?_
        exact AS.g [2] (Cu hx2) rfl rfl rfl rfl rfl rfl rfl rfl rfl rfl rfl rfl (AS.nil (I0.ue hC rfl (N0.mput _ x2 _) rfl (n' (T' rfl (lw' (ih0 _ _ _ hh) rfl rfl rfl)))))
      exact sk' (T' rfl (lw' (ih0 _ _ _ hh) rfl rfl rfl))
    obtain ⟨x3, hx3, hh⟩ := bs' hh
    cases hh
    exact ex' (p' 3 rfl (g' [2] (Cu hx3) rfl rfl rfl rfl rfl rfl (I0.s hC rfl (n' (re' (rt' rfl rfl rfl))))))
theorem V1e {p m2 v11 res} (hh : M4 p m2 v11 = some res) : Kz p m2 v11 res := (C1d p) _ _ _ hh
def Ue (p : K0) : Option N0 :=
  M4 p [] 0
theorem F12 {p res} (hh : Ue p = some res) : S0 C 45 [.agg (K0.cells p)] [] (Ret [] (.agg (N0.cells res))) := by
  unfold Ue at hh
  refine S0.intro hC Tryz.func45 rfl rfl rfl (s' rfl rfl (I0.n hC rfl (I0.n hC rfl (n' (s' rfl rfl (I0.w rfl (q' rfl (I0.n hC rfl (I0.s hC rfl (n' (S' (p' 2 rfl (qe' rfl trivial (B0.lenA _) ?_)))))))))))))
  exact e' rfl (bk' (fw' (V1e hh) rfl rfl rfl))
end Go.Proofs.YtdkabnfphmmmnaaGreatDoor

set_option maxRecDepth 100000
set_option maxHeartbeats 4000000
set_option synthInstance.maxSize 2000
set_option linter.unusedVariables false
namespace Go.Proofs.YtdkabnfphmmmnaaGreatDoor
open Go.Am
mutual
def E2 (c : F0) (m0 : List (Int × Int)) (scalars : Int) (hatches1 : Int) (v23 : Int) : Option Int :=
  if (decide (v23 < ((c.p.Decls).length : Int))) = true then
    idx c.p.Decls v23 >>= fun x1 =>
    some (Dt x1.Kind m0) >>= fun x2 =>
    if (x1.Kind == 5) = true then
      C4 c m0 x1 scalars (IntKind.i64.wrap (hatches1 + 1)) v23 x2 v23
    else
      C4 c m0 x1 scalars hatches1 v23 x2 v23
  else
    Ue c.p >>= fun x5 =>
    if (decide (scalars > 64)) = true then
      if (decide (scalars > 64)) = true then
        some 4
      else
        some 0
    else
      if (decide (hatches1 > 8)) = true then
        if (decide (hatches1 > 8)) = true then
          some 4
        else
          some 0
      else
        some (Dt 1 m0) >>= fun x6 =>
        if (decide ((x6.getD ei64.zero) > 4096)) = true then
          if (decide ((x6.getD ei64.zero) > 4096)) = true then
            some 4
          else
            some 0
        else
          some (Dt 2 m0) >>= fun x7 =>
          if (decide ((x7.getD ei64.zero) > 4096)) = true then
            if (decide ((x7.getD ei64.zero) > 4096)) = true then
              some 4
            else
              some 0
          else
            some (Dt 3 m0) >>= fun x8 =>
            if (decide ((x8.getD ei64.zero) > 256)) = true then
              if (decide ((x8.getD ei64.zero) > 256)) = true then
                some 4
              else
                some 0
            else
              if (decide (x5.steps > 4096)) = true then
                if (decide (x5.steps > 4096)) = true then
                  some 4
                else
                  some 0
              else
                if (decide (x5.outputs > 8)) = true then
                  some 4
                else
                  some 0
  partial_fixpoint
def C4 (c : F0) (m01 : List (Int × Int)) (x1 : B0) (scalars1 : Int) (hatches : Int) (i : Int) (x2 : Option Int) (v231 : Int) : Option Int :=
  if (bif (!x2.isSome) then (x1.Kind != 4) else false) = true then
    E2 c m01 scalars1 hatches (IntKind.i64.wrap (v231 + 1))
  else
    C3 c x1.TypeV i >>= fun x3 =>
    Bm x3 >>= fun x4 =>
    Y2 c m01 x1 (IntKind.i64.wrap (scalars1 + ((x4.1).length : Int))) hatches (x2.getD ei64.zero) x2 v231 x4 0
  partial_fixpoint
def Y2 (c : F0) (m02 : List (Int × Int)) (x1 : B0) (scalars2 : Int) (hatches : Int) (n : Int) (x2 : Option Int) (v231 : Int) (x4 : List R0 × Int) (v62 : Int) : Option Int :=
  if (decide (v62 < ((x4.1).length : Int))) = true then
    idx x4.1 v62 >>= fun x9 =>
    if x2.isSome = true then
      Yh n (IntKind.i64.wrap ((IntKind.i64.wrap (x9.High - x9.Low)) + 1)) >>= fun x10 =>
      Y2 c m02 x1 scalars2 hatches x10 x2 v231 x4 (IntKind.i64.wrap (v62 + 1))
    else
      Y2 c m02 x1 scalars2 hatches n x2 v231 x4 (IntKind.i64.wrap (v62 + 1))
  else
    if x2.isSome = true then
      E2 c (W19 x1.Kind n m02) scalars2 hatches (IntKind.i64.wrap (v231 + 1))
    else
      E2 c m02 scalars2 hatches (IntKind.i64.wrap (v231 + 1))
  partial_fixpoint
end
abbrev Xq (c : F0) (m0 : List (Int × Int)) (scalars : Int) (hatches1 : Int) (v23 : Int) (res : Int) : Prop := LM C 107 0 Tryz.f33 [1, 1, 1, 0, 1, 4] [(0, .d (.box (F0.row c))), (3, .d (.int .i64 scalars)), (4, .d (.int .i64 hatches1)), (5, .mp 0), (21, .d (.sl (B0.rows c.p.Decls))), (22, .d (.int .i64 ((c.p.Decls).length : Int))), (23, .d (.int .i64 v23))] [.map (.i .i64 (ei64.entsI m0))] (Ret [] (.d (.int .i64 res)))
abbrev Yq (c : F0) (m01 : List (Int × Int)) (x1 : B0) (scalars1 : Int) (hatches : Int) (i : Int) (x2 : Option Int) (v231 : Int) (res : Int) : Prop := JM C 107 0 Tryz.f33 [1, 1, 1, 0, 1, 4, 5, 1, 1, 0, 4, 1, 1, 1] [(0, .d (.box (F0.row c))), (3, .d (.int .i64 scalars1)), (4, .d (.int .i64 hatches)), (5, .mp 0), (6, .d (.int .i64 i)), (7, .ref 1 0), (8, .d (.int .i64 (x2.getD ei64.zero))), (9, .d (.bool x2.isSome)), (21, .d (.sl (B0.rows c.p.Decls))), (22, .d (.int .i64 ((c.p.Decls).length : Int))), (23, .d (.int .i64 v231))] [.map (.i .i64 (ei64.entsI m01)), .row (B0.cells x1) 59] (Ret [] (.d (.int .i64 res)))
abbrev Zq (c : F0) (m02 : List (Int × Int)) (x1 : B0) (scalars2 : Int) (hatches : Int) (n : Int) (x2 : Option Int) (v231 : Int) (x4 : List R0 × Int) (v62 : Int) (res : Int) : Prop := LM C 107 0 Tryz.f33 [1, 1, 1, 0, 1, 4, 5, 1, 1, 0, 4, 1, 1, 1, 1, 1, 1, 0, 1, 4] [(0, .d (.box (F0.row c))), (3, .d (.int .i64 scalars2)), (4, .d (.int .i64 hatches)), (5, .mp 0), (7, .ref 1 0), (8, .d (.int .i64 n)), (9, .d (.bool x2.isSome)), (21, .d (.sl (B0.rows c.p.Decls))), (22, .d (.int .i64 ((c.p.Decls).length : Int))), (23, .d (.int .i64 v231)), (60, .d (.sl (R0.rows x4.1))), (61, .d (.int .i64 ((x4.1).length : Int))), (62, .d (.int .i64 v62))] [.map (.i .i64 (ei64.entsI m02)), .row (B0.cells x1) 59] (Ret [] (.d (.int .i64 res)))
theorem Ph (c : F0) : (∀ m0 scalars hatches1 v23 res, E2 c m0 scalars hatches1 v23 = some res → Xq c m0 scalars hatches1 v23 res) ∧ (∀ m01 x1 scalars1 hatches i x2 v231 res, C4 c m01 x1 scalars1 hatches i x2 v231 = some res → Yq c m01 x1 scalars1 hatches i x2 v231 res) ∧ (∀ m02 x1 scalars2 hatches n x2 v231 x4 v62 res, Y2 c m02 x1 scalars2 hatches n x2 v231 x4 v62 = some res → Zq c m02 x1 scalars2 hatches n x2 v231 x4 v62 res) := by
  refine E2.mutual_partial_correctness c _ _ _ ?_ ?_ ?_
  · intro g1 ih1 m0 scalars hatches1 v23 res hh
    refine Z0.unroll (t' rfl (S' (ci' rfl hh (fun hh => ?_) (fun hh => ?_))))
    · obtain ⟨x1, hx1, hh⟩ := bs' hh
      obtain ⟨x2, hx2, hh⟩ := bs' hh
      refine sk' (S' (bk' (p' 1 rfl (i' rfl (W0 hx1) (B0.idx hx1) rfl (q' rfl (I0.nf hC rfl (q' rfl (I0.s hC rfl (n' (p' 3 rfl (I0.mi hC rfl (ei64.lkIT hx2) (e' rfl (S' ?_)))))))))))))
      refine t' rfl (ci' rfl hh (fun hh => ?_) (fun hh => ?_))
      · exact T' rfl (ew' (ih1 _ _ _ _ _ _ _ _ hh) rfl rfl rfl)
      exact sk' (ew' (ih1 _ _ _ _ _ _ _ _ hh) rfl rfl rfl)
    obtain ⟨x5, hx5, hh⟩ := bs' hh
    refine ex' (p' 4 rfl (c' (F12 hx5) rfl rfl (I0.n hC rfl (I0.s hC rfl (n' (S' (bk' (S' (t' rfl (ci' rfl hh (fun hh => ?_) (fun hh => ?_)))))))))))
    · refine sk' (ci' rfl hh (fun hh => ?_) (fun hh => ?_))
      · cases hh
        exact t' rfl (re' (rt' rfl rfl rfl))
      cases hh
      exact sk' (t' rfl (re' (rt' rfl rfl rfl)))
    refine t' rfl (ci' rfl hh (fun hh => ?_) (fun hh => ?_))
    · refine sk' (ci' rfl hh (fun hh => ?_) (fun hh => ?_))
      · cases hh
        exact t' rfl (re' (rt' rfl rfl rfl))
      cases hh
      exact sk' (t' rfl (re' (rt' rfl rfl rfl)))
    obtain ⟨x6, hx6, hh⟩ := bs' hh
    refine p' 1 rfl (I0.mi hC rfl (ei64.lkI hx6) (e' rfl (ci' rfl hh (fun hh => ?_) (fun hh => ?_))))
    · refine sk' (ci' rfl hh (fun hh => ?_) (fun hh => ?_))
      · cases hh
        exact t' rfl (re' (rt' rfl rfl rfl))
      cases hh
      exact sk' (t' rfl (re' (rt' rfl rfl rfl)))
    obtain ⟨x7, hx7, hh⟩ := bs' hh
    refine p' 1 rfl (I0.mi hC rfl (ei64.lkI hx7) (e' rfl (ci' rfl hh (fun hh => ?_) (fun hh => ?_))))
    · refine sk' (ci' rfl hh (fun hh => ?_) (fun hh => ?_))
      · cases hh
        exact t' rfl (re' (rt' rfl rfl rfl))
      cases hh
      exact sk' (t' rfl (re' (rt' rfl rfl rfl)))
    obtain ⟨x8, hx8, hh⟩ := bs' hh
    refine p' 1 rfl (I0.mi hC rfl (ei64.lkI hx8) (e' rfl (ci' rfl hh (fun hh => ?_) (fun hh => ?_))))
    · refine sk' (ci' rfl hh (fun hh => ?_) (fun hh => ?_))
      · cases hh
        exact t' rfl (re' (rt' rfl rfl rfl))
      cases hh
      exact sk' (t' rfl (re' (rt' rfl rfl rfl)))
    refine t' rfl (ci' rfl hh (fun hh => ?_) (fun hh => ?_))
    · refine sk' (ci' rfl hh (fun hh => ?_) (fun hh => ?_))
      · cases hh
        exact t' rfl (re' (rt' rfl rfl rfl))
      cases hh
      exact sk' (t' rfl (re' (rt' rfl rfl rfl)))
    refine T' rfl (ci' rfl hh (fun hh => ?_) (fun hh => ?_))
    · cases hh
      exact t' rfl (re' (rt' rfl rfl rfl))
    cases hh
    exact sk' (t' rfl (re' (rt' rfl rfl rfl)))
  · intro g0 g2 ih0 ih2 m01 x1 scalars1 hatches i x2 v231 res hh
    refine S' (sg' 7 rfl (G' 4 rfl (a1' rfl (a1' rfl (pa' rfl (an' (n' (ci' rfl hh (fun hh => ?_) (fun hh => ?_)))))))))
    · exact ex' (T' rfl (lw' (ih0 _ _ _ _ _ hh) rfl rfl rfl))
    obtain ⟨x3, hx3, hh⟩ := bs' hh
    obtain ⟨x4, hx4, hh⟩ := bs' hh
    exact sk' (p' 4 rfl (c' (F9 hx3) rfl rfl (c' (J1s hx4) rfl rfl (e' rfl (p' 2 rfl (qe' rfl trivial (R0.lenA _) (e' rfl (S' (p' 1 rfl (qe' rfl trivial (R0.lenA _) (e' rfl (bk' (fw' (ih2 _ _ _ _ _ _ _ _ _ _ hh) rfl rfl rfl)))))))))))))
  · intro g0 g2 ih0 ih2 m02 x1 scalars2 hatches n x2 v231 x4 v62 res hh
    refine Z0.unroll (t' rfl (S' (ci' rfl hh (fun hh => ?_) (fun hh => ?_))))
    · obtain ⟨x9, hx9, hh⟩ := bs' hh
      refine sk' (S' (bk' (s' rfl rfl (i' rfl (W0 hx9) (R0.idx hx9) rfl (q' rfl (I0.n hC rfl (I0.s hC rfl (n' (t' rfl (ci' rfl hh (fun hh => ?_) (fun hh => ?_)))))))))))
      · obtain ⟨x10, hx10, hh⟩ := bs' hh
        exact P' 7 rfl (c' (Sw hx10) rfl rfl (e' rfl (T' rfl (lw' (ih2 _ _ _ _ _ _ _ _ _ _ hh) rfl rfl rfl))))
      exact sk' (T' rfl (lw' (ih2 _ _ _ _ _ _ _ _ _ _ hh) rfl rfl rfl))
    refine ex' (t' rfl (ci' rfl hh (fun hh => ?_) (fun hh => ?_)))
    · exact P' 4 rfl (I0.ui hC rfl (ei64.mputI _ n _) rfl (n' (T' rfl (lw' (ih0 _ _ _ _ _ hh) rfl rfl rfl))))
    exact sk' (T' rfl (lw' (ih0 _ _ _ _ _ hh) rfl rfl rfl))
theorem G12 {c m0 scalars hatches1 v23 res} (hh : E2 c m0 scalars hatches1 v23 = some res) : Xq c m0 scalars hatches1 v23 res := (Ph c).1 _ _ _ _ _ hh
theorem V1u {c m01 x1 scalars1 hatches i x2 v231 res} (hh : C4 c m01 x1 scalars1 hatches i x2 v231 = some res) : Yq c m01 x1 scalars1 hatches i x2 v231 res := (Ph c).2.1 _ _ _ _ _ _ _ _ hh
theorem W1u {c m02 x1 scalars2 hatches n x2 v231 x4 v62 res} (hh : Y2 c m02 x1 scalars2 hatches n x2 v231 x4 v62 = some res) : Zq c m02 x1 scalars2 hatches n x2 v231 x4 v62 res := (Ph c).2.2 _ _ _ _ _ _ _ _ _ _ hh
def R9 (c : F0) : Option Int :=
  E2 c (W19 3 1 (W19 2 1 (W19 1 1 []))) 0 0 0
theorem I18 {c res} (hh : R9 c = some res) : S0 C 33 [.d (.box (F0.row c))] [] (Ret [] (.d (.int .i64 res))) := by
  unfold R9 at hh
  exact S0.intro hC Tryz.func33 rfl rfl rfl (t' rfl (t' rfl (s' rfl rfl (I0.wi .i64 rfl (I0.ui hC rfl (ei64.mputI _ 1 []) rfl (I0.ui hC rfl (ei64.mputI _ 1 _) rfl (I0.ui hC rfl (ei64.mputI _ 1 _) rfl (e' rfl (S' (p' 5 rfl (qe' rfl trivial (B0.lenA _) (e' rfl (bk' (fw' (G12 hh) rfl rfl rfl))))))))))))))
def E6 (p : K0) (x3 : F0) (v46 : Int) : Option (Int × Int) :=
  if (decide (v46 < ((p.Decls).length : Int))) = true then
    C9 x3 v46 >>= fun x5 =>
    if (x5 != 0) = true then
      some (v46, x5)
    else
      E6 p x3 (IntKind.i64.wrap (v46 + 1))
  else
    E5 x3 ((p.Decls).length : Int) true >>= fun x6 =>
    D2 x3 x6 p.Body true >>= fun x7 =>
    if (x7 != 0) = true then
      some ((-1), x7)
    else
      R9 x3 >>= fun x8 =>
      some ((-1), x8)
  partial_fixpoint
abbrev H12 (p : K0) (x3 : F0) (v46 : Int) (res : Int × Int) : Prop := LM C 71 0 Tryz.f13 [1, 1, 1, 1, 1, 0, 1, 4] [(1, .ref 0 0), (5, .d (.box (F0.row x3))), (45, .d (.int .i64 ((p.Decls).length : Int))), (46, .d (.int .i64 v46))] [.row (K0.cells p) 25] (Ret [] (.tup [.d (.int .i64 res.1), .d (.int .i64 res.2)]))
theorem T1g (p : K0) (x3 : F0) : (∀ v46 res, E6 p x3 v46 = some res → H12 p x3 v46 res) := by
  refine E6.partial_correctness p x3 _ ?_
  · intro g0 ih0 v46 res hh
    refine Z0.unroll (t' rfl (S' (ci' rfl hh (fun hh => ?_) (fun hh => ?_))))
    · obtain ⟨x5, hx5, hh⟩ := bs' hh
      refine sk' (S' (bk' (t' rfl (p' 2 rfl (c' (Y1b hx5) rfl rfl (e' rfl (t' rfl (ci' rfl hh (fun hh => ?_) (fun hh => ?_)))))))))
      · cases hh
        exact t' rfl (re' (rt' rfl rfl rfl))
      exact sk' (T' rfl (lw' (ih0 _ _ hh) rfl rfl rfl))
    obtain ⟨x6, hx6, hh⟩ := bs' hh
    obtain ⟨x7, hx7, hh⟩ := bs' hh
    refine ex' (S' (S' (AEx.draw hC 10 rfl rfl rfl (O' 4 rfl (AQ.qe hC rfl trivial (B0.lenA _) (Qc' (A1 hx6) rfl rfl (O' 2 rfl (Qc' (Bu hx7) rfl rfl (E' rfl (n' (t' rfl (ci' rfl hh (fun hh => ?_) (fun hh => ?_)))))))))))))
    · cases hh
      exact t' rfl (re' (rt' rfl rfl rfl))
    obtain ⟨x8, hx8, hh⟩ := bs' hh
    cases hh
    exact sk' (p' 1 rfl (c' (I18 hx8) rfl rfl (e' rfl (re' (rt' rfl rfl rfl)))))
theorem N1i {p x3 v46 res} (hh : E6 p x3 v46 = some res) : H12 p x3 v46 res := (T1g p x3) _ _ hh
def F6 (p : K0) (m1 : List (Str × Bool)) (v27 : Int) : Option (Int × Int) :=
  if (decide (v27 < ((p.Decls).length : Int))) = true then
    idx p.Decls v27 >>= fun x2 =>
    F6 p (mpt x2.Name true m1) (IntKind.i64.wrap (v27 + 1))
  else
    some (F0.mk p ((p.Decls).length : Int) false m1) >>= fun x3 =>
    A8 x3 >>= fun x4 =>
    if (decide (x4 ≥ 0)) = true then
      some (x4, 8)
    else
      E6 p x3 0
  partial_fixpoint
abbrev I12 (p : K0) (m1 : List (Str × Bool)) (v27 : Int) (res : Int × Int) : Prop := LM C 71 0 Tryz.f13 [1, 1, 1, 0, 1, 4] [(1, .ref 0 0), (5, .ref 2 0), (25, .d (.sl (B0.rows p.Decls))), (26, .d (.int .i64 ((p.Decls).length : Int))), (27, .d (.int .i64 v27))] [.row (K0.cells p) 25, .map (.s (ebool.ents m1)), .row [.d (.sl (B0.rows p.Decls)), .d (.sl (D0.rows p.Body)), .d (.int .i64 ((p.Decls).length : Int)), .d (.bool false), .mp 1] 66] (Ret [] (.tup [.d (.int .i64 res.1), .d (.int .i64 res.2)]))
theorem U1g (p : K0) : (∀ m1 v27 res, F6 p m1 v27 = some res → I12 p m1 v27 res) := by
  refine F6.partial_correctness p _ ?_
  · intro g0 ih0 m1 v27 res hh
    refine Z0.unroll (t' rfl (S' (ci' rfl hh (fun hh => ?_) (fun hh => ?_))))
    · obtain ⟨x2, hx2, hh⟩ := bs' hh
      exact sk' (S' (bk' (s' rfl rfl (i' rfl (W0 hx2) (B0.idx hx2) rfl (q' rfl (I0.nf hC rfl (I0.s hC rfl (n' (AEx.draw hC 6 rfl rfl rfl (E' rfl (I0.ue hC rfl (ebool.mput _ true _) rfl (n' (T' rfl (lw' (ih0 _ _ _ hh) rfl rfl rfl))))))))))))))
    obtain ⟨x3, hx3, hh⟩ := bs' hh
    obtain ⟨x4, hx4, hh⟩ := bs' hh
    refine ex' (S' (p' 1 rfl (I0.fm 1 rfl rfl (I0.bx 2 (y := .box (F0.row x3)) (by cases hx3; exact .inl rfl) rfl rfl rfl (c' (Z11 hx4) rfl rfl (e' rfl (t' rfl (ci' rfl hh (fun hh => ?_) (fun hh => ?_)))))))))
    · cases hh
      exact t' rfl (re' (rt' rfl rfl rfl))
    exact sk' (S' (p' 2 rfl (qe' rfl trivial (B0.lenA _) (e' rfl (bk' (fw' (N1i hh) rfl rfl rfl))))))
theorem O1i {p m1 v27 res} (hh : F6 p m1 v27 = some res) : I12 p m1 v27 res := (U1g p) _ _ _ hh
def R8 (p : K0) : Option (Int × Int) :=
  On p >>= fun x1 =>
  if (x1 != 0) = true then
    some ((-1), x1)
  else
    F6 p [] 0
theorem Zk {p res} (hh : R8 p = some res) : S0 C 13 [.agg (K0.cells p)] [] (Ret [] (.tup [.d (.int .i64 res.1), .d (.int .i64 res.2)])) := by
  unfold R8 at hh
  obtain ⟨x1, hx1, hh⟩ := bs' hh
  refine S0.intro hC Tryz.func13 rfl rfl rfl (s' rfl rfl (I0.n hC rfl (e' rfl (S' (p' 1 rfl (c' (T1u hx1) rfl rfl (e' rfl (t' rfl (ci' rfl hh (fun hh => ?_) (fun hh => ?_))))))))))
  · cases hh
    exact t' rfl (re' (rt' rfl rfl rfl))
  exact sk' (p' 3 rfl (qe' rfl trivial (B0.lenA _) (I0.w rfl (q' rfl (I0.n hC rfl (e' rfl (S' (p' 2 rfl (qe' rfl trivial (B0.lenA _) (e' rfl (bk' (fw' (O1i hh) rfl rfl rfl))))))))))))
def Tn (e : C0) : Option Int :=
  P3 e 1 (E0.mk 0 0 false false false) >>= fun x1 =>
  E7 x1 >>= fun x2 =>
  some x2
theorem Z1l {e res} (hh : Tn e = some res) : S0 C 41 [.agg (C0.cells e)] [] (Ret [] (.d (.int .i64 res))) := by
  unfold Tn at hh
  obtain ⟨x1, hx1, hh⟩ := bs' hh
  obtain ⟨x2, hx2, hh⟩ := bs' hh
  cases hh
  exact S0.intro hC Tryz.func41 rfl rfl rfl (s' rfl rfl (I0.n hC rfl (e' rfl (p' 1 rfl (I0.n hC rfl (e' rfl (p' 2 rfl (g' [1] (Tr hx1) rfl rfl rfl rfl rfl rfl (n' (p' 1 rfl (g' [1] (Ur hx2) rfl rfl rfl rfl rfl rfl (e' rfl (re' (rt' rfl rfl rfl))))))))))))))
def Un (p : K0) (e : C0) : Option (A0 × Int) :=
  R8 p >>= fun x1 =>
  if (x1.2 != 0) = true then
    some ((A0.mk 0 0 0 0 [] [] []), x1.2)
  else
    Tn e >>= fun x2 =>
    if (x2 != 0) = true then
      some ((A0.mk 0 0 0 0 [] [] []), x2)
    else
      some (F0.mk p 0 false []) >>= fun x3 =>
      E5 x3 ((p.Decls).length : Int) true >>= fun x4 =>
      G4 x4 e >>= fun x5 =>
      some (x5.1, x5.2)
theorem A1m {p e res} (hh : Un p e = some res) : S0 C 16 [.agg (K0.cells p), .agg (C0.cells e)] [] (Ret [] (.tup [.agg (A0.cells res.1), .d (.int .i64 res.2)])) := by
  unfold Un at hh
  obtain ⟨x1, hx1, hh⟩ := bs' hh
  refine S0.intro hC Tryz.func16 rfl rfl rfl (s' rfl rfl (I0.n hC rfl (I0.n hC rfl (I0.nf hC rfl (e' rfl (S' (p' 1 rfl (c' (Zk hx1) rfl rfl (e' rfl (t' rfl (ci' rfl hh (fun hh => ?_) (fun hh => ?_))))))))))))
  · cases hh
    exact p' 2 rfl (I0.s hC rfl (e' rfl (re' (rt' rfl rfl rfl))))
  obtain ⟨x2, hx2, hh⟩ := bs' hh
  refine sk' (S' (p' 1 rfl (c' (Z1l hx2) rfl rfl (e' rfl (t' rfl (ci' rfl hh (fun hh => ?_) (fun hh => ?_)))))))
  · cases hh
    exact p' 2 rfl (I0.s hC rfl (e' rfl (re' (rt' rfl rfl rfl))))
  obtain ⟨x3, hx3, hh⟩ := bs' hh
  obtain ⟨x4, hx4, hh⟩ := bs' hh
  obtain ⟨x5, hx5, hh⟩ := bs' hh
  refine sk' (p' 2 rfl (I0.n hC rfl (e' rfl (S' (AEx.drawE hC ?_)))))
  refine U0.step rfl (j0 := 0) (js := [1, 5]) (by kernel_rfl) ⟨⟨_, rfl, ?_⟩, ⟨_, rfl, ?_⟩, ⟨_, rfl, ?_⟩, trivial⟩
  · refine e' rfl ?_
    refine U0.step rfl (j0 := 1) (js := [5]) (by kernel_rfl) ⟨⟨_, rfl, ?_⟩, ⟨_, rfl, ?_⟩, trivial⟩
    · refine e' rfl ?_
      refine U0.step rfl (j0 := 2) (js := [5]) (by kernel_rfl) ⟨⟨_, rfl, ?_⟩, ⟨_, rfl, ?_⟩, trivial⟩
      · refine e' rfl ?_
        refine U0.step rfl (j0 := 3) (js := [5]) (by kernel_rfl) ⟨⟨_, rfl, ?_⟩, ⟨_, rfl, ?_⟩, trivial⟩
        · refine qe' rfl trivial (B0.lenA _) (n' ?_)
          refine U0.step rfl (j0 := 4) (js := [5]) (by kernel_rfl) ⟨⟨_, rfl, ?_⟩, ⟨_, rfl, ?_⟩, trivial⟩
          · refine I0.bx 3 (y := .box (F0.row x3)) (by cases hx3; exact .inl rfl) rfl rfl rfl (c' (A1 hx4) rfl rfl (n' ?_))
            refine U0.step rfl (j0 := 5) (js := []) (by kernel_rfl) ⟨⟨_, rfl, ?_⟩, trivial⟩
            refine e' rfl ?_
            refine U0.step rfl (j0 := 6) (js := []) (by kernel_rfl) ⟨⟨_, rfl, ?_⟩, trivial⟩
            refine c' (N1 hx5) rfl rfl (n' ?_)
            refine U0.step rfl (j0 := 7) (js := [8]) (by kernel_rfl) ⟨⟨_, rfl, ?_⟩, ⟨_, rfl, ?_⟩, trivial⟩
            · refine e' rfl ?_
              refine U0.step rfl (j0 := 8) (js := []) (by kernel_rfl) ⟨⟨_, rfl, ?_⟩, trivial⟩
              refine e' rfl ?_
              refine U0.step rfl (j0 := 9) (js := []) (by kernel_rfl) ⟨⟨_, rfl, ?_⟩, trivial⟩
              refine I0.s hC rfl (n' ?_)
              refine U0.step rfl (j0 := 10) (js := []) (by kernel_rfl) ⟨⟨_, rfl, ?_⟩, trivial⟩
              cases hh
              exact e' rfl (U0.nil (by kernel_rfl) (re' (rt' rfl rfl rfl)))
            · refine e' rfl ?_
              refine U0.step rfl (j0 := 7) (js := []) (by kernel_rfl) ⟨⟨_, rfl, ?_⟩, trivial⟩
              refine e' rfl ?_
              refine U0.step rfl (j0 := 9) (js := []) (by kernel_rfl) ⟨⟨_, rfl, ?_⟩, trivial⟩
              refine I0.s hC rfl (n' ?_)
              refine U0.step rfl (j0 := 10) (js := []) (by kernel_rfl) ⟨⟨_, rfl, ?_⟩, trivial⟩
              cases hh
              exact e' rfl (U0.nil (by kernel_rfl) (re' (rt' rfl rfl rfl)))
          · refine e' rfl ?_
            refine U0.step rfl (j0 := 4) (js := []) (by kernel_rfl) ⟨⟨_, rfl, ?_⟩, trivial⟩
            refine I0.bx 3 (y := .box (F0.row x3)) (by cases hx3; exact .inl rfl) rfl rfl rfl (c' (A1 hx4) rfl rfl (n' ?_))
            refine U0.step rfl (j0 := 6) (js := []) (by kernel_rfl) ⟨⟨_, rfl, ?_⟩, trivial⟩
            refine c' (N1 hx5) rfl rfl (n' ?_)
            refine U0.step rfl (j0 := 7) (js := [8]) (by kernel_rfl) ⟨⟨_, rfl, ?_⟩, ⟨_, rfl, ?_⟩, trivial⟩
            · refine e' rfl ?_
              refine U0.step rfl (j0 := 8) (js := []) (by kernel_rfl) ⟨⟨_, rfl, ?_⟩, trivial⟩
              refine e' rfl ?_
              refine U0.step rfl (j0 := 9) (js := []) (by kernel_rfl) ⟨⟨_, rfl, ?_⟩, trivial⟩
              refine I0.s hC rfl (n' ?_)
              refine U0.step rfl (j0 := 10) (js := []) (by kernel_rfl) ⟨⟨_, rfl, ?_⟩, trivial⟩
              cases hh
              exact e' rfl (U0.nil (by kernel_rfl) (re' (rt' rfl rfl rfl)))
            · refine e' rfl ?_
              refine U0.step rfl (j0 := 7) (js := []) (by kernel_rfl) ⟨⟨_, rfl, ?_⟩, trivial⟩
              refine e' rfl ?_
              refine U0.step rfl (j0 := 9) (js := []) (by kernel_rfl) ⟨⟨_, rfl, ?_⟩, trivial⟩
              refine I0.s hC rfl (n' ?_)
              refine U0.step rfl (j0 := 10) (js := []) (by kernel_rfl) ⟨⟨_, rfl, ?_⟩, trivial⟩
              cases hh
              exact e' rfl (U0.nil (by kernel_rfl) (re' (rt' rfl rfl rfl)))
        · refine e' rfl ?_
          refine U0.step rfl (j0 := 3) (js := []) (by kernel_rfl) ⟨⟨_, rfl, ?_⟩, trivial⟩
          refine qe' rfl trivial (B0.lenA _) (n' ?_)
          refine U0.step rfl (j0 := 4) (js := []) (by kernel_rfl) ⟨⟨_, rfl, ?_⟩, trivial⟩
          refine I0.bx 3 (y := .box (F0.row x3)) (by cases hx3; exact .inl rfl) rfl rfl rfl (c' (A1 hx4) rfl rfl (n' ?_))
          refine U0.step rfl (j0 := 6) (js := []) (by kernel_rfl) ⟨⟨_, rfl, ?_⟩, trivial⟩
          refine c' (N1 hx5) rfl rfl (n' ?_)
          refine U0.step rfl (j0 := 7) (js := [8]) (by kernel_rfl) ⟨⟨_, rfl, ?_⟩, ⟨_, rfl, ?_⟩, trivial⟩
          · refine e' rfl ?_
            refine U0.step rfl (j0 := 8) (js := []) (by kernel_rfl) ⟨⟨_, rfl, ?_⟩, trivial⟩
            refine e' rfl ?_
            refine U0.step rfl (j0 := 9) (js := []) (by kernel_rfl) ⟨⟨_, rfl, ?_⟩, trivial⟩
            refine I0.s hC rfl (n' ?_)
            refine U0.step rfl (j0 := 10) (js := []) (by kernel_rfl) ⟨⟨_, rfl, ?_⟩, trivial⟩
            cases hh
            exact e' rfl (U0.nil (by kernel_rfl) (re' (rt' rfl rfl rfl)))
          · refine e' rfl ?_
            refine U0.step rfl (j0 := 7) (js := []) (by kernel_rfl) ⟨⟨_, rfl, ?_⟩, trivial⟩
            refine e' rfl ?_
            refine U0.step rfl (j0 := 9) (js := []) (by kernel_rfl) ⟨⟨_, rfl, ?_⟩, trivial⟩
            refine I0.s hC rfl (n' ?_)
            refine U0.step rfl (j0 := 10) (js := []) (by kernel_rfl) ⟨⟨_, rfl, ?_⟩, trivial⟩
            cases hh
            exact e' rfl (U0.nil (by kernel_rfl) (re' (rt' rfl rfl rfl)))
      · refine e' rfl ?_
        refine U0.step rfl (j0 := 2) (js := []) (by kernel_rfl) ⟨⟨_, rfl, ?_⟩, trivial⟩
        refine e' rfl ?_
        refine U0.step rfl (j0 := 3) (js := []) (by kernel_rfl) ⟨⟨_, rfl, ?_⟩, trivial⟩
        refine qe' rfl trivial (B0.lenA _) (n' ?_)
        refine U0.step rfl (j0 := 4) (js := []) (by kernel_rfl) ⟨⟨_, rfl, ?_⟩, trivial⟩
        refine I0.bx 3 (y := .box (F0.row x3)) (by cases hx3; exact .inl rfl) rfl rfl rfl (c' (A1 hx4) rfl rfl (n' ?_))
        refine U0.step rfl (j0 := 6) (js := []) (by kernel_rfl) ⟨⟨_, rfl, ?_⟩, trivial⟩
        refine c' (N1 hx5) rfl rfl (n' ?_)
        refine U0.step rfl (j0 := 7) (js := [8]) (by kernel_rfl) ⟨⟨_, rfl, ?_⟩, ⟨_, rfl, ?_⟩, trivial⟩
        · refine e' rfl ?_
          refine U0.step rfl (j0 := 8) (js := []) (by kernel_rfl) ⟨⟨_, rfl, ?_⟩, trivial⟩
          refine e' rfl ?_
          refine U0.step rfl (j0 := 9) (js := []) (by kernel_rfl) ⟨⟨_, rfl, ?_⟩, trivial⟩
          refine I0.s hC rfl (n' ?_)
          refine U0.step rfl (j0 := 10) (js := []) (by kernel_rfl) ⟨⟨_, rfl, ?_⟩, trivial⟩
          cases hh
          exact e' rfl (U0.nil (by kernel_rfl) (re' (rt' rfl rfl rfl)))
        · refine e' rfl ?_
          refine U0.step rfl (j0 := 7) (js := []) (by kernel_rfl) ⟨⟨_, rfl, ?_⟩, trivial⟩
          refine e' rfl ?_
          refine U0.step rfl (j0 := 9) (js := []) (by kernel_rfl) ⟨⟨_, rfl, ?_⟩, trivial⟩
          refine I0.s hC rfl (n' ?_)
          refine U0.step rfl (j0 := 10) (js := []) (by kernel_rfl) ⟨⟨_, rfl, ?_⟩, trivial⟩
          cases hh
          exact e' rfl (U0.nil (by kernel_rfl) (re' (rt' rfl rfl rfl)))
    · refine e' rfl ?_
      refine U0.step rfl (j0 := 1) (js := []) (by kernel_rfl) ⟨⟨_, rfl, ?_⟩, trivial⟩
      refine e' rfl ?_
      refine U0.step rfl (j0 := 2) (js := []) (by kernel_rfl) ⟨⟨_, rfl, ?_⟩, trivial⟩
      refine e' rfl ?_
      refine U0.step rfl (j0 := 3) (js := []) (by kernel_rfl) ⟨⟨_, rfl, ?_⟩, trivial⟩
      refine qe' rfl trivial (B0.lenA _) (n' ?_)
      refine U0.step rfl (j0 := 4) (js := []) (by kernel_rfl) ⟨⟨_, rfl, ?_⟩, trivial⟩
      refine I0.bx 3 (y := .box (F0.row x3)) (by cases hx3; exact .inl rfl) rfl rfl rfl (c' (A1 hx4) rfl rfl (n' ?_))
      refine U0.step rfl (j0 := 6) (js := []) (by kernel_rfl) ⟨⟨_, rfl, ?_⟩, trivial⟩
      refine c' (N1 hx5) rfl rfl (n' ?_)
      refine U0.step rfl (j0 := 7) (js := [8]) (by kernel_rfl) ⟨⟨_, rfl, ?_⟩, ⟨_, rfl, ?_⟩, trivial⟩
      · refine e' rfl ?_
        refine U0.step rfl (j0 := 8) (js := []) (by kernel_rfl) ⟨⟨_, rfl, ?_⟩, trivial⟩
        refine e' rfl ?_
        refine U0.step rfl (j0 := 9) (js := []) (by kernel_rfl) ⟨⟨_, rfl, ?_⟩, trivial⟩
        refine I0.s hC rfl (n' ?_)
        refine U0.step rfl (j0 := 10) (js := []) (by kernel_rfl) ⟨⟨_, rfl, ?_⟩, trivial⟩
        cases hh
        exact e' rfl (U0.nil (by kernel_rfl) (re' (rt' rfl rfl rfl)))
      · refine e' rfl ?_
        refine U0.step rfl (j0 := 7) (js := []) (by kernel_rfl) ⟨⟨_, rfl, ?_⟩, trivial⟩
        refine e' rfl ?_
        refine U0.step rfl (j0 := 9) (js := []) (by kernel_rfl) ⟨⟨_, rfl, ?_⟩, trivial⟩
        refine I0.s hC rfl (n' ?_)
        refine U0.step rfl (j0 := 10) (js := []) (by kernel_rfl) ⟨⟨_, rfl, ?_⟩, trivial⟩
        cases hh
        exact e' rfl (U0.nil (by kernel_rfl) (re' (rt' rfl rfl rfl)))
  · refine e' rfl ?_
    refine U0.step rfl (j0 := 0) (js := [2, 5]) (by kernel_rfl) ⟨⟨_, rfl, ?_⟩, ⟨_, rfl, ?_⟩, ⟨_, rfl, ?_⟩, trivial⟩
    · refine e' rfl ?_
      refine U0.step rfl (j0 := 2) (js := [5]) (by kernel_rfl) ⟨⟨_, rfl, ?_⟩, ⟨_, rfl, ?_⟩, trivial⟩
      · refine e' rfl ?_
        refine U0.step rfl (j0 := 3) (js := [5]) (by kernel_rfl) ⟨⟨_, rfl, ?_⟩, ⟨_, rfl, ?_⟩, trivial⟩
        · refine qe' rfl trivial (B0.lenA _) (n' ?_)
          refine U0.step rfl (j0 := 4) (js := [5]) (by kernel_rfl) ⟨⟨_, rfl, ?_⟩, ⟨_, rfl, ?_⟩, trivial⟩
          · refine I0.bx 3 (y := .box (F0.row x3)) (by cases hx3; exact .inl rfl) rfl rfl rfl (c' (A1 hx4) rfl rfl (n' ?_))
            refine U0.step rfl (j0 := 5) (js := []) (by kernel_rfl) ⟨⟨_, rfl, ?_⟩, trivial⟩
            refine e' rfl ?_
            refine U0.step rfl (j0 := 6) (js := []) (by kernel_rfl) ⟨⟨_, rfl, ?_⟩, trivial⟩
            refine c' (N1 hx5) rfl rfl (n' ?_)
            refine U0.step rfl (j0 := 7) (js := [8]) (by kernel_rfl) ⟨⟨_, rfl, ?_⟩, ⟨_, rfl, ?_⟩, trivial⟩
            · refine e' rfl ?_
              refine U0.step rfl (j0 := 8) (js := []) (by kernel_rfl) ⟨⟨_, rfl, ?_⟩, trivial⟩
              refine e' rfl ?_
              refine U0.step rfl (j0 := 9) (js := []) (by kernel_rfl) ⟨⟨_, rfl, ?_⟩, trivial⟩
              refine I0.s hC rfl (n' ?_)
              refine U0.step rfl (j0 := 10) (js := []) (by kernel_rfl) ⟨⟨_, rfl, ?_⟩, trivial⟩
              cases hh
              exact e' rfl (U0.nil (by kernel_rfl) (re' (rt' rfl rfl rfl)))
            · refine e' rfl ?_
              refine U0.step rfl (j0 := 7) (js := []) (by kernel_rfl) ⟨⟨_, rfl, ?_⟩, trivial⟩
              refine e' rfl ?_
              refine U0.step rfl (j0 := 9) (js := []) (by kernel_rfl) ⟨⟨_, rfl, ?_⟩, trivial⟩
              refine I0.s hC rfl (n' ?_)
              refine U0.step rfl (j0 := 10) (js := []) (by kernel_rfl) ⟨⟨_, rfl, ?_⟩, trivial⟩
              cases hh
              exact e' rfl (U0.nil (by kernel_rfl) (re' (rt' rfl rfl rfl)))
          · refine e' rfl ?_
            refine U0.step rfl (j0 := 4) (js := []) (by kernel_rfl) ⟨⟨_, rfl, ?_⟩, trivial⟩
            refine I0.bx 3 (y := .box (F0.row x3)) (by cases hx3; exact .inl rfl) rfl rfl rfl (c' (A1 hx4) rfl rfl (n' ?_))
            refine U0.step rfl (j0 := 6) (js := []) (by kernel_rfl) ⟨⟨_, rfl, ?_⟩, trivial⟩
            refine c' (N1 hx5) rfl rfl (n' ?_)
            refine U0.step rfl (j0 := 7) (js := [8]) (by kernel_rfl) ⟨⟨_, rfl, ?_⟩, ⟨_, rfl, ?_⟩, trivial⟩
            · refine e' rfl ?_
              refine U0.step rfl (j0 := 8) (js := []) (by kernel_rfl) ⟨⟨_, rfl, ?_⟩, trivial⟩
              refine e' rfl ?_
              refine U0.step rfl (j0 := 9) (js := []) (by kernel_rfl) ⟨⟨_, rfl, ?_⟩, trivial⟩
              refine I0.s hC rfl (n' ?_)
              refine U0.step rfl (j0 := 10) (js := []) (by kernel_rfl) ⟨⟨_, rfl, ?_⟩, trivial⟩
              cases hh
              exact e' rfl (U0.nil (by kernel_rfl) (re' (rt' rfl rfl rfl)))
            · refine e' rfl ?_
              refine U0.step rfl (j0 := 7) (js := []) (by kernel_rfl) ⟨⟨_, rfl, ?_⟩, trivial⟩
              refine e' rfl ?_
              refine U0.step rfl (j0 := 9) (js := []) (by kernel_rfl) ⟨⟨_, rfl, ?_⟩, trivial⟩
              refine I0.s hC rfl (n' ?_)
              refine U0.step rfl (j0 := 10) (js := []) (by kernel_rfl) ⟨⟨_, rfl, ?_⟩, trivial⟩
              cases hh
              exact e' rfl (U0.nil (by kernel_rfl) (re' (rt' rfl rfl rfl)))
        · refine e' rfl ?_
          refine U0.step rfl (j0 := 3) (js := []) (by kernel_rfl) ⟨⟨_, rfl, ?_⟩, trivial⟩
          refine qe' rfl trivial (B0.lenA _) (n' ?_)
          refine U0.step rfl (j0 := 4) (js := []) (by kernel_rfl) ⟨⟨_, rfl, ?_⟩, trivial⟩
          refine I0.bx 3 (y := .box (F0.row x3)) (by cases hx3; exact .inl rfl) rfl rfl rfl (c' (A1 hx4) rfl rfl (n' ?_))
          refine U0.step rfl (j0 := 6) (js := []) (by kernel_rfl) ⟨⟨_, rfl, ?_⟩, trivial⟩
          refine c' (N1 hx5) rfl rfl (n' ?_)
          refine U0.step rfl (j0 := 7) (js := [8]) (by kernel_rfl) ⟨⟨_, rfl, ?_⟩, ⟨_, rfl, ?_⟩, trivial⟩
          · refine e' rfl ?_
            refine U0.step rfl (j0 := 8) (js := []) (by kernel_rfl) ⟨⟨_, rfl, ?_⟩, trivial⟩
            refine e' rfl ?_
            refine U0.step rfl (j0 := 9) (js := []) (by kernel_rfl) ⟨⟨_, rfl, ?_⟩, trivial⟩
            refine I0.s hC rfl (n' ?_)
            refine U0.step rfl (j0 := 10) (js := []) (by kernel_rfl) ⟨⟨_, rfl, ?_⟩, trivial⟩
            cases hh
            exact e' rfl (U0.nil (by kernel_rfl) (re' (rt' rfl rfl rfl)))
          · refine e' rfl ?_
            refine U0.step rfl (j0 := 7) (js := []) (by kernel_rfl) ⟨⟨_, rfl, ?_⟩, trivial⟩
            refine e' rfl ?_
            refine U0.step rfl (j0 := 9) (js := []) (by kernel_rfl) ⟨⟨_, rfl, ?_⟩, trivial⟩
            refine I0.s hC rfl (n' ?_)
            refine U0.step rfl (j0 := 10) (js := []) (by kernel_rfl) ⟨⟨_, rfl, ?_⟩, trivial⟩
            cases hh
            exact e' rfl (U0.nil (by kernel_rfl) (re' (rt' rfl rfl rfl)))
      · refine e' rfl ?_
        refine U0.step rfl (j0 := 2) (js := []) (by kernel_rfl) ⟨⟨_, rfl, ?_⟩, trivial⟩
        refine e' rfl ?_
        refine U0.step rfl (j0 := 3) (js := []) (by kernel_rfl) ⟨⟨_, rfl, ?_⟩, trivial⟩
        refine qe' rfl trivial (B0.lenA _) (n' ?_)
        refine U0.step rfl (j0 := 4) (js := []) (by kernel_rfl) ⟨⟨_, rfl, ?_⟩, trivial⟩
        refine I0.bx 3 (y := .box (F0.row x3)) (by cases hx3; exact .inl rfl) rfl rfl rfl (c' (A1 hx4) rfl rfl (n' ?_))
        refine U0.step rfl (j0 := 6) (js := []) (by kernel_rfl) ⟨⟨_, rfl, ?_⟩, trivial⟩
        refine c' (N1 hx5) rfl rfl (n' ?_)
        refine U0.step rfl (j0 := 7) (js := [8]) (by kernel_rfl) ⟨⟨_, rfl, ?_⟩, ⟨_, rfl, ?_⟩, trivial⟩
        · refine e' rfl ?_
          refine U0.step rfl (j0 := 8) (js := []) (by kernel_rfl) ⟨⟨_, rfl, ?_⟩, trivial⟩
          refine e' rfl ?_
          refine U0.step rfl (j0 := 9) (js := []) (by kernel_rfl) ⟨⟨_, rfl, ?_⟩, trivial⟩
          refine I0.s hC rfl (n' ?_)
          refine U0.step rfl (j0 := 10) (js := []) (by kernel_rfl) ⟨⟨_, rfl, ?_⟩, trivial⟩
          cases hh
          exact e' rfl (U0.nil (by kernel_rfl) (re' (rt' rfl rfl rfl)))
        · refine e' rfl ?_
          refine U0.step rfl (j0 := 7) (js := []) (by kernel_rfl) ⟨⟨_, rfl, ?_⟩, trivial⟩
          refine e' rfl ?_
          refine U0.step rfl (j0 := 9) (js := []) (by kernel_rfl) ⟨⟨_, rfl, ?_⟩, trivial⟩
          refine I0.s hC rfl (n' ?_)
          refine U0.step rfl (j0 := 10) (js := []) (by kernel_rfl) ⟨⟨_, rfl, ?_⟩, trivial⟩
          cases hh
          exact e' rfl (U0.nil (by kernel_rfl) (re' (rt' rfl rfl rfl)))
    · refine e' rfl ?_
      refine U0.step rfl (j0 := 0) (js := [3, 5]) (by kernel_rfl) ⟨⟨_, rfl, ?_⟩, ⟨_, rfl, ?_⟩, ⟨_, rfl, ?_⟩, trivial⟩
      · refine e' rfl ?_
        refine U0.step rfl (j0 := 3) (js := [5]) (by kernel_rfl) ⟨⟨_, rfl, ?_⟩, ⟨_, rfl, ?_⟩, trivial⟩
        · refine qe' rfl trivial (B0.lenA _) (n' ?_)
          refine U0.step rfl (j0 := 4) (js := [5]) (by kernel_rfl) ⟨⟨_, rfl, ?_⟩, ⟨_, rfl, ?_⟩, trivial⟩
          · refine I0.bx 3 (y := .box (F0.row x3)) (by cases hx3; exact .inl rfl) rfl rfl rfl (c' (A1 hx4) rfl rfl (n' ?_))
            refine U0.step rfl (j0 := 5) (js := []) (by kernel_rfl) ⟨⟨_, rfl, ?_⟩, trivial⟩
            refine e' rfl ?_
            refine U0.step rfl (j0 := 6) (js := []) (by kernel_rfl) ⟨⟨_, rfl, ?_⟩, trivial⟩
            refine c' (N1 hx5) rfl rfl (n' ?_)
            refine U0.step rfl (j0 := 7) (js := [8]) (by kernel_rfl) ⟨⟨_, rfl, ?_⟩, ⟨_, rfl, ?_⟩, trivial⟩
            · refine e' rfl ?_
              refine U0.step rfl (j0 := 8) (js := []) (by kernel_rfl) ⟨⟨_, rfl, ?_⟩, trivial⟩
              refine e' rfl ?_
              refine U0.step rfl (j0 := 9) (js := []) (by kernel_rfl) ⟨⟨_, rfl, ?_⟩, trivial⟩
              refine I0.s hC rfl (n' ?_)
              refine U0.step rfl (j0 := 10) (js := []) (by kernel_rfl) ⟨⟨_, rfl, ?_⟩, trivial⟩
              cases hh
              exact e' rfl (U0.nil (by kernel_rfl) (re' (rt' rfl rfl rfl)))
            · refine e' rfl ?_
              refine U0.step rfl (j0 := 7) (js := []) (by kernel_rfl) ⟨⟨_, rfl, ?_⟩, trivial⟩
              refine e' rfl ?_
              refine U0.step rfl (j0 := 9) (js := []) (by kernel_rfl) ⟨⟨_, rfl, ?_⟩, trivial⟩
              refine I0.s hC rfl (n' ?_)
              refine U0.step rfl (j0 := 10) (js := []) (by kernel_rfl) ⟨⟨_, rfl, ?_⟩, trivial⟩
              cases hh
              exact e' rfl (U0.nil (by kernel_rfl) (re' (rt' rfl rfl rfl)))
          · refine e' rfl ?_
            refine U0.step rfl (j0 := 4) (js := []) (by kernel_rfl) ⟨⟨_, rfl, ?_⟩, trivial⟩
            refine I0.bx 3 (y := .box (F0.row x3)) (by cases hx3; exact .inl rfl) rfl rfl rfl (c' (A1 hx4) rfl rfl (n' ?_))
            refine U0.step rfl (j0 := 6) (js := []) (by kernel_rfl) ⟨⟨_, rfl, ?_⟩, trivial⟩
            refine c' (N1 hx5) rfl rfl (n' ?_)
            refine U0.step rfl (j0 := 7) (js := [8]) (by kernel_rfl) ⟨⟨_, rfl, ?_⟩, ⟨_, rfl, ?_⟩, trivial⟩
            · refine e' rfl ?_
              refine U0.step rfl (j0 := 8) (js := []) (by kernel_rfl) ⟨⟨_, rfl, ?_⟩, trivial⟩
              refine e' rfl ?_
              refine U0.step rfl (j0 := 9) (js := []) (by kernel_rfl) ⟨⟨_, rfl, ?_⟩, trivial⟩
              refine I0.s hC rfl (n' ?_)
              refine U0.step rfl (j0 := 10) (js := []) (by kernel_rfl) ⟨⟨_, rfl, ?_⟩, trivial⟩
              cases hh
              exact e' rfl (U0.nil (by kernel_rfl) (re' (rt' rfl rfl rfl)))
            · refine e' rfl ?_
              refine U0.step rfl (j0 := 7) (js := []) (by kernel_rfl) ⟨⟨_, rfl, ?_⟩, trivial⟩
              refine e' rfl ?_
              refine U0.step rfl (j0 := 9) (js := []) (by kernel_rfl) ⟨⟨_, rfl, ?_⟩, trivial⟩
              refine I0.s hC rfl (n' ?_)
              refine U0.step rfl (j0 := 10) (js := []) (by kernel_rfl) ⟨⟨_, rfl, ?_⟩, trivial⟩
              cases hh
              exact e' rfl (U0.nil (by kernel_rfl) (re' (rt' rfl rfl rfl)))
        · refine e' rfl ?_
          refine U0.step rfl (j0 := 3) (js := []) (by kernel_rfl) ⟨⟨_, rfl, ?_⟩, trivial⟩
          refine qe' rfl trivial (B0.lenA _) (n' ?_)
          refine U0.step rfl (j0 := 4) (js := []) (by kernel_rfl) ⟨⟨_, rfl, ?_⟩, trivial⟩
          refine I0.bx 3 (y := .box (F0.row x3)) (by cases hx3; exact .inl rfl) rfl rfl rfl (c' (A1 hx4) rfl rfl (n' ?_))
          refine U0.step rfl (j0 := 6) (js := []) (by kernel_rfl) ⟨⟨_, rfl, ?_⟩, trivial⟩
          refine c' (N1 hx5) rfl rfl (n' ?_)
          refine U0.step rfl (j0 := 7) (js := [8]) (by kernel_rfl) ⟨⟨_, rfl, ?_⟩, ⟨_, rfl, ?_⟩, trivial⟩
          · refine e' rfl ?_
            refine U0.step rfl (j0 := 8) (js := []) (by kernel_rfl) ⟨⟨_, rfl, ?_⟩, trivial⟩
            refine e' rfl ?_
            refine U0.step rfl (j0 := 9) (js := []) (by kernel_rfl) ⟨⟨_, rfl, ?_⟩, trivial⟩
            refine I0.s hC rfl (n' ?_)
            refine U0.step rfl (j0 := 10) (js := []) (by kernel_rfl) ⟨⟨_, rfl, ?_⟩, trivial⟩
            cases hh
            exact e' rfl (U0.nil (by kernel_rfl) (re' (rt' rfl rfl rfl)))
          · refine e' rfl ?_
            refine U0.step rfl (j0 := 7) (js := []) (by kernel_rfl) ⟨⟨_, rfl, ?_⟩, trivial⟩
            refine e' rfl ?_
            refine U0.step rfl (j0 := 9) (js := []) (by kernel_rfl) ⟨⟨_, rfl, ?_⟩, trivial⟩
            refine I0.s hC rfl (n' ?_)
            refine U0.step rfl (j0 := 10) (js := []) (by kernel_rfl) ⟨⟨_, rfl, ?_⟩, trivial⟩
            cases hh
            exact e' rfl (U0.nil (by kernel_rfl) (re' (rt' rfl rfl rfl)))
      · refine qe' rfl trivial (B0.lenA _) (n' ?_)
        refine U0.step rfl (j0 := 0) (js := [5]) (by kernel_rfl) ⟨⟨_, rfl, ?_⟩, ⟨_, rfl, ?_⟩, trivial⟩
        · refine e' rfl ?_
          refine U0.step rfl (j0 := 4) (js := [5]) (by kernel_rfl) ⟨⟨_, rfl, ?_⟩, ⟨_, rfl, ?_⟩, trivial⟩
          · refine I0.bx 3 (y := .box (F0.row x3)) (by cases hx3; exact .inl rfl) rfl rfl rfl (c' (A1 hx4) rfl rfl (n' ?_))
            refine U0.step rfl (j0 := 5) (js := []) (by kernel_rfl) ⟨⟨_, rfl, ?_⟩, trivial⟩
            refine e' rfl ?_
            refine U0.step rfl (j0 := 6) (js := []) (by kernel_rfl) ⟨⟨_, rfl, ?_⟩, trivial⟩
            refine c' (N1 hx5) rfl rfl (n' ?_)
            refine U0.step rfl (j0 := 7) (js := [8]) (by kernel_rfl) ⟨⟨_, rfl, ?_⟩, ⟨_, rfl, ?_⟩, trivial⟩
            · refine e' rfl ?_
              refine U0.step rfl (j0 := 8) (js := []) (by kernel_rfl) ⟨⟨_, rfl, ?_⟩, trivial⟩
              refine e' rfl ?_
              refine U0.step rfl (j0 := 9) (js := []) (by kernel_rfl) ⟨⟨_, rfl, ?_⟩, trivial⟩
              refine I0.s hC rfl (n' ?_)
              refine U0.step rfl (j0 := 10) (js := []) (by kernel_rfl) ⟨⟨_, rfl, ?_⟩, trivial⟩
              cases hh
              exact e' rfl (U0.nil (by kernel_rfl) (re' (rt' rfl rfl rfl)))
            · refine e' rfl ?_
              refine U0.step rfl (j0 := 7) (js := []) (by kernel_rfl) ⟨⟨_, rfl, ?_⟩, trivial⟩
              refine e' rfl ?_
              refine U0.step rfl (j0 := 9) (js := []) (by kernel_rfl) ⟨⟨_, rfl, ?_⟩, trivial⟩
              refine I0.s hC rfl (n' ?_)
              refine U0.step rfl (j0 := 10) (js := []) (by kernel_rfl) ⟨⟨_, rfl, ?_⟩, trivial⟩
              cases hh
              exact e' rfl (U0.nil (by kernel_rfl) (re' (rt' rfl rfl rfl)))
          · refine e' rfl ?_
            refine U0.step rfl (j0 := 4) (js := []) (by kernel_rfl) ⟨⟨_, rfl, ?_⟩, trivial⟩
            refine I0.bx 3 (y := .box (F0.row x3)) (by cases hx3; exact .inl rfl) rfl rfl rfl (c' (A1 hx4) rfl rfl (n' ?_))
            refine U0.step rfl (j0 := 6) (js := []) (by kernel_rfl) ⟨⟨_, rfl, ?_⟩, trivial⟩
            refine c' (N1 hx5) rfl rfl (n' ?_)
            refine U0.step rfl (j0 := 7) (js := [8]) (by kernel_rfl) ⟨⟨_, rfl, ?_⟩, ⟨_, rfl, ?_⟩, trivial⟩
            · refine e' rfl ?_
              refine U0.step rfl (j0 := 8) (js := []) (by kernel_rfl) ⟨⟨_, rfl, ?_⟩, trivial⟩
              refine e' rfl ?_
              refine U0.step rfl (j0 := 9) (js := []) (by kernel_rfl) ⟨⟨_, rfl, ?_⟩, trivial⟩
              refine I0.s hC rfl (n' ?_)
              refine U0.step rfl (j0 := 10) (js := []) (by kernel_rfl) ⟨⟨_, rfl, ?_⟩, trivial⟩
              cases hh
              exact e' rfl (U0.nil (by kernel_rfl) (re' (rt' rfl rfl rfl)))
            · refine e' rfl ?_
              refine U0.step rfl (j0 := 7) (js := []) (by kernel_rfl) ⟨⟨_, rfl, ?_⟩, trivial⟩
              refine e' rfl ?_
              refine U0.step rfl (j0 := 9) (js := []) (by kernel_rfl) ⟨⟨_, rfl, ?_⟩, trivial⟩
              refine I0.s hC rfl (n' ?_)
              refine U0.step rfl (j0 := 10) (js := []) (by kernel_rfl) ⟨⟨_, rfl, ?_⟩, trivial⟩
              cases hh
              exact e' rfl (U0.nil (by kernel_rfl) (re' (rt' rfl rfl rfl)))
        · refine e' rfl ?_
          refine U0.step rfl (j0 := 0) (js := []) (by kernel_rfl) ⟨⟨_, rfl, ?_⟩, trivial⟩
          refine e' rfl ?_
          refine U0.step rfl (j0 := 4) (js := []) (by kernel_rfl) ⟨⟨_, rfl, ?_⟩, trivial⟩
          refine I0.bx 3 (y := .box (F0.row x3)) (by cases hx3; exact .inl rfl) rfl rfl rfl (c' (A1 hx4) rfl rfl (n' ?_))
          refine U0.step rfl (j0 := 6) (js := []) (by kernel_rfl) ⟨⟨_, rfl, ?_⟩, trivial⟩
          refine c' (N1 hx5) rfl rfl (n' ?_)
          refine U0.step rfl (j0 := 7) (js := [8]) (by kernel_rfl) ⟨⟨_, rfl, ?_⟩, ⟨_, rfl, ?_⟩, trivial⟩
          · refine e' rfl ?_
            refine U0.step rfl (j0 := 8) (js := []) (by kernel_rfl) ⟨⟨_, rfl, ?_⟩, trivial⟩
            refine e' rfl ?_
            refine U0.step rfl (j0 := 9) (js := []) (by kernel_rfl) ⟨⟨_, rfl, ?_⟩, trivial⟩
            refine I0.s hC rfl (n' ?_)
            refine U0.step rfl (j0 := 10) (js := []) (by kernel_rfl) ⟨⟨_, rfl, ?_⟩, trivial⟩
            cases hh
            exact e' rfl (U0.nil (by kernel_rfl) (re' (rt' rfl rfl rfl)))
          · refine e' rfl ?_
            refine U0.step rfl (j0 := 7) (js := []) (by kernel_rfl) ⟨⟨_, rfl, ?_⟩, trivial⟩
            refine e' rfl ?_
            refine U0.step rfl (j0 := 9) (js := []) (by kernel_rfl) ⟨⟨_, rfl, ?_⟩, trivial⟩
            refine I0.s hC rfl (n' ?_)
            refine U0.step rfl (j0 := 10) (js := []) (by kernel_rfl) ⟨⟨_, rfl, ?_⟩, trivial⟩
            cases hh
            exact e' rfl (U0.nil (by kernel_rfl) (re' (rt' rfl rfl rfl)))
      · refine e' rfl ?_
        refine U0.step rfl (j0 := 0) (js := [3]) (by kernel_rfl) ⟨⟨_, rfl, ?_⟩, ⟨_, rfl, ?_⟩, trivial⟩
        · refine e' rfl ?_
          refine U0.step rfl (j0 := 3) (js := []) (by kernel_rfl) ⟨⟨_, rfl, ?_⟩, trivial⟩
          refine qe' rfl trivial (B0.lenA _) (n' ?_)
          refine U0.step rfl (j0 := 4) (js := []) (by kernel_rfl) ⟨⟨_, rfl, ?_⟩, trivial⟩
          refine I0.bx 3 (y := .box (F0.row x3)) (by cases hx3; exact .inl rfl) rfl rfl rfl (c' (A1 hx4) rfl rfl (n' ?_))
          refine U0.step rfl (j0 := 6) (js := []) (by kernel_rfl) ⟨⟨_, rfl, ?_⟩, trivial⟩
          refine c' (N1 hx5) rfl rfl (n' ?_)
          refine U0.step rfl (j0 := 7) (js := [8]) (by kernel_rfl) ⟨⟨_, rfl, ?_⟩, ⟨_, rfl, ?_⟩, trivial⟩
          · refine e' rfl ?_
            refine U0.step rfl (j0 := 8) (js := []) (by kernel_rfl) ⟨⟨_, rfl, ?_⟩, trivial⟩
            refine e' rfl ?_
            refine U0.step rfl (j0 := 9) (js := []) (by kernel_rfl) ⟨⟨_, rfl, ?_⟩, trivial⟩
            refine I0.s hC rfl (n' ?_)
            refine U0.step rfl (j0 := 10) (js := []) (by kernel_rfl) ⟨⟨_, rfl, ?_⟩, trivial⟩
            cases hh
            exact e' rfl (U0.nil (by kernel_rfl) (re' (rt' rfl rfl rfl)))
          · refine e' rfl ?_
            refine U0.step rfl (j0 := 7) (js := []) (by kernel_rfl) ⟨⟨_, rfl, ?_⟩, trivial⟩
            refine e' rfl ?_
            refine U0.step rfl (j0 := 9) (js := []) (by kernel_rfl) ⟨⟨_, rfl, ?_⟩, trivial⟩
            refine I0.s hC rfl (n' ?_)
            refine U0.step rfl (j0 := 10) (js := []) (by kernel_rfl) ⟨⟨_, rfl, ?_⟩, trivial⟩
            cases hh
            exact e' rfl (U0.nil (by kernel_rfl) (re' (rt' rfl rfl rfl)))
        · refine qe' rfl trivial (B0.lenA _) (n' ?_)
          refine U0.step rfl (j0 := 0) (js := []) (by kernel_rfl) ⟨⟨_, rfl, ?_⟩, trivial⟩
          refine e' rfl ?_
          refine U0.step rfl (j0 := 4) (js := []) (by kernel_rfl) ⟨⟨_, rfl, ?_⟩, trivial⟩
          refine I0.bx 3 (y := .box (F0.row x3)) (by cases hx3; exact .inl rfl) rfl rfl rfl (c' (A1 hx4) rfl rfl (n' ?_))
          refine U0.step rfl (j0 := 6) (js := []) (by kernel_rfl) ⟨⟨_, rfl, ?_⟩, trivial⟩
          refine c' (N1 hx5) rfl rfl (n' ?_)
          refine U0.step rfl (j0 := 7) (js := [8]) (by kernel_rfl) ⟨⟨_, rfl, ?_⟩, ⟨_, rfl, ?_⟩, trivial⟩
          · refine e' rfl ?_
            refine U0.step rfl (j0 := 8) (js := []) (by kernel_rfl) ⟨⟨_, rfl, ?_⟩, trivial⟩
            refine e' rfl ?_
            refine U0.step rfl (j0 := 9) (js := []) (by kernel_rfl) ⟨⟨_, rfl, ?_⟩, trivial⟩
            refine I0.s hC rfl (n' ?_)
            refine U0.step rfl (j0 := 10) (js := []) (by kernel_rfl) ⟨⟨_, rfl, ?_⟩, trivial⟩
            cases hh
            exact e' rfl (U0.nil (by kernel_rfl) (re' (rt' rfl rfl rfl)))
          · refine e' rfl ?_
            refine U0.step rfl (j0 := 7) (js := []) (by kernel_rfl) ⟨⟨_, rfl, ?_⟩, trivial⟩
            refine e' rfl ?_
            refine U0.step rfl (j0 := 9) (js := []) (by kernel_rfl) ⟨⟨_, rfl, ?_⟩, trivial⟩
            refine I0.s hC rfl (n' ?_)
            refine U0.step rfl (j0 := 10) (js := []) (by kernel_rfl) ⟨⟨_, rfl, ?_⟩, trivial⟩
            cases hh
            exact e' rfl (U0.nil (by kernel_rfl) (re' (rt' rfl rfl rfl)))
    · refine e' rfl ?_
      refine U0.step rfl (j0 := 0) (js := [2]) (by kernel_rfl) ⟨⟨_, rfl, ?_⟩, ⟨_, rfl, ?_⟩, trivial⟩
      · refine e' rfl ?_
        refine U0.step rfl (j0 := 2) (js := []) (by kernel_rfl) ⟨⟨_, rfl, ?_⟩, trivial⟩
        refine e' rfl ?_
        refine U0.step rfl (j0 := 3) (js := []) (by kernel_rfl) ⟨⟨_, rfl, ?_⟩, trivial⟩
        refine qe' rfl trivial (B0.lenA _) (n' ?_)
        refine U0.step rfl (j0 := 4) (js := []) (by kernel_rfl) ⟨⟨_, rfl, ?_⟩, trivial⟩
        refine I0.bx 3 (y := .box (F0.row x3)) (by cases hx3; exact .inl rfl) rfl rfl rfl (c' (A1 hx4) rfl rfl (n' ?_))
        refine U0.step rfl (j0 := 6) (js := []) (by kernel_rfl) ⟨⟨_, rfl, ?_⟩, trivial⟩
        refine c' (N1 hx5) rfl rfl (n' ?_)
        refine U0.step rfl (j0 := 7) (js := [8]) (by kernel_rfl) ⟨⟨_, rfl, ?_⟩, ⟨_, rfl, ?_⟩, trivial⟩
        · refine e' rfl ?_
          refine U0.step rfl (j0 := 8) (js := []) (by kernel_rfl) ⟨⟨_, rfl, ?_⟩, trivial⟩
          refine e' rfl ?_
          refine U0.step rfl (j0 := 9) (js := []) (by kernel_rfl) ⟨⟨_, rfl, ?_⟩, trivial⟩
          refine I0.s hC rfl (n' ?_)
          refine U0.step rfl (j0 := 10) (js := []) (by kernel_rfl) ⟨⟨_, rfl, ?_⟩, trivial⟩
          cases hh
          exact e' rfl (U0.nil (by kernel_rfl) (re' (rt' rfl rfl rfl)))
        · refine e' rfl ?_
          refine U0.step rfl (j0 := 7) (js := []) (by kernel_rfl) ⟨⟨_, rfl, ?_⟩, trivial⟩
          refine e' rfl ?_
          refine U0.step rfl (j0 := 9) (js := []) (by kernel_rfl) ⟨⟨_, rfl, ?_⟩, trivial⟩
          refine I0.s hC rfl (n' ?_)
          refine U0.step rfl (j0 := 10) (js := []) (by kernel_rfl) ⟨⟨_, rfl, ?_⟩, trivial⟩
          cases hh
          exact e' rfl (U0.nil (by kernel_rfl) (re' (rt' rfl rfl rfl)))
      · refine e' rfl ?_
        refine U0.step rfl (j0 := 0) (js := [3]) (by kernel_rfl) ⟨⟨_, rfl, ?_⟩, ⟨_, rfl, ?_⟩, trivial⟩
        · refine e' rfl ?_
          refine U0.step rfl (j0 := 3) (js := []) (by kernel_rfl) ⟨⟨_, rfl, ?_⟩, trivial⟩
          refine qe' rfl trivial (B0.lenA _) (n' ?_)
          refine U0.step rfl (j0 := 4) (js := []) (by kernel_rfl) ⟨⟨_, rfl, ?_⟩, trivial⟩
          refine I0.bx 3 (y := .box (F0.row x3)) (by cases hx3; exact .inl rfl) rfl rfl rfl (c' (A1 hx4) rfl rfl (n' ?_))
          refine U0.step rfl (j0 := 6) (js := []) (by kernel_rfl) ⟨⟨_, rfl, ?_⟩, trivial⟩
          refine c' (N1 hx5) rfl rfl (n' ?_)
          refine U0.step rfl (j0 := 7) (js := [8]) (by kernel_rfl) ⟨⟨_, rfl, ?_⟩, ⟨_, rfl, ?_⟩, trivial⟩
          · refine e' rfl ?_
            refine U0.step rfl (j0 := 8) (js := []) (by kernel_rfl) ⟨⟨_, rfl, ?_⟩, trivial⟩
            refine e' rfl ?_
            refine U0.step rfl (j0 := 9) (js := []) (by kernel_rfl) ⟨⟨_, rfl, ?_⟩, trivial⟩
            refine I0.s hC rfl (n' ?_)
            refine U0.step rfl (j0 := 10) (js := []) (by kernel_rfl) ⟨⟨_, rfl, ?_⟩, trivial⟩
            cases hh
            exact e' rfl (U0.nil (by kernel_rfl) (re' (rt' rfl rfl rfl)))
          · refine e' rfl ?_
            refine U0.step rfl (j0 := 7) (js := []) (by kernel_rfl) ⟨⟨_, rfl, ?_⟩, trivial⟩
            refine e' rfl ?_
            refine U0.step rfl (j0 := 9) (js := []) (by kernel_rfl) ⟨⟨_, rfl, ?_⟩, trivial⟩
            refine I0.s hC rfl (n' ?_)
            refine U0.step rfl (j0 := 10) (js := []) (by kernel_rfl) ⟨⟨_, rfl, ?_⟩, trivial⟩
            cases hh
            exact e' rfl (U0.nil (by kernel_rfl) (re' (rt' rfl rfl rfl)))
        · refine qe' rfl trivial (B0.lenA _) (n' ?_)
          refine U0.step rfl (j0 := 0) (js := []) (by kernel_rfl) ⟨⟨_, rfl, ?_⟩, trivial⟩
          refine e' rfl ?_
          refine U0.step rfl (j0 := 4) (js := []) (by kernel_rfl) ⟨⟨_, rfl, ?_⟩, trivial⟩
          refine I0.bx 3 (y := .box (F0.row x3)) (by cases hx3; exact .inl rfl) rfl rfl rfl (c' (A1 hx4) rfl rfl (n' ?_))
          refine U0.step rfl (j0 := 6) (js := []) (by kernel_rfl) ⟨⟨_, rfl, ?_⟩, trivial⟩
          refine c' (N1 hx5) rfl rfl (n' ?_)
          refine U0.step rfl (j0 := 7) (js := [8]) (by kernel_rfl) ⟨⟨_, rfl, ?_⟩, ⟨_, rfl, ?_⟩, trivial⟩
          · refine e' rfl ?_
            refine U0.step rfl (j0 := 8) (js := []) (by kernel_rfl) ⟨⟨_, rfl, ?_⟩, trivial⟩
            refine e' rfl ?_
            refine U0.step rfl (j0 := 9) (js := []) (by kernel_rfl) ⟨⟨_, rfl, ?_⟩, trivial⟩
            refine I0.s hC rfl (n' ?_)
            refine U0.step rfl (j0 := 10) (js := []) (by kernel_rfl) ⟨⟨_, rfl, ?_⟩, trivial⟩
            cases hh
            exact e' rfl (U0.nil (by kernel_rfl) (re' (rt' rfl rfl rfl)))
          · refine e' rfl ?_
            refine U0.step rfl (j0 := 7) (js := []) (by kernel_rfl) ⟨⟨_, rfl, ?_⟩, trivial⟩
            refine e' rfl ?_
            refine U0.step rfl (j0 := 9) (js := []) (by kernel_rfl) ⟨⟨_, rfl, ?_⟩, trivial⟩
            refine I0.s hC rfl (n' ?_)
            refine U0.step rfl (j0 := 10) (js := []) (by kernel_rfl) ⟨⟨_, rfl, ?_⟩, trivial⟩
            cases hh
            exact e' rfl (U0.nil (by kernel_rfl) (re' (rt' rfl rfl rfl)))
  · refine e' rfl ?_
    refine U0.step rfl (j0 := 0) (js := [1]) (by kernel_rfl) ⟨⟨_, rfl, ?_⟩, ⟨_, rfl, ?_⟩, trivial⟩
    · refine e' rfl ?_
      refine U0.step rfl (j0 := 1) (js := []) (by kernel_rfl) ⟨⟨_, rfl, ?_⟩, trivial⟩
      refine e' rfl ?_
      refine U0.step rfl (j0 := 2) (js := []) (by kernel_rfl) ⟨⟨_, rfl, ?_⟩, trivial⟩
      refine e' rfl ?_
      refine U0.step rfl (j0 := 3) (js := []) (by kernel_rfl) ⟨⟨_, rfl, ?_⟩, trivial⟩
      refine qe' rfl trivial (B0.lenA _) (n' ?_)
      refine U0.step rfl (j0 := 4) (js := []) (by kernel_rfl) ⟨⟨_, rfl, ?_⟩, trivial⟩
      refine I0.bx 3 (y := .box (F0.row x3)) (by cases hx3; exact .inl rfl) rfl rfl rfl (c' (A1 hx4) rfl rfl (n' ?_))
      refine U0.step rfl (j0 := 6) (js := []) (by kernel_rfl) ⟨⟨_, rfl, ?_⟩, trivial⟩
      refine c' (N1 hx5) rfl rfl (n' ?_)
      refine U0.step rfl (j0 := 7) (js := [8]) (by kernel_rfl) ⟨⟨_, rfl, ?_⟩, ⟨_, rfl, ?_⟩, trivial⟩
      · refine e' rfl ?_
        refine U0.step rfl (j0 := 8) (js := []) (by kernel_rfl) ⟨⟨_, rfl, ?_⟩, trivial⟩
        refine e' rfl ?_
        refine U0.step rfl (j0 := 9) (js := []) (by kernel_rfl) ⟨⟨_, rfl, ?_⟩, trivial⟩
        refine I0.s hC rfl (n' ?_)
        refine U0.step rfl (j0 := 10) (js := []) (by kernel_rfl) ⟨⟨_, rfl, ?_⟩, trivial⟩
        cases hh
        exact e' rfl (U0.nil (by kernel_rfl) (re' (rt' rfl rfl rfl)))
      · refine e' rfl ?_
        refine U0.step rfl (j0 := 7) (js := []) (by kernel_rfl) ⟨⟨_, rfl, ?_⟩, trivial⟩
        refine e' rfl ?_
        refine U0.step rfl (j0 := 9) (js := []) (by kernel_rfl) ⟨⟨_, rfl, ?_⟩, trivial⟩
        refine I0.s hC rfl (n' ?_)
        refine U0.step rfl (j0 := 10) (js := []) (by kernel_rfl) ⟨⟨_, rfl, ?_⟩, trivial⟩
        cases hh
        exact e' rfl (U0.nil (by kernel_rfl) (re' (rt' rfl rfl rfl)))
    · refine e' rfl ?_
      refine U0.step rfl (j0 := 0) (js := [2]) (by kernel_rfl) ⟨⟨_, rfl, ?_⟩, ⟨_, rfl, ?_⟩, trivial⟩
      · refine e' rfl ?_
        refine U0.step rfl (j0 := 2) (js := []) (by kernel_rfl) ⟨⟨_, rfl, ?_⟩, trivial⟩
        refine e' rfl ?_
        refine U0.step rfl (j0 := 3) (js := []) (by kernel_rfl) ⟨⟨_, rfl, ?_⟩, trivial⟩
        refine qe' rfl trivial (B0.lenA _) (n' ?_)
        refine U0.step rfl (j0 := 4) (js := []) (by kernel_rfl) ⟨⟨_, rfl, ?_⟩, trivial⟩
        refine I0.bx 3 (y := .box (F0.row x3)) (by cases hx3; exact .inl rfl) rfl rfl rfl (c' (A1 hx4) rfl rfl (n' ?_))
        refine U0.step rfl (j0 := 6) (js := []) (by kernel_rfl) ⟨⟨_, rfl, ?_⟩, trivial⟩
        refine c' (N1 hx5) rfl rfl (n' ?_)
        refine U0.step rfl (j0 := 7) (js := [8]) (by kernel_rfl) ⟨⟨_, rfl, ?_⟩, ⟨_, rfl, ?_⟩, trivial⟩
        · refine e' rfl ?_
          refine U0.step rfl (j0 := 8) (js := []) (by kernel_rfl) ⟨⟨_, rfl, ?_⟩, trivial⟩
          refine e' rfl ?_
          refine U0.step rfl (j0 := 9) (js := []) (by kernel_rfl) ⟨⟨_, rfl, ?_⟩, trivial⟩
          refine I0.s hC rfl (n' ?_)
          refine U0.step rfl (j0 := 10) (js := []) (by kernel_rfl) ⟨⟨_, rfl, ?_⟩, trivial⟩
          cases hh
          exact e' rfl (U0.nil (by kernel_rfl) (re' (rt' rfl rfl rfl)))
        · refine e' rfl ?_
          refine U0.step rfl (j0 := 7) (js := []) (by kernel_rfl) ⟨⟨_, rfl, ?_⟩, trivial⟩
          refine e' rfl ?_
          refine U0.step rfl (j0 := 9) (js := []) (by kernel_rfl) ⟨⟨_, rfl, ?_⟩, trivial⟩
          refine I0.s hC rfl (n' ?_)
          refine U0.step rfl (j0 := 10) (js := []) (by kernel_rfl) ⟨⟨_, rfl, ?_⟩, trivial⟩
          cases hh
          exact e' rfl (U0.nil (by kernel_rfl) (re' (rt' rfl rfl rfl)))
      · refine e' rfl ?_
        refine U0.step rfl (j0 := 0) (js := [3]) (by kernel_rfl) ⟨⟨_, rfl, ?_⟩, ⟨_, rfl, ?_⟩, trivial⟩
        · refine e' rfl ?_
          refine U0.step rfl (j0 := 3) (js := []) (by kernel_rfl) ⟨⟨_, rfl, ?_⟩, trivial⟩
          refine qe' rfl trivial (B0.lenA _) (n' ?_)
          refine U0.step rfl (j0 := 4) (js := []) (by kernel_rfl) ⟨⟨_, rfl, ?_⟩, trivial⟩
          refine I0.bx 3 (y := .box (F0.row x3)) (by cases hx3; exact .inl rfl) rfl rfl rfl (c' (A1 hx4) rfl rfl (n' ?_))
          refine U0.step rfl (j0 := 6) (js := []) (by kernel_rfl) ⟨⟨_, rfl, ?_⟩, trivial⟩
          refine c' (N1 hx5) rfl rfl (n' ?_)
          refine U0.step rfl (j0 := 7) (js := [8]) (by kernel_rfl) ⟨⟨_, rfl, ?_⟩, ⟨_, rfl, ?_⟩, trivial⟩
          · refine e' rfl ?_
            refine U0.step rfl (j0 := 8) (js := []) (by kernel_rfl) ⟨⟨_, rfl, ?_⟩, trivial⟩
            refine e' rfl ?_
            refine U0.step rfl (j0 := 9) (js := []) (by kernel_rfl) ⟨⟨_, rfl, ?_⟩, trivial⟩
            refine I0.s hC rfl (n' ?_)
            refine U0.step rfl (j0 := 10) (js := []) (by kernel_rfl) ⟨⟨_, rfl, ?_⟩, trivial⟩
            cases hh
            exact e' rfl (U0.nil (by kernel_rfl) (re' (rt' rfl rfl rfl)))
          · refine e' rfl ?_
            refine U0.step rfl (j0 := 7) (js := []) (by kernel_rfl) ⟨⟨_, rfl, ?_⟩, trivial⟩
            refine e' rfl ?_
            refine U0.step rfl (j0 := 9) (js := []) (by kernel_rfl) ⟨⟨_, rfl, ?_⟩, trivial⟩
            refine I0.s hC rfl (n' ?_)
            refine U0.step rfl (j0 := 10) (js := []) (by kernel_rfl) ⟨⟨_, rfl, ?_⟩, trivial⟩
            cases hh
            exact e' rfl (U0.nil (by kernel_rfl) (re' (rt' rfl rfl rfl)))
        · refine qe' rfl trivial (B0.lenA _) (n' ?_)
          refine U0.step rfl (j0 := 0) (js := []) (by kernel_rfl) ⟨⟨_, rfl, ?_⟩, trivial⟩
          refine e' rfl ?_
          refine U0.step rfl (j0 := 4) (js := []) (by kernel_rfl) ⟨⟨_, rfl, ?_⟩, trivial⟩
          refine I0.bx 3 (y := .box (F0.row x3)) (by cases hx3; exact .inl rfl) rfl rfl rfl (c' (A1 hx4) rfl rfl (n' ?_))
          refine U0.step rfl (j0 := 6) (js := []) (by kernel_rfl) ⟨⟨_, rfl, ?_⟩, trivial⟩
          refine c' (N1 hx5) rfl rfl (n' ?_)
          refine U0.step rfl (j0 := 7) (js := [8]) (by kernel_rfl) ⟨⟨_, rfl, ?_⟩, ⟨_, rfl, ?_⟩, trivial⟩
          · refine e' rfl ?_
            refine U0.step rfl (j0 := 8) (js := []) (by kernel_rfl) ⟨⟨_, rfl, ?_⟩, trivial⟩
            refine e' rfl ?_
            refine U0.step rfl (j0 := 9) (js := []) (by kernel_rfl) ⟨⟨_, rfl, ?_⟩, trivial⟩
            refine I0.s hC rfl (n' ?_)
            refine U0.step rfl (j0 := 10) (js := []) (by kernel_rfl) ⟨⟨_, rfl, ?_⟩, trivial⟩
            cases hh
            exact e' rfl (U0.nil (by kernel_rfl) (re' (rt' rfl rfl rfl)))
          · refine e' rfl ?_
            refine U0.step rfl (j0 := 7) (js := []) (by kernel_rfl) ⟨⟨_, rfl, ?_⟩, trivial⟩
            refine e' rfl ?_
            refine U0.step rfl (j0 := 9) (js := []) (by kernel_rfl) ⟨⟨_, rfl, ?_⟩, trivial⟩
            refine I0.s hC rfl (n' ?_)
            refine U0.step rfl (j0 := 10) (js := []) (by kernel_rfl) ⟨⟨_, rfl, ?_⟩, trivial⟩
            cases hh
            exact e' rfl (U0.nil (by kernel_rfl) (re' (rt' rfl rfl rfl)))
end Go.Proofs.YtdkabnfphmmmnaaGreatDoor

set_option maxRecDepth 100000
set_option maxHeartbeats 4000000
set_option synthInstance.maxSize 2000
set_option linter.unusedVariables false
namespace Go.Proofs.YtdkabnfphmmmnaaGreatDoor
open Go.Am
def Wp (p : K0) (e : C0) : Option (Int × Int × Int) :=
  Un p e >>= fun x1 =>
  if (x1.2 != 0) = true then
    some (0, 0, x1.2)
  else
    if (x1.1.Kind != 1) = true then
      some (0, 0, 9)
    else
      some (x1.1.Low, x1.1.High, 0)
theorem N1n {p e res} (hh : Wp p e = some res) : S0 C 19 [.agg (K0.cells p), .agg (C0.cells e)] [] (Ret [] (.tup [.d (.int .i64 res.1), .d (.int .i64 res.2.1), .d (.int .i64 res.2.2)])) := by
  unfold Wp at hh
  obtain ⟨x1, hx1, hh⟩ := bs' hh
  refine S0.intro hC Tryz.func19 rfl rfl rfl (s' rfl rfl (I0.n hC rfl (I0.n hC rfl (e' rfl (p' 2 rfl (c' (A1m hx1) rfl rfl (o' 3 rfl (I0.nf hC rfl (I0.s hC rfl (e' rfl (S' (t' rfl (ci' rfl hh (fun hh => ?_) (fun hh => ?_))))))))))))))
  · cases hh
    exact t' rfl (re' (rt' rfl rfl rfl))
  refine sk' (S' (t' rfl (ci' rfl hh (fun hh => ?_) (fun hh => ?_))))
  · cases hh
    exact t' rfl (re' (rt' rfl rfl rfl))
  cases hh
  exact sk' (S' (AEx.draw hC 7 rfl rfl rfl (E' rfl (n' (re' (rt' rfl rfl rfl))))))
def Xp (p : K0) : Option (Int × Int) :=
  R8 p >>= fun x1 =>
  if (x1.2 != 0) = true then
    some (0, x1.2)
  else
    Ue p >>= fun x2 =>
    some (x2.steps, 0)
theorem O1n {p res} (hh : Xp p = some res) : S0 C 21 [.agg (K0.cells p)] [] (Ret [] (.tup [.d (.int .i64 res.1), .d (.int .i64 res.2)])) := by
  unfold Xp at hh
  obtain ⟨x1, hx1, hh⟩ := bs' hh
  refine S0.intro hC Tryz.func21 rfl rfl rfl (s' rfl rfl (I0.n hC rfl (e' rfl (S' (p' 1 rfl (c' (Zk hx1) rfl rfl (e' rfl (t' rfl (ci' rfl hh (fun hh => ?_) (fun hh => ?_))))))))))
  · cases hh
    exact t' rfl (re' (rt' rfl rfl rfl))
  obtain ⟨x2, hx2, hh⟩ := bs' hh
  cases hh
  exact sk' (p' 1 rfl (c' (F12 hx2) rfl rfl (e' rfl (re' (rt' rfl rfl rfl)))))
def Rq : Option Bool :=
  Sp [120] >>= fun x1 =>
  Sp [112, 105, 110] >>= fun x2 =>
  Ts 2 >>= fun x3 =>
  Ft 10 [x2, x3] >>= fun x4 =>
  Ts 1 >>= fun x5 =>
  Ft 8 [x4, x5] >>= fun x6 =>
  Sp [120] >>= fun x7 =>
  Ts 3 >>= fun x8 =>
  Ft 13 [x7, x8] >>= fun x9 =>
  R8 (K0.mk [(B0.mk 1 [112, 105, 110] (A0.mk 1 0 9 0 [] [] []) 0 (C0.mk 0 0 [] []) [] [] []), (B0.mk 4 [120] (A0.mk 1 0 3 0 [] [] []) 0 (C0.mk 0 0 [] []) [] [] [])] [(D0.mk 0 x1 x6 [] [] 0 0 0 [] [] []), (D0.mk 3 (C0.mk 0 0 [] []) x9 [] [] 0 0 0 [] [] [])]) >>= fun x10 =>
  idx [(D0.mk 0 x1 x6 [] [] 0 0 0 [] [] []), (D0.mk 3 (C0.mk 0 0 [] []) x9 [] [] 0 0 0 [] [] [])] 0 >>= fun x11 =>
  Wp (K0.mk [(B0.mk 1 [112, 105, 110] (A0.mk 1 0 9 0 [] [] []) 0 (C0.mk 0 0 [] []) [] [] []), (B0.mk 4 [120] (A0.mk 1 0 3 0 [] [] []) 0 (C0.mk 0 0 [] []) [] [] [])] [(D0.mk 0 x1 x6 [] [] 0 0 0 [] [] []), (D0.mk 3 (C0.mk 0 0 [] []) x9 [] [] 0 0 0 [] [] [])]) x11.Value >>= fun x12 =>
  Xp (K0.mk [(B0.mk 1 [112, 105, 110] (A0.mk 1 0 9 0 [] [] []) 0 (C0.mk 0 0 [] []) [] [] []), (B0.mk 4 [120] (A0.mk 1 0 3 0 [] [] []) 0 (C0.mk 0 0 [] []) [] [] [])] [(D0.mk 0 x1 x6 [] [] 0 0 0 [] [] []), (D0.mk 3 (C0.mk 0 0 [] []) x9 [] [] 0 0 0 [] [] [])]) >>= fun x13 =>
  Sp [112, 105, 110] >>= fun x14 =>
  Ts 1 >>= fun x15 =>
  R8 (K0.mk [(B0.mk 1 [112, 105, 110] (A0.mk 1 0 9 0 [] [] []) 0 (C0.mk 0 0 [] []) [] [] []), (B0.mk 4 [120] (A0.mk 1 0 3 0 [] [] []) 0 (C0.mk 0 0 [] []) [] [] [])] [(D0.mk 0 x14 x15 [] [] 0 0 0 [] [] [])]) >>= fun x16 =>
  some (bif (bif (bif (bif (bif (bif (bif (bif (x10.1 == (-1)) then (x10.2 == 0) else false) then (x12.1 == 1) else false) then (x12.2.1 == 19) else false) then (x12.2.2 == 0) else false) then (x13.1 == 2) else false) then (x13.2 == 0) else false) then (x16.1 == (-1)) else false) then (x16.2 == 15) else false)
theorem V1w {res} (hh : Rq = some res) : S0 C 11 [] [] (Ret [] (.d (.bool res))) := by
  unfold Rq at hh
  obtain ⟨x1, hx1, hh⟩ := bs' hh
  obtain ⟨x2, hx2, hh⟩ := bs' hh
  obtain ⟨x3, hx3, hh⟩ := bs' hh
  obtain ⟨x4, hx4, hh⟩ := bs' hh
  obtain ⟨x5, hx5, hh⟩ := bs' hh
  obtain ⟨x6, hx6, hh⟩ := bs' hh
  obtain ⟨x7, hx7, hh⟩ := bs' hh
  obtain ⟨x8, hx8, hh⟩ := bs' hh
  obtain ⟨x9, hx9, hh⟩ := bs' hh
  obtain ⟨x10, hx10, hh⟩ := bs' hh
  obtain ⟨x11, hx11, hh⟩ := bs' hh
  obtain ⟨x12, hx12, hh⟩ := bs' hh
  obtain ⟨x13, hx13, hh⟩ := bs' hh
  obtain ⟨x14, hx14, hh⟩ := bs' hh
  obtain ⟨x15, hx15, hh⟩ := bs' hh
  obtain ⟨x16, hx16, hh⟩ := bs' hh
  cases hh
  refine S0.intro hC Tryz.func11 rfl rfl rfl (t' rfl (p' 4 rfl (I0.be hC rfl (B0.rows_map [(B0.mk 1 [112, 105, 110] (A0.mk 1 0 9 0 [] [] []) 0 (C0.mk 0 0 [] []) [] [] []), (B0.mk 4 [120] (A0.mk 1 0 3 0 [] [] []) 0 (C0.mk 0 0 [] []) [] [] [])]).symm (c' (B10 hx1) rfl rfl (c' (B10 hx2) rfl rfl (c' (W11 hx3) rfl rfl ?_))))))
  refine I0.be hC rfl (C0.rows_map [x2, x3]).symm (I0.cl rfl (Y19 hx4) ⟨.rfl, ⟨.full, trivial⟩⟩ rfl (c' (W11 hx5) rfl rfl (I0.be hC rfl (C0.rows_map [x4, x5]).symm (I0.cl rfl (Y19 hx6) ⟨.rfl, ⟨.full, trivial⟩⟩ rfl (q' rfl (c' (B10 hx7) rfl rfl (c' (W11 hx8) rfl rfl (I0.be hC rfl (C0.rows_map [x7, x8]).symm ?_))))))))
  refine I0.cl rfl (Y19 hx9) ⟨.rfl, ⟨.full, trivial⟩⟩ rfl (q' rfl (I0.be hC rfl (D0.rows_map [(D0.mk 0 x1 x6 [] [] 0 0 0 [] [] []), (D0.mk 3 (C0.mk 0 0 [] []) x9 [] [] 0 0 0 [] [] [])]).symm (q' rfl (I0.nf hC rfl (I0.s hC rfl (n' (p' 1 rfl (I0.cl rfl (Zk hx10) ⟨(.aggL ⟨.full, ⟨.full, trivial⟩⟩), trivial⟩ rfl (e' rfl (S' (AEx.draw hC 14 rfl rfl rfl (O' 3 rfl ?_))))))))))))
  refine AQ.i hC rfl (W0 hx11) (D0.idx hx11) rfl (O' 2 rfl (AQ.cl rfl (N1n hx12) ⟨(.aggL ⟨.full, ⟨.full, trivial⟩⟩), ⟨.rfl, trivial⟩⟩ rfl (E' rfl (n' (p' 1 rfl (I0.cl rfl (O1n hx13) ⟨(.aggL ⟨.full, ⟨.full, trivial⟩⟩), trivial⟩ rfl (e' rfl (S' ?_))))))))
  refine AEx.drawL hC 8 [] [(7, 1)] [[.row [.full (B0.rows [(B0.mk 1 [112, 105, 110] (A0.mk 1 0 9 0 [] [] []) 0 (C0.mk 0 0 [] []) [] [] []), (B0.mk 4 [120] (A0.mk 1 0 3 0 [] [] []) 0 (C0.mk 0 0 [] []) [] [] [])]), .full (D0.rows [(D0.mk 0 x1 x6 [] [] 0 0 0 [] [] []), (D0.mk 3 (C0.mk 0 0 [] []) x9 [] [] 0 0 0 [] [] [])])] 25, .row [.full (B0.rows []), .full (D0.rows [])] 25]] rfl rfl rfl rfl rfl rfl rfl rfl rfl rfl ?_
  refine AS.q hC rfl rfl rfl rfl (AS.q hC rfl rfl rfl rfl (AS.c (B10 hx14) rfl rfl rfl rfl (AS.c (W11 hx15) rfl rfl rfl rfl (AS.q hC rfl rfl rfl rfl (AS.a rfl (fun H => AQ.be hC rfl (D0.rows_map [(D0.mk 0 x14 x15 [] [] 0 0 0 [] [] [])]).symm (AQ.nil rfl)) rfl rfl (AS.q hC rfl rfl rfl rfl (AS.n hC rfl rfl rfl rfl (AS.nil (I0.s hC rfl (n' (p' 1 rfl ?_)))))))))))
  refine I0.cl rfl (Zk hx16) ⟨(.aggL ⟨.full, ⟨.full, trivial⟩⟩), trivial⟩ rfl (e' rfl (sg' 35 rfl (G' 4 rfl (a1' rfl (pa' rfl (G' 2 rfl (a1' rfl (pa' rfl (G' 2 rfl (a1' rfl (pa' rfl (G' 2 rfl (a1' rfl ?_)))))))))))))
  refine pa' rfl (G' 2 rfl (a1' rfl (pa' rfl (G' 2 rfl (a1' rfl (pa' rfl (G' 2 rfl (a1' rfl (pa' rfl (G' 2 rfl (a1' rfl (pa' rfl (a0' rfl ?_)))))))))))))
  exact an' (n' (re' (rt' rfl rfl rfl)))
mutual
def Be (t : A0) (left : Int) : Option Int :=
  Ve t (IntKind.i64.wrap ((IntKind.i64.wrap (left - 1)) - (IntKind.i64.wrap (Int.tdiv ((t.Name).length : Int) 16)))) 0
  partial_fixpoint
def Ve (t : A0) (left1 : Int) (i : Int) : Option Int :=
  if (bif (decide (i < ((t.Names).length : Int))) then (decide (left1 ≥ 0)) else false) = true then
    idx t.Names i >>= fun x1 =>
    Ve t (IntKind.i64.wrap ((IntKind.i64.wrap (left1 - 1)) - (IntKind.i64.wrap (Int.tdiv ((x1).length : Int) 16)))) (IntKind.i64.wrap (i + 1))
  else
    We t left1 0
  partial_fixpoint
def We (t : A0) (left2 : Int) (i1 : Int) : Option Int :=
  if (bif (decide (i1 < ((t.Of).length : Int))) then (decide (left2 ≥ 0)) else false) = true then
    idx t.Of i1 >>= fun x2 =>
    Be x2 left2 >>= fun x3 =>
    We t x3 (IntKind.i64.wrap (i1 + 1))
  else
    some left2
  partial_fixpoint
end
abbrev D1d (t : A0) (left : Int) (res : Int) : Prop := S0 C 107 [.agg (A0.cells t), .d (.int .i64 left)] [] (Ret [] (.d (.int .i64 res)))
abbrev K15 (t : A0) (left1 : Int) (i : Int) (res : Int) : Prop := LM C 54 0 Tryz.f107 [1, 1, 0, 1, 4] [(1, .d (.int .i64 left1)), (2, .ref 0 0), (5, .d (.int .i64 i))] [.row (A0.cells t) 40] (Ret [] (.d (.int .i64 res)))
abbrev L15 (t : A0) (left2 : Int) (i1 : Int) (res : Int) : Prop := LM C 54 0 Tryz.f107 [1, 1, 1, 0, 1, 4] [(1, .d (.int .i64 left2)), (2, .ref 0 0), (6, .d (.int .i64 i1))] [.row (A0.cells t) 40] (Ret [] (.d (.int .i64 res)))
theorem Uw : (∀ t left res, Be t left = some res → D1d t left res) ∧ (∀ t left1 i res, Ve t left1 i = some res → K15 t left1 i res) ∧ (∀ t left2 i1 res, We t left2 i1 = some res → L15 t left2 i1 res) := by
  refine Be.mutual_partial_correctness _ _ _ ?_ ?_ ?_
  · intro g1 ih1 t left res hh
    exact S0.intro hC Tryz.func107 rfl rfl rfl (s' rfl rfl (I0.n hC rfl (e' rfl (p' 5 rfl (qc' rfl (by decide) (e' rfl (S' (t' rfl (bk' (fw' (ih1 _ _ _ _ hh) rfl rfl rfl))))))))))
  · intro g1 g2 ih1 ih2 t left1 i res hh
    refine Z0.unroll (S' (sg' 9 rfl (G' 3 rfl (AG.qe hC rfl (fun hg => ⟨trivial, trivial⟩) (estr.lenA _) (G' 3 rfl (a1' rfl (pa' rfl (an' (n' (ci' rfl hh (fun hh => ?_) (fun hh => ?_)))))))))))
    · obtain ⟨x1, hx1, hh⟩ := bs' hh
      exact sk' (S' (bk' (P' 5 rfl (i' rfl (W0 hx1) (estr.idx hx1) rfl (o' 2 rfl (qc' rfl (by decide) (e' rfl (T' rfl (lw' (ih1 _ _ _ _ hh) rfl rfl rfl)))))))))
    exact ex' (S' (t' rfl (bk' (fw' (ih2 _ _ _ _ hh) rfl rfl rfl))))
  · intro g0 g2 ih0 ih2 t left2 i1 res hh
    refine Z0.unroll (S' (sg' 9 rfl (G' 3 rfl (AG.qe hC rfl (fun hg => ⟨trivial, trivial⟩) (A0.lenA _) (G' 3 rfl (a1' rfl (pa' rfl (an' (n' (ci' rfl hh (fun hh => ?_) (fun hh => ?_)))))))))))
    · obtain ⟨x2, hx2, hh⟩ := bs' hh
      obtain ⟨x3, hx3, hh⟩ := bs' hh
      exact sk' (S' (bk' (P' 3 rfl (i' rfl (W0 hx2) (A0.idx hx2) rfl (o' 2 rfl (c' (ih0 _ _ _ hx3) rfl rfl (e' rfl (T' rfl (lw' (ih2 _ _ _ _ hh) rfl rfl rfl)))))))))
    cases hh
    exact ex' (t' rfl (re' (rt' rfl rfl rfl)))
theorem C1q {t left res} (hh : Be t left = some res) : D1d t left res := (Uw).1 _ _ _ hh
theorem H29 {t left1 i res} (hh : Ve t left1 i = some res) : K15 t left1 i res := (Uw).2.1 _ _ _ _ hh
theorem I29 {t left2 i1 res} (hh : We t left2 i1 = some res) : L15 t left2 i1 res := (Uw).2.2 _ _ _ _ hh
mutual
def S9 (e : C0) (left : Int) : Option Int :=
  Xe e (IntKind.i64.wrap ((IntKind.i64.wrap (left - 1)) - (IntKind.i64.wrap (Int.tdiv ((e.Name).length : Int) 16)))) 0
  partial_fixpoint
def Xe (e : C0) (left1 : Int) (i : Int) : Option Int :=
  if (bif (decide (i < ((e.Kids).length : Int))) then (decide (left1 ≥ 0)) else false) = true then
    idx e.Kids i >>= fun x1 =>
    S9 x1 left1 >>= fun x2 =>
    Xe e x2 (IntKind.i64.wrap (i + 1))
  else
    some left1
  partial_fixpoint
end
abbrev E1d (e : C0) (left : Int) (res : Int) : Prop := S0 C 40 [.agg (C0.cells e), .d (.int .i64 left)] [] (Ret [] (.d (.int .i64 res)))
abbrev M15 (e : C0) (left1 : Int) (i : Int) (res : Int) : Prop := LM C 32 0 Tryz.f40 [1, 1, 0, 1, 4] [(1, .d (.int .i64 left1)), (2, .ref 0 0), (5, .d (.int .i64 i))] [.row (C0.cells e) 34] (Ret [] (.d (.int .i64 res)))
theorem J18 : (∀ e left res, S9 e left = some res → E1d e left res) ∧ (∀ e left1 i res, Xe e left1 i = some res → M15 e left1 i res) := by
  refine S9.mutual_partial_correctness _ _ ?_ ?_
  · intro g1 ih1 e left res hh
    exact S0.intro hC Tryz.func40 rfl rfl rfl (s' rfl rfl (I0.n hC rfl (e' rfl (p' 5 rfl (qc' rfl (by decide) (e' rfl (S' (t' rfl (bk' (fw' (ih1 _ _ _ _ hh) rfl rfl rfl))))))))))
  · intro g0 g1 ih0 ih1 e left1 i res hh
    refine Z0.unroll (S' (sg' 9 rfl (G' 3 rfl (AG.qe hC rfl (fun hg => ⟨trivial, trivial⟩) (C0.lenA _) (G' 3 rfl (a1' rfl (pa' rfl (an' (n' (ci' rfl hh (fun hh => ?_) (fun hh => ?_)))))))))))
    · obtain ⟨x1, hx1, hh⟩ := bs' hh
      obtain ⟨x2, hx2, hh⟩ := bs' hh
      exact sk' (S' (bk' (P' 3 rfl (i' rfl (W0 hx1) (C0.idx hx1) rfl (o' 2 rfl (c' (ih0 _ _ _ hx2) rfl rfl (e' rfl (T' rfl (lw' (ih1 _ _ _ _ hh) rfl rfl rfl)))))))))
    cases hh
    exact ex' (t' rfl (re' (rt' rfl rfl rfl)))
theorem Br {e left res} (hh : S9 e left = some res) : E1d e left res := (J18).1 _ _ _ hh
theorem J29 {e left1 i res} (hh : Xe e left1 i = some res) : M15 e left1 i res := (J18).2 _ _ _ _ hh
mutual
def S8 (l : List D0) (left : Int) : Option Int :=
  Na l left 0
  partial_fixpoint
def Na (l : List D0) (left2 : Int) (i : Int) : Option Int :=
  if (bif (decide (i < ((l).length : Int))) then (decide (left2 ≥ 0)) else false) = true then
    idx l i >>= fun x1 =>
    S9 x1.Place (IntKind.i64.wrap ((IntKind.i64.wrap (left2 - 1)) - (IntKind.i64.wrap (Int.tdiv ((x1.Name).length : Int) 16)))) >>= fun x2 =>
    S9 x1.Value x2 >>= fun x3 =>
    Vc l x1 x3 i 0
  else
    some left2
  partial_fixpoint
def Vc (l : List D0) (x1 : D0) (left1 : Int) (i1 : Int) (k : Int) : Option Int :=
  if (bif (decide (k < ((x1.Args).length : Int))) then (decide (left1 ≥ 0)) else false) = true then
    idx x1.Args k >>= fun x4 =>
    S9 x4 left1 >>= fun x5 =>
    Vc l x1 x5 i1 (IntKind.i64.wrap (k + 1))
  else
    if (decide (((x1.Numbers).length : Int) > 100)) = true then
      some (-1)
    else
      S8 x1.Then left1 >>= fun x6 =>
      S8 x1.Else x6 >>= fun x7 =>
      Na l x7 (IntKind.i64.wrap (i1 + 1))
  partial_fixpoint
end
abbrev Q1a (l : List D0) (left : Int) (res : Int) : Prop := S0 C 51 [.d (.sl (D0.rows l)), .d (.int .i64 left)] [] (Ret [] (.d (.int .i64 res)))
abbrev J12 (l : List D0) (left2 : Int) (i : Int) (res : Int) : Prop := LM C 68 0 Tryz.f51 [1, 0, 1, 4] [(0, .d (.sl (D0.rows l))), (1, .d (.int .i64 left2)), (5, .d (.int .i64 i))] [] (Ret [] (.d (.int .i64 res)))
abbrev K12 (l : List D0) (x1 : D0) (left1 : Int) (i1 : Int) (k : Int) (res : Int) : Prop := LM C 68 0 Tryz.f51 [1, 0, 1, 4, 5, 1, 0, 4, 1, 1, 1, 1, 0, 1, 4] [(0, .d (.sl (D0.rows l))), (1, .d (.int .i64 left1)), (5, .d (.int .i64 i1)), (6, .ref 0 0), (7, .d (.int .i64 k))] [.row (D0.cells x1) 53] (Ret [] (.d (.int .i64 res)))
theorem Uu : (∀ l left res, S8 l left = some res → Q1a l left res) ∧ (∀ l left2 i res, Na l left2 i = some res → J12 l left2 i res) ∧ (∀ l x1 left1 i1 k res, Vc l x1 left1 i1 k = some res → K12 l x1 left1 i1 k res) := by
  refine S8.mutual_partial_correctness _ _ _ ?_ ?_ ?_
  · intro g1 ih1 l left res hh
    exact S0.intro hC Tryz.func51 rfl rfl rfl (t' rfl (S' (t' rfl (bk' (fw' (ih1 _ _ _ _ hh) rfl rfl rfl)))))
  · intro g2 ih2 l left2 i res hh
    refine Z0.unroll (S' (sg' 8 rfl (G' 2 rfl (AG.qe hC rfl (fun hg => ⟨trivial, trivial⟩) (D0.lenA _) (G' 3 rfl (a1' rfl (pa' rfl (an' (n' (ci' rfl hh (fun hh => ?_) (fun hh => ?_)))))))))))
    · obtain ⟨x1, hx1, hh⟩ := bs' hh
      obtain ⟨x2, hx2, hh⟩ := bs' hh
      obtain ⟨x3, hx3, hh⟩ := bs' hh
      refine sk' (S' (bk' (p' 2 rfl (i' rfl (W0 hx1) (D0.idx hx1) rfl (q' rfl (I0.nf hC rfl (I0.s hC rfl (n' (p' 5 rfl (qc' rfl (by decide) (e' rfl (p' 3 rfl (c' (Br hx2) rfl rfl ?_)))))))))))))
      exact e' rfl (p' 3 rfl (c' (Br hx3) rfl rfl (e' rfl (S' (t' rfl (bk' (fw' (ih2 _ _ _ _ _ _ hh) rfl rfl rfl)))))))
    cases hh
    exact ex' (t' rfl (re' (rt' rfl rfl rfl)))
  · intro g0 g1 g2 ih0 ih1 ih2 l x1 left1 i1 k res hh
    refine Z0.unroll (S' (sg' 9 rfl (G' 3 rfl (AG.qe hC rfl (fun hg => ⟨trivial, trivial⟩) (C0.lenA _) (G' 3 rfl (a1' rfl (pa' rfl (an' (n' (ci' rfl hh (fun hh => ?_) (fun hh => ?_)))))))))))
    · obtain ⟨x4, hx4, hh⟩ := bs' hh
      obtain ⟨x5, hx5, hh⟩ := bs' hh
      exact sk' (S' (bk' (P' 3 rfl (i' rfl (W0 hx4) (C0.idx hx4) rfl (o' 2 rfl (c' (Br hx5) rfl rfl (e' rfl (T' rfl (lw' (ih2 _ _ _ _ _ _ hh) rfl rfl rfl)))))))))
    refine ex' (S' (p' 2 rfl (qe' rfl trivial (ei64.lenA _) (e' rfl (ci' rfl hh (fun hh => ?_) (fun hh => ?_))))))
    · cases hh
      exact t' rfl (re' (rt' rfl rfl rfl))
    obtain ⟨x6, hx6, hh⟩ := bs' hh
    obtain ⟨x7, hx7, hh⟩ := bs' hh
    exact sk' (p' 3 rfl (c' (ih0 _ _ _ hx6) rfl rfl (e' rfl (P' 3 rfl (c' (ih0 _ _ _ hx7) rfl rfl (e' rfl (T' rfl (lw' (ih1 _ _ _ _ hh) rfl rfl rfl))))))))
theorem K18 {l left res} (hh : S8 l left = some res) : Q1a l left res := (Uu).1 _ _ _ hh
theorem O26 {l left2 i res} (hh : Na l left2 i = some res) : J12 l left2 i res := (Uu).2.1 _ _ _ _ hh
theorem P26 {l x1 left1 i1 k res} (hh : Vc l x1 left1 i1 k = some res) : K12 l x1 left1 i1 k res := (Uu).2.2 _ _ _ _ _ _ hh
mutual
def Jf (l : List B0) (left : Int) : Option Int :=
  Wc l left 0
  partial_fixpoint
def Wc (l : List B0) (left1 : Int) (i : Int) : Option Int :=
  if (bif (decide (i < ((l).length : Int))) then (decide (left1 ≥ 0)) else false) = true then
    idx l i >>= fun x1 =>
    Be x1.TypeV (IntKind.i64.wrap ((IntKind.i64.wrap (left1 - 1)) - (IntKind.i64.wrap (Int.tdiv ((x1.Name).length : Int) 16)))) >>= fun x2 =>
    S9 x1.Value x2 >>= fun x3 =>
    Jf x1.Params x3 >>= fun x4 =>
    Jf x1.Vars x4 >>= fun x5 =>
    S8 x1.Body x5 >>= fun x6 =>
    Wc l x6 (IntKind.i64.wrap (i + 1))
  else
    some left1
  partial_fixpoint
end
abbrev R1a (l : List B0) (left : Int) (res : Int) : Prop := S0 C 52 [.d (.sl (B0.rows l)), .d (.int .i64 left)] [] (Ret [] (.d (.int .i64 res)))
abbrev L12 (l : List B0) (left1 : Int) (i : Int) (res : Int) : Prop := LM C 49 0 Tryz.f52 [1, 0, 1, 4] [(0, .d (.sl (B0.rows l))), (1, .d (.int .i64 left1)), (5, .d (.int .i64 i))] [] (Ret [] (.d (.int .i64 res)))
theorem N15 : (∀ l left res, Jf l left = some res → R1a l left res) ∧ (∀ l left1 i res, Wc l left1 i = some res → L12 l left1 i res) := by
  refine Jf.mutual_partial_correctness _ _ ?_ ?_
  · intro g1 ih1 l left res hh
    exact S0.intro hC Tryz.func52 rfl rfl rfl (t' rfl (S' (t' rfl (bk' (fw' (ih1 _ _ _ _ hh) rfl rfl rfl)))))
  · intro g0 g1 ih0 ih1 l left1 i res hh
    refine Z0.unroll (S' (sg' 8 rfl (G' 2 rfl (AG.qe hC rfl (fun hg => ⟨trivial, trivial⟩) (B0.lenA _) (G' 3 rfl (a1' rfl (pa' rfl (an' (n' (ci' rfl hh (fun hh => ?_) (fun hh => ?_)))))))))))
    · obtain ⟨x1, hx1, hh⟩ := bs' hh
      obtain ⟨x2, hx2, hh⟩ := bs' hh
      obtain ⟨x3, hx3, hh⟩ := bs' hh
      obtain ⟨x4, hx4, hh⟩ := bs' hh
      obtain ⟨x5, hx5, hh⟩ := bs' hh
      obtain ⟨x6, hx6, hh⟩ := bs' hh
      refine sk' (S' (bk' (p' 2 rfl (i' rfl (W0 hx1) (B0.idx hx1) rfl (q' rfl (I0.nf hC rfl (I0.s hC rfl (n' (p' 5 rfl (qc' rfl (by decide) (e' rfl (p' 3 rfl (c' (C1q hx2) rfl rfl ?_)))))))))))))
      exact e' rfl (p' 3 rfl (c' (Br hx3) rfl rfl (e' rfl (p' 3 rfl (c' (ih0 _ _ _ hx4) rfl rfl (e' rfl (p' 3 rfl (c' (ih0 _ _ _ hx5) rfl rfl (e' rfl (P' 3 rfl (c' (K18 hx6) rfl rfl (e' rfl (T' rfl (lw' (ih1 _ _ _ _ hh) rfl rfl rfl))))))))))))))
    cases hh
    exact ex' (t' rfl (re' (rt' rfl rfl rfl)))
theorem P1n {l left res} (hh : Jf l left = some res) : R1a l left res := (N15).1 _ _ _ hh
theorem Q26 {l left1 i res} (hh : Wc l left1 i = some res) : L12 l left1 i res := (N15).2 _ _ _ _ hh
def L18 (p : K0) (most : Int) : Option Bool :=
  Jf p.Decls most >>= fun x1 =>
  S8 p.Body x1 >>= fun x2 =>
  some (decide (x2 ≥ 0))
theorem P22 {p most res} (hh : L18 p most = some res) : S0 C 27 [.agg (K0.cells p), .d (.int .i64 most)] [] (Ret [] (.d (.bool res))) := by
  unfold L18 at hh
  obtain ⟨x1, hx1, hh⟩ := bs' hh
  obtain ⟨x2, hx2, hh⟩ := bs' hh
  cases hh
  exact S0.intro hC Tryz.func27 rfl rfl rfl (s' rfl rfl (I0.n hC rfl (e' rfl (S' (AEx.draw hC 9 rfl rfl rfl (O' 5 rfl (Qc' (P1n hx1) rfl rfl (Qc' (K18 hx2) rfl rfl (E' rfl (n' (re' (rt' rfl rfl rfl))))))))))))
def Q1n (p : K0) : Option Bool :=
  L18 p 300 >>= fun x1 =>
  some x1
theorem Q22 {p res} (hh : Q1n p = some res) : S0 C 12 [.agg (K0.cells p)] [] (Ret [] (.d (.bool res))) := by
  unfold Q1n at hh
  obtain ⟨x1, hx1, hh⟩ := bs' hh
  cases hh
  exact S0.intro hC Tryz.func12 rfl rfl rfl (s' rfl rfl (I0.n hC rfl (e' rfl (p' 1 rfl (c' (P22 hx1) rfl rfl (e' rfl (re' (rt' rfl rfl rfl))))))))
def Xr (k : Int) : Option Bool :=
  some (bif (decide (k ≥ 0)) then (decide (k ≤ 6)) else false)
theorem S1a {k res} (hh : Xr k = some res) : S0 C 124 [.d (.int .i64 k)] [] (Ret [] (.d (.bool res))) := by
  unfold Xr at hh
  cases hh
  exact S0.intro hC Tryz.func124 rfl rfl rfl (t' rfl (sg' 7 rfl (G' 4 rfl (a1' rfl (pa' rfl (a0' rfl (an' (n' (re' (rt' rfl rfl rfl))))))))))
mutual
def Gc (a : A0) (b : A0) : Option Bool :=
  if (bif (bif (bif (bif (bif (bif (a.Kind != b.Kind) then true else (a.Low != b.Low)) then true else (a.High != b.High)) then true else (a.Size != b.Size)) then true else (!(a.Name == b.Name))) then true else (((a.Names).length : Int) != ((b.Names).length : Int))) then true else (((a.Of).length : Int) != ((b.Of).length : Int))) = true then
    some false
  else
    Xc a b 0
  partial_fixpoint
def Xc (a : A0) (b : A0) (i : Int) : Option Bool :=
  if (decide (i < ((a.Names).length : Int))) = true then
    idx a.Names i >>= fun x1 =>
    idx b.Names i >>= fun x2 =>
    if (!(x1 == x2)) = true then
      some false
    else
      Xc a b (IntKind.i64.wrap (i + 1))
  else
    Oa a b 0
  partial_fixpoint
def Oa (a : A0) (b : A0) (i1 : Int) : Option Bool :=
  if (decide (i1 < ((a.Of).length : Int))) = true then
    idx a.Of i1 >>= fun x3 =>
    idx b.Of i1 >>= fun x4 =>
    Gc x3 x4 >>= fun x5 =>
    if (!x5) = true then
      some false
    else
      Oa a b (IntKind.i64.wrap (i1 + 1))
  else
    some true
  partial_fixpoint
end
abbrev T1a (a : A0) (b : A0) (res : Bool) : Prop := S0 C 18 [.agg (A0.cells a), .agg (A0.cells b)] [] (Ret [] (.d (.bool res)))
abbrev M12 (a : A0) (b : A0) (i : Int) (res : Bool) : Prop := LM C 95 0 Tryz.f18 [1, 1, 0, 1, 4] [(2, .ref 0 0), (3, .ref 1 0), (5, .d (.int .i64 i))] [.row (A0.cells a) 40, .row (A0.cells b) 40] (Ret [] (.d (.bool res)))
abbrev N12 (a : A0) (b : A0) (i1 : Int) (res : Bool) : Prop := LM C 95 0 Tryz.f18 [1, 1, 1, 0, 1, 4] [(2, .ref 0 0), (3, .ref 1 0), (6, .d (.int .i64 i1))] [.row (A0.cells a) 40, .row (A0.cells b) 40] (Ret [] (.d (.bool res)))
theorem Vu : (∀ a b res, Gc a b = some res → T1a a b res) ∧ (∀ a b i res, Xc a b i = some res → M12 a b i res) ∧ (∀ a b i1 res, Oa a b i1 = some res → N12 a b i1 res) := by
  refine Gc.mutual_partial_correctness _ _ _ ?_ ?_ ?_
  · intro g1 ih1 a b res hh
    refine S0.intro hC Tryz.func18 rfl rfl rfl (s' rfl rfl (I0.n hC rfl (I0.n hC rfl (e' rfl (S' (sg' 51 rfl (G' 7 rfl (a1' rfl (a0' rfl (a1' rfl (a2' rfl (po' rfl (G' 2 rfl ?_)))))))))))))
    refine a1' rfl (a0' rfl (a1' rfl (a2' rfl (po' rfl (G' 2 rfl (a1' rfl (a0' rfl (a1' rfl (a2' rfl (po' rfl (G' 2 rfl (a1' rfl (a0' rfl ?_)))))))))))))
    refine a1' rfl (a2' rfl (po' rfl (G' 2 rfl (a1' rfl (AG.qe hC rfl (fun hg => ⟨⟨hg, trivial⟩, trivial⟩) (estr.lenA _) (a0' rfl (a1' rfl (AG.qe hC rfl (fun hg => ⟨⟨hg, trivial⟩, trivial⟩) (estr.lenA _) (a2' rfl (po' rfl (G' 2 rfl (a1' rfl (AG.qe hC rfl (fun hg => ⟨⟨hg, trivial⟩, trivial⟩) (A0.lenA _) ?_)))))))))))))
    refine a0' rfl (a1' rfl (AG.qe hC rfl (fun hg => ⟨⟨hg, trivial⟩, trivial⟩) (A0.lenA _) (a2' rfl (po' rfl (an' (n' (ci' rfl hh (fun hh => ?_) (fun hh => ?_))))))))
    · cases hh
      exact t' rfl (re' (rt' rfl rfl rfl))
    exact sk' (S' (t' rfl (bk' (fw' (ih1 _ _ _ _ hh) rfl rfl rfl))))
  · intro g1 g2 ih1 ih2 a b i res hh
    refine Z0.unroll (S' (p' 3 rfl (qe' rfl trivial (estr.lenA _) (e' rfl (ci' rfl hh (fun hh => ?_) (fun hh => ?_))))))
    · obtain ⟨x1, hx1, hh⟩ := bs' hh
      obtain ⟨x2, hx2, hh⟩ := bs' hh
      refine sk' (S' (bk' (S' (AEx.draw hC 11 rfl rfl rfl (O' 3 rfl (AQ.i hC rfl (W0 hx1) (estr.idx hx1) rfl (O' 4 rfl (AQ.i hC rfl (W0 hx2) (estr.idx hx2) rfl (E' rfl (n' (ci' rfl hh (fun hh => ?_) (fun hh => ?_))))))))))))
      · cases hh
        exact t' rfl (re' (rt' rfl rfl rfl))
      exact sk' (T' rfl (lw' (ih1 _ _ _ _ hh) rfl rfl rfl))
    exact ex' (S' (t' rfl (bk' (fw' (ih2 _ _ _ _ hh) rfl rfl rfl))))
  · intro g0 g2 ih0 ih2 a b i1 res hh
    refine Z0.unroll (S' (p' 3 rfl (qe' rfl trivial (A0.lenA _) (e' rfl (ci' rfl hh (fun hh => ?_) (fun hh => ?_))))))
    · obtain ⟨x3, hx3, hh⟩ := bs' hh
      obtain ⟨x4, hx4, hh⟩ := bs' hh
      obtain ⟨x5, hx5, hh⟩ := bs' hh
      refine sk' (S' (bk' (S' (AEx.draw hC 12 rfl rfl rfl (O' 3 rfl (AQ.i hC rfl (W0 hx3) (A0.idx hx3) rfl (O' 4 rfl (AQ.i hC rfl (W0 hx4) (A0.idx hx4) rfl (Q' rfl (Qc' (ih0 _ _ _ hx5) rfl rfl (E' rfl (n' (ci' rfl hh (fun hh => ?_) (fun hh => ?_))))))))))))))
      · cases hh
        exact t' rfl (re' (rt' rfl rfl rfl))
      exact sk' (T' rfl (lw' (ih2 _ _ _ _ hh) rfl rfl rfl))
    cases hh
    exact ex' (t' rfl (re' (rt' rfl rfl rfl)))
theorem M18 {a b res} (hh : Gc a b = some res) : T1a a b res := (Vu).1 _ _ _ hh
theorem R26 {a b i res} (hh : Xc a b i = some res) : M12 a b i res := (Vu).2.1 _ _ _ _ hh
theorem S26 {a b i1 res} (hh : Oa a b i1 = some res) : N12 a b i1 res := (Vu).2.2 _ _ _ _ hh
def Yr (t : A0) : Option Bool :=
  Gc t (A0.mk 0 0 0 0 [] [] []) >>= fun x1 =>
  some x1
theorem D1q {t res} (hh : Yr t = some res) : S0 C 217 [.agg (A0.cells t)] [] (Ret [] (.d (.bool res))) := by
  unfold Yr at hh
  obtain ⟨x1, hx1, hh⟩ := bs' hh
  cases hh
  exact S0.intro hC Tryz.func217 rfl rfl rfl (s' rfl rfl (I0.n hC rfl (e' rfl (p' 2 rfl (c' (M18 hx1) rfl rfl (e' rfl (re' (rt' rfl rfl rfl))))))))
mutual
def Kf (t : A0) : Option Int :=
  Yc t 1 0
  partial_fixpoint
def Yc (t : A0) (n : Int) (i : Int) : Option Int :=
  if (decide (i < ((t.Of).length : Int))) = true then
    idx t.Of i >>= fun x1 =>
    Kf x1 >>= fun x2 =>
    Yc t (IntKind.i64.wrap (n + x2)) (IntKind.i64.wrap (i + 1))
  else
    some n
  partial_fixpoint
end
abbrev U1a (t : A0) (res : Int) : Prop := S0 C 218 [.agg (A0.cells t)] [] (Ret [] (.d (.int .i64 res)))
abbrev O12 (t : A0) (n : Int) (i : Int) (res : Int) : Prop := LM C 21 0 Tryz.f218 [1, 1, 0, 1, 4] [(1, .ref 0 0), (3, .d (.int .i64 n)), (4, .d (.int .i64 i))] [.row (A0.cells t) 40] (Ret [] (.d (.int .i64 res)))
theorem O15 : (∀ t res, Kf t = some res → U1a t res) ∧ (∀ t n i res, Yc t n i = some res → O12 t n i res) := by
  refine Kf.mutual_partial_correctness _ _ ?_ ?_
  · intro g1 ih1 t res hh
    exact S0.intro hC Tryz.func218 rfl rfl rfl (s' rfl rfl (I0.n hC rfl (e' rfl (t' rfl (S' (t' rfl (bk' (fw' (ih1 _ _ _ _ hh) rfl rfl rfl))))))))
  · intro g0 g1 ih0 ih1 t n i res hh
    refine Z0.unroll (S' (p' 3 rfl (qe' rfl trivial (A0.lenA _) (e' rfl (ci' rfl hh (fun hh => ?_) (fun hh => ?_))))))
    · obtain ⟨x1, hx1, hh⟩ := bs' hh
      obtain ⟨x2, hx2, hh⟩ := bs' hh
      exact sk' (S' (bk' (P' 4 rfl (i' rfl (W0 hx1) (A0.idx hx1) rfl (q' rfl (c' (ih0 _ _ hx2) rfl rfl (e' rfl (T' rfl (lw' (ih1 _ _ _ _ hh) rfl rfl rfl)))))))))
    cases hh
    exact ex' (t' rfl (re' (rt' rfl rfl rfl)))
theorem R1n {t res} (hh : Kf t = some res) : U1a t res := (O15).1 _ _ hh
theorem T26 {t n i res} (hh : Yc t n i = some res) : O12 t n i res := (O15).2 _ _ _ _ hh
mutual
def Lf (t : A0) : Option Int :=
  Pa t 0 0
  partial_fixpoint
def Pa (t : A0) (d : Int) (i : Int) : Option Int :=
  if (decide (i < ((t.Of).length : Int))) = true then
    idx t.Of i >>= fun x1 =>
    Lf x1 >>= fun x2 =>
    if (decide (x2 > d)) = true then
      Pa t x2 (IntKind.i64.wrap (i + 1))
    else
      Pa t d (IntKind.i64.wrap (i + 1))
  else
    some (IntKind.i64.wrap (d + 1))
  partial_fixpoint
end
abbrev V1a (t : A0) (res : Int) : Prop := S0 C 219 [.agg (A0.cells t)] [] (Ret [] (.d (.int .i64 res)))
abbrev P12 (t : A0) (d : Int) (i : Int) (res : Int) : Prop := LM C 25 0 Tryz.f219 [1, 1, 0, 1, 4] [(1, .ref 0 0), (3, .d (.int .i64 d)), (4, .d (.int .i64 i))] [.row (A0.cells t) 40] (Ret [] (.d (.int .i64 res)))
theorem P15 : (∀ t res, Lf t = some res → V1a t res) ∧ (∀ t d i res, Pa t d i = some res → P12 t d i res) := by
  refine Lf.mutual_partial_correctness _ _ ?_ ?_
  · intro g1 ih1 t res hh
    exact S0.intro hC Tryz.func219 rfl rfl rfl (s' rfl rfl (I0.n hC rfl (e' rfl (t' rfl (S' (t' rfl (bk' (fw' (ih1 _ _ _ _ hh) rfl rfl rfl))))))))
  · intro g0 g1 ih0 ih1 t d i res hh
    refine Z0.unroll (S' (p' 3 rfl (qe' rfl trivial (A0.lenA _) (e' rfl (ci' rfl hh (fun hh => ?_) (fun hh => ?_))))))
    · obtain ⟨x1, hx1, hh⟩ := bs' hh
      obtain ⟨x2, hx2, hh⟩ := bs' hh
      refine sk' (S' (bk' (p' 3 rfl (i' rfl (W0 hx1) (A0.idx hx1) rfl (q' rfl (c' (ih0 _ _ hx2) rfl rfl (e' rfl (t' rfl (ci' rfl hh (fun hh => ?_) (fun hh => ?_))))))))))
      · exact T' rfl (T' rfl (lw' (ih1 _ _ _ _ hh) rfl rfl rfl))
      exact sk' (T' rfl (lw' (ih1 _ _ _ _ hh) rfl rfl rfl))
    cases hh
    exact ex' (t' rfl (re' (rt' rfl rfl rfl)))
theorem S1n {t res} (hh : Lf t = some res) : V1a t res := (P15).1 _ _ hh
theorem U26 {t d i res} (hh : Pa t d i = some res) : P12 t d i res := (P15).2 _ _ _ _ hh
def N9 (s : Q0) (d : Int) : Option Q0 :=
  if (decide (d > s.depth)) = true then
    some (Q0.mk s.nodes d)
  else
    some s
theorem It {s d res} (hh : N9 s d = some res) : S0 C 158 [.agg (Q0.cells s), .d (.int .i64 d)] [] (Ret [] (.agg (Q0.cells res))) := by
  unfold N9 at hh
  refine S0.intro hC Tryz.func158 rfl rfl rfl (s' rfl rfl (I0.n hC rfl (I0.n hC rfl (n' (S' (t' rfl (ci' rfl hh (fun hh => ?_) (fun hh => ?_))))))))
  · cases hh
    exact P' 2 rfl (I0.s hC rfl (n' (p' 1 rfl (I0.s hC rfl (n' (re' (rt' rfl rfl rfl)))))))
  cases hh
  exact sk' (p' 1 rfl (I0.s hC rfl (n' (re' (rt' rfl rfl rfl)))))
def Ej (s : Q0) (t : A0) (used : Bool) : Option Q0 :=
  (if (!used) = true then Yr t else some default) >>= fun x1 =>
  if (bif (!used) then x1 else false) = true then
    some s
  else
    Kf t >>= fun x2 =>
    Lf t >>= fun x3 =>
    N9 (Q0.mk (IntKind.i64.wrap (s.nodes + x2)) s.depth) x3 >>= fun x4 =>
    some x4
theorem F1d {s t used res} (hh : Ej s t used = some res) : S0 C 190 [.agg (Q0.cells s), .agg (A0.cells t), .d (.bool used)] [] (Ret [] (.agg (Q0.cells res))) := by
  unfold Ej at hh
  obtain ⟨x1, hx1, hh⟩ := bs' hh
  refine S0.intro hC Tryz.func190 rfl rfl rfl (s' rfl rfl (I0.n hC rfl (I0.n hC rfl (I0.n hC rfl (n' (S' (sg' 6 rfl (G' 4 rfl (AG.c rfl rfl (fun hg => ⟨hg, trivial⟩) (fun hw => D1q (T1 hw hx1)) (pa' rfl (an' (n' (ci' rfl hh (fun hh => ?_) (fun hh => ?_))))))))))))))
  · cases hh
    exact p' 1 rfl (I0.s hC rfl (n' (re' (rt' rfl rfl rfl))))
  obtain ⟨x2, hx2, hh⟩ := bs' hh
  obtain ⟨x3, hx3, hh⟩ := bs' hh
  obtain ⟨x4, hx4, hh⟩ := bs' hh
  cases hh
  refine sk' (S' (AEx.draw hC 6 rfl rfl rfl (O' 3 rfl (Qc' (R1n hx2) rfl rfl (E' rfl (I0.s hC rfl (n' (S' (AEx.draw hC 4 rfl rfl rfl (O' 2 rfl (Qc' (S1n hx3) rfl rfl (Qc' (It hx4) rfl rfl (Qn' ?_)))))))))))))
  exact I0.s hC rfl (n' (re' (rt' rfl rfl rfl)))
def Ql (k : Int) : Option Bool :=
  some (bif (k == 5) then true else (k == 6))
theorem Ww {k res} (hh : Ql k = some res) : S0 C 126 [.d (.int .i64 k)] [] (Ret [] (.d (.bool res))) := by
  unfold Ql at hh
  cases hh
  exact S0.intro hC Tryz.func126 rfl rfl rfl (t' rfl (sg' 7 rfl (G' 4 rfl (a1' rfl (po' rfl (a0' rfl (an' (n' (re' (rt' rfl rfl rfl))))))))))
mutual
def Mf (a : C0) (b : C0) : Option Bool :=
  if (bif (bif (bif (a.Op != b.Op) then true else (a.NV != b.NV)) then true else (!(a.Name == b.Name))) then true else (((a.Kids).length : Int) != ((b.Kids).length : Int))) = true then
    some false
  else
    Zc a b 0
  partial_fixpoint
def Zc (a : C0) (b : C0) (i : Int) : Option Bool :=
  if (decide (i < ((a.Kids).length : Int))) = true then
    idx a.Kids i >>= fun x1 =>
    idx b.Kids i >>= fun x2 =>
    Mf x1 x2 >>= fun x3 =>
    if (!x3) = true then
      some false
    else
      Zc a b (IntKind.i64.wrap (i + 1))
  else
    some true
  partial_fixpoint
end
abbrev W1a (a : C0) (b : C0) (res : Bool) : Prop := S0 C 191 [.agg (C0.cells a), .agg (C0.cells b)] [] (Ret [] (.d (.bool res)))
abbrev Q12 (a : C0) (b : C0) (i : Int) (res : Bool) : Prop := LM C 53 0 Tryz.f191 [1, 1, 0, 1, 4] [(2, .ref 0 0), (3, .ref 1 0), (5, .d (.int .i64 i))] [.row (C0.cells a) 34, .row (C0.cells b) 34] (Ret [] (.d (.bool res)))
theorem Q15 : (∀ a b res, Mf a b = some res → W1a a b res) ∧ (∀ a b i res, Zc a b i = some res → Q12 a b i res) := by
  refine Mf.mutual_partial_correctness _ _ ?_ ?_
  · intro g1 ih1 a b res hh
    refine S0.intro hC Tryz.func191 rfl rfl rfl (s' rfl rfl (I0.n hC rfl (I0.n hC rfl (e' rfl (S' (sg' 28 rfl (G' 7 rfl (a1' rfl (a0' rfl (a1' rfl (a2' rfl (po' rfl (G' 2 rfl ?_)))))))))))))
    refine a1' rfl (a0' rfl (a1' rfl (a2' rfl (po' rfl (G' 2 rfl (a1' rfl (AG.qe hC rfl (fun hg => ⟨⟨hg, trivial⟩, trivial⟩) (C0.lenA _) (a0' rfl (a1' rfl (AG.qe hC rfl (fun hg => ⟨⟨hg, trivial⟩, trivial⟩) (C0.lenA _) (a2' rfl (po' rfl (an' ?_)))))))))))))
    refine n' (ci' rfl hh (fun hh => ?_) (fun hh => ?_))
    · cases hh
      exact t' rfl (re' (rt' rfl rfl rfl))
    exact sk' (S' (t' rfl (bk' (fw' (ih1 _ _ _ _ hh) rfl rfl rfl))))
  · intro g0 g1 ih0 ih1 a b i res hh
    refine Z0.unroll (S' (p' 3 rfl (qe' rfl trivial (C0.lenA _) (e' rfl (ci' rfl hh (fun hh => ?_) (fun hh => ?_))))))
    · obtain ⟨x1, hx1, hh⟩ := bs' hh
      obtain ⟨x2, hx2, hh⟩ := bs' hh
      obtain ⟨x3, hx3, hh⟩ := bs' hh
      refine sk' (S' (bk' (S' (AEx.draw hC 12 rfl rfl rfl (O' 3 rfl (AQ.i hC rfl (W0 hx1) (C0.idx hx1) rfl (O' 4 rfl (AQ.i hC rfl (W0 hx2) (C0.idx hx2) rfl (Q' rfl (Qc' (ih0 _ _ _ hx3) rfl rfl (E' rfl (n' (ci' rfl hh (fun hh => ?_) (fun hh => ?_))))))))))))))
      · cases hh
        exact t' rfl (re' (rt' rfl rfl rfl))
      exact sk' (T' rfl (lw' (ih1 _ _ _ _ hh) rfl rfl rfl))
    cases hh
    exact ex' (t' rfl (re' (rt' rfl rfl rfl)))
theorem T1n {a b res} (hh : Mf a b = some res) : W1a a b res := (Q15).1 _ _ _ hh
theorem V26 {a b i res} (hh : Zc a b i = some res) : Q12 a b i res := (Q15).2 _ _ _ _ hh
def Fh (e : C0) : Option Bool :=
  Mf e (C0.mk 0 0 [] []) >>= fun x1 =>
  some x1
theorem Cr {e res} (hh : Fh e = some res) : S0 C 127 [.agg (C0.cells e)] [] (Ret [] (.d (.bool res))) := by
  unfold Fh at hh
  obtain ⟨x1, hx1, hh⟩ := bs' hh
  cases hh
  exact S0.intro hC Tryz.func127 rfl rfl rfl (s' rfl rfl (I0.n hC rfl (e' rfl (p' 2 rfl (c' (T1n hx1) rfl rfl (e' rfl (re' (rt' rfl rfl rfl))))))))
mutual
def Nf (e : C0) : Option Int :=
  Ad e 1 0
  partial_fixpoint
def Ad (e : C0) (n : Int) (i : Int) : Option Int :=
  if (decide (i < ((e.Kids).length : Int))) = true then
    idx e.Kids i >>= fun x1 =>
    Nf x1 >>= fun x2 =>
    Ad e (IntKind.i64.wrap (n + x2)) (IntKind.i64.wrap (i + 1))
  else
    some n
  partial_fixpoint
end
abbrev X1a (e : C0) (res : Int) : Prop := S0 C 157 [.agg (C0.cells e)] [] (Ret [] (.d (.int .i64 res)))
abbrev R12 (e : C0) (n : Int) (i : Int) (res : Int) : Prop := LM C 21 0 Tryz.f157 [1, 1, 0, 1, 4] [(1, .ref 0 0), (3, .d (.int .i64 n)), (4, .d (.int .i64 i))] [.row (C0.cells e) 34] (Ret [] (.d (.int .i64 res)))
theorem R15 : (∀ e res, Nf e = some res → X1a e res) ∧ (∀ e n i res, Ad e n i = some res → R12 e n i res) := by
  refine Nf.mutual_partial_correctness _ _ ?_ ?_
  · intro g1 ih1 e res hh
    exact S0.intro hC Tryz.func157 rfl rfl rfl (s' rfl rfl (I0.n hC rfl (e' rfl (t' rfl (S' (t' rfl (bk' (fw' (ih1 _ _ _ _ hh) rfl rfl rfl))))))))
  · intro g0 g1 ih0 ih1 e n i res hh
    refine Z0.unroll (S' (p' 3 rfl (qe' rfl trivial (C0.lenA _) (e' rfl (ci' rfl hh (fun hh => ?_) (fun hh => ?_))))))
    · obtain ⟨x1, hx1, hh⟩ := bs' hh
      obtain ⟨x2, hx2, hh⟩ := bs' hh
      exact sk' (S' (bk' (P' 4 rfl (i' rfl (W0 hx1) (C0.idx hx1) rfl (q' rfl (c' (ih0 _ _ hx2) rfl rfl (e' rfl (T' rfl (lw' (ih1 _ _ _ _ hh) rfl rfl rfl)))))))))
    cases hh
    exact ex' (t' rfl (re' (rt' rfl rfl rfl)))
theorem U1n {e res} (hh : Nf e = some res) : X1a e res := (R15).1 _ _ hh
theorem W26 {e n i res} (hh : Ad e n i = some res) : R12 e n i res := (R15).2 _ _ _ _ hh
mutual
def Pf (e : C0) : Option Int :=
  Qa e 0 0
  partial_fixpoint
def Qa (e : C0) (d : Int) (i : Int) : Option Int :=
  if (decide (i < ((e.Kids).length : Int))) = true then
    idx e.Kids i >>= fun x1 =>
    Pf x1 >>= fun x2 =>
    if (decide (x2 > d)) = true then
      Qa e x2 (IntKind.i64.wrap (i + 1))
    else
      Qa e d (IntKind.i64.wrap (i + 1))
  else
    some (IntKind.i64.wrap (d + 1))
  partial_fixpoint
end
abbrev Y1a (e : C0) (res : Int) : Prop := S0 C 159 [.agg (C0.cells e)] [] (Ret [] (.d (.int .i64 res)))
abbrev S12 (e : C0) (d : Int) (i : Int) (res : Int) : Prop := LM C 25 0 Tryz.f159 [1, 1, 0, 1, 4] [(1, .ref 0 0), (3, .d (.int .i64 d)), (4, .d (.int .i64 i))] [.row (C0.cells e) 34] (Ret [] (.d (.int .i64 res)))
theorem S15 : (∀ e res, Pf e = some res → Y1a e res) ∧ (∀ e d i res, Qa e d i = some res → S12 e d i res) := by
  refine Pf.mutual_partial_correctness _ _ ?_ ?_
  · intro g1 ih1 e res hh
    exact S0.intro hC Tryz.func159 rfl rfl rfl (s' rfl rfl (I0.n hC rfl (e' rfl (t' rfl (S' (t' rfl (bk' (fw' (ih1 _ _ _ _ hh) rfl rfl rfl))))))))
  · intro g0 g1 ih0 ih1 e d i res hh
    refine Z0.unroll (S' (p' 3 rfl (qe' rfl trivial (C0.lenA _) (e' rfl (ci' rfl hh (fun hh => ?_) (fun hh => ?_))))))
    · obtain ⟨x1, hx1, hh⟩ := bs' hh
      obtain ⟨x2, hx2, hh⟩ := bs' hh
      refine sk' (S' (bk' (p' 3 rfl (i' rfl (W0 hx1) (C0.idx hx1) rfl (q' rfl (c' (ih0 _ _ hx2) rfl rfl (e' rfl (t' rfl (ci' rfl hh (fun hh => ?_) (fun hh => ?_))))))))))
      · exact T' rfl (T' rfl (lw' (ih1 _ _ _ _ hh) rfl rfl rfl))
      exact sk' (T' rfl (lw' (ih1 _ _ _ _ hh) rfl rfl rfl))
    cases hh
    exact ex' (t' rfl (re' (rt' rfl rfl rfl)))
theorem V1n {e res} (hh : Pf e = some res) : Y1a e res := (S15).1 _ _ hh
theorem X26 {e d i res} (hh : Qa e d i = some res) : S12 e d i res := (S15).2 _ _ _ _ hh
def Ng (s : Q0) (e : C0) (used : Bool) : Option Q0 :=
  (if (!used) = true then Fh e else some default) >>= fun x1 =>
  if (bif (!used) then x1 else false) = true then
    some s
  else
    Nf e >>= fun x2 =>
    Pf e >>= fun x3 =>
    N9 (Q0.mk (IntKind.i64.wrap (s.nodes + x2)) s.depth) x3 >>= fun x4 =>
    some x4
theorem Jt {s e used res} (hh : Ng s e used = some res) : S0 C 90 [.agg (Q0.cells s), .agg (C0.cells e), .d (.bool used)] [] (Ret [] (.agg (Q0.cells res))) := by
  unfold Ng at hh
  obtain ⟨x1, hx1, hh⟩ := bs' hh
  refine S0.intro hC Tryz.func90 rfl rfl rfl (s' rfl rfl (I0.n hC rfl (I0.n hC rfl (I0.n hC rfl (n' (S' (sg' 6 rfl (G' 4 rfl (AG.c rfl rfl (fun hg => ⟨hg, trivial⟩) (fun hw => Cr (T1 hw hx1)) (pa' rfl (an' (n' (ci' rfl hh (fun hh => ?_) (fun hh => ?_))))))))))))))
  · cases hh
    exact p' 1 rfl (I0.s hC rfl (n' (re' (rt' rfl rfl rfl))))
  obtain ⟨x2, hx2, hh⟩ := bs' hh
  obtain ⟨x3, hx3, hh⟩ := bs' hh
  obtain ⟨x4, hx4, hh⟩ := bs' hh
  cases hh
  refine sk' (S' (AEx.draw hC 6 rfl rfl rfl (O' 3 rfl (Qc' (U1n hx2) rfl rfl (E' rfl (I0.s hC rfl (n' (S' (AEx.draw hC 4 rfl rfl rfl (O' 2 rfl (Qc' (V1n hx3) rfl rfl (Qc' (It hx4) rfl rfl (Qn' ?_)))))))))))))
  exact I0.s hC rfl (n' (re' (rt' rfl rfl rfl)))
def Rl (v : Int) : Option Bool :=
  some (bif (bif (v == 0) then true else (v == 1)) then true else (v == 2))
theorem Xw {v res} (hh : Rl v = some res) : S0 C 128 [.d (.int .i64 v)] [] (Ret [] (.d (.bool res))) := by
  unfold Rl at hh
  cases hh
  exact S0.intro hC Tryz.func128 rfl rfl rfl (t' rfl (sg' 11 rfl (G' 4 rfl (a1' rfl (po' rfl (G' 2 rfl (a1' rfl (po' rfl (a0' rfl (an' (n' (re' (rt' rfl rfl rfl)))))))))))))
def Sl (v : Int) : Option Bool :=
  some (bif (bif (bif (v == 0) then true else (v == 3)) then true else (v == 5)) then true else (v == 6))
theorem Yw {v res} (hh : Sl v = some res) : S0 C 130 [.d (.int .i64 v)] [] (Ret [] (.d (.bool res))) := by
  unfold Sl at hh
  cases hh
  refine S0.intro hC Tryz.func130 rfl rfl rfl (t' rfl (sg' 15 rfl (G' 4 rfl (a1' rfl (po' rfl (G' 2 rfl (a1' rfl (po' rfl (G' 2 rfl (a1' rfl (po' rfl (a0' rfl (an' ?_)))))))))))))
  exact n' (re' (rt' rfl rfl rfl))
mutual
def Ce (s : Q0) (l : List D0) (d : Int) : Option Q0 :=
  Ye l d s 0
  partial_fixpoint
def Ye (l : List D0) (d : Int) (o01 : Q0) (i : Int) : Option Q0 :=
  if (decide (i < ((l).length : Int))) = true then
    idx l i >>= fun x1 =>
    N9 (Q0.mk (IntKind.i64.wrap (o01.nodes + 1)) o01.depth) d >>= fun x2 =>
    Rl x1.Verb >>= fun x3 =>
    Ng x2 x1.Place x3 >>= fun x4 =>
    Sl x1.Verb >>= fun x5 =>
    Ng x4 x1.Value x5 >>= fun x6 =>
    Ri l d x6 x1 i 0
  else
    some o01
  partial_fixpoint
def Ri (l : List D0) (d : Int) (o0 : Q0) (x1 : D0) (i1 : Int) (k : Int) : Option Q0 :=
  if (decide (k < ((x1.Args).length : Int))) = true then
    idx x1.Args k >>= fun x7 =>
    Ng o0 x7 true >>= fun x8 =>
    Ri l d x8 x1 i1 (IntKind.i64.wrap (k + 1))
  else
    Ce o0 x1.Then (IntKind.i64.wrap (d + 1)) >>= fun x9 =>
    Ce x9 x1.Else (IntKind.i64.wrap (d + 1)) >>= fun x10 =>
    Ye l d x10 (IntKind.i64.wrap (i1 + 1))
  partial_fixpoint
end
abbrev G1d (s : Q0) (l : List D0) (d : Int) (res : Q0) : Prop := S0 C 122 [.agg (Q0.cells s), .d (.sl (D0.rows l)), .d (.int .i64 d)] [] (Ret [] (.agg (Q0.cells res)))
abbrev T15 (l : List D0) (d : Int) (o01 : Q0) (i : Int) (res : Q0) : Prop := LM C 68 0 Tryz.f122 [1, 0, 1, 4] [(1, .d (.sl (D0.rows l))), (2, .d (.int .i64 d)), (3, .ref 0 0), (6, .ref 1 0), (7, .d (.int .i64 i))] [.row (Q0.cells o01) 121, .row [.d (.int .i64 0), .d (.int .i64 0)] 121] (Ret [] (.agg (Q0.cells res)))
abbrev U15 (l : List D0) (d : Int) (o0 : Q0) (x1 : D0) (i1 : Int) (k : Int) (res : Q0) : Prop := LM C 68 0 Tryz.f122 [1, 0, 1, 4, 5, 1, 0, 4, 1, 1, 1, 1, 1, 0, 1, 4] [(1, .d (.sl (D0.rows l))), (2, .d (.int .i64 d)), (3, .ref 0 0), (6, .ref 1 0), (7, .d (.int .i64 i1)), (8, .ref 2 0), (9, .d (.int .i64 k))] [.row (Q0.cells o0) 121, .row [.d (.int .i64 0), .d (.int .i64 0)] 121, .row (D0.cells x1) 53] (Ret [] (.agg (Q0.cells res)))
theorem Zw : (∀ s l d res, Ce s l d = some res → G1d s l d res) ∧ (∀ l d o01 i res, Ye l d o01 i = some res → T15 l d o01 i res) ∧ (∀ l d o0 x1 i1 k res, Ri l d o0 x1 i1 k = some res → U15 l d o0 x1 i1 k res) := by
  refine Ce.mutual_partial_correctness _ _ _ ?_ ?_ ?_
  · intro g1 ih1 s l d res hh
    exact S0.intro hC Tryz.func122 rfl rfl rfl (s' rfl rfl (I0.n hC rfl (I0.n hC rfl (n' (S' (t' rfl (bk' (fw' (ih1 _ _ _ _ _ hh) rfl rfl rfl))))))))
  · intro g2 ih2 l d o01 i res hh
    refine Z0.unroll (S' (p' 2 rfl (qe' rfl trivial (D0.lenA _) (e' rfl (ci' rfl hh (fun hh => ?_) (fun hh => ?_))))))
    · obtain ⟨x1, hx1, hh⟩ := bs' hh
      obtain ⟨x2, hx2, hh⟩ := bs' hh
      obtain ⟨x3, hx3, hh⟩ := bs' hh
      obtain ⟨x4, hx4, hh⟩ := bs' hh
      obtain ⟨x5, hx5, hh⟩ := bs' hh
      obtain ⟨x6, hx6, hh⟩ := bs' hh
      refine sk' (S' (bk' (p' 2 rfl (i' rfl (W0 hx1) (D0.idx hx1) rfl (q' rfl (I0.nf hC rfl (I0.s hC rfl (n' (p' 4 rfl (I0.s hC rfl (n' (p' 2 rfl (c' (It hx2) rfl rfl ?_)))))))))))))
      refine I0.s hC rfl (n' (S' (AEx.draw hC 7 rfl rfl rfl (O' 5 rfl (Qc' (Xw hx3) rfl rfl (Qc' (Jt hx4) rfl rfl (Qn' (I0.s hC rfl (n' (S' (AEx.draw hC 7 rfl rfl rfl (O' 5 rfl (Qc' (Yw hx5) rfl rfl ?_)))))))))))))
      exact Qc' (Jt hx6) rfl rfl (Qn' (I0.s hC rfl (n' (S' (t' rfl (bk' (fw' (ih2 _ _ _ _ _ _ _ hh) rfl rfl rfl)))))))
    cases hh
    exact ex' (p' 1 rfl (I0.s hC rfl (n' (re' (rt' rfl rfl rfl)))))
  · intro g0 g1 g2 ih0 ih1 ih2 l d o0 x1 i1 k res hh
    refine Z0.unroll (S' (p' 3 rfl (qe' rfl trivial (C0.lenA _) (e' rfl (ci' rfl hh (fun hh => ?_) (fun hh => ?_))))))
    · obtain ⟨x7, hx7, hh⟩ := bs' hh
      obtain ⟨x8, hx8, hh⟩ := bs' hh
      exact sk' (S' (bk' (AEx.draw hC 7 rfl rfl rfl (O' 4 rfl (AQ.i hC rfl (W0 hx7) (C0.idx hx7) rfl (Q' rfl (Qc' (Jt hx8) rfl rfl (Qn' (I0.s hC rfl (n' (T' rfl (lw' (ih2 _ _ _ _ _ _ _ hh) rfl rfl rfl))))))))))))
    obtain ⟨x9, hx9, hh⟩ := bs' hh
    obtain ⟨x10, hx10, hh⟩ := bs' hh
    exact ex' (p' 5 rfl (c' (ih0 _ _ _ _ hx9) rfl rfl (I0.s hC rfl (n' (P' 5 rfl (c' (ih0 _ _ _ _ hx10) rfl rfl (I0.s hC rfl (n' (T' rfl (lw' (ih1 _ _ _ _ _ hh) rfl rfl rfl))))))))))
theorem Z1a {s l d res} (hh : Ce s l d = some res) : G1d s l d res := (Zw).1 _ _ _ _ hh
theorem K29 {l d o01 i res} (hh : Ye l d o01 i = some res) : T15 l d o01 i res := (Zw).2.1 _ _ _ _ _ hh
theorem L29 {l d o0 x1 i1 k res} (hh : Ri l d o0 x1 i1 k = some res) : U15 l d o0 x1 i1 k res := (Zw).2.2 _ _ _ _ _ _ _ hh
mutual
def Gh (s : Q0) (l : List B0) : Option Q0 :=
  Ze l s 0
  partial_fixpoint
def Ze (l : List B0) (o0 : Q0) (i : Int) : Option Q0 :=
  if (decide (i < ((l).length : Int))) = true then
    idx l i >>= fun x1 =>
    Xr x1.Kind >>= fun x2 =>
    Ej (Q0.mk (IntKind.i64.wrap (o0.nodes + 1)) o0.depth) x1.TypeV x2 >>= fun x3 =>
    Ql x1.Kind >>= fun x4 =>
    Ng x3 x1.Value x4 >>= fun x5 =>
    Gh x5 x1.Params >>= fun x6 =>
    Gh x6 x1.Vars >>= fun x7 =>
    Ce x7 x1.Body 1 >>= fun x8 =>
    Ze l x8 (IntKind.i64.wrap (i + 1))
  else
    some o0
  partial_fixpoint
end
abbrev H1d (s : Q0) (l : List B0) (res : Q0) : Prop := S0 C 123 [.agg (Q0.cells s), .d (.sl (B0.rows l))] [] (Ret [] (.agg (Q0.cells res)))
abbrev V15 (l : List B0) (o0 : Q0) (i : Int) (res : Q0) : Prop := LM C 48 0 Tryz.f123 [1, 0, 1, 4] [(1, .d (.sl (B0.rows l))), (2, .ref 0 0), (4, .ref 1 0), (5, .d (.int .i64 i))] [.row (Q0.cells o0) 121, .row [.d (.int .i64 0), .d (.int .i64 0)] 121] (Ret [] (.agg (Q0.cells res)))
theorem N18 : (∀ s l res, Gh s l = some res → H1d s l res) ∧ (∀ l o0 i res, Ze l o0 i = some res → V15 l o0 i res) := by
  refine Gh.mutual_partial_correctness _ _ ?_ ?_
  · intro g1 ih1 s l res hh
    exact S0.intro hC Tryz.func123 rfl rfl rfl (s' rfl rfl (I0.n hC rfl (I0.n hC rfl (n' (S' (t' rfl (bk' (fw' (ih1 _ _ _ _ hh) rfl rfl rfl))))))))
  · intro g0 g1 ih0 ih1 l o0 i res hh
    refine Z0.unroll (S' (p' 2 rfl (qe' rfl trivial (B0.lenA _) (e' rfl (ci' rfl hh (fun hh => ?_) (fun hh => ?_))))))
    · obtain ⟨x1, hx1, hh⟩ := bs' hh
      obtain ⟨x2, hx2, hh⟩ := bs' hh
      obtain ⟨x3, hx3, hh⟩ := bs' hh
      obtain ⟨x4, hx4, hh⟩ := bs' hh
      obtain ⟨x5, hx5, hh⟩ := bs' hh
      obtain ⟨x6, hx6, hh⟩ := bs' hh
      obtain ⟨x7, hx7, hh⟩ := bs' hh
      obtain ⟨x8, hx8, hh⟩ := bs' hh
      refine sk' (S' (bk' (p' 2 rfl (i' rfl (W0 hx1) (B0.idx hx1) rfl (q' rfl (I0.nf hC rfl (I0.s hC rfl (n' (p' 4 rfl (I0.s hC rfl (n' (S' (AEx.draw hC 7 rfl rfl rfl ?_)))))))))))))
      refine O' 5 rfl (Qc' (S1a hx2) rfl rfl (Qc' (F1d hx3) rfl rfl (Qn' (I0.s hC rfl (n' (S' (AEx.draw hC 7 rfl rfl rfl (O' 5 rfl (Qc' (Ww hx4) rfl rfl (Qc' (Jt hx5) rfl rfl (Qn' (I0.s hC rfl (n' ?_)))))))))))))
      exact p' 3 rfl (c' (ih0 _ _ _ hx6) rfl rfl (I0.s hC rfl (n' (p' 3 rfl (c' (ih0 _ _ _ hx7) rfl rfl (I0.s hC rfl (n' (P' 3 rfl (c' (Z1a hx8) rfl rfl (I0.s hC rfl (n' (T' rfl (lw' (ih1 _ _ _ _ hh) rfl rfl rfl)))))))))))))
    cases hh
    exact ex' (p' 1 rfl (I0.s hC rfl (n' (re' (rt' rfl rfl rfl)))))
theorem E1q {s l res} (hh : Gh s l = some res) : H1d s l res := (N18).1 _ _ _ hh
theorem M29 {l o0 i res} (hh : Ze l o0 i = some res) : V15 l o0 i res := (N18).2 _ _ _ _ hh
def Lz (p : K0) : Option Q0 :=
  Gh (Q0.mk 0 0) p.Decls >>= fun x1 =>
  Ce x1 p.Body 1 >>= fun x2 =>
  some x2
theorem W1w {p res} (hh : Lz p = some res) : S0 C 65 [.agg (K0.cells p)] [] (Ret [] (.agg (Q0.cells res))) := by
  unfold Lz at hh
  obtain ⟨x1, hx1, hh⟩ := bs' hh
  obtain ⟨x2, hx2, hh⟩ := bs' hh
  cases hh
  refine S0.intro hC Tryz.func65 rfl rfl rfl (s' rfl rfl (I0.n hC rfl (I0.n hC rfl (n' (S' (AEx.draw hC 7 rfl rfl rfl (O' 3 rfl (Qc' (E1q hx1) rfl rfl (O' 2 rfl (Qc' (Z1a hx2) rfl rfl (Qn' (I0.s hC rfl (n' ?_)))))))))))))
  exact re' (rt' rfl rfl rfl)
mutual
def De (t : A0) : Option Bool :=
  if (bif (decide (t.Kind < 0)) then true else (decide (t.Kind > 4))) = true then
    some false
  else
    if (bif (bif (bif (bif (t.Kind != 1) then (bif (t.Low != 0) then true else (t.High != 0)) else false) then true else (bif (t.Kind != 2) then (t.Size != 0) else false)) then true else (bif (t.Kind != 4) then (!(t.Name == [])) else false)) then true else (bif (t.Kind != 3) then (((t.Names).length : Int) != 0) else false)) = true then
      some false
    else
      if (bif (bif (bif (t.Kind == 2) then (((t.Of).length : Int) != 1) else false) then true else (bif (t.Kind == 3) then (bif (decide (((t.Of).length : Int) < 1)) then true else (((t.Of).length : Int) != ((t.Names).length : Int))) else false)) then true else (bif (bif (t.Kind != 2) then (t.Kind != 3) else false) then (((t.Of).length : Int) != 0) else false)) = true then
        some false
      else
        Af t 0
  partial_fixpoint
def Af (t : A0) (i : Int) : Option Bool :=
  if (decide (i < ((t.Of).length : Int))) = true then
    idx t.Of i >>= fun x1 =>
    De x1 >>= fun x2 =>
    if (!x2) = true then
      some false
    else
      Af t (IntKind.i64.wrap (i + 1))
  else
    some true
  partial_fixpoint
end
abbrev I1d (t : A0) (res : Bool) : Prop := S0 C 125 [.agg (A0.cells t)] [] (Ret [] (.d (.bool res)))
abbrev W15 (t : A0) (i : Int) (res : Bool) : Prop := LM C 115 0 Tryz.f125 [1, 1, 1, 1, 0, 1, 4] [(1, .ref 0 0), (3, .d (.int .i64 i))] [.row (A0.cells t) 40] (Ret [] (.d (.bool res)))
theorem O18 : (∀ t res, De t = some res → I1d t res) ∧ (∀ t i res, Af t i = some res → W15 t i res) := by
  refine De.mutual_partial_correctness _ _ ?_ ?_
  · intro g1 ih1 t res hh
    refine S0.intro hC Tryz.func125 rfl rfl rfl (s' rfl rfl (I0.n hC rfl (e' rfl (S' (sg' 8 rfl (G' 5 rfl (a1' rfl (a1' rfl (po' rfl (an' (n' (ci' rfl hh (fun hh => ?_) (fun hh => ?_)))))))))))))
    · cases hh
      exact t' rfl (re' (rt' rfl rfl rfl))
    refine sk' (S' (sg' 44 rfl (G' 5 rfl (a1' rfl (a1' rfl (a1' rfl (a0' rfl (a1' rfl (a1' rfl (pO' rfl (pa' rfl (G' 2 rfl (a1' rfl ?_)))))))))))))
    refine a1' rfl (a1' rfl (a0' rfl (a1' rfl (a1' rfl (pA' rfl (po' rfl (G' 2 rfl (a1' rfl (a1' rfl (a1' rfl (a0' rfl (a1' rfl (a1' rfl ?_)))))))))))))
    refine pA' rfl (po' rfl (G' 2 rfl (a1' rfl (a1' rfl (a1' rfl (a0' rfl (a1' rfl (AG.qe hC rfl (fun hg => ⟨⟨hg, trivial⟩, trivial⟩) (estr.lenA _) (a1' rfl (pA' rfl (po' rfl (an' (n' (ci' rfl hh (fun hh => ?_) (fun hh => ?_)))))))))))))))
    · cases hh
      exact t' rfl (re' (rt' rfl rfl rfl))
    refine sk' (S' (sg' 45 rfl (G' 5 rfl (a1' rfl (AG.qe hC rfl (fun hg => ⟨⟨hg, trivial⟩, trivial⟩) (A0.lenA _) (a1' rfl (pa' rfl (G' 2 rfl (a1' rfl (a1' rfl (a1' rfl (a0' rfl (a1' rfl ?_)))))))))))))
    refine AG.qe hC rfl (fun hg => ⟨⟨hg, trivial⟩, trivial⟩) (A0.lenA _) (a1' rfl (a1' rfl (a0' rfl (a1' rfl (AG.qe hC rfl (fun hg => ⟨⟨hg, trivial⟩, trivial⟩) (A0.lenA _) (a0' rfl (a1' rfl (AG.qe hC rfl (fun hg => ⟨⟨hg, trivial⟩, trivial⟩) (estr.lenA _) (a2' rfl (pO' rfl (pA' rfl (po' rfl (G' 2 rfl ?_)))))))))))))
    refine a1' rfl (a1' rfl (a1' rfl (a0' rfl (a1' rfl (a1' rfl (pA' rfl (a1' rfl (a0' rfl (a1' rfl (AG.qe hC rfl (fun hg => ⟨⟨hg, trivial⟩, trivial⟩) (A0.lenA _) (a1' rfl (pA' rfl (po' rfl ?_)))))))))))))
    refine an' (n' (ci' rfl hh (fun hh => ?_) (fun hh => ?_)))
    · cases hh
      exact t' rfl (re' (rt' rfl rfl rfl))
    exact sk' (S' (t' rfl (bk' (fw' (ih1 _ _ _ hh) rfl rfl rfl))))
  · intro g0 g1 ih0 ih1 t i res hh
    refine Z0.unroll (S' (p' 3 rfl (qe' rfl trivial (A0.lenA _) (e' rfl (ci' rfl hh (fun hh => ?_) (fun hh => ?_))))))
    · obtain ⟨x1, hx1, hh⟩ := bs' hh
      obtain ⟨x2, hx2, hh⟩ := bs' hh
      refine sk' (S' (bk' (p' 3 rfl (i' rfl (W0 hx1) (A0.idx hx1) rfl (q' rfl (c' (ih0 _ _ hx2) rfl rfl (e' rfl (ci' rfl hh (fun hh => ?_) (fun hh => ?_)))))))))
      · cases hh
        exact t' rfl (re' (rt' rfl rfl rfl))
      exact sk' (T' rfl (lw' (ih1 _ _ _ hh) rfl rfl rfl))
    cases hh
    exact ex' (t' rfl (re' (rt' rfl rfl rfl)))
theorem A1b {t res} (hh : De t = some res) : I1d t res := (O18).1 _ _ hh
theorem N29 {t i res} (hh : Af t i = some res) : W15 t i res := (O18).2 _ _ _ hh
end Go.Proofs.YtdkabnfphmmmnaaGreatDoor

set_option maxRecDepth 100000
set_option maxHeartbeats 4000000
set_option synthInstance.maxSize 2000
set_option linter.unusedVariables false
namespace Go.Proofs.YtdkabnfphmmmnaaGreatDoor
open Go.Am
def T12 (o : Int) : Option Int :=
  if (bif (bif (bif (o == 0) then true else (o == 1)) then true else (o == 2)) then true else (o == 3)) = true then
    some 0
  else
    if (bif (bif (o == 4) then true else (o == 6)) then true else (o == 7)) = true then
      some 1
    else
      if (bif (o == 5) then true else (bif (decide (o ≥ 8)) then (decide (o ≤ 22)) else false)) = true then
        some 2
      else
        if (o == 23) = true then
          some 3
        else
          some (-1)
theorem T1z {o res} (hh : T12 o = some res) : S0 C 160 [.d (.int .i64 o)] [] (Ret [] (.d (.int .i64 res))) := by
  unfold T12 at hh
  refine S0.intro hC Tryz.func160 rfl rfl rfl (t' rfl (S' (sg' 14 rfl (G' 4 rfl (a1' rfl (po' rfl (G' 2 rfl (a1' rfl (po' rfl (G' 2 rfl (a1' rfl (po' rfl (an' ?_)))))))))))))
  refine n' (ci' rfl hh (fun hh => ?_) (fun hh => ?_))
  · cases hh
    exact t' rfl (re' (rt' rfl rfl rfl))
  refine sk' (S' (sg' 10 rfl (G' 4 rfl (a1' rfl (po' rfl (G' 2 rfl (a1' rfl (po' rfl (an' (n' (ci' rfl hh (fun hh => ?_) (fun hh => ?_))))))))))))
  · cases hh
    exact t' rfl (re' (rt' rfl rfl rfl))
  refine sk' (S' (sg' 10 rfl (G' 4 rfl (a1' rfl (a1' rfl (a0' rfl (a1' rfl (pA' rfl (po' rfl (an' (n' (ci' rfl hh (fun hh => ?_) (fun hh => ?_)))))))))))))
  · cases hh
    exact t' rfl (re' (rt' rfl rfl rfl))
  refine sk' (S' (t' rfl (ci' rfl hh (fun hh => ?_) (fun hh => ?_))))
  · cases hh
    exact t' rfl (re' (rt' rfl rfl rfl))
  cases hh
  exact sk' (t' rfl (re' (rt' rfl rfl rfl)))
def Fj (e : C0) : Option Bool :=
  if (e.Op == 3) = true then
    some true
  else
    (if (bif (bif (e.Op == 4) then true else (e.Op == 5)) then (decide (((e.Kids).length : Int) > 0)) else false) = true then idx e.Kids 0 else some default) >>= fun x1 =>
    (if (bif (bif (e.Op == 4) then true else (e.Op == 5)) then (decide (((e.Kids).length : Int) > 0)) else false) = true then Fj x1 else some default) >>= fun x2 =>
    some (bif (bif (bif (e.Op == 4) then true else (e.Op == 5)) then (decide (((e.Kids).length : Int) > 0)) else false) then x2 else false)
  partial_fixpoint
abbrev Q1f (e : C0) (res : Bool) : Prop := S0 C 129 [.agg (C0.cells e)] [] (Ret [] (.d (.bool res)))
theorem F1q : (∀ e res, Fj e = some res → Q1f e res) := by
  refine Fj.partial_correctness _ ?_
  · intro g0 ih0 e res hh
    refine S0.intro hC Tryz.func129 rfl rfl rfl (s' rfl rfl (I0.n hC rfl (e' rfl (S' (t' rfl (ci' rfl hh (fun hh => ?_) (fun hh => ?_)))))))
    · cases hh
      exact t' rfl (re' (rt' rfl rfl rfl))
    obtain ⟨x1, hx1, hh⟩ := bs' hh
    obtain ⟨x2, hx2, hh⟩ := bs' hh
    cases hh
    refine sk' (sg' 22 rfl (G' 5 rfl (a1' rfl (a1' rfl (po' rfl (G' 2 rfl (a1' rfl (AG.qe hC rfl (fun hg => ⟨⟨hg, trivial⟩, trivial⟩) (C0.lenA _) (a1' rfl (pa' rfl (G' 2 rfl (a1' rfl (AG.i hC rfl rfl (fun hg => ⟨hg, trivial⟩) (fun hw => ⟨W0 (T1 hw hx1), C0.idx (T1 hw hx1), rfl⟩) ?_)))))))))))))
    exact a1' rfl (AG.c rfl rfl (fun hg => ⟨hg, trivial⟩) (fun hw => ih0 _ _ (T1 hw hx2)) (pa' rfl (a0' rfl (an' (n' (re' (rt' rfl rfl rfl)))))))
theorem J1d {e res} (hh : Fj e = some res) : Q1f e res := (F1q) _ _ hh
mutual
def L8 (e : C0) : Option Bool :=
  T12 e.Op >>= fun x1 =>
  if (bif (bif (x1 != ((e.Kids).length : Int)) then true else (bif (e.Op != 0) then (e.NV != 0) else false)) then true else (bif (bif (e.Op != 3) then (e.Op != 4) else false) then (!(e.Name == [])) else false)) = true then
    some false
  else
    (if (bif (e.Op == 4) then true else (e.Op == 5)) = true then Fj e else some default) >>= fun x2 =>
    if (bif (bif (e.Op == 4) then true else (e.Op == 5)) then (!x2) else false) = true then
      some false
    else
      Bf e 0
  partial_fixpoint
def Bf (e : C0) (i : Int) : Option Bool :=
  if (decide (i < ((e.Kids).length : Int))) = true then
    idx e.Kids i >>= fun x3 =>
    L8 x3 >>= fun x4 =>
    if (!x4) = true then
      some false
    else
      Bf e (IntKind.i64.wrap (i + 1))
  else
    some true
  partial_fixpoint
end
abbrev K1d (e : C0) (res : Bool) : Prop := S0 C 91 [.agg (C0.cells e)] [] (Ret [] (.d (.bool res)))
abbrev X15 (e : C0) (i : Int) (res : Bool) : Prop := LM C 63 0 Tryz.f91 [1, 1, 1, 0, 1, 4] [(1, .ref 0 0), (3, .d (.int .i64 i))] [.row (C0.cells e) 34] (Ret [] (.d (.bool res)))
theorem P18 : (∀ e res, L8 e = some res → K1d e res) ∧ (∀ e i res, Bf e i = some res → X15 e i res) := by
  refine L8.mutual_partial_correctness _ _ ?_ ?_
  · intro g1 ih1 e res hh
    obtain ⟨x1, hx1, hh⟩ := bs' hh
    refine S0.intro hC Tryz.func91 rfl rfl rfl (s' rfl rfl (I0.n hC rfl (e' rfl (S' (S' (AEx.drawG hC 32 rfl rfl rfl (G' 2 rfl (AG.c rfl rfl (fun _ => trivial) (fun _ => T1z hx1) (G' 2 rfl (AG.qe hC rfl (fun hg => ⟨trivial, trivial⟩) (C0.lenA _) (G' 3 rfl (a1' rfl (a1' rfl ?_)))))))))))))
    refine a1' rfl (a0' rfl (a1' rfl (a1' rfl (pA' rfl (po' rfl (G' 2 rfl (a1' rfl (a1' rfl (a1' rfl (a0' rfl (a1' rfl (a1' rfl (pA' rfl ?_)))))))))))))
    refine a1' rfl (a0' rfl (a1' rfl (a1' rfl (pA' rfl (po' rfl (an' (n' (ci' rfl hh (fun hh => ?_) (fun hh => ?_)))))))))
    · cases hh
      exact t' rfl (re' (rt' rfl rfl rfl))
    obtain ⟨x2, hx2, hh⟩ := bs' hh
    refine sk' (S' (sg' 13 rfl (G' 5 rfl (a1' rfl (a1' rfl (po' rfl (G' 2 rfl (AG.c rfl rfl (fun hg => ⟨hg, trivial⟩) (fun hw => J1d (T1 hw hx2)) (a1' rfl (pa' rfl (an' (n' (ci' rfl hh (fun hh => ?_) (fun hh => ?_))))))))))))))
    · cases hh
      exact t' rfl (re' (rt' rfl rfl rfl))
    exact sk' (S' (t' rfl (bk' (fw' (ih1 _ _ _ hh) rfl rfl rfl))))
  · intro g0 g1 ih0 ih1 e i res hh
    refine Z0.unroll (S' (p' 3 rfl (qe' rfl trivial (C0.lenA _) (e' rfl (ci' rfl hh (fun hh => ?_) (fun hh => ?_))))))
    · obtain ⟨x3, hx3, hh⟩ := bs' hh
      obtain ⟨x4, hx4, hh⟩ := bs' hh
      refine sk' (S' (bk' (p' 3 rfl (i' rfl (W0 hx3) (C0.idx hx3) rfl (q' rfl (c' (ih0 _ _ hx4) rfl rfl (e' rfl (ci' rfl hh (fun hh => ?_) (fun hh => ?_)))))))))
      · cases hh
        exact t' rfl (re' (rt' rfl rfl rfl))
      exact sk' (T' rfl (lw' (ih1 _ _ _ hh) rfl rfl rfl))
    cases hh
    exact ex' (t' rfl (re' (rt' rfl rfl rfl)))
theorem Dr {e res} (hh : L8 e = some res) : K1d e res := (P18).1 _ _ hh
theorem O29 {e i res} (hh : Bf e i = some res) : X15 e i res := (P18).2 _ _ _ hh
def Zr (v : Int) : Option Bool :=
  some (bif (bif (v == 1) then true else (v == 2)) then true else (v == 7))
theorem B1b {v res} (hh : Zr v = some res) : S0 C 106 [.d (.int .i64 v)] [] (Ret [] (.d (.bool res))) := by
  unfold Zr at hh
  cases hh
  exact S0.intro hC Tryz.func106 rfl rfl rfl (t' rfl (sg' 11 rfl (G' 4 rfl (a1' rfl (po' rfl (G' 2 rfl (a1' rfl (po' rfl (a0' rfl (an' (n' (re' (rt' rfl rfl rfl)))))))))))))
def O17 (v : Int) : Option Bool :=
  some (bif (v == 4) then true else (v == 6))
theorem X1w {v res} (hh : O17 v = some res) : S0 C 131 [.d (.int .i64 v)] [] (Ret [] (.d (.bool res))) := by
  unfold O17 at hh
  cases hh
  exact S0.intro hC Tryz.func131 rfl rfl rfl (t' rfl (sg' 7 rfl (G' 4 rfl (a1' rfl (po' rfl (a0' rfl (an' (n' (re' (rt' rfl rfl rfl))))))))))
def Tx (v : Int) : Option Bool :=
  some (bif (bif (v == 5) then true else (v == 6)) then true else (v == 7))
theorem G1q {v res} (hh : Tx v = some res) : S0 C 132 [.d (.int .i64 v)] [] (Ret [] (.d (.bool res))) := by
  unfold Tx at hh
  cases hh
  exact S0.intro hC Tryz.func132 rfl rfl rfl (t' rfl (sg' 11 rfl (G' 4 rfl (a1' rfl (po' rfl (G' 2 rfl (a1' rfl (po' rfl (a0' rfl (an' (n' (re' (rt' rfl rfl rfl)))))))))))))
mutual
def Hc (l : List D0) : Option Bool :=
  Bd l 0
  partial_fixpoint
def Bd (l : List D0) (i : Int) : Option Bool :=
  if (decide (i < ((l).length : Int))) = true then
    idx l i >>= fun x1 =>
    if (bif (decide (x1.Verb < 0)) then true else (decide (x1.Verb > 8))) = true then
      some false
    else
      Rl x1.Verb >>= fun x2 =>
      (if x2 = true then Fj x1.Place else some default) >>= fun x3 =>
      (if (x2 && (!(!x3))) = true then L8 x1.Place else some default) >>= fun x4 =>
      (if (!(bif x2 then (bif (!x3) then true else (!x4)) else false)) = true then Rl x1.Verb else some default) >>= fun x5 =>
      (if ((!(bif x2 then (bif (!x3) then true else (!x4)) else false)) && (!x5)) = true then Fh x1.Place else some default) >>= fun x6 =>
      if (bif (bif x2 then (bif (!x3) then true else (!x4)) else false) then true else (bif (!x5) then (!x6) else false)) = true then
        some false
      else
        Sl x1.Verb >>= fun x7 =>
        (if x7 = true then L8 x1.Value else some default) >>= fun x8 =>
        (if (!(bif x7 then (!x8) else false)) = true then Sl x1.Verb else some default) >>= fun x9 =>
        (if ((!(bif x7 then (!x8) else false)) && (!x9)) = true then Fh x1.Value else some default) >>= fun x10 =>
        if (bif (bif x7 then (!x8) else false) then true else (bif (!x9) then (!x10) else false)) = true then
          some false
        else
          Zr x1.Verb >>= fun x11 =>
          (if (!(bif (bif (!x11) then (!(x1.Name == [])) else false) then true else (bif (x1.Verb != 1) then (((x1.Args).length : Int) != 0) else false))) = true then O17 x1.Verb else some default) >>= fun x12 =>
          if (bif (bif (bif (bif (bif (!x11) then (!(x1.Name == [])) else false) then true else (bif (x1.Verb != 1) then (((x1.Args).length : Int) != 0) else false)) then true else (bif (!x12) then (x1.NV != 0) else false)) then true else (bif (x1.Verb != 7) then (bif (x1.Low != 0) then true else (x1.High != 0)) else false)) then true else (bif (x1.Verb != 8) then (((x1.Numbers).length : Int) != 0) else false)) = true then
            some false
          else
            Tx x1.Verb >>= fun x13 =>
            if (bif (bif (!x13) then (((x1.Then).length : Int) != 0) else false) then true else (bif (x1.Verb != 5) then (((x1.Else).length : Int) != 0) else false)) = true then
              some false
            else
              Hh l x1 i 0
  else
    some true
  partial_fixpoint
def Hh (l : List D0) (x1 : D0) (i1 : Int) (k : Int) : Option Bool :=
  if (decide (k < ((x1.Args).length : Int))) = true then
    idx x1.Args k >>= fun x14 =>
    L8 x14 >>= fun x15 =>
    if (!x15) = true then
      some false
    else
      Hh l x1 i1 (IntKind.i64.wrap (k + 1))
  else
    Hc x1.Then >>= fun x16 =>
    (if (!(!x16)) = true then Hc x1.Else else some default) >>= fun x17 =>
    if (bif (!x16) then true else (!x17)) = true then
      some false
    else
      Bd l (IntKind.i64.wrap (i1 + 1))
  partial_fixpoint
end
abbrev C1b (l : List D0) (res : Bool) : Prop := S0 C 67 [.d (.sl (D0.rows l))] [] (Ret [] (.d (.bool res)))
abbrev U12 (l : List D0) (i : Int) (res : Bool) : Prop := LM C 174 0 Tryz.f67 [1, 0, 1, 4] [(0, .d (.sl (D0.rows l))), (3, .d (.int .i64 i))] [] (Ret [] (.d (.bool res)))
abbrev V12 (l : List D0) (x1 : D0) (i1 : Int) (k : Int) (res : Bool) : Prop := LM C 174 0 Tryz.f67 [1, 0, 1, 4, 5, 1, 0, 4, 1, 1, 1, 1, 1, 1, 0, 1, 4] [(0, .d (.sl (D0.rows l))), (3, .d (.int .i64 i1)), (4, .ref 0 0), (5, .d (.int .i64 k))] [.row (D0.cells x1) 53] (Ret [] (.d (.bool res)))
theorem Wu : (∀ l res, Hc l = some res → C1b l res) ∧ (∀ l i res, Bd l i = some res → U12 l i res) ∧ (∀ l x1 i1 k res, Hh l x1 i1 k = some res → V12 l x1 i1 k res) := by
  refine Hc.mutual_partial_correctness _ _ _ ?_ ?_ ?_
  · intro g1 ih1 l res hh
    exact S0.intro hC Tryz.func67 rfl rfl rfl (t' rfl (S' (t' rfl (bk' (fw' (ih1 _ _ _ hh) rfl rfl rfl)))))
  · intro g2 ih2 l i res hh
    refine Z0.unroll (S' (p' 2 rfl (qe' rfl trivial (D0.lenA _) (e' rfl (ci' rfl hh (fun hh => ?_) (fun hh => ?_))))))
    · obtain ⟨x1, hx1, hh⟩ := bs' hh
      refine sk' (S' (bk' (p' 2 rfl (i' rfl (W0 hx1) (D0.idx hx1) rfl (q' rfl (I0.nf hC rfl (I0.s hC rfl (n' (S' (sg' 8 rfl (G' 5 rfl (a1' rfl (a1' rfl ?_)))))))))))))
      refine po' rfl (an' (n' (ci' rfl hh (fun hh => ?_) (fun hh => ?_))))
      · cases hh
        exact t' rfl (re' (rt' rfl rfl rfl))
      obtain ⟨x2, hx2, hh⟩ := bs' hh
      obtain ⟨x3, hx3, hh⟩ := bs' hh
      obtain ⟨x4, hx4, hh⟩ := bs' hh
      obtain ⟨x5, hx5, hh⟩ := bs' hh
      obtain ⟨x6, hx6, hh⟩ := bs' hh
      refine sk' (S' (sg' 27 rfl (G' 2 rfl (AG.c rfl rfl (fun _ => trivial) (fun _ => Xw hx2) (G' 2 rfl (a1' rfl (AG.c rfl rfl (fun hg => ⟨hg, trivial⟩) (fun hw => J1d (T1 hw hx3)) (a1' rfl (a1' rfl (a0' rfl (a1' rfl (AG.c rfl rfl (fun hg => ⟨hg, trivial⟩) (fun hw => Dr (T1 hw hx4)) (a1' rfl ?_)))))))))))))
      refine pO' rfl (pa' rfl (G' 2 rfl (a1' rfl (AG.c rfl rfl (fun hg => ⟨hg, trivial⟩) (fun hw => Xw (T1 hw hx5)) (a1' rfl (a1' rfl (a0' rfl (a1' rfl (AG.c rfl rfl (fun hg => ⟨hg, trivial⟩) (fun hw => Cr (T1 hw hx6)) (a1' rfl (pA' rfl (po' rfl (an' ?_)))))))))))))
      refine n' (ci' rfl hh (fun hh => ?_) (fun hh => ?_))
      · cases hh
        exact t' rfl (re' (rt' rfl rfl rfl))
      obtain ⟨x7, hx7, hh⟩ := bs' hh
      obtain ⟨x8, hx8, hh⟩ := bs' hh
      obtain ⟨x9, hx9, hh⟩ := bs' hh
      obtain ⟨x10, hx10, hh⟩ := bs' hh
      refine sk' (S' (sg' 21 rfl (G' 2 rfl (AG.c rfl rfl (fun _ => trivial) (fun _ => Yw hx7) (G' 2 rfl (a1' rfl (AG.c rfl rfl (fun hg => ⟨hg, trivial⟩) (fun hw => Dr (T1 hw hx8)) (a1' rfl (pa' rfl (G' 2 rfl (a1' rfl (AG.c rfl rfl (fun hg => ⟨hg, trivial⟩) (fun hw => Yw (T1 hw hx9)) (a1' rfl ?_)))))))))))))
      refine a1' rfl (a0' rfl (a1' rfl (AG.c rfl rfl (fun hg => ⟨hg, trivial⟩) (fun hw => Cr (T1 hw hx10)) (a1' rfl (pA' rfl (po' rfl (an' (n' (ci' rfl hh (fun hh => ?_) (fun hh => ?_))))))))))
      · cases hh
        exact t' rfl (re' (rt' rfl rfl rfl))
      obtain ⟨x11, hx11, hh⟩ := bs' hh
      obtain ⟨x12, hx12, hh⟩ := bs' hh
      refine sk' (S' (sg' 57 rfl (G' 2 rfl (AG.c rfl rfl (fun _ => trivial) (fun _ => B1b hx11) (G' 3 rfl (a1' rfl (a1' rfl (pa' rfl (G' 2 rfl (a1' rfl (a1' rfl (a1' rfl (a0' rfl ?_)))))))))))))
      refine a1' rfl (AG.qe hC rfl (fun hg => ⟨⟨hg, trivial⟩, trivial⟩) (C0.lenA _) (a1' rfl (pA' rfl (po' rfl (G' 2 rfl (a1' rfl (AG.c rfl rfl (fun hg => ⟨hg, trivial⟩) (fun hw => X1w (T1 hw hx12)) (a1' rfl (a1' rfl (a0' rfl (a1' rfl (a1' rfl (pA' rfl ?_)))))))))))))
      refine po' rfl (G' 2 rfl (a1' rfl (a1' rfl (a1' rfl (a0' rfl (a1' rfl (a1' rfl (a1' rfl (a0' rfl (a1' rfl (a1' rfl (pO' rfl (pA' rfl ?_)))))))))))))
      refine po' rfl (G' 2 rfl (a1' rfl (a1' rfl (a1' rfl (a0' rfl (a1' rfl (AG.qe hC rfl (fun hg => ⟨⟨hg, trivial⟩, trivial⟩) (ei64.lenA _) (a1' rfl (pA' rfl (po' rfl (an' (n' (ci' rfl hh (fun hh => ?_) (fun hh => ?_))))))))))))))
      · cases hh
        exact t' rfl (re' (rt' rfl rfl rfl))
      obtain ⟨x13, hx13, hh⟩ := bs' hh
      refine sk' (S' (sg' 21 rfl (G' 2 rfl (AG.c rfl rfl (fun _ => trivial) (fun _ => G1q hx13) (G' 3 rfl (a1' rfl (AG.qe hC rfl (fun hg => ⟨⟨hg, trivial⟩, trivial⟩) (D0.lenA _) (a1' rfl (pa' rfl (G' 2 rfl (a1' rfl (a1' rfl (a1' rfl ?_)))))))))))))
      refine a0' rfl (a1' rfl (AG.qe hC rfl (fun hg => ⟨⟨hg, trivial⟩, trivial⟩) (D0.lenA _) (a1' rfl (pA' rfl (po' rfl (an' (n' (ci' rfl hh (fun hh => ?_) (fun hh => ?_)))))))))
      · cases hh
        exact t' rfl (re' (rt' rfl rfl rfl))
      exact sk' (S' (t' rfl (bk' (fw' (ih2 _ _ _ _ _ hh) rfl rfl rfl))))
    cases hh
    exact ex' (t' rfl (re' (rt' rfl rfl rfl)))
  · intro g0 g1 g2 ih0 ih1 ih2 l x1 i1 k res hh
    refine Z0.unroll (S' (p' 3 rfl (qe' rfl trivial (C0.lenA _) (e' rfl (ci' rfl hh (fun hh => ?_) (fun hh => ?_))))))
    · obtain ⟨x14, hx14, hh⟩ := bs' hh
      obtain ⟨x15, hx15, hh⟩ := bs' hh
      refine sk' (S' (bk' (p' 3 rfl (i' rfl (W0 hx14) (C0.idx hx14) rfl (q' rfl (c' (Dr hx15) rfl rfl (e' rfl (ci' rfl hh (fun hh => ?_) (fun hh => ?_)))))))))
      · cases hh
        exact t' rfl (re' (rt' rfl rfl rfl))
      exact sk' (T' rfl (lw' (ih2 _ _ _ _ _ hh) rfl rfl rfl))
    obtain ⟨x16, hx16, hh⟩ := bs' hh
    obtain ⟨x17, hx17, hh⟩ := bs' hh
    refine ex' (sg' 10 rfl (G' 2 rfl (AG.c rfl rfl (fun _ => trivial) (fun _ => ih0 _ _ hx16) (G' 3 rfl (a1' rfl (AG.c rfl rfl (fun hg => ⟨hg, trivial⟩) (fun hw => ih0 _ _ (T1 hw hx17)) (a1' rfl (po' rfl (an' (n' (ci' rfl hh (fun hh => ?_) (fun hh => ?_))))))))))))
    · cases hh
      exact t' rfl (re' (rt' rfl rfl rfl))
    exact sk' (T' rfl (lw' (ih1 _ _ _ hh) rfl rfl rfl))
theorem Q18 {l res} (hh : Hc l = some res) : C1b l res := (Wu).1 _ _ hh
theorem Y26 {l i res} (hh : Bd l i = some res) : U12 l i res := (Wu).2.1 _ _ _ hh
theorem Z26 {l x1 i1 k res} (hh : Hh l x1 i1 k = some res) : V12 l x1 i1 k res := (Wu).2.2 _ _ _ _ _ hh
mutual
def Qf (l : List B0) : Option Bool :=
  Cd l 0
  partial_fixpoint
def Cd (l : List B0) (i : Int) : Option Bool :=
  if (decide (i < ((l).length : Int))) = true then
    idx l i >>= fun x1 =>
    Xr x1.Kind >>= fun x2 =>
    (if (!(!x2)) = true then De x1.TypeV else some default) >>= fun x3 =>
    if (bif (!x2) then true else (!x3)) = true then
      some false
    else
      Ql x1.Kind >>= fun x4 =>
      (if x4 = true then L8 x1.Value else some default) >>= fun x5 =>
      (if (!(bif x4 then (!x5) else false)) = true then Ql x1.Kind else some default) >>= fun x6 =>
      (if ((!(bif x4 then (!x5) else false)) && (!x6)) = true then Fh x1.Value else some default) >>= fun x7 =>
      if (bif (bif (bif x4 then (!x5) else false) then true else (bif (!x6) then (!x7) else false)) then true else (bif (x1.Kind != 4) then (x1.Init != 0) else false)) = true then
        some false
      else
        if (bif (x1.Kind != 6) then (bif (bif (((x1.Params).length : Int) != 0) then true else (((x1.Vars).length : Int) != 0)) then true else (((x1.Body).length : Int) != 0)) else false) = true then
          some false
        else
          T8 l x1 i 0
  else
    some true
  partial_fixpoint
def T8 (l : List B0) (x1 : B0) (i1 : Int) (k : Int) : Option Bool :=
  if (decide (k < ((x1.Params).length : Int))) = true then
    idx x1.Params k >>= fun x8 =>
    (if (!(x8.Kind != 4)) = true then idx x1.Params k else some default) >>= fun x9 =>
    if (bif (x8.Kind != 4) then true else (x9.Init != 0)) = true then
      some false
    else
      T8 l x1 i1 (IntKind.i64.wrap (k + 1))
  else
    U8 l x1 i1 0
  partial_fixpoint
def U8 (l : List B0) (x1 : B0) (i2 : Int) (k1 : Int) : Option Bool :=
  if (decide (k1 < ((x1.Vars).length : Int))) = true then
    idx x1.Vars k1 >>= fun x10 =>
    if (x10.Kind != 4) = true then
      some false
    else
      U8 l x1 i2 (IntKind.i64.wrap (k1 + 1))
  else
    Qf x1.Params >>= fun x11 =>
    (if (!(!x11)) = true then Qf x1.Vars else some default) >>= fun x12 =>
    (if (!(bif (!x11) then true else (!x12))) = true then Hc x1.Body else some default) >>= fun x13 =>
    if (bif (bif (!x11) then true else (!x12)) then true else (!x13)) = true then
      some false
    else
      Cd l (IntKind.i64.wrap (i2 + 1))
  partial_fixpoint
end
abbrev D1b (l : List B0) (res : Bool) : Prop := S0 C 66 [.d (.sl (B0.rows l))] [] (Ret [] (.d (.bool res)))
abbrev W12 (l : List B0) (i : Int) (res : Bool) : Prop := LM C 132 0 Tryz.f66 [1, 0, 1, 4] [(0, .d (.sl (B0.rows l))), (3, .d (.int .i64 i))] [] (Ret [] (.d (.bool res)))
abbrev X12 (l : List B0) (x1 : B0) (i1 : Int) (k : Int) (res : Bool) : Prop := LM C 132 0 Tryz.f66 [1, 0, 1, 4, 5, 1, 0, 4, 1, 1, 1, 1, 0, 1, 4] [(0, .d (.sl (B0.rows l))), (3, .d (.int .i64 i1)), (4, .ref 0 0), (5, .d (.int .i64 k))] [.row (B0.cells x1) 59] (Ret [] (.d (.bool res)))
abbrev Y12 (l : List B0) (x1 : B0) (i2 : Int) (k1 : Int) (res : Bool) : Prop := LM C 132 0 Tryz.f66 [1, 0, 1, 4, 5, 1, 0, 4, 1, 1, 1, 1, 1, 0, 1, 4] [(0, .d (.sl (B0.rows l))), (3, .d (.int .i64 i2)), (4, .ref 0 0), (6, .d (.int .i64 k1))] [.row (B0.cells x1) 59] (Ret [] (.d (.bool res)))
theorem Ro : (∀ l res, Qf l = some res → D1b l res) ∧ (∀ l i res, Cd l i = some res → W12 l i res) ∧ (∀ l x1 i1 k res, T8 l x1 i1 k = some res → X12 l x1 i1 k res) ∧ (∀ l x1 i2 k1 res, U8 l x1 i2 k1 = some res → Y12 l x1 i2 k1 res) := by
  refine Qf.mutual_partial_correctness _ _ _ _ ?_ ?_ ?_ ?_
  · intro g1 ih1 l res hh
    exact S0.intro hC Tryz.func66 rfl rfl rfl (t' rfl (S' (t' rfl (bk' (fw' (ih1 _ _ _ hh) rfl rfl rfl)))))
  · intro g2 ih2 l i res hh
    refine Z0.unroll (S' (p' 2 rfl (qe' rfl trivial (B0.lenA _) (e' rfl (ci' rfl hh (fun hh => ?_) (fun hh => ?_))))))
    · obtain ⟨x1, hx1, hh⟩ := bs' hh
      obtain ⟨x2, hx2, hh⟩ := bs' hh
      obtain ⟨x3, hx3, hh⟩ := bs' hh
      refine sk' (S' (bk' (p' 2 rfl (i' rfl (W0 hx1) (B0.idx hx1) rfl (q' rfl (I0.nf hC rfl (I0.s hC rfl (n' (S' (sg' 10 rfl (G' 2 rfl (AG.c rfl rfl (fun _ => trivial) (fun _ => S1a hx2) (G' 3 rfl ?_)))))))))))))
      refine a1' rfl (AG.c rfl rfl (fun hg => ⟨hg, trivial⟩) (fun hw => A1b (T1 hw hx3)) (a1' rfl (po' rfl (an' (n' (ci' rfl hh (fun hh => ?_) (fun hh => ?_)))))))
      · cases hh
        exact t' rfl (re' (rt' rfl rfl rfl))
      obtain ⟨x4, hx4, hh⟩ := bs' hh
      obtain ⟨x5, hx5, hh⟩ := bs' hh
      obtain ⟨x6, hx6, hh⟩ := bs' hh
      obtain ⟨x7, hx7, hh⟩ := bs' hh
      refine sk' (S' (sg' 31 rfl (G' 2 rfl (AG.c rfl rfl (fun _ => trivial) (fun _ => Ww hx4) (G' 2 rfl (a1' rfl (AG.c rfl rfl (fun hg => ⟨hg, trivial⟩) (fun hw => Dr (T1 hw hx5)) (a1' rfl (pa' rfl (G' 2 rfl (a1' rfl (AG.c rfl rfl (fun hg => ⟨hg, trivial⟩) (fun hw => Ww (T1 hw hx6)) (a1' rfl ?_)))))))))))))
      refine a1' rfl (a0' rfl (a1' rfl (AG.c rfl rfl (fun hg => ⟨hg, trivial⟩) (fun hw => Cr (T1 hw hx7)) (a1' rfl (pA' rfl (po' rfl (G' 2 rfl (a1' rfl (a1' rfl (a1' rfl (a0' rfl (a1' rfl (a1' rfl ?_)))))))))))))
      refine pA' rfl (po' rfl (an' (n' (ci' rfl hh (fun hh => ?_) (fun hh => ?_)))))
      · cases hh
        exact t' rfl (re' (rt' rfl rfl rfl))
      refine sk' (S' (sg' 21 rfl (G' 5 rfl (a1' rfl (AG.qe hC rfl (fun hg => ⟨⟨hg, trivial⟩, trivial⟩) (B0.lenA _) (a1' rfl (a1' rfl (a0' rfl (a1' rfl (AG.qe hC rfl (fun hg => ⟨⟨hg, trivial⟩, trivial⟩) (B0.lenA _) (a1' rfl (pO' rfl (a1' rfl ?_)))))))))))))
      refine a0' rfl (a1' rfl (AG.qe hC rfl (fun hg => ⟨⟨hg, trivial⟩, trivial⟩) (D0.lenA _) (a1' rfl (pO' rfl (pa' rfl (an' (n' (ci' rfl hh (fun hh => ?_) (fun hh => ?_)))))))))
      · cases hh
        exact t' rfl (re' (rt' rfl rfl rfl))
      exact sk' (S' (t' rfl (bk' (fw' (ih2 _ _ _ _ _ hh) rfl rfl rfl))))
    cases hh
    exact ex' (t' rfl (re' (rt' rfl rfl rfl)))
  · intro g2 g3 ih2 ih3 l x1 i1 k res hh
    refine Z0.unroll (S' (p' 3 rfl (qe' rfl trivial (B0.lenA _) (e' rfl (ci' rfl hh (fun hh => ?_) (fun hh => ?_))))))
    · obtain ⟨x8, hx8, hh⟩ := bs' hh
      obtain ⟨x9, hx9, hh⟩ := bs' hh
      refine sk' (S' (bk' (sg' 16 rfl (G' 3 rfl (AG.i hC rfl rfl (fun _ => trivial) (fun hw => ⟨W0 hx8, B0.idx hx8, rfl⟩) (G' 5 rfl (a1' rfl (a0' rfl (AG.i hC rfl rfl (fun hg => ⟨hg, hg, trivial⟩) (fun hw => ⟨W0 (T1 hw hx9), B0.idx (T1 hw hx9), rfl⟩) (a1' rfl (a1' rfl (a1' rfl (po' rfl ?_)))))))))))))
      refine an' (n' (ci' rfl hh (fun hh => ?_) (fun hh => ?_)))
      · cases hh
        exact t' rfl (re' (rt' rfl rfl rfl))
      exact sk' (T' rfl (lw' (ih2 _ _ _ _ _ hh) rfl rfl rfl))
    exact ex' (S' (t' rfl (bk' (fw' (ih3 _ _ _ _ _ hh) rfl rfl rfl))))
  · intro g0 g1 g3 ih0 ih1 ih3 l x1 i2 k1 res hh
    refine Z0.unroll (S' (p' 3 rfl (qe' rfl trivial (B0.lenA _) (e' rfl (ci' rfl hh (fun hh => ?_) (fun hh => ?_))))))
    · obtain ⟨x10, hx10, hh⟩ := bs' hh
      refine sk' (S' (bk' (p' 3 rfl (i' rfl (W0 hx10) (B0.idx hx10) rfl (e' rfl (ci' rfl hh (fun hh => ?_) (fun hh => ?_)))))))
      · cases hh
        exact t' rfl (re' (rt' rfl rfl rfl))
      exact sk' (T' rfl (lw' (ih3 _ _ _ _ _ hh) rfl rfl rfl))
    obtain ⟨x11, hx11, hh⟩ := bs' hh
    obtain ⟨x12, hx12, hh⟩ := bs' hh
    obtain ⟨x13, hx13, hh⟩ := bs' hh
    refine ex' (sg' 16 rfl (G' 2 rfl (AG.c rfl rfl (fun _ => trivial) (fun _ => ih0 _ _ hx11) (G' 3 rfl (a1' rfl (AG.c rfl rfl (fun hg => ⟨hg, trivial⟩) (fun hw => ih0 _ _ (T1 hw hx12)) (a1' rfl (po' rfl (G' 2 rfl (a1' rfl (AG.c rfl rfl (fun hg => ⟨hg, trivial⟩) (fun hw => Q18 (T1 hw hx13)) (a1' rfl (po' rfl ?_)))))))))))))
    refine an' (n' (ci' rfl hh (fun hh => ?_) (fun hh => ?_)))
    · cases hh
      exact t' rfl (re' (rt' rfl rfl rfl))
    exact sk' (T' rfl (lw' (ih1 _ _ _ hh) rfl rfl rfl))
theorem W1n {l res} (hh : Qf l = some res) : D1b l res := (Ro).1 _ _ hh
theorem A27 {l i res} (hh : Cd l i = some res) : W12 l i res := (Ro).2.1 _ _ _ hh
theorem B27 {l x1 i1 k res} (hh : T8 l x1 i1 k = some res) : X12 l x1 i1 k res := (Ro).2.2.1 _ _ _ _ _ hh
theorem C27 {l x1 i2 k1 res} (hh : U8 l x1 i2 k1 = some res) : Y12 l x1 i2 k1 res := (Ro).2.2.2 _ _ _ _ _ hh
def As (c : Int) : Option Bool :=
  some (bif (decide (c ≥ 97)) then (decide (c ≤ 122)) else false)
theorem Z12 {c res} (hh : As c = some res) : S0 C 170 [.d (.int .u8 c)] [] (Ret [] (.d (.bool res))) := by
  unfold As at hh
  cases hh
  exact S0.intro hC Tryz.func170 rfl rfl rfl (t' rfl (sg' 7 rfl (G' 4 rfl (a1' rfl (pa' rfl (a0' rfl (an' (n' (re' (rt' rfl rfl rfl))))))))))
def Yb (s : Str) (i1 : Int) : Option Bool :=
  if (decide ((IntKind.i64.wrap ((IntKind.i64.wrap (i1 + ((s).length : Int))) + 2)) ≤ 162)) = true then
    slc [32, 116, 121, 112, 101, 32, 115, 101, 99, 114, 101, 116, 32, 112, 117, 98, 108, 105, 99, 32, 114, 97, 110, 100, 111, 109, 32, 118, 97, 114, 32, 104, 97, 116, 99, 104, 32, 102, 117, 110, 99, 32, 114, 101, 116, 117, 114, 110, 32, 98, 101, 103, 105, 110, 32, 101, 110, 100, 32, 98, 111, 111, 108, 32, 105, 110, 116, 32, 97, 114, 114, 97, 121, 32, 111, 102, 32, 114, 101, 99, 111, 114, 100, 32, 116, 114, 117, 101, 32, 102, 97, 108, 115, 101, 32, 99, 97, 108, 108, 32, 114, 101, 108, 101, 97, 115, 101, 32, 111, 117, 116, 112, 117, 116, 32, 119, 97, 105, 116, 32, 105, 102, 32, 101, 108, 115, 101, 32, 119, 104, 105, 108, 101, 32, 108, 105, 109, 105, 116, 32, 102, 111, 114, 32, 116, 111, 32, 115, 101, 116, 116, 108, 101, 32, 109, 105, 110, 32, 109, 97, 120, 32] i1 (IntKind.i64.wrap ((IntKind.i64.wrap (i1 + ((s).length : Int))) + 2)) >>= fun x3 =>
    if (decide (1 + s.length ≤ maxLen)) = true then
      if (decide (([32] ++ s).length + 1 ≤ maxLen)) = true then
        if (x3 == (([32] ++ s) ++ [32])) = true then
          some true
        else
          Yb s (IntKind.i64.wrap (i1 + 1))
      else none
    else none
  else
    some false
  partial_fixpoint
abbrev Y15 (s : Str) (i1 : Int) (res : Bool) : Prop := LM C 38 0 Tryz.f171 [1, 1, 1, 0, 1, 4] [(0, .d (.str s)), (4, .d (.int .i64 i1))] [] (Ret [] (.d (.bool res)))
theorem P1i (s : Str) : (∀ i1 res, Yb s i1 = some res → Y15 s i1 res) := by
  refine Yb.partial_correctness s _ ?_
  · intro g0 ih0 i1 res hh
    refine Z0.unroll (S' (t' rfl (ci' rfl hh (fun hh => ?_) (fun hh => ?_))))
    · obtain ⟨x3, hx3, hh⟩ := bs' hh
      obtain ⟨c7, hh⟩ := U1 hh
      obtain ⟨c8, hh⟩ := U1 hh
      refine sk' (S' (bk' (p' 6 rfl (I0.lx hC rfl hx3 (q' rfl (qc' rfl c7 (qc' rfl c8 (e' rfl (ci' rfl hh (fun hh => ?_) (fun hh => ?_))))))))))
      · cases hh
        exact t' rfl (re' (rt' rfl rfl rfl))
      exact sk' (T' rfl (lw' (ih0 _ _ hh) rfl rfl rfl))
    cases hh
    exact ex' (t' rfl (re' (rt' rfl rfl rfl)))
theorem E1k {s i1 res} (hh : Yb s i1 = some res) : Y15 s i1 res := (P1i s) _ _ hh
def Zb (s : Str) (i : Int) : Option Bool :=
  if (decide (i < ((s).length : Int))) = true then
    idx s i >>= fun x1 =>
    As (x1.toNat : Int) >>= fun x2 =>
    if (!x2) = true then
      some false
    else
      Zb s (IntKind.i64.wrap (i + 1))
  else
    Yb s 0
  partial_fixpoint
abbrev Z15 (s : Str) (i : Int) (res : Bool) : Prop := LM C 38 0 Tryz.f171 [1, 1, 0, 1, 4] [(0, .d (.str s)), (3, .d (.int .i64 i))] [] (Ret [] (.d (.bool res)))
theorem Q1i (s : Str) : (∀ i res, Zb s i = some res → Z15 s i res) := by
  refine Zb.partial_correctness s _ ?_
  · intro g0 ih0 i res hh
    refine Z0.unroll (S' (t' rfl (ci' rfl hh (fun hh => ?_) (fun hh => ?_))))
    · obtain ⟨x1, hx1, hh⟩ := bs' hh
      obtain ⟨x2, hx2, hh⟩ := bs' hh
      refine sk' (S' (bk' (p' 2 rfl (x' rfl (W0 hx1) (Rx hx1) (c' (Z12 hx2) rfl rfl (e' rfl (ci' rfl hh (fun hh => ?_) (fun hh => ?_))))))))
      · cases hh
        exact t' rfl (re' (rt' rfl rfl rfl))
      exact sk' (T' rfl (lw' (ih0 _ _ hh) rfl rfl rfl))
    exact ex' (S' (t' rfl (bk' (fw' (E1k hh) rfl rfl rfl))))
theorem F1k {s i res} (hh : Zb s i = some res) : Z15 s i res := (Q1i s) _ _ hh
def Bs (s : Str) : Option Bool :=
  if (((s).length : Int) == 0) = true then
    some false
  else
    Zb s 0
theorem H1q {s res} (hh : Bs s = some res) : S0 C 171 [.d (.str s)] [] (Ret [] (.d (.bool res))) := by
  unfold Bs at hh
  refine S0.intro hC Tryz.func171 rfl rfl rfl (t' rfl (S' (t' rfl (ci' rfl hh (fun hh => ?_) (fun hh => ?_)))))
  · cases hh
    exact t' rfl (re' (rt' rfl rfl rfl))
  exact sk' (S' (t' rfl (bk' (fw' (F1k hh) rfl rfl rfl))))
def P17 (c : Int) : Option Bool :=
  some (bif (decide (c ≥ 48)) then (decide (c ≤ 57)) else false)
theorem Y1w {c res} (hh : P17 c = some res) : S0 C 206 [.d (.int .u8 c)] [] (Ret [] (.d (.bool res))) := by
  unfold P17 at hh
  cases hh
  exact S0.intro hC Tryz.func206 rfl rfl rfl (t' rfl (sg' 7 rfl (G' 4 rfl (a1' rfl (pa' rfl (a0' rfl (an' (n' (re' (rt' rfl rfl rfl))))))))))
def Al (s : Str) (atV1 : Int) : Option Int :=
  (if (decide (atV1 < ((s).length : Int))) = true then idx s atV1 else some default) >>= fun x1 =>
  (if (decide (atV1 < ((s).length : Int))) = true then As (x1.toNat : Int) else some default) >>= fun x2 =>
  (if ((decide (atV1 < ((s).length : Int))) && (!x2)) = true then idx s atV1 else some default) >>= fun x3 =>
  (if ((decide (atV1 < ((s).length : Int))) && (!x2)) = true then P17 (x3.toNat : Int) else some default) >>= fun x4 =>
  if (bif (decide (atV1 < ((s).length : Int))) then (bif x2 then true else x4) else false) = true then
    Al s (IntKind.i64.wrap (atV1 + 1))
  else
    some atV1
  partial_fixpoint
abbrev R1i (s : Str) (atV1 : Int) (res : Int) : Prop := LM C 24 0 Tryz.f172 [1, 0, 4] [(0, .d (.str s)), (1, .d (.int .i64 atV1))] [] (Ret [] (.d (.int .i64 res)))
theorem K1s (s : Str) : (∀ atV1 res, Al s atV1 = some res → R1i s atV1 res) := by
  refine Al.partial_correctness s _ ?_
  · intro g0 ih0 atV1 res hh
    obtain ⟨x1, hx1, hh⟩ := bs' hh
    obtain ⟨x2, hx2, hh⟩ := bs' hh
    obtain ⟨x3, hx3, hh⟩ := bs' hh
    obtain ⟨x4, hx4, hh⟩ := bs' hh
    refine Z0.unroll (S' (sg' 16 rfl (G' 7 rfl (AG.x hC rfl rfl (fun hg => ⟨hg, hg, trivial⟩) (fun hw => ⟨W0 (T1 hw hx1), Rx (T1 hw hx1)⟩) (AG.c rfl rfl (fun hg => ⟨hg, trivial⟩) (fun hw => Z12 (T1 hw hx2)) (a1' rfl (G' 2 rfl (AG.x hC rfl rfl (fun hg => ⟨hg, hg, trivial⟩) (fun hw => ⟨W0 (T1 hw hx3), Rx (T1 hw hx3)⟩) ?_))))))))
    refine AG.c rfl rfl (fun hg => ⟨hg, trivial⟩) (fun hw => Y1w (T1 hw hx4)) (pO' rfl (pa' rfl (an' (n' (ci' rfl hh (fun hh => ?_) (fun hh => ?_))))))
    · exact sk' (bk' (T' rfl (lw' (ih0 _ _ hh) rfl rfl rfl)))
    cases hh
    exact ex' (t' rfl (re' (rt' rfl rfl rfl)))
theorem X1u {s atV1 res} (hh : Al s atV1 = some res) : R1i s atV1 res := (K1s s) _ _ hh
def R18 (s : Str) (atV : Int) : Option Int :=
  Al s atV
theorem R22 {s atV res} (hh : R18 s atV = some res) : S0 C 172 [.d (.str s), .d (.int .i64 atV)] [] (Ret [] (.d (.int .i64 res))) := by
  unfold R18 at hh
  exact S0.intro hC Tryz.func172 rfl rfl rfl (t' rfl (S' (bk' (fw' (X1u hh) rfl rfl rfl))))
def A13 (s : Str) : Option Bool :=
  (if (!(bif (decide (((s).length : Int) < 1)) then true else (decide (((s).length : Int) > 12)))) = true then idx s 0 else some default) >>= fun x1 =>
  (if (!(bif (decide (((s).length : Int) < 1)) then true else (decide (((s).length : Int) > 12)))) = true then As (x1.toNat : Int) else some default) >>= fun x2 =>
  (if (!(bif (bif (decide (((s).length : Int) < 1)) then true else (decide (((s).length : Int) > 12))) then true else (!x2))) = true then Bs s else some default) >>= fun x3 =>
  if (bif (bif (bif (decide (((s).length : Int) < 1)) then true else (decide (((s).length : Int) > 12))) then true else (!x2)) then true else x3) = true then
    some false
  else
    R18 s 0 >>= fun x4 =>
    some (x4 == ((s).length : Int))
theorem Y1u {s res} (hh : A13 s = some res) : S0 C 102 [.d (.str s)] [] (Ret [] (.d (.bool res))) := by
  unfold A13 at hh
  obtain ⟨x1, hx1, hh⟩ := bs' hh
  obtain ⟨x2, hx2, hh⟩ := bs' hh
  obtain ⟨x3, hx3, hh⟩ := bs' hh
  refine S0.intro hC Tryz.func102 rfl rfl rfl (t' rfl (S' (sg' 18 rfl (G' 5 rfl (a1' rfl (a1' rfl (po' rfl (G' 2 rfl (AG.x hC rfl rfl (fun hg => ⟨hg, trivial⟩) (fun hw => ⟨W0 (T1 hw hx1), Rx (T1 hw hx1)⟩) (AG.c rfl rfl (fun hg => ⟨hg, trivial⟩) (fun hw => Z12 (T1 hw hx2)) (a1' rfl (po' rfl (G' 2 rfl ?_)))))))))))))
  refine AG.c rfl rfl (fun hg => ⟨hg, trivial⟩) (fun hw => H1q (T1 hw hx3)) (po' rfl (an' (n' (ci' rfl hh (fun hh => ?_) (fun hh => ?_)))))
  · cases hh
    exact t' rfl (re' (rt' rfl rfl rfl))
  obtain ⟨x4, hx4, hh⟩ := bs' hh
  cases hh
  exact sk' (p' 1 rfl (c' (R22 hx4) rfl rfl (e' rfl (re' (rt' rfl rfl rfl)))))
def Eg (s : Str) : Option Bool :=
  A13 s >>= fun x1 =>
  some x1
theorem Tl {s res} (hh : Eg s = some res) : S0 C 48 [.d (.str s)] [] (Ret [] (.d (.bool res))) := by
  unfold Eg at hh
  obtain ⟨x1, hx1, hh⟩ := bs' hh
  cases hh
  exact S0.intro hC Tryz.func48 rfl rfl rfl (t' rfl (p' 1 rfl (c' (Y1u hx1) rfl rfl (e' rfl (re' (rt' rfl rfl rfl))))))
mutual
def Ic (t : A0) : Option Bool :=
  (if (t.Kind == 4) = true then Eg t.Name else some default) >>= fun x1 =>
  if (bif (t.Kind == 4) then (!x1) else false) = true then
    some false
  else
    Dd t 0
  partial_fixpoint
def Dd (t : A0) (i : Int) : Option Bool :=
  if (decide (i < ((t.Names).length : Int))) = true then
    idx t.Names i >>= fun x2 =>
    Eg x2 >>= fun x3 =>
    if (!x3) = true then
      some false
    else
      Dd t (IntKind.i64.wrap (i + 1))
  else
    Ra t 0
  partial_fixpoint
def Ra (t : A0) (i1 : Int) : Option Bool :=
  if (decide (i1 < ((t.Of).length : Int))) = true then
    idx t.Of i1 >>= fun x4 =>
    Ic x4 >>= fun x5 =>
    if (!x5) = true then
      some false
    else
      Ra t (IntKind.i64.wrap (i1 + 1))
  else
    some true
  partial_fixpoint
end
abbrev E1b (t : A0) (res : Bool) : Prop := S0 C 133 [.agg (A0.cells t)] [] (Ret [] (.d (.bool res)))
abbrev B13 (t : A0) (i : Int) (res : Bool) : Prop := LM C 42 0 Tryz.f133 [1, 1, 0, 1, 4] [(1, .ref 0 0), (3, .d (.int .i64 i))] [.row (A0.cells t) 40] (Ret [] (.d (.bool res)))
abbrev C13 (t : A0) (i1 : Int) (res : Bool) : Prop := LM C 42 0 Tryz.f133 [1, 1, 1, 0, 1, 4] [(1, .ref 0 0), (4, .d (.int .i64 i1))] [.row (A0.cells t) 40] (Ret [] (.d (.bool res)))
theorem Xu : (∀ t res, Ic t = some res → E1b t res) ∧ (∀ t i res, Dd t i = some res → B13 t i res) ∧ (∀ t i1 res, Ra t i1 = some res → C13 t i1 res) := by
  refine Ic.mutual_partial_correctness _ _ _ ?_ ?_ ?_
  · intro g1 ih1 t res hh
    obtain ⟨x1, hx1, hh⟩ := bs' hh
    refine S0.intro hC Tryz.func133 rfl rfl rfl (s' rfl rfl (I0.n hC rfl (e' rfl (S' (sg' 9 rfl (G' 5 rfl (a1' rfl (AG.c rfl rfl (fun hg => ⟨hg, trivial⟩) (fun hw => Tl (T1 hw hx1)) (a1' rfl (pa' rfl (an' (n' (ci' rfl hh (fun hh => ?_) (fun hh => ?_))))))))))))))
    · cases hh
      exact t' rfl (re' (rt' rfl rfl rfl))
    exact sk' (S' (t' rfl (bk' (fw' (ih1 _ _ _ hh) rfl rfl rfl))))
  · intro g1 g2 ih1 ih2 t i res hh
    refine Z0.unroll (S' (p' 3 rfl (qe' rfl trivial (estr.lenA _) (e' rfl (ci' rfl hh (fun hh => ?_) (fun hh => ?_))))))
    · obtain ⟨x2, hx2, hh⟩ := bs' hh
      obtain ⟨x3, hx3, hh⟩ := bs' hh
      refine sk' (S' (bk' (p' 3 rfl (i' rfl (W0 hx2) (estr.idx hx2) rfl (q' rfl (c' (Tl hx3) rfl rfl (e' rfl (ci' rfl hh (fun hh => ?_) (fun hh => ?_)))))))))
      · cases hh
        exact t' rfl (re' (rt' rfl rfl rfl))
      exact sk' (T' rfl (lw' (ih1 _ _ _ hh) rfl rfl rfl))
    exact ex' (S' (t' rfl (bk' (fw' (ih2 _ _ _ hh) rfl rfl rfl))))
  · intro g0 g2 ih0 ih2 t i1 res hh
    refine Z0.unroll (S' (p' 3 rfl (qe' rfl trivial (A0.lenA _) (e' rfl (ci' rfl hh (fun hh => ?_) (fun hh => ?_))))))
    · obtain ⟨x4, hx4, hh⟩ := bs' hh
      obtain ⟨x5, hx5, hh⟩ := bs' hh
      refine sk' (S' (bk' (p' 3 rfl (i' rfl (W0 hx4) (A0.idx hx4) rfl (q' rfl (c' (ih0 _ _ hx5) rfl rfl (e' rfl (ci' rfl hh (fun hh => ?_) (fun hh => ?_)))))))))
      · cases hh
        exact t' rfl (re' (rt' rfl rfl rfl))
      exact sk' (T' rfl (lw' (ih2 _ _ _ hh) rfl rfl rfl))
    cases hh
    exact ex' (t' rfl (re' (rt' rfl rfl rfl)))
theorem S18 {t res} (hh : Ic t = some res) : E1b t res := (Xu).1 _ _ hh
theorem D27 {t i res} (hh : Dd t i = some res) : B13 t i res := (Xu).2.1 _ _ _ hh
theorem E27 {t i1 res} (hh : Ra t i1 = some res) : C13 t i1 res := (Xu).2.2 _ _ _ hh
mutual
def K7 (e : C0) : Option Bool :=
  (if (bif (e.Op == 3) then true else (e.Op == 4)) = true then Eg e.Name else some default) >>= fun x1 =>
  if (bif (bif (e.Op == 3) then true else (e.Op == 4)) then (!x1) else false) = true then
    some false
  else
    Ed e 0
  partial_fixpoint
def Ed (e : C0) (i : Int) : Option Bool :=
  if (decide (i < ((e.Kids).length : Int))) = true then
    idx e.Kids i >>= fun x2 =>
    K7 x2 >>= fun x3 =>
    if (!x3) = true then
      some false
    else
      Ed e (IntKind.i64.wrap (i + 1))
  else
    some true
  partial_fixpoint
end
abbrev F1b (e : C0) (res : Bool) : Prop := S0 C 92 [.agg (C0.cells e)] [] (Ret [] (.d (.bool res)))
abbrev D13 (e : C0) (i : Int) (res : Bool) : Prop := LM C 32 0 Tryz.f92 [1, 1, 0, 1, 4] [(1, .ref 0 0), (3, .d (.int .i64 i))] [.row (C0.cells e) 34] (Ret [] (.d (.bool res)))
theorem A16 : (∀ e res, K7 e = some res → F1b e res) ∧ (∀ e i res, Ed e i = some res → D13 e i res) := by
  refine K7.mutual_partial_correctness _ _ ?_ ?_
  · intro g1 ih1 e res hh
    obtain ⟨x1, hx1, hh⟩ := bs' hh
    refine S0.intro hC Tryz.func92 rfl rfl rfl (s' rfl rfl (I0.n hC rfl (e' rfl (S' (sg' 14 rfl (G' 5 rfl (a1' rfl (a1' rfl (po' rfl (G' 2 rfl (a1' rfl (AG.c rfl rfl (fun hg => ⟨hg, trivial⟩) (fun hw => Tl (T1 hw hx1)) (a1' rfl ?_)))))))))))))
    refine pa' rfl (an' (n' (ci' rfl hh (fun hh => ?_) (fun hh => ?_))))
    · cases hh
      exact t' rfl (re' (rt' rfl rfl rfl))
    exact sk' (S' (t' rfl (bk' (fw' (ih1 _ _ _ hh) rfl rfl rfl))))
  · intro g0 g1 ih0 ih1 e i res hh
    refine Z0.unroll (S' (p' 3 rfl (qe' rfl trivial (C0.lenA _) (e' rfl (ci' rfl hh (fun hh => ?_) (fun hh => ?_))))))
    · obtain ⟨x2, hx2, hh⟩ := bs' hh
      obtain ⟨x3, hx3, hh⟩ := bs' hh
      refine sk' (S' (bk' (p' 3 rfl (i' rfl (W0 hx2) (C0.idx hx2) rfl (q' rfl (c' (ih0 _ _ hx3) rfl rfl (e' rfl (ci' rfl hh (fun hh => ?_) (fun hh => ?_)))))))))
      · cases hh
        exact t' rfl (re' (rt' rfl rfl rfl))
      exact sk' (T' rfl (lw' (ih1 _ _ _ hh) rfl rfl rfl))
    cases hh
    exact ex' (t' rfl (re' (rt' rfl rfl rfl)))
theorem Yp {e res} (hh : K7 e = some res) : F1b e res := (A16).1 _ _ hh
theorem F27 {e i res} (hh : Ed e i = some res) : D13 e i res := (A16).2 _ _ _ hh
mutual
def Ab (l : List D0) : Option Bool :=
  Cc l 0
  partial_fixpoint
def Cc (l : List D0) (i : Int) : Option Bool :=
  if (decide (i < ((l).length : Int))) = true then
    idx l i >>= fun x1 =>
    Zr x1.Verb >>= fun x2 =>
    (if x2 = true then Eg x1.Name else some default) >>= fun x3 =>
    (if (!(bif x2 then (!x3) else false)) = true then K7 x1.Place else some default) >>= fun x4 =>
    (if (!(bif (bif x2 then (!x3) else false) then true else (!x4))) = true then K7 x1.Value else some default) >>= fun x5 =>
    (if (!(bif (bif (bif x2 then (!x3) else false) then true else (!x4)) then true else (!x5))) = true then Ab x1.Then else some default) >>= fun x6 =>
    (if (!(bif (bif (bif (bif x2 then (!x3) else false) then true else (!x4)) then true else (!x5)) then true else (!x6))) = true then Ab x1.Else else some default) >>= fun x7 =>
    if (bif (bif (bif (bif (bif x2 then (!x3) else false) then true else (!x4)) then true else (!x5)) then true else (!x6)) then true else (!x7)) = true then
      some false
    else
      Vf l x1 i 0
  else
    some true
  partial_fixpoint
def Vf (l : List D0) (x1 : D0) (i1 : Int) (k : Int) : Option Bool :=
  if (decide (k < ((x1.Args).length : Int))) = true then
    idx x1.Args k >>= fun x8 =>
    K7 x8 >>= fun x9 =>
    if (!x9) = true then
      some false
    else
      Vf l x1 i1 (IntKind.i64.wrap (k + 1))
  else
    Cc l (IntKind.i64.wrap (i1 + 1))
  partial_fixpoint
end
abbrev T18 (l : List D0) (res : Bool) : Prop := S0 C 69 [.d (.sl (D0.rows l))] [] (Ret [] (.d (.bool res)))
abbrev C11 (l : List D0) (i : Int) (res : Bool) : Prop := LM C 63 0 Tryz.f69 [1, 0, 1, 4] [(0, .d (.sl (D0.rows l))), (3, .d (.int .i64 i))] [] (Ret [] (.d (.bool res)))
abbrev D11 (l : List D0) (x1 : D0) (i1 : Int) (k : Int) (res : Bool) : Prop := LM C 63 0 Tryz.f69 [1, 0, 1, 4, 5, 1, 0, 4, 1, 1, 1, 4] [(0, .d (.sl (D0.rows l))), (3, .d (.int .i64 i1)), (4, .ref 0 0), (5, .d (.int .i64 k))] [.row (D0.cells x1) 53] (Ret [] (.d (.bool res)))
theorem Kt : (∀ l res, Ab l = some res → T18 l res) ∧ (∀ l i res, Cc l i = some res → C11 l i res) ∧ (∀ l x1 i1 k res, Vf l x1 i1 k = some res → D11 l x1 i1 k res) := by
  refine Ab.mutual_partial_correctness _ _ _ ?_ ?_ ?_
  · intro g1 ih1 l res hh
    exact S0.intro hC Tryz.func69 rfl rfl rfl (t' rfl (S' (t' rfl (bk' (fw' (ih1 _ _ _ hh) rfl rfl rfl)))))
  · intro g0 g2 ih0 ih2 l i res hh
    refine Z0.unroll (S' (p' 2 rfl (qe' rfl trivial (D0.lenA _) (e' rfl (ci' rfl hh (fun hh => ?_) (fun hh => ?_))))))
    · obtain ⟨x1, hx1, hh⟩ := bs' hh
      obtain ⟨x2, hx2, hh⟩ := bs' hh
      obtain ⟨x3, hx3, hh⟩ := bs' hh
      obtain ⟨x4, hx4, hh⟩ := bs' hh
      obtain ⟨x5, hx5, hh⟩ := bs' hh
      obtain ⟨x6, hx6, hh⟩ := bs' hh
      obtain ⟨x7, hx7, hh⟩ := bs' hh
      refine sk' (S' (bk' (p' 2 rfl (i' rfl (W0 hx1) (D0.idx hx1) rfl (q' rfl (I0.nf hC rfl (I0.s hC rfl (n' (S' (sg' 33 rfl (G' 2 rfl (AG.c rfl rfl (fun _ => trivial) (fun _ => B1b hx2) (G' 2 rfl ?_)))))))))))))
      refine a1' rfl (AG.c rfl rfl (fun hg => ⟨hg, trivial⟩) (fun hw => Tl (T1 hw hx3)) (a1' rfl (pa' rfl (G' 2 rfl (a1' rfl (AG.c rfl rfl (fun hg => ⟨hg, trivial⟩) (fun hw => Yp (T1 hw hx4)) (a1' rfl (po' rfl (G' 2 rfl (a1' rfl (AG.c rfl rfl (fun hg => ⟨hg, trivial⟩) (fun hw => Yp (T1 hw hx5)) (a1' rfl (po' rfl ?_)))))))))))))
      refine G' 2 rfl (a1' rfl (AG.c rfl rfl (fun hg => ⟨hg, trivial⟩) (fun hw => ih0 _ _ (T1 hw hx6)) (a1' rfl (po' rfl (G' 2 rfl (a1' rfl (AG.c rfl rfl (fun hg => ⟨hg, trivial⟩) (fun hw => ih0 _ _ (T1 hw hx7)) (a1' rfl (po' rfl (an' (n' (ci' rfl hh (fun hh => ?_) (fun hh => ?_)))))))))))))
      · cases hh
        exact t' rfl (re' (rt' rfl rfl rfl))
      exact sk' (t' rfl (bk' (fw' (ih2 _ _ _ _ _ hh) rfl rfl rfl)))
    cases hh
    exact ex' (t' rfl (re' (rt' rfl rfl rfl)))
  · intro g1 g2 ih1 ih2 l x1 i1 k res hh
    refine Z0.unroll (S' (p' 3 rfl (qe' rfl trivial (C0.lenA _) (e' rfl (ci' rfl hh (fun hh => ?_) (fun hh => ?_))))))
    · obtain ⟨x8, hx8, hh⟩ := bs' hh
      obtain ⟨x9, hx9, hh⟩ := bs' hh
      refine sk' (S' (bk' (p' 3 rfl (i' rfl (W0 hx8) (C0.idx hx8) rfl (q' rfl (c' (Yp hx9) rfl rfl (e' rfl (ci' rfl hh (fun hh => ?_) (fun hh => ?_)))))))))
      · cases hh
        exact t' rfl (re' (rt' rfl rfl rfl))
      exact sk' (T' rfl (lw' (ih2 _ _ _ _ _ hh) rfl rfl rfl))
    exact ex' (T' rfl (lw' (ih1 _ _ _ hh) rfl rfl rfl))
theorem B16 {l res} (hh : Ab l = some res) : T18 l res := (Kt).1 _ _ hh
theorem J25 {l i res} (hh : Cc l i = some res) : C11 l i res := (Kt).2.1 _ _ _ hh
theorem K25 {l x1 i1 k res} (hh : Vf l x1 i1 k = some res) : D11 l x1 i1 k res := (Kt).2.2 _ _ _ _ _ hh
mutual
def Fd (l : List B0) : Option Bool :=
  Dc l 0
  partial_fixpoint
def Dc (l : List B0) (i : Int) : Option Bool :=
  if (decide (i < ((l).length : Int))) = true then
    idx l i >>= fun x1 =>
    Eg x1.Name >>= fun x2 =>
    (if (!(!x2)) = true then Ic x1.TypeV else some default) >>= fun x3 =>
    (if (!(bif (!x2) then true else (!x3))) = true then K7 x1.Value else some default) >>= fun x4 =>
    (if (!(bif (bif (!x2) then true else (!x3)) then true else (!x4))) = true then Fd x1.Params else some default) >>= fun x5 =>
    (if (!(bif (bif (bif (!x2) then true else (!x3)) then true else (!x4)) then true else (!x5))) = true then Fd x1.Vars else some default) >>= fun x6 =>
    (if (!(bif (bif (bif (bif (!x2) then true else (!x3)) then true else (!x4)) then true else (!x5)) then true else (!x6))) = true then Ab x1.Body else some default) >>= fun x7 =>
    if (bif (bif (bif (bif (bif (!x2) then true else (!x3)) then true else (!x4)) then true else (!x5)) then true else (!x6)) then true else (!x7)) = true then
      some false
    else
      Dc l (IntKind.i64.wrap (i + 1))
  else
    some true
  partial_fixpoint
end
abbrev U18 (l : List B0) (res : Bool) : Prop := S0 C 68 [.d (.sl (B0.rows l))] [] (Ret [] (.d (.bool res)))
abbrev E11 (l : List B0) (i : Int) (res : Bool) : Prop := LM C 49 0 Tryz.f68 [1, 0, 1, 4] [(0, .d (.sl (B0.rows l))), (3, .d (.int .i64 i))] [] (Ret [] (.d (.bool res)))
theorem E13 : (∀ l res, Fd l = some res → U18 l res) ∧ (∀ l i res, Dc l i = some res → E11 l i res) := by
  refine Fd.mutual_partial_correctness _ _ ?_ ?_
  · intro g1 ih1 l res hh
    exact S0.intro hC Tryz.func68 rfl rfl rfl (t' rfl (S' (t' rfl (bk' (fw' (ih1 _ _ _ hh) rfl rfl rfl)))))
  · intro g0 g1 ih0 ih1 l i res hh
    refine Z0.unroll (S' (p' 2 rfl (qe' rfl trivial (B0.lenA _) (e' rfl (ci' rfl hh (fun hh => ?_) (fun hh => ?_))))))
    · obtain ⟨x1, hx1, hh⟩ := bs' hh
      obtain ⟨x2, hx2, hh⟩ := bs' hh
      obtain ⟨x3, hx3, hh⟩ := bs' hh
      obtain ⟨x4, hx4, hh⟩ := bs' hh
      obtain ⟨x5, hx5, hh⟩ := bs' hh
      obtain ⟨x6, hx6, hh⟩ := bs' hh
      obtain ⟨x7, hx7, hh⟩ := bs' hh
      refine sk' (S' (bk' (p' 2 rfl (i' rfl (W0 hx1) (B0.idx hx1) rfl (q' rfl (I0.nf hC rfl (I0.s hC rfl (n' (sg' 34 rfl (G' 2 rfl (AG.c rfl rfl (fun _ => trivial) (fun _ => Tl hx2) (G' 3 rfl (a1' rfl ?_)))))))))))))
      refine AG.c rfl rfl (fun hg => ⟨hg, trivial⟩) (fun hw => S18 (T1 hw hx3)) (a1' rfl (po' rfl (G' 2 rfl (a1' rfl (AG.c rfl rfl (fun hg => ⟨hg, trivial⟩) (fun hw => Yp (T1 hw hx4)) (a1' rfl (po' rfl (G' 2 rfl (a1' rfl (AG.c rfl rfl (fun hg => ⟨hg, trivial⟩) (fun hw => ih0 _ _ (T1 hw hx5)) (a1' rfl (po' rfl (G' 2 rfl ?_)))))))))))))
      refine a1' rfl (AG.c rfl rfl (fun hg => ⟨hg, trivial⟩) (fun hw => ih0 _ _ (T1 hw hx6)) (a1' rfl (po' rfl (G' 2 rfl (a1' rfl (AG.c rfl rfl (fun hg => ⟨hg, trivial⟩) (fun hw => B16 (T1 hw hx7)) (a1' rfl (po' rfl (an' (n' (ci' rfl hh (fun hh => ?_) (fun hh => ?_))))))))))))
      · cases hh
        exact t' rfl (re' (rt' rfl rfl rfl))
      exact sk' (T' rfl (lw' (ih1 _ _ _ hh) rfl rfl rfl))
    cases hh
    exact ex' (t' rfl (re' (rt' rfl rfl rfl)))
theorem B1m {l res} (hh : Fd l = some res) : U18 l res := (E13).1 _ _ hh
theorem L25 {l i res} (hh : Dc l i = some res) : E11 l i res := (E13).2 _ _ _ hh
def Bl (n : Int) : Option Bool :=
  some (bif (decide (n ≥ (-1048576))) then (decide (n ≤ 1048576)) else false)
theorem Zp {n res} (hh : Bl n = some res) : S0 C 134 [.d (.int .i64 n)] [] (Ret [] (.d (.bool res))) := by
  unfold Bl at hh
  cases hh
  exact S0.intro hC Tryz.func134 rfl rfl rfl (t' rfl (sg' 7 rfl (G' 4 rfl (a1' rfl (pa' rfl (a0' rfl (an' (n' (re' (rt' rfl rfl rfl))))))))))
mutual
def O9 (t : A0) : Option Bool :=
  (if (t.Kind == 1) = true then Bl t.Low else some default) >>= fun x1 =>
  (if ((t.Kind == 1) && (!(!x1))) = true then Bl t.High else some default) >>= fun x2 =>
  if (bif (bif (bif (t.Kind == 1) then (bif (bif (!x1) then true else (!x2)) then true else (decide (t.Low > t.High))) else false) then true else (bif (t.Kind == 2) then (bif (decide (t.Size < 1)) then true else (decide (t.Size > 32))) else false)) then true else (decide (((t.Of).length : Int) > 32))) = true then
    some false
  else
    Bb t 0
  partial_fixpoint
def Bb (t : A0) (i : Int) : Option Bool :=
  if (decide (i < ((t.Of).length : Int))) = true then
    idx t.Of i >>= fun x3 =>
    O9 x3 >>= fun x4 =>
    if (!x4) = true then
      some false
    else
      Bb t (IntKind.i64.wrap (i + 1))
  else
    some true
  partial_fixpoint
end
abbrev C16 (t : A0) (res : Bool) : Prop := S0 C 135 [.agg (A0.cells t)] [] (Ret [] (.d (.bool res)))
abbrev Mz (t : A0) (i : Int) (res : Bool) : Prop := LM C 61 0 Tryz.f135 [1, 1, 0, 1, 4] [(1, .ref 0 0), (3, .d (.int .i64 i))] [.row (A0.cells t) 40] (Ret [] (.d (.bool res)))
theorem F11 : (∀ t res, O9 t = some res → C16 t res) ∧ (∀ t i res, Bb t i = some res → Mz t i res) := by
  refine O9.mutual_partial_correctness _ _ ?_ ?_
  · intro g1 ih1 t res hh
    obtain ⟨x1, hx1, hh⟩ := bs' hh
    obtain ⟨x2, hx2, hh⟩ := bs' hh
    refine S0.intro hC Tryz.func135 rfl rfl rfl (s' rfl rfl (I0.n hC rfl (e' rfl (S' (sg' 43 rfl (G' 5 rfl (a1' rfl (AG.c rfl rfl (fun hg => ⟨hg, trivial⟩) (fun hw => Zp (T1 hw hx1)) (a1' rfl (a1' rfl (a0' rfl (a1' rfl (AG.c rfl rfl (fun hg => ⟨hg, trivial⟩) (fun hw => Zp (T1 hw hx2)) ?_)))))))))))))
    refine a1' rfl (pO' rfl (a1' rfl (a0' rfl (a1' rfl (a0' rfl (a1' rfl (a2' rfl (pO' rfl (pa' rfl (G' 2 rfl (a1' rfl (a1' rfl (a1' rfl ?_)))))))))))))
    refine a0' rfl (a1' rfl (a1' rfl (a1' rfl (a0' rfl (a1' rfl (a1' rfl (pO' rfl (pA' rfl (po' rfl (G' 2 rfl (a1' rfl (AG.qe hC rfl (fun hg => ⟨⟨hg, trivial⟩, trivial⟩) (A0.lenA _) (a1' rfl ?_)))))))))))))
    refine po' rfl (an' (n' (ci' rfl hh (fun hh => ?_) (fun hh => ?_))))
    · cases hh
      exact t' rfl (re' (rt' rfl rfl rfl))
    exact sk' (S' (t' rfl (bk' (fw' (ih1 _ _ _ hh) rfl rfl rfl))))
  · intro g0 g1 ih0 ih1 t i res hh
    refine Z0.unroll (S' (p' 3 rfl (qe' rfl trivial (A0.lenA _) (e' rfl (ci' rfl hh (fun hh => ?_) (fun hh => ?_))))))
    · obtain ⟨x3, hx3, hh⟩ := bs' hh
      obtain ⟨x4, hx4, hh⟩ := bs' hh
      refine sk' (S' (bk' (p' 3 rfl (i' rfl (W0 hx3) (A0.idx hx3) rfl (q' rfl (c' (ih0 _ _ hx4) rfl rfl (e' rfl (ci' rfl hh (fun hh => ?_) (fun hh => ?_)))))))))
      · cases hh
        exact t' rfl (re' (rt' rfl rfl rfl))
      exact sk' (T' rfl (lw' (ih1 _ _ _ hh) rfl rfl rfl))
    cases hh
    exact ex' (t' rfl (re' (rt' rfl rfl rfl)))
theorem F13 {t res} (hh : O9 t = some res) : C16 t res := (F11).1 _ _ hh
theorem U24 {t i res} (hh : Bb t i = some res) : Mz t i res := (F11).2 _ _ _ hh
mutual
def S5 (e : C0) : Option Bool :=
  if (bif (e.Op == 0) then (bif (decide (e.NV < 0)) then true else (decide (e.NV > 1048576))) else false) = true then
    some false
  else
    Cb e 0
  partial_fixpoint
def Cb (e : C0) (i : Int) : Option Bool :=
  if (decide (i < ((e.Kids).length : Int))) = true then
    idx e.Kids i >>= fun x1 =>
    S5 x1 >>= fun x2 =>
    if (!x2) = true then
      some false
    else
      Cb e (IntKind.i64.wrap (i + 1))
  else
    some true
  partial_fixpoint
end
abbrev D16 (e : C0) (res : Bool) : Prop := S0 C 93 [.agg (C0.cells e)] [] (Ret [] (.d (.bool res)))
abbrev Nz (e : C0) (i : Int) (res : Bool) : Prop := LM C 31 0 Tryz.f93 [1, 1, 0, 1, 4] [(1, .ref 0 0), (3, .d (.int .i64 i))] [.row (C0.cells e) 34] (Ret [] (.d (.bool res)))
theorem G11 : (∀ e res, S5 e = some res → D16 e res) ∧ (∀ e i res, Cb e i = some res → Nz e i res) := by
  refine S5.mutual_partial_correctness _ _ ?_ ?_
  · intro g1 ih1 e res hh
    refine S0.intro hC Tryz.func93 rfl rfl rfl (s' rfl rfl (I0.n hC rfl (e' rfl (S' (sg' 13 rfl (G' 5 rfl (a1' rfl (a1' rfl (a1' rfl (a0' rfl (a1' rfl (a1' rfl (pO' rfl ?_)))))))))))))
    refine pa' rfl (an' (n' (ci' rfl hh (fun hh => ?_) (fun hh => ?_))))
    · cases hh
      exact t' rfl (re' (rt' rfl rfl rfl))
    exact sk' (S' (t' rfl (bk' (fw' (ih1 _ _ _ hh) rfl rfl rfl))))
  · intro g0 g1 ih0 ih1 e i res hh
    refine Z0.unroll (S' (p' 3 rfl (qe' rfl trivial (C0.lenA _) (e' rfl (ci' rfl hh (fun hh => ?_) (fun hh => ?_))))))
    · obtain ⟨x1, hx1, hh⟩ := bs' hh
      obtain ⟨x2, hx2, hh⟩ := bs' hh
      refine sk' (S' (bk' (p' 3 rfl (i' rfl (W0 hx1) (C0.idx hx1) rfl (q' rfl (c' (ih0 _ _ hx2) rfl rfl (e' rfl (ci' rfl hh (fun hh => ?_) (fun hh => ?_)))))))))
      · cases hh
        exact t' rfl (re' (rt' rfl rfl rfl))
      exact sk' (T' rfl (lw' (ih1 _ _ _ hh) rfl rfl rfl))
    cases hh
    exact ex' (t' rfl (re' (rt' rfl rfl rfl)))
theorem Vm {e res} (hh : S5 e = some res) : D16 e res := (G11).1 _ _ hh
theorem V24 {e i res} (hh : Cb e i = some res) : Nz e i res := (G11).2 _ _ _ hh
def V8 (s : D0) (k : Int) : Option Bool :=
  if (decide (k < ((s.Numbers).length : Int))) = true then
    idx s.Numbers k >>= fun x3 =>
    (if (!(decide (x3 < 0))) = true then idx s.Numbers k else some default) >>= fun x4 =>
    (if ((!(bif (decide (x3 < 0)) then true else (decide (x4 > 1048576)))) && (decide (k > 0))) = true then idx s.Numbers k else some default) >>= fun x5 =>
    (if ((!(bif (decide (x3 < 0)) then true else (decide (x4 > 1048576)))) && (decide (k > 0))) = true then idx s.Numbers (IntKind.i64.wrap (k - 1)) else some default) >>= fun x6 =>
    if (bif (bif (decide (x3 < 0)) then true else (decide (x4 > 1048576))) then true else (bif (decide (k > 0)) then (decide (x5 ≤ x6)) else false)) = true then
      some false
    else
      V8 s (IntKind.i64.wrap (k + 1))
  else
    some true
  partial_fixpoint
abbrev Oz (s : D0) (k : Int) (res : Bool) : Prop := LM C 105 0 Tryz.f136 [1, 1, 1, 1, 0, 1, 2, 1, 1, 4] [(1, .ref 0 0), (3, .d (.int .i64 k))] [.row (D0.cells s) 53] (Ret [] (.d (.bool res)))
theorem L1d (s : D0) : (∀ k res, V8 s k = some res → Oz s k res) := by
  refine V8.partial_correctness s _ ?_
  · intro g0 ih0 k res hh
    refine Z0.unroll (S' (p' 3 rfl (qe' rfl trivial (ei64.lenA _) (e' rfl (ci' rfl hh (fun hh => ?_) (fun hh => ?_))))))
    · obtain ⟨x3, hx3, hh⟩ := bs' hh
      obtain ⟨x4, hx4, hh⟩ := bs' hh
      obtain ⟨x5, hx5, hh⟩ := bs' hh
      obtain ⟨x6, hx6, hh⟩ := bs' hh
      refine sk' (S' (bk' (S' (AEx.drawG hC 32 rfl rfl rfl (G' 3 rfl (AG.i hC rfl rfl (fun _ => trivial) (fun hw => ⟨W0 hx3, ei64.idx hx3, rfl⟩) (G' 4 rfl (a1' rfl (a0' rfl (AG.i hC rfl rfl (fun hg => ⟨hg, hg, trivial⟩) (fun hw => ⟨W0 (T1 hw hx4), ei64.idx (T1 hw hx4), rfl⟩) (a1' rfl (a1' rfl (po' rfl ?_)))))))))))))
      refine G' 2 rfl (a1' rfl (a1' rfl (a0' rfl (a1' rfl (a0' rfl (AG.i hC rfl rfl (fun hg => ⟨hg, hg, trivial⟩) (fun hw => ⟨W0 (T1 hw hx5), ei64.idx (T1 hw hx5), rfl⟩) (a1' rfl (a0' rfl (a1' rfl (a0' rfl (a1' rfl (AG.i hC rfl rfl (fun hg => ⟨hg, hg, trivial⟩) (fun hw => ⟨W0 (T1 hw hx6), ei64.idx (T1 hw hx6), rfl⟩) (a1' rfl ?_)))))))))))))
      refine a2' rfl (pA' rfl (po' rfl (an' (n' (ci' rfl hh (fun hh => ?_) (fun hh => ?_))))))
      · cases hh
        exact t' rfl (re' (rt' rfl rfl rfl))
      exact sk' (T' rfl (lw' (ih0 _ _ hh) rfl rfl rfl))
    cases hh
    exact ex' (t' rfl (re' (rt' rfl rfl rfl)))
theorem W1e {s k res} (hh : V8 s k = some res) : Oz s k res := (L1d s) _ _ hh
end Go.Proofs.YtdkabnfphmmmnaaGreatDoor

