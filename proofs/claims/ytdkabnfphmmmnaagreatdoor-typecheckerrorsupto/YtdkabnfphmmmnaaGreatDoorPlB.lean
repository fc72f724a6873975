/- A part of the proof of TypecheckErrors. -/
import Derived.Test.YtdkabnfphmmmnaaGreatDoorPlA
set_option linter.unusedSimpArgs false
set_option linter.unusedVariables false
namespace Go.Proofs.YtdkabnfphmmmnaaGreatDoor
open Go.Am
def Tot {α : Type} (x : Option α) : Prop := ∃ r, x = some r
theorem Tot.mk {α : Type} (r : α) : Tot (some r) := ⟨r, rfl⟩
theorem Tot.bnd {α β : Type} {x : Option α} {f : α → Option β} (h : Tot x) (hf : ∀ r, x = some r → Tot (f r)) : Tot (x >>= f) := by
  obtain ⟨r, hr⟩ := h
  rw [hr]
  exact hf r hr
theorem Tot.ite {α : Type} {c : Bool} {X Y : Option α} (hx : c = true → Tot X) (hy : c = false → Tot Y) : Tot (if c = true then X else Y) := by
  cases c with
  | true => exact hx rfl
  | false => exact hy rfl
theorem okz : Ok zT := by unfold Ok; simp only [A0.bulk_eq, A0.bulks, BB]; decide
theorem okn (a b : Int) : Ok (nT a b) := by unfold Ok nT; simp only [A0.bulk_eq, A0.bulks, BB]; decide
def FO (t : A0) : Prop := I6 t ∧ Ok t
theorem FO.z : FO zT := ⟨.zT, okz⟩
theorem V2h {m : List (Str × A0)} (hm : MOk m) {t : A0} (hb : t.bulk ≤ 1048576) : FO (Ip m t).1 := by
  by_cases h : (Ip m t).2 = 0
  · have := (F24 hm hb h).1.val
    exact ⟨this.fine, this.ok⟩
  · have : (Ip m t).1 = zT := by
      unfold Ip at h ⊢
      cases hc : Kc t != 0 with
      | true => rfl
      | false =>
        rw [hc] at h
        simp only [cond_false] at h ⊢
        cases hx : t.rp m with
        | none => rfl
        | some x =>
          rw [hx] at h
          simp only at h ⊢
          cases h2 : x.some Jo with
          | true => rfl
          | false =>
            rw [h2] at h
            simp only [cond_false] at h ⊢
            cases h3 : (decide ((x.depth : Int) > 12) || decide (x.cnt > 32)) with
            | true => rfl
            | false => rw [h3] at h; exact absurd rfl h
    rw [this]
    exact .z
theorem K14 {ds : List B0} (hd : DOk ds) {t : A0} (ht : t.bulk ≤ 1048576) : FO (Kn ds t).1 := by
  unfold Kn D1p
  cases (Xy ds []).2 != 0 with
  | true => exact .z
  | false => exact V2h (W1p (ds := ds) ds [] (fun d h => (hd.2 d h).1) .nil).1 ht
theorem DOk.take {ds : List B0} (h : DOk ds) (i : Nat) : DOk (ds.take i) := ⟨by have := h.1; simp; omega, fun d hd => h.2 d (List.mem_of_mem_take hd)⟩
structure CkP (p : K0) : Prop where
  okp : OkP p
  dok : DOk p.Decls
  small : ∀ d ∈ p.Decls, d.TypeV.bulk ≤ 1048576 ∧ (∀ v ∈ d.Params, v.TypeV.bulk ≤ 1048576) ∧ (∀ v ∈ d.Vars, v.TypeV.bulk ≤ 1048576)
  dform : B0.alls dform p.Decls = true
  sform : D0.alls sform p.Body = true
  dnumb : B0.alls dnumb p.Decls = true
  snumb : D0.alls snumb p.Body = true
theorem K24 {n d : Int} {f m u : Bool} (h : Jn n d f m u = 0) : f = false ∧ u = false := by
  unfold Jn at h
  generalize (bif decide (n > 1024) then true else decide (d > 12)) = q at h
  cases q <;> cases f <;> cases m <;> cases u <;> simp at h ⊢
theorem CkP.of {p : K0} (hb : p.bulk ≤ 1048576) (hc : Q1e p = 0) : CkP p := by
  have hz := K24 hc
  simp only [Bool.not_eq_false', Bool.and_eq_true] at hz
  obtain ⟨⟨f1, f2⟩, u1, u2⟩ := hz
  have hbd : B0.bulks p.Decls ≤ 1048576 := by cases p; simp only [K0.bulk] at hb; simp only; omega
  have sm : ∀ {l : List B0} {d : B0}, d ∈ l → B0.bulks l ≤ 1048576 → d.TypeV.bulk ≤ 1048576 ∧ d.Name.length ≤ 1048576 ∧ B0.bulks d.Params ≤ 1048576 ∧ B0.bulks d.Vars ≤ 1048576 := fun {l d} hd hl => by
    have h1 := B0.bulk_mem hd
    have h2 := B0.bulk_eq d
    omega
  refine ⟨B2d hb, ⟨by have := B0.bulk_len p.Decls; omega, fun d hd => ?_⟩, fun d hd => ?_, f1, f2, u1, u2⟩
  · have := sm hd hbd
    exact ⟨this.1, by unfold BB; omega⟩
  · have := sm hd hbd
    exact ⟨this.1, fun v hv => (sm hv this.2.2.1).1, fun v hv => (sm hv this.2.2.2).1⟩
theorem CkP.dec {p : K0} (h : CkP p) {d : B0} (hd : d ∈ p.Decls) : Go.Proofs.YtdkabnfphmmmnaaGreatDoor.dform d = true ∧ Go.Proofs.YtdkabnfphmmmnaaGreatDoor.dnumb d = true := by
  have key : ∀ {q : B0 → Bool} {l : List B0}, B0.alls q l = true → d ∈ l → q d = true := by
    intro q l
    induction l with
    | nil => intro _ hm; cases hm
    | cons x r ih =>
      intro ha hm
      simp only [B0.alls, Bool.and_eq_true] at ha
      cases hm with
      | head => rw [B0.all_eq, Bool.and_eq_true] at ha; exact ha.1.1
      | tail _ hm => exact ih ha.2 hm
  exact ⟨key h.dform hd, key h.dnumb hd⟩
theorem J1t {c : F0} (h : CkP c.p) {i : Nat} (hi : i ≤ c.p.Decls.length) {t : A0} (ht : t.bulk ≤ 1048576) : D5 c t i = some (Kn (c.p.Decls.take i) t) := by
  unfold D5
  rw [G2a hi, ob, I2d _ (h.dok.take i) t ht]
  rfl
theorem L14 {c : F0} (h : CkP c.p) {i : Nat} (hi : i ≤ c.p.Decls.length) {t : A0} (ht : t.bulk ≤ 1048576) : C3 c t i = some (Kn (c.p.Decls.take i) t).1 := by
  unfold C3
  rw [J1t h hi ht]
  rfl
def SO (s : Option J0) : Prop := ∀ nm v, lkO nm s = some v → FO v.typ
theorem SO.f {s : Option J0} (h : SO s) : SF fun nm => lkO nm s := fun nm v e => (h nm v e).1
def MF (m : List (Str × L0)) : Prop := ∀ q ∈ m, FO q.2.typ
theorem N2d {α : Type} {k : Str} {x : α} : ∀ {m : List (Str × α)}, mgt k m = some x → ∃ k', (k', x) ∈ m
  | [], h => by cases h
  | (k', y) :: r, h => by
    simp only [mgt] at h
    cases hk : k == k' with
    | true => rw [hk] at h; cases h; exact ⟨k', List.mem_cons_self⟩
    | false => rw [hk] at h; obtain ⟨q, hq⟩ := N2d h; exact ⟨q, List.mem_cons_of_mem _ hq⟩
theorem MF.put {m : List (Str × L0)} (h : MF m) (k : Str) {x : L0} (hx : FO x.typ) : MF (mpt k x m) := by
  induction m with
  | nil => intro q hq; simp [mpt] at hq; subst hq; exact hx
  | cons p r ih =>
    obtain ⟨k', y⟩ := p
    intro q hq
    simp only [mpt] at hq
    cases hk : k == k' with
    | true =>
      rw [hk] at hq
      rcases List.mem_cons.1 hq with rfl | hq
      · exact hx
      · exact h q (List.mem_cons_of_mem _ hq)
    | false =>
      rw [hk] at hq
      rcases List.mem_cons.1 hq with rfl | hq
      · exact h _ List.mem_cons_self
      · exact ih (fun q hq => h q (List.mem_cons_of_mem _ hq)) q hq
theorem SO.ext {s : Option J0} (h : SO s) {m : List (Str × L0)} (hm : MF m) : SO (some (.mk s m)) := by
  intro nm v e
  simp only [lkO, J0.find] at e
  cases hg : mgt nm m with
  | some y => rw [hg] at e; cases e; obtain ⟨k', hk⟩ := N2d hg; exact hm _ hk
  | none => rw [hg] at e; exact h nm v e
theorem SO.none : SO none := fun nm v e => by simp [lkO] at e
theorem L24 {nm : Str} : ∀ {ns : List Str} {ts : List A0}, (∀ t ∈ ts, Ok t) → Ok (V17 ns ts nm).1
  | [], _, _ => okz
  | _ :: _, [], _ => okz
  | n :: ns, t :: ts, hf => by
    simp only [V17]
    cases n == nm with
    | true => exact hf t List.mem_cons_self
    | false => exact L24 fun t ht => hf t (List.mem_cons_of_mem _ ht)
theorem O2d (op : Int) (a b : A0) : ∃ lo hi, J14 op a b = nT lo hi := by
  unfold J14
  cases op == 8 <;> cases op == 9 <;> cases op == 10 <;> cases op == 11 <;> cases op == 12 <;> cases op == 21 <;> cases (bif decide (a.Low ≥ 0) then decide (b.Low ≥ 0) else false) <;> exact ⟨_, _, rfl⟩
theorem K1t (a b : Int) : Ok (Vv (nT a b)).1 := by
  unfold Vv
  cases (bif (nT a b).Kind == 1 then (bif decide ((nT a b).Low < (-1048576)) then true else decide ((nT a b).High > 1048576)) else false) with
  | true => exact okz
  | false => exact okn _ _
theorem Lg {c : Bool} {x y : A0 × Int} (hx : Ok x.1) (hy : Ok y.1) : Ok (bif c then x else y).1 := by cases c; exact hy; exact hx
theorem S2i (op : Int) (k : List A0) : Ok (opT op k).1 := by
  obtain ⟨lo, hi, e⟩ := O2d op (k.getD 0 zT) (k.getD 1 zT)
  unfold opT
  rw [e]
  refine Lg (Lg (K1t _ _) okz) (Lg (Lg okz okz) (Lg (Lg okz okz) (Lg (Lg okz okz) (Lg (Lg okz (Lg (okn _ _) (Lg okz okz))) (Lg (K1t _ _) okz)))))
theorem F28 {l : List A0} (h : ∀ t ∈ l, Ok t) (i : Nat) : Ok (l.getD i zT) := by
  unfold List.getD
  cases hx : l[i]? with
  | none => exact okz
  | some x => exact h x (List.mem_of_getElem? hx)
theorem E2g {σ : Str → Option L0} (hσ : ∀ nm v, σ nm = some v → Ok v.typ) (o n : Int) (s : Str) {k : List A0} (hk : ∀ t ∈ k, Ok t) : Ok (W17 σ o n s k).1 := by
  have hk0 := F28 hk 0
  unfold W17
  refine Lg (K1t _ _) (Lg okz (Lg ?_ (Lg ?_ (Lg (Lg okz ?_) (S2i _ _)))))
  · cases hs : σ s with
    | none => exact okz
    | some v => exact hσ s v hs
  · unfold J1g
    exact Lg okz (L24 fun t ht => hk0.kid ht)
  · exact F28 (fun t ht => hk0.kid ht) 0
mutual
theorem V2g {σ : Str → Option L0} (hσ : ∀ nm v, σ nm = some v → Ok v.typ) : ∀ e : C0, Ok (e.ty σ).1
  | .mk o n s ks => by
    simp only [C0.ty]
    exact Lg okz (E2g hσ o n s (P2d hσ ks))
theorem P2d {σ : Str → Option L0} (hσ : ∀ nm v, σ nm = some v → Ok v.typ) : ∀ (l : List C0), ∀ t ∈ (C0.tys σ l).1, Ok t
  | [], t, ht => by simp [C0.tys] at ht
  | x :: r, t, ht => by
    have h1 := V2g hσ x
    have h2 := P2d hσ r
    simp only [C0.tys] at ht
    cases c1 : (C0.ty σ x).2 != 0 with
    | true => rw [c1] at ht; simp at ht
    | false =>
      rw [c1] at ht
      simp only [cond_false] at ht
      cases c2 : (C0.tys σ r).2 != 0 with
      | true => rw [c2] at ht; simp at ht
      | false =>
        rw [c2] at ht
        simp only [cond_false, List.mem_cons] at ht
        rcases ht with rfl | ht
        · exact h1
        · exact h2 t ht
end
abbrev tyS (s : Option J0) (e : C0) : A0 × Int := e.ty fun nm => lkO nm s
theorem Q2d {s : Option J0} (h : SO s) (e : C0) : Ok (tyS s e).1 := V2g (fun nm v hv => (h nm v hv).2) e
theorem W1v {s : Option J0} (h : SO s) {e : C0} (ho : OkE e) (hf : e.all N4 = true) : G4 s e = some (tyS s e) := (U2h s h.f e ho hf).1
def scT (t : A0) : Bool := bif t.Kind == 0 then true else t.Kind == 1
def F2g (a b : A0) (place : Bool) : Bool := bif (bif scT a then true else scT b) then a.Kind == b.Kind else (bif place then a.same b else false)
theorem M24 {a : A0} (ha : Ok a) (b : A0) (place : Bool) : C7 a b place = some (F2g a b place) := by
  unfold C7 F2g
  rw [show P7 a = some (scT a) from rfl, ob]
  cases scT a with
  | true => rfl
  | false =>
    rw [show (if (!false) = true then P7 b else some default) = some (scT b) from rfl, ob]
    cases scT b with
    | true => rfl
    | false =>
      cases place with
      | false => rfl
      | true =>
        simp only [cond_false, Bool.false_eq_true, if_false, if_true]
        rw [X2f a ha b]
        rfl
def plE (e : C0) : Bool := bif (bif (e.Op == 3) then true else (e.Op == 4)) then true else (e.Op == 5)
def T2i (s : Option J0) (e : C0) (to : A0) : Int := bif (bif (tyS s e).2 == 0 then !F2g (tyS s e).1 to (plE e) else false) then 9 else (tyS s e).2
theorem X1v {s : Option J0} (h : SO s) {e : C0} (ho : OkE e) (hf : e.all N4 = true) (to : A0) : Da s e to = some (T2i s e to) := by
  unfold Da T2i
  rw [W1v h ho hf, ob]
  cases hc : (tyS s e).2 == 0 with
  | false => rfl
  | true =>
    rw [show (if true = true then Qi e else some default) = some (plE e) from rfl, ob, if_pos rfl, M24 (Q2d h e), ob]
    exact ifB _ _ _
theorem G2g (e : C0) : Tot (U6 e) := by
  induction e using C0.ind with
  | h e ih =>
  rw [U6]
  refine .ite (fun hc => ?_) (fun _ => .mk _)
  cases hk : e.Kids with
  | nil => rw [hk] at hc; cases h3 : (e.Op != 3) <;> rw [h3] at hc <;> simp at hc
  | cons x r =>
    rw [show idx (x :: r) 0 = some x from rfl, ob]
    exact ih x (by rw [hk]; exact List.mem_cons_self)
theorem H1h {s : Option J0} (h : SO s) {e : C0} (ho : OkE e) (hf : e.all N4 = true) :
    ∃ r, Ya s e = some r ∧ Ok r.1 ∧ (r.2 = 0 → (tyS s e).2 = 0 ∧ r.1 = (tyS s e).1) := by
  unfold Ya
  rw [W1v h ho hf, ob]
  cases hc : (tyS s e).2 != 0 with
  | true => exact ⟨_, rfl, okz, fun h0 => by simp only at h0; rw [h0] at hc; exact absurd hc (by simp)⟩
  | false =>
    obtain ⟨nm, hr⟩ := G2g e
    rw [if_neg (by simp), show Hn e = U6 e from rfl, hr, ob, E1p, ob]
    cases (Z1k s nm).1.fixed with
    | true => exact ⟨_, rfl, okz, fun h0 => by simp at h0⟩
    | false => exact ⟨_, rfl, Q2d h e, fun _ => ⟨by simpa using hc, rfl⟩⟩
theorem R2d (kind : Int) (name : Str) (l : List B0) (hl : l.length ≤ BB) : ∀ (r : List B0) (k : Nat), l.drop k = r → ∃ x, J3 kind name l k = some x ∧ (x < 0 ∨ ∃ j : Nat, x = j ∧ j < l.length)
  | [], k, h => by
    rw [J3, (I1 h).1]
    exact ⟨_, rfl, .inl (by decide)⟩
  | d :: r, k, h => by
    obtain ⟨h1, h2, h3, h4, _⟩ := V1 h
    rw [J3, h1, h2]
    simp only [if_true, ob]
    cases (bif (d.Kind == kind) then (d.Name == name) else false) with
    | true => exact ⟨_, rfl, .inr ⟨k, rfl, h4⟩⟩
    | false =>
      simp only [Bool.false_eq_true, if_false]
      rw [w1 (by omega)]
      exact R2d kind name l hl r (k + 1) h3
structure H1p (c : F0) (n : Nat) : Prop where
  p : CkP c.p
  at_ : c.atV = n
  le : n ≤ c.p.Decls.length
theorem N24 {c : F0} {n : Nat} (h : H1p c n) (kind : Int) (name : Str) : ∃ x, H7 c kind name c.atV = some x ∧ (x < 0 ∨ ∃ (j : Nat) (d : B0), x = j ∧ j ≤ c.p.Decls.length ∧ idx c.p.Decls x = some d ∧ d ∈ c.p.Decls) := by
  unfold H7
  rw [h.at_, G2a h.le, ob]
  have hl := h.p.okp.decls.len
  obtain ⟨x, h1, h2⟩ := R2d kind name (c.p.Decls.take n) (by simp; omega) (c.p.Decls.take n) 0 rfl
  refine ⟨x, h1, ?_⟩
  rcases h2 with h2 | ⟨j, rfl, hj⟩
  · exact .inl h2
  · have hj' : j < c.p.Decls.length := by simp at hj; omega
    obtain ⟨d, g1, _, g3⟩ := Gy (l := c.p.Decls) hj'
    exact .inr ⟨j, d, rfl, by omega, g1, g3⟩
theorem S2d {x : D0} (h : sform x = true) : (uPl x.Verb = true → x.Place.all N4 = true) ∧ (uVa x.Verb = true → x.Value.all N4 = true) ∧ C0.alls N4 x.Args = true := by
  unfold sform at h
  simp only [Bool.and_eq_true] at h
  obtain ⟨⟨⟨⟨⟨⟨⟨⟨⟨⟨⟨_, h1⟩, _⟩, h2⟩, _⟩, _⟩, h3⟩, _⟩, _⟩, _⟩, _⟩, _⟩ := h
  refine ⟨fun hu => ?_, fun hu => ?_, h3⟩
  · rw [hu] at h1; exact h1
  · rw [hu] at h2; exact h2
theorem H2g {c : F0} {n : Nat} (hc : H1p c n) {s : Option J0} (hs : SO s) {x : D0} (ho : K1a x) (hp : x.Place.all N4 = true) (ha : C0.alls N4 x.Args = true) : Tot (A9 c s x) := by
  unfold A9
  obtain ⟨r, h1, h2, _⟩ := H1h hs ho.place hp
  rw [h1, ob]
  refine .ite (fun _ => .mk _) fun _ => ?_
  obtain ⟨y, g1, g2⟩ := N24 hc 6 x.Name
  rw [g1, ob]
  rcases g2 with g2 | ⟨j, d, rfl, hj, g3, g4⟩
  · rw [decide_eq_true g2]; exact .mk _
  rw [decide_eq_false (by omega)]
  simp only [Bool.false_eq_true, if_false]
  rw [g3, ob]
  refine .ite (fun _ => .mk _) fun hl => ?_
  have hl' : x.Args.length = d.Params.length := by
    have : (x.Args.length : Int) = (d.Params.length : Int) := by simpa [bne] using hl
    omega
  obtain ⟨sm1, sm2, _⟩ := hc.p.small d g4
  have main : ∀ (q : List C0) (k : Nat), x.Args.drop k = q → Tot (K3 c s x r d j k) := by
    intro q
    induction q with
    | nil =>
      intro k h
      rw [K3, (I1 h).1]
      simp only [Bool.false_eq_true, if_false]
      rw [L14 hc.p hj sm1, ob, M24 (K14 (hc.p.dok.take j) sm1).2, ob]
      exact .ite (fun _ => .mk _) fun _ => .mk _
    | cons a q ih =>
      intro k h
      obtain ⟨e1, e2, e3, e4, e5⟩ := V1 h
      obtain ⟨v, v1, _, v3⟩ := Gy (l := d.Params) (k := k) (by omega)
      rw [K3, e1, e2]
      simp only [if_true, ob, v1]
      rw [L14 hc.p hj (sm2 v v3), ob, X1v hs (ho.arg a e5) (C0.alls_mem ha e5), ob]
      refine .ite (fun _ => .mk _) fun _ => ?_
      have := ho.args
      rw [w1 (by omega)]
      exact ih (k + 1) e3
  exact main x.Args 0 rfl
theorem W25 {c : F0} {n : Nat} (hc : H1p c n) {s : Option J0} (hs : SO s) {x : D0} (ho : K1a x) (hp : x.Place.all N4 = true) : Tot (D7 c s x) := by
  unfold D7
  obtain ⟨r, h1, h2, _⟩ := H1h hs ho.place hp
  rw [h1, ob]
  refine .ite (fun _ => .mk _) fun _ => .ite (fun _ => .mk _) fun _ => ?_
  obtain ⟨y, g1, g2⟩ := N24 hc 5 x.Name
  rw [g1, ob]
  rcases g2 with g2 | ⟨j, d, rfl, hj, g3, g4⟩
  · rw [decide_eq_true g2]; exact .mk _
  rw [decide_eq_false (by omega)]
  simp only [Bool.false_eq_true, if_false]
  have sm := (hc.p.small d g4).1
  rw [g3, ob, L14 hc.p hj sm, ob, M24 (K14 (hc.p.dok.take j) sm).2, ob]
  exact .ite (fun _ => .mk _) fun _ => .mk _
theorem G28 {s : Option J0} (h : SO s) {e : C0} (ho : OkE e) (hf : e.all N4 = true) : L9 s e = some (bif (bif (tyS s e).2 == 0 then (tyS s e).1.Kind != 0 else false) then 9 else (tyS s e).2) := by
  unfold L9
  rw [W1v h ho hf, ob]
  exact ifB _ _ _
structure WfS (l : List D0) : Prop where
  ok : OkS l
  form : D0.alls sform l = true
  numb : D0.alls snumb l = true
theorem T19 {q : D0 → Bool} {x : D0} : ∀ {l : List D0}, D0.alls q l = true → x ∈ l → q x = true ∧ D0.alls q x.Then = true ∧ D0.alls q x.Else = true
  | y :: r, h, hm => by
    simp only [D0.alls, Bool.and_eq_true] at h
    cases hm with
    | head => have := h.1; rw [D0.all_eq, Bool.and_eq_true, Bool.and_eq_true] at this; exact this
    | tail _ hm => exact T19 h.2 hm
theorem WfS.kids {l : List D0} (h : WfS l) {x : D0} (hx : x ∈ l) : WfS x.Then ∧ WfS x.Else := by
  have a := T19 h.form hx
  have b := T19 h.numb hx
  have o := h.ok.mem hx
  exact ⟨⟨o.thens, a.2.1, b.2.1⟩, ⟨o.elses, a.2.2, b.2.2⟩⟩
def V1x (c : F0) (l : List D0) : Prop := WfS l → ∀ s, SO s → ∀ top, Tot (D2 c s l top)
theorem I2g {x : D0} (h : snumb x = true) (h7 : x.Verb = 7) : I6 (nT x.Low x.High) := by
  unfold snumb at h
  simp only [Bool.and_eq_true] at h
  have hn := h.2
  unfold Xz at hn
  rw [h7] at hn
  simp only [show ((7 : Int) == 4) = false from rfl, show ((7 : Int) == 6) = false from rfl, show ((7 : Int) == 7) = true from rfl, cond_false, cond_true, N3] at hn
  by_cases a : x.Low ≥ -1048576
  · by_cases b : x.High ≥ x.Low
    · by_cases d : x.High ≤ 1048576
      · exact .nT a b d
      · simp [a, b, d] at hn
    · simp [a, b] at hn
  · simp [a] at hn
theorem J2g {c : F0} {n : Nat} (hc : H1p c n) {s : Option J0} (hs : SO s) {x : D0} (ho : K1a x) (hf : sform x = true) (hn : snumb x = true) (wt : WfS x.Then ∧ WfS x.Else) (ih : V1x c x.Then ∧ V1x c x.Else) (last : Bool) : Tot (E3 c s x last) := by
  obtain ⟨u1, u2, u3⟩ := S2d hf
  rw [E3]
  refine .ite (fun h0 => ?_) fun _ => .ite (fun h1 => ?_) fun _ => .ite (fun h2 => ?_) fun _ => .ite (fun h3 => ?_) fun _ => .ite (fun h5 => ?_) fun _ => .ite (fun h6 => ?_) fun _ => .ite (fun h7 => ?_) fun _ => .ite (fun _ => .ite (fun _ => .mk _) fun _ => .mk _) fun _ => .mk _
  · have e : x.Verb = 0 := by simpa using h0
    obtain ⟨r, g1, _, _⟩ := H1h hs ho.place (u1 (by rw [e]; rfl))
    rw [g1, ob]
    refine .ite (fun _ => .mk _) fun _ => ?_
    rw [X1v hs ho.value (u2 (by rw [e]; rfl)), ob]
    exact .mk _
  · have e : x.Verb = 1 := by simpa using h1
    exact (H2g hc hs ho (u1 (by rw [e]; rfl)) u3).bnd fun _ _ => .mk _
  · have e : x.Verb = 2 := by simpa using h2
    exact (W25 hc hs ho (u1 (by rw [e]; rfl))).bnd fun _ _ => .mk _
  · have e : x.Verb = 3 := by simpa using h3
    rw [W1v hs ho.value (u2 (by rw [e]; rfl)), ob]
    refine Tot.bnd (.ite (fun _ => .mk _) fun _ => .mk _) fun _ _ => .ite (fun _ => .mk _) fun _ => .mk _
  · have e : x.Verb = 5 := by simpa using h5
    rw [G28 hs ho.value (u2 (by rw [e]; rfl)), ob]
    refine .ite (fun _ => .mk _) fun _ => (ih.1 wt.1 s hs false).bnd fun _ _ => .ite (fun _ => .mk _) fun _ => (ih.2 wt.2 s hs false).bnd fun _ _ => .mk _
  · have e : x.Verb = 6 := by simpa using h6
    rw [G28 hs ho.value (u2 (by rw [e]; rfl)), ob]
    refine .ite (fun _ => .mk _) fun _ => (ih.1 wt.1 s hs false).bnd fun _ _ => .mk _
  · have e : x.Verb = 7 := by simpa using h7
    refine Tot.bnd ?_ fun _ _ => .mk _
    rw [B9, ob]
    refine Tot.bnd (.ite (fun _ => ?_) fun _ => .mk _) fun _ _ => .ite (fun _ => .mk _) fun _ => ?_
    · unfold Uf
      rw [E1p]
      exact .mk _
    · rw [show B5 s = some ([], s) from rfl, ob, J1j, ob, ob]
      exact (ih.1 wt.1 _ (hs.ext (MF.put (fun q hq => by cases hq) _ ⟨I2g hn e, okn _ _⟩)) false).bnd fun _ _ => .mk _
theorem W1x {c : F0} {n : Nat} (hc : H1p c n) {l : List D0} (hw : WfS l) (ih : ∀ x ∈ l, V1x c x.Then ∧ V1x c x.Else) {s : Option J0} (hs : SO s) (top : Bool) :
    ∀ (r : List D0) (k : Nat), l.drop k = r → ∃ z, U3 c s l top k = some z ∧ (z = 0 → ∀ x ∈ r, ∃ last, E3 c s x last = some 0)
  | [], k, h => by
    rw [U3, (I1 h).1]
    exact ⟨_, rfl, fun _ x hx => by cases hx⟩
  | x :: r, k, h => by
    obtain ⟨h1, h2, h3, h4, h5⟩ := V1 h
    have hl := hw.ok.len
    rw [U3, h1, h2]
    simp only [if_true, ob]
    obtain ⟨z, hz⟩ := J2g hc hs (hw.ok.mem h5) (T19 hw.form h5).1 (T19 hw.numb h5).1 (hw.kids h5) (ih x h5) (bif top then ((k : Int) == (IntKind.i64.wrap (((l).length : Int) - 1))) else false)
    rw [hz, ob]
    cases hc0 : z != 0 with
    | true => exact ⟨z, rfl, fun h0 => by rw [h0] at hc0; exact absurd hc0 (by simp)⟩
    | false =>
      have z0 : z = 0 := by simpa using hc0
      subst z0
      rw [if_neg (by simp), w1 (by omega)]
      obtain ⟨y, g1, g2⟩ := W1x hc hw ih hs top r (k + 1) h3
      refine ⟨y, g1, fun h0 q hq => ?_⟩
      cases hq with
      | head => exact ⟨_, hz⟩
      | tail _ hq => exact g2 h0 q hq
theorem P1z {c : F0} {n : Nat} (hc : H1p c n) (l : List D0) : V1x c l := by
  refine D0.inds (Q := V1x c) (fun l ih hw s hs top => ?_) l
  rw [D2]
  obtain ⟨z, g1, _⟩ := W1x hc hw ih hs top l 0 rfl
  exact ⟨z, g1⟩
theorem Y1v {c : F0} {n : Nat} (hc : H1p c n) {l : List D0} (hw : WfS l) {s : Option J0} (hs : SO s) (top : Bool) : ∃ z, D2 c s l top = some z ∧ (z = 0 → ∀ x ∈ l, ∃ last, E3 c s x last = some 0) := by
  rw [D2]
  exact W1x hc hw (fun x _ => ⟨P1z hc x.Then, P1z hc x.Else⟩) hs top l 0 rfl
def inK (d : B0) : Bool := bif (bif (d.Kind == 1) then true else (d.Kind == 2)) then true else (d.Kind == 3)
def inM (ds : List B0) (vs : Bool) : List B0 → Nat → List (Str × L0) → List (Str × L0)
  | [], _, m => m
  | d :: r, k, m => inM ds vs r (k + 1) (bif (bif inK d then true else (bif vs then (d.Kind == 4) else false)) then mpt d.Name ⟨(Kn (ds.take k) d.TypeV).1, inK d⟩ m else m)
theorem L1t {c : F0} (hc : CkP c.p) {i : Nat} (hi : i ≤ c.p.Decls.length) (vs : Bool) (x1 : List (Str × L0) × Option J0) :
    ∀ (r : List B0) (k : Nat) (m : List (Str × L0)), (c.p.Decls.take i).drop k = r → Q2 c vs m x1 (c.p.Decls.take i) k = some (some (.mk x1.2 (inM c.p.Decls vs r k m)))
  | [], k, m, h => by
    rw [Q2, (I1 h).1]
    rfl
  | d :: r, k, m, h => by
    obtain ⟨h1, h2, h3, h4, h5⟩ := V1 h
    have hl := hc.okp.decls.len
    have hk : k ≤ c.p.Decls.length := by simp at h4; omega
    rw [Q2, h1, h2]
    simp only [if_true, ob, inM]
    rw [L14 hc hk (hc.small d (List.mem_of_mem_take h5)).1]
    simp only [ob]
    rw [w1 (by omega)]
    show (if (bif inK d then true else (bif vs then (d.Kind == 4) else false)) = true then _ else _) = _
    cases (bif inK d then true else (bif vs then (d.Kind == 4) else false)) with
    | true => exact L1t hc hi vs x1 r (k + 1) _ h3
    | false => exact L1t hc hi vs x1 r (k + 1) m h3
def inS (p : K0) (i : Nat) (vs : Bool) : Option J0 := some (.mk none (inM p.Decls vs (p.Decls.take i) 0 []))
theorem Q1z {c : F0} (hc : CkP c.p) {i : Nat} (hi : i ≤ c.p.Decls.length) (vs : Bool) : E5 c i vs = some (inS c.p i vs) := by
  unfold E5
  rw [show B5 none = some ([], none) from rfl, ob, G2a hi, ob]
  exact L1t hc hi vs ([], none) (c.p.Decls.take i) 0 [] rfl
theorem T2d {p : K0} (hp : CkP p) (vs : Bool) : ∀ (r : List B0) (k : Nat) (m : List (Str × L0)), (∀ d ∈ r, d ∈ p.Decls) → MF m → MF (inM p.Decls vs r k m)
  | [], _, _, _, hm => hm
  | d :: r, k, m, hd, hm => by
    simp only [inM]
    refine T2d hp vs r (k + 1) _ (fun d hd' => hd d (List.mem_cons_of_mem _ hd')) ?_
    cases (bif inK d then true else (bif vs then (d.Kind == 4) else false)) with
    | true => exact hm.put _ (K14 (hp.dok.take k) (hp.small d (hd d List.mem_cons_self)).1)
    | false => exact hm
theorem U2d {p : K0} (hp : CkP p) (i : Nat) (vs : Bool) : SO (inS p i vs) :=
  SO.none.ext (T2d hp vs _ 0 [] (fun d hd => List.mem_of_mem_take hd) fun q hq => by cases hq)
theorem O24 {c : F0} (hc : CkP c.p) {i : Nat} (hi : i < c.p.Decls.length) (res : A0) (h6 : ∀ d, c.p.Decls[i]? = some d → d.Kind = 6) : Tot (S6 c i res) := by
  obtain ⟨d, g1, _, g3⟩ := Gy (l := c.p.Decls) hi
  obtain ⟨sm1, sm2, sm3⟩ := hc.small d g3
  have od := hc.okp.decls.mem g3
  obtain ⟨df, dn⟩ := hc.dec g3
  unfold S6
  rw [g1, ob, show B5 none = some ([], none) from rfl, ob]
  have hk6 : d.Kind = 6 := h6 d (by simpa using Rx g1)
  have bf : D0.alls sform d.Body = true ∧ d.Value.all N4 = true := by
    unfold dform at df
    simp only [Bool.and_eq_true] at df
    refine ⟨df.2, ?_⟩
    have := df.1.1.1.1.1.2
    rw [show uV2 d.Kind = true by rw [hk6]; rfl] at this
    exact this
  have bn : D0.alls snumb d.Body = true := by
    unfold dnumb at dn
    simp only [Bool.and_eq_true] at dn
    exact dn.2
  have end_ : ∀ m, MF m → Tot (Z1 c i res d m ([], none) (2 : Nat)) := fun m hm => by
    rw [Z1, show decide (((2 : Nat) : Int) < (([d.Params, d.Vars]).length : Int)) = false from rfl]
    simp only [Bool.false_eq_true, if_false, ob]
    have hs : SO (some (.mk none m)) := SO.none.ext hm
    have hcc : H1p (F0.mk c.p i true c.names) i := ⟨hc, rfl, by simp only; omega⟩
    obtain ⟨z, hz, _⟩ := Y1v hcc ⟨od.body, bf.1, bn⟩ hs false
    rw [hz, ob]
    refine .ite (fun _ => .mk _) fun _ => ?_
    rw [X1v hs od.value bf.2, ob]
    exact .mk _
  have inner : ∀ (l : List B0), (∀ v ∈ l, v.TypeV.bulk ≤ 1048576) → l.length ≤ BB → ∀ (v : Nat), v ≤ 5 → (∀ m, MF m → Tot (Z1 c i res d m ([], none) ((v + 1 : Nat) : Int))) →
      ∀ (r : List B0) (k : Nat) (m : List (Str × L0)), l.drop k = r → MF m → Tot (A3 c i res d m ([], none) v l k) := by
    intro l hl hb v hv hK r
    induction r with
    | nil =>
      intro k m h hm
      rw [A3, (I1 h).1]
      simp only [Bool.false_eq_true, if_false]
      rw [w1 (by unfold BB; omega)]
      exact hK m hm
    | cons y r ih =>
      intro k m h hm
      obtain ⟨e1, e2, e3, e4, e5⟩ := V1 h
      rw [A3, e1, e2]
      simp only [if_true, ob]
      rw [J1t hc (by omega) (hl y e5), ob]
      refine .ite (fun _ => .mk _) fun _ => ?_
      rw [w1 (by omega)]
      exact ih (k + 1) _ e3 (hm.put _ (K14 (hc.dok.take i) (hl y e5)))
  have one : ∀ m, MF m → Tot (Z1 c i res d m ([], none) (1 : Nat)) := fun m hm => by
    rw [Z1, show decide (((1 : Nat) : Int) < (([d.Params, d.Vars]).length : Int)) = true from rfl, show idx [d.Params, d.Vars] ((1 : Nat) : Int) = some d.Vars from rfl]
    simp only [if_true, ob]
    exact inner d.Vars sm3 od.vars.len 1 (by omega) end_ d.Vars 0 m rfl hm
  rw [show (0 : Int) = ((0 : Nat) : Int) from rfl, Z1, show decide (((0 : Nat) : Int) < (([d.Params, d.Vars]).length : Int)) = true from rfl, show idx [d.Params, d.Vars] ((0 : Nat) : Int) = some d.Params from rfl]
  simp only [if_true, ob]
  exact inner d.Params sm2 od.params.len 0 (by omega) one d.Params 0 [] rfl fun q hq => by cases hq
theorem K2g {c : F0} (hc : CkP c.p) {i : Nat} (hi : i < c.p.Decls.length) : Tot (C9 c i) := by
  obtain ⟨d, g1, _, g3⟩ := Gy (l := c.p.Decls) hi
  have sm1 := (hc.small d g3).1
  obtain ⟨df, dn⟩ := hc.dec g3
  unfold C9
  rw [g1, ob, J1t hc (by omega) sm1, ob]
  refine .ite (fun _ => .mk _) fun _ => .ite (fun h5 => ?_) fun _ => .ite (fun h6 => ?_) fun _ => .mk _
  · have e : d.Kind = 5 := by simpa using h5
    rw [show P7 (Kn (List.take i c.p.Decls) d.TypeV).1 = some (scT (Kn (List.take i c.p.Decls) d.TypeV).1) from rfl, ob]
    refine .ite (fun _ => .mk _) fun _ => ?_
    have vf : d.Value.all N4 = true := by
      unfold dform at df
      simp only [Bool.and_eq_true] at df
      have := df.1.1.1.1.1.2
      rw [show uV2 d.Kind = true by rw [e]; rfl] at this
      exact this
    rw [Q1z hc (by omega), ob, X1v (U2d hc i false) (hc.okp.decls.mem g3).value vf, ob]
    exact .mk _
  · have e : d.Kind = 6 := by simpa using h6
    refine (O24 hc hi _ fun d' hd' => ?_).bnd fun _ _ => .mk _
    have g0 : c.p.Decls[i]? = some d := by simpa using Rx g1
    cases Option.some.inj (hd'.symm.trans g0)
    exact e
theorem W2h (c : F0) (hc : OkP c.p) : Tot (A8 c) := by
  have hl := hc.decls.len
  have outer : ∀ (r : List B0) (k : Nat) (m : List (Str × Bool)), c.p.Decls.drop k = r → Tot (K2 c m k) := by
    intro r
    induction r with
    | nil =>
      intro k m h
      rw [K2, (I1 h).1]
      exact .mk _
    | cons d r ih =>
      intro k m h
      obtain ⟨e1, e2, e3, e4, e5⟩ := V1 h
      have od := hc.decls.mem e5
      rw [K2, e1, e2]
      simp only [if_true, ob]
      refine .ite (fun _ => .mk _) fun _ => ?_
      have end_ : ∀ m1 m2, Tot (A2 c m1 m2 k k d (2 : Nat)) := fun m1 m2 => by
        rw [A2, show decide (((2 : Nat) : Int) < (([d.Params, d.Vars]).length : Int)) = false from rfl]
        simp only [Bool.false_eq_true, if_false]
        rw [w1 (by omega)]
        exact ih (k + 1) m1 e3
      have inner : ∀ (l : List B0), l.length ≤ BB → ∀ (v : Nat), v ≤ 5 → (∀ m1 m2, Tot (A2 c m1 m2 k k d ((v + 1 : Nat) : Int))) →
          ∀ (q : List B0) (j : Nat) (m1 m2 : List (Str × Bool)), l.drop j = q → Tot (W2 c m1 m2 k k d v l j) := by
        intro l hb v hv hK q
        induction q with
        | nil =>
          intro j m1 m2 h
          rw [W2, (I1 h).1]
          simp only [Bool.false_eq_true, if_false]
          rw [w1 (by unfold BB; omega)]
          exact hK m1 m2
        | cons y q ih2 =>
          intro j m1 m2 h
          obtain ⟨f1, f2, f3, f4, f5⟩ := V1 h
          rw [W2, f1, f2]
          simp only [if_true, ob]
          refine .ite (fun _ => .mk _) fun _ => ?_
          rw [w1 (by omega)]
          exact ih2 (j + 1) _ _ f3
      have one : ∀ m1 m2, Tot (A2 c m1 m2 k k d (1 : Nat)) := fun m1 m2 => by
        rw [A2, show decide (((1 : Nat) : Int) < (([d.Params, d.Vars]).length : Int)) = true from rfl, show idx [d.Params, d.Vars] ((1 : Nat) : Int) = some d.Vars from rfl]
        simp only [if_true, ob]
        exact inner d.Vars od.vars.len 1 (by omega) end_ d.Vars 0 m1 m2 rfl
      rw [show (0 : Int) = ((0 : Nat) : Int) from rfl, A2, show decide (((0 : Nat) : Int) < (([d.Params, d.Vars]).length : Int)) = true from rfl, show idx [d.Params, d.Vars] ((0 : Nat) : Int) = some d.Params from rfl]
      simp only [if_true, ob]
      exact inner d.Params od.params.len 0 (by omega) one d.Params 0 _ _ rfl
  exact outer c.p.Decls 0 [] rfl
theorem V2d (a b : N0) : Tot (Za a b) := .mk _
theorem Z1v (n : Int) (b : N0) : Tot (Rg n b) := .mk _
theorem R1z (m : List (Str × N0)) (l : List D0) : OkS l → Tot (I2 l m) := by
  refine D0.inds (Q := fun l => OkS l → Tot (I2 l m)) (fun l ih ho => ?_) l
  have one : ∀ x ∈ l, Tot (I7 x m) := fun x hx => by
    have o1 := ho.mem hx
    rw [I7]
    refine .ite (fun _ => .mk _) fun _ => .ite (fun _ => .mk _) fun _ => .ite (fun _ => ?_) fun _ => .ite (fun _ => ?_) fun _ => .ite (fun _ => ?_) fun _ => .mk _
    · exact ((ih x hx).1 o1.thens).bnd fun _ _ => ((ih x hx).2 o1.elses).bnd fun _ _ => .mk _
    · exact ((ih x hx).1 o1.thens).bnd fun _ _ => (Z1v _ _).bnd fun _ _ => .mk _
    · exact ((ih x hx).1 o1.thens).bnd fun _ _ => (Z1v _ _).bnd fun _ _ => .mk _
  have main : ∀ (r : List D0) (k : Nat) (a : N0), l.drop k = r → Tot (V3 l m a k) := by
    intro r
    induction r with
    | nil =>
      intro k a h
      rw [V3, (I1 h).1]
      exact .mk _
    | cons x r ih2 =>
      intro k a h
      obtain ⟨e1, e2, e3, e4, e5⟩ := V1 h
      have := ho.len
      rw [V3, e1, e2]
      simp only [if_true, ob]
      refine (V2d _ _).bnd fun _ _ => (one x e5).bnd fun _ _ => (V2d _ _).bnd fun _ _ => ?_
      rw [w1 (by omega)]
      exact ih2 (k + 1) _ e3
  rw [I2]
  exact main l 0 _ rfl
theorem X25 (p : K0) (hp : OkP p) : Tot (Ue p) := by
  have hl := hp.decls.len
  have main : ∀ (r : List B0) (k : Nat) (m : List (Str × N0)), p.Decls.drop k = r → Tot (M4 p m k) := by
    intro r
    induction r with
    | nil =>
      intro k m h
      rw [M4, (I1 h).1]
      simp only [Bool.false_eq_true, if_false]
      exact (R1z m p.Body hp.body).bnd fun _ _ => .mk _
    | cons d r ih =>
      intro k m h
      obtain ⟨e1, e2, e3, e4, e5⟩ := V1 h
      rw [M4, e1, e2]
      simp only [if_true, ob]
      rw [w1 (by omega)]
      exact .ite (fun _ => (R1z m d.Body (hp.decls.mem e5).body).bnd fun _ _ => ih (k + 1) _ e3) fun _ => ih (k + 1) m e3
  exact main p.Decls 0 [] rfl
theorem L2g {t : A0} (ht : Ok t) : (Ox t).1.length ≤ BB := by
  unfold Ox
  cases hc : Ko t != 0 with
  | true => exact Nat.zero_le _
  | false =>
    have hv := (Val.of ht (by simpa using hc)).1
    have h1 := B1p t hv []
    have h2 := hv.cnt
    simp only [cond_false]
    unfold BB
    omega
theorem N2a {c : F0} (hc : CkP c.p) : Tot (R9 c) := by
  have hl := hc.okp.decls.len
  have main : ∀ (r : List B0) (k : Nat) (m : List (Int × Int)) (a b : Int), c.p.Decls.drop k = r → Tot (E2 c m a b k) := by
    intro r
    induction r with
    | nil =>
      intro k m a b h
      rw [E2, (I1 h).1]
      simp only [Bool.false_eq_true, if_false]
      refine (X25 c.p hc.okp).bnd fun _ _ => ?_
      simp only [ob]
      repeat' (first | exact Tot.mk _ | refine Tot.ite (fun _ => ?_) (fun _ => ?_))
    | cons d r ih =>
      intro k m a b h
      obtain ⟨e1, e2, e3, e4, e5⟩ := V1 h
      have sm := (hc.small d e5).1
      rw [E2, e1, e2]
      simp only [if_true, ob]
      have j2 : ∀ b', Tot (C4 c m d a b' k (Dt d.Kind m) k) := fun b' => by
        rw [C4, w1 (by omega)]
        refine .ite (fun _ => ih (k + 1) m a b' e3) fun _ => ?_
        have ho := (K14 (hc.dok.take k) sm).2
        rw [L14 hc (by omega) sm, ob, T1v _ ho, ob]
        have hb := L2g ho
        have inner : ∀ (q : List R0) (j : Nat) (n a' : Int), (Ox (Kn (c.p.Decls.take k) d.TypeV).1).1.drop j = q → Tot (Y2 c m d a' b' n (Dt d.Kind m) k (Ox (Kn (c.p.Decls.take k) d.TypeV).1) j) := by
          intro q
          induction q with
          | nil =>
            intro j n a' h
            rw [Y2, (I1 h).1]
            simp only [Bool.false_eq_true, if_false]
            rw [w1 (by omega)]
            exact .ite (fun _ => ih (k + 1) _ a' b' e3) fun _ => ih (k + 1) m a' b' e3
          | cons y q ih2 =>
            intro j n a' h
            obtain ⟨f1, f2, f3, f4, f5⟩ := V1 h
            rw [Y2, f1, f2]
            simp only [if_true, ob]
            rw [w1 (by omega)]
            exact .ite (fun _ => Tot.bnd (.mk _) fun _ _ => ih2 (j + 1) _ a' f3) fun _ => ih2 (j + 1) n a' f3
        exact inner _ 0 _ _ rfl
      exact .ite (fun _ => j2 _) fun _ => j2 b
  exact main c.p.Decls 0 _ 0 0 rfl
theorem K1j {p : K0} (x : F0) (hx : x.p = p) (hat : x.atV = (p.Decls.length : Int)) (hp : CkP p) :
    ∀ (r : List B0) (k : Nat), p.Decls.drop k = r → ∃ z, E6 p x k = some z ∧ (z.2 = 0 → ∀ s ∈ p.Body, ∃ last, E3 x (inS p p.Decls.length true) s last = some 0)
  | [], k, h => by
    subst hx
    have hw : WfS x.p.Body := ⟨hp.okp.body, hp.sform, hp.snumb⟩
    rw [E6, (I1 h).1]
    simp only [Bool.false_eq_true, if_false]
    rw [Q1z hp (Nat.le_refl _), ob]
    obtain ⟨z, g1, g2⟩ := Y1v ⟨hp, hat, Nat.le_refl _⟩ hw (U2d hp _ true) true
    rw [g1, ob]
    cases hz : z != 0 with
    | true => exact ⟨_, rfl, fun h0 => by simp only at h0; rw [h0] at hz; exact absurd hz (by simp)⟩
    | false =>
      obtain ⟨y, hy⟩ := N2a (c := x) hp
      rw [if_neg (by simp), hy, ob]
      exact ⟨_, rfl, fun _ => g2 (by simpa using hz)⟩
  | d :: r, k, h => by
    obtain ⟨h1, h2, h3, h4, h5⟩ := V1 h
    have hl := hp.okp.decls.len
    rw [E6, h1]
    simp only [if_true]
    obtain ⟨y, hy⟩ := K2g (c := x) (by rw [hx]; exact hp) (i := k) (by rw [hx]; exact h4)
    rw [hy, ob]
    cases hz : y != 0 with
    | true => exact ⟨_, rfl, fun h0 => by simp only at h0; rw [h0] at hz; exact absurd hz (by simp)⟩
    | false =>
      rw [if_neg (by simp), w1 (by omega)]
      exact K1j x hx hat hp r (k + 1) h3
theorem Y25 {p : K0} (hb : p.bulk ≤ 1048576) : ∃ z, R8 p = some z ∧ (z.2 = 0 → Q1e p = 0 ∧ ∃ x : F0, x.p = p ∧ ∀ s ∈ p.Body, ∃ last, E3 x (inS p p.Decls.length true) s last = some 0) := by
  unfold R8
  rw [S2f p (B2d hb), ob]
  cases hc : Q1e p != 0 with
  | true => exact ⟨_, rfl, fun h0 => by simp only at h0; rw [h0] at hc; exact absurd hc (by simp)⟩
  | false =>
    have hp := CkP.of hb (by simpa using hc)
    have hl := hp.okp.decls.len
    rw [if_neg (by simp)]
    have main : ∀ (r : List B0) (k : Nat) (m : List (Str × Bool)), p.Decls.drop k = r → ∃ z, F6 p m k = some z ∧ (z.2 = 0 → Q1e p = 0 ∧ ∃ x : F0, x.p = p ∧ ∀ s ∈ p.Body, ∃ last, E3 x (inS p p.Decls.length true) s last = some 0) := by
      intro r
      induction r with
      | nil =>
        intro k m h
        rw [F6, (I1 h).1]
        simp only [Bool.false_eq_true, if_false, ob]
        obtain ⟨y, hy⟩ := W2h (F0.mk p (p.Decls.length : Int) false m) hp.okp
        rw [hy, ob]
        cases decide (y ≥ 0) with
        | true => exact ⟨_, rfl, fun h0 => by simp at h0⟩
        | false =>
          obtain ⟨z, g1, g2⟩ := K1j (F0.mk p (p.Decls.length : Int) false m) rfl rfl hp p.Decls 0 rfl
          exact ⟨z, g1, fun h0 => ⟨by simpa using hc, _, rfl, g2 h0⟩⟩
      | cons d r ih =>
        intro k m h
        obtain ⟨h1, h2, h3, h4, _⟩ := V1 h
        rw [F6, h1, h2]
        simp only [if_true, ob]
        rw [w1 (by omega)]
        exact ih (k + 1) _ h3
    exact main p.Decls 0 [] rfl
end Go.Proofs.YtdkabnfphmmmnaaGreatDoor

namespace Go.Proofs.YtdkabnfphmmmnaaGreatDoor
theorem A1l (p : K0) (hb : p.bulk ≤ 1048576) (hk : Rq = some true) : Gs p = some true := by
  have := @Y25; have := @Z2c; have := @A2d; have := @K2a; have := @R25; have := @T1v; have := @G1z; have := R17
  exact foo
end Go.Proofs.YtdkabnfphmmmnaaGreatDoor

