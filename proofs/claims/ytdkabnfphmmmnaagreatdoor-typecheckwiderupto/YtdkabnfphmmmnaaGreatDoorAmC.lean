/- A part of the proof of TypecheckWider. -/
import Derived.Test.YtdkabnfphmmmnaaGreatDoorAmB
namespace Go.Am
def Sw (F : Fx) (L : List Oper) (o : Oper) (env : Env) (H : O0) (x : A) (H' : O0) : Prop :=
  ∀ env' K, (∀ t ∈ Oc L o, env' t = env t) → ∀ Q : Env → O0 → Prop, Q (put env' o.dst x) H' → L0 ⟨F.C, F.N, K⟩ L [o] env' H Q
def Tw (ps : List Nat) : Nat → O0 → O0
  | _, [] => []
  | n, x :: r => (bif ps.contains n then .dead else x) :: Tw ps (n + 1) r
def T4 (ps : List Nat) (H : O0) : O0 := Tw ps 0 H
theorem S1a {ps : List Nat} : ∀ {H : O0} {k n : Nat}, (Tw ps k H)[n]? = (H[n]?).map fun x => bif ps.contains (k + n) then Ob.dead else x
  | [], k, n => by simp [Tw]
  | x :: r, k, 0 => by simp [Tw]
  | x :: r, k, n + 1 => by
    simp only [Tw, List.getElem?_cons_succ]
    rw [S1a, show k + 1 + n = k + (n + 1) by omega]
theorem Mh {ps : List Nat} {H : O0} {n : Nat} : (T4 ps H)[n]? = (H[n]?).map fun x => bif ps.contains n then Ob.dead else x := by
  unfold T4; rw [S1a, Nat.zero_add]
theorem Gg {ps : List Nat} {H : O0} : (T4 ps H).length = H.length := by
  have key : ∀ (H : O0) (k : Nat), (Tw ps k H).length = H.length := by
    intro H
    induction H with
    | nil => intro k; rfl
    | cons x r ih => intro k; simp only [Tw, List.length_cons, ih]
  exact key H 0
theorem H1g {H : O0} : T4 [] H = H := by
  apply List.ext_getElem?
  intro n
  rw [Mh]
  cases H[n]? <;> simp
theorem G1c {GL : GT} {env env' : Env} {o : Oper} (h : ∀ y ∈ o.op.operands, ev GL env' y = ev GL env y) : Ui GL env' o = Ui GL env o := by
  unfold Ui
  split
  · rename_i fo as ts ho
    rw [ho] at h
    rw [h fo (by simp [Op.operands, Call.operands])]
    have : as.toList.map (ev GL env') = as.toList.map (ev GL env) := List.map_congr_left fun y hy => h y (by simp only [Op.operands, Call.operands, Array.mem_append]; exact .inr (by simpa using hy))
    rw [this]
  · rfl
theorem V1i {C : Cx} {L : List Oper} {env env' : Env} {o : Oper} (h : ∀ t ∈ Oc L o, env' t = env t) : Ai C L o env' = Ai C L o env := by
  unfold Ai
  rw [Ir h, G1c fun y hy => Az fun t ht => h t (by
    subst ht
    simp only [Oc, List.mem_append, List.mem_filterMap]
    exact .inl ⟨.tmp t, by simpa using hy, rfl⟩)]
theorem P10 : ∀ l : List A, Vn l = some l
  | [] => rfl
  | x :: r => by simp only [Vn, P10 r]
theorem L1d : ∀ l : List D, P18 l = some l
  | [] => rfl
  | x :: r => by simp only [P18, L1d r]
theorem S1p (x : A) : frc x = some x := by
  cases x with
  | d y => cases y <;> rfl
  | ptr cs => simp only [frc, L1d]
  | clo f cs => simp only [frc, P10]
  | agg cs => simp only [frc, P10]
  | tup cs => simp only [frc, P10]
  | _ => rfl
theorem M1d : ∀ l : List A, U18 l = some l
  | [] => rfl
  | x :: r => by simp only [U18, S1p, M1d r]
theorem N1d : ∀ H : O0, Bi H = some H
  | [] => rfl
  | x :: r => by
    have ih := N1d r
    cases x <;> simp only [Bi, M1d, ih]
theorem Sw.g {F : Fx} {L : List Oper} {o : Oper} {env : Env} {H H' : O0} {d : Option Nat} {g : FuncId} {xs : List A} {x y : A} (idx : List Nat) {cargs : List A} {cH cH' : O0} {un : List Nat}
    (hc : T0 F.C g cargs cH (Ret cH' x)) (h : Ai F.C L o env = some (d, g, xs)) (hx : Vl (Bc idx H.length) cargs = xs) (hi : J10 idx H.length = true) (hm : Fz H idx = T15 (Bc idx H.length) cH)
    (ht : I9 idx cH = []) (hr : frc (ren (Bc idx H.length) x) = some y) (hH : Bi (Th H idx (Bc idx H.length) (I9 idx cH) cH') = some H')
    (hun : (idx.all (fun p => !un.contains p) && un.all (fun p => Nat.blt p H.length) && Nat.ble idx.length cH'.length) = true) :
    ∀ ps : List Nat, (∀ p ∈ ps, p ∈ un) → Sw F L o env (T4 ps H) y (T4 ps H') := by
  simp only [Bool.and_eq_true, List.all_eq_true] at hun
  obtain ⟨⟨u1, u2⟩, u3⟩ := hun
  have u3 := Nat.le_of_ble_eq_true u3
  intro ps hps env' K he Q hq
  have h' := h
  rw [← V1i he] at h'
  have hd := (Mk h).2.2
  have hout : ∀ p ∈ idx, ps.contains p = false := fun p hp => by
    have := u1 p hp
    cases hb : ps.contains p with
    | false => rfl
    | true =>
      have h1 := hps p (by simpa using hb)
      have h2 : un.contains p = true := by simpa using h1
      rw [h2] at this; cases this
  have hsel : ∀ l : List Nat, (∀ p ∈ l, p ∈ idx) → Fz (T4 ps H) l = Fz H l := by
    intro l
    induction l with
    | nil => intro _; rfl
    | cons p r ih =>
      intro hl
      simp only [Fz]
      rw [ih fun q hq => hl q (List.mem_cons_of_mem _ hq), X3, X3, Mh]
      have := hout p (hl p List.mem_cons_self)
      cases H[p]? with
      | none => rfl
      | some z => simp only [Option.map_some, this, cond_false]
  have hmg : Th (T4 ps H) idx (Bc idx H.length) (I9 idx cH) cH' = T4 ps (Th H idx (Bc idx H.length) (I9 idx cH) cH') := by
    apply List.ext_getElem?
    intro n
    rw [L13 u3, Mh, Mh, L13 u3, Gg]
    by_cases hn : n < H.length
    · rw [if_pos hn, if_pos hn]
      cases hf : fnd idx n with
      | none =>
        simp only
        rw [ht]
        cases H[n]? with
        | none => rfl
        | some z =>
          simp only [Option.map_some]
          cases ps.contains n <;> simp only [cond_true, cond_false, dgO]
      | some i =>
        simp only
        have hin : n ∈ idx := List.mem_of_getElem? (Vo hf)
        cases cH'[i]? with
        | none => rfl
        | some z => simp only [Option.map_some, hout n hin, cond_false]
    · rw [if_neg hn, if_neg hn]
      have : ps.contains n = false := by
        cases hb : ps.contains n with
        | false => rfl
        | true =>
          have h1 := hps n (by simpa using hb)
          have := Nat.le_of_ble_eq_true (u2 n h1)
          exact absurd this hn
      cases cH'[idx.length + (n - H.length)]? with
      | none => rfl
      | some z => simp only [Option.map_some, this, cond_false]
  have hHe := Sn hH
  refine g' idx hc h' (by rw [Gg]; exact hx) (by rw [Gg]; exact hi) (by rw [Gg, hsel idx fun _ h => h]; exact hm) (by rw [Gg]; exact hr) (H' := T4 ps H') ?_ (L0.nil ?_)
  · rw [Gg, hmg, ← hHe]
    exact N1d _
  · rw [show (fun t => dg (I9 idx cH) (env' t)) = env' from by funext t; rw [ht, Z1f]]
    rw [← hd]
    exact hq
def loN (L : List Oper) (ls : List Nat) (j : Nat) : Nat := (ls.filter fun l => Oj L L.length j l).length
def hiN (L : List Oper) (ls : List Nat) (j : Nat) : Nat := (ls.filter fun l => !Oj L L.length l j).length
def Wl : List (Nat × Nat) → Nat → Option Nat
  | [], _ => none
  | q :: r, j => bif Nat.beq q.1 j then some q.2 else Wl r j
def unw (L : List Oper) : List (Nat × Nat) → Nat → List Nat
  | [], _ => []
  | q :: r, j => bif Oj L L.length j q.1 then unw L r j else q.2 :: unw L r j
def I1g (F : Fx) (L : List Oper) (o : Oper) (env : Env) (t : TypeId) (cs : List A) : Prop :=
  ∀ env' H M G w (a : Act), (∀ u ∈ Oc L o, env' u = env u) → St F.C F.N M G w env' H a → ∃ vs, Eg M G cs vs ∧ (execOp a.eval o).run F.C.P w = .ok (.value (.pointer (some ⟨w.heap.size, 0, none⟩))) (w.alloc (.cells vs t))
def AS (F : Fx) (L : List Oper) (ls : List Nat) (fs : List (Nat × Nat)) (Hs : List O0) : Nat → Nat → List Oper → Env → (Env → Prop) → Prop
  | _, _, [], env, Q => Q env
  | j, i, o :: r, env, Q =>
    (∃ d x, o.dst = d ∧ ls.contains j = false ∧ Wl fs j = none ∧ (∀ H ∈ Hs.drop (loN L ls j), ∀ ps : List Nat, (∀ p ∈ ps, p ∈ unw L fs j) → I10 F.C L o env (T4 ps H) x) ∧ AS F L ls fs Hs (j + 1) i r (put env d x) Q) ∨
    (∃ x H H', nth ls i = some j ∧ Wl fs j = none ∧ G1 L env o = some true ∧ nth Hs i = some H ∧ nth Hs (i + 1) = some H' ∧ (∀ ps : List Nat, (∀ p ∈ ps, p ∈ unw L fs j) → Sw F L o env (T4 ps H) x (T4 ps H')) ∧
      AS F L ls fs Hs (j + 1) (i + 1) r (put env o.dst x) Q) ∨
    (∃ t cs p, Wl fs j = some p ∧ ls.contains j = false ∧ G1 L env o = some true ∧ I1g F L o env t cs ∧ (∀ H ∈ Hs.take (hiN L ls j + 1), nth H p = some (.row cs t)) ∧ AS F L ls fs Hs (j + 1) i r (put env o.dst (.ref p 0)) Q)
def J1g (L : List Oper) (ls : List Nat) (n : Nat) : Bool :=
  (List.range ls.length).all fun i => (match nth ls i with | some j => Nat.blt j n | none => true) && (List.range i).all fun k => match nth ls i, nth ls k with | some j, some l => Nat.blt l j && Oj L L.length j l | _, _ => true
theorem W1i {L : List Oper} {ls : List Nat} {n : Nat} (h : J1g L ls n = true) : (∀ l ∈ ls, l < n) ∧ ∀ (s k j l : Nat), ls[s]? = some j → ls[k]? = some l → k < s → l < j ∧ Oj L L.length j l = true := by
  unfold J1g at h
  refine ⟨fun l hl => ?_, fun s k j l hs hk hlt => ?_⟩
  · obtain ⟨i, hi⟩ := List.getElem?_of_mem hl
    have h1 := List.all_eq_true.1 h i (List.mem_range.2 (List.getElem?_eq_some_iff.1 hi).1)
    simp only [Bool.and_eq_true, X3, hi] at h1
    exact Nat.le_of_ble_eq_true h1.1
  · have h1 := List.all_eq_true.1 h s (List.mem_range.2 (List.getElem?_eq_some_iff.1 hs).1)
    simp only [Bool.and_eq_true] at h1
    have h2 := List.all_eq_true.1 h1.2 k (List.mem_range.2 hlt)
    simp only [X3, hs, hk, Bool.and_eq_true] at h2
    exact ⟨Nat.le_of_ble_eq_true h2.1, h2.2⟩
def H9 (ls : List Nat) (listed : Array Bool) : Nat := (ls.filter fun l => listed.getD l false).length
theorem K1g {ls : List Nat} {listed : Array Bool} (h : ∀ l ∈ ls, listed.getD l false = true) : H9 ls listed = ls.length := by
  unfold H9
  rw [List.filter_eq_self.2 h]
theorem R1n {ls : List Nat} {listed : Array Bool} (h : ∀ l, listed.getD l false = false) : H9 ls listed = 0 := by
  unfold H9
  rw [List.filter_eq_nil_iff.2 fun l _ => by rw [h l]; simp]
  rfl
theorem X15 {ls : List Nat} {listed : Array Bool} {j : Nat} (h : j ∉ ls) : H9 ls (listed.setIfInBounds j true) = H9 ls listed := by
  unfold H9
  congr 1
  refine List.filter_congr fun l hl => ?_
  exact getD_set_ne false (fun e => h (by rw [e]; exact hl))
theorem U1j : ∀ {ls : List Nat} {listed : Array Bool} {s j : Nat}, ls[s]? = some j → (∀ (k l : Nat), k < s → ls[k]? = some l → listed.getD l false = true) → (∀ (k l : Nat), s ≤ k → ls[k]? = some l → listed.getD l false = false) → H9 ls listed = s
  | [], _, s, j, h, _, _ => by simp at h
  | x :: r, listed, 0, j, h, h1, h2 => by
    unfold H9
    rw [List.filter_eq_nil_iff.2 fun l hl => by
      obtain ⟨k, hk⟩ := List.getElem?_of_mem hl
      rw [h2 k l (Nat.zero_le _) hk]; simp]
    rfl
  | x :: r, listed, s + 1, j, h, h1, h2 => by
    have ih := U1j (ls := r) (listed := listed) (s := s) (j := j) (by simpa using h) (fun k l hk hl => h1 (k + 1) l (by omega) (by simpa using hl)) (fun k l hk hl => h2 (k + 1) l (by omega) (by simpa using hl))
    unfold H9 at ih ⊢
    have hx := h1 0 x (by omega) rfl
    rw [List.filter_cons, if_pos hx, List.length_cons, ih]
theorem L1g : ∀ {ls : List Nat} {listed : Array Bool} {s j : Nat}, (∀ (a b x y : Nat), ls[a]? = some x → ls[b]? = some y → a < b → x < y) → ls[s]? = some j → listed.getD j false = false → j < listed.size → H9 ls (listed.setIfInBounds j true) = H9 ls listed + 1
  | [], _, s, j, _, h, _, _ => by simp at h
  | x :: r, listed, 0, j, ho, h, hf, hj => by
    simp only [List.getElem?_cons_zero, Option.some.injEq] at h
    subst h
    have hr : x ∉ r := fun hm => by
      obtain ⟨k, hk⟩ := List.getElem?_of_mem hm
      have := ho 0 (k + 1) x x rfl (by simpa using hk) (by omega)
      omega
    have := X15 (listed := listed) hr
    unfold H9 at this ⊢
    rw [List.filter_cons, List.filter_cons, if_pos (by simp [hj]), if_neg (by rw [hf]; simp), List.length_cons, this]
  | x :: r, listed, s + 1, j, ho, h, hf, hj => by
    have hxj : x < j := ho 0 (s + 1) x j rfl h (by omega)
    have ih := L1g (ls := r) (listed := listed) (s := s) (j := j) (fun a b x y h1 h2 h3 => ho (a + 1) (b + 1) x y (by simpa using h1) (by simpa using h2) (by omega)) (by simpa using h) hf hj
    unfold H9 at ih ⊢
    have hx : (listed.setIfInBounds j true).getD x false = listed.getD x false := getD_set_ne false (by omega)
    rw [List.filter_cons, List.filter_cons, hx]
    split
    · rw [List.length_cons, List.length_cons, ih]
    · exact ih
def M1g (F : Fx) (L : List Oper) (ls : List Nat) (fs : List (Nat × Nat)) (Hs : List O0) (i : Nat) (o : Oper) (env : Env) (x : A) : Prop :=
  (ls.contains i = false ∧ Wl fs i = none ∧ ∀ H ∈ Hs.drop (loN L ls i), ∀ ps : List Nat, (∀ p ∈ ps, p ∈ unw L fs i) → I10 F.C L o env (T4 ps H) x) ∨
  (∃ s H H', ls[s]? = some i ∧ Wl fs i = none ∧ G1 L env o = some true ∧ Hs[s]? = some H ∧ Hs[s + 1]? = some H' ∧ ∀ ps : List Nat, (∀ p ∈ ps, p ∈ unw L fs i) → Sw F L o env (T4 ps H) x (T4 ps H')) ∨
  (∃ t cs p, Wl fs i = some p ∧ ls.contains i = false ∧ G1 L env o = some true ∧ I1g F L o env t cs ∧ (∀ H ∈ Hs.take (hiN L ls i + 1), nth H p = some (.row cs t)) ∧ x = .ref p 0)
theorem AS.outs {F : Fx} {L : List Oper} {ls : List Nat} {fs : List (Nat × Nat)} {Hs : List O0} {env : Env} {Q : Env → Prop} {n : Nat} (hn : n ≤ L.length) (h : AS F L ls fs Hs 0 0 (L.take n) env Q) :
    ∃ out : Nat → A, (∀ i o, i < n → L[i]? = some o → M1g F L ls fs Hs i o (K2 L env out (fun _ => true) i) (out i)) ∧ Q (K2 L env out (fun _ => true) n) := by
  have key : ∀ (m k s : Nat) (out0 : Nat → A), k + m = n → (∀ i o, i < k → L[i]? = some o → M1g F L ls fs Hs i o (K2 L env out0 (fun _ => true) i) (out0 i)) →
      AS F L ls fs Hs k s ((L.take n).drop k) (K2 L env out0 (fun _ => true) k) Q →
      ∃ out : Nat → A, (∀ i o, i < n → L[i]? = some o → M1g F L ls fs Hs i o (K2 L env out (fun _ => true) i) (out i)) ∧ Q (K2 L env out (fun _ => true) n) := by
    intro m
    induction m with
    | zero =>
      intro k s out0 hk h0 hq
      have : k = n := by omega
      subst this
      rw [List.drop_eq_nil_of_le (by simp; omega)] at hq
      exact ⟨out0, h0, hq⟩
    | succ m ih =>
      intro k s out0 hk h0 hq
      have hlt : k < n := by omega
      have hkl : k < L.length := by omega
      have e : (L.take n).drop k = L[k] :: (L.take n).drop (k + 1) := by
        rw [List.drop_eq_getElem_cons (by simp; omega)]
        simp
      rw [e] at hq
      have hko : L[k]? = some L[k] := List.getElem?_eq_getElem hkl
      have go : ∀ (x : A) (s' : Nat), M1g F L ls fs Hs k L[k] (K2 L env out0 (fun _ => true) k) x →
          AS F L ls fs Hs (k + 1) s' ((L.take n).drop (k + 1)) (put (K2 L env out0 (fun _ => true) k) (L[k]).dst x) Q →
          ∃ out : Nat → A, (∀ i o, i < n → L[i]? = some o → M1g F L ls fs Hs i o (K2 L env out (fun _ => true) i) (out i)) ∧ Q (K2 L env out (fun _ => true) n) := by
        intro x s' hst hrest
        let out1 : Nat → A := fun i => if i = k then x else out0 i
        have hsame : ∀ i, i ≤ k → K2 L env out1 (fun _ => true) i = K2 L env out0 (fun _ => true) i := by
          intro i hi
          funext t
          simp only [K2]
          cases hl : T5 L (fun _ => true) t i with
          | none => rfl
          | some j =>
            have := (Vs hl).1
            simp only [out1]
            rw [if_neg (by omega)]
        refine ih (k + 1) s' out1 (by omega) (fun i o hi ho => ?_) ?_
        · by_cases hik : i = k
          · subst hik
            rw [hko] at ho
            simp only [Option.some.injEq] at ho
            subst ho
            rw [hsame i (Nat.le_refl _)]
            simpa [out1] using hst
          · rw [hsame i (by omega)]
            have := h0 i o (by omega) ho
            simpa [out1, hik] using this
        · rw [E1a hko, hsame k (Nat.le_refl _)]
          simpa [out1] using hrest
      rcases hq with ⟨d, x, hd, hn1, hn2, hst, hrest⟩ | ⟨x, H, H', h1, hf, hw, h2, h3, hl, hrest⟩ | ⟨t, cs, p, hf, hn1, hw, hfl, hrow, hrest⟩
      · exact go x s (.inl ⟨hn1, hn2, hst⟩) (by rw [hd]; exact hrest)
      · rw [X3] at h1 h2 h3
        exact go x (s + 1) (.inr (.inl ⟨s, H, H', h1, hf, hw, h2, h3, hl⟩)) hrest
      · exact go _ s (.inr (.inr ⟨t, cs, p, hf, hn1, hw, hfl, hrow, rfl⟩)) hrest
  exact key n 0 0 (fun _ => .junk) (by omega) (fun i o hi => by omega) (by simpa [D1a] using h)
def unf (listed : Array Bool) : List (Nat × Nat) → List Nat
  | [] => []
  | q :: r => bif listed.getD q.1 false then unf listed r else q.2 :: unf listed r
theorem Bq {listed : Array Bool} {p : Nat} : ∀ {fs : List (Nat × Nat)}, p ∈ unf listed fs ↔ ∃ q ∈ fs, q.2 = p ∧ listed.getD q.1 false = false
  | [] => by simp [unf]
  | q :: r => by
    simp only [unf]
    cases hq : listed.getD q.1 false with
    | true =>
      simp only [cond_true, Bq (fs := r), List.mem_cons]
      constructor
      · rintro ⟨x, h1, h2⟩; exact ⟨x, .inr h1, h2⟩
      · rintro ⟨x, rfl | h1, h2⟩
        · rw [hq] at h2; cases h2.2
        · exact ⟨x, h1, h2⟩
    | false =>
      simp only [cond_false, List.mem_cons, Bq (fs := r)]
      constructor
      · rintro (rfl | ⟨x, h1, h2⟩)
        · exact ⟨q, .inl rfl, rfl, hq⟩
        · exact ⟨x, .inr h1, h2⟩
      · rintro ⟨x, rfl | h1, h2⟩
        · exact .inl h2.1.symm
        · exact .inr ⟨x, h1, h2⟩
theorem H1c {L : List Oper} {j p : Nat} : ∀ {fs : List (Nat × Nat)}, p ∈ unw L fs j ↔ ∃ q ∈ fs, q.2 = p ∧ Oj L L.length j q.1 = false
  | [] => by simp [unw]
  | q :: r => by
    simp only [unw]
    cases hq : Oj L L.length j q.1 with
    | true =>
      simp only [cond_true, H1c (fs := r), List.mem_cons]
      constructor
      · rintro ⟨x, h1, h2⟩; exact ⟨x, .inr h1, h2⟩
      · rintro ⟨x, rfl | h1, h2⟩
        · rw [hq] at h2; cases h2.2
        · exact ⟨x, h1, h2⟩
    | false =>
      simp only [cond_false, List.mem_cons, H1c (fs := r)]
      constructor
      · rintro (rfl | ⟨x, h1, h2⟩)
        · exact ⟨q, .inl rfl, rfl, hq⟩
        · exact ⟨x, .inr h1, h2⟩
      · rintro ⟨x, rfl | h1, h2⟩
        · exact .inl h2.1.symm
        · exact .inr ⟨x, h1, h2⟩
theorem O1d {j p : Nat} : ∀ {fs : List (Nat × Nat)}, Wl fs j = some p → (j, p) ∈ fs
  | [], h => by cases h
  | q :: r, h => by
    simp only [Wl] at h
    cases hq : Nat.beq q.1 j with
    | true =>
      rw [hq] at h
      obtain rfl := Nat.eq_of_beq_eq_true hq
      simp only [cond_true, Option.some.injEq] at h
      subst h
      exact List.mem_cons_self
    | false => rw [hq] at h; exact List.mem_cons_of_mem _ (O1d h)
theorem Y15 {j : Nat} : ∀ {fs : List (Nat × Nat)}, Wl fs j = none → ∀ q ∈ fs, q.1 ≠ j
  | [], _, q, hq => by cases hq
  | x :: r, h, q, hq => by
    simp only [Wl] at h
    cases hx : Nat.beq x.1 j with
    | true => rw [hx] at h; cases h
    | false =>
      rw [hx] at h
      cases hq with
      | head => exact fun e => by rw [e] at hx; simp at hx
      | tail _ hq => exact Y15 h q hq
theorem X18 {listed : Array Bool} {j : Nat} : ∀ {fs : List (Nat × Nat)}, (∀ q ∈ fs, q.1 ≠ j) → unf (listed.setIfInBounds j true) fs = unf listed fs
  | [], _ => rfl
  | q :: r, h => by
    simp only [unf]
    rw [getD_set_ne false (Ne.symm (h q List.mem_cons_self)), X18 fun x hx => h x (List.mem_cons_of_mem _ hx)]
def N1g (fs : List (Nat × Nat)) (n K N : Nat) : Bool :=
  D12 (fs.map (·.1)) && D12 (fs.map (·.2)) && fs.all fun q => Nat.blt q.1 n && Nat.ble K q.2 && Nat.blt q.2 N
theorem X1i {fs : List (Nat × Nat)} {n K N : Nat} (h : N1g fs n K N = true) : (∀ q ∈ fs, q.1 < n ∧ K ≤ q.2 ∧ q.2 < N) ∧ ∀ q ∈ fs, ∀ q' ∈ fs, (q.1 = q'.1 ∨ q.2 = q'.2) → q = q' := by
  simp only [N1g, Bool.and_eq_true, List.all_eq_true] at h
  obtain ⟨⟨h1, h2⟩, h3⟩ := h
  have k1 := Iw h1
  have k2 := Iw h2
  refine ⟨fun q hq => ⟨Nat.le_of_ble_eq_true (h3 q hq).1.1, Nat.le_of_ble_eq_true (h3 q hq).1.2, Nat.le_of_ble_eq_true (h3 q hq).2⟩, ?_⟩
  have inj : ∀ {f : Nat × Nat → Nat} {l : List (Nat × Nat)}, (l.map f).Nodup → ∀ q ∈ l, ∀ q' ∈ l, f q = f q' → q = q' := by
    intro f l
    induction l with
    | nil => intro _ q hq; cases hq
    | cons x r ih =>
      intro hnd q hq q' hq' he
      rw [List.map_cons, List.nodup_cons] at hnd
      cases hq with
      | head =>
        cases hq' with
        | head => rfl
        | tail _ hq' => exact absurd (by rw [he]; exact List.mem_map_of_mem hq') hnd.1
      | tail _ hq =>
        cases hq' with
        | head => exact absurd (by rw [← he]; exact List.mem_map_of_mem hq) hnd.1
        | tail _ hq' => exact ih hnd.2 q hq q' hq' he
  intro q hq q' hq' he
  rcases he with he | he
  · exact inj k1 q hq q' hq' he
  · exact inj k2 q hq q' hq' he
theorem St.fillRow {C : Cx} {N : Nat} {M : Mem} {G : Nat → Value} {w : World} {env : Env} {H : O0} {a : Act} (h : St C N M G w env H a) {dst : Option Nat} (hd : ∀ d, dst = some d → d < N) {cs : List A} {vs : Array Value} {elem : TypeId} {p : Nat}
    (hp : H[p]? = some .dead) (hg : G p = .tuple #[]) (hc : Eg M G cs vs) {H' : O0} (hl : H'.length = H.length) (hH' : ∀ n, H'[n]? = if n = p then some (.row cs elem) else H[n]?) :
    St C N M (V8 G p (.pointer (some ⟨w.heap.size, 0, none⟩))) (w.alloc (.cells vs elem)) (put env dst (.ref p 0)) H' (a.put dst (.pointer (some ⟨w.heap.size, 0, none⟩))) := by
  have hmono : ∀ {x : A} {v : Value}, W0 M G x v → W0 M (V8 G p (.pointer (some ⟨w.heap.size, 0, none⟩))) x v := fun hr => hr.mono (fun _ _ e => e) fun o hn => C3 (fun e => hr.names hn (by rw [e]; exact hg))
  obtain ⟨h1, h2, h3⟩ := Aq (fun t => hmono (h.env t)) h.size hd (x := .ref p 0) (v := .pointer (some ⟨w.heap.size, 0, none⟩)) (.ref V4)
  have hpl : p < H.length := (List.getElem?_eq_some_iff.1 hp).1
  refine ⟨h.good.alloc _, h.gl.ext h.hrel (Li Z7 _ _ _) (fun _ h => h.elim), ⟨fun o x ho => ?_, fun o o' x x' b ho ho' hb hb' => ?_, fun o ho => ?_⟩, h1, h2, h3.trans h.defers⟩
  · rw [hH'] at ho
    by_cases hop : o = p
    · rw [if_pos hop] at ho
      cases ho
      subst hop
      rw [V4]
      exact ⟨w.heap.size, vs, rfl, heap_alloc_new w _, hc.1.symm, hc.2.1, fun i x v a b => hmono (hc.2.2 i x v a b), fun off sp => by
        cases hM : M ⟨w.heap.size, off, sp⟩ with
        | none => rfl
        | some v => have := h.good.lt hM; simp at this⟩
    · rw [if_neg hop] at ho
      rw [C3 hop]
      have hob := h.hrel.obj o x ho
      have hk : Vf M G (w.alloc (.cells vs elem)) x (G o) := hob.keep (fun _ _ e => e) (fun b hb => heap_alloc_old w _ b (Sh hob hb)) (fun _ _ _ _ e => e)
      cases x with
      | dead => trivial
      | row cells e =>
        obtain ⟨b, us, g1, g2, g3, g4, g5, g6⟩ := hk
        exact ⟨b, us, g1, g2, g3, g4, fun i y v a c => hmono (g5 i y v a c), g6⟩
      | tok e sz => exact hk
      | map es =>
        obtain ⟨b, ms, cl, g1, g2, g3, g4, g5⟩ := hk
        exact ⟨b, ms, cl, g1, g2, g3, fun i k cs e a c => ⟨(g4 i k cs e a c).1, hmono (g4 i k cs e a c).2⟩, g5⟩
      | bld o' e =>
        obtain ⟨b, v0, g1, g2, g3, g4, g5⟩ := hk
        have ho' : o' ≠ p := fun e => g4 (by rw [e]; exact hg)
        exact ⟨b, v0, g1, by rw [C3 ho']; exact g2, g3, by rw [C3 ho']; exact g4, g5⟩
      | buf e sz => exact hk
  · have key : ∀ (o : Nat) x b, H'[o]? = some x → blk x (V8 G p (.pointer (some ⟨w.heap.size, 0, none⟩)) o) = some b → (o ≠ p ∧ H[o]? = some x ∧ blk x (G o) = some b ∧ b < w.heap.size) ∨ (o = p ∧ b = w.heap.size) := by
      intro o x b ho hb
      rw [hH'] at ho
      by_cases hop : o = p
      · rw [if_pos hop] at ho
        cases ho
        subst hop
        rw [V4] at hb
        simp [blk] at hb
        exact .inr ⟨rfl, hb.symm⟩
      · rw [if_neg hop] at ho
        rw [C3 hop] at hb
        exact .inl ⟨hop, ho, hb, Sh (h.hrel.obj o x ho) hb⟩
    rcases key o x b ho hb with ⟨q1, q2, q3, q4⟩ | ⟨q1, q2⟩ <;> rcases key o' x' b ho' hb' with ⟨p1, p2, p3, p4⟩ | ⟨p1, p2⟩
    · exact h.hrel.apart o o' x x' b q2 p2 q3 p3
    · omega
    · omega
    · omega
  · rw [hl] at ho
    rw [C3 (by omega)]
    exact h.hrel.fresh o ho
theorem N3.fillRow {fr : Fr} {M : Mem} {G : Nat → Value} {w : World} {H : O0} (h : N3 fr M G w H) {cs : List A} {vs : Array Value} {elem : TypeId} {p : Nat} (hK : fr.H0.length ≤ p) (hpl : p < H.length) {H' : O0} (hl : H'.length = H.length)
    (hH' : ∀ n, H'[n]? = if n = p then some (.row cs elem) else H[n]?) : N3 fr M (V8 G p (.pointer (some ⟨w.heap.size, 0, none⟩))) (w.alloc (.cells vs elem)) H' := by
  have hne : ∀ {o : Nat} {x : Ob}, fr.H0[o]? = some x → o ≠ p := fun ho e => by have := (List.getElem?_eq_some_iff.1 ho).1; omega
  refine ⟨h.ext.trans (Li Z7 _ _ _) (fun _ h => h.elim), fun b hb => ?_, by rw [hl]; exact h.len, fun o x ho ht => ?_, fun o x y ho ht hy => ?_⟩
  · obtain ⟨o, x, ho, hx⟩ := hb
    rw [hH'] at ho
    by_cases hop : o = p
    · rw [if_pos hop] at ho
      cases ho
      subst hop
      rw [V4] at hx
      simp [blk] at hx
      subst hx
      exact .inr h.ext.size
    · rw [if_neg hop] at ho
      rw [C3 hop] at hx
      exact h.own b ⟨o, x, ho, hx⟩
  · rw [C3 (hne ho)]
    exact h.keep o x ho ht
  · rw [hH', if_neg (hne ho)] at hy
    exact h.kind o x y ho ht hy
theorem St.pad {C : Cx} {N : Nat} {M : Mem} {G : Nat → Value} {w : World} {env : Env} {H : O0} {a : Act} (h : St C N M G w env H a) (k : Nat) : St C N M G w env (H ++ List.replicate k .dead) a := by
  have get : ∀ (o : Nat) x, (H ++ List.replicate k Ob.dead)[o]? = some x → H[o]? = some x ∨ x = .dead := fun o x ho => by
    by_cases hlt : o < H.length
    · rw [List.getElem?_append_left hlt] at ho; exact .inl ho
    · rw [List.getElem?_append_right (by omega), List.getElem?_replicate] at ho
      split at ho
      · cases ho; exact .inr rfl
      · cases ho
  refine ⟨h.good, h.gl, ⟨fun o x ho => ?_, fun o o' x x' b ho ho' hb hb' => ?_, fun o ho => h.hrel.fresh o (by simp at ho; omega)⟩, h.env, h.size, h.defers⟩
  · rcases get o x ho with h1 | rfl
    · exact h.hrel.obj o x h1
    · trivial
  · rcases get o x ho with h1 | rfl
    · rcases get o' x' ho' with h2 | rfl
      · exact h.hrel.apart o o' x x' b h1 h2 hb hb'
      · simp [blk] at hb'
    · simp [blk] at hb
theorem N3.pad {fr : Fr} {M : Mem} {G : Nat → Value} {w : World} {H : O0} (h : N3 fr M G w H) (k : Nat) : N3 fr M G w (H ++ List.replicate k .dead) := by
  refine ⟨h.ext, fun b hb => ?_, by simp; have := h.len; omega, h.keep, fun o x y ho ht hy => ?_⟩
  · obtain ⟨o, x, ho, hx⟩ := hb
    by_cases hlt : o < H.length
    · rw [List.getElem?_append_left hlt] at ho; exact h.own b ⟨o, x, ho, hx⟩
    · rw [List.getElem?_append_right (by omega), List.getElem?_replicate] at ho
      split at ho
      · cases ho; simp [blk] at hx
      · cases ho
  · have hlt : o < H.length := Nat.lt_of_lt_of_le (List.getElem?_eq_some_iff.1 ho).1 h.len
    rw [List.getElem?_append_left hlt] at hy
    exact h.kind o x y ho ht hy
theorem N3.step {fr : Fr} {M M' : Mem} {G G' : Nat → Value} {w w' : World} {H H' : O0} (h : N3 fr M G w H) (h' : N3 ⟨H, G, M, w⟩ M' G' w' H') : N3 fr M' G' w' H' := by
  refine ⟨h.ext.trans h'.ext (fun b hb => h.own b hb), fun b hb => ?_, Nat.le_trans h.len h'.len, fun o x ho ht => ?_, fun o x y ho ht hy => ?_⟩
  · rcases h'.own b hb with h1 | h1
    · exact h.own b h1
    · exact .inr (Nat.le_trans h.ext.size h1)
  · have hlt : o < H.length := Nat.lt_of_lt_of_le (List.getElem?_eq_some_iff.1 ho).1 h.len
    have hz := List.getElem?_eq_getElem hlt
    exact (h'.keep o _ hz (h.kind o x _ ho ht hz)).trans (h.keep o x ho ht)
  · have hlt : o < H.length := Nat.lt_of_lt_of_le (List.getElem?_eq_some_iff.1 ho).1 h.len
    have hz := List.getElem?_eq_getElem hlt
    exact h'.kind o _ y hz (h.kind o x _ ho ht hz) hy
theorem N3.refl {M : Mem} {G : Nat → Value} {w : World} {H : O0} : N3 ⟨H, G, M, w⟩ M G w H :=
  ⟨Ext.refl _ _ _, fun _ hb => .inl hb, Nat.le_refl _, fun _ _ _ _ => rfl, fun o x y ho ht hy => by
    have : x = y := Option.some.inj (ho.symm.trans hy)
    rwa [← this]⟩
theorem P1d {listed : Array Bool} {fs : List (Nat × Nat)} (h : ∀ q ∈ fs, listed.getD q.1 false = true) : unf listed fs = [] := by
  rw [List.eq_nil_iff_forall_not_mem]
  intro p hp
  obtain ⟨q, hq, _, hf⟩ := Bq.1 hp
  rw [h q hq] at hf
  cases hf
theorem AEx.drawL {F : Fx} (hC : W1 F.C) {id : Nat} {L : List Oper} {env : Env} {H : O0} {Q : Po} (n : Nat) (ls : List Nat) (fs : List (Nat × Nat)) (Hs : List O0) (hd : L.all (Hh F.N) = true) (hok : N15 L n = true) (hnl : Nat.ble n L.length = true) (hlo : J1g L ls n = true)
    {H0 : O0} (hH0 : nth Hs 0 = some H0) (hfo : N1g fs n H.length H0.length = true) (hpad : T4 (fs.map (·.2)) H0 = H ++ List.replicate fs.length .dead) (hll : (Hs.all fun K => Nat.ble H0.length K.length) = true) (hHl : Hs.length = ls.length + 1) {Hm : O0} (hHm : nth Hs ls.length = some Hm)
    (h : AS F L ls fs Hs 0 0 (L.take n) env (fun env' => L0 F L (L.drop n) env' Hm (Hr Q))) : AEx F (.region id L.toArray true) env H Q := by
  obtain ⟨hfl, hfu⟩ := X1i hfo
  have hn := Nat.le_of_ble_eq_true hnl
  have hdst : ∀ (i : Nat) o, L[i]? = some o → Hh F.N o = true := fun i o ho => List.all_eq_true.1 hd o (List.mem_of_getElem? ho)
  obtain ⟨out, houts, hQ⟩ := h.outs hn
  obtain ⟨hback, hwait⟩ := B18 hok
  obtain ⟨hln, hlw⟩ := W1i hlo
  let Hf : Nat → O0 := fun k => (Hs[k]?).getD []
  have hHf : ∀ k, k ≤ ls.length → Hs[k]? = some (Hf k) := fun k hk => by
    have hlt : k < Hs.length := by omega
    simp only [Hf, List.getElem?_eq_getElem hlt, Option.getD_some]
  rw [X3] at hH0 hHm
  have hf0 : Hf 0 = H0 := by simp only [Hf, hH0, Option.getD_some]
  have hfm : Hf ls.length = Hm := by simp only [Hf, hHm, Option.getD_some]
  have hlen : ∀ k, k ≤ ls.length → ∀ p, p < H0.length → p < (Hf k).length := fun k hk p hp => by
    have := Nat.le_of_ble_eq_true (List.all_eq_true.1 hll _ (List.mem_of_getElem? (hHf k hk)))
    omega
  intro fr M G w act hK hs hsi
  have hbase := hsi.len
  let Qw : Exit → Act → World → Prop := Fin F fr Q
  have hsz : L.toArray.size = L.length := by simp
  have tail : ∀ (m k : Nat) (listed : Array Bool) (a : Act) (w : World), k + m = L.length → n ≤ k → F17 L n listed → (∀ i, i < k → listed.getD i false = true) → (∀ i, k ≤ i → i < L.length → listed.getD i true = false) →
      wpList F.C.P L.toArray Qw (L.drop k) a w → wpAny F.C.P .any L.toArray Qw m listed a w := by
    intro m
    induction m with
    | zero =>
      intro k listed a w hk _ hD h1 _ hw
      have hk' : k = L.length := by omega
      have hready : Region.ready .any L.toArray listed = [] := by
        rw [List.eq_nil_iff_forall_not_mem]
        intro j hj
        obtain ⟨hu, o, ho, _⟩ := mem_ready.1 hj
        have hj' : j < L.length := by simpa using (Array.getElem?_eq_some_iff.1 ho).1
        have := h1 j (by omega)
        rw [Od hu] at this
        cases this
      rw [List.drop_eq_nil_of_le (by omega)] at hw
      exact ⟨hready, hw⟩
    | succ m ih =>
      intro k listed a w hk hnk hD h1 h2 hw
      have hkl : k < L.length := by omega
      have hko : L[k]? = some L[k] := List.getElem?_eq_getElem hkl
      have hkr : k ∈ Region.ready .any L.toArray listed := mem_ready.2 ⟨h2 k (Nat.le_refl _) hkl, L[k], (by simp [hkl]), fun e he hb => h1 e.on (hback k _ hko e he hb)⟩
      refine ⟨fun h0 => (by rw [h0] at hkr; cases hkr), fun j hj => ?_⟩
      obtain ⟨hu, o, ho, hall⟩ := mem_ready.1 hj
      have hjl : j < L.length := by simpa using (Array.getElem?_eq_some_iff.1 ho).1
      have hjk : j = k := by
        rcases Nat.lt_trichotomy j k with hlt | he | hgt
        · have := h1 j hlt; rw [Od hu] at this; cases this
        · exact he
        · have hw' := hwait k j hgt hjl (.inr (by omega))
          have := Pg hD.closed (by simpa using ho) (fun e he hb => hall e he hb) L.length k hw'
          rw [Od (h2 k (Nat.le_refl _) hkl)] at this
          cases this
      subst hjk
      rw [List.drop_eq_getElem_cons hkl] at hw
      have hwp : wpOp F.C.P L.toArray Qw j (wpList F.C.P L.toArray Qw (L.drop (j + 1))) a w := by
        unfold wpOp
        simp only [List.getElem?_toArray, hko]
        exact hw
      refine wpOp_mono (fun a' w' hw' => ih (j + 1) _ a' w' (by omega) (by omega) ⟨by simp [hD.size], fun i o' ho' hl e he hb => ?_⟩ (fun i hi => ?_) (fun i hi hi' => ?_) hw') hwp
      · by_cases hij : j = i
        · subst hij
          have : o' = o := Option.some.inj (ho'.symm.trans (by simpa using ho))
          subst this
          exact getD_set_true (hall e he hb)
        · rw [getD_set_ne false hij] at hl
          exact getD_set_true (hD.closed i o' ho' hl e he hb)
      · by_cases hij : j = i
        · subst hij
          simp [hD.size, hkl]
        · rw [getD_set_ne false hij]
          exact h1 i (by omega)
      · rw [getD_set_ne true (by omega)]
        exact h2 i (by omega) hi'
  have head : ∀ (m : Nat) (listed : Array Bool) (M : Mem) (G : Nat → Value) (w : World) (a : Act), listed.toList.count true + m = L.length → F17 L n listed → (∀ i, n ≤ i → i < L.length → listed.getD i true = false) →
      (∀ p ∈ unf listed fs, G p = .tuple #[]) → St F.C F.N M G w (K2 L env out (fun i => listed.getD i false) n) (T4 (unf listed fs) (Hf (H9 ls listed))) a → N3 fr M G w (T4 (unf listed fs) (Hf (H9 ls listed))) → wpAny F.C.P .any L.toArray Qw m listed a w := by
    intro m
    induction m with
    | zero =>
      intro listed M G w a hm hD htl hem hs hsi
      have hall := F1a hD.size (by omega)
      have hnL : n = L.length := by
        rcases Nat.lt_or_ge n L.length with h' | h'
        · have := hall n h'
          rw [Od (htl n (Nat.le_refl _) h')] at this
          cases this
        · omega
      have henv : K2 L env out (fun i => listed.getD i false) n = K2 L env out (fun _ => true) n := by
        funext t
        simp only [K2]
        rw [Ca fun i hi _ => hall i (by omega)]
      have hc : H9 ls listed = ls.length := K1g fun l hl => hall l (by have := hln l hl; omega)
      rw [hc, hfm, P1d fun q hq => hall q.1 (by have := (hfl q hq).1; omega), H1g] at hs hsi
      rw [henv] at hs
      refine tail 0 n listed a w (by omega) (Nat.le_refl _) hD (fun i hi => hall i (by omega)) (fun i h1 h2 => by omega) ?_
      exact hQ fr M G w a Qw hK (fun o ho => List.all_eq_true.1 hd o (List.mem_of_mem_drop ho)) hs hsi fun env' H' M' G' w' a' hq hs' hsi' => ⟨.normal, _, _, _, _, rfl, hq, hs', hsi'⟩
    | succ m ih =>
      intro listed M G w a hm hD htl hem hs hsi
      by_cases hdone : ∀ i, i < n → listed.getD i false = true
      ·
        have henv : K2 L env out (fun i => listed.getD i false) n = K2 L env out (fun _ => true) n := by
          funext t
          simp only [K2]
          rw [Ca fun i hi _ => hdone i hi]
        have hc : H9 ls listed = ls.length := K1g fun l hl => hdone l (hln l hl)
        rw [hc, hfm, P1d fun q hq => hdone q.1 (hfl q hq).1, H1g] at hs hsi
        rw [henv] at hs
        have hcount : listed.toList.count true = n := by
          have hl : listed.toList = List.replicate n true ++ List.replicate (L.length - n) false := by
            apply List.ext_getElem?
            intro i
            by_cases hi : i < n
            · have hv := hdone i hi
              have hi' : i < listed.size := by rw [hD.size]; omega
              rw [List.getElem?_append_left (by simpa using hi), List.getElem?_replicate, if_pos hi, Array.getElem?_toList]
              simpa [hi'] using hv
            · by_cases hi2 : i < L.length
              · have hv := htl i (by omega) hi2
                have hi' : i < listed.size := by rw [hD.size]; omega
                rw [List.getElem?_append_right (by simp; omega), List.getElem?_replicate, if_pos (by simp; omega), Array.getElem?_toList]
                simpa [hi'] using hv
              · rw [List.getElem?_eq_none (by simp [hD.size]; omega), List.getElem?_eq_none (by simp; omega)]
          rw [hl, List.count_append, List.count_replicate, List.count_replicate]
          simp
        refine tail (m + 1) n listed a w (by omega) (Nat.le_refl _) hD hdone htl ?_
        exact hQ fr M G w a Qw hK (fun o ho => List.all_eq_true.1 hd o (List.mem_of_mem_drop ho)) hs hsi fun env' H' M' G' w' a' hq hs' hsi' => ⟨.normal, _, _, _, _, rfl, hq, hs', hsi'⟩
      ·
        have hex : ∃ i, i < n ∧ listed.getD i false = false ∧ ∀ k, k < i → listed.getD k false = true := by
          have : ∃ i, i < n ∧ listed.getD i false = false := by
            rcases Classical.em (∃ i, i < n ∧ listed.getD i false = false) with h' | h'
            · exact h'
            · refine absurd (fun i hi => ?_) hdone
              cases hv : listed.getD i false with
              | true => rfl
              | false => exact absurd ⟨i, hi, hv⟩ h'
          obtain ⟨i, hi⟩ := this
          induction i using Nat.strongRecOn with
          | _ i ihi =>
            by_cases hk : ∃ k, k < i ∧ listed.getD k false = false
            · obtain ⟨k, hk1, hk2⟩ := hk
              exact ihi k hk1 ⟨by omega, hk2⟩
            · refine ⟨i, hi.1, hi.2, fun k hk' => ?_⟩
              cases hv : listed.getD k false with
              | true => rfl
              | false => exact absurd ⟨k, hk', hv⟩ hk
        obtain ⟨i0, hi0, hu0, hbelow⟩ := hex
        have hi0l : i0 < L.length := by omega
        have hi0o : L[i0]? = some L[i0] := List.getElem?_eq_getElem hi0l
        have hu0' : listed.getD i0 true = false := by
          have hi' : i0 < listed.size := by rw [hD.size]; omega
          simpa [hi'] using hu0
        have hr0 : i0 ∈ Region.ready .any L.toArray listed := mem_ready.2 ⟨hu0', L[i0], (by simp [hi0l]), fun e he hb => hbelow e.on (hback i0 _ hi0o e he hb)⟩
        refine ⟨fun h0 => (by rw [h0] at hr0; cases hr0), fun j hj => ?_⟩
        obtain ⟨hu, o, ho, hall⟩ := mem_ready.1 hj
        have hoL : L[j]? = some o := by simpa using ho
        have hjl : j < L.length := (List.getElem?_eq_some_iff.1 hoL).1
        have hjn : j < n := by
          rcases Nat.lt_or_ge j n with h' | h'
          · exact h'
          · have hw' := hwait i0 j (by omega) hjl (.inr h')
            have := Pg hD.closed hoL (fun e he hb => hall e he hb) L.length i0 hw'
            rw [hu0] at this
            cases this
        have hclash : ∀ k, k ≠ j → k < L.length → (Og L k j = true ∨ Og L j k = true) → (listed.getD k false = true ↔ k < j) := by
          intro k hkj hkl hc
          rcases Nat.lt_or_ge k j with hlt | hge
          · refine ⟨fun _ => hlt, fun _ => ?_⟩
            have hcc : Og L k j = true := by
              rcases hc with hc | hc
              · exact hc
              · exact Jy hc
            exact Pg hD.closed hoL (fun e he hb => hall e he hb) L.length k (hwait k j hlt hjl (.inl hcc))
          · refine ⟨fun hl => ?_, fun h' => by omega⟩
            have hcc : Og L j k = true := by
              rcases hc with hc | hc
              · exact Jy hc
              · exact hc
            have := Ul hD.closed L.length k j (hwait j k (by omega) hkl (.inl hcc)) hl
            rw [Od hu] at this
            cases this
        have hread : ∀ t ∈ Oc L o, K2 L env out (fun i => listed.getD i false) n t = K2 L env out (fun _ => true) j t := by
          intro t ht
          have hw : ∀ k, k ≠ j → (L[k]?).bind (·.dst) = some t → Og L k j = true := by
            intro k hkj hk
            unfold Og
            simp only [X3, hoL]
            cases hk' : L[k]? with
            | none => rw [hk'] at hk; cases hk
            | some p =>
              rw [hk'] at hk
              simp only [Option.bind_some] at hk
              simp only [hk]
              have : (Oc L o).contains t = true := by simpa using ht
              rw [this]
              simp
          have hlt : ∀ k, (L[k]?).bind (·.dst) = some t → k < L.length := by
            intro k hk
            cases hk' : L[k]? with
            | none => rw [hk'] at hk; cases hk
            | some p => exact (List.getElem?_eq_some_iff.1 hk').1
          simp only [K2]
          have e1 : T5 L (fun i => listed.getD i false) t n = T5 L (fun i => decide (i < j)) t n := Ca fun k hk hkd => by
            by_cases hkj : k = j
            · subst hkj
              simp [Od hu]
            · have := hclash k hkj (hlt k hkd) (.inl (hw k hkj hkd))
              cases hb : listed.getD k false with
              | true => simp [this.1 hb]
              | false =>
                have : ¬ k < j := fun h' => by rw [this.2 h'] at hb; cases hb
                simp [this]
          have e2 : T5 L (fun i => decide (i < j)) t n = T5 L (fun i => decide (i < j)) t j := Pw (by omega) fun k h1 h2 _ => by simp; omega
          have e3 : T5 L (fun i => decide (i < j)) t j = T5 L (fun _ => true) t j := Ca fun k hk _ => by simp [hk]
          rw [e1, e2, e3]
        have hafter : K2 L env out (fun i => (listed.setIfInBounds j true).getD i false) n = put (K2 L env out (fun i => listed.getD i false) n) o.dst (out j) := by
          have hjs : j < listed.size := by rw [hD.size]; exact hjl
          have Vc : ∀ k, (listed.setIfInBounds j true).getD k false = (decide (k = j) || listed.getD k false) := by
            intro k
            by_cases hk : j = k
            · subst hk; simp [hjs]
            · rw [getD_set_ne false hk]
              have : ¬ k = j := fun h' => hk h'.symm
              simp [this]
          funext t
          simp only [K2, Vc]
          cases hdo : o.dst with
          | none =>
            have : T5 L (fun i => decide (i = j) || listed.getD i false) t n = T5 L (fun i => listed.getD i false) t n := Ca fun k hk hkd => by
              have : k ≠ j := fun h' => by subst h'; rw [hoL] at hkd; simp [hdo] at hkd
              simp [this]
            rw [this]
            rfl
          | some d =>
            simp only [put, upd]
            by_cases htd : t = d
            · subst htd
              have hbt : Nat.beq t t = true := by simp
              rw [hbt, _root_.cond_true]
              have e1 : T5 L (fun i => decide (i = j) || listed.getD i false) t n = T5 L (fun i => decide (i = j) || listed.getD i false) t (j + 1) := Pw (by omega) fun k h1 h2 hkd => by
                have hkj : k ≠ j := by omega
                have hcl : Og L k j = true := by
                  unfold Og
                  cases hk' : L[k]? with
                  | none => rw [hk'] at hkd; cases hkd
                  | some p =>
                    rw [hk'] at hkd
                    simp only [Option.bind_some] at hkd
                    simp only [X3, hoL, hk', hkd, hdo]
                    simp
                have := hclash k hkj (by omega) (.inl hcl)
                cases hb : listed.getD k false with
                | false => simp [hkj]
                | true => have := this.1 hb; omega
              rw [e1]
              simp [T5, hoL, hdo]
            · have : Nat.beq t d = false := by
                cases hb : Nat.beq t d with
                | false => rfl
                | true => exact absurd (Nat.eq_of_beq_eq_true hb) htd
              rw [this, _root_.cond_false]
              have : T5 L (fun i => decide (i = j) || listed.getD i false) t n = T5 L (fun i => listed.getD i false) t n := Ca fun k hk hkd => by
                have : k ≠ j := fun h' => by subst h'; rw [hoL] at hkd; simp [hdo] at hkd; exact htd hkd.symm
                simp [this]
              rw [this]
              rfl
        have hD' : F17 L n (listed.setIfInBounds j true) := ⟨by simp [hD.size], fun i o' ho' hl e he hb => by
          by_cases hij : j = i
          · subst hij
            have : o' = o := Option.some.inj (ho'.symm.trans hoL)
            subst this
            exact getD_set_true (hall e he hb)
          · rw [getD_set_ne false hij] at hl
            exact getD_set_true (hD.closed i o' ho' hl e he hb)⟩
        have htl' : ∀ i, n ≤ i → i < L.length → (listed.setIfInBounds j true).getD i true = false := fun i h1 h2 => by
          rw [getD_set_ne true (by omega)]
          exact htl i h1 h2
        have hcnt : (listed.setIfInBounds j true).toList.count true + m = L.length := by rw [count_set hu]; omega
        have hwcongr : G1 L (K2 L env out (fun i => listed.getD i false) n) o = G1 L (K2 L env out (fun _ => true) j) o := Ir hread
        have hev : ∀ y ∈ o.op.operands, ev F.C.GL (K2 L env out (fun i => listed.getD i false) n) y = ev F.C.GL (K2 L env out (fun _ => true) j) y := by
          intro y hy
          refine Az fun t ht => hread t ?_
          subst ht
          simp only [Oc, List.mem_append, List.mem_filterMap]
          exact .inl ⟨.tmp t, by simpa using hy, rfl⟩
        have hjs : j < listed.size := by rw [hD.size]; exact hjl
        have hunw : ∀ p ∈ unf listed fs, p ∈ unw L fs j := fun p hp => by
          obtain ⟨q, hq, he, hf⟩ := Bq.1 hp
          refine H1c.2 ⟨q, hq, he, ?_⟩
          cases hb : Oj L L.length j q.1 with
          | false => rfl
          | true => rw [Pg hD.closed hoL (fun e he hb => hall e he hb) L.length q.1 hb] at hf; cases hf
        rcases houts j o hjn hoL with ⟨hnl', hfp, hq⟩ | ⟨s, H1, H2, hs1, hfp, hw, hs2, hs3, hl⟩ | ⟨t, cs, p, hfp, hnl', hw, hfl', hrow, hx⟩
        · have hcs : H9 ls (listed.setIfInBounds j true) = H9 ls listed := X15 (by simpa using hnl')
          have hus : unf (listed.setIfInBounds j true) fs = unf listed fs := X18 (Y15 hfp)
          have hlo' : loN L ls j ≤ H9 ls listed := by
            unfold loN H9
            rw [← List.countP_eq_length_filter, ← List.countP_eq_length_filter]
            exact List.countP_mono_left fun l _ hl => Pg hD.closed hoL (fun e he hb => hall e he hb) L.length l hl
          have hle : H9 ls listed ≤ ls.length := List.length_filter_le _ _
          have hmem : Hf (H9 ls listed) ∈ Hs.drop (loN L ls j) := by
            refine List.mem_of_getElem? (i := H9 ls listed - loN L ls j) ?_
            rw [List.getElem?_drop, show loN L ls j + (H9 ls listed - loN L ls j) = H9 ls listed by omega]
            exact hHf _ hle
          unfold wpOp
          simp only [List.getElem?_toArray, hoL]
          rcases hq _ hmem _ hunw with ⟨hw, hy⟩ | ⟨hw, hx⟩
          · rw [Kk hs (hwcongr.trans hw)]
            simp only [if_true]
            refine .inl (hy M G w a _ Qw (fun y hyo => by rw [← hev y hyo]; exact hs.eval y) hs.good hs.gl hs.hrel fun v M' w' h1 h2 h3 => ?_)
            refine ih _ M' G w' _ hcnt hD' htl' (by rw [hus]; exact hem) ?_ (by rw [hcs, hus]; exact hsi.quiet h3)
            rw [hafter, hcs, hus]
            exact hs.quiet (G5 (hdst j o hoL)) h1 h2 h3
          · rw [Kk hs (hwcongr.trans hw)]
            simp only [Bool.false_eq_true, if_false]
            refine ih _ M G w _ hcnt hD' htl' (by rw [hus]; exact hem) ?_ (by rw [hcs, hus]; exact hsi)
            rw [hafter, hx, hcs, hus]
            exact hs.quiet (G5 (hdst j o hoL)) (.tup rfl fun i x v h => by simp at h) hs.good (Ext.refl _ _ _)
        · have hsj : ls[s]? = some j := hs1
          have hcs : H9 ls listed = s := U1j hsj (fun k l hk hl => Pg hD.closed hoL (fun e he hb => hall e he hb) L.length l (hlw s k j l hsj hl hk).2) (fun k l hk hl => by
            cases hv : listed.getD l false with
            | false => rfl
            | true =>
              rcases Nat.lt_or_ge s k with hlt | hge
              · have := Ul hD.closed L.length l j (hlw k s l j hl hsj hlt).2 hv
                rw [Od hu] at this; cases this
              · have : k = s := by omega
                subst this
                rw [hsj] at hl
                cases hl
                rw [Od hu] at hv; cases hv)
          have hcs' : H9 ls (listed.setIfInBounds j true) = s + 1 := by rw [← hcs]; exact L1g (fun a b x y h1 h2 h3 => by have := (hlw b a y x h2 h1 h3).1; omega) hsj (Od hu) hjs
          have hsl : s < ls.length := (List.getElem?_eq_some_iff.1 hsj).1
          have e1 : Hf s = H1 := Option.some.inj ((hHf s (by omega)).symm.trans hs2)
          have e2 : Hf (s + 1) = H2 := Option.some.inj ((hHf (s + 1) (by omega)).symm.trans hs3)
          have hus : unf (listed.setIfInBounds j true) fs = unf listed fs := X18 (Y15 hfp)
          rw [hcs, e1] at hs hsi
          have hop := hl _ hunw (K2 L env out (fun i => listed.getD i false) n) (T4 (unf listed fs) H1).length hread (fun e h => e = K2 L env out (fun i => (listed.setIfInBounds j true).getD i false) n ∧ h = T4 (unf listed fs) H2) ⟨hafter.symm, rfl⟩
          let Qw' : Exit → Act → World → Prop := fun e a w => match e with
            | .normal => wpAny F.C.P .any L.toArray Qw m (listed.setIfInBounds j true) a w
            | e => Fin F fr Q e a w
          have := hop ⟨T4 (unf listed fs) H1, G, M, w⟩ M G w a Qw' rfl (fun o' ho' => by
            rw [List.mem_singleton] at ho'
            subst ho'
            exact hdst j _ hoL) hs .refl (fun env' H' M' G' w' a' hq hs' hsi' => by
              obtain ⟨rfl, rfl⟩ := hq
              refine ih _ M' G' w' a' hcnt hD' htl' (by
                rw [hus]
                intro p hp
                obtain ⟨q, hq1, hq2, hq3⟩ := Bq.1 hp
                have hlt : p < (T4 (unf listed fs) H1).length := by
                  rw [Gg, ← e1]
                  exact hlen s (by omega) p (hq2 ▸ (hfl q hq1).2.2)
                have hdead : (T4 (unf listed fs) H1)[p]? = some .dead := by
                  rw [Gg] at hlt
                  rw [Mh, List.getElem?_eq_getElem hlt]
                  have : (unf listed fs).contains p = true := by simpa using hp
                  simp only [Option.map_some, this, _root_.cond_true]
                exact (hsi'.keep p _ hdead rfl).trans (hem p hp)) ?_ ?_
              · rw [hcs', e2, hus]; exact hs'
              · rw [hcs', e2, hus]; exact hsi.step hsi')
          simp only [wpList] at this
          unfold wpOp
          simp only [List.getElem?_toArray, hoL]
          have hout : LetsOut Qw' → LetsOut (Fin F fr Q) := fun ⟨a, w, h⟩ => ⟨a, w, h⟩
          split
          · rename_i hw
            rw [if_pos hw] at this
            rcases this with h1 | ⟨h1, h2⟩
            · exact .inl (G1d (fun c a w h => h) hout h1)
            · exact .inr ⟨h1, hout h2⟩
          · rename_i hw
            rw [if_neg hw] at this
            exact this
        · have hcs : H9 ls (listed.setIfInBounds j true) = H9 ls listed := X15 (by simpa using hnl')
          have hle : H9 ls listed ≤ ls.length := List.length_filter_le _ _
          have hjp := O1d hfp
          obtain ⟨f1, f2, f3⟩ := hfl _ hjp
          have hhi : H9 ls listed ≤ hiN L ls j := by
            unfold hiN H9
            rw [← List.countP_eq_length_filter, ← List.countP_eq_length_filter]
            refine List.countP_mono_left fun l _ hl => ?_
            cases hb : Oj L L.length l j with
            | false => rfl
            | true =>
              have := Ul hD.closed L.length l j hb hl
              rw [Od hu] at this; cases this
          have hmem : Hf (H9 ls listed) ∈ Hs.take (hiN L ls j + 1) := by
            refine List.mem_of_getElem? (i := H9 ls listed) ?_
            rw [List.getElem?_take, if_pos (by omega)]
            exact hHf _ hle
          have hr := hrow _ hmem
          rw [X3] at hr
          have hpu : p ∈ unf listed fs := Bq.2 ⟨_, hjp, rfl, Od hu⟩
          have hbef : (T4 (unf listed fs) (Hf (H9 ls listed)))[p]? = some .dead := by
            rw [Mh, hr]
            have : (unf listed fs).contains p = true := by simpa using hpu
            simp only [Option.map_some, this, _root_.cond_true]
          have hmemu : ∀ r, r ∈ unf (listed.setIfInBounds j true) fs ↔ r ∈ unf listed fs ∧ r ≠ p := by
            intro r
            rw [Bq, Bq]
            constructor
            · rintro ⟨q, q1, q2, q3⟩
              have hne : j ≠ q.1 := fun e => by rw [← e] at q3; simp [hjs] at q3
              rw [getD_set_ne false hne] at q3
              exact ⟨⟨q, q1, q2, q3⟩, fun e => hne (by rw [hfu q q1 _ hjp (.inr (by rw [q2, e]))])⟩
            · rintro ⟨⟨q, q1, q2, q3⟩, hne⟩
              refine ⟨q, q1, q2, ?_⟩
              rw [getD_set_ne false fun e => hne (by rw [← q2, hfu q q1 _ hjp (.inl e.symm)])]
              exact q3
          have haft : ∀ r, (T4 (unf (listed.setIfInBounds j true) fs) (Hf (H9 ls listed)))[r]? = if r = p then some (.row cs t) else (T4 (unf listed fs) (Hf (H9 ls listed)))[r]? := by
            intro r
            rw [Mh, Mh]
            by_cases hrp : r = p
            · subst hrp
              rw [if_pos rfl, hr]
              have : (unf (listed.setIfInBounds j true) fs).contains r = false := by
                cases hb : (unf (listed.setIfInBounds j true) fs).contains r with
                | false => rfl
                | true => exact absurd rfl ((hmemu r).1 (by simpa using hb)).2
              simp only [Option.map_some, this, _root_.cond_false]
            · rw [if_neg hrp]
              have : (unf (listed.setIfInBounds j true) fs).contains r = (unf listed fs).contains r := by
                rw [Bool.eq_iff_iff]
                simp only [List.contains_iff_mem, hmemu r]
                exact ⟨fun h => h.1, fun h => ⟨h, hrp⟩⟩
              rw [this]
          obtain ⟨vs, hv, hrun⟩ := hfl' _ _ M G w a hread hs
          have hd' : ∀ d, o.dst = some d → d < F.N := G5 (hdst j o hoL)
          unfold wpOp
          simp only [List.getElem?_toArray, hoL]
          rw [Kk hs (hwcongr.trans hw)]
          simp only [if_true]
          refine .inl ?_
          unfold Oper.wp
          rw [hrun]
          refine ih _ M (V8 G p (.pointer (some ⟨w.heap.size, 0, none⟩))) (w.alloc (.cells vs t)) _ hcnt hD' htl' (fun r hr' => ?_) ?_ ?_
          · obtain ⟨r1, r2⟩ := (hmemu r).1 hr'
            rw [C3 r2]
            exact hem r r1
          · rw [hafter, hcs, hx]
            exact hs.fillRow hd' hbef (hem p hpu) hv (by rw [Gg, Gg]) haft
          · rw [hcs]
            exact hsi.fillRow (cs := cs) (p := p) (by omega) (List.getElem?_eq_some_iff.1 hbef).1 (by rw [Gg, Gg]) haft
  refine wp_region_any hC.mixed ?_
  have h0 : ∀ i, (Array.replicate L.toArray.size false).getD i false = false := fun i => by
    rcases Nat.lt_or_ge i L.length with h' | h' <;> simp [h']
  have hc0 : H9 ls (Array.replicate L.toArray.size false) = 0 := R1n h0
  have hu0 : unf (Array.replicate L.toArray.size false) fs = fs.map (·.2) := by
    have : ∀ fs : List (Nat × Nat), unf (Array.replicate L.toArray.size false) fs = fs.map (·.2) := by
      intro fs
      induction fs with
      | nil => rfl
      | cons q r ih => simp only [unf, h0, _root_.cond_false, ih, List.map_cons]
    exact this fs
  have hs' : St F.C F.N M G { w with drawn := w.drawn + 1 } env H act :=
    ⟨fun a v e => hs.good a v e, hs.gl.ext hs.hrel (S := Z7) ⟨fun _ _ e => e, Nat.le_refl _, rfl, rfl, rfl, fun _ _ _ => rfl, fun _ _ e => .inl e⟩ (fun _ h => h.elim), hs.hrel.ext (S := Z7) ⟨fun _ _ e => e, Nat.le_refl _, rfl, rfl, rfl, fun _ _ _ => rfl, fun _ _ e => .inl e⟩ (fun _ _ h => h), hs.env, hs.size, hs.defers⟩
  have hsi' : N3 fr M G { w with drawn := w.drawn + 1 } H := hsi.quiet ⟨fun _ _ e => e, Nat.le_refl _, rfl, rfl, rfl, fun _ _ _ => rfl, fun _ _ e => .inl e⟩
  have henv0 : K2 L env out (fun i => (Array.replicate L.toArray.size false).getD i false) n = env := by
    funext t
    simp only [K2]
    cases hl : T5 L (fun i => (Array.replicate L.toArray.size false).getD i false) t n with
    | none => rfl
    | some i => have := (Vs hl).2.1; rw [h0] at this; cases this
  have := head L.length (Array.replicate L.toArray.size false) M G _ act (by simp [List.count_replicate]) ⟨by simp, fun j o ho hl => by rw [h0] at hl; cases hl⟩ (fun i h1 h2 => by simp [h2])
    (fun p hp => by
      obtain ⟨q, q1, q2, _⟩ := Bq.1 hp
      exact hs.hrel.fresh p (by have := (hfl q q1).2.1; omega))
    (by rw [henv0, hc0, hf0, hu0, hpad]; exact hs'.pad _) (by rw [hc0, hf0, hu0, hpad]; exact hsi'.pad _)
  rw [hsz]
  rw [hsz] at this
  exact this
end Go.Am

namespace Go.Am
def O12 (C : Cx) (L : List Oper) (o : Oper) (env : Env) (ps : List Nat) : List O0 → List (Option (Option Nat × Prop × A))
  | [] => []
  | H :: r => Zh C L o env (T4 ps H) :: O12 C L o env ps r
def L17 (x : Option (Option Nat × Prop × A)) : List O0 → List (Option (Option Nat × Prop × A))
  | [] => []
  | _ :: r => x :: L17 x r
theorem T13 {C : Cx} {L : List Oper} {o : Oper} {env : Env} {ps : List Nat} {x : Option (Option Nat × Prop × A)} : ∀ {Hs : List O0}, O12 C L o env ps Hs = L17 x Hs → ∀ H ∈ Hs, Zh C L o env (T4 ps H) = x
  | [], _, H, h => by cases h
  | K :: r, h, H, hm => by
    simp only [O12, L17, List.cons.injEq] at h
    cases hm with
    | head => exact h.1
    | tail _ hm => exact T13 h.2 H hm
theorem L1l {i : TI} {x : A} {H : O0} {ps ps0 : List Nat} (hps : ∀ p ∈ ps, p ∈ ps0) {y : A} (h : Gh i x (T4 ps0 H) = some y) : Gh i x (T4 ps H) = some y := by
  unfold Gh at h ⊢
  split at h
  · rename_i o off
    simp only [X3, Mh] at h ⊢
    cases hz : H[o]? with
    | none => rw [hz] at h; simp at h
    | some z =>
      rw [hz] at h
      simp only [Option.map_some] at h ⊢
      cases h0 : ps0.contains o with
      | true => rw [h0] at h; simp at h
      | false =>
        have : ps.contains o = false := by
          cases hb : ps.contains o with
          | false => rfl
          | true =>
            have h1 := hps o (by simpa using hb)
            have h2 : ps0.contains o = true := by simpa using h1
            rw [h0] at h2; cases h2
        rw [h0] at h
        rw [this]
        exact h
  · exact h
  · cases h
theorem T1p {T : TT} {GL : GT} {op : Op} {env : Env} {H : O0} {ps ps0 : List Nat} (hps : ∀ p ∈ ps, p ∈ ps0) {c : Prop} {y : A} (h : opA T GL op env (T4 ps0 H) = some (c, y)) : opA T GL op env (T4 ps H) = some (c, y) := by
  cases op with
  | load t a =>
    simp only [opA] at h ⊢
    cases ht : R2 T t with
    | none => rw [ht] at h; cases h
    | some i =>
      rw [ht] at h
      simp only at h ⊢
      cases hl : Gh i (ev GL env a) (T4 ps0 H) with
      | none => rw [hl] at h; cases h
      | some z =>
        rw [hl] at h
        rw [L1l hps hl]
        exact h
  | makeFunc f first caps => cases f <;> exact h
  | call c =>
    obtain ⟨cl, as, ts⟩ := c
    cases cl <;> exact h
  | _ => exact h
theorem T1a {C : Cx} {L : List Oper} {o : Oper} {env : Env} {H : O0} {ps ps0 : List Nat} (hps : ∀ p ∈ ps, p ∈ ps0) {d : Option Nat} {c : Prop} {y : A} (h : Zh C L o env (T4 ps0 H) = some (d, c, y)) : Zh C L o env (T4 ps H) = some (d, c, y) := by
  unfold Zh at h ⊢
  split at h
  · rename_i hw
    split at h
    · rename_i c' x' ho
      rw [T1p hps ho]
      exact h
    · cases h
  · exact h
  · cases h
theorem V1j {C : Cx} (hC : W1 C) {L : List Oper} {o : Oper} {env : Env} {H : O0} {d : Option Nat} {c : Prop} {x : A} (h : Zh C L o env H = some (d, c, x)) (hc : c) : o.dst = d ∧ I10 C L o env H x := by
  have := AQ.q (l := []) (Q := fun _ => True) hC h hc trivial
  unfold Zh at h
  split at h
  · rename_i hw
    split at h
    · rename_i c' x' ho
      split at h
      · rename_i y hy
        have hyx := Uo hy
        subst hyx
        have : o.dst = d ∧ c' = c ∧ y = x := by
          split at h
          · rename_i t ht
            simp only [Option.some.injEq, Prod.mk.injEq] at h
            exact ⟨ht.trans h.1, h.2.1, h.2.2⟩
          · rename_i ht
            simp only [Option.some.injEq, Prod.mk.injEq] at h
            exact ⟨ht.trans h.1, h.2.1, h.2.2⟩
        obtain ⟨rfl, rfl, rfl⟩ := this
        exact ⟨rfl, .inl ⟨hw, Is hC ho hc⟩⟩
      · cases h
    · cases h
  · rename_i hw
    have : o.dst = d ∧ A.tup [] = x := by
      split at h
      · rename_i t ht
        simp only [Option.some.injEq, Prod.mk.injEq] at h
        exact ⟨ht.trans h.1, h.2.2⟩
      · rename_i ht
        simp only [Option.some.injEq, Prod.mk.injEq] at h
        exact ⟨ht.trans h.1, h.2.2⟩
    obtain ⟨rfl, rfl⟩ := this
    exact ⟨rfl, .inr ⟨hw, rfl⟩⟩
  · cases h
def O1g (C : Cx) (L : List Oper) (o : Oper) (env : Env) : Option (Option Nat × TypeId × List A) :=
  match G1 L env o, o.op, U7 o with
  | some true, .alloc t, some d => match R2 C.T t with
    | some i => match Vn (i.zero.map zf) with | some cs => some (d, t, cs) | none => none
    | none => none
  | some true, .box t y, some d => match Wf (ev C.GL env y) with
    | some cs => match Vn cs with | some cs => some (d, t, cs) | none => none
    | none => none
  | _, _, _ => none
theorem Y1i {F : Fx} (hC : W1 F.C) {L : List Oper} {o : Oper} {env : Env} {d : Option Nat} {t : TypeId} {cs : List A} (h : O1g F.C L o env = some (d, t, cs)) : G1 L env o = some true ∧ o.dst = d ∧ I1g F L o env t cs := by
  unfold O1g at h
  split at h
  · rename_i t' d' hw ho hd
    split at h
    · rename_i i ht
      split at h
      · rename_i cs' hcs
        simp only [Option.some.injEq, Prod.mk.injEq] at h
        obtain ⟨rfl, rfl, rfl⟩ := h
        have := Tl hcs
        subst this
        refine ⟨hw, (A5 hd), fun env' H M G w a hr hs => ?_⟩
        obtain ⟨z, h1, h2⟩ := F18 (M := M) (G := G) hC.tok ht
        exact ⟨z.cells, h2, by unfold execOp; simp [ho, Instr.alloc, h1, newVar, newRow]⟩
      · cases h
    · cases h
  · rename_i t' y d' hw ho hd
    split at h
    · rename_i cs1 hc1
      split at h
      · rename_i cs' hcs
        simp only [Option.some.injEq, Prod.mk.injEq] at h
        obtain ⟨rfl, rfl, rfl⟩ := h
        have := Tl hcs
        subst this
        refine ⟨hw, (A5 hd), fun env' H M G w a hr hs => ?_⟩
        have hy : ev F.C.GL env' y = ev F.C.GL env y := Az fun u hu => hr u (by
          subst hu
          simp only [Oc, List.mem_append, List.mem_filterMap]
          exact .inl ⟨.tmp u, by simp [ho, Op.operands], rfl⟩)
        obtain ⟨c1, c2, c3⟩ := Hy (hs.eval y) (by rw [hy]; exact hc1)
        exact ⟨(a.eval y).cells, ⟨c1.symm, c2, c3⟩, by unfold execOp; simp [ho, Instr.box, newVar, newRow]⟩
      · cases h
    · cases h
  · cases h
def K1e (p : Nat) : List O0 → List (Option Ob)
  | [] => []
  | H :: r => nth H p :: K1e p r
def L1e (x : Option Ob) : List O0 → List (Option Ob)
  | [] => []
  | _ :: r => x :: L1e x r
theorem Q1d {p : Nat} {x : Option Ob} : ∀ {Hs : List O0}, K1e p Hs = L1e x Hs → ∀ H ∈ Hs, nth H p = x
  | [], _, H, h => by cases h
  | K :: r, h, H, hm => by
    simp only [K1e, L1e, List.cons.injEq] at h
    cases hm with
    | head => exact h.1
    | tail _ hm => exact Q1d h.2 H hm
section
variable {F : Fx} {L l : List Oper} {o : Oper} {env : Env} {ls : List Nat} {fs : List (Nat × Nat)} {Hs : List O0} {j s : Nat} {Q : Env → Prop}
theorem AS.nil (h : Q env) : AS F L ls fs Hs j s [] env Q := h
theorem AS.y {d : Option Nat} {x : A} (hd : o.dst = d) (hn : ls.contains j = false) (hf : Wl fs j = none) (h : ∀ H, I10 F.C L o env H x) (k : AS F L ls fs Hs (j + 1) s l (put env d x) Q) : AS F L ls fs Hs j s (o :: l) env Q :=
  .inl ⟨d, x, hd, hn, hf, fun _ _ _ _ => h _, k⟩
theorem AS.q (hC : W1 F.C) {d : Option Nat} {x : A} (h : O12 F.C L o env (unw L fs j) (Hs.drop (loN L ls j)) = L17 (some (d, True, x)) (Hs.drop (loN L ls j))) (hd : o.dst = d) (hn : ls.contains j = false) (hf : Wl fs j = none) (k : AS F L ls fs Hs (j + 1) s l (put env d x) Q) : AS F L ls fs Hs j s (o :: l) env Q :=
  .inl ⟨d, x, hd, hn, hf, fun H hm _ hps => (V1j hC (T1a hps (T13 h H hm)) trivial).2, k⟩
theorem AS.qc (hC : W1 F.C) {d : Option Nat} {c : Prop} {x : A} (h : O12 F.C L o env (unw L fs j) (Hs.drop (loN L ls j)) = L17 (some (d, c, x)) (Hs.drop (loN L ls j))) (hc : c) (hd : o.dst = d) (hn : ls.contains j = false) (hf : Wl fs j = none) (k : AS F L ls fs Hs (j + 1) s l (put env d x) Q) : AS F L ls fs Hs j s (o :: l) env Q :=
  .inl ⟨d, x, hd, hn, hf, fun H hm _ hps => (V1j hC (T1a hps (T13 h H hm)) hc).2, k⟩
theorem AS.qe (hC : W1 F.C) {d : Option Nat} {c : Prop} {x y : A} (h : O12 F.C L o env (unw L fs j) (Hs.drop (loN L ls j)) = L17 (some (d, c, x)) (Hs.drop (loN L ls j))) (hc : c) (e : x = y) (hd : o.dst = d) (hn : ls.contains j = false) (hf : Wl fs j = none) (k : AS F L ls fs Hs (j + 1) s l (put env d y) Q) : AS F L ls fs Hs j s (o :: l) env Q := by
  subst e; exact .qc hC h hc hd hn hf k
theorem AS.c {d : Option Nat} {f : FuncId} {xs : List A} {x : A} (hc : T0 F.C f xs [] (Ret [] x)) (h : Ai F.C L o env = some (d, f, xs)) (hx : M3 0 xs = true) (hn : ls.contains j = false) (hf : Wl fs j = none) (k : AS F L ls fs Hs (j + 1) s l (put env d x) Q) : AS F L ls fs Hs j s (o :: l) env Q := by
  obtain ⟨h1, h2, h3⟩ := Mk h
  exact .y h3 hn hf (fun H => .inl ⟨h1, Hw h2 hx hc⟩) k
theorem AS.a {t : Nat} {x : A} (hd : o.dst = some t) (h : ∀ H, AQ F.C L [o] env H (fun e => e = put env (some t) x)) (hn : ls.contains j = false) (hf : Wl fs j = none) (k : AS F L ls fs Hs (j + 1) s l (put env (some t) x) Q) : AS F L ls fs Hs j s (o :: l) env Q := by
  refine .y hd hn hf (fun H => ?_) k
  obtain ⟨d', x', h1, h2, h3⟩ := h H
  rw [hd] at h1
  subst h1
  have : x' = x := by
    have := congrFun h3 t
    simpa [put, upd] using this
  rwa [this] at h2
theorem AS.g {d : Option Nat} {g : FuncId} {xs : List A} {x y : A} {H H' : O0} (idx : List Nat) {cargs : List A} {cH cH' : O0} (hc : T0 F.C g cargs cH (Ret cH' x)) (h1 : nth ls s = some j) (hf : Wl fs j = none) (h2 : nth Hs s = some H) (h3 : nth Hs (s + 1) = some H')
    (h : Ai F.C L o env = some (d, g, xs)) (hx : Vl (Bc idx H.length) cargs = xs) (hi : J10 idx H.length = true) (hm : Fz H idx = T15 (Bc idx H.length) cH)
    (ht : I9 idx cH = []) (hr : frc (ren (Bc idx H.length) x) = some y) (hH : Bi (Th H idx (Bc idx H.length) (I9 idx cH) cH') = some H')
    (hun : (idx.all (fun p => !(unw L fs j).contains p) && (unw L fs j).all (fun p => Nat.blt p H.length) && Nat.ble idx.length cH'.length) = true) (k : AS F L ls fs Hs (j + 1) (s + 1) l (put env d y) Q) : AS F L ls fs Hs j s (o :: l) env Q := by
  obtain ⟨q1, _, q3⟩ := Mk h
  exact .inr (.inl ⟨y, H, H', h1, hf, q1, h2, h3, fun ps hps => Sw.g idx hc h hx hi hm ht hr hH hun ps hps, by rw [q3]; exact k⟩)
theorem AS.n (hC : W1 F.C) {d : Option Nat} {t : TypeId} {cs : List A} {p : Nat} (h : O1g F.C L o env = some (d, t, cs)) (hf : Wl fs j = some p) (hn : ls.contains j = false) (hr : K1e p (Hs.take (hiN L ls j + 1)) = L1e (some (.row cs t)) (Hs.take (hiN L ls j + 1)))
    (k : AS F L ls fs Hs (j + 1) s l (put env d (.ref p 0)) Q) : AS F L ls fs Hs j s (o :: l) env Q := by
  obtain ⟨q1, q2, q3⟩ := Y1i hC h
  exact .inr (.inr ⟨t, cs, p, hf, hn, q1, q3, Q1d hr, by rw [q2]; exact k⟩)
end
end Go.Am

namespace Go.Am
def Gz (C : Cx) (L : List Oper) (o : Oper) (env : Env) : Option (Option Nat × D) :=
  match G1 L env o, o.op, U7 o with
  | some true, .nilCheck x, some d => match ev C.GL env x with
    | .d xd => some (d, xd)
    | _ => none
  | _, _, _ => none
theorem M1l {C : Cx} {L : List Oper} {o : Oper} {env : Env} {d : Option Nat} {x : D} (h : Gz C L o env = some (d, x)) : U7 o = some d := by
  unfold Gz at h
  split at h
  · rename_i x' d' hw ho hd
    split at h
    · simp only [Option.some.injEq, Prod.mk.injEq] at h
      obtain ⟨rfl, rfl⟩ := h
      exact hd
    · cases h
  · cases h
theorem Z15 {C : Cx} {L : List Oper} {o : Oper} {env : Env} {H : O0} {d : Option Nat} {x : D} {cs : List D} (h : Gz C L o env = some (d, x)) (hx : x = .bxo (some cs)) :
    G1 L env o = some true ∧ U7 o = some d ∧ A8 C o env H (.ptr cs) := by
  unfold Gz at h
  split at h
  · rename_i x' d' hw ho hd
    split at h
    · rename_i xd hex
      simp only [Option.some.injEq, Prod.mk.injEq] at h
      obtain ⟨rfl, rfl⟩ := h
      subst hx
      refine ⟨hw, hd, ?_⟩
      intro M G w a next Qw hρ hG _ hH hk
      have h1 := hρ x' (by rw [ho]; simp [Op.operands])
      rw [hex] at h1
      generalize hv : a.eval x' = v at h1
      cases h1; rename_i h1; cases h1
      rename_i D1 p q r
      have key : ∃ v, (execOp a.eval o).run C.P w = .ok (.value v) w ∧ W0 M G (.ptr cs) v := by
        unfold execOp
        exact ⟨_, by simp only [ho, hv]; rfl, .ptr D1 p q r⟩
      obtain ⟨v, g1, g2⟩ := key
      unfold Oper.wp
      rw [g1]
      exact hk v M w g2 hG (Ext.refl _ _ _)
    · cases h
  · cases h
theorem L0.nk {F : Fx} (_hC : W1 F.C) {L l : List Oper} {o : Oper} {env : Env} {H : O0} {Q : Env → O0 → Prop} {d : Option Nat} {x : D} {cs : List D} (h : Gz F.C L o env = some (d, x)) (hx : x = .bxo (some cs))
    (k : L0 F L l (put env d (.ptr cs)) H Q) : L0 F L (o :: l) env H Q := by
  obtain ⟨h1, h2, h3⟩ := Z15 (H := H) h hx
  refine .yields h1 h3 ?_
  rw [A5 h2]
  exact k
theorem AG.nk {C : Cx} (_hC : W1 C) {L l : List Oper} {o : Oper} {env : Env} {cnd : Cnd} {H : O0} {Q : Env → Cnd → Prop} {W : Option Bool} {d : Option Nat} {x : D} {cs : List D} (hw : Ol L env cnd o = some W)
    (h : Gz C [] (noG o) env = some (d, x)) (hs : holds W → Ih cnd (At o)) (hx : holds W → x = .bxo (some cs)) (kk : AG C L l (put env d (.ptr cs)) (Fg cnd d W) H Q) : AG C L (o :: l) env cnd H Q :=
  .lift (show U7 (noG o) = some d from M1l h) hw hs (fun hh => (Z15 h (hx hh)).2.2) kk
theorem AQ.nk {C : Cx} (_hC : W1 C) {L l : List Oper} {o : Oper} {env : Env} {H : O0} {Q : Env → Prop} {d : Option Nat} {x : D} {cs : List D} (h : Gz C L o env = some (d, x)) (hx : x = .bxo (some cs)) (k : AQ C L l (put env d (.ptr cs)) H Q) : AQ C L (o :: l) env H Q := by
  obtain ⟨h1, h2, h3⟩ := Z15 (H := H) h hx
  exact ⟨d, _, A5 h2, .inl ⟨h1, h3⟩, k⟩
theorem AQ.nq {C : Cx} (hC : W1 C) {L l : List Oper} {o : Oper} {env : Env} {H : O0} {Q : Env → Prop} {d : Option Nat} {x : D} {neg b : Bool} (h : R1a C L o env = some (d, x, neg)) (hx : S13 x = some b)
    (k : AQ C L l (put env d (.d (.bool (bif neg then !b else b)))) H Q) : AQ C L (o :: l) env H Q := by
  obtain ⟨h1, h2, h3⟩ := K1d (H := H) hC h hx
  exact ⟨d, _, A5 h2, .inl ⟨h1, h3⟩, k⟩
theorem AQ.fl {C : Cx} (hC : W1 C) {L l : List Oper} {o : Oper} {env : Env} {H : O0} {Q : Env → Prop} {d : Option Nat} {xd : D} {k : List UInt8} {ok : Bool} {z y : A} {es : List (List UInt8 × Row)} (h : K17 C L o env = some (d, xd, k, ok, z))
    (he : V15 xd = some es) (e : lkA (V3 k es) z ok = y) (kk : AQ C L l (put env d y) H Q) : AQ C L (o :: l) env H Q := by
  subst e
  obtain ⟨h1, h2, h3⟩ := W15 (H := H) hC h he
  exact ⟨d, _, A5 h2, .inl ⟨h1, h3⟩, kk⟩
end Go.Am

namespace Go.Am
def Eo (k : Int) : List (Int × Row) → Option Row
  | [] => none
  | (k', cs) :: r => bif k == k' then some cs else Eo k r
def mputI (k : Int) (cs : Row) : List (Int × Row) → List (Int × Row)
  | [] => [(k, cs)]
  | (k', cs') :: r => bif k == k' then (k, cs) :: r else (k', cs') :: mputI k cs r
structure LkI where
  d : Option Nat
  es : List (Int × Row)
  k : Int
  ok : Bool
  z : A
theorem A16 {kd : IntKind} (es : List (Int × Row)) : (Ro.i kd es).list.length = es.length := by simp [Ro.list]
theorem R1d {kd : IntKind} {M : Mem} {G : Nat → Value} {es : List (Int × Row)} {ms : Array MapEntry} (h : ∀ (i : Nat) k cs e, (Ro.i kd es).list[i]? = some (k, cs) → ms[i]? = some e → O2 M k e.key ∧ W0 M G (Ge cs) e.val) :
    ∀ (i : Nat) k cs e, es[i]? = some (k, cs) → ms[i]? = some e → O2 M (.int kd k) e.key ∧ W0 M G (Ge cs) e.val := fun i k cs e a b => h i (.int kd k) cs e (by simp [Ro.list, a]) b
theorem N1l {kd : IntKind} {M : Mem} {G : Nat → Value} {es : List (Int × Row)} {ms : Array MapEntry} (h : ∀ (i : Nat) k cs e, es[i]? = some (k, cs) → ms[i]? = some e → O2 M (.int kd k) e.key ∧ W0 M G (Ge cs) e.val) :
    ∀ (i : Nat) k cs e, (Ro.i kd es).list[i]? = some (k, cs) → ms[i]? = some e → O2 M k e.key ∧ W0 M G (Ge cs) e.val := fun i k cs e a b => by
  simp only [Ro.list, List.getElem?_map] at a
  cases hp : es[i]? with
  | none => rw [hp] at a; cases a
  | some p =>
    rw [hp] at a
    simp only [Option.map_some, Option.some.injEq, Prod.mk.injEq] at a
    obtain ⟨rfl, rfl⟩ := a
    exact h i p.1 p.2 e hp b
theorem C11 {kd : IntKind} {k : Int} : ∀ {es : List (Int × Row)} {ms : List MapEntry} {i : Nat}, ms.length = es.length → (∀ (n : Nat) k' cs e, es[n]? = some (k', cs) → ms[n]? = some e → e.key = .int kd k') →
    (Eo k es = none ∧ Instr.findNow (.int kd) (.int kd k) ms i = some none ∧ ∀ cs, mputI k cs es = es ++ [(k, cs)]) ∨
    ∃ n cs e, es[n]? = some (k, cs) ∧ Eo k es = some cs ∧ ms[n]? = some e ∧ Instr.findNow (.int kd) (.int kd k) ms i = some (some (i + n, e.val)) ∧ ∀ cs', mputI k cs' es = es.set n (k, cs')
  | [], [], i, _, _ => .inl ⟨rfl, rfl, fun _ => rfl⟩
  | (k', cs) :: es, m :: ms, i, hl, hk => by
    have hm := hk 0 k' cs m rfl rfl
    simp only [Instr.findNow, hm, Instr.sameNow, Eo, mputI, if_true]
    cases hb : k == k' with
    | true =>
      obtain rfl := beq_iff_eq.1 hb
      exact .inr ⟨0, cs, m, rfl, rfl, rfl, rfl, fun _ => rfl⟩
    | false =>
      simp only [cond_false]
      rcases C11 (k := k) (es := es) (ms := ms) (i := i + 1) (by simpa using hl) (fun n k' cs e a b => hk (n + 1) k' cs e (by simpa using a) (by simpa using b)) with ⟨h1, h2, h3⟩ | ⟨n, cs', e, h1, h2, h3, h4, h5⟩
      · exact .inl ⟨h1, h2, fun cs' => by rw [h3]; rfl⟩
      · exact .inr ⟨n + 1, cs', e, by simpa using h1, h2, by simpa using h3, by rw [h4]; congr 3; omega, fun c => by rw [h5]; rfl⟩
  | [], _ :: _, _, hl, _ => by simp at hl
  | _ :: _, [], _, hl, _ => by simp at hl
theorem Jr {P : Program} {w : World} {kt : Nat} {kd : IntKind} (h : P.underlying kt = some (.int kd)) (b : Bool) (n : Int) : (Instr.checkKey b 10000 kt (.int kd n)).run P w = .ok () w := by
  have key : ∀ m, (Instr.checkKey b (m + 1) kt (.int kd n)).run P w = .ok () w := fun m => by simp [Instr.checkKey, run_underlying h]
  exact key 9999
theorem U13 {α : Type} {b : Bool} {x : α} {y : Option α} (h : (bif b then y else none) = some x) : b = true ∧ y = some x := by cases b <;> simp_all
def P12 (C : Cx) (L : List Oper) (o : Oper) (env : Env) (H : O0) : Option LkI :=
  match G1 L env o, o.op, U7 o with
  | some true, .lookup t x y ok, some d => match R2 C.T t, ev C.GL env x, ev C.GL env y with
    | some i, .mp p, .d (.int kd k) => match i.u, nth H p with
      | .map kt et, some (.map (.i kd' es)) => match R2 C.T kt, R2 C.T et with
        | some ki, some ei => match ki.u, frc (N10 ei) with
          | .int k3, some z => bif decide (k3 = kd ∧ kd' = kd) then some ⟨d, es, k, ok, z⟩ else none
          | _, _ => none
        | _, _ => none
      | _, _ => none
    | _, _, _ => none
  | _, _, _ => none
theorem G18 {C : Cx} {L : List Oper} {o : Oper} {env : Env} {H : O0} {r : LkI} (h : P12 C L o env H = some r) : G1 L env o = some true ∧ U7 o = some r.d := by
  unfold P12 at h
  split at h
  · rename_i t x y ok d hw ho hd
    split at h
    · split at h
      · split at h
        · split at h
          · obtain ⟨_, h⟩ := U13 h
            simp only [Option.some.injEq] at h
            subst h
            exact ⟨hw, hd⟩
          · cases h
        · cases h
      · cases h
    · cases h
  · cases h
theorem Q12 {C : Cx} (hC : W1 C) {L : List Oper} {o : Oper} {env : Env} {H : O0} {d : Option Nat} {es : List (Int × Row)} {k : Int} {ok : Bool} {z : A} (h : P12 C L o env H = some ⟨d, es, k, ok, z⟩) {r : Option Row} (hr : Eo k es = r) : A8 C o env H (lkA r z ok) := by
  intro M G w a next Qw hρ hG hgl hH hkk
  subst hr
  unfold P12 at h
  split at h
  · rename_i t x y ok' d' hw ho hd
    rw [ho] at hρ
    split at h
    · rename_i i p kd k' ht hx hy
      split at h
      · rename_i kt et kd' es' hu hp
        split at h
        · rename_i ki ei hki hei
          split at h
          · rename_i k3 z' hku hz
            obtain ⟨hkk', h5⟩ := U13 h
            clear h
            obtain ⟨rfl, rfl⟩ := of_decide_eq_true hkk'
            simp only [Option.some.injEq, LkI.mk.injEq] at h5
            obtain ⟨rfl, rfl, rfl, rfl, rfl⟩ := h5
            have hz' := Uo hz
            subst hz'
            have hxr := hρ x (by simp [Op.operands])
            have hyr := hρ y (by simp [Op.operands])
            rw [hx] at hxr
            rw [hy] at hyr
            generalize hxv : a.eval x = xv at hxr
            generalize hyv : a.eval y = yv at hyr
            cases hxr; rename_i b hgb
            cases hyr; rename_i hyr; cases hyr
            rename_i hkl
            rw [X3] at hp
            obtain ⟨b', ms, cl, g1, g2, g3, g4, g5, g6⟩ := hH.obj p _ hp
            have g3 := g3.trans (A16 _)
            have g4 := R1d g4
            rw [hgb] at g1
            simp at g1
            subst g1
            have hd := Om (hC.tok.facts ht) hu
            have hkd := E10 (hC.tok.facts hki) hku
            obtain ⟨zv, hzr, hzrel⟩ := P15 hC.tok hei M G
            have hkeys : ∀ (n : Nat) k' cs e, es'[n]? = some (k', cs) → ms.toList[n]? = some e → e.key = .int kd' k' := fun n k' cs e a b => by
              have := (g4 n k' cs e a (by simpa using b)).1
              generalize e.key = ek at this
              cases this; rfl
            have key : ∃ v, (Instr.lookup t (.map (some b)) (.int kd' k') ok').run C.P w = .ok v w ∧ W0 M G (lkA (Eo k' es') (N10 ei) ok') v := by
              rcases C11 (k := k') (i := 0) (by simpa using g3) hkeys with ⟨h1, h2, _⟩ | ⟨n, cs, e, h1, h2, h3, h4, _⟩
              · refine ⟨if ok' then .tuple #[zv, .bool false] else zv, ?_, ?_⟩
                · simp [Instr.lookup, run_underlying hd, Qg g2, Jr hkd, Instr.findKey, run_underlying hkd, h2, hzr w]
                · rw [h1]
                  cases ok' with
                  | false => simpa [lkA] using hzrel
                  | true =>
                    refine .tup rfl fun i x v hx hv => ?_
                    match i with
                    | 0 => simp at hx hv; subst hx; subst hv; exact hzrel
                    | 1 => simp at hx hv; subst hx; subst hv; exact .d .bool
                    | _ + 2 => simp at hx
              · have hev := (g4 n k' cs e h1 (by simpa using h3)).2
                refine ⟨if ok' then .tuple #[e.val, .bool true] else e.val, ?_, ?_⟩
                · simp [Instr.lookup, run_underlying hd, Qg g2, Jr hkd, Instr.findKey, run_underlying hkd, h4]
                · rw [h2]
                  cases ok' with
                  | false => simpa [lkA] using hev
                  | true =>
                    refine .tup rfl fun i x v hx hv => ?_
                    match i with
                    | 0 => simp at hx hv; subst hx; subst hv; exact hev
                    | 1 => simp at hx hv; subst hx; subst hv; exact .d .bool
                    | _ + 2 => simp at hx
            obtain ⟨v, hv, hrel⟩ := key
            unfold Oper.wp execOp
            simp only [ho, hxv, hyv, Sem.run_bind, hv, Result.andThen_ok, Sem.run_pure, Oper.upon_value]
            exact hkk _ M w hrel hG (Ext.refl _ _ _)
          · cases h
        · cases h
      · cases h
    · cases h
  · cases h
def U1p : Op → Option (TypeId × Operand × Operand × Operand)
  | .mapUpdate t x y z => some (t, x, y, z)
  | .insert t x y z => some (t, x, y, z)
  | _ => none
def U1a (C : Cx) (L : List Oper) (o : Oper) (env : Env) (H : O0) : Option O0 :=
  match G1 L env o, U1p o.op, o.dst with
  | some true, some (t, x, y, z), none => match R2 C.T t, ev C.GL env x, ev C.GL env y, F12 (ev C.GL env z) with
    | some i, .mp p, .d (.int kd k), some cs => match i.u, nth H p with
      | .map kt _, some (.map (.i kd' es)) => match R2 C.T kt with
        | some ki => match ki.u with
          | .int k3 => bif decide (k3 = kd ∧ kd' = kd) then Nj H p (.map (.i kd (mputI k cs es))) else none
          | _ => none
        | none => none
      | _, _ => none
    | _, _, _, _ => none
  | _, _, _ => none
theorem L0.u_i {F : Fx} (hC : W1 F.C) {L l : List Oper} {o : Oper} {env : Env} {H H' : O0} {Q : Env → O0 → Prop} (h : U1a F.C L o env H = some H') (k : L0 F L l env H' Q) : L0 F L (o :: l) env H Q := by
  unfold U1a at h
  split at h
  · rename_i t x y z hw ho hdst
    split at h
    · rename_i i p kd kk cs ht hx hy hz
      split at h
      · rename_i kt et kd' es hu hp
        split at h
        · rename_i ki hki
          split at h
          · rename_i k3 hku
            obtain ⟨hkk', h5⟩ := U13 h
            clear h
            obtain ⟨rfl, rfl⟩ := of_decide_eq_true hkk'
            have e1 := Nr h5
            subst e1
            refine Ic hw fun fr M G w a K Qw hK hdok hs hsi hk => ?_
            have hxr := hs.eval x
            have hyr := hs.eval y
            have hzr := N1a hz (hs.eval z)
            rw [hx] at hxr
            rw [hy] at hyr
            generalize hxv : a.eval x = xv at hxr
            generalize hyv : a.eval y = yv at hyr
            generalize hzv : a.eval z = zv at hzr
            cases hxr; rename_i b hgb
            cases hyr; rename_i hyr; cases hyr
            rename_i hkl
            rw [X3] at hp
            obtain ⟨b', ms, cl, g1, g2, g3, g4, g5, g6⟩ := hs.hrel.obj p _ hp
            have g3 := g3.trans (A16 es)
            have g4 := R1d g4
            rw [hgb] at g1
            simp at g1
            subst g1
            have hd := Om (hC.tok.facts ht) hu
            have hkd := E10 (hC.tok.facts hki) hku
            have hblt : b < w.heap.size := (Array.getElem?_eq_some_iff.1 g2).1
            have hkeys : ∀ (n : Nat) k' cs e, es[n]? = some (k', cs) → ms.toList[n]? = some e → e.key = .int kd' k' := fun n k' cs e a b => by
              have := (g4 n k' cs e a (by simpa using b)).1
              generalize e.key = ek at this
              cases this; rfl
            have hMb : ∀ off sp, M ⟨b, off, sp⟩ = none := g6
            have key : ∃ ms' cl', (Instr.mapUpdate t (.map (some b)) (.int kd' kk) zv).run F.C.P w = .ok () { w with heap := w.heap.setIfInBounds b (.map ms' cl') } ∧ ms'.size = (mputI kk cs es).length ∧
                (∀ (i : Nat) k' cs' e, (mputI kk cs es)[i]? = some (k', cs') → ms'[i]? = some e → O2 M (.int kd' k') e.key ∧ W0 M G (Ge cs') e.val) ∧ ∀ (i : Nat) e, ms'[i]? = some e → e.born < cl' := by
              have Vc : ∀ o', (setObj b o').run F.C.P w = .ok () { w with heap := w.heap.setIfInBounds b o' } := fun o' => by simp [setObj, Sem.run, g2]
              rcases C11 (k := kk) (i := 0) (by simpa using g3) hkeys with ⟨h1, h2, h3⟩ | ⟨n, cs0, e, h1, h2, h3, h4, h5⟩
              · refine ⟨ms.push ⟨.int kd' kk, zv, cl⟩, cl + 1, ?_, by rw [h3]; simp [g3], fun i k' cs' e hi he => ?_, fun i e he => ?_⟩
                · simp [Instr.mapUpdate, run_underlying hd, Qg g2, Jr hkd, Instr.findKey, run_underlying hkd, h2, Vc]
                · rw [h3] at hi
                  rw [Array.getElem?_push] at he
                  split at he
                  · rename_i hie
                    simp only [Option.some.injEq] at he
                    subst he
                    rw [List.getElem?_append_right (by omega)] at hi
                    have : i - es.length = 0 := by omega
                    rw [this] at hi
                    simp at hi
                    obtain ⟨rfl, rfl⟩ := hi
                    exact ⟨.int hkl, hzr⟩
                  · rename_i hie
                    have hlt : i < ms.size := by have := (Array.getElem?_eq_some_iff.1 he).1; omega
                    rw [List.getElem?_append_left (by omega)] at hi
                    exact g4 i k' cs' e hi he
                · rw [Array.getElem?_push] at he
                  split at he
                  · simp only [Option.some.injEq] at he; subst he; simp
                  · have := g5 i e he; omega
              · have hn : n < ms.size := by simpa using (List.getElem?_eq_some_iff.1 h3).1
                have hmn : ms[n]? = some e := by simpa using h3
                have hke : e.key = .int kd' kk := hkeys n kk cs0 e h1 h3
                have hst : ∀ w, (Instr.keyThatStays (.int kd' kk) (.int kd' kk)).run F.C.P w = .ok (.int kd' kk) w := fun w => by
                  have : Instr.sameBits 10000 (.int kd' kk) (.int kd' kk) = true := by simp [Instr.sameBits]
                  simp [Instr.keyThatStays, this]
                refine ⟨ms.modify n fun e => { e with key := .int kd' kk, val := zv }, cl, ?_, by rw [h5]; simp [g3], fun i k' cs' e' hi he => ?_, fun i e' he => ?_⟩
                · simp [Instr.mapUpdate, run_underlying hd, Qg g2, Jr hkd, Instr.findKey, run_underlying hkd, h4, hmn, hke, hst, Vc]
                · rw [h5, List.getElem?_set] at hi
                  rw [Array.getElem?_modify] at he
                  by_cases hin : n = i
                  · rw [if_pos hin] at he hi
                    subst hin
                    rw [hmn] at he
                    simp only [Option.map_some, Option.some.injEq] at he
                    subst he
                    rw [if_pos (by omega)] at hi
                    simp only [Option.some.injEq, Prod.mk.injEq] at hi
                    obtain ⟨rfl, rfl⟩ := hi
                    exact ⟨.int hkl, hzr⟩
                  · rw [if_neg hin] at he hi
                    exact g4 i k' cs' e' hi he
                · rw [Array.getElem?_modify] at he
                  by_cases hin : n = i
                  · rw [if_pos hin] at he
                    subst hin
                    rw [hmn] at he
                    simp only [Option.map_some, Option.some.injEq] at he
                    subst he
                    exact g5 n e hmn
                  · rw [if_neg hin] at he
                    exact g5 i e' he
            obtain ⟨ms', cl', k1, k2, k3, k4⟩ := key
            have hbk : blk (.map (.i kd' es)) (G p) = some b := by rw [hgb]; rfl
            have hbk' : blk (.map (.i kd' (mputI kk cs es))) (G p) = some b := by rw [hgb]; rfl
            have hext : Ext (fun c => c = b) M w M { w with heap := w.heap.setIfInBounds b (.map ms' cl') } :=
              ⟨fun _ _ e => e, by simp, rfl, rfl, rfl, fun c _ hc => by simp [Array.getElem?_setIfInBounds_ne (Ne.symm hc)], fun _ _ e => .inl e⟩
            have hob : Vf M G { w with heap := w.heap.setIfInBounds b (.map ms' cl') } (.map (.i kd' (mputI kk cs es))) (G p) :=
              ⟨b, ms', cl', hgb, by simp [hblt], k2.trans (A16 _).symm, N1l k3, k4, g6⟩
            have ho' : o.op = .mapUpdate t x y z ∨ o.op = .insert t x y z := by
              unfold U1p at ho
              split at ho
              · rename_i h8; cases ho; exact .inl h8
              · rename_i h8; cases ho; exact .inr h8
              · cases ho
            have hr : (execOp a.eval o).run F.C.P w = .ok .skip { w with heap := w.heap.setIfInBounds b (.map ms' cl') } := by
              unfold execOp
              rcases ho' with ho' | ho' <;> simp only [ho', hxv, hyv, hzv, Sem.run_bind, k1, Result.andThen_ok, Sem.run_pure]
            unfold Oper.wp
            rw [hr]
            refine hk .junk env _ M G _ undef ?_ (hs.setOb (G5 hdok) hp hbk hbk' hext hMb hob .junk) (hsi.setOb hp hbk hbk' rfl hext)
            rw [hdst]
            exact k
          · cases h
        · cases h
      · cases h
    · cases h
  · cases h
def S1n (kd : IntKind) (L : List Oper) (o : Oper) (env : Env) (H : O0) : Option (Option Nat × Nat × O0) :=
  match G1 L env o, o.op, U7 o with
  | some true, .makeMap _ none, some d => match Do H (.map (.i kd [])) with | some (n, H') => some (d, n, H') | none => none
  | _, _, _ => none
theorem L0.wi (kd : IntKind) {F : Fx} {L l : List Oper} {o : Oper} {env : Env} {H H' : O0} {Q : Env → O0 → Prop} {d : Option Nat} {n : Nat} (h : S1n kd L o env H = some (d, n, H')) (k : L0 F L l (put env d (.mp n)) H' Q) : L0 F L (o :: l) env H Q := by
  unfold S1n at h
  split at h
  · rename_i t d' hw ho hd
    split at h
    · rename_i n' H2 hp
      simp only [Option.some.injEq, Prod.mk.injEq] at h
      obtain ⟨rfl, rfl, rfl⟩ := h
      obtain ⟨rfl, rfl⟩ := Vi hp
      refine Ic hw fun fr M G w a K Qw hK hdok hs hsi hk => ?_
      have hr : (execOp a.eval o).run F.C.P w = .ok (.value (.map (some w.heap.size))) (w.alloc (.map #[] 0)) := by
        unfold execOp
        simp only [ho, Instr.makeMap]
        rfl
      have hg : O8 M (w.alloc (.map #[] 0)) := hs.good.alloc _
      unfold Oper.wp
      rw [hr]
      have hob : ∀ G, Vf M G (w.alloc (.map #[] 0)) (.map (.i kd [])) (.map (some w.heap.size)) := fun G => ⟨w.heap.size, #[], 0, rfl, heap_alloc_new w _, rfl, fun i k cs e h => by simp [Ro.list] at h, fun i e h => by simp at h, fun off sp => by
        cases hM : M ⟨w.heap.size, off, sp⟩ with
        | none => rfl
        | some v => have := hs.good.lt hM; simp at this⟩
      have hb : ∀ b, blk (.map (.i kd [])) (.map (some w.heap.size)) = some b → w.heap.size ≤ b := fun b hb => by simp [blk] at hb; omega
      refine hk (.mp H.length) env _ M (V8 G H.length (.map (some w.heap.size))) _ _ ?_ (hs.newOb (G5 hdok) (Li Z7 M w _) hg hob hb (.mp V4)) (hsi.newOb (Li Z7 M w _) hb)
      rw [A5 hd]
      exact k
    · cases h
  · cases h
theorem L0.mi {F : Fx} (hC : W1 F.C) {L l : List Oper} {o : Oper} {env : Env} {H : O0} {Q : Env → O0 → Prop} {d : Option Nat} {es : List (Int × Row)} {k : Int} {ok : Bool} {z y : A} (h : P12 F.C L o env H = some ⟨d, es, k, ok, z⟩) (e : lkA (Eo k es) z ok = y)
    (kk : L0 F L l (put env d y) H Q) : L0 F L (o :: l) env H Q := by
  subst e
  obtain ⟨h1, h2⟩ := G18 h
  refine .yields h1 (Q12 hC h rfl) ?_
  rw [A5 h2]
  exact kk
theorem AG.mi {C : Cx} (hC : W1 C) {L l : List Oper} {o : Oper} {env : Env} {cnd : Cnd} {H : O0} {Q : Env → Cnd → Prop} {W : Option Bool} {d : Option Nat} {es : List (Int × Row)} {k : Int} {ok : Bool} {z y : A} (hw : Ol L env cnd o = some W)
    (h : P12 C [] (noG o) env H = some ⟨d, es, k, ok, z⟩) (hs : holds W → Ih cnd (At o)) (e : lkA (Eo k es) z ok = y) (kk : AG C L l (put env d y) (Fg cnd d W) H Q) : AG C L (o :: l) env cnd H Q := by
  subst e
  exact .lift (G18 h).2 hw hs (fun _ => Q12 hC h rfl) kk
def I1c (C : Cx) (L : List Oper) (o : Oper) (env : Env) (H : O0) : Option (Nat × IntKind × Int × Row × List (Int × Row)) :=
  match G1 L env o, U1p o.op, o.dst with
  | some true, some (t, x, y, z), none => match R2 C.T t, ev C.GL env x, ev C.GL env y, F12 (ev C.GL env z) with
    | some i, .mp p, .d (.int kd k), some cs => match i.u, nth H p with
      | .map kt _, some (.map (.i kd' es)) => match R2 C.T kt with
        | some ki => match ki.u with
          | .int k3 => bif decide (k3 = kd ∧ kd' = kd) then some (p, kd, k, cs, es) else none
          | _ => none
        | none => none
      | _, _ => none
    | _, _, _, _ => none
  | _, _, _ => none
theorem O1l {C : Cx} {L : List Oper} {o : Oper} {env : Env} {H : O0} {p : Nat} {kd : IntKind} {k : Int} {cs : Row} {es : List (Int × Row)} (h : I1c C L o env H = some (p, kd, k, cs, es)) {H' : O0} (h' : Nj H p (.map (.i kd (mputI k cs es))) = some H') : U1a C L o env H = some H' := by
  unfold I1c at h
  unfold U1a
  split at h
  · split at h
    · split at h
      · split at h
        · split at h
          · obtain ⟨hb, h⟩ := U13 h
            simp only [Option.some.injEq, Prod.mk.injEq] at h
            obtain ⟨rfl, rfl, rfl, rfl, rfl⟩ := h
            simp_all only [cond_true]
          · cases h
        · cases h
      · cases h
    · cases h
  · cases h
theorem L0.ui {F : Fx} (hC : W1 F.C) {L l : List Oper} {o : Oper} {env : Env} {H H' : O0} {Q : Env → O0 → Prop} {p : Nat} {kd : IntKind} {k : Int} {cs : Row} {es es2 : List (Int × Row)} (h : I1c F.C L o env H = some (p, kd, k, cs, es)) (e : mputI k cs es = es2) (h' : Nj H p (.map (.i kd es2)) = some H')
    (kk : L0 F L l env H' Q) : L0 F L (o :: l) env H Q := by subst e; exact .u_i hC (O1l h h') kk
def Ym {α : Type} (k : Int) : List (Int × α) → Option α
  | [] => none
  | (k', x) :: r => bif k == k' then some x else Ym k r
def Px {α : Type} (k : Int) (x : α) : List (Int × α) → List (Int × α)
  | [] => [(k, x)]
  | (k', y) :: r => bif k == k' then (k, x) :: r else (k', y) :: Px k x r
section
variable {α : Type} {f : α → Row} {h : α → A}
def entsI (f : α → Row) (m : List (Int × α)) : List (Int × Row) := m.map fun p => (p.1, f p.2)
theorem B16 (f : α → Row) (k : Int) : ∀ m : List (Int × α), Eo k (entsI f m) = (Ym k m).map f
  | [] => rfl
  | (k', x) :: r => by
    show (bif k == k' then some (f x) else Eo k (entsI f r)) = (bif k == k' then some x else Ym k r).map f
    rw [B16 f k r]
    cases k == k' <;> rfl
theorem S1d (f : α → Row) (k : Int) (x : α) : ∀ m : List (Int × α), entsI f (Px k x m) = mputI k (f x) (entsI f m)
  | [] => rfl
  | (k', y) :: r => by
    show entsI f (bif k == k' then (k, x) :: r else (k', y) :: Px k x r) = (bif k == k' then (k, f x) :: entsI f r else (k', f y) :: mputI k (f x) (entsI f r))
    rw [← S1d f k x r]
    cases k == k' <;> rfl
theorem V1s (hf : ∀ x, Ge (f x) = h x) {z : α} {za : A} (hz : za = h z) {k : Int} {m : List (Int × α)} {x : Option α} (hx : some (Ym k m) = some x) : lkA (Eo k (entsI f m)) za true = .tup [h (x.getD z), .d (.bool x.isSome)] := by
  cases hx
  rw [B16]
  cases Ym k m with
  | none => simp [lkA, hz]
  | some y => simp [lkA, hf]
theorem W1s (hf : ∀ x, Ge (f x) = h x) {z : α} {za : A} (hz : za = h z) {k : Int} {m : List (Int × α)} {x : Option α} (hx : some (Ym k m) = some x) : lkA (Eo k (entsI f m)) za false = h (x.getD z) := by
  cases hx
  rw [B16]
  cases Ym k m with
  | none => simp [lkA, hz]
  | some y => simp [lkA, hf]
end
end Go.Am

namespace Go.Am
def T1n (C : Cx) (L : List Oper) (o : Oper) (env : Env) : Option (Option Nat × Nat × Int × Nat × Nat) :=
  match G1 L env o, o.op, U7 o with
  | some true, .makeSlice t lx cx, some d => match R2 C.T t, ev C.GL env lx, ev C.GL env cx with
    | some i, .d (.int .i64 (.ofNat 0)), .d (.int .i64 m) => match i.u with
      | .sl e => match R2 C.T e with
        | some j => some (d, e, m, j.bytes, j.size)
        | none => none
      | _ => none
    | _, _, _ => none
  | _, _, _ => none
theorem L0.mz {F : Fx} (hC : W1 F.C) {L l : List Oper} {o : Oper} {env : Env} {H H' : O0} {Q : Env → O0 → Prop} {d : Option Nat} {e p : Nat} {m : Int} {bytes sz : Nat} (h : T1n F.C L o env = some (d, e, m, bytes, sz))
    (h0 : 0 ≤ m ∧ m.toNat * (bytes + 1) ≤ 140737488355328) (hp : Do H (.tok e sz) = some (p, H')) (k : L0 F L l (put env d (.osl p [])) H' Q) : L0 F L (o :: l) env H Q := by
  unfold T1n at h
  split at h
  · rename_i t lx cx d' hw ho hd
    split at h
    · rename_i i m' ht hlx hcx
      split at h
      · rename_i e' hu
        split at h
        · rename_i j he
          simp only [Option.some.injEq, Prod.mk.injEq] at h
          obtain ⟨rfl, rfl, rfl, rfl, rfl⟩ := h
          obtain ⟨rfl, rfl⟩ := Vi hp
          obtain ⟨hn0, hroom⟩ := h0
          obtain ⟨N, rfl⟩ : ∃ N : Nat, m' = N := ⟨m'.toNat, by omega⟩
          simp only [Int.toNat_natCast] at *
          have hNle : N ≤ 140737488355328 := Nat.le_trans (Nat.le_mul_of_pos_right N (Nat.succ_pos _)) hroom
          refine Ic hw fun fr M G w a K Qw hK hdok hs hsi hk => ?_
          have hx1 := hs.eval lx
          have hx2 := hs.eval cx
          rw [hlx] at hx1
          rw [hcx] at hx2
          generalize hv1 : a.eval lx = v1 at hx1
          generalize hv2 : a.eval cx = v2 at hx2
          cases hx1; rename_i hx1; cases hx1
          cases hx2; rename_i hx2; cases hx2
          have hdd := Lh (hC.tok.facts ht) hu
          obtain ⟨j', q1, q2, q3, z1, q4, q5, q6, q7⟩ := (hC.tok.facts he).info
          have hbytes : ((j'.bytes : Int) * (N : Int)) ≤ 281474976710656 := by
            have h1 : j.bytes * N ≤ 140737488355328 := Nat.le_trans (by rw [Nat.mul_comm]; exact Nat.mul_le_mul_left N (Nat.le_succ _)) hroom
            have h2 : ((j.bytes * N : Nat) : Int) = (j.bytes : Int) * (N : Int) := by simp
            rw [q3]
            omega
          have hrun : (execOp a.eval o).run F.C.P w = .ok (.value (.slice (some ⟨w.heap.size, 0, none⟩) 0 N)) (w.alloc (.cells (madeCells z1.cells (N * j'.size)) e')) := by
            have := run_make (P := F.C.P) w t e' j' z1 hdd q1 q4 .i64 .i64 0 N (Int.le_refl _) (by omega) hbytes (by omega)
            simp only [Int.toNat_natCast, Int.toNat_zero] at this
            unfold execOp
            simp only [ho, hv1, hv2, Int.ofNat_eq_natCast, Int.cast_ofNat_Int, Sem.run_bind, this, Result.andThen_ok, Sem.run_pure]
          have hml : N ≤ maxLen := by unfold maxLen; omega
          have hM : ∀ off sp, M ⟨w.heap.size, off, sp⟩ = none := fun off sp => by
            cases hM : M ⟨w.heap.size, off, sp⟩ with
            | none => rfl
            | some v => have := hs.good.lt hM; simp at this
          have hob : Vf M G (w.alloc (.cells (madeCells z1.cells (N * j'.size)) e')) (.tok e' j.size) (.slice (some ⟨w.heap.size, 0, none⟩) 0 N) :=
            .inr ⟨_, 0, N, rfl, .inr rfl, Nat.zero_le _, hml, fun _ => ⟨rfl, _, heap_alloc_new w _, by rw [size_madeCells, q2]; exact Nat.le_refl _, fun k sp _ => hM k sp⟩⟩
          have hb : ∀ b, blk (.tok e' j.size) (.slice (some ⟨w.heap.size, 0, none⟩) 0 N) = some b → w.heap.size ≤ b := fun b hb => by
            simp only [blk] at hb
            split at hb
            · simp only [Option.some.injEq] at hb; omega
            · cases hb
          unfold Oper.wp
          rw [hrun]
          rw [← A5 hd] at k
          refine hk _ _ _ _ _ _ _ k (hs.newTok (G5 hdok) (Li Z7 M w _) (hs.good.alloc _) hob hb (.osl (.sl 0 (fun _ _ => undef) rfl (Nat.zero_le _) hml (.inr rfl) (fun i r h => by simp at h) (fun i j r x h => by simp at h) (fun i j r x h => by simp at h)) V4)) (hsi.newTok (Li Z7 M w _) hb)
        · cases h
      · cases h
    · cases h
  · cases h
theorem U1n {ps : List Nat} {H : O0} {p : Nat} {x : Ob} (hp : p < H.length) (hn : ps.contains p = false) : Vc (T4 ps H) p x = T4 ps (Vc H p x) := by
  apply List.ext_getElem?
  intro n
  rw [R9 _ _ _ _ (by rw [Gg]; exact hp), Mh, Mh, R9 _ _ _ _ hp]
  by_cases e : n = p
  · subst e
    rw [if_pos rfl, if_pos rfl, Option.map_some, hn]
    rfl
  · rw [if_neg e, if_neg e]
theorem V1a : ∀ (H : O0) (n : Nat) (x : Ob), Nj H n x = some (Vc H n x)
  | [], _, _ => rfl
  | _ :: _, 0, _ => rfl
  | y :: r, n + 1, x => by simp only [Nj, Vc, V1a r n x]
theorem Z1i {C : Cx} {L : List Oper} {o : Oper} {env env' : Env} {H : O0} (h : ∀ t ∈ Oc L o, env' t = env t) : Us C L o env' H = Us C L o env H := by
  have hop : ∀ y ∈ o.op.operands, ev C.GL env' y = ev C.GL env y := fun y hy => Az fun t ht => h t (by
    subst ht
    simp only [Oc, List.mem_append, List.mem_filterMap]
    exact .inl ⟨.tmp t, by simpa using hy, rfl⟩)
  unfold Us
  rw [Ir h]
  split
  · rename_i t x y hw ho hd
    rw [hop x (by rw [ho]; simp [Op.operands]), hop y (by rw [ho]; simp [Op.operands])]
  · rfl
def P1g (C : Cx) (o : Oper) (env : Env) : Option Nat :=
  match o.op with
  | .store _ x _ => match ev C.GL env x with | .ref p _ => some p | _ => none
  | _ => none
theorem Sw.s {F : Fx} (hC : W1 F.C) {L : List Oper} {o : Oper} {env : Env} {H H' : O0} {un : List Nat} {p : Nat} (h : Us F.C L o env H = some H') (hp : P1g F.C o env = some p) (hun : un.contains p = false) :
    ∀ ps : List Nat, (∀ q ∈ ps, q ∈ un) → Sw F L o env (T4 ps H) .junk (T4 ps H') := by
  intro ps hps env' K he Q hq
  have hpn : ps.contains p = false := by
    cases hb : ps.contains p with
    | false => rfl
    | true =>
      have h1 := hps p (by simpa using hb)
      have h2 : un.contains p = true := by simpa using h1
      rw [hun] at h2; cases h2
  have h' : Us F.C L o env' (T4 ps H) = some (T4 ps H') := by
    rw [Z1i he]
    unfold Us at h ⊢
    split at h
    · rename_i t x y hw ho hd
      unfold P1g at hp
      rw [ho] at hp
      simp only at hp
      split at h
      · rename_i i p' off xs ht hx hxs
        rw [hx] at hp
        simp only [Option.some.injEq] at hp
        subst hp
        split at h
        · rename_i cells e hn
          have hn' : nth (T4 ps H) p' = some (.row cells e) := by
            rw [X3] at hn ⊢
            rw [Mh, hn, Option.map_some, hpn]
            rfl
          simp only [hn']
          cases hb : Nat.beq xs.length i.size && Nat.ble (off + i.size) cells.length with
          | false => rw [hb] at h; cases h
          | true =>
            rw [hb] at h
            simp only [_root_.cond_true] at h
            split at h
            · rename_i cs hcs
              show Nj (T4 ps H) p' (Ob.row cs e) = _
              have e1 := Nr h
              subst e1
              rw [X3] at hn
              have hlt := (List.getElem?_eq_some_iff.1 hn).1
              have : Nj (T4 ps H) p' (.row cs e) = some (Vc (T4 ps H) p' (.row cs e)) := V1a _ _ _
              exact this.trans (by rw [U1n hlt hpn])
            · cases h
        · cases h
      · cases h
    · cases h
  have hd : o.dst = none := by
    unfold Us at h
    split at h
    · rename_i hd; exact hd
    · cases h
  rw [hd] at hq
  exact L0.s (F := ⟨F.C, F.N, K⟩) hC h' (L0.nil hq)
section
variable {F : Fx} {L l : List Oper} {o : Oper} {env : Env} {ls : List Nat} {fs : List (Nat × Nat)} {Hs : List O0} {j i : Nat} {Q : Env → Prop}
theorem AS.s (hC : W1 F.C) {H H' : O0} {p : Nat} (h1 : nth ls i = some j) (hf : Wl fs j = none) (h2 : nth Hs i = some H) (h3 : nth Hs (i + 1) = some H') (h : Us F.C L o env H = some H') (hp : P1g F.C o env = some p)
    (hun : (unw L fs j).contains p = false) (k : AS F L ls fs Hs (j + 1) (i + 1) l env Q) : AS F L ls fs Hs j i (o :: l) env Q := by
  have hw : G1 L env o = some true ∧ o.dst = none := by
    unfold Us at h
    split at h
    · rename_i hw ho hd; exact ⟨hw, hd⟩
    · cases h
  exact .inr (.inl ⟨.junk, H, H', h1, hf, hw.1, h2, h3, Sw.s hC h hp hun, by rw [hw.2]; exact k⟩)
end
end Go.Am

namespace Go.Am
section
variable {P : Program} {M : Mem} {G : Nat → Value} {w : World}
end
end Go.Am

namespace Go.Am
end Go.Am

namespace Go.Am
section
variable {F : Fx} {L l : List Oper} {o : Oper} {env : Env} {ls : List Nat} {fs : List (Nat × Nat)} {Hs : List O0} {j i : Nat} {Q : Env → Prop}
end
end Go.Am

