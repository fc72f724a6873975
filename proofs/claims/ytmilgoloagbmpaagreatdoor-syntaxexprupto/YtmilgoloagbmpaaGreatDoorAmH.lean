/-
  The abstract machine: a region that draws its order. Its first n operations are quiet, in whatever order; the rest come in the text's order behind all of them.
-/
import Derived.Test.YtmilgoloagbmpaaGreatDoorAmG
namespace Go.Am

/-- one quiet operation of the text: what it yields, or that it is not wanted -/
def StepQ (C : Cx) (L : List Oper) (o : Oper) (env : Env) (H : Heap) (x : A) : Prop :=
  (wantedA L env o = some true ∧ Yields C o env H x) ∨ (wantedA L env o = some false ∧ x = .tup [])

/-- quiet operations, in the text's order -/
def AQ (C : Cx) (L : List Oper) : List Oper → Env → Heap → (Env → Prop) → Prop
  | [], env, _, Q => Q env
  | o :: r, env, H, Q => ∃ d x, o.dst = d ∧ StepQ C L o env H x ∧ AQ C L r (put env d x) H Q

theorem AQ.nil {C : Cx} {L : List Oper} {env : Env} {H : Heap} {Q : Env → Prop} (h : Q env) : AQ C L [] env H Q := h

theorem AQ.q {C : Cx} (hC : CxOk C) {L l : List Oper} {o : Oper} {env : Env} {H : Heap} {Q : Env → Prop} {d : Option Nat} {c : Prop} {x : A} (h : stepA C L o env H = some (d, c, x)) (hc : c) (k : AQ C L l (put env d x) H Q) : AQ C L (o :: l) env H Q := by
  unfold stepA at h
  split at h
  · rename_i hw
    split at h
    · rename_i c' x' ho
      split at h
      · rename_i y hy
        have hyx := frc_eq hy
        subst hyx
        have : o.dst = d ∧ c' = c ∧ y = x := by
          split at h
          · rename_i t ht
            simp only [Option.some.injEq, Prod.mk.injEq] at h
            exact ⟨ht.trans h.1, h.2.1, h.2.2⟩
          · rename_i ht
            simp only [Option.some.injEq, Prod.mk.injEq] at h
            exact ⟨ht.trans h.1, h.2.1, h.2.2⟩
        obtain ⟨rfl, rfl, rfl⟩ := this
        exact ⟨_, _, rfl, .inl ⟨hw, yields_op hC ho hc⟩, k⟩
      · cases h
    · cases h
  · rename_i hw
    have : o.dst = d ∧ A.tup [] = x := by
      split at h
      · rename_i t ht
        simp only [Option.some.injEq, Prod.mk.injEq] at h
        exact ⟨ht.trans h.1, h.2.2⟩
      · rename_i ht
        simp only [Option.some.injEq, Prod.mk.injEq] at h
        exact ⟨ht.trans h.1, h.2.2⟩
    obtain ⟨rfl, rfl⟩ := this
    exact ⟨_, _, rfl, .inr ⟨hw, rfl⟩, k⟩
  · cases h

theorem AQ.c {C : Cx} {L l : List Oper} {o : Oper} {env : Env} {H : Heap} {Q : Env → Prop} {d : Option Nat} {f : FuncId} {xs : List A} {x : A} (h : stepC C L o env = some (d, f, xs)) (hn : namesLtL 0 xs = true)
    (hc : ACall C f xs [] (fun r H' => H' = [] ∧ r = x)) (k : AQ C L l (put env d x) H Q) : AQ C L (o :: l) env H Q := by
  obtain ⟨h1, h2, rfl⟩ := stepC_spec h
  exact ⟨_, x, rfl, .inl ⟨h1, yields_call h2 hn hc⟩, k⟩

theorem AQ.i {C : Cx} (hC : CxOk C) {L l : List Oper} {o : Oper} {env : Env} {H : Heap} {Q : Env → Prop} {d : Option Nat} {rows : List (List D)} {n : Int} {sz : Nat} (h : stepI C L o env = some (d, rows, n, sz)) {k : Nat} {r : List D} (hn : n = k)
    (hk : rows[k]? = some r) (hsz : Nat.beq r.length sz = true) (kk : AQ C L l (put env d (.ptr r)) H Q) : AQ C L (o :: l) env H Q := by
  obtain ⟨h1, rfl⟩ := stepI_spec h
  exact ⟨_, _, rfl, .inl ⟨h1, yields_index hC h hn hk hsz⟩, kk⟩

theorem AQ.y {C : Cx} {L l : List Oper} {o : Oper} {env : Env} {H : Heap} {Q : Env → Prop} {d : Option Nat} (x : A) (hd : dstF o = some d) (hw : wantedA L env o = some true) (hy : Yields C o env H x) (k : AQ C L l (put env d x) H Q) : AQ C L (o :: l) env H Q :=
  ⟨d, x, dstF_eq hd, .inl ⟨hw, hy⟩, k⟩

/-! ### what the region must be like -/

def readsOf (L : List Oper) (o : Oper) : List Nat :=
  (o.op.operands.toList.filterMap fun | .tmp t => some t | _ => none) ++ (match o.guard with | some (j, _) => (match nth L j with | some p => p.dst.toList | none => []) | none => [])

/-- does operation j wait for operation i? -/
def waits (L : List Oper) : Nat → Nat → Nat → Bool
  | 0, _, _ => false
  | f + 1, j, i => match nth L j with
    | some o => o.after.toList.any fun e => Region.binds .any e && (Nat.beq e.on i || waits L f e.on i)
    | none => false

def clash (L : List Oper) (i j : Nat) : Bool :=
  match nth L i, nth L j with
  | some p, some q => (match p.dst with | some d => (readsOf L q).contains d || q.dst == some d | none => false) || (match q.dst with | some d => (readsOf L p).contains d | none => false)
  | _, _ => false

def drawOk (L : List Oper) (n : Nat) : Bool :=
  (List.range L.length).all fun j =>
    (match nth L j with | some o => o.after.toList.all fun e => !Region.binds .any e || Nat.blt e.on j | none => true) &&
    (List.range j).all fun i => !(clash L i j || Nat.ble n j) || waits L L.length j i

section
variable {L : List Oper}

theorem waits_listed {listed : Array Bool} (hc : ∀ (j : Nat) o, L[j]? = some o → listed.getD j false = true → ∀ e ∈ o.after, Region.binds .any e = true → listed.getD e.on false = true) :
    ∀ (f j i : Nat), waits L f j i = true → listed.getD j false = true → listed.getD i false = true
  | 0, _, _, h, _ => by simp [waits] at h
  | f + 1, j, i, h, hj => by
    simp only [waits, nth_eq] at h
    split at h
    · rename_i o ho
      obtain ⟨e, he, hb⟩ := List.any_eq_true.1 h
      simp only [Bool.and_eq_true, Bool.or_eq_true] at hb
      have hl := hc j o ho hj e (by simpa using he) hb.1
      rcases hb.2 with h1 | h1
      · have := Nat.eq_of_beq_eq_true h1
        subst this
        exact hl
      · exact waits_listed hc f e.on i h1 hl
    · cases h

theorem waits_ready {listed : Array Bool} (hc : ∀ (j : Nat) o, L[j]? = some o → listed.getD j false = true → ∀ e ∈ o.after, Region.binds .any e = true → listed.getD e.on false = true) {j : Nat} {o : Oper} (ho : L[j]? = some o)
    (hr : ∀ e ∈ o.after, Region.binds .any e = true → listed.getD e.on false = true) : ∀ (f i : Nat), waits L f j i = true → listed.getD i false = true
  | 0, _, h => by simp [waits] at h
  | f + 1, i, h => by
    simp only [waits, nth_eq, ho] at h
    obtain ⟨e, he, hb⟩ := List.any_eq_true.1 h
    simp only [Bool.and_eq_true, Bool.or_eq_true] at hb
    have hl := hr e (by simpa using he) hb.1
    rcases hb.2 with h1 | h1
    · have := Nat.eq_of_beq_eq_true h1
      subst this
      exact hl
    · exact waits_listed hc f e.on i h1 hl

/-- the last of the first m operations, of those that are marked, that writes t -/
def lastW (L : List Oper) (sel : Nat → Bool) (t : Nat) : Nat → Option Nat
  | 0 => none
  | m + 1 => if sel m = true ∧ (L[m]?).bind (·.dst) = some t then some m else lastW L sel t m

theorem lastW_some {sel : Nat → Bool} {t : Nat} : ∀ {m i : Nat}, lastW L sel t m = some i → i < m ∧ sel i = true ∧ (L[i]?).bind (·.dst) = some t
  | 0, i, h => by simp [lastW] at h
  | m + 1, i, h => by
    simp only [lastW] at h
    split at h
    · rename_i hc
      simp only [Option.some.injEq] at h
      subst h
      exact ⟨Nat.lt_succ_self _, hc.1, hc.2⟩
    · obtain ⟨h1, h2⟩ := lastW_some h
      exact ⟨Nat.lt_succ_of_lt h1, h2⟩

theorem lastW_congr {s s' : Nat → Bool} {t : Nat} : ∀ {m : Nat}, (∀ i, i < m → (L[i]?).bind (·.dst) = some t → s i = s' i) → lastW L s t m = lastW L s' t m
  | 0, _ => rfl
  | m + 1, h => by
    simp only [lastW]
    have ih := lastW_congr (m := m) (fun i hi => h i (Nat.lt_succ_of_lt hi))
    by_cases hd : (L[m]?).bind (·.dst) = some t
    · rw [h m (Nat.lt_succ_self _) hd, ih]
    · rw [if_neg (fun hc => hd hc.2), if_neg (fun hc => hd hc.2), ih]

theorem lastW_cut {s : Nat → Bool} {t i : Nat} : ∀ {m : Nat}, i ≤ m → (∀ j, i ≤ j → j < m → (L[j]?).bind (·.dst) = some t → s j = false) → lastW L s t m = lastW L s t i
  | 0, h, _ => by have : i = 0 := by omega
                  subst this; rfl
  | m + 1, h, hj => by
    by_cases he : i = m + 1
    · subst he; rfl
    · simp only [lastW]
      rw [if_neg]
      · exact lastW_cut (by omega) (fun j h1 h2 => hj j h1 (Nat.lt_succ_of_lt h2))
      · intro hc
        have := hj m (by omega) (Nat.lt_succ_self _) hc.2
        rw [this] at hc
        cases hc.1

def envOf (L : List Oper) (env : Env) (out : Nat → A) (sel : Nat → Bool) (m : Nat) : Env := fun t => match lastW L sel t m with | some i => out i | none => env t

theorem envOf_zero {env : Env} {out : Nat → A} {sel : Nat → Bool} : envOf L env out sel 0 = env := rfl

theorem envOf_succ {env : Env} {out : Nat → A} {m : Nat} {o : Oper} (ho : L[m]? = some o) : envOf L env out (fun _ => true) (m + 1) = put (envOf L env out (fun _ => true) m) o.dst (out m) := by
  funext t
  simp only [envOf, lastW, ho, Option.bind_some, true_and]
  cases hd : o.dst with
  | none => simp [put, envOf]
  | some d =>
    simp only [put, upd, Option.some.injEq]
    by_cases h : d = t
    · subst h; simp
    · rw [if_neg h]
      have : Nat.beq t d = false := by
        cases hb : Nat.beq t d with
        | false => rfl
        | true => exact absurd (Nat.eq_of_beq_eq_true hb).symm h
      rw [this]
      rfl
end

theorem ev_congr {GL : GT} {env env' : Env} {y : Operand} (h : ∀ t, y = .tmp t → env t = env' t) : ev GL env y = ev GL env' y := by
  cases y with
  | tmp t => exact h t rfl
  | _ => rfl

theorem wantedA_congr {L : List Oper} {env env' : Env} {o : Oper} (h : ∀ t ∈ readsOf L o, env t = env' t) : wantedA L env o = wantedA L env' o := by
  unfold wantedA
  split
  · rfl
  · rename_i j want hg
    split
    · rename_i p hp
      split
      · rename_i d hd
        have : d ∈ readsOf L o := by simp [readsOf, hg, hp, hd]
        rw [h d this]
      · rfl
    · rfl

/-- the outcomes of the text's order -/
theorem AQ.outs {C : Cx} {L : List Oper} {env : Env} {H : Heap} {Q : Env → Prop} {n : Nat} (hn : n ≤ L.length) (h : AQ C L (L.take n) env H Q) :
    ∃ out : Nat → A, (∀ i o, i < n → L[i]? = some o → StepQ C L o (envOf L env out (fun _ => true) i) H (out i)) ∧ Q (envOf L env out (fun _ => true) n) := by
  have key : ∀ (m k : Nat) (out0 : Nat → A), k + m = n → (∀ i o, i < k → L[i]? = some o → StepQ C L o (envOf L env out0 (fun _ => true) i) H (out0 i)) →
      AQ C L ((L.take n).drop k) (envOf L env out0 (fun _ => true) k) H Q →
      ∃ out : Nat → A, (∀ i o, i < n → L[i]? = some o → StepQ C L o (envOf L env out (fun _ => true) i) H (out i)) ∧ Q (envOf L env out (fun _ => true) n) := by
    intro m
    induction m with
    | zero =>
      intro k out0 hk h0 hq
      have : k = n := by omega
      subst this
      rw [List.drop_eq_nil_of_le (by simp; omega)] at hq
      exact ⟨out0, h0, hq⟩
    | succ m ih =>
      intro k out0 hk h0 hq
      have hlt : k < n := by omega
      have hkl : k < L.length := by omega
      have e : (L.take n).drop k = L[k] :: (L.take n).drop (k + 1) := by
        rw [List.drop_eq_getElem_cons (by simp; omega)]
        simp
      rw [e] at hq
      obtain ⟨d, x, hd, hst, hrest⟩ := hq
      let out1 : Nat → A := fun i => if i = k then x else out0 i
      have hsame : ∀ i, i ≤ k → envOf L env out1 (fun _ => true) i = envOf L env out0 (fun _ => true) i := by
        intro i hi
        funext t
        simp only [envOf]
        cases hl : lastW L (fun _ => true) t i with
        | none => rfl
        | some j =>
          have := (lastW_some hl).1
          simp only [out1]
          rw [if_neg (by omega)]
      have hko : L[k]? = some L[k] := List.getElem?_eq_getElem hkl
      refine ih (k + 1) out1 (by omega) (fun i o hi ho => ?_) ?_
      · by_cases hik : i = k
        · subst hik
          rw [hko] at ho
          simp only [Option.some.injEq] at ho
          subst ho
          rw [hsame i (Nat.le_refl _)]
          simpa [out1] using hst
        · rw [hsame i (by omega)]
          have := h0 i o (by omega) ho
          simpa [out1, hik] using this
      · rw [envOf_succ hko, hsame k (Nat.le_refl _), hd]
        simpa [out1] using hrest
  exact key n 0 (fun _ => .junk) (by omega) (fun i o hi => by omega) (by simpa [envOf_zero] using h)

/-- how far the drawing has come -/
structure Drawn (L : List Oper) (n : Nat) (listed : Array Bool) : Prop where
  size : listed.size = L.length
  closed : ∀ (j : Nat) o, L[j]? = some o → listed.getD j false = true → ∀ e ∈ o.after, Region.binds .any e = true → listed.getD e.on false = true

theorem clash_symm {L : List Oper} {i j : Nat} (h : clash L i j = true) : clash L j i = true := by
  unfold clash at h ⊢
  cases hi : nth L i with
  | none => simp [hi] at h
  | some p =>
    cases hj : nth L j with
    | none => simp [hi, hj] at h
    | some q =>
      simp only [hi, hj] at h ⊢
      cases hp : p.dst with
      | none =>
        cases hq : q.dst with
        | none => simp [hp, hq] at h
        | some d => simp only [hp, hq] at h ⊢; simp at h ⊢; exact h
      | some d =>
        cases hq : q.dst with
        | none => simp only [hp, hq] at h ⊢; simp at h ⊢; exact h
        | some e =>
          simp only [hp, hq] at h ⊢
          simp at h ⊢
          rcases h with (h | h) | h
          · exact .inr h
          · exact .inl (.inr h.symm)
          · exact .inl (.inl h)

theorem getD_tf {listed : Array Bool} {i : Nat} (h : listed.getD i true = false) : listed.getD i false = false := by
  rcases Nat.lt_or_ge i listed.size with h' | h'
  · simp [h'] at h ⊢; exact h
  · simp [Array.getElem?_eq_none h'] at h

theorem drawOk_spec {L : List Oper} {n : Nat} (h : drawOk L n = true) : (∀ (j : Nat) o, L[j]? = some o → ∀ e ∈ o.after, Region.binds .any e = true → e.on < j) ∧
    ∀ i j, i < j → j < L.length → clash L i j = true ∨ n ≤ j → waits L L.length j i = true := by
  unfold drawOk at h
  refine ⟨fun j o ho e he hb => ?_, fun i j hij hj hc => ?_⟩
  · have h1 := List.all_eq_true.1 h j (List.mem_range.2 (List.getElem?_eq_some_iff.1 ho).1)
    simp only [Bool.and_eq_true, nth_eq, ho] at h1
    have h2 := List.all_eq_true.1 h1.1 e (by simpa using he)
    rw [hb] at h2
    simpa using h2
  · have h1 := List.all_eq_true.1 h j (List.mem_range.2 hj)
    simp only [Bool.and_eq_true] at h1
    have h2 := List.all_eq_true.1 h1.2 i (List.mem_range.2 hij)
    simp only [Bool.or_eq_true, Bool.not_eq_true', Bool.or_eq_false_iff] at h2
    rcases h2 with ⟨h3, h4⟩ | h2
    · rcases hc with hc | hc
      · rw [h3] at hc; cases hc
      · have := Nat.ble_eq_true_of_le hc; rw [h4] at this; cases this
    · exact h2

theorem count_set {listed : Array Bool} {i : Nat} (h : listed.getD i true = false) : (listed.setIfInBounds i true).toList.count true = listed.toList.count true + 1 := by
  have hi : i < listed.size := by
    rcases Nat.lt_or_ge i listed.size with h' | h'
    · exact h'
    · simp [Array.getElem?_eq_none h'] at h
  have hv : listed[i] = false := by simpa [hi] using h
  rw [Array.toList_setIfInBounds, List.count_set (by simpa using hi)]
  simp [hv]

theorem all_listed {L : List Oper} {listed : Array Bool} (hs : listed.size = L.length) (hc : listed.toList.count true = L.length) (i : Nat) (hi : i < L.length) : listed.getD i false = true := by
  have : listed.toList.count true = listed.toList.length := by simp [hc, hs]
  have h1 := List.count_eq_length.1 this
  have hi' : i < listed.size := by omega
  have : listed[i] ∈ listed.toList := by simp
  have := h1 _ this
  simp [hi', ← this]

theorem AEx.draw {F : Fx} (hC : CxOk F.C) {id : Nat} {L : List Oper} {env : Env} {H : Heap} {Q : Po} (n : Nat) (hd : L.all (dstOk F.N) = true) (hok : drawOk L n = true) (hnl : Nat.ble n L.length = true)
    (h : AQ F.C L (L.take n) env H (fun env' => AOps F L (L.drop n) env' H (After Q))) : AEx F (.region id L.toArray true) env H Q := by
  have hn := Nat.le_of_ble_eq_true hnl
  have hdst : ∀ (i : Nat) o, L[i]? = some o → dstOk F.N o = true := fun i o ho => List.all_eq_true.1 hd o (List.mem_of_getElem? ho)
  obtain ⟨out, houts, hQ⟩ := h.outs hn
  obtain ⟨hback, hwait⟩ := drawOk_spec hok
  intro fr M G w act hK hs hsi
  let Qw : Exit → Act → World → Prop := Fin F fr Q
  have hsz : L.toArray.size = L.length := by simp
  -- the tail, in the text's order
  have tail : ∀ (m k : Nat) (listed : Array Bool) (a : Act) (w : World), k + m = L.length → n ≤ k → Drawn L n listed → (∀ i, i < k → listed.getD i false = true) → (∀ i, k ≤ i → i < L.length → listed.getD i true = false) →
      wpList F.C.P L.toArray Qw (L.drop k) a w → wpAny F.C.P .any L.toArray Qw m listed a w := by
    intro m
    induction m with
    | zero =>
      intro k listed a w hk _ hD h1 _ hw
      have hk' : k = L.length := by omega
      have hready : Region.ready .any L.toArray listed = [] := by
        rw [List.eq_nil_iff_forall_not_mem]
        intro j hj
        obtain ⟨hu, o, ho, _⟩ := mem_ready.1 hj
        have hj' : j < L.length := by simpa using (Array.getElem?_eq_some_iff.1 ho).1
        have := h1 j (by omega)
        rw [getD_tf hu] at this
        cases this
      rw [List.drop_eq_nil_of_le (by omega)] at hw
      exact ⟨hready, hw⟩
    | succ m ih =>
      intro k listed a w hk hnk hD h1 h2 hw
      have hkl : k < L.length := by omega
      have hko : L[k]? = some L[k] := List.getElem?_eq_getElem hkl
      have hkr : k ∈ Region.ready .any L.toArray listed := mem_ready.2 ⟨h2 k (Nat.le_refl _) hkl, L[k], (by simp [hkl]), fun e he hb => h1 e.on (hback k _ hko e he hb)⟩
      refine ⟨fun h0 => (by rw [h0] at hkr; cases hkr), fun j hj => ?_⟩
      obtain ⟨hu, o, ho, hall⟩ := mem_ready.1 hj
      have hjl : j < L.length := by simpa using (Array.getElem?_eq_some_iff.1 ho).1
      have hjk : j = k := by
        rcases Nat.lt_trichotomy j k with hlt | he | hgt
        · have := h1 j hlt; rw [getD_tf hu] at this; cases this
        · exact he
        · have hw' := hwait k j hgt hjl (.inr (by omega))
          have := waits_ready hD.closed (by simpa using ho) (fun e he hb => hall e he hb) L.length k hw'
          rw [getD_tf (h2 k (Nat.le_refl _) hkl)] at this
          cases this
      subst hjk
      rw [List.drop_eq_getElem_cons hkl] at hw
      have hwp : wpOp F.C.P L.toArray Qw j (wpList F.C.P L.toArray Qw (L.drop (j + 1))) a w := by
        unfold wpOp
        simp only [List.getElem?_toArray, hko]
        exact hw
      refine wpOp_mono (fun a' w' hw' => ih (j + 1) _ a' w' (by omega) (by omega) ⟨by simp [hD.size], fun i o' ho' hl e he hb => ?_⟩ (fun i hi => ?_) (fun i hi hi' => ?_) hw') hwp
      · by_cases hij : j = i
        · subst hij
          have : o' = o := Option.some.inj (ho'.symm.trans (by simpa using ho))
          subst this
          exact getD_set_true (hall e he hb)
        · rw [getD_set_ne false hij] at hl
          exact getD_set_true (hD.closed i o' ho' hl e he hb)
      · by_cases hij : j = i
        · subst hij
          simp [hD.size, hkl]
        · rw [getD_set_ne false hij]
          exact h1 i (by omega)
      · rw [getD_set_ne true (by omega)]
        exact h2 i (by omega) hi'
  -- the head, in whatever order
  have head : ∀ (m : Nat) (listed : Array Bool) (M : Mem) (G : Nat → Value) (w : World) (a : Act), listed.toList.count true + m = L.length → Drawn L n listed → (∀ i, n ≤ i → i < L.length → listed.getD i true = false) →
      St F.C F.N M G w (envOf L env out (fun i => listed.getD i false) n) H a → Since fr M G w H → wpAny F.C.P .any L.toArray Qw m listed a w := by
    intro m
    induction m with
    | zero =>
      intro listed M G w a hm hD htl hs hsi
      have hall := all_listed hD.size (by omega)
      have hnL : n = L.length := by
        rcases Nat.lt_or_ge n L.length with h' | h'
        · have := hall n h'
          rw [getD_tf (htl n (Nat.le_refl _) h')] at this
          cases this
        · omega
      have henv : envOf L env out (fun i => listed.getD i false) n = envOf L env out (fun _ => true) n := by
        funext t
        simp only [envOf]
        rw [lastW_congr fun i hi _ => hall i (by omega)]
      rw [henv] at hs
      refine tail 0 n listed a w (by omega) (Nat.le_refl _) hD (fun i hi => hall i (by omega)) (fun i h1 h2 => by omega) ?_
      exact hQ fr M G w a Qw hK (fun o ho => List.all_eq_true.1 hd o (List.mem_of_mem_drop ho)) hs hsi fun env' H' M' G' w' a' hq hs' hsi' => ⟨.normal, _, _, _, _, rfl, hq, hs', hsi'⟩
    | succ m ih =>
      intro listed M G w a hm hD htl hs hsi
      by_cases hdone : ∀ i, i < n → listed.getD i false = true
      · -- all of the head is there
        have henv : envOf L env out (fun i => listed.getD i false) n = envOf L env out (fun _ => true) n := by
          funext t
          simp only [envOf]
          rw [lastW_congr fun i hi _ => hdone i hi]
        rw [henv] at hs
        have hcount : listed.toList.count true = n := by
          have hl : listed.toList = List.replicate n true ++ List.replicate (L.length - n) false := by
            apply List.ext_getElem?
            intro i
            by_cases hi : i < n
            · have hv := hdone i hi
              have hi' : i < listed.size := by rw [hD.size]; omega
              rw [List.getElem?_append_left (by simpa using hi), List.getElem?_replicate, if_pos hi, Array.getElem?_toList]
              simpa [hi'] using hv
            · by_cases hi2 : i < L.length
              · have hv := htl i (by omega) hi2
                have hi' : i < listed.size := by rw [hD.size]; omega
                rw [List.getElem?_append_right (by simp; omega), List.getElem?_replicate, if_pos (by simp; omega), Array.getElem?_toList]
                simpa [hi'] using hv
              · rw [List.getElem?_eq_none (by simp [hD.size]; omega), List.getElem?_eq_none (by simp; omega)]
          rw [hl, List.count_append, List.count_replicate, List.count_replicate]
          simp
        refine tail (m + 1) n listed a w (by omega) (Nat.le_refl _) hD hdone htl ?_
        exact hQ fr M G w a Qw hK (fun o ho => List.all_eq_true.1 hd o (List.mem_of_mem_drop ho)) hs hsi fun env' H' M' G' w' a' hq hs' hsi' => ⟨.normal, _, _, _, _, rfl, hq, hs', hsi'⟩
      · -- the least that is not there can come
        have hex : ∃ i, i < n ∧ listed.getD i false = false ∧ ∀ k, k < i → listed.getD k false = true := by
          have : ∃ i, i < n ∧ listed.getD i false = false := by
            rcases Classical.em (∃ i, i < n ∧ listed.getD i false = false) with h' | h'
            · exact h'
            · refine absurd (fun i hi => ?_) hdone
              cases hv : listed.getD i false with
              | true => rfl
              | false => exact absurd ⟨i, hi, hv⟩ h'
          obtain ⟨i, hi⟩ := this
          induction i using Nat.strongRecOn with
          | _ i ihi =>
            by_cases hk : ∃ k, k < i ∧ listed.getD k false = false
            · obtain ⟨k, hk1, hk2⟩ := hk
              exact ihi k hk1 ⟨by omega, hk2⟩
            · refine ⟨i, hi.1, hi.2, fun k hk' => ?_⟩
              cases hv : listed.getD k false with
              | true => rfl
              | false => exact absurd ⟨k, hk', hv⟩ hk
        obtain ⟨i0, hi0, hu0, hbelow⟩ := hex
        have hi0l : i0 < L.length := by omega
        have hi0o : L[i0]? = some L[i0] := List.getElem?_eq_getElem hi0l
        have hu0' : listed.getD i0 true = false := by
          have hi' : i0 < listed.size := by rw [hD.size]; omega
          simpa [hi'] using hu0
        have hr0 : i0 ∈ Region.ready .any L.toArray listed := mem_ready.2 ⟨hu0', L[i0], (by simp [hi0l]), fun e he hb => hbelow e.on (hback i0 _ hi0o e he hb)⟩
        refine ⟨fun h0 => (by rw [h0] at hr0; cases hr0), fun j hj => ?_⟩
        obtain ⟨hu, o, ho, hall⟩ := mem_ready.1 hj
        have hoL : L[j]? = some o := by simpa using ho
        have hjl : j < L.length := (List.getElem?_eq_some_iff.1 hoL).1
        have hjn : j < n := by
          rcases Nat.lt_or_ge j n with h' | h'
          · exact h'
          · have hw' := hwait i0 j (by omega) hjl (.inr h')
            have := waits_ready hD.closed hoL (fun e he hb => hall e he hb) L.length i0 hw'
            rw [hu0] at this
            cases this
        have hclash : ∀ k, k ≠ j → k < L.length → (clash L k j = true ∨ clash L j k = true) → (listed.getD k false = true ↔ k < j) := by
          intro k hkj hkl hc
          rcases Nat.lt_or_ge k j with hlt | hge
          · refine ⟨fun _ => hlt, fun _ => ?_⟩
            have hcc : clash L k j = true := by
              rcases hc with hc | hc
              · exact hc
              · exact clash_symm hc
            exact waits_ready hD.closed hoL (fun e he hb => hall e he hb) L.length k (hwait k j hlt hjl (.inl hcc))
          · refine ⟨fun hl => ?_, fun h' => by omega⟩
            have hcc : clash L j k = true := by
              rcases hc with hc | hc
              · exact clash_symm hc
              · exact hc
            have := waits_listed hD.closed L.length k j (hwait j k (by omega) hkl (.inl hcc)) hl
            rw [getD_tf hu] at this
            cases this
        have hread : ∀ t ∈ readsOf L o, envOf L env out (fun i => listed.getD i false) n t = envOf L env out (fun _ => true) j t := by
          intro t ht
          have hw : ∀ k, k ≠ j → (L[k]?).bind (·.dst) = some t → clash L k j = true := by
            intro k hkj hk
            unfold clash
            simp only [nth_eq, hoL]
            cases hk' : L[k]? with
            | none => rw [hk'] at hk; cases hk
            | some p =>
              rw [hk'] at hk
              simp only [Option.bind_some] at hk
              simp only [hk]
              have : (readsOf L o).contains t = true := by simpa using ht
              rw [this]
              simp
          have hlt : ∀ k, (L[k]?).bind (·.dst) = some t → k < L.length := by
            intro k hk
            cases hk' : L[k]? with
            | none => rw [hk'] at hk; cases hk
            | some p => exact (List.getElem?_eq_some_iff.1 hk').1
          simp only [envOf]
          have e1 : lastW L (fun i => listed.getD i false) t n = lastW L (fun i => decide (i < j)) t n := lastW_congr fun k hk hkd => by
            by_cases hkj : k = j
            · subst hkj
              simp [getD_tf hu]
            · have := hclash k hkj (hlt k hkd) (.inl (hw k hkj hkd))
              cases hb : listed.getD k false with
              | true => simp [this.1 hb]
              | false =>
                have : ¬ k < j := fun h' => by rw [this.2 h'] at hb; cases hb
                simp [this]
          have e2 : lastW L (fun i => decide (i < j)) t n = lastW L (fun i => decide (i < j)) t j := lastW_cut (by omega) fun k h1 h2 _ => by simp; omega
          have e3 : lastW L (fun i => decide (i < j)) t j = lastW L (fun _ => true) t j := lastW_congr fun k hk _ => by simp [hk]
          rw [e1, e2, e3]
        have hafter : envOf L env out (fun i => (listed.setIfInBounds j true).getD i false) n = put (envOf L env out (fun i => listed.getD i false) n) o.dst (out j) := by
          have hjs : j < listed.size := by rw [hD.size]; exact hjl
          have hset : ∀ k, (listed.setIfInBounds j true).getD k false = (decide (k = j) || listed.getD k false) := by
            intro k
            by_cases hk : j = k
            · subst hk; simp [hjs]
            · rw [getD_set_ne false hk]
              have : ¬ k = j := fun h' => hk h'.symm
              simp [this]
          funext t
          simp only [envOf, hset]
          cases hdo : o.dst with
          | none =>
            have : lastW L (fun i => decide (i = j) || listed.getD i false) t n = lastW L (fun i => listed.getD i false) t n := lastW_congr fun k hk hkd => by
              have : k ≠ j := fun h' => by subst h'; rw [hoL] at hkd; simp [hdo] at hkd
              simp [this]
            rw [this]
            rfl
          | some d =>
            simp only [put, upd]
            by_cases htd : t = d
            · subst htd
              have hbt : Nat.beq t t = true := by simp
              rw [hbt, _root_.cond_true]
              have e1 : lastW L (fun i => decide (i = j) || listed.getD i false) t n = lastW L (fun i => decide (i = j) || listed.getD i false) t (j + 1) := lastW_cut (by omega) fun k h1 h2 hkd => by
                have hkj : k ≠ j := by omega
                have hcl : clash L k j = true := by
                  unfold clash
                  cases hk' : L[k]? with
                  | none => rw [hk'] at hkd; cases hkd
                  | some p =>
                    rw [hk'] at hkd
                    simp only [Option.bind_some] at hkd
                    simp only [nth_eq, hoL, hk', hkd, hdo]
                    simp
                have := hclash k hkj (by omega) (.inl hcl)
                cases hb : listed.getD k false with
                | false => simp [hkj]
                | true => have := this.1 hb; omega
              rw [e1]
              simp [lastW, hoL, hdo]
            · have : Nat.beq t d = false := by
                cases hb : Nat.beq t d with
                | false => rfl
                | true => exact absurd (Nat.eq_of_beq_eq_true hb) htd
              rw [this, _root_.cond_false]
              have : lastW L (fun i => decide (i = j) || listed.getD i false) t n = lastW L (fun i => listed.getD i false) t n := lastW_congr fun k hk hkd => by
                have : k ≠ j := fun h' => by subst h'; rw [hoL] at hkd; simp [hdo] at hkd; exact htd hkd.symm
                simp [this]
              rw [this]
              rfl
        have hD' : Drawn L n (listed.setIfInBounds j true) := ⟨by simp [hD.size], fun i o' ho' hl e he hb => by
          by_cases hij : j = i
          · subst hij
            have : o' = o := Option.some.inj (ho'.symm.trans hoL)
            subst this
            exact getD_set_true (hall e he hb)
          · rw [getD_set_ne false hij] at hl
            exact getD_set_true (hD.closed i o' ho' hl e he hb)⟩
        have htl' : ∀ i, n ≤ i → i < L.length → (listed.setIfInBounds j true).getD i true = false := fun i h1 h2 => by
          rw [getD_set_ne true (by omega)]
          exact htl i h1 h2
        have hcnt : (listed.setIfInBounds j true).toList.count true + m = L.length := by rw [count_set hu]; omega
        have hwcongr : wantedA L (envOf L env out (fun i => listed.getD i false) n) o = wantedA L (envOf L env out (fun _ => true) j) o := wantedA_congr hread
        have hev : ∀ y ∈ o.op.operands, ev F.C.GL (envOf L env out (fun i => listed.getD i false) n) y = ev F.C.GL (envOf L env out (fun _ => true) j) y := by
          intro y hy
          refine ev_congr fun t ht => hread t ?_
          subst ht
          simp only [readsOf, List.mem_append, List.mem_filterMap]
          exact .inl ⟨.tmp t, by simpa using hy, rfl⟩
        unfold wpOp
        simp only [List.getElem?_toArray, hoL]
        rcases houts j o hjn hoL with ⟨hw, hy⟩ | ⟨hw, hx⟩
        · rw [wantedA_ok hs (hwcongr.trans hw)]
          simp only [if_true]
          refine .inl (hy M G w a _ Qw (fun y hyo => by rw [← hev y hyo]; exact hs.eval y) hs.good hs.gl hs.hrel fun v M' w' h1 h2 h3 => ?_)
          refine ih _ M' G w' _ hcnt hD' htl' ?_ (hsi.quiet h3)
          rw [hafter]
          exact hs.quiet (dstOk_spec (hdst j o hoL)) h1 h2 h3
        · rw [wantedA_ok hs (hwcongr.trans hw)]
          simp only [Bool.false_eq_true, if_false]
          refine ih _ M G w _ hcnt hD' htl' ?_ hsi
          rw [hafter, hx]
          exact hs.quiet (dstOk_spec (hdst j o hoL)) (.tup rfl fun i x v h => by simp at h) hs.good (Ext.refl _ _ _)
  refine wp_region_any hC.mixed ?_
  have h0 : ∀ i, (Array.replicate L.toArray.size false).getD i false = false := fun i => by
    rcases Nat.lt_or_ge i L.length with h' | h' <;> simp [h']
  have hs' : St F.C F.N M G { w with drawn := w.drawn + 1 } env H act :=
    ⟨fun a v e => hs.good a v e, hs.gl.ext hs.hrel (S := none') ⟨fun _ _ e => e, Nat.le_refl _, rfl, rfl, rfl, fun _ _ _ => rfl, fun _ _ e => .inl e⟩ (fun _ h => h.elim), hs.hrel.ext (S := none') ⟨fun _ _ e => e, Nat.le_refl _, rfl, rfl, rfl, fun _ _ _ => rfl, fun _ _ e => .inl e⟩ (fun _ _ h => h), hs.env, hs.size, hs.defers⟩
  have hsi' : Since fr M G { w with drawn := w.drawn + 1 } H := hsi.quiet ⟨fun _ _ e => e, Nat.le_refl _, rfl, rfl, rfl, fun _ _ _ => rfl, fun _ _ e => .inl e⟩
  have henv0 : envOf L env out (fun i => (Array.replicate L.toArray.size false).getD i false) n = env := by
    funext t
    simp only [envOf]
    cases hl : lastW L (fun i => (Array.replicate L.toArray.size false).getD i false) t n with
    | none => rfl
    | some i => have := (lastW_some hl).2.1; rw [h0] at this; cases this
  have := head L.length (Array.replicate L.toArray.size false) M G _ act (by simp [List.count_replicate]) ⟨by simp, fun j o ho hl => by rw [h0] at hl; cases hl⟩ (fun i h1 h2 => by simp [h2]) (by rw [henv0]; exact hs') hsi'
  rw [hsz]
  rw [hsz] at this
  exact this

end Go.Am

