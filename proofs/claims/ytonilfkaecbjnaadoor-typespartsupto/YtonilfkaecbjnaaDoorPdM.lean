/-
  P12.4, second: the path of each scalar finds it; the scalars of a component are a part of those of the type.
-/
import Derived.Test.YtonilfkaecbjnaaDoorPdH
set_option linter.unusedSimpArgs false
namespace Go.Proofs.YtonilfkaecbjnaaDoor
open Go.Am

/-! ### components of a node -/
def scK : List (Str × ApiType) → Str → List ApiScalar
  | [], _ => []
  | (n, x) :: r, a => x.sc (nx a n) ++ scK r a
def fdK : List (Str × ApiType) → Str → Str → Int → Option (ApiType × Int)
  | [], _, _, _ => none
  | (n, x) :: r, a, p, f => match x.fd (nx a n) p f with
    | some y => some y
    | none => fdK r a p (f + x.cnt)
def kidA (x : ApiType) : Nat → Nat → List (Str × ApiType)
  | _, 0 => []
  | k, n + 1 => (Lib.decDigits k, x) :: kidA x (k + 1) n
def kids (t : ApiType) : List (Str × ApiType) :=
  bif t.Kind == 2 then (match t.Of with
    | x :: _ => kidA x 0 t.Size.toNat
    | [] => []) else bif t.Kind == 3 then t.Names.zip t.Of else []
def Dotless (s : Str) : Prop := (46 : UInt8) ∉ s
/-- what a valid type is like, one step down -/
inductive Shape (t : ApiType) : Prop
  | bool (h : t.Kind = 0) (hc : t.cnt = 1) (hs : ∀ a, t.sc a = [⟨a, true, 0, 1⟩]) (hf : ∀ a p f, t.fd a p f = bif a == p then some (t, f) else none) : Shape t
  | int (h : t.Kind = 1) (hc : t.cnt = 1) (hs : ∀ a, t.sc a = [⟨a, false, t.Low, t.High⟩]) (hf : ∀ a p f, t.fd a p f = bif a == p then some (t, f) else none) : Shape t
  | node (hs : ∀ a, t.sc a = scK (kids t) a) (hf : ∀ a p f, t.fd a p f = bif a == p then some (t, f) else fdK (kids t) a p f)
      (hm : ∀ q ∈ kids t, q.2 ∈ t.Of ∧ Dotless q.1) (hn : ((kids t).map (·.1)).Nodup) : Shape t

structure Sound (t : ApiType) : Prop where
  ok : Ok t
  chk : checkAll t = 0
theorem Sound.val {t : ApiType} (h : Sound t) : Val t := (Val.of h.ok h.chk).1
theorem depths_mem {x : ApiType} : ∀ {l : List ApiType}, x ∈ l → x.nodes ≤ ApiType.nodess l
  | y :: r, h => by
    simp only [ApiType.nodess]
    cases h with
    | head => omega
    | tail _ h => have := depths_mem h; omega
theorem checkT_parts {t : ApiType} (h : checkT t = 0) : (t.nodes : Int) ≤ 1024 ∧ (t.depth : Int) ≤ 12 ∧ t.all formN = true ∧ t.all nameN = true ∧ t.all numN = true := by
  have hf := fine_of h
  obtain ⟨h1, h2⟩ := checkT_zero' h
  refine ⟨by omega, ?_, hf.form, h2, hf.num⟩
  unfold checkT repCode at h
  by_cases h3 : (t.depth : Int) > 12
  · rw [decide_eq_true h3] at h
    revert h
    cases decide ((t.nodes : Int) > 1024) <;> simp
  · omega
where
  checkT_zero' {t : ApiType} (h : checkT t = 0) : t.nodes ≤ 1024 ∧ t.all nameN = true := by
    unfold checkT repCode at h
    by_cases h1 : (t.nodes : Int) > 1024
    · rw [decide_eq_true h1] at h; simp at h
    · refine ⟨by omega, ?_⟩
      revert h
      cases (bif decide ((t.nodes : Int) > 1024) then true else decide ((t.depth : Int) > 12)) <;> cases t.all formN <;> cases t.all nameN <;> simp
theorem checkAll_parts {t : ApiType} (h : checkAll t = 0) : checkT t = 0 ∧ t.some isNm = false ∧ t.some isTw = false ∧ t.cnt ≤ 32 := by
  unfold checkAll at h
  cases hc : checkT t != 0 with
  | true => rw [hc] at h; simp only [cond_true] at h; rw [h] at hc; cases hc
  | false =>
    rw [hc] at h
    simp only [cond_false, plainT] at h
    cases h1 : t.some isNm with
    | true => rw [h1] at h; cases h
    | false =>
      cases h2 : t.some isTw with
      | true => rw [h1, h2] at h; cases h
      | false =>
        rw [h1, h2] at h
        by_cases h3 : t.cnt > 32
        · rw [decide_eq_true h3] at h; cases h
        · exact ⟨by simpa using hc, rfl, rfl, by omega⟩
theorem any_kid' {p : ApiType → Bool} {l : List ApiType} (h : l.any p = false) {x : ApiType} (hx : x ∈ l) : p x = false := by
  cases hp : p x with
  | false => rfl
  | true => have h2 := List.any_eq_true.2 ⟨x, hx, hp⟩; rw [h] at h2; cases h2
theorem Val.kid {t x : ApiType} (h : Val t) (hx : x ∈ t.Of) : Val x := by
  cases h2 : t.Kind == 2 with
  | true =>
    obtain ⟨y, hy, _, _, hv, _⟩ := h.arr h2
    rw [hy] at hx
    simp at hx
    subst hx
    exact hv
  | false =>
    cases h3 : t.Kind == 3 with
    | true => exact (h.recd h3).2.2.1 x hx
    | false =>
      have hf := h.fine.here.1
      unfold formN fm6 at hf
      rw [h2, h3] at hf
      simp only [cond_false, Bool.and_eq_true] at hf
      have hl : (t.Of.length : Int) = 0 := by simpa using hf.2
      rw [List.eq_nil_of_length_eq_zero (by omega : t.Of.length = 0)] at hx
      cases hx
theorem Sound.kid {t x : ApiType} (h : Sound t) (hx : x ∈ t.Of) : Sound x := by
  obtain ⟨c1, c2, c3, c4⟩ := checkAll_parts h.chk
  obtain ⟨d1, d2, d3, d4, d5⟩ := checkT_parts c1
  have hv := h.val.kid hx
  have hc := hv.cnt
  rw [ApiType.all_eq, Bool.and_eq_true] at d3 d4 d5
  rw [ApiType.some_eq, Bool.or_eq_false_iff] at c2 c3
  have e1 := depths_mem hx
  have e2 := ApiType.depth_le hx
  rw [ApiType.nodes_eq] at d1
  rw [ApiType.depth_eq] at d2
  refine ⟨h.ok.kid hx, ?_⟩
  have ck : checkT x = 0 := by
    unfold checkT repCode
    rw [decide_eq_false (show ¬ (x.nodes : Int) > 1024 by omega), decide_eq_false (show ¬ (x.depth : Int) > 12 by omega), ApiType.alls_mem d3.2 hx, ApiType.alls_mem d4.2 hx, ApiType.alls_mem d5.2 hx]
    rfl
  unfold checkAll plainT
  rw [ck, any_kid' c2.2 hx, any_kid' c3.2 hx, decide_eq_false (show ¬ x.cnt > 32 by omega)]
  rfl

/-! ### names of components -/
theorem wordFrom_all : ∀ (s : Str) (i : Nat), wordFrom i s = true → s.all ld = true
  | [], _, _ => rfl
  | c :: r, i, h => by
    simp only [wordFrom, Bool.and_eq_true] at h
    rw [List.all_cons, wordFrom_all r (i + 1) h.2, Bool.and_true]
    have := h.1
    unfold okAt at this
    unfold ld
    revert this
    cases lowI c.toNat <;> cases digI c.toNat <;> simp
theorem name_dotless {s : Str} (h : isName s = true) : Dotless s := by
  unfold isName word at h
  intro hm
  have hw : wordFrom 0 s = true := by
    revert h
    cases decide ((s.length : Int) ≤ 12) <;> cases wordFrom 0 s <;> simp
  have := List.all_eq_true.1 (wordFrom_all s 0 hw) 46 hm
  revert this
  decide
theorem dec2 {k : Nat} (h : k < 100) : Lib.decDigits k = if k < 10 then [UInt8.ofNat (48 + k)] else [UInt8.ofNat (48 + k / 10), UInt8.ofNat (48 + k % 10)] := by
  rw [Lib.decDigits]
  split
  · rfl
  · rw [Lib.decDigits, dif_pos (by omega)]
    rfl
theorem u8_inj {a b : Nat} (ha : a < 256) (hb : b < 256) (h : UInt8.ofNat a = UInt8.ofNat b) : a = b := by
  have := congrArg UInt8.toNat h
  simp at this
  omega
theorem dec_dotless {k : Nat} (h : k < 100) : Dotless (Lib.decDigits k) := by
  intro hm
  rw [dec2 h] at hm
  have key : ∀ j, j < 10 → (46 : UInt8) ≠ UInt8.ofNat (48 + j) := fun j hj e => by
    have := u8_inj (a := 46) (b := 48 + j) (by omega) (by omega) e
    omega
  split at hm
  · rename_i hk
    rw [List.mem_singleton] at hm
    exact key k hk hm
  · rw [List.mem_cons, List.mem_singleton] at hm
    rcases hm with hm | hm
    · exact key (k / 10) (by omega) hm
    · exact key (k % 10) (by omega) hm
theorem dec_inj {k j : Nat} (hk : k < 100) (hj : j < 100) (h : Lib.decDigits k = Lib.decDigits j) : k = j := by
  rw [dec2 hk, dec2 hj] at h
  split at h <;> split at h <;> simp only [List.cons.injEq, and_true, reduceCtorEq, and_false] at h
  · have := u8_inj (by omega) (by omega) h
    omega
  · have h1 := u8_inj (by omega) (by omega) h.1
    have h2 := u8_inj (by omega) (by omega) h.2
    omega
theorem tw_nodup : ∀ (l seen : List Str), tw seen l = false → (∀ x ∈ l, x ∉ seen) ∧ l.Nodup
  | [], _, _ => ⟨(fun x h => by cases h), List.nodup_nil⟩
  | x :: r, seen, h => by
    rw [tw, Bool.or_eq_false_iff] at h
    obtain ⟨i1, i2⟩ := tw_nodup r (seen ++ [x]) h.2
    have hx : x ∉ seen := fun hm => by
      have : (seen.any fun y => x == y) = true := List.any_eq_true.2 ⟨x, hm, by simp⟩
      rw [h.1] at this
      cases this
    refine ⟨fun y hy => ?_, List.nodup_cons.2 ⟨fun hm => ?_, i2⟩⟩
    · cases hy with
      | head => exact hx
      | tail _ hy => exact fun hm => i1 y hy (List.mem_append_left _ hm)
    · exact i1 x hm (List.mem_append_right _ List.mem_cons_self)
theorem kidA_mem {x : ApiType} {q : Str × ApiType} : ∀ {n k : Nat}, q ∈ kidA x k n → q.2 = x ∧ ∃ i, k ≤ i ∧ i < k + n ∧ q.1 = Lib.decDigits i
  | 0, k, h => by cases h
  | n + 1, k, h => by
    cases h with
    | head => exact ⟨rfl, k, Nat.le_refl _, by omega, rfl⟩
    | tail _ h => obtain ⟨h1, i, h2, h3, h4⟩ := kidA_mem h; exact ⟨h1, i, by omega, by omega, h4⟩
theorem kidA_nodup (x : ApiType) : ∀ n k : Nat, k + n ≤ 100 → ((kidA x k n).map (·.1)).Nodup
  | 0, k, _ => List.nodup_nil
  | n + 1, k, h => by
    simp only [kidA, List.map_cons]
    refine List.nodup_cons.2 ⟨fun hm => ?_, kidA_nodup x n (k + 1) (by omega)⟩
    obtain ⟨q, hq, e⟩ := List.mem_map.1 hm
    obtain ⟨_, i, h2, h3, h4⟩ := kidA_mem hq
    have := dec_inj (by omega) (by omega) (h4.symm.trans e)
    omega
theorem scK_A (x : ApiType) (a : Str) : ∀ n k : Nat, rep (fun i => x.sc (nx a (Lib.decDigits i))) k n = scK (kidA x k n) a
  | 0, k => rfl
  | n + 1, k => by rw [rep, kidA, scK, scK_A x a n (k + 1)]
theorem fdK_A (x : ApiType) (a p : Str) : ∀ (n k : Nat) (f : Int), fdN (fun i f => x.fd (nx a (Lib.decDigits i)) p f) x.cnt k n f = fdK (kidA x k n) a p f
  | 0, k, f => rfl
  | n + 1, k, f => by
    rw [fdN, kidA, fdK, fdK_A x a p n (k + 1)]
    cases x.fd (nx a (Lib.decDigits k)) p f <;> rfl
theorem scK_R (a : Str) : ∀ (l : List ApiType) (ns : List Str), ApiType.scR l ns a = scK (ns.zip l) a
  | [], ns => by cases ns <;> rfl
  | x :: r, [] => rfl
  | x :: r, n :: ns => by rw [ApiType.scR, List.zip_cons_cons, scK, scK_R a r ns]
theorem fdK_R (a p : Str) : ∀ (l : List ApiType) (ns : List Str) (f : Int), ApiType.fdR l ns a p f = fdK (ns.zip l) a p f
  | [], ns, f => by cases ns <;> rfl
  | x :: r, [], f => rfl
  | x :: r, n :: ns, f => by
    rw [ApiType.fdR, List.zip_cons_cons, fdK, fdK_R a p r ns]
    cases x.fd (nx a n) p f <;> rfl
theorem Sound.shape {t : ApiType} (h : Sound t) : Shape t := by
  have hv := h.val
  obtain ⟨c1, c2, c3, c4⟩ := checkAll_parts h.chk
  obtain ⟨_, _, _, d4, _⟩ := checkT_parts c1
  cases h2 : t.Kind == 2 with
  | true =>
    obtain ⟨x, hx, s1, s2, hvx, e⟩ := hv.arr h2
    have hk : t.Kind = 2 := by simpa using h2
    have ek : kids t = kidA x 0 t.Size.toNat := by unfold kids; rw [h2, hx]; rfl
    refine .node (fun a => ?_) (fun a p f => ?_) (fun q hq => ?_) ?_
    · rw [ApiType.sc_eq, ek, ← scK_A, hk, hx]; rfl
    · rw [ApiType.fd_eq, ek, ← fdK_A, hk, hx]; rfl
    · rw [ek] at hq
      obtain ⟨h3, i, _, h5, h6⟩ := kidA_mem hq
      rw [h3, h6, hx]
      exact ⟨List.mem_cons_self, dec_dotless (by omega)⟩
    · rw [ek]
      exact kidA_nodup x _ _ (by omega)
  | false =>
    cases h3 : t.Kind == 3 with
    | true =>
      obtain ⟨r1, r2, r3, e⟩ := hv.recd h3
      have hk : t.Kind = 3 := by simpa using h3
      have ek : kids t = t.Names.zip t.Of := by unfold kids; rw [h2, h3]; rfl
      rw [ApiType.all_eq, Bool.and_eq_true] at d4
      rw [ApiType.some_eq, Bool.or_eq_false_iff] at c3
      have hnm : t.Names.all isName = true := by
        have := d4.1
        unfold nameN at this
        rw [Bool.and_eq_true] at this
        exact this.2
      refine .node (fun a => ?_) (fun a p f => ?_) (fun q hq => ?_) ?_
      · rw [ApiType.sc_eq, ek, ← scK_R, hk]; rfl
      · rw [ApiType.fd_eq, ek, ← fdK_R, hk]; rfl
      · rw [ek] at hq
        obtain ⟨h5, h6⟩ := List.of_mem_zip (a := q.1) (b := q.2) hq
        exact ⟨h6, name_dotless (List.all_eq_true.1 hnm _ h5)⟩
      · rw [ek, List.map_fst_zip (by omega)]
        exact (tw_nodup t.Names [] c3.1).2
    | false =>
      obtain ⟨e, hk⟩ := hv.leaf h2 h3
      rcases hk with hk | hk
      · exact .bool hk e (fun a => by rw [ApiType.sc_eq, hk]; rfl) (fun a p f => by rw [ApiType.fd_eq, hk]; rfl)
      · exact .int hk e (fun a => by rw [ApiType.sc_eq, hk]; rfl) (fun a p f => by rw [ApiType.fd_eq, hk]; rfl)

/-! ### paths -/
def Ext (a p : Str) : Prop := p = a ∨ ∃ r, p = a ++ 46 :: r
theorem Ext.up {a n p : Str} (h : Ext (nx a n) p) : ∃ r, p = a ++ 46 :: r := by
  unfold nx at h
  rcases h with h | ⟨r, h⟩
  · exact ⟨n, by rw [h]; simp⟩
  · exact ⟨n ++ 46 :: r, by rw [h]; simp⟩
theorem cut_name {n m s u : Str} (hn : Dotless n) (hm : Dotless m) (hs : s = [] ∨ ∃ r, s = 46 :: r) (hu : u = [] ∨ ∃ r, u = 46 :: r) (h : n ++ s = m ++ u) : n = m := by
  induction n generalizing m with
  | nil =>
    cases m with
    | nil => rfl
    | cons c r =>
      rw [List.nil_append, List.cons_append] at h
      rcases hs with hs | ⟨r', hs⟩
      · rw [hs] at h; cases h
      · rw [hs] at h
        cases h
        exact absurd List.mem_cons_self hm
  | cons c r ih =>
    cases m with
    | nil =>
      rw [List.nil_append, List.cons_append] at h
      rcases hu with hu | ⟨r', hu⟩
      · rw [hu] at h; cases h
      · rw [hu] at h
        cases h
        exact absurd List.mem_cons_self hn
    | cons d q =>
      rw [List.cons_append, List.cons_append] at h
      obtain ⟨h1, h2⟩ := List.cons.inj h
      rw [h1, ih (fun h => hn (List.mem_cons_of_mem _ h)) (fun h => hm (List.mem_cons_of_mem _ h)) h2]
theorem ext_name {a n m p : Str} (hn : Dotless n) (hm : Dotless m) (h1 : Ext (nx a n) p) (h2 : Ext (nx a m) p) : n = m := by
  have key : ∀ {n : Str}, Ext (nx a n) p → ∃ s, (s = [] ∨ ∃ r, s = 46 :: r) ∧ p = a ++ ([46] ++ (n ++ s)) := by
    intro n h
    unfold nx at h
    rcases h with h | ⟨r, h⟩
    · exact ⟨[], .inl rfl, by rw [h]; simp⟩
    · exact ⟨46 :: r, .inr ⟨r, rfl⟩, by rw [h]; simp⟩
  obtain ⟨s, hs, e1⟩ := key h1
  obtain ⟨u, hu, e2⟩ := key h2
  rw [e1] at e2
  have := List.append_cancel_left (List.append_cancel_left e2)
  exact cut_name hn hm hs hu this
theorem scK_mem {s : ApiScalar} {a : Str} : ∀ {l : List (Str × ApiType)}, s ∈ scK l a → ∃ q ∈ l, s ∈ q.2.sc (nx a q.1)
  | [], h => by cases h
  | (n, x) :: r, h => by
    rw [scK, List.mem_append] at h
    rcases h with h | h
    · exact ⟨_, List.mem_cons_self, h⟩
    · obtain ⟨q, h1, h2⟩ := scK_mem h; exact ⟨q, List.mem_cons_of_mem _ h1, h2⟩
theorem sc_ext (t : ApiType) : Sound t → ∀ a, ∀ s ∈ t.sc a, Ext a s.Path := by
  induction t using ApiType.ind with
  | h t ih =>
  intro ht a s hs
  cases ht.shape with
  | bool _ _ h _ => rw [h a] at hs; simp at hs; subst hs; exact .inl rfl
  | int _ _ h _ => rw [h a] at hs; simp at hs; subst hs; exact .inl rfl
  | node h _ hm _ =>
    rw [h a] at hs
    obtain ⟨q, hq, h2⟩ := scK_mem hs
    exact .inr (ih q.2 (hm q hq).1 (ht.kid (hm q hq).1) _ s h2).up
theorem fdK_some {p a : Str} {y : ApiType × Int} : ∀ {l : List (Str × ApiType)} {f : Int}, fdK l a p f = some y → ∃ q ∈ l, ∃ f', q.2.fd (nx a q.1) p f' = some y
  | [], f, h => by cases h
  | (n, x) :: r, f, h => by
    rw [fdK] at h
    cases hg : x.fd (nx a n) p f with
    | some z => rw [hg] at h; exact ⟨(n, x), List.mem_cons_self, f, by rw [← h]; exact hg⟩
    | none => rw [hg] at h; obtain ⟨q, h1, f', h2⟩ := fdK_some h; exact ⟨q, List.mem_cons_of_mem _ h1, f', h2⟩
theorem fd_ext (p : Str) (t : ApiType) : Sound t → ∀ a f y, t.fd a p f = some y → Ext a p ∧ Sound y.1 := by
  induction t using ApiType.ind with
  | h t ih =>
  intro ht a f y hy
  have leaf : (∀ a p f, t.fd a p f = bif a == p then some (t, f) else none) → Ext a p ∧ Sound y.1 := fun h => by
    rw [h] at hy
    cases hp : a == p with
    | true => rw [hp] at hy; cases hy; exact ⟨.inl (eq_of_beq hp).symm, ht⟩
    | false => rw [hp] at hy; cases hy
  cases ht.shape with
  | bool _ _ _ h => exact leaf h
  | int _ _ _ h => exact leaf h
  | node _ h hm _ =>
    rw [h] at hy
    cases hp : a == p with
    | true => rw [hp] at hy; cases hy; exact ⟨.inl (eq_of_beq hp).symm, ht⟩
    | false =>
      rw [hp, cond_false] at hy
      obtain ⟨q, hq, f', h2⟩ := fdK_some hy
      obtain ⟨i1, i2⟩ := ih q.2 (hm q hq).1 (ht.kid (hm q hq).1) _ _ y h2
      exact ⟨.inr i1.up, i2⟩

/-! ### the path of a scalar finds it -/
def LeafOf (x : ApiType) (s : ApiScalar) : Prop := (x.Kind = 0 ∧ s.Bool = true) ∨ (x.Kind = 1 ∧ s.Bool = false ∧ x.Low = s.Low ∧ x.High = s.High)
theorem ext_ne {a p : Str} (h : ∃ r, p = a ++ 46 :: r) : (a == p) = false := by
  obtain ⟨r, rfl⟩ := h
  rw [beq_eq_false_iff_ne]
  intro e
  have := congrArg List.length e
  simp at this
theorem fdK_find {a : Str} (l : List (Str × ApiType)) (hs : ∀ q ∈ l, Sound q.2 ∧ Dotless q.1) (hn : (l.map (·.1)).Nodup)
    (ih : ∀ q ∈ l, ∀ (a : Str) (f : Int) (i : Nat) s, (q.2.sc a)[i]? = some s → ∃ x, q.2.fd a s.Path f = some (x, f + i) ∧ LeafOf x s) :
    ∀ (f : Int) (i : Nat) s, (scK l a)[i]? = some s → ∃ x, fdK l a s.Path f = some (x, f + i) ∧ LeafOf x s := by
  induction l with
  | nil => intro f i s h; simp [scK] at h
  | cons q r ihr =>
    obtain ⟨n, x⟩ := q
    intro f i s h
    rw [scK] at h
    obtain ⟨s1, s2⟩ := hs (n, x) List.mem_cons_self
    have hl := sc_len x s1.val (nx a n)
    rw [fdK]
    rw [List.map_cons, List.nodup_cons] at hn
    by_cases hi : i < (x.sc (nx a n)).length
    · rw [List.getElem?_append_left hi] at h
      obtain ⟨y, h1, h2⟩ := ih (n, x) List.mem_cons_self (nx a n) f i s h
      rw [h1]
      exact ⟨y, rfl, h2⟩
    · rw [List.getElem?_append_right (by omega)] at h
      have hno : x.fd (nx a n) s.Path f = none := by
        cases hf : x.fd (nx a n) s.Path f with
        | none => rfl
        | some y =>
          have e1 := (fd_ext s.Path x s1 _ _ y hf).1
          obtain ⟨q, hq, h4⟩ := scK_mem (List.mem_of_getElem? h)
          obtain ⟨g1, g2⟩ := hs q (List.mem_cons_of_mem _ hq)
          have e2 := sc_ext q.2 g1 _ s h4
          have := ext_name s2 g2 e1 e2
          exact absurd (List.mem_map.2 ⟨q, hq, this.symm⟩) hn.1
      rw [hno]
      obtain ⟨y, h1, h2⟩ := ihr (fun q hq => hs q (List.mem_cons_of_mem _ hq)) hn.2 (fun q hq => ih q (List.mem_cons_of_mem _ hq)) (f + x.cnt) _ s h
      refine ⟨y, ?_, h2⟩
      rw [show f + (i : Int) = f + x.cnt + ((i - (x.sc (nx a n)).length : Nat) : Int) by omega]
      exact h1
theorem fd_find (t : ApiType) : Sound t → ∀ (a : Str) (f : Int) (i : Nat) s, (t.sc a)[i]? = some s → ∃ x, t.fd a s.Path f = some (x, f + i) ∧ LeafOf x s := by
  induction t using ApiType.ind with
  | h t ih =>
  intro ht a f i s hs
  cases ht.shape with
  | bool hk _ h hf =>
    rw [h a] at hs
    cases i with
    | zero => simp at hs; subst hs; exact ⟨t, by rw [hf]; simp, .inl ⟨hk, rfl⟩⟩
    | succ i => simp at hs
  | int hk _ h hf =>
    rw [h a] at hs
    cases i with
    | zero => simp at hs; subst hs; exact ⟨t, by rw [hf]; simp, .inr ⟨hk, rfl, rfl, rfl⟩⟩
    | succ i => simp at hs
  | node h hf hm hn =>
    rw [h a] at hs
    have hne : (a == s.Path) = false := by
      obtain ⟨q, hq, h2⟩ := scK_mem (List.mem_of_getElem? hs)
      exact ext_ne (sc_ext q.2 (ht.kid (hm q hq).1) _ s h2).up
    rw [hf, hne, cond_false]
    exact fdK_find (kids t) (fun q hq => ⟨ht.kid (hm q hq).1, (hm q hq).2⟩) hn (fun q hq => ih q.2 (hm q hq).1 (ht.kid (hm q hq).1)) f i s hs

/-! ### what is found has its scalars in their place -/
theorem fdK_part {a p : Str} {y : ApiType × Int} (l : List (Str × ApiType)) (hs : ∀ q ∈ l, Sound q.2)
    (ih : ∀ q ∈ l, ∀ (a : Str) (f : Int), q.2.fd a p f = some y → ∃ n : Nat, y.2 = f + n ∧ ∃ u w, q.2.sc a = u ++ y.1.sc p ++ w ∧ u.length = n) :
    ∀ f, fdK l a p f = some y → ∃ n : Nat, y.2 = f + n ∧ ∃ u w, scK l a = u ++ y.1.sc p ++ w ∧ u.length = n := by
  induction l with
  | nil => intro f h; cases h
  | cons q r ihr =>
    obtain ⟨n, x⟩ := q
    intro f h
    have hl := sc_len x (hs (n, x) List.mem_cons_self).val (nx a n)
    rw [fdK] at h
    rw [scK]
    cases hg : x.fd (nx a n) p f with
    | some z =>
      rw [hg] at h
      cases h
      obtain ⟨k, e, u, w, e2, e3⟩ := ih (n, x) List.mem_cons_self _ _ hg
      exact ⟨k, e, u, w ++ scK r a, by rw [e2]; simp, e3⟩
    | none =>
      rw [hg] at h
      obtain ⟨k, e, u, w, e2, e3⟩ := ihr (fun q hq => hs q (List.mem_cons_of_mem _ hq)) (fun q hq => ih q (List.mem_cons_of_mem _ hq)) _ h
      refine ⟨(x.sc (nx a n)).length + k, by rw [e]; omega, x.sc (nx a n) ++ u, w, by rw [e2]; simp, by simp [e3]⟩
theorem fd_part (p : Str) (y : ApiType × Int) (t : ApiType) : Sound t → ∀ (a : Str) (f : Int), t.fd a p f = some y → ∃ n : Nat, y.2 = f + n ∧ ∃ u w, t.sc a = u ++ y.1.sc p ++ w ∧ u.length = n := by
  induction t using ApiType.ind with
  | h t ih =>
  intro ht a f hy
  have here : (a == p) = true → some (t, f) = some y → ∃ n : Nat, y.2 = f + n ∧ ∃ u w, t.sc a = u ++ y.1.sc p ++ w ∧ u.length = n := fun h e => by
    cases e
    have : a = p := eq_of_beq h
    subst this
    exact ⟨0, by simp, [], [], by simp, rfl⟩
  have leaf : (∀ a p f, t.fd a p f = bif a == p then some (t, f) else none) → ∃ n : Nat, y.2 = f + n ∧ ∃ u w, t.sc a = u ++ y.1.sc p ++ w ∧ u.length = n := fun h => by
    rw [h] at hy
    cases hp : a == p with
    | true => rw [hp] at hy; exact here hp hy
    | false => rw [hp] at hy; cases hy
  cases ht.shape with
  | bool _ _ _ h => exact leaf h
  | int _ _ _ h => exact leaf h
  | node hs h hm _ =>
    rw [h] at hy
    cases hp : a == p with
    | true => rw [hp] at hy; exact here hp hy
    | false =>
      rw [hp, cond_false] at hy
      rw [hs a]
      exact fdK_part (kids t) (fun q hq => ht.kid (hm q hq).1) (fun q hq => ih q.2 (hm q hq).1 (ht.kid (hm q hq).1)) f hy
/-- the path shifts -/
theorem sc_shift (t : ApiType) : Sound t → ∀ q a, t.sc (q ++ a) = (t.sc a).map fun s => { s with Path := q ++ s.Path } := by
  induction t using ApiType.ind with
  | h t ih =>
  intro ht q a
  cases ht.shape with
  | bool _ _ h _ => rw [h, h]; rfl
  | int _ _ h _ => rw [h, h]; rfl
  | node h _ hm _ =>
    rw [h, h]
    have key : ∀ l : List (Str × ApiType), (∀ z ∈ l, z ∈ kids t) → scK l (q ++ a) = (scK l a).map fun s => { s with Path := q ++ s.Path } := by
      intro l
      induction l with
      | nil => intro _; rfl
      | cons z r ihr =>
        obtain ⟨n, x⟩ := z
        intro hz
        have hx := (hm (n, x) (hz _ List.mem_cons_self)).1
        have e : nx (q ++ a) n = q ++ nx a n := by unfold nx; simp
        rw [scK, scK, e, ih x hx (ht.kid hx), ihr fun z h => hz z (List.mem_cons_of_mem _ h), List.map_append]
    exact key (kids t) fun _ h => h
end Go.Proofs.YtonilfkaecbjnaaDoor

