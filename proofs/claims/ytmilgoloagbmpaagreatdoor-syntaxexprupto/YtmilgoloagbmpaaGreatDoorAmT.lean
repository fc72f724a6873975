/-
  From what a statement says of memory to the abstract machine, and back.
-/
import Derived.Test.YtmilgoloagbmpaaGreatDoorAmS
import Derived.ChangeSame
import Derived.OpenShut
import Derived.ProofKit
namespace Go.Am
open Go.ChangeShapes

/-- all memory that there is -/
def memOf (W : World) : Mem := fun a => if a.spot = none then W.cell? a else none
theorem memOf_good (W : World) : Good (memOf W) W := by
  intro a v h
  unfold memOf at h
  split at h
  · rename_i hs; exact ⟨hs, h⟩
  · cases h

/-- cells of data against a list of values -/
def CellsD (M : Mem) (ds : List D) (cs : List Value) : Prop := ds.length = cs.length ∧ ∀ (i : Nat) x v, ds[i]? = some x → cs[i]? = some v → RelD M x v

/-- what a measure of readings owes -/
structure Meas {H : Type} (μ : DataW H → Nat) : Prop where
  lit : ∀ l, 1 ≤ μ (.lit l)
  str : ∀ s, s.length + 1 ≤ μ (.lit (.string s))
  nil : 1 ≤ μ .nil
  sl : ∀ es sp, (es.map μ).sum + 1 ≤ μ (.slice es sp)
  agg : ∀ ps, (ps.map μ).sum + 1 ≤ μ (.agg ps)

/-- a reading at a type, in so many steps, is a value of α -/
def Rd {H : Type} (enc : TypeId × Value → H) (P : Program) (W : World) (μ : DataW H → Nat) (fuel : Nat) (t : TypeId) {α : Type} (f : α → Row) (bk : α → Nat) : Prop :=
  ∀ cs d ps, DataW.trod enc P W 0 (fun _ => true) true fuel t cs = some (d, ps) → ∃ x : α, CellsD (memOf W) (f x) cs ∧ bk x ≤ μ d

section
variable {H : Type} {enc : TypeId × Value → H} {P : Program} {W : World} {μ : DataW H → Nat} {fuel : Nat} {t : TypeId}

theorem Rd.zero {α : Type} {f : α → Row} {bk : α → Nat} : Rd enc P W μ 0 t f bk := fun cs d ps h => by simp [DataW.trod] at h

theorem cellsD1 {M : Mem} {x : D} {v : Value} (h : RelD M x v) : CellsD M [x] [v] := by
  refine ⟨rfl, fun i y u hy hu => ?_⟩
  cases i with
  | zero => simp at hy hu; subst hy; subst hu; exact h
  | succ i => simp at hy

theorem Rd.bool (hμ : Meas μ) (ht : P.underlying t = some .bool) : Rd enc P W μ fuel t (fun b : Bool => [D.bool b]) (fun _ => 1) := by
  cases fuel with
  | zero => exact .zero
  | succ n =>
    intro cs d ps h
    unfold DataW.trod at h
    rw [ht] at h
    split at h <;> first | (rename_i heq; cases heq; done) | skip
    all_goals first | (cases h; done) | skip
    rename_i b heq
    simp only [Option.some.injEq, Prod.mk.injEq] at h
    obtain ⟨rfl, rfl⟩ := h
    exact ⟨b, cellsD1 .bool, hμ.lit _⟩

theorem Rd.int (hμ : Meas μ) {k : IntKind} (ht : P.underlying t = some (.int k)) : Rd enc P W μ fuel t (fun n : Int => [D.int k n]) (fun _ => 1) := by
  cases fuel with
  | zero => exact .zero
  | succ n =>
    intro cs d ps h
    unfold DataW.trod at h
    rw [ht] at h
    split at h <;> first | (rename_i heq; cases heq; done) | skip
    all_goals first | (cases h; done) | skip
    rename_i k1 k' m heq
    cases heq
    split at h
    · rename_i hc
      simp only [Option.some.injEq, Prod.mk.injEq] at h
      obtain ⟨rfl, rfl⟩ := h
      obtain ⟨rfl, hwf⟩ := hc
      refine ⟨m, cellsD1 (.int ?_), hμ.lit _⟩
      simpa [Lit.wf, InK] using hwf
    · cases h

theorem Rd.str (hμ : Meas μ) (ht : P.underlying t = some .string) : Rd enc P W μ fuel t (fun s : Str => [D.str s]) (fun s => s.length + 1) := by
  cases fuel with
  | zero => exact .zero
  | succ n =>
    intro cs d ps h
    unfold DataW.trod at h
    rw [ht] at h
    split at h <;> first | (rename_i heq; cases heq; done) | skip
    all_goals first | (cases h; done) | skip
    rename_i s heq
    split at h
    · rename_i hc
      simp only [Option.some.injEq, Prod.mk.injEq] at h
      obtain ⟨rfl, rfl⟩ := h
      refine ⟨s.data.toList, cellsD1 ?_, hμ.str _⟩
      have : s = ⟨s.data.toList.toArray⟩ := by simp
      rw [this]
      exact .str (by simpa using hc)
    · cases h

theorem sum_le {α β : Type} {f : α → Nat} {g : β → Nat} : ∀ {l : List α} {m : List β}, l.length = m.length → (∀ (i : Nat) x y, l[i]? = some x → m[i]? = some y → f x ≤ g y) → (l.map f).sum ≤ (m.map g).sum
  | [], [], _, _ => Nat.le_refl _
  | x :: l, y :: m, hl, h => by
    have h0 := h 0 x y rfl rfl
    have ih := sum_le (l := l) (m := m) (by simpa using hl) (fun i a b ha hb => h (i + 1) a b (by simpa using ha) (by simpa using hb))
    simp only [List.map_cons, List.sum_cons]
    omega
  | [], _ :: _, hl, _ => by simp at hl
  | _ :: _, [], hl, _ => by simp at hl

theorem cells?_get {W : World} {a : Addr} {n : Nat} {cs : List Value} (h : W.cells? 0 a n = some cs) : cs.length = n ∧ ∀ (j : Nat) v, cs[j]? = some v → W.cell? (a.add j) = some v := by
  unfold World.cells? at h
  rw [if_pos (Nat.zero_le _)] at h
  have key : ∀ (l : List Nat) (cs : List Value), l.mapM (fun i => W.cell? (a.add i)) = some cs → cs.length = l.length ∧ ∀ (j : Nat) v, cs[j]? = some v → ∃ i, l[j]? = some i ∧ W.cell? (a.add i) = some v := by
    intro l
    induction l with
    | nil => intro cs h; simp at h; subst h; exact ⟨rfl, fun j v h => by simp at h⟩
    | cons i l ih =>
      intro cs h
      rw [List.mapM_cons] at h
      simp only [bind, Option.bind_eq_some_iff, pure, Option.some.injEq] at h
      obtain ⟨v, hv, vs, hvs, rfl⟩ := h
      obtain ⟨h1, h2⟩ := ih vs hvs
      refine ⟨by simp [h1], fun j u hu => ?_⟩
      cases j with
      | zero => simp at hu; subst hu; exact ⟨i, rfl, hv⟩
      | succ j => simpa using h2 j u (by simpa using hu)
  obtain ⟨h1, h2⟩ := key _ _ h
  refine ⟨by simpa using h1, fun j v hv => ?_⟩
  obtain ⟨i, hi, hc⟩ := h2 j v hv
  have hj : j < n := by have := (List.getElem?_eq_some_iff.1 hv).1; simp at h1; omega
  rw [List.getElem?_range hj] at hi
  cases hi
  exact hc

theorem memOf_cell {W : World} {a : Addr} {v : Value} (h : W.cell? a = some v) : memOf W a = some v ∧ a.spot = none := by
  have hs : a.spot = none := by
    unfold World.cell? at h
    split at h
    · split at h
      · cases h
      · rename_i hs; simpa using hs
    · cases h
  exact ⟨by unfold memOf; rw [if_pos hs]; exact h, hs⟩

theorem Rd.sl (hμ : Meas μ) {e sz : Nat} {α : Type} [Inhabited α] {f : α → Row} {bk : α → Nat} (ht : P.underlying t = some (.slice e)) (hP : P.cellsOf e = sz) (hpos : 1 ≤ sz) (hsz : ∀ x, (f x).length = sz) (he : ∀ n, n < fuel → Rd enc P W μ n e f bk) :
    Rd enc P W μ fuel t (fun l : List α => [D.sl (l.map f)]) (fun l => (l.map bk).sum + 1) := by
  intro cs d ps h
  rcases DataW.trod_slice ht h with ⟨rfl, hx⟩ | ⟨a, len, cap, elems, rest, n, hn, rfl, hx, _, hlc, hcm, hlen, hel, hsp, _⟩
  · cases hx
    exact ⟨[], cellsD1 .slnil, hμ.nil⟩
  · have h1 : ∀ i : _root_.Fin len, ∃ x : α, ∃ ci di, W.cells? 0 (a.add (i.val * sz)) sz = some ci ∧ elems[i.val]? = some di ∧ CellsD (memOf W) (f x) ci ∧ bk x ≤ μ di.1 := by
      intro i
      have := hel i.val i.isLt
      have hlt : i.val < elems.length := by omega
      rw [List.getElem?_eq_getElem hlt, hP] at this
      obtain ⟨ci, h2, h3⟩ := Option.bind_eq_some_iff.1 this
      obtain ⟨x, h4, h5⟩ := he n (by omega) ci _ _ h3
      exact ⟨x, ci, _, h2, List.getElem?_eq_getElem hlt, h4, h5⟩
    let g : _root_.Fin len → α := fun i => Classical.choose (h1 i)
    have hg : ∀ i : _root_.Fin len, ∃ ci di, W.cells? 0 (a.add (i.val * sz)) sz = some ci ∧ elems[i.val]? = some di ∧ CellsD (memOf W) (f (g i)) ci ∧ bk (g i) ≤ μ di.1 := fun i => Classical.choose_spec (h1 i)
    have hget : ∀ (i : Nat) x, (List.ofFn g)[i]? = some x → ∃ h : i < len, x = g ⟨i, h⟩ := fun i x hx => by
      rw [List.getElem?_ofFn] at hx
      split at hx
      · rename_i h; exact ⟨h, by cases hx; rfl⟩
      · cases hx
    cases hx
    refine ⟨List.ofFn g, cellsD1 (.sl sz (fun i j => (W.cell? (a.add (i * sz + j))).getD undef) (by simp) hlc hcm ?_ ?_ ?_ ?_), ?_⟩
    · by_cases h0 : cap = 0
      · exact .inl h0
      · refine .inr ?_
        have hc0 : ∃ ci, W.cells? 0 (a.add (0 * sz)) sz = some ci := by
          by_cases hl0 : 0 < len
          · obtain ⟨ci, di, h2, _⟩ := hg ⟨0, hl0⟩
            exact ⟨ci, h2⟩
          · have hl0' : len = 0 := by omega
            obtain ⟨h2, h3⟩ := hsp rfl
            have h4 := h3 0 (by omega)
            have hlt : 0 < rest.length := by omega
            rw [List.getElem?_eq_getElem hlt, hP, hl0'] at h4
            obtain ⟨ci, h5, _⟩ := Option.bind_eq_some_iff.1 h4
            exact ⟨ci, by simpa using h5⟩
        obtain ⟨ci, hci⟩ := hc0
        obtain ⟨h2, h3⟩ := cells?_get hci
        have h4 : ci[0]? = some ci[0] := List.getElem?_eq_getElem (by omega)
        have := (memOf_cell (h3 0 _ h4)).2
        simpa [Addr.add] using this
    · intro i r hr
      rw [List.getElem?_map] at hr
      cases hx : (List.ofFn g)[i]? with
      | none => rw [hx] at hr; cases hr
      | some x => rw [hx] at hr; cases hr; exact hsz x
    · intro i j r x hr hx
      rw [List.getElem?_map] at hr
      cases hy : (List.ofFn g)[i]? with
      | none => rw [hy] at hr; cases hr
      | some y =>
        rw [hy] at hr; cases hr
        obtain ⟨hi, rfl⟩ := hget i y hy
        obtain ⟨ci, di, h2, h3, ⟨h4, h5⟩, h6⟩ := hg ⟨i, hi⟩
        obtain ⟨h7, h8⟩ := cells?_get h2
        have hj : j < ci.length := by rw [← h4]; exact (List.getElem?_eq_some_iff.1 hx).1
        have h9 := h8 j _ (List.getElem?_eq_getElem hj)
        rw [addr_add_add] at h9
        rw [(memOf_cell h9).1, h9]
        rfl
    · intro i j r x hr hx
      rw [List.getElem?_map] at hr
      cases hy : (List.ofFn g)[i]? with
      | none => rw [hy] at hr; cases hr
      | some y =>
        rw [hy] at hr; cases hr
        obtain ⟨hi, rfl⟩ := hget i y hy
        obtain ⟨ci, di, h2, h3, ⟨h4, h5⟩, h6⟩ := hg ⟨i, hi⟩
        obtain ⟨h7, h8⟩ := cells?_get h2
        have hj : j < ci.length := by rw [← h4]; exact (List.getElem?_eq_some_iff.1 hx).1
        have h9 := h8 j _ (List.getElem?_eq_getElem hj)
        rw [addr_add_add] at h9
        rw [h9]
        exact h5 j x _ hx (List.getElem?_eq_getElem hj)
    · refine Nat.le_trans ?_ (hμ.sl _ _)
      rw [List.map_map]
      refine Nat.succ_le_succ (sum_le (by simp [hlen]) fun i x y hx hy => ?_)
      obtain ⟨hi, rfl⟩ := hget i x hx
      obtain ⟨ci, di, h2, h3, h4, h6⟩ := hg ⟨i, hi⟩
      simp only at h3
      rw [h3] at hy
      cases hy
      exact h6

/-! ### structs: field by field -/

/-- the fields of a struct, from some place on -/
def FRd {H : Type} (enc : TypeId × Value → H) (P : Program) (W : World) (μ : DataW H → Nat) (fuel : Nat) (fs : List Field) (off : Nat) {α : Type} (f : α → Row) (bk : α → Nat) : Prop :=
  ∀ (cs : List Value) (xs : List (DataW H × List MemPlace)), xs.length = fs.length → (∀ (i : Nat) (g : Field), fs[i]? = some g → DataW.trod enc P W 0 (fun _ => true) true fuel g.type ((cs.drop g.offset).take (P.cellsOf g.type)) = xs[i]?) → ∃ x : α, (∀ (i : Nat) y v, (f x)[i]? = some y → cs[off + i]? = some v → RelD (memOf W) y v) ∧ bk x ≤ (xs.map fun y => μ y.1).sum

theorem FRd.nil {off : Nat} : FRd enc P W μ fuel [] off (fun _ : Unit => []) (fun _ => 0) := by
  intro cs xs hl _
  obtain rfl := List.eq_nil_of_length_eq_zero hl
  exact ⟨(), fun i y v h => by simp at h, Nat.le_refl _⟩

theorem FRd.cons {α β : Type} {f : α → Row} {g : β → Row} {bk : α → Nat} {bk' : β → Nat} {fs : List Field} {fd : Field} {off sz : Nat} (h1 : Rd enc P W μ fuel fd.type f bk) (ho : fd.offset = off) (hP : P.cellsOf fd.type = sz) (hsz : ∀ x, (f x).length = sz) (h2 : FRd enc P W μ fuel fs (off + sz) g bk') :
    FRd enc P W μ fuel (fd :: fs) off (fun p : α × β => f p.1 ++ g p.2) (fun p => bk p.1 + bk' p.2) := by
  intro cs xs hl h
  cases xs with
  | nil => simp at hl
  | cons y ys =>
  obtain ⟨d, ps⟩ := y
  obtain ⟨x, ⟨e1, e2⟩, e3⟩ := h1 _ _ _ (h 0 fd rfl)
  obtain ⟨x', e4, e5⟩ := h2 cs ys (by simpa using hl) (fun i g hg => by simpa using h (i + 1) g (by simpa using hg))
  refine ⟨(x, x'), fun i z v hz hv => ?_, by simp only [List.map_cons, List.sum_cons]; omega⟩
  rcases Nat.lt_or_ge i sz with hi | hi
  · rw [List.getElem?_append_left (by rw [hsz]; exact hi)] at hz
    refine e2 i z v hz ?_
    rw [ho, hP, List.getElem?_take, if_pos hi, List.getElem?_drop]
    exact hv
  · rw [List.getElem?_append_right (by rw [hsz]; exact hi), hsz] at hz
    refine e4 (i - sz) z v hz ?_
    rw [show off + sz + (i - sz) = off + i by omega]
    exact hv

theorem Rd.st (hμ : Meas μ) {fs : Array Field} {l : List Field} {α β : Type} {f : α → Row} {g : β → Row} {bk : α → Nat} {bk' : β → Nat} {sz : Nat} (ht : P.underlying t = some (.struct fs)) (hl : fs.toList = l) (hP : P.cellsOf t = sz) (hsz : ∀ x, (g x).length = sz)
    (h : ∀ n, n < fuel → FRd enc P W μ n l 0 f bk) (mk : α → β) (hf : ∀ x, f x = g (mk x)) (hb : ∀ x, bk' (mk x) ≤ bk x + 1) : Rd enc P W μ fuel t g bk' := by
  intro cs d ps hd
  obtain ⟨xs, n, hn, hx, hlen, hxl, hxs⟩ := DataW.trod_struct ht hd
  cases hx
  obtain ⟨x, h3, h4⟩ := h n (by omega) cs xs (by rw [hxl, ← hl]; simp) (fun i g hg => hxs i g (by rw [← hl] at hg; simpa using hg))
  refine ⟨mk x, ⟨by rw [hsz, hlen, hP], fun i y v hy hv => h3 i y v (by rw [hf]; exact hy) (by simpa using hv)⟩, ?_⟩
  have := hμ.agg (xs.map (·.1))
  rw [List.map_map] at this
  have h5 := hb x
  have h6 : (xs.map fun y => μ y.1).sum = (xs.map (μ ∘ fun x => x.fst)).sum := rfl
  omega

end
end Go.Am

