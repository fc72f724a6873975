/-
  What was read reads as it did; a contract of the abstract machine as a law's statement.
-/
import Derived.Test.YtmilgoloagbmpaaGreatDoorAmT
namespace Go.Am
open Go.ChangeShapes

theorem mapM_turn {α β : Type} {f g : α → Option β} : ∀ {l : List α} {r : List β}, l.mapM f = some r → (∀ x ∈ l, ∀ y ∈ r, f x = some y → g x = some y) → l.mapM g = some r
  | [], r, h, _ => by simpa using h
  | x :: l, r, h, hfg => by
    rw [List.mapM_cons] at h ⊢
    simp only [bind, Option.bind_eq_some_iff, pure, Option.some.injEq] at h ⊢
    obtain ⟨y, hy, ys, hys, rfl⟩ := h
    exact ⟨y, hfg x (by simp) y (by simp) hy, ys, mapM_turn hys (fun x hx y hy' => hfg x (by simp [hx]) y (by simp [hy'])), rfl⟩

theorem mapM_range_get {α : Type} (l : List α) : (List.range l.length).mapM (fun i => l[i]?) = some l := by
  have key : ∀ (m : List α) (k : Nat), (∀ j, m[j]? = l[k + j]?) → (List.range' k m.length).mapM (fun i => l[i]?) = some m := by
    intro m
    induction m with
    | nil => intro k _; rfl
    | cons x m ih =>
      intro k h
      rw [List.length_cons, List.range'_succ, List.mapM_cons]
      have h0 := h 0
      simp at h0
      have := ih (k + 1) (fun j => by have := h (j + 1); simp at this; rw [this]; congr 1; omega)
      simp only [bind, Option.bind_eq_some_iff, pure, Option.some.injEq]
      exact ⟨x, h0.symm, m, this, rfl⟩
  rw [List.range_eq_range']
  exact key l 0 (fun j => by simp)

/-- types of plain data, closed -/
def Plain (P : Program) (S : TypeId → Prop) : Prop :=
  ∀ t, S t → P.underlying t = some .bool ∨ (∃ k, P.underlying t = some (.int k)) ∨ P.underlying t = some .string ∨ (∃ e, P.underlying t = some (.slice e) ∧ S e ∧ 1 ≤ P.cellsOf e) ∨ ∃ fs, P.underlying t = some (.struct fs) ∧ ∀ f ∈ fs.toList, S f.type

section
variable {H : Type} {enc : TypeId × Value → H} {P : Program} {W W' : World} {S : TypeId → Prop}

theorem cells?_same (hb : ∀ b, b < W.heap.size → W'.heap[b]? = W.heap[b]?) {a : Addr} {n : Nat} {cs : List Value} (h : W.cells? 0 a n = some cs) : W'.cells? 0 a n = some cs := by
  unfold World.cells? at *
  rw [if_pos (Nat.zero_le _)] at *
  refine mapM_turn h fun i _ y _ hy => ?_
  rw [cell_of_block (hb _ (World.block_lt_of_cell? W _ hy))]
  exact hy

theorem trod_same (hS : Plain P S) (hb : ∀ b, b < W.heap.size → W'.heap[b]? = W.heap[b]?) {sp : Nat → Bool} : ∀ (fuel : Nat) (t : TypeId) (cs : List Value) (x : DataW H × List MemPlace), S t → DataW.trod enc P W 0 (fun _ => true) true fuel t cs = some x →
    (∀ p ∈ x.2, sp p.block = true) → DataW.trod enc P W' 0 sp true fuel t cs = some x := by
  intro fuel
  induction fuel with
  | zero => intro t cs x _ h; simp [DataW.trod] at h
  | succ n ih =>
    intro t cs x hSt h hx
    rcases hS t hSt with ht | ⟨k, ht⟩ | ht | ⟨e, ht, hSe, hpos⟩ | ⟨fs, ht, hSf⟩
    · obtain ⟨b, rfl, rfl⟩ := DataW.trod_bool ht h
      unfold DataW.trod
      rw [ht]
    · have h2 := h
      obtain ⟨m, rfl, rfl, _⟩ := DataW.trod_int ht h
      unfold DataW.trod at h2 ⊢
      rw [ht] at h2 ⊢
      exact h2
    · have h2 := h
      obtain ⟨s, rfl, rfl, _⟩ := DataW.trod_string ht h
      unfold DataW.trod at h2 ⊢
      rw [ht] at h2 ⊢
      exact h2
    · have h0 := h
      rcases DataW.trod_slice ht h with ⟨rfl, rfl⟩ | ⟨a, len, cap, elems, rest, n', hn, rfl, rfl, _, hlc, hcm, hlen, hel, hsp, _⟩
      · unfold DataW.trod
        rw [ht]
        rfl
      · have hn' : n = n' := by omega
        subst hn'
        have hspare : cap - len = 0 ∨ sp a.block = true := by
          by_cases hc : cap = 0
          · exact .inl (by omega)
          · refine .inr (hx (.cell a.block a.off) ?_)
            simp only [List.mem_append]
            refine .inl (MemPlace.mem_row.2 ⟨0, ?_, ?_⟩)
            · have h1 := (hsp rfl).1
              have : 0 < elems.length + rest.length := by omega
              exact Nat.mul_pos this hpos
            · simp
        have hdo : ∀ (i : Nat) (y : DataW H × List MemPlace), (∀ p ∈ y.2, sp p.block = true) → (W.cells? 0 (a.add (i * P.cellsOf e)) (P.cellsOf e)).bind (DataW.trod enc P W 0 (fun _ => true) true n e) = some y →
            (W'.cells? 0 (a.add (i * P.cellsOf e)) (P.cellsOf e)).bind (DataW.trod enc P W' 0 sp true n e) = some y := fun i y hy h1 => by
          obtain ⟨ci, h2, h3⟩ := Option.bind_eq_some_iff.1 h1
          rw [cells?_same hb h2]
          exact ih e ci y hSe h3 hy
        have hmem : ∀ y ∈ elems ++ rest, ∀ p ∈ y.2, sp p.block = true := fun y hy p hp => hx p (by
          simp only [List.mem_append, List.mem_flatMap]
          exact .inr ⟨y, by simpa using hy, hp⟩)
        have m1 : (List.range len).mapM (fun i => (W'.cells? 0 (a.add (i * P.cellsOf e)) (P.cellsOf e)).bind (DataW.trod enc P W' 0 sp true n e)) = some elems := by
          have : (List.range len).mapM (fun i => elems[i]?) = some elems := by rw [← hlen]; exact mapM_range_get elems
          refine mapM_turn this fun i hi y hy h1 => hdo i y (hmem y (by simp [hy])) ?_
          rw [hel i (List.mem_range.1 hi)]
          exact h1
        have m2 : (if sp a.block then (List.range (cap - len)).mapM (fun j => (W'.cells? 0 (a.add ((len + j) * P.cellsOf e)) (P.cellsOf e)).bind (DataW.trod enc P W' 0 sp true n e)) else some []) = some rest := by
          obtain ⟨h1, h2⟩ := hsp rfl
          rcases hspare with hc | hc
          · have : rest = [] := List.eq_nil_of_length_eq_zero (by omega)
            subst this
            rw [hc]
            split <;> rfl
          · rw [if_pos hc]
            have : (List.range (cap - len)).mapM (fun i => rest[i]?) = some rest := by rw [← h1]; exact mapM_range_get rest
            refine mapM_turn this fun j hj y hy h3 => hdo (len + j) y (hmem y (by simp [hy])) ?_
            rw [h2 j (List.mem_range.1 hj)]
            exact h3
        unfold DataW.trod
        rw [ht]
        simp only [Nat.zero_le, hlc, hcm, and_self, if_true, m1, m2, Option.bind_some, Option.map_some]
    · obtain ⟨xs, n', hn, rfl, hl, hlen, hf⟩ := DataW.trod_struct ht h
      have hn' : n = n' := by omega
      subst hn'
      refine trod_struct_mk ht hl ?_
      have key : ∀ (l : List Field) (ys : List (DataW H × List MemPlace)), ys.length = l.length → (∀ f ∈ l, S f.type) → (∀ y ∈ ys, ∀ p ∈ y.2, sp p.block = true) →
          (∀ (i : Nat) f, l[i]? = some f → DataW.trod enc P W 0 (fun _ => true) true n f.type ((cs.drop f.offset).take (P.cellsOf f.type)) = ys[i]?) →
          l.mapM (fun f => DataW.trod enc P W' 0 sp true n f.type ((cs.drop f.offset).take (P.cellsOf f.type))) = some ys := by
        intro l
        induction l with
        | nil => intro ys h1 _ _ _; obtain rfl := List.eq_nil_of_length_eq_zero h1; rfl
        | cons f l ihl =>
          intro ys h1 h2 h3 h4
          cases ys with
          | nil => simp at h1
          | cons y ys =>
            rw [List.mapM_cons]
            simp only [bind, Option.bind_eq_some_iff, pure, Option.some.injEq]
            exact ⟨y, ih _ _ y (h2 f (by simp)) (by simpa using h4 0 f rfl) (h3 y (by simp)), ys, ihl ys (by simpa using h1) (fun g hg => h2 g (by simp [hg])) (fun z hz => h3 z (by simp [hz])) (fun i g hg => by simpa using h4 (i + 1) g (by simpa using hg)), rfl⟩
      refine key fs.toList xs (by simpa using hlen) hSf (fun y hy p hp => hx p (by simp only [List.mem_flatMap]; exact ⟨y, hy, hp⟩)) fun i f hi => hf i f (by simpa using hi)

theorem post_kept {f : Func} {s : ChangeSpec} {apart fresh handsOn again : Bool} {args : Array Value} {v : Value} {ds gs : List (DataW H)} {before pa pv : List MemPlace}
    (hW : DataW.Whole enc P f.params.toList s.vars apart W args.toList ds gs before)
    (hres : ∀ (b : Nat) (sp : Nat → Bool) (hd : Bool), DataW.TrodAll enc P W' b sp hd f.resultTypes.toList (v.resultList f.resultTypes.size) (s.fn H (ds ++ gs)).results [])
    (hargs : ∀ sp : Nat → Bool, (∀ p ∈ before, sp p.block = true) → DataW.TrodAll enc P W' 0 sp true f.params.toList args.toList (s.fn H (ds ++ gs)).args pa)
    (hvars : ∀ sp : Nat → Bool, (∀ p ∈ before, sp p.block = true) → DataW.TrodVars enc P W' sp s.vars (s.fn H (ds ++ gs)).vars pv)
    (hps : before = pa ++ pv) (hk : W.keptBut W' (· ∈ before)) (hfz : ∀ a : Addr, a.block < W.heap.size → W'.frozen? a = W.frozen? a)
    (hok : ∀ (j : Nat) (t : TypeId) (r : Value), f.resultTypes[j]? = some t → (v.resultList f.resultTypes.size)[j]? = some r → Value.okWide P W' .any 0 t r) :
    s.post enc P f apart fresh handsOn again W args v W' := by
  have hlt := hW.lt
  have hold : ∀ p ∈ before, (fun b => decide (b < W.heap.size)) p.block = true := fun p hp => by simpa using hW.lt p hp
  refine ⟨ds, gs, before, [], pa, pv, hW, hres _ _ _, hargs _ hold, hvars _ hold, World.keptBut_mono (fun p hp => ⟨hp, ?_⟩) hk, fun _ => ?_⟩
  · rw [hps, List.mem_append] at hp
    exact Or.inr hp
  · obtain ⟨_, _, _, _, _, hz, hn⟩ := hW
    refine ⟨hok, _, _, ([] ++ pa) ++ pv, ⟨[] ++ pa, pv, trodAll_append (hargs _ (fun _ _ => rfl)) (hres _ _ _), hvars _ (fun _ _ => rfl), rfl, ?_, ?_⟩, ?_⟩
    · intro b off hp
      have hp' : MemPlace.cell b off ∈ before := by rw [hps]; simpa using hp
      rw [hfz _ (hlt _ hp')]
      exact hz b off hp'
    · intro ha
      have := hn ha
      rw [hps] at this
      simpa using this
    · intro p hp _
      rw [hps]
      simpa using hp

theorem keptBut_of {may : MemPlace → Prop} (hb : ∀ b, b < W.heap.size → W'.heap[b]? = W.heap[b]?) (ho : W'.os = W.os) (hout : W'.output = W.output) : W.keptBut W' may := by
  refine ⟨ho, hout, fun i hi => ?_⟩
  rw [hb i hi]
  cases h : W.heap[i]? with
  | none => rfl
  | some o => cases o <;> simp

theorem frozen_of {a : Addr} (hb : W'.heap[a.block]? = W.heap[a.block]?) : W'.frozen? a = W.frozen? a := by
  unfold World.frozen?
  rw [hb]

theorem trodAll_same (hS : Plain P S) (hb : ∀ b, b < W.heap.size → W'.heap[b]? = W.heap[b]?) {sp : Nat → Bool} : ∀ {ts : List TypeId} {vs : List Value} {ds : List (DataW H)} {ps : List MemPlace}, (∀ t ∈ ts, S t) → DataW.TrodAll enc P W 0 (fun _ => true) true ts vs ds ps →
    (∀ p ∈ ps, sp p.block = true) → DataW.TrodAll enc P W' 0 sp true ts vs ds ps
  | [], [], [], _, _, h, _ => h
  | t :: ts, v :: vs, d :: ds, ps, hSt, ⟨p, q, ⟨n, h1⟩, h2, e⟩, hp => by
    subst e
    exact ⟨p, q, ⟨n, trod_same hS hb n t _ _ (hSt t (by simp)) h1 (fun x hx => hp x (by simp [hx]))⟩, trodAll_same hS hb (fun t ht => hSt t (by simp [ht])) h2 (fun x hx => hp x (by simp [hx])), rfl⟩

/-- a contract that the law is true, as the statement's -/
theorem ofACall {C : Cx} (hP : C.P = P) {f : FuncId} {fn : Func} {s : ChangeSpec} {args : Array Value} {ds gs : List (DataW H)} {before : List MemPlace} {xs : List A} {b : TypeId}
    (hc : ACall C f xs [] (fun r H' => H' = [] ∧ r = .d (.bool true))) (hlen : xs.length = args.size) (hargs : ∀ (i : Nat) x v, xs[i]? = some x → args[i]? = some v → RelA (memOf W) (fun _ => .tuple #[]) x v) (hgl : GlOk C (memOf W) W)
    (hW : DataW.Whole enc P fn.params.toList s.vars false W args.toList ds gs before) (hv : s.vars = []) (hb : fn.resultTypes = #[b]) (hbt : P.underlying b = some .bool)
    (hsf : s.fn H ds = { results := [.lit (.bool true)], args := ds }) (hS : Plain P S) (hSt : ∀ t ∈ fn.params.toList, S t) :
    Calls P f args W fun e W' => ∃ v, e = .returned v ∧ s.post enc P fn false true false false W args v W' := by
  subst hP
  have hgs : gs = [] := by
    obtain ⟨p, q, _, h2, _⟩ := hW
    rw [hv] at h2
    cases gs with
    | nil => rfl
    | cons g gs => cases h2
  subst hgs
  have hH : HRel (memOf W) (fun _ => .tuple #[]) W [] := HRel.nil _ _
  refine (hc.2 (memOf W) (fun _ => .tuple #[]) W args (memOf_good W) hgl hH hlen hargs).mono fun e W' he => ?_
  obtain ⟨v, r, H', M', G', rfl, ⟨rfl, rfl⟩, hr, _, _, hext, _⟩ := he
  cases hr
  rename_i hr
  cases hr
  refine ⟨_, rfl, ?_⟩
  have hblk : ∀ k, k < W.heap.size → W'.heap[k]? = W.heap[k]? := fun k hk => hext.block k hk (fun ⟨o, x, h1, _⟩ => by simp at h1)
  have hW' := hW
  obtain ⟨p, q, hA, hV, hpq, hz, hn⟩ := hW'
  rw [hv] at hV
  have hq : q = [] := hV
  subst hq
  refine post_kept hW (pa := p) (pv := []) ?_ ?_ ?_ hpq (keptBut_of hblk hext.os hext.output) (fun a ha => frozen_of (hblk _ ha)) ?_
  · intro b' sp hd
    rw [List.append_nil, hsf, hb]
    exact trodAll_mk1 ⟨1, by unfold DataW.trod; rw [hbt]; rfl⟩
  · intro sp hsp
    rw [List.append_nil, hsf]
    exact trodAll_same hS hblk hSt hA (fun x hx => hsp x (by rw [hpq]; simp [hx]))
  · intro sp hsp
    rw [hv, List.append_nil, hsf]
    rfl
  · intro j t r h1 h2
    rw [hb] at h1 h2
    cases j with
    | succ j => simp at h1
    | zero =>
      simp at h1 h2
      subst h1
      have : r = .bool true := by simpa [Value.resultList] using h2.symm
      subst this
      exact Go.RowKit.okWide_bool_mk hbt _

/-- a struct -/
theorem arg_st {t : TypeId} {v : Value} {base : Nat} {xs : List D} {fs : Array Field} (hv : Value.okWide P W .any base t v) (ht : P.underlying t = some (.struct fs)) (h : CellsD (memOf W) xs v.cells.toList) : RelA (memOf W) (fun _ => .tuple #[]) (.agg (xs.map .d)) v := by
  unfold Value.okWide at hv
  rw [ht] at hv
  obtain ⟨cs, rfl, _⟩ := hv
  obtain ⟨h1, h2⟩ := h
  have e : (Value.agg cs).cells = cs := rfl
  rw [e] at h1 h2
  refine .agg (by simpa using h1) (fun i v hv => ?_) fun i x v hx hv => ?_
  · have hlt : i < xs.length := by rw [h1]; simpa using (Array.getElem?_eq_some_iff.1 hv).1
    exact (h2 i _ v (List.getElem?_eq_getElem hlt) (by simpa using hv)).one
  · rw [List.getElem?_map] at hx
    cases hy : xs[i]? with
    | none => rw [hy] at hx; cases hx
    | some y => rw [hy] at hx; cases hx; exact .d (h2 i y v hy (by simpa using hv))

end
end Go.Am

