/-
  The abstract machine: calls that touch objects of the caller's.
-/
import Derived.Test.YtmilgoloagbmpaaGreatDoorAmH
namespace Go.Am

mutual
def ren (f : Nat → Nat) : A → A
  | .d x => .d x
  | .junk => .junk
  | .ref o k => .ref (f o) k
  | .ptr c => .ptr c
  | .full r => .full r
  | .osl o r => .osl (f o) r
  | .rsl o a b c => .rsl (f o) a b c
  | .clo g cs => .clo g (renL f cs)
  | .agg cs => .agg (renL f cs)
  | .tup xs => .tup (renL f xs)
  | .mp o => .mp (f o)
def renL (f : Nat → Nat) : List A → List A
  | [] => []
  | x :: r => ren f x :: renL f r
end

def renO (f : Nat → Nat) : Ob → Ob
  | .row cs e => .row (renL f cs) e
  | .bld o e => .bld (f o) e
  | x => x

theorem renL_get (f : Nat → Nat) : ∀ (l : List A) (i : Nat), (renL f l)[i]? = (l[i]?).map (ren f)
  | [], i => by simp [renL]
  | x :: r, 0 => by simp [renL]
  | x :: r, i + 1 => by simp [renL, renL_get f r i]
theorem renL_len (f : Nat → Nat) : ∀ l : List A, (renL f l).length = l.length
  | [] => rfl
  | x :: r => by simp [renL, renL_len f r]

mutual
theorem ren_in {M : Mem} {G : Nat → Value} {f : Nat → Nat} : ∀ (x : A) (v : Value), RelA M G (ren f x) v → RelA M (fun i => G (f i)) x v
  | .d x, v, h => by simp only [ren] at h; cases h; exact .d (by assumption)
  | .junk, v, _ => .junk
  | .ref o k, v, h => by simp only [ren] at h; cases h; exact .ref (by assumption)
  | .ptr c, v, h => by simp only [ren] at h; cases h; rename_i a b c d; exact .ptr a b c d
  | .full r, v, h => by simp only [ren] at h; cases h; exact .full (by assumption) (by assumption)
  | .osl o r, v, h => by simp only [ren] at h; cases h; exact .osl (by assumption) (by assumption)
  | .rsl o a b c, v, h => by simp only [ren] at h; cases h; rename_i a b c; exact .rsl (by assumption) (by assumption) (by assumption)
  | .clo g cs, v, h => by
    simp only [ren] at h
    cases h
    rename_i vs hl hr
    exact .clo (by rw [← hl, renL_len]) (renL_in cs vs hr)
  | .agg cs, v, h => by
    simp only [ren] at h
    cases h
    rename_i vs h1 hl hr
    exact .agg (by rw [← hl, renL_len]) h1 (renL_in cs vs hr)
  | .tup cs, v, h => by
    simp only [ren] at h
    cases h
    rename_i vs hl hr
    exact .tup (by rw [← hl, renL_len]) (renL_in cs vs hr)
  | .mp o, v, h => by simp only [ren] at h; cases h; exact .mp (by assumption)
theorem renL_in {M : Mem} {G : Nat → Value} {f : Nat → Nat} : ∀ (l : List A) (vs : Array Value), (∀ (i : Nat) x v, (renL f l)[i]? = some x → vs[i]? = some v → RelA M G x v) → ∀ (i : Nat) x v, l[i]? = some x → vs[i]? = some v → RelA M (fun i => G (f i)) x v
  | [], vs, _, i, x, v, hx, _ => by simp at hx
  | y :: r, vs, h, i, x, v, hx, hv => by
    cases i with
    | zero =>
      simp at hx
      subst hx
      exact ren_in y v (h 0 _ v rfl hv)
    | succ i =>
      have := renL_in r (vs.extract 1 vs.size) (fun j z u hz hu => by
        have hlt := (Array.getElem?_eq_some_iff.1 hu).1
        simp only [Array.size_extract] at hlt
        rw [Array.getElem?_extract, if_pos (by omega)] at hu
        exact h (j + 1) z u (by simpa [renL] using hz) (by rw [← hu]; congr 1; omega)) i x v (by simpa using hx) (by
        have hlt := (Array.getElem?_eq_some_iff.1 hv).1
        rw [Array.getElem?_extract, if_pos (by omega), ← hv]
        congr 1; omega)
      exact this
end

theorem ren_out {M : Mem} {G G' : Nat → Value} {f : Nat → Nat} {x : A} {v : Value} (h : RelA M G x v) (hg : ∀ o, Names x o → G' (f o) = G o) : RelA M G' (ren f x) v := by
  induction h with
  | d h => simp only [ren]; exact .d h
  | junk => simp only [ren]; exact .junk
  | ref h => simp only [ren]; exact .ref ((hg _ .ref).trans h)
  | ptr a b c d => simp only [ren]; exact .ptr a b c d
  | full a b => simp only [ren]; exact .full a b
  | osl a b => simp only [ren]; exact .osl a ((hg _ .osl).trans b)
  | rsl a b c => simp only [ren]; exact .rsl ((hg _ .rsl).trans a) b c
  | clo hl _ ih =>
    simp only [ren]
    refine .clo (by rw [renL_len]; exact hl) fun i x v hx hv => ?_
    rw [renL_get] at hx
    cases hc : (‹List A› : List A)[i]? with
    | none => rw [hc] at hx; cases hx
    | some y =>
      rw [hc] at hx
      simp only [Option.map_some, Option.some.injEq] at hx
      subst hx
      exact ih i y v hc hv fun o ho => hg o (.clo (List.mem_of_getElem? hc) ho)
  | agg hl h1 _ ih =>
    simp only [ren]
    refine .agg (by rw [renL_len]; exact hl) h1 fun i x v hx hv => ?_
    rw [renL_get] at hx
    cases hc : (‹List A› : List A)[i]? with
    | none => rw [hc] at hx; cases hx
    | some y =>
      rw [hc] at hx
      simp only [Option.map_some, Option.some.injEq] at hx
      subst hx
      exact ih i y v hc hv fun o ho => hg o (.agg (List.mem_of_getElem? hc) ho)
  | tup hl _ ih =>
    simp only [ren]
    refine .tup (by rw [renL_len]; exact hl) fun i x v hx hv => ?_
    rw [renL_get] at hx
    cases hc : (‹List A› : List A)[i]? with
    | none => rw [hc] at hx; cases hx
    | some y =>
      rw [hc] at hx
      simp only [Option.map_some, Option.some.injEq] at hx
      subst hx
      exact ih i y v hc hv fun o ho => hg o (.tup (List.mem_of_getElem? hc) ho)
  | mp h => simp only [ren]; exact .mp ((hg _ .mp).trans h)

mutual
/-- what the objects of 'ps' no longer vouch for -/
def dg (ps : List Nat) : A → A
  | .osl o r => bif ps.contains o then .d (.sl r) else .osl o r
  | .clo g cs => .clo g (dgL ps cs)
  | .agg cs => .agg (dgL ps cs)
  | .tup xs => .tup (dgL ps xs)
  | .d x => .d x
  | .junk => .junk
  | .ref o k => .ref o k
  | .ptr c => .ptr c
  | .full r => .full r
  | .rsl o a b c => .rsl o a b c
  | .mp o => .mp o
def dgL (ps : List Nat) : List A → List A
  | [] => []
  | x :: r => dg ps x :: dgL ps r
end

def dgO (ps : List Nat) : Ob → Ob
  | .row cs e => .row (dgL ps cs) e
  | .bld o e => bif ps.contains o then .dead else .bld o e
  | x => x

theorem isTok_dgO (ps : List Nat) (x : Ob) : isTok (dgO ps x) = isTok x := by
  cases x with
  | bld o e => simp only [dgO]; cases ps.contains o <;> rfl
  | _ => rfl

theorem dgL_get (ps : List Nat) : ∀ (l : List A) (i : Nat), (dgL ps l)[i]? = (l[i]?).map (dg ps)
  | [], i => by simp [dgL]
  | x :: r, 0 => by simp [dgL]
  | x :: r, i + 1 => by simp [dgL, dgL_get ps r i]
theorem dgL_len (ps : List Nat) : ∀ l : List A, (dgL ps l).length = l.length
  | [] => rfl
  | x :: r => by simp [dgL, dgL_len ps r]

/-- the places of the objects of 'ps', which hold slices, may turn -/
theorem dg_rel {M : Mem} {G G' : Nat → Value} {ps : List Nat} {x : A} {v : Value} (h : RelA M G x v) (hps : ∀ p ∈ ps, ∃ a l c, G p = .slice a l c) (hg : ∀ o, o ∉ ps → G o ≠ .tuple #[] → G' o = G o) : RelA M G' (dg ps x) v := by
  have notin : ∀ o, (∀ a l c, G o ≠ .slice a l c) → o ∉ ps := fun o h' hm => by obtain ⟨a, l, c, e⟩ := hps o hm; exact h' a l c e
  induction h with
  | d h => simp only [dg]; exact .d h
  | junk => simp only [dg]; exact .junk
  | ref h => simp only [dg]; exact .ref ((hg _ (notin _ (by rw [h]; simp)) (by rw [h]; simp)).trans h)
  | ptr a b c d => simp only [dg]; exact .ptr a b c d
  | full a b => simp only [dg]; exact .full a b
  | osl a b =>
    rename_i o rows v
    simp only [dg]
    cases hc : ps.contains o with
    | true => exact .d a
    | false => exact .osl a ((hg _ (by simpa using hc) (by rw [b]; cases a <;> simp)).trans b)
  | rsl a b c => simp only [dg]; exact .rsl ((hg _ (notin _ (by rw [a]; simp)) (by rw [a]; simp)).trans a) b c
  | clo hl _ ih =>
    simp only [dg]
    refine .clo (by rw [dgL_len]; exact hl) fun i x v hx hv => ?_
    rw [dgL_get] at hx
    cases hc : (‹List A› : List A)[i]? with
    | none => rw [hc] at hx; cases hx
    | some y =>
      rw [hc] at hx
      simp only [Option.map_some, Option.some.injEq] at hx
      subst hx
      exact ih i y v hc hv
  | agg hl h1 _ ih =>
    simp only [dg]
    refine .agg (by rw [dgL_len]; exact hl) h1 fun i x v hx hv => ?_
    rw [dgL_get] at hx
    cases hc : (‹List A› : List A)[i]? with
    | none => rw [hc] at hx; cases hx
    | some y =>
      rw [hc] at hx
      simp only [Option.map_some, Option.some.injEq] at hx
      subst hx
      exact ih i y v hc hv
  | tup hl _ ih =>
    simp only [dg]
    refine .tup (by rw [dgL_len]; exact hl) fun i x v hx hv => ?_
    rw [dgL_get] at hx
    cases hc : (‹List A› : List A)[i]? with
    | none => rw [hc] at hx; cases hx
    | some y =>
      rw [hc] at hx
      simp only [Option.map_some, Option.some.injEq] at hx
      subst hx
      exact ih i y v hc hv
  | mp h => simp only [dg]; exact .mp ((hg _ (notin _ (by rw [h]; simp)) (by rw [h]; simp)).trans h)

theorem dgO_rel {M : Mem} {G G' : Nat → Value} {w : World} {ps : List Nat} {x : Ob} {g : Value} (h : ObRel M G w x g) (hps : ∀ p ∈ ps, ∃ a l c, G p = .slice a l c) (hg : ∀ o, o ∉ ps → G o ≠ .tuple #[] → G' o = G o) : ObRel M G' w (dgO ps x) g := by
  cases x with
  | dead => trivial
  | row cs e =>
    obtain ⟨b, us, g1, g2, g3, g4, g5, g6⟩ := h
    refine ⟨b, us, g1, g2, by rw [dgL_len]; exact g3, g4, fun i y v hy hv => ?_, g6⟩
    rw [dgL_get] at hy
    cases hc : cs[i]? with
    | none => rw [hc] at hy; cases hy
    | some z =>
      rw [hc] at hy
      simp only [Option.map_some, Option.some.injEq] at hy
      subst hy
      exact dg_rel (g5 i z v hc hv) hps hg
  | bld o e =>
    simp only [dgO]
    cases hc : ps.contains o with
    | true => trivial
    | false =>
      obtain ⟨b, v0, g1, g2, g3, g4, g5⟩ := h
      have e' := hg o (by simpa using hc) g4
      exact ⟨b, v0, g1, by rw [e']; exact g2, g3, by rw [e']; exact g4, g5⟩
  | buf e sz => exact h
  | tok e sz => exact h
  | map es =>
    obtain ⟨b, ms, cl, g1, g2, g3, g4, g5⟩ := h
    refine ⟨b, ms, cl, g1, g2, g3, fun i k cs e a c => ⟨(g4 i k cs e a c).1, ?_⟩, g5⟩
    refine ((g4 i k cs e a c).2).mono (fun _ _ e => e) fun o ho => ?_
    exfalso
    have : ∀ l : List D, ¬ Names (.agg (l.map .d)) o := fun l hn => by
      cases hn with
      | agg hm hn =>
        obtain ⟨y, _, rfl⟩ := List.mem_map.1 hm
        cases hn
    match cs with
    | [] => exact this [] ho
    | [x] => cases ho
    | x :: y :: r => exact this _ ho

theorem blk_dgO {ps : List Nat} {x : Ob} {g : Value} {b : Nat} (h : blk (dgO ps x) g = some b) : blk x g = some b := by
  cases x with
  | row cs e => revert h; cases g <;> first | exact id | (rename_i a; cases a <;> exact id)
  | bld o e =>
    simp only [dgO] at h
    cases hc : ps.contains o with
    | true => rw [hc] at h; simp [blk] at h
    | false => rw [hc] at h; exact h
  | _ => exact h
theorem blk_renO (f : Nat → Nat) (x : Ob) (g : Value) : blk (renO f x) g = blk x g := by
  cases x with
  | row cs e => cases g <;> first | rfl | (rename_i a; cases a <;> rfl)
  | bld o e => cases g <;> first | rfl | (rename_i a; cases a <;> rfl)
  | _ => rfl

/-! ### a call over objects of the caller's: 'idx' says which -/

def nthD (l : List Nat) (i : Nat) : Nat := match nth l i with | some x => x | none => 0

/-- the callee's numbers, in the caller's -/
def into (idx : List Nat) (n : Nat) (i : Nat) : Nat := bif Nat.blt i idx.length then nthD idx i else n + (i - idx.length)

def MatchH (f : Nat → Nat) (H : Heap) : List Nat → Heap → Prop
  | [], [] => True
  | p :: ps, y :: ys => nth H p = some (renO f y) ∧ MatchH f H ps ys
  | _, _ => False

def toksOf : List Nat → Heap → List Nat
  | p :: ps, .tok .. :: ys => p :: toksOf ps ys
  | p :: ps, .buf .. :: ys => p :: toksOf ps ys
  | _ :: ps, _ :: ys => toksOf ps ys
  | _, _ => []

def nodupB : List Nat → Bool
  | [] => true
  | x :: r => !r.contains x && nodupB r

theorem nodupB_spec : ∀ {l : List Nat}, nodupB l = true → l.Nodup
  | [], _ => List.nodup_nil
  | x :: r, h => by
    simp only [nodupB, Bool.and_eq_true, Bool.not_eq_true', List.contains_eq_mem] at h
    exact List.nodup_cons.2 ⟨by simpa using h.1, nodupB_spec h.2⟩

theorem MatchH.spec {f : Nat → Nat} {H : Heap} : ∀ {idx : List Nat} {cH : Heap}, MatchH f H idx cH → idx.length = cH.length ∧ ∀ (i : Nat) y, cH[i]? = some y → ∃ p, idx[i]? = some p ∧ H[p]? = some (renO f y)
  | [], [], _ => ⟨rfl, fun i y h => by simp at h⟩
  | p :: ps, y :: ys, h => by
    obtain ⟨h1, h2⟩ := MatchH.spec h.2
    refine ⟨by simp [h1], fun i z hz => ?_⟩
    cases i with
    | zero => simp at hz; subst hz; exact ⟨p, rfl, by rw [← nth_eq]; exact h.1⟩
    | succ i => simpa using h2 i z (by simpa using hz)
  | [], _ :: _, h => h.elim
  | _ :: _, [], h => h.elim

theorem toksOf_spec : ∀ {idx : List Nat} {cH : Heap} {p : Nat}, idx.length = cH.length → (p ∈ toksOf idx cH ↔ ∃ (i : Nat) (y : Ob), idx[i]? = some p ∧ cH[i]? = some y ∧ isTok y = true)
  | [], [], p, _ => by simp [toksOf]
  | q :: qs, y :: ys, p, hl => by
    have ih := toksOf_spec (idx := qs) (cH := ys) (p := p) (by simpa using hl)
    have shift : (∃ (i : Nat) (z : Ob), (q :: qs)[i]? = some p ∧ (y :: ys)[i]? = some z ∧ isTok z = true) ↔ (q = p ∧ isTok y = true) ∨ ∃ (i : Nat) (z : Ob), qs[i]? = some p ∧ ys[i]? = some z ∧ isTok z = true := by
      constructor
      · rintro ⟨i, z, h1, h2, h3⟩
        cases i with
        | zero => simp at h1 h2; subst h1; subst h2; exact .inl ⟨rfl, h3⟩
        | succ i => exact .inr ⟨i, z, by simpa using h1, by simpa using h2, h3⟩
      · rintro (⟨h1, h2⟩ | ⟨i, z, h1, h2, h3⟩)
        · exact ⟨0, y, by simp [h1], rfl, h2⟩
        · exact ⟨i + 1, z, by simpa using h1, by simpa using h2, h3⟩
    rw [shift]
    cases y with
    | buf e sz =>
      simp only [toksOf, List.mem_cons, ih, isTok, and_true]
      constructor
      · rintro (rfl | h)
        · exact .inl rfl
        · exact .inr h
      · rintro (rfl | h)
        · exact .inl rfl
        · exact .inr h
    | tok e sz =>
      simp only [toksOf, List.mem_cons, ih, isTok, and_true]
      constructor
      · rintro (rfl | h)
        · exact .inl rfl
        · exact .inr h
      · rintro (rfl | h)
        · exact .inl rfl
        · exact .inr h
    | _ => simp [toksOf, isTok, ih]
  | [], _ :: _, p, h => by simp at h
  | _ :: _, [], p, h => by simp at h

/-- which of the callee's objects a number of the caller's is -/
def fnd : List Nat → Nat → Option Nat
  | [], _ => none
  | x :: r, p => bif Nat.beq x p then some 0 else (match fnd r p with | some i => some (i + 1) | none => none)

theorem fnd_some : ∀ {l : List Nat} {p i : Nat}, fnd l p = some i → l[i]? = some p
  | [], p, i, h => by simp [fnd] at h
  | x :: r, p, i, h => by
    simp only [fnd] at h
    cases hb : Nat.beq x p with
    | true => rw [hb] at h; simp at h; subst h; simp [Nat.eq_of_beq_eq_true hb]
    | false =>
      rw [hb] at h
      simp only [cond_false] at h
      split at h
      · rename_i j hj
        simp only [Option.some.injEq] at h
        subst h
        simpa using fnd_some hj
      · cases h

theorem fnd_none : ∀ {l : List Nat} {p : Nat}, fnd l p = none → p ∉ l
  | [], p, _ => by simp
  | x :: r, p, h => by
    simp only [fnd] at h
    cases hb : Nat.beq x p with
    | true => rw [hb] at h; simp at h
    | false =>
      rw [hb] at h
      simp only [cond_false] at h
      split at h
      · cases h
      · rename_i hj
        intro hm
        cases hm with
        | head => simp at hb
        | tail _ hm => exact fnd_none hj hm

theorem fnd_of {l : List Nat} (hn : l.Nodup) {p i : Nat} (h : l[i]? = some p) : fnd l p = some i := by
  cases hf : fnd l p with
  | none => exact absurd (List.mem_of_getElem? h) (fnd_none hf)
  | some j =>
    have hj := fnd_some hf
    have hi' := (List.getElem?_eq_some_iff.1 h).1
    exact congrArg some (((List.getElem?_inj hi' hn).1 (by rw [h, hj])).symm)

/-- the caller's heap behind the call -/
def mergeGo (idx : List Nat) (f : Nat → Nat) (ps : List Nat) (cH' : Heap) : Nat → Heap → Heap
  | _, [] => []
  | p, x :: r => (match fnd idx p with | some i => (match nth cH' i with | some y => renO f y | none => .dead) | none => dgO ps x) :: mergeGo idx f ps cH' (p + 1) r

def mergeF (H : Heap) (idx : List Nat) (f : Nat → Nat) (ps : List Nat) (cH' : Heap) : Heap :=
  mergeGo idx f ps cH' 0 H ++ (cH'.drop idx.length).map (renO f)

theorem mergeGo_get (idx : List Nat) (f : Nat → Nat) (ps : List Nat) (cH' : Heap) (hl : idx.length ≤ cH'.length) : ∀ (H : Heap) (q p : Nat), (mergeGo idx f ps cH' q H)[p]? =
    if p < H.length then (match fnd idx (q + p) with | some i => (cH'[i]?).map (renO f) | none => (H[p]?).map (dgO ps)) else none
  | [], q, p => by simp [mergeGo]
  | x :: r, q, 0 => by
    simp only [mergeGo, List.getElem?_cons_zero, List.length_cons, Nat.add_zero]
    rw [if_pos (by omega)]
    cases hi : fnd idx q with
    | none => simp
    | some i =>
      have hlt : i < idx.length := (List.getElem?_eq_some_iff.1 (fnd_some hi)).1
      have hv : cH'[i]? = some cH'[i] := List.getElem?_eq_getElem (by omega)
      simp [nth_eq, hv]
  | x :: r, q, p + 1 => by
    simp only [mergeGo, List.getElem?_cons_succ, List.length_cons]
    rw [mergeGo_get idx f ps cH' hl r (q + 1) p]
    by_cases h : p < r.length
    · rw [if_pos h, if_pos (by omega), show q + 1 + p = q + (p + 1) by omega]
    · rw [if_neg h, if_neg (by omega)]

theorem mergeGo_len (idx : List Nat) (f : Nat → Nat) (ps : List Nat) (cH' : Heap) : ∀ (H : Heap) (q : Nat), (mergeGo idx f ps cH' q H).length = H.length
  | [], _ => rfl
  | x :: r, q => by simp [mergeGo, mergeGo_len idx f ps cH' r (q + 1)]

theorem mergeF_len {H : Heap} {idx : List Nat} {f : Nat → Nat} {ps : List Nat} {cH' : Heap} : (mergeF H idx f ps cH').length = H.length + (cH'.length - idx.length) := by
  simp [mergeF, mergeGo_len]

theorem mergeF_get {H : Heap} {idx : List Nat} {f : Nat → Nat} {ps : List Nat} {cH' : Heap} (hl : idx.length ≤ cH'.length) (p : Nat) : (mergeF H idx f ps cH')[p]? =
    if p < H.length then (match fnd idx p with | some i => (cH'[i]?).map (renO f) | none => (H[p]?).map (dgO ps)) else (cH'[idx.length + (p - H.length)]?).map (renO f) := by
  unfold mergeF
  by_cases h : p < H.length
  · rw [List.getElem?_append_left (by rw [mergeGo_len]; exact h), mergeGo_get idx f ps cH' hl, if_pos h, if_pos h, Nat.zero_add]
  · rw [List.getElem?_append_right (by rw [mergeGo_len]; omega), mergeGo_len, if_neg h, List.getElem?_map, List.getElem?_drop]

def idxOk (idx : List Nat) (n : Nat) : Bool := nodupB idx && idx.all fun p => Nat.blt p n

/-- less is known of a list's values -/
theorem LeL.rels {M : Mem} {G : Nat → Value} {xs ys : List A} (h : LeL xs ys) {vs : Array Value} (hr : ∀ (i : Nat) x v, ys[i]? = some x → vs[i]? = some v → RelA M G x v) : ∀ (i : Nat) x v, xs[i]? = some x → vs[i]? = some v → RelA M G x v := by
  intro i x v hx hv
  obtain ⟨hl, hh⟩ := h.spec
  have hlt : i < ys.length := by rw [← hl]; exact (List.getElem?_eq_some_iff.1 hx).1
  have hy := List.getElem?_eq_getElem hlt
  exact (hh i x _ hx hy).rel (hr i _ v hy hv)

theorem AOps.callHL {F : Fx} {L l : List Oper} {o : Oper} {env : Env} {H : Heap} {Q : Env → Heap → Prop} {d : Option Nat} {g : FuncId} {xs : List A} (idx : List Nat) (cargs : List A) (cH : Heap) {Qc : A → Heap → Prop}
    (h : stepC F.C L o env = some (d, g, xs)) (hx : LeL (renL (into idx H.length) cargs) xs) (hi : idxOk idx H.length = true) (hm : MatchH (into idx H.length) H idx cH) (hc : ACall F.C g cargs cH Qc)
    (k : ∀ r cH', Qc r cH' → AOps F L l (put (fun t => dg (toksOf idx cH) (env t)) d (ren (into idx H.length) r)) (mergeF H idx (into idx H.length) (toksOf idx cH) cH') Q) : AOps F L (o :: l) env H Q := by
  obtain ⟨hw, ha, rfl⟩ := stepC_spec h
  refine aops_step hw fun fr M G w a K Qw hK hd hs hsi hk => ?_
  obtain ⟨vs, h1, h2, h3⟩ := callArgs_ok ha (fun y _ => hs.eval y) hc.1
  unfold Oper.wp
  rw [h1 w]
  generalize hf : into idx H.length = f at *
  generalize hps : toksOf idx cH = ps at *
  obtain ⟨hlen, hmatch⟩ := hm.spec
  simp only [idxOk, Bool.and_eq_true] at hi
  have hnd := nodupB_spec hi.1
  have hlt : ∀ p ∈ idx, p < H.length := fun p hp => by simpa using List.all_eq_true.1 hi.2 p hp
  have f_lt : ∀ {i p : Nat}, idx[i]? = some p → f i = p := fun {i p} hip => by
    have : i < idx.length := (List.getElem?_eq_some_iff.1 hip).1
    have hb : Nat.blt i idx.length = true := Nat.ble_eq_true_of_le this
    rw [← hf]
    simp [into, hb, nthD, nth_eq, hip]
  have f_ge : ∀ {i : Nat}, idx.length ≤ i → f i = H.length + (i - idx.length) := fun {i} hi' => by
    have hb : Nat.blt i idx.length = false := by
      cases hb : Nat.blt i idx.length with
      | false => rfl
      | true => have := Nat.le_of_ble_eq_true hb; omega
    rw [← hf]
    simp [into, hb]
  -- the callee's view
  have hcH : HRel M (fun i => G (f i)) w cH := by
    refine ⟨fun i y hy => ?_, fun i i' y y' b hy hy' hb hb' => ?_, fun i hi' => ?_⟩
    · obtain ⟨p, hp, hHp⟩ := hmatch i y hy
      have hob := hs.hrel.obj p _ hHp
      simp only [f_lt hp]
      cases y with
      | dead => trivial
      | row cs e =>
        obtain ⟨b, us, g1, g2, g3, g4, g5, g6⟩ := hob
        exact ⟨b, us, g1, g2, by rw [g3, renL_len], g4, renL_in cs us g5, g6⟩
      | bld o e => exact hob
      | buf e sz => exact hob
      | tok e sz => exact hob
      | map es =>
        obtain ⟨b, ms, cl, g1, g2, g3, g4, g5⟩ := hob
        refine ⟨b, ms, cl, g1, g2, g3, fun j k cs e a c => ⟨(g4 j k cs e a c).1, ?_⟩, g5⟩
        refine ((g4 j k cs e a c).2).bare ?_
        have : ∀ l : List D, namesLtL 0 (l.map .d) = true := fun l => by
          induction l with
          | nil => rfl
          | cons x r ih => simp [namesLtL, namesLt, ih]
        match cs with
        | [] => rfl
        | [x] => rfl
        | x :: y :: r => simp only [rowA, namesLt]; exact this _
    · obtain ⟨p, hp, hHp⟩ := hmatch i y hy
      obtain ⟨p', hp', hHp'⟩ := hmatch i' y' hy'
      simp only [f_lt hp] at hb
      simp only [f_lt hp'] at hb'
      have := hs.hrel.apart p p' _ _ b hHp hHp' (by rw [blk_renO]; exact hb) (by rw [blk_renO]; exact hb')
      subst this
      have e1 := fnd_of hnd hp
      have e2 := fnd_of hnd hp'
      rw [e1] at e2
      exact Option.some.inj e2
    · simp only [f_ge (by omega : idx.length ≤ i)]
      exact hs.hrel.fresh _ (by omega)
  have hown : ∀ b, own (fun i => G (f i)) cH b → own G H b := fun b ⟨i, y, hy, hb⟩ => by
    obtain ⟨p, hp, hHp⟩ := hmatch i y hy
    simp only [f_lt hp] at hb
    exact ⟨p, _, hHp, by rw [blk_renO]; exact hb⟩
  have h3 := hx.rels h3
  refine (hc.2 M (fun i => G (f i)) w vs hs.good hs.gl hcH (by rw [← h2, ← hx.spec.1, renL_len]) (renL_in cargs vs h3)).mono fun e w' he => ?_
  obtain ⟨v, r, cH', M', G', rfl, hq, g1, g2, g3, g4, g5, g6, g7⟩ := he
  have hle : idx.length ≤ cH'.length := by omega
  -- the caller's places behind the call
  let G2 : Nat → Value := fun p => match fnd idx p with | some i => G' i | none => if p < H.length then G p else G' (idx.length + (p - H.length))
  have G2f : ∀ i, G2 (f i) = G' i := fun i => by
    rcases Nat.lt_or_ge i idx.length with hi' | hi'
    · have hip : idx[i]? = some idx[i] := List.getElem?_eq_getElem hi'
      simp only [G2, f_lt hip, fnd_of hnd hip]
    · have hnot : fnd idx (f i) = none := by
        cases hfn : fnd idx (f i) with
        | none => rfl
        | some j =>
          have := hlt _ (List.mem_of_getElem? (fnd_some hfn))
          rw [f_ge hi'] at this
          omega
      simp only [G2, hnot]
      rw [f_ge hi', if_neg (by omega)]
      congr 1
      omega
  have tokG : ∀ p ∈ ps, ∃ a l c, G p = .slice a l c := fun p hp => by
    rw [← hps] at hp
    obtain ⟨i, y, e1, e2, e3⟩ := (toksOf_spec hlen).1 hp
    obtain ⟨p', hp', hHp⟩ := hmatch i y e2
    have : p' = p := Option.some.inj (hp'.symm.trans e1)
    subst this
    have hob := hs.hrel.obj p' _ hHp
    cases y <;> simp [isTok] at e3
    case buf => rcases hob with ⟨_, ⟨e, _⟩ | ⟨ad, cap, us, e, _⟩⟩ <;> exact ⟨_, _, _, e⟩
    rcases hob with e | ⟨ad, n, cap, e, _⟩
    · exact ⟨_, _, _, e⟩
    · exact ⟨_, _, _, e⟩
  have G2o : ∀ p, p ∉ ps → p < H.length → G2 p = G p := fun p hp hpl => by
    simp only [G2]
    cases hfn : fnd idx p with
    | none => simp [hpl]
    | some i =>
      have hip := fnd_some hfn
      have hil : i < cH.length := by rw [← hlen]; exact (List.getElem?_eq_some_iff.1 hip).1
      have hy : cH[i]? = some cH[i] := List.getElem?_eq_getElem hil
      have ht : isTok cH[i] = false := by
        cases ht : isTok cH[i] with
        | false => rfl
        | true => exact absurd ((toksOf_spec hlen).2 ⟨i, _, hip, hy, ht⟩) (by rw [hps]; exact hp)
      have := (g7 i _ hy ht).1
      simp only [f_lt hip] at this
      exact this
  have hg2 : ∀ p, p ∉ ps → G p ≠ .tuple #[] → G2 p = G p := fun p hp hne => by
    refine G2o p hp ?_
    rcases Nat.lt_or_ge p H.length with h' | h'
    · exact h'
    · exact absurd (hs.hrel.fresh p h') hne
  have objR : ∀ (i : Nat) y, cH'[i]? = some y → ObRel M' G2 w' (renO f y) (G' i) := fun i y hy => by
    have hob := g3.obj i y hy
    cases y with
    | dead => trivial
    | row cs e =>
      obtain ⟨b, us, q1, q2, q3, q4, q5, q6⟩ := hob
      refine ⟨b, us, q1, q2, by rw [renL_len]; exact q3, q4, fun j x v hx hv => ?_, q6⟩
      rw [renL_get] at hx
      cases hc' : cs[j]? with
      | none => rw [hc'] at hx; cases hx
      | some z =>
        rw [hc'] at hx
        simp only [Option.map_some, Option.some.injEq] at hx
        subst hx
        exact ren_out (q5 j z v hc' hv) fun o _ => G2f o
    | bld o e =>
      obtain ⟨b, v0, q1, q2, q3, q4, q5⟩ := hob
      exact ⟨b, v0, q1, by rw [G2f]; exact q2, q3, by rw [G2f]; exact q4, q5⟩
    | buf e sz => exact hob
    | tok e sz => exact hob
    | map es =>
      obtain ⟨b, ms, cl, q1, q2, q3, q4, q5⟩ := hob
      refine ⟨b, ms, cl, q1, q2, q3, fun j k cs e a c => ⟨(q4 j k cs e a c).1, ?_⟩, q5⟩
      refine ((q4 j k cs e a c).2).bare ?_
      have : ∀ l : List D, namesLtL 0 (l.map .d) = true := fun l => by
        induction l with
        | nil => rfl
        | cons x r ih => simp [namesLtL, namesLt, ih]
      match cs with
      | [] => rfl
      | [x] => rfl
      | x :: y :: r => simp only [rowA, namesLt]; exact this _
  have notin : ∀ (p : Nat) x b, fnd idx p = none → H[p]? = some x → blk x (G p) = some b → ¬ own (fun i => G (f i)) cH b := fun p x b hfn hx hb ⟨i, y, hy, hyb⟩ => by
    obtain ⟨p', hp', hHp'⟩ := hmatch i y hy
    simp only [f_lt hp'] at hyb
    have := hs.hrel.apart p p' x _ b hx hHp' hb (by rw [blk_renO]; exact hyb)
    subst this
    exact fnd_none hfn (List.mem_of_getElem? hp')
  -- what an object of the caller's is
  have shape : ∀ (p : Nat) x, (mergeF H idx f ps cH')[p]? = some x → (∃ i y, cH'[i]? = some y ∧ x = renO f y ∧ G2 p = G' i ∧ p = f i) ∨ (∃ y, p < H.length ∧ fnd idx p = none ∧ H[p]? = some y ∧ x = dgO ps y ∧ G2 p = G p) := by
    intro p x hx
    rw [mergeF_get hle] at hx
    by_cases hp : p < H.length
    · rw [if_pos hp] at hx
      cases hfn : fnd idx p with
      | some i =>
        rw [hfn] at hx
        simp only at hx
        cases hy : cH'[i]? with
        | none => rw [hy] at hx; cases hx
        | some y =>
          rw [hy] at hx
          simp only [Option.map_some, Option.some.injEq] at hx
          exact .inl ⟨i, y, hy, hx.symm, by simp only [G2, hfn], (f_lt (fnd_some hfn)).symm⟩
      | none =>
        rw [hfn] at hx
        simp only at hx
        cases hy : H[p]? with
        | none => rw [hy] at hx; cases hx
        | some y =>
          rw [hy] at hx
          simp only [Option.map_some, Option.some.injEq] at hx
          exact .inr ⟨y, hp, rfl, rfl, hx.symm, by simp [G2, hfn, hp]⟩
    · rw [if_neg hp] at hx
      cases hy : cH'[idx.length + (p - H.length)]? with
      | none => rw [hy] at hx; cases hx
      | some y =>
        rw [hy] at hx
        simp only [Option.map_some, Option.some.injEq] at hx
        have hpf : p = f (idx.length + (p - H.length)) := by rw [f_ge (by omega)]; omega
        exact .inl ⟨_, y, hy, hx.symm, by rw [hpf, G2f, ← hpf], hpf⟩
  have hown2 : ∀ b, own G2 (mergeF H idx f ps cH') b → own G H b ∨ w.heap.size ≤ b := fun b ⟨p, x, hx, hb⟩ => by
    rcases shape p x hx with ⟨i, y, hy, rfl, hg, _⟩ | ⟨y, hp, hfn, hy, rfl, hg⟩
    · rw [blk_renO, hg] at hb
      rcases g5 b ⟨i, y, hy, hb⟩ with h' | h'
      · exact .inl (hown b h')
      · exact .inr h'
    · replace hb := blk_dgO hb
      rw [hg] at hb
      exact .inl ⟨p, y, hy, hb⟩
  have hrel2 : HRel M' G2 w' (mergeF H idx f ps cH') := by
    refine ⟨fun p x hx => ?_, fun p p' x x' b hx hx' hb hb' => ?_, fun p hp => ?_⟩
    · rcases shape p x hx with ⟨i, y, hy, rfl, hg, _⟩ | ⟨y, hp, hfn, hy, rfl, hg⟩
      · rw [hg]; exact objR i y hy
      · rw [hg]
        have hob := hs.hrel.obj p y hy
        refine dgO_rel (hob.keep g4.mono (fun b hb => g4.block b (blk_lt hob hb) (notin p y b hfn hy hb)) fun b hb off sp hn => ?_) tokG hg2
        cases hM : M' ⟨b, off, sp⟩ with
        | none => rfl
        | some u =>
          rcases g4.fresh _ u hM with q | q | q
          · rw [hn] at q; cases q
          · exact absurd q (notin p y b hfn hy hb)
          · have := blk_lt hob hb; simp only at q; omega
    · rcases shape p x hx with ⟨i, y, hy, rfl, hg, hpi⟩ | ⟨y, hp, hfn, hy, rfl, hg⟩ <;> rcases shape p' x' hx' with ⟨i', y', hy', rfl, hg', hpi'⟩ | ⟨y', hp', hfn', hy', rfl, hg'⟩
      · rw [blk_renO, hg] at hb
        rw [blk_renO, hg'] at hb'
        rw [hpi, hpi', g3.apart i i' y y' b hy hy' hb hb']
      · rw [blk_renO, hg] at hb
        replace hb' := blk_dgO hb'
        rw [hg'] at hb'
        rcases g5 b ⟨i, y, hy, hb⟩ with q | q
        · exact absurd q (notin p' y' b hfn' hy' hb')
        · have := blk_lt (hs.hrel.obj p' y' hy') hb'; omega
      · replace hb := blk_dgO hb
        rw [hg] at hb
        rw [blk_renO, hg'] at hb'
        rcases g5 b ⟨i', y', hy', hb'⟩ with q | q
        · exact absurd q (notin p y b hfn hy hb)
        · have := blk_lt (hs.hrel.obj p y hy) hb; omega
      · replace hb := blk_dgO hb
        rw [hg] at hb
        replace hb' := blk_dgO hb'
        rw [hg'] at hb'
        exact hs.hrel.apart p p' y y' b hy hy' hb hb'
    · rw [mergeF_len] at hp
      have hnot : fnd idx p = none := by
        cases hfn : fnd idx p with
        | none => rfl
        | some j => have := hlt _ (List.mem_of_getElem? (fnd_some hfn)); omega
      simp only [G2, hnot]
      rw [if_neg (by omega)]
      exact g3.fresh _ (by omega)
  obtain ⟨p1, p2, p3⟩ := put_env (env := fun t => dg ps (env t)) (dst := o.dst) (x := ren f r) (a := a) (v := v) (N := F.N) (M := M') (G := G2) (fun t => dg_rel ((hs.env t).mono' g4.mono) tokG hg2) hs.size (dstOk_spec hd) (ren_out g1 fun o _ => G2f o)
  refine hk _ _ _ M' G2 w' v (k r cH' hq) ⟨g2, hs.gl.ext hs.hrel g4 hown, hrel2, p1, p2, p3.trans hs.defers⟩ ?_
  have hkind : ∀ (p : Nat) x, fr.H0[p]? = some x → isTok x = false → p < H.length ∧ p ∉ ps := fun p x hp ht => by
    have hpl : p < H.length := Nat.lt_of_lt_of_le (List.getElem?_eq_some_iff.1 hp).1 hsi.len
    refine ⟨hpl, fun hm => ?_⟩
    rw [← hps] at hm
    obtain ⟨i, y, e1, e2, e3⟩ := (toksOf_spec hlen).1 hm
    obtain ⟨p', hp', hHp⟩ := hmatch i y e2
    have : p' = p := Option.some.inj (hp'.symm.trans e1)
    subst this
    have := hsi.kind p' x _ hp ht hHp
    cases y <;> simp [isTok, renO] at e3 this
  refine ⟨hsi.ext.trans g4 fun b hb => hsi.own b (hown b hb), fun b hb => ?_, ?_, fun p x hp ht => ?_, fun p x y hp ht hy => ?_⟩
  · rcases hown2 b hb with h' | h'
    · exact hsi.own b h'
    · exact .inr (Nat.le_trans hsi.ext.size h')
  · rw [mergeF_len]
    have := hsi.len
    omega
  · obtain ⟨q1, q2⟩ := hkind p x hp ht
    rw [G2o p q2 q1]
    exact hsi.keep p x hp ht
  · obtain ⟨q1, q2⟩ := hkind p x hp ht
    rcases shape p y hy with ⟨i, z, hz, rfl, _, hpi⟩ | ⟨z, _, _, hz, rfl, _⟩
    · have hi' : i < idx.length := by
        rcases Nat.lt_or_ge i idx.length with h' | h'
        · exact h'
        · rw [f_ge h'] at hpi; omega
      have hip : idx[i]? = some idx[i] := List.getElem?_eq_getElem hi'
      have hil : i < cH.length := by omega
      have hcy : cH[i]? = some cH[i] := List.getElem?_eq_getElem hil
      have ht' : isTok cH[i] = false := by
        cases ht' : isTok cH[i] with
        | false => rfl
        | true =>
          have : idx[i] = p := by rw [hpi, f_lt hip]
          exact absurd ((toksOf_spec hlen).2 ⟨i, _, by rw [hip, this], hcy, ht'⟩) (by rw [hps]; exact q2)
      have := (g7 i _ hcy ht').2 z hz
      cases z <;> simp [isTok, renO] at this ⊢
    · have := hsi.kind p x z hp ht hz
      rw [isTok_dgO]; exact this

theorem AOps.callH {F : Fx} {L l : List Oper} {o : Oper} {env : Env} {H : Heap} {Q : Env → Heap → Prop} {d : Option Nat} {g : FuncId} {xs : List A} (idx : List Nat) (cargs : List A) (cH : Heap) {Qc : A → Heap → Prop}
    (h : stepC F.C L o env = some (d, g, xs)) (hx : renL (into idx H.length) cargs = xs) (hi : idxOk idx H.length = true) (hm : MatchH (into idx H.length) H idx cH) (hc : ACall F.C g cargs cH Qc)
    (k : ∀ r cH', Qc r cH' → AOps F L l (put (fun t => dg (toksOf idx cH) (env t)) d (ren (into idx H.length) r)) (mergeF H idx (into idx H.length) (toksOf idx cH) cH') Q) : AOps F L (o :: l) env H Q := by
  refine .callHL idx cargs cH h ?_ hi hm hc k
  rw [hx]
  exact LeL.refl _

end Go.Am

