/-
  strings.Builder's methods as contracts of the abstract machine.
-/
import Derived.Test.YtmilgoloagbmpaaGreatDoorDrT
import Derived.Test.YtmilgoloagbmpaaGreatDoorAmV
import Derived.Test.YtmilgoloagbmpaaGreatDoorBdB
set_option linter.unusedSimpArgs false
namespace Go.Proofs.YtmilgoloagbmpaaGreatDoor
open Go.Am

theorem owns_of {M : Mem} {G : Nat → Value} {w : World} {bs : Str} {g : Value} (h : ObRel M G w (.buf 5 bs) g) : w.ownsRow 0 5 1 g bs.length (Lib.byteCells bs) := by
  obtain ⟨h0, h⟩ := h
  refine ⟨by simp [Lib.byteCells], ?_⟩
  rcases h with ⟨rfl, rfl⟩ | ⟨b, cap, cur, rfl, h1, h2, h3, h4, h5, h6⟩
  · exact .inl ⟨rfl, rfl⟩
  · exact .inr ⟨b, cap, cur, rfl, Nat.zero_le _, h1, h2, h3, by omega, by rw [Nat.mul_one]; exact h5⟩
theorem owns_to {M : Mem} {G : Nat → Value} {w : World} {bs : Str} {g : Value} (h : w.ownsRow 0 5 1 g bs.length (Lib.byteCells bs)) (hl : bs.length ≤ maxLen) (hM : ∀ b, g.ownBlock = some b → ∀ off sp, M ⟨b, off, sp⟩ = none) : ObRel M G w (.buf 5 bs) g := by
  refine ⟨hl, ?_⟩
  rcases h.2 with ⟨rfl, h0⟩ | ⟨b, cap, cur, rfl, _, h1, h2, h3, h4, h5⟩
  · exact .inl ⟨rfl, List.eq_nil_of_length_eq_zero h0⟩
  · exact .inr ⟨b, cap, cur, rfl, h1, h2, h3, by omega, by rw [Nat.mul_one] at h5; exact h5, hM b rfl⟩
theorem blk_buf {e : TypeId} {bs : Str} {g : Value} {b : Nat} : blk (.buf e bs) g = some b ↔ g.ownBlock = some b := by
  cases g <;> simp [blk, Value.ownBlock]
  rename_i a l c
  cases a <;> simp [blk, Value.ownBlock]

/-- what a method of a builder leaves -/
theorem bldPost {M : Mem} {G : Nat → Value} {w w' : World} {el b : Nat} {bs bs' : Str} {v' : Value} (hg : Go.Am.Good M w) (hh : HRel M G w [.bld 1 el, .buf 5 bs]) (hG : G 0 = .pointer (some ⟨b, 0, none⟩)) (hb' : w'.heap[b]? = some (.cells #[.pointer (some ⟨b, 0, none⟩), v'] el (0, 0)))
    (hown : w'.ownsRow 0 5 1 v' bs'.length (Lib.byteCells bs')) (hne : v'.ownBlock ≠ some b) (hk : Kept b (G 1).ownBlock w w') (hfr : ∀ k, v'.ownBlock = some k → (G 1).ownBlock = some k ∨ w.heap.size ≤ k) (hl : bs'.length ≤ maxLen) (r : A) (v : Value) (hr : RelA M (updG G 1 v') r v)
    {Q : A → Heap → Prop} (hQ : Q r [.bld 1 el, .buf 5 bs']) : RetPost M G w [.bld 1 el, .buf 5 bs] Q (.returned v) w' := by
  have o0 := hh.obj 0 _ rfl
  have o1 := hh.obj 1 _ rfl
  obtain ⟨b0, v0, e1, hb, hv0, hnt, hMb⟩ := o0
  rw [hG] at e1
  obtain rfl : b = b0 := by cases e1; rfl
  have hM1 : ∀ k, (G 1).ownBlock = some k → ∀ off sp, M ⟨k, off, sp⟩ = none := fun k hk' => by
    obtain ⟨_, h⟩ := o1
    rcases h with ⟨e, _⟩ | ⟨b1, cap, cur, e, _, _, _, _, _, h6⟩
    · rw [e] at hk'; simp [Value.ownBlock] at hk'
    · rw [e] at hk'
      simp [Value.ownBlock] at hk'
      subst hk'
      exact h6
  have hM' : ∀ k, v'.ownBlock = some k → ∀ off sp, M ⟨k, off, sp⟩ = none := fun k hk' off sp => by
    rcases hfr k hk' with h | h
    · exact hM1 k h off sp
    · cases hm : M ⟨k, off, sp⟩ with
      | none => rfl
      | some x => have := hg.lt hm; simp only at this; omega
  have hw0 : own G [.bld 1 el, .buf 5 bs] b := ⟨0, _, rfl, by rw [hG]; rfl⟩
  have hw1 : ∀ k, (G 1).ownBlock = some k → own G [.bld 1 el, .buf 5 bs] k := fun k h => ⟨1, _, rfl, blk_buf.2 h⟩
  have hnt' : v' ≠ .tuple #[] := fun e => by
    subst e
    rcases hown.2 with ⟨h, _⟩ | ⟨_, _, _, h, _⟩ <;> cases h
  refine ⟨v, r, _, M, updG G 1 v', rfl, hQ, hr, ?_, ⟨?_, ?_, ?_⟩, ⟨fun _ _ h => h, hk.size, hk.os, hk.output, hk.tape, fun k hlt hn => ?_, fun _ _ h => .inl h⟩, ?_, Nat.le_refl _, ?_⟩
  · intro a x hx
    obtain ⟨s1, s2⟩ := hg a x hx
    refine ⟨s1, ?_⟩
    rw [cell_of_block (hk.block a.block (hg.lt hx) (fun e => ?_) (fun e => ?_))]
    · exact s2
    · have := hMb a.off a.spot
      rw [← e] at this
      rw [show (⟨a.block, a.off, a.spot⟩ : Addr) = a from rfl, hx] at this
      cases this
    · have := hM1 a.block e.symm a.off a.spot
      rw [show (⟨a.block, a.off, a.spot⟩ : Addr) = a from rfl, hx] at this
      cases this
  · intro o x ho
    match o, ho with
    | 0, ho =>
      cases ho
      rw [updG_ne (by decide), hG]
      exact ⟨b, _, rfl, by rw [updG_same]; exact hb', .inr rfl, by rw [updG_same]; exact hnt', hMb⟩
    | 1, ho =>
      cases ho
      rw [updG_same]
      exact owns_to hown hl hM'
    | o + 2, ho => simp at ho
  · intro o o' x x' k ho ho' h1 h2
    match o, o', ho, ho' with
    | 0, 0, _, _ => rfl
    | 1, 1, _, _ => rfl
    | 0, 1, ho, ho' =>
      cases ho; cases ho'
      rw [updG_ne (by decide), hG] at h1
      rw [updG_same] at h2
      simp only [blk, Option.some.injEq] at h1
      subst h1
      exact absurd (blk_buf.1 h2) hne
    | 1, 0, ho, ho' =>
      cases ho; cases ho'
      rw [updG_ne (by decide), hG] at h2
      rw [updG_same] at h1
      simp only [blk, Option.some.injEq] at h2
      subst h2
      exact absurd (blk_buf.1 h1) hne
    | o + 2, _, ho, _ => simp at ho
    | _, o + 2, _, ho' => simp at ho'
  · intro o ho
    rw [updG_ne (by simp at ho; omega)]
    exact hh.fresh o ho
  · exact hk.block k hlt (fun e => hn (e ▸ hw0)) (fun e => hn (hw1 k e.symm))
  · rintro k ⟨o, x, ho, hx⟩
    match o, ho with
    | 0, ho =>
      cases ho
      rw [updG_ne (by decide)] at hx
      exact .inl ⟨0, _, rfl, hx⟩
    | 1, ho =>
      cases ho
      rw [updG_same] at hx
      rcases hfr k (blk_buf.1 hx) with h | h
      · exact .inl (hw1 k h)
      · exact .inr h
    | o + 2, ho => simp at ho
  · intro o x ho ht
    match o, ho with
    | 0, ho =>
      cases ho
      exact ⟨updG_ne (by decide), fun y hy => by cases hy; rfl⟩
    | 1, ho => cases ho; cases ht
    | o + 2, ho => simp at ho

theorem WriteString_ok {el : Nat} {s bs : Str} (hel : el ≠ 5) (hlies : liesAt Tryz.prog Tryz.prog.depth el (2 / Tryz.prog.cellsOf el) 0 84 1 = true) (hlen : bs.length + s.length ≤ 140737488351231) :
    ACall C 54 [.ref 0 0, .d (.str s)] [.bld 1 el, .buf 5 bs] (fun x H' => H' = [.bld 1 el, .buf 5 (bs ++ s)] ∧ x = .tup [.d (.int .i64 s.length), .d (.nilv .iface)]) := by
  refine ⟨fnOk_of Tryz.func54 rfl rfl, fun M G w vs hg hgl hh hl hr => ?_⟩
  obtain ⟨h1, hm⟩ := args_str hl hr (i := 1) rfl
  obtain ⟨b, v0, e1, hb, hv0, hnt, hMb⟩ := hh.obj 0 _ rfl
  have h0 : vs[0]? = some (.pointer (some ⟨b, 0, none⟩)) := by
    have hlt : 0 < vs.size := by rw [← hl]; simp
    have hv : vs[0]? = some vs[0] := Array.getElem?_eq_getElem hlt
    have := hr 0 _ _ rfl hv
    generalize vs[0] = z at this hv
    cases this with
    | ref h => rw [e1] at h; cases h; exact hv
  obtain rfl := arr2 hl.symm h0 h1
  have hown := owns_of (hh.obj 1 _ rfl)
  have hs : (⟨s.toArray⟩ : ByteArray).size = s.length := rfl
  have hbl : (Lib.byteCells bs).length = bs.length := by simp [Lib.byteCells]
  refine (writeString el b v0 (G 1) (Lib.byteCells bs) ⟨s.toArray⟩ w hb hv0 (by rw [hbl]; exact hown) hel hlies (by rw [hbl, hs]; omega)).mono ?_
  rintro e w' ⟨rfl, v', q1, q2, q3, q4, q5⟩
  refine bldPost hg hh e1 q1 (bs' := bs ++ s) ?_ q3 q4 q5 (by unfold maxLen; simp; omega) (.tup [.d (.int .i64 s.length), .d (.nilv .iface)]) _ ?_ ⟨rfl, rfl⟩
  · rw [hbl, hs] at q2
    have e : Lib.byteCells bs ++ Lib.strCells ⟨s.toArray⟩ = Lib.byteCells (bs ++ s) := by simp [Lib.byteCells, Lib.strCells]
    rw [e] at q2
    rw [List.length_append]
    exact q2
  · refine .tup rfl fun i x v hx hv => ?_
    match i, hx, hv with
    | 0, hx, hv =>
      cases hx
      simp at hv
      subst hv
      refine .d (.int ?_)
      rw [inK_i64]
      unfold maxLen at hm
      omega
    | 1, hx, hv =>
      cases hx
      simp at hv
      subst hv
      exact .d .niliface
    | i + 2, hx, _ => simp at hx
end Go.Proofs.YtmilgoloagbmpaaGreatDoor

