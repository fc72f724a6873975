/-
  strings.Builder's Len and String as contracts of the abstract machine.
-/
import Derived.Test.YtmilgoloagbmpaaGreatDoorBdC
set_option linter.unusedSimpArgs false
namespace Go.Proofs.YtmilgoloagbmpaaGreatDoor
open Go.Am

theorem bldArg {M : Mem} {G : Nat → Value} {w : World} {el : Nat} {bs : Str} {xs : List A} {vs : Array Value} (hh : HRel M G w [.bld 1 el, .buf 5 bs]) (hl : (A.ref 0 0 :: xs).length = vs.size) (hr : ∀ (i : Nat) x v, (A.ref 0 0 :: xs)[i]? = some x → vs[i]? = some v → RelA M G x v) :
    ∃ b v0, G 0 = .pointer (some ⟨b, 0, none⟩) ∧ w.heap[b]? = some (.cells #[v0, G 1] el (0, 0)) ∧ vs[0]? = some (.pointer (some ⟨b, 0, none⟩)) ∧ (∀ off sp, M ⟨b, off, sp⟩ = none) := by
  obtain ⟨b, v0, e1, hb, hv0, hnt, hMb⟩ := hh.obj 0 _ rfl
  refine ⟨b, v0, e1, hb, ?_, hMb⟩
  have hlt : 0 < vs.size := by rw [← hl]; simp
  have hv : vs[0]? = some vs[0] := Array.getElem?_eq_getElem hlt
  have := hr 0 _ _ rfl hv
  generalize vs[0] = z at this hv
  cases this with
  | ref h => rw [e1] at h; cases h; exact hv

theorem Len_ok {el : Nat} {bs : Str} : ACall C 94 [.ref 0 0] [.bld 1 el, .buf 5 bs] (fun x H' => H' = [.bld 1 el, .buf 5 bs] ∧ x = .d (.int .i64 bs.length)) := by
  refine ⟨fnOk_of Tryz.func94 rfl rfl, fun M G w vs hg hgl hh hl hr => ?_⟩
  obtain ⟨b, v0, e1, hb, h0, hMb⟩ := bldArg hh hl hr
  obtain rfl := arr1 hl.symm h0
  have hown := owns_of (hh.obj 1 _ rfl)
  have hbm := (hh.obj 1 _ rfl).1
  have hbl : (Lib.byteCells bs).length = bs.length := by simp [Lib.byteCells]
  refine (len_any el b v0 (G 1) (Lib.byteCells bs) w hb (by rw [hbl]; exact hown)).mono ?_
  rintro e w' ⟨rfl, rfl⟩
  refine ⟨_, .d (.int .i64 bs.length), _, M, G, rfl, ⟨rfl, rfl⟩, ?_, hg, hh, Ext.refl _ _ _, fun b hb => .inl hb, Nat.le_refl _, fun o x ho ht => ⟨rfl, fun y hy => ?_⟩⟩
  · rw [hbl]
    refine .d (.int ?_)
    rw [inK_i64]
    unfold maxLen at hbm
    omega
  · rw [ho] at hy; cases hy; exact ht

theorem String_ok {el : Nat} {bs : Str} : ACall C 95 [.ref 0 0] [.bld 1 el, .buf 5 bs] (fun x H' => H' = [.dead, .dead] ∧ x = .d (.str bs)) := by
  refine ⟨fnOk_of Tryz.func95 rfl rfl, fun M G w vs hg hgl hh hl hr => ?_⟩
  obtain ⟨b, v0, e1, hb, h0, hMb⟩ := bldArg hh hl hr
  obtain rfl := arr1 hl.symm h0
  have hown := owns_of (hh.obj 1 _ rfl)
  obtain ⟨hbm, o1⟩ := hh.obj 1 _ rfl
  have hM1 : ∀ k, (G 1).ownBlock = some k → ∀ off sp, M ⟨k, off, sp⟩ = none := fun k hk' => by
    rcases o1 with ⟨e, _⟩ | ⟨b1, cap, cur, e, _, _, _, _, _, h6⟩
    · rw [e] at hk'; simp [Value.ownBlock] at hk'
    · rw [e] at hk'
      simp [Value.ownBlock] at hk'
      subst hk'
      exact h6
  have hw0 : own G [.bld 1 el, .buf 5 bs] b := ⟨0, _, rfl, by rw [e1]; rfl⟩
  have hw1 : ∀ k, (G 1).ownBlock = some k → own G [.bld 1 el, .buf 5 bs] k := fun k h => ⟨1, _, rfl, blk_buf.2 h⟩
  refine (string_any el b v0 (G 1) bs w hb hown).mono ?_
  rintro e w' ⟨rfl, hk⟩
  refine ⟨_, .d (.str bs), [.dead, .dead], M, G, rfl, ⟨rfl, rfl⟩, .d (.str hbm), ?_, ⟨?_, ?_, ?_⟩, ⟨fun _ _ h => h, hk.size, hk.os, hk.output, hk.tape, fun k hlt hn => ?_, fun _ _ h => .inl h⟩, ?_, Nat.le_refl _, ?_⟩
  · intro a x hx
    obtain ⟨s1, s2⟩ := hg a x hx
    refine ⟨s1, ?_⟩
    rw [cell_of_block (hk.block a.block (hg.lt hx) (fun e => ?_) (fun e => ?_))]
    · exact s2
    · have := hMb a.off a.spot
      rw [← e] at this
      rw [show (⟨a.block, a.off, a.spot⟩ : Addr) = a from rfl, hx] at this
      cases this
    · have := hM1 a.block e.symm a.off a.spot
      rw [show (⟨a.block, a.off, a.spot⟩ : Addr) = a from rfl, hx] at this
      cases this
  · intro o x ho
    match o, ho with
    | 0, ho => cases ho; trivial
    | 1, ho => cases ho; trivial
    | o + 2, ho => simp at ho
  · intro o o' x x' k ho ho' h1 h2
    match o, ho with
    | 0, ho => cases ho; simp [blk] at h1
    | 1, ho => cases ho; simp [blk] at h1
    | o + 2, ho => simp at ho
  · intro o ho
    exact hh.fresh o ho
  · exact hk.block k hlt (fun e => hn (e ▸ hw0)) (fun e => hn (hw1 k e.symm))
  · rintro k ⟨o, x, ho, hx⟩
    match o, ho with
    | 0, ho => cases ho; simp [blk] at hx
    | 1, ho => cases ho; simp [blk] at hx
    | o + 2, ho => simp at ho
  · intro o x ho ht
    match o, ho with
    | 0, ho => exact ⟨rfl, fun y hy => by cases hy; rfl⟩
    | 1, ho => exact ⟨rfl, fun y hy => by cases hy; rfl⟩
    | o + 2, ho => simp at ho
end Go.Proofs.YtmilgoloagbmpaaGreatDoor

