/-
  A builder is made: the zero of a struct that is one, boxed.
-/
import Derived.Test.YtmilgoloagbmpaaGreatDoorAmV
namespace Go.Am

def gB (G : Nat → Value) (n : Nat) (w : World) : Nat → Value := updG (updG G n (.pointer (some ⟨w.heap.size, 0, none⟩))) (n + 1) (.slice none 0 0)
theorem gB_old {G : Nat → Value} {n o : Nat} {w : World} (h : o < n) : gB G n w o = G o := by unfold gB; rw [updG_ne (by omega), updG_ne (by omega)]
theorem gB_far {G : Nat → Value} {n o : Nat} {w : World} (h : n + 1 < o) : gB G n w o = G o := by unfold gB; rw [updG_ne (by omega), updG_ne (by omega)]
theorem gB_0 {G : Nat → Value} {n : Nat} {w : World} : gB G n w n = .pointer (some ⟨w.heap.size, 0, none⟩) := by unfold gB; rw [updG_ne (by omega), updG_same]
theorem gB_1 {G : Nat → Value} {n : Nat} {w : World} : gB G n w (n + 1) = .slice none 0 0 := by unfold gB; rw [updG_same]

theorem getB {H : Heap} {x y z : Ob} {o : Nat} (h : (H ++ [x, y])[o]? = some z) : (o < H.length ∧ H[o]? = some z) ∨ (o = H.length ∧ z = x) ∨ (o = H.length + 1 ∧ z = y) := by
  rcases Nat.lt_or_ge o H.length with h1 | h1
  · rw [List.getElem?_append_left h1] at h; exact .inl ⟨h1, h⟩
  · rw [List.getElem?_append_right h1] at h
    match hk : o - H.length, h with
    | 0, h => simp at h; exact .inr (.inl ⟨by omega, h.symm⟩)
    | 1, h => simp at h; exact .inr (.inr ⟨by omega, h.symm⟩)
    | k + 2, h => simp at h

theorem St.newBld {C : Cx} {N : Nat} {M : Mem} {G : Nat → Value} {w : World} {env : Env} {H : Heap} {a : Act} (h : St C N M G w env H a) {dst : Option Nat} (hd : ∀ d, dst = some d → d < N) (elem e : TypeId) :
    St C N M (gB G H.length w) (w.alloc (.cells #[.pointer none, .slice none 0 0] elem)) (put env dst (.ref H.length 0)) (H ++ [.bld (H.length + 1) elem, .buf e []]) (a.put dst (.pointer (some ⟨w.heap.size, 0, none⟩))) := by
  have hmono : ∀ {x : A} {v : Value}, RelA M G x v → RelA M (gB G H.length w) x v := fun hr => hr.mono (fun _ _ e => e) fun o hn => gB_old (h.hrel.lt hr hn)
  obtain ⟨h1, h2, h3⟩ := put_env (fun t => hmono (h.env t)) h.size hd (x := .ref H.length 0) (v := .pointer (some ⟨w.heap.size, 0, none⟩)) (.ref gB_0)
  have hnone : ∀ off sp, M ⟨w.heap.size, off, sp⟩ = none := fun off sp => by
    cases hM : M ⟨w.heap.size, off, sp⟩ with
    | none => rfl
    | some v => have := h.good.lt hM; simp at this
  refine ⟨h.good.alloc _, h.gl.ext h.hrel (ext_alloc none' _ _ _) (fun _ h => h.elim), ⟨fun o x ho => ?_, fun o o' x x' b ho ho' hb hb' => ?_, fun o ho => ?_⟩, h1, h2, h3.trans h.defers⟩
  · rcases getB ho with ⟨hlt, ho⟩ | ⟨rfl, rfl⟩ | ⟨rfl, rfl⟩
    · rw [gB_old hlt]
      have hob := h.hrel.obj o x ho
      have hk : ObRel M G (w.alloc (.cells #[.pointer none, .slice none 0 0] elem)) x (G o) := hob.keep (fun _ _ e => e) (fun b hb => heap_alloc_old w _ b (blk_lt hob hb)) (fun _ _ _ _ e => e)
      cases x with
      | dead => trivial
      | row cells e =>
        obtain ⟨b, us, g1, g2, g3, g4, g5, g6⟩ := hk
        exact ⟨b, us, g1, g2, g3, g4, fun i y v a c => hmono (g5 i y v a c), g6⟩
      | tok e sz => exact hk
      | map es =>
        obtain ⟨b, ms, cl, g1, g2, g3, g4, g5⟩ := hk
        exact ⟨b, ms, cl, g1, g2, g3, fun i k cs e a c => ⟨(g4 i k cs e a c).1, hmono (g4 i k cs e a c).2⟩, g5⟩
      | bld o' e =>
        obtain ⟨b, v0, g1, g2, g3, g4, g5⟩ := hk
        have ho' : o' < H.length := by
          rcases Nat.lt_or_ge o' H.length with q | q
          · exact q
          · exact absurd (h.hrel.fresh _ q) g4
        exact ⟨b, v0, g1, by rw [gB_old ho']; exact g2, g3, by rw [gB_old ho']; exact g4, g5⟩
      | buf e sz => exact hk
    · rw [gB_0]
      exact ⟨w.heap.size, _, rfl, by rw [gB_1]; exact heap_alloc_new w _, .inl rfl, by rw [gB_1]; simp, hnone⟩
    · rw [gB_1]
      exact ⟨Nat.zero_le _, .inl ⟨rfl, rfl⟩⟩
  · have key : ∀ (o : Nat) x b, (H ++ [Ob.bld (H.length + 1) elem, .buf e []])[o]? = some x → blk x (gB G H.length w o) = some b → (o < H.length ∧ H[o]? = some x ∧ blk x (G o) = some b ∧ b < w.heap.size) ∨ (o = H.length ∧ b = w.heap.size) := by
      intro o x b ho hb
      rcases getB ho with ⟨hlt, ho⟩ | ⟨rfl, rfl⟩ | ⟨rfl, rfl⟩
      · rw [gB_old hlt] at hb
        exact .inl ⟨hlt, ho, hb, blk_lt (h.hrel.obj o x ho) hb⟩
      · rw [gB_0] at hb
        simp [blk] at hb
        exact .inr ⟨rfl, hb.symm⟩
      · rw [gB_1] at hb
        simp [blk] at hb
    rcases key o x b ho hb with ⟨q1, q2, q3, q4⟩ | ⟨q1, q2⟩ <;> rcases key o' x' b ho' hb' with ⟨p1, p2, p3, p4⟩ | ⟨p1, p2⟩
    · exact h.hrel.apart o o' x x' b q2 p2 q3 p3
    · omega
    · omega
    · omega
  · simp at ho
    rw [gB_far (by omega)]
    exact h.hrel.fresh o (by omega)

theorem Since.newBld {fr : Fr} {M : Mem} {G : Nat → Value} {w : World} {H : Heap} (h : Since fr M G w H) (elem e : TypeId) :
    Since fr M (gB G H.length w) (w.alloc (.cells #[.pointer none, .slice none 0 0] elem)) (H ++ [.bld (H.length + 1) elem, .buf e []]) := by
  refine ⟨h.ext.trans (ext_alloc none' _ _ _) (fun _ h => h.elim), fun b hb => ?_, by simp; have := h.len; omega, fun o x ho ht => ?_, fun o x y ho ht hy => ?_⟩
  · obtain ⟨o, x, ho, hx⟩ := hb
    rcases getB ho with ⟨hlt, ho⟩ | ⟨rfl, rfl⟩ | ⟨rfl, rfl⟩
    · rw [gB_old hlt] at hx
      exact h.own b ⟨o, x, ho, hx⟩
    · rw [gB_0] at hx
      simp [blk] at hx
      subst hx
      exact .inr h.ext.size
    · rw [gB_1] at hx
      simp [blk] at hx
  · have hlt : o < H.length := Nat.lt_of_lt_of_le (List.getElem?_eq_some_iff.1 ho).1 h.len
    rw [gB_old hlt]
    exact h.keep o x ho ht
  · have hlt : o < H.length := Nat.lt_of_lt_of_le (List.getElem?_eq_some_iff.1 ho).1 h.len
    rw [List.getElem?_append_left hlt] at hy
    exact h.kind o x y ho ht hy

/-- the zero of such a struct, then its box: the value is known to the cell -/
theorem AOps.newB {F : Fx} {L l : List Oper} {o o2 : Oper} {env : Env} {H : Heap} {Q : Env → Heap → Prop} {t t2 : Nat} {d : Nat} (e : TypeId) (hw : wantedA L env o = some true) (ho : o.op = .build t #[]) (hd1 : o.dst = some d)
    (hb : ∀ w, (Instr.build t #[]).run F.C.P w = .ok (.agg #[.pointer none, .slice none 0 0]) w)
    (hw2 : wantedA L (put env (some d) (.agg [.d (.nilv .ptr), .d (.sl [])])) o2 = some true) (ho2 : o2.op = .box t2 (.tmp d))
    (k : AOps F L l (put (put env (some d) (.agg [.d (.nilv .ptr), .d (.sl [])])) o2.dst (.ref H.length 0)) (H ++ [.bld (H.length + 1) t2, .buf e []]) Q) : AOps F L (o :: o2 :: l) env H Q := by
  intro fr M G w a Qw hK hd hs hsi hq
  have hz : RelA M G (.agg [.d (.nilv .ptr), .d (.sl [])]) (.agg #[.pointer none, .slice none 0 0]) := by
    refine .agg rfl (fun i v hv => ?_) (fun i x v hx hv => ?_)
    · match i, hv with
      | 0, hv => simp at hv; subst hv; rfl
      | 1, hv => simp at hv; subst hv; rfl
      | i + 2, hv => simp at hv
    · match i, hx, hv with
      | 0, hx, hv => simp at hx hv; subst hx; subst hv; exact .d .nilptr
      | 1, hx, hv => simp at hx hv; subst hx; subst hv; exact .d .slnil
      | i + 2, hx, hv => simp at hx
  refine wpList_step fun K hKK => ?_
  rw [wantedA_ok hs hw]
  simp only [if_true]
  have hdo := hd o List.mem_cons_self
  have hr : (execOp a.eval o).run F.C.P w = .ok (.value (.agg #[.pointer none, .slice none 0 0])) w := by
    unfold execOp
    simp [ho, hb w]
  unfold Oper.wp
  rw [hr]
  obtain ⟨p1, p2, p3⟩ := put_env hs.env hs.size (dstOk_spec hdo) hz
  have hs1 : St F.C F.N M G w (put env o.dst (.agg [.d (.nilv .ptr), .d (.sl [])])) H (a.put o.dst (.agg #[.pointer none, .slice none 0 0])) := ⟨hs.good, hs.gl, hs.hrel, p1, p2, p3.trans hs.defers⟩
  refine hKK _ _ ?_
  rw [hd1] at hs1 ⊢
  refine wpList_step fun K2 hKK2 => ?_
  rw [wantedA_ok hs1 hw2]
  simp only [if_true]
  have hlt : d < F.N := dstOk_spec hdo d hd1
  have hev : (a.put (some d) (.agg #[.pointer none, .slice none 0 0])).eval (.tmp d) = .agg #[.pointer none, .slice none 0 0] := by
    have := hs.size
    simp [Act.put, Act.eval, this, hlt]
  have hr2 : (execOp (a.put (some d) (.agg #[.pointer none, .slice none 0 0])).eval o2).run F.C.P w = .ok (.value (.pointer (some ⟨w.heap.size, 0, none⟩))) (w.alloc (.cells #[.pointer none, .slice none 0 0] t2)) := by
    unfold execOp
    simp only [ho2, hev]
    simp [Instr.box, newVar, newRow]
    rfl
  unfold Oper.wp
  rw [hr2]
  exact hKK2 _ _ (k fr _ _ _ _ Qw hK (fun o ho => hd o (List.mem_cons_of_mem _ (List.mem_cons_of_mem _ ho))) (hs1.newBld (dstOk_spec (hd o2 (by simp))) t2 e) (hsi.newBld t2 e) hq)
end Go.Am

