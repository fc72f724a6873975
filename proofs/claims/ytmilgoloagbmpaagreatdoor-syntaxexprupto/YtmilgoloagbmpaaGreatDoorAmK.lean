/-
  The abstract machine: append as a step; slices of data that are built.
-/
import Derived.Test.YtmilgoloagbmpaaGreatDoorAmJ
namespace Go.Am

theorem St.turnTok {C : Cx} {N : Nat} {M M' : Mem} {G : Nat → Value} {w w' : World} {env : Env} {H : Heap} {a : Act} (h : St C N M G w env H a) {dst : Option Nat} (hd : ∀ d, dst = some d → d < N) {p e sz e' sz' : Nat} {v' : Value} {x : A}
    (hp : H[p]? = some (.tok e sz)) (hext : Ext (fun b => blk (.tok e sz) (G p) = some b) M w M' w') (hg : Good M' w') (hob : ObRel M' G w' (.tok e sz) v') (hblk : ∀ b, blk (.tok e sz) v' = some b → blk (.tok e sz) (G p) = some b ∨ w.heap.size ≤ b)
    (hx : RelA M' (updG G p v') x v') (_he : e' = e) (_hs : sz' = sz) :
    St C N M' (updG G p v') w' (put (fun t => dg [p] (env t)) dst x) (H.map (dgO [p])) (a.put dst v') := by
  have hps : ∀ q ∈ [p], ∃ a l c, G q = .slice a l c := fun q hq => by
    simp at hq; subst hq
    rcases h.hrel.obj q _ hp with e | ⟨ad, n, cap, e, _⟩
    · exact ⟨_, _, _, e⟩
    · exact ⟨_, _, _, e⟩
  have hgg : ∀ o, o ∉ [p] → G o ≠ .tuple #[] → updG G p v' o = G o := fun o ho _ => updG_ne (by simpa using ho)
  have hplt : p < H.length := (List.getElem?_eq_some_iff.1 hp).1
  have getH : ∀ (o : Nat) z, (H.map (dgO [p]))[o]? = some z → ∃ y, H[o]? = some y ∧ z = dgO [p] y := fun o z hz => by
    rw [List.getElem?_map] at hz
    cases hy : H[o]? with
    | none => rw [hy] at hz; cases hz
    | some y => rw [hy] at hz; exact ⟨y, rfl, by simpa using hz.symm⟩
  obtain ⟨p1, p2, p3⟩ := put_env (env := fun t => dg [p] (env t)) (dst := dst) (x := x) (a := a) (v := v') (N := N) (M := M') (G := updG G p v') (fun t => dg_rel ((h.env t).mono' hext.mono) hps hgg) h.size hd hx
  refine ⟨hg, h.gl.ext h.hrel hext (fun b hb => ⟨p, _, hp, hb⟩), ⟨fun o z hz => ?_, fun o o' z z' b hz hz' hb hb' => ?_, fun o ho => ?_⟩, p1, p2, p3.trans h.defers⟩
  · obtain ⟨y, hy, rfl⟩ := getH o z hz
    by_cases hop : o = p
    · subst hop
      rw [hp] at hy
      obtain rfl := Option.some.inj hy
      rw [updG_same]
      exact hob
    · rw [updG_ne hop]
      have hoy := h.hrel.obj o y hy
      refine dgO_rel (hoy.keep hext.mono (fun b hb => hext.block b (blk_lt hoy hb) fun hb' => hop (h.hrel.apart o p y _ b hy hp hb hb')) fun b hb off sp hn => ?_) hps hgg
      cases hM : M' ⟨b, off, sp⟩ with
      | none => rfl
      | some u =>
        rcases hext.fresh _ u hM with q | q | q
        · rw [hn] at q; cases q
        · exact absurd (h.hrel.apart o p y _ b hy hp hb q) hop
        · have := blk_lt hoy hb; simp only at q; omega
  · have key : ∀ (o : Nat) z b, (H.map (dgO [p]))[o]? = some z → blk z (updG G p v' o) = some b → ∃ y, H[o]? = some y ∧ (blk y (G o) = some b ∨ o = p ∧ w.heap.size ≤ b) := by
      intro o z b hz hb
      obtain ⟨y, hy, rfl⟩ := getH o z hz
      replace hb := blk_dgO hb
      refine ⟨y, hy, ?_⟩
      by_cases hop : o = p
      · subst hop
        rw [hp] at hy
        obtain rfl := Option.some.inj hy
        rw [updG_same] at hb
        rcases hblk b hb with q | q
        · exact .inl q
        · exact .inr ⟨rfl, q⟩
      · rw [updG_ne hop] at hb
        exact .inl hb
    obtain ⟨y, hy, hyb⟩ := key o z b hz hb
    obtain ⟨y', hy', hyb'⟩ := key o' z' b hz' hb'
    rcases hyb with q | ⟨q1, q2⟩ <;> rcases hyb' with r | ⟨r1, r2⟩
    · exact h.hrel.apart o o' y y' b hy hy' q r
    · have := blk_lt (h.hrel.obj o y hy) q; omega
    · have := blk_lt (h.hrel.obj o' y' hy') r; omega
    · rw [q1, r1]
  · simp only [List.length_map] at ho
    rw [updG_ne (by omega)]
    exact h.hrel.fresh o ho

theorem Since.turnTok {fr : Fr} {M M' : Mem} {G : Nat → Value} {w w' : World} {H : Heap} (h : Since fr M G w H) {p e sz : Nat} {v' : Value}
    (hp : H[p]? = some (.tok e sz)) (hext : Ext (fun b => blk (.tok e sz) (G p) = some b) M w M' w') (hblk : ∀ b, blk (.tok e sz) v' = some b → blk (.tok e sz) (G p) = some b ∨ w.heap.size ≤ b) :
    Since fr M' (updG G p v') w' (H.map (dgO [p])) := by
  have getH : ∀ (o : Nat) z, (H.map (dgO [p]))[o]? = some z → ∃ y, H[o]? = some y ∧ z = dgO [p] y := fun o z hz => by
    rw [List.getElem?_map] at hz
    cases hy : H[o]? with
    | none => rw [hy] at hz; cases hz
    | some y => rw [hy] at hz; exact ⟨y, rfl, by simpa using hz.symm⟩
  have hplt : p < H.length := (List.getElem?_eq_some_iff.1 hp).1
  refine ⟨h.ext.trans hext fun b hb => h.own b ⟨p, _, hp, hb⟩, fun b ⟨o, z, hz, hb⟩ => ?_, by simpa using h.len, fun o x ho ht => ?_, fun o x y ho ht hy => ?_⟩
  · obtain ⟨y, hy, rfl⟩ := getH o z hz
    replace hb := blk_dgO hb
    by_cases hop : o = p
    · subst hop
      rw [hp] at hy
      obtain rfl := Option.some.inj hy
      rw [updG_same] at hb
      rcases hblk b hb with q | q
      · exact h.own b ⟨o, _, hp, q⟩
      · exact .inr (Nat.le_trans h.ext.size q)
    · rw [updG_ne hop] at hb
      exact h.own b ⟨o, y, hy, hb⟩
  · have hne : o ≠ p := fun e' => by
      subst e'
      have := h.kind o x _ ho ht hp
      simp [isTok] at this
    rw [updG_ne hne]
    exact h.keep o x ho ht
  · obtain ⟨z, hz, rfl⟩ := getH o y hy
    rw [isTok_dgO]
    exact h.kind o x z ho ht hz

/-- the state with a new object: a slice's room -/
theorem St.newTok {C : Cx} {N : Nat} {M M' : Mem} {G : Nat → Value} {w w' : World} {env : Env} {H : Heap} {a : Act} (h : St C N M G w env H a) {dst : Option Nat} (hd : ∀ d, dst = some d → d < N) {e sz : Nat} {v' : Value} {x : A}
    (hext : Ext none' M w M' w') (hg : Good M' w') (hob : ObRel M' G w' (.tok e sz) v') (hblk : ∀ b, blk (.tok e sz) v' = some b → w.heap.size ≤ b)
    (hx : RelA M' (updG G H.length v') x v') :
    St C N M' (updG G H.length v') w' (put env dst x) (H ++ [.tok e sz]) (a.put dst v') := by
  have hh := h.hrel.ext hext (fun _ _ q => q)
  have hmono : ∀ {x : A} {v : Value}, RelA M' G x v → RelA M' (updG G H.length v') x v := fun hr => hr.mono (fun _ _ e => e) fun o hn => updG_ne (Nat.ne_of_lt (hh.lt hr hn))
  obtain ⟨h1, h2, h3⟩ := put_env (fun t => hmono ((h.env t).mono' hext.mono)) h.size hd hx
  refine ⟨hg, h.gl.ext h.hrel hext (fun _ h => h.elim), ⟨fun o x ho => ?_, fun o o' x x' b ho ho' hb hb' => ?_, fun o ho => ?_⟩, h1, h2, h3.trans h.defers⟩
  · rcases Nat.lt_trichotomy o H.length with hlt | rfl | hgt
    · rw [List.getElem?_append_left hlt] at ho
      rw [updG_ne (Nat.ne_of_lt hlt)]
      have hob := hh.obj o x ho
      cases x with
      | dead => trivial
      | row cells e =>
        obtain ⟨b, us, g1, g2, g3, g4, g5, g6⟩ := hob
        exact ⟨b, us, g1, g2, g3, g4, fun i y v a c => hmono (g5 i y v a c), g6⟩
      | bld o' e =>
        obtain ⟨b, v0, g1, g2, g3, g4, g5⟩ := hob
        have ho' : o' ≠ H.length := fun e => g4 (by rw [e]; exact hh.fresh _ (Nat.le_refl _))
        exact ⟨b, v0, g1, by rw [updG_ne ho']; exact g2, g3, by rw [updG_ne ho']; exact g4, g5⟩
      | buf e sz => exact hob
      | tok e sz => exact hob
      | map es =>
        obtain ⟨b, ms, cl, g1, g2, g3, g4, g5⟩ := hob
        exact ⟨b, ms, cl, g1, g2, g3, fun i k cs e a c => ⟨(g4 i k cs e a c).1, hmono (g4 i k cs e a c).2⟩, g5⟩
    · simp at ho
      subst ho
      rw [updG_same]
      exact hob
    · rw [List.getElem?_eq_none (by simp; omega)] at ho
      cases ho
  · have key : ∀ (o : Nat) x b, (H ++ [Ob.tok e sz])[o]? = some x → blk x (updG G H.length v' o) = some b → (o < H.length ∧ H[o]? = some x ∧ blk x (G o) = some b ∧ b < w.heap.size) ∨ (o = H.length ∧ w.heap.size ≤ b) := by
      intro o x b ho hb
      rcases Nat.lt_trichotomy o H.length with hlt | rfl | hgt
      · rw [List.getElem?_append_left hlt] at ho
        rw [updG_ne (Nat.ne_of_lt hlt)] at hb
        exact .inl ⟨hlt, ho, hb, blk_lt (h.hrel.obj o x ho) hb⟩
      · simp at ho
        subst ho
        rw [updG_same] at hb
        exact .inr ⟨rfl, hblk b hb⟩
      · rw [List.getElem?_eq_none (by simp; omega)] at ho
        cases ho
    rcases key o x b ho hb with ⟨q1, q2, q3, q4⟩ | ⟨q1, q2⟩ <;> rcases key o' x' b ho' hb' with ⟨p1, p2, p3, p4⟩ | ⟨p1, p2⟩
    · exact h.hrel.apart o o' x x' b q2 p2 q3 p3
    · omega
    · omega
    · omega
  · simp at ho
    rw [updG_ne (by omega)]
    exact h.hrel.fresh o (by omega)

theorem Since.newTok {fr : Fr} {M M' : Mem} {G : Nat → Value} {w w' : World} {H : Heap} (h : Since fr M G w H) {e sz : Nat} {v' : Value} (hext : Ext none' M w M' w') (hblk : ∀ b, blk (.tok e sz) v' = some b → w.heap.size ≤ b) :
    Since fr M' (updG G H.length v') w' (H ++ [.tok e sz]) := by
  refine ⟨h.ext.trans hext (fun _ h => h.elim), fun b hb => ?_, by simp; have := h.len; omega, fun o x ho ht => ?_, fun o x y ho ht hy => ?_⟩
  · obtain ⟨o, x, ho, hx⟩ := hb
    rcases Nat.lt_trichotomy o H.length with hlt | rfl | hgt
    · rw [List.getElem?_append_left hlt] at ho
      rw [updG_ne (Nat.ne_of_lt hlt)] at hx
      exact h.own b ⟨o, x, ho, hx⟩
    · simp at ho
      subst ho
      rw [updG_same] at hx
      exact .inr (Nat.le_trans h.ext.size (hblk b hx))
    · rw [List.getElem?_eq_none (by simp; omega)] at ho
      cases ho
  · have hlt : o < H.length := Nat.lt_of_lt_of_le (List.getElem?_eq_some_iff.1 ho).1 h.len
    rw [updG_ne (Nat.ne_of_lt hlt)]
    exact h.keep o x ho ht
  · have hlt : o < H.length := Nat.lt_of_lt_of_le (List.getElem?_eq_some_iff.1 ho).1 h.len
    rw [List.getElem?_append_left hlt] at hy
    exact h.kind o x y ho ht hy

/-! ### append of rows -/

def dgC (ps : List Nat) : List A → Option (List A)
  | [] => some []
  | x :: r => match frc (dg ps x), dgC ps r with | some y, some r' => some (y :: r') | _, _ => none

theorem dgC_eq {ps : List Nat} : ∀ {l l' : List A}, dgC ps l = some l' → l' = dgL ps l
  | [], l', h => by simp [dgC] at h; subst h; rfl
  | x :: r, l', h => by
    simp only [dgC] at h
    split at h
    · rename_i y r' hy hr
      simp only [Option.some.injEq] at h
      subst h
      rw [frc_eq hy, dgC_eq hr]
      rfl
    · cases h

def dgH (ps : List Nat) : Heap → Option Heap
  | [] => some []
  | .row cs e :: r => match dgC ps cs, dgH ps r with | some cs', some r' => some (.row cs' e :: r') | _, _ => none
  | .dead :: r => match dgH ps r with | some r' => some (.dead :: r') | none => none
  | .bld o e :: r => match dgH ps r with | some r' => some ((bif ps.contains o then .dead else .bld o e) :: r') | none => none
  | .buf e sz :: r => match dgH ps r with | some r' => some (.buf e sz :: r') | none => none
  | .tok e sz :: r => match dgH ps r with | some r' => some (.tok e sz :: r') | none => none
  | .map es :: r => match dgH ps r with | some r' => some (.map es :: r') | none => none

theorem dgH_eq {ps : List Nat} : ∀ {H H' : Heap}, dgH ps H = some H' → H' = H.map (dgO ps)
  | [], H', h => by simp [dgH] at h; subst h; rfl
  | .row cs e :: r, H', h => by
    simp only [dgH] at h
    split at h
    · rename_i cs' r' hc hr
      simp only [Option.some.injEq] at h
      subst h
      rw [dgC_eq hc, dgH_eq hr]
      rfl
    · cases h
  | .dead :: r, H', h => by
    simp only [dgH] at h
    split at h
    · rename_i r' hr
      simp only [Option.some.injEq] at h
      subst h
      rw [dgH_eq hr]; rfl
    · cases h
  | .bld o e :: r, H', h => by
    simp only [dgH] at h
    split at h
    · rename_i r' hr
      simp only [Option.some.injEq] at h
      subst h
      rw [dgH_eq hr]; rfl
    · cases h
  | .buf e sz :: r, H', h => by
    simp only [dgH] at h
    split at h
    · rename_i r' hr
      simp only [Option.some.injEq] at h
      subst h
      rw [dgH_eq hr]; rfl
    · cases h
  | .tok e sz :: r, H', h => by
    simp only [dgH] at h
    split at h
    · rename_i r' hr
      simp only [Option.some.injEq] at h
      subst h
      rw [dgH_eq hr]; rfl
    · cases h
  | .map es :: r, H', h => by
    simp only [dgH] at h
    split at h
    · rename_i r' hr
      simp only [Option.some.injEq] at h
      subst h
      rw [dgH_eq hr]; rfl
    · cases h

/-- what an append adds to and what it adds: the destination, the object (or none: a new one), its old rows, the new rows, the element's size and bytes, the heap behind -/
structure Ap where
  d : Option Nat
  p : Nat
  new : Bool
  rows : List Row
  news : List Row
  sz : Nat
  bytes : Nat
  H : Heap

def stepP (C : Cx) (L : List Oper) (o : Oper) (env : Env) (H : Heap) : Option Ap :=
  match wantedA L env o, o.op, dstF o with
  | some true, .call { callee := .builtin .append, args, argTypes }, some d =>
    match args.toList, argTypes.toList with
    | [x, y], [t, t'] => bif Nat.beq t t' then
      (match tget C.T t, rowsOf (ev C.GL env y) with
      | some it, some news => match it.u with
        | .sl e => match tget C.T e with
          | some ie => match ev C.GL env x with
            | .osl p rows => match nth H p with
              | some (.tok e' sz') => bif Nat.beq e e' && Nat.beq ie.size sz' then (match dgH [p] H with | some H' => some ⟨d, p, false, rows, news, ie.size, ie.bytes, H'⟩ | none => none) else none
              | _ => none
            | .full rows => match pushH H (.tok e ie.size) with
              | some (n, H') => some ⟨d, n, true, rows, news, ie.size, ie.bytes, H'⟩
              | none => none
            | _ => none
          | none => none
        | _ => none
      | _, _ => none) else none
    | _, _ => none
  | _, _, _ => none

theorem run_append_op {P : Program} {ρ : Operand → Value} {o : Oper} {x y : Operand} {t t' : TypeId} {args : Array Operand} {ts : Array TypeId} (ho : o.op = .call { callee := .builtin .append, args := args, argTypes := ts }) (ha : args.toList = [x, y]) (ht : ts.toList = [t, t']) {w w' : World} {v : Value}
    (h : (Builtin.append_ #[t, t'] o.type #[ρ x, ρ y]).run P w = .ok v w') : (execOp ρ o).run P w = .ok (.value v) w' := by
  obtain rfl : args = #[x, y] := by rw [← Array.toArray_toList (xs := args), ha]
  obtain rfl : ts = #[t, t'] := by rw [← Array.toArray_toList (xs := ts), ht]
  unfold execOp
  simp [ho, resolve, invoke, builtin, h]

theorem tok_of_full {M : Mem} {G : Nat → Value} {w : World} {rows : List Row} {v : Value} (h : RelD M (.sl rows) v) (hf : isFull v) (e sz : Nat) : ObRel M G w (.tok e sz) v ∧ ∀ b, blk (.tok e sz) v ≠ some b := by
  cases h with
  | slnil => exact ⟨.inl rfl, fun b hb => by simp [blk] at hb⟩
  | sl sz' vals hl hc hm hs hz h1 h2 =>
    rename_i a len cap
    have hf' : len = cap := hf
    subst hf'
    exact ⟨.inr ⟨a, len, len, rfl, hs, Nat.le_refl _, hm, fun hlt => absurd hlt (Nat.lt_irrefl _)⟩, fun b hb => by simp [blk] at hb⟩

theorem AOps.a {F : Fx} (hC : CxOk F.C) {L l : List Oper} {o : Oper} {env : Env} {H : Heap} {Q : Env → Heap → Prop} {d : Option Nat} {p : Nat} {nw : Bool} {rows news : List Row} {sz bytes : Nat} {H' : Heap}
    (h : stepP F.C L o env H = some ⟨d, p, nw, rows, news, sz, bytes, H'⟩) (h1 : ∀ r ∈ rows, r.length = sz) (h2 : ∀ r ∈ news, r.length = sz) (h3 : (rows.length + news.length) * (bytes + 1) ≤ 140737488355328)
    (k : AOps F L l (put (bif nw then env else fun t => dg [p] (env t)) d (.osl p (rows ++ news))) H' Q) : AOps F L (o :: l) env H Q := by
  unfold stepP at h
  split at h
  · rename_i args ts dd hw ho hd
    split at h
    · rename_i x y t t' ha ht
      cases hb : Nat.beq t t' with
      | false => rw [hb] at h; cases h
      | true =>
        rw [hb] at h
        obtain rfl := Nat.eq_of_beq_eq_true hb
        simp only [cond_true] at h
        split at h
        · rename_i it news' hit hnews
          split at h
          · rename_i e hu
            split at h
            · rename_i ie hie
              have hmem : x ∈ o.op.operands ∧ y ∈ o.op.operands := by
                rw [ho]
                obtain rfl : args = #[x, y] := by rw [← Array.toArray_toList (xs := args), ha]
                simp [Op.operands, Call.operands]
              have hlen : (rows.length + news.length) * bytes ≤ 140737488355328 ∧ rows.length + news.length ≤ maxLen := by
                have : (rows.length + news.length) * (bytes + 1) = (rows.length + news.length) * bytes + (rows.length + news.length) := Nat.mul_succ _ _
                unfold maxLen
                omega
              split at h
              · rename_i q rows' hx
                split at h
                · rename_i e' sz' hq
                  cases hbb : Nat.beq e e' && Nat.beq ie.size sz' with
                  | false => rw [hbb] at h; cases h
                  | true =>
                    rw [hbb] at h
                    simp only [Bool.and_eq_true] at hbb
                    obtain rfl := Nat.eq_of_beq_eq_true hbb.1
                    obtain rfl := Nat.eq_of_beq_eq_true hbb.2
                    simp only [cond_true] at h
                    split at h
                    · rename_i H2 hH
                      simp only [Option.some.injEq, Ap.mk.injEq] at h
                      obtain ⟨rfl, rfl, rfl, rfl, rfl, rfl, rfl, rfl⟩ := h
                      refine aops_step hw fun fr M G w a K Qw hK hdok hs hsi hk => ?_
                      have hxr := hs.eval x
                      rw [hx] at hxr
                      generalize hxv : a.eval x = xv at hxr
                      cases hxr
                      rename_i hgq hrd
                      rw [nth_eq] at hq
                      have htok : Tok M w e ie.size xv := by have := hs.hrel.obj _ _ hq; rw [hgq] at this; exact this
                      obtain ⟨v', w', M', r1, r2, r3, r4, r5, r6⟩ := append_core (ty := o.type) hC.tok hs.good hit hu hie hrd (rowsOf_rel hnews (hs.eval y)) htok h1 h2 hlen.1 hlen.2
                      unfold Oper.wp
                      rw [run_append_op ho ha ht (by rw [hxv]; exact r1)]
                      have e1 := dgH_eq hH
                      subst e1
                      rw [← hgq] at r5 r6
                      refine hk (.osl q (rows' ++ news')) (fun t => dg [q] (env t)) _ M' (updG G q v') w' v' ?_ (hs.turnTok (dstOk_spec hdok) hq r5 r4 r3 r6 (.osl r2 updG_same) rfl rfl) (hsi.turnTok hq r5 r6)
                      rw [dstF_eq hd]
                      exact k
                    · cases h
                · cases h
              · rename_i rows' hx
                split at h
                · rename_i n H2 hH
                  simp only [Option.some.injEq, Ap.mk.injEq] at h
                  obtain ⟨rfl, rfl, rfl, rfl, rfl, rfl, rfl, rfl⟩ := h
                  obtain ⟨rfl, rfl⟩ := pushH_eq hH
                  refine aops_step hw fun fr M G w a K Qw hK hdok hs hsi hk => ?_
                  have hxr := hs.eval x
                  rw [hx] at hxr
                  generalize hxv : a.eval x = xv at hxr
                  cases hxr
                  rename_i hfull hrd
                  obtain ⟨t1, t2⟩ := tok_of_full (G := fun _ => .tuple #[]) (w := w) hrd hfull e ie.size
                  obtain ⟨v', w', M', r1, r2, r3, r4, r5, r6⟩ := append_core (ty := o.type) hC.tok hs.good hit hu hie hrd (rowsOf_rel hnews (hs.eval y)) t1 h1 h2 hlen.1 hlen.2
                  unfold Oper.wp
                  rw [run_append_op ho ha ht (by rw [hxv]; exact r1)]
                  have r5' : Ext none' M w M' w' := r5.weaken fun b hb => absurd hb (t2 b)
                  have r6' : ∀ b, blk (.tok e ie.size) v' = some b → w.heap.size ≤ b := fun b hb => (r6 b hb).resolve_left (t2 b)
                  refine hk (.osl H.length (rows' ++ news')) env _ M' (updG G H.length v') w' v' ?_ (hs.newTok (dstOk_spec hdok) r5' r4 r3 r6' (.osl r2 updG_same)) (hsi.newTok r5' r6')
                  rw [dstF_eq hd]
                  exact k
                · cases h
              · cases h
            · cases h
          · cases h
        · cases h
    · cases h
  · cases h

/-! ### a slice that is full gets its room -/

end Go.Am

